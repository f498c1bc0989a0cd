/- WHAT IT HOLDS: the bytes of a run of cells, plainly (no program). | WHAT IT HOLDS: the document's bytes of a run, plainly, are the same (no program). | WHAT IT HOLDS: append as a step of a region that draws. | WHAT IT HOLDS: what the functions of the package varint compute, walked. | WHAT IT HOLDS: what the document's functions of layer 1 compute, walked. | WHAT IT HOLDS: arguments opened to the words of Kit (bytes, numbers, integers); over any program. | WHAT IT HOLDS: how many bits and bytes a number has, plainly (no program). | WHAT IT HOLDS: Size, and the document's bytes of texts and lists, walked. | WHAT IT HOLDS: words for a reader in memory, and what its methods do, plainly. -/
import Derived.Test.YtgfigkenpmmdeaaManifestTakesG01
import Derived.Deep.RegionHeld3
import Derived.Deep.DrawnRows
import Derived.Deep.DeepCutAuto
import Derived.Test.YtgfigkenpmmdeaaRows
import Derived.Deep.RegionWith
import Derived.ProofKit
import Derived.OpenShut
import Derived.ChangeOld
import Derived.Lib.SmallJoins
import Derived.Test.YtgfigkenpmmdeaaShelf
namespace Go.Proofs.Ytgfigkenpmmdeaa
open Go.RowKit

/-- how many first bytes two texts have in common -/
def cpl : List UInt8 → List UInt8 → Nat
  | x :: a, y :: b => if x = y then cpl a b + 1 else 0
  | _, _ => 0
theorem cpl_le : ∀ a b, cpl a b ≤ a.length ∧ cpl a b ≤ b.length
  | [], b => by simp [cpl]
  | x :: a, [] => by simp [cpl]
  | x :: a, y :: b => by
    have := cpl_le a b
    unfold cpl
    split <;> simp <;> omega
theorem cpl_next : ∀ (a b : List UInt8) (k : Nat), k ≤ a.length → k ≤ b.length → a.take k = b.take k → cpl a b = k + cpl (a.drop k) (b.drop k)
  | a, b, 0, _, _, _ => by simp
  | x :: a, y :: b, k + 1, ha, hb, h => by
    simp only [List.take_succ_cons, List.cons.injEq] at h
    obtain ⟨rfl, h⟩ := h
    have := cpl_next a b k (by simpa using ha) (by simpa using hb) h
    simp only [List.drop_succ_cons]
    rw [cpl, if_pos rfl, this]
    omega
theorem cpl_take : ∀ (a b : List UInt8), a.take (cpl a b) = b.take (cpl a b)
  | [], b => by simp [cpl]
  | x :: a, [] => by simp [cpl]
  | x :: a, y :: b => by
    unfold cpl
    split
    · rename_i h
      subst h
      simp [cpl_take a b]
    · simp
theorem cpl_stop {a b : List UInt8} (h : a = [] ∨ b = [] ∨ a.head? ≠ b.head?) : cpl a b = 0 := by
  rcases a with _ | ⟨x, a⟩
  · simp [cpl]
  · rcases b with _ | ⟨y, b⟩
    · simp [cpl]
    · simp at h
      simp [cpl, h]
theorem cpl_end {a b : List UInt8} {k : Nat} (ha : k ≤ a.length) (hb : k ≤ b.length) (h : a.take k = b.take k) (hs : k = a.length ∨ k = b.length ∨ ∃ (h1 : k < a.length) (h2 : k < b.length), a[k] ≠ b[k]) : cpl a b = k := by
  have hst : List.drop k a = [] ∨ List.drop k b = [] ∨ (List.drop k a).head? ≠ (List.drop k b).head? := by
    rcases hs with rfl | rfl | ⟨h1, h2, h3⟩
    · exact .inl (by simp)
    · exact .inr (.inl (by simp))
    · refine .inr (.inr ?_)
      rw [List.head?_drop, List.head?_drop, List.getElem?_eq_getElem h1, List.getElem?_eq_getElem h2]
      simpa using h3
  rw [cpl_next a b k ha hb h, cpl_stop hst]
  rfl

/-- of kind k, and no data: how many of the first ones -/
def rowGo (k : Int) : List Ce → Nat
  | [] => 0
  | c :: r => if c.1 ≠ 1 ∧ c.1 = k then rowGo k r + 1 else 0
def rowN : List Ce → Nat
  | [] => 0
  | c :: r => rowGo c.1 (c :: r)
theorem rowGo_le (k : Int) : ∀ l, rowGo k l ≤ l.length
  | [] => by simp [rowGo]
  | c :: r => by
    have := rowGo_le k r
    unfold rowGo
    split <;> simp <;> omega
theorem rowN_le (l : List Ce) : rowN l ≤ l.length := by
  cases l
  · simp [rowN]
  · exact rowGo_le _ _
theorem rowGo_end {k : Int} : ∀ {l : List Ce} {n : Nat}, n ≤ l.length → (∀ j (h : j < l.length), j < n → l[j].1 ≠ 1 ∧ l[j].1 = k) → (n = l.length ∨ ∃ h : n < l.length, ¬ (l[n].1 ≠ 1 ∧ l[n].1 = k)) → rowGo k l = n
  | [], n, hn, _, _ => by simp at hn; subst hn; rfl
  | c :: r, 0, _, _, hs => by
    rcases hs with h | ⟨h, hc⟩
    · simp at h
    · simp only [List.getElem_cons_zero] at hc
      unfold rowGo
      rw [if_neg hc]
  | c :: r, n + 1, hn, ha, hs => by
    have h0 := ha 0 (by simp) (by omega)
    simp only [List.getElem_cons_zero] at h0
    unfold rowGo
    rw [if_pos h0, rowGo_end (n := n) (by simpa using hn) (fun j h hj => by have := ha (j + 1) (by simpa using h) (by omega); simp only [List.getElem_cons_succ] at this; exact this)]
    rcases hs with h | ⟨h, hc⟩
    · exact .inl (by simpa using h)
    · exact .inr ⟨by simpa using h, by simp only [List.getElem_cons_succ] at hc; exact hc⟩
/-- the first error -/
def rchk : List Ce → Nat
  | [] => 0
  | c :: r => if cchk c ≠ 0 then cchk c else rchk r
theorem rchk_ok {l : List Ce} (h : ∀ c ∈ l, cchk c = 0) : rchk l = 0 := by
  induction l with
  | nil => rfl
  | cons c r ih =>
    unfold rchk
    rw [if_neg (by simpa using h c (by simp))]
    exact ih fun x hx => h x (by simp [hx])
theorem rchk_at : ∀ {l : List Ce} {k : Nat} (hk : k < l.length), (∀ c ∈ l.take k, cchk c = 0) → cchk l[k] ≠ 0 → rchk l = cchk l[k]
  | c :: r, 0, _, _, h => by
    unfold rchk
    simp only [List.getElem_cons_zero] at h ⊢
    rw [if_pos h]
  | c :: r, k + 1, hk, h, h2 => by
    have h0 := h c (by simp)
    unfold rchk
    rw [if_neg (by simpa using h0)]
    simp only [List.getElem_cons_succ] at h2 ⊢
    exact rchk_at (by simpa using hk) (fun x hx => h x (by simp [hx])) h2

/-- the bytes of a run, without its length, behind the data 'last' -/
def prun (last : List UInt8) : List Ce → List UInt8
  | [] => []
  | c :: r => if 0 < rowN (c :: r) then vb (rowN (c :: r)) ++ vb c.1.toNat ++ prun last ((c :: r).drop (rowN (c :: r)))
    else vb 0 ++ vb c.2.length ++ vb (cpl last c.2) ++ c.2.drop (cpl last c.2) ++ prun c.2 r
  termination_by l => l.length
  decreasing_by
    · simp only [List.length_drop, List.length_cons]; omega
    · simp
theorem prun_row {last : List UInt8} {l : List Ce} (h : 0 < rowN l) : ∃ k : Int, (∃ r d, l = (k, d) :: r) ∧ prun last l = vb (rowN l) ++ vb k.toNat ++ prun last (l.drop (rowN l)) := by
  cases l with
  | nil => simp [rowN] at h
  | cons c r =>
    refine ⟨c.1, ⟨r, c.2, rfl⟩, ?_⟩
    rw [prun, if_pos h]
theorem prun_data {last : List UInt8} {c : Ce} {r : List Ce} (h : rowN (c :: r) = 0) : prun last (c :: r) = vb 0 ++ vb c.2.length ++ vb (cpl last c.2) ++ c.2.drop (cpl last c.2) ++ prun c.2 r := by
  rw [prun, if_neg (by omega)]
theorem rowN_zero {c : Ce} {r : List Ce} : rowN (c :: r) = 0 ↔ c.1 = 1 := by
  unfold rowN rowGo
  by_cases h : c.1 = 1
  · simp [h]
  · simp [h]
end Go.Proofs.Ytgfigkenpmmdeaa

namespace Go.Proofs.Ytgfigkenpmmdeaa
open Go.RowKit

theorem cpl_comm : ∀ a b, cpl a b = cpl b a
  | [], [] => rfl
  | [], y :: b => rfl
  | x :: a, [] => rfl
  | x :: a, y :: b => by
    unfold cpl
    by_cases h : x = y
    · subst h; rw [if_pos rfl, if_pos rfl, cpl_comm a b]
    · rw [if_neg h, if_neg (fun e => h e.symm)]
abbrev b1 (n : Nat) : UInt8 := UInt8.ofNat n
/-- cell by cell, the kind of the one ahead known -/
def rgo (prev : Option Int) (last : List UInt8) : List Ce → List UInt8
  | [] => []
  | c :: r => if c.1 = 1 then [0, b1 c.2.length, b1 (cpl c.2 last)] ++ c.2.drop (cpl c.2 last) ++ rgo (some 1) c.2 r
    else if prev = some c.1 then rgo (some c.1) last r else [b1 (rowGo c.1 (c :: r)), b1 c.1.toNat] ++ rgo (some c.1) last r
theorem rgo_skip {k : Int} (hk : k ≠ 1) (last : List UInt8) : ∀ l : List Ce, rgo (some k) last l = rgo (some k) last (l.drop (rowGo k l))
  | [] => by simp
  | c :: r => by
    by_cases h : c.1 = k
    · have h1 : c.1 ≠ 1 := by omega
      rw [rowGo, if_pos ⟨h1, h⟩, List.drop_succ_cons, rgo, if_neg h1, if_pos (by rw [h]), h]
      exact rgo_skip hk last r
    · rw [rowGo, if_neg (fun e => h e.2), List.drop_zero]
theorem rowGo_stop (k : Int) : ∀ (l : List Ce) (c : Ce) (r : List Ce), l.drop (rowGo k l) = c :: r → ¬ (c.1 ≠ 1 ∧ c.1 = k)
  | [], c, r, h => by simp at h
  | x :: l, c, r, h => by
    by_cases hx : x.1 ≠ 1 ∧ x.1 = k
    · rw [rowGo, if_pos hx, List.drop_succ_cons] at h
      exact rowGo_stop k l c r h
    · rw [rowGo, if_neg hx, List.drop_zero] at h
      injection h with h1 h2
      subst h1
      exact hx
theorem rgo_prev {prev : Option Int} (last : List UInt8) {l : List Ce} (h : ∀ c r, l = c :: r → c.1 = 1 ∨ prev ≠ some c.1) : rgo prev last l = rgo none last l := by
  cases l with
  | nil => simp [rgo]
  | cons c r =>
    rw [rgo, rgo]
    by_cases h1 : c.1 = 1
    · rw [if_pos h1, if_pos h1]
    · have h2 := (h c r rfl).resolve_left h1
      rw [if_neg h1, if_neg h1, if_neg h2, if_neg (by simp)]
theorem rgo_prun : ∀ (n : Nat) (l : List Ce) (last : List UInt8), l.length ≤ n → l.length ≤ 64 → (∀ c ∈ l, cchk c = 0) → last.length ≤ 64 → rgo none last l = prun last l
  | _, [], last, _, _, _, _ => by rw [rgo, prun]
  | 0, c :: r, _, h, _, _, _ => by simp at h
  | n + 1, c :: r, last, hn, h64, hok, hl => by
    have hc := cchk_ok (hok c (by simp))
    have hcl := cpl_le last c.2
    simp only [List.length_cons] at hn h64
    by_cases h1 : c.1 = 1
    · rw [rgo, if_pos h1, prun_data (rowN_zero.2 h1), vb_small (by omega), vb_small (n := c.2.length) (by omega), vb_small (n := cpl last c.2) (by omega), cpl_comm c.2 last]
      rw [rgo_prev (prev := some 1) c.2 (fun x r' h => by
        by_cases hx : x.1 = 1
        · exact .inl hx
        · exact .inr (fun e => hx (by injection e with e; omega)))]
      rw [rgo_prun n r c.2 (by omega) (by omega) (fun x hx => hok x (by simp [hx])) (by omega)]
      rfl
    · have hrow : rowN (c :: r) = rowGo c.1 (c :: r) := rfl
      have hpos : 0 < rowN (c :: r) := by
        have := rowN_zero (c := c) (r := r)
        omega
      have hle := rowN_le (c :: r)
      simp only [List.length_cons] at hle
      obtain ⟨k, ⟨r', d, hk⟩, hp⟩ := prun_row (last := last) hpos
      injection hk with hk1 hk2
      have hkc : k = c.1 := by rw [hk1]
      subst hkc
      rw [hp, rgo, if_neg h1, if_neg (by simp), vb_small (n := rowN (c :: r)) (by omega), vb_small (n := c.1.toNat) (by omega), ← hrow]
      have hskip := rgo_skip h1 last r
      have hd : (c :: r).drop (rowN (c :: r)) = r.drop (rowGo c.1 r) := by
        rw [hrow, rowGo, if_pos ⟨h1, rfl⟩, List.drop_succ_cons]
      rw [hskip, hd, rgo_prev (prev := some c.1) last (fun x r' h => by
        have := rowGo_stop c.1 r x r' h
        by_cases hx : x.1 = 1
        · exact .inl hx
        · exact .inr (fun e => this ⟨hx, by injection e with e; exact e.symm⟩))]
      rw [rgo_prun n (r.drop (rowGo c.1 r)) last (by simp; omega) (by simp; omega) (fun x hx => hok x (by simp [List.mem_of_mem_drop hx])) hl]
      rfl
end Go.Proofs.Ytgfigkenpmmdeaa

namespace Go.Proofs.Ytgfigkenpmmdeaa
open Go.RowKit

theorem step_append {P : Program} {w : World} {ops : Array Oper} {o : Oper} {a : Act} {K : Act → World → Prop} {Q : Exit → Act → World → Prop} {E : Prop} (hw : Region.wanted o (yielded ops a.tmps) = true) (s x : Operand) (t : TypeId)
    (ho : o.op = .call { callee := .builtin .append, args := #[s, x], argTypes := #[t, t] })
    (base : Nat) (e : TypeId) (i : TypeInfo) (z : Value) (size bytes : Nat) (ht : P.underlying t = some (.slice e)) (hi : P.info? e = some i) (hz : i.zero = some z)
    (hsize : i.size = size) (hby : i.bytes = bytes) (hzs : z.cells.size = size) (hsz : 0 < size)
    (A : Option Addr) (n c : Nat) (xs : List Value) (hs : a.eval s = .slice A n c) (hown : Own w base e size A n c xs)
    (A2 : Option Addr) (m c2 : Nat) (news : List Value) (hx : a.eval x = .slice A2 m c2) (hr : Sl w size A2 m c2 news) (h1 : ∀ u ∈ news, u.oneCell' = true)
    (hbytes : (n + m) * bytes ≤ 140737488355328) (hmax : n + m ≤ maxLen) (hbase : base ≤ w.heap.size)
    (h : ∀ A' c' w', Appd w w' base e size A A' (n + m) c' (xs ++ news) → K (a.put o.dst (.slice A' (n + m) c')) w') :
    if Region.wanted o (yielded ops a.tmps) = true then Oper.wp P o a w K Q else E := by
  rw [if_pos hw]
  obtain ⟨A', c', w', hrun, h2⟩ := run_append_rd (P := P) w base t o.type e i z size bytes ht hi hz hsize hby hzs hsz A n c xs hown A2 m c2 news hr h1 hbytes hmax hbase
  unfold Oper.wp execOp
  simp only [ho, resolve, invoke, builtin, Sem.run_bind, Sem.run_pure, Result.andThen_ok, List.map_toArray, List.map_cons, List.map_nil, hs, hx, hrun]
  exact h A' c' w' h2
/-- append of bytes at a step of a region that draws -/
theorem step_bytes {P : Program} {w : World} {ops : Array Oper} {o : Oper} {a : Act} {K : Act → World → Prop} {Q : Exit → Act → World → Prop} {E : Prop} (t e : TypeId) (ht : P.underlying t = some (.slice e))
    (hinfo : (P.info? e).map (fun i => (i.zero, i.size, i.bytes)) = some (some (.int .u8 0), 1, 1)) (hw : Region.wanted o (yielded ops a.tmps) = true) (s x : Operand)
    (ho : o.op = .call { callee := .builtin .append, args := #[s, x], argTypes := #[t, t] })
    (base : Nat) (A : Option Addr) (c : Nat) (l : List UInt8) (hs : a.eval s = .slice A l.length c) (hown : OwnB w base e A c l)
    (A2 : Option Addr) (c2 n2 : Nat) (l2 : List UInt8) (hn2 : n2 = l2.length) (hx : a.eval x = .slice A2 n2 c2) (hr : SlB w A2 c2 l2)
    (hlen : l.length + l2.length ≤ 140737488355328) (hbase : base ≤ w.heap.size)
    (h : ∀ A' c' (m : List UInt8) w', Hid (m = l ++ l2) → OwnB w' base e A' c' m → Below base w w' → K (a.put o.dst (.slice A' m.length c')) w') :
    if Region.wanted o (yielded ops a.tmps) = true then Oper.wp P o a w K Q else E := by
  subst hn2
  obtain ⟨i0, hi, hz0, hz1, hz2⟩ := info_parts hinfo
  refine step_append hw s x t ho base e i0 (.int .u8 0) 1 1 ht hi hz0 hz1 hz2 rfl (by decide) A l.length c (bvs l) hs hown A2 l2.length c2 (bvs l2) hx hr (one_bvs l2) (by omega) (by simp only [maxLen]; omega) hbase ?_
  intro A' c' w' hap
  rw [← List.length_append]
  refine h A' c' (l ++ l2) w' rfl ?_ (hap.below hown hbase)
  have := hap.own
  simpa [OwnB] using this
/-- append of bytes under a guard that is met -/
theorem wpg_bytes {P : Program} {w : World} {ops : Array Oper} {rest : List Oper} {o : Oper} {a : Act} {Q : Exit → Act → World → Prop} (t e : TypeId) (ht : P.underlying t = some (.slice e))
    (hinfo : (P.info? e).map (fun i => (i.zero, i.size, i.bytes)) = some (some (.int .u8 0), 1, 1)) (hw : Region.wanted o (yielded ops a.tmps) = true) (s x : Operand)
    (ho : o.op = .call { callee := .builtin .append, args := #[s, x], argTypes := #[t, t] })
    (base : Nat) (A : Option Addr) (c : Nat) (l : List UInt8) (hs : a.eval s = .slice A l.length c) (hown : OwnB w base e A c l)
    (A2 : Option Addr) (c2 : Nat) (l2 : List UInt8) (hx : a.eval x = .slice A2 l2.length c2) (hr : SlB w A2 c2 l2)
    (hlen : l.length + l2.length ≤ 140737488355328) (hbase : base ≤ w.heap.size)
    (h : ∀ A' c' (m : List UInt8) w', Hid (m = l ++ l2) → OwnB w' base e A' c' m → Below base w w' → wpList P ops Q rest (a.put o.dst (.slice A' m.length c')) w') : wpList P ops Q (o :: rest) a w :=
  wpList_step fun _ hK => step_bytes t e ht hinfo hw s x ho base A c l hs hown A2 c2 l2.length l2 rfl hx hr hlen hbase fun A' c' m w' h1 h2 h3 => hK _ _ (h A' c' m w' h1 h2 h3)
/-- 'append([]byte{}, x...)' under a guard that is met -/
theorem wpg_fresh {P : Program} {w : World} {ops : Array Oper} {rest : List Oper} {o : Oper} {a : Act} {Q : Exit → Act → World → Prop} (t e : TypeId) (ht : P.underlying t = some (.slice e))
    (hinfo : (P.info? e).map (fun i => (i.zero, i.size, i.bytes)) = some (some (.int .u8 0), 1, 1)) (hw : Region.wanted o (yielded ops a.tmps) = true) (s x : Operand)
    (ho : o.op = .call { callee := .builtin .append, args := #[s, x], argTypes := #[t, t] })
    (hs : a.eval s = .slice (some ⟨w.heap.size, 0, none⟩) 0 0) (A2 : Option Addr) (c2 : Nat) (l2 : List UInt8) (hx : a.eval x = .slice A2 l2.length c2) (hr : SlB w A2 c2 l2) (hlen : l2.length ≤ 140737488355328)
    (h : ∀ A' c' (m : List UInt8) w', Hid (m = l2) → OwnB w' w.heap.size e A' c' m → Below w.heap.size w w' → wpList P ops Q rest (a.put o.dst (.slice A' m.length c')) w') : wpList P ops Q (o :: rest) a (w.alloc (.cells #[] e)) := by
  refine wpg_bytes t e ht hinfo hw s x ho w.heap.size (some ⟨w.heap.size, 0, none⟩) 0 [] hs (Own.lit 1 (Nat.le_refl _)) A2 c2 l2 hx (hr.below (below_new _ _)) (by simpa using hlen) (by simp) ?_
  intro A' c' m w' hm ho' hb
  exact h A' c' m w' hm ho' ((below_new _ _).trans hb)
end Go.Proofs.Ytgfigkenpmmdeaa

namespace Go.Proofs.Ytgfigkenpmmdeaa
open Go.RowKit

theorem u8_info : (Try.prog.info? 5).map (fun i => (i.zero, i.size, i.bytes)) = some (some (.int .u8 0), 1, 1) := by kernel_rfl

/-- new bytes -/
def GivesB (w0 : World) (l : List UInt8) (e : Ending) (w' : World) : Prop :=
  ∃ A c m, e = .returned (.slice A m.length c) ∧ Hid (m = l) ∧ OwnB w' w0.heap.size 5 A c m ∧ Below w0.heap.size w0 w'

set_option maxRecDepth 100000 in
set_option maxHeartbeats 400000 in
theorem put_any (A : Option Addr) (c : Nat) (l : List UInt8) (n : Nat) (hn : U64 n) (w : World) (base : Nat) (hbase : base ≤ w.heap.size) (hl : l.length ≤ 1000000000)
   (hown : OwnB w base 5 A c l) :
    Calls Try.prog 59 #[.slice A l.length c, .int .u64 n] w fun e w' => ∃ A' c' m, e = .returned (.slice A' m.length c') ∧ Hid (m = l ++ vb n) ∧ OwnB w' base 5 A' c' m ∧ Below base w w' := by
  go_enter Try.func59, Try.ntmps59
  go_wp2
  go_loopw [0, 1] (fun v x wr => ∃ (k : Nat) (B : Option Addr) (d : Nat) (m : List UInt8), x = .int .u64 k ∧ v = .slice B m.length d ∧ Hid (l ++ vb n = m ++ vb k) ∧ Hid (U64 k) ∧ OwnB wr base 5 B d m ∧ Below base w wr) (fun v x w => (intOf x).toNat)
  case atStart => exact ⟨n, A, c, l, rfl, rfl, rfl, hn, hown, Below.refl _ _⟩
  case round =>
    obtain ⟨k, B, d, m, rfl, rfl, hm, hk, hownr, hbr⟩ := hrel
    have hml : m.length ≤ 1000000010 := by
      have h1 := congrArg List.length hm.out
      have h2 := vb_le10 hn
      simp only [List.length_append] at h1
      omega
    clear hown
    by_cases h128 : 128 ≤ k
    · have hs := Lib.hid (vb_step h128)
      go_wp2_with (at_builtin; go_must (refine wpl_byte 22 5 Try.underlying22 u8_info rfl _ _ rfl base B d m _ (UInt8.ofNat (k % 128 + 128)) (byte_more k) rfl hownr rfl (by omega) (by have := hbr.size; omega) ?_; intro A1 c1 m1 w1 hm1 ho1 _ _ hb1))
      go_roundw
      case rel => exact ⟨k / 128, A1, c1, m1, rfl, rfl, by rw [hm1.out, hm.out, hs.out]; show _ = _; simp, hk.out.div 128, ho1, hbr.trans hb1⟩
      case measure => simp [intOf]; omega
    · have hs := Lib.hid (vb_small (n := k) (by omega))
      go_wp2_with (at_builtin; go_must (refine wpl_byte 22 5 Try.underlying22 u8_info rfl _ _ rfl base B d m _ (UInt8.ofNat k) (byte_last (by omega)) rfl hownr rfl (by omega) (by have := hbr.size; omega) ?_; intro A1 c1 m1 w1 hm1 ho1 _ _ hb1))
      go_ret
      exact ⟨A1, c1, m1, rfl, by rw [hm1.out, hm.out, hs.out]; rfl, ho1, hbr.trans hb1⟩

set_option maxRecDepth 100000 in
set_option maxHeartbeats 400000 in
theorem clone_any (A : Option Addr) (c : Nat) (l : List UInt8) (w : World) (hl : l.length ≤ 1000000000) (hs : SlB w A c l) :
    Calls Try.prog 58 #[.slice A l.length c] w (GivesB w l) := by
  have hq := fun (w : World) (A : Option Addr) (n c : Nat) => Lib.run_eql_slice_nil (P := Try.prog) w 22 5 A n c 0 0 Try.underlying22
  rcases A with _ | ad
  · obtain ⟨rfl, rfl⟩ := hs.of_none
    go_enter Try.func58, Try.ntmps58
    go_wp2
    go_ret
    exact ⟨none, 0, [], rfl, rfl, Own.none_ _ _ _ _, Below.refl _ _⟩
  · go_enter Try.func58, Try.ntmps58
    go_wp2_with (at_builtin; go_must (refine wpl_bytes 22 5 Try.underlying22 u8_info rfl _ _ rfl w.heap.size (some ⟨w.heap.size, 0, none⟩) 0 [] rfl (Own.lit 1 (Nat.le_refl _)) (some ad) c l rfl (hs.below ((Below.refl _ _).alloc (Nat.le_refl _) _)) (by simp; omega) (by simp) ?_; intro A1 c1 m1 w1 hm1 ho1 _ _ hb1))
    go_ret
    exact ⟨A1, c1, m1, rfl, hm1, ho1, ((Below.refl _ _).alloc (Nat.le_refl _) _).trans hb1⟩

theorem u64_info : (Try.prog.info? 62).map (fun i => (i.zero, i.size, i.bytes)) = some (some (.int .u64 0), 1, 8) := by kernel_rfl
abbrev nv (n : Nat) : Value := .int .u64 (n : Int)
/-- numbers of 64 bits that can be read -/
abbrev SlN (w : World) (A : Option Addr) (c : Nat) (l : List Nat) : Prop := Sl w 1 A l.length c (l.map nv)

set_option maxRecDepth 100000 in
set_option maxHeartbeats 400000 in
theorem Put_any (A : Option Addr) (c : Nat) (l : List UInt8) (A2 : Option Addr) (c2 : Nat) (ns : List Nat) (w : World) (hl : l.length ≤ 100000000) (hs : SlB w A c l) (hn : SlN w A2 c2 ns) (hns : ns.length ≤ 1000000) (h64 : ∀ n ∈ ns, U64 n) :
    Calls Try.prog 43 #[.slice A l.length c, .slice A2 ns.length c2] w (GivesB w (l ++ vbs ns)) := by
  have hmax := hn.len_le
  unfold maxLen at hmax
  go_enter Try.func43, Try.ntmps43
  go_wp2_with fail
  refine (clone_any A c l w (by omega) hs).mono ?_
  rintro e w1 ⟨A1, c1, m1, rfl, hm1, ho1, hb1⟩
  have hn1 := hn.below hb1
  have hml : m1.length ≤ 100000000 := by rw [hm1.out]; exact hl
  go_wp2_with fail
  go_loopw [5, 12] (fun v x wr => ∃ (k : Nat) (B : Option Addr) (d : Nat) (m : List UInt8), k ≤ ns.length ∧ x = .int .i64 k ∧ v = .slice B m.length d ∧ Hid (m = l ++ vbs (ns.take k)) ∧ OwnB wr w.heap.size 5 B d m ∧ Below w.heap.size w wr) (fun v x w => ns.length - (intOf x).toNat)
  case atStart => exact ⟨0, A1, c1, m1, Nat.zero_le _, rfl, rfl, by rw [hm1.out]; show _ = _; simp [vbs], ho1, hb1⟩
  case round =>
    obtain ⟨k, B, d, m, hk, rfl, rfl, hm, hor, hbr⟩ := hrel
    by_cases hlt : k < ns.length
    · obtain ⟨ad, rfl, hc⟩ := (hn.below hbr).at1 hlt
      have hml : m.length ≤ 200000000 := by
        have h2 := vbs_le (l := ns.take k) (fun n hn => h64 n (List.mem_of_mem_take hn))
        have h3 := congrArg List.length hm.out
        simp only [List.length_append, List.length_take] at h3 h2
        omega
      go_wp2_with fail
      refine (put_any B d m ns[k] (h64 _ (List.getElem_mem hlt)) _ w.heap.size hbr.size (by omega) hor).mono ?_
      rintro e w2 ⟨A2, c2, m2, rfl, hm2, ho2, hb2⟩
      go_wp2_with fail
      go_roundw
      case rel => exact ⟨k + 1, A2, c2, m2, hlt, by go_num, rfl, by rw [hm2.out, hm.out, vbs_snoc hlt]; show _ = _; simp, ho2, hbr.trans hb2⟩
      case measure => simp [intOf]; omega
    · go_wp2_with fail
      go_ret
      exact ⟨B, d, m, rfl, by rw [hm.out, List.take_of_length_le (by omega)]; rfl, hor, hbr⟩

set_option maxRecDepth 100000 in
set_option maxHeartbeats 400000 in
theorem PutText_any (A : Option Addr) (c : Nat) (l : List UInt8) (A2 : Option Addr) (c2 : Nat) (t : List UInt8) (w : World) (hl : l.length ≤ 10000000) (hs : SlB w A c l) (hn : SlB w A2 c2 t) (hns : t.length ≤ 10000000) :
    Calls Try.prog 63 #[.slice A l.length c, .slice A2 t.length c2] w (GivesB w (l ++ (vb t.length ++ t))) := by
  have hu : U64 t.length := by unfold U64; omega
  go_enter Try.func63, Try.ntmps63
  go_wp2_with fail
  have hs0 := hs.below (below_new w (Obj.cells #[Value.int IntKind.u64 t.length] 62))
  have hn0 := hn.below (below_new w (Obj.cells #[Value.int IntKind.u64 t.length] 62))
  refine (Put_any A c l (some ⟨w.heap.size, 0, none⟩) 1 [t.length] _ (by omega) hs0 (Sl.lits w [nv t.length] 62 (by simp [maxLen])) (by simp) (by simpa using hu)).mono ?_
  rintro e w1 ⟨A1, c1, m1, rfl, hm1, ho1, hb1⟩
  have hb1' := (below_new w (Obj.cells #[Value.int IntKind.u64 t.length] 62)).trans (hb1.mono (size_new _ _))
  have hml : m1.length ≤ 10000010 := by
    rw [hm1.out]
    have := vb_le10 hu
    simp [vbs]
    omega
  go_wp2_with (at_builtin; go_must (refine wpl_bytes 22 5 Try.underlying22 u8_info rfl _ _ rfl w.heap.size A1 c1 m1 rfl (ho1.more (size_new _ _)) A2 c2 t rfl (hn0.below hb1) (by omega) hb1'.size ?_; intro A3 c3 m3 w3 hm3 ho3 _ _ hb3))
  go_ret
  exact ⟨A3, c3, m3, rfl, by rw [hm3.out, hm1.out]; show _ = _; simp [vbs], ho3, hb1'.trans hb3⟩

/-- what Take answers -/
def TakeOut (o : Option (Nat × Nat)) (w : World) (e : Ending) (w' : World) : Prop :=
  w = w' ∧ ((o = none ∧ e = .returned (.tuple #[.int .u64 0, .int .i64 0, .iface 66 (.int .i64 2)])) ∨ ∃ n k : Nat, o = some (n, k) ∧ e = .returned (.tuple #[.int .u64 n, .int .i64 k, .nilIface]))

set_option maxRecDepth 100000 in
set_option maxHeartbeats 1000000 in
theorem Take_any (A : Option Addr) (c : Nat) (l : List UInt8) (w : World) (hs : SlB w A c l) :
    Calls Try.prog 48 #[.slice A l.length c] w (TakeOut (take l) w) := by
  have hc1 := hs.2.1
  have hc2 := hs.2.2.1
  unfold maxLen at hc2
  by_cases hL : 10 < l.length
  all_goals
    go_enter Try.func48, Try.ntmps48
    go_wp2_with fail
    go_loop [3, 5, 15] (fun _ v x => ∃ (k n : Nat), k ≤ l.length ∧ k ≤ 10 ∧ x = .int .i64 k ∧ v = .int .u64 n ∧ Hid (n < 128 ^ k) ∧ Hid (take l = tk k n (l.drop k))) (fun _ v x => l.length - (intOf x).toNat)
    case atStart => exact ⟨0, 0, Nat.zero_le _, by omega, rfl, rfl, (show _ < _ by simp), rfl⟩
    case round =>
      obtain ⟨k, n, hk, hk10, rfl, rfl, hn, ht⟩ := hrel
      by_cases hlt : k < l.length ∧ k < 10
      · obtain ⟨hlt, hlt10⟩ := hlt
        obtain ⟨ad, rfl, hc⟩ := hs.at1 hlt
        have htd := Lib.hid (tk_drop hlt k n)
        generalize l[k] = x at *
        by_cases ha : k = 9 ∧ 1 < x.toNat
        · obtain ⟨hk9, ha⟩ := ha
          have hkb : ((k : Int) == 9) = true := by simp; omega
          have Hk9 := Lib.hid hk9
          clear hk9
          go_wp2_with fail
          go_ret3
          exact ⟨rfl, .inl ⟨by rw [ht.out, htd.out, if_pos (Or.inr ⟨Hk9.out, ha⟩)], rfl⟩⟩
        by_cases hb : 128 ≤ x.toNat
        · have hk9 : ¬ k = 9 := by omega
          go_wp2_with fail
          go_round
          case rel => exact ⟨k + 1, n + x.toNat % 128 * 128 ^ k, by omega, by omega, by go_num, congrArg (Value.int .u64) (or_part x n k hn.out (by omega) (fun h => absurd h hk9)), (show _ < _ from next_lt hn.out), (show _ = _ by rw [ht.out, htd.out, if_neg (by omega), if_pos hb])⟩
          case measure => simp [intOf]; omega
        by_cases hd : x.toNat = 0 ∧ 0 < k
        · obtain ⟨hd0, hdk⟩ := hd
          go_wp2_with fail
          all_goals
            go_ret3
            exact ⟨rfl, .inl ⟨by rw [ht.out, htd.out, if_neg (by omega), if_neg hb, if_pos ⟨hd0, hdk⟩], rfl⟩⟩
        · have hx : x.toNat % 128 = x.toNat := by omega
          have hv := or_part x n k hn.out (by omega) (by omega)
          rw [hx] at hv
          have Hx := Lib.hid hx
          have Hv := Lib.hid hv
          have Hd := Lib.hid hd
          have ht' : Hid (take l = some (n + x.toNat * 128 ^ k, k + 1)) := (show _ = _ by rw [ht.out, htd.out, if_neg (by omega), if_neg hb, if_neg hd])
          clear hx hv hd
          rcases Decidable.em (x.toNat = 0) with h0 | h0
          · have hb0 : ((x.toNat : Int) == 0) = true := by simp; omega
            have hk0 : ¬ (0 < k) := fun h => Hd.out ⟨h0, h⟩
            have H0 := Lib.hid h0
            clear h0
            have hk9 : ((k : Int) == 9) = false := by simp; omega
            go_wp2_with fail
            go_ret3
            refine ⟨rfl, .inr ⟨n + x.toNat * 128 ^ k, k + 1, ht'.out, ?_⟩⟩
            rw [← Hv.out]
            rfl
          · have hb0 : ((x.toNat : Int) == 0) = false := by simp; omega
            go_wp2_with fail
            all_goals
              go_ret3
              refine ⟨rfl, .inr ⟨n + x.toNat * 128 ^ k, k + 1, ht'.out, ?_⟩⟩
              rw [← Hv.out]
              first | rfl | (obtain rfl : k = 9 := (by omega); rfl)
      · first | (have hge : 10 ≤ k := by omega) | (have hge : l.length ≤ k := by omega)
        go_wp2_with fail
        go_ret3
        exact ⟨rfl, .inl ⟨by rw [ht.out]; first | (rw [show k = 10 from by omega]; exact tk_end _ _) | (rw [List.drop_eq_nil_of_le (by omega)]; rfl), rfl⟩⟩

theorem vb300 : vb 300 = [172, 2] := by rw [vb_step (by omega), vb_small (by omega)]; decide
theorem vbs300 : [] ++ vbs [300] = [172, 2] := by simp [vbs, vb300]
theorem take300 : take [172, 2] = some (300, 2) := by decide

theorem take_succ_eq {T : Type} {xs ys : List T} {k : Nat} (h : xs.take k = ys.take k) (hx : k < xs.length) (hy : k < ys.length) : xs.take (k + 1) = ys.take (k + 1) ↔ xs[k] = ys[k] := by
  rw [List.take_succ_eq_append_getElem hx, List.take_succ_eq_append_getElem hy, h]
  exact ⟨fun e => by have := List.append_cancel_left e; simpa using this, fun e => by rw [e]⟩
theorem nv_ne {a b : Nat} (h : a ≠ b) : ((a : Int) != (b : Int)) = true := by simp; omega

end Go.Proofs.Ytgfigkenpmmdeaa

namespace Go.Proofs.Ytgfigkenpmmdeaa
open Go.RowKit

set_option maxRecDepth 100000 in
set_option maxHeartbeats 400000 in
theorem rBytes_any (n : Nat) (hn : U64 n) (w : World) : Calls Try.prog 65 #[.int .u64 n] w (GivesB w (vb n)) := by
  go_enter Try.func65, Try.ntmps65
  go_wp2
  go_loopw [0, 3] (fun x v wr => ∃ (k : Nat) (B : Option Addr) (d : Nat) (m : List UInt8), x = .int .u64 k ∧ v = .slice B m.length d ∧ Hid (vb n = m ++ vb k) ∧ Hid (U64 k) ∧ OwnB wr w.heap.size 5 B d m ∧ Below w.heap.size w wr) (fun x v w => (intOf x).toNat)
  case atStart => exact ⟨n, _, 0, [], rfl, rfl, rfl, hn, Own.lit 1 (Nat.le_refl _), below_new _ _⟩
  case round =>
    obtain ⟨k, B, d, m, rfl, rfl, hm, hk, hor, hbr⟩ := hrel
    have hml : m.length ≤ 10 := by
      have h1 := congrArg List.length hm.out
      have h2 := vb_le10 hn
      simp only [List.length_append] at h1
      omega
    have hw : IntKind.u64.wrap ((k : Int) / 128) = (k : Int) / 128 := wrap_div hk.out 128
    by_cases h128 : 128 ≤ k
    · have hs := Lib.hid (vb_step h128)
      have hz : ((k : Int) / 128 == 0) = false := by simp; omega
      go_wp2_with (at_builtin; go_must (refine wpl_byte 22 5 Try.underlying22 u8_info rfl _ _ rfl w.heap.size B d m _ (UInt8.ofNat (k % 128 + 128)) (byte_ref k) rfl hor rfl (by omega) hbr.size ?_; intro A1 c1 m1 w1 hm1 ho1 _ _ hb1))
      go_roundw
      case rel => exact ⟨k / 128, A1, c1, m1, rfl, rfl, by rw [hm1.out, hm.out, hs.out]; show _ = _; simp, hk.out.div 128, ho1, hbr.trans hb1⟩
      case measure => simp [intOf]; omega
    · have hs := Lib.hid (vb_small (n := k) (by omega))
      have hz : ((k : Int) / 128 == 0) = true := by simp; omega
      go_wp2_with (at_builtin; go_must (refine wpl_byte 22 5 Try.underlying22 u8_info rfl _ _ rfl w.heap.size B d m _ (UInt8.ofNat k) (byte_ref0 (by omega)) rfl hor rfl (by omega) hbr.size ?_; intro A1 c1 m1 w1 hm1 ho1 _ _ hb1))
      go_ret
      exact ⟨A1, c1, m1, rfl, by rw [hm1.out, hm.out, hs.out]; rfl, ho1, hbr.trans hb1⟩

/-- what the document's Take answers -/
def RTakeOut (o : Option (Nat × Nat)) (w : World) (e : Ending) (w' : World) : Prop :=
  Below w.heap.size w w' ∧ ((o = none ∧ e = .returned (.tuple #[.int .u64 0, .int .i64 0, .int .i64 2])) ∨ ∃ n k : Nat, o = some (n, k) ∧ e = .returned (.tuple #[.int .u64 n, .int .i64 k, .int .i64 0]))

set_option maxRecDepth 100000 in
set_option maxHeartbeats 1000000 in
theorem rTake_any (A : Option Addr) (c : Nat) (l : List UInt8) (w : World) (hs : SlB w A c l) :
    Calls Try.prog 54 #[.slice A l.length c] w (RTakeOut (take l) w) := by
  have hc1 := hs.2.1
  have hc2 := hs.2.2.1
  unfold maxLen at hc2
  go_enter Try.func54, Try.ntmps54
  go_wp2_with fail
  go_loopw [5] (fun x wr => ∃ k : Nat, 1 ≤ k ∧ k ≤ 11 ∧ x = .int .i64 k ∧ Hid (∀ j (h : j < l.length), j + 1 < k → 128 ≤ l[j].toNat) ∧ Below w.heap.size w wr) (fun x w => 11 - (intOf x).toNat)
  case atStart => exact ⟨1, by omega, by omega, rfl, (fun j _ hj => by omega), Below.refl _ _⟩
  case round =>
    obtain ⟨k, hk1, hk11, rfl, hall, hbr⟩ := hrel
    by_cases hlt : k ≤ 10 ∧ k ≤ l.length
    · obtain ⟨hk10, hkl⟩ := hlt
      have hlt : k - 1 < l.length := by omega
      obtain ⟨ad, rfl, hc⟩ := (hs.below hbr).at1 hlt
      by_cases hb : 128 ≤ l[k - 1].toNat
      · have hbl := Lib.hid hb
        go_wp2_with fail
        go_roundw
        case rel =>
          refine ⟨k + 1, by omega, by omega, by go_num, (fun j hj hjk => ?_), hbr⟩
          by_cases hj1 : j = k - 1
          · subst hj1; exact hbl.out
          · exact hall.out j hj (by omega)
        case measure => simp [intOf]; omega
      · have hbl := Lib.hid hb
        obtain ⟨wo, rfl⟩ : ∃ wo : World, wo = wr := ⟨_, rfl⟩
        go_wp2_with fail
        go_loop [6, 7] (fun v x => ∃ (q : Int) (n : Nat), -1 ≤ q ∧ q ≤ (k : Int) - 1 ∧ x = .int .i64 q ∧ v = .int .u64 n ∧ Hid (n = val ((l.take k).drop (q + 1).toNat) % 18446744073709551616)) (fun v x => (intOf x + 1).toNat)
        case atStart => exact ⟨(k : Int) - 1, 0, by omega, by omega, rfl, rfl, (show _ = _ by rw [show ((k : Int) - 1 + 1).toNat = k from by omega, val_all])⟩
        case round =>
          obtain ⟨q, n, hq1, hq2, rfl, rfl, hn⟩ := hrel
          by_cases hq : 0 ≤ q
          · obtain ⟨i, rfl⟩ := Int.eq_ofNat_of_zero_le hq
            have hil : i < l.length := by omega
            have hik : i < k := by omega
            obtain ⟨ad2, he, hci⟩ := (hs.below hbr).at1 hil
            obtain rfl : ad = ad2 := by injection he
            clear he
            have hv := Lib.hid (val_take_drop hik hil)
            generalize l[i] = x at *
            go_wp2_with fail
            go_round
            case rel =>
              refine ⟨(i : Int) - 1, (x.toNat % 128 + 128 * val ((l.take k).drop (i + 1))) % 18446744073709551616, by omega, by omega, by go_num, ?_, ?_⟩
              · have h1 := hn.out
                rw [show ((i : Int) + 1).toNat = i + 1 from by omega] at h1
                rw [← val_step h1]
              · have e1 : ((i : Int) - 1 + 1).toNat = i := by omega
                show _ = _
                rw [e1, hv.out]
            case measure => first | (simp [intOf]; omega) | simp [intOf]
          · obtain rfl : q = -1 := by omega
            have hn1 := hn
            rw [show ((-1 : Int) + 1).toNat = 0 from rfl, List.drop_zero] at hn1
            have hun : U64 n := by have := hn1.out; unfold U64; omega
            have hcb := fun (W : World) (hW : Keep wo W) => conv_str (P := Try.prog) (w := W) 22 9 5 Try.underlying22 Try.underlying5 Try.underlying9 (n := k) (((hs.below hbr).takeB k).keep hW) (by simp; omega)
            have hk0 : Keep wo wo := Keep.refl wo
            have hkd : ∀ W, Keep wo W → Keep wo W.drew := fun W h => h
            go_wp2_with fail
            go_region_with (go_at_call 65; refine (rBytes_any n hun _).mono ?_; rintro e w1 ⟨A1, c1, m1, rfl, hm1, ho1, hb1⟩; have hk1 : Keep wo w1 := Keep.of_drew (keep_of_below hb1); have hbw := (below_of_drew hb1).mono hbr.size; have hcm := conv_str (P := Try.prog) (w := w1) 22 9 5 Try.underlying22 Try.underlying5 Try.underlying9 ho1.sl rfl)
            all_goals go_wp2_with fail
            all_goals
              have htr := take_ref (l := l) (k := k - 1) (n := n) hlt (fun j hj hjk => hall.out j hj (by omega)) (by omega) (by rw [show k - 1 + 1 = k from by omega]; exact hn1.out)
              rw [show k - 1 + 1 = k from by omega] at htr
              go_ret3
              first
                | (have hx : (!m1 == List.take k l) = true := by assumption
                   exact ⟨hbr.trans hbw, .inl ⟨htr.2 (by rw [← hm1.out]; simpa using hx), rfl⟩⟩)
                | (have hx : (!m1 == List.take k l) = false := by assumption
                   exact ⟨hbr.trans hbw, .inr ⟨n, k, htr.1 (by rw [← hm1.out]; simpa using hx), rfl⟩⟩)
    · by_cases hk : k = 11
      · go_wp2_with fail
        go_ret3
        exact ⟨hbr, .inl ⟨take_ref_none fun j hj hj10 => hall.out j hj (by omega), rfl⟩⟩
      · have hkl : ¬ k ≤ l.length := by omega
        have hk10 : k ≤ 10 := by omega
        go_wp2_with fail
        go_ret3
        exact ⟨hbr, .inl ⟨take_ref_none fun j hj hj10 => hall.out j hj (by omega), rfl⟩⟩

/-- an error by its number; 0: none -/
def errv : Nat → Value
  | 0 => .nilIface
  | n + 1 => .iface 66 (.int .i64 ((n + 1 : Nat) : Int))

set_option maxRecDepth 100000 in
set_option maxHeartbeats 400000 in
theorem num_nil (w : World) : Calls Try.prog 10 #[.nilIface] w fun e w' => e = .returned (.int .i64 0) ∧ w = w' := by
  go_enter Try.func10, Try.ntmps10
  go_wp2_with fail
  go_ret
  exact ⟨rfl, rfl⟩
theorem assert_errno (k : Int) (w : World) : (Instr.typeAssert (.iface 66 (.int .i64 k)) 30 66 true).run Try.prog w = .ok (.tuple #[.int .i64 k, .bool true]) w := by kernel_rfl
set_option maxRecDepth 100000 in
set_option maxHeartbeats 400000 in
theorem num_err (k : Int) (hk : 0 < k) (w : World) : Calls Try.prog 10 #[.iface 66 (.int .i64 k)] w fun e w' => e = .returned (.int .i64 k) ∧ w = w' := by
  have hz : (k == 0) = false := by simp; omega
  have hn : (k != 0) = true := by simp; omega
  have hta := assert_errno
  go_enter Try.func10, Try.ntmps10
  go_wp2_with fail
  go_ret
  exact ⟨rfl, rfl⟩

theorem errv_cases (n : Nat) : (n = 0 ∧ errv n = .nilIface) ∨ ∃ k : Int, 0 < k ∧ k = n ∧ errv n = .iface 66 (.int .i64 k) := by
  cases n with
  | zero => exact .inl ⟨rfl, rfl⟩
  | succ n => exact .inr ⟨((n + 1 : Nat) : Int), by omega, rfl, rfl⟩
theorem num_any (n : Nat) (w : World) : Calls Try.prog 10 #[errv n] w fun e w' => e = .returned (.int .i64 (n : Nat)) ∧ w = w' := by
  rcases errv_cases n with ⟨rfl, he⟩ | ⟨k, hk, h0, he⟩
  · rw [he]
    exact num_nil w
  · rw [he]
    rw [← h0]
    exact num_err k hk w

end Go.Proofs.Ytgfigkenpmmdeaa

namespace Go.Proofs.Ytgfigkenpmmdeaa
open Go.ChangeShapes Go.WideShapes Go.ChangeAt Go.RowKit Go.Deep

/-- an integer of 64 bits (behind a name) -/
def I64 (a : Int) : Prop := -9223372036854775808 ≤ a ∧ a ≤ 9223372036854775807

theorem row_reads {w : World} {k : IntKind} {a : Addr} {len cap : Nat} {zs : List Int} (h1 : len ≤ cap) (h2 : cap ≤ maxLen) (hz : zs.length = cap) (hc : ∀ i, i < zs.length → w.cell? (a.add i) = some (.int k (zs.getD i 0))) :
    Sl w 1 (some a) len cap ((zs.take len).map (Value.int k)) := by
  refine ⟨by simp; omega, h1, h2, (fun h => by cases h), fun j u hj => ⟨a, rfl, ?_⟩⟩
  have hl : j < zs.length := by
    have := (List.getElem?_eq_some_iff.1 hj).1
    simp at this
    omega
  rw [hc j hl]
  simp only [List.getElem?_map, List.getElem?_take] at hj
  split at hj
  · rw [List.getElem?_eq_getElem hl] at hj
    simp at hj
    rw [← hj]
    simp [List.getElem?_eq_getElem hl]
  · simp at hj

section
variable {H : Type} {enc : TypeId × Value → H} {P : Program} {w : World} {base b0 : Nat} {held : Bool} {r : Reach} {t e : TypeId} {v : Value} {d : DataW H} {p : List MemPlace}
theorem open_row {k : IntKind} (ht : P.underlying t = some (.slice e)) (he : P.underlying e = some (.int k)) (hC : P.cellsOf e = 1) (hv : Value.okWide P w r b0 t v) (h : DataW.Trod enc P w base (fun _ => true) held t v d p) :
    ∃ (A : Option Addr) (n c : Nat) (zs : List Int), v = .slice A n c ∧ Sl w 1 A n c (zs.map (Value.int k)) ∧ zs.length = n ∧ ∀ z ∈ zs, (Lit.int k z).wf = true := by
  obtain ⟨A, n, c, rfl⟩ := okWide_slice ht hv
  obtain ⟨fuel, hf⟩ := h
  rcases open_ints ht he hC hf with ⟨hcs, _⟩ | ⟨x, l, c', zs, hcs, _, hl, hm, hz, _, hcell, hwz⟩
  · simp [Value.cells] at hcs
    obtain ⟨rfl, rfl, rfl⟩ := hcs
    exact ⟨none, 0, 0, [], rfl, Sl.none_ _ _, rfl, fun z hz => by simp at hz⟩
  · simp [Value.cells] at hcs
    obtain ⟨rfl, rfl, rfl⟩ := hcs
    simp only [if_true] at hz
    refine ⟨some x, n, c, zs.take n, rfl, row_reads hl hm hz hcell, by simp; omega, fun z hz => hwz z (List.mem_of_mem_take hz)⟩
theorem open_bytes (ht : P.underlying t = some (.slice e)) (he : P.underlying e = some (.int .u8)) (hC : P.cellsOf e = 1) (hv : Value.okWide P w r b0 t v) (h : DataW.Trod enc P w base (fun _ => true) held t v d p) :
    ∃ (A : Option Addr) (c : Nat) (l : List UInt8), v = .slice A l.length c ∧ SlB w A c l := by
  obtain ⟨A, n, c, zs, rfl, hs, hl, hw⟩ := open_row ht he hC hv h
  have hm : zs.map (Value.int .u8) = bvs (zs.map fun z => UInt8.ofNat z.toNat) := by
    rw [bvs, List.map_map]
    refine List.map_congr_left fun z hz => ?_
    have hb := bounds_u8 (hw z hz)
    simp only [Function.comp, bv, UInt8.toNat_ofNat']
    congr 1
    omega
  rw [hm] at hs
  refine ⟨A, c, zs.map fun z => UInt8.ofNat z.toNat, by simp [hl], ?_⟩
  show Sl w 1 A (zs.map _).length c _
  rw [List.length_map, hl]
  exact hs
theorem open_nums (ht : P.underlying t = some (.slice e)) (he : P.underlying e = some (.int .u64)) (hC : P.cellsOf e = 1) (hv : Value.okWide P w r b0 t v) (h : DataW.Trod enc P w base (fun _ => true) held t v d p) :
    ∃ (A : Option Addr) (c : Nat) (l : List Nat), v = .slice A l.length c ∧ Sl w 1 A l.length c (l.map fun (n : Nat) => Value.int .u64 (n : Int)) ∧ ∀ n ∈ l, U64 n := by
  obtain ⟨A, n, c, zs, rfl, hs, hl, hw⟩ := open_row ht he hC hv h
  have hm : zs.map (Value.int .u64) = (zs.map Int.toNat).map (fun (n : Nat) => Value.int .u64 (n : Int)) := by
    rw [List.map_map]
    refine List.map_congr_left fun z hz => ?_
    have hb := bounds_u64 (hw z hz)
    simp only [Function.comp]
    congr 1
    omega
  rw [hm] at hs
  refine ⟨A, c, zs.map Int.toNat, by simp [hl], ?_, ?_⟩
  · rw [show (zs.map Int.toNat).length = n by simp [hl]]
    exact hs
  · intro n hn
    simp only [List.mem_map] at hn
    obtain ⟨z, hz, rfl⟩ := hn
    have hb := bounds_u64 (hw z hz)
    unfold U64
    omega
theorem open_i64 (ht : P.underlying t = some (.int .i64)) (hv : Value.okWide P w r b0 t v) (h : DataW.Trod enc P w base (fun _ => true) held t v d p) : ∃ a : Int, v = .int .i64 a ∧ I64 a := by
  obtain ⟨x, rfl, _, _, hw⟩ := open_int ht hv h
  exact ⟨x, rfl, bounds_i64 hw⟩
theorem open_u64 (ht : P.underlying t = some (.int .u64)) (hv : Value.okWide P w r b0 t v) (h : DataW.Trod enc P w base (fun _ => true) held t v d p) : ∃ a : Nat, v = .int .u64 (a : Int) ∧ U64 a := by
  obtain ⟨x, rfl, _, _, hw⟩ := open_int ht hv h
  have hb := bounds_u64 hw
  exact ⟨x.toNat, by congr 1; omega, by unfold U64; omega⟩
theorem int_cell {P : Program} {w : World} {base : Nat} {held : Bool} {sp : Nat → Bool} {t : TypeId} {n : Nat} {v : Value} {y : DataW H × List MemPlace} (ht : P.underlying t = some (.int .i64)) (h : DataW.trod enc P w base sp held n t [v] = some y) : ∃ a : Int, v = .int .i64 a ∧ I64 a := by
  obtain ⟨a, hv, _, hw⟩ := DataW.trod_int ht h
  simp at hv
  exact ⟨a, hv, bounds_i64 hw⟩
/-- a struct of three ints by value -/
theorem open_ints3 {f0 f1 f2 : Field} (hs : P.underlying t = some (.struct #[f0, f1, f2])) (h0 : P.underlying f0.type = some (.int .i64)) (h1 : P.underlying f1.type = some (.int .i64)) (h2 : P.underlying f2.type = some (.int .i64))
    (hone : oneCellFields P #[f0, f1, f2] = true) (hC : P.cellsOf t = 3) (hv : Value.okWide P w r b0 t v) (h : DataW.Trod enc P w base (fun _ => true) held t v d p) :
    ∃ a b c : Int, v = .agg #[.int .i64 a, .int .i64 b, .int .i64 c] ∧ I64 a ∧ I64 b ∧ I64 c := by
  obtain ⟨v0, v1, v2, y0, y1, y2, n, rfl, _, _, g0, g1, g2⟩ := Go.Joins.open_agg3 hs hone hC hv h
  obtain ⟨a, rfl, ha⟩ := int_cell h0 g0
  obtain ⟨b, rfl, hb⟩ := int_cell h1 g1
  obtain ⟨c, rfl, hc⟩ := int_cell h2 g2
  exact ⟨a, b, c, rfl, ha, hb, hc⟩
/-- [3]int by value -/
theorem open_arr3 (hs : P.underlying t = some (.array 3 e)) (he : P.underlying e = some (.int .i64)) (hC : P.cellsOf t = 3) (hE : P.cellsOf e = 1) (hv : Value.okWide P w r b0 t v) (h : DataW.Trod enc P w base (fun _ => true) held t v d p) :
    ∃ a b c : Int, v = .agg #[.int .i64 a, .int .i64 b, .int .i64 c] ∧ I64 a ∧ I64 b ∧ I64 c := by
  simp only [Value.okWide, hs] at hv
  obtain ⟨cs, rfl, hsz, _⟩ := hv
  obtain ⟨c0, c1, c2, rfl⟩ := Go.Joins.array3 (hsz.trans hC)
  obtain ⟨fuel, hf⟩ := h
  obtain ⟨xs, m, _, _, _, hlen, hg⟩ := DataW.trod_array hs hf
  have k0 := hg 0 (by omega)
  have k1 := hg 1 (by omega)
  have k2 := hg 2 (by omega)
  rw [hE, List.getElem?_eq_getElem (by omega)] at k0 k1 k2
  simp [Value.cells] at k0 k1 k2
  obtain ⟨a, rfl, ha⟩ := int_cell he k0
  obtain ⟨b, rfl, hb⟩ := int_cell he k1
  obtain ⟨c, rfl, hc⟩ := int_cell he k2
  exact ⟨a, b, c, rfl, ha, hb, hc⟩
end
end Go.Proofs.Ytgfigkenpmmdeaa

namespace Go.Proofs.Ytgfigkenpmmdeaa
open Go.RowKit

/-- how many bits a number has -/
def blen (n : Nat) : Nat := if h : n = 0 then 0 else blen (n / 2) + 1
  termination_by n
theorem blen_zero : blen 0 = 0 := by rw [blen, dif_pos rfl]
theorem blen_pos {n : Nat} (h : n ≠ 0) : blen n = blen (n / 2) + 1 := by rw [blen, dif_neg h]
theorem blen_div (k : Nat) : ∀ n, 2 ^ k ≤ n → blen n = blen (n / 2 ^ k) + k := by
  induction k with
  | zero => intro n _; simp
  | succ k ih =>
    intro n h
    have hp : 0 < 2 ^ k := Nat.pow_pos (by decide)
    rw [Nat.pow_succ] at h
    rw [ih n (by omega)]
    have hq : n / 2 ^ k ≠ 0 := by
      have : 0 < n / 2 ^ k := Nat.div_pos (by omega) hp
      omega
    rw [blen_pos hq, Nat.div_div_eq_div_mul, ← Nat.pow_succ]
    show blen (n / 2 ^ (k + 1)) + 1 + k = blen (n / 2 ^ (k + 1)) + (k + 1)
    omega
theorem size_vb (n : Nat) : (vb n).length = max ((blen n + 6) / 7) 1 := by
  induction n using Nat.strongRecOn with
  | _ n ih =>
    by_cases h : n < 128
    · rw [vb_small h]
      have hb : blen n ≤ 7 := by
        have h1 : ∀ j : Fin 128, blen j.val ≤ 7 := by decide +kernel
        exact h1 ⟨n, h⟩
      simp only [List.length_cons, List.length_nil]
      omega
    · rw [vb_step (by omega), List.length_cons, ih (n / 128) (by omega), blen_div 7 n (by omega)]
      have : n / 128 ≠ 0 := by omega
      have := blen_pos this
      rw [show n / 2 ^ 7 = n / 128 from rfl]
      omega
end Go.Proofs.Ytgfigkenpmmdeaa

namespace Go.Proofs.Ytgfigkenpmmdeaa
open Go.RowKit

set_option maxRecDepth 100000 in
set_option maxHeartbeats 400000 in
theorem nBytes_any (A B : Option Addr) (c d : Nat) (l m : List UInt8) (w : World) (ha : SlB w A c l) (hb : SlB w B d m) :
    Calls Try.prog 11 #[.slice A l.length c, .slice B m.length d] w fun e w' => e = .returned (.bool (l == m)) ∧ w = w' := by
  have h1 := conv_str (P := Try.prog) 22 9 5 Try.underlying22 Try.underlying5 Try.underlying9 ha rfl
  have h2 := conv_str (P := Try.prog) 22 9 5 Try.underlying22 Try.underlying5 Try.underlying9 hb rfl
  go_enter Try.func11, Try.ntmps11
  go_wp2_with fail
  go_ret
  exact ⟨rfl, rfl⟩

end Go.Proofs.Ytgfigkenpmmdeaa

namespace Go.Proofs.Ytgfigkenpmmdeaa
open Go.RowKit

/-- only block g has turned, and what is new -/
abbrev Wr (w w' : World) (g : Nat) : Prop := w.grownBy w' (some g)
section
variable {a w w' : World} {g : Nat}
theorem Wr.refl (w : World) (g : Nat) : Wr w w g := World.grownBy.refl w _
theorem Wr.trans {b c : World} (h : Wr a b g) (k : Wr b c g) : Wr a c g :=
  ⟨k.os.trans h.os, k.tape.trans h.tape, k.output.trans h.output, Nat.le_trans h.size k.size, fun i hi hn => (k.block i (Nat.lt_of_lt_of_le hi h.size) hn).trans (h.block i hi hn)⟩
theorem Wr.call (h : Wr a w g) (k : Below w.heap.size w w') : Wr a w' g :=
  h.trans ⟨k.os, k.tape, k.output, k.size, fun i hi _ => k.block i hi⟩
theorem Wr.of_below (k : Below w.heap.size w w') : Wr w w' g := ⟨k.os, k.tape, k.output, k.size, fun i hi _ => k.block i hi⟩
theorem Wr.set_ (h : Wr a w g) (i : Nat) (u : Value) : Wr a (w.setCell ⟨g, i, none⟩ u) g :=
  h.trans ⟨rfl, rfl, rfl, by simp [World.setCell], fun j _ hn => Below.heap_setCell _ _ _ _ (fun e => hn (by rw [e]))⟩
theorem Wr.alloc (h : Wr a w g) (o : Obj) : Wr a (w.alloc o) g := h.call (below_new w o)
theorem Wr.drewN (h : Wr a w g) (n : Nat) : Wr a (w.drewN n) g := ⟨h.os, h.tape, h.output, h.size, h.block⟩
theorem Wr.drew (h : Wr a w g) : Wr a w.drew g := ⟨h.os, h.tape, h.output, h.size, h.block⟩
/-- a reader of the call's own was written: nothing that was there before the call has turned -/
theorem Wr.below (h : Wr w w' g) {B : Nat} (hB : B ≤ w.heap.size) (hg : B ≤ g) : Below B w w' :=
  ⟨h.os, h.tape, h.output, h.size, fun k hk => h.block k (by omega) (fun e => by injection e with e; omega)⟩
theorem Wr.callB (h : Wr a w g) (_ : a.heap.size ≤ w.heap.size) (k : Below a.heap.size w w') : Wr a w' g :=
  ⟨k.os.trans h.os, k.tape.trans h.tape, k.output.trans h.output, Nat.le_trans h.size k.size, fun i hi hn => (k.block i hi).trans (h.block i hi hn)⟩
theorem Blk.wr {g' : Nat} {t : TypeId} {cs : Array Value} (h : Blk w g' t cs) (hw : Wr w w' g) (hne : g' ≠ g) : Blk w' g' t cs := (hw.block g' h.lt (fun e => hne (by injection e))).trans h
end

/-- cells that are bytes lie in no block that holds none -/
theorem SlB.wr {w w' : World} {g : Nat} {t : TypeId} {x y : Value} {A : Option Addr} {c : Nat} {l : List UInt8} (h : SlB w A c l) (hb : Blk w g t #[x, y]) (hx : ∀ b, x ≠ bv b) (hy : ∀ b, y ≠ bv b) (hw : Wr w w' g) : SlB w' A c l := by
  refine ⟨h.1, h.2.1, h.2.2.1, h.2.2.2.1, fun j u hj => ?_⟩
  obtain ⟨ad, hA, hc⟩ := h.2.2.2.2 j u hj
  refine ⟨ad, hA, ?_⟩
  have hlt := World.block_lt_of_cell? w _ hc
  have hne : (ad.add j).block ≠ g := by
    intro e
    have hsp := World.cell?_spot hc
    have hu : ∃ b, u = bv b := by
      simp only [List.getElem?_map, Option.map_eq_some_iff] at hj
      obtain ⟨b, _, hb⟩ := hj
      exact ⟨b, hb.symm⟩
    obtain ⟨b, rfl⟩ := hu
    have he : ad.add j = ⟨g, (ad.add j).off, none⟩ := by
      cases h1 : ad.add j with
      | mk bl of sp => rw [h1] at e hsp; simp at e hsp; subst e; subst hsp; rfl
    rw [he, hb.cell] at hc
    match (ad.add j).off, hc with
    | 0, hc => simp at hc; exact hx b hc
    | 1, hc => simp at hc; exact hy b hc
    | n + 2, hc => simp at hc
  exact (World.cell?_of_block (hw.block _ hlt (fun e => hne (by injection e)))).trans hc
theorem errv_ne (n : Nat) : ∀ b, errv n ≠ bv b := by
  intro b h
  cases n <;> simp [errv] at h
theorem slice_ne (A : Option Addr) (n c : Nat) : ∀ b, Value.slice A n c ≠ bv b := fun b h => by cases h

/-- a reader in block g: what is left, its error's number; what is left lies below block B -/
def IsR (w : World) (g B : Nat) (s : List UInt8 × Nat) : Prop :=
  ∃ A c, Blk w g 104 #[.slice A s.1.length c, errv s.2] ∧ SlB w A c s.1 ∧ (s.1 ≠ [] → ∀ ad, A = some ad → ad.block < B)
theorem IsR.lt {w : World} {g B : Nat} {s : List UInt8 × Nat} (h : IsR w g B s) : g < w.heap.size := by obtain ⟨_, _, hb, _⟩ := h; exact hb.lt
theorem IsR.below {w w' : World} {g B : Nat} {s : List UInt8 × Nat} (h : IsR w g B s) (hb : Below w.heap.size w w') : IsR w' g B s := by
  obtain ⟨A, c, h1, h2, h3⟩ := h
  exact ⟨A, c, h1.below hb, h2.below hb, h3⟩
/-- all lies below B: what is done from B on does not matter -/
theorem IsR.apart {w w' : World} {g B C : Nat} {s : List UInt8 × Nat} (h : IsR w g B s) (hg : g < C) (hBC : B ≤ C) (hb : Below C w w') : IsR w' g B s := by
  obtain ⟨A, c, h1, h2, h3⟩ := h
  refine ⟨A, c, (hb.block g hg).trans h1, ⟨h2.1, h2.2.1, h2.2.2.1, h2.2.2.2.1, fun j u hj => ?_⟩, h3⟩
  obtain ⟨ad, hA, hc⟩ := h2.2.2.2.2 j u hj
  have hne : s.1 ≠ [] := by intro e; rw [e] at hj; simp at hj
  exact ⟨ad, hA, (hb.cell (by rw [addr_add_block]; exact Nat.lt_of_lt_of_le (h3 hne ad hA) hBC)).trans hc⟩
theorem IsR.here {w : World} {g B : Nat} {s : List UInt8 × Nat} (h : IsR w g B s) : IsR w g (min B w.heap.size) s := by
  obtain ⟨A, c, h1, h2, h3⟩ := h
  refine ⟨A, c, h1, h2, fun hn ad hA => ?_⟩
  have hl : 0 < s.1.length := by cases h : s.1 <;> simp_all
  obtain ⟨ad', hA', hc⟩ := h2.at1 (k := 0) hl
  rw [hA] at hA'
  injection hA' with e
  subst e
  have := World.block_lt_of_cell? w _ hc
  rw [addr_add_block] at this
  have := h3 hn ad hA
  omega
theorem IsR.up {w : World} {g B B' : Nat} {s : List UInt8 × Nat} (h : IsR w g B s) (hB : B ≤ B') : IsR w g B' s := by
  obtain ⟨A, c, h1, h2, h3⟩ := h
  exact ⟨A, c, h1, h2, fun hn ad hA => Nat.lt_of_lt_of_le (h3 hn ad hA) hB⟩
theorem SlB.wrR {w w' : World} {g B : Nat} {s : List UInt8 × Nat} {A : Option Addr} {c : Nat} {l : List UInt8} (h : SlB w A c l) (hR : IsR w g B s) (hw : Wr w w' g) : SlB w' A c l := by
  obtain ⟨_, _, hb, _⟩ := hR
  exact SlB.wr h hb (slice_ne _ _ _) (errv_ne _) hw

def rFail (k : Nat) (s : List UInt8 × Nat) : List UInt8 × Nat := if s.2 = 0 then (s.1, k) else s
def rNum (s : List UInt8 × Nat) : Nat × (List UInt8 × Nat) := if s.2 ≠ 0 then (0, s) else match take s.1 with | none => (0, (s.1, 2)) | some (n, k) => (n, (s.1.drop k, 0))
def rWithin (most : Nat) (s : List UInt8 × Nat) : Nat × (List UInt8 × Nat) := if (rNum s).1 > most ∨ (rNum s).1 > 4611686018427387904 then (0, rFail 1 (rNum s).2) else rNum s
def rCount (most : Int) (s : List UInt8 × Nat) : Nat × (List UInt8 × Nat) := if (rNum s).2.2 ≠ 0 then (0, (rNum s).2) else if most < 0 ∨ ((rNum s).1 : Int) > most then (0, rFail 3 (rNum s).2) else rNum s
def rFixed (many : Int) (s : List UInt8 × Nat) : List UInt8 × (List UInt8 × Nat) := if s.2 ≠ 0 then ([], s) else if many < 0 ∨ many > (s.1.length : Int) then ([], (s.1, 2)) else (s.1.take many.toNat, (s.1.drop many.toNat, 0))
def rText (most : Int) (s : List UInt8 × Nat) : List UInt8 × (List UInt8 × Nat) := rFixed (rCount most s).1 (rCount most s).2
def rNums : Nat → List UInt8 × Nat → List Nat × (List UInt8 × Nat)
  | 0, s => ([], s)
  | n + 1, s => if (rNum s).2.2 ≠ 0 then ([], (rNum s).2) else if (rNums n (rNum s).2).2.2 ≠ 0 then ([], (rNums n (rNum s).2).2) else ((rNum s).1 :: (rNums n (rNum s).2).1, (rNums n (rNum s).2).2)
def rList (most : Int) (s : List UInt8 × Nat) : List Nat × (List UInt8 × Nat) := rNums (rCount most s).1 (rCount most s).2
def rLeft (s : List UInt8 × Nat) : Nat := if s.2 = 0 then s.1.length else 0
def rEnd (s : List UInt8 × Nat) : Nat := if s.2 = 0 ∧ 0 < s.1.length then 2 else s.2

theorem Own.wr {w w' : World} {base g : Nat} {e : TypeId} {size n c : Nat} {A : Option Addr} {xs : List Value} (h : Own w base e size A n c xs) (hg : g < base) (hw : Wr w w' g) : Own w' base e size A n c xs := by
  obtain ⟨h1, h2⟩ := h
  refine ⟨h1, ?_⟩
  rcases h2 with h2 | ⟨g', cap, cur, hv, hb, hh, r⟩
  · exact Or.inl h2
  · exact Or.inr ⟨g', cap, cur, hv, hb, (hw.block g' (Array.getElem?_eq_some_iff.1 hh).1 (fun e => by injection e with e; omega)).trans hh, r⟩

/-- append of one number of 64 bits, which the walk has laid in a block of its own -/
theorem wpl_num {P : Program} {w : World} {ops : Array Oper} {rest : List Oper} {o : Oper} {a : Act} {Q : Exit → Act → World → Prop} (t e : TypeId) (ht : P.underlying t = some (.slice e))
    (hinfo : (P.info? e).map (fun i => (i.zero, i.size, i.bytes)) = some (some (.int .u64 0), 1, 8)) (hgd : o.guard = none) (s x : Operand)
    (ho : o.op = .call { callee := .builtin .append, args := #[s, x], argTypes := #[t, t] })
    (base : Nat) (A : Option Addr) (c : Nat) (l : List Nat) (n : Nat) (hs : a.eval s = .slice A l.length c) (hown : Own w base e 1 A l.length c (l.map nv))
    (hx : a.eval x = .slice (some ⟨w.heap.size, 0, none⟩) 1 1) (hlen : l.length ≤ 1000000000000) (hbase : base ≤ w.heap.size)
    (h : ∀ A' c' (m : List Nat) w', Hid (m = l ++ [n]) → Own w' base e 1 A' m.length c' (m.map nv) → (w.alloc (.cells #[.int .u64 (n : Int)] e)).grownBy w' (A.map (·.block)) → Below base w w' →
      wpList P ops Q rest (a.put o.dst (.slice A' m.length c')) w') : wpList P ops Q (o :: rest) a (w.alloc (.cells #[.int .u64 (n : Int)] e)) := by
  obtain ⟨i0, hi, hz0, hz1, hz2⟩ := info_parts hinfo
  have hbl : Below base w (w.alloc (.cells #[.int .u64 (n : Int)] e)) := (Below.refl _ _).alloc hbase _
  refine wpl_append hgd s x t ho base e i0 (.int .u64 0) 1 8 ht hi hz0 hz1 hz2 rfl (by decide) A l.length c (l.map nv) hs (World.ownsRow.alloc hown _) (some ⟨w.heap.size, 0, none⟩) 1 1 [nv n] hx Sl.one (fun u hu => by simp at hu; subst hu; rfl) (by omega) (by simp only [maxLen]; omega) (by simp; omega) ?_
  intro A' c' w' hap
  have hl : l.length + 1 = (l ++ [n]).length := by simp
  rw [hl]
  refine h A' c' (l ++ [n]) w' rfl ?_ hap.grown (hbl.trans (hap.below (World.ownsRow.alloc hown _) (by simp; omega)))
  have := hap.own
  simpa using this

/-- new bytes out of a reader -/
def GivesR (w0 : World) (g B : Nat) (r : List UInt8 × (List UInt8 × Nat)) (e : Ending) (w' : World) : Prop :=
  ∃ A c m, e = .returned (.slice A m.length c) ∧ Hid (m = r.1) ∧ OwnB w' w0.heap.size 5 A c m ∧ IsR w' g B r.2 ∧ Wr w0 w' g

theorem rNum_len (s : List UInt8 × Nat) : (rNum s).2.1.length ≤ s.1.length := by
  unfold rNum
  split
  · exact Nat.le_refl _
  · split
    · exact Nat.le_refl _
    · simp
theorem rCount_len (most : Int) (s : List UInt8 × Nat) : (rCount most s).2.1.length ≤ s.1.length := by
  have := rNum_len s
  unfold rCount
  split
  · exact this
  · split
    · unfold rFail
      split <;> exact this
    · exact this
theorem rCount_le {most : Int} {s : List UInt8 × Nat} (h : most ≤ 1000000) : (rCount most s).1 ≤ 1000000 := by
  unfold rCount
  split
  · simp
  · split
    · simp
    · rename_i h; simp only [gt_iff_lt, not_or] at h; omega
theorem rCount_bad {most : Int} {s : List UInt8 × Nat} : (rCount most s).2.2 ≠ 0 → (rCount most s).1 = 0 := by
  unfold rCount
  split
  · intro _; rfl
  · split
    · intro _; rfl
    · rename_i h _; intro h2; exact absurd h2 (by simpa using h)
end Go.Proofs.Ytgfigkenpmmdeaa
