/- WHAT IT HOLDS: append as a step of a region that draws. | WHAT IT HOLDS: the bytes of a run of cells, plainly (no program). | WHAT IT HOLDS: the document's bytes of a run, plainly, are the same (no program). | WHAT IT HOLDS: row and alike of the package cell, walked; append as a step of a region that draws. -/
import Derived.Test.YtgipfenjachpnaaCellChecksG01
import Derived.Deep.RegionHeld3
import Derived.Deep.DrawnRows
import Derived.Deep.DeepCutAuto
import Derived.Test.YtgipfenjachpnaaCellChecksG06
import Derived.Test.YtgipfenjachpnaaCellChecksG07
namespace Go.Proofs.Ytgipfenjachpnaa
open Go.RowKit

theorem step_append {P : Program} {w : World} {ops : Array Oper} {o : Oper} {a : Act} {K : Act → World → Prop} {Q : Exit → Act → World → Prop} {E : Prop} (hw : Region.wanted o (yielded ops a.tmps) = true) (s x : Operand) (t : TypeId)
    (ho : o.op = .call { callee := .builtin .append, args := #[s, x], argTypes := #[t, t] })
    (base : Nat) (e : TypeId) (i : TypeInfo) (z : Value) (size bytes : Nat) (ht : P.underlying t = some (.slice e)) (hi : P.info? e = some i) (hz : i.zero = some z)
    (hsize : i.size = size) (hby : i.bytes = bytes) (hzs : z.cells.size = size) (hsz : 0 < size)
    (A : Option Addr) (n c : Nat) (xs : List Value) (hs : a.eval s = .slice A n c) (hown : Own w base e size A n c xs)
    (A2 : Option Addr) (m c2 : Nat) (news : List Value) (hx : a.eval x = .slice A2 m c2) (hr : Sl w size A2 m c2 news) (h1 : ∀ u ∈ news, u.oneCell' = true)
    (hbytes : (n + m) * bytes ≤ 140737488355328) (hmax : n + m ≤ maxLen) (hbase : base ≤ w.heap.size)
    (h : ∀ A' c' w', Appd w w' base e size A A' (n + m) c' (xs ++ news) → K (a.put o.dst (.slice A' (n + m) c')) w') :
    if Region.wanted o (yielded ops a.tmps) = true then Oper.wp P o a w K Q else E := by
  rw [if_pos hw]
  obtain ⟨A', c', w', hrun, h2⟩ := run_append_rd (P := P) w base t o.type e i z size bytes ht hi hz hsize hby hzs hsz A n c xs hown A2 m c2 news hr h1 hbytes hmax hbase
  unfold Oper.wp execOp
  simp only [ho, resolve, invoke, builtin, Sem.run_bind, Sem.run_pure, Result.andThen_ok, List.map_toArray, List.map_cons, List.map_nil, hs, hx, hrun]
  exact h A' c' w' h2
/-- append of bytes at a step of a region that draws -/
theorem step_bytes {P : Program} {w : World} {ops : Array Oper} {o : Oper} {a : Act} {K : Act → World → Prop} {Q : Exit → Act → World → Prop} {E : Prop} (t e : TypeId) (ht : P.underlying t = some (.slice e))
    (hinfo : (P.info? e).map (fun i => (i.zero, i.size, i.bytes)) = some (some (.int .u8 0), 1, 1)) (hw : Region.wanted o (yielded ops a.tmps) = true) (s x : Operand)
    (ho : o.op = .call { callee := .builtin .append, args := #[s, x], argTypes := #[t, t] })
    (base : Nat) (A : Option Addr) (c : Nat) (l : List UInt8) (hs : a.eval s = .slice A l.length c) (hown : OwnB w base e A c l)
    (A2 : Option Addr) (c2 n2 : Nat) (l2 : List UInt8) (hn2 : n2 = l2.length) (hx : a.eval x = .slice A2 n2 c2) (hr : SlB w A2 c2 l2)
    (hlen : l.length + l2.length ≤ 140737488355328) (hbase : base ≤ w.heap.size)
    (h : ∀ A' c' (m : List UInt8) w', Hid (m = l ++ l2) → OwnB w' base e A' c' m → Below base w w' → K (a.put o.dst (.slice A' m.length c')) w') :
    if Region.wanted o (yielded ops a.tmps) = true then Oper.wp P o a w K Q else E := by
  subst hn2
  obtain ⟨i0, hi, hz0, hz1, hz2⟩ := info_parts hinfo
  refine step_append hw s x t ho base e i0 (.int .u8 0) 1 1 ht hi hz0 hz1 hz2 rfl (by decide) A l.length c (bvs l) hs hown A2 l2.length c2 (bvs l2) hx hr (one_bvs l2) (by omega) (by simp only [maxLen]; omega) hbase ?_
  intro A' c' w' hap
  rw [← List.length_append]
  refine h A' c' (l ++ l2) w' rfl ?_ (hap.below hown hbase)
  have := hap.own
  simpa [OwnB] using this
/-- append of bytes under a guard that is met -/
theorem wpg_bytes {P : Program} {w : World} {ops : Array Oper} {rest : List Oper} {o : Oper} {a : Act} {Q : Exit → Act → World → Prop} (t e : TypeId) (ht : P.underlying t = some (.slice e))
    (hinfo : (P.info? e).map (fun i => (i.zero, i.size, i.bytes)) = some (some (.int .u8 0), 1, 1)) (hw : Region.wanted o (yielded ops a.tmps) = true) (s x : Operand)
    (ho : o.op = .call { callee := .builtin .append, args := #[s, x], argTypes := #[t, t] })
    (base : Nat) (A : Option Addr) (c : Nat) (l : List UInt8) (hs : a.eval s = .slice A l.length c) (hown : OwnB w base e A c l)
    (A2 : Option Addr) (c2 : Nat) (l2 : List UInt8) (hx : a.eval x = .slice A2 l2.length c2) (hr : SlB w A2 c2 l2)
    (hlen : l.length + l2.length ≤ 140737488355328) (hbase : base ≤ w.heap.size)
    (h : ∀ A' c' (m : List UInt8) w', Hid (m = l ++ l2) → OwnB w' base e A' c' m → Below base w w' → wpList P ops Q rest (a.put o.dst (.slice A' m.length c')) w') : wpList P ops Q (o :: rest) a w :=
  wpList_step fun _ hK => step_bytes t e ht hinfo hw s x ho base A c l hs hown A2 c2 l2.length l2 rfl hx hr hlen hbase fun A' c' m w' h1 h2 h3 => hK _ _ (h A' c' m w' h1 h2 h3)
/-- 'append([]byte{}, x...)' under a guard that is met -/
theorem wpg_fresh {P : Program} {w : World} {ops : Array Oper} {rest : List Oper} {o : Oper} {a : Act} {Q : Exit → Act → World → Prop} (t e : TypeId) (ht : P.underlying t = some (.slice e))
    (hinfo : (P.info? e).map (fun i => (i.zero, i.size, i.bytes)) = some (some (.int .u8 0), 1, 1)) (hw : Region.wanted o (yielded ops a.tmps) = true) (s x : Operand)
    (ho : o.op = .call { callee := .builtin .append, args := #[s, x], argTypes := #[t, t] })
    (hs : a.eval s = .slice (some ⟨w.heap.size, 0, none⟩) 0 0) (A2 : Option Addr) (c2 : Nat) (l2 : List UInt8) (hx : a.eval x = .slice A2 l2.length c2) (hr : SlB w A2 c2 l2) (hlen : l2.length ≤ 140737488355328)
    (h : ∀ A' c' (m : List UInt8) w', Hid (m = l2) → OwnB w' w.heap.size e A' c' m → Below w.heap.size w w' → wpList P ops Q rest (a.put o.dst (.slice A' m.length c')) w') : wpList P ops Q (o :: rest) a (w.alloc (.cells #[] e)) := by
  refine wpg_bytes t e ht hinfo hw s x ho w.heap.size (some ⟨w.heap.size, 0, none⟩) 0 [] hs (Own.lit 1 (Nat.le_refl _)) A2 c2 l2 hx (hr.below (below_new _ _)) (by simpa using hlen) (by simp) ?_
  intro A' c' m w' hm ho' hb
  exact h A' c' m w' hm ho' ((below_new _ _).trans hb)
end Go.Proofs.Ytgipfenjachpnaa

namespace Go.Proofs.Ytgipfenjachpnaa
open Go.RowKit

/-- how many first bytes two texts have in common -/
def cpl : List UInt8 → List UInt8 → Nat
  | x :: a, y :: b => if x = y then cpl a b + 1 else 0
  | _, _ => 0
theorem cpl_le : ∀ a b, cpl a b ≤ a.length ∧ cpl a b ≤ b.length
  | [], b => by simp [cpl]
  | x :: a, [] => by simp [cpl]
  | x :: a, y :: b => by
    have := cpl_le a b
    unfold cpl
    split <;> simp <;> omega
theorem cpl_next : ∀ (a b : List UInt8) (k : Nat), k ≤ a.length → k ≤ b.length → a.take k = b.take k → cpl a b = k + cpl (a.drop k) (b.drop k)
  | a, b, 0, _, _, _ => by simp
  | x :: a, y :: b, k + 1, ha, hb, h => by
    simp only [List.take_succ_cons, List.cons.injEq] at h
    obtain ⟨rfl, h⟩ := h
    have := cpl_next a b k (by simpa using ha) (by simpa using hb) h
    simp only [List.drop_succ_cons]
    rw [cpl, if_pos rfl, this]
    omega
theorem cpl_take : ∀ (a b : List UInt8), a.take (cpl a b) = b.take (cpl a b)
  | [], b => by simp [cpl]
  | x :: a, [] => by simp [cpl]
  | x :: a, y :: b => by
    unfold cpl
    split
    · rename_i h
      subst h
      simp [cpl_take a b]
    · simp
theorem cpl_stop {a b : List UInt8} (h : a = [] ∨ b = [] ∨ a.head? ≠ b.head?) : cpl a b = 0 := by
  rcases a with _ | ⟨x, a⟩
  · simp [cpl]
  · rcases b with _ | ⟨y, b⟩
    · simp [cpl]
    · simp at h
      simp [cpl, h]
theorem cpl_end {a b : List UInt8} {k : Nat} (ha : k ≤ a.length) (hb : k ≤ b.length) (h : a.take k = b.take k) (hs : k = a.length ∨ k = b.length ∨ ∃ (h1 : k < a.length) (h2 : k < b.length), a[k] ≠ b[k]) : cpl a b = k := by
  have hst : List.drop k a = [] ∨ List.drop k b = [] ∨ (List.drop k a).head? ≠ (List.drop k b).head? := by
    rcases hs with rfl | rfl | ⟨h1, h2, h3⟩
    · exact .inl (by simp)
    · exact .inr (.inl (by simp))
    · refine .inr (.inr ?_)
      rw [List.head?_drop, List.head?_drop, List.getElem?_eq_getElem h1, List.getElem?_eq_getElem h2]
      simpa using h3
  rw [cpl_next a b k ha hb h, cpl_stop hst]
  rfl

/-- of kind k, and no data: how many of the first ones -/
def rowGo (k : Int) : List Ce → Nat
  | [] => 0
  | c :: r => if c.1 ≠ 1 ∧ c.1 = k then rowGo k r + 1 else 0
def rowN : List Ce → Nat
  | [] => 0
  | c :: r => rowGo c.1 (c :: r)
theorem rowGo_le (k : Int) : ∀ l, rowGo k l ≤ l.length
  | [] => by simp [rowGo]
  | c :: r => by
    have := rowGo_le k r
    unfold rowGo
    split <;> simp <;> omega
theorem rowN_le (l : List Ce) : rowN l ≤ l.length := by
  cases l
  · simp [rowN]
  · exact rowGo_le _ _
theorem rowGo_end {k : Int} : ∀ {l : List Ce} {n : Nat}, n ≤ l.length → (∀ j (h : j < l.length), j < n → l[j].1 ≠ 1 ∧ l[j].1 = k) → (n = l.length ∨ ∃ h : n < l.length, ¬ (l[n].1 ≠ 1 ∧ l[n].1 = k)) → rowGo k l = n
  | [], n, hn, _, _ => by simp at hn; subst hn; rfl
  | c :: r, 0, _, _, hs => by
    rcases hs with h | ⟨h, hc⟩
    · simp at h
    · simp only [List.getElem_cons_zero] at hc
      unfold rowGo
      rw [if_neg hc]
  | c :: r, n + 1, hn, ha, hs => by
    have h0 := ha 0 (by simp) (by omega)
    simp only [List.getElem_cons_zero] at h0
    unfold rowGo
    rw [if_pos h0, rowGo_end (n := n) (by simpa using hn) (fun j h hj => by have := ha (j + 1) (by simpa using h) (by omega); simp only [List.getElem_cons_succ] at this; exact this)]
    rcases hs with h | ⟨h, hc⟩
    · exact .inl (by simpa using h)
    · exact .inr ⟨by simpa using h, by simp only [List.getElem_cons_succ] at hc; exact hc⟩
/-- the first error -/
def rchk : List Ce → Nat
  | [] => 0
  | c :: r => if cchk c ≠ 0 then cchk c else rchk r
theorem rchk_ok {l : List Ce} (h : ∀ c ∈ l, cchk c = 0) : rchk l = 0 := by
  induction l with
  | nil => rfl
  | cons c r ih =>
    unfold rchk
    rw [if_neg (by simpa using h c (by simp))]
    exact ih fun x hx => h x (by simp [hx])
theorem rchk_at : ∀ {l : List Ce} {k : Nat} (hk : k < l.length), (∀ c ∈ l.take k, cchk c = 0) → cchk l[k] ≠ 0 → rchk l = cchk l[k]
  | c :: r, 0, _, _, h => by
    unfold rchk
    simp only [List.getElem_cons_zero] at h ⊢
    rw [if_pos h]
  | c :: r, k + 1, hk, h, h2 => by
    have h0 := h c (by simp)
    unfold rchk
    rw [if_neg (by simpa using h0)]
    simp only [List.getElem_cons_succ] at h2 ⊢
    exact rchk_at (by simpa using hk) (fun x hx => h x (by simp [hx])) h2

/-- the bytes of a run, without its length, behind the data 'last' -/
def prun (last : List UInt8) : List Ce → List UInt8
  | [] => []
  | c :: r => if 0 < rowN (c :: r) then vb (rowN (c :: r)) ++ vb c.1.toNat ++ prun last ((c :: r).drop (rowN (c :: r)))
    else vb 0 ++ vb c.2.length ++ vb (cpl last c.2) ++ c.2.drop (cpl last c.2) ++ prun c.2 r
  termination_by l => l.length
  decreasing_by
    · simp only [List.length_drop, List.length_cons]; omega
    · simp
theorem prun_row {last : List UInt8} {l : List Ce} (h : 0 < rowN l) : ∃ k : Int, (∃ r d, l = (k, d) :: r) ∧ prun last l = vb (rowN l) ++ vb k.toNat ++ prun last (l.drop (rowN l)) := by
  cases l with
  | nil => simp [rowN] at h
  | cons c r =>
    refine ⟨c.1, ⟨r, c.2, rfl⟩, ?_⟩
    rw [prun, if_pos h]
theorem prun_data {last : List UInt8} {c : Ce} {r : List Ce} (h : rowN (c :: r) = 0) : prun last (c :: r) = vb 0 ++ vb c.2.length ++ vb (cpl last c.2) ++ c.2.drop (cpl last c.2) ++ prun c.2 r := by
  rw [prun, if_neg (by omega)]
theorem rowN_zero {c : Ce} {r : List Ce} : rowN (c :: r) = 0 ↔ c.1 = 1 := by
  unfold rowN rowGo
  by_cases h : c.1 = 1
  · simp [h]
  · simp [h]
end Go.Proofs.Ytgipfenjachpnaa

namespace Go.Proofs.Ytgipfenjachpnaa
open Go.RowKit

theorem cpl_comm : ∀ a b, cpl a b = cpl b a
  | [], [] => rfl
  | [], y :: b => rfl
  | x :: a, [] => rfl
  | x :: a, y :: b => by
    unfold cpl
    by_cases h : x = y
    · subst h; rw [if_pos rfl, if_pos rfl, cpl_comm a b]
    · rw [if_neg h, if_neg (fun e => h e.symm)]
abbrev b1 (n : Nat) : UInt8 := UInt8.ofNat n
/-- cell by cell, the kind of the one ahead known -/
def rgo (prev : Option Int) (last : List UInt8) : List Ce → List UInt8
  | [] => []
  | c :: r => if c.1 = 1 then [0, b1 c.2.length, b1 (cpl c.2 last)] ++ c.2.drop (cpl c.2 last) ++ rgo (some 1) c.2 r
    else if prev = some c.1 then rgo (some c.1) last r else [b1 (rowGo c.1 (c :: r)), b1 c.1.toNat] ++ rgo (some c.1) last r
theorem rgo_skip {k : Int} (hk : k ≠ 1) (last : List UInt8) : ∀ l : List Ce, rgo (some k) last l = rgo (some k) last (l.drop (rowGo k l))
  | [] => by simp
  | c :: r => by
    by_cases h : c.1 = k
    · have h1 : c.1 ≠ 1 := by omega
      rw [rowGo, if_pos ⟨h1, h⟩, List.drop_succ_cons, rgo, if_neg h1, if_pos (by rw [h]), h]
      exact rgo_skip hk last r
    · rw [rowGo, if_neg (fun e => h e.2), List.drop_zero]
theorem rowGo_stop (k : Int) : ∀ (l : List Ce) (c : Ce) (r : List Ce), l.drop (rowGo k l) = c :: r → ¬ (c.1 ≠ 1 ∧ c.1 = k)
  | [], c, r, h => by simp at h
  | x :: l, c, r, h => by
    by_cases hx : x.1 ≠ 1 ∧ x.1 = k
    · rw [rowGo, if_pos hx, List.drop_succ_cons] at h
      exact rowGo_stop k l c r h
    · rw [rowGo, if_neg hx, List.drop_zero] at h
      injection h with h1 h2
      subst h1
      exact hx
theorem rgo_prev {prev : Option Int} (last : List UInt8) {l : List Ce} (h : ∀ c r, l = c :: r → c.1 = 1 ∨ prev ≠ some c.1) : rgo prev last l = rgo none last l := by
  cases l with
  | nil => simp [rgo]
  | cons c r =>
    rw [rgo, rgo]
    by_cases h1 : c.1 = 1
    · rw [if_pos h1, if_pos h1]
    · have h2 := (h c r rfl).resolve_left h1
      rw [if_neg h1, if_neg h1, if_neg h2, if_neg (by simp)]
theorem rgo_prun : ∀ (n : Nat) (l : List Ce) (last : List UInt8), l.length ≤ n → l.length ≤ 64 → (∀ c ∈ l, cchk c = 0) → last.length ≤ 64 → rgo none last l = prun last l
  | _, [], last, _, _, _, _ => by rw [rgo, prun]
  | 0, c :: r, _, h, _, _, _ => by simp at h
  | n + 1, c :: r, last, hn, h64, hok, hl => by
    have hc := cchk_ok (hok c (by simp))
    have hcl := cpl_le last c.2
    simp only [List.length_cons] at hn h64
    by_cases h1 : c.1 = 1
    · rw [rgo, if_pos h1, prun_data (rowN_zero.2 h1), vb_small (by omega), vb_small (n := c.2.length) (by omega), vb_small (n := cpl last c.2) (by omega), cpl_comm c.2 last]
      rw [rgo_prev (prev := some 1) c.2 (fun x r' h => by
        by_cases hx : x.1 = 1
        · exact .inl hx
        · exact .inr (fun e => hx (by injection e with e; omega)))]
      rw [rgo_prun n r c.2 (by omega) (by omega) (fun x hx => hok x (by simp [hx])) (by omega)]
      rfl
    · have hrow : rowN (c :: r) = rowGo c.1 (c :: r) := rfl
      have hpos : 0 < rowN (c :: r) := by
        have := rowN_zero (c := c) (r := r)
        omega
      have hle := rowN_le (c :: r)
      simp only [List.length_cons] at hle
      obtain ⟨k, ⟨r', d, hk⟩, hp⟩ := prun_row (last := last) hpos
      injection hk with hk1 hk2
      have hkc : k = c.1 := by rw [hk1]
      subst hkc
      rw [hp, rgo, if_neg h1, if_neg (by simp), vb_small (n := rowN (c :: r)) (by omega), vb_small (n := c.1.toNat) (by omega), ← hrow]
      have hskip := rgo_skip h1 last r
      have hd : (c :: r).drop (rowN (c :: r)) = r.drop (rowGo c.1 r) := by
        rw [hrow, rowGo, if_pos ⟨h1, rfl⟩, List.drop_succ_cons]
      rw [hskip, hd, rgo_prev (prev := some c.1) last (fun x r' h => by
        have := rowGo_stop c.1 r x r' h
        by_cases hx : x.1 = 1
        · exact .inl hx
        · exact .inr (fun e => this ⟨hx, by injection e with e; exact e.symm⟩))]
      rw [rgo_prun n (r.drop (rowGo c.1 r)) last (by simp; omega) (by simp; omega) (fun x hx => hok x (by simp [List.mem_of_mem_drop hx])) hl]
      rfl
end Go.Proofs.Ytgipfenjachpnaa

namespace Go.Proofs.Ytgipfenjachpnaa
open Go.RowKit
attribute [local go_sem ↓] Go.wp_at_zero Go.wp_at_succ


theorem u8_eq_iff {x y : UInt8} : ((x.toNat : Int) == (y.toNat : Int)) = true ↔ x = y := by
  rw [beq_iff_eq]
  constructor
  · intro h; exact UInt8.toNat_inj.1 (by omega)
  · rintro rfl; rfl
set_option maxRecDepth 100000 in
set_option maxHeartbeats 1000000 in
theorem alike_any (A B : Option Addr) (c d : Nat) (xs ys : List UInt8) (w : World) (ha : SlB w A c xs) (hb : SlB w B d ys) :
    Calls Try.prog 110 #[.slice A xs.length c, .slice B ys.length d] w fun e w' => e = .returned (.int .i64 (cpl xs ys : Nat)) ∧ Below w.heap.size w w' := by
  have hm1 := ha.len_le
  have hm2 := hb.len_le
  unfold maxLen at hm1 hm2
  go_enter Try.func110, Try.ntmps110
  go_wp2_with fail
  go_loopw [5] (fun x wr => ∃ k : Nat, k ≤ xs.length ∧ k ≤ ys.length ∧ x = .int .i64 k ∧ Hid (xs.take k = ys.take k) ∧ Below w.heap.size w wr) (fun x w => xs.length - (intOf x).toNat)
  case atStart => exact ⟨0, Nat.zero_le _, Nat.zero_le _, rfl, (show _ = _ by simp), Below.refl _ _⟩
  case round =>
    obtain ⟨k, hk1, hk2, rfl, ht, hbr⟩ := hrel
    rcases Decidable.em (k < xs.length ∧ k < ys.length) with hlt | hlt
    · obtain ⟨hl1, hl2⟩ := hlt
      obtain ⟨ad, rfl, hc⟩ := (ha.below hbr).at1 hl1
      obtain ⟨ad2, rfl, hc2⟩ := (hb.below hbr).at1 hl2
      have hts := Lib.hid (take_succ_eq ht.out hl1 hl2)
      have hend := Lib.hid (fun h => cpl_end hk1 hk2 ht.out (.inr (.inr ⟨hl1, hl2, h⟩)))
      have hmin : decide ((k : Int) < min (xs.length : Int) (ys.length : Int)) = true := by simp; omega
      generalize xs[k] = x at *
      generalize ys[k] = y at *
      by_cases hxy : x = y
      · have hxb : ((x.toNat : Int) == (y.toNat : Int)) = true := u8_eq_iff.2 hxy
        have Hxy := Lib.hid hxy
        clear hxy
        go_wp2_with fail
        go_quiet (fail)
        go_wp2_with fail
        go_roundw
        case rel => exact ⟨k + 1, hl1, hl2, by go_num, hts.out.2 Hxy.out, below_drewN hbr _⟩
        case measure => simp [intOf]; omega
      · have hxb : ((x.toNat : Int) == (y.toNat : Int)) = false := by rw [Bool.eq_false_iff]; exact fun h => hxy (u8_eq_iff.1 h)
        have he := Lib.hid (hend.out hxy)
        clear hxy
        go_wp2_with fail
        go_quiet (fail)
        go_wp2_with fail
        go_ret
        exact ⟨by rw [he.out]; rfl, below_drewN hbr _⟩
    · have hmin : decide ((k : Int) < min (xs.length : Int) (ys.length : Int)) = false := by simp; omega
      have he := Lib.hid (cpl_end hk1 hk2 ht.out (by omega))
      go_wp2_with fail
      go_quiet (fail)
      go_wp2_with fail
      go_ret
      exact ⟨by rw [he.out]; rfl, below_drewN hbr _⟩

set_option maxRecDepth 100000 in
set_option maxHeartbeats 1000000 in
theorem row_any {E : Option Addr} {cap : Nat} (l : List CeV) (w : World) (h : SlC w E cap l) : Calls Try.prog 116 #[.slice E l.length cap] w fun e w' => e = .returned (.int .i64 (rowN (l.map ceOf) : Nat)) ∧ Below w.heap.size w w' := by
  have hmax := h.1.len_le
  unfold maxLen at hmax
  rcases Nat.eq_zero_or_pos l.length with h0 | hpos
  · obtain rfl := List.eq_nil_of_length_eq_zero h0
    clear h0
    go_enter Try.func116, Try.ntmps116
    go_wp2_with fail
    refine wp_loop_rounds 1 ?_
    rw [rounds_succ]
    have hlt : decide ((0 : Int) < 0) = false := by decide
    go_wp2_with fail
    go_quiet (fail)
    go_wp2_with fail
    go_ret
    exact ⟨rfl, below_drewN (Below.refl _ _) _⟩
  · have hend : ∀ n, n ≤ (l.map ceOf).length → (∀ j (h : j < (l.map ceOf).length), j < n → (l.map ceOf)[j].1 ≠ 1 ∧ (l.map ceOf)[j].1 = (l[0]'hpos).1) → (n = (l.map ceOf).length ∨ ∃ h : n < (l.map ceOf).length, ¬ ((l.map ceOf)[n].1 ≠ 1 ∧ (l.map ceOf)[n].1 = (l[0]'hpos).1)) → rowGo (l[0]'hpos).1 (l.map ceOf) = n := fun n hn ha hs => rowGo_end hn ha hs
    have hrow : rowN (l.map ceOf) = rowGo (l[0]'hpos).1 (l.map ceOf) := by
      cases l
      · simp at hpos
      · rfl
    obtain ⟨ad0, b0, o0, hE0, had0, hc00, _, _⟩ := h.at2 (k := 0) hpos
    have HE := Lib.hid hend
    have HR := Lib.hid hrow
    clear hend hrow
    obtain rfl : ad0 = ⟨b0, o0, none⟩ := by simpa [Addr.add] using had0
    subst hE0
    generalize l[0].1 = k0 at *
    clear had0
    go_enter Try.func116, Try.ntmps116
    go_wp2_with fail
    go_loopw [3] (fun x wr => ∃ n : Nat, n ≤ l.length ∧ x = .int .i64 n ∧ Hid (∀ j (h : j < (l.map ceOf).length), j < n → (l.map ceOf)[j].1 ≠ 1 ∧ (l.map ceOf)[j].1 = k0) ∧ Below w.heap.size w wr) (fun x w => l.length - (intOf x).toNat)
    case atStart => exact ⟨0, Nat.zero_le _, rfl, (fun j _ hj => by omega), Below.refl _ _⟩
    case round =>
      obtain ⟨n, hn, rfl, hall, hbr⟩ := hrel
      have hbl := World.block_lt_of_cell? w _ hc00
      have hc00r := (hbr.cell (p := ⟨b0, o0, none⟩) hbl).trans hc00
      by_cases hlt : n < l.length
      · obtain ⟨ad, b, o, hE, had, hc0, _, _⟩ := (h.below hbr).at2 hlt
        injection hE with hE
        subst hE
        rw [addr_lit] at had
        injection had with hb hoo
        subst hb
        subst hoo
        have hst := Lib.hid (fun hc => HE.out n (by simpa using hn) hall.out (.inr ⟨by simpa using hlt, by simpa using hc⟩))
        have hnx : Hid (l[n].1 ≠ 1 → l[n].1 = k0 → ∀ j (h : j < (l.map ceOf).length), j < n + 1 → (l.map ceOf)[j].1 ≠ 1 ∧ (l.map ceOf)[j].1 = k0) := (show _ → _ → _ from fun h1 h2 j hj hjn => by
          by_cases e : j = n
          · subst e; simpa using ⟨h1, h2⟩
          · exact hall.out j hj (by omega))
        generalize l[n].1 = k at *
        rcases Decidable.em (k = 1) with h1 | h1
        · have hb1 : (k != 1) = false := by simpa using h1
          have hR := Lib.hid (hst.out (fun h => absurd h1 h))
          clear h1
          go_wp2_with fail
          go_quiet (fail)
          go_wp2_with fail
          go_ret
          exact ⟨by rw [HR.out, hR.out]; rfl, below_drewN hbr _⟩
        · have hb1 : (k != 1) = true := by simpa using h1
          rcases Decidable.em (k = k0) with h2 | h2
          · have hb2 : (k == k0) = true := by simpa using h2
            have hN := Lib.hid (hnx.out h1 h2)
            clear h1 h2
            go_wp2_with fail
            go_quiet (fail)
            go_wp2_with fail
            go_roundw
            case rel => exact ⟨n + 1, hlt, by go_num, hN.out, below_drewN hbr _⟩
            case measure => simp [intOf]; omega
          · have hb2 : (k == k0) = false := by simpa using h2
            have hR := Lib.hid (hst.out (fun _ => h2))
            clear h1 h2
            go_wp2_with fail
            go_quiet (fail)
            go_wp2_with fail
            go_ret
            exact ⟨by rw [HR.out, hR.out]; rfl, below_drewN hbr _⟩
      · have hR := Lib.hid (HE.out n (by simpa using hn) hall.out (.inl (by simp; omega)))
        go_wp2_with fail
        go_quiet (fail)
        go_wp2_with fail
        go_ret
        exact ⟨by rw [HR.out, hR.out]; rfl, below_drewN hbr _⟩
end Go.Proofs.Ytgipfenjachpnaa
