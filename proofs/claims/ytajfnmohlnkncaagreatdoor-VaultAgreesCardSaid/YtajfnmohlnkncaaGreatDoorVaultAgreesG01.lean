/- WHAT IT HOLDS: words for memory (slices that can be read, slices of the call's own) and the law of append over them; over any program. | WHAT IT HOLDS: the bytes of a number, plainly (no program). | WHAT IT HOLDS: manifests, plainly (no program): which there are. | WHAT IT HOLDS: cells, plainly (no program): which there are, which may become which. | WHAT IT HOLDS: the bytes of a run of cells, plainly (no program). | WHAT IT HOLDS: the document's bytes of a run, plainly, are the same (no program). | WHAT IT HOLDS: append as a step of a region that draws. | WHAT IT HOLDS: what the functions of the package varint compute, walked. -/
import Derived.OrdersHeld
import Derived.Deep.RegionHeld
import Derived.KernelRfl
import Derived.WalkKit
import Derived.Maps.AppendAt
import Derived.WalkSpells
import Derived.WalkLawsBesides
import Derived.Lib.Hide
import Derived.Laws.IdiomStrings
import Derived.Deep.QuietTactic
import Derived.BigQuiet
import Derived.Deep.DeepMust
import Derived.Laws.BitsAllLaws
import Derived.Laws.Bits64
import Derived.Deep.RegionHeld3
import Derived.Deep.DrawnRows
import Derived.Deep.DeepCutAuto
import Derived.Test.YtajfnmohlnkncaaGreatDoorRows
namespace Go.Proofs.YtajfnmohlnkncaaGreatDoor
section
theorem pS0 {α : Type} {l : List α} {i : Nat} {a : α} : l.toArray.setIfInBounds i a = (l.set i a).toArray := List.setIfInBounds_toArray ..
theorem pS1 {α : Type} {l : List α} {a b : α} : (a :: l).set 0 b = b :: l := rfl
theorem pS2 {α : Type} {l : List α} {a b : α} {n : Nat} : (a :: l).set (n + 1) b = a :: l.set n b := rfl
theorem wR1 {P : Program} {ops : Array Oper} {Q : Exit → Act → World → Prop} {md : Region.Mode} {S : World → Prop} {i : Nat} {o : Oper} {fuel : Nat} {listed : Array Bool} {a : Act} {w : World}
 (ho : ops[i]? = some o) (h : ∀ K' : Act → World → Prop, Shut (∀ a w, S w → (S w → wpAnyH P md ops Q S fuel (listed.setIfInBounds i true) a w) → K' a w) → if Region.wanted o (yielded ops a.tmps) = true then Oper.wp P o a w K' Q else K' (a.put o.dst undef) w)
 (hr : Region.ready md ops listed = [i] := by kernel_rfl) : wpAnyH P md ops Q S (fuel + 1) listed a w := wpAnyH_ready hr (by simp) (AllReadyH.cons ho h AllReadyH.nil)
theorem wTk {P : Program} {ops : Array Oper} {Q : Exit → Act → World → Prop} {md : Region.Mode} {S : World → Prop} {i : Nat} {oi : Oper} {v : Value} {fuel : Nat} {listed : Array Bool} {a : Act} {w : World} (hi : ops[i]? = some oi)
 (hy : Region.wanted oi (yielded ops a.tmps) = true ∧ ∀ w, S w → (execOp a.eval oi).run P w = .ok (.value v) w) (hS : S w)
 (h : wpAnyH P md ops Q S fuel (listed.setIfInBounds i true) (a.put oi.dst v) w)
 (hs : Region.noSelect ops = true := by kernel_rfl) (hf : Region.free md ops listed i = true := by kernel_rfl) (hr : (Region.ready md ops listed).contains i = true := by kernel_rfl)
 (hQ : ∀ c a w, Q (.panic c) (a.put oi.dst v) w → Q (.panic c) a w := by exact fun _ _ _ h => h) : wpAnyH P md ops Q S (fuel + 1) listed a w :=
 wpAnyH_take hi hs hf hr hQ (Or.inl hy) hS h
open Go.RowKit
abbrev bv (b : UInt8) : Value := .int .u8 (b.toNat : Int)
abbrev bvs (l : List UInt8) : List Value := l.map bv
theorem addr_add_add (a : Addr) (i j : Nat) : (a.add i).add j = a.add (i + j) := by
 unfold Addr.add
 by_cases hi : i = 0 <;> by_cases hj : j = 0 <;> simp [hi, hj, Nat.add_assoc]
theorem addr_add_block (a : Addr) (i : Nat) : (a.add i).block = a.block := by unfold Addr.add; split <;> rfl
theorem addr_lit (g i j : Nat) : (⟨g, i, none⟩ : Addr).add j = ⟨g, i + j, none⟩ := by unfold Addr.add; split <;> simp_all
def Keep (w w' : World) : Prop := ∀ (p : Addr) (v : Value), w.cell? p = some v → w'.cell? p = some v
theorem keep_of_below {w w' : World} (h : Below w.heap.size w w') : Keep w w' := fun p _ e => (h.cell (World.block_lt_of_cell? w p e)).trans e
def Rd (w : World) (A : Option Addr) (xs : List Value) : Prop := ∀ j u, xs[j]? = some u → ∃ ad, A = some ad ∧ w.cell? (ad.add j) = some u
section
variable {w w' : World} {A : Option Addr} {xs : List Value}
theorem Rd.nil (w : World) (A : Option Addr) : Rd w A [] := fun j u h => by simp at h
theorem Rd.keep (h : Rd w A xs) (k : Keep w w') : Rd w' A xs := fun j u hj => by
 obtain ⟨ad, e, hc⟩ := h j u hj
 exact ⟨ad, e, k _ _ hc⟩
theorem Rd.below (h : Rd w A xs) (hb : Below w.heap.size w w') : Rd w' A xs := h.keep (keep_of_below hb)
theorem Rd.at (h : Rd w A xs) {k : Nat} (hk : k < xs.length) : ∃ ad, A = some ad ∧ w.cell? (ad.add k) = some xs[k] := h k _ (List.getElem?_eq_getElem hk)
theorem Rd.take (h : Rd w A xs) (k : Nat) : Rd w A (xs.take k) := fun j u hj => by
 rw [List.getElem?_take] at hj
 split at hj
 · exact h j u hj
 · cases hj
theorem Rd.cut (h : Rd w A xs) (k cap : Nat) (hk : k < xs.length → k ≠ cap) : Rd w (if cap = k then A else A.map (·.add k)) (xs.drop k) := fun j u hj => by
 rw [List.getElem?_drop] at hj
 obtain ⟨ad, rfl, hc⟩ := h _ u hj
 have hl : k < xs.length := by have := (List.getElem?_eq_some_iff.1 hj).1; omega
 rw [if_neg (fun e => hk hl e.symm)]
 exact ⟨ad.add k, rfl, by rw [addr_add_add]; exact hc⟩
theorem Rd.lit (w : World) (cs : List Value) (t : TypeId) : Rd (w.alloc (.cells cs.toArray t)) (some ⟨w.heap.size, 0, none⟩) cs := fun j u hj => by
 refine ⟨_, rfl, ?_⟩
 rw [addr_lit, cell_of_row _ _ _ _ t (0, 0) (heap_alloc_new w _)]
 simpa using hj
end
abbrev Own (w : World) (base : Nat) (e : TypeId) (size : Nat) (A : Option Addr) (n c : Nat) (xs : List Value) : Prop := w.ownsRow base e size (.slice A n c) n xs
def Sl (w : World) (size : Nat) (A : Option Addr) (n c : Nat) (xs : List Value) : Prop := xs.length = n * size ∧ n ≤ c ∧ c ≤ maxLen ∧ (A = none → c = 0) ∧ Rd w A xs
section
variable {w w' : World} {base : Nat} {e : TypeId} {size n c : Nat} {A : Option Addr} {xs : List Value}
theorem Own.sl (h : Own w base e size A n c xs) : Sl w size A n c xs := by
 obtain ⟨h1, h2⟩ := h
 rcases h2 with ⟨hv, hn⟩ | ⟨g, cap, cur, hv, hb, hh, hnc, hcm, hcs, ht⟩
 · injection hv with hA _ hc
   subst hA
   subst hc
   exact ⟨h1, by omega, by simp [maxLen], fun _ => rfl, by
    rw [show xs = [] from List.eq_nil_of_length_eq_zero (by rw [h1, hn, Nat.zero_mul])]
    exact Rd.nil _ _⟩
 · injection hv with hA _ hc
   subst hc
   refine ⟨h1, hnc, hcm, (fun e => by rw [hA] at e; cases e), fun j u hj => ?_⟩
   have h' : w.ownsRow base e size (.slice A n c) n xs := ⟨h1, .inr ⟨g, c, cur, by rw [hA], hb, hh, hnc, hcm, hcs, ht⟩⟩
   exact ⟨⟨g, 0, none⟩, hA, h'.cells (g := g) (by rw [hA]; rfl) j u hj⟩
theorem Own.below (h : Own w base e size A n c xs) (hb : Below w.heap.size w w') : Own w' base e size A n c xs := by
 obtain ⟨h1, h2⟩ := h
 refine ⟨h1, ?_⟩
 rcases h2 with h2 | ⟨g, cap, cur, hv, hg, hh, r⟩
 · exact Or.inl h2
 · exact Or.inr ⟨g, cap, cur, hv, hg, (hb.block g (Array.getElem?_eq_some_iff.1 hh).1).trans hh, r⟩
theorem Own.none_ (w : World) (base : Nat) (e : TypeId) (size : Nat) : Own w base e size none 0 0 [] := World.ownsRow_nil w base e size
theorem Own.more {base' : Nat} (h : Own w base e size A n c xs) (hb : base' ≤ base) : Own w base' e size A n c xs := by
 obtain ⟨h1, h2⟩ := h
 refine ⟨h1, ?_⟩
 rcases h2 with h2 | ⟨g, cap, cur, hv, hg, r⟩
 · exact Or.inl h2
 · exact Or.inr ⟨g, cap, cur, hv, by omega, r⟩
theorem Sl.below (h : Sl w size A n c xs) (hb : Below w.heap.size w w') : Sl w' size A n c xs := ⟨h.1, h.2.1, h.2.2.1, h.2.2.2.1, h.2.2.2.2.below hb⟩
theorem Sl.none_ (w : World) (size : Nat) : Sl w size none 0 0 [] := ⟨by simp, by omega, by simp [maxLen], fun _ => rfl, Rd.nil _ _⟩
end
structure Appd (w w' : World) (base : Nat) (e : TypeId) (size : Nat) (A A' : Option Addr) (n' c' : Nat) (xs : List Value) : Prop where
 own : Own w' base e size A' n' c' xs
 grown : w.grownBy w' (A.map (·.block))
 place : A'.map (·.block) = A.map (·.block) ∨ A'.map (·.block) = some w.heap.size
theorem ownBlock_slice (A : Option Addr) (n c : Nat) : (Value.slice A n c).ownBlock = A.map (·.block) := by cases A <;> rfl
theorem run_append_rd {P : Program} (w : World) (base : Nat) (t ty e : TypeId) (i : TypeInfo) (z : Value) (size bytes : Nat) (ht : P.underlying t = some (.slice e)) (hi : P.info? e = some i) (hz : i.zero = some z)
 (hsize : i.size = size) (hby : i.bytes = bytes) (hzs : z.cells.size = size) (hsz : 0 < size)
 (A : Option Addr) (n c : Nat) (xs : List Value) (hown : Own w base e size A n c xs)
 (A2 : Option Addr) (m c2 : Nat) (news : List Value) (hr : Sl w size A2 m c2 news) (h1 : ∀ u ∈ news, u.oneCell' = true)
 (hbytes : (n + m) * bytes ≤ 140737488355328) (hmax : n + m ≤ maxLen) (hbase : base ≤ w.heap.size) :
 ∃ A' c' w', (Builtin.append_ #[t, t] ty #[.slice A n c, .slice A2 m c2]).run P w = .ok (.slice A' (n + m) c') w' ∧ Appd w w' base e size A A' (n + m) c' (xs ++ news) := by
 obtain ⟨hl2, hmc, _, hnil, hrd⟩ := hr
 rcases A2 with _ | ad
 · obtain rfl := hnil rfl
   have hm : m = 0 := by omega
   subst hm
   have hn : news = [] := List.eq_nil_of_length_eq_zero (by rw [hl2, Nat.zero_mul])
   subst hn
   have hrun := run_append_owned_none (P := P) (w := w) base t ty e i size ht hi _ _ _ hown
   exact ⟨A, c, w, by simpa using hrun, by simpa using hown, World.grownBy.refl w _, .inl rfl⟩
 · have hcells : ∀ j u, news[j]? = some u → w.cell? (ad.add j) = some u := by
    intro j u hu
    obtain ⟨_, h, hc⟩ := hrd j u hu
    injection h with h
    subst h
    exact hc
   obtain ⟨v', w', hrun, h2, h3, _, h5⟩ := run_append_own_at (P := P) w base t ty e i z size bytes ht hi hz hsize hby hzs hsz _ _ _ hown ad m c2 news hl2 hcells h1 hmax hbytes hbase
   have hform : ∃ A' c', v' = .slice A' (n + m) c' := by
    rcases h2.2 with ⟨rfl, hn⟩ | ⟨g, cap, _, rfl, _⟩
    · exact ⟨none, 0, by rw [hn]⟩
    · exact ⟨_, _, rfl⟩
   obtain ⟨A', c', rfl⟩ := hform
   rw [ownBlock_slice] at h3
   rw [ownBlock_slice, ownBlock_slice] at h5
   exact ⟨A', c', w', hrun, h2, h3, h5⟩
theorem wpl_append {P : Program} {w : World} {ops : Array Oper} {rest : List Oper} {o : Oper} {a : Act} {Q : Exit → Act → World → Prop} (hgd : o.guard = none) (s x : Operand) (t : TypeId)
 (ho : o.op = .call { callee := .builtin .append, args := #[s, x], argTypes := #[t, t] })
 (base : Nat) (e : TypeId) (i : TypeInfo) (z : Value) (size bytes : Nat) (ht : P.underlying t = some (.slice e)) (hi : P.info? e = some i) (hz : i.zero = some z)
 (hsize : i.size = size) (hby : i.bytes = bytes) (hzs : z.cells.size = size) (hsz : 0 < size)
 (A : Option Addr) (n c : Nat) (xs : List Value) (hs : a.eval s = .slice A n c) (hown : Own w base e size A n c xs)
 (A2 : Option Addr) (m c2 : Nat) (news : List Value) (hx : a.eval x = .slice A2 m c2) (hr : Sl w size A2 m c2 news) (h1 : ∀ u ∈ news, u.oneCell' = true)
 (hbytes : (n + m) * bytes ≤ 140737488355328) (hmax : n + m ≤ maxLen) (hbase : base ≤ w.heap.size)
 (h : ∀ A' c' w', Appd w w' base e size A A' (n + m) c' (xs ++ news) → wpList P ops Q rest (a.put o.dst (.slice A' (n + m) c')) w') : wpList P ops Q (o :: rest) a w :=
 wpList_plain hgd fun _ hK => by
  obtain ⟨A', c', w', hrun, h2⟩ := run_append_rd (P := P) w base t o.type e i z size bytes ht hi hz hsize hby hzs hsz A n c xs hown A2 m c2 news hr h1 hbytes hmax hbase
  unfold Oper.wp execOp
  simp only [ho, resolve, invoke, builtin, Sem.run_bind, Sem.run_pure, Result.andThen_ok, List.map_toArray, List.map_cons, List.map_nil, hs, hx, hrun]
  exact hK _ _ (h A' c' w' h2)
theorem Sl.one {w : World} {u : Value} {t : TypeId} : Sl (w.alloc (.cells #[u] t)) 1 (some ⟨w.heap.size, 0, none⟩) 1 1 [u] :=
 ⟨rfl, by omega, by simp [maxLen], (fun h => by cases h), Rd.lit w [u] t⟩
theorem Own.lt {w : World} {base : Nat} {e : TypeId} {size n c : Nat} {A : Option Addr} {xs : List Value} (h : Own w base e size A n c xs) : ∀ k, A.map (·.block) = some k → base ≤ k ∧ k < w.heap.size := fun k hk =>
 World.ownsRow.lt h k (by rw [ownBlock_slice]; exact hk)
theorem Appd.below {w w' : World} {base : Nat} {e : TypeId} {size n c n' c' : Nat} {A A' : Option Addr} {xs xs' : List Value} (h : Appd w w' base e size A A' n' c' xs') (ho : Own w base e size A n c xs) (hb : base ≤ w.heap.size) : Below base w w' :=
 (Below.refl _ _).grown h.grown hb (fun k hk => (ho.lt k hk).1)
abbrev OwnB (w : World) (base : Nat) (e : TypeId) (A : Option Addr) (c : Nat) (l : List UInt8) : Prop := Own w base e 1 A l.length c (bvs l)
abbrev SlB (w : World) (A : Option Addr) (c : Nat) (l : List UInt8) : Prop := Sl w 1 A l.length c (bvs l)
theorem one_bvs (l : List UInt8) : ∀ u ∈ bvs l, u.oneCell' = true := by
 intro u hu
 simp only [List.mem_map] at hu
 obtain ⟨b, _, rfl⟩ := hu
 rfl
theorem wpl_bytes {P : Program} {w : World} {ops : Array Oper} {rest : List Oper} {o : Oper} {a : Act} {Q : Exit → Act → World → Prop} (t e : TypeId) (ht : P.underlying t = some (.slice e))
 (hinfo : (P.info? e).map (fun i => (i.zero, i.size, i.bytes)) = some (some (.int .u8 0), 1, 1)) (hgd : o.guard = none) (s x : Operand)
 (ho : o.op = .call { callee := .builtin .append, args := #[s, x], argTypes := #[t, t] })
 (base : Nat) (A : Option Addr) (c : Nat) (l : List UInt8) (hs : a.eval s = .slice A l.length c) (hown : OwnB w base e A c l)
 (A2 : Option Addr) (c2 : Nat) (l2 : List UInt8) (hx : a.eval x = .slice A2 l2.length c2) (hr : SlB w A2 c2 l2)
 (hlen : l.length + l2.length ≤ 140737488355328) (hbase : base ≤ w.heap.size)
 (h : ∀ A' c' (m : List UInt8) w', Hid (m = l ++ l2) → OwnB w' base e A' c' m → w.grownBy w' (A.map (·.block)) → (A'.map (·.block) = A.map (·.block) ∨ A'.map (·.block) = some w.heap.size) → Below base w w' →
  wpList P ops Q rest (a.put o.dst (.slice A' m.length c')) w') : wpList P ops Q (o :: rest) a w := by
 obtain ⟨i0, hi, hz0, hz1, hz2⟩ := info_parts hinfo
 refine wpl_append hgd s x t ho base e i0 (.int .u8 0) 1 1 ht hi hz0 hz1 hz2 rfl (by decide) A l.length c (bvs l) hs hown A2 l2.length c2 (bvs l2) hx hr (one_bvs l2) (by omega) (by simp only [maxLen]; omega) hbase ?_
 intro A' c' w' hap
 rw [← List.length_append]
 refine h A' c' (l ++ l2) w' rfl ?_ hap.grown hap.place (hap.below hown hbase)
 have := hap.own
 simpa [OwnB] using this
theorem wpl_byte {P : Program} {w : World} {ops : Array Oper} {rest : List Oper} {o : Oper} {a : Act} {Q : Exit → Act → World → Prop} (t e : TypeId) (ht : P.underlying t = some (.slice e))
 (hinfo : (P.info? e).map (fun i => (i.zero, i.size, i.bytes)) = some (some (.int .u8 0), 1, 1)) (hgd : o.guard = none) (s x : Operand)
 (ho : o.op = .call { callee := .builtin .append, args := #[s, x], argTypes := #[t, t] })
 (base : Nat) (A : Option Addr) (c : Nat) (l : List UInt8) (z : Int) (b : UInt8) (hz : z = (b.toNat : Int)) (hs : a.eval s = .slice A l.length c) (hown : OwnB w base e A c l)
 (hx : a.eval x = .slice (some ⟨w.heap.size, 0, none⟩) 1 1) (hlen : l.length ≤ 100000000000000) (hbase : base ≤ w.heap.size)
 (h : ∀ A' c' (m : List UInt8) w', Hid (m = l ++ [b]) → OwnB w' base e A' c' m → (w.alloc (.cells #[.int .u8 z] e)).grownBy w' (A.map (·.block)) →
  (A'.map (·.block) = A.map (·.block) ∨ A'.map (·.block) = some (w.heap.size + 1)) → Below base w w' →
  wpList P ops Q rest (a.put o.dst (.slice A' m.length c')) w') : wpList P ops Q (o :: rest) a (w.alloc (.cells #[.int .u8 z] e)) := by
 subst hz
 have hbl : Below base w (w.alloc (.cells #[.int .u8 (b.toNat : Int)] e)) := (Below.refl _ _).alloc hbase _
 refine wpl_bytes t e ht hinfo hgd s x ho base A c l hs (hown.alloc _) (some ⟨w.heap.size, 0, none⟩) 1 [b] hx Sl.one (by simp; omega) (by simp; omega) ?_
 intro A' c' m w' hm ho' hg hp hb
 exact h A' c' m w' hm ho' hg (by simpa using hp) (hbl.trans hb)
theorem SlB.of_none {w : World} {c : Nat} {l : List UInt8} (h : SlB w none c l) : c = 0 ∧ l = [] := by
 obtain rfl := h.2.2.2.1 rfl
 exact ⟨rfl, List.eq_nil_of_length_eq_zero (by have := h.2.1; omega)⟩
theorem Own.lit {w : World} {base : Nat} {e : TypeId} (size : Nat) (h : base ≤ w.heap.size) : Own (w.alloc (.cells #[] e)) base e size (some ⟨w.heap.size, 0, none⟩) 0 0 [] :=
 World.ownsRow_made w #[] 0 h (by simp [maxLen]) (by simp)
theorem Sl.len_le {w : World} {size n c : Nat} {A : Option Addr} {xs : List Value} (h : Sl w size A n c xs) : n ≤ maxLen := Nat.le_trans h.2.1 h.2.2.1
theorem Sl.at1 {w : World} {n c : Nat} {A : Option Addr} {T : Type} {f : T → Value} {l : List T} (h : Sl w 1 A n c (l.map f)) {k : Nat} (hk : k < l.length) : ∃ ad, A = some ad ∧ w.cell? (ad.add k) = some (f l[k]) := by
 obtain ⟨ad, hA, hc⟩ := h.2.2.2.2.at (k := k) (by simpa using hk)
 exact ⟨ad, hA, by simpa using hc⟩
theorem Sl.lits (w : World) (cs : List Value) (t : TypeId) (h : cs.length ≤ maxLen) : Sl (w.alloc (.cells cs.toArray t)) 1 (some ⟨w.heap.size, 0, none⟩) cs.length cs.length cs :=
 ⟨by simp, Nat.le_refl _, h, (fun h => by cases h), Rd.lit w cs t⟩
theorem below_new (w : World) (o : Obj) : Below w.heap.size w (w.alloc o) := (Below.refl _ _).alloc (Nat.le_refl _) o
theorem size_new (w : World) (o : Obj) : w.heap.size ≤ (w.alloc o).heap.size := by simp
theorem conv_str {P : Program} {w : World} (src dst e : TypeId) (hs : P.underlying src = some (.slice e)) (he : P.underlying e = some (.int .u8)) (hd : P.underlying dst = some .string)
 {A : Option Addr} {c n : Nat} {l : List UInt8} (h : SlB w A c l) (hn : n = l.length) : (convert src dst (.slice A n c)).run P w = .ok (.string ⟨l.toArray⟩) w := by
 subst hn
 cases A with
 | none =>
  obtain ⟨rfl, rfl⟩ := h.of_none
  exact (run_convert_bytes_string w src dst e none 0 0 hs he hd).trans rfl
 | some a =>
  refine run_convert_bytes_back w src dst e a c l hs he hd fun j hj => ?_
  obtain ⟨ad, hA, hc⟩ := h.at1 hj
  injection hA with hA
  subst hA
  exact hc
theorem Sl.take {w : World} {n c : Nat} {A : Option Addr} {xs : List Value} (h : Sl w 1 A n c xs) {k : Nat} (hk : k ≤ n) : Sl w 1 A k c (xs.take k) :=
 ⟨by have := h.1; simp; omega, Nat.le_trans hk h.2.1, h.2.2.1, h.2.2.2.1, h.2.2.2.2.take k⟩
theorem Sl.takeB {w : World} {c : Nat} {A : Option Addr} {l : List UInt8} (h : SlB w A c l) (k : Nat) : SlB w A c (l.take k) := by
 have := Sl.take h (k := (l.take k).length) (by simp; omega)
 rw [show (bvs l).take (l.take k).length = bvs (l.take k) from by
  simp only [bvs, List.map_take, List.length_take]
  rw [List.take_eq_take_iff]
  simp] at this
 exact this
theorem below_drewN {B : Nat} {a w : World} (h : Below B a w) (n : Nat) : Below B a (w.drewN n) := ⟨h.os, h.tape, h.output, h.size, h.block⟩
theorem below_of_drew {a b : World} (h : Below a.drew.heap.size a.drew b) : Below a.heap.size a b := ⟨h.os, h.tape, h.output, h.size, h.block⟩
def Blk (w : World) (g : Nat) (t : TypeId) (cs : Array Value) : Prop := w.heap[g]? = some (.cells cs t (0, 0))
theorem Blk.lt {w : World} {g : Nat} {t : TypeId} {cs : Array Value} (h : Blk w g t cs) : g < w.heap.size := by
 rcases Nat.lt_or_ge g w.heap.size with hlt | hge
 · exact hlt
 · unfold Blk at h; rw [Array.getElem?_eq_none hge] at h; cases h
theorem Blk.cell {w : World} {g : Nat} {t : TypeId} {cs : Array Value} (h : Blk w g t cs) (i : Nat) : w.cell? ⟨g, i, none⟩ = cs[i]? := cell_of_row w g i cs t (0, 0) h
theorem Blk.frozen {w : World} {g : Nat} {t : TypeId} {cs : Array Value} (h : Blk w g t cs) (i : Nat) : w.frozen? ⟨g, i, none⟩ = false := by
 unfold Blk at h
 simp [World.frozen?, h]
theorem Blk.new (w : World) (t : TypeId) (cs : Array Value) : Blk (w.alloc (.cells cs t)) w.heap.size t cs := heap_alloc_new w _
theorem Blk.newAt {w : World} {g : Nat} (hg : g = w.heap.size) (t : TypeId) (cs : Array Value) : Blk (w.alloc (.cells cs t)) g t cs := by subst hg; exact Blk.new w t cs
theorem Blk.alloc {w : World} {g : Nat} {t : TypeId} {cs : Array Value} (h : Blk w g t cs) (o : Obj) : Blk (w.alloc o) g t cs := (Below.heap_alloc w o g h.lt).trans h
theorem Blk.below {w w' : World} {g : Nat} {t : TypeId} {cs : Array Value} (h : Blk w g t cs) (hb : Below w.heap.size w w') : Blk w' g t cs := (hb.block g h.lt).trans h
theorem Blk.two {w : World} {g : Nat} {t : TypeId} {a b : Value} (h : Blk w g t #[a, b]) : w.cell? ⟨g, 0, none⟩ = some a ∧ w.cell? ⟨g, 1, none⟩ = some b ∧
 w.frozen? ⟨g, 0, none⟩ = false ∧ w.frozen? ⟨g, 1, none⟩ = false := ⟨h.cell 0, h.cell 1, h.frozen 0, h.frozen 1⟩
theorem bel_alloc {a w : World} (h : Below a.heap.size a w) (o : Obj) : Below a.heap.size a (w.alloc o) := h.alloc h.size o
theorem bel_set {a w : World} (h : Below a.heap.size a w) {p : Addr} (hp : a.heap.size ≤ p.block) (u : Value) : Below a.heap.size a (w.setCell p u) := h.setCell hp u
theorem bel_call {a w w' : World} (h : Below a.heap.size a w) (k : Below w.heap.size w w') : Below a.heap.size a w' := h.trans (k.mono h.size)
theorem Blk.set_ {w : World} {g : Nat} {t : TypeId} {cs : Array Value} (h : Blk w g t cs) (i : Nat) (u : Value) : Blk (w.setCell ⟨g, i, none⟩ u) g t (cs.setIfInBounds i u) := by
 unfold Blk at h ⊢
 simp [World.setCell, Array.getElem?_modify, h]
theorem Blk.far {w : World} {g : Nat} {t : TypeId} {cs : Array Value} (h : Blk w g t cs) {p : Addr} (hp : g ≠ p.block) (u : Value) : Blk (w.setCell p u) g t cs := (Below.heap_setCell w p u g hp).trans h
theorem Blk.set2 {w : World} {g : Nat} {t : TypeId} {a b : Value} (h : Blk w g t #[a, b]) (x y : Value) : Blk ((w.setCell ⟨g, 0, none⟩ x).setCell ⟨g, 1, none⟩ y) g t #[x, y] :=
 (h.set_ 0 x).set_ 1 y
theorem Blk.drew {w : World} {g : Nat} {t : TypeId} {cs : Array Value} (h : Blk w g t cs) : Blk w.drew g t cs := h
theorem Blk.drewN {w : World} {g : Nat} {t : TypeId} {cs : Array Value} (h : Blk w g t cs) (n : Nat) : Blk (w.drewN n) g t cs := h
theorem wpl_fresh {P : Program} {w : World} {ops : Array Oper} {rest : List Oper} {o : Oper} {a : Act} {Q : Exit → Act → World → Prop} (t e : TypeId) (ht : P.underlying t = some (.slice e))
 (hinfo : (P.info? e).map (fun i => (i.zero, i.size, i.bytes)) = some (some (.int .u8 0), 1, 1)) (hgd : o.guard = none) (s x : Operand)
 (ho : o.op = .call { callee := .builtin .append, args := #[s, x], argTypes := #[t, t] })
 (hs : a.eval s = .slice (some ⟨w.heap.size, 0, none⟩) 0 0) (A2 : Option Addr) (c2 : Nat) (l2 : List UInt8) (hx : a.eval x = .slice A2 l2.length c2) (hr : SlB w A2 c2 l2) (hlen : l2.length ≤ 140737488355328)
 (h : ∀ A' c' (m : List UInt8) w', Hid (m = l2) → OwnB w' w.heap.size e A' c' m → Below w.heap.size w w' → wpList P ops Q rest (a.put o.dst (.slice A' m.length c')) w') : wpList P ops Q (o :: rest) a (w.alloc (.cells #[] e)) := by
 refine wpl_bytes t e ht hinfo hgd s x ho w.heap.size (some ⟨w.heap.size, 0, none⟩) 0 [] hs (Own.lit 1 (Nat.le_refl _)) A2 c2 l2 hx (hr.below (below_new _ _)) (by simpa using hlen) (by simp) ?_
 intro A' c' m w' hm ho' _ _ hb
 exact h A' c' m w' hm ho' ((below_new _ _).trans hb)
theorem Sl.cut {w : World} {n c : Nat} {A : Option Addr} {xs : List Value} (h : Sl w 1 A n c xs) {k : Nat} (hk : k ≤ n) : Sl w 1 (if c = k then A else A.map (·.add k)) (n - k) (c - k) (xs.drop k) := by
 obtain ⟨h1, h2, h3, h4, h5⟩ := h
 refine ⟨by simp; omega, by omega, by omega, fun e => ?_, ?_⟩
 · split at e
   · have := h4 e; omega
   · cases A with
     | none => have := h4 rfl; omega
     | some a => simp at e
 · exact h5.cut k c (by omega)
theorem Sl.cutB {w : World} {c : Nat} {A : Option Addr} {l : List UInt8} (h : SlB w A c l) {k : Nat} (hk : k ≤ l.length) : Sl w 1 (if c = k then A else A.map (·.add k)) (l.length - k) (c - k) (bvs (l.drop k)) := by
 have := Sl.cut h hk
 rwa [← List.map_drop] at this
end
section
open Go.RowKit
def vb (n : Nat) : List UInt8 := if n < 128 then [UInt8.ofNat n] else UInt8.ofNat (n % 128 + 128) :: vb (n / 128)
 termination_by n
theorem vb_small {n : Nat} (h : n < 128) : vb n = [UInt8.ofNat n] := by rw [vb, if_pos h]
theorem vb_step {n : Nat} (h : 128 ≤ n) : vb n = UInt8.ofNat (n % 128 + 128) :: vb (n / 128) := by rw [vb, if_neg (by omega)]
def vbs (l : List Nat) : List UInt8 := l.flatMap vb
theorem vb_le (k : Nat) : ∀ n, n < 128 ^ (k + 1) → (vb n).length ≤ k + 1 := by
 induction k with
 | zero => intro n h; rw [vb_small (by simpa using h)]; simp
 | succ k ih =>
  intro n h
  by_cases hn : n < 128
  · rw [vb_small hn]; simp
  · rw [vb_step (by omega), List.length_cons]
    have := ih (n / 128) (by rw [Nat.div_lt_iff_lt_mul (by omega)]; rw [Nat.pow_succ] at h; exact h)
    omega
theorem pow10 : (128 : Nat) ^ (9 + 1) = 1180591620717411303424 := by decide
theorem vb_le10 {n : Nat} (h : n ≤ 18446744073709551615) : (vb n).length ≤ 10 := vb_le 9 n (by rw [pow10]; omega)
def U64 (n : Nat) : Prop := n ≤ 18446744073709551615
theorem or128 : ∀ j : Fin 256, (BitVec.ofNat 8 j.val ||| 128#8).toNat = j.val % 128 + 128 := by decide +kernel
theorem byte_more (k : Nat) : bits BinOp.or IntKind.u8 ((k : Int) % 256) 128 = ((UInt8.ofNat (k % 128 + 128)).toNat : Int) := by
 have h1 : (BitVec.ofInt 8 ((k : Int) % 256)) = BitVec.ofNat 8 (k % 256) := by
  rw [show ((k : Int) % 256) = ((k % 256 : Nat) : Int) from by omega, BitVec.ofInt_natCast]
 have h2 : k % 256 < 256 := Nat.mod_lt _ (by decide)
 have h4 := or128 ⟨k % 256, h2⟩
 simp only at h4
 show IntKind.u8.wrap ((BitVec.ofInt 8 ((k : Int) % 256) ||| BitVec.ofInt 8 128).toNat : Int) = _
 rw [h1, show (BitVec.ofInt 8 128) = 128#8 from rfl, h4]
 have h5 : (UInt8.ofNat (k % 128 + 128)).toNat = k % 128 + 128 := by rw [UInt8.toNat_ofNat']; omega
 rw [h5, IntKind.wrap_u8]
 omega
theorem byte_last {k : Nat} (h : k < 128) : (k : Int) = ((UInt8.ofNat k).toNat : Int) := by
 rw [UInt8.toNat_ofNat']; omega
theorem U64.div {n : Nat} (h : U64 n) (k : Nat) : U64 (n / k) := Nat.le_trans (Nat.div_le_self n k) h
theorem vbs_le {l : List Nat} (h : ∀ n ∈ l, U64 n) : (vbs l).length ≤ 10 * l.length := by
 induction l with
 | nil => simp [vbs]
 | cons n l ih =>
  have h1 := vb_le10 (h n (by simp))
  have h2 := ih (fun k hk => h k (by simp [hk]))
  simp only [vbs, List.flatMap_cons, List.length_append, List.length_cons] at h2 ⊢
  omega
theorem vbs_snoc {l : List Nat} {k : Nat} (hk : k < l.length) : vbs (l.take (k + 1)) = vbs (l.take k) ++ vb l[k] := by
 unfold vbs; rw [List.take_succ_eq_append_getElem hk, List.flatMap_append]; simp only [List.flatMap_cons, List.flatMap_nil, List.append_nil]
def tk (i n : Nat) : List UInt8 → Option (Nat × Nat)
 | [] => none
 | x :: r => if 9 < i ∨ i = 9 ∧ 1 < x.toNat then none else if 128 ≤ x.toNat then tk (i + 1) (n + x.toNat % 128 * 128 ^ i) r
  else if x.toNat = 0 ∧ 0 < i then none else some (n + x.toNat * 128 ^ i, i + 1)
def take (l : List UInt8) : Option (Nat × Nat) := tk 0 0 l
theorem tk_drop {l : List UInt8} {k : Nat} (h : k < l.length) (i n : Nat) : tk i n (l.drop k) = if 9 < i ∨ i = 9 ∧ 1 < l[k].toNat then none else if 128 ≤ l[k].toNat then tk (i + 1) (n + l[k].toNat % 128 * 128 ^ i) (l.drop (k + 1))
 else if l[k].toNat = 0 ∧ 0 < i then none else some (n + l[k].toNat * 128 ^ i, i + 1) := by
 rw [List.drop_eq_getElem_cons h, tk]
theorem tk_end (n : Nat) : ∀ l, tk 10 n l = none
 | [] => rfl
 | x :: r => by rw [tk, if_pos (Or.inl (by omega))]
theorem pow9 : (128 : Nat) ^ 9 = 9223372036854775808 := by decide
theorem pow128_le {i : Nat} (h : i ≤ 9) : 128 ^ i ≤ 9223372036854775808 := by rw [← pow9]; exact Nat.pow_le_pow_right (by decide) h
theorem pow128_succ (i : Nat) : (128 : Nat) ^ (i + 1) = 128 ^ i * 128 := Nat.pow_succ ..
theorem two_pow7 (k : Nat) : (2 : Nat) ^ (7 * k) = 128 ^ k := by rw [Nat.pow_mul]
theorem andNot128 : ∀ j : Fin 256, bits .andNot .u8 (j.val : Int) 128 = ((j.val % 128 : Nat) : Int) := by decide +kernel
theorem part_bound {x k : Nat} (hk : k ≤ 9) (h9 : k = 9 → x ≤ 1) : x % 128 * 128 ^ k < 18446744073709551616 := by
 by_cases h : k = 9
 · subst h
   have := h9 rfl
   rw [pow9]
   have h2 : x % 128 ≤ 1 := by omega
   have := Nat.mul_le_mul_right 9223372036854775808 h2
   omega
 · have h1 : (128 : Nat) ^ (k + 1) ≤ 9223372036854775808 := pow128_le (by omega)
   rw [pow128_succ] at h1
   have h2 : x % 128 ≤ 127 := by omega
   have h3 := Nat.mul_le_mul_right (128 ^ k) h2
   omega
theorem or_part (x : UInt8) (n k : Nat) (hn : n < 128 ^ k) (hk : k ≤ 9) (h9 : k = 9 → x.toNat ≤ 1) :
 bits BinOp.or IntKind.u64 (n : Int) (IntKind.u64.wrap (IntKind.u64.wrap (bits BinOp.andNot IntKind.u8 (x.toNat : Int) 128) * 2 ^ (7 * k))) = ((n + x.toNat % 128 * 128 ^ k : Nat) : Int) := by
 have hx := x.toNat_lt
 have h1 := andNot128 ⟨x.toNat, by omega⟩
 simp only at h1
 have hb := part_bound hk h9
 have hnb : n < 18446744073709551616 := by have := pow128_le hk; omega
 rw [h1, IntKind.wrap_u64 ((x.toNat % 128 : Nat) : Int), show ((x.toNat % 128 : Nat) : Int) % 18446744073709551616 = ((x.toNat % 128 : Nat) : Int) from by omega]
 rw [show ((x.toNat % 128 : Nat) : Int) * 2 ^ (7 * k) = ((x.toNat % 128 * 128 ^ k : Nat) : Int) from by
  rw [← two_pow7]
  simp]
 rw [IntKind.wrap_u64, show ((x.toNat % 128 * 128 ^ k : Nat) : Int) % 18446744073709551616 = ((x.toNat % 128 * 128 ^ k : Nat) : Int) from by omega]
 rw [u64_or_nat _ _ hnb hb]
 congr 1
 rw [Nat.or_comm, Nat.add_comm, ← two_pow7, Nat.mul_comm]
 exact (Nat.two_pow_add_eq_or_of_lt (by rw [two_pow7]; exact hn) _).symm
theorem next_lt {x n k : Nat} (hn : n < 128 ^ k) : n + x % 128 * 128 ^ k < 128 ^ (k + 1) := by
 rw [pow128_succ]
 have h2 : x % 128 ≤ 127 := by omega
 have h3 := Nat.mul_le_mul_right (128 ^ k) h2
 omega
theorem div_pow (m i : Nat) : m % 128 * 128 ^ i + m / 128 * 128 ^ (i + 1) = m * 128 ^ i := by
 rw [pow128_succ, Nat.mul_comm (128 ^ i) 128, ← Nat.mul_assoc, ← Nat.add_mul]
 congr 1
 omega
theorem tk_vb (m : Nat) : ∀ (i n : Nat) (r : List UInt8), i ≤ 9 → (0 < m ∨ i = 0) → n + m * 128 ^ i ≤ 18446744073709551615 → tk i n (vb m ++ r) = some (n + m * 128 ^ i, i + (vb m).length) := by
 induction m using Nat.strongRecOn with
 | _ m ih =>
  intro i n r hi hm hb
  have hi9 : i = 9 → m ≤ 1 := by
   intro h
   subst h
   rw [pow9] at hb
   omega
  by_cases hs : m < 128
  · have hx : (UInt8.ofNat m).toNat = m := by rw [UInt8.toNat_ofNat']; omega
    rw [vb_small hs, List.singleton_append, tk, hx, if_neg (by omega), if_neg (by omega), if_neg (by omega)]
    rfl
  · have hx : (UInt8.ofNat (m % 128 + 128)).toNat = m % 128 + 128 := by rw [UInt8.toNat_ofNat']; omega
    have he : n + (m % 128 + 128) % 128 * 128 ^ i + m / 128 * 128 ^ (i + 1) = n + m * 128 ^ i := by
     rw [← div_pow m i, show (m % 128 + 128) % 128 = m % 128 from by omega]; omega
    rw [vb_step (by omega), List.cons_append, tk, hx, if_neg (by omega), if_pos (by omega)]
    rw [ih (m / 128) (by omega) (i + 1) _ r (by omega) (Or.inl (by omega)) (by rw [he]; exact hb), he]
    simp only [List.length_cons]
    rw [show i + 1 + (vb (m / 128)).length = i + ((vb (m / 128)).length + 1) from by omega]
theorem take_vb {n : Nat} (h : U64 n) (r : List UInt8) : take (vb n ++ r) = some (n, (vb n).length) := by
 have := tk_vb n 0 0 r (by omega) (Or.inr rfl) (by unfold U64 at h; simpa using h)
 simpa [take] using this
theorem tk_some : ∀ (l : List UInt8) (i n v e : Nat), i ≤ 9 → n < 128 ^ i → tk i n l = some (v, e) →
 ∃ m j, v = n + m * 128 ^ i ∧ e = i + j ∧ j ≤ l.length ∧ l.take j = vb m ∧ (0 < i → 0 < m) ∧ v ≤ 18446744073709551615 := by
 intro l
 induction l with
 | nil => intro i n v e _ _ h; simp [tk] at h
 | cons x r ih =>
  intro i n v e hi hn h
  rw [tk] at h
  by_cases ha : 9 < i ∨ i = 9 ∧ 1 < x.toNat
  · rw [if_pos ha] at h; cases h
  rw [if_neg ha] at h
  by_cases hb : 128 ≤ x.toNat
  · rw [if_pos hb] at h
    obtain ⟨m, j, hv, he, hj, ht, hm, hu⟩ := ih (i + 1) _ v e (by omega) (next_lt hn) h
    have hx := x.toNat_lt
    have hm0 := hm (by omega)
    have h1 : (x.toNat % 128 + 128 * m) % 128 = x.toNat % 128 := by omega
    have h2 : (x.toNat % 128 + 128 * m) / 128 = m := by omega
    refine ⟨x.toNat % 128 + 128 * m, j + 1, ?_, by omega, by simp; omega, ?_, fun _ => by omega, hu⟩
    · rw [hv, ← div_pow (x.toNat % 128 + 128 * m) i, h1, h2]; omega
    · rw [List.take_succ_cons, ht, vb_step (n := x.toNat % 128 + 128 * m) (by omega), h1, h2]
      congr 1
      apply UInt8.toNat_inj.1
      rw [UInt8.toNat_ofNat']
      omega
  rw [if_neg hb] at h
  by_cases hd : x.toNat = 0 ∧ 0 < i
  · rw [if_pos hd] at h; cases h
  rw [if_neg hd] at h
  simp only [Option.some.injEq, Prod.mk.injEq] at h
  obtain ⟨rfl, rfl⟩ := h
  refine ⟨x.toNat, 1, rfl, rfl, by simp, ?_, fun _ => by omega, ?_⟩
  · rw [vb_small (by omega)]
    simp
  · have h1 := part_bound (x := x.toNat) (k := i) hi (fun h => by omega)
    have h2 := next_lt (x := x.toNat) hn
    by_cases h9 : i = 9
    · subst h9
      rw [pow9] at hn h1 ⊢
      have : x.toNat ≤ 1 := by omega
      have := Nat.mul_le_mul_right 9223372036854775808 this
      omega
    · have h3 : (128 : Nat) ^ (i + 1) ≤ 9223372036854775808 := pow128_le (by omega)
      rw [show x.toNat % 128 = x.toNat from by omega] at h2
      omega
theorem take_some {l : List UInt8} {v e : Nat} (h : take l = some (v, e)) : U64 v ∧ e ≤ l.length ∧ l.take e = vb v := by
 obtain ⟨m, j, hv, he, hj, ht, _, hu⟩ := tk_some l 0 0 v e (by omega) (by simp) h
 simp at hv
 subst hv
 exact ⟨hu, by omega, by rw [show e = j from by omega]; exact ht⟩
def lb (ns : List Nat) : List UInt8 := vb ns.length ++ vbs ns
theorem wrap_u64_of {k : Nat} (h : U64 k) : IntKind.u64.wrap (k : Int) = (k : Int) := by
 unfold U64 at h
 rw [IntKind.wrap_u64]
 omega
def val : List UInt8 → Nat
 | [] => 0
 | x :: r => x.toNat % 128 + 128 * val r
abbrev Dg := { l : List UInt8 // l.length = 32 }
def dg0 : Dg := ⟨List.replicate 32 0, by simp⟩
abbrev Pt5 := Int × Int × Int × Dg
def ptchk (p : Pt5) (a : Int) : Nat := if p.2.1 < 1 ∨ 64 < p.2.1 ∨ p.2.2.1 < 1 ∨ 65536 < p.2.2.1 then 1 else if p.1 ≠ a then 2 else 0
def pgo (z : Int) : Int → List Pt5 → Nat
 | a, [] => if a ≠ z then 2 else 0
 | a, p :: r => if ptchk p a ≠ 0 then ptchk p a else pgo z (a + p.2.1) r
abbrev Mf := Int × Int × Int × Int × Dg × List Pt5
def inb (x m : Int) : Bool := decide (0 ≤ x) && decide (x ≤ m)
def mchk (m : Mf) : Nat :=
 if (!inb m.1 999999 || !inb m.2.1 1048576 || !inb m.2.2.1 1048576 || !inb m.2.2.2.1 1048576) = true then 1
 else if (decide (m.2.2.1 < m.2.1) || (m.1 == 0 && !decide (m.2.2.2.2.1 = dg0))) = true then 2
 else if 1024 < m.2.2.2.2.2.length then 3
 else pgo m.2.2.1 m.2.1 m.2.2.2.2.2
theorem ptchk_ok {p : Pt5} {a : Int} (h : ptchk p a = 0) : 1 ≤ p.2.1 ∧ p.2.1 ≤ 64 ∧ 1 ≤ p.2.2.1 ∧ p.2.2.1 ≤ 65536 ∧ p.1 = a := by
 unfold ptchk at h
 by_cases h1 : p.2.1 < 1 ∨ 64 < p.2.1 ∨ p.2.2.1 < 1 ∨ 65536 < p.2.2.1
 · rw [if_pos h1] at h; cases h
 rw [if_neg h1] at h
 by_cases h2 : p.1 ≠ a
 · rw [if_pos h2] at h; cases h
 exact ⟨by omega, by omega, by omega, by omega, Decidable.byContradiction h2⟩
theorem inb_iff {x m : Int} : inb x m = true ↔ 0 ≤ x ∧ x ≤ m := by unfold inb; simp
theorem mchk_ok {m : Mf} (h : mchk m = 0) : (0 ≤ m.1 ∧ m.1 ≤ 999999) ∧ (0 ≤ m.2.1 ∧ m.2.1 ≤ 1048576) ∧ (0 ≤ m.2.2.1 ∧ m.2.2.1 ≤ 1048576) ∧ (0 ≤ m.2.2.2.1 ∧ m.2.2.2.1 ≤ 1048576) ∧ m.2.1 ≤ m.2.2.1 ∧ (m.1 = 0 → m.2.2.2.2.1 = dg0) ∧ m.2.2.2.2.2.length ≤ 1024 ∧ pgo m.2.2.1 m.2.1 m.2.2.2.2.2 = 0 := by
 unfold mchk at h
 split at h
 · cases h
 rename_i h1
 split at h
 · cases h
 rename_i h2
 split at h
 · cases h
 rename_i h3
 simp only [Bool.or_eq_true, Bool.not_eq_true', not_or, Bool.not_eq_false, inb_iff] at h1
 simp only [Bool.or_eq_true, Bool.and_eq_true, Bool.not_eq_true', decide_eq_true_eq, decide_eq_false_iff_not, beq_iff_eq, not_or, not_and, Decidable.not_not] at h2
 exact ⟨h1.1.1.1, h1.1.1.2, h1.1.2, h1.2, by omega, h2.2, by omega, h⟩
def pend : Int → List Pt5 → Int
 | a, [] => a
 | a, p :: r => pend (a + p.2.1) r
theorem pgo_end {z : Int} : ∀ {l : List Pt5} {a : Int}, pgo z a l = 0 → pend a l = z ∧ a ≤ z
 | [], a, h => by
  unfold pgo at h
  by_cases h1 : a ≠ z
  · rw [if_pos h1] at h; cases h
  · have : a = z := Decidable.byContradiction h1
    exact ⟨this, by omega⟩
 | p :: r, a, h => by
  unfold pgo at h
  by_cases h1 : ptchk p a ≠ 0
  · rw [if_pos h1] at h; exact absurd h h1
  rw [if_neg h1] at h
  obtain ⟨g1, _⟩ := ptchk_ok (Decidable.byContradiction h1)
  obtain ⟨h2, h3⟩ := pgo_end h
  exact ⟨h2, by omega⟩
def phit (x : Int) (p : Pt5) : Bool := decide (p.1 ≤ x) && decide (x < p.1 + p.2.1)
def pidx (x : Int) : List Pt5 → Int
 | [] => -1
 | p :: r => if phit x p then 0 else if pidx x r < 0 then -1 else pidx x r + 1
theorem phit_iff {x : Int} {p : Pt5} : phit x p = true ↔ p.1 ≤ x ∧ x < p.1 + p.2.1 := by unfold phit; simp
theorem pgo_later {z x : Int} : ∀ {l : List Pt5} {a : Int}, pgo z a l = 0 → x < a → ∀ p ∈ l, phit x p = false
 | [], _, _, _ => fun p hp => by cases hp
 | q :: r, a, h, hx => fun p hp => by
  unfold pgo at h
  by_cases h1 : ptchk q a ≠ 0
  · rw [if_pos h1] at h; exact absurd h h1
  rw [if_neg h1] at h
  obtain ⟨g1, _, _, _, g5⟩ := ptchk_ok (Decidable.byContradiction h1)
  rcases List.mem_cons.1 hp with rfl | hp
  · rw [Bool.eq_false_iff]
    intro hh
    obtain ⟨h3, _⟩ := phit_iff.1 hh
    omega
  · exact pgo_later h (by omega) p hp
def pcnt (x : Int) (l : List Pt5) : Nat := (l.filter (phit x)).length
theorem pcnt_none {x : Int} {l : List Pt5} (h : ∀ p ∈ l, phit x p = false) : pcnt x l = 0 ∧ pidx x l = -1 := by
 induction l with
 | nil => exact ⟨rfl, rfl⟩
 | cons p r ih =>
  obtain ⟨i1, i2⟩ := ih fun q hq => h q (.tail _ hq)
  have hp := h p (.head _)
  refine ⟨?_, ?_⟩
  · unfold pcnt at i1 ⊢
    rw [List.filter_cons, hp]
    simpa using i1
  · unfold pidx
    rw [hp, i2]
    simp
theorem pgo_one {z x : Int} : ∀ {l : List Pt5} {a : Int}, pgo z a l = 0 → (a ≤ x ∧ x < z → pcnt x l = 1 ∧ 0 ≤ pidx x l) ∧ (¬ (a ≤ x ∧ x < z) → pcnt x l = 0 ∧ pidx x l = -1)
 | [], a, h => by
  obtain ⟨h1, h2⟩ := pgo_end h
  unfold pend at h1
  exact ⟨fun h => by omega, fun _ => ⟨rfl, rfl⟩⟩
 | q :: r, a, h => by
  have h0 := h
  unfold pgo at h
  by_cases h1 : ptchk q a ≠ 0
  · rw [if_pos h1] at h; exact absurd h h1
  rw [if_neg h1] at h
  obtain ⟨g1, _, _, _, g5⟩ := ptchk_ok (Decidable.byContradiction h1)
  obtain ⟨i1, i2⟩ := pgo_one h
  have hend := (pgo_end h).2
  cases hq : phit x q
  · have hnq : ¬ (q.1 ≤ x ∧ x < q.1 + q.2.1) := by rw [← phit_iff, hq]; simp
    have hc : pcnt x (q :: r) = pcnt x r := by unfold pcnt; rw [List.filter_cons, hq]; simp
    have hd : pidx x (q :: r) = if pidx x r < 0 then -1 else pidx x r + 1 := by rw [pidx, hq]; simp
    refine ⟨fun hx => ?_, fun hx => ?_⟩
    · have hx2 : a + q.2.1 ≤ x ∧ x < z := ⟨by omega, hx.2⟩
      obtain ⟨j1, j2⟩ := i1 hx2
      rw [hc, hd, if_neg (by omega)]
      exact ⟨j1, by omega⟩
    · have hx2 : ¬ (a + q.2.1 ≤ x ∧ x < z) := fun hh => hx ⟨by omega, hh.2⟩
      obtain ⟨j1, j2⟩ := i2 hx2
      rw [hc, hd, if_pos (by omega)]
      exact ⟨j1, rfl⟩
  · obtain ⟨k1, k2⟩ := phit_iff.1 hq
    have hlt := pgo_later h (x := x) (by omega)
    obtain ⟨j1, _⟩ := pcnt_none hlt
    refine ⟨fun _ => ⟨?_, ?_⟩, fun hx => absurd (show a ≤ x ∧ x < z from ⟨by omega, by omega⟩) hx⟩
    · unfold pcnt at j1 ⊢
      rw [List.filter_cons, hq]
      simpa using j1
    · rw [pidx, hq]; simp
theorem pidx_ge (x : Int) : ∀ l : List Pt5, -1 ≤ pidx x l ∧ pidx x l < l.length
 | [] => by simp [pidx]
 | p :: r => by
  have := pidx_ge x r
  unfold pidx
  split
  · exact ⟨by omega, by simp only [List.length_cons]; omega⟩
  · split
    · exact ⟨by omega, by simp only [List.length_cons]; omega⟩
    · exact ⟨by omega, by simp only [List.length_cons]; omega⟩
abbrev Ce := Int × List UInt8
def cchk (c : Ce) : Nat := if c.1 < 0 ∨ 3 < c.1 then 1 else if 64 < c.2.length then 3 else if 0 < c.2.length ∧ c.1 ≠ 1 then 2 else 0
def same (a b : Ce) : Bool := decide (a = b)
def mayb (a b : Ce) : Bool := decide (cchk a = 0 ∧ cchk b = 0 ∧ (a.1 = 0 ∨ a = b ∨ b.1 = 3))
def later (a b : Ce) : Ce × Bool := if mayb a b then (b, true) else if mayb b a then (a, true) else ((0, []), false)
theorem cchk_cases (c : Ce) : (c.1 < 0 ∧ cchk c = 1) ∨ (0 ≤ c.1 ∧ 3 < c.1 ∧ cchk c = 1) ∨ (0 ≤ c.1 ∧ c.1 ≤ 3 ∧ 64 < c.2.length ∧ cchk c = 3) ∨ (0 ≤ c.1 ∧ c.1 ≤ 3 ∧ c.2.length ≤ 64 ∧ 0 < c.2.length ∧ c.1 ≠ 1 ∧ cchk c = 2) ∨
 (0 ≤ c.1 ∧ c.1 ≤ 3 ∧ c.2.length = 0 ∧ cchk c = 0) ∨ (c.2.length ≤ 64 ∧ 0 < c.2.length ∧ c.1 = 1 ∧ cchk c = 0) := by
 unfold cchk
 by_cases h1 : c.1 < 0
 · exact .inl ⟨h1, by rw [if_pos (Or.inl h1)]⟩
 by_cases h2 : 3 < c.1
 · exact .inr (.inl ⟨by omega, h2, by rw [if_pos (Or.inr h2)]⟩)
 rw [if_neg (by omega)]
 by_cases h3 : 64 < c.2.length
 · exact .inr (.inr (.inl ⟨by omega, by omega, h3, by rw [if_pos h3]⟩))
 rw [if_neg h3]
 by_cases h4 : 0 < c.2.length
 · by_cases h5 : c.1 = 1
   · exact .inr (.inr (.inr (.inr (.inr ⟨by omega, h4, h5, by rw [if_neg (by omega)]⟩))))
   · exact .inr (.inr (.inr (.inl ⟨by omega, by omega, by omega, h4, h5, by rw [if_pos ⟨h4, h5⟩]⟩)))
 · exact .inr (.inr (.inr (.inr (.inl ⟨by omega, by omega, by omega, by rw [if_neg (by omega)]⟩))))
theorem cchk_ok {c : Ce} (h : cchk c = 0) : 0 ≤ c.1 ∧ c.1 ≤ 3 ∧ c.2.length ≤ 64 ∧ (c.1 ≠ 1 → c.2 = []) := by
 rcases cchk_cases c with h1 | h1 | h1 | h1 | h1 | h1
 · omega
 · omega
 · omega
 · omega
 · exact ⟨by omega, by omega, by omega, fun _ => List.eq_nil_of_length_eq_zero h1.2.2.1⟩
 · exact ⟨by omega, by omega, by omega, fun h => absurd h1.2.2.1 h⟩
def cpl : List UInt8 → List UInt8 → Nat
 | x :: a, y :: b => if x = y then cpl a b + 1 else 0
 | _, _ => 0
theorem cpl_le : ∀ a b, cpl a b ≤ a.length ∧ cpl a b ≤ b.length
 | [], b => by simp [cpl]
 | x :: a, [] => by simp [cpl]
 | x :: a, y :: b => by
  have := cpl_le a b
  unfold cpl
  split <;> simp <;> omega
theorem cpl_next : ∀ (a b : List UInt8) (k : Nat), k ≤ a.length → k ≤ b.length → a.take k = b.take k → cpl a b = k + cpl (a.drop k) (b.drop k)
 | a, b, 0, _, _, _ => by simp
 | x :: a, y :: b, k + 1, ha, hb, h => by
  simp only [List.take_succ_cons, List.cons.injEq] at h
  obtain ⟨rfl, h⟩ := h
  have := cpl_next a b k (by simpa using ha) (by simpa using hb) h
  simp only [List.drop_succ_cons]
  rw [cpl, if_pos rfl, this]
  omega
theorem cpl_take : ∀ (a b : List UInt8), a.take (cpl a b) = b.take (cpl a b)
 | [], b => by simp [cpl]
 | x :: a, [] => by simp [cpl]
 | x :: a, y :: b => by
  unfold cpl
  split
  · rename_i h
    subst h
    simp [cpl_take a b]
  · simp
theorem cpl_stop {a b : List UInt8} (h : a = [] ∨ b = [] ∨ a.head? ≠ b.head?) : cpl a b = 0 := by
 rcases a with _ | ⟨x, a⟩
 · simp [cpl]
 · rcases b with _ | ⟨y, b⟩
   · simp [cpl]
   · simp at h
     simp [cpl, h]
theorem cpl_end {a b : List UInt8} {k : Nat} (ha : k ≤ a.length) (hb : k ≤ b.length) (h : a.take k = b.take k) (hs : k = a.length ∨ k = b.length ∨ ∃ (h1 : k < a.length) (h2 : k < b.length), a[k] ≠ b[k]) : cpl a b = k := by
 have hst : List.drop k a = [] ∨ List.drop k b = [] ∨ (List.drop k a).head? ≠ (List.drop k b).head? := by
  rcases hs with rfl | rfl | ⟨h1, h2, h3⟩
  · exact .inl (by simp)
  · exact .inr (.inl (by simp))
  · refine .inr (.inr ?_)
    rw [List.head?_drop, List.head?_drop, List.getElem?_eq_getElem h1, List.getElem?_eq_getElem h2]
    simpa using h3
 rw [cpl_next a b k ha hb h, cpl_stop hst]
 rfl
def rowGo (k : Int) : List Ce → Nat
 | [] => 0
 | c :: r => if c.1 ≠ 1 ∧ c.1 = k then rowGo k r + 1 else 0
def rowN : List Ce → Nat
 | [] => 0
 | c :: r => rowGo c.1 (c :: r)
theorem rowGo_le (k : Int) : ∀ l, rowGo k l ≤ l.length
 | [] => by simp [rowGo]
 | c :: r => by
  have := rowGo_le k r
  unfold rowGo
  split <;> simp <;> omega
theorem rowN_le (l : List Ce) : rowN l ≤ l.length := by
 cases l
 · simp [rowN]
 · exact rowGo_le _ _
theorem rowGo_end {k : Int} : ∀ {l : List Ce} {n : Nat}, n ≤ l.length → (∀ j (h : j < l.length), j < n → l[j].1 ≠ 1 ∧ l[j].1 = k) → (n = l.length ∨ ∃ h : n < l.length, ¬ (l[n].1 ≠ 1 ∧ l[n].1 = k)) → rowGo k l = n
 | [], n, hn, _, _ => by simp at hn; subst hn; rfl
 | c :: r, 0, _, _, hs => by
  rcases hs with h | ⟨h, hc⟩
  · simp at h
  · simp only [List.getElem_cons_zero] at hc
    unfold rowGo
    rw [if_neg hc]
 | c :: r, n + 1, hn, ha, hs => by
  have h0 := ha 0 (by simp) (by omega)
  simp only [List.getElem_cons_zero] at h0
  unfold rowGo
  rw [if_pos h0, rowGo_end (n := n) (by simpa using hn) (fun j h hj => by have := ha (j + 1) (by simpa using h) (by omega); simp only [List.getElem_cons_succ] at this; exact this)]
  rcases hs with h | ⟨h, hc⟩
  · exact .inl (by simpa using h)
  · exact .inr ⟨by simpa using h, by simp only [List.getElem_cons_succ] at hc; exact hc⟩
def rchk : List Ce → Nat
 | [] => 0
 | c :: r => if cchk c ≠ 0 then cchk c else rchk r
theorem rchk_ok {l : List Ce} (h : ∀ c ∈ l, cchk c = 0) : rchk l = 0 := by
 induction l with
 | nil => rfl
 | cons c r ih =>
  unfold rchk
  rw [if_neg (by simpa using h c (by simp))]
  exact ih fun x hx => h x (by simp [hx])
theorem rchk_at : ∀ {l : List Ce} {k : Nat} (hk : k < l.length), (∀ c ∈ l.take k, cchk c = 0) → cchk l[k] ≠ 0 → rchk l = cchk l[k]
 | c :: r, 0, _, _, h => by
  unfold rchk
  simp only [List.getElem_cons_zero] at h ⊢
  rw [if_pos h]
 | c :: r, k + 1, hk, h, h2 => by
  have h0 := h c (by simp)
  unfold rchk
  rw [if_neg (by simpa using h0)]
  simp only [List.getElem_cons_succ] at h2 ⊢
  exact rchk_at (by simpa using hk) (fun x hx => h x (by simp [hx])) h2
def prun (last : List UInt8) : List Ce → List UInt8
 | [] => []
 | c :: r => if 0 < rowN (c :: r) then vb (rowN (c :: r)) ++ vb c.1.toNat ++ prun last ((c :: r).drop (rowN (c :: r)))
  else vb 0 ++ vb c.2.length ++ vb (cpl last c.2) ++ c.2.drop (cpl last c.2) ++ prun c.2 r
 termination_by l => l.length
 decreasing_by
  · simp only [List.length_drop, List.length_cons]; omega
  · simp
theorem prun_row {last : List UInt8} {l : List Ce} (h : 0 < rowN l) : ∃ k : Int, (∃ r d, l = (k, d) :: r) ∧ prun last l = vb (rowN l) ++ vb k.toNat ++ prun last (l.drop (rowN l)) := by
 cases l with
 | nil => simp [rowN] at h
 | cons c r =>
  refine ⟨c.1, ⟨r, c.2, rfl⟩, ?_⟩
  rw [prun, if_pos h]
theorem prun_data {last : List UInt8} {c : Ce} {r : List Ce} (h : rowN (c :: r) = 0) : prun last (c :: r) = vb 0 ++ vb c.2.length ++ vb (cpl last c.2) ++ c.2.drop (cpl last c.2) ++ prun c.2 r := by
 rw [prun, if_neg (by omega)]
theorem rowN_zero {c : Ce} {r : List Ce} : rowN (c :: r) = 0 ↔ c.1 = 1 := by
 unfold rowN rowGo
 by_cases h : c.1 = 1
 · simp [h]
 · simp [h]
theorem cpl_comm : ∀ a b, cpl a b = cpl b a
 | [], [] => rfl
 | [], y :: b => rfl
 | x :: a, [] => rfl
 | x :: a, y :: b => by
  unfold cpl
  by_cases h : x = y
  · subst h; rw [if_pos rfl, if_pos rfl, cpl_comm a b]
  · rw [if_neg h, if_neg (fun e => h e.symm)]
abbrev b1 (n : Nat) : UInt8 := UInt8.ofNat n
def rgo (prev : Option Int) (last : List UInt8) : List Ce → List UInt8
 | [] => []
 | c :: r => if c.1 = 1 then [0, b1 c.2.length, b1 (cpl c.2 last)] ++ c.2.drop (cpl c.2 last) ++ rgo (some 1) c.2 r
  else if prev = some c.1 then rgo (some c.1) last r else [b1 (rowGo c.1 (c :: r)), b1 c.1.toNat] ++ rgo (some c.1) last r
theorem rgo_skip {k : Int} (hk : k ≠ 1) (last : List UInt8) : ∀ l : List Ce, rgo (some k) last l = rgo (some k) last (l.drop (rowGo k l))
 | [] => by simp
 | c :: r => by
  by_cases h : c.1 = k
  · have h1 : c.1 ≠ 1 := by omega
    rw [rowGo, if_pos ⟨h1, h⟩, List.drop_succ_cons, rgo, if_neg h1, if_pos (by rw [h]), h]
    exact rgo_skip hk last r
  · rw [rowGo, if_neg (fun e => h e.2), List.drop_zero]
theorem rowGo_stop (k : Int) : ∀ (l : List Ce) (c : Ce) (r : List Ce), l.drop (rowGo k l) = c :: r → ¬ (c.1 ≠ 1 ∧ c.1 = k)
 | [], c, r, h => by simp at h
 | x :: l, c, r, h => by
  by_cases hx : x.1 ≠ 1 ∧ x.1 = k
  · rw [rowGo, if_pos hx, List.drop_succ_cons] at h
    exact rowGo_stop k l c r h
  · rw [rowGo, if_neg hx, List.drop_zero] at h
    injection h with h1 h2
    subst h1
    exact hx
theorem rgo_prev {prev : Option Int} (last : List UInt8) {l : List Ce} (h : ∀ c r, l = c :: r → c.1 = 1 ∨ prev ≠ some c.1) : rgo prev last l = rgo none last l := by
 cases l with
 | nil => simp [rgo]
 | cons c r =>
  rw [rgo, rgo]
  by_cases h1 : c.1 = 1
  · rw [if_pos h1, if_pos h1]
  · have h2 := (h c r rfl).resolve_left h1
    rw [if_neg h1, if_neg h1, if_neg h2, if_neg (by simp)]
theorem rgo_prun : ∀ (n : Nat) (l : List Ce) (last : List UInt8), l.length ≤ n → l.length ≤ 64 → (∀ c ∈ l, cchk c = 0) → last.length ≤ 64 → rgo none last l = prun last l
 | _, [], last, _, _, _, _ => by rw [rgo, prun]
 | 0, c :: r, _, h, _, _, _ => by simp at h
 | n + 1, c :: r, last, hn, h64, hok, hl => by
  have hc := cchk_ok (hok c (by simp))
  have hcl := cpl_le last c.2
  simp only [List.length_cons] at hn h64
  by_cases h1 : c.1 = 1
  · rw [rgo, if_pos h1, prun_data (rowN_zero.2 h1), vb_small (by omega), vb_small (n := c.2.length) (by omega), vb_small (n := cpl last c.2) (by omega), cpl_comm c.2 last]
    rw [rgo_prev (prev := some 1) c.2 (fun x r' h => by
     by_cases hx : x.1 = 1
     · exact .inl hx
     · exact .inr (fun e => hx (by injection e with e; omega)))]
    rw [rgo_prun n r c.2 (by omega) (by omega) (fun x hx => hok x (by simp [hx])) (by omega)]
    rfl
  · have hrow : rowN (c :: r) = rowGo c.1 (c :: r) := rfl
    have hpos : 0 < rowN (c :: r) := by
     have := rowN_zero (c := c) (r := r)
     omega
    have hle := rowN_le (c :: r)
    simp only [List.length_cons] at hle
    obtain ⟨k, ⟨r', d, hk⟩, hp⟩ := prun_row (last := last) hpos
    injection hk with hk1 hk2
    have hkc : k = c.1 := by rw [hk1]
    subst hkc
    rw [hp, rgo, if_neg h1, if_neg (by simp), vb_small (n := rowN (c :: r)) (by omega), vb_small (n := c.1.toNat) (by omega), ← hrow]
    have hskip := rgo_skip h1 last r
    have hd : (c :: r).drop (rowN (c :: r)) = r.drop (rowGo c.1 r) := by
     rw [hrow, rowGo, if_pos ⟨h1, rfl⟩, List.drop_succ_cons]
    rw [hskip, hd, rgo_prev (prev := some c.1) last (fun x r' h => by
     have := rowGo_stop c.1 r x r' h
     by_cases hx : x.1 = 1
     · exact .inl hx
     · exact .inr (fun e => this ⟨hx, by injection e with e; exact e.symm⟩))]
    rw [rgo_prun n (r.drop (rowGo c.1 r)) last (by simp; omega) (by simp; omega) (fun x hx => hok x (by simp [List.mem_of_mem_drop hx])) hl]
    rfl
theorem step_append {P : Program} {w : World} {ops : Array Oper} {o : Oper} {a : Act} {K : Act → World → Prop} {Q : Exit → Act → World → Prop} {E : Prop} (hw : Region.wanted o (yielded ops a.tmps) = true) (s x : Operand) (t : TypeId)
 (ho : o.op = .call { callee := .builtin .append, args := #[s, x], argTypes := #[t, t] })
 (base : Nat) (e : TypeId) (i : TypeInfo) (z : Value) (size bytes : Nat) (ht : P.underlying t = some (.slice e)) (hi : P.info? e = some i) (hz : i.zero = some z)
 (hsize : i.size = size) (hby : i.bytes = bytes) (hzs : z.cells.size = size) (hsz : 0 < size)
 (A : Option Addr) (n c : Nat) (xs : List Value) (hs : a.eval s = .slice A n c) (hown : Own w base e size A n c xs)
 (A2 : Option Addr) (m c2 : Nat) (news : List Value) (hx : a.eval x = .slice A2 m c2) (hr : Sl w size A2 m c2 news) (h1 : ∀ u ∈ news, u.oneCell' = true)
 (hbytes : (n + m) * bytes ≤ 140737488355328) (hmax : n + m ≤ maxLen) (hbase : base ≤ w.heap.size)
 (h : ∀ A' c' w', Appd w w' base e size A A' (n + m) c' (xs ++ news) → K (a.put o.dst (.slice A' (n + m) c')) w') :
 if Region.wanted o (yielded ops a.tmps) = true then Oper.wp P o a w K Q else E := by
 rw [if_pos hw]
 obtain ⟨A', c', w', hrun, h2⟩ := run_append_rd (P := P) w base t o.type e i z size bytes ht hi hz hsize hby hzs hsz A n c xs hown A2 m c2 news hr h1 hbytes hmax hbase
 unfold Oper.wp execOp
 simp only [ho, resolve, invoke, builtin, Sem.run_bind, Sem.run_pure, Result.andThen_ok, List.map_toArray, List.map_cons, List.map_nil, hs, hx, hrun]
 exact h A' c' w' h2
theorem step_bytes {P : Program} {w : World} {ops : Array Oper} {o : Oper} {a : Act} {K : Act → World → Prop} {Q : Exit → Act → World → Prop} {E : Prop} (t e : TypeId) (ht : P.underlying t = some (.slice e))
 (hinfo : (P.info? e).map (fun i => (i.zero, i.size, i.bytes)) = some (some (.int .u8 0), 1, 1)) (hw : Region.wanted o (yielded ops a.tmps) = true) (s x : Operand)
 (ho : o.op = .call { callee := .builtin .append, args := #[s, x], argTypes := #[t, t] })
 (base : Nat) (A : Option Addr) (c : Nat) (l : List UInt8) (hs : a.eval s = .slice A l.length c) (hown : OwnB w base e A c l)
 (A2 : Option Addr) (c2 n2 : Nat) (l2 : List UInt8) (hn2 : n2 = l2.length) (hx : a.eval x = .slice A2 n2 c2) (hr : SlB w A2 c2 l2)
 (hlen : l.length + l2.length ≤ 140737488355328) (hbase : base ≤ w.heap.size)
 (h : ∀ A' c' (m : List UInt8) w', Hid (m = l ++ l2) → OwnB w' base e A' c' m → Below base w w' → K (a.put o.dst (.slice A' m.length c')) w') :
 if Region.wanted o (yielded ops a.tmps) = true then Oper.wp P o a w K Q else E := by
 subst hn2
 obtain ⟨i0, hi, hz0, hz1, hz2⟩ := info_parts hinfo
 refine step_append hw s x t ho base e i0 (.int .u8 0) 1 1 ht hi hz0 hz1 hz2 rfl (by decide) A l.length c (bvs l) hs hown A2 l2.length c2 (bvs l2) hx hr (one_bvs l2) (by omega) (by simp only [maxLen]; omega) hbase ?_
 intro A' c' w' hap
 rw [← List.length_append]
 refine h A' c' (l ++ l2) w' rfl ?_ (hap.below hown hbase)
 have := hap.own
 simpa [OwnB] using this
theorem u8_info : (Tryz.prog.info? 5).map (fun i => (i.zero, i.size, i.bytes)) = some (some (.int .u8 0), 1, 1) := by kernel_rfl
def GivesB (w0 : World) (l : List UInt8) (e : Ending) (w' : World) : Prop :=
 ∃ A c m, e = .returned (.slice A m.length c) ∧ Hid (m = l) ∧ OwnB w' w0.heap.size 5 A c m ∧ Below w0.heap.size w0 w'
set_option maxRecDepth 100000 in
set_option maxHeartbeats 400000 in
theorem put_any (A : Option Addr) (c : Nat) (l : List UInt8) (n : Nat) (hn : U64 n) (w : World) (base : Nat) (hbase : base ≤ w.heap.size) (hl : l.length ≤ 1000000000)
 (hown : OwnB w base 5 A c l) :
  Calls Tryz.prog 111 #[.slice A l.length c, .int .u64 n] w fun e w' => ∃ A' c' m, e = .returned (.slice A' m.length c') ∧ Hid (m = l ++ vb n) ∧ OwnB w' base 5 A' c' m ∧ Below base w w' := by
 go_enter Tryz.func111, Tryz.ntmps111
 go_wp2
 go_loopw [0, 1] (fun v x wr => ∃ (k : Nat) (B : Option Addr) (d : Nat) (m : List UInt8), x = .int .u64 k ∧ v = .slice B m.length d ∧ Hid (l ++ vb n = m ++ vb k) ∧ Hid (U64 k) ∧ OwnB wr base 5 B d m ∧ Below base w wr) (fun v x w => (intOf x).toNat)
 case atStart => exact ⟨n, A, c, l, rfl, rfl, rfl, hn, hown, Below.refl _ _⟩
 case round =>
  obtain ⟨k, B, d, m, rfl, rfl, hm, hk, hownr, hbr⟩ := hrel
  have hml : m.length ≤ 1000000010 := by
   have h1 := congrArg List.length hm.out
   have h2 := vb_le10 hn
   simp only [List.length_append] at h1
   omega
  clear hown
  by_cases h128 : 128 ≤ k
  · have hs := Lib.hid (vb_step h128)
    go_wp2_with (at_builtin; go_must (refine wpl_byte 52 5 Tryz.underlying52 u8_info rfl _ _ rfl base B d m _ (UInt8.ofNat (k % 128 + 128)) (byte_more k) rfl hownr rfl (by omega) (by have := hbr.size; omega) ?_; intro A1 c1 m1 w1 hm1 ho1 _ _ hb1))
    go_roundw
    case rel => exact ⟨k / 128, A1, c1, m1, rfl, rfl, by rw [hm1.out, hm.out, hs.out]; show _ = _; simp, hk.out.div 128, ho1, hbr.trans hb1⟩
    case measure => simp [intOf]; omega
  · have hs := Lib.hid (vb_small (n := k) (by omega))
    go_wp2_with (at_builtin; go_must (refine wpl_byte 52 5 Tryz.underlying52 u8_info rfl _ _ rfl base B d m _ (UInt8.ofNat k) (byte_last (by omega)) rfl hownr rfl (by omega) (by have := hbr.size; omega) ?_; intro A1 c1 m1 w1 hm1 ho1 _ _ hb1))
    go_ret
    exact ⟨A1, c1, m1, rfl, by rw [hm1.out, hm.out, hs.out]; rfl, ho1, hbr.trans hb1⟩
set_option maxRecDepth 100000 in
set_option maxHeartbeats 400000 in
theorem clone_any (A : Option Addr) (c : Nat) (l : List UInt8) (w : World) (hl : l.length ≤ 1000000000) (hs : SlB w A c l) :
 Calls Tryz.prog 88 #[.slice A l.length c] w (GivesB w l) := by
 have hq := fun (w : World) (A : Option Addr) (n c : Nat) => Lib.run_eql_slice_nil (P := Tryz.prog) w 52 5 A n c 0 0 Tryz.underlying52
 rcases A with _ | ad
 · obtain ⟨rfl, rfl⟩ := hs.of_none
   go_enter Tryz.func88, Tryz.ntmps88
   go_wp2
   go_ret
   exact ⟨none, 0, [], rfl, rfl, Own.none_ _ _ _ _, Below.refl _ _⟩
 · go_enter Tryz.func88, Tryz.ntmps88
   go_wp2_with (at_builtin; go_must (refine wpl_bytes 52 5 Tryz.underlying52 u8_info rfl _ _ rfl w.heap.size (some ⟨w.heap.size, 0, none⟩) 0 [] rfl (Own.lit 1 (Nat.le_refl _)) (some ad) c l rfl (hs.below ((Below.refl _ _).alloc (Nat.le_refl _) _)) (by simp; omega) (by simp) ?_; intro A1 c1 m1 w1 hm1 ho1 _ _ hb1))
   go_ret
   exact ⟨A1, c1, m1, rfl, hm1, ho1, ((Below.refl _ _).alloc (Nat.le_refl _) _).trans hb1⟩
abbrev nv (n : Nat) : Value := .int .u64 (n : Int)
abbrev SlN (w : World) (A : Option Addr) (c : Nat) (l : List Nat) : Prop := Sl w 1 A l.length c (l.map nv)
set_option maxRecDepth 100000 in
set_option maxHeartbeats 400000 in
theorem Put_any (A : Option Addr) (c : Nat) (l : List UInt8) (A2 : Option Addr) (c2 : Nat) (ns : List Nat) (w : World) (hl : l.length ≤ 100000000) (hs : SlB w A c l) (hn : SlN w A2 c2 ns) (hns : ns.length ≤ 1000000) (h64 : ∀ n ∈ ns, U64 n) :
 Calls Tryz.prog 83 #[.slice A l.length c, .slice A2 ns.length c2] w (GivesB w (l ++ vbs ns)) := by
 have hmax := hn.len_le
 unfold maxLen at hmax
 go_enter Tryz.func83, Tryz.ntmps83
 go_wp2_with fail
 refine (clone_any A c l w (by omega) hs).mono ?_
 rintro e w1 ⟨A1, c1, m1, rfl, hm1, ho1, hb1⟩
 have hn1 := hn.below hb1
 have hml : m1.length ≤ 100000000 := by rw [hm1.out]; exact hl
 go_wp2_with fail
 go_loopw [5, 12] (fun v x wr => ∃ (k : Nat) (B : Option Addr) (d : Nat) (m : List UInt8), k ≤ ns.length ∧ x = .int .i64 k ∧ v = .slice B m.length d ∧ Hid (m = l ++ vbs (ns.take k)) ∧ OwnB wr w.heap.size 5 B d m ∧ Below w.heap.size w wr) (fun v x w => ns.length - (intOf x).toNat)
 case atStart => exact ⟨0, A1, c1, m1, Nat.zero_le _, rfl, rfl, by rw [hm1.out]; show _ = _; simp [vbs], ho1, hb1⟩
 case round =>
  obtain ⟨k, B, d, m, hk, rfl, rfl, hm, hor, hbr⟩ := hrel
  by_cases hlt : k < ns.length
  · obtain ⟨ad, rfl, hc⟩ := (hn.below hbr).at1 hlt
    have hml : m.length ≤ 200000000 := by
     have h2 := vbs_le (l := ns.take k) (fun n hn => h64 n (List.mem_of_mem_take hn))
     have h3 := congrArg List.length hm.out
     simp only [List.length_append, List.length_take] at h3 h2
     omega
    go_wp2_with fail
    refine (put_any B d m ns[k] (h64 _ (List.getElem_mem hlt)) _ w.heap.size hbr.size (by omega) hor).mono ?_
    rintro e w2 ⟨A2, c2, m2, rfl, hm2, ho2, hb2⟩
    go_wp2_with fail
    go_roundw
    case rel => exact ⟨k + 1, A2, c2, m2, hlt, by go_num, rfl, by rw [hm2.out, hm.out, vbs_snoc hlt]; show _ = _; simp, ho2, hbr.trans hb2⟩
    case measure => simp [intOf]; omega
  · go_wp2_with fail
    go_ret
    exact ⟨B, d, m, rfl, by rw [hm.out, List.take_of_length_le (by omega)]; rfl, hor, hbr⟩
set_option maxRecDepth 100000 in
set_option maxHeartbeats 400000 in
theorem PutText_any (A : Option Addr) (c : Nat) (l : List UInt8) (A2 : Option Addr) (c2 : Nat) (t : List UInt8) (w : World) (hl : l.length ≤ 10000000) (hs : SlB w A c l) (hn : SlB w A2 c2 t) (hns : t.length ≤ 10000000) :
 Calls Tryz.prog 115 #[.slice A l.length c, .slice A2 t.length c2] w (GivesB w (l ++ (vb t.length ++ t))) := by
 have hu : U64 t.length := by unfold U64; omega
 go_enter Tryz.func115, Tryz.ntmps115
 go_wp2_with fail
 have hs0 := hs.below (below_new w (Obj.cells #[Value.int IntKind.u64 t.length] 138))
 have hn0 := hn.below (below_new w (Obj.cells #[Value.int IntKind.u64 t.length] 138))
 refine (Put_any A c l (some ⟨w.heap.size, 0, none⟩) 1 [t.length] _ (by omega) hs0 (Sl.lits w [nv t.length] 138 (by simp [maxLen])) (by simp) (by simpa using hu)).mono ?_
 rintro e w1 ⟨A1, c1, m1, rfl, hm1, ho1, hb1⟩
 have hb1' := (below_new w (Obj.cells #[Value.int IntKind.u64 t.length] 138)).trans (hb1.mono (size_new _ _))
 have hml : m1.length ≤ 10000010 := by
  rw [hm1.out]
  have := vb_le10 hu
  simp [vbs]
  omega
 go_wp2_with (at_builtin; go_must (refine wpl_bytes 52 5 Tryz.underlying52 u8_info rfl _ _ rfl w.heap.size A1 c1 m1 rfl (ho1.more (size_new _ _)) A2 c2 t rfl (hn0.below hb1) (by omega) hb1'.size ?_; intro A3 c3 m3 w3 hm3 ho3 _ _ hb3))
 go_ret
 exact ⟨A3, c3, m3, rfl, by rw [hm3.out, hm1.out]; show _ = _; simp [vbs], ho3, hb1'.trans hb3⟩
def TakeOut (o : Option (Nat × Nat)) (w : World) (e : Ending) (w' : World) : Prop :=
 w = w' ∧ ((o = none ∧ e = .returned (.tuple #[.int .u64 0, .int .i64 0, .iface 60 (.int .i64 2)])) ∨ ∃ n k : Nat, o = some (n, k) ∧ e = .returned (.tuple #[.int .u64 n, .int .i64 k, .nilIface]))
set_option maxRecDepth 100000 in
set_option maxHeartbeats 1000000 in
theorem Take_any (A : Option Addr) (c : Nat) (l : List UInt8) (w : World) (hs : SlB w A c l) :
 Calls Tryz.prog 104 #[.slice A l.length c] w (TakeOut (take l) w) := by
 have hc1 := hs.2.1
 have hc2 := hs.2.2.1
 unfold maxLen at hc2
 by_cases hL : 10 < l.length
 all_goals
  go_enter Tryz.func104, Tryz.ntmps104
  go_wp2_with fail
  go_loop [3, 5, 15] (fun _ v x => ∃ (k n : Nat), k ≤ l.length ∧ k ≤ 10 ∧ x = .int .i64 k ∧ v = .int .u64 n ∧ Hid (n < 128 ^ k) ∧ Hid (take l = tk k n (l.drop k))) (fun _ v x => l.length - (intOf x).toNat)
  case atStart => exact ⟨0, 0, Nat.zero_le _, by omega, rfl, rfl, (show _ < _ by simp), rfl⟩
  case round =>
   obtain ⟨k, n, hk, hk10, rfl, rfl, hn, ht⟩ := hrel
   by_cases hlt : k < l.length ∧ k < 10
   · obtain ⟨hlt, hlt10⟩ := hlt
     obtain ⟨ad, rfl, hc⟩ := hs.at1 hlt
     have htd := Lib.hid (tk_drop hlt k n)
     generalize l[k] = x at *
     by_cases ha : k = 9 ∧ 1 < x.toNat
     · obtain ⟨hk9, ha⟩ := ha
       have hkb : ((k : Int) == 9) = true := by simp; omega
       have Hk9 := Lib.hid hk9
       clear hk9
       go_wp2_with fail
       go_ret3
       exact ⟨rfl, .inl ⟨by rw [ht.out, htd.out, if_pos (Or.inr ⟨Hk9.out, ha⟩)], rfl⟩⟩
     by_cases hb : 128 ≤ x.toNat
     · have hk9 : ¬ k = 9 := by omega
       go_wp2_with fail
       go_round
       case rel => exact ⟨k + 1, n + x.toNat % 128 * 128 ^ k, by omega, by omega, by go_num, congrArg (Value.int .u64) (or_part x n k hn.out (by omega) (fun h => absurd h hk9)), (show _ < _ from next_lt hn.out), (show _ = _ by rw [ht.out, htd.out, if_neg (by omega), if_pos hb])⟩
       case measure => simp [intOf]; omega
     by_cases hd : x.toNat = 0 ∧ 0 < k
     · obtain ⟨hd0, hdk⟩ := hd
       go_wp2_with fail
       all_goals
        go_ret3
        exact ⟨rfl, .inl ⟨by rw [ht.out, htd.out, if_neg (by omega), if_neg hb, if_pos ⟨hd0, hdk⟩], rfl⟩⟩
     · have hx : x.toNat % 128 = x.toNat := by omega
       have hv := or_part x n k hn.out (by omega) (by omega)
       rw [hx] at hv
       have Hx := Lib.hid hx
       have Hv := Lib.hid hv
       have Hd := Lib.hid hd
       have ht' : Hid (take l = some (n + x.toNat * 128 ^ k, k + 1)) := (show _ = _ by rw [ht.out, htd.out, if_neg (by omega), if_neg hb, if_neg hd])
       clear hx hv hd
       rcases Decidable.em (x.toNat = 0) with h0 | h0
       · have hb0 : ((x.toNat : Int) == 0) = true := by simp; omega
         have hk0 : ¬ (0 < k) := fun h => Hd.out ⟨h0, h⟩
         have H0 := Lib.hid h0
         clear h0
         have hk9 : ((k : Int) == 9) = false := by simp; omega
         go_wp2_with fail
         go_ret3
         refine ⟨rfl, .inr ⟨n + x.toNat * 128 ^ k, k + 1, ht'.out, ?_⟩⟩
         rw [← Hv.out]
         rfl
       · have hb0 : ((x.toNat : Int) == 0) = false := by simp; omega
         go_wp2_with fail
         all_goals
          go_ret3
          refine ⟨rfl, .inr ⟨n + x.toNat * 128 ^ k, k + 1, ht'.out, ?_⟩⟩
          rw [← Hv.out]
          first | rfl | (obtain rfl : k = 9 := (by omega); rfl)
   · first | (have hge : 10 ≤ k := by omega) | (have hge : l.length ≤ k := by omega)
     go_wp2_with fail
     go_ret3
     exact ⟨rfl, .inl ⟨by rw [ht.out]; first | (rw [show k = 10 from by omega]; exact tk_end _ _) | (rw [List.drop_eq_nil_of_le (by omega)]; rfl), rfl⟩⟩
theorem take_succ_eq {T : Type} {xs ys : List T} {k : Nat} (h : xs.take k = ys.take k) (hx : k < xs.length) (hy : k < ys.length) : xs.take (k + 1) = ys.take (k + 1) ↔ xs[k] = ys[k] := by
 rw [List.take_succ_eq_append_getElem hx, List.take_succ_eq_append_getElem hy, h]
 exact ⟨fun e => by have := List.append_cancel_left e; simpa using this, fun e => by rw [e]⟩
end
end Go.Proofs.YtajfnmohlnkncaaGreatDoor
