/- WHAT IT HOLDS: a segment's copy, walked; append of cells at a step of a region that draws. | WHAT IT HOLDS: a row of the call's own, written in place; rows of other types beside it. -/
import Derived.Test.YtgipfenjachpnaaCellChecksG10
namespace Go.Proofs.Ytgipfenjachpnaa
open Go.RowKit
attribute [local go_sem ↓] Go.wp_at_zero Go.wp_at_succ

theorem one_cf (l : List CeV) : ∀ u ∈ l.flatMap cf, u.oneCell' = true := by
  intro u hu
  simp only [List.mem_flatMap, List.mem_cons, List.not_mem_nil, or_false] at hu
  obtain ⟨x, _, hx⟩ := hu
  rcases hx with rfl | rfl <;> rfl
theorem step_cells {w : World} {ops : Array Oper} {o : Oper} {a : Act} {K : Act → World → Prop} {Q : Exit → Act → World → Prop} {X : Prop} (hw : Region.wanted o (yielded ops a.tmps) = true) (s x : Operand)
    (ho : o.op = .call { callee := .builtin .append, args := #[s, x], argTypes := #[27, 27] })
    (base : Nat) (A : Option Addr) (c : Nat) (l : List CeV) (hs : a.eval s = .slice A l.length c) (hown : Own w base 24 2 A l.length c (l.flatMap cf))
    (A2 : Option Addr) (c2 n2 : Nat) (l2 : List CeV) (hn2 : n2 = l2.length) (hx : a.eval x = .slice A2 n2 c2) (hr : Sl w 2 A2 l2.length c2 (l2.flatMap cf)) (hlen : l.length + l2.length ≤ 1000000000) (hbase : base ≤ w.heap.size)
    (h : ∀ A' c' (m : List CeV) w', Hid (m = l ++ l2) → Own w' base 24 2 A' m.length c' (m.flatMap cf) → w.grownBy w' (A.map (·.block)) → Below base w w' → K (a.put o.dst (.slice A' m.length c')) w') :
    if Region.wanted o (yielded ops a.tmps) = true then Oper.wp Try.prog o a w K Q else X := by
  subst hn2
  obtain ⟨i0, hi, hz0, hz1, hz2⟩ := info_parts cell_info
  refine step_append hw s x 27 ho base 24 i0 _ 2 32 Try.underlying27 hi hz0 hz1 hz2 rfl (by decide) A l.length c (l.flatMap cf) hs hown A2 l2.length c2 (l2.flatMap cf) hx hr (one_cf l2) (by omega) (by simp only [maxLen]; omega) hbase ?_
  intro A' c' w' hap
  rw [← List.length_append]
  refine h A' c' (l ++ l2) w' rfl ?_ hap.grown (hap.below hown hbase)
  have := hap.own
  simpa using this
theorem one_df (l : List Ce) : ∀ u ∈ l.flatMap df, u.oneCell' = true := by
  intro u hu
  simp only [List.mem_flatMap, List.mem_cons, List.not_mem_nil, or_false] at hu
  obtain ⟨x, _, hx⟩ := hu
  rcases hx with rfl | rfl <;> rfl
theorem step_dcells {w : World} {ops : Array Oper} {o : Oper} {a : Act} {K : Act → World → Prop} {Q : Exit → Act → World → Prop} {X : Prop} (hw : Region.wanted o (yielded ops a.tmps) = true) (s x : Operand)
    (ho : o.op = .call { callee := .builtin .append, args := #[s, x], argTypes := #[69, 69] })
    (base : Nat) (A : Option Addr) (c : Nat) (l : List Ce) (hs : a.eval s = .slice A l.length c) (hown : Own w base 29 2 A l.length c (l.flatMap df))
    (A2 : Option Addr) (c2 n2 : Nat) (l2 : List Ce) (hn2 : n2 = l2.length) (hx : a.eval x = .slice A2 n2 c2) (hr : Sl w 2 A2 l2.length c2 (l2.flatMap df)) (hlen : l.length + l2.length ≤ 1000000000) (hbase : base ≤ w.heap.size)
    (h : ∀ A' c' (m : List Ce) w', Hid (m = l ++ l2) → Own w' base 29 2 A' m.length c' (m.flatMap df) → w.grownBy w' (A.map (·.block)) → Below base w w' → K (a.put o.dst (.slice A' m.length c')) w') :
    if Region.wanted o (yielded ops a.tmps) = true then Oper.wp Try.prog o a w K Q else X := by
  subst hn2
  obtain ⟨i0, hi, hz0, hz1, hz2⟩ := info_parts dcell_info
  refine step_append hw s x 69 ho base 29 i0 _ 2 24 Try.underlying69 hi hz0 hz1 hz2 rfl (by decide) A l.length c (l.flatMap df) hs hown A2 l2.length c2 (l2.flatMap df) hx hr (one_df l2) (by omega) (by simp only [maxLen]; omega) hbase ?_
  intro A' c' w' hap
  rw [← List.length_append]
  refine h A' c' (l ++ l2) w' rfl ?_ hap.grown (hap.below hown hbase)
  have := hap.own
  simpa using this
/-- a row of another type is as it was behind an append -/
theorem Own.other {w w' : World} {base base' : Nat} {e e' : TypeId} {size size' n n' c c' : Nat} {A B : Option Addr} {xs ys : List Value} (h : Own w base' e' size' B n' c' ys) (ho : Own w base e size A n c xs) (hg : w.grownBy w' (A.map (·.block))) (hne : e ≠ e') : Own w' base' e' size' B n' c' ys := by
  obtain ⟨h1, h2⟩ := h
  refine ⟨h1, ?_⟩
  rcases h2 with h2 | ⟨g', cap, cur, hv, hb, hh, r⟩
  · exact Or.inl h2
  · refine Or.inr ⟨g', cap, cur, hv, hb, (hg.block g' (Array.getElem?_eq_some_iff.1 hh).1 (fun he => ?_)).trans hh, r⟩
    rcases ho.2 with ⟨hv2, _⟩ | ⟨g2, cap2, cur2, hv2, _, hh2, _⟩
    · injection hv2 with hA
      subst hA
      simp at he
    · injection hv2 with hA
      subst hA
      simp at he
      subst he
      rw [hh] at hh2
      injection hh2 with hh2
      injection hh2 with _ ht
      exact hne ht.symm
theorem Own.ltB {w : World} {base : Nat} {e : TypeId} {size n c : Nat} {A : Option Addr} {xs : List Value} (h : Own w base e size A n c xs) : ∀ g, A.map (·.block) = some g → base ≤ g ∧ g < w.heap.size := by
  intro g hg
  rcases h.2 with ⟨hv, _⟩ | ⟨g2, cap, cur, hv, hb, hh, _⟩
  · injection hv with hA
    subst hA
    simp at hg
  · injection hv with hA
    subst hA
    simp at hg
    subst hg
    exact ⟨hb, (Array.getElem?_eq_some_iff.1 hh).1⟩
theorem Own.set1 {w : World} {base : Nat} {e : TypeId} {size n c : Nat} {A : Option Addr} {xs : List Value} (h : Own w base e size A n c xs) {g i : Nat} (hg : g < base) (u : Value) : Own (w.setCell ⟨g, i, none⟩ u) base e size A n c xs :=
  ownsRow_setCell_below (a := ⟨g, i, none⟩) h hg u

/-- a new segment: a row of its own, bytes of its own -/
def NewS (w' : World) (base : Nat) (A : Option Addr) (c : Nat) (m : List CeV) : Prop := Own w' base 24 2 A m.length c (m.flatMap cf) ∧ ∀ x ∈ m, OwnB w' base 5 x.2.1 x.2.2.1 x.2.2.2
theorem NewS.slc {w' : World} {base : Nat} {A : Option Addr} {c : Nat} {m : List CeV} (h : NewS w' base A c m) : SlC w' A c m := ⟨h.1.sl, fun x hx => (h.2 x hx).sl⟩
theorem NewS.below {w w' : World} {base : Nat} {A : Option Addr} {c : Nat} {m : List CeV} (h : NewS w base A c m) (hb : Below w.heap.size w w') : NewS w' base A c m := ⟨Own.below h.1 hb, fun x hx => Own.below (h.2 x hx) hb⟩
theorem NewS.more {w : World} {base base' : Nat} {A : Option Addr} {c : Nat} {m : List CeV} (h : NewS w base A c m) (hb : base' ≤ base) : NewS w base' A c m := ⟨h.1.more hb, fun x hx => (h.2 x hx).more hb⟩

end Go.Proofs.Ytgipfenjachpnaa

namespace Go.Proofs.Ytgipfenjachpnaa
open Go.RowKit

section
variable {w : World} {base base' : Nat} {e e' : TypeId} {size size' n n' c c' : Nat} {A B : Option Addr} {xs ys : List Value}
/-- where a row of one's own lies -/
theorem Own.row (h : Own w base e size A n c xs) (hn : 0 < xs.length) : ∃ g cur, A = some ⟨g, 0, none⟩ ∧ base ≤ g ∧ w.heap[g]? = some (.cells cur e (0, 0)) ∧ cur.size = c * size ∧ cur.toList.take (n * size) = xs := by
  obtain ⟨h1, h2⟩ := h
  rcases h2 with ⟨_, h0⟩ | ⟨g, cap, cur, hv, hb, hh, _, _, hs, ht⟩
  · rw [h0, Nat.zero_mul] at h1; omega
  · injection hv with hA _ hc
    subst hc
    exact ⟨g, cur, hA, hb, hh, hs, ht⟩
theorem Own.cellAt {g : Nat} (h : Own w base e size (some ⟨g, 0, none⟩) n c xs) {j : Nat} (hj : j < xs.length) : w.cell? ⟨g, j, none⟩ = some xs[j] := by
  obtain ⟨ad, hA, hc⟩ := h.sl.2.2.2.2 j _ (List.getElem?_eq_getElem hj)
  injection hA with hA
  subst hA
  rw [addr_lit] at hc
  simpa using hc
theorem Own.frz {g : Nat} (h : Own w base e size (some ⟨g, 0, none⟩) n c xs) (j : Nat) : w.frozen? ⟨g, j, none⟩ = false := by
  obtain ⟨_, h2⟩ := h
  rcases h2 with ⟨hv, _⟩ | ⟨g2, cap, cur, hv, _, hh, _⟩
  · injection hv with hA; cases hA
  · injection hv with hA
    injection hA with hA
    injection hA with hA
    subst hA
    simp [World.frozen?, hh]
theorem Own.setAt {g : Nat} (h : Own w base e size (some ⟨g, 0, none⟩) n c xs) {j : Nat} (_hj : j < xs.length) (u : Value) : Own (w.setCell ⟨g, j, none⟩ u) base e size (some ⟨g, 0, none⟩) n c (xs.set j u) := by
  obtain ⟨h1, h2⟩ := h
  refine ⟨by simpa using h1, ?_⟩
  rcases h2 with ⟨hv, _⟩ | ⟨g2, cap, cur, hv, hb, hh, hnc, hcm, hs, ht⟩
  · injection hv with hA; cases hA
  · injection hv with hA hn hc
    injection hA with hA
    injection hA with hA
    subst hA
    refine .inr ⟨g, cap, cur.setIfInBounds j u, by rw [hc], hb, heap_setCell_same w g j cur e u hh, hnc, hcm, by simpa using hs, ?_⟩
    rw [Array.toList_setIfInBounds, List.take_set, ht]
theorem Own.apart (h : Own w base e size A n c xs) (k : Own w base' e' size' B n' c' ys) (hne : e ≠ e') : ∀ g, A.map (·.block) = some g → B.map (·.block) ≠ some g := by
  intro g hg hg2
  rcases h.2 with ⟨hv, _⟩ | ⟨g1, _, cur, hv, _, hh, _⟩
  · injection hv with hA; subst hA; simp at hg
  · injection hv with hA
    subst hA
    simp at hg
    subst hg
    rcases k.2 with ⟨hv2, _⟩ | ⟨g2, _, cur2, hv2, _, hh2, _⟩
    · injection hv2 with hB; subst hB; simp at hg2
    · injection hv2 with hB
      subst hB
      simp at hg2
      subst hg2
      rw [hh] at hh2
      injection hh2 with hh2
      injection hh2 with _ ht
      exact hne ht
theorem Own.setOther (h : Own w base e size A n c xs) {g : Nat} (hg : A.map (·.block) ≠ some g) (i : Nat) (u : Value) : Own (w.setCell ⟨g, i, none⟩ u) base e size A n c xs :=
  ownsRow_setCell_other h (a := ⟨g, i, none⟩) (by rw [ownBlock_slice]; exact hg) u
end
/-- the cells of a list of pairs: one cell turned -/
theorem flat_set {T : Type} {f : T → List Value} {s : Nat} (hf : ∀ x, (f x).length = s) : ∀ (l : List T) (k j : Nat) (y : T) (u : Value), (hk : k < l.length) → j < s → f y = (f l[k]).set j u → (l.set k y).flatMap f = (l.flatMap f).set (k * s + j) u
  | x :: l, 0, j, y, u, _, hj, hy => by
    simp only [List.set_cons_zero, List.flatMap_cons, List.getElem_cons_zero, Nat.zero_mul, Nat.zero_add] at hy ⊢
    rw [hy, List.set_append_left _ _ (by rw [hf]; exact hj)]
  | x :: l, k + 1, j, y, u, hk, hj, hy => by
    simp only [List.set_cons_succ, List.flatMap_cons, List.getElem_cons_succ] at hy ⊢
    rw [flat_set hf l k j y u (by simpa using hk) hj hy, List.set_append_right _ _ (by rw [hf, Nat.succ_mul]; omega), hf]
    congr 2
    rw [Nat.succ_mul]; omega
theorem wrap_succ_ne (k : Int) : wrap64 (k + 1) ≠ k := by
  simp only [wrap64]
  omega
end Go.Proofs.Ytgipfenjachpnaa
