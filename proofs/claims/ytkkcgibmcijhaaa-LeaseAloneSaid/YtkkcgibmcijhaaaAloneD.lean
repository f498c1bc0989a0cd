/- WHAT IT HOLDS: the memory of the law LeaseAlone, and what a round leaves. -/
import Derived.Test.YtkkcgibmcijhaaaAloneP
import Derived.Test.YtkkcgibmcijhaaaFrameS
import Derived.Test.YtkkcgibmcijhaaaOnce
import Derived.Test.YtkkcgibmcijhaaaStep
import Derived.Maps.OwnSet
import Derived.Carry
import Derived.Maps.OwnOps
import Derived.RegionTactic
import Derived.BigRegion
import Derived.Deep.CutBlock
import Derived.Test.YtkkcgibmcijhaaaCrcX
namespace Go.Proofs.Ytkkcgibmcijhaaa
open Go.RowKit
attribute [local go_sem ↓] Go.wp_at_zero Go.wp_at_succ

/-- an ask -/
abbrev af (a : Int × Int × Int × Int) : List Value := [iv a.1, iv a.2.1, iv a.2.2.1, iv a.2.2.2]
/-- the walk's memory: from block g on the lease, what both remember, the clocks, the map -/
structure ASt (w W : World) (g n : Nat) (l k1 k2 : L3) (n1 n2 : Int) (D : DataW Unit) : Prop where
  bel : Below w.heap.size w W
  ge : w.heap.size ≤ g
  bl : Blk W g 25 #[iv l.1, iv l.2.1, iv l.2.2]
  bk : Blk W (g + 1) 26 #[iv 0, iv 0, iv 0, iv k1.1, iv k1.2.1, iv k1.2.2, iv k2.1, iv k2.2.1, iv k2.2.2]
  bn : Blk W (g + 1 + 1) 27 #[iv 0, iv n1, iv n2]
  mp : W.ownsMap Try.prog 3 (plainElem Try.prog 3) (g + 1 + 1 + 1) n D
theorem ASt.lt {w W : World} {g n : Nat} {l k1 k2 : L3} {n1 n2 : Int} {D : DataW Unit} (h : ASt w W g n l k1 k2 n1 n2 D) : g + 1 + 1 + 1 < W.heap.size := h.mp.lt
theorem ASt.below {w W W' : World} {g n : Nat} {l k1 k2 : L3} {n1 n2 : Int} {D : DataW Unit} (h : ASt w W g n l k1 k2 n1 n2 D) (hb : Below W.heap.size W W') : ASt w W' g n l k1 k2 n1 n2 D :=
  ⟨bel_call h.bel hb, h.ge, h.bl.below hb, h.bk.below hb, h.bn.below hb, h.mp.kept (row := none) ⟨hb.os, hb.tape, hb.output, hb.size, fun k hk _ => hb.block k hk⟩ (by simp)⟩
/-- the same, and the lease as it was before the ask, in block gw -/
structure WSt (w W : World) (g n : Nat) (l k1 k2 : L3) (n1 n2 : Int) (D : DataW Unit) (gw : Nat) (lw : L3) : Prop where
  st : ASt w W g n l k1 k2 n1 n2 D
  bw : Blk W gw 25 #[iv lw.1, iv lw.2.1, iv lw.2.2]
  gt : g + 1 + 1 + 1 < gw
section
variable {w W W' : World} {g n gw : Nat} {l k1 k2 lw : L3} {n1 n2 : Int} {D : DataW Unit}
theorem WSt.below (h : WSt w W g n l k1 k2 n1 n2 D gw lw) (hb : Below W.heap.size W W') : WSt w W' g n l k1 k2 n1 n2 D gw lw := ⟨h.st.below hb, h.bw.below hb, h.gt⟩
theorem WSt.alloc (h : WSt w W g n l k1 k2 n1 n2 D gw lw) (o : Obj) : WSt w (W.alloc o) g n l k1 k2 n1 n2 D gw lw := h.below (below_new W o)
theorem WSt.drew (h : WSt w W g n l k1 k2 n1 n2 D gw lw) : WSt w W.drew g n l k1 k2 n1 n2 D gw lw := ⟨⟨⟨h.st.bel.os, h.st.bel.tape, h.st.bel.output, h.st.bel.size, h.st.bel.block⟩, h.st.ge, h.st.bl, h.st.bk, h.st.bn, h.st.mp⟩, h.bw, h.gt⟩
theorem WSt.far (h : WSt w W g n l k1 k2 n1 n2 D gw lw) {b i : Nat} (hb : gw < b) (u : Value) : WSt w (W.setCell ⟨b, i, none⟩ u) g n l k1 k2 n1 n2 D gw lw := by
  have := h.gt
  have := h.st.ge
  exact ⟨⟨bel_set h.st.bel (by show w.heap.size ≤ b; omega) u, h.st.ge, h.st.bl.far (by show g ≠ b; omega) u, h.st.bk.far (by show g + 1 ≠ b; omega) u, h.st.bn.far (by show g + 1 + 1 ≠ b; omega) u, h.st.mp.setCell (by show g + 1 + 1 + 1 ≠ b; omega) u⟩, h.bw.far (by show gw ≠ b; omega) u, h.gt⟩
theorem WSt.far3 (h : WSt w W g n l k1 k2 n1 n2 D gw lw) {b : Nat} (hb : gw < b) (u v x : Value) : WSt w (((W.setCell ⟨b, 0, none⟩ u).setCell ⟨b, 1, none⟩ v).setCell ⟨b, 2, none⟩ x) g n l k1 k2 n1 n2 D gw lw := ((h.far hb u).far hb v).far hb x
/-- a lease is stored into the lease's own block -/
theorem WSt.own (h : WSt w W g n l k1 k2 n1 n2 D gw lw) (x : L3) : WSt w (((W.setCell ⟨g, 0, none⟩ (iv x.1)).setCell ⟨g, 1, none⟩ (iv x.2.1)).setCell ⟨g, 2, none⟩ (iv x.2.2)) g n x k1 k2 n1 n2 D gw lw := by
  have h1 := h.gt
  have h2 := h.st.ge
  have f1 : g + 1 ≠ g := by omega
  have f2 : g + 1 + 1 ≠ g := by omega
  have f3 : g + 1 + 1 + 1 ≠ g := by omega
  have f4 : gw ≠ g := by omega
  exact ⟨⟨bel_set (bel_set (bel_set h.st.bel h2 _) h2 _) h2 _, h2, h.st.bl.set3 _ _ _, ((h.st.bk.far f1 _).far f1 _).far f1 _, ((h.st.bn.far f2 _).far f2 _).far f2 _, ((h.st.mp.setCell f3 _).setCell f3 _).setCell f3 _⟩, ((h.bw.far f4 _).far f4 _).far f4 _, h1⟩
theorem WSt.mem1 (h : WSt w W g n l k1 k2 n1 n2 D gw lw) (x : L3) : WSt w (((W.setCell ⟨g + 1, 3, none⟩ (iv x.1)).setCell ⟨g + 1, 4, none⟩ (iv x.2.1)).setCell ⟨g + 1, 5, none⟩ (iv x.2.2)) g n l x k2 n1 n2 D gw lw := by
  have h1 := h.gt
  have h2 := h.st.ge
  have f1 : g ≠ g + 1 := by omega
  have f2 : g + 1 + 1 ≠ g + 1 := by omega
  have f3 : g + 1 + 1 + 1 ≠ g + 1 := by omega
  have f4 : gw ≠ g + 1 := by omega
  have h3 : w.heap.size ≤ g + 1 := by omega
  exact ⟨⟨bel_set (bel_set (bel_set h.st.bel h3 _) h3 _) h3 _, h2, ((h.st.bl.far f1 _).far f1 _).far f1 _, ((h.st.bk.set_ 3 _).set_ 4 _).set_ 5 _, ((h.st.bn.far f2 _).far f2 _).far f2 _, ((h.st.mp.setCell f3 _).setCell f3 _).setCell f3 _⟩, ((h.bw.far f4 _).far f4 _).far f4 _, h1⟩
theorem WSt.mem2 (h : WSt w W g n l k1 k2 n1 n2 D gw lw) (x : L3) : WSt w (((W.setCell ⟨g + 1, 6, none⟩ (iv x.1)).setCell ⟨g + 1, 7, none⟩ (iv x.2.1)).setCell ⟨g + 1, 8, none⟩ (iv x.2.2)) g n l k1 x n1 n2 D gw lw := by
  have h1 := h.gt
  have h2 := h.st.ge
  have f1 : g ≠ g + 1 := by omega
  have f2 : g + 1 + 1 ≠ g + 1 := by omega
  have f3 : g + 1 + 1 + 1 ≠ g + 1 := by omega
  have f4 : gw ≠ g + 1 := by omega
  have h3 : w.heap.size ≤ g + 1 := by omega
  exact ⟨⟨bel_set (bel_set (bel_set h.st.bel h3 _) h3 _) h3 _, h2, ((h.st.bl.far f1 _).far f1 _).far f1 _, ((h.st.bk.set_ 6 _).set_ 7 _).set_ 8 _, ((h.st.bn.far f2 _).far f2 _).far f2 _, ((h.st.mp.setCell f3 _).setCell f3 _).setCell f3 _⟩, ((h.bw.far f4 _).far f4 _).far f4 _, h1⟩
theorem WSt.clk1 (h : WSt w W g n l k1 k2 n1 n2 D gw lw) (v : Int) : WSt w (W.setCell ⟨g + 1 + 1, 1, none⟩ (iv v)) g n l k1 k2 v n2 D gw lw := by
  have h1 := h.gt
  have h2 := h.st.ge
  exact ⟨⟨bel_set h.st.bel (by show w.heap.size ≤ g + 1 + 1; omega) _, h2, h.st.bl.far (by show g ≠ g + 1 + 1; omega) _, h.st.bk.far (by show g + 1 ≠ g + 1 + 1; omega) _, h.st.bn.set_ 1 _, h.st.mp.setCell (by show g + 1 + 1 + 1 ≠ g + 1 + 1; omega) _⟩, h.bw.far (by show gw ≠ g + 1 + 1; omega) _, h1⟩
theorem WSt.clk2 (h : WSt w W g n l k1 k2 n1 n2 D gw lw) (v : Int) : WSt w (W.setCell ⟨g + 1 + 1, 2, none⟩ (iv v)) g n l k1 k2 n1 v D gw lw := by
  have h1 := h.gt
  have h2 := h.st.ge
  exact ⟨⟨bel_set h.st.bel (by show w.heap.size ≤ g + 1 + 1; omega) _, h2, h.st.bl.far (by show g ≠ g + 1 + 1; omega) _, h.st.bk.far (by show g + 1 ≠ g + 1 + 1; omega) _, h.st.bn.set_ 2 _, h.st.mp.setCell (by show g + 1 + 1 + 1 ≠ g + 1 + 1; omega) _⟩, h.bw.far (by show gw ≠ g + 1 + 1; omega) _, h1⟩
end
theorem ASt.put {w W W' : World} {g n : Nat} {l k1 k2 : L3} {n1 n2 : Int} {D D' : DataW Unit} (h : ASt w W g n l k1 k2 n1 n2 D) (hm : W'.ownsMap Try.prog 3 (plainElem Try.prog 3) (g + 1 + 1 + 1) (n + 1) D') (hg : W.grownBy W' (some (g + 1 + 1 + 1))) : ASt w W' g (n + 1) l k1 k2 n1 n2 D' := by
  have h2 := h.ge
  have hl := h.lt
  refine ⟨below_of_but hg h.bel (by omega), h2, (hg.block g (by omega) (by simp; omega)).trans h.bl, (hg.block (g + 1) (by omega) (by simp)).trans h.bk, (hg.block (g + 1 + 1) (by omega) (by simp)).trans h.bn, hm⟩
theorem wf_i64 {a : Int} (h0 : 0 ≤ a) (h1 : a ≤ 1099511627776) : (Lit.int .i64 a).wf = true := by
  simp [Lit.wf, IntKind.min, IntKind.max, IntKind.signed, IntKind.bits]; omega
theorem lawI : Maps.Keyed Try.prog 3 := Maps.int_keyed Try.underlying3
theorem zeroI (w : World) : (zeroValue 3).run Try.prog w = .ok (.int .i64 0) w := by kernel_rfl
theorem al_meas {n k : Nat} (h : k < n) : n - (intOf (.int .i64 ((k : Int) + 1))).toNat < n - (intOf (.int .i64 (k : Int))).toNat := by
  have h1 : (intOf (.int .i64 ((k : Int) + 1))).toNat = k + 1 := by show ((k : Int) + 1).toNat = k + 1; omega
  have h2 : (intOf (.int .i64 (k : Int))).toNat = k := by show (k : Int).toNat = k; omega
  rw [h1, h2]
  omega
def ARel (w : World) (bound : Int) (m g : Nat) (x : Value) (wr : World) : Prop :=
  ∃ (i n : Nat) (l k1 k2 : L3) (n1 n2 : Int) (D : DataW Unit), i ≤ m ∧ n ≤ i ∧ x = .int .i64 i ∧ ASt w wr g n l k1 k2 n1 n2 D ∧ Hid (LInv bound i l k1 k2 n1 n2) ∧ Hid (EInv D l)
theorem u64_rem (a m : Int) (hm : 0 < m) : ∃ k : Int, 0 ≤ k ∧ k < m ∧ (IntKind.u64.wrap a).tmod m = k := by
  rw [Int.tmod_eq_emod_of_nonneg (wrap_u64_nonneg a)]
  exact ⟨_, Int.emod_nonneg _ (by omega), Int.emod_lt_of_pos _ hm, rfl⟩

theorem gen0 {T R : World → Prop} {W : World} (hT : T W) (k : ∀ W, T W → R W) : R W := k W hT
theorem al_rel {w W : World} {bound : Int} {m g i n' : Nat} {l k1 k2 : L3} {n1 n2 : Int} {D : DataW Unit} (hlt : i < m) (hn : n' ≤ i + 1)
    (hS : ASt w W g n' l k1 k2 n1 n2 D) (hL : Hid (LInv bound (i + 1) l k1 k2 n1 n2)) (hE : Hid (EInv D l)) :
    ARel w bound m g (.int .i64 ((i : Int) + 1)) W ∧ m - (intOf (.int .i64 ((i : Int) + 1))).toNat < m - (intOf (.int .i64 (i : Int))).toNat :=
  ⟨⟨i + 1, n', l, k1, k2, n1, n2, D, hlt, hn, by rfl, hS, hL, hE⟩, al_meas hlt⟩
end Go.Proofs.Ytkkcgibmcijhaaa
