/- WHAT IT HOLDS: Later, Put, Word of the package cell, and the law's Document and Long, walked. | WHAT IT HOLDS: the document's small functions of layer 5, walked. | WHAT IT HOLDS: row and alike of the package cell, walked; append as a step of a region that draws. | WHAT IT HOLDS: PutRun of the package cell, walked. | WHAT IT HOLDS: the law CellOrder, walked. | WHAT IT HOLDS: the law CellFew, walked. | WHAT IT HOLDS: the document's common and Run, and the law's Documents, walked. | WHAT IT HOLDS: the document's Run, walked. | WHAT IT HOLDS: arguments that are cells, and slices of cells, opened to the words of Kit. | WHAT IS PROVED: the statement CellRuns: for every input the law returns true. No condition. | WHAT IT HOLDS: segments, plainly (no program). | WHAT IT HOLDS: Check of segments, the program's and the document's, walked. | WHAT IT HOLDS: the document's Check of segments, and both Same, walked. | WHAT IT HOLDS: Same of segments, the program's and the document's, walked. | WHAT IT HOLDS: a segment as the document's, and a segment's copy, walked. | WHAT IT HOLDS: a segment's copy, walked; append of cells at a step of a region that draws. | WHAT IT HOLDS: a row of the call's own, written in place; rows of other types beside it. | WHAT IT HOLDS: a call's own blocks, carried together through a walk. | WHAT IT HOLDS: changes done on files, walked; how many bytes there are. | WHAT IT HOLDS: how many bytes files have, walked; which texts are names, walked; a map's copy. | WHAT IT HOLDS: which texts are names, walked. -/
import Derived.Test.YtddmfoldnlafaaaGreatDoorRegisterPlaysG07
import Derived.Laws.StructEq
import Derived.Test.YtddmfoldnlafaaaGreatDoorRegisterPlaysG06
import Derived.Deep.DeepCutAuto
import Derived.Lib.SlBytesConst
import Derived.Lib.AppendStr
import Derived.BigQuiet
import Derived.Deep.QuietTactic
import Derived.Test.YtddmfoldnlafaaaGreatDoorRegisterPlaysG01
import Derived.Test.YtddmfoldnlafaaaGreatDoorShelf
namespace Go.Proofs.YtddmfoldnlafaaaGreatDoor
open Go.RowKit
attribute [local go_sem ↓] Go.wp_at_zero Go.wp_at_succ

end Go.Proofs.YtddmfoldnlafaaaGreatDoor

namespace Go.Proofs.YtddmfoldnlafaaaGreatDoor
open Go.RowKit
attribute [local go_sem ↓] Go.wp_at_zero Go.wp_at_succ

end Go.Proofs.YtddmfoldnlafaaaGreatDoor

namespace Go.Proofs.YtddmfoldnlafaaaGreatDoor
open Go.RowKit
attribute [local go_sem ↓] Go.wp_at_zero Go.wp_at_succ


end Go.Proofs.YtddmfoldnlafaaaGreatDoor

namespace Go.Proofs.YtddmfoldnlafaaaGreatDoor
open Go.RowKit
attribute [local go_sem ↓] Go.wp_at_zero Go.wp_at_succ

end Go.Proofs.YtddmfoldnlafaaaGreatDoor

namespace Go.Proofs.YtddmfoldnlafaaaGreatDoor
open Go.ChangeShapes Go.WideShapes Go.ChangeAt Go.RowKit
attribute [local go_sem ↓] Go.wp_at_zero Go.wp_at_succ

theorem six {w : World} {g1 g2 g3 : Nat} {t : TypeId} {a b c d e f : Value} (h1 : Blk w g1 t #[a, b]) (h2 : Blk w g2 t #[c, d]) (h3 : Blk w g3 t #[e, f]) :
    w.cell? ⟨g1, 0, none⟩ = some a ∧ w.cell? ⟨g1, 1, none⟩ = some b ∧ w.cell? ⟨g2, 0, none⟩ = some c ∧ w.cell? ⟨g2, 1, none⟩ = some d ∧ w.cell? ⟨g3, 0, none⟩ = some e ∧ w.cell? ⟨g3, 1, none⟩ = some f :=
  ⟨h1.cell 0, h1.cell 1, h2.cell 0, h2.cell 1, h3.cell 0, h3.cell 1⟩

end Go.Proofs.YtddmfoldnlafaaaGreatDoor

namespace Go.Proofs.YtddmfoldnlafaaaGreatDoor
open Go.ChangeShapes Go.WideShapes Go.ChangeAt Go.RowKit
attribute [local go_sem ↓] Go.wp_at_zero Go.wp_at_succ

def u4 (kind : Int) (q : Int) : Prop := (IntKind.u64.wrap kind).tmod 4 = q
end Go.Proofs.YtddmfoldnlafaaaGreatDoor

namespace Go.Proofs.YtddmfoldnlafaaaGreatDoor
open Go.RowKit
attribute [local go_sem ↓] Go.wp_at_zero Go.wp_at_succ

end Go.Proofs.YtddmfoldnlafaaaGreatDoor

namespace Go.Proofs.YtddmfoldnlafaaaGreatDoor
open Go.RowKit
attribute [local go_sem ↓] Go.wp_at_zero Go.wp_at_succ

end Go.Proofs.YtddmfoldnlafaaaGreatDoor

namespace Go.Proofs.YtddmfoldnlafaaaGreatDoor
open Go.ChangeShapes Go.WideShapes Go.ChangeAt Go.RowKit Go.Deep

section
variable {H : Type} {enc : TypeId × Value → H} {P : Program} {w : World} {base b0 : Nat} {held : Bool} {r : Reach} {t e b : TypeId} {v : Value} {d : DataW H} {p : List MemPlace}
end
end Go.Proofs.YtddmfoldnlafaaaGreatDoor

namespace Go.Proofs.YtddmfoldnlafaaaGreatDoor
open Go.ChangeShapes Go.WideShapes Go.ChangeAt Go.RowKit
attribute [local go_sem ↓] Go.wp_at_zero Go.wp_at_succ

namespace CellRuns
end CellRuns
end Go.Proofs.YtddmfoldnlafaaaGreatDoor

namespace Go.Proofs.YtddmfoldnlafaaaGreatDoor
open Go.RowKit

end Go.Proofs.YtddmfoldnlafaaaGreatDoor

namespace Go.Proofs.YtddmfoldnlafaaaGreatDoor
open Go.RowKit
attribute [local go_sem ↓] Go.wp_at_zero Go.wp_at_succ

end Go.Proofs.YtddmfoldnlafaaaGreatDoor

namespace Go.Proofs.YtddmfoldnlafaaaGreatDoor
open Go.RowKit
attribute [local go_sem ↓] Go.wp_at_zero Go.wp_at_succ

end Go.Proofs.YtddmfoldnlafaaaGreatDoor

namespace Go.Proofs.YtddmfoldnlafaaaGreatDoor
open Go.RowKit
attribute [local go_sem ↓] Go.wp_at_zero Go.wp_at_succ

end Go.Proofs.YtddmfoldnlafaaaGreatDoor

namespace Go.Proofs.YtddmfoldnlafaaaGreatDoor
open Go.RowKit
attribute [local go_sem ↓] Go.wp_at_zero Go.wp_at_succ

theorem gen0 {T R : World → Prop} {W : World} (hT : T W) (k : ∀ W, T W → R W) : R W := k W hT

end Go.Proofs.YtddmfoldnlafaaaGreatDoor

namespace Go.Proofs.YtddmfoldnlafaaaGreatDoor
open Go.RowKit
attribute [local go_sem ↓] Go.wp_at_zero Go.wp_at_succ

end Go.Proofs.YtddmfoldnlafaaaGreatDoor

namespace Go.Proofs.YtddmfoldnlafaaaGreatDoor
open Go.RowKit

section
variable {w : World} {base base' : Nat} {e e' : TypeId} {size size' n n' c c' : Nat} {A B : Option Addr} {xs ys : List Value}
/-- where a row of one's own lies -/
theorem Own.row (h : Own w base e size A n c xs) (hn : 0 < xs.length) : ∃ g cur, A = some ⟨g, 0, none⟩ ∧ base ≤ g ∧ w.heap[g]? = some (.cells cur e (0, 0)) ∧ cur.size = c * size ∧ cur.toList.take (n * size) = xs := by
  obtain ⟨h1, h2⟩ := h
  rcases h2 with ⟨_, h0⟩ | ⟨g, cap, cur, hv, hb, hh, _, _, hs, ht⟩
  · rw [h0, Nat.zero_mul] at h1; omega
  · injection hv with hA _ hc
    subst hc
    exact ⟨g, cur, hA, hb, hh, hs, ht⟩
theorem Own.cellAt {g : Nat} (h : Own w base e size (some ⟨g, 0, none⟩) n c xs) {j : Nat} (hj : j < xs.length) : w.cell? ⟨g, j, none⟩ = some xs[j] := by
  obtain ⟨ad, hA, hc⟩ := h.sl.2.2.2.2 j _ (List.getElem?_eq_getElem hj)
  injection hA with hA
  subst hA
  rw [addr_lit] at hc
  simpa using hc
theorem Own.frz {g : Nat} (h : Own w base e size (some ⟨g, 0, none⟩) n c xs) (j : Nat) : w.frozen? ⟨g, j, none⟩ = false := by
  obtain ⟨_, h2⟩ := h
  rcases h2 with ⟨hv, _⟩ | ⟨g2, cap, cur, hv, _, hh, _⟩
  · injection hv with hA; cases hA
  · injection hv with hA
    injection hA with hA
    injection hA with hA
    subst hA
    simp [World.frozen?, hh]
theorem Own.setAt {g : Nat} (h : Own w base e size (some ⟨g, 0, none⟩) n c xs) {j : Nat} (_hj : j < xs.length) (u : Value) : Own (w.setCell ⟨g, j, none⟩ u) base e size (some ⟨g, 0, none⟩) n c (xs.set j u) := by
  obtain ⟨h1, h2⟩ := h
  refine ⟨by simpa using h1, ?_⟩
  rcases h2 with ⟨hv, _⟩ | ⟨g2, cap, cur, hv, hb, hh, hnc, hcm, hs, ht⟩
  · injection hv with hA; cases hA
  · injection hv with hA hn hc
    injection hA with hA
    injection hA with hA
    subst hA
    refine .inr ⟨g, cap, cur.setIfInBounds j u, by rw [hc], hb, heap_setCell_same w g j cur e u hh, hnc, hcm, by simpa using hs, ?_⟩
    rw [Array.toList_setIfInBounds, List.take_set, ht]
theorem Own.setOther (h : Own w base e size A n c xs) {g : Nat} (hg : A.map (·.block) ≠ some g) (i : Nat) (u : Value) : Own (w.setCell ⟨g, i, none⟩ u) base e size A n c xs :=
  ownsRow_setCell_other h (a := ⟨g, i, none⟩) (by rw [ownBlock_slice]; exact hg) u
end
end Go.Proofs.YtddmfoldnlafaaaGreatDoor

namespace Go.Proofs.YtddmfoldnlafaaaGreatDoor
open Go.RowKit

theorem gen1 {T R : World → Prop} {W : World} (hT : T W) (k : ∀ W, T W → R W) : R W := k W hT
/-- a call's own blocks: number, type, cells; and blocks that stay apart from them -/
abbrev BL := List (Nat × TypeId × Array Value)
structure Mm (w W : World) (L : BL) (G : List (Option Nat)) : Prop where
  bel : Below w.heap.size w W
  blk : ∀ x ∈ L, Blk W x.1 x.2.1 x.2.2
  low : ∀ x ∈ L, w.heap.size ≤ x.1
  dis : L.Pairwise fun x y => x.1 ≠ y.1
  far : ∀ g, some g ∈ G → g < W.heap.size ∧ ∀ x ∈ L, x.1 ≠ g
section
variable {w W W' : World} {L : BL} {G : List (Option Nat)} {g : Nat} {t : TypeId} {cs : Array Value}
theorem Mm.start (w : World) : Mm w w [] [] := ⟨Below.refl _ _, by simp, by simp, List.Pairwise.nil, by simp⟩
theorem Mm.allocO (h : Mm w W L G) (o : Obj) : Mm w (W.alloc o) L G :=
  ⟨bel_alloc h.bel o, fun x hx => (h.blk x hx).alloc o, h.low, h.dis, fun g hg => ⟨by have := (h.far g hg).1; simp; omega, (h.far g hg).2⟩⟩
theorem Mm.alloc (h : Mm w W L G) (cs : Array Value) (t : TypeId) : Mm w (W.alloc (.cells cs t)) ((W.heap.size, t, cs) :: L) G := by
  refine ⟨bel_alloc h.bel _, fun x hx => ?_, fun x hx => ?_, List.pairwise_cons.2 ⟨fun x hx => ?_, h.dis⟩, fun g hg => ⟨by have := (h.far g hg).1; simp; omega, fun x hx => ?_⟩⟩
  · rcases List.mem_cons.1 hx with rfl | hx
    · exact Blk.new W t cs
    · exact (h.blk x hx).alloc _
  · rcases List.mem_cons.1 hx with rfl | hx
    · exact h.bel.size
    · exact h.low x hx
  · have := (h.blk x hx).lt
    dsimp only
    omega
  · rcases List.mem_cons.1 hx with rfl | hx
    · have := (h.far g hg).1
      dsimp only
      omega
    · exact (h.far g hg).2 x hx
theorem Mm.call (h : Mm w W L G) (hb : Below W.heap.size W W') : Mm w W' L G :=
  ⟨bel_call h.bel hb, fun x hx => (h.blk x hx).below hb, h.low, h.dis, fun g hg => ⟨Nat.lt_of_lt_of_le (h.far g hg).1 hb.size, (h.far g hg).2⟩⟩
theorem Mm.drew (h : Mm w W L G) : Mm w W.drew L G := ⟨h.bel.drew, fun x hx => (h.blk x hx).drew, h.low, h.dis, h.far⟩
theorem Mm.sub (h : Mm w W L G) {L' : BL} (hL : L'.Sublist L) : Mm w W L' G :=
  ⟨h.bel, fun x hx => h.blk x (hL.subset hx), fun x hx => h.low x (hL.subset hx), h.dis.sublist hL, fun g hg => ⟨(h.far g hg).1, fun x hx => (h.far g hg).2 x (hL.subset hx)⟩⟩
theorem Mm.subG (h : Mm w W L G) {G' : List (Option Nat)} (hG : ∀ x ∈ G', x ∈ G) : Mm w W L G' := ⟨h.bel, h.blk, h.low, h.dis, fun g hg => h.far g (hG _ hg)⟩
theorem Mm.cons (h : Mm w W L G) (hB : Blk W g t cs) (hlo : w.heap.size ≤ g) (hd : ∀ x ∈ L, g ≠ x.1) (hf : some g ∉ G) : Mm w W ((g, t, cs) :: L) G := by
  refine ⟨h.bel, fun x hx => ?_, fun x hx => ?_, List.pairwise_cons.2 ⟨hd, h.dis⟩, fun k hk => ⟨(h.far k hk).1, fun x hx => ?_⟩⟩
  · rcases List.mem_cons.1 hx with rfl | hx
    · exact hB
    · exact h.blk x hx
  · rcases List.mem_cons.1 hx with rfl | hx
    · exact hlo
    · exact h.low x hx
  · rcases List.mem_cons.1 hx with rfl | hx
    · rintro rfl; exact hf hk
    · exact (h.far k hk).2 x hx
/-- the j-th block turns, and nothing else -/
theorem Mm.turn (h : Mm w W L G) (j : Nat) {cs' : Array Value} (hj : L[j]? = some (g, t, cs)) (hB : Blk W' g t cs') (hr : Wr W W' g) : Mm w W' (L.set j (g, t, cs')) G := by
  have hjl : j < L.length := (List.getElem?_eq_some_iff.1 hj).1
  have hje : L[j] = (g, t, cs) := (List.getElem?_eq_some_iff.1 hj).2
  have hmem : (g, t, cs) ∈ L := by rw [← hje]; exact List.getElem_mem hjl
  have hmap : (L.set j (g, t, cs')).map (·.1) = L.map (·.1) := by
    rw [List.map_set]
    apply List.ext_getElem? 
    intro i
    rw [List.getElem?_set]
    split
    · rename_i e
      subst e
      simp [hjl, hje]
    · rfl
  have hin : ∀ x ∈ L.set j (g, t, cs'), ∃ y ∈ L, y.1 = x.1 := fun x hx => by
    have : x.1 ∈ (L.set j (g, t, cs')).map (·.1) := List.mem_map_of_mem hx
    rw [hmap] at this
    obtain ⟨y, hy, e⟩ := List.mem_map.1 this
    exact ⟨y, hy, e⟩
  refine ⟨h.bel.trans (hr.below h.bel.size (h.low _ hmem)), fun x hx => ?_, fun x hx => ?_, ?_, fun k hk => ⟨Nat.lt_of_lt_of_le (h.far k hk).1 hr.size, fun x hx => ?_⟩⟩
  · rw [List.mem_iff_getElem?] at hx
    obtain ⟨i, hi⟩ := hx
    rw [List.getElem?_set] at hi
    split at hi
    · rename_i e
      injection hi with hi
      subst hi
      exact hB
    · rename_i e
      have hm := List.mem_of_getElem? hi
      refine (h.blk x hm).wr hr ?_
      obtain ⟨hil, hie⟩ := List.getElem?_eq_some_iff.1 hi
      have hp := List.pairwise_iff_getElem.1 h.dis
      rcases Nat.lt_or_gt_of_ne e with hlt | hlt
      · have := hp j i hjl hil hlt
        rw [hje, hie] at this
        exact fun e => this e.symm
      · have := hp i j hil hjl hlt
        rw [hje, hie] at this
        exact this
  · obtain ⟨y, hy, e⟩ := hin x hx
    rw [← e]
    exact h.low y hy
  · have h1 := h.dis
    rw [show (fun x y : Nat × TypeId × Array Value => x.1 ≠ y.1) = (fun x y => (fun a b : Nat => a ≠ b) x.1 y.1) from rfl, ← List.pairwise_map] at h1 ⊢
    rw [hmap]
    exact h1
  · obtain ⟨y, hy, e⟩ := hin x hx
    rw [← e]
    exact (h.far k hk).2 y hy
theorem Mm.set (h : Mm w W L G) (j i : Nat) (v : Value) (hj : L[j]? = some (g, t, cs)) : Mm w (W.setCell ⟨g, i, none⟩ v) (L.set j (g, t, cs.setIfInBounds i v)) G :=
  h.turn j hj ((h.blk _ (List.mem_of_getElem? hj)).set_ i v) ((Wr.refl _ _).set_ i v)
theorem Mm.b0 {L : BL} (h : Mm w W ((g, t, cs) :: L) G) : Blk W g t cs := h.blk _ (.head _)
theorem Mm.b1 {a : Nat × TypeId × Array Value} {L : BL} (h : Mm w W (a :: (g, t, cs) :: L) G) : Blk W g t cs := h.blk _ (.tail _ (.head _))
theorem Mm.b2 {a b : Nat × TypeId × Array Value} {L : BL} (h : Mm w W (a :: b :: (g, t, cs) :: L) G) : Blk W g t cs := h.blk _ (.tail _ (.tail _ (.head _)))
/-- a block that is none of these is written -/
theorem Mm.off (h : Mm w W L G) (hr : Wr W W' g) (hg : ∀ x ∈ L, x.1 ≠ g) (hlo : w.heap.size ≤ g) : Mm w W' L G :=
  ⟨h.bel.trans (hr.below h.bel.size hlo), fun x hx => (h.blk x hx).wr hr (hg x hx), h.low, h.dis, fun k hk => ⟨Nat.lt_of_lt_of_le (h.far k hk).1 hr.size, (h.far k hk).2⟩⟩
/-- what lies above all of them turns -/
theorem Mm.base (h : Mm w W L G) {B : Nat} (hb : Below B W W') (hL : ∀ x ∈ L, x.1 < B) (hlo : w.heap.size ≤ B) {a : Option Nat} (hA : ∀ k, a = some k → B ≤ k ∧ k < W'.heap.size) {G' : List (Option Nat)} (hG : ∀ x ∈ G', x ∈ G) : Mm w W' L (a :: G') := by
  refine ⟨h.bel.trans (hb.mono hlo), fun x hx => (hb.block _ (hL x hx)).trans (h.blk x hx), h.low, h.dis, fun g hg => ?_⟩
  rcases List.mem_cons.1 hg with e | hg
  · obtain ⟨h1, h2⟩ := hA g e.symm
    exact ⟨h2, fun x hx => by have := hL x hx; omega⟩
  · exact ⟨Nat.lt_of_lt_of_le (h.far g (hG _ hg)).1 hb.size, (h.far g (hG _ hg)).2⟩
theorem Mm.above (h : Mm w W L []) {B : Nat} (hb : Below B W W') (hL : ∀ x ∈ L, x.1 < B) (hlo : w.heap.size ≤ B) : Mm w W' L [] :=
  (h.base hb hL hlo (a := none) (fun _ h => by cases h) (G' := []) (fun _ h => h)).subG (fun _ h => .tail _ h)
end
end Go.Proofs.YtddmfoldnlafaaaGreatDoor

namespace Go.Proofs.YtddmfoldnlafaaaGreatDoor
open Go.RowKit Go.Maps Go.Sort
attribute [local go_sem ↓] Go.wp_at_zero Go.wp_at_succ

section
variable {P : Program} {K T E : TypeId} {w : World} {b : Nat} {l : List (Bs × Sv)} {ops : Array Oper} {rest : List Oper} {o : Oper} {a : Act} {Q : Exit → Act → World → Prop}
theorem wpl_putO (hg : o.guard = none) (m x v : Operand) (hop : o.op = Op.mapUpdate T m x v) (hK : P.underlying K = some .string) (hT : P.underlying T = some (.map K E)) (b : Nat) (l : List (Bs × Sv)) (hm : a.eval m = .map (some b)) (h : Om P K w b l) (hn : l.length < maxLen)
    (k : Bs) (hk : k.length ≤ maxLen) (hx : a.eval x = .string ⟨k.toArray⟩) (s : Sv) (hv : a.eval v = s.v) (hC : ∀ w', Om P K w' b (gput k s l) → w.grownBy w' (some b) → wpList P ops Q rest (a.put o.dst undef) w') : wpList P ops Q (o :: rest) a w := by
  refine wpList_plain hg fun K' hK' => ?_
  obtain ⟨w', hrun, r1, r2⟩ := h.store hK hT hn hk s
  unfold Oper.wp
  simp [execOp, hop, hm, hx, hv, hrun, Result.andThen]
  exact hK' _ _ (hC w' r1 r2)
theorem wpl_dropO (hg : o.guard = none) (m x : Operand) (hop : o.op = Op.call { callee := Callee.builtin Builtin.delete, args := #[m, x], argTypes := #[T, K] }) (hK : P.underlying K = some .string) (hT : P.underlying T = some (.map K E)) (b : Nat) (l : List (Bs × Sv)) (hm : a.eval m = .map (some b)) (h : Om P K w b l)
    (k : Bs) (hk : k.length ≤ maxLen) (hx : a.eval x = .string ⟨k.toArray⟩) (hC : ∀ w', Om P K w' b (gdel k l) → w.grownBy w' (some b) → wpList P ops Q rest (a.put o.dst (.tuple #[])) w') : wpList P ops Q (o :: rest) a w := by
  refine wpList_plain hg fun K' hK' => ?_
  obtain ⟨w', hrun, r1, r2⟩ := h.drop hK hT hk o.type
  unfold Oper.wp
  simp [execOp, hop, resolve, invoke, builtin, hm, hx, hrun, Result.andThen]
  exact hK' _ _ (hC w' r1 r2)
end
/-- a change's cells -/
def chl (x : Chg Sv) : List Value := [.int .i64 x.kind, .string ⟨x.name.toArray⟩, .string ⟨x.to.toArray⟩, x.val.v]
abbrev cha (x : Chg Sv) : Array Value := #[.int .i64 x.kind, .string ⟨x.name.toArray⟩, .string ⟨x.to.toArray⟩, x.val.v]
abbrev OmD (w : World) (b : Nat) (l : List (Bs × Sv)) : Prop := Om Tryz.prog 9 w b l
theorem zero_bs (w : World) : (zeroValue 25).run Tryz.prog w = .ok (.slice none 0 0) w := by kernel_rfl
theorem OmD.below {w w' : World} {b : Nat} {l : List (Bs × Sv)} (h : OmD w b l) (hb : Below w.heap.size w w') : OmD w' b l := Om.same h (hb.block b h.lt)
theorem OmD.wr {w w' : World} {b g : Nat} {l : List (Bs × Sv)} (h : OmD w b l) (hb : Wr w w' g) (hne : b ≠ g) : OmD w' b l := Om.same h (hb.block b h.lt (fun e => hne (by injection e)))
theorem Blk.fourC {w : World} {g : Nat} {t : TypeId} {a b c d : Value} (h : Blk w g t #[a, b, c, d]) : w.cell? ⟨g, 0, none⟩ = some a ∧ w.cell? ⟨g, 1, none⟩ = some b ∧ w.cell? ⟨g, 2, none⟩ = some c ∧ w.cell? ⟨g, 3, none⟩ = some d := ⟨h.cell 0, h.cell 1, h.cell 2, h.cell 3⟩
theorem Wr.thenB {w w1 w2 : World} {b : Nat} (h : Below w.heap.size w w1) (k : w1.grownBy w2 (some b)) : Wr w w2 b := (Wr.of_below h).trans k
theorem fdo_w {α : Type} {l : List (Bs × α)} {x : Chg α} (h : x.kind = 0) : fdo l x = gput x.name x.val l := by unfold fdo; rw [if_pos h]
theorem fdo_n {α : Type} {l : List (Bs × α)} {x : Chg α} (h : x.kind ≠ 0) (h2 : gget x.name l = none) : fdo l x = l := by unfold fdo; rw [if_neg h, h2]
theorem fdo_r {α : Type} {l : List (Bs × α)} {x : Chg α} {b : α} (h : x.kind = 1) (h2 : gget x.name l = some b) : fdo l x = gput x.to b (gdel x.name l) := by unfold fdo; rw [if_neg (by omega), h2]; dsimp only; rw [if_pos h]
theorem fdo_d {α : Type} {l : List (Bs × α)} {x : Chg α} {b : α} (h : x.kind ≠ 0) (h1 : x.kind ≠ 1) (h2 : gget x.name l = some b) : fdo l x = gdel x.name l := by unfold fdo; rw [if_neg h, h2]; dsimp only; rw [if_neg h1]
set_option maxRecDepth 100000 in
set_option maxHeartbeats 1000000 in
theorem Do_any {w : World} {b : Nat} {l : List (Bs × Sv)} (x : Chg Sv) (h : OmD w b l) (hl : l.length ≤ 100000000) (h1 : x.name.length ≤ 100000000) (h2 : x.to.length ≤ 100000000) :
    Calls Tryz.prog 62 #[.map (some b), .agg (cha x)] w fun e w' => e = .returned (.tuple #[]) ∧ OmD w' b (fdo l x) ∧ Wr w w' b := by
  obtain ⟨kd, nm, tt, s⟩ := x
  dsimp only at h1 h2
  have hB := Blk.new w 143 (cha ⟨kd, nm, tt, s⟩)
  have hbx := below_new w (.cells (cha ⟨kd, nm, tt, s⟩) 143)
  have hO := OmD.below h hbx
  have hbl : b < w.heap.size := h.lt
  obtain ⟨q0, q1, q2, q3⟩ := hB.fourC
  have hlk := hO.look (T := 111) (E := 25) Tryz.underlying9 Tryz.underlying111 (zero_bs _) (k := nm) (by unfold maxLen; omega)
  have hdl := glen_del nm l
  rcases Decidable.em (kd = 0) with hk0 | hk0
  · have hb0 : ((kd : Int) == 0) = true := by simp [hk0]
    have HF := Lib.hid (fdo_w (l := l) (x := ⟨kd, nm, tt, s⟩) hk0)
    clear hk0 hdl
    generalize ((gget nm l).map Sv.v).getD (.slice none 0 0) = v at *
    generalize (gget nm l).isSome = sm at *
    go_enter Tryz.func62, Tryz.ntmps62
    go_wp2_with (refine wpl_putO rfl _ _ _ rfl Tryz.underlying9 Tryz.underlying111 b l rfl hO (by unfold maxLen; omega) nm (by unfold maxLen; omega) rfl s rfl ?_; intro w2 hO2 hg2)
    go_end0
    exact ⟨rfl, by rw [HF.out]; exact hO2, Wr.thenB hbx hg2⟩
  have hb0 : ((kd : Int) == 0) = false := by simp; omega
  cases hgt : gget nm l with
  | none =>
    have HF := Lib.hid (fdo_n (l := l) (x := ⟨kd, nm, tt, s⟩) hk0 hgt)
    rw [hgt] at hlk
    clear hk0 hdl hgt
    go_enter Tryz.func62, Tryz.ntmps62
    go_wp2_with fail
    go_end0
    exact ⟨rfl, by rw [HF.out]; exact hO, Wr.of_below hbx⟩
  | some u =>
    rw [hgt] at hlk
    dsimp only [Option.map_some, Option.getD_some, Option.isSome_some] at hlk
    rcases Decidable.em (kd = 1) with hk1 | hk1
    · have hb1 : ((kd : Int) == 1) = true := by simp [hk1]
      have HF := Lib.hid (fdo_r (l := l) (x := ⟨kd, nm, tt, s⟩) hk1 hgt)
      clear hk0 hk1 hgt
      go_enter Tryz.func62, Tryz.ntmps62
      go_wp2_with (first | (refine wpl_dropO rfl _ _ rfl Tryz.underlying9 Tryz.underlying111 b l rfl hO nm (by unfold maxLen; omega) rfl ?_; intro w2 hO2 hg2; have hB2 : Blk w2 w.heap.size 143 (cha ⟨kd, nm, tt, s⟩) := (hg2.block _ hB.lt (fun e => by injection e; omega)).trans hB; obtain ⟨p0, p1, p2, p3⟩ := hB2.fourC) | (refine wpl_putO rfl _ _ _ rfl Tryz.underlying9 Tryz.underlying111 b (gdel nm l) rfl hO2 (by unfold maxLen; omega) tt (by unfold maxLen; omega) rfl u rfl ?_; intro w3 hO3 hg3))
      go_end0
      exact ⟨rfl, by rw [HF.out]; exact hO3, (Wr.thenB hbx hg2).trans hg3⟩
    · have hb1 : ((kd : Int) == 1) = false := by simp; omega
      have HF := Lib.hid (fdo_d (l := l) (x := ⟨kd, nm, tt, s⟩) hk0 hk1 hgt)
      clear hk0 hk1 hgt
      go_enter Tryz.func62, Tryz.ntmps62
      go_wp2_with (refine wpl_dropO rfl _ _ rfl Tryz.underlying9 Tryz.underlying111 b l rfl hO nm (by unfold maxLen; omega) rfl ?_; intro w2 hO2 hg2)
      go_end0
      exact ⟨rfl, by rw [HF.out]; exact hO2, Wr.thenB hbx hg2⟩
end Go.Proofs.YtddmfoldnlafaaaGreatDoor

namespace Go.Proofs.YtddmfoldnlafaaaGreatDoor
open Go.RowKit Go.Maps Go.Sort
attribute [local go_sem ↓] Go.wp_at_zero Go.wp_at_succ

/-- how many bytes the entries have that are no longer to come -/
def gone (left : Lit → Bool) (l : List (Bs × Sv)) : Nat := ((l.filter fun p => !left (.string p.1)).map fun p => p.2.l.length).sum
def svl (s : Sv) : Nat := s.l.length
theorem gone_start (l : List (Bs × Sv)) : gone (Maps.has (dat l)) l = 0 := by
  unfold gone
  have : l.filter (fun p => !Maps.has (dat l) (.string p.1)) = [] := by
    rw [List.filter_eq_nil_iff]
    intro p hp
    have h : (gget p.1 l).isSome = true := by
      cases hg : gget p.1 l with
      | none => exact absurd rfl (gget_none.1 hg p hp)
      | some _ => rfl
    rw [dat_has, h]
    simp
  rw [this]
  rfl
theorem gone_end {left : Lit → Bool} (h : ∀ kl, left kl = false) (l : List (Bs × Sv)) : gone left l = fused svl l := by
  unfold gone fused
  rw [List.filter_eq_self.2 (fun p _ => by rw [h]; rfl)]
  rfl
theorem gone_le (left : Lit → Bool) (l : List (Bs × Sv)) : gone left l ≤ fused svl l := by
  unfold gone fused
  induction l with
  | nil => exact Nat.le_refl _
  | cons y r ih =>
    rw [List.filter_cons]
    split
    · simp only [List.map_cons, List.sum_cons]; unfold svl at *; omega
    · simp only [List.map_cons, List.sum_cons]; unfold svl at *; omega
theorem gone_step {left : Lit → Bool} {k : Bs} {s : Sv} (hl : left (.string k) = true) : ∀ {l : List (Bs × Sv)}, Ris l → (k, s) ∈ l → gone (fun z => left z && !z.sameKey (.string k)) l = gone left l + s.l.length
  | y :: r, hr, hm => by
    obtain ⟨h1, h2⟩ := List.pairwise_cons.1 hr
    have hcons : ∀ (f : Lit → Bool), gone f (y :: r) = (if f (.string y.1) = true then 0 else y.2.l.length) + gone f r := fun f => by
      unfold gone
      rw [List.filter_cons]
      cases f (.string y.1) <;> simp
    rw [hcons, hcons]
    rcases List.mem_cons.1 hm with e | hm
    · subst e
      have hno : gone (fun z => left z && !z.sameKey (.string k)) r = gone left r := by
        unfold gone
        congr 2
        refine List.filter_congr fun p hp => ?_
        have hne : p.1 ≠ k := by
          intro e
          have := h1 p hp
          rw [e, bb_irrefl] at this
          cases this
        have : (Lit.string p.1).sameKey (.string k) = false := by rw [sameKey_str]; exact beq_eq_false_iff_ne.2 hne
        dsimp only
        rw [this]
        simp
      rw [hno]
      dsimp only
      rw [show (Lit.string k).sameKey (.string k) = true from by rw [sameKey_str]; simp]
      simp [hl]
      omega
    · have hne : y.1 ≠ k := by
        intro e
        have := h1 _ hm
        rw [e, bb_irrefl] at this
        cases this
      have : (Lit.string y.1).sameKey (.string k) = false := by rw [sameKey_str]; exact beq_eq_false_iff_ne.2 hne
      rw [gone_step hl h2 hm]
      simp only [this, Bool.not_false, Bool.and_true]
      omega
theorem dat_at_mem {k : Bs} {l : List (Bs × Sv)} {y : DataW Value} (h : ∀ zd, (dat l).atKey (.string k) zd = y) : ∃ s, (k, s) ∈ l ∧ y = .held s.v := by
  cases hg : gget k l with
  | none =>
    have hz : ∀ zd, (dat l).atKey (.string k) zd = zd := fun zd => by
      unfold dat DataW.atKey
      dsimp only
      rw [List.find?_map]
      have hf : ((fun p : Lit × DataW Value => p.1.sameKey (Lit.string k)) ∘ fun p : Bs × Sv => ((Lit.string p.1, DataW.held p.2.v) : Lit × DataW Value)) = fun p => p.1 == k := rfl
      rw [hf]
      unfold gget at hg
      rw [Option.map_eq_none_iff] at hg
      rw [hg]
      rfl
    have h1 := h .nil
    have h2 := h (.agg [])
    rw [hz] at h1 h2
    rw [← h1] at h2
    cases h2
  | some s =>
    refine ⟨s, gget_mem hg, ?_⟩
    rw [← h (.held (.slice none 0 0)), dat_at, hg]
    rfl
theorem wrap_ok {x : Int} (h0 : 0 ≤ x) (h1 : x ≤ 4611686018427387904) : wrap64 x = x ∧ IntKind.i64.wrap x = x := by
  constructor
  · simp only [wrap64]; omega
  · rw [IntKind.wrap_i64]; omega
set_option maxRecDepth 100000 in
set_option maxHeartbeats 1000000 in
theorem Used_any {w : World} {b : Nat} {l : List (Bs × Sv)} (h : OmD w b l) (hr : Ris l) (hs : fused svl l ≤ 4611686018427387904) :
    Calls Tryz.prog 135 #[.map (some b)] w fun e w' => e = .returned (.int .i64 (fused svl l : Nat)) ∧ Below w.heap.size w w' := by
  have hbl : b < w.heap.size := h.lt
  have h0 : w.ownsMap Tryz.prog 9 tok b l.length (dat l) := h
  go_enter Tryz.func135, Tryz.ntmps135
  go_wp2_with (at_range; refine wpList_range_own _ rfl _ 111 rfl 9 25 (string_keyed Tryz.underlying9) Tryz.underlying111 _ b l.length _ rfl h0 ?_; intro w0 hrg0 hg0 hs0)
  go_frame
  clear h0
  go_loopw [3] (fun x wr => ∃ (left : Lit → Bool) (cnt : Nat), wr.ranges Tryz.prog 9 tok b w.heap.size l.length (dat l) left cnt ∧ x = .int .i64 (gone left l : Nat) ∧ Below w.heap.size w wr) (fun x wr => wr.rangeLeft b w.heap.size)
  case atStart => exact ⟨_, _, hrg0, by rw [gone_start]; rfl, ⟨hg0.os, hg0.tape, hg0.output, hg0.size, fun i hi => hg0.block i hi (by simp)⟩⟩
  case round =>
    obtain ⟨left, cnt, hrg, rfl, hbw⟩ := hrel
    have hgl := gone_le left l
    go_wp2_with (at_next; refine wpList_next_ranges _ rfl _ rfl 9 (string_keyed Tryz.underlying9) tok encStr id (fun key kl hk => by obtain ⟨x, hx, _⟩ := Maps.keyOf_str Tryz.underlying9 hk; exact ⟨x, hx⟩) (fun v _ _ => ⟨v, rfl⟩) b w.heap.size l.length _ _ _ rfl hrg ?_ ?_)
    · intro hc0 hl0
      have HG := Lib.hid (gone_end hl0 l)
      go_wp2_with fail
      go_ret
      exact ⟨by rw [HG.out]; rfl, hbw⟩
    · intro x c kl yd yp w2 cnt2 hkey hlk hv hat hrg2 hlt hg2 hs2 hen
      obtain ⟨x', ex, rfl, _⟩ := Maps.keyOf_str Tryz.underlying9 hkey
      obtain rfl : x = x' := encStr_inj ex
      obtain ⟨s, hms, hyd⟩ := dat_at_mem hat
      have hcs : c = s.v := by
        unfold tok at hv
        injection hv with hv
        injection hv with hv _
        rw [hyd] at hv
        injection hv with hv
      subst hcs
      obtain ⟨A, cc, ll⟩ := s
      have HST := Lib.hid (gone_step hlk hr hms)
      have hgl2 := gone_le (fun z => left z && !z.sameKey (.string x)) l
      have hsum : gone left l + ll.length ≤ 4611686018427387904 := by rw [HST.out] at hgl2; dsimp only at hgl2; omega
      obtain ⟨hwr, hwr2⟩ := wrap_ok (x := (gone left l : Nat) + (ll.length : Nat)) (by omega) (by omega)
      have hb2 : Below w.heap.size w w2 := ⟨hg2.os.trans hbw.os, hg2.tape.trans hbw.tape, hg2.output.trans hbw.output, Nat.le_trans hbw.size hg2.size, fun i hi => (hg2.block i (Nat.lt_of_lt_of_le hi hbw.size) (fun e => by injection e; omega)).trans (hbw.block i hi)⟩
      have hen' : (Instr.entry (.pointer (some ⟨w.heap.size, 0, none⟩))).run Tryz.prog w2 = .ok (.tuple #[encStr x, .slice A ll.length cc]) w2 := hen
      clear hs2 hen hat hyd hv hms hgl2 hgl
      go_wp2_with fail
      go_roundw
      case rel => exact ⟨_, _, hrg2, by rw [HST.out]; go_num, hb2⟩
      case measure => rw [hrg2.left_eq, hrg.left_eq]; omega
end Go.Proofs.YtddmfoldnlafaaaGreatDoor

namespace Go.Proofs.YtddmfoldnlafaaaGreatDoor
open Go.RowKit Go.Maps Go.Sort
attribute [local go_sem ↓] Go.wp_at_zero Go.wp_at_succ

def signs : Bs := [97, 98, 99, 100, 101, 102, 103, 104, 105, 106, 107, 108, 109, 110, 111, 112, 113, 114, 115, 116, 117, 118, 119, 120, 121, 122, 48, 49, 50, 51, 52, 53, 54, 55, 56, 57, 45, 46, 126]
theorem signs_all : ((List.range 256).all fun n => signs.contains (UInt8.ofNat n) == isSign (UInt8.ofNat n)) = true := by decide +kernel
theorem signs_is (c : UInt8) : signs.contains c = isSign c := by
  have h := List.all_eq_true.1 signs_all c.toNat (List.mem_range.2 (UInt8.toNat_lt c))
  rw [UInt8.ofNat_toNat] at h
  simpa using h
theorem dropWhile_nil {p : UInt8 → Bool} : ∀ {l : Bs}, l.dropWhile p = [] ↔ l.all p = true
  | [] => by simp
  | x :: r => by
    rw [List.dropWhile_cons, List.all_cons]
    cases hx : p x
    · simp
    · simpa using dropWhile_nil (l := r)
theorem trim_nil (l : Bs) : Lib.trimS l signs = [] ↔ l.all isSign = true := by
  have hp : (fun x => signs.contains x) = isSign := funext signs_is
  unfold Lib.trimS Lib.trimRightS Lib.trimLeftS
  rw [hp]
  constructor
  · intro h
    rw [dropWhile_nil, List.all_reverse] at h
    rw [← List.all_reverse, ← dropWhile_nil]
    cases hd : l.reverse.dropWhile isSign with
    | nil => rfl
    | cons y r =>
      rw [hd, List.all_cons, Bool.and_eq_true] at h
      have := List.head?_dropWhile_not isSign l.reverse
      rw [hd] at this
      simp [h.1] at this
  · intro h
    rw [← List.all_reverse, ← dropWhile_nil] at h
    rw [h]
    rfl
set_option maxRecDepth 100000 in
set_option maxHeartbeats 1000000 in
theorem Named_any (s : Bs) (w : World) (hs : s.length ≤ 9223372036854775807) :
    Calls Tryz.prog 108 #[.string ⟨s.toArray⟩] w fun e w' => e = .returned (.bool (named s)) ∧ Below w.heap.size w w' := by
  have hT := fun W => Tryz.strings_Trim_any ⟨s.toArray⟩ ⟨signs.toArray⟩ W (by simpa [ByteArray.size] using (by omega : s.length ≤ 9223372036854775807)) (by decide) (fun j b hb => by
    have hall : ∀ b ∈ signs, b.toNat < 128 := by decide
    exact hall b (List.mem_of_getElem? hb))
  have htn := trim_nil s
  rw [show (⟨s.toArray⟩ : ByteArray).data.toList = s from rfl, show (⟨signs.toArray⟩ : ByteArray).data.toList = signs from rfl] at hT
  generalize Lib.trimS s signs = t at *
  have HT := Lib.hid hT
  have hsz : (ByteArray.size ⟨s.toArray⟩) = s.length := by simp [ByteArray.size]
  clear hT
  rcases Nat.lt_or_ge s.length 1 with h1 | h1
  · have hI : (s.length : Int) < 1 := by omega
    have HN := Lib.hid (show named s = false from by unfold named; simp; omega)
    go_enter Tryz.func108, Tryz.ntmps108
    go_wp2_with fail
    go_ret
    exact ⟨by rw [HN.out]; rfl, Below.refl _ _⟩
  have hI : (1 : Int) ≤ (s.length : Int) := by omega
  rcases Nat.lt_or_ge 24 s.length with h2 | h2
  · have hI2 : (24 : Int) < (s.length : Int) := by omega
    have HN := Lib.hid (show named s = false from by unfold named; simp; omega)
    go_enter Tryz.func108, Tryz.ntmps108
    go_wp2_with fail
    go_ret
    exact ⟨by rw [HN.out]; rfl, Below.refl _ _⟩
  have hI2 : (s.length : Int) ≤ 24 := by omega
  go_enter Tryz.func108, Tryz.ntmps108
  go_wp2_with fail
  refine (HT.out _).mono ?_
  rintro e w2 ⟨rfl, hb2⟩
  cases t with
  | nil =>
    have HN := Lib.hid (show named s = true from by unfold named; simp [htn.1 rfl]; omega)
    go_wp2_with fail
    go_ret
    exact ⟨by rw [HN.out]; rfl, hb2⟩
  | cons y r =>
    have HN := Lib.hid (show named s = false from by
      have : s.all isSign = false := by
        rw [Bool.eq_false_iff]
        intro h
        have := htn.2 h
        cases this
      unfold named
      rw [this]
      simp)
    go_wp2_with fail
    go_ret
    exact ⟨by rw [HN.out]; rfl, hb2⟩
end Go.Proofs.YtddmfoldnlafaaaGreatDoor
