/- WHAT IT HOLDS: a call's own blocks, carried together through a walk. | WHAT IT HOLDS: changes done on files, walked; how many bytes there are. | WHAT IT HOLDS: how many bytes files have, walked; which texts are names, walked; a map's copy. | WHAT IT HOLDS: which texts are names, walked. | WHAT IT HOLDS: a disk in memory; what it looks at, counts, and is told, walked. -/
import Derived.Test.YtabnndjdkjkciaaGreatDoorCursorKeepsG04
import Derived.Test.YtabnndjdkjkciaaGreatDoorCursorKeepsG07
import Derived.Test.YtabnndjdkjkciaaGreatDoorCursorKeepsG01
import Derived.Test.YtabnndjdkjkciaaGreatDoorCursorKeepsG02
import Derived.Test.YtabnndjdkjkciaaGreatDoorShelf
namespace Go.Proofs.YtabnndjdkjkciaaGreatDoor
open Go.RowKit

theorem gen1 {T R : World → Prop} {W : World} (hT : T W) (k : ∀ W, T W → R W) : R W := k W hT
/-- a call's own blocks: number, type, cells; and blocks that stay apart from them -/
abbrev BL := List (Nat × TypeId × Array Value)
structure Mm (w W : World) (L : BL) (G : List (Option Nat)) : Prop where
  bel : Below w.heap.size w W
  blk : ∀ x ∈ L, Blk W x.1 x.2.1 x.2.2
  low : ∀ x ∈ L, w.heap.size ≤ x.1
  dis : L.Pairwise fun x y => x.1 ≠ y.1
  far : ∀ g, some g ∈ G → g < W.heap.size ∧ ∀ x ∈ L, x.1 ≠ g
section
variable {w W W' : World} {L : BL} {G : List (Option Nat)} {g : Nat} {t : TypeId} {cs : Array Value}
theorem Mm.start (w : World) : Mm w w [] [] := ⟨Below.refl _ _, by simp, by simp, List.Pairwise.nil, by simp⟩
theorem Mm.allocO (h : Mm w W L G) (o : Obj) : Mm w (W.alloc o) L G :=
  ⟨bel_alloc h.bel o, fun x hx => (h.blk x hx).alloc o, h.low, h.dis, fun g hg => ⟨by have := (h.far g hg).1; simp; omega, (h.far g hg).2⟩⟩
theorem Mm.alloc (h : Mm w W L G) (cs : Array Value) (t : TypeId) : Mm w (W.alloc (.cells cs t)) ((W.heap.size, t, cs) :: L) G := by
  refine ⟨bel_alloc h.bel _, fun x hx => ?_, fun x hx => ?_, List.pairwise_cons.2 ⟨fun x hx => ?_, h.dis⟩, fun g hg => ⟨by have := (h.far g hg).1; simp; omega, fun x hx => ?_⟩⟩
  · rcases List.mem_cons.1 hx with rfl | hx
    · exact Blk.new W t cs
    · exact (h.blk x hx).alloc _
  · rcases List.mem_cons.1 hx with rfl | hx
    · exact h.bel.size
    · exact h.low x hx
  · have := (h.blk x hx).lt
    dsimp only
    omega
  · rcases List.mem_cons.1 hx with rfl | hx
    · have := (h.far g hg).1
      dsimp only
      omega
    · exact (h.far g hg).2 x hx
theorem Mm.call (h : Mm w W L G) (hb : Below W.heap.size W W') : Mm w W' L G :=
  ⟨bel_call h.bel hb, fun x hx => (h.blk x hx).below hb, h.low, h.dis, fun g hg => ⟨Nat.lt_of_lt_of_le (h.far g hg).1 hb.size, (h.far g hg).2⟩⟩
theorem Mm.drew (h : Mm w W L G) : Mm w W.drew L G := ⟨h.bel.drew, fun x hx => (h.blk x hx).drew, h.low, h.dis, h.far⟩
/-- a row that a call has made stays apart -/
theorem Mm.callAdd (h : Mm w W L G) (hb : Below W.heap.size W W') {a : Option Nat} (hA : ∀ k, a = some k → W.heap.size ≤ k ∧ k < W'.heap.size) : Mm w W' L (a :: G) := by
  have h' := h.call hb
  refine ⟨h'.bel, h'.blk, h'.low, h'.dis, fun g hg => ?_⟩
  rcases List.mem_cons.1 hg with e | hg
  · obtain ⟨h1, h2⟩ := hA g e.symm
    exact ⟨h2, fun x hx => by have := (h.blk x hx).lt; omega⟩
  · exact h'.far g hg
theorem Mm.add (h : Mm w W L G) {a : Option Nat} (hA : ∀ k, a = some k → k < W.heap.size ∧ ∀ x ∈ L, x.1 ≠ k) : Mm w W L (a :: G) := by
  refine ⟨h.bel, h.blk, h.low, h.dis, fun g hg => ?_⟩
  rcases List.mem_cons.1 hg with e | hg
  · exact hA g e.symm
  · exact h.far g hg
theorem Mm.sub (h : Mm w W L G) {L' : BL} (hL : L'.Sublist L) : Mm w W L' G :=
  ⟨h.bel, fun x hx => h.blk x (hL.subset hx), fun x hx => h.low x (hL.subset hx), h.dis.sublist hL, fun g hg => ⟨(h.far g hg).1, fun x hx => (h.far g hg).2 x (hL.subset hx)⟩⟩
theorem Mm.subG (h : Mm w W L G) {G' : List (Option Nat)} (hG : ∀ x ∈ G', x ∈ G) : Mm w W L G' := ⟨h.bel, h.blk, h.low, h.dis, fun g hg => h.far g (hG _ hg)⟩
/-- a block apart is written -/
theorem Mm.wr (h : Mm w W L G) (hr : Wr W W' g) (hg : some g ∈ G) (hlo : w.heap.size ≤ g) : Mm w W' L G :=
  ⟨h.bel.trans (hr.below h.bel.size hlo), fun x hx => (h.blk x hx).wr hr ((h.far g hg).2 x hx), h.low, h.dis, fun k hk => ⟨Nat.lt_of_lt_of_le (h.far k hk).1 hr.size, (h.far k hk).2⟩⟩
theorem Mm.cons (h : Mm w W L G) (hB : Blk W g t cs) (hlo : w.heap.size ≤ g) (hd : ∀ x ∈ L, g ≠ x.1) (hf : some g ∉ G) : Mm w W ((g, t, cs) :: L) G := by
  refine ⟨h.bel, fun x hx => ?_, fun x hx => ?_, List.pairwise_cons.2 ⟨hd, h.dis⟩, fun k hk => ⟨(h.far k hk).1, fun x hx => ?_⟩⟩
  · rcases List.mem_cons.1 hx with rfl | hx
    · exact hB
    · exact h.blk x hx
  · rcases List.mem_cons.1 hx with rfl | hx
    · exact hlo
    · exact h.low x hx
  · rcases List.mem_cons.1 hx with rfl | hx
    · rintro rfl; exact hf hk
    · exact (h.far k hk).2 x hx
/-- the j-th block turns, and nothing else -/
theorem Mm.turn (h : Mm w W L G) (j : Nat) {cs' : Array Value} (hj : L[j]? = some (g, t, cs)) (hB : Blk W' g t cs') (hr : Wr W W' g) : Mm w W' (L.set j (g, t, cs')) G := by
  have hjl : j < L.length := (List.getElem?_eq_some_iff.1 hj).1
  have hje : L[j] = (g, t, cs) := (List.getElem?_eq_some_iff.1 hj).2
  have hmem : (g, t, cs) ∈ L := by rw [← hje]; exact List.getElem_mem hjl
  have hmap : (L.set j (g, t, cs')).map (·.1) = L.map (·.1) := by
    rw [List.map_set]
    apply List.ext_getElem? 
    intro i
    rw [List.getElem?_set]
    split
    · rename_i e
      subst e
      simp [hjl, hje]
    · rfl
  have hin : ∀ x ∈ L.set j (g, t, cs'), ∃ y ∈ L, y.1 = x.1 := fun x hx => by
    have : x.1 ∈ (L.set j (g, t, cs')).map (·.1) := List.mem_map_of_mem hx
    rw [hmap] at this
    obtain ⟨y, hy, e⟩ := List.mem_map.1 this
    exact ⟨y, hy, e⟩
  refine ⟨h.bel.trans (hr.below h.bel.size (h.low _ hmem)), fun x hx => ?_, fun x hx => ?_, ?_, fun k hk => ⟨Nat.lt_of_lt_of_le (h.far k hk).1 hr.size, fun x hx => ?_⟩⟩
  · rw [List.mem_iff_getElem?] at hx
    obtain ⟨i, hi⟩ := hx
    rw [List.getElem?_set] at hi
    split at hi
    · rename_i e
      injection hi with hi
      subst hi
      exact hB
    · rename_i e
      have hm := List.mem_of_getElem? hi
      refine (h.blk x hm).wr hr ?_
      obtain ⟨hil, hie⟩ := List.getElem?_eq_some_iff.1 hi
      have hp := List.pairwise_iff_getElem.1 h.dis
      rcases Nat.lt_or_gt_of_ne e with hlt | hlt
      · have := hp j i hjl hil hlt
        rw [hje, hie] at this
        exact fun e => this e.symm
      · have := hp i j hil hjl hlt
        rw [hje, hie] at this
        exact this
  · obtain ⟨y, hy, e⟩ := hin x hx
    rw [← e]
    exact h.low y hy
  · have h1 := h.dis
    rw [show (fun x y : Nat × TypeId × Array Value => x.1 ≠ y.1) = (fun x y => (fun a b : Nat => a ≠ b) x.1 y.1) from rfl, ← List.pairwise_map] at h1 ⊢
    rw [hmap]
    exact h1
  · obtain ⟨y, hy, e⟩ := hin x hx
    rw [← e]
    exact (h.far k hk).2 y hy
theorem Mm.set (h : Mm w W L G) (j i : Nat) (v : Value) (hj : L[j]? = some (g, t, cs)) : Mm w (W.setCell ⟨g, i, none⟩ v) (L.set j (g, t, cs.setIfInBounds i v)) G :=
  h.turn j hj ((h.blk _ (List.mem_of_getElem? hj)).set_ i v) ((Wr.refl _ _).set_ i v)
theorem Wr.row (cs2 : Array Value) : Wr W (W.setRow g cs2) g := ⟨rfl, rfl, rfl, by simp, fun i _ hn => setRow_other W g i cs2 (fun e => hn (by rw [e]))⟩
theorem Mm.b0 {L : BL} (h : Mm w W ((g, t, cs) :: L) G) : Blk W g t cs := h.blk _ (.head _)
theorem Mm.b1 {a : Nat × TypeId × Array Value} {L : BL} (h : Mm w W (a :: (g, t, cs) :: L) G) : Blk W g t cs := h.blk _ (.tail _ (.head _))
theorem Mm.b2 {a b : Nat × TypeId × Array Value} {L : BL} (h : Mm w W (a :: b :: (g, t, cs) :: L) G) : Blk W g t cs := h.blk _ (.tail _ (.tail _ (.head _)))
/-- a block that is none of these is written -/
theorem Mm.off (h : Mm w W L G) (hr : Wr W W' g) (hg : ∀ x ∈ L, x.1 ≠ g) (hlo : w.heap.size ≤ g) : Mm w W' L G :=
  ⟨h.bel.trans (hr.below h.bel.size hlo), fun x hx => (h.blk x hx).wr hr (hg x hx), h.low, h.dis, fun k hk => ⟨Nat.lt_of_lt_of_le (h.far k hk).1 hr.size, (h.far k hk).2⟩⟩
/-- what lies above all of them turns -/
theorem Mm.base (h : Mm w W L G) {B : Nat} (hb : Below B W W') (hL : ∀ x ∈ L, x.1 < B) (hlo : w.heap.size ≤ B) {a : Option Nat} (hA : ∀ k, a = some k → B ≤ k ∧ k < W'.heap.size) {G' : List (Option Nat)} (hG : ∀ x ∈ G', x ∈ G) : Mm w W' L (a :: G') := by
  refine ⟨h.bel.trans (hb.mono hlo), fun x hx => (hb.block _ (hL x hx)).trans (h.blk x hx), h.low, h.dis, fun g hg => ?_⟩
  rcases List.mem_cons.1 hg with e | hg
  · obtain ⟨h1, h2⟩ := hA g e.symm
    exact ⟨h2, fun x hx => by have := hL x hx; omega⟩
  · exact ⟨Nat.lt_of_lt_of_le (h.far g (hG _ hg)).1 hb.size, (h.far g (hG _ hg)).2⟩
theorem Mm.above (h : Mm w W L []) {B : Nat} (hb : Below B W W') (hL : ∀ x ∈ L, x.1 < B) (hlo : w.heap.size ≤ B) : Mm w W' L [] :=
  (h.base hb hL hlo (a := none) (fun _ h => by cases h) (G' := []) (fun _ h => h)).subG (fun _ h => .tail _ h)
/-- a row that stays apart reads as before behind a store into one of the blocks -/
theorem Own.setM {base : Nat} {e : TypeId} {size n c i : Nat} {A : Option Addr} {xs : List Value} (ho : Own W base e size A n c xs) (h : Mm w W L G) (hG : A.map (·.block) ∈ G) {x : Nat × TypeId × Array Value} (hx : x ∈ L) (v : Value) : Own (W.setCell ⟨x.1, i, none⟩ v) base e size A n c xs :=
  ho.setOther (fun hA => (h.far x.1 (hA ▸ hG)).2 x hx rfl) _ _
end
end Go.Proofs.YtabnndjdkjkciaaGreatDoor

namespace Go.Proofs.YtabnndjdkjkciaaGreatDoor
open Go.RowKit Go.Maps Go.Sort
attribute [local go_sem ↓] Go.wp_at_zero Go.wp_at_succ

section
variable {P : Program} {K T E : TypeId} {w : World} {b : Nat} {l : List (Bs × Sv)} {ops : Array Oper} {rest : List Oper} {o : Oper} {a : Act} {Q : Exit → Act → World → Prop}
theorem wpl_putO (hg : o.guard = none) (m x v : Operand) (hop : o.op = Op.mapUpdate T m x v) (hK : P.underlying K = some .string) (hT : P.underlying T = some (.map K E)) (b : Nat) (l : List (Bs × Sv)) (hm : a.eval m = .map (some b)) (h : Om P K w b l) (hn : l.length < maxLen)
    (k : Bs) (hk : k.length ≤ maxLen) (hx : a.eval x = .string ⟨k.toArray⟩) (s : Sv) (hv : a.eval v = s.v) (hC : ∀ w', Om P K w' b (gput k s l) → w.grownBy w' (some b) → wpList P ops Q rest (a.put o.dst undef) w') : wpList P ops Q (o :: rest) a w := by
  refine wpList_plain hg fun K' hK' => ?_
  obtain ⟨w', hrun, r1, r2⟩ := h.store hK hT hn hk s
  unfold Oper.wp
  simp [execOp, hop, hm, hx, hv, hrun, Result.andThen]
  exact hK' _ _ (hC w' r1 r2)
theorem wpl_dropO (hg : o.guard = none) (m x : Operand) (hop : o.op = Op.call { callee := Callee.builtin Builtin.delete, args := #[m, x], argTypes := #[T, K] }) (hK : P.underlying K = some .string) (hT : P.underlying T = some (.map K E)) (b : Nat) (l : List (Bs × Sv)) (hm : a.eval m = .map (some b)) (h : Om P K w b l)
    (k : Bs) (hk : k.length ≤ maxLen) (hx : a.eval x = .string ⟨k.toArray⟩) (hC : ∀ w', Om P K w' b (gdel k l) → w.grownBy w' (some b) → wpList P ops Q rest (a.put o.dst (.tuple #[])) w') : wpList P ops Q (o :: rest) a w := by
  refine wpList_plain hg fun K' hK' => ?_
  obtain ⟨w', hrun, r1, r2⟩ := h.drop hK hT hk o.type
  unfold Oper.wp
  simp [execOp, hop, resolve, invoke, builtin, hm, hx, hrun, Result.andThen]
  exact hK' _ _ (hC w' r1 r2)
end
/-- a change's cells -/
def chl (x : Chg Sv) : List Value := [.int .i64 x.kind, .string ⟨x.name.toArray⟩, .string ⟨x.to.toArray⟩, x.val.v]
abbrev cha (x : Chg Sv) : Array Value := #[.int .i64 x.kind, .string ⟨x.name.toArray⟩, .string ⟨x.to.toArray⟩, x.val.v]
abbrev OmD (w : World) (b : Nat) (l : List (Bs × Sv)) : Prop := Om Tryz.prog 9 w b l
theorem zero_bs (w : World) : (zeroValue 29).run Tryz.prog w = .ok (.slice none 0 0) w := by kernel_rfl
theorem OmD.below {w w' : World} {b : Nat} {l : List (Bs × Sv)} (h : OmD w b l) (hb : Below w.heap.size w w') : OmD w' b l := Om.same h (hb.block b h.lt)
theorem OmD.wr {w w' : World} {b g : Nat} {l : List (Bs × Sv)} (h : OmD w b l) (hb : Wr w w' g) (hne : b ≠ g) : OmD w' b l := Om.same h (hb.block b h.lt (fun e => hne (by injection e)))
theorem Blk.fourC {w : World} {g : Nat} {t : TypeId} {a b c d : Value} (h : Blk w g t #[a, b, c, d]) : w.cell? ⟨g, 0, none⟩ = some a ∧ w.cell? ⟨g, 1, none⟩ = some b ∧ w.cell? ⟨g, 2, none⟩ = some c ∧ w.cell? ⟨g, 3, none⟩ = some d := ⟨h.cell 0, h.cell 1, h.cell 2, h.cell 3⟩
theorem Wr.thenB {w w1 w2 : World} {b : Nat} (h : Below w.heap.size w w1) (k : w1.grownBy w2 (some b)) : Wr w w2 b := (Wr.of_below h).trans k
theorem fdo_w {α : Type} {l : List (Bs × α)} {x : Chg α} (h : x.kind = 0) : fdo l x = gput x.name x.val l := by unfold fdo; rw [if_pos h]
theorem fdo_n {α : Type} {l : List (Bs × α)} {x : Chg α} (h : x.kind ≠ 0) (h2 : gget x.name l = none) : fdo l x = l := by unfold fdo; rw [if_neg h, h2]
theorem fdo_r {α : Type} {l : List (Bs × α)} {x : Chg α} {b : α} (h : x.kind = 1) (h2 : gget x.name l = some b) : fdo l x = gput x.to b (gdel x.name l) := by unfold fdo; rw [if_neg (by omega), h2]; dsimp only; rw [if_pos h]
theorem fdo_d {α : Type} {l : List (Bs × α)} {x : Chg α} {b : α} (h : x.kind ≠ 0) (h1 : x.kind ≠ 1) (h2 : gget x.name l = some b) : fdo l x = gdel x.name l := by unfold fdo; rw [if_neg h, h2]; dsimp only; rw [if_neg h1]
set_option maxRecDepth 100000 in
set_option maxHeartbeats 1000000 in
theorem Do_any {w : World} {b : Nat} {l : List (Bs × Sv)} (x : Chg Sv) (h : OmD w b l) (hl : l.length ≤ 100000000) (h1 : x.name.length ≤ 100000000) (h2 : x.to.length ≤ 100000000) :
    Calls Tryz.prog 157 #[.map (some b), .agg (cha x)] w fun e w' => e = .returned (.tuple #[]) ∧ OmD w' b (fdo l x) ∧ Wr w w' b := by
  obtain ⟨kd, nm, tt, s⟩ := x
  dsimp only at h1 h2
  have hB := Blk.new w 243 (cha ⟨kd, nm, tt, s⟩)
  have hbx := below_new w (.cells (cha ⟨kd, nm, tt, s⟩) 243)
  have hO := OmD.below h hbx
  have hbl : b < w.heap.size := h.lt
  obtain ⟨q0, q1, q2, q3⟩ := hB.fourC
  have hlk := hO.look (T := 155) (E := 29) Tryz.underlying9 Tryz.underlying155 (zero_bs _) (k := nm) (by unfold maxLen; omega)
  have hdl := glen_del nm l
  rcases Decidable.em (kd = 0) with hk0 | hk0
  · have hb0 : ((kd : Int) == 0) = true := by simp [hk0]
    have HF := Lib.hid (fdo_w (l := l) (x := ⟨kd, nm, tt, s⟩) hk0)
    clear hk0 hdl
    generalize ((gget nm l).map Sv.v).getD (.slice none 0 0) = v at *
    generalize (gget nm l).isSome = sm at *
    go_enter Tryz.func157, Tryz.ntmps157
    go_wp2_with (refine wpl_putO rfl _ _ _ rfl Tryz.underlying9 Tryz.underlying155 b l rfl hO (by unfold maxLen; omega) nm (by unfold maxLen; omega) rfl s rfl ?_; intro w2 hO2 hg2)
    go_end0
    exact ⟨rfl, by rw [HF.out]; exact hO2, Wr.thenB hbx hg2⟩
  have hb0 : ((kd : Int) == 0) = false := by simp; omega
  cases hgt : gget nm l with
  | none =>
    have HF := Lib.hid (fdo_n (l := l) (x := ⟨kd, nm, tt, s⟩) hk0 hgt)
    rw [hgt] at hlk
    clear hk0 hdl hgt
    go_enter Tryz.func157, Tryz.ntmps157
    go_wp2_with fail
    go_end0
    exact ⟨rfl, by rw [HF.out]; exact hO, Wr.of_below hbx⟩
  | some u =>
    rw [hgt] at hlk
    dsimp only [Option.map_some, Option.getD_some, Option.isSome_some] at hlk
    rcases Decidable.em (kd = 1) with hk1 | hk1
    · have hb1 : ((kd : Int) == 1) = true := by simp [hk1]
      have HF := Lib.hid (fdo_r (l := l) (x := ⟨kd, nm, tt, s⟩) hk1 hgt)
      clear hk0 hk1 hgt
      go_enter Tryz.func157, Tryz.ntmps157
      go_wp2_with (first | (refine wpl_dropO rfl _ _ rfl Tryz.underlying9 Tryz.underlying155 b l rfl hO nm (by unfold maxLen; omega) rfl ?_; intro w2 hO2 hg2; have hB2 : Blk w2 w.heap.size 243 (cha ⟨kd, nm, tt, s⟩) := (hg2.block _ hB.lt (fun e => by injection e; omega)).trans hB; obtain ⟨p0, p1, p2, p3⟩ := hB2.fourC) | (refine wpl_putO rfl _ _ _ rfl Tryz.underlying9 Tryz.underlying155 b (gdel nm l) rfl hO2 (by unfold maxLen; omega) tt (by unfold maxLen; omega) rfl u rfl ?_; intro w3 hO3 hg3))
      go_end0
      exact ⟨rfl, by rw [HF.out]; exact hO3, (Wr.thenB hbx hg2).trans hg3⟩
    · have hb1 : ((kd : Int) == 1) = false := by simp; omega
      have HF := Lib.hid (fdo_d (l := l) (x := ⟨kd, nm, tt, s⟩) hk0 hk1 hgt)
      clear hk0 hk1 hgt
      go_enter Tryz.func157, Tryz.ntmps157
      go_wp2_with (refine wpl_dropO rfl _ _ rfl Tryz.underlying9 Tryz.underlying155 b l rfl hO nm (by unfold maxLen; omega) rfl ?_; intro w2 hO2 hg2)
      go_end0
      exact ⟨rfl, by rw [HF.out]; exact hO2, Wr.thenB hbx hg2⟩
end Go.Proofs.YtabnndjdkjkciaaGreatDoor

namespace Go.Proofs.YtabnndjdkjkciaaGreatDoor
open Go.RowKit Go.Maps Go.Sort
attribute [local go_sem ↓] Go.wp_at_zero Go.wp_at_succ

/-- how many bytes the entries have that are no longer to come -/
def gone (left : Lit → Bool) (l : List (Bs × Sv)) : Nat := ((l.filter fun p => !left (.string p.1)).map fun p => p.2.l.length).sum
def svl (s : Sv) : Nat := s.l.length
theorem gone_start (l : List (Bs × Sv)) : gone (Maps.has (dat l)) l = 0 := by
  unfold gone
  have : l.filter (fun p => !Maps.has (dat l) (.string p.1)) = [] := by
    rw [List.filter_eq_nil_iff]
    intro p hp
    have h : (gget p.1 l).isSome = true := by
      cases hg : gget p.1 l with
      | none => exact absurd rfl (gget_none.1 hg p hp)
      | some _ => rfl
    rw [dat_has, h]
    simp
  rw [this]
  rfl
theorem gone_end {left : Lit → Bool} (h : ∀ kl, left kl = false) (l : List (Bs × Sv)) : gone left l = fused svl l := by
  unfold gone fused
  rw [List.filter_eq_self.2 (fun p _ => by rw [h]; rfl)]
  rfl
theorem gone_le (left : Lit → Bool) (l : List (Bs × Sv)) : gone left l ≤ fused svl l := by
  unfold gone fused
  induction l with
  | nil => exact Nat.le_refl _
  | cons y r ih =>
    rw [List.filter_cons]
    split
    · simp only [List.map_cons, List.sum_cons]; unfold svl at *; omega
    · simp only [List.map_cons, List.sum_cons]; unfold svl at *; omega
theorem gone_step {left : Lit → Bool} {k : Bs} {s : Sv} (hl : left (.string k) = true) : ∀ {l : List (Bs × Sv)}, Ris l → (k, s) ∈ l → gone (fun z => left z && !z.sameKey (.string k)) l = gone left l + s.l.length
  | y :: r, hr, hm => by
    obtain ⟨h1, h2⟩ := List.pairwise_cons.1 hr
    have hcons : ∀ (f : Lit → Bool), gone f (y :: r) = (if f (.string y.1) = true then 0 else y.2.l.length) + gone f r := fun f => by
      unfold gone
      rw [List.filter_cons]
      cases f (.string y.1) <;> simp
    rw [hcons, hcons]
    rcases List.mem_cons.1 hm with e | hm
    · subst e
      have hno : gone (fun z => left z && !z.sameKey (.string k)) r = gone left r := by
        unfold gone
        congr 2
        refine List.filter_congr fun p hp => ?_
        have hne : p.1 ≠ k := by
          intro e
          have := h1 p hp
          rw [e, bb_irrefl] at this
          cases this
        have : (Lit.string p.1).sameKey (.string k) = false := by rw [sameKey_str]; exact beq_eq_false_iff_ne.2 hne
        dsimp only
        rw [this]
        simp
      rw [hno]
      dsimp only
      rw [show (Lit.string k).sameKey (.string k) = true from by rw [sameKey_str]; simp]
      simp [hl]
      omega
    · have hne : y.1 ≠ k := by
        intro e
        have := h1 _ hm
        rw [e, bb_irrefl] at this
        cases this
      have : (Lit.string y.1).sameKey (.string k) = false := by rw [sameKey_str]; exact beq_eq_false_iff_ne.2 hne
      rw [gone_step hl h2 hm]
      simp only [this, Bool.not_false, Bool.and_true]
      omega
theorem dat_at_mem {k : Bs} {l : List (Bs × Sv)} {y : DataW Value} (h : ∀ zd, (dat l).atKey (.string k) zd = y) : ∃ s, (k, s) ∈ l ∧ y = .held s.v := by
  cases hg : gget k l with
  | none =>
    have hz : ∀ zd, (dat l).atKey (.string k) zd = zd := fun zd => by
      unfold dat DataW.atKey
      dsimp only
      rw [List.find?_map]
      have hf : ((fun p : Lit × DataW Value => p.1.sameKey (Lit.string k)) ∘ fun p : Bs × Sv => ((Lit.string p.1, DataW.held p.2.v) : Lit × DataW Value)) = fun p => p.1 == k := rfl
      rw [hf]
      unfold gget at hg
      rw [Option.map_eq_none_iff] at hg
      rw [hg]
      rfl
    have h1 := h .nil
    have h2 := h (.agg [])
    rw [hz] at h1 h2
    rw [← h1] at h2
    cases h2
  | some s =>
    refine ⟨s, gget_mem hg, ?_⟩
    rw [← h (.held (.slice none 0 0)), dat_at, hg]
    rfl
theorem wrap_ok {x : Int} (h0 : 0 ≤ x) (h1 : x ≤ 4611686018427387904) : wrap64 x = x ∧ IntKind.i64.wrap x = x := by
  constructor
  · simp only [wrap64]; omega
  · rw [IntKind.wrap_i64]; omega
set_option maxRecDepth 100000 in
set_option maxHeartbeats 1000000 in
theorem Used_any {w : World} {b : Nat} {l : List (Bs × Sv)} (h : OmD w b l) (hr : Ris l) (hs : fused svl l ≤ 4611686018427387904) :
    Calls Tryz.prog 155 #[.map (some b)] w fun e w' => e = .returned (.int .i64 (fused svl l : Nat)) ∧ Below w.heap.size w w' := by
  have hbl : b < w.heap.size := h.lt
  have h0 : w.ownsMap Tryz.prog 9 tok b l.length (dat l) := h
  go_enter Tryz.func155, Tryz.ntmps155
  go_wp2_with (at_range; refine wpList_range_own _ rfl _ 155 rfl 9 29 (string_keyed Tryz.underlying9) Tryz.underlying155 _ b l.length _ rfl h0 ?_; intro w0 hrg0 hg0 hs0)
  go_frame
  clear h0
  go_loopw [3] (fun x wr => ∃ (left : Lit → Bool) (cnt : Nat), wr.ranges Tryz.prog 9 tok b w.heap.size l.length (dat l) left cnt ∧ x = .int .i64 (gone left l : Nat) ∧ Below w.heap.size w wr) (fun x wr => wr.rangeLeft b w.heap.size)
  case atStart => exact ⟨_, _, hrg0, by rw [gone_start]; rfl, ⟨hg0.os, hg0.tape, hg0.output, hg0.size, fun i hi => hg0.block i hi (by simp)⟩⟩
  case round =>
    obtain ⟨left, cnt, hrg, rfl, hbw⟩ := hrel
    have hgl := gone_le left l
    go_wp2_with (at_next; refine wpList_next_ranges _ rfl _ rfl 9 (string_keyed Tryz.underlying9) tok encStr id (fun key kl hk => by obtain ⟨x, hx, _⟩ := Maps.keyOf_str Tryz.underlying9 hk; exact ⟨x, hx⟩) (fun v _ _ => ⟨v, rfl⟩) b w.heap.size l.length _ _ _ rfl hrg ?_ ?_)
    · intro hc0 hl0
      have HG := Lib.hid (gone_end hl0 l)
      go_wp2_with fail
      go_ret
      exact ⟨by rw [HG.out]; rfl, hbw⟩
    · intro x c kl yd yp w2 cnt2 hkey hlk hv hat hrg2 hlt hg2 hs2 hen
      obtain ⟨x', ex, rfl, _⟩ := Maps.keyOf_str Tryz.underlying9 hkey
      obtain rfl : x = x' := encStr_inj ex
      obtain ⟨s, hms, hyd⟩ := dat_at_mem hat
      have hcs : c = s.v := by
        unfold tok at hv
        injection hv with hv
        injection hv with hv _
        rw [hyd] at hv
        injection hv with hv
      subst hcs
      obtain ⟨A, cc, ll⟩ := s
      have HST := Lib.hid (gone_step hlk hr hms)
      have hgl2 := gone_le (fun z => left z && !z.sameKey (.string x)) l
      have hsum : gone left l + ll.length ≤ 4611686018427387904 := by rw [HST.out] at hgl2; dsimp only at hgl2; omega
      obtain ⟨hwr, hwr2⟩ := wrap_ok (x := (gone left l : Nat) + (ll.length : Nat)) (by omega) (by omega)
      have hb2 : Below w.heap.size w w2 := ⟨hg2.os.trans hbw.os, hg2.tape.trans hbw.tape, hg2.output.trans hbw.output, Nat.le_trans hbw.size hg2.size, fun i hi => (hg2.block i (Nat.lt_of_lt_of_le hi hbw.size) (fun e => by injection e; omega)).trans (hbw.block i hi)⟩
      have hen' : (Instr.entry (.pointer (some ⟨w.heap.size, 0, none⟩))).run Tryz.prog w2 = .ok (.tuple #[encStr x, .slice A ll.length cc]) w2 := hen
      clear hs2 hen hat hyd hv hms hgl2 hgl
      go_wp2_with fail
      go_roundw
      case rel => exact ⟨_, _, hrg2, by rw [HST.out]; go_num, hb2⟩
      case measure => rw [hrg2.left_eq, hrg.left_eq]; omega
end Go.Proofs.YtabnndjdkjkciaaGreatDoor

namespace Go.Proofs.YtabnndjdkjkciaaGreatDoor
open Go.RowKit Go.Maps Go.Sort
attribute [local go_sem ↓] Go.wp_at_zero Go.wp_at_succ

def signs : Bs := [97, 98, 99, 100, 101, 102, 103, 104, 105, 106, 107, 108, 109, 110, 111, 112, 113, 114, 115, 116, 117, 118, 119, 120, 121, 122, 48, 49, 50, 51, 52, 53, 54, 55, 56, 57, 45, 46, 126]
theorem signs_all : ((List.range 256).all fun n => signs.contains (UInt8.ofNat n) == isSign (UInt8.ofNat n)) = true := by decide +kernel
theorem signs_is (c : UInt8) : signs.contains c = isSign c := by
  have h := List.all_eq_true.1 signs_all c.toNat (List.mem_range.2 (UInt8.toNat_lt c))
  rw [UInt8.ofNat_toNat] at h
  simpa using h
theorem dropWhile_nil {p : UInt8 → Bool} : ∀ {l : Bs}, l.dropWhile p = [] ↔ l.all p = true
  | [] => by simp
  | x :: r => by
    rw [List.dropWhile_cons, List.all_cons]
    cases hx : p x
    · simp
    · simpa using dropWhile_nil (l := r)
theorem trim_nil (l : Bs) : Lib.trimS l signs = [] ↔ l.all isSign = true := by
  have hp : (fun x => signs.contains x) = isSign := funext signs_is
  unfold Lib.trimS Lib.trimRightS Lib.trimLeftS
  rw [hp]
  constructor
  · intro h
    rw [dropWhile_nil, List.all_reverse] at h
    rw [← List.all_reverse, ← dropWhile_nil]
    cases hd : l.reverse.dropWhile isSign with
    | nil => rfl
    | cons y r =>
      rw [hd, List.all_cons, Bool.and_eq_true] at h
      have := List.head?_dropWhile_not isSign l.reverse
      rw [hd] at this
      simp [h.1] at this
  · intro h
    rw [← List.all_reverse, ← dropWhile_nil] at h
    rw [h]
    rfl
set_option maxRecDepth 100000 in
set_option maxHeartbeats 1000000 in
theorem Named_any (s : Bs) (w : World) (hs : s.length ≤ 9223372036854775807) :
    Calls Tryz.prog 148 #[.string ⟨s.toArray⟩] w fun e w' => e = .returned (.bool (named s)) ∧ Below w.heap.size w w' := by
  have hT := fun W => Tryz.strings_Trim_any ⟨s.toArray⟩ ⟨signs.toArray⟩ W (by simpa [ByteArray.size] using (by omega : s.length ≤ 9223372036854775807)) (by decide) (fun j b hb => by
    have hall : ∀ b ∈ signs, b.toNat < 128 := by decide
    exact hall b (List.mem_of_getElem? hb))
  have htn := trim_nil s
  rw [show (⟨s.toArray⟩ : ByteArray).data.toList = s from rfl, show (⟨signs.toArray⟩ : ByteArray).data.toList = signs from rfl] at hT
  generalize Lib.trimS s signs = t at *
  have HT := Lib.hid hT
  have hsz : (ByteArray.size ⟨s.toArray⟩) = s.length := by simp [ByteArray.size]
  clear hT
  rcases Nat.lt_or_ge s.length 1 with h1 | h1
  · have hI : (s.length : Int) < 1 := by omega
    have HN := Lib.hid (show named s = false from by unfold named; simp; omega)
    go_enter Tryz.func148, Tryz.ntmps148
    go_wp2_with fail
    go_ret
    exact ⟨by rw [HN.out]; rfl, Below.refl _ _⟩
  have hI : (1 : Int) ≤ (s.length : Int) := by omega
  rcases Nat.lt_or_ge 24 s.length with h2 | h2
  · have hI2 : (24 : Int) < (s.length : Int) := by omega
    have HN := Lib.hid (show named s = false from by unfold named; simp; omega)
    go_enter Tryz.func148, Tryz.ntmps148
    go_wp2_with fail
    go_ret
    exact ⟨by rw [HN.out]; rfl, Below.refl _ _⟩
  have hI2 : (s.length : Int) ≤ 24 := by omega
  go_enter Tryz.func148, Tryz.ntmps148
  go_wp2_with fail
  refine (HT.out _).mono ?_
  rintro e w2 ⟨rfl, hb2⟩
  cases t with
  | nil =>
    have HN := Lib.hid (show named s = true from by unfold named; simp [htn.1 rfl]; omega)
    go_wp2_with fail
    go_ret
    exact ⟨by rw [HN.out]; rfl, hb2⟩
  | cons y r =>
    have HN := Lib.hid (show named s = false from by
      have : s.all isSign = false := by
        rw [Bool.eq_false_iff]
        intro h
        have := htn.2 h
        cases this
      unfold named
      rw [this]
      simp)
    go_wp2_with fail
    go_ret
    exact ⟨by rw [HN.out]; rfl, hb2⟩
end Go.Proofs.YtabnndjdkjkciaaGreatDoor

namespace Go.Proofs.YtabnndjdkjkciaaGreatDoor
open Go.RowKit Go.Maps Go.Sort
attribute [local go_sem ↓] Go.wp_at_zero Go.wp_at_succ

/-- where a disk lies: its struct, its two maps, its row of changes -/
structure Fp where
  g : Nat
  bs : Nat
  bm : Nat
  A : Option Addr
  c : Nat
def Fp.M (q : Fp) (i : Nat) : Prop := i = q.g ∨ i = q.bs ∨ i = q.bm ∨ q.A.map (·.block) = some i
def dka (q : Fp) (d : Dk Sv) : Array Value := #[.int .i64 d.room, .map (some q.bs), .map (some q.bm), .slice q.A d.pend.length q.c, .int .i64 d.fuse, .bool d.down]
/-- the slices of bytes that a disk leads to -/
def svs (d : Dk Sv) : List Sv := d.sure.map (·.2) ++ d.pend.map (·.val)
/-- the blocks that a disk hangs on -/
def Tc (q : Fp) (d : Dk Sv) (i : Nat) : Prop := q.M i ∨ ∃ s ∈ svs d, s.l ≠ [] ∧ s.A.map (·.block) = some i
structure Dsk (w : World) (q : Fp) (d : Dk Sv) : Prop where
  blk : Blk w q.g 158 (dka q d)
  sure : OmD w q.bs d.sure
  shown : OmD w q.bm d.shown
  pend : Own w 0 243 4 q.A d.pend.length q.c (d.pend.flatMap chl)
  ne : q.bs ≠ q.bm
  rd : ∀ s ∈ svs d, SlB w s.A s.c s.l
  ap : ∀ s ∈ svs d, s.l ≠ [] → ∀ ad, s.A = some ad → ¬ q.M ad.block
  ris : Ris d.sure
  len : ∀ s ∈ svs d, s.l.length ≤ 65536
  nm : (∀ p ∈ d.sure, p.1.length ≤ 24) ∧ ∀ x ∈ d.pend, x.name.length ≤ 24 ∧ x.to.length ≤ 24
/-- nothing but the disk's own blocks has turned -/
structure Frd (q : Fp) (w w' : World) : Prop where
  os : w'.os = w.os
  tape : w'.tape = w.tape
  output : w'.output = w.output
  size : w.heap.size ≤ w'.heap.size
  block : ∀ i, i < w.heap.size → ¬ q.M i → w'.heap[i]? = w.heap[i]?
/-- what an act leaves -/
def Dgo (w : World) (q : Fp) (d d' : Dk Sv) (w' : World) : Prop := ∃ q', q'.g = q.g ∧ Dsk w' q' d' ∧ Frd q w w' ∧ (∀ i, q'.M i → q.M i ∨ w.heap.size ≤ i) ∧ ∀ i, Tc q' d' i → Tc q d i ∨ w.heap.size ≤ i
section
variable {w w' : World} {q : Fp} {d d' : Dk Sv}
theorem Dsk.neg (h : Dsk w q d) : q.bs ≠ q.g ∧ q.bm ≠ q.g := by
  have h1 := h.blk
  obtain ⟨es, cl, hb, _⟩ := h.sure
  obtain ⟨es2, cl2, hb2, _⟩ := h.shown
  constructor
  · intro e
    rw [e] at hb
    rw [show w.heap[q.g]? = _ from h1] at hb
    cases hb
  · intro e
    rw [e] at hb2
    rw [show w.heap[q.g]? = _ from h1] at hb2
    cases hb2
theorem Dsk.negA (h : Dsk w q d) {k : Nat} (hk : q.A.map (·.block) = some k) : k ≠ q.g ∧ k ≠ q.bs ∧ k ≠ q.bm := by
  obtain ⟨es, cl, hb, _⟩ := h.sure
  obtain ⟨es2, cl2, hb2, _⟩ := h.shown
  have h1 := h.blk
  rcases h.pend.2 with ⟨hv, _⟩ | ⟨g1, _, cur, hv, _, hh, _⟩
  · injection hv with hA
    rw [hA] at hk
    cases hk
  · injection hv with hA
    rw [hA] at hk
    injection hk with hk
    dsimp only at hk
    subst hk
    refine ⟨fun e => ?_, fun e => ?_, fun e => ?_⟩
    · rw [e, show w.heap[q.g]? = _ from h1] at hh
      injection hh with hh
      injection hh with _ hh _
      revert hh
      decide
    · rw [e, hb] at hh; cases hh
    · rw [e, hb2] at hh; cases hh
theorem Dsk.ltM (h : Dsk w q d) {i : Nat} (hi : q.M i) : i < w.heap.size := by
  rcases hi with rfl | rfl | rfl | hi
  · exact h.blk.lt
  · exact h.sure.lt
  · exact h.shown.lt
  · exact (Own.lt h.pend i hi).2
theorem Dsk.lt (h : Dsk w q d) {i : Nat} (hi : Tc q d i) : i < w.heap.size := by
  rcases hi with hi | ⟨s, hs, hne, hA⟩
  · exact h.ltM hi
  · obtain ⟨A, c, l⟩ := s
    dsimp only at hne hA
    cases A with
    | none => cases hA
    | some ad =>
      injection hA with hA
      subst hA
      have hl : 0 < l.length := List.length_pos_iff.2 hne
      obtain ⟨ad', e, hc⟩ := Sl.at1 (f := bv) (l := l) (h.rd _ hs) (k := 0) hl
      injection e with e
      subst e
      have := World.block_lt_of_cell? _ _ hc
      rwa [addr_add_block] at this
theorem SlB.sameB {A : Option Addr} {c : Nat} {l : Bs} (h : SlB w A c l) (hs : l ≠ [] → ∀ ad, A = some ad → w'.heap[ad.block]? = w.heap[ad.block]?) : SlB w' A c l :=
  ⟨h.1, h.2.1, h.2.2.1, h.2.2.2.1, fun j u hj => by
    obtain ⟨ad, hA, hc⟩ := h.2.2.2.2 j u hj
    have hne : l ≠ [] := by rintro e; rw [e] at hj; simp at hj
    refine ⟨ad, hA, ?_⟩
    rw [← hc]
    unfold World.cell?
    rw [addr_add_block, hs hne ad hA]⟩
theorem Dsk.frame (h : Dsk w q d) (hf : ∀ i, Tc q d i → w'.heap[i]? = w.heap[i]?) : Dsk w' q d where
  blk := (hf _ (.inl (.inl rfl))).trans h.blk
  sure := h.sure.same (hf _ (.inl (.inr (.inl rfl))))
  shown := h.shown.same (hf _ (.inl (.inr (.inr (.inl rfl)))))
  pend := by
    obtain ⟨h1, h2⟩ := h.pend
    refine ⟨h1, ?_⟩
    rcases h2 with h2 | ⟨g1, cap, cur, hv, hb, hh, r⟩
    · exact .inl h2
    · refine .inr ⟨g1, cap, cur, hv, hb, ?_, r⟩
      injection hv with hA
      exact (hf g1 (.inl (.inr (.inr (.inr (by rw [hA]; rfl)))))).trans hh
  ne := h.ne
  rd := fun s hs => SlB.sameB (h.rd s hs) fun hne ad hA => hf _ (.inr ⟨s, hs, hne, by rw [hA]; rfl⟩)
  ap := h.ap
  ris := h.ris
  len := h.len
  nm := h.nm
theorem Dsk.below (h : Dsk w q d) (hb : Below w.heap.size w w') : Dsk w' q d := h.frame fun i hi => hb.block i (h.lt hi)
theorem Frd.of_below (hb : Below w.heap.size w w') : Frd q w w' := ⟨hb.os, hb.tape, hb.output, hb.size, fun i hi _ => hb.block i hi⟩
theorem Frd.of_wr {k : Nat} (hk : q.M k) (hb : Wr w w' k) : Frd q w w' := ⟨hb.os, hb.tape, hb.output, hb.size, fun i hi hn => hb.block i hi (fun e => by injection e with e; exact hn (e ▸ hk))⟩
theorem Frd.trans {w2 : World} {q2 : Fp} (h : Frd q w w') (k : Frd q2 w' w2) (hq : ∀ i, q2.M i → q.M i ∨ w.heap.size ≤ i) : Frd q w w2 :=
  ⟨k.os.trans h.os, k.tape.trans h.tape, k.output.trans h.output, Nat.le_trans h.size k.size, fun i hi hn => (k.block i (Nat.lt_of_lt_of_le hi h.size) (fun e => by
    rcases hq i e with h1 | h1
    · exact hn h1
    · omega)).trans (h.block i hi hn)⟩
/-- the struct alone turns -/
theorem Dsk.turn (h : Dsk w q d) (hB : Blk w' q.g 158 (dka q d')) (hw : Wr w w' q.g) (h1 : d'.sure = d.sure) (h2 : d'.pend = d.pend) : Dsk w' q d' := by
  have hsv : svs d' = svs d := by unfold svs; rw [h1, h2]
  have hn := h.neg
  refine ⟨hB, ?_, ?_, ?_, h.ne, ?_, ?_, ?_, ?_, ?_⟩
  · rw [h1]; exact OmD.wr h.sure hw hn.1
  · have : d'.shown = d.shown := by unfold Dk.shown; rw [h1, h2]
    rw [this]; exact OmD.wr h.shown hw hn.2
  · rw [h2]
    exact World.ownsRow.kept h.pend hw (.inr fun e => (h.negA (by rw [← ownBlock_slice]; exact e)).1 rfl)
  · rw [hsv]
    intro s hs
    refine SlB.sameB (h.rd s hs) fun hne ad hA => hw.block _ ?_ fun e => h.ap s hs hne ad hA (.inl (by injection e))
    exact h.lt (.inr ⟨s, hs, hne, by rw [hA]; rfl⟩)
  · rw [hsv]; exact h.ap
  · rw [h1]; exact h.ris
  · rw [hsv]; exact h.len
  · rw [h1, h2]; exact h.nm
theorem Tc.same (h1 : d'.sure = d.sure) (h2 : d'.pend = d.pend) {i : Nat} (h : Tc q d' i) : Tc q d i := by
  unfold Tc svs at *
  rw [h1, h2] at h
  exact h
theorem Dsk.six (h : Dsk w q d) : w.cell? ⟨q.g, 0, none⟩ = some (.int .i64 d.room) ∧ w.cell? ⟨q.g, 1, none⟩ = some (.map (some q.bs)) ∧ w.cell? ⟨q.g, 2, none⟩ = some (.map (some q.bm)) ∧ w.cell? ⟨q.g, 3, none⟩ = some (.slice q.A d.pend.length q.c) ∧ w.cell? ⟨q.g, 4, none⟩ = some (.int .i64 d.fuse) ∧ w.cell? ⟨q.g, 5, none⟩ = some (.bool d.down) ∧
    w.frozen? ⟨q.g, 1, none⟩ = false ∧ w.frozen? ⟨q.g, 2, none⟩ = false ∧ w.frozen? ⟨q.g, 3, none⟩ = false ∧ w.frozen? ⟨q.g, 4, none⟩ = false ∧ w.frozen? ⟨q.g, 5, none⟩ = false :=
  ⟨h.blk.cell 0, h.blk.cell 1, h.blk.cell 2, h.blk.cell 3, h.blk.cell 4, h.blk.cell 5, h.blk.frozen 1, h.blk.frozen 2, h.blk.frozen 3, h.blk.frozen 4, h.blk.frozen 5⟩
end
set_option maxRecDepth 100000 in
set_option maxHeartbeats 400000 in
theorem Looks_any {w : World} {q : Fp} {d : Dk Sv} (h : Dsk w q d) : Calls Tryz.prog 143 #[.pointer (some ⟨q.g, 0, none⟩)] w fun e w' => e = .returned (errv (if d.down = true then 14 else 0)) ∧ w' = w := by
  obtain ⟨a0, a1, a2, a3, a4, a5, -⟩ := h.six
  obtain ⟨room, sure, pend, fuse, down⟩ := d
  dsimp only at a0 a1 a2 a3 a4 a5 ⊢
  clear h
  cases down
  · go_enter Tryz.func143, Tryz.ntmps143
    go_wp2_with fail
    go_ret
    exact ⟨rfl, rfl⟩
  · go_enter Tryz.func143, Tryz.ntmps143
    go_wp2_with fail
    go_ret
    exact ⟨rfl, rfl⟩
set_option maxRecDepth 100000 in
set_option maxHeartbeats 400000 in
theorem Works_any {w : World} {q : Fp} {d : Dk Sv} (h : Dsk w q d) (hf : -1 ≤ d.fuse ∧ d.fuse ≤ 9223372036854775807) : Calls Tryz.prog 147 #[.pointer (some ⟨q.g, 0, none⟩)] w fun e w' => e = .returned (errv (dWorks d).2) ∧ Dsk w' q (dWorks d).1 ∧ Wr w w' q.g := by
  have hL := Looks_any h
  have H := Lib.hid h
  obtain ⟨a0, a1, a2, a3, a4, a5, af1, af2, af3, af4, af5⟩ := h.six
  obtain ⟨room, sure, pend, fuse, down⟩ := d
  dsimp only at a0 a1 a2 a3 a4 a5 hL hf ⊢
  clear h
  cases down
  case true =>
    have HW := Lib.hid (show dWorks (⟨room, sure, pend, fuse, true⟩ : Dk Sv) = (⟨room, sure, pend, fuse, true⟩, 14) from rfl)
    rw [if_pos rfl, show errv 14 = Value.iface 68 (.int .i64 14) from rfl] at hL
    have HL := Lib.hid hL
    clear hL
    go_enter Tryz.func147, Tryz.ntmps147
    go_wp2_with fail
    refine HL.out.mono ?_
    rintro e w2 ⟨rfl, rfl⟩
    go_wp2_with fail
    go_ret
    exact ⟨by rw [HW.out]; rfl, by rw [HW.out]; exact H.out, Wr.refl _ _⟩
  case false =>
    rw [if_neg (by simp), show errv 0 = Value.nilIface from rfl] at hL
    have HL := Lib.hid hL
    clear hL
    rcases Decidable.em (fuse = 0) with h0 | h0
    · have hb : (fuse == 0) = true := by simp [h0]
      have HW := Lib.hid (show dWorks (⟨room, sure, pend, fuse, false⟩ : Dk Sv) = (⟨room, sure, pend, fuse, true⟩, 14) from by unfold dWorks; simp [h0])
      clear h0 hf
      go_enter Tryz.func147, Tryz.ntmps147
      go_wp2_with fail
      refine HL.out.mono ?_
      rintro e w2 ⟨rfl, rfl⟩
      go_wp2_with fail
      go_ret
      have hT := H.out.turn (d' := ⟨room, sure, pend, fuse, true⟩) (H.out.blk.set_ 5 (.bool true)) ((Wr.refl _ _).set_ 5 (.bool true)) rfl rfl
      exact ⟨by rw [HW.out]; rfl, by rw [HW.out]; exact hT, (Wr.refl _ _).set_ 5 (.bool true)⟩
    · have hb : (fuse == 0) = false := by simpa using h0
      rcases Decidable.em (0 < fuse) with h1 | h1
      · have HW := Lib.hid (show dWorks (⟨room, sure, pend, fuse, false⟩ : Dk Sv) = (⟨room, sure, pend, fuse - 1, false⟩, 0) from by unfold dWorks; simp [h0, h1])
        have hwr : wrap64 (fuse - 1) = fuse - 1 := by simp only [wrap64]; omega
        have hwr2 : IntKind.i64.wrap (fuse - 1) = fuse - 1 := by rw [IntKind.wrap_i64]; omega
        clear h0 hf
        go_enter Tryz.func147, Tryz.ntmps147
        go_wp2_with fail
        refine HL.out.mono ?_
        rintro e w2 ⟨rfl, rfl⟩
        go_wp2_with fail
        go_ret
        have hT := H.out.turn (d' := ⟨room, sure, pend, fuse - 1, false⟩) (H.out.blk.set_ 4 (.int .i64 (fuse - 1))) ((Wr.refl _ _).set_ 4 (.int .i64 (fuse - 1))) rfl rfl
        exact ⟨by rw [HW.out]; rfl, by rw [HW.out]; exact hT, (Wr.refl _ _).set_ 4 (.int .i64 (fuse - 1))⟩
      · have HW := Lib.hid (show dWorks (⟨room, sure, pend, fuse, false⟩ : Dk Sv) = (⟨room, sure, pend, fuse, false⟩, 0) from by unfold dWorks; simp [h0, h1])
        clear h0 hf
        go_enter Tryz.func147, Tryz.ntmps147
        go_wp2_with fail
        refine HL.out.mono ?_
        rintro e w2 ⟨rfl, rfl⟩
        go_wp2_with fail
        go_ret
        exact ⟨by rw [HW.out]; rfl, by rw [HW.out]; exact H.out, Wr.refl _ _⟩
end Go.Proofs.YtabnndjdkjkciaaGreatDoor
