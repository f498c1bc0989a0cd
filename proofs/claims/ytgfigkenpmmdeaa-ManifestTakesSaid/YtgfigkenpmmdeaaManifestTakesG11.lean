/- WHAT IT HOLDS: a call's own blocks, carried together through a walk. -/
import Derived.Test.YtgfigkenpmmdeaaManifestTakesG02
import Derived.Test.YtgfigkenpmmdeaaManifestTakesG10
namespace Go.Proofs.Ytgfigkenpmmdeaa
open Go.RowKit

theorem gen1 {T R : World → Prop} {W : World} (hT : T W) (k : ∀ W, T W → R W) : R W := k W hT
/-- a call's own blocks: number, type, cells; and blocks that stay apart from them -/
abbrev BL := List (Nat × TypeId × Array Value)
structure Mm (w W : World) (L : BL) (G : List (Option Nat)) : Prop where
  bel : Below w.heap.size w W
  blk : ∀ x ∈ L, Blk W x.1 x.2.1 x.2.2
  low : ∀ x ∈ L, w.heap.size ≤ x.1
  dis : L.Pairwise fun x y => x.1 ≠ y.1
  far : ∀ g, some g ∈ G → g < W.heap.size ∧ ∀ x ∈ L, x.1 ≠ g
section
variable {w W W' : World} {L : BL} {G : List (Option Nat)} {g : Nat} {t : TypeId} {cs : Array Value}
theorem Mm.start (w : World) : Mm w w [] [] := ⟨Below.refl _ _, by simp, by simp, List.Pairwise.nil, by simp⟩
theorem Mm.allocO (h : Mm w W L G) (o : Obj) : Mm w (W.alloc o) L G :=
  ⟨bel_alloc h.bel o, fun x hx => (h.blk x hx).alloc o, h.low, h.dis, fun g hg => ⟨by have := (h.far g hg).1; simp; omega, (h.far g hg).2⟩⟩
theorem Mm.alloc (h : Mm w W L G) (cs : Array Value) (t : TypeId) : Mm w (W.alloc (.cells cs t)) ((W.heap.size, t, cs) :: L) G := by
  refine ⟨bel_alloc h.bel _, fun x hx => ?_, fun x hx => ?_, List.pairwise_cons.2 ⟨fun x hx => ?_, h.dis⟩, fun g hg => ⟨by have := (h.far g hg).1; simp; omega, fun x hx => ?_⟩⟩
  · rcases List.mem_cons.1 hx with rfl | hx
    · exact Blk.new W t cs
    · exact (h.blk x hx).alloc _
  · rcases List.mem_cons.1 hx with rfl | hx
    · exact h.bel.size
    · exact h.low x hx
  · have := (h.blk x hx).lt
    dsimp only
    omega
  · rcases List.mem_cons.1 hx with rfl | hx
    · have := (h.far g hg).1
      dsimp only
      omega
    · exact (h.far g hg).2 x hx
theorem Mm.call (h : Mm w W L G) (hb : Below W.heap.size W W') : Mm w W' L G :=
  ⟨bel_call h.bel hb, fun x hx => (h.blk x hx).below hb, h.low, h.dis, fun g hg => ⟨Nat.lt_of_lt_of_le (h.far g hg).1 hb.size, (h.far g hg).2⟩⟩
theorem Mm.drew (h : Mm w W L G) : Mm w W.drew L G := ⟨h.bel.drew, fun x hx => (h.blk x hx).drew, h.low, h.dis, h.far⟩
theorem Mm.drewN (h : Mm w W L G) (n : Nat) : Mm w (W.drewN n) L G := ⟨below_drewN h.bel n, fun x hx => (h.blk x hx).drewN n, h.low, h.dis, h.far⟩
/-- a row that a call has made stays apart -/
theorem Mm.callAdd (h : Mm w W L G) (hb : Below W.heap.size W W') {a : Option Nat} (hA : ∀ k, a = some k → W.heap.size ≤ k ∧ k < W'.heap.size) : Mm w W' L (a :: G) := by
  have h' := h.call hb
  refine ⟨h'.bel, h'.blk, h'.low, h'.dis, fun g hg => ?_⟩
  rcases List.mem_cons.1 hg with e | hg
  · obtain ⟨h1, h2⟩ := hA g e.symm
    exact ⟨h2, fun x hx => by have := (h.blk x hx).lt; omega⟩
  · exact h'.far g hg
theorem Mm.add (h : Mm w W L G) {a : Option Nat} (hA : ∀ k, a = some k → k < W.heap.size ∧ ∀ x ∈ L, x.1 ≠ k) : Mm w W L (a :: G) := by
  refine ⟨h.bel, h.blk, h.low, h.dis, fun g hg => ?_⟩
  rcases List.mem_cons.1 hg with e | hg
  · exact hA g e.symm
  · exact h.far g hg
theorem Mm.sub (h : Mm w W L G) {L' : BL} (hL : L'.Sublist L) : Mm w W L' G :=
  ⟨h.bel, fun x hx => h.blk x (hL.subset hx), fun x hx => h.low x (hL.subset hx), h.dis.sublist hL, fun g hg => ⟨(h.far g hg).1, fun x hx => (h.far g hg).2 x (hL.subset hx)⟩⟩
theorem Mm.subG (h : Mm w W L G) {G' : List (Option Nat)} (hG : ∀ x ∈ G', x ∈ G) : Mm w W L G' := ⟨h.bel, h.blk, h.low, h.dis, fun g hg => h.far g (hG _ hg)⟩
/-- a block apart is written -/
theorem Mm.wr (h : Mm w W L G) (hr : Wr W W' g) (hg : some g ∈ G) (hlo : w.heap.size ≤ g) : Mm w W' L G :=
  ⟨h.bel.trans (hr.below h.bel.size hlo), fun x hx => (h.blk x hx).wr hr ((h.far g hg).2 x hx), h.low, h.dis, fun k hk => ⟨Nat.lt_of_lt_of_le (h.far k hk).1 hr.size, (h.far k hk).2⟩⟩
theorem Mm.cons (h : Mm w W L G) (hB : Blk W g t cs) (hlo : w.heap.size ≤ g) (hd : ∀ x ∈ L, g ≠ x.1) (hf : some g ∉ G) : Mm w W ((g, t, cs) :: L) G := by
  refine ⟨h.bel, fun x hx => ?_, fun x hx => ?_, List.pairwise_cons.2 ⟨hd, h.dis⟩, fun k hk => ⟨(h.far k hk).1, fun x hx => ?_⟩⟩
  · rcases List.mem_cons.1 hx with rfl | hx
    · exact hB
    · exact h.blk x hx
  · rcases List.mem_cons.1 hx with rfl | hx
    · exact hlo
    · exact h.low x hx
  · rcases List.mem_cons.1 hx with rfl | hx
    · rintro rfl; exact hf hk
    · exact (h.far k hk).2 x hx
/-- the j-th block turns, and nothing else -/
theorem Mm.turn (h : Mm w W L G) (j : Nat) {cs' : Array Value} (hj : L[j]? = some (g, t, cs)) (hB : Blk W' g t cs') (hr : Wr W W' g) : Mm w W' (L.set j (g, t, cs')) G := by
  have hjl : j < L.length := (List.getElem?_eq_some_iff.1 hj).1
  have hje : L[j] = (g, t, cs) := (List.getElem?_eq_some_iff.1 hj).2
  have hmem : (g, t, cs) ∈ L := by rw [← hje]; exact List.getElem_mem hjl
  have hmap : (L.set j (g, t, cs')).map (·.1) = L.map (·.1) := by
    rw [List.map_set]
    apply List.ext_getElem? 
    intro i
    rw [List.getElem?_set]
    split
    · rename_i e
      subst e
      simp [hjl, hje]
    · rfl
  have hin : ∀ x ∈ L.set j (g, t, cs'), ∃ y ∈ L, y.1 = x.1 := fun x hx => by
    have : x.1 ∈ (L.set j (g, t, cs')).map (·.1) := List.mem_map_of_mem hx
    rw [hmap] at this
    obtain ⟨y, hy, e⟩ := List.mem_map.1 this
    exact ⟨y, hy, e⟩
  refine ⟨h.bel.trans (hr.below h.bel.size (h.low _ hmem)), fun x hx => ?_, fun x hx => ?_, ?_, fun k hk => ⟨Nat.lt_of_lt_of_le (h.far k hk).1 hr.size, fun x hx => ?_⟩⟩
  · rw [List.mem_iff_getElem?] at hx
    obtain ⟨i, hi⟩ := hx
    rw [List.getElem?_set] at hi
    split at hi
    · rename_i e
      injection hi with hi
      subst hi
      exact hB
    · rename_i e
      have hm := List.mem_of_getElem? hi
      refine (h.blk x hm).wr hr ?_
      obtain ⟨hil, hie⟩ := List.getElem?_eq_some_iff.1 hi
      have hp := List.pairwise_iff_getElem.1 h.dis
      rcases Nat.lt_or_gt_of_ne e with hlt | hlt
      · have := hp j i hjl hil hlt
        rw [hje, hie] at this
        exact fun e => this e.symm
      · have := hp i j hil hjl hlt
        rw [hje, hie] at this
        exact this
  · obtain ⟨y, hy, e⟩ := hin x hx
    rw [← e]
    exact h.low y hy
  · have h1 := h.dis
    rw [show (fun x y : Nat × TypeId × Array Value => x.1 ≠ y.1) = (fun x y => (fun a b : Nat => a ≠ b) x.1 y.1) from rfl, ← List.pairwise_map] at h1 ⊢
    rw [hmap]
    exact h1
  · obtain ⟨y, hy, e⟩ := hin x hx
    rw [← e]
    exact (h.far k hk).2 y hy
theorem Mm.set (h : Mm w W L G) (j i : Nat) (v : Value) (hj : L[j]? = some (g, t, cs)) : Mm w (W.setCell ⟨g, i, none⟩ v) (L.set j (g, t, cs.setIfInBounds i v)) G :=
  h.turn j hj ((h.blk _ (List.mem_of_getElem? hj)).set_ i v) ((Wr.refl _ _).set_ i v)
theorem Wr.row (cs2 : Array Value) : Wr W (W.setRow g cs2) g := ⟨rfl, rfl, rfl, by simp, fun i _ hn => setRow_other W g i cs2 (fun e => hn (by rw [e]))⟩
theorem Mm.row (h : Mm w W L G) (j : Nat) {cs' : Array Value} (hj : L[j]? = some (g, t, cs)) (hB : Blk (W.setRow g cs') g t cs') : Mm w (W.setRow g cs') (L.set j (g, t, cs')) G := h.turn j hj hB (Wr.row cs')
theorem Mm.b0 {L : BL} (h : Mm w W ((g, t, cs) :: L) G) : Blk W g t cs := h.blk _ (.head _)
theorem Mm.b1 {a : Nat × TypeId × Array Value} {L : BL} (h : Mm w W (a :: (g, t, cs) :: L) G) : Blk W g t cs := h.blk _ (.tail _ (.head _))
theorem Mm.b2 {a b : Nat × TypeId × Array Value} {L : BL} (h : Mm w W (a :: b :: (g, t, cs) :: L) G) : Blk W g t cs := h.blk _ (.tail _ (.tail _ (.head _)))
theorem Mm.b3 {a b c : Nat × TypeId × Array Value} {L : BL} (h : Mm w W (a :: b :: c :: (g, t, cs) :: L) G) : Blk W g t cs := h.blk _ (.tail _ (.tail _ (.tail _ (.head _))))
/-- a block that is none of these is written -/
theorem Mm.off (h : Mm w W L G) (hr : Wr W W' g) (hg : ∀ x ∈ L, x.1 ≠ g) (hlo : w.heap.size ≤ g) : Mm w W' L G :=
  ⟨h.bel.trans (hr.below h.bel.size hlo), fun x hx => (h.blk x hx).wr hr (hg x hx), h.low, h.dis, fun k hk => ⟨Nat.lt_of_lt_of_le (h.far k hk).1 hr.size, (h.far k hk).2⟩⟩
/-- what lies above all of them turns -/
theorem Mm.base (h : Mm w W L G) {B : Nat} (hb : Below B W W') (hL : ∀ x ∈ L, x.1 < B) (hlo : w.heap.size ≤ B) {a : Option Nat} (hA : ∀ k, a = some k → B ≤ k ∧ k < W'.heap.size) {G' : List (Option Nat)} (hG : ∀ x ∈ G', x ∈ G) : Mm w W' L (a :: G') := by
  refine ⟨h.bel.trans (hb.mono hlo), fun x hx => (hb.block _ (hL x hx)).trans (h.blk x hx), h.low, h.dis, fun g hg => ?_⟩
  rcases List.mem_cons.1 hg with e | hg
  · obtain ⟨h1, h2⟩ := hA g e.symm
    exact ⟨h2, fun x hx => by have := hL x hx; omega⟩
  · exact ⟨Nat.lt_of_lt_of_le (h.far g (hG _ hg)).1 hb.size, (h.far g (hG _ hg)).2⟩
theorem Mm.above (h : Mm w W L []) {B : Nat} (hb : Below B W W') (hL : ∀ x ∈ L, x.1 < B) (hlo : w.heap.size ≤ B) : Mm w W' L [] :=
  (h.base hb hL hlo (a := none) (fun _ h => by cases h) (G' := []) (fun _ h => h)).subG (fun _ h => .tail _ h)
/-- a row that stays apart reads as before behind a store into one of the blocks -/
theorem Own.setM {base : Nat} {e : TypeId} {size n c i : Nat} {A : Option Addr} {xs : List Value} (ho : Own W base e size A n c xs) (h : Mm w W L G) (hG : A.map (·.block) ∈ G) {x : Nat × TypeId × Array Value} (hx : x ∈ L) (v : Value) : Own (W.setCell ⟨x.1, i, none⟩ v) base e size A n c xs :=
  ho.setOther (fun hA => (h.far x.1 (hA ▸ hG)).2 x hx rfl) _ _
end
end Go.Proofs.Ytgfigkenpmmdeaa
