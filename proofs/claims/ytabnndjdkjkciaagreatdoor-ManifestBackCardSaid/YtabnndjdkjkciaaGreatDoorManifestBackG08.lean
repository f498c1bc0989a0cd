/- WHAT IT HOLDS: a call's own blocks, carried together through a walk. | WHAT IT HOLDS: words for parts and manifests in memory: structs that hold a whole array; loads and stores of whole rows. | WHAT IT HOLDS: which manifests there are, walked. | WHAT IT HOLDS: Join of segments, walked. | WHAT IT HOLDS: Slice of segments, walked. | WHAT IT HOLDS: Sealed, Opened of package crc, walked. | WHAT IT HOLDS: frames, plainly (no program). | WHAT IT HOLDS: the law CrcSums, walked. -/
import Derived.Test.YtabnndjdkjkciaaGreatDoorManifestBackG04
import Derived.Test.YtabnndjdkjkciaaGreatDoorManifestBackG07
import Derived.Test.YtabnndjdkjkciaaGreatDoorManifestBackG01
import Derived.Deep.WholeRow
import Derived.ChangeKeysEq
import Derived.Test.YtabnndjdkjkciaaGreatDoorManifestBackG02
import Derived.Deep.DeepCutAuto
import Derived.Lib.SlBytesConst
namespace Go.Proofs.YtabnndjdkjkciaaGreatDoor
open Go.RowKit

theorem gen1 {T R : World → Prop} {W : World} (hT : T W) (k : ∀ W, T W → R W) : R W := k W hT
/-- a call's own blocks: number, type, cells; and blocks that stay apart from them -/
abbrev BL := List (Nat × TypeId × Array Value)
structure Mm (w W : World) (L : BL) (G : List (Option Nat)) : Prop where
  bel : Below w.heap.size w W
  blk : ∀ x ∈ L, Blk W x.1 x.2.1 x.2.2
  low : ∀ x ∈ L, w.heap.size ≤ x.1
  dis : L.Pairwise fun x y => x.1 ≠ y.1
  far : ∀ g, some g ∈ G → g < W.heap.size ∧ ∀ x ∈ L, x.1 ≠ g
section
variable {w W W' : World} {L : BL} {G : List (Option Nat)} {g : Nat} {t : TypeId} {cs : Array Value}
theorem Mm.start (w : World) : Mm w w [] [] := ⟨Below.refl _ _, by simp, by simp, List.Pairwise.nil, by simp⟩
theorem Mm.allocO (h : Mm w W L G) (o : Obj) : Mm w (W.alloc o) L G :=
  ⟨bel_alloc h.bel o, fun x hx => (h.blk x hx).alloc o, h.low, h.dis, fun g hg => ⟨by have := (h.far g hg).1; simp; omega, (h.far g hg).2⟩⟩
theorem Mm.alloc (h : Mm w W L G) (cs : Array Value) (t : TypeId) : Mm w (W.alloc (.cells cs t)) ((W.heap.size, t, cs) :: L) G := by
  refine ⟨bel_alloc h.bel _, fun x hx => ?_, fun x hx => ?_, List.pairwise_cons.2 ⟨fun x hx => ?_, h.dis⟩, fun g hg => ⟨by have := (h.far g hg).1; simp; omega, fun x hx => ?_⟩⟩
  · rcases List.mem_cons.1 hx with rfl | hx
    · exact Blk.new W t cs
    · exact (h.blk x hx).alloc _
  · rcases List.mem_cons.1 hx with rfl | hx
    · exact h.bel.size
    · exact h.low x hx
  · have := (h.blk x hx).lt
    dsimp only
    omega
  · rcases List.mem_cons.1 hx with rfl | hx
    · have := (h.far g hg).1
      dsimp only
      omega
    · exact (h.far g hg).2 x hx
theorem Mm.call (h : Mm w W L G) (hb : Below W.heap.size W W') : Mm w W' L G :=
  ⟨bel_call h.bel hb, fun x hx => (h.blk x hx).below hb, h.low, h.dis, fun g hg => ⟨Nat.lt_of_lt_of_le (h.far g hg).1 hb.size, (h.far g hg).2⟩⟩
theorem Mm.drew (h : Mm w W L G) : Mm w W.drew L G := ⟨h.bel.drew, fun x hx => (h.blk x hx).drew, h.low, h.dis, h.far⟩
theorem Mm.drewN (h : Mm w W L G) (n : Nat) : Mm w (W.drewN n) L G := ⟨below_drewN h.bel n, fun x hx => (h.blk x hx).drewN n, h.low, h.dis, h.far⟩
/-- a row that a call has made stays apart -/
theorem Mm.callAdd (h : Mm w W L G) (hb : Below W.heap.size W W') {a : Option Nat} (hA : ∀ k, a = some k → W.heap.size ≤ k ∧ k < W'.heap.size) : Mm w W' L (a :: G) := by
  have h' := h.call hb
  refine ⟨h'.bel, h'.blk, h'.low, h'.dis, fun g hg => ?_⟩
  rcases List.mem_cons.1 hg with e | hg
  · obtain ⟨h1, h2⟩ := hA g e.symm
    exact ⟨h2, fun x hx => by have := (h.blk x hx).lt; omega⟩
  · exact h'.far g hg
theorem Mm.add (h : Mm w W L G) {a : Option Nat} (hA : ∀ k, a = some k → k < W.heap.size ∧ ∀ x ∈ L, x.1 ≠ k) : Mm w W L (a :: G) := by
  refine ⟨h.bel, h.blk, h.low, h.dis, fun g hg => ?_⟩
  rcases List.mem_cons.1 hg with e | hg
  · exact hA g e.symm
  · exact h.far g hg
theorem Mm.sub (h : Mm w W L G) {L' : BL} (hL : L'.Sublist L) : Mm w W L' G :=
  ⟨h.bel, fun x hx => h.blk x (hL.subset hx), fun x hx => h.low x (hL.subset hx), h.dis.sublist hL, fun g hg => ⟨(h.far g hg).1, fun x hx => (h.far g hg).2 x (hL.subset hx)⟩⟩
theorem Mm.subG (h : Mm w W L G) {G' : List (Option Nat)} (hG : ∀ x ∈ G', x ∈ G) : Mm w W L G' := ⟨h.bel, h.blk, h.low, h.dis, fun g hg => h.far g (hG _ hg)⟩
/-- a block apart is written -/
theorem Mm.wr (h : Mm w W L G) (hr : Wr W W' g) (hg : some g ∈ G) (hlo : w.heap.size ≤ g) : Mm w W' L G :=
  ⟨h.bel.trans (hr.below h.bel.size hlo), fun x hx => (h.blk x hx).wr hr ((h.far g hg).2 x hx), h.low, h.dis, fun k hk => ⟨Nat.lt_of_lt_of_le (h.far k hk).1 hr.size, (h.far k hk).2⟩⟩
/-- the j-th block turns, and nothing else -/
theorem Mm.turn (h : Mm w W L G) (j : Nat) {cs' : Array Value} (hj : L[j]? = some (g, t, cs)) (hB : Blk W' g t cs') (hr : Wr W W' g) : Mm w W' (L.set j (g, t, cs')) G := by
  have hjl : j < L.length := (List.getElem?_eq_some_iff.1 hj).1
  have hje : L[j] = (g, t, cs) := (List.getElem?_eq_some_iff.1 hj).2
  have hmem : (g, t, cs) ∈ L := by rw [← hje]; exact List.getElem_mem hjl
  have hmap : (L.set j (g, t, cs')).map (·.1) = L.map (·.1) := by
    rw [List.map_set]
    apply List.ext_getElem? 
    intro i
    rw [List.getElem?_set]
    split
    · rename_i e
      subst e
      simp [hjl, hje]
    · rfl
  have hin : ∀ x ∈ L.set j (g, t, cs'), ∃ y ∈ L, y.1 = x.1 := fun x hx => by
    have : x.1 ∈ (L.set j (g, t, cs')).map (·.1) := List.mem_map_of_mem hx
    rw [hmap] at this
    obtain ⟨y, hy, e⟩ := List.mem_map.1 this
    exact ⟨y, hy, e⟩
  refine ⟨h.bel.trans (hr.below h.bel.size (h.low _ hmem)), fun x hx => ?_, fun x hx => ?_, ?_, fun k hk => ⟨Nat.lt_of_lt_of_le (h.far k hk).1 hr.size, fun x hx => ?_⟩⟩
  · rw [List.mem_iff_getElem?] at hx
    obtain ⟨i, hi⟩ := hx
    rw [List.getElem?_set] at hi
    split at hi
    · rename_i e
      injection hi with hi
      subst hi
      exact hB
    · rename_i e
      have hm := List.mem_of_getElem? hi
      refine (h.blk x hm).wr hr ?_
      obtain ⟨hil, hie⟩ := List.getElem?_eq_some_iff.1 hi
      have hp := List.pairwise_iff_getElem.1 h.dis
      rcases Nat.lt_or_gt_of_ne e with hlt | hlt
      · have := hp j i hjl hil hlt
        rw [hje, hie] at this
        exact fun e => this e.symm
      · have := hp i j hil hjl hlt
        rw [hje, hie] at this
        exact this
  · obtain ⟨y, hy, e⟩ := hin x hx
    rw [← e]
    exact h.low y hy
  · have h1 := h.dis
    rw [show (fun x y : Nat × TypeId × Array Value => x.1 ≠ y.1) = (fun x y => (fun a b : Nat => a ≠ b) x.1 y.1) from rfl, ← List.pairwise_map] at h1 ⊢
    rw [hmap]
    exact h1
  · obtain ⟨y, hy, e⟩ := hin x hx
    rw [← e]
    exact (h.far k hk).2 y hy
theorem Mm.set (h : Mm w W L G) (j i : Nat) (v : Value) (hj : L[j]? = some (g, t, cs)) : Mm w (W.setCell ⟨g, i, none⟩ v) (L.set j (g, t, cs.setIfInBounds i v)) G :=
  h.turn j hj ((h.blk _ (List.mem_of_getElem? hj)).set_ i v) ((Wr.refl _ _).set_ i v)
theorem Wr.row (cs2 : Array Value) : Wr W (W.setRow g cs2) g := ⟨rfl, rfl, rfl, by simp, fun i _ hn => setRow_other W g i cs2 (fun e => hn (by rw [e]))⟩
theorem Mm.row (h : Mm w W L G) (j : Nat) {cs' : Array Value} (hj : L[j]? = some (g, t, cs)) (hB : Blk (W.setRow g cs') g t cs') : Mm w (W.setRow g cs') (L.set j (g, t, cs')) G := h.turn j hj hB (Wr.row cs')
theorem Mm.b0 {L : BL} (h : Mm w W ((g, t, cs) :: L) G) : Blk W g t cs := h.blk _ (.head _)
theorem Mm.b1 {a : Nat × TypeId × Array Value} {L : BL} (h : Mm w W (a :: (g, t, cs) :: L) G) : Blk W g t cs := h.blk _ (.tail _ (.head _))
theorem Mm.b2 {a b : Nat × TypeId × Array Value} {L : BL} (h : Mm w W (a :: b :: (g, t, cs) :: L) G) : Blk W g t cs := h.blk _ (.tail _ (.tail _ (.head _)))
theorem Mm.b3 {a b c : Nat × TypeId × Array Value} {L : BL} (h : Mm w W (a :: b :: c :: (g, t, cs) :: L) G) : Blk W g t cs := h.blk _ (.tail _ (.tail _ (.tail _ (.head _))))
/-- a block that is none of these is written -/
theorem Mm.off (h : Mm w W L G) (hr : Wr W W' g) (hg : ∀ x ∈ L, x.1 ≠ g) (hlo : w.heap.size ≤ g) : Mm w W' L G :=
  ⟨h.bel.trans (hr.below h.bel.size hlo), fun x hx => (h.blk x hx).wr hr (hg x hx), h.low, h.dis, fun k hk => ⟨Nat.lt_of_lt_of_le (h.far k hk).1 hr.size, (h.far k hk).2⟩⟩
/-- what lies above all of them turns -/
theorem Mm.base (h : Mm w W L G) {B : Nat} (hb : Below B W W') (hL : ∀ x ∈ L, x.1 < B) (hlo : w.heap.size ≤ B) {a : Option Nat} (hA : ∀ k, a = some k → B ≤ k ∧ k < W'.heap.size) {G' : List (Option Nat)} (hG : ∀ x ∈ G', x ∈ G) : Mm w W' L (a :: G') := by
  refine ⟨h.bel.trans (hb.mono hlo), fun x hx => (hb.block _ (hL x hx)).trans (h.blk x hx), h.low, h.dis, fun g hg => ?_⟩
  rcases List.mem_cons.1 hg with e | hg
  · obtain ⟨h1, h2⟩ := hA g e.symm
    exact ⟨h2, fun x hx => by have := hL x hx; omega⟩
  · exact ⟨Nat.lt_of_lt_of_le (h.far g (hG _ hg)).1 hb.size, (h.far g (hG _ hg)).2⟩
theorem Mm.above (h : Mm w W L []) {B : Nat} (hb : Below B W W') (hL : ∀ x ∈ L, x.1 < B) (hlo : w.heap.size ≤ B) : Mm w W' L [] :=
  (h.base hb hL hlo (a := none) (fun _ h => by cases h) (G' := []) (fun _ h => h)).subG (fun _ h => .tail _ h)
end
end Go.Proofs.YtabnndjdkjkciaaGreatDoor

namespace Go.Proofs.YtabnndjdkjkciaaGreatDoor
open Go.RowKit

section
variable {P : Program}
theorem run_loadVar_at (w : World) (ad : Addr) (ty : TypeId) (cs : Array Value) (hc : ∀ j u, cs[j]? = some u → w.cell? (ad.add j) = some u) (d : TypeDesc) (hu : P.underlying ty = some d) (hd : (match d with | .struct _ | .array _ _ => true | _ => false) = true) (hi : (P.info? ty).map (·.size) = some cs.size) :
    (loadVar ty ad).run P w = .ok (.agg cs) w := by
  have hl := run_loadCells_list (P := P) w ad cs.toList (fun j u hj => hc j u (by simpa using hj))
  cases hq : P.info? ty with
  | none => simp [hq] at hi
  | some i =>
    have hs : i.size = cs.size := by simpa [hq] using hi
    have hagg : (isAgg ty).run P w = .ok true w := by
      unfold isAgg
      rw [Sem.run_bind, run_underlying hu w]
      cases d <;> simp_all
    simp only [Array.length_toList, Array.toArray_toList] at hl
    simp [loadVar, Sem.run_bind, hagg, sizeOf, typeInfo, hq, hs, hl]
theorem wp_loadA {o : Oper} {a : Act} {w : World} {K : Act → World → Prop} {Q : Exit → Act → World → Prop} (ty : TypeId) (x : Operand) (ho : o.op = .load ty x)
    (ad : Addr) (cs : Array Value) (hx : a.eval x = .pointer (some ad)) (hc : ∀ j u, cs[j]? = some u → w.cell? (ad.add j) = some u) (d : TypeDesc) (hu : P.underlying ty = some d) (hd : (match d with | .struct _ | .array _ _ => true | _ => false) = true) (hi : (P.info? ty).map (·.size) = some cs.size)
    (h : K (a.put o.dst (.agg cs)) w) : o.wp P a w K Q := by
  unfold Oper.wp execOp
  simp only [ho, hx, Instr.loadAt, Instr.sureAddr, Sem.run_bind, Sem.run_pure, Result.andThen_ok, run_loadVar_at w ad ty cs hc d hu hd hi]
  exact h
/-- a whole struct or array out of memory (the operation's guard, if it has one, true) -/
theorem wpl_loadG {ops : Array Oper} {rest : List Oper} {o : Oper} {a : Act} {w : World} {Q : Exit → Act → World → Prop} (hgd : Region.wanted o (yielded ops a.tmps) = true) (ty : TypeId) (x : Operand) (ho : o.op = .load ty x)
    (ad : Addr) (cs : Array Value) (hx : a.eval x = .pointer (some ad)) (hc : ∀ j u, cs[j]? = some u → w.cell? (ad.add j) = some u) (d : TypeDesc) (hu : P.underlying ty = some d) (hd : (match d with | .struct _ | .array _ _ => true | _ => false) = true) (hi : (P.info? ty).map (·.size) = some cs.size)
    (h : wpList P ops Q rest (a.put o.dst (.agg cs)) w) : wpList P ops Q (o :: rest) a w :=
  wpList_step fun _ hK => by
    rw [if_pos hgd]
    exact wp_loadA ty x ho ad cs hx hc d hu hd hi (hK _ _ h)
/-- a whole struct laid into a block of its own that was just made -/
theorem wpl_storeN {ops : Array Oper} {rest : List Oper} {o : Oper} {a : Act} {w : World} {Q : Exit → Act → World → Prop} (hgd : o.guard = none) (ty : TypeId) (x y : Operand) (ho : o.op = .store ty x y)
    (old cells : Array Value) (t : TypeId) (hx : a.eval x = .pointer (some ⟨w.heap.size, 0, none⟩)) (hy : a.eval y = .agg cells) (hi : (P.info? ty).map (·.size) = some cells.size) (hold : old.size = cells.size) (h1 : cells.all (·.oneCell') = true)
    (h : wpList P ops Q rest (a.put o.dst undef) (w.alloc (.cells cells t))) : wpList P ops Q (o :: rest) a (w.alloc (.cells old t)) :=
  wpList_store_row hgd ty x y ho w.heap.size cells hx hy t old (heap_alloc_new w _) hi hold h1 (by rw [World.setRow_alloc_new]; exact h)
end

/-- a part's cells -/
def ptl (p : Pt5) : List Value := .int .i64 p.1 :: .int .i64 p.2.1 :: .int .i64 p.2.2.1 :: bvs p.2.2.2.1
theorem ptl_len (p : Pt5) : (ptl p).length = 35 := by
  have := p.2.2.2.2
  simp [ptl, this]
theorem ptl_one (p : Pt5) : ∀ u ∈ ptl p, u.oneCell' = true := by
  intro u hu
  simp only [ptl, List.mem_cons] at hu
  rcases hu with rfl | rfl | rfl | hu
  · rfl
  · rfl
  · rfl
  · exact one_bvs _ u hu
theorem ptl_all (p : Pt5) : (ptl p).toArray.all (·.oneCell') = true := by
  rw [Array.all_eq_true_iff_forall_mem]
  intro u hu
  exact ptl_one p u (by simpa using hu)
/-- a manifest's cells -/
def mfl (n f t r : Int) (d : Dg) (A : Option Addr) (k c : Nat) : List Value := .int .i64 n :: .int .i64 f :: .int .i64 t :: .int .i64 r :: (bvs d.1 ++ [.slice A k c])
theorem mfl_len (n f t r : Int) (d : Dg) (A : Option Addr) (k c : Nat) : (mfl n f t r d A k c).length = 37 := by
  have := d.2
  simp [mfl, this]
/-- a digest's, a part's, a manifest's cells as an array -/
def dga (d : Dg) : Array Value := (bvs d.1).toArray
def pta (p : Pt5) : Array Value := (ptl p).toArray
def mfa (n f t r : Int) (d : Dg) (A : Option Addr) (k c : Nat) : Array Value := (mfl n f t r d A k c).toArray
theorem dga_size (d : Dg) : (dga d).size = 32 := by have := d.2; simp [dga, this]
theorem pta_size (p : Pt5) : (pta p).size = 35 := by have := ptl_len p; simp [pta, this]
theorem mfa_size (n f t r : Int) (d : Dg) (A : Option Addr) (k c : Nat) : (mfa n f t r d A k c).size = 37 := by have := mfl_len n f t r d A k c; simp [mfa, this]
theorem pta_all (p : Pt5) : (pta p).all (·.oneCell') = true := ptl_all p
/-- parts that can be read -/
def SlP (w : World) (E : Option Addr) (cap : Nat) (ps : List Pt5) : Prop := Sl w 35 E ps.length cap (ps.flatMap ptl)
theorem SlP.below {w w' : World} {E : Option Addr} {cap : Nat} {ps : List Pt5} (h : SlP w E cap ps) (hb : Below w.heap.size w w') : SlP w' E cap ps := Sl.below h hb
theorem SlP.at {w : World} {E : Option Addr} {cap : Nat} {ps : List Pt5} (h : SlP w E cap ps) {k : Nat} (hk : k < ps.length) :
    ∃ ad b o, E = some ad ∧ ad.add (k * 35) = ⟨b, o, none⟩ ∧ ∀ j u, (pta ps[k])[j]? = some u → w.cell? ((⟨b, o, none⟩ : Addr).add j) = some u := by
  obtain ⟨ad, b, o, h1, h2, h3⟩ := Sl.atS (f := ptl) ptl_len (by decide) h hk
  exact ⟨ad, b, o, h1, h2, fun j u hj => by rw [addr_lit]; exact h3 j u (by simpa [pta] using hj)⟩
/-- a manifest's block -/
abbrev BlM (w : World) (g : Nat) (n f t r : Int) (d : Dg) (A : Option Addr) (k c : Nat) : Prop := Blk w g 57 (mfa n f t r d A k c)
theorem Blk.cells {w : World} {g : Nat} {t : TypeId} {cs : Array Value} (h : Blk w g t cs) : ∀ j u, cs[j]? = some u → w.cell? ((⟨g, 0, none⟩ : Addr).add j) = some u := fun j u hj => by
  rw [addr_lit, Nat.zero_add, h.cell]
  exact hj
section
variable {w : World} {g : Nat} {n f t r : Int} {d : Dg} {A : Option Addr} {k c : Nat}
theorem BlM.five (h : BlM w g n f t r d A k c) : w.cell? ⟨g, 0, none⟩ = some (.int .i64 n) ∧ w.cell? ⟨g, 1, none⟩ = some (.int .i64 f) ∧ w.cell? ⟨g, 2, none⟩ = some (.int .i64 t) ∧ w.cell? ⟨g, 3, none⟩ = some (.int .i64 r) ∧ w.cell? ⟨g, 36, none⟩ = some (.slice A k c) := by
  refine ⟨(h.cell 0).trans rfl, (h.cell 1).trans rfl, (h.cell 2).trans rfl, (h.cell 3).trans rfl, (h.cell 36).trans ?_⟩
  have := d.2
  simp [mfa, mfl, this]
theorem BlM.dg (h : BlM w g n f t r d A k c) : ∀ j u, (dga d)[j]? = some u → w.cell? ((⟨g, 4, none⟩ : Addr).add j) = some u := fun j u hj => by
  rw [addr_lit, h.cell]
  replace hj : (bvs d.1)[j]? = some u := by simpa [dga] using hj
  have hj2 : j < (bvs d.1).length := (List.getElem?_eq_some_iff.1 hj).1
  rw [show 4 + j = j + 1 + 1 + 1 + 1 from by omega]
  simp only [mfa, mfl, List.getElem?_toArray, List.getElem?_cons_succ]
  rw [List.getElem?_append_left hj2]
  exact hj
end
abbrev BlP (w : World) (g : Nat) (p : Pt5) : Prop := Blk w g 28 (pta p)
theorem BlP.three {w : World} {g : Nat} {p : Pt5} (h : BlP w g p) : w.cell? ⟨g, 0, none⟩ = some (.int .i64 p.1) ∧ w.cell? ⟨g, 1, none⟩ = some (.int .i64 p.2.1) ∧ w.cell? ⟨g, 2, none⟩ = some (.int .i64 p.2.2.1) :=
  ⟨(h.cell 0).trans rfl, (h.cell 1).trans rfl, (h.cell 2).trans rfl⟩
/-- two digests -/
theorem eqItems_bytes {P : Program} {e : TypeId} (he : P.underlying e = some (.int .u8)) (d : Nat) (xs ys : List UInt8) (w : World) : ∀ is : List Nat, (∀ i ∈ is, i < xs.length ∧ i < ys.length) →
    (Op.eqItems (d + 1) e 1 (bvs xs).toArray (bvs ys).toArray is).run P w = .ok (is.all fun i => decide (xs[i]? = ys[i]?)) w
  | [], _ => by simp [Op.eqItems]
  | i :: is, h => by
    obtain ⟨h1, h2⟩ := h i (.head _)
    have ih := eqItems_bytes he d xs ys w is fun j hj => h j (.tail _ hj)
    have hagg : (isAgg e).run P w = .ok false w := by
      unfold isAgg
      rw [Sem.run_bind, run_underlying he w]
      rfl
    have hx : (part e (bvs xs).toArray (i * 1)).run P w = .ok (bv xs[i]) w := by
      unfold part
      rw [Sem.run_bind, hagg]
      simp [List.getElem?_eq_getElem h1]
    have hy : (part e (bvs ys).toArray (i * 1)).run P w = .ok (bv ys[i]) w := by
      unfold part
      rw [Sem.run_bind, hagg]
      simp [List.getElem?_eq_getElem h2]
    simp only [Op.eqItems, Sem.run_bind, hx, hy, Result.andThen_ok, run_equalIn_int w d e .u8 .u8 _ _ he]
    have hb : ((xs[i].toNat : Int) == (ys[i].toNat : Int)) = decide (xs[i]? = ys[i]?) := by
      rw [List.getElem?_eq_getElem h1, List.getElem?_eq_getElem h2, Bool.eq_iff_iff]
      simp only [beq_iff_eq, decide_eq_true_eq, Option.some.injEq]
      constructor
      · intro h; exact UInt8.toNat_inj.1 (by omega)
      · intro h; rw [h]
    rw [hb]
    cases hq : decide (xs[i]? = ys[i]?)
    · simp [hq]
    · simp [hq, ih]
theorem dg_all (a b : Dg) : ((List.range 32).all fun i => decide (a.1[i]? = b.1[i]?)) = decide (a = b) := by
  rw [Bool.eq_iff_iff]
  simp only [List.all_eq_true, decide_eq_true_eq, List.mem_range]
  constructor
  · intro h
    apply Subtype.ext
    apply List.ext_getElem?
    intro i
    rcases Nat.lt_or_ge i 32 with h1 | h1
    · exact h i h1
    · rw [List.getElem?_eq_none (by rw [a.2]; exact h1), List.getElem?_eq_none (by rw [b.2]; exact h1)]
  · rintro rfl i _
    rfl
theorem eql_dg (a b : Dg) (w : World) : (binOp .eql 26 (.agg (dga a)) (.agg (dga b))).run Tryz.prog w = .ok (.bool (decide (a = b))) w := by
  unfold dga
  rw [run_eql_struct]
  obtain ⟨i, hi⟩ : ∃ i, Tryz.prog.info? 5 = some i := Option.isSome_iff_exists.1 (by kernel_rfl)
  rw [run_equalIn_array (P := Tryz.prog) (w := w) 9999 (t := 26) (e := 5) (n := 32) (i := i) _ _ Tryz.underlying26 hi]
  rw [show Tryz.prog.cellsOf 5 = 1 from by kernel_rfl]
  rw [eqItems_bytes (P := Tryz.prog) Tryz.underlying5 9998 a.1 b.1 w _ (fun i hi => by have := List.mem_range.1 hi; rw [a.2, b.2]; exact ⟨this, this⟩)]
  rw [dg_all]
  rfl
end Go.Proofs.YtabnndjdkjkciaaGreatDoor

namespace Go.Proofs.YtabnndjdkjkciaaGreatDoor
open Go.RowKit
attribute [local go_sem ↓] Go.wp_at_zero Go.wp_at_succ

set_option maxRecDepth 100000 in
set_option maxHeartbeats 400000 in
theorem MIn_any (x m : Int) (w : World) : Calls Tryz.prog 116 #[.int .i64 x, .int .i64 m] w fun e w' => e = .returned (.bool (inb x m)) ∧ w = w' := by
  go_enter Tryz.func116, Tryz.ntmps116
  by_cases h : 0 ≤ x
  · have h2 : decide (0 ≤ x) = true := by simp [h]
    go_wp2_with fail
    go_ret
    exact ⟨by unfold inb; rw [h2]; rfl, rfl⟩
  · have h2 : decide (0 ≤ x) = false := by simp [h]
    go_wp2_with fail
    go_ret
    exact ⟨by unfold inb; rw [h2]; rfl, rfl⟩
theorem zeros : (#[.int .u8 0, .int .u8 0, .int .u8 0, .int .u8 0, .int .u8 0, .int .u8 0, .int .u8 0, .int .u8 0, .int .u8 0, .int .u8 0, .int .u8 0, .int .u8 0, .int .u8 0, .int .u8 0, .int .u8 0, .int .u8 0, .int .u8 0, .int .u8 0, .int .u8 0, .int .u8 0, .int .u8 0, .int .u8 0, .int .u8 0, .int .u8 0, .int .u8 0, .int .u8 0, .int .u8 0, .int .u8 0, .int .u8 0, .int .u8 0, .int .u8 0, .int .u8 0] : Array Value) = dga dg0 := rfl
set_option maxRecDepth 100000 in
set_option maxHeartbeats 1000000 in
theorem Zero_any (d : Dg) (w : World) : Calls Tryz.prog 117 #[.agg (dga d)] w fun e w' => e = .returned (.bool (decide (d = dg0))) ∧ Below w.heap.size w w' := by
  have hB := Blk.new w 26 (dga d)
  have hE := eql_dg d dg0
  rw [← zeros] at hE
  have hsz := Lib.hid (dga_size d)
  generalize decide (d = dg0) = zb at *
  generalize dga d = da at *
  go_enter Tryz.func117, Tryz.ntmps117
  go_wp2_with (refine wpl_loadG rfl 26 _ rfl _ da rfl hB.cells _ Tryz.underlying26 rfl (by rw [hsz.out]; kernel_rfl) ?_)
  go_ret
  exact ⟨rfl, below_new _ _⟩
theorem wrap_sub1 {m c : Int} (h : I64 m) (hc : 0 ≤ c) (hc2 : c ≤ 1000000) : inb (wrap64 (m - 1)) c = (decide (1 ≤ m) && decide (m ≤ c + 1)) := by
  unfold I64 at h
  obtain ⟨h1, h2⟩ := h
  unfold inb
  rw [Bool.eq_iff_iff]
  simp only [Bool.and_eq_true, decide_eq_true_eq, wrap64]
  omega
theorem ptchk_range {p : Pt5} {a : Int} (h : (decide (1 ≤ p.2.1) && decide (p.2.1 ≤ 63 + 1)) = false ∨ (decide (1 ≤ p.2.2.1) && decide (p.2.2.1 ≤ 65535 + 1)) = false) : ptchk p a = 1 := by
  unfold ptchk
  simp only [Bool.and_eq_false_iff, decide_eq_false_iff_not] at h
  rw [if_pos (by omega)]
theorem ptchk_at {p : Pt5} {a : Int} (h : (decide (1 ≤ p.2.1) && decide (p.2.1 ≤ 63 + 1)) = true) (h2 : (decide (1 ≤ p.2.2.1) && decide (p.2.2.1 ≤ 65535 + 1)) = true) : ptchk p a = if p.1 ≠ a then 2 else 0 := by
  unfold ptchk
  simp only [Bool.and_eq_true, decide_eq_true_eq] at h h2
  rw [if_neg (by omega)]
set_option maxRecDepth 100000 in
set_option maxHeartbeats 1000000 in
theorem PtCheck_any (p : Pt5) (a : Int) (h1 : I64 p.2.1) (h2 : I64 p.2.2.1) (w : World) :
    Calls Tryz.prog 118 #[.agg (pta p), .int .i64 a] w fun e w' => e = .returned (errv (ptchk p a)) ∧ Below w.heap.size w w' := by
  have hB := Blk.new w 28 (pta p)
  have hbw := below_new w (.cells (pta p) 28)
  have hI1 := wrap_sub1 h1 (c := 63) (by decide) (by decide)
  have hI2 := wrap_sub1 h2 (c := 65535) (by decide) (by decide)
  have hbad := fun h => Lib.hid (ptchk_range (p := p) (a := a) h)
  have hgood := fun h h2 => Lib.hid (ptchk_at (p := p) (a := a) h h2)
  generalize (decide (1 ≤ p.2.1) && decide (p.2.1 ≤ 63 + 1)) = b1 at *
  generalize (decide (1 ≤ p.2.2.1) && decide (p.2.2.1 ≤ 65535 + 1)) = b2 at *
  obtain ⟨c0, c1, c2⟩ := BlP.three hB
  obtain ⟨z1, hz1⟩ : ∃ z, wrap64 (p.2.1 - 1) = z := ⟨_, rfl⟩
  obtain ⟨z2, hz2⟩ : ∃ z, wrap64 (p.2.2.1 - 1) = z := ⟨_, rfl⟩
  have hw1 : IntKind.i64.wrap (p.2.1 - 1) = z1 := by rw [IntKind.wrap_i64]; simpa only [wrap64] using hz1
  have hw2 : IntKind.i64.wrap (p.2.2.1 - 1) = z2 := by rw [IntKind.wrap_i64]; simpa only [wrap64] using hz2
  have hC1 := fun W => MIn_any z1 63 W
  have hC2 := fun W => MIn_any z2 65535 W
  rw [hz1] at hI1
  rw [hz2] at hI2
  rw [hI1] at hC1
  rw [hI2] at hC2
  have HC1 := Lib.hid hC1
  have HC2 := Lib.hid hC2
  clear hC1 hC2 hI1 hI2 h1 h2 hB
  generalize pta p = pa at *
  go_enter Tryz.func118, Tryz.ntmps118
  go_wp2_with fail
  refine (HC1.out _).mono ?_
  rintro e w1 ⟨rfl, rfl⟩
  cases b1 with
  | false =>
    have hc := hbad (.inl rfl)
    clear hbad hgood
    go_wp2_with fail
    go_ret
    exact ⟨by rw [hc.out]; rfl, hbw⟩
  | true =>
    go_wp2_with fail
    refine (HC2.out _).mono ?_
    rintro e w1 ⟨rfl, rfl⟩
    cases b2 with
    | false =>
      have hc := hbad (.inr rfl)
      clear hbad hgood
      go_wp2_with fail
      go_ret
      exact ⟨by rw [hc.out]; rfl, hbw⟩
    | true =>
      have hg := hgood trivial rfl
      clear hbad hgood
      by_cases ha : p.1 = a
      · have hb : (p.1 != a) = false := by simp [ha]
        have hc : Hid (ptchk p a = 0) := (show _ = _ from by rw [hg.out, if_neg (by simp [ha])])
        clear hg ha
        go_wp2_with fail
        go_ret
        exact ⟨by rw [hc.out]; rfl, hbw⟩
      · have hb : (p.1 != a) = true := by simpa using ha
        have hc : Hid (ptchk p a = 2) := (show _ = _ from by rw [hg.out, if_pos ha])
        clear hg ha
        go_wp2_with fail
        go_ret
        exact ⟨by rw [hc.out]; rfl, hbw⟩
theorem mchk_range {m : Mf} (h : inb m.1 999999 = false ∨ inb m.2.1 1048576 = false ∨ inb m.2.2.1 1048576 = false ∨ inb m.2.2.2.1 1048576 = false) : mchk m = 1 := by
  unfold mchk
  rw [if_pos]
  rcases h with h | h | h | h <;> simp [h]
theorem mchk_form {m : Mf} (h1 : inb m.1 999999 = true) (h2 : inb m.2.1 1048576 = true) (h3 : inb m.2.2.1 1048576 = true) (h4 : inb m.2.2.2.1 1048576 = true) (h : m.2.2.1 < m.2.1 ∨ (m.1 = 0 ∧ decide (m.2.2.2.2.1 = dg0) = false)) : mchk m = 2 := by
  unfold mchk
  rw [if_neg (by simp [h1, h2, h3, h4]), if_pos]
  rcases h with h | ⟨h, h5⟩
  · simp [h]
  · rw [h, h5]; simp
theorem mchk_rest {m : Mf} (h1 : inb m.1 999999 = true) (h2 : inb m.2.1 1048576 = true) (h3 : inb m.2.2.1 1048576 = true) (h4 : inb m.2.2.2.1 1048576 = true) (h5 : ¬ m.2.2.1 < m.2.1) (h6 : m.1 = 0 → decide (m.2.2.2.2.1 = dg0) = true) :
    mchk m = if 1024 < m.2.2.2.2.2.length then 3 else pgo m.2.2.1 m.2.1 m.2.2.2.2.2 := by
  unfold mchk
  rw [if_neg (by simp [h1, h2, h3, h4]), if_neg]
  simp only [Bool.or_eq_true, Bool.and_eq_true, decide_eq_true_eq, beq_iff_eq, not_or, not_and]
  exact ⟨h5, fun h => by rw [h6 h]; simp⟩
/-- parts whose numbers are numbers -/
def PtsI (ps : List Pt5) : Prop := ∀ p ∈ ps, I64 p.1 ∧ I64 p.2.1 ∧ I64 p.2.2.1
theorem pgo_step {z a : Int} {l : List Pt5} {k : Nat} (hk : k < l.length) (h : ptchk l[k] a = 0) : pgo z a (l.drop k) = pgo z (a + l[k].2.1) (l.drop (k + 1)) := by
  rw [List.drop_eq_getElem_cons hk, pgo, if_neg (by rw [h]; simp)]
theorem pgo_stop {z a : Int} {l : List Pt5} {k : Nat} (hk : k < l.length) (h : ptchk l[k] a ≠ 0) : pgo z a (l.drop k) = ptchk l[k] a := by
  rw [List.drop_eq_getElem_cons hk, pgo, if_pos h]
set_option maxRecDepth 100000 in
set_option maxHeartbeats 4000000 in
theorem MCheck_any {A : Option Addr} {c : Nat} (n f t r : Int) (d : Dg) (ps : List Pt5) (w : World) (h : SlP w A c ps) (hI : PtsI ps) :
    Calls Tryz.prog 50 #[.agg (mfa n f t r d A ps.length c)] w fun e w' => e = .returned (errv (mchk (n, f, t, r, d, ps))) ∧ Below w.heap.size w w' := by
  have hB : BlM _ w.heap.size n f t r d A ps.length c := Blk.new w 57 (mfa n f t r d A ps.length c)
  have hbw := below_new w (.cells (mfa n f t r d A ps.length c) 57)
  have hmax := h.len_le
  unfold maxLen at hmax
  obtain ⟨b1, hb1⟩ : ∃ b, inb n 999999 = b := ⟨_, rfl⟩
  obtain ⟨b2, hb2⟩ : ∃ b, inb f 1048576 = b := ⟨_, rfl⟩
  obtain ⟨b3, hb3⟩ : ∃ b, inb t 1048576 = b := ⟨_, rfl⟩
  obtain ⟨b4, hb4⟩ : ∃ b, inb r 1048576 = b := ⟨_, rfl⟩
  have hC1 := fun W => MIn_any n 999999 W
  have hC2 := fun W => MIn_any f 1048576 W
  have hC3 := fun W => MIn_any t 1048576 W
  have hC4 := fun W => MIn_any r 1048576 W
  rw [hb1] at hC1
  rw [hb2] at hC2
  rw [hb3] at hC3
  rw [hb4] at hC4
  have HC1 := Lib.hid hC1
  have HC2 := Lib.hid hC2
  have HC3 := Lib.hid hC3
  have HC4 := Lib.hid hC4
  have HB1 := Lib.hid hb1
  have HB2 := Lib.hid hb2
  have HB3 := Lib.hid hb3
  have HB4 := Lib.hid hb4
  clear hb1 hb2 hb3 hb4 hC1 hC2 hC3 hC4
  obtain ⟨a0, a1, a2, a3, a4⟩ := BlM.five hB
  have hdg := Lib.hid hB.dg
  have hds := Lib.hid (dga_size d)
  go_enter Tryz.func50, Tryz.ntmps50
  go_wp2_with fail
  refine (HC1.out _).mono ?_
  rintro e w1 ⟨rfl, rfl⟩
  cases b1 with
  | false =>
    have HC := Lib.hid (mchk_range (m := (n, f, t, r, d, ps)) (.inl HB1.out))
    go_wp2_with fail
    go_ret
    exact ⟨by rw [HC.out]; rfl, hbw⟩
  | true =>
  go_wp2_with fail
  refine (HC2.out _).mono ?_
  rintro e w1 ⟨rfl, rfl⟩
  cases b2 with
  | false =>
    have HC := Lib.hid (mchk_range (m := (n, f, t, r, d, ps)) (.inr (.inl HB2.out)))
    go_wp2_with fail
    go_ret
    exact ⟨by rw [HC.out]; rfl, hbw⟩
  | true =>
  go_wp2_with fail
  refine (HC3.out _).mono ?_
  rintro e w1 ⟨rfl, rfl⟩
  cases b3 with
  | false =>
    have HC := Lib.hid (mchk_range (m := (n, f, t, r, d, ps)) (.inr (.inr (.inl HB3.out))))
    go_wp2_with fail
    go_ret
    exact ⟨by rw [HC.out]; rfl, hbw⟩
  | true =>
  go_wp2_with fail
  refine (HC4.out _).mono ?_
  rintro e w1 ⟨rfl, rfl⟩
  cases b4 with
  | false =>
    have HC := Lib.hid (mchk_range (m := (n, f, t, r, d, ps)) (.inr (.inr (.inr HB4.out))))
    go_wp2_with fail
    go_ret
    exact ⟨by rw [HC.out]; rfl, hbw⟩
  | true =>
  clear HC1 HC2 HC3 HC4
  by_cases c1 : t < f
  · have HC := Lib.hid (mchk_form (m := (n, f, t, r, d, ps)) HB1.out HB2.out HB3.out HB4.out (.inl c1))
    go_wp2_with fail
    go_ret
    exact ⟨by rw [HC.out]; rfl, hbw⟩
  by_cases c2 : n = 0
  · have hn0 : (n == 0) = true := by simpa using c2
    have hz := fun W => Zero_any d W
    obtain ⟨zb, hzb⟩ : ∃ b, decide (d = dg0) = b := ⟨_, rfl⟩
    rw [hzb] at hz
    have HZ := Lib.hid hz
    have HZB := Lib.hid hzb
    have HN0 := Lib.hid c2
    clear hz hzb c2
    go_wp2_with (refine wpl_loadG (by kernel_rfl) 26 _ rfl ⟨w.heap.size, 4, none⟩ (dga d) rfl hdg.out _ Tryz.underlying26 rfl (by rw [hds.out]; kernel_rfl) ?_)
    refine (HZ.out _).mono ?_
    rintro e w2 ⟨rfl, hb2⟩
    have hBm := hB.below hb2
    have hw := bel_call hbw hb2
    clear hB hbw hb2 a0 a1 a2 a3 a4
    cases zb with
    | false =>
      have HC := Lib.hid (mchk_form (m := (n, f, t, r, d, ps)) HB1.out HB2.out HB3.out HB4.out (.inr ⟨HN0.out, HZB.out⟩))
      go_wp2_with fail
      go_ret
      exact ⟨by rw [HC.out]; rfl, hw⟩
    | true =>
      have HM := Lib.hid (mchk_rest (m := (n, f, t, r, d, ps)) HB1.out HB2.out HB3.out HB4.out (by dsimp only; omega) (fun _ => HZB.out))
      obtain ⟨a0, a1, a2, a3, a4⟩ := BlM.five hBm
      dsimp only at HM
      clear HN0 HZ HZB
      by_cases hlen : 1024 < ps.length
      · have hlI : (1024 : Int) < (ps.length : Int) := by omega
        have HC := Lib.hid (show mchk (n, f, t, r, d, ps) = 3 from by rw [HM.out, if_pos hlen])
        clear hlen
        go_wp2_with fail
        go_ret
        exact ⟨by rw [HC.out]; rfl, hw⟩
      · have hlI : (ps.length : Int) ≤ 1024 := by omega
        have HM2 := Lib.hid (show mchk (n, f, t, r, d, ps) = pgo t f ps from by rw [HM.out, if_neg hlen])
        have hf2 := inb_iff.1 HB2.out
        obtain ⟨hf0, hf1⟩ := hf2
        clear hlen HM
        go_wp2_with fail
        go_loopw [60, 3] (fun x y wr => ∃ (k : Nat) (a : Int), k ≤ ps.length ∧ x = .int .i64 k ∧ y = .int .i64 a ∧ Hid (pgo t f ps = pgo t a (ps.drop k)) ∧ f ≤ a ∧ a ≤ f + 64 * k ∧ Below w.heap.size w wr ∧ BlM wr w.heap.size n f t r d A ps.length c) (fun x y w => ps.length - (intOf x).toNat)
        case atStart => exact ⟨0, f, Nat.zero_le _, rfl, rfl, (show _ = _ from by rw [List.drop_zero]), Int.le_refl _, by omega, hw, hBm⟩
        case round =>
          obtain ⟨k, a, hk, rfl, rfl, hp, ha0, ha1, hbr, hBr⟩ := hrel
          clear hw hBm a0 a1 a2 a3 a4
          obtain ⟨a0, a1, a2, a3, a4⟩ := BlM.five hBr
          by_cases hlt : k < ps.length
          · obtain ⟨ad, b, o, rfl, had, hcc⟩ := (h.below hbr).at hlt
            have hnx := Lib.hid (fun h0 => (pgo_step (z := t) (a := a) hlt h0))
            have hst := Lib.hid (fun h0 => (pgo_stop (z := t) (a := a) hlt h0))
            have hIp := hI _ (List.getElem_mem hlt)
            generalize ps[k] = p at *
            obtain ⟨_, hI1, hI2⟩ := hIp
            have hX := Blk.new wr 28 (pta p)
            obtain ⟨x0, x1, x2⟩ := BlP.three hX
            have hbx := below_new wr (.cells (pta p) 28)
            have hps := Lib.hid (pta_size p)
            have hpa := Lib.hid (pta_all p)
            have HCC := Lib.hid hcc
            clear hcc
            go_wp2_with (first | (refine wpl_loadG rfl 28 _ rfl ⟨b, o, none⟩ (pta p) rfl HCC.out _ Tryz.underlying28 rfl (by rw [hps.out]; kernel_rfl) ?_) | (refine wpl_storeN rfl 28 _ _ rfl _ (pta p) 28 rfl rfl (by rw [hps.out]; kernel_rfl) (by rw [hps.out]; rfl) hpa.out ?_) | (refine wpl_loadG rfl 28 _ rfl ⟨wr.heap.size, 0, none⟩ (pta p) rfl hX.cells _ Tryz.underlying28 rfl (by rw [hps.out]; kernel_rfl) ?_))
            have hXb := hX
            refine (PtCheck_any p a hI1 hI2 _).mono ?_
            rintro e w5 ⟨rfl, hb5⟩
            replace hXb := Blk.below hXb hb5
            have hn5 := bel_call (bel_call hbr hbx) hb5
            have hBn : BlM w5 w.heap.size n f t r d (some ad) ps.length c := Blk.below (Blk.below hBr hbx) hb5
            rcases errv_cases (ptchk p a) with ⟨h0, hev⟩ | ⟨q, hq, hqe, hev⟩
            · have hp2 := hnx.out h0
              obtain ⟨_, hm64, _, _, _⟩ := ptchk_ok h0
              have hm1 : 1 ≤ p.2.1 := (ptchk_ok h0).1
              have HP := Lib.hid (hp.out.trans hp2)
              rw [hev]
              clear hev h0 hp2 hnx hst hp x0 x1 x2 a0 a1 a2 a3 a4 hX hI1 hI2 hps hpa HCC
              obtain ⟨x0, x1, x2⟩ := BlP.three hXb
              have hwa : wrap64 (a + p.2.1) = a + p.2.1 := by simp only [wrap64]; omega
              have hwa2 : IntKind.i64.wrap (a + p.2.1) = a + p.2.1 := by rw [IntKind.wrap_i64]; omega
              go_wp2_with fail
              go_roundw
              case rel => exact ⟨k + 1, a + p.2.1, hlt, by go_num, rfl, HP, by omega, by omega, hn5, hBn⟩
              case measure => simp [intOf]; omega
            · have hp2 := hst.out (by omega)
              have HP := Lib.hid ((HM2.out.trans hp.out).trans hp2)
              have HEV := Lib.hid hev
              rw [hev]
              clear hev hqe hp2 hnx hst hp x0 x1 x2 a0 a1 a2 a3 a4 hX hI1 hI2 hps hpa HCC
              go_wp2_with fail
              go_ret
              exact ⟨by rw [HP.out, HEV.out]; rfl, hn5⟩
          · have hkn : ps.drop k = [] := List.drop_eq_nil_of_le (by omega)
            have HP := Lib.hid (show mchk (n, f, t, r, d, ps) = if a ≠ t then 2 else 0 from by rw [HM2.out, hp.out, hkn]; rfl)
            clear hp hkn
            by_cases hat : a = t
            · have hb : (a != t) = false := by simp [hat]
              have HC := Lib.hid (show mchk (n, f, t, r, d, ps) = 0 from by rw [HP.out, if_neg (by simp [hat])])
              clear HP hat
              go_wp2_with fail
              go_ret
              exact ⟨by rw [HC.out]; rfl, hbr⟩
            · have hb : (a != t) = true := by simpa using hat
              have HC := Lib.hid (show mchk (n, f, t, r, d, ps) = 2 from by rw [HP.out, if_pos hat])
              clear HP hat
              go_wp2_with fail
              go_ret
              exact ⟨by rw [HC.out]; rfl, hbr⟩
  · have hn0 : (n == 0) = false := by simpa using c2
    have HM := Lib.hid (mchk_rest (m := (n, f, t, r, d, ps)) HB1.out HB2.out HB3.out HB4.out (by dsimp only; omega) (fun h0 => absurd h0 c2))
    have hBm := hB
    have hw := hbw
    dsimp only at HM
    clear hB hbw c2
    by_cases hlen : 1024 < ps.length
    · have hlI : (1024 : Int) < (ps.length : Int) := by omega
      have HC := Lib.hid (show mchk (n, f, t, r, d, ps) = 3 from by rw [HM.out, if_pos hlen])
      clear hlen
      go_wp2_with fail
      go_ret
      exact ⟨by rw [HC.out]; rfl, hw⟩
    · have hlI : (ps.length : Int) ≤ 1024 := by omega
      have HM2 := Lib.hid (show mchk (n, f, t, r, d, ps) = pgo t f ps from by rw [HM.out, if_neg hlen])
      have hf2 := inb_iff.1 HB2.out
      obtain ⟨hf0, hf1⟩ := hf2
      clear hlen HM
      go_wp2_with fail
      go_loopw [60, 3] (fun x y wr => ∃ (k : Nat) (a : Int), k ≤ ps.length ∧ x = .int .i64 k ∧ y = .int .i64 a ∧ Hid (pgo t f ps = pgo t a (ps.drop k)) ∧ f ≤ a ∧ a ≤ f + 64 * k ∧ Below w.heap.size w wr ∧ BlM wr w.heap.size n f t r d A ps.length c) (fun x y w => ps.length - (intOf x).toNat)
      case atStart => exact ⟨0, f, Nat.zero_le _, rfl, rfl, (show _ = _ from by rw [List.drop_zero]), Int.le_refl _, by omega, hw, hBm⟩
      case round =>
        obtain ⟨k, a, hk, rfl, rfl, hp, ha0, ha1, hbr, hBr⟩ := hrel
        clear hw hBm a0 a1 a2 a3 a4
        obtain ⟨a0, a1, a2, a3, a4⟩ := BlM.five hBr
        by_cases hlt : k < ps.length
        · obtain ⟨ad, b, o, rfl, had, hcc⟩ := (h.below hbr).at hlt
          have hnx := Lib.hid (fun h0 => (pgo_step (z := t) (a := a) hlt h0))
          have hst := Lib.hid (fun h0 => (pgo_stop (z := t) (a := a) hlt h0))
          have hIp := hI _ (List.getElem_mem hlt)
          generalize ps[k] = p at *
          obtain ⟨_, hI1, hI2⟩ := hIp
          have hX := Blk.new wr 28 (pta p)
          obtain ⟨x0, x1, x2⟩ := BlP.three hX
          have hbx := below_new wr (.cells (pta p) 28)
          have hps := Lib.hid (pta_size p)
          have hpa := Lib.hid (pta_all p)
          have HCC := Lib.hid hcc
          clear hcc
          go_wp2_with (first | (refine wpl_loadG rfl 28 _ rfl ⟨b, o, none⟩ (pta p) rfl HCC.out _ Tryz.underlying28 rfl (by rw [hps.out]; kernel_rfl) ?_) | (refine wpl_storeN rfl 28 _ _ rfl _ (pta p) 28 rfl rfl (by rw [hps.out]; kernel_rfl) (by rw [hps.out]; rfl) hpa.out ?_) | (refine wpl_loadG rfl 28 _ rfl ⟨wr.heap.size, 0, none⟩ (pta p) rfl hX.cells _ Tryz.underlying28 rfl (by rw [hps.out]; kernel_rfl) ?_))
          have hXb := hX
          refine (PtCheck_any p a hI1 hI2 _).mono ?_
          rintro e w5 ⟨rfl, hb5⟩
          replace hXb := Blk.below hXb hb5
          have hn5 := bel_call (bel_call hbr hbx) hb5
          have hBn : BlM w5 w.heap.size n f t r d (some ad) ps.length c := Blk.below (Blk.below hBr hbx) hb5
          rcases errv_cases (ptchk p a) with ⟨h0, hev⟩ | ⟨q, hq, hqe, hev⟩
          · have hp2 := hnx.out h0
            obtain ⟨_, hm64, _, _, _⟩ := ptchk_ok h0
            have hm1 : 1 ≤ p.2.1 := (ptchk_ok h0).1
            have HP := Lib.hid (hp.out.trans hp2)
            rw [hev]
            clear hev h0 hp2 hnx hst hp x0 x1 x2 a0 a1 a2 a3 a4 hX hI1 hI2 hps hpa HCC
            obtain ⟨x0, x1, x2⟩ := BlP.three hXb
            have hwa : wrap64 (a + p.2.1) = a + p.2.1 := by simp only [wrap64]; omega
            have hwa2 : IntKind.i64.wrap (a + p.2.1) = a + p.2.1 := by rw [IntKind.wrap_i64]; omega
            go_wp2_with fail
            go_roundw
            case rel => exact ⟨k + 1, a + p.2.1, hlt, by go_num, rfl, HP, by omega, by omega, hn5, hBn⟩
            case measure => simp [intOf]; omega
          · have hp2 := hst.out (by omega)
            have HP := Lib.hid ((HM2.out.trans hp.out).trans hp2)
            have HEV := Lib.hid hev
            rw [hev]
            clear hev hqe hp2 hnx hst hp x0 x1 x2 a0 a1 a2 a3 a4 hX hI1 hI2 hps hpa HCC
            go_wp2_with fail
            go_ret
            exact ⟨by rw [HP.out, HEV.out]; rfl, hn5⟩
        · have hkn : ps.drop k = [] := List.drop_eq_nil_of_le (by omega)
          have HP := Lib.hid (show mchk (n, f, t, r, d, ps) = if a ≠ t then 2 else 0 from by rw [HM2.out, hp.out, hkn]; rfl)
          clear hp hkn
          by_cases hat : a = t
          · have hb : (a != t) = false := by simp [hat]
            have HC := Lib.hid (show mchk (n, f, t, r, d, ps) = 0 from by rw [HP.out, if_neg (by simp [hat])])
            clear HP hat
            go_wp2_with fail
            go_ret
            exact ⟨by rw [HC.out]; rfl, hbr⟩
          · have hb : (a != t) = true := by simpa using hat
            have HC := Lib.hid (show mchk (n, f, t, r, d, ps) = 2 from by rw [HP.out, if_pos hat])
            clear HP hat
            go_wp2_with fail
            go_ret
            exact ⟨by rw [HC.out]; rfl, hbr⟩
end Go.Proofs.YtabnndjdkjkciaaGreatDoor

namespace Go.Proofs.YtabnndjdkjkciaaGreatDoor
open Go.RowKit
attribute [local go_sem ↓] Go.wp_at_zero Go.wp_at_succ

/-- a new segment -/
def GivesSgN (w0 : World) (x : Sg × Nat) (e : Ending) (w' : World) : Prop :=
  ∃ A c m, e = .returned (.tuple #[cv x.1.1 A (List.length m) c, errv x.2]) ∧ Hid (m.map ceOf = x.1.2) ∧ NewS w' w0.heap.size A c m ∧ Below w0.heap.size w0 w'
theorem NewS.nil (w : World) (base : Nat) : NewS w base none 0 [] := ⟨Own.none_ _ _ _ _, fun x hx => by simp at hx⟩
section
variable {w W W' : World} {f fb : Int} {E G : Option Addr} {n cap n2 cap2 : Nat}
end

end Go.Proofs.YtabnndjdkjkciaaGreatDoor

namespace Go.Proofs.YtabnndjdkjkciaaGreatDoor
open Go.RowKit
attribute [local go_sem ↓] Go.wp_at_zero Go.wp_at_succ

end Go.Proofs.YtabnndjdkjkciaaGreatDoor

namespace Go.Proofs.YtabnndjdkjkciaaGreatDoor
open Go.RowKit
attribute [local go_sem ↓] Go.wp_at_zero Go.wp_at_succ

theorem Mkr.below {w w' : World} {g : Nat} {n : Int} (hM : Mkr w g n) (hb : Below w.heap.size w w') : Mkr w' g n := by
  rcases hM with ⟨cs, hB, r⟩ | ⟨cs, hB, r⟩
  · exact .inl ⟨cs, hB.below hb, r⟩
  · exact .inr ⟨cs, hB.below hb, r⟩
theorem But.of_drew {g : Nat} {a b : World} (h : But g a.drew b) : But g a b := ⟨h.os, h.tape, h.output, h.size, h.block⟩
theorem Mkr.drew {w : World} {g : Nat} {n : Int} (hM : Mkr w g n) : Mkr w.drew g n := hM
theorem But.below {g : Nat} {a w w' : World} (h : But g a w) (hb : Below w.heap.size w w') : But g a w' := h.trans (But.of_below hb (Nat.le_refl _))
/-- the bytes, whole, and the maker asked once more -/
def SealsB (g n : Nat) (w0 : World) (l : List UInt8) (e : Ending) (w' : World) : Prop :=
  ∃ A c m, e = .returned (.slice A (List.length m) c) ∧ Hid (m = l) ∧ OwnB w' w0.heap.size 5 A c m ∧ Mkr w' g ((n + 1 : Nat) : Int) ∧ But g w0 w'

set_option maxRecDepth 100000 in
set_option maxHeartbeats 1000000 in
theorem Sealed_at (g n : Nat) (A : Option Addr) (c : Nat) (l : List UInt8) (w : World) (hM : Mkr w g n) (hn : n < 1000000000) (hs : SlB w A c l) (hA : l ≠ [] → A.map (·.block) ≠ some g) (hl : l.length ≤ 100000000) :
    Calls Tryz.prog 123 #[.pointer (some ⟨g, 0, none⟩), .slice A l.length c] w (SealsB g n w (l ++ four (sumW l))) := by
  go_enter Tryz.func123, Tryz.ntmps123
  go_wp2_with fail
  refine (Sum_at g n A c l _ hM hn hs hA (by omega)).mono ?_
  rintro e w1 ⟨rfl, hM1, hB1⟩
  have hs1 := SlB.but hs hB1 hA
  go_wp2_with fail
  refine (four_any (sumW l) _).mono ?_
  rintro e w2 ⟨A2, c2, f, rfl, hf, hs2, hb2⟩
  have hfl := Lib.hid (show f.length = 4 from by rw [hf.out, four_len])
  have hs3 := hs1.below hb2
  have hbn := below_new w2 (.cells #[.slice A l.length c, .slice A2 f.length c2] 29)
  go_wp2_with fail
  refine (Concat_any (some ⟨w2.heap.size, 0, none⟩) 2 [(A, c, l), (A2, c2, f)] _ (Sl.lits w2 [pv (A, c, l), pv (A2, c2, f)] 29 (by simp [maxLen])) ?_ ?_).mono ?_
  · intro q hq
    simp only [List.mem_cons, List.not_mem_nil, or_false] at hq
    rcases hq with rfl | rfl
    · exact hs3.below hbn
    · exact hs2.below hbn
  · have := hfl.out; simp [partsOf]; omega
  rintro e w3 ⟨A3, c3, m3, rfl, hm3, ho3, hb3⟩
  go_wp2_with fail
  go_ret
  refine ⟨A3, c3, m3, rfl, (show _ = _ from by rw [hm3.out, ← hf.out]; simp [partsOf]), ho3.more ?_, ?_, (hB1.below hb2).trans (But.of_below (hbn.trans (hb3.mono hbn.size)) (Nat.le_refl _))⟩
  · exact Nat.le_trans hB1.size (Nat.le_trans hb2.size hbn.size)
  · exact ((hM1.below hb2).below hbn).below hb3

def opened (l : List UInt8) : List UInt8 × Nat := if l.length < 4 then ([], 2) else if four (sumW (l.take (l.length - 4))) = l.drop (l.length - 4) then (l.take (l.length - 4), 0) else ([], 11)
/-- what Opened answers -/
def OpensB (g n : Nat) (w0 : World) (o : List UInt8 × Nat) (e : Ending) (w' : World) : Prop :=
  ∃ A c m, e = .returned (.tuple #[.slice A (List.length m) c, errv o.2]) ∧ Hid (m = o.1) ∧ OwnB w' w0.heap.size 5 A c m ∧ Mkr w' g ((n + 1 : Nat) : Int) ∧ But g w0 w'

set_option maxRecDepth 100000 in
set_option maxHeartbeats 1000000 in
theorem Opened_at (g n : Nat) (A : Option Addr) (c : Nat) (l : List UInt8) (w : World) (hM : Mkr w g n) (hn : n < 1000000000) (hs : SlB w A c l) (hA : l ≠ [] → A.map (·.block) ≠ some g) (hl : l.length ≤ 100000000) :
    Calls Tryz.prog 177 #[.pointer (some ⟨g, 0, none⟩), .slice A l.length c] w (OpensB g n w (opened l)) := by
  have hc1 := hs.2.1
  have hc2 := hs.2.2.1
  unfold maxLen at hc2
  by_cases h4 : l.length < 4
  · have ho := Lib.hid (show opened l = ([], 2) from by unfold opened; rw [if_pos h4])
    go_enter Tryz.func177, Tryz.ntmps177
    go_wp2_with fail
    refine (ask_at g n _ hM hn).mono ?_
    rintro e w1 ⟨rfl, hM1, hB1⟩
    go_wp2_with fail
    go_ret2
    exact ⟨none, 0, [], by rw [ho.out]; rfl, by rw [ho.out]; rfl, Own.none_ _ _ _ _, hM1, hB1⟩
  · obtain ⟨k, hk⟩ : ∃ k, k = l.length - 4 := ⟨_, rfl⟩
    have hki : (l.length : Int) - 4 = (k : Int) := by omega
    have hkn : ¬ ((k : Int) < 0) := by omega
    have hck : ¬ (c = k) := by omega
    have hkc : k ≤ c := by omega
    have hkl : k ≤ l.length := by omega
    have hm := Lib.hid (show opened l = if four (sumW (l.take k)) = l.drop k then (l.take k, 0) else ([], 11) from by unfold opened; rw [if_neg h4, hk])
    have hT := Sl.takeB hs k
    have hD := Sl.cutB hs hkl
    rw [if_neg hck] at hD
    have htl : (l.take k).length = k := by simp; omega
    have hdl' : (l.drop k).length = l.length - k := by simp
    have hdl : (l.drop k).length = 4 := by simp; omega
    clear hk
    have hAk : l.take k ≠ [] → A.map (·.block) ≠ some g := fun h => hA (fun e => h (by rw [e]; simp))
    have hAd : l.drop k ≠ [] → (Option.map (fun x => x.add k) A).map (·.block) ≠ some g := by
      intro h
      have := hA (fun e => h (by rw [e]; simp))
      cases A with
      | none => simp
      | some a => simpa [addr_add_block] using this
    rw [← hdl'] at hD
    generalize hl1 : l.take k = l1 at *
    generalize hl2 : l.drop k = l2 at *
    clear hl1 hl2
    subst htl
    have hsub : l.length - l1.length = l2.length := hdl'.symm
    have hd4 := Lib.hid hdl
    clear hdl hdl'
    go_enter Tryz.func177, Tryz.ntmps177
    go_wp2_with fail
    go_cut [25] (fun s25 wx => s25 = .bool (!decide (four (sumW l1) = l2)) ∧ Mkr wx g ((n + 1 : Nat) : Int) ∧ But g w wx)
    case first =>
      refine wp_region_held_drew (S := (fun _ => True)) (by kernel_rfl) ?_ (fun hHeld => ?_)
      · first | done | trivial
      refine wpAnyH_take (i := 0) (oi := ⟨some 15, _, _, _, _, _⟩) (v := ?_) rfl (by kernel_rfl) (by kernel_rfl) (by kernel_rfl) (fun _ _ _ h => h) (Or.inl ⟨by kernel_rfl, ?_⟩) (by assumption) ?_
      rotate_left
      · (intro wS hSw; (try dsimp only at hSw); go_simp; (try with_reducible rfl))
      (try simp only [Act.put, List.setIfInBounds_toArray, List.set_cons_zero, List.set_cons_succ])
      refine wpAnyH_take (i := 1) (oi := ⟨some 16, _, _, _, _, _⟩) (v := ?_) rfl (by kernel_rfl) (by kernel_rfl) (by kernel_rfl) (fun _ _ _ h => h) (Or.inl ⟨by kernel_rfl, ?_⟩) (by assumption) ?_
      rotate_left
      · (intro wS hSw; (try dsimp only at hSw); go_simp; (try with_reducible rfl))
      (try simp only [Act.put, List.setIfInBounds_toArray, List.set_cons_zero, List.set_cons_succ])
      refine wpAnyH_take (i := 2) (oi := ⟨some 17, _, _, _, _, _⟩) (v := ?_) rfl (by kernel_rfl) (by kernel_rfl) (by kernel_rfl) (fun _ _ _ h => h) (Or.inl ⟨by kernel_rfl, ?_⟩) (by assumption) ?_
      rotate_left
      · (intro wS hSw; (try dsimp only at hSw); go_simp; (try with_reducible rfl))
      (try simp only [Act.put, List.setIfInBounds_toArray, List.set_cons_zero, List.set_cons_succ])
      refine wpAnyH_take (i := 3) (oi := ⟨some 18, _, _, _, _, _⟩) (v := ?_) rfl (by kernel_rfl) (by kernel_rfl) (by kernel_rfl) (fun _ _ _ h => h) (Or.inl ⟨by kernel_rfl, ?_⟩) (by assumption) ?_
      rotate_left
      · (intro wS hSw; (try dsimp only at hSw); go_simp; (try with_reducible rfl))
      (try simp only [Act.put, List.setIfInBounds_toArray, List.set_cons_zero, List.set_cons_succ])
      refine wpAnyH_take (i := 6) (oi := ⟨some 21, _, _, _, _, _⟩) (v := ?_) rfl (by kernel_rfl) (by kernel_rfl) (by kernel_rfl) (fun _ _ _ h => h) (Or.inl ⟨by kernel_rfl, ?_⟩) (by assumption) ?_
      rotate_left
      · (intro wS hSw; (try dsimp only at hSw); go_simp; (try with_reducible rfl))
      (try simp only [Act.put, List.setIfInBounds_toArray, List.set_cons_zero, List.set_cons_succ])
      refine wpAnyH_take (i := 7) (oi := ⟨some 22, _, _, _, _, _⟩) (v := ?_) rfl (by kernel_rfl) (by kernel_rfl) (by kernel_rfl) (fun _ _ _ h => h) (Or.inl ⟨by kernel_rfl, ?_⟩) (by assumption) ?_
      rotate_left
      · (intro wS hSw; (try dsimp only at hSw); go_simp; (try with_reducible rfl))
      (try simp only [Act.put, List.setIfInBounds_toArray, List.set_cons_zero, List.set_cons_succ])
      refine wpAnyH_take (i := 8) (oi := ⟨some 23, _, _, _, _, _⟩) (v := ?_) rfl (by kernel_rfl) (by kernel_rfl) (by kernel_rfl) (fun _ _ _ h => h) (Or.inl ⟨by kernel_rfl, ?_⟩) (by assumption) ?_
      rotate_left
      · (intro wS hSw; (try dsimp only at hSw); go_simp; (try with_reducible rfl))
      (try simp only [Act.put, List.setIfInBounds_toArray, List.set_cons_zero, List.set_cons_succ])
      refine wpAnyH_ready (rs := [4]) (by kernel_rfl) (by simp) ?_
      refine AllReadyH.cons (o := ⟨some 19, _, _, _, _, _⟩) rfl (fun K hK => ?_) AllReadyH.nil
      go_simp
      (refine (Sum_at g n A c l1 _ hM.drew hn hT hAk (by omega)).mono ?_; rintro e w2 ⟨rfl, hM2, hB2⟩; replace hB2 := But.of_drew hB2)
      go_wp2_with fail
      refine hK.out _ _ ?_ (fun hHeld => ?_)
      · ((try dsimp only); (first | done | trivial))
      clear hK K
      (try simp only [Act.put, List.setIfInBounds_toArray, List.set_cons_zero, List.set_cons_succ])
      refine wpAnyH_ready (rs := [5]) (by kernel_rfl) (by simp) ?_
      refine AllReadyH.cons (o := ⟨some 20, _, _, _, _, _⟩) rfl (fun K hK => ?_) AllReadyH.nil
      go_simp
      (refine (four_any (sumW l1) _).mono ?_; rintro e w3 ⟨A3, c3, f, rfl, hf, hs3, hb3⟩)
      go_wp2_with fail
      refine hK.out _ _ ?_ (fun hHeld => ?_)
      · ((try dsimp only); (first | done | trivial))
      clear hK K
      (try simp only [Act.put, List.setIfInBounds_toArray, List.set_cons_zero, List.set_cons_succ])
      refine wpAnyH_ready (rs := [9]) (by kernel_rfl) (by simp) ?_
      refine AllReadyH.cons (o := ⟨some 24, _, _, _, _, _⟩) rfl (fun K hK => ?_) AllReadyH.nil
      go_simp
      (with_reducible refine (Equal_any A3 c3 f (Option.map (fun x => x.add l1.length) A) (c - l1.length) l2 _ hs3 ((SlB.but hD hB2 hAd).below hb3)).mono ?_; rintro e w4 ⟨rfl, hb4⟩)
      go_wp2_with fail
      refine hK.out _ _ ?_ (fun hHeld => ?_)
      · ((try dsimp only); (first | done | trivial))
      clear hK K
      (try simp only [Act.put, List.setIfInBounds_toArray, List.set_cons_zero, List.set_cons_succ])
      refine wpAnyH_take (i := 10) (oi := ⟨some 25, _, _, _, _, _⟩) (v := ?_) rfl (by kernel_rfl) (by kernel_rfl) (by kernel_rfl) (fun _ _ _ h => h) (Or.inl ⟨by kernel_rfl, ?_⟩) (by assumption) ?_
      rotate_left
      · (intro wS hSw; (try dsimp only at hSw); go_simp; (try with_reducible rfl))
      (try simp only [Act.put, List.setIfInBounds_toArray, List.set_cons_zero, List.set_cons_succ])
      refine wpAnyH_done (by kernel_rfl) ?_ _
      go_wp2_with fail
      go_meet
      exact ⟨by rw [hf.out], (hM2.below hb3).below hb4, (hB2.below hb3).below hb4⟩
    case rest =>
      obtain ⟨rfl, hM2, hB2⟩ := hcut
      by_cases he : four (sumW l1) = l2
      · have hm2 := Lib.hid (show opened l = (l1, 0) from by rw [hm.out, if_pos he])
        have hd : decide (four (sumW l1) = l2) = true := decide_eq_true he
        rw [hd]
        clear he hd hm
        have hT2 := SlB.but hT hB2 hAk
        go_wp2_with fail
        refine (clone_any A c l1 _ (by omega) hT2).mono ?_
        rintro e w5 ⟨A5, c5, m5, rfl, hm5, ho5, hb5⟩
        go_wp2_with fail
        go_ret2
        exact ⟨A5, c5, m5, by rw [hm2.out]; rfl, by rw [hm2.out]; exact hm5, ho5.more hB2.size, hM2.below hb5, hB2.below hb5⟩
      · have hm2 := Lib.hid (show opened l = ([], 11) from by rw [hm.out, if_neg he])
        have hd : decide (four (sumW l1) = l2) = false := decide_eq_false he
        rw [hd]
        clear he hd hm
        go_wp2_with fail
        go_ret2
        exact ⟨none, 0, [], by rw [hm2.out]; rfl, by rw [hm2.out]; rfl, Own.none_ _ _ _ _, hM2, hB2⟩
end Go.Proofs.YtabnndjdkjkciaaGreatDoor

namespace Go.Proofs.YtabnndjdkjkciaaGreatDoor
open Go.RowKit

def txb (t : List UInt8) : List UInt8 := vb t.length ++ t
/-- a text's frame -/
def frm (t : List UInt8) : List UInt8 := txb t ++ four (sumW (txb t))
/-- the text, the frame's bytes, an error's number, of the frame that bytes begin with -/
def ftake (l : List UInt8) : List UInt8 × Nat × Nat :=
  match take l with
  | none => ([], 0, 2)
  | some (n, h) => if 65536 < n then ([], 0, 3) else if l.length < h + n + 4 then ([], 0, 2)
    else if four (sumW (l.take (h + n))) = (l.drop (h + n)).take 4 then ((l.take (h + n)).drop h, h + n + 4, 0) else ([], 0, 11)
theorem frm_len (t : List UInt8) : (frm t).length = (vb t.length).length + t.length + 4 := by
  unfold frm txb; simp [four_len]; omega
theorem opened_take {l : List UInt8} {k : Nat} (h : k + 4 ≤ l.length) : opened (l.take (k + 4)) = if four (sumW (l.take k)) = (l.drop k).take 4 then (l.take k, 0) else ([], 11) := by
  have h1 : (l.take (k + 4)).length = k + 4 := by simp; omega
  unfold opened
  rw [if_neg (by omega), h1, Nat.add_sub_cancel, List.take_take, Nat.min_eq_left (by omega), List.drop_take]
  simp
theorem ftake_frm (t l : List UInt8) (h : t.length ≤ 65536) : ftake (frm t ++ l) = (t, (frm t).length, 0) := by
  have hv : take (frm t ++ l) = some (t.length, (vb t.length).length) := by
    unfold frm txb
    rw [List.append_assoc, List.append_assoc]
    exact take_vb (by unfold U64; omega) _
  have e1 : (frm t ++ l).take ((vb t.length).length + t.length) = txb t := by
    unfold frm
    rw [List.append_assoc, List.take_left' (by unfold txb; simp)]
  have e2 : ((frm t ++ l).drop ((vb t.length).length + t.length)).take 4 = four (sumW (txb t)) := by
    unfold frm
    rw [List.append_assoc, List.drop_left' (by unfold txb; simp), List.take_left' (four_len _)]
  have e3 : (txb t).drop (vb t.length).length = t := by unfold txb; rw [List.drop_left]
  unfold ftake
  rw [hv]
  dsimp only
  rw [if_neg (by omega), if_neg (by rw [List.length_append, frm_len]; omega), e1, e2, if_pos rfl, e3, frm_len]
end Go.Proofs.YtabnndjdkjkciaaGreatDoor

namespace Go.Proofs.YtabnndjdkjkciaaGreatDoor
open Go.RowKit
attribute [local go_sem ↓] Go.wp_at_zero Go.wp_at_succ

theorem Own.ne {W : World} {base g n c size : Nat} {e : TypeId} {A : Option Addr} {xs : List Value} (h : Own W base e size A n c xs) (hg : g < base) : A.map (·.block) ≠ some g := by
  intro hA
  have := h.lt g hA
  omega
theorem Opened_len (g n : Nat) (A : Option Addr) (c k : Nat) (l : List UInt8) (w : World) (hk : k = l.length) (hM : Mkr w g n) (hn : n < 1000000000) (hs : SlB w A c l) (hA : l ≠ [] → A.map (·.block) ≠ some g) (hl : l.length ≤ 100000000) :
    Calls Tryz.prog 177 #[.pointer (some ⟨g, 0, none⟩), .slice A k c] w (OpensB g n w (opened l)) := by
  subst hk; exact Opened_at g n A c l w hM hn hs hA hl
end Go.Proofs.YtabnndjdkjkciaaGreatDoor
