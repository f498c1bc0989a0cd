/- WHAT IT HOLDS: a store's acts and the maps of values, plainly: they go past one another. | WHAT IT HOLDS: while an act on a store and the document's is done: what lies where. -/
import Derived.Test.YtnndlmkcckgkhaaGreatDoorStorePlaysG12
import Derived.Test.YtnndlmkcckgkhaaGreatDoorStorePlaysG20
import Derived.Test.YtnndlmkcckgkhaaGreatDoorStorePlaysG23
import Derived.Test.YtnndlmkcckgkhaaGreatDoorStorePlaysG22
namespace Go.Proofs.YtnndlmkcckgkhaaGreatDoor

theorem andThen_map (r : Dk Sv × Nat) (f : Dk Sv → Dk Sv × Nat) (g : Dk Bs → Dk Bs × Nat) (h : ∀ d : Dk Sv, g (d.map Sv.l) = ((f d).1.map Sv.l, (f d).2)) : andThen (r.1.map Sv.l, r.2) g = ((andThen r f).1.map Sv.l, (andThen r f).2) := by
  unfold andThen
  by_cases h0 : r.2 ≠ 0
  · rw [if_pos h0, if_pos h0]
  · rw [if_neg h0, if_neg h0]
    exact h _
theorem sPut_map (d : Dk Sv) (n : Bs) (v : Sv) : sPut bln ([] : Bs) (d.map Sv.l) n v.l = ((sPut svl Sv.nil d n v).1.map Sv.l, (sPut svl Sv.nil d n v).2) := by
  unfold sPut
  by_cases h : snamed n = false
  · rw [if_pos h, if_pos h]
  · rw [if_neg h, if_neg h, dWrite_map]
    refine andThen_map _ _ _ fun d => ?_
    rw [dSync_map]
    refine andThen_map _ _ _ fun d => ?_
    rw [dRename_map]
    exact andThen_map _ _ _ dSync_map
theorem sDelete_map (d : Dk Sv) (n : Bs) : sDelete ([] : Bs) (d.map Sv.l) n = ((sDelete Sv.nil d n).1.map Sv.l, (sDelete Sv.nil d n).2) := by
  unfold sDelete
  by_cases h : snamed n = false
  · rw [if_pos h, if_pos h]
  · rw [if_neg h, if_neg h, dRemove_map]
    exact andThen_map _ _ _ dSync_map
theorem sSweep_map : ∀ (l : List Bs) (d : Dk Sv) (b : Bool), sSweep ([] : Bs) l (d.map Sv.l) b = ((sSweep Sv.nil l d b).1.map Sv.l, (sSweep Sv.nil l d b).2)
  | [], d, b => rfl
  | n :: r, d, b => by
    unfold sSweep
    by_cases hb : isBegun n = true
    · rw [if_pos hb, if_pos hb, dRemove_map]
      by_cases h0 : (dRemove Sv.nil d n).2 ≠ 0
      · rw [if_pos h0, if_pos h0]
      · rw [if_neg h0, if_neg h0]
        exact sSweep_map r _ true
    · rw [if_neg hb, if_neg hb]
      exact sSweep_map r d b
theorem dnames_map (d : Dk Sv) : names (d.map Sv.l).shown = names d.shown := by
  rw [shown_map]
  unfold names gmap
  rw [List.map_map]
  rfl
theorem sOpen_map (d : Dk Sv) : sOpen ([] : Bs) (d.map Sv.l) = ((sOpen Sv.nil d).1.map Sv.l, (sOpen Sv.nil d).2) := by
  unfold sOpen
  rw [dnames_map]
  by_cases hd : d.down = true
  · rw [if_pos hd, if_pos (show (d.map Sv.l).down = true from hd)]
  · rw [if_neg hd, if_neg (show ¬ (d.map Sv.l).down = true from hd), sSweep_map]
    by_cases h0 : (sSweep Sv.nil (names d.shown) d false).2.1 ≠ 0
    · rw [if_pos h0, if_pos h0]
    · rw [if_neg h0, if_neg h0]
      by_cases hb : (sSweep Sv.nil (names d.shown) d false).2.2 = true
      · rw [if_pos hb, if_pos hb, dSync_map]
      · rw [if_neg hb, if_neg hb]
theorem sList_map (d : Dk Sv) (b : Bs) : sList (d.map Sv.l) b = sList d b := by
  unfold sList
  rw [dnames_map]
  rfl
theorem sGet_map (d : Dk Sv) (n : Bs) : (sGet (d.map Sv.l) n).2 = (sGet d n).2 ∧ (sGet (d.map Sv.l) n).1 = (sGet d n).1.map Sv.l := by
  unfold sGet
  by_cases h : snamed n = false
  · rw [if_pos h, if_pos h]
    exact ⟨rfl, rfl⟩
  · rw [if_neg h, if_neg h]
    unfold dRead
    rw [shown_map, gget_map]
    by_cases hd : d.down = true
    · rw [if_pos hd, if_pos (show (d.map Sv.l).down = true from hd)]
      exact ⟨rfl, rfl⟩
    · rw [if_neg hd, if_neg (show ¬ (d.map Sv.l).down = true from hd)]
      cases gget n d.shown <;> exact ⟨rfl, rfl⟩
end Go.Proofs.YtnndlmkcckgkhaaGreatDoor

namespace Go.Proofs.YtnndlmkcckgkhaaGreatDoor
open Go.RowKit Go.Maps Go.Sort
attribute [local go_sem ↓] Go.wp_at_zero Go.wp_at_succ

def sacta (x : SA) : Array Value := #[.int .i64 x.k, .string ⟨x.n.toArray⟩, .slice x.A x.l.length x.c, .int .i64 x.d.k, .string ⟨x.d.n.toArray⟩, .string ⟨x.d.t.toArray⟩, .slice x.d.A x.d.l.length x.d.c, .int .i64 x.d.f, .slice x.d.B x.d.ks.length x.d.kc, .slice x.B x.ks.length x.kc]
/-- blocks apart from a disk's and from a call's own -/
def Yt (P : Nat → Prop) (w : World) (q : Fp) (i : Nat) : Prop := ¬ q.M i ∧ P i ∧ i ≠ w.heap.size ∧ i ≠ w.heap.size + 2
/-- while an act is done -/
structure SoS (P : Nat → Prop) (w W : World) (q0 q : Fp) (gs : Nat) (d : Dk Sv) (O : Option Addr) (co : Nat) (own : Bs) (m : Dk Bs) (A : Option Addr) (c : Nat) (B : Option Addr) (k : Nat) (x : SA) : Prop where
  st : StM W gs q d
  g : q.g = q0.g
  fr : Frd q0 w W
  M : ∀ i, q.M i → q0.M i ∨ w.heap.size ≤ i
  b0 : Blk W w.heap.size 79 (rda m A c B k)
  b1 : Blk W (w.heap.size + 1) 90 (sacta x)
  b2 : Blk W (w.heap.size + 2) 79 rdz
  own : OwnB W (w.heap.size + 3) 5 O co own
  aM : ¬ q.M w.heap.size ∧ ¬ q.M (w.heap.size + 1) ∧ ¬ q.M (w.heap.size + 2) ∧ ∀ i, O.map (·.block) = some i → ¬ q.M i
  gn : gs ≠ w.heap.size ∧ gs ≠ w.heap.size + 1 ∧ gs ≠ w.heap.size + 2
  R : Rdk (Yt P w q) W m A c B k
  up0 : ∀ i, w.heap.size ≤ i → P i
section
variable {P : Nat → Prop} {w W W' : World} {q0 q q' : Fp} {gs gs' : Nat} {d d' : Dk Sv} {O : Option Addr} {co : Nat} {own : Bs} {m m' : Dk Bs} {A A' B B' : Option Addr} {c c' k k' : Nat} {x : SA}
theorem SoS.call (h : SoS P w W q0 q gs d O co own m A c B k x) (hb : Below W.heap.size W W') : SoS P w W' q0 q gs d O co own m A c B k x :=
  ⟨h.st.below hb, h.g, ⟨hb.os.trans h.fr.os, hb.tape.trans h.fr.tape, hb.output.trans h.fr.output, Nat.le_trans h.fr.size hb.size, fun i hi hn => (hb.block i (Nat.lt_of_lt_of_le hi h.fr.size)).trans (h.fr.block i hi hn)⟩, h.M, h.b0.below hb, h.b1.below hb, h.b2.below hb, Own.below h.own hb, h.aM, h.gn, h.R.below hb, h.up0⟩
theorem SoS.up (h : SoS P w W q0 q gs d O co own m A c B k x) : ∀ i, W.heap.size ≤ i → Yt P w q i := fun i hi => by
  refine ⟨fun hq => ?_, h.up0 i (Nat.le_trans h.fr.size hi), ?_, ?_⟩
  · have := h.st.dsk.ltM hq
    omega
  · have := h.b0.lt
    omega
  · have := h.b2.lt
    omega
/-- the disk acts; the store stays -/
theorem SoS.act (h : SoS P w W q0 q gs d O co own m A c B k x) (hg : q'.g = q.g) (hD : Dsk W' q' d') (hF : Frd q W W') (hM : ∀ i, q'.M i → q.M i ∨ W.heap.size ≤ i) : SoS P w W' q0 q' gs d' O co own m A c B k x := by
  have hn : ∀ {i}, i < W.heap.size → ¬ q.M i → ¬ q'.M i := fun {i} hi hq h2 => by
    rcases hM i h2 with h3 | h3
    · exact hq h3
    · omega
  obtain ⟨a0, a1, a2, a3⟩ := h.aM
  have l0 := h.b0.lt
  have l1 := h.b1.lt
  have l2 := h.b2.lt
  refine ⟨h.st.act hg hD hF hM, hg.trans h.g, h.fr.trans hF h.M, fun i hi => ?_, (hF.block _ l0 a0).trans h.b0, (hF.block _ l1 a1).trans h.b1, (hF.block _ l2 a2).trans h.b2, ?_, ⟨hn l0 a0, hn l1 a1, hn l2 a2, fun i hi => hn (Own.lt h.own i hi).2 (a3 i hi)⟩, h.gn, ?_, h.up0⟩
  · rcases hM i hi with h1 | h1
    · exact h.M i h1
    · have := h.fr.size
      exact .inr (by omega)
  · exact Own.sameH h.own fun i hi => hF.block i (Own.lt h.own i hi).2 (a3 i hi)
  · exact h.R.sameH (fun i hi ht => ⟨hn hi ht.1, ht.2⟩) hF.size fun i hi ht => hF.block i hi ht.1
/-- another store on the same disk -/
theorem SoS.store (h : SoS P w W q0 q gs d O co own m A c B k x) (hS : StM W gs' q d) (hw : w.heap.size + 3 ≤ gs') : SoS P w W q0 q gs' d O co own m A c B k x :=
  ⟨hS, h.g, h.fr, h.M, h.b0, h.b1, h.b2, h.own, h.aM, ⟨by omega, by omega, by omega⟩, h.R, h.up0⟩
theorem Dsk.apart {w W' : World} {q : Fp} {d : Dk Sv} {b : Nat} {mm : Dk Bs} {A B : Option Addr} {c k : Nat} (h : Dsk w q d) (hB : Blk w b 79 (rda mm A c B k)) (hb : ¬ q.M b) (hw : ∀ i, i < w.heap.size → i ≠ b → W'.heap[i]? = w.heap[i]?) : Dsk W' q d := by
  refine h.frame fun j hj => hw j (h.lt hj) fun e => ?_
  rw [e] at hj
  rcases hj with hj | ⟨s, hs, hne, hA⟩
  · exact hb hj
  · exact byte_apart hB (h.rd s hs) hne hA
/-- the document's disk is set -/
theorem SoS.refW (h : SoS P w W q0 q gs d O co own m A c B k x) (hw : Wr W W' w.heap.size) (hB : Blk W' w.heap.size 79 (rda m' A' c' B' k')) (hR : Rdk (Yt P w q) W m' A' c' B' k') : SoS P w W' q0 q gs d O co own m' A' c' B' k' x := by
  have hne : ∀ i, i < W.heap.size → i ≠ w.heap.size → W'.heap[i]? = W.heap[i]? := fun i hi hne => hw.block i hi (fun e => hne (by injection e))
  refine ⟨⟨?_, h.st.blk.wr hw h.gn.1, h.st.ap⟩, h.g, ⟨hw.os.trans h.fr.os, hw.tape.trans h.fr.tape, hw.output.trans h.fr.output, Nat.le_trans h.fr.size hw.size, fun i hi hn => (hne i (Nat.lt_of_lt_of_le hi h.fr.size) (by omega)).trans (h.fr.block i hi hn)⟩, h.M, hB, h.b1.wr hw (by omega), h.b2.wr hw (by omega), ?_, h.aM, h.gn, ?_, h.up0⟩
  · exact h.st.dsk.apart h.b0 h.aM.1 hne
  · exact Own.sameH h.own fun i hi => hne i (Own.lt h.own i hi).2 (by have := (Own.lt h.own i hi).1; omega)
  · exact hR.sameH (fun _ _ ht => ht) hw.size fun i hi ht => hne i hi ht.2.2.1
theorem SoS.ref (h : SoS P w W q0 q gs d O co own m A c B k x) (hR : Rdk (Yt P w q) W m' A' c' B' k') : SoS P w (((((W.setCell ⟨w.heap.size, 0, none⟩ (.int .i64 m'.room)).setCell ⟨w.heap.size, 1, none⟩ (.slice A' m'.sure.length c')).setCell ⟨w.heap.size, 2, none⟩ (.slice B' m'.pend.length k')).setCell ⟨w.heap.size, 3, none⟩ (.int .i64 m'.fuse)).setCell ⟨w.heap.size, 4, none⟩ (.bool m'.down)) q0 q gs d O co own m' A' c' B' k' x :=
  h.refW ((((((Wr.refl _ _).set_ 0 _).set_ 1 _).set_ 2 _).set_ 3 _).set_ 4 _) (h.b0.st5 _ _ _ _ _) hR
/-- the result is laid -/
theorem SoS.out (h : SoS P w W q0 q gs d O co own m A c B k x) (hw : Wr W W' (w.heap.size + 2)) : StM W' gs q d ∧ Frd q0 w W' ∧ Rdk (fun i => ¬ q.M i ∧ P i) W' m A c B k := by
  have hne : ∀ i, i < W.heap.size → i ≠ w.heap.size + 2 → W'.heap[i]? = W.heap[i]? := fun i hi hne => hw.block i hi (fun e => hne (by injection e))
  exact ⟨⟨h.st.dsk.apart (mm := ⟨0, [], [], 0, false⟩) (A := none) (c := 0) (B := none) (k := 0) h.b2 h.aM.2.2.1 hne, h.st.blk.wr hw h.gn.2.2, h.st.ap⟩, ⟨hw.os.trans h.fr.os, hw.tape.trans h.fr.tape, hw.output.trans h.fr.output, Nat.le_trans h.fr.size hw.size, fun i hi hn => (hne i (Nat.lt_of_lt_of_le hi h.fr.size) (by omega)).trans (h.fr.block i hi hn)⟩, h.R.sameH (fun _ _ ht => ⟨ht.1, ht.2.1⟩) hw.size fun i hi ht => hne i hi ht.2.2.2⟩
end
/-- what an act leaves -/
def SoG (P : Nat → Prop) (w : World) (q0 : Fp) (gs0 : Nat) (d : Dk Sv) (e : Ending) (w' : World) : Prop := ∃ (q : Fp) (d' : Dk Sv) (gs : Nat) (A : Option Addr) (c : Nat) (B : Option Addr) (k : Nat), e = .returned (.tuple #[.pointer (some ⟨gs, 0, none⟩), .agg (rda (d'.map Sv.l) A c B k), .bool true]) ∧ q.g = q0.g ∧ StM w' gs q d' ∧ Fok d' ∧ Nmd d' ∧ Frd q0 w w' ∧ (∀ i, q.M i → q0.M i ∨ w.heap.size ≤ i) ∧ Rdk (fun i => ¬ q.M i ∧ P i) w' (d'.map Sv.l) A c B k ∧ d'.sure.length + d'.pend.length ≤ d.sure.length + d.pend.length + 4 ∧ (gs = gs0 ∨ w.heap.size ≤ gs)
theorem Nmd.mapD {d : Dk Sv} (h : Nmd d) : Nmd (d.map Sv.l) := by
  refine ⟨fun p hp => ?_, fun c hc => ?_⟩
  · obtain ⟨p0, h0, rfl⟩ := List.mem_map.1 hp
    exact h.1 p0 h0
  · obtain ⟨c0, h0, rfl⟩ := List.mem_map.1 hc
    exact h.2 c0 h0
theorem kind8 (k : Int) : (IntKind.u64.wrap k).tmod 8 = 0 ∨ (IntKind.u64.wrap k).tmod 8 = 1 ∨ (IntKind.u64.wrap k).tmod 8 = 2 ∨ (IntKind.u64.wrap k).tmod 8 = 3 ∨ (IntKind.u64.wrap k).tmod 8 = 4 ∨ (IntKind.u64.wrap k).tmod 8 = 5 ∨ (IntKind.u64.wrap k).tmod 8 = 6 ∨ (IntKind.u64.wrap k).tmod 8 = 7 := by
  have h : IntKind.u64.wrap k = k % 18446744073709551616 := rfl
  rw [h, Int.tmod_eq_emod_of_nonneg (by omega)]
  omega
end Go.Proofs.YtnndlmkcckgkhaaGreatDoor
