/- WHAT IT HOLDS: a disk in memory; what it looks at, counts, and is told, walked. -/
import Derived.Test.YtddmfoldnlafaaaGreatDoorRegisterAloneG12
namespace Go.Proofs.YtddmfoldnlafaaaGreatDoor
open Go.RowKit Go.Maps Go.Sort
attribute [local go_sem ↓] Go.wp_at_zero Go.wp_at_succ

/-- where a disk lies: its struct, its two maps, its row of changes -/
structure Fp where
  g : Nat
  bs : Nat
  bm : Nat
  A : Option Addr
  c : Nat
def Fp.M (q : Fp) (i : Nat) : Prop := i = q.g ∨ i = q.bs ∨ i = q.bm ∨ q.A.map (·.block) = some i
def dka (q : Fp) (d : Dk Sv) : Array Value := #[.int .i64 d.room, .map (some q.bs), .map (some q.bm), .slice q.A d.pend.length q.c, .int .i64 d.fuse, .bool d.down]
/-- the slices of bytes that a disk leads to -/
def svs (d : Dk Sv) : List Sv := d.sure.map (·.2) ++ d.pend.map (·.val)
/-- the blocks that a disk hangs on -/
def Tc (q : Fp) (d : Dk Sv) (i : Nat) : Prop := q.M i ∨ ∃ s ∈ svs d, s.l ≠ [] ∧ s.A.map (·.block) = some i
structure Dsk (w : World) (q : Fp) (d : Dk Sv) : Prop where
  blk : Blk w q.g 114 (dka q d)
  sure : OmD w q.bs d.sure
  shown : OmD w q.bm d.shown
  pend : Own w 0 143 4 q.A d.pend.length q.c (d.pend.flatMap chl)
  ne : q.bs ≠ q.bm
  rd : ∀ s ∈ svs d, SlB w s.A s.c s.l
  ap : ∀ s ∈ svs d, s.l ≠ [] → ∀ ad, s.A = some ad → ¬ q.M ad.block
  ris : Ris d.sure
  len : ∀ s ∈ svs d, s.l.length ≤ 65536
  nm : (∀ p ∈ d.sure, p.1.length ≤ 24) ∧ ∀ x ∈ d.pend, x.name.length ≤ 24 ∧ x.to.length ≤ 24
/-- nothing but the disk's own blocks has turned -/
structure Frd (q : Fp) (w w' : World) : Prop where
  os : w'.os = w.os
  tape : w'.tape = w.tape
  output : w'.output = w.output
  size : w.heap.size ≤ w'.heap.size
  block : ∀ i, i < w.heap.size → ¬ q.M i → w'.heap[i]? = w.heap[i]?
/-- what an act leaves -/
def Dgo (w : World) (q : Fp) (d d' : Dk Sv) (w' : World) : Prop := ∃ q', q'.g = q.g ∧ Dsk w' q' d' ∧ Frd q w w' ∧ (∀ i, q'.M i → q.M i ∨ w.heap.size ≤ i) ∧ ∀ i, Tc q' d' i → Tc q d i ∨ w.heap.size ≤ i
section
variable {w w' : World} {q : Fp} {d d' : Dk Sv}
theorem Dsk.neg (h : Dsk w q d) : q.bs ≠ q.g ∧ q.bm ≠ q.g := by
  have h1 := h.blk
  obtain ⟨es, cl, hb, _⟩ := h.sure
  obtain ⟨es2, cl2, hb2, _⟩ := h.shown
  constructor
  · intro e
    rw [e] at hb
    rw [show w.heap[q.g]? = _ from h1] at hb
    cases hb
  · intro e
    rw [e] at hb2
    rw [show w.heap[q.g]? = _ from h1] at hb2
    cases hb2
theorem Dsk.negA (h : Dsk w q d) {k : Nat} (hk : q.A.map (·.block) = some k) : k ≠ q.g ∧ k ≠ q.bs ∧ k ≠ q.bm := by
  obtain ⟨es, cl, hb, _⟩ := h.sure
  obtain ⟨es2, cl2, hb2, _⟩ := h.shown
  have h1 := h.blk
  rcases h.pend.2 with ⟨hv, _⟩ | ⟨g1, _, cur, hv, _, hh, _⟩
  · injection hv with hA
    rw [hA] at hk
    cases hk
  · injection hv with hA
    rw [hA] at hk
    injection hk with hk
    dsimp only at hk
    subst hk
    refine ⟨fun e => ?_, fun e => ?_, fun e => ?_⟩
    · rw [e, show w.heap[q.g]? = _ from h1] at hh
      injection hh with hh
      injection hh with _ hh _
      revert hh
      decide
    · rw [e, hb] at hh; cases hh
    · rw [e, hb2] at hh; cases hh
theorem Dsk.ltM (h : Dsk w q d) {i : Nat} (hi : q.M i) : i < w.heap.size := by
  rcases hi with rfl | rfl | rfl | hi
  · exact h.blk.lt
  · exact h.sure.lt
  · exact h.shown.lt
  · exact (Own.lt h.pend i hi).2
theorem Dsk.lt (h : Dsk w q d) {i : Nat} (hi : Tc q d i) : i < w.heap.size := by
  rcases hi with hi | ⟨s, hs, hne, hA⟩
  · exact h.ltM hi
  · obtain ⟨A, c, l⟩ := s
    dsimp only at hne hA
    cases A with
    | none => cases hA
    | some ad =>
      injection hA with hA
      subst hA
      have hl : 0 < l.length := List.length_pos_iff.2 hne
      obtain ⟨ad', e, hc⟩ := Sl.at1 (f := bv) (l := l) (h.rd _ hs) (k := 0) hl
      injection e with e
      subst e
      have := World.block_lt_of_cell? _ _ hc
      rwa [addr_add_block] at this
theorem SlB.sameB {A : Option Addr} {c : Nat} {l : Bs} (h : SlB w A c l) (hs : l ≠ [] → ∀ ad, A = some ad → w'.heap[ad.block]? = w.heap[ad.block]?) : SlB w' A c l :=
  ⟨h.1, h.2.1, h.2.2.1, h.2.2.2.1, fun j u hj => by
    obtain ⟨ad, hA, hc⟩ := h.2.2.2.2 j u hj
    have hne : l ≠ [] := by rintro e; rw [e] at hj; simp at hj
    refine ⟨ad, hA, ?_⟩
    rw [← hc]
    unfold World.cell?
    rw [addr_add_block, hs hne ad hA]⟩
theorem Dsk.frame (h : Dsk w q d) (hf : ∀ i, Tc q d i → w'.heap[i]? = w.heap[i]?) : Dsk w' q d where
  blk := (hf _ (.inl (.inl rfl))).trans h.blk
  sure := h.sure.same (hf _ (.inl (.inr (.inl rfl))))
  shown := h.shown.same (hf _ (.inl (.inr (.inr (.inl rfl)))))
  pend := by
    obtain ⟨h1, h2⟩ := h.pend
    refine ⟨h1, ?_⟩
    rcases h2 with h2 | ⟨g1, cap, cur, hv, hb, hh, r⟩
    · exact .inl h2
    · refine .inr ⟨g1, cap, cur, hv, hb, ?_, r⟩
      injection hv with hA
      exact (hf g1 (.inl (.inr (.inr (.inr (by rw [hA]; rfl)))))).trans hh
  ne := h.ne
  rd := fun s hs => SlB.sameB (h.rd s hs) fun hne ad hA => hf _ (.inr ⟨s, hs, hne, by rw [hA]; rfl⟩)
  ap := h.ap
  ris := h.ris
  len := h.len
  nm := h.nm
theorem Dsk.below (h : Dsk w q d) (hb : Below w.heap.size w w') : Dsk w' q d := h.frame fun i hi => hb.block i (h.lt hi)
theorem Frd.of_below (hb : Below w.heap.size w w') : Frd q w w' := ⟨hb.os, hb.tape, hb.output, hb.size, fun i hi _ => hb.block i hi⟩
theorem Frd.of_wr {k : Nat} (hk : q.M k) (hb : Wr w w' k) : Frd q w w' := ⟨hb.os, hb.tape, hb.output, hb.size, fun i hi hn => hb.block i hi (fun e => by injection e with e; exact hn (e ▸ hk))⟩
theorem Frd.trans {w2 : World} {q2 : Fp} (h : Frd q w w') (k : Frd q2 w' w2) (hq : ∀ i, q2.M i → q.M i ∨ w.heap.size ≤ i) : Frd q w w2 :=
  ⟨k.os.trans h.os, k.tape.trans h.tape, k.output.trans h.output, Nat.le_trans h.size k.size, fun i hi hn => (k.block i (Nat.lt_of_lt_of_le hi h.size) (fun e => by
    rcases hq i e with h1 | h1
    · exact hn h1
    · omega)).trans (h.block i hi hn)⟩
/-- the struct alone turns -/
theorem Dsk.turn (h : Dsk w q d) (hB : Blk w' q.g 114 (dka q d')) (hw : Wr w w' q.g) (h1 : d'.sure = d.sure) (h2 : d'.pend = d.pend) : Dsk w' q d' := by
  have hsv : svs d' = svs d := by unfold svs; rw [h1, h2]
  have hn := h.neg
  refine ⟨hB, ?_, ?_, ?_, h.ne, ?_, ?_, ?_, ?_, ?_⟩
  · rw [h1]; exact OmD.wr h.sure hw hn.1
  · have : d'.shown = d.shown := by unfold Dk.shown; rw [h1, h2]
    rw [this]; exact OmD.wr h.shown hw hn.2
  · rw [h2]
    exact World.ownsRow.kept h.pend hw (.inr fun e => (h.negA (by rw [← ownBlock_slice]; exact e)).1 rfl)
  · rw [hsv]
    intro s hs
    refine SlB.sameB (h.rd s hs) fun hne ad hA => hw.block _ ?_ fun e => h.ap s hs hne ad hA (.inl (by injection e))
    exact h.lt (.inr ⟨s, hs, hne, by rw [hA]; rfl⟩)
  · rw [hsv]; exact h.ap
  · rw [h1]; exact h.ris
  · rw [hsv]; exact h.len
  · rw [h1, h2]; exact h.nm
theorem Tc.same (h1 : d'.sure = d.sure) (h2 : d'.pend = d.pend) {i : Nat} (h : Tc q d' i) : Tc q d i := by
  unfold Tc svs at *
  rw [h1, h2] at h
  exact h
theorem Dsk.six (h : Dsk w q d) : w.cell? ⟨q.g, 0, none⟩ = some (.int .i64 d.room) ∧ w.cell? ⟨q.g, 1, none⟩ = some (.map (some q.bs)) ∧ w.cell? ⟨q.g, 2, none⟩ = some (.map (some q.bm)) ∧ w.cell? ⟨q.g, 3, none⟩ = some (.slice q.A d.pend.length q.c) ∧ w.cell? ⟨q.g, 4, none⟩ = some (.int .i64 d.fuse) ∧ w.cell? ⟨q.g, 5, none⟩ = some (.bool d.down) ∧
    w.frozen? ⟨q.g, 1, none⟩ = false ∧ w.frozen? ⟨q.g, 2, none⟩ = false ∧ w.frozen? ⟨q.g, 3, none⟩ = false ∧ w.frozen? ⟨q.g, 4, none⟩ = false ∧ w.frozen? ⟨q.g, 5, none⟩ = false :=
  ⟨h.blk.cell 0, h.blk.cell 1, h.blk.cell 2, h.blk.cell 3, h.blk.cell 4, h.blk.cell 5, h.blk.frozen 1, h.blk.frozen 2, h.blk.frozen 3, h.blk.frozen 4, h.blk.frozen 5⟩
end
set_option maxRecDepth 100000 in
set_option maxHeartbeats 400000 in
theorem Looks_any {w : World} {q : Fp} {d : Dk Sv} (h : Dsk w q d) : Calls Tryz.prog 103 #[.pointer (some ⟨q.g, 0, none⟩)] w fun e w' => e = .returned (errv (if d.down = true then 14 else 0)) ∧ w' = w := by
  obtain ⟨a0, a1, a2, a3, a4, a5, -⟩ := h.six
  obtain ⟨room, sure, pend, fuse, down⟩ := d
  dsimp only at a0 a1 a2 a3 a4 a5 ⊢
  clear h
  cases down
  · go_enter Tryz.func103, Tryz.ntmps103
    go_wp2_with fail
    go_ret
    exact ⟨rfl, rfl⟩
  · go_enter Tryz.func103, Tryz.ntmps103
    go_wp2_with fail
    go_ret
    exact ⟨rfl, rfl⟩
set_option maxRecDepth 100000 in
set_option maxHeartbeats 400000 in
theorem Works_any {w : World} {q : Fp} {d : Dk Sv} (h : Dsk w q d) (hf : -1 ≤ d.fuse ∧ d.fuse ≤ 9223372036854775807) : Calls Tryz.prog 107 #[.pointer (some ⟨q.g, 0, none⟩)] w fun e w' => e = .returned (errv (dWorks d).2) ∧ Dsk w' q (dWorks d).1 ∧ Wr w w' q.g := by
  have hL := Looks_any h
  have H := Lib.hid h
  obtain ⟨a0, a1, a2, a3, a4, a5, af1, af2, af3, af4, af5⟩ := h.six
  obtain ⟨room, sure, pend, fuse, down⟩ := d
  dsimp only at a0 a1 a2 a3 a4 a5 hL hf ⊢
  clear h
  cases down
  case true =>
    have HW := Lib.hid (show dWorks (⟨room, sure, pend, fuse, true⟩ : Dk Sv) = (⟨room, sure, pend, fuse, true⟩, 14) from rfl)
    rw [if_pos rfl, show errv 14 = Value.iface 79 (.int .i64 14) from rfl] at hL
    have HL := Lib.hid hL
    clear hL
    go_enter Tryz.func107, Tryz.ntmps107
    go_wp2_with fail
    refine HL.out.mono ?_
    rintro e w2 ⟨rfl, rfl⟩
    go_wp2_with fail
    go_ret
    exact ⟨by rw [HW.out]; rfl, by rw [HW.out]; exact H.out, Wr.refl _ _⟩
  case false =>
    rw [if_neg (by simp), show errv 0 = Value.nilIface from rfl] at hL
    have HL := Lib.hid hL
    clear hL
    rcases Decidable.em (fuse = 0) with h0 | h0
    · have hb : (fuse == 0) = true := by simp [h0]
      have HW := Lib.hid (show dWorks (⟨room, sure, pend, fuse, false⟩ : Dk Sv) = (⟨room, sure, pend, fuse, true⟩, 14) from by unfold dWorks; simp [h0])
      clear h0 hf
      go_enter Tryz.func107, Tryz.ntmps107
      go_wp2_with fail
      refine HL.out.mono ?_
      rintro e w2 ⟨rfl, rfl⟩
      go_wp2_with fail
      go_ret
      have hT := H.out.turn (d' := ⟨room, sure, pend, fuse, true⟩) (H.out.blk.set_ 5 (.bool true)) ((Wr.refl _ _).set_ 5 (.bool true)) rfl rfl
      exact ⟨by rw [HW.out]; rfl, by rw [HW.out]; exact hT, (Wr.refl _ _).set_ 5 (.bool true)⟩
    · have hb : (fuse == 0) = false := by simpa using h0
      rcases Decidable.em (0 < fuse) with h1 | h1
      · have HW := Lib.hid (show dWorks (⟨room, sure, pend, fuse, false⟩ : Dk Sv) = (⟨room, sure, pend, fuse - 1, false⟩, 0) from by unfold dWorks; simp [h0, h1])
        have hwr : wrap64 (fuse - 1) = fuse - 1 := by simp only [wrap64]; omega
        have hwr2 : IntKind.i64.wrap (fuse - 1) = fuse - 1 := by rw [IntKind.wrap_i64]; omega
        clear h0 hf
        go_enter Tryz.func107, Tryz.ntmps107
        go_wp2_with fail
        refine HL.out.mono ?_
        rintro e w2 ⟨rfl, rfl⟩
        go_wp2_with fail
        go_ret
        have hT := H.out.turn (d' := ⟨room, sure, pend, fuse - 1, false⟩) (H.out.blk.set_ 4 (.int .i64 (fuse - 1))) ((Wr.refl _ _).set_ 4 (.int .i64 (fuse - 1))) rfl rfl
        exact ⟨by rw [HW.out]; rfl, by rw [HW.out]; exact hT, (Wr.refl _ _).set_ 4 (.int .i64 (fuse - 1))⟩
      · have HW := Lib.hid (show dWorks (⟨room, sure, pend, fuse, false⟩ : Dk Sv) = (⟨room, sure, pend, fuse, false⟩, 0) from by unfold dWorks; simp [h0, h1])
        clear h0 hf
        go_enter Tryz.func107, Tryz.ntmps107
        go_wp2_with fail
        refine HL.out.mono ?_
        rintro e w2 ⟨rfl, rfl⟩
        go_wp2_with fail
        go_ret
        exact ⟨by rw [HW.out]; rfl, by rw [HW.out]; exact H.out, Wr.refl _ _⟩
end Go.Proofs.YtddmfoldnlafaaaGreatDoor
