/- WHAT IT HOLDS: a register in memory; what opening, keeping, acquiring and giving up leave, plainly. | WHAT IT HOLDS: a register between two calls, plainly: what is kept is what is read when it is opened anew. | WHAT IT HOLDS: what is granted, or left behind by giving up, is a lease, plainly. | WHAT IT HOLDS: two owners, their clocks, and a register whose power goes: what stays true through any acts, plainly. -/
import Derived.Test.YtddmfoldnlafaaaGreatDoorRegisterAloneG26
import Derived.Test.YtddmfoldnlafaaaGreatDoorRegisterAloneG20
import Derived.Test.YtddmfoldnlafaaaGreatDoorRegisterAloneG27
import Derived.Test.YtddmfoldnlafaaaGreatDoorRegisterAloneG07
namespace Go.Proofs.YtddmfoldnlafaaaGreatDoor
open Go.RowKit Go.Maps Go.Sort

abbrev rgBad (sp bo : Int) : Prop := sp < 1 ∨ 1099511627776 < sp ∨ bo < 0 ∨ 1099511627776 < bo
/-- the lease that a disk's store holds -/
def rgRead (d : Dk Sv) : L3r × Nat :=
  if (sGet d lname).2 = 4 then ((0, 0, 0), 0)
  else if (sGet d lname).2 ≠ 0 then ((0, 0, 0), (sGet d lname).2)
  else (((ltake (((sGet d lname).1.map Sv.l).getD [])).1, (ltake (((sGet d lname).1.map Sv.l).getD [])).2.1, (ltake (((sGet d lname).1.map Sv.l).getD [])).2.2.1), (ltake (((sGet d lname).1.map Sv.l).getD [])).2.2.2)
/-- a lease kept: the disk then, an error's number -/
def rgKeep (d : Dk Sv) (x : L3r) (A : Option Addr) (c : Nat) : Dk Sv × Nat := if lck x ≠ 0 then (d, lck x) else sPut svl Sv.nil d lname ⟨A, c, lpt x⟩
abbrev rga (gs : Nat) (sp bo : Int) (L : L3r) (n : Int) : Array Value := #[.pointer (some ⟨gs, 0, none⟩), .int .i64 sp, .int .i64 bo, .int .i64 L.1, .int .i64 L.2.1, .int .i64 L.2.2, .int .i64 n]
/-- a register and its disk in memory -/
structure RgM (w : World) (gr gs : Nat) (q : Fp) (d : Dk Sv) (sp bo : Int) (L : L3r) (n : Int) : Prop where
  st : StM w gs q d
  blk : Blk w gr 153 (rga gs sp bo L n)
  ap : ¬ q.M gr
  ne : gr ≠ gs
/-- nothing but the disk's own blocks and one more has turned -/
structure Frg (q : Fp) (g : Nat) (w w' : World) : Prop where
  os : w'.os = w.os
  tape : w'.tape = w.tape
  output : w'.output = w.output
  size : w.heap.size ≤ w'.heap.size
  block : ∀ i, i < w.heap.size → ¬ q.M i → i ≠ g → w'.heap[i]? = w.heap[i]?
section
variable {w w' w2 : World} {gr gs : Nat} {q q' : Fp} {d d' : Dk Sv} {sp bo n m : Int} {L L' : L3r}
theorem RgM.below (h : RgM w gr gs q d sp bo L n) (hb : Below w.heap.size w w') : RgM w' gr gs q d sp bo L n := ⟨h.st.below hb, h.blk.below hb, h.ap, h.ne⟩
theorem RgM.act (h : RgM w gr gs q d sp bo L n) (hg : q'.g = q.g) (hD : Dsk w' q' d') (hF : Frd q w w') (hM : ∀ i, q'.M i → q.M i ∨ w.heap.size ≤ i) : RgM w' gr gs q' d' sp bo L n :=
  ⟨h.st.act hg hD hF hM, (hF.block gr h.blk.lt h.ap).trans h.blk, fun hq => by
    rcases hM gr hq with h1 | h1
    · exact h.ap h1
    · have := h.blk.lt
      omega, h.ne⟩
theorem Frg.of (g : Nat) (h : Frd q w w') : Frg q g w w' := ⟨h.os, h.tape, h.output, h.size, fun i hi hn _ => h.block i hi hn⟩
theorem Frg.of_below (g : Nat) (h : Below w.heap.size w w') : Frg q g w w' := Frg.of g (Frd.of_below h)
theorem Frg.trans {g : Nat} (h : Frg q g w w') (h2 : Frg q' g w' w2) (hM : ∀ i, q'.M i → q.M i ∨ w.heap.size ≤ i) : Frg q g w w2 :=
  ⟨h2.os.trans h.os, h2.tape.trans h.tape, h2.output.trans h.output, Nat.le_trans h.size h2.size, fun i hi hn hne => (h2.block i (Nat.lt_of_lt_of_le hi h.size) (fun hq => by
    rcases hM i hq with h1 | h1
    · exact hn h1
    · omega) hne).trans (h.block i hi hn hne)⟩
theorem Frg.wr {g : Nat} (h : Frg q g w w') (hw : Wr w' w2 g) : Frg q g w w2 :=
  ⟨hw.os.trans h.os, hw.tape.trans h.tape, hw.output.trans h.output, Nat.le_trans h.size hw.size, fun i hi hn hne => (hw.block i (Nat.lt_of_lt_of_le hi h.size) (fun e => hne (by injection e))).trans (h.block i hi hn hne)⟩
/-- cells of the register's block are set -/
theorem RgM.wr (h : RgM w gr gs q d sp bo L n) (hnb : ∀ s ∈ svs d, s.l ≠ [] → ∀ ad, s.A = some ad → ad.block ≠ gr) (hw : Wr w w' gr) (hB : Blk w' gr 153 (rga gs sp bo L' m)) : RgM w' gr gs q d sp bo L' m := by
  refine ⟨⟨?_, h.st.blk.wr hw (fun e => h.ne e.symm), h.st.ap⟩, hB, h.ap, h.ne⟩
  refine h.st.dsk.frame fun j hj => hw.block j (h.st.dsk.lt hj) fun e => ?_
  injection e with e
  rw [e] at hj
  rcases hj with hj | ⟨s, hs, hne, hA⟩
  · exact h.ap hj
  · cases hsA : s.A with
    | none => rw [hsA] at hA; cases hA
    | some ad =>
      rw [hsA] at hA
      injection hA with hA
      exact hnb s hs hne ad hsA hA
theorem rga_byte (gs : Nat) (sp bo : Int) (L : L3r) (n : Int) (o : Nat) (x : UInt8) : (rga gs sp bo L n)[o]? ≠ some (bv x) := by
  intro h
  match o with
  | 0 => simp [rga] at h
  | 1 => simp [rga] at h
  | 2 => simp [rga] at h
  | 3 => simp [rga] at h
  | 4 => simp [rga] at h
  | 5 => simp [rga] at h
  | 6 => simp [rga] at h
  | k + 7 => simp [rga] at h
/-- no value lies in the register's block -/
theorem RgM.off (h : RgM w gr gs q d sp bo L n) : ∀ s ∈ svs d, s.l ≠ [] → ∀ ad, s.A = some ad → ad.block ≠ gr := by
  intro s hs hne ad hA e
  have hS := h.st.dsk.rd s hs
  obtain ⟨ad2, hA2, hc⟩ := Sl.at1 (f := bv) (l := s.l) hS (k := 0) (List.length_pos_iff.2 hne)
  rw [hA] at hA2
  injection hA2 with hA2
  subst hA2
  have hsp := World.cell?_spot hc
  have hbl : (ad.add 0).block = gr := by rw [addr_add_block]; exact e
  have hq : ad.add 0 = ⟨gr, (ad.add 0).off, none⟩ := by
    cases h3 : ad.add 0 with
    | mk x y z => rw [h3] at hsp hbl; dsimp only at hsp hbl ⊢; rw [hbl, hsp]
  rw [hq, h.blk.cell] at hc
  exact rga_byte _ _ _ _ _ _ _ hc
theorem RgM.set (h : RgM w gr gs q d sp bo L n) (hw : Wr w w' gr) (hB : Blk w' gr 153 (rga gs sp bo L' m)) : RgM w' gr gs q d sp bo L' m := h.wr h.off hw hB
end
theorem Dsk.offB {w : World} {q : Fp} {d : Dk Sv} {b : Nat} {t : TypeId} {cs : Array Value} (h : Dsk w q d) (hB : Blk w b t cs) (hno : ∀ (o : Nat) (x : UInt8), cs[o]? ≠ some (bv x)) : ∀ s ∈ svs d, s.l ≠ [] → ∀ ad, s.A = some ad → ad.block ≠ b := by
  intro s hs hne ad hA e
  have hS := h.rd s hs
  obtain ⟨ad2, hA2, hc⟩ := Sl.at1 (f := bv) (l := s.l) hS (k := 0) (List.length_pos_iff.2 hne)
  rw [hA] at hA2
  injection hA2 with hA2
  subst hA2
  have hsp := World.cell?_spot hc
  have hbl : (ad.add 0).block = b := by rw [addr_add_block]; exact e
  have hq : ad.add 0 = ⟨b, (ad.add 0).off, none⟩ := by
    cases h3 : ad.add 0 with
    | mk x y z => rw [h3] at hsp hbl; dsimp only at hsp hbl ⊢; rw [hbl, hsp]
  rw [hq, hB.cell] at hc
  exact hno _ _ hc
theorem lease_nob {a b c : Int} (o : Nat) (x : UInt8) : (#[.int .i64 a, .int .i64 b, .int .i64 c] : Array Value)[o]? ≠ some (bv x) := by
  intro h
  match o with
  | 0 => simp at h
  | 1 => simp at h
  | 2 => simp at h
  | k + 3 => simp at h
/-- another block is set -/
theorem RgM.other {w w' : World} {gr gs b : Nat} {q : Fp} {d : Dk Sv} {sp bo n : Int} {L : L3r} {t : TypeId} {cs : Array Value} (h : RgM w gr gs q d sp bo L n) (hB : Blk w b t cs) (hno : ∀ (o : Nat) (x : UInt8), cs[o]? ≠ some (bv x)) (hq : ¬ q.M b) (hg : b ≠ gr) (hgs : b ≠ gs) (hw : Wr w w' b) : RgM w' gr gs q d sp bo L n := by
  refine ⟨⟨h.st.dsk.frame fun j hj => hw.block j (h.st.dsk.lt hj) fun e => ?_, h.st.blk.wr hw (fun e => hgs e.symm), h.st.ap⟩, h.blk.wr hw (fun e => hg e.symm), h.ap, h.ne⟩
  injection e with e
  rw [e] at hj
  rcases hj with hj | ⟨s, hs, hne, hA⟩
  · exact hq hj
  · cases hsA : s.A with
    | none => rw [hsA] at hA; cases hA
    | some ad =>
      rw [hsA] at hA
      injection hA with hA
      exact h.st.dsk.offB hB hno s hs hne ad hsA hA
theorem Frg.more {w w' w2 : World} {q : Fp} {g b : Nat} (h : Frg q g w w') (hw : Wr w' w2 b) (hb : w.heap.size ≤ b) : Frg q g w w2 :=
  ⟨hw.os.trans h.os, hw.tape.trans h.tape, hw.output.trans h.output, Nat.le_trans h.size hw.size, fun i hi hn hne => (hw.block i (Nat.lt_of_lt_of_le hi h.size) (fun e => by injection e with e; omega)).trans (h.block i hi hn hne)⟩
theorem Fro.frg {w W W' : World} {q q' : Fp} {gr : Nat} (h : Fro w W q) (hF : Frg q gr W W') (hM : ∀ i, q'.M i → q.M i ∨ W.heap.size ≤ i) (hgr : w.heap.size ≤ gr) : Fro w W' q' :=
  ⟨⟨hF.os.trans h.1.os, hF.tape.trans h.1.tape, hF.output.trans h.1.output, Nat.le_trans h.1.size hF.size, fun i hi => (hF.block i (Nat.lt_of_lt_of_le hi h.1.size) (fun hq => by have := h.2 i hq; omega) (by omega)).trans (h.1.block i hi)⟩, fun i hi => by
    rcases hM i hi with h1 | h1
    · exact h.2 i h1
    · have := h.1.size
      omega⟩
/-- a block that a register's acts leave alone -/
structure Off (W : World) (q : Fp) (gr B : Nat) (t : TypeId) (cs : Array Value) : Prop where
  blk : Blk W B t cs
  nm : ¬ q.M B
  ng : B ≠ gr
section
variable {W W' : World} {q q' : Fp} {gr gr' B : Nat} {t : TypeId} {cs : Array Value} {d : Dk Sv}
theorem Off.below (h : Off W q gr B t cs) (hb : Below W.heap.size W W') : Off W' q gr B t cs := ⟨h.blk.below hb, h.nm, h.ng⟩
theorem Off.nmM (h : Off W q gr B t cs) (hM : ∀ i, q'.M i → q.M i ∨ W.heap.size ≤ i) : ¬ q'.M B := fun hq => by
  rcases hM B hq with h1 | h1
  · exact h.nm h1
  · have := h.blk.lt
    omega
theorem Off.frg (h : Off W q gr B t cs) (hF : Frg q gr W W') (hM : ∀ i, q'.M i → q.M i ∨ W.heap.size ≤ i) : Off W' q' gr B t cs := ⟨(hF.block B h.blk.lt h.nm h.ng).trans h.blk, h.nmM hM, h.ng⟩
theorem Off.act (h : Off W q gr B t cs) (hF : Frd q W W') (hM : ∀ i, q'.M i → q.M i ∨ W.heap.size ≤ i) : Off W' q' gr B t cs := ⟨(hF.block B h.blk.lt h.nm).trans h.blk, h.nmM hM, h.ng⟩
theorem Off.reg (h : Off W q gr B t cs) (hg : gr' ≠ B) : Off W q gr' B t cs := ⟨h.blk, h.nm, fun e => hg e.symm⟩
theorem Off.new (hD : Dsk W q d) (hg : gr < W.heap.size) (t : TypeId) (cs : Array Value) : Off (W.alloc (.cells cs t)) q gr W.heap.size t cs := ⟨Blk.new _ _ _, fun hq => by have := hD.ltM hq; omega, by omega⟩
end
/-- what opening gives -/
def RgO (w : World) (q : Fp) (sp bo : Int) (r : Dk Sv × L3r × Nat) (e : Ending) (w' : World) : Prop :=
  ∃ q' : Fp, q'.g = q.g ∧ Dsk w' q' r.1 ∧ Frd q w w' ∧ (∀ i, q'.M i → q.M i ∨ w.heap.size ≤ i) ∧
    (r.2.2 = 0 ∧ (∃ gr gs, e = .returned (.tuple #[.pointer (some ⟨gr, 0, none⟩), .nilIface]) ∧ RgM w' gr gs q' r.1 sp bo r.2.1 0 ∧ w.heap.size ≤ gr ∧ w.heap.size ≤ gs) ∨ r.2.2 ≠ 0 ∧ e = .returned (.tuple #[.pointer none, errv r.2.2]))
def rgOpen (d : Dk Sv) (sp bo : Int) : Dk Sv × L3r × Nat :=
  if rgBad sp bo then (d, (0, 0, 0), 1)
  else if (sOpen Sv.nil d).2 ≠ 0 then ((sOpen Sv.nil d).1, (0, 0, 0), (sOpen Sv.nil d).2)
  else ((sOpen Sv.nil d).1, rgRead (sOpen Sv.nil d).1)
/-- what an act on a register gives: its value and the register then -/
def RgG (w : World) (gr gs : Nat) (q : Fp) (sp bo : Int) (d' : Dk Sv) (L : L3r) (n : Int) (w' : World) : Prop :=
  ∃ q' : Fp, q'.g = q.g ∧ RgM w' gr gs q' d' sp bo L n ∧ Frg q gr w w' ∧ (∀ i, q'.M i → q.M i ∨ w.heap.size ≤ i)
end Go.Proofs.YtddmfoldnlafaaaGreatDoor

namespace Go.Proofs.YtddmfoldnlafaaaGreatDoor
open Go.RowKit Go.Maps Go.Sort

theorem keep_st {d : Dk Sv} {i : Nat} {L x : L3r} (h : Rst d i) (hr : Ris d.sure) (hk : Kept L d.sure) (A : Option Addr) (c : Nat) : Rst (rgKeep d x A c).1 (i + 1) ∧ Kept (if (rgKeep d x A c).2 = 0 then x else L) (rgKeep d x A c).1.sure := by
  unfold rgKeep
  by_cases hc : lck x ≠ 0
  · rw [if_pos hc]
    dsimp only
    rw [if_neg hc]
    exact ⟨h.stay h.fre h.pe rfl, hk⟩
  · rw [if_neg hc]
    have hc0 : lck x = 0 := Decidable.byContradiction hc
    have hp := h.put hr lname ⟨A, c, lpt x⟩
    generalize sPut svl Sv.nil d lname ⟨A, c, lpt x⟩ = r at *
    generalize hT : gput lname ⟨A, c, lpt x⟩ d.sure = T at *
    generalize hS : d.sure = S at *
    cases hp with
    | done d5 hf hp hs =>
      dsimp only
      rw [if_pos rfl, hs, ← hT, ← hS]
      exact ⟨h.next lname_ok hf hp (by rw [hs, ← hT, ← hS]), Kept.put hc0 A c _⟩
    | left d5 hf hp hs k h0 =>
      dsimp only
      rw [if_neg h0, hs]
      exact ⟨h.stay hf hp (by rw [hs, ← hS]), hk⟩
theorem read_st {d : Dk Sv} {i : Nat} {L : L3r} (h : Rst d i) (hk : Kept L d.sure) : rgRead d = (L, 0) := by
  unfold rgRead
  rw [h.get]
  unfold Kept at hk
  cases hg : gget lname d.sure with
  | none =>
    rw [hg] at hk
    dsimp only at hk ⊢
    rw [if_pos rfl, hk]
  | some v =>
    rw [hg] at hk
    dsimp only at hk ⊢
    rw [if_neg (by simp), if_neg (by simp)]
    show (((ltake v.l).1, (ltake v.l).2.1, (ltake v.l).2.2.1), (ltake v.l).2.2.2) = (L, 0)
    rw [hk.2, ltake_lpt hk.1]
theorem open_st {d : Dk Sv} {i : Nat} {L : L3r} {sp bo : Int} (h : Rst d i) (hr : Ris d.sure) (hk : Kept L d.sure) (hb : ¬ rgBad sp bo) : ∃ d2, (Ris d2.sure → rgOpen d sp bo = (d2, L, 0) ∧ Rst d2 i ∧ d2.sure = d.sure) ∧ (rgOpen d sp bo).1 = d2 := by
  obtain ⟨d2, h1, h2, h3, h4⟩ := h.opened hr
  refine ⟨d2, fun hr2 => ?_, by unfold rgOpen; rw [if_neg hb, h1, if_neg (by simp)]⟩
  have h5 := h4 hr2
  have h6 : Rst d2 i := ⟨h2, h3, by rw [h5]; exact h.sna, by rw [h5]; exact h.len⟩
  have h7 := read_st h6 (L := L) (by rw [h5]; exact hk)
  refine ⟨?_, h6, h5⟩
  unfold rgOpen
  rw [if_neg hb, h1, if_neg (by simp)]
  dsimp only
  rw [h7]
theorem Rst.start (r : Int) : Rst (dk0 r) 0 := ⟨⟨rfl, rfl⟩, rfl, fun _ _ => rfl, Nat.le_refl _⟩
theorem Kept.start (r : Int) : Kept (0, 0, 0) (dk0 r).sure := rfl
def grantL (L : L3r) (o now sp bo : Int) : L3r × Nat := (((grant L.1 L.2.1 L.2.2 o now sp bo).1, (grant L.1 L.2.1 L.2.2 o now sp bo).2.1, (grant L.1 L.2.1 L.2.2 o now sp bo).2.2.1), (grant L.1 L.2.1 L.2.2 o now sp bo).2.2.2)
def giveL (L : L3r) (o : Int) : L3r × Nat := (((give L.1 L.2.1 L.2.2 o).1, (give L.1 L.2.1 L.2.2 o).2.1, (give L.1 L.2.1 L.2.2 o).2.2.1), (give L.1 L.2.1 L.2.2 o).2.2.2)
/-- what acquiring gives: the lease told, an error's number; disk, lease, grants then -/
inductive AcqO (d : Dk Sv) (L : L3r) (n sp bo o now : Int) : L3r → Nat → Dk Sv → L3r → Int → Prop where
  | no (h : (grantL L o now sp bo).2 ≠ 0) : AcqO d L n sp bo o now (0, 0, 0) (grantL L o now sp bo).2 d L n
  | bad (A : Option Addr) (c : Nat) (h : (grantL L o now sp bo).2 = 0) (hk : (rgKeep d (grantL L o now sp bo).1 A c).2 ≠ 0) : AcqO d L n sp bo o now (0, 0, 0) (rgKeep d (grantL L o now sp bo).1 A c).2 (rgKeep d (grantL L o now sp bo).1 A c).1 L n
  | ok (A : Option Addr) (c : Nat) (h : (grantL L o now sp bo).2 = 0) (hk : (rgKeep d (grantL L o now sp bo).1 A c).2 = 0) : AcqO d L n sp bo o now (grantL L o now sp bo).1 0 (rgKeep d (grantL L o now sp bo).1 A c).1 (grantL L o now sp bo).1 (wrap64 (n + 1))
/-- what giving up gives -/
inductive GivO (d : Dk Sv) (L : L3r) (o : Int) : Nat → Dk Sv → L3r → Prop where
  | no (h : (giveL L o).2 ≠ 0) : GivO d L o (giveL L o).2 d L
  | gave (A : Option Addr) (c : Nat) (h : (giveL L o).2 = 0) : GivO d L o (rgKeep d (giveL L o).1 A c).2 (rgKeep d (giveL L o).1 A c).1 (if (rgKeep d (giveL L o).1 A c).2 = 0 then (giveL L o).1 else L)
theorem AcqO.st {d d' : Dk Sv} {L L' ret : L3r} {n n' sp bo o now : Int} {k i : Nat} (h : AcqO d L n sp bo o now ret k d' L' n') (hs : Rst d i) (hr : Ris d.sure) (hk : Kept L d.sure) : Rst d' (i + 1) ∧ Kept L' d'.sure ∧ (k = 0 → ret = L') := by
  cases h with
  | no h => exact ⟨hs.stay hs.fre hs.pe rfl, hk, fun e => absurd e h⟩
  | bad A c h h2 =>
    have := keep_st (x := (grantL L o now sp bo).1) hs hr hk A c
    rw [if_neg h2] at this
    exact ⟨this.1, this.2, fun e => absurd e h2⟩
  | ok A c h h2 =>
    have := keep_st (x := (grantL L o now sp bo).1) hs hr hk A c
    rw [if_pos h2] at this
    exact ⟨this.1, this.2, fun _ => rfl⟩
theorem GivO.st {d d' : Dk Sv} {L L' : L3r} {o : Int} {k i : Nat} (h : GivO d L o k d' L') (hs : Rst d i) (hr : Ris d.sure) (hk : Kept L d.sure) : Rst d' (i + 1) ∧ Kept L' d'.sure := by
  cases h with
  | no h => exact ⟨hs.stay hs.fre hs.pe rfl, hk⟩
  | gave A c h => exact keep_st hs hr hk A c
end Go.Proofs.YtddmfoldnlafaaaGreatDoor

namespace Go.Proofs.YtddmfoldnlafaaaGreatDoor
open Go.RowKit Go.Maps Go.Sort

theorem lck_give {L : L3r} {o : Int} (h : (giveL L o).2 = 0) : lck (giveL L o).1 = 0 := by
  obtain ⟨lo, le, lu⟩ := L
  obtain ⟨h1, -, h3, -⟩ := give_ok h
  unfold giveL lck
  dsimp only at h1 ⊢
  rw [h1]
  obtain ⟨⟨r1, r2⟩, ⟨r3, r4⟩, ⟨r5, r6⟩, _⟩ := chk_ok h3
  dsimp only
  simp [chk, *]
  exact inb_list ⟨r3, r4⟩ ⟨by omega, by omega⟩
theorem lck_grant {L : L3r} {o now sp bo : Int} (h : (grantL L o now sp bo).2 = 0) : lck (grantL L o now sp bo).1 = 0 := by
  obtain ⟨lo, le, lu⟩ := L
  have hc : chk lo le lu = 0 := by
    by_cases hc : chk lo le lu = 0
    · exact hc
    · exfalso
      unfold grantL grant at h
      rw [if_pos hc] at h
      exact hc h
  exact (grant_cases hc h).2.1
end Go.Proofs.YtddmfoldnlafaaaGreatDoor

namespace Go.Proofs.YtddmfoldnlafaaaGreatDoor
open Go.RowKit Go.Maps Go.Sort

/-- what is so of a lease that the register may have: what is remembered is covered by it -/
structure CInv (k1 k2 : L3r) (n1 n2 : Int) (l : L3r) : Prop where
  ok : lck l = 0
  c1 : hold3 k1 1 n1 = true → l.1 = 1 ∧ k1.2.2 ≤ l.2.2
  c2 : hold3 k2 2 n2 = true → l.1 = 2 ∧ k2.2.2 ≤ l.2.2
section
variable {k1 k2 l x : L3r} {n1 n2 m1 m2 bo sp : Int}
theorem hold3_zero (p n : Int) (hp : 1 ≤ p) : hold3 (0, 0, 0) p n = false := holdsb_owner (by show (0 : Int) ≠ p; omega)
theorem hold3_true {k : L3r} {p n : Int} (h : hold3 k p n = true) : k.1 = p ∧ n < k.2.2 := by
  unfold hold3 holdsb at h
  simp only [Bool.and_eq_true, decide_eq_true_eq] at h
  exact ⟨h.1.2, h.2⟩
theorem hold3_back {k : L3r} {p n m : Int} (h : hold3 k p m = true) (hn : n ≤ m) : hold3 k p n = true := by
  cases hb : hold3 k p n with
  | true => rfl
  | false => rw [show hold3 k p m = false from holdsb_mono hb hn] at h; cases h
theorem CInv.start : CInv (0, 0, 0) (0, 0, 0) n1 n2 (0, 0, 0) := ⟨by decide, fun h => (by rw [hold3_zero 1 n1 (by omega)] at h; cases h), fun h => (by rw [hold3_zero 2 n2 (by omega)] at h; cases h)⟩
theorem CInv.both (h : CInv k1 k2 n1 n2 l) : (hold3 k1 1 n1 && hold3 k2 2 n2) = false := by
  cases h1 : hold3 k1 1 n1 with
  | false => rfl
  | true =>
    cases h2 : hold3 k2 2 n2 with
    | false => rfl
    | true =>
      have := (h.c1 h1).1
      have := (h.c2 h2).1
      omega
theorem CInv.time (h : CInv k1 k2 n1 n2 l) (h1 : n1 ≤ m1) (h2 : n2 ≤ m2) : CInv k1 k2 m1 m2 l := ⟨h.ok, fun hh => h.c1 (hold3_back hh h1), fun hh => h.c2 (hold3_back hh h2)⟩
/-- one forgets what he was told -/
theorem CInv.off1 (h : CInv k1 k2 n1 n2 l) : CInv (0, 0, 0) k2 n1 n2 l := ⟨h.ok, fun hh => (by rw [hold3_zero 1 n1 (by omega)] at hh; cases hh), h.c2⟩
theorem CInv.off2 (h : CInv k1 k2 n1 n2 l) : CInv k1 (0, 0, 0) n1 n2 l := ⟨h.ok, h.c1, fun hh => by rw [hold3_zero 2 n2 (by omega)] at hh; cases hh⟩
theorem giveL_ok {p : Int} (h : (giveL l p).2 = 0) : (giveL l p).1 = (0, l.2.1, 0) ∧ l.1 = p := by
  obtain ⟨lo, le, lu⟩ := l
  obtain ⟨h1, h2, -⟩ := give_ok h
  unfold giveL
  dsimp only at h1 ⊢
  rw [h1]
  exact ⟨rfl, h2⟩
theorem CInv.give1 (h : CInv k1 k2 n1 n2 l) (hg : (giveL l 1).2 = 0) : CInv (0, 0, 0) k2 n1 n2 (giveL l 1).1 := by
  have hc := lck_give hg
  obtain ⟨h1, h2⟩ := giveL_ok hg
  refine ⟨hc, fun hh => ?_, fun hh => ?_⟩
  · rw [hold3_zero 1 n1 (by omega)] at hh; cases hh
  · have := (h.c2 hh).1
    omega
theorem CInv.give2 (h : CInv k1 k2 n1 n2 l) (hg : (giveL l 2).2 = 0) : CInv k1 (0, 0, 0) n1 n2 (giveL l 2).1 := by
  have hc := lck_give hg
  obtain ⟨h1, h2⟩ := giveL_ok hg
  refine ⟨hc, fun hh => ?_, fun hh => ?_⟩
  · have := (h.c1 hh).1
    omega
  · rw [hold3_zero 2 n2 (by omega)] at hh; cases hh
/-- what is granted -/
theorem grantL_ok {p now : Int} (h : (grantL l p now sp bo).2 = 0) : (grantL l p now sp bo).1.1 = p ∧ ((l.1 = p ∧ (grantL l p now sp bo).1.2.1 = l.2.1 ∧ l.2.2 ≤ (grantL l p now sp bo).1.2.2) ∨ (l.1 ≠ p ∧ (l.1 = 0 ∨ l.2.2 + bo ≤ now) ∧ (grantL l p now sp bo).1.2.1 = l.2.1 + 1)) := by
  obtain ⟨lo, le, lu⟩ := l
  have hc : chk lo le lu = 0 := by
    by_cases hc : chk lo le lu = 0
    · exact hc
    · exfalso
      unfold grantL grant at h
      rw [if_pos hc] at h
      exact hc h
  obtain ⟨-, -, h1, h2⟩ := grant_cases hc h
  refine ⟨h1, ?_⟩
  rcases h2 with ⟨h2, h3⟩ | h2
  · refine .inl ⟨h2, h3, ?_⟩
    unfold grantL at h ⊢
    dsimp only at h ⊢
    unfold grant at h ⊢
    rw [if_neg (by omega)] at h ⊢
    by_cases h4 : ownb p = false ∨ inb [now, sp, bo] = false
    · rw [if_pos h4] at h; simp at h
    rw [if_neg h4] at h ⊢
    rw [if_neg (by intro h; omega), if_neg (by omega)] at h ⊢
    cases h5 : inb [le, now + sp]
    · rw [h5] at h; simp at h
    · simp only [if_true]
      exact Int.le_max_left _ _
  · exact .inr h2
/-- what is granted, or half granted, covers what was remembered -/
theorem CInv.half1 (h : CInv k1 k2 n1 n2 l) (hn : n1 - n2 ≤ bo) (hg : (grantL l 1 n1 sp bo).2 = 0) : CInv k1 k2 n1 n2 (grantL l 1 n1 sp bo).1 := by
  have hc := lck_grant hg
  obtain ⟨h1, h2⟩ := grantL_ok hg
  refine ⟨hc, fun hh => ⟨h1, ?_⟩, fun hh => ?_⟩
  · have h3 := h.c1 hh
    rcases h2 with ⟨-, -, h4⟩ | ⟨h4, -⟩
    · omega
    · omega
  · exfalso
    have h3 := h.c2 hh
    have h5 := (hold3_true hh).2
    rcases h2 with ⟨h4, -⟩ | ⟨-, h4, -⟩
    · omega
    · omega
theorem CInv.half2 (h : CInv k1 k2 n1 n2 l) (hn : n2 - n1 ≤ bo) (hg : (grantL l 2 n2 sp bo).2 = 0) : CInv k1 k2 n1 n2 (grantL l 2 n2 sp bo).1 := by
  have hc := lck_grant hg
  obtain ⟨h1, h2⟩ := grantL_ok hg
  refine ⟨hc, fun hh => ?_, fun hh => ⟨h1, ?_⟩⟩
  · exfalso
    have h3 := h.c1 hh
    have h5 := (hold3_true hh).2
    rcases h2 with ⟨h4, -⟩ | ⟨-, h4, -⟩
    · omega
    · omega
  · have h3 := h.c2 hh
    rcases h2 with ⟨-, -, h4⟩ | ⟨h4, -⟩
    · omega
    · omega
theorem CInv.grant1 (h : CInv k1 k2 n1 n2 l) (hn : n1 - n2 ≤ bo) (hg : (grantL l 1 n1 sp bo).2 = 0) : CInv (grantL l 1 n1 sp bo).1 k2 n1 n2 (grantL l 1 n1 sp bo).1 := by
  have h2 := h.half1 hn hg
  exact ⟨h2.ok, fun _ => ⟨(grantL_ok hg).1, Int.le_refl _⟩, h2.c2⟩
theorem CInv.grant2 (h : CInv k1 k2 n1 n2 l) (hn : n2 - n1 ≤ bo) (hg : (grantL l 2 n2 sp bo).2 = 0) : CInv k1 (grantL l 2 n2 sp bo).1 n1 n2 (grantL l 2 n2 sp bo).1 := by
  have h2 := h.half2 hn hg
  exact ⟨h2.ok, h2.c1, fun _ => ⟨(grantL_ok hg).1, Int.le_refl _⟩⟩
theorem turn_giveL {p : Int} (h : (giveL l p).2 = 0) : Turn l (giveL l p).1 := by
  rw [(giveL_ok h).1]
  exact .inr (.inl rfl)
theorem turn_grantL {p now : Int} (h : (grantL l p now sp bo).2 = 0) : Turn l (grantL l p now sp bo).1 := by
  obtain ⟨h1, ⟨h2, h3, -⟩ | ⟨-, -, h3⟩⟩ := grantL_ok h
  · exact .inr (.inr (.inl ⟨by rw [h1, h2], h3⟩))
  · exact .inr (.inr (.inr h3))
end
/-- a disk between two calls is up -/
structure DUp (d : Dk Sv) (L : L3r) (m : Nat) : Prop where
  hd : d.down = false
  pe : d.pend = []
  sna : Sna d.sure
  len : d.sure.length ≤ m
  kp : Kept L d.sure
/-- it is up, or down, and any start gives leases of which P is so -/
inductive DSt (P : L3r → Prop) (d : Dk Sv) (L : L3r) (m : Nat) : Prop where
  | up (h : DUp d L m) (hP : P L)
  | down (hd : d.down = true) (hl : d.sure.length + d.pend.length ≤ m + 2) (h : ∀ ks, ∃ d2, sOpen Sv.nil (dStart (dCut ks d)) = (d2, 0) ∧ Fre d2 ∧ d2.pend = [] ∧ (Ris d2.sure → ∃ l, P l ∧ Kept l d2.sure ∧ Sna d2.sure ∧ d2.sure.length ≤ m))
theorem DUp.more {d : Dk Sv} {L : L3r} {m m' : Nat} (h : DUp d L m) (hm : m ≤ m') : DUp d L m' := ⟨h.hd, h.pe, h.sna, Nat.le_trans h.len hm, h.kp⟩
theorem DSt.mono {P Q : L3r → Prop} {d : Dk Sv} {L : L3r} {m m' : Nat} (h : DSt P d L m) (hm : m ≤ m') (hQ : ∀ l, P l → Q l) : DSt Q d L m' := by
  cases h with
  | up h hP => exact .up (h.more hm) (hQ _ hP)
  | down hd hl h =>
    refine .down hd (by omega) fun ks => ?_
    obtain ⟨d2, h1, h2, h3, h4⟩ := h ks
    refine ⟨d2, h1, h2, h3, fun hr => ?_⟩
    obtain ⟨l, h5, h6, h7, h8⟩ := h4 hr
    exact ⟨l, hQ l h5, h6, h7, by omega⟩
theorem DSt.some {P : L3r → Prop} {d : Dk Sv} {L : L3r} {m : Nat} (h : DSt P d L m) (hr : ∀ ks d2, sOpen Sv.nil (dStart (dCut ks d)) = (d2, 0) → Ris d2.sure) : ∃ l, P l := by
  cases h with
  | up h hP => exact ⟨_, hP⟩
  | down hd hl h =>
    obtain ⟨d2, h1, h2, h3, h4⟩ := h []
    obtain ⟨l, h5, -⟩ := h4 (hr _ _ h1)
    exact ⟨l, h5⟩
theorem DSt.len {P : L3r → Prop} {d : Dk Sv} {L : L3r} {m : Nat} (h : DSt P d L m) : d.sure.length + d.pend.length ≤ m + 2 := by
  cases h with
  | up h hP =>
    have := h.len
    rw [h.pe]
    simp
    omega
  | down hd hl h => exact hl
/-- a lease kept -/
theorem DSt.keep {P : L3r → Prop} {d : Dk Sv} {L x : L3r} {m : Nat} (h : DSt P d L m) (hr : Ris d.sure) (hx : lck x = 0) (A : Option Addr) (c : Nat) :
    ((rgKeep d x A c).2 = 0 ∧ P L ∧ DUp (rgKeep d x A c).1 x (m + 1)) ∨ ((rgKeep d x A c).2 ≠ 0 ∧ DSt P (rgKeep d x A c).1 L (m + 1)) ∨ ((rgKeep d x A c).2 ≠ 0 ∧ P L ∧ DSt (fun l => P l ∨ l = x) (rgKeep d x A c).1 L (m + 1)) := by
  have h1 : rgKeep d x A c = sPut svl Sv.nil d lname ⟨A, c, lpt x⟩ := if_neg (by rw [hx]; simp)
  rw [h1]
  cases h with
  | up h hP =>
    have hp := put_out svl Sv.nil h.hd h.pe hr h.sna lname ⟨A, c, lpt x⟩
    generalize sPut svl Sv.nil d lname ⟨A, c, lpt x⟩ = r at *
    have hg := glen_put1 lname ⟨A, c, lpt x⟩ d.sure
    have hl := h.len
    have hk := Kept.put hx A c d.sure
    have hs2 := h.sna.put lname_ok (⟨A, c, lpt x⟩ : Sv)
    have hs1 := h.sna
    have hk1 := h.kp
    generalize gput lname ⟨A, c, lpt x⟩ d.sure = T at *
    generalize d.sure = S at *
    cases hp with
    | done d5 hd hp hs hn => exact .inl ⟨rfl, hP, hd, hp, by rw [hs]; exact hs2, by rw [hs]; omega, by rw [hs]; exact hk⟩
    | left d5 hd hp hs k h0 h1 => exact .inr (.inl ⟨h0, .up ⟨hd, hp, by rw [hs]; exact hs1, by rw [hs]; omega, by rw [hs]; exact hk1⟩ hP⟩)
    | down d5 hd hn hll h =>
      refine .inr (.inr ⟨(by simp), hP, .down hd (by dsimp only; omega) fun ks => ?_⟩)
      obtain ⟨d2, e1, e2, e3, e4⟩ := h ks
      refine ⟨d2, e1, e2, e3, fun hr => ?_⟩
      rcases e4 hr with e | e
      · exact ⟨L, .inl hP, by rw [e]; exact hk1, by rw [e]; exact hs1, by rw [e]; omega⟩
      · exact ⟨x, .inr rfl, by rw [e]; exact hk, by rw [e]; exact hs2, by rw [e]; omega⟩
  | down hd hl h =>
    have hw : dWorks d = (d, 14) := if_pos hd
    have h2 : sPut svl Sv.nil d lname ⟨A, c, lpt x⟩ = (d, 14) := by
      unfold sPut
      rw [if_neg (by rw [lname_ok]; simp)]
      have h3 : dWrite svl d (begun lname) ⟨A, c, lpt x⟩ = (d, 14) := by
        unfold dWrite
        rw [hw]
        exact if_pos (by simp)
      rw [h3]
      exact andThen_bad _ (by decide) _
    rw [h2]
    exact .inr (.inl ⟨(by simp), (DSt.down hd hl h).mono (Nat.le_succ m) fun _ h => h⟩)
/-- what giving up leaves -/
theorem DSt.give {P : L3r → Prop} {d d' : Dk Sv} {L L' : L3r} {m k : Nat} {o : Int} (h : DSt P d L m) (hr : Ris d.sure) (hG : GivO d L o k d' L') {Q : L3r → Prop} (hQ : ∀ l, P l → Q l) (hx : P L → (giveL L o).2 = 0 → Q (giveL L o).1) : DSt Q d' L' (m + 1) := by
  cases hG with
  | no h0 => exact h.mono (Nat.le_succ m) hQ
  | gave A c h0 =>
    rcases h.keep hr (lck_give h0) A c with ⟨h1, h2, h3⟩ | ⟨h1, h2⟩ | ⟨h1, h2, h3⟩
    · rw [if_pos h1]
      exact .up h3 (hx h2 h0)
    · rw [if_neg h1]
      exact h2.mono (Nat.le_refl _) hQ
    · rw [if_neg h1]
      refine h3.mono (Nat.le_refl _) fun l hl => ?_
      rcases hl with hl | rfl
      · exact hQ l hl
      · exact hx h2 h0
/-- what acquiring leaves: not granted, or granted -/
theorem DSt.acq {P : L3r → Prop} {d d' : Dk Sv} {L L' ret : L3r} {m k : Nat} {o now sp bo n n' : Int} (h : DSt P d L m) (hr : Ris d.sure) (hG : AcqO d L n sp bo o now ret k d' L' n') (hx : P L → (grantL L o now sp bo).2 = 0 → P (grantL L o now sp bo).1) : (k ≠ 0 ∧ DSt P d' L' (m + 1)) ∨ (k = 0 ∧ P L ∧ (grantL L o now sp bo).2 = 0 ∧ ret = (grantL L o now sp bo).1 ∧ L' = (grantL L o now sp bo).1 ∧ DUp d' L' (m + 1)) := by
  cases hG with
  | no h0 => exact .inl ⟨h0, h.mono (Nat.le_succ m) fun _ h => h⟩
  | bad A c h0 hk =>
    rcases h.keep hr (lck_grant h0) A c with ⟨h1, h2, h3⟩ | ⟨h1, h2⟩ | ⟨h1, h2, h3⟩
    · exact absurd h1 hk
    · exact .inl ⟨hk, h2⟩
    · refine .inl ⟨hk, h3.mono (Nat.le_refl _) fun l hl => ?_⟩
      rcases hl with hl | rfl
      · exact hl
      · exact hx h2 h0
  | ok A c h0 hk =>
    rcases h.keep hr (lck_grant h0) A c with ⟨h1, h2, h3⟩ | ⟨h1, h2⟩ | ⟨h1, h2, h3⟩
    · exact .inr ⟨rfl, h2, h0, rfl, rfl, h3⟩
    · exact absurd hk h1
    · exact absurd hk h1
/-- the power goes, and comes again: the register is opened anew -/
theorem DSt.anew {P : L3r → Prop} {d : Dk Sv} {L : L3r} {m : Nat} {sp bo : Int} (h : DSt P d L m) (hr : Ris d.sure) (hb : ¬ rgBad sp bo) (ks : List Bool) : ∃ d2, (rgOpen (dStart (dCut ks d)) sp bo).1 = d2 ∧ Fre d2 ∧ (Ris d2.sure → ∃ l, rgOpen (dStart (dCut ks d)) sp bo = (d2, l, 0) ∧ P l ∧ DUp d2 l m) := by
  have key : ∀ (d1 d2 : Dk Sv), sOpen Sv.nil d1 = (d2, 0) → Fre d2 → d2.pend = [] → (Ris d2.sure → ∃ l, P l ∧ Kept l d2.sure ∧ Sna d2.sure ∧ d2.sure.length ≤ m) → ∃ d2, (rgOpen d1 sp bo).1 = d2 ∧ Fre d2 ∧ (Ris d2.sure → ∃ l, rgOpen d1 sp bo = (d2, l, 0) ∧ P l ∧ DUp d2 l m) := by
    intro d1 d2 h1 h2 h3 h4
    refine ⟨d2, by unfold rgOpen; rw [if_neg hb, h1, if_neg (by simp)], h2, fun hr2 => ?_⟩
    obtain ⟨l, h5, h6, h7, h8⟩ := h4 hr2
    refine ⟨l, ?_, h5, h2.2, h3, h7, h8, h6⟩
    unfold rgOpen
    rw [if_neg hb, h1, if_neg (by simp)]
    dsimp only
    rw [read_st (i := m) ⟨h2, h3, h7, h8⟩ h6]
  cases h with
  | up h hP =>
    obtain ⟨room, S, p, fuse, dn⟩ := d
    obtain ⟨h1, h2, h3, h4, h5⟩ := h
    dsimp only at h1 h2 h3 h4 h5 hr
    subst h1 h2
    have e : kept ks ([] : List (Chg Sv)) = [] := by unfold kept; simp
    have e2 : dStart (dCut ks (⟨room, S, [], fuse, false⟩ : Dk Sv)) = ⟨room, S, [], -1, false⟩ := by
      unfold dCut dStart
      rw [e]
      rfl
    rw [e2]
    obtain ⟨d2, f1, f2, f3, f4⟩ := open_up (z := Sv.nil) (room := room) hr hr h3 (names_of h3) (fun _ _ => rfl)
    refine key _ d2 f1 f2 f3 fun hr2 => ?_
    have f5 := f4 hr2
    exact ⟨L, hP, by rw [f5]; exact h5, by rw [f5]; exact h3, by rw [f5]; exact h4⟩
  | down hd hl h =>
    obtain ⟨d2, h1, h2, h3, h4⟩ := h ks
    exact key _ d2 h1 h2 h3 h4
theorem DSt.fuse {P : L3r → Prop} {d : Dk Sv} {L : L3r} {m : Nat} (h : DSt P d L m) (f : Int) : DSt P { d with fuse := f } L m := by
  cases h with
  | up h hP => exact .up ⟨h.hd, h.pe, h.sna, h.len, h.kp⟩ hP
  | down hd hl h =>
    refine .down hd hl fun ks => ?_
    obtain ⟨d2, h1, h⟩ := h ks
    refine ⟨d2, ?_, h⟩
    rw [← h1]
    rfl
end Go.Proofs.YtddmfoldnlafaaaGreatDoor
