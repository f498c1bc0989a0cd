/- WHAT IT HOLDS: the law DiskPlays, walked. | WHAT IT HOLDS: what a nil store answers when it is read, put to, deleted from: walked. | WHAT IT HOLDS: a cursor cleared; what a nil store answers; a cursor that is not saved: walked. | WHAT IT HOLDS: a store's acts and the maps of values, plainly: they go past one another. | WHAT IT HOLDS: a disk in memory and the document's block: they lie apart. | WHAT IT HOLDS: a store's disk and the document's while a law acts on them: the state, and what an act leaves of it. | WHAT IT HOLDS: what is saved, cleared and loaded, told for the document's disk and the store's together. | WHAT IT HOLDS: which acts on a disk are driven: walked. -/
import Derived.Test.YtabnndjdkjkciaaGreatDoorCursorKeepsG31
import Derived.Test.YtabnndjdkjkciaaGreatDoorCursorKeepsG33
import Derived.Test.YtabnndjdkjkciaaGreatDoorCursorKeepsG12
import Derived.Test.YtabnndjdkjkciaaGreatDoorCursorKeepsG24
import Derived.Test.YtabnndjdkjkciaaGreatDoorCursorKeepsG11
import Derived.Test.YtabnndjdkjkciaaGreatDoorCursorKeepsG30
import Derived.Test.YtabnndjdkjkciaaGreatDoorCursorKeepsG32
namespace Go.Proofs.YtabnndjdkjkciaaGreatDoor
open Go.RowKit Go.Maps Go.Sort
attribute [local go_sem ↓] Go.wp_at_zero Go.wp_at_succ

section
variable {w W W' : World} {g b i : Nat} {q : Fp} {d : Dk Sv} {A B : Option Addr} {c k : Nat}
theorem rda_byte (m : Dk Bs) (A B : Option Addr) (c k o : Nat) (x : UInt8) : (rda m A c B k)[o]? ≠ some (bv x) := by
  intro h
  match o with
  | 0 => simp [rda] at h
  | 1 => simp [rda] at h
  | 2 => simp [rda] at h
  | 3 => simp [rda] at h
  | 4 => simp [rda] at h
  | n + 5 => simp [rda] at h
theorem byte_apart {m : Dk Bs} {A' B' : Option Addr} {c' k' : Nat} {l : Bs} {A : Option Addr} {c : Nat} (hB : Blk W b 91 (rda m A' c' B' k')) (h : SlB W A c l) (hne : l ≠ []) : A.map (·.block) ≠ some b := by
  intro e
  obtain ⟨ad, hA, hc⟩ := Sl.at1 (f := bv) (l := l) h (k := 0) (List.length_pos_iff.2 hne)
  subst hA
  have hsp := World.cell?_spot hc
  have hbl : (ad.add 0).block = b := by
    rw [addr_add_block]
    injection e
  have hq : ad.add 0 = ⟨b, (ad.add 0).off, none⟩ := by
    cases h3 : ad.add 0 with
    | mk x y z => rw [h3] at hsp hbl; dsimp only at hsp hbl ⊢; rw [hbl, hsp]
  rw [hq, hB.cell] at hc
  exact rda_byte _ _ _ _ _ _ _ hc
end
end Go.Proofs.YtabnndjdkjkciaaGreatDoor

namespace Go.Proofs.YtabnndjdkjkciaaGreatDoor
open Go.RowKit Go.Maps Go.Sort
attribute [local go_sem ↓] Go.wp_at_zero Go.wp_at_succ

abbrev e4 : Value := .iface 68 (.int .i64 4)
set_option maxRecDepth 100000 in
theorem NAsks_any (n : Bs) (w : World) : Calls Tryz.prog 142 #[.pointer none, .string ⟨n.toArray⟩] w fun e w' => e = .returned e4 ∧ w' = w := by
  go_enter Tryz.func142, Tryz.ntmps142
  go_wp2_with fail
  go_ret
  exact ⟨rfl, rfl⟩
set_option maxRecDepth 100000 in
theorem NGet_any (n : Bs) (w : World) : Calls Tryz.prog 72 #[.pointer none, .string ⟨n.toArray⟩] w fun e w' => e = .returned (.tuple #[.slice none 0 0, e4]) ∧ w' = w := by
  go_enter Tryz.func72, Tryz.ntmps72
  go_wp2_with fail
  refine (NAsks_any n w).mono ?_
  rintro e w1 ⟨rfl, rfl⟩
  go_wp2_with fail
  go_ret2
  exact ⟨rfl, rfl⟩
set_option maxRecDepth 100000 in
theorem NPut_any (n : Bs) (w : World) {v : Value} : Calls Tryz.prog 74 #[.pointer none, .string ⟨n.toArray⟩, v] w fun e w' => e = .returned e4 ∧ w' = w := by
  go_enter Tryz.func74, Tryz.ntmps74
  go_wp2_with fail
  refine (NAsks_any n w).mono ?_
  rintro e w1 ⟨rfl, rfl⟩
  go_wp2_with fail
  go_ret
  exact ⟨rfl, rfl⟩
set_option maxRecDepth 100000 in
theorem NDelete_any (n : Bs) (w : World) : Calls Tryz.prog 73 #[.pointer none, .string ⟨n.toArray⟩] w fun e w' => e = .returned e4 ∧ w' = w := by
  go_enter Tryz.func73, Tryz.ntmps73
  go_wp2_with fail
  refine (NAsks_any n w).mono ?_
  rintro e w1 ⟨rfl, rfl⟩
  go_wp2_with fail
  go_ret
  exact ⟨rfl, rfl⟩
end Go.Proofs.YtabnndjdkjkciaaGreatDoor

namespace Go.Proofs.YtabnndjdkjkciaaGreatDoor
open Go.RowKit Go.Maps Go.Sort
attribute [local go_sem ↓] Go.wp_at_zero Go.wp_at_succ

set_option maxRecDepth 100000 in
set_option maxHeartbeats 2000000 in
theorem CrClear_any {w : World} {gs : Nat} {q : Fp} {d : Dk Sv} (h : StM w gs q d) (hf : Fok d) (hl : d.sure.length + d.pend.length ≤ 900) (n : Bs) (hn : n.length ≤ 9223372036854775807) :
    Calls Tryz.prog 31 #[.pointer (some ⟨gs, 0, none⟩), .string ⟨n.toArray⟩] w fun e w' => e = .returned (errv (clear18 (sDelete Sv.nil d n)).2) ∧ Dgo w q d (clear18 (sDelete Sv.nil d n)).1 w' := by
  have HA := Lib.hid (SDelete_any h hf (by omega) n hn)
  clear h
  generalize sDelete Sv.nil d n = r at *
  obtain ⟨d1, n1⟩ := r
  have he4 := errv_is4C n1
  have hg4 := errv_g4C n1
  go_enter Tryz.func31, Tryz.ntmps31
  go_wp2_with fail
  refine HA.out.mono ?_
  clear HA
  rintro e w1 ⟨rfl, hG⟩
  dsimp only at hG ⊢
  have HG := Lib.hid hG
  clear hG
  by_cases h0 : n1 = 4
  · subst h0
    have HX := Lib.hid (show clear18 (d1, 4) = (d1, 0) from if_pos rfl)
    have hd4 : decide (4 = 4) = true := rfl
    rw [hd4] at he4
    clear hd4
    generalize errv 4 = ev at *
    go_wp2_with fail
    go_ret
    exact ⟨by rw [HX.out]; rfl, by rw [HX.out]; exact HG.out⟩
  · have HX := Lib.hid (show clear18 (d1, n1) = (d1, n1) from if_neg h0)
    have hd4 : decide (n1 = 4) = false := decide_eq_false h0
    rw [hd4] at he4
    clear hd4 h0
    obtain ⟨ev, hev⟩ : ∃ ev, errv n1 = ev := ⟨_, rfl⟩
    have HE := Lib.hid hev
    simp only [hev] at he4 hg4 ⊢
    clear hev
    go_wp2_with fail
    go_ret
    exact ⟨by rw [HX.out]; dsimp only; rw [HE.out]; rfl, by rw [HX.out]; exact HG.out⟩
set_option maxRecDepth 100000 in
theorem CrClearN_any (n : Bs) (w : World) : Calls Tryz.prog 31 #[.pointer none, .string ⟨n.toArray⟩] w fun e w' => e = .returned e4 ∧ w' = w := by
  have he4 : ∀ W, (binOp .eql 37 e4 (.iface 68 (.int .i64 4))).run Tryz.prog W = .ok (.bool true) W := fun W => errv_is4C 4 W
  have hg4 : ∀ x y W, (eqGuard .eql 37 x y e4 (.iface 68 (.int .i64 4))).run Tryz.prog W = .ok () W := fun x y W => errv_g4C 4 x y W
  have HD := Lib.hid (NDelete_any n w)
  generalize hev : e4 = ev at *
  have HE := Lib.hid hev
  clear hev
  go_enter Tryz.func31, Tryz.ntmps31
  go_wp2_with fail
  refine HD.out.mono ?_
  rintro e w1 ⟨rfl, rfl⟩
  clear HD
  go_wp2_with fail
  go_ret
  exact ⟨rfl, rfl⟩
set_option maxRecDepth 100000 in
set_option maxHeartbeats 2000000 in
theorem CrLoadN_any (n : Bs) (w : World) : Calls Tryz.prog 30 #[.pointer none, .string ⟨n.toArray⟩] w fun e w' => e = .returned (.tuple #[crv 0 0 0 0 none 0 0, .bool false, e4]) ∧ Below w.heap.size w w' := by
  have hb0 := below_new w (.cells crz 72)
  have hB0 := Blk.new w 72 crz
  obtain ⟨ev, hev⟩ : ∃ ev : Int, ev = 4 := ⟨_, rfl⟩
  have he4 : ∀ W, (binOp .eql 37 (.iface 68 (.int .i64 ev)) (.iface 68 (.int .i64 4))).run Tryz.prog W = .ok (.bool true) W := fun W => by rw [hev]; exact errv_is4C 4 W
  have hg4 : ∀ x y W, (eqGuard .eql 37 x y (.iface 68 (.int .i64 ev)) (.iface 68 (.int .i64 4))).run Tryz.prog W = .ok () W := fun x y W => by rw [hev]; exact errv_g4C 4 x y W
  have HG := Lib.hid (show Calls Tryz.prog 72 #[.pointer none, .string ⟨n.toArray⟩] (w.alloc (.cells crz 72)) fun e w' => e = .returned (.tuple #[.slice none 0 0, .iface 68 (.int .i64 ev)]) ∧ w' = w.alloc (.cells crz 72) from by rw [hev]; exact NGet_any n _)
  rw [show e4 = .iface 68 (.int .i64 ev) from by rw [hev]]
  clear hev
  go_enter Tryz.func30, Tryz.ntmps30
  go_wp2_with fail
  refine HG.out.mono ?_
  clear HG
  rintro e w1 ⟨rfl, rfl⟩
  obtain ⟨b0, b1, b2, b3, b4, bf0, bf1, bf2, bf3, bf4⟩ := hB0.five
  have HBz := Lib.hid (hB0.set5 (.int .i64 0) (.int .i64 0) (.int .i64 0) (.int .i64 0) (.slice none 0 0))
  have Hbz := Lib.hid (bel_set5 hb0 (g := w.heap.size) (Nat.le_refl _) (.int .i64 0) (.int .i64 0) (.int .i64 0) (.int .i64 0) (.slice none 0 0))
  clear hB0 hb0
  generalize hw1 : w.alloc (.cells crz 72) = w1 at *
  clear hw1
  go_wp2_with fail
  exact bodyPost_ret (res_cr3 rfl rfl (g := w.heap.size) HBz.out) rfl ⟨rfl, Hbz.out⟩
set_option maxRecDepth 100000 in
set_option maxHeartbeats 1000000 in
theorem CrSaveB_any {p : Option Addr} (n : Bs) {A : Option Addr} {c : Nat} (f nx t q : Int) (ps : List Pt5) (w : World) (h : SlP w A c ps) (hI : PtsI ps) (h0 : crchk (f, nx, t, q, ps) ≠ 0) :
    Calls Tryz.prog 32 #[.pointer p, .string ⟨n.toArray⟩, crv f nx t q A ps.length c] w fun e w' => e = .returned (errv (crchk (f, nx, t, q, ps))) ∧ Below w.heap.size w w' := by
  have hB := Blk.new w 72 #[.int .i64 f, .int .i64 nx, .int .i64 t, .int .i64 q, .slice A ps.length c]
  have hbw := below_new w (.cells #[.int .i64 f, .int .i64 nx, .int .i64 t, .int .i64 q, .slice A ps.length c] 72)
  have HP := Lib.hid (CrPut_any f nx t q ps _ (h.below hbw) hI)
  unfold GivesCrb at HP
  obtain ⟨a0, a1, a2, a3, a4, -⟩ := Blk.five hB
  generalize crchk (f, nx, t, q, ps) = bad at *
  generalize crput (f, nx, t, q, ps) = l at *
  have hev : ∃ ev : Int, errv bad = .iface 68 (.int .i64 ev) := by
    rcases errv_cases bad with ⟨h1, -⟩ | ⟨k', -, -, h1⟩
    · exact absurd h1 h0
    · exact ⟨k', h1⟩
  obtain ⟨ev, hev⟩ := hev
  rw [hev] at HP ⊢
  clear h hI h0 hB hev
  go_enter Tryz.func32, Tryz.ntmps32
  go_wp2_with fail
  refine HP.out.mono ?_
  clear HP
  rintro e w1 ⟨A1, c1, m1, rfl, -, -, hb1⟩
  have Hb := Lib.hid (bel_call hbw hb1)
  clear hb1 hbw a0 a1 a2 a3 a4
  go_wp2_with fail
  go_ret
  exact ⟨rfl, Hb.out⟩
set_option maxRecDepth 100000 in
set_option maxHeartbeats 1000000 in
theorem CrSaveN_any (n : Bs) {A : Option Addr} {c : Nat} (f nx t q : Int) (ps : List Pt5) (w : World) (h : SlP w A c ps) (hI : PtsI ps) (h0 : crchk (f, nx, t, q, ps) = 0) :
    Calls Tryz.prog 32 #[.pointer none, .string ⟨n.toArray⟩, crv f nx t q A ps.length c] w fun e w' => e = .returned e4 ∧ Below w.heap.size w w' := by
  have hB := Blk.new w 72 #[.int .i64 f, .int .i64 nx, .int .i64 t, .int .i64 q, .slice A ps.length c]
  have hbw := below_new w (.cells #[.int .i64 f, .int .i64 nx, .int .i64 t, .int .i64 q, .slice A ps.length c] 72)
  have HP := Lib.hid (CrPut_any f nx t q ps _ (h.below hbw) hI)
  unfold GivesCrb at HP
  rw [h0, show errv 0 = Value.nilIface from rfl] at HP
  obtain ⟨a0, a1, a2, a3, a4, -⟩ := Blk.five hB
  generalize crput (f, nx, t, q, ps) = l at *
  clear h hI h0 hB
  go_enter Tryz.func32, Tryz.ntmps32
  go_wp2_with fail
  refine HP.out.mono ?_
  clear HP
  rintro e w1 ⟨A1, c1, m1, rfl, -, -, hb1⟩
  have Hb := Lib.hid (bel_call hbw hb1)
  clear hb1 hbw a0 a1 a2 a3 a4
  go_wp2_with fail
  refine (NPut_any n w1).mono ?_
  rintro e w2 ⟨rfl, rfl⟩
  go_wp2_with fail
  go_ret
  exact ⟨rfl, Hb.out⟩
end Go.Proofs.YtabnndjdkjkciaaGreatDoor

namespace Go.Proofs.YtabnndjdkjkciaaGreatDoor

theorem andThen_map (r : Dk Sv × Nat) (f : Dk Sv → Dk Sv × Nat) (g : Dk Bs → Dk Bs × Nat) (h : ∀ d : Dk Sv, g (d.map Sv.l) = ((f d).1.map Sv.l, (f d).2)) : andThen (r.1.map Sv.l, r.2) g = ((andThen r f).1.map Sv.l, (andThen r f).2) := by
  unfold andThen
  by_cases h0 : r.2 ≠ 0
  · rw [if_pos h0, if_pos h0]
  · rw [if_neg h0, if_neg h0]
    exact h _
theorem sPut_map (d : Dk Sv) (n : Bs) (v : Sv) : sPut bln ([] : Bs) (d.map Sv.l) n v.l = ((sPut svl Sv.nil d n v).1.map Sv.l, (sPut svl Sv.nil d n v).2) := by
  unfold sPut
  by_cases h : snamed n = false
  · rw [if_pos h, if_pos h]
  · rw [if_neg h, if_neg h, dWrite_map]
    refine andThen_map _ _ _ fun d => ?_
    rw [dSync_map]
    refine andThen_map _ _ _ fun d => ?_
    rw [dRename_map]
    exact andThen_map _ _ _ dSync_map
theorem sDelete_map (d : Dk Sv) (n : Bs) : sDelete ([] : Bs) (d.map Sv.l) n = ((sDelete Sv.nil d n).1.map Sv.l, (sDelete Sv.nil d n).2) := by
  unfold sDelete
  by_cases h : snamed n = false
  · rw [if_pos h, if_pos h]
  · rw [if_neg h, if_neg h, dRemove_map]
    exact andThen_map _ _ _ dSync_map
end Go.Proofs.YtabnndjdkjkciaaGreatDoor

namespace Go.Proofs.YtabnndjdkjkciaaGreatDoor
open Go.RowKit Go.Maps Go.Sort

theorem Dsk.apart {w W' : World} {q : Fp} {d : Dk Sv} {b : Nat} {mm : Dk Bs} {A B : Option Addr} {c k : Nat} (h : Dsk w q d) (hB : Blk w b 91 (rda mm A c B k)) (hb : ¬ q.M b) (hw : ∀ i, i < w.heap.size → i ≠ b → W'.heap[i]? = w.heap[i]?) : Dsk W' q d := by
  refine h.frame fun j hj => hw j (h.lt hj) fun e => ?_
  rw [e] at hj
  rcases hj with hj | ⟨s, hs, hne, hA⟩
  · exact hb hj
  · exact byte_apart hB (h.rd s hs) hne hA
end Go.Proofs.YtabnndjdkjkciaaGreatDoor

namespace Go.Proofs.YtabnndjdkjkciaaGreatDoor
open Go.RowKit Go.Maps Go.Sort

/-- a store and the document's disk, which lies in a block of its own -/
structure CkS (w W : World) (g b n : Nat) (q : Fp) (gs : Nat) (d : Dk Sv) (m : Dk Bs) (A : Option Addr) (c : Nat) (B : Option Addr) (k : Nat) : Prop where
  g : q.g = g
  st : StM W gs q d
  fk : Fok d
  nm : Nmd d
  fro : Fro w W q
  blk : Blk W b 91 (rda m A c B k)
  blo : w.heap.size ≤ b
  gb : gs ≠ b
  R : Rdk (fun j => ¬ q.M j ∧ j ≠ b) W m A c B k
  ap : ¬ q.M b
  sz : d.sure.length + d.pend.length ≤ n
section
variable {w W W' : World} {g b n n' : Nat} {q q' : Fp} {gs : Nat} {d d' : Dk Sv} {m m' : Dk Bs} {A A' B B' : Option Addr} {c c' k k' : Nat}
theorem CkS.call (h : CkS w W g b n q gs d m A c B k) (hb : Below W.heap.size W W') : CkS w W' g b n q gs d m A c B k :=
  ⟨h.g, h.st.below hb, h.fk, h.nm, h.fro.call hb, h.blk.below hb, h.blo, h.gb, h.R.below hb, h.ap, h.sz⟩
theorem CkS.more (h : CkS w W g b n q gs d m A c B k) (hn : n ≤ n') : CkS w W g b n' q gs d m A c B k :=
  ⟨h.g, h.st, h.fk, h.nm, h.fro, h.blk, h.blo, h.gb, h.R, h.ap, Nat.le_trans h.sz hn⟩
theorem CkS.up (h : CkS w W g b n q gs d m A c B k) : ∀ j, W.heap.size ≤ j → (¬ q.M j ∧ j ≠ b) := fun j hj => ⟨fun hq => by
  have := h.st.dsk.ltM hq
  omega, by have := h.blk.lt; omega⟩
/-- the document's disk is laid anew -/
theorem CkS.lay (h : CkS w W g b n q gs d m A c B k) (hR : Rdk (fun j => ¬ q.M j ∧ j ≠ b) W' m' A' c' B' k') (hb : Below W.heap.size W W') :
    CkS w (((((W'.setCell ⟨b, 0, none⟩ (.int .i64 m'.room)).setCell ⟨b, 1, none⟩ (.slice A' m'.sure.length c')).setCell ⟨b, 2, none⟩ (.slice B' m'.pend.length k')).setCell ⟨b, 3, none⟩ (.int .i64 m'.fuse)).setCell ⟨b, 4, none⟩ (.bool m'.down)) g b n q gs d m' A' c' B' k' := by
  have hw : Wr W' (((((W'.setCell ⟨b, 0, none⟩ (.int .i64 m'.room)).setCell ⟨b, 1, none⟩ (.slice A' m'.sure.length c')).setCell ⟨b, 2, none⟩ (.slice B' m'.pend.length k')).setCell ⟨b, 3, none⟩ (.int .i64 m'.fuse)).setCell ⟨b, 4, none⟩ (.bool m'.down)) b := (((((Wr.refl _ _).set_ 0 _).set_ 1 _).set_ 2 _).set_ 3 _).set_ 4 _
  have hS1 := h.st.below hb
  have hB1 := h.blk.below hb
  have hne : ∀ j, j < W'.heap.size → j ≠ b → (((((W'.setCell ⟨b, 0, none⟩ (.int .i64 m'.room)).setCell ⟨b, 1, none⟩ (.slice A' m'.sure.length c')).setCell ⟨b, 2, none⟩ (.slice B' m'.pend.length k')).setCell ⟨b, 3, none⟩ (.int .i64 m'.fuse)).setCell ⟨b, 4, none⟩ (.bool m'.down)).heap[j]? = W'.heap[j]? := fun j hj hne => hw.block j hj fun e => hne (by injection e)
  have h1 := h.fro.call hb
  exact ⟨h.g, ⟨hS1.dsk.apart hB1 h.ap hne, hS1.blk.wr hw h.gb, hS1.ap⟩, h.fk, h.nm, ⟨h1.1.trans (hw.below h1.1.size h.blo), h1.2⟩, hB1.st5 _ _ _ _ _, h.blo, h.gb, hR.sameH (fun _ _ ht => ht) hw.size fun j hj ht => hne j hj ht.2, h.ap, h.sz⟩
/-- the store's disk has acted -/
theorem CkS.act (h : CkS w W g b n q gs d m A c B k) (hg : q'.g = q.g) (hD : Dsk W' q' d') (hF : Frd q W W') (hM : ∀ j, q'.M j → q.M j ∨ W.heap.size ≤ j) (hf : Fok d') (hn : Nmd d') (hl : d'.sure.length + d'.pend.length ≤ n') : CkS w W' g b n' q' gs d' m A c B k := by
  have hlt := h.blk.lt
  refine ⟨hg.trans h.g, h.st.act hg hD hF hM, hf, hn, h.fro.frd hF hM, (hF.block b hlt h.ap).trans h.blk, h.blo, h.gb, h.R.sameH (fun j hj ht => ⟨fun hq => ?_, ht.2⟩) hF.size fun j hj ht => hF.block j hj ht.1, fun hq => ?_, hl⟩
  · rcases hM j hq with h1 | h1
    · exact ht.1 h1
    · omega
  · rcases hM b hq with h1 | h1
    · exact h.ap h1
    · omega
end
end Go.Proofs.YtabnndjdkjkciaaGreatDoor

namespace Go.Proofs.YtabnndjdkjkciaaGreatDoor
open Go.RowKit Go.Maps Go.Sort

theorem sGetK_map18 (d : Dk Sv) (n : Bs) : sGetK (d.map Sv.l) n = (((sGet d n).1.map Sv.l).getD [], (sGet d n).2) := by
  unfold sGetK sGet
  by_cases h : snamed n = false
  · rw [if_pos h, if_pos h]
    rfl
  · rw [if_neg h, if_neg h]
    exact rRead_map d n
theorem load_map18 (d : Dk Sv) (n : Bs) : load18 (sGetK (d.map Sv.l) n) = crLoad (sGet d n) := by
  rw [sGetK_map18]
  rfl
theorem crEnd_len18 (x : Cur × (List UInt8 × Nat)) : (crEnd x).1.2.2.2.2.length ≤ 1024 := by
  rcases Decidable.em (rEnd x.2 = 0) with h | h
  · rcases Decidable.em (crchk x.1 = 0) with h1 | h1
    · rw [crEnd_3 h h1]
      unfold crchk at h1
      split at h1
      · rename_i h2; exact absurd h1 h2
      · rename_i h2
        obtain ⟨_, _, _, _, _, _, h7, _⟩ := mchk_ok (Decidable.byContradiction h2)
        exact h7
    · rw [crEnd_2 h h1]; exact Nat.zero_le _
  · rw [crEnd_1 h]; exact Nat.zero_le _
theorem crTake_len18 (b : List UInt8) : (crTake b).1.2.2.2.2.length ≤ 1024 := by
  unfold crTake
  split
  · exact Nat.zero_le _
  · exact crEnd_len18 _
theorem crLoad_len (r : Option Sv × Nat) : (crLoad r).1.2.2.2.2.length ≤ 1024 := by
  unfold crLoad
  split
  · exact Nat.zero_le _
  · split
    · exact Nat.zero_le _
    · exact crTake_len18 _
theorem clear_map18 (d : Dk Sv) (n : Bs) : clear18 (sDelete ([] : Bs) (d.map Sv.l) n) = ((clear18 (sDelete Sv.nil d n)).1.map Sv.l, (clear18 (sDelete Sv.nil d n)).2) := by
  rw [sDelete_map]
  generalize sDelete Sv.nil d n = r
  obtain ⟨d1, k⟩ := r
  unfold clear18
  dsimp only
  by_cases h : k = 4
  · rw [if_pos h, if_pos h]
  · rw [if_neg h, if_neg h]
theorem clear_fst {α : Type} (r : Dk α × Nat) : (clear18 r).1 = r.1 := by
  unfold clear18
  split <;> rfl
/-- what saving or clearing leaves: the number, the disk; the document's are the same -/
def SavG (m : Dk Bs × Nat) (w : World) (q : Fp) (d : Dk Sv) (e : Ending) (w' : World) : Prop := ∃ (d' : Dk Sv) (k : Nat), e = .returned (errv k) ∧ m = (d'.map Sv.l, k) ∧ Dgo w q d d' w' ∧ Fok d' ∧ Nmd d' ∧ d'.sure.length + d'.pend.length ≤ d.sure.length + d.pend.length + 4
theorem CrClearS_any {w : World} {gs : Nat} {q : Fp} {d : Dk Sv} (h : StM w gs q d) (hf : Fok d) (hm : Nmd d) (hl : d.sure.length + d.pend.length ≤ 400) (n : Bs) (hn : n.length ≤ 9223372036854775807) :
    Calls Tryz.prog 31 #[.pointer (some ⟨gs, 0, none⟩), .string ⟨n.toArray⟩] w fun e w' => SavG (clear18 (sDelete ([] : Bs) (d.map Sv.l) n)) w q d e w' :=
  (CrClear_any h hf (by omega) n hn).mono fun e w' ⟨he, hG⟩ => ⟨(clear18 (sDelete Sv.nil d n)).1, (clear18 (sDelete Sv.nil d n)).2, he, clear_map18 d n, hG, by rw [clear_fst]; exact hf.del n, by rw [clear_fst]; exact hm.del Sv.nil n, by rw [clear_fst]; have := sDelete_len Sv.nil d n; omega⟩
theorem CrSaveS_any {w : World} {gs : Nat} {q0 : Fp} {d : Dk Sv} (hS : StM w gs q0 d) (hf : Fok d) (hm : Nmd d) (hl : d.sure.length + d.pend.length ≤ 400) (n : Bs) (hn : n.length ≤ 9223372036854775807) {A : Option Addr} {c : Nat} (f nx t q : Int) (ps : List Pt5) (h : SlP w A c ps) (hI : PtsI ps) :
    Calls Tryz.prog 32 #[.pointer (some ⟨gs, 0, none⟩), .string ⟨n.toArray⟩, crv f nx t q A ps.length c] w fun e w' => SavG (save18 (d.map Sv.l) n (f, nx, t, q, ps)) w q0 d e w' := by
  by_cases h0 : crchk (f, nx, t, q, ps) = 0
  · refine (CrSave_any hS hf (by omega) n hn f nx t q ps h hI h0).mono ?_
    rintro e w' ⟨A', c', he, hG⟩
    refine ⟨_, _, he, ?_, hG, hf.put n _, hm.put svl Sv.nil n _, sPut_len svl Sv.nil d n _⟩
    rw [show save18 (d.map Sv.l) n (f, nx, t, q, ps) = sPut bln ([] : Bs) (d.map Sv.l) n (frm (crtxt (f, nx, t, q, ps))) from if_neg (by simp [h0])]
    exact sPut_map d n ⟨A', c', frm (crtxt (f, nx, t, q, ps))⟩
  · refine (CrSaveB_any n f nx t q ps w h hI h0).mono ?_
    rintro e w' ⟨he, hb⟩
    refine ⟨d, _, he, ?_, ⟨q0, rfl, hS.dsk.below hb, Frd.of_below hb, fun i hi => .inl hi, fun i hi => .inl hi⟩, hf, hm, by omega⟩
    exact if_pos h0
end Go.Proofs.YtabnndjdkjkciaaGreatDoor

namespace Go.Proofs.YtabnndjdkjkciaaGreatDoor
open Go.RowKit Go.Maps Go.Sort
attribute [local go_sem ↓] Go.wp_at_zero Go.wp_at_succ

set_option maxRecDepth 100000 in
theorem Driven_any (x : DA) (w : World) : Calls Tryz.prog 37 #[.agg (acta x)] w fun e w' => (∃ b, e = .returned (.bool b)) ∧ Below w.heap.size w w' := by
  obtain ⟨y0, y1, y2, y3, y4, y5⟩ := (Blk.new w 100 (acta x)).six
  have hb := below_new w (.cells (acta x) 100)
  go_enter Tryz.func37, Tryz.ntmps37
  go_wp2_with fail
  go_ret
  exact ⟨⟨_, rfl⟩, hb⟩
end Go.Proofs.YtabnndjdkjkciaaGreatDoor
