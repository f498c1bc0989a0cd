/- WHAT IT HOLDS: manifest.Put and manifest.Digest, walked, for any manifest. | WHAT IT HOLDS: chain.last, End, Mark, Head. | WHAT IT HOLDS: files by names, and disks, plainly (no program). | WHAT IT HOLDS: a map from names to slices of bytes in memory: looked up, written, struck, counted. | WHAT IT HOLDS: changes done on files, walked; how many bytes there are. -/
import Derived.Test.YtajfnmohlnkncaaGreatDoorVaultAgreesG10
import Derived.Test.YtajfnmohlnkncaaGreatDoorVaultAgreesG12
import Derived.Deep.DeepCutAuto
import Derived.Deep.CutBlock
import Derived.Test.YtajfnmohlnkncaaGreatDoorVaultAgreesG08
import Derived.Maps.Own
import Derived.Maps.Views
import Derived.Sort.KeysCollected
import Derived.Test.YtajfnmohlnkncaaGreatDoorVaultAgreesG01
import Derived.Maps.RangeWalk
import Derived.StringKeys
import Derived.Test.YtajfnmohlnkncaaGreatDoorVaultAgreesG02
import Derived.Test.YtajfnmohlnkncaaGreatDoorVaultAgreesG09
namespace Go.Proofs.YtajfnmohlnkncaaGreatDoor
section
open Go.RowKit
attribute [local go_sem ↓] Go.wp_at_zero Go.wp_at_succ
def GivesMfb (w0 : World) (x : Mf) (e : Ending) (w' : World) : Prop :=
 ∃ A c m, e = .returned (.tuple #[.slice A (List.length m) c, errv (mchk x)]) ∧ Hid (m = mfput x) ∧ OwnB w' w0.heap.size 5 A c m ∧ Below w0.heap.size w0 w'
set_option maxRecDepth 100000 in
set_option maxHeartbeats 2000000 in
theorem MPut_any {A : Option Addr} {c : Nat} (n f t q : Int) (d : Dg) (ps : List Pt5) (w : World) (h : SlP w A c ps) (hI : PtsI ps) :
 Calls Tryz.prog 45 #[.agg (mfa n f t q d A ps.length c)] w (GivesMfb w (n, f, t, q, d, ps)) := by
 have hB := Blk.new w 46 (mfa n f t q d A ps.length c)
 have hbw := below_new w (.cells (mfa n f t q d A ps.length c) 46)
 have hmz := Lib.hid (mfa_size n f t q d A ps.length c)
 have HC := Lib.hid (MCheck_any n f t q d ps _ (h.below hbw) hI)
 rcases Decidable.em (mchk (n, f, t, q, d, ps) = 0) with h0 | h0
 rotate_left
 · obtain ⟨ev, hev⟩ : ∃ ev : Int, errv (mchk (n, f, t, q, d, ps)) = .iface 60 (.int .i64 ev) := by
    rcases errv_cases (mchk (n, f, t, q, d, ps)) with ⟨h1, -⟩ | ⟨k, -, -, h1⟩
    · exact absurd h1 h0
    · exact ⟨k, h1⟩
   have HP := Lib.hid (show mfput (n, f, t, q, d, ps) = [] from if_neg h0)
   have HE := Lib.hid hev
   rw [hev] at HC
   clear hev h0
   go_enter Tryz.func45, Tryz.ntmps45
   go_upto_region 1 with (fail)
   refine gen1 (T := fun W => Blk W w.heap.size 46 (mfa n f t q d A ps.length c) ∧ Below w.heap.size w W ∧ Hid (Calls Tryz.prog 41 #[.agg (mfa n f t q d A ps.length c)] W fun e w' => e = .returned (.iface 60 (.int .i64 ev)) ∧ Below W.heap.size W w')) ⟨hB, hbw, HC⟩ (fun w0 hT => ?_)
   obtain ⟨hB0, hb0, HC0⟩ := hT
   go_wp2_with (refine wpl_loadG rfl 46 _ rfl ⟨w.heap.size, 0, none⟩ (mfa n f t q d A ps.length c) rfl hB0.cells _ Tryz.underlying46 rfl (by rw [hmz.out]; kernel_rfl) ?_)
   refine HC0.out.mono ?_
   rintro e w1 ⟨rfl, hb1⟩
   have hw1 := bel_call hb0 hb1
   clear HC HC0 hb1
   go_wp2_with fail
   go_ret2
   exact ⟨none, 0, [], by rw [HE.out]; rfl, (show _ = _ from HP.out.symm), Own.none_ _ _ _ _, hw1⟩
 have HP := Lib.hid (show mfput (n, f, t, q, d, ps) = frm (mftxt (n, f, t, q, d, ps)) from if_pos h0)
 have H0 := Lib.hid h0
 have HL := Lib.hid (mftxt_len h0)
 obtain ⟨k1, k2, k3, k4, -, -, k5, k6⟩ := mchk_ok h0
 dsimp only at k1 k2 k3 k4 k5 k6
 have HG := Lib.hid k6
 rw [h0, show errv 0 = Value.nilIface from rfl] at HC
 obtain ⟨nn, hn⟩ : ∃ z : Nat, n = z := ⟨n.toNat, by omega⟩
 obtain ⟨nf, hf⟩ : ∃ z : Nat, f = z := ⟨f.toNat, by omega⟩
 obtain ⟨nt, ht⟩ : ∃ z : Nat, t = z := ⟨t.toNat, by omega⟩
 obtain ⟨nq, hq⟩ : ∃ z : Nat, q = z := ⟨q.toNat, by omega⟩
 subst hn hf ht hq
 have c1 : IntKind.u64.wrap (nn : Int) = (nn : Int) := wrap_u64_of (by unfold U64; omega)
 have c2 : IntKind.u64.wrap (nf : Int) = (nf : Int) := wrap_u64_of (by unfold U64; omega)
 have c3 : IntKind.u64.wrap (nt : Int) = (nt : Int) := wrap_u64_of (by unfold U64; omega)
 have c4 : IntKind.u64.wrap (nq : Int) = (nq : Int) := wrap_u64_of (by unfold U64; omega)
 have c5 : IntKind.u64.wrap (ps.length : Int) = (ps.length : Int) := wrap_u64_of (by unfold U64; omega)
 have Hh := Lib.hid h
 clear h h0 k6
 go_enter Tryz.func45, Tryz.ntmps45
 go_upto_region 1 with (fail)
 refine gen1 (T := fun W => Blk W w.heap.size 46 (mfa nn nf nt nq d A ps.length c) ∧ Below w.heap.size w W ∧ Hid (Calls Tryz.prog 41 #[.agg (mfa nn nf nt nq d A ps.length c)] W fun e w' => e = .returned .nilIface ∧ Below W.heap.size W w')) ⟨hB, hbw, HC⟩ (fun w0 hT => ?_)
 clear hB hbw HC
 obtain ⟨hB0, hb0, HC⟩ := hT
 go_wp2_with (refine wpl_loadG rfl 46 _ rfl ⟨w.heap.size, 0, none⟩ (mfa nn nf nt nq d A ps.length c) rfl hB0.cells _ Tryz.underlying46 rfl (by rw [hmz.out]; kernel_rfl) ?_)
 refine HC.out.mono ?_
 rintro e w1 ⟨rfl, hb1⟩
 have hB1 := Blk.below hB0 hb1
 have hw1 := bel_call hb0 hb1
 clear hB0 hb0 hb1 HC
 obtain ⟨a0, a1, a2, a3, a4⟩ := Blm.five hB1
 have hLn : SlN (w1.alloc (.cells #[.int .u64 nn, .int .u64 nf, .int .u64 nt, .int .u64 nq] 138)) (some ⟨w1.heap.size, 0, none⟩) 4 [nn, nf, nt, nq] := Sl.lits w1 [nv nn, nv nf, nv nt, nv nq] 138 (by simp [maxLen])
 have HLn := Lib.hid hLn
 clear hLn
 go_wp2_with fail
 refine (Put_any none 0 [] _ 4 [nn, nf, nt, nq] _ (by simp) (Sl.none_ _ _) HLn.out (by simp) (by intro z hz; simp at hz; unfold U64; rcases hz with rfl | rfl | rfl | rfl <;> omega)).mono ?_
 rintro e w2 ⟨A2, c2', m2, rfl, hm2, ho2, hb2⟩
 have hB2 := Blk.below (Blk.alloc hB1 (.cells #[.int .u64 nn, .int .u64 nf, .int .u64 nt, .int .u64 nq] 138)) hb2
 have hw2 := bel_call (bel_alloc hw1 (.cells #[.int .u64 nn, .int .u64 nf, .int .u64 nt, .int .u64 nq] 138)) hb2
 have hzz : w1.heap.size + 1 ≤ w2.heap.size := Nat.le_trans (by simp) hb2.size
 have hm2l : m2.length ≤ 40 := by
  rw [hm2.out]
  have l1 := vb_le10 (n := nn) (by omega)
  have l2 := vb_le10 (n := nf) (by omega)
  have l3 := vb_le10 (n := nt) (by omega)
  have l4 := vb_le10 (n := nq) (by omega)
  simp only [vbs, List.flatMap_cons, List.flatMap_nil, List.length_append, List.length_nil]
  omega
 have hb01 : w.heap.size < w1.heap.size := hB1.lt
 clear hB1 hw1 hb2 HLn a0 a1 a2 a3 a4 c1 c2 c3 c4
 go_upto_region 5 with (fail)
 go_cut [5] (fun y wz => ∃ (E' : Option Addr) (n' : Nat) (m' : List UInt8), y = .slice E' (List.length m') n' ∧ Hid (m' = vbs [nn, nf, nt, nq] ++ (d.1 ++ vb ps.length)) ∧ SlB wz E' n' m' ∧ Blk wz w.heap.size 46 (mfa nn nf nt nq d A ps.length c) ∧ Below w.heap.size w wz)
 case first =>
  have ho2b := Own.more (base' := w.heap.size + 1) ho2 (by simp; omega)
  have hst : Blk w2.drew w.heap.size 46 (mfa nn nf nt nq d A ps.length c) ∧ Below w.heap.size w w2.drew := ⟨hB2.drew, hw2.drew⟩
  have hoS := World.ownsRow.drew ho2b
  have hd2 := d.2
  have u5 : U64 ps.length := by unfold U64; omega
  clear hB2 hw2 ho2 ho2b
  refine wp_region_held_drew (S := (fun W => Blk W w.heap.size 46 (mfa nn nf nt nq d A ps.length c) ∧ Below w.heap.size w W)) (by kernel_rfl) ?_ (fun hHeld => ?_)
  · exact hst
  refine gen0 (T := fun W => ((fun W => Blk W w.heap.size 46 (mfa nn nf nt nq d A ps.length c) ∧ Below w.heap.size w W)) W ∧ OwnB W (w.heap.size + 1) 5 A2 c2' m2 ∧ True) ?_ (fun wq1 hT => ?_)
  · exact ⟨by (with_reducible exact hst), by (with_reducible assumption), trivial⟩
  (try clear f0 f1 f2 f3 f4 f5 f6 f7 f8 f9 f10 f11)
  obtain ⟨hHeld, f0, -⟩ := hT
  refine wTk (i := 0) (oi := ⟨some 27, _, _, _, _, _⟩) (v := ?_) rfl ⟨by kernel_rfl, ?_⟩ (by assumption) ?_
  rotate_left
  · (intro wS hSw; (try dsimp only at hSw); obtain ⟨q0, q1, q2, q3, q4⟩ := Blm.five hSw.1; clear hSw; go_simp; (try with_reducible rfl))
  (try simp only [Act.put, pS0, pS1, pS2])
  refine wTk (i := 1) (oi := ⟨some 28, _, _, _, _, _⟩) (v := ?_) rfl ⟨by kernel_rfl, ?_⟩ (by assumption) ?_
  rotate_left
  · (intro wS hSw; (try dsimp only at hSw); obtain ⟨q0, q1, q2, q3, q4⟩ := Blm.five hSw.1; clear hSw; go_simp; (try with_reducible rfl))
  (try simp only [Act.put, pS0, pS1, pS2])
  refine wTk (i := 2) (oi := ⟨some 29, _, _, _, _, _⟩) (v := ?_) rfl ⟨by kernel_rfl, ?_⟩ (by assumption) ?_
  rotate_left
  · (intro wS hSw; (try dsimp only at hSw); obtain ⟨q0, q1, q2, q3, q4⟩ := Blm.five hSw.1; clear hSw; go_simp; (try with_reducible rfl))
  (try simp only [Act.put, pS0, pS1, pS2])
  refine wTk (i := 4) (oi := ⟨some 31, _, _, _, _, _⟩) (v := ?_) rfl ⟨by kernel_rfl, ?_⟩ (by assumption) ?_
  rotate_left
  · (intro wS hSw; (try dsimp only at hSw); obtain ⟨q0, q1, q2, q3, q4⟩ := Blm.five hSw.1; clear hSw; go_simp; (try with_reducible rfl))
  (try simp only [Act.put, pS0, pS1, pS2])
  refine wTk (i := 5) (oi := ⟨some 32, _, _, _, _, _⟩) (v := ?_) rfl ⟨by kernel_rfl, ?_⟩ (by assumption) ?_
  rotate_left
  · (intro wS hSw; (try dsimp only at hSw); obtain ⟨q0, q1, q2, q3, q4⟩ := Blm.five hSw.1; clear hSw; go_simp; (try with_reducible rfl))
  (try simp only [Act.put, pS0, pS1, pS2])
  refine wTk (i := 6) (oi := ⟨some 33, _, _, _, _, _⟩) (v := ?_) rfl ⟨by kernel_rfl, ?_⟩ (by assumption) ?_
  rotate_left
  · (intro wS hSw; (try dsimp only at hSw); obtain ⟨q0, q1, q2, q3, q4⟩ := Blm.five hSw.1; clear hSw; go_simp; (try with_reducible rfl))
  (try simp only [Act.put, pS0, pS1, pS2])
  refine wTk (i := 7) (oi := ⟨some 34, _, _, _, _, _⟩) (v := ?_) rfl ⟨by kernel_rfl, ?_⟩ (by assumption) ?_
  rotate_left
  · (intro wS hSw; (try dsimp only at hSw); obtain ⟨q0, q1, q2, q3, q4⟩ := Blm.five hSw.1; clear hSw; go_simp; (try with_reducible rfl))
  (try simp only [Act.put, pS0, pS1, pS2])
  refine wpAnyH_ready (rs := [3, 8]) (by kernel_rfl) (by simp) ?_
  refine AllReadyH.cons (o := ⟨some 30, _, _, _, _, _⟩) rfl (fun K hK => ?_) ?_
  · (refine step_bytesG 52 5 Tryz.underlying52 u8_info (by kernel_rfl) (.tmp 27) (.tmp 29) rfl (w.heap.size + 1) A2 c2' m2 rfl f0 (some ⟨w.heap.size, 4, none⟩) 32 32 d.1 hd2.symm rfl (SlB.dg hHeld.1) (by omega) (Blk.lt hHeld.1) ?_; intro A8 c8 m8 w8 hm8 ho8 hg8 hb8)
    refine hK.out _ _ ?_ (fun _ => ?_)
    · ((try dsimp only); (exact ⟨(hb8.block w.heap.size (Nat.lt_succ_self _)).trans hHeld.1, hHeld.2.trans (hb8.mono (Nat.le_succ _))⟩))
    clear hK K
    (try simp only [Act.put, pS0, pS1, pS2])
    refine gen0 (T := fun W => ((fun W => Blk W w.heap.size 46 (mfa nn nf nt nq d A ps.length c) ∧ Below w.heap.size w W)) W ∧ OwnB W (w.heap.size + 1) 5 A8 c8 m8 ∧ True) ?_ (fun wq2 hT => ?_)
    · exact ⟨by (exact ⟨(hb8.block w.heap.size (Nat.lt_succ_self _)).trans hHeld.1, hHeld.2.trans (hb8.mono (Nat.le_succ _))⟩), by (with_reducible assumption), trivial⟩
    (try clear f0 f1 f2 f3 f4 f5 f6 f7 f8 f9 f10 f11)
    obtain ⟨hHeld, f0, -⟩ := hT
    refine wR1 (i := 8) (o := ⟨some 35, _, _, _, _, _⟩) rfl (fun K hK => ?_)
    go_simp
    refine hK.out _ _ ?_ (fun _ => ?_)
    · ((try dsimp only); (exact ⟨Blk.alloc hHeld.1 _, bel_alloc hHeld.2 _⟩))
    clear hK K
    (try simp only [Act.put, pS0, pS1, pS2])
    refine gen0 (T := fun W => ((fun W => Blk W w.heap.size 46 (mfa nn nf nt nq d A ps.length c) ∧ Below w.heap.size w W)) W ∧ OwnB W (w.heap.size + 1) 5 A8 c8 m8 ∧ Own W w.heap.size 138 1 (some ⟨wq2.heap.size, 0, none⟩) 1 1 [nv ps.length] ∧ True) ?_ (fun wq3 hT => ?_)
    · exact ⟨by (exact ⟨Blk.alloc hHeld.1 _, bel_alloc hHeld.2 _⟩), by (exact Own.below f0 (below_new _ _)), by (exact lit64 hHeld.2.size ps.length), trivial⟩
    (try clear f0 f1 f2 f3 f4 f5 f6 f7 f8 f9 f10 f11)
    obtain ⟨hHeld, f0, f1, -⟩ := hT
    refine wR1 (i := 9) (o := ⟨some 36, _, _, _, _, _⟩) rfl (fun K hK => ?_)
    go_simp
    (refine (Put_any A8 c8 m8 _ 1 [ps.length] _ (by rw [hm8.out, List.length_append]; omega) f0.sl f1.sl (by simp) (by intro z hz; simp at hz; subst hz; exact u5)).mono ?_; rintro e w9 ⟨A9, c9, m9, rfl, hm9, ho9, hb9⟩)
    go_wp2_with fail
    refine hK.out _ _ ?_ (fun _ => ?_)
    · ((try dsimp only); (exact ⟨Blk.below hHeld.1 hb9, bel_call hHeld.2 hb9⟩))
    clear hK K
    (try simp only [Act.put, pS0, pS1, pS2])
    refine gen0 (T := fun W => ((fun W => Blk W w.heap.size 46 (mfa nn nf nt nq d A ps.length c) ∧ Below w.heap.size w W)) W ∧ SlB W A9 c9 m9 ∧ True) ?_ (fun wq4 hT => ?_)
    · exact ⟨by (exact ⟨Blk.below hHeld.1 hb9, bel_call hHeld.2 hb9⟩), by (exact ho9.sl), trivial⟩
    (try clear f0 f1 f2 f3 f4 f5 f6 f7 f8 f9 f10 f11)
    obtain ⟨hHeld, f0, -⟩ := hT
    refine wTk (i := 10) (oi := ⟨some 5, _, _, _, _, _⟩) (v := ?_) rfl ⟨by kernel_rfl, ?_⟩ (by assumption) ?_
    rotate_left
    · (intro wS hSw; (try dsimp only at hSw); obtain ⟨q0, q1, q2, q3, q4⟩ := Blm.five hSw.1; clear hSw; go_simp; (try with_reducible rfl))
    (try simp only [Act.put, pS0, pS1, pS2])
    refine wpAnyH_done (by kernel_rfl) ?_ _
    (go_wp2_with fail; go_meet; exact ⟨A9, c9, m9, rfl, (show _ = _ from by rw [hm9.out, hm8.out, hm2.out]; simp [vbs]), f0, hHeld.1, hHeld.2⟩)
  refine AllReadyH.cons (o := ⟨some 35, _, _, _, _, _⟩) rfl (fun K hK => ?_) ?_
  · go_simp
    refine hK.out _ _ ?_ (fun _ => ?_)
    · ((try dsimp only); (exact ⟨Blk.alloc hHeld.1 _, bel_alloc hHeld.2 _⟩))
    clear hK K
    (try simp only [Act.put, pS0, pS1, pS2])
    refine gen0 (T := fun W => ((fun W => Blk W w.heap.size 46 (mfa nn nf nt nq d A ps.length c) ∧ Below w.heap.size w W)) W ∧ OwnB W (w.heap.size + 1) 5 A2 c2' m2 ∧ Own W w.heap.size 138 1 (some ⟨wq1.heap.size, 0, none⟩) 1 1 [nv ps.length] ∧ True) ?_ (fun wq5 hT => ?_)
    · exact ⟨by (exact ⟨Blk.alloc hHeld.1 _, bel_alloc hHeld.2 _⟩), by (exact Own.below f0 (below_new _ _)), by (exact lit64 hHeld.2.size ps.length), trivial⟩
    (try clear f0 f1 f2 f3 f4 f5 f6 f7 f8 f9 f10 f11)
    obtain ⟨hHeld, f0, f1, -⟩ := hT
    refine wR1 (i := 3) (o := ⟨some 30, _, _, _, _, _⟩) rfl (fun K hK => ?_)
    (refine step_bytesG 52 5 Tryz.underlying52 u8_info (by kernel_rfl) (.tmp 27) (.tmp 29) rfl (w.heap.size + 1) A2 c2' m2 rfl f0 (some ⟨w.heap.size, 4, none⟩) 32 32 d.1 hd2.symm rfl (SlB.dg hHeld.1) (by omega) (Blk.lt hHeld.1) ?_; intro A8 c8 m8 w8 hm8 ho8 hg8 hb8)
    refine hK.out _ _ ?_ (fun _ => ?_)
    · ((try dsimp only); (exact ⟨(hb8.block w.heap.size (Nat.lt_succ_self _)).trans hHeld.1, hHeld.2.trans (hb8.mono (Nat.le_succ _))⟩))
    clear hK K
    (try simp only [Act.put, pS0, pS1, pS2])
    refine gen0 (T := fun W => ((fun W => Blk W w.heap.size 46 (mfa nn nf nt nq d A ps.length c) ∧ Below w.heap.size w W)) W ∧ OwnB W (w.heap.size + 1) 5 A8 c8 m8 ∧ Own W w.heap.size 138 1 (some ⟨wq1.heap.size, 0, none⟩) 1 1 [nv ps.length] ∧ True) ?_ (fun wq6 hT => ?_)
    · exact ⟨by (exact ⟨(hb8.block w.heap.size (Nat.lt_succ_self _)).trans hHeld.1, hHeld.2.trans (hb8.mono (Nat.le_succ _))⟩), by (with_reducible assumption), by (exact Own.other f1 f0 hg8 (by decide)), trivial⟩
    (try clear f0 f1 f2 f3 f4 f5 f6 f7 f8 f9 f10 f11)
    obtain ⟨hHeld, f0, f1, -⟩ := hT
    refine wR1 (i := 9) (o := ⟨some 36, _, _, _, _, _⟩) rfl (fun K hK => ?_)
    go_simp
    (refine (Put_any A8 c8 m8 _ 1 [ps.length] _ (by rw [hm8.out, List.length_append]; omega) f0.sl f1.sl (by simp) (by intro z hz; simp at hz; subst hz; exact u5)).mono ?_; rintro e w9 ⟨A9, c9, m9, rfl, hm9, ho9, hb9⟩)
    go_wp2_with fail
    refine hK.out _ _ ?_ (fun _ => ?_)
    · ((try dsimp only); (exact ⟨Blk.below hHeld.1 hb9, bel_call hHeld.2 hb9⟩))
    clear hK K
    (try simp only [Act.put, pS0, pS1, pS2])
    refine gen0 (T := fun W => ((fun W => Blk W w.heap.size 46 (mfa nn nf nt nq d A ps.length c) ∧ Below w.heap.size w W)) W ∧ SlB W A9 c9 m9 ∧ True) ?_ (fun wq7 hT => ?_)
    · exact ⟨by (exact ⟨Blk.below hHeld.1 hb9, bel_call hHeld.2 hb9⟩), by (exact ho9.sl), trivial⟩
    (try clear f0 f1 f2 f3 f4 f5 f6 f7 f8 f9 f10 f11)
    obtain ⟨hHeld, f0, -⟩ := hT
    refine wTk (i := 10) (oi := ⟨some 5, _, _, _, _, _⟩) (v := ?_) rfl ⟨by kernel_rfl, ?_⟩ (by assumption) ?_
    rotate_left
    · (intro wS hSw; (try dsimp only at hSw); obtain ⟨q0, q1, q2, q3, q4⟩ := Blm.five hSw.1; clear hSw; go_simp; (try with_reducible rfl))
    (try simp only [Act.put, pS0, pS1, pS2])
    refine wpAnyH_done (by kernel_rfl) ?_ _
    (go_wp2_with fail; go_meet; exact ⟨A9, c9, m9, rfl, (show _ = _ from by rw [hm9.out, hm8.out, hm2.out]; simp [vbs]), f0, hHeld.1, hHeld.2⟩)
  exact AllReadyH.nil
 obtain ⟨A5, k5', m5, rfl, hm5, hs5, hB5, hw5⟩ := hcut
 clear hB2 hw2 ho2 hzz hm2l hb01 hm2
 obtain ⟨a0, a1, a2, a3, a4⟩ := Blm.five hB5
 go_wp2_with fail
 clear a0 a1 a2 a3 a4
 go_loopw [40, 5] (fun x y wr => ∃ (k : Nat) (E : Option Addr) (n : Nat) (m : List UInt8), k ≤ ps.length ∧ x = .int .i64 k ∧ y = .slice E m.length n ∧ Hid (m = vbs [nn, nf, nt, nq] ++ (d.1 ++ (vb ps.length ++ (ps.take k).flatMap ptb))) ∧ SlB wr E n m ∧ Blk wr w.heap.size 46 (mfa nn nf nt nq d A ps.length c) ∧ Below w.heap.size w wr) (fun x _ w => ps.length - (intOf x).toNat)
 case atStart => exact ⟨0, A5, k5', m5, Nat.zero_le _, rfl, rfl, (show _ = _ from by rw [hm5.out]; simp), hs5, hB5, hw5⟩
 case round =>
  clear hs5 hB5 hw5 hm5
  obtain ⟨k, E, n, m, hk, rfl, rfl, hm, hsm, hBr, hbr⟩ := hrel
  have hml : m.length ≤ 60000 := by
   rw [hm.out]
   have h1 := ptb_le HG.out k
   have l1 := vb_le10 (n := nf) (by omega)
   have l2 := vb_le10 (n := nn) (by omega)
   have l3 := vb_le10 (n := nt) (by omega)
   have l4 := vb_le10 (n := nq) (by omega)
   have l5 := vb_le10 (n := ps.length) (by omega)
   have l6 := d.2
   simp only [vbs, List.flatMap_cons, List.flatMap_nil, List.length_append, List.length_nil]
   omega
  by_cases hlt : k < ps.length
  · have hI1 : (k : Int) < (ps.length : Int) := by omega
    obtain ⟨ad, b, o, rfl, had, hcc⟩ := (Hh.out.below hbr).at hlt
    obtain ⟨⟨g1, g2⟩, g3, g4⟩ := pgo_at hlt HG.out
    have HNx := Lib.hid (ptb_take hlt)
    generalize ps[k] = p at *
    obtain ⟨nm, hnm⟩ : ∃ n : Nat, p.2.1.toNat = n := ⟨_, rfl⟩
    obtain ⟨nz, hnz⟩ : ∃ n : Nat, p.2.2.1.toNat = n := ⟨_, rfl⟩
    have c6 : IntKind.u64.wrap p.2.1 = (nm : Int) := by
     rw [show p.2.1 = (nm : Int) by omega]
     exact wrap_u64_of (by unfold U64; omega)
    have c7 : IntKind.u64.wrap p.2.2.1 = (nz : Int) := by
     rw [show p.2.2.1 = (nz : Int) by omega]
     exact wrap_u64_of (by unfold U64; omega)
    have u6 : U64 nm := by unfold U64; omega
    have u7 : U64 nz := by unfold U64; omega
    have HPb := Lib.hid (show ptb p = vb nm ++ (vb nz ++ p.2.2.2.1) from by unfold ptb; rw [hnm, hnz])
    have hX := Blk.new wr 37 (pta p)
    obtain ⟨x0, x1, x2⟩ := BlP.three hX
    have hbx := below_new wr (.cells (pta p) 37)
    have hps := Lib.hid (pta_size p)
    have hpa := Lib.hid (pta_all p)
    have HCC := Lib.hid hcc
    obtain ⟨a0, a1, a2, a3, a4⟩ := Blm.five hBr
    clear hcc g1 g2 g3 g4 hnm hnz
    have hlo := hbr.size
    go_upto_block 1 with (fail)
    go_cut [5] (fun y wz => ∃ (E' : Option Addr) (n' : Nat) (m' : List UInt8), y = .slice E' (List.length m') n' ∧ Hid (m' = m ++ ptb p) ∧ SlB wz E' n' m' ∧ Blk wz w.heap.size 46 (mfa nn nf nt nq d (some ad) ps.length c) ∧ Below w.heap.size w wz)
    case first =>
     go_upto_region 9 with (first | (refine wpl_loadG rfl 37 _ rfl ⟨b, o, none⟩ (pta p) rfl HCC.out _ Tryz.underlying37 rfl (by rw [hps.out]; kernel_rfl) ?_) | (refine wpl_storeN rfl 37 _ _ rfl _ (pta p) 37 rfl rfl (by rw [hps.out]; kernel_rfl) (by rw [hps.out]; rfl) hpa.out ?_))
     have hst : BlP (World.drew (wr.alloc (.cells (pta p) 37))) wr.heap.size p ∧ Blk (World.drew (wr.alloc (.cells (pta p) 37))) w.heap.size 46 (mfa nn nf nt nq d (some ad) ps.length c) ∧ Below w.heap.size w (World.drew (wr.alloc (.cells (pta p) 37))) := ⟨hX.drew, (hBr.alloc _).drew, (bel_call hbr hbx).drew⟩
     have hsm2 : SlB (World.drew (wr.alloc (.cells (pta p) 37))) E n m := Sl.below hsm (show Below wr.heap.size wr (World.drew (wr.alloc (.cells (pta p) 37))) from hbx.drew)
     clear x0 x1 x2 a0 a1 a2 a3 a4 hX hbx hsm hBr
     refine wp_region_held_drew (S := (fun W => BlP W wr.heap.size p ∧ Blk W w.heap.size 46 (mfa nn nf nt nq d (some ad) ps.length c) ∧ Below w.heap.size w W)) (by kernel_rfl) ?_ (fun hHeld => ?_)
     · exact hst
     refine gen0 (T := fun W => ((fun W => BlP W wr.heap.size p ∧ Blk W w.heap.size 46 (mfa nn nf nt nq d (some ad) ps.length c) ∧ Below w.heap.size w W)) W ∧ SlB W E n m ∧ True) ?_ (fun wq1 hT => ?_)
     · exact ⟨by (with_reducible exact hst), by (with_reducible assumption), trivial⟩
     (try clear f0 f1 f2 f3 f4 f5 f6 f7 f8 f9 f10 f11)
     obtain ⟨hHeld, f0, -⟩ := hT
     refine wTk (i := 0) (oi := ⟨some 44, _, _, _, _, _⟩) (v := ?_) rfl ⟨by kernel_rfl, ?_⟩ (by assumption) ?_
     rotate_left
     · (intro wS hSw; (try dsimp only at hSw); obtain ⟨x0, x1, x2⟩ := BlP.three hSw.1; clear hSw; go_simp; (try with_reducible rfl))
     (try simp only [Act.put, pS0, pS1, pS2])
     refine wTk (i := 1) (oi := ⟨some 45, _, _, _, _, _⟩) (v := ?_) rfl ⟨by kernel_rfl, ?_⟩ (by assumption) ?_
     rotate_left
     · (intro wS hSw; (try dsimp only at hSw); obtain ⟨x0, x1, x2⟩ := BlP.three hSw.1; clear hSw; go_simp; (try with_reducible rfl))
     (try simp only [Act.put, pS0, pS1, pS2])
     refine wTk (i := 2) (oi := ⟨some 46, _, _, _, _, _⟩) (v := ?_) rfl ⟨by kernel_rfl, ?_⟩ (by assumption) ?_
     rotate_left
     · (intro wS hSw; (try dsimp only at hSw); obtain ⟨x0, x1, x2⟩ := BlP.three hSw.1; clear hSw; go_simp; (try with_reducible rfl))
     (try simp only [Act.put, pS0, pS1, pS2])
     refine wTk (i := 3) (oi := ⟨some 47, _, _, _, _, _⟩) (v := ?_) rfl ⟨by kernel_rfl, ?_⟩ (by assumption) ?_
     rotate_left
     · (intro wS hSw; (try dsimp only at hSw); obtain ⟨x0, x1, x2⟩ := BlP.three hSw.1; clear hSw; go_simp; (try with_reducible rfl))
     (try simp only [Act.put, pS0, pS1, pS2])
     refine wTk (i := 4) (oi := ⟨some 48, _, _, _, _, _⟩) (v := ?_) rfl ⟨by kernel_rfl, ?_⟩ (by assumption) ?_
     rotate_left
     · (intro wS hSw; (try dsimp only at hSw); obtain ⟨x0, x1, x2⟩ := BlP.three hSw.1; clear hSw; go_simp; (try with_reducible rfl))
     (try simp only [Act.put, pS0, pS1, pS2])
     refine wTk (i := 5) (oi := ⟨some 49, _, _, _, _, _⟩) (v := ?_) rfl ⟨by kernel_rfl, ?_⟩ (by assumption) ?_
     rotate_left
     · (intro wS hSw; (try dsimp only at hSw); obtain ⟨x0, x1, x2⟩ := BlP.three hSw.1; clear hSw; go_simp; (try with_reducible rfl))
     (try simp only [Act.put, pS0, pS1, pS2])
     refine wTk (i := 6) (oi := ⟨some 50, _, _, _, _, _⟩) (v := ?_) rfl ⟨by kernel_rfl, ?_⟩ (by assumption) ?_
     rotate_left
     · (intro wS hSw; (try dsimp only at hSw); obtain ⟨x0, x1, x2⟩ := BlP.three hSw.1; clear hSw; go_simp; (try with_reducible rfl))
     (try simp only [Act.put, pS0, pS1, pS2])
     refine wTk (i := 9) (oi := ⟨some 53, _, _, _, _, _⟩) (v := ?_) rfl ⟨by kernel_rfl, ?_⟩ (by assumption) ?_
     rotate_left
     · (intro wS hSw; (try dsimp only at hSw); obtain ⟨x0, x1, x2⟩ := BlP.three hSw.1; clear hSw; go_simp; (try with_reducible rfl))
     (try simp only [Act.put, pS0, pS1, pS2])
     refine wTk (i := 10) (oi := ⟨some 54, _, _, _, _, _⟩) (v := ?_) rfl ⟨by kernel_rfl, ?_⟩ (by assumption) ?_
     rotate_left
     · (intro wS hSw; (try dsimp only at hSw); obtain ⟨x0, x1, x2⟩ := BlP.three hSw.1; clear hSw; go_simp; (try with_reducible rfl))
     (try simp only [Act.put, pS0, pS1, pS2])
     refine wR1 (i := 7) (o := ⟨some 51, _, _, _, _, _⟩) rfl (fun K hK => ?_)
     go_simp
     refine hK.out _ _ ?_ (fun _ => ?_)
     · ((try dsimp only); (exact ⟨Blk.alloc hHeld.1 _, Blk.alloc hHeld.2.1 _, bel_alloc hHeld.2.2 _⟩))
     clear hK K
     (try simp only [Act.put, pS0, pS1, pS2])
     refine gen0 (T := fun W => ((fun W => BlP W wr.heap.size p ∧ Blk W w.heap.size 46 (mfa nn nf nt nq d (some ad) ps.length c) ∧ Below w.heap.size w W)) W ∧ SlB W E n m ∧ SlN W (some ⟨wq1.heap.size, 0, none⟩) 2 [nm, nz] ∧ True) ?_ (fun wq2 hT => ?_)
     · exact ⟨by (exact ⟨Blk.alloc hHeld.1 _, Blk.alloc hHeld.2.1 _, bel_alloc hHeld.2.2 _⟩), by (exact Sl.below f0 (below_new _ _)), by (exact Sl.lits _ [nv nm, nv nz] 138 (by simp [maxLen])), trivial⟩
     (try clear f0 f1 f2 f3 f4 f5 f6 f7 f8 f9 f10 f11)
     obtain ⟨hHeld, f0, f1, -⟩ := hT
     refine wR1 (i := 8) (o := ⟨some 52, _, _, _, _, _⟩) rfl (fun K hK => ?_)
     go_simp
     (refine (Put_any E n m _ 2 [nm, nz] _ (by omega) f0 f1 (by simp) (by intro z hz; simp at hz; rcases hz with rfl | rfl; exact u6; exact u7)).mono ?_; rintro e w9 ⟨A9, c9, m9, rfl, hm9, ho9, hb9⟩; have hml9 : m9.length ≤ 61000 := (by rw [hm9.out]; have h1 := vb_le10 u6; have h2 := vb_le10 u7; simp only [vbs, List.flatMap_cons, List.flatMap_nil, List.length_append, List.length_nil]; omega))
     go_wp2_with fail
     refine hK.out _ _ ?_ (fun _ => ?_)
     · ((try dsimp only); (exact ⟨Blk.below hHeld.1 hb9, Blk.below hHeld.2.1 hb9, bel_call hHeld.2.2 hb9⟩))
     clear hK K
     (try simp only [Act.put, pS0, pS1, pS2])
     refine gen0 (T := fun W => ((fun W => BlP W wr.heap.size p ∧ Blk W w.heap.size 46 (mfa nn nf nt nq d (some ad) ps.length c) ∧ Below w.heap.size w W)) W ∧ OwnB W (wr.heap.size + 1) 5 A9 c9 m9 ∧ True) ?_ (fun wq3 hT => ?_)
     · exact ⟨by (exact ⟨Blk.below hHeld.1 hb9, Blk.below hHeld.2.1 hb9, bel_call hHeld.2.2 hb9⟩), by (exact Own.more ho9 (Blk.lt hHeld.1)), trivial⟩
     (try clear f0 f1 f2 f3 f4 f5 f6 f7 f8 f9 f10 f11)
     obtain ⟨hHeld, f0, -⟩ := hT
     refine wR1 (i := 11) (o := ⟨some 55, _, _, _, _, _⟩) rfl (fun K hK => ?_)
     (refine step_bytesG 52 5 Tryz.underlying52 u8_info (by kernel_rfl) (.tmp 52) (.tmp 54) rfl (wr.heap.size + 1) A9 c9 m9 rfl f0 (some ⟨wr.heap.size, 3, none⟩) 32 32 p.2.2.2.1 p.2.2.2.2.symm rfl (SlB.dgP hHeld.1) (by rw [p.2.2.2.2]; omega) (Blk.lt hHeld.1) ?_; intro A8 c8 m8 w8 hm8 ho8 hg8 hb8)
     refine hK.out _ _ ?_ (fun _ => ?_)
     · ((try dsimp only); (exact ⟨(hb8.block _ (Nat.lt_succ_self _)).trans hHeld.1, (hb8.block _ (by omega)).trans hHeld.2.1, hHeld.2.2.trans (hb8.mono (by omega))⟩))
     clear hK K
     (try simp only [Act.put, pS0, pS1, pS2])
     refine gen0 (T := fun W => ((fun W => BlP W wr.heap.size p ∧ Blk W w.heap.size 46 (mfa nn nf nt nq d (some ad) ps.length c) ∧ Below w.heap.size w W)) W ∧ SlB W A8 c8 m8 ∧ True) ?_ (fun wq4 hT => ?_)
     · exact ⟨by (exact ⟨(hb8.block _ (Nat.lt_succ_self _)).trans hHeld.1, (hb8.block _ (by omega)).trans hHeld.2.1, hHeld.2.2.trans (hb8.mono (by omega))⟩), by (exact ho8.sl), trivial⟩
     (try clear f0 f1 f2 f3 f4 f5 f6 f7 f8 f9 f10 f11)
     obtain ⟨hHeld, f0, -⟩ := hT
     refine wTk (i := 12) (oi := ⟨some 5, _, _, _, _, _⟩) (v := ?_) rfl ⟨by kernel_rfl, ?_⟩ (by assumption) ?_
     rotate_left
     · (intro wS hSw; (try dsimp only at hSw); obtain ⟨x0, x1, x2⟩ := BlP.three hSw.1; clear hSw; go_simp; (try with_reducible rfl))
     (try simp only [Act.put, pS0, pS1, pS2])
     refine wpAnyH_done (by kernel_rfl) ?_ _
     go_wp2_with fail
     go_meet
     exact ⟨A8, c8, m8, rfl, (show _ = _ from by rw [hm8.out, hm9.out, HPb.out]; simp [vbs, List.append_assoc]), f0, hHeld.2.1, hHeld.2.2⟩
    obtain ⟨E', n', m', rfl, hm', hs', hB', hb'⟩ := hcut
    clear x0 x1 x2 a0 a1 a2 a3 a4 hX hbx hsm hBr
    go_wp2_with fail
    go_roundw
    case rel => exact ⟨k + 1, E', n', m', hlt, by go_num, rfl, (show _ = _ from by rw [hm'.out, hm.out, HNx.out]; simp only [List.append_assoc]), hs', hB', hb'⟩
    case measure => simp [intOf]; omega
  · have hI1 : (ps.length : Int) ≤ (k : Int) := by omega
    have hcm : mftxt ((nn : Int), (nf : Int), (nt : Int), (nq : Int), d, ps) = m := by
     rw [hm.out, List.take_of_length_le (by omega)]
     unfold mftxt
     simp [vbs, List.append_assoc]
    have HCm := Lib.hid hcm
    have hfp : fput [] m = (frm m, 0) := by
     unfold fput
     rw [if_neg (by omega)]
     rfl
    have HFp := Lib.hid hfp
    obtain ⟨a0, a1, a2, a3, a4⟩ := Blm.five hBr
    clear hcm hfp
    go_wp2_with fail
    refine (FPut_any none 0 [] E n m _ (by simp) (Sl.none_ _ _) hsm (by omega)).mono ?_
    rintro e w6 ⟨A6, c6, m6, he, hm6, ho6, hb6⟩
    rw [HFp.out] at he hm6
    dsimp only at he hm6
    rw [show errv 0 = .nilIface from rfl] at he
    subst he
    have HR := Lib.hid (show GivesMfb w ((nn : Int), (nf : Int), (nt : Int), (nq : Int), d, ps) (.returned (.tuple #[.slice A6 (List.length m6) c6, .nilIface])) w6 from ⟨A6, c6, m6, by rw [H0.out]; rfl, (show _ = _ from by rw [hm6.out, HP.out, HCm.out]), Own.more ho6 hbr.size, bel_call hbr hb6⟩)
    clear ho6 hb6 hm6
    go_wp2_with fail
    go_ret2
    exact HR.out
def mfdig (x : Mf) : Dg × Nat := if mchk x = 0 then (shaD (mfput x), 0) else (dg0, mchk x)
theorem res_dgM2 {fn : Func} {a b : Nat} {tmps : Array Value} {w : World} {g : Nat} {d : Dg} (hres : fn.results = #[.cell a 35, .tmp b]) (ha : tmps.getD a undef = .pointer (some ⟨g, 0, none⟩)) (hB : Blk w g 35 (dga d)) : (results fn tmps).run Tryz.prog w = .ok (.tuple #[.agg (dga d), tmps.getD b undef]) w := by
 have h := run_loadVar_at (P := Tryz.prog) w ⟨g, 0, none⟩ 35 (dga d) hB.cells _ Tryz.underlying35 rfl (by rw [dga_size]; kernel_rfl)
 have ha' : tmps[a]?.getD undef = .pointer (some ⟨g, 0, none⟩) := by simpa using ha
 simp [results, hres, asAddr, h, ha']
theorem built_dgzM : Tryz.prog.built 35 [] = some (dga dg0) := by kernel_rfl
theorem wpl_buildDzM {w : World} {ops : Array Oper} {rest : List Oper} {o : Oper} {a : Act} {Q : Exit → Act → World → Prop} (hgd : Region.wanted o (yielded ops a.tmps) = true) (ho : o.op = .build 35 #[])
 (h : wpList Tryz.prog ops Q rest (a.put o.dst (.agg (dga dg0))) w) : wpList Tryz.prog ops Q (o :: rest) a w := wpList_step fun _ hK => by
 have hl : ((#[] : Array (Nat × Operand)).map fun (i, x) => (i, a.eval x)).toList = [] := by simp
 rw [if_pos hgd]
 refine wp_build 35 _ ho ?_ ?_
 · rw [hl, built_dgzM]; rfl
 · rw [hl, built_dgzM]; exact hK _ _ h
set_option maxRecDepth 100000 in
set_option maxHeartbeats 1000000 in
theorem MDigest_any {A : Option Addr} {c : Nat} (n f t q : Int) (d : Dg) (ps : List Pt5) (w : World) (hG : Shg w) (h : SlP w A c ps) (hI : PtsI ps) :
 Calls Tryz.prog 79 #[.agg (mfa n f t q d A ps.length c)] w fun e w' => e = .returned (.tuple #[.agg (dga (mfdig (n, f, t, q, d, ps)).1), errv (mfdig (n, f, t, q, d, ps)).2]) ∧ Below w.heap.size w w' := by
 have hM := ((Mm.start w).alloc (mfa n f t q d A ps.length c) 46).alloc (dga dg0) 35
 rw [show (w.alloc (.cells (mfa n f t q d A ps.length c) 46)).heap.size = w.heap.size + 1 from by simp] at hM
 have hmz := Lib.hid (mfa_size n f t q d A ps.length c)
 have hds := fun d => Lib.hid (dga_size d)
 have hda := fun d => Lib.hid (dga_all d)
 have HC := Lib.hid (fun W (hh : Below w.heap.size w W) => MPut_any n f t q d ps W (h.below hh) hI)
 have HL := Lib.hid (mfput_len (n, f, t, q, d, ps))
 have HG := Lib.hid (show mfdig (n, f, t, q, d, ps) = if mchk (n, f, t, q, d, ps) = 0 then (shaD (mfput (n, f, t, q, d, ps)), 0) else (dg0, mchk (n, f, t, q, d, ps)) from rfl)
 go_enter Tryz.func79, Tryz.ntmps79
 go_upto_region 1 with (fail)
 refine gen1 (T := fun W => Mm w W [(w.heap.size + 1, 35, dga dg0), (w.heap.size, 46, mfa n f t q d A ps.length c)] []) hM (fun w1 hM => ?_)
 go_wp2_with (refine wpl_loadG rfl 46 _ rfl ⟨w.heap.size, 0, none⟩ (mfa n f t q d A ps.length c) rfl hM.b1.cells _ Tryz.underlying46 rfl (by rw [hmz.out]; kernel_rfl) ?_)
 refine (HC.out _ hM.bel).mono ?_
 rintro e w2 ⟨A1, c1, m1, rfl, hm1, ho1, hb1⟩
 have hM2 := hM.call hb1
 have hs1 : SlB w2 A1 c1 m1 := Own.sl ho1
 clear hM hb1 ho1 HC
 generalize mchk (n, f, t, q, d, ps) = k at *
 rcases errv_cases k with ⟨h0, hev⟩ | ⟨ke, hk1, hke, hev⟩
 · rw [if_pos h0] at HG
   rw [hev]
   have HS := Lib.hid (Sum_any m1 w2 (hG.below hM2.bel) hs1 (by rw [hm1.out]; have := HL.out; omega))
   go_wp2_with fail
   refine HS.out.mono ?_
   clear HS
   rintro e w3 ⟨rfl, hb3⟩
   have hM3 := hM2.call hb3
   rw [hm1.out]
   generalize shaD (mfput (n, f, t, q, d, ps)) = dx at *
   go_wp2_with (refine wpList_store_row rfl 35 _ _ rfl (w.heap.size + 1) (dga dx) rfl rfl 35 (dga dg0) hM3.b0 (by rw [(hds dx).out]; kernel_rfl) (by rw [(hds dg0).out, (hds dx).out]) (hda dx).out ?_)
   exact bodyPost_ret (res_dgM2 rfl rfl (g := w.heap.size + 1) hM3.b0.row) rfl ⟨by rw [HG.out]; rfl, below_setRow hM3.bel (by omega) _⟩
 · rw [if_neg (by omega)] at HG
   rw [hev]
   have HEV := Lib.hid hev
   clear hev hke
   go_wp2_with (first | (refine wpl_buildDzM (by kernel_rfl) rfl ?_) | (refine wpList_store_row rfl 35 _ _ rfl (w.heap.size + 1) (dga dg0) rfl rfl 35 (dga dg0) hM2.b0 (by rw [(hds dg0).out]; kernel_rfl) rfl (hda dg0).out ?_))
   exact bodyPost_ret (res_dgM2 rfl rfl (g := w.heap.size + 1) hM2.b0.row) rfl ⟨by rw [HG.out]; dsimp only; rw [HEV.out]; rfl, below_setRow hM2.bel (by omega) _⟩
end
section
open Go.RowKit Go.Shelf
theorem mva_all (x : MfV) : (mva x).all (·.oneCell') = true := by
 rw [Array.all_eq_true']
 intro v hv
 simp only [mva, mfa, mfl, List.mem_toArray, List.mem_cons, List.mem_append] at hv
 rcases hv with rfl | rfl | rfl | rfl | hv | rfl | hv
 · rfl
 · rfl
 · rfl
 · rfl
 · obtain ⟨b, -, rfl⟩ := List.mem_map.1 hv
   rfl
 · rfl
 · exact (List.not_mem_nil hv).elim
theorem res_mfL {fn : Func} {a : Nat} {tmps : Array Value} {w : World} {g : Nat} {x : MfV} (hres : fn.results = #[.cell a 46]) (ha : tmps.getD a undef = .pointer (some ⟨g, 0, none⟩)) (hB : Blk w g 46 (mva x)) : (results fn tmps).run Tryz.prog w = .ok (.agg (mva x)) w := by
 have h := run_loadVar_at (P := Tryz.prog) w ⟨g, 0, none⟩ 46 (mva x) hB.cells _ Tryz.underlying46 rfl (by rw [mva_size]; kernel_rfl)
 have ha' : tmps[a]?.getD undef = .pointer (some ⟨g, 0, none⟩) := by simpa using ha
 simp [results, hres, asAddr, h, ha']
theorem mvlast_at {l : List MfV} (h : 0 < l.length) : mvlast l = l[l.length - 1] := by
 unfold mvlast
 rw [List.getLast?_eq_getElem?, List.getElem?_eq_getElem (by omega)]
 rfl
set_option maxRecDepth 100000 in
set_option maxHeartbeats 1000000 in
theorem Last_any {E : Option Addr} {cap : Nat} (l : List MfV) (w : World) (h : SlM w E cap l) :
 Calls Tryz.prog 42 #[.slice E l.length cap] w fun e w' => e = .returned (.agg (mva (mvlast l))) ∧ Below w.heap.size w w' := by
 have hM := ((Mm.start w).alloc (mva mvz) 46).alloc (mva mvz) 46
 rw [show (w.alloc (.cells (mva mvz) 46)).heap.size = w.heap.size + 1 from by simp] at hM
 have hms := fun x => Lib.hid (mva_size x)
 have hma := fun x => Lib.hid (mva_all x)
 have hmax := h.1.2.1
 have hmax2 := h.1.2.2.1
 unfold maxLen at hmax2
 rcases Nat.eq_zero_or_pos l.length with h0 | h0
 · obtain rfl : l = [] := List.length_eq_zero_iff.1 h0
   clear h0
   rw [show mvlast ([] : List MfV) = mvz from rfl]
   go_enter Tryz.func42, Tryz.ntmps42
   go_upto_region 2 with (fail)
   refine gen1 (T := fun W => Mm w W [(w.heap.size + 1, 46, mva mvz), (w.heap.size, 46, mva mvz)] []) hM (fun w1 hM => ?_)
   go_wp2_with (first | (refine wpl_loadG rfl 46 _ rfl ⟨w.heap.size + 1, 0, none⟩ (mva mvz) rfl hM.b0.cells _ Tryz.underlying46 rfl (by rw [(hms mvz).out]; kernel_rfl) ?_) | (refine wpList_store_row rfl 46 _ _ rfl w.heap.size (mva mvz) rfl rfl 46 (mva mvz) hM.b1 (by rw [(hms mvz).out]; kernel_rfl) rfl (hma mvz).out ?_))
   exact bodyPost_ret (res_mfL rfl rfl (g := w.heap.size) hM.b1.row) rfl ⟨rfl, below_setRow hM.bel (by omega) _⟩
 · have hat := fun (W : World) (hW : Below w.heap.size w W) => (h.below hW).at (k := l.length - 1) (by omega)
   rw [mvlast_at h0]
   have hlm : ((l.length : Int) == 0) = false := by rw [beq_eq_false_iff_ne]; omega
   have hix : (l.length : Int) - 1 = ((l.length - 1 : Nat) : Int) := by omega
   generalize l[l.length - 1] = x at *
   clear h
   go_enter Tryz.func42, Tryz.ntmps42
   go_upto_region 2 with (fail)
   refine gen1 (T := fun W => Mm w W [(w.heap.size + 1, 46, mva mvz), (w.heap.size, 46, mva mvz)] []) hM (fun w1 hM => ?_)
   obtain ⟨ad, b, o, rfl, had, hcc⟩ := hat w1 hM.bel
   have HCC := Lib.hid hcc
   clear hcc hat
   go_wp2_with (first | (refine wpl_loadG rfl 46 _ rfl ⟨b, o, none⟩ (mva x) rfl HCC.out _ Tryz.underlying46 rfl (by rw [(hms x).out]; kernel_rfl) ?_) | (refine wpList_store_row rfl 46 _ _ rfl w.heap.size (mva x) rfl rfl 46 (mva mvz) hM.b1 (by rw [(hms x).out]; kernel_rfl) (by rw [(hms mvz).out, (hms x).out]) (hma x).out ?_))
   exact bodyPost_ret (res_mfL rfl rfl (g := w.heap.size) hM.b1.row) rfl ⟨rfl, below_setRow hM.bel (by omega) _⟩
theorem field_mvt (n f t r : Int) (A : Option Addr) (k c : Nat) (w : World) : ∀ d : Dg, (Instr.field 46 (.agg (mfa n f t r d A k c)) 2).run Tryz.prog w = .ok (.int .i64 t) w := by
 refine dg_cases ?_
 intros
 kernel_rfl
theorem field_mvr (n f t r : Int) (A : Option Addr) (k c : Nat) (w : World) : ∀ d : Dg, (Instr.field 46 (.agg (mfa n f t r d A k c)) 3).run Tryz.prog w = .ok (.int .i64 r) w := by
 refine dg_cases ?_
 intros
 kernel_rfl
set_option maxRecDepth 100000 in
set_option maxHeartbeats 1000000 in
theorem ChEnd_any {E : Option Addr} {cap : Nat} (l : List MfV) (w : World) (h : SlM w E cap l) :
 Calls Tryz.prog 38 #[.slice E l.length cap] w fun e w' => e = .returned (.int .i64 (cend (mvs l))) ∧ Below w.heap.size w w' := by
 have HC := Lib.hid (Last_any l w h)
 have hf : ∀ W, (Instr.field 46 (.agg (mva (mvlast l))) 2).run Tryz.prog W = .ok (.int .i64 (cend (mvs l))) W := fun W => by
  rw [cend_mvs]
  exact field_mvt _ _ _ _ _ _ _ W _
 generalize mva (mvlast l) = x at *
 generalize cend (mvs l) = y at *
 clear h
 go_enter Tryz.func38, Tryz.ntmps38
 go_wp2_with fail
 refine HC.out.mono ?_
 rintro e w1 ⟨rfl, hb1⟩
 go_wp2_with fail
 go_ret
 exact ⟨rfl, hb1⟩
set_option maxRecDepth 100000 in
set_option maxHeartbeats 1000000 in
theorem ChMark_any {E : Option Addr} {cap : Nat} (l : List MfV) (w : World) (h : SlM w E cap l) :
 Calls Tryz.prog 13 #[.slice E l.length cap] w fun e w' => e = .returned (.int .i64 (cmark (mvs l))) ∧ Below w.heap.size w w' := by
 have HC := Lib.hid (Last_any l w h)
 have hf : ∀ W, (Instr.field 46 (.agg (mva (mvlast l))) 3).run Tryz.prog W = .ok (.int .i64 (cmark (mvs l))) W := fun W => by
  rw [cmark_mvs]
  exact field_mvr _ _ _ _ _ _ _ W _
 generalize mva (mvlast l) = x at *
 generalize cmark (mvs l) = y at *
 clear h
 go_enter Tryz.func13, Tryz.ntmps13
 go_wp2_with fail
 refine HC.out.mono ?_
 rintro e w1 ⟨rfl, hb1⟩
 go_wp2_with fail
 go_ret
 exact ⟨rfl, hb1⟩
def mvhead (l : List MfV) : Dg × Nat := if l.length = 0 then (dg0, 0) else mfdig (mvlast l).1
set_option maxRecDepth 100000 in
set_option maxHeartbeats 1000000 in
theorem ChHead_any {E : Option Addr} {cap : Nat} (l : List MfV) (w : World) (hG : Shg w) (h : SlM w E cap l) :
 Calls Tryz.prog 39 #[.slice E l.length cap] w fun e w' => e = .returned (.tuple #[.agg (dga (mvhead l).1), errv (mvhead l).2]) ∧ Below w.heap.size w w' := by
 have hM := (Mm.start w).alloc (dga dg0) 35
 have hds := fun d => Lib.hid (dga_size d)
 have hda := fun d => Lib.hid (dga_all d)
 have hmax := h.1.2.1
 have hmax2 := h.1.2.2.1
 unfold maxLen at hmax2
 rcases Nat.eq_zero_or_pos l.length with h0 | h0
 · obtain rfl : l = [] := List.length_eq_zero_iff.1 h0
   clear h0
   rw [show mvhead [] = (dg0, 0) from rfl]
   go_enter Tryz.func39, Tryz.ntmps39
   go_upto_region 1 with (fail)
   refine gen1 (T := fun W => Mm w W [(w.heap.size, 35, dga dg0)] []) hM (fun w1 hM => ?_)
   go_wp2_with (first | (refine wpl_buildDzM rfl rfl ?_) | (refine wpList_store_row rfl 35 _ _ rfl w.heap.size (dga dg0) rfl rfl 35 (dga dg0) hM.b0 (by rw [(hds dg0).out]; kernel_rfl) rfl (hda dg0).out ?_))
   exact bodyPost_ret (res_dgM2 rfl rfl (g := w.heap.size) hM.b0.row) rfl ⟨rfl, below_setRow hM.bel (by omega) _⟩
 · have hlm : ((l.length : Int) == 0) = false := by rw [beq_eq_false_iff_ne]; omega
   have hx : mvlast l ∈ l := by rw [mvlast_at h0]; exact List.getElem_mem _
   have HL := Lib.hid (fun W (hh : Below w.heap.size w W) => Last_any l W (h.below hh))
   have hsp := (h.2 _ hx).1
   have hpi := (h.2 _ hx).2.2.2.2.2
   rw [show mvhead l = mfdig (mvlast l).1 from if_neg (by omega)]
   have HD := Lib.hid (fun W (hh : Below w.heap.size w W) => MDigest_any (mvlast l).1.1 (mvlast l).1.2.1 (mvlast l).1.2.2.1 (mvlast l).1.2.2.2.1 (mvlast l).1.2.2.2.2.1 (mvlast l).1.2.2.2.2.2 W (hG.below hh) (hsp.below hh) hpi)
   rw [show mfa (mvlast l).1.1 (mvlast l).1.2.1 (mvlast l).1.2.2.1 (mvlast l).1.2.2.2.1 (mvlast l).1.2.2.2.2.1 (mvlast l).2.1 (mvlast l).1.2.2.2.2.2.length (mvlast l).2.2 = mva (mvlast l) from rfl, show ((mvlast l).1.1, (mvlast l).1.2.1, (mvlast l).1.2.2.1, (mvlast l).1.2.2.2.1, (mvlast l).1.2.2.2.2.1, (mvlast l).1.2.2.2.2.2) = (mvlast l).1 from rfl] at HD
   generalize mva (mvlast l) = va at *
   generalize mfdig (mvlast l).1 = g at *
   obtain ⟨gd, ge⟩ := g
   clear hx hsp hpi h hG h0
   go_enter Tryz.func39, Tryz.ntmps39
   go_upto_region 1 with (fail)
   refine gen1 (T := fun W => Mm w W [(w.heap.size, 35, dga dg0)] []) hM (fun w1 hM => ?_)
   go_wp2_with fail
   refine (HL.out _ hM.bel).mono ?_
   rintro e w2 ⟨rfl, hb2⟩
   have hM2 := hM.call hb2
   clear hM hb2
   go_wp2_with fail
   refine (HD.out _ hM2.bel).mono ?_
   rintro e w3 ⟨rfl, hb3⟩
   have hM3 := hM2.call hb3
   clear hM2 hb3 HD HL
   dsimp only
   go_wp2_with (refine wpList_store_row rfl 35 _ _ rfl w.heap.size (dga gd) rfl rfl 35 (dga dg0) hM3.b0 (by rw [(hds gd).out]; kernel_rfl) (by rw [(hds dg0).out, (hds gd).out]) (hda gd).out ?_)
   exact bodyPost_ret (res_dgM2 rfl rfl (g := w.heap.size) hM3.b0.row) rfl ⟨rfl, below_setRow hM3.bel (by omega) _⟩
end
section
abbrev Bs := List UInt8
/-! ### the order of names -/
theorem bb_lit (a b : Bs) : bytesBefore a b = (Lit.string a).before (.string b) := rfl
theorem bb_irrefl (a : Bs) : bytesBefore a a = false := by
 cases h : bytesBefore a a
 · rfl
 · exact absurd h (by rw [bb_lit]; exact Bool.not_eq_true _ ▸ WideShapes.before_irrefl _)
theorem bb_trans {a b c : Bs} (h : bytesBefore a b = true) (k : bytesBefore b c = true) : bytesBefore a c = true := WideShapes.before_trans (a := .string a) (b := .string b) (c := .string c) h k
theorem bb_total : ∀ {a b : Bs}, a ≠ b → bytesBefore a b = true ∨ bytesBefore b a = true
 | [], [], h => absurd rfl h
 | [], _ :: _, _ => .inl rfl
 | _ :: _, [], _ => .inr rfl
 | x :: r, y :: s, h => by
  unfold bytesBefore
  by_cases hxy : x = y
  · subst hxy
    have hrs : r ≠ s := fun e => h (by rw [e])
    rcases bb_total hrs with h1 | h1
    · left; simp [h1]
    · right; simp [h1]
  · rcases Nat.lt_or_gt_of_ne (fun e => hxy (UInt8.toNat_inj.1 e)) with h1 | h1
    · left; simp [UInt8.lt_iff_toNat_lt, h1]
    · right; simp [UInt8.lt_iff_toNat_lt, h1]
/-! ### files by names: rising, no name twice -/
section
variable {α β : Type}
def gdel (k : Bs) (l : List (Bs × α)) : List (Bs × α) := l.filter fun p => !(p.1 == k)
def gins (x : Bs × α) : List (Bs × α) → List (Bs × α)
 | [] => [x]
 | y :: r => if bytesBefore x.1 y.1 = true then x :: y :: r else y :: gins x r
def gput (k : Bs) (v : α) (l : List (Bs × α)) : List (Bs × α) := gins (k, v) (gdel k l)
def gget (k : Bs) (l : List (Bs × α)) : Option α := (l.find? fun p => p.1 == k).map (·.2)
def gmap (f : α → β) (l : List (Bs × α)) : List (Bs × β) := l.map fun p => (p.1, f p.2)
theorem gins_map (f : α → β) (x : Bs × α) : ∀ l : List (Bs × α), gins (x.1, f x.2) (gmap f l) = gmap f (gins x l)
 | [] => rfl
 | y :: r => by
  have ih := gins_map f x r
  show (if bytesBefore x.1 y.1 = true then (x.1, f x.2) :: (y.1, f y.2) :: gmap f r else (y.1, f y.2) :: gins (x.1, f x.2) (gmap f r)) = gmap f (if bytesBefore x.1 y.1 = true then x :: y :: r else y :: gins x r)
  split
  · rfl
  · rw [ih]; rfl
theorem gmem_ins {x y : Bs × α} : ∀ {l : List (Bs × α)}, y ∈ gins x l ↔ y = x ∨ y ∈ l
 | [] => by simp [gins]
 | z :: r => by
  unfold gins
  split
  · simp
  · simp only [List.mem_cons, gmem_ins (l := r)]
    constructor
    · rintro (h | h | h) <;> simp [h]
    · rintro (h | h | h) <;> simp [h]
theorem gmem_del {k : Bs} {y : Bs × α} {l : List (Bs × α)} : y ∈ gdel k l ↔ y ∈ l ∧ y.1 ≠ k := by
 unfold gdel
 rw [List.mem_filter]
 simp
theorem gmem_put {k : Bs} {v : α} {y : Bs × α} {l : List (Bs × α)} : y ∈ gput k v l ↔ y = (k, v) ∨ (y ∈ l ∧ y.1 ≠ k) := by
 unfold gput
 rw [gmem_ins, gmem_del]
def Ris (l : List (Bs × α)) : Prop := l.Pairwise fun p q => bytesBefore p.1 q.1 = true
theorem Ris.nil : Ris ([] : List (Bs × α)) := List.Pairwise.nil
theorem Ris.del {l : List (Bs × α)} (h : Ris l) (k : Bs) : Ris (gdel k l) := h.filter _
theorem Ris.ins {x : Bs × α} : ∀ {l : List (Bs × α)}, Ris l → (∀ p ∈ l, p.1 ≠ x.1) → Ris (gins x l)
 | [], _, _ => List.pairwise_singleton _ _
 | y :: r, h, hn => by
  obtain ⟨h1, h2⟩ := List.pairwise_cons.1 h
  unfold gins
  split
  · rename_i hb
    refine List.pairwise_cons.2 ⟨fun q hq => ?_, h⟩
    rcases List.mem_cons.1 hq with rfl | hq
    · exact hb
    · exact bb_trans hb (h1 q hq)
  · rename_i hb
    have hyx : bytesBefore y.1 x.1 = true := by
     rcases bb_total (hn y (.head _)) with h' | h'
     · exact h'
     · exact absurd h' hb
    refine List.pairwise_cons.2 ⟨fun q hq => ?_, Ris.ins h2 fun p hp => hn p (.tail _ hp)⟩
    rcases gmem_ins.1 hq with rfl | hq
    · exact hyx
    · exact h1 q hq
theorem Ris.put {l : List (Bs × α)} (h : Ris l) (k : Bs) (v : α) : Ris (gput k v l) := (h.del k).ins fun p hp => (gmem_del.1 hp).2
theorem gget_mem {k : Bs} {v : α} {l : List (Bs × α)} (h : gget k l = some v) : (k, v) ∈ l := by
 unfold gget at h
 cases hq : l.find? (fun p => p.1 == k) with
 | none => rw [hq] at h; cases h
 | some p =>
  rw [hq] at h
  have hm := List.mem_of_find?_eq_some hq
  have hk := List.find?_some hq
  obtain ⟨a, b⟩ := p
  simp only [beq_iff_eq, Option.map_some, Option.some.injEq] at hk h
  subst hk h
  exact hm
theorem gget_none {k : Bs} {l : List (Bs × α)} : gget k l = none ↔ ∀ p ∈ l, p.1 ≠ k := by
 unfold gget
 rw [Option.map_eq_none_iff, List.find?_eq_none]
 simp
theorem gget_of_mem {k : Bs} {v : α} {l : List (Bs × α)} (hr : Ris l) (h : (k, v) ∈ l) : gget k l = some v := by
 induction l with
 | nil => cases h
 | cons y r ih =>
  obtain ⟨h1, h2⟩ := List.pairwise_cons.1 hr
  unfold gget
  rw [List.find?_cons]
  rcases List.mem_cons.1 h with rfl | h
  · simp
  · have hy : (y.1 == k) = false := by
     rw [beq_eq_false_iff_ne]
     rintro rfl
     have := h1 _ h
     rw [bb_irrefl] at this
     cases this
    rw [hy]
    exact ih h2 h
theorem gget_del_same (k : Bs) (l : List (Bs × α)) : gget k (gdel k l) = none := gget_none.2 fun p hp => (gmem_del.1 hp).2
theorem gget_del_other {k j : Bs} (h : j ≠ k) : ∀ l : List (Bs × α), gget j (gdel k l) = gget j l
 | [] => rfl
 | y :: r => by
  have ih := gget_del_other h r
  unfold gget gdel at ih ⊢
  rw [List.filter_cons]
  by_cases hy : y.1 = k
  · have hyj : (y.1 == j) = false := by rw [beq_eq_false_iff_ne, hy]; exact fun e => h e.symm
    rw [if_neg (by simp [hy]), List.find?_cons, hyj]
    exact ih
  · rw [if_pos (by simp [hy]), List.find?_cons, List.find?_cons]
    cases y.1 == j
    · exact ih
    · rfl
theorem gget_ins_same (k : Bs) (v : α) : ∀ l : List (Bs × α), (∀ p ∈ l, p.1 ≠ k) → gget k (gins (k, v) l) = some v
 | [], _ => by simp [gins, gget]
 | y :: r, h => by
  have ih := gget_ins_same k v r fun p hp => h p (.tail _ hp)
  unfold gins
  split
  · simp [gget]
  · unfold gget at ih ⊢
    rw [List.find?_cons, show (y.1 == k) = false from beq_eq_false_iff_ne.2 (h y (.head _))]
    exact ih
theorem gget_ins_other {k j : Bs} (v : α) (h : j ≠ k) : ∀ l : List (Bs × α), gget j (gins (k, v) l) = gget j l
 | [] => by
  have : (k == j) = false := beq_eq_false_iff_ne.2 fun e => h e.symm
  simp [gins, gget, this]
 | y :: r => by
  have ih := gget_ins_other v h r
  have hk : (k == j) = false := beq_eq_false_iff_ne.2 fun e => h e.symm
  unfold gins
  split
  · unfold gget
    rw [List.find?_cons, hk]
  · unfold gget at ih ⊢
    rw [List.find?_cons, List.find?_cons]
    cases y.1 == j
    · exact ih
    · rfl
theorem gget_put_same (k : Bs) (v : α) (l : List (Bs × α)) : gget k (gput k v l) = some v := gget_ins_same k v _ fun _ hp => (gmem_del.1 hp).2
theorem gget_put_other {k j : Bs} (v : α) (h : j ≠ k) (l : List (Bs × α)) : gget j (gput k v l) = gget j l := by
 unfold gput
 rw [gget_ins_other v h, gget_del_other h]
theorem glen_ins (x : Bs × α) : ∀ l : List (Bs × α), (gins x l).length = l.length + 1
 | [] => rfl
 | y :: r => by
  unfold gins
  split
  · rfl
  · simp [glen_ins x r]
theorem glen_put (k : Bs) (v : α) (l : List (Bs × α)) : (gput k v l).length ≤ l.length + 1 := by
 unfold gput gdel
 rw [glen_ins]
 have := List.length_filter_le (fun p : Bs × α => !(p.1 == k)) l
 omega
theorem glen_del (k : Bs) (l : List (Bs × α)) : (gdel k l).length ≤ l.length := List.length_filter_le _ _
theorem Ris.ext : ∀ {l l' : List (Bs × α)}, Ris l → Ris l' → (∀ p, p ∈ l ↔ p ∈ l') → l = l'
 | [], [], _, _, _ => rfl
 | [], y :: r, _, _, h => absurd ((h y).2 (.head _)) (by simp)
 | x :: r, [], _, _, h => absurd ((h x).1 (.head _)) (by simp)
 | x :: r, y :: s, hl, hl', h => by
  obtain ⟨h1, h2⟩ := List.pairwise_cons.1 hl
  obtain ⟨k1, k2⟩ := List.pairwise_cons.1 hl'
  have hxy : x = y := by
   rcases List.mem_cons.1 ((h x).1 (.head _)) with e | e
   · exact e
   · rcases List.mem_cons.1 ((h y).2 (.head _)) with e2 | e2
     · exact e2.symm
     · have a := k1 _ e
       have b := h1 _ e2
       have := bb_trans a b
       rw [bb_irrefl] at this
       cases this
  subst hxy
  congr 1
  refine Ris.ext h2 k2 fun p => ⟨fun hp => ?_, fun hp => ?_⟩
  · rcases List.mem_cons.1 ((h p).1 (.tail _ hp)) with rfl | e
    · have := h1 _ hp; rw [bb_irrefl] at this; cases this
    · exact e
  · rcases List.mem_cons.1 ((h p).2 (.tail _ hp)) with rfl | e
    · have := k1 _ hp; rw [bb_irrefl] at this; cases this
    · exact e
end
/-! ### changes, disks -/
structure Chg (α : Type) where
 kind : Nat
 name : Bs
 «to» : Bs
 val : α
structure Dk (α : Type) where
 room : Int
 sure : List (Bs × α)
 pend : List (Chg α)
 fuse : Int
 down : Bool
section
variable {α β : Type}
def fdo (l : List (Bs × α)) (c : Chg α) : List (Bs × α) :=
 if c.kind = 0 then gput c.name c.val l else match gget c.name l with
  | none => l
  | some b => if c.kind = 1 then gput c.to b (gdel c.name l) else gdel c.name l
theorem Ris.fdo {l : List (Bs × α)} (h : Ris l) (c : Chg α) : Ris (fdo l c) := by
 unfold Go.Proofs.YtajfnmohlnkncaaGreatDoor.fdo
 split
 · exact h.put _ _
 · split
   · exact h
   · split
     · exact (h.del _).put _ _
     · exact h.del _
theorem flen_do (l : List (Bs × α)) (c : Chg α) : (fdo l c).length ≤ l.length + 1 := by
 unfold fdo
 split
 · exact glen_put _ _ _
 · split
   · omega
   · split
     · have h1 := glen_del c.name l
       rename_i b _ _
       have h2 := glen_put c.to b (gdel c.name l)
       omega
     · have := glen_del c.name l
       omega
def fdos (l : List (Bs × α)) (cs : List (Chg α)) : List (Bs × α) := cs.foldl fdo l
theorem Ris.fdos {l : List (Bs × α)} (h : Ris l) (cs : List (Chg α)) : Ris (fdos l cs) := by
 unfold Go.Proofs.YtajfnmohlnkncaaGreatDoor.fdos
 induction cs generalizing l with
 | nil => exact h
 | cons c r ih => exact ih (h.fdo c)
theorem flen_dos (l : List (Bs × α)) (cs : List (Chg α)) : (fdos l cs).length ≤ l.length + cs.length := by
 unfold fdos
 induction cs generalizing l with
 | nil => simp
 | cons c r ih =>
  have h1 := ih (fdo l c)
  have h2 := flen_do l c
  simp only [List.foldl_cons, List.length_cons]
  omega
theorem fdos_snoc (l : List (Bs × α)) (cs : List (Chg α)) (c : Chg α) : fdos l (cs ++ [c]) = fdo (fdos l cs) c := by
 unfold fdos
 rw [List.foldl_append]
 rfl
def Dk.shown (d : Dk α) : List (Bs × α) := fdos d.sure d.pend
def dWorks (d : Dk α) : Dk α × Nat :=
 if d.down = true then (d, 14) else if d.fuse = 0 then ({ d with down := true }, 14) else if 0 < d.fuse then ({ d with fuse := d.fuse - 1 }, 0) else (d, 0)
def dAdd (d : Dk α) (c : Chg α) : Dk α := { d with pend := d.pend ++ [c] }
def isSign (c : UInt8) : Bool := (97 ≤ c && c ≤ 122) || (48 ≤ c && c ≤ 57) || c == 45 || c == 46 || c == 126
def named (s : Bs) : Bool := decide (1 ≤ s.length) && decide (s.length ≤ 24) && s.all isSign
def fused (len : α → Nat) (l : List (Bs × α)) : Nat := (l.map fun p => len p.2).sum
def dWrite (len : α → Nat) (d : Dk α) (n : Bs) (v : α) : Dk α × Nat :=
 if (dWorks d).2 ≠ 0 then dWorks d
 else if named n = false then ((dWorks d).1, 2)
 else if 65536 < len v then ((dWorks d).1, 3)
 else if (gget n d.shown).isNone = true ∧ 512 ≤ d.shown.length ∨ d.room < (fused len d.shown : Int) - ((gget n d.shown).map len).getD 0 + len v then ((dWorks d).1, 5)
 else (dAdd (dWorks d).1 ⟨0, n, [], v⟩, 0)
def dRename (z : α) (d : Dk α) (n t : Bs) : Dk α × Nat :=
 if (dWorks d).2 ≠ 0 then dWorks d
 else if named n = false ∨ named t = false then ((dWorks d).1, 2)
 else if (gget n d.shown).isNone = true then ((dWorks d).1, 4)
 else (dAdd (dWorks d).1 ⟨1, n, t, z⟩, 0)
def dRemove (z : α) (d : Dk α) (n : Bs) : Dk α × Nat :=
 if (dWorks d).2 ≠ 0 then dWorks d
 else if named n = false then ((dWorks d).1, 2)
 else if (gget n d.shown).isNone = true then ((dWorks d).1, 4)
 else (dAdd (dWorks d).1 ⟨2, n, [], z⟩, 0)
def dSync (d : Dk α) : Dk α × Nat :=
 if (dWorks d).2 ≠ 0 then dWorks d else ({ (dWorks d).1 with sure := d.shown, pend := [] }, 0)
def kept (keep : List Bool) (cs : List (Chg α)) : List (Chg α) := ((cs.zip keep).filter (·.2)).map (·.1)
end
end
section
open Go.RowKit Go.Maps Go.Sort
structure Sv where
 A : Option Addr
 c : Nat
 l : Bs
def Sv.v (s : Sv) : Value := .slice s.A s.l.length s.c
def Sv.nil : Sv := ⟨none, 0, []⟩
def tok (v : Value) : Option (DataW Value × List MemPlace) := some (.held v, [])
def dat (l : List (Bs × Sv)) : DataW Value := .map (l.map fun p => (.string p.1, .held p.2.v))
theorem sameKey_str (a b : Bs) : (Lit.string a).sameKey (.string b) = (a == b) := rfl
theorem dat_put (k : Bs) (s : Sv) (l : List (Bs × Sv)) : (dat l).put (.string k) (.held s.v) = dat (gput k s l) := by
 unfold dat gput gdel
 rw [DataW.put_eq]
 unfold ChangeMaps.putKey
 congr 1
 rw [List.filter_map]
 have hf : (ChangeMaps.notKey (Lit.string k) ∘ fun p : Bs × Sv => ((Lit.string p.1, DataW.held p.2.v) : Lit × DataW Value)) = fun p => !(p.1 == k) := rfl
 rw [hf]
 generalize List.filter (fun p : Bs × Sv => !(p.1 == k)) l = r
 induction r with
 | nil => rfl
 | cons y r ih =>
  show (if (Lit.string k).before (.string y.1) = true then _ else _) = List.map _ (if bytesBefore k y.1 = true then _ else _)
  rw [show (Lit.string k).before (.string y.1) = bytesBefore k y.1 from rfl]
  split
  · rfl
  · rw [List.map_cons, ← ih]
theorem dat_del (k : Bs) (l : List (Bs × Sv)) : (dat l).del (.string k) = dat (gdel k l) := by
 unfold dat gdel
 rw [DataW.del_eq]
 unfold ChangeMaps.delKey
 rw [List.filter_map]
 rfl
theorem dat_at (k : Bs) (l : List (Bs × Sv)) : (dat l).atKey (.string k) (.held (.slice none 0 0)) = .held (((gget k l).map Sv.v).getD (.slice none 0 0)) := by
 unfold dat gget DataW.atKey
 dsimp only
 rw [List.find?_map]
 have hf : ((fun p : Lit × DataW Value => p.1.sameKey (Lit.string k)) ∘ fun p : Bs × Sv => ((Lit.string p.1, DataW.held p.2.v) : Lit × DataW Value)) = fun p => p.1 == k := rfl
 rw [hf]
 cases l.find? (fun p => p.1 == k) <;> rfl
theorem dat_has (k : Bs) (l : List (Bs × Sv)) : Maps.has (dat l) (.string k) = (gget k l).isSome := by
 unfold dat gget
 rw [Maps.has_eq]
 induction l with
 | nil => rfl
 | cons y r ih =>
  rw [List.map_cons, List.any_cons, List.find?_cons]
  show (y.1 == k || _) = _
  cases hy : y.1 == k
  · rw [Bool.false_or]; exact ih
  · rfl
theorem dat_size (l : List (Bs × Sv)) : Maps.size (dat l) = l.length := by unfold dat; rw [Maps.size_eq, List.length_map]
section
variable {P : Program} {K T E : TypeId} {w w' : World} {b n : Nat} {l : List (Bs × Sv)}
def Om (P : Program) (K : TypeId) (w : World) (b : Nat) (l : List (Bs × Sv)) : Prop := w.ownsMap P K tok b l.length (dat l)
theorem key_str (hK : P.underlying K = some .string) {k : Bs} (hk : k.length ≤ maxLen) : keyOf P K (.string ⟨k.toArray⟩) = some (.string k) := by
 have := Go.WideMaps.keyOf_string_mk hK (s := ⟨k.toArray⟩) (by simpa [ByteArray.size] using hk)
 simpa using this
theorem Om.of (h : w.ownsMap P K tok b n (dat l)) : Om P K w b l := by
 obtain ⟨es, clock, hb, F, _, hD⟩ := h
 refine ⟨es, clock, hb, F, ?_, hD⟩
 have h1 : (dat l) = .map (l.map fun p => (.string p.1, .held p.2.v)) := rfl
 rw [h1] at hD
 injection hD with hD
 have h2 := congrArg List.length hD
 rw [length_sorted] at h2
 simp at h2
 omega
theorem Om.lt (h : Om P K w b l) : b < w.heap.size := World.ownsMap.lt h
theorem Om.same (h : Om P K w b l) (e : w'.heap[b]? = w.heap[b]?) : Om P K w' b l := by
 obtain ⟨es, clock, hb, r⟩ := h
 exact ⟨es, clock, e.trans hb, r⟩
theorem Om.new (w : World) : Om P K (w.alloc (.map #[] 0)) w.heap.size [] := World.ownsMap_made w P K tok
theorem Om.look (h : Om P K w b l) (hK : P.underlying K = some .string) (hT : P.underlying T = some (.map K E)) (hz : (zeroValue E).run P w = .ok (.slice none 0 0) w) {k : Bs} (hk : k.length ≤ maxLen) :
 (Instr.lookup T (.map (some b)) (.string ⟨k.toArray⟩) true).run P w = .ok (.tuple #[((gget k l).map Sv.v).getD (.slice none 0 0), .bool (gget k l).isSome]) w := by
 obtain ⟨v, ps, hrun, hv⟩ := h.look_ok (string_keyed hK) hT hz (zd := .held (.slice none 0 0)) (zp := []) rfl (key := .string ⟨k.toArray⟩) (kl := .string k) (key_str hK hk)
 rw [dat_at, dat_has] at *
 unfold tok at hv
 injection hv with hv
 injection hv with hv
 injection hv with hv
 subst hv
 exact hrun
theorem Om.len (h : Om P K w b l) (hT : P.underlying T = some (.map K E)) (ty : TypeId) : (Builtin.len_ #[T] ty #[.map (some b)]).run P w = .ok (.int .i64 l.length) w := by
 have := World.ownsMap.len h hT ty
 rw [dat_size] at this
 exact this
theorem Om.store (h : Om P K w b l) (hK : P.underlying K = some .string) (hT : P.underlying T = some (.map K E)) (hn : l.length < maxLen) {k : Bs} (hk : k.length ≤ maxLen) (s : Sv) :
 ∃ w', (Instr.mapUpdate T (.map (some b)) (.string ⟨k.toArray⟩) s.v).run P w = .ok () w' ∧ Om P K w' b (gput k s l) ∧ w.grownBy w' (some b) := by
 obtain ⟨w', hrun, h1, h2⟩ := World.ownsMap.store h (string_keyed hK) hT hn (key := .string ⟨k.toArray⟩) (val := s.v) (kl := .string k) (d := .held s.v) (ps := []) (key_str hK hk) rfl
 rw [dat_put] at h1
 exact ⟨w', hrun, Om.of h1, h2.grown⟩
theorem Om.drop (h : Om P K w b l) (hK : P.underlying K = some .string) (hT : P.underlying T = some (.map K E)) {k : Bs} (hk : k.length ≤ maxLen) (ty : TypeId) :
 ∃ w', (Builtin.delete_ #[T, K] ty #[.map (some b), .string ⟨k.toArray⟩]).run P w = .ok (.tuple #[]) w' ∧ Om P K w' b (gdel k l) ∧ w.grownBy w' (some b) := by
 obtain ⟨w', hrun, h1, h2⟩ := World.ownsMap.drop h (string_keyed hK) hT (key := .string ⟨k.toArray⟩) (kl := .string k) (key_str hK hk) ty
 rw [dat_del] at h1
 exact ⟨w', hrun, Om.of h1, h2.grown⟩
end
end
section
open Go.RowKit Go.Maps Go.Sort
attribute [local go_sem ↓] Go.wp_at_zero Go.wp_at_succ
section
variable {P : Program} {K T E : TypeId} {w : World} {b : Nat} {l : List (Bs × Sv)} {ops : Array Oper} {rest : List Oper} {o : Oper} {a : Act} {Q : Exit → Act → World → Prop}
theorem wpl_putO (hg : o.guard = none) (m x v : Operand) (hop : o.op = Op.mapUpdate T m x v) (hK : P.underlying K = some .string) (hT : P.underlying T = some (.map K E)) (b : Nat) (l : List (Bs × Sv)) (hm : a.eval m = .map (some b)) (h : Om P K w b l) (hn : l.length < maxLen)
 (k : Bs) (hk : k.length ≤ maxLen) (hx : a.eval x = .string ⟨k.toArray⟩) (s : Sv) (hv : a.eval v = s.v) (hC : ∀ w', Om P K w' b (gput k s l) → w.grownBy w' (some b) → wpList P ops Q rest (a.put o.dst undef) w') : wpList P ops Q (o :: rest) a w := by
 refine wpList_plain hg fun K' hK' => ?_
 obtain ⟨w', hrun, r1, r2⟩ := h.store hK hT hn hk s
 unfold Oper.wp
 simp [execOp, hop, hm, hx, hv, hrun, Result.andThen]
 exact hK' _ _ (hC w' r1 r2)
theorem wpl_dropO (hg : o.guard = none) (m x : Operand) (hop : o.op = Op.call { callee := Callee.builtin Builtin.delete, args := #[m, x], argTypes := #[T, K] }) (hK : P.underlying K = some .string) (hT : P.underlying T = some (.map K E)) (b : Nat) (l : List (Bs × Sv)) (hm : a.eval m = .map (some b)) (h : Om P K w b l)
 (k : Bs) (hk : k.length ≤ maxLen) (hx : a.eval x = .string ⟨k.toArray⟩) (hC : ∀ w', Om P K w' b (gdel k l) → w.grownBy w' (some b) → wpList P ops Q rest (a.put o.dst (.tuple #[])) w') : wpList P ops Q (o :: rest) a w := by
 refine wpList_plain hg fun K' hK' => ?_
 obtain ⟨w', hrun, r1, r2⟩ := h.drop hK hT hk o.type
 unfold Oper.wp
 simp [execOp, hop, resolve, invoke, builtin, hm, hx, hrun, Result.andThen]
 exact hK' _ _ (hC w' r1 r2)
end
def chl (x : Chg Sv) : List Value := [.int .i64 x.kind, .string ⟨x.name.toArray⟩, .string ⟨x.to.toArray⟩, x.val.v]
abbrev cha (x : Chg Sv) : Array Value := #[.int .i64 x.kind, .string ⟨x.name.toArray⟩, .string ⟨x.to.toArray⟩, x.val.v]
abbrev OmD (w : World) (b : Nat) (l : List (Bs × Sv)) : Prop := Om Tryz.prog 9 w b l
theorem zero_bs (w : World) : (zeroValue 52).run Tryz.prog w = .ok (.slice none 0 0) w := by kernel_rfl
theorem OmD.below {w w' : World} {b : Nat} {l : List (Bs × Sv)} (h : OmD w b l) (hb : Below w.heap.size w w') : OmD w' b l := Om.same h (hb.block b h.lt)
theorem OmD.wr {w w' : World} {b g : Nat} {l : List (Bs × Sv)} (h : OmD w b l) (hb : Wr w w' g) (hne : b ≠ g) : OmD w' b l := Om.same h (hb.block b h.lt (fun e => hne (by injection e)))
theorem Blk.fourC {w : World} {g : Nat} {t : TypeId} {a b c d : Value} (h : Blk w g t #[a, b, c, d]) : w.cell? ⟨g, 0, none⟩ = some a ∧ w.cell? ⟨g, 1, none⟩ = some b ∧ w.cell? ⟨g, 2, none⟩ = some c ∧ w.cell? ⟨g, 3, none⟩ = some d := ⟨h.cell 0, h.cell 1, h.cell 2, h.cell 3⟩
theorem Wr.thenB {w w1 w2 : World} {b : Nat} (h : Below w.heap.size w w1) (k : w1.grownBy w2 (some b)) : Wr w w2 b := (Wr.of_below h).trans k
theorem fdo_w {α : Type} {l : List (Bs × α)} {x : Chg α} (h : x.kind = 0) : fdo l x = gput x.name x.val l := by unfold fdo; rw [if_pos h]
theorem fdo_n {α : Type} {l : List (Bs × α)} {x : Chg α} (h : x.kind ≠ 0) (h2 : gget x.name l = none) : fdo l x = l := by unfold fdo; rw [if_neg h, h2]
theorem fdo_r {α : Type} {l : List (Bs × α)} {x : Chg α} {b : α} (h : x.kind = 1) (h2 : gget x.name l = some b) : fdo l x = gput x.to b (gdel x.name l) := by unfold fdo; rw [if_neg (by omega), h2]; dsimp only; rw [if_pos h]
theorem fdo_d {α : Type} {l : List (Bs × α)} {x : Chg α} {b : α} (h : x.kind ≠ 0) (h1 : x.kind ≠ 1) (h2 : gget x.name l = some b) : fdo l x = gdel x.name l := by unfold fdo; rw [if_neg h, h2]; dsimp only; rw [if_neg h1]
set_option maxRecDepth 100000 in
set_option maxHeartbeats 1000000 in
theorem Do_any {w : World} {b : Nat} {l : List (Bs × Sv)} (x : Chg Sv) (h : OmD w b l) (hl : l.length ≤ 100000000) (h1 : x.name.length ≤ 100000000) (h2 : x.to.length ≤ 100000000) :
 Calls Tryz.prog 52 #[.map (some b), .agg (cha x)] w fun e w' => e = .returned (.tuple #[]) ∧ OmD w' b (fdo l x) ∧ Wr w w' b := by
 obtain ⟨kd, nm, tt, s⟩ := x
 dsimp only at h1 h2
 have hB := Blk.new w 119 (cha ⟨kd, nm, tt, s⟩)
 have hbx := below_new w (.cells (cha ⟨kd, nm, tt, s⟩) 119)
 have hO := OmD.below h hbx
 have hbl : b < w.heap.size := h.lt
 obtain ⟨q0, q1, q2, q3⟩ := hB.fourC
 have hlk := hO.look (T := 87) (E := 52) Tryz.underlying9 Tryz.underlying87 (zero_bs _) (k := nm) (by unfold maxLen; omega)
 have hdl := glen_del nm l
 rcases Decidable.em (kd = 0) with hk0 | hk0
 · have hb0 : ((kd : Int) == 0) = true := by simp [hk0]
   have HF := Lib.hid (fdo_w (l := l) (x := ⟨kd, nm, tt, s⟩) hk0)
   clear hk0 hdl
   generalize ((gget nm l).map Sv.v).getD (.slice none 0 0) = v at *
   generalize (gget nm l).isSome = sm at *
   go_enter Tryz.func52, Tryz.ntmps52
   go_wp2_with (refine wpl_putO rfl _ _ _ rfl Tryz.underlying9 Tryz.underlying87 b l rfl hO (by unfold maxLen; omega) nm (by unfold maxLen; omega) rfl s rfl ?_; intro w2 hO2 hg2)
   go_end0
   exact ⟨rfl, by rw [HF.out]; exact hO2, Wr.thenB hbx hg2⟩
 have hb0 : ((kd : Int) == 0) = false := by simp; omega
 cases hgt : gget nm l with
 | none =>
  have HF := Lib.hid (fdo_n (l := l) (x := ⟨kd, nm, tt, s⟩) hk0 hgt)
  rw [hgt] at hlk
  clear hk0 hdl hgt
  go_enter Tryz.func52, Tryz.ntmps52
  go_wp2_with fail
  go_end0
  exact ⟨rfl, by rw [HF.out]; exact hO, Wr.of_below hbx⟩
 | some u =>
  rw [hgt] at hlk
  dsimp only [Option.map_some, Option.getD_some, Option.isSome_some] at hlk
  rcases Decidable.em (kd = 1) with hk1 | hk1
  · have hb1 : ((kd : Int) == 1) = true := by simp [hk1]
    have HF := Lib.hid (fdo_r (l := l) (x := ⟨kd, nm, tt, s⟩) hk1 hgt)
    clear hk0 hk1 hgt
    go_enter Tryz.func52, Tryz.ntmps52
    go_wp2_with (first | (refine wpl_dropO rfl _ _ rfl Tryz.underlying9 Tryz.underlying87 b l rfl hO nm (by unfold maxLen; omega) rfl ?_; intro w2 hO2 hg2; have hB2 : Blk w2 w.heap.size 119 (cha ⟨kd, nm, tt, s⟩) := (hg2.block _ hB.lt (fun e => by injection e; omega)).trans hB; obtain ⟨p0, p1, p2, p3⟩ := hB2.fourC) | (refine wpl_putO rfl _ _ _ rfl Tryz.underlying9 Tryz.underlying87 b (gdel nm l) rfl hO2 (by unfold maxLen; omega) tt (by unfold maxLen; omega) rfl u rfl ?_; intro w3 hO3 hg3))
    go_end0
    exact ⟨rfl, by rw [HF.out]; exact hO3, (Wr.thenB hbx hg2).trans hg3⟩
  · have hb1 : ((kd : Int) == 1) = false := by simp; omega
    have HF := Lib.hid (fdo_d (l := l) (x := ⟨kd, nm, tt, s⟩) hk0 hk1 hgt)
    clear hk0 hk1 hgt
    go_enter Tryz.func52, Tryz.ntmps52
    go_wp2_with (refine wpl_dropO rfl _ _ rfl Tryz.underlying9 Tryz.underlying87 b l rfl hO nm (by unfold maxLen; omega) rfl ?_; intro w2 hO2 hg2)
    go_end0
    exact ⟨rfl, by rw [HF.out]; exact hO2, Wr.thenB hbx hg2⟩
end
end Go.Proofs.YtajfnmohlnkncaaGreatDoor
