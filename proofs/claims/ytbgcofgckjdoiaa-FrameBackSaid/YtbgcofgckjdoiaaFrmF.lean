/- WHAT IT HOLDS: the law FrameFinds, walked. -/
import Derived.Test.YtbgcofgckjdoiaaFrmW
import Derived.Test.YtbgcofgckjdoiaaCrcF
namespace Go.Proofs.Ytbgcofgckjdoiaa
open Go.RowKit
attribute [local go_sem ↓] Go.wp_at_zero Go.wp_at_succ

theorem frm_nil : frm [] = [0, 82, 125, 83, 81] := by
  unfold frm txb
  rw [show vb ([] : List UInt8).length = [0] from vb_small (by decide)]
  decide +kernel
set_option maxRecDepth 100000 in
set_option maxHeartbeats 1000000 in
theorem alive04_any (w : World) : Calls Try.prog 49 #[] w fun e w' => e = .returned (.bool true) ∧ Below w.heap.size w w' := by
  go_enter Try.func49, Try.ntmps49
  go_wp2_with fail
  refine (FPut_any none 0 [] none 0 [] w (by simp) (Sl.none_ w 1) (Sl.none_ w 1) (by simp)).mono ?_
  rintro e w1 ⟨A1, c1, m1, he, hm1, ho1, hb1⟩
  have hev : errv (fput [] []).2 = .nilIface := rfl
  rw [hev] at he
  subst he
  have hm : m1 = [0, 82, 125, 83, 81] := by rw [hm1.out]; show [] ++ frm [] = _; rw [frm_nil]; rfl
  subst hm
  have hbn := below_new w1 (.cells (bvs [0, 82, 125, 83, 81]).toArray 5)
  have hq : (([0, 82, 125, 83, 81] : List UInt8) == [0, 82, 125, 83, 81]) = true := by decide
  go_wp2_with fail
  refine (nBytes_any A1 (some ⟨w1.heap.size, 0, none⟩) c1 5 [0, 82, 125, 83, 81] [0, 82, 125, 83, 81] _ (ho1.sl.below hbn) (Sl.lits w1 (bvs [0, 82, 125, 83, 81]) 5 (by simp [maxLen]))).mono ?_
  rintro e w2 ⟨rfl, rfl⟩
  rw [hq]
  go_wp2_with fail
  go_ret
  exact ⟨rfl, bel_call hb1 hbn⟩

theorem FTake_len (A : Option Addr) (c k : Nat) (l : List UInt8) (w : World) (hk : k = l.length) (hs : SlB w A c l) (hl : l.length ≤ 10000000) :
    Calls Try.prog 54 #[.slice A k c] w (TakesF w (ftake l)) := by subst hk; exact FTake_any A c l w hs hl
set_option maxRecDepth 100000 in
set_option maxHeartbeats 4000000 in
theorem ffinds_walk {A : Option Addr} {c : Nat} {t : List UInt8} {a : Int} (w : World) (ha : SlB w A c t) (h1 : t.length ≤ 300) :
    Calls Try.prog 12 #[.slice A t.length c, .int .i64 a] w fun e w' => e = .returned (.bool true) ∧ Below w.heap.size w w' := by
  have k1 : ¬ (300 < (t.length : Int)) := by omega
  have hv := vb_le10 (n := t.length) (by omega)
  have hv1 := vb_pos t.length
  have HL0 := Lib.hid (frm_len t)
  go_enter Try.func12, Try.ntmps12
  go_wp2_with fail
  refine (alive04_any _).mono ?_
  rintro e w1 ⟨rfl, hb1⟩
  go_wp2_with fail
  refine (FPut_any none 0 [] A c t w1 (by simp) (Sl.none_ w1 1) (ha.below hb1) (by omega)).mono ?_
  rintro e w2 ⟨A2, c2, m2, he, hm2, ho2, hb2⟩
  have hfp : fput [] t = (frm t, 0) := by unfold fput; rw [if_neg (by omega)]; rfl
  rw [hfp] at he hm2
  have hev : errv (frm t, 0).2 = .nilIface := rfl
  rw [hev] at he
  subst he
  obtain rfl : m2 = frm t := hm2.out
  clear hfp hev
  go_wp2_with fail
  refine (FSize_any A c t _ (by omega)).mono ?_
  rintro e w3 ⟨rfl, rfl⟩
  have hflip := fun j q => flip_frm (t := t) (by omega) (j := j) (q := q)
  generalize (vb t.length).length = v at *
  have hL := HL0.out
  obtain ⟨g2, rfl, hg2, _⟩ := Own.form ho2 (by omega)
  have ha2 := bel_call hb1 hb2
  generalize frm t = f at *
  have k2 : ¬ ((f.length : Int) < (t.length : Int) + 5) := by omega
  have k3 : (f.length : Int) - 4 - (t.length : Int) = (v : Int) := by omega
  have k4 : (f.length : Int) - (v : Int) = (t.length : Int) + 4 := by omega
  obtain ⟨z, hz, hza0⟩ := u64_tmod_pos a (8 * (t.length + 4)) (by omega)
  have hza : (IntKind.u64.wrap a).tmod (8 * ((t.length : Int) + 4)) = (z : Int) := hza0
  clear hza0
  obtain ⟨kk, hkk⟩ : ∃ kk : Nat, kk = v * 8 + z := ⟨_, rfl⟩
  have hjm : kk / 8 < f.length := by omega
  have hjv : v ≤ kk / 8 := by omega
  have hF := hflip (kk / 8) (kk % 8) hjv hjm (Nat.mod_lt _ (by decide))
  have hki : (v : Int) * 8 + (z : Int) = (kk : Int) := by omega
  obtain ⟨ad, hA, hcell⟩ := ho2.sl.at1 hjm
  injection hA with hA
  subst hA
  rw [addr_lit, Nat.zero_add] at hcell
  have hfz := own_frozen ho2 rfl (kk / 8)
  have ho3 := Lib.hid (own_set (x := f[kk / 8] ^^^ UInt8.ofNat (2 ^ (kk % 8))) ho2 rfl hjm)
  have HF := Lib.hid hF
  have HL := Lib.hid hL
  have hflen := Lib.hid (show f.length ≤ 400 from by omega)
  have hw64 : wrap64 (z : Int) = (z : Int) := by simp only [wrap64]; omega
  clear hflip hF hL hkk hjv ho2 HL0
  go_wp2_with fail
  rw [turn_byte]
  have hm1 := ho3.out
  have hb3 : Below w.heap.size w (w2.setCell ⟨g2, kk / 8, none⟩ (bv (f[kk / 8] ^^^ UInt8.ofNat (2 ^ (kk % 8))))) := ha2.setCell (p := ⟨g2, kk / 8, none⟩) (Nat.le_trans hb1.size hg2) _
  refine (FTake_len (some ⟨g2, 0, none⟩) c2 f.length _ _ (by rw [List.length_set]) hm1.sl (by rw [List.length_set]; have := hflen.out; omega)).mono ?_
  rintro e w4 ⟨A4, c4, m4, he, hm4, ho4, hb4⟩
  rw [HF.out] at he hm4
  obtain rfl : m4 = [] := hm4.out
  dsimp only at he
  have hE := isn_any 11 11
  generalize errv 11 = ev at *
  subst he
  clear hm1 ho3 HF ho4 hcell hfz
  go_wp2_with fail
  refine (hE _).mono ?_
  rintro e w5 ⟨rfl, rfl⟩
  go_wp2_with fail
  go_ret
  exact ⟨rfl, bel_call hb3 hb4⟩
theorem ffinds_all {A : Option Addr} {c : Nat} {t : List UInt8} {a : Int} (w : World) (ha : SlB w A c t) (_ : I64 a) :
    Calls Try.prog 12 #[.slice A t.length c, .int .i64 a] w fun e w' => e = .returned (.bool true) ∧ Below w.heap.size w w' := by
  by_cases h : 300 < t.length
  · have h1 : (300 : Int) < (t.length : Int) := by omega
    go_enter Try.func12, Try.ntmps12
    go_wp2_with fail
    refine (alive04_any _).mono ?_
    rintro e w1 ⟨rfl, hb1⟩
    go_wp2_with fail
    go_ret
    exact ⟨rfl, hb1⟩
  · exact ffinds_walk w ha (by omega)
end Go.Proofs.Ytbgcofgckjdoiaa
