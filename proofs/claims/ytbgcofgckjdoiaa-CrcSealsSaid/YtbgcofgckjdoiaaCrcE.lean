/- WHAT IT HOLDS: the law CrcSeals, walked. -/
import Derived.Test.YtbgcofgckjdoiaaCrcS
import Derived.Test.YtbgcofgckjdoiaaStep
namespace Go.Proofs.Ytbgcofgckjdoiaa
open Go.RowKit
attribute [local go_sem ↓] Go.wp_at_zero Go.wp_at_succ

theorem list_beq (l m : List UInt8) : (l == m) = decide (l = m) := by
  by_cases h : l = m
  · subst h; simp
  · simp [h]
set_option maxRecDepth 100000 in
set_option maxHeartbeats 4000000 in
theorem seals_walk {A : Option Addr} {c : Nat} {l : List UInt8} (w : World) (ha : SlB w A c l) (h1 : l.length ≤ 500) :
    Calls Try.prog 7 #[.slice A l.length c] w fun e w' => e = .returned (.bool true) ∧ Below w.heap.size w w' := by
  have k1 : ¬ (500 < (l.length : Int)) := by omega
  go_enter Try.func7, Try.ntmps7
  go_wp2_with fail
  refine (alive02_any _).mono ?_
  rintro e w1 ⟨rfl, hb1⟩
  go_wp2_with fail
  refine (New_any _).mono ?_
  rintro e w2 ⟨rfl, hM2, hb2⟩
  have hw2 := bel_call hb1 hb2
  have hgw : w.heap.size ≤ w1.heap.size := hb1.size
  generalize w1.heap.size = g at *
  go_wp2_with (at_builtin; first
    | (refine wpl_fresh 40 5 Try.underlying40 u8_info rfl _ _ rfl rfl A c l rfl (ha.below hw2) (by omega) ?_; intro A3 c3 m3 w3 hm3 ho3 hb3; have hw3 := bel_call hw2 hb3))
  obtain rfl : m3 = l := hm3.out
  have hgl : g < w2.heap.size := hM2.lt
  have hS : CSt w g 0 [(A, c, m3), (A3, c3, m3)] w3 := by
    refine ⟨Mkr.below (.inl hM2) hb3, hw3, fun x hx => ?_⟩
    simp only [List.mem_cons, List.not_mem_nil, or_false] at hx
    rcases hx with rfl | rfl
    · exact ⟨ha.below hw3, SlB.old ha hgw⟩
    · exact ⟨ho3.sl, fun _ => Own.ne ho3 hgl⟩
  clear ha ho3 hb1 hb2 hb3 hw2 hw3 hM2
  refine (Sealed_at g 0 A3 c3 m3 _ hS.mkr (by omega) (hS.at (by simp)) (hS.ne (c := c3) (by simp)) (by omega)).mono ?_
  rintro e w4 ⟨A4, c4, m4, rfl, hm4, ho4, hM4, hB4⟩
  have hS4 := hS.but hgw hM4 hB4
  go_wp2_with (at_builtin; first
    | (refine wpl_fresh 40 5 Try.underlying40 u8_info rfl _ _ rfl rfl A c m3 rfl (hS4.at (by simp)) (by omega) ?_; intro A5 c5 m5 w5 hm5 ho5 hb5; have hl5 := Lib.hid (show m5.length ≤ 500 from by rw [hm5.out]; exact h1)))
  have hS5 := hS4.below hb5
  have ho4' := ho4.below hb5
  refine (rSum_any A c m3 _ (hS5.at (by simp)) (by omega)).mono ?_
  rintro e w6 ⟨rfl, rfl⟩
  go_wp2_with fail
  refine (rFour_any (sumW m3) _).mono ?_
  rintro e w7 ⟨A7, c7, m7, rfl, hm7, hs7, hb7⟩
  have hl7 := Lib.hid (show m7.length = 4 from by rw [hm7.out, four_len])
  have hS7 := hS5.below hb7
  have ho4'' := ho4'.below hb7
  go_wp2_with (at_builtin; first
    | (refine wpl_bytes 40 5 Try.underlying40 u8_info rfl _ _ rfl w4.heap.size A5 c5 m5 rfl (ho5.below hb7) A7 c7 m7 rfl hs7 (by have := hl5.out; have := hl7.out; omega) (Nat.le_trans hb5.size hb7.size) ?_; intro A8 c8 m8 w8 hm8 ho8 _ _ hb8))
  have h48 : Below w4.heap.size w4 w8 := (hb5.trans (hb7.mono hb5.size)).trans hb8
  have hS8 := hS4.below h48
  have hs4 := ho4.sl.below h48
  have hq : (m4 == m8) = true := by rw [hm4.out, hm8.out, hm5.out, hm7.out]; simp
  have hQ := Lib.hid hq
  clear hq hS hS4 hS5 hS7 ho4 ho4' ho4'' hb5 hb7 hb8 hs7 ho5 hl5 hl7 hm4 hm8 hm5 hm7 hB4 hM4 h48
  have hs8 := ho8.sl
  clear ho8
  refine (nBytes_any A4 A8 c4 c8 m4 m8 _ hs4 hs8).mono ?_
  rintro e w9 ⟨rfl, rfl⟩
  rw [hQ.out]
  clear hs4 hs8 hQ
  go_wp2_with fail
  refine (Opened_at g 1 A3 c3 m3 _ hS8.mkr (by omega) (hS8.at (by simp)) (hS8.ne (c := c3) (by simp)) (by omega)).mono ?_
  rintro e w10 ⟨A10, c10, m10, rfl, hm10, ho10, hM10, hB10⟩
  have hS10 := hS8.but hgw hM10 hB10
  have hs10 := ho10.sl
  clear hS8 ho10 hM10 hB10
  go_wp2_with fail
  refine (Asked_at g _ _ hS10.mkr).mono ?_
  rintro e w11 ⟨rfl, rfl⟩
  go_wp2_with fail
  refine (nBytes_any A3 A c3 c m3 m3 _ (hS10.at (by simp)) (hS10.at (by simp))).mono ?_
  rintro e w12 ⟨rfl, rfl⟩
  have hq : (m3 == m3) = true := by simp
  rw [hq]
  clear hq
  by_cases h4 : m3.length < 4
  · have hop : opened m3 = ([], 2) := by unfold opened; rw [if_pos h4]
    rw [hop] at hm10 ⊢
    obtain rfl : m10 = [] := hm10.out
    have hneg : (m3.length : Int) - 4 < 0 := by omega
    dsimp only
    have hE := isn_any 2 2
    generalize errv 2 = ev at *
    go_wp2_with fail
    refine (hE _).mono ?_
    rintro e w13 ⟨rfl, rfl⟩
    go_wp2_with fail
    go_ret
    exact ⟨rfl, hS10.bel⟩
  · obtain ⟨k, hk⟩ : ∃ k, k = m3.length - 4 := ⟨_, rfl⟩
    have hki : (m3.length : Int) - 4 = (k : Int) := by omega
    have hkn : ¬ ((k : Int) < 0) := by omega
    have hc3 := (hS10.at (A := A) (c := c) (l := m3) (by simp)).2.1
    have hck : ¬ (c = k) := by omega
    have hkc : k ≤ c := by omega
    have hkl : k ≤ m3.length := by omega
    have hop : opened m3 = if four (sumW (m3.take k)) = m3.drop k then (m3.take k, 0) else ([], 11) := by unfold opened; rw [if_neg h4, hk]
    have hT := Sl.takeB (hS10.at (A := A) (c := c) (l := m3) (by simp)) k
    have hD := Sl.cutB (hS10.at (A := A) (c := c) (l := m3) (by simp)) hkl
    rw [if_neg hck] at hD
    have htl : (m3.take k).length = k := by simp; omega
    have hdl' : (m3.drop k).length = m3.length - k := by simp
    rw [← hdl'] at hD
    clear hk
    generalize hl1 : m3.take k = l1 at *
    generalize hl2 : m3.drop k = l2 at *
    clear hl1 hl2
    subst htl
    have hsub : m3.length - l1.length = l2.length := hdl'.symm
    clear hdl'
    have HOP := Lib.hid hop
    clear hop
    generalize opened m3 = ov at *
    go_wp2_with fail
    go_cut [66] (fun s66 wx => s66 = .bool (!decide (four (sumW l1) = l2)) ∧ Below w10.heap.size w10 wx)
    case first =>
      have hT' : SlB w10.drew A c l1 := hT
      refine wp_region_held_drew (S := (fun W => SlB W (Option.map (fun x => x.add l1.length) A) (c - l1.length) l2)) (by kernel_rfl) ?_ (fun hHeld => ?_)
      · first | exact hD | exact hD2
      refine wpAnyH_take (i := 0) (oi := ⟨some 56, _, _, _, _, _⟩) (v := ?_) rfl (by kernel_rfl) (by kernel_rfl) (by kernel_rfl) (fun _ _ _ h => h) (Or.inl ⟨by kernel_rfl, ?_⟩) (by assumption) ?_
      rotate_left
      · (intro wS hSw; (try dsimp only at hSw); have hcv := conv_str (P := Try.prog) 40 9 5 Try.underlying40 Try.underlying5 Try.underlying9 hSw rfl; go_simp; (try with_reducible rfl))
      (try simp only [Act.put, List.setIfInBounds_toArray, List.set_cons_zero, List.set_cons_succ])
      refine wpAnyH_take (i := 1) (oi := ⟨some 57, _, _, _, _, _⟩) (v := ?_) rfl (by kernel_rfl) (by kernel_rfl) (by kernel_rfl) (fun _ _ _ h => h) (Or.inl ⟨by kernel_rfl, ?_⟩) (by assumption) ?_
      rotate_left
      · (intro wS hSw; (try dsimp only at hSw); have hcv := conv_str (P := Try.prog) 40 9 5 Try.underlying40 Try.underlying5 Try.underlying9 hSw rfl; go_simp; (try with_reducible rfl))
      (try simp only [Act.put, List.setIfInBounds_toArray, List.set_cons_zero, List.set_cons_succ])
      refine wpAnyH_take (i := 2) (oi := ⟨some 58, _, _, _, _, _⟩) (v := ?_) rfl (by kernel_rfl) (by kernel_rfl) (by kernel_rfl) (fun _ _ _ h => h) (Or.inl ⟨by kernel_rfl, ?_⟩) (by assumption) ?_
      rotate_left
      · (intro wS hSw; (try dsimp only at hSw); have hcv := conv_str (P := Try.prog) 40 9 5 Try.underlying40 Try.underlying5 Try.underlying9 hSw rfl; go_simp; (try with_reducible rfl))
      (try simp only [Act.put, List.setIfInBounds_toArray, List.set_cons_zero, List.set_cons_succ])
      refine wpAnyH_take (i := 6) (oi := ⟨some 62, _, _, _, _, _⟩) (v := ?_) rfl (by kernel_rfl) (by kernel_rfl) (by kernel_rfl) (fun _ _ _ h => h) (Or.inl ⟨by kernel_rfl, ?_⟩) (by assumption) ?_
      rotate_left
      · (intro wS hSw; (try dsimp only at hSw); have hcv := conv_str (P := Try.prog) 40 9 5 Try.underlying40 Try.underlying5 Try.underlying9 hSw rfl; go_simp; (try with_reducible rfl))
      (try simp only [Act.put, List.setIfInBounds_toArray, List.set_cons_zero, List.set_cons_succ])
      refine wpAnyH_take (i := 7) (oi := ⟨some 63, _, _, _, _, _⟩) (v := ?_) rfl (by kernel_rfl) (by kernel_rfl) (by kernel_rfl) (fun _ _ _ h => h) (Or.inl ⟨by kernel_rfl, ?_⟩) (by assumption) ?_
      rotate_left
      · (intro wS hSw; (try dsimp only at hSw); have hcv := conv_str (P := Try.prog) 40 9 5 Try.underlying40 Try.underlying5 Try.underlying9 hSw rfl; go_simp; (try with_reducible rfl))
      (try simp only [Act.put, List.setIfInBounds_toArray, List.set_cons_zero, List.set_cons_succ])
      refine wpAnyH_take (i := 8) (oi := ⟨some 64, _, _, _, _, _⟩) (v := ?_) rfl (by kernel_rfl) (by kernel_rfl) (by kernel_rfl) (fun _ _ _ h => h) (Or.inl ⟨by kernel_rfl, ?_⟩) (by assumption) ?_
      rotate_left
      · (intro wS hSw; (try dsimp only at hSw); have hcv := conv_str (P := Try.prog) 40 9 5 Try.underlying40 Try.underlying5 Try.underlying9 hSw rfl; go_simp; (try with_reducible rfl))
      (try simp only [Act.put, List.setIfInBounds_toArray, List.set_cons_zero, List.set_cons_succ])
      refine wpAnyH_take (i := 9) (oi := ⟨some 65, _, _, _, _, _⟩) (v := ?_) rfl (by kernel_rfl) (by kernel_rfl) (by kernel_rfl) (fun _ _ _ h => h) (Or.inl ⟨by kernel_rfl, ?_⟩) (by assumption) ?_
      rotate_left
      · (intro wS hSw; (try dsimp only at hSw); have hcv := conv_str (P := Try.prog) 40 9 5 Try.underlying40 Try.underlying5 Try.underlying9 hSw rfl; go_simp; (try with_reducible rfl))
      (try simp only [Act.put, List.setIfInBounds_toArray, List.set_cons_zero, List.set_cons_succ])
      refine wpAnyH_ready (rs := [3]) (by kernel_rfl) (by simp) ?_
      refine AllReadyH.cons (o := ⟨some 59, _, _, _, _, _⟩) rfl (fun K hK => ?_) AllReadyH.nil
      go_simp
      (refine (rSum_any A c l1 _ hT' (by omega)).mono ?_; rintro e w13 ⟨rfl, rfl⟩)
      go_wp2_with fail
      refine hK.out _ _ ?_ (fun hHeld => ?_)
      · ((try dsimp only); (first | exact hD | exact hD2))
      clear hK K
      (try simp only [Act.put, List.setIfInBounds_toArray, List.set_cons_zero, List.set_cons_succ])
      refine wpAnyH_ready (rs := [4]) (by kernel_rfl) (by simp) ?_
      refine AllReadyH.cons (o := ⟨some 60, _, _, _, _, _⟩) rfl (fun K hK => ?_) AllReadyH.nil
      go_simp
      (refine (rFour_any (sumW l1) _).mono ?_; rintro e w14 ⟨A14, c14, m14, rfl, hm14, hs14, hb14⟩; have hD2 := Sl.below hD (below_of_drew hb14); have hcv := conv_str (P := Try.prog) 40 9 5 Try.underlying40 Try.underlying5 Try.underlying9 hs14 rfl)
      go_wp2_with fail
      refine hK.out _ _ ?_ (fun hHeld => ?_)
      · ((try dsimp only); (first | exact hD | exact hD2))
      clear hK K
      (try simp only [Act.put, List.setIfInBounds_toArray, List.set_cons_zero, List.set_cons_succ])
      refine wpAnyH_ready (rs := [5]) (by kernel_rfl) (by simp) ?_
      refine AllReadyH.cons (o := ⟨some 61, _, _, _, _, _⟩) rfl (fun K hK => ?_) AllReadyH.nil
      go_simp
      refine hK.out _ _ ?_ (fun hHeld => ?_)
      · ((try dsimp only); (first | exact hD | exact hD2))
      clear hK K
      (try simp only [Act.put, List.setIfInBounds_toArray, List.set_cons_zero, List.set_cons_succ])
      refine wpAnyH_take (i := 10) (oi := ⟨some 66, _, _, _, _, _⟩) (v := ?_) rfl (by kernel_rfl) (by kernel_rfl) (by kernel_rfl) (fun _ _ _ h => h) (Or.inl ⟨by kernel_rfl, ?_⟩) (by assumption) ?_
      rotate_left
      · (intro wS hSw; (try dsimp only at hSw); have hcv := conv_str (P := Try.prog) 40 9 5 Try.underlying40 Try.underlying5 Try.underlying9 hSw rfl; go_simp; (try with_reducible rfl))
      (try simp only [Act.put, List.setIfInBounds_toArray, List.set_cons_zero, List.set_cons_succ])
      refine wpAnyH_done (by kernel_rfl) ?_ _
      go_wp2_with fail
      go_meet
      refine ⟨?_, below_of_drew hb14⟩
      rw [← hm14.out]
      clear hS10 hs10 hT' hT hD hD2
      exact congrArg Value.bool (congrArg not (list_beq m14 l2))
    case rest =>
      obtain ⟨rfl, hbc⟩ := hcut
      have hS11 := hS10.below hbc
      have hs11 := hs10.below hbc
      have hT11 := hT.below hbc
      clear hS10 hs10 hT hD hbc
      by_cases he : four (sumW l1) = l2
      · have hd : decide (four (sumW l1) = l2) = true := decide_eq_true he
        have hov := HOP.out
        rw [if_pos he] at hov
        subst hov
        rw [hd]
        obtain rfl : m10 = l1 := hm10.out
        have hev : errv 0 = .nilIface := rfl
        clear HOP he hd
        dsimp only
        rw [hev]
        go_wp2_with fail
        refine (nBytes_any A10 A c10 c m10 m10 _ hs11 hT11).mono ?_
        rintro e w13 ⟨rfl, rfl⟩
        go_wp2_with fail
        go_ret
        exact ⟨rfl, hS11.bel⟩
      · have hd : decide (four (sumW l1) = l2) = false := decide_eq_false he
        have hov := HOP.out
        rw [if_neg he] at hov
        subst hov
        rw [hd]
        obtain rfl : m10 = [] := hm10.out
        clear HOP he hd
        dsimp only
        have hE := isn_any 11 11
        generalize errv 11 = ev at *
        go_wp2_with fail
        refine (hE _).mono ?_
        rintro e w13 ⟨rfl, rfl⟩
        go_wp2_with fail
        go_ret
        exact ⟨rfl, hS11.bel⟩
theorem seals_early {A : Option Addr} {c : Nat} {l : List UInt8} (w : World) (h : 500 < l.length) :
    Calls Try.prog 7 #[.slice A l.length c] w fun e w' => e = .returned (.bool true) ∧ Below w.heap.size w w' := by
  have h1 : (500 : Int) < (l.length : Int) := by omega
  go_enter Try.func7, Try.ntmps7
  go_wp2_with fail
  refine (alive02_any _).mono ?_
  rintro e w1 ⟨rfl, hb1⟩
  go_wp2_with fail
  go_ret
  exact ⟨rfl, hb1⟩
theorem seals_all {A : Option Addr} {c : Nat} {l : List UInt8} (w : World) (ha : SlB w A c l) :
    Calls Try.prog 7 #[.slice A l.length c] w fun e w' => e = .returned (.bool true) ∧ Below w.heap.size w w' := by
  by_cases h : 500 < l.length
  · exact seals_early w h
  · exact seals_walk w ha (by omega)
end Go.Proofs.Ytbgcofgckjdoiaa
