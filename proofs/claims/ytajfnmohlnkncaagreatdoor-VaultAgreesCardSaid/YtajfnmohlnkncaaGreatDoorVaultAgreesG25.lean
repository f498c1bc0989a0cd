/- WHAT IT HOLDS: chain.follows, chain.Check. | WHAT IT HOLDS: chain.Check. -/
import Derived.Test.YtajfnmohlnkncaaGreatDoorVaultAgreesG01
import Derived.Test.YtajfnmohlnkncaaGreatDoorVaultAgreesG13
import Derived.Test.YtajfnmohlnkncaaGreatDoorVaultAgreesG18
import Derived.Test.YtajfnmohlnkncaaGreatDoorVaultAgreesG06
namespace Go.Proofs.YtajfnmohlnkncaaGreatDoor
section
open Go.RowKit Go.Shelf
theorem mvs_at (l : List MfV) (h : 0 < l.length) : (mvs l).getLast? = some (mvlast l).1 := by
 rw [mvs_last, mvlast_at h, List.getLast?_eq_getElem?, List.getElem?_eq_getElem (by omega)]
 rfl
theorem mvhead_ok {l : List MfV} (h : 0 < l.length) (hc : mchk (mvlast l).1 = 0) : mvhead l = (mdg (mvlast l).1, 0) := by
 unfold mvhead mfdig
 rw [if_neg (by omega), if_pos hc]
 rfl
set_option maxRecDepth 100000 in
set_option maxHeartbeats 1000000 in
theorem Follows_any {E A : Option Addr} {cap c : Nat} (l : List MfV) (n f t q : Int) (d : Dg) (ps : List Pt5) (w : World) (hG : Shg w) (h : SlM w E cap l) (hc : ∀ m ∈ mvs l, mchk m = 0) :
 Calls Tryz.prog 74 #[.slice E l.length cap, .agg (mfa n f t q d A ps.length c)] w fun e w' => e = .returned (.bool (cfol ((mvs l).getLast?) l.length (n, f, t, q, d, ps))) ∧ Below w.heap.size w w' := by
 have hM := (Mm.start w).alloc (mfa n f t q d A ps.length c) 46
 have hmz := Lib.hid (mfa_size n f t q d A ps.length c)
 have hds := fun d => Lib.hid (dga_size d)
 have hda := fun d => Lib.hid (dga_all d)
 have hmax := h.1.2.1
 have hmax2 := h.1.2.2.1
 unfold maxLen at hmax2
 obtain ⟨a0, a1, a2, a3, a4⟩ := BlM.five hM.b0
 by_cases hn : n = (l.length : Int)
 · have hnb : ((n : Int) != (l.length : Int)) = false := by simp [hn]
   rcases Nat.eq_zero_or_pos l.length with h0 | h0
   · obtain rfl : l = [] := List.length_eq_zero_iff.1 h0
     have hr : Hid (cfol ((mvs []).getLast?) 0 (n, f, t, q, d, ps) = true) := (show _ = _ from by unfold cfol; simp [hn, mvs])
     simp only [List.length_nil] at hnb ⊢
     clear h0 hn h hc
     go_enter Tryz.func74, Tryz.ntmps74
     go_wp2_with fail
     go_ret
     exact ⟨by rw [hr.out]; rfl, hM.bel⟩
   · have hl0 : ((l.length : Int) == 0) = false := by rw [beq_eq_false_iff_ne]; omega
     have hml : (mvlast l).1 ∈ mvs l := by rw [mvlast_at h0]; exact List.mem_map.2 ⟨_, List.getElem_mem _, rfl⟩
     have hH := fun W (hh : Below w.heap.size w W) => ChHead_any l W (hG.below hh) (h.below hh)
     rw [mvhead_ok h0 (hc _ hml)] at hH
     simp only [show errv 0 = Value.nilIface from rfl] at hH
     have HH := Lib.hid hH
     have HE := Lib.hid (fun W (hh : Below w.heap.size w W) => ChEnd_any l W (h.below hh))
     have HK := Lib.hid (fun W (hh : Below w.heap.size w W) => ChMark_any l W (h.below hh))
     rw [cend_mvs] at HE
     rw [cmark_mvs] at HK
     have hr := Lib.hid (show cfol ((mvs l).getLast?) l.length (n, f, t, q, d, ps) = (decide (d = mdg (mvlast l).1) && decide (f = (mvlast l).1.2.2.1) && decide ((mvlast l).1.2.2.2.1 ≤ q)) from by
      rw [mvs_at l h0]
      unfold cfol
      rw [Bool.eq_iff_iff]
      simp only [hn, Bool.and_eq_true, decide_eq_true_eq, true_and]
      constructor
      · rintro ⟨⟨h1, h2⟩, h3⟩
        exact ⟨⟨h3, h1⟩, h2⟩
      · rintro ⟨⟨h3, h1⟩, h2⟩
        exact ⟨⟨h1, h2⟩, h3⟩)
     generalize mdg (mvlast l).1 = hd at *
     generalize (mvlast l).1.2.2.1 = et at *
     generalize (mvlast l).1.2.2.2.1 = mk at *
     clear hH hml h hc hG h0 hn
     go_enter Tryz.func74, Tryz.ntmps74
     go_wp2_with fail
     refine (HH.out _ hM.bel).mono ?_
     rintro e w2 ⟨rfl, hb2⟩
     have hM2 := hM.call hb2
     clear hM hb2 a0 a1 a2 a3 a4 HH
     dsimp only
     go_upto_region 6 with ((refine wpl_storeN rfl 35 _ _ rfl _ (dga hd) 35 rfl rfl (by rw [(hds hd).out]; kernel_rfl) (by rw [(hds hd).out]; rfl) (hda hd).out ?_))
     refine gen1 (T := fun W => Mm w W [(w2.heap.size, 35, dga hd), (w.heap.size, 46, mfa n f t q d A ps.length c)] []) (hM2.alloc _ _) (fun w3 hM3 => ?_)
     generalize w2.heap.size = g5 at *
     clear hM2
     have hMd := hM3.drew
     have hq := fun W => eql_dg d hd W
     cases hd1 : decide (d = hd)
     · rw [hd1] at hq hr
       clear hM3 hd1
       refine wp_region_seq (S := (fun W => Mm w W [(g5, 35, dga hd), (w.heap.size, 46, mfa n f t q d A ps.length c)] [])) [(0, true), (1, true), (2, true), (3, true), (4, true), (5, true), (6, true), (7, true), (8, true), (9, true), (10, true), (11, true), (12, true), (13, true), (14, true), (15, true), (16, true), (17, true), (18, true), (19, true), (20, true), (21, true), (22, true)] (by kernel_rfl) (by kernel_rfl) (fun _ _ _ _ _ h => h) ?_ (fun hHeld => ?_)
       · first | with_reducible exact hMd | with_reducible exact hHeld
       refine gen0 (T := fun W => ((fun W => Mm w W [(g5, 35, dga hd), (w.heap.size, 46, mfa n f t q d A ps.length c)] [])) W ∧ Below w.heap.size w W ∧ True) ?_ (fun wq1 hT => ?_)
       · exact ⟨by (with_reducible exact hMd), by (with_reducible exact hMd.bel), trivial⟩
       (try clear f0 f1 f2 f3 f4 f5 f6 f7 f8 f9 f10 f11)
       obtain ⟨hHeld, f0, -⟩ := hT
       refine seq_take (oi := ⟨some 20, _, _, _, _, _⟩) (v := ?_) rfl (Or.inl ⟨by kernel_rfl, ?_⟩) (by assumption) ?_
       rotate_left
       · (intro wS hSw; (try dsimp only at hSw); obtain ⟨a0, a1, a2, a3, a4⟩ := BlM.five hSw.b1; refine execV (fun rho hk1 hk2 hk3 hk => ?_); have e6_ := (hk 6).trans (evalP (fg1 (fg1 (fg1 (fg1 (fg1 (fg1 fg0))))))); clear hk; go_simp; (try with_reducible rfl))
       ((with_reducible refine wpSeq_put ?_; go_big_move))
       refine seq_take (oi := ⟨some 21, _, _, _, _, _⟩) (v := ?_) rfl (Or.inl ⟨by kernel_rfl, ?_⟩) (by assumption) ?_
       rotate_left
       · (intro wS hSw; (try dsimp only at hSw); obtain ⟨a0, a1, a2, a3, a4⟩ := BlM.five hSw.b1; refine execV (fun rho hk1 hk2 hk3 hk => ?_); have e20_ := (hk 20).trans (evalP (fg8 (fg8 (fg1 (fg1 (fg1 (fg1 fg0))))))); clear hk; go_simp; (try with_reducible rfl))
       ((with_reducible refine wpSeq_put ?_; go_big_move))
       refine seq_take (oi := ⟨some 22, _, _, _, _, _⟩) (v := ?_) rfl (Or.inl ⟨by kernel_rfl, ?_⟩) (by assumption) ?_
       rotate_left
       · (intro wS hSw; (try dsimp only at hSw); obtain ⟨a0, a1, a2, a3, a4⟩ := BlM.five hSw.b1; refine execV (fun rho hk1 hk2 hk3 hk => ?_); have e21_ := (hk 21).trans (evalP (fg8 (fg8 (fg1 (fg1 (fg1 (fg1 (fg1 fg0)))))))); clear hk; go_simp; (try with_reducible rfl))
       ((with_reducible refine wpSeq_put ?_; go_big_move))
       refine seq_take (oi := ⟨some 23, _, _, _, _, _⟩) (v := ?_) rfl (Or.inl ⟨by kernel_rfl, ?_⟩) (by assumption) ?_
       rotate_left
       · (intro wS hSw; (try dsimp only at hSw); obtain ⟨a0, a1, a2, a3, a4⟩ := BlM.five hSw.b1; refine execV (fun rho hk1 hk2 hk3 hk => ?_); have e3_ := (hk 3).trans (evalP (fg1 (fg1 (fg1 fg0)))); clear hk; go_simp; (try with_reducible rfl))
       ((with_reducible refine wpSeq_put ?_; go_big_move))
       refine seq_take (oi := ⟨some 24, _, _, _, _, _⟩) (v := ?_) rfl (Or.inl ⟨by kernel_rfl, ?_⟩) (by assumption) ?_
       rotate_left
       · (intro wS hSw; (try dsimp only at hSw); (refine yld_load 35 (.tmp 23) ?_ ⟨w.heap.size, 4, none⟩ (dga d) ?_ (BlM.dg hSw.b1) _ Tryz.underlying35 rfl (by rw [(hds d).out]; kernel_rfl) <;> rfl))
       ((with_reducible refine wpSeq_put ?_; go_big_move))
       refine seq_take (oi := ⟨some 25, _, _, _, _, _⟩) (v := ?_) rfl (Or.inl ⟨by kernel_rfl, ?_⟩) (by assumption) ?_
       rotate_left
       · (intro wS hSw; (try dsimp only at hSw); (refine yld_load 35 (.tmp 5) ?_ ⟨g5, 0, none⟩ (dga hd) ?_ hSw.b0.cells _ Tryz.underlying35 rfl (by rw [(hds hd).out]; kernel_rfl) <;> rfl))
       ((with_reducible refine wpSeq_put ?_; go_big_move))
       refine seq_take (oi := ⟨some 26, _, _, _, _, _⟩) (v := ?_) rfl (Or.inl ⟨by kernel_rfl, ?_⟩) (by assumption) ?_
       rotate_left
       · (intro wS hSw; (try dsimp only at hSw); obtain ⟨a0, a1, a2, a3, a4⟩ := BlM.five hSw.b1; refine execV (fun rho hk1 hk2 hk3 hk => ?_); have e24_ := (hk 24).trans (evalP (fg8 (fg8 (fg8 fg0)))); have e25_ := (hk 25).trans (evalP (fg8 (fg8 (fg8 (fg1 fg0))))); clear hk; go_simp; (try with_reducible rfl))
       ((with_reducible refine wpSeq_put ?_; go_big_move))
       refine seq_take (oi := ⟨some 27, _, _, _, _, _⟩) (v := ?_) rfl (Or.inl ⟨by kernel_rfl, ?_⟩) (by assumption) ?_
       rotate_left
       · (intro wS hSw; (try dsimp only at hSw); obtain ⟨a0, a1, a2, a3, a4⟩ := BlM.five hSw.b1; refine execV (fun rho hk1 hk2 hk3 hk => ?_); have e22_ := (hk 22).trans (evalP (fg8 (fg8 (fg1 (fg1 (fg1 (fg1 (fg1 (fg1 fg0))))))))); have e26_ := (hk 26).trans (evalP (fg8 (fg8 (fg8 (fg1 (fg1 fg0)))))); clear hk; go_simp; (try with_reducible rfl))
       ((with_reducible refine wpSeq_put ?_; go_big_move))
       refine seq_take (oi := ⟨some 28, _, _, _, _, _⟩) (v := ?_) rfl (Or.inl ⟨by kernel_rfl, ?_⟩) (by assumption) ?_
       rotate_left
       · (intro wS hSw; (try dsimp only at hSw); obtain ⟨a0, a1, a2, a3, a4⟩ := BlM.five hSw.b1; refine execV (fun rho hk1 hk2 hk3 hk => ?_); have e27_ := (hk 27).trans (evalP (fg8 (fg8 (fg8 (fg1 (fg1 (fg1 fg0))))))); clear hk; go_simp; (try with_reducible rfl))
       ((with_reducible refine wpSeq_put ?_; go_big_move))
       refine seq_take (oi := ⟨some 29, _, _, _, _, _⟩) (v := undef) rfl (Or.inr ⟨by kernel_rfl, rfl⟩) (by assumption) ?_
       ((with_reducible refine wpSeq_put ?_; go_big_move))
       refine seq_take (oi := ⟨some 30, _, _, _, _, _⟩) (v := undef) rfl (Or.inr ⟨by kernel_rfl, rfl⟩) (by assumption) ?_
       ((with_reducible refine wpSeq_put ?_; go_big_move))
       refine seq_take (oi := ⟨some 31, _, _, _, _, _⟩) (v := undef) rfl (Or.inr ⟨by kernel_rfl, rfl⟩) (by assumption) ?_
       ((with_reducible refine wpSeq_put ?_; go_big_move))
       refine seq_take (oi := ⟨some 32, _, _, _, _, _⟩) (v := undef) rfl (Or.inr ⟨by kernel_rfl, rfl⟩) (by assumption) ?_
       ((with_reducible refine wpSeq_put ?_; go_big_move))
       refine seq_take (oi := ⟨some 33, _, _, _, _, _⟩) (v := undef) rfl (Or.inr ⟨by kernel_rfl, rfl⟩) (by assumption) ?_
       ((with_reducible refine wpSeq_put ?_; go_big_move))
       refine seq_take (oi := ⟨some 34, _, _, _, _, _⟩) (v := ?_) rfl (Or.inl ⟨by kernel_rfl, ?_⟩) (by assumption) ?_
       rotate_left
       · (intro wS hSw; (try dsimp only at hSw); obtain ⟨a0, a1, a2, a3, a4⟩ := BlM.five hSw.b1; refine execV (fun rho hk1 hk2 hk3 hk => ?_); have e28_ := (hk 28).trans (evalP (fg8 (fg8 (fg8 (fg1 (fg1 (fg1 (fg1 fg0)))))))); have e33_ := (hk 33).trans (evalP (fg8 (fg8 (fg8 (fg8 (fg1 fg0)))))); clear hk; go_simp; (try with_reducible rfl))
       ((with_reducible refine wpSeq_put ?_; go_big_move))
       refine seq_take (oi := ⟨some 35, _, _, _, _, _⟩) (v := ?_) rfl (Or.inl ⟨by kernel_rfl, ?_⟩) (by assumption) ?_
       rotate_left
       · (intro wS hSw; (try dsimp only at hSw); obtain ⟨a0, a1, a2, a3, a4⟩ := BlM.five hSw.b1; refine execV (fun rho hk1 hk2 hk3 hk => ?_); have e34_ := (hk 34).trans (evalP (fg8 (fg8 (fg8 (fg8 (fg1 (fg1 fg0))))))); clear hk; go_simp; (try with_reducible rfl))
       ((with_reducible refine wpSeq_put ?_; go_big_move))
       refine seq_take (oi := ⟨some 36, _, _, _, _, _⟩) (v := undef) rfl (Or.inr ⟨by kernel_rfl, rfl⟩) (by assumption) ?_
       ((with_reducible refine wpSeq_put ?_; go_big_move))
       refine seq_take (oi := ⟨some 37, _, _, _, _, _⟩) (v := undef) rfl (Or.inr ⟨by kernel_rfl, rfl⟩) (by assumption) ?_
       ((with_reducible refine wpSeq_put ?_; go_big_move))
       refine seq_take (oi := ⟨some 38, _, _, _, _, _⟩) (v := undef) rfl (Or.inr ⟨by kernel_rfl, rfl⟩) (by assumption) ?_
       ((with_reducible refine wpSeq_put ?_; go_big_move))
       refine seq_take (oi := ⟨some 39, _, _, _, _, _⟩) (v := undef) rfl (Or.inr ⟨by kernel_rfl, rfl⟩) (by assumption) ?_
       ((with_reducible refine wpSeq_put ?_; go_big_move))
       refine seq_take (oi := ⟨some 40, _, _, _, _, _⟩) (v := undef) rfl (Or.inr ⟨by kernel_rfl, rfl⟩) (by assumption) ?_
       ((with_reducible refine wpSeq_put ?_; go_big_move))
       refine seq_take (oi := ⟨some 41, _, _, _, _, _⟩) (v := ?_) rfl (Or.inl ⟨by kernel_rfl, ?_⟩) (by assumption) ?_
       rotate_left
       · (intro wS hSw; (try dsimp only at hSw); obtain ⟨a0, a1, a2, a3, a4⟩ := BlM.five hSw.b1; refine execV (fun rho hk1 hk2 hk3 hk => ?_); have e35_ := (hk 35).trans (evalP (fg8 (fg8 (fg8 (fg8 (fg1 (fg1 (fg1 fg0)))))))); have e40_ := (hk 40).trans (evalP (fg8 (fg8 (fg8 (fg8 (fg8 fg0)))))); clear hk; go_simp; (try with_reducible rfl))
       ((with_reducible refine wpSeq_put ?_; go_big_move))
       refine seq_take (oi := ⟨some 4, _, _, _, _, _⟩) (v := ?_) rfl (Or.inl ⟨by kernel_rfl, ?_⟩) (by assumption) ?_
       rotate_left
       · (intro wS hSw; (try dsimp only at hSw); obtain ⟨a0, a1, a2, a3, a4⟩ := BlM.five hSw.b1; refine execV (fun rho hk1 hk2 hk3 hk => ?_); have e41_ := (hk 41).trans (evalP (fg8 (fg8 (fg8 (fg8 (fg8 (fg1 fg0))))))); clear hk; go_simp; (try with_reducible rfl))
       ((with_reducible refine wpSeq_put ?_; go_big_move))
       refine seq_done ?_
       go_wp2_with fail
       go_ret
       exact ⟨by rw [hr.out]; rfl, hHeld.bel⟩
     · rw [hd1] at hq hr
       cases hd2 : decide (f = et)
       · have hf2 : (f == et) = false := by simpa using hd2
         rw [hd2] at hr
         clear hM3 hd1 hd2
         refine wp_region_seq (S := (fun W => Mm w W [(g5, 35, dga hd), (w.heap.size, 46, mfa n f t q d A ps.length c)] [])) [(0, true), (1, true), (2, true), (3, true), (4, true), (5, true), (6, true), (7, true), (8, true), (9, true), (10, true), (11, true), (12, false), (13, true), (14, true), (15, true), (16, true), (17, true), (18, true), (19, true), (20, true), (21, true), (22, true)] (by kernel_rfl) (by kernel_rfl) (fun _ _ _ _ _ h => h) ?_ (fun hHeld => ?_)
         · first | with_reducible exact hMd | with_reducible exact hHeld
         refine gen0 (T := fun W => ((fun W => Mm w W [(g5, 35, dga hd), (w.heap.size, 46, mfa n f t q d A ps.length c)] [])) W ∧ Below w.heap.size w W ∧ True) ?_ (fun wq1 hT => ?_)
         · exact ⟨by (with_reducible exact hMd), by (with_reducible exact hMd.bel), trivial⟩
         (try clear f0 f1 f2 f3 f4 f5 f6 f7 f8 f9 f10 f11)
         obtain ⟨hHeld, f0, -⟩ := hT
         refine seq_take (oi := ⟨some 20, _, _, _, _, _⟩) (v := ?_) rfl (Or.inl ⟨by kernel_rfl, ?_⟩) (by assumption) ?_
         rotate_left
         · (intro wS hSw; (try dsimp only at hSw); obtain ⟨a0, a1, a2, a3, a4⟩ := BlM.five hSw.b1; refine execV (fun rho hk1 hk2 hk3 hk => ?_); have e6_ := (hk 6).trans (evalP (fg1 (fg1 (fg1 (fg1 (fg1 (fg1 fg0))))))); clear hk; go_simp; (try with_reducible rfl))
         ((with_reducible refine wpSeq_put ?_; go_big_move))
         refine seq_take (oi := ⟨some 21, _, _, _, _, _⟩) (v := ?_) rfl (Or.inl ⟨by kernel_rfl, ?_⟩) (by assumption) ?_
         rotate_left
         · (intro wS hSw; (try dsimp only at hSw); obtain ⟨a0, a1, a2, a3, a4⟩ := BlM.five hSw.b1; refine execV (fun rho hk1 hk2 hk3 hk => ?_); have e20_ := (hk 20).trans (evalP (fg8 (fg8 (fg1 (fg1 (fg1 (fg1 fg0))))))); clear hk; go_simp; (try with_reducible rfl))
         ((with_reducible refine wpSeq_put ?_; go_big_move))
         refine seq_take (oi := ⟨some 22, _, _, _, _, _⟩) (v := ?_) rfl (Or.inl ⟨by kernel_rfl, ?_⟩) (by assumption) ?_
         rotate_left
         · (intro wS hSw; (try dsimp only at hSw); obtain ⟨a0, a1, a2, a3, a4⟩ := BlM.five hSw.b1; refine execV (fun rho hk1 hk2 hk3 hk => ?_); have e21_ := (hk 21).trans (evalP (fg8 (fg8 (fg1 (fg1 (fg1 (fg1 (fg1 fg0)))))))); clear hk; go_simp; (try with_reducible rfl))
         ((with_reducible refine wpSeq_put ?_; go_big_move))
         refine seq_take (oi := ⟨some 23, _, _, _, _, _⟩) (v := ?_) rfl (Or.inl ⟨by kernel_rfl, ?_⟩) (by assumption) ?_
         rotate_left
         · (intro wS hSw; (try dsimp only at hSw); obtain ⟨a0, a1, a2, a3, a4⟩ := BlM.five hSw.b1; refine execV (fun rho hk1 hk2 hk3 hk => ?_); have e3_ := (hk 3).trans (evalP (fg1 (fg1 (fg1 fg0)))); clear hk; go_simp; (try with_reducible rfl))
         ((with_reducible refine wpSeq_put ?_; go_big_move))
         refine seq_take (oi := ⟨some 24, _, _, _, _, _⟩) (v := ?_) rfl (Or.inl ⟨by kernel_rfl, ?_⟩) (by assumption) ?_
         rotate_left
         · (intro wS hSw; (try dsimp only at hSw); (refine yld_load 35 (.tmp 23) ?_ ⟨w.heap.size, 4, none⟩ (dga d) ?_ (BlM.dg hSw.b1) _ Tryz.underlying35 rfl (by rw [(hds d).out]; kernel_rfl) <;> rfl))
         ((with_reducible refine wpSeq_put ?_; go_big_move))
         refine seq_take (oi := ⟨some 25, _, _, _, _, _⟩) (v := ?_) rfl (Or.inl ⟨by kernel_rfl, ?_⟩) (by assumption) ?_
         rotate_left
         · (intro wS hSw; (try dsimp only at hSw); (refine yld_load 35 (.tmp 5) ?_ ⟨g5, 0, none⟩ (dga hd) ?_ hSw.b0.cells _ Tryz.underlying35 rfl (by rw [(hds hd).out]; kernel_rfl) <;> rfl))
         ((with_reducible refine wpSeq_put ?_; go_big_move))
         refine seq_take (oi := ⟨some 26, _, _, _, _, _⟩) (v := ?_) rfl (Or.inl ⟨by kernel_rfl, ?_⟩) (by assumption) ?_
         rotate_left
         · (intro wS hSw; (try dsimp only at hSw); obtain ⟨a0, a1, a2, a3, a4⟩ := BlM.five hSw.b1; refine execV (fun rho hk1 hk2 hk3 hk => ?_); have e24_ := (hk 24).trans (evalP (fg8 (fg8 (fg8 fg0)))); have e25_ := (hk 25).trans (evalP (fg8 (fg8 (fg8 (fg1 fg0))))); clear hk; go_simp; (try with_reducible rfl))
         ((with_reducible refine wpSeq_put ?_; go_big_move))
         refine seq_take (oi := ⟨some 27, _, _, _, _, _⟩) (v := ?_) rfl (Or.inl ⟨by kernel_rfl, ?_⟩) (by assumption) ?_
         rotate_left
         · (intro wS hSw; (try dsimp only at hSw); obtain ⟨a0, a1, a2, a3, a4⟩ := BlM.five hSw.b1; refine execV (fun rho hk1 hk2 hk3 hk => ?_); have e22_ := (hk 22).trans (evalP (fg8 (fg8 (fg1 (fg1 (fg1 (fg1 (fg1 (fg1 fg0))))))))); have e26_ := (hk 26).trans (evalP (fg8 (fg8 (fg8 (fg1 (fg1 fg0)))))); clear hk; go_simp; (try with_reducible rfl))
         ((with_reducible refine wpSeq_put ?_; go_big_move))
         refine seq_take (oi := ⟨some 28, _, _, _, _, _⟩) (v := ?_) rfl (Or.inl ⟨by kernel_rfl, ?_⟩) (by assumption) ?_
         rotate_left
         · (intro wS hSw; (try dsimp only at hSw); obtain ⟨a0, a1, a2, a3, a4⟩ := BlM.five hSw.b1; refine execV (fun rho hk1 hk2 hk3 hk => ?_); have e27_ := (hk 27).trans (evalP (fg8 (fg8 (fg8 (fg1 (fg1 (fg1 fg0))))))); clear hk; go_simp; (try with_reducible rfl))
         ((with_reducible refine wpSeq_put ?_; go_big_move))
         refine seq_take (oi := ⟨some 29, _, _, _, _, _⟩) (v := ?_) rfl (Or.inl ⟨by kernel_rfl, ?_⟩) (by assumption) ?_
         rotate_left
         · (intro wS hSw; (try dsimp only at hSw); obtain ⟨a0, a1, a2, a3, a4⟩ := BlM.five hSw.b1; refine execV (fun rho hk1 hk2 hk3 hk => ?_); have e3_ := (hk 3).trans (evalP (fg1 (fg1 (fg1 fg0)))); clear hk; go_simp; (try with_reducible rfl))
         ((with_reducible refine wpSeq_put ?_; go_big_move))
         refine seq_take (oi := ⟨some 30, _, _, _, _, _⟩) (v := ?_) rfl (Or.inl ⟨by kernel_rfl, ?_⟩) (by assumption) ?_
         rotate_left
         · (intro wS hSw; (try dsimp only at hSw); obtain ⟨a0, a1, a2, a3, a4⟩ := BlM.five hSw.b1; refine execV (fun rho hk1 hk2 hk3 hk => ?_); have e29_ := (hk 29).trans (evalP (fg8 (fg8 (fg8 (fg1 (fg1 (fg1 (fg1 (fg1 fg0))))))))); clear hk; go_simp; (try with_reducible rfl))
         ((with_reducible refine wpSeq_put ?_; go_big_move))
         refine seq_take (oi := ⟨some 31, _, _, _, _, _⟩) (v := ?_) rfl (Or.inl ⟨by kernel_rfl, ?_⟩) (by assumption) ?_
         rotate_left
         · (intro wS hSw; (try dsimp only at hSw); obtain ⟨a0, a1, a2, a3, a4⟩ := BlM.five hSw.b1; refine execV (fun rho hk1 hk2 hk3 hk => ?_); have e0_ := (hk 0).trans (evalP fg0); clear hk; go_simp; (try with_reducible rfl))
         ((with_reducible refine wpSeq_put ?_; go_big_move))
         refine seq_step (o := ⟨some 32, _, _, _, _, _⟩) rfl (fun K hK => ?_)
         with_reducible refine wantedP (by kernel_rfl) ?_
         (go_big_op)
         (refine (HE.out _ f0).mono ?_; rintro e w12 ⟨rfl, hb9⟩)
         go_wp2_with fail
         refine hK.out _ _ ?_ (fun _ => ?_)
         · ((try dsimp only); (with_reducible exact hHeld.call hb9))
         clear hK K
         ((try simp only [Act.put, pS0, pS1, pS2]))
         refine gen0 (T := fun W => ((fun W => Mm w W [(g5, 35, dga hd), (w.heap.size, 46, mfa n f t q d A ps.length c)] [])) W ∧ Below w.heap.size w W ∧ True) ?_ (fun wq2 hT => ?_)
         · exact ⟨by (with_reducible exact hHeld.call hb9), by (exact bel_call f0 hb9), trivial⟩
         (try clear f0 f1 f2 f3 f4 f5 f6 f7 f8 f9 f10 f11)
         obtain ⟨hHeld, f0, -⟩ := hT
         refine seq_take (oi := ⟨some 33, _, _, _, _, _⟩) (v := ?_) rfl (Or.inl ⟨by kernel_rfl, ?_⟩) (by assumption) ?_
         rotate_left
         · (intro wS hSw; (try dsimp only at hSw); obtain ⟨a0, a1, a2, a3, a4⟩ := BlM.five hSw.b1; refine execV (fun rho hk1 hk2 hk3 hk => ?_); have e30_ := (hk 30).trans (evalP (fg8 (fg8 (fg8 (fg1 (fg1 (fg1 (fg1 (fg1 (fg1 fg0)))))))))); have e32_ := (hk 32).trans (evalP (fg8 (fg8 (fg8 (fg8 fg0))))); clear hk; go_simp; (try with_reducible rfl))
         ((with_reducible refine wpSeq_put ?_; go_big_move))
         refine seq_take (oi := ⟨some 34, _, _, _, _, _⟩) (v := ?_) rfl (Or.inl ⟨by kernel_rfl, ?_⟩) (by assumption) ?_
         rotate_left
         · (intro wS hSw; (try dsimp only at hSw); obtain ⟨a0, a1, a2, a3, a4⟩ := BlM.five hSw.b1; refine execV (fun rho hk1 hk2 hk3 hk => ?_); have e28_ := (hk 28).trans (evalP (fg8 (fg8 (fg8 (fg1 (fg1 (fg1 (fg1 fg0)))))))); have e33_ := (hk 33).trans (evalP (fg8 (fg8 (fg8 (fg8 (fg1 fg0)))))); clear hk; go_simp; (try with_reducible rfl))
         ((with_reducible refine wpSeq_put ?_; go_big_move))
         refine seq_take (oi := ⟨some 35, _, _, _, _, _⟩) (v := ?_) rfl (Or.inl ⟨by kernel_rfl, ?_⟩) (by assumption) ?_
         rotate_left
         · (intro wS hSw; (try dsimp only at hSw); obtain ⟨a0, a1, a2, a3, a4⟩ := BlM.five hSw.b1; refine execV (fun rho hk1 hk2 hk3 hk => ?_); have e34_ := (hk 34).trans (evalP (fg8 (fg8 (fg8 (fg8 (fg1 (fg1 fg0))))))); clear hk; go_simp; (try with_reducible rfl))
         ((with_reducible refine wpSeq_put ?_; go_big_move))
         refine seq_take (oi := ⟨some 36, _, _, _, _, _⟩) (v := undef) rfl (Or.inr ⟨by kernel_rfl, rfl⟩) (by assumption) ?_
         ((with_reducible refine wpSeq_put ?_; go_big_move))
         refine seq_take (oi := ⟨some 37, _, _, _, _, _⟩) (v := undef) rfl (Or.inr ⟨by kernel_rfl, rfl⟩) (by assumption) ?_
         ((with_reducible refine wpSeq_put ?_; go_big_move))
         refine seq_take (oi := ⟨some 38, _, _, _, _, _⟩) (v := undef) rfl (Or.inr ⟨by kernel_rfl, rfl⟩) (by assumption) ?_
         ((with_reducible refine wpSeq_put ?_; go_big_move))
         refine seq_take (oi := ⟨some 39, _, _, _, _, _⟩) (v := undef) rfl (Or.inr ⟨by kernel_rfl, rfl⟩) (by assumption) ?_
         ((with_reducible refine wpSeq_put ?_; go_big_move))
         refine seq_take (oi := ⟨some 40, _, _, _, _, _⟩) (v := undef) rfl (Or.inr ⟨by kernel_rfl, rfl⟩) (by assumption) ?_
         ((with_reducible refine wpSeq_put ?_; go_big_move))
         refine seq_take (oi := ⟨some 41, _, _, _, _, _⟩) (v := ?_) rfl (Or.inl ⟨by kernel_rfl, ?_⟩) (by assumption) ?_
         rotate_left
         · (intro wS hSw; (try dsimp only at hSw); obtain ⟨a0, a1, a2, a3, a4⟩ := BlM.five hSw.b1; refine execV (fun rho hk1 hk2 hk3 hk => ?_); have e35_ := (hk 35).trans (evalP (fg8 (fg8 (fg8 (fg8 (fg1 (fg1 (fg1 fg0)))))))); have e40_ := (hk 40).trans (evalP (fg8 (fg8 (fg8 (fg8 (fg8 fg0)))))); clear hk; go_simp; (try with_reducible rfl))
         ((with_reducible refine wpSeq_put ?_; go_big_move))
         refine seq_take (oi := ⟨some 4, _, _, _, _, _⟩) (v := ?_) rfl (Or.inl ⟨by kernel_rfl, ?_⟩) (by assumption) ?_
         rotate_left
         · (intro wS hSw; (try dsimp only at hSw); obtain ⟨a0, a1, a2, a3, a4⟩ := BlM.five hSw.b1; refine execV (fun rho hk1 hk2 hk3 hk => ?_); have e41_ := (hk 41).trans (evalP (fg8 (fg8 (fg8 (fg8 (fg8 (fg1 fg0))))))); clear hk; go_simp; (try with_reducible rfl))
         ((with_reducible refine wpSeq_put ?_; go_big_move))
         refine seq_done ?_
         go_wp2_with fail
         go_ret
         exact ⟨by rw [hr.out]; rfl, hHeld.bel⟩
       · have hf2 : (f == et) = true := by simpa using hd2
         rw [hd2] at hr
         clear hM3 hd1 hd2
         refine wp_region_seq (S := (fun W => Mm w W [(g5, 35, dga hd), (w.heap.size, 46, mfa n f t q d A ps.length c)] [])) [(0, true), (1, true), (2, true), (3, true), (4, true), (5, true), (6, true), (7, true), (8, true), (9, true), (10, true), (11, true), (12, false), (13, true), (14, true), (15, true), (16, true), (17, true), (18, true), (19, false), (20, true), (21, true), (22, true)] (by kernel_rfl) (by kernel_rfl) (fun _ _ _ _ _ h => h) ?_ (fun hHeld => ?_)
         · first | with_reducible exact hMd | with_reducible exact hHeld
         refine gen0 (T := fun W => ((fun W => Mm w W [(g5, 35, dga hd), (w.heap.size, 46, mfa n f t q d A ps.length c)] [])) W ∧ Below w.heap.size w W ∧ True) ?_ (fun wq1 hT => ?_)
         · exact ⟨by (with_reducible exact hMd), by (with_reducible exact hMd.bel), trivial⟩
         (try clear f0 f1 f2 f3 f4 f5 f6 f7 f8 f9 f10 f11)
         obtain ⟨hHeld, f0, -⟩ := hT
         refine seq_take (oi := ⟨some 20, _, _, _, _, _⟩) (v := ?_) rfl (Or.inl ⟨by kernel_rfl, ?_⟩) (by assumption) ?_
         rotate_left
         · (intro wS hSw; (try dsimp only at hSw); obtain ⟨a0, a1, a2, a3, a4⟩ := BlM.five hSw.b1; refine execV (fun rho hk1 hk2 hk3 hk => ?_); have e6_ := (hk 6).trans (evalP (fg1 (fg1 (fg1 (fg1 (fg1 (fg1 fg0))))))); clear hk; go_simp; (try with_reducible rfl))
         ((with_reducible refine wpSeq_put ?_; go_big_move))
         refine seq_take (oi := ⟨some 21, _, _, _, _, _⟩) (v := ?_) rfl (Or.inl ⟨by kernel_rfl, ?_⟩) (by assumption) ?_
         rotate_left
         · (intro wS hSw; (try dsimp only at hSw); obtain ⟨a0, a1, a2, a3, a4⟩ := BlM.five hSw.b1; refine execV (fun rho hk1 hk2 hk3 hk => ?_); have e20_ := (hk 20).trans (evalP (fg8 (fg8 (fg1 (fg1 (fg1 (fg1 fg0))))))); clear hk; go_simp; (try with_reducible rfl))
         ((with_reducible refine wpSeq_put ?_; go_big_move))
         refine seq_take (oi := ⟨some 22, _, _, _, _, _⟩) (v := ?_) rfl (Or.inl ⟨by kernel_rfl, ?_⟩) (by assumption) ?_
         rotate_left
         · (intro wS hSw; (try dsimp only at hSw); obtain ⟨a0, a1, a2, a3, a4⟩ := BlM.five hSw.b1; refine execV (fun rho hk1 hk2 hk3 hk => ?_); have e21_ := (hk 21).trans (evalP (fg8 (fg8 (fg1 (fg1 (fg1 (fg1 (fg1 fg0)))))))); clear hk; go_simp; (try with_reducible rfl))
         ((with_reducible refine wpSeq_put ?_; go_big_move))
         refine seq_take (oi := ⟨some 23, _, _, _, _, _⟩) (v := ?_) rfl (Or.inl ⟨by kernel_rfl, ?_⟩) (by assumption) ?_
         rotate_left
         · (intro wS hSw; (try dsimp only at hSw); obtain ⟨a0, a1, a2, a3, a4⟩ := BlM.five hSw.b1; refine execV (fun rho hk1 hk2 hk3 hk => ?_); have e3_ := (hk 3).trans (evalP (fg1 (fg1 (fg1 fg0)))); clear hk; go_simp; (try with_reducible rfl))
         ((with_reducible refine wpSeq_put ?_; go_big_move))
         refine seq_take (oi := ⟨some 24, _, _, _, _, _⟩) (v := ?_) rfl (Or.inl ⟨by kernel_rfl, ?_⟩) (by assumption) ?_
         rotate_left
         · (intro wS hSw; (try dsimp only at hSw); (refine yld_load 35 (.tmp 23) ?_ ⟨w.heap.size, 4, none⟩ (dga d) ?_ (BlM.dg hSw.b1) _ Tryz.underlying35 rfl (by rw [(hds d).out]; kernel_rfl) <;> rfl))
         ((with_reducible refine wpSeq_put ?_; go_big_move))
         refine seq_take (oi := ⟨some 25, _, _, _, _, _⟩) (v := ?_) rfl (Or.inl ⟨by kernel_rfl, ?_⟩) (by assumption) ?_
         rotate_left
         · (intro wS hSw; (try dsimp only at hSw); (refine yld_load 35 (.tmp 5) ?_ ⟨g5, 0, none⟩ (dga hd) ?_ hSw.b0.cells _ Tryz.underlying35 rfl (by rw [(hds hd).out]; kernel_rfl) <;> rfl))
         ((with_reducible refine wpSeq_put ?_; go_big_move))
         refine seq_take (oi := ⟨some 26, _, _, _, _, _⟩) (v := ?_) rfl (Or.inl ⟨by kernel_rfl, ?_⟩) (by assumption) ?_
         rotate_left
         · (intro wS hSw; (try dsimp only at hSw); obtain ⟨a0, a1, a2, a3, a4⟩ := BlM.five hSw.b1; refine execV (fun rho hk1 hk2 hk3 hk => ?_); have e24_ := (hk 24).trans (evalP (fg8 (fg8 (fg8 fg0)))); have e25_ := (hk 25).trans (evalP (fg8 (fg8 (fg8 (fg1 fg0))))); clear hk; go_simp; (try with_reducible rfl))
         ((with_reducible refine wpSeq_put ?_; go_big_move))
         refine seq_take (oi := ⟨some 27, _, _, _, _, _⟩) (v := ?_) rfl (Or.inl ⟨by kernel_rfl, ?_⟩) (by assumption) ?_
         rotate_left
         · (intro wS hSw; (try dsimp only at hSw); obtain ⟨a0, a1, a2, a3, a4⟩ := BlM.five hSw.b1; refine execV (fun rho hk1 hk2 hk3 hk => ?_); have e22_ := (hk 22).trans (evalP (fg8 (fg8 (fg1 (fg1 (fg1 (fg1 (fg1 (fg1 fg0))))))))); have e26_ := (hk 26).trans (evalP (fg8 (fg8 (fg8 (fg1 (fg1 fg0)))))); clear hk; go_simp; (try with_reducible rfl))
         ((with_reducible refine wpSeq_put ?_; go_big_move))
         refine seq_take (oi := ⟨some 28, _, _, _, _, _⟩) (v := ?_) rfl (Or.inl ⟨by kernel_rfl, ?_⟩) (by assumption) ?_
         rotate_left
         · (intro wS hSw; (try dsimp only at hSw); obtain ⟨a0, a1, a2, a3, a4⟩ := BlM.five hSw.b1; refine execV (fun rho hk1 hk2 hk3 hk => ?_); have e27_ := (hk 27).trans (evalP (fg8 (fg8 (fg8 (fg1 (fg1 (fg1 fg0))))))); clear hk; go_simp; (try with_reducible rfl))
         ((with_reducible refine wpSeq_put ?_; go_big_move))
         refine seq_take (oi := ⟨some 29, _, _, _, _, _⟩) (v := ?_) rfl (Or.inl ⟨by kernel_rfl, ?_⟩) (by assumption) ?_
         rotate_left
         · (intro wS hSw; (try dsimp only at hSw); obtain ⟨a0, a1, a2, a3, a4⟩ := BlM.five hSw.b1; refine execV (fun rho hk1 hk2 hk3 hk => ?_); have e3_ := (hk 3).trans (evalP (fg1 (fg1 (fg1 fg0)))); clear hk; go_simp; (try with_reducible rfl))
         ((with_reducible refine wpSeq_put ?_; go_big_move))
         refine seq_take (oi := ⟨some 30, _, _, _, _, _⟩) (v := ?_) rfl (Or.inl ⟨by kernel_rfl, ?_⟩) (by assumption) ?_
         rotate_left
         · (intro wS hSw; (try dsimp only at hSw); obtain ⟨a0, a1, a2, a3, a4⟩ := BlM.five hSw.b1; refine execV (fun rho hk1 hk2 hk3 hk => ?_); have e29_ := (hk 29).trans (evalP (fg8 (fg8 (fg8 (fg1 (fg1 (fg1 (fg1 (fg1 fg0))))))))); clear hk; go_simp; (try with_reducible rfl))
         ((with_reducible refine wpSeq_put ?_; go_big_move))
         refine seq_take (oi := ⟨some 31, _, _, _, _, _⟩) (v := ?_) rfl (Or.inl ⟨by kernel_rfl, ?_⟩) (by assumption) ?_
         rotate_left
         · (intro wS hSw; (try dsimp only at hSw); obtain ⟨a0, a1, a2, a3, a4⟩ := BlM.five hSw.b1; refine execV (fun rho hk1 hk2 hk3 hk => ?_); have e0_ := (hk 0).trans (evalP fg0); clear hk; go_simp; (try with_reducible rfl))
         ((with_reducible refine wpSeq_put ?_; go_big_move))
         refine seq_step (o := ⟨some 32, _, _, _, _, _⟩) rfl (fun K hK => ?_)
         with_reducible refine wantedP (by kernel_rfl) ?_
         (go_big_op)
         (refine (HE.out _ f0).mono ?_; rintro e w12 ⟨rfl, hb9⟩)
         go_wp2_with fail
         refine hK.out _ _ ?_ (fun _ => ?_)
         · ((try dsimp only); (with_reducible exact hHeld.call hb9))
         clear hK K
         ((try simp only [Act.put, pS0, pS1, pS2]))
         refine gen0 (T := fun W => ((fun W => Mm w W [(g5, 35, dga hd), (w.heap.size, 46, mfa n f t q d A ps.length c)] [])) W ∧ Below w.heap.size w W ∧ True) ?_ (fun wq2 hT => ?_)
         · exact ⟨by (with_reducible exact hHeld.call hb9), by (exact bel_call f0 hb9), trivial⟩
         (try clear f0 f1 f2 f3 f4 f5 f6 f7 f8 f9 f10 f11)
         obtain ⟨hHeld, f0, -⟩ := hT
         refine seq_take (oi := ⟨some 33, _, _, _, _, _⟩) (v := ?_) rfl (Or.inl ⟨by kernel_rfl, ?_⟩) (by assumption) ?_
         rotate_left
         · (intro wS hSw; (try dsimp only at hSw); obtain ⟨a0, a1, a2, a3, a4⟩ := BlM.five hSw.b1; refine execV (fun rho hk1 hk2 hk3 hk => ?_); have e30_ := (hk 30).trans (evalP (fg8 (fg8 (fg8 (fg1 (fg1 (fg1 (fg1 (fg1 (fg1 fg0)))))))))); have e32_ := (hk 32).trans (evalP (fg8 (fg8 (fg8 (fg8 fg0))))); clear hk; go_simp; (try with_reducible rfl))
         ((with_reducible refine wpSeq_put ?_; go_big_move))
         refine seq_take (oi := ⟨some 34, _, _, _, _, _⟩) (v := ?_) rfl (Or.inl ⟨by kernel_rfl, ?_⟩) (by assumption) ?_
         rotate_left
         · (intro wS hSw; (try dsimp only at hSw); obtain ⟨a0, a1, a2, a3, a4⟩ := BlM.five hSw.b1; refine execV (fun rho hk1 hk2 hk3 hk => ?_); have e28_ := (hk 28).trans (evalP (fg8 (fg8 (fg8 (fg1 (fg1 (fg1 (fg1 fg0)))))))); have e33_ := (hk 33).trans (evalP (fg8 (fg8 (fg8 (fg8 (fg1 fg0)))))); clear hk; go_simp; (try with_reducible rfl))
         ((with_reducible refine wpSeq_put ?_; go_big_move))
         refine seq_take (oi := ⟨some 35, _, _, _, _, _⟩) (v := ?_) rfl (Or.inl ⟨by kernel_rfl, ?_⟩) (by assumption) ?_
         rotate_left
         · (intro wS hSw; (try dsimp only at hSw); obtain ⟨a0, a1, a2, a3, a4⟩ := BlM.five hSw.b1; refine execV (fun rho hk1 hk2 hk3 hk => ?_); have e34_ := (hk 34).trans (evalP (fg8 (fg8 (fg8 (fg8 (fg1 (fg1 fg0))))))); clear hk; go_simp; (try with_reducible rfl))
         ((with_reducible refine wpSeq_put ?_; go_big_move))
         refine seq_take (oi := ⟨some 36, _, _, _, _, _⟩) (v := ?_) rfl (Or.inl ⟨by kernel_rfl, ?_⟩) (by assumption) ?_
         rotate_left
         · (intro wS hSw; (try dsimp only at hSw); obtain ⟨a0, a1, a2, a3, a4⟩ := BlM.five hSw.b1; refine execV (fun rho hk1 hk2 hk3 hk => ?_); have e3_ := (hk 3).trans (evalP (fg1 (fg1 (fg1 fg0)))); clear hk; go_simp; (try with_reducible rfl))
         ((with_reducible refine wpSeq_put ?_; go_big_move))
         refine seq_take (oi := ⟨some 37, _, _, _, _, _⟩) (v := ?_) rfl (Or.inl ⟨by kernel_rfl, ?_⟩) (by assumption) ?_
         rotate_left
         · (intro wS hSw; (try dsimp only at hSw); obtain ⟨a0, a1, a2, a3, a4⟩ := BlM.five hSw.b1; refine execV (fun rho hk1 hk2 hk3 hk => ?_); have e36_ := (hk 36).trans (evalP (fg8 (fg8 (fg8 (fg8 (fg1 (fg1 (fg1 (fg1 fg0))))))))); clear hk; go_simp; (try with_reducible rfl))
         ((with_reducible refine wpSeq_put ?_; go_big_move))
         refine seq_take (oi := ⟨some 38, _, _, _, _, _⟩) (v := ?_) rfl (Or.inl ⟨by kernel_rfl, ?_⟩) (by assumption) ?_
         rotate_left
         · (intro wS hSw; (try dsimp only at hSw); obtain ⟨a0, a1, a2, a3, a4⟩ := BlM.five hSw.b1; refine execV (fun rho hk1 hk2 hk3 hk => ?_); have e0_ := (hk 0).trans (evalP fg0); clear hk; go_simp; (try with_reducible rfl))
         ((with_reducible refine wpSeq_put ?_; go_big_move))
         refine seq_step (o := ⟨some 39, _, _, _, _, _⟩) rfl (fun K hK => ?_)
         with_reducible refine wantedP (by kernel_rfl) ?_
         (go_big_op)
         (refine (HK.out _ f0).mono ?_; rintro e w12 ⟨rfl, hb9⟩)
         go_wp2_with fail
         refine hK.out _ _ ?_ (fun _ => ?_)
         · ((try dsimp only); (with_reducible exact hHeld.call hb9))
         clear hK K
         ((try simp only [Act.put, pS0, pS1, pS2]))
         refine gen0 (T := fun W => ((fun W => Mm w W [(g5, 35, dga hd), (w.heap.size, 46, mfa n f t q d A ps.length c)] [])) W ∧ Below w.heap.size w W ∧ True) ?_ (fun wq3 hT => ?_)
         · exact ⟨by (with_reducible exact hHeld.call hb9), by (exact bel_call f0 hb9), trivial⟩
         (try clear f0 f1 f2 f3 f4 f5 f6 f7 f8 f9 f10 f11)
         obtain ⟨hHeld, f0, -⟩ := hT
         refine seq_take (oi := ⟨some 40, _, _, _, _, _⟩) (v := ?_) rfl (Or.inl ⟨by kernel_rfl, ?_⟩) (by assumption) ?_
         rotate_left
         · (intro wS hSw; (try dsimp only at hSw); obtain ⟨a0, a1, a2, a3, a4⟩ := BlM.five hSw.b1; refine execV (fun rho hk1 hk2 hk3 hk => ?_); have e37_ := (hk 37).trans (evalP (fg8 (fg8 (fg8 (fg8 (fg1 (fg1 (fg1 (fg1 (fg1 fg0)))))))))); have e39_ := (hk 39).trans (evalP (fg8 (fg8 (fg8 (fg8 (fg1 (fg1 (fg1 (fg1 (fg1 (fg1 (fg1 fg0)))))))))))); clear hk; go_simp; (try with_reducible rfl))
         ((with_reducible refine wpSeq_put ?_; go_big_move))
         refine seq_take (oi := ⟨some 41, _, _, _, _, _⟩) (v := ?_) rfl (Or.inl ⟨by kernel_rfl, ?_⟩) (by assumption) ?_
         rotate_left
         · (intro wS hSw; (try dsimp only at hSw); obtain ⟨a0, a1, a2, a3, a4⟩ := BlM.five hSw.b1; refine execV (fun rho hk1 hk2 hk3 hk => ?_); have e35_ := (hk 35).trans (evalP (fg8 (fg8 (fg8 (fg8 (fg1 (fg1 (fg1 fg0)))))))); have e40_ := (hk 40).trans (evalP (fg8 (fg8 (fg8 (fg8 (fg8 fg0)))))); clear hk; go_simp; (try with_reducible rfl))
         ((with_reducible refine wpSeq_put ?_; go_big_move))
         refine seq_take (oi := ⟨some 4, _, _, _, _, _⟩) (v := ?_) rfl (Or.inl ⟨by kernel_rfl, ?_⟩) (by assumption) ?_
         rotate_left
         · (intro wS hSw; (try dsimp only at hSw); obtain ⟨a0, a1, a2, a3, a4⟩ := BlM.five hSw.b1; refine execV (fun rho hk1 hk2 hk3 hk => ?_); have e41_ := (hk 41).trans (evalP (fg8 (fg8 (fg8 (fg8 (fg8 (fg1 fg0))))))); clear hk; go_simp; (try with_reducible rfl))
         ((with_reducible refine wpSeq_put ?_; go_big_move))
         refine seq_done ?_
         go_wp2_with fail
         go_ret
         exact ⟨by rw [hr.out]; simp, hHeld.bel⟩
 · have hnb : ((n : Int) != (l.length : Int)) = true := by simpa using hn
   have hr : Hid (cfol ((mvs l).getLast?) l.length (n, f, t, q, d, ps) = false) := (show _ = _ from by unfold cfol; simp [hn])
   clear hn h hc
   go_enter Tryz.func74, Tryz.ntmps74
   go_wp2_with fail
   go_ret
   exact ⟨by rw [hr.out]; rfl, hM.bel⟩
set_option maxRecDepth 100000 in
set_option maxHeartbeats 2000000 in
theorem ChCheck_any {E : Option Addr} {cap : Nat} (l : List MfV) (w : World) (hG : Shg w) (h : SlM w E cap l) :
 Calls Tryz.prog 33 #[.slice E l.length cap] w fun e w' => e = .returned (.tuple #[.int .i64 ((ckl (mvs l)).1 : Nat), errv (ckl (mvs l)).2]) ∧ Below w.heap.size w w' := by
 have hmax := h.1.2.1
 have hmax2 := h.1.2.2.1
 unfold maxLen at hmax2
 have hms := fun x => Lib.hid (mva_size x)
 have hma := fun x => Lib.hid (mva_all x)
 go_enter Tryz.func33, Tryz.ntmps33
 go_wp2_with fail
 go_loopw [9] (fun y wr => ∃ k : Nat, k ≤ l.length ∧ y = .int .i64 k ∧ Hid ((∀ m ∈ mvs (l.take k), mchk m = 0) ∧ ckAt (mvs l) k = ckl (mvs l)) ∧ Below w.heap.size w wr) (fun y w => l.length - (intOf y).toNat)
 case atStart => exact ⟨0, Nat.zero_le _, rfl, ⟨fun m hm => by simp [mvs] at hm, ckAt_zero _⟩, Below.refl _ _⟩
 case round =>
  obtain ⟨k, hk, rfl, hall, hbr⟩ := hrel
  by_cases hlt : k < l.length
  · obtain ⟨ad, b, o, rfl, had, hcc⟩ := (h.below hbr).at hlt
    have hkc : k ≤ cap := by omega
    have hkm : k < (mvs l).length := by rw [mvs_len]; exact hlt
    have hgk : (mvs l)[k] = l[k].1 := by simp [mvs]
    have hx := h.2 _ (List.getElem_mem hlt)
    have hCM := Lib.hid (fun W (hh : Below w.heap.size w W) => MCheck_any l[k].1.1 l[k].1.2.1 l[k].1.2.2.1 l[k].1.2.2.2.1 l[k].1.2.2.2.2.1 l[k].1.2.2.2.2.2 W (hx.1.below hh) hx.2.2.2.2.2)
    have hFo := fun W (hh : Below w.heap.size w W) => Follows_any (A := l[k].2.1) (c := l[k].2.2) (l.take k) l[k].1.1 l[k].1.2.1 l[k].1.2.2.1 l[k].1.2.2.2.1 l[k].1.2.2.2.2.1 l[k].1.2.2.2.2.2 W (hG.below hh) ((h.below hh).take hk) hall.out.1
    rw [show (l.take k).length = k from by simp; omega, mvs_take, ← cprev_take (mvs l) (by omega)] at hFo
    have HFo := Lib.hid hFo
    have HBad := Lib.hid (fun e => (ckAt_bad hkm e).symm.trans hall.out.2)
    have HCh := Lib.hid (fun e e2 => (ckAt_chain hkm e e2).symm.trans hall.out.2)
    have HSt := Lib.hid (fun e e2 => (ckAt_step hkm e e2).symm.trans hall.out.2)
    have HAl := Lib.hid (show mchk l[k].1 = 0 → ∀ m ∈ mvs (l.take (k + 1)), mchk m = 0 from fun h0 m hm => by
     rw [List.take_succ_eq_append_getElem hlt] at hm
     unfold mvs at hm
     rw [List.map_append, List.mem_append] at hm
     rcases hm with hm | hm
     · exact hall.out.1 m hm
     · rw [List.mem_singleton.1 hm]
       exact h0)
    rw [hgk] at HBad HCh HSt
    rw [show mfa l[k].1.1 l[k].1.2.1 l[k].1.2.2.1 l[k].1.2.2.2.1 l[k].1.2.2.2.2.1 l[k].2.1 l[k].1.2.2.2.2.2.length l[k].2.2 = mva l[k] from rfl, show (l[k].1.1, l[k].1.2.1, l[k].1.2.2.1, l[k].1.2.2.2.1, l[k].1.2.2.2.2.1, l[k].1.2.2.2.2.2) = l[k].1 from rfl] at hCM HFo
    clear hFo hx hgk hall
    generalize hxe : l[k] = x at *
    clear hxe
    have HCC := Lib.hid hcc
    clear hcc
    generalize hck : mchk x.1 = km at *
    generalize hcf : cfol (cprev (mvs l) k) k x.1 = bf at *
    clear hck hcf
    go_upto_region 4 with (first | (refine wpl_loadG rfl 46 _ rfl ⟨b, o, none⟩ (mva x) rfl HCC.out _ Tryz.underlying46 rfl (by rw [(hms x).out]; kernel_rfl) ?_) | (refine wpl_storeN rfl 46 _ _ rfl _ (mva x) 46 rfl rfl (by rw [(hms x).out]; kernel_rfl) (by rw [(hms x).out]; rfl) (hma x).out ?_))
    refine gen1 (T := fun W => Mm w W [(wr.heap.size, 46, mva x)] []) (((Mm.start w).call hbr).alloc _ _) (fun w1 hM => ?_)
    generalize wr.heap.size = g5 at *
    go_wp2_with (refine wpl_loadG rfl 46 _ rfl ⟨g5, 0, none⟩ (mva x) rfl hM.b0.cells _ Tryz.underlying46 rfl (by rw [(hms x).out]; kernel_rfl) ?_)
    refine (hCM.out _ hM.bel).mono ?_
    rintro e w2 ⟨rfl, hb2⟩
    have hM2 := hM.call hb2
    clear hM hb2 hCM HCC
    rcases errv_cases km with ⟨h0, hev⟩ | ⟨ke, hk1, hke, hev⟩
    · rw [hev]
      have HB2 := Lib.hid (HSt.out h0)
      have HC2 := Lib.hid (HCh.out h0)
      have HA2 := Lib.hid (HAl.out h0)
      clear hev h0 HBad HSt HCh HAl
      go_upto_region 7 with (fail)
      have hMd := hM2.drew
      refine wp_region_seq (S := (fun W => Mm w W [(g5, 46, mva x)] [])) [(0, true), (1, true), (2, true), (3, true), (4, false), (5, true)] (by kernel_rfl) (by kernel_rfl) (fun _ _ _ _ _ h => h) ?_ (fun hHeld => ?_)
      · first | with_reducible exact hMd | with_reducible exact hHeld
      refine gen0 (T := fun W => ((fun W => Mm w W [(g5, 46, mva x)] [])) W ∧ Below w.heap.size w W ∧ True) ?_ (fun wq1 hT => ?_)
      · exact ⟨by (with_reducible exact hMd), by (with_reducible exact hMd.bel), trivial⟩
      (try clear f0 f1 f2 f3 f4 f5 f6 f7 f8 f9 f10 f11)
      obtain ⟨hHeld, f0, -⟩ := hT
      refine seq_take (oi := ⟨some 20, _, _, _, _, _⟩) (v := ?_) rfl (Or.inl ⟨by kernel_rfl, ?_⟩) (by assumption) ?_
      rotate_left
      · (intro wS hSw; (try dsimp only at hSw); refine execV (fun rho hk1 hk2 hk3 hk => ?_); have e0_ := (hk 0).trans (evalP fg0); clear hk; go_simp; (try with_reducible rfl))
      ((with_reducible refine wpSeq_put ?_; go_big_move))
      refine seq_take (oi := ⟨some 21, _, _, _, _, _⟩) (v := ?_) rfl (Or.inl ⟨by kernel_rfl, ?_⟩) (by assumption) ?_
      rotate_left
      · (intro wS hSw; (try dsimp only at hSw); refine execV (fun rho hk1 hk2 hk3 hk => ?_); have e4_ := (hk 4).trans (evalP (fg1 (fg1 (fg1 (fg1 fg0))))); clear hk; go_simp; (try with_reducible rfl))
      ((with_reducible refine wpSeq_put ?_; go_big_move))
      refine seq_take (oi := ⟨some 22, _, _, _, _, _⟩) (v := ?_) rfl (Or.inl ⟨by kernel_rfl, ?_⟩) (by assumption) ?_
      rotate_left
      · (intro wS hSw; (try dsimp only at hSw); refine execV (fun rho hk1 hk2 hk3 hk => ?_); have e20_ := (hk 20).trans (evalP (fg8 (fg8 (fg1 (fg1 (fg1 (fg1 fg0))))))); have e21_ := (hk 21).trans (evalP (fg8 (fg8 (fg1 (fg1 (fg1 (fg1 (fg1 fg0)))))))); clear hk; go_simp; (try with_reducible rfl))
      ((with_reducible refine wpSeq_put ?_; go_big_move))
      refine seq_take (oi := ⟨some 23, _, _, _, _, _⟩) (v := ?_) rfl (Or.inl ⟨by kernel_rfl, ?_⟩) (by assumption) ?_
      rotate_left
      · (intro wS hSw; (try dsimp only at hSw); (refine yld_load 46 (.tmp 5) ?_ ⟨g5, 0, none⟩ (mva x) ?_ hSw.b0.cells _ Tryz.underlying46 rfl (by rw [(hms x).out]; kernel_rfl) <;> rfl))
      ((with_reducible refine wpSeq_put ?_; go_big_move))
      refine seq_step (o := ⟨some 24, _, _, _, _, _⟩) rfl (fun K hK => ?_)
      with_reducible refine wantedP (by kernel_rfl) ?_
      (go_big_op)
      (refine (HFo.out _ f0).mono ?_; rintro e w12 ⟨rfl, hb9⟩)
      go_wp2_with fail
      refine hK.out _ _ ?_ (fun _ => ?_)
      · ((try dsimp only); (with_reducible exact hHeld.call hb9))
      clear hK K
      ((try simp only [Act.put, pS0, pS1, pS2]))
      refine gen0 (T := fun W => ((fun W => Mm w W [(g5, 46, mva x)] [])) W ∧ Below w.heap.size w W ∧ True) ?_ (fun wq2 hT => ?_)
      · exact ⟨by (with_reducible exact hHeld.call hb9), by (exact bel_call f0 hb9), trivial⟩
      (try clear f0 f1 f2 f3 f4 f5 f6 f7 f8 f9 f10 f11)
      obtain ⟨hHeld, f0, -⟩ := hT
      refine seq_take (oi := ⟨some 25, _, _, _, _, _⟩) (v := ?_) rfl (Or.inl ⟨by kernel_rfl, ?_⟩) (by assumption) ?_
      rotate_left
      · (intro wS hSw; (try dsimp only at hSw); refine execV (fun rho hk1 hk2 hk3 hk => ?_); have e24_ := (hk 24).trans (evalP (fg8 (fg8 (fg8 fg0)))); clear hk; go_simp; (try with_reducible rfl))
      ((with_reducible refine wpSeq_put ?_; go_big_move))
      refine seq_done ?_
      cases bf
      · have HC := Lib.hid (HC2.out rfl)
        clear HC2 HB2
        go_wp2_with fail
        go_ret2
        exact ⟨by rw [← HC.out]; rfl, hHeld.bel⟩
      · have HB := Lib.hid (HB2.out rfl)
        clear HC2 HB2
        go_wp2_with fail
        go_roundw
        case rel => exact ⟨k + 1, hlt, by go_num, ⟨HA2.out, HB.out⟩, hHeld.bel⟩
        case measure => simp [intOf]; omega
    · have HB2 := Lib.hid (HBad.out (by omega))
      rw [hev]
      have HEV := Lib.hid hev
      clear hev HBad HSt HCh HAl HFo
      go_wp2_with fail
      go_ret2
      exact ⟨by rw [← HB2.out]; dsimp only; rw [HEV.out]; first | rfl | (rw [hke]; rfl) | (rw [← hke]; rfl), hM2.bel⟩
  · have hn := Lib.hid ((ckAt_end (l := mvs l) (k := k) (by rw [mvs_len]; omega)).symm.trans hall.out.2)
    obtain rfl : k = l.length := by omega
    clear hall
    go_wp2_with fail
    go_ret2
    exact ⟨by rw [← hn.out]; rfl, hbr⟩
end
end Go.Proofs.YtajfnmohlnkncaaGreatDoor
