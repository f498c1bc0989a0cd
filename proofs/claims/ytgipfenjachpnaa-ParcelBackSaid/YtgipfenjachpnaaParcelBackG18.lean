/- WHAT IT HOLDS: the law ParcelBack, walked. | WHAT IT HOLDS: arguments that are segments, arrays, opened to the words of Kit. | WHAT IT HOLDS: arguments that are parcels, receipts, opened to the words of Kit. -/
import Derived.Test.YtgipfenjachpnaaParcelBackG17
import Derived.Test.YtgipfenjachpnaaParcelBackG05
import Derived.Test.YtgipfenjachpnaaParcelBackG08
import Derived.Test.YtgipfenjachpnaaParcelBackG16
namespace Go.Proofs.Ytgipfenjachpnaa
open Go.RowKit
attribute [local go_sem ↓] Go.wp_at_zero Go.wp_at_succ

theorem pput_zero {p : Pc} (h : (pput p).2 = 0) : pchk p = 0 := by
  unfold pput at h
  by_cases h0 : pchk p = 0
  · exact h0
  · rw [if_pos h0] at h
    exact absurd h h0
theorem qput_zero {p : Rc} (h : (qput p).2 = 0) : qchk p = 0 := by
  unfold qput at h
  by_cases h0 : qchk p = 0
  · exact h0
  · rw [if_pos h0] at h
    exact absurd h h0
theorem pput_len {p : Pc} (h : pchk p = 0) : (frm (ptxt p)).length ≤ 100000 := by
  obtain ⟨h1, h2, h3, h4, h5⟩ := pchk_ok h
  have l1 := vb_le10 (n := 1) (by omega)
  have l2 := vb_le10 (n := p.1.toNat) (by omega)
  have l3 := vb_le10 (n := p.2.1.toNat) (by omega)
  have l4 := stxt_len h5
  have hl : (ptxt p).length ≤ 65536 := by unfold ptxt; simp only [List.length_append]; omega
  have l5 := vb_le10 (n := (ptxt p).length) (by omega)
  rw [frm_len]; omega
theorem qput_len {p : Rc} (h : qchk p = 0) : (frm (qtxt p)).length ≤ 100000 := by
  obtain ⟨h1, h2, h3, h4⟩ := qchk_ok h
  have l1 := vb_le10 (n := 2) (by omega)
  have l2 := vb_le10 (n := p.1.toNat) (by omega)
  have l3 := vb_le10 (n := p.2.toNat) (by omega)
  have hl : (qtxt p).length ≤ 65536 := by unfold qtxt; simp only [List.length_append]; omega
  have l5 := vb_le10 (n := (qtxt p).length) (by omega)
  rw [frm_len]; omega
theorem pcKind_two {r : Rc} (h : qchk r = 0) : pcKind (frm (qtxt r)) = 2 := by
  have h1 := qcTake_put h
  have h2 : (pcTake (frm (qtxt r))).2 ≠ 0 := fun h3 => pc_not_qc (Nat.le_trans (qput_len h) (by decide)) (p := (pcTake (frm (qtxt r))).1) (r := r) (by rw [← h3]) h1
  unfold pcKind
  rw [if_neg h2, h1, if_pos rfl]
set_option maxRecDepth 100000 in
set_option maxHeartbeats 1000000 in
theorem pback_early1 {E A : Option Addr} {cap c : Nat} {x t f q1 q2 : Int} {cs : List CeV} {b : List UInt8} (w : World) (h : SlC w E cap cs) (hlong : longb (cs.map ceOf) 80 = true) :
    Calls Try.prog 9 #[pcv x t f E cs.length cap, .agg #[.int .i64 q1, .int .i64 q2], .slice A b.length c] w fun e w' => e = .returned (.bool true) ∧ Below w.heap.size w w' := by
  have hP0 := (Blk.new w 103 #[.int .i64 x, .int .i64 t, .int .i64 f, .slice E cs.length cap]).alloc (.cells #[.int .i64 q1, .int .i64 q2] 105)
  have hQ0 := Blk.newAt (w := w.alloc (.cells #[.int .i64 x, .int .i64 t, .int .i64 f, .slice E cs.length cap] 103)) (g := w.heap.size + 1) (by simp) 105 #[.int .i64 q1, .int .i64 q2]
  have hbw := bel_alloc (below_new w (.cells #[.int .i64 x, .int .i64 t, .int .i64 f, .slice E cs.length cap] 103)) (.cells #[.int .i64 q1, .int .i64 q2] 105)
  go_enter Try.func9, Try.ntmps9
  go_wp2_with fail
  refine (alive23_any _).mono ?_
  rintro e w1 ⟨rfl, hb1⟩
  have hP1 := hP0.below hb1
  have hQ1 := hQ0.below hb1
  have hw1 := bel_call hbw hb1
  clear hP0 hQ0 hbw hb1
  obtain ⟨a0, a1, a2, a3, _⟩ := hP1.four
  go_wp2_with fail
  refine (Long_any cs 80 _ (h.below hw1)).mono ?_
  rintro e w2 ⟨rfl, hb2⟩
  rw [hlong]
  have hP := hP1.below hb2
  have hQ := hQ1.below hb2
  have hw := bel_call hw1 hb2
  clear hP1 hQ1 hw1 hb2 a0 a1 a2 a3
  go_wp2_with fail
  go_ret
  exact ⟨rfl, hw⟩
set_option maxRecDepth 100000 in
set_option maxHeartbeats 1000000 in
theorem pback_early2 {E A : Option Addr} {cap c : Nat} {x t f q1 q2 : Int} {cs : List CeV} {b : List UInt8} (w : World) (h : SlC w E cap cs) (hb : SlB w A c b) (hlong : longb (cs.map ceOf) 80 = false) (hl : 6000 < b.length) :
    Calls Try.prog 9 #[pcv x t f E cs.length cap, .agg #[.int .i64 q1, .int .i64 q2], .slice A b.length c] w fun e w' => e = .returned (.bool true) ∧ Below w.heap.size w w' := by
  have hm := hb.len_le
  unfold maxLen at hm
  have hlI : (6000 : Int) < (b.length : Int) := by omega
  have hP0 := (Blk.new w 103 #[.int .i64 x, .int .i64 t, .int .i64 f, .slice E cs.length cap]).alloc (.cells #[.int .i64 q1, .int .i64 q2] 105)
  have hQ0 := Blk.newAt (w := w.alloc (.cells #[.int .i64 x, .int .i64 t, .int .i64 f, .slice E cs.length cap] 103)) (g := w.heap.size + 1) (by simp) 105 #[.int .i64 q1, .int .i64 q2]
  have hbw := bel_alloc (below_new w (.cells #[.int .i64 x, .int .i64 t, .int .i64 f, .slice E cs.length cap] 103)) (.cells #[.int .i64 q1, .int .i64 q2] 105)
  go_enter Try.func9, Try.ntmps9
  go_wp2_with fail
  refine (alive23_any _).mono ?_
  rintro e w1 ⟨rfl, hb1⟩
  have hP1 := hP0.below hb1
  have hQ1 := hQ0.below hb1
  have hw1 := bel_call hbw hb1
  clear hP0 hQ0 hbw hb1
  obtain ⟨a0, a1, a2, a3, _⟩ := hP1.four
  go_wp2_with fail
  refine (Long_any cs 80 _ (h.below hw1)).mono ?_
  rintro e w2 ⟨rfl, hb2⟩
  rw [hlong]
  have hP := hP1.below hb2
  have hQ := hQ1.below hb2
  have hw := bel_call hw1 hb2
  clear hP1 hQ1 hw1 hb2 a0 a1 a2 a3
  go_wp2_with fail
  go_ret
  exact ⟨rfl, hw⟩
set_option maxRecDepth 100000 in
set_option maxHeartbeats 4000000 in
theorem pback_walk {E A : Option Addr} {cap c : Nat} {x t f q1 q2 : Int} {cs : List CeV} {b : List UInt8} (w : World) (h : SlC w E cap cs) (hb : SlB w A c b) (hlong : longb (cs.map ceOf) 80 = false) (hl : b.length ≤ 6000) :
    Calls Try.prog 9 #[pcv x t f E cs.length cap, .agg #[.int .i64 q1, .int .i64 q2], .slice A b.length c] w fun e w' => e = .returned (.bool true) ∧ Below w.heap.size w w' := by
  have hlI : (b.length : Int) ≤ 6000 := by omega
  have hP0 := (Blk.new w 103 #[.int .i64 x, .int .i64 t, .int .i64 f, .slice E cs.length cap]).alloc (.cells #[.int .i64 q1, .int .i64 q2] 105)
  have hQ0 := Blk.newAt (w := w.alloc (.cells #[.int .i64 x, .int .i64 t, .int .i64 f, .slice E cs.length cap] 103)) (g := w.heap.size + 1) (by simp) 105 #[.int .i64 q1, .int .i64 q2]
  have hbw := bel_alloc (below_new w (.cells #[.int .i64 x, .int .i64 t, .int .i64 f, .slice E cs.length cap] 103)) (.cells #[.int .i64 q1, .int .i64 q2] 105)
  go_enter Try.func9, Try.ntmps9
  go_wp2_with fail
  refine (alive23_any _).mono ?_
  rintro e w1 ⟨rfl, hb1⟩
  have hP1 := hP0.below hb1
  have hQ1 := hQ0.below hb1
  have hw1 := bel_call hbw hb1
  clear hP0 hQ0 hbw hb1
  obtain ⟨a0, a1, a2, a3, _⟩ := hP1.four
  go_wp2_with fail
  refine (Long_any cs 80 _ (h.below hw1)).mono ?_
  rintro e w2 ⟨rfl, hb2⟩
  rw [hlong]
  have hP := hP1.below hb2
  have hQ := hQ1.below hb2
  have hw := bel_call hw1 hb2
  clear hP1 hQ1 hw1 hb2 a0 a1 a2 a3
  clear hlong
  obtain ⟨a0, a1, a2, a3, _⟩ := hP.four
  go_wp2_with fail
  refine (PPut_any x t f cs _ (h.below hw)).mono ?_
  rintro e w3 ⟨A3, c3, m3, rfl, hm3, ho3, hb3⟩
  replace hP := hP.below hb3
  replace hQ := hQ.below hb3
  replace hw := bel_call hw hb3
  clear hb3 a0 a1 a2 a3
  obtain ⟨bad, hbad⟩ : ∃ n, (pput (x, t, f, cs.map ceOf)).2 = n := ⟨_, rfl⟩
  rw [hbad]
  have HBAD := Lib.hid hbad
  obtain ⟨dz, hdz⟩ : ∃ dz, dz = decide (bad = 0) := ⟨_, rfl⟩
  have hq := errv_eql bad
  rw [← hdz] at hq
  have hq2 := errv_guard bad
  have HDZ := Lib.hid hdz
  clear hdz
  clear hbad
  go_upto_if 40 with (fail)
  clear hq hq2
  go_cut [] (fun wz => Below w.heap.size w wz ∧ Blk wz (w.heap.size + 1) 105 #[.int .i64 q1, .int .i64 q2])
  case first =>
    cases dz
    case true =>
      have h0 : bad = 0 := of_decide_eq_true HDZ.out.symm
      have hck := pput_zero (HBAD.out.trans h0)
      have htk := pcTake_put hck
      have hm3' : m3 = frm (ptxt (x, t, f, cs.map ceOf)) := by rw [hm3.out, pput_ok hck]
      have hml : m3.length ≤ 1000000 := by rw [hm3']; exact Nat.le_trans (pput_len hck) (by decide)
      rw [← hm3'] at htk
      have HTK := Lib.hid htk
      clear htk hm3' hck h0
      go_wp2_with fail
      refine (PTake_any A3 c3 m3 _ ho3.sl hml).mono ?_
      rintro e w4 ⟨A4, c4, m4, he, hm4, hN4, hb4⟩
      rw [HTK.out] at hm4 he
      dsimp only at hm4 he
      rw [show errv 0 = .nilIface from rfl] at he
      subst he
      go_upto_region 8 with (fail)
      have hbx := bel_call hb4 (below_new w4 (.cells #[.int .i64 x, .int .i64 t, .int .i64 f, .slice A4 m4.length c4] 103))
      have hX := Blk.new w4 103 #[.int .i64 x, .int .i64 t, .int .i64 f, .slice A4 m4.length c4]
      have hNX := (hN4.below (below_new w4 (.cells #[.int .i64 x, .int .i64 t, .int .i64 f, .slice A4 m4.length c4] 103))).slc
      replace hP := hP.below hbx
      replace hQ := hQ.below hbx
      replace hw := bel_call hw hbx
      clear hbx hb4 hN4 ho3
      generalize hWe : w4.alloc (.cells #[.int .i64 x, .int .i64 t, .int .i64 f, .slice A4 m4.length c4] 103) = w5 at *
      clear hWe
      generalize hge : w4.heap.size = gx at *
      clear hge
      obtain ⟨a0, a1, a2, a3, _⟩ := hP.four
      obtain ⟨x0, x1, x2, x3, _⟩ := hX.four
      go_wp2_with fail
      refine (PSame_any x t f x t f m4 cs _ hNX (h.below hw)).mono ?_
      rintro e w6 ⟨rfl, hb6⟩
      rw [show psame (x, t, f, m4.map ceOf) (x, t, f, cs.map ceOf) = true from by unfold psame; rw [hm4.out]; simp]
      replace hQ := hQ.below hb6
      replace hw := bel_call hw hb6
      clear a0 a1 a2 a3 x0 x1 x2 x3 hP hX hNX hb6
      go_wp2_with fail
      go_meet
      exact ⟨hw, hQ⟩
    case false =>
      go_wp2_with fail
      go_meet
      exact ⟨hw, hQ⟩
  case rest =>
    clear hm3 HBAD HDZ ho3 hw hP hQ
    obtain ⟨hw, hQ⟩ := hcut
    obtain ⟨a0, a1, af0, af1⟩ := hQ.two
    go_wp2_with fail
    refine (QPut_any q1 q2 _).mono ?_
    rintro e w3 ⟨A3, c3, m3, rfl, hm3, ho3, hb3⟩
    replace hQ := hQ.below hb3
    replace hw := bel_call hw hb3
    clear hb3 a0 a1 af0 af1
    obtain ⟨bad, hbad⟩ : ∃ n, (qput (q1, q2)).2 = n := ⟨_, rfl⟩
    rw [hbad]
    have HBAD := Lib.hid hbad
    obtain ⟨dz, hdz⟩ : ∃ dz, dz = decide (bad = 0) := ⟨_, rfl⟩
    have hq := errv_eql bad
    rw [← hdz] at hq
    have hq2 := errv_guard bad
    have HDZ := Lib.hid hdz
    clear hdz
    clear hbad
    go_upto_if 60 with (fail)
    clear hq hq2
    go_cut [] (fun wz => Below w.heap.size w wz)
    case first =>
      cases dz
      case true =>
        have h0 : bad = 0 := of_decide_eq_true HDZ.out.symm
        have hck := qput_zero (HBAD.out.trans h0)
        have htk := qcTake_put hck
        have hk2 := pcKind_two hck
        have hm3' : m3 = frm (qtxt (q1, q2)) := by rw [hm3.out, qput_ok hck]
        have hml : m3.length ≤ 1000000 := by rw [hm3']; exact Nat.le_trans (qput_len hck) (by decide)
        rw [← hm3'] at htk hk2
        have HTK := Lib.hid htk
        have HK2 := Lib.hid hk2
        clear htk hm3' hck h0 hk2
        go_wp2_with fail
        refine (QTake_any A3 c3 m3 _ ho3.sl hml).mono ?_
        rintro e w4 ⟨he, hb4⟩
        rw [HTK.out] at he
        dsimp only at he
        rw [show errv 0 = .nilIface from rfl] at he
        subst he
        go_upto_region 13 with (fail)
        have hbx := bel_call hb4 (below_new w4 (.cells #[.int .i64 q1, .int .i64 q2] 105))
        have hX := Blk.new w4 105 #[.int .i64 q1, .int .i64 q2]
        have ho5 : SlB _ A3 c3 m3 := Sl.below ho3.sl hbx
        replace hQ := hQ.below hbx
        replace hw := bel_call hw hbx
        clear hbx hb4 ho3
        generalize hWe : w4.alloc (.cells #[.int .i64 q1, .int .i64 q2] 105) = w5 at *
        clear hWe
        generalize hge : w4.heap.size = gx at *
        clear hge
        have hnn := neq_rc q1 q2 q1 q2
        rw [show (!(q1 == q1 && q2 == q2)) = false from by simp] at hnn
        obtain ⟨a0, a1, _, _⟩ := hQ.two
        obtain ⟨x0, x1, _, _⟩ := hX.two
        have hPK := PKind_any A3 c3 m3 w5 ho5 hml
        rw [HK2.out] at hPK
        have HPK := Lib.hid hPK
        clear hPK
        go_wp2_with fail
        refine HPK.out.mono ?_
        rintro e w6 ⟨rfl, hb6⟩
        replace hw := bel_call hw hb6
        go_wp2_with fail
        go_meet
        exact hw
      case false =>
        go_wp2_with fail
        go_meet
        exact hw
    case rest =>
      clear hm3 HBAD HDZ ho3 hw hQ
      have hw := hcut
      clear hcut
      have hT := PTake_any A c b
      have hQT := QTake_any A c b
      have hPK := PKind_any A c b
      have HN := Lib.hid (fun (p : Pc) (r : Rc) => @pc_not_qc b (by omega) p r)
      have HB1 := Lib.hid (fun (p : Pc) => @pcTake_ok b (by omega) p)
      have HB2 := Lib.hid (fun (r : Rc) => @qcTake_ok b r)
      have HKD : Hid (pcKind b = if (pcTake b).2 = 0 then 1 else if (qcTake b).2 = 0 then 2 else 0) := (rfl : _ = _)
      have hlM : b.length ≤ 1000000 := by omega
      go_wp2_with fail
      refine (hT _ (hb.below hw) hlM).mono ?_
      rintro e w4 ⟨A4, c4, m4, rfl, hm4, hN4, hb4⟩
      replace hw := bel_call hw hb4
      clear hb4 hT
      generalize pcTake b = P at *
      obtain ⟨⟨p1, p2, p3, p4⟩, pe⟩ := P
      dsimp only at *
      go_wp2_with fail
      have hX := Blk.new w4 103 #[.int .i64 p1, .int .i64 p2, .int .i64 p3, .slice A4 m4.length c4]
      have hbx := below_new w4 (.cells #[.int .i64 p1, .int .i64 p2, .int .i64 p3, .slice A4 m4.length c4] 103)
      have hS4 := hN4.slc.below hbx
      replace hw := bel_call hw hbx
      clear hbx hN4
      generalize hWe : w4.alloc (.cells #[.int .i64 p1, .int .i64 p2, .int .i64 p3, .slice A4 m4.length c4] 103) = w5 at *
      clear hWe
      generalize hge : w4.heap.size = gx at *
      clear hge
      refine (hQT _ (hb.below hw) hlM).mono ?_
      rintro e w6 ⟨rfl, hb6⟩
      replace hw := bel_call hw hb6
      replace hX := hX.below hb6
      replace hS4 := SlC.below hS4 hb6
      clear hb6 hQT
      generalize qcTake b = Q at *
      obtain ⟨⟨r1, r2⟩, qe⟩ := Q
      dsimp only at *
      go_upto_region 17 with (fail)
      have hY := Blk.new w6 105 #[.int .i64 r1, .int .i64 r2]
      have hbx := below_new w6 (.cells #[.int .i64 r1, .int .i64 r2] 105)
      replace hX := hX.below hbx
      replace hS4 := SlC.below hS4 hbx
      replace hw := bel_call hw hbx
      clear hbx
      generalize hWe : w6.alloc (.cells #[.int .i64 r1, .int .i64 r2] 105) = w7 at *
      clear hWe
      generalize hge : w6.heap.size = gy at *
      clear hge
      rcases errv_cases pe with ⟨h0, hev⟩ | ⟨k, hk, hke, hev⟩
      · subst h0
        rcases errv_cases qe with ⟨h1, hev1⟩ | ⟨k, hk, hke, hev1⟩
        · subst h1
          exact (HN.out _ _ rfl rfl).elim
        · rw [hev, hev1]
          obtain ⟨hc1, hc2⟩ := HB1.out _ rfl
          rw [← hm4.out] at hc1 hc2
          have HC1 := Lib.hid hc1
          have HC2 := Lib.hid hc2
          obtain ⟨x0, x1, x2, x3, _⟩ := hX.four
          clear hev hev1 hke hc1 hc2 HN HB1 HB2 HKD hm4
          go_wp2_with fail
          refine (PPut_any p1 p2 p3 m4 _ hS4).mono ?_
          rintro e w8 ⟨A8, c8, m8, rfl, hm8, ho8, hb8⟩
          rw [pput_ok HC1.out] at hm8 ⊢
          rw [show errv 0 = .nilIface from rfl]
          obtain rfl : m8 = b := hm8.out.trans HC2.out.symm
          replace hw := bel_call hw hb8
          have HE := Lib.hid (show (m8 == m8) = true from by simp)
          clear hb8 x0 x1 x2 x3 hm8 HC1 HC2
          go_wp2_with fail
          refine (nBytes_any A8 A c8 c m8 m8 _ ho8.sl (hb.below hw)).mono ?_
          rintro e w9 ⟨rfl, rfl⟩
          rw [HE.out]
          go_wp2_with fail
          go_ret
          exact ⟨rfl, hw⟩
      · rcases errv_cases qe with ⟨h1, hev1⟩ | ⟨k2, hk2, hke2, hev1⟩
        · subst h1
          rw [hev, hev1]
          obtain ⟨hc1, hc2⟩ := HB2.out _ rfl
          have HC1 := Lib.hid hc1
          have HC2 := Lib.hid hc2
          obtain ⟨y0, y1, _, _⟩ := hY.two
          clear hev hev1 hke hc1 hc2 HN HB1 HB2 HKD hm4 hk
          go_wp2_with fail
          refine (QPut_any r1 r2 _).mono ?_
          rintro e w8 ⟨A8, c8, m8, rfl, hm8, ho8, hb8⟩
          rw [qput_ok HC1.out] at hm8 ⊢
          rw [show errv 0 = .nilIface from rfl]
          obtain rfl : m8 = b := hm8.out.trans HC2.out.symm
          replace hw := bel_call hw hb8
          have HE := Lib.hid (show (m8 == m8) = true from by simp)
          clear hb8 y0 y1 hm8 HC1 HC2
          go_wp2_with fail
          refine (nBytes_any A8 A c8 c m8 m8 _ ho8.sl (hb.below hw)).mono ?_
          rintro e w9 ⟨rfl, rfl⟩
          rw [HE.out]
          go_wp2_with fail
          go_ret
          exact ⟨rfl, hw⟩
        · rw [hev, hev1]
          have hK0 : pcKind b = 0 := by rw [HKD.out, if_neg (by omega), if_neg (by omega)]
          rw [hK0] at hPK
          have HPK := Lib.hid hPK
          clear hev hev1 hke hke2 HN HB1 HB2 HKD hm4 hk hk2 hK0 hPK
          go_wp2_with fail
          refine (HPK.out _ (hb.below hw) hlM).mono ?_
          rintro e w8 ⟨rfl, hb8⟩
          go_wp2_with fail
          go_ret
          exact ⟨rfl, bel_call hw hb8⟩
theorem pback_all {E A : Option Addr} {cap c : Nat} {x t f q1 q2 : Int} {cs : List CeV} {b : List UInt8} (w : World) (h : SlC w E cap cs) (hb : SlB w A c b) :
    Calls Try.prog 9 #[pcv x t f E cs.length cap, .agg #[.int .i64 q1, .int .i64 q2], .slice A b.length c] w fun e w' => e = .returned (.bool true) ∧ Below w.heap.size w w' := by
  cases hl : longb (cs.map ceOf) 80
  · rcases Nat.lt_or_ge 6000 b.length with hl2 | hl2
    · exact pback_early2 w h hb hl hl2
    · exact pback_walk w h hb hl hl2
  · exact pback_early1 w h hl
end Go.Proofs.Ytgipfenjachpnaa

namespace Go.Proofs.Ytgipfenjachpnaa
open Go.ChangeShapes Go.WideShapes Go.ChangeAt Go.RowKit Go.Deep

/-- a slice of structs of one-cell fields, as a struct's field -/
theorem open_structsF {H : Type} {enc : TypeId × Value → H} {P : Program} {w : World} {base : Nat} {held : Bool} {t e : TypeId} {v : Value} {fs : Array Field}
    {T : Type} (f : T → List Value) (Q : T → Prop) (hfl : ∀ x, (f x).length = fs.size)
    (ht : P.underlying t = some (.slice e)) (he : P.underlying e = some (.struct fs)) (hone : oneCellFields P fs = true) (hC : P.cellsOf e = fs.size)
    (hel : ∀ vs : List Value, vs.length = fs.size → (∀ (j : Nat) (fd : Field), fs[j]? = some fd → ∃ (u : Value) (n : Nat) (y : DataW H × List MemPlace), vs[j]? = some u ∧ DataW.trod enc P w base (fun _ => true) held n fd.type [u] = some y) → ∃ x : T, f x = vs ∧ Q x)
    {fuel : Nat} {yy : DataW H × List MemPlace} (hf : DataW.trod enc P w base (fun _ => true) held fuel t [v] = some yy) :
    ∃ (A : Option Addr) (c : Nat) (l : List T), v = .slice A l.length c ∧ Sl w fs.size A l.length c (l.flatMap f) ∧ ∀ x ∈ l, Q x := by
  rcases open_slice_fields ht he hone hC hf with ⟨hcs, _⟩ | ⟨a, n, c, m, D, Pl, hcs, _, hl, hm, hmm, _, hi⟩
  · simp at hcs
    subst hcs
    exact ⟨none, 0, [], rfl, by simpa using Sl.none_ w fs.size, fun x hx => by simp at hx⟩
  · simp at hcs
    subst hcs
    simp only [if_true] at hmm
    subst hmm
    have hx : ∀ i, i < n → ∃ x : T, Q x ∧ ∀ j u, (f x)[j]? = some u → w.cell? (a.add (i * fs.size + j)) = some u := by
      intro i hin
      obtain ⟨ys, nn, _, _, _, hfd⟩ := hi i (by omega)
      have hc : ∀ j, j < fs.size → ∃ u : Value, w.cell? (a.add (i * fs.size + j)) = some u ∧ ∃ y : DataW H × List MemPlace, DataW.trod enc P w base (fun _ => true) held nn (fs[j]!).type [u] = some y := by
        intro j hj
        obtain ⟨u, y, h1, _, h3⟩ := hfd j fs[j] (by simp [hj])
        exact ⟨u, h1, y, by simpa [hj] using h3⟩
      obtain ⟨vs, hvl, hvr⟩ := list_choice (fun j u => w.cell? (a.add (i * fs.size + j)) = some u ∧ ∃ y : DataW H × List MemPlace, DataW.trod enc P w base (fun _ => true) held nn (fs[j]!).type [u] = some y) fs.size hc
      obtain ⟨x, hxe, hxq⟩ := hel vs hvl fun j fd hj => by
        have hjl : j < fs.size := (Array.getElem?_eq_some_iff.1 hj).1
        obtain ⟨_, y, hy⟩ := hvr j (by omega)
        have hfe : fs[j]! = fd := by
          have := (Array.getElem?_eq_some_iff.1 hj).2
          simp [hjl, this]
        rw [hfe] at hy
        exact ⟨vs[j], nn, y, List.getElem?_eq_getElem (by omega), hy⟩
      refine ⟨x, hxq, fun j u hj => ?_⟩
      rw [hxe] at hj
      obtain ⟨hjl, hju⟩ := List.getElem?_eq_some_iff.1 hj
      rw [← hju]
      exact (hvr j hjl).1
    obtain ⟨l, hll, hlr⟩ := list_choice _ n hx
    refine ⟨some a, _, l, by rw [hll], ⟨flat_len hfl l, by omega, hm, (fun h => by cases h), fun j u hj => ⟨a, rfl, ?_⟩⟩, fun x hx => ?_⟩
    · rcases Nat.eq_zero_or_pos fs.size with h0 | h0
      · have := (List.getElem?_eq_some_iff.1 hj).1
        rw [flat_len hfl, h0] at this
        omega
      · have hjl := (List.getElem?_eq_some_iff.1 hj).1
        rw [flat_len hfl] at hjl
        have hk : j / fs.size < l.length := by rw [Nat.div_lt_iff_lt_mul h0]; exact hjl
        have hr : j % fs.size < fs.size := Nat.mod_lt _ h0
        have he := flat_get hfl l (j / fs.size) (j % fs.size) hk hr
        have hj2 : j / fs.size * fs.size + j % fs.size = j := by rw [Nat.mul_comm]; exact Nat.div_add_mod _ _
        rw [hj2, hj] at he
        have := (hlr _ hk).2 _ _ he.symm
        rwa [hj2] at this
    · obtain ⟨i, hi, rfl⟩ := List.getElem_of_mem hx
      exact (hlr i hi).1

section
variable {H : Type} {enc : TypeId × Value → H} {P : Program} {w : World} {base b0 : Nat} {held : Bool} {r : Reach} {t e b u : TypeId} {v : Value} {d : DataW H} {p : List MemPlace}
theorem open_seg {g0 g1 f0 f1 : Field} (hs : P.underlying t = some (.struct #[g0, g1])) (hg0 : P.underlying g0.type = some (.int .i64)) (hg1 : P.underlying g1.type = some (.slice b)) (hb : P.underlying b = some (.struct #[f0, f1])) (h0 : P.underlying f0.type = some (.int .i64)) (h1 : P.underlying f1.type = some (.slice e)) (he : P.underlying e = some (.int .u8))
    (hCe : P.cellsOf e = 1) (hone : oneCellFields P #[f0, f1] = true) (hC : P.cellsOf b = 2) (hone2 : oneCellFields P #[g0, g1] = true) (hC2 : P.cellsOf t = 2) (hv : Value.okWide P w r b0 t v) (h : DataW.Trod enc P w base (fun _ => true) held t v d p) :
    ∃ (k : Int) (A : Option Addr) (c : Nat) (l : List CeV), v = cv k A l.length c ∧ SlC w A c l := by
  obtain ⟨v0, v1, y0, y1, n, rfl, _, _, q0, q1⟩ := Go.Joins.open_agg2 hs hone2 hC2 hv h
  obtain ⟨k, rfl, hk⟩ := int_cell hg0 q0
  obtain ⟨A, c, l, rfl, hl, hq⟩ := open_structsF cf (fun x => I64 x.1 ∧ SlB w x.2.1 x.2.2.1 x.2.2.2) (fun _ => rfl) hg1 hb hone hC (by
    intro vs hl hf
    obtain ⟨u0, n0, y0, e0, t0⟩ := hf 0 f0 rfl
    obtain ⟨u1, n1, y1, e1, t1⟩ := hf 1 f1 rfl
    obtain ⟨k, rfl, hk⟩ := int_cell h0 t0
    obtain ⟨A, c, l, rfl, hb⟩ := bytes_cell h1 he hCe t1
    match vs, hl with
    | [x0, x1], _ =>
      simp at e0 e1
      exact ⟨(k, A, c, l), by simp [cf, e0, e1], hk, hb⟩) q1
  exact ⟨k, A, c, l, rfl, ⟨hl, fun x hx => (hq x hx).2⟩⟩
theorem open_segI {g0 g1 f0 f1 : Field} (hs : P.underlying t = some (.struct #[g0, g1])) (hg0 : P.underlying g0.type = some (.int .i64)) (hg1 : P.underlying g1.type = some (.slice b)) (hb : P.underlying b = some (.struct #[f0, f1])) (h0 : P.underlying f0.type = some (.int .i64)) (h1 : P.underlying f1.type = some (.slice e)) (he : P.underlying e = some (.int .u8))
    (hCe : P.cellsOf e = 1) (hone : oneCellFields P #[f0, f1] = true) (hC : P.cellsOf b = 2) (hone2 : oneCellFields P #[g0, g1] = true) (hC2 : P.cellsOf t = 2) (hv : Value.okWide P w r b0 t v) (h : DataW.Trod enc P w base (fun _ => true) held t v d p) :
    ∃ (k : Int) (A : Option Addr) (c : Nat) (l : List CeV), v = cv k A l.length c ∧ SlC w A c l ∧ I64 k := by
  obtain ⟨v0, v1, y0, y1, n, rfl, _, _, q0, q1⟩ := Go.Joins.open_agg2 hs hone2 hC2 hv h
  obtain ⟨k, rfl, hk⟩ := int_cell hg0 q0
  obtain ⟨A, c, l, rfl, hl, hq⟩ := open_structsF cf (fun x => I64 x.1 ∧ SlB w x.2.1 x.2.2.1 x.2.2.2) (fun _ => rfl) hg1 hb hone hC (by
    intro vs hl hf
    obtain ⟨u0, n0, y0, e0, t0⟩ := hf 0 f0 rfl
    obtain ⟨u1, n1, y1, e1, t1⟩ := hf 1 f1 rfl
    obtain ⟨k, rfl, hk⟩ := int_cell h0 t0
    obtain ⟨A, c, l, rfl, hb⟩ := bytes_cell h1 he hCe t1
    match vs, hl with
    | [x0, x1], _ =>
      simp at e0 e1
      exact ⟨(k, A, c, l), by simp [cf, e0, e1], hk, hb⟩) q1
  exact ⟨k, A, c, l, rfl, ⟨hl, fun x hx => (hq x hx).2⟩, hk⟩
theorem open_arr2 (hs : P.underlying t = some (.array 2 e)) (he : P.underlying e = some (.int .i64)) (hC : P.cellsOf t = 2) (hE : P.cellsOf e = 1) (hv : Value.okWide P w r b0 t v) (h : DataW.Trod enc P w base (fun _ => true) held t v d p) :
    ∃ a b : Int, v = .agg #[.int .i64 a, .int .i64 b] := by
  simp only [Value.okWide, hs] at hv
  obtain ⟨cs, rfl, hsz, _⟩ := hv
  obtain ⟨c0, c1, rfl⟩ : ∃ c0 c1, cs = #[c0, c1] := by
    have h2 := hsz.trans hC
    match cs, h2 with
    | ⟨[x, y]⟩, _ => exact ⟨x, y, rfl⟩
  obtain ⟨fuel, hf⟩ := h
  obtain ⟨xs, m, _, _, _, hlen, hg⟩ := DataW.trod_array hs hf
  have k0 := hg 0 (by omega)
  have k1 := hg 1 (by omega)
  rw [hE, List.getElem?_eq_getElem (by omega)] at k0 k1
  simp [Value.cells] at k0 k1
  obtain ⟨a, rfl, ha⟩ := int_cell he k0
  obtain ⟨b, rfl, hb⟩ := int_cell he k1
  exact ⟨a, b, rfl⟩
end
end Go.Proofs.Ytgipfenjachpnaa

namespace Go.Proofs.Ytgipfenjachpnaa
open Go.ChangeShapes Go.WideShapes Go.ChangeAt Go.RowKit Go.Deep

section
variable {H : Type} {enc : TypeId × Value → H} {P : Program} {w : World} {base b0 : Nat} {held : Bool} {r : Reach} {t e b u : TypeId} {v : Value} {d : DataW H} {p : List MemPlace}
theorem open_pc {g0 g1 g2 s0 s1 f0 f1 : Field} (hs : P.underlying t = some (.struct #[g0, g1, g2])) (hg0 : P.underlying g0.type = some (.int .i64)) (hg1 : P.underlying g1.type = some (.int .i64)) (hg2 : P.underlying g2.type = some (.struct #[s0, s1]))
    (hs0 : P.underlying s0.type = some (.int .i64)) (hs1 : P.underlying s1.type = some (.slice b)) (hb : P.underlying b = some (.struct #[f0, f1])) (h0 : P.underlying f0.type = some (.int .i64)) (h1 : P.underlying f1.type = some (.slice e)) (he : P.underlying e = some (.int .u8))
    (hCe : P.cellsOf e = 1) (hone : oneCellFields P #[f0, f1] = true) (hC : P.cellsOf b = 2) (hone2 : oneCellFields P #[s0, s1] = true) (hC2 : P.cellsOf g2.type = 2) (hC4 : P.cellsOf t = 4) (o0 : g0.offset = 0) (o1 : g1.offset = 1) (o2 : g2.offset = 2) (k0 : P.cellsOf g0.type = 1) (k1 : P.cellsOf g1.type = 1)
    (hv : Value.okWide P w r b0 t v) (h : DataW.Trod enc P w base (fun _ => true) held t v d p) :
    ∃ (x y f : Int) (A : Option Addr) (c : Nat) (l : List CeV), v = pcv x y f A l.length c ∧ SlC w A c l := by
  obtain ⟨cs, rfl, hsz⟩ := okWide_struct hs hv
  obtain ⟨c0, c1, c2, c3, rfl⟩ : ∃ c0 c1 c2 c3, cs = #[c0, c1, c2, c3] := by
    have h2 := hsz.trans hC4
    match cs, h2 with
    | ⟨[x, y, z, u]⟩, _ => exact ⟨x, y, z, u, rfl⟩
  obtain ⟨fuel, hf⟩ := h
  obtain ⟨y0, y1, y2, n, hx, _, q0, q1, q2⟩ := trod_struct3 hs hf
  rw [o0, k0] at q0
  rw [o1, k1] at q1
  rw [o2, hC2] at q2
  simp [Value.cells] at q0 q1 q2
  obtain ⟨x, rfl, _⟩ := int_cell hg0 q0
  obtain ⟨y, rfl, _⟩ := int_cell hg1 q1
  obtain ⟨z0, z1, m, hz, _, r0, r1⟩ := trod_struct2 hg2 q2
  obtain ⟨p0, j0⟩ := hone_of hone2 0 s0 rfl
  obtain ⟨p1, j1⟩ := hone_of hone2 1 s1 rfl
  rw [p0, j0] at r0
  rw [p1, j1] at r1
  simp at r0 r1
  obtain ⟨k, rfl, _⟩ := int_cell hs0 r0
  obtain ⟨A, c, l, rfl, hl, hq⟩ := open_structsF cf (fun x => I64 x.1 ∧ SlB w x.2.1 x.2.2.1 x.2.2.2) (fun _ => rfl) hs1 hb hone hC (by
    intro vs hl hf
    obtain ⟨u0, n0, y0, e0, t0⟩ := hf 0 f0 rfl
    obtain ⟨u1, n1, y1, e1, t1⟩ := hf 1 f1 rfl
    obtain ⟨k, rfl, hk⟩ := int_cell h0 t0
    obtain ⟨A, c, l, rfl, hb⟩ := bytes_cell h1 he hCe t1
    match vs, hl with
    | [x0, x1], _ =>
      simp at e0 e1
      exact ⟨(k, A, c, l), by simp [cf, e0, e1], hk, hb⟩) r1
  exact ⟨x, y, k, A, c, l, rfl, ⟨hl, fun x hx => (hq x hx).2⟩⟩
theorem open_ints2 {f0 f1 : Field} (hs : P.underlying t = some (.struct #[f0, f1])) (h0 : P.underlying f0.type = some (.int .i64)) (h1 : P.underlying f1.type = some (.int .i64)) (hone : oneCellFields P #[f0, f1] = true) (hC : P.cellsOf t = 2)
    (hv : Value.okWide P w r b0 t v) (h : DataW.Trod enc P w base (fun _ => true) held t v d p) :
    ∃ a b : Int, v = .agg #[.int .i64 a, .int .i64 b] := by
  obtain ⟨v0, v1, y0, y1, n, rfl, _, _, q0, q1⟩ := Go.Joins.open_agg2 hs hone hC hv h
  obtain ⟨a, rfl, _⟩ := int_cell h0 q0
  obtain ⟨b, rfl, _⟩ := int_cell h1 q1
  exact ⟨a, b, rfl⟩
end
end Go.Proofs.Ytgipfenjachpnaa
