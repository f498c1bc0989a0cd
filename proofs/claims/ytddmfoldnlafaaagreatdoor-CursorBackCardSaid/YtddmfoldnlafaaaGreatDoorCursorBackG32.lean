/- WHAT IT HOLDS: the law CursorBack, walked. -/
import Derived.Test.YtddmfoldnlafaaaGreatDoorCursorBackG31
import Derived.Test.YtddmfoldnlafaaaGreatDoorCursorBackG05
namespace Go.Proofs.YtddmfoldnlafaaaGreatDoor
open Go.RowKit Go.Maps Go.Sort
attribute [local go_sem ↓] Go.wp_at_zero Go.wp_at_succ

set_option maxRecDepth 100000 in
set_option maxHeartbeats 4000000 in
theorem cback_walk {A Z : Option Addr} {c z : Nat} {b : List UInt8} {f nx t q fu : Int} {ps : List Pt5} (w : World) (h : SlP w A c ps) (hI : PtsI ps) (hb : SlB w Z z b) (hl : ps.length ≤ 60) (hbl : b.length ≤ 4000) :
    Calls Tryz.prog 3 #[crv f nx t q A ps.length c, .slice Z b.length z, .int .i64 fu] w fun e w' => e = .returned (.bool true) ∧ Below w.heap.size w w' := by
  have hb0 := below_new w (.cells #[.int .i64 f, .int .i64 nx, .int .i64 t, .int .i64 q, .slice A ps.length c] 24)
  have hB0 := Blk.new w 24 #[.int .i64 f, .int .i64 nx, .int .i64 t, .int .i64 q, .slice A ps.length c]
  have H := Lib.hid h
  have HI := Lib.hid hI
  have HB := Lib.hid hb
  have j1 : ¬ (60 < (ps.length : Int)) := by omega
  have j2 : ¬ (4000 < (b.length : Int)) := by omega
  obtain ⟨fz, hz0, hz1, hza⟩ := u64_remC fu 7 (by decide)
  have hfw : wrap64 fz = fz := by simp only [wrap64]; omega
  have HB0 := Lib.hid hB0
  have Hb0 := Lib.hid hb0
  clear h hI hb hb0 hB0
  go_enter Tryz.func3, Tryz.ntmps3
  go_wp2_with fail
  refine (alive18_any _).mono ?_
  rintro e w1 ⟨rfl, hb1⟩
  have hb1' := bel_call Hb0.out hb1
  have hB1 := HB0.out.below hb1
  obtain ⟨a0, a1, a2, a3, a4, -⟩ := Blk.five hB1
  clear hb1 HB0 Hb0
  go_wp2_with fail
  refine (New_any 1048576 w1).mono ?_
  rintro e w3 (⟨hro, -⟩ | ⟨-, q0, rfl, hD, hM, hb3⟩)
  · omega
  have hO3 : OffC w3 q0 w.heap.size 24 #[.int .i64 f, .int .i64 nx, .int .i64 t, .int .i64 q, .slice A ps.length c] := ⟨hB1.below hb3, fun hq => by have := hM _ hq; have := hB1.lt; omega⟩
  have hF3 : Fro w w3 q0 := ⟨bel_call hb1' hb3, fun i hi => Nat.le_trans hb1'.size (hM i hi)⟩
  have hOp := SOpen_any hD (Fok.dk0 1048576) (by show 0 + 0 ≤ 400; omega)
  obtain ⟨g, hg⟩ : ∃ g, q0.g = g := ⟨_, rfl⟩
  rw [hg] at hOp ⊢
  have HN0 := Lib.hid (show sOpen Sv.nil (dk0 1048576) = (dk0 1048576, 0) from rfl)
  have HG := Lib.hid hg
  have HOp := Lib.hid hOp
  have HO3 := Lib.hid hO3
  have HF3 := Lib.hid hF3
  rw [show errv 0 = Value.nilIface from rfl]
  clear hb1' hb3 hM hD hOp hg hB1 hO3 hF3 a0 a1 a2 a3 a4
  go_wp2_with fail
  refine HOp.out.mono ?_
  rintro e w4 hOO
  obtain ⟨q4, gs, rfl, hg4, hF4, hM4, hS4, hgs4⟩ := hOO.ok HN0.out
  have hO4 := HO3.out.act hF4 hM4
  have hFr4 := HF3.out.frd hF4 hM4
  have hgg : q4.g = g := hg4.trans HG.out
  have hA := Fuse_any hS4.dsk fz
  rw [show dFuse (dk0 1048576 : Dk Sv) fz = ({ dk0 1048576 with fuse := fz }, 0) from if_neg (by omega), hgg] at hA
  have hqm : q4.M g := hgg ▸ Or.inl rfl
  have HQ := Lib.hid hqm
  have HA := Lib.hid hA
  have HO4 := Lib.hid hO4
  have HFr4 := Lib.hid hFr4
  have HS4 := Lib.hid hS4
  have Hgg := Lib.hid hgg
  have Hgs := Lib.hid hgs4
  clear hOO hg4 hF4 hM4 hS4 hO4 hFr4 hgg hA hqm hgs4 HOp HO3 HF3 HN0
  go_wp2_with fail
  refine HA.out.mono ?_
  clear HA
  rintro e w5 ⟨rfl, hD5, hw5⟩
  rw [show errv (({ dk0 1048576 with fuse := fz } : Dk Sv), 0).2 = Value.nilIface from rfl]
  have hF5 : Frd q4 w4 w5 := Frd.of_wr HQ.out hw5
  have hS5 : StM w5 gs q4 ({ dk0 1048576 with fuse := fz } : Dk Sv) := HS4.out.act rfl hD5 hF5 (fun i hi => .inl hi)
  have hO5 := HO4.out.act hF5 (fun i hi => .inl hi)
  have hFr5 := HFr4.out.frd hF5 (fun i hi => .inl hi)
  have HFk := Lib.hid (show Fok ({ dk0 1048576 with fuse := fz } : Dk Sv) from ⟨by show -1 ≤ fz; omega, by show fz ≤ 9223372036854775807; omega⟩)
  obtain ⟨a0, a1, a2, a3, a4, -⟩ := Blk.five hO5.blk
  have HP := Lib.hid (CrPut_any f nx t q ps w5 (H.out.below hFr5.1) HI.out)
  unfold GivesCrb at HP
  have HO5 := Lib.hid hO5
  have HFr5 := Lib.hid hFr5
  have HS5 := Lib.hid hS5
  clear hD5 hw5 hF5 hS5 hO5 hFr5 HO4 HFr4 HS4 hza hfw
  go_wp2_with fail
  refine HP.out.mono ?_
  clear HP a0 a1 a2 a3 a4
  rintro e w6 ⟨A1, c1, m1, rfl, hm1, ho1, hb6⟩
  have hs1 := Own.sl ho1
  have hS6 := HS5.out.below hb6
  have hO6 := HO5.out.below hb6
  have hFr6 := HFr5.out.call hb6
  have HS6 := Lib.hid hS6
  have HO6 := Lib.hid hO6
  have HFr6 := Lib.hid hFr6
  have Hs1 := Lib.hid hs1
  clear ho1 hb6 hs1 hS6 hO6 hFr6 HS5 HO5 HFr5
  have he1 := errv_nilC (crchk (f, nx, t, q, ps))
  have hg1 := errv_nilgC (crchk (f, nx, t, q, ps))
  obtain ⟨ev1, hev1⟩ : ∃ ev, errv (crchk (f, nx, t, q, ps)) = ev := ⟨_, rfl⟩
  obtain ⟨b1', hb1'⟩ : ∃ b1' : Bool, (crchk (f, nx, t, q, ps) == 0) = b1' := ⟨_, rfl⟩
  have HB1 := Lib.hid hb1'
  simp only [hev1, hb1'] at he1 hg1
  rw [hev1]
  clear hev1 hb1'
  go_upto_if 61 with (fail)
  go_cut [] (fun wz => Below w.heap.size w wz)
  case first =>
    cases b1' with
    | false =>
      go_wp2_with fail
      go_meet
      exact HFr6.out.1
    | true =>
      have hx0 : crchk (f, nx, t, q, ps) = 0 := by simpa using HB1.out
      have Hx0 := Lib.hid hx0
      have hcp : crput (f, nx, t, q, ps) = frm (crtxt (f, nx, t, q, ps)) := if_pos hx0
      have hfl : (frm (crtxt (f, nx, t, q, ps))).length ≤ 1000000 := by
        have := crtxt_len hx0
        unfold frm txb
        have l1 := vb_le10 (n := (crtxt (f, nx, t, q, ps)).length) (by omega)
        simp only [List.length_append, four_len]
        omega
      have hT := CTake_any A1 c1 m1 w6 Hs1.out (by rw [hm1.out, hcp]; exact hfl)
      rw [hm1.out, hcp, crTake_put hx0] at hT
      unfold GivesCr at hT
      dsimp only at hT
      rw [show errv 0 = Value.nilIface from rfl, show (frm (crtxt (f, nx, t, q, ps))).length = m1.length from by rw [hm1.out, hcp]] at hT
      have HT := Lib.hid hT
      clear he1 hg1 hx0 hcp hfl hT HB1
      go_wp2_with fail
      refine HT.out.mono ?_
      clear HT
      rintro e w7 ⟨A2, c2, m2, rfl, hm2, ho2, hb7⟩
      have hb8 := below_new w7 (.cells #[.int .i64 f, .int .i64 nx, .int .i64 t, .int .i64 q, .slice A2 m2.length c2] 24)
      have hb78 := bel_call hb7 hb8
      have hS7 := HS6.out.below hb78
      have hO7 := HO6.out.below hb78
      have hFr7 := HFr6.out.call hb78
      have hO7' : OffC (w7.alloc (.cells #[.int .i64 f, .int .i64 nx, .int .i64 t, .int .i64 q, .slice A2 m2.length c2] 24)) q4 w7.heap.size 24 #[.int .i64 f, .int .i64 nx, .int .i64 t, .int .i64 q, .slice A2 m2.length c2] := ⟨Blk.new _ _ _, fun hq => by have := HS6.out.dsk.ltM hq; have := hb7.size; omega⟩
      have ho7 := Own.below ho2 hb8
      have hne13 : w.heap.size ≠ w7.heap.size := by have := HO6.out.blk.lt; have := hb7.size; omega
      have hlo13 : w.heap.size ≤ w7.heap.size := Nat.le_trans HFr6.out.1.size hb7.size
      have HS7 := Lib.hid hS7
      have HO7 := Lib.hid hO7
      have HO7' := Lib.hid hO7'
      have HFr7 := Lib.hid hFr7
      have Ho7 := Lib.hid ho7
      clear hb7 hb8 hb78 hS7 hO7 hFr7 hO7' ho7 ho2 HS6 HO6 HFr6 Hs1
      go_upto_region 12 with (fail)
      refine gen1 (T := fun W => StM W gs q4 ({ dk0 1048576 with fuse := fz } : Dk Sv) ∧ OffC W q4 w.heap.size 24 #[.int .i64 f, .int .i64 nx, .int .i64 t, .int .i64 q, .slice A ps.length c] ∧ OffC W q4 w7.heap.size 24 #[.int .i64 f, .int .i64 nx, .int .i64 t, .int .i64 q, .slice A2 m2.length c2] ∧ Fro w W q4 ∧ OwnP W w6.heap.size A2 c2 m2) ⟨HS7.out, HO7.out, HO7'.out, HFr7.out, Ho7.out⟩ (fun w7b hT => ?_)
      clear HS7 HO7 HO7' HFr7 Ho7
      obtain ⟨hS7, hO7, hO7', hFr7, ho7⟩ := hT
      generalize w7.heap.size = g13 at *
      have HSm := Lib.hid (CrSame_true f nx t q m2 ps w7b (Own.sl ho7) (H.out.below hFr7.1) hm2.out)
      obtain ⟨a0, a1, a2, a3, a4, -⟩ := Blk.five hO7.blk
      obtain ⟨b0, b1, b2, b3, b4, -⟩ := Blk.five hO7'.blk
      have HS7 := Lib.hid hS7
      have HO7 := Lib.hid hO7
      have HO7' := Lib.hid hO7'
      have HFr7 := Lib.hid hFr7
      clear hS7 hO7 hO7' hFr7 ho7
      go_wp2_with fail
      refine HSm.out.mono ?_
      clear HSm a0 a1 a2 a3 a4 b0 b1 b2 b3 b4
      rintro e w7c ⟨rfl, hb9⟩
      have hS7 := HS7.out.below hb9
      have hO7 := HO7.out.below hb9
      have hFr7 := HFr7.out.call hb9
      have HSv := Lib.hid (show Calls Tryz.prog 14 #[.pointer (some ⟨gs, 0, none⟩), .string ⟨[99].toArray⟩, crv f nx t q A ps.length c] w7c (fun e w' => ∃ A' c', e = .returned (errv (sPut svl Sv.nil ({ dk0 1048576 with fuse := fz } : Dk Sv) cname ⟨A', c', frm (crtxt (f, nx, t, q, ps))⟩).2) ∧ Dgo w7c q4 ({ dk0 1048576 with fuse := fz } : Dk Sv) (sPut svl Sv.nil ({ dk0 1048576 with fuse := fz } : Dk Sv) cname ⟨A', c', frm (crtxt (f, nx, t, q, ps))⟩).1 w') from CrSave_any hS7 HFk.out (by show 0 + 0 ≤ 900; omega) cname (by decide) f nx t q ps (H.out.below hFr7.1) HI.out Hx0.out)
      obtain ⟨a0, a1, a2, a3, a4, -⟩ := Blk.five hO7.blk
      replace HO7 := Lib.hid hO7
      have HO7b := Lib.hid (HO7'.out.below hb9)
      clear HO7'
      have HO7' := HO7b
      replace HFr7 := Lib.hid hFr7
      clear hS7 hO7 hFr7 hb9 HS7 HO7b
      go_wp2_with fail
      refine HSv.out.mono ?_
      clear HSv a0 a1 a2 a3 a4
      rintro e w8 ⟨A8, c8, rfl, hG8⟩
      obtain ⟨q8, hg8, hD8, hF8, hM8, -⟩ := hG8
      have hO8 := HO7.out.act hF8 hM8
      have hO8' := HO7'.out.act hF8 hM8
      have hFr8 := HFr7.out.frd hF8 hM8
      have hlen8 := sPut_len svl Sv.nil ({ dk0 1048576 with fuse := fz } : Dk Sv) cname ⟨A8, c8, frm (crtxt (f, nx, t, q, ps))⟩
      have HV := Lib.hid (save_open fz ⟨A8, c8, frm (crtxt (f, nx, t, q, ps))⟩)
      have hl8 : (sPut svl Sv.nil ({ dk0 1048576 with fuse := fz } : Dk Sv) cname ⟨A8, c8, frm (crtxt (f, nx, t, q, ps))⟩).1.sure.length + (sPut svl Sv.nil ({ dk0 1048576 with fuse := fz } : Dk Sv) cname ⟨A8, c8, frm (crtxt (f, nx, t, q, ps))⟩).1.pend.length ≤ 4 := by
        have : ({ dk0 1048576 with fuse := fz } : Dk Sv).sure.length + ({ dk0 1048576 with fuse := fz } : Dk Sv).pend.length = 0 := rfl
        omega
      generalize sPut svl Sv.nil ({ dk0 1048576 with fuse := fz } : Dk Sv) cname ⟨A8, c8, frm (crtxt (f, nx, t, q, ps))⟩ = r8 at *
      obtain ⟨d8, k8⟩ := r8
      dsimp only at hD8 hl8 HV ⊢
      have hC := Cut_any (B := none) (kc := 0) hD8 (by omega) (by omega) [] (Sl.none_ _ _) (fun e => absurd rfl e)
      have hgg8 : q8.g = g := hg8.trans Hgg.out
      rw [hgg8] at hC
      have HC := Lib.hid hC
      have Hg8 := Lib.hid hgg8
      have HO8 := Lib.hid hO8
      have HO8' := Lib.hid hO8'
      have HFr8 := Lib.hid hFr8
      have hisn := errv_nilC k8
      have hisg := errv_nilgC k8
      have HK8 := Lib.hid (show (k8 == 0) = true → k8 = 0 from fun h => by simpa using h)
      clear hC hg8 hgg8 hD8 hF8 hM8 hO8 hO8' hFr8 hlen8 HO7 HO7' HFr7
      generalize errv k8 = ev at *
      generalize (k8 == 0) = sv at *
      go_wp2_with fail
      refine HC.out.mono ?_
      clear HC hisn hisg
      rintro e w9 ⟨rfl, q9, hg9, hD9, hF9, hM9, -⟩
      have hgg9 : q9.g = g := hg9.trans Hg8.out
      have hcl := cut_len [] d8
      have hSt := StartDown_any hD9 (Nat.zero_le _) (by omega) rfl
      rw [hgg9] at hSt
      have HSt := Lib.hid hSt
      have HO9 := Lib.hid (HO8.out.act hF9 hM9)
      have HO9' := Lib.hid (HO8'.out.act hF9 hM9)
      have HFr9 := Lib.hid (HFr8.out.frd hF9 hM9)
      have Hg9 := Lib.hid hgg9
      clear hSt hg9 hgg9 hD9 hF9 hM9 HO8 HO8' HFr8 Hg8
      go_wp2_with fail
      refine HSt.out.mono ?_
      clear HSt
      rintro e w10 ⟨rfl, q10, hg10, hD10, hF10, hM10, -⟩
      have hgg10 : q10.g = g := hg10.trans Hg9.out
      have hcl2 := start_len (dCut [] d8)
      have hOp := SOpen_any hD10 (start_fok _) (by omega)
      rw [hgg10] at hOp
      have HOp := Lib.hid hOp
      have HO10 := Lib.hid (HO9.out.act hF10 hM10)
      have HO10' := Lib.hid (HO9'.out.act hF10 hM10)
      have HFr10 := Lib.hid (HFr9.out.frd hF10 hM10)
      clear hOp hg10 hgg10 hD10 hF10 hM10 HO9 HO9' HFr9 Hg9 hcl hcl2 hl8
      generalize dStart (dCut [] d8) = d10 at *
      go_wp2_with fail
      refine HOp.out.mono ?_
      clear HOp
      rintro e w11 hOO
      obtain ⟨d6, hO6, hfre, hpe, hrs⟩ := HV.out
      obtain ⟨q11, gs11, rfl, hg11, hF11, hM11, hS11, -⟩ := hOO.ok hO6
      have hHS := hrs hS11.dsk.ris
      have hLd := CrLoad_any hS11 cname (by decide)
      have HO11 := Lib.hid (HO10.out.act hF11 hM11)
      have HO11' := Lib.hid (HO10'.out.act hF11 hM11)
      have HFr11 := Lib.hid (HFr10.out.frd hF11 hM11)
      have HQ11 := Lib.hid (show ∀ i, q11.M i → i < w11.heap.size from fun i hi => hS11.dsk.ltM hi)
      clear hOO hrs HV hO6 hg11 hF11 hM11 hS11 HO10 HO10' HFr10
      rcases hHS with hsu | ⟨hsu, hne⟩
      · rw [load_there hfre hpe hsu rfl Hx0.out] at hLd
        dsimp only at hLd
        rw [show errv 0 = Value.nilIface from rfl] at hLd
        unfold cname at hLd
        have HLd := Lib.hid hLd
        clear hLd hfre hpe hsu
        go_wp2_with fail
        refine HLd.out.mono ?_
        clear HLd
        rintro e w12 ⟨A12, c12, m12, rfl, hm12, ho12, hb12⟩
        have hO12 := HO11.out.below hb12
        have hO12' := HO11'.out.below hb12
        have hFr12 := HFr11.out.call hb12
        obtain ⟨b0, b1, b2, b3, b4, bf0, bf1, bf2, bf3, bf4⟩ := hO12'.blk.five
        have hw13 := wr5 w12 g13 (.int .i64 f) (.int .i64 nx) (.int .i64 t) (.int .i64 q) (.slice A12 m12.length c12)
        have HO13 := Lib.hid (show OffC _ q11 w.heap.size 24 _ from ⟨hO12.blk.wr hw13 hne13, hO12.nm⟩)
        have HO13' := Lib.hid (show OffC _ q11 g13 24 _ from ⟨hO12'.blk.set5 (.int .i64 f) (.int .i64 nx) (.int .i64 t) (.int .i64 q) (.slice A12 m12.length c12), hO12'.nm⟩)
        have HFr13 := Lib.hid (show Fro w _ q11 from ⟨hFr12.1.trans (hw13.below hFr12.1.size hlo13), hFr12.2⟩)
        have Ho13 := Lib.hid (Own.set5 ho12 (g := g13) HO11'.out.blk.lt (.int .i64 f) (.int .i64 nx) (.int .i64 t) (.int .i64 q) (.slice A12 m12.length c12))
        clear hO12 hO12' hFr12 hw13 ho12 hb12 HO11 HO11' HFr11
        go_upto_region 19 with (fail)
        refine gen1 (T := fun W => OffC W q11 w.heap.size 24 _ ∧ OffC W q11 g13 24 _ ∧ Fro w W q11 ∧ OwnP W w11.heap.size A12 c12 m12) ⟨HO13.out, HO13'.out, HFr13.out, Ho13.out⟩ (fun w13 hT => ?_)
        clear HO13 HO13' HFr13 Ho13 b0 b1 b2 b3 b4 bf0 bf1 bf2 bf3 bf4
        obtain ⟨hO13, hO13', hFr13, ho13⟩ := hT
        cases sv with
        | true =>
          have HSm := Lib.hid (fun W (h1 : SlP W A12 c12 m12) (h2 : SlP W A c ps) => CrSame_true f nx t q m12 ps W h1 h2 hm12.out)
          have HSm2 := Lib.hid (HSm.out _ (Own.sl ho13) (H.out.below hFr13.1))
          obtain ⟨a0, a1, a2, a3, a4, -⟩ := Blk.five hO13.blk
          obtain ⟨b0, b1, b2, b3, b4, -⟩ := Blk.five hO13'.blk
          have HW13 := Lib.hid hFr13.1
          clear HSm ho13 hFr13 hO13 hO13' hm12
          go_wp2_with fail
          refine HSm2.out.mono ?_
          rintro e w14 ⟨rfl, hb14⟩
          have HW14 := Lib.hid (bel_call HW13.out hb14)
          clear HSm2 hb14 a0 a1 a2 a3 a4 b0 b1 b2 b3 b4
          go_wp2_with fail
          go_meet
          exact HW14.out
        | false =>
          have HSm := Lib.hid (fun W (h1 : SlP W A12 c12 m12) (h2 : SlP W A c ps) => CrSame_true f nx t q m12 ps W h1 h2 hm12.out)
          have HSm2 := Lib.hid (HSm.out _ (Own.sl ho13) (H.out.below hFr13.1))
          obtain ⟨a0, a1, a2, a3, a4, -⟩ := Blk.five hO13.blk
          obtain ⟨b0, b1, b2, b3, b4, -⟩ := Blk.five hO13'.blk
          have HW13 := Lib.hid hFr13.1
          clear HSm ho13 hFr13 hO13 hO13' hm12
          go_wp2_with fail
          refine HSm2.out.mono ?_
          rintro e w14 ⟨rfl, hb14⟩
          have HW14 := Lib.hid (bel_call HW13.out hb14)
          clear HSm2 hb14 a0 a1 a2 a3 a4 b0 b1 b2 b3 b4
          go_wp2_with fail
          go_meet
          exact HW14.out
      · rw [load_none hfre hpe hsu] at hLd
        dsimp only at hLd
        rw [show errv 0 = Value.nilIface from rfl] at hLd
        unfold cname at hLd
        have HLd := Lib.hid hLd
        obtain rfl : sv = false := by
          cases sv with
          | false => rfl
          | true => exact absurd (HK8.out rfl) hne
        clear hLd hfre hpe hsu hne
        go_wp2_with fail
        refine HLd.out.mono ?_
        clear HLd
        rintro e w12 ⟨A12, c12, m12, rfl, hm12, ho12, hb12⟩
        have hO12' := HO11'.out.below hb12
        have hFr12 := HFr11.out.call hb12
        obtain ⟨b0, b1, b2, b3, b4, bf0, bf1, bf2, bf3, bf4⟩ := hO12'.blk.five
        have hw13 := wr5 w12 g13 (.int .i64 0) (.int .i64 0) (.int .i64 0) (.int .i64 0) (.slice A12 m12.length c12)
        have HW13 := Lib.hid (hFr12.1.trans (hw13.below hFr12.1.size hlo13))
        clear hO12' hFr12 hw13 ho12 hb12 HO11 HO11' HFr11
        go_wp2_with fail
        go_meet
        exact HW13.out
  case rest =>
    have hW := hcut
    have hT := CTake_any Z z b wc (Sl.below HB.out hW) (by omega)
    have hbd := @crTake_bad b
    have hbk := @crTake_back b
    generalize crTake b = ct at *
    obtain ⟨⟨x1, x2, x3, x4, x5⟩, k2⟩ := ct
    unfold GivesCr at hT
    dsimp only at hT hbd
    have HT := Lib.hid hT
    have HW := Lib.hid hW
    have Hbd := Lib.hid hbd
    have Hbk := Lib.hid (fun x h => @hbk x h)
    clear hT hW hbd hbk HFr6 HS6 HO6 Hs1 hm1
    go_wp2_with fail
    refine HT.out.mono ?_
    clear HT
    rintro e w15 ⟨A15, c15, m15, rfl, hm15, ho15, hb15⟩
    have hb16 := below_new w15 (.cells #[.int .i64 x1, .int .i64 x2, .int .i64 x3, .int .i64 x4, .slice A15 m15.length c15] 24)
    have hB16 := Blk.new w15 24 #[.int .i64 x1, .int .i64 x2, .int .i64 x3, .int .i64 x4, .slice A15 m15.length c15]
    have hW16 := bel_call (bel_call HW.out hb15) hb16
    have ho16 := Own.below ho15 hb16
    have he1 := errv_nilneC k2
    have hg1 := errv_nilgneC k2
    have HK2 := Lib.hid (show (k2 == 0) = true ↔ k2 = 0 from by simp)
    obtain ⟨ev2, hev2⟩ : ∃ ev, errv k2 = ev := ⟨_, rfl⟩
    obtain ⟨b2', hb2'⟩ : ∃ b2' : Bool, (k2 == 0) = b2' := ⟨_, rfl⟩
    simp only [hev2, hb2'] at he1 hg1
    rw [hev2]
    rw [hb2'] at HK2
    clear hev2 hb2' hb15 ho15 hb16 HW
    go_upto_region 22 with (fail)
    refine gen1 (T := fun W => Blk W w15.heap.size 24 #[.int .i64 x1, .int .i64 x2, .int .i64 x3, .int .i64 x4, .slice A15 m15.length c15] ∧ Below w.heap.size w W ∧ OwnP W wc.heap.size A15 c15 m15) ⟨hB16, hW16, ho16⟩ (fun w17 hT => ?_)
    clear hB16 hW16 ho16
    obtain ⟨hB17, hW17, ho17⟩ := hT
    generalize w15.heap.size = g18 at *
    obtain ⟨a0, a1, a2, a3, a4, -⟩ := Blk.five hB17
    have hs17 : SlP w17 A15 c15 m15 := Own.sl ho17
    clear hB17 ho17
    cases b2' with
    | false =>
      have hk2 : k2 ≠ 0 := fun h => by have := HK2.out.2 h; cases this
      have hx := Hbd.out hk2
      injection hx with e1 hx
      injection hx with e2 hx
      injection hx with e3 hx
      injection hx with e4 e5
      subst e1 e2 e3 e4 e5
      have HSm := Lib.hid (CrSame_true 0 0 0 0 m15 [] w17 hs17 (Sl.none_ _ _) hm15.out)
      have HW17 := Lib.hid hW17
      clear hs17 hW17 Hbd Hbk HK2 hk2
      go_wp2_with fail
      refine HSm.out.mono ?_
      rintro e w18 ⟨rfl, hb18⟩
      have HW18 := Lib.hid (bel_call HW17.out hb18)
      clear hb18 HSm
      go_wp2_with fail
      go_ret
      exact ⟨rfl, HW18.out⟩
    | true =>
      have hk2 : k2 = 0 := HK2.out.1 rfl
      subst hk2
      obtain ⟨hck, hbb⟩ := Hbk.out _ rfl
      have hP := CrPut_any x1 x2 x3 x4 m15 w17 hs17 (by rw [hm15.out]; exact crchk_I hck)
      unfold GivesCrb at hP
      rw [hm15.out] at hP
      have hcp : crput (x1, x2, x3, x4, x5) = b := by
        rw [hbb]
        exact if_pos hck
      rw [hck, hcp, show errv 0 = Value.nilIface from rfl, ← hm15.out] at hP
      have HP := Lib.hid hP
      have HW17 := Lib.hid hW17
      clear hP hcp hck hbb hs17 hW17 Hbd Hbk HK2
      go_wp2_with fail
      refine HP.out.mono ?_
      clear HP he1 hg1 a0 a1 a2 a3 a4
      rintro e w18 ⟨A18, c18, m18, rfl, hm18, ho18, hb18⟩
      have hBy := nBytes_any A18 Z c18 z m18 b w18 (Own.sl ho18) (Sl.below HB.out (bel_call HW17.out hb18))
      rw [show (m18 == b) = true from by rw [hm18.out]; simp] at hBy
      have HBy := Lib.hid hBy
      have HW18 := Lib.hid (bel_call HW17.out hb18)
      clear hBy ho18 hb18 hm18
      go_wp2_with fail
      refine HBy.out.mono ?_
      rintro e w19 ⟨rfl, rfl⟩
      go_wp2_with fail
      go_ret
      exact ⟨rfl, HW18.out⟩
set_option maxRecDepth 100000 in
set_option maxHeartbeats 1000000 in
theorem cback_all {A Z : Option Addr} {c z : Nat} {b : List UInt8} {f nx t q fu : Int} {ps : List Pt5} (w : World) (h : SlP w A c ps) (hI : PtsI ps) (hb : SlB w Z z b) (_hu : I64 fu) :
    Calls Tryz.prog 3 #[crv f nx t q A ps.length c, .slice Z b.length z, .int .i64 fu] w fun e w' => e = .returned (.bool true) ∧ Below w.heap.size w w' := by
  by_cases h1 : ps.length ≤ 60
  · by_cases h2 : b.length ≤ 4000
    · exact cback_walk w h hI hb h1 h2
    · have j1 : ¬ (60 < (ps.length : Int)) := by omega
      have j2 : 4000 < (b.length : Int) := by omega
      clear h1 h2 h hI hb
      have hb0 := below_new w (.cells #[.int .i64 f, .int .i64 nx, .int .i64 t, .int .i64 q, .slice A ps.length c] 24)
      have hB0 := Blk.new w 24 #[.int .i64 f, .int .i64 nx, .int .i64 t, .int .i64 q, .slice A ps.length c]
      go_enter Tryz.func3, Tryz.ntmps3
      go_wp2_with fail
      refine (alive18_any _).mono ?_
      rintro e w1 ⟨rfl, hb1⟩
      have hw1 := bel_call hb0 hb1
      obtain ⟨a0, a1, a2, a3, a4, -⟩ := Blk.five (hB0.below hb1)
      clear hB0 hb0 hb1
      go_wp2_with fail
      go_ret
      exact ⟨rfl, hw1⟩
  · have j1 : 60 < (ps.length : Int) := by omega
    clear h1 h hI hb
    have hb0 := below_new w (.cells #[.int .i64 f, .int .i64 nx, .int .i64 t, .int .i64 q, .slice A ps.length c] 24)
    have hB0 := Blk.new w 24 #[.int .i64 f, .int .i64 nx, .int .i64 t, .int .i64 q, .slice A ps.length c]
    go_enter Tryz.func3, Tryz.ntmps3
    go_wp2_with fail
    refine (alive18_any _).mono ?_
    rintro e w1 ⟨rfl, hb1⟩
    have hw1 := bel_call hb0 hb1
    obtain ⟨a0, a1, a2, a3, a4, -⟩ := Blk.five (hB0.below hb1)
    clear hB0 hb0 hb1
    go_wp2_with fail
    go_ret
    exact ⟨rfl, hw1⟩
end Go.Proofs.YtddmfoldnlafaaaGreatDoor
