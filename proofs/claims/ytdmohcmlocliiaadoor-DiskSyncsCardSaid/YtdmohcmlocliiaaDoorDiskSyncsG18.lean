/- WHAT IT HOLDS: the law DiskSyncs, walked. -/
import Derived.Test.YtdmohcmlocliiaaDoorDiskSyncsG15
import Derived.Test.YtdmohcmlocliiaaDoorDiskSyncsG17
namespace Go.Proofs.YtdmohcmlocliiaaDoor
open Go.RowKit Go.Maps Go.Sort
attribute [local go_sem ↓] Go.wp_at_zero Go.wp_at_succ

section
variable {α : Type}
/-- a disk that is up, without a fuse -/
def Fre (d : Dk α) : Prop := d.fuse = -1 ∧ d.down = false
theorem dWorks_fre {d : Dk α} (h : Fre d) : dWorks d = (d, 0) := by
  unfold dWorks
  rw [if_neg (by rw [h.2]; simp), if_neg (by rw [h.1]; decide), if_neg (by rw [h.1]; decide)]
theorem Fre.opd {d : Dk α} {r : Dk α × Nat} (h : Fre d) (ho : Opd d r) : Fre r.1 := by
  obtain ⟨-, h2, h3, -⟩ := ho
  rw [dWorks_fre h] at h2 h3
  exact ⟨h2.trans h.1, h3.trans h.2⟩
theorem dSync_fre {d : Dk α} (h : Fre d) : (dSync d).2 = 0 ∧ (dSync d).1.sure = d.shown ∧ (dSync d).1.pend = [] ∧ Fre (dSync d).1 := by
  have e : dSync d = ({ d with sure := d.shown, pend := [] }, 0) := by
    unfold dSync
    rw [dWorks_fre h, if_neg (by simp)]
  rw [e]
  exact ⟨rfl, rfl, rfl, h⟩
theorem shown_nil {d : Dk α} (h : d.pend = []) : d.shown = d.sure := by
  unfold Dk.shown
  rw [h]
  rfl
theorem kept_non (keep : List Bool) : kept keep ([] : List (Chg α)) = [] := by
  unfold kept
  rfl
theorem dCut_nil {d : Dk α} (keep : List Bool) (h : d.pend = []) : (dCut keep d).sure = d.sure ∧ (dCut keep d).pend = [] ∧ (dCut keep d).down = true := by
  unfold dCut
  rw [h, kept_non]
  exact ⟨rfl, rfl, rfl⟩
theorem dStart_up2 {d : Dk α} (hp : d.pend = []) : (dStart d).sure = d.sure ∧ (dStart d).pend = [] ∧ Fre (dStart d) := by
  unfold dStart
  cases hd : d.down
  · exact ⟨rfl, hp, rfl, rfl⟩
  · exact ⟨rfl, rfl, rfl, rfl⟩
end
theorem kind3 (k : Int) : (IntKind.u64.wrap k).tmod 3 = 0 ∨ (IntKind.u64.wrap k).tmod 3 = 1 ∨ (IntKind.u64.wrap k).tmod 3 = 2 := by
  have h : IntKind.u64.wrap k = k % 18446744073709551616 := rfl
  rw [h, Int.tmod_eq_emod_of_nonneg (by omega)]
  omega
theorem DList_up {w : World} {q : Fp} {d : Dk Sv} (h : Dsk w q d) (hd : Fre d) (hL : d.shown.length ≤ 100000000) : Calls Tryd.prog 21 #[.pointer (some ⟨q.g, 0, none⟩)] w fun e w' => ∃ A c m, e = .returned (.tuple #[.slice A (List.length m) c, .nilIface]) ∧ Hid (m = names d.shown) ∧ TxH q w' A c m ∧ Below w.heap.size w w' := by
  refine (DList_any h hL).mono ?_
  rintro e w1 ⟨A, c, m, rfl, hm, ho, hb⟩
  rw [hd.2] at hm ⊢
  exact ⟨A, c, m, rfl, hm, TxH.of h ho, hb⟩
theorem names_gmap {r l : List (Bs × Sv)} (h : gmap Sv.l r = gmap Sv.l l) : names r = names l := by
  have := congrArg (List.map (·.1)) h
  unfold gmap at this
  rw [List.map_map, List.map_map] at this
  exact this
theorem gmap_at {r l : List (Bs × Sv)} (h : gmap Sv.l r = gmap Sv.l l) {k : Nat} (hk : k < r.length) (hk2 : k < l.length) : r[k].1 = l[k].1 ∧ r[k].2.l = l[k].2.l := by
  have h1 : (gmap Sv.l r)[k]? = (gmap Sv.l l)[k]? := by rw [h]
  unfold gmap at h1
  rw [List.getElem?_map, List.getElem?_map, List.getElem?_eq_getElem hk, List.getElem?_eq_getElem hk2] at h1
  simp only [Option.map_some, Option.some.injEq, Prod.mk.injEq] at h1
  exact h1
set_option maxRecDepth 100000 in
set_option maxHeartbeats 1000000 in
theorem syncs_walk {A : Option Addr} {c : Nat} {s : List DA} {B : Option Addr} {kc : Nat} {ks : List Bool} (w : World) (h : SlDA w A c s) (hk : SlZ w B kc ks) (hl : dLong s 40 = false) (hkl : ks.length ≤ 60) :
    Calls Tryd.prog 5 #[.slice A s.length c, .slice B ks.length kc] w fun e w' => e = .returned (.bool true) ∧ Below w.heap.size w w' := by
  have H := Lib.hid h
  have HKs := Lib.hid hk
  have HSh := Lib.hid (dLong_short hl)
  have hs40 : s.length ≤ 40 := by have := (dLong_short hl).1; omega
  have HLg := fun W (hh : SlDA W A c s) => DLong_any W hh 40
  rw [hl] at HLg
  replace HLg := Lib.hid HLg
  have hkI : (ks.length : Int) ≤ 60 := by omega
  clear h hl hk
  go_enter Tryd.func5, Tryd.ntmps5
  go_wp2_with fail
  refine (Alive_any _).mono ?_
  rintro e w1 ⟨rfl, hb1⟩
  go_wp2_with fail
  refine (HLg.out _ (H.out.below hb1)).mono ?_
  rintro e w2 ⟨rfl, hb2⟩
  have hb := bel_call hb1 hb2
  clear hb1 hb2 HLg
  go_wp2_with fail
  refine (New_any 1048576 w2).mono ?_
  rintro e w3 (⟨h, -⟩ | ⟨-, q, rfl, hD, hM, hb3⟩)
  · omega
  have HF3 := Lib.hid (show Fro w w3 q from ⟨bel_call hb hb3, fun i hi => Nat.le_trans hb.size (hM i hi)⟩)
  have HR3 := Lib.hid (show Fre (dk0 1048576) from ⟨rfl, rfl⟩)
  have HS3 := Lib.hid (show (dk0 1048576).sure.length + (dk0 1048576).pend.length ≤ 0 from Nat.le_refl _)
  have HD3 := Lib.hid hD
  clear hb hM hb3 hD
  rw [show errv 0 = Value.nilIface from rfl]
  generalize dk0 1048576 = d at *
  generalize hgg : q.g = g at *
  have hqg := Lib.hid hgg
  clear hgg
  go_wp2_with fail
  go_loopw [36] (fun x wr => ∃ (k : Nat) (q : Fp) (d : Dk Sv), k ≤ s.length ∧ x = .int .i64 k ∧ Hid (q.g = g) ∧ Dsk wr q d ∧ Fro w wr q ∧ Hid (Fre d) ∧ d.sure.length + d.pend.length ≤ k) (fun x w => s.length - (intOf x).toNat)
  case atStart => exact ⟨0, q, d, Nat.zero_le _, rfl, hqg, HD3.out, HF3.out, HR3, HS3.out⟩
  case round =>
    clear HD3 HF3 HR3 HS3 hqg
    clear d q
    obtain ⟨k, q, d, hk, rfl, hqg, hD, hF, hfre, hsz⟩ := hrel
    obtain rfl := hqg.out
    replace hfre := hfre.out
    clear hqg
    by_cases hlt : k < s.length
    · have hS := H.out.below hF.1
      obtain ⟨ad, b, o, hA, had, hcc⟩ := Sl.atS (f := dac) (size := 6) (fun _ => rfl) (by omega) hS.1 hlt
      have hc0 := hcc 0 _ rfl
      have hc1 := hcc 1 _ rfl
      have hc2 := hcc 2 _ rfl
      have hc3 := hcc 3 _ rfl
      have hc4 := hcc 4 _ rfl
      have hc5 := hcc 5 _ rfl
      rw [Nat.add_zero] at hc0
      have hok := hS.2 _ (List.getElem_mem hlt)
      have hok0 := (H.out.2 _ (List.getElem_mem hlt)).1
      have hsh := DA.short (HSh.out.2 _ (List.getElem_mem hlt))
      clear hcc hS
      generalize s[k] = x at *
      obtain ⟨kd, nm, tt, A1, c1, l1, ff, B1, kc1, ks1⟩ := x
      obtain ⟨q1, -⟩ := hok
      obtain ⟨s1, s2, -, s4, -⟩ := hsh
      dsimp only at *
      rw [hA] at *
      clear hA
      obtain ⟨p1, p2, p3, -⟩ := hD.fits hsz (by omega)
      have hfu : -1 ≤ d.fuse ∧ d.fuse ≤ 9223372036854775807 := by rw [hfre.1]; decide
      have hDn := hD.below (below_new wr (.cells #[.int .i64 kd, .string ⟨nm.toArray⟩, .string ⟨tt.toArray⟩, .slice A1 l1.length c1, .int .i64 ff, .slice B1 ks1.length kc1] 34))
      have hFn := hF.call (below_new wr (.cells #[.int .i64 kd, .string ⟨nm.toArray⟩, .string ⟨tt.toArray⟩, .slice A1 l1.length c1, .int .i64 ff, .slice B1 ks1.length kc1] 34))
      have q1n := Sl.below q1 (below_new wr (.cells #[.int .i64 kd, .string ⟨nm.toArray⟩, .string ⟨tt.toArray⟩, .slice A1 l1.length c1, .int .i64 ff, .slice B1 ks1.length kc1] 34))
      have hne : l1 ≠ [] → ∀ ad, A1 = some ad → ad.block ≠ q.g := fun hne ad hA => by
        have h1 := SlB.ltB hok0 hne hA
        have h2 := hF.2 q.g (.inl rfl)
        omega
      have HWr := Lib.hid (Write_any hDn hfu p1 p2 p3 nm (by omega) l1 q1n hne (by omega))
      have HRn := Lib.hid (Rename_any hDn hfu p1 p2 nm tt (by omega) (by omega))
      have HRm := Lib.hid (Remove_any hDn hfu p1 p2 nm (by omega))
      have HF := Lib.hid hFn
      clear hDn hFn q1n q1 hne hfu p1 p2 p3 s1 s2 s4 hok0 hF hD
      rcases kind3 kd with hu | hu | hu
      · clear HRn HRm
        go_wp2_with fail
        refine HWr.out.mono ?_
        clear HWr
        rintro e w5 ⟨A5, c5, rfl, hG⟩
        have hop := Opd.write svl d nm ⟨A5, c5, l1⟩
        generalize dWrite svl d nm ⟨A5, c5, l1⟩ = r at *
        have hfr := hfre.opd hop
        have hlen := hop.2.2.2
        obtain ⟨d5, num⟩ := r
        obtain ⟨q5, hg5, hD5, hF5, hM5, -⟩ := hG
        dsimp only at hfr hlen hD5 ⊢
        have HF5 := Lib.hid (HF.out.frd hF5 hM5)
        have HR5 := Lib.hid hfr
        have HD5 := Lib.hid hD5
        have HS5 := Lib.hid (show d5.sure.length + d5.pend.length ≤ k + 1 by omega)
        have Hg5 := Lib.hid hg5
        generalize errv num = ev
        clear hop hF5 hM5 hg5 hfr hlen hD5 HF hsz hfre
        go_wp2_with fail
        go_roundw
        case rel => exact ⟨k + 1, q5, d5, hlt, rfl, Hg5, HD5.out, HF5.out, HR5, HS5.out⟩
        case measure => simp [intOf]; omega
      · clear HWr HRm
        go_wp2_with fail
        refine HRn.out.mono ?_
        clear HRn
        rintro e w5 ⟨rfl, hG⟩
        have hop := Opd.rename Sv.nil d nm tt
        generalize dRename Sv.nil d nm tt = r at *
        have hfr := hfre.opd hop
        have hlen := hop.2.2.2
        obtain ⟨d5, num⟩ := r
        obtain ⟨q5, hg5, hD5, hF5, hM5, -⟩ := hG
        dsimp only at hfr hlen hD5 ⊢
        have HF5 := Lib.hid (HF.out.frd hF5 hM5)
        have HR5 := Lib.hid hfr
        have HD5 := Lib.hid hD5
        have HS5 := Lib.hid (show d5.sure.length + d5.pend.length ≤ k + 1 by omega)
        have Hg5 := Lib.hid hg5
        generalize errv num = ev
        clear hop hF5 hM5 hg5 hfr hlen hD5 HF hsz hfre
        go_wp2_with fail
        go_roundw
        case rel => exact ⟨k + 1, q5, d5, hlt, rfl, Hg5, HD5.out, HF5.out, HR5, HS5.out⟩
        case measure => simp [intOf]; omega
      · clear HWr HRn
        go_wp2_with fail
        refine HRm.out.mono ?_
        clear HRm
        rintro e w5 ⟨rfl, hG⟩
        have hop := Opd.remove Sv.nil d nm
        generalize dRemove Sv.nil d nm = r at *
        have hfr := hfre.opd hop
        have hlen := hop.2.2.2
        obtain ⟨d5, num⟩ := r
        obtain ⟨q5, hg5, hD5, hF5, hM5, -⟩ := hG
        dsimp only at hfr hlen hD5 ⊢
        have HF5 := Lib.hid (HF.out.frd hF5 hM5)
        have HR5 := Lib.hid hfr
        have HD5 := Lib.hid hD5
        have HS5 := Lib.hid (show d5.sure.length + d5.pend.length ≤ k + 1 by omega)
        have Hg5 := Lib.hid hg5
        generalize errv num = ev
        clear hop hF5 hM5 hg5 hfr hlen hD5 HF hsz hfre
        go_wp2_with fail
        go_roundw
        case rel => exact ⟨k + 1, q5, d5, hlt, rfl, Hg5, HD5.out, HF5.out, HR5, HS5.out⟩
        case measure => simp [intOf]; omega
    · have hke : k = s.length := by omega
      subst hke
      obtain ⟨p1, p2, p3, p4⟩ := hD.fits hsz (by omega)
      have hfu : -1 ≤ d.fuse ∧ d.fuse ≤ 9223372036854775807 := by rw [hfre.1]; decide
      have HL := Lib.hid (DList_up hD hfre p2)
      obtain ⟨y1, y2, y3, y4⟩ := dSync_fre hfre
      have hl2 : (dSync d).1.sure.length ≤ 40 := by
        rw [y2]
        have := flen_dos d.sure d.pend
        unfold Dk.shown
        omega
      clear hlt
      go_wp2_with fail
      refine HL.out.mono ?_
      clear HL
      rintro e wa ⟨Aw, cw, mw, rfl, hmw, hTw, hba⟩
      have hDa := hD.below hba
      have HU := Lib.hid (UsedD_any hDa p3)
      have hFa := hF.call hba
      clear hD hF hba
      go_wp2_with fail
      refine HU.out.mono ?_
      clear HU
      rintro e wb ⟨rfl, hbb⟩
      have HSy := Lib.hid (Sync_any (hDa.below hbb) hfu)
      have hFb := hFa.call hbb
      have hTb := hTw.call hbb
      clear hDa hFa hTw hbb
      rw [y1, show errv 0 = Value.nilIface from rfl] at HSy
      go_wp2_with fail
      refine HSy.out.mono ?_
      clear HSy
      rintro e wc ⟨rfl, q2, hg2, hD2, hF2, hM2, -⟩
      have HU2 := Lib.hid (show fused svl d.shown = fused svl (dSync d).1.sure from by rw [y2])
      have HM := Lib.hid (show mw = names (dSync d).1.sure from by rw [y2]; exact hmw.out)
      generalize (dSync d).1 = d2 at *
      rw [← hg2]
      rw [HU2.out]
      clear hg2 HU2 hmw y1 y2 p1 p2 p3 p4
      have hFc := hFb.frd hF2 hM2
      have hTc := hTb.act hF2 hM2
      have HP := Lib.hid (Pending_any hD2)
      rw [y3] at HP
      have HS := Lib.hid (DSure_any hD2 (by omega))
      clear hFb hTb hF2 hM2
      clear hfre hsz hfu d
      go_wp2_with fail
      refine HP.out.mono ?_
      clear HP
      rintro e wd ⟨rfl, rfl⟩
      have hnil : ([] : List (Chg Sv)).length = 0 := rfl
      go_wp2_with fail
      refine HS.out.mono ?_
      clear HS
      rintro e we ⟨A1, c1, r1, rfl, hr1, -, hbe⟩
      have hcmp : ((r1.length : Int) != (mw.length : Int)) = false := by
        have h1 := congrArg List.length hr1.out
        rw [gmap_len, gmap_len] at h1
        have h2 := congrArg List.length HM.out
        unfold names at h2
        rw [List.length_map] at h2
        rw [h1, h2]
        simp
      have hDe := hD2.below hbe
      have hFe := hFc.call hbe
      have hTe := hTc.call hbe
      have HS2 := Lib.hid (DSure_any hDe (by omega))
      clear hr1 hbe hD2 hFc hTc
      go_wp2_with fail
      refine HS2.out.mono ?_
      clear HS2
      rintro e wf ⟨A2, c2, r2, rfl, hr2, ht2, hbf⟩
      have hDf := hDe.below hbf
      have hFf := hFe.call hbf
      have hTf := hTe.call hbf
      have hGf := FlH.of hDe ht2
      have hkp := Sl.below HKs.out hFf.1
      have HC := Lib.hid (Cut_any hDf (by rw [y3]; decide) (by omega) ks hkp (fun hne ad hA => by
        have h1 := SlZ.ltB HKs.out hne hA
        have h2 := hFf.2 q2.bs (.inr (.inl rfl))
        omega))
      obtain ⟨x1, x2, x3⟩ := dCut_nil ks y3
      have HR2 := Lib.hid hr2.out
      clear hr2 ht2 hbf hDe hFe hTe hcmp hDf hkp
      go_wp2_with fail
      refine HC.out.mono ?_
      clear HC
      rintro e wg ⟨rfl, q3, hg3, hD3, hF3, hM3, -⟩
      have hFg := hFf.frd hF3 hM3
      have hTg := hTf.act hF3 hM3
      have hGg := hGf.act hF3 hM3
      generalize dCut ks d2 = d3 at *
      have HSt := Lib.hid (StartDown_any hD3 (by rw [x2]; decide) (by rw [x1]; omega) x3)
      obtain ⟨z1, z2, z3⟩ := dStart_up2 x2
      rw [← hg3]
      clear hg3 hF3 hM3 hFf hTf hGf hD3
      go_wp2_with fail
      refine HSt.out.mono ?_
      clear HSt
      rintro e wh ⟨rfl, q4, hg4, hD4, hF4, hM4, -⟩
      have hFh := hFg.frd hF4 hM4
      have hTh := hTg.act hF4 hM4
      have hGh := hGg.act hF4 hM4
      generalize dStart d3 = d4 at *
      rw [x1] at z1
      rw [← hg4]
      have hsh4 : d4.shown = d4.sure := shown_nil z2
      obtain ⟨p1, p2, p3, p4⟩ := hD4.fits (k := 40) (by rw [z1, z2]; simpa using hl2) (by omega)
      have HL := Lib.hid (DList_up hD4 z3 p2)
      clear hg4 hF4 hM4 hFg hTg hGg x1 x2 x3 d3 y3 y4
      go_wp2_with fail
      refine HL.out.mono ?_
      clear HL
      rintro e wi ⟨Aw2, cw2, mw2, rfl, hmw2, hTw2, hbi⟩
      have hDi := hD4.below hbi
      have hFi := hFh.call hbi
      have hTi := hTh.call hbi
      have hGi := hGh.call hbi
      have HS3 := Lib.hid (DSure_any hDi (by omega))
      have HM2 := Lib.hid (show mw2 = mw from by rw [hmw2.out, HM.out, hsh4, z1])
      clear hmw2 hbi hD4 hFh hTh hGh
      go_wp2_with fail
      refine HS3.out.mono ?_
      clear HS3
      rintro e wj ⟨A3, c3, r3, rfl, hr3, ht3, hbj⟩
      have hDj := hDi.below hbj
      have hFj := hFi.call hbj
      have hTj := hTi.call hbj
      have hTj2 := hTw2.call hbj
      have hGj := hGi.call hbj
      have hGj3 := FlH.of hDi ht3
      have HR3 := Lib.hid (show gmap Sv.l r3 = gmap Sv.l d2.sure from by rw [hr3.out, z1])
      have HTx := Lib.hid (Texts_any wj hTj2.1 hTj.1)
      rw [show decide (mw2 = mw) = true from decide_eq_true HM2.out] at HTx
      clear hr3 ht3 hbj hDi hFi hTi hTw2 hGi
      go_wp2_with fail
      refine HTx.out.mono ?_
      clear HTx
      rintro e wk ⟨rfl, hbk⟩
      have hDk := hDj.below hbk
      have hFk := hFj.call hbk
      have hTk := hTj.call hbk
      have hGk := hGj.call hbk
      have hGk3 := hGj3.call hbk
      have HU := Lib.hid (UsedD_any hDk p3)
      rw [hsh4, z1] at HU
      clear hbk hDj hFj hTj hTj2 hGj hGj3
      go_wp2_with fail
      refine HU.out.mono ?_
      clear HU
      rintro e wl ⟨rfl, hbl⟩
      have hFl := hFk.call hbl
      have hTl := hTk.call hbl
      have hGl := hGk.call hbl
      have hGl3 := hGk3.call hbl
      have hl2 : r2.length = d2.sure.length := by
        have h1 := congrArg List.length HR2.out
        rwa [gmap_len, gmap_len] at h1
      have hl3 : r3.length = d2.sure.length := by
        have h1 := congrArg List.length HR3.out
        rwa [gmap_len, gmap_len] at h1
      have hlm : mw.length = d2.sure.length := by
        have h2 := congrArg List.length HM.out
        unfold names at h2
        rwa [List.length_map] at h2
      have hcmp : ((r3.length : Int) != (r2.length : Int)) = false := by
        rw [hl2, hl3]
        simp
      have hk40 : r2.length ≤ 40 := by omega
      have HL2 := Lib.hid hl2
      have HL3 := Lib.hid hl3
      have HLm := Lib.hid hlm
      have HFl := Lib.hid hFl.1
      clear hbl hDk hFk hTk hGk hGk3 hl2 hl3 hlm hFl p1 p2 p3 p4 hsh4 z1 z2 z3
      go_wp2_with fail
      go_loopw [129] (fun x wr => ∃ k : Nat, k ≤ r2.length ∧ x = .int .i64 k ∧ Below wl.heap.size wl wr) (fun x w => r2.length - (intOf x).toNat)
      case atStart => exact ⟨0, Nat.zero_le _, rfl, Below.refl _ _⟩
      case round =>
        obtain ⟨k, hk, rfl, hbr⟩ := hrel
        by_cases hlt : k < r2.length
        · have h3k : k < r3.length := by rw [HL3.out, ← HL2.out]; exact hlt
          have hmk : k < mw.length := by rw [HLm.out, ← HL2.out]; exact hlt
          have hdk : k < d2.sure.length := by rw [← HL2.out]; exact hlt
          obtain ⟨ad, b, o, hA, had, hc0, hc1, hsb⟩ := (hGl.call hbr).at1 hlt
          obtain ⟨ad3, b3, o3, hA3, had3, hc03, hc13, hsb3⟩ := (hGl3.call hbr).at1 h3k
          obtain ⟨adm, bm, om, hAm, hadm, hcm⟩ := SlT.at1 (hTl.call hbr).1 hmk
          obtain ⟨e1, e2⟩ := gmap_at HR2.out hlt hdk
          obtain ⟨e3, e4⟩ := gmap_at HR3.out h3k hdk
          have e5 : mw[k] = d2.sure[k].1 := by
            have := HM.out
            unfold names at this
            simp [this]
          have hi2 : (k : Int) < (r2.length : Int) := by omega
          have hi3 : (k : Int) < (r3.length : Int) := by omega
          have him : (k : Int) < (mw.length : Int) := by omega
          generalize r2[k] = x at *
          generalize r3[k] = y at *
          generalize mw[k] = z at *
          generalize d2.sure[k] = v at *
          obtain ⟨xn, xA, xc, xl⟩ := x
          obtain ⟨yn, yA, yc, yl⟩ := y
          obtain ⟨vn, vA, vc, vl⟩ := v
          dsimp only at *
          subst e1 e2 e3 e4 e5 hA hA3 hAm
          have v1 := conv_strs (P := Tryd.prog) 31 9 5 Tryd.underlying31 Tryd.underlying5 Tryd.underlying9 hsb rfl
          have v2 := conv_strs (P := Tryd.prog) 31 9 5 Tryd.underlying31 Tryd.underlying5 Tryd.underlying9 hsb3 rfl
          clear hsb hsb3 hdk h3k hmk
          have hbe : ∀ l : List UInt8, (l == l) = true := fun l => by simp
          go_wp2_with fail
          go_quiet (fail)
          go_wp2_with fail
          go_roundw
          case rel => exact ⟨k + 1, hlt, by go_num, below_drewN hbr _⟩
          case measure => simp [intOf]; omega
        · have hke : k = r2.length := by omega
          go_wp2_with fail
          go_ret
          exact ⟨rfl, HFl.out.trans (hbr.mono HFl.out.size)⟩
set_option maxRecDepth 100000 in
set_option maxHeartbeats 1000000 in
theorem syncs_early {A : Option Addr} {c : Nat} {s : List DA} {B : Option Addr} {kc : Nat} {ks : List Bool} (w : World) (h : SlDA w A c s) (hk : SlZ w B kc ks) (hl : dLong s 40 = true ∨ 60 < ks.length) :
    Calls Tryd.prog 5 #[.slice A s.length c, .slice B ks.length kc] w fun e w' => e = .returned (.bool true) ∧ Below w.heap.size w w' := by
  have H := Lib.hid h
  have HLg := fun W (hh : SlDA W A c s) => DLong_any W hh 40
  replace HLg := Lib.hid HLg
  clear h hk
  rcases hlg : dLong s 40 with _ | _
  · rw [hlg] at HLg
    have hn : (60 : Int) < (ks.length : Int) := by
      rcases hl with h | h
      · rw [hlg] at h; cases h
      · omega
    clear hl hlg
    go_enter Tryd.func5, Tryd.ntmps5
    go_wp2_with fail
    refine (Alive_any _).mono ?_
    rintro e w1 ⟨rfl, hb1⟩
    go_wp2_with fail
    refine (HLg.out _ (H.out.below hb1)).mono ?_
    rintro e w2 ⟨rfl, hb2⟩
    have hb := bel_call hb1 hb2
    go_wp2_with fail
    go_ret
    exact ⟨rfl, hb⟩
  · rw [hlg] at HLg
    clear hl hlg
    go_enter Tryd.func5, Tryd.ntmps5
    go_wp2_with fail
    refine (Alive_any _).mono ?_
    rintro e w1 ⟨rfl, hb1⟩
    go_wp2_with fail
    refine (HLg.out _ (H.out.below hb1)).mono ?_
    rintro e w2 ⟨rfl, hb2⟩
    have hb := bel_call hb1 hb2
    go_wp2_with fail
    go_ret
    exact ⟨rfl, hb⟩
theorem syncs_all {A : Option Addr} {c : Nat} {s : List DA} {B : Option Addr} {kc : Nat} {ks : List Bool} (w : World) (h : SlDA w A c s) (hk : SlZ w B kc ks) :
    Calls Tryd.prog 5 #[.slice A s.length c, .slice B ks.length kc] w fun e w' => e = .returned (.bool true) ∧ Below w.heap.size w w' := by
  rcases hlg : dLong s 40 with _ | _
  · rcases Nat.lt_or_ge 60 ks.length with h0 | h0
    · exact syncs_early w h hk (.inr h0)
    · exact syncs_walk w h hk hlg h0
  · exact syncs_early w h hk (.inl hlg)
end Go.Proofs.YtdmohcmlocliiaaDoor
