/- WHAT IT HOLDS: the law DiskKeeps, walked. -/
import Derived.Test.YtabkeaammiellaaDoorDiskKeepsG17
import Derived.Carry
namespace Go.Proofs.YtabkeaammiellaaDoor
open Go.RowKit Go.Maps Go.Sort
attribute [local go_sem ↓] Go.wp_at_zero Go.wp_at_succ

theorem errv_iface {n : Nat} (h : n ≠ 0) : ∃ v, errv n = .iface 64 v := by
  match n, h with
  | k + 1, _ => exact ⟨_, rfl⟩
theorem zero_bool (w : World) : (zeroValue 4).run Tryd.prog w = .ok (.bool false) w := by kernel_rfl
theorem zero_str (w : World) : (zeroValue 9).run Tryd.prog w = .ok (.string ⟨#[]⟩) w := by kernel_rfl
theorem grown_of_below {w w' : World} (h : Below w.heap.size w w') : w.grownBy w' none := ⟨h.os, h.tape, h.output, h.size, fun i hi _ => h.block i hi⟩
theorem dRead_fre {d : Dk Sv} (h : Fre d) (n : Bs) : dRead d n = match gget n d.shown with | none => (none, 4) | some v => (some v, 0) := by
  unfold dRead
  rw [h.2, if_neg (by simp)]
  cases gget n d.shown <;> rfl
set_option maxRecDepth 100000 in
set_option maxHeartbeats 1000000 in
theorem keeps_walk {F : Option Addr} {cF : Nat} {fs : List DF} {A : Option Addr} {c : Nat} {s : List DA} {B : Option Addr} {kc : Nat} {ks : List Bool} (w : World) (hf : SlDF w F cF fs) (h : SlDA w A c s) (hk : SlZ w B kc ks) (hfl : fs.length ≤ 10) (hl : dLong s 30 = false) (hkl : ks.length ≤ 60) :
    Calls Tryd.prog 3 #[.slice F fs.length cF, .slice A s.length c, .slice B ks.length kc] w fun e w' => e = .returned (.bool true) ∧ Below w.heap.size w w' := by
  have HFs := Lib.hid hf
  have H := Lib.hid h
  have HKs := Lib.hid hk
  have HSh := Lib.hid (dLong_short hl)
  have hs30 : s.length ≤ 30 := by have := (dLong_short hl).1; omega
  have HLg := fun W (hh : SlDA W A c s) => DLong_any W hh 30
  rw [hl] at HLg
  replace HLg := Lib.hid HLg
  have hkI : (ks.length : Int) ≤ 60 := by omega
  have hfI : (fs.length : Int) ≤ 10 := by omega
  have hmm := @run_makeMap Tryd.prog
  clear h hl hk hf
  go_enter Tryd.func3, Tryd.ntmps3
  go_wp2_with fail
  refine (Alive_any _).mono ?_
  rintro e w1 ⟨rfl, hb1⟩
  go_wp2_with fail
  refine (HLg.out _ (H.out.below hb1)).mono ?_
  rintro e w2 ⟨rfl, hb2⟩
  have hb := bel_call hb1 hb2
  clear hb1 hb2 HLg
  go_wp2_with fail
  refine (New_any 16777216 w2).mono ?_
  rintro e w3 (⟨h, -⟩ | ⟨-, q, rfl, hD, hM, hb3⟩)
  · omega
  have hF3 : Fro w w3 q := ⟨bel_call hb hb3, fun i hi => Nat.le_trans hb.size (hM i hi)⟩
  have hmp := Mp.new (f := lS) (w0 := w) w3 hD hF3.1.size
  have HF3 := Lib.hid (hF3.call (below_new w3 (.map #[] 0)))
  have HR3 := Lib.hid (show Fre (dk0 16777216) from ⟨rfl, rfl⟩)
  have HE3 := Lib.hid (show (dk0 16777216).sure = [] ∧ (dk0 16777216).pend.length ≤ 0 from ⟨rfl, Nat.le_refl _⟩)
  have HG3 := Lib.hid (show gmap Sv.l (dk0 16777216).shown = [] from rfl)
  have HD3 := Lib.hid (hD.below (below_new w3 (.map #[] 0)))
  have HM3 := Lib.hid hmp
  clear hb hM hb3 hD hF3 hmp
  rw [show errv 0 = Value.nilIface from rfl]
  generalize dk0 16777216 = d at *
  generalize hgg : q.g = g at *
  have hqg := Lib.hid hgg
  clear hgg
  go_wp2_with fail
  generalize w3.heap.size = bw at *
  go_loopw [51] (fun x wr => ∃ (k : Nat) (q : Fp) (d : Dk Sv) (lw : List (Bs × Bs)), k ≤ fs.length ∧ x = .int .i64 k ∧ Hid (q.g = g) ∧ Dsk wr q d ∧ Fro w wr q ∧ Hid (Fre d) ∧ Hid (d.sure = []) ∧ d.pend.length ≤ k ∧ Mp lS w q wr bw lw ∧ Hid (gmap Sv.l d.shown = lw)) (fun x w => fs.length - (intOf x).toNat)
  case atStart => exact ⟨0, q, d, [], Nat.zero_le _, rfl, hqg, HD3.out, HF3.out, HR3, HE3.out.1, HE3.out.2, HM3.out, HG3⟩
  case round =>
    clear HD3 HF3 HR3 HE3 HM3 HG3 hqg
    clear d q
    obtain ⟨k, q, d, lw, hk, rfl, hqg, hD, hF, hfre, hsu, hpl, hMp, hgm⟩ := hrel
    obtain rfl := hqg.out
    replace hfre := hfre.out
    clear hqg
    by_cases hlt : k < fs.length
    · have hS := HFs.out.below hF.1
      obtain ⟨ad, b, o, hA, had, hcc⟩ := Sl.atS (f := dfc) (size := 2) (fun _ => rfl) (by omega) hS.1 hlt
      have hc0 := hcc 0 _ rfl
      have hc1 := hcc 1 _ rfl
      rw [Nat.add_zero] at hc0
      have hok := hS.2 _ (List.getElem_mem hlt)
      have hok0 := (HFs.out.2 _ (List.getElem_mem hlt)).1
      clear hcc hS
      generalize fs[k] = x at *
      obtain ⟨nm, A1, c1, l1⟩ := x
      obtain ⟨q1, q2⟩ := hok
      have q7 : l1.length ≤ maxLen := Nat.le_trans q1.2.1 q1.2.2.1
      dsimp only at *
      rw [hA] at *
      clear hA
      obtain ⟨p1, p2, p3, -⟩ := hD.fits (k := k) (by rw [hsu.out]; simpa using hpl) (by omega)
      have hfu : -1 ≤ d.fuse ∧ d.fuse ≤ 9223372036854775807 := by rw [hfre.1]; decide
      have hDn := hD.below (below_new wr (.cells #[.string ⟨nm.toArray⟩, .slice A1 l1.length c1] 35))
      have hFn := hF.call (below_new wr (.cells #[.string ⟨nm.toArray⟩, .slice A1 l1.length c1] 35))
      have hMn := hMp.call (below_new wr (.cells #[.string ⟨nm.toArray⟩, .slice A1 l1.length c1] 35))
      have q1n := Sl.below q1 (below_new wr (.cells #[.string ⟨nm.toArray⟩, .slice A1 l1.length c1] 35))
      have hne : l1 ≠ [] → ∀ ad, A1 = some ad → ad.block ≠ q.g := fun hne ad hA => by
        have h1 := SlB.ltB hok0 hne hA
        have h2 := hF.2 q.g (.inl rfl)
        omega
      have hBx := Blk.new wr 35 #[.string ⟨nm.toArray⟩, .slice A1 l1.length c1]
      have hnM : ¬ q.M wr.heap.size := fun h => by have := hD.ltM h; omega
      rcases Nat.lt_or_ge 300 l1.length with h3 | h3
      · have h3I : (300 : Int) < (l1.length : Int) := by omega
        have HB := Lib.hid hFn.1
        clear hDn hMn q1n hne hBx hnM hD hMp hF
        go_wp2_with fail
        go_ret
        exact ⟨rfl, HB.out⟩
      have h3I : (l1.length : Int) ≤ 300 := by omega
      have HWr := Lib.hid (Write_any hDn hfu p1 p2 p3 nm q2 l1 q1n hne (by omega))
      have HF := Lib.hid hFn
      have HM := Lib.hid hMn
      have HBx := Lib.hid hBx
      have HOk := Lib.hid hok0
      have hlw : lw.length ≤ 100000000 := by rw [← hgm.out, gmap_len]; exact p2
      clear hDn hFn hMn q1n hne hfu p1 p2 p3 hD hMp hF hBx hok0
      go_wp2_with fail
      refine HWr.out.mono ?_
      clear HWr
      rintro e w5 ⟨A5, c5, rfl, q5, hg5, hD5, hF5, hM5, -⟩
      have hM6 := HM.out.act hF5 hM5
      have hF6 := HF.out.frd hF5 hM5
      have hB6 : Blk w5 wr.heap.size 35 #[.string ⟨nm.toArray⟩, .slice A1 l1.length c1] := (hF5.block _ HBx.out.lt hnM).trans HBx.out
      have hx0 := hB6.cell 0
      have hx1 := hB6.cell 1
      have v1 := conv_str (P := Tryd.prog) 33 9 5 Tryd.underlying33 Tryd.underlying5 Tryd.underlying9 (Sl.below HOk.out hF6.1) rfl
      rcases dWrite_fre (len := svl) hfre nm ⟨A5, c5, l1⟩ with ⟨e0, e1⟩ | ⟨e0, e1⟩
      · rw [e0, show errv 0 = Value.nilIface from rfl]
        rw [e1] at hD5
        have HR5 := Lib.hid (show Fre (dAdd d ⟨0, nm, [], ⟨A5, c5, l1⟩⟩) from hfre)
        have HS5 := Lib.hid (show (dAdd d ⟨0, nm, [], ⟨A5, c5, l1⟩⟩).sure = [] from hsu.out)
        have HP5 := Lib.hid (show (dAdd d ⟨0, nm, [], ⟨A5, c5, l1⟩⟩).pend.length ≤ k + 1 from by unfold dAdd; simp; omega)
        have HG5 := Lib.hid (show gmap Sv.l (dAdd d ⟨0, nm, [], ⟨A5, c5, l1⟩⟩).shown = gput nm l1 lw from by rw [shown_write, ← gput_map, hgm.out])
        generalize dAdd d ⟨0, nm, [], ⟨A5, c5, l1⟩⟩ = d5 at *
        have HD5 := Lib.hid hD5
        have HM6 := Lib.hid hM6
        have HF6 := Lib.hid hF6
        have hO6 := hM6.1
        have Hg5 := Lib.hid hg5
        clear e0 e1 hD5 hF5 hM5 hM6 hF6 hB6 hg5 HF HM hfre hsu hgm
        go_wp2_with (at_mapUpdate; go_must (refine wpl_putF (f := lS) rfl _ _ _ rfl Tryd.underlying9 Tryd.underlying32 bw lw rfl hO6 (by unfold maxLen; omega) nm q2 rfl l1 rfl ?_); intro w6 hO7 hg6)
        have hD6 := HD5.out.grownMap HM6.out hg6
        have hF7 := HF6.out.grown hg6 HM6.out.2.2
        go_roundw
        case rel => exact ⟨k + 1, q5, d5, _, hlt, by go_num, Hg5, hD6, hF7, HR5, HS5, HP5.out, ⟨hO7, HM6.out.2⟩, HG5⟩
        case measure => simp [intOf]; omega
      · obtain ⟨ev, hev⟩ := errv_iface e0
        rw [hev]
        rw [e1] at hD5
        have HD5 := Lib.hid hD5
        have HM6 := Lib.hid hM6
        have HF6 := Lib.hid hF6
        have Hg5 := Lib.hid hg5
        have HR5 := Lib.hid hfre
        clear e0 e1 hev hD5 hF5 hM5 hM6 hF6 hB6 hg5 HF HM hfre
        go_wp2_with fail
        go_roundw
        case rel => exact ⟨k + 1, q5, d, lw, hlt, by go_num, Hg5, HD5.out, HF6.out, HR5, hsu, by omega, HM6.out, hgm⟩
        case measure => simp [intOf]; omega
    · have hke : k = fs.length := by omega
      subst hke
      obtain ⟨p1, p2, p3, -⟩ := hD.fits (k := fs.length) (by rw [hsu.out]; simpa using hpl) (by omega)
      have hfu : -1 ≤ d.fuse ∧ d.fuse ≤ 9223372036854775807 := by rw [hfre.1]; decide
      obtain ⟨y1, y2, y3, y4⟩ := dSync_fre hfre
      have hl2 : (dSync d).1.sure.length ≤ 10 := by
        rw [y2]
        have := flen_dos d.sure d.pend
        have h0 := hsu.out
        unfold Dk.shown
        rw [h0] at this ⊢
        simp only [List.length_nil] at this
        omega
      have HSy := Lib.hid (Sync_any hD hfu)
      rw [y1, show errv 0 = Value.nilIface from rfl] at HSy
      have HF := Lib.hid hF
      have HM := Lib.hid hMp
      clear hD hF hMp hlt hfu p1 p2 p3
      go_wp2_with fail
      refine HSy.out.mono ?_
      clear HSy
      rintro e wc ⟨rfl, q2, hg2, hD2, hF2, hM2, -⟩
      have hFc := HF.out.frd hF2 hM2
      have hMc := HM.out.act hF2 hM2
      have HG2 := Lib.hid (show gmap Sv.l (dSync d).1.sure = lw from by rw [y2, hgm.out])
      have HP2 := Lib.hid (show (dSync d).1.pend.length ≤ 0 from by rw [y3]; exact Nat.le_refl _)
      have HC2 := Lib.hid (show Cov ([] : List (Bs × Unit)) (dSync d).1.pend from by rw [y3]; exact Cov.nil _)
      have HR2 := Lib.hid y4
      have hlw : lw.length ≤ 10 := by rw [← HG2.out, gmap_len]; exact hl2
      generalize (dSync d).1 = d2 at *
      rw [← hg2]
      have HMt := Lib.hid (Mp.new (f := lU) (w0 := w) wc hD2 hFc.1.size)
      have HD2 := Lib.hid (hD2.below (below_new wc (.map #[] 0)))
      have HMw := Lib.hid (hMc.call (below_new wc (.map #[] 0)))
      have HFw := Lib.hid (hFc.call (below_new wc (.map #[] 0)))
      have hne : bw ≠ wc.heap.size := fun e => by have := hMc.1.lt; omega
      generalize hgg : q2.g = g2 at *
      have hqg := Lib.hid hgg
      clear hgg hD2 hFc hMc hF2 hM2 hgm hsu hpl HF HM hfre y1 y2 y3 y4 hg2
      clear d
      go_wp2_with fail
      generalize wc.heap.size = bt at *
      have HNe := Lib.hid hne
      clear hne
      go_loopw [79] (fun x wr => ∃ (k : Nat) (q : Fp) (d : Dk Sv) (lt : List (Bs × Unit)), k ≤ s.length ∧ x = .int .i64 k ∧ Hid (q.g = g2) ∧ Dsk wr q d ∧ Fro w wr q ∧ Hid (Fre d) ∧ Hid (gmap Sv.l d.sure = lw) ∧ d.pend.length ≤ k ∧ Mp lS w q wr bw lw ∧ Mp lU w q wr bt lt ∧ lt.length ≤ 2 * k ∧ Hid (Cov lt d.pend)) (fun x w => s.length - (intOf x).toNat)
      case atStart => exact ⟨0, q2, d2, [], Nat.zero_le _, rfl, hqg, HD2.out, HFw.out, HR2, HG2, HP2.out, HMw.out, HMt.out, Nat.zero_le _, HC2⟩
      case round =>
        clear HD2 HFw HR2 HG2 HP2 HMw HMt HC2 hqg hl2
        clear d2 q2
        obtain ⟨k, q, d, lt, hk, rfl, hqg, hD, hF, hfre, hgm, hpl, hMp, hMt, hlt2, hcov⟩ := hrel
        obtain rfl := hqg.out
        replace hfre := hfre.out
        clear hqg
        have hsl : d.sure.length ≤ 10 := by rw [← gmap_len (f := Sv.l), hgm.out]; exact hlw
        by_cases hlt : k < s.length
        · have hS := H.out.below hF.1
          obtain ⟨ad, b, o, hA, had, hcc⟩ := Sl.atS (f := dac) (size := 6) (fun _ => rfl) (by omega) hS.1 hlt
          have hc0 := hcc 0 _ rfl
          have hc1 := hcc 1 _ rfl
          have hc2 := hcc 2 _ rfl
          have hc3 := hcc 3 _ rfl
          have hc4 := hcc 4 _ rfl
          have hc5 := hcc 5 _ rfl
          rw [Nat.add_zero] at hc0
          have hok := hS.2 _ (List.getElem_mem hlt)
          have hok0 := (H.out.2 _ (List.getElem_mem hlt)).1
          have hsh := DA.short (HSh.out.2 _ (List.getElem_mem hlt))
          clear hcc hS
          generalize s[k] = x at *
          obtain ⟨kd, nm, tt, A1, c1, l1, ff, B1, kc1, ks1⟩ := x
          obtain ⟨q1, -⟩ := hok
          obtain ⟨s1, s2, -, s4, -⟩ := hsh
          dsimp only at *
          rw [hA] at *
          clear hA
          obtain ⟨p1, p2, p3, -⟩ := hD.fits (k := k + 10) (by omega) (by omega)
          have hfu : -1 ≤ d.fuse ∧ d.fuse ≤ 9223372036854775807 := by rw [hfre.1]; decide
          generalize hob : Obj.cells #[.int .i64 kd, .string ⟨nm.toArray⟩, .string ⟨tt.toArray⟩, .slice A1 l1.length c1, .int .i64 ff, .slice B1 ks1.length kc1] 40 = ob
          have hDn := hD.below (below_new wr ob)
          have hFn := hF.call (below_new wr ob)
          have hMn := hMp.call (below_new wr ob)
          have hTn := hMt.call (below_new wr ob)
          have q1n := Sl.below q1 (below_new wr ob)
          subst hob
          have hne : l1 ≠ [] → ∀ ad, A1 = some ad → ad.block ≠ q.g := fun hne ad hA => by
            have h1 := SlB.ltB hok0 hne hA
            have h2 := hF.2 q.g (.inl rfl)
            omega
          have HWr := Lib.hid (Write_any hDn hfu p1 p2 p3 nm (by omega) l1 q1n hne (by omega))
          have HRn := Lib.hid (Rename_any hDn hfu p1 p2 nm tt (by omega) (by omega))
          have HRm := Lib.hid (Remove_any hDn hfu p1 p2 nm (by omega))
          have HBx := Lib.hid (Blk.new wr 40 #[.int .i64 kd, .string ⟨nm.toArray⟩, .string ⟨tt.toArray⟩, .slice A1 l1.length c1, .int .i64 ff, .slice B1 ks1.length kc1])
          have hnM : ¬ q.M wr.heap.size := fun h => by have := hD.ltM h; omega
          have hbt : wr.heap.size ≠ bt := fun e => by have := hMt.1.lt; omega
          have HF := Lib.hid hFn
          have HM := Lib.hid hMn
          have HT := Lib.hid hTn
          have HD := Lib.hid hDn
          clear hDn hFn hMn hTn q1n q1 hne hfu p1 p2 p3 s4 hok0 hF hD hMp hMt
          rcases kind4 kd with hu | hu | hu | hu
          · clear HRn HRm
            go_wp2_with fail
            refine HWr.out.mono ?_
            clear HWr
            rintro e w5 ⟨A5, c5, rfl, q5, hg5, hD5, hF5, hM5, -⟩
            rcases dWrite_fre (len := svl) hfre nm ⟨A5, c5, l1⟩ with ⟨e0, e1⟩ | ⟨e0, e1⟩
            · rw [e0, show errv 0 = Value.nilIface from rfl]
              rw [e1] at hD5
              have hM6 := HM.out.act hF5 hM5
              have hT6 := HT.out.act hF5 hM5
              have hF6 := HF.out.frd hF5 hM5
              have hB6 : Blk w5 wr.heap.size 40 _ := (hF5.block _ HBx.out.lt hnM).trans HBx.out
              have hx1 := hB6.cell 1
              have hx2 := hB6.cell 2
              have HR5 := Lib.hid (show Fre (dAdd d ⟨0, nm, [], ⟨A5, c5, l1⟩⟩) from hfre)
              have HG5 := Lib.hid (show gmap Sv.l (dAdd d ⟨0, nm, [], ⟨A5, c5, l1⟩⟩).sure = lw from hgm.out)
              have HP5 := Lib.hid (show (dAdd d ⟨0, nm, [], ⟨A5, c5, l1⟩⟩).pend.length ≤ k + 1 from by unfold dAdd; simp; omega)
              have HC5 := Lib.hid (show ∀ lt' : List (Bs × Unit), (∀ y, (gget y lt).isSome = true → (gget y lt').isSome = true) → (gget nm lt').isSome = true → (0 = 1 → (gget [] lt').isSome = true) → Cov lt' (dAdd d ⟨0, nm, [], ⟨A5, c5, l1⟩⟩).pend from fun lt' h1 h2 h3 => (hcov.out.more h1).add h2 h3)
              generalize dAdd d ⟨0, nm, [], ⟨A5, c5, l1⟩⟩ = d5 at *
              have HD5 := Lib.hid hD5
              have HM6 := Lib.hid hM6
              have HT6 := Lib.hid hT6
              have HF6 := Lib.hid hF6
              have HB6 := Lib.hid hB6
              have hO6 := hT6.1
              have Hg5 := Lib.hid hg5
              clear e0 e1 hD5 hF5 hM5 hM6 hT6 hF6 hB6 hg5 HF HM HT HD HBx hfre hgm hcov
              go_wp2_with (at_mapUpdate; refine wpl_putF (f := lU) rfl _ _ _ rfl Tryd.underlying9 Tryd.underlying38 bt lt rfl hO6 (by unfold maxLen; omega) nm (by unfold maxLen; omega) rfl () rfl ?_; intro w6 hO7 hg6)
              have hD6 := HD5.out.grownMap HT6.out hg6
              have hF7 := HF6.out.grown hg6 HT6.out.2.2
              have hM7 := HM6.out.grown hg6 HNe.out
              have hl7 := glen_put nm () lt
              go_roundw
              case rel => exact ⟨k + 1, q5, d5, _, hlt, by go_num, Hg5, hD6, hF7, HR5, HG5, HP5.out, hM7, ⟨hO7, HT6.out.2⟩, by omega, Lib.hid (HC5.out _ (fun y h => gget_more h) (gget_here _ _) (fun h => by cases h))⟩
              case measure => simp [intOf]; omega
            · obtain ⟨ev, hev⟩ := errv_iface e0
              rw [hev]
              rw [e1] at hD5
              have HD5 := Lib.hid hD5
              have HM6 := Lib.hid (HM.out.act hF5 hM5)
              have HT6 := Lib.hid (HT.out.act hF5 hM5)
              have HF6 := Lib.hid (HF.out.frd hF5 hM5)
              have Hg5 := Lib.hid hg5
              have HR5 := Lib.hid hfre
              clear e0 e1 hev hD5 hF5 hM5 hg5 HF HM HT HD HBx hfre
              go_wp2_with fail
              go_roundw
              case rel => exact ⟨k + 1, q5, d, lt, hlt, by go_num, Hg5, HD5.out, HF6.out, HR5, hgm, by omega, HM6.out, HT6.out, by omega, hcov⟩
              case measure => simp [intOf]; omega
          · clear HRn HWr
            go_wp2_with fail
            refine HRm.out.mono ?_
            clear HRm
            rintro e w5 ⟨rfl, q5, hg5, hD5, hF5, hM5, -⟩
            rcases dRemove_fre (z := Sv.nil) hfre nm with ⟨e0, e1⟩ | ⟨e0, e1⟩
            · rw [e0, show errv 0 = Value.nilIface from rfl]
              rw [e1] at hD5
              have hM6 := HM.out.act hF5 hM5
              have hT6 := HT.out.act hF5 hM5
              have hF6 := HF.out.frd hF5 hM5
              have hB6 : Blk w5 wr.heap.size 40 _ := (hF5.block _ HBx.out.lt hnM).trans HBx.out
              have hx1 := hB6.cell 1
              have hx2 := hB6.cell 2
              have HR5 := Lib.hid (show Fre (dAdd d ⟨2, nm, [], Sv.nil⟩) from hfre)
              have HG5 := Lib.hid (show gmap Sv.l (dAdd d ⟨2, nm, [], Sv.nil⟩).sure = lw from hgm.out)
              have HP5 := Lib.hid (show (dAdd d ⟨2, nm, [], Sv.nil⟩).pend.length ≤ k + 1 from by unfold dAdd; simp; omega)
              have HC5 := Lib.hid (show ∀ lt' : List (Bs × Unit), (∀ y, (gget y lt).isSome = true → (gget y lt').isSome = true) → (gget nm lt').isSome = true → (2 = 1 → (gget [] lt').isSome = true) → Cov lt' (dAdd d ⟨2, nm, [], Sv.nil⟩).pend from fun lt' h1 h2 h3 => (hcov.out.more h1).add h2 h3)
              generalize dAdd d ⟨2, nm, [], Sv.nil⟩ = d5 at *
              have HD5 := Lib.hid hD5
              have HM6 := Lib.hid hM6
              have HT6 := Lib.hid hT6
              have HF6 := Lib.hid hF6
              have HB6 := Lib.hid hB6
              have hO6 := hT6.1
              have Hg5 := Lib.hid hg5
              clear e0 e1 hD5 hF5 hM5 hM6 hT6 hF6 hB6 hg5 HF HM HT HD HBx hfre hgm hcov
              go_wp2_with (at_mapUpdate; refine wpl_putF (f := lU) rfl _ _ _ rfl Tryd.underlying9 Tryd.underlying38 bt lt rfl hO6 (by unfold maxLen; omega) nm (by unfold maxLen; omega) rfl () rfl ?_; intro w6 hO7 hg6)
              have hD6 := HD5.out.grownMap HT6.out hg6
              have hF7 := HF6.out.grown hg6 HT6.out.2.2
              have hM7 := HM6.out.grown hg6 HNe.out
              have hl7 := glen_put nm () lt
              go_roundw
              case rel => exact ⟨k + 1, q5, d5, _, hlt, by go_num, Hg5, hD6, hF7, HR5, HG5, HP5.out, hM7, ⟨hO7, HT6.out.2⟩, by omega, Lib.hid (HC5.out _ (fun y h => gget_more h) (gget_here _ _) (fun h => by cases h))⟩
              case measure => simp [intOf]; omega
            · obtain ⟨ev, hev⟩ := errv_iface e0
              rw [hev]
              rw [e1] at hD5
              have HD5 := Lib.hid hD5
              have HM6 := Lib.hid (HM.out.act hF5 hM5)
              have HT6 := Lib.hid (HT.out.act hF5 hM5)
              have HF6 := Lib.hid (HF.out.frd hF5 hM5)
              have Hg5 := Lib.hid hg5
              have HR5 := Lib.hid hfre
              clear e0 e1 hev hD5 hF5 hM5 hg5 HF HM HT HD HBx hfre
              go_wp2_with fail
              go_roundw
              case rel => exact ⟨k + 1, q5, d, lt, hlt, by go_num, Hg5, HD5.out, HF6.out, HR5, hgm, by omega, HM6.out, HT6.out, by omega, hcov⟩
              case measure => simp [intOf]; omega
          · clear HRm HWr
            go_wp2_with fail
            refine HRn.out.mono ?_
            clear HRn
            rintro e w5 ⟨rfl, q5, hg5, hD5, hF5, hM5, -⟩
            rcases dRename_fre (z := Sv.nil) hfre nm tt with ⟨e0, e1⟩ | ⟨e0, e1⟩
            · rw [e0, show errv 0 = Value.nilIface from rfl]
              rw [e1] at hD5
              have hM6 := HM.out.act hF5 hM5
              have hT6 := HT.out.act hF5 hM5
              have hF6 := HF.out.frd hF5 hM5
              have hB6 : Blk w5 wr.heap.size 40 _ := (hF5.block _ HBx.out.lt hnM).trans HBx.out
              have hx1 := hB6.cell 1
              have hx2 := hB6.cell 2
              have HR5 := Lib.hid (show Fre (dAdd d ⟨1, nm, tt, Sv.nil⟩) from hfre)
              have HG5 := Lib.hid (show gmap Sv.l (dAdd d ⟨1, nm, tt, Sv.nil⟩).sure = lw from hgm.out)
              have HP5 := Lib.hid (show (dAdd d ⟨1, nm, tt, Sv.nil⟩).pend.length ≤ k + 1 from by unfold dAdd; simp; omega)
              have HC5 := Lib.hid (show ∀ lt' : List (Bs × Unit), (∀ y, (gget y lt).isSome = true → (gget y lt').isSome = true) → (gget nm lt').isSome = true → (1 = 1 → (gget tt lt').isSome = true) → Cov lt' (dAdd d ⟨1, nm, tt, Sv.nil⟩).pend from fun lt' h1 h2 h3 => (hcov.out.more h1).add h2 h3)
              generalize dAdd d ⟨1, nm, tt, Sv.nil⟩ = d5 at *
              have HD5 := Lib.hid hD5
              have HM6 := Lib.hid hM6
              have HT6 := Lib.hid hT6
              have HF6 := Lib.hid hF6
              have HB6 := Lib.hid hB6
              have hO6 := hT6.1
              have Hg5 := Lib.hid hg5
              clear e0 e1 hD5 hF5 hM5 hM6 hT6 hF6 hB6 hg5 HF HM HT HD HBx hfre hgm hcov
              have hst := HB6.out.drew
              have hOd : OmF lU Tryd.prog 9 w5.drew bt lt := hO6.same rfl
              have HDd := Lib.hid (HD5.out.frame (w' := w5.drew) fun i _ => rfl)
              have HFd := Lib.hid (show Fro w w5.drew q5 from ⟨Below.drew HF6.out.1, HF6.out.2⟩)
              have HMd := Lib.hid (show Mp lS w q5 w5.drew bw lw from ⟨HM6.out.1.same rfl, HM6.out.2⟩)
              clear hx1 hx2 hO6
              go_upto_region 32 with (fail)
              refine wp_region_held_drew (S := (fun W => Blk W wr.heap.size 40 #[.int .i64 kd, .string ⟨nm.toArray⟩, .string ⟨tt.toArray⟩, .slice A1 l1.length c1, .int .i64 ff, .slice B1 ks1.length kc1])) (by kernel_rfl) ?_ (fun hHeld => ?_)
              · first | with_reducible exact hst | with_reducible exact hHeld | exact (hg7.block _ hHeld.lt (fun e => hbt (by injection e))).trans hHeld | exact (hg6.block _ hHeld.lt (fun e => hbt (by injection e))).trans hHeld
              refine wpAnyH_take (i := 0) (oi := ⟨some 118, _, _, _, _, _⟩) (v := ?_) rfl (by kernel_rfl) (by kernel_rfl) (by kernel_rfl) (fun _ _ _ h => h) (Or.inl ⟨by kernel_rfl, ?_⟩) (by assumption) ?_
              rotate_left
              · (intro wS hSw; (try dsimp only at hSw); have a1 := hSw.cell 1; have a2 := hSw.cell 2; clear hSw; go_simp; (try with_reducible rfl))
              (try simp only [Act.put, List.setIfInBounds_toArray, List.set_cons_zero, List.set_cons_succ])
              refine wpAnyH_take (i := 1) (oi := ⟨some 119, _, _, _, _, _⟩) (v := ?_) rfl (by kernel_rfl) (by kernel_rfl) (by kernel_rfl) (fun _ _ _ h => h) (Or.inl ⟨by kernel_rfl, ?_⟩) (by assumption) ?_
              rotate_left
              · (intro wS hSw; (try dsimp only at hSw); have a1 := hSw.cell 1; have a2 := hSw.cell 2; clear hSw; go_simp; (try with_reducible rfl))
              (try simp only [Act.put, List.setIfInBounds_toArray, List.set_cons_zero, List.set_cons_succ])
              refine wpAnyH_take (i := 2) (oi := ⟨some 120, _, _, _, _, _⟩) (v := ?_) rfl (by kernel_rfl) (by kernel_rfl) (by kernel_rfl) (fun _ _ _ h => h) (Or.inl ⟨by kernel_rfl, ?_⟩) (by assumption) ?_
              rotate_left
              · (intro wS hSw; (try dsimp only at hSw); have a1 := hSw.cell 1; have a2 := hSw.cell 2; clear hSw; go_simp; (try with_reducible rfl))
              (try simp only [Act.put, List.setIfInBounds_toArray, List.set_cons_zero, List.set_cons_succ])
              refine wpAnyH_take (i := 3) (oi := ⟨some 121, _, _, _, _, _⟩) (v := ?_) rfl (by kernel_rfl) (by kernel_rfl) (by kernel_rfl) (fun _ _ _ h => h) (Or.inl ⟨by kernel_rfl, ?_⟩) (by assumption) ?_
              rotate_left
              · (intro wS hSw; (try dsimp only at hSw); have a1 := hSw.cell 1; have a2 := hSw.cell 2; clear hSw; go_simp; (try with_reducible rfl))
              (try simp only [Act.put, List.setIfInBounds_toArray, List.set_cons_zero, List.set_cons_succ])
              refine wpAnyH_take (i := 4) (oi := ⟨some 122, _, _, _, _, _⟩) (v := ?_) rfl (by kernel_rfl) (by kernel_rfl) (by kernel_rfl) (fun _ _ _ h => h) (Or.inl ⟨by kernel_rfl, ?_⟩) (by assumption) ?_
              rotate_left
              · (intro wS hSw; (try dsimp only at hSw); have a1 := hSw.cell 1; have a2 := hSw.cell 2; clear hSw; go_simp; (try with_reducible rfl))
              (try simp only [Act.put, List.setIfInBounds_toArray, List.set_cons_zero, List.set_cons_succ])
              refine wpAnyH_take (i := 5) (oi := ⟨some 123, _, _, _, _, _⟩) (v := ?_) rfl (by kernel_rfl) (by kernel_rfl) (by kernel_rfl) (fun _ _ _ h => h) (Or.inl ⟨by kernel_rfl, ?_⟩) (by assumption) ?_
              rotate_left
              · (intro wS hSw; (try dsimp only at hSw); have a1 := hSw.cell 1; have a2 := hSw.cell 2; clear hSw; go_simp; (try with_reducible rfl))
              (try simp only [Act.put, List.setIfInBounds_toArray, List.set_cons_zero, List.set_cons_succ])
              refine wpAnyH_ready (rs := [6]) (by kernel_rfl) (by simp) ?_
              refine AllReadyH.cons (o := ⟨none, _, _, _, _, _⟩) rfl (fun K hK => ?_) AllReadyH.nil
              first | (refine step_putF (f := lU) (by kernel_rfl) _ _ _ rfl Tryd.underlying9 Tryd.underlying38 bt (gput _ () lt) rfl hO7 (by have := glen_put nm () lt; have := glen_put tt () lt; unfold maxLen; omega) _ (by unfold maxLen; omega) rfl () rfl ?_; intro w7 hO8 hg7) | (refine step_putF (f := lU) (by kernel_rfl) _ _ _ rfl Tryd.underlying9 Tryd.underlying38 bt lt rfl hOd (by unfold maxLen; omega) _ (by unfold maxLen; omega) rfl () rfl ?_; intro w6 hO7 hg6)
              refine hK.out _ _ ?_ (fun hHeld => ?_)
              · ((try dsimp only); (first | with_reducible exact hst | with_reducible exact hHeld | exact (hg7.block _ hHeld.lt (fun e => hbt (by injection e))).trans hHeld | exact (hg6.block _ hHeld.lt (fun e => hbt (by injection e))).trans hHeld))
              clear hK K
              (try simp only [Act.put, List.setIfInBounds_toArray, List.set_cons_zero, List.set_cons_succ])
              refine wpAnyH_ready (rs := [7]) (by kernel_rfl) (by simp) ?_
              refine AllReadyH.cons (o := ⟨none, _, _, _, _, _⟩) rfl (fun K hK => ?_) AllReadyH.nil
              first | (refine step_putF (f := lU) (by kernel_rfl) _ _ _ rfl Tryd.underlying9 Tryd.underlying38 bt (gput _ () lt) rfl hO7 (by have := glen_put nm () lt; have := glen_put tt () lt; unfold maxLen; omega) _ (by unfold maxLen; omega) rfl () rfl ?_; intro w7 hO8 hg7) | (refine step_putF (f := lU) (by kernel_rfl) _ _ _ rfl Tryd.underlying9 Tryd.underlying38 bt lt rfl hOd (by unfold maxLen; omega) _ (by unfold maxLen; omega) rfl () rfl ?_; intro w6 hO7 hg6)
              refine hK.out _ _ ?_ (fun hHeld => ?_)
              · ((try dsimp only); (first | with_reducible exact hst | with_reducible exact hHeld | exact (hg7.block _ hHeld.lt (fun e => hbt (by injection e))).trans hHeld | exact (hg6.block _ hHeld.lt (fun e => hbt (by injection e))).trans hHeld))
              clear hK K
              (try simp only [Act.put, List.setIfInBounds_toArray, List.set_cons_zero, List.set_cons_succ])
              refine wpAnyH_done (by kernel_rfl) ?_ _
              go_wp2_with fail
              go_roundw
              case rel => exact ⟨k + 1, q5, d5, _, hlt, by go_num, Hg5, (HDd.out.grownMap (f := lU) ⟨hOd, HT6.out.2⟩ hg6).grownMap (f := lU) ⟨hO7, HT6.out.2⟩ hg7, (HFd.out.grown hg6 HT6.out.2.2).grown hg7 HT6.out.2.2, HR5, HG5, HP5.out, (HMd.out.grown hg6 HNe.out).grown hg7 HNe.out, ⟨hO8, HT6.out.2⟩, by have := glen_put nm () lt; have := glen_put tt () lt; have := glen_put nm () (gput tt () lt); have := glen_put tt () (gput nm () lt); omega, Lib.hid (HC5.out _ (fun y h => gget_more (gget_more h)) (by first | exact gget_here _ _ | exact gget_more (gget_here _ _)) (fun _ => by first | exact gget_here _ _ | exact gget_more (gget_here _ _)))⟩
              case measure => simp [intOf]; omega
            · obtain ⟨ev, hev⟩ := errv_iface e0
              rw [hev]
              rw [e1] at hD5
              have HD5 := Lib.hid hD5
              have HM6 := Lib.hid (HM.out.act hF5 hM5)
              have HT6 := Lib.hid (HT.out.act hF5 hM5)
              have HF6 := Lib.hid (HF.out.frd hF5 hM5)
              have Hg5 := Lib.hid hg5
              have HR5 := Lib.hid hfre
              clear e0 e1 hev hD5 hF5 hM5 hg5 HF HM HT HD HBx hfre
              go_wp2_with fail
              go_roundw
              case rel => exact ⟨k + 1, q5, d, lt, hlt, by go_num, Hg5, HD5.out, HF6.out, HR5, hgm, by omega, HM6.out, HT6.out, by omega, hcov⟩
              case measure => simp [intOf]; omega
          · clear HRm HWr HRn
            go_wp2_with fail
            go_roundw
            case rel => exact ⟨k + 1, q, d, lt, hlt, by go_num, Lib.hid rfl, HD.out, HF.out, Lib.hid hfre, hgm, by omega, HM.out, HT.out, by omega, hcov⟩
            case measure => simp [intOf]; omega
        · have hke : k = s.length := by omega
          subst hke
          obtain ⟨p1, p2, p3, -⟩ := hD.fits (k := s.length + 10) (by omega) (by omega)
          have hkp := Sl.below HKs.out hF.1
          have HC := Lib.hid (Cut_any hD (by omega) (by omega) ks hkp (fun hne ad hA => by
            have h1 := SlZ.ltB HKs.out hne hA
            have h2 := hF.2 q.bs (.inr (.inl rfl))
            omega))
          obtain ⟨z1, z2, z3⟩ := dStart_up2 (d := dCut ks d) rfl
          have HK := Lib.hid (show ∀ x, gget x lt = none → (gget x (dStart (dCut ks d)).sure).map Sv.l = gget x lw from fun x hx => by rw [z1, ← hgm.out, gget_map]; exact congrArg _ (hcov.out.off ks hx))
          have hkl4 : (dStart (dCut ks d)).sure.length ≤ 40 := by
            rw [z1]
            have := flen_dos d.sure (kept ks d.pend)
            have := kept_len ks d.pend
            show (fdos d.sure (kept ks d.pend)).length ≤ 40
            omega
          have hkl3 : (dCut ks d).sure.length ≤ 40 := by rw [← z1]; exact hkl4
          have HRl := Lib.hid (show Ris lw from by rw [← hgm.out]; exact hD.ris.map _)
          have HNm := Lib.hid (show ∀ p ∈ lw, p.1.length ≤ 24 from by rw [← hgm.out]; intro p hp; obtain ⟨p0, h0, rfl⟩ := List.mem_map.1 hp; exact hD.nm.1 p0 h0)
          have HD := Lib.hid hD
          have HF := Lib.hid hF
          have HM := Lib.hid hMp
          have HT := Lib.hid hMt
          have hltl : lt.length ≤ 60 := by omega
          clear hlt hkp hD hF hMp hMt p1 p2 p3 hcov hgm
          go_wp2_with fail
          refine HC.out.mono ?_
          clear HC
          rintro e wg ⟨rfl, q3, hg3, hD3, hF3, hM3, -⟩
          have hFg := HF.out.frd hF3 hM3
          have hMg := HM.out.act hF3 hM3
          have hTg := HT.out.act hF3 hM3
          have HSt := Lib.hid (StartDown_any hD3 (Nat.zero_le _) (by omega) rfl)
          clear HF HM HT hF3 hM3 hD3
          rw [← hg3]
          clear hg3 HD
          go_wp2_with fail
          refine HSt.out.mono ?_
          clear HSt
          rintro e wh ⟨rfl, q4, hg4, hD4, hF4, hM4, -⟩
          have hFh := hFg.frd hF4 hM4
          have hMh := hMg.act hF4 hM4
          have hTh := hTg.act hF4 hM4
          generalize dStart (dCut ks d) = d4 at *
          clear z1 hkl3 hFg hMg hTg hF4 hM4
          rw [← hg4]
          clear hg4
          have hsh4 : d4.shown = d4.sure := shown_nil z2
          have h0 : wh.ownsMap Tryd.prog 9 tok bw lw.length (datF lS lw) := hMh.1
          have hbl := hMh.1.lt
          have HD4 := Lib.hid hD4
          have HF4 := Lib.hid hFh
          have HM4 := Lib.hid hMh
          have HT4 := Lib.hid hTh
          have HZ3 := Lib.hid z3
          have HZ2 := Lib.hid z2
          have HSh4 := Lib.hid hsh4
          clear hD4 hFh hMh hTh z2 z3 hsh4 hpl hsl hfre
          go_wp2_with (at_range; refine wpList_range_own _ rfl _ 32 rfl 9 9 (string_keyed Tryd.underlying9) Tryd.underlying32 _ bw lw.length _ rfl h0 ?_; intro w0 hrg0 hg0 hs0)
          go_frame
          clear h0
          go_loopw [] (fun wr => ∃ (left : Lit → Bool) (cnt : Nat), wr.ranges Tryd.prog 9 tok bw wh.heap.size lw.length (datF lS lw) left cnt ∧ Below wh.heap.size wh wr) (fun wr => wr.rangeLeft bw wh.heap.size)
          case atStart => exact ⟨_, _, hrg0, ⟨hg0.os, hg0.tape, hg0.output, hg0.size, fun i hi => hg0.block i hi (by simp)⟩⟩
          case round =>
            obtain ⟨left, cnt, hrg, hbw⟩ := hrel
            go_wp2_with (at_next; refine wpList_next_ranges _ rfl _ rfl 9 (string_keyed Tryd.underlying9) tok encStr id (fun key kl hk => by obtain ⟨x, hx, _⟩ := Maps.keyOf_str Tryd.underlying9 hk; exact ⟨x, hx⟩) (fun v _ _ => ⟨v, rfl⟩) bw wh.heap.size lw.length _ _ _ rfl hrg ?_ ?_)
            · intro hc0 hl0
              have hD5 := HD4.out.below hbw
              have hM5 := HM4.out.call hbw
              have hT5 := HT4.out.call hbw
              have HF5 := Lib.hid (HF4.out.call hbw)
              have HL := Lib.hid (DList_up hD5 HZ3.out (by rw [HSh4.out]; omega))
              have HD5 := Lib.hid hD5
              have HM5 := Lib.hid hM5
              have HT5 := Lib.hid hT5
              clear hD5 hM5 hT5 hrg hc0 hl0 hrg0 hg0 hs0
              go_wp2_with fail
              refine HL.out.mono ?_
              clear HL
              rintro e wa ⟨Aw, cw, mw, rfl, hmw, hTw, hba⟩
              rw [HSh4.out] at hmw
              have HW := Lib.hid hTw.1
              have HD6 := Lib.hid (HD5.out.below hba)
              have HM6 := Lib.hid (HM5.out.call hba)
              have HT6 := Lib.hid (HT5.out.call hba)
              have HF6 := Lib.hid (HF5.out.call hba)
              have hmwl : mw.length ≤ 40 := by rw [hmw.out]; unfold names; rw [List.length_map]; exact hkl4
              clear HM5 HT5 HF5 HD5 hTw hba hbw
              go_wp2_with fail
              go_loopw [164] (fun x wr => ∃ k : Nat, k ≤ mw.length ∧ x = .int .i64 k ∧ Below wa.heap.size wa wr) (fun x w => mw.length - (intOf x).toNat)
              case atStart => exact ⟨0, Nat.zero_le _, rfl, Below.refl _ _⟩
              case round =>
                obtain ⟨k, hk, rfl, hbr⟩ := hrel
                by_cases hlt : k < mw.length
                · obtain ⟨ad, b, o, hA, had, hc⟩ := SlT.at1 (HW.out.below hbr) hlt
                  have hmem : mw[k] ∈ names d4.sure := by rw [← hmw.out]; exact List.getElem_mem hlt
                  have hxn : mw[k].length ≤ 24 := by
                    obtain ⟨p0, h0, h1⟩ := List.mem_map.1 hmem
                    rw [← h1]
                    exact HD6.out.nm.1 p0 h0
                  have hor : (gget mw[k] lt).isSome = true ∨ (gget mw[k] lw).isSome = true := by
                    rcases hgt : gget mw[k] lt with _ | u
                    · right
                      have h1 := HK.out _ hgt
                      obtain ⟨p0, h0, h2⟩ := List.mem_map.1 hmem
                      rw [← h1, ← h2, gget_of_mem HD6.out.ris (show (p0.1, p0.2) ∈ d4.sure from h0)]
                      rfl
                    · left; rfl
                  clear hmem
                  generalize mw[k] = x at *
                  subst hA
                  have hlk := (HT6.out.call hbr).1.look1 (T := 38) (E := 4) Tryd.underlying9 Tryd.underlying38 (zero_bool _) (k := x) (by unfold maxLen; omega)
                  have hlk2 := (HM6.out.call hbr).1.look (T := 32) (E := 9) Tryd.underlying9 Tryd.underlying32 (zero_str _) (k := x) (by unfold maxLen; omega)
                  generalize hga : gget x lw = ga at *
                  generalize hgb : gget x lt = gb at *
                  generalize hva : ((ga.map lS).getD (.string ⟨#[]⟩)) = va at *
                  have hi1 : (k : Int) < (mw.length : Int) := by omega
                  cases ga with
                  | some y =>
                    rw [show (some y : Option Bs).isSome = true from rfl] at hlk2
                    clear hor hva hlk
                    go_wp2_with fail
                    go_roundw
                    case rel => exact ⟨k + 1, hlt, by go_num, hbr⟩
                    case measure => simp [intOf]; omega
                  | none =>
                    rw [show (none : Option Bs).isSome = false from rfl] at hlk2
                    cases gb with
                    | none => rcases hor with h | h <;> cases h
                    | some u =>
                      rw [show ((some u : Option Unit).map lU).getD (.bool false) = .bool true from rfl] at hlk
                      clear hor hva
                      go_wp2_with fail
                      go_roundw
                      case rel => exact ⟨k + 1, hlt, by go_num, hbr⟩
                      case measure => simp [intOf]; omega
                · have hke : k = mw.length := by omega
                  have hD7 := HD6.out.below hbr
                  have HP := Lib.hid (Pending_any hD7)
                  rw [HZ2.out] at HP
                  have HB := Lib.hid (HF6.out.call hbr).1
                  clear hD7
                  have hnil : ([] : List (Chg Sv)).length = 0 := rfl
                  go_wp2_with fail
                  refine HP.out.mono ?_
                  rintro e wz ⟨rfl, rfl⟩
                  go_wp2_with fail
                  go_ret
                  exact ⟨rfl, HB.out⟩
            · intro x c kl yd yp w2 cnt2 hkey hlk hv hat hrg2 hcl hg2 hs2 hen
              obtain ⟨x', ex, rfl, hxl⟩ := Maps.keyOf_str Tryd.underlying9 hkey
              obtain rfl : x = x' := encStr_inj ex
              obtain ⟨tl, hms, hyd⟩ := datF_at_mem hat
              have hcs : c = lS tl := by
                unfold tok at hv
                injection hv with hv
                injection hv with hv _
                rw [hyd] at hv
                injection hv with hv
              subst hcs
              have hb2 : Below wh.heap.size wh w2 := ⟨hg2.os.trans hbw.os, hg2.tape.trans hbw.tape, hg2.output.trans hbw.output, Nat.le_trans hbw.size hg2.size, fun i hi => (hg2.block i (Nat.lt_of_lt_of_le hi hbw.size) (fun e => by injection e; omega)).trans (hbw.block i hi)⟩
              have hen' : (Instr.entry (.pointer (some ⟨wh.heap.size, 0, none⟩))).run Tryd.prog w2 = .ok (.tuple #[encStr x, .string ⟨tl.toArray⟩]) w2 := hen
              have hxn := HNm.out _ hms
              dsimp only at hxn
              have HRd := Lib.hid (Read_any (HD4.out.below hb2) x (by omega))
              have hgx := gget_of_mem HRl.out hms
              clear hs2 hen hat hyd hv hms hxl ex hkey hg2
              rcases hgt : gget x lt with _ | u
              · have h1 := HK.out x hgt
                rw [hgx] at h1
                obtain ⟨v, hv1, hv2⟩ := Option.map_eq_some_iff.1 h1
                have e0 : dRead d4 x = (some v, 0) := by rw [dRead_fre HZ3.out, HSh4.out, hv1]
                rw [e0] at HRd
                dsimp only at HRd
                rw [show errv 0 = Value.nilIface from rfl] at HRd
                have HE := Lib.hid hv2
                clear h1 hv1 hv2 e0 hgx
                go_wp2_with fail
                refine HRd.out.mono ?_
                rintro e w5 ⟨A5, c5, m5, rfl, hm5, ho5, hb5⟩
                obtain rfl : m5 = tl := hm5.out.trans HE.out
                have hb7 := bel_call hb2 hb5
                have hlk := (HT4.out.call hb7).1.look1 (T := 38) (E := 4) Tryd.underlying9 Tryd.underlying38 (zero_bool _) (k := x) (by unfold maxLen; omega)
                rw [hgt, show ((none : Option Unit).map lU).getD (.bool false) = .bool false from rfl] at hlk
                have v1 := conv_str (P := Tryd.prog) 33 9 5 Tryd.underlying33 Tryd.underlying5 Tryd.underlying9 (Own.sl ho5) rfl
                have hrg3 := hrg2.kept (grown_of_below hb5) (by simp) (by simp)
                have hbe : (m5 == m5) = true := by simp
                clear HRd hm5 ho5 hb5 hen' hrg2
                go_wp2_with fail
                go_roundw
                case rel => exact ⟨_, _, hrg3, hb7⟩
                case measure => rw [hrg3.left_eq, hrg.left_eq]; omega
              · generalize dRead d4 x = rr at *
                obtain ⟨r1, r2⟩ := rr
                dsimp only at HRd
                generalize errv r2 = ev at *
                go_wp2_with fail
                refine HRd.out.mono ?_
                rintro e w5 ⟨A5, c5, m5, rfl, hm5, ho5, hb5⟩
                have hb7 := bel_call hb2 hb5
                have hlk := (HT4.out.call hb7).1.look1 (T := 38) (E := 4) Tryd.underlying9 Tryd.underlying38 (zero_bool _) (k := x) (by unfold maxLen; omega)
                rw [hgt, show ((some u : Option Unit).map lU).getD (.bool false) = .bool true from rfl] at hlk
                have hrg3 := hrg2.kept (grown_of_below hb5) (by simp) (by simp)
                clear HRd hm5 ho5 hb5 hen' hrg2
                go_wp2_with fail
                go_roundw
                case rel => exact ⟨_, _, hrg3, hb7⟩
                case measure => rw [hrg3.left_eq, hrg.left_eq]; omega
set_option maxRecDepth 100000 in
set_option maxHeartbeats 1000000 in
theorem keeps_early {F : Option Addr} {cF : Nat} {fs : List DF} {A : Option Addr} {c : Nat} {s : List DA} {B : Option Addr} {kc : Nat} {ks : List Bool} (w : World) (h : SlDA w A c s) (hl : 10 < fs.length ∨ dLong s 30 = true ∨ 60 < ks.length) :
    Calls Tryd.prog 3 #[.slice F fs.length cF, .slice A s.length c, .slice B ks.length kc] w fun e w' => e = .returned (.bool true) ∧ Below w.heap.size w w' := by
  have H := Lib.hid h
  have HLg := fun W (hh : SlDA W A c s) => DLong_any W hh 30
  replace HLg := Lib.hid HLg
  clear h
  rcases Nat.lt_or_ge 10 fs.length with h10 | h10
  · have hi : (10 : Int) < (fs.length : Int) := by omega
    clear hl
    go_enter Tryd.func3, Tryd.ntmps3
    go_wp2_with fail
    refine (Alive_any _).mono ?_
    rintro e w1 ⟨rfl, hb1⟩
    go_wp2_with fail
    go_ret
    exact ⟨rfl, hb1⟩
  have hi : (fs.length : Int) ≤ 10 := by omega
  rcases hlg : dLong s 30 with _ | _
  · rw [hlg] at HLg
    have hn : (60 : Int) < (ks.length : Int) := by
      rcases hl with h | h | h
      · omega
      · rw [hlg] at h; cases h
      · omega
    clear hl hlg
    go_enter Tryd.func3, Tryd.ntmps3
    go_wp2_with fail
    refine (Alive_any _).mono ?_
    rintro e w1 ⟨rfl, hb1⟩
    go_wp2_with fail
    refine (HLg.out _ (H.out.below hb1)).mono ?_
    rintro e w2 ⟨rfl, hb2⟩
    have hb := bel_call hb1 hb2
    go_wp2_with fail
    go_ret
    exact ⟨rfl, hb⟩
  · rw [hlg] at HLg
    clear hl hlg
    go_enter Tryd.func3, Tryd.ntmps3
    go_wp2_with fail
    refine (Alive_any _).mono ?_
    rintro e w1 ⟨rfl, hb1⟩
    go_wp2_with fail
    refine (HLg.out _ (H.out.below hb1)).mono ?_
    rintro e w2 ⟨rfl, hb2⟩
    have hb := bel_call hb1 hb2
    go_wp2_with fail
    go_ret
    exact ⟨rfl, hb⟩
theorem keeps_all {F : Option Addr} {cF : Nat} {fs : List DF} {A : Option Addr} {c : Nat} {s : List DA} {B : Option Addr} {kc : Nat} {ks : List Bool} (w : World) (hf : SlDF w F cF fs) (h : SlDA w A c s) (hk : SlZ w B kc ks) :
    Calls Tryd.prog 3 #[.slice F fs.length cF, .slice A s.length c, .slice B ks.length kc] w fun e w' => e = .returned (.bool true) ∧ Below w.heap.size w w' := by
  rcases Nat.lt_or_ge 10 fs.length with h10 | h10
  · exact keeps_early w h (.inl h10)
  rcases hlg : dLong s 30 with _ | _
  · rcases Nat.lt_or_ge 60 ks.length with h0 | h0
    · exact keeps_early w h (.inr (.inr h0))
    · exact keeps_walk w hf h hk h10 hlg h0
  · exact keeps_early w h (.inr (.inl hlg))
end Go.Proofs.YtabkeaammiellaaDoor
