/- WHAT IT HOLDS: the law StoreSweeps, walked. -/
import Derived.Test.YtabkeaammiellaaDoorStoreWholeG21
import Derived.Carry
namespace Go.Proofs.YtabkeaammiellaaDoor
open Go.RowKit Go.Maps Go.Sort
attribute [local go_sem ↓] Go.wp_at_zero Go.wp_at_succ

theorem errv_iface2 {n : Nat} (h : n ≠ 0) : ∃ v, errv n = .iface 64 v := errv_ifc h
theorem zero_str2 (w : World) : (zeroValue 9).run Tryd.prog w = .ok (.string ⟨#[]⟩) w := by kernel_rfl
theorem dRead_fre2 {d : Dk Sv} (h : Fre d) (n : Bs) : dRead d n = match gget n d.shown with | none => (none, 4) | some v => (some v, 0) := by
  unfold dRead
  rw [h.2, if_neg (by simp)]
  cases gget n d.shown <;> rfl
theorem head_ix {x : Bs} (hn : named x = true) : ∃ c : UInt8, isBegun x = (126 == c) ∧ ∀ W : World, (Instr.index 9 (.string ⟨x.toArray⟩) (.int .i64 0)).run Tryd.prog W = .ok (.int .u8 (c.toNat : Int)) W := by
  cases x with
  | nil => cases hn
  | cons c r => exact ⟨c, begun_head, fun W => ix_str (c :: r) (k := 0) (by simp) W⟩
set_option maxRecDepth 100000 in
set_option maxHeartbeats 1000000 in
theorem sweeps_walk {F : Option Addr} {cF : Nat} {fs : List DF} (w : World) (hf : SlDF w F cF fs) (hfl : fs.length ≤ 20) :
    Calls Tryd.prog 6 #[.slice F fs.length cF] w fun e w' => e = .returned (.bool true) ∧ Below w.heap.size w w' := by
  have HFs := Lib.hid hf
  have hfI : (fs.length : Int) ≤ 20 := by omega
  have hmm := @run_makeMap Tryd.prog
  clear hf
  go_enter Tryd.func6, Tryd.ntmps6
  go_wp2_with fail
  refine (AliveS_any _).mono ?_
  rintro e w2 ⟨rfl, hb⟩
  go_wp2_with fail
  refine (New_any 16777216 w2).mono ?_
  rintro e w3 (⟨h, -⟩ | ⟨-, q, rfl, hD, hM, hb3⟩)
  · omega
  have hF3 : Fro w w3 q := ⟨bel_call hb hb3, fun i hi => Nat.le_trans hb.size (hM i hi)⟩
  have hmp := Mp.new (f := lS) (w0 := w) w3 hD hF3.1.size
  have HF3 := Lib.hid (hF3.call (below_new w3 (.map #[] 0)))
  have HR3 := Lib.hid (show Fre (dk0 16777216) from ⟨rfl, rfl⟩)
  have HE3 := Lib.hid (show (dk0 16777216).sure = [] ∧ (dk0 16777216).pend.length ≤ 0 from ⟨rfl, Nat.le_refl _⟩)
  have HG3 := Lib.hid (show gmap Sv.l (dk0 16777216).shown = [] from rfl)
  have HD3 := Lib.hid (hD.below (below_new w3 (.map #[] 0)))
  have HM3 := Lib.hid hmp
  clear hb hM hb3 hD hF3 hmp
  rw [show errv 0 = Value.nilIface from rfl]
  generalize dk0 16777216 = d at *
  generalize hgg : q.g = g at *
  have hqg := Lib.hid hgg
  clear hgg
  go_wp2_with fail
  generalize w3.heap.size = bw at *
  go_loopw [30] (fun x wr => ∃ (k : Nat) (q : Fp) (d : Dk Sv) (lw : List (Bs × Bs)), k ≤ fs.length ∧ x = .int .i64 k ∧ Hid (q.g = g) ∧ Dsk wr q d ∧ Fro w wr q ∧ Hid (Fre d) ∧ Hid (d.sure = []) ∧ d.pend.length ≤ k ∧ Mp lS w q wr bw lw ∧ Hid (gmap Sv.l d.shown = lw) ∧ Hid (∀ p ∈ lw, named p.1 = true)) (fun x w => fs.length - (intOf x).toNat)
  case atStart => exact ⟨0, q, d, [], Nat.zero_le _, rfl, hqg, HD3.out, HF3.out, HR3, HE3.out.1, HE3.out.2, HM3.out, HG3, Lib.hid (fun p hp => by simp at hp)⟩
  case round =>
    clear HD3 HF3 HR3 HE3 HM3 HG3 hqg
    clear d q
    obtain ⟨k, q, d, lw, hk, rfl, hqg, hD, hF, hfre, hsu, hpl, hMp, hgm, hnm⟩ := hrel
    obtain rfl := hqg.out
    replace hfre := hfre.out
    clear hqg
    by_cases hlt : k < fs.length
    · have hS := HFs.out.below hF.1
      obtain ⟨ad, b, o, hA, had, hcc⟩ := Sl.atS (f := dfc) (size := 2) (fun _ => rfl) (by omega) hS.1 hlt
      have hc0 := hcc 0 _ rfl
      have hc1 := hcc 1 _ rfl
      rw [Nat.add_zero] at hc0
      have hok := hS.2 _ (List.getElem_mem hlt)
      have hok0 := (HFs.out.2 _ (List.getElem_mem hlt)).1
      clear hcc hS
      generalize fs[k] = x at *
      obtain ⟨nm, A1, c1, l1⟩ := x
      obtain ⟨q1, q2⟩ := hok
      have q7 : l1.length ≤ maxLen := Nat.le_trans q1.2.1 q1.2.2.1
      dsimp only at *
      rw [hA] at *
      clear hA
      obtain ⟨p1, p2, p3, -⟩ := hD.fits (k := k) (by rw [hsu.out]; simpa using hpl) (by omega)
      have hfu : -1 ≤ d.fuse ∧ d.fuse ≤ 9223372036854775807 := by rw [hfre.1]; decide
      have hDn := hD.below (below_new wr (.cells #[.string ⟨nm.toArray⟩, .slice A1 l1.length c1] 35))
      have hFn := hF.call (below_new wr (.cells #[.string ⟨nm.toArray⟩, .slice A1 l1.length c1] 35))
      have hMn := hMp.call (below_new wr (.cells #[.string ⟨nm.toArray⟩, .slice A1 l1.length c1] 35))
      have q1n := Sl.below q1 (below_new wr (.cells #[.string ⟨nm.toArray⟩, .slice A1 l1.length c1] 35))
      have hne : l1 ≠ [] → ∀ ad, A1 = some ad → ad.block ≠ q.g := fun hne ad hA => by
        have h1 := SlB.ltB hok0 hne hA
        have h2 := hF.2 q.g (.inl rfl)
        omega
      have hBx := Blk.new wr 35 #[.string ⟨nm.toArray⟩, .slice A1 l1.length c1]
      have hnM : ¬ q.M wr.heap.size := fun h => by have := hD.ltM h; omega
      rcases Nat.lt_or_ge 300 l1.length with h3 | h3
      · have h3I : (300 : Int) < (l1.length : Int) := by omega
        have HB := Lib.hid hFn.1
        clear hDn hMn q1n hne hBx hnM hD hMp hF
        go_wp2_with fail
        go_ret
        exact ⟨rfl, HB.out⟩
      have h3I : (l1.length : Int) ≤ 300 := by omega
      have HWr := Lib.hid (Write_any hDn hfu p1 p2 p3 nm q2 l1 q1n hne (by omega))
      have HF := Lib.hid hFn
      have HM := Lib.hid hMn
      have HBx := Lib.hid hBx
      have HOk := Lib.hid hok0
      have hlw : lw.length ≤ 100000000 := by rw [← hgm.out, gmap_len]; exact p2
      clear hDn hFn hMn q1n hne hfu p1 p2 p3 hD hMp hF hBx hok0
      go_wp2_with fail
      refine HWr.out.mono ?_
      clear HWr
      rintro e w5 ⟨A5, c5, rfl, q5, hg5, hD5, hF5, hM5, -⟩
      have hM6 := HM.out.act hF5 hM5
      have hF6 := HF.out.frd hF5 hM5
      have hB6 : Blk w5 wr.heap.size 35 #[.string ⟨nm.toArray⟩, .slice A1 l1.length c1] := (hF5.block _ HBx.out.lt hnM).trans HBx.out
      have hx0 := hB6.cell 0
      have hx1 := hB6.cell 1
      have v1 := conv_str (P := Tryd.prog) 33 9 5 Tryd.underlying33 Tryd.underlying5 Tryd.underlying9 (Sl.below HOk.out hF6.1) rfl
      rcases dWrite_fre (len := svl) hfre nm ⟨A5, c5, l1⟩ with ⟨e0, e1⟩ | ⟨e0, e1⟩
      · have HNn := Lib.hid (show ∀ p ∈ gput nm l1 lw, named p.1 = true from fun p hp => by
          rcases gmem_put.1 hp with rfl | ⟨hp, -⟩
          · exact dWrite_named hfre e0
          · exact hnm.out p hp)
        rw [e0, show errv 0 = Value.nilIface from rfl]
        rw [e1] at hD5
        have HR5 := Lib.hid (show Fre (dAdd d ⟨0, nm, [], ⟨A5, c5, l1⟩⟩) from hfre)
        have HS5 := Lib.hid (show (dAdd d ⟨0, nm, [], ⟨A5, c5, l1⟩⟩).sure = [] from hsu.out)
        have HP5 := Lib.hid (show (dAdd d ⟨0, nm, [], ⟨A5, c5, l1⟩⟩).pend.length ≤ k + 1 from by unfold dAdd; simp; omega)
        have HG5 := Lib.hid (show gmap Sv.l (dAdd d ⟨0, nm, [], ⟨A5, c5, l1⟩⟩).shown = gput nm l1 lw from by rw [shown_write, ← gput_map, hgm.out])
        generalize dAdd d ⟨0, nm, [], ⟨A5, c5, l1⟩⟩ = d5 at *
        have HD5 := Lib.hid hD5
        have HM6 := Lib.hid hM6
        have HF6 := Lib.hid hF6
        have hO6 := hM6.1
        have Hg5 := Lib.hid hg5
        clear e0 e1 hD5 hF5 hM5 hM6 hF6 hB6 hg5 HF HM hfre hsu hgm
        go_wp2_with (at_mapUpdate; go_must (refine wpl_putF (f := lS) rfl _ _ _ rfl Tryd.underlying9 Tryd.underlying32 bw lw rfl hO6 (by unfold maxLen; omega) nm q2 rfl l1 rfl ?_); intro w6 hO7 hg6)
        have hD6 := HD5.out.grownMap HM6.out hg6
        have hF7 := HF6.out.grown hg6 HM6.out.2.2
        go_roundw
        case rel => exact ⟨k + 1, q5, d5, _, hlt, by go_num, Hg5, hD6, hF7, HR5, HS5, HP5.out, ⟨hO7, HM6.out.2⟩, HG5, HNn⟩
        case measure => simp [intOf]; omega
      · obtain ⟨ev, hev⟩ := errv_iface2 e0
        rw [hev]
        rw [e1] at hD5
        have HD5 := Lib.hid hD5
        have HM6 := Lib.hid hM6
        have HF6 := Lib.hid hF6
        have Hg5 := Lib.hid hg5
        have HR5 := Lib.hid hfre
        clear e0 e1 hev hD5 hF5 hM5 hM6 hF6 hB6 hg5 HF HM hfre
        go_wp2_with fail
        go_roundw
        case rel => exact ⟨k + 1, q5, d, lw, hlt, by go_num, Hg5, HD5.out, HF6.out, HR5, hsu, by omega, HM6.out, hgm, hnm⟩
        case measure => simp [intOf]; omega
    · have hke : k = fs.length := by omega
      subst hke
      have hsz : d.sure.length + d.pend.length ≤ 20 := by rw [hsu.out]; simp; omega
      have hnd : ∀ x ∈ names d.shown, named x = true := fun x hx => by
        obtain ⟨p, hp, rfl⟩ := List.mem_map.1 hx
        exact hnm.out (p.1, p.2.l) (by rw [← hgm.out]; exact List.mem_map.2 ⟨p, hp, rfl⟩)
      obtain ⟨d2, hO2, hfr2, hg2, hl2⟩ := open_ok (z := Sv.nil) hfre hD.ris hnd
      have HOp := Lib.hid (SOpen_any hD (show Fok d from ⟨by rw [hfre.1]; decide, by rw [hfre.1]; decide⟩) (by omega))
      have hRs : Ris d.shown := hD.ris.fdos d.pend
      have HRl := Lib.hid (show Ris lw from by rw [← hgm.out]; exact hRs.map _)
      have HGx := Lib.hid (show ∀ x, gget x lw = (gget x d.shown).map Sv.l from fun x => by rw [← hgm.out, gget_map])
      have HG2 := Lib.hid hg2
      have HR2 := Lib.hid hfr2
      have HF := Lib.hid hF
      have HM := Lib.hid hMp
      have hs2 : d2.sure.length + d2.pend.length ≤ 40 := by omega
      have hlw : lw.length ≤ 20 := by
        rw [← hgm.out, gmap_len]
        have := flen_dos d.sure d.pend
        unfold Dk.shown
        omega
      clear hlt hD hF hMp hg2 hl2 hRs hnd hfr2 hgm hsu
      go_wp2_with fail
      refine HOp.out.mono ?_
      rintro e w4 hOO
      obtain ⟨q4, gs, rfl, hg4, hF4, hM4, hS4, -⟩ := hOO.ok hO2
      have hF5 := HF.out.frd hF4 hM4
      have hM5 := HM.out.act hF4 hM4
      obtain ⟨p1, p2, p3, -⟩ := hS4.dsk.fits hs2 (by omega)
      have HL := DList_any hS4.dsk p2
      rw [HR2.out.2, if_neg (by simp), show errv 0 = Value.nilIface from rfl] at HL
      replace HL := Lib.hid HL
      have HD5 := Lib.hid hS4.dsk
      have HF5 := Lib.hid hF5
      have HM5 := Lib.hid hM5
      rw [← hg4]
      clear HOp hOO hF4 hM4 hS4 hF5 hM5 HF HM hg4 hO2
      go_wp2_with fail
      refine HL.out.mono ?_
      clear HL
      rintro e w5 ⟨Aw, cw, mw, rfl, hmw, hTw, hb5⟩
      have HMw := Lib.hid (show mw = names d2.shown from by rw [hmw.out]; rfl)
      have hna : ∀ k, Aw.map (·.block) = some k → some k ≠ some bw := fun k hk e => by
        have h1 := (Own.lt hTw k hk).1
        have h2 := HM5.out.1.lt
        injection e with e
        omega
      have HNa := Lib.hid hna
      have hTs : TxH q4 w5 Aw cw mw := TxH.of HD5.out hTw
      have HD6 := Lib.hid (HD5.out.below hb5)
      have HF6 := Lib.hid (HF5.out.call hb5)
      have HM6 := Lib.hid (HM5.out.call hb5)
      have hR2 : Ris d2.shown := HD6.out.ris.fdos d2.pend
      have HMem := Lib.hid (show ∀ x, x ∈ mw ↔ (gget x d2.shown).isSome = true from fun x => by rw [HMw.out]; exact mem_names hR2)
      have HNd := Lib.hid (show mw.Nodup from by rw [HMw.out]; exact names_nodup hR2)
      have hmwl : mw.length ≤ 40 := by
        rw [HMw.out]
        unfold names
        rw [List.length_map]
        have := flen_dos d2.sure d2.pend
        unfold Dk.shown
        omega
      have hTw2 := Lib.hid hTs
      clear hTw hTs hna hmw hb5 HD5 HF5 HM5 hR2
      generalize hgq : q4.g = g4 at *
      go_wp2_with fail
      go_loopw [68] (fun x wr => ∃ (i : Nat) (lk : List (Bs × Bs)), i ≤ mw.length ∧ x = .int .i64 i ∧ Dsk wr q4 d2 ∧ Fro w wr q4 ∧ TxH q4 wr Aw cw mw ∧ Mp lS w q4 wr bw lk ∧ Hid (∀ x, x ∉ mw.take i → gget x lk = gget x lw) ∧ Hid (∀ p ∈ lk, p ∈ lw ∧ p.1 ∉ mw.take i)) (fun x w => mw.length - (intOf x).toNat)
      case atStart => exact ⟨0, lw, Nat.zero_le _, rfl, HD6.out, HF6.out, hTw2.out, HM6.out, Lib.hid (fun x _ => rfl), Lib.hid (fun p hp => ⟨hp, by simp⟩)⟩
      case round =>
        clear HD6 HF6 hTw2 HM6
        obtain ⟨i, lk, hi, rfl, hD, hF, hT, hMp, hk1, hk2⟩ := hrel
        by_cases hlt : i < mw.length
        · obtain ⟨ad, b, o, hA, had, hc⟩ := SlT.at1 hT.1 hlt
          have hmem : (gget mw[i] d2.shown).isSome = true := (HMem.out _).1 (List.getElem_mem hlt)
          have hnot : mw[i] ∉ mw.take i := fun h => by
            obtain ⟨j, hj, e⟩ := List.mem_take_iff_getElem.1 h
            have := (List.getElem_inj HNd.out).1 e
            omega
          obtain ⟨v, hv⟩ := Option.isSome_iff_exists.1 hmem
          have h2 := HG2.out mw[i]
          rw [hv] at h2
          have hbg : isBegun mw[i] = false := by
            cases hb : isBegun mw[i] with
            | false => rfl
            | true => rw [hb, if_pos rfl] at h2; cases h2
          rw [hbg, if_neg (by simp)] at h2
          have h4 : gget mw[i] lw = some v.l := by rw [HGx.out, ← h2]; rfl
          have h5 : gget mw[i] lk = some v.l := by rw [hk1.out _ hnot, h4]
          have hn := hnm.out _ (gget_mem h4)
          have hk1' := Lib.hid (show ∀ x, x ∉ mw.take (i + 1) → gget x (gdel mw[i] lk) = gget x lw from fun x hx => by
            rw [List.take_succ_eq_append_getElem hlt, List.mem_append] at hx
            have e1 : x ≠ mw[i] := fun e => hx (.inr (by rw [e]; simp))
            rw [gget_del_other e1]
            exact hk1.out x (fun h => hx (.inl h)))
          have hk2' := Lib.hid (show ∀ p ∈ gdel mw[i] lk, p ∈ lw ∧ p.1 ∉ mw.take (i + 1) from fun p hp => by
            obtain ⟨h1, h2⟩ := gmem_del.1 hp
            refine ⟨(hk2.out p h1).1, fun h => ?_⟩
            rw [List.take_succ_eq_append_getElem hlt, List.mem_append] at h
            rcases h with h | h
            · exact (hk2.out p h1).2 h
            · exact h2 (by simpa using h))
          clear hmem hnot h2 h4
          dsimp only at hn
          have hxl := named_len hn
          obtain ⟨c, hcb, hix⟩ := head_ix hn
          rw [hbg] at hcb
          have hcI : ¬ (c.toNat : Int) = 126 := fun e => by
            have : c = 126 := UInt8.toNat_inj.1 (by show c.toNat = 126; omega)
            subst this
            cases hcb
          generalize (c.toNat : Int) = ci at *
          clear hn hbg hcb c
          generalize mw[i] = x at *
          subst hA
          have hD5 := Lib.hid hD
          have e0 : dRead d2 x = (some v, 0) := by rw [dRead_fre2 HR2.out, hv]
          have HRd := Read_any hD x (by omega)
          rw [e0] at HRd
          dsimp only at HRd
          rw [show errv 0 = Value.nilIface from rfl, hgq] at HRd
          replace HRd := Lib.hid HRd
          have hE := Lib.hid (show (Option.map Sv.l (some v)).getD [] = v.l from rfl)
          generalize (Option.map Sv.l (some v)).getD [] = tl at *
          have h5 : gget x lk = some tl := by rw [h5, hE.out]
          have HM := Lib.hid hMp
          have HF := Lib.hid hF
          have HT := Lib.hid hT
          have hi1 : (i : Int) < (mw.length : Int) := by omega
          have hci : (ci == 126) = false := by simp [hcI]
          clear hD hMp hF hT hv e0 hE
          go_wp2_with fail
          refine HRd.out.mono ?_
          clear HRd
          rintro e w6 ⟨A5, c5, m5, rfl, hm5, ho5, hb5⟩
          obtain rfl := hm5.out
          have hM6 := HM.out.call hb5
          have HD6 := Lib.hid (hD5.out.below hb5)
          have HF6 := Lib.hid (HF.out.call hb5)
          have HT6 := Lib.hid (HT.out.call hb5)
          have HM6 := Lib.hid hM6
          have hlk := hM6.1.look1 (T := 32) (E := 9) Tryd.underlying9 Tryd.underlying32 (zero_str2 _) (k := x) (by unfold maxLen; omega)
          rw [h5, show ((some m5 : Option Bs).map lS).getD (.string ⟨#[]⟩) = .string ⟨m5.toArray⟩ from rfl] at hlk
          have v1 := conv_str (P := Tryd.prog) 33 9 5 Tryd.underlying33 Tryd.underlying5 Tryd.underlying9 (Own.sl ho5) rfl
          have hbe : (m5 == m5) = true := by simp
          have hO6 := hM6.1
          clear hm5 ho5 hM6 HM HF HT hD5 hb5
          go_wp2_with (at_delete; refine wpl_dropF (f := lS) rfl _ _ rfl Tryd.underlying9 Tryd.underlying32 bw lk rfl hO6 x (by unfold maxLen; omega) rfl ?_; intro w7 hO7 hg7)
          have hD7 := HD6.out.grownMap HM6.out hg7
          have hF7 := HF6.out.grown hg7 HM6.out.2.2
          have hT7 : TxH q4 w7 (some ad) cw mw := ⟨Sl.sameH HT6.out.1 (fun k hk => hg7.block k (HT6.out.2 k hk).1 (HNa.out k hk)), fun k hk => ⟨Nat.lt_of_lt_of_le (HT6.out.2 k hk).1 hg7.size, (HT6.out.2 k hk).2⟩⟩
          go_roundw
          case rel => exact ⟨i + 1, gdel x lk, hlt, by go_num, hD7, hF7, hT7, ⟨hO7, HM6.out.2⟩, hk1', hk2'⟩
          case measure => simp [intOf]; omega
        · have hke : i = mw.length := by omega
          subst hke
          have hall := Lib.hid (show ∀ p ∈ lk, p ∈ lw ∧ isBegun p.1 = true from fun p hp => by
            obtain ⟨h1, h2⟩ := hk2.out p hp
            refine ⟨h1, ?_⟩
            cases hb : isBegun p.1 with
            | true => rfl
            | false =>
              refine absurd ((HMem.out p.1).2 ?_) (by rw [List.take_length] at h2; exact h2)
              have h3 := HG2.out p.1
              rw [hb, if_neg (by simp)] at h3
              have h4 := HGx.out p.1
              rw [gget_of_mem HRl.out (show (p.1, p.2) ∈ lw from h1)] at h4
              rw [h3]
              cases hg : gget p.1 d.shown with
              | none => rw [hg] at h4; cases h4
              | some v => rfl)
          rename World => wh
          have h0 : wh.ownsMap Tryd.prog 9 tok bw lk.length (datF lS lk) := hMp.1
          have hbl := hMp.1.lt
          have HB := Lib.hid hF.1
          clear hD hF hT hMp hk1 hk2 hlt
          go_wp2_with (at_range; refine wpList_range_own _ rfl _ 32 rfl 9 9 (string_keyed Tryd.underlying9) Tryd.underlying32 _ bw lk.length _ rfl h0 ?_; intro w0 hrg0 hg0 hs0)
          go_frame
          clear h0
          go_loopw [] (fun wr => ∃ (left : Lit → Bool) (cnt : Nat), wr.ranges Tryd.prog 9 tok bw wh.heap.size lk.length (datF lS lk) left cnt ∧ Below wh.heap.size wh wr) (fun wr => wr.rangeLeft bw wh.heap.size)
          case atStart => exact ⟨_, _, hrg0, ⟨hg0.os, hg0.tape, hg0.output, hg0.size, fun i hi => hg0.block i hi (by simp)⟩⟩
          case round =>
            obtain ⟨left, cnt, hrg, hbw⟩ := hrel
            go_wp2_with (at_next; refine wpList_next_ranges _ rfl _ rfl 9 (string_keyed Tryd.underlying9) tok encStr id (fun key kl hk => by obtain ⟨x, hx, _⟩ := Maps.keyOf_str Tryd.underlying9 hk; exact ⟨x, hx⟩) (fun v _ _ => ⟨v, rfl⟩) bw wh.heap.size lk.length _ _ _ rfl hrg ?_ ?_)
            · intro hc0 hl0
              have HB2 := Lib.hid (bel_call HB.out hbw)
              clear hrg hc0 hl0 hrg0 hg0 hs0
              go_wp2_with fail
              go_ret
              exact ⟨rfl, HB2.out⟩
            · intro x c kl yd yp w2 cnt2 hkey hlk hv hat hrg2 hcl hg2 hs2 hen
              obtain ⟨x', ex, rfl, hxl⟩ := Maps.keyOf_str Tryd.underlying9 hkey
              obtain rfl : x = x' := encStr_inj ex
              obtain ⟨tl, hms, hyd⟩ := datF_at_mem hat
              have hb2 : Below wh.heap.size wh w2 := ⟨hg2.os.trans hbw.os, hg2.tape.trans hbw.tape, hg2.output.trans hbw.output, Nat.le_trans hbw.size hg2.size, fun i hi => (hg2.block i (Nat.lt_of_lt_of_le hi hbw.size) (fun e => by injection e; omega)).trans (hbw.block i hi)⟩
              have hen' : (Instr.entry (.pointer (some ⟨wh.heap.size, 0, none⟩))).run Tryd.prog w2 = .ok (.tuple #[encStr x, c]) w2 := hen
              obtain ⟨h1, h2⟩ := hall.out _ hms
              dsimp only at h1 h2
              obtain ⟨cb, hcb, hix⟩ := head_ix (hnm.out _ h1)
              have hcI : (cb.toNat : Int) = 126 := by
                dsimp only at hcb
                rw [h2] at hcb
                have : 126 = cb := by simpa using hcb.symm
                rw [← this]; rfl
              rw [hcI] at hix
              dsimp only at hix
              clear hs2 hen hat hyd hv hms hxl ex hkey hg2 hcb hcI h1 h2
              go_wp2_with fail
              go_roundw
              case rel => exact ⟨_, _, hrg2, hb2⟩
              case measure => rw [hrg2.left_eq, hrg.left_eq]; omega
set_option maxRecDepth 100000 in
set_option maxHeartbeats 1000000 in
theorem sweeps_early {F : Option Addr} {cF : Nat} {fs : List DF} (w : World) (hl : 20 < fs.length) :
    Calls Tryd.prog 6 #[.slice F fs.length cF] w fun e w' => e = .returned (.bool true) ∧ Below w.heap.size w w' := by
  have hi : (20 : Int) < (fs.length : Int) := by omega
  go_enter Tryd.func6, Tryd.ntmps6
  go_wp2_with fail
  refine (AliveS_any _).mono ?_
  rintro e w1 ⟨rfl, hb1⟩
  go_wp2_with fail
  go_ret
  exact ⟨rfl, hb1⟩
theorem sweeps_all {F : Option Addr} {cF : Nat} {fs : List DF} (w : World) (hf : SlDF w F cF fs) :
    Calls Tryd.prog 6 #[.slice F fs.length cF] w fun e w' => e = .returned (.bool true) ∧ Below w.heap.size w w' := by
  rcases Nat.lt_or_ge 20 fs.length with h | h
  · exact sweeps_early w h
  · exact sweeps_walk w hf h
end Go.Proofs.YtabkeaammiellaaDoor
