/- WHAT IT HOLDS: the law StoreWhole, walked. -/
import Derived.Test.YtabkeaammiellaaDoorStoreWholeG22
import Derived.Test.YtabkeaammiellaaDoorStoreWholeG23
import Derived.Test.YtabkeaammiellaaDoorStoreWholeG24
import Derived.Test.YtabkeaammiellaaDoorStoreWholeG25
import Derived.Test.YtabkeaammiellaaDoorStoreWholeG20
import Derived.Carry
import Derived.Deep.CutBlock
import Derived.Deep.DeepCutAuto
namespace Go.Proofs.YtabkeaammiellaaDoor
open Go.RowKit Go.Maps Go.Sort
attribute [local go_sem ↓] Go.wp_at_zero Go.wp_at_succ

theorem datF_size {β : Type} (f : β → Value) (l : List (Bs × β)) : Maps.size (datF f l) = l.length := by unfold datF; rw [Maps.size_eq, List.length_map]
theorem rem200 (r : Int) : ∃ m : Int, (IntKind.u64.wrap r).tmod 200 = m ∧ 0 ≤ m ∧ m < 200 ∧ IntKind.u64.wrap m = m ∧ IntKind.i64.wrap m = m := by
  have h : IntKind.u64.wrap r = r % 18446744073709551616 := rfl
  refine ⟨_, rfl, ?_⟩
  rw [h, Int.tmod_eq_emod_of_nonneg (by omega)]
  have h1 : 0 ≤ r % 18446744073709551616 % 200 := by omega
  have h2 : r % 18446744073709551616 % 200 < 200 := by omega
  generalize r % 18446744073709551616 % 200 = m at *
  refine ⟨h1, h2, ?_, ?_⟩
  · show m % 18446744073709551616 = m
    omega
  · rw [IntKind.wrap_i64]
    omega
theorem Fok.andThen {r : Dk Sv × Nat} {f : Dk Sv → Dk Sv × Nat} (h : Fok r.1) (hf : ∀ d, Fok d → Fok (f d).1) : Fok (Go.Proofs.YtabkeaammiellaaDoor.andThen r f).1 := by
  unfold Go.Proofs.YtabkeaammiellaaDoor.andThen
  split
  · exact h
  · exact hf _ h
theorem Fok.put {d : Dk Sv} (h : Fok d) (n : Bs) (v : Sv) : Fok (sPut svl Sv.nil d n v).1 := by
  unfold sPut
  split
  · exact h
  · exact Fok.andThen (h.opd (Opd.write svl d _ v)) fun d h => Fok.andThen (h.opd (Opd.sync d)) fun d h => Fok.andThen (h.opd (Opd.rename Sv.nil d _ _)) fun d h => h.opd (Opd.sync d)
theorem Fok.del {d : Dk Sv} (h : Fok d) (n : Bs) : Fok (sDelete Sv.nil d n).1 := by
  unfold sDelete
  split
  · exact h
  · exact Fok.andThen (h.opd (Opd.remove Sv.nil d _)) fun d h => h.opd (Opd.sync d)
theorem rem4 (k : Int) : ∃ j : Int, (IntKind.u64.wrap k).tmod 4 = j ∧ 0 ≤ j ∧ j < 4 ∧ IntKind.u64.wrap j = j := by
  have h : IntKind.u64.wrap k = k % 18446744073709551616 := rfl
  refine ⟨_, rfl, ?_⟩
  rw [h, Int.tmod_eq_emod_of_nonneg (by omega)]
  have h1 : 0 ≤ k % 18446744073709551616 % 4 := by omega
  have h2 : k % 18446744073709551616 % 4 < 4 := by omega
  generalize k % 18446744073709551616 % 4 = m at *
  refine ⟨h1, h2, ?_⟩
  show m % 18446744073709551616 = m
  omega
/-- between two acts -/
structure Whl (w wr : World) (q : Fp) (d : Dk Sv) (gs bw : Nat) (i : Nat) : Prop where
  st : StM wr gs q d
  fro : Fro w wr q
  up : d.down = false
  pe : d.pend = []
  fok : Fok d
  sna : Sna d.sure
  len : d.sure.length ≤ i
  mp : Mp lS w q wr bw (gmap Sv.l d.sure)
  ne : gs ≠ bw
set_option maxRecDepth 100000 in
set_option maxHeartbeats 1000000 in
theorem whole_walk {A : Option Addr} {c : Nat} {s : List SA} {r : Int} {B : Option Addr} {kc : Nat} {ks : List Bool} (w : World) (h : SlSA w A c s) (_hr : I64 r) (hk : SlZ w B kc ks) (hl : sLong s 20 = false) (hkl : ks.length ≤ 60) :
    Calls Tryd.prog 7 #[.slice A s.length c, .int .i64 r, .slice B ks.length kc] w fun e w' => e = .returned (.bool true) ∧ Below w.heap.size w w' := by
  have H := Lib.hid h
  have HKs := Lib.hid hk
  have HSh := Lib.hid (sLong_short hl)
  have hs20 : s.length ≤ 20 := by have := (sLong_short hl).1; omega
  have HLg := fun W (hh : SlSA W A c s) => SLong_any W hh 20
  rw [hl] at HLg
  replace HLg := Lib.hid HLg
  have hkI : (ks.length : Int) ≤ 60 := by omega
  have hmm := @run_makeMap Tryd.prog
  obtain ⟨m, hm1, hm2, hm3, hm4, hm5⟩ := rem200 r
  clear h hl hk
  go_enter Tryd.func7, Tryd.ntmps7
  go_wp2_with fail
  refine (AliveS_any _).mono ?_
  rintro e w1 ⟨rfl, hb1⟩
  go_wp2_with fail
  refine (HLg.out _ (H.out.below hb1)).mono ?_
  rintro e w2 ⟨rfl, hb2⟩
  have hb := bel_call hb1 hb2
  clear hb1 hb2 HLg
  go_wp2_with fail
  refine (New_any 16777216 w2).mono ?_
  rintro e w3 (⟨h, -⟩ | ⟨-, q, rfl, hD, hM, hb3⟩)
  · omega
  have HF3 := Lib.hid (show Fro w w3 q from ⟨bel_call hb hb3, fun i hi => Nat.le_trans hb.size (hM i hi)⟩)
  obtain ⟨d2, hO2, hfr2, hpe2, hsu2⟩ := open_up (z := Sv.nil) (room := 16777216) (S1 := []) (S := []) Ris.nil Ris.nil (fun _ _ => rfl) (fun x hx => by simp [names] at hx) (fun _ _ => rfl)
  have HOp := Lib.hid (SOpen_any hD (show Fok (dk0 16777216) from ⟨by decide, by decide⟩) (by decide))
  rw [show errv 0 = Value.nilIface from rfl]
  have HO2 := Lib.hid (show sOpen Sv.nil (dk0 16777216) = (d2, 0) from hO2)
  have HR2 := Lib.hid hfr2
  have HP2 := Lib.hid hpe2
  clear hb hM hb3 hD hO2 hfr2 hpe2
  go_wp2_with fail
  refine HOp.out.mono ?_
  rintro e w4 hOO
  obtain ⟨q4, gs, rfl, hg4, hF4, hM4, hS4, -⟩ := hOO.ok HO2.out
  have HS4 := Lib.hid hsu2
  have HSu := Lib.hid (hsu2 hS4.dsk.ris)
  have HF4 := Lib.hid (HF3.out.frd hF4 hM4)
  rw [← hg4]
  have HFu := Lib.hid (Fuse_any hS4.dsk m)
  have HFz := Lib.hid (show dFuse d2 m = ({ d2 with fuse := m }, 0) from if_neg (by omega))
  have HSt := Lib.hid hS4
  clear HOp hOO hF4 hM4 hS4 hg4 HO2 HF3 HS4 hsu2
  generalize hgq : q4.g = g4 at *
  have HGq := Lib.hid hgq
  clear hgq
  go_wp2_with fail
  refine HFu.out.mono ?_
  rintro e w5 ⟨rfl, hD5, hW5⟩
  rw [HFz.out] at hD5 ⊢
  rw [← HGq.out] at hW5
  have hFr := Frd.of_wr (q := q4) (.inl rfl) hW5
  have hS5 := HSt.out.act (q' := q4) rfl hD5 hFr (fun i hi => .inl hi)
  have hF5 := HF4.out.frd hFr (fun i hi => .inl hi)
  have hmp := Mp.new (f := lS) (w0 := w) w5 hD5 hF5.1.size
  have hgb : gs ≠ w5.heap.size := fun e => by have := hS5.blk.lt; omega
  have HW := Lib.hid (show Whl w (w5.alloc (.map #[] 0)) q4 { d2 with fuse := m } gs w5.heap.size 0 from ⟨hS5.below (below_new _ _), hF5.call (below_new _ _), HR2.out.2, HP2.out, ⟨by show -1 ≤ m; omega, by show m ≤ _; omega⟩, by rw [show ({ d2 with fuse := m } : Dk Sv).sure = [] from HSu.out]; exact fun _ _ => rfl, by rw [show ({ d2 with fuse := m } : Dk Sv).sure = [] from HSu.out]; exact Nat.le_refl _, by rw [show ({ d2 with fuse := m } : Dk Sv).sure = [] from HSu.out]; exact hmp, hgb⟩)
  rw [show errv 0 = Value.nilIface from rfl]
  clear HFu HFz hD5 hW5 hFr hS5 hF5 hmp hgb HSt HF4 HR2 HP2 HSu
  generalize ({ d2 with fuse := m } : Dk Sv) = d at *
  clear d2
  go_wp2_with fail
  generalize w5.heap.size = bw at *
  go_loopw [69, 9] (fun x y wr => ∃ (i : Nat) (q : Fp) (d : Dk Sv) (gs : Nat), i ≤ s.length ∧ x = .int .i64 i ∧ y = .pointer (some ⟨gs, 0, none⟩) ∧ Hid (q.g = g4) ∧ Hid (Whl w wr q d gs bw i)) (fun x _ w => s.length - (intOf x).toNat)
  case atStart => exact ⟨0, q4, d, gs, Nat.zero_le _, rfl, rfl, HGq, HW⟩
  case round =>
    clear HW HGq
    clear d q4
    obtain ⟨i, q, d, gs, hi, rfl, rfl, hqg, hW⟩ := hrel
    obtain rfl := hqg.out
    clear hqg
    by_cases hlt : i < s.length
    · obtain ⟨hst, hfro, hup, hpe, hfok, hsna, hlen, hmp, hne⟩ := hW.out
      clear hW
      have hS := H.out.below hfro.1
      obtain ⟨ad, b, o, hA, had, hcc⟩ := Sl.atS (f := sac) (size := 10) (fun _ => rfl) (by omega) hS.1 hlt
      have hc0 := hcc 0 _ rfl
      have hc1 := hcc 1 _ rfl
      have hc2 := hcc 2 _ rfl
      have hc3 := hcc 3 _ rfl
      have hc4 := hcc 4 _ rfl
      have hc5 := hcc 5 _ rfl
      have hc6 := hcc 6 _ rfl
      have hc7 := hcc 7 _ rfl
      have hc8 := hcc 8 _ rfl
      have hc9 := hcc 9 _ rfl
      rw [Nat.add_zero] at hc0
      have hok := hS.2 _ (List.getElem_mem hlt)
      have hok0 := (H.out.2 _ (List.getElem_mem hlt)).1
      have hsh := SA.short (HSh.out.2 _ (List.getElem_mem hlt))
      clear hcc hS
      generalize s[i] = x at *
      obtain ⟨kd, nm, A1, c1, l1, dx, B1, kc1, ks1⟩ := x
      obtain ⟨q1, -⟩ := hok
      obtain ⟨s1, s2, s3, -, -⟩ := hsh
      dsimp only at *
      rw [hA] at *
      clear hA
      generalize hob : Obj.cells #[.int .i64 kd, .string ⟨nm.toArray⟩, .slice A1 l1.length c1, .int .i64 dx.k, .string ⟨dx.n.toArray⟩, .string ⟨dx.t.toArray⟩, .slice dx.A dx.l.length dx.c, .int .i64 dx.f, .slice dx.B dx.ks.length dx.kc, .slice B1 ks1.length kc1] 75 = ob
      have hStn := hst.below (below_new wr ob)
      have hFn := hfro.call (below_new wr ob)
      have hMn := hmp.call (below_new wr ob)
      have q1n := Sl.below q1 (below_new wr ob)
      subst hob
      have hneA : l1 ≠ [] → ∀ ad, A1 = some ad → ad.block ≠ q.g := fun hne ad hA => by
        have h1 := SlB.ltB hok0 hne hA
        have h2 := hfro.2 q.g (.inl rfl)
        omega
      have hris := hst.dsk.ris
      have HBx := Lib.hid (Blk.new wr 75 #[.int .i64 kd, .string ⟨nm.toArray⟩, .slice A1 l1.length c1, .int .i64 dx.k, .string ⟨dx.n.toArray⟩, .string ⟨dx.t.toArray⟩, .slice dx.A dx.l.length dx.c, .int .i64 dx.f, .slice dx.B dx.ks.length dx.kc, .slice B1 ks1.length kc1])
      have hnM : ¬ q.M wr.heap.size := fun h => by have := hst.dsk.ltM h; omega
      have hbw : wr.heap.size ≠ bw := fun e => by have := hmp.1.lt; omega
      have hlk := hMn.1.look (T := 32) (E := 9) Tryd.underlying9 Tryd.underlying32 (zero_str2 _) (k := nm) (by unfold maxLen; omega)
      have v1 := conv_str (P := Tryd.prog) 33 9 5 Tryd.underlying33 Tryd.underlying5 Tryd.underlying9 q1n rfl
      obtain ⟨old, hold, HOld⟩ : ∃ old : Bs, ((gget nm (gmap Sv.l d.sure)).map lS).getD (.string ⟨#[]⟩) = .string ⟨old.toArray⟩ ∧ Hid (old = ((gget nm d.sure).map Sv.l).getD []) := by
        rw [gget_map]
        cases gget nm d.sure with
        | none => exact ⟨[], rfl, Lib.hid rfl⟩
        | some v => exact ⟨v.l, rfl, Lib.hid rfl⟩
      have hthe : (gget nm (gmap Sv.l d.sure)).isSome = (gget nm d.sure).isSome := by rw [gget_map]; cases gget nm d.sure <;> rfl
      rw [hold, hthe] at hlk
      clear hold hthe
      generalize hth : (gget nm d.sure).isSome = there at *
      have HTh := Lib.hid hth
      obtain ⟨j, hj, hj0, hj4, hwj⟩ := rem4 kd
      have HPut := Lib.hid (SPut_any hStn hfok (by rw [hpe]; simp; omega) nm (by omega) l1 q1n hneA (by omega))
      have HDel := Lib.hid (SDelete_any hStn hfok (by rw [hpe]; simp; omega) nm (by omega))
      have HPO := Lib.hid (fun v => put_out svl Sv.nil hup hpe hris hsna nm v)
      have HDO := Lib.hid (del_out Sv.nil hup hpe hris hsna nm)
      have HFP := Lib.hid (fun v => Fok.put hfok nm v)
      have HFD := Lib.hid (Fok.del hfok nm)
      have HSt := Lib.hid hStn
      have HF := Lib.hid hFn
      have HM := Lib.hid hMn
      have HR := Lib.hid hris
      have HSn := Lib.hid hsna
      have hbz : bw < wr.heap.size := hmp.1.lt
      clear hst hfro hup hpe hfok hsna hmp hStn hFn hMn q1n hneA q1 hok0 hris hth
      by_cases hj3 : j = 3
      · subst hj3
        clear HPut HPO HFP
        go_wp2_with fail
        refine HDel.out.mono ?_
        clear HDel
        rintro e w5 ⟨rfl, q5, hg5, hD5, hF5, hM5, -⟩
        have hOut := HDO.out
        have hfok5 := HFD.out
        have HTn := Lib.hid (show gget nm (gdel nm d.sure) = none from gget_del_same _ _)
        have HTo := Lib.hid (show ∀ x, x ≠ nm → gget x d.sure = gget x (gdel nm d.sure) from fun x hx => (gget_del_other hx _).symm)
        have HTs := Lib.hid (show snamed nm = true → Sna (gdel nm d.sure) from fun h => HSn.out.del _)
        have HTr := Lib.hid (HR.out.del nm)
        have HTl := Lib.hid (Nat.le_trans (glen_del nm d.sure) (Nat.le_succ _))
        clear HDO HFD
        generalize gdel nm d.sure = T at *
        generalize sDelete Sv.nil d nm = rr at *
        have hS5 := HSt.out.act hg5 hD5 hF5 hM5
        have hFr5 := HF.out.frd hF5 hM5
        have hMp5 := HM.out.act hF5 hM5
        have hB5 := (hF5.block _ HBx.out.lt hnM).trans HBx.out
        have HB5 := Lib.hid (show Blk w5 wr.heap.size 75 _ from hB5)
        have a1 := HB5.out.cell 1
        have hn5 : ¬ q5.M wr.heap.size := fun h => by
          rcases hM5 _ h with h1 | h1
          · exact hnM h1
          · simp at h1; omega
        clear HSt HF HM HBx hD5 hF5 hM5 hB5
        cases hOut with
        | done d5 hd hp hs hn =>
          dsimp only at hS5 hMp5 hfok5 ⊢
          rw [show errv 0 = Value.nilIface from rfl]
          have HS := Lib.hid hS5
          have HMp := Lib.hid hMp5
          have HFr := Lib.hid hFr5
          have Hg := Lib.hid hg5
          have hO5 := hMp5.1
          have hlw : (gmap Sv.l d.sure).length ≤ 100 := by rw [gmap_len]; omega
          have HD := Lib.hid (show d5.down = false ∧ d5.pend = [] ∧ d5.sure = T ∧ Sna T ∧ Fok d5 from ⟨hd, hp, hs, HTs.out hn, hfok5⟩)
          clear hS5 hMp5 hFr5 hg5 hd hp hs hn hfok5 hlk v1
          go_wp2_with (first | (at_mapUpdate; go_must (refine wpl_putF (f := lS) rfl _ _ _ rfl Tryd.underlying9 Tryd.underlying32 bw (gmap Sv.l d.sure) rfl hO5 (by unfold maxLen; omega) nm (by unfold maxLen; omega) rfl [] rfl ?_); intro w6 hO6 hg6; have b2 := (show Blk w6 wr.heap.size 75 _ from (hg6.block _ HB5.out.lt (fun e => hbw (by injection e))).trans HB5.out).cell 1) | (at_delete; refine wpl_dropF (f := lS) rfl _ _ rfl Tryd.underlying9 Tryd.underlying32 bw (gput nm [] (gmap Sv.l d.sure)) rfl hO6 nm (by unfold maxLen; omega) rfl ?_; intro w11 hO11 hg11))
          go_roundw
          case rel => exact ⟨i + 1, q5, d5, gs, hlt, by go_num, rfl, Hg, Lib.hid ⟨(HS.out.grownMap HMp.out hne hg6).grownMap (f := lS) ⟨hO6, HMp.out.2⟩ hne hg11, (HFr.out.grown hg6 HMp.out.2.2).grown hg11 HMp.out.2.2, HD.out.1, HD.out.2.1, HD.out.2.2.2.2, by rw [HD.out.2.2.1]; exact HD.out.2.2.2.1, by rw [HD.out.2.2.1]; have := HTl.out; omega, ⟨by rw [HD.out.2.2.1, ← was_del HR.out HTr.out HTo.out [] HTn.out]; exact hO11, HMp.out.2⟩, hne⟩⟩
          case measure => simp [intOf]; omega
        | left d5 hd hp hs k5 h0 h1 =>
          dsimp only at hS5 hMp5 hfok5 ⊢
          obtain ⟨ev, hev⟩ := errv_iface2 h0
          have HIs := isn_any k5 14 w5
          rw [hev, show ((k5 : Int) == 14) = false from by simp; omega] at HIs
          replace HIs := Lib.hid HIs
          rw [hev]
          have HW := Lib.hid (show Whl w w5 q5 d5 gs bw (i + 1) from ⟨hS5, hFr5, hd, hp, hfok5, by rw [hs]; exact HSn.out, by rw [hs]; omega, by rw [hs]; exact hMp5, hne⟩)
          have Hg := Lib.hid hg5
          clear hS5 hMp5 hFr5 hg5 hd hp hs hfok5 hlk v1 hev h0 h1
          go_wp2_with fail
          refine HIs.out.mono ?_
          rintro e w6 ⟨rfl, rfl⟩
          go_wp2_with fail
          go_roundw
          case rel => exact ⟨i + 1, q5, d5, gs, hlt, by go_num, rfl, Hg, HW⟩
          case measure => simp [intOf]; omega
        | down d5 hd hn hl5 hk5 =>
          dsimp only at hS5 hMp5 hfok5 ⊢
          have HIs := isn_any 14 14 w5
          rw [show errv 14 = Value.iface 64 (.int .i64 14) from rfl, show (((14 : Nat) : Int) == 14) = true from rfl] at HIs
          replace HIs := Lib.hid HIs
          rw [show errv 14 = Value.iface 64 (.int .i64 14) from rfl]
          have hkp := Sl.below HKs.out hFr5.1
          have hcl := cutlen ks d5
          have hcl2 := cut_len ks d5
          have hcl3 := start_len (dCut ks d5)
          have HC := Cut_any hS5.dsk (by omega) (by omega) ks hkp (fun hne ad hA => by
            have h1 := SlZ.ltB HKs.out hne hA
            have h2 := hFr5.2 q5.bs (.inr (.inl rfl))
            omega)
          rw [hg5] at HC
          replace HC := Lib.hid HC
          obtain ⟨d2, hO2, hfr2, hpe2, hsu2⟩ := hk5 ks
          have HO2 := Lib.hid hO2
          have HR2 := Lib.hid hfr2
          have HP2 := Lib.hid hpe2
          have HS2 := Lib.hid hsu2
          have HNm := Lib.hid hn
          have HF := Lib.hid hFr5
          have HM := Lib.hid hMp5
          have Hg := Lib.hid hg5
          clear hS5 hMp5 hFr5 hg5 hd hn hk5 hkp hO2 hfr2 hpe2 hsu2 hlk v1 hfok5
          go_wp2_with fail
          refine HIs.out.mono ?_
          rintro e w6 ⟨rfl, rfl⟩
          go_wp2_with fail
          refine HC.out.mono ?_
          rintro e w6 ⟨rfl, q6, hg6, hD6, hF6, hM6, -⟩
          have hFr6 := HF.out.frd hF6 hM6
          have hMp6 := HM.out.act hF6 hM6
          have hB6 : Blk w6 wr.heap.size 75 _ := (hF6.block _ HB5.out.lt hn5).trans HB5.out
          have hn6 : ¬ q6.M wr.heap.size := fun h => by
            rcases hM6 _ h with h1 | h1
            · exact hn5 h1
            · have := HB5.out.lt; omega
          have HSt := StartDown_any hD6 (Nat.zero_le _) (by omega) rfl
          rw [hg6.trans Hg.out] at HSt
          replace HSt := Lib.hid HSt
          have Hg6 := Lib.hid (hg6.trans Hg.out)
          clear HF HM HC hF6 hM6 hD6 hg6 a1 HIs
          go_wp2_with fail
          refine HSt.out.mono ?_
          rintro e w7 ⟨rfl, q7, hg7, hD7, hF7, hM7, -⟩
          have hFr7 := hFr6.frd hF7 hM7
          have hMp7 := hMp6.act hF7 hM7
          have hB7 : Blk w7 wr.heap.size 75 _ := (hF7.block _ hB6.lt hn6).trans hB6
          have hn7 : ¬ q7.M wr.heap.size := fun h => by
            rcases hM7 _ h with h1 | h1
            · exact hn6 h1
            · have := hB6.lt; omega
          have HOp := SOpen_any hD7 (start_fok _) (by omega)
          rw [hg7.trans Hg6.out] at HOp
          replace HOp := Lib.hid HOp
          have Hg7 := Lib.hid (hg7.trans Hg6.out)
          clear HSt hF7 hM7 hD7 hg7 hFr6 hMp6 hB6
          go_wp2_with fail
          refine HOp.out.mono ?_
          rintro e w8 hOO
          obtain ⟨q8, g8, rfl, hg8, hF8, hM8, hS8, hgs8⟩ := hOO.ok HO2.out
          have HF8 := Lib.hid (hFr7.frd hF8 hM8)
          have HM8 := Lib.hid (hMp7.act hF8 hM8)
          have HB8 := Lib.hid (show Blk w8 wr.heap.size 75 _ from (hF8.block _ hB7.lt hn7).trans hB7)
          have Hg8 := Lib.hid (hg8.trans Hg7.out)
          have hne8 : g8 ≠ bw := fun e => by have := hMp7.1.lt; omega
          have hsu := HS2.out hS8.dsk.ris
          have HS8 := Lib.hid hS8
          have HG := SGet_any hS8 nm (by omega)
          have hsg : sGet d2 nm = match gget nm d2.sure with | none => (none, 4) | some v => (some v, 0) := by
            unfold sGet
            rw [if_neg (by simp [HNm.out]), dRead_fre2 HR2.out, shown_nil HP2.out]
            cases gget nm d2.sure <;> rfl
          rw [hsg] at HG
          have c1 := HB8.out.cell 1
          clear HOp hOO hFr7 hMp7 hF8 hM8 hS8 hg8 hB7 hn7 hn6 hn5 HS2 HO2 hsg hgs8
          rcases hsu with hsu | hsu
          · rw [hsu] at HG
            have HSn2 := Lib.hid (show Sna d2.sure from by rw [hsu]; exact HSn.out)
            have HLn2 := Lib.hid (show d2.sure.length ≤ i + 1 from by rw [hsu]; omega)
            cases hg : gget nm d.sure with
            | some v =>
              rw [hg] at HG
              dsimp only at HG
              rw [show errv 0 = Value.nilIface from rfl] at HG
              have hov : old = v.l := by rw [HOld.out, hg]; rfl
              obtain rfl : true = there := by rw [← HTh.out, hg]; rfl
              have HEq := Lib.hid (show gput nm old (gmap Sv.l d.sure) = gmap Sv.l d2.sure from by rw [hsu]; exact was_put HR.out HR.out (fun _ _ => rfl) (by rw [hg, hov]; rfl))
              have hE := Lib.hid (show (Option.map Sv.l (some v)).getD [] = old from hov.symm)
              generalize (Option.map Sv.l (some v)).getD [] = tl at *
              clear hg hov hsu
              replace HG := Lib.hid HG
              go_wp2_with fail
              refine HG.out.mono ?_
              clear HG
              rintro e w9 ⟨A9, c9, m9, rfl, hm9, ho9, hb9⟩
              have v9 := conv_str (P := Tryd.prog) 33 9 5 Tryd.underlying33 Tryd.underlying5 Tryd.underlying9 (Own.sl ho9) rfl
              have HM9 := Lib.hid (HM8.out.call hb9)
              have HF9 := Lib.hid (HF8.out.call hb9)
              have HS9 := Lib.hid (HS8.out.below hb9)
              have HB9 := Lib.hid (HB8.out.below hb9)
              have b1 := HB9.out.cell 1
              have hO9 := HM9.out.1
              have hlw : (gmap Sv.l d.sure).length ≤ 100 := by rw [gmap_len]; omega
              clear ho9 hb9 HM8 HF8 HS8 HB8 c1
              obtain rfl : m9 = old := hm9.out.trans hE.out
              have hbe : (m9 == m9) = true := by simp
              clear hm9 hE
              go_wp2_with (at_mapUpdate; go_must (refine wpl_putF (f := lS) rfl _ _ _ rfl Tryd.underlying9 Tryd.underlying32 bw (gmap Sv.l d.sure) rfl hO9 (by unfold maxLen; omega) nm (by unfold maxLen; omega) rfl m9 rfl ?_); intro w10 hO10 hg10)
              go_roundw
              case rel => exact ⟨i + 1, q8, d2, g8, hlt, by go_num, rfl, Hg8, Lib.hid ⟨HS9.out.grownMap HM9.out hne8 hg10, HF9.out.grown hg10 HM9.out.2.2, HR2.out.2, HP2.out, ⟨by rw [HR2.out.1]; decide, by rw [HR2.out.1]; decide⟩, HSn2.out, HLn2.out, ⟨by rw [← HEq.out]; exact hO10, HM9.out.2⟩, hne8⟩⟩
              case measure => simp [intOf]; omega
            | none =>
              rw [hg] at HG
              dsimp only at HG
              rw [show errv 4 = Value.iface 64 (.int .i64 4) from rfl] at HG
              have hov : old = [] := by rw [HOld.out, hg]; rfl
              obtain rfl : false = there := by rw [← HTh.out, hg]; rfl
              have HEq := Lib.hid (show gdel nm (gput nm old (gmap Sv.l d.sure)) = gmap Sv.l d2.sure from by rw [hsu]; exact was_del HR.out HR.out (fun _ _ => rfl) old hg)
              have hE := Lib.hid (show (Option.map Sv.l (none : Option Sv)).getD [] = old from hov.symm)
              generalize (Option.map Sv.l (none : Option Sv)).getD [] = tl at *
              clear hg hsu hov
              replace HG := Lib.hid HG
              go_wp2_with fail
              refine HG.out.mono ?_
              clear HG
              rintro e w9 ⟨A9, c9, m9, rfl, hm9, ho9, hb9⟩
              have v9 := conv_str (P := Tryd.prog) 33 9 5 Tryd.underlying33 Tryd.underlying5 Tryd.underlying9 (Own.sl ho9) rfl
              have HM9 := Lib.hid (HM8.out.call hb9)
              have HF9 := Lib.hid (HF8.out.call hb9)
              have HS9 := Lib.hid (HS8.out.below hb9)
              have HB9 := Lib.hid (HB8.out.below hb9)
              have b1 := HB9.out.cell 1
              have hO9 := HM9.out.1
              have hlw : (gmap Sv.l d.sure).length ≤ 100 := by rw [gmap_len]; omega
              clear ho9 hb9 HM8 HF8 HS8 HB8 c1
              obtain rfl : m9 = old := hm9.out.trans hE.out
              have hbe : (m9 == m9) = true := by simp
              clear hm9 hE
              go_wp2_with (first | (at_mapUpdate; go_must (refine wpl_putF (f := lS) rfl _ _ _ rfl Tryd.underlying9 Tryd.underlying32 bw (gmap Sv.l d.sure) rfl hO9 (by unfold maxLen; omega) nm (by unfold maxLen; omega) rfl m9 rfl ?_); intro w10 hO10 hg10; have b2 := (show Blk w10 wr.heap.size 75 _ from (hg10.block _ HB9.out.lt (fun e => hbw (by injection e))).trans HB9.out).cell 1) | (at_delete; refine wpl_dropF (f := lS) rfl _ _ rfl Tryd.underlying9 Tryd.underlying32 bw (gput nm m9 (gmap Sv.l d.sure)) rfl hO10 nm (by unfold maxLen; omega) rfl ?_; intro w11 hO11 hg11))
              go_roundw
              case rel => exact ⟨i + 1, q8, d2, g8, hlt, by go_num, rfl, Hg8, Lib.hid ⟨(HS9.out.grownMap HM9.out hne8 hg10).grownMap (f := lS) ⟨hO10, HM9.out.2⟩ hne8 hg11, (HF9.out.grown hg10 HM9.out.2.2).grown hg11 HM9.out.2.2, HR2.out.2, HP2.out, ⟨by rw [HR2.out.1]; decide, by rw [HR2.out.1]; decide⟩, HSn2.out, HLn2.out, ⟨by rw [← HEq.out]; exact hO11, HM9.out.2⟩, hne8⟩⟩
              case measure => simp [intOf]; omega
          · rw [hsu, HTn.out] at HG
            dsimp only at HG
            rw [show errv 4 = Value.iface 64 (.int .i64 4) from rfl] at HG
            have HSn2 := Lib.hid (show Sna d2.sure from by rw [hsu]; exact HTs.out HNm.out)
            have HLn2 := Lib.hid (show d2.sure.length ≤ i + 1 from by rw [hsu]; have := HTl.out; omega)
            have HEq := Lib.hid (show ∀ b, gdel nm (gput nm b (gmap Sv.l d.sure)) = gmap Sv.l d2.sure from fun b => by rw [hsu]; exact was_del HR.out HTr.out HTo.out b HTn.out)
            have hE := Lib.hid (show (Option.map Sv.l (none : Option Sv)).getD [] = [] from rfl)
            generalize (Option.map Sv.l (none : Option Sv)).getD [] = tl at *
            clear hsu HTn HTo HTs HTr HTl
            replace HG := Lib.hid HG
            go_wp2_with fail
            refine HG.out.mono ?_
            clear HG
            rintro e w9 ⟨A9, c9, m9, rfl, hm9, ho9, hb9⟩
            have v9 := conv_str (P := Tryd.prog) 33 9 5 Tryd.underlying33 Tryd.underlying5 Tryd.underlying9 (Own.sl ho9) rfl
            have HM9 := Lib.hid (HM8.out.call hb9)
            have HF9 := Lib.hid (HF8.out.call hb9)
            have HS9 := Lib.hid (HS8.out.below hb9)
            have HB9 := Lib.hid (HB8.out.below hb9)
            have b1 := HB9.out.cell 1
            have hO9 := HM9.out.1
            have hlw : (gmap Sv.l d.sure).length ≤ 100 := by rw [gmap_len]; omega
            clear ho9 hb9 HM8 HF8 HS8 HB8 c1
            have HEq := Lib.hid (HEq.out [])
            have hme : m9 = [] := hm9.out.trans hE.out
            have hbs : (m9 == ([] : Bs)) = true := by rw [hme]; rfl
            have hsz : m9.toArray = #[] := by rw [hme]
            clear hm9 hE hme
            cases there with
            | true =>
              go_wp2_with (first | (at_mapUpdate; go_must (refine wpl_putF (f := lS) rfl _ _ _ rfl Tryd.underlying9 Tryd.underlying32 bw (gmap Sv.l d.sure) rfl hO9 (by unfold maxLen; omega) nm (by unfold maxLen; omega) rfl [] rfl ?_); intro w10 hO10 hg10; have b2 := (show Blk w10 wr.heap.size 75 _ from (hg10.block _ HB9.out.lt (fun e => hbw (by injection e))).trans HB9.out).cell 1) | (at_delete; refine wpl_dropF (f := lS) rfl _ _ rfl Tryd.underlying9 Tryd.underlying32 bw (gput nm [] (gmap Sv.l d.sure)) rfl hO10 nm (by unfold maxLen; omega) rfl ?_; intro w11 hO11 hg11))
              go_roundw
              case rel => exact ⟨i + 1, q8, d2, g8, hlt, by go_num, rfl, Hg8, Lib.hid ⟨(HS9.out.grownMap HM9.out hne8 hg10).grownMap (f := lS) ⟨hO10, HM9.out.2⟩ hne8 hg11, (HF9.out.grown hg10 HM9.out.2.2).grown hg11 HM9.out.2.2, HR2.out.2, HP2.out, ⟨by rw [HR2.out.1]; decide, by rw [HR2.out.1]; decide⟩, HSn2.out, HLn2.out, ⟨by rw [← HEq.out]; exact hO11, HM9.out.2⟩, hne8⟩⟩
              case measure => simp [intOf]; omega
            | false =>
              have hso : old.toArray = #[] := by
                rw [HOld.out]
                cases hg : gget nm d.sure with
                | none => rfl
                | some v => have h1 := HTh.out; rw [hg] at h1; cases h1
              go_wp2_with (first | (at_mapUpdate; go_must (refine wpl_putF (f := lS) rfl _ _ _ rfl Tryd.underlying9 Tryd.underlying32 bw (gmap Sv.l d.sure) rfl hO9 (by unfold maxLen; omega) nm (by unfold maxLen; omega) rfl [] rfl ?_); intro w10 hO10 hg10; have b2 := (show Blk w10 wr.heap.size 75 _ from (hg10.block _ HB9.out.lt (fun e => hbw (by injection e))).trans HB9.out).cell 1) | (at_delete; refine wpl_dropF (f := lS) rfl _ _ rfl Tryd.underlying9 Tryd.underlying32 bw (gput nm [] (gmap Sv.l d.sure)) rfl hO10 nm (by unfold maxLen; omega) rfl ?_; intro w11 hO11 hg11))
              go_roundw
              case rel => exact ⟨i + 1, q8, d2, g8, hlt, by go_num, rfl, Hg8, Lib.hid ⟨(HS9.out.grownMap HM9.out hne8 hg10).grownMap (f := lS) ⟨hO10, HM9.out.2⟩ hne8 hg11, (HF9.out.grown hg10 HM9.out.2.2).grown hg11 HM9.out.2.2, HR2.out.2, HP2.out, ⟨by rw [HR2.out.1]; decide, by rw [HR2.out.1]; decide⟩, HSn2.out, HLn2.out, ⟨by rw [← HEq.out]; exact hO11, HM9.out.2⟩, hne8⟩⟩
              case measure => simp [intOf]; omega
      · have hj3b : (j == 3) = false := by simp [hj3]
        clear HDel HDO HFD
        go_wp2_with fail
        refine HPut.out.mono ?_
        clear HPut
        rintro e w5 ⟨A5, c5, rfl, q5, hg5, hD5, hF5, hM5, -⟩
        have hOut := HPO.out ⟨A5, c5, l1⟩
        have hfok5 := HFP.out ⟨A5, c5, l1⟩
        have HTn := Lib.hid (show gget nm (gput nm (⟨A5, c5, l1⟩ : Sv) d.sure) = some ⟨A5, c5, l1⟩ from gget_put_same _ _ _)
        have HTo := Lib.hid (show ∀ x, x ≠ nm → gget x d.sure = gget x (gput nm (⟨A5, c5, l1⟩ : Sv) d.sure) from fun x hx => (gget_put_other _ hx _).symm)
        have HTs := Lib.hid (show snamed nm = true → Sna (gput nm (⟨A5, c5, l1⟩ : Sv) d.sure) from fun h => HSn.out.put h _)
        have HTr := Lib.hid (HR.out.put nm (⟨A5, c5, l1⟩ : Sv))
        have HTl := Lib.hid (glen_put nm (⟨A5, c5, l1⟩ : Sv) d.sure)
        clear HPO HFP
        generalize gput nm (⟨A5, c5, l1⟩ : Sv) d.sure = T at *
        generalize sPut svl Sv.nil d nm ⟨A5, c5, l1⟩ = rr at *
        have hS5 := HSt.out.act hg5 hD5 hF5 hM5
        have hFr5 := HF.out.frd hF5 hM5
        have hMp5 := HM.out.act hF5 hM5
        have hB5 := (hF5.block _ HBx.out.lt hnM).trans HBx.out
        have HB5 := Lib.hid (show Blk w5 wr.heap.size 75 _ from hB5)
        have a1 := HB5.out.cell 1
        have hn5 : ¬ q5.M wr.heap.size := fun h => by
          rcases hM5 _ h with h1 | h1
          · exact hnM h1
          · simp at h1; omega
        clear HSt HF HM HBx hD5 hF5 hM5 hB5
        cases hOut with
        | done d5 hd hp hs hn =>
          dsimp only at hS5 hMp5 hfok5 ⊢
          rw [show errv 0 = Value.nilIface from rfl]
          have HS := Lib.hid hS5
          have HMp := Lib.hid hMp5
          have HFr := Lib.hid hFr5
          have Hg := Lib.hid hg5
          have hO5 := hMp5.1
          have hlw : (gmap Sv.l d.sure).length ≤ 100 := by rw [gmap_len]; omega
          have HD := Lib.hid (show d5.down = false ∧ d5.pend = [] ∧ d5.sure = T ∧ Sna T ∧ Fok d5 from ⟨hd, hp, hs, HTs.out hn, hfok5⟩)
          clear hS5 hMp5 hFr5 hg5 hd hp hs hn hfok5 hlk v1
          go_wp2_with (at_mapUpdate; go_must (refine wpl_putF (f := lS) rfl _ _ _ rfl Tryd.underlying9 Tryd.underlying32 bw (gmap Sv.l d.sure) rfl hO5 (by unfold maxLen; omega) nm (by unfold maxLen; omega) rfl l1 rfl ?_); intro w6 hO6 hg6)
          go_roundw
          case rel => exact ⟨i + 1, q5, d5, gs, hlt, by go_num, rfl, Hg, Lib.hid ⟨HS.out.grownMap HMp.out hne hg6, HFr.out.grown hg6 HMp.out.2.2, HD.out.1, HD.out.2.1, HD.out.2.2.2.2, by rw [HD.out.2.2.1]; exact HD.out.2.2.2.1, by rw [HD.out.2.2.1]; have := HTl.out; omega, ⟨by rw [HD.out.2.2.1, ← was_put HR.out HTr.out HTo.out (b := l1) (by rw [HTn.out]; rfl)]; exact hO6, HMp.out.2⟩, hne⟩⟩
          case measure => simp [intOf]; omega
        | left d5 hd hp hs k5 h0 h1 =>
          dsimp only at hS5 hMp5 hfok5 ⊢
          obtain ⟨ev, hev⟩ := errv_iface2 h0
          have HIs := isn_any k5 14 w5
          rw [hev, show ((k5 : Int) == 14) = false from by simp; omega] at HIs
          replace HIs := Lib.hid HIs
          rw [hev]
          have HW := Lib.hid (show Whl w w5 q5 d5 gs bw (i + 1) from ⟨hS5, hFr5, hd, hp, hfok5, by rw [hs]; exact HSn.out, by rw [hs]; omega, by rw [hs]; exact hMp5, hne⟩)
          have Hg := Lib.hid hg5
          clear hS5 hMp5 hFr5 hg5 hd hp hs hfok5 hlk v1 hev h0 h1
          go_wp2_with fail
          refine HIs.out.mono ?_
          rintro e w6 ⟨rfl, rfl⟩
          go_wp2_with fail
          go_roundw
          case rel => exact ⟨i + 1, q5, d5, gs, hlt, by go_num, rfl, Hg, HW⟩
          case measure => simp [intOf]; omega
        | down d5 hd hn hl5 hk5 =>
          dsimp only at hS5 hMp5 hfok5 ⊢
          have HIs := isn_any 14 14 w5
          rw [show errv 14 = Value.iface 64 (.int .i64 14) from rfl, show (((14 : Nat) : Int) == 14) = true from rfl] at HIs
          replace HIs := Lib.hid HIs
          rw [show errv 14 = Value.iface 64 (.int .i64 14) from rfl]
          have hkp := Sl.below HKs.out hFr5.1
          have hcl := cutlen ks d5
          have hcl2 := cut_len ks d5
          have hcl3 := start_len (dCut ks d5)
          have HC := Cut_any hS5.dsk (by omega) (by omega) ks hkp (fun hne ad hA => by
            have h1 := SlZ.ltB HKs.out hne hA
            have h2 := hFr5.2 q5.bs (.inr (.inl rfl))
            omega)
          rw [hg5] at HC
          replace HC := Lib.hid HC
          obtain ⟨d2, hO2, hfr2, hpe2, hsu2⟩ := hk5 ks
          have HO2 := Lib.hid hO2
          have HR2 := Lib.hid hfr2
          have HP2 := Lib.hid hpe2
          have HS2 := Lib.hid hsu2
          have HNm := Lib.hid hn
          have HF := Lib.hid hFr5
          have HM := Lib.hid hMp5
          have Hg := Lib.hid hg5
          clear hS5 hMp5 hFr5 hg5 hd hn hk5 hkp hO2 hfr2 hpe2 hsu2 hlk v1 hfok5
          go_wp2_with fail
          refine HIs.out.mono ?_
          rintro e w6 ⟨rfl, rfl⟩
          go_wp2_with fail
          refine HC.out.mono ?_
          rintro e w6 ⟨rfl, q6, hg6, hD6, hF6, hM6, -⟩
          have hFr6 := HF.out.frd hF6 hM6
          have hMp6 := HM.out.act hF6 hM6
          have hB6 : Blk w6 wr.heap.size 75 _ := (hF6.block _ HB5.out.lt hn5).trans HB5.out
          have hn6 : ¬ q6.M wr.heap.size := fun h => by
            rcases hM6 _ h with h1 | h1
            · exact hn5 h1
            · have := HB5.out.lt; omega
          have HSt := StartDown_any hD6 (Nat.zero_le _) (by omega) rfl
          rw [hg6.trans Hg.out] at HSt
          replace HSt := Lib.hid HSt
          have Hg6 := Lib.hid (hg6.trans Hg.out)
          clear HF HM HC hF6 hM6 hD6 hg6 a1 HIs
          go_wp2_with fail
          refine HSt.out.mono ?_
          rintro e w7 ⟨rfl, q7, hg7, hD7, hF7, hM7, -⟩
          have hFr7 := hFr6.frd hF7 hM7
          have hMp7 := hMp6.act hF7 hM7
          have hB7 : Blk w7 wr.heap.size 75 _ := (hF7.block _ hB6.lt hn6).trans hB6
          have hn7 : ¬ q7.M wr.heap.size := fun h => by
            rcases hM7 _ h with h1 | h1
            · exact hn6 h1
            · have := hB6.lt; omega
          have HOp := SOpen_any hD7 (start_fok _) (by omega)
          rw [hg7.trans Hg6.out] at HOp
          replace HOp := Lib.hid HOp
          have Hg7 := Lib.hid (hg7.trans Hg6.out)
          clear HSt hF7 hM7 hD7 hg7 hFr6 hMp6 hB6
          go_wp2_with fail
          refine HOp.out.mono ?_
          rintro e w8 hOO
          obtain ⟨q8, g8, rfl, hg8, hF8, hM8, hS8, hgs8⟩ := hOO.ok HO2.out
          have HF8 := Lib.hid (hFr7.frd hF8 hM8)
          have HM8 := Lib.hid (hMp7.act hF8 hM8)
          have HB8 := Lib.hid (show Blk w8 wr.heap.size 75 _ from (hF8.block _ hB7.lt hn7).trans hB7)
          have Hg8 := Lib.hid (hg8.trans Hg7.out)
          have hne8 : g8 ≠ bw := fun e => by have := hMp7.1.lt; omega
          have hsu := HS2.out hS8.dsk.ris
          have HS8 := Lib.hid hS8
          have HG := SGet_any hS8 nm (by omega)
          have hsg : sGet d2 nm = match gget nm d2.sure with | none => (none, 4) | some v => (some v, 0) := by
            unfold sGet
            rw [if_neg (by simp [HNm.out]), dRead_fre2 HR2.out, shown_nil HP2.out]
            cases gget nm d2.sure <;> rfl
          rw [hsg] at HG
          have c1 := HB8.out.cell 1
          clear HOp hOO hFr7 hMp7 hF8 hM8 hS8 hg8 hB7 hn7 hn6 hn5 HS2 HO2 hsg hgs8
          rcases hsu with hsu | hsu
          · rw [hsu] at HG
            have HSn2 := Lib.hid (show Sna d2.sure from by rw [hsu]; exact HSn.out)
            have HLn2 := Lib.hid (show d2.sure.length ≤ i + 1 from by rw [hsu]; omega)
            cases hg : gget nm d.sure with
            | some v =>
              rw [hg] at HG
              dsimp only at HG
              rw [show errv 0 = Value.nilIface from rfl] at HG
              have hov : old = v.l := by rw [HOld.out, hg]; rfl
              obtain rfl : true = there := by rw [← HTh.out, hg]; rfl
              have HEq := Lib.hid (show gput nm old (gmap Sv.l d.sure) = gmap Sv.l d2.sure from by rw [hsu]; exact was_put HR.out HR.out (fun _ _ => rfl) (by rw [hg, hov]; rfl))
              have hE := Lib.hid (show (Option.map Sv.l (some v)).getD [] = old from hov.symm)
              generalize (Option.map Sv.l (some v)).getD [] = tl at *
              clear hg hov hsu
              replace HG := Lib.hid HG
              go_wp2_with fail
              refine HG.out.mono ?_
              clear HG
              rintro e w9 ⟨A9, c9, m9, rfl, hm9, ho9, hb9⟩
              have v9 := conv_str (P := Tryd.prog) 33 9 5 Tryd.underlying33 Tryd.underlying5 Tryd.underlying9 (Own.sl ho9) rfl
              have HM9 := Lib.hid (HM8.out.call hb9)
              have HF9 := Lib.hid (HF8.out.call hb9)
              have HS9 := Lib.hid (HS8.out.below hb9)
              have HB9 := Lib.hid (HB8.out.below hb9)
              have b1 := HB9.out.cell 1
              have hO9 := HM9.out.1
              have hlw : (gmap Sv.l d.sure).length ≤ 100 := by rw [gmap_len]; omega
              clear ho9 hb9 HM8 HF8 HS8 HB8 c1
              obtain rfl : m9 = old := hm9.out.trans hE.out
              have hbe : (m9 == m9) = true := by simp
              clear hm9 hE
              go_wp2_with (at_mapUpdate; go_must (refine wpl_putF (f := lS) rfl _ _ _ rfl Tryd.underlying9 Tryd.underlying32 bw (gmap Sv.l d.sure) rfl hO9 (by unfold maxLen; omega) nm (by unfold maxLen; omega) rfl m9 rfl ?_); intro w10 hO10 hg10)
              go_roundw
              case rel => exact ⟨i + 1, q8, d2, g8, hlt, by go_num, rfl, Hg8, Lib.hid ⟨HS9.out.grownMap HM9.out hne8 hg10, HF9.out.grown hg10 HM9.out.2.2, HR2.out.2, HP2.out, ⟨by rw [HR2.out.1]; decide, by rw [HR2.out.1]; decide⟩, HSn2.out, HLn2.out, ⟨by rw [← HEq.out]; exact hO10, HM9.out.2⟩, hne8⟩⟩
              case measure => simp [intOf]; omega
            | none =>
              rw [hg] at HG
              dsimp only at HG
              rw [show errv 4 = Value.iface 64 (.int .i64 4) from rfl] at HG
              have hov : old = [] := by rw [HOld.out, hg]; rfl
              obtain rfl : false = there := by rw [← HTh.out, hg]; rfl
              have HEq := Lib.hid (show gdel nm (gput nm old (gmap Sv.l d.sure)) = gmap Sv.l d2.sure from by rw [hsu]; exact was_del HR.out HR.out (fun _ _ => rfl) old hg)
              have hE := Lib.hid (show (Option.map Sv.l (none : Option Sv)).getD [] = old from hov.symm)
              generalize (Option.map Sv.l (none : Option Sv)).getD [] = tl at *
              clear hg hsu hov
              replace HG := Lib.hid HG
              go_wp2_with fail
              refine HG.out.mono ?_
              clear HG
              rintro e w9 ⟨A9, c9, m9, rfl, hm9, ho9, hb9⟩
              have v9 := conv_str (P := Tryd.prog) 33 9 5 Tryd.underlying33 Tryd.underlying5 Tryd.underlying9 (Own.sl ho9) rfl
              have HM9 := Lib.hid (HM8.out.call hb9)
              have HF9 := Lib.hid (HF8.out.call hb9)
              have HS9 := Lib.hid (HS8.out.below hb9)
              have HB9 := Lib.hid (HB8.out.below hb9)
              have b1 := HB9.out.cell 1
              have hO9 := HM9.out.1
              have hlw : (gmap Sv.l d.sure).length ≤ 100 := by rw [gmap_len]; omega
              clear ho9 hb9 HM8 HF8 HS8 HB8 c1
              obtain rfl : m9 = old := hm9.out.trans hE.out
              have hbe : (m9 == m9) = true := by simp
              clear hm9 hE
              go_wp2_with (first | (at_mapUpdate; go_must (refine wpl_putF (f := lS) rfl _ _ _ rfl Tryd.underlying9 Tryd.underlying32 bw (gmap Sv.l d.sure) rfl hO9 (by unfold maxLen; omega) nm (by unfold maxLen; omega) rfl m9 rfl ?_); intro w10 hO10 hg10; have b2 := (show Blk w10 wr.heap.size 75 _ from (hg10.block _ HB9.out.lt (fun e => hbw (by injection e))).trans HB9.out).cell 1) | (at_delete; refine wpl_dropF (f := lS) rfl _ _ rfl Tryd.underlying9 Tryd.underlying32 bw (gput nm m9 (gmap Sv.l d.sure)) rfl hO10 nm (by unfold maxLen; omega) rfl ?_; intro w11 hO11 hg11))
              go_roundw
              case rel => exact ⟨i + 1, q8, d2, g8, hlt, by go_num, rfl, Hg8, Lib.hid ⟨(HS9.out.grownMap HM9.out hne8 hg10).grownMap (f := lS) ⟨hO10, HM9.out.2⟩ hne8 hg11, (HF9.out.grown hg10 HM9.out.2.2).grown hg11 HM9.out.2.2, HR2.out.2, HP2.out, ⟨by rw [HR2.out.1]; decide, by rw [HR2.out.1]; decide⟩, HSn2.out, HLn2.out, ⟨by rw [← HEq.out]; exact hO11, HM9.out.2⟩, hne8⟩⟩
              case measure => simp [intOf]; omega
          · rw [hsu, HTn.out] at HG
            dsimp only at HG
            rw [show errv 0 = Value.nilIface from rfl] at HG
            have HSn2 := Lib.hid (show Sna d2.sure from by rw [hsu]; exact HTs.out HNm.out)
            have HLn2 := Lib.hid (show d2.sure.length ≤ i + 1 from by rw [hsu]; have := HTl.out; omega)
            have HEq := Lib.hid (show gput nm l1 (gmap Sv.l d.sure) = gmap Sv.l d2.sure from by rw [hsu]; exact was_put HR.out HTr.out HTo.out (by rw [HTn.out]; rfl))
            have hE := Lib.hid (show (Option.map Sv.l (some (⟨A5, c5, l1⟩ : Sv))).getD [] = l1 from rfl)
            generalize (Option.map Sv.l (some (⟨A5, c5, l1⟩ : Sv))).getD [] = tl at *
            clear hsu HTn HTo HTs HTr HTl
            replace HG := Lib.hid HG
            go_wp2_with fail
            refine HG.out.mono ?_
            clear HG
            rintro e w9 ⟨A9, c9, m9, rfl, hm9, ho9, hb9⟩
            have v9 := conv_str (P := Tryd.prog) 33 9 5 Tryd.underlying33 Tryd.underlying5 Tryd.underlying9 (Own.sl ho9) rfl
            have HM9 := Lib.hid (HM8.out.call hb9)
            have HF9 := Lib.hid (HF8.out.call hb9)
            have HS9 := Lib.hid (HS8.out.below hb9)
            have HB9 := Lib.hid (HB8.out.below hb9)
            have b1 := HB9.out.cell 1
            have hO9 := HM9.out.1
            have hlw : (gmap Sv.l d.sure).length ≤ 100 := by rw [gmap_len]; omega
            clear ho9 hb9 HM8 HF8 HS8 HB8 c1
            obtain rfl : m9 = l1 := hm9.out.trans hE.out
            have hbe : (m9 == m9) = true := by simp
            clear hm9 hE
            cases there with
            | false =>
              go_wp2_with (at_mapUpdate; go_must (refine wpl_putF (f := lS) rfl _ _ _ rfl Tryd.underlying9 Tryd.underlying32 bw (gmap Sv.l d.sure) rfl hO9 (by unfold maxLen; omega) nm (by unfold maxLen; omega) rfl m9 rfl ?_); intro w10 hO10 hg10)
              go_roundw
              case rel => exact ⟨i + 1, q8, d2, g8, hlt, by go_num, rfl, Hg8, Lib.hid ⟨HS9.out.grownMap HM9.out hne8 hg10, HF9.out.grown hg10 HM9.out.2.2, HR2.out.2, HP2.out, ⟨by rw [HR2.out.1]; decide, by rw [HR2.out.1]; decide⟩, HSn2.out, HLn2.out, ⟨by rw [← HEq.out]; exact hO10, HM9.out.2⟩, hne8⟩⟩
              case measure => simp [intOf]; omega
            | true =>
              cases hbo : (m9 == old) with
              | false =>
                go_wp2_with (at_mapUpdate; go_must (refine wpl_putF (f := lS) rfl _ _ _ rfl Tryd.underlying9 Tryd.underlying32 bw (gmap Sv.l d.sure) rfl hO9 (by unfold maxLen; omega) nm (by unfold maxLen; omega) rfl m9 rfl ?_); intro w10 hO10 hg10)
                go_roundw
                case rel => exact ⟨i + 1, q8, d2, g8, hlt, by go_num, rfl, Hg8, Lib.hid ⟨HS9.out.grownMap HM9.out hne8 hg10, HF9.out.grown hg10 HM9.out.2.2, HR2.out.2, HP2.out, ⟨by rw [HR2.out.1]; decide, by rw [HR2.out.1]; decide⟩, HSn2.out, HLn2.out, ⟨by rw [← HEq.out]; exact hO10, HM9.out.2⟩, hne8⟩⟩
                case measure => simp [intOf]; omega
              | true =>
                go_wp2_with (at_mapUpdate; go_must (refine wpl_putF (f := lS) rfl _ _ _ rfl Tryd.underlying9 Tryd.underlying32 bw (gmap Sv.l d.sure) rfl hO9 (by unfold maxLen; omega) nm (by unfold maxLen; omega) rfl m9 rfl ?_); intro w10 hO10 hg10)
                go_roundw
                case rel => exact ⟨i + 1, q8, d2, g8, hlt, by go_num, rfl, Hg8, Lib.hid ⟨HS9.out.grownMap HM9.out hne8 hg10, HF9.out.grown hg10 HM9.out.2.2, HR2.out.2, HP2.out, ⟨by rw [HR2.out.1]; decide, by rw [HR2.out.1]; decide⟩, HSn2.out, HLn2.out, ⟨by rw [← HEq.out]; exact hO10, HM9.out.2⟩, hne8⟩⟩
                case measure => simp [intOf]; omega
    · have hke : i = s.length := by omega
      subst hke
      obtain ⟨hst, hfro, hup, hpe, hfok, hsna, hlen, hmp, hne⟩ := hW.out
      have HC := Lib.hid (Cut_any (B := none) (kc := 0) hst.dsk (by rw [hpe]; simp) (by omega) [] (Sl.none_ _ _) (fun e => absurd rfl e))
      have hds : dStart (dCut [] d) = ⟨d.room, d.sure, [], -1, false⟩ := by
        unfold dStart dCut
        rw [hpe, kept_none]
        exact if_pos rfl
      have hcl : (dCut [] d).sure.length ≤ 20 := by
        unfold dCut
        rw [hpe, kept_none]
        show d.sure.length ≤ 20
        omega
      have hrs := hst.dsk.ris
      obtain ⟨d2, hO2, hfr2, hpe2, hsu2⟩ := open_up (z := Sv.nil) (room := d.room) (S1 := d.sure) (S := d.sure) hrs hrs hsna (names_of hsna) (fun _ _ => rfl)
      rw [← hds] at hO2
      have HO2 := Lib.hid hO2
      have HR2 := Lib.hid hfr2
      have HP2 := Lib.hid hpe2
      have HS2 := Lib.hid hsu2
      have HDs := Lib.hid hds
      have HF := Lib.hid hfro
      have HM := Lib.hid hmp
      have HSn := Lib.hid hsna
      clear hlt hW hst hfro hup hpe hfok hmp hds hrs hO2 hfr2 hpe2 hsu2 hsna
      go_wp2_with fail
      refine HC.out.mono ?_
      rintro e w5 ⟨rfl, q5, hg5, hD5, hF5, hM5, -⟩
      have hFr5 := HF.out.frd hF5 hM5
      have hMp5 := HM.out.act hF5 hM5
      have HSt := Lib.hid (StartDown_any hD5 (Nat.zero_le _) (by omega) rfl)
      clear HF HM HC hF5 hM5 hD5
      rw [← hg5]
      clear hg5
      go_wp2_with fail
      refine HSt.out.mono ?_
      rintro e w6 ⟨rfl, q6, hg6, hD6, hF6, hM6, -⟩
      have hFr6 := hFr5.frd hF6 hM6
      have hMp6 := hMp5.act hF6 hM6
      have HOp := Lib.hid (SOpen_any hD6 (start_fok _) (by rw [HDs.out]; show d.sure.length + 0 ≤ 400; omega))
      clear HSt hFr5 hMp5 hF6 hM6 hD6
      rw [← hg6]
      clear hg6
      go_wp2_with fail
      refine HOp.out.mono ?_
      rintro e w7 hOO
      obtain ⟨q7, g7, rfl, hg7, hF7, hM7, hS7, -⟩ := hOO.ok HO2.out
      have HF := Lib.hid (hFr6.frd hF7 hM7)
      have HM := Lib.hid (hMp6.act hF7 hM7)
      have hsu := HS2.out hS7.dsk.ris
      have HLs := SList_any hS7 (by rw [HP2.out, hsu]; simp; omega) []
      have hsl : sList d2 [] = (names d.sure, 0) := by
        unfold sList
        rw [HR2.out.2, if_neg (by simp), shown_nil HP2.out, hsu, sList_all HSn.out]
      rw [hsl] at HLs
      dsimp only at HLs
      rw [show errv 0 = Value.nilIface from rfl] at HLs
      have HSu := Lib.hid hsu
      have HLs := Lib.hid (show Calls Tryd.prog 36 #[.pointer (some ⟨g7, 0, none⟩), .string ⟨#[]⟩] w7 _ from HLs)
      have HS7 := Lib.hid hS7
      clear HOp hOO hFr6 hMp6 hF7 hM7 hS7 hg7 hsu hsl HS2 HO2 HDs
      go_wp2_with fail
      refine HLs.out.mono ?_
      rintro e w8 ⟨A8, c8, m8, rfl, hm8, ho8, hb8⟩
      have hml : m8.length = d.sure.length := by rw [hm8.out]; unfold names; rw [List.length_map]
      have HM8 := Lib.hid (HM.out.call hb8)
      have HF8 := Lib.hid (HF.out.call hb8)
      have HS8 := Lib.hid (HS7.out.below hb8)
      have HT8 := Lib.hid (show SlT w8 A8 c8 m8 from Own.sl ho8)
      have hln : ∀ ty, (Builtin.len_ #[32] ty #[.map (some bw)]).run Tryd.prog w8 = .ok (.int .i64 m8.length) w8 := fun ty => by
        have := HM8.out.1.len Tryd.underlying32 ty
        rw [this, datF_size, gmap_len, hml]
      have HMe := Lib.hid hm8.out
      have hml20 : m8.length ≤ 20 := by omega
      clear HLs hm8 ho8 hb8 HM HF HS7
      go_wp2_with fail
      clear hln
      go_loopw [198] (fun x wr => ∃ k : Nat, k ≤ m8.length ∧ x = .int .i64 k ∧ Below w8.heap.size w8 wr) (fun x w => m8.length - (intOf x).toNat)
      case atStart => exact ⟨0, Nat.zero_le _, rfl, Below.refl _ _⟩
      case round =>
        obtain ⟨k, hk, rfl, hbr⟩ := hrel
        by_cases hlt : k < m8.length
        · have hkI2 : (k : Int) < (m8.length : Int) := by omega
          obtain ⟨ad, b, o, hA, had, hc⟩ := SlT.at1 (HT8.out.below hbr) hlt
          have hmem : m8[k] ∈ names d.sure := by rw [← HMe.out]; exact List.getElem_mem hlt
          obtain ⟨p0, hp0, hx0⟩ := List.mem_map.1 hmem
          have hg := gget_of_mem (HSu.out ▸ HS8.out.dsk.ris) (show (p0.1, p0.2) ∈ d.sure from hp0)
          rw [hx0] at hg
          generalize p0.2 = v at *
          have hsn : snamed m8[k] = true := by
            cases hs : snamed m8[k] with
            | true => rfl
            | false => rw [HSn.out _ hs] at hg; cases hg
          clear hmem hp0 hx0 p0
          generalize m8[k] = x at *
          subst hA
          have hxl := snamed_len hsn
          have HG := SGet_any (HS8.out.below hbr) x (by omega)
          have hsg : sGet d2 x = (some v, 0) := by
            unfold sGet
            rw [if_neg (by simp [hsn]), dRead_fre2 HR2.out, shown_nil HP2.out, HSu.out, hg]
          rw [hsg] at HG
          dsimp only at HG
          rw [show errv 0 = Value.nilIface from rfl] at HG
          replace HG := Lib.hid HG
          have hlk := fun W (hb : Below wr.heap.size wr W) => ((HM8.out.call hbr).call hb).1.look (T := 32) (E := 9) Tryd.underlying9 Tryd.underlying32 (zero_str2 _) (k := x) (by unfold maxLen; omega)
          have hgl : gget x (gmap Sv.l d.sure) = some v.l := by rw [gget_map, hg]; rfl
          rw [hgl] at hlk
          replace hlk := Lib.hid hlk
          have hE := Lib.hid (show (Option.map Sv.l (some v)).getD [] = v.l from rfl)
          generalize (Option.map Sv.l (some v)).getD [] = tl at *
          clear hsn hsg hg hgl
          go_wp2_with fail
          refine HG.out.mono ?_
          clear HG
          rintro e w9 ⟨A5, c5, m5, rfl, hm5, ho5, hb5⟩
          have hlk2 := hlk.out w9 hb5
          rw [← hE.out, ← hm5.out, show ((some m5 : Option Bs).map lS).getD (.string ⟨#[]⟩) = .string ⟨m5.toArray⟩ from rfl, show (some m5 : Option Bs).isSome = true from rfl] at hlk2
          have v1 := conv_str (P := Tryd.prog) 33 9 5 Tryd.underlying33 Tryd.underlying5 Tryd.underlying9 (Own.sl ho5) rfl
          have hbe : (m5 == m5) = true := by simp
          have hb9 := Lib.hid (bel_call hbr hb5)
          clear hm5 ho5 hlk hE hb5 hbr
          go_wp2_with fail
          go_roundw
          case rel => exact ⟨k + 1, hlt, by go_num, hb9.out⟩
          case measure => simp [intOf]; omega
        · have hke : k = m8.length := by omega
          have HB := Lib.hid (HF8.out.call hbr).1
          clear hbr
          go_wp2_with fail
          go_ret
          exact ⟨rfl, HB.out⟩
set_option maxRecDepth 100000 in
set_option maxHeartbeats 1000000 in
theorem whole_early {A : Option Addr} {c : Nat} {s : List SA} {r : Int} {B : Option Addr} {kc : Nat} {ks : List Bool} (w : World) (h : SlSA w A c s) (hl : sLong s 20 = true ∨ 60 < ks.length) :
    Calls Tryd.prog 7 #[.slice A s.length c, .int .i64 r, .slice B ks.length kc] w fun e w' => e = .returned (.bool true) ∧ Below w.heap.size w w' := by
  have H := Lib.hid h
  have HLg := fun W (hh : SlSA W A c s) => SLong_any W hh 20
  replace HLg := Lib.hid HLg
  clear h
  rcases hlg : sLong s 20 with _ | _
  · rw [hlg] at HLg
    have hn : (60 : Int) < (ks.length : Int) := by
      rcases hl with h | h
      · rw [hlg] at h; cases h
      · omega
    clear hl hlg
    go_enter Tryd.func7, Tryd.ntmps7
    go_wp2_with fail
    refine (AliveS_any _).mono ?_
    rintro e w1 ⟨rfl, hb1⟩
    go_wp2_with fail
    refine (HLg.out _ (H.out.below hb1)).mono ?_
    rintro e w2 ⟨rfl, hb2⟩
    have hb := bel_call hb1 hb2
    clear HLg
    go_wp2_with fail
    go_ret
    exact ⟨rfl, hb⟩
  · rw [hlg] at HLg
    clear hl hlg
    go_enter Tryd.func7, Tryd.ntmps7
    go_wp2_with fail
    refine (AliveS_any _).mono ?_
    rintro e w1 ⟨rfl, hb1⟩
    go_wp2_with fail
    refine (HLg.out _ (H.out.below hb1)).mono ?_
    rintro e w2 ⟨rfl, hb2⟩
    have hb := bel_call hb1 hb2
    clear HLg
    go_wp2_with fail
    go_ret
    exact ⟨rfl, hb⟩
theorem whole_all {A : Option Addr} {c : Nat} {s : List SA} {r : Int} {B : Option Addr} {kc : Nat} {ks : List Bool} (w : World) (h : SlSA w A c s) (hr : I64 r) (hk : SlZ w B kc ks) :
    Calls Tryd.prog 7 #[.slice A s.length c, .int .i64 r, .slice B ks.length kc] w fun e w' => e = .returned (.bool true) ∧ Below w.heap.size w w' := by
  rcases hlg : sLong s 20 with _ | _
  · rcases Nat.lt_or_ge 60 ks.length with h0 | h0
    · exact whole_early w h (.inr h0)
    · exact whole_walk w h hr hk hlg h0
  · exact whole_early w h (.inl hlg)
end Go.Proofs.YtabkeaammiellaaDoor
