/- WHAT IT HOLDS: a store's objects read; a store opened: walked. | WHAT IT HOLDS: the law's store is alive, walked. -/
import Derived.Test.YtabkeaammiellaaDoorStoreWholeG18
import Derived.Test.YtabkeaammiellaaDoorStoreWholeG16
import Derived.Test.YtabkeaammiellaaDoorStoreWholeG17
namespace Go.Proofs.YtabkeaammiellaaDoor
open Go.RowKit Go.Maps Go.Sort
attribute [local go_sem ↓] Go.wp_at_zero Go.wp_at_succ

set_option maxRecDepth 100000 in
set_option maxHeartbeats 1000000 in
theorem SGet_any {w : World} {gs : Nat} {q : Fp} {d : Dk Sv} (h : StM w gs q d) (n : Bs) (hn : n.length ≤ 100000000) :
    Calls Tryd.prog 35 #[.pointer (some ⟨gs, 0, none⟩), .string ⟨n.toArray⟩] w fun e w' => ∃ A c m, e = .returned (.tuple #[.slice A (List.length m) c, errv (sGet d n).2]) ∧ Hid (m = (((sGet d n).1.map Sv.l).getD [])) ∧ OwnB w' w.heap.size 5 A c m ∧ Below w.heap.size w w' := by
  have HA := Lib.hid (Asks_any gs n w (by omega))
  have HS := Lib.hid h
  clear h
  cases hs : snamed n with
  | false =>
    rw [hs, if_neg (by simp), show errv 2 = Value.iface 64 (.int .i64 2) from rfl] at HA
    have HX := Lib.hid (show sGet d n = (none, 2) from by unfold sGet; rw [if_pos hs])
    go_enter Tryd.func35, Tryd.ntmps35
    go_wp2_with fail
    refine HA.out.mono ?_
    rintro e w1 ⟨rfl, hb1⟩
    go_wp2_with fail
    go_ret2
    exact ⟨none, 0, [], by rw [HX.out]; rfl, (show _ = _ from by rw [HX.out]; rfl), Own.none_ _ _ _ _, hb1⟩
  | true =>
    rw [hs, if_pos rfl, show errv 0 = Value.nilIface from rfl] at HA
    have HX := Lib.hid (show sGet d n = dRead d n from by unfold sGet; rw [if_neg (by simp [hs])])
    go_enter Tryd.func35, Tryd.ntmps35
    go_wp2_with fail
    refine HA.out.mono ?_
    rintro e w1 ⟨rfl, hb1⟩
    have hS1 := HS.out.below hb1
    have hb := hS1.cl
    have HR := Lib.hid (Read_any hS1.dsk n hn)
    have HB1 := Lib.hid hb1
    clear HA HS hS1 hb1
    go_wp2_with fail
    refine HR.out.mono ?_
    rintro e w2 ⟨A2, c2, m2, rfl, hm2, ho2, hb2⟩
    have HM := Lib.hid hm2.out
    clear hm2 HR
    go_wp2_with fail
    go_ret2
    exact ⟨A2, c2, m2, by rw [HX.out]; rfl, (show _ = _ from by rw [HX.out]; exact HM.out), ho2.more HB1.out.size, bel_call HB1.out hb2⟩
/-- what opening gives -/
def OpG (w : World) (q : Fp) (d : Dk Sv) (e : Ending) (w' : World) : Prop :=
  ∃ q', q'.g = q.g ∧ Dsk w' q' (sOpen Sv.nil d).1 ∧ Frd q w w' ∧ (∀ i, q'.M i → q.M i ∨ w.heap.size ≤ i) ∧ (∀ i, Tc q' (sOpen Sv.nil d).1 i → Tc q d i ∨ w.heap.size ≤ i) ∧
    ((sOpen Sv.nil d).2 = 0 ∧ (∃ gs, e = .returned (.tuple #[.pointer (some ⟨gs, 0, none⟩), .nilIface]) ∧ StM w' gs q' (sOpen Sv.nil d).1 ∧ w.heap.size ≤ gs) ∨ (sOpen Sv.nil d).2 ≠ 0 ∧ e = .returned (.tuple #[.pointer none, errv (sOpen Sv.nil d).2]))
theorem OpG.bad {w w' : World} {q : Fp} {d d1 : Dk Sv} {n1 : Nat} (hX : sOpen Sv.nil d = (d1, n1)) (h0 : n1 ≠ 0) (hG : Dgo w q d d1 w') : OpG w q d (.returned (.tuple #[.pointer none, errv n1])) w' := by
  obtain ⟨q', hg, hD, hF, hM, hT⟩ := hG
  refine ⟨q', hg, ?_⟩
  rw [hX]
  exact ⟨hD, hF, hM, hT, .inr ⟨h0, rfl⟩⟩
theorem OpG.good {w w' : World} {q : Fp} {d d1 : Dk Sv} {g0 : Nat} (hX : sOpen Sv.nil d = (d1, 0)) (hg0 : q.g = g0) (hG : Dgo w q d d1 w') : OpG w q d (.returned (.tuple #[.pointer (some ⟨w'.heap.size, 0, none⟩), .nilIface])) (w'.alloc (.cells #[.pointer (some ⟨g0, 0, none⟩)] 105)) := by
  obtain ⟨q', hg, hD, hF, hM, hT⟩ := hG
  have hb := below_new w' (.cells #[.pointer (some ⟨g0, 0, none⟩)] 105)
  refine ⟨q', hg, ?_⟩
  rw [hX]
  refine ⟨hD.below hb, hF.trans (Frd.of_below (q := q') hb) hM, hM, hT, .inl ⟨rfl, w'.heap.size, rfl, ⟨hD.below hb, ?_, fun hq => ?_⟩, hF.size⟩⟩
  · unfold sta
    rw [hg, hg0]
    exact Blk.new _ _ _
  · have := hD.ltM hq
    omega
set_option maxRecDepth 100000 in
set_option maxHeartbeats 1000000 in
theorem SOpen_any {w : World} {q : Fp} {d : Dk Sv} (h : Dsk w q d) (hf : Fok d) (hl : d.sure.length + d.pend.length ≤ 400) :
    Calls Tryd.prog 31 #[.pointer (some ⟨q.g, 0, none⟩)] w fun e w' => OpG w q d e w' := by
  obtain ⟨p1, p2, p3, -⟩ := h.fits hl (by omega)
  have HL := Lib.hid (DList_any h p2)
  have hsh : d.shown.length ≤ 400 := by have := flen_dos d.sure d.pend; unfold Dk.shown; omega
  have HD := Lib.hid h
  have HF := Lib.hid hf
  obtain ⟨g0, hgq⟩ : ∃ g0, q.g = g0 := ⟨_, rfl⟩
  have HGq := Lib.hid hgq
  rw [hgq] at HL ⊢
  clear h hf hgq
  cases hd : d.down with
  | true =>
    rw [hd, if_pos rfl, if_pos rfl, show errv 14 = Value.iface 64 (.int .i64 14) from rfl] at HL
    have HX := Lib.hid (show sOpen Sv.nil d = (d, 14) from by unfold sOpen; rw [if_pos hd])
    go_enter Tryd.func31, Tryd.ntmps31
    go_wp2_with fail
    refine HL.out.mono ?_
    rintro e w1 ⟨A, c, m, rfl, hm, ho, hb⟩
    have HG := Lib.hid (OpG.bad HX.out (by decide) (Dgo.still HD.out hb))
    clear HL hm ho hb
    go_wp2_with fail
    go_ret2
    exact HG.out
  | false =>
    rw [hd, if_neg (by simp), if_neg (by simp), show errv 0 = Value.nilIface from rfl] at HL
    have HX := Lib.hid (show sOpen Sv.nil d = if (sSweep Sv.nil (names d.shown) d false).2.1 ≠ 0 then ((sSweep Sv.nil (names d.shown) d false).1, (sSweep Sv.nil (names d.shown) d false).2.1) else if (sSweep Sv.nil (names d.shown) d false).2.2 = true then dSync (sSweep Sv.nil (names d.shown) d false).1 else ((sSweep Sv.nil (names d.shown) d false).1, 0) from by unfold sOpen; rw [if_neg (by simp [hd])])
    go_enter Tryd.func31, Tryd.ntmps31
    go_wp2_with fail
    refine HL.out.mono ?_
    rintro e w1 ⟨A, c, m, rfl, hm, ho, hb⟩
    have hml : m.length ≤ 400 := by rw [hm.out]; unfold names; rw [List.length_map]; exact hsh
    have HT := Lib.hid (TxH.of HD.out ho)
    have HN := Lib.hid (show ∀ x ∈ m, x.length ≤ 24 from by
      rw [hm.out]
      intro x hx
      obtain ⟨p, hp, rfl⟩ := List.mem_map.1 hx
      exact (HD.out.shown_mem p hp).1)
    rw [← hm.out] at HX
    have HG := Lib.hid (Dgo.still HD.out hb)
    clear HL hm ho
    go_wp2_with fail
    go_loopw [24, 6] (fun x y wr => ∃ (i : Nat) (d1 : Dk Sv) (sw : Bool) (q1 : Fp), i ≤ m.length ∧ x = .int .i64 i ∧ y = .bool sw ∧ q1.g = g0 ∧ Dsk wr q1 d1 ∧ Fok d1 ∧ d1.sure.length + d1.pend.length ≤ 400 + i ∧ TxH q1 wr A c m ∧ Hid (sSweep Sv.nil m d false = sSweep Sv.nil (m.drop i) d1 sw) ∧ Hid (∀ d3 w3, Dgo wr q1 d1 d3 w3 → Dgo w q d d3 w3)) (fun x _ w => m.length - (intOf x).toNat)
    case atStart => exact ⟨0, d, false, q, Nat.zero_le _, rfl, rfl, HGq.out, HD.out.below hb, HF.out, hl, HT.out, Lib.hid rfl, Lib.hid (fun d3 w3 hg => Dgo.below hb hg)⟩
    case round =>
      clear HT HG
      obtain ⟨i, d1, sw, q1, hi, rfl, rfl, hg1, hD1, hf1, hl1, hT1, hsw, hDt⟩ := hrel
      by_cases hlt : i < m.length
      · have hI : (i : Int) < (m.length : Int) := by omega
        obtain ⟨ad, b, o, hA, had, hc⟩ := SlT.at1 hT1.1 hlt
        have hxn := HN.out _ (List.getElem_mem hlt)
        have hdr : m.drop i = m[i] :: m.drop (i + 1) := List.drop_eq_getElem_cons hlt
        have HP := Lib.hid (fun W => Tryd.strings_HasPrefix ⟨m[i].toArray⟩ ⟨#[126]⟩ W)
        obtain ⟨p1, p2, p3, -⟩ := hD1.fits (k := 800) (by omega) (by omega)
        have HR := Lib.hid (Remove_any hD1 hf1 p1 p2 m[i] (by omega))
        rw [hg1] at HR
        have HS := Lib.hid (hsw.out.trans (by rw [hdr]; rfl : sSweep Sv.nil (m.drop i) d1 sw = if isBegun m[i] = true then (if (dRemove Sv.nil d1 m[i]).2 ≠ 0 then ((dRemove Sv.nil d1 m[i]).1, (dRemove Sv.nil d1 m[i]).2, sw) else sSweep Sv.nil (m.drop (i + 1)) (dRemove Sv.nil d1 m[i]).1 true) else sSweep Sv.nil (m.drop (i + 1)) d1 sw))
        have hib : Lib.hasPrefix m[i] [126] = isBegun m[i] := rfl
        clear hsw hdr
        generalize m[i] = x at *
        have hpx : ∀ W : World, Calls Tryd.prog 55 #[.string ⟨x.toArray⟩, .string ⟨#[126]⟩] W fun e w' => e = .returned (.bool (isBegun x)) ∧ w' = W := fun W => HP.out W
        have HP2 := Lib.hid hpx
        subst hA
        clear HP hpx hib
        have HD1 := Lib.hid hD1
        have HT1 := Lib.hid hT1
        have HF1 := Lib.hid hf1
        have Hg1 := Lib.hid hg1
        clear hD1 hT1 hf1 hg1
        go_wp2_with fail
        refine (HP2.out _).mono ?_
        rintro e w5 ⟨rfl, rfl⟩
        cases hbg : isBegun x with
        | false =>
          rw [hbg, if_neg (by simp)] at HS
          go_wp2_with fail
          go_roundw
          case rel => exact ⟨i + 1, d1, sw, q1, hlt, by go_num, rfl, Hg1.out, HD1.out, HF1.out, by omega, HT1.out, HS, hDt⟩
          case measure => simp [intOf]; omega
        | true =>
          rw [hbg, if_pos rfl] at HS
          have hop := Opd.remove Sv.nil d1 x
          generalize dRemove Sv.nil d1 x = r at *
          obtain ⟨d2, n2⟩ := r
          have hf2 := HF1.out.opd hop
          have hl2 := opd_len hop hl1
          dsimp only at hf2 hl2 HS
          go_wp2_with fail
          refine HR.out.mono ?_
          rintro e w6 ⟨rfl, q2, hg2, hD2, hF2, hM2, hT2⟩
          dsimp only at hD2 hT2 ⊢
          rcases Decidable.em (n2 = 0) with h0 | h0
          · subst h0
            rw [if_neg (by simp)] at HS
            have HT2 := Lib.hid (HT1.out.act hF2 hM2)
            have HDt := Lib.hid (fun (d3 : Dk Sv) (w3 : World) (hG : Dgo w6 q2 d2 d3 w3) => hDt.out _ _ (Dgo.trans hg2 hF2 hM2 hT2 hG))
            have HF2 := Lib.hid hf2
            have Hg2 := Lib.hid (hg2.trans Hg1.out)
            have HD2 := Lib.hid hD2
            rw [show errv 0 = Value.nilIface from rfl]
            clear HR hD2 hF2 hM2 hT2 hg2 hf2 HT1 hDt HD1
            go_wp2_with fail
            go_roundw
            case rel => exact ⟨i + 1, d2, true, q2, hlt, by go_num, rfl, Hg2.out, HD2.out, HF2.out, by omega, HT2.out, HS, HDt⟩
            case measure => simp [intOf]; omega
          · obtain ⟨ev, hev⟩ := errv_ifc h0
            rw [if_pos h0] at HS
            have HXX := Lib.hid (show sOpen Sv.nil d = (d2, n2) from by rw [HX.out, HS.out]; dsimp only; rw [if_pos h0])
            have HGo := Lib.hid (OpG.bad HXX.out h0 (hDt.out d2 w6 ⟨q2, hg2, hD2, hF2, hM2, hT2⟩))
            rw [hev] at HGo ⊢
            clear HR hD2 hF2 hM2 hT2 hg2 hf2 HT1 hDt HD1 hev
            go_wp2_with fail
            go_ret2
            exact HGo.out
      · have hI : (m.length : Int) ≤ (i : Int) := by omega
        have hdr : m.drop i = [] := List.drop_of_length_le (by omega)
        have HS := Lib.hid (show sSweep Sv.nil m d false = (d1, 0, sw) from by rw [hsw.out, hdr]; rfl)
        clear hsw hdr
        cases sw with
        | false =>
          have HXX := Lib.hid (show sOpen Sv.nil d = (d1, 0) from by rw [HX.out, HS.out]; rfl)
          have HGo := Lib.hid (OpG.good HXX.out HGq.out (hDt.out d1 wr (Dgo.of hD1 (Frd.of_below (Below.refl _ _)) rfl rfl)))
          clear hD1 hT1 hDt
          go_wp2_with fail
          go_ret2
          exact HGo.out
        | true =>
          have HXX := Lib.hid (show sOpen Sv.nil d = dSync d1 from by rw [HX.out, HS.out]; rfl)
          have HY := Lib.hid (Sync_any hD1 hf1)
          rw [hg1] at HY
          generalize dSync d1 = r at *
          obtain ⟨d2, n2⟩ := r
          clear hT1 hD1 hg1
          go_wp2_with fail
          refine HY.out.mono ?_
          rintro e w6 ⟨rfl, hG⟩
          dsimp only at hG ⊢
          rcases Decidable.em (n2 = 0) with h0 | h0
          · subst h0
            have HGo := Lib.hid (OpG.good HXX.out HGq.out (hDt.out _ _ hG))
            rw [show errv 0 = Value.nilIface from rfl]
            clear hG hDt HY
            go_wp2_with fail
            go_ret2
            exact HGo.out
          · obtain ⟨ev, hev⟩ := errv_ifc h0
            have HGo := Lib.hid (OpG.bad HXX.out h0 (hDt.out _ _ hG))
            rw [hev] at HGo ⊢
            clear hG hDt HY hev
            go_wp2_with fail
            go_ret2
            exact HGo.out
end Go.Proofs.YtabkeaammiellaaDoor

namespace Go.Proofs.YtabkeaammiellaaDoor
open Go.RowKit Go.Maps Go.Sort
attribute [local go_sem ↓] Go.wp_at_zero Go.wp_at_succ

theorem Fok.dk0 (r : Int) : Fok (dk0 r) := ⟨by show -1 ≤ (-1 : Int); omega, by show (-1 : Int) ≤ 9223372036854775807; omega⟩
/-- opened without an error -/
theorem OpG.ok {w w' : World} {q : Fp} {d d1 : Dk Sv} {e : Ending} (h : OpG w q d e w') (hX : sOpen Sv.nil d = (d1, 0)) : ∃ q' gs, e = .returned (.tuple #[.pointer (some ⟨gs, 0, none⟩), .nilIface]) ∧ q'.g = q.g ∧ Frd q w w' ∧ (∀ i, q'.M i → q.M i ∨ w.heap.size ≤ i) ∧ StM w' gs q' d1 ∧ w.heap.size ≤ gs := by
  obtain ⟨q', hg, hD, hF, hM, hT, h0⟩ := h
  rw [hX] at h0 hD
  rcases h0 with ⟨-, gs, he, hS, hgs⟩ | ⟨h0, -⟩
  · exact ⟨q', gs, he, hg, hF, hM, hS, hgs⟩
  · exact absurd rfl h0
theorem aS (A : Option Addr) (c : Nat) : (sPut svl Sv.nil (dk0 100) [97] ⟨A, c, [120]⟩) = (⟨100, [([97], ⟨A, c, [120]⟩)], [], -1, false⟩, 0) := by kernel_rfl
set_option maxRecDepth 100000 in
set_option maxHeartbeats 1000000 in
theorem AliveS_any (w : World) : Calls Tryd.prog 30 #[] w fun e w' => e = .returned (.bool true) ∧ Below w.heap.size w w' := by
  go_enter Tryd.func30, Tryd.ntmps30
  go_wp2_with fail
  refine (New_any 100 w).mono ?_
  rintro e w1 (⟨h, -⟩ | ⟨-, q, rfl, hD, hM, hb⟩)
  · omega
  rw [show errv 0 = Value.nilIface from rfl]
  have HF1 := Lib.hid (show Fro w w1 q from ⟨hb, hM⟩)
  have HO := Lib.hid (SOpen_any hD (Fok.dk0 100) (by decide))
  have n0 : sOpen Sv.nil (dk0 100) = (dk0 100, 0) := rfl
  clear hD hM hb
  go_wp2_with fail
  refine HO.out.mono ?_
  rintro e w2 hO
  obtain ⟨q2, gs, rfl, hg2, hF2, hM2, hS2, hgs⟩ := hO.ok n0
  clear HO hO
  have HF2 := Lib.hid (HF1.out.frd hF2 hM2)
  have hSa := hS2.below (below_new w2 (.cells #[bv 120] 5 (1, 2)))
  have HFa := Lib.hid (HF2.out.call (below_new w2 (.cells #[bv 120] 5 (1, 2))))
  have hcv := Go.Lib.run_convert_bytes_const (P := Tryd.prog) w2 33 5 #[.int .u8 120] 1 1 Tryd.underlying33 Tryd.underlying5
  have HP := Lib.hid (SPut_any (A := some ⟨w2.heap.size, 0, none⟩) (c := 1) hSa (Fok.dk0 100) (by decide) [97] (by decide) [120] (SlB.lit1 w2 120 5 (1, 2)) (fun _ ad e => by injection e with e; subst e; have := hS2.dsk.blk.lt; dsimp only; omega) (by decide))
  rw [← hg2]
  clear hg2
  have HSa := Lib.hid hSa
  clear hF2 hM2 hS2 hgs HF1 HF2 hSa n0
  go_wp2_with fail
  refine HP.out.mono ?_
  clear HP
  rintro e w3 ⟨A3, c3, rfl, q3, hg3, hD3, hF3, hM3, -⟩
  rw [aS] at hD3 ⊢
  have n2 : (⟨100, [([97], ⟨A3, c3, [120]⟩)], [], -1, false⟩ : Dk Sv).pend.length ≤ 1000000 := Nat.le_of_ble_eq_true rfl
  have n3 : (⟨100, [([97], ⟨A3, c3, [120]⟩)], [], -1, false⟩ : Dk Sv).sure.length ≤ 1000000 := Nat.le_of_ble_eq_true rfl
  have n4 : (dCut [] (⟨100, [([97], ⟨A3, c3, [120]⟩)], [], -1, false⟩ : Dk Sv)).pend.length ≤ 1000000 := Nat.le_of_ble_eq_true rfl
  have n5 : (dCut [] (⟨100, [([97], ⟨A3, c3, [120]⟩)], [], -1, false⟩ : Dk Sv)).sure.length ≤ 1000000 := Nat.le_of_ble_eq_true rfl
  have n6 : (dCut [] (⟨100, [([97], ⟨A3, c3, [120]⟩)], [], -1, false⟩ : Dk Sv)).down = true := rfl
  have n7 : sOpen Sv.nil (dStart (dCut [] (⟨100, [([97], ⟨A3, c3, [120]⟩)], [], -1, false⟩ : Dk Sv))) = (dStart (dCut [] (⟨100, [([97], ⟨A3, c3, [120]⟩)], [], -1, false⟩ : Dk Sv)), 0) := by kernel_rfl
  have n8 : sGet (dStart (dCut [] (⟨100, [([97], ⟨A3, c3, [120]⟩)], [], -1, false⟩ : Dk Sv))) [97] = (some ⟨A3, c3, [120]⟩, 0) := by kernel_rfl
  have n9 : (dStart (dCut [] (⟨100, [([97], ⟨A3, c3, [120]⟩)], [], -1, false⟩ : Dk Sv))).sure.length + (dStart (dCut [] (⟨100, [([97], ⟨A3, c3, [120]⟩)], [], -1, false⟩ : Dk Sv))).pend.length ≤ 400 := Nat.le_of_ble_eq_true rfl
  dsimp only at hD3 ⊢
  rw [show errv 0 = Value.nilIface from rfl]
  generalize (⟨100, [([97], ⟨A3, c3, [120]⟩)], [], -1, false⟩ : Dk Sv) = d3 at *
  generalize hd4 : dCut [] d3 = d4 at *
  generalize hd5 : dStart d4 = d5 at *
  have N4 := Lib.hid hd4
  have N5 := Lib.hid hd5
  have N7 := Lib.hid n7
  have N8 := Lib.hid n8
  have HF3 := Lib.hid (HFa.out.frd hF3 hM3)
  have HC := Lib.hid (Cut_any (B := none) (kc := 0) hD3 n2 n3 [] (Sl.none_ _ _) (fun e => absurd rfl e))
  rw [← hg3]
  clear n2 n3 n7 n8 hd4 hd5 hF3 hM3 hD3 hg3 HFa HSa hcv
  go_wp2_with fail
  refine HC.out.mono ?_
  clear HC
  rintro e w4 ⟨rfl, q4, hg4, hD4, hF4, hM4, -⟩
  rw [N4.out] at hD4
  rw [← hg4]
  have HF4 := Lib.hid (HF3.out.frd hF4 hM4)
  have HS := Lib.hid (StartDown_any hD4 n4 n5 n6)
  clear hD4 hF4 hM4 HF3 N4 n4 n5 n6 hg4
  go_wp2_with fail
  refine HS.out.mono ?_
  clear HS
  rintro e w5 ⟨rfl, q5, hg5, hD5, hF5, hM5, -⟩
  rw [N5.out] at hD5
  rw [← hg5]
  have HF5 := Lib.hid (HF4.out.frd hF5 hM5)
  have HO := Lib.hid (SOpen_any hD5 (by rw [← N5.out]; exact start_fok _) n9)
  clear hD5 hF5 hM5 HF4 N5 n9 hg5
  go_wp2_with fail
  refine HO.out.mono ?_
  rintro e w6 hO
  obtain ⟨q6, gs6, rfl, hg6, hF6, hM6, hS6, -⟩ := hO.ok N7.out
  have HF6 := Lib.hid (HF5.out.frd hF6 hM6)
  have HR := Lib.hid (SGet_any hS6 [97] (by decide))
  clear HO hO hF6 hM6 hS6 HF5 N7 hg6
  go_wp2_with fail
  refine HR.out.mono ?_
  clear HR
  rintro e w7 ⟨A7, c7, m7, rfl, hm7, ho7, hb7⟩
  rw [N8.out] at hm7 ⊢
  rw [show errv 0 = Value.nilIface from rfl]
  obtain rfl : m7 = [120] := hm7.out
  have h2 := conv_str (P := Tryd.prog) 33 9 5 Tryd.underlying33 Tryd.underlying5 Tryd.underlying9 (n := 1) (Own.sl ho7) rfl
  have HB := Lib.hid (HF6.out.call hb7).1
  clear hm7 ho7 hb7 HF6 N8
  go_wp2_with fail
  go_ret
  exact ⟨rfl, HB.out⟩
end Go.Proofs.YtabkeaammiellaaDoor
