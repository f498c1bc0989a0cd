/- WHAT IT HOLDS: the law VaultAgrees, walked. -/
import Derived.Test.YtajfnmohlnkncaaGreatDoorVaultAgreesG01
import Derived.Test.YtajfnmohlnkncaaGreatDoorVaultAgreesG30
namespace Go.Proofs.YtajfnmohlnkncaaGreatDoor
open Go.RowKit Go.Shelf
attribute [local go_sem ↓] Go.wp_at_zero Go.wp_at_succ
set_option maxRecDepth 100000 in
set_option maxHeartbeats 8000000 in
theorem vagrees_walk (w : World) (hG : Shg w) {A0 : Option Addr} {c0 : Nat} {sl : List CsV} (hs : SlCs w A0 c0 sl) {mark : Int} (_ : I64 mark) :
 Calls Tryz.prog 3 #[.slice A0 sl.length c0, .int .i64 mark] w fun e w' => e = .returned (.bool true) ∧ Below w.heap.size w w' := by
 have hsm := hs.1.2.1
 have hsm2 := hs.1.2.2.1
 unfold maxLen at hsm2
 have HGw := Lib.hid hG
 have HSs := Lib.hid hs
 have HAl := Lib.hid (Alive17_any w hG)
 obtain ⟨mm, hmm, hm0, hm1, hm2, hm3⟩ := rem100 mark
 clear hs hG
 go_enter Tryz.func3, Tryz.ntmps3
 go_wp2_with fail
 refine HAl.out.mono ?_
 rintro e w0 ⟨rfl, hb0⟩
 clear HAl
 have hM0 := (Mo.none w).call hb0
 have HN := Lib.hid (LNew 16777216 (by decide) (fun _ => False) w0)
 clear hb0
 go_wp2_with fail
 refine HN.out.mono ?_
 rintro e w1 ⟨g, rfl, hb1, hD1⟩
 have hM1 := hM0.act (Va.of_below (S := fun _ => False) hb1)
 generalize grow (fun _ => False) w0 w1 = S1 at *
 have HO := Lib.hid (LOpen hD1 hM1.kin hM1.mm.bel HGw.out (Fok.dk0 _) (by decide))
 have hvo := (Kv.nil (f0 := 0) (dec := Sv.l) 16777216).opens (z := Sv.nil) (d0 := dk0 16777216) (by decide) rfl
 rw [hvo] at HO
 clear hvo hM0 hD1 hb1 HN
 go_wp2_with fail
 refine HO.out.mono ?_
 rintro e w2 ⟨hva, hor⟩
 rcases hor with ⟨-, gv, rfl, hV2⟩ | ⟨h0, -⟩
 rotate_left
 · exact absurd rfl h0
 have hM2 := hM1.act hva
 generalize grow S1 w1 w2 = S2 at *
 (try dsimp only at hV2)
 have Hst := Lib.hid (show AgS w w2 S2 g gv (dk0 16777216) [] [] 0 from ⟨hM2, hV2, Kv.nil _, Rm.nil _ (by decide), Fok.dk0 _, Nat.le_refl _, Nat.le_refl _, ⟨by decide, by decide⟩⟩)
 have hbel2 := hM2.mm.bel
 clear hM1 hva hM2 hV2 HO
 by_cases q1 : 12 < sl.length
 · go_wp2_with fail
   go_ret
   exact ⟨rfl, hbel2⟩
 clear hbel2
 go_wp2_with fail
 go_loopw [56, 9] (fun y z wr => ∃ (i : Nat) (S : Nat → Prop) (d : Dk Sv) (l : List Mf) (done : List Ce), i ≤ sl.length ∧ y = .int .i64 i ∧ z = .int .i64 (done.length : Nat) ∧ Hid (AgS w wr S g gv d l done i)) (fun y z w => sl.length - (intOf y).toNat)
 case atStart => exact ⟨0, S2, dk0 16777216, [], [], Nat.zero_le _, rfl, rfl, Hst⟩
 case round =>
  clear Hst
  obtain ⟨i, S, d, l, done, hi, rfl, rfl, hK⟩ := hrel
  by_cases hlt : i < sl.length
  · obtain ⟨ad, b, o, hA0, had, hcc⟩ := Sl.atS (f := csl) csl_len (by decide) (HSs.out.below hK.out.mo.mm.bel).1 hlt
    have hok := (HSs.out.2 _ (List.getElem_mem hlt))
    have hcc0 := hcc 0 _ rfl
    rw [Nat.add_zero] at hcc0
    rw [Nat.mul_one] at had
    generalize sl[i] = x at *
    obtain ⟨B, k, cs⟩ := x
    dsimp only at hok hcc0
    have HOk := Lib.hid hok
    have HLg := Lib.hid (fun W (hh : Below w.heap.size w W) => Long_any cs 64 W (HOk.out.1.below hh))
    have hcm := hok.1.1.2.1
    have hcm2 := hok.1.1.2.2.1
    unfold maxLen at hcm2
    subst hA0
    clear hcc hok
    go_upto_region 11 with (fail)
    have hM3 := hK.out.mo
    have hV3 := hK.out.vs
    clear hcc0
    go_wp2_with fail
    refine (HLg.out _ hM3.mm.bel).mono ?_
    rintro e w4 ⟨rfl, hb4⟩
    have hM4 := hM3.call hb4
    have hV4 := hV3.below hb4
    clear hM3 hV3 hb4 HLg
    generalize longb (cs.map ceOf) 64 = lb at *
    cases lb with
    | true =>
     go_wp2_with fail
     go_ret
     exact ⟨rfl, hM4.mm.bel⟩
    | false =>
     have hl9 := hK.out.ll
     have hd9 := hK.out.dl
     have hn9 := hK.out.few9
     have hFw4 := hK.out.kv.few (by omega)
     have HCh := Lib.hid (LChain hV4 hFw4)
     have HM4 := Lib.hid (And.intro hM4 hV4)
     clear hM4 hV4
     go_wp2_with fail
     refine HCh.out.mono ?_
     rintro e w7 ⟨A7, c7, m7, rfl, hm7, ho7, hb7⟩
     have hml7 : m7.length = l.length := by
      have h9 := congrArg List.length hm7.out
      rwa [mvs_len] at h9
     have hM7 := HM4.out.1.call hb7
     have hV7 := HM4.out.2.below hb7
     have HA := Lib.hid (LAdd hV7 (HGw.out.below hM7.mm.bel) hK.out.fk (by omega) l.length 0 (done.length : Nat) cs (HOk.out.1.below hM7.mm.bel) (by omega) (by decide))
     have HM7 := Lib.hid hM7
     clear HCh HM4 hm7 ho7 hb7 hM7 hV7
     go_wp2_with fail
     refine HA.out.mono ?_
     rintro e w8 ⟨A8, c8, rfl, hva8, hV8⟩
     have hM8 := HM7.out.act hva8
     have hfa := vadd_fok (d := d) (l := l) (number := l.length) (place := 0) (s := ((done.length : Nat), cs.map ceOf)) (enc := fun x => ⟨A8, c8, x⟩) hK.out.fk
     have hga := vadd_grow (d := d) (l := l) (number := l.length) (place := 0) (s := ((done.length : Nat), cs.map ceOf)) (enc := fun x => ⟨A8, c8, x⟩)
     clear hml7 HA HM7
     by_cases hmo : (mof ((done.length : Nat), cs.map ceOf)).2.2 = 0
     rotate_left
     · -- the segment can't be: nothing has changed
       have hre : vadd svl Sv.nil (fun x => ⟨A8, c8, x⟩) ⟨d, l⟩ l.length 0 ((done.length : Nat), cs.map ceOf) = (ptz, ⟨d, l⟩, (mof ((done.length : Nat), cs.map ceOf)).2.2) := by
        unfold vadd
        rw [if_neg (by dsimp only; omega), if_pos hmo]
       rw [hre] at hV8 ⊢
       dsimp only at hV8 ⊢
       generalize (mof ((done.length : Nat), cs.map ceOf)).2.2 = ek at *
       obtain ⟨ke, hev⟩ : ∃ ke : Int, errv ek = .iface 60 (.int .i64 ke) := by
        rcases errv_cases ek with ⟨h1, -⟩ | ⟨k', -, -, h1⟩
        · exact absurd h1 hmo
        · exact ⟨k', h1⟩
       have hpp := Lib.hid (pta_size ptz)
       have hpa := Lib.hid (pta_all ptz)
       have HX := Lib.hid (show AgS w w8 (grow S w7 w8) g gv d l done (i + 1) from ⟨hM8.sub (by simp), hV8, hK.out.kv, hK.out.rm, hK.out.fk, by omega, by omega, hK.out.mr⟩)
       rw [hev]
       clear hre hM8 hV8 hva8 hfa hga hev
       go_upto_region 14 with ((refine wpl_storeN rfl 37 _ _ rfl _ (pta ptz) 37 rfl rfl (by rw [hpp.out]; kernel_rfl) (by rw [hpp.out]; rfl) hpa.out ?_))
       refine gen1 (T := fun W => AgS w W (grow S w7 w8) g gv d l done (i + 1)) ⟨(HX.out.mo.alloc _ _).sub (by simp), HX.out.vs.below (below_new _ _), HX.out.kv, HX.out.rm, HX.out.fk, HX.out.ll, HX.out.dl, HX.out.mr⟩ (fun w9 hT => ?_)
       have HY := Lib.hid hT
       clear HX hT
       go_wp2_with fail
       go_roundw
       case rel => exact ⟨i + 1, grow S w7 w8, d, l, done, hlt, by go_num, rfl, HY⟩
       case measure => ((simp [intOf]; omega))
     · -- it is added, and committed
       obtain ⟨t, ht, ht0, ht1, ht2⟩ := pick_max (cmark l) mm hK.out.mr ⟨hm0, hm1⟩
       have hK9 := hK.out.kv.adds (cs := cs.map ceOf) hK.out.rm (by omega) (by omega) A8 c8 (t := t) ht0 ⟨ht1, by omega⟩ (by rw [Int.zero_add]; exact hmo)
       rw [Int.zero_add] at hK9
       obtain ⟨d1, e1, e2, e3⟩ := hK9
       have hmI : Hid (PtsI [(mof ((done.length : Nat), cs.map ceOf)).1]) := (mof_I (b := (mof ((done.length : Nat), cs.map ceOf)).2.1) (Prod.ext rfl (Prod.ext rfl hmo)))
       have hmh := mof_held (b := (mof ((done.length : Nat), cs.map ceOf)).2.1) (Prod.ext rfl (Prod.ext rfl hmo))
       have hcl64 : cs.length ≤ 64 := by
        have := hmh.2.2.2.2.1
        simpa using this
       rw [e1] at hV8 hfa hga ⊢
       dsimp only at hV8 hfa hga ⊢
       clear hmh hmo
       generalize (mof ((done.length : Nat), cs.map ceOf)).1 = rp at *
       have E3 := Lib.hid e3
       have hcx := cnext_ok e2
       obtain ⟨x, hx⟩ : ∃ x, cnext l (done.length : Nat) t [rp] = (x, 0) := ⟨_, Prod.ext rfl e2⟩
       rw [hx] at E3
       have hxp : x.2.2.2.2.2 = [rp] := by
        have h9 := hcx.2.1
        rw [hx] at h9
        dsimp only at h9
        rw [h9]
        rfl
       have hxm : mchk x = 0 := by
        have h9 := hcx.2.2.1
        rw [← hcx.2.1, hx] at h9
        exact h9
       obtain ⟨xn, xf, xt, xr, xd, xp⟩ := x
       dsimp only at hxp
       subst hxp
       have HNx := Lib.hid hx
       have HMx := Lib.hid (mchk_MfI2 hxm)
       have HPI := hmI
       generalize grow S w7 w8 = S8 at *
       have hpp := Lib.hid (pta_size rp)
       have hpa := Lib.hid (pta_all rp)
       have hga9 : d1.sure.length + d1.pend.length ≤ 900 := by omega
       have Hfg := Lib.hid (And.intro hfa hga)
       clear e1 e2 e3 hcx hx hxm hva8 hfa hga hmI
       rw [show errv 0 = Value.nilIface from rfl]
       go_upto_region 14 with ((refine wpl_storeN rfl 37 _ _ rfl _ (pta rp) 37 rfl rfl (by rw [hpp.out]; kernel_rfl) (by rw [hpp.out]; rfl) hpa.out ?_))
       refine gen1 (T := fun W => Mo w W S8 [(w8.heap.size, 37, pta rp)] [] ∧ Vs W S8 g gv d1 l) ⟨hM8.alloc _ _, hV8.below (below_new _ _)⟩ (fun w9 hT => ?_)
       generalize w8.heap.size = g15 at *
       clear hM8 hV8
       obtain ⟨hM9, hV9⟩ := hT
       have hFw9 := hFw4
       have HGd := Lib.hid (HGw.out.below hM9.mm.bel)
       go_upto_region 15 with (fail)
       have hst : Below w9.heap.size w9 w9.drew := Below.drew (Below.refl _ _)
       go_cut [14, 13] (fun y z wz => ∃ gm A7 c7, y = .pointer (some ⟨gm, 0, none⟩) ∧ z = .nilIface ∧ Below w9.heap.size w9 wz ∧ Blk wz gm 46 (mva ((xn, xf, xt, xr, xd, [rp]), A7, c7)) ∧ w9.heap.size ≤ gm ∧ OwnP wz w9.heap.size A7 c7 [rp])
       case first =>
        refine wp_region_held_drew (S := (fun W => Below w9.heap.size w9 W)) (by kernel_rfl) ?_ (fun hHeld => ?_)
        · first | with_reducible exact hst | with_reducible exact hHeld
        refine gen0 (T := fun W => ((fun W => Below w9.heap.size w9 W)) W ∧ True) ?_ (fun wq2 hT => ?_)
        · exact ⟨by (with_reducible exact hst), trivial⟩
        (try clear f0 f1 f2 f3 f4 f5 f6 f7 f8 f9 f10 f11)
        obtain ⟨hHeld, -⟩ := hT
        have hOld := hHeld
        refine wTk (i := 0) (oi := ⟨some 76, _, _, _, _, _⟩) (v := ?_) rfl ⟨by kernel_rfl, ?_⟩ (by assumption) ?_
        rotate_left
        · (intro wS hSw; (try dsimp only at hSw); clear hSw; go_simp; (try with_reducible rfl))
        (try simp only [Act.put, pS0, pS1, pS2])
        refine wTk (i := 2) (oi := ⟨some 78, _, _, _, _, _⟩) (v := ?_) rfl ⟨by kernel_rfl, ?_⟩ (by assumption) ?_
        rotate_left
        · (intro wS hSw; (try dsimp only at hSw); clear hSw; go_simp; (try with_reducible rfl))
        (try simp only [Act.put, pS0, pS1, pS2])
        refine wTk (i := 3) (oi := ⟨some 79, _, _, _, _, _⟩) (v := ?_) rfl ⟨by kernel_rfl, ?_⟩ (by assumption) ?_
        rotate_left
        · (intro wS hSw; (try dsimp only at hSw); clear hSw; go_simp; (try with_reducible rfl))
        (try simp only [Act.put, pS0, pS1, pS2])
        refine wTk (i := 6) (oi := ⟨some 82, _, _, _, _, _⟩) (v := ?_) rfl ⟨by kernel_rfl, ?_⟩ (by assumption) ?_
        rotate_left
        · (intro wS hSw; (try dsimp only at hSw); clear hSw; go_simp; (try with_reducible rfl))
        (try simp only [Act.put, pS0, pS1, pS2])
        refine wTk (i := 7) (oi := ⟨some 83, _, _, _, _, _⟩) (v := ?_) rfl ⟨by kernel_rfl, ?_⟩ (by assumption) ?_
        rotate_left
        · (intro wS hSw; (try dsimp only at hSw); clear hSw; go_simp; (try with_reducible rfl))
        (try simp only [Act.put, pS0, pS1, pS2])
        refine wTk (i := 8) (oi := ⟨some 84, _, _, _, _, _⟩) (v := ?_) rfl ⟨by kernel_rfl, ?_⟩ (by assumption) ?_
        rotate_left
        · (intro wS hSw; (try dsimp only at hSw); clear hSw; go_simp; (try with_reducible rfl))
        (try simp only [Act.put, pS0, pS1, pS2])
        refine wTk (i := 9) (oi := ⟨some 85, _, _, _, _, _⟩) (v := ?_) rfl ⟨by kernel_rfl, ?_⟩ (by assumption) ?_
        rotate_left
        · (intro wS hSw; (try dsimp only at hSw); clear hSw; go_simp; (try with_reducible rfl))
        (try simp only [Act.put, pS0, pS1, pS2])
        refine wTk (i := 11) (oi := ⟨some 87, _, _, _, _, _⟩) (v := ?_) rfl ⟨by kernel_rfl, ?_⟩ (by assumption) ?_
        rotate_left
        · (intro wS hSw; (try dsimp only at hSw); (refine yld_load 37 (.tmp 12) ?_ ⟨g15, 0, none⟩ (pta rp) ?_ (Blk.cells (Blk.below hM9.b0 hSw)) _ Tryz.underlying37 rfl (by rw [hpp.out]; kernel_rfl) <;> rfl))
        (try simp only [Act.put, pS0, pS1, pS2])
        refine dagCut (fun K => ∀ A1 : Option Addr, ∀ c1 : Nat, ∀ m1 : List MfV, ∀ A4 : Option Addr, ∀ c4 : Nat, ∀ m4 : List MfV, ∀ g12 : Nat, ∀ A13 : Option Addr, ∀ c13 : Nat, ∀ g17 : Nat, ∀ W : World, ((fun W => Below w9.heap.size w9 W)) W ∧ OwnP W w9.heap.size A13 c13 [rp] ∧ Blk W g17 46 (mva ((0, 0, 0, 0, dg0, []), none, 0)) ∧ w9.heap.size ≤ g17 ∧ True → K [(77, .slice A1 m1.length c1), (80, .slice A4 m4.length c4), (81, .int .i64 (cmark l)), (86, .int .i64 t), (88, .slice (some ⟨g12, 0, none⟩) 1 1), (89, .tuple #[.agg (mva ((xn, xf, xt, xr, xd, [rp]), A13, c13)), .nilIface]), (75, .tuple #[.agg (mva ((xn, xf, xt, xr, xd, [rp]), A13, c13)), .nilIface]), (90, .agg (mva ((xn, xf, xt, xr, xd, [rp]), A13, c13))), (91, .nilIface), (14, .pointer (some ⟨g17, 0, none⟩))] W) 2 [1, 4, 5, 10, 12, 13, 14, 15, 16, 17] ?_ (fun hD1_4_5_12_13_17 => ?_)
        · intro A1 c1 m1 A4 c4 m4 g12 A13 c13 g17 W hT
          (try dsimp only [putL, List.foldl])
          (try simp only [putL, List.foldl, Act.put, List.setIfInBounds_toArray, List.set_cons_zero, List.set_cons_succ])
          obtain ⟨hHeld, f0, f1, f2, -⟩ := hT
          have hOld := hHeld
          refine wpAnyH_ready (rs := [18]) (by kernel_rfl) (by simp) ?_
          refine AllReadyH.cons (o := ⟨none, _, _, _, _, _⟩) rfl (fun K hK => ?_) ?_
          · ((refine step_storeM2 (by kernel_rfl) _ _ rfl _ ((0, 0, 0, 0, dg0, []), none, 0) ((xn, xf, xt, xr, xd, [rp]), A13, c13) rfl rfl (by assumption) ?_))
            refine hK.out _ _ ?_ (fun hHeld => ?_)
            · ((try dsimp only); (exact below_setRow hHeld (by assumption) _))
            clear hK K
            (try simp only [Act.put, pS0, pS1, pS2])
            refine wTk (i := 19) (oi := ⟨some 13, _, _, _, _, _⟩) (v := ?_) rfl ⟨by kernel_rfl, ?_⟩ (by assumption) ?_
            rotate_left
            · (intro wS hSw; (try dsimp only at hSw); clear hSw; go_simp; (try with_reducible rfl))
            (try simp only [Act.put, pS0, pS1, pS2])
            refine gen0 (T := fun W => ((fun W => Below w9.heap.size w9 W)) W ∧ OwnP W w9.heap.size A13 c13 [rp] ∧ Blk W g17 46 (mva ((xn, xf, xt, xr, xd, [rp]), A13, c13)) ∧ w9.heap.size ≤ g17 ∧ True) ?_ (fun wqF hT => ?_)
            · exact ⟨by (with_reducible exact hHeld), by (exact Own.wrT (by assumption) (Wr.row _) (by assumption) (by decide)), by (exact Blk.row (by assumption)), by (with_reducible assumption), trivial⟩
            (try clear f0 f1 f2 f3 f4 f5 f6 f7 f8 f9 f10 f11)
            obtain ⟨hHeld, f0, f1, f2, -⟩ := hT
            refine wpAnyH_done (by kernel_rfl) ?_ _
            (go_wp2_with fail; go_meet; exact ⟨_, A13, c13, rfl, rfl, hHeld, (by assumption), (by assumption), (by assumption)⟩)
          exact AllReadyH.nil
        (try simp only [putL, List.foldl, Act.put, List.setIfInBounds_toArray, List.set_cons_zero, List.set_cons_succ] at hD1_4_5_12_13_17)
        refine dagCut (fun K => ∀ A1 : Option Addr, ∀ c1 : Nat, ∀ m1 : List MfV, ∀ A4 : Option Addr, ∀ c4 : Nat, ∀ m4 : List MfV, ∀ g12 : Nat, ∀ A13 : Option Addr, ∀ c13 : Nat, ∀ W : World, ((fun W => Below w9.heap.size w9 W)) W ∧ OwnP W w9.heap.size A13 c13 [rp] ∧ True → K [(77, .slice A1 m1.length c1), (80, .slice A4 m4.length c4), (81, .int .i64 (cmark l)), (86, .int .i64 t), (88, .slice (some ⟨g12, 0, none⟩) 1 1), (89, .tuple #[.agg (mva ((xn, xf, xt, xr, xd, [rp]), A13, c13)), .nilIface]), (75, .tuple #[.agg (mva ((xn, xf, xt, xr, xd, [rp]), A13, c13)), .nilIface]), (90, .agg (mva ((xn, xf, xt, xr, xd, [rp]), A13, c13))), (91, .nilIface)] W) 3 [1, 4, 5, 10, 12, 13, 14, 15, 16] ?_ (fun hD1_4_5_12_13 => ?_)
        · intro A1 c1 m1 A4 c4 m4 g12 A13 c13 W hT
          (try dsimp only [putL, List.foldl])
          (try simp only [putL, List.foldl, Act.put, List.setIfInBounds_toArray, List.set_cons_zero, List.set_cons_succ])
          obtain ⟨hHeld, f0, -⟩ := hT
          have hOld := hHeld
          refine wpAnyH_ready (rs := [17]) (by kernel_rfl) (by simp) ?_
          refine AllReadyH.cons (o := ⟨some 14, _, _, _, _, _⟩) rfl (fun K hK => ?_) ?_
          · (go_simp)
            refine hK.out _ _ ?_ (fun hHeld => ?_)
            · ((try dsimp only); (with_reducible exact bel_alloc hHeld _))
            clear hK K
            (try simp only [Act.put, pS0, pS1, pS2])
            refine dagUse (hD1_4_5_12_13_17.out _ _ _ _ _ _ _ _ _ _ _ ?_) (by kernel_rfl)
            exact ⟨by (with_reducible exact hHeld), by (exact World.ownsRow.alloc (by assumption) _), by (exact Blk.new _ _ _), by (exact Below.size hOld), trivial⟩
          exact AllReadyH.nil
        (try simp only [putL, List.foldl, Act.put, List.setIfInBounds_toArray, List.set_cons_zero, List.set_cons_succ] at hD1_4_5_12_13)
        refine dagCut (fun K => ∀ A1 : Option Addr, ∀ c1 : Nat, ∀ m1 : List MfV, ∀ A4 : Option Addr, ∀ c4 : Nat, ∀ m4 : List MfV, ∀ g12 : Nat, ∀ g17 : Nat, ∀ W : World, ((fun W => Below w9.heap.size w9 W)) W ∧ NewM W w9.heap.size A1 c1 m1 ∧ Hid (mvs m1 = l) ∧ SlP W (some ⟨g12, 0, none⟩) 1 [rp] ∧ Blk W g17 46 (mva ((0, 0, 0, 0, dg0, []), none, 0)) ∧ w9.heap.size ≤ g17 ∧ True → K [(77, .slice A1 m1.length c1), (80, .slice A4 m4.length c4), (81, .int .i64 (cmark l)), (86, .int .i64 t), (88, .slice (some ⟨g12, 0, none⟩) 1 1), (14, .pointer (some ⟨g17, 0, none⟩))] W) 6 [1, 4, 5, 10, 12, 17] ?_ (fun hD1_4_5_12_17 => ?_)
        · intro A1 c1 m1 A4 c4 m4 g12 g17 W hT
          (try dsimp only [putL, List.foldl])
          (try simp only [putL, List.foldl, Act.put, List.setIfInBounds_toArray, List.set_cons_zero, List.set_cons_succ])
          obtain ⟨hHeld, f0, f1, f2, f3, f4, -⟩ := hT
          have hOld := hHeld
          refine wpAnyH_ready (rs := [13]) (by kernel_rfl) (by simp) ?_
          refine AllReadyH.cons (o := ⟨some 89, _, _, _, _, _⟩) rfl (fun K hK => ?_) ?_
          · go_simp
            (have hNx := ChNext_any (E := A1) (cap := c1) m1 (done.length : Nat) t [rp] _ (HGd.out.below hHeld) (NewM.slm (by assumption)) (by assumption) HPI.out (by simp); have hm1 : Hid (mvs m1 = l) := (by assumption); rw [hm1.out, HNx.out] at hNx; refine hNx.mono ?_; clear hNx hm1; rintro e wE ⟨A13, c13, mm13, rfl, hm13, hoE, hbE⟩; obtain rfl : mm13 = [rp] := hm13.out)
            go_wp2_with fail
            refine hK.out _ _ ?_ (fun hHeld => ?_)
            · ((try dsimp only); (with_reducible exact bel_call hHeld hbE))
            clear hK K
            (try simp only [Act.put, pS0, pS1, pS2])
            refine wpAnyH_take (i := 14) (oi := ⟨some 75, _, _, _, _, _⟩) (v := .tuple #[.agg (mva ((xn, xf, xt, xr, xd, [rp]), A13, c13)), .nilIface]) rfl (by kernel_rfl) (by kernel_rfl) (by kernel_rfl) (fun _ _ _ h => h) (Or.inl ⟨by kernel_rfl, ?_⟩) (by assumption) ?_
            · (intro wS hSw; (try dsimp only at hSw); clear hSw; go_simp; (try with_reducible rfl); (try exact ⟨rfl, rfl⟩))
            (try simp only [Act.put, pS0, pS1, pS2])
            refine wpAnyH_take (i := 15) (oi := ⟨some 90, _, _, _, _, _⟩) (v := .agg (mva ((xn, xf, xt, xr, xd, [rp]), A13, c13))) rfl (by kernel_rfl) (by kernel_rfl) (by kernel_rfl) (fun _ _ _ h => h) (Or.inl ⟨by kernel_rfl, ?_⟩) (by assumption) ?_
            · (intro wS hSw; (try dsimp only at hSw); clear hSw; go_simp; (try with_reducible rfl); (try exact ⟨rfl, rfl⟩))
            (try simp only [Act.put, pS0, pS1, pS2])
            refine wpAnyH_take (i := 16) (oi := ⟨some 91, _, _, _, _, _⟩) (v := .nilIface) rfl (by kernel_rfl) (by kernel_rfl) (by kernel_rfl) (fun _ _ _ h => h) (Or.inl ⟨by kernel_rfl, ?_⟩) (by assumption) ?_
            · (intro wS hSw; (try dsimp only at hSw); clear hSw; go_simp; (try with_reducible rfl); (try exact ⟨rfl, rfl⟩))
            (try simp only [Act.put, pS0, pS1, pS2])
            refine dagUse (hD1_4_5_12_13_17.out _ _ _ _ _ _ _ _ _ _ _ ?_) (by kernel_rfl)
            exact ⟨by (with_reducible exact hHeld), by (exact Own.more hoE (Below.size hOld)), by (exact Blk.below (by assumption) hbE), by (with_reducible assumption), trivial⟩
          exact AllReadyH.nil
        (try simp only [putL, List.foldl, Act.put, List.setIfInBounds_toArray, List.set_cons_zero, List.set_cons_succ] at hD1_4_5_12_17)
        refine dagCut (fun K => ∀ A1 : Option Addr, ∀ c1 : Nat, ∀ m1 : List MfV, ∀ A4 : Option Addr, ∀ c4 : Nat, ∀ m4 : List MfV, ∀ g12 : Nat, ∀ W : World, ((fun W => Below w9.heap.size w9 W)) W ∧ NewM W w9.heap.size A1 c1 m1 ∧ Hid (mvs m1 = l) ∧ SlP W (some ⟨g12, 0, none⟩) 1 [rp] ∧ True → K [(77, .slice A1 m1.length c1), (80, .slice A4 m4.length c4), (81, .int .i64 (cmark l)), (86, .int .i64 t), (88, .slice (some ⟨g12, 0, none⟩) 1 1)] W) 7 [1, 4, 5, 10, 12] ?_ (fun hD1_4_5_12 => ?_)
        · intro A1 c1 m1 A4 c4 m4 g12 W hT
          (try dsimp only [putL, List.foldl])
          (try simp only [putL, List.foldl, Act.put, List.setIfInBounds_toArray, List.set_cons_zero, List.set_cons_succ])
          obtain ⟨hHeld, f0, f1, f2, -⟩ := hT
          have hOld := hHeld
          refine wpAnyH_ready (rs := [13, 17]) (by kernel_rfl) (by simp) ?_
          refine AllReadyH.cons (o := ⟨some 89, _, _, _, _, _⟩) rfl (fun K hK => ?_) ?_
          · go_simp
            (have hNx := ChNext_any (E := A1) (cap := c1) m1 (done.length : Nat) t [rp] _ (HGd.out.below hHeld) (NewM.slm (by assumption)) (by assumption) HPI.out (by simp); have hm1 : Hid (mvs m1 = l) := (by assumption); rw [hm1.out, HNx.out] at hNx; refine hNx.mono ?_; clear hNx hm1; rintro e wE ⟨A13, c13, mm13, rfl, hm13, hoE, hbE⟩; obtain rfl : mm13 = [rp] := hm13.out)
            go_wp2_with fail
            refine hK.out _ _ ?_ (fun hHeld => ?_)
            · ((try dsimp only); (with_reducible exact bel_call hHeld hbE))
            clear hK K
            (try simp only [Act.put, pS0, pS1, pS2])
            refine wpAnyH_take (i := 14) (oi := ⟨some 75, _, _, _, _, _⟩) (v := .tuple #[.agg (mva ((xn, xf, xt, xr, xd, [rp]), A13, c13)), .nilIface]) rfl (by kernel_rfl) (by kernel_rfl) (by kernel_rfl) (fun _ _ _ h => h) (Or.inl ⟨by kernel_rfl, ?_⟩) (by assumption) ?_
            · (intro wS hSw; (try dsimp only at hSw); clear hSw; go_simp; (try with_reducible rfl); (try exact ⟨rfl, rfl⟩))
            (try simp only [Act.put, pS0, pS1, pS2])
            refine wpAnyH_take (i := 15) (oi := ⟨some 90, _, _, _, _, _⟩) (v := .agg (mva ((xn, xf, xt, xr, xd, [rp]), A13, c13))) rfl (by kernel_rfl) (by kernel_rfl) (by kernel_rfl) (fun _ _ _ h => h) (Or.inl ⟨by kernel_rfl, ?_⟩) (by assumption) ?_
            · (intro wS hSw; (try dsimp only at hSw); clear hSw; go_simp; (try with_reducible rfl); (try exact ⟨rfl, rfl⟩))
            (try simp only [Act.put, pS0, pS1, pS2])
            refine wpAnyH_take (i := 16) (oi := ⟨some 91, _, _, _, _, _⟩) (v := .nilIface) rfl (by kernel_rfl) (by kernel_rfl) (by kernel_rfl) (fun _ _ _ h => h) (Or.inl ⟨by kernel_rfl, ?_⟩) (by assumption) ?_
            · (intro wS hSw; (try dsimp only at hSw); clear hSw; go_simp; (try with_reducible rfl); (try exact ⟨rfl, rfl⟩))
            (try simp only [Act.put, pS0, pS1, pS2])
            refine dagUse (hD1_4_5_12_13.out _ _ _ _ _ _ _ _ _ _ ?_) (by kernel_rfl)
            exact ⟨by (with_reducible exact hHeld), by (exact Own.more hoE (Below.size hOld)), trivial⟩
          refine AllReadyH.cons (o := ⟨some 14, _, _, _, _, _⟩) rfl (fun K hK => ?_) ?_
          · (go_simp)
            refine hK.out _ _ ?_ (fun hHeld => ?_)
            · ((try dsimp only); (with_reducible exact bel_alloc hHeld _))
            clear hK K
            (try simp only [Act.put, pS0, pS1, pS2])
            refine dagUse (hD1_4_5_12_17.out _ _ _ _ _ _ _ _ _ ?_) (by kernel_rfl)
            exact ⟨by (with_reducible exact hHeld), by (exact NewM.below (by assumption) (below_new _ _)), by (with_reducible assumption), by (exact SlP.below (by assumption) (below_new _ _)), by (exact Blk.new _ _ _), by (exact Below.size hOld), trivial⟩
          exact AllReadyH.nil
        (try simp only [putL, List.foldl, Act.put, List.setIfInBounds_toArray, List.set_cons_zero, List.set_cons_succ] at hD1_4_5_12)
        refine dagCut (fun K => ∀ A1 : Option Addr, ∀ c1 : Nat, ∀ m1 : List MfV, ∀ A4 : Option Addr, ∀ c4 : Nat, ∀ m4 : List MfV, ∀ g17 : Nat, ∀ W : World, ((fun W => Below w9.heap.size w9 W)) W ∧ NewM W w9.heap.size A1 c1 m1 ∧ Hid (mvs m1 = l) ∧ Blk W g17 46 (mva ((0, 0, 0, 0, dg0, []), none, 0)) ∧ w9.heap.size ≤ g17 ∧ True → K [(77, .slice A1 m1.length c1), (80, .slice A4 m4.length c4), (81, .int .i64 (cmark l)), (86, .int .i64 t), (14, .pointer (some ⟨g17, 0, none⟩))] W) 7 [1, 4, 5, 10, 17] ?_ (fun hD1_4_5_17 => ?_)
        · intro A1 c1 m1 A4 c4 m4 g17 W hT
          (try dsimp only [putL, List.foldl])
          (try simp only [putL, List.foldl, Act.put, List.setIfInBounds_toArray, List.set_cons_zero, List.set_cons_succ])
          obtain ⟨hHeld, f0, f1, f2, f3, -⟩ := hT
          have hOld := hHeld
          refine wpAnyH_ready (rs := [12]) (by kernel_rfl) (by simp) ?_
          refine AllReadyH.cons (o := ⟨some 88, _, _, _, _, _⟩) rfl (fun K hK => ?_) ?_
          · ((refine step_lit1 (by kernel_rfl) _ rfl rp rfl ?_))
            refine hK.out _ _ ?_ (fun hHeld => ?_)
            · ((try dsimp only); (with_reducible exact bel_alloc hHeld _))
            clear hK K
            (try simp only [Act.put, pS0, pS1, pS2])
            refine dagUse (hD1_4_5_12_17.out _ _ _ _ _ _ _ _ _ ?_) (by kernel_rfl)
            exact ⟨by (with_reducible exact hHeld), by (exact NewM.below (by assumption) (below_new _ _)), by (with_reducible assumption), by (with_reducible exact litP _ _), by (exact Blk.alloc (by assumption) _), by (with_reducible assumption), trivial⟩
          exact AllReadyH.nil
        (try simp only [putL, List.foldl, Act.put, List.setIfInBounds_toArray, List.set_cons_zero, List.set_cons_succ] at hD1_4_5_17)
        refine dagCut (fun K => ∀ A1 : Option Addr, ∀ c1 : Nat, ∀ m1 : List MfV, ∀ A4 : Option Addr, ∀ c4 : Nat, ∀ m4 : List MfV, ∀ W : World, ((fun W => Below w9.heap.size w9 W)) W ∧ NewM W w9.heap.size A1 c1 m1 ∧ Hid (mvs m1 = l) ∧ True → K [(77, .slice A1 m1.length c1), (80, .slice A4 m4.length c4), (81, .int .i64 (cmark l)), (86, .int .i64 t)] W) 8 [1, 4, 5, 10] ?_ (fun hD1_4_5 => ?_)
        · intro A1 c1 m1 A4 c4 m4 W hT
          (try dsimp only [putL, List.foldl])
          (try simp only [putL, List.foldl, Act.put, List.setIfInBounds_toArray, List.set_cons_zero, List.set_cons_succ])
          obtain ⟨hHeld, f0, f1, -⟩ := hT
          have hOld := hHeld
          refine wpAnyH_ready (rs := [12, 17]) (by kernel_rfl) (by simp) ?_
          refine AllReadyH.cons (o := ⟨some 88, _, _, _, _, _⟩) rfl (fun K hK => ?_) ?_
          · ((refine step_lit1 (by kernel_rfl) _ rfl rp rfl ?_))
            refine hK.out _ _ ?_ (fun hHeld => ?_)
            · ((try dsimp only); (with_reducible exact bel_alloc hHeld _))
            clear hK K
            (try simp only [Act.put, pS0, pS1, pS2])
            refine dagUse (hD1_4_5_12.out _ _ _ _ _ _ _ _ ?_) (by kernel_rfl)
            exact ⟨by (with_reducible exact hHeld), by (exact NewM.below (by assumption) (below_new _ _)), by (with_reducible assumption), by (with_reducible exact litP _ _), trivial⟩
          refine AllReadyH.cons (o := ⟨some 14, _, _, _, _, _⟩) rfl (fun K hK => ?_) ?_
          · (go_simp)
            refine hK.out _ _ ?_ (fun hHeld => ?_)
            · ((try dsimp only); (with_reducible exact bel_alloc hHeld _))
            clear hK K
            (try simp only [Act.put, pS0, pS1, pS2])
            refine dagUse (hD1_4_5_17.out _ _ _ _ _ _ _ _ ?_) (by kernel_rfl)
            exact ⟨by (with_reducible exact hHeld), by (exact NewM.below (by assumption) (below_new _ _)), by (with_reducible assumption), by (exact Blk.new _ _ _), by (exact Below.size hOld), trivial⟩
          exact AllReadyH.nil
        (try simp only [putL, List.foldl, Act.put, List.setIfInBounds_toArray, List.set_cons_zero, List.set_cons_succ] at hD1_4_5)
        refine dagCut (fun K => ∀ A1 : Option Addr, ∀ c1 : Nat, ∀ m1 : List MfV, ∀ A4 : Option Addr, ∀ c4 : Nat, ∀ m4 : List MfV, ∀ g12 : Nat, ∀ g17 : Nat, ∀ W : World, ((fun W => Below w9.heap.size w9 W)) W ∧ NewM W w9.heap.size A1 c1 m1 ∧ Hid (mvs m1 = l) ∧ NewM W w9.heap.size A4 c4 m4 ∧ Hid (mvs m4 = l) ∧ SlP W (some ⟨g12, 0, none⟩) 1 [rp] ∧ Blk W g17 46 (mva ((0, 0, 0, 0, dg0, []), none, 0)) ∧ w9.heap.size ≤ g17 ∧ True → K [(77, .slice A1 m1.length c1), (80, .slice A4 m4.length c4), (88, .slice (some ⟨g12, 0, none⟩) 1 1), (14, .pointer (some ⟨g17, 0, none⟩))] W) 8 [1, 4, 12, 17] ?_ (fun hD1_4_12_17 => ?_)
        · intro A1 c1 m1 A4 c4 m4 g12 g17 W hT
          (try dsimp only [putL, List.foldl])
          (try simp only [putL, List.foldl, Act.put, List.setIfInBounds_toArray, List.set_cons_zero, List.set_cons_succ])
          obtain ⟨hHeld, f0, f1, f2, f3, f4, f5, f6, -⟩ := hT
          have hOld := hHeld
          refine wpAnyH_ready (rs := [5]) (by kernel_rfl) (by simp) ?_
          refine AllReadyH.cons (o := ⟨some 81, _, _, _, _, _⟩) rfl (fun K hK => ?_) ?_
          · go_simp
            (have hMk := ChMark_any m4 _ (NewM.slm (by assumption)); have hm4 : Hid (mvs m4 = l) := (by assumption); rw [hm4.out] at hMk; refine hMk.mono ?_; clear hMk hm4; rintro e wE ⟨rfl, hbE⟩)
            go_wp2_with fail
            refine hK.out _ _ ?_ (fun hHeld => ?_)
            · ((try dsimp only); (with_reducible exact bel_call hHeld hbE))
            clear hK K
            (try simp only [Act.put, pS0, pS1, pS2])
            refine wpAnyH_take (i := 10) (oi := ⟨some 86, _, _, _, _, _⟩) (v := .int .i64 t) rfl (by kernel_rfl) (by kernel_rfl) (by kernel_rfl) (fun _ _ _ h => h) (Or.inl ⟨by kernel_rfl, ?_⟩) (by assumption) ?_
            · (intro wS hSw; (try dsimp only at hSw); clear hSw; go_simp; (try with_reducible rfl); (try exact ⟨rfl, rfl⟩))
            (try simp only [Act.put, pS0, pS1, pS2])
            refine dagUse (hD1_4_5_12_17.out _ _ _ _ _ _ _ _ _ ?_) (by kernel_rfl)
            exact ⟨by (with_reducible exact hHeld), by (exact NewM.below (by assumption) hbE), by (with_reducible assumption), by (exact SlP.below (by assumption) hbE), by (exact Blk.below (by assumption) hbE), by (with_reducible assumption), trivial⟩
          exact AllReadyH.nil
        (try simp only [putL, List.foldl, Act.put, List.setIfInBounds_toArray, List.set_cons_zero, List.set_cons_succ] at hD1_4_12_17)
        refine dagCut (fun K => ∀ A1 : Option Addr, ∀ c1 : Nat, ∀ m1 : List MfV, ∀ A4 : Option Addr, ∀ c4 : Nat, ∀ m4 : List MfV, ∀ g12 : Nat, ∀ W : World, ((fun W => Below w9.heap.size w9 W)) W ∧ NewM W w9.heap.size A1 c1 m1 ∧ Hid (mvs m1 = l) ∧ NewM W w9.heap.size A4 c4 m4 ∧ Hid (mvs m4 = l) ∧ SlP W (some ⟨g12, 0, none⟩) 1 [rp] ∧ True → K [(77, .slice A1 m1.length c1), (80, .slice A4 m4.length c4), (88, .slice (some ⟨g12, 0, none⟩) 1 1)] W) 9 [1, 4, 12] ?_ (fun hD1_4_12 => ?_)
        · intro A1 c1 m1 A4 c4 m4 g12 W hT
          (try dsimp only [putL, List.foldl])
          (try simp only [putL, List.foldl, Act.put, List.setIfInBounds_toArray, List.set_cons_zero, List.set_cons_succ])
          obtain ⟨hHeld, f0, f1, f2, f3, f4, -⟩ := hT
          have hOld := hHeld
          refine wpAnyH_ready (rs := [5, 17]) (by kernel_rfl) (by simp) ?_
          refine AllReadyH.cons (o := ⟨some 81, _, _, _, _, _⟩) rfl (fun K hK => ?_) ?_
          · go_simp
            (have hMk := ChMark_any m4 _ (NewM.slm (by assumption)); have hm4 : Hid (mvs m4 = l) := (by assumption); rw [hm4.out] at hMk; refine hMk.mono ?_; clear hMk hm4; rintro e wE ⟨rfl, hbE⟩)
            go_wp2_with fail
            refine hK.out _ _ ?_ (fun hHeld => ?_)
            · ((try dsimp only); (with_reducible exact bel_call hHeld hbE))
            clear hK K
            (try simp only [Act.put, pS0, pS1, pS2])
            refine wpAnyH_take (i := 10) (oi := ⟨some 86, _, _, _, _, _⟩) (v := .int .i64 t) rfl (by kernel_rfl) (by kernel_rfl) (by kernel_rfl) (fun _ _ _ h => h) (Or.inl ⟨by kernel_rfl, ?_⟩) (by assumption) ?_
            · (intro wS hSw; (try dsimp only at hSw); clear hSw; go_simp; (try with_reducible rfl); (try exact ⟨rfl, rfl⟩))
            (try simp only [Act.put, pS0, pS1, pS2])
            refine dagUse (hD1_4_5_12.out _ _ _ _ _ _ _ _ ?_) (by kernel_rfl)
            exact ⟨by (with_reducible exact hHeld), by (exact NewM.below (by assumption) hbE), by (with_reducible assumption), by (exact SlP.below (by assumption) hbE), trivial⟩
          refine AllReadyH.cons (o := ⟨some 14, _, _, _, _, _⟩) rfl (fun K hK => ?_) ?_
          · (go_simp)
            refine hK.out _ _ ?_ (fun hHeld => ?_)
            · ((try dsimp only); (with_reducible exact bel_alloc hHeld _))
            clear hK K
            (try simp only [Act.put, pS0, pS1, pS2])
            refine dagUse (hD1_4_12_17.out _ _ _ _ _ _ _ _ _ ?_) (by kernel_rfl)
            exact ⟨by (with_reducible exact hHeld), by (exact NewM.below (by assumption) (below_new _ _)), by (with_reducible assumption), by (exact NewM.below (by assumption) (below_new _ _)), by (with_reducible assumption), by (exact SlP.below (by assumption) (below_new _ _)), by (exact Blk.new _ _ _), by (exact Below.size hOld), trivial⟩
          exact AllReadyH.nil
        (try simp only [putL, List.foldl, Act.put, List.setIfInBounds_toArray, List.set_cons_zero, List.set_cons_succ] at hD1_4_12)
        refine dagCut (fun K => ∀ A1 : Option Addr, ∀ c1 : Nat, ∀ m1 : List MfV, ∀ A4 : Option Addr, ∀ c4 : Nat, ∀ m4 : List MfV, ∀ g17 : Nat, ∀ W : World, ((fun W => Below w9.heap.size w9 W)) W ∧ NewM W w9.heap.size A1 c1 m1 ∧ Hid (mvs m1 = l) ∧ NewM W w9.heap.size A4 c4 m4 ∧ Hid (mvs m4 = l) ∧ Blk W g17 46 (mva ((0, 0, 0, 0, dg0, []), none, 0)) ∧ w9.heap.size ≤ g17 ∧ True → K [(77, .slice A1 m1.length c1), (80, .slice A4 m4.length c4), (14, .pointer (some ⟨g17, 0, none⟩))] W) 9 [1, 4, 17] ?_ (fun hD1_4_17 => ?_)
        · intro A1 c1 m1 A4 c4 m4 g17 W hT
          (try dsimp only [putL, List.foldl])
          (try simp only [putL, List.foldl, Act.put, List.setIfInBounds_toArray, List.set_cons_zero, List.set_cons_succ])
          obtain ⟨hHeld, f0, f1, f2, f3, f4, f5, -⟩ := hT
          have hOld := hHeld
          refine wpAnyH_ready (rs := [5, 12]) (by kernel_rfl) (by simp) ?_
          refine AllReadyH.cons (o := ⟨some 81, _, _, _, _, _⟩) rfl (fun K hK => ?_) ?_
          · go_simp
            (have hMk := ChMark_any m4 _ (NewM.slm (by assumption)); have hm4 : Hid (mvs m4 = l) := (by assumption); rw [hm4.out] at hMk; refine hMk.mono ?_; clear hMk hm4; rintro e wE ⟨rfl, hbE⟩)
            go_wp2_with fail
            refine hK.out _ _ ?_ (fun hHeld => ?_)
            · ((try dsimp only); (with_reducible exact bel_call hHeld hbE))
            clear hK K
            (try simp only [Act.put, pS0, pS1, pS2])
            refine wpAnyH_take (i := 10) (oi := ⟨some 86, _, _, _, _, _⟩) (v := .int .i64 t) rfl (by kernel_rfl) (by kernel_rfl) (by kernel_rfl) (fun _ _ _ h => h) (Or.inl ⟨by kernel_rfl, ?_⟩) (by assumption) ?_
            · (intro wS hSw; (try dsimp only at hSw); clear hSw; go_simp; (try with_reducible rfl); (try exact ⟨rfl, rfl⟩))
            (try simp only [Act.put, pS0, pS1, pS2])
            refine dagUse (hD1_4_5_17.out _ _ _ _ _ _ _ _ ?_) (by kernel_rfl)
            exact ⟨by (with_reducible exact hHeld), by (exact NewM.below (by assumption) hbE), by (with_reducible assumption), by (exact Blk.below (by assumption) hbE), by (with_reducible assumption), trivial⟩
          refine AllReadyH.cons (o := ⟨some 88, _, _, _, _, _⟩) rfl (fun K hK => ?_) ?_
          · ((refine step_lit1 (by kernel_rfl) _ rfl rp rfl ?_))
            refine hK.out _ _ ?_ (fun hHeld => ?_)
            · ((try dsimp only); (with_reducible exact bel_alloc hHeld _))
            clear hK K
            (try simp only [Act.put, pS0, pS1, pS2])
            refine dagUse (hD1_4_12_17.out _ _ _ _ _ _ _ _ _ ?_) (by kernel_rfl)
            exact ⟨by (with_reducible exact hHeld), by (exact NewM.below (by assumption) (below_new _ _)), by (with_reducible assumption), by (exact NewM.below (by assumption) (below_new _ _)), by (with_reducible assumption), by (with_reducible exact litP _ _), by (exact Blk.alloc (by assumption) _), by (with_reducible assumption), trivial⟩
          exact AllReadyH.nil
        (try simp only [putL, List.foldl, Act.put, List.setIfInBounds_toArray, List.set_cons_zero, List.set_cons_succ] at hD1_4_17)
        refine dagCut (fun K => ∀ A1 : Option Addr, ∀ c1 : Nat, ∀ m1 : List MfV, ∀ g12 : Nat, ∀ g17 : Nat, ∀ W : World, ((fun W => Below w9.heap.size w9 W)) W ∧ NewM W w9.heap.size A1 c1 m1 ∧ Hid (mvs m1 = l) ∧ SlP W (some ⟨g12, 0, none⟩) 1 [rp] ∧ Blk W g17 46 (mva ((0, 0, 0, 0, dg0, []), none, 0)) ∧ w9.heap.size ≤ g17 ∧ True → K [(77, .slice A1 m1.length c1), (88, .slice (some ⟨g12, 0, none⟩) 1 1), (14, .pointer (some ⟨g17, 0, none⟩))] W) 9 [1, 12, 17] ?_ (fun hD1_12_17 => ?_)
        · intro A1 c1 m1 g12 g17 W hT
          (try dsimp only [putL, List.foldl])
          (try simp only [putL, List.foldl, Act.put, List.setIfInBounds_toArray, List.set_cons_zero, List.set_cons_succ])
          obtain ⟨hHeld, f0, f1, f2, f3, f4, -⟩ := hT
          have hOld := hHeld
          refine wpAnyH_ready (rs := [4]) (by kernel_rfl) (by simp) ?_
          refine AllReadyH.cons (o := ⟨some 80, _, _, _, _, _⟩) rfl (fun K hK => ?_) ?_
          · go_simp
            (refine (LChain (hV9.below hHeld) hFw9).mono ?_; rintro e wE ⟨A4, c4, m4, rfl, hmE, hoE, hbE⟩)
            go_wp2_with fail
            refine hK.out _ _ ?_ (fun hHeld => ?_)
            · ((try dsimp only); (with_reducible exact bel_call hHeld hbE))
            clear hK K
            (try simp only [Act.put, pS0, pS1, pS2])
            refine dagUse (hD1_4_12_17.out _ _ _ _ _ _ _ _ _ ?_) (by kernel_rfl)
            exact ⟨by (with_reducible exact hHeld), by (exact NewM.below (by assumption) hbE), by (with_reducible assumption), by (exact NewM.more hoE (Below.size hOld)), by (with_reducible assumption), by (exact SlP.below (by assumption) hbE), by (exact Blk.below (by assumption) hbE), by (with_reducible assumption), trivial⟩
          exact AllReadyH.nil
        (try simp only [putL, List.foldl, Act.put, List.setIfInBounds_toArray, List.set_cons_zero, List.set_cons_succ] at hD1_12_17)
        refine dagCut (fun K => ∀ A1 : Option Addr, ∀ c1 : Nat, ∀ m1 : List MfV, ∀ A4 : Option Addr, ∀ c4 : Nat, ∀ m4 : List MfV, ∀ W : World, ((fun W => Below w9.heap.size w9 W)) W ∧ NewM W w9.heap.size A1 c1 m1 ∧ Hid (mvs m1 = l) ∧ NewM W w9.heap.size A4 c4 m4 ∧ Hid (mvs m4 = l) ∧ True → K [(77, .slice A1 m1.length c1), (80, .slice A4 m4.length c4)] W) 10 [1, 4] ?_ (fun hD1_4 => ?_)
        · intro A1 c1 m1 A4 c4 m4 W hT
          (try dsimp only [putL, List.foldl])
          (try simp only [putL, List.foldl, Act.put, List.setIfInBounds_toArray, List.set_cons_zero, List.set_cons_succ])
          obtain ⟨hHeld, f0, f1, f2, f3, -⟩ := hT
          have hOld := hHeld
          refine wpAnyH_ready (rs := [5, 12, 17]) (by kernel_rfl) (by simp) ?_
          refine AllReadyH.cons (o := ⟨some 81, _, _, _, _, _⟩) rfl (fun K hK => ?_) ?_
          · go_simp
            (have hMk := ChMark_any m4 _ (NewM.slm (by assumption)); have hm4 : Hid (mvs m4 = l) := (by assumption); rw [hm4.out] at hMk; refine hMk.mono ?_; clear hMk hm4; rintro e wE ⟨rfl, hbE⟩)
            go_wp2_with fail
            refine hK.out _ _ ?_ (fun hHeld => ?_)
            · ((try dsimp only); (with_reducible exact bel_call hHeld hbE))
            clear hK K
            (try simp only [Act.put, pS0, pS1, pS2])
            refine wpAnyH_take (i := 10) (oi := ⟨some 86, _, _, _, _, _⟩) (v := .int .i64 t) rfl (by kernel_rfl) (by kernel_rfl) (by kernel_rfl) (fun _ _ _ h => h) (Or.inl ⟨by kernel_rfl, ?_⟩) (by assumption) ?_
            · (intro wS hSw; (try dsimp only at hSw); clear hSw; go_simp; (try with_reducible rfl); (try exact ⟨rfl, rfl⟩))
            (try simp only [Act.put, pS0, pS1, pS2])
            refine dagUse (hD1_4_5.out _ _ _ _ _ _ _ ?_) (by kernel_rfl)
            exact ⟨by (with_reducible exact hHeld), by (exact NewM.below (by assumption) hbE), by (with_reducible assumption), trivial⟩
          refine AllReadyH.cons (o := ⟨some 88, _, _, _, _, _⟩) rfl (fun K hK => ?_) ?_
          · ((refine step_lit1 (by kernel_rfl) _ rfl rp rfl ?_))
            refine hK.out _ _ ?_ (fun hHeld => ?_)
            · ((try dsimp only); (with_reducible exact bel_alloc hHeld _))
            clear hK K
            (try simp only [Act.put, pS0, pS1, pS2])
            refine dagUse (hD1_4_12.out _ _ _ _ _ _ _ _ ?_) (by kernel_rfl)
            exact ⟨by (with_reducible exact hHeld), by (exact NewM.below (by assumption) (below_new _ _)), by (with_reducible assumption), by (exact NewM.below (by assumption) (below_new _ _)), by (with_reducible assumption), by (with_reducible exact litP _ _), trivial⟩
          refine AllReadyH.cons (o := ⟨some 14, _, _, _, _, _⟩) rfl (fun K hK => ?_) ?_
          · (go_simp)
            refine hK.out _ _ ?_ (fun hHeld => ?_)
            · ((try dsimp only); (with_reducible exact bel_alloc hHeld _))
            clear hK K
            (try simp only [Act.put, pS0, pS1, pS2])
            refine dagUse (hD1_4_17.out _ _ _ _ _ _ _ _ ?_) (by kernel_rfl)
            exact ⟨by (with_reducible exact hHeld), by (exact NewM.below (by assumption) (below_new _ _)), by (with_reducible assumption), by (exact NewM.below (by assumption) (below_new _ _)), by (with_reducible assumption), by (exact Blk.new _ _ _), by (exact Below.size hOld), trivial⟩
          exact AllReadyH.nil
        (try simp only [putL, List.foldl, Act.put, List.setIfInBounds_toArray, List.set_cons_zero, List.set_cons_succ] at hD1_4)
        refine dagCut (fun K => ∀ A1 : Option Addr, ∀ c1 : Nat, ∀ m1 : List MfV, ∀ g12 : Nat, ∀ W : World, ((fun W => Below w9.heap.size w9 W)) W ∧ NewM W w9.heap.size A1 c1 m1 ∧ Hid (mvs m1 = l) ∧ SlP W (some ⟨g12, 0, none⟩) 1 [rp] ∧ True → K [(77, .slice A1 m1.length c1), (88, .slice (some ⟨g12, 0, none⟩) 1 1)] W) 10 [1, 12] ?_ (fun hD1_12 => ?_)
        · intro A1 c1 m1 g12 W hT
          (try dsimp only [putL, List.foldl])
          (try simp only [putL, List.foldl, Act.put, List.setIfInBounds_toArray, List.set_cons_zero, List.set_cons_succ])
          obtain ⟨hHeld, f0, f1, f2, -⟩ := hT
          have hOld := hHeld
          refine wpAnyH_ready (rs := [4, 17]) (by kernel_rfl) (by simp) ?_
          refine AllReadyH.cons (o := ⟨some 80, _, _, _, _, _⟩) rfl (fun K hK => ?_) ?_
          · go_simp
            (refine (LChain (hV9.below hHeld) hFw9).mono ?_; rintro e wE ⟨A4, c4, m4, rfl, hmE, hoE, hbE⟩)
            go_wp2_with fail
            refine hK.out _ _ ?_ (fun hHeld => ?_)
            · ((try dsimp only); (with_reducible exact bel_call hHeld hbE))
            clear hK K
            (try simp only [Act.put, pS0, pS1, pS2])
            refine dagUse (hD1_4_12.out _ _ _ _ _ _ _ _ ?_) (by kernel_rfl)
            exact ⟨by (with_reducible exact hHeld), by (exact NewM.below (by assumption) hbE), by (with_reducible assumption), by (exact NewM.more hoE (Below.size hOld)), by (with_reducible assumption), by (exact SlP.below (by assumption) hbE), trivial⟩
          refine AllReadyH.cons (o := ⟨some 14, _, _, _, _, _⟩) rfl (fun K hK => ?_) ?_
          · (go_simp)
            refine hK.out _ _ ?_ (fun hHeld => ?_)
            · ((try dsimp only); (with_reducible exact bel_alloc hHeld _))
            clear hK K
            (try simp only [Act.put, pS0, pS1, pS2])
            refine dagUse (hD1_12_17.out _ _ _ _ _ _ ?_) (by kernel_rfl)
            exact ⟨by (with_reducible exact hHeld), by (exact NewM.below (by assumption) (below_new _ _)), by (with_reducible assumption), by (exact SlP.below (by assumption) (below_new _ _)), by (exact Blk.new _ _ _), by (exact Below.size hOld), trivial⟩
          exact AllReadyH.nil
        (try simp only [putL, List.foldl, Act.put, List.setIfInBounds_toArray, List.set_cons_zero, List.set_cons_succ] at hD1_12)
        refine dagCut (fun K => ∀ A1 : Option Addr, ∀ c1 : Nat, ∀ m1 : List MfV, ∀ g17 : Nat, ∀ W : World, ((fun W => Below w9.heap.size w9 W)) W ∧ NewM W w9.heap.size A1 c1 m1 ∧ Hid (mvs m1 = l) ∧ Blk W g17 46 (mva ((0, 0, 0, 0, dg0, []), none, 0)) ∧ w9.heap.size ≤ g17 ∧ True → K [(77, .slice A1 m1.length c1), (14, .pointer (some ⟨g17, 0, none⟩))] W) 10 [1, 17] ?_ (fun hD1_17 => ?_)
        · intro A1 c1 m1 g17 W hT
          (try dsimp only [putL, List.foldl])
          (try simp only [putL, List.foldl, Act.put, List.setIfInBounds_toArray, List.set_cons_zero, List.set_cons_succ])
          obtain ⟨hHeld, f0, f1, f2, f3, -⟩ := hT
          have hOld := hHeld
          refine wpAnyH_ready (rs := [4, 12]) (by kernel_rfl) (by simp) ?_
          refine AllReadyH.cons (o := ⟨some 80, _, _, _, _, _⟩) rfl (fun K hK => ?_) ?_
          · go_simp
            (refine (LChain (hV9.below hHeld) hFw9).mono ?_; rintro e wE ⟨A4, c4, m4, rfl, hmE, hoE, hbE⟩)
            go_wp2_with fail
            refine hK.out _ _ ?_ (fun hHeld => ?_)
            · ((try dsimp only); (with_reducible exact bel_call hHeld hbE))
            clear hK K
            (try simp only [Act.put, pS0, pS1, pS2])
            refine dagUse (hD1_4_17.out _ _ _ _ _ _ _ _ ?_) (by kernel_rfl)
            exact ⟨by (with_reducible exact hHeld), by (exact NewM.below (by assumption) hbE), by (with_reducible assumption), by (exact NewM.more hoE (Below.size hOld)), by (with_reducible assumption), by (exact Blk.below (by assumption) hbE), by (with_reducible assumption), trivial⟩
          refine AllReadyH.cons (o := ⟨some 88, _, _, _, _, _⟩) rfl (fun K hK => ?_) ?_
          · ((refine step_lit1 (by kernel_rfl) _ rfl rp rfl ?_))
            refine hK.out _ _ ?_ (fun hHeld => ?_)
            · ((try dsimp only); (with_reducible exact bel_alloc hHeld _))
            clear hK K
            (try simp only [Act.put, pS0, pS1, pS2])
            refine dagUse (hD1_12_17.out _ _ _ _ _ _ ?_) (by kernel_rfl)
            exact ⟨by (with_reducible exact hHeld), by (exact NewM.below (by assumption) (below_new _ _)), by (with_reducible assumption), by (with_reducible exact litP _ _), by (exact Blk.alloc (by assumption) _), by (with_reducible assumption), trivial⟩
          exact AllReadyH.nil
        (try simp only [putL, List.foldl, Act.put, List.setIfInBounds_toArray, List.set_cons_zero, List.set_cons_succ] at hD1_17)
        refine dagCut (fun K => ∀ g12 : Nat, ∀ g17 : Nat, ∀ W : World, ((fun W => Below w9.heap.size w9 W)) W ∧ SlP W (some ⟨g12, 0, none⟩) 1 [rp] ∧ Blk W g17 46 (mva ((0, 0, 0, 0, dg0, []), none, 0)) ∧ w9.heap.size ≤ g17 ∧ True → K [(88, .slice (some ⟨g12, 0, none⟩) 1 1), (14, .pointer (some ⟨g17, 0, none⟩))] W) 10 [12, 17] ?_ (fun hD12_17 => ?_)
        · intro g12 g17 W hT
          (try dsimp only [putL, List.foldl])
          (try simp only [putL, List.foldl, Act.put, List.setIfInBounds_toArray, List.set_cons_zero, List.set_cons_succ])
          obtain ⟨hHeld, f0, f1, f2, -⟩ := hT
          have hOld := hHeld
          refine wpAnyH_ready (rs := [1]) (by kernel_rfl) (by simp) ?_
          refine AllReadyH.cons (o := ⟨some 77, _, _, _, _, _⟩) rfl (fun K hK => ?_) ?_
          · go_simp
            (refine (LChain (hV9.below hHeld) hFw9).mono ?_; rintro e wE ⟨A1, c1, m1, rfl, hmE, hoE, hbE⟩)
            go_wp2_with fail
            refine hK.out _ _ ?_ (fun hHeld => ?_)
            · ((try dsimp only); (with_reducible exact bel_call hHeld hbE))
            clear hK K
            (try simp only [Act.put, pS0, pS1, pS2])
            refine dagUse (hD1_12_17.out _ _ _ _ _ _ ?_) (by kernel_rfl)
            exact ⟨by (with_reducible exact hHeld), by (exact NewM.more hoE (Below.size hOld)), by (with_reducible assumption), by (exact SlP.below (by assumption) hbE), by (exact Blk.below (by assumption) hbE), by (with_reducible assumption), trivial⟩
          exact AllReadyH.nil
        (try simp only [putL, List.foldl, Act.put, List.setIfInBounds_toArray, List.set_cons_zero, List.set_cons_succ] at hD12_17)
        refine dagCut (fun K => ∀ A1 : Option Addr, ∀ c1 : Nat, ∀ m1 : List MfV, ∀ W : World, ((fun W => Below w9.heap.size w9 W)) W ∧ NewM W w9.heap.size A1 c1 m1 ∧ Hid (mvs m1 = l) ∧ True → K [(77, .slice A1 m1.length c1)] W) 11 [1] ?_ (fun hD1 => ?_)
        · intro A1 c1 m1 W hT
          (try dsimp only [putL, List.foldl])
          (try simp only [putL, List.foldl, Act.put, List.setIfInBounds_toArray, List.set_cons_zero, List.set_cons_succ])
          obtain ⟨hHeld, f0, f1, -⟩ := hT
          have hOld := hHeld
          refine wpAnyH_ready (rs := [4, 12, 17]) (by kernel_rfl) (by simp) ?_
          refine AllReadyH.cons (o := ⟨some 80, _, _, _, _, _⟩) rfl (fun K hK => ?_) ?_
          · go_simp
            (refine (LChain (hV9.below hHeld) hFw9).mono ?_; rintro e wE ⟨A4, c4, m4, rfl, hmE, hoE, hbE⟩)
            go_wp2_with fail
            refine hK.out _ _ ?_ (fun hHeld => ?_)
            · ((try dsimp only); (with_reducible exact bel_call hHeld hbE))
            clear hK K
            (try simp only [Act.put, pS0, pS1, pS2])
            refine dagUse (hD1_4.out _ _ _ _ _ _ _ ?_) (by kernel_rfl)
            exact ⟨by (with_reducible exact hHeld), by (exact NewM.below (by assumption) hbE), by (with_reducible assumption), by (exact NewM.more hoE (Below.size hOld)), by (with_reducible assumption), trivial⟩
          refine AllReadyH.cons (o := ⟨some 88, _, _, _, _, _⟩) rfl (fun K hK => ?_) ?_
          · ((refine step_lit1 (by kernel_rfl) _ rfl rp rfl ?_))
            refine hK.out _ _ ?_ (fun hHeld => ?_)
            · ((try dsimp only); (with_reducible exact bel_alloc hHeld _))
            clear hK K
            (try simp only [Act.put, pS0, pS1, pS2])
            refine dagUse (hD1_12.out _ _ _ _ _ ?_) (by kernel_rfl)
            exact ⟨by (with_reducible exact hHeld), by (exact NewM.below (by assumption) (below_new _ _)), by (with_reducible assumption), by (with_reducible exact litP _ _), trivial⟩
          refine AllReadyH.cons (o := ⟨some 14, _, _, _, _, _⟩) rfl (fun K hK => ?_) ?_
          · (go_simp)
            refine hK.out _ _ ?_ (fun hHeld => ?_)
            · ((try dsimp only); (with_reducible exact bel_alloc hHeld _))
            clear hK K
            (try simp only [Act.put, pS0, pS1, pS2])
            refine dagUse (hD1_17.out _ _ _ _ _ ?_) (by kernel_rfl)
            exact ⟨by (with_reducible exact hHeld), by (exact NewM.below (by assumption) (below_new _ _)), by (with_reducible assumption), by (exact Blk.new _ _ _), by (exact Below.size hOld), trivial⟩
          exact AllReadyH.nil
        (try simp only [putL, List.foldl, Act.put, List.setIfInBounds_toArray, List.set_cons_zero, List.set_cons_succ] at hD1)
        refine dagCut (fun K => ∀ g12 : Nat, ∀ W : World, ((fun W => Below w9.heap.size w9 W)) W ∧ SlP W (some ⟨g12, 0, none⟩) 1 [rp] ∧ True → K [(88, .slice (some ⟨g12, 0, none⟩) 1 1)] W) 11 [12] ?_ (fun hD12 => ?_)
        · intro g12 W hT
          (try dsimp only [putL, List.foldl])
          (try simp only [putL, List.foldl, Act.put, List.setIfInBounds_toArray, List.set_cons_zero, List.set_cons_succ])
          obtain ⟨hHeld, f0, -⟩ := hT
          have hOld := hHeld
          refine wpAnyH_ready (rs := [1, 17]) (by kernel_rfl) (by simp) ?_
          refine AllReadyH.cons (o := ⟨some 77, _, _, _, _, _⟩) rfl (fun K hK => ?_) ?_
          · go_simp
            (refine (LChain (hV9.below hHeld) hFw9).mono ?_; rintro e wE ⟨A1, c1, m1, rfl, hmE, hoE, hbE⟩)
            go_wp2_with fail
            refine hK.out _ _ ?_ (fun hHeld => ?_)
            · ((try dsimp only); (with_reducible exact bel_call hHeld hbE))
            clear hK K
            (try simp only [Act.put, pS0, pS1, pS2])
            refine dagUse (hD1_12.out _ _ _ _ _ ?_) (by kernel_rfl)
            exact ⟨by (with_reducible exact hHeld), by (exact NewM.more hoE (Below.size hOld)), by (with_reducible assumption), by (exact SlP.below (by assumption) hbE), trivial⟩
          refine AllReadyH.cons (o := ⟨some 14, _, _, _, _, _⟩) rfl (fun K hK => ?_) ?_
          · (go_simp)
            refine hK.out _ _ ?_ (fun hHeld => ?_)
            · ((try dsimp only); (with_reducible exact bel_alloc hHeld _))
            clear hK K
            (try simp only [Act.put, pS0, pS1, pS2])
            refine dagUse (hD12_17.out _ _ _ ?_) (by kernel_rfl)
            exact ⟨by (with_reducible exact hHeld), by (exact SlP.below (by assumption) (below_new _ _)), by (exact Blk.new _ _ _), by (exact Below.size hOld), trivial⟩
          exact AllReadyH.nil
        (try simp only [putL, List.foldl, Act.put, List.setIfInBounds_toArray, List.set_cons_zero, List.set_cons_succ] at hD12)
        refine dagCut (fun K => ∀ g17 : Nat, ∀ W : World, ((fun W => Below w9.heap.size w9 W)) W ∧ Blk W g17 46 (mva ((0, 0, 0, 0, dg0, []), none, 0)) ∧ w9.heap.size ≤ g17 ∧ True → K [(14, .pointer (some ⟨g17, 0, none⟩))] W) 11 [17] ?_ (fun hD17 => ?_)
        · intro g17 W hT
          (try dsimp only [putL, List.foldl])
          (try simp only [putL, List.foldl, Act.put, List.setIfInBounds_toArray, List.set_cons_zero, List.set_cons_succ])
          obtain ⟨hHeld, f0, f1, -⟩ := hT
          have hOld := hHeld
          refine wpAnyH_ready (rs := [1, 12]) (by kernel_rfl) (by simp) ?_
          refine AllReadyH.cons (o := ⟨some 77, _, _, _, _, _⟩) rfl (fun K hK => ?_) ?_
          · go_simp
            (refine (LChain (hV9.below hHeld) hFw9).mono ?_; rintro e wE ⟨A1, c1, m1, rfl, hmE, hoE, hbE⟩)
            go_wp2_with fail
            refine hK.out _ _ ?_ (fun hHeld => ?_)
            · ((try dsimp only); (with_reducible exact bel_call hHeld hbE))
            clear hK K
            (try simp only [Act.put, pS0, pS1, pS2])
            refine dagUse (hD1_17.out _ _ _ _ _ ?_) (by kernel_rfl)
            exact ⟨by (with_reducible exact hHeld), by (exact NewM.more hoE (Below.size hOld)), by (with_reducible assumption), by (exact Blk.below (by assumption) hbE), by (with_reducible assumption), trivial⟩
          refine AllReadyH.cons (o := ⟨some 88, _, _, _, _, _⟩) rfl (fun K hK => ?_) ?_
          · ((refine step_lit1 (by kernel_rfl) _ rfl rp rfl ?_))
            refine hK.out _ _ ?_ (fun hHeld => ?_)
            · ((try dsimp only); (with_reducible exact bel_alloc hHeld _))
            clear hK K
            (try simp only [Act.put, pS0, pS1, pS2])
            refine dagUse (hD12_17.out _ _ _ ?_) (by kernel_rfl)
            exact ⟨by (with_reducible exact hHeld), by (with_reducible exact litP _ _), by (exact Blk.alloc (by assumption) _), by (with_reducible assumption), trivial⟩
          exact AllReadyH.nil
        (try simp only [putL, List.foldl, Act.put, List.setIfInBounds_toArray, List.set_cons_zero, List.set_cons_succ] at hD17)
        refine wpAnyH_ready (rs := [1, 12, 17]) (by kernel_rfl) (by simp) ?_
        refine AllReadyH.cons (o := ⟨some 77, _, _, _, _, _⟩) rfl (fun K hK => ?_) ?_
        · go_simp
          (refine (LChain (hV9.below hHeld) hFw9).mono ?_; rintro e wE ⟨A1, c1, m1, rfl, hmE, hoE, hbE⟩)
          go_wp2_with fail
          refine hK.out _ _ ?_ (fun hHeld => ?_)
          · ((try dsimp only); (with_reducible exact bel_call hHeld hbE))
          clear hK K
          (try simp only [Act.put, pS0, pS1, pS2])
          refine dagUse (hD1.out _ _ _ _ ?_) (by kernel_rfl)
          exact ⟨by (with_reducible exact hHeld), by (exact NewM.more hoE (Below.size hOld)), by (with_reducible assumption), trivial⟩
        refine AllReadyH.cons (o := ⟨some 88, _, _, _, _, _⟩) rfl (fun K hK => ?_) ?_
        · ((refine step_lit1 (by kernel_rfl) _ rfl rp rfl ?_))
          refine hK.out _ _ ?_ (fun hHeld => ?_)
          · ((try dsimp only); (with_reducible exact bel_alloc hHeld _))
          clear hK K
          (try simp only [Act.put, pS0, pS1, pS2])
          refine dagUse (hD12.out _ _ ?_) (by kernel_rfl)
          exact ⟨by (with_reducible exact hHeld), by (with_reducible exact litP _ _), trivial⟩
        refine AllReadyH.cons (o := ⟨some 14, _, _, _, _, _⟩) rfl (fun K hK => ?_) ?_
        · (go_simp)
          refine hK.out _ _ ?_ (fun hHeld => ?_)
          · ((try dsimp only); (with_reducible exact bel_alloc hHeld _))
          clear hK K
          (try simp only [Act.put, pS0, pS1, pS2])
          refine dagUse (hD17.out _ _ ?_) (by kernel_rfl)
          exact ⟨by (with_reducible exact hHeld), by (exact Blk.new _ _ _), by (exact Below.size hOld), trivial⟩
        exact AllReadyH.nil
       obtain ⟨gm, A7, c7, rfl, rfl, hbc, hBm, hgm, hPm⟩ := hcut
       have hMc := hM9.call hbc
       have hVc := hV9.below hbc
       have hmz := Lib.hid (mva_size ((xn, xf, xt, xr, xd, [rp]), A7, c7))
       have hg9 := hga9
       have HCm := Lib.hid (LCommit hVc (HGd.out.below hbc) Hfg.out.1 (by omega) (by omega) (A := A7) (c := c7) (xn, xf, xt, xr, xd, [rp]) hPm.sl HMx.out (by simp))
       have hfc := fun (A9 : Option Addr) (c9 : Nat) => vcommit_fok (d := d1) (l := l) (x := (xn, xf, xt, xr, xd, [rp])) (enc := fun x => ⟨A9, c9, x⟩) Hfg.out.1
       have Hfc := Lib.hid hfc
       clear hst hM9 hV9 hVc hfc hPm hbc hFw9 hFw4
       go_wp2_with (refine wpl_loadG rfl 46 _ rfl ⟨gm, 0, none⟩ (mva ((xn, xf, xt, xr, xd, [rp]), A7, c7)) rfl hBm.cells _ Tryz.underlying46 rfl (by rw [hmz.out]; kernel_rfl) ?_)
       refine HCm.out.mono ?_
       rintro e w9c ⟨A9, c9, rfl, hva9c, hV9c⟩
       have hM9c := hMc.act hva9c
       obtain ⟨d2, f1, f2, f3, f4⟩ := E3.out A9 c9
       have hfc := Hfc.out A9 c9
       rw [f1] at hV9c hfc ⊢
       dsimp only at hV9c hfc f2 f3 f4 ⊢
       have HX := Lib.hid (show AgS w w9c (grow S8 wc w9c) g gv d2 (l ++ [(xn, xf, xt, xr, xd, [rp])]) (done ++ cs.map ceOf) (i + 1) from ⟨hM9c.sub (by simp), hV9c, f2, by simpa using f3, hfc, by simp; omega, by simp; omega, by rw [f4]; omega⟩)
       rw [show errv 0 = Value.nilIface from rfl]
       clear f1 f2 f3 f4 hM9c hV9c hfc Hfc HCm E3 hMc hva9c hBm
       go_wp2_with fail
       go_roundw
       case rel => exact ⟨i + 1, grow S8 wc w9c, d2, l ++ [(xn, xf, xt, xr, xd, [rp])], done ++ cs.map ceOf, hlt, by go_num, (by first | go_num | simp), HX⟩
       case measure => ((simp [intOf]; omega))
  · -- all lists are through
    obtain rfl : i = sl.length := by omega
    have hl9 := hK.out.ll
    have hd9 := hK.out.dl
    have hFw := hK.out.kv.few (by omega)
    have HFw := Lib.hid hFw
    have HCh := Lib.hid (LChain hK.out.vs hFw)
    clear hFw
    go_wp2_with fail
    refine HCh.out.mono ?_
    rintro e w4 ⟨A4, c4, m4, rfl, hm4, ho4, hb4⟩
    have hM4 := hK.out.mo.call hb4
    have hV4 := hK.out.vs.below hb4
    have H4 := Lib.hid (And.intro hM4.mm.bel (And.intro hV4 ho4.slm))
    have HAg := Lib.hid (fun (a : Int) (h0 : 0 ≤ a) (h1 : a < (done.length : Nat)) => hV4.agree hK.out.kv (by omega) h0 h1)
    have HBy := Lib.hid hK.out.kv.beyond
    have HF4 := Lib.hid (show Few (mvs m4) from by rw [hm4.out]; exact HFw.out)
    clear hM4 hV4 ho4 hb4 HCh
    go_upto_region 22 with (fail)
    go_loopw [16] (fun y wz => ∃ a : Int, -1 ≤ a ∧ a ≤ (done.length : Nat) + 1 ∧ y = .int .i64 a ∧ Below w4.heap.size w4 wz) (fun y w => done.length + 2 - (intOf y + 1).toNat)
    case atStart => exact ⟨-1, by omega, by omega, rfl, Below.refl _ _⟩
    case round =>
     obtain ⟨a, ha0, ha1, rfl, hbz⟩ := hrel
     rcases Int.lt_or_le (done.length : Nat) a with hgt | hle
     · have hnl : ¬ a ≤ (done.length : Nat) := by omega
       go_wp2_with fail
       go_ret
       exact ⟨rfl, bel_call H4.out.1 hbz⟩
     have hai : I64 a := by unfold I64; omega
     have hVz := H4.out.2.1.below hbz
     have hGz := HGw.out.below (bel_call H4.out.1 hbz)
     have hRd := LRead hVz hGz HFw.out a hai
     have hFi := fun W (hh : Below w4.heap.size w4 W) => ChFind_any m4 a W (H4.out.2.2.below hh) (fun x hx => HF4.out.fit _ (HF4.out.snd hx)) hai
     rw [hm4.out] at hFi
     by_cases hin : 0 ≤ a ∧ a < (done.length : Nat)
     rotate_left
     · have hbd := HBy.out a (by omega)
       rw [hbd.2] at hRd
       rw [hbd.1] at hFi
       dsimp only [cfv] at hFi
       have HRd := Lib.hid hRd
       have HFi := Lib.hid hFi
       have HIs := Lib.hid (fun W => (show Calls Tryz.prog 17 #[.iface 60 (.int .i64 4), .int .i64 4] W fun e w' => e = .returned (.bool true) ∧ W = w' from isn_any 4 4 W))
       clear hRd hFi hbd hVz hGz
       go_wp2_with fail
       refine HRd.out.mono ?_
       rintro e w6 ⟨A6, c6, m6, rfl, hm6, ho6, hb6⟩
       have hb7 := bel_call hbz hb6
       rw [show errv 4 = Value.iface 60 (.int .i64 4) from rfl]
       clear HRd hm6 ho6 hb6 hbz
       go_upto_region 25 with (fail)
       refine gen1 (T := fun W => Below w4.heap.size w4 W) (bel_alloc hb7 _) (fun w7 hb7 => ?_)
       go_wp2_with fail
       refine (HFi.out _ hb7).mono ?_
       rintro e w8 ⟨rfl, hb8⟩
       have hb9 := bel_call hb7 hb8
       clear hb7 hb8 HFi
       rcases Int.lt_or_le a 0 with hlt0 | hge0
       · obtain rfl : a = -1 := by omega
         go_wp2_with fail
         refine (HIs.out _).mono ?_
         rintro e w9 ⟨rfl, rfl⟩
         go_wp2_with fail
         go_roundw
         case rel => exact ⟨0, by omega, by omega, by go_num, hb9⟩
         case measure => ((simp only [intOf]; omega))
       · obtain rfl : a = (done.length : Nat) := by omega
         go_wp2_with fail
         refine (HIs.out _).mono ?_
         rintro e w9 ⟨rfl, rfl⟩
         go_wp2_with fail
         go_roundw
         case rel => exact ⟨(done.length : Nat) + 1, by omega, by omega, by go_num, hb9⟩
         case measure => ((simp [intOf]; omega))
     · obtain ⟨n, k, f, cs2, ce, g1, g2, g3, g4, g5, g6, g7⟩ := HAg.out a hin.1 hin.2
       have hGt := fun W (hh : Below w4.heap.size w4 W) => LGet (H4.out.2.1.below hh) (HGw.out.below (bel_call H4.out.1 hh)) HFw.out (n : Int) (k : Int)
       rw [g2] at hGt
       rw [g1] at hFi
       dsimp only [cfv] at hFi
       have hMk := fun W (hh : Below w4.heap.size w4 W) => ChMark_any m4 W (H4.out.2.2.below hh)
       rw [hm4.out] at hMk
       have HGt := Lib.hid hGt
       have HFi := Lib.hid hFi
       have HMk := Lib.hid hMk
       have HAt := Lib.hid (fun W (m8 : List CeV) (E : Option Addr) (cap : Nat) (hm8 : m8.map ceOf = cs2) (hs : SlC W E cap m8) => (show Calls Tryz.prog 19 #[cv f E m8.length cap, .int .i64 a] W (GivesAtN W (ce, true)) from by
        have h9 := SAtN_any f a m8 W hs (by rw [← hm8, List.length_map] at g4; exact g4) (fun x hx => by
         have h9 := g5 (ceOf x) (by rw [← hm8]; exact List.mem_map_of_mem hx)
         exact Nat.le_trans h9 (by omega)) g3 hai
        rwa [hm8, g6] at h9))
       have hmh : ∀ (x3 : Ce), (if a < cmark l then ((3, []) : Ce) else ce) = x3 → (a < cmark l ∧ x3 = (3, [])) ∨ (¬ a < cmark l ∧ x3 = ce) := fun x3 h3 => by
        by_cases h4 : a < cmark l
        · rw [if_pos h4] at h3; exact .inl ⟨h4, h3.symm⟩
        · rw [if_neg h4] at h3; exact .inr ⟨h4, h3.symm⟩
       rw [g7] at hRd
       obtain ⟨x3, hx3⟩ : ∃ x3, (if a < cmark l then ((3, []) : Ce) else ce) = x3 := ⟨_, rfl⟩
       have Hmh := Lib.hid (hmh x3 hx3)
       rw [hx3] at hRd
       have HRd := Lib.hid hRd
       obtain ⟨ck, cd⟩ := ce
       obtain ⟨xk, xd⟩ := x3
       generalize cmark l = mk at *
       have Hbz := Lib.hid hbz
       clear hRd hFi hGt hMk hVz hGz g1 g2 g3 g4 g5 g6 g7 hmh hx3 hbz
       go_wp2_with fail
       refine HRd.out.mono ?_
       rintro e w6 ⟨A6, c6, m6, rfl, hm6, ho6, hb6⟩
       have hb7 := bel_call Hbz.out hb6
       dsimp only at hm6 ⊢
       rw [show errv 0 = Value.nilIface from rfl]
       clear HRd Hbz hb6
       go_upto_region 25 with (fail)
       refine gen1 (T := fun W => Mm w6 W [(w6.heap.size, 54, #[.int .i64 xk, .slice A6 m6.length c6])] [] ∧ SlB W A6 c6 m6) ⟨(Mm.start w6).alloc _ _, Sl.below ho6.sl (below_new _ _)⟩ (fun w7 hT => ?_)
       generalize w6.heap.size = g17 at *
       obtain ⟨hM7, hs7⟩ := hT
       clear ho6
       go_wp2_with fail
       refine (HFi.out _ (bel_call hb7 hM7.bel)).mono ?_
       rintro e w8 ⟨rfl, hb8⟩
       have hM8 := hM7.call hb8
       have hs8 := Sl.below hs7 hb8
       clear hM7 hs7 hb8 HFi
       go_wp2_with fail
       refine (HGt.out _ (bel_call hb7 hM8.bel)).mono ?_
       rintro e w9 ⟨A9, c9, m9, rfl, hm9, hN9, hb9⟩
       have hM9 := hM8.call hb9
       have hs9 := Sl.below hs8 hb9
       dsimp only at hm9 ⊢
       rw [show errv 0 = Value.nilIface from rfl]
       clear HGt hM8 hs8 hb9
       go_upto_region 30 with (fail)
       refine gen1 (T := fun W => Mm w6 W [(w9.heap.size, 43, #[.int .i64 f, .slice A9 m9.length c9]), (g17, 54, #[.int .i64 xk, .slice A6 m6.length c6])] [] ∧ SlB W A6 c6 m6 ∧ SlC W A9 c9 m9) ⟨hM9.alloc _ _, Sl.below hs9 (below_new _ _), (NewS.slc hN9).below (below_new _ _)⟩ (fun w10 hT => ?_)
       generalize w9.heap.size = g22 at *
       obtain ⟨hM10, hs10, hc10⟩ := hT
       have HAt2 := Lib.hid (HAt.out w10 m9 A9 c9 hm9.out hc10)
       obtain ⟨z0, z1, -, -⟩ := hM10.b0.two
       clear hM9 hs9 hN9 hm9 HAt
       go_wp2_with fail
       refine HAt2.out.mono ?_
       rintro e w11 ⟨A11, c11, m11, rfl, hm11, ho11, hb11⟩
       dsimp only at hm11 ⊢
       have hM11 := hM10.call hb11
       have hs11 := Sl.below hs10 hb11
       clear hM10 hs10 hc10 z0 z1 hb11 HAt2
       go_upto_region 31 with (fail)
       refine gen1 (T := fun W => Mm w6 W [(w11.heap.size, 54, #[.int .i64 ck, .slice A11 m11.length c11]), (g22, 43, #[.int .i64 f, .slice A9 m9.length c9]), (g17, 54, #[.int .i64 xk, .slice A6 m6.length c6])] [] ∧ SlB W A6 c6 m6 ∧ SlB W A11 c11 m11) ⟨hM11.alloc _ _, Sl.below hs11 (below_new _ _), Sl.below ho11.sl (below_new _ _)⟩ (fun w12 hT => ?_)
       generalize w11.heap.size = g24 at *
       obtain ⟨hM12, hs12, ht12⟩ := hT
       clear hM11 hs11 ho11
       go_wp2_with fail
       refine (HMk.out _ (bel_call hb7 hM12.bel)).mono ?_
       rintro e w13 ⟨rfl, hb13⟩
       have hM13 := hM12.call hb13
       have hs13 := Sl.below hs12 hb13
       have ht13 := Sl.below ht12 hb13
       clear hM12 hs12 ht12 hb13 HMk
       rcases Hmh.out with ⟨hlm, he⟩ | ⟨hlm, he⟩
       · injection he with he1 he2
         subst he1
         subst he2
         obtain rfl : m6 = [] := hm6.out
         obtain ⟨z0, z1, zf0, zf1⟩ := hM13.b0.two
         have hs0 : ∀ W, SlB W A6 c6 [] := fun W => ⟨hs13.1, hs13.2.1, hs13.2.2.1, hs13.2.2.2.1, Rd.nil _ _⟩
         clear Hmh
         go_upto_region 33 with (fail)
         refine gen1 (T := fun W => Mm w6 W [(g24, 54, #[.int .i64 3, .slice none 0 0]), (g22, 43, #[.int .i64 f, .slice A9 m9.length c9]), (g17, 54, #[.int .i64 3, .slice A6 ([] : List UInt8).length c6])] []) ((hM13.set 0 0 (.int .i64 3) rfl).set 0 1 (.slice none 0 0) rfl) (fun w14 hM14 => ?_)
         clear z0 z1 zf0 zf1 hM13 hs13 ht13
         have hSm := CSame_any 3 3 [] [] w14 (hs0 w14) (Sl.none_ w14 1)
         rw [show same (3, []) (3, []) = true from rfl] at hSm
         have HSm := Lib.hid hSm
         obtain ⟨z0, z1, -, -⟩ := hM14.b0.two
         obtain ⟨y0, y1, -, -⟩ := hM14.b2.two
         clear hSm hs0
         go_wp2_with fail
         refine HSm.out.mono ?_
         rintro e w15 ⟨rfl, hb15⟩
         have hb16 := bel_call hb7 (hM14.call hb15).bel
         clear z0 z1 y0 y1 hM14 hb15 HSm
         go_wp2_with fail
         go_roundw
         case rel => exact ⟨a + 1, by omega, by omega, by go_num, hb16⟩
         case measure => ((simp [intOf]; omega))
       · injection he with he1 he2
         subst he1
         subst he2
         obtain rfl : m6 = m11 := hm6.out.trans hm11.out.symm
         have hSm := CSame_any xk xk m6 m6 w13 hs13 ht13
         rw [show same (xk, m6) (xk, m6) = true from by unfold same; simp] at hSm
         have HSm := Lib.hid hSm
         obtain ⟨z0, z1, -, -⟩ := hM13.b0.two
         obtain ⟨y0, y1, -, -⟩ := hM13.b2.two
         clear hSm Hmh
         go_wp2_with fail
         refine HSm.out.mono ?_
         rintro e w15 ⟨rfl, hb15⟩
         have hb16 := bel_call hb7 (hM13.call hb15).bel
         clear z0 z1 y0 y1 hM13 hb15 HSm hs13 ht13
         go_wp2_with fail
         go_roundw
         case rel => exact ⟨a + 1, by omega, by omega, by go_num, hb16⟩
         case measure => ((simp [intOf]; omega))
end Go.Proofs.YtajfnmohlnkncaaGreatDoor
