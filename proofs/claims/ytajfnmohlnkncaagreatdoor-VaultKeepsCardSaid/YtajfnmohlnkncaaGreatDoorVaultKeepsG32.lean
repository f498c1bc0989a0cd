/- WHAT IT HOLDS: the law VaultKeeps, walked. -/
import Derived.Test.YtajfnmohlnkncaaGreatDoorVaultKeepsG01
import Derived.Test.YtajfnmohlnkncaaGreatDoorVaultKeepsG31
namespace Go.Proofs.YtajfnmohlnkncaaGreatDoor
open Go.RowKit Go.Shelf
attribute [local go_sem ↓] Go.wp_at_zero Go.wp_at_succ
theorem step_storeM {ops : Array Oper} {o : Oper} {a : Act} {w : World} {K : Act → World → Prop} {Q : Exit → Act → World → Prop} {X : Prop} (hgd : Region.wanted o (yielded ops a.tmps) = true) (x y : Operand) (ho : o.op = .store 46 x y)
 (g : Nat) (old p : MfV) (hx : a.eval x = .pointer (some ⟨g, 0, none⟩)) (hy : a.eval y = .agg (mva p)) (hB : Blk w g 46 (mva old))
 (h : K (a.put o.dst undef) (w.setRow g (mva p))) : if Region.wanted o (yielded ops a.tmps) = true then Oper.wp Tryz.prog o a w K Q else X := by
 rw [if_pos hgd]
 exact wp_store_row 46 x y ho g (mva p) hx hy 46 (mva old) hB (by rw [mva_size]; kernel_rfl) (by rw [mva_size, mva_size]) (mva_all p) h
set_option maxRecDepth 100000 in
set_option maxHeartbeats 8000000 in
theorem vkeeps_walk (w : World) (hG : Shg w) {A0 : Option Addr} {c0 : Nat} {sl : List SgV} (hs : SlSg w A0 c0 sl) {F0 : Option Addr} {fc : Nat} {fl : List Int} (hf : Sl w 1 F0 fl.length fc (fl.map (Value.int .i64))) {B0 : Option Addr} {kc : Nat} {ks : List Bool} (hk : SlZ w B0 kc ks) :
 Calls Tryz.prog 4 #[.slice A0 sl.length c0, .slice F0 fl.length fc, .slice B0 ks.length kc] w fun e w' => e = .returned (.bool true) ∧ Below w.heap.size w w' := by
 have hsm := hs.1.2.1
 have hsm2 := hs.1.2.2.1
 have hfm := hf.2.1
 have hfm2 := hf.2.2.1
 have hkm := hk.2.1
 have hkm2 := hk.2.2.1
 unfold maxLen at hsm2 hfm2 hkm2
 have HGw := Lib.hid hG
 have HSs := Lib.hid hs
 have HFs := Lib.hid hf
 have HKs := Lib.hid hk
 have HAl := Lib.hid (Alive17_any w hG)
 clear hs hf hk hG
 go_enter Tryz.func4, Tryz.ntmps4
 go_wp2_with fail
 refine HAl.out.mono ?_
 rintro e w0 ⟨rfl, hb0⟩
 clear HAl
 by_cases q1 : 12 < sl.length
 · go_wp2_with fail
   go_ret
   exact ⟨rfl, hb0⟩
 by_cases q2 : 30 < fl.length
 · go_wp2_with fail
   go_ret
   exact ⟨rfl, hb0⟩
 by_cases q3 : 60 < ks.length
 · go_wp2_with fail
   go_ret
   exact ⟨rfl, hb0⟩
 have hM0 := (Mo.none w).call hb0
 have HN := Lib.hid (LNew 16777216 (by decide) (fun _ => False) w0)
 clear hb0
 go_wp2_with fail
 refine HN.out.mono ?_
 rintro e w1 ⟨g, rfl, hb1, hD1⟩
 have hM1 := hM0.act (Va.of_below (S := fun _ => False) hb1)
 generalize grow (fun _ => False) w0 w1 = S1 at *
 have HO := Lib.hid (LOpen hD1 hM1.kin hM1.mm.bel HGw.out (Fok.dk0 _) (by decide))
 have hvo := (Kv.nil (f0 := 0) (dec := Sv.l) 16777216).opens (z := Sv.nil) (d0 := dk0 16777216) (by decide) rfl
 rw [hvo] at HO
 clear hvo hM0 hD1 hb1 HN
 go_wp2_with fail
 refine HO.out.mono ?_
 rintro e w2 ⟨hva, hor⟩
 rcases hor with ⟨-, gv0, rfl, hV2⟩ | ⟨h0, -⟩
 rotate_left
 · exact absurd rfl h0
 have hM2 := hM1.act hva
 generalize grow S1 w1 w2 = S2 at *
 (try dsimp only at hV2)
 have hst0 : KpS w w2 S2 g gv0 (dk0 16777216) [] none 0 [] 0 := ⟨⟨hM2.mm.add (fun k hk => by cases hk), hM2.kin, hM2.off, fun g hg => by simp at hg⟩, hV2, Kv.nil _, Fok.dk0 _, by decide, Nat.le_refl _, Nat.le_refl _, rfl, Own.none_ _ _ _ _, fun x hx => by cases hx⟩
 clear hM1 hva hM2 hV2 HO
 go_wp2_with fail
 go_loopw [61, 9, 11] (fun y v z wr => ∃ (i gv : Nat) (S : Nat → Prop) (d : Dk Sv) (l : List Mf) (A : Option Addr) (c : Nat) (ds : List CeV), i ≤ sl.length ∧ y = .int .i64 i ∧ v = .pointer (some ⟨gv, 0, none⟩) ∧ z = .slice A ds.length c ∧ Hid (KpS w wr S g gv d l A c ds i)) (fun y v z w => sl.length - (intOf y).toNat)
 case atStart => exact ⟨0, gv0, S2, dk0 16777216, [], none, 0, [], Nat.zero_le _, rfl, rfl, rfl, Lib.hid hst0⟩
 case round =>
  clear hst0
  obtain ⟨i, gv, S, d, l, A, c, ds, hi, rfl, rfl, rfl, hK⟩ := hrel
  by_cases hlt : i < sl.length
  · obtain ⟨ad, b, o, hA0, had, hcc⟩ := Sl.atS (f := sgl) sgl_len (by decide) (HSs.out.below hK.out.mo.mm.bel).1 hlt
    have hok := (HSs.out.2 _ (List.getElem_mem hlt))
    have hcc0 := hcc 0 _ rfl
    have hcc1 := hcc 1 _ rfl
    rw [Nat.add_zero] at hcc0
    generalize sl[i] = x at *
    obtain ⟨f, B, k, cs⟩ := x
    dsimp only at hok hcc0 hcc1
    have HOk := Lib.hid hok
    have HLg := Lib.hid (fun W (hh : Below w.heap.size w W) => Long_any cs 70 W (HOk.out.1.below hh))
    have hcm := hok.1.1.2.1
    have hcm2 := hok.1.1.2.2.1
    unfold maxLen at hcm2
    subst hA0
    clear hcc hok
    go_upto_region 13 with (fail)
    refine gen1 (T := fun W => Mo w W S [(wr.heap.size, 43, #[.int .i64 f, .slice B cs.length k])] [A.map (fun x : Addr => x.block)] ∧ Vs W S g gv d l ∧ Own W w.heap.size 54 2 A ds.length c (ds.flatMap cf)) ⟨hK.out.mo.alloc _ _, hK.out.vs.below (below_new _ _), World.ownsRow.alloc hK.out.row _⟩ (fun w3 hT => ?_)
    generalize wr.heap.size = g13 at *
    obtain ⟨hM3, hV3, hR3⟩ := hT
    obtain ⟨b0, b1, -, -⟩ := hM3.b0.two
    clear hcc0 hcc1
    go_wp2_with fail
    refine (HLg.out _ hM3.mm.bel).mono ?_
    rintro e w4 ⟨rfl, hb4⟩
    have hM4 := hM3.call hb4
    have hV4 := hV3.below hb4
    have hR4 := Own.below hR3 hb4
    clear hM3 hV3 hR3 hb4 b0 b1 HLg
    generalize longb (cs.map ceOf) 70 = lb at *
    cases lb with
    | true =>
     go_wp2_with fail
     go_ret
     exact ⟨rfl, hM4.mm.bel⟩
    | false =>
     obtain ⟨b0, b1, bf0, bf1⟩ := hM4.b0.two
     have hM4s := hM4.set 0 0 (.int .i64 (ds.length : Nat)) rfl
     have hV4s := hV4.wr ((Wr.refl w4 g13).set_ 0 (.int .i64 (ds.length : Nat))) (hM4.off _ (.head _))
     have hR4s : Own (w4.setCell ⟨g13, 0, none⟩ (.int .i64 (ds.length : Nat))) w.heap.size 54 2 A ds.length c (ds.flatMap cf) := Own.setT hR4 hM4.b0 (by decide) _
     go_upto_region 16 with (fail)
     refine gen1 (T := fun W => Mo w W S [(g13, 43, #[.int .i64 (ds.length : Nat), .slice B cs.length k])] [A.map (fun x : Addr => x.block)] ∧ Vs W S g gv d l ∧ Own W w.heap.size 54 2 A ds.length c (ds.flatMap cf)) ⟨hM4s, hV4s, hR4s⟩ (fun w5 hT => ?_)
     clear hM4s hV4s hR4s hM4 hV4 hR4 b0 b1 bf0 bf1
     obtain ⟨hM5, hV5, hR5⟩ := hT
     -- the fuse
     have hl9 := hK.out.ll
     have hn9 := hK.out.ln
     have hd9 := hK.out.dl
     go_cut [89] (fun z wz => ∃ (S' : Nat → Prop) (d' : Dk Sv), z = .bool false ∧ Mo w wz S' [(g13, 43, #[.int .i64 (ds.length : Nat), .slice B cs.length k])] [A.map (fun x : Addr => x.block)] ∧ Vs wz S' g gv d' l ∧ Own wz w.heap.size 54 2 A ds.length c (ds.flatMap cf) ∧ Kv Sv.l 0 d' l (ds.map ceOf) ∧ Fok d' ∧ d'.sure.length + d'.pend.length ≤ 8 * i)
     case first =>
      by_cases hf0 : 0 < fl.length
      rotate_left
      · have HX := Lib.hid (And.intro hM5 (And.intro hV5 (And.intro hR5 (And.intro hK.out.kv (And.intro hK.out.fk hK.out.ln)))))
        clear hM5 hV5 hR5
        go_wp2_with fail
        go_meet
        exact ⟨S, d, rfl, HX.out.1, HX.out.2.1, HX.out.2.2.1, HX.out.2.2.2.1, HX.out.2.2.2.2.1, HX.out.2.2.2.2.2⟩
      · obtain ⟨j, hj⟩ : ∃ j, i % fl.length = j := ⟨_, rfl⟩
        have hjl : j < fl.length := by rw [← hj]; exact Nat.mod_lt _ hf0
        obtain ⟨adf, bf, of, rfl, hadf, hcf⟩ := Sl.atS (f := fun x => [Value.int .i64 x]) (size := 1) (fun _ => rfl) (by omega) (by
         have h9 := Sl.below HFs.out hM5.mm.bel
         rwa [List.map_eq_flatMap] at h9) hjl
        have hcf0 := hcf 0 _ rfl
        rw [Nat.add_zero] at hcf0
        rw [Nat.mul_one] at hadf
        generalize fl[j] = r at *
        obtain ⟨m, hm, hm0, hm1, hm2, hm3⟩ := rem12 r
        have hmod : ((i : Nat) : Int).tmod ((fl.length : Nat) : Int) = (j : Nat) := by rw [← hj]; rfl
        have hmod2 : IntKind.i64.wrap ((j : Nat) : Int) = (j : Nat) := by rw [IntKind.wrap_i64]; omega
        have hF := LFuse hV5 m
        have hdf : dFuse d m = ({ d with fuse := m }, 0) := by unfold dFuse; rw [if_neg (by omega)]
        rw [hdf, show errv 0 = Value.nilIface from rfl] at hF
        have HF := Lib.hid hF
        have HX := Lib.hid (And.intro hM5 (And.intro hR5 (And.intro (hK.out.kv.fuse m) hK.out.ln)))
        have Hm := Lib.hid (And.intro hm0 hm1)
        clear hcf hM5 hV5 hR5 hF hdf hj
        go_wp2_with fail
        refine HF.out.mono ?_
        rintro e w6 ⟨rfl, hva, hV6⟩
        have hM6 := HX.out.1.act hva
        have hR6 := hva.own HX.out.2.1 (fun b hb => HX.out.1.offG b (by rw [hb]; exact .head _))
        have HY := Lib.hid (And.intro hM6 (And.intro hV6 hR6))
        clear hM6 hV6 hR6 hva
        go_wp2_with fail
        go_meet
        exact ⟨_, _, rfl, HY.out.1, HY.out.2.1, HY.out.2.2, HX.out.2.2.1, ⟨by show (-1 : Int) ≤ m; have := Hm.out.1; omega, by show m ≤ (9223372036854775807 : Int); have := Hm.out.2; omega⟩, HX.out.2.2.2⟩
     obtain ⟨S', d', rfl, hM6, hV6, hR6, hK6, hfk6, hln6⟩ := hcut
     clear hM5 hV5 hR5
     have htm := hK.out.tm
     have hrd := hK.out.rd
     have HRd := Lib.hid hrd
     have HTm := Lib.hid htm
     clear hK hrd htm
     have hFw6 := hK6.few (by omega)
     have HCh := Lib.hid (LChain hV6 hFw6)
     have HK6 := Lib.hid hK6
     have H6 := Lib.hid (And.intro hM6 (And.intro hV6 hR6))
     clear hK6 hFw6 hM6 hV6 hR6
     go_wp2_with fail
     refine HCh.out.mono ?_
     rintro e w7 ⟨A7, c7, m7, rfl, hm7, ho7, hb7⟩
     have hml7 : m7.length = l.length := by
      have h9 := congrArg List.length hm7.out
      rwa [mvs_len] at h9
     have hM7 := H6.out.1.call hb7
     have hV7 := H6.out.2.1.below hb7
     have hR7 := Own.below H6.out.2.2 hb7
     clear HCh H6 hm7 ho7 hb7
     go_upto_region 19 with (fail)
     have HA := Lib.hid (LAdd hV7 (HGw.out.below hM7.mm.bel) hfk6 (by omega) l.length 0 ds.length cs (HOk.out.1.below hM7.mm.bel) (by omega) (by decide))
     have hfa := fun (A8 : Option Addr) (c8 : Nat) => vadd_fok (d := d') (l := l) (number := l.length) (place := 0) (s := ((ds.length : Nat), cs.map ceOf)) (enc := fun x => ⟨A8, c8, x⟩) hfk6
     have hga := fun (A8 : Option Addr) (c8 : Nat) => vadd_grow (d := d') (l := l) (number := l.length) (place := 0) (s := ((ds.length : Nat), cs.map ceOf)) (enc := fun x => ⟨A8, c8, x⟩)
     have HO := Lib.hid (fun (A8 : Option Addr) (c8 : Nat) => HK6.out.add (enc := fun x => ⟨A8, c8, x⟩) (len := svl) (z := Sv.nil) (cs := cs.map ceOf) (by omega) (fun _ => rfl))
     have Hfg := Lib.hid (And.intro hfa hga)
     obtain ⟨b0, b1, -, -⟩ := hM7.b0.two
     have H7 := Lib.hid (And.intro hM7 hR7)
     clear hml7 hV7 hM7 hR7 hfa hga
     go_wp2_with fail
     refine HA.out.mono ?_
     rintro e w8 ⟨A8, c8, rfl, hva8, hV8⟩
     have hM8 := H7.out.1.act hva8
     have hR8 := hva8.own H7.out.2 (fun b hb => H7.out.1.offG b (by rw [hb]; exact .head _))
     have hO := HO.out A8 c8
     have hfa := Hfg.out.1 A8 c8
     have hga := Hfg.out.2 A8 c8
     rw [show (0 : Int) + ((ds.map ceOf).length : Nat) = (ds.length : Nat) from by simp] at hO
     generalize vadd svl Sv.nil (fun x => ⟨A8, c8, x⟩) ⟨d', l⟩ l.length 0 ((ds.length : Nat), cs.map ceOf) = r at *
     generalize grow S' w7 w8 = S8 at *
     obtain ⟨rp, ⟨rd, rl⟩, rk⟩ := r
     dsimp only at hV8 hfa hga ⊢
     have hpp := Lib.hid (pta_size rp)
     have hpa := Lib.hid (pta_all rp)
     clear HA HO Hfg H7 hva8 b0 b1
     go_upto_region 20 with ((refine wpl_storeN rfl 37 _ _ rfl _ (pta rp) 37 rfl rfl (by rw [hpp.out]; kernel_rfl) (by rw [hpp.out]; rfl) hpa.out ?_))
     refine gen1 (T := fun W => Mo w W S8 [(w8.heap.size, 37, pta rp), (g13, 43, #[.int .i64 (ds.length : Nat), .slice B cs.length k])] [A.map (fun x : Addr => x.block)] ∧ Vs W S8 g gv rd l ∧ Own W w.heap.size 54 2 A ds.length c (ds.flatMap cf)) ⟨hM8.alloc _ _, hV8.below (below_new _ _), World.ownsRow.alloc hR8 _⟩ (fun w9 hT => ?_)
     generalize w8.heap.size = g15 at *
     clear hM8 hV8 hR8
     obtain ⟨hM9, hV9, hR9⟩ := hT
     cases hO with
     | left _ _ h0 h14 h =>
      obtain ⟨ke, hev⟩ : ∃ ke : Int, errv rk = .iface 60 (.int .i64 ke) := by
       rcases errv_cases rk with ⟨h1, -⟩ | ⟨k', -, -, h1⟩
       · exact absurd h1 h0
       · exact ⟨k', h1⟩
      have hIs := fun W => isn_any rk 14 W
      rw [hev, show (((rk : Nat) : Int) == 14) = false from by simp; omega] at hIs
      have HIs := Lib.hid hIs
      have HX := Lib.hid (show KpS w w9 S8 g gv rd l A c ds (i + 1) from ⟨hM9.sub (by simp), hV9, h, hfa, by omega, by omega, by omega, HTm.out, hR9, HRd.out⟩)
      rw [hev]
      clear hev hIs h0 h14 h hM9 hV9 hR9 hfa
      go_wp2_with fail
      refine (HIs.out _).mono ?_
      rintro e w10 ⟨rfl, rfl⟩
      go_wp2_with fail
      go_roundw
      case rel => exact ⟨i + 1, gv, S8, rd, l, A, c, ds, hlt, by go_num, rfl, rfl, HX⟩
      case measure => simp [intOf]; omega
     | down _ hd h =>
      have HIs := Lib.hid (fun W => (show Calls Tryz.prog 17 #[.iface 60 (.int .i64 14), .int .i64 14] W fun e w' => e = .returned (.bool true) ∧ W = w' from isn_any 14 14 W))
      have hD7 := hV9.ds
      have hM7 := hM9
      have hR7 := hR9
      have HAg := Lib.hid h
      clear hd h hM9 hV9 hR9
      rw [show errv 14 = Value.iface 60 (.int .i64 14) from rfl]
      go_wp2_with fail
      refine (HIs.out _).mono ?_
      rintro e w9b ⟨rfl, rfl⟩
      -- cut, start, open anew
      have hlk : ks ≠ [] → ∀ k, B0.map (·.block) = some k → ¬ S8 k := fun hne k hk hS => by
       obtain ⟨ad, rfl⟩ : ∃ ad, B0 = some ad := by cases B0 with | none => cases hk | some ad => exact ⟨ad, rfl⟩
       injection hk with hk
       have h1 := SlZ.ltB HKs.out hne rfl
       have h2 := (hM7.kin k hS).1
       dsimp only at hk
       omega
      have HCu := Lib.hid (LCut hD7 (by omega) (by omega) ks (Sl.below HKs.out hM7.mm.bel) hlk)
      clear hlk hD7
      go_wp2_with fail
      refine HCu.out.mono ?_
      rintro e w8 ⟨rfl, hva8, hD8⟩
      have hM8 := hM7.act hva8
      have hR8 := hva8.own hR7 (fun b hb => hM7.offG b (by rw [hb]; exact .head _))
      have hcl := cut_len ks rd
      generalize grow S8 w9 w8 = S8 at *
      have HSt := Lib.hid (LStart hD8 (by omega) (by omega))
      clear hM7 hva8 hD8 hR7 HCu
      go_wp2_with fail
      refine HSt.out.mono ?_
      rintro e w9 ⟨rfl, hva9, hD9⟩
      have hM9 := hM8.act hva9
      have hR9 := hva9.own hR8 (fun b hb => hM8.offG b (by rw [hb]; exact .head _))
      have hsl := start_len (dCut ks rd)
      have hfk9 := start_fok (dCut ks rd)
      generalize grow S8 w8 w9 = S9 at *
      have HOp := Lib.hid (LOpen hD9 hM9.kin hM9.mm.bel HGw.out hfk9 (by omega))
      obtain ⟨d2, hop, hfr2, hpn2, hP2⟩ := HAg.out ks
      have hol := sOpen_len (z := Sv.nil) (d := dStart (dCut ks rd)) (by rw [hop])
      have hfo := hfk9.open_
      rw [hop] at hol hfo
      have Hop := Lib.hid hop
      clear hM8 hva9 hD9 hR8 HSt hop
      go_wp2_with fail
      refine HOp.out.mono ?_
      rintro e w10 ⟨hva10, hor⟩
      have hris : Ris d2.sure := by
       rcases hor with ⟨-, gv2, -, hV⟩ | ⟨-, -, hD⟩
       · exact Kv.risen Hop.out hV.ds
       · exact Kv.risen Hop.out hD
      have hM10 := hM9.act hva10
      have hR10 := hva10.own hR9 (fun b hb => hM9.offG b (by rw [hb]; exact .head _))
      generalize grow S9 w9 w10 = S10 at *
      have hP3 := hP2 hris
      clear HOp hP2 HAg hM9 hva10 hR9
      -- the vault that came again
      have hvo := (hP3).opens (z := Sv.nil) (by have := hl9; simp; omega) Hop.out
      rcases hor with ⟨-, gv2, rfl, hV10⟩ | ⟨h0, -⟩
      rotate_left
      · rw [hvo] at h0
        exact absurd rfl h0
      rw [hvo] at hV10
      dsimp only at hV10
      have hFw10 := (hP3).few (by have := hl9; simp; omega)
      have HCh := Lib.hid (LChain hV10 hFw10)
      have HM10 := Lib.hid hM10
      have HR10 := Lib.hid hR10
      have HV10 := Lib.hid hV10
      have HKv := Lib.hid (hP3)
      clear hM10 hR10 hV10 hvo hFw10 hris hP3
      go_wp2_with fail
      refine HCh.out.mono ?_
      rintro e w11 ⟨A11, c11, m11, rfl, hm11, ho11, hb11⟩
      have hml11 : m11.length = l.length := by
       have h9 := congrArg List.length hm11.out
       rw [mvs_len] at h9
       simpa using h9
      clear hm11 ho11 HCh
      go_upto_region 32 with (fail)
      have hM11 := HM10.out.call hb11
      have hV11 := HV10.out.below hb11
      have hR11 := Own.below HR10.out hb11
      clear hml11 hb11 HM10 HV10 HR10
      have HX := Lib.hid (show KpS w w11 S10 g gv2 d2 l A c ds (i + 1) from ⟨hM11.sub (by simp), hV11, HKv.out, hfo, by omega, by omega, by omega, HTm.out, hR11, HRd.out⟩)
      clear hM11 hV11 hR11 HKv
      go_wp2_with fail
      go_roundw
      case rel => exact ⟨i + 1, gv2, S10, d2, l, A, c, ds, hlt, by go_num, rfl, rfl, HX⟩
      case measure => simp [intOf]; omega
     | done _ b2 _ x2 hm h hx2 hxb =>
      have hmh := mof_held hm
      dsimp only at hmh
      have hcl64 : cs.length ≤ 64 := by have := hmh.2.2.2.2.1; simpa using this
      have hnx := h.next (by omega) (t := 0) (by rw [HTm.out]; exact Int.le_refl _) ⟨Int.le_refl _, by decide⟩ hm (by simp)
      have hC := fun (A9 : Option Addr) (c9 : Nat) => h.commit (enc := fun x => ⟨A9, c9, x⟩) (len := svl) (z := Sv.nil) (t := 0) (by omega) (fun _ => rfl) (by rw [HTm.out]; exact Int.le_refl _) ⟨Int.le_refl _, by decide⟩ hm hx2 hxb
      rw [show (0 : Int) + ((ds.map ceOf).length : Nat) = (ds.length : Nat) from by simp, show ((cs.map ceOf).length : Nat) = cs.length from by simp] at hnx
      rw [show (0 : Int) + ((ds.map ceOf).length : Nat) = (ds.length : Nat) from by simp] at hC
      simp only [hnx] at hC
      have hcx := cnext_ok (by rw [hnx] : (cnext l (ds.length : Nat) 0 [rp]).2 = 0)
      have hmx : mchk ((l.length : Nat), (ds.length : Nat), (ds.length : Nat) + (cs.length : Nat), 0, chead l, [rp]) = 0 := by
       have h9 := hcx.2.2.1
       rw [← hcx.2.1, hnx] at h9
       exact h9
      have HMx := Lib.hid (mchk_MfI2 hmx)
      have HPI := Lib.hid (mof_I hm)
      have HNx := Lib.hid hnx
      have HC := Lib.hid hC
      have hFw9 := h.few (by omega)
      have HGd := Lib.hid (HGw.out.below hM9.mm.bel)
      clear hmh hnx hC hcx hmx hm hx2 hxb h
      rw [show errv 0 = Value.nilIface from rfl]
      go_upto_region 21 with (fail)
      have hst : Below w9.heap.size w9 w9.drew := Below.drew (Below.refl _ _)
      go_cut [17, 18] (fun y z wz => ∃ gm A7 c7, y = .pointer (some ⟨gm, 0, none⟩) ∧ z = .nilIface ∧ Below w9.heap.size w9 wz ∧ Blk wz gm 46 (mva (((l.length : Nat), (ds.length : Nat), (ds.length : Nat) + (cs.length : Nat), 0, chead l, [rp]), A7, c7)) ∧ w9.heap.size ≤ gm ∧ OwnP wz w9.heap.size A7 c7 [rp])
      case first =>
       refine wp_region_held_drew (S := (fun W => Below w9.heap.size w9 W)) (by kernel_rfl) ?_ (fun hHeld => ?_)
       · first | with_reducible exact hst | with_reducible exact hHeld
       refine gen0 (T := fun W => ((fun W => Below w9.heap.size w9 W)) W ∧ True) ?_ (fun wq2 hT => ?_)
       · exact ⟨by (with_reducible exact hst), trivial⟩
       (try clear f0 f1 f2 f3 f4 f5 f6 f7 f8 f9 f10 f11)
       obtain ⟨hHeld, -⟩ := hT
       have hOld := hHeld
       refine wTk (i := 0) (oi := ⟨some 103, _, _, _, _, _⟩) (v := ?_) rfl ⟨by kernel_rfl, ?_⟩ (by assumption) ?_
       rotate_left
       · (intro wS hSw; (try dsimp only at hSw); clear hSw; go_simp; (try with_reducible rfl))
       (try simp only [Act.put, pS0, pS1, pS2])
       refine wTk (i := 2) (oi := ⟨some 105, _, _, _, _, _⟩) (v := ?_) rfl ⟨by kernel_rfl, ?_⟩ (by assumption) ?_
       rotate_left
       · (intro wS hSw; (try dsimp only at hSw); clear hSw; go_simp; (try with_reducible rfl))
       (try simp only [Act.put, pS0, pS1, pS2])
       refine wTk (i := 3) (oi := ⟨some 106, _, _, _, _, _⟩) (v := ?_) rfl ⟨by kernel_rfl, ?_⟩ (by assumption) ?_
       rotate_left
       · (intro wS hSw; (try dsimp only at hSw); clear hSw; go_simp; (try with_reducible rfl))
       (try simp only [Act.put, pS0, pS1, pS2])
       refine wTk (i := 4) (oi := ⟨some 107, _, _, _, _, _⟩) (v := ?_) rfl ⟨by kernel_rfl, ?_⟩ (by assumption) ?_
       rotate_left
       · (intro wS hSw; (try dsimp only at hSw); (refine yld_load 37 (.tmp 15) ?_ ⟨g15, 0, none⟩ (pta rp) ?_ (Blk.cells (Blk.below hM9.b0 hSw)) _ Tryz.underlying37 rfl (by rw [hpp.out]; kernel_rfl) <;> rfl))
       (try simp only [Act.put, pS0, pS1, pS2])
       refine dagCut (fun K => ∀ A5 : Option Addr, ∀ c5 : Nat, ∀ m5 : List MfV, ∀ g5 : Nat, ∀ A7 : Option Addr, ∀ c7 : Nat, ∀ g10 : Nat, ∀ W : World, ((fun W => Below w9.heap.size w9 W)) W ∧ OwnP W w9.heap.size A7 c7 [rp] ∧ Blk W g10 46 (mva ((0, 0, 0, 0, dg0, []), none, 0)) ∧ w9.heap.size ≤ g10 ∧ True → K [(104, .slice A5 m5.length c5), (108, .slice (some ⟨g5, 0, none⟩) 1 1), (109, .tuple #[.agg (mva (((l.length : Nat), (ds.length : Nat), (ds.length : Nat) + (cs.length : Nat), 0, chead l, [rp]), A7, c7)), .nilIface]), (102, .tuple #[.agg (mva (((l.length : Nat), (ds.length : Nat), (ds.length : Nat) + (cs.length : Nat), 0, chead l, [rp]), A7, c7)), .nilIface]), (110, .agg (mva (((l.length : Nat), (ds.length : Nat), (ds.length : Nat) + (cs.length : Nat), 0, chead l, [rp]), A7, c7))), (111, .nilIface), (17, .pointer (some ⟨g10, 0, none⟩))] W) 2 [1, 5, 6, 7, 8, 9, 10] ?_ (fun hD1_5_6_10 => ?_)
       · intro A5 c5 m5 g5 A7 c7 g10 W hT
         (try dsimp only [putL, List.foldl])
         (try simp only [putL, List.foldl, Act.put, List.setIfInBounds_toArray, List.set_cons_zero, List.set_cons_succ])
         obtain ⟨hHeld, f0, f1, f2, -⟩ := hT
         have hOld := hHeld
         refine wpAnyH_ready (rs := [11]) (by kernel_rfl) (by simp) ?_
         refine AllReadyH.cons (o := ⟨none, _, _, _, _, _⟩) rfl (fun K hK => ?_) ?_
         · ((refine step_storeM (by kernel_rfl) _ _ rfl _ ((0, 0, 0, 0, dg0, []), none, 0) (((l.length : Nat), (ds.length : Nat), (ds.length : Nat) + (cs.length : Nat), 0, chead l, [rp]), A7, c7) rfl rfl f1 ?_))
           refine hK.out _ _ ?_ (fun hHeld => ?_)
           · ((try dsimp only); (exact below_setRow hHeld f2 _))
           clear hK K
           (try simp only [Act.put, pS0, pS1, pS2])
           refine wTk (i := 12) (oi := ⟨some 18, _, _, _, _, _⟩) (v := ?_) rfl ⟨by kernel_rfl, ?_⟩ (by assumption) ?_
           rotate_left
           · (intro wS hSw; (try dsimp only at hSw); clear hSw; go_simp; (try with_reducible rfl))
           (try simp only [Act.put, pS0, pS1, pS2])
           refine gen0 (T := fun W => ((fun W => Below w9.heap.size w9 W)) W ∧ OwnP W w9.heap.size A7 c7 [rp] ∧ Blk W g10 46 (mva (((l.length : Nat), (ds.length : Nat), (ds.length : Nat) + (cs.length : Nat), 0, chead l, [rp]), A7, c7)) ∧ w9.heap.size ≤ g10 ∧ True) ?_ (fun wqF hT => ?_)
           · exact ⟨by (with_reducible exact hHeld), by (exact Own.wrT f0 (Wr.row _) f1 (by decide)), by (exact Blk.row f1), by (with_reducible assumption), trivial⟩
           (try clear f0 f1 f2 f3 f4 f5 f6 f7 f8 f9 f10 f11)
           obtain ⟨hHeld, f0, f1, f2, -⟩ := hT
           refine wpAnyH_done (by kernel_rfl) ?_ _
           (go_wp2_with fail; go_meet; exact ⟨_, A7, c7, rfl, rfl, hHeld, f1, f2, f0⟩)
         exact AllReadyH.nil
       (try simp only [putL, List.foldl, Act.put, List.setIfInBounds_toArray, List.set_cons_zero, List.set_cons_succ] at hD1_5_6_10)
       refine dagCut (fun K => ∀ A5 : Option Addr, ∀ c5 : Nat, ∀ m5 : List MfV, ∀ g5 : Nat, ∀ A7 : Option Addr, ∀ c7 : Nat, ∀ W : World, ((fun W => Below w9.heap.size w9 W)) W ∧ OwnP W w9.heap.size A7 c7 [rp] ∧ True → K [(104, .slice A5 m5.length c5), (108, .slice (some ⟨g5, 0, none⟩) 1 1), (109, .tuple #[.agg (mva (((l.length : Nat), (ds.length : Nat), (ds.length : Nat) + (cs.length : Nat), 0, chead l, [rp]), A7, c7)), .nilIface]), (102, .tuple #[.agg (mva (((l.length : Nat), (ds.length : Nat), (ds.length : Nat) + (cs.length : Nat), 0, chead l, [rp]), A7, c7)), .nilIface]), (110, .agg (mva (((l.length : Nat), (ds.length : Nat), (ds.length : Nat) + (cs.length : Nat), 0, chead l, [rp]), A7, c7))), (111, .nilIface)] W) 3 [1, 5, 6, 7, 8, 9] ?_ (fun hD1_5_6 => ?_)
       · intro A5 c5 m5 g5 A7 c7 W hT
         (try dsimp only [putL, List.foldl])
         (try simp only [putL, List.foldl, Act.put, List.setIfInBounds_toArray, List.set_cons_zero, List.set_cons_succ])
         obtain ⟨hHeld, f0, -⟩ := hT
         have hOld := hHeld
         refine wpAnyH_ready (rs := [10]) (by kernel_rfl) (by simp) ?_
         refine AllReadyH.cons (o := ⟨some 17, _, _, _, _, _⟩) rfl (fun K hK => ?_) ?_
         · (go_simp)
           refine hK.out _ _ ?_ (fun hHeld => ?_)
           · ((try dsimp only); (with_reducible exact bel_alloc hHeld _))
           clear hK K
           (try simp only [Act.put, pS0, pS1, pS2])
           refine dagUse (hD1_5_6_10.out _ _ _ _ _ _ _ _ ?_) (by kernel_rfl)
           exact ⟨by (with_reducible exact hHeld), by (with_reducible exact World.ownsRow.alloc f0 _), by (exact Blk.new _ _ _), by (exact Below.size hOld), trivial⟩
         exact AllReadyH.nil
       (try simp only [putL, List.foldl, Act.put, List.setIfInBounds_toArray, List.set_cons_zero, List.set_cons_succ] at hD1_5_6)
       refine dagCut (fun K => ∀ A5 : Option Addr, ∀ c5 : Nat, ∀ m5 : List MfV, ∀ g5 : Nat, ∀ g10 : Nat, ∀ W : World, ((fun W => Below w9.heap.size w9 W)) W ∧ NewM W w9.heap.size A5 c5 m5 ∧ SlP W (some ⟨g5, 0, none⟩) 1 [rp] ∧ Blk W g10 46 (mva ((0, 0, 0, 0, dg0, []), none, 0)) ∧ w9.heap.size ≤ g10 ∧ Hid (mvs m5 = l) ∧ True → K [(104, .slice A5 m5.length c5), (108, .slice (some ⟨g5, 0, none⟩) 1 1), (17, .pointer (some ⟨g10, 0, none⟩))] W) 6 [1, 5, 10] ?_ (fun hD1_5_10 => ?_)
       · intro A5 c5 m5 g5 g10 W hT
         (try dsimp only [putL, List.foldl])
         (try simp only [putL, List.foldl, Act.put, List.setIfInBounds_toArray, List.set_cons_zero, List.set_cons_succ])
         obtain ⟨hHeld, f0, f1, f2, f3, f4, -⟩ := hT
         have hOld := hHeld
         refine wpAnyH_ready (rs := [6]) (by kernel_rfl) (by simp) ?_
         refine AllReadyH.cons (o := ⟨some 109, _, _, _, _, _⟩) rfl (fun K hK => ?_) ?_
         · go_simp
           (have hNx := ChNext_any (E := A5) (cap := c5) m5 (ds.length : Nat) 0 [rp] _ (HGd.out.below hHeld) f0.slm f1 HPI.out (by simp); have hm5 : Hid (mvs m5 = l) := (by assumption); rw [hm5.out, HNx.out] at hNx; refine hNx.mono ?_; clear hNx; rintro e w7 ⟨A7, c7, mm7, rfl, hm7, ho7, hb7⟩; obtain rfl : mm7 = [rp] := hm7.out)
           go_wp2_with fail
           refine hK.out _ _ ?_ (fun hHeld => ?_)
           · ((try dsimp only); (with_reducible exact bel_call hHeld hb7))
           clear hK K
           (try simp only [Act.put, pS0, pS1, pS2])
           refine wpAnyH_take (i := 7) (oi := ⟨some 102, _, _, _, _, _⟩) (v := .tuple #[.agg (mva (((l.length : Nat), (ds.length : Nat), (ds.length : Nat) + (cs.length : Nat), 0, chead l, [rp]), A7, c7)), .nilIface]) rfl (by kernel_rfl) (by kernel_rfl) (by kernel_rfl) (fun _ _ _ h => h) (Or.inl ⟨by kernel_rfl, ?_⟩) (by assumption) ?_
           · (intro wS hSw; (try dsimp only at hSw); clear hSw; go_simp; (try with_reducible rfl); (try exact ⟨rfl, rfl⟩))
           (try simp only [Act.put, pS0, pS1, pS2])
           refine wpAnyH_take (i := 8) (oi := ⟨some 110, _, _, _, _, _⟩) (v := .agg (mva (((l.length : Nat), (ds.length : Nat), (ds.length : Nat) + (cs.length : Nat), 0, chead l, [rp]), A7, c7))) rfl (by kernel_rfl) (by kernel_rfl) (by kernel_rfl) (fun _ _ _ h => h) (Or.inl ⟨by kernel_rfl, ?_⟩) (by assumption) ?_
           · (intro wS hSw; (try dsimp only at hSw); clear hSw; go_simp; (try with_reducible rfl); (try exact ⟨rfl, rfl⟩))
           (try simp only [Act.put, pS0, pS1, pS2])
           refine wpAnyH_take (i := 9) (oi := ⟨some 111, _, _, _, _, _⟩) (v := .nilIface) rfl (by kernel_rfl) (by kernel_rfl) (by kernel_rfl) (fun _ _ _ h => h) (Or.inl ⟨by kernel_rfl, ?_⟩) (by assumption) ?_
           · (intro wS hSw; (try dsimp only at hSw); clear hSw; go_simp; (try with_reducible rfl); (try exact ⟨rfl, rfl⟩))
           (try simp only [Act.put, pS0, pS1, pS2])
           refine dagUse (hD1_5_6_10.out _ _ _ _ _ _ _ _ ?_) (by kernel_rfl)
           exact ⟨by (with_reducible exact hHeld), by (exact Own.more ho7 (Below.size hOld)), by (with_reducible exact Blk.below f2 hb7), by (with_reducible assumption), trivial⟩
         exact AllReadyH.nil
       (try simp only [putL, List.foldl, Act.put, List.setIfInBounds_toArray, List.set_cons_zero, List.set_cons_succ] at hD1_5_10)
       refine dagCut (fun K => ∀ A5 : Option Addr, ∀ c5 : Nat, ∀ m5 : List MfV, ∀ g5 : Nat, ∀ W : World, ((fun W => Below w9.heap.size w9 W)) W ∧ NewM W w9.heap.size A5 c5 m5 ∧ SlP W (some ⟨g5, 0, none⟩) 1 [rp] ∧ Hid (mvs m5 = l) ∧ True → K [(104, .slice A5 m5.length c5), (108, .slice (some ⟨g5, 0, none⟩) 1 1)] W) 7 [1, 5] ?_ (fun hD1_5 => ?_)
       · intro A5 c5 m5 g5 W hT
         (try dsimp only [putL, List.foldl])
         (try simp only [putL, List.foldl, Act.put, List.setIfInBounds_toArray, List.set_cons_zero, List.set_cons_succ])
         obtain ⟨hHeld, f0, f1, f2, -⟩ := hT
         have hOld := hHeld
         refine wpAnyH_ready (rs := [6, 10]) (by kernel_rfl) (by simp) ?_
         refine AllReadyH.cons (o := ⟨some 109, _, _, _, _, _⟩) rfl (fun K hK => ?_) ?_
         · go_simp
           (have hNx := ChNext_any (E := A5) (cap := c5) m5 (ds.length : Nat) 0 [rp] _ (HGd.out.below hHeld) f0.slm f1 HPI.out (by simp); have hm5 : Hid (mvs m5 = l) := (by assumption); rw [hm5.out, HNx.out] at hNx; refine hNx.mono ?_; clear hNx; rintro e w7 ⟨A7, c7, mm7, rfl, hm7, ho7, hb7⟩; obtain rfl : mm7 = [rp] := hm7.out)
           go_wp2_with fail
           refine hK.out _ _ ?_ (fun hHeld => ?_)
           · ((try dsimp only); (with_reducible exact bel_call hHeld hb7))
           clear hK K
           (try simp only [Act.put, pS0, pS1, pS2])
           refine wpAnyH_take (i := 7) (oi := ⟨some 102, _, _, _, _, _⟩) (v := .tuple #[.agg (mva (((l.length : Nat), (ds.length : Nat), (ds.length : Nat) + (cs.length : Nat), 0, chead l, [rp]), A7, c7)), .nilIface]) rfl (by kernel_rfl) (by kernel_rfl) (by kernel_rfl) (fun _ _ _ h => h) (Or.inl ⟨by kernel_rfl, ?_⟩) (by assumption) ?_
           · (intro wS hSw; (try dsimp only at hSw); clear hSw; go_simp; (try with_reducible rfl); (try exact ⟨rfl, rfl⟩))
           (try simp only [Act.put, pS0, pS1, pS2])
           refine wpAnyH_take (i := 8) (oi := ⟨some 110, _, _, _, _, _⟩) (v := .agg (mva (((l.length : Nat), (ds.length : Nat), (ds.length : Nat) + (cs.length : Nat), 0, chead l, [rp]), A7, c7))) rfl (by kernel_rfl) (by kernel_rfl) (by kernel_rfl) (fun _ _ _ h => h) (Or.inl ⟨by kernel_rfl, ?_⟩) (by assumption) ?_
           · (intro wS hSw; (try dsimp only at hSw); clear hSw; go_simp; (try with_reducible rfl); (try exact ⟨rfl, rfl⟩))
           (try simp only [Act.put, pS0, pS1, pS2])
           refine wpAnyH_take (i := 9) (oi := ⟨some 111, _, _, _, _, _⟩) (v := .nilIface) rfl (by kernel_rfl) (by kernel_rfl) (by kernel_rfl) (fun _ _ _ h => h) (Or.inl ⟨by kernel_rfl, ?_⟩) (by assumption) ?_
           · (intro wS hSw; (try dsimp only at hSw); clear hSw; go_simp; (try with_reducible rfl); (try exact ⟨rfl, rfl⟩))
           (try simp only [Act.put, pS0, pS1, pS2])
           refine dagUse (hD1_5_6.out _ _ _ _ _ _ _ ?_) (by kernel_rfl)
           exact ⟨by (with_reducible exact hHeld), by (exact Own.more ho7 (Below.size hOld)), trivial⟩
         refine AllReadyH.cons (o := ⟨some 17, _, _, _, _, _⟩) rfl (fun K hK => ?_) ?_
         · (go_simp)
           refine hK.out _ _ ?_ (fun hHeld => ?_)
           · ((try dsimp only); (with_reducible exact bel_alloc hHeld _))
           clear hK K
           (try simp only [Act.put, pS0, pS1, pS2])
           refine dagUse (hD1_5_10.out _ _ _ _ _ _ ?_) (by kernel_rfl)
           exact ⟨by (with_reducible exact hHeld), by (with_reducible exact NewM.below f0 (below_new _ _)), by (with_reducible exact SlP.below f1 (below_new _ _)), by (exact Blk.new _ _ _), by (exact Below.size hOld), by (with_reducible assumption), trivial⟩
         exact AllReadyH.nil
       (try simp only [putL, List.foldl, Act.put, List.setIfInBounds_toArray, List.set_cons_zero, List.set_cons_succ] at hD1_5)
       refine dagCut (fun K => ∀ A5 : Option Addr, ∀ c5 : Nat, ∀ m5 : List MfV, ∀ g10 : Nat, ∀ W : World, ((fun W => Below w9.heap.size w9 W)) W ∧ NewM W w9.heap.size A5 c5 m5 ∧ Blk W g10 46 (mva ((0, 0, 0, 0, dg0, []), none, 0)) ∧ w9.heap.size ≤ g10 ∧ Hid (mvs m5 = l) ∧ True → K [(104, .slice A5 m5.length c5), (17, .pointer (some ⟨g10, 0, none⟩))] W) 7 [1, 10] ?_ (fun hD1_10 => ?_)
       · intro A5 c5 m5 g10 W hT
         (try dsimp only [putL, List.foldl])
         (try simp only [putL, List.foldl, Act.put, List.setIfInBounds_toArray, List.set_cons_zero, List.set_cons_succ])
         obtain ⟨hHeld, f0, f1, f2, f3, -⟩ := hT
         have hOld := hHeld
         refine wpAnyH_ready (rs := [5]) (by kernel_rfl) (by simp) ?_
         refine AllReadyH.cons (o := ⟨some 108, _, _, _, _, _⟩) rfl (fun K hK => ?_) ?_
         · ((refine step_lit1 (by kernel_rfl) _ rfl rp rfl ?_))
           refine hK.out _ _ ?_ (fun hHeld => ?_)
           · ((try dsimp only); (with_reducible exact bel_alloc hHeld _))
           clear hK K
           (try simp only [Act.put, pS0, pS1, pS2])
           refine dagUse (hD1_5_10.out _ _ _ _ _ _ ?_) (by kernel_rfl)
           exact ⟨by (with_reducible exact hHeld), by (with_reducible exact NewM.below f0 (below_new _ _)), by (with_reducible exact litP _ _), by (with_reducible exact Blk.alloc f1 _), by (with_reducible assumption), by (with_reducible assumption), trivial⟩
         exact AllReadyH.nil
       (try simp only [putL, List.foldl, Act.put, List.setIfInBounds_toArray, List.set_cons_zero, List.set_cons_succ] at hD1_10)
       refine dagCut (fun K => ∀ g5 : Nat, ∀ g10 : Nat, ∀ W : World, ((fun W => Below w9.heap.size w9 W)) W ∧ SlP W (some ⟨g5, 0, none⟩) 1 [rp] ∧ Blk W g10 46 (mva ((0, 0, 0, 0, dg0, []), none, 0)) ∧ w9.heap.size ≤ g10 ∧ True → K [(108, .slice (some ⟨g5, 0, none⟩) 1 1), (17, .pointer (some ⟨g10, 0, none⟩))] W) 7 [5, 10] ?_ (fun hD5_10 => ?_)
       · intro g5 g10 W hT
         (try dsimp only [putL, List.foldl])
         (try simp only [putL, List.foldl, Act.put, List.setIfInBounds_toArray, List.set_cons_zero, List.set_cons_succ])
         obtain ⟨hHeld, f0, f1, f2, -⟩ := hT
         have hOld := hHeld
         refine wpAnyH_ready (rs := [1]) (by kernel_rfl) (by simp) ?_
         refine AllReadyH.cons (o := ⟨some 104, _, _, _, _, _⟩) rfl (fun K hK => ?_) ?_
         · go_simp
           (refine (LChain (hV9.below hHeld) hFw9).mono ?_; rintro e w5 ⟨A5, c5, m5, rfl, hm5, ho5, hb5⟩)
           go_wp2_with fail
           refine hK.out _ _ ?_ (fun hHeld => ?_)
           · ((try dsimp only); (with_reducible exact bel_call hHeld hb5))
           clear hK K
           (try simp only [Act.put, pS0, pS1, pS2])
           refine dagUse (hD1_5_10.out _ _ _ _ _ _ ?_) (by kernel_rfl)
           exact ⟨by (with_reducible exact hHeld), by (exact NewM.more ho5 (Below.size hOld)), by (with_reducible exact SlP.below f0 hb5), by (with_reducible exact Blk.below f1 hb5), by (with_reducible assumption), by (with_reducible assumption), trivial⟩
         exact AllReadyH.nil
       (try simp only [putL, List.foldl, Act.put, List.setIfInBounds_toArray, List.set_cons_zero, List.set_cons_succ] at hD5_10)
       refine dagCut (fun K => ∀ A5 : Option Addr, ∀ c5 : Nat, ∀ m5 : List MfV, ∀ W : World, ((fun W => Below w9.heap.size w9 W)) W ∧ NewM W w9.heap.size A5 c5 m5 ∧ Hid (mvs m5 = l) ∧ True → K [(104, .slice A5 m5.length c5)] W) 8 [1] ?_ (fun hD1 => ?_)
       · intro A5 c5 m5 W hT
         (try dsimp only [putL, List.foldl])
         (try simp only [putL, List.foldl, Act.put, List.setIfInBounds_toArray, List.set_cons_zero, List.set_cons_succ])
         obtain ⟨hHeld, f0, f1, -⟩ := hT
         have hOld := hHeld
         refine wpAnyH_ready (rs := [5, 10]) (by kernel_rfl) (by simp) ?_
         refine AllReadyH.cons (o := ⟨some 108, _, _, _, _, _⟩) rfl (fun K hK => ?_) ?_
         · ((refine step_lit1 (by kernel_rfl) _ rfl rp rfl ?_))
           refine hK.out _ _ ?_ (fun hHeld => ?_)
           · ((try dsimp only); (with_reducible exact bel_alloc hHeld _))
           clear hK K
           (try simp only [Act.put, pS0, pS1, pS2])
           refine dagUse (hD1_5.out _ _ _ _ _ ?_) (by kernel_rfl)
           exact ⟨by (with_reducible exact hHeld), by (with_reducible exact NewM.below f0 (below_new _ _)), by (with_reducible exact litP _ _), by (with_reducible assumption), trivial⟩
         refine AllReadyH.cons (o := ⟨some 17, _, _, _, _, _⟩) rfl (fun K hK => ?_) ?_
         · (go_simp)
           refine hK.out _ _ ?_ (fun hHeld => ?_)
           · ((try dsimp only); (with_reducible exact bel_alloc hHeld _))
           clear hK K
           (try simp only [Act.put, pS0, pS1, pS2])
           refine dagUse (hD1_10.out _ _ _ _ _ ?_) (by kernel_rfl)
           exact ⟨by (with_reducible exact hHeld), by (with_reducible exact NewM.below f0 (below_new _ _)), by (exact Blk.new _ _ _), by (exact Below.size hOld), by (with_reducible assumption), trivial⟩
         exact AllReadyH.nil
       (try simp only [putL, List.foldl, Act.put, List.setIfInBounds_toArray, List.set_cons_zero, List.set_cons_succ] at hD1)
       refine dagCut (fun K => ∀ g5 : Nat, ∀ W : World, ((fun W => Below w9.heap.size w9 W)) W ∧ SlP W (some ⟨g5, 0, none⟩) 1 [rp] ∧ True → K [(108, .slice (some ⟨g5, 0, none⟩) 1 1)] W) 8 [5] ?_ (fun hD5 => ?_)
       · intro g5 W hT
         (try dsimp only [putL, List.foldl])
         (try simp only [putL, List.foldl, Act.put, List.setIfInBounds_toArray, List.set_cons_zero, List.set_cons_succ])
         obtain ⟨hHeld, f0, -⟩ := hT
         have hOld := hHeld
         refine wpAnyH_ready (rs := [1, 10]) (by kernel_rfl) (by simp) ?_
         refine AllReadyH.cons (o := ⟨some 104, _, _, _, _, _⟩) rfl (fun K hK => ?_) ?_
         · go_simp
           (refine (LChain (hV9.below hHeld) hFw9).mono ?_; rintro e w5 ⟨A5, c5, m5, rfl, hm5, ho5, hb5⟩)
           go_wp2_with fail
           refine hK.out _ _ ?_ (fun hHeld => ?_)
           · ((try dsimp only); (with_reducible exact bel_call hHeld hb5))
           clear hK K
           (try simp only [Act.put, pS0, pS1, pS2])
           refine dagUse (hD1_5.out _ _ _ _ _ ?_) (by kernel_rfl)
           exact ⟨by (with_reducible exact hHeld), by (exact NewM.more ho5 (Below.size hOld)), by (with_reducible exact SlP.below f0 hb5), by (with_reducible assumption), trivial⟩
         refine AllReadyH.cons (o := ⟨some 17, _, _, _, _, _⟩) rfl (fun K hK => ?_) ?_
         · (go_simp)
           refine hK.out _ _ ?_ (fun hHeld => ?_)
           · ((try dsimp only); (with_reducible exact bel_alloc hHeld _))
           clear hK K
           (try simp only [Act.put, pS0, pS1, pS2])
           refine dagUse (hD5_10.out _ _ _ ?_) (by kernel_rfl)
           exact ⟨by (with_reducible exact hHeld), by (with_reducible exact SlP.below f0 (below_new _ _)), by (exact Blk.new _ _ _), by (exact Below.size hOld), trivial⟩
         exact AllReadyH.nil
       (try simp only [putL, List.foldl, Act.put, List.setIfInBounds_toArray, List.set_cons_zero, List.set_cons_succ] at hD5)
       refine dagCut (fun K => ∀ g10 : Nat, ∀ W : World, ((fun W => Below w9.heap.size w9 W)) W ∧ Blk W g10 46 (mva ((0, 0, 0, 0, dg0, []), none, 0)) ∧ w9.heap.size ≤ g10 ∧ True → K [(17, .pointer (some ⟨g10, 0, none⟩))] W) 8 [10] ?_ (fun hD10 => ?_)
       · intro g10 W hT
         (try dsimp only [putL, List.foldl])
         (try simp only [putL, List.foldl, Act.put, List.setIfInBounds_toArray, List.set_cons_zero, List.set_cons_succ])
         obtain ⟨hHeld, f0, f1, -⟩ := hT
         have hOld := hHeld
         refine wpAnyH_ready (rs := [1, 5]) (by kernel_rfl) (by simp) ?_
         refine AllReadyH.cons (o := ⟨some 104, _, _, _, _, _⟩) rfl (fun K hK => ?_) ?_
         · go_simp
           (refine (LChain (hV9.below hHeld) hFw9).mono ?_; rintro e w5 ⟨A5, c5, m5, rfl, hm5, ho5, hb5⟩)
           go_wp2_with fail
           refine hK.out _ _ ?_ (fun hHeld => ?_)
           · ((try dsimp only); (with_reducible exact bel_call hHeld hb5))
           clear hK K
           (try simp only [Act.put, pS0, pS1, pS2])
           refine dagUse (hD1_10.out _ _ _ _ _ ?_) (by kernel_rfl)
           exact ⟨by (with_reducible exact hHeld), by (exact NewM.more ho5 (Below.size hOld)), by (with_reducible exact Blk.below f0 hb5), by (with_reducible assumption), by (with_reducible assumption), trivial⟩
         refine AllReadyH.cons (o := ⟨some 108, _, _, _, _, _⟩) rfl (fun K hK => ?_) ?_
         · ((refine step_lit1 (by kernel_rfl) _ rfl rp rfl ?_))
           refine hK.out _ _ ?_ (fun hHeld => ?_)
           · ((try dsimp only); (with_reducible exact bel_alloc hHeld _))
           clear hK K
           (try simp only [Act.put, pS0, pS1, pS2])
           refine dagUse (hD5_10.out _ _ _ ?_) (by kernel_rfl)
           exact ⟨by (with_reducible exact hHeld), by (with_reducible exact litP _ _), by (with_reducible exact Blk.alloc f0 _), by (with_reducible assumption), trivial⟩
         exact AllReadyH.nil
       (try simp only [putL, List.foldl, Act.put, List.setIfInBounds_toArray, List.set_cons_zero, List.set_cons_succ] at hD10)
       refine wpAnyH_ready (rs := [1, 5, 10]) (by kernel_rfl) (by simp) ?_
       refine AllReadyH.cons (o := ⟨some 104, _, _, _, _, _⟩) rfl (fun K hK => ?_) ?_
       · go_simp
         (refine (LChain (hV9.below hHeld) hFw9).mono ?_; rintro e w5 ⟨A5, c5, m5, rfl, hm5, ho5, hb5⟩)
         go_wp2_with fail
         refine hK.out _ _ ?_ (fun hHeld => ?_)
         · ((try dsimp only); (with_reducible exact bel_call hHeld hb5))
         clear hK K
         (try simp only [Act.put, pS0, pS1, pS2])
         refine dagUse (hD1.out _ _ _ _ ?_) (by kernel_rfl)
         exact ⟨by (with_reducible exact hHeld), by (exact NewM.more ho5 (Below.size hOld)), by (with_reducible assumption), trivial⟩
       refine AllReadyH.cons (o := ⟨some 108, _, _, _, _, _⟩) rfl (fun K hK => ?_) ?_
       · ((refine step_lit1 (by kernel_rfl) _ rfl rp rfl ?_))
         refine hK.out _ _ ?_ (fun hHeld => ?_)
         · ((try dsimp only); (with_reducible exact bel_alloc hHeld _))
         clear hK K
         (try simp only [Act.put, pS0, pS1, pS2])
         refine dagUse (hD5.out _ _ ?_) (by kernel_rfl)
         exact ⟨by (with_reducible exact hHeld), by (with_reducible exact litP _ _), trivial⟩
       refine AllReadyH.cons (o := ⟨some 17, _, _, _, _, _⟩) rfl (fun K hK => ?_) ?_
       · (go_simp)
         refine hK.out _ _ ?_ (fun hHeld => ?_)
         · ((try dsimp only); (with_reducible exact bel_alloc hHeld _))
         clear hK K
         (try simp only [Act.put, pS0, pS1, pS2])
         refine dagUse (hD10.out _ _ ?_) (by kernel_rfl)
         exact ⟨by (with_reducible exact hHeld), by (exact Blk.new _ _ _), by (exact Below.size hOld), trivial⟩
       exact AllReadyH.nil
      obtain ⟨gm, A7, c7, rfl, rfl, hbc, hBm, hgm, hPm⟩ := hcut
      have hMc := hM9.call hbc
      have hVc := hV9.below hbc
      have hRc := Own.below hR9 hbc
      have hmz := Lib.hid (mva_size (((l.length : Nat), (ds.length : Nat), (ds.length : Nat) + (cs.length : Nat), 0, chead l, [rp]), A7, c7))
      have HCm := Lib.hid (LCommit hVc (HGd.out.below hbc) hfa (by omega) (by omega) (A := A7) (c := c7) ((l.length : Nat), (ds.length : Nat), (ds.length : Nat) + (cs.length : Nat), 0, chead l, [rp]) hPm.sl HMx.out (by simp))
      have hfc := fun (A9 : Option Addr) (c9 : Nat) => vcommit_fok (d := rd) (l := l) (x := ((l.length : Nat), (ds.length : Nat), (ds.length : Nat) + (cs.length : Nat), 0, chead l, [rp])) (enc := fun x => ⟨A9, c9, x⟩) hfa
      have hgc := fun (A9 : Option Addr) (c9 : Nat) => vcommit_grow (d := rd) (l := l) (x := ((l.length : Nat), (ds.length : Nat), (ds.length : Nat) + (cs.length : Nat), 0, chead l, [rp])) (enc := fun x => ⟨A9, c9, x⟩)
      have Hfg := Lib.hid (And.intro hfc hgc)
      have HMc := Lib.hid (And.intro hMc hRc)
      clear hst hM9 hV9 hR9 hVc hMc hRc hfc hgc hPm hbc hFw9
      go_wp2_with (refine wpl_loadG rfl 46 _ rfl ⟨gm, 0, none⟩ (mva (((l.length : Nat), (ds.length : Nat), (ds.length : Nat) + (cs.length : Nat), 0, chead l, [rp]), A7, c7)) rfl hBm.cells _ Tryz.underlying46 rfl (by rw [hmz.out]; kernel_rfl) ?_)
      refine HCm.out.mono ?_
      rintro e w9c ⟨A9, c9, rfl, hva9c, hV9c⟩
      have hM9c := HMc.out.1.act hva9c
      have hR9c := hva9c.own HMc.out.2 (fun b hb => HMc.out.1.offG b (by rw [hb]; exact .head _))
      have hC := HC.out A9 c9
      have hfc := Hfg.out.1 A9 c9
      have hgc := Hfg.out.2 A9 c9
      generalize vcommit svl Sv.nil Sv.l (fun x => ⟨A9, c9, x⟩) ⟨rd, l⟩ ((l.length : Nat), (ds.length : Nat), (ds.length : Nat) + (cs.length : Nat), 0, chead l, [rp]) = r2 at *
      generalize grow S8 wc w9c = S9c at *
      obtain ⟨⟨ed, el⟩, ek⟩ := r2
      dsimp only at hV9c hfc hgc ⊢
      clear HCm HC Hfg HMc hva9c hBm
      cases hC with
      | left _ _ h0 h14 h =>
       obtain ⟨ke, hev⟩ : ∃ ke : Int, errv ek = .iface 60 (.int .i64 ke) := by
        rcases errv_cases ek with ⟨h1, -⟩ | ⟨k', -, -, h1⟩
        · exact absurd h1 h0
        · exact ⟨k', h1⟩
       have hIs := fun W => isn_any ek 14 W
       rw [hev, show (((ek : Nat) : Int) == 14) = false from by simp; omega] at hIs
       have HIs := Lib.hid hIs
       have HX := Lib.hid (show KpS w w9c S9c g gv ed l A c ds (i + 1) from ⟨hM9c.sub (by simp), hV9c, h, hfc, by omega, by omega, by omega, HTm.out, hR9c, HRd.out⟩)
       rw [hev]
       clear hev hIs h0 h14 h hM9c hV9c hR9c hfc
       go_wp2_with fail
       refine (HIs.out _).mono ?_
       rintro e w10 ⟨rfl, rfl⟩
       go_wp2_with fail
       go_roundw
       case rel => exact ⟨i + 1, gv, S9c, ed, l, A, c, ds, hlt, by go_num, rfl, rfl, HX⟩
       case measure => simp [intOf]; omega
      | down _ hd h =>
       have HIs := Lib.hid (fun W => (show Calls Tryz.prog 17 #[.iface 60 (.int .i64 14), .int .i64 14] W fun e w' => e = .returned (.bool true) ∧ W = w' from isn_any 14 14 W))
       have hD7 := hV9c.ds
       have hM7 := hM9c
       have hR7 := hR9c
       have HAg := Lib.hid h
       clear hd h hM9c hV9c hR9c
       rw [show errv 14 = Value.iface 60 (.int .i64 14) from rfl]
       go_wp2_with fail
       refine (HIs.out _).mono ?_
       rintro e w9b ⟨rfl, rfl⟩
       -- cut, start, open anew
       have hlk : ks ≠ [] → ∀ k, B0.map (·.block) = some k → ¬ S9c k := fun hne k hk hS => by
        obtain ⟨ad, rfl⟩ : ∃ ad, B0 = some ad := by cases B0 with | none => cases hk | some ad => exact ⟨ad, rfl⟩
        injection hk with hk
        have h1 := SlZ.ltB HKs.out hne rfl
        have h2 := (hM7.kin k hS).1
        dsimp only at hk
        omega
       have HCu := Lib.hid (LCut hD7 (by omega) (by omega) ks (Sl.below HKs.out hM7.mm.bel) hlk)
       clear hlk hD7
       go_wp2_with fail
       refine HCu.out.mono ?_
       rintro e w8 ⟨rfl, hva8, hD8⟩
       have hM8 := hM7.act hva8
       have hR8 := hva8.own hR7 (fun b hb => hM7.offG b (by rw [hb]; exact .head _))
       have hcl := cut_len ks ed
       generalize grow S9c w9c w8 = S8 at *
       have HSt := Lib.hid (LStart hD8 (by omega) (by omega))
       clear hM7 hva8 hD8 hR7 HCu
       go_wp2_with fail
       refine HSt.out.mono ?_
       rintro e w9 ⟨rfl, hva9, hD9⟩
       have hM9 := hM8.act hva9
       have hR9 := hva9.own hR8 (fun b hb => hM8.offG b (by rw [hb]; exact .head _))
       have hsl := start_len (dCut ks ed)
       have hfk9 := start_fok (dCut ks ed)
       generalize grow S8 w8 w9 = S9 at *
       have HOp := Lib.hid (LOpen hD9 hM9.kin hM9.mm.bel HGw.out hfk9 (by omega))
       obtain ⟨d2, hop, hfr2, hpn2, hP2⟩ := HAg.out ks
       have hol := sOpen_len (z := Sv.nil) (d := dStart (dCut ks ed)) (by rw [hop])
       have hfo := hfk9.open_
       rw [hop] at hol hfo
       have Hop := Lib.hid hop
       clear hM8 hva9 hD9 hR8 HSt hop
       go_wp2_with fail
       refine HOp.out.mono ?_
       rintro e w10 ⟨hva10, hor⟩
       have hris : Ris d2.sure := by
        rcases hor with ⟨-, gv2, -, hV⟩ | ⟨-, -, hD⟩
        · exact Kv.risen Hop.out hV.ds
        · exact Kv.risen Hop.out hD
       have hM10 := hM9.act hva10
       have hR10 := hva10.own hR9 (fun b hb => hM9.offG b (by rw [hb]; exact .head _))
       generalize grow S9 w9 w10 = S10 at *
       have hP3 := hP2 hris
       clear HOp hP2 HAg hM9 hva10 hR9
       rcases hP3 with hP3 | hP3
       · -- the vault that came again
         have hvo := (hP3).opens (z := Sv.nil) (by have := hl9; simp; omega) Hop.out
         rcases hor with ⟨-, gv2, rfl, hV10⟩ | ⟨h0, -⟩
         rotate_left
         · rw [hvo] at h0
           exact absurd rfl h0
         rw [hvo] at hV10
         dsimp only at hV10
         have hFw10 := (hP3).few (by have := hl9; simp; omega)
         have HCh := Lib.hid (LChain hV10 hFw10)
         have HM10 := Lib.hid hM10
         have HR10 := Lib.hid hR10
         have HV10 := Lib.hid hV10
         have HKv := Lib.hid (hP3)
         clear hM10 hR10 hV10 hvo hFw10 hris hP3
         go_wp2_with fail
         refine HCh.out.mono ?_
         rintro e w11 ⟨A11, c11, m11, rfl, hm11, ho11, hb11⟩
         have hml11 : m11.length = l.length := by
          have h9 := congrArg List.length hm11.out
          rw [mvs_len] at h9
          simpa using h9
         clear hm11 ho11 HCh
         go_upto_region 32 with (fail)
         have hM11 := HM10.out.call hb11
         have hV11 := HV10.out.below hb11
         have hR11 := Own.below HR10.out hb11
         clear hml11 hb11 HM10 HV10 HR10
         have HX := Lib.hid (show KpS w w11 S10 g gv2 d2 l A c ds (i + 1) from ⟨hM11.sub (by simp), hV11, HKv.out, hfo, by omega, by omega, by omega, HTm.out, hR11, HRd.out⟩)
         clear hM11 hV11 hR11 HKv
         go_wp2_with fail
         go_roundw
         case rel => exact ⟨i + 1, gv2, S10, d2, l, A, c, ds, hlt, by go_num, rfl, rfl, HX⟩
         case measure => simp [intOf]; omega
       · -- the vault that came again
         have hvo := (hP3).opens (z := Sv.nil) (by have := hl9; simp; omega) Hop.out
         rcases hor with ⟨-, gv2, rfl, hV10⟩ | ⟨h0, -⟩
         rotate_left
         · rw [hvo] at h0
           exact absurd rfl h0
         rw [hvo] at hV10
         dsimp only at hV10
         have hFw10 := (hP3).few (by have := hl9; simp; omega)
         have HCh := Lib.hid (LChain hV10 hFw10)
         have HM10 := Lib.hid hM10
         have HR10 := Lib.hid hR10
         have HV10 := Lib.hid hV10
         have HKv := Lib.hid (hP3)
         clear hM10 hR10 hV10 hvo hFw10 hris hP3
         go_wp2_with fail
         refine HCh.out.mono ?_
         rintro e w11 ⟨A11, c11, m11, rfl, hm11, ho11, hb11⟩
         have hml11 : m11.length = l.length + 1 := by
          have h9 := congrArg List.length hm11.out
          rw [mvs_len] at h9
          simpa using h9
         clear hm11 ho11 HCh
         go_upto_region 32 with (fail)
         have hM11 := HM10.out.call hb11
         have hV11 := HV10.out.below hb11
         have hR11 := Own.below HR10.out hb11
         clear hml11 hb11 HM10 HV10 HR10
         have hb13 := (Mm.b1 hM11.mm).two
         obtain ⟨-, z1, -, -⟩ := hb13
         have hsc := (HOk.out.1.below hM11.mm.bel).1
         have hsz := hM11.mm.bel.size
         have HX11 := Lib.hid (And.intro hM11 hV11)
         clear hM11 hV11
         go_wp2_with (at_builtin; go_must (refine wpl_cellsP rfl _ _ rfl w.heap.size A c ds rfl hR11 B k cs.length cs rfl rfl hsc (by omega) hsz ?_; intro A12 c12 ds12 w12 hds ho12 hg12 hp12))
         have HX := Lib.hid (show KpS w w12 S10 g gv2 d2 (l ++ [(((l.length : Nat), (ds.length : Nat), (ds.length : Nat) + (cs.length : Nat), 0, chead l, [rp]) : Mf)]) A12 c12 ds12 (i + 1) from ⟨(HX11.out.1.sub (by simp)).grow hg12 (fun b hb => (Own.lt hR11 b hb).1) hp12 (fun b hb => (Own.lt ho12 b hb).2), HX11.out.2.grown hg12 (fun b hb => HX11.out.1.offG b (by rw [hb]; exact .head _)), by rw [hds.out, List.map_append]; exact HKv.out, hfo, by omega, by simp; omega, by rw [hds.out]; simp; omega, by rw [cmark_snoc], ho12, fun x hx => by
          rw [hds.out, List.mem_append] at hx
          rcases hx with hx | hx
          · exact HRd.out x hx
          · exact HOk.out.1.2 x hx⟩)
         clear HX11 hR11 ho12 hg12 hp12 HKv
         go_wp2_with fail
         go_roundw
         case rel => exact ⟨i + 1, gv2, S10, d2, l ++ [(((l.length : Nat), (ds.length : Nat), (ds.length : Nat) + (cs.length : Nat), 0, chead l, [rp]) : Mf)], A12, c12, ds12, hlt, by go_num, rfl, rfl, HX⟩
         case measure => simp [intOf]; omega
      | done _ h =>
       have hD7 := hV9c.ds
       have hM7 := hM9c
       have hR7 := hR9c
       have HAg := Lib.hid (h.again (z := Sv.nil))
       clear h hM9c hV9c hR9c
       rw [show errv 0 = Value.nilIface from rfl]
       -- cut, start, open anew
       have hlk : ks ≠ [] → ∀ k, B0.map (·.block) = some k → ¬ S9c k := fun hne k hk hS => by
        obtain ⟨ad, rfl⟩ : ∃ ad, B0 = some ad := by cases B0 with | none => cases hk | some ad => exact ⟨ad, rfl⟩
        injection hk with hk
        have h1 := SlZ.ltB HKs.out hne rfl
        have h2 := (hM7.kin k hS).1
        dsimp only at hk
        omega
       have HCu := Lib.hid (LCut hD7 (by omega) (by omega) ks (Sl.below HKs.out hM7.mm.bel) hlk)
       clear hlk hD7
       go_wp2_with fail
       refine HCu.out.mono ?_
       rintro e w8 ⟨rfl, hva8, hD8⟩
       have hM8 := hM7.act hva8
       have hR8 := hva8.own hR7 (fun b hb => hM7.offG b (by rw [hb]; exact .head _))
       have hcl := cut_len ks ed
       generalize grow S9c w9c w8 = S8 at *
       have HSt := Lib.hid (LStart hD8 (by omega) (by omega))
       clear hM7 hva8 hD8 hR7 HCu
       go_wp2_with fail
       refine HSt.out.mono ?_
       rintro e w9 ⟨rfl, hva9, hD9⟩
       have hM9 := hM8.act hva9
       have hR9 := hva9.own hR8 (fun b hb => hM8.offG b (by rw [hb]; exact .head _))
       have hsl := start_len (dCut ks ed)
       have hfk9 := start_fok (dCut ks ed)
       generalize grow S8 w8 w9 = S9 at *
       have HOp := Lib.hid (LOpen hD9 hM9.kin hM9.mm.bel HGw.out hfk9 (by omega))
       obtain ⟨d2, hop, hfr2, hpn2, hP2⟩ := HAg.out ks
       have hol := sOpen_len (z := Sv.nil) (d := dStart (dCut ks ed)) (by rw [hop])
       have hfo := hfk9.open_
       rw [hop] at hol hfo
       have Hop := Lib.hid hop
       clear hM8 hva9 hD9 hR8 HSt hop
       go_wp2_with fail
       refine HOp.out.mono ?_
       rintro e w10 ⟨hva10, hor⟩
       have hris : Ris d2.sure := by
        rcases hor with ⟨-, gv2, -, hV⟩ | ⟨-, -, hD⟩
        · exact Kv.risen Hop.out hV.ds
        · exact Kv.risen Hop.out hD
       have hM10 := hM9.act hva10
       have hR10 := hva10.own hR9 (fun b hb => hM9.offG b (by rw [hb]; exact .head _))
       generalize grow S9 w9 w10 = S10 at *
       have hP3 := hP2 hris
       clear HOp hP2 HAg hM9 hva10 hR9
       -- the vault that came again
       have hvo := (hP3).opens (z := Sv.nil) (by have := hl9; simp; omega) Hop.out
       rcases hor with ⟨-, gv2, rfl, hV10⟩ | ⟨h0, -⟩
       rotate_left
       · rw [hvo] at h0
         exact absurd rfl h0
       rw [hvo] at hV10
       dsimp only at hV10
       have hFw10 := (hP3).few (by have := hl9; simp; omega)
       have HCh := Lib.hid (LChain hV10 hFw10)
       have HM10 := Lib.hid hM10
       have HR10 := Lib.hid hR10
       have HV10 := Lib.hid hV10
       have HKv := Lib.hid (hP3)
       clear hM10 hR10 hV10 hvo hFw10 hris hP3
       go_wp2_with fail
       refine HCh.out.mono ?_
       rintro e w11 ⟨A11, c11, m11, rfl, hm11, ho11, hb11⟩
       have hml11 : m11.length = l.length + 1 := by
        have h9 := congrArg List.length hm11.out
        rw [mvs_len] at h9
        simpa using h9
       clear hm11 ho11 HCh
       go_upto_region 32 with (fail)
       have hM11 := HM10.out.call hb11
       have hV11 := HV10.out.below hb11
       have hR11 := Own.below HR10.out hb11
       clear hml11 hb11 HM10 HV10 HR10
       have hb13 := (Mm.b1 hM11.mm).two
       obtain ⟨-, z1, -, -⟩ := hb13
       have hsc := (HOk.out.1.below hM11.mm.bel).1
       have hsz := hM11.mm.bel.size
       have HX11 := Lib.hid (And.intro hM11 hV11)
       clear hM11 hV11
       go_wp2_with (at_builtin; go_must (refine wpl_cellsP rfl _ _ rfl w.heap.size A c ds rfl hR11 B k cs.length cs rfl rfl hsc (by omega) hsz ?_; intro A12 c12 ds12 w12 hds ho12 hg12 hp12))
       have HX := Lib.hid (show KpS w w12 S10 g gv2 d2 (l ++ [(((l.length : Nat), (ds.length : Nat), (ds.length : Nat) + (cs.length : Nat), 0, chead l, [rp]) : Mf)]) A12 c12 ds12 (i + 1) from ⟨(HX11.out.1.sub (by simp)).grow hg12 (fun b hb => (Own.lt hR11 b hb).1) hp12 (fun b hb => (Own.lt ho12 b hb).2), HX11.out.2.grown hg12 (fun b hb => HX11.out.1.offG b (by rw [hb]; exact .head _)), by rw [hds.out, List.map_append]; exact HKv.out, hfo, by omega, by simp; omega, by rw [hds.out]; simp; omega, by rw [cmark_snoc], ho12, fun x hx => by
        rw [hds.out, List.mem_append] at hx
        rcases hx with hx | hx
        · exact HRd.out x hx
        · exact HOk.out.1.2 x hx⟩)
       clear HX11 hR11 ho12 hg12 hp12 HKv
       go_wp2_with fail
       go_roundw
       case rel => exact ⟨i + 1, gv2, S10, d2, l ++ [(((l.length : Nat), (ds.length : Nat), (ds.length : Nat) + (cs.length : Nat), 0, chead l, [rp]) : Mf)], A12, c12, ds12, hlt, by go_num, rfl, rfl, HX⟩
       case measure => simp [intOf]; omega
  · -- all segments are through
    obtain rfl : i = sl.length := by omega
    have hFw := hK.out.kv.few (by have := hK.out.ll; omega)
    have hck := hK.out.kv.check (by rw [hK.out.tm]; exact Int.le_refl _)
    have hCk := LCheck hK.out.vs (HGw.out.below hK.out.mo.mm.bel) hFw
    rw [hck, show errv 0 = Value.nilIface from rfl] at hCk
    have HCk := Lib.hid hCk
    have HFw := Lib.hid hFw
    have hl12 := hK.out.ll
    have hdl := hK.out.dl
    clear hCk hck hFw
    go_wp2_with fail
    refine HCk.out.mono ?_
    rintro e w3 ⟨rfl, hb3⟩
    have hM3 := hK.out.mo.call hb3
    have hV3 := hK.out.vs.below hb3
    have hR3 := Own.below hK.out.row hb3
    have HCh := Lib.hid (LChain hV3 HFw.out)
    have H3 := Lib.hid (And.intro hM3 (And.intro hV3 hR3))
    clear hb3 hM3 hV3 hR3 HCk
    go_wp2_with fail
    refine HCh.out.mono ?_
    rintro e w4 ⟨A4, c4, m4, rfl, hm4, ho4, hb4⟩
    have hml4 : m4.length = l.length := by
     have h9 := congrArg List.length hm4.out
     rwa [mvs_len] at h9
    have hM4 := H3.out.1.call hb4
    have hV4 := H3.out.2.1.below hb4
    have hR4 := Own.below H3.out.2.2 hb4
    have hnn : (((l.length : Nat) : Int) != ((l.length : Nat) : Int)) = false := by simp
    have H4 := Lib.hid (And.intro hM4.mm.bel (And.intro hV4 hR4))
    have hmx := hR4.sl.2.1
    have hmx2 := hR4.sl.2.2.1
    unfold maxLen at hmx2
    clear hM4 hV4 hR4 hm4 ho4 hb4 HCh H3
    go_upto_region 40 with (fail)
    clear hml4 hnn
    go_wp2_with fail
    go_loopw [187] (fun y wz => ∃ a : Nat, a ≤ ds.length ∧ y = .int .i64 a ∧ Below w4.heap.size w4 wz) (fun y w => ds.length - (intOf y).toNat)
    case atStart => exact ⟨0, Nat.zero_le _, rfl, Below.refl _ _⟩
    case round =>
     obtain ⟨a, ha, rfl, hbz⟩ := hrel
     by_cases hal : a < ds.length
     · obtain ⟨ad2, b2, o2, hA2, had2, hcc⟩ := Sl.atS (f := cf) (size := 2) (fun _ => rfl) (by decide) (Sl.below H4.out.2.2.sl hbz) hal
       have hc0 := hcc 0 _ rfl
       have hc1 := hcc 1 _ rfl
       rw [Nat.add_zero] at hc0
       have hxr := hK.out.rd _ (List.getElem_mem hal)
       have hrd := hK.out.kv.read a (by simpa using hal) (by rw [hK.out.tm]; omega)
       rw [List.getElem_map, Int.zero_add] at hrd
       generalize ds[a] = x at *
       obtain ⟨xk, xA, xc, xl⟩ := x
       dsimp only [ceOf] at hc0 hc1 hxr hrd
       subst hA2
       go_upto_region 43 with (fail)
       refine gen1 (T := fun W => Below w4.heap.size w4 W ∧ Blk W wr.heap.size 54 #[.int .i64 xk, .slice xA xl.length xc]) ⟨bel_alloc hbz _, Blk.new _ _ _⟩ (fun w5 hT => ?_)
       generalize wr.heap.size = g22 at *
       clear hbz hc0 hc1 hcc
       obtain ⟨hb5, hB5⟩ := hT
       have hRd := LRead (H4.out.2.1.below hb5) (HGw.out.below (bel_call H4.out.1 hb5)) HFw.out (a : Nat) (by unfold I64; omega)
       rw [hrd] at hRd
       have HRd := Lib.hid hRd
       clear hRd hrd
       go_wp2_with fail
       refine HRd.out.mono ?_
       rintro e w6 ⟨A6, c6, m6, rfl, hm6, ho6, hb6⟩
       obtain rfl : xl = m6 := hm6.out.symm
       have hb7 := bel_call hb5 hb6
       have hB6 := hB5.below hb6
       rw [show errv 0 = Value.nilIface from rfl]
       clear HRd hb5 hb6 hB5 hm6
       go_upto_region 44 with (fail)
       refine gen1 (T := fun W => Below w4.heap.size w4 W ∧ Blk W g22 54 #[.int .i64 xk, .slice xA xl.length xc] ∧ Blk W w6.heap.size 54 #[.int .i64 xk, .slice A6 xl.length c6] ∧ SlB W A6 c6 xl) ⟨bel_alloc hb7 _, hB6.alloc _, Blk.new _ _ _, Sl.below ho6.sl (below_new _ _)⟩ (fun w7 hT => ?_)
       generalize w6.heap.size = g23 at *
       clear hb7 hB6 ho6
       obtain ⟨hb7, hB7, hB8, hs7⟩ := hT
       have hSm := CSame_any xk xk xl xl w7 hs7 (Sl.below hxr (bel_call H4.out.1 hb7))
       rw [show same (xk, xl) (xk, xl) = true from by unfold same; simp] at hSm
       have HSm := Lib.hid hSm
       obtain ⟨z0, z1, -, -⟩ := hB7.two
       obtain ⟨y0, y1, -, -⟩ := hB8.two
       clear hSm hs7
       go_wp2_with fail
       refine HSm.out.mono ?_
       rintro e w8 ⟨rfl, hb8⟩
       have hb9 := bel_call hb7 hb8
       clear hb7 hb8 hB7 hB8 z0 z1 y0 y1 HSm
       go_wp2_with fail
       go_roundw
       case rel => exact ⟨a + 1, hal, by go_num, hb9⟩
       case measure => simp [intOf]; omega
     · obtain rfl : a = ds.length := by omega
       have hbd := (hK.out.kv.beyond (ds.length : Nat) (.inr (by simp))).2
       have hRd := LRead (H4.out.2.1.below hbz) (HGw.out.below (bel_call H4.out.1 hbz)) HFw.out (ds.length : Nat) (by unfold I64; omega)
       rw [hbd] at hRd
       have HRd := Lib.hid hRd
       have HIs := Lib.hid (fun W => (show Calls Tryz.prog 17 #[.iface 60 (.int .i64 4), .int .i64 4] W fun e w' => e = .returned (.bool true) ∧ W = w' from isn_any 4 4 W))
       clear hRd hbd
       go_wp2_with fail
       refine HRd.out.mono ?_
       rintro e w6 ⟨A6, c6, m6, rfl, hm6, ho6, hb6⟩
       rw [show errv 4 = Value.iface 60 (.int .i64 4) from rfl]
       go_wp2_with fail
       refine (HIs.out _).mono ?_
       rintro e w7 ⟨rfl, rfl⟩
       go_wp2_with fail
       go_ret
       exact ⟨rfl, bel_call H4.out.1 (bel_call hbz hb6)⟩
end Go.Proofs.YtajfnmohlnkncaaGreatDoor
