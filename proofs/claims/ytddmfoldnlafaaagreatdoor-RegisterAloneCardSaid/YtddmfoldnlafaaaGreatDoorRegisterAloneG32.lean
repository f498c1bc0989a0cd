/- WHAT IT HOLDS: the law RegisterAlone, walked. -/
import Derived.Test.YtddmfoldnlafaaaGreatDoorRegisterAloneG30
import Derived.Test.YtddmfoldnlafaaaGreatDoorRegisterAloneG31
import Derived.Deep.CutBlock
import Derived.Deep.DeepCutAuto
namespace Go.Proofs.YtddmfoldnlafaaaGreatDoor
open Go.RowKit Go.Maps Go.Sort
attribute [local go_sem ↓] Go.wp_at_zero Go.wp_at_succ

/-- not both hold -/
def BF (k1 k2 : L3r) (n1 n2 : Int) : Prop := (hold3 k1 1 n1 && hold3 k2 2 n2) = false
theorem BF.off1 {k2 : L3r} {n1 n2 : Int} : BF (0, 0, 0) k2 n1 n2 := by
  unfold BF
  rw [hold3_zero 1 n1 (by omega)]
  rfl
theorem BF.off2 {k1 : L3r} {n1 n2 : Int} : BF k1 (0, 0, 0) n1 n2 := by
  unfold BF
  rw [hold3_zero 2 n2 (by omega)]
  simp
theorem BF.time {k1 k2 : L3r} {n1 n2 m1 m2 : Int} (h : BF k1 k2 n1 n2) (h1 : n1 ≤ m1) (h2 : n2 ≤ m2) : BF k1 k2 m1 m2 := by
  unfold BF at *
  cases e1 : hold3 k1 1 m1 with
  | false => rfl
  | true =>
    cases e2 : hold3 k2 2 m2 with
    | false => rfl
    | true => rw [hold3_back e1 h1, hold3_back e2 h2] at h; exact h
/-- between two acts -/
def AgR (w W : World) (g tb b : Nat) (t0 t1 : Int) (i : Nat) (gr : Nat) : Prop := ∃ (q : Fp) (gs : Nat) (d : Dk Sv) (L : L3r) (n : Int) (k1 k2 : L3r) (n1 n2 : Int) (D : DataW Unit) (cnt : Nat), cnt ≤ i ∧ AgS w W g tb b t0 t1 q gr gs d L n k1 k2 n1 n2 D cnt ∧ Hid (DSt (PI k1 k2 n1 n2 D) d L i) ∧ Hid (Clk t1 i n1 n2) ∧ Hid (BF k1 k2 n1 n2)
set_option maxRecDepth 100000 in
set_option maxHeartbeats 2000000 in
theorem ralone_walk {A Z : Option Addr} {c z : Nat} {s : List RA} {zs : List Int} {t0 t1 : Int} (w : World) (h : SlRA w A c s) (hz : Sl w 1 Z zs.length z (zs.map iv)) (hl : raLong s 40 = false) (ha : zs.length ≤ 40) (s0 : 1 ≤ t0) (s1 : t0 ≤ 1073741824) (b0 : 0 ≤ t1) (b1 : t1 ≤ 1073741824) :
    Calls Tryz.prog 4 #[.agg #[.int .i64 t0, .int .i64 t1], .slice A s.length c, .slice Z zs.length z] w fun e w' => e = .returned (.bool true) ∧ Below w.heap.size w w' := by
  have hb0 := below_new w (.cells #[.int .i64 t0, .int .i64 t1] 48)
  have hB0 := Blk.new w 48 #[.int .i64 t0, .int .i64 t1]
  have H := Lib.hid h
  have HZ := Lib.hid hz
  have HSh := Lib.hid (raLong_short hl)
  have hs40 : s.length ≤ 40 := by have := (raLong_short hl).1; omega
  have HLg := fun W (hh : SlRA W A c s) => RaLong_any W hh 40
  rw [hl] at HLg
  replace HLg := Lib.hid HLg
  have HB0 := Lib.hid hB0
  have Hb0 := Lib.hid hb0
  have hmm := @run_makeMap Tryz.prog
  have j1 : ¬ (40 < (zs.length : Int)) := by omega
  have j2 : ¬ (t0 < 1) := by omega
  have j3 : ¬ (1073741824 < t0) := by omega
  have j4 : ¬ (t1 < 0) := by omega
  have j5 : ¬ (1073741824 < t1) := by omega
  have hnbad : ¬ rgBad t0 t1 := by unfold rgBad; omega
  have Hnb := Lib.hid hnbad
  clear h hz hl hb0 hB0 hnbad
  go_enter Tryz.func4, Tryz.ntmps4
  go_wp2_with fail
  refine (AliveR_any _).mono ?_
  rintro e w1 ⟨rfl, hb1⟩
  have hb1' := bel_call Hb0.out hb1
  have hB1 := HB0.out.below hb1
  go_wp2_with fail
  refine (HLg.out _ (H.out.below hb1')).mono ?_
  rintro e w2 ⟨rfl, hb2⟩
  have hb2' := bel_call hb1' hb2
  have hB2 := hB1.below hb2
  obtain ⟨m0, m1, -⟩ := Blk.two hB2
  clear hb1 hb2 HLg hb1' hB1 HB0 Hb0
  go_wp2_with fail
  refine (New_any 1048576 w2).mono ?_
  rintro e w3 (⟨h, -⟩ | ⟨-, q, rfl, hD, hM, hb3⟩)
  · omega
  have hB3 := hB2.below hb3
  have HF3 := Lib.hid (show Fro w w3 q from ⟨bel_call hb2' hb3, fun i hi => Nat.le_trans hb2'.size (hM i hi)⟩)
  have hOp := RgOpen_any hD (Fok.dk0 1048576) (by decide) t0 t1
  have hnq : ¬ q.M w.heap.size := fun hq => by
    have h1 := hM _ hq
    have h2 := hB2.lt
    omega
  clear m0 m1
  obtain ⟨m0, m1, -⟩ := Blk.two hB3
  obtain ⟨g, hg⟩ : ∃ g, q.g = g := ⟨_, rfl⟩
  rw [hg] at hOp ⊢
  have HG := Lib.hid hg
  have HOp := Lib.hid hOp
  have HB3 := Lib.hid hB3
  rw [show errv 0 = Value.nilIface from rfl]
  clear hb2' hB2 hb3 hM hD hOp hg hB3 j1 j2 j3 j4 j5
  go_wp2_with fail
  refine HOp.out.mono ?_
  rintro e w4 hOO
  clear HOp m0 m1
  obtain ⟨d4, h41, h42⟩ := open_st (Rst.start 1048576) Ris.nil (Kept.start 1048576) Hnb.out
  have hrs : Ris d4.sure := by
    obtain ⟨q', -, hD', -⟩ := hOO
    rw [h42] at hD'
    exact hD'.ris
  obtain ⟨hre, hst4, hsu4⟩ := h41 hrs
  rw [hre] at hOO
  obtain ⟨q4, gr4, gs4, rfl, hg4, hR4, hF4, hM4, hgr4⟩ := hOO.ok
  have hm3 : (((w4.alloc (.cells #[iv 0, iv 0, iv 0, iv 0, iv 0, iv 0, iv 0, iv 0, iv 0] 57)).alloc (.cells #[iv 0, iv 0, iv 0] 58)).alloc (.map #[] 0)).ownsMap Tryz.prog 3 (plainElem Tryz.prog 3) (w4.heap.size + 1 + 1) 0 (.map [] : DataW Unit) := by
    have hm := World.ownsMap_made (H := Unit) ((w4.alloc (.cells #[iv 0, iv 0, iv 0, iv 0, iv 0, iv 0, iv 0, iv 0, iv 0] 57)).alloc (.cells #[iv 0, iv 0, iv 0] 58)) Tryz.prog 3 (plainElem Tryz.prog 3)
    rw [show ((w4.alloc (.cells #[iv 0, iv 0, iv 0, iv 0, iv 0, iv 0, iv 0, iv 0, iv 0] 57)).alloc (.cells #[iv 0, iv 0, iv 0] 58)).heap.size = w4.heap.size + 1 + 1 by simp] at hm
    exact hm
  have hb5 := bel_alloc (bel_alloc (below_new w4 (.cells #[iv 0, iv 0, iv 0, iv 0, iv 0, iv 0, iv 0, iv 0, iv 0] 57)) (.cells #[iv 0, iv 0, iv 0] 58)) (.map #[] 0)
  have hS4 : AgS w (((w4.alloc (.cells #[iv 0, iv 0, iv 0, iv 0, iv 0, iv 0, iv 0, iv 0, iv 0] 57)).alloc (.cells #[iv 0, iv 0, iv 0] 58)).alloc (.map #[] 0)) g w.heap.size w4.heap.size t0 t1 q4 gr4 gs4 d4 (0, 0, 0) 0 (0, 0, 0) (0, 0, 0) 0 0 (.map []) 0 := by
    have hlt := HB3.out.lt
    have hl1 := hR4.blk.lt
    have hl2 := hR4.st.blk.lt
    have hl3 : w.heap.size ≤ w4.heap.size := (HF3.out.frd hF4 hM4).1.size
    have hn4 : ∀ i, w4.heap.size ≤ i → ¬ q4.M i := fun i hi hq => by have := hR4.st.dsk.ltM hq; omega
    refine ⟨hg4.trans HG.out, hR4.below hb5, hst4.fok, (HF3.out.frd hF4 hM4).call hb5, Nat.le_trans HF3.out.1.size hgr4, ⟨Blk.below (show Blk w4 _ _ _ from (hF4.block _ hlt hnq).trans HB3.out) hb5, fun hq => ?_, by omega⟩, ⟨((Blk.new w4 _ _).alloc _).alloc _, hn4 _ (by omega), by omega⟩, ⟨(Blk.newAt (by simp) _ _).alloc _, hn4 _ (by omega), by omega⟩, hm3, ⟨hn4 _ (by omega), by omega⟩, ⟨hl3, by omega, by omega, by omega, by omega⟩⟩
    rcases hM4 _ hq with h1 | h1
    · exact hnq h1
    · omega
  have HS4 := Lib.hid hS4
  have HD4 := Lib.hid (show DSt (PI (0, 0, 0) (0, 0, 0) 0 0 (.map [])) d4 (0, 0, 0) 0 from .up ⟨hst4.fre.2, hst4.pe, hst4.sna, hst4.len, by rw [hsu4]; exact Kept.start 1048576⟩ ⟨CInv.start, EInv.start⟩)
  have HC4 := Lib.hid (show Clk t1 0 0 0 from ⟨by omega, by omega, by omega⟩)
  clear hOO hR4 hF4 hM4 hgr4 hg4 hst4 hsu4 hre hrs h41 h42 hnq HB3 HF3 HG hS4 hm3 hb5
  go_wp2_with fail
  generalize w.heap.size = tb at *
  generalize w4.heap.size = b at *
  clear hmm
  go_loopw [76, 9] (fun x y wr => ∃ (i gr : Nat), i ≤ s.length ∧ x = .int .i64 i ∧ y = .pointer (some ⟨gr, 0, none⟩) ∧ AgR w wr g tb b t0 t1 i gr) (fun x _ w => s.length - (intOf x).toNat)
  case atStart => exact ⟨0, gr4, Nat.zero_le _, rfl, rfl, q4, gs4, d4, (0, 0, 0), 0, (0, 0, 0), (0, 0, 0), 0, 0, .map [], 0, Nat.le_refl _, HS4.out, HD4, HC4, Lib.hid BF.off1⟩
  case round =>
    clear HS4 HD4 HC4
    clear q4 d4 q
    obtain ⟨i, gr, hi, rfl, rfl, q, gs, d, L, n, k1, k2, n1, n2, D, cnt, hcn, hS0, hD0, hC0, HB⟩ := hrel
    by_cases hlt : i < s.length
    · have hI : (i : Int) < (s.length : Int) := by omega
      have hS := H.out.below hS0.fro.1
      obtain ⟨ad, bk, o, hA, had, hcc⟩ := Sl.atS (f := rac) (size := 10) (fun _ => rfl) (by omega) hS.1 hlt
      have hc0 := hcc 0 _ rfl
      have hc1 := hcc 1 _ rfl
      have hc2 := hcc 2 _ rfl
      have hc3 := hcc 3 _ rfl
      have hc4 := hcc 4 _ rfl
      have hc5 := hcc 5 _ rfl
      have hc6 := hcc 6 _ rfl
      have hc7 := hcc 7 _ rfl
      have hc8 := hcc 8 _ rfl
      have hc9 := hcc 9 _ rfl
      rw [Nat.add_zero] at hc0
      have HKs := Lib.hid (H.out.2 _ (List.getElem_mem hlt)).1
      have hsh := RA.short (HSh.out.2 _ (List.getElem_mem hlt))
      clear hcc hS
      generalize s[i] = x at *
      obtain ⟨s2, -⟩ := hsh
      have hln := hD0.out.len
      have hb5 := below_new wr (.cells (racta x) 64)
      have HS := Lib.hid (hS0.call hb5)
      have HAc := Lib.hid (Off.new hS0.m.st.dsk hS0.m.blk.lt 64 (racta x))
      have HD := hD0
      have HC := hC0
      subst hA
      clear hb5 hS0 hD0 hC0
      unfold racta at *
      obtain ⟨p, hp0, hp1, hpa⟩ := u64_rem x.o 2 (by decide)
      have hpw : wrap64 (1 + wrap64 p) = 1 + p := by simp only [wrap64]; omega
      have hz0 : wrap64 (0 : Int) = 0 := by simp only [wrap64]; omega
      have hz1 : wrap64 (1 : Int) = 1 := by simp only [wrap64]; omega
      have hz2 : wrap64 (2 : Int) = 2 := by simp only [wrap64]; omega
      rcases (show p = 0 ∨ p = 1 by omega) with rfl | rfl
      · obtain ⟨at0, at1, -⟩ := Blk.two (HS.out).tm.blk
        have ak3 := (HS.out).bk.blk.cell 3
        have ak4 := (HS.out).bk.blk.cell 4
        have ak5 := (HS.out).bk.blk.cell 5
        have ak6 := (HS.out).bk.blk.cell 6
        have ak7 := (HS.out).bk.blk.cell 7
        have ak8 := (HS.out).bk.blk.cell 8
        have af3 := (HS.out).bk.blk.frozen 3
        have af4 := (HS.out).bk.blk.frozen 4
        have af5 := (HS.out).bk.blk.frozen 5
        have af6 := (HS.out).bk.blk.frozen 6
        have af7 := (HS.out).bk.blk.frozen 7
        have af8 := (HS.out).bk.blk.frozen 8
        have an1 := (HS.out).bn.blk.cell 1
        have an2 := (HS.out).bn.blk.cell 2
        have az1 := (HS.out).bn.blk.frozen 1
        have az2 := (HS.out).bn.blk.frozen 2
        simp only [List.getElem?_toArray, List.getElem?_cons_zero, List.getElem?_cons_succ] at ak3 ak4 ak5 ak6 ak7 ak8 an1 an2
        have HAc2 := Lib.hid HAc.out.blk
        obtain ⟨y0, y1, y2, y3, y4, y5, y6, y7, y8, y9⟩ := HAc2.out.tenD
        go_upto_block 2 with (fail)
        have hkd := kindR x.k
        generalize hkk : (IntKind.u64.wrap x.k).tmod 8 = kk at hkd ⊢
        clear at0 at1 ak3 ak4 ak5 ak6 ak7 ak8 af3 af4 af5 af6 af7 af8 an1 an2 az1 az2
        clear y0 y1 y2 y3 y4 y5 y6 y7 y8 y9
        go_cut [9] (fun y wz => ∃ (gr' : Nat) (q' : Fp) (gs' : Nat) (d' : Dk Sv) (L' : L3r) (n' : Int) (x1 x2 : L3r) (D' : DataW Unit) (cnt' : Nat), y = .pointer (some ⟨gr', 0, none⟩) ∧ cnt' ≤ cnt + 1 ∧ AgS w wz g tb b t0 t1 q' gr' gs' d' L' n' x1 x2 n1 n2 D' cnt' ∧ Hid (DSt (PI x1 x2 n1 n2 D') d' L' (i + 1)) ∧ Hid (BF x1 x2 n1 n2))
        case first =>
          clear hkk
          rcases (show (0 ≤ kk ∧ kk ≤ 2) ∨ kk = 3 ∨ kk = 4 ∨ kk = 5 ∨ kk = 6 ∨ kk = 7 by omega) with ⟨hq0, hq1⟩ | rfl | rfl | rfl | rfl | rfl
          · have e3 : (kk == 3) = false := by rw [beq_eq_false_iff_ne]; omega
            have e4 : (kk == 4) = false := by rw [beq_eq_false_iff_ne]; omega
            have e5 : (kk == 5) = false := by rw [beq_eq_false_iff_ne]; omega
            have e6 : (kk == 6) = false := by rw [beq_eq_false_iff_ne]; omega
            have e7 : (kk == 7) = false := by rw [beq_eq_false_iff_ne]; omega
            clear hkd
            as_aux_lemma =>
              have HA := Lib.hid (RAcquire_any HS.out.m HS.out.fk (by omega) 1 n1)
              obtain ⟨at0, at1, -⟩ := Blk.two (HS.out).tm.blk
              have ak3 := (HS.out).bk.blk.cell 3
              have ak4 := (HS.out).bk.blk.cell 4
              have ak5 := (HS.out).bk.blk.cell 5
              have ak6 := (HS.out).bk.blk.cell 6
              have ak7 := (HS.out).bk.blk.cell 7
              have ak8 := (HS.out).bk.blk.cell 8
              have af3 := (HS.out).bk.blk.frozen 3
              have af4 := (HS.out).bk.blk.frozen 4
              have af5 := (HS.out).bk.blk.frozen 5
              have af6 := (HS.out).bk.blk.frozen 6
              have af7 := (HS.out).bk.blk.frozen 7
              have af8 := (HS.out).bk.blk.frozen 8
              have an1 := (HS.out).bn.blk.cell 1
              have an2 := (HS.out).bn.blk.cell 2
              have az1 := (HS.out).bn.blk.frozen 1
              have az2 := (HS.out).bn.blk.frozen 2
              simp only [List.getElem?_toArray, List.getElem?_cons_zero, List.getElem?_cons_succ] at ak3 ak4 ak5 ak6 ak7 ak8 an1 an2
              go_wp2_with fail
              refine HA.out.mono ?_
              clear HA
              clear at0 at1 ak3 ak4 ak5 ak6 ak7 ak8 af3 af4 af5 af6 af7 af8 an1 an2 az1 az2
              rintro e w6 ⟨ret, k, d6, L6, n6, hG, rfl, q6, hg6, hR6, hF6, hM6⟩
              have hcase := HD.out.acq HS.out.m.st.dsk.ris hG (fun hP h0 => ⟨hP.1.half1 HC.out.near.1 h0, hP.2.turn (turn_grantL h0)⟩)
              have HS6 := Lib.hid (HS.out.rg (hG.fok HS.out.fk) hg6 hR6 hF6 hM6)
              have hb7 := below_new w6 (.cells #[.int .i64 ret.1, .int .i64 ret.2.1, .int .i64 ret.2.2] 56)
              have hB7 := Blk.new w6 56 #[.int .i64 ret.1, .int .i64 ret.2.1, .int .i64 ret.2.2]
              clear hG hg6 hR6 hF6 hM6 HS
              rcases hcase with ⟨hk, hD6⟩ | ⟨rfl, hPL, hg0, hret, hL6, hUp⟩
              · obtain ⟨ev, hev⟩ := errv_ifc hk
                rw [hev]
                have HS7 := Lib.hid (HS6.out.call hb7)
                have HD6 := Lib.hid hD6
                clear hev hk hD6 hb7 hB7 HS6
                go_wp2_with fail
                go_meet
                exact ⟨gr, q6, gs, d6, L6, n6, k1, k2, D, cnt, rfl, Nat.le_succ cnt, HS7.out, HD6, HB⟩
              · rw [show errv 0 = Value.nilIface from rfl]
                have hCI := hPL.1.grant1 HC.out.near.1 hg0
                have hEI := hPL.2.turn (turn_grantL hg0)
                have hx1 := (grantL_ok hg0).1
                rw [← hL6] at hret
                rw [← hL6] at hCI hEI hx1
                subst hret
                clear hL6 hg0 hPL
                obtain ⟨xo, xe, xu⟩ := ret
                dsimp only at hx1 hCI hEI hb7 hB7
                subst hx1
                obtain ⟨hck1, hck2, hck3, -⟩ := chk_ok hCI.ok
                dsimp only at hck1 hck2 hck3
                have HBF := Lib.hid (show BF (1, xe, xu) k2 n1 n2 from hCI.both)
                have HUp := Lib.hid hUp
                have HCI := Lib.hid hCI
                have HEI := Lib.hid hEI
                clear hCI hEI hUp
                go_upto_region 19 with (fail)
                refine gen1 (T := fun W => AgS w W g tb b t0 t1 q6 gr gs d6 (1, xe, xu) n6 k1 k2 n1 n2 D cnt ∧ Blk W w6.heap.size 56 #[.int .i64 1, .int .i64 xe, .int .i64 xu]) ⟨HS6.out.call hb7, hB7⟩ (fun w7 hT => ?_)
                clear HS6 hb7 hB7
                obtain ⟨hS7, hB7⟩ := hT
                have hne : w6.heap.size ≠ b := fun e => by
                  have h1 := hB7
                  rw [e] at h1
                  have h2 := h1.symm.trans hS7.bk.blk
                  injection h2 with h2
                  injection h2 with h2 h3
                  exact absurd h3 (by decide)
                generalize w6.heap.size = g17 at *
                obtain ⟨at0, at1, -⟩ := Blk.two (hS7).tm.blk
                have ak3 := (hS7).bk.blk.cell 3
                have ak4 := (hS7).bk.blk.cell 4
                have ak5 := (hS7).bk.blk.cell 5
                have ak6 := (hS7).bk.blk.cell 6
                have ak7 := (hS7).bk.blk.cell 7
                have ak8 := (hS7).bk.blk.cell 8
                have af3 := (hS7).bk.blk.frozen 3
                have af4 := (hS7).bk.blk.frozen 4
                have af5 := (hS7).bk.blk.frozen 5
                have af6 := (hS7).bk.blk.frozen 6
                have af7 := (hS7).bk.blk.frozen 7
                have af8 := (hS7).bk.blk.frozen 8
                have an1 := (hS7).bn.blk.cell 1
                have an2 := (hS7).bn.blk.cell 2
                have az1 := (hS7).bn.blk.frozen 1
                have az2 := (hS7).bn.blk.frozen 2
                simp only [List.getElem?_toArray, List.getElem?_cons_zero, List.getElem?_cons_succ] at ak3 ak4 ak5 ak6 ak7 ak8 an1 an2
                obtain ⟨v0, v1, v2, -, -, -⟩ := hB7.three
                have HS8 := Lib.hid (hS7.known1 (1, xe, xu))
                have HB8 := Lib.hid (((hB7.far (p := ⟨b, 3, none⟩) hne (iv 1)).far (p := ⟨b, 4, none⟩) hne (iv xe)).far (p := ⟨b, 5, none⟩) hne (iv xu))
                clear hS7 hB7
                go_upto_region 20 with (fail)
                refine gen1 (T := fun W => AgS w W g tb b t0 t1 q6 gr gs d6 (1, xe, xu) n6 (1, xe, xu) k2 n1 n2 D cnt ∧ Blk W g17 56 #[.int .i64 1, .int .i64 xe, .int .i64 xu]) ⟨HS8.out, HB8.out⟩ (fun w8 hT => ?_)
                clear at0 at1 ak3 ak4 ak5 ak6 ak7 ak8 af3 af4 af5 af6 af7 af8 an1 an2 az1 az2
                clear HS8 HB8 v0 v1 v2
                obtain ⟨hS8, hB8⟩ := hT
                obtain ⟨v0, v1, v2, -, -, -⟩ := hB8.three
                have hown := hS8.mp
                have hMp := hown.isMap
                have hkey : keyOf Tryz.prog 3 (.int .i64 xe) = some (.int .i64 xe) := Maps.keyOf_int_mk Tryz.underlying3 (wf_i64 (by omega) (by omega))
                have hwv : (Lit.int .i64 1).wf = true := by kernel_rfl
                have HEnd := Lib.hid (DSt.up (P := PI (1, xe, xu) k2 n1 n2 (D.put (.int .i64 xe) (i64 1))) HUp.out ⟨HCI.out, HEI.out.put hMp trivial⟩)
                have hown2 : Maps.has D (.int .i64 xe) = true → ∀ c : Int, D.atKey (.int .i64 xe) (.lit (.int .i64 0)) = .lit (.int .i64 c) → c = 1 := fun hh c hat => by
                  have h1 := HEI.out.own (by show (1 : Int) ≠ 0; omega) hh
                  have h2 : (.lit (.int .i64 c) : DataW Unit) = .lit (.int .i64 1) := hat.symm.trans h1
                  injection h2 with h2
                  injection h2
                have HO := Lib.hid hown2
                have HS8 := Lib.hid hS8
                clear hown2 hS8 hB8 hMp HUp HCI HEI
                cases hh : Maps.has D (.int .i64 xe)
                · go_wp2_with (first
                    | (at_lookup; go_loud (refine wpList_lookup_own_ok_int _ rfl _ _ 59 rfl 3 3 .i64 lawI Tryz.underlying59 Tryz.underlying3 (zeroI _) (b + 1 + 1) cnt D rfl hown _ _ rfl hkey ?_; intro cc hat hwc))
                    | (at_mapUpdate; refine wpList_mapUpdate_own _ rfl _ _ _ 59 rfl 3 3 lawI Tryz.underlying59 _ (b + 1 + 1) cnt _ rfl hown (by unfold maxLen; omega) _ _ _ rfl rfl hkey _ [] (plainElem_int Tryz.underlying3 hwv) ?_; intro w9 hown9 hg9))
                  go_meet
                  exact ⟨gr, q6, gs, d6, _, n6, _, _, _, cnt + 1, rfl, Nat.le_refl _, HS8.out.put hown9 hg9, HEnd, HBF⟩
                · go_wp2_with (first
                    | (at_lookup; go_loud (refine wpList_lookup_own_ok_int _ rfl _ _ 59 rfl 3 3 .i64 lawI Tryz.underlying59 Tryz.underlying3 (zeroI _) (b + 1 + 1) cnt D rfl hown _ _ rfl hkey ?_; intro cc hat hwc; obtain rfl := HO.out hh cc hat))
                    | (at_mapUpdate; refine wpList_mapUpdate_own _ rfl _ _ _ 59 rfl 3 3 lawI Tryz.underlying59 _ (b + 1 + 1) cnt _ rfl hown (by unfold maxLen; omega) _ _ _ rfl rfl hkey _ [] (plainElem_int Tryz.underlying3 hwv) ?_; intro w9 hown9 hg9))
                  go_meet
                  exact ⟨gr, q6, gs, d6, _, n6, _, _, _, cnt + 1, rfl, Nat.le_refl _, HS8.out.put hown9 hg9, HEnd, HBF⟩
          · as_aux_lemma =>
              have HA := Lib.hid (RGive_any HS.out.m HS.out.fk (by have := hln; omega) 1)
              obtain ⟨at0, at1, -⟩ := Blk.two (HS.out).tm.blk
              have ak3 := (HS.out).bk.blk.cell 3
              have ak4 := (HS.out).bk.blk.cell 4
              have ak5 := (HS.out).bk.blk.cell 5
              have ak6 := (HS.out).bk.blk.cell 6
              have ak7 := (HS.out).bk.blk.cell 7
              have ak8 := (HS.out).bk.blk.cell 8
              have af3 := (HS.out).bk.blk.frozen 3
              have af4 := (HS.out).bk.blk.frozen 4
              have af5 := (HS.out).bk.blk.frozen 5
              have af6 := (HS.out).bk.blk.frozen 6
              have af7 := (HS.out).bk.blk.frozen 7
              have af8 := (HS.out).bk.blk.frozen 8
              have an1 := (HS.out).bn.blk.cell 1
              have an2 := (HS.out).bn.blk.cell 2
              have az1 := (HS.out).bn.blk.frozen 1
              have az2 := (HS.out).bn.blk.frozen 2
              simp only [List.getElem?_toArray, List.getElem?_cons_zero, List.getElem?_cons_succ] at ak3 ak4 ak5 ak6 ak7 ak8 an1 an2
              go_wp2_with fail
              refine HA.out.mono ?_
              clear HA
              clear at0 at1 ak3 ak4 ak5 ak6 ak7 ak8 af3 af4 af5 af6 af7 af8 an1 an2 az1 az2
              rintro e w6 ⟨k, d6, L6, hG, rfl, q6, hg6, hR6, hF6, hM6⟩
              have hDS6 := Lib.hid (HD.out.give HS.out.m.st.dsk.ris hG (Q := PI (0, 0, 0) k2 n1 n2 D) (fun l hl => ⟨hl.1.off1, hl.2⟩) (fun hl h0 => ⟨hl.1.give1 h0, hl.2.turn (turn_giveL h0)⟩))
              have hS6 := HS.out.rg (hG.fok HS.out.fk) hg6 hR6 hF6 hM6
              obtain ⟨at0, at1, -⟩ := Blk.two (hS6).tm.blk
              have ak3 := (hS6).bk.blk.cell 3
              have ak4 := (hS6).bk.blk.cell 4
              have ak5 := (hS6).bk.blk.cell 5
              have ak6 := (hS6).bk.blk.cell 6
              have ak7 := (hS6).bk.blk.cell 7
              have ak8 := (hS6).bk.blk.cell 8
              have af3 := (hS6).bk.blk.frozen 3
              have af4 := (hS6).bk.blk.frozen 4
              have af5 := (hS6).bk.blk.frozen 5
              have af6 := (hS6).bk.blk.frozen 6
              have af7 := (hS6).bk.blk.frozen 7
              have af8 := (hS6).bk.blk.frozen 8
              have an1 := (hS6).bn.blk.cell 1
              have an2 := (hS6).bn.blk.cell 2
              have az1 := (hS6).bn.blk.frozen 1
              have az2 := (hS6).bn.blk.frozen 2
              simp only [List.getElem?_toArray, List.getElem?_cons_zero, List.getElem?_cons_succ] at ak3 ak4 ak5 ak6 ak7 ak8 an1 an2
              have HS6 := Lib.hid hS6
              clear hG hg6 hR6 hF6 hM6 HS HD hS6
              go_wp2_with fail
              clear at0 at1 ak3 ak4 ak5 ak6 ak7 ak8 af3 af4 af5 af6 af7 af8 an1 an2 az1 az2
              go_meet
              exact ⟨gr, q6, gs, d6, L6, n, (0, 0, 0), k2, D, cnt, rfl, Nat.le_succ cnt, HS6.out.known1 (0, 0, 0), hDS6, Lib.hid BF.off1⟩
          · as_aux_lemma =>
              obtain ⟨f, hf0, hf1, hfa⟩ := u64_rem x.d.f 6 (by decide)
              have hfw : wrap64 f = f := by simp only [wrap64]; omega
              have hgg := HS.out.g
              have hA := Fuse_any HS.out.m.st.dsk f
              rw [show dFuse d f = ({ d with fuse := f }, 0) from if_neg (by omega), hgg] at hA
              have hqm : q.M g := hgg ▸ Or.inl rfl
              have HQ := Lib.hid hqm
              have HA := Lib.hid hA
              obtain ⟨y0, y1, y2, y3, y4, y5, y6, y7, y8, y9⟩ := HAc2.out.tenD
              clear hA hgg hqm
              go_wp2_with fail
              refine HA.out.mono ?_
              clear HA y0 y1 y2 y3 y4 y5 y6 y7 y8 y9
              rintro e w6 ⟨rfl, hD6, hw6⟩
              rw [show errv (({ d with fuse := f } : Dk Sv), 0).2 = Value.nilIface from rfl]
              have HS6 := Lib.hid (HS.out.act (q' := q) (d' := { d with fuse := f }) ⟨by show -1 ≤ f; omega, by show f ≤ 9223372036854775807; omega⟩ rfl hD6 (Frd.of_wr HQ.out hw6) (fun j hj => .inl hj))
              clear hD6 hw6 HS hfa hfw
              go_wp2_with fail
              go_meet
              exact ⟨gr, q, gs, _, L, n, k1, k2, D, cnt, rfl, Nat.le_succ cnt, HS6.out, Lib.hid ((HD.out.fuse f).mono (Nat.le_succ i) fun _ h => h), HB⟩
          · as_aux_lemma =>
              obtain ⟨f, hf0, hf1, hfa⟩ := u64_rem x.d.f 6 (by decide)
              have hfw : wrap64 f = f := by simp only [wrap64]; omega
              have hgg := HS.out.g
              have hA := Fuse_any HS.out.m.st.dsk f
              rw [show dFuse d f = ({ d with fuse := f }, 0) from if_neg (by omega), hgg] at hA
              have hqm : q.M g := hgg ▸ Or.inl rfl
              have HQ := Lib.hid hqm
              have HA := Lib.hid hA
              obtain ⟨y0, y1, y2, y3, y4, y5, y6, y7, y8, y9⟩ := HAc2.out.tenD
              clear hA hgg hqm
              go_wp2_with fail
              refine HA.out.mono ?_
              clear HA y0 y1 y2 y3 y4 y5 y6 y7 y8 y9
              rintro e w6 ⟨rfl, hD6, hw6⟩
              rw [show errv (({ d with fuse := f } : Dk Sv), 0).2 = Value.nilIface from rfl]
              have HS6 := Lib.hid (HS.out.act (q' := q) (d' := { d with fuse := f }) ⟨by show -1 ≤ f; omega, by show f ≤ 9223372036854775807; omega⟩ rfl hD6 (Frd.of_wr HQ.out hw6) (fun j hj => .inl hj))
              clear hD6 hw6 HS hfa hfw
              go_wp2_with fail
              go_meet
              exact ⟨gr, q, gs, _, L, n, k1, k2, D, cnt, rfl, Nat.le_succ cnt, HS6.out, Lib.hid ((HD.out.fuse f).mono (Nat.le_succ i) fun _ h => h), HB⟩
          · as_aux_lemma =>
              have hkp := Sl.below HKs.out HS.out.fro.1
              have hC := Cut_any HS.out.m.st.dsk (by omega) (by omega) x.ks hkp (fun hne ad hA e => by
                have h1 := SlZ.ltB HKs.out hne hA
                have h2 := HS.out.fro.2 q.bs (.inr (.inl rfl))
                omega)
              rw [HS.out.g] at hC
              have HC1 := Lib.hid hC
              obtain ⟨y0, y1, y2, y3, y4, y5, y6, y7, y8, y9⟩ := HAc2.out.tenD
              clear hC hkp
              go_wp2_with fail
              refine HC1.out.mono ?_
              clear HC1 y0 y1 y2 y3 y4 y5 y6 y7 y8 y9
              rintro e w6 ⟨rfl, q6, hg6, hD6, hF6, hM6, -⟩
              have hS6 := HS.out.act (d' := dCut x.ks d) ⟨HS.out.fk.1, HS.out.fk.2⟩ hg6 hD6 hF6 hM6
              have hcl := cut_len x.ks d
              have hSt := StartDown_any hD6 (Nat.zero_le _) (by omega) rfl
              rw [hS6.g] at hSt
              have HSt := Lib.hid hSt
              have HS6 := Lib.hid hS6
              have HAn := Lib.hid (HD.out.anew HS.out.m.st.dsk.ris Hnb.out x.ks)
              clear hSt hg6 hD6 hF6 hM6 HS hS6
              go_wp2_with fail
              refine HSt.out.mono ?_
              clear HSt
              rintro e w7 ⟨rfl, q7, hg7, hD7, hF7, hM7, -⟩
              have hS7 := HS6.out.act (start_fok _) hg7 hD7 hF7 hM7
              have hcl2 := start_len (dCut x.ks d)
              have hOp := RgOpen_any hS7.m.st.dsk hS7.fk (by omega) t0 t1
              rw [hS7.g] at hOp
              have HOp := Lib.hid hOp
              obtain ⟨at0, at1, -⟩ := Blk.two (hS7).tm.blk
              have ak3 := (hS7).bk.blk.cell 3
              have ak4 := (hS7).bk.blk.cell 4
              have ak5 := (hS7).bk.blk.cell 5
              have ak6 := (hS7).bk.blk.cell 6
              have ak7 := (hS7).bk.blk.cell 7
              have ak8 := (hS7).bk.blk.cell 8
              have af3 := (hS7).bk.blk.frozen 3
              have af4 := (hS7).bk.blk.frozen 4
              have af5 := (hS7).bk.blk.frozen 5
              have af6 := (hS7).bk.blk.frozen 6
              have af7 := (hS7).bk.blk.frozen 7
              have af8 := (hS7).bk.blk.frozen 8
              have an1 := (hS7).bn.blk.cell 1
              have an2 := (hS7).bn.blk.cell 2
              have az1 := (hS7).bn.blk.frozen 1
              have az2 := (hS7).bn.blk.frozen 2
              simp only [List.getElem?_toArray, List.getElem?_cons_zero, List.getElem?_cons_succ] at ak3 ak4 ak5 ak6 ak7 ak8 an1 an2
              have HS7 := Lib.hid hS7
              clear hOp hg7 hD7 hF7 hM7 HS6 hS7 hcl hcl2
              generalize dStart (dCut x.ks d) = d7 at *
              go_wp2_with fail
              refine HOp.out.mono ?_
              clear HOp
              clear at0 at1 ak3 ak4 ak5 ak6 ak7 ak8 af3 af4 af5 af6 af7 af8 an1 an2 az1 az2
              rintro e w8 hOO
              obtain ⟨d2, h21, hfre2, h22⟩ := HAn.out
              have hrs : Ris d2.sure := by
                obtain ⟨q', -, hD', -⟩ := hOO
                rw [h21] at hD'
                exact hD'.ris
              obtain ⟨l, hre, hPl, hUp⟩ := h22 hrs
              rw [hre] at hOO
              obtain ⟨q8, hg8, hD8, hF8, hM8, h08⟩ := hOO
              rcases h08 with ⟨-, gr8, gs8, rfl, hR8, hgr8, hgs8⟩ | ⟨h0, -⟩
              rotate_left
              · exact absurd rfl h0
              have hmlt := HS7.out.mp.lt
              have hS8 := (HS7.out.act (d' := d2) ⟨by rw [hfre2.1]; decide, by rw [hfre2.1]; decide⟩ hg8 hD8 hF8 hM8).reg hR8 (by omega) (by omega)
              have HS8 := Lib.hid hS8
              have HD8 := Lib.hid (DSt.up (P := PI k1 k2 n1 n2 D) (hUp.more (Nat.le_succ i)) hPl)
              clear h21 hfre2 h22 hrs hre hPl hUp hg8 hD8 hF8 hM8 hR8 hgr8 hgs8 hS8 HS7 HAn hmlt
              go_wp2_with fail
              go_meet
              exact ⟨gr8, q8, gs8, d2, l, 0, k1, k2, D, cnt, rfl, Nat.le_succ cnt, HS8.out, HD8, HB⟩
          · as_aux_lemma =>
              have hkp := Sl.below HKs.out HS.out.fro.1
              have hC := Cut_any HS.out.m.st.dsk (by omega) (by omega) x.ks hkp (fun hne ad hA e => by
                have h1 := SlZ.ltB HKs.out hne hA
                have h2 := HS.out.fro.2 q.bs (.inr (.inl rfl))
                omega)
              rw [HS.out.g] at hC
              have HC1 := Lib.hid hC
              obtain ⟨y0, y1, y2, y3, y4, y5, y6, y7, y8, y9⟩ := HAc2.out.tenD
              clear hC hkp
              go_wp2_with fail
              refine HC1.out.mono ?_
              clear HC1 y0 y1 y2 y3 y4 y5 y6 y7 y8 y9
              rintro e w6 ⟨rfl, q6, hg6, hD6, hF6, hM6, -⟩
              have hS6 := HS.out.act (d' := dCut x.ks d) ⟨HS.out.fk.1, HS.out.fk.2⟩ hg6 hD6 hF6 hM6
              have hcl := cut_len x.ks d
              have hSt := StartDown_any hD6 (Nat.zero_le _) (by omega) rfl
              rw [hS6.g] at hSt
              have HSt := Lib.hid hSt
              have HS6 := Lib.hid hS6
              have HAn := Lib.hid (HD.out.anew HS.out.m.st.dsk.ris Hnb.out x.ks)
              clear hSt hg6 hD6 hF6 hM6 HS hS6
              go_wp2_with fail
              refine HSt.out.mono ?_
              clear HSt
              rintro e w7 ⟨rfl, q7, hg7, hD7, hF7, hM7, -⟩
              have hS7 := HS6.out.act (start_fok _) hg7 hD7 hF7 hM7
              have hcl2 := start_len (dCut x.ks d)
              have hOp := RgOpen_any hS7.m.st.dsk hS7.fk (by omega) t0 t1
              rw [hS7.g] at hOp
              have HOp := Lib.hid hOp
              obtain ⟨at0, at1, -⟩ := Blk.two (hS7).tm.blk
              have ak3 := (hS7).bk.blk.cell 3
              have ak4 := (hS7).bk.blk.cell 4
              have ak5 := (hS7).bk.blk.cell 5
              have ak6 := (hS7).bk.blk.cell 6
              have ak7 := (hS7).bk.blk.cell 7
              have ak8 := (hS7).bk.blk.cell 8
              have af3 := (hS7).bk.blk.frozen 3
              have af4 := (hS7).bk.blk.frozen 4
              have af5 := (hS7).bk.blk.frozen 5
              have af6 := (hS7).bk.blk.frozen 6
              have af7 := (hS7).bk.blk.frozen 7
              have af8 := (hS7).bk.blk.frozen 8
              have an1 := (hS7).bn.blk.cell 1
              have an2 := (hS7).bn.blk.cell 2
              have az1 := (hS7).bn.blk.frozen 1
              have az2 := (hS7).bn.blk.frozen 2
              simp only [List.getElem?_toArray, List.getElem?_cons_zero, List.getElem?_cons_succ] at ak3 ak4 ak5 ak6 ak7 ak8 an1 an2
              have HS7 := Lib.hid hS7
              clear hOp hg7 hD7 hF7 hM7 HS6 hS7 hcl hcl2
              generalize dStart (dCut x.ks d) = d7 at *
              go_wp2_with fail
              refine HOp.out.mono ?_
              clear HOp
              clear at0 at1 ak3 ak4 ak5 ak6 ak7 ak8 af3 af4 af5 af6 af7 af8 an1 an2 az1 az2
              rintro e w8 hOO
              obtain ⟨d2, h21, hfre2, h22⟩ := HAn.out
              have hrs : Ris d2.sure := by
                obtain ⟨q', -, hD', -⟩ := hOO
                rw [h21] at hD'
                exact hD'.ris
              obtain ⟨l, hre, hPl, hUp⟩ := h22 hrs
              rw [hre] at hOO
              obtain ⟨q8, hg8, hD8, hF8, hM8, h08⟩ := hOO
              rcases h08 with ⟨-, gr8, gs8, rfl, hR8, hgr8, hgs8⟩ | ⟨h0, -⟩
              rotate_left
              · exact absurd rfl h0
              have hmlt := HS7.out.mp.lt
              have hS8 := (HS7.out.act (d' := d2) ⟨by rw [hfre2.1]; decide, by rw [hfre2.1]; decide⟩ hg8 hD8 hF8 hM8).reg hR8 (by omega) (by omega)
              have HS8 := Lib.hid hS8
              have HD8 := Lib.hid (DSt.up (P := PI k1 k2 n1 n2 D) (hUp.more (Nat.le_succ i)) hPl)
              clear h21 hfre2 h22 hrs hre hPl hUp hg8 hD8 hF8 hM8 hR8 hgr8 hgs8 hS8 HS7 HAn hmlt
              go_wp2_with fail
              go_meet
              exact ⟨gr8, q8, gs8, d2, l, 0, k1, k2, D, cnt, rfl, Nat.le_succ cnt, HS8.out, HD8, HB⟩
        case rest =>
          obtain ⟨gr', q', gs', d', L', n', x1, x2, D', cnt', rfl, hcn', hS9, HD9, HB9⟩ := hcut
          have HS9 := Lib.hid hS9
          clear hS9 HS HAc HAc2 HD HB HKs hln hc0 hc1 hc2 hc3 hc4 hc5 hc6 hc7 hc8 hc9 hpa hpw
          clear q d L D k1 k2
          go_upto_if 169 with (fail)
          go_cut [] (fun wz => ∃ m1 m2 : Int, AgS w wz g tb b t0 t1 q' gr' gs' d' L' n' x1 x2 m1 m2 D' cnt' ∧ Hid (Clk t1 (i + 1) m1 m2) ∧ n1 ≤ m1 ∧ n2 ≤ m2)
          case first =>
            as_aux_lemma =>
              by_cases hzl : i < zs.length
              · have hZI : (i : Int) < (zs.length : Int) := by omega
                obtain ⟨zd, hZA, hzc⟩ := Sl.at1 (f := iv) (HZ.out.below HS9.out.fro.1) hzl
                obtain ⟨av, hv0, hv1, hva⟩ := u64_rem zs[i] 1073741824 (by decide)
                generalize zs[i] = zi at *
                have hC := HC.out
                obtain ⟨hp1, hp2, hne⟩ := hC
                have hwv : wrap64 av = av := by simp only [wrap64]; omega
                have hw1 : wrap64 (n1 + av) = n1 + av := by simp only [wrap64]; omega
                have hw2 : wrap64 (n2 + av) = n2 + av := by simp only [wrap64]; omega
                have hw3 : wrap64 (n1 + av - t1) = n1 + av - t1 := by simp only [wrap64]; omega
                have hw4 : wrap64 (n2 + av - t1) = n2 + av - t1 := by simp only [wrap64]; omega
                have hw5 : wrap64 ((3 : Int) - 1) = 2 := by kernel_rfl
                have hw6 : wrap64 ((3 : Int) - 2) = 1 := by kernel_rfl
                subst hZA
                obtain ⟨at0, at1, -⟩ := Blk.two (HS9.out).tm.blk
                have ak3 := (HS9.out).bk.blk.cell 3
                have ak4 := (HS9.out).bk.blk.cell 4
                have ak5 := (HS9.out).bk.blk.cell 5
                have ak6 := (HS9.out).bk.blk.cell 6
                have ak7 := (HS9.out).bk.blk.cell 7
                have ak8 := (HS9.out).bk.blk.cell 8
                have af3 := (HS9.out).bk.blk.frozen 3
                have af4 := (HS9.out).bk.blk.frozen 4
                have af5 := (HS9.out).bk.blk.frozen 5
                have af6 := (HS9.out).bk.blk.frozen 6
                have af7 := (HS9.out).bk.blk.frozen 7
                have af8 := (HS9.out).bk.blk.frozen 8
                have an1 := (HS9.out).bn.blk.cell 1
                have an2 := (HS9.out).bn.blk.cell 2
                have az1 := (HS9.out).bn.blk.frozen 1
                have az2 := (HS9.out).bn.blk.frozen 2
                simp only [List.getElem?_toArray, List.getElem?_cons_zero, List.getElem?_cons_succ] at ak3 ak4 ak5 ak6 ak7 ak8 an1 an2
                go_upto_region 39 with (fail)
                go_region
                all_goals
                  refine gen1 (T := fun W => AgS w W g tb b t0 t1 q' gr' gs' d' L' n' x1 x2 (n1 + av) n2 D' cnt') (by first | exact (HS9.out.clk1 _).call (Below.drew (Below.refl _ _)) | exact (HS9.out.call (Below.drew (Below.refl _ _))).clk1 _) (fun w10 hS10 => ?_)
                  clear at0 at1 ak3 ak4 ak5 ak6 ak7 ak8 af3 af4 af5 af6 af7 af8 an1 an2 az1 az2
                  obtain ⟨at0, at1, -⟩ := Blk.two (hS10).tm.blk
                  have ak3 := (hS10).bk.blk.cell 3
                  have ak4 := (hS10).bk.blk.cell 4
                  have ak5 := (hS10).bk.blk.cell 5
                  have ak6 := (hS10).bk.blk.cell 6
                  have ak7 := (hS10).bk.blk.cell 7
                  have ak8 := (hS10).bk.blk.cell 8
                  have af3 := (hS10).bk.blk.frozen 3
                  have af4 := (hS10).bk.blk.frozen 4
                  have af5 := (hS10).bk.blk.frozen 5
                  have af6 := (hS10).bk.blk.frozen 6
                  have af7 := (hS10).bk.blk.frozen 7
                  have af8 := (hS10).bk.blk.frozen 8
                  have an1 := (hS10).bn.blk.cell 1
                  have an2 := (hS10).bn.blk.cell 2
                  have az1 := (hS10).bn.blk.frozen 1
                  have az2 := (hS10).bn.blk.frozen 2
                  simp only [List.getElem?_toArray, List.getElem?_cons_zero, List.getElem?_cons_succ] at ak3 ak4 ak5 ak6 ak7 ak8 an1 an2
                  have HS10 := Lib.hid hS10
                  clear hS10 HS9
                  go_upto_region 40 with (fail)
                  go_region
                  all_goals (try go_wp2_with fail)
                  all_goals
                    go_meet
                    exact ⟨_, _, (by first | exact (HS10.out.clk2 _).call (Below.drew (Below.refl _ _)) | exact (HS10.out.call (Below.drew (Below.refl _ _))).clk2 _), Lib.hid ⟨by omega, by omega, by omega⟩, by omega, by omega⟩
              · have hZI : (zs.length : Int) ≤ (i : Int) := by omega
                go_wp2_with fail
                go_meet
                exact ⟨n1, n2, HS9.out, Lib.hid HC.out.more, Int.le_refl _, Int.le_refl _⟩
          case rest =>
            obtain ⟨m1, m2, hS10, HC10, hm1, hm2⟩ := hcut
            have HD10 := Lib.hid (HD9.out.mono (Q := PI x1 x2 m1 m2 D') (Nat.le_refl _) fun l hl => ⟨hl.1.time hm1 hm2, hl.2⟩)
            have HB10 := Lib.hid (HB9.out.time hm1 hm2)
            obtain ⟨at0, at1, -⟩ := Blk.two (hS10).tm.blk
            have ak3 := (hS10).bk.blk.cell 3
            have ak4 := (hS10).bk.blk.cell 4
            have ak5 := (hS10).bk.blk.cell 5
            have ak6 := (hS10).bk.blk.cell 6
            have ak7 := (hS10).bk.blk.cell 7
            have ak8 := (hS10).bk.blk.cell 8
            have af3 := (hS10).bk.blk.frozen 3
            have af4 := (hS10).bk.blk.frozen 4
            have af5 := (hS10).bk.blk.frozen 5
            have af6 := (hS10).bk.blk.frozen 6
            have af7 := (hS10).bk.blk.frozen 7
            have af8 := (hS10).bk.blk.frozen 8
            have an1 := (hS10).bn.blk.cell 1
            have an2 := (hS10).bn.blk.cell 2
            have az1 := (hS10).bn.blk.frozen 1
            have az2 := (hS10).bn.blk.frozen 2
            simp only [List.getElem?_toArray, List.getElem?_cons_zero, List.getElem?_cons_succ] at ak3 ak4 ak5 ak6 ak7 ak8 an1 an2
            have HS10 := Lib.hid hS10
            have HH1 := Lib.hid (fun W => Holds_any x1.1 x1.2.1 x1.2.2 1 m1 W)
            have HH2 := Lib.hid (fun W => Holds_any x2.1 x2.2.1 x2.2.2 2 m2 W)
            have hbf : (holdsb x1.1 x1.2.1 x1.2.2 1 m1 && holdsb x2.1 x2.2.1 x2.2.2 2 m2) = false := HB10.out
            generalize holdsb x1.1 x1.2.1 x1.2.2 1 m1 = hb1 at *
            generalize holdsb x2.1 x2.2.1 x2.2.2 2 m2 = hb2 at *
            clear hS10 HS9 HD9 HB9 HC hm1 hm2
            go_wp2_with fail
            refine (HH1.out _).mono ?_
            rintro e w11 ⟨rfl, hb11⟩
            have hS11 := HS10.out.call hb11
            clear at0 at1 ak3 ak4 ak5 ak6 ak7 ak8 af3 af4 af5 af6 af7 af8 an1 an2 az1 az2
            obtain ⟨at0, at1, -⟩ := Blk.two (hS11).tm.blk
            have ak3 := (hS11).bk.blk.cell 3
            have ak4 := (hS11).bk.blk.cell 4
            have ak5 := (hS11).bk.blk.cell 5
            have ak6 := (hS11).bk.blk.cell 6
            have ak7 := (hS11).bk.blk.cell 7
            have ak8 := (hS11).bk.blk.cell 8
            have af3 := (hS11).bk.blk.frozen 3
            have af4 := (hS11).bk.blk.frozen 4
            have af5 := (hS11).bk.blk.frozen 5
            have af6 := (hS11).bk.blk.frozen 6
            have af7 := (hS11).bk.blk.frozen 7
            have af8 := (hS11).bk.blk.frozen 8
            have an1 := (hS11).bn.blk.cell 1
            have an2 := (hS11).bn.blk.cell 2
            have az1 := (hS11).bn.blk.frozen 1
            have az2 := (hS11).bn.blk.frozen 2
            simp only [List.getElem?_toArray, List.getElem?_cons_zero, List.getElem?_cons_succ] at ak3 ak4 ak5 ak6 ak7 ak8 an1 an2
            have HS11 := Lib.hid hS11
            clear hb11 HS10 hS11 HH1
            cases hb1 with
            | false =>
              clear hbf HH2
              go_wp2_with fail
              clear at0 at1 ak3 ak4 ak5 ak6 ak7 ak8 af3 af4 af5 af6 af7 af8 an1 an2 az1 az2
              go_roundw
              case rel => exact ⟨i + 1, gr', hlt, by go_num, rfl, q', gs', d', L', n', x1, x2, m1, m2, D', cnt', by omega, HS11.out, HD10, HC10, HB10⟩
              case measure => simp [intOf]; omega
            | true =>
              cases hb2 with
              | true => cases hbf
              | false =>
                clear hbf
                go_wp2_with fail
                refine (HH2.out _).mono ?_
                rintro e w12 ⟨rfl, hb12⟩
                have HS12 := Lib.hid (HS11.out.call hb12)
                clear at0 at1 ak3 ak4 ak5 ak6 ak7 ak8 af3 af4 af5 af6 af7 af8 an1 an2 az1 az2
                clear hb12 HS11 HH2
                go_wp2_with fail
                go_roundw
                case rel => exact ⟨i + 1, gr', hlt, by go_num, rfl, q', gs', d', L', n', x1, x2, m1, m2, D', cnt', by omega, HS12.out, HD10, HC10, HB10⟩
                case measure => simp [intOf]; omega
      · obtain ⟨at0, at1, -⟩ := Blk.two (HS.out).tm.blk
        have ak3 := (HS.out).bk.blk.cell 3
        have ak4 := (HS.out).bk.blk.cell 4
        have ak5 := (HS.out).bk.blk.cell 5
        have ak6 := (HS.out).bk.blk.cell 6
        have ak7 := (HS.out).bk.blk.cell 7
        have ak8 := (HS.out).bk.blk.cell 8
        have af3 := (HS.out).bk.blk.frozen 3
        have af4 := (HS.out).bk.blk.frozen 4
        have af5 := (HS.out).bk.blk.frozen 5
        have af6 := (HS.out).bk.blk.frozen 6
        have af7 := (HS.out).bk.blk.frozen 7
        have af8 := (HS.out).bk.blk.frozen 8
        have an1 := (HS.out).bn.blk.cell 1
        have an2 := (HS.out).bn.blk.cell 2
        have az1 := (HS.out).bn.blk.frozen 1
        have az2 := (HS.out).bn.blk.frozen 2
        simp only [List.getElem?_toArray, List.getElem?_cons_zero, List.getElem?_cons_succ] at ak3 ak4 ak5 ak6 ak7 ak8 an1 an2
        have HAc2 := Lib.hid HAc.out.blk
        obtain ⟨y0, y1, y2, y3, y4, y5, y6, y7, y8, y9⟩ := HAc2.out.tenD
        go_upto_block 2 with (fail)
        have hkd := kindR x.k
        generalize hkk : (IntKind.u64.wrap x.k).tmod 8 = kk at hkd ⊢
        clear at0 at1 ak3 ak4 ak5 ak6 ak7 ak8 af3 af4 af5 af6 af7 af8 an1 an2 az1 az2
        clear y0 y1 y2 y3 y4 y5 y6 y7 y8 y9
        go_cut [9] (fun y wz => ∃ (gr' : Nat) (q' : Fp) (gs' : Nat) (d' : Dk Sv) (L' : L3r) (n' : Int) (x1 x2 : L3r) (D' : DataW Unit) (cnt' : Nat), y = .pointer (some ⟨gr', 0, none⟩) ∧ cnt' ≤ cnt + 1 ∧ AgS w wz g tb b t0 t1 q' gr' gs' d' L' n' x1 x2 n1 n2 D' cnt' ∧ Hid (DSt (PI x1 x2 n1 n2 D') d' L' (i + 1)) ∧ Hid (BF x1 x2 n1 n2))
        case first =>
          clear hkk
          rcases (show (0 ≤ kk ∧ kk ≤ 2) ∨ kk = 3 ∨ kk = 4 ∨ kk = 5 ∨ kk = 6 ∨ kk = 7 by omega) with ⟨hq0, hq1⟩ | rfl | rfl | rfl | rfl | rfl
          · have e3 : (kk == 3) = false := by rw [beq_eq_false_iff_ne]; omega
            have e4 : (kk == 4) = false := by rw [beq_eq_false_iff_ne]; omega
            have e5 : (kk == 5) = false := by rw [beq_eq_false_iff_ne]; omega
            have e6 : (kk == 6) = false := by rw [beq_eq_false_iff_ne]; omega
            have e7 : (kk == 7) = false := by rw [beq_eq_false_iff_ne]; omega
            clear hkd
            as_aux_lemma =>
              have HA := Lib.hid (RAcquire_any HS.out.m HS.out.fk (by omega) 2 n2)
              obtain ⟨at0, at1, -⟩ := Blk.two (HS.out).tm.blk
              have ak3 := (HS.out).bk.blk.cell 3
              have ak4 := (HS.out).bk.blk.cell 4
              have ak5 := (HS.out).bk.blk.cell 5
              have ak6 := (HS.out).bk.blk.cell 6
              have ak7 := (HS.out).bk.blk.cell 7
              have ak8 := (HS.out).bk.blk.cell 8
              have af3 := (HS.out).bk.blk.frozen 3
              have af4 := (HS.out).bk.blk.frozen 4
              have af5 := (HS.out).bk.blk.frozen 5
              have af6 := (HS.out).bk.blk.frozen 6
              have af7 := (HS.out).bk.blk.frozen 7
              have af8 := (HS.out).bk.blk.frozen 8
              have an1 := (HS.out).bn.blk.cell 1
              have an2 := (HS.out).bn.blk.cell 2
              have az1 := (HS.out).bn.blk.frozen 1
              have az2 := (HS.out).bn.blk.frozen 2
              simp only [List.getElem?_toArray, List.getElem?_cons_zero, List.getElem?_cons_succ] at ak3 ak4 ak5 ak6 ak7 ak8 an1 an2
              go_wp2_with fail
              refine HA.out.mono ?_
              clear HA
              clear at0 at1 ak3 ak4 ak5 ak6 ak7 ak8 af3 af4 af5 af6 af7 af8 an1 an2 az1 az2
              rintro e w6 ⟨ret, k, d6, L6, n6, hG, rfl, q6, hg6, hR6, hF6, hM6⟩
              have hcase := HD.out.acq HS.out.m.st.dsk.ris hG (fun hP h0 => ⟨hP.1.half2 HC.out.near.2 h0, hP.2.turn (turn_grantL h0)⟩)
              have HS6 := Lib.hid (HS.out.rg (hG.fok HS.out.fk) hg6 hR6 hF6 hM6)
              have hb7 := below_new w6 (.cells #[.int .i64 ret.1, .int .i64 ret.2.1, .int .i64 ret.2.2] 56)
              have hB7 := Blk.new w6 56 #[.int .i64 ret.1, .int .i64 ret.2.1, .int .i64 ret.2.2]
              clear hG hg6 hR6 hF6 hM6 HS
              rcases hcase with ⟨hk, hD6⟩ | ⟨rfl, hPL, hg0, hret, hL6, hUp⟩
              · obtain ⟨ev, hev⟩ := errv_ifc hk
                rw [hev]
                have HS7 := Lib.hid (HS6.out.call hb7)
                have HD6 := Lib.hid hD6
                clear hev hk hD6 hb7 hB7 HS6
                go_wp2_with fail
                go_meet
                exact ⟨gr, q6, gs, d6, L6, n6, k1, k2, D, cnt, rfl, Nat.le_succ cnt, HS7.out, HD6, HB⟩
              · rw [show errv 0 = Value.nilIface from rfl]
                have hCI := hPL.1.grant2 HC.out.near.2 hg0
                have hEI := hPL.2.turn (turn_grantL hg0)
                have hx1 := (grantL_ok hg0).1
                rw [← hL6] at hret
                rw [← hL6] at hCI hEI hx1
                subst hret
                clear hL6 hg0 hPL
                obtain ⟨xo, xe, xu⟩ := ret
                dsimp only at hx1 hCI hEI hb7 hB7
                subst hx1
                obtain ⟨hck1, hck2, hck3, -⟩ := chk_ok hCI.ok
                dsimp only at hck1 hck2 hck3
                have HBF := Lib.hid (show BF k1 (2, xe, xu) n1 n2 from hCI.both)
                have HUp := Lib.hid hUp
                have HCI := Lib.hid hCI
                have HEI := Lib.hid hEI
                clear hCI hEI hUp
                go_upto_region 19 with (fail)
                refine gen1 (T := fun W => AgS w W g tb b t0 t1 q6 gr gs d6 (2, xe, xu) n6 k1 k2 n1 n2 D cnt ∧ Blk W w6.heap.size 56 #[.int .i64 2, .int .i64 xe, .int .i64 xu]) ⟨HS6.out.call hb7, hB7⟩ (fun w7 hT => ?_)
                clear HS6 hb7 hB7
                obtain ⟨hS7, hB7⟩ := hT
                have hne : w6.heap.size ≠ b := fun e => by
                  have h1 := hB7
                  rw [e] at h1
                  have h2 := h1.symm.trans hS7.bk.blk
                  injection h2 with h2
                  injection h2 with h2 h3
                  exact absurd h3 (by decide)
                generalize w6.heap.size = g17 at *
                obtain ⟨at0, at1, -⟩ := Blk.two (hS7).tm.blk
                have ak3 := (hS7).bk.blk.cell 3
                have ak4 := (hS7).bk.blk.cell 4
                have ak5 := (hS7).bk.blk.cell 5
                have ak6 := (hS7).bk.blk.cell 6
                have ak7 := (hS7).bk.blk.cell 7
                have ak8 := (hS7).bk.blk.cell 8
                have af3 := (hS7).bk.blk.frozen 3
                have af4 := (hS7).bk.blk.frozen 4
                have af5 := (hS7).bk.blk.frozen 5
                have af6 := (hS7).bk.blk.frozen 6
                have af7 := (hS7).bk.blk.frozen 7
                have af8 := (hS7).bk.blk.frozen 8
                have an1 := (hS7).bn.blk.cell 1
                have an2 := (hS7).bn.blk.cell 2
                have az1 := (hS7).bn.blk.frozen 1
                have az2 := (hS7).bn.blk.frozen 2
                simp only [List.getElem?_toArray, List.getElem?_cons_zero, List.getElem?_cons_succ] at ak3 ak4 ak5 ak6 ak7 ak8 an1 an2
                obtain ⟨v0, v1, v2, -, -, -⟩ := hB7.three
                have HS8 := Lib.hid (hS7.known2 (2, xe, xu))
                have HB8 := Lib.hid (((hB7.far (p := ⟨b, 6, none⟩) hne (iv 2)).far (p := ⟨b, 7, none⟩) hne (iv xe)).far (p := ⟨b, 8, none⟩) hne (iv xu))
                clear hS7 hB7
                go_upto_region 20 with (fail)
                refine gen1 (T := fun W => AgS w W g tb b t0 t1 q6 gr gs d6 (2, xe, xu) n6 k1 (2, xe, xu) n1 n2 D cnt ∧ Blk W g17 56 #[.int .i64 2, .int .i64 xe, .int .i64 xu]) ⟨HS8.out, HB8.out⟩ (fun w8 hT => ?_)
                clear at0 at1 ak3 ak4 ak5 ak6 ak7 ak8 af3 af4 af5 af6 af7 af8 an1 an2 az1 az2
                clear HS8 HB8 v0 v1 v2
                obtain ⟨hS8, hB8⟩ := hT
                obtain ⟨v0, v1, v2, -, -, -⟩ := hB8.three
                have hown := hS8.mp
                have hMp := hown.isMap
                have hkey : keyOf Tryz.prog 3 (.int .i64 xe) = some (.int .i64 xe) := Maps.keyOf_int_mk Tryz.underlying3 (wf_i64 (by omega) (by omega))
                have hwv : (Lit.int .i64 2).wf = true := by kernel_rfl
                have HEnd := Lib.hid (DSt.up (P := PI k1 (2, xe, xu) n1 n2 (D.put (.int .i64 xe) (i64 2))) HUp.out ⟨HCI.out, HEI.out.put hMp trivial⟩)
                have hown2 : Maps.has D (.int .i64 xe) = true → ∀ c : Int, D.atKey (.int .i64 xe) (.lit (.int .i64 0)) = .lit (.int .i64 c) → c = 2 := fun hh c hat => by
                  have h1 := HEI.out.own (by show (2 : Int) ≠ 0; omega) hh
                  have h2 : (.lit (.int .i64 c) : DataW Unit) = .lit (.int .i64 2) := hat.symm.trans h1
                  injection h2 with h2
                  injection h2
                have HO := Lib.hid hown2
                have HS8 := Lib.hid hS8
                clear hown2 hS8 hB8 hMp HUp HCI HEI
                cases hh : Maps.has D (.int .i64 xe)
                · go_wp2_with (first
                    | (at_lookup; go_loud (refine wpList_lookup_own_ok_int _ rfl _ _ 59 rfl 3 3 .i64 lawI Tryz.underlying59 Tryz.underlying3 (zeroI _) (b + 1 + 1) cnt D rfl hown _ _ rfl hkey ?_; intro cc hat hwc))
                    | (at_mapUpdate; refine wpList_mapUpdate_own _ rfl _ _ _ 59 rfl 3 3 lawI Tryz.underlying59 _ (b + 1 + 1) cnt _ rfl hown (by unfold maxLen; omega) _ _ _ rfl rfl hkey _ [] (plainElem_int Tryz.underlying3 hwv) ?_; intro w9 hown9 hg9))
                  go_meet
                  exact ⟨gr, q6, gs, d6, _, n6, _, _, _, cnt + 1, rfl, Nat.le_refl _, HS8.out.put hown9 hg9, HEnd, HBF⟩
                · go_wp2_with (first
                    | (at_lookup; go_loud (refine wpList_lookup_own_ok_int _ rfl _ _ 59 rfl 3 3 .i64 lawI Tryz.underlying59 Tryz.underlying3 (zeroI _) (b + 1 + 1) cnt D rfl hown _ _ rfl hkey ?_; intro cc hat hwc; obtain rfl := HO.out hh cc hat))
                    | (at_mapUpdate; refine wpList_mapUpdate_own _ rfl _ _ _ 59 rfl 3 3 lawI Tryz.underlying59 _ (b + 1 + 1) cnt _ rfl hown (by unfold maxLen; omega) _ _ _ rfl rfl hkey _ [] (plainElem_int Tryz.underlying3 hwv) ?_; intro w9 hown9 hg9))
                  go_meet
                  exact ⟨gr, q6, gs, d6, _, n6, _, _, _, cnt + 1, rfl, Nat.le_refl _, HS8.out.put hown9 hg9, HEnd, HBF⟩
          · as_aux_lemma =>
              have HA := Lib.hid (RGive_any HS.out.m HS.out.fk (by have := hln; omega) 2)
              obtain ⟨at0, at1, -⟩ := Blk.two (HS.out).tm.blk
              have ak3 := (HS.out).bk.blk.cell 3
              have ak4 := (HS.out).bk.blk.cell 4
              have ak5 := (HS.out).bk.blk.cell 5
              have ak6 := (HS.out).bk.blk.cell 6
              have ak7 := (HS.out).bk.blk.cell 7
              have ak8 := (HS.out).bk.blk.cell 8
              have af3 := (HS.out).bk.blk.frozen 3
              have af4 := (HS.out).bk.blk.frozen 4
              have af5 := (HS.out).bk.blk.frozen 5
              have af6 := (HS.out).bk.blk.frozen 6
              have af7 := (HS.out).bk.blk.frozen 7
              have af8 := (HS.out).bk.blk.frozen 8
              have an1 := (HS.out).bn.blk.cell 1
              have an2 := (HS.out).bn.blk.cell 2
              have az1 := (HS.out).bn.blk.frozen 1
              have az2 := (HS.out).bn.blk.frozen 2
              simp only [List.getElem?_toArray, List.getElem?_cons_zero, List.getElem?_cons_succ] at ak3 ak4 ak5 ak6 ak7 ak8 an1 an2
              go_wp2_with fail
              refine HA.out.mono ?_
              clear HA
              clear at0 at1 ak3 ak4 ak5 ak6 ak7 ak8 af3 af4 af5 af6 af7 af8 an1 an2 az1 az2
              rintro e w6 ⟨k, d6, L6, hG, rfl, q6, hg6, hR6, hF6, hM6⟩
              have hDS6 := Lib.hid (HD.out.give HS.out.m.st.dsk.ris hG (Q := PI k1 (0, 0, 0) n1 n2 D) (fun l hl => ⟨hl.1.off2, hl.2⟩) (fun hl h0 => ⟨hl.1.give2 h0, hl.2.turn (turn_giveL h0)⟩))
              have hS6 := HS.out.rg (hG.fok HS.out.fk) hg6 hR6 hF6 hM6
              obtain ⟨at0, at1, -⟩ := Blk.two (hS6).tm.blk
              have ak3 := (hS6).bk.blk.cell 3
              have ak4 := (hS6).bk.blk.cell 4
              have ak5 := (hS6).bk.blk.cell 5
              have ak6 := (hS6).bk.blk.cell 6
              have ak7 := (hS6).bk.blk.cell 7
              have ak8 := (hS6).bk.blk.cell 8
              have af3 := (hS6).bk.blk.frozen 3
              have af4 := (hS6).bk.blk.frozen 4
              have af5 := (hS6).bk.blk.frozen 5
              have af6 := (hS6).bk.blk.frozen 6
              have af7 := (hS6).bk.blk.frozen 7
              have af8 := (hS6).bk.blk.frozen 8
              have an1 := (hS6).bn.blk.cell 1
              have an2 := (hS6).bn.blk.cell 2
              have az1 := (hS6).bn.blk.frozen 1
              have az2 := (hS6).bn.blk.frozen 2
              simp only [List.getElem?_toArray, List.getElem?_cons_zero, List.getElem?_cons_succ] at ak3 ak4 ak5 ak6 ak7 ak8 an1 an2
              have HS6 := Lib.hid hS6
              clear hG hg6 hR6 hF6 hM6 HS HD hS6
              go_wp2_with fail
              clear at0 at1 ak3 ak4 ak5 ak6 ak7 ak8 af3 af4 af5 af6 af7 af8 an1 an2 az1 az2
              go_meet
              exact ⟨gr, q6, gs, d6, L6, n, k1, (0, 0, 0), D, cnt, rfl, Nat.le_succ cnt, HS6.out.known2 (0, 0, 0), hDS6, Lib.hid BF.off2⟩
          · as_aux_lemma =>
              obtain ⟨f, hf0, hf1, hfa⟩ := u64_rem x.d.f 6 (by decide)
              have hfw : wrap64 f = f := by simp only [wrap64]; omega
              have hgg := HS.out.g
              have hA := Fuse_any HS.out.m.st.dsk f
              rw [show dFuse d f = ({ d with fuse := f }, 0) from if_neg (by omega), hgg] at hA
              have hqm : q.M g := hgg ▸ Or.inl rfl
              have HQ := Lib.hid hqm
              have HA := Lib.hid hA
              obtain ⟨y0, y1, y2, y3, y4, y5, y6, y7, y8, y9⟩ := HAc2.out.tenD
              clear hA hgg hqm
              go_wp2_with fail
              refine HA.out.mono ?_
              clear HA y0 y1 y2 y3 y4 y5 y6 y7 y8 y9
              rintro e w6 ⟨rfl, hD6, hw6⟩
              rw [show errv (({ d with fuse := f } : Dk Sv), 0).2 = Value.nilIface from rfl]
              have HS6 := Lib.hid (HS.out.act (q' := q) (d' := { d with fuse := f }) ⟨by show -1 ≤ f; omega, by show f ≤ 9223372036854775807; omega⟩ rfl hD6 (Frd.of_wr HQ.out hw6) (fun j hj => .inl hj))
              clear hD6 hw6 HS hfa hfw
              go_wp2_with fail
              go_meet
              exact ⟨gr, q, gs, _, L, n, k1, k2, D, cnt, rfl, Nat.le_succ cnt, HS6.out, Lib.hid ((HD.out.fuse f).mono (Nat.le_succ i) fun _ h => h), HB⟩
          · as_aux_lemma =>
              obtain ⟨f, hf0, hf1, hfa⟩ := u64_rem x.d.f 6 (by decide)
              have hfw : wrap64 f = f := by simp only [wrap64]; omega
              have hgg := HS.out.g
              have hA := Fuse_any HS.out.m.st.dsk f
              rw [show dFuse d f = ({ d with fuse := f }, 0) from if_neg (by omega), hgg] at hA
              have hqm : q.M g := hgg ▸ Or.inl rfl
              have HQ := Lib.hid hqm
              have HA := Lib.hid hA
              obtain ⟨y0, y1, y2, y3, y4, y5, y6, y7, y8, y9⟩ := HAc2.out.tenD
              clear hA hgg hqm
              go_wp2_with fail
              refine HA.out.mono ?_
              clear HA y0 y1 y2 y3 y4 y5 y6 y7 y8 y9
              rintro e w6 ⟨rfl, hD6, hw6⟩
              rw [show errv (({ d with fuse := f } : Dk Sv), 0).2 = Value.nilIface from rfl]
              have HS6 := Lib.hid (HS.out.act (q' := q) (d' := { d with fuse := f }) ⟨by show -1 ≤ f; omega, by show f ≤ 9223372036854775807; omega⟩ rfl hD6 (Frd.of_wr HQ.out hw6) (fun j hj => .inl hj))
              clear hD6 hw6 HS hfa hfw
              go_wp2_with fail
              go_meet
              exact ⟨gr, q, gs, _, L, n, k1, k2, D, cnt, rfl, Nat.le_succ cnt, HS6.out, Lib.hid ((HD.out.fuse f).mono (Nat.le_succ i) fun _ h => h), HB⟩
          · as_aux_lemma =>
              have hkp := Sl.below HKs.out HS.out.fro.1
              have hC := Cut_any HS.out.m.st.dsk (by omega) (by omega) x.ks hkp (fun hne ad hA e => by
                have h1 := SlZ.ltB HKs.out hne hA
                have h2 := HS.out.fro.2 q.bs (.inr (.inl rfl))
                omega)
              rw [HS.out.g] at hC
              have HC1 := Lib.hid hC
              obtain ⟨y0, y1, y2, y3, y4, y5, y6, y7, y8, y9⟩ := HAc2.out.tenD
              clear hC hkp
              go_wp2_with fail
              refine HC1.out.mono ?_
              clear HC1 y0 y1 y2 y3 y4 y5 y6 y7 y8 y9
              rintro e w6 ⟨rfl, q6, hg6, hD6, hF6, hM6, -⟩
              have hS6 := HS.out.act (d' := dCut x.ks d) ⟨HS.out.fk.1, HS.out.fk.2⟩ hg6 hD6 hF6 hM6
              have hcl := cut_len x.ks d
              have hSt := StartDown_any hD6 (Nat.zero_le _) (by omega) rfl
              rw [hS6.g] at hSt
              have HSt := Lib.hid hSt
              have HS6 := Lib.hid hS6
              have HAn := Lib.hid (HD.out.anew HS.out.m.st.dsk.ris Hnb.out x.ks)
              clear hSt hg6 hD6 hF6 hM6 HS hS6
              go_wp2_with fail
              refine HSt.out.mono ?_
              clear HSt
              rintro e w7 ⟨rfl, q7, hg7, hD7, hF7, hM7, -⟩
              have hS7 := HS6.out.act (start_fok _) hg7 hD7 hF7 hM7
              have hcl2 := start_len (dCut x.ks d)
              have hOp := RgOpen_any hS7.m.st.dsk hS7.fk (by omega) t0 t1
              rw [hS7.g] at hOp
              have HOp := Lib.hid hOp
              obtain ⟨at0, at1, -⟩ := Blk.two (hS7).tm.blk
              have ak3 := (hS7).bk.blk.cell 3
              have ak4 := (hS7).bk.blk.cell 4
              have ak5 := (hS7).bk.blk.cell 5
              have ak6 := (hS7).bk.blk.cell 6
              have ak7 := (hS7).bk.blk.cell 7
              have ak8 := (hS7).bk.blk.cell 8
              have af3 := (hS7).bk.blk.frozen 3
              have af4 := (hS7).bk.blk.frozen 4
              have af5 := (hS7).bk.blk.frozen 5
              have af6 := (hS7).bk.blk.frozen 6
              have af7 := (hS7).bk.blk.frozen 7
              have af8 := (hS7).bk.blk.frozen 8
              have an1 := (hS7).bn.blk.cell 1
              have an2 := (hS7).bn.blk.cell 2
              have az1 := (hS7).bn.blk.frozen 1
              have az2 := (hS7).bn.blk.frozen 2
              simp only [List.getElem?_toArray, List.getElem?_cons_zero, List.getElem?_cons_succ] at ak3 ak4 ak5 ak6 ak7 ak8 an1 an2
              have HS7 := Lib.hid hS7
              clear hOp hg7 hD7 hF7 hM7 HS6 hS7 hcl hcl2
              generalize dStart (dCut x.ks d) = d7 at *
              go_wp2_with fail
              refine HOp.out.mono ?_
              clear HOp
              clear at0 at1 ak3 ak4 ak5 ak6 ak7 ak8 af3 af4 af5 af6 af7 af8 an1 an2 az1 az2
              rintro e w8 hOO
              obtain ⟨d2, h21, hfre2, h22⟩ := HAn.out
              have hrs : Ris d2.sure := by
                obtain ⟨q', -, hD', -⟩ := hOO
                rw [h21] at hD'
                exact hD'.ris
              obtain ⟨l, hre, hPl, hUp⟩ := h22 hrs
              rw [hre] at hOO
              obtain ⟨q8, hg8, hD8, hF8, hM8, h08⟩ := hOO
              rcases h08 with ⟨-, gr8, gs8, rfl, hR8, hgr8, hgs8⟩ | ⟨h0, -⟩
              rotate_left
              · exact absurd rfl h0
              have hmlt := HS7.out.mp.lt
              have hS8 := (HS7.out.act (d' := d2) ⟨by rw [hfre2.1]; decide, by rw [hfre2.1]; decide⟩ hg8 hD8 hF8 hM8).reg hR8 (by omega) (by omega)
              have HS8 := Lib.hid hS8
              have HD8 := Lib.hid (DSt.up (P := PI k1 k2 n1 n2 D) (hUp.more (Nat.le_succ i)) hPl)
              clear h21 hfre2 h22 hrs hre hPl hUp hg8 hD8 hF8 hM8 hR8 hgr8 hgs8 hS8 HS7 HAn hmlt
              go_wp2_with fail
              go_meet
              exact ⟨gr8, q8, gs8, d2, l, 0, k1, k2, D, cnt, rfl, Nat.le_succ cnt, HS8.out, HD8, HB⟩
          · as_aux_lemma =>
              have hkp := Sl.below HKs.out HS.out.fro.1
              have hC := Cut_any HS.out.m.st.dsk (by omega) (by omega) x.ks hkp (fun hne ad hA e => by
                have h1 := SlZ.ltB HKs.out hne hA
                have h2 := HS.out.fro.2 q.bs (.inr (.inl rfl))
                omega)
              rw [HS.out.g] at hC
              have HC1 := Lib.hid hC
              obtain ⟨y0, y1, y2, y3, y4, y5, y6, y7, y8, y9⟩ := HAc2.out.tenD
              clear hC hkp
              go_wp2_with fail
              refine HC1.out.mono ?_
              clear HC1 y0 y1 y2 y3 y4 y5 y6 y7 y8 y9
              rintro e w6 ⟨rfl, q6, hg6, hD6, hF6, hM6, -⟩
              have hS6 := HS.out.act (d' := dCut x.ks d) ⟨HS.out.fk.1, HS.out.fk.2⟩ hg6 hD6 hF6 hM6
              have hcl := cut_len x.ks d
              have hSt := StartDown_any hD6 (Nat.zero_le _) (by omega) rfl
              rw [hS6.g] at hSt
              have HSt := Lib.hid hSt
              have HS6 := Lib.hid hS6
              have HAn := Lib.hid (HD.out.anew HS.out.m.st.dsk.ris Hnb.out x.ks)
              clear hSt hg6 hD6 hF6 hM6 HS hS6
              go_wp2_with fail
              refine HSt.out.mono ?_
              clear HSt
              rintro e w7 ⟨rfl, q7, hg7, hD7, hF7, hM7, -⟩
              have hS7 := HS6.out.act (start_fok _) hg7 hD7 hF7 hM7
              have hcl2 := start_len (dCut x.ks d)
              have hOp := RgOpen_any hS7.m.st.dsk hS7.fk (by omega) t0 t1
              rw [hS7.g] at hOp
              have HOp := Lib.hid hOp
              obtain ⟨at0, at1, -⟩ := Blk.two (hS7).tm.blk
              have ak3 := (hS7).bk.blk.cell 3
              have ak4 := (hS7).bk.blk.cell 4
              have ak5 := (hS7).bk.blk.cell 5
              have ak6 := (hS7).bk.blk.cell 6
              have ak7 := (hS7).bk.blk.cell 7
              have ak8 := (hS7).bk.blk.cell 8
              have af3 := (hS7).bk.blk.frozen 3
              have af4 := (hS7).bk.blk.frozen 4
              have af5 := (hS7).bk.blk.frozen 5
              have af6 := (hS7).bk.blk.frozen 6
              have af7 := (hS7).bk.blk.frozen 7
              have af8 := (hS7).bk.blk.frozen 8
              have an1 := (hS7).bn.blk.cell 1
              have an2 := (hS7).bn.blk.cell 2
              have az1 := (hS7).bn.blk.frozen 1
              have az2 := (hS7).bn.blk.frozen 2
              simp only [List.getElem?_toArray, List.getElem?_cons_zero, List.getElem?_cons_succ] at ak3 ak4 ak5 ak6 ak7 ak8 an1 an2
              have HS7 := Lib.hid hS7
              clear hOp hg7 hD7 hF7 hM7 HS6 hS7 hcl hcl2
              generalize dStart (dCut x.ks d) = d7 at *
              go_wp2_with fail
              refine HOp.out.mono ?_
              clear HOp
              clear at0 at1 ak3 ak4 ak5 ak6 ak7 ak8 af3 af4 af5 af6 af7 af8 an1 an2 az1 az2
              rintro e w8 hOO
              obtain ⟨d2, h21, hfre2, h22⟩ := HAn.out
              have hrs : Ris d2.sure := by
                obtain ⟨q', -, hD', -⟩ := hOO
                rw [h21] at hD'
                exact hD'.ris
              obtain ⟨l, hre, hPl, hUp⟩ := h22 hrs
              rw [hre] at hOO
              obtain ⟨q8, hg8, hD8, hF8, hM8, h08⟩ := hOO
              rcases h08 with ⟨-, gr8, gs8, rfl, hR8, hgr8, hgs8⟩ | ⟨h0, -⟩
              rotate_left
              · exact absurd rfl h0
              have hmlt := HS7.out.mp.lt
              have hS8 := (HS7.out.act (d' := d2) ⟨by rw [hfre2.1]; decide, by rw [hfre2.1]; decide⟩ hg8 hD8 hF8 hM8).reg hR8 (by omega) (by omega)
              have HS8 := Lib.hid hS8
              have HD8 := Lib.hid (DSt.up (P := PI k1 k2 n1 n2 D) (hUp.more (Nat.le_succ i)) hPl)
              clear h21 hfre2 h22 hrs hre hPl hUp hg8 hD8 hF8 hM8 hR8 hgr8 hgs8 hS8 HS7 HAn hmlt
              go_wp2_with fail
              go_meet
              exact ⟨gr8, q8, gs8, d2, l, 0, k1, k2, D, cnt, rfl, Nat.le_succ cnt, HS8.out, HD8, HB⟩
        case rest =>
          obtain ⟨gr', q', gs', d', L', n', x1, x2, D', cnt', rfl, hcn', hS9, HD9, HB9⟩ := hcut
          have HS9 := Lib.hid hS9
          clear hS9 HS HAc HAc2 HD HB HKs hln hc0 hc1 hc2 hc3 hc4 hc5 hc6 hc7 hc8 hc9 hpa hpw
          clear q d L D k1 k2
          go_upto_if 169 with (fail)
          go_cut [] (fun wz => ∃ m1 m2 : Int, AgS w wz g tb b t0 t1 q' gr' gs' d' L' n' x1 x2 m1 m2 D' cnt' ∧ Hid (Clk t1 (i + 1) m1 m2) ∧ n1 ≤ m1 ∧ n2 ≤ m2)
          case first =>
            as_aux_lemma =>
              by_cases hzl : i < zs.length
              · have hZI : (i : Int) < (zs.length : Int) := by omega
                obtain ⟨zd, hZA, hzc⟩ := Sl.at1 (f := iv) (HZ.out.below HS9.out.fro.1) hzl
                obtain ⟨av, hv0, hv1, hva⟩ := u64_rem zs[i] 1073741824 (by decide)
                generalize zs[i] = zi at *
                have hC := HC.out
                obtain ⟨hp1, hp2, hne⟩ := hC
                have hwv : wrap64 av = av := by simp only [wrap64]; omega
                have hw1 : wrap64 (n1 + av) = n1 + av := by simp only [wrap64]; omega
                have hw2 : wrap64 (n2 + av) = n2 + av := by simp only [wrap64]; omega
                have hw3 : wrap64 (n1 + av - t1) = n1 + av - t1 := by simp only [wrap64]; omega
                have hw4 : wrap64 (n2 + av - t1) = n2 + av - t1 := by simp only [wrap64]; omega
                have hw5 : wrap64 ((3 : Int) - 1) = 2 := by kernel_rfl
                have hw6 : wrap64 ((3 : Int) - 2) = 1 := by kernel_rfl
                subst hZA
                obtain ⟨at0, at1, -⟩ := Blk.two (HS9.out).tm.blk
                have ak3 := (HS9.out).bk.blk.cell 3
                have ak4 := (HS9.out).bk.blk.cell 4
                have ak5 := (HS9.out).bk.blk.cell 5
                have ak6 := (HS9.out).bk.blk.cell 6
                have ak7 := (HS9.out).bk.blk.cell 7
                have ak8 := (HS9.out).bk.blk.cell 8
                have af3 := (HS9.out).bk.blk.frozen 3
                have af4 := (HS9.out).bk.blk.frozen 4
                have af5 := (HS9.out).bk.blk.frozen 5
                have af6 := (HS9.out).bk.blk.frozen 6
                have af7 := (HS9.out).bk.blk.frozen 7
                have af8 := (HS9.out).bk.blk.frozen 8
                have an1 := (HS9.out).bn.blk.cell 1
                have an2 := (HS9.out).bn.blk.cell 2
                have az1 := (HS9.out).bn.blk.frozen 1
                have az2 := (HS9.out).bn.blk.frozen 2
                simp only [List.getElem?_toArray, List.getElem?_cons_zero, List.getElem?_cons_succ] at ak3 ak4 ak5 ak6 ak7 ak8 an1 an2
                go_upto_region 39 with (fail)
                go_region
                all_goals
                  refine gen1 (T := fun W => AgS w W g tb b t0 t1 q' gr' gs' d' L' n' x1 x2 n1 (n2 + av) D' cnt') (by first | exact (HS9.out.clk2 _).call (Below.drew (Below.refl _ _)) | exact (HS9.out.call (Below.drew (Below.refl _ _))).clk2 _) (fun w10 hS10 => ?_)
                  clear at0 at1 ak3 ak4 ak5 ak6 ak7 ak8 af3 af4 af5 af6 af7 af8 an1 an2 az1 az2
                  obtain ⟨at0, at1, -⟩ := Blk.two (hS10).tm.blk
                  have ak3 := (hS10).bk.blk.cell 3
                  have ak4 := (hS10).bk.blk.cell 4
                  have ak5 := (hS10).bk.blk.cell 5
                  have ak6 := (hS10).bk.blk.cell 6
                  have ak7 := (hS10).bk.blk.cell 7
                  have ak8 := (hS10).bk.blk.cell 8
                  have af3 := (hS10).bk.blk.frozen 3
                  have af4 := (hS10).bk.blk.frozen 4
                  have af5 := (hS10).bk.blk.frozen 5
                  have af6 := (hS10).bk.blk.frozen 6
                  have af7 := (hS10).bk.blk.frozen 7
                  have af8 := (hS10).bk.blk.frozen 8
                  have an1 := (hS10).bn.blk.cell 1
                  have an2 := (hS10).bn.blk.cell 2
                  have az1 := (hS10).bn.blk.frozen 1
                  have az2 := (hS10).bn.blk.frozen 2
                  simp only [List.getElem?_toArray, List.getElem?_cons_zero, List.getElem?_cons_succ] at ak3 ak4 ak5 ak6 ak7 ak8 an1 an2
                  have HS10 := Lib.hid hS10
                  clear hS10 HS9
                  go_upto_region 40 with (fail)
                  go_region
                  all_goals (try go_wp2_with fail)
                  all_goals
                    go_meet
                    exact ⟨_, _, (by first | exact (HS10.out.clk1 _).call (Below.drew (Below.refl _ _)) | exact (HS10.out.call (Below.drew (Below.refl _ _))).clk1 _), Lib.hid ⟨by omega, by omega, by omega⟩, by omega, by omega⟩
              · have hZI : (zs.length : Int) ≤ (i : Int) := by omega
                go_wp2_with fail
                go_meet
                exact ⟨n1, n2, HS9.out, Lib.hid HC.out.more, Int.le_refl _, Int.le_refl _⟩
          case rest =>
            obtain ⟨m1, m2, hS10, HC10, hm1, hm2⟩ := hcut
            have HD10 := Lib.hid (HD9.out.mono (Q := PI x1 x2 m1 m2 D') (Nat.le_refl _) fun l hl => ⟨hl.1.time hm1 hm2, hl.2⟩)
            have HB10 := Lib.hid (HB9.out.time hm1 hm2)
            obtain ⟨at0, at1, -⟩ := Blk.two (hS10).tm.blk
            have ak3 := (hS10).bk.blk.cell 3
            have ak4 := (hS10).bk.blk.cell 4
            have ak5 := (hS10).bk.blk.cell 5
            have ak6 := (hS10).bk.blk.cell 6
            have ak7 := (hS10).bk.blk.cell 7
            have ak8 := (hS10).bk.blk.cell 8
            have af3 := (hS10).bk.blk.frozen 3
            have af4 := (hS10).bk.blk.frozen 4
            have af5 := (hS10).bk.blk.frozen 5
            have af6 := (hS10).bk.blk.frozen 6
            have af7 := (hS10).bk.blk.frozen 7
            have af8 := (hS10).bk.blk.frozen 8
            have an1 := (hS10).bn.blk.cell 1
            have an2 := (hS10).bn.blk.cell 2
            have az1 := (hS10).bn.blk.frozen 1
            have az2 := (hS10).bn.blk.frozen 2
            simp only [List.getElem?_toArray, List.getElem?_cons_zero, List.getElem?_cons_succ] at ak3 ak4 ak5 ak6 ak7 ak8 an1 an2
            have HS10 := Lib.hid hS10
            have HH1 := Lib.hid (fun W => Holds_any x1.1 x1.2.1 x1.2.2 1 m1 W)
            have HH2 := Lib.hid (fun W => Holds_any x2.1 x2.2.1 x2.2.2 2 m2 W)
            have hbf : (holdsb x1.1 x1.2.1 x1.2.2 1 m1 && holdsb x2.1 x2.2.1 x2.2.2 2 m2) = false := HB10.out
            generalize holdsb x1.1 x1.2.1 x1.2.2 1 m1 = hb1 at *
            generalize holdsb x2.1 x2.2.1 x2.2.2 2 m2 = hb2 at *
            clear hS10 HS9 HD9 HB9 HC hm1 hm2
            go_wp2_with fail
            refine (HH1.out _).mono ?_
            rintro e w11 ⟨rfl, hb11⟩
            have hS11 := HS10.out.call hb11
            clear at0 at1 ak3 ak4 ak5 ak6 ak7 ak8 af3 af4 af5 af6 af7 af8 an1 an2 az1 az2
            obtain ⟨at0, at1, -⟩ := Blk.two (hS11).tm.blk
            have ak3 := (hS11).bk.blk.cell 3
            have ak4 := (hS11).bk.blk.cell 4
            have ak5 := (hS11).bk.blk.cell 5
            have ak6 := (hS11).bk.blk.cell 6
            have ak7 := (hS11).bk.blk.cell 7
            have ak8 := (hS11).bk.blk.cell 8
            have af3 := (hS11).bk.blk.frozen 3
            have af4 := (hS11).bk.blk.frozen 4
            have af5 := (hS11).bk.blk.frozen 5
            have af6 := (hS11).bk.blk.frozen 6
            have af7 := (hS11).bk.blk.frozen 7
            have af8 := (hS11).bk.blk.frozen 8
            have an1 := (hS11).bn.blk.cell 1
            have an2 := (hS11).bn.blk.cell 2
            have az1 := (hS11).bn.blk.frozen 1
            have az2 := (hS11).bn.blk.frozen 2
            simp only [List.getElem?_toArray, List.getElem?_cons_zero, List.getElem?_cons_succ] at ak3 ak4 ak5 ak6 ak7 ak8 an1 an2
            have HS11 := Lib.hid hS11
            clear hb11 HS10 hS11 HH1
            cases hb1 with
            | false =>
              clear hbf HH2
              go_wp2_with fail
              clear at0 at1 ak3 ak4 ak5 ak6 ak7 ak8 af3 af4 af5 af6 af7 af8 an1 an2 az1 az2
              go_roundw
              case rel => exact ⟨i + 1, gr', hlt, by go_num, rfl, q', gs', d', L', n', x1, x2, m1, m2, D', cnt', by omega, HS11.out, HD10, HC10, HB10⟩
              case measure => simp [intOf]; omega
            | true =>
              cases hb2 with
              | true => cases hbf
              | false =>
                clear hbf
                go_wp2_with fail
                refine (HH2.out _).mono ?_
                rintro e w12 ⟨rfl, hb12⟩
                have HS12 := Lib.hid (HS11.out.call hb12)
                clear at0 at1 ak3 ak4 ak5 ak6 ak7 ak8 af3 af4 af5 af6 af7 af8 an1 an2 az1 az2
                clear hb12 HS11 HH2
                go_wp2_with fail
                go_roundw
                case rel => exact ⟨i + 1, gr', hlt, by go_num, rfl, q', gs', d', L', n', x1, x2, m1, m2, D', cnt', by omega, HS12.out, HD10, HC10, HB10⟩
                case measure => simp [intOf]; omega
    · have hI : (s.length : Int) ≤ (i : Int) := by omega
      have HBe := Lib.hid hS0.fro.1
      clear hS0 hD0 hC0
      go_wp2_with fail
      go_ret
      exact ⟨rfl, HBe.out⟩
end Go.Proofs.YtddmfoldnlafaaaGreatDoor
