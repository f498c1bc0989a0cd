/- WHAT IT HOLDS: the law CursorKeeps, walked: up to its loop. | WHAT IT HOLDS: the law CursorKeeps, walked, for every input. | WHAT IT HOLDS: arguments that are segments, arrays, opened to the words of Kit. -/
import Derived.Test.YtabnndjdkjkciaaGreatDoorCursorKeepsG13
import Derived.Test.YtabnndjdkjkciaaGreatDoorCursorKeepsG34
import Derived.Test.YtabnndjdkjkciaaGreatDoorCursorKeepsG24
import Derived.Test.YtabnndjdkjkciaaGreatDoorCursorKeepsG32
import Derived.Test.YtabnndjdkjkciaaGreatDoorCursorKeepsG12
import Derived.Test.YtabnndjdkjkciaaGreatDoorCursorKeepsG10
import Derived.Test.YtabnndjdkjkciaaGreatDoorCursorKeepsG28
import Derived.Test.YtabnndjdkjkciaaGreatDoorCursorKeepsG33
import Derived.Deep.CutBlock
import Derived.Deep.DeepCutAuto
import Derived.Test.YtabnndjdkjkciaaGreatDoorCursorKeepsG05
import Derived.Test.YtabnndjdkjkciaaGreatDoorCursorKeepsG07
namespace Go.Proofs.YtabnndjdkjkciaaGreatDoor
open Go.RowKit Go.Maps Go.Sort
attribute [local go_sem ↓] Go.wp_at_zero Go.wp_at_succ

/-- what saving to no store answers -/
def bad4 (x : Cur) : Nat := if crchk x = 0 then 4 else crchk x
theorem CrSaveNil_any (n : Bs) {A : Option Addr} {c : Nat} (f nx t q : Int) (ps : List Pt5) (w : World) (h : SlP w A c ps) (hI : PtsI ps) :
    Calls Tryz.prog 32 #[.pointer none, .string ⟨n.toArray⟩, crv f nx t q A ps.length c] w fun e w' => e = .returned (errv (bad4 (f, nx, t, q, ps))) ∧ Below w.heap.size w w' := by
  by_cases h0 : crchk (f, nx, t, q, ps) = 0
  · rw [show bad4 (f, nx, t, q, ps) = 4 from if_pos h0]
    exact CrSaveN_any n f nx t q ps w h hI h0
  · rw [show bad4 (f, nx, t, q, ps) = crchk (f, nx, t, q, ps) from if_neg h0]
    exact CrSaveB_any n f nx t q ps w h hI h0
set_option maxRecDepth 100000 in
set_option maxHeartbeats 16000000 in
theorem ckeeps_walk {A E : Option Addr} {c ce : Nat} {f nx t q' : Int} {ps : List Pt5} {n0 n1 : Bs} {s : List DA} (w : World) (h : SlP w A c ps) (hI : PtsI ps) (hs : SlDA w E ce s) (hl : ps.length ≤ 60) (hn0 : n0.length ≤ 9223372036854775807) (hn1 : n1.length ≤ 9223372036854775807) (hsum : ¬ 60 < wrap64 ((n0.length : Int) + (n1.length : Int))) (hlg : dLong s 20 = false) :
    Calls Tryz.prog 5 #[crv f nx t q' A ps.length c, .agg #[.string ⟨n0.toArray⟩, .string ⟨n1.toArray⟩], .slice E s.length ce] w fun e w' => e = .returned (.bool true) ∧ Below w.heap.size w w' := by
  have hb0 := bel_alloc (below_new w (.cells #[.int .i64 f, .int .i64 nx, .int .i64 t, .int .i64 q', .slice A ps.length c] 72)) (.cells #[.string ⟨n0.toArray⟩, .string ⟨n1.toArray⟩] 73)
  have hC0 := (Blk.new w 72 #[.int .i64 f, .int .i64 nx, .int .i64 t, .int .i64 q', .slice A ps.length c]).alloc (.cells #[.string ⟨n0.toArray⟩, .string ⟨n1.toArray⟩] 73)
  have hN0 := Blk.newAt (w := w.alloc (.cells #[.int .i64 f, .int .i64 nx, .int .i64 t, .int .i64 q', .slice A ps.length c] 72)) (g := w.heap.size + 1) (by simp) 73 #[.string ⟨n0.toArray⟩, .string ⟨n1.toArray⟩]
  have H := Lib.hid h
  have HI := Lib.hid hI
  have HSh := Lib.hid (dLong_short hlg)
  have hs20 : s.length ≤ 20 := by have := (dLong_short hlg).1; omega
  have HS := Lib.hid hs
  have HLg := fun W (hh : SlDA W E ce s) => DLong_any W hh 20
  rw [hlg] at HLg
  replace HLg := Lib.hid HLg
  have j1 : ¬ (60 < (ps.length : Int)) := by omega
  have hz0 : (ByteArray.size ⟨n0.toArray⟩) = n0.length := by simp [ByteArray.size]
  have hz1 : (ByteArray.size ⟨n1.toArray⟩) = n1.length := by simp [ByteArray.size]
  have Hn := Lib.hid (And.intro hn0 hn1)
  obtain ⟨zs, hzs⟩ : ∃ z, wrap64 ((n0.length : Int) + (n1.length : Int)) = z := ⟨_, rfl⟩
  rw [hzs] at hsum
  have HB0 := Lib.hid hb0
  have HC0 := Lib.hid hC0
  have HN0 := Lib.hid hN0
  clear h hI hs hlg hb0 hC0 hN0 hn0 hn1
  go_enter Tryz.func5, Tryz.ntmps5
  go_wp2_with fail
  refine (alive18_any _).mono ?_
  rintro e w1 ⟨rfl, hb1⟩
  have hW1 := bel_call HB0.out hb1
  have hC1 := HC0.out.below hb1
  have hN1 := HN0.out.below hb1
  obtain ⟨a0, a1, a2, a3, a4, -⟩ := Blk.five hC1
  obtain ⟨n0c, n1c, -, -⟩ := Blk.two hN1
  clear hb1 HB0 HC0 HN0
  go_wp2_with fail
  refine (HLg.out _ (HS.out.below hW1)).mono ?_
  rintro e w2 ⟨rfl, hb2⟩
  have hW2 := bel_call hW1 hb2
  have hC2 := hC1.below hb2
  have hN2 := hN1.below hb2
  clear a0 a1 a2 a3 a4 n0c n1c
  obtain ⟨a0, a1, a2, a3, a4, -⟩ := Blk.five hC2
  obtain ⟨n0c, n1c, -, -⟩ := Blk.two hN2
  clear hb2 hW1 hC1 hN1 HLg
  have HDc := Lib.hid (Doc18_any f nx t q' ps w2 (H.out.below hW2) (by omega))
  go_wp2_with fail
  refine HDc.out.mono ?_
  rintro e w3 ⟨A3, c3, m3, rfl, hm3, ho3, hb3⟩
  have hW3 := bel_call hW2 hb3
  have hC3 := hC2.below hb3
  have hN3 := hN2.below hb3
  have hCk := rCCheck_any f nx t q' m3 w3 (Own.sl ho3) (by rw [hm3.out]; exact HI.out)
  rw [show (f, nx, t, q', m3) = (f, nx, t, q', ps) from by rw [hm3.out]] at hCk
  have HCk := Lib.hid hCk
  clear a0 a1 a2 a3 a4 n0c n1c
  clear hb3 hW2 hC2 hN2 HDc hCk ho3 hm3
  have HSn := Lib.hid (fun W (hW : Below w.heap.size w W) => CrSaveNil_any n0 f nx t q' ps W (H.out.below hW) HI.out)
  have HNb := Lib.hid (fun W => num_any (bad4 (f, nx, t, q', ps)) W)
  have HB4 := Lib.hid (show bad4 (f, nx, t, q', ps) = if crchk (f, nx, t, q', ps) = 0 then 4 else crchk (f, nx, t, q', ps) from rfl)
  generalize bad4 (f, nx, t, q', ps) = bd at *
  have HCR := Lib.hid (rfl : crchk (f, nx, t, q', ps) = crchk (f, nx, t, q', ps))
  clear HCR
  go_wp2_with fail
  refine HCk.out.mono ?_
  rintro e w4 ⟨rfl, hb4⟩
  have hW4 := bel_call hW3 hb4
  have hC4 := hC3.below hb4
  have hN4 := hN3.below hb4
  clear hb4 hW3 hC3 hN3 HCk
  go_upto_if 52 with (fail)
  go_cut [7] (fun v wz => v = .int .i64 (bd : Nat) ∧ wz = w4)
  case first =>
    by_cases h0 : crchk (f, nx, t, q', ps) = 0
    · have hbd : bd = 4 := HB4.out.trans (if_pos h0)
      subst hbd
      rw [h0]
      go_wp2_with fail
      go_meet
      exact ⟨rfl, rfl⟩
    · have hbd : bd = crchk (f, nx, t, q', ps) := HB4.out.trans (if_neg h0)
      have hz : ((crchk (f, nx, t, q', ps) : Int) == 0) = false := by
        have h1 : ¬ (crchk (f, nx, t, q', ps) : Int) = 0 := by omega
        simpa using h1
      rw [← hbd] at hz ⊢
      clear h0
      go_wp2_with fail
      go_meet
      exact ⟨rfl, rfl⟩
  obtain ⟨rfl, rfl⟩ := hcut
  clear HB4
  obtain ⟨a0, a1, a2, a3, a4, -⟩ := Blk.five hC4
  obtain ⟨n0c, n1c, -, -⟩ := Blk.two hN4
  go_wp2_with fail
  refine (CrLoadN_any n0 _).mono ?_
  rintro e w5 ⟨rfl, hb5⟩
  have hb6 := below_new w5 (.cells #[.int .i64 0, .int .i64 0, .int .i64 0, .int .i64 0, .slice none 0 0] 72)
  have hW5 := bel_call (bel_call hW4 hb5) hb6
  have hC5 := (hC4.below hb5).below hb6
  have hN5 := (hN4.below hb5).below hb6
  clear a0 a1 a2 a3 a4 n0c n1c
  clear hb5 hb6 hW4 hC4 hN4
  obtain ⟨a0, a1, a2, a3, a4, -⟩ := Blk.five hC5
  obtain ⟨n0c, n1c, -, -⟩ := Blk.two hN5
  have HIs := fun W => isn_any 4 4 W
  rw [show errv 4 = Value.iface 68 (.int .i64 4) from rfl, show (((4 : Nat) : Int) == 4) = true from rfl] at HIs
  replace HIs := Lib.hid HIs
  go_wp2_with fail
  refine (HIs.out _).mono ?_
  rintro e w6 ⟨rfl, rfl⟩
  go_wp2_with fail
  refine (CrClearN_any n0 _).mono ?_
  rintro e w6 ⟨rfl, rfl⟩
  go_wp2_with fail
  refine (HIs.out _).mono ?_
  rintro e w6 ⟨rfl, rfl⟩
  clear HIs
  go_wp2_with fail
  refine (HSn.out _ hW5).mono ?_
  rintro e w6 ⟨rfl, hb6⟩
  have hW6 := bel_call hW5 hb6
  have hC6 := hC5.below hb6
  have hN6 := hN5.below hb6
  clear a0 a1 a2 a3 a4 n0c n1c
  clear hb6 hW5 hC5 hN5 HSn
  obtain ⟨ev, hev⟩ : ∃ ev, errv bd = ev := ⟨_, rfl⟩
  rw [hev] at HNb ⊢
  clear hev
  go_wp2_with fail
  refine (HNb.out _).mono ?_
  rintro e w7 ⟨rfl, rfl⟩
  clear HNb
  go_wp2_with fail
  refine (New_any 1048576 _).mono ?_
  rintro e w8 (⟨hro, -⟩ | ⟨-, q0, rfl, hD, hM, hb8⟩)
  · omega
  have hN := KNew_any 1048576 w8
  have HN := Lib.hid (show Calls Tryz.prog 34 #[.int .i64 1048576] w8 fun e w' => e = .returned (.tuple #[.agg (rda (dk0R 1048576) none 0 none 0), .int .i64 0]) ∧ Below w8.heap.size w8 w' from hN.mono fun e w' ⟨h1, h2⟩ => ⟨by rcases h1 with ⟨h0, -⟩ | ⟨-, h1⟩; omega; exact h1, h2⟩)
  rw [show errv 0 = Value.nilIface from rfl]
  have HF := Lib.hid (show Fro w6 w8 q0 from ⟨hb8, hM⟩)
  have HD := Lib.hid hD
  have HW := Lib.hid hW6
  have HC := Lib.hid hC6
  have HNm := Lib.hid hN6
  clear hN hW6 hC6 hN6 hb8 hM hD
  go_wp2_with fail
  refine HN.out.mono ?_
  rintro e w9 ⟨rfl, hb9⟩
  have hbn := bel_alloc hb9 (.cells (rda (dk0R 1048576) none 0 none 0) 91)
  have hB9 := Blk.new w9 91 (rda (dk0R 1048576) none 0 none 0)
  have hap9 : ¬ q0.M w9.heap.size := fun hq => by have := (HD.out.below hb9).ltM hq; omega
  have hblo : w6.heap.size ≤ w9.heap.size := (HF.out.call hb9).1.size
  have HF9 := Lib.hid (HF.out.call hbn)
  have hD9 := HD.out.below hbn
  have hOp := SOpen_any hD9 (Fok.dk0 1048576) (by show 0 + 0 ≤ 400; omega)
  have HN0 := Lib.hid (show sOpen Sv.nil (dk0 1048576) = (dk0 1048576, 0) from rfl)
  have HB9 := Lib.hid hB9
  obtain ⟨g, hg⟩ : ∃ g, q0.g = g := ⟨_, rfl⟩
  rw [hg] at hOp ⊢
  have HOp := Lib.hid hOp
  have HG := Lib.hid hg
  clear HN HD hb9 hbn hB9 hOp HF hD9 hg
  unfold rda
  go_wp2_with fail
  refine HOp.out.mono ?_
  rintro e w10 hOO
  obtain ⟨q1, gs, rfl, hg1, hF1, hM1, hS1, hgs1⟩ := hOO.ok HN0.out
  clear HOp hOO
  have hP : CkS w6 w10 g w9.heap.size 0 q1 gs (dk0 1048576) (dk0R 1048576) none 0 none 0 := by
    have hb1 : ¬ q1.M w9.heap.size := fun hq => by
      rcases hM1 _ hq with h1 | h1
      · exact hap9 h1
      · have := HB9.out.lt; omega
    exact ⟨hg1.trans HG.out, hS1, Fok.dk0 1048576, ⟨(fun p hp => by cases hp), fun p hp => by cases hp⟩, HF9.out.frd hF1 hM1, (hF1.block _ HB9.out.lt hap9).trans HB9.out, hblo, (fun e => by have := HB9.out.lt; omega), ⟨Sl.none_ _ _, (fun j hj => by cases hj), Sl.none_ _ _, (fun j hj => by cases hj)⟩, hb1, Nat.le_refl _⟩
  have hK := KSOpen_any (dk0R 1048576) w10 hP.up hP.R (by show 0 + 0 ≤ 400; omega) (by show (-1 : Int) ≤ _; omega) ⟨(fun p hp => by cases hp), fun p hp => by cases hp⟩
  rw [show sOpen ([] : Bs) (dk0R 1048576) = (dk0R 1048576, 0) from rfl] at hK
  have HK := Lib.hid hK
  obtain ⟨r0, r1, r2, r3, r4, -⟩ := hP.blk.fiveC
  have HP := Lib.hid hP
  clear hP hS1 hM1 hF1 hg1 hgs1 HB9 HN0 HF9 hap9 hblo HG hK
  go_wp2_with fail
  refine HK.out.mono ?_
  clear HK
  rintro e w11 ⟨A11, c11, B11, k11, rfl, hR11, hb11⟩
  dsimp only at hR11
  have hP11 := HP.out.lay hR11 hb11
  have hB11 := HP.out.blk.below hb11
  clear r0 r1 r2 r3 r4
  obtain ⟨r0, r1, r2, r3, r4, rf0, rf1, rf2, rf3, rf4⟩ := hB11.fiveC
  have HP11 := Lib.hid hP11
  clear hP11 HP hR11 hb11 hB11
  unfold rda
  go_upto_region 17 with (fail)
  refine gen1 (T := fun W => CkS w6 W g w9.heap.size 0 q1 gs (dk0 1048576) (dk0R 1048576) A11 c11 B11 k11) HP11.out (fun w12 hP => ?_)
  have HP := Lib.hid hP
  clear hP HP11 r0 r1 r2 r3 r4 rf0 rf1 rf2 rf3 rf4
  generalize w9.heap.size = b at *
  go_wp2_with fail
  go_loopw [108] (fun x wr => ∃ (i : Nat) (q : Fp) (d : Dk Sv) (E : Option Addr) (n : Nat) (B : Option Addr) (k : Nat), i ≤ s.length ∧ x = .int .i64 i ∧ CkS w6 wr g b (8 * i) q gs d (d.map Sv.l) E n B k) (fun x w => s.length - (intOf x).toNat)
  case atStart => exact ⟨0, q1, dk0 1048576, A11, c11, B11, k11, Nat.zero_le _, rfl, HP.out⟩
  case round =>
    clear HP q1 q0
    obtain ⟨i, q, d, En, n, B, k, hi, rfl, hP⟩ := hrel
    by_cases hlt : i < s.length
    · have hI : (i : Int) < (s.length : Int) := by omega
      have hS := HS.out.below (HW.out.trans (hP.fro.1.mono HW.out.size))
      obtain ⟨ad, bk, o, hA, had, hcc⟩ := Sl.atS (f := dac) (size := 6) (fun _ => rfl) (by omega) hS.1 hlt
      have hc0 := hcc 0 _ rfl
      have hc1 := hcc 1 _ rfl
      have hc2 := hcc 2 _ rfl
      have hc3 := hcc 3 _ rfl
      have hc4 := hcc 4 _ rfl
      have hc5 := hcc 5 _ rfl
      rw [Nat.add_zero] at hc0
      have hok := hS.2 _ (List.getElem_mem hlt)
      have hok0 := HS.out.2 _ (List.getElem_mem hlt)
      have hsh := HSh.out.2 _ (List.getElem_mem hlt)
      clear hcc hS
      generalize s[i] = x at *
      have hb5 := below_new wr (.cells (acta x) 100)
      have hP5 := hP.call hb5
      have hX5 := Blk.new wr 100 (acta x)
      have HOk := Lib.hid (And.intro (Sl.below hok.1 hb5) (And.intro (Sl.below hok.2.1 hb5) (And.intro hok0 (And.intro hok.2.2.2.1 hsh))))
      have HDr := Lib.hid (Driven_any x (wr.alloc (.cells (acta x) 100)))
      have HP5 := Lib.hid hP5
      have HX5 := Lib.hid hX5
      obtain ⟨y0, y1, y2, y3, y4, y5⟩ := hX5.six
      subst hA
      clear hok hok0 hsh hb5 hP hP5 hX5
      unfold acta at *
      go_wp2_with fail
      refine HDr.out.mono ?_
      clear HDr y0 y1 y2 y3 y4 y5
      rintro e w13 ⟨⟨dr, rfl⟩, hb13⟩
      have HP13 := Lib.hid (HP5.out.call hb13)
      have HX13 := Lib.hid (HX5.out.below hb13)
      have HO13 := Lib.hid (show SlB w13 x.A x.c x.l ∧ SlZ w13 x.B x.kc x.ks from ⟨Sl.below HOk.out.1 hb13, Sl.below HOk.out.2.1 hb13⟩)
      have HOk2 := Lib.hid HOk.out.2.2
      clear HP5 HX5 hb13 hc0 hc1 hc2 hc3 hc4 hc5 HOk
      go_upto_if 114 with (fail)
      go_cut [19] from 115 to 122 (fun v wz => v = .bool true ∧ ∃ (q : Fp) (d : Dk Sv) (E : Option Addr) (n : Nat) (B : Option Addr) (k : Nat), Hid (CkS w6 wz g b (8 * i + 1) q gs d (d.map Sv.l) E n B k))
      case first =>
        cases dr with
        | false =>
          go_wp2_with fail
          go_meet
          exact ⟨rfl, q, d, En, n, B, k, Lib.hid (HP13.out.more (by omega))⟩
        | true =>
          have hDo := DoA_any (P := fun j => j ≠ b) (L := w6.heap.size) x HP13.out.st.dsk HP13.out.fk HP13.out.R (fun j hj => (HP13.out.up j hj).2) HO13.out (fun hne ad hA => Nat.lt_of_lt_of_le (SlB.ltB HOk2.out.1.1 hne hA) HW.out.size) (fun hne ad hA => Nat.lt_of_lt_of_le (SlZ.ltB HOk2.out.1.2.1 hne hA) HW.out.size) HP13.out.fro.2 HP13.out.fro.1.size (by have := HOk2.out.2.1; unfold I64 at this; omega) HOk2.out.2.2 (by have := HP13.out.sz; omega)
          rw [HP13.out.g] at hDo
          have HDo := Lib.hid hDo
          obtain ⟨r0, r1, r2, r3, r4, -⟩ := HP13.out.blk.fiveC
          obtain ⟨y0, y1, y2, y3, y4, y5⟩ := Blk.six (show Blk w13 wr.heap.size 100 (acta x) from HX13.out)
          unfold acta at HDo
          unfold rda at HDo
          clear hDo
          go_wp2_with fail
          refine HDo.out.mono ?_
          clear HDo y0 y1 y2 y3 y4 y5 r0 r1 r2 r3 r4
          rintro e w14 ⟨q8, d8, A8, c8, B8, k8, rfl, hg8, hD8, hf8, hF8, hM8, hR8, hl8, hn8⟩
          have hP8 := HP13.out.act (n' := 8 * i + 1) hg8 hD8 hF8 hM8 hf8 (hn8 HP13.out.nm) (by have := HP13.out.sz; omega)
          have HP9 := Lib.hid (hP8.lay hR8 (Below.refl _ _))
          obtain ⟨r0, r1, r2, r3, r4, rf0, rf1, rf2, rf3, rf4⟩ := hP8.blk.fiveC
          clear hg8 hD8 hf8 hF8 hM8 hR8 hl8 hn8 hP8
          unfold rda
          go_wp2_with fail
          go_meet
          exact ⟨rfl, q8, d8, A8, c8, B8, k8, HP9⟩
      clear q d En n B k HP13 HX13 HO13 HOk2
      obtain ⟨rfl, q, d, En, n, B, k, HP⟩ := hcut
      have hb6 := HP.out.fro.1
      obtain ⟨n0c, n1c, -, -⟩ := Blk.two (HNm.out.below hb6)
      go_upto_region 25 with (fail)
      go_cut [20] from 124 to 128 (fun v wz => ∃ nm : Bs, v = .string ⟨nm.toArray⟩ ∧ nm.length ≤ 9223372036854775807 ∧ wz = wc)
      case first =>
        rcases Nat.mod_two_eq_zero_or_one i with h2 | h2
        · have hr : ((i : Int).tmod 2) = 0 := by rw [Int.tmod_eq_emod_of_nonneg (by omega)]; omega
          go_wp2_with fail
          go_meet
          exact ⟨n0, rfl, by have := Hn.out; omega, rfl⟩
        · have hr : ((i : Int).tmod 2) = 1 := by rw [Int.tmod_eq_emod_of_nonneg (by omega)]; omega
          go_wp2_with fail
          go_meet
          exact ⟨n1, rfl, by have := Hn.out; omega, rfl⟩
      obtain ⟨nm, rfl, hnm, rfl⟩ := hcut
      clear n0c n1c hb6
      obtain ⟨tz, htz⟩ : ∃ tz : Bool, ((i : Int) % 3 == 2) = tz := ⟨_, rfl⟩
      go_upto_if 130 with (fail)
      go_cut [19, 21] from 131 to 158 (fun v z wz => v = .bool true ∧ (∃ bad : Int, z = .int .i64 bad) ∧ ∃ (q : Fp) (d : Dk Sv) (E : Option Addr) (n : Nat) (B : Option Addr) (k : Nat), Hid (CkS w6 wz g b (8 * i + 8) q gs d (d.map Sv.l) E n B k))
      case first =>
        have hps := HP.out.sz
        obtain ⟨r0, r1, r2, r3, r4, rf0, rf1, rf2, rf3, rf4⟩ := HP.out.blk.fiveC
        obtain ⟨p1, p2, p3, -⟩ := HP.out.st.dsk.fits (k := 400) (by omega) (by omega)
        cases tz with
        | true =>
          have HK := Lib.hid (K18Clear_any (d.map Sv.l) nm wc HP.out.up HP.out.R (by rw [len_mapD]; omega) HP.out.fk.2 (by omega))
          unfold rda at HK
          go_wp2_with fail
          refine HK.out.mono ?_
          clear HK
          rintro e w14 ⟨A8, c8, B8, k8, rfl, hR8, hb8⟩
          generalize hmm : clear18 (sDelete ([] : Bs) (d.map Sv.l) nm) = mm at *
          obtain ⟨m1, k1⟩ := mm
          dsimp only at hR8 ⊢
          have hMM := Lib.hid hmm
          have hP8 := HP.out.lay hR8 hb8
          have HP8 := Lib.hid hP8
          have hB8 := HP.out.blk.below hb8
          clear hmm hP8 hR8 hb8 r0 r1 r2 r3 r4 rf0 rf1 rf2 rf3 rf4 HP
          obtain ⟨r0, r1, r2, r3, r4, rf0, rf1, rf2, rf3, rf4⟩ := hB8.fiveC
          clear hB8
          unfold rda
          go_upto_region 29 with (fail)
          refine gen1 (T := fun W => CkS w6 W g b (8 * i + 1) q gs d m1 A8 c8 B8 k8) HP8.out (fun w15 hP9 => ?_)
          clear HP8 r0 r1 r2 r3 r4 rf0 rf1 rf2 rf3 rf4
          have HCl := Lib.hid (CrClearS_any hP9.st hP9.fk hP9.nm (by have := hP9.sz; omega) nm (by omega))
          have HP9 := Lib.hid hP9
          clear hP9
          go_wp2_with fail
          refine HCl.out.mono ?_
          clear HCl
          rintro e w16 ⟨d9, k9, rfl, hm9, ⟨q9, hg9, hD9, hF9, hM9, -⟩, hf9, hn9, hl9⟩
          rw [hMM.out] at hm9
          injection hm9 with e1 e2
          subst e1 e2
          have hP10 := HP9.out.act (n' := 8 * i + 8) hg9 hD9 hF9 hM9 hf9 hn9 (by have := HP9.out.sz; omega)
          have HP10 := Lib.hid hP10
          have HN9 := Lib.hid (fun W => num_any k1 W)
          clear hP10 HP9 hg9 hD9 hF9 hM9 hf9 hn9 hl9 hMM
          generalize errv k1 = ev9 at *
          go_wp2_with fail
          refine (HN9.out _).mono ?_
          rintro e w17 ⟨rfl, rfl⟩
          go_wp2_with fail
          go_meet
          exact ⟨rfl, ⟨_, rfl⟩, q9, d9, A8, c8, B8, k8, HP10⟩
        | false =>
          clear r0 r1 r2 r3 r4 rf0 rf1 rf2 rf3 rf4
          go_upto_region 30 with (fail)
          have hPd := HP.out.call (Below.drew (Below.refl _ _))
          obtain ⟨r0, r1, r2, r3, r4, -⟩ := hPd.blk.fiveC
          have hst0 : Blk (World.drew wc) w.heap.size 72 #[.int .i64 f, .int .i64 nx, .int .i64 t, .int .i64 q', .slice A ps.length c] := HC.out.below hPd.fro.1
          have hneb : w.heap.size ≠ b := by have h1 := hPd.blo; have h2 := HC.out.lt; omega
          have hru : Ris (d.map Sv.l).sure ∧ fused bln (d.map Sv.l).shown ≤ 1000000000000 := ⟨hPd.st.dsk.ris.mapD, by rw [shown_map, fused_map]; exact p3⟩
          go_cut [21] from 144 to 151 (fun z wz => ∃ (m1 : Dk Bs) (k1 : Nat) (A8 : Option Addr) (c8 : Nat) (B8 : Option Addr) (k8 : Nat), z = .int .i64 (k1 : Nat) ∧ Hid (save18 (d.map Sv.l) nm (f, nx, t, q', ps) = (m1, k1)) ∧ Hid (CkS w6 wz g b (8 * i + 1) q gs d m1 A8 c8 B8 k8))
          case first =>
            refine wp_region_held_drew (S := (fun W => Blk W w.heap.size 72 #[.int .i64 f, .int .i64 nx, .int .i64 t, .int .i64 q', .slice A ps.length c])) (by kernel_rfl) ?_ (fun hHeld => ?_)
            · first | with_reducible exact hst0 | with_reducible exact hHeld | exact hHeld.below hb14 | exact hHeld.below hb8 | exact ((((hHeld.far hneb _).far hneb _).far hneb _).far hneb _).far hneb _
            refine wpAnyH_take (i := 1) (oi := ⟨some 145, _, _, _, _, _⟩) (v := ?_) rfl (by kernel_rfl) (by kernel_rfl) (by kernel_rfl) (fun _ _ _ h => h) (Or.inl ⟨by kernel_rfl, ?_⟩) (by assumption) ?_
            rotate_left
            · (intro wS hSw; (try dsimp only at hSw); obtain ⟨a0, a1, a2, a3, a4, -⟩ := Blk.five hSw; clear hSw; go_simp; (try with_reducible rfl))
            (try simp only [Act.put, List.setIfInBounds_toArray, List.set_cons_zero, List.set_cons_succ])
            refine wpAnyH_take (i := 2) (oi := ⟨some 146, _, _, _, _, _⟩) (v := ?_) rfl (by kernel_rfl) (by kernel_rfl) (by kernel_rfl) (fun _ _ _ h => h) (Or.inl ⟨by kernel_rfl, ?_⟩) (by assumption) ?_
            rotate_left
            · (intro wS hSw; (try dsimp only at hSw); obtain ⟨a0, a1, a2, a3, a4, -⟩ := Blk.five hSw; clear hSw; go_simp; (try with_reducible rfl))
            (try simp only [Act.put, List.setIfInBounds_toArray, List.set_cons_zero, List.set_cons_succ])
            refine wpAnyH_ready (rs := [0, 3]) (by kernel_rfl) (by simp) ?_
            refine AllReadyH.cons (o := ⟨some 144, _, _, _, _, _⟩) rfl (fun K hK => ?_) ?_
            · go_simp
              refine hK.out _ _ ?_ (fun hHeld => ?_)
              · ((try dsimp only); (with_reducible exact hst0))
              clear hK K
              (try simp only [Act.put, List.setIfInBounds_toArray, List.set_cons_zero, List.set_cons_succ])
              refine wpAnyH_ready (rs := [3]) (by kernel_rfl) (by simp) ?_
              refine AllReadyH.cons (o := ⟨some 147, _, _, _, _, _⟩) rfl (fun K hK => ?_) AllReadyH.nil
              go_simp
              (refine (Doc18_any f nx t q' ps _ (H.out.below (HW.out.trans (hPd.fro.1.mono HW.out.size))) (by omega)).mono ?_; rintro e w14 ⟨A4, c4, m4, rfl, hm4, ho4, hb14⟩; have hP14 := hPd.call hb14; clear r0 r1 r2 r3 r4; obtain ⟨r0, r1, r2, r3, r4, -⟩ := hP14.blk.fiveC)
              go_wp2_with fail
              refine hK.out _ _ ?_ (fun hHeld => ?_)
              · ((try dsimp only); (exact hHeld.below hb14))
              clear hK K
              (try simp only [Act.put, List.setIfInBounds_toArray, List.set_cons_zero, List.set_cons_succ])
              refine wpAnyH_ready (rs := [4]) (by kernel_rfl) (by simp) ?_
              refine AllReadyH.cons (o := ⟨some 148, _, _, _, _, _⟩) rfl (fun K hK => ?_) AllReadyH.nil
              go_simp
              (refine (K18Save_any (d.map Sv.l) nm f nx t q' m4 _ hP14.up hP14.R (by rw [len_mapD]; omega) hP14.fk.2 (by omega) hru.1 hru.2 (Own.sl ho4) (by rw [hm4.out]; exact HI.out)).mono ?_; rintro e w15 ⟨A8, c8, B8, k8, rfl, hR8, hb8⟩; rw [show (f, nx, t, q', m4) = (f, nx, t, q', ps) from by rw [hm4.out]] at hR8 ⊢; obtain ⟨m1, k1, hmm⟩ : ∃ a b, save18 (d.map Sv.l) nm (f, nx, t, q', ps) = (a, b) := ⟨_, _, rfl⟩; rw [hmm] at hR8 ⊢; dsimp only at hR8 ⊢; unfold rda; have hMM := Lib.hid hmm; clear hmm; have hP8 := hP14.lay hR8 hb8; have hB8 := hP14.blk.below hb8; obtain ⟨x0, x1, x2, x3, x4, xf0, xf1, xf2, xf3, xf4⟩ := hB8.fiveC)
              go_wp2_with fail
              refine hK.out _ _ ?_ (fun hHeld => ?_)
              · ((try dsimp only); (exact hHeld.below hb8))
              clear hK K
              (try simp only [Act.put, List.setIfInBounds_toArray, List.set_cons_zero, List.set_cons_succ])
              refine wpAnyH_take (i := 5) (oi := ⟨some 143, _, _, _, _, _⟩) (v := ?_) rfl (by kernel_rfl) (by kernel_rfl) (by kernel_rfl) (fun _ _ _ h => h) (Or.inl ⟨by kernel_rfl, ?_⟩) (by assumption) ?_
              rotate_left
              · (intro wS hSw; (try dsimp only at hSw); obtain ⟨a0, a1, a2, a3, a4, -⟩ := Blk.five hSw; clear hSw; go_simp; (try with_reducible rfl))
              (try simp only [Act.put, List.setIfInBounds_toArray, List.set_cons_zero, List.set_cons_succ])
              refine wpAnyH_take (i := 6) (oi := ⟨some 149, _, _, _, _, _⟩) (v := ?_) rfl (by kernel_rfl) (by kernel_rfl) (by kernel_rfl) (fun _ _ _ h => h) (Or.inl ⟨by kernel_rfl, ?_⟩) (by assumption) ?_
              rotate_left
              · (intro wS hSw; (try dsimp only at hSw); obtain ⟨a0, a1, a2, a3, a4, -⟩ := Blk.five hSw; clear hSw; go_simp; (try with_reducible rfl))
              (try simp only [Act.put, List.setIfInBounds_toArray, List.set_cons_zero, List.set_cons_succ])
              refine wpAnyH_take (i := 7) (oi := ⟨some 150, _, _, _, _, _⟩) (v := ?_) rfl (by kernel_rfl) (by kernel_rfl) (by kernel_rfl) (fun _ _ _ h => h) (Or.inl ⟨by kernel_rfl, ?_⟩) (by assumption) ?_
              rotate_left
              · (intro wS hSw; (try dsimp only at hSw); obtain ⟨a0, a1, a2, a3, a4, -⟩ := Blk.five hSw; clear hSw; go_simp; (try with_reducible rfl))
              (try simp only [Act.put, List.setIfInBounds_toArray, List.set_cons_zero, List.set_cons_succ])
              refine wpAnyH_ready (rs := [8]) (by kernel_rfl) (by simp) ?_
              refine AllReadyH.cons (o := ⟨none, _, _, _, _, _⟩) rfl (fun K hK => ?_) AllReadyH.nil
              go_simp
              refine hK.out _ _ ?_ (fun hHeld => ?_)
              · ((try dsimp only); (exact ((((hHeld.far hneb _).far hneb _).far hneb _).far hneb _).far hneb _))
              clear hK K
              (try simp only [Act.put, List.setIfInBounds_toArray, List.set_cons_zero, List.set_cons_succ])
              refine wpAnyH_take (i := 9) (oi := ⟨some 21, _, _, _, _, _⟩) (v := ?_) rfl (by kernel_rfl) (by kernel_rfl) (by kernel_rfl) (fun _ _ _ h => h) (Or.inl ⟨by kernel_rfl, ?_⟩) (by assumption) ?_
              rotate_left
              · (intro wS hSw; (try dsimp only at hSw); obtain ⟨a0, a1, a2, a3, a4, -⟩ := Blk.five hSw; clear hSw; go_simp; (try with_reducible rfl))
              (try simp only [Act.put, List.setIfInBounds_toArray, List.set_cons_zero, List.set_cons_succ])
              refine wpAnyH_done (by kernel_rfl) ?_ _
              (have HP8 := Lib.hid hP8; go_wp2_with fail; go_meet; exact ⟨m1, k1, A8, c8, B8, k8, rfl, hMM, HP8⟩)
            refine AllReadyH.cons (o := ⟨some 147, _, _, _, _, _⟩) rfl (fun K hK => ?_) ?_
            · go_simp
              (refine (Doc18_any f nx t q' ps _ (H.out.below (HW.out.trans (hPd.fro.1.mono HW.out.size))) (by omega)).mono ?_; rintro e w14 ⟨A4, c4, m4, rfl, hm4, ho4, hb14⟩; have hP14 := hPd.call hb14; clear r0 r1 r2 r3 r4; obtain ⟨r0, r1, r2, r3, r4, -⟩ := hP14.blk.fiveC)
              go_wp2_with fail
              refine hK.out _ _ ?_ (fun hHeld => ?_)
              · ((try dsimp only); (exact hHeld.below hb14))
              clear hK K
              (try simp only [Act.put, List.setIfInBounds_toArray, List.set_cons_zero, List.set_cons_succ])
              refine wpAnyH_ready (rs := [0]) (by kernel_rfl) (by simp) ?_
              refine AllReadyH.cons (o := ⟨some 144, _, _, _, _, _⟩) rfl (fun K hK => ?_) AllReadyH.nil
              go_simp
              refine hK.out _ _ ?_ (fun hHeld => ?_)
              · ((try dsimp only); (with_reducible exact hHeld))
              clear hK K
              (try simp only [Act.put, List.setIfInBounds_toArray, List.set_cons_zero, List.set_cons_succ])
              refine wpAnyH_ready (rs := [4]) (by kernel_rfl) (by simp) ?_
              refine AllReadyH.cons (o := ⟨some 148, _, _, _, _, _⟩) rfl (fun K hK => ?_) AllReadyH.nil
              go_simp
              (refine (K18Save_any (d.map Sv.l) nm f nx t q' m4 _ hP14.up hP14.R (by rw [len_mapD]; omega) hP14.fk.2 (by omega) hru.1 hru.2 (Own.sl ho4) (by rw [hm4.out]; exact HI.out)).mono ?_; rintro e w15 ⟨A8, c8, B8, k8, rfl, hR8, hb8⟩; rw [show (f, nx, t, q', m4) = (f, nx, t, q', ps) from by rw [hm4.out]] at hR8 ⊢; obtain ⟨m1, k1, hmm⟩ : ∃ a b, save18 (d.map Sv.l) nm (f, nx, t, q', ps) = (a, b) := ⟨_, _, rfl⟩; rw [hmm] at hR8 ⊢; dsimp only at hR8 ⊢; unfold rda; have hMM := Lib.hid hmm; clear hmm; have hP8 := hP14.lay hR8 hb8; have hB8 := hP14.blk.below hb8; obtain ⟨x0, x1, x2, x3, x4, xf0, xf1, xf2, xf3, xf4⟩ := hB8.fiveC)
              go_wp2_with fail
              refine hK.out _ _ ?_ (fun hHeld => ?_)
              · ((try dsimp only); (exact hHeld.below hb8))
              clear hK K
              (try simp only [Act.put, List.setIfInBounds_toArray, List.set_cons_zero, List.set_cons_succ])
              refine wpAnyH_take (i := 5) (oi := ⟨some 143, _, _, _, _, _⟩) (v := ?_) rfl (by kernel_rfl) (by kernel_rfl) (by kernel_rfl) (fun _ _ _ h => h) (Or.inl ⟨by kernel_rfl, ?_⟩) (by assumption) ?_
              rotate_left
              · (intro wS hSw; (try dsimp only at hSw); obtain ⟨a0, a1, a2, a3, a4, -⟩ := Blk.five hSw; clear hSw; go_simp; (try with_reducible rfl))
              (try simp only [Act.put, List.setIfInBounds_toArray, List.set_cons_zero, List.set_cons_succ])
              refine wpAnyH_take (i := 6) (oi := ⟨some 149, _, _, _, _, _⟩) (v := ?_) rfl (by kernel_rfl) (by kernel_rfl) (by kernel_rfl) (fun _ _ _ h => h) (Or.inl ⟨by kernel_rfl, ?_⟩) (by assumption) ?_
              rotate_left
              · (intro wS hSw; (try dsimp only at hSw); obtain ⟨a0, a1, a2, a3, a4, -⟩ := Blk.five hSw; clear hSw; go_simp; (try with_reducible rfl))
              (try simp only [Act.put, List.setIfInBounds_toArray, List.set_cons_zero, List.set_cons_succ])
              refine wpAnyH_take (i := 7) (oi := ⟨some 150, _, _, _, _, _⟩) (v := ?_) rfl (by kernel_rfl) (by kernel_rfl) (by kernel_rfl) (fun _ _ _ h => h) (Or.inl ⟨by kernel_rfl, ?_⟩) (by assumption) ?_
              rotate_left
              · (intro wS hSw; (try dsimp only at hSw); obtain ⟨a0, a1, a2, a3, a4, -⟩ := Blk.five hSw; clear hSw; go_simp; (try with_reducible rfl))
              (try simp only [Act.put, List.setIfInBounds_toArray, List.set_cons_zero, List.set_cons_succ])
              refine wpAnyH_ready (rs := [8]) (by kernel_rfl) (by simp) ?_
              refine AllReadyH.cons (o := ⟨none, _, _, _, _, _⟩) rfl (fun K hK => ?_) AllReadyH.nil
              go_simp
              refine hK.out _ _ ?_ (fun hHeld => ?_)
              · ((try dsimp only); (exact ((((hHeld.far hneb _).far hneb _).far hneb _).far hneb _).far hneb _))
              clear hK K
              (try simp only [Act.put, List.setIfInBounds_toArray, List.set_cons_zero, List.set_cons_succ])
              refine wpAnyH_take (i := 9) (oi := ⟨some 21, _, _, _, _, _⟩) (v := ?_) rfl (by kernel_rfl) (by kernel_rfl) (by kernel_rfl) (fun _ _ _ h => h) (Or.inl ⟨by kernel_rfl, ?_⟩) (by assumption) ?_
              rotate_left
              · (intro wS hSw; (try dsimp only at hSw); obtain ⟨a0, a1, a2, a3, a4, -⟩ := Blk.five hSw; clear hSw; go_simp; (try with_reducible rfl))
              (try simp only [Act.put, List.setIfInBounds_toArray, List.set_cons_zero, List.set_cons_succ])
              refine wpAnyH_done (by kernel_rfl) ?_ _
              (have HP8 := Lib.hid hP8; go_wp2_with fail; go_meet; exact ⟨m1, k1, A8, c8, B8, k8, rfl, hMM, HP8⟩)
            exact AllReadyH.nil
          clear HP r0 r1 r2 r3 r4 hst0 hPd hru
          obtain ⟨m1, k1, A8, c8, B8, k8, rfl, hMM, HP8⟩ := hcut
          have hP9 := HP8.out
          clear HP8
          have HSv := Lib.hid (CrSaveS_any hP9.st hP9.fk hP9.nm (by have := hP9.sz; omega) nm (by omega) f nx t q' ps (H.out.below (HW.out.trans (hP9.fro.1.mono HW.out.size))) HI.out)
          obtain ⟨a0, a1, a2, a3, a4, -⟩ := Blk.five (HC.out.below hP9.fro.1)
          have HP9 := Lib.hid hP9
          clear hP9
          go_wp2_with fail
          refine HSv.out.mono ?_
          clear HSv
          rintro e w16 ⟨d9, k9, rfl, hm9, ⟨q9, hg9, hD9, hF9, hM9, -⟩, hf9, hn9, hl9⟩
          rw [hMM.out] at hm9
          injection hm9 with e1 e2
          subst e1 e2
          have hP10 := HP9.out.act (n' := 8 * i + 8) hg9 hD9 hF9 hM9 hf9 hn9 (by have := HP9.out.sz; omega)
          have HP10 := Lib.hid hP10
          have HN9 := Lib.hid (fun W => num_any k1 W)
          clear hP10 HP9 hg9 hD9 hF9 hM9 hf9 hn9 hl9 hMM
          generalize errv k1 = ev9 at *
          go_wp2_with fail
          refine (HN9.out _).mono ?_
          rintro e w17 ⟨rfl, rfl⟩
          go_wp2_with fail
          go_meet
          exact ⟨rfl, ⟨_, rfl⟩, q9, d9, A8, c8, B8, k8, HP10⟩
      clear q d En n B k HP
      obtain ⟨rfl, ⟨bad, rfl⟩, q, d, En, n, B, k, HP⟩ := hcut
      obtain ⟨n0c, n1c, -, -⟩ := Blk.two (HNm.out.below HP.out.fro.1)
      have hLd := CrLoad_any HP.out.st n0 (by have := Hn.out; omega)
      have HMp := Lib.hid (load_map18 d n0)
      have HVl := Lib.hid (show (sGetK (d.map Sv.l) n0).1.length ≤ 1000000 from by
        rw [sGetK_map18]
        have := sGet_lenC HP.out.st.dsk n0
        dsimp only
        omega)
      have hx5 := crLoad_len (sGet d n0)
      generalize crLoad (sGet d n0) = cl at *
      obtain ⟨⟨x1, x2, x3, x4, x5⟩, is1, bd1⟩ := cl
      dsimp only at hLd hx5
      have HLd := Lib.hid hLd
      have HPn := Lib.hid (show n0.length ≤ 9223372036854775807 from by have := Hn.out; omega)
      clear hLd htz
      go_wp2_with fail
      refine HLd.out.mono ?_
      clear HLd n0c n1c
      rintro e w20 ⟨A20, c20, m20, rfl, hm20, ho20, hb20⟩
      have hbn := below_new w20 (.cells #[.int .i64 x1, .int .i64 x2, .int .i64 x3, .int .i64 x4, .slice A20 m20.length c20] 72)
      have HP21 := Lib.hid ((HP.out.call hb20).call hbn)
      have HX21 := Lib.hid (Blk.new w20 72 #[.int .i64 x1, .int .i64 x2, .int .i64 x3, .int .i64 x4, .slice A20 m20.length c20])
      have HS21 := Lib.hid (show SlP _ A20 c20 m20 from Sl.below (Own.sl ho20) hbn)
      clear hbn ho20 hb20 HP
      go_upto_region 33 with (fail)
      refine gen1 (T := fun W => CkS w6 W g b (8 * i + 8) q gs d (d.map Sv.l) En n B k ∧ Blk W w20.heap.size 72 #[.int .i64 x1, .int .i64 x2, .int .i64 x3, .int .i64 x4, .slice A20 m20.length c20] ∧ SlP W A20 c20 m20) ⟨HP21.out, HX21.out, HS21.out⟩ (fun w21 hT => ?_)
      clear HP21 HX21 HS21
      obtain ⟨hP21, hX21, hS21⟩ := hT
      generalize w20.heap.size = gx at *
      obtain ⟨n0c, n1c, -, -⟩ := Blk.two (HNm.out.below hP21.fro.1)
      obtain ⟨r0, r1, r2, r3, r4, -⟩ := hP21.blk.fiveC
      have hKl := K18Load_any (d.map Sv.l) n0 w21 hP21.up hP21.R (by rw [len_mapD]; have := hP21.sz; omega) HPn.out HVl.out
      rw [HMp.out] at hKl
      dsimp only at hKl
      unfold rda at hKl
      have HKl := Lib.hid hKl
      have HP21 := Lib.hid hP21
      have HX21 := Lib.hid hX21
      have HS21 := Lib.hid hS21
      clear hKl hP21 hX21 hS21 HMp HVl HPn
      go_wp2_with fail
      refine HKl.out.mono ?_
      clear HKl n0c n1c r0 r1 r2 r3 r4
      rintro e w22 ⟨A22, c22, m22, rfl, hm22, ho22, hb22⟩
      have hbn := below_new w22 (.cells #[.int .i64 x1, .int .i64 x2, .int .i64 x3, .int .i64 x4, .slice A22 m22.length c22] 79)
      have HP23 := Lib.hid ((HP21.out.call hb22).call hbn)
      have HX23 := Lib.hid ((HX21.out.below hb22).below hbn)
      have HS23 := Lib.hid (show SlP _ A20 c20 m20 from Sl.below (Sl.below HS21.out hb22) hbn)
      have HY23 := Lib.hid (Blk.new w22 79 #[.int .i64 x1, .int .i64 x2, .int .i64 x3, .int .i64 x4, .slice A22 m22.length c22])
      have HT23 := Lib.hid (show SlP _ A22 c22 m22 from Sl.below (Own.sl ho22) hbn)
      clear hbn ho22 hb22 HP21 HX21 HS21
      go_upto_region 34 with (fail)
      refine gen1 (T := fun W => CkS w6 W g b (8 * i + 8) q gs d (d.map Sv.l) En n B k ∧ Blk W gx 72 #[.int .i64 x1, .int .i64 x2, .int .i64 x3, .int .i64 x4, .slice A20 m20.length c20] ∧ SlP W A20 c20 m20 ∧ Blk W w22.heap.size 79 #[.int .i64 x1, .int .i64 x2, .int .i64 x3, .int .i64 x4, .slice A22 m22.length c22] ∧ SlP W A22 c22 m22) ⟨HP23.out, HX23.out, HS23.out, HY23.out, HT23.out⟩ (fun w23 hT => ?_)
      clear HP23 HX23 HS23 HY23 HT23
      obtain ⟨hP23, hX23, hS23, hY23, hT23⟩ := hT
      generalize w22.heap.size = gy at *
      have hl20 : m20.length ≤ 1000000 := by rw [hm20.out]; omega
      have hm2 : m22 = m20 := by rw [hm22.out, hm20.out]
      have HSh := Lib.hid (fun W (hP : CkS w6 W g b (8 * i + 8) q gs d (d.map Sv.l) En n B k) => Shows_any hP.st.dsk hP.R (by have := hP.sz; omega))
      have hPd := hP23.call (Below.drew (Below.refl _ _))
      have HSd := Lib.hid (show SlP w23.drew A20 c20 m20 from Sl.below hS23 (Below.drew (Below.refl _ _)))
      have HTd := Lib.hid (show SlP w23.drew A22 c22 m22 from Sl.below hT23 (Below.drew (Below.refl _ _)))
      have hst0 : Blk (World.drew w23) gx 72 #[.int .i64 x1, .int .i64 x2, .int .i64 x3, .int .i64 x4, .slice A20 m20.length c20] ∧ Blk (World.drew w23) gy 79 #[.int .i64 x1, .int .i64 x2, .int .i64 x3, .int .i64 x4, .slice A22 m22.length c22] ∧ Blk (World.drew w23) b 91 (rda (d.map Sv.l) En n B k) := ⟨hX23.drew, hY23.drew, hPd.blk⟩
      have HN24 := Lib.hid (fun W => num_any bd1 W)
      obtain ⟨ev24, hev24⟩ : ∃ ev, errv bd1 = ev := ⟨_, rfl⟩
      rw [hev24] at HN24 ⊢
      have HPd := Lib.hid hPd
      clear hev24 hP23 hX23 hS23 hY23 hT23 hPd
      (try clear HS); (try clear HC); (try clear HNm); (try clear HI); (try clear H); (try clear j1); (try clear j2); (try clear hz0); (try clear hz1); (have HS20 := Lib.hid (show s.length ≤ 20 from by omega)); (try clear hs20); (try clear Hn); (try clear hm20); (try clear hm22); (try clear had)
      have HSm := Lib.hid (fun W (A24 : Option Addr) (c24 : Nat) (m24 : List Pt5) (h1 : SlP W A24 c24 m24) (h2 : SlP W A22 c22 m22) (e : m22 = m24) => rCSame_true x1 x2 x3 x4 m24 m22 W h1 h2 e)
      have HM2 := Lib.hid hm2
      clear hm2
      refine wp_region_seq (S := (fun W => Blk W gx 72 #[.int .i64 x1, .int .i64 x2, .int .i64 x3, .int .i64 x4, .slice A20 m20.length c20] ∧ Blk W gy 79 #[.int .i64 x1, .int .i64 x2, .int .i64 x3, .int .i64 x4, .slice A22 m22.length c22] ∧ Blk W b 91 (rda (d.map Sv.l) En n B k))) [(0, true), (1, true), (2, true), (3, true), (4, true), (5, true), (6, true), (7, true), (8, true), (10, true), (9, false), (11, true), (12, true), (13, true), (14, true), (16, true), (15, false), (17, false), (18, true), (19, true), (20, true), (21, true), (22, true), (23, false), (24, true), (25, true)] (by kernel_rfl) (by kernel_rfl) (fun _ _ _ _ _ h => h) ?_ (fun hHeld => ?_)
      · first | with_reducible exact hst0 | with_reducible exact hHeld | exact ⟨hHeld.1.below hb24, hHeld.2.1.below hb24, hHeld.2.2.below hb24⟩ | exact ⟨hHeld.1.below hb25, hHeld.2.1.below hb25, hHeld.2.2.below hb25⟩ | exact ⟨hHeld.1.below hb26, hHeld.2.1.below hb26, hHeld.2.2.below hb26⟩
      refine seq_take (oi := ⟨some 174, _, _, _, _, _⟩) (v := ?_) rfl (Or.inl ⟨by kernel_rfl, ?_⟩) (by assumption) ?_
      rotate_left
      · (intro wS hSw; (try dsimp only at hSw); obtain ⟨a0, a1, a2, a3, a4, -⟩ := Blk.five hSw.1; obtain ⟨b0, b1, b2, b3, b4, -⟩ := Blk.five hSw.2.1; obtain ⟨z0, z1, z2, z3, z4, -⟩ := hSw.2.2.fiveC; clear hSw; refine execV (fun rho hk1 hk2 hk3 hk => ?_); have e19_ := (hk 19).trans (evalP (fg8 (fg8 (fg1 (fg1 (fg1 fg0)))))); clear hk; go_simp; (try with_reducible rfl))
      ((with_reducible refine wpSeq_put ?_; go_big_move))
      refine seq_take (oi := ⟨some 175, _, _, _, _, _⟩) (v := ?_) rfl (Or.inl ⟨by kernel_rfl, ?_⟩) (by assumption) ?_
      rotate_left
      · (intro wS hSw; (try dsimp only at hSw); obtain ⟨a0, a1, a2, a3, a4, -⟩ := Blk.five hSw.1; obtain ⟨b0, b1, b2, b3, b4, -⟩ := Blk.five hSw.2.1; obtain ⟨z0, z1, z2, z3, z4, -⟩ := hSw.2.2.fiveC; clear hSw; refine execV (fun rho hk1 hk2 hk3 hk => ?_); have e174_ := (hk 174).trans (evalP (fg64 (fg64 (fg8 (fg8 (fg8 (fg8 (fg8 (fg1 (fg1 (fg1 (fg1 (fg1 (fg1 fg0)))))))))))))); clear hk; go_simp; (try with_reducible rfl))
      ((with_reducible refine wpSeq_put ?_; go_big_move))
      refine seq_take (oi := ⟨some 176, _, _, _, _, _⟩) (v := ?_) rfl (Or.inl ⟨by kernel_rfl, ?_⟩) (by assumption) ?_
      rotate_left
      · (intro wS hSw; (try dsimp only at hSw); obtain ⟨a0, a1, a2, a3, a4, -⟩ := Blk.five hSw.1; obtain ⟨b0, b1, b2, b3, b4, -⟩ := Blk.five hSw.2.1; obtain ⟨z0, z1, z2, z3, z4, -⟩ := hSw.2.2.fiveC; clear hSw; refine execV (fun rho hk1 hk2 hk3 hk => ?_); have e175_ := (hk 175).trans (evalP (fg64 (fg64 (fg8 (fg8 (fg8 (fg8 (fg8 (fg1 (fg1 (fg1 (fg1 (fg1 (fg1 (fg1 fg0))))))))))))))); clear hk; go_simp; (try with_reducible rfl))
      ((with_reducible refine wpSeq_put ?_; go_big_move))
      refine seq_take (oi := ⟨some 177, _, _, _, _, _⟩) (v := ?_) rfl (Or.inl ⟨by kernel_rfl, ?_⟩) (by assumption) ?_
      rotate_left
      · (intro wS hSw; (try dsimp only at hSw); obtain ⟨a0, a1, a2, a3, a4, -⟩ := Blk.five hSw.1; obtain ⟨b0, b1, b2, b3, b4, -⟩ := Blk.five hSw.2.1; obtain ⟨z0, z1, z2, z3, z4, -⟩ := hSw.2.2.fiveC; clear hSw; refine execV (fun rho hk1 hk2 hk3 hk => ?_); have e23_ := (hk 23).trans (evalP (fg8 (fg8 (fg1 (fg1 (fg1 (fg1 (fg1 (fg1 (fg1 fg0)))))))))); clear hk; go_simp; (try with_reducible rfl))
      ((with_reducible refine wpSeq_put ?_; go_big_move))
      refine seq_take (oi := ⟨some 178, _, _, _, _, _⟩) (v := ?_) rfl (Or.inl ⟨by kernel_rfl, ?_⟩) (by assumption) ?_
      rotate_left
      · (intro wS hSw; (try dsimp only at hSw); obtain ⟨a0, a1, a2, a3, a4, -⟩ := Blk.five hSw.1; obtain ⟨b0, b1, b2, b3, b4, -⟩ := Blk.five hSw.2.1; obtain ⟨z0, z1, z2, z3, z4, -⟩ := hSw.2.2.fiveC; clear hSw; refine execV (fun rho hk1 hk2 hk3 hk => ?_); have e26_ := (hk 26).trans (evalP (fg8 (fg8 (fg8 (fg1 (fg1 fg0)))))); clear hk; go_simp; (try with_reducible rfl))
      ((with_reducible refine wpSeq_put ?_; go_big_move))
      refine seq_take (oi := ⟨some 179, _, _, _, _, _⟩) (v := ?_) rfl (Or.inl ⟨by kernel_rfl, ?_⟩) (by assumption) ?_
      rotate_left
      · (intro wS hSw; (try dsimp only at hSw); obtain ⟨a0, a1, a2, a3, a4, -⟩ := Blk.five hSw.1; obtain ⟨b0, b1, b2, b3, b4, -⟩ := Blk.five hSw.2.1; obtain ⟨z0, z1, z2, z3, z4, -⟩ := hSw.2.2.fiveC; clear hSw; refine execV (fun rho hk1 hk2 hk3 hk => ?_); have e177_ := (hk 177).trans (evalP (fg64 (fg64 (fg8 (fg8 (fg8 (fg8 (fg8 (fg8 (fg1 fg0)))))))))); have e178_ := (hk 178).trans (evalP (fg64 (fg64 (fg8 (fg8 (fg8 (fg8 (fg8 (fg8 (fg1 (fg1 fg0))))))))))); clear hk; go_simp; (try with_reducible rfl))
      ((with_reducible refine wpSeq_put ?_; go_big_move))
      refine seq_take (oi := ⟨some 180, _, _, _, _, _⟩) (v := ?_) rfl (Or.inl ⟨by kernel_rfl, ?_⟩) (by assumption) ?_
      rotate_left
      · (intro wS hSw; (try dsimp only at hSw); obtain ⟨a0, a1, a2, a3, a4, -⟩ := Blk.five hSw.1; obtain ⟨b0, b1, b2, b3, b4, -⟩ := Blk.five hSw.2.1; obtain ⟨z0, z1, z2, z3, z4, -⟩ := hSw.2.2.fiveC; clear hSw; refine execV (fun rho hk1 hk2 hk3 hk => ?_); have e176_ := (hk 176).trans (evalP (fg64 (fg64 (fg8 (fg8 (fg8 (fg8 (fg8 (fg8 fg0))))))))); have e179_ := (hk 179).trans (evalP (fg64 (fg64 (fg8 (fg8 (fg8 (fg8 (fg8 (fg8 (fg1 (fg1 (fg1 fg0)))))))))))); clear hk; go_simp; (try with_reducible rfl))
      ((with_reducible refine wpSeq_put ?_; go_big_move))
      refine seq_take (oi := ⟨some 181, _, _, _, _, _⟩) (v := ?_) rfl (Or.inl ⟨by kernel_rfl, ?_⟩) (by assumption) ?_
      rotate_left
      · (intro wS hSw; (try dsimp only at hSw); obtain ⟨a0, a1, a2, a3, a4, -⟩ := Blk.five hSw.1; obtain ⟨b0, b1, b2, b3, b4, -⟩ := Blk.five hSw.2.1; obtain ⟨z0, z1, z2, z3, z4, -⟩ := hSw.2.2.fiveC; clear hSw; refine execV (fun rho hk1 hk2 hk3 hk => ?_); have e180_ := (hk 180).trans (evalP (fg64 (fg64 (fg8 (fg8 (fg8 (fg8 (fg8 (fg8 (fg1 (fg1 (fg1 (fg1 fg0))))))))))))); clear hk; go_simp; (try with_reducible rfl))
      ((with_reducible refine wpSeq_put ?_; go_big_move))
      refine seq_take (oi := ⟨some 182, _, _, _, _, _⟩) (v := ?_) rfl (Or.inl ⟨by kernel_rfl, ?_⟩) (by assumption) ?_
      rotate_left
      · (intro wS hSw; (try dsimp only at hSw); obtain ⟨a0, a1, a2, a3, a4, -⟩ := Blk.five hSw.1; obtain ⟨b0, b1, b2, b3, b4, -⟩ := Blk.five hSw.2.1; obtain ⟨z0, z1, z2, z3, z4, -⟩ := hSw.2.2.fiveC; clear hSw; refine execV (fun rho hk1 hk2 hk3 hk => ?_); have e24_ := (hk 24).trans (evalP (fg8 (fg8 (fg8 fg0)))); clear hk; go_simp; (try with_reducible rfl))
      ((with_reducible refine wpSeq_put ?_; go_big_move))
      refine seq_take (oi := ⟨some 184, _, _, _, _, _⟩) (v := ?_) rfl (Or.inl ⟨by kernel_rfl, ?_⟩) (by assumption) ?_
      rotate_left
      · (intro wS hSw; (try dsimp only at hSw); obtain ⟨a0, a1, a2, a3, a4, -⟩ := Blk.five hSw.1; obtain ⟨b0, b1, b2, b3, b4, -⟩ := Blk.five hSw.2.1; obtain ⟨z0, z1, z2, z3, z4, -⟩ := hSw.2.2.fiveC; clear hSw; refine execV (fun rho hk1 hk2 hk3 hk => ?_); have e27_ := (hk 27).trans (evalP (fg8 (fg8 (fg8 (fg1 (fg1 (fg1 fg0))))))); clear hk; go_simp; (try with_reducible rfl))
      ((with_reducible refine wpSeq_put ?_; go_big_move))
      refine seq_step (o := ⟨some 183, _, _, _, _, _⟩) rfl (fun K hK => ?_)
      with_reducible refine wantedP (by kernel_rfl) ?_
      (go_big_op)
      (refine (HN24.out _).mono ?_; rintro e w30 ⟨rfl, rfl⟩)
      go_wp2_with fail
      refine hK.out _ _ ?_ (fun hHeld => ?_)
      · ((try dsimp only); (with_reducible exact hst0))
      clear hK K
      ((try simp only [Act.put, List.setIfInBounds_toArray, List.set_cons_zero, List.set_cons_succ]))
      refine seq_take (oi := ⟨some 185, _, _, _, _, _⟩) (v := ?_) rfl (Or.inl ⟨by kernel_rfl, ?_⟩) (by assumption) ?_
      rotate_left
      · (intro wS hSw; (try dsimp only at hSw); obtain ⟨a0, a1, a2, a3, a4, -⟩ := Blk.five hSw.1; obtain ⟨b0, b1, b2, b3, b4, -⟩ := Blk.five hSw.2.1; obtain ⟨z0, z1, z2, z3, z4, -⟩ := hSw.2.2.fiveC; clear hSw; refine execV (fun rho hk1 hk2 hk3 hk => ?_); have e183_ := (hk 183).trans (evalP (fg64 (fg64 (fg8 (fg8 (fg8 (fg8 (fg8 (fg8 (fg1 (fg1 (fg1 (fg1 (fg1 (fg1 (fg1 fg0)))))))))))))))); have e184_ := (hk 184).trans (evalP (fg64 (fg64 (fg8 (fg8 (fg8 (fg8 (fg8 (fg8 (fg8 fg0)))))))))); clear hk; go_simp; (try with_reducible rfl))
      ((with_reducible refine wpSeq_put ?_; go_big_move))
      refine seq_take (oi := ⟨some 186, _, _, _, _, _⟩) (v := ?_) rfl (Or.inl ⟨by kernel_rfl, ?_⟩) (by assumption) ?_
      rotate_left
      · (intro wS hSw; (try dsimp only at hSw); obtain ⟨a0, a1, a2, a3, a4, -⟩ := Blk.five hSw.1; obtain ⟨b0, b1, b2, b3, b4, -⟩ := Blk.five hSw.2.1; obtain ⟨z0, z1, z2, z3, z4, -⟩ := hSw.2.2.fiveC; clear hSw; refine execV (fun rho hk1 hk2 hk3 hk => ?_); have e181_ := (hk 181).trans (evalP (fg64 (fg64 (fg8 (fg8 (fg8 (fg8 (fg8 (fg8 (fg1 (fg1 (fg1 (fg1 (fg1 fg0)))))))))))))); have e185_ := (hk 185).trans (evalP (fg64 (fg64 (fg8 (fg8 (fg8 (fg8 (fg8 (fg8 (fg8 (fg1 fg0))))))))))); clear hk; go_simp; (try with_reducible rfl))
      ((with_reducible refine wpSeq_put ?_; go_big_move))
      refine seq_take (oi := ⟨some 187, _, _, _, _, _⟩) (v := ?_) rfl (Or.inl ⟨by kernel_rfl, ?_⟩) (by assumption) ?_
      rotate_left
      · (intro wS hSw; (try dsimp only at hSw); obtain ⟨a0, a1, a2, a3, a4, -⟩ := Blk.five hSw.1; obtain ⟨b0, b1, b2, b3, b4, -⟩ := Blk.five hSw.2.1; obtain ⟨z0, z1, z2, z3, z4, -⟩ := hSw.2.2.fiveC; clear hSw; refine execV (fun rho hk1 hk2 hk3 hk => ?_); have e186_ := (hk 186).trans (evalP (fg64 (fg64 (fg8 (fg8 (fg8 (fg8 (fg8 (fg8 (fg8 (fg1 (fg1 fg0)))))))))))); clear hk; go_simp; (try with_reducible rfl))
      ((with_reducible refine wpSeq_put ?_; go_big_move))
      refine seq_take (oi := ⟨some 188, _, _, _, _, _⟩) (v := ?_) rfl (Or.inl ⟨by kernel_rfl, ?_⟩) (by assumption) ?_
      rotate_left
      · (intro wS hSw; (try dsimp only at hSw); obtain ⟨a0, a1, a2, a3, a4, -⟩ := Blk.five hSw.1; obtain ⟨b0, b1, b2, b3, b4, -⟩ := Blk.five hSw.2.1; obtain ⟨z0, z1, z2, z3, z4, -⟩ := hSw.2.2.fiveC; clear hSw; refine execV (fun rho hk1 hk2 hk3 hk => ?_); have e22_ := (hk 22).trans (evalP (fg8 (fg8 (fg1 (fg1 (fg1 (fg1 (fg1 (fg1 fg0))))))))); clear hk; go_simp; (try with_reducible rfl))
      ((with_reducible refine wpSeq_put ?_; go_big_move))
      refine seq_take (oi := ⟨some 190, _, _, _, _, _⟩) (v := ?_) rfl (Or.inl ⟨by kernel_rfl, ?_⟩) (by assumption) ?_
      rotate_left
      · (intro wS hSw; (try dsimp only at hSw); obtain ⟨a0, a1, a2, a3, a4, -⟩ := Blk.five hSw.1; obtain ⟨b0, b1, b2, b3, b4, -⟩ := Blk.five hSw.2.1; obtain ⟨z0, z1, z2, z3, z4, -⟩ := hSw.2.2.fiveC; clear hSw; refine execV (fun rho hk1 hk2 hk3 hk => ?_); have e25_ := (hk 25).trans (evalP (fg8 (fg8 (fg8 (fg1 fg0))))); clear hk; go_simp; (try with_reducible rfl))
      ((with_reducible refine wpSeq_put ?_; go_big_move))
      refine seq_step (o := ⟨some 189, _, _, _, _, _⟩) rfl (fun K hK => ?_)
      with_reducible refine wantedP (by kernel_rfl) ?_
      (go_big_op)
      (refine (Doc18_any x1 x2 x3 x4 m20 _ HSd.out hl20).mono ?_; rintro e w24 ⟨A24, c24, m24, rfl, hm24, ho24, hb24⟩; have HP24 := Lib.hid (HPd.out.call hb24); have HT24 := Lib.hid (show SlP w24 A22 c22 m22 from Sl.below HTd.out hb24))
      go_wp2_with fail
      refine hK.out _ _ ?_ (fun hHeld => ?_)
      · ((try dsimp only); (exact ⟨hHeld.1.below hb24, hHeld.2.1.below hb24, hHeld.2.2.below hb24⟩))
      clear hK K
      ((try simp only [Act.put, List.setIfInBounds_toArray, List.set_cons_zero, List.set_cons_succ]))
      refine seq_step (o := ⟨some 191, _, _, _, _, _⟩) rfl (fun K hK => ?_)
      with_reducible refine wantedP (by kernel_rfl) ?_
      (go_big_op)
      (refine (HSm.out _ A24 c24 m24 (Own.sl ho24) HT24.out (by rw [hm24.out, HM2.out])).mono ?_; rintro e w25 ⟨rfl, hb25⟩; have HP25 := Lib.hid (HP24.out.call hb25); have hSw25 := HSh.out _ HP25.out; rw [HP25.out.g] at hSw25)
      go_wp2_with fail
      refine hK.out _ _ ?_ (fun hHeld => ?_)
      · ((try dsimp only); (exact ⟨hHeld.1.below hb25, hHeld.2.1.below hb25, hHeld.2.2.below hb25⟩))
      clear hK K
      ((try simp only [Act.put, List.setIfInBounds_toArray, List.set_cons_zero, List.set_cons_succ]))
      refine seq_take (oi := ⟨some 192, _, _, _, _, _⟩) (v := ?_) rfl (Or.inl ⟨by kernel_rfl, ?_⟩) (by assumption) ?_
      rotate_left
      · (intro wS hSw; (try dsimp only at hSw); obtain ⟨a0, a1, a2, a3, a4, -⟩ := Blk.five hSw.1; obtain ⟨b0, b1, b2, b3, b4, -⟩ := Blk.five hSw.2.1; obtain ⟨z0, z1, z2, z3, z4, -⟩ := hSw.2.2.fiveC; clear hSw; refine execV (fun rho hk1 hk2 hk3 hk => ?_); have e191_ := (hk 191).trans (evalP (fg64 (fg64 (fg8 (fg8 (fg8 (fg8 (fg8 (fg8 (fg8 (fg1 (fg1 (fg1 (fg1 (fg1 (fg1 (fg1 fg0))))))))))))))))); clear hk; go_simp; (try with_reducible rfl))
      ((with_reducible refine wpSeq_put ?_; go_big_move))
      refine seq_take (oi := ⟨some 193, _, _, _, _, _⟩) (v := ?_) rfl (Or.inl ⟨by kernel_rfl, ?_⟩) (by assumption) ?_
      rotate_left
      · (intro wS hSw; (try dsimp only at hSw); obtain ⟨a0, a1, a2, a3, a4, -⟩ := Blk.five hSw.1; obtain ⟨b0, b1, b2, b3, b4, -⟩ := Blk.five hSw.2.1; obtain ⟨z0, z1, z2, z3, z4, -⟩ := hSw.2.2.fiveC; clear hSw; refine execV (fun rho hk1 hk2 hk3 hk => ?_); have e187_ := (hk 187).trans (evalP (fg64 (fg64 (fg8 (fg8 (fg8 (fg8 (fg8 (fg8 (fg8 (fg1 (fg1 (fg1 fg0))))))))))))); have e192_ := (hk 192).trans (evalP (fg64 (fg64 (fg64 fg0)))); clear hk; go_simp; (try with_reducible rfl))
      ((with_reducible refine wpSeq_put ?_; go_big_move))
      refine seq_take (oi := ⟨some 194, _, _, _, _, _⟩) (v := ?_) rfl (Or.inl ⟨by kernel_rfl, ?_⟩) (by assumption) ?_
      rotate_left
      · (intro wS hSw; (try dsimp only at hSw); obtain ⟨a0, a1, a2, a3, a4, -⟩ := Blk.five hSw.1; obtain ⟨b0, b1, b2, b3, b4, -⟩ := Blk.five hSw.2.1; obtain ⟨z0, z1, z2, z3, z4, -⟩ := hSw.2.2.fiveC; clear hSw; refine execV (fun rho hk1 hk2 hk3 hk => ?_); have e193_ := (hk 193).trans (evalP (fg64 (fg64 (fg64 (fg1 fg0))))); clear hk; go_simp; (try with_reducible rfl))
      ((with_reducible refine wpSeq_put ?_; go_big_move))
      refine seq_take (oi := ⟨some 195, _, _, _, _, _⟩) (v := ?_) rfl (Or.inl ⟨by kernel_rfl, ?_⟩) (by assumption) ?_
      rotate_left
      · (intro wS hSw; (try dsimp only at hSw); obtain ⟨a0, a1, a2, a3, a4, -⟩ := Blk.five hSw.1; obtain ⟨b0, b1, b2, b3, b4, -⟩ := Blk.five hSw.2.1; obtain ⟨z0, z1, z2, z3, z4, -⟩ := hSw.2.2.fiveC; clear hSw; refine execV (fun rho hk1 hk2 hk3 hk => ?_); have e11_ := (hk 11).trans (evalP (fg8 (fg1 (fg1 (fg1 fg0))))); clear hk; go_simp; (try with_reducible rfl))
      ((with_reducible refine wpSeq_put ?_; go_big_move))
      refine seq_take (oi := ⟨some 196, _, _, _, _, _⟩) (v := ?_) rfl (Or.inl ⟨by kernel_rfl, ?_⟩) (by assumption) ?_
      rotate_left
      · (intro wS hSw; (try dsimp only at hSw); obtain ⟨a0, a1, a2, a3, a4, -⟩ := Blk.five hSw.1; obtain ⟨b0, b1, b2, b3, b4, -⟩ := Blk.five hSw.2.1; obtain ⟨z0, z1, z2, z3, z4, -⟩ := hSw.2.2.fiveC; clear hSw; refine execV (fun rho hk1 hk2 hk3 hk => ?_); have e13_ := (hk 13).trans (evalP (fg8 (fg1 (fg1 (fg1 (fg1 (fg1 fg0))))))); clear hk; go_simp; (try with_reducible rfl))
      ((with_reducible refine wpSeq_put ?_; go_big_move))
      refine seq_step (o := ⟨some 197, _, _, _, _, _⟩) rfl (fun K hK => ?_)
      with_reducible refine wantedP (by kernel_rfl) ?_
      (go_big_op)
      (refine hSw25.mono ?_; rintro e w26 ⟨rfl, hb26⟩; have HP26 := Lib.hid (HP25.out.call hb26))
      go_wp2_with fail
      refine hK.out _ _ ?_ (fun hHeld => ?_)
      · ((try dsimp only); (exact ⟨hHeld.1.below hb26, hHeld.2.1.below hb26, hHeld.2.2.below hb26⟩))
      clear hK K
      ((try simp only [Act.put, List.setIfInBounds_toArray, List.set_cons_zero, List.set_cons_succ]))
      refine seq_take (oi := ⟨some 198, _, _, _, _, _⟩) (v := ?_) rfl (Or.inl ⟨by kernel_rfl, ?_⟩) (by assumption) ?_
      rotate_left
      · (intro wS hSw; (try dsimp only at hSw); obtain ⟨a0, a1, a2, a3, a4, -⟩ := Blk.five hSw.1; obtain ⟨b0, b1, b2, b3, b4, -⟩ := Blk.five hSw.2.1; obtain ⟨z0, z1, z2, z3, z4, -⟩ := hSw.2.2.fiveC; clear hSw; refine execV (fun rho hk1 hk2 hk3 hk => ?_); have e197_ := (hk 197).trans (evalP (fg64 (fg64 (fg64 (fg1 (fg1 (fg1 (fg1 (fg1 fg0))))))))); clear hk; go_simp; (try with_reducible rfl))
      ((with_reducible refine wpSeq_put ?_; go_big_move))
      refine seq_take (oi := ⟨some 199, _, _, _, _, _⟩) (v := ?_) rfl (Or.inl ⟨by kernel_rfl, ?_⟩) (by assumption) ?_
      rotate_left
      · (intro wS hSw; (try dsimp only at hSw); obtain ⟨a0, a1, a2, a3, a4, -⟩ := Blk.five hSw.1; obtain ⟨b0, b1, b2, b3, b4, -⟩ := Blk.five hSw.2.1; obtain ⟨z0, z1, z2, z3, z4, -⟩ := hSw.2.2.fiveC; clear hSw; refine execV (fun rho hk1 hk2 hk3 hk => ?_); have e194_ := (hk 194).trans (evalP (fg64 (fg64 (fg64 (fg1 (fg1 fg0)))))); have e198_ := (hk 198).trans (evalP (fg64 (fg64 (fg64 (fg1 (fg1 (fg1 (fg1 (fg1 (fg1 fg0)))))))))); clear hk; go_simp; (try with_reducible rfl))
      ((with_reducible refine wpSeq_put ?_; go_big_move))
      refine seq_done ?_
      have hs20 := HS20.out
      go_wp2_with fail
      go_roundw
      case rel => exact ⟨i + 1, q, d, En, n, B, k, hlt, by go_num, HP26.out.more (by omega)⟩
      case measure => simp [intOf]; omega
    · have hI : (s.length : Int) ≤ (i : Int) := by omega
      have HB := Lib.hid (HW.out.trans (hP.fro.1.mono HW.out.size))
      clear hP
      go_wp2_with fail
      go_ret
      exact ⟨rfl, HB.out⟩
end Go.Proofs.YtabnndjdkjkciaaGreatDoor

namespace Go.Proofs.YtabnndjdkjkciaaGreatDoor
open Go.RowKit
attribute [local go_sem ↓] Go.wp_at_zero Go.wp_at_succ

set_option maxRecDepth 100000 in
set_option maxHeartbeats 1000000 in
theorem ckeeps_early {A E : Option Addr} {c ce : Nat} {f nx t q' : Int} {ps : List Pt5} {n0 n1 : Bs} {s : List DA} (w : World) (hs : SlDA w E ce s) (hn0 : n0.length ≤ 9223372036854775807) (hn1 : n1.length ≤ 9223372036854775807)
    (hd : 60 < ps.length ∨ ps.length ≤ 60 ∧ 60 < wrap64 ((n0.length : Int) + (n1.length : Int)) ∨ ps.length ≤ 60 ∧ ¬ 60 < wrap64 ((n0.length : Int) + (n1.length : Int)) ∧ dLong s 20 = true) :
    Calls Tryz.prog 5 #[crv f nx t q' A ps.length c, .agg #[.string ⟨n0.toArray⟩, .string ⟨n1.toArray⟩], .slice E s.length ce] w fun e w' => e = .returned (.bool true) ∧ Below w.heap.size w w' := by
  have hb0 := bel_alloc (below_new w (.cells #[.int .i64 f, .int .i64 nx, .int .i64 t, .int .i64 q', .slice A ps.length c] 72)) (.cells #[.string ⟨n0.toArray⟩, .string ⟨n1.toArray⟩] 73)
  have hC0 := (Blk.new w 72 #[.int .i64 f, .int .i64 nx, .int .i64 t, .int .i64 q', .slice A ps.length c]).alloc (.cells #[.string ⟨n0.toArray⟩, .string ⟨n1.toArray⟩] 73)
  have hN0 := Blk.newAt (w := w.alloc (.cells #[.int .i64 f, .int .i64 nx, .int .i64 t, .int .i64 q', .slice A ps.length c] 72)) (g := w.heap.size + 1) (by simp) 73 #[.string ⟨n0.toArray⟩, .string ⟨n1.toArray⟩]
  have HS := Lib.hid hs
  have HLg := Lib.hid (fun W (hh : SlDA W E ce s) => DLong_any W hh 20)
  have hz0 : (ByteArray.size ⟨n0.toArray⟩) = n0.length := by simp [ByteArray.size]
  have hz1 : (ByteArray.size ⟨n1.toArray⟩) = n1.length := by simp [ByteArray.size]
  obtain ⟨zs, hzs⟩ : ∃ z, wrap64 ((n0.length : Int) + (n1.length : Int)) = z := ⟨_, rfl⟩
  rw [hzs] at hd
  have HB0 := Lib.hid hb0
  have HC0 := Lib.hid hC0
  have HN0 := Lib.hid hN0
  clear hs hb0 hC0 hN0 hn0 hn1
  go_enter Tryz.func5, Tryz.ntmps5
  go_wp2_with fail
  refine (alive18_any _).mono ?_
  rintro e w1 ⟨rfl, hb1⟩
  have hW1 := bel_call HB0.out hb1
  have hC1 := HC0.out.below hb1
  have hN1 := HN0.out.below hb1
  clear hb1 HB0 HC0 HN0
  rcases hd with hp | ⟨hp, hsum⟩ | ⟨hp, hsum, hlg⟩
  · have hpI : (60 : Int) < (ps.length : Int) := by omega
    obtain ⟨a0, a1, a2, a3, a4, -⟩ := Blk.five hC1
    obtain ⟨n0c, n1c, -, -⟩ := Blk.two hN1
    go_wp2_with fail
    go_ret
    exact ⟨rfl, hW1⟩
  · have hpI : ¬ (60 : Int) < (ps.length : Int) := by omega
    obtain ⟨a0, a1, a2, a3, a4, -⟩ := Blk.five hC1
    obtain ⟨n0c, n1c, -, -⟩ := Blk.two hN1
    go_wp2_with fail
    go_ret
    exact ⟨rfl, hW1⟩
  · have hpI : ¬ (60 : Int) < (ps.length : Int) := by omega
    rw [hlg] at HLg
    obtain ⟨a0, a1, a2, a3, a4, -⟩ := Blk.five hC1
    obtain ⟨n0c, n1c, -, -⟩ := Blk.two hN1
    go_wp2_with fail
    refine (HLg.out _ (HS.out.below hW1)).mono ?_
    rintro e w2 ⟨rfl, hb2⟩
    have hW2 := bel_call hW1 hb2
    go_wp2_with fail
    go_ret
    exact ⟨rfl, hW2⟩
theorem ckeeps_all {A E : Option Addr} {c ce : Nat} {f nx t q' : Int} {ps : List Pt5} {n0 n1 : Bs} {s : List DA} (w : World) (h : SlP w A c ps) (hI : PtsI ps) (hn0 : n0.length ≤ maxLen) (hn1 : n1.length ≤ maxLen) (hs : SlDA w E ce s) :
    Calls Tryz.prog 5 #[crv f nx t q' A ps.length c, .agg #[.string ⟨n0.toArray⟩, .string ⟨n1.toArray⟩], .slice E s.length ce] w fun e w' => e = .returned (.bool true) ∧ Below w.heap.size w w' := by
  unfold maxLen at hn0 hn1
  rcases Nat.lt_or_ge 60 ps.length with hl | hl
  · exact ckeeps_early w hs (by omega) (by omega) (.inl hl)
  by_cases hsum : 60 < wrap64 ((n0.length : Int) + (n1.length : Int))
  · exact ckeeps_early w hs (by omega) (by omega) (.inr (.inl ⟨hl, hsum⟩))
  cases hlg : dLong s 20
  · exact ckeeps_walk w h hI hs hl (by omega) (by omega) hsum hlg
  · exact ckeeps_early w hs (by omega) (by omega) (.inr (.inr ⟨hl, hsum, hlg⟩))
end Go.Proofs.YtabnndjdkjkciaaGreatDoor

namespace Go.Proofs.YtabnndjdkjkciaaGreatDoor
open Go.ChangeShapes Go.WideShapes Go.ChangeAt Go.RowKit Go.Deep

section
variable {H : Type} {enc : TypeId × Value → H} {P : Program} {w : World} {base b0 : Nat} {held : Bool} {r : Reach} {t e b u : TypeId} {v : Value} {d : DataW H} {p : List MemPlace}
end
end Go.Proofs.YtabnndjdkjkciaaGreatDoor
