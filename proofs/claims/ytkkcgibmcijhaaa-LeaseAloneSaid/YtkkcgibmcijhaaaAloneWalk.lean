/- WHAT IT HOLDS: the law LeaseAlone, walked. -/
import Derived.Test.YtkkcgibmcijhaaaAloneD
namespace Go.Proofs.Ytkkcgibmcijhaaa
open Go.RowKit
attribute [local go_sem ↓] Go.wp_at_zero Go.wp_at_succ

set_option maxRecDepth 100000 in
set_option maxHeartbeats 20000000 in
theorem alone_walk {A : Option Addr} {c : Nat} {sc : List (Int × Int × Int × Int)} {span bound : Int} (w : World) (hA : Sl w 4 A sc.length c (sc.flatMap af)) (h1 : sc.length ≤ 60) (s0 : 0 ≤ span) (s1 : span ≤ 1073741824) (b0 : 0 ≤ bound) (b1 : bound ≤ 1073741824) :
    Calls Try.prog 3 #[iv span, iv bound, .slice A sc.length c] w fun e w' => e = .returned (.bool true) ∧ Below w.heap.size w w' := by
  have k1 : ¬ (60 < (sc.length : Int)) := by omega
  have e1 : ¬ (span < 0) := by omega
  have e2 : ¬ (1073741824 < span) := by omega
  have e3 : ¬ (bound < 0) := by omega
  have e4 : ¬ (1073741824 < bound) := by omega
  have hmm := @run_makeMap Try.prog
  go_enter Try.func3, Try.ntmps3
  go_wp2_with fail
  refine (alive28_any _).mono ?_
  rintro e w1 ⟨rfl, hb1⟩
  go_wp2_with fail
  clear hmm k1 e1 e2 e3 e4
  go_loopw [47] (fun x wr => ARel w bound sc.length w1.heap.size x wr) (fun x w => sc.length - (intOf x).toNat)
  case atStart =>
    refine ⟨0, 0, (0, 0, 0), (0, 0, 0), (0, 0, 0), 0, 0, .map [], Nat.zero_le _, Nat.le_refl _, rfl, ?_, LInv.start b0, EInv.start⟩
    have h3 : (((w1.alloc (.cells #[iv 0, iv 0, iv 0] 25)).alloc (.cells #[iv 0, iv 0, iv 0, iv 0, iv 0, iv 0, iv 0, iv 0, iv 0] 26)).alloc (.cells #[iv 0, iv 0, iv 0] 27)).heap.size = w1.heap.size + 1 + 1 + 1 := by simp
    have hm := World.ownsMap_made (H := Unit) (((w1.alloc (.cells #[iv 0, iv 0, iv 0] 25)).alloc (.cells #[iv 0, iv 0, iv 0, iv 0, iv 0, iv 0, iv 0, iv 0, iv 0] 26)).alloc (.cells #[iv 0, iv 0, iv 0] 27)) Try.prog 3 (plainElem Try.prog 3)
    rw [h3] at hm
    exact ⟨bel_alloc (bel_alloc (bel_alloc (bel_alloc hb1 _) _) _) _, hb1.size, (((Blk.new w1 _ _).alloc _).alloc _).alloc _, ((Blk.newAt (by simp) _ _).alloc _).alloc _, (Blk.newAt (by simp) _ _).alloc _, hm⟩
  case round =>
    obtain ⟨i, n, l, k1, k2, n1, n2, D, hi, hni, rfl, hS, hL, hE⟩ := hrel
    by_cases hlt : i < sc.length
    · obtain ⟨ad, ab, ao, rfl, hadd, hc⟩ := (hA.below hS.bel).atS (f := af) (fun _ => rfl) (by decide) hlt
      have q0 := hc 0 _ rfl
      have q1 := hc 1 _ rfl
      have q2 := hc 2 _ rfl
      have q3 := hc 3 _ rfl
      clear hc
      generalize sc[i] = a at *
      obtain ⟨kind, own, by_, apart⟩ := a
      dsimp only at q0 q1 q2 q3
      rw [Nat.add_zero] at q0
      have hlt0 := hS.lt
      obtain ⟨lo, le, lu⟩ := l
      obtain ⟨a0, a1, a2, a3, a4, a5⟩ := hS.bl.three
      have z0 : w1.heap.size < wr.heap.size := by omega
      have hnb : ab ≠ wr.heap.size := by have := World.block_lt_of_cell? wr _ q0; dsimp only at this; omega
      obtain ⟨p, hp0, hp1, hpa⟩ := u64_rem own 2 (by decide)
      obtain ⟨q, hq0, hq1, hqa⟩ := u64_rem kind 4 (by decide)
      obtain ⟨by1, hby0, hby1, hbya⟩ := u64_rem by_ 1073741824 (by decide)
      obtain ⟨ap, hap0, hap1, hapa⟩ := u64_rem apart 1073741824 (by decide)
      have hpw : wrap64 (1 + wrap64 p) = 1 + p := by simp only [wrap64]; omega
      have hSW : WSt w ((wr.alloc (.cells #[iv kind, iv own, iv by_, iv apart] 30)).alloc (.cells #[iv lo, iv le, iv lu] 25)) w1.heap.size n (lo, le, lu) k1 k2 n1 n2 D (wr.heap.size + 1) (lo, le, lu) :=
        ⟨(hS.below (below_new _ _)).below (below_new _ _), Blk.newAt (by simp) _ _, by omega⟩
      have hBA : Blk ((wr.alloc (.cells #[iv kind, iv own, iv by_, iv apart] 30)).alloc (.cells #[iv lo, iv le, iv lu] 25)) wr.heap.size 30 #[iv kind, iv own, iv by_, iv apart] := (Blk.new wr _ _).alloc _
      have HSW := Lib.hid hSW
      have HBA := Lib.hid hBA
      clear hSW hBA
      have hz0 : wrap64 (0 : Int) = 0 := by simp only [wrap64]; omega
      have hz1 : wrap64 (1 : Int) = 1 := by simp only [wrap64]; omega
      have hz2 : wrap64 (2 : Int) = 2 := by simp only [wrap64]; omega
      go_upto_block 2 with (fail)
      go_cut [14] (fun s14 wx => s14 = .pointer (some ⟨wr.heap.size + 1, 0, none⟩) ∧ ∃ (l' k1' k2' : L3) (m1 m2 : Int), WSt w wx w1.heap.size n l' k1' k2' m1 m2 D (wr.heap.size + 1) (lo, le, lu) ∧ Hid (LInv bound (i + 1) l' k1' k2' m1 m2) ∧ Turn (lo, le, lu) l')
      case first =>
        have hSW := HSW.out
        have hBA := HBA.out
        obtain ⟨W0, hW0⟩ : ∃ W0, W0 = (wr.alloc (.cells #[iv kind, iv own, iv by_, iv apart] 30)).alloc (.cells #[iv lo, iv le, iv lu] 25) := ⟨_, rfl⟩
        rw [← hW0] at hSW hBA
        have e6 : (wr.alloc (.cells #[.int .i64 kind, .int .i64 own, .int .i64 by_, .int .i64 apart] 30)).alloc (.cells #[.int .i64 lo, .int .i64 le, .int .i64 lu] 25) = W0 := hW0.symm
        rw [e6]
        clear e6 hW0 HSW HBA q0 q1 q2 q3 a0 a1 a2 a3 a4 a5
        obtain ⟨a0, a1, a2, a3, a4, a5⟩ := hSW.st.bl.three
        dsimp only at a0 a1 a2
        by_cases hq2 : q = 2
        · subst hq2
          rcases (show p = 0 ∨ p = 1 by omega) with rfl | rfl
          · as_aux_lemma =>
              go_wp2_with fail
              refine (Give_any lo le lu 1 _).mono ?_
              rintro e w5 ⟨rfl, hb5⟩
              have hS5 := hSW.below hb5
              have hS6 := fun x y z => hS5.alloc (.cells #[iv x, iv y, iv z] 25)
              have HS6 := Lib.hid hS6
              have z5 : wr.heap.size + 1 < w5.heap.size := by have := hb5.size; have := hS5.bw.lt; omega
              rcases errv_cases (give lo le lu 1).2.2.2 with ⟨h0, hev⟩ | ⟨k, hk, hke, hev⟩
              · have hL' := Lib.hid ((LInv.give1 hL.out h0).more)
                have hgv := (give_ok h0).1
                rw [hev, hgv]
                clear hev hgv h0 hS5 hS6
                go_upto_region 21 with (fail)
                have hS7 := HS6.out 0 le 0
                have hY := Blk.new w5 25 #[iv 0, iv le, iv 0]
                have hlt5 : w5.heap.size < (w5.alloc (.cells #[iv 0, iv le, iv 0] 25)).heap.size := by simp
                clear a0 a1 a2 a3 a4 a5 hSW
                obtain ⟨w6, hw6⟩ : ∃ w6, w6 = w5.alloc (.cells #[iv 0, iv le, iv 0] 25) := ⟨_, rfl⟩
                rw [← hw6] at hS7 hY hlt5
                have e6 : w5.alloc (.cells #[.int .i64 0, .int .i64 le, .int .i64 0] 25) = w6 := hw6.symm
                rw [e6]
                clear hw6 e6
                generalize w5.heap.size = g5 at *
                obtain ⟨y0, y1, y2, y3, y4, y5⟩ := hY.three
                obtain ⟨a0, a1, a2, a3, a4, a5⟩ := hS7.st.bl.three
                have m0 := hS7.st.bk.cell 3
                have m1 := hS7.st.bk.cell 4
                have m2 := hS7.st.bk.cell 5
                have f0 := hS7.st.bk.frozen 3
                have f1 := hS7.st.bk.frozen 4
                have f2 := hS7.st.bk.frozen 5
                simp only [List.getElem?_toArray, List.getElem?_cons_zero, List.getElem?_cons_succ] at m0 m1 m2
                have HS7 := Lib.hid hS7
                clear hS7 HS6
                go_region
                all_goals
                  (try go_wp2_with fail)
                  go_meet
                  exact ⟨rfl, (0, le, 0), (0, le, 0), k2, n1, n2, (by first | exact ((HS7.out.own (0, le, 0)).mem1 (0, le, 0)).drew | exact ((HS7.out.mem1 (0, le, 0)).own (0, le, 0)).drew), hL', .inr (.inl rfl)⟩
              · rw [hev]
                clear hev hk hke
                go_wp2_with fail
                go_meet
                exact ⟨rfl, (lo, le, lu), k1, k2, n1, n2, HS6.out _ _ _, hL.out.more, .inl rfl⟩
          · as_aux_lemma =>
              go_wp2_with fail
              refine (Give_any lo le lu 2 _).mono ?_
              rintro e w5 ⟨rfl, hb5⟩
              have hS5 := hSW.below hb5
              have hS6 := fun x y z => hS5.alloc (.cells #[iv x, iv y, iv z] 25)
              have HS6 := Lib.hid hS6
              have z5 : wr.heap.size + 1 < w5.heap.size := by have := hb5.size; have := hS5.bw.lt; omega
              rcases errv_cases (give lo le lu 2).2.2.2 with ⟨h0, hev⟩ | ⟨k, hk, hke, hev⟩
              · have hL' := Lib.hid ((LInv.give2 hL.out h0).more)
                have hgv := (give_ok h0).1
                rw [hev, hgv]
                clear hev hgv h0 hS5 hS6
                go_upto_region 21 with (fail)
                have hS7 := HS6.out 0 le 0
                have hY := Blk.new w5 25 #[iv 0, iv le, iv 0]
                have hlt5 : w5.heap.size < (w5.alloc (.cells #[iv 0, iv le, iv 0] 25)).heap.size := by simp
                clear a0 a1 a2 a3 a4 a5 hSW
                obtain ⟨w6, hw6⟩ : ∃ w6, w6 = w5.alloc (.cells #[iv 0, iv le, iv 0] 25) := ⟨_, rfl⟩
                rw [← hw6] at hS7 hY hlt5
                have e6 : w5.alloc (.cells #[.int .i64 0, .int .i64 le, .int .i64 0] 25) = w6 := hw6.symm
                rw [e6]
                clear hw6 e6
                generalize w5.heap.size = g5 at *
                obtain ⟨y0, y1, y2, y3, y4, y5⟩ := hY.three
                obtain ⟨a0, a1, a2, a3, a4, a5⟩ := hS7.st.bl.three
                have m0 := hS7.st.bk.cell 6
                have m1 := hS7.st.bk.cell 7
                have m2 := hS7.st.bk.cell 8
                have f0 := hS7.st.bk.frozen 6
                have f1 := hS7.st.bk.frozen 7
                have f2 := hS7.st.bk.frozen 8
                simp only [List.getElem?_toArray, List.getElem?_cons_zero, List.getElem?_cons_succ] at m0 m1 m2
                have HS7 := Lib.hid hS7
                clear hS7 HS6
                go_region
                all_goals
                  (try go_wp2_with fail)
                  go_meet
                  exact ⟨rfl, (0, le, 0), k1, (0, le, 0), n1, n2, (by first | exact ((HS7.out.own (0, le, 0)).mem2 (0, le, 0)).drew | exact ((HS7.out.mem2 (0, le, 0)).own (0, le, 0)).drew), hL', .inr (.inl rfl)⟩
              · rw [hev]
                clear hev hk hke
                go_wp2_with fail
                go_meet
                exact ⟨rfl, (lo, le, lu), k1, k2, n1, n2, HS6.out _ _ _, hL.out.more, .inl rfl⟩
        · have hqf2 : (q == 2) = false := by rw [beq_eq_false_iff_ne]; exact hq2
          by_cases hq3 : q = 3
          · subst hq3
            have hLo := hL.out
            have hpn1 := hLo.p1
            have hpn2 := hLo.p2
            have hne := hLo.near
            have hwby : wrap64 by1 = by1 := by simp only [wrap64]; omega
            have hwap : wrap64 ap = ap := by simp only [wrap64]; omega
            have hw1 : wrap64 (n1 + by1) = n1 + by1 := by simp only [wrap64]; omega
            have hw2 : wrap64 (n2 + by1) = n2 + by1 := by simp only [wrap64]; omega
            have hw3 : wrap64 (n1 + by1 + ap) = n1 + by1 + ap := by simp only [wrap64]; omega
            have hw4 : wrap64 (n2 + by1 + ap) = n2 + by1 + ap := by simp only [wrap64]; omega
            have hw5 : wrap64 (n1 + by1 + ap - bound) = n1 + by1 + ap - bound := by simp only [wrap64]; omega
            have hw6 : wrap64 (n2 + by1 + ap - bound) = n2 + by1 + ap - bound := by simp only [wrap64]; omega
            have c1 := hSW.st.bn.cell 1
            have c2 := hSW.st.bn.cell 2
            have cf1 := hSW.st.bn.frozen 1
            have cf2 := hSW.st.bn.frozen 2
            have x2 := hBA.cell 2
            have x3 := hBA.cell 3
            simp only [List.getElem?_toArray, List.getElem?_cons_zero, List.getElem?_cons_succ] at c1 c2 x2 x3
            clear hLo
            rcases (show p = 0 ∨ p = 1 by omega) with rfl | rfl
            · as_aux_lemma =>
                go_upto_region 26 with (fail)
                have hS2 := (hSW.clk1 (n1 + by1)).clk2 (n2 + by1)
                have hB2 := (hBA.far (p := ⟨w1.heap.size + 1 + 1, 1, none⟩) (by show wr.heap.size ≠ w1.heap.size + 1 + 1; omega) (iv (n1 + by1))).far (p := ⟨w1.heap.size + 1 + 1, 2, none⟩) (by show wr.heap.size ≠ w1.heap.size + 1 + 1; omega) (iv (n2 + by1))
                obtain ⟨W2, hW2⟩ : ∃ W2, W2 = (W0.setCell ⟨w1.heap.size + 1 + 1, 1, none⟩ (iv (n1 + by1))).setCell ⟨w1.heap.size + 1 + 1, 2, none⟩ (iv (n2 + by1)) := ⟨_, rfl⟩
                rw [← hW2] at hS2 hB2
                have e6 : (W0.setCell ⟨w1.heap.size + 1 + 1, 1, none⟩ (.int .i64 (n1 + by1))).setCell ⟨w1.heap.size + 1 + 1, 2, none⟩ (.int .i64 (n2 + by1)) = W2 := hW2.symm
                rw [e6]
                clear e6 hW2 c1 c2 cf1 cf2 x2 x3
                have c1 := hS2.st.bn.cell 1
                have c2 := hS2.st.bn.cell 2
                have cf1 := hS2.st.bn.frozen 1
                have cf2 := hS2.st.bn.frozen 2
                have x3 := hB2.cell 3
                simp only [List.getElem?_toArray, List.getElem?_cons_zero, List.getElem?_cons_succ] at c1 c2 x3
                have HS2 := Lib.hid hS2
                clear hS2 hB2 hSW hBA
                go_region
                have hS3 := (HS2.out.clk1 (n1 + by1 + ap)).drew
                obtain ⟨W3, hW3⟩ : ∃ W3, W3 = (W2.setCell ⟨w1.heap.size + 1 + 1, 1, none⟩ (iv (n1 + by1 + ap))).drew := ⟨_, rfl⟩
                rw [← hW3] at hS3
                have e7 : (W2.setCell ⟨w1.heap.size + 1 + 1, 1, none⟩ (.int .i64 (n1 + by1 + ap))).drew = W3 := hW3.symm
                rw [e7]
                clear e7 hW3 c1 c2 cf1 cf2 x3
                have c1 := hS3.st.bn.cell 1
                have c2 := hS3.st.bn.cell 2
                have cf1 := hS3.st.bn.frozen 1
                have cf2 := hS3.st.bn.frozen 2
                simp only [List.getElem?_toArray, List.getElem?_cons_zero, List.getElem?_cons_succ] at c1 c2
                have HS3 := Lib.hid hS3
                clear hS3 HS2
                go_upto_region 28 with (fail)
                go_region
                all_goals (try go_wp2_with fail)
                all_goals
                  go_meet
                  exact ⟨rfl, (lo, le, lu), k1, k2, _, _, (HS3.out.clk2 _).drew, Lib.hid (hL.out.time (by omega) (by omega) (by omega) (by omega) (by omega)), .inl rfl⟩
            · as_aux_lemma =>
                go_upto_region 26 with (fail)
                have hS2 := (hSW.clk1 (n1 + by1)).clk2 (n2 + by1)
                have hB2 := (hBA.far (p := ⟨w1.heap.size + 1 + 1, 1, none⟩) (by show wr.heap.size ≠ w1.heap.size + 1 + 1; omega) (iv (n1 + by1))).far (p := ⟨w1.heap.size + 1 + 1, 2, none⟩) (by show wr.heap.size ≠ w1.heap.size + 1 + 1; omega) (iv (n2 + by1))
                obtain ⟨W2, hW2⟩ : ∃ W2, W2 = (W0.setCell ⟨w1.heap.size + 1 + 1, 1, none⟩ (iv (n1 + by1))).setCell ⟨w1.heap.size + 1 + 1, 2, none⟩ (iv (n2 + by1)) := ⟨_, rfl⟩
                rw [← hW2] at hS2 hB2
                have e6 : (W0.setCell ⟨w1.heap.size + 1 + 1, 1, none⟩ (.int .i64 (n1 + by1))).setCell ⟨w1.heap.size + 1 + 1, 2, none⟩ (.int .i64 (n2 + by1)) = W2 := hW2.symm
                rw [e6]
                clear e6 hW2 c1 c2 cf1 cf2 x2 x3
                have c1 := hS2.st.bn.cell 1
                have c2 := hS2.st.bn.cell 2
                have cf1 := hS2.st.bn.frozen 1
                have cf2 := hS2.st.bn.frozen 2
                have x3 := hB2.cell 3
                simp only [List.getElem?_toArray, List.getElem?_cons_zero, List.getElem?_cons_succ] at c1 c2 x3
                have HS2 := Lib.hid hS2
                clear hS2 hB2 hSW hBA
                go_region
                have hS3 := (HS2.out.clk2 (n2 + by1 + ap)).drew
                obtain ⟨W3, hW3⟩ : ∃ W3, W3 = (W2.setCell ⟨w1.heap.size + 1 + 1, 2, none⟩ (iv (n2 + by1 + ap))).drew := ⟨_, rfl⟩
                rw [← hW3] at hS3
                have e7 : (W2.setCell ⟨w1.heap.size + 1 + 1, 2, none⟩ (.int .i64 (n2 + by1 + ap))).drew = W3 := hW3.symm
                rw [e7]
                clear e7 hW3 c1 c2 cf1 cf2 x3
                have c1 := hS3.st.bn.cell 1
                have c2 := hS3.st.bn.cell 2
                have cf1 := hS3.st.bn.frozen 1
                have cf2 := hS3.st.bn.frozen 2
                simp only [List.getElem?_toArray, List.getElem?_cons_zero, List.getElem?_cons_succ] at c1 c2
                have HS3 := Lib.hid hS3
                clear hS3 HS2
                go_upto_region 28 with (fail)
                go_region
                all_goals (try go_wp2_with fail)
                all_goals
                  go_meet
                  exact ⟨rfl, (lo, le, lu), k1, k2, _, _, (HS3.out.clk1 _).drew, Lib.hid (hL.out.time (by omega) (by omega) (by omega) (by omega) (by omega)), .inl rfl⟩
          · have hqf3 : (q == 3) = false := by rw [beq_eq_false_iff_ne]; exact hq3
            clear hBA
            rcases (show p = 0 ∨ p = 1 by omega) with rfl | rfl
            · have hG : ∀ W, Calls Try.prog 18 #[lv lo le lu, iv 1, iv n1, iv span, iv bound] W fun r w' => r = .returned (.tuple #[lv (grant lo le lu 1 n1 span bound).1 (grant lo le lu 1 n1 span bound).2.1 (grant lo le lu 1 n1 span bound).2.2.1, errv (grant lo le lu 1 n1 span bound).2.2.2]) ∧ Below W.heap.size W w' := fun W => Grant_any lo le lu 1 n1 span bound W
              have hL1 : (grant lo le lu 1 n1 span bound).2.2.2 = 0 → LInv bound (i + 1) ((grant lo le lu 1 n1 span bound).1, (grant lo le lu 1 n1 span bound).2.1, (grant lo le lu 1 n1 span bound).2.2.1) ((grant lo le lu 1 n1 span bound).1, (grant lo le lu 1 n1 span bound).2.1, (grant lo le lu 1 n1 span bound).2.2.1) k2 n1 n2 ∧ Turn (lo, le, lu) ((grant lo le lu 1 n1 span bound).1, (grant lo le lu 1 n1 span bound).2.1, (grant lo le lu 1 n1 span bound).2.2.1) := fun h0 => ⟨(LInv.grant1 hL.out h0 rfl).more, turn_grant hL.out.ok h0⟩
              generalize (grant lo le lu 1 n1 span bound).1 = go at *
              generalize (grant lo le lu 1 n1 span bound).2.1 = ge at *
              generalize (grant lo le lu 1 n1 span bound).2.2.1 = gu at *
              generalize (grant lo le lu 1 n1 span bound).2.2.2 = gb at *
              have HG := Lib.hid hG
              have HL1 := Lib.hid hL1
              clear hG hL1
              go_upto_region 15 with (fail)
              have hst := hSW.drew
              clear a0 a1 a2 a3 a4 a5 hSW
              go_cut [19, 20] (fun s19 s20 wx => ∃ gx : Nat, s19 = .pointer (some ⟨gx, 0, none⟩) ∧ s20 = errv gb ∧ WSt w wx w1.heap.size n (lo, le, lu) k1 k2 n1 n2 D (wr.heap.size + 1) (lo, le, lu) ∧ Blk wx gx 25 #[iv go, iv ge, iv gu] ∧ wr.heap.size + 1 < gx)
              case first =>
                refine wp_region_held_drew (S := (fun W => WSt w W w1.heap.size n (lo, le, lu) k1 k2 n1 n2 D (wr.heap.size + 1) (lo, le, lu))) (by kernel_rfl) ?_ (fun hHeld => ?_)
                · exact hst
                refine gen0 (T := fun W => ((fun W => WSt w W w1.heap.size n (lo, le, lu) k1 k2 n1 n2 D (wr.heap.size + 1) (lo, le, lu))) W ∧ True) ?_ (fun wq1 hT => ?_)
                · exact ⟨by (first | exact hst | exact hHeld.below hb9 | exact hHeld.alloc _ | exact hHeld.far3 (by omega) _ _ _), trivial⟩
                (try clear f0 f1 f2 f3 f4 f5 f6 f7 f8 f9 f10 f11)
                obtain ⟨hHeld, -⟩ := hT
                refine wpAnyH_take (i := 0) (oi := ⟨some 63, _, _, _, _, _⟩) (v := ?_) rfl (by kernel_rfl) (by kernel_rfl) (by kernel_rfl) (fun _ _ _ h => h) (Or.inl ⟨by kernel_rfl, ?_⟩) (by assumption) ?_
                rotate_left
                · (intro wS hSw; (try dsimp only at hSw); obtain ⟨a0, a1, a2, a3, a4, a5⟩ := hSw.st.bl.three; have c1 := hSw.st.bn.cell 1; have c2 := hSw.st.bn.cell 2; simp only [List.getElem?_toArray, List.getElem?_cons_zero, List.getElem?_cons_succ] at c1 c2; clear hSw; go_simp; (try with_reducible rfl))
                (try simp only [Act.put, List.setIfInBounds_toArray, List.set_cons_zero, List.set_cons_succ])
                refine wpAnyH_take (i := 1) (oi := ⟨some 64, _, _, _, _, _⟩) (v := ?_) rfl (by kernel_rfl) (by kernel_rfl) (by kernel_rfl) (fun _ _ _ h => h) (Or.inl ⟨by kernel_rfl, ?_⟩) (by assumption) ?_
                rotate_left
                · (intro wS hSw; (try dsimp only at hSw); obtain ⟨a0, a1, a2, a3, a4, a5⟩ := hSw.st.bl.three; have c1 := hSw.st.bn.cell 1; have c2 := hSw.st.bn.cell 2; simp only [List.getElem?_toArray, List.getElem?_cons_zero, List.getElem?_cons_succ] at c1 c2; clear hSw; go_simp; (try with_reducible rfl))
                (try simp only [Act.put, List.setIfInBounds_toArray, List.set_cons_zero, List.set_cons_succ])
                refine wpAnyH_take (i := 2) (oi := ⟨some 65, _, _, _, _, _⟩) (v := ?_) rfl (by kernel_rfl) (by kernel_rfl) (by kernel_rfl) (fun _ _ _ h => h) (Or.inl ⟨by kernel_rfl, ?_⟩) (by assumption) ?_
                rotate_left
                · (intro wS hSw; (try dsimp only at hSw); obtain ⟨a0, a1, a2, a3, a4, a5⟩ := hSw.st.bl.three; have c1 := hSw.st.bn.cell 1; have c2 := hSw.st.bn.cell 2; simp only [List.getElem?_toArray, List.getElem?_cons_zero, List.getElem?_cons_succ] at c1 c2; clear hSw; go_simp; (try with_reducible rfl))
                (try simp only [Act.put, List.setIfInBounds_toArray, List.set_cons_zero, List.set_cons_succ])
                refine wpAnyH_take (i := 3) (oi := ⟨some 66, _, _, _, _, _⟩) (v := ?_) rfl (by kernel_rfl) (by kernel_rfl) (by kernel_rfl) (fun _ _ _ h => h) (Or.inl ⟨by kernel_rfl, ?_⟩) (by assumption) ?_
                rotate_left
                · (intro wS hSw; (try dsimp only at hSw); obtain ⟨a0, a1, a2, a3, a4, a5⟩ := hSw.st.bl.three; have c1 := hSw.st.bn.cell 1; have c2 := hSw.st.bn.cell 2; simp only [List.getElem?_toArray, List.getElem?_cons_zero, List.getElem?_cons_succ] at c1 c2; clear hSw; go_simp; (try with_reducible rfl))
                (try simp only [Act.put, List.setIfInBounds_toArray, List.set_cons_zero, List.set_cons_succ])
                refine wpAnyH_take (i := 4) (oi := ⟨some 67, _, _, _, _, _⟩) (v := ?_) rfl (by kernel_rfl) (by kernel_rfl) (by kernel_rfl) (fun _ _ _ h => h) (Or.inl ⟨by kernel_rfl, ?_⟩) (by assumption) ?_
                rotate_left
                · (intro wS hSw; (try dsimp only at hSw); obtain ⟨a0, a1, a2, a3, a4, a5⟩ := hSw.st.bl.three; have c1 := hSw.st.bn.cell 1; have c2 := hSw.st.bn.cell 2; simp only [List.getElem?_toArray, List.getElem?_cons_zero, List.getElem?_cons_succ] at c1 c2; clear hSw; go_simp; (try with_reducible rfl))
                (try simp only [Act.put, List.setIfInBounds_toArray, List.set_cons_zero, List.set_cons_succ])
                refine wpAnyH_take (i := 5) (oi := ⟨some 68, _, _, _, _, _⟩) (v := ?_) rfl (by kernel_rfl) (by kernel_rfl) (by kernel_rfl) (fun _ _ _ h => h) (Or.inl ⟨by kernel_rfl, ?_⟩) (by assumption) ?_
                rotate_left
                · (intro wS hSw; (try dsimp only at hSw); obtain ⟨a0, a1, a2, a3, a4, a5⟩ := hSw.st.bl.three; have c1 := hSw.st.bn.cell 1; have c2 := hSw.st.bn.cell 2; simp only [List.getElem?_toArray, List.getElem?_cons_zero, List.getElem?_cons_succ] at c1 c2; clear hSw; go_simp; (try with_reducible rfl))
                (try simp only [Act.put, List.setIfInBounds_toArray, List.set_cons_zero, List.set_cons_succ])
                refine wpAnyH_take (i := 6) (oi := ⟨some 69, _, _, _, _, _⟩) (v := ?_) rfl (by kernel_rfl) (by kernel_rfl) (by kernel_rfl) (fun _ _ _ h => h) (Or.inl ⟨by kernel_rfl, ?_⟩) (by assumption) ?_
                rotate_left
                · (intro wS hSw; (try dsimp only at hSw); obtain ⟨a0, a1, a2, a3, a4, a5⟩ := hSw.st.bl.three; have c1 := hSw.st.bn.cell 1; have c2 := hSw.st.bn.cell 2; simp only [List.getElem?_toArray, List.getElem?_cons_zero, List.getElem?_cons_succ] at c1 c2; clear hSw; go_simp; (try with_reducible rfl))
                (try simp only [Act.put, List.setIfInBounds_toArray, List.set_cons_zero, List.set_cons_succ])
                refine wpAnyH_ready (rs := [7, 11]) (by kernel_rfl) (by simp) ?_
                refine AllReadyH.cons (o := ⟨some 70, _, _, _, _, _⟩) rfl (fun K hK => ?_) ?_
                · go_simp
                  (refine (HG.out _).mono ?_; rintro e w9 ⟨rfl, hb9⟩)
                  go_wp2_with fail
                  refine hK.out _ _ ?_ (fun _ => ?_)
                  · ((try dsimp only); (first | exact hst | exact hHeld.below hb9 | exact hHeld.alloc _ | exact hHeld.far3 (by omega) _ _ _))
                  clear hK K
                  (try simp only [Act.put, List.setIfInBounds_toArray, List.set_cons_zero, List.set_cons_succ])
                  refine gen0 (T := fun W => ((fun W => WSt w W w1.heap.size n (lo, le, lu) k1 k2 n1 n2 D (wr.heap.size + 1) (lo, le, lu))) W ∧ True) ?_ (fun wq2 hT => ?_)
                  · exact ⟨by (first | exact hst | exact hHeld.below hb9 | exact hHeld.alloc _ | exact hHeld.far3 (by omega) _ _ _), trivial⟩
                  (try clear f0 f1 f2 f3 f4 f5 f6 f7 f8 f9 f10 f11)
                  obtain ⟨hHeld, -⟩ := hT
                  refine wpAnyH_take (i := 8) (oi := ⟨some 62, _, _, _, _, _⟩) (v := ?_) rfl (by kernel_rfl) (by kernel_rfl) (by kernel_rfl) (fun _ _ _ h => h) (Or.inl ⟨by kernel_rfl, ?_⟩) (by assumption) ?_
                  rotate_left
                  · (intro wS hSw; (try dsimp only at hSw); obtain ⟨a0, a1, a2, a3, a4, a5⟩ := hSw.st.bl.three; have c1 := hSw.st.bn.cell 1; have c2 := hSw.st.bn.cell 2; simp only [List.getElem?_toArray, List.getElem?_cons_zero, List.getElem?_cons_succ] at c1 c2; clear hSw; go_simp; (try with_reducible rfl))
                  (try simp only [Act.put, List.setIfInBounds_toArray, List.set_cons_zero, List.set_cons_succ])
                  refine wpAnyH_take (i := 9) (oi := ⟨some 71, _, _, _, _, _⟩) (v := ?_) rfl (by kernel_rfl) (by kernel_rfl) (by kernel_rfl) (fun _ _ _ h => h) (Or.inl ⟨by kernel_rfl, ?_⟩) (by assumption) ?_
                  rotate_left
                  · (intro wS hSw; (try dsimp only at hSw); obtain ⟨a0, a1, a2, a3, a4, a5⟩ := hSw.st.bl.three; have c1 := hSw.st.bn.cell 1; have c2 := hSw.st.bn.cell 2; simp only [List.getElem?_toArray, List.getElem?_cons_zero, List.getElem?_cons_succ] at c1 c2; clear hSw; go_simp; (try with_reducible rfl))
                  (try simp only [Act.put, List.setIfInBounds_toArray, List.set_cons_zero, List.set_cons_succ])
                  refine wpAnyH_take (i := 10) (oi := ⟨some 72, _, _, _, _, _⟩) (v := ?_) rfl (by kernel_rfl) (by kernel_rfl) (by kernel_rfl) (fun _ _ _ h => h) (Or.inl ⟨by kernel_rfl, ?_⟩) (by assumption) ?_
                  rotate_left
                  · (intro wS hSw; (try dsimp only at hSw); obtain ⟨a0, a1, a2, a3, a4, a5⟩ := hSw.st.bl.three; have c1 := hSw.st.bn.cell 1; have c2 := hSw.st.bn.cell 2; simp only [List.getElem?_toArray, List.getElem?_cons_zero, List.getElem?_cons_succ] at c1 c2; clear hSw; go_simp; (try with_reducible rfl))
                  (try simp only [Act.put, List.setIfInBounds_toArray, List.set_cons_zero, List.set_cons_succ])
                  refine wpAnyH_ready (rs := [11]) (by kernel_rfl) (by simp) ?_
                  refine AllReadyH.cons (o := ⟨some 19, _, _, _, _, _⟩) rfl (fun K hK => ?_) AllReadyH.nil
                  go_simp
                  refine hK.out _ _ ?_ (fun _ => ?_)
                  · ((try dsimp only); (first | exact hst | exact hHeld.below hb9 | exact hHeld.alloc _ | exact hHeld.far3 (by omega) _ _ _))
                  clear hK K
                  (try simp only [Act.put, List.setIfInBounds_toArray, List.set_cons_zero, List.set_cons_succ])
                  refine gen0 (T := fun W => ((fun W => WSt w W w1.heap.size n (lo, le, lu) k1 k2 n1 n2 D (wr.heap.size + 1) (lo, le, lu))) W ∧ Blk W wq2.heap.size 25 #[iv 0, iv 0, iv 0] ∧ wq2.heap.size < W.heap.size ∧ wr.heap.size + 1 < wq2.heap.size ∧ True) ?_ (fun wq3 hT => ?_)
                  · exact ⟨by (first | exact hst | exact hHeld.below hb9 | exact hHeld.alloc _ | exact hHeld.far3 (by omega) _ _ _), by (first | assumption | exact Blk.new _ _ _ | exact f0.set3 _ _ _ | exact f0.below hb9 | exact Nat.lt_of_lt_of_le f1 hb9.size | (have := hHeld.bw.lt; simp [World.setCell] <;> omega) | omega), by (first | assumption | exact Blk.new _ _ _ | exact f0.set3 _ _ _ | exact f0.below hb9 | exact Nat.lt_of_lt_of_le f1 hb9.size | (have := hHeld.bw.lt; simp [World.setCell] <;> omega) | omega), by (first | assumption | exact Blk.new _ _ _ | exact f0.set3 _ _ _ | exact f0.below hb9 | exact Nat.lt_of_lt_of_le f1 hb9.size | (have := hHeld.bw.lt; simp [World.setCell] <;> omega) | omega), trivial⟩
                  (try clear f0 f1 f2 f3 f4 f5 f6 f7 f8 f9 f10 f11)
                  obtain ⟨hHeld, f0, f1, f2, -⟩ := hT
                  refine wpAnyH_ready (rs := [12]) (by kernel_rfl) (by simp) ?_
                  refine AllReadyH.cons (o := ⟨none, _, _, _, _, _⟩) rfl (fun K hK => ?_) AllReadyH.nil
                  obtain ⟨s0, s1, s2, s3, s4, s5⟩ := f0.three
                  go_simp
                  refine hK.out _ _ ?_ (fun _ => ?_)
                  · ((try dsimp only); (first | exact hst | exact hHeld.below hb9 | exact hHeld.alloc _ | exact hHeld.far3 (by omega) _ _ _))
                  clear hK K
                  (try simp only [Act.put, List.setIfInBounds_toArray, List.set_cons_zero, List.set_cons_succ])
                  refine gen0 (T := fun W => ((fun W => WSt w W w1.heap.size n (lo, le, lu) k1 k2 n1 n2 D (wr.heap.size + 1) (lo, le, lu))) W ∧ Blk W wq2.heap.size 25 #[iv go, iv ge, iv gu] ∧ wq2.heap.size < W.heap.size ∧ wr.heap.size + 1 < wq2.heap.size ∧ True) ?_ (fun wq4 hT => ?_)
                  · exact ⟨by (first | exact hst | exact hHeld.below hb9 | exact hHeld.alloc _ | exact hHeld.far3 (by omega) _ _ _), by (first | assumption | exact Blk.new _ _ _ | exact f0.set3 _ _ _ | exact f0.below hb9 | exact Nat.lt_of_lt_of_le f1 hb9.size | (have := hHeld.bw.lt; simp [World.setCell] <;> omega) | omega), by (first | assumption | exact Blk.new _ _ _ | exact f0.set3 _ _ _ | exact f0.below hb9 | exact Nat.lt_of_lt_of_le f1 hb9.size | (have := hHeld.bw.lt; simp [World.setCell] <;> omega) | omega), by (first | assumption | exact Blk.new _ _ _ | exact f0.set3 _ _ _ | exact f0.below hb9 | exact Nat.lt_of_lt_of_le f1 hb9.size | (have := hHeld.bw.lt; simp [World.setCell] <;> omega) | omega), trivial⟩
                  (try clear f0 f1 f2 f3 f4 f5 f6 f7 f8 f9 f10 f11)
                  obtain ⟨hHeld, f0, f1, f2, -⟩ := hT
                  refine wpAnyH_take (i := 13) (oi := ⟨some 20, _, _, _, _, _⟩) (v := ?_) rfl (by kernel_rfl) (by kernel_rfl) (by kernel_rfl) (fun _ _ _ h => h) (Or.inl ⟨by kernel_rfl, ?_⟩) (by assumption) ?_
                  rotate_left
                  · (intro wS hSw; (try dsimp only at hSw); obtain ⟨a0, a1, a2, a3, a4, a5⟩ := hSw.st.bl.three; have c1 := hSw.st.bn.cell 1; have c2 := hSw.st.bn.cell 2; simp only [List.getElem?_toArray, List.getElem?_cons_zero, List.getElem?_cons_succ] at c1 c2; clear hSw; go_simp; (try with_reducible rfl))
                  (try simp only [Act.put, List.setIfInBounds_toArray, List.set_cons_zero, List.set_cons_succ])
                  refine wpAnyH_done (by kernel_rfl) ?_ _
                  (go_wp2_with fail; go_meet; exact ⟨_, rfl, rfl, hHeld, f0, f2⟩)
                refine AllReadyH.cons (o := ⟨some 19, _, _, _, _, _⟩) rfl (fun K hK => ?_) ?_
                · go_simp
                  refine hK.out _ _ ?_ (fun _ => ?_)
                  · ((try dsimp only); (first | exact hst | exact hHeld.below hb9 | exact hHeld.alloc _ | exact hHeld.far3 (by omega) _ _ _))
                  clear hK K
                  (try simp only [Act.put, List.setIfInBounds_toArray, List.set_cons_zero, List.set_cons_succ])
                  refine gen0 (T := fun W => ((fun W => WSt w W w1.heap.size n (lo, le, lu) k1 k2 n1 n2 D (wr.heap.size + 1) (lo, le, lu))) W ∧ Blk W wq1.heap.size 25 #[iv 0, iv 0, iv 0] ∧ wq1.heap.size < W.heap.size ∧ wr.heap.size + 1 < wq1.heap.size ∧ True) ?_ (fun wq5 hT => ?_)
                  · exact ⟨by (first | exact hst | exact hHeld.below hb9 | exact hHeld.alloc _ | exact hHeld.far3 (by omega) _ _ _), by (first | assumption | exact Blk.new _ _ _ | exact f0.set3 _ _ _ | exact f0.below hb9 | exact Nat.lt_of_lt_of_le f1 hb9.size | (have := hHeld.bw.lt; simp [World.setCell] <;> omega) | omega), by (first | assumption | exact Blk.new _ _ _ | exact f0.set3 _ _ _ | exact f0.below hb9 | exact Nat.lt_of_lt_of_le f1 hb9.size | (have := hHeld.bw.lt; simp [World.setCell] <;> omega) | omega), by (first | assumption | exact Blk.new _ _ _ | exact f0.set3 _ _ _ | exact f0.below hb9 | exact Nat.lt_of_lt_of_le f1 hb9.size | (have := hHeld.bw.lt; simp [World.setCell] <;> omega) | omega), trivial⟩
                  (try clear f0 f1 f2 f3 f4 f5 f6 f7 f8 f9 f10 f11)
                  obtain ⟨hHeld, f0, f1, f2, -⟩ := hT
                  refine wpAnyH_ready (rs := [7]) (by kernel_rfl) (by simp) ?_
                  refine AllReadyH.cons (o := ⟨some 70, _, _, _, _, _⟩) rfl (fun K hK => ?_) AllReadyH.nil
                  go_simp
                  (refine (HG.out _).mono ?_; rintro e w9 ⟨rfl, hb9⟩)
                  go_wp2_with fail
                  refine hK.out _ _ ?_ (fun _ => ?_)
                  · ((try dsimp only); (first | exact hst | exact hHeld.below hb9 | exact hHeld.alloc _ | exact hHeld.far3 (by omega) _ _ _))
                  clear hK K
                  (try simp only [Act.put, List.setIfInBounds_toArray, List.set_cons_zero, List.set_cons_succ])
                  refine gen0 (T := fun W => ((fun W => WSt w W w1.heap.size n (lo, le, lu) k1 k2 n1 n2 D (wr.heap.size + 1) (lo, le, lu))) W ∧ Blk W wq1.heap.size 25 #[iv 0, iv 0, iv 0] ∧ wq1.heap.size < W.heap.size ∧ wr.heap.size + 1 < wq1.heap.size ∧ True) ?_ (fun wq6 hT => ?_)
                  · exact ⟨by (first | exact hst | exact hHeld.below hb9 | exact hHeld.alloc _ | exact hHeld.far3 (by omega) _ _ _), by (first | assumption | exact Blk.new _ _ _ | exact f0.set3 _ _ _ | exact f0.below hb9 | exact Nat.lt_of_lt_of_le f1 hb9.size | (have := hHeld.bw.lt; simp [World.setCell] <;> omega) | omega), by (first | assumption | exact Blk.new _ _ _ | exact f0.set3 _ _ _ | exact f0.below hb9 | exact Nat.lt_of_lt_of_le f1 hb9.size | (have := hHeld.bw.lt; simp [World.setCell] <;> omega) | omega), by (first | assumption | exact Blk.new _ _ _ | exact f0.set3 _ _ _ | exact f0.below hb9 | exact Nat.lt_of_lt_of_le f1 hb9.size | (have := hHeld.bw.lt; simp [World.setCell] <;> omega) | omega), trivial⟩
                  (try clear f0 f1 f2 f3 f4 f5 f6 f7 f8 f9 f10 f11)
                  obtain ⟨hHeld, f0, f1, f2, -⟩ := hT
                  refine wpAnyH_take (i := 8) (oi := ⟨some 62, _, _, _, _, _⟩) (v := ?_) rfl (by kernel_rfl) (by kernel_rfl) (by kernel_rfl) (fun _ _ _ h => h) (Or.inl ⟨by kernel_rfl, ?_⟩) (by assumption) ?_
                  rotate_left
                  · (intro wS hSw; (try dsimp only at hSw); obtain ⟨a0, a1, a2, a3, a4, a5⟩ := hSw.st.bl.three; have c1 := hSw.st.bn.cell 1; have c2 := hSw.st.bn.cell 2; simp only [List.getElem?_toArray, List.getElem?_cons_zero, List.getElem?_cons_succ] at c1 c2; clear hSw; go_simp; (try with_reducible rfl))
                  (try simp only [Act.put, List.setIfInBounds_toArray, List.set_cons_zero, List.set_cons_succ])
                  refine wpAnyH_take (i := 9) (oi := ⟨some 71, _, _, _, _, _⟩) (v := ?_) rfl (by kernel_rfl) (by kernel_rfl) (by kernel_rfl) (fun _ _ _ h => h) (Or.inl ⟨by kernel_rfl, ?_⟩) (by assumption) ?_
                  rotate_left
                  · (intro wS hSw; (try dsimp only at hSw); obtain ⟨a0, a1, a2, a3, a4, a5⟩ := hSw.st.bl.three; have c1 := hSw.st.bn.cell 1; have c2 := hSw.st.bn.cell 2; simp only [List.getElem?_toArray, List.getElem?_cons_zero, List.getElem?_cons_succ] at c1 c2; clear hSw; go_simp; (try with_reducible rfl))
                  (try simp only [Act.put, List.setIfInBounds_toArray, List.set_cons_zero, List.set_cons_succ])
                  refine wpAnyH_take (i := 10) (oi := ⟨some 72, _, _, _, _, _⟩) (v := ?_) rfl (by kernel_rfl) (by kernel_rfl) (by kernel_rfl) (fun _ _ _ h => h) (Or.inl ⟨by kernel_rfl, ?_⟩) (by assumption) ?_
                  rotate_left
                  · (intro wS hSw; (try dsimp only at hSw); obtain ⟨a0, a1, a2, a3, a4, a5⟩ := hSw.st.bl.three; have c1 := hSw.st.bn.cell 1; have c2 := hSw.st.bn.cell 2; simp only [List.getElem?_toArray, List.getElem?_cons_zero, List.getElem?_cons_succ] at c1 c2; clear hSw; go_simp; (try with_reducible rfl))
                  (try simp only [Act.put, List.setIfInBounds_toArray, List.set_cons_zero, List.set_cons_succ])
                  refine wpAnyH_ready (rs := [12]) (by kernel_rfl) (by simp) ?_
                  refine AllReadyH.cons (o := ⟨none, _, _, _, _, _⟩) rfl (fun K hK => ?_) AllReadyH.nil
                  obtain ⟨s0, s1, s2, s3, s4, s5⟩ := f0.three
                  go_simp
                  refine hK.out _ _ ?_ (fun _ => ?_)
                  · ((try dsimp only); (first | exact hst | exact hHeld.below hb9 | exact hHeld.alloc _ | exact hHeld.far3 (by omega) _ _ _))
                  clear hK K
                  (try simp only [Act.put, List.setIfInBounds_toArray, List.set_cons_zero, List.set_cons_succ])
                  refine gen0 (T := fun W => ((fun W => WSt w W w1.heap.size n (lo, le, lu) k1 k2 n1 n2 D (wr.heap.size + 1) (lo, le, lu))) W ∧ Blk W wq1.heap.size 25 #[iv go, iv ge, iv gu] ∧ wq1.heap.size < W.heap.size ∧ wr.heap.size + 1 < wq1.heap.size ∧ True) ?_ (fun wq7 hT => ?_)
                  · exact ⟨by (first | exact hst | exact hHeld.below hb9 | exact hHeld.alloc _ | exact hHeld.far3 (by omega) _ _ _), by (first | assumption | exact Blk.new _ _ _ | exact f0.set3 _ _ _ | exact f0.below hb9 | exact Nat.lt_of_lt_of_le f1 hb9.size | (have := hHeld.bw.lt; simp [World.setCell] <;> omega) | omega), by (first | assumption | exact Blk.new _ _ _ | exact f0.set3 _ _ _ | exact f0.below hb9 | exact Nat.lt_of_lt_of_le f1 hb9.size | (have := hHeld.bw.lt; simp [World.setCell] <;> omega) | omega), by (first | assumption | exact Blk.new _ _ _ | exact f0.set3 _ _ _ | exact f0.below hb9 | exact Nat.lt_of_lt_of_le f1 hb9.size | (have := hHeld.bw.lt; simp [World.setCell] <;> omega) | omega), trivial⟩
                  (try clear f0 f1 f2 f3 f4 f5 f6 f7 f8 f9 f10 f11)
                  obtain ⟨hHeld, f0, f1, f2, -⟩ := hT
                  refine wpAnyH_take (i := 13) (oi := ⟨some 20, _, _, _, _, _⟩) (v := ?_) rfl (by kernel_rfl) (by kernel_rfl) (by kernel_rfl) (fun _ _ _ h => h) (Or.inl ⟨by kernel_rfl, ?_⟩) (by assumption) ?_
                  rotate_left
                  · (intro wS hSw; (try dsimp only at hSw); obtain ⟨a0, a1, a2, a3, a4, a5⟩ := hSw.st.bl.three; have c1 := hSw.st.bn.cell 1; have c2 := hSw.st.bn.cell 2; simp only [List.getElem?_toArray, List.getElem?_cons_zero, List.getElem?_cons_succ] at c1 c2; clear hSw; go_simp; (try with_reducible rfl))
                  (try simp only [Act.put, List.setIfInBounds_toArray, List.set_cons_zero, List.set_cons_succ])
                  refine wpAnyH_done (by kernel_rfl) ?_ _
                  (go_wp2_with fail; go_meet; exact ⟨_, rfl, rfl, hHeld, f0, f2⟩)
                exact AllReadyH.nil
              case rest =>
                obtain ⟨gx, rfl, rfl, hHt, hY, hgx⟩ := hcut
                clear hst HG
                rcases errv_cases gb with ⟨h0, hev⟩ | ⟨k, hk, hke, hev⟩
                · have hL' := Lib.hid (HL1.out h0).1
                  have hT := (HL1.out h0).2
                  rw [hev]
                  clear hev h0 HL1
                  go_upto_region 17 with (fail)
                  have hHs := hHt.st
                  have hbl := hHs.bl
                  have hbk := hHs.bk
                  obtain ⟨y0, y1, y2, y3, y4, y5⟩ := hY.three
                  obtain ⟨a0, a1, a2, a3, a4, a5⟩ := hbl.three
                  have m0 := hbk.cell 3
                  have m1 := hbk.cell 4
                  have m2 := hbk.cell 5
                  have d0 := hbk.frozen 3
                  have d1 := hbk.frozen 4
                  have d2 := hbk.frozen 5
                  simp only [List.getElem?_toArray, List.getElem?_cons_zero, List.getElem?_cons_succ] at m0 m1 m2
                  have HS7 := Lib.hid hHt
                  clear hHt hHs hbl hbk hY
                  go_region
                  all_goals
                    (try go_wp2_with fail)
                    go_meet
                    exact ⟨rfl, (go, ge, gu), (go, ge, gu), k2, n1, n2, (by first | exact ((HS7.out.own (go, ge, gu)).mem1 (go, ge, gu)).drew | exact ((HS7.out.mem1 (go, ge, gu)).own (go, ge, gu)).drew), hL', hT⟩
                · rw [hev]
                  clear hev hk hke HL1
                  go_wp2_with fail
                  go_meet
                  exact ⟨rfl, (lo, le, lu), k1, k2, n1, n2, hHt, hL.out.more, .inl rfl⟩
            · have hG : ∀ W, Calls Try.prog 18 #[lv lo le lu, iv 2, iv n2, iv span, iv bound] W fun r w' => r = .returned (.tuple #[lv (grant lo le lu 2 n2 span bound).1 (grant lo le lu 2 n2 span bound).2.1 (grant lo le lu 2 n2 span bound).2.2.1, errv (grant lo le lu 2 n2 span bound).2.2.2]) ∧ Below W.heap.size W w' := fun W => Grant_any lo le lu 2 n2 span bound W
              have hL1 : (grant lo le lu 2 n2 span bound).2.2.2 = 0 → LInv bound (i + 1) ((grant lo le lu 2 n2 span bound).1, (grant lo le lu 2 n2 span bound).2.1, (grant lo le lu 2 n2 span bound).2.2.1) k1 ((grant lo le lu 2 n2 span bound).1, (grant lo le lu 2 n2 span bound).2.1, (grant lo le lu 2 n2 span bound).2.2.1) n1 n2 ∧ Turn (lo, le, lu) ((grant lo le lu 2 n2 span bound).1, (grant lo le lu 2 n2 span bound).2.1, (grant lo le lu 2 n2 span bound).2.2.1) := fun h0 => ⟨(LInv.grant2 hL.out h0 rfl).more, turn_grant hL.out.ok h0⟩
              generalize (grant lo le lu 2 n2 span bound).1 = go at *
              generalize (grant lo le lu 2 n2 span bound).2.1 = ge at *
              generalize (grant lo le lu 2 n2 span bound).2.2.1 = gu at *
              generalize (grant lo le lu 2 n2 span bound).2.2.2 = gb at *
              have HG := Lib.hid hG
              have HL1 := Lib.hid hL1
              clear hG hL1
              go_upto_region 15 with (fail)
              have hst := hSW.drew
              clear a0 a1 a2 a3 a4 a5 hSW
              go_cut [19, 20] (fun s19 s20 wx => ∃ gx : Nat, s19 = .pointer (some ⟨gx, 0, none⟩) ∧ s20 = errv gb ∧ WSt w wx w1.heap.size n (lo, le, lu) k1 k2 n1 n2 D (wr.heap.size + 1) (lo, le, lu) ∧ Blk wx gx 25 #[iv go, iv ge, iv gu] ∧ wr.heap.size + 1 < gx)
              case first =>
                refine wp_region_held_drew (S := (fun W => WSt w W w1.heap.size n (lo, le, lu) k1 k2 n1 n2 D (wr.heap.size + 1) (lo, le, lu))) (by kernel_rfl) ?_ (fun hHeld => ?_)
                · exact hst
                refine gen0 (T := fun W => ((fun W => WSt w W w1.heap.size n (lo, le, lu) k1 k2 n1 n2 D (wr.heap.size + 1) (lo, le, lu))) W ∧ True) ?_ (fun wq1 hT => ?_)
                · exact ⟨by (first | exact hst | exact hHeld.below hb9 | exact hHeld.alloc _ | exact hHeld.far3 (by omega) _ _ _), trivial⟩
                (try clear f0 f1 f2 f3 f4 f5 f6 f7 f8 f9 f10 f11)
                obtain ⟨hHeld, -⟩ := hT
                refine wpAnyH_take (i := 0) (oi := ⟨some 63, _, _, _, _, _⟩) (v := ?_) rfl (by kernel_rfl) (by kernel_rfl) (by kernel_rfl) (fun _ _ _ h => h) (Or.inl ⟨by kernel_rfl, ?_⟩) (by assumption) ?_
                rotate_left
                · (intro wS hSw; (try dsimp only at hSw); obtain ⟨a0, a1, a2, a3, a4, a5⟩ := hSw.st.bl.three; have c1 := hSw.st.bn.cell 1; have c2 := hSw.st.bn.cell 2; simp only [List.getElem?_toArray, List.getElem?_cons_zero, List.getElem?_cons_succ] at c1 c2; clear hSw; go_simp; (try with_reducible rfl))
                (try simp only [Act.put, List.setIfInBounds_toArray, List.set_cons_zero, List.set_cons_succ])
                refine wpAnyH_take (i := 1) (oi := ⟨some 64, _, _, _, _, _⟩) (v := ?_) rfl (by kernel_rfl) (by kernel_rfl) (by kernel_rfl) (fun _ _ _ h => h) (Or.inl ⟨by kernel_rfl, ?_⟩) (by assumption) ?_
                rotate_left
                · (intro wS hSw; (try dsimp only at hSw); obtain ⟨a0, a1, a2, a3, a4, a5⟩ := hSw.st.bl.three; have c1 := hSw.st.bn.cell 1; have c2 := hSw.st.bn.cell 2; simp only [List.getElem?_toArray, List.getElem?_cons_zero, List.getElem?_cons_succ] at c1 c2; clear hSw; go_simp; (try with_reducible rfl))
                (try simp only [Act.put, List.setIfInBounds_toArray, List.set_cons_zero, List.set_cons_succ])
                refine wpAnyH_take (i := 2) (oi := ⟨some 65, _, _, _, _, _⟩) (v := ?_) rfl (by kernel_rfl) (by kernel_rfl) (by kernel_rfl) (fun _ _ _ h => h) (Or.inl ⟨by kernel_rfl, ?_⟩) (by assumption) ?_
                rotate_left
                · (intro wS hSw; (try dsimp only at hSw); obtain ⟨a0, a1, a2, a3, a4, a5⟩ := hSw.st.bl.three; have c1 := hSw.st.bn.cell 1; have c2 := hSw.st.bn.cell 2; simp only [List.getElem?_toArray, List.getElem?_cons_zero, List.getElem?_cons_succ] at c1 c2; clear hSw; go_simp; (try with_reducible rfl))
                (try simp only [Act.put, List.setIfInBounds_toArray, List.set_cons_zero, List.set_cons_succ])
                refine wpAnyH_take (i := 3) (oi := ⟨some 66, _, _, _, _, _⟩) (v := ?_) rfl (by kernel_rfl) (by kernel_rfl) (by kernel_rfl) (fun _ _ _ h => h) (Or.inl ⟨by kernel_rfl, ?_⟩) (by assumption) ?_
                rotate_left
                · (intro wS hSw; (try dsimp only at hSw); obtain ⟨a0, a1, a2, a3, a4, a5⟩ := hSw.st.bl.three; have c1 := hSw.st.bn.cell 1; have c2 := hSw.st.bn.cell 2; simp only [List.getElem?_toArray, List.getElem?_cons_zero, List.getElem?_cons_succ] at c1 c2; clear hSw; go_simp; (try with_reducible rfl))
                (try simp only [Act.put, List.setIfInBounds_toArray, List.set_cons_zero, List.set_cons_succ])
                refine wpAnyH_take (i := 4) (oi := ⟨some 67, _, _, _, _, _⟩) (v := ?_) rfl (by kernel_rfl) (by kernel_rfl) (by kernel_rfl) (fun _ _ _ h => h) (Or.inl ⟨by kernel_rfl, ?_⟩) (by assumption) ?_
                rotate_left
                · (intro wS hSw; (try dsimp only at hSw); obtain ⟨a0, a1, a2, a3, a4, a5⟩ := hSw.st.bl.three; have c1 := hSw.st.bn.cell 1; have c2 := hSw.st.bn.cell 2; simp only [List.getElem?_toArray, List.getElem?_cons_zero, List.getElem?_cons_succ] at c1 c2; clear hSw; go_simp; (try with_reducible rfl))
                (try simp only [Act.put, List.setIfInBounds_toArray, List.set_cons_zero, List.set_cons_succ])
                refine wpAnyH_take (i := 5) (oi := ⟨some 68, _, _, _, _, _⟩) (v := ?_) rfl (by kernel_rfl) (by kernel_rfl) (by kernel_rfl) (fun _ _ _ h => h) (Or.inl ⟨by kernel_rfl, ?_⟩) (by assumption) ?_
                rotate_left
                · (intro wS hSw; (try dsimp only at hSw); obtain ⟨a0, a1, a2, a3, a4, a5⟩ := hSw.st.bl.three; have c1 := hSw.st.bn.cell 1; have c2 := hSw.st.bn.cell 2; simp only [List.getElem?_toArray, List.getElem?_cons_zero, List.getElem?_cons_succ] at c1 c2; clear hSw; go_simp; (try with_reducible rfl))
                (try simp only [Act.put, List.setIfInBounds_toArray, List.set_cons_zero, List.set_cons_succ])
                refine wpAnyH_take (i := 6) (oi := ⟨some 69, _, _, _, _, _⟩) (v := ?_) rfl (by kernel_rfl) (by kernel_rfl) (by kernel_rfl) (fun _ _ _ h => h) (Or.inl ⟨by kernel_rfl, ?_⟩) (by assumption) ?_
                rotate_left
                · (intro wS hSw; (try dsimp only at hSw); obtain ⟨a0, a1, a2, a3, a4, a5⟩ := hSw.st.bl.three; have c1 := hSw.st.bn.cell 1; have c2 := hSw.st.bn.cell 2; simp only [List.getElem?_toArray, List.getElem?_cons_zero, List.getElem?_cons_succ] at c1 c2; clear hSw; go_simp; (try with_reducible rfl))
                (try simp only [Act.put, List.setIfInBounds_toArray, List.set_cons_zero, List.set_cons_succ])
                refine wpAnyH_ready (rs := [7, 11]) (by kernel_rfl) (by simp) ?_
                refine AllReadyH.cons (o := ⟨some 70, _, _, _, _, _⟩) rfl (fun K hK => ?_) ?_
                · go_simp
                  (refine (HG.out _).mono ?_; rintro e w9 ⟨rfl, hb9⟩)
                  go_wp2_with fail
                  refine hK.out _ _ ?_ (fun _ => ?_)
                  · ((try dsimp only); (first | exact hst | exact hHeld.below hb9 | exact hHeld.alloc _ | exact hHeld.far3 (by omega) _ _ _))
                  clear hK K
                  (try simp only [Act.put, List.setIfInBounds_toArray, List.set_cons_zero, List.set_cons_succ])
                  refine gen0 (T := fun W => ((fun W => WSt w W w1.heap.size n (lo, le, lu) k1 k2 n1 n2 D (wr.heap.size + 1) (lo, le, lu))) W ∧ True) ?_ (fun wq2 hT => ?_)
                  · exact ⟨by (first | exact hst | exact hHeld.below hb9 | exact hHeld.alloc _ | exact hHeld.far3 (by omega) _ _ _), trivial⟩
                  (try clear f0 f1 f2 f3 f4 f5 f6 f7 f8 f9 f10 f11)
                  obtain ⟨hHeld, -⟩ := hT
                  refine wpAnyH_take (i := 8) (oi := ⟨some 62, _, _, _, _, _⟩) (v := ?_) rfl (by kernel_rfl) (by kernel_rfl) (by kernel_rfl) (fun _ _ _ h => h) (Or.inl ⟨by kernel_rfl, ?_⟩) (by assumption) ?_
                  rotate_left
                  · (intro wS hSw; (try dsimp only at hSw); obtain ⟨a0, a1, a2, a3, a4, a5⟩ := hSw.st.bl.three; have c1 := hSw.st.bn.cell 1; have c2 := hSw.st.bn.cell 2; simp only [List.getElem?_toArray, List.getElem?_cons_zero, List.getElem?_cons_succ] at c1 c2; clear hSw; go_simp; (try with_reducible rfl))
                  (try simp only [Act.put, List.setIfInBounds_toArray, List.set_cons_zero, List.set_cons_succ])
                  refine wpAnyH_take (i := 9) (oi := ⟨some 71, _, _, _, _, _⟩) (v := ?_) rfl (by kernel_rfl) (by kernel_rfl) (by kernel_rfl) (fun _ _ _ h => h) (Or.inl ⟨by kernel_rfl, ?_⟩) (by assumption) ?_
                  rotate_left
                  · (intro wS hSw; (try dsimp only at hSw); obtain ⟨a0, a1, a2, a3, a4, a5⟩ := hSw.st.bl.three; have c1 := hSw.st.bn.cell 1; have c2 := hSw.st.bn.cell 2; simp only [List.getElem?_toArray, List.getElem?_cons_zero, List.getElem?_cons_succ] at c1 c2; clear hSw; go_simp; (try with_reducible rfl))
                  (try simp only [Act.put, List.setIfInBounds_toArray, List.set_cons_zero, List.set_cons_succ])
                  refine wpAnyH_take (i := 10) (oi := ⟨some 72, _, _, _, _, _⟩) (v := ?_) rfl (by kernel_rfl) (by kernel_rfl) (by kernel_rfl) (fun _ _ _ h => h) (Or.inl ⟨by kernel_rfl, ?_⟩) (by assumption) ?_
                  rotate_left
                  · (intro wS hSw; (try dsimp only at hSw); obtain ⟨a0, a1, a2, a3, a4, a5⟩ := hSw.st.bl.three; have c1 := hSw.st.bn.cell 1; have c2 := hSw.st.bn.cell 2; simp only [List.getElem?_toArray, List.getElem?_cons_zero, List.getElem?_cons_succ] at c1 c2; clear hSw; go_simp; (try with_reducible rfl))
                  (try simp only [Act.put, List.setIfInBounds_toArray, List.set_cons_zero, List.set_cons_succ])
                  refine wpAnyH_ready (rs := [11]) (by kernel_rfl) (by simp) ?_
                  refine AllReadyH.cons (o := ⟨some 19, _, _, _, _, _⟩) rfl (fun K hK => ?_) AllReadyH.nil
                  go_simp
                  refine hK.out _ _ ?_ (fun _ => ?_)
                  · ((try dsimp only); (first | exact hst | exact hHeld.below hb9 | exact hHeld.alloc _ | exact hHeld.far3 (by omega) _ _ _))
                  clear hK K
                  (try simp only [Act.put, List.setIfInBounds_toArray, List.set_cons_zero, List.set_cons_succ])
                  refine gen0 (T := fun W => ((fun W => WSt w W w1.heap.size n (lo, le, lu) k1 k2 n1 n2 D (wr.heap.size + 1) (lo, le, lu))) W ∧ Blk W wq2.heap.size 25 #[iv 0, iv 0, iv 0] ∧ wq2.heap.size < W.heap.size ∧ wr.heap.size + 1 < wq2.heap.size ∧ True) ?_ (fun wq3 hT => ?_)
                  · exact ⟨by (first | exact hst | exact hHeld.below hb9 | exact hHeld.alloc _ | exact hHeld.far3 (by omega) _ _ _), by (first | assumption | exact Blk.new _ _ _ | exact f0.set3 _ _ _ | exact f0.below hb9 | exact Nat.lt_of_lt_of_le f1 hb9.size | (have := hHeld.bw.lt; simp [World.setCell] <;> omega) | omega), by (first | assumption | exact Blk.new _ _ _ | exact f0.set3 _ _ _ | exact f0.below hb9 | exact Nat.lt_of_lt_of_le f1 hb9.size | (have := hHeld.bw.lt; simp [World.setCell] <;> omega) | omega), by (first | assumption | exact Blk.new _ _ _ | exact f0.set3 _ _ _ | exact f0.below hb9 | exact Nat.lt_of_lt_of_le f1 hb9.size | (have := hHeld.bw.lt; simp [World.setCell] <;> omega) | omega), trivial⟩
                  (try clear f0 f1 f2 f3 f4 f5 f6 f7 f8 f9 f10 f11)
                  obtain ⟨hHeld, f0, f1, f2, -⟩ := hT
                  refine wpAnyH_ready (rs := [12]) (by kernel_rfl) (by simp) ?_
                  refine AllReadyH.cons (o := ⟨none, _, _, _, _, _⟩) rfl (fun K hK => ?_) AllReadyH.nil
                  obtain ⟨s0, s1, s2, s3, s4, s5⟩ := f0.three
                  go_simp
                  refine hK.out _ _ ?_ (fun _ => ?_)
                  · ((try dsimp only); (first | exact hst | exact hHeld.below hb9 | exact hHeld.alloc _ | exact hHeld.far3 (by omega) _ _ _))
                  clear hK K
                  (try simp only [Act.put, List.setIfInBounds_toArray, List.set_cons_zero, List.set_cons_succ])
                  refine gen0 (T := fun W => ((fun W => WSt w W w1.heap.size n (lo, le, lu) k1 k2 n1 n2 D (wr.heap.size + 1) (lo, le, lu))) W ∧ Blk W wq2.heap.size 25 #[iv go, iv ge, iv gu] ∧ wq2.heap.size < W.heap.size ∧ wr.heap.size + 1 < wq2.heap.size ∧ True) ?_ (fun wq4 hT => ?_)
                  · exact ⟨by (first | exact hst | exact hHeld.below hb9 | exact hHeld.alloc _ | exact hHeld.far3 (by omega) _ _ _), by (first | assumption | exact Blk.new _ _ _ | exact f0.set3 _ _ _ | exact f0.below hb9 | exact Nat.lt_of_lt_of_le f1 hb9.size | (have := hHeld.bw.lt; simp [World.setCell] <;> omega) | omega), by (first | assumption | exact Blk.new _ _ _ | exact f0.set3 _ _ _ | exact f0.below hb9 | exact Nat.lt_of_lt_of_le f1 hb9.size | (have := hHeld.bw.lt; simp [World.setCell] <;> omega) | omega), by (first | assumption | exact Blk.new _ _ _ | exact f0.set3 _ _ _ | exact f0.below hb9 | exact Nat.lt_of_lt_of_le f1 hb9.size | (have := hHeld.bw.lt; simp [World.setCell] <;> omega) | omega), trivial⟩
                  (try clear f0 f1 f2 f3 f4 f5 f6 f7 f8 f9 f10 f11)
                  obtain ⟨hHeld, f0, f1, f2, -⟩ := hT
                  refine wpAnyH_take (i := 13) (oi := ⟨some 20, _, _, _, _, _⟩) (v := ?_) rfl (by kernel_rfl) (by kernel_rfl) (by kernel_rfl) (fun _ _ _ h => h) (Or.inl ⟨by kernel_rfl, ?_⟩) (by assumption) ?_
                  rotate_left
                  · (intro wS hSw; (try dsimp only at hSw); obtain ⟨a0, a1, a2, a3, a4, a5⟩ := hSw.st.bl.three; have c1 := hSw.st.bn.cell 1; have c2 := hSw.st.bn.cell 2; simp only [List.getElem?_toArray, List.getElem?_cons_zero, List.getElem?_cons_succ] at c1 c2; clear hSw; go_simp; (try with_reducible rfl))
                  (try simp only [Act.put, List.setIfInBounds_toArray, List.set_cons_zero, List.set_cons_succ])
                  refine wpAnyH_done (by kernel_rfl) ?_ _
                  (go_wp2_with fail; go_meet; exact ⟨_, rfl, rfl, hHeld, f0, f2⟩)
                refine AllReadyH.cons (o := ⟨some 19, _, _, _, _, _⟩) rfl (fun K hK => ?_) ?_
                · go_simp
                  refine hK.out _ _ ?_ (fun _ => ?_)
                  · ((try dsimp only); (first | exact hst | exact hHeld.below hb9 | exact hHeld.alloc _ | exact hHeld.far3 (by omega) _ _ _))
                  clear hK K
                  (try simp only [Act.put, List.setIfInBounds_toArray, List.set_cons_zero, List.set_cons_succ])
                  refine gen0 (T := fun W => ((fun W => WSt w W w1.heap.size n (lo, le, lu) k1 k2 n1 n2 D (wr.heap.size + 1) (lo, le, lu))) W ∧ Blk W wq1.heap.size 25 #[iv 0, iv 0, iv 0] ∧ wq1.heap.size < W.heap.size ∧ wr.heap.size + 1 < wq1.heap.size ∧ True) ?_ (fun wq5 hT => ?_)
                  · exact ⟨by (first | exact hst | exact hHeld.below hb9 | exact hHeld.alloc _ | exact hHeld.far3 (by omega) _ _ _), by (first | assumption | exact Blk.new _ _ _ | exact f0.set3 _ _ _ | exact f0.below hb9 | exact Nat.lt_of_lt_of_le f1 hb9.size | (have := hHeld.bw.lt; simp [World.setCell] <;> omega) | omega), by (first | assumption | exact Blk.new _ _ _ | exact f0.set3 _ _ _ | exact f0.below hb9 | exact Nat.lt_of_lt_of_le f1 hb9.size | (have := hHeld.bw.lt; simp [World.setCell] <;> omega) | omega), by (first | assumption | exact Blk.new _ _ _ | exact f0.set3 _ _ _ | exact f0.below hb9 | exact Nat.lt_of_lt_of_le f1 hb9.size | (have := hHeld.bw.lt; simp [World.setCell] <;> omega) | omega), trivial⟩
                  (try clear f0 f1 f2 f3 f4 f5 f6 f7 f8 f9 f10 f11)
                  obtain ⟨hHeld, f0, f1, f2, -⟩ := hT
                  refine wpAnyH_ready (rs := [7]) (by kernel_rfl) (by simp) ?_
                  refine AllReadyH.cons (o := ⟨some 70, _, _, _, _, _⟩) rfl (fun K hK => ?_) AllReadyH.nil
                  go_simp
                  (refine (HG.out _).mono ?_; rintro e w9 ⟨rfl, hb9⟩)
                  go_wp2_with fail
                  refine hK.out _ _ ?_ (fun _ => ?_)
                  · ((try dsimp only); (first | exact hst | exact hHeld.below hb9 | exact hHeld.alloc _ | exact hHeld.far3 (by omega) _ _ _))
                  clear hK K
                  (try simp only [Act.put, List.setIfInBounds_toArray, List.set_cons_zero, List.set_cons_succ])
                  refine gen0 (T := fun W => ((fun W => WSt w W w1.heap.size n (lo, le, lu) k1 k2 n1 n2 D (wr.heap.size + 1) (lo, le, lu))) W ∧ Blk W wq1.heap.size 25 #[iv 0, iv 0, iv 0] ∧ wq1.heap.size < W.heap.size ∧ wr.heap.size + 1 < wq1.heap.size ∧ True) ?_ (fun wq6 hT => ?_)
                  · exact ⟨by (first | exact hst | exact hHeld.below hb9 | exact hHeld.alloc _ | exact hHeld.far3 (by omega) _ _ _), by (first | assumption | exact Blk.new _ _ _ | exact f0.set3 _ _ _ | exact f0.below hb9 | exact Nat.lt_of_lt_of_le f1 hb9.size | (have := hHeld.bw.lt; simp [World.setCell] <;> omega) | omega), by (first | assumption | exact Blk.new _ _ _ | exact f0.set3 _ _ _ | exact f0.below hb9 | exact Nat.lt_of_lt_of_le f1 hb9.size | (have := hHeld.bw.lt; simp [World.setCell] <;> omega) | omega), by (first | assumption | exact Blk.new _ _ _ | exact f0.set3 _ _ _ | exact f0.below hb9 | exact Nat.lt_of_lt_of_le f1 hb9.size | (have := hHeld.bw.lt; simp [World.setCell] <;> omega) | omega), trivial⟩
                  (try clear f0 f1 f2 f3 f4 f5 f6 f7 f8 f9 f10 f11)
                  obtain ⟨hHeld, f0, f1, f2, -⟩ := hT
                  refine wpAnyH_take (i := 8) (oi := ⟨some 62, _, _, _, _, _⟩) (v := ?_) rfl (by kernel_rfl) (by kernel_rfl) (by kernel_rfl) (fun _ _ _ h => h) (Or.inl ⟨by kernel_rfl, ?_⟩) (by assumption) ?_
                  rotate_left
                  · (intro wS hSw; (try dsimp only at hSw); obtain ⟨a0, a1, a2, a3, a4, a5⟩ := hSw.st.bl.three; have c1 := hSw.st.bn.cell 1; have c2 := hSw.st.bn.cell 2; simp only [List.getElem?_toArray, List.getElem?_cons_zero, List.getElem?_cons_succ] at c1 c2; clear hSw; go_simp; (try with_reducible rfl))
                  (try simp only [Act.put, List.setIfInBounds_toArray, List.set_cons_zero, List.set_cons_succ])
                  refine wpAnyH_take (i := 9) (oi := ⟨some 71, _, _, _, _, _⟩) (v := ?_) rfl (by kernel_rfl) (by kernel_rfl) (by kernel_rfl) (fun _ _ _ h => h) (Or.inl ⟨by kernel_rfl, ?_⟩) (by assumption) ?_
                  rotate_left
                  · (intro wS hSw; (try dsimp only at hSw); obtain ⟨a0, a1, a2, a3, a4, a5⟩ := hSw.st.bl.three; have c1 := hSw.st.bn.cell 1; have c2 := hSw.st.bn.cell 2; simp only [List.getElem?_toArray, List.getElem?_cons_zero, List.getElem?_cons_succ] at c1 c2; clear hSw; go_simp; (try with_reducible rfl))
                  (try simp only [Act.put, List.setIfInBounds_toArray, List.set_cons_zero, List.set_cons_succ])
                  refine wpAnyH_take (i := 10) (oi := ⟨some 72, _, _, _, _, _⟩) (v := ?_) rfl (by kernel_rfl) (by kernel_rfl) (by kernel_rfl) (fun _ _ _ h => h) (Or.inl ⟨by kernel_rfl, ?_⟩) (by assumption) ?_
                  rotate_left
                  · (intro wS hSw; (try dsimp only at hSw); obtain ⟨a0, a1, a2, a3, a4, a5⟩ := hSw.st.bl.three; have c1 := hSw.st.bn.cell 1; have c2 := hSw.st.bn.cell 2; simp only [List.getElem?_toArray, List.getElem?_cons_zero, List.getElem?_cons_succ] at c1 c2; clear hSw; go_simp; (try with_reducible rfl))
                  (try simp only [Act.put, List.setIfInBounds_toArray, List.set_cons_zero, List.set_cons_succ])
                  refine wpAnyH_ready (rs := [12]) (by kernel_rfl) (by simp) ?_
                  refine AllReadyH.cons (o := ⟨none, _, _, _, _, _⟩) rfl (fun K hK => ?_) AllReadyH.nil
                  obtain ⟨s0, s1, s2, s3, s4, s5⟩ := f0.three
                  go_simp
                  refine hK.out _ _ ?_ (fun _ => ?_)
                  · ((try dsimp only); (first | exact hst | exact hHeld.below hb9 | exact hHeld.alloc _ | exact hHeld.far3 (by omega) _ _ _))
                  clear hK K
                  (try simp only [Act.put, List.setIfInBounds_toArray, List.set_cons_zero, List.set_cons_succ])
                  refine gen0 (T := fun W => ((fun W => WSt w W w1.heap.size n (lo, le, lu) k1 k2 n1 n2 D (wr.heap.size + 1) (lo, le, lu))) W ∧ Blk W wq1.heap.size 25 #[iv go, iv ge, iv gu] ∧ wq1.heap.size < W.heap.size ∧ wr.heap.size + 1 < wq1.heap.size ∧ True) ?_ (fun wq7 hT => ?_)
                  · exact ⟨by (first | exact hst | exact hHeld.below hb9 | exact hHeld.alloc _ | exact hHeld.far3 (by omega) _ _ _), by (first | assumption | exact Blk.new _ _ _ | exact f0.set3 _ _ _ | exact f0.below hb9 | exact Nat.lt_of_lt_of_le f1 hb9.size | (have := hHeld.bw.lt; simp [World.setCell] <;> omega) | omega), by (first | assumption | exact Blk.new _ _ _ | exact f0.set3 _ _ _ | exact f0.below hb9 | exact Nat.lt_of_lt_of_le f1 hb9.size | (have := hHeld.bw.lt; simp [World.setCell] <;> omega) | omega), by (first | assumption | exact Blk.new _ _ _ | exact f0.set3 _ _ _ | exact f0.below hb9 | exact Nat.lt_of_lt_of_le f1 hb9.size | (have := hHeld.bw.lt; simp [World.setCell] <;> omega) | omega), trivial⟩
                  (try clear f0 f1 f2 f3 f4 f5 f6 f7 f8 f9 f10 f11)
                  obtain ⟨hHeld, f0, f1, f2, -⟩ := hT
                  refine wpAnyH_take (i := 13) (oi := ⟨some 20, _, _, _, _, _⟩) (v := ?_) rfl (by kernel_rfl) (by kernel_rfl) (by kernel_rfl) (fun _ _ _ h => h) (Or.inl ⟨by kernel_rfl, ?_⟩) (by assumption) ?_
                  rotate_left
                  · (intro wS hSw; (try dsimp only at hSw); obtain ⟨a0, a1, a2, a3, a4, a5⟩ := hSw.st.bl.three; have c1 := hSw.st.bn.cell 1; have c2 := hSw.st.bn.cell 2; simp only [List.getElem?_toArray, List.getElem?_cons_zero, List.getElem?_cons_succ] at c1 c2; clear hSw; go_simp; (try with_reducible rfl))
                  (try simp only [Act.put, List.setIfInBounds_toArray, List.set_cons_zero, List.set_cons_succ])
                  refine wpAnyH_done (by kernel_rfl) ?_ _
                  (go_wp2_with fail; go_meet; exact ⟨_, rfl, rfl, hHeld, f0, f2⟩)
                exact AllReadyH.nil
              case rest =>
                obtain ⟨gx, rfl, rfl, hHt, hY, hgx⟩ := hcut
                clear hst HG
                rcases errv_cases gb with ⟨h0, hev⟩ | ⟨k, hk, hke, hev⟩
                · have hL' := Lib.hid (HL1.out h0).1
                  have hT := (HL1.out h0).2
                  rw [hev]
                  clear hev h0 HL1
                  go_upto_region 17 with (fail)
                  have hHs := hHt.st
                  have hbl := hHs.bl
                  have hbk := hHs.bk
                  obtain ⟨y0, y1, y2, y3, y4, y5⟩ := hY.three
                  obtain ⟨a0, a1, a2, a3, a4, a5⟩ := hbl.three
                  have m0 := hbk.cell 6
                  have m1 := hbk.cell 7
                  have m2 := hbk.cell 8
                  have d0 := hbk.frozen 6
                  have d1 := hbk.frozen 7
                  have d2 := hbk.frozen 8
                  simp only [List.getElem?_toArray, List.getElem?_cons_zero, List.getElem?_cons_succ] at m0 m1 m2
                  have HS7 := Lib.hid hHt
                  clear hHt hHs hbl hbk hY
                  go_region
                  all_goals
                    (try go_wp2_with fail)
                    go_meet
                    exact ⟨rfl, (go, ge, gu), k1, (go, ge, gu), n1, n2, (by first | exact ((HS7.out.own (go, ge, gu)).mem2 (go, ge, gu)).drew | exact ((HS7.out.mem2 (go, ge, gu)).own (go, ge, gu)).drew), hL', hT⟩
                · rw [hev]
                  clear hev hk hke HL1
                  go_wp2_with fail
                  go_meet
                  exact ⟨rfl, (lo, le, lu), k1, k2, n1, n2, hHt, hL.out.more, .inl rfl⟩
      case rest =>
        obtain ⟨rfl, ⟨xo, xe, xu⟩, ⟨p1, p2, p3⟩, ⟨r1, r2, r3⟩, m1, m2, hSx, hLx, hTx⟩ := hcut
        clear HSW HBA q0 q1 q2 q3 a0 a1 a2 a3 a4 a5 hpa hqa hbya hapa hpw hS hL
        have hte := hTx.epoch
        dsimp only at hte
        have hEx := Lib.hid (hE.out.turn hTx)
        have hbo := Lib.hid hLx.out.both
        have hnr := hLx.out.near
        have hpn1 := hLx.out.p1
        have hpn2 := hLx.out.p2
        have hw1 : wrap64 (m1 - m2) = m1 - m2 := by simp only [wrap64]; omega
        have hw2 : wrap64 (m2 - m1) = m2 - m1 := by simp only [wrap64]; omega
        have hn1 : ¬ (bound < m1 - m2) := by omega
        have hn2 : ¬ (bound < m2 - m1) := by omega
        have hck := chk_ok hLx.out.ok
        dsimp only at hck
        obtain ⟨hck1, hck2, hck3, -⟩ := hck
        clear hTx hE
        have c1 := hSx.st.bn.cell 1
        have c2 := hSx.st.bn.cell 2
        have d3 := hSx.st.bk.cell 3
        have d4 := hSx.st.bk.cell 4
        have d5 := hSx.st.bk.cell 5
        simp only [List.getElem?_toArray, List.getElem?_cons_zero, List.getElem?_cons_succ] at c1 c2 d3 d4 d5
        go_wp2_with fail
        refine (Holds_any p1 p2 p3 1 m1 _).mono ?_
        rintro e w5 ⟨rfl, hb5⟩
        have hS5 := hSx.below hb5
        clear c1 c2 d3 d4 d5 hSx
        cases hh0 : holdsb p1 p2 p3 1 m1
        · clear hbo hb5
          as_aux_lemma =>
            have hE0 := hEx.out
            have hown := hS5.st.mp
            have hMp := hown.isMap
            obtain ⟨a0, a1, a2, a3, a4, a5⟩ := hS5.st.bl.three
            have v1 := hS5.bw.cell 1
            simp only [List.getElem?_toArray, List.getElem?_cons_zero, List.getElem?_cons_succ] at v1
            dsimp only at a0 a1 a2 v1
            have HH := Lib.hid hS5
            have hlte : ¬ (xe < le) := by omega
            have hwi : wrap64 ((i : Int) + 1) = (i : Int) + 1 := by simp only [wrap64]; omega
            have HWI := Lib.hid hwi
            clear hwi
            by_cases hx : xo = 0
            · subst hx
              clear hown hE0 hnr hpn1 hpn2 hck1 hck2 hck3 hn1 hn2 hw1 hw2
              go_wp2_with fail
              exact al_rel hlt (by omega) HH.out.st hLx hEx
            · have hx0 : 0 < xo := by omega
              have hkey : keyOf Try.prog 3 (.int .i64 xe) = some (.int .i64 xe) := Maps.keyOf_int_mk Try.underlying3 (wf_i64 (by omega) (by omega))
              have hwv : (Lit.int .i64 xo).wf = true := wf_i64 (by omega) (by omega)
              have hE1 := Lib.hid (hE0.put hMp trivial)
              have hown2 : Maps.has D (.int .i64 xe) = true → ∀ c : Int, D.atKey (.int .i64 xe) (.lit (.int .i64 0)) = .lit (.int .i64 c) → c = xo := fun hh c hat => by
                have h1 := hE0.own (by show xo ≠ 0; omega) hh
                have h2 : (.lit (.int .i64 c) : DataW Unit) = .lit (.int .i64 xo) := hat.symm.trans h1
                injection h2 with h2
                injection h2
              have HO := Lib.hid hown2
              clear hown2 hE0 hx hMp hnr hpn1 hpn2 hn1 hn2 hw1 hw2
              cases hh : Maps.has D (.int .i64 xe)
              · go_wp2_with (first
                  | (at_lookup; go_loud (refine wpList_lookup_own_ok_int _ rfl _ _ 28 rfl 3 3 .i64 lawI Try.underlying28 Try.underlying3 (zeroI _) (w1.heap.size + 1 + 1 + 1) n D rfl hown _ _ rfl hkey ?_; intro cc hat hwc))
                  | (at_mapUpdate; refine wpList_mapUpdate_own _ rfl _ _ _ 28 rfl 3 3 lawI Try.underlying28 _ (w1.heap.size + 1 + 1 + 1) n _ rfl hown (by unfold maxLen; omega) _ _ _ rfl rfl hkey _ [] (plainElem_int Try.underlying3 hwv) ?_; intro w7 hown7 hg7))
                exact al_rel hlt (by omega) (HH.out.st.put hown7 hg7) hLx hE1
              · go_wp2_with (first
                  | (at_lookup; go_loud (refine wpList_lookup_own_ok_int _ rfl _ _ 28 rfl 3 3 .i64 lawI Try.underlying28 Try.underlying3 (zeroI _) (w1.heap.size + 1 + 1 + 1) n D rfl hown _ _ rfl hkey ?_; intro cc hat hwc; obtain rfl := HO.out hh cc hat))
                  | (at_mapUpdate; refine wpList_mapUpdate_own _ rfl _ _ _ 28 rfl 3 3 lawI Try.underlying28 _ (w1.heap.size + 1 + 1 + 1) n _ rfl hown (by unfold maxLen; omega) _ _ _ rfl rfl hkey _ [] (plainElem_int Try.underlying3 hwv) ?_; intro w7 hown7 hg7))
                exact al_rel hlt (by omega) (HH.out.st.put hown7 hg7) hLx hE1
        · have c2 := hS5.st.bn.cell 2
          have d3 := hS5.st.bk.cell 6
          have d4 := hS5.st.bk.cell 7
          have d5 := hS5.st.bk.cell 8
          simp only [List.getElem?_toArray, List.getElem?_cons_zero, List.getElem?_cons_succ] at c2 d3 d4 d5
          go_wp2_with fail
          refine (Holds_any r1 r2 r3 2 m2 _).mono ?_
          rintro e w6 ⟨rfl, hb6⟩
          have h2 : holdsb r1 r2 r3 2 m2 = false := by
            have := hbo.out
            unfold hold3 at this
            dsimp only at this
            rw [hh0] at this
            simpa using this
          rw [h2]
          have hS6 := hS5.below hb6
          clear c2 d3 d4 d5 hS5 hb6 hb5 h2 hbo
          as_aux_lemma =>
            have hE0 := hEx.out
            have hown := hS6.st.mp
            have hMp := hown.isMap
            obtain ⟨a0, a1, a2, a3, a4, a5⟩ := hS6.st.bl.three
            have v1 := hS6.bw.cell 1
            simp only [List.getElem?_toArray, List.getElem?_cons_zero, List.getElem?_cons_succ] at v1
            dsimp only at a0 a1 a2 v1
            have HH := Lib.hid hS6
            have hlte : ¬ (xe < le) := by omega
            have hwi : wrap64 ((i : Int) + 1) = (i : Int) + 1 := by simp only [wrap64]; omega
            have HWI := Lib.hid hwi
            clear hwi
            by_cases hx : xo = 0
            · subst hx
              clear hown hE0 hnr hpn1 hpn2 hck1 hck2 hck3 hn1 hn2 hw1 hw2
              go_wp2_with fail
              exact al_rel hlt (by omega) HH.out.st hLx hEx
            · have hx0 : 0 < xo := by omega
              have hkey : keyOf Try.prog 3 (.int .i64 xe) = some (.int .i64 xe) := Maps.keyOf_int_mk Try.underlying3 (wf_i64 (by omega) (by omega))
              have hwv : (Lit.int .i64 xo).wf = true := wf_i64 (by omega) (by omega)
              have hE1 := Lib.hid (hE0.put hMp trivial)
              have hown2 : Maps.has D (.int .i64 xe) = true → ∀ c : Int, D.atKey (.int .i64 xe) (.lit (.int .i64 0)) = .lit (.int .i64 c) → c = xo := fun hh c hat => by
                have h1 := hE0.own (by show xo ≠ 0; omega) hh
                have h2 : (.lit (.int .i64 c) : DataW Unit) = .lit (.int .i64 xo) := hat.symm.trans h1
                injection h2 with h2
                injection h2
              have HO := Lib.hid hown2
              clear hown2 hE0 hx hMp hnr hpn1 hpn2 hn1 hn2 hw1 hw2
              cases hh : Maps.has D (.int .i64 xe)
              · go_wp2_with (first
                  | (at_lookup; go_loud (refine wpList_lookup_own_ok_int _ rfl _ _ 28 rfl 3 3 .i64 lawI Try.underlying28 Try.underlying3 (zeroI _) (w1.heap.size + 1 + 1 + 1) n D rfl hown _ _ rfl hkey ?_; intro cc hat hwc))
                  | (at_mapUpdate; refine wpList_mapUpdate_own _ rfl _ _ _ 28 rfl 3 3 lawI Try.underlying28 _ (w1.heap.size + 1 + 1 + 1) n _ rfl hown (by unfold maxLen; omega) _ _ _ rfl rfl hkey _ [] (plainElem_int Try.underlying3 hwv) ?_; intro w7 hown7 hg7))
                exact al_rel hlt (by omega) (HH.out.st.put hown7 hg7) hLx hE1
              · go_wp2_with (first
                  | (at_lookup; go_loud (refine wpList_lookup_own_ok_int _ rfl _ _ 28 rfl 3 3 .i64 lawI Try.underlying28 Try.underlying3 (zeroI _) (w1.heap.size + 1 + 1 + 1) n D rfl hown _ _ rfl hkey ?_; intro cc hat hwc; obtain rfl := HO.out hh cc hat))
                  | (at_mapUpdate; refine wpList_mapUpdate_own _ rfl _ _ _ 28 rfl 3 3 lawI Try.underlying28 _ (w1.heap.size + 1 + 1 + 1) n _ rfl hown (by unfold maxLen; omega) _ _ _ rfl rfl hkey _ [] (plainElem_int Try.underlying3 hwv) ?_; intro w7 hown7 hg7))
                exact al_rel hlt (by omega) (HH.out.st.put hown7 hg7) hLx hE1
    · have hlti : ¬ ((i : Int) < (sc.length : Int)) := by omega
      go_wp2_with fail
      go_ret
      exact ⟨rfl, hS.bel⟩
end Go.Proofs.Ytkkcgibmcijhaaa
