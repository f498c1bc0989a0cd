/- WHAT IT HOLDS: the law ManifestParts, walked. | WHAT IT HOLDS: arguments that are segments, arrays, opened to the words of Kit. -/
import Derived.Test.YtabnndjdkjkciaaGreatDoorManifestPartsG31
import Derived.Test.YtabnndjdkjkciaaGreatDoorManifestPartsG11
import Derived.Test.YtabnndjdkjkciaaGreatDoorManifestPartsG06
import Derived.Test.YtabnndjdkjkciaaGreatDoorManifestPartsG21
import Derived.Test.YtabnndjdkjkciaaGreatDoorManifestPartsG08
namespace Go.Proofs.YtabnndjdkjkciaaGreatDoor
open Go.RowKit
attribute [local go_sem ↓] Go.wp_at_zero Go.wp_at_succ

theorem wpl_buildPzG {ops : Array Oper} {rest : List Oper} {o : Oper} {a : Act} {w : World} {Q : Exit → Act → World → Prop} (hgd : Region.wanted o (yielded ops a.tmps) = true) (ho : o.op = .build 28 #[])
    (h : wpList Tryz.prog ops Q rest (a.put o.dst (.agg (pta ptz))) w) : wpList Tryz.prog ops Q (o :: rest) a w := wpList_step fun _ hK => by
  have hl : ((#[] : Array (Nat × Operand)).map fun (i, x) => (i, a.eval x)).toList = [] := by simp
  rw [if_pos hgd]
  refine wp_build 28 _ ho ?_ ?_
  · rw [hl, built_ptz]; rfl
  · rw [hl, built_ptz]; exact hK _ _ h
theorem mholds_len (p : Pt5) (b : List UInt8) : (mholds p b).1.2.length ≤ 64 := by
  have h := sgTake_len b
  unfold mholds
  split
  · simp
  · split
    · simp
    · split
      · simp
      · split
        · simp
        · split
          · simp
          · exact h
set_option maxRecDepth 100000 in
set_option maxHeartbeats 4000000 in
theorem mparts_walk {E A : Option Addr} {cap c : Nat} {f : Int} {cs : List CeV} {p : Pt5} {b : List UInt8} (w : World) (hG : Shg w) (h : SlC w E cap cs) (hb : SlB w A c b) (hL : longb (cs.map ceOf) 80 = false) (hl : b.length ≤ 4000) :
    Calls Tryz.prog 3 #[cv f E cs.length cap, .agg (pta p), .slice A b.length c] w fun e w' => e = .returned (.bool true) ∧ Below w.heap.size w w' := by
  have hM := ((Mm.start w).alloc #[.int .i64 f, .slice E cs.length cap] 24).alloc (pta p) 28
  rw [show (w.alloc (.cells #[.int .i64 f, .slice E cs.length cap] 24)).heap.size = w.heap.size + 1 from by simp] at hM
  have hlI : (b.length : Int) ≤ 4000 := by omega
  have HLg := Lib.hid (fun W (hh : Below w.heap.size w W) => Long_any cs 80 W (h.below hh))
  rw [hL] at HLg
  have hcl : cs.length ≤ 80 := by
    unfold longb at hL
    simp at hL
    omega
  go_enter Tryz.func3, Tryz.ntmps3
  go_upto_region 1 with (fail)
  refine gen1 (T := fun W => Mm w W [(w.heap.size + 1, 28, pta p), (w.heap.size, 24, #[.int .i64 f, .slice E cs.length cap])] []) hM (fun w0 hM => ?_)
  go_wp2_with fail
  refine (alive15_any _).mono ?_
  rintro e w1 ⟨rfl, hb1⟩
  have hM1 := hM.call hb1
  clear hM hb1
  obtain ⟨a0, a1, -, -⟩ := hM1.b1.two
  go_wp2_with fail
  refine (HLg.out _ hM1.bel).mono ?_
  rintro e w2 ⟨rfl, hb2⟩
  have hM2 := hM1.call hb2
  clear hM1 hb2 a0 a1 HLg
  obtain ⟨a0, a1, -, -⟩ := hM2.b1.two
  have HD := Lib.hid (fun W (hh : Below w.heap.size w W) => Doc14_any f cs W (h.below hh) (by omega))
  go_wp2_with fail
  refine (HD.out _ hM2.bel).mono ?_
  rintro e w3 ⟨A5, c5, m5, rfl, hm5, hs5, hb3⟩
  have hM3 := hM2.call hb3
  clear hM2 hb3 a0 a1
  have hcl5 : Hid (m5.length = cs.length) := (show _ = _ from by rw [hm5.out]; simp)
  go_upto_region 6 with (fail)
  refine gen1 (T := fun W => Mm w W [(w3.heap.size, 34, #[.int .i64 f, .slice A5 m5.length c5]), (w.heap.size + 1, 28, pta p), (w.heap.size, 24, #[.int .i64 f, .slice E cs.length cap])] [] ∧ SlD W A5 c5 m5) ⟨hM3.alloc _ _, Sl.below hs5 (below_new _ _)⟩ (fun w4 hT => ?_)
  clear hM3 hs5
  obtain ⟨hM4, hs4⟩ := hT
  generalize w3.heap.size = g7 at *
  obtain ⟨a0, a1, -, -⟩ := hM4.b2.two
  have HO := Lib.hid (fun W (hh : Below w.heap.size w W) => MOf_any f cs W (hG.below hh) (h.below hh))
  have HH1 := Lib.hid (fun W (hh : Below w.heap.size w W) => MHolds_any p b W (hG.below hh) (Sl.below hb hh) (by omega))
  have hpp := Lib.hid (pta_size p)
  have hpz := Lib.hid (pta_size ptz)
  have hpza := Lib.hid (pta_all ptz)
  have hlen8 := Lib.hid (mholds_len p b)
  have HK := Lib.hid (fun W (hh : SlD W A5 c5 m5) => rSCheck_any f m5 W hh)
  by_cases hk : schk (f, cs.map ceOf) = 0
  rotate_left
  · rw [mof_bad hk] at HO
    have hk5 : schk (f, m5) = schk (f, cs.map ceOf) := by rw [hm5.out]
    rw [hk5] at HK
    clear hk5
    generalize schk (f, cs.map ceOf) = k at *
    rcases errv_cases k with ⟨h0, _⟩ | ⟨ke, hk1, hke, hev⟩
    · exact absurd h0 hk
    have HNk := Lib.hid (fun W => num_any k W)
    rw [hev] at HNk
    have hk0 : ((k : Int) == 0) = false := by rw [beq_eq_false_iff_ne]; omega
    have hkn : ((k : Int) != 0) = true := by rw [bne_iff_ne]; omega
    go_wp2_with fail
    refine (HO.out _ hM4.bel).mono ?_
    rintro e w5 ⟨A6, c6, m6, rfl, hm6, ho6, hb6⟩
    dsimp only
    have hm60 : (m6.length : Int) = 0 := by rw [show m6 = [] from hm6.out]; rfl
    rw [hev]
    clear hev hke hk hk1
    go_upto_region 7 with (refine wpl_storeN rfl 28 _ _ rfl _ (pta ptz) 28 rfl rfl (by rw [hpz.out]; kernel_rfl) (by rw [hpz.out]; rfl) hpza.out ?_)
    refine gen1 (T := fun W => Mm w W [(w5.heap.size, 28, pta ptz), (g7, 34, #[.int .i64 f, .slice A5 m5.length c5]), (w.heap.size + 1, 28, pta p), (w.heap.size, 24, #[.int .i64 f, .slice E cs.length cap])] [] ∧ SlD W A5 c5 m5 ∧ SlB W A6 c6 m6) ⟨(hM4.call hb6).alloc _ _, Sl.below hs4 (hb6.trans ((below_new _ _).mono hb6.size)), Sl.below (Own.sl ho6) (below_new _ _)⟩ (fun w6 hT => ?_)
    clear hM4 hs4 hb6 ho6 a0 a1
    obtain ⟨hM6, hs6, hy6⟩ := hT
    generalize w5.heap.size = g8 at *
    obtain ⟨z0, z1, -, -⟩ := hM6.b1.two
    go_wp2_with fail
    refine (HK.out _ hs6).mono ?_
    rintro e w7 ⟨rfl, hb7⟩
    have hM7 := hM6.call hb7
    have hs7 : SlD w7 A5 c5 m5 := Sl.below hs6 hb7
    have hy7 : SlB w7 A6 c6 m6 := Sl.below hy6 hb7
    clear z0 z1 hM6 hs6 hy6 hb7
    obtain ⟨a0, a1, -, -⟩ := hM7.b3.two
    go_upto_region 10 with (fail)
    clear a0 a1
    have hn := fun W => neq_pt ptz ptz W
    rw [decide_eq_true rfl, Bool.not_true] at hn
    go_wp2_with fail
    refine (HNk.out _).mono ?_
    rintro e w8 ⟨rfl, rfl⟩
    go_upto_region 14 with (first | (refine wpl_loadG (by kernel_rfl) 28 _ rfl ⟨g8, 0, none⟩ (pta ptz) rfl hM7.b0.cells _ Tryz.underlying28 rfl (by rw [hpz.out]; kernel_rfl) ?_) | (refine wpl_buildPzG (by kernel_rfl) rfl ?_))
    have hMt := hM7.sub (L' := [(w.heap.size + 1, 28, pta p)]) (by simp)
    clear hM7 hs7 hy7 hn hm60
    go_wp2_with (refine wpl_loadG rfl 28 _ rfl ⟨w.heap.size + 1, 0, none⟩ (pta p) rfl hMt.b0.cells _ Tryz.underlying28 rfl (by rw [hpp.out]; kernel_rfl) ?_)
    refine (HH1.out _ hMt.bel).mono ?_
    rintro e w11 ⟨A7, c7, m7, rfl, hm7, hN7, hb7⟩
    have hMu := hMt.call hb7
    have HH3 := Lib.hid (fun W (hh : Below w.heap.size w W) => rMHolds_any p b W (Sl.below hb hh) (by omega))
    clear hMt hb7 HH1
    generalize mholds p b = x at *
    obtain ⟨⟨f8, cs8⟩, bad8⟩ := x
    dsimp only at hm7
    go_upto_region 19 with (fail)
    refine gen1 (T := fun W => Mm w W [(w11.heap.size, 24, #[.int .i64 f8, .slice A7 m7.length c7]), (w.heap.size + 1, 28, pta p)] [] ∧ SlC W A7 c7 m7) ⟨hMu.alloc _ _, SlC.below hN7.slc (below_new _ _)⟩ (fun w12 hT => ?_)
    clear hMu hN7
    obtain ⟨hMu, hN7⟩ := hT
    generalize w11.heap.size = g14 at *
    go_wp2_with (refine wpl_loadG rfl 28 _ rfl ⟨w.heap.size + 1, 0, none⟩ (pta p) rfl hMu.b1.cells _ Tryz.underlying28 rfl (by rw [hpp.out]; kernel_rfl) ?_)
    refine (PartOf_any p _).mono ?_
    rintro e w13 ⟨rfl, hb13⟩
    have hMv := hMu.call hb13
    have hNv := SlC.below hN7 hb13
    clear hMu hN7 hb13
    go_wp2_with fail
    refine (HH3.out _ hMv.bel).mono ?_
    rintro e w14 ⟨A9, c9, m9, rfl, hm9, hO9, hb14⟩
    dsimp only at hm9
    have hMw := hMv.call hb14
    have hNw := SlC.below hNv hb14
    clear hMv hNv hb14 HH3
    go_upto_region 20 with (fail)
    refine gen1 (T := fun W => Mm w W [(w14.heap.size, 34, #[.int .i64 f8, .slice A9 m9.length c9]), (g14, 24, #[.int .i64 f8, .slice A7 m7.length c7]), (w.heap.size + 1, 28, pta p)] [] ∧ SlC W A7 c7 m7 ∧ SlD W A9 c9 m9) ⟨hMw.alloc _ _, SlC.below hNw (below_new _ _), Sl.below hO9.sl (below_new _ _)⟩ (fun w15 hT => ?_)
    clear hMw hNw hO9
    obtain ⟨hMw, hNw, hOw⟩ := hT
    generalize w14.heap.size = g15 at *
    have hm7l : m7.length ≤ 1000000 := by
      have h9 := hlen8.out
      have h8 := congrArg List.length hm7.out
      simp only [List.length_map] at h8
      omega
    have hMd := hMw.drew
    have HC := Lib.hid (fun W (hh : Below w15.heap.size w15 W) => Doc14_any f8 m7 W (SlC.below hNw hh) hm7l)
    have HO := Lib.hid (fun W (hh : Below w15.heap.size w15 W) => (show SlD W A9 c9 m9 from Sl.below hOw hh))
    have HNm := Lib.hid (fun W => num_any bad8 W)
    clear hMw hNw hOw
    refine wp_region_seq (S := (fun W => Mm w W [(g15, 34, #[.int .i64 f8, .slice A9 m9.length c9]), (g14, 24, #[.int .i64 f8, .slice A7 m7.length c7]), (w.heap.size + 1, 28, pta p)] [])) [(0, true), (2, true), (1, false), (3, false), (4, true), (5, true), (7, true), (6, false), (8, true), (9, true), (10, true)] (by kernel_rfl) (by kernel_rfl) (fun _ _ _ _ _ h => h) ?_ (fun hHeld => ?_)
    · exact hMd
    refine gen0 (T := fun W => ((fun W => Mm w W [(g15, 34, #[.int .i64 f8, .slice A9 m9.length c9]), (g14, 24, #[.int .i64 f8, .slice A7 m7.length c7]), (w.heap.size + 1, 28, pta p)] [])) W ∧ Below w15.heap.size w15 W ∧ True) ?_ (fun wq1 hT => ?_)
    · exact ⟨by (first | with_reducible exact hMd | with_reducible exact hHeld | with_reducible exact hHeld.call hb9 | with_reducible exact hHeld.call hb10), by (first | with_reducible assumption | exact Below.drew (Below.refl _ _) | exact hs10 | exact bel_call f0 hb9), trivial⟩
    (try clear f0 f1 f2 f3 f4 f5 f6 f7 f8 f9 f10 f11)
    obtain ⟨hHeld, f0, -⟩ := hT
    refine seq_take (oi := ⟨some 90, _, _, _, _, _⟩) (v := ?_) rfl (Or.inl ⟨by kernel_rfl, ?_⟩) (by assumption) ?_
    rotate_left
    · (intro wS hSw; (try dsimp only at hSw); obtain ⟨q0, q1, -, -⟩ := hSw.b1.two; obtain ⟨p0, p1, -, -⟩ := hSw.b0.two; clear hSw; refine execV (fun rho hk1 hk2 hk3 hk => ?_); have e14_ := (hk 14).trans (evalP (fg8 (fg1 (fg1 (fg1 (fg1 (fg1 (fg1 fg0)))))))); clear hk; go_simp; (try with_reducible rfl))
    (first | (with_reducible refine wpSeq_put ?_; go_big_move) | (try simp only [Act.put, List.setIfInBounds_toArray, List.set_cons_zero, List.set_cons_succ]))
    refine seq_take (oi := ⟨some 92, _, _, _, _, _⟩) (v := ?_) rfl (Or.inl ⟨by kernel_rfl, ?_⟩) (by assumption) ?_
    rotate_left
    · (intro wS hSw; (try dsimp only at hSw); obtain ⟨q0, q1, -, -⟩ := hSw.b1.two; obtain ⟨p0, p1, -, -⟩ := hSw.b0.two; clear hSw; refine execV (fun rho hk1 hk2 hk3 hk => ?_); have e15_ := (hk 15).trans (evalP (fg8 (fg1 (fg1 (fg1 (fg1 (fg1 (fg1 (fg1 fg0))))))))); clear hk; go_simp; (try with_reducible rfl))
    (first | (with_reducible refine wpSeq_put ?_; go_big_move) | (try simp only [Act.put, List.setIfInBounds_toArray, List.set_cons_zero, List.set_cons_succ]))
    refine seq_step (o := ⟨some 91, _, _, _, _, _⟩) rfl (fun K hK => ?_)
    with_reducible refine wantedP (by kernel_rfl) ?_
    (first | go_big_op | go_simp)
    (refine (HC.out _ f0).mono ?_; rintro e w9 ⟨A10, c10, m10, rfl, hm10, hs10, hb9⟩)
    go_wp2_with fail
    refine hK.out _ _ ?_ (fun _ => ?_)
    · ((try dsimp only); (first | with_reducible exact hMd | with_reducible exact hHeld | with_reducible exact hHeld.call hb9 | with_reducible exact hHeld.call hb10))
    clear hK K
    (first | (with_reducible refine wpSeq_put ?_; go_big_move) | (try simp only [Act.put, List.setIfInBounds_toArray, List.set_cons_zero, List.set_cons_succ]))
    refine gen0 (T := fun W => ((fun W => Mm w W [(g15, 34, #[.int .i64 f8, .slice A9 m9.length c9]), (g14, 24, #[.int .i64 f8, .slice A7 m7.length c7]), (w.heap.size + 1, 28, pta p)] [])) W ∧ SlD W A10 c10 m10 ∧ Below w15.heap.size w15 W ∧ True) ?_ (fun wq2 hT => ?_)
    · exact ⟨by (first | with_reducible exact hMd | with_reducible exact hHeld | with_reducible exact hHeld.call hb9 | with_reducible exact hHeld.call hb10), by (first | with_reducible assumption | exact Below.drew (Below.refl _ _) | exact hs10 | exact bel_call f0 hb9), by (first | with_reducible assumption | exact Below.drew (Below.refl _ _) | exact hs10 | exact bel_call f0 hb9), trivial⟩
    (try clear f0 f1 f2 f3 f4 f5 f6 f7 f8 f9 f10 f11)
    obtain ⟨hHeld, f0, f1, -⟩ := hT
    refine seq_step (o := ⟨some 93, _, _, _, _, _⟩) rfl (fun K hK => ?_)
    with_reducible refine wantedP (by kernel_rfl) ?_
    (first | go_big_op | go_simp)
    (refine (rSSame_any f8 f8 m10 m9 _ f0 (HO.out _ f1)).mono ?_; rintro e w10 ⟨rfl, hb10⟩; rw [show ssame (f8, m10) (f8, m9) = true from by rw [ssame_eq, hm10.out, hm7.out, hm9.out]; simp])
    go_wp2_with fail
    refine hK.out _ _ ?_ (fun _ => ?_)
    · ((try dsimp only); (first | with_reducible exact hMd | with_reducible exact hHeld | with_reducible exact hHeld.call hb9 | with_reducible exact hHeld.call hb10))
    clear hK K
    (first | (with_reducible refine wpSeq_put ?_; go_big_move) | (try simp only [Act.put, List.setIfInBounds_toArray, List.set_cons_zero, List.set_cons_succ]))
    refine gen0 (T := fun W => ((fun W => Mm w W [(g15, 34, #[.int .i64 f8, .slice A9 m9.length c9]), (g14, 24, #[.int .i64 f8, .slice A7 m7.length c7]), (w.heap.size + 1, 28, pta p)] [])) W ∧ True) ?_ (fun wq3 hT => ?_)
    · exact ⟨by (first | with_reducible exact hMd | with_reducible exact hHeld | with_reducible exact hHeld.call hb9 | with_reducible exact hHeld.call hb10), trivial⟩
    (try clear f0 f1 f2 f3 f4 f5 f6 f7 f8 f9 f10 f11)
    obtain ⟨hHeld, -⟩ := hT
    refine seq_take (oi := ⟨some 94, _, _, _, _, _⟩) (v := ?_) rfl (Or.inl ⟨by kernel_rfl, ?_⟩) (by assumption) ?_
    rotate_left
    · (intro wS hSw; (try dsimp only at hSw); obtain ⟨q0, q1, -, -⟩ := hSw.b1.two; obtain ⟨p0, p1, -, -⟩ := hSw.b0.two; clear hSw; refine execV (fun rho hk1 hk2 hk3 hk => ?_); have e93_ := (hk 93).trans (evalP (fg64 (fg8 (fg8 (fg8 (fg1 (fg1 (fg1 (fg1 (fg1 fg0)))))))))); clear hk; go_simp; (try with_reducible rfl))
    (first | (with_reducible refine wpSeq_put ?_; go_big_move) | (try simp only [Act.put, List.setIfInBounds_toArray, List.set_cons_zero, List.set_cons_succ]))
    refine seq_take (oi := ⟨some 95, _, _, _, _, _⟩) (v := ?_) rfl (Or.inl ⟨by kernel_rfl, ?_⟩) (by assumption) ?_
    rotate_left
    · (intro wS hSw; (try dsimp only at hSw); obtain ⟨q0, q1, -, -⟩ := hSw.b1.two; obtain ⟨p0, p1, -, -⟩ := hSw.b0.two; clear hSw; refine execV (fun rho hk1 hk2 hk3 hk => ?_); have e10_ := (hk 10).trans (evalP (fg8 (fg1 (fg1 fg0)))); clear hk; go_simp; (try with_reducible rfl))
    (first | (with_reducible refine wpSeq_put ?_; go_big_move) | (try simp only [Act.put, List.setIfInBounds_toArray, List.set_cons_zero, List.set_cons_succ]))
    refine seq_take (oi := ⟨some 97, _, _, _, _, _⟩) (v := ?_) rfl (Or.inl ⟨by kernel_rfl, ?_⟩) (by assumption) ?_
    rotate_left
    · (intro wS hSw; (try dsimp only at hSw); obtain ⟨q0, q1, -, -⟩ := hSw.b1.two; obtain ⟨p0, p1, -, -⟩ := hSw.b0.two; clear hSw; refine execV (fun rho hk1 hk2 hk3 hk => ?_); have e11_ := (hk 11).trans (evalP (fg8 (fg1 (fg1 (fg1 fg0))))); clear hk; go_simp; (try with_reducible rfl))
    (first | (with_reducible refine wpSeq_put ?_; go_big_move) | (try simp only [Act.put, List.setIfInBounds_toArray, List.set_cons_zero, List.set_cons_succ]))
    refine seq_step (o := ⟨some 96, _, _, _, _, _⟩) rfl (fun K hK => ?_)
    with_reducible refine wantedP (by kernel_rfl) ?_
    (first | go_big_op | go_simp)
    (refine (HNm.out _).mono ?_; rintro e w11 ⟨rfl, rfl⟩)
    go_wp2_with fail
    refine hK.out _ _ ?_ (fun _ => ?_)
    · ((try dsimp only); (first | with_reducible exact hMd | with_reducible exact hHeld | with_reducible exact hHeld.call hb9 | with_reducible exact hHeld.call hb10))
    clear hK K
    (first | (with_reducible refine wpSeq_put ?_; go_big_move) | (try simp only [Act.put, List.setIfInBounds_toArray, List.set_cons_zero, List.set_cons_succ]))
    refine gen0 (T := fun W => ((fun W => Mm w W [(g15, 34, #[.int .i64 f8, .slice A9 m9.length c9]), (g14, 24, #[.int .i64 f8, .slice A7 m7.length c7]), (w.heap.size + 1, 28, pta p)] [])) W ∧ True) ?_ (fun wq4 hT => ?_)
    · exact ⟨by (first | with_reducible exact hMd | with_reducible exact hHeld | with_reducible exact hHeld.call hb9 | with_reducible exact hHeld.call hb10), trivial⟩
    (try clear f0 f1 f2 f3 f4 f5 f6 f7 f8 f9 f10 f11)
    obtain ⟨hHeld, -⟩ := hT
    refine seq_take (oi := ⟨some 98, _, _, _, _, _⟩) (v := ?_) rfl (Or.inl ⟨by kernel_rfl, ?_⟩) (by assumption) ?_
    rotate_left
    · (intro wS hSw; (try dsimp only at hSw); obtain ⟨q0, q1, -, -⟩ := hSw.b1.two; obtain ⟨p0, p1, -, -⟩ := hSw.b0.two; clear hSw; refine execV (fun rho hk1 hk2 hk3 hk => ?_); have e96_ := (hk 96).trans (evalP (fg64 (fg8 (fg8 (fg8 (fg8 fg0)))))); have e97_ := (hk 97).trans (evalP (fg64 (fg8 (fg8 (fg8 (fg8 (fg1 fg0))))))); clear hk; go_simp; (try with_reducible rfl))
    (first | (with_reducible refine wpSeq_put ?_; go_big_move) | (try simp only [Act.put, List.setIfInBounds_toArray, List.set_cons_zero, List.set_cons_succ]))
    refine seq_take (oi := ⟨some 99, _, _, _, _, _⟩) (v := ?_) rfl (Or.inl ⟨by kernel_rfl, ?_⟩) (by assumption) ?_
    rotate_left
    · (intro wS hSw; (try dsimp only at hSw); obtain ⟨q0, q1, -, -⟩ := hSw.b1.two; obtain ⟨p0, p1, -, -⟩ := hSw.b0.two; clear hSw; refine execV (fun rho hk1 hk2 hk3 hk => ?_); have e94_ := (hk 94).trans (evalP (fg64 (fg8 (fg8 (fg8 (fg1 (fg1 (fg1 (fg1 (fg1 (fg1 fg0))))))))))); have e98_ := (hk 98).trans (evalP (fg64 (fg8 (fg8 (fg8 (fg8 (fg1 (fg1 fg0)))))))); clear hk; go_simp; (try with_reducible rfl))
    (first | (with_reducible refine wpSeq_put ?_; go_big_move) | (try simp only [Act.put, List.setIfInBounds_toArray, List.set_cons_zero, List.set_cons_succ]))
    refine seq_take (oi := ⟨some 6, _, _, _, _, _⟩) (v := ?_) rfl (Or.inl ⟨by kernel_rfl, ?_⟩) (by assumption) ?_
    rotate_left
    · (intro wS hSw; (try dsimp only at hSw); obtain ⟨q0, q1, -, -⟩ := hSw.b1.two; obtain ⟨p0, p1, -, -⟩ := hSw.b0.two; clear hSw; refine execV (fun rho hk1 hk2 hk3 hk => ?_); have e99_ := (hk 99).trans (evalP (fg64 (fg8 (fg8 (fg8 (fg8 (fg1 (fg1 (fg1 fg0))))))))); clear hk; go_simp; (try with_reducible rfl))
    (first | (with_reducible refine wpSeq_put ?_; go_big_move) | (try simp only [Act.put, List.setIfInBounds_toArray, List.set_cons_zero, List.set_cons_succ]))
    refine seq_done ?_
    go_wp2_with fail
    go_ret
    exact ⟨rfl, hHeld.bel⟩
  by_cases hc0 : cs.length = 0
  · rw [mof_none hk (by simpa using hc0)] at HO
    have hk5 : schk (f, m5) = 0 := by rw [hm5.out]; exact hk
    rw [hk5] at HK
    have HNk := Lib.hid (fun W => num_any 2 W)
    rw [show errv 2 = Value.iface 68 (.int .i64 2) from rfl] at HNk
    have hcI : (cs.length : Int) = 0 := by omega
    clear hk5 hk hc0
    go_wp2_with fail
    refine (HO.out _ hM4.bel).mono ?_
    rintro e w5 ⟨A6, c6, m6, rfl, hm6, ho6, hb6⟩
    dsimp only
    have hm60 : (m6.length : Int) = 0 := by rw [show m6 = [] from hm6.out]; rfl
    rw [show errv 2 = Value.iface 68 (.int .i64 2) from rfl]
    go_upto_region 7 with (refine wpl_storeN rfl 28 _ _ rfl _ (pta ptz) 28 rfl rfl (by rw [hpz.out]; kernel_rfl) (by rw [hpz.out]; rfl) hpza.out ?_)
    refine gen1 (T := fun W => Mm w W [(w5.heap.size, 28, pta ptz), (g7, 34, #[.int .i64 f, .slice A5 m5.length c5]), (w.heap.size + 1, 28, pta p), (w.heap.size, 24, #[.int .i64 f, .slice E cs.length cap])] [] ∧ SlD W A5 c5 m5 ∧ SlB W A6 c6 m6) ⟨(hM4.call hb6).alloc _ _, Sl.below hs4 (hb6.trans ((below_new _ _).mono hb6.size)), Sl.below (Own.sl ho6) (below_new _ _)⟩ (fun w6 hT => ?_)
    clear hM4 hs4 hb6 ho6 a0 a1
    obtain ⟨hM6, hs6, hy6⟩ := hT
    generalize w5.heap.size = g8 at *
    obtain ⟨z0, z1, -, -⟩ := hM6.b1.two
    go_wp2_with fail
    refine (HK.out _ hs6).mono ?_
    rintro e w7 ⟨rfl, hb7⟩
    have hM7 := hM6.call hb7
    have hs7 : SlD w7 A5 c5 m5 := Sl.below hs6 hb7
    have hy7 : SlB w7 A6 c6 m6 := Sl.below hy6 hb7
    clear z0 z1 hM6 hs6 hy6 hb7
    obtain ⟨a0, a1, -, -⟩ := hM7.b3.two
    go_upto_region 10 with (fail)
    clear a0 a1
    have hn := fun W => neq_pt ptz ptz W
    rw [decide_eq_true rfl, Bool.not_true] at hn
    go_wp2_with fail
    refine (HNk.out _).mono ?_
    rintro e w8 ⟨rfl, rfl⟩
    go_upto_region 14 with (first | (refine wpl_loadG (by kernel_rfl) 28 _ rfl ⟨g8, 0, none⟩ (pta ptz) rfl hM7.b0.cells _ Tryz.underlying28 rfl (by rw [hpz.out]; kernel_rfl) ?_) | (refine wpl_buildPzG (by kernel_rfl) rfl ?_))
    have hMt := hM7.sub (L' := [(w.heap.size + 1, 28, pta p)]) (by simp)
    clear hM7 hs7 hy7 hn hm60 hcI
    go_wp2_with (refine wpl_loadG rfl 28 _ rfl ⟨w.heap.size + 1, 0, none⟩ (pta p) rfl hMt.b0.cells _ Tryz.underlying28 rfl (by rw [hpp.out]; kernel_rfl) ?_)
    refine (HH1.out _ hMt.bel).mono ?_
    rintro e w11 ⟨A7, c7, m7, rfl, hm7, hN7, hb7⟩
    have hMu := hMt.call hb7
    have HH3 := Lib.hid (fun W (hh : Below w.heap.size w W) => rMHolds_any p b W (Sl.below hb hh) (by omega))
    clear hMt hb7 HH1
    generalize mholds p b = x at *
    obtain ⟨⟨f8, cs8⟩, bad8⟩ := x
    dsimp only at hm7
    go_upto_region 19 with (fail)
    refine gen1 (T := fun W => Mm w W [(w11.heap.size, 24, #[.int .i64 f8, .slice A7 m7.length c7]), (w.heap.size + 1, 28, pta p)] [] ∧ SlC W A7 c7 m7) ⟨hMu.alloc _ _, SlC.below hN7.slc (below_new _ _)⟩ (fun w12 hT => ?_)
    clear hMu hN7
    obtain ⟨hMu, hN7⟩ := hT
    generalize w11.heap.size = g14 at *
    go_wp2_with (refine wpl_loadG rfl 28 _ rfl ⟨w.heap.size + 1, 0, none⟩ (pta p) rfl hMu.b1.cells _ Tryz.underlying28 rfl (by rw [hpp.out]; kernel_rfl) ?_)
    refine (PartOf_any p _).mono ?_
    rintro e w13 ⟨rfl, hb13⟩
    have hMv := hMu.call hb13
    have hNv := SlC.below hN7 hb13
    clear hMu hN7 hb13
    go_wp2_with fail
    refine (HH3.out _ hMv.bel).mono ?_
    rintro e w14 ⟨A9, c9, m9, rfl, hm9, hO9, hb14⟩
    dsimp only at hm9
    have hMw := hMv.call hb14
    have hNw := SlC.below hNv hb14
    clear hMv hNv hb14 HH3
    go_upto_region 20 with (fail)
    refine gen1 (T := fun W => Mm w W [(w14.heap.size, 34, #[.int .i64 f8, .slice A9 m9.length c9]), (g14, 24, #[.int .i64 f8, .slice A7 m7.length c7]), (w.heap.size + 1, 28, pta p)] [] ∧ SlC W A7 c7 m7 ∧ SlD W A9 c9 m9) ⟨hMw.alloc _ _, SlC.below hNw (below_new _ _), Sl.below hO9.sl (below_new _ _)⟩ (fun w15 hT => ?_)
    clear hMw hNw hO9
    obtain ⟨hMw, hNw, hOw⟩ := hT
    generalize w14.heap.size = g15 at *
    have hm7l : m7.length ≤ 1000000 := by
      have h9 := hlen8.out
      have h8 := congrArg List.length hm7.out
      simp only [List.length_map] at h8
      omega
    have hMd := hMw.drew
    have HC := Lib.hid (fun W (hh : Below w15.heap.size w15 W) => Doc14_any f8 m7 W (SlC.below hNw hh) hm7l)
    have HO := Lib.hid (fun W (hh : Below w15.heap.size w15 W) => (show SlD W A9 c9 m9 from Sl.below hOw hh))
    have HNm := Lib.hid (fun W => num_any bad8 W)
    clear hMw hNw hOw
    refine wp_region_seq (S := (fun W => Mm w W [(g15, 34, #[.int .i64 f8, .slice A9 m9.length c9]), (g14, 24, #[.int .i64 f8, .slice A7 m7.length c7]), (w.heap.size + 1, 28, pta p)] [])) [(0, true), (2, true), (1, false), (3, false), (4, true), (5, true), (7, true), (6, false), (8, true), (9, true), (10, true)] (by kernel_rfl) (by kernel_rfl) (fun _ _ _ _ _ h => h) ?_ (fun hHeld => ?_)
    · exact hMd
    refine gen0 (T := fun W => ((fun W => Mm w W [(g15, 34, #[.int .i64 f8, .slice A9 m9.length c9]), (g14, 24, #[.int .i64 f8, .slice A7 m7.length c7]), (w.heap.size + 1, 28, pta p)] [])) W ∧ Below w15.heap.size w15 W ∧ True) ?_ (fun wq1 hT => ?_)
    · exact ⟨by (first | with_reducible exact hMd | with_reducible exact hHeld | with_reducible exact hHeld.call hb9 | with_reducible exact hHeld.call hb10), by (first | with_reducible assumption | exact Below.drew (Below.refl _ _) | exact hs10 | exact bel_call f0 hb9), trivial⟩
    (try clear f0 f1 f2 f3 f4 f5 f6 f7 f8 f9 f10 f11)
    obtain ⟨hHeld, f0, -⟩ := hT
    refine seq_take (oi := ⟨some 90, _, _, _, _, _⟩) (v := ?_) rfl (Or.inl ⟨by kernel_rfl, ?_⟩) (by assumption) ?_
    rotate_left
    · (intro wS hSw; (try dsimp only at hSw); obtain ⟨q0, q1, -, -⟩ := hSw.b1.two; obtain ⟨p0, p1, -, -⟩ := hSw.b0.two; clear hSw; refine execV (fun rho hk1 hk2 hk3 hk => ?_); have e14_ := (hk 14).trans (evalP (fg8 (fg1 (fg1 (fg1 (fg1 (fg1 (fg1 fg0)))))))); clear hk; go_simp; (try with_reducible rfl))
    (first | (with_reducible refine wpSeq_put ?_; go_big_move) | (try simp only [Act.put, List.setIfInBounds_toArray, List.set_cons_zero, List.set_cons_succ]))
    refine seq_take (oi := ⟨some 92, _, _, _, _, _⟩) (v := ?_) rfl (Or.inl ⟨by kernel_rfl, ?_⟩) (by assumption) ?_
    rotate_left
    · (intro wS hSw; (try dsimp only at hSw); obtain ⟨q0, q1, -, -⟩ := hSw.b1.two; obtain ⟨p0, p1, -, -⟩ := hSw.b0.two; clear hSw; refine execV (fun rho hk1 hk2 hk3 hk => ?_); have e15_ := (hk 15).trans (evalP (fg8 (fg1 (fg1 (fg1 (fg1 (fg1 (fg1 (fg1 fg0))))))))); clear hk; go_simp; (try with_reducible rfl))
    (first | (with_reducible refine wpSeq_put ?_; go_big_move) | (try simp only [Act.put, List.setIfInBounds_toArray, List.set_cons_zero, List.set_cons_succ]))
    refine seq_step (o := ⟨some 91, _, _, _, _, _⟩) rfl (fun K hK => ?_)
    with_reducible refine wantedP (by kernel_rfl) ?_
    (first | go_big_op | go_simp)
    (refine (HC.out _ f0).mono ?_; rintro e w9 ⟨A10, c10, m10, rfl, hm10, hs10, hb9⟩)
    go_wp2_with fail
    refine hK.out _ _ ?_ (fun _ => ?_)
    · ((try dsimp only); (first | with_reducible exact hMd | with_reducible exact hHeld | with_reducible exact hHeld.call hb9 | with_reducible exact hHeld.call hb10))
    clear hK K
    (first | (with_reducible refine wpSeq_put ?_; go_big_move) | (try simp only [Act.put, List.setIfInBounds_toArray, List.set_cons_zero, List.set_cons_succ]))
    refine gen0 (T := fun W => ((fun W => Mm w W [(g15, 34, #[.int .i64 f8, .slice A9 m9.length c9]), (g14, 24, #[.int .i64 f8, .slice A7 m7.length c7]), (w.heap.size + 1, 28, pta p)] [])) W ∧ SlD W A10 c10 m10 ∧ Below w15.heap.size w15 W ∧ True) ?_ (fun wq2 hT => ?_)
    · exact ⟨by (first | with_reducible exact hMd | with_reducible exact hHeld | with_reducible exact hHeld.call hb9 | with_reducible exact hHeld.call hb10), by (first | with_reducible assumption | exact Below.drew (Below.refl _ _) | exact hs10 | exact bel_call f0 hb9), by (first | with_reducible assumption | exact Below.drew (Below.refl _ _) | exact hs10 | exact bel_call f0 hb9), trivial⟩
    (try clear f0 f1 f2 f3 f4 f5 f6 f7 f8 f9 f10 f11)
    obtain ⟨hHeld, f0, f1, -⟩ := hT
    refine seq_step (o := ⟨some 93, _, _, _, _, _⟩) rfl (fun K hK => ?_)
    with_reducible refine wantedP (by kernel_rfl) ?_
    (first | go_big_op | go_simp)
    (refine (rSSame_any f8 f8 m10 m9 _ f0 (HO.out _ f1)).mono ?_; rintro e w10 ⟨rfl, hb10⟩; rw [show ssame (f8, m10) (f8, m9) = true from by rw [ssame_eq, hm10.out, hm7.out, hm9.out]; simp])
    go_wp2_with fail
    refine hK.out _ _ ?_ (fun _ => ?_)
    · ((try dsimp only); (first | with_reducible exact hMd | with_reducible exact hHeld | with_reducible exact hHeld.call hb9 | with_reducible exact hHeld.call hb10))
    clear hK K
    (first | (with_reducible refine wpSeq_put ?_; go_big_move) | (try simp only [Act.put, List.setIfInBounds_toArray, List.set_cons_zero, List.set_cons_succ]))
    refine gen0 (T := fun W => ((fun W => Mm w W [(g15, 34, #[.int .i64 f8, .slice A9 m9.length c9]), (g14, 24, #[.int .i64 f8, .slice A7 m7.length c7]), (w.heap.size + 1, 28, pta p)] [])) W ∧ True) ?_ (fun wq3 hT => ?_)
    · exact ⟨by (first | with_reducible exact hMd | with_reducible exact hHeld | with_reducible exact hHeld.call hb9 | with_reducible exact hHeld.call hb10), trivial⟩
    (try clear f0 f1 f2 f3 f4 f5 f6 f7 f8 f9 f10 f11)
    obtain ⟨hHeld, -⟩ := hT
    refine seq_take (oi := ⟨some 94, _, _, _, _, _⟩) (v := ?_) rfl (Or.inl ⟨by kernel_rfl, ?_⟩) (by assumption) ?_
    rotate_left
    · (intro wS hSw; (try dsimp only at hSw); obtain ⟨q0, q1, -, -⟩ := hSw.b1.two; obtain ⟨p0, p1, -, -⟩ := hSw.b0.two; clear hSw; refine execV (fun rho hk1 hk2 hk3 hk => ?_); have e93_ := (hk 93).trans (evalP (fg64 (fg8 (fg8 (fg8 (fg1 (fg1 (fg1 (fg1 (fg1 fg0)))))))))); clear hk; go_simp; (try with_reducible rfl))
    (first | (with_reducible refine wpSeq_put ?_; go_big_move) | (try simp only [Act.put, List.setIfInBounds_toArray, List.set_cons_zero, List.set_cons_succ]))
    refine seq_take (oi := ⟨some 95, _, _, _, _, _⟩) (v := ?_) rfl (Or.inl ⟨by kernel_rfl, ?_⟩) (by assumption) ?_
    rotate_left
    · (intro wS hSw; (try dsimp only at hSw); obtain ⟨q0, q1, -, -⟩ := hSw.b1.two; obtain ⟨p0, p1, -, -⟩ := hSw.b0.two; clear hSw; refine execV (fun rho hk1 hk2 hk3 hk => ?_); have e10_ := (hk 10).trans (evalP (fg8 (fg1 (fg1 fg0)))); clear hk; go_simp; (try with_reducible rfl))
    (first | (with_reducible refine wpSeq_put ?_; go_big_move) | (try simp only [Act.put, List.setIfInBounds_toArray, List.set_cons_zero, List.set_cons_succ]))
    refine seq_take (oi := ⟨some 97, _, _, _, _, _⟩) (v := ?_) rfl (Or.inl ⟨by kernel_rfl, ?_⟩) (by assumption) ?_
    rotate_left
    · (intro wS hSw; (try dsimp only at hSw); obtain ⟨q0, q1, -, -⟩ := hSw.b1.two; obtain ⟨p0, p1, -, -⟩ := hSw.b0.two; clear hSw; refine execV (fun rho hk1 hk2 hk3 hk => ?_); have e11_ := (hk 11).trans (evalP (fg8 (fg1 (fg1 (fg1 fg0))))); clear hk; go_simp; (try with_reducible rfl))
    (first | (with_reducible refine wpSeq_put ?_; go_big_move) | (try simp only [Act.put, List.setIfInBounds_toArray, List.set_cons_zero, List.set_cons_succ]))
    refine seq_step (o := ⟨some 96, _, _, _, _, _⟩) rfl (fun K hK => ?_)
    with_reducible refine wantedP (by kernel_rfl) ?_
    (first | go_big_op | go_simp)
    (refine (HNm.out _).mono ?_; rintro e w11 ⟨rfl, rfl⟩)
    go_wp2_with fail
    refine hK.out _ _ ?_ (fun _ => ?_)
    · ((try dsimp only); (first | with_reducible exact hMd | with_reducible exact hHeld | with_reducible exact hHeld.call hb9 | with_reducible exact hHeld.call hb10))
    clear hK K
    (first | (with_reducible refine wpSeq_put ?_; go_big_move) | (try simp only [Act.put, List.setIfInBounds_toArray, List.set_cons_zero, List.set_cons_succ]))
    refine gen0 (T := fun W => ((fun W => Mm w W [(g15, 34, #[.int .i64 f8, .slice A9 m9.length c9]), (g14, 24, #[.int .i64 f8, .slice A7 m7.length c7]), (w.heap.size + 1, 28, pta p)] [])) W ∧ True) ?_ (fun wq4 hT => ?_)
    · exact ⟨by (first | with_reducible exact hMd | with_reducible exact hHeld | with_reducible exact hHeld.call hb9 | with_reducible exact hHeld.call hb10), trivial⟩
    (try clear f0 f1 f2 f3 f4 f5 f6 f7 f8 f9 f10 f11)
    obtain ⟨hHeld, -⟩ := hT
    refine seq_take (oi := ⟨some 98, _, _, _, _, _⟩) (v := ?_) rfl (Or.inl ⟨by kernel_rfl, ?_⟩) (by assumption) ?_
    rotate_left
    · (intro wS hSw; (try dsimp only at hSw); obtain ⟨q0, q1, -, -⟩ := hSw.b1.two; obtain ⟨p0, p1, -, -⟩ := hSw.b0.two; clear hSw; refine execV (fun rho hk1 hk2 hk3 hk => ?_); have e96_ := (hk 96).trans (evalP (fg64 (fg8 (fg8 (fg8 (fg8 fg0)))))); have e97_ := (hk 97).trans (evalP (fg64 (fg8 (fg8 (fg8 (fg8 (fg1 fg0))))))); clear hk; go_simp; (try with_reducible rfl))
    (first | (with_reducible refine wpSeq_put ?_; go_big_move) | (try simp only [Act.put, List.setIfInBounds_toArray, List.set_cons_zero, List.set_cons_succ]))
    refine seq_take (oi := ⟨some 99, _, _, _, _, _⟩) (v := ?_) rfl (Or.inl ⟨by kernel_rfl, ?_⟩) (by assumption) ?_
    rotate_left
    · (intro wS hSw; (try dsimp only at hSw); obtain ⟨q0, q1, -, -⟩ := hSw.b1.two; obtain ⟨p0, p1, -, -⟩ := hSw.b0.two; clear hSw; refine execV (fun rho hk1 hk2 hk3 hk => ?_); have e94_ := (hk 94).trans (evalP (fg64 (fg8 (fg8 (fg8 (fg1 (fg1 (fg1 (fg1 (fg1 (fg1 fg0))))))))))); have e98_ := (hk 98).trans (evalP (fg64 (fg8 (fg8 (fg8 (fg8 (fg1 (fg1 fg0)))))))); clear hk; go_simp; (try with_reducible rfl))
    (first | (with_reducible refine wpSeq_put ?_; go_big_move) | (try simp only [Act.put, List.setIfInBounds_toArray, List.set_cons_zero, List.set_cons_succ]))
    refine seq_take (oi := ⟨some 6, _, _, _, _, _⟩) (v := ?_) rfl (Or.inl ⟨by kernel_rfl, ?_⟩) (by assumption) ?_
    rotate_left
    · (intro wS hSw; (try dsimp only at hSw); obtain ⟨q0, q1, -, -⟩ := hSw.b1.two; obtain ⟨p0, p1, -, -⟩ := hSw.b0.two; clear hSw; refine execV (fun rho hk1 hk2 hk3 hk => ?_); have e99_ := (hk 99).trans (evalP (fg64 (fg8 (fg8 (fg8 (fg8 (fg1 (fg1 (fg1 fg0))))))))); clear hk; go_simp; (try with_reducible rfl))
    (first | (with_reducible refine wpSeq_put ?_; go_big_move) | (try simp only [Act.put, List.setIfInBounds_toArray, List.set_cons_zero, List.set_cons_succ]))
    refine seq_done ?_
    go_wp2_with fail
    go_ret
    exact ⟨rfl, hHeld.bel⟩
  · have hlc : (cs.map ceOf).length ≠ 0 := by simpa using hc0
    rw [mof_ok hk hlc] at HO
    have hk5 : schk (f, m5) = 0 := by rw [hm5.out]; exact hk
    have HR := fun W (hh : SlD W A5 c5 m5) => rMOf_any f m5 W hh hk5
    rw [hk5] at HK
    have e6 : frm (stxt (f, m5)) = frm (stxt (f, cs.map ceOf)) := by rw [hm5.out]
    have e7 : (m5.length : Int) = ((cs.map ceOf).length : Int) := by rw [hm5.out]
    rw [e6, e7] at HR
    dsimp only at HO
    generalize frm (stxt (f, cs.map ceOf)) = yl at *
    obtain ⟨px, hpx⟩ : ∃ px : Pt5, (f, ((cs.map ceOf).length : Int), (yl.length : Int), shaD yl) = px := ⟨_, rfl⟩
    rw [hpx] at HO HR
    have HRR := Lib.hid HR
    have HNk := Lib.hid (fun W => num_any 0 W)
    rw [show errv 0 = Value.nilIface from rfl] at HNk
    have hcI : ((cs.length : Int) == 0) = false := by rw [beq_eq_false_iff_ne]; omega
    have hcJ : ¬ (cs.length : Int) = 0 := by omega
    have hpz := Lib.hid (pta_size px)
    have hpza := Lib.hid (pta_all px)
    clear hk5 hk hlc e6 e7 hpx HR
    go_wp2_with fail
    refine (HO.out _ hM4.bel).mono ?_
    rintro e w5 ⟨A6, c6, m6, rfl, hm6, ho6, hb6⟩
    dsimp only at hm6 ⊢
    rw [show errv 0 = Value.nilIface from rfl]
    go_upto_region 7 with (refine wpl_storeN rfl 28 _ _ rfl _ (pta px) 28 rfl rfl (by rw [hpz.out]; kernel_rfl) (by rw [hpz.out]; rfl) hpza.out ?_)
    refine gen1 (T := fun W => Mm w W [(w5.heap.size, 28, pta px), (g7, 34, #[.int .i64 f, .slice A5 m5.length c5]), (w.heap.size + 1, 28, pta p), (w.heap.size, 24, #[.int .i64 f, .slice E cs.length cap])] [] ∧ SlD W A5 c5 m5 ∧ SlB W A6 c6 m6) ⟨(hM4.call hb6).alloc _ _, Sl.below hs4 (hb6.trans ((below_new _ _).mono hb6.size)), Sl.below (Own.sl ho6) (below_new _ _)⟩ (fun w6 hT => ?_)
    clear hM4 hs4 hb6 ho6 a0 a1
    obtain ⟨hM6, hs6, hy6⟩ := hT
    generalize w5.heap.size = g8 at *
    obtain ⟨z0, z1, -, -⟩ := hM6.b1.two
    go_wp2_with fail
    refine (HK.out _ hs6).mono ?_
    rintro e w7 ⟨rfl, hb7⟩
    have hM7 := hM6.call hb7
    have hs7 : SlD w7 A5 c5 m5 := Sl.below hs6 hb7
    have hy7 : SlB w7 A6 c6 m6 := Sl.below hy6 hb7
    clear z0 z1 hM6 hs6 hy6 hb7
    obtain ⟨a0, a1, -, -⟩ := hM7.b3.two
    go_upto_region 10 with (fail)
    clear a0 a1 hcI hcJ
    obtain ⟨z0, z1, -, -⟩ := hM7.b1.two
    go_wp2_with fail
    refine (HNk.out _).mono ?_
    rintro e w8 ⟨rfl, rfl⟩
    go_wp2_with fail
    refine (HRR.out _ hs7).mono ?_
    clear z0 z1
    rintro e w8 ⟨A8, c8, m8, rfl, hm8, hs8, hb8⟩
    go_upto_region 16 with (refine wpl_storeN rfl 44 _ _ rfl _ (pta px) 44 rfl rfl (by rw [hpz.out]; kernel_rfl) (by rw [hpz.out]; rfl) hpza.out ?_)
    refine gen1 (T := fun W => Mm w W [(w8.heap.size, 44, pta px), (g8, 28, pta px), (g7, 34, #[.int .i64 f, .slice A5 m5.length c5]), (w.heap.size + 1, 28, pta p), (w.heap.size, 24, #[.int .i64 f, .slice E cs.length cap])] [] ∧ SlB W A6 c6 m6 ∧ SlB W A8 c8 m8) ⟨(hM7.call hb8).alloc _ _, Sl.below hy7 (hb8.trans ((below_new _ _).mono hb8.size)), Sl.below hs8 (below_new _ _)⟩ (fun w9 hT => ?_)
    clear hM7 hs7 hy7 hb8 hs8
    obtain ⟨hM9, hy9, hs9⟩ := hT
    generalize w8.heap.size = g9 at *
    have hn := fun W => neq_ptR px px W
    rw [decide_eq_true rfl, Bool.not_true] at hn
    have hMd := (hM9.sub (L' := [(g9, 44, pta px), (g8, 28, pta px), (w.heap.size + 1, 28, pta p)]) (by simp)).drew
    have HB := Lib.hid (fun W (hh : Below w9.heap.size w9 W) => nBytes_any A6 A8 c6 c8 m6 m8 W (Sl.below hy9 hh) (Sl.below hs9 hh))
    have hqq : (m6 == m8) = true := by rw [show m6 = yl from hm6.out, show m8 = yl from hm8.out]; simp
    rw [hqq] at HB
    have HPo := Lib.hid (fun W => PartOf_any px W)
    have HO8 := Lib.hid (Below.drew (Below.refl w9.heap.size w9))
    clear hM9 hy9 hs9 hqq
    refine wp_region_seq (S := (fun W => Mm w W [(g9, 44, pta px), (g8, 28, pta px), (w.heap.size + 1, 28, pta p)] [])) [(0, true), (2, true), (1, false), (3, true), (4, true), (5, true), (6, true), (7, false), (8, true), (9, true)] (by kernel_rfl) (by kernel_rfl) (fun _ _ _ _ _ h => h) ?_ (fun hHeld => ?_)
    · exact hMd
    refine gen0 (T := fun W => ((fun W => Mm w W [(g9, 44, pta px), (g8, 28, pta px), (w.heap.size + 1, 28, pta p)] [])) W ∧ Below w9.heap.size w9 W ∧ True) ?_ (fun wq1 hT => ?_)
    · exact ⟨by (first | with_reducible exact hMd | with_reducible exact hHeld | with_reducible exact hHeld.call hb9), by (first | with_reducible assumption | with_reducible exact HO8.out | exact bel_call f0 hb9), trivial⟩
    (try clear f0 f1 f2 f3 f4 f5 f6 f7 f8 f9 f10 f11)
    obtain ⟨hHeld, f0, -⟩ := hT
    refine seq_take (oi := ⟨some 67, _, _, _, _, _⟩) (v := ?_) rfl (Or.inl ⟨by kernel_rfl, ?_⟩) (by assumption) ?_
    rotate_left
    · (intro wS hSw; (try dsimp only at hSw); (refine yld_load 28 (.tmp 8) ?_ ⟨g8, 0, none⟩ (pta px) ?_ hSw.b1.cells _ Tryz.underlying28 rfl (by rw [hpz.out]; kernel_rfl) <;> rfl))
    (first | (with_reducible refine wpSeq_put ?_; go_big_move) | (try simp only [Act.put, List.setIfInBounds_toArray, List.set_cons_zero, List.set_cons_succ]))
    refine seq_take (oi := ⟨some 69, _, _, _, _, _⟩) (v := ?_) rfl (Or.inl ⟨by kernel_rfl, ?_⟩) (by assumption) ?_
    rotate_left
    · (intro wS hSw; (try dsimp only at hSw); (refine yld_load 44 (.tmp 12) ?_ ⟨g9, 0, none⟩ (pta px) ?_ hSw.b0.cells _ Tryz.underlying44 rfl (by rw [hpz.out]; kernel_rfl) <;> rfl))
    (first | (with_reducible refine wpSeq_put ?_; go_big_move) | (try simp only [Act.put, List.setIfInBounds_toArray, List.set_cons_zero, List.set_cons_succ]))
    refine seq_step (o := ⟨some 68, _, _, _, _, _⟩) rfl (fun K hK => ?_)
    with_reducible refine wantedP (by kernel_rfl) ?_
    (first | go_big_op | go_simp)
    (refine (HPo.out _).mono ?_; rintro e w10 ⟨rfl, hb9⟩)
    go_wp2_with fail
    refine hK.out _ _ ?_ (fun _ => ?_)
    · ((try dsimp only); (first | with_reducible exact hMd | with_reducible exact hHeld | with_reducible exact hHeld.call hb9))
    clear hK K
    (first | (with_reducible refine wpSeq_put ?_; go_big_move) | (try simp only [Act.put, List.setIfInBounds_toArray, List.set_cons_zero, List.set_cons_succ]))
    refine gen0 (T := fun W => ((fun W => Mm w W [(g9, 44, pta px), (g8, 28, pta px), (w.heap.size + 1, 28, pta p)] [])) W ∧ Below w9.heap.size w9 W ∧ True) ?_ (fun wq2 hT => ?_)
    · exact ⟨by (first | with_reducible exact hMd | with_reducible exact hHeld | with_reducible exact hHeld.call hb9), by (first | with_reducible assumption | with_reducible exact HO8.out | exact bel_call f0 hb9), trivial⟩
    (try clear f0 f1 f2 f3 f4 f5 f6 f7 f8 f9 f10 f11)
    obtain ⟨hHeld, f0, -⟩ := hT
    refine seq_take (oi := ⟨some 70, _, _, _, _, _⟩) (v := ?_) rfl (Or.inl ⟨by kernel_rfl, ?_⟩) (by assumption) ?_
    rotate_left
    · (intro wS hSw; (try dsimp only at hSw); refine execV (fun rho hk1 hk2 hk3 hk => ?_); have e68_ := (hk 68).trans (evalP (fg64 (fg1 (fg1 (fg1 (fg1 fg0)))))); have e69_ := (hk 69).trans (evalP (fg64 (fg1 (fg1 (fg1 (fg1 (fg1 fg0))))))); clear hk; go_simp; (try with_reducible rfl))
    (first | (with_reducible refine wpSeq_put ?_; go_big_move) | (try simp only [Act.put, List.setIfInBounds_toArray, List.set_cons_zero, List.set_cons_succ]))
    refine seq_take (oi := ⟨some 71, _, _, _, _, _⟩) (v := ?_) rfl (Or.inl ⟨by kernel_rfl, ?_⟩) (by assumption) ?_
    rotate_left
    · (intro wS hSw; (try dsimp only at hSw); refine execV (fun rho hk1 hk2 hk3 hk => ?_); have e70_ := (hk 70).trans (evalP (fg64 (fg1 (fg1 (fg1 (fg1 (fg1 (fg1 fg0)))))))); clear hk; go_simp; (try with_reducible rfl))
    (first | (with_reducible refine wpSeq_put ?_; go_big_move) | (try simp only [Act.put, List.setIfInBounds_toArray, List.set_cons_zero, List.set_cons_succ]))
    refine seq_take (oi := ⟨some 72, _, _, _, _, _⟩) (v := ?_) rfl (Or.inl ⟨by kernel_rfl, ?_⟩) (by assumption) ?_
    rotate_left
    · (intro wS hSw; (try dsimp only at hSw); refine execV (fun rho hk1 hk2 hk3 hk => ?_); have e9_ := (hk 9).trans (evalP (fg8 (fg1 fg0))); clear hk; go_simp; (try with_reducible rfl))
    (first | (with_reducible refine wpSeq_put ?_; go_big_move) | (try simp only [Act.put, List.setIfInBounds_toArray, List.set_cons_zero, List.set_cons_succ]))
    refine seq_take (oi := ⟨some 73, _, _, _, _, _⟩) (v := ?_) rfl (Or.inl ⟨by kernel_rfl, ?_⟩) (by assumption) ?_
    rotate_left
    · (intro wS hSw; (try dsimp only at hSw); refine execV (fun rho hk1 hk2 hk3 hk => ?_); have e13_ := (hk 13).trans (evalP (fg8 (fg1 (fg1 (fg1 (fg1 (fg1 fg0))))))); clear hk; go_simp; (try with_reducible rfl))
    (first | (with_reducible refine wpSeq_put ?_; go_big_move) | (try simp only [Act.put, List.setIfInBounds_toArray, List.set_cons_zero, List.set_cons_succ]))
    refine seq_step (o := ⟨some 74, _, _, _, _, _⟩) rfl (fun K hK => ?_)
    with_reducible refine wantedP (by kernel_rfl) ?_
    (first | go_big_op | go_simp)
    (refine (HB.out _ f0).mono ?_; rintro e w11 ⟨rfl, rfl⟩)
    go_wp2_with fail
    refine hK.out _ _ ?_ (fun _ => ?_)
    · ((try dsimp only); (first | with_reducible exact hMd | with_reducible exact hHeld | with_reducible exact hHeld.call hb9))
    clear hK K
    (first | (with_reducible refine wpSeq_put ?_; go_big_move) | (try simp only [Act.put, List.setIfInBounds_toArray, List.set_cons_zero, List.set_cons_succ]))
    refine gen0 (T := fun W => ((fun W => Mm w W [(g9, 44, pta px), (g8, 28, pta px), (w.heap.size + 1, 28, pta p)] [])) W ∧ Below w9.heap.size w9 W ∧ True) ?_ (fun wq3 hT => ?_)
    · exact ⟨by (first | with_reducible exact hMd | with_reducible exact hHeld | with_reducible exact hHeld.call hb9), by (first | with_reducible assumption | with_reducible exact HO8.out | exact bel_call f0 hb9), trivial⟩
    (try clear f0 f1 f2 f3 f4 f5 f6 f7 f8 f9 f10 f11)
    obtain ⟨hHeld, f0, -⟩ := hT
    refine seq_take (oi := ⟨some 75, _, _, _, _, _⟩) (v := ?_) rfl (Or.inl ⟨by kernel_rfl, ?_⟩) (by assumption) ?_
    rotate_left
    · (intro wS hSw; (try dsimp only at hSw); refine execV (fun rho hk1 hk2 hk3 hk => ?_); have e74_ := (hk 74).trans (evalP (fg64 (fg8 (fg1 (fg1 fg0))))); clear hk; go_simp; (try with_reducible rfl))
    (first | (with_reducible refine wpSeq_put ?_; go_big_move) | (try simp only [Act.put, List.setIfInBounds_toArray, List.set_cons_zero, List.set_cons_succ]))
    refine seq_take (oi := ⟨some 76, _, _, _, _, _⟩) (v := ?_) rfl (Or.inl ⟨by kernel_rfl, ?_⟩) (by assumption) ?_
    rotate_left
    · (intro wS hSw; (try dsimp only at hSw); refine execV (fun rho hk1 hk2 hk3 hk => ?_); have e71_ := (hk 71).trans (evalP (fg64 (fg1 (fg1 (fg1 (fg1 (fg1 (fg1 (fg1 fg0))))))))); have e75_ := (hk 75).trans (evalP (fg64 (fg8 (fg1 (fg1 (fg1 fg0)))))); clear hk; go_simp; (try with_reducible rfl))
    (first | (with_reducible refine wpSeq_put ?_; go_big_move) | (try simp only [Act.put, List.setIfInBounds_toArray, List.set_cons_zero, List.set_cons_succ]))
    refine seq_done ?_
    go_upto_region 18 with (fail)
    have hMt := hHeld.sub (L' := [(w.heap.size + 1, 28, pta p)]) (by simp)
    clear hHeld hn
    go_wp2_with (refine wpl_loadG rfl 28 _ rfl ⟨w.heap.size + 1, 0, none⟩ (pta p) rfl hMt.b0.cells _ Tryz.underlying28 rfl (by rw [hpp.out]; kernel_rfl) ?_)
    refine (HH1.out _ hMt.bel).mono ?_
    rintro e w11 ⟨A7, c7, m7, rfl, hm7, hN7, hb7⟩
    have hMu := hMt.call hb7
    have HH3 := Lib.hid (fun W (hh : Below w.heap.size w W) => rMHolds_any p b W (Sl.below hb hh) (by omega))
    clear hMt hb7 HH1
    generalize mholds p b = x at *
    obtain ⟨⟨f8, cs8⟩, bad8⟩ := x
    dsimp only at hm7
    go_upto_region 19 with (fail)
    refine gen1 (T := fun W => Mm w W [(w11.heap.size, 24, #[.int .i64 f8, .slice A7 m7.length c7]), (w.heap.size + 1, 28, pta p)] [] ∧ SlC W A7 c7 m7) ⟨hMu.alloc _ _, SlC.below hN7.slc (below_new _ _)⟩ (fun w12 hT => ?_)
    clear hMu hN7
    obtain ⟨hMu, hN7⟩ := hT
    generalize w11.heap.size = g14 at *
    go_wp2_with (refine wpl_loadG rfl 28 _ rfl ⟨w.heap.size + 1, 0, none⟩ (pta p) rfl hMu.b1.cells _ Tryz.underlying28 rfl (by rw [hpp.out]; kernel_rfl) ?_)
    refine (PartOf_any p _).mono ?_
    rintro e w13 ⟨rfl, hb13⟩
    have hMv := hMu.call hb13
    have hNv := SlC.below hN7 hb13
    clear hMu hN7 hb13
    go_wp2_with fail
    refine (HH3.out _ hMv.bel).mono ?_
    rintro e w14 ⟨A9, c9, m9, rfl, hm9, hO9, hb14⟩
    dsimp only at hm9
    have hMw := hMv.call hb14
    have hNw := SlC.below hNv hb14
    clear hMv hNv hb14 HH3
    go_upto_region 20 with (fail)
    refine gen1 (T := fun W => Mm w W [(w14.heap.size, 34, #[.int .i64 f8, .slice A9 m9.length c9]), (g14, 24, #[.int .i64 f8, .slice A7 m7.length c7]), (w.heap.size + 1, 28, pta p)] [] ∧ SlC W A7 c7 m7 ∧ SlD W A9 c9 m9) ⟨hMw.alloc _ _, SlC.below hNw (below_new _ _), Sl.below hO9.sl (below_new _ _)⟩ (fun w15 hT => ?_)
    clear hMw hNw hO9
    obtain ⟨hMw, hNw, hOw⟩ := hT
    generalize w14.heap.size = g15 at *
    have hm7l : m7.length ≤ 1000000 := by
      have h9 := hlen8.out
      have h8 := congrArg List.length hm7.out
      simp only [List.length_map] at h8
      omega
    have hMd := hMw.drew
    have HC := Lib.hid (fun W (hh : Below w15.heap.size w15 W) => Doc14_any f8 m7 W (SlC.below hNw hh) hm7l)
    have HO := Lib.hid (fun W (hh : Below w15.heap.size w15 W) => (show SlD W A9 c9 m9 from Sl.below hOw hh))
    have HNm := Lib.hid (fun W => num_any bad8 W)
    clear hMw hNw hOw
    refine wp_region_seq (S := (fun W => Mm w W [(g15, 34, #[.int .i64 f8, .slice A9 m9.length c9]), (g14, 24, #[.int .i64 f8, .slice A7 m7.length c7]), (w.heap.size + 1, 28, pta p)] [])) [(0, true), (2, true), (1, false), (3, false), (4, true), (5, true), (7, true), (6, false), (8, true), (9, true), (10, true)] (by kernel_rfl) (by kernel_rfl) (fun _ _ _ _ _ h => h) ?_ (fun hHeld => ?_)
    · exact hMd
    refine gen0 (T := fun W => ((fun W => Mm w W [(g15, 34, #[.int .i64 f8, .slice A9 m9.length c9]), (g14, 24, #[.int .i64 f8, .slice A7 m7.length c7]), (w.heap.size + 1, 28, pta p)] [])) W ∧ Below w15.heap.size w15 W ∧ True) ?_ (fun wq1 hT => ?_)
    · exact ⟨by (first | with_reducible exact hMd | with_reducible exact hHeld | with_reducible exact hHeld.call hb9 | with_reducible exact hHeld.call hb10), by (first | with_reducible assumption | exact Below.drew (Below.refl _ _) | exact hs10 | exact bel_call f0 hb9), trivial⟩
    (try clear f0 f1 f2 f3 f4 f5 f6 f7 f8 f9 f10 f11)
    obtain ⟨hHeld, f0, -⟩ := hT
    refine seq_take (oi := ⟨some 90, _, _, _, _, _⟩) (v := ?_) rfl (Or.inl ⟨by kernel_rfl, ?_⟩) (by assumption) ?_
    rotate_left
    · (intro wS hSw; (try dsimp only at hSw); obtain ⟨q0, q1, -, -⟩ := hSw.b1.two; obtain ⟨p0, p1, -, -⟩ := hSw.b0.two; clear hSw; refine execV (fun rho hk1 hk2 hk3 hk => ?_); have e14_ := (hk 14).trans (evalP (fg8 (fg1 (fg1 (fg1 (fg1 (fg1 (fg1 fg0)))))))); clear hk; go_simp; (try with_reducible rfl))
    (first | (with_reducible refine wpSeq_put ?_; go_big_move) | (try simp only [Act.put, List.setIfInBounds_toArray, List.set_cons_zero, List.set_cons_succ]))
    refine seq_take (oi := ⟨some 92, _, _, _, _, _⟩) (v := ?_) rfl (Or.inl ⟨by kernel_rfl, ?_⟩) (by assumption) ?_
    rotate_left
    · (intro wS hSw; (try dsimp only at hSw); obtain ⟨q0, q1, -, -⟩ := hSw.b1.two; obtain ⟨p0, p1, -, -⟩ := hSw.b0.two; clear hSw; refine execV (fun rho hk1 hk2 hk3 hk => ?_); have e15_ := (hk 15).trans (evalP (fg8 (fg1 (fg1 (fg1 (fg1 (fg1 (fg1 (fg1 fg0))))))))); clear hk; go_simp; (try with_reducible rfl))
    (first | (with_reducible refine wpSeq_put ?_; go_big_move) | (try simp only [Act.put, List.setIfInBounds_toArray, List.set_cons_zero, List.set_cons_succ]))
    refine seq_step (o := ⟨some 91, _, _, _, _, _⟩) rfl (fun K hK => ?_)
    with_reducible refine wantedP (by kernel_rfl) ?_
    (first | go_big_op | go_simp)
    (refine (HC.out _ f0).mono ?_; rintro e w9 ⟨A10, c10, m10, rfl, hm10, hs10, hb9⟩)
    go_wp2_with fail
    refine hK.out _ _ ?_ (fun _ => ?_)
    · ((try dsimp only); (first | with_reducible exact hMd | with_reducible exact hHeld | with_reducible exact hHeld.call hb9 | with_reducible exact hHeld.call hb10))
    clear hK K
    (first | (with_reducible refine wpSeq_put ?_; go_big_move) | (try simp only [Act.put, List.setIfInBounds_toArray, List.set_cons_zero, List.set_cons_succ]))
    refine gen0 (T := fun W => ((fun W => Mm w W [(g15, 34, #[.int .i64 f8, .slice A9 m9.length c9]), (g14, 24, #[.int .i64 f8, .slice A7 m7.length c7]), (w.heap.size + 1, 28, pta p)] [])) W ∧ SlD W A10 c10 m10 ∧ Below w15.heap.size w15 W ∧ True) ?_ (fun wq2 hT => ?_)
    · exact ⟨by (first | with_reducible exact hMd | with_reducible exact hHeld | with_reducible exact hHeld.call hb9 | with_reducible exact hHeld.call hb10), by (first | with_reducible assumption | exact Below.drew (Below.refl _ _) | exact hs10 | exact bel_call f0 hb9), by (first | with_reducible assumption | exact Below.drew (Below.refl _ _) | exact hs10 | exact bel_call f0 hb9), trivial⟩
    (try clear f0 f1 f2 f3 f4 f5 f6 f7 f8 f9 f10 f11)
    obtain ⟨hHeld, f0, f1, -⟩ := hT
    refine seq_step (o := ⟨some 93, _, _, _, _, _⟩) rfl (fun K hK => ?_)
    with_reducible refine wantedP (by kernel_rfl) ?_
    (first | go_big_op | go_simp)
    (refine (rSSame_any f8 f8 m10 m9 _ f0 (HO.out _ f1)).mono ?_; rintro e w10 ⟨rfl, hb10⟩; rw [show ssame (f8, m10) (f8, m9) = true from by rw [ssame_eq, hm10.out, hm7.out, hm9.out]; simp])
    go_wp2_with fail
    refine hK.out _ _ ?_ (fun _ => ?_)
    · ((try dsimp only); (first | with_reducible exact hMd | with_reducible exact hHeld | with_reducible exact hHeld.call hb9 | with_reducible exact hHeld.call hb10))
    clear hK K
    (first | (with_reducible refine wpSeq_put ?_; go_big_move) | (try simp only [Act.put, List.setIfInBounds_toArray, List.set_cons_zero, List.set_cons_succ]))
    refine gen0 (T := fun W => ((fun W => Mm w W [(g15, 34, #[.int .i64 f8, .slice A9 m9.length c9]), (g14, 24, #[.int .i64 f8, .slice A7 m7.length c7]), (w.heap.size + 1, 28, pta p)] [])) W ∧ True) ?_ (fun wq3 hT => ?_)
    · exact ⟨by (first | with_reducible exact hMd | with_reducible exact hHeld | with_reducible exact hHeld.call hb9 | with_reducible exact hHeld.call hb10), trivial⟩
    (try clear f0 f1 f2 f3 f4 f5 f6 f7 f8 f9 f10 f11)
    obtain ⟨hHeld, -⟩ := hT
    refine seq_take (oi := ⟨some 94, _, _, _, _, _⟩) (v := ?_) rfl (Or.inl ⟨by kernel_rfl, ?_⟩) (by assumption) ?_
    rotate_left
    · (intro wS hSw; (try dsimp only at hSw); obtain ⟨q0, q1, -, -⟩ := hSw.b1.two; obtain ⟨p0, p1, -, -⟩ := hSw.b0.two; clear hSw; refine execV (fun rho hk1 hk2 hk3 hk => ?_); have e93_ := (hk 93).trans (evalP (fg64 (fg8 (fg8 (fg8 (fg1 (fg1 (fg1 (fg1 (fg1 fg0)))))))))); clear hk; go_simp; (try with_reducible rfl))
    (first | (with_reducible refine wpSeq_put ?_; go_big_move) | (try simp only [Act.put, List.setIfInBounds_toArray, List.set_cons_zero, List.set_cons_succ]))
    refine seq_take (oi := ⟨some 95, _, _, _, _, _⟩) (v := ?_) rfl (Or.inl ⟨by kernel_rfl, ?_⟩) (by assumption) ?_
    rotate_left
    · (intro wS hSw; (try dsimp only at hSw); obtain ⟨q0, q1, -, -⟩ := hSw.b1.two; obtain ⟨p0, p1, -, -⟩ := hSw.b0.two; clear hSw; refine execV (fun rho hk1 hk2 hk3 hk => ?_); have e10_ := (hk 10).trans (evalP (fg8 (fg1 (fg1 fg0)))); clear hk; go_simp; (try with_reducible rfl))
    (first | (with_reducible refine wpSeq_put ?_; go_big_move) | (try simp only [Act.put, List.setIfInBounds_toArray, List.set_cons_zero, List.set_cons_succ]))
    refine seq_take (oi := ⟨some 97, _, _, _, _, _⟩) (v := ?_) rfl (Or.inl ⟨by kernel_rfl, ?_⟩) (by assumption) ?_
    rotate_left
    · (intro wS hSw; (try dsimp only at hSw); obtain ⟨q0, q1, -, -⟩ := hSw.b1.two; obtain ⟨p0, p1, -, -⟩ := hSw.b0.two; clear hSw; refine execV (fun rho hk1 hk2 hk3 hk => ?_); have e11_ := (hk 11).trans (evalP (fg8 (fg1 (fg1 (fg1 fg0))))); clear hk; go_simp; (try with_reducible rfl))
    (first | (with_reducible refine wpSeq_put ?_; go_big_move) | (try simp only [Act.put, List.setIfInBounds_toArray, List.set_cons_zero, List.set_cons_succ]))
    refine seq_step (o := ⟨some 96, _, _, _, _, _⟩) rfl (fun K hK => ?_)
    with_reducible refine wantedP (by kernel_rfl) ?_
    (first | go_big_op | go_simp)
    (refine (HNm.out _).mono ?_; rintro e w11 ⟨rfl, rfl⟩)
    go_wp2_with fail
    refine hK.out _ _ ?_ (fun _ => ?_)
    · ((try dsimp only); (first | with_reducible exact hMd | with_reducible exact hHeld | with_reducible exact hHeld.call hb9 | with_reducible exact hHeld.call hb10))
    clear hK K
    (first | (with_reducible refine wpSeq_put ?_; go_big_move) | (try simp only [Act.put, List.setIfInBounds_toArray, List.set_cons_zero, List.set_cons_succ]))
    refine gen0 (T := fun W => ((fun W => Mm w W [(g15, 34, #[.int .i64 f8, .slice A9 m9.length c9]), (g14, 24, #[.int .i64 f8, .slice A7 m7.length c7]), (w.heap.size + 1, 28, pta p)] [])) W ∧ True) ?_ (fun wq4 hT => ?_)
    · exact ⟨by (first | with_reducible exact hMd | with_reducible exact hHeld | with_reducible exact hHeld.call hb9 | with_reducible exact hHeld.call hb10), trivial⟩
    (try clear f0 f1 f2 f3 f4 f5 f6 f7 f8 f9 f10 f11)
    obtain ⟨hHeld, -⟩ := hT
    refine seq_take (oi := ⟨some 98, _, _, _, _, _⟩) (v := ?_) rfl (Or.inl ⟨by kernel_rfl, ?_⟩) (by assumption) ?_
    rotate_left
    · (intro wS hSw; (try dsimp only at hSw); obtain ⟨q0, q1, -, -⟩ := hSw.b1.two; obtain ⟨p0, p1, -, -⟩ := hSw.b0.two; clear hSw; refine execV (fun rho hk1 hk2 hk3 hk => ?_); have e96_ := (hk 96).trans (evalP (fg64 (fg8 (fg8 (fg8 (fg8 fg0)))))); have e97_ := (hk 97).trans (evalP (fg64 (fg8 (fg8 (fg8 (fg8 (fg1 fg0))))))); clear hk; go_simp; (try with_reducible rfl))
    (first | (with_reducible refine wpSeq_put ?_; go_big_move) | (try simp only [Act.put, List.setIfInBounds_toArray, List.set_cons_zero, List.set_cons_succ]))
    refine seq_take (oi := ⟨some 99, _, _, _, _, _⟩) (v := ?_) rfl (Or.inl ⟨by kernel_rfl, ?_⟩) (by assumption) ?_
    rotate_left
    · (intro wS hSw; (try dsimp only at hSw); obtain ⟨q0, q1, -, -⟩ := hSw.b1.two; obtain ⟨p0, p1, -, -⟩ := hSw.b0.two; clear hSw; refine execV (fun rho hk1 hk2 hk3 hk => ?_); have e94_ := (hk 94).trans (evalP (fg64 (fg8 (fg8 (fg8 (fg1 (fg1 (fg1 (fg1 (fg1 (fg1 fg0))))))))))); have e98_ := (hk 98).trans (evalP (fg64 (fg8 (fg8 (fg8 (fg8 (fg1 (fg1 fg0)))))))); clear hk; go_simp; (try with_reducible rfl))
    (first | (with_reducible refine wpSeq_put ?_; go_big_move) | (try simp only [Act.put, List.setIfInBounds_toArray, List.set_cons_zero, List.set_cons_succ]))
    refine seq_take (oi := ⟨some 6, _, _, _, _, _⟩) (v := ?_) rfl (Or.inl ⟨by kernel_rfl, ?_⟩) (by assumption) ?_
    rotate_left
    · (intro wS hSw; (try dsimp only at hSw); obtain ⟨q0, q1, -, -⟩ := hSw.b1.two; obtain ⟨p0, p1, -, -⟩ := hSw.b0.two; clear hSw; refine execV (fun rho hk1 hk2 hk3 hk => ?_); have e99_ := (hk 99).trans (evalP (fg64 (fg8 (fg8 (fg8 (fg8 (fg1 (fg1 (fg1 fg0))))))))); clear hk; go_simp; (try with_reducible rfl))
    (first | (with_reducible refine wpSeq_put ?_; go_big_move) | (try simp only [Act.put, List.setIfInBounds_toArray, List.set_cons_zero, List.set_cons_succ]))
    refine seq_done ?_
    go_wp2_with fail
    go_ret
    exact ⟨rfl, hHeld.bel⟩
set_option maxRecDepth 100000 in
set_option maxHeartbeats 1000000 in
theorem mparts_early {E A : Option Addr} {cap c : Nat} {f : Int} {cs : List CeV} {p : Pt5} {b : List UInt8} (w : World) (h : SlC w E cap cs) (hL : longb (cs.map ceOf) 80 = true ∨ longb (cs.map ceOf) 80 = false ∧ 4000 < b.length) (hm : b.length ≤ 9223372036854775807) :
    Calls Tryz.prog 3 #[cv f E cs.length cap, .agg (pta p), .slice A b.length c] w fun e w' => e = .returned (.bool true) ∧ Below w.heap.size w w' := by
  have hM := ((Mm.start w).alloc #[.int .i64 f, .slice E cs.length cap] 24).alloc (pta p) 28
  rw [show (w.alloc (.cells #[.int .i64 f, .slice E cs.length cap] 24)).heap.size = w.heap.size + 1 from by simp] at hM
  have HLg := Lib.hid (fun W (hh : Below w.heap.size w W) => Long_any cs 80 W (h.below hh))
  go_enter Tryz.func3, Tryz.ntmps3
  go_upto_region 1 with (fail)
  refine gen1 (T := fun W => Mm w W [(w.heap.size + 1, 28, pta p), (w.heap.size, 24, #[.int .i64 f, .slice E cs.length cap])] []) hM (fun w0 hM => ?_)
  go_wp2_with fail
  refine (alive15_any _).mono ?_
  rintro e w1 ⟨rfl, hb1⟩
  have hM1 := hM.call hb1
  clear hM hb1
  obtain ⟨a0, a1, -, -⟩ := hM1.b1.two
  rcases hL with hL | ⟨hL, hlI⟩
  · rw [hL] at HLg
    go_wp2_with fail
    refine (HLg.out _ hM1.bel).mono ?_
    rintro e w2 ⟨rfl, hb2⟩
    have hM2 := hM1.call hb2
    go_wp2_with fail
    go_ret
    exact ⟨rfl, hM2.bel⟩
  · have hlJ : (4000 : Int) < (b.length : Int) := by omega
    rw [hL] at HLg
    go_wp2_with fail
    refine (HLg.out _ hM1.bel).mono ?_
    rintro e w2 ⟨rfl, hb2⟩
    have hM2 := hM1.call hb2
    go_wp2_with fail
    go_ret
    exact ⟨rfl, hM2.bel⟩
theorem mparts_all {E A : Option Addr} {cap c : Nat} {f : Int} {cs : List CeV} {p : Pt5} {b : List UInt8} (w : World) (hG : Shg w) (h : SlC w E cap cs) (hp : I64 p.1 ∧ I64 p.2.1 ∧ I64 p.2.2.1) (hb : SlB w A c b) :
    Calls Tryz.prog 3 #[cv f E cs.length cap, .agg (pta p), .slice A b.length c] w fun e w' => e = .returned (.bool true) ∧ Below w.heap.size w w' := by
  have hm := hb.len_le
  unfold maxLen at hm
  cases hL : longb (cs.map ceOf) 80
  · rcases Nat.lt_or_ge 4000 b.length with hl | hl
    · exact mparts_early w h (.inr ⟨hL, hl⟩) (by omega)
    · exact mparts_walk w hG h hb hL hl
  · exact mparts_early w h (.inl hL) (by omega)
end Go.Proofs.YtabnndjdkjkciaaGreatDoor

namespace Go.Proofs.YtabnndjdkjkciaaGreatDoor
open Go.ChangeShapes Go.WideShapes Go.ChangeAt Go.RowKit Go.Deep

/-- a slice of structs of one-cell fields, as a struct's field -/
theorem open_structsF {H : Type} {enc : TypeId × Value → H} {P : Program} {w : World} {base : Nat} {held : Bool} {t e : TypeId} {v : Value} {fs : Array Field}
    {T : Type} (f : T → List Value) (Q : T → Prop) (hfl : ∀ x, (f x).length = fs.size)
    (ht : P.underlying t = some (.slice e)) (he : P.underlying e = some (.struct fs)) (hone : oneCellFields P fs = true) (hC : P.cellsOf e = fs.size)
    (hel : ∀ vs : List Value, vs.length = fs.size → (∀ (j : Nat) (fd : Field), fs[j]? = some fd → ∃ (u : Value) (n : Nat) (y : DataW H × List MemPlace), vs[j]? = some u ∧ DataW.trod enc P w base (fun _ => true) held n fd.type [u] = some y) → ∃ x : T, f x = vs ∧ Q x)
    {fuel : Nat} {yy : DataW H × List MemPlace} (hf : DataW.trod enc P w base (fun _ => true) held fuel t [v] = some yy) :
    ∃ (A : Option Addr) (c : Nat) (l : List T), v = .slice A l.length c ∧ Sl w fs.size A l.length c (l.flatMap f) ∧ ∀ x ∈ l, Q x := by
  rcases open_slice_fields ht he hone hC hf with ⟨hcs, _⟩ | ⟨a, n, c, m, D, Pl, hcs, _, hl, hm, hmm, _, hi⟩
  · simp at hcs
    subst hcs
    exact ⟨none, 0, [], rfl, by simpa using Sl.none_ w fs.size, fun x hx => by simp at hx⟩
  · simp at hcs
    subst hcs
    simp only [if_true] at hmm
    subst hmm
    have hx : ∀ i, i < n → ∃ x : T, Q x ∧ ∀ j u, (f x)[j]? = some u → w.cell? (a.add (i * fs.size + j)) = some u := by
      intro i hin
      obtain ⟨ys, nn, _, _, _, hfd⟩ := hi i (by omega)
      have hc : ∀ j, j < fs.size → ∃ u : Value, w.cell? (a.add (i * fs.size + j)) = some u ∧ ∃ y : DataW H × List MemPlace, DataW.trod enc P w base (fun _ => true) held nn (fs[j]!).type [u] = some y := by
        intro j hj
        obtain ⟨u, y, h1, _, h3⟩ := hfd j fs[j] (by simp [hj])
        exact ⟨u, h1, y, by simpa [hj] using h3⟩
      obtain ⟨vs, hvl, hvr⟩ := list_choice (fun j u => w.cell? (a.add (i * fs.size + j)) = some u ∧ ∃ y : DataW H × List MemPlace, DataW.trod enc P w base (fun _ => true) held nn (fs[j]!).type [u] = some y) fs.size hc
      obtain ⟨x, hxe, hxq⟩ := hel vs hvl fun j fd hj => by
        have hjl : j < fs.size := (Array.getElem?_eq_some_iff.1 hj).1
        obtain ⟨_, y, hy⟩ := hvr j (by omega)
        have hfe : fs[j]! = fd := by
          have := (Array.getElem?_eq_some_iff.1 hj).2
          simp [hjl, this]
        rw [hfe] at hy
        exact ⟨vs[j], nn, y, List.getElem?_eq_getElem (by omega), hy⟩
      refine ⟨x, hxq, fun j u hj => ?_⟩
      rw [hxe] at hj
      obtain ⟨hjl, hju⟩ := List.getElem?_eq_some_iff.1 hj
      rw [← hju]
      exact (hvr j hjl).1
    obtain ⟨l, hll, hlr⟩ := list_choice _ n hx
    refine ⟨some a, _, l, by rw [hll], ⟨flat_len hfl l, by omega, hm, (fun h => by cases h), fun j u hj => ⟨a, rfl, ?_⟩⟩, fun x hx => ?_⟩
    · rcases Nat.eq_zero_or_pos fs.size with h0 | h0
      · have := (List.getElem?_eq_some_iff.1 hj).1
        rw [flat_len hfl, h0] at this
        omega
      · have hjl := (List.getElem?_eq_some_iff.1 hj).1
        rw [flat_len hfl] at hjl
        have hk : j / fs.size < l.length := by rw [Nat.div_lt_iff_lt_mul h0]; exact hjl
        have hr : j % fs.size < fs.size := Nat.mod_lt _ h0
        have he := flat_get hfl l (j / fs.size) (j % fs.size) hk hr
        have hj2 : j / fs.size * fs.size + j % fs.size = j := by rw [Nat.mul_comm]; exact Nat.div_add_mod _ _
        rw [hj2, hj] at he
        have := (hlr _ hk).2 _ _ he.symm
        rwa [hj2] at this
    · obtain ⟨i, hi, rfl⟩ := List.getElem_of_mem hx
      exact (hlr i hi).1

section
variable {H : Type} {enc : TypeId × Value → H} {P : Program} {w : World} {base b0 : Nat} {held : Bool} {r : Reach} {t e b u : TypeId} {v : Value} {d : DataW H} {p : List MemPlace}
theorem open_seg {g0 g1 f0 f1 : Field} (hs : P.underlying t = some (.struct #[g0, g1])) (hg0 : P.underlying g0.type = some (.int .i64)) (hg1 : P.underlying g1.type = some (.slice b)) (hb : P.underlying b = some (.struct #[f0, f1])) (h0 : P.underlying f0.type = some (.int .i64)) (h1 : P.underlying f1.type = some (.slice e)) (he : P.underlying e = some (.int .u8))
    (hCe : P.cellsOf e = 1) (hone : oneCellFields P #[f0, f1] = true) (hC : P.cellsOf b = 2) (hone2 : oneCellFields P #[g0, g1] = true) (hC2 : P.cellsOf t = 2) (hv : Value.okWide P w r b0 t v) (h : DataW.Trod enc P w base (fun _ => true) held t v d p) :
    ∃ (k : Int) (A : Option Addr) (c : Nat) (l : List CeV), v = cv k A l.length c ∧ SlC w A c l := by
  obtain ⟨v0, v1, y0, y1, n, rfl, _, _, q0, q1⟩ := Go.Joins.open_agg2 hs hone2 hC2 hv h
  obtain ⟨k, rfl, hk⟩ := int_cell hg0 q0
  obtain ⟨A, c, l, rfl, hl, hq⟩ := open_structsF cf (fun x => I64 x.1 ∧ SlB w x.2.1 x.2.2.1 x.2.2.2) (fun _ => rfl) hg1 hb hone hC (by
    intro vs hl hf
    obtain ⟨u0, n0, y0, e0, t0⟩ := hf 0 f0 rfl
    obtain ⟨u1, n1, y1, e1, t1⟩ := hf 1 f1 rfl
    obtain ⟨k, rfl, hk⟩ := int_cell h0 t0
    obtain ⟨A, c, l, rfl, hb⟩ := bytes_cell h1 he hCe t1
    match vs, hl with
    | [x0, x1], _ =>
      simp at e0 e1
      exact ⟨(k, A, c, l), by simp [cf, e0, e1], hk, hb⟩) q1
  exact ⟨k, A, c, l, rfl, ⟨hl, fun x hx => (hq x hx).2⟩⟩
end
end Go.Proofs.YtabnndjdkjkciaaGreatDoor
