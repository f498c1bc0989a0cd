/- WHAT IT HOLDS: the document's Take of cursors, walked. -/
import Derived.Test.YtgfigkenpmmdeaaManifestTakesG17
namespace Go.Proofs.Ytgfigkenpmmdeaa
open Go.RowKit
attribute [local go_sem ↓] Go.wp_at_zero Go.wp_at_succ

/-- a cursor, and an error's number, as the document's -/
def GivesCd2 (w0 : World) (r : Cur × Nat) (e : Ending) (w' : World) : Prop :=
  ∃ A c m, e = .returned (.tuple #[crv r.1.1 r.1.2.1 r.1.2.2.1 r.1.2.2.2.1 A (List.length m) c, .int .i64 (r.2 : Nat)]) ∧ Hid (m = r.1.2.2.2.2) ∧ OwnR w' w0.heap.size A c m ∧ Below w0.heap.size w0 w'
theorem built_p1 (a : Int) : Try.prog.built 83 [(0, .int .i64 a)] = some (pta (a, 0, 0, dg0)) := by kernel_rfl
theorem wpl_buildP1 {ops : Array Oper} {rest : List Oper} {o : Oper} {a : Act} {w : World} {Q : Exit → Act → World → Prop} (hgd : o.guard = none) (x0 : Operand) (ho : o.op = .build 83 #[(0, x0)])
    {f : Int} (h0 : a.eval x0 = .int .i64 f)
    (h : wpList Try.prog ops Q rest (a.put o.dst (.agg (pta (f, 0, 0, dg0)))) w) : wpList Try.prog ops Q (o :: rest) a w := by
  have hl : ((#[(0, x0)] : Array (Nat × Operand)).map fun (i, x) => (i, a.eval x)).toList = [(0, .int .i64 f)] := by
    simp [h0]
  refine wpList_build hgd 83 _ ho ?_ ?_
  · rw [hl, built_p1]; rfl
  · rw [hl, built_p1]; exact h
theorem rNum_le {s s5 : List UInt8 × Nat} {n : Nat} (h : rNum s = (n, s5)) (hn : ¬ (s5.2 = 0 ∧ 1024 < n)) : n ≤ 1024 ∧ (if 1024 < n then rFail 3 s5 else s5) = s5 := by
  have hle : n ≤ 1024 := by
    rcases Decidable.em (s5.2 = 0) with h0 | h0
    · have : ¬ 1024 < n := fun h1 => hn ⟨h0, h1⟩
      omega
    · have : n = 0 := by
        unfold rNum at h
        split at h
        · injection h with h _; exact h.symm
        · split at h
          · injection h with h _; exact h.symm
          · injection h with _ h; rw [← h] at h0; exact absurd rfl h0
      omega
  exact ⟨hle, if_neg (by omega)⟩
theorem crTake_long {b m1 : List UInt8} {s1 s2 s3 s4 s5 : List UInt8 × Nat} {f nx tt q n : Nat} (h : crTake b = crEnd (crRead (m1, 0))) (h1 : rWithin 1048576 (m1, 0) = (f, s1)) (h2 : rWithin 1048576 s1 = (nx, s2)) (h3 : rWithin 1048576 s2 = (tt, s3)) (h4 : rWithin 1048576 s3 = (q, s4)) (h5 : rNum s4 = (n, s5)) (h6 : s5.2 = 0) (h7 : 1024 < n) :
    crTake b = ((0, 0, 0, 0, []), 3) := by
  have hf : (if 1024 < n then rFail 3 s5 else s5) = (s5.1, 3) := by rw [if_pos h7]; unfold rFail; rw [if_pos h6]
  have hr := crRead_eq h1 h2 h3 h4 h5 hf
  have hb := crLoop_bad (min n 1024) (f : Int) (s5.1, 3) (by simp)
  rw [h, hr]
  rw [hb]
  have he : rEnd (s5.1, 3) = 3 := by unfold rEnd; rw [if_neg (by simp)]
  rw [crEnd_1 (by dsimp only; rw [he]; decide)]
  dsimp only
  rw [he]
set_option maxRecDepth 100000 in
set_option maxHeartbeats 2000000 in
theorem rCTake_any (A : Option Addr) (c : Nat) (b : List UInt8) (w : World) (hs : SlB w A c b) (hl : b.length ≤ 1000000) :
    Calls Try.prog 15 #[.slice A b.length c] w (GivesCd2 w (crTake b)) := by
  have hM := (Mm.start w).alloc crz 50
  have hfl := foneLen b
  go_enter Try.func15, Try.ntmps15
  go_wp2_with fail
  refine (rFTake_any A c b _ (hs.below hM.bel) (by omega)).mono ?_
  rintro e w1 ⟨A1, c1, m1, rfl, hm1, hs1, hb1, -⟩
  replace hM := hM.call hb1
  clear hb1
  have hfo : fone b = if (ftake b).2.2 ≠ 0 then ([], (ftake b).2.2) else if (ftake b).2.1 < b.length then ([], 2) else ((ftake b).1, 0) := rfl
  generalize ftake b = fb at *
  obtain ⟨ft, fn, fbad⟩ := fb
  dsimp only at *
  have hA : fbad ≠ 0 → fone b = ([], fbad) := fun h => by rw [hfo, if_pos h]
  have hB : fbad = 0 → fn < b.length → fone b = ([], 2) := fun h h2 => by rw [hfo, if_neg (by omega), if_pos h2]
  have hC : fbad = 0 → ¬ fn < b.length → fone b = (ft, 0) := fun h h2 => by rw [hfo, if_neg (by omega), if_neg h2]
  clear hfo
  rcases Decidable.em (fbad = 0) with h0 | h0
  · have hb1 : ((fbad : Int) == 0) = true := by rw [h0]; rfl
    have hb2 : ((fbad : Int) != 0) = false := by rw [h0]; rfl
    rcases Nat.lt_or_ge fn b.length with hn | hn
    · have HT := Lib.hid (show crTake b = ((0, 0, 0, 0, []), 2) from by unfold crTake; rw [hB h0 hn]; rfl)
      have hnI : (fn : Int) < (b.length : Int) := by omega
      clear hA hB hC hfl h0
      obtain ⟨r0, r1, r2, r3, r4, rf0, rf1, rf2, rf3, rf4⟩ := Blk.five (hM.b0)
      go_wp2_with fail
      exact bodyPost_ret (res_rc2 rfl rfl (g := w.heap.size) (Blk.set5 (hM.b0) _ _ _ _ _)) rfl ⟨none, 0, [], by rw [HT.out]; rfl, (show _ = _ from by rw [HT.out]), Own.none_ _ _ _ _, bel_set5 hM.bel (Nat.le_refl _) _ _ _ _ _⟩
    · have HT0 : Hid (crTake b = crEnd (crRead (m1, 0))) := (show _ = _ from by unfold crTake; rw [hC h0 (by omega), if_neg (by simp), hm1.out])
      have hnI : (b.length : Int) ≤ (fn : Int) := by omega
      have hm1l : m1.length ≤ 1000000 := by
        rw [hC h0 (by omega)] at hfl
        rw [hm1.out]
        dsimp only at hfl
        omega
      have hBd : m1 ≠ [] → ∀ ad, A1 = some ad → ad.block < w1.heap.size := fun hne ad hA => Sl.lt0 hs1 (by cases m1 with | nil => exact absurd rfl hne | cons x r => exact List.cons_ne_nil _ _) ad.block (by rw [hA]; rfl)
      obtain ⟨f, s1, h1⟩ : ∃ n s, rWithin 1048576 (m1, 0) = (n, s) := ⟨_, _, rfl⟩
      obtain ⟨nx, s2, h2⟩ : ∃ n s, rWithin 1048576 s1 = (n, s) := ⟨_, _, rfl⟩
      obtain ⟨tt, s3, h3⟩ : ∃ n s, rWithin 1048576 s2 = (n, s) := ⟨_, _, rfl⟩
      obtain ⟨q, s4, h4⟩ : ∃ n s, rWithin 1048576 s3 = (n, s) := ⟨_, _, rfl⟩
      have hfb : f ≤ 1048576 := by have := rWithin_le 1048576 (m1, 0); rw [h1] at this; exact this
      have H1 := Lib.hid h1
      have H2 := Lib.hid h2
      have H3 := Lib.hid h3
      have H4 := Lib.hid h4
      clear hA hB hC hfl h0 hm1 h1 h2 h3 h4
      have hB0 : w.heap.size < w1.heap.size := hM.b0.lt
      go_upto_region 7 with (fail)
      have hMx := hM.alloc #[.slice A1 m1.length c1, .int .i64 0] 75
      have hSx := hs1.below (below_new w1 (.cells #[.slice A1 m1.length c1, .int .i64 0] 75))
      have hzx : w1.heap.size < (w1.alloc (.cells #[.slice A1 m1.length c1, .int .i64 0] 75)).heap.size := by simp
      generalize w1.heap.size = gr at *
      refine gen1 (T := fun W => (Mm w W [(gr, 75, #[.slice A1 m1.length c1, .int .i64 0]), (w.heap.size, 50, crz)] [] ∧ SlB W A1 c1 m1) ∧ gr < W.heap.size) ⟨⟨hMx, hSx⟩, hzx⟩ (fun w2 hT => ?_)
      clear hMx hSx hM hs1 hzx
      obtain ⟨⟨hM, hS⟩, hz⟩ := hT
      go_upto_region 8 with (fail)
      have hMx := hM.alloc crz 50
      have hSx := hS.below (below_new w2 (.cells crz 50))
      generalize w2.heap.size = gq at *
      refine gen1 (T := fun W => Mm w W [(gq, 50, crz), (gr, 75, #[.slice A1 m1.length c1, .int .i64 0]), (w.heap.size, 50, crz)] [] ∧ SlB W A1 c1 m1) ⟨hMx, hSx⟩ (fun w3 hT => ?_)
      clear hMx hSx hM hS
      obtain ⟨hM, hS⟩ := hT
      obtain ⟨x0, x1, xf0, xf1⟩ := Blk.two hM.b1
      go_wp2_with fail
      refine (rWithin_v18 (s := (m1, 0)) 1048576 _ hS hBd).mono ?_
      rintro e wn ⟨v, rfl, ⟨An, cn, rfl, hSn, hBdn⟩, hbn⟩
      rw [H1.out] at hSn hBdn ⊢
      dsimp only at hSn hBdn ⊢
      replace hM := hM.call hbn
      clear hS hBd hbn x0 x1 xf0 xf1
      obtain ⟨x0, x1, xf0, xf1⟩ := Blk.two hM.b1
      obtain ⟨q0, q1, q2, q3, q4, qf0, qf1, qf2, qf3, qf4⟩ := Blk.five hM.b0
      go_upto_region 9 with (fail)
      have hMx := ((hM.set 0 0 (.int .i64 (f : Nat)) rfl).set 1 0 (.slice An s1.1.length cn) rfl).set 1 1 (.int .i64 (s1.2 : Nat)) rfl
      have hSx := SlB.setB (i := 1) (SlB.setB (i := 0) (SlB.setB (k := gq) (i := 0) hSn hBdn (by omega) (.int .i64 (f : Nat))) (k := gr) hBdn (by omega) (.slice An s1.1.length cn)) (k := gr) hBdn (by omega) (.int .i64 (s1.2 : Nat))
      refine gen1 (T := fun W => Mm w W [(gq, 50, #[.int .i64 (f : Nat), .int .i64 0, .int .i64 0, .int .i64 0, .slice none 0 0]), (gr, 75, #[.slice An s1.1.length cn, .int .i64 (s1.2 : Nat)]), (w.heap.size, 50, crz)] [] ∧ SlB W An cn s1.1) ⟨hMx, hSx⟩ (fun wm hT => ?_)
      clear hMx hSx hM hSn x0 x1 xf0 xf1 q0 q1 q2 q3 q4 qf0 qf1 qf2 qf3 qf4
      obtain ⟨hM, hS⟩ := hT
      have hBd := hBdn
      clear hBdn
      obtain ⟨x0, x1, xf0, xf1⟩ := Blk.two hM.b1
      go_wp2_with fail
      refine (rWithin_v18 (s := s1) 1048576 _ hS hBd).mono ?_
      rintro e wn ⟨v, rfl, ⟨An, cn, rfl, hSn, hBdn⟩, hbn⟩
      rw [H2.out] at hSn hBdn ⊢
      dsimp only at hSn hBdn ⊢
      replace hM := hM.call hbn
      clear hS hBd hbn x0 x1 xf0 xf1
      obtain ⟨x0, x1, xf0, xf1⟩ := Blk.two hM.b1
      obtain ⟨q0, q1, q2, q3, q4, qf0, qf1, qf2, qf3, qf4⟩ := Blk.five hM.b0
      go_upto_region 10 with (fail)
      have hMx := ((hM.set 0 1 (.int .i64 (nx : Nat)) rfl).set 1 0 (.slice An s2.1.length cn) rfl).set 1 1 (.int .i64 (s2.2 : Nat)) rfl
      have hSx := SlB.setB (i := 1) (SlB.setB (i := 0) (SlB.setB (k := gq) (i := 1) hSn hBdn (by omega) (.int .i64 (nx : Nat))) (k := gr) hBdn (by omega) (.slice An s2.1.length cn)) (k := gr) hBdn (by omega) (.int .i64 (s2.2 : Nat))
      refine gen1 (T := fun W => Mm w W [(gq, 50, #[.int .i64 (f : Nat), .int .i64 (nx : Nat), .int .i64 0, .int .i64 0, .slice none 0 0]), (gr, 75, #[.slice An s2.1.length cn, .int .i64 (s2.2 : Nat)]), (w.heap.size, 50, crz)] [] ∧ SlB W An cn s2.1) ⟨hMx, hSx⟩ (fun wm hT => ?_)
      clear hMx hSx hM hSn x0 x1 xf0 xf1 q0 q1 q2 q3 q4 qf0 qf1 qf2 qf3 qf4
      obtain ⟨hM, hS⟩ := hT
      have hBd := hBdn
      clear hBdn
      obtain ⟨x0, x1, xf0, xf1⟩ := Blk.two hM.b1
      go_wp2_with fail
      refine (rWithin_v18 (s := s2) 1048576 _ hS hBd).mono ?_
      rintro e wn ⟨v, rfl, ⟨An, cn, rfl, hSn, hBdn⟩, hbn⟩
      rw [H3.out] at hSn hBdn ⊢
      dsimp only at hSn hBdn ⊢
      replace hM := hM.call hbn
      clear hS hBd hbn x0 x1 xf0 xf1
      obtain ⟨x0, x1, xf0, xf1⟩ := Blk.two hM.b1
      obtain ⟨q0, q1, q2, q3, q4, qf0, qf1, qf2, qf3, qf4⟩ := Blk.five hM.b0
      go_upto_region 11 with (fail)
      have hMx := ((hM.set 0 2 (.int .i64 (tt : Nat)) rfl).set 1 0 (.slice An s3.1.length cn) rfl).set 1 1 (.int .i64 (s3.2 : Nat)) rfl
      have hSx := SlB.setB (i := 1) (SlB.setB (i := 0) (SlB.setB (k := gq) (i := 2) hSn hBdn (by omega) (.int .i64 (tt : Nat))) (k := gr) hBdn (by omega) (.slice An s3.1.length cn)) (k := gr) hBdn (by omega) (.int .i64 (s3.2 : Nat))
      refine gen1 (T := fun W => Mm w W [(gq, 50, #[.int .i64 (f : Nat), .int .i64 (nx : Nat), .int .i64 (tt : Nat), .int .i64 0, .slice none 0 0]), (gr, 75, #[.slice An s3.1.length cn, .int .i64 (s3.2 : Nat)]), (w.heap.size, 50, crz)] [] ∧ SlB W An cn s3.1) ⟨hMx, hSx⟩ (fun wm hT => ?_)
      clear hMx hSx hM hSn x0 x1 xf0 xf1 q0 q1 q2 q3 q4 qf0 qf1 qf2 qf3 qf4
      obtain ⟨hM, hS⟩ := hT
      have hBd := hBdn
      clear hBdn
      obtain ⟨x0, x1, xf0, xf1⟩ := Blk.two hM.b1
      go_wp2_with fail
      refine (rWithin_v18 (s := s3) 1048576 _ hS hBd).mono ?_
      rintro e wn ⟨v, rfl, ⟨An, cn, rfl, hSn, hBdn⟩, hbn⟩
      rw [H4.out] at hSn hBdn ⊢
      dsimp only at hSn hBdn ⊢
      replace hM := hM.call hbn
      clear hS hBd hbn x0 x1 xf0 xf1
      obtain ⟨x0, x1, xf0, xf1⟩ := Blk.two hM.b1
      obtain ⟨q0, q1, q2, q3, q4, qf0, qf1, qf2, qf3, qf4⟩ := Blk.five hM.b0
      go_upto_region 12 with (fail)
      have hMx := ((hM.set 0 3 (.int .i64 (q : Nat)) rfl).set 1 0 (.slice An s4.1.length cn) rfl).set 1 1 (.int .i64 (s4.2 : Nat)) rfl
      have hSx := SlB.setB (i := 1) (SlB.setB (i := 0) (SlB.setB (k := gq) (i := 3) hSn hBdn (by omega) (.int .i64 (q : Nat))) (k := gr) hBdn (by omega) (.slice An s4.1.length cn)) (k := gr) hBdn (by omega) (.int .i64 (s4.2 : Nat))
      refine gen1 (T := fun W => Mm w W [(gq, 50, #[.int .i64 (f : Nat), .int .i64 (nx : Nat), .int .i64 (tt : Nat), .int .i64 (q : Nat), .slice none 0 0]), (gr, 75, #[.slice An s4.1.length cn, .int .i64 (s4.2 : Nat)]), (w.heap.size, 50, crz)] [] ∧ SlB W An cn s4.1) ⟨hMx, hSx⟩ (fun wm hT => ?_)
      clear hMx hSx hM hSn x0 x1 xf0 xf1 q0 q1 q2 q3 q4 qf0 qf1 qf2 qf3 qf4
      obtain ⟨hM, hS⟩ := hT
      have hBd := hBdn
      clear hBdn
      obtain ⟨n, s5, hn5⟩ : ∃ n s, rNum s4 = (n, s) := ⟨_, _, rfl⟩
      have HN5 := Lib.hid hn5
      clear hn5
      obtain ⟨x0, x1, xf0, xf1⟩ := Blk.two hM.b1
      go_wp2_with fail
      refine (rNumber_v (s := s4) _ hS hBd).mono ?_
      rintro e wn ⟨v, rfl, ⟨An, cn, rfl, hSn, hBdn⟩, hbn⟩
      rw [HN5.out] at hSn hBdn ⊢
      dsimp only at hSn hBdn ⊢
      replace hM := hM.call hbn
      clear hS hBd hbn x0 x1 xf0 xf1
      obtain ⟨x0, x1, xf0, xf1⟩ := Blk.two hM.b1
      go_upto_region 13 with (fail)
      have hMx := (hM.set 1 0 (.slice An s5.1.length cn) rfl).set 1 1 (.int .i64 (s5.2 : Nat)) rfl
      have hSx := SlB.setB (i := 1) (SlB.setB (i := 0) (k := gr) hSn hBdn (by omega) (.slice An s5.1.length cn)) (k := gr) hBdn (by omega) (.int .i64 (s5.2 : Nat))
      refine gen1 (T := fun W => Mm w W [(gq, 50, #[.int .i64 (f : Nat), .int .i64 (nx : Nat), .int .i64 (tt : Nat), .int .i64 (q : Nat), .slice none 0 0]), (gr, 75, #[.slice An s5.1.length cn, .int .i64 (s5.2 : Nat)]), (w.heap.size, 50, crz)] [] ∧ SlB W An cn s5.1) ⟨hMx, hSx⟩ (fun wm hT => ?_)
      clear hMx hSx hM hSn x0 x1 xf0 xf1
      obtain ⟨hM, hS⟩ := hT
      have hBd := hBdn
      clear hBdn
      obtain ⟨x0, x1, xf0, xf1⟩ := Blk.two hM.b1
      rcases Decidable.em (s5.2 = 0 ∧ 1024 < n) with hlong | hlong
      · have hb : (((s5.2 : Nat) : Int) == 0) = true := by rw [hlong.1]; rfl
        have hnI2 : (1024 : Int) < (n : Int) := by have := hlong.2; omega
        have HT := Lib.hid (crTake_long HT0.out H1.out H2.out H3.out H4.out HN5.out hlong.1 hlong.2)
        clear hlong
        obtain ⟨r0, r1, r2, r3, r4, rf0, rf1, rf2, rf3, rf4⟩ := Blk.five (hM.b2)
        go_wp2_with fail
        exact bodyPost_ret (res_rc2 rfl rfl (g := w.heap.size) (Blk.set5 (hM.b2) _ _ _ _ _)) rfl ⟨none, 0, [], by rw [HT.out]; rfl, (show _ = _ from by rw [HT.out]), Own.none_ _ _ _ _, bel_set5 hM.bel (Nat.le_refl _) _ _ _ _ _⟩
      · have hn1024 := (rNum_le HN5.out hlong).1
        have HC := Lib.hid (crRead_eq H1.out H2.out H3.out H4.out HN5.out (rNum_le HN5.out hlong).2)
        have hs5l : s5.1.length ≤ 1000000 := by
          have l1 := rWithin_len 1048576 (m1, 0)
          have l2 := rWithin_len 1048576 s1
          have l3 := rWithin_len 1048576 s2
          have l4 := rWithin_len 1048576 s3
          have l5 := rNum_len s4
          rw [H1.out] at l1
          rw [H2.out] at l2
          rw [H3.out] at l3
          rw [H4.out] at l4
          rw [HN5.out] at l5
          dsimp only at l1 l2 l3 l4 l5
          omega
        rw [show min n 1024 = n from by omega] at HC
        clear H1 H2 H3 H4
        go_cut [74] (fun s74 wz => s74 = .bool false ∧ wz = wm)
        case first =>
          rcases Decidable.em (s5.2 = 0) with h5 | h5
          · have hb : (((s5.2 : Nat) : Int) == 0) = true := by rw [h5]; rfl
            have hnI2 : (n : Int) ≤ 1024 := by omega
            clear h5 hlong
            go_wp2_with fail
            go_meet
            exact ⟨by simp; omega, rfl⟩
          · have hb : (((s5.2 : Nat) : Int) == 0) = false := by rw [beq_eq_false_iff_ne]; omega
            clear h5 hlong
            go_wp2_with fail
            go_meet
            exact ⟨rfl, rfl⟩
        case rest =>
          obtain ⟨rfl, rfl⟩ := hcut
          clear HN5 hlong
          obtain ⟨q0, q1, q2, q3, q4, -⟩ := Blk.five hM.b0
          go_wp2_with fail
          go_loopw [11, 10] (fun x y wr => ∃ (k : Nat) (E : Option Addr) (cE : Nat) (m : List Pt5) (s : List UInt8 × Nat) (A2 : Option Addr) (c2 : Nat), k ≤ n ∧ x = .int .u64 (k : Nat) ∧ y = .int .i64 (pend (f : Nat) m) ∧ Hid (crLoop k (f : Nat) s5 = (m, s)) ∧ Mm w wr [(gq, 50, #[.int .i64 (f : Nat), .int .i64 (nx : Nat), .int .i64 (tt : Nat), .int .i64 (q : Nat), .slice E m.length cE]), (gr, 75, #[.slice A2 s.1.length c2, .int .i64 (s.2 : Nat)]), (w.heap.size, 50, crz)] [E.map (·.block)] ∧ SlB wr A2 c2 s.1 ∧ (s.1 ≠ [] → ∀ ad, A2 = some ad → ad.block < gr) ∧ OwnR wr (gq + 1) E cE m) (fun x y wr => n - (intOf x).toNat)
          case atStart => exact ⟨0, none, 0, [], s5, An, cn, Nat.zero_le _, rfl, rfl, (show _ = _ from rfl), hM.add (by simp), hS, hBd, Own.none_ _ _ _ _⟩
          case round =>
            obtain ⟨k, E, cE, m, s, A2, c2, hk, rfl, rfl, hm, hMr, hSr, hBr, hOr⟩ := hrel
            clear hM hS hBd x0 x1 xf0 xf1 q0 q1 q2 q3 q4
            obtain ⟨x0, x1, xf0, xf1⟩ := Blk.two hMr.b1
            rcases Decidable.em (k < n ∧ s.2 = 0) with ⟨hlt, hs0⟩ | hend
            · have hkI : (k : Int) < (n : Int) := by omega
              have hb : (((s.2 : Nat) : Int) == 0) = true := by rw [hs0]; rfl
              clear hs0
              have hsl : s.1.length ≤ 1000000 := by have := crLoop_left k (f : Int) s5; rw [hm.out] at this; dsimp only at this; omega
              have hbd : (f : Int) ≤ pend (f : Int) m ∧ pend (f : Int) m ≤ f + 64 * k := by have := crLoop_bd s5 (f : Int) k; rw [hm.out] at this; exact this
              have hml : Hid (m.length = k) := (show _ = _ from by have := crLoop_len k (f : Int) s5; rw [hm.out] at this; exact this)
              have hsu := crLoop_succ k (f : Int) s5
              rw [hm.out] at hsu
              dsimp only at hsu
              obtain ⟨y1, s6, h6⟩ : ∃ n s', rWithin 64 s = (n, s') := ⟨_, _, rfl⟩
              obtain ⟨y2, s7, h7⟩ : ∃ n s', rWithin 65536 s6 = (n, s') := ⟨_, _, rfl⟩
              obtain ⟨mf, s8, h8⟩ : ∃ n s', rFixed 32 s7 = (n, s') := ⟨_, _, rfl⟩
              have hmf := rFixed32 s7
              rw [h8] at hmf
              have hy1 : y1 ≤ 64 := by have := rWithin_le 64 s; rw [h6] at this; exact this
              have H6 := Lib.hid h6
              have H7 := Lib.hid h7
              have H8 := Lib.hid h8
              obtain ⟨dg, hdg⟩ : ∃ d, (if h : mf.length = 32 then (⟨mf, h⟩ : Dg) else dg0) = d := ⟨_, rfl⟩
              have hrp : rPart (pend (f : Int) m) s = ((pend (f : Int) m, (y1 : Int), (y2 : Int), dg), s8) := by
                unfold rPart rDg
                simp only [h6, h7, h8, hdg]
              rw [hrp] at hsu
              dsimp only at hsu
              have HSU := Lib.hid hsu
              clear h6 h7 h8 hrp hsu
              have hlx := hMr.b0.lt
              go_upto_region 20 with (first | (refine wpl_buildP1 rfl _ rfl (f := pend (f : Int) m) rfl ?_) | (refine wpl_storeN rfl 83 _ _ rfl _ (pta (pend (f : Int) m, 0, 0, dg0)) 83 rfl rfl (by rw [pta_size]; kernel_rfl) (by rw [pta_size]; rfl) (pta_all _) ?_))
              have hMx := hMr.alloc (pta (pend (f : Int) m, 0, 0, dg0)) 83
              have hSx := hSr.below (below_new wr (.cells (pta (pend (f : Int) m, 0, 0, dg0)) 83))
              have hOx := World.ownsRow.alloc hOr (.cells (pta (pend (f : Int) m, 0, 0, dg0)) 83)
              generalize wr.heap.size = gp at *
              refine gen1 (T := fun W => (Mm w W [(gp, 83, pta (pend (f : Int) m, 0, 0, dg0)), (gq, 50, #[.int .i64 (f : Nat), .int .i64 (nx : Nat), .int .i64 (tt : Nat), .int .i64 (q : Nat), .slice E m.length cE]), (gr, 75, #[.slice A2 s.1.length c2, .int .i64 (s.2 : Nat)]), (w.heap.size, 50, crz)] [E.map (·.block)] ∧ SlB W A2 c2 s.1) ∧ OwnR W (gq + 1) E cE m) ⟨⟨hMx, hSx⟩, hOx⟩ (fun wm hT => ?_)
              clear hMx hSx hOx hMr hSr hOr x0 x1 xf0 xf1
              obtain ⟨⟨hM, hS⟩, hO⟩ := hT
              have hBd := hBr
              clear hBr
              obtain ⟨x0, x1, xf0, xf1⟩ := Blk.two hM.b2
              go_wp2_with fail
              refine (rWithin_v18 (s := s) 64 _ hS hBd).mono ?_
              rintro e wn ⟨v, rfl, ⟨An, cn, rfl, hSn, hBdn⟩, hbn⟩
              rw [H6.out] at hSn hBdn ⊢
              dsimp only at hSn hBdn ⊢
              replace hM := hM.call hbn
              replace hO := Own.below hO hbn
              clear hS hBd hbn x0 x1 xf0 xf1
              obtain ⟨x0, x1, xf0, xf1⟩ := Blk.two hM.b2
              have qf := hM.b0.frozen 1
              have qc := (Bl3 hM.b0)
              obtain ⟨qc0, qc1, qc2⟩ := qc
              go_upto_region 21 with (fail)
              have hMx := ((hM.set 0 1 (.int .i64 (y1 : Nat)) rfl).set 2 0 (.slice An s6.1.length cn) rfl).set 2 1 (.int .i64 (s6.2 : Nat)) rfl
              have hSx := SlB.setB (i := 1) (SlB.setB (i := 0) (SlB.setB (k := gp) (i := 1) hSn hBdn (by omega) (.int .i64 (y1 : Nat))) (k := gr) hBdn (by omega) (.slice An s6.1.length cn)) (k := gr) hBdn (by omega) (.int .i64 (s6.2 : Nat))
              have hOx := Own.setM (i := 1) (Own.setM (i := 0) (Own.setM (i := 1) hO hM (by simp) (.head _) (.int .i64 (y1 : Nat))) (hM.set 0 1 (.int .i64 (y1 : Nat)) rfl) (by simp) (.tail _ (.tail _ (.head _))) (.slice An s6.1.length cn)) ((hM.set 0 1 (.int .i64 (y1 : Nat)) rfl).set 2 0 (.slice An s6.1.length cn) rfl) (by simp) (.tail _ (.tail _ (.head _))) (.int .i64 (s6.2 : Nat))
              refine gen1 (T := fun W => (Mm w W [(gp, 83, pta (pend (f : Int) m, (y1 : Int), 0, dg0)), (gq, 50, #[.int .i64 (f : Nat), .int .i64 (nx : Nat), .int .i64 (tt : Nat), .int .i64 (q : Nat), .slice E m.length cE]), (gr, 75, #[.slice An s6.1.length cn, .int .i64 (s6.2 : Nat)]), (w.heap.size, 50, crz)] [E.map (·.block)] ∧ SlB W An cn s6.1) ∧ OwnR W (gq + 1) E cE m) ⟨⟨hMx, hSx⟩, hOx⟩ (fun wm hT => ?_)
              clear hMx hSx hOx hM hSn hO x0 x1 xf0 xf1 qf qc0 qc1 qc2
              obtain ⟨⟨hM, hS⟩, hO⟩ := hT
              have hBd := hBdn
              clear hBdn
              obtain ⟨x0, x1, xf0, xf1⟩ := Blk.two hM.b2
              go_wp2_with fail
              refine (rWithin_v18 (s := s6) 65536 _ hS hBd).mono ?_
              rintro e wn ⟨v, rfl, ⟨An, cn, rfl, hSn, hBdn⟩, hbn⟩
              rw [H7.out] at hSn hBdn ⊢
              dsimp only at hSn hBdn ⊢
              replace hM := hM.call hbn
              replace hO := Own.below hO hbn
              clear hS hBd hbn x0 x1 xf0 xf1
              obtain ⟨x0, x1, xf0, xf1⟩ := Blk.two hM.b2
              have qf := hM.b0.frozen 2
              have qc := (Bl3 hM.b0)
              obtain ⟨qc0, qc1, qc2⟩ := qc
              go_upto_region 22 with (fail)
              have hMx := ((hM.set 0 2 (.int .i64 (y2 : Nat)) rfl).set 2 0 (.slice An s7.1.length cn) rfl).set 2 1 (.int .i64 (s7.2 : Nat)) rfl
              have hSx := SlB.setB (i := 1) (SlB.setB (i := 0) (SlB.setB (k := gp) (i := 2) hSn hBdn (by omega) (.int .i64 (y2 : Nat))) (k := gr) hBdn (by omega) (.slice An s7.1.length cn)) (k := gr) hBdn (by omega) (.int .i64 (s7.2 : Nat))
              have hOx := Own.setM (i := 1) (Own.setM (i := 0) (Own.setM (i := 2) hO hM (by simp) (.head _) (.int .i64 (y2 : Nat))) (hM.set 0 2 (.int .i64 (y2 : Nat)) rfl) (by simp) (.tail _ (.tail _ (.head _))) (.slice An s7.1.length cn)) ((hM.set 0 2 (.int .i64 (y2 : Nat)) rfl).set 2 0 (.slice An s7.1.length cn) rfl) (by simp) (.tail _ (.tail _ (.head _))) (.int .i64 (s7.2 : Nat))
              refine gen1 (T := fun W => (Mm w W [(gp, 83, pta (pend (f : Int) m, (y1 : Int), (y2 : Int), dg0)), (gq, 50, #[.int .i64 (f : Nat), .int .i64 (nx : Nat), .int .i64 (tt : Nat), .int .i64 (q : Nat), .slice E m.length cE]), (gr, 75, #[.slice An s7.1.length cn, .int .i64 (s7.2 : Nat)]), (w.heap.size, 50, crz)] [E.map (·.block)] ∧ SlB W An cn s7.1) ∧ OwnR W (gq + 1) E cE m) ⟨⟨hMx, hSx⟩, hOx⟩ (fun wm hT => ?_)
              clear hMx hSx hOx hM hSn hO x0 x1 xf0 xf1 qf qc0 qc1 qc2
              obtain ⟨⟨hM, hS⟩, hO⟩ := hT
              have hBd := hBdn
              clear hBdn
              obtain ⟨x0, x1, xf0, xf1⟩ := Blk.two hM.b2
              go_wp2_with fail
              refine (rFixed_v (s := s7) 32 _ hS hBd).mono ?_
              rintro e wn ⟨Am, cm, mm, v, rfl, hmm, hSm, hBm, ⟨An, cn, rfl, hSn, hBdn⟩, hbn⟩
              rw [H8.out] at hmm hSn hBdn ⊢
              dsimp only at hmm hSn hBdn ⊢
              replace hM := hM.call hbn
              replace hO := Own.below hO hbn
              clear hS hBd hbn x0 x1 xf0 xf1
              obtain ⟨x0, x1, xf0, xf1⟩ := Blk.two hM.b2
              have hwn : gr < wn.heap.size := hM.b2.lt
              go_upto_region 24 with (fail)
              have hMx := ((hM.set 2 0 (.slice An s8.1.length cn) rfl).set 2 1 (.int .i64 (s8.2 : Nat)) rfl).allocO (.cells #[.slice An s8.1.length cn, .int .i64 (s8.2 : Nat)] 75)
              have hSx := Sl.below (SlB.setB (i := 1) (SlB.setB (i := 0) (k := gr) hSn hBdn (by omega) (.slice An s8.1.length cn)) (k := gr) hBdn (by omega) (.int .i64 (s8.2 : Nat))) (below_new _ (.cells #[.slice An s8.1.length cn, .int .i64 (s8.2 : Nat)] 75))
              have hSmx := Sl.below (SlB.setB (i := 1) (SlB.setB (i := 0) (k := gr) hSm hBm (by omega) (.slice An s8.1.length cn)) (k := gr) hBm (by omega) (.int .i64 (s8.2 : Nat))) (below_new _ (.cells #[.slice An s8.1.length cn, .int .i64 (s8.2 : Nat)] 75))
              have hOx := World.ownsRow.alloc (Own.setM (i := 1) (Own.setM (i := 0) hO hM (by simp) (.tail _ (.tail _ (.head _))) (.slice An s8.1.length cn)) (hM.set 2 0 (.slice An s8.1.length cn) rfl) (by simp) (.tail _ (.tail _ (.head _))) (.int .i64 (s8.2 : Nat))) (.cells #[.slice An s8.1.length cn, .int .i64 (s8.2 : Nat)] 75)
              refine gen1 (T := fun W => ((Mm w W [(gp, 83, pta (pend (f : Int) m, (y1 : Int), (y2 : Int), dg0)), (gq, 50, #[.int .i64 (f : Nat), .int .i64 (nx : Nat), .int .i64 (tt : Nat), .int .i64 (q : Nat), .slice E m.length cE]), (gr, 75, #[.slice An s8.1.length cn, .int .i64 (s8.2 : Nat)]), (w.heap.size, 50, crz)] [E.map (·.block)] ∧ SlB W An cn s8.1) ∧ SlB W Am cm mm) ∧ OwnR W (gq + 1) E cE m) ⟨⟨⟨hMx, hSx⟩, hSmx⟩, hOx⟩ (fun wm hT => ?_)
              clear hMx hSx hSmx hOx hM hSn hSm hO x0 x1 xf0 xf1 hwn
              obtain ⟨⟨⟨hM, hS⟩, hSm⟩, hO⟩ := hT
              have hBd := hBdn
              clear hBdn
              obtain rfl : mm = mf := hmm.out
              have HMF := Lib.hid hmf
              clear hmm hmf
              go_wp2_with fail
              go_loopw [15] (fun x wz => ∃ j : Nat, j ≤ mm.length ∧ x = .int .i64 (j : Nat) ∧ Mm w wz [(gp, 83, if mm.length = 32 then ptk (pend (f : Int) m) y1 y2 mm j else pta (pend (f : Int) m, (y1 : Int), (y2 : Int), dg0)), (gq, 50, #[.int .i64 (f : Nat), .int .i64 (nx : Nat), .int .i64 (tt : Nat), .int .i64 (q : Nat), .slice E m.length cE]), (gr, 75, #[.slice An s8.1.length cn, .int .i64 (s8.2 : Nat)]), (w.heap.size, 50, crz)] [E.map (·.block)] ∧ SlB wz An cn s8.1 ∧ SlB wz Am cm mm ∧ OwnR wz (gq + 1) E cE m) (fun x wz => mm.length - (intOf x).toNat)
              case atStart => exact ⟨0, Nat.zero_le _, rfl, by rw [ptk_zero, ite_self]; exact hM, hS, hSm, hO⟩
              case round =>
                obtain ⟨j, hj, rfl, hM', hS', hSm', hO'⟩ := hrel
                clear hM hS hSm hO
                rcases Nat.lt_or_ge j mm.length with hjl | hjl
                · have h32 : mm.length = 32 := by have := HMF.out; omega
                  rw [if_pos h32] at hM'
                  obtain ⟨ad, rfl, hcj⟩ := Sl.at1 hSm' hjl
                  have hset := Lib.hid (ptk_set (pend (f : Int) m) y1 y2 mm j (by omega) h32)
                  have hfz := hM'.b0.frozen (3 + j)
                  have hpz := Lib.hid (ptk_size (pend (f : Int) m) y1 y2 mm j (by omega) h32)
                  obtain ⟨v0, hv0⟩ : ∃ v, World.cell? _ ⟨gp, 3 + j, none⟩ = some v := ⟨_, (hM'.b0.cell (3 + j)).trans (Array.getElem?_eq_getElem (by rw [hpz.out]; omega))⟩
                  have hj0 : 0 ≤ (j : Int) := by omega
                  have hj1 : (j : Int) < (mm.length : Int) := by omega
                  have hj2 : (j : Int) < 32 := by omega
                  have H32 := Lib.hid h32
                  generalize mm[j] = bj at *
                  clear h32
                  go_upto_region 26 with (fail)
                  have hMx := hM'.set 0 (3 + j) (bv bj) rfl
                  rw [hset.out] at hMx
                  have hSx := SlB.setB (k := gp) (i := 3 + j) hS' hBd (by omega) (bv bj)
                  have hSmx := SlB.setB (k := gp) (i := 3 + j) hSm' hBm (by omega) (bv bj)
                  have hOx := Own.setM (i := 3 + j) hO' hM' (by simp) (.head _) (bv bj)
                  go_wp2_with fail
                  go_roundw
                  case rel => exact ⟨j + 1, by omega, by go_num, by rw [if_pos H32.out]; exact hMx, hSx, hSmx, hOx⟩
                  case measure => simp [intOf]; omega
                · obtain rfl : j = mm.length := by omega
                  have hpt : (if mm.length = 32 then ptk (pend (f : Int) m) y1 y2 mm mm.length else pta (pend (f : Int) m, (y1 : Int), (y2 : Int), dg0)) = pta (pend (f : Int) m, (y1 : Int), (y2 : Int), dg) := by
                    rcases HMF.out with h | h
                    · rw [dif_neg (by omega)] at hdg
                      rw [if_neg (by omega), hdg]
                    · rw [dif_pos h] at hdg
                      rw [if_pos h, ← hdg, h, ptk_full _ _ _ _ h]
                  rw [hpt] at hM'
                  clear hpt hdg HMF hSm' hBm H8 H6 H7
                  obtain ⟨p, hpe⟩ : ∃ p : Pt5, (pend (f : Int) m, (y1 : Int), (y2 : Int), dg) = p := ⟨_, rfl⟩
                  have hp1 : p.2.1 = (y1 : Int) := by rw [← hpe]
                  rw [hpe] at hM'
                  have hsu2 := HSU.out
                  rw [hpe] at hsu2
                  have HS := Lib.hid hsu2
                  have hps := Lib.hid (pta_size p)
                  have hpa := Lib.hid (pta_all p)
                  have hwrp : wrap64 (pend (f : Int) m + p.2.1) = pend (f : Int) m + p.2.1 := by simp only [wrap64]; omega
                  have hwrp2 : IntKind.i64.wrap (pend (f : Int) m + p.2.1) = pend (f : Int) m + p.2.1 := by rw [IntKind.wrap_i64]; omega
                  have HP1 := Lib.hid hp1
                  clear hsu2 HSU hpe hp1
                  obtain ⟨x0, x1, x2⟩ := Bl3 hM'.b0
                  go_upto_region 29 with (fail)
                  clear x0 x1 x2
                  obtain ⟨c0, c1', c2', c3, c4, cf0, cf1, cf2, cf3, cf4⟩ := Blk.five hM'.b1
                  refine gen1 (T := fun W => (Mm w W [(gp, 83, pta p), (gq, 50, #[.int .i64 (f : Nat), .int .i64 (nx : Nat), .int .i64 (tt : Nat), .int .i64 (q : Nat), .slice E m.length cE]), (gr, 75, #[.slice An s8.1.length cn, .int .i64 (s8.2 : Nat)]), (w.heap.size, 50, crz)] [E.map (·.block)] ∧ SlB W An cn s8.1) ∧ OwnR W (gq + 1) E cE m) ⟨⟨hM', hS'⟩, hO'⟩ (fun wq hT => ?_)
                  clear hM' hS' hO' c0 c1' c2' c3 c4 cf0 cf1 cf2 cf3 cf4
                  obtain ⟨⟨hM8, hS8⟩, hO8⟩ := hT
                  obtain ⟨c0, c1', c2', c3, c4, cf0, cf1, cf2, cf3, cf4⟩ := Blk.five hM8.b1
                  have hL9 := litR wq p
                  have hO9 := World.ownsRow.alloc hO8 (.cells (pta p) 83)
                  have hM9 := hM8.allocO (.cells (pta p) 83)
                  have hS9 := hS8.below (below_new wq (.cells (pta p) 83))
                  have hgc8 : gq + 1 ≤ wq.heap.size := by have := hM8.b1.lt; omega
                  have hgp8 : gp < wq.heap.size := hM8.b0.lt
                  go_wp2_with (first | (refine wpl_loadG rfl 83 _ rfl ⟨gp, 0, none⟩ (pta p) rfl hM8.b0.cells _ Try.underlying83 rfl (by rw [hps.out]; kernel_rfl) ?_) | (refine wpl_litR rfl _ rfl p rfl ?_) | (at_builtin; refine wpl_partsR rfl _ _ rfl (gq + 1) E cE m rfl hO9 (some ⟨wq.heap.size, 0, none⟩) 1 1 [p] rfl rfl hL9 (by rw [hml.out]; simp; omega) (by simp; omega) ?_; intro A10 c10 m10 w10 hm10 hO10 hg10 hb10; have hB10 : Blk w10 gq 50 _ := (hb10.block gq (Nat.lt_succ_self _)).trans hM9.b1; obtain ⟨d0, d1, d2, d3, d4, df0, df1, df2, df3, df4⟩ := Blk.five hB10))
                  have hM10 := (hM9.sub (List.sublist_cons_self _ _)).base hb10 (by simp; omega) (by omega) (a := A10.map (·.block)) (fun k hk => hO10.lt k hk) (G' := []) (by simp)
                  have hM11 := hM10.set 0 4 (.slice A10 m10.length c10) rfl
                  have hS11 := SlB.setB (k := gq) (i := 4) (SlB.apart hS9 hBd (show gr ≤ gq + 1 by omega) hb10) hBd (by omega) (.slice A10 m10.length c10)
                  have hO11 := Own.set1 hO10 (g := gq) (i := 4) (Nat.lt_succ_self _) (.slice A10 m10.length c10)
                  go_roundw
                  case rel => exact ⟨k + 1, A10, c10, m10, s8, An, cn, hlt, by go_num, by rw [hm10.out, pend_snoc], (show _ = _ from by rw [hm10.out, HS.out]), hM11, hS11, hBd, hO11⟩
                  case measure => simp [intOf]; omega
            · rcases Nat.lt_or_ge k n with hlt | hge
              · have hs0 : s.2 ≠ 0 := fun h => hend ⟨hlt, h⟩
                have hkI : (k : Int) < (n : Int) := by omega
                have hb : (((s.2 : Nat) : Int) == 0) = false := by rw [beq_eq_false_iff_ne]; omega
                have hst := crLoop_stop n k (f : Int) s5 hk (by rw [hm.out]; exact hs0)
                rw [hm.out] at hst
                have hre : rEnd s ≠ 0 := by unfold rEnd; rw [if_neg (fun h => hs0 h.1)]; exact hs0
                have HT := Lib.hid (show crTake b = ((0, 0, 0, 0, []), rEnd s) from by rw [HT0.out, HC.out, crEnd_1 (by dsimp only; rw [hst]; exact hre)]; dsimp only; rw [hst])
                have hbb : (((rEnd s : Nat) : Int) != 0) = true := by simp; omega
                clear hs0 hst hre hend
                go_wp2_with fail
                refine (rEnd_v18 (s := s) _).mono ?_
                rintro e w8 ⟨rfl, hb8⟩
                replace hMr := hMr.call hb8
                have hM := hMr
                clear hb8 x0 x1 xf0 xf1
                obtain ⟨r0, r1, r2, r3, r4, rf0, rf1, rf2, rf3, rf4⟩ := Blk.five (hM.b2)
                go_wp2_with fail
                exact bodyPost_ret (res_rc2 rfl rfl (g := w.heap.size) (Blk.set5 (hM.b2) _ _ _ _ _)) rfl ⟨none, 0, [], by rw [HT.out]; rfl, (show _ = _ from by rw [HT.out]), Own.none_ _ _ _ _, bel_set5 hM.bel (Nat.le_refl _) _ _ _ _ _⟩
              · obtain rfl : k = n := by omega
                have HT1 : Hid (crTake b = crEnd (((f : Int), (nx : Int), (tt : Int), (q : Int), m), s)) := (show _ = _ from by rw [HT0.out, HC.out, hm.out])
                have hmI : PtsI m := by have := crLoop_I k (f : Int) s5 (by omega) (by omega); rw [hm.out] at this; exact this
                have HMI := Lib.hid hmI
                clear HT0 HC hm hmI hend
                go_wp2_with fail
                refine (rEnd_v18 (s := s) _).mono ?_
                rintro e w8 ⟨rfl, hb8⟩
                have hM := hMr.call hb8
                have hO8 := Own.below hOr hb8
                clear hb8 x0 x1 xf0 xf1 hMr hOr
                rcases Decidable.em (rEnd s = 0) with h0 | h0
                · have hbb : (((rEnd s : Nat) : Int) != 0) = false := by simp [h0]
                  have HN0 := Lib.hid h0
                  clear h0
                  obtain ⟨q0, q1, q2, q3, q4, -⟩ := Blk.five hM.b0
                  go_wp2_with fail
                  refine (rCCheck_any f nx tt q m _ (Own.sl hO8) HMI.out).mono ?_
                  rintro e w9 ⟨rfl, hb9⟩
                  replace hM := hM.call hb9
                  replace hO8 := Own.below hO8 hb9
                  clear hb9 q0 q1 q2 q3 q4
                  rcases Decidable.em (crchk ((f : Int), (nx : Int), (tt : Int), (q : Int), m) = 0) with h1 | h1
                  · have hbc : (((crchk ((f : Int), (nx : Int), (tt : Int), (q : Int), m) : Nat) : Int) != 0) = false := by simp [h1]
                    have HT := Lib.hid (show crTake b = (((f : Int), (nx : Int), (tt : Int), (q : Int), m), 0) from by rw [HT1.out]; exact crEnd_3 HN0.out h1)
                    clear h1
                    obtain ⟨c0, c1', c2, c3, c4, -⟩ := Blk.five hM.b0
                    obtain ⟨r0, r1, r2, r3, r4, rf0, rf1, rf2, rf3, rf4⟩ := Blk.five hM.b2
                    go_wp2_with fail
                    exact bodyPost_ret (res_rc2 rfl rfl (g := w.heap.size) (Blk.set5 hM.b2 _ _ _ _ _)) rfl ⟨E, cE, m, by rw [HT.out]; rfl, (show _ = _ from by rw [HT.out]), (Own.set5 hO8 (by omega) _ _ _ _ _).more (by omega), bel_set5 hM.bel (Nat.le_refl _) _ _ _ _ _⟩
                  · have hbc : (((crchk ((f : Int), (nx : Int), (tt : Int), (q : Int), m) : Nat) : Int) != 0) = true := by simp; omega
                    have HT := Lib.hid (show crTake b = ((0, 0, 0, 0, []), crchk ((f : Int), (nx : Int), (tt : Int), (q : Int), m)) from by rw [HT1.out]; exact crEnd_2 HN0.out (by dsimp only; omega))
                    clear h1
                    obtain ⟨r0, r1, r2, r3, r4, rf0, rf1, rf2, rf3, rf4⟩ := Blk.five (hM.b2)
                    go_wp2_with fail
                    exact bodyPost_ret (res_rc2 rfl rfl (g := w.heap.size) (Blk.set5 (hM.b2) _ _ _ _ _)) rfl ⟨none, 0, [], by rw [HT.out]; rfl, (show _ = _ from by rw [HT.out]), Own.none_ _ _ _ _, bel_set5 hM.bel (Nat.le_refl _) _ _ _ _ _⟩
                · have hbb : (((rEnd s : Nat) : Int) != 0) = true := by simp; omega
                  have HT := Lib.hid (show crTake b = ((0, 0, 0, 0, []), rEnd s) from by rw [HT1.out]; exact crEnd_1 (by dsimp only; omega))
                  clear h0
                  obtain ⟨r0, r1, r2, r3, r4, rf0, rf1, rf2, rf3, rf4⟩ := Blk.five (hM.b2)
                  go_wp2_with fail
                  exact bodyPost_ret (res_rc2 rfl rfl (g := w.heap.size) (Blk.set5 (hM.b2) _ _ _ _ _)) rfl ⟨none, 0, [], by rw [HT.out]; rfl, (show _ = _ from by rw [HT.out]), Own.none_ _ _ _ _, bel_set5 hM.bel (Nat.le_refl _) _ _ _ _ _⟩
  · have hb1 : ((fbad : Int) == 0) = false := by rw [beq_eq_false_iff_ne]; omega
    have hb2 : ((fbad : Int) != 0) = true := by rw [bne_iff_ne]; omega
    have HT := Lib.hid (show crTake b = ((0, 0, 0, 0, []), fbad) from by unfold crTake; rw [hA h0, if_pos h0])
    clear hA hB hC hfl h0
    obtain ⟨r0, r1, r2, r3, r4, rf0, rf1, rf2, rf3, rf4⟩ := Blk.five (hM.b0)
    go_wp2_with fail
    exact bodyPost_ret (res_rc2 rfl rfl (g := w.heap.size) (Blk.set5 (hM.b0) _ _ _ _ _)) rfl ⟨none, 0, [], by rw [HT.out]; rfl, (show _ = _ from by rw [HT.out]), Own.none_ _ _ _ _, bel_set5 hM.bel (Nat.le_refl _) _ _ _ _ _⟩
end Go.Proofs.Ytgfigkenpmmdeaa
