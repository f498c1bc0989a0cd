/- WHAT IT HOLDS: the document's Take of cursors, walked. | WHAT IT HOLDS: the document's cursors loaded: walked. | WHAT IT HOLDS: the document's cursors cleared: walked. | WHAT IT HOLDS: a store's objects told: walked. | WHAT IT HOLDS: the law StoreSweeps, walked. | WHAT IT HOLDS: the document's store: opened; its objects told: walked. -/
import Derived.Test.YtabnndjdkjkciaaGreatDoorCursorKeepsG32
import Derived.Test.YtabnndjdkjkciaaGreatDoorCursorKeepsG31
import Derived.Test.YtabnndjdkjkciaaGreatDoorCursorKeepsG12
import Derived.Carry
namespace Go.Proofs.YtabnndjdkjkciaaGreatDoor
open Go.RowKit
attribute [local go_sem ↓] Go.wp_at_zero Go.wp_at_succ

/-- a cursor, and an error's number, as the document's -/
def GivesCd2 (w0 : World) (r : Cur × Nat) (e : Ending) (w' : World) : Prop :=
  ∃ A c m, e = .returned (.tuple #[crv r.1.1 r.1.2.1 r.1.2.2.1 r.1.2.2.2.1 A (List.length m) c, .int .i64 (r.2 : Nat)]) ∧ Hid (m = r.1.2.2.2.2) ∧ OwnPr w' w0.heap.size A c m ∧ Below w0.heap.size w0 w'
theorem built_p1 (a : Int) : Tryz.prog.built 44 [(0, .int .i64 a)] = some (pta (a, 0, 0, dg0)) := by kernel_rfl
theorem wpl_buildP1 {ops : Array Oper} {rest : List Oper} {o : Oper} {a : Act} {w : World} {Q : Exit → Act → World → Prop} (hgd : o.guard = none) (x0 : Operand) (ho : o.op = .build 44 #[(0, x0)])
    {f : Int} (h0 : a.eval x0 = .int .i64 f)
    (h : wpList Tryz.prog ops Q rest (a.put o.dst (.agg (pta (f, 0, 0, dg0)))) w) : wpList Tryz.prog ops Q (o :: rest) a w := by
  have hl : ((#[(0, x0)] : Array (Nat × Operand)).map fun (i, x) => (i, a.eval x)).toList = [(0, .int .i64 f)] := by
    simp [h0]
  refine wpList_build hgd 44 _ ho ?_ ?_
  · rw [hl, built_p1]; rfl
  · rw [hl, built_p1]; exact h
theorem rNum_le {s s5 : List UInt8 × Nat} {n : Nat} (h : rNum s = (n, s5)) (hn : ¬ (s5.2 = 0 ∧ 1024 < n)) : n ≤ 1024 ∧ (if 1024 < n then rFail 3 s5 else s5) = s5 := by
  have hle : n ≤ 1024 := by
    rcases Decidable.em (s5.2 = 0) with h0 | h0
    · have : ¬ 1024 < n := fun h1 => hn ⟨h0, h1⟩
      omega
    · have : n = 0 := by
        unfold rNum at h
        split at h
        · injection h with h _; exact h.symm
        · split at h
          · injection h with h _; exact h.symm
          · injection h with _ h; rw [← h] at h0; exact absurd rfl h0
      omega
  exact ⟨hle, if_neg (by omega)⟩
theorem crTake_long {b m1 : List UInt8} {s1 s2 s3 s4 s5 : List UInt8 × Nat} {f nx tt q n : Nat} (h : crTake b = crEnd (crRead (m1, 0))) (h1 : rWithin 1048576 (m1, 0) = (f, s1)) (h2 : rWithin 1048576 s1 = (nx, s2)) (h3 : rWithin 1048576 s2 = (tt, s3)) (h4 : rWithin 1048576 s3 = (q, s4)) (h5 : rNum s4 = (n, s5)) (h6 : s5.2 = 0) (h7 : 1024 < n) :
    crTake b = ((0, 0, 0, 0, []), 3) := by
  have hf : (if 1024 < n then rFail 3 s5 else s5) = (s5.1, 3) := by rw [if_pos h7]; unfold rFail; rw [if_pos h6]
  have hr := crRead_eq h1 h2 h3 h4 h5 hf
  have hb := crLoop_bad (min n 1024) (f : Int) (s5.1, 3) (by simp)
  rw [h, hr]
  rw [hb]
  have he : rEnd (s5.1, 3) = 3 := by unfold rEnd; rw [if_neg (by simp)]
  rw [crEnd_1 (by dsimp only; rw [he]; decide)]
  dsimp only
  rw [he]
set_option maxRecDepth 100000 in
set_option maxHeartbeats 2000000 in
theorem rCTake_any (A : Option Addr) (c : Nat) (b : List UInt8) (w : World) (hs : SlB w A c b) (hl : b.length ≤ 1000000) :
    Calls Tryz.prog 97 #[.slice A b.length c] w (GivesCd2 w (crTake b)) := by
  have hM := (Mm.start w).alloc crz 79
  have hfl := foneLen b
  go_enter Tryz.func97, Tryz.ntmps97
  go_wp2_with fail
  refine (rFTake_any A c b _ (hs.below hM.bel) (by omega)).mono ?_
  rintro e w1 ⟨A1, c1, m1, rfl, hm1, hs1, hb1, -⟩
  replace hM := hM.call hb1
  clear hb1
  have hfo : fone b = if (ftake b).2.2 ≠ 0 then ([], (ftake b).2.2) else if (ftake b).2.1 < b.length then ([], 2) else ((ftake b).1, 0) := rfl
  generalize ftake b = fb at *
  obtain ⟨ft, fn, fbad⟩ := fb
  dsimp only at *
  have hA : fbad ≠ 0 → fone b = ([], fbad) := fun h => by rw [hfo, if_pos h]
  have hB : fbad = 0 → fn < b.length → fone b = ([], 2) := fun h h2 => by rw [hfo, if_neg (by omega), if_pos h2]
  have hC : fbad = 0 → ¬ fn < b.length → fone b = (ft, 0) := fun h h2 => by rw [hfo, if_neg (by omega), if_neg h2]
  clear hfo
  rcases Decidable.em (fbad = 0) with h0 | h0
  · have hb1 : ((fbad : Int) == 0) = true := by rw [h0]; rfl
    have hb2 : ((fbad : Int) != 0) = false := by rw [h0]; rfl
    rcases Nat.lt_or_ge fn b.length with hn | hn
    · have HT := Lib.hid (show crTake b = ((0, 0, 0, 0, []), 2) from by unfold crTake; rw [hB h0 hn]; rfl)
      have hnI : (fn : Int) < (b.length : Int) := by omega
      clear hA hB hC hfl h0
      obtain ⟨r0, r1, r2, r3, r4, rf0, rf1, rf2, rf3, rf4⟩ := Blk.five (hM.b0)
      go_wp2_with fail
      exact bodyPost_ret (res_rc2 rfl rfl (g := w.heap.size) (Blk.set5 (hM.b0) _ _ _ _ _)) rfl ⟨none, 0, [], by rw [HT.out]; rfl, (show _ = _ from by rw [HT.out]), Own.none_ _ _ _ _, bel_set5 hM.bel (Nat.le_refl _) _ _ _ _ _⟩
    · have HT0 : Hid (crTake b = crEnd (crRead (m1, 0))) := (show _ = _ from by unfold crTake; rw [hC h0 (by omega), if_neg (by simp), hm1.out])
      have hnI : (b.length : Int) ≤ (fn : Int) := by omega
      have hm1l : m1.length ≤ 1000000 := by
        rw [hC h0 (by omega)] at hfl
        rw [hm1.out]
        dsimp only at hfl
        omega
      have hBd : m1 ≠ [] → ∀ ad, A1 = some ad → ad.block < w1.heap.size := fun hne ad hA => Sl.lt0 hs1 (by cases m1 with | nil => exact absurd rfl hne | cons x r => exact List.cons_ne_nil _ _) ad.block (by rw [hA]; rfl)
      obtain ⟨f, s1, h1⟩ : ∃ n s, rWithin 1048576 (m1, 0) = (n, s) := ⟨_, _, rfl⟩
      obtain ⟨nx, s2, h2⟩ : ∃ n s, rWithin 1048576 s1 = (n, s) := ⟨_, _, rfl⟩
      obtain ⟨tt, s3, h3⟩ : ∃ n s, rWithin 1048576 s2 = (n, s) := ⟨_, _, rfl⟩
      obtain ⟨q, s4, h4⟩ : ∃ n s, rWithin 1048576 s3 = (n, s) := ⟨_, _, rfl⟩
      have hfb : f ≤ 1048576 := by have := rWithin_le 1048576 (m1, 0); rw [h1] at this; exact this
      have H1 := Lib.hid h1
      have H2 := Lib.hid h2
      have H3 := Lib.hid h3
      have H4 := Lib.hid h4
      clear hA hB hC hfl h0 hm1 h1 h2 h3 h4
      have hB0 : w.heap.size < w1.heap.size := hM.b0.lt
      go_upto_region 7 with (fail)
      have hMx := hM.alloc #[.slice A1 m1.length c1, .int .i64 0] 199
      have hSx := hs1.below (below_new w1 (.cells #[.slice A1 m1.length c1, .int .i64 0] 199))
      have hzx : w1.heap.size < (w1.alloc (.cells #[.slice A1 m1.length c1, .int .i64 0] 199)).heap.size := by simp
      generalize w1.heap.size = gr at *
      refine gen1 (T := fun W => (Mm w W [(gr, 199, #[.slice A1 m1.length c1, .int .i64 0]), (w.heap.size, 79, crz)] [] ∧ SlB W A1 c1 m1) ∧ gr < W.heap.size) ⟨⟨hMx, hSx⟩, hzx⟩ (fun w2 hT => ?_)
      clear hMx hSx hM hs1 hzx
      obtain ⟨⟨hM, hS⟩, hz⟩ := hT
      go_upto_region 8 with (fail)
      have hMx := hM.alloc crz 79
      have hSx := hS.below (below_new w2 (.cells crz 79))
      generalize w2.heap.size = gq at *
      refine gen1 (T := fun W => Mm w W [(gq, 79, crz), (gr, 199, #[.slice A1 m1.length c1, .int .i64 0]), (w.heap.size, 79, crz)] [] ∧ SlB W A1 c1 m1) ⟨hMx, hSx⟩ (fun w3 hT => ?_)
      clear hMx hSx hM hS
      obtain ⟨hM, hS⟩ := hT
      obtain ⟨x0, x1, xf0, xf1⟩ := Blk.two hM.b1
      go_wp2_with fail
      refine (rWithin_v18 (s := (m1, 0)) 1048576 _ hS hBd).mono ?_
      rintro e wn ⟨v, rfl, ⟨An, cn, rfl, hSn, hBdn⟩, hbn⟩
      rw [H1.out] at hSn hBdn ⊢
      dsimp only at hSn hBdn ⊢
      replace hM := hM.call hbn
      clear hS hBd hbn x0 x1 xf0 xf1
      obtain ⟨x0, x1, xf0, xf1⟩ := Blk.two hM.b1
      obtain ⟨q0, q1, q2, q3, q4, qf0, qf1, qf2, qf3, qf4⟩ := Blk.five hM.b0
      go_upto_region 9 with (fail)
      have hMx := ((hM.set 0 0 (.int .i64 (f : Nat)) rfl).set 1 0 (.slice An s1.1.length cn) rfl).set 1 1 (.int .i64 (s1.2 : Nat)) rfl
      have hSx := SlB.setB (i := 1) (SlB.setB (i := 0) (SlB.setB (k := gq) (i := 0) hSn hBdn (by omega) (.int .i64 (f : Nat))) (k := gr) hBdn (by omega) (.slice An s1.1.length cn)) (k := gr) hBdn (by omega) (.int .i64 (s1.2 : Nat))
      refine gen1 (T := fun W => Mm w W [(gq, 79, #[.int .i64 (f : Nat), .int .i64 0, .int .i64 0, .int .i64 0, .slice none 0 0]), (gr, 199, #[.slice An s1.1.length cn, .int .i64 (s1.2 : Nat)]), (w.heap.size, 79, crz)] [] ∧ SlB W An cn s1.1) ⟨hMx, hSx⟩ (fun wm hT => ?_)
      clear hMx hSx hM hSn x0 x1 xf0 xf1 q0 q1 q2 q3 q4 qf0 qf1 qf2 qf3 qf4
      obtain ⟨hM, hS⟩ := hT
      have hBd := hBdn
      clear hBdn
      obtain ⟨x0, x1, xf0, xf1⟩ := Blk.two hM.b1
      go_wp2_with fail
      refine (rWithin_v18 (s := s1) 1048576 _ hS hBd).mono ?_
      rintro e wn ⟨v, rfl, ⟨An, cn, rfl, hSn, hBdn⟩, hbn⟩
      rw [H2.out] at hSn hBdn ⊢
      dsimp only at hSn hBdn ⊢
      replace hM := hM.call hbn
      clear hS hBd hbn x0 x1 xf0 xf1
      obtain ⟨x0, x1, xf0, xf1⟩ := Blk.two hM.b1
      obtain ⟨q0, q1, q2, q3, q4, qf0, qf1, qf2, qf3, qf4⟩ := Blk.five hM.b0
      go_upto_region 10 with (fail)
      have hMx := ((hM.set 0 1 (.int .i64 (nx : Nat)) rfl).set 1 0 (.slice An s2.1.length cn) rfl).set 1 1 (.int .i64 (s2.2 : Nat)) rfl
      have hSx := SlB.setB (i := 1) (SlB.setB (i := 0) (SlB.setB (k := gq) (i := 1) hSn hBdn (by omega) (.int .i64 (nx : Nat))) (k := gr) hBdn (by omega) (.slice An s2.1.length cn)) (k := gr) hBdn (by omega) (.int .i64 (s2.2 : Nat))
      refine gen1 (T := fun W => Mm w W [(gq, 79, #[.int .i64 (f : Nat), .int .i64 (nx : Nat), .int .i64 0, .int .i64 0, .slice none 0 0]), (gr, 199, #[.slice An s2.1.length cn, .int .i64 (s2.2 : Nat)]), (w.heap.size, 79, crz)] [] ∧ SlB W An cn s2.1) ⟨hMx, hSx⟩ (fun wm hT => ?_)
      clear hMx hSx hM hSn x0 x1 xf0 xf1 q0 q1 q2 q3 q4 qf0 qf1 qf2 qf3 qf4
      obtain ⟨hM, hS⟩ := hT
      have hBd := hBdn
      clear hBdn
      obtain ⟨x0, x1, xf0, xf1⟩ := Blk.two hM.b1
      go_wp2_with fail
      refine (rWithin_v18 (s := s2) 1048576 _ hS hBd).mono ?_
      rintro e wn ⟨v, rfl, ⟨An, cn, rfl, hSn, hBdn⟩, hbn⟩
      rw [H3.out] at hSn hBdn ⊢
      dsimp only at hSn hBdn ⊢
      replace hM := hM.call hbn
      clear hS hBd hbn x0 x1 xf0 xf1
      obtain ⟨x0, x1, xf0, xf1⟩ := Blk.two hM.b1
      obtain ⟨q0, q1, q2, q3, q4, qf0, qf1, qf2, qf3, qf4⟩ := Blk.five hM.b0
      go_upto_region 11 with (fail)
      have hMx := ((hM.set 0 2 (.int .i64 (tt : Nat)) rfl).set 1 0 (.slice An s3.1.length cn) rfl).set 1 1 (.int .i64 (s3.2 : Nat)) rfl
      have hSx := SlB.setB (i := 1) (SlB.setB (i := 0) (SlB.setB (k := gq) (i := 2) hSn hBdn (by omega) (.int .i64 (tt : Nat))) (k := gr) hBdn (by omega) (.slice An s3.1.length cn)) (k := gr) hBdn (by omega) (.int .i64 (s3.2 : Nat))
      refine gen1 (T := fun W => Mm w W [(gq, 79, #[.int .i64 (f : Nat), .int .i64 (nx : Nat), .int .i64 (tt : Nat), .int .i64 0, .slice none 0 0]), (gr, 199, #[.slice An s3.1.length cn, .int .i64 (s3.2 : Nat)]), (w.heap.size, 79, crz)] [] ∧ SlB W An cn s3.1) ⟨hMx, hSx⟩ (fun wm hT => ?_)
      clear hMx hSx hM hSn x0 x1 xf0 xf1 q0 q1 q2 q3 q4 qf0 qf1 qf2 qf3 qf4
      obtain ⟨hM, hS⟩ := hT
      have hBd := hBdn
      clear hBdn
      obtain ⟨x0, x1, xf0, xf1⟩ := Blk.two hM.b1
      go_wp2_with fail
      refine (rWithin_v18 (s := s3) 1048576 _ hS hBd).mono ?_
      rintro e wn ⟨v, rfl, ⟨An, cn, rfl, hSn, hBdn⟩, hbn⟩
      rw [H4.out] at hSn hBdn ⊢
      dsimp only at hSn hBdn ⊢
      replace hM := hM.call hbn
      clear hS hBd hbn x0 x1 xf0 xf1
      obtain ⟨x0, x1, xf0, xf1⟩ := Blk.two hM.b1
      obtain ⟨q0, q1, q2, q3, q4, qf0, qf1, qf2, qf3, qf4⟩ := Blk.five hM.b0
      go_upto_region 12 with (fail)
      have hMx := ((hM.set 0 3 (.int .i64 (q : Nat)) rfl).set 1 0 (.slice An s4.1.length cn) rfl).set 1 1 (.int .i64 (s4.2 : Nat)) rfl
      have hSx := SlB.setB (i := 1) (SlB.setB (i := 0) (SlB.setB (k := gq) (i := 3) hSn hBdn (by omega) (.int .i64 (q : Nat))) (k := gr) hBdn (by omega) (.slice An s4.1.length cn)) (k := gr) hBdn (by omega) (.int .i64 (s4.2 : Nat))
      refine gen1 (T := fun W => Mm w W [(gq, 79, #[.int .i64 (f : Nat), .int .i64 (nx : Nat), .int .i64 (tt : Nat), .int .i64 (q : Nat), .slice none 0 0]), (gr, 199, #[.slice An s4.1.length cn, .int .i64 (s4.2 : Nat)]), (w.heap.size, 79, crz)] [] ∧ SlB W An cn s4.1) ⟨hMx, hSx⟩ (fun wm hT => ?_)
      clear hMx hSx hM hSn x0 x1 xf0 xf1 q0 q1 q2 q3 q4 qf0 qf1 qf2 qf3 qf4
      obtain ⟨hM, hS⟩ := hT
      have hBd := hBdn
      clear hBdn
      obtain ⟨n, s5, hn5⟩ : ∃ n s, rNum s4 = (n, s) := ⟨_, _, rfl⟩
      have HN5 := Lib.hid hn5
      clear hn5
      obtain ⟨x0, x1, xf0, xf1⟩ := Blk.two hM.b1
      go_wp2_with fail
      refine (rNumber_v (s := s4) _ hS hBd).mono ?_
      rintro e wn ⟨v, rfl, ⟨An, cn, rfl, hSn, hBdn⟩, hbn⟩
      rw [HN5.out] at hSn hBdn ⊢
      dsimp only at hSn hBdn ⊢
      replace hM := hM.call hbn
      clear hS hBd hbn x0 x1 xf0 xf1
      obtain ⟨x0, x1, xf0, xf1⟩ := Blk.two hM.b1
      go_upto_region 13 with (fail)
      have hMx := (hM.set 1 0 (.slice An s5.1.length cn) rfl).set 1 1 (.int .i64 (s5.2 : Nat)) rfl
      have hSx := SlB.setB (i := 1) (SlB.setB (i := 0) (k := gr) hSn hBdn (by omega) (.slice An s5.1.length cn)) (k := gr) hBdn (by omega) (.int .i64 (s5.2 : Nat))
      refine gen1 (T := fun W => Mm w W [(gq, 79, #[.int .i64 (f : Nat), .int .i64 (nx : Nat), .int .i64 (tt : Nat), .int .i64 (q : Nat), .slice none 0 0]), (gr, 199, #[.slice An s5.1.length cn, .int .i64 (s5.2 : Nat)]), (w.heap.size, 79, crz)] [] ∧ SlB W An cn s5.1) ⟨hMx, hSx⟩ (fun wm hT => ?_)
      clear hMx hSx hM hSn x0 x1 xf0 xf1
      obtain ⟨hM, hS⟩ := hT
      have hBd := hBdn
      clear hBdn
      obtain ⟨x0, x1, xf0, xf1⟩ := Blk.two hM.b1
      rcases Decidable.em (s5.2 = 0 ∧ 1024 < n) with hlong | hlong
      · have hb : (((s5.2 : Nat) : Int) == 0) = true := by rw [hlong.1]; rfl
        have hnI2 : (1024 : Int) < (n : Int) := by have := hlong.2; omega
        have HT := Lib.hid (crTake_long HT0.out H1.out H2.out H3.out H4.out HN5.out hlong.1 hlong.2)
        clear hlong
        obtain ⟨r0, r1, r2, r3, r4, rf0, rf1, rf2, rf3, rf4⟩ := Blk.five (hM.b2)
        go_wp2_with fail
        exact bodyPost_ret (res_rc2 rfl rfl (g := w.heap.size) (Blk.set5 (hM.b2) _ _ _ _ _)) rfl ⟨none, 0, [], by rw [HT.out]; rfl, (show _ = _ from by rw [HT.out]), Own.none_ _ _ _ _, bel_set5 hM.bel (Nat.le_refl _) _ _ _ _ _⟩
      · have hn1024 := (rNum_le HN5.out hlong).1
        have HC := Lib.hid (crRead_eq H1.out H2.out H3.out H4.out HN5.out (rNum_le HN5.out hlong).2)
        have hs5l : s5.1.length ≤ 1000000 := by
          have l1 := rWithin_len 1048576 (m1, 0)
          have l2 := rWithin_len 1048576 s1
          have l3 := rWithin_len 1048576 s2
          have l4 := rWithin_len 1048576 s3
          have l5 := rNum_len s4
          rw [H1.out] at l1
          rw [H2.out] at l2
          rw [H3.out] at l3
          rw [H4.out] at l4
          rw [HN5.out] at l5
          dsimp only at l1 l2 l3 l4 l5
          omega
        rw [show min n 1024 = n from by omega] at HC
        clear H1 H2 H3 H4
        go_cut [74] (fun s74 wz => s74 = .bool false ∧ wz = wm)
        case first =>
          rcases Decidable.em (s5.2 = 0) with h5 | h5
          · have hb : (((s5.2 : Nat) : Int) == 0) = true := by rw [h5]; rfl
            have hnI2 : (n : Int) ≤ 1024 := by omega
            clear h5 hlong
            go_wp2_with fail
            go_meet
            exact ⟨by simp; omega, rfl⟩
          · have hb : (((s5.2 : Nat) : Int) == 0) = false := by rw [beq_eq_false_iff_ne]; omega
            clear h5 hlong
            go_wp2_with fail
            go_meet
            exact ⟨rfl, rfl⟩
        case rest =>
          obtain ⟨rfl, rfl⟩ := hcut
          clear HN5 hlong
          obtain ⟨q0, q1, q2, q3, q4, -⟩ := Blk.five hM.b0
          go_wp2_with fail
          go_loopw [11, 10] (fun x y wr => ∃ (k : Nat) (E : Option Addr) (cE : Nat) (m : List Pt5) (s : List UInt8 × Nat) (A2 : Option Addr) (c2 : Nat), k ≤ n ∧ x = .int .u64 (k : Nat) ∧ y = .int .i64 (pend (f : Nat) m) ∧ Hid (crLoop k (f : Nat) s5 = (m, s)) ∧ Mm w wr [(gq, 79, #[.int .i64 (f : Nat), .int .i64 (nx : Nat), .int .i64 (tt : Nat), .int .i64 (q : Nat), .slice E m.length cE]), (gr, 199, #[.slice A2 s.1.length c2, .int .i64 (s.2 : Nat)]), (w.heap.size, 79, crz)] [E.map (·.block)] ∧ SlB wr A2 c2 s.1 ∧ (s.1 ≠ [] → ∀ ad, A2 = some ad → ad.block < gr) ∧ OwnPr wr (gq + 1) E cE m) (fun x y wr => n - (intOf x).toNat)
          case atStart => exact ⟨0, none, 0, [], s5, An, cn, Nat.zero_le _, rfl, rfl, (show _ = _ from rfl), hM.add (by simp), hS, hBd, Own.none_ _ _ _ _⟩
          case round =>
            obtain ⟨k, E, cE, m, s, A2, c2, hk, rfl, rfl, hm, hMr, hSr, hBr, hOr⟩ := hrel
            clear hM hS hBd x0 x1 xf0 xf1 q0 q1 q2 q3 q4
            obtain ⟨x0, x1, xf0, xf1⟩ := Blk.two hMr.b1
            rcases Decidable.em (k < n ∧ s.2 = 0) with ⟨hlt, hs0⟩ | hend
            · have hkI : (k : Int) < (n : Int) := by omega
              have hb : (((s.2 : Nat) : Int) == 0) = true := by rw [hs0]; rfl
              clear hs0
              have hsl : s.1.length ≤ 1000000 := by have := crLoop_left k (f : Int) s5; rw [hm.out] at this; dsimp only at this; omega
              have hbd : (f : Int) ≤ pend (f : Int) m ∧ pend (f : Int) m ≤ f + 64 * k := by have := crLoop_bd s5 (f : Int) k; rw [hm.out] at this; exact this
              have hml : Hid (m.length = k) := (show _ = _ from by have := crLoop_len k (f : Int) s5; rw [hm.out] at this; exact this)
              have hsu := crLoop_succ k (f : Int) s5
              rw [hm.out] at hsu
              dsimp only at hsu
              obtain ⟨y1, s6, h6⟩ : ∃ n s', rWithin 64 s = (n, s') := ⟨_, _, rfl⟩
              obtain ⟨y2, s7, h7⟩ : ∃ n s', rWithin 65536 s6 = (n, s') := ⟨_, _, rfl⟩
              obtain ⟨mf, s8, h8⟩ : ∃ n s', rFixed 32 s7 = (n, s') := ⟨_, _, rfl⟩
              have hmf := rFixed32 s7
              rw [h8] at hmf
              have hy1 : y1 ≤ 64 := by have := rWithin_le 64 s; rw [h6] at this; exact this
              have H6 := Lib.hid h6
              have H7 := Lib.hid h7
              have H8 := Lib.hid h8
              obtain ⟨dg, hdg⟩ : ∃ d, (if h : mf.length = 32 then (⟨mf, h⟩ : Dg) else dg0) = d := ⟨_, rfl⟩
              have hrp : rPart (pend (f : Int) m) s = ((pend (f : Int) m, (y1 : Int), (y2 : Int), dg), s8) := by
                unfold rPart rDg
                simp only [h6, h7, h8, hdg]
              rw [hrp] at hsu
              dsimp only at hsu
              have HSU := Lib.hid hsu
              clear h6 h7 h8 hrp hsu
              have hlx := hMr.b0.lt
              go_upto_region 20 with (first | (refine wpl_buildP1 rfl _ rfl (f := pend (f : Int) m) rfl ?_) | (refine wpl_storeN rfl 44 _ _ rfl _ (pta (pend (f : Int) m, 0, 0, dg0)) 44 rfl rfl (by rw [pta_size]; kernel_rfl) (by rw [pta_size]; rfl) (pta_all _) ?_))
              have hMx := hMr.alloc (pta (pend (f : Int) m, 0, 0, dg0)) 44
              have hSx := hSr.below (below_new wr (.cells (pta (pend (f : Int) m, 0, 0, dg0)) 44))
              have hOx := World.ownsRow.alloc hOr (.cells (pta (pend (f : Int) m, 0, 0, dg0)) 44)
              generalize wr.heap.size = gp at *
              refine gen1 (T := fun W => (Mm w W [(gp, 44, pta (pend (f : Int) m, 0, 0, dg0)), (gq, 79, #[.int .i64 (f : Nat), .int .i64 (nx : Nat), .int .i64 (tt : Nat), .int .i64 (q : Nat), .slice E m.length cE]), (gr, 199, #[.slice A2 s.1.length c2, .int .i64 (s.2 : Nat)]), (w.heap.size, 79, crz)] [E.map (·.block)] ∧ SlB W A2 c2 s.1) ∧ OwnPr W (gq + 1) E cE m) ⟨⟨hMx, hSx⟩, hOx⟩ (fun wm hT => ?_)
              clear hMx hSx hOx hMr hSr hOr x0 x1 xf0 xf1
              obtain ⟨⟨hM, hS⟩, hO⟩ := hT
              have hBd := hBr
              clear hBr
              obtain ⟨x0, x1, xf0, xf1⟩ := Blk.two hM.b2
              go_wp2_with fail
              refine (rWithin_v18 (s := s) 64 _ hS hBd).mono ?_
              rintro e wn ⟨v, rfl, ⟨An, cn, rfl, hSn, hBdn⟩, hbn⟩
              rw [H6.out] at hSn hBdn ⊢
              dsimp only at hSn hBdn ⊢
              replace hM := hM.call hbn
              replace hO := Own.below hO hbn
              clear hS hBd hbn x0 x1 xf0 xf1
              obtain ⟨x0, x1, xf0, xf1⟩ := Blk.two hM.b2
              have qf := hM.b0.frozen 1
              have qc := (Bl3 hM.b0)
              obtain ⟨qc0, qc1, qc2⟩ := qc
              go_upto_region 21 with (fail)
              have hMx := ((hM.set 0 1 (.int .i64 (y1 : Nat)) rfl).set 2 0 (.slice An s6.1.length cn) rfl).set 2 1 (.int .i64 (s6.2 : Nat)) rfl
              have hSx := SlB.setB (i := 1) (SlB.setB (i := 0) (SlB.setB (k := gp) (i := 1) hSn hBdn (by omega) (.int .i64 (y1 : Nat))) (k := gr) hBdn (by omega) (.slice An s6.1.length cn)) (k := gr) hBdn (by omega) (.int .i64 (s6.2 : Nat))
              have hOx := Own.setM (i := 1) (Own.setM (i := 0) (Own.setM (i := 1) hO hM (by simp) (.head _) (.int .i64 (y1 : Nat))) (hM.set 0 1 (.int .i64 (y1 : Nat)) rfl) (by simp) (.tail _ (.tail _ (.head _))) (.slice An s6.1.length cn)) ((hM.set 0 1 (.int .i64 (y1 : Nat)) rfl).set 2 0 (.slice An s6.1.length cn) rfl) (by simp) (.tail _ (.tail _ (.head _))) (.int .i64 (s6.2 : Nat))
              refine gen1 (T := fun W => (Mm w W [(gp, 44, pta (pend (f : Int) m, (y1 : Int), 0, dg0)), (gq, 79, #[.int .i64 (f : Nat), .int .i64 (nx : Nat), .int .i64 (tt : Nat), .int .i64 (q : Nat), .slice E m.length cE]), (gr, 199, #[.slice An s6.1.length cn, .int .i64 (s6.2 : Nat)]), (w.heap.size, 79, crz)] [E.map (·.block)] ∧ SlB W An cn s6.1) ∧ OwnPr W (gq + 1) E cE m) ⟨⟨hMx, hSx⟩, hOx⟩ (fun wm hT => ?_)
              clear hMx hSx hOx hM hSn hO x0 x1 xf0 xf1 qf qc0 qc1 qc2
              obtain ⟨⟨hM, hS⟩, hO⟩ := hT
              have hBd := hBdn
              clear hBdn
              obtain ⟨x0, x1, xf0, xf1⟩ := Blk.two hM.b2
              go_wp2_with fail
              refine (rWithin_v18 (s := s6) 65536 _ hS hBd).mono ?_
              rintro e wn ⟨v, rfl, ⟨An, cn, rfl, hSn, hBdn⟩, hbn⟩
              rw [H7.out] at hSn hBdn ⊢
              dsimp only at hSn hBdn ⊢
              replace hM := hM.call hbn
              replace hO := Own.below hO hbn
              clear hS hBd hbn x0 x1 xf0 xf1
              obtain ⟨x0, x1, xf0, xf1⟩ := Blk.two hM.b2
              have qf := hM.b0.frozen 2
              have qc := (Bl3 hM.b0)
              obtain ⟨qc0, qc1, qc2⟩ := qc
              go_upto_region 22 with (fail)
              have hMx := ((hM.set 0 2 (.int .i64 (y2 : Nat)) rfl).set 2 0 (.slice An s7.1.length cn) rfl).set 2 1 (.int .i64 (s7.2 : Nat)) rfl
              have hSx := SlB.setB (i := 1) (SlB.setB (i := 0) (SlB.setB (k := gp) (i := 2) hSn hBdn (by omega) (.int .i64 (y2 : Nat))) (k := gr) hBdn (by omega) (.slice An s7.1.length cn)) (k := gr) hBdn (by omega) (.int .i64 (s7.2 : Nat))
              have hOx := Own.setM (i := 1) (Own.setM (i := 0) (Own.setM (i := 2) hO hM (by simp) (.head _) (.int .i64 (y2 : Nat))) (hM.set 0 2 (.int .i64 (y2 : Nat)) rfl) (by simp) (.tail _ (.tail _ (.head _))) (.slice An s7.1.length cn)) ((hM.set 0 2 (.int .i64 (y2 : Nat)) rfl).set 2 0 (.slice An s7.1.length cn) rfl) (by simp) (.tail _ (.tail _ (.head _))) (.int .i64 (s7.2 : Nat))
              refine gen1 (T := fun W => (Mm w W [(gp, 44, pta (pend (f : Int) m, (y1 : Int), (y2 : Int), dg0)), (gq, 79, #[.int .i64 (f : Nat), .int .i64 (nx : Nat), .int .i64 (tt : Nat), .int .i64 (q : Nat), .slice E m.length cE]), (gr, 199, #[.slice An s7.1.length cn, .int .i64 (s7.2 : Nat)]), (w.heap.size, 79, crz)] [E.map (·.block)] ∧ SlB W An cn s7.1) ∧ OwnPr W (gq + 1) E cE m) ⟨⟨hMx, hSx⟩, hOx⟩ (fun wm hT => ?_)
              clear hMx hSx hOx hM hSn hO x0 x1 xf0 xf1 qf qc0 qc1 qc2
              obtain ⟨⟨hM, hS⟩, hO⟩ := hT
              have hBd := hBdn
              clear hBdn
              obtain ⟨x0, x1, xf0, xf1⟩ := Blk.two hM.b2
              go_wp2_with fail
              refine (rFixed_v (s := s7) 32 _ hS hBd).mono ?_
              rintro e wn ⟨Am, cm, mm, v, rfl, hmm, hSm, hBm, ⟨An, cn, rfl, hSn, hBdn⟩, hbn⟩
              rw [H8.out] at hmm hSn hBdn ⊢
              dsimp only at hmm hSn hBdn ⊢
              replace hM := hM.call hbn
              replace hO := Own.below hO hbn
              clear hS hBd hbn x0 x1 xf0 xf1
              obtain ⟨x0, x1, xf0, xf1⟩ := Blk.two hM.b2
              have hwn : gr < wn.heap.size := hM.b2.lt
              go_upto_region 24 with (fail)
              have hMx := ((hM.set 2 0 (.slice An s8.1.length cn) rfl).set 2 1 (.int .i64 (s8.2 : Nat)) rfl).allocO (.cells #[.slice An s8.1.length cn, .int .i64 (s8.2 : Nat)] 199)
              have hSx := Sl.below (SlB.setB (i := 1) (SlB.setB (i := 0) (k := gr) hSn hBdn (by omega) (.slice An s8.1.length cn)) (k := gr) hBdn (by omega) (.int .i64 (s8.2 : Nat))) (below_new _ (.cells #[.slice An s8.1.length cn, .int .i64 (s8.2 : Nat)] 199))
              have hSmx := Sl.below (SlB.setB (i := 1) (SlB.setB (i := 0) (k := gr) hSm hBm (by omega) (.slice An s8.1.length cn)) (k := gr) hBm (by omega) (.int .i64 (s8.2 : Nat))) (below_new _ (.cells #[.slice An s8.1.length cn, .int .i64 (s8.2 : Nat)] 199))
              have hOx := World.ownsRow.alloc (Own.setM (i := 1) (Own.setM (i := 0) hO hM (by simp) (.tail _ (.tail _ (.head _))) (.slice An s8.1.length cn)) (hM.set 2 0 (.slice An s8.1.length cn) rfl) (by simp) (.tail _ (.tail _ (.head _))) (.int .i64 (s8.2 : Nat))) (.cells #[.slice An s8.1.length cn, .int .i64 (s8.2 : Nat)] 199)
              refine gen1 (T := fun W => ((Mm w W [(gp, 44, pta (pend (f : Int) m, (y1 : Int), (y2 : Int), dg0)), (gq, 79, #[.int .i64 (f : Nat), .int .i64 (nx : Nat), .int .i64 (tt : Nat), .int .i64 (q : Nat), .slice E m.length cE]), (gr, 199, #[.slice An s8.1.length cn, .int .i64 (s8.2 : Nat)]), (w.heap.size, 79, crz)] [E.map (·.block)] ∧ SlB W An cn s8.1) ∧ SlB W Am cm mm) ∧ OwnPr W (gq + 1) E cE m) ⟨⟨⟨hMx, hSx⟩, hSmx⟩, hOx⟩ (fun wm hT => ?_)
              clear hMx hSx hSmx hOx hM hSn hSm hO x0 x1 xf0 xf1 hwn
              obtain ⟨⟨⟨hM, hS⟩, hSm⟩, hO⟩ := hT
              have hBd := hBdn
              clear hBdn
              obtain rfl : mm = mf := hmm.out
              have HMF := Lib.hid hmf
              clear hmm hmf
              go_wp2_with fail
              go_loopw [15] (fun x wz => ∃ j : Nat, j ≤ mm.length ∧ x = .int .i64 (j : Nat) ∧ Mm w wz [(gp, 44, if mm.length = 32 then ptk (pend (f : Int) m) y1 y2 mm j else pta (pend (f : Int) m, (y1 : Int), (y2 : Int), dg0)), (gq, 79, #[.int .i64 (f : Nat), .int .i64 (nx : Nat), .int .i64 (tt : Nat), .int .i64 (q : Nat), .slice E m.length cE]), (gr, 199, #[.slice An s8.1.length cn, .int .i64 (s8.2 : Nat)]), (w.heap.size, 79, crz)] [E.map (·.block)] ∧ SlB wz An cn s8.1 ∧ SlB wz Am cm mm ∧ OwnPr wz (gq + 1) E cE m) (fun x wz => mm.length - (intOf x).toNat)
              case atStart => exact ⟨0, Nat.zero_le _, rfl, by rw [ptk_zero, ite_self]; exact hM, hS, hSm, hO⟩
              case round =>
                obtain ⟨j, hj, rfl, hM', hS', hSm', hO'⟩ := hrel
                clear hM hS hSm hO
                rcases Nat.lt_or_ge j mm.length with hjl | hjl
                · have h32 : mm.length = 32 := by have := HMF.out; omega
                  rw [if_pos h32] at hM'
                  obtain ⟨ad, rfl, hcj⟩ := Sl.at1 hSm' hjl
                  have hset := Lib.hid (ptk_set (pend (f : Int) m) y1 y2 mm j (by omega) h32)
                  have hfz := hM'.b0.frozen (3 + j)
                  have hpz := Lib.hid (ptk_size (pend (f : Int) m) y1 y2 mm j (by omega) h32)
                  obtain ⟨v0, hv0⟩ : ∃ v, World.cell? _ ⟨gp, 3 + j, none⟩ = some v := ⟨_, (hM'.b0.cell (3 + j)).trans (Array.getElem?_eq_getElem (by rw [hpz.out]; omega))⟩
                  have hj0 : 0 ≤ (j : Int) := by omega
                  have hj1 : (j : Int) < (mm.length : Int) := by omega
                  have hj2 : (j : Int) < 32 := by omega
                  have H32 := Lib.hid h32
                  generalize mm[j] = bj at *
                  clear h32
                  go_upto_region 26 with (fail)
                  have hMx := hM'.set 0 (3 + j) (bv bj) rfl
                  rw [hset.out] at hMx
                  have hSx := SlB.setB (k := gp) (i := 3 + j) hS' hBd (by omega) (bv bj)
                  have hSmx := SlB.setB (k := gp) (i := 3 + j) hSm' hBm (by omega) (bv bj)
                  have hOx := Own.setM (i := 3 + j) hO' hM' (by simp) (.head _) (bv bj)
                  go_wp2_with fail
                  go_roundw
                  case rel => exact ⟨j + 1, by omega, by go_num, by rw [if_pos H32.out]; exact hMx, hSx, hSmx, hOx⟩
                  case measure => simp [intOf]; omega
                · obtain rfl : j = mm.length := by omega
                  have hpt : (if mm.length = 32 then ptk (pend (f : Int) m) y1 y2 mm mm.length else pta (pend (f : Int) m, (y1 : Int), (y2 : Int), dg0)) = pta (pend (f : Int) m, (y1 : Int), (y2 : Int), dg) := by
                    rcases HMF.out with h | h
                    · rw [dif_neg (by omega)] at hdg
                      rw [if_neg (by omega), hdg]
                    · rw [dif_pos h] at hdg
                      rw [if_pos h, ← hdg, h, ptk_full _ _ _ _ h]
                  rw [hpt] at hM'
                  clear hpt hdg HMF hSm' hBm H8 H6 H7
                  obtain ⟨p, hpe⟩ : ∃ p : Pt5, (pend (f : Int) m, (y1 : Int), (y2 : Int), dg) = p := ⟨_, rfl⟩
                  have hp1 : p.2.1 = (y1 : Int) := by rw [← hpe]
                  rw [hpe] at hM'
                  have hsu2 := HSU.out
                  rw [hpe] at hsu2
                  have HS := Lib.hid hsu2
                  have hps := Lib.hid (pta_size p)
                  have hpa := Lib.hid (pta_all p)
                  have hwrp : wrap64 (pend (f : Int) m + p.2.1) = pend (f : Int) m + p.2.1 := by simp only [wrap64]; omega
                  have hwrp2 : IntKind.i64.wrap (pend (f : Int) m + p.2.1) = pend (f : Int) m + p.2.1 := by rw [IntKind.wrap_i64]; omega
                  have HP1 := Lib.hid hp1
                  clear hsu2 HSU hpe hp1
                  obtain ⟨x0, x1, x2⟩ := Bl3 hM'.b0
                  go_upto_region 29 with (fail)
                  clear x0 x1 x2
                  obtain ⟨c0, c1', c2', c3, c4, cf0, cf1, cf2, cf3, cf4⟩ := Blk.five hM'.b1
                  refine gen1 (T := fun W => (Mm w W [(gp, 44, pta p), (gq, 79, #[.int .i64 (f : Nat), .int .i64 (nx : Nat), .int .i64 (tt : Nat), .int .i64 (q : Nat), .slice E m.length cE]), (gr, 199, #[.slice An s8.1.length cn, .int .i64 (s8.2 : Nat)]), (w.heap.size, 79, crz)] [E.map (·.block)] ∧ SlB W An cn s8.1) ∧ OwnPr W (gq + 1) E cE m) ⟨⟨hM', hS'⟩, hO'⟩ (fun wq hT => ?_)
                  clear hM' hS' hO' c0 c1' c2' c3 c4 cf0 cf1 cf2 cf3 cf4
                  obtain ⟨⟨hM8, hS8⟩, hO8⟩ := hT
                  obtain ⟨c0, c1', c2', c3, c4, cf0, cf1, cf2, cf3, cf4⟩ := Blk.five hM8.b1
                  have hL9 := litR wq p
                  have hO9 := World.ownsRow.alloc hO8 (.cells (pta p) 44)
                  have hM9 := hM8.allocO (.cells (pta p) 44)
                  have hS9 := hS8.below (below_new wq (.cells (pta p) 44))
                  have hgc8 : gq + 1 ≤ wq.heap.size := by have := hM8.b1.lt; omega
                  have hgp8 : gp < wq.heap.size := hM8.b0.lt
                  go_wp2_with (first | (refine wpl_loadG rfl 44 _ rfl ⟨gp, 0, none⟩ (pta p) rfl hM8.b0.cells _ Tryz.underlying44 rfl (by rw [hps.out]; kernel_rfl) ?_) | (refine wpl_litR rfl _ rfl p rfl ?_) | (at_builtin; refine wpl_partsR rfl _ _ rfl (gq + 1) E cE m rfl hO9 (some ⟨wq.heap.size, 0, none⟩) 1 1 [p] rfl rfl hL9 (by rw [hml.out]; simp; omega) (by simp; omega) ?_; intro A10 c10 m10 w10 hm10 hO10 hg10 hb10; have hB10 : Blk w10 gq 79 _ := (hb10.block gq (Nat.lt_succ_self _)).trans hM9.b1; obtain ⟨d0, d1, d2, d3, d4, df0, df1, df2, df3, df4⟩ := Blk.five hB10))
                  have hM10 := (hM9.sub (List.sublist_cons_self _ _)).base hb10 (by simp; omega) (by omega) (a := A10.map (·.block)) (fun k hk => hO10.lt k hk) (G' := []) (by simp)
                  have hM11 := hM10.set 0 4 (.slice A10 m10.length c10) rfl
                  have hS11 := SlB.setB (k := gq) (i := 4) (SlB.apart hS9 hBd (show gr ≤ gq + 1 by omega) hb10) hBd (by omega) (.slice A10 m10.length c10)
                  have hO11 := Own.set1 hO10 (g := gq) (i := 4) (Nat.lt_succ_self _) (.slice A10 m10.length c10)
                  go_roundw
                  case rel => exact ⟨k + 1, A10, c10, m10, s8, An, cn, hlt, by go_num, by rw [hm10.out, pend_snoc], (show _ = _ from by rw [hm10.out, HS.out]), hM11, hS11, hBd, hO11⟩
                  case measure => simp [intOf]; omega
            · rcases Nat.lt_or_ge k n with hlt | hge
              · have hs0 : s.2 ≠ 0 := fun h => hend ⟨hlt, h⟩
                have hkI : (k : Int) < (n : Int) := by omega
                have hb : (((s.2 : Nat) : Int) == 0) = false := by rw [beq_eq_false_iff_ne]; omega
                have hst := crLoop_stop n k (f : Int) s5 hk (by rw [hm.out]; exact hs0)
                rw [hm.out] at hst
                have hre : rEnd s ≠ 0 := by unfold rEnd; rw [if_neg (fun h => hs0 h.1)]; exact hs0
                have HT := Lib.hid (show crTake b = ((0, 0, 0, 0, []), rEnd s) from by rw [HT0.out, HC.out, crEnd_1 (by dsimp only; rw [hst]; exact hre)]; dsimp only; rw [hst])
                have hbb : (((rEnd s : Nat) : Int) != 0) = true := by simp; omega
                clear hs0 hst hre hend
                go_wp2_with fail
                refine (rEnd_v18 (s := s) _).mono ?_
                rintro e w8 ⟨rfl, hb8⟩
                replace hMr := hMr.call hb8
                have hM := hMr
                clear hb8 x0 x1 xf0 xf1
                obtain ⟨r0, r1, r2, r3, r4, rf0, rf1, rf2, rf3, rf4⟩ := Blk.five (hM.b2)
                go_wp2_with fail
                exact bodyPost_ret (res_rc2 rfl rfl (g := w.heap.size) (Blk.set5 (hM.b2) _ _ _ _ _)) rfl ⟨none, 0, [], by rw [HT.out]; rfl, (show _ = _ from by rw [HT.out]), Own.none_ _ _ _ _, bel_set5 hM.bel (Nat.le_refl _) _ _ _ _ _⟩
              · obtain rfl : k = n := by omega
                have HT1 : Hid (crTake b = crEnd (((f : Int), (nx : Int), (tt : Int), (q : Int), m), s)) := (show _ = _ from by rw [HT0.out, HC.out, hm.out])
                have hmI : PtsI m := by have := crLoop_I k (f : Int) s5 (by omega) (by omega); rw [hm.out] at this; exact this
                have HMI := Lib.hid hmI
                clear HT0 HC hm hmI hend
                go_wp2_with fail
                refine (rEnd_v18 (s := s) _).mono ?_
                rintro e w8 ⟨rfl, hb8⟩
                have hM := hMr.call hb8
                have hO8 := Own.below hOr hb8
                clear hb8 x0 x1 xf0 xf1 hMr hOr
                rcases Decidable.em (rEnd s = 0) with h0 | h0
                · have hbb : (((rEnd s : Nat) : Int) != 0) = false := by simp [h0]
                  have HN0 := Lib.hid h0
                  clear h0
                  obtain ⟨q0, q1, q2, q3, q4, -⟩ := Blk.five hM.b0
                  go_wp2_with fail
                  refine (rCCheck_any f nx tt q m _ (Own.sl hO8) HMI.out).mono ?_
                  rintro e w9 ⟨rfl, hb9⟩
                  replace hM := hM.call hb9
                  replace hO8 := Own.below hO8 hb9
                  clear hb9 q0 q1 q2 q3 q4
                  rcases Decidable.em (crchk ((f : Int), (nx : Int), (tt : Int), (q : Int), m) = 0) with h1 | h1
                  · have hbc : (((crchk ((f : Int), (nx : Int), (tt : Int), (q : Int), m) : Nat) : Int) != 0) = false := by simp [h1]
                    have HT := Lib.hid (show crTake b = (((f : Int), (nx : Int), (tt : Int), (q : Int), m), 0) from by rw [HT1.out]; exact crEnd_3 HN0.out h1)
                    clear h1
                    obtain ⟨c0, c1', c2, c3, c4, -⟩ := Blk.five hM.b0
                    obtain ⟨r0, r1, r2, r3, r4, rf0, rf1, rf2, rf3, rf4⟩ := Blk.five hM.b2
                    go_wp2_with fail
                    exact bodyPost_ret (res_rc2 rfl rfl (g := w.heap.size) (Blk.set5 hM.b2 _ _ _ _ _)) rfl ⟨E, cE, m, by rw [HT.out]; rfl, (show _ = _ from by rw [HT.out]), (Own.set5 hO8 (by omega) _ _ _ _ _).more (by omega), bel_set5 hM.bel (Nat.le_refl _) _ _ _ _ _⟩
                  · have hbc : (((crchk ((f : Int), (nx : Int), (tt : Int), (q : Int), m) : Nat) : Int) != 0) = true := by simp; omega
                    have HT := Lib.hid (show crTake b = ((0, 0, 0, 0, []), crchk ((f : Int), (nx : Int), (tt : Int), (q : Int), m)) from by rw [HT1.out]; exact crEnd_2 HN0.out (by dsimp only; omega))
                    clear h1
                    obtain ⟨r0, r1, r2, r3, r4, rf0, rf1, rf2, rf3, rf4⟩ := Blk.five (hM.b2)
                    go_wp2_with fail
                    exact bodyPost_ret (res_rc2 rfl rfl (g := w.heap.size) (Blk.set5 (hM.b2) _ _ _ _ _)) rfl ⟨none, 0, [], by rw [HT.out]; rfl, (show _ = _ from by rw [HT.out]), Own.none_ _ _ _ _, bel_set5 hM.bel (Nat.le_refl _) _ _ _ _ _⟩
                · have hbb : (((rEnd s : Nat) : Int) != 0) = true := by simp; omega
                  have HT := Lib.hid (show crTake b = ((0, 0, 0, 0, []), rEnd s) from by rw [HT1.out]; exact crEnd_1 (by dsimp only; omega))
                  clear h0
                  obtain ⟨r0, r1, r2, r3, r4, rf0, rf1, rf2, rf3, rf4⟩ := Blk.five (hM.b2)
                  go_wp2_with fail
                  exact bodyPost_ret (res_rc2 rfl rfl (g := w.heap.size) (Blk.set5 (hM.b2) _ _ _ _ _)) rfl ⟨none, 0, [], by rw [HT.out]; rfl, (show _ = _ from by rw [HT.out]), Own.none_ _ _ _ _, bel_set5 hM.bel (Nat.le_refl _) _ _ _ _ _⟩
  · have hb1 : ((fbad : Int) == 0) = false := by rw [beq_eq_false_iff_ne]; omega
    have hb2 : ((fbad : Int) != 0) = true := by rw [bne_iff_ne]; omega
    have HT := Lib.hid (show crTake b = ((0, 0, 0, 0, []), fbad) from by unfold crTake; rw [hA h0, if_pos h0])
    clear hA hB hC hfl h0
    obtain ⟨r0, r1, r2, r3, r4, rf0, rf1, rf2, rf3, rf4⟩ := Blk.five (hM.b0)
    go_wp2_with fail
    exact bodyPost_ret (res_rc2 rfl rfl (g := w.heap.size) (Blk.set5 (hM.b0) _ _ _ _ _)) rfl ⟨none, 0, [], by rw [HT.out]; rfl, (show _ = _ from by rw [HT.out]), Own.none_ _ _ _ _, bel_set5 hM.bel (Nat.le_refl _) _ _ _ _ _⟩
end Go.Proofs.YtabnndjdkjkciaaGreatDoor

namespace Go.Proofs.YtabnndjdkjkciaaGreatDoor
open Go.RowKit Go.Maps Go.Sort
attribute [local go_sem ↓] Go.wp_at_zero Go.wp_at_succ

/-- '[]byte(s)' -/
def cvW18 (w : World) (e : TypeId) (d : List UInt8) : World := w.drew.alloc (.cells (bytesRow ⟨d.toArray⟩ (grownCap w d.length 0 e)) e ((bytesRow ⟨d.toArray⟩ (grownCap w d.length 0 e)).size, (bytesRow ⟨d.toArray⟩ (grownCap w d.length 0 e)).size + 1))
theorem cvW18_below (w : World) (e : TypeId) (d : List UInt8) : Below w.heap.size w (cvW18 w e d) := (Below.refl _ _).drew.alloc (Nat.le_refl _) _
theorem cvW18_sl (w : World) (e : TypeId) (d : List UInt8) (h : d.length ≤ maxLen) {g : Nat} (hg : g = w.heap.size) : SlB (cvW18 w e d) (some ⟨g, 0, none⟩) (grownCap w d.length 0 e) d := by
  subst hg
  refine ⟨by simp, grownCap_ge _ _ _ _, grownCap_le_maxLen _ _ _ _ h, (fun h => by cases h), fun j u hj => ⟨_, rfl, ?_⟩⟩
  rw [addr_lit, Nat.zero_add]
  have hl : j < d.length := by
    have := (List.getElem?_eq_some_iff.1 hj).1
    simpa using this
  have h1 := cell_of_row (cvW18 w e d) w.heap.size j _ e _ (heap_alloc_new w.drew _)
  rw [h1, bytesRow_at ⟨d.toArray⟩ _ j hl]
  rw [← hj]
  simp [List.getElem?_eq_getElem hl]
theorem res_rc3 {fn : Func} {a b c : Nat} {tmps : Array Value} {w : World} {g : Nat} {x y z u v : Value} (hres : fn.results = #[.cell a 79, .tmp b, .tmp c]) (ha : tmps.getD a undef = .pointer (some ⟨g, 0, none⟩)) (hB : Blk w g 79 #[x, y, z, u, v]) :
    (results fn tmps).run Tryz.prog w = .ok (.tuple #[.agg #[x, y, z, u, v], tmps.getD b undef, tmps.getD c undef]) w := by
  obtain ⟨b0, b1, b2, b3, b4, -⟩ := Blk.five hB
  have ha' : tmps[a]?.getD undef = .pointer (some ⟨g, 0, none⟩) := by simpa using ha
  simp [results, hres, go_sem, b0, b1, b2, b3, b4, ha']
/-- what loading gives -/
def load18 (r : Bs × Nat) : Cur × Bool × Nat := if r.2 = 4 then ((0, 0, 0, 0, []), false, 0) else if r.2 ≠ 0 then ((0, 0, 0, 0, []), false, r.2) else ((crTake r.1).1, (crTake r.1).2 == 0, (crTake r.1).2)
set_option maxRecDepth 100000 in
set_option maxHeartbeats 2000000 in
theorem K18Load_any {T : Nat → Prop} {A B : Option Addr} {c k : Nat} (d : Dk Bs) (n : Bs) (w : World) (hT : ∀ k, w.heap.size ≤ k → T k) (h : Rdk T w d A c B k) (hl : d.sure.length + d.pend.length ≤ 100000) (hn : n.length ≤ 9223372036854775807) (hv : (sGetK d n).1.length ≤ 1000000) :
    Calls Tryz.prog 41 #[.agg (rda d A c B k), .string ⟨n.toArray⟩] w fun e w' => ∃ A c m, e = .returned (.tuple #[crv (load18 (sGetK d n)).1.1 (load18 (sGetK d n)).1.2.1 (load18 (sGetK d n)).1.2.2.1 (load18 (sGetK d n)).1.2.2.2.1 A (List.length m) c, .bool (load18 (sGetK d n)).2.1, .int .i64 ((load18 (sGetK d n)).2.2 : Nat)]) ∧ Hid (m = (load18 (sGetK d n)).1.2.2.2.2) ∧ OwnPr w' w.heap.size A c m ∧ Below w.heap.size w w' := by
  have hM := ((Mm.start w).alloc (rda d A c B k) 91).alloc crz 79
  rw [show (w.alloc (.cells (rda d A c B k) 91)).heap.size = w.heap.size + 1 by simp] at hM
  obtain ⟨r0, r1, r2, r3, r4, -⟩ := hM.b1.fiveC
  have HG := Lib.hid (KSGet_any d n _ (fun j hj => hT j (Nat.le_trans hM.bel.size hj)) (h.below hM.bel) hl hn)
  clear h hT
  generalize sGetK d n = r at *
  obtain ⟨v, k2⟩ := r
  dsimp only at HG hv
  have HCr := Lib.hid (show load18 (v, k2) = if k2 = 4 then ((0, 0, 0, 0, []), false, 0) else if k2 ≠ 0 then ((0, 0, 0, 0, []), false, k2) else ((crTake v).1, (crTake v).2 == 0, (crTake v).2) from rfl)
  generalize load18 (v, k2) = cl at *
  unfold rda
  go_enter Tryz.func41, Tryz.ntmps41
  go_wp2_with fail
  refine HG.out.mono ?_
  clear HG r0 r1 r2 r3 r4
  rintro e w1 ⟨rfl, hb1⟩
  have hM1 := hM.call hb1
  clear hM hb1
  by_cases hk4 : k2 = 4
  · have HK := Lib.hid (HCr.out.trans (if_pos hk4))
    subst hk4
    clear HCr
    obtain ⟨b0, b1, b2, b3, b4, bf0, bf1, bf2, bf3, bf4⟩ := hM1.b0.five
    have HBz := Lib.hid (hM1.b0.set5 (.int .i64 0) (.int .i64 0) (.int .i64 0) (.int .i64 0) (.slice none 0 0))
    have Hbz := Lib.hid (bel_set5 hM1.bel (g := w.heap.size + 1) (Nat.le_succ _) (.int .i64 0) (.int .i64 0) (.int .i64 0) (.int .i64 0) (.slice none 0 0))
    clear hM1
    go_wp2_with fail
    exact bodyPost_ret (res_rc3 rfl rfl (g := w.heap.size + 1) HBz.out) rfl ⟨none, 0, [], by rw [HK.out]; rfl, (show _ = _ from by rw [HK.out]), Own.none_ _ _ _ _, Hbz.out⟩
  replace HCr := Lib.hid (HCr.out.trans (if_neg hk4))
  have hz4 : ((k2 : Int) == 4) = false := by
    have h1 : ¬ (k2 : Int) = 4 := by omega
    simpa using h1
  clear hk4
  by_cases h0 : k2 = 0
  rotate_left
  · have HK := Lib.hid (HCr.out.trans (if_pos h0))
    have hz0 : ((k2 : Int) != 0) = true := by simp; omega
    clear HCr h0
    obtain ⟨b0, b1, b2, b3, b4, bf0, bf1, bf2, bf3, bf4⟩ := hM1.b0.five
    have HBz := Lib.hid (hM1.b0.set5 (.int .i64 0) (.int .i64 0) (.int .i64 0) (.int .i64 0) (.slice none 0 0))
    have Hbz := Lib.hid (bel_set5 hM1.bel (g := w.heap.size + 1) (Nat.le_succ _) (.int .i64 0) (.int .i64 0) (.int .i64 0) (.int .i64 0) (.slice none 0 0))
    clear hM1
    go_wp2_with fail
    exact bodyPost_ret (res_rc3 rfl rfl (g := w.heap.size + 1) HBz.out) rfl ⟨none, 0, [], by rw [HK.out]; rfl, (show _ = _ from by rw [HK.out]), Own.none_ _ _ _ _, Hbz.out⟩
  subst h0
  have HK := Lib.hid (HCr.out.trans (if_neg (by simp)))
  have hcs := run_bytes_of_string (P := Tryz.prog) w1 9 29 5 ⟨v.toArray⟩ Tryz.underlying9 Tryz.underlying29 Tryz.underlying5
  rw [show (⟨v.toArray⟩ : ByteArray).size = v.length from rfl] at hcs
  have hb4 : Below w1.heap.size w1 (cvW18 w1 5 v) := cvW18_below w1 _ v
  have HT := Lib.hid (rCTake_any (some ⟨w1.heap.size, 0, none⟩) (grownCap w1 v.length 0 5) v (cvW18 w1 5 v) (cvW18_sl w1 _ v (by unfold maxLen; omega) rfl) hv)
  unfold cvW18 at hb4 HT
  have HM2 := Lib.hid (hM1.call hb4)
  have hlt1 := hM1.b0.lt
  unfold GivesCd2 at HT
  generalize crTake v = t at *
  obtain ⟨⟨x1, x2, x3, x4, x5⟩, k3⟩ := t
  dsimp only at HT HK
  clear HCr hM1 hb4 hz4
  go_wp2_with fail
  refine HT.out.mono ?_
  clear HT hcs
  rintro e w2 ⟨A2, c2, m2, rfl, hm2, ho2, hb2⟩
  have hM3 := HM2.out.call hb2
  have hM4 := hM3.alloc #[.int .i64 x1, .int .i64 x2, .int .i64 x3, .int .i64 x4, .slice A2 m2.length c2] 79
  have ho4 := Own.below ho2 (below_new w2 (.cells #[.int .i64 x1, .int .i64 x2, .int .i64 x3, .int .i64 x4, .slice A2 m2.length c2] 79))
  clear hM3 HM2 hb2 ho2
  have hsb : w.heap.size + 1 < (World.alloc w1.drew (.cells (bytesRow ⟨v.toArray⟩ (grownCap w1 v.length 0 5)) 5 ((bytesRow ⟨v.toArray⟩ (grownCap w1 v.length 0 5)).size, (bytesRow ⟨v.toArray⟩ (grownCap w1 v.length 0 5)).size + 1))).heap.size := by
    simp
    omega
  generalize (World.alloc w1.drew (.cells (bytesRow ⟨v.toArray⟩ (grownCap w1 v.length 0 5)) 5 ((bytesRow ⟨v.toArray⟩ (grownCap w1 v.length 0 5)).size, (bytesRow ⟨v.toArray⟩ (grownCap w1 v.length 0 5)).size + 1))).heap.size = bs at *
  go_upto_region 7 with (fail)
  refine gen1 (T := fun W => Mm w W [(w2.heap.size, 79, #[.int .i64 x1, .int .i64 x2, .int .i64 x3, .int .i64 x4, .slice A2 m2.length c2]), (w.heap.size + 1, 79, crz), (w.heap.size, 91, rda d A c B k)] [] ∧ OwnPr W bs A2 c2 m2) ⟨hM4, ho4⟩ (fun w3 hT => ?_)
  clear hM4 ho4
  obtain ⟨hM4, ho4⟩ := hT
  generalize w2.heap.size = g9 at *
  have HOut := Lib.hid (show OwnPr _ w.heap.size A2 c2 m2 from Own.more (Own.set5 ho4 hsb (.int .i64 x1) (.int .i64 x2) (.int .i64 x3) (.int .i64 x4) (.slice A2 m2.length c2)) (by omega))
  have HBel := Lib.hid (bel_set5 hM4.bel (g := w.heap.size + 1) (Nat.le_succ _) (.int .i64 x1) (.int .i64 x2) (.int .i64 x3) (.int .i64 x4) (.slice A2 m2.length c2))
  have HBr := Lib.hid (hM4.b1.set5 (.int .i64 x1) (.int .i64 x2) (.int .i64 x3) (.int .i64 x4) (.slice A2 m2.length c2))
  obtain ⟨b0, b1, b2, b3, b4, bf0, bf1, bf2, bf3, bf4⟩ := hM4.b1.five
  obtain ⟨z0, z1, z2, z3, z4, -⟩ := hM4.b0.five
  have hk3 : ((k3 : Int) == 0) = (k3 == 0) := by
    rw [Bool.eq_iff_iff, beq_iff_eq, beq_iff_eq]
    omega
  clear hM4 ho4
  go_wp2_with fail
  exact bodyPost_ret (res_rc3 rfl rfl (g := w.heap.size + 1) HBr.out) rfl ⟨A2, c2, m2, by rw [HK.out]; rfl, (show _ = _ from by rw [HK.out]; exact hm2.out), HOut.out, HBel.out⟩
end Go.Proofs.YtabnndjdkjkciaaGreatDoor

namespace Go.Proofs.YtabnndjdkjkciaaGreatDoor
open Go.RowKit Go.Maps Go.Sort
attribute [local go_sem ↓] Go.wp_at_zero Go.wp_at_succ

/-- a cursor cleared, plainly -/
def clear18 {α : Type} (r : Dk α × Nat) : Dk α × Nat := if r.2 = 4 then (r.1, 0) else r
set_option maxRecDepth 100000 in
set_option maxHeartbeats 1000000 in
theorem K18Clear_any {T : Nat → Prop} {A B : Option Addr} {c k : Nat} (d : Dk Bs) (n : Bs) (w : World) (hT : ∀ k, w.heap.size ≤ k → T k) (h : Rdk T w d A c B k) (hl : d.sure.length + d.pend.length ≤ 400) (hf : d.fuse ≤ 9223372036854775807) (hn : n.length ≤ 9223372036854775807) :
    Calls Tryz.prog 39 #[.agg (rda d A c B k), .string ⟨n.toArray⟩] w fun e w' => GvK T w w' e (clear18 (sDelete ([] : Bs) d n)) := by
  have hS := KSt.begin hT h
  obtain ⟨r0, r1, r2, r3, r4, rf0, rf1, rf2, rf3, rf4⟩ := (hS).mm.b0.fiveC
  obtain ⟨b0, b1, b2, b3, b4, bf0, bf1, bf2, bf3, bf4⟩ := (hS).mm.b1.fiveC
  have HR := Lib.hid (KSDelete_any (T := T2 T w.heap.size) d n _ hS.up2 hS.R hl hf hn)
  generalize sDelete ([] : Bs) d n = r at *
  obtain ⟨d1, n1⟩ := r
  unfold rda
  go_enter Tryz.func39, Tryz.ntmps39
  go_wp2_with fail
  refine HR.out.mono ?_
  clear HR
  rintro e w2 ⟨A2, c2, B2, k2, rfl, hR2, hb2⟩
  dsimp only at hR2 ⊢
  have HS2 := Lib.hid (hS.next hR2 hb2)
  clear r0 r1 r2 r3 r4 rf0 rf1 rf2 rf3 rf4 b0 b1 b2 b3 b4 bf0 bf1 bf2 bf3 bf4
  have hS2 := hS.call hb2
  clear hR2 hb2 hS
  obtain ⟨r0, r1, r2, r3, r4, rf0, rf1, rf2, rf3, rf4⟩ := (hS2).mm.b0.fiveC
  obtain ⟨b0, b1, b2, b3, b4, bf0, bf1, bf2, bf3, bf4⟩ := (hS2).mm.b1.fiveC
  unfold rda
  clear hS2
  go_upto_region 2 with (fail)
  refine gen1 (T := fun W => KSt T w W d1 A2 c2 B2 k2) HS2.out (fun w3 hS3 => ?_)
  clear r0 r1 r2 r3 r4 rf0 rf1 rf2 rf3 rf4 b0 b1 b2 b3 b4 bf0 bf1 bf2 bf3 bf4
  clear HS2 w2
  obtain ⟨r0, r1, r2, r3, r4, rf0, rf1, rf2, rf3, rf4⟩ := (hS3).mm.b0.fiveC
  obtain ⟨b0, b1, b2, b3, b4, bf0, bf1, bf2, bf3, bf4⟩ := (hS3).mm.b1.fiveC
  have HS3 := Lib.hid hS3
  clear hS3
  rcases Decidable.em (n1 = 4) with h0 | h0
  · subst h0
    have HX := Lib.hid (show clear18 (d1, 4) = (d1, 0) from if_pos rfl)
    have HO := Lib.hid (HS3.out).out
    have HB := Lib.hid (HS3.out).mm.b0
    go_wp2_with fail
    exact bodyPost_ret (res_k2 rfl rfl (g := w.heap.size + 1) (HB.out.st5 _ _ _ _ _)) rfl (by rw [HX.out]; exact ⟨_, _, _, _, rfl, HO.out.1, HO.out.2⟩)
  · have hz : ((n1 : Int) == 4) = false := by
      have h1 : ¬ (n1 : Int) = 4 := by omega
      simpa using h1
    have HX := Lib.hid (show clear18 (d1, n1) = (d1, n1) from if_neg h0)
    clear h0
    have HO := Lib.hid (HS3.out).out
    have HB := Lib.hid (HS3.out).mm.b0
    go_wp2_with fail
    exact bodyPost_ret (res_k2 rfl rfl (g := w.heap.size + 1) (HB.out.st5 _ _ _ _ _)) rfl (by rw [HX.out]; exact ⟨_, _, _, _, rfl, HO.out.1, HO.out.2⟩)
end Go.Proofs.YtabnndjdkjkciaaGreatDoor

namespace Go.Proofs.YtabnndjdkjkciaaGreatDoor
open Go.RowKit Go.Maps Go.Sort
attribute [local go_sem ↓] Go.wp_at_zero Go.wp_at_succ

end Go.Proofs.YtabnndjdkjkciaaGreatDoor

namespace Go.Proofs.YtabnndjdkjkciaaGreatDoor
open Go.RowKit Go.Maps Go.Sort
attribute [local go_sem ↓] Go.wp_at_zero Go.wp_at_succ

theorem head_ix {x : Bs} (hn : named x = true) : ∃ c : UInt8, isBegun x = (126 == c) ∧ ∀ W : World, (Instr.index 9 (.string ⟨x.toArray⟩) (.int .i64 0)).run Tryz.prog W = .ok (.int .u8 (c.toNat : Int)) W := by
  cases x with
  | nil => cases hn
  | cons c r => exact ⟨c, begun_head, fun W => ix_str (c :: r) (k := 0) (by simp) W⟩
end Go.Proofs.YtabnndjdkjkciaaGreatDoor

namespace Go.Proofs.YtabnndjdkjkciaaGreatDoor
open Go.RowKit Go.Maps Go.Sort
attribute [local go_sem ↓] Go.wp_at_zero Go.wp_at_succ

/-- texts that lie behind a call's own blocks -/
def TxK (w W : World) (A : Option Addr) (c : Nat) (m : List Bs) : Prop := SlT W A c m ∧ ∀ k, A.map (·.block) = some k → w.heap.size + 2 ≤ k ∧ k < W.heap.size
section
variable {w W W' : World} {A : Option Addr} {c : Nat} {m : List Bs}
theorem TxK.call (h : TxK w W A c m) (hb : Below W.heap.size W W') : TxK w W' A c m := ⟨h.1.below hb, fun k hk => ⟨(h.2 k hk).1, Nat.lt_of_lt_of_le (h.2 k hk).2 hb.size⟩⟩
theorem TxK.st5 (h : TxK w W A c m) (x y z u v : Value) : TxK w (((((W.setCell ⟨w.heap.size, 0, none⟩ x).setCell ⟨w.heap.size, 1, none⟩ y).setCell ⟨w.heap.size, 2, none⟩ z).setCell ⟨w.heap.size, 3, none⟩ u).setCell ⟨w.heap.size, 4, none⟩ v) A c m := by
  have hw : Wr W (((((W.setCell ⟨w.heap.size, 0, none⟩ x).setCell ⟨w.heap.size, 1, none⟩ y).setCell ⟨w.heap.size, 2, none⟩ z).setCell ⟨w.heap.size, 3, none⟩ u).setCell ⟨w.heap.size, 4, none⟩ v) w.heap.size := (((((Wr.refl _ _).set_ 0 _).set_ 1 _).set_ 2 _).set_ 3 _).set_ 4 _
  exact ⟨Sl.sameH h.1 fun k hk => hw.block k (h.2 k hk).2 fun e => by have := (h.2 k hk).1; injection e with e; omega, fun k hk => ⟨(h.2 k hk).1, Nat.lt_of_lt_of_le (h.2 k hk).2 hw.size⟩⟩
end
theorem cell_st5 {W : World} {g b o : Nat} {t : Value} (hne : b ≠ g) (h : W.cell? ⟨b, o, none⟩ = some t) (x y z u v : Value) : (((((W.setCell ⟨g, 0, none⟩ x).setCell ⟨g, 1, none⟩ y).setCell ⟨g, 2, none⟩ z).setCell ⟨g, 3, none⟩ u).setCell ⟨g, 4, none⟩ v).cell? ⟨b, o, none⟩ = some t := by
  have hw : Wr W (((((W.setCell ⟨g, 0, none⟩ x).setCell ⟨g, 1, none⟩ y).setCell ⟨g, 2, none⟩ z).setCell ⟨g, 3, none⟩ u).setCell ⟨g, 4, none⟩ v) g := (((((Wr.refl _ _).set_ 0 _).set_ 1 _).set_ 2 _).set_ 3 _).set_ 4 _
  have hb := hw.block b (World.block_lt_of_cell? _ _ h) (fun e => hne (by injection e))
  rw [← h]
  generalize (((((W.setCell ⟨g, 0, none⟩ x).setCell ⟨g, 1, none⟩ y).setCell ⟨g, 2, none⟩ z).setCell ⟨g, 3, none⟩ u).setCell ⟨g, 4, none⟩ v) = W2 at *
  unfold World.cell?
  rw [hb]
set_option maxRecDepth 100000 in
set_option maxHeartbeats 1000000 in
theorem KSOpen_any {T : Nat → Prop} {A B : Option Addr} {c k : Nat} (d : Dk Bs) (w : World) (hT : ∀ k, w.heap.size ≤ k → T k) (h : Rdk T w d A c B k) (hl : d.sure.length + d.pend.length ≤ 400) (hf : d.fuse ≤ 9223372036854775807) (hn : Nmd d) :
    Calls Tryz.prog 36 #[.agg (rda d A c B k)] w fun e w' => GvK T w w' e (sOpen ([] : Bs) d) := by
  have hsh : d.shown.length ≤ 400 := by have := flen_dos d.sure d.pend; unfold Dk.shown; omega
  have hS := KSt.begin hT h
  have HK := Lib.hid (KNames_any (T := T2 T w.heap.size) d _ hS.R (by omega))
  have HNm := Lib.hid hn.names
  obtain ⟨r0, r1, r2, r3, r4, rf0, rf1, rf2, rf3, rf4⟩ := (hS).mm.b0.fiveC
  obtain ⟨b0, b1, b2, b3, b4, bf0, bf1, bf2, bf3, bf4⟩ := (hS).mm.b1.fiveC
  have HS := Lib.hid hS
  clear h hT hS hn
  cases hd : d.down with
  | true =>
    have hrn : rNames d = ([], 14) := by unfold rNames; rw [if_pos hd]
    have HX := Lib.hid (show sOpen ([] : Bs) d = (d, 14) from by unfold sOpen; rw [if_pos hd])
    rw [hrn] at HK
    dsimp only at HK
    clear hrn hd
    go_enter Tryz.func36, Tryz.ntmps36
    go_wp2_with fail
    refine HK.out.mono ?_
    rintro e w1 ⟨A1, c1, m1, rfl, hm1, ho1, hb1⟩
    have hS1 := HS.out.call hb1
    clear r0 r1 r2 r3 r4 rf0 rf1 rf2 rf3 rf4 b0 b1 b2 b3 b4 bf0 bf1 bf2 bf3 bf4
    clear HK HS hm1 ho1 hb1
    obtain ⟨r0, r1, r2, r3, r4, rf0, rf1, rf2, rf3, rf4⟩ := (hS1).mm.b0.fiveC
    obtain ⟨b0, b1, b2, b3, b4, bf0, bf1, bf2, bf3, bf4⟩ := (hS1).mm.b1.fiveC
    have HS1 := Lib.hid hS1
    clear hS1
    have HO := Lib.hid (HS1.out).out
    have HB := Lib.hid (HS1.out).mm.b0
    go_wp2_with fail
    exact bodyPost_ret (res_k2 rfl rfl (g := w.heap.size + 1) (HB.out.st5 _ _ _ _ _)) rfl (by rw [HX.out]; exact ⟨_, _, _, _, rfl, HO.out.1, HO.out.2⟩)
  | false =>
    have hrn : rNames d = (names d.shown, 0) := by unfold rNames; rw [if_neg (by simp [hd])]
    have HX0 := Lib.hid (show sOpen ([] : Bs) d = if (sSweep ([] : Bs) (names d.shown) d false).2.1 ≠ 0 then ((sSweep ([] : Bs) (names d.shown) d false).1, (sSweep ([] : Bs) (names d.shown) d false).2.1) else if (sSweep ([] : Bs) (names d.shown) d false).2.2 = true then dSync (sSweep ([] : Bs) (names d.shown) d false).1 else ((sSweep ([] : Bs) (names d.shown) d false).1, 0) from by unfold sOpen; rw [if_neg (by simp [hd])])
    rw [hrn] at HK
    dsimp only at HK
    clear hrn hd
    have HF := Lib.hid hf
    have HL := Lib.hid hl
    clear hf hl
    go_enter Tryz.func36, Tryz.ntmps36
    go_wp2_with fail
    refine HK.out.mono ?_
    rintro e w1 ⟨A1, c1, m1, rfl, hm1, ho1, hb1⟩
    have hS1 := HS.out.call hb1
    have hml : m1.length ≤ 400 := by rw [hm1.out]; unfold names; rw [List.length_map]; exact hsh
    have HN1 := Lib.hid (show ∀ x ∈ m1, named x = true from by rw [hm1.out]; exact HNm.out)
    rw [← hm1.out] at HX0
    have hTx : TxK w w1 A1 c1 m1 := ⟨Own.sl ho1, fun j hj => by have := Own.lt ho1 j hj; have h2 := HS.out.mm.b0.lt; omega⟩
    clear r0 r1 r2 r3 r4 rf0 rf1 rf2 rf3 rf4 b0 b1 b2 b3 b4 bf0 bf1 bf2 bf3 bf4
    clear HK HS hm1 ho1 hb1 hsh HNm
    have HS1 := Lib.hid hS1
    have HTx := Lib.hid hTx
    clear hS1 hTx
    go_wp2_with fail
    go_loopw [7, 6, 5] (fun x y z wr => ∃ (i : Nat) (d1 : Dk Bs) (sw : Bool) (A B : Option Addr) (c k n : Nat), i ≤ m1.length ∧ x = .int .i64 i ∧ y = .int .i64 n ∧ z = .int .i64 0 ∧ n ≤ i ∧ (sw = false ↔ n = 0) ∧ Hid (KSt T w wr d1 A c B k) ∧ Hid (TxK w wr A1 c1 m1) ∧ d1.fuse ≤ 9223372036854775807 ∧ d1.sure.length + d1.pend.length ≤ 400 + i ∧ Hid (sSweep ([] : Bs) m1 d false = sSweep ([] : Bs) (m1.drop i) d1 sw)) (fun x _ _ w => m1.length - (intOf x).toNat)
    case atStart => exact ⟨0, d, false, A, B, c, k, 0, Nat.zero_le _, rfl, rfl, rfl, Nat.le_refl _, by simp, HS1, HTx, HF.out, HL.out, Lib.hid rfl⟩
    case round =>
      clear HS1 HTx
      obtain ⟨i, d1, sw, A2, B2, c2, k2, n, hi, rfl, rfl, rfl, hni, hsn, hS, hT, hf1, hl1, hsw⟩ := hrel
      by_cases hlt : i < m1.length
      · have hI : (i : Int) < (m1.length : Int) := by omega
        obtain ⟨ad, b, o, hA, had, hc⟩ := SlT.at1 hT.out.1 hlt
        have hxn := HN1.out _ (List.getElem_mem hlt)
        have hdr : m1.drop i = m1[i] :: m1.drop (i + 1) := List.drop_eq_getElem_cons hlt
        have HSw := Lib.hid (hsw.out.trans (by rw [hdr]; rfl : sSweep ([] : Bs) (m1.drop i) d1 sw = if isBegun m1[i] = true then (if (dRemove ([] : Bs) d1 m1[i]).2 ≠ 0 then ((dRemove ([] : Bs) d1 m1[i]).1, (dRemove ([] : Bs) d1 m1[i]).2, sw) else sSweep ([] : Bs) (m1.drop (i + 1)) (dRemove ([] : Bs) d1 m1[i]).1 true) else sSweep ([] : Bs) (m1.drop (i + 1)) d1 sw))
        clear hsw hdr
        generalize m1[i] = x at *
        obtain ⟨hd0, hbg, hix⟩ := head_ix hxn
        have hxl : x.length ≤ 24 := by
          unfold named at hxn
          simp only [Bool.and_eq_true, decide_eq_true_eq] at hxn
          exact hxn.1.2
        subst hA
        cases hb : isBegun x with
        | false =>
          rw [hb, if_neg (by simp)] at HSw
          have hne : ¬ (hd0.toNat : Int) = 126 := fun e => by
            rw [hbg] at hb
            have : hd0 = 126 := UInt8.toNat_inj.1 (by show hd0.toNat = 126; omega)
            rw [this] at hb
            simp at hb
          have hz : ((hd0.toNat : Int) != 126) = true := by simpa using hne
          generalize (hd0.toNat : Int) = y at *
          clear hbg hb hne
          go_wp2_with fail
          go_roundw
          case rel => exact ⟨i + 1, d1, sw, A2, B2, c2, k2, n, hlt, by go_num, rfl, rfl, by omega, hsn, hS, hT, hf1, by omega, HSw⟩
          case measure => simp [intOf]; omega
        | true =>
          rw [hb, if_pos rfl] at HSw
          have he : hd0 = 126 := by
            rw [hbg] at hb
            have h9 : (126 : UInt8) = hd0 := by simpa using hb
            exact h9.symm
          subst he
          rw [show ((126 : UInt8).toNat : Int) = 126 from rfl] at hix
          clear hbg hb
          have HR := Lib.hid (fun W (hW : KSt T w W d1 A2 c2 B2 k2) => KRemove_any (T := T2 T w.heap.size) d1 x W hW.up2 hW.R (by omega) hf1 (by omega))
          have hop := Opd.remove ([] : Bs) d1 x
          generalize dRemove ([] : Bs) d1 x = r at *
          obtain ⟨d2, n2⟩ := r
          have hf2 := opd_fu hop hf1
          have hl2 := opd_len hop hl1
          dsimp only at hf2 hl2 HSw
          clear hop
          go_upto_region 9 with (fail)
          have hS0 := hS.out.call (Below.drew (Below.refl _ _))
          have hst : (World.drew wr).cell? ⟨b, o, none⟩ = some (.string ⟨x.toArray⟩) ∧ TxK w wr.drew (some ad) c1 m1 := ⟨hc, hT.out.call (Below.drew (Below.refl _ _))⟩
          clear hS hT hc
          have hbo : w.heap.size + 2 ≤ b := by
            have := hst.2.2 ad.block rfl
            have h2 := addr_add_block ad i
            rw [had] at h2
            dsimp only at h2
            omega
          go_cut [5] from 17 to 43 (fun z wz => ∃ (A3 B3 : Option Addr) (c3 k3 : Nat), z = .int .i64 n2 ∧ Hid (KSt T w wz d2 A3 c3 B3 k3) ∧ Hid (TxK w wz (some ad) c1 m1))
          case first =>
            refine wp_region_held_drew (S := (fun W => W.cell? ⟨b, o, none⟩ = some (.string ⟨x.toArray⟩) ∧ TxK w W (some ad) c1 m1)) (by kernel_rfl) ?_ (fun hHeld => ?_)
            · exact hst
            refine gen0 (T := fun W => ((fun W => W.cell? ⟨b, o, none⟩ = some (.string ⟨x.toArray⟩) ∧ TxK w W (some ad) c1 m1)) W ∧ KSt T w W d1 A2 c2 B2 k2 ∧ True) ?_ (fun wq1 hT => ?_)
            · exact ⟨by (first | with_reducible exact hst | with_reducible exact hHeld | exact ⟨(hb7.cell (World.block_lt_of_cell? _ _ hHeld.1)).trans hHeld.1, hHeld.2.call hb7⟩ | exact ⟨cell_st5 (by omega) hHeld.1 _ _ _ _ _, hHeld.2.st5 _ _ _ _ _⟩), by (first | with_reducible assumption | with_reducible exact hS0 | exact f0.call hb7 | exact hR7 | exact f0.next f1 (Below.refl _ _)), trivial⟩
            (try clear f0 f1 f2 f3 f4 f5 f6 f7 f8 f9 f10 f11)
            obtain ⟨hHeld, f0, -⟩ := hT
            refine wpAnyH_take (i := 1) (oi := ⟨some 31, _, _, _, _, _⟩) (v := ?_) rfl (by kernel_rfl) (by kernel_rfl) (by kernel_rfl) (fun _ _ _ h => h) (Or.inl ⟨by kernel_rfl, ?_⟩) (by assumption) ?_
            rotate_left
            · (intro wS hSw; (try dsimp only at hSw); have hc := hSw.1; clear hSw; go_simp; (try with_reducible rfl))
            (try simp only [Act.put, List.setIfInBounds_toArray, List.set_cons_zero, List.set_cons_succ])
            refine wpAnyH_take (i := 2) (oi := ⟨some 32, _, _, _, _, _⟩) (v := ?_) rfl (by kernel_rfl) (by kernel_rfl) (by kernel_rfl) (fun _ _ _ h => h) (Or.inl ⟨by kernel_rfl, ?_⟩) (by assumption) ?_
            rotate_left
            · (intro wS hSw; (try dsimp only at hSw); have hc := hSw.1; clear hSw; go_simp; (try with_reducible rfl))
            (try simp only [Act.put, List.setIfInBounds_toArray, List.set_cons_zero, List.set_cons_succ])
            refine wpAnyH_take (i := 3) (oi := ⟨some 33, _, _, _, _, _⟩) (v := ?_) rfl (by kernel_rfl) (by kernel_rfl) (by kernel_rfl) (fun _ _ _ h => h) (Or.inl ⟨by kernel_rfl, ?_⟩) (by assumption) ?_
            rotate_left
            · (intro wS hSw; (try dsimp only at hSw); have hc := hSw.1; clear hSw; go_simp; (try with_reducible rfl))
            (try simp only [Act.put, List.setIfInBounds_toArray, List.set_cons_zero, List.set_cons_succ])
            refine wpAnyH_take (i := 4) (oi := ⟨some 34, _, _, _, _, _⟩) (v := ?_) rfl (by kernel_rfl) (by kernel_rfl) (by kernel_rfl) (fun _ _ _ h => h) (Or.inl ⟨by kernel_rfl, ?_⟩) (by assumption) ?_
            rotate_left
            · (intro wS hSw; (try dsimp only at hSw); have hc := hSw.1; clear hSw; go_simp; (try with_reducible rfl))
            (try simp only [Act.put, List.setIfInBounds_toArray, List.set_cons_zero, List.set_cons_succ])
            refine wpAnyH_ready (rs := [0]) (by kernel_rfl) (by simp) ?_
            refine AllReadyH.cons (o := ⟨some 30, _, _, _, _, _⟩) rfl (fun K hK => ?_) AllReadyH.nil
            (first | (obtain ⟨r0, r1, r2, r3, r4, rf0, rf1, rf2, rf3, rf4⟩ := f0.mm.b1.fiveC) | skip); go_simp
            refine hK.out _ _ ?_ (fun _ => ?_)
            · ((try dsimp only); (first | with_reducible exact hst | with_reducible exact hHeld | exact ⟨(hb7.cell (World.block_lt_of_cell? _ _ hHeld.1)).trans hHeld.1, hHeld.2.call hb7⟩ | exact ⟨cell_st5 (by omega) hHeld.1 _ _ _ _ _, hHeld.2.st5 _ _ _ _ _⟩))
            clear hK K
            (try simp only [Act.put, List.setIfInBounds_toArray, List.set_cons_zero, List.set_cons_succ])
            refine gen0 (T := fun W => ((fun W => W.cell? ⟨b, o, none⟩ = some (.string ⟨x.toArray⟩) ∧ TxK w W (some ad) c1 m1)) W ∧ KSt T w W d1 A2 c2 B2 k2 ∧ True) ?_ (fun wq2 hT => ?_)
            · exact ⟨by (first | with_reducible exact hst | with_reducible exact hHeld | exact ⟨(hb7.cell (World.block_lt_of_cell? _ _ hHeld.1)).trans hHeld.1, hHeld.2.call hb7⟩ | exact ⟨cell_st5 (by omega) hHeld.1 _ _ _ _ _, hHeld.2.st5 _ _ _ _ _⟩), by (first | with_reducible assumption | with_reducible exact hS0 | exact f0.call hb7 | exact hR7 | exact f0.next f1 (Below.refl _ _)), trivial⟩
            (try clear f0 f1 f2 f3 f4 f5 f6 f7 f8 f9 f10 f11)
            obtain ⟨hHeld, f0, -⟩ := hT
            refine wpAnyH_ready (rs := [5]) (by kernel_rfl) (by simp) ?_
            refine AllReadyH.cons (o := ⟨some 35, _, _, _, _, _⟩) rfl (fun K hK => ?_) AllReadyH.nil
            go_simp
            (refine (HR.out _ f0).mono ?_; rintro e w7 ⟨A3, c3, B3, k3, rfl, hR7, hb7⟩; unfold rda)
            go_wp2_with fail
            refine hK.out _ _ ?_ (fun _ => ?_)
            · ((try dsimp only); (first | with_reducible exact hst | with_reducible exact hHeld | exact ⟨(hb7.cell (World.block_lt_of_cell? _ _ hHeld.1)).trans hHeld.1, hHeld.2.call hb7⟩ | exact ⟨cell_st5 (by omega) hHeld.1 _ _ _ _ _, hHeld.2.st5 _ _ _ _ _⟩))
            clear hK K
            (try simp only [Act.put, List.setIfInBounds_toArray, List.set_cons_zero, List.set_cons_succ])
            refine gen0 (T := fun W => ((fun W => W.cell? ⟨b, o, none⟩ = some (.string ⟨x.toArray⟩) ∧ TxK w W (some ad) c1 m1)) W ∧ KSt T w W d1 A2 c2 B2 k2 ∧ Rdk (T2 T w.heap.size) W d2 A3 c3 B3 k3 ∧ True) ?_ (fun wq3 hT => ?_)
            · exact ⟨by (first | with_reducible exact hst | with_reducible exact hHeld | exact ⟨(hb7.cell (World.block_lt_of_cell? _ _ hHeld.1)).trans hHeld.1, hHeld.2.call hb7⟩ | exact ⟨cell_st5 (by omega) hHeld.1 _ _ _ _ _, hHeld.2.st5 _ _ _ _ _⟩), by (first | with_reducible assumption | with_reducible exact hS0 | exact f0.call hb7 | exact hR7 | exact f0.next f1 (Below.refl _ _)), by (first | with_reducible assumption | with_reducible exact hS0 | exact f0.call hb7 | exact hR7 | exact f0.next f1 (Below.refl _ _)), trivial⟩
            (try clear f0 f1 f2 f3 f4 f5 f6 f7 f8 f9 f10 f11)
            obtain ⟨hHeld, f0, f1, -⟩ := hT
            refine wpAnyH_take (i := 6) (oi := ⟨some 29, _, _, _, _, _⟩) (v := ?_) rfl (by kernel_rfl) (by kernel_rfl) (by kernel_rfl) (fun _ _ _ h => h) (Or.inl ⟨by kernel_rfl, ?_⟩) (by assumption) ?_
            rotate_left
            · (intro wS hSw; (try dsimp only at hSw); have hc := hSw.1; clear hSw; go_simp; (try with_reducible rfl))
            (try simp only [Act.put, List.setIfInBounds_toArray, List.set_cons_zero, List.set_cons_succ])
            refine wpAnyH_take (i := 7) (oi := ⟨some 36, _, _, _, _, _⟩) (v := ?_) rfl (by kernel_rfl) (by kernel_rfl) (by kernel_rfl) (fun _ _ _ h => h) (Or.inl ⟨by kernel_rfl, ?_⟩) (by assumption) ?_
            rotate_left
            · (intro wS hSw; (try dsimp only at hSw); have hc := hSw.1; clear hSw; go_simp; (try with_reducible rfl))
            (try simp only [Act.put, List.setIfInBounds_toArray, List.set_cons_zero, List.set_cons_succ])
            refine wpAnyH_take (i := 8) (oi := ⟨some 37, _, _, _, _, _⟩) (v := ?_) rfl (by kernel_rfl) (by kernel_rfl) (by kernel_rfl) (fun _ _ _ h => h) (Or.inl ⟨by kernel_rfl, ?_⟩) (by assumption) ?_
            rotate_left
            · (intro wS hSw; (try dsimp only at hSw); have hc := hSw.1; clear hSw; go_simp; (try with_reducible rfl))
            (try simp only [Act.put, List.setIfInBounds_toArray, List.set_cons_zero, List.set_cons_succ])
            refine wpAnyH_ready (rs := [9]) (by kernel_rfl) (by simp) ?_
            refine AllReadyH.cons (o := ⟨none, _, _, _, _, _⟩) rfl (fun K hK => ?_) AllReadyH.nil
            obtain ⟨r0, r1, r2, r3, r4, rf0, rf1, rf2, rf3, rf4⟩ := f0.mm.b1.fiveC
            (first | (obtain ⟨r0, r1, r2, r3, r4, rf0, rf1, rf2, rf3, rf4⟩ := f0.mm.b1.fiveC) | skip); go_simp
            refine hK.out _ _ ?_ (fun _ => ?_)
            · ((try dsimp only); (first | with_reducible exact hst | with_reducible exact hHeld | exact ⟨(hb7.cell (World.block_lt_of_cell? _ _ hHeld.1)).trans hHeld.1, hHeld.2.call hb7⟩ | exact ⟨cell_st5 (by omega) hHeld.1 _ _ _ _ _, hHeld.2.st5 _ _ _ _ _⟩))
            clear hK K
            (try simp only [Act.put, List.setIfInBounds_toArray, List.set_cons_zero, List.set_cons_succ])
            refine gen0 (T := fun W => ((fun W => W.cell? ⟨b, o, none⟩ = some (.string ⟨x.toArray⟩) ∧ TxK w W (some ad) c1 m1)) W ∧ KSt T w W d2 A3 c3 B3 k3 ∧ True) ?_ (fun wq4 hT => ?_)
            · exact ⟨by (first | with_reducible exact hst | with_reducible exact hHeld | exact ⟨(hb7.cell (World.block_lt_of_cell? _ _ hHeld.1)).trans hHeld.1, hHeld.2.call hb7⟩ | exact ⟨cell_st5 (by omega) hHeld.1 _ _ _ _ _, hHeld.2.st5 _ _ _ _ _⟩), by (first | with_reducible assumption | with_reducible exact hS0 | exact f0.call hb7 | exact hR7 | exact f0.next f1 (Below.refl _ _)), trivial⟩
            (try clear f0 f1 f2 f3 f4 f5 f6 f7 f8 f9 f10 f11)
            obtain ⟨hHeld, f0, -⟩ := hT
            refine wpAnyH_take (i := 10) (oi := ⟨some 5, _, _, _, _, _⟩) (v := ?_) rfl (by kernel_rfl) (by kernel_rfl) (by kernel_rfl) (fun _ _ _ h => h) (Or.inl ⟨by kernel_rfl, ?_⟩) (by assumption) ?_
            rotate_left
            · (intro wS hSw; (try dsimp only at hSw); have hc := hSw.1; clear hSw; go_simp; (try with_reducible rfl))
            (try simp only [Act.put, List.setIfInBounds_toArray, List.set_cons_zero, List.set_cons_succ])
            refine wpAnyH_done (by kernel_rfl) ?_ _
            have HS3 := Lib.hid f0
            have HT3 := Lib.hid hHeld.2
            clear f0 hHeld hst hS0 HR
            go_wp2_with fail
            go_meet
            exact ⟨A3, B3, c3, k3, rfl, HS3, HT3⟩
          obtain ⟨A3, B3, c3, k3, rfl, HS3, HT3⟩ := hcut
          clear hst hS0 HR
          have hS3 := HS3.out
          obtain ⟨r0, r1, r2, r3, r4, rf0, rf1, rf2, rf3, rf4⟩ := (hS3).mm.b0.fiveC
          obtain ⟨b0, b1, b2, b3, b4, bf0, bf1, bf2, bf3, bf4⟩ := (hS3).mm.b1.fiveC
          clear hS3
          rcases Decidable.em (n2 = 0) with h0 | h0
          · subst h0
            rw [if_neg (by simp)] at HSw
            have e1 := Nat.succ_le_succ hni
            have e3 := Lib.hid (show (true = false ↔ n + 1 = 0) from by simp)
            have e4 : d2.sure.length + d2.pend.length ≤ 400 + (i + 1) := hl2
            clear r0 r1 r2 r3 r4 rf0 rf1 rf2 rf3 rf4 b0 b1 b2 b3 b4 bf0 bf1 bf2 bf3 bf4
            go_wp2_with fail
            go_roundw
            case rel => exact ⟨i + 1, d2, true, A3, B3, c3, k3, n + 1, hlt, rfl, rfl, rfl, e1, e3.out, HS3, HT3, hf2, e4, HSw⟩
            case measure => simp [intOf]; omega
          · have h1 : ¬ (n2 : Int) = 0 := by omega
            have hz : ((n2 : Int) != 0) = true := by simpa using h1
            rw [if_pos h0] at HSw
            have HX := Lib.hid (show sOpen ([] : Bs) d = (d2, n2) from by rw [HX0.out, HSw.out]; dsimp only; rw [if_pos h0])
            clear h1 HSw HX0 h0
            have HO := Lib.hid (HS3.out).out
            have HB := Lib.hid (HS3.out).mm.b0
            go_wp2_with fail
            exact bodyPost_ret (res_k2 rfl rfl (g := w.heap.size + 1) (HB.out.st5 _ _ _ _ _)) rfl (by rw [HX.out]; exact ⟨_, _, _, _, rfl, HO.out.1, HO.out.2⟩)
      · have hI : (m1.length : Int) ≤ (i : Int) := by omega
        have hdr : m1.drop i = [] := List.drop_of_length_le (by omega)
        have HSw := Lib.hid (show sSweep ([] : Bs) m1 d false = (d1, 0, sw) from by rw [hsw.out, hdr]; rfl)
        clear hsw hdr
        have hS1 := hS.out
        obtain ⟨r0, r1, r2, r3, r4, rf0, rf1, rf2, rf3, rf4⟩ := (hS1).mm.b0.fiveC
        obtain ⟨b0, b1, b2, b3, b4, bf0, bf1, bf2, bf3, bf4⟩ := (hS1).mm.b1.fiveC
        unfold rda
        cases sw with
        | false =>
          obtain rfl := hsn.1 rfl
          have HX := Lib.hid (show sOpen ([] : Bs) d = (d1, 0) from by rw [HX0.out, HSw.out]; rfl)
          have HS1 := hS
          clear hS1 hT hS
          have HO := Lib.hid (HS1.out).out
          have HB := Lib.hid (HS1.out).mm.b0
          go_wp2_with fail
          exact bodyPost_ret (res_k2 rfl rfl (g := w.heap.size + 1) (HB.out.st5 _ _ _ _ _)) rfl (by rw [HX.out]; exact ⟨_, _, _, _, rfl, HO.out.1, HO.out.2⟩)
        | true =>
          have hn0 : ¬ (n : Int) = 0 := fun e => by
            have := hsn.2 (by omega)
            cases this
          have hz : ((n : Int) == 0) = false := by simpa using hn0
          have HXX := Lib.hid (show sOpen ([] : Bs) d = dSync d1 from by rw [HX0.out, HSw.out]; rfl)
          have HR := Lib.hid (KSync_any (T := T2 T w.heap.size) d1 wr hS1.up2 hS1.R (by omega) hf1)
          generalize dSync d1 = r at *
          obtain ⟨d2, n2⟩ := r
          have HS1 := hS
          clear hS1 hT hS hn0 hsn HSw HX0
          go_wp2_with fail
          refine HR.out.mono ?_
          clear HR
          rintro e w2 ⟨A2, c2, B2, k2, rfl, hR2, hb2⟩
          dsimp only at hR2 ⊢
          have hS2 := HS1.out.call hb2
          clear r0 r1 r2 r3 r4 rf0 rf1 rf2 rf3 rf4 b0 b1 b2 b3 b4 bf0 bf1 bf2 bf3 bf4
          obtain ⟨r0, r1, r2, r3, r4, rf0, rf1, rf2, rf3, rf4⟩ := (hS2).mm.b0.fiveC
          obtain ⟨b0, b1, b2, b3, b4, bf0, bf1, bf2, bf3, bf4⟩ := (hS2).mm.b1.fiveC
          have HR2 := Lib.hid (hR2.sam ((Sam.refl w.heap.size w2).st5 (.inr rfl) (.int .i64 d2.room) (.slice A2 d2.sure.length c2) (.slice B2 d2.pend.length k2) (.int .i64 d2.fuse) (.bool d2.down)))
          have HB2 := Lib.hid (bel_st5 hS2.mm.bel (g := w.heap.size + 1) (by omega) (.int .i64 d2.room) (.slice A2 d2.sure.length c2) (.slice B2 d2.pend.length k2) (.int .i64 d2.fuse) (.bool d2.down))
          have HBk := Lib.hid hS2.mm.b0
          clear hR2 hb2 hS2 HS1
          unfold rda
          go_wp2_with fail
          exact bodyPost_ret (res_k2 rfl rfl (g := w.heap.size + 1) (HBk.out.st5 _ _ _ _ _)) rfl (by rw [HXX.out]; exact ⟨A2, c2, B2, k2, rfl, HR2.out, HB2.out⟩)
end Go.Proofs.YtabnndjdkjkciaaGreatDoor
