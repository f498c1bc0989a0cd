/- WHAT IT HOLDS: the document's Take of manifests, walked. | WHAT IT HOLDS: Same of manifests, the program's and the document's, walked. | WHAT IT HOLDS: the document's Same of manifests, walked. -/
import Derived.Test.YtgfigkenpmmdeaaManifestTakesG17
import Derived.Test.YtgfigkenpmmdeaaManifestTakesG18
namespace Go.Proofs.Ytgfigkenpmmdeaa
open Go.RowKit
attribute [local go_sem ↓] Go.wp_at_zero Go.wp_at_succ

/-- a manifest, and an error's number, as the document's -/
def GivesMd2 (w0 : World) (r : Mf × Nat) (e : Ending) (w' : World) : Prop :=
  ∃ A c m, e = .returned (.tuple #[.agg (mfa r.1.1 r.1.2.1 r.1.2.2.1 r.1.2.2.2.1 r.1.2.2.2.2.1 A (List.length m) c), .int .i64 (r.2 : Nat)]) ∧ Hid (m = r.1.2.2.2.2.2) ∧ OwnR w' w0.heap.size A c m ∧ Below w0.heap.size w0 w'
theorem res_mR2 {fn : Func} {a b : Nat} {tmps : Array Value} {w : World} {g : Nat} {n f t r : Int} {d : Dg} {A : Option Addr} {k c : Nat} (hres : fn.results = #[.cell a 36, .tmp b]) (ha : tmps.getD a undef = .pointer (some ⟨g, 0, none⟩)) (hB : Blk w g 36 (mfa n f t r d A k c)) : (results fn tmps).run Try.prog w = .ok (.tuple #[.agg (mfa n f t r d A k c), tmps.getD b undef]) w := by
  have h := run_loadVar_at (P := Try.prog) w ⟨g, 0, none⟩ 36 (mfa n f t r d A k c) hB.cells _ Try.underlying36 rfl (by rw [mfa_size]; kernel_rfl)
  have ha' : tmps[a]?.getD undef = .pointer (some ⟨g, 0, none⟩) := by simpa using ha
  simp [results, hres, asAddr, h, ha']
theorem built_mzR : Try.prog.built 36 [] = some mza := by kernel_rfl
theorem wpl_buildMzR {ops : Array Oper} {rest : List Oper} {o : Oper} {a : Act} {w : World} {Q : Exit → Act → World → Prop} (hgd : o.guard = none) (ho : o.op = .build 36 #[])
    (h : wpList Try.prog ops Q rest (a.put o.dst (.agg mza)) w) : wpList Try.prog ops Q (o :: rest) a w := by
  have hl : ((#[] : Array (Nat × Operand)).map fun (i, x) => (i, a.eval x)).toList = [] := by simp
  refine wpList_build hgd 36 _ ho ?_ ?_
  · rw [hl, built_mzR]; rfl
  · rw [hl, built_mzR]; exact h
theorem mfa_splice (n f t r : Int) : ∀ d : Dg, (splice (mfa n f t r dg0 none 0 0).toList 4 (dga d).toList).toArray = mfa n f t r d none 0 0 := by
  refine dg_cases ?_
  intros
  rfl
theorem pta_splice (a x y : Int) : ∀ d : Dg, (splice (pta (a, x, y, dg0)).toList 3 (dga d).toList).toArray = pta (a, x, y, d) := by
  refine dg_cases ?_
  intros
  rfl
theorem mfTake_long {b m1 : List UInt8} {s0 s1 s2 s3 s4 s5 : List UInt8 × Nat} {nu f tt q n : Nat} {d : Dg} (h : mfTake b = mfEnd (mfRead (m1, 0))) (h0 : rWithin 999999 (m1, 0) = (nu, s0)) (h1 : rWithin 1048576 s0 = (f, s1)) (h2 : rWithin 1048576 s1 = (tt, s2)) (h3 : rWithin 1048576 s2 = (q, s3)) (h4 : rDg s3 = (d, s4)) (h5 : rNum s4 = (n, s5)) (h6 : s5.2 = 0) (h7 : 1024 < n) :
    mfTake b = (mfz, 3) := by
  have hf : (if 1024 < n then rFail 3 s5 else s5) = (s5.1, 3) := by rw [if_pos h7]; unfold rFail; rw [if_pos h6]
  have hr := mfRead_eq h0 h1 h2 h3 h4 h5 hf
  have hb := crLoop_bad (min n 1024) (f : Int) (s5.1, 3) (by simp)
  rw [h, hr]
  rw [hb]
  have he : rEnd (s5.1, 3) = 3 := by unfold rEnd; rw [if_neg (by simp)]
  rw [mfEnd_1 (by dsimp only; rw [he]; decide)]
  dsimp only
  rw [he]
set_option maxRecDepth 100000 in
set_option maxHeartbeats 2000000 in
theorem rMTake_any (A : Option Addr) (c : Nat) (b : List UInt8) (w : World) (hs : SlB w A c b) (hl : b.length ≤ 1000000) :
    Calls Try.prog 7 #[.slice A b.length c] w (GivesMd2 w (mfTake b)) := by
  have hM := (Mm.start w).alloc mza 36
  have hfl := foneLen b
  go_enter Try.func7, Try.ntmps7
  go_upto_region 1 with (fail)
  refine gen1 (T := fun W => Mm w W [(w.heap.size, 36, mza)] []) hM (fun w0 hM => ?_)
  go_wp2_with fail
  refine (rFTake_any A c b _ (hs.below hM.bel) (by omega)).mono ?_
  rintro e w1 ⟨A1, c1, m1, rfl, hm1, hs1, hb1, -⟩
  replace hM := hM.call hb1
  clear hb1
  have hfo : fone b = if (ftake b).2.2 ≠ 0 then ([], (ftake b).2.2) else if (ftake b).2.1 < b.length then ([], 2) else ((ftake b).1, 0) := rfl
  generalize ftake b = fb at *
  obtain ⟨ft, fn, fbad⟩ := fb
  dsimp only at *
  have hA : fbad ≠ 0 → fone b = ([], fbad) := fun h => by rw [hfo, if_pos h]
  have hB : fbad = 0 → fn < b.length → fone b = ([], 2) := fun h h2 => by rw [hfo, if_neg (by omega), if_pos h2]
  have hC : fbad = 0 → ¬ fn < b.length → fone b = (ft, 0) := fun h h2 => by rw [hfo, if_neg (by omega), if_neg h2]
  clear hfo
  rcases Decidable.em (fbad = 0) with h0 | h0
  · have hb1 : ((fbad : Int) == 0) = true := by rw [h0]; rfl
    have hb2 : ((fbad : Int) != 0) = false := by rw [h0]; rfl
    rcases Nat.lt_or_ge fn b.length with hn | hn
    · have HT := Lib.hid (show mfTake b = (mfz, 2) from by unfold mfTake; rw [hB h0 hn]; rfl)
      have hnI : (fn : Int) < (b.length : Int) := by omega
      clear hA hB hC hfl h0
      go_wp2_with (first | (refine wpl_buildMzR rfl rfl ?_) | (refine wpList_store_row rfl 36 _ _ rfl w.heap.size mza rfl rfl 36 mza (hM.b0) (by rw [mfa_size]; kernel_rfl) rfl (mfa_all _ _ _ _ _ _ _ _) ?_))
      exact bodyPost_ret (res_mR2 rfl rfl (g := w.heap.size) (Blk.row (hM.b0))) rfl ⟨none, 0, [], by rw [HT.out]; rfl, (show _ = _ from by rw [HT.out]; rfl), Own.none_ _ _ _ _, below_setRow hM.bel (Nat.le_refl _) _⟩
    · have HT0 : Hid (mfTake b = mfEnd (mfRead (m1, 0))) := (show _ = _ from by unfold mfTake; rw [hC h0 (by omega), if_neg (by simp), hm1.out])
      have hnI : (b.length : Int) ≤ (fn : Int) := by omega
      have hm1l : m1.length ≤ 1000000 := by
        rw [hC h0 (by omega)] at hfl
        rw [hm1.out]
        dsimp only at hfl
        omega
      have hBd : m1 ≠ [] → ∀ ad, A1 = some ad → ad.block < w1.heap.size := fun hne ad hA => Sl.lt0 hs1 (by cases m1 with | nil => exact absurd rfl hne | cons x r => exact List.cons_ne_nil _ _) ad.block (by rw [hA]; rfl)
      obtain ⟨nu, s0, h0'⟩ : ∃ n s, rWithin 999999 (m1, 0) = (n, s) := ⟨_, _, rfl⟩
      obtain ⟨f, s1, h1⟩ : ∃ n s, rWithin 1048576 s0 = (n, s) := ⟨_, _, rfl⟩
      obtain ⟨tt, s2, h2⟩ : ∃ n s, rWithin 1048576 s1 = (n, s) := ⟨_, _, rfl⟩
      obtain ⟨q, s3, h3⟩ : ∃ n s, rWithin 1048576 s2 = (n, s) := ⟨_, _, rfl⟩
      obtain ⟨d, s4, h4⟩ : ∃ n s, rDg s3 = (n, s) := ⟨_, _, rfl⟩
      obtain ⟨n, s5, h5⟩ : ∃ n s, rNum s4 = (n, s) := ⟨_, _, rfl⟩
      have hfb : f ≤ 1048576 := by have := rWithin_le 1048576 s0; rw [h1] at this; exact this
      have hl3 : s3.1.length ≤ 1000000 := by
        have l0 := rWithin_len 999999 (m1, 0)
        have l1 := rWithin_len 1048576 s0
        have l2 := rWithin_len 1048576 s1
        have l3 := rWithin_len 1048576 s2
        rw [h0'] at l0
        rw [h1] at l1
        rw [h2] at l2
        rw [h3] at l3
        dsimp only at l0 l1 l2 l3
        omega
      have hs5l : s5.1.length ≤ 1000000 := by
        have l4 := rDg_len s3
        have l5 := rNum_len s4
        rw [h4] at l4
        rw [h5] at l5
        dsimp only at l4 l5
        omega
      have H0 := Lib.hid h0'
      have H1 := Lib.hid h1
      have H2 := Lib.hid h2
      have H3 := Lib.hid h3
      have H4 := Lib.hid h4
      have H5 := Lib.hid h5
      have hB0 : w.heap.size < w1.heap.size := hM.b0.lt
      clear hA hB hC hfl h0 hm1 h0' h1 h2 h3 h4 h5
      go_upto_region 7 with (first | (refine wpl_buildMzR rfl rfl ?_) | (refine wpl_storeN rfl 36 _ _ rfl _ mza 36 rfl rfl (by rw [mfa_size]; kernel_rfl) rfl (mfa_all _ _ _ _ _ _ _ _) ?_))
      have hMx := hM.alloc mza 36
      have hSx := hs1.below (below_new w1 (.cells mza 36))
      have hzx : w1.heap.size < (w1.alloc (.cells mza 36)).heap.size := by simp
      generalize w1.heap.size = gq at *
      refine gen1 (T := fun W => (Mm w W [(gq, 36, mza), (w.heap.size, 36, mza)] [] ∧ SlB W A1 c1 m1) ∧ gq < W.heap.size) ⟨⟨hMx, hSx⟩, hzx⟩ (fun w2 hT => ?_)
      clear hMx hSx hM hs1 hzx
      obtain ⟨⟨hM, hS⟩, hz⟩ := hT
      go_upto_region 8 with (fail)
      have hMx := hM.alloc #[.slice A1 m1.length c1, .int .i64 0] 75
      have hSx := hS.below (below_new w2 (.cells #[.slice A1 m1.length c1, .int .i64 0] 75))
      generalize w2.heap.size = gr at *
      refine gen1 (T := fun W => Mm w W [(gr, 75, #[.slice A1 m1.length c1, .int .i64 0]), (gq, 36, mza), (w.heap.size, 36, mza)] [] ∧ SlB W A1 c1 m1) ⟨hMx, hSx⟩ (fun w3 hT => ?_)
      clear hMx hSx hM hS
      obtain ⟨hM, hS⟩ := hT
      obtain ⟨x0, x1, xf0, xf1⟩ := Blk.two hM.b0
      go_wp2_with fail
      refine (rWithin_v18 (s := (m1, 0)) 999999 _ hS hBd).mono ?_
      rintro e wn ⟨v, rfl, ⟨An, cn, rfl, hSn, hBdn⟩, hbn⟩
      rw [H0.out] at hSn hBdn ⊢
      dsimp only at hSn hBdn ⊢
      replace hM := hM.call hbn
      clear hS hBd hbn x0 x1 xf0 xf1
      obtain ⟨x0, x1, xf0, xf1⟩ := Blk.two hM.b0
      obtain ⟨q0, q1, q2, q3, q4⟩ := Blm.five hM.b1
      have qf := hM.b1.frozen 0
      go_upto_region 9 with (fail)
      have hMx := ((hM.set 1 0 (.int .i64 (nu : Nat)) rfl).set 0 0 (.slice An s0.1.length cn) rfl).set 0 1 (.int .i64 (s0.2 : Nat)) rfl
      have hSx := SlB.setB (i := 1) (SlB.setB (i := 0) (SlB.setB (k := gq) (i := 0) hSn hBdn (by omega) (.int .i64 (nu : Nat))) (k := gr) hBdn (by omega) (.slice An s0.1.length cn)) (k := gr) hBdn (by omega) (.int .i64 (s0.2 : Nat))
      refine gen1 (T := fun W => Mm w W [(gr, 75, #[.slice An s0.1.length cn, .int .i64 (s0.2 : Nat)]), (gq, 36, mfa nu 0 0 0 dg0 none 0 0), (w.heap.size, 36, mza)] [] ∧ SlB W An cn s0.1) ⟨hMx, hSx⟩ (fun wm hT => ?_)
      clear hMx hSx hM hSn x0 x1 xf0 xf1 q0 q1 q2 q3 q4 qf
      obtain ⟨hM, hS⟩ := hT
      have hBd := hBdn
      clear hBdn
      obtain ⟨x0, x1, xf0, xf1⟩ := Blk.two hM.b0
      go_wp2_with fail
      refine (rWithin_v18 (s := s0) 1048576 _ hS hBd).mono ?_
      rintro e wn ⟨v, rfl, ⟨An, cn, rfl, hSn, hBdn⟩, hbn⟩
      rw [H1.out] at hSn hBdn ⊢
      dsimp only at hSn hBdn ⊢
      replace hM := hM.call hbn
      clear hS hBd hbn x0 x1 xf0 xf1
      obtain ⟨x0, x1, xf0, xf1⟩ := Blk.two hM.b0
      obtain ⟨q0, q1, q2, q3, q4⟩ := Blm.five hM.b1
      have qf := hM.b1.frozen 1
      go_upto_region 10 with (fail)
      have hMx := ((hM.set 1 1 (.int .i64 (f : Nat)) rfl).set 0 0 (.slice An s1.1.length cn) rfl).set 0 1 (.int .i64 (s1.2 : Nat)) rfl
      have hSx := SlB.setB (i := 1) (SlB.setB (i := 0) (SlB.setB (k := gq) (i := 1) hSn hBdn (by omega) (.int .i64 (f : Nat))) (k := gr) hBdn (by omega) (.slice An s1.1.length cn)) (k := gr) hBdn (by omega) (.int .i64 (s1.2 : Nat))
      refine gen1 (T := fun W => Mm w W [(gr, 75, #[.slice An s1.1.length cn, .int .i64 (s1.2 : Nat)]), (gq, 36, mfa nu f 0 0 dg0 none 0 0), (w.heap.size, 36, mza)] [] ∧ SlB W An cn s1.1) ⟨hMx, hSx⟩ (fun wm hT => ?_)
      clear hMx hSx hM hSn x0 x1 xf0 xf1 q0 q1 q2 q3 q4 qf
      obtain ⟨hM, hS⟩ := hT
      have hBd := hBdn
      clear hBdn
      obtain ⟨x0, x1, xf0, xf1⟩ := Blk.two hM.b0
      go_wp2_with fail
      refine (rWithin_v18 (s := s1) 1048576 _ hS hBd).mono ?_
      rintro e wn ⟨v, rfl, ⟨An, cn, rfl, hSn, hBdn⟩, hbn⟩
      rw [H2.out] at hSn hBdn ⊢
      dsimp only at hSn hBdn ⊢
      replace hM := hM.call hbn
      clear hS hBd hbn x0 x1 xf0 xf1
      obtain ⟨x0, x1, xf0, xf1⟩ := Blk.two hM.b0
      obtain ⟨q0, q1, q2, q3, q4⟩ := Blm.five hM.b1
      have qf := hM.b1.frozen 2
      go_upto_region 11 with (fail)
      have hMx := ((hM.set 1 2 (.int .i64 (tt : Nat)) rfl).set 0 0 (.slice An s2.1.length cn) rfl).set 0 1 (.int .i64 (s2.2 : Nat)) rfl
      have hSx := SlB.setB (i := 1) (SlB.setB (i := 0) (SlB.setB (k := gq) (i := 2) hSn hBdn (by omega) (.int .i64 (tt : Nat))) (k := gr) hBdn (by omega) (.slice An s2.1.length cn)) (k := gr) hBdn (by omega) (.int .i64 (s2.2 : Nat))
      refine gen1 (T := fun W => Mm w W [(gr, 75, #[.slice An s2.1.length cn, .int .i64 (s2.2 : Nat)]), (gq, 36, mfa nu f tt 0 dg0 none 0 0), (w.heap.size, 36, mza)] [] ∧ SlB W An cn s2.1) ⟨hMx, hSx⟩ (fun wm hT => ?_)
      clear hMx hSx hM hSn x0 x1 xf0 xf1 q0 q1 q2 q3 q4 qf
      obtain ⟨hM, hS⟩ := hT
      have hBd := hBdn
      clear hBdn
      obtain ⟨x0, x1, xf0, xf1⟩ := Blk.two hM.b0
      go_wp2_with fail
      refine (rWithin_v18 (s := s2) 1048576 _ hS hBd).mono ?_
      rintro e wn ⟨v, rfl, ⟨An, cn, rfl, hSn, hBdn⟩, hbn⟩
      rw [H3.out] at hSn hBdn ⊢
      dsimp only at hSn hBdn ⊢
      replace hM := hM.call hbn
      clear hS hBd hbn x0 x1 xf0 xf1
      obtain ⟨x0, x1, xf0, xf1⟩ := Blk.two hM.b0
      obtain ⟨q0, q1, q2, q3, q4⟩ := Blm.five hM.b1
      have qf := hM.b1.frozen 3
      go_upto_region 12 with (fail)
      have hMx := ((hM.set 1 3 (.int .i64 (q : Nat)) rfl).set 0 0 (.slice An s3.1.length cn) rfl).set 0 1 (.int .i64 (s3.2 : Nat)) rfl
      have hSx := SlB.setB (i := 1) (SlB.setB (i := 0) (SlB.setB (k := gq) (i := 3) hSn hBdn (by omega) (.int .i64 (q : Nat))) (k := gr) hBdn (by omega) (.slice An s3.1.length cn)) (k := gr) hBdn (by omega) (.int .i64 (s3.2 : Nat))
      refine gen1 (T := fun W => Mm w W [(gr, 75, #[.slice An s3.1.length cn, .int .i64 (s3.2 : Nat)]), (gq, 36, mfa nu f tt q dg0 none 0 0), (w.heap.size, 36, mza)] [] ∧ SlB W An cn s3.1) ⟨hMx, hSx⟩ (fun wm hT => ?_)
      clear hMx hSx hM hSn x0 x1 xf0 xf1 q0 q1 q2 q3 q4 qf
      obtain ⟨hM, hS⟩ := hT
      have hBd := hBdn
      clear hBdn
      obtain ⟨x0, x1, xf0, xf1⟩ := Blk.two hM.b0
      go_wp2_with fail
      refine (rDig_any (s := s3) _ hS hBd (by have := hM.b0.lt; omega)).mono ?_
      rintro e wn ⟨v, rfl, ⟨An, cn, rfl, hSn, hBdn⟩, hbn⟩
      rw [H4.out] at hSn hBdn ⊢
      dsimp only at hSn hBdn ⊢
      replace hM := hM.call hbn
      clear hS hBd hbn x0 x1 xf0 xf1
      have hspl := Lib.hid (mfa_splice (nu : Int) (f : Int) (tt : Int) (q : Int) d)
      have hds := Lib.hid (dga_size d)
      have hda := Lib.hid (dga_all d)
      have hmz := Lib.hid (mfa_size (nu : Int) (f : Int) (tt : Int) (q : Int) dg0 none 0 0)
      have hM2 := hM.row 1 (cs' := mfa nu f tt q d none 0 0) rfl hM.b1.row
      have hS2 := SlB.rowB (k := gq) hSn hBdn (Nat.le_refl _) (mfa nu f tt q d none 0 0)
      go_upto_region 13 with (refine wpl_storeAt rfl 33 _ _ rfl gq 4 (dga d) rfl rfl 36 _ hM.b1 (by rw [hds.out]; kernel_rfl) (by rw [hds.out, hmz.out]; omega) hda.out _ hspl.out ?_; refine gen1 (T := fun W => Mm w W [(gr, 75, #[.slice _ _ _, .int .i64 (s3.2 : Nat)]), (gq, 36, mfa nu f tt q d none 0 0), (w.heap.size, 36, mza)] [] ∧ SlB W An cn s4.1) ⟨hM2, hS2⟩ (fun wy hT => ?_); obtain ⟨hMy, hSy⟩ := hT; obtain ⟨x0, x1, xf0, xf1⟩ := Blk.two hMy.b0)
      have hMx := (hMy.set 0 0 (.slice An s4.1.length cn) rfl).set 0 1 (.int .i64 (s4.2 : Nat)) rfl
      have hSx := SlB.setB (i := 1) (SlB.setB (i := 0) (k := gr) hSy hBdn (by omega) (.slice An s4.1.length cn)) (k := gr) hBdn (by omega) (.int .i64 (s4.2 : Nat))
      refine gen1 (T := fun W => Mm w W [(gr, 75, #[.slice An s4.1.length cn, .int .i64 (s4.2 : Nat)]), (gq, 36, mfa nu f tt q d none 0 0), (w.heap.size, 36, mza)] [] ∧ SlB W An cn s4.1) ⟨hMx, hSx⟩ (fun wm hT => ?_)
      clear hMx hSx hM hSn hM2 hS2 hMy hSy x0 x1 xf0 xf1 hspl hds hda hmz
      obtain ⟨hM, hS⟩ := hT
      have hBd := hBdn
      clear hBdn
      obtain ⟨x0, x1, xf0, xf1⟩ := Blk.two hM.b0
      go_wp2_with fail
      refine (rNumber_v (s := s4) _ hS hBd).mono ?_
      rintro e wn ⟨v, rfl, ⟨An, cn, rfl, hSn, hBdn⟩, hbn⟩
      rw [H5.out] at hSn hBdn ⊢
      dsimp only at hSn hBdn ⊢
      replace hM := hM.call hbn
      clear hS hBd hbn x0 x1 xf0 xf1
      obtain ⟨x0, x1, xf0, xf1⟩ := Blk.two hM.b0
      go_upto_region 14 with (fail)
      have hMx := (hM.set 0 0 (.slice An s5.1.length cn) rfl).set 0 1 (.int .i64 (s5.2 : Nat)) rfl
      have hSx := SlB.setB (i := 1) (SlB.setB (i := 0) (k := gr) hSn hBdn (by omega) (.slice An s5.1.length cn)) (k := gr) hBdn (by omega) (.int .i64 (s5.2 : Nat))
      refine gen1 (T := fun W => Mm w W [(gr, 75, #[.slice An s5.1.length cn, .int .i64 (s5.2 : Nat)]), (gq, 36, mfa nu f tt q d none 0 0), (w.heap.size, 36, mza)] [] ∧ SlB W An cn s5.1) ⟨hMx, hSx⟩ (fun wm hT => ?_)
      clear hMx hSx hM hSn x0 x1 xf0 xf1
      obtain ⟨hM, hS⟩ := hT
      have hBd := hBdn
      clear hBdn
      obtain ⟨x0, x1, xf0, xf1⟩ := Blk.two hM.b0
      rcases Decidable.em (s5.2 = 0 ∧ 1024 < n) with hlong | hlong
      · have hb : (((s5.2 : Nat) : Int) == 0) = true := by rw [hlong.1]; rfl
        have hnI2 : (1024 : Int) < (n : Int) := by have := hlong.2; omega
        have HT := Lib.hid (mfTake_long HT0.out H0.out H1.out H2.out H3.out H4.out H5.out hlong.1 hlong.2)
        clear hlong
        go_wp2_with (first | (refine wpl_buildMzR rfl rfl ?_) | (refine wpList_store_row rfl 36 _ _ rfl w.heap.size mza rfl rfl 36 mza (hM.b2) (by rw [mfa_size]; kernel_rfl) rfl (mfa_all _ _ _ _ _ _ _ _) ?_))
        exact bodyPost_ret (res_mR2 rfl rfl (g := w.heap.size) (Blk.row (hM.b2))) rfl ⟨none, 0, [], by rw [HT.out]; rfl, (show _ = _ from by rw [HT.out]; rfl), Own.none_ _ _ _ _, below_setRow hM.bel (Nat.le_refl _) _⟩
      · have hn1024 := (rNum_le H5.out hlong).1
        have HC := Lib.hid (mfRead_eq H0.out H1.out H2.out H3.out H4.out H5.out (rNum_le H5.out hlong).2)
        rw [show min n 1024 = n from by omega] at HC
        clear H0 H1 H2 H3 H4
        go_cut [77] (fun s74 wz => s74 = .bool false ∧ wz = wm)
        case first =>
          rcases Decidable.em (s5.2 = 0) with h5 | h5
          · have hb : (((s5.2 : Nat) : Int) == 0) = true := by rw [h5]; rfl
            have hnI2 : (n : Int) ≤ 1024 := by omega
            clear h5 hlong
            go_wp2_with fail
            go_meet
            exact ⟨by simp; omega, rfl⟩
          · have hb : (((s5.2 : Nat) : Int) == 0) = false := by rw [beq_eq_false_iff_ne]; omega
            clear h5 hlong
            go_wp2_with fail
            go_meet
            exact ⟨rfl, rfl⟩
        case rest =>
          obtain ⟨rfl, rfl⟩ := hcut
          clear H5 hlong
          obtain ⟨q0, q1, q2, q3, q4⟩ := Blm.five hM.b1
          go_wp2_with fail
          go_loopw [11, 10] (fun x y wr => ∃ (k : Nat) (E : Option Addr) (cE : Nat) (m : List Pt5) (s : List UInt8 × Nat) (A2 : Option Addr) (c2 : Nat), k ≤ n ∧ x = .int .u64 (k : Nat) ∧ y = .int .i64 (pend (f : Nat) m) ∧ Hid (crLoop k (f : Nat) s5 = (m, s)) ∧ Mm w wr [(gr, 75, #[.slice A2 s.1.length c2, .int .i64 (s.2 : Nat)]), (gq, 36, mfa nu f tt q d E m.length cE), (w.heap.size, 36, mza)] [E.map (·.block)] ∧ SlB wr A2 c2 s.1 ∧ (s.1 ≠ [] → ∀ ad, A2 = some ad → ad.block < gq) ∧ OwnR wr (gr + 1) E cE m) (fun x y wr => n - (intOf x).toNat)
          case atStart => exact ⟨0, none, 0, [], s5, An, cn, Nat.zero_le _, rfl, rfl, (show _ = _ from rfl), hM.add (by simp), hS, hBd, Own.none_ _ _ _ _⟩
          case round =>
            obtain ⟨k, E, cE, m, s, A2, c2, hk, rfl, rfl, hm, hMr, hSr, hBr, hOr⟩ := hrel
            clear hM hS hBd x0 x1 xf0 xf1 q0 q1 q2 q3 q4
            obtain ⟨x0, x1, xf0, xf1⟩ := Blk.two hMr.b0
            rcases Decidable.em (k < n ∧ s.2 = 0) with ⟨hlt, hs0⟩ | hend
            · have hkI : (k : Int) < (n : Int) := by omega
              have hb : (((s.2 : Nat) : Int) == 0) = true := by rw [hs0]; rfl
              clear hs0
              have hsl : s.1.length ≤ 1000000 := by have := crLoop_left k (f : Int) s5; rw [hm.out] at this; dsimp only at this; omega
              have hbd : (f : Int) ≤ pend (f : Int) m ∧ pend (f : Int) m ≤ f + 64 * k := by have := crLoop_bd s5 (f : Int) k; rw [hm.out] at this; exact this
              have hml : Hid (m.length = k) := (show _ = _ from by have := crLoop_len k (f : Int) s5; rw [hm.out] at this; exact this)
              have hsu := crLoop_succ k (f : Int) s5
              rw [hm.out] at hsu
              dsimp only at hsu
              obtain ⟨y1, s6, h6⟩ : ∃ n s', rWithin 64 s = (n, s') := ⟨_, _, rfl⟩
              obtain ⟨y2, s7, h7⟩ : ∃ n s', rWithin 65536 s6 = (n, s') := ⟨_, _, rfl⟩
              obtain ⟨dg, s8, h8⟩ : ∃ n s', rDg s7 = (n, s') := ⟨_, _, rfl⟩
              have hy1 : y1 ≤ 64 := by have := rWithin_le 64 s; rw [h6] at this; exact this
              have hrp : rPart (pend (f : Int) m) s = ((pend (f : Int) m, (y1 : Int), (y2 : Int), dg), s8) := by
                unfold rPart
                simp only [h6, h7, h8]
              rw [hrp] at hsu
              dsimp only at hsu
              have HSU := Lib.hid hsu
              have H6 := Lib.hid h6
              have H7 := Lib.hid h7
              have H8 := Lib.hid h8
              clear h6 h7 h8 hrp hsu
              have hlx := hMr.b0.lt
              go_upto_region 21 with (first | (refine wpl_buildP1 rfl _ rfl (f := pend (f : Int) m) rfl ?_) | (refine wpl_storeN rfl 83 _ _ rfl _ (pta (pend (f : Int) m, 0, 0, dg0)) 83 rfl rfl (by rw [pta_size]; kernel_rfl) (by rw [pta_size]; rfl) (pta_all _) ?_))
              have hMx := hMr.alloc (pta (pend (f : Int) m, 0, 0, dg0)) 83
              have hSx := hSr.below (below_new wr (.cells (pta (pend (f : Int) m, 0, 0, dg0)) 83))
              have hOx := World.ownsRow.alloc hOr (.cells (pta (pend (f : Int) m, 0, 0, dg0)) 83)
              generalize wr.heap.size = gp at *
              refine gen1 (T := fun W => (Mm w W [(gp, 83, pta (pend (f : Int) m, 0, 0, dg0)), (gr, 75, #[.slice A2 s.1.length c2, .int .i64 (s.2 : Nat)]), (gq, 36, mfa nu f tt q d E m.length cE), (w.heap.size, 36, mza)] [E.map (·.block)] ∧ SlB W A2 c2 s.1) ∧ OwnR W (gr + 1) E cE m) ⟨⟨hMx, hSx⟩, hOx⟩ (fun wm hT => ?_)
              clear hMx hSx hOx hMr hSr hOr x0 x1 xf0 xf1
              obtain ⟨⟨hM, hS⟩, hO⟩ := hT
              have hBd := hBr
              clear hBr
              obtain ⟨x0, x1, xf0, xf1⟩ := Blk.two hM.b1
              go_wp2_with fail
              refine (rWithin_v18 (s := s) 64 _ hS hBd).mono ?_
              rintro e wn ⟨v, rfl, ⟨An, cn, rfl, hSn, hBdn⟩, hbn⟩
              rw [H6.out] at hSn hBdn ⊢
              dsimp only at hSn hBdn ⊢
              replace hM := hM.call hbn
              replace hO := Own.below hO hbn
              clear hS hBd hbn x0 x1 xf0 xf1
              obtain ⟨x0, x1, xf0, xf1⟩ := Blk.two hM.b1
              have qf := hM.b0.frozen 1
              have qc := (Bl3 hM.b0)
              obtain ⟨qc0, qc1, qc2⟩ := qc
              go_upto_region 22 with (fail)
              have hMx := ((hM.set 0 1 (.int .i64 (y1 : Nat)) rfl).set 1 0 (.slice An s6.1.length cn) rfl).set 1 1 (.int .i64 (s6.2 : Nat)) rfl
              have hSx := SlB.setB (i := 1) (SlB.setB (i := 0) (SlB.setB (k := gp) (i := 1) hSn hBdn (by omega) (.int .i64 (y1 : Nat))) (k := gr) hBdn (by omega) (.slice An s6.1.length cn)) (k := gr) hBdn (by omega) (.int .i64 (s6.2 : Nat))
              have hOx := Own.setM (i := 1) (Own.setM (i := 0) (Own.setM (i := 1) hO hM (by simp) (.head _) (.int .i64 (y1 : Nat))) (hM.set 0 1 (.int .i64 (y1 : Nat)) rfl) (by simp) (.tail _ (.head _)) (.slice An s6.1.length cn)) ((hM.set 0 1 (.int .i64 (y1 : Nat)) rfl).set 1 0 (.slice An s6.1.length cn) rfl) (by simp) (.tail _ (.head _)) (.int .i64 (s6.2 : Nat))
              refine gen1 (T := fun W => (Mm w W [(gp, 83, pta (pend (f : Int) m, (y1 : Int), 0, dg0)), (gr, 75, #[.slice An s6.1.length cn, .int .i64 (s6.2 : Nat)]), (gq, 36, mfa nu f tt q d E m.length cE), (w.heap.size, 36, mza)] [E.map (·.block)] ∧ SlB W An cn s6.1) ∧ OwnR W (gr + 1) E cE m) ⟨⟨hMx, hSx⟩, hOx⟩ (fun wm hT => ?_)
              clear hMx hSx hOx hM hSn hO x0 x1 xf0 xf1 qf qc0 qc1 qc2
              obtain ⟨⟨hM, hS⟩, hO⟩ := hT
              have hBd := hBdn
              clear hBdn
              obtain ⟨x0, x1, xf0, xf1⟩ := Blk.two hM.b1
              go_wp2_with fail
              refine (rWithin_v18 (s := s6) 65536 _ hS hBd).mono ?_
              rintro e wn ⟨v, rfl, ⟨An, cn, rfl, hSn, hBdn⟩, hbn⟩
              rw [H7.out] at hSn hBdn ⊢
              dsimp only at hSn hBdn ⊢
              replace hM := hM.call hbn
              replace hO := Own.below hO hbn
              clear hS hBd hbn x0 x1 xf0 xf1
              obtain ⟨x0, x1, xf0, xf1⟩ := Blk.two hM.b1
              have qf := hM.b0.frozen 2
              have qc := (Bl3 hM.b0)
              obtain ⟨qc0, qc1, qc2⟩ := qc
              go_upto_region 23 with (fail)
              have hMx := ((hM.set 0 2 (.int .i64 (y2 : Nat)) rfl).set 1 0 (.slice An s7.1.length cn) rfl).set 1 1 (.int .i64 (s7.2 : Nat)) rfl
              have hSx := SlB.setB (i := 1) (SlB.setB (i := 0) (SlB.setB (k := gp) (i := 2) hSn hBdn (by omega) (.int .i64 (y2 : Nat))) (k := gr) hBdn (by omega) (.slice An s7.1.length cn)) (k := gr) hBdn (by omega) (.int .i64 (s7.2 : Nat))
              have hOx := Own.setM (i := 1) (Own.setM (i := 0) (Own.setM (i := 2) hO hM (by simp) (.head _) (.int .i64 (y2 : Nat))) (hM.set 0 2 (.int .i64 (y2 : Nat)) rfl) (by simp) (.tail _ (.head _)) (.slice An s7.1.length cn)) ((hM.set 0 2 (.int .i64 (y2 : Nat)) rfl).set 1 0 (.slice An s7.1.length cn) rfl) (by simp) (.tail _ (.head _)) (.int .i64 (s7.2 : Nat))
              refine gen1 (T := fun W => (Mm w W [(gp, 83, pta (pend (f : Int) m, (y1 : Int), (y2 : Int), dg0)), (gr, 75, #[.slice An s7.1.length cn, .int .i64 (s7.2 : Nat)]), (gq, 36, mfa nu f tt q d E m.length cE), (w.heap.size, 36, mza)] [E.map (·.block)] ∧ SlB W An cn s7.1) ∧ OwnR W (gr + 1) E cE m) ⟨⟨hMx, hSx⟩, hOx⟩ (fun wm hT => ?_)
              clear hMx hSx hOx hM hSn hO x0 x1 xf0 xf1 qf qc0 qc1 qc2
              obtain ⟨⟨hM, hS⟩, hO⟩ := hT
              have hBd := hBdn
              clear hBdn
              obtain ⟨x0, x1, xf0, xf1⟩ := Blk.two hM.b1
              go_wp2_with fail
              refine (rDig_any (s := s7) _ hS hBd (by have := hM.b1.lt; omega)).mono ?_
              rintro e wn ⟨v, rfl, ⟨An, cn, rfl, hSn, hBdn⟩, hbn⟩
              rw [H8.out] at hSn hBdn ⊢
              dsimp only at hSn hBdn ⊢
              replace hM := hM.call hbn
              replace hO := Own.below hO hbn
              clear hS hBd hbn x0 x1 xf0 xf1
              have hspl := Lib.hid (pta_splice (pend (f : Int) m) (y1 : Int) (y2 : Int) dg)
              have hds := Lib.hid (dga_size dg)
              have hda := Lib.hid (dga_all dg)
              have hpz := Lib.hid (pta_size (pend (f : Int) m, (y1 : Int), (y2 : Int), dg0))
              have hM2 := hM.row 0 (cs' := pta (pend (f : Int) m, (y1 : Int), (y2 : Int), dg)) rfl hM.b0.row
              have hS2 := SlB.rowB (k := gp) hSn hBdn (by omega) (pta (pend (f : Int) m, (y1 : Int), (y2 : Int), dg))
              have hO2 : OwnR _ (gr + 1) E cE m := World.ownsRow.kept hO (Wr.row (g := gp) (pta (pend (f : Int) m, (y1 : Int), (y2 : Int), dg))) (.inr fun e => (hM.far gp (by rw [← ownBlock_slice E m.length cE, e]; exact .head _)).2 _ (.head _) rfl)
              go_upto_region 24 with (refine wpl_storeAt rfl 33 _ _ rfl gp 3 (dga dg) rfl rfl 83 _ hM.b0 (by rw [hds.out]; kernel_rfl) (by rw [hds.out, hpz.out]; omega) hda.out _ hspl.out ?_; refine gen1 (T := fun W => (Mm w W [(gp, 83, pta (pend (f : Int) m, (y1 : Int), (y2 : Int), dg)), (gr, 75, #[.slice _ _ _, .int .i64 (s7.2 : Nat)]), (gq, 36, mfa nu f tt q d E m.length cE), (w.heap.size, 36, mza)] [E.map (·.block)] ∧ SlB W An cn s8.1) ∧ OwnR W (gr + 1) E cE m) ⟨⟨hM2, hS2⟩, hO2⟩ (fun wy hT => ?_); obtain ⟨⟨hMy, hSy⟩, hOy⟩ := hT; obtain ⟨x0, x1, xf0, xf1⟩ := Blk.two hMy.b1)
              have hMx := (hMy.set 1 0 (.slice An s8.1.length cn) rfl).set 1 1 (.int .i64 (s8.2 : Nat)) rfl
              have hSx := SlB.setB (i := 1) (SlB.setB (i := 0) (k := gr) hSy hBdn (by omega) (.slice An s8.1.length cn)) (k := gr) hBdn (by omega) (.int .i64 (s8.2 : Nat))
              have hOx := Own.setM (i := 1) (Own.setM (i := 0) hOy hMy (by simp) (.tail _ (.head _)) (.slice An s8.1.length cn)) (hMy.set 1 0 (.slice An s8.1.length cn) rfl) (by simp) (.tail _ (.head _)) (.int .i64 (s8.2 : Nat))
              clear hM hSn hO hM2 hS2 hO2 hspl hds hda hpz
              obtain ⟨p, hpe⟩ : ∃ p : Pt5, (pend (f : Int) m, (y1 : Int), (y2 : Int), dg) = p := ⟨_, rfl⟩
              have hp1 : p.2.1 = (y1 : Int) := by rw [← hpe]
              rw [hpe] at hMx
              have hsu2 := HSU.out
              rw [hpe] at hsu2
              have HS := Lib.hid hsu2
              have hps := Lib.hid (pta_size p)
              have hpa := Lib.hid (pta_all p)
              have hwrp : wrap64 (pend (f : Int) m + p.2.1) = pend (f : Int) m + p.2.1 := by simp only [wrap64]; omega
              have hwrp2 : IntKind.i64.wrap (pend (f : Int) m + p.2.1) = pend (f : Int) m + p.2.1 := by rw [IntKind.wrap_i64]; omega
              refine gen1 (T := fun W => (Mm w W [(gp, 83, pta p), (gr, 75, #[.slice An s8.1.length cn, .int .i64 (s8.2 : Nat)]), (gq, 36, mfa nu f tt q d E m.length cE), (w.heap.size, 36, mza)] [E.map (·.block)] ∧ SlB W An cn s8.1) ∧ OwnR W (gr + 1) E cE m) ⟨⟨hMx, hSx⟩, hOx⟩ (fun wm hT => ?_)
              clear hMx hSx hOx hMy hSy hOy x0 x1 xf0 xf1 hsu2 HSU hpe hp1 H6 H7 H8
              obtain ⟨⟨hM8, hS8⟩, hO8⟩ := hT
              have hBd := hBdn
              clear hBdn
              obtain ⟨x0, x1, x2⟩ := Bl3 hM8.b0
              go_upto_region 25 with (fail)
              clear x0 x1 x2
              refine gen1 (T := fun W => (Mm w W [(gp, 83, pta p), (gr, 75, #[.slice An s8.1.length cn, .int .i64 (s8.2 : Nat)]), (gq, 36, mfa nu f tt q d E m.length cE), (w.heap.size, 36, mza)] [E.map (·.block)] ∧ SlB W An cn s8.1) ∧ OwnR W (gr + 1) E cE m) ⟨⟨hM8, hS8⟩, hO8⟩ (fun wq hT => ?_)
              clear hM8 hS8 hO8
              obtain ⟨⟨hM8, hS8⟩, hO8⟩ := hT
              obtain ⟨c0, c1', c2', c3, c4⟩ := Blm.five hM8.b2
              have cf4 := hM8.b2.frozen 36
              have hL9 := litR wq p
              have hO9 := World.ownsRow.alloc hO8 (.cells (pta p) 83)
              have hM9 := hM8.allocO (.cells (pta p) 83)
              have hS9 := hS8.below (below_new wq (.cells (pta p) 83))
              have hgc8 : gr + 1 ≤ wq.heap.size := by have := hM8.b1.lt; omega
              have hgp8 : gp < wq.heap.size := hM8.b0.lt
              go_wp2_with (first | (refine wpl_loadG rfl 83 _ rfl ⟨gp, 0, none⟩ (pta p) rfl hM8.b0.cells _ Try.underlying83 rfl (by rw [hps.out]; kernel_rfl) ?_) | (refine wpl_litR rfl _ rfl p rfl ?_) | (at_builtin; refine wpl_partsR rfl _ _ rfl (gr + 1) E cE m rfl hO9 (some ⟨wq.heap.size, 0, none⟩) 1 1 [p] rfl rfl hL9 (by rw [hml.out]; simp; omega) (by simp; omega) ?_; intro A10 c10 m10 w10 hm10 hO10 hg10 hb10; have hB10 : Blk w10 gq 36 _ := (hb10.block gq (by omega)).trans hM9.b2; have df4 := hB10.frozen 36; obtain ⟨d0, d1, d2, d3, d4⟩ := Blm.five hB10))
              have hM10 := (hM9.sub (List.sublist_cons_self _ _)).base hb10 (by simp; omega) (by omega) (a := A10.map (·.block)) (fun k hk => hO10.lt k hk) (G' := []) (by simp)
              have hM11 := hM10.set 1 36 (.slice A10 m10.length c10) rfl
              rw [mfa_set] at hM11
              have hS11 := SlB.setB (k := gq) (i := 36) (SlB.apart hS9 hBd (show gq ≤ gr + 1 by omega) hb10) hBd (by omega) (.slice A10 m10.length c10)
              have hO11 := Own.set1 hO10 (g := gq) (i := 36) (by omega) (.slice A10 m10.length c10)
              go_roundw
              case rel => exact ⟨k + 1, A10, c10, m10, s8, An, cn, hlt, by go_num, by rw [hm10.out, pend_snoc], (show _ = _ from by rw [hm10.out, HS.out]), hM11, hS11, hBd, hO11⟩
              case measure => simp [intOf]; omega
            · rcases Nat.lt_or_ge k n with hlt | hge
              · have hs0 : s.2 ≠ 0 := fun h => hend ⟨hlt, h⟩
                have hkI : (k : Int) < (n : Int) := by omega
                have hb : (((s.2 : Nat) : Int) == 0) = false := by rw [beq_eq_false_iff_ne]; omega
                have hst := crLoop_stop n k (f : Int) s5 hk (by rw [hm.out]; exact hs0)
                rw [hm.out] at hst
                have hre : rEnd s ≠ 0 := by unfold rEnd; rw [if_neg (fun h => hs0 h.1)]; exact hs0
                have HT := Lib.hid (show mfTake b = (mfz, rEnd s) from by rw [HT0.out, HC.out, mfEnd_1 (by dsimp only; rw [hst]; exact hre)]; dsimp only; rw [hst])
                have hbb : (((rEnd s : Nat) : Int) != 0) = true := by simp; omega
                clear hs0 hst hre hend
                go_wp2_with fail
                refine (rEnd_v18 (s := s) _).mono ?_
                rintro e w8 ⟨rfl, hb8⟩
                replace hMr := hMr.call hb8
                have hM := hMr
                clear hb8 x0 x1 xf0 xf1
                go_wp2_with (first | (refine wpl_buildMzR rfl rfl ?_) | (refine wpList_store_row rfl 36 _ _ rfl w.heap.size mza rfl rfl 36 mza (hM.b2) (by rw [mfa_size]; kernel_rfl) rfl (mfa_all _ _ _ _ _ _ _ _) ?_))
                exact bodyPost_ret (res_mR2 rfl rfl (g := w.heap.size) (Blk.row (hM.b2))) rfl ⟨none, 0, [], by rw [HT.out]; rfl, (show _ = _ from by rw [HT.out]; rfl), Own.none_ _ _ _ _, below_setRow hM.bel (Nat.le_refl _) _⟩
              · obtain rfl : k = n := by omega
                have HT1 : Hid (mfTake b = mfEnd (((nu : Int), (f : Int), (tt : Int), (q : Int), d, m), s)) := (show _ = _ from by rw [HT0.out, HC.out, hm.out])
                have hmI : PtsI m := by have := crLoop_I k (f : Int) s5 (by omega) (by omega); rw [hm.out] at this; exact this
                have HMI := Lib.hid hmI
                clear HT0 HC hm hmI hend
                have hmz := Lib.hid (mfa_size nu f tt q d E m.length cE)
                have hmb := Lib.hid (mfa_all nu f tt q d E m.length cE)
                go_wp2_with fail
                refine (rEnd_v18 (s := s) _).mono ?_
                rintro e w8 ⟨rfl, hb8⟩
                have hM := hMr.call hb8
                have hO8 := Own.below hOr hb8
                clear hb8 x0 x1 xf0 xf1 hMr hOr
                rcases Decidable.em (rEnd s = 0) with h0 | h0
                · have hbb : (((rEnd s : Nat) : Int) != 0) = false := by simp [h0]
                  have HN0 := Lib.hid h0
                  clear h0
                  go_wp2_with (refine wpl_loadG rfl 36 _ rfl ⟨gq, 0, none⟩ (mfa nu f tt q d E m.length cE) rfl hM.b1.cells _ Try.underlying36 rfl (by rw [hmz.out]; kernel_rfl) ?_)
                  refine (rMCheck_any nu f tt q d m _ (Own.sl hO8) HMI.out).mono ?_
                  rintro e w9 ⟨rfl, hb9⟩
                  replace hM := hM.call hb9
                  replace hO8 := Own.below hO8 hb9
                  clear hb9
                  rcases Decidable.em (mchk ((nu : Int), (f : Int), (tt : Int), (q : Int), d, m) = 0) with h1 | h1
                  · have hbc : (((mchk ((nu : Int), (f : Int), (tt : Int), (q : Int), d, m) : Nat) : Int) != 0) = false := by simp [h1]
                    have HT := Lib.hid (show mfTake b = (((nu : Int), (f : Int), (tt : Int), (q : Int), d, m), 0) from by rw [HT1.out]; exact mfEnd_3 HN0.out h1)
                    clear h1
                    go_wp2_with (first | (refine wpl_loadG rfl 36 _ rfl ⟨gq, 0, none⟩ (mfa nu f tt q d E m.length cE) rfl hM.b1.cells _ Try.underlying36 rfl (by rw [hmz.out]; kernel_rfl) ?_) | (refine wpList_store_row rfl 36 _ _ rfl w.heap.size (mfa nu f tt q d E m.length cE) rfl rfl 36 mza hM.b2 (by rw [hmz.out]; kernel_rfl) (by rw [hmz.out, mfa_size]) hmb.out ?_))
                    exact bodyPost_ret (res_mR2 rfl rfl (g := w.heap.size) hM.b2.row) rfl ⟨E, cE, m, by rw [HT.out]; rfl, (show _ = _ from by rw [HT.out]), (Own.wr hO8 (g := w.heap.size) (by omega) (Wr.row _)).more (by omega), below_setRow hM.bel (Nat.le_refl _) _⟩
                  · have hbc : (((mchk ((nu : Int), (f : Int), (tt : Int), (q : Int), d, m) : Nat) : Int) != 0) = true := by simp; omega
                    have HT := Lib.hid (show mfTake b = (mfz, mchk ((nu : Int), (f : Int), (tt : Int), (q : Int), d, m)) from by rw [HT1.out]; exact mfEnd_2 HN0.out (by dsimp only; omega))
                    clear h1
                    go_wp2_with (first | (refine wpl_buildMzR rfl rfl ?_) | (refine wpList_store_row rfl 36 _ _ rfl w.heap.size mza rfl rfl 36 mza (hM.b2) (by rw [mfa_size]; kernel_rfl) rfl (mfa_all _ _ _ _ _ _ _ _) ?_))
                    exact bodyPost_ret (res_mR2 rfl rfl (g := w.heap.size) (Blk.row (hM.b2))) rfl ⟨none, 0, [], by rw [HT.out]; rfl, (show _ = _ from by rw [HT.out]; rfl), Own.none_ _ _ _ _, below_setRow hM.bel (Nat.le_refl _) _⟩
                · have hbb : (((rEnd s : Nat) : Int) != 0) = true := by simp; omega
                  have HT := Lib.hid (show mfTake b = (mfz, rEnd s) from by rw [HT1.out]; exact mfEnd_1 (by dsimp only; omega))
                  clear h0
                  go_wp2_with (first | (refine wpl_buildMzR rfl rfl ?_) | (refine wpList_store_row rfl 36 _ _ rfl w.heap.size mza rfl rfl 36 mza (hM.b2) (by rw [mfa_size]; kernel_rfl) rfl (mfa_all _ _ _ _ _ _ _ _) ?_))
                  exact bodyPost_ret (res_mR2 rfl rfl (g := w.heap.size) (Blk.row (hM.b2))) rfl ⟨none, 0, [], by rw [HT.out]; rfl, (show _ = _ from by rw [HT.out]; rfl), Own.none_ _ _ _ _, below_setRow hM.bel (Nat.le_refl _) _⟩
  · have hb1 : ((fbad : Int) == 0) = false := by rw [beq_eq_false_iff_ne]; omega
    have hb2 : ((fbad : Int) != 0) = true := by rw [bne_iff_ne]; omega
    have HT := Lib.hid (show mfTake b = (mfz, fbad) from by unfold mfTake; rw [hA h0, if_pos h0])
    clear hA hB hC hfl h0
    go_wp2_with (first | (refine wpl_buildMzR rfl rfl ?_) | (refine wpList_store_row rfl 36 _ _ rfl w.heap.size mza rfl rfl 36 mza (hM.b0) (by rw [mfa_size]; kernel_rfl) rfl (mfa_all _ _ _ _ _ _ _ _) ?_))
    exact bodyPost_ret (res_mR2 rfl rfl (g := w.heap.size) (Blk.row (hM.b0))) rfl ⟨none, 0, [], by rw [HT.out]; rfl, (show _ = _ from by rw [HT.out]; rfl), Own.none_ _ _ _ _, below_setRow hM.bel (Nat.le_refl _) _⟩
end Go.Proofs.Ytgfigkenpmmdeaa

namespace Go.Proofs.Ytgfigkenpmmdeaa
open Go.RowKit
attribute [local go_sem ↓] Go.wp_at_zero Go.wp_at_succ

theorem yld_load {P : Program} {a : Act} {o : Oper} {w : World} (ty : TypeId) (x : Operand) (ho : o.op = .load ty x) (ad : Addr) (cs : Array Value) (hx : a.eval x = .pointer (some ad)) (hc : ∀ j u, cs[j]? = some u → w.cell? (ad.add j) = some u) (d : TypeDesc) (hu : P.underlying ty = some d) (hd : (match d with | .struct _ | .array _ _ => true | _ => false) = true) (hi : (P.info? ty).map (·.size) = some cs.size) :
    (execOp a.eval o).run P w = .ok (.value (.agg cs)) w := by
  unfold execOp
  simp only [ho, hx, Instr.loadAt, Instr.sureAddr, Sem.run_bind, Sem.run_pure, Result.andThen_ok, run_loadVar_at w ad ty cs hc d hu hd hi]
/-- two manifests are one -/
def mfeq (x y : Mf) : Bool := decide (x.1 = y.1) && decide (x.2.1 = y.2.1) && decide (x.2.2.1 = y.2.2.1) && decide (x.2.2.2.1 = y.2.2.2.1) && decide (x.2.2.2.2.1 = y.2.2.2.2.1) && decide (x.2.2.2.2.2 = y.2.2.2.2.2)
theorem mfeq_iff {x y : Mf} : mfeq x y = true ↔ x = y := by
  obtain ⟨x1, x2, x3, x4, x5, x6⟩ := x
  obtain ⟨y1, y2, y3, y4, y5, y6⟩ := y
  unfold mfeq
  simp only [Bool.and_eq_true, decide_eq_true_eq, Prod.mk.injEq, and_assoc]
theorem ne_mf {x y : Mf} (h : x ≠ y) : mfeq x y = false := by
  rw [Bool.eq_false_iff]
  exact fun h2 => h (mfeq_iff.1 h2)
theorem eq_mf {x y : Mf} (h : x = y) : mfeq x y = true := mfeq_iff.2 h
set_option maxRecDepth 100000 in
set_option maxHeartbeats 2000000 in
theorem MSame_any {E G : Option Addr} {cap cap2 : Nat} (n f t r n2 f2 t2 r2 : Int) (d d2 : Dg) (ps qs : List Pt5) (w : World) (h : SlP w E cap ps) (h2 : SlP w G cap2 qs) :
    Calls Try.prog 12 #[.agg (mfa n f t r d E ps.length cap), .agg (mfa n2 f2 t2 r2 d2 G qs.length cap2)] w fun e w' => e = .returned (.bool (mfeq (n, f, t, r, d, ps) (n2, f2, t2, r2, d2, qs))) ∧ Below w.heap.size w w' := by
  have hM := ((Mm.start w).alloc (mfa n f t r d E ps.length cap) 27).alloc (mfa n2 f2 t2 r2 d2 G qs.length cap2) 27
  rw [show (w.alloc (.cells (mfa n f t r d E ps.length cap) 27)).heap.size = w.heap.size + 1 from by simp] at hM
  have hds := Lib.hid (dga_size d)
  have hds2 := Lib.hid (dga_size d2)
  have hmax := h.len_le
  have hmax2 := h2.len_le
  unfold maxLen at hmax hmax2
  go_enter Try.func12, Try.ntmps12
  go_upto_region 1 with (fail)
  refine gen1 (T := fun W => Mm w W [(w.heap.size + 1, 27, mfa n2 f2 t2 r2 d2 G qs.length cap2), (w.heap.size, 27, mfa n f t r d E ps.length cap)] []) hM (fun w1 hM => ?_)
  obtain ⟨a0, a1, a2, a3, a4⟩ := Blm.five hM.b1
  obtain ⟨c0, c1, c2, c3, c4⟩ := Blm.five hM.b0
  have hdg := Lib.hid (Blm.dg hM.b1)
  have hdg2 := Lib.hid (Blm.dg hM.b0)
  by_cases e_n : n = n2
  case neg =>
    have hb : (n == n2) = false := by simp [e_n]
    have HR := Lib.hid (ne_mf (x := (n, f, t, r, d, ps)) (y := (n2, f2, t2, r2, d2, qs)) (fun h => e_n (by simp only [Prod.mk.injEq] at h; first | exact h.1 | exact h.2.1 | exact h.2.2.1 | exact h.2.2.2.1)))
    clear e_n
    go_wp2_with fail
    go_ret
    exact ⟨by rw [HR.out] <;> rfl, hM.bel⟩
  subst e_n
  by_cases e_f : f = f2
  case neg =>
    have hb : (f == f2) = false := by simp [e_f]
    have HR := Lib.hid (ne_mf (x := (n, f, t, r, d, ps)) (y := (n, f2, t2, r2, d2, qs)) (fun h => e_f (by simp only [Prod.mk.injEq] at h; first | exact h.1 | exact h.2.1 | exact h.2.2.1 | exact h.2.2.2.1)))
    clear e_f
    go_wp2_with fail
    go_ret
    exact ⟨by rw [HR.out] <;> rfl, hM.bel⟩
  subst e_f
  by_cases e_t : t = t2
  case neg =>
    have hb : (t == t2) = false := by simp [e_t]
    have HR := Lib.hid (ne_mf (x := (n, f, t, r, d, ps)) (y := (n, f, t2, r2, d2, qs)) (fun h => e_t (by simp only [Prod.mk.injEq] at h; first | exact h.1 | exact h.2.1 | exact h.2.2.1 | exact h.2.2.2.1)))
    clear e_t
    go_wp2_with fail
    go_ret
    exact ⟨by rw [HR.out] <;> rfl, hM.bel⟩
  subst e_t
  by_cases e_r : r = r2
  case neg =>
    have hb : (r == r2) = false := by simp [e_r]
    have HR := Lib.hid (ne_mf (x := (n, f, t, r, d, ps)) (y := (n, f, t, r2, d2, qs)) (fun h => e_r (by simp only [Prod.mk.injEq] at h; first | exact h.1 | exact h.2.1 | exact h.2.2.1 | exact h.2.2.2.1)))
    clear e_r
    go_wp2_with fail
    go_ret
    exact ⟨by rw [HR.out] <;> rfl, hM.bel⟩
  subst e_r
  have hq := fun W => eql_dg d d2 W
  obtain ⟨zb, hzb⟩ : ∃ b, decide (d = d2) = b := ⟨_, rfl⟩
  rw [hzb] at hq
  cases zb
  case false =>
    have HR := Lib.hid (ne_mf (x := (n, f, t, r, d, ps)) (y := (n, f, t, r, d2, qs)) (fun h => of_decide_eq_false hzb (by simp only [Prod.mk.injEq] at h; exact h.2.2.2.2.1)))
    clear hzb
    go_wp2_with (first | (refine wpl_loadG (by kernel_rfl) 24 _ rfl ⟨w.heap.size, 4, none⟩ (dga d) rfl hdg.out _ Try.underlying24 rfl (by rw [hds.out]; kernel_rfl) ?_) | (refine wpl_loadG (by kernel_rfl) 24 _ rfl ⟨w.heap.size + 1, 4, none⟩ (dga d2) rfl hdg2.out _ Try.underlying24 rfl (by rw [hds2.out]; kernel_rfl) ?_))
    go_ret
    exact ⟨by rw [HR.out] <;> rfl, hM.bel⟩
  have hdd := of_decide_eq_true hzb
  have HD := Lib.hid hdd
  clear hzb hdd
  go_wp2_with (first | (refine wpl_loadG (by kernel_rfl) 24 _ rfl ⟨w.heap.size, 4, none⟩ (dga d) rfl hdg.out _ Try.underlying24 rfl (by rw [hds.out]; kernel_rfl) ?_) | (refine wpl_loadG (by kernel_rfl) 24 _ rfl ⟨w.heap.size + 1, 4, none⟩ (dga d2) rfl hdg2.out _ Try.underlying24 rfl (by rw [hds2.out]; kernel_rfl) ?_))
  refine (PtEqual_any ps qs _ (h.below hM.bel) (h2.below hM.bel)).mono ?_
  rintro e w2 ⟨rfl, hb2⟩
  have HR := Lib.hid (show mfeq (n, f, t, r, d, ps) (n, f, t, r, d2, qs) = decide (ps = qs) from by rw [HD.out]; unfold mfeq; simp)
  obtain ⟨z2, hz2⟩ : ∃ b, decide (ps = qs) = b := ⟨_, rfl⟩
  rw [hz2]
  have HZ := Lib.hid hz2
  clear hz2 a0 a1 a2 a3 a4 c0 c1 c2 c3 c4 hq
  go_wp2_with fail
  go_ret
  exact ⟨by rw [HR.out, HZ.out] <;> rfl, hM.bel.trans (hb2.mono hM.bel.size)⟩
end Go.Proofs.Ytgfigkenpmmdeaa

namespace Go.Proofs.Ytgfigkenpmmdeaa
open Go.RowKit
attribute [local go_sem ↓] Go.wp_at_zero Go.wp_at_succ
set_option maxRecDepth 100000 in
set_option maxHeartbeats 2000000 in
theorem rMSame_any {E G : Option Addr} {cap cap2 : Nat} (n f t r n2 f2 t2 r2 : Int) (d d2 : Dg) (ps qs : List Pt5) (w : World) (h : SlP w E cap ps) (h2 : SlP w G cap2 qs) :
    Calls Try.prog 8 #[.agg (mfa n f t r d E ps.length cap), .agg (mfa n2 f2 t2 r2 d2 G qs.length cap2)] w fun e w' => e = .returned (.bool (mfeq (n, f, t, r, d, ps) (n2, f2, t2, r2, d2, qs))) ∧ Below w.heap.size w w' := by
  have hM := ((Mm.start w).alloc (mfa n f t r d E ps.length cap) 36).alloc (mfa n2 f2 t2 r2 d2 G qs.length cap2) 36
  rw [show (w.alloc (.cells (mfa n f t r d E ps.length cap) 36)).heap.size = w.heap.size + 1 from by simp] at hM
  have hds := Lib.hid (dga_size d)
  have hds2 := Lib.hid (dga_size d2)
  have hmax := h.len_le
  have hmax2 := h2.len_le
  unfold maxLen at hmax hmax2
  go_enter Try.func8, Try.ntmps8
  go_upto_region 1 with (fail)
  refine gen1 (T := fun W => Mm w W [(w.heap.size + 1, 36, mfa n2 f2 t2 r2 d2 G qs.length cap2), (w.heap.size, 36, mfa n f t r d E ps.length cap)] []) hM (fun w1 hM => ?_)
  obtain ⟨a0, a1, a2, a3, a4⟩ := Blm.five hM.b1
  obtain ⟨c0, c1, c2, c3, c4⟩ := Blm.five hM.b0
  have hdg := Lib.hid (Blm.dg hM.b1)
  have hdg2 := Lib.hid (Blm.dg hM.b0)
  by_cases e_n : n = n2
  case neg =>
    have hb : (n != n2) = true := by simp [e_n]
    have HR := Lib.hid (ne_mf (x := (n, f, t, r, d, ps)) (y := (n2, f2, t2, r2, d2, qs)) (fun h => e_n (by simp only [Prod.mk.injEq] at h; first | exact h.1 | exact h.2.1 | exact h.2.2.1 | exact h.2.2.2.1)))
    clear e_n
    go_wp2_with fail
    go_ret
    exact ⟨by rw [HR.out] <;> rfl, hM.bel⟩
  subst e_n
  by_cases e_f : f = f2
  case neg =>
    have hb : (f != f2) = true := by simp [e_f]
    have HR := Lib.hid (ne_mf (x := (n, f, t, r, d, ps)) (y := (n, f2, t2, r2, d2, qs)) (fun h => e_f (by simp only [Prod.mk.injEq] at h; first | exact h.1 | exact h.2.1 | exact h.2.2.1 | exact h.2.2.2.1)))
    clear e_f
    go_wp2_with fail
    go_ret
    exact ⟨by rw [HR.out] <;> rfl, hM.bel⟩
  subst e_f
  by_cases e_t : t = t2
  case neg =>
    have hb : (t != t2) = true := by simp [e_t]
    have HR := Lib.hid (ne_mf (x := (n, f, t, r, d, ps)) (y := (n, f, t2, r2, d2, qs)) (fun h => e_t (by simp only [Prod.mk.injEq] at h; first | exact h.1 | exact h.2.1 | exact h.2.2.1 | exact h.2.2.2.1)))
    clear e_t
    go_wp2_with fail
    go_ret
    exact ⟨by rw [HR.out] <;> rfl, hM.bel⟩
  subst e_t
  by_cases e_r : r = r2
  case neg =>
    have hb : (r != r2) = true := by simp [e_r]
    have HR := Lib.hid (ne_mf (x := (n, f, t, r, d, ps)) (y := (n, f, t, r2, d2, qs)) (fun h => e_r (by simp only [Prod.mk.injEq] at h; first | exact h.1 | exact h.2.1 | exact h.2.2.1 | exact h.2.2.2.1)))
    clear e_r
    go_wp2_with fail
    go_ret
    exact ⟨by rw [HR.out] <;> rfl, hM.bel⟩
  subst e_r
  have hq := fun W => neq_dgR d d2 W
  obtain ⟨zb, hzb⟩ : ∃ b, decide (d = d2) = b := ⟨_, rfl⟩
  rw [hzb] at hq
  cases zb
  case false =>
    have HR := Lib.hid (ne_mf (x := (n, f, t, r, d, ps)) (y := (n, f, t, r, d2, qs)) (fun h => of_decide_eq_false hzb (by simp only [Prod.mk.injEq] at h; exact h.2.2.2.2.1)))
    clear hzb
    go_wp2_with (first | (refine wpl_loadG (by kernel_rfl) 33 _ rfl ⟨w.heap.size, 4, none⟩ (dga d) rfl hdg.out _ Try.underlying33 rfl (by rw [hds.out]; kernel_rfl) ?_) | (refine wpl_loadG (by kernel_rfl) 33 _ rfl ⟨w.heap.size + 1, 4, none⟩ (dga d2) rfl hdg2.out _ Try.underlying33 rfl (by rw [hds2.out]; kernel_rfl) ?_))
    go_ret
    exact ⟨by rw [HR.out] <;> rfl, hM.bel⟩
  have hdd := of_decide_eq_true hzb
  have HD := Lib.hid hdd
  clear hzb hdd
  by_cases e_l : ps.length = qs.length
  case neg =>
    have hb : ((ps.length : Int) != (qs.length : Int)) = true := by simp; omega
    have HR := Lib.hid (ne_mf (x := (n, f, t, r, d, ps)) (y := (n, f, t, r, d2, qs)) (fun h => e_l (by simp only [Prod.mk.injEq] at h; rw [h.2.2.2.2.2])))
    clear e_l
    go_wp2_with (first | (refine wpl_loadG (by kernel_rfl) 33 _ rfl ⟨w.heap.size, 4, none⟩ (dga d) rfl hdg.out _ Try.underlying33 rfl (by rw [hds.out]; kernel_rfl) ?_) | (refine wpl_loadG (by kernel_rfl) 33 _ rfl ⟨w.heap.size + 1, 4, none⟩ (dga d2) rfl hdg2.out _ Try.underlying33 rfl (by rw [hds2.out]; kernel_rfl) ?_))
    go_ret
    exact ⟨by rw [HR.out] <;> rfl, hM.bel⟩
  have hb : ((ps.length : Int) != (qs.length : Int)) = false := by simp; omega
  have HL := Lib.hid e_l
  have hle1 : ps.length ≤ qs.length := by omega
  have hle2 : qs.length ≤ ps.length := by omega
  clear e_l
  go_wp2_with (first | (refine wpl_loadG (by kernel_rfl) 33 _ rfl ⟨w.heap.size, 4, none⟩ (dga d) rfl hdg.out _ Try.underlying33 rfl (by rw [hds.out]; kernel_rfl) ?_) | (refine wpl_loadG (by kernel_rfl) 33 _ rfl ⟨w.heap.size + 1, 4, none⟩ (dga d2) rfl hdg2.out _ Try.underlying33 rfl (by rw [hds2.out]; kernel_rfl) ?_))
  go_loopw [5] (fun x wr => ∃ k : Nat, k ≤ ps.length ∧ x = .int .i64 (k : Nat) ∧ Hid (ps.take k = qs.take k) ∧ Mm w wr [(w.heap.size + 1, 36, mfa n f t r d2 G qs.length cap2), (w.heap.size, 36, mfa n f t r d E ps.length cap)] []) (fun x wr => ps.length - (intOf x).toNat)
  case atStart => exact ⟨0, Nat.zero_le _, rfl, (show _ = _ from by simp), hM⟩
  case round =>
    obtain ⟨k, hk, rfl, hall, hMr⟩ := hrel
    clear hM a0 a1 a2 a3 a4 c0 c1 c2 c3 c4 hdg hdg2 hq
    obtain ⟨a0, a1, a2, a3, a4⟩ := Blm.five hMr.b1
    obtain ⟨c0, c1, c2, c3, c4⟩ := Blm.five hMr.b0
    rcases Nat.lt_or_ge k ps.length with hlt | hge
    · have hlt2 : k < qs.length := by omega
      have hkI : (k : Int) < (ps.length : Int) := by omega
      have hkI2 : (k : Int) < (qs.length : Int) := by omega
      have hk0 : 0 ≤ (k : Int) := by omega
      obtain ⟨ad, b, o, rfl, had, hcc⟩ := (h.below hMr.bel).at hlt
      obtain ⟨ad2, b2, o2, rfl, had2, hdd⟩ := (h2.below hMr.bel).at hlt2
      have hnx := Lib.hid (take_succ_eqP hall.out hlt hlt2)
      have hno := Lib.hid (take_neP hlt hlt2)
      generalize ps[k] = p at *
      generalize qs[k] = p' at *
      have hnn := neq_ptR p p'
      obtain ⟨z, hz⟩ : ∃ z, decide (p = p') = z := ⟨_, rfl⟩
      rw [hz] at hnn
      have HZ := Lib.hid hz
      have HC1 := Lib.hid (fun W (hW : Below wr.heap.size wr W) => cells_below hcc hW)
      have HC2 := Lib.hid (fun W (hW : Below wr.heap.size wr W) => cells_below hdd hW)
      have hpz := Lib.hid (pta_size p)
      have hpz2 := Lib.hid (pta_size p')
      clear hcc hdd hz
      go_upto_region 6 with (fail)
      have hst : Mm w wr.drew [(w.heap.size + 1, 36, mfa n f t r d2 (some ad2) qs.length cap2), (w.heap.size, 36, mfa n f t r d (some ad) ps.length cap)] [] ∧ Below wr.heap.size wr wr.drew := ⟨hMr.drew, (Below.refl _ _).drew⟩
      clear hMr a0 a1 a2 a3 a4 c0 c1 c2 c3 c4
      go_cut [65] (fun s wz => s = .bool (!z) ∧ Mm w wz [(w.heap.size + 1, 36, mfa n f t r d2 (some ad2) qs.length cap2), (w.heap.size, 36, mfa n f t r d (some ad) ps.length cap)] [])
      case first =>
        refine wp_region_held_drew (S := (fun W => Mm w W [(w.heap.size + 1, 36, mfa n f t r d2 (some ad2) qs.length cap2), (w.heap.size, 36, mfa n f t r d (some ad) ps.length cap)] [] ∧ Below wr.heap.size wr W)) (by kernel_rfl) ?_ (fun hHeld => ?_)
        · first | exact hst | exact hHeld
        refine wpAnyH_take (i := 0) (oi := ⟨some 55, _, _, _, _, _⟩) (v := ?_) rfl (by kernel_rfl) (by kernel_rfl) (by kernel_rfl) (fun _ _ _ h => h) (Or.inl ⟨by kernel_rfl, ?_⟩) (by assumption) ?_
        rotate_left
        · (intro wS hSw; (try dsimp only at hSw); obtain ⟨a0, a1, a2, a3, a4⟩ := Blm.five hSw.1.b1; obtain ⟨c0, c1, c2, c3, c4⟩ := Blm.five hSw.1.b0; clear hSw; go_simp; (try with_reducible rfl))
        (try simp only [Act.put, List.setIfInBounds_toArray, List.set_cons_zero, List.set_cons_succ])
        refine wpAnyH_take (i := 1) (oi := ⟨some 56, _, _, _, _, _⟩) (v := ?_) rfl (by kernel_rfl) (by kernel_rfl) (by kernel_rfl) (fun _ _ _ h => h) (Or.inl ⟨by kernel_rfl, ?_⟩) (by assumption) ?_
        rotate_left
        · (intro wS hSw; (try dsimp only at hSw); obtain ⟨a0, a1, a2, a3, a4⟩ := Blm.five hSw.1.b1; obtain ⟨c0, c1, c2, c3, c4⟩ := Blm.five hSw.1.b0; clear hSw; go_simp; (try with_reducible rfl))
        (try simp only [Act.put, List.setIfInBounds_toArray, List.set_cons_zero, List.set_cons_succ])
        refine wpAnyH_take (i := 2) (oi := ⟨some 57, _, _, _, _, _⟩) (v := ?_) rfl (by kernel_rfl) (by kernel_rfl) (by kernel_rfl) (fun _ _ _ h => h) (Or.inl ⟨by kernel_rfl, ?_⟩) (by assumption) ?_
        rotate_left
        · (intro wS hSw; (try dsimp only at hSw); obtain ⟨a0, a1, a2, a3, a4⟩ := Blm.five hSw.1.b1; obtain ⟨c0, c1, c2, c3, c4⟩ := Blm.five hSw.1.b0; clear hSw; go_simp; (try with_reducible rfl))
        (try simp only [Act.put, List.setIfInBounds_toArray, List.set_cons_zero, List.set_cons_succ])
        refine wpAnyH_take (i := 3) (oi := ⟨some 58, _, _, _, _, _⟩) (v := ?_) rfl (by kernel_rfl) (by kernel_rfl) (by kernel_rfl) (fun _ _ _ h => h) (Or.inl ⟨by kernel_rfl, ?_⟩) (by assumption) ?_
        rotate_left
        · (intro wS hSw; (try dsimp only at hSw); obtain ⟨a0, a1, a2, a3, a4⟩ := Blm.five hSw.1.b1; obtain ⟨c0, c1, c2, c3, c4⟩ := Blm.five hSw.1.b0; clear hSw; go_simp; (try with_reducible rfl))
        (try simp only [Act.put, List.setIfInBounds_toArray, List.set_cons_zero, List.set_cons_succ])
        refine wpAnyH_take (i := 4) (oi := ⟨some 59, _, _, _, _, _⟩) (v := ?_) rfl (by kernel_rfl) (by kernel_rfl) (by kernel_rfl) (fun _ _ _ h => h) (Or.inl ⟨by kernel_rfl, ?_⟩) (by assumption) ?_
        rotate_left
        · (intro wS hSw; (try dsimp only at hSw); (refine yld_load 83 (.tmp 58) ?_ ⟨b, o, none⟩ (pta p) ?_ (HC1.out _ hSw.2) _ Try.underlying83 rfl (by rw [hpz.out]; kernel_rfl) <;> rfl))
        (try simp only [Act.put, List.setIfInBounds_toArray, List.set_cons_zero, List.set_cons_succ])
        refine wpAnyH_take (i := 5) (oi := ⟨some 60, _, _, _, _, _⟩) (v := ?_) rfl (by kernel_rfl) (by kernel_rfl) (by kernel_rfl) (fun _ _ _ h => h) (Or.inl ⟨by kernel_rfl, ?_⟩) (by assumption) ?_
        rotate_left
        · (intro wS hSw; (try dsimp only at hSw); obtain ⟨a0, a1, a2, a3, a4⟩ := Blm.five hSw.1.b1; obtain ⟨c0, c1, c2, c3, c4⟩ := Blm.five hSw.1.b0; clear hSw; go_simp; (try with_reducible rfl))
        (try simp only [Act.put, List.setIfInBounds_toArray, List.set_cons_zero, List.set_cons_succ])
        refine wpAnyH_take (i := 6) (oi := ⟨some 61, _, _, _, _, _⟩) (v := ?_) rfl (by kernel_rfl) (by kernel_rfl) (by kernel_rfl) (fun _ _ _ h => h) (Or.inl ⟨by kernel_rfl, ?_⟩) (by assumption) ?_
        rotate_left
        · (intro wS hSw; (try dsimp only at hSw); obtain ⟨a0, a1, a2, a3, a4⟩ := Blm.five hSw.1.b1; obtain ⟨c0, c1, c2, c3, c4⟩ := Blm.five hSw.1.b0; clear hSw; go_simp; (try with_reducible rfl))
        (try simp only [Act.put, List.setIfInBounds_toArray, List.set_cons_zero, List.set_cons_succ])
        refine wpAnyH_take (i := 7) (oi := ⟨some 62, _, _, _, _, _⟩) (v := ?_) rfl (by kernel_rfl) (by kernel_rfl) (by kernel_rfl) (fun _ _ _ h => h) (Or.inl ⟨by kernel_rfl, ?_⟩) (by assumption) ?_
        rotate_left
        · (intro wS hSw; (try dsimp only at hSw); obtain ⟨a0, a1, a2, a3, a4⟩ := Blm.five hSw.1.b1; obtain ⟨c0, c1, c2, c3, c4⟩ := Blm.five hSw.1.b0; clear hSw; go_simp; (try with_reducible rfl))
        (try simp only [Act.put, List.setIfInBounds_toArray, List.set_cons_zero, List.set_cons_succ])
        refine wpAnyH_take (i := 8) (oi := ⟨some 63, _, _, _, _, _⟩) (v := ?_) rfl (by kernel_rfl) (by kernel_rfl) (by kernel_rfl) (fun _ _ _ h => h) (Or.inl ⟨by kernel_rfl, ?_⟩) (by assumption) ?_
        rotate_left
        · (intro wS hSw; (try dsimp only at hSw); obtain ⟨a0, a1, a2, a3, a4⟩ := Blm.five hSw.1.b1; obtain ⟨c0, c1, c2, c3, c4⟩ := Blm.five hSw.1.b0; clear hSw; go_simp; (try with_reducible rfl))
        (try simp only [Act.put, List.setIfInBounds_toArray, List.set_cons_zero, List.set_cons_succ])
        refine wpAnyH_take (i := 9) (oi := ⟨some 64, _, _, _, _, _⟩) (v := ?_) rfl (by kernel_rfl) (by kernel_rfl) (by kernel_rfl) (fun _ _ _ h => h) (Or.inl ⟨by kernel_rfl, ?_⟩) (by assumption) ?_
        rotate_left
        · (intro wS hSw; (try dsimp only at hSw); (refine yld_load 83 (.tmp 63) ?_ ⟨b2, o2, none⟩ (pta p') ?_ (HC2.out _ hSw.2) _ Try.underlying83 rfl (by rw [hpz2.out]; kernel_rfl) <;> rfl))
        (try simp only [Act.put, List.setIfInBounds_toArray, List.set_cons_zero, List.set_cons_succ])
        refine wpAnyH_take (i := 10) (oi := ⟨some 65, _, _, _, _, _⟩) (v := ?_) rfl (by kernel_rfl) (by kernel_rfl) (by kernel_rfl) (fun _ _ _ h => h) (Or.inl ⟨by kernel_rfl, ?_⟩) (by assumption) ?_
        rotate_left
        · (intro wS hSw; (try dsimp only at hSw); obtain ⟨a0, a1, a2, a3, a4⟩ := Blm.five hSw.1.b1; obtain ⟨c0, c1, c2, c3, c4⟩ := Blm.five hSw.1.b0; clear hSw; go_simp; (try with_reducible rfl))
        (try simp only [Act.put, List.setIfInBounds_toArray, List.set_cons_zero, List.set_cons_succ])
        refine wpAnyH_done (by kernel_rfl) ?_ _
        go_wp2_with fail
        go_meet
        exact ⟨rfl, hst.1⟩
      case rest =>
        obtain ⟨rfl, hM5⟩ := hcut
        cases z
        · have hr := Lib.hid (hno.out (by have := HZ.out; simpa using this))
          have HR := Lib.hid (show mfeq (n, f, t, r, d, ps) (n, f, t, r, d2, qs) = false from ne_mf (fun h => by simp only [Prod.mk.injEq] at h; have := hr.out; rw [decide_eq_false_iff_not] at this; exact this h.2.2.2.2.2))
          clear HZ hno hnx hr
          go_wp2_with fail
          go_ret
          exact ⟨by rw [HR.out] <;> rfl, hM5.bel⟩
        · have hr := Lib.hid (hnx.out (by have := HZ.out; simpa using this))
          clear HZ hno hnx
          go_wp2_with fail
          go_roundw
          case rel => exact ⟨k + 1, hlt, by go_num, hr, hM5⟩
          case measure => simp [intOf]; omega
    · have h5 := hall.out
      rw [List.take_of_length_le (by omega), List.take_of_length_le (by omega)] at h5
      have HR := Lib.hid (show mfeq (n, f, t, r, d, ps) (n, f, t, r, d2, qs) = true from eq_mf (by rw [HD.out, h5]))
      clear h5 hall
      go_wp2_with fail
      go_ret
      exact ⟨by rw [HR.out] <;> rfl, hMr.bel⟩
end Go.Proofs.Ytgfigkenpmmdeaa
