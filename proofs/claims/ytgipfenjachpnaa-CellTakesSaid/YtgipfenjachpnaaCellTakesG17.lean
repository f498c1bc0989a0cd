/- WHAT IT HOLDS: the document's taking of a cell, walked. -/
import Derived.Test.YtgipfenjachpnaaCellTakesG12
import Derived.Test.YtgipfenjachpnaaCellTakesG16
namespace Go.Proofs.Ytgipfenjachpnaa
open Go.RowKit
attribute [local go_sem ↓] Go.wp_at_zero Go.wp_at_succ

theorem res_dr {fn : Func} {a b : Nat} {tmps : Array Value} {w : World} {g g2 : Nat} {x y p q : Value} (hres : fn.results = #[.cell a 29, .cell b 63]) (ha : tmps.getD a undef = .pointer (some ⟨g, 0, none⟩)) (hb : tmps.getD b undef = .pointer (some ⟨g2, 0, none⟩)) (hB : Blk w g 29 #[x, y]) (hC : Blk w g2 63 #[p, q]) :
    (results fn tmps).run Try.prog w = .ok (.tuple #[.agg #[x, y], .agg #[p, q]]) w := by
  obtain ⟨b0, b1, _, _⟩ := hB.two
  obtain ⟨c0, c1, _, _⟩ := hC.two
  have ha' : tmps[a]?.getD undef = .pointer (some ⟨g, 0, none⟩) := by simpa using ha
  have hb' : tmps[b]?.getD undef = .pointer (some ⟨g2, 0, none⟩) := by simpa using hb
  simp [results, hres, go_sem, b0, b1, c0, c1, ha', hb']
/-- a cell of the document's, and the reader then -/
def RGivesC (B : Nat) (r : Ce × Rs) (w : World) (e : Ending) (w' : World) : Prop := ∃ v, e = .returned (.tuple #[dv r.1.1 r.1.2, v]) ∧ RV w' B v r.2 ∧ Below w.heap.size w w'
theorem rTextOf_v {A : Option Addr} {c : Nat} {s : Rs} (most : Int) (hm : -9223372036854775808 ≤ most ∧ most ≤ 9223372036854775807) (w : World) (hS : SlB w A c s.1) {B : Nat} (hBd : s.1 ≠ [] → ∀ ad, A = some ad → ad.block < B) : Calls Try.prog 71 #[rv A s.1.length c s.2, .int .i64 most] w (RGivesB B (rText most s) w) := by obtain ⟨l, b⟩ := s; exact rTextOf_any most hm w hS hBd
set_option maxRecDepth 100000 in
set_option maxHeartbeats 4000000 in
theorem rCTake_any {A : Option Addr} {c : Nat} {s : Rs} (w : World) (hS0 : SlB w A c s.1) {B : Nat} (hBd0 : s.1 ≠ [] → ∀ ad, A = some ad → ad.block < B) (hBB : B ≤ w.heap.size) (_hl : s.1.length ≤ 1000000) :
    Calls Try.prog 30 #[rv A s.1.length c s.2] w (RGivesC B (rCell s) w) := by
  go_enter Try.func30, Try.ntmps30
  go_upto_region 1 with (fail)
  have hG0 := ((Blk.new w 63 #[.slice A s.1.length c, .int .i64 (s.2 : Nat)]).alloc (.cells #[.int .i64 0, .string ⟨#[]⟩] 29)).alloc (.cells #[.slice none 0 0, .int .i64 0] 63)
  have hZ10 := (Blk.newAt (w := w.alloc (.cells #[.slice A s.1.length c, .int .i64 (s.2 : Nat)] 63)) (g := w.heap.size + 1) (by simp) 29 #[.int .i64 0, .string ⟨#[]⟩]).alloc (.cells #[.slice none 0 0, .int .i64 0] 63)
  have hZ20 := Blk.newAt (w := (w.alloc (.cells #[.slice A s.1.length c, .int .i64 (s.2 : Nat)] 63)).alloc (.cells #[.int .i64 0, .string ⟨#[]⟩] 29)) (g := w.heap.size + 1 + 1) (by simp) 63 #[.slice none 0 0, .int .i64 0]
  have hw0 := bel_alloc (bel_alloc (below_new w (.cells #[.slice A s.1.length c, .int .i64 (s.2 : Nat)] 63)) (.cells #[.int .i64 0, .string ⟨#[]⟩] 29)) (.cells #[.slice none 0 0, .int .i64 0] 63)
  generalize hWe : ((w.alloc (.cells #[.slice A s.1.length c, .int .i64 (s.2 : Nat)] 63)).alloc (.cells #[.int .i64 0, .string ⟨#[]⟩] 29)).alloc (.cells #[.slice none 0 0, .int .i64 0] 63) = w0 at *
  clear hWe
  have hW := rWithin_v (s := s) 3 _ (hS0.below hw0) hBd0
  have hk3 := rWithin_le 3 s
  have hl1 := rWithin_len 3 s
  have hraw : rCellRaw s = if (rWithin 3 s).1 = 1 then ((1, (rText 64 (rWithin 3 s).2).1), (rText 64 (rWithin 3 s).2).2) else ((((rWithin 3 s).1 : Int), []), (rWithin 3 s).2) := rfl
  generalize rWithin 3 s = p at *
  obtain ⟨k, s1⟩ := p
  dsimp only at *
  have HW := Lib.hid hW
  clear hW
  obtain ⟨a0, a1, af0, af1⟩ := hG0.two
  go_wp2_with fail
  refine HW.out.mono ?_
  rintro e w1 ⟨v, rfl, ⟨A1, c1, rfl, hS1, hBd⟩, hb1⟩
  dsimp only at hS1 hBd
  have hG1 := hG0.below hb1
  have hZ11 := hZ10.below hb1
  have hZ21 := hZ20.below hb1
  have hw1 := bel_call hw0 hb1
  clear HW hG0 hZ10 hZ20 hw0 hb1 a0 a1 af0 af1
  obtain ⟨a0, a1, af0, af1⟩ := hG1.two
  go_upto_region 2 with (fail)
  have hG2 := hG1.set2 (.slice A1 s1.1.length c1) (.int .i64 (s1.2 : Nat))
  have hZ12 := (hZ11.far (p := ⟨w.heap.size, 0, none⟩) (by dsimp only; omega) (.slice A1 s1.1.length c1)).far (p := ⟨w.heap.size, 1, none⟩) (by dsimp only; omega) (.int .i64 (s1.2 : Nat))
  have hZ22 := (hZ21.far (p := ⟨w.heap.size, 0, none⟩) (by dsimp only; omega) (.slice A1 s1.1.length c1)).far (p := ⟨w.heap.size, 1, none⟩) (by dsimp only; omega) (.int .i64 (s1.2 : Nat))
  have hw2 := bel_set (bel_set hw1 (p := ⟨w.heap.size, 0, none⟩) (by dsimp only; omega) (.slice A1 s1.1.length c1)) (p := ⟨w.heap.size, 1, none⟩) (by dsimp only; omega) (.int .i64 (s1.2 : Nat))
  have hS2 : SlB ((w1.setCell ⟨w.heap.size, 0, none⟩ (.slice A1 s1.1.length c1)).setCell ⟨w.heap.size, 1, none⟩ (.int .i64 (s1.2 : Nat))) A1 c1 s1.1 := SlB.wr hS1 hG1 (slice_ne _ _ _) (inti_ne _) (((Wr.refl _ _).set_ 0 _).set_ 1 _)
  clear hG1 hZ11 hZ21 hw1 hS1 a0 a1 af0 af1
  generalize hWe : (w1.setCell ⟨w.heap.size, 0, none⟩ (.slice A1 s1.1.length c1)).setCell ⟨w.heap.size, 1, none⟩ (.int .i64 (s1.2 : Nat)) = w2 at *
  clear hWe
  go_upto_region 3 with (fail)
  have hbx := below_new w2 (.cells #[.int .i64 (k : Nat), .string ⟨#[]⟩] 29)
  have hX := Blk.new w2 29 #[.int .i64 (k : Nat), .string ⟨#[]⟩]
  have hgx := hZ22.lt
  have hG := hG2.below hbx
  have hZ1 := hZ12.below hbx
  have hZ2 := hZ22.below hbx
  have hw := bel_call hw2 hbx
  have hS := Sl.below hS2 hbx
  clear hG2 hZ12 hZ22 hw2 hS2 hbx
  generalize hWe : w2.alloc (.cells #[.int .i64 (k : Nat), .string ⟨#[]⟩] 29) = w3 at *
  clear hWe
  generalize hge : w2.heap.size = gx at *
  clear hge
  obtain ⟨a0, a1, af0, af1⟩ := hG.two
  by_cases hk1 : k = 1
  · have hkb : ((k : Int) == 1) = true := by rw [hk1]; rfl
    rw [if_pos hk1] at hraw
    have hT := rTextOf_v (s := s1) 64 (by omega) _ hS hBd
    obtain ⟨d, s5, hd5⟩ : ∃ d s, rText 64 s1 = (d, s) := ⟨_, _, rfl⟩
    rw [hd5] at hT hraw
    dsimp only at hraw
    have HT5 := Lib.hid hT
    have hki : (k : Int) = 1 := by omega
    have HRAW : Hid (rCellRaw s = (((k : Int), d), s5)) := (show _ = _ from by rw [hraw, hki])
    clear hT hraw hd5 hk1 hki
    go_wp2_with fail
    refine HT5.out.mono ?_
    rintro e w5 ⟨A8, c8, m8, v, rfl, hm8, hS8, ⟨A5, c5, rfl, hS5, hBd5⟩, hb5⟩
    dsimp only at hm8 hS5 hBd5
    obtain rfl := hm8.out
    have hlt0 : w.heap.size < w5.heap.size := (hG.below hb5).lt
    have hG5 := hG.below hb5
    have hZ15 := hZ1.below hb5
    have hZ25 := hZ2.below hb5
    have hX5 := hX.below hb5
    have hw5 := bel_call hw hb5
    clear hG hZ1 hZ2 hX hw hS hBd hb5 a0 a1 af0 af1 HT5 hm8
    have hBd := hBd5
    clear hBd5
    obtain ⟨a0, a1, af0, af1⟩ := hG5.two
    go_upto_region 6 with (fail)
    obtain ⟨W6, hW6⟩ : ∃ W6, W6 = (w5.setCell ⟨w.heap.size, 0, none⟩ (.slice A5 s5.1.length c5)).setCell ⟨w.heap.size, 1, none⟩ (.int .i64 (s5.2 : Nat)) := ⟨_, rfl⟩
    have hG6 : Blk W6 w.heap.size 63 #[.slice A5 s5.1.length c5, .int .i64 (s5.2 : Nat)] := by rw [hW6]; exact hG5.set2 _ _
    have hZ16 : Blk W6 (w.heap.size + 1) 29 #[.int .i64 0, .string ⟨#[]⟩] := by rw [hW6]; exact (hZ15.far (by dsimp only; omega) _).far (by dsimp only; omega) _
    have hZ26 : Blk W6 (w.heap.size + 1 + 1) 63 #[.slice none 0 0, .int .i64 0] := by rw [hW6]; exact (hZ25.far (by dsimp only; omega) _).far (by dsimp only; omega) _
    have hX6 : Blk W6 gx 29 #[.int .i64 (k : Nat), .string ⟨#[]⟩] := by rw [hW6]; exact (hX5.far (by dsimp only; omega) _).far (by dsimp only; omega) _
    have hw6 : Below w.heap.size w W6 := by rw [hW6]; exact bel_set (bel_set hw5 (by dsimp only; omega) _) (by dsimp only; omega) _
    have hS6 : SlB W6 A5 c5 s5.1 := by rw [hW6]; exact SlB.wr hS5 hG5 (slice_ne _ _ _) (inti_ne _) (((Wr.refl _ _).set_ 0 _).set_ 1 _)
    have hM6 : SlB W6 A8 c8 m8 := by rw [hW6]; exact SlB.wr hS8 hG5 (slice_ne _ _ _) (inti_ne _) (((Wr.refl _ _).set_ 0 _).set_ 1 _)
    rw [← hW6]
    clear hW6 hG5 hZ15 hZ25 hX5 hw5 hS5 hS8 a0 a1 af0 af1
    have hbx := below_new W6 (.cells #[.slice A5 s5.1.length c5, .int .i64 (s5.2 : Nat)] 63)
    have hG7 := hG6.below hbx
    have hZ17 := hZ16.below hbx
    have hZ27 := hZ26.below hbx
    have hX7 := hX6.below hbx
    have hw7 := bel_call hw6 hbx
    have hS7 := Sl.below hS6 hbx
    have hM7 := Sl.below hM6 hbx
    clear hG6 hZ16 hZ26 hX6 hw6 hS6 hM6 hbx
    generalize hWe : W6.alloc (.cells #[.slice A5 s5.1.length c5, .int .i64 (s5.2 : Nat)] 63) = w7 at *
    clear hWe
    have hcv := conv_str (P := Try.prog) 22 9 5 Try.underlying22 Try.underlying5 Try.underlying9 hM7 rfl
    obtain ⟨x0, x1, xf0, xf1⟩ := hX7.two
    go_upto_region 7 with (fail)
    have hX : Blk (w7.setCell ⟨gx, 1, none⟩ (.string ⟨m8.toArray⟩)) gx 29 #[.int .i64 (k : Nat), .string ⟨m8.toArray⟩] := by simpa using hX7.set_ 1 (.string ⟨m8.toArray⟩)
    have hG := hG7.far (p := ⟨gx, 1, none⟩) (by dsimp only; omega) (.string ⟨m8.toArray⟩)
    have hZ1 := hZ17.far (p := ⟨gx, 1, none⟩) (by dsimp only; omega) (.string ⟨m8.toArray⟩)
    have hZ2 := hZ27.far (p := ⟨gx, 1, none⟩) (by dsimp only; omega) (.string ⟨m8.toArray⟩)
    have hw := bel_set hw7 (p := ⟨gx, 1, none⟩) (by dsimp only; omega) (.string ⟨m8.toArray⟩)
    have hS : SlB (w7.setCell ⟨gx, 1, none⟩ (.string ⟨m8.toArray⟩)) A5 c5 s5.1 := SlB.apart hS7 hBd hBB (Below.setCell (p := ⟨gx, 1, none⟩) (Below.refl _ _) (by dsimp only; omega) _)
    clear hX7 hG7 hZ17 hZ27 hw7 hS7 hM7 hcv x0 x1 xf0 xf1
    generalize hWe : w7.setCell ⟨gx, 1, none⟩ (.string ⟨m8.toArray⟩) = w8 at *
    clear hWe
    obtain ⟨a0, a1, af0, af1⟩ := hG.two
    rcases Decidable.em (s5.2 = 0) with hb | hb
    · have hbb : (((s5.2 : Nat) : Int) != 0) = false := by simp [hb]
      have HT := Lib.hid (show rCell s = (((k : Int), m8), s5) from by unfold rCell; rw [HRAW.out, if_neg (by simpa using hb)])
      clear hb
      -- the cell ((k : Int), m8) stands in block gx, the reader s5 in block w.heap.size, both results' blocks are zero
      have hst : Blk _ w.heap.size 63 #[.slice A5 (s5).1.length c5, .int .i64 ((s5).2 : Nat)] ∧ Blk _ gx 29 #[.int .i64 (k : Int), .string ⟨(m8).toArray⟩] ∧ Below w.heap.size w _ := ⟨hG.drew, hX.drew, hw.drew⟩
      have hst1 := hZ1.drew
      have hst2 := hZ2.drew
      have hst3 := Sl.drewN hS 1
      go_upto_region 9 with (fail)
      refine wp_region_held_drew (S := (fun W' => Blk W' w.heap.size 63 #[.slice A5 (s5).1.length c5, .int .i64 ((s5).2 : Nat)] ∧ Blk W' gx 29 #[.int .i64 (k : Int), .string ⟨(m8).toArray⟩] ∧ Below w.heap.size w W')) (by kernel_rfl) ?_ (fun hHeld => ?_)
      · exact hst
      refine gen0 (T := fun W => ((fun W' => Blk W' w.heap.size 63 #[.slice A5 (s5).1.length c5, .int .i64 ((s5).2 : Nat)] ∧ Blk W' gx 29 #[.int .i64 (k : Int), .string ⟨(m8).toArray⟩] ∧ Below w.heap.size w W')) W ∧ Blk W (w.heap.size + 1) 29 #[.int .i64 0, .string ⟨#[]⟩] ∧ Blk W (w.heap.size + 1 + 1) 63 #[.slice none 0 0, .int .i64 0] ∧ SlB W A5 c5 (s5).1 ∧ True) ?_ (fun wq1 hT => ?_)
      · exact ⟨by (first | exact hst | exact hHeld | exact ⟨(hHeld.1.far (by first | omega | (dsimp only; omega)) _).far (by first | omega | (dsimp only; omega)) _, (hHeld.2.1.far (by first | omega | (dsimp only; omega)) _).far (by first | omega | (dsimp only; omega)) _, bel_set (bel_set hHeld.2.2 (by first | omega | (dsimp only; omega)) _) (by first | omega | (dsimp only; omega)) _⟩), by (first | assumption | exact hst1 | exact hst2 | exact hst3 | exact SlB.apart f2 hBd hBB (Below.setCell (Below.setCell (Below.refl _ _) (by first | omega | (dsimp only; omega)) _) (by first | omega | (dsimp only; omega)) _) | exact SlB.apart f1 hBd hBB (Below.setCell (Below.setCell (Below.refl _ _) (by first | omega | (dsimp only; omega)) _) (by first | omega | (dsimp only; omega)) _) | exact f0.set2 _ _ | exact f1.set2 _ _ | exact (f0.far (by first | omega | (dsimp only; omega)) _).far (by first | omega | (dsimp only; omega)) _ | exact (f1.far (by first | omega | (dsimp only; omega)) _).far (by first | omega | (dsimp only; omega)) _ | exact (f2.far (by first | omega | (dsimp only; omega)) _).far (by first | omega | (dsimp only; omega)) _), by (first | assumption | exact hst1 | exact hst2 | exact hst3 | exact SlB.apart f2 hBd hBB (Below.setCell (Below.setCell (Below.refl _ _) (by first | omega | (dsimp only; omega)) _) (by first | omega | (dsimp only; omega)) _) | exact SlB.apart f1 hBd hBB (Below.setCell (Below.setCell (Below.refl _ _) (by first | omega | (dsimp only; omega)) _) (by first | omega | (dsimp only; omega)) _) | exact f0.set2 _ _ | exact f1.set2 _ _ | exact (f0.far (by first | omega | (dsimp only; omega)) _).far (by first | omega | (dsimp only; omega)) _ | exact (f1.far (by first | omega | (dsimp only; omega)) _).far (by first | omega | (dsimp only; omega)) _ | exact (f2.far (by first | omega | (dsimp only; omega)) _).far (by first | omega | (dsimp only; omega)) _), by (first | assumption | exact hst1 | exact hst2 | exact hst3 | exact SlB.apart f2 hBd hBB (Below.setCell (Below.setCell (Below.refl _ _) (by first | omega | (dsimp only; omega)) _) (by first | omega | (dsimp only; omega)) _) | exact SlB.apart f1 hBd hBB (Below.setCell (Below.setCell (Below.refl _ _) (by first | omega | (dsimp only; omega)) _) (by first | omega | (dsimp only; omega)) _) | exact f0.set2 _ _ | exact f1.set2 _ _ | exact (f0.far (by first | omega | (dsimp only; omega)) _).far (by first | omega | (dsimp only; omega)) _ | exact (f1.far (by first | omega | (dsimp only; omega)) _).far (by first | omega | (dsimp only; omega)) _ | exact (f2.far (by first | omega | (dsimp only; omega)) _).far (by first | omega | (dsimp only; omega)) _), trivial⟩
      (try clear f0 f1 f2 f3 f4 f5 f6 f7 f8 f9 f10 f11)
      obtain ⟨hHeld, f0, f1, f2, -⟩ := hT
      refine wpAnyH_take (i := 0) (oi := ⟨some 31, _, _, _, _, _⟩) (v := ?_) rfl (by kernel_rfl) (by kernel_rfl) (by kernel_rfl) (fun _ _ _ h => h) (Or.inl ⟨by kernel_rfl, ?_⟩) (by assumption) ?_
      rotate_left
      · (intro wS hSw; (try dsimp only at hSw); obtain ⟨q0, q1, _, _⟩ := hSw.1.two; obtain ⟨p0, p1, _, _⟩ := hSw.2.1.two; clear hSw; go_simp; (try with_reducible rfl))
      (try simp only [Act.put, List.setIfInBounds_toArray, List.set_cons_zero, List.set_cons_succ])
      refine wpAnyH_take (i := 1) (oi := ⟨some 32, _, _, _, _, _⟩) (v := ?_) rfl (by kernel_rfl) (by kernel_rfl) (by kernel_rfl) (fun _ _ _ h => h) (Or.inl ⟨by kernel_rfl, ?_⟩) (by assumption) ?_
      rotate_left
      · (intro wS hSw; (try dsimp only at hSw); obtain ⟨q0, q1, _, _⟩ := hSw.1.two; obtain ⟨p0, p1, _, _⟩ := hSw.2.1.two; clear hSw; go_simp; (try with_reducible rfl))
      (try simp only [Act.put, List.setIfInBounds_toArray, List.set_cons_zero, List.set_cons_succ])
      refine wpAnyH_ready (rs := [2]) (by kernel_rfl) (by simp) ?_
      refine AllReadyH.cons (o := ⟨none, _, _, _, _, _⟩) rfl (fun K hK => ?_) AllReadyH.nil
      obtain ⟨y0, y1, yf0, yf1⟩ := f0.two; (try obtain ⟨z0, z1, zf0, zf1⟩ := f1.two)
      go_simp
      refine hK.out _ _ ?_ (fun _ => ?_)
      · ((try dsimp only); (first | exact hst | exact hHeld | exact ⟨(hHeld.1.far (by first | omega | (dsimp only; omega)) _).far (by first | omega | (dsimp only; omega)) _, (hHeld.2.1.far (by first | omega | (dsimp only; omega)) _).far (by first | omega | (dsimp only; omega)) _, bel_set (bel_set hHeld.2.2 (by first | omega | (dsimp only; omega)) _) (by first | omega | (dsimp only; omega)) _⟩))
      clear hK K
      (try simp only [Act.put, List.setIfInBounds_toArray, List.set_cons_zero, List.set_cons_succ])
      refine gen0 (T := fun W => ((fun W' => Blk W' w.heap.size 63 #[.slice A5 (s5).1.length c5, .int .i64 ((s5).2 : Nat)] ∧ Blk W' gx 29 #[.int .i64 (k : Int), .string ⟨(m8).toArray⟩] ∧ Below w.heap.size w W')) W ∧ Blk W (w.heap.size + 1 + 1) 63 #[.slice none 0 0, .int .i64 0] ∧ SlB W A5 c5 (s5).1 ∧ Blk W (w.heap.size + 1) 29 #[.int .i64 (k : Int), .string ⟨(m8).toArray⟩] ∧ True) ?_ (fun wq2 hT => ?_)
      · exact ⟨by (first | exact hst | exact hHeld | exact ⟨(hHeld.1.far (by first | omega | (dsimp only; omega)) _).far (by first | omega | (dsimp only; omega)) _, (hHeld.2.1.far (by first | omega | (dsimp only; omega)) _).far (by first | omega | (dsimp only; omega)) _, bel_set (bel_set hHeld.2.2 (by first | omega | (dsimp only; omega)) _) (by first | omega | (dsimp only; omega)) _⟩), by (first | assumption | exact hst1 | exact hst2 | exact hst3 | exact SlB.apart f2 hBd hBB (Below.setCell (Below.setCell (Below.refl _ _) (by first | omega | (dsimp only; omega)) _) (by first | omega | (dsimp only; omega)) _) | exact SlB.apart f1 hBd hBB (Below.setCell (Below.setCell (Below.refl _ _) (by first | omega | (dsimp only; omega)) _) (by first | omega | (dsimp only; omega)) _) | exact f0.set2 _ _ | exact f1.set2 _ _ | exact (f0.far (by first | omega | (dsimp only; omega)) _).far (by first | omega | (dsimp only; omega)) _ | exact (f1.far (by first | omega | (dsimp only; omega)) _).far (by first | omega | (dsimp only; omega)) _ | exact (f2.far (by first | omega | (dsimp only; omega)) _).far (by first | omega | (dsimp only; omega)) _), by (first | assumption | exact hst1 | exact hst2 | exact hst3 | exact SlB.apart f2 hBd hBB (Below.setCell (Below.setCell (Below.refl _ _) (by first | omega | (dsimp only; omega)) _) (by first | omega | (dsimp only; omega)) _) | exact SlB.apart f1 hBd hBB (Below.setCell (Below.setCell (Below.refl _ _) (by first | omega | (dsimp only; omega)) _) (by first | omega | (dsimp only; omega)) _) | exact f0.set2 _ _ | exact f1.set2 _ _ | exact (f0.far (by first | omega | (dsimp only; omega)) _).far (by first | omega | (dsimp only; omega)) _ | exact (f1.far (by first | omega | (dsimp only; omega)) _).far (by first | omega | (dsimp only; omega)) _ | exact (f2.far (by first | omega | (dsimp only; omega)) _).far (by first | omega | (dsimp only; omega)) _), by (first | assumption | exact hst1 | exact hst2 | exact hst3 | exact SlB.apart f2 hBd hBB (Below.setCell (Below.setCell (Below.refl _ _) (by first | omega | (dsimp only; omega)) _) (by first | omega | (dsimp only; omega)) _) | exact SlB.apart f1 hBd hBB (Below.setCell (Below.setCell (Below.refl _ _) (by first | omega | (dsimp only; omega)) _) (by first | omega | (dsimp only; omega)) _) | exact f0.set2 _ _ | exact f1.set2 _ _ | exact (f0.far (by first | omega | (dsimp only; omega)) _).far (by first | omega | (dsimp only; omega)) _ | exact (f1.far (by first | omega | (dsimp only; omega)) _).far (by first | omega | (dsimp only; omega)) _ | exact (f2.far (by first | omega | (dsimp only; omega)) _).far (by first | omega | (dsimp only; omega)) _), trivial⟩
      (try clear f0 f1 f2 f3 f4 f5 f6 f7 f8 f9 f10 f11)
      obtain ⟨hHeld, f0, f1, f2, -⟩ := hT
      refine wpAnyH_ready (rs := [3]) (by kernel_rfl) (by simp) ?_
      refine AllReadyH.cons (o := ⟨none, _, _, _, _, _⟩) rfl (fun K hK => ?_) AllReadyH.nil
      obtain ⟨y0, y1, yf0, yf1⟩ := f0.two; (try obtain ⟨z0, z1, zf0, zf1⟩ := f1.two)
      go_simp
      refine hK.out _ _ ?_ (fun _ => ?_)
      · ((try dsimp only); (first | exact hst | exact hHeld | exact ⟨(hHeld.1.far (by first | omega | (dsimp only; omega)) _).far (by first | omega | (dsimp only; omega)) _, (hHeld.2.1.far (by first | omega | (dsimp only; omega)) _).far (by first | omega | (dsimp only; omega)) _, bel_set (bel_set hHeld.2.2 (by first | omega | (dsimp only; omega)) _) (by first | omega | (dsimp only; omega)) _⟩))
      clear hK K
      (try simp only [Act.put, List.setIfInBounds_toArray, List.set_cons_zero, List.set_cons_succ])
      refine gen0 (T := fun W => ((fun W' => Blk W' w.heap.size 63 #[.slice A5 (s5).1.length c5, .int .i64 ((s5).2 : Nat)] ∧ Blk W' gx 29 #[.int .i64 (k : Int), .string ⟨(m8).toArray⟩] ∧ Below w.heap.size w W')) W ∧ SlB W A5 c5 (s5).1 ∧ Blk W (w.heap.size + 1) 29 #[.int .i64 (k : Int), .string ⟨(m8).toArray⟩] ∧ Blk W (w.heap.size + 1 + 1) 63 #[.slice A5 (s5).1.length c5, .int .i64 ((s5).2 : Nat)] ∧ True) ?_ (fun wq3 hT => ?_)
      · exact ⟨by (first | exact hst | exact hHeld | exact ⟨(hHeld.1.far (by first | omega | (dsimp only; omega)) _).far (by first | omega | (dsimp only; omega)) _, (hHeld.2.1.far (by first | omega | (dsimp only; omega)) _).far (by first | omega | (dsimp only; omega)) _, bel_set (bel_set hHeld.2.2 (by first | omega | (dsimp only; omega)) _) (by first | omega | (dsimp only; omega)) _⟩), by (first | assumption | exact hst1 | exact hst2 | exact hst3 | exact SlB.apart f2 hBd hBB (Below.setCell (Below.setCell (Below.refl _ _) (by first | omega | (dsimp only; omega)) _) (by first | omega | (dsimp only; omega)) _) | exact SlB.apart f1 hBd hBB (Below.setCell (Below.setCell (Below.refl _ _) (by first | omega | (dsimp only; omega)) _) (by first | omega | (dsimp only; omega)) _) | exact f0.set2 _ _ | exact f1.set2 _ _ | exact (f0.far (by first | omega | (dsimp only; omega)) _).far (by first | omega | (dsimp only; omega)) _ | exact (f1.far (by first | omega | (dsimp only; omega)) _).far (by first | omega | (dsimp only; omega)) _ | exact (f2.far (by first | omega | (dsimp only; omega)) _).far (by first | omega | (dsimp only; omega)) _), by (first | assumption | exact hst1 | exact hst2 | exact hst3 | exact SlB.apart f2 hBd hBB (Below.setCell (Below.setCell (Below.refl _ _) (by first | omega | (dsimp only; omega)) _) (by first | omega | (dsimp only; omega)) _) | exact SlB.apart f1 hBd hBB (Below.setCell (Below.setCell (Below.refl _ _) (by first | omega | (dsimp only; omega)) _) (by first | omega | (dsimp only; omega)) _) | exact f0.set2 _ _ | exact f1.set2 _ _ | exact (f0.far (by first | omega | (dsimp only; omega)) _).far (by first | omega | (dsimp only; omega)) _ | exact (f1.far (by first | omega | (dsimp only; omega)) _).far (by first | omega | (dsimp only; omega)) _ | exact (f2.far (by first | omega | (dsimp only; omega)) _).far (by first | omega | (dsimp only; omega)) _), by (first | assumption | exact hst1 | exact hst2 | exact hst3 | exact SlB.apart f2 hBd hBB (Below.setCell (Below.setCell (Below.refl _ _) (by first | omega | (dsimp only; omega)) _) (by first | omega | (dsimp only; omega)) _) | exact SlB.apart f1 hBd hBB (Below.setCell (Below.setCell (Below.refl _ _) (by first | omega | (dsimp only; omega)) _) (by first | omega | (dsimp only; omega)) _) | exact f0.set2 _ _ | exact f1.set2 _ _ | exact (f0.far (by first | omega | (dsimp only; omega)) _).far (by first | omega | (dsimp only; omega)) _ | exact (f1.far (by first | omega | (dsimp only; omega)) _).far (by first | omega | (dsimp only; omega)) _ | exact (f2.far (by first | omega | (dsimp only; omega)) _).far (by first | omega | (dsimp only; omega)) _), trivial⟩
      (try clear f0 f1 f2 f3 f4 f5 f6 f7 f8 f9 f10 f11)
      obtain ⟨hHeld, f0, f1, f2, -⟩ := hT
      refine wpAnyH_done (by kernel_rfl) ?_ _
      go_wp2_with fail
      exact bodyPost_ret (res_dr rfl rfl rfl (g := w.heap.size + 1) (g2 := w.heap.size + 1 + 1) f1 f2) rfl ⟨_, by rw [HT.out] <;> rfl, by rw [HT.out]; exact ⟨A5, c5, rfl, f0, hBd⟩, hHeld.2.2⟩
    · have hbb : (((s5.2 : Nat) : Int) != 0) = true := by simp; omega
      have HT := Lib.hid (show rCell s = ((0, []), s5) from by unfold rCell; rw [HRAW.out, if_pos hb])
      clear hb
      -- the cell ((k : Int), m8) stands in block gx, the reader s5 in block w.heap.size, both results' blocks are zero
      have hst : Blk _ w.heap.size 63 #[.slice A5 (s5).1.length c5, .int .i64 ((s5).2 : Nat)] ∧ Blk _ gx 29 #[.int .i64 (k : Int), .string ⟨(m8).toArray⟩] ∧ Below w.heap.size w _ := ⟨hG.drew, hX.drew, hw.drew⟩
      have hst1 := hZ1.drew
      have hst2 := hZ2.drew
      have hst3 := Sl.drewN hS 1
      go_upto_region 8 with (fail)
      refine wp_region_held_drew (S := (fun W' => Blk W' w.heap.size 63 #[.slice A5 (s5).1.length c5, .int .i64 ((s5).2 : Nat)] ∧ Blk W' gx 29 #[.int .i64 (k : Int), .string ⟨(m8).toArray⟩] ∧ Below w.heap.size w W')) (by kernel_rfl) ?_ (fun hHeld => ?_)
      · exact hst
      refine gen0 (T := fun W => ((fun W' => Blk W' w.heap.size 63 #[.slice A5 (s5).1.length c5, .int .i64 ((s5).2 : Nat)] ∧ Blk W' gx 29 #[.int .i64 (k : Int), .string ⟨(m8).toArray⟩] ∧ Below w.heap.size w W')) W ∧ Blk W (w.heap.size + 1) 29 #[.int .i64 0, .string ⟨#[]⟩] ∧ Blk W (w.heap.size + 1 + 1) 63 #[.slice none 0 0, .int .i64 0] ∧ SlB W A5 c5 (s5).1 ∧ True) ?_ (fun wq1 hT => ?_)
      · exact ⟨by (first | exact hst | exact hHeld | exact ⟨(hHeld.1.far (by first | omega | (dsimp only; omega)) _).far (by first | omega | (dsimp only; omega)) _, (hHeld.2.1.far (by first | omega | (dsimp only; omega)) _).far (by first | omega | (dsimp only; omega)) _, bel_set (bel_set hHeld.2.2 (by first | omega | (dsimp only; omega)) _) (by first | omega | (dsimp only; omega)) _⟩), by (first | assumption | exact hst1 | exact hst2 | exact hst3 | exact SlB.apart f2 hBd hBB (Below.setCell (Below.setCell (Below.refl _ _) (by first | omega | (dsimp only; omega)) _) (by first | omega | (dsimp only; omega)) _) | exact SlB.apart f1 hBd hBB (Below.setCell (Below.setCell (Below.refl _ _) (by first | omega | (dsimp only; omega)) _) (by first | omega | (dsimp only; omega)) _) | exact f0.set2 _ _ | exact f1.set2 _ _ | exact (f0.far (by first | omega | (dsimp only; omega)) _).far (by first | omega | (dsimp only; omega)) _ | exact (f1.far (by first | omega | (dsimp only; omega)) _).far (by first | omega | (dsimp only; omega)) _ | exact (f2.far (by first | omega | (dsimp only; omega)) _).far (by first | omega | (dsimp only; omega)) _), by (first | assumption | exact hst1 | exact hst2 | exact hst3 | exact SlB.apart f2 hBd hBB (Below.setCell (Below.setCell (Below.refl _ _) (by first | omega | (dsimp only; omega)) _) (by first | omega | (dsimp only; omega)) _) | exact SlB.apart f1 hBd hBB (Below.setCell (Below.setCell (Below.refl _ _) (by first | omega | (dsimp only; omega)) _) (by first | omega | (dsimp only; omega)) _) | exact f0.set2 _ _ | exact f1.set2 _ _ | exact (f0.far (by first | omega | (dsimp only; omega)) _).far (by first | omega | (dsimp only; omega)) _ | exact (f1.far (by first | omega | (dsimp only; omega)) _).far (by first | omega | (dsimp only; omega)) _ | exact (f2.far (by first | omega | (dsimp only; omega)) _).far (by first | omega | (dsimp only; omega)) _), by (first | assumption | exact hst1 | exact hst2 | exact hst3 | exact SlB.apart f2 hBd hBB (Below.setCell (Below.setCell (Below.refl _ _) (by first | omega | (dsimp only; omega)) _) (by first | omega | (dsimp only; omega)) _) | exact SlB.apart f1 hBd hBB (Below.setCell (Below.setCell (Below.refl _ _) (by first | omega | (dsimp only; omega)) _) (by first | omega | (dsimp only; omega)) _) | exact f0.set2 _ _ | exact f1.set2 _ _ | exact (f0.far (by first | omega | (dsimp only; omega)) _).far (by first | omega | (dsimp only; omega)) _ | exact (f1.far (by first | omega | (dsimp only; omega)) _).far (by first | omega | (dsimp only; omega)) _ | exact (f2.far (by first | omega | (dsimp only; omega)) _).far (by first | omega | (dsimp only; omega)) _), trivial⟩
      (try clear f0 f1 f2 f3 f4 f5 f6 f7 f8 f9 f10 f11)
      obtain ⟨hHeld, f0, f1, f2, -⟩ := hT
      refine wpAnyH_take (i := 0) (oi := ⟨some 29, _, _, _, _, _⟩) (v := ?_) rfl (by kernel_rfl) (by kernel_rfl) (by kernel_rfl) (fun _ _ _ h => h) (Or.inl ⟨by kernel_rfl, ?_⟩) (by assumption) ?_
      rotate_left
      · (intro wS hSw; (try dsimp only at hSw); obtain ⟨q0, q1, _, _⟩ := hSw.1.two; obtain ⟨p0, p1, _, _⟩ := hSw.2.1.two; clear hSw; go_simp; (try with_reducible rfl))
      (try simp only [Act.put, List.setIfInBounds_toArray, List.set_cons_zero, List.set_cons_succ])
      refine wpAnyH_take (i := 1) (oi := ⟨some 30, _, _, _, _, _⟩) (v := ?_) rfl (by kernel_rfl) (by kernel_rfl) (by kernel_rfl) (fun _ _ _ h => h) (Or.inl ⟨by kernel_rfl, ?_⟩) (by assumption) ?_
      rotate_left
      · (intro wS hSw; (try dsimp only at hSw); obtain ⟨q0, q1, _, _⟩ := hSw.1.two; obtain ⟨p0, p1, _, _⟩ := hSw.2.1.two; clear hSw; go_simp; (try with_reducible rfl))
      (try simp only [Act.put, List.setIfInBounds_toArray, List.set_cons_zero, List.set_cons_succ])
      refine wpAnyH_ready (rs := [2]) (by kernel_rfl) (by simp) ?_
      refine AllReadyH.cons (o := ⟨none, _, _, _, _, _⟩) rfl (fun K hK => ?_) AllReadyH.nil
      obtain ⟨y0, y1, yf0, yf1⟩ := f0.two; (try obtain ⟨z0, z1, zf0, zf1⟩ := f1.two)
      go_simp
      refine hK.out _ _ ?_ (fun _ => ?_)
      · ((try dsimp only); (first | exact hst | exact hHeld | exact ⟨(hHeld.1.far (by first | omega | (dsimp only; omega)) _).far (by first | omega | (dsimp only; omega)) _, (hHeld.2.1.far (by first | omega | (dsimp only; omega)) _).far (by first | omega | (dsimp only; omega)) _, bel_set (bel_set hHeld.2.2 (by first | omega | (dsimp only; omega)) _) (by first | omega | (dsimp only; omega)) _⟩))
      clear hK K
      (try simp only [Act.put, List.setIfInBounds_toArray, List.set_cons_zero, List.set_cons_succ])
      refine gen0 (T := fun W => ((fun W' => Blk W' w.heap.size 63 #[.slice A5 (s5).1.length c5, .int .i64 ((s5).2 : Nat)] ∧ Blk W' gx 29 #[.int .i64 (k : Int), .string ⟨(m8).toArray⟩] ∧ Below w.heap.size w W')) W ∧ Blk W (w.heap.size + 1 + 1) 63 #[.slice none 0 0, .int .i64 0] ∧ SlB W A5 c5 (s5).1 ∧ Blk W (w.heap.size + 1) 29 #[.int .i64 0, .string ⟨(([] : List UInt8)).toArray⟩] ∧ True) ?_ (fun wq2 hT => ?_)
      · exact ⟨by (first | exact hst | exact hHeld | exact ⟨(hHeld.1.far (by first | omega | (dsimp only; omega)) _).far (by first | omega | (dsimp only; omega)) _, (hHeld.2.1.far (by first | omega | (dsimp only; omega)) _).far (by first | omega | (dsimp only; omega)) _, bel_set (bel_set hHeld.2.2 (by first | omega | (dsimp only; omega)) _) (by first | omega | (dsimp only; omega)) _⟩), by (first | assumption | exact hst1 | exact hst2 | exact hst3 | exact SlB.apart f2 hBd hBB (Below.setCell (Below.setCell (Below.refl _ _) (by first | omega | (dsimp only; omega)) _) (by first | omega | (dsimp only; omega)) _) | exact SlB.apart f1 hBd hBB (Below.setCell (Below.setCell (Below.refl _ _) (by first | omega | (dsimp only; omega)) _) (by first | omega | (dsimp only; omega)) _) | exact f0.set2 _ _ | exact f1.set2 _ _ | exact (f0.far (by first | omega | (dsimp only; omega)) _).far (by first | omega | (dsimp only; omega)) _ | exact (f1.far (by first | omega | (dsimp only; omega)) _).far (by first | omega | (dsimp only; omega)) _ | exact (f2.far (by first | omega | (dsimp only; omega)) _).far (by first | omega | (dsimp only; omega)) _), by (first | assumption | exact hst1 | exact hst2 | exact hst3 | exact SlB.apart f2 hBd hBB (Below.setCell (Below.setCell (Below.refl _ _) (by first | omega | (dsimp only; omega)) _) (by first | omega | (dsimp only; omega)) _) | exact SlB.apart f1 hBd hBB (Below.setCell (Below.setCell (Below.refl _ _) (by first | omega | (dsimp only; omega)) _) (by first | omega | (dsimp only; omega)) _) | exact f0.set2 _ _ | exact f1.set2 _ _ | exact (f0.far (by first | omega | (dsimp only; omega)) _).far (by first | omega | (dsimp only; omega)) _ | exact (f1.far (by first | omega | (dsimp only; omega)) _).far (by first | omega | (dsimp only; omega)) _ | exact (f2.far (by first | omega | (dsimp only; omega)) _).far (by first | omega | (dsimp only; omega)) _), by (first | assumption | exact hst1 | exact hst2 | exact hst3 | exact SlB.apart f2 hBd hBB (Below.setCell (Below.setCell (Below.refl _ _) (by first | omega | (dsimp only; omega)) _) (by first | omega | (dsimp only; omega)) _) | exact SlB.apart f1 hBd hBB (Below.setCell (Below.setCell (Below.refl _ _) (by first | omega | (dsimp only; omega)) _) (by first | omega | (dsimp only; omega)) _) | exact f0.set2 _ _ | exact f1.set2 _ _ | exact (f0.far (by first | omega | (dsimp only; omega)) _).far (by first | omega | (dsimp only; omega)) _ | exact (f1.far (by first | omega | (dsimp only; omega)) _).far (by first | omega | (dsimp only; omega)) _ | exact (f2.far (by first | omega | (dsimp only; omega)) _).far (by first | omega | (dsimp only; omega)) _), trivial⟩
      (try clear f0 f1 f2 f3 f4 f5 f6 f7 f8 f9 f10 f11)
      obtain ⟨hHeld, f0, f1, f2, -⟩ := hT
      refine wpAnyH_ready (rs := [3]) (by kernel_rfl) (by simp) ?_
      refine AllReadyH.cons (o := ⟨none, _, _, _, _, _⟩) rfl (fun K hK => ?_) AllReadyH.nil
      obtain ⟨y0, y1, yf0, yf1⟩ := f0.two; (try obtain ⟨z0, z1, zf0, zf1⟩ := f1.two)
      go_simp
      refine hK.out _ _ ?_ (fun _ => ?_)
      · ((try dsimp only); (first | exact hst | exact hHeld | exact ⟨(hHeld.1.far (by first | omega | (dsimp only; omega)) _).far (by first | omega | (dsimp only; omega)) _, (hHeld.2.1.far (by first | omega | (dsimp only; omega)) _).far (by first | omega | (dsimp only; omega)) _, bel_set (bel_set hHeld.2.2 (by first | omega | (dsimp only; omega)) _) (by first | omega | (dsimp only; omega)) _⟩))
      clear hK K
      (try simp only [Act.put, List.setIfInBounds_toArray, List.set_cons_zero, List.set_cons_succ])
      refine gen0 (T := fun W => ((fun W' => Blk W' w.heap.size 63 #[.slice A5 (s5).1.length c5, .int .i64 ((s5).2 : Nat)] ∧ Blk W' gx 29 #[.int .i64 (k : Int), .string ⟨(m8).toArray⟩] ∧ Below w.heap.size w W')) W ∧ SlB W A5 c5 (s5).1 ∧ Blk W (w.heap.size + 1) 29 #[.int .i64 0, .string ⟨(([] : List UInt8)).toArray⟩] ∧ Blk W (w.heap.size + 1 + 1) 63 #[.slice A5 (s5).1.length c5, .int .i64 ((s5).2 : Nat)] ∧ True) ?_ (fun wq3 hT => ?_)
      · exact ⟨by (first | exact hst | exact hHeld | exact ⟨(hHeld.1.far (by first | omega | (dsimp only; omega)) _).far (by first | omega | (dsimp only; omega)) _, (hHeld.2.1.far (by first | omega | (dsimp only; omega)) _).far (by first | omega | (dsimp only; omega)) _, bel_set (bel_set hHeld.2.2 (by first | omega | (dsimp only; omega)) _) (by first | omega | (dsimp only; omega)) _⟩), by (first | assumption | exact hst1 | exact hst2 | exact hst3 | exact SlB.apart f2 hBd hBB (Below.setCell (Below.setCell (Below.refl _ _) (by first | omega | (dsimp only; omega)) _) (by first | omega | (dsimp only; omega)) _) | exact SlB.apart f1 hBd hBB (Below.setCell (Below.setCell (Below.refl _ _) (by first | omega | (dsimp only; omega)) _) (by first | omega | (dsimp only; omega)) _) | exact f0.set2 _ _ | exact f1.set2 _ _ | exact (f0.far (by first | omega | (dsimp only; omega)) _).far (by first | omega | (dsimp only; omega)) _ | exact (f1.far (by first | omega | (dsimp only; omega)) _).far (by first | omega | (dsimp only; omega)) _ | exact (f2.far (by first | omega | (dsimp only; omega)) _).far (by first | omega | (dsimp only; omega)) _), by (first | assumption | exact hst1 | exact hst2 | exact hst3 | exact SlB.apart f2 hBd hBB (Below.setCell (Below.setCell (Below.refl _ _) (by first | omega | (dsimp only; omega)) _) (by first | omega | (dsimp only; omega)) _) | exact SlB.apart f1 hBd hBB (Below.setCell (Below.setCell (Below.refl _ _) (by first | omega | (dsimp only; omega)) _) (by first | omega | (dsimp only; omega)) _) | exact f0.set2 _ _ | exact f1.set2 _ _ | exact (f0.far (by first | omega | (dsimp only; omega)) _).far (by first | omega | (dsimp only; omega)) _ | exact (f1.far (by first | omega | (dsimp only; omega)) _).far (by first | omega | (dsimp only; omega)) _ | exact (f2.far (by first | omega | (dsimp only; omega)) _).far (by first | omega | (dsimp only; omega)) _), by (first | assumption | exact hst1 | exact hst2 | exact hst3 | exact SlB.apart f2 hBd hBB (Below.setCell (Below.setCell (Below.refl _ _) (by first | omega | (dsimp only; omega)) _) (by first | omega | (dsimp only; omega)) _) | exact SlB.apart f1 hBd hBB (Below.setCell (Below.setCell (Below.refl _ _) (by first | omega | (dsimp only; omega)) _) (by first | omega | (dsimp only; omega)) _) | exact f0.set2 _ _ | exact f1.set2 _ _ | exact (f0.far (by first | omega | (dsimp only; omega)) _).far (by first | omega | (dsimp only; omega)) _ | exact (f1.far (by first | omega | (dsimp only; omega)) _).far (by first | omega | (dsimp only; omega)) _ | exact (f2.far (by first | omega | (dsimp only; omega)) _).far (by first | omega | (dsimp only; omega)) _), trivial⟩
      (try clear f0 f1 f2 f3 f4 f5 f6 f7 f8 f9 f10 f11)
      obtain ⟨hHeld, f0, f1, f2, -⟩ := hT
      refine wpAnyH_done (by kernel_rfl) ?_ _
      go_wp2_with fail
      exact bodyPost_ret (res_dr rfl rfl rfl (g := w.heap.size + 1) (g2 := w.heap.size + 1 + 1) f1 f2) rfl ⟨_, by rw [HT.out] <;> rfl, by rw [HT.out]; exact ⟨A5, c5, rfl, f0, hBd⟩, hHeld.2.2⟩
  · have hkb : ((k : Int) == 1) = false := by rw [beq_eq_false_iff_ne]; omega
    rw [if_neg hk1] at hraw
    clear hk1
    rcases Decidable.em (s1.2 = 0) with hb | hb
    · have hbb : (((s1.2 : Nat) : Int) != 0) = false := by simp [hb]
      have HT := Lib.hid (show rCell s = (((k : Int), []), s1) from by unfold rCell; rw [hraw, if_neg (by simpa using hb)])
      clear hb hraw
      -- the cell ((k : Int), ([] : List UInt8)) stands in block gx, the reader s1 in block w.heap.size, both results' blocks are zero
      have hst : Blk _ w.heap.size 63 #[.slice A1 (s1).1.length c1, .int .i64 ((s1).2 : Nat)] ∧ Blk _ gx 29 #[.int .i64 (k : Int), .string ⟨(([] : List UInt8)).toArray⟩] ∧ Below w.heap.size w _ := ⟨hG.drew, hX.drew, hw.drew⟩
      have hst1 := hZ1.drew
      have hst2 := hZ2.drew
      have hst3 := Sl.drewN hS 1
      go_upto_region 9 with (fail)
      refine wp_region_held_drew (S := (fun W' => Blk W' w.heap.size 63 #[.slice A1 (s1).1.length c1, .int .i64 ((s1).2 : Nat)] ∧ Blk W' gx 29 #[.int .i64 (k : Int), .string ⟨(([] : List UInt8)).toArray⟩] ∧ Below w.heap.size w W')) (by kernel_rfl) ?_ (fun hHeld => ?_)
      · exact hst
      refine gen0 (T := fun W => ((fun W' => Blk W' w.heap.size 63 #[.slice A1 (s1).1.length c1, .int .i64 ((s1).2 : Nat)] ∧ Blk W' gx 29 #[.int .i64 (k : Int), .string ⟨(([] : List UInt8)).toArray⟩] ∧ Below w.heap.size w W')) W ∧ Blk W (w.heap.size + 1) 29 #[.int .i64 0, .string ⟨#[]⟩] ∧ Blk W (w.heap.size + 1 + 1) 63 #[.slice none 0 0, .int .i64 0] ∧ SlB W A1 c1 (s1).1 ∧ True) ?_ (fun wq1 hT => ?_)
      · exact ⟨by (first | exact hst | exact hHeld | exact ⟨(hHeld.1.far (by first | omega | (dsimp only; omega)) _).far (by first | omega | (dsimp only; omega)) _, (hHeld.2.1.far (by first | omega | (dsimp only; omega)) _).far (by first | omega | (dsimp only; omega)) _, bel_set (bel_set hHeld.2.2 (by first | omega | (dsimp only; omega)) _) (by first | omega | (dsimp only; omega)) _⟩), by (first | assumption | exact hst1 | exact hst2 | exact hst3 | exact SlB.apart f2 hBd hBB (Below.setCell (Below.setCell (Below.refl _ _) (by first | omega | (dsimp only; omega)) _) (by first | omega | (dsimp only; omega)) _) | exact SlB.apart f1 hBd hBB (Below.setCell (Below.setCell (Below.refl _ _) (by first | omega | (dsimp only; omega)) _) (by first | omega | (dsimp only; omega)) _) | exact f0.set2 _ _ | exact f1.set2 _ _ | exact (f0.far (by first | omega | (dsimp only; omega)) _).far (by first | omega | (dsimp only; omega)) _ | exact (f1.far (by first | omega | (dsimp only; omega)) _).far (by first | omega | (dsimp only; omega)) _ | exact (f2.far (by first | omega | (dsimp only; omega)) _).far (by first | omega | (dsimp only; omega)) _), by (first | assumption | exact hst1 | exact hst2 | exact hst3 | exact SlB.apart f2 hBd hBB (Below.setCell (Below.setCell (Below.refl _ _) (by first | omega | (dsimp only; omega)) _) (by first | omega | (dsimp only; omega)) _) | exact SlB.apart f1 hBd hBB (Below.setCell (Below.setCell (Below.refl _ _) (by first | omega | (dsimp only; omega)) _) (by first | omega | (dsimp only; omega)) _) | exact f0.set2 _ _ | exact f1.set2 _ _ | exact (f0.far (by first | omega | (dsimp only; omega)) _).far (by first | omega | (dsimp only; omega)) _ | exact (f1.far (by first | omega | (dsimp only; omega)) _).far (by first | omega | (dsimp only; omega)) _ | exact (f2.far (by first | omega | (dsimp only; omega)) _).far (by first | omega | (dsimp only; omega)) _), by (first | assumption | exact hst1 | exact hst2 | exact hst3 | exact SlB.apart f2 hBd hBB (Below.setCell (Below.setCell (Below.refl _ _) (by first | omega | (dsimp only; omega)) _) (by first | omega | (dsimp only; omega)) _) | exact SlB.apart f1 hBd hBB (Below.setCell (Below.setCell (Below.refl _ _) (by first | omega | (dsimp only; omega)) _) (by first | omega | (dsimp only; omega)) _) | exact f0.set2 _ _ | exact f1.set2 _ _ | exact (f0.far (by first | omega | (dsimp only; omega)) _).far (by first | omega | (dsimp only; omega)) _ | exact (f1.far (by first | omega | (dsimp only; omega)) _).far (by first | omega | (dsimp only; omega)) _ | exact (f2.far (by first | omega | (dsimp only; omega)) _).far (by first | omega | (dsimp only; omega)) _), trivial⟩
      (try clear f0 f1 f2 f3 f4 f5 f6 f7 f8 f9 f10 f11)
      obtain ⟨hHeld, f0, f1, f2, -⟩ := hT
      refine wpAnyH_take (i := 0) (oi := ⟨some 31, _, _, _, _, _⟩) (v := ?_) rfl (by kernel_rfl) (by kernel_rfl) (by kernel_rfl) (fun _ _ _ h => h) (Or.inl ⟨by kernel_rfl, ?_⟩) (by assumption) ?_
      rotate_left
      · (intro wS hSw; (try dsimp only at hSw); obtain ⟨q0, q1, _, _⟩ := hSw.1.two; obtain ⟨p0, p1, _, _⟩ := hSw.2.1.two; clear hSw; go_simp; (try with_reducible rfl))
      (try simp only [Act.put, List.setIfInBounds_toArray, List.set_cons_zero, List.set_cons_succ])
      refine wpAnyH_take (i := 1) (oi := ⟨some 32, _, _, _, _, _⟩) (v := ?_) rfl (by kernel_rfl) (by kernel_rfl) (by kernel_rfl) (fun _ _ _ h => h) (Or.inl ⟨by kernel_rfl, ?_⟩) (by assumption) ?_
      rotate_left
      · (intro wS hSw; (try dsimp only at hSw); obtain ⟨q0, q1, _, _⟩ := hSw.1.two; obtain ⟨p0, p1, _, _⟩ := hSw.2.1.two; clear hSw; go_simp; (try with_reducible rfl))
      (try simp only [Act.put, List.setIfInBounds_toArray, List.set_cons_zero, List.set_cons_succ])
      refine wpAnyH_ready (rs := [2]) (by kernel_rfl) (by simp) ?_
      refine AllReadyH.cons (o := ⟨none, _, _, _, _, _⟩) rfl (fun K hK => ?_) AllReadyH.nil
      obtain ⟨y0, y1, yf0, yf1⟩ := f0.two; (try obtain ⟨z0, z1, zf0, zf1⟩ := f1.two)
      go_simp
      refine hK.out _ _ ?_ (fun _ => ?_)
      · ((try dsimp only); (first | exact hst | exact hHeld | exact ⟨(hHeld.1.far (by first | omega | (dsimp only; omega)) _).far (by first | omega | (dsimp only; omega)) _, (hHeld.2.1.far (by first | omega | (dsimp only; omega)) _).far (by first | omega | (dsimp only; omega)) _, bel_set (bel_set hHeld.2.2 (by first | omega | (dsimp only; omega)) _) (by first | omega | (dsimp only; omega)) _⟩))
      clear hK K
      (try simp only [Act.put, List.setIfInBounds_toArray, List.set_cons_zero, List.set_cons_succ])
      refine gen0 (T := fun W => ((fun W' => Blk W' w.heap.size 63 #[.slice A1 (s1).1.length c1, .int .i64 ((s1).2 : Nat)] ∧ Blk W' gx 29 #[.int .i64 (k : Int), .string ⟨(([] : List UInt8)).toArray⟩] ∧ Below w.heap.size w W')) W ∧ Blk W (w.heap.size + 1 + 1) 63 #[.slice none 0 0, .int .i64 0] ∧ SlB W A1 c1 (s1).1 ∧ Blk W (w.heap.size + 1) 29 #[.int .i64 (k : Int), .string ⟨(([] : List UInt8)).toArray⟩] ∧ True) ?_ (fun wq2 hT => ?_)
      · exact ⟨by (first | exact hst | exact hHeld | exact ⟨(hHeld.1.far (by first | omega | (dsimp only; omega)) _).far (by first | omega | (dsimp only; omega)) _, (hHeld.2.1.far (by first | omega | (dsimp only; omega)) _).far (by first | omega | (dsimp only; omega)) _, bel_set (bel_set hHeld.2.2 (by first | omega | (dsimp only; omega)) _) (by first | omega | (dsimp only; omega)) _⟩), by (first | assumption | exact hst1 | exact hst2 | exact hst3 | exact SlB.apart f2 hBd hBB (Below.setCell (Below.setCell (Below.refl _ _) (by first | omega | (dsimp only; omega)) _) (by first | omega | (dsimp only; omega)) _) | exact SlB.apart f1 hBd hBB (Below.setCell (Below.setCell (Below.refl _ _) (by first | omega | (dsimp only; omega)) _) (by first | omega | (dsimp only; omega)) _) | exact f0.set2 _ _ | exact f1.set2 _ _ | exact (f0.far (by first | omega | (dsimp only; omega)) _).far (by first | omega | (dsimp only; omega)) _ | exact (f1.far (by first | omega | (dsimp only; omega)) _).far (by first | omega | (dsimp only; omega)) _ | exact (f2.far (by first | omega | (dsimp only; omega)) _).far (by first | omega | (dsimp only; omega)) _), by (first | assumption | exact hst1 | exact hst2 | exact hst3 | exact SlB.apart f2 hBd hBB (Below.setCell (Below.setCell (Below.refl _ _) (by first | omega | (dsimp only; omega)) _) (by first | omega | (dsimp only; omega)) _) | exact SlB.apart f1 hBd hBB (Below.setCell (Below.setCell (Below.refl _ _) (by first | omega | (dsimp only; omega)) _) (by first | omega | (dsimp only; omega)) _) | exact f0.set2 _ _ | exact f1.set2 _ _ | exact (f0.far (by first | omega | (dsimp only; omega)) _).far (by first | omega | (dsimp only; omega)) _ | exact (f1.far (by first | omega | (dsimp only; omega)) _).far (by first | omega | (dsimp only; omega)) _ | exact (f2.far (by first | omega | (dsimp only; omega)) _).far (by first | omega | (dsimp only; omega)) _), by (first | assumption | exact hst1 | exact hst2 | exact hst3 | exact SlB.apart f2 hBd hBB (Below.setCell (Below.setCell (Below.refl _ _) (by first | omega | (dsimp only; omega)) _) (by first | omega | (dsimp only; omega)) _) | exact SlB.apart f1 hBd hBB (Below.setCell (Below.setCell (Below.refl _ _) (by first | omega | (dsimp only; omega)) _) (by first | omega | (dsimp only; omega)) _) | exact f0.set2 _ _ | exact f1.set2 _ _ | exact (f0.far (by first | omega | (dsimp only; omega)) _).far (by first | omega | (dsimp only; omega)) _ | exact (f1.far (by first | omega | (dsimp only; omega)) _).far (by first | omega | (dsimp only; omega)) _ | exact (f2.far (by first | omega | (dsimp only; omega)) _).far (by first | omega | (dsimp only; omega)) _), trivial⟩
      (try clear f0 f1 f2 f3 f4 f5 f6 f7 f8 f9 f10 f11)
      obtain ⟨hHeld, f0, f1, f2, -⟩ := hT
      refine wpAnyH_ready (rs := [3]) (by kernel_rfl) (by simp) ?_
      refine AllReadyH.cons (o := ⟨none, _, _, _, _, _⟩) rfl (fun K hK => ?_) AllReadyH.nil
      obtain ⟨y0, y1, yf0, yf1⟩ := f0.two; (try obtain ⟨z0, z1, zf0, zf1⟩ := f1.two)
      go_simp
      refine hK.out _ _ ?_ (fun _ => ?_)
      · ((try dsimp only); (first | exact hst | exact hHeld | exact ⟨(hHeld.1.far (by first | omega | (dsimp only; omega)) _).far (by first | omega | (dsimp only; omega)) _, (hHeld.2.1.far (by first | omega | (dsimp only; omega)) _).far (by first | omega | (dsimp only; omega)) _, bel_set (bel_set hHeld.2.2 (by first | omega | (dsimp only; omega)) _) (by first | omega | (dsimp only; omega)) _⟩))
      clear hK K
      (try simp only [Act.put, List.setIfInBounds_toArray, List.set_cons_zero, List.set_cons_succ])
      refine gen0 (T := fun W => ((fun W' => Blk W' w.heap.size 63 #[.slice A1 (s1).1.length c1, .int .i64 ((s1).2 : Nat)] ∧ Blk W' gx 29 #[.int .i64 (k : Int), .string ⟨(([] : List UInt8)).toArray⟩] ∧ Below w.heap.size w W')) W ∧ SlB W A1 c1 (s1).1 ∧ Blk W (w.heap.size + 1) 29 #[.int .i64 (k : Int), .string ⟨(([] : List UInt8)).toArray⟩] ∧ Blk W (w.heap.size + 1 + 1) 63 #[.slice A1 (s1).1.length c1, .int .i64 ((s1).2 : Nat)] ∧ True) ?_ (fun wq3 hT => ?_)
      · exact ⟨by (first | exact hst | exact hHeld | exact ⟨(hHeld.1.far (by first | omega | (dsimp only; omega)) _).far (by first | omega | (dsimp only; omega)) _, (hHeld.2.1.far (by first | omega | (dsimp only; omega)) _).far (by first | omega | (dsimp only; omega)) _, bel_set (bel_set hHeld.2.2 (by first | omega | (dsimp only; omega)) _) (by first | omega | (dsimp only; omega)) _⟩), by (first | assumption | exact hst1 | exact hst2 | exact hst3 | exact SlB.apart f2 hBd hBB (Below.setCell (Below.setCell (Below.refl _ _) (by first | omega | (dsimp only; omega)) _) (by first | omega | (dsimp only; omega)) _) | exact SlB.apart f1 hBd hBB (Below.setCell (Below.setCell (Below.refl _ _) (by first | omega | (dsimp only; omega)) _) (by first | omega | (dsimp only; omega)) _) | exact f0.set2 _ _ | exact f1.set2 _ _ | exact (f0.far (by first | omega | (dsimp only; omega)) _).far (by first | omega | (dsimp only; omega)) _ | exact (f1.far (by first | omega | (dsimp only; omega)) _).far (by first | omega | (dsimp only; omega)) _ | exact (f2.far (by first | omega | (dsimp only; omega)) _).far (by first | omega | (dsimp only; omega)) _), by (first | assumption | exact hst1 | exact hst2 | exact hst3 | exact SlB.apart f2 hBd hBB (Below.setCell (Below.setCell (Below.refl _ _) (by first | omega | (dsimp only; omega)) _) (by first | omega | (dsimp only; omega)) _) | exact SlB.apart f1 hBd hBB (Below.setCell (Below.setCell (Below.refl _ _) (by first | omega | (dsimp only; omega)) _) (by first | omega | (dsimp only; omega)) _) | exact f0.set2 _ _ | exact f1.set2 _ _ | exact (f0.far (by first | omega | (dsimp only; omega)) _).far (by first | omega | (dsimp only; omega)) _ | exact (f1.far (by first | omega | (dsimp only; omega)) _).far (by first | omega | (dsimp only; omega)) _ | exact (f2.far (by first | omega | (dsimp only; omega)) _).far (by first | omega | (dsimp only; omega)) _), by (first | assumption | exact hst1 | exact hst2 | exact hst3 | exact SlB.apart f2 hBd hBB (Below.setCell (Below.setCell (Below.refl _ _) (by first | omega | (dsimp only; omega)) _) (by first | omega | (dsimp only; omega)) _) | exact SlB.apart f1 hBd hBB (Below.setCell (Below.setCell (Below.refl _ _) (by first | omega | (dsimp only; omega)) _) (by first | omega | (dsimp only; omega)) _) | exact f0.set2 _ _ | exact f1.set2 _ _ | exact (f0.far (by first | omega | (dsimp only; omega)) _).far (by first | omega | (dsimp only; omega)) _ | exact (f1.far (by first | omega | (dsimp only; omega)) _).far (by first | omega | (dsimp only; omega)) _ | exact (f2.far (by first | omega | (dsimp only; omega)) _).far (by first | omega | (dsimp only; omega)) _), trivial⟩
      (try clear f0 f1 f2 f3 f4 f5 f6 f7 f8 f9 f10 f11)
      obtain ⟨hHeld, f0, f1, f2, -⟩ := hT
      refine wpAnyH_done (by kernel_rfl) ?_ _
      go_wp2_with fail
      exact bodyPost_ret (res_dr rfl rfl rfl (g := w.heap.size + 1) (g2 := w.heap.size + 1 + 1) f1 f2) rfl ⟨_, by rw [HT.out] <;> rfl, by rw [HT.out]; exact ⟨A1, c1, rfl, f0, hBd⟩, hHeld.2.2⟩
    · have hbb : (((s1.2 : Nat) : Int) != 0) = true := by simp; omega
      have HT := Lib.hid (show rCell s = ((0, []), s1) from by unfold rCell; rw [hraw, if_pos hb])
      clear hb hraw
      -- the cell ((k : Int), ([] : List UInt8)) stands in block gx, the reader s1 in block w.heap.size, both results' blocks are zero
      have hst : Blk _ w.heap.size 63 #[.slice A1 (s1).1.length c1, .int .i64 ((s1).2 : Nat)] ∧ Blk _ gx 29 #[.int .i64 (k : Int), .string ⟨(([] : List UInt8)).toArray⟩] ∧ Below w.heap.size w _ := ⟨hG.drew, hX.drew, hw.drew⟩
      have hst1 := hZ1.drew
      have hst2 := hZ2.drew
      have hst3 := Sl.drewN hS 1
      go_upto_region 8 with (fail)
      refine wp_region_held_drew (S := (fun W' => Blk W' w.heap.size 63 #[.slice A1 (s1).1.length c1, .int .i64 ((s1).2 : Nat)] ∧ Blk W' gx 29 #[.int .i64 (k : Int), .string ⟨(([] : List UInt8)).toArray⟩] ∧ Below w.heap.size w W')) (by kernel_rfl) ?_ (fun hHeld => ?_)
      · exact hst
      refine gen0 (T := fun W => ((fun W' => Blk W' w.heap.size 63 #[.slice A1 (s1).1.length c1, .int .i64 ((s1).2 : Nat)] ∧ Blk W' gx 29 #[.int .i64 (k : Int), .string ⟨(([] : List UInt8)).toArray⟩] ∧ Below w.heap.size w W')) W ∧ Blk W (w.heap.size + 1) 29 #[.int .i64 0, .string ⟨#[]⟩] ∧ Blk W (w.heap.size + 1 + 1) 63 #[.slice none 0 0, .int .i64 0] ∧ SlB W A1 c1 (s1).1 ∧ True) ?_ (fun wq1 hT => ?_)
      · exact ⟨by (first | exact hst | exact hHeld | exact ⟨(hHeld.1.far (by first | omega | (dsimp only; omega)) _).far (by first | omega | (dsimp only; omega)) _, (hHeld.2.1.far (by first | omega | (dsimp only; omega)) _).far (by first | omega | (dsimp only; omega)) _, bel_set (bel_set hHeld.2.2 (by first | omega | (dsimp only; omega)) _) (by first | omega | (dsimp only; omega)) _⟩), by (first | assumption | exact hst1 | exact hst2 | exact hst3 | exact SlB.apart f2 hBd hBB (Below.setCell (Below.setCell (Below.refl _ _) (by first | omega | (dsimp only; omega)) _) (by first | omega | (dsimp only; omega)) _) | exact SlB.apart f1 hBd hBB (Below.setCell (Below.setCell (Below.refl _ _) (by first | omega | (dsimp only; omega)) _) (by first | omega | (dsimp only; omega)) _) | exact f0.set2 _ _ | exact f1.set2 _ _ | exact (f0.far (by first | omega | (dsimp only; omega)) _).far (by first | omega | (dsimp only; omega)) _ | exact (f1.far (by first | omega | (dsimp only; omega)) _).far (by first | omega | (dsimp only; omega)) _ | exact (f2.far (by first | omega | (dsimp only; omega)) _).far (by first | omega | (dsimp only; omega)) _), by (first | assumption | exact hst1 | exact hst2 | exact hst3 | exact SlB.apart f2 hBd hBB (Below.setCell (Below.setCell (Below.refl _ _) (by first | omega | (dsimp only; omega)) _) (by first | omega | (dsimp only; omega)) _) | exact SlB.apart f1 hBd hBB (Below.setCell (Below.setCell (Below.refl _ _) (by first | omega | (dsimp only; omega)) _) (by first | omega | (dsimp only; omega)) _) | exact f0.set2 _ _ | exact f1.set2 _ _ | exact (f0.far (by first | omega | (dsimp only; omega)) _).far (by first | omega | (dsimp only; omega)) _ | exact (f1.far (by first | omega | (dsimp only; omega)) _).far (by first | omega | (dsimp only; omega)) _ | exact (f2.far (by first | omega | (dsimp only; omega)) _).far (by first | omega | (dsimp only; omega)) _), by (first | assumption | exact hst1 | exact hst2 | exact hst3 | exact SlB.apart f2 hBd hBB (Below.setCell (Below.setCell (Below.refl _ _) (by first | omega | (dsimp only; omega)) _) (by first | omega | (dsimp only; omega)) _) | exact SlB.apart f1 hBd hBB (Below.setCell (Below.setCell (Below.refl _ _) (by first | omega | (dsimp only; omega)) _) (by first | omega | (dsimp only; omega)) _) | exact f0.set2 _ _ | exact f1.set2 _ _ | exact (f0.far (by first | omega | (dsimp only; omega)) _).far (by first | omega | (dsimp only; omega)) _ | exact (f1.far (by first | omega | (dsimp only; omega)) _).far (by first | omega | (dsimp only; omega)) _ | exact (f2.far (by first | omega | (dsimp only; omega)) _).far (by first | omega | (dsimp only; omega)) _), trivial⟩
      (try clear f0 f1 f2 f3 f4 f5 f6 f7 f8 f9 f10 f11)
      obtain ⟨hHeld, f0, f1, f2, -⟩ := hT
      refine wpAnyH_take (i := 0) (oi := ⟨some 29, _, _, _, _, _⟩) (v := ?_) rfl (by kernel_rfl) (by kernel_rfl) (by kernel_rfl) (fun _ _ _ h => h) (Or.inl ⟨by kernel_rfl, ?_⟩) (by assumption) ?_
      rotate_left
      · (intro wS hSw; (try dsimp only at hSw); obtain ⟨q0, q1, _, _⟩ := hSw.1.two; obtain ⟨p0, p1, _, _⟩ := hSw.2.1.two; clear hSw; go_simp; (try with_reducible rfl))
      (try simp only [Act.put, List.setIfInBounds_toArray, List.set_cons_zero, List.set_cons_succ])
      refine wpAnyH_take (i := 1) (oi := ⟨some 30, _, _, _, _, _⟩) (v := ?_) rfl (by kernel_rfl) (by kernel_rfl) (by kernel_rfl) (fun _ _ _ h => h) (Or.inl ⟨by kernel_rfl, ?_⟩) (by assumption) ?_
      rotate_left
      · (intro wS hSw; (try dsimp only at hSw); obtain ⟨q0, q1, _, _⟩ := hSw.1.two; obtain ⟨p0, p1, _, _⟩ := hSw.2.1.two; clear hSw; go_simp; (try with_reducible rfl))
      (try simp only [Act.put, List.setIfInBounds_toArray, List.set_cons_zero, List.set_cons_succ])
      refine wpAnyH_ready (rs := [2]) (by kernel_rfl) (by simp) ?_
      refine AllReadyH.cons (o := ⟨none, _, _, _, _, _⟩) rfl (fun K hK => ?_) AllReadyH.nil
      obtain ⟨y0, y1, yf0, yf1⟩ := f0.two; (try obtain ⟨z0, z1, zf0, zf1⟩ := f1.two)
      go_simp
      refine hK.out _ _ ?_ (fun _ => ?_)
      · ((try dsimp only); (first | exact hst | exact hHeld | exact ⟨(hHeld.1.far (by first | omega | (dsimp only; omega)) _).far (by first | omega | (dsimp only; omega)) _, (hHeld.2.1.far (by first | omega | (dsimp only; omega)) _).far (by first | omega | (dsimp only; omega)) _, bel_set (bel_set hHeld.2.2 (by first | omega | (dsimp only; omega)) _) (by first | omega | (dsimp only; omega)) _⟩))
      clear hK K
      (try simp only [Act.put, List.setIfInBounds_toArray, List.set_cons_zero, List.set_cons_succ])
      refine gen0 (T := fun W => ((fun W' => Blk W' w.heap.size 63 #[.slice A1 (s1).1.length c1, .int .i64 ((s1).2 : Nat)] ∧ Blk W' gx 29 #[.int .i64 (k : Int), .string ⟨(([] : List UInt8)).toArray⟩] ∧ Below w.heap.size w W')) W ∧ Blk W (w.heap.size + 1 + 1) 63 #[.slice none 0 0, .int .i64 0] ∧ SlB W A1 c1 (s1).1 ∧ Blk W (w.heap.size + 1) 29 #[.int .i64 0, .string ⟨(([] : List UInt8)).toArray⟩] ∧ True) ?_ (fun wq2 hT => ?_)
      · exact ⟨by (first | exact hst | exact hHeld | exact ⟨(hHeld.1.far (by first | omega | (dsimp only; omega)) _).far (by first | omega | (dsimp only; omega)) _, (hHeld.2.1.far (by first | omega | (dsimp only; omega)) _).far (by first | omega | (dsimp only; omega)) _, bel_set (bel_set hHeld.2.2 (by first | omega | (dsimp only; omega)) _) (by first | omega | (dsimp only; omega)) _⟩), by (first | assumption | exact hst1 | exact hst2 | exact hst3 | exact SlB.apart f2 hBd hBB (Below.setCell (Below.setCell (Below.refl _ _) (by first | omega | (dsimp only; omega)) _) (by first | omega | (dsimp only; omega)) _) | exact SlB.apart f1 hBd hBB (Below.setCell (Below.setCell (Below.refl _ _) (by first | omega | (dsimp only; omega)) _) (by first | omega | (dsimp only; omega)) _) | exact f0.set2 _ _ | exact f1.set2 _ _ | exact (f0.far (by first | omega | (dsimp only; omega)) _).far (by first | omega | (dsimp only; omega)) _ | exact (f1.far (by first | omega | (dsimp only; omega)) _).far (by first | omega | (dsimp only; omega)) _ | exact (f2.far (by first | omega | (dsimp only; omega)) _).far (by first | omega | (dsimp only; omega)) _), by (first | assumption | exact hst1 | exact hst2 | exact hst3 | exact SlB.apart f2 hBd hBB (Below.setCell (Below.setCell (Below.refl _ _) (by first | omega | (dsimp only; omega)) _) (by first | omega | (dsimp only; omega)) _) | exact SlB.apart f1 hBd hBB (Below.setCell (Below.setCell (Below.refl _ _) (by first | omega | (dsimp only; omega)) _) (by first | omega | (dsimp only; omega)) _) | exact f0.set2 _ _ | exact f1.set2 _ _ | exact (f0.far (by first | omega | (dsimp only; omega)) _).far (by first | omega | (dsimp only; omega)) _ | exact (f1.far (by first | omega | (dsimp only; omega)) _).far (by first | omega | (dsimp only; omega)) _ | exact (f2.far (by first | omega | (dsimp only; omega)) _).far (by first | omega | (dsimp only; omega)) _), by (first | assumption | exact hst1 | exact hst2 | exact hst3 | exact SlB.apart f2 hBd hBB (Below.setCell (Below.setCell (Below.refl _ _) (by first | omega | (dsimp only; omega)) _) (by first | omega | (dsimp only; omega)) _) | exact SlB.apart f1 hBd hBB (Below.setCell (Below.setCell (Below.refl _ _) (by first | omega | (dsimp only; omega)) _) (by first | omega | (dsimp only; omega)) _) | exact f0.set2 _ _ | exact f1.set2 _ _ | exact (f0.far (by first | omega | (dsimp only; omega)) _).far (by first | omega | (dsimp only; omega)) _ | exact (f1.far (by first | omega | (dsimp only; omega)) _).far (by first | omega | (dsimp only; omega)) _ | exact (f2.far (by first | omega | (dsimp only; omega)) _).far (by first | omega | (dsimp only; omega)) _), trivial⟩
      (try clear f0 f1 f2 f3 f4 f5 f6 f7 f8 f9 f10 f11)
      obtain ⟨hHeld, f0, f1, f2, -⟩ := hT
      refine wpAnyH_ready (rs := [3]) (by kernel_rfl) (by simp) ?_
      refine AllReadyH.cons (o := ⟨none, _, _, _, _, _⟩) rfl (fun K hK => ?_) AllReadyH.nil
      obtain ⟨y0, y1, yf0, yf1⟩ := f0.two; (try obtain ⟨z0, z1, zf0, zf1⟩ := f1.two)
      go_simp
      refine hK.out _ _ ?_ (fun _ => ?_)
      · ((try dsimp only); (first | exact hst | exact hHeld | exact ⟨(hHeld.1.far (by first | omega | (dsimp only; omega)) _).far (by first | omega | (dsimp only; omega)) _, (hHeld.2.1.far (by first | omega | (dsimp only; omega)) _).far (by first | omega | (dsimp only; omega)) _, bel_set (bel_set hHeld.2.2 (by first | omega | (dsimp only; omega)) _) (by first | omega | (dsimp only; omega)) _⟩))
      clear hK K
      (try simp only [Act.put, List.setIfInBounds_toArray, List.set_cons_zero, List.set_cons_succ])
      refine gen0 (T := fun W => ((fun W' => Blk W' w.heap.size 63 #[.slice A1 (s1).1.length c1, .int .i64 ((s1).2 : Nat)] ∧ Blk W' gx 29 #[.int .i64 (k : Int), .string ⟨(([] : List UInt8)).toArray⟩] ∧ Below w.heap.size w W')) W ∧ SlB W A1 c1 (s1).1 ∧ Blk W (w.heap.size + 1) 29 #[.int .i64 0, .string ⟨(([] : List UInt8)).toArray⟩] ∧ Blk W (w.heap.size + 1 + 1) 63 #[.slice A1 (s1).1.length c1, .int .i64 ((s1).2 : Nat)] ∧ True) ?_ (fun wq3 hT => ?_)
      · exact ⟨by (first | exact hst | exact hHeld | exact ⟨(hHeld.1.far (by first | omega | (dsimp only; omega)) _).far (by first | omega | (dsimp only; omega)) _, (hHeld.2.1.far (by first | omega | (dsimp only; omega)) _).far (by first | omega | (dsimp only; omega)) _, bel_set (bel_set hHeld.2.2 (by first | omega | (dsimp only; omega)) _) (by first | omega | (dsimp only; omega)) _⟩), by (first | assumption | exact hst1 | exact hst2 | exact hst3 | exact SlB.apart f2 hBd hBB (Below.setCell (Below.setCell (Below.refl _ _) (by first | omega | (dsimp only; omega)) _) (by first | omega | (dsimp only; omega)) _) | exact SlB.apart f1 hBd hBB (Below.setCell (Below.setCell (Below.refl _ _) (by first | omega | (dsimp only; omega)) _) (by first | omega | (dsimp only; omega)) _) | exact f0.set2 _ _ | exact f1.set2 _ _ | exact (f0.far (by first | omega | (dsimp only; omega)) _).far (by first | omega | (dsimp only; omega)) _ | exact (f1.far (by first | omega | (dsimp only; omega)) _).far (by first | omega | (dsimp only; omega)) _ | exact (f2.far (by first | omega | (dsimp only; omega)) _).far (by first | omega | (dsimp only; omega)) _), by (first | assumption | exact hst1 | exact hst2 | exact hst3 | exact SlB.apart f2 hBd hBB (Below.setCell (Below.setCell (Below.refl _ _) (by first | omega | (dsimp only; omega)) _) (by first | omega | (dsimp only; omega)) _) | exact SlB.apart f1 hBd hBB (Below.setCell (Below.setCell (Below.refl _ _) (by first | omega | (dsimp only; omega)) _) (by first | omega | (dsimp only; omega)) _) | exact f0.set2 _ _ | exact f1.set2 _ _ | exact (f0.far (by first | omega | (dsimp only; omega)) _).far (by first | omega | (dsimp only; omega)) _ | exact (f1.far (by first | omega | (dsimp only; omega)) _).far (by first | omega | (dsimp only; omega)) _ | exact (f2.far (by first | omega | (dsimp only; omega)) _).far (by first | omega | (dsimp only; omega)) _), by (first | assumption | exact hst1 | exact hst2 | exact hst3 | exact SlB.apart f2 hBd hBB (Below.setCell (Below.setCell (Below.refl _ _) (by first | omega | (dsimp only; omega)) _) (by first | omega | (dsimp only; omega)) _) | exact SlB.apart f1 hBd hBB (Below.setCell (Below.setCell (Below.refl _ _) (by first | omega | (dsimp only; omega)) _) (by first | omega | (dsimp only; omega)) _) | exact f0.set2 _ _ | exact f1.set2 _ _ | exact (f0.far (by first | omega | (dsimp only; omega)) _).far (by first | omega | (dsimp only; omega)) _ | exact (f1.far (by first | omega | (dsimp only; omega)) _).far (by first | omega | (dsimp only; omega)) _ | exact (f2.far (by first | omega | (dsimp only; omega)) _).far (by first | omega | (dsimp only; omega)) _), trivial⟩
      (try clear f0 f1 f2 f3 f4 f5 f6 f7 f8 f9 f10 f11)
      obtain ⟨hHeld, f0, f1, f2, -⟩ := hT
      refine wpAnyH_done (by kernel_rfl) ?_ _
      go_wp2_with fail
      exact bodyPost_ret (res_dr rfl rfl rfl (g := w.heap.size + 1) (g2 := w.heap.size + 1 + 1) f1 f2) rfl ⟨_, by rw [HT.out] <;> rfl, by rw [HT.out]; exact ⟨A1, c1, rfl, f0, hBd⟩, hHeld.2.2⟩
end Go.Proofs.Ytgipfenjachpnaa
