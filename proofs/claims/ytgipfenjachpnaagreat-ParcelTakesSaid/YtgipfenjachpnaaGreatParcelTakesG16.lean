/- WHAT IT HOLDS: the document's Take and Same of parcels, a parcel as the document's, walked. -/
import Derived.Test.YtgipfenjachpnaaGreatParcelTakesG15
namespace Go.Proofs.YtgipfenjachpnaaGreat
open Go.RowKit
attribute [local go_sem ↓] Go.wp_at_zero Go.wp_at_succ

theorem res_rpc {fn : Func} {a b : Nat} {tmps : Array Value} {w : World} {g : Nat} {x y z u : Value} (hres : fn.results = #[.cell a 37, .tmp b]) (ha : tmps.getD a undef = .pointer (some ⟨g, 0, none⟩)) (hB : Blk w g 37 #[x, y, z, u]) :
    (results fn tmps).run Tryz.prog w = .ok (.tuple #[.agg #[x, y, z, u], tmps.getD b undef]) w := by
  obtain ⟨b0, b1, b2, b3, _⟩ := hB.four
  have ha' : tmps[a]?.getD undef = .pointer (some ⟨g, 0, none⟩) := by simpa using ha
  simp [results, hres, go_sem, b0, b1, b2, b3, ha']
theorem res_rpc1 {fn : Func} {a : Nat} {tmps : Array Value} {w : World} {g : Nat} {x y z u : Value} (hres : fn.results = #[.cell a 37]) (ha : tmps.getD a undef = .pointer (some ⟨g, 0, none⟩)) (hB : Blk w g 37 #[x, y, z, u]) :
    (results fn tmps).run Tryz.prog w = .ok (.agg #[x, y, z, u]) w := by
  obtain ⟨b0, b1, b2, b3, _⟩ := hB.four
  have ha' : tmps[a]?.getD undef = .pointer (some ⟨g, 0, none⟩) := by simpa using ha
  simp [results, hres, go_sem, b0, b1, b2, b3, ha']
/-- a parcel of the document's with new cells, and an error's number -/
def RGivesPc (w0 : World) (x : Pc × Nat) (e : Ending) (w' : World) : Prop :=
  ∃ A c m, e = .returned (.tuple #[pcv x.1.1 x.1.2.1 x.1.2.2.1 A (List.length m) c, .int .i64 (x.2 : Nat)]) ∧ Hid (m = x.1.2.2.2) ∧ Own w' w0.heap.size 112 2 A m.length c (m.flatMap df) ∧ Below w0.heap.size w0 w'
theorem Own.set4 {w : World} {base : Nat} {e : TypeId} {size n c : Nat} {A : Option Addr} {xs : List Value} (h : Own w base e size A n c xs) {g : Nat} (hg : g < base) (x y z u : Value) : Own ((((w.setCell ⟨g, 0, none⟩ x).setCell ⟨g, 1, none⟩ y).setCell ⟨g, 2, none⟩ z).setCell ⟨g, 3, none⟩ u) base e size A n c xs :=
  Own.set1 (Own.set1 (Own.set1 (Own.set1 h hg _) hg _) hg _) hg _
set_option maxRecDepth 100000 in
set_option maxHeartbeats 4000000 in
theorem rPTake_any (A : Option Addr) (c : Nat) (b : List UInt8) (w : World) (hs : SlB w A c b) (hl : b.length ≤ 1000000) :
    Calls Tryz.prog 7 #[.slice A b.length c] w (RGivesPc w (pcTake b)) := by
  have hRes := Blk.new w 37 #[.int .i64 0, .int .i64 0, .int .i64 0, .slice none 0 0]
  have hw := below_new w (.cells #[.int .i64 0, .int .i64 0, .int .i64 0, .slice none 0 0] 37)
  have hf0 := fone_zero (b := b)
  have hfl := fone_len b
  go_enter Tryz.func7, Tryz.ntmps7
  go_wp2_with fail
  refine (rOpen_any 1 A c b _ (hs.below hw) (by omega)).mono ?_
  rintro e w1 ⟨v, rfl, ⟨A1, c1, rfl, hS1, hBd1⟩, hb1⟩
  replace hRes := hRes.below hb1
  replace hw := bel_call hw hb1
  clear hb1
  by_cases hf : (fone b).2 = 0
  · have HT0 := Lib.hid (show pcTake b = pcEnd (pread (pkind 1 ((ftake b).1, 0))) from by unfold pcTake; rw [if_neg (by rw [hf]; simp), hf0 hf])
    have hE : (((fone b).2 : Int) != 0) = false := by rw [hf]; rfl
    have hkl := pkind_len 1 ((ftake b).1, 0)
    rw [← hf0 hf] at hfl
    generalize pkind 1 ((ftake b).1, 0) = s0 at *
    have hs0 : s0.1.length ≤ 1000000 := by dsimp only at hkl; omega
    obtain ⟨bd, hbd⟩ : ∃ n, (fone b).2 = n := ⟨_, rfl⟩
    rw [hbd] at hE ⊢
    clear hf hf0 hbd hkl hfl
    go_upto_region 5 with (fail)
    have hR1 := (Blk.new w1 72 #[.slice A1 s0.1.length c1, .int .i64 (s0.2 : Nat)]).alloc (.cells #[.int .i64 0, .int .i64 0, .int .i64 0, .slice none 0 0] 37)
    have hQ1 := Blk.newAt (w := w1.alloc (.cells #[.slice A1 s0.1.length c1, .int .i64 (s0.2 : Nat)] 72)) (g := w1.heap.size + 1) (by simp) 37 #[.int .i64 0, .int .i64 0, .int .i64 0, .slice none 0 0]
    have hbx := bel_alloc (below_new w1 (.cells #[.slice A1 s0.1.length c1, .int .i64 (s0.2 : Nat)] 72)) (.cells #[.int .i64 0, .int .i64 0, .int .i64 0, .slice none 0 0] 37)
    have hwl := hRes.lt
    have hJ : RTt w _ w1.heap.size (w1.heap.size + 1) w1.heap.size 37 37 #[.int .i64 0, .int .i64 0, .int .i64 0, .slice none 0 0] #[.int .i64 0, .int .i64 0, .int .i64 0, .slice none 0 0] A1 c1 s0 := ⟨bel_call hw hbx, hRes.below hbx, hQ1, hR1, Sl.below hS1 hbx, hBd1, by omega, by omega, by omega, by omega, by omega⟩
    clear hR1 hQ1 hbx hw hRes hS1 hBd1
    generalize hWe : (w1.alloc (.cells #[.slice A1 s0.1.length c1, .int .i64 (s0.2 : Nat)] 72)).alloc (.cells #[.int .i64 0, .int .i64 0, .int .i64 0, .slice none 0 0] 37) = w2 at *
    clear hWe
    generalize hge : w1.heap.size = gr at *
    clear hge
    have HTa := Lib.hid (show pcTake b = pcEnd ((((rWithin 1099511627776 s0).1 : Int), ((rWithin 1048576 (rWithin 1099511627776 s0).2).1 : Int), ((rWithin 1048576 (rWithin 1048576 (rWithin 1099511627776 s0).2).2).1 : Int), (takeRun (rWithin 1048576 (rWithin 1048576 (rWithin 1099511627776 s0).2).2).2).1), (takeRun (rWithin 1048576 (rWithin 1048576 (rWithin 1099511627776 s0).2).2).2).2) from by have h := HT0.out; unfold pread sgRead at h; exact h)
    clear HT0
    have HTq := HTa
    clear HTa
    obtain ⟨x0, x1, xf0, xf1⟩ := hJ.r.two
    go_wp2_with fail
    refine (rWithin_v (s := s0) 1099511627776 _ hJ.sl hJ.bd).mono ?_
    rintro e v3 ⟨v, rfl, ⟨A3, c3, rfl, hS3, hBd3⟩, hb3⟩
    have hl3 := rWithin_len 1099511627776 s0
    generalize rWithin 1099511627776 s0 = q3 at *
    obtain ⟨x, s1⟩ := q3
    dsimp only at hS3 hBd3 hl3 HTq ⊢
    have hJ2 := hJ.step hb3 hS3 hBd3 0 (.int .i64 (x : Nat))
    replace hJ := hJ.below hb3
    clear x0 x1 xf0 xf1
    obtain ⟨y0, y1, y2, y3, yf0, yf1, yf2, yf3⟩ := hJ.q.four
    obtain ⟨x0, x1, xf0, xf1⟩ := hJ.r.two
    go_upto_region 6 with (fail)
    simp only [List.setIfInBounds_toArray, List.set_cons_zero, List.set_cons_succ] at hJ2
    clear hJ hS3 hBd3 hb3 x0 x1 xf0 xf1 y0 y1 y2 y3 yf0 yf1 yf2 yf3
    have hJ := hJ2
    clear hJ2
    generalize hWe : ((v3.setCell ⟨gr + 1, 0, none⟩ (.int .i64 (x : Nat))).setCell ⟨gr, 0, none⟩ (.slice A3 (List.length s1.1) c3)).setCell ⟨gr, 1, none⟩ (.int .i64 (s1.2 : Nat)) = w4 at *
    clear hWe
    have HTa := HTq
    clear HTq
    have HTq := HTa
    clear HTa
    obtain ⟨x0, x1, xf0, xf1⟩ := hJ.r.two
    go_wp2_with fail
    refine (rWithin_v (s := s1) 1048576 _ hJ.sl hJ.bd).mono ?_
    rintro e v5 ⟨v, rfl, ⟨A5, c5, rfl, hS5, hBd5⟩, hb5⟩
    have hl5 := rWithin_len 1048576 s1
    generalize rWithin 1048576 s1 = q5 at *
    obtain ⟨y, s2⟩ := q5
    dsimp only at hS5 hBd5 hl5 HTq ⊢
    have hJ2 := hJ.step hb5 hS5 hBd5 1 (.int .i64 (y : Nat))
    replace hJ := hJ.below hb5
    clear x0 x1 xf0 xf1
    obtain ⟨y0, y1, y2, y3, yf0, yf1, yf2, yf3⟩ := hJ.q.four
    obtain ⟨x0, x1, xf0, xf1⟩ := hJ.r.two
    go_upto_region 7 with (fail)
    simp only [List.setIfInBounds_toArray, List.set_cons_zero, List.set_cons_succ] at hJ2
    clear hJ hS5 hBd5 hb5 x0 x1 xf0 xf1 y0 y1 y2 y3 yf0 yf1 yf2 yf3
    have hJ := hJ2
    clear hJ2
    generalize hWe : ((v5.setCell ⟨gr + 1, 1, none⟩ (.int .i64 (y : Nat))).setCell ⟨gr, 0, none⟩ (.slice A5 (List.length s2.1) c5)).setCell ⟨gr, 1, none⟩ (.int .i64 (s2.2 : Nat)) = w6 at *
    clear hWe
    have HTa := HTq
    clear HTq
    have HTq := HTa
    clear HTa
    obtain ⟨x0, x1, xf0, xf1⟩ := hJ.r.two
    go_wp2_with fail
    refine (rWithin_v (s := s2) 1048576 _ hJ.sl hJ.bd).mono ?_
    rintro e v7 ⟨v, rfl, ⟨A7, c7, rfl, hS7, hBd7⟩, hb7⟩
    have hl7 := rWithin_len 1048576 s2
    generalize rWithin 1048576 s2 = q7 at *
    obtain ⟨f, s3⟩ := q7
    dsimp only at hS7 hBd7 hl7 HTq ⊢
    have hJ2 := hJ.step hb7 hS7 hBd7 2 (.int .i64 (f : Nat))
    replace hJ := hJ.below hb7
    clear x0 x1 xf0 xf1
    obtain ⟨y0, y1, y2, y3, yf0, yf1, yf2, yf3⟩ := hJ.q.four
    obtain ⟨x0, x1, xf0, xf1⟩ := hJ.r.two
    go_upto_region 8 with (fail)
    simp only [List.setIfInBounds_toArray, List.set_cons_zero, List.set_cons_succ] at hJ2
    clear hJ hS7 hBd7 hb7 x0 x1 xf0 xf1 y0 y1 y2 y3 yf0 yf1 yf2 yf3
    have hJ := hJ2
    clear hJ2
    generalize hWe : ((v7.setCell ⟨gr + 1, 2, none⟩ (.int .i64 (f : Nat))).setCell ⟨gr, 0, none⟩ (.slice A7 (List.length s3.1) c7)).setCell ⟨gr, 1, none⟩ (.int .i64 (s3.2 : Nat)) = w8 at *
    clear hWe
    have hs3 : s3.1.length ≤ 1000000 := by omega
    clear hl3 hl5 hl7
    have hB8 : gr ≤ w8.heap.size := by have := hJ.r.lt; omega
    have hql := hJ.q.lt
    obtain ⟨x0, x1, xf0, xf1⟩ := hJ.r.two
    go_wp2_with fail
    refine (rTakeRun_any (s := s3) _ hJ.sl hJ.bd hB8 hs3).mono ?_
    rintro e w9 ⟨A9, c9, m9, v, rfl, hm9, hO9, ⟨A10, c10, rfl, hS10, hBd10⟩, hb9⟩
    generalize takeRun s3 = q9 at *
    obtain ⟨rn, s4⟩ := q9
    dsimp only at hm9 hS10 hBd10 HTq ⊢
    obtain rfl := hm9.out
    clear hm9
    have hJ2 := hJ.step hb9 hS10 hBd10 3 (.slice A9 m9.length c9)
    have hO10 := Own.set1 (Own.set1 (Own.set1 hO9 (g := gr + 1) (i := 3) (by omega) (.slice A9 m9.length c9)) (g := gr) (i := 0) (by omega) (.slice A10 s4.1.length c10)) (g := gr) (i := 1) (by omega) (.int .i64 (s4.2 : Nat))
    replace hJ := hJ.below hb9
    clear x0 x1 xf0 xf1
    obtain ⟨y0, y1, y2, y3, yf0, yf1, yf2, yf3⟩ := hJ.q.four
    obtain ⟨x0, x1, xf0, xf1⟩ := hJ.r.two
    go_upto_region 9 with (fail)
    simp only [List.setIfInBounds_toArray, List.set_cons_zero, List.set_cons_succ] at hJ2
    clear hJ hS10 hBd10 hb9 hO9 x0 x1 xf0 xf1 y0 y1 y2 y3 yf0 yf1 yf2 yf3
    have hJ := hJ2
    clear hJ2
    generalize hWe : ((w9.setCell ⟨gr + 1, 3, none⟩ (.slice A9 m9.length c9)).setCell ⟨gr, 0, none⟩ (.slice A10 s4.1.length c10)).setCell ⟨gr, 1, none⟩ (.int .i64 (s4.2 : Nat)) = w10 at *
    clear hWe
    obtain ⟨x0, x1, xf0, xf1⟩ := hJ.r.two
    go_wp2_with fail
    refine (rEnd_v (s := s4) _).mono ?_
    rintro e w11 ⟨rfl, hb11⟩
    replace hJ := hJ.below hb11
    replace hO10 := Own.below hO10 hb11
    clear x0 x1 xf0 xf1 hb11
    rcases Decidable.em (rEnd s4 = 0) with h0 | h0
    · have hbb : (((rEnd s4 : Nat) : Int) != 0) = false := by simp [h0]
      have HN0 := Lib.hid h0
      clear h0
      obtain ⟨y0, y1, y2, y3, yf0, yf1, yf2, yf3⟩ := hJ.q.four
      go_wp2_with fail
      refine (rPCheck_any (x : Nat) (y : Nat) (f : Nat) m9 _ hO10.sl).mono ?_
      rintro e w12 ⟨rfl, hb12⟩
      replace hJ := hJ.below hb12
      replace hO10 := Own.below hO10 hb12
      clear hb12 y0 y1 y2 y3 yf0 yf1 yf2 yf3
      have hRes := hJ.res
      have hw := hJ.bel
      rcases Decidable.em (pchk ((x : Int), (y : Int), (f : Int), m9) = 0) with h1 | h1
      · have hbc : (((pchk ((x : Int), (y : Int), (f : Int), m9) : Nat) : Int) != 0) = false := by simp [h1]
        have HT := Lib.hid (show pcTake b = (((x : Int), (y : Int), (f : Int), m9), 0) from by rw [HTq.out]; unfold pcEnd; rw [if_neg (by rw [HN0.out]; simp), if_neg (by rw [h1]; simp)])
        clear h1
        obtain ⟨y0, y1, y2, y3, yf0, yf1, yf2, yf3⟩ := hJ.q.four
        obtain ⟨r0, r1, r2, r3, rf0, rf1, rf2, rf3⟩ := hRes.four
        have hwl := hJ.n4
        go_wp2_with fail
        exact bodyPost_ret (res_rpc rfl rfl (g := w.heap.size) (hRes.set4 _ _ _ _)) rfl ⟨A9, c9, m9, by rw [HT.out]; rfl, (show _ = _ from by rw [HT.out]), (Own.set4 hO10 (by omega) _ _ _ _).more (by omega), bel_set4 hw (Nat.le_refl _) _ _ _ _⟩
      · have hbc : (((pchk ((x : Int), (y : Int), (f : Int), m9) : Nat) : Int) != 0) = true := by simp; omega
        have HT := Lib.hid (show pcTake b = ((0, 0, 0, []), pchk ((x : Int), (y : Int), (f : Int), m9)) from by rw [HTq.out]; unfold pcEnd; rw [if_neg (by rw [HN0.out]; simp), if_pos (by dsimp only; omega)])
        clear h1
        obtain ⟨r0, r1, r2, r3, rf0, rf1, rf2, rf3⟩ := hRes.four
        go_wp2_with fail
        exact bodyPost_ret (res_rpc rfl rfl (g := w.heap.size) (hRes.set4 _ _ _ _)) rfl ⟨none, 0, [], by rw [HT.out]; rfl, (show _ = _ from by rw [HT.out]), Own.none_ _ _ _ _, bel_set4 hw (Nat.le_refl _) _ _ _ _⟩
    · have hbb : (((rEnd s4 : Nat) : Int) != 0) = true := by simp; omega
      have HT := Lib.hid (show pcTake b = ((0, 0, 0, []), rEnd s4) from by rw [HTq.out]; unfold pcEnd; rw [if_pos (by dsimp only; omega)])
      have hRes := hJ.res
      have hw := hJ.bel
      clear h0
      obtain ⟨r0, r1, r2, r3, rf0, rf1, rf2, rf3⟩ := hRes.four
      go_wp2_with fail
      exact bodyPost_ret (res_rpc rfl rfl (g := w.heap.size) (hRes.set4 _ _ _ _)) rfl ⟨none, 0, [], by rw [HT.out]; rfl, (show _ = _ from by rw [HT.out]), Own.none_ _ _ _ _, bel_set4 hw (Nat.le_refl _) _ _ _ _⟩
  · have HT := Lib.hid (show pcTake b = ((0, 0, 0, []), (fone b).2) from by unfold pcTake; rw [if_pos hf])
    have hE : (((fone b).2 : Int) != 0) = true := by rw [bne_iff_ne]; omega
    generalize (fone b).2 = bd at *
    generalize pkind 1 ((ftake b).1, 0) = s0 at *
    clear hf hf0 hfl
    go_upto_region 3 with (fail)
    have hbx := below_new w1 (.cells #[.slice A1 s0.1.length c1, .int .i64 (s0.2 : Nat)] 72)
    replace hRes := hRes.below hbx
    replace hw := bel_call hw hbx
    clear hbx hS1 hBd1
    generalize hWe : w1.alloc (.cells #[.slice A1 s0.1.length c1, .int .i64 (s0.2 : Nat)] 72) = w2 at *
    clear hWe
    obtain ⟨r0, r1, r2, r3, rf0, rf1, rf2, rf3⟩ := hRes.four
    go_wp2_with fail
    exact bodyPost_ret (res_rpc rfl rfl (g := w.heap.size) (hRes.set4 _ _ _ _)) rfl ⟨none, 0, [], by rw [HT.out]; rfl, (show _ = _ from by rw [HT.out]), Own.none_ _ _ _ _, bel_set4 hw (Nat.le_refl _) _ _ _ _⟩
end Go.Proofs.YtgipfenjachpnaaGreat
