/- WHAT IT HOLDS: the document's Slice of segments, walked. -/
import Derived.Test.YtkkcgibmcijhaaaSegR
namespace Go.Proofs.Ytkkcgibmcijhaaa
open Go.RowKit
attribute [local go_sem ↓] Go.wp_at_zero Go.wp_at_succ

/-- a boxed segment and the result's block -/
structure RK (w W : World) (f : Int) (E : Option Addr) (n cap : Nat) : Prop where
  bel : Below w.heap.size w W
  a : Blk W w.heap.size 91 #[.int .i64 f, .slice E n cap]
  r : Blk W (w.heap.size + 1) 91 #[.int .i64 0, .slice none 0 0]
section
variable {w W W' : World} {f : Int} {E : Option Addr} {n cap : Nat}
theorem RK.below (h : RK w W f E n cap) (hb : Below W.heap.size W W') : RK w W' f E n cap := ⟨bel_call h.bel hb, h.a.below hb, h.r.below hb⟩
theorem RK.drew (h : RK w W f E n cap) : RK w W.drew f E n cap := ⟨h.bel.drew, h.a.drew, h.r.drew⟩
theorem RK.far (h : RK w W f E n cap) {g i : Nat} (hg : w.heap.size + 1 < g) (u : Value) : RK w (W.setCell ⟨g, i, none⟩ u) f E n cap :=
  ⟨bel_set h.bel (by show w.heap.size ≤ g; omega) u, h.a.far (by show w.heap.size ≠ g; omega) u, h.r.far (by show w.heap.size + 1 ≠ g; omega) u⟩
theorem RK.apart (h : RK w W f E n cap) {B : Nat} (hB : w.heap.size + 1 < B) (hb : Below B W W') : RK w W' f E n cap :=
  ⟨h.bel.trans (hb.mono (by omega)), (hb.block _ (by omega)).trans h.a, (hb.block _ (by omega)).trans h.r⟩
end
set_option maxRecDepth 100000 in
set_option maxHeartbeats 2000000 in
theorem rSSlice_any {E : Option Addr} {cap : Nat} (f p q : Int) (cs : List Ce) (w : World) (h : SlD w E cap cs) :
    Calls Try.prog 64 #[cv f E cs.length cap, .int .i64 p, .int .i64 q] w (RGivesSg w (spart (f, cs) p q)) := by
  have hJ0 : RK w ((w.alloc (.cells #[.int .i64 f, .slice E cs.length cap] 91)).alloc (.cells #[.int .i64 0, .slice none 0 0] 91)) f E cs.length cap :=
    ⟨bel_alloc (below_new w _) _, (Blk.new w _ _).alloc _, Blk.newAt (by simp) _ _⟩
  obtain ⟨a0, a1, _, _⟩ := hJ0.a.two
  go_enter Try.func64, Try.ntmps64
  go_wp2_with fail
  refine (rSCheck_any f cs _ (Sl.below h hJ0.bel)).mono ?_
  rintro e w1 ⟨rfl, hb1⟩
  have hJ1 := hJ0.below hb1
  clear hJ0 hb1 a0 a1
  rcases Nat.eq_zero_or_pos (schk (f, cs)) with h0 | h0
  · obtain ⟨hf0, hf1, hn64, hne, _⟩ := schk_ok h0
    dsimp only at hf0 hf1 hn64 hne
    have HS := Lib.hid (show spart (f, cs) p q = if p < f ∨ f + cs.length < q ∨ q < p then ((0, []), 1) else ((p, (cs.drop (p - f).toNat).take (q - p).toNat), 0) from by
      unfold spart
      rw [if_neg (by rw [h0]; simp)])
    rw [h0]
    clear h0
    by_cases c1 : p < f
    · have HJ : Hid (spart (f, cs) p q = ((0, []), 1)) := (show _ = _ from by rw [HS.out, if_pos (.inl c1)])
      obtain ⟨r0, r1, rf0, rf1⟩ := hJ1.r.two
      obtain ⟨a0, a1, _, _⟩ := hJ1.a.two
      go_wp2_with fail
      exact bodyPost_ret (res_rg2 rfl rfl (g := w.heap.size + 1) (hJ1.r.set2 _ _)) rfl ⟨none, 0, [], by rw [HJ.out]; rfl, (show _ = _ from by rw [HJ.out]), Own.none_ _ _ _ _, bel_set (bel_set hJ1.bel (by dsimp only; omega) _) (by dsimp only; omega) _⟩
    by_cases c2 : f + (cs.length : Int) < q
    · have HJ : Hid (spart (f, cs) p q = ((0, []), 1)) := (show _ = _ from by rw [HS.out, if_pos (.inr (.inl c2))])
      obtain ⟨r0, r1, rf0, rf1⟩ := hJ1.r.two
      obtain ⟨a0, a1, _, _⟩ := hJ1.a.two
      go_wp2_with fail
      exact bodyPost_ret (res_rg2 rfl rfl (g := w.heap.size + 1) (hJ1.r.set2 _ _)) rfl ⟨none, 0, [], by rw [HJ.out]; rfl, (show _ = _ from by rw [HJ.out]), Own.none_ _ _ _ _, bel_set (bel_set hJ1.bel (by dsimp only; omega) _) (by dsimp only; omega) _⟩
    by_cases c3 : q < p
    · have HJ : Hid (spart (f, cs) p q = ((0, []), 1)) := (show _ = _ from by rw [HS.out, if_pos (.inr (.inr c3))])
      obtain ⟨r0, r1, rf0, rf1⟩ := hJ1.r.two
      obtain ⟨a0, a1, _, _⟩ := hJ1.a.two
      go_wp2_with fail
      exact bodyPost_ret (res_rg2 rfl rfl (g := w.heap.size + 1) (hJ1.r.set2 _ _)) rfl ⟨none, 0, [], by rw [HJ.out]; rfl, (show _ = _ from by rw [HJ.out]), Own.none_ _ _ _ _, bel_set (bel_set hJ1.bel (by dsimp only; omega) _) (by dsimp only; omega) _⟩
    have HJ : spart (f, cs) p q = ((p, (cs.drop (p - f).toNat).take (q - p).toNat), 0) := by rw [HS.out, if_neg (by omega)]
    obtain ⟨i, hi⟩ : ∃ i : Nat, p - f = i := ⟨(p - f).toNat, by omega⟩
    obtain ⟨n, hn⟩ : ∃ n : Nat, q - p = n := ⟨(q - p).toNat, by omega⟩
    have hin : i + n ≤ cs.length := by omega
    have hqp : q = p + n := by omega
    have hpf : p = f + i := by omega
    rw [hi, hn] at HJ
    simp only [Int.toNat_natCast] at HJ
    have HJH := Lib.hid HJ
    subst hqp
    subst hpf
    clear HJ HS hi hn c1 c2 c3
    obtain ⟨a0, a1, _, _⟩ := hJ1.a.two
    have hz1 : w.heap.size + 1 < w1.heap.size := hJ1.r.lt
    have hbn := below_new w1 (.cells #[.int .i64 (f + i), .slice none 0 0] 91)
    have hJ2 := hJ1.below hbn
    have hG := Blk.new w1 91 #[.int .i64 (f + i), .slice none 0 0]
    go_wp2_with fail
    go_loopw [10] (fun x wr => ∃ (k : Nat) (A : Option Addr) (c : Nat) (m : List Ce), k ≤ n ∧ x = .int .i64 (f + i + k) ∧ Hid (m = (cs.drop i).take k) ∧ RK w wr f E cs.length cap ∧ Blk wr w1.heap.size 91 #[.int .i64 (f + i), .slice A m.length c] ∧ Own wr (w1.heap.size + 1) 46 2 A m.length c (m.flatMap df)) (fun x w => (f + i + n - (intOf x)).toNat)
    case atStart => exact ⟨0, none, 0, [], Nat.zero_le _, by simp, (show _ = _ from by simp), hJ2, hG, Own.none_ _ _ _ _⟩
    case round =>
      obtain ⟨k, Am, cm, m, hk, rfl, hm, hJ, hB, hO⟩ := hrel
      clear hJ2 hG hJ1 hbn a0 a1
      by_cases hlt : k < n
      · have hnx : Hid ((cs.drop i).take (k + 1) = (cs.drop i).take k ++ [cs[i + k]'(by omega)]) := (show _ = _ by
          rw [List.take_succ_eq_append_getElem (by simp; omega), List.getElem_drop])
        have hml : m.length ≤ 64 := by rw [hm.out]; simp; omega
        obtain ⟨ad, b, o, rfl, had, hcc⟩ := Sl.atS (f := df) (fun _ => rfl) (by decide) h (k := i + k) (by omega)
        have hc0 := hcc 0 _ rfl
        have hc1 := hcc 1 _ rfl
        have hbl : b < w.heap.size := World.block_lt_of_cell? w _ hc1
        clear hcc
        generalize cs[i + k] = x at *
        obtain ⟨kk, d⟩ := x
        dsimp only at *
        rw [Nat.add_zero] at hc0
        have hwi : IntKind.i64.wrap (f + (i : Int) + (k : Int) - f) = ((i + k : Nat) : Int) := by rw [IntKind.wrap_i64]; omega
        have hwi2 : wrap64 (f + (i : Int) + (k : Int) - f) = ((i + k : Nat) : Int) := by simp only [wrap64]; omega
        have hik : i + k < cs.length := by omega
        have hb0 : 0 ≤ (i : Int) + (k : Int) := by omega
        have hb1 : (i : Int) + (k : Int) < (cs.length : Int) := by omega
        have htn : ((i : Int) + (k : Int)).toNat = i + k := by omega
        have hst := hJ.drew
        go_upto_region 10 with (fail)
        clear hJ
        refine wp_region_held_drew (S := (fun W => RK w W f (some ad) cs.length cap)) (by kernel_rfl) ?_ (fun hHeld => ?_)
        · exact hst
        refine gen0 (T := fun W => ((fun W => RK w W f (some ad) cs.length cap)) W ∧ Blk W w1.heap.size 91 #[.int .i64 (f + i), .slice Am m.length cm] ∧ Own W (w1.heap.size + 1) 46 2 Am m.length cm (m.flatMap df) ∧ True) ?_ (fun wq1 hT => ?_)
        · exact ⟨by (first | exact hst | exact hHeld | exact hHeld.apart (by omega) hb11 | exact hHeld.far (by omega) _ | exact hHeld.below (below_new _ _)), by (first | assumption | exact hB.drew | exact World.ownsRow.drew hO | exact f0.alloc _ | exact World.ownsRow.alloc f1 _ | exact Sl.litsS _ 2 1 (df (kk, d)) 46 rfl (by simp [maxLen]) | exact (hb11.block _ (by omega)).trans f0 | exact ho11 | exact f1.set1 (by omega) _ | exact f0.set_ 1 _), by (first | assumption | exact hB.drew | exact World.ownsRow.drew hO | exact f0.alloc _ | exact World.ownsRow.alloc f1 _ | exact Sl.litsS _ 2 1 (df (kk, d)) 46 rfl (by simp [maxLen]) | exact (hb11.block _ (by omega)).trans f0 | exact ho11 | exact f1.set1 (by omega) _ | exact f0.set_ 1 _), trivial⟩
        (try clear f0 f1 f2 f3 f4 f5 f6 f7 f8 f9 f10 f11)
        obtain ⟨hHeld, f0, f1, -⟩ := hT
        refine wpAnyH_take (i := 0) (oi := ⟨some 45, _, _, _, _, _⟩) (v := ?_) rfl (by kernel_rfl) (by kernel_rfl) (by kernel_rfl) (fun _ _ _ h => h) (Or.inl ⟨by kernel_rfl, ?_⟩) (by assumption) ?_
        rotate_left
        · (intro wS hSw; (try dsimp only at hSw); obtain ⟨q0, q1, _, _⟩ := hSw.a.two; have e0 := (hSw.bel.cell (p := ⟨b, o, none⟩) hbl).trans hc0; have e1 := (hSw.bel.cell (p := ⟨b, o + 1, none⟩) hbl).trans hc1; clear hSw; go_simp; (try with_reducible rfl))
        (try simp only [Act.put, List.setIfInBounds_toArray, List.set_cons_zero, List.set_cons_succ])
        refine wpAnyH_take (i := 2) (oi := ⟨some 47, _, _, _, _, _⟩) (v := ?_) rfl (by kernel_rfl) (by kernel_rfl) (by kernel_rfl) (fun _ _ _ h => h) (Or.inl ⟨by kernel_rfl, ?_⟩) (by assumption) ?_
        rotate_left
        · (intro wS hSw; (try dsimp only at hSw); obtain ⟨q0, q1, _, _⟩ := hSw.a.two; have e0 := (hSw.bel.cell (p := ⟨b, o, none⟩) hbl).trans hc0; have e1 := (hSw.bel.cell (p := ⟨b, o + 1, none⟩) hbl).trans hc1; clear hSw; go_simp; (try with_reducible rfl))
        (try simp only [Act.put, List.setIfInBounds_toArray, List.set_cons_zero, List.set_cons_succ])
        refine wpAnyH_take (i := 3) (oi := ⟨some 48, _, _, _, _, _⟩) (v := ?_) rfl (by kernel_rfl) (by kernel_rfl) (by kernel_rfl) (fun _ _ _ h => h) (Or.inl ⟨by kernel_rfl, ?_⟩) (by assumption) ?_
        rotate_left
        · (intro wS hSw; (try dsimp only at hSw); obtain ⟨q0, q1, _, _⟩ := hSw.a.two; have e0 := (hSw.bel.cell (p := ⟨b, o, none⟩) hbl).trans hc0; have e1 := (hSw.bel.cell (p := ⟨b, o + 1, none⟩) hbl).trans hc1; clear hSw; go_simp; (try with_reducible rfl))
        (try simp only [Act.put, List.setIfInBounds_toArray, List.set_cons_zero, List.set_cons_succ])
        refine wpAnyH_take (i := 4) (oi := ⟨some 49, _, _, _, _, _⟩) (v := ?_) rfl (by kernel_rfl) (by kernel_rfl) (by kernel_rfl) (fun _ _ _ h => h) (Or.inl ⟨by kernel_rfl, ?_⟩) (by assumption) ?_
        rotate_left
        · (intro wS hSw; (try dsimp only at hSw); obtain ⟨q0, q1, _, _⟩ := hSw.a.two; have e0 := (hSw.bel.cell (p := ⟨b, o, none⟩) hbl).trans hc0; have e1 := (hSw.bel.cell (p := ⟨b, o + 1, none⟩) hbl).trans hc1; clear hSw; go_simp; (try with_reducible rfl))
        (try simp only [Act.put, List.setIfInBounds_toArray, List.set_cons_zero, List.set_cons_succ])
        refine wpAnyH_take (i := 5) (oi := ⟨some 50, _, _, _, _, _⟩) (v := ?_) rfl (by kernel_rfl) (by kernel_rfl) (by kernel_rfl) (fun _ _ _ h => h) (Or.inl ⟨by kernel_rfl, ?_⟩) (by assumption) ?_
        rotate_left
        · (intro wS hSw; (try dsimp only at hSw); obtain ⟨q0, q1, _, _⟩ := hSw.a.two; have e0 := (hSw.bel.cell (p := ⟨b, o, none⟩) hbl).trans hc0; have e1 := (hSw.bel.cell (p := ⟨b, o + 1, none⟩) hbl).trans hc1; clear hSw; go_simp; (try with_reducible rfl))
        (try simp only [Act.put, List.setIfInBounds_toArray, List.set_cons_zero, List.set_cons_succ])
        refine wpAnyH_take (i := 6) (oi := ⟨some 51, _, _, _, _, _⟩) (v := ?_) rfl (by kernel_rfl) (by kernel_rfl) (by kernel_rfl) (fun _ _ _ h => h) (Or.inl ⟨by kernel_rfl, ?_⟩) (by assumption) ?_
        rotate_left
        · (intro wS hSw; (try dsimp only at hSw); obtain ⟨q0, q1, _, _⟩ := hSw.a.two; have e0 := (hSw.bel.cell (p := ⟨b, o, none⟩) hbl).trans hc0; have e1 := (hSw.bel.cell (p := ⟨b, o + 1, none⟩) hbl).trans hc1; clear hSw; go_simp; (try with_reducible rfl))
        (try simp only [Act.put, List.setIfInBounds_toArray, List.set_cons_zero, List.set_cons_succ])
        refine wpAnyH_take (i := 7) (oi := ⟨some 52, _, _, _, _, _⟩) (v := ?_) rfl (by kernel_rfl) (by kernel_rfl) (by kernel_rfl) (fun _ _ _ h => h) (Or.inl ⟨by kernel_rfl, ?_⟩) (by assumption) ?_
        rotate_left
        · (intro wS hSw; (try dsimp only at hSw); obtain ⟨q0, q1, _, _⟩ := hSw.a.two; have e0 := (hSw.bel.cell (p := ⟨b, o, none⟩) hbl).trans hc0; have e1 := (hSw.bel.cell (p := ⟨b, o + 1, none⟩) hbl).trans hc1; clear hSw; go_simp; (try with_reducible rfl))
        (try simp only [Act.put, List.setIfInBounds_toArray, List.set_cons_zero, List.set_cons_succ])
        refine wpAnyH_take (i := 8) (oi := ⟨some 53, _, _, _, _, _⟩) (v := ?_) rfl (by kernel_rfl) (by kernel_rfl) (by kernel_rfl) (fun _ _ _ h => h) (Or.inl ⟨by kernel_rfl, ?_⟩) (by assumption) ?_
        rotate_left
        · (intro wS hSw; (try dsimp only at hSw); obtain ⟨q0, q1, _, _⟩ := hSw.a.two; have e0 := (hSw.bel.cell (p := ⟨b, o, none⟩) hbl).trans hc0; have e1 := (hSw.bel.cell (p := ⟨b, o + 1, none⟩) hbl).trans hc1; clear hSw; go_simp; (try with_reducible rfl))
        (try simp only [Act.put, List.setIfInBounds_toArray, List.set_cons_zero, List.set_cons_succ])
        refine wpAnyH_take (i := 9) (oi := ⟨some 54, _, _, _, _, _⟩) (v := ?_) rfl (by kernel_rfl) (by kernel_rfl) (by kernel_rfl) (fun _ _ _ h => h) (Or.inl ⟨by kernel_rfl, ?_⟩) (by assumption) ?_
        rotate_left
        · (intro wS hSw; (try dsimp only at hSw); obtain ⟨q0, q1, _, _⟩ := hSw.a.two; have e0 := (hSw.bel.cell (p := ⟨b, o, none⟩) hbl).trans hc0; have e1 := (hSw.bel.cell (p := ⟨b, o + 1, none⟩) hbl).trans hc1; clear hSw; go_simp; (try with_reducible rfl))
        (try simp only [Act.put, List.setIfInBounds_toArray, List.set_cons_zero, List.set_cons_succ])
        refine wpAnyH_ready (rs := [1, 10]) (by kernel_rfl) (by simp) ?_
        refine AllReadyH.cons (o := ⟨some 46, _, _, _, _, _⟩) rfl (fun K hK => ?_) ?_
        · (first | (obtain ⟨s0, s1, sf0, sf1⟩ := f0.two) | skip); go_simp
          refine hK.out _ _ ?_ (fun _ => ?_)
          · ((try dsimp only); (first | exact hst | exact hHeld | exact hHeld.apart (by omega) hb11 | exact hHeld.far (by omega) _ | exact hHeld.below (below_new _ _)))
          clear hK K
          (try simp only [Act.put, List.setIfInBounds_toArray, List.set_cons_zero, List.set_cons_succ])
          refine gen0 (T := fun W => ((fun W => RK w W f (some ad) cs.length cap)) W ∧ Blk W w1.heap.size 91 #[.int .i64 (f + i), .slice Am m.length cm] ∧ Own W (w1.heap.size + 1) 46 2 Am m.length cm (m.flatMap df) ∧ True) ?_ (fun wq2 hT => ?_)
          · exact ⟨by (first | exact hst | exact hHeld | exact hHeld.apart (by omega) hb11 | exact hHeld.far (by omega) _ | exact hHeld.below (below_new _ _)), by (first | assumption | exact hB.drew | exact World.ownsRow.drew hO | exact f0.alloc _ | exact World.ownsRow.alloc f1 _ | exact Sl.litsS _ 2 1 (df (kk, d)) 46 rfl (by simp [maxLen]) | exact (hb11.block _ (by omega)).trans f0 | exact ho11 | exact f1.set1 (by omega) _ | exact f0.set_ 1 _), by (first | assumption | exact hB.drew | exact World.ownsRow.drew hO | exact f0.alloc _ | exact World.ownsRow.alloc f1 _ | exact Sl.litsS _ 2 1 (df (kk, d)) 46 rfl (by simp [maxLen]) | exact (hb11.block _ (by omega)).trans f0 | exact ho11 | exact f1.set1 (by omega) _ | exact f0.set_ 1 _), trivial⟩
          (try clear f0 f1 f2 f3 f4 f5 f6 f7 f8 f9 f10 f11)
          obtain ⟨hHeld, f0, f1, -⟩ := hT
          refine wpAnyH_ready (rs := [10]) (by kernel_rfl) (by simp) ?_
          refine AllReadyH.cons (o := ⟨some 55, _, _, _, _, _⟩) rfl (fun K hK => ?_) AllReadyH.nil
          (first | (obtain ⟨s0, s1, sf0, sf1⟩ := f0.two) | skip); go_simp
          refine hK.out _ _ ?_ (fun _ => ?_)
          · ((try dsimp only); (first | exact hst | exact hHeld | exact hHeld.apart (by omega) hb11 | exact hHeld.far (by omega) _ | exact hHeld.below (below_new _ _)))
          clear hK K
          (try simp only [Act.put, List.setIfInBounds_toArray, List.set_cons_zero, List.set_cons_succ])
          refine gen0 (T := fun W => ((fun W => RK w W f (some ad) cs.length cap)) W ∧ Blk W w1.heap.size 91 #[.int .i64 (f + i), .slice Am m.length cm] ∧ Own W (w1.heap.size + 1) 46 2 Am m.length cm (m.flatMap df) ∧ Sl W 2 (some ⟨wq2.heap.size, 0, none⟩) 1 1 (df (kk, d)) ∧ True) ?_ (fun wq3 hT => ?_)
          · exact ⟨by (first | exact hst | exact hHeld | exact hHeld.apart (by omega) hb11 | exact hHeld.far (by omega) _ | exact hHeld.below (below_new _ _)), by (first | assumption | exact hB.drew | exact World.ownsRow.drew hO | exact f0.alloc _ | exact World.ownsRow.alloc f1 _ | exact Sl.litsS _ 2 1 (df (kk, d)) 46 rfl (by simp [maxLen]) | exact (hb11.block _ (by omega)).trans f0 | exact ho11 | exact f1.set1 (by omega) _ | exact f0.set_ 1 _), by (first | assumption | exact hB.drew | exact World.ownsRow.drew hO | exact f0.alloc _ | exact World.ownsRow.alloc f1 _ | exact Sl.litsS _ 2 1 (df (kk, d)) 46 rfl (by simp [maxLen]) | exact (hb11.block _ (by omega)).trans f0 | exact ho11 | exact f1.set1 (by omega) _ | exact f0.set_ 1 _), by (first | assumption | exact hB.drew | exact World.ownsRow.drew hO | exact f0.alloc _ | exact World.ownsRow.alloc f1 _ | exact Sl.litsS _ 2 1 (df (kk, d)) 46 rfl (by simp [maxLen]) | exact (hb11.block _ (by omega)).trans f0 | exact ho11 | exact f1.set1 (by omega) _ | exact f0.set_ 1 _), trivial⟩
          (try clear f0 f1 f2 f3 f4 f5 f6 f7 f8 f9 f10 f11)
          obtain ⟨hHeld, f0, f1, f2, -⟩ := hT
          refine wpAnyH_ready (rs := [11]) (by kernel_rfl) (by simp) ?_
          refine AllReadyH.cons (o := ⟨some 56, _, _, _, _, _⟩) rfl (fun K hK => ?_) AllReadyH.nil
          (refine step_dcells (by kernel_rfl) (.tmp 46) (.tmp 55) rfl (w1.heap.size + 1) Am cm m rfl f1 _ 1 1 [(kk, d)] rfl rfl f2 (by simp; omega) f0.lt ?_; intro A11 c11 m11 w11 hm11 ho11 hg11 hb11)
          refine hK.out _ _ ?_ (fun _ => ?_)
          · ((try dsimp only); (first | exact hst | exact hHeld | exact hHeld.apart (by omega) hb11 | exact hHeld.far (by omega) _ | exact hHeld.below (below_new _ _)))
          clear hK K
          (try simp only [Act.put, List.setIfInBounds_toArray, List.set_cons_zero, List.set_cons_succ])
          refine gen0 (T := fun W => ((fun W => RK w W f (some ad) cs.length cap)) W ∧ Blk W w1.heap.size 91 #[.int .i64 (f + i), .slice Am m.length cm] ∧ Own W (w1.heap.size + 1) 46 2 A11 m11.length c11 (m11.flatMap df) ∧ True) ?_ (fun wq4 hT => ?_)
          · exact ⟨by (first | exact hst | exact hHeld | exact hHeld.apart (by omega) hb11 | exact hHeld.far (by omega) _ | exact hHeld.below (below_new _ _)), by (first | assumption | exact hB.drew | exact World.ownsRow.drew hO | exact f0.alloc _ | exact World.ownsRow.alloc f1 _ | exact Sl.litsS _ 2 1 (df (kk, d)) 46 rfl (by simp [maxLen]) | exact (hb11.block _ (by omega)).trans f0 | exact ho11 | exact f1.set1 (by omega) _ | exact f0.set_ 1 _), by (first | assumption | exact hB.drew | exact World.ownsRow.drew hO | exact f0.alloc _ | exact World.ownsRow.alloc f1 _ | exact Sl.litsS _ 2 1 (df (kk, d)) 46 rfl (by simp [maxLen]) | exact (hb11.block _ (by omega)).trans f0 | exact ho11 | exact f1.set1 (by omega) _ | exact f0.set_ 1 _), trivial⟩
          (try clear f0 f1 f2 f3 f4 f5 f6 f7 f8 f9 f10 f11)
          obtain ⟨hHeld, f0, f1, -⟩ := hT
          refine wpAnyH_take (i := 12) (oi := ⟨some 57, _, _, _, _, _⟩) (v := ?_) rfl (by kernel_rfl) (by kernel_rfl) (by kernel_rfl) (fun _ _ _ h => h) (Or.inl ⟨by kernel_rfl, ?_⟩) (by assumption) ?_
          rotate_left
          · (intro wS hSw; (try dsimp only at hSw); obtain ⟨q0, q1, _, _⟩ := hSw.a.two; have e0 := (hSw.bel.cell (p := ⟨b, o, none⟩) hbl).trans hc0; have e1 := (hSw.bel.cell (p := ⟨b, o + 1, none⟩) hbl).trans hc1; clear hSw; go_simp; (try with_reducible rfl))
          (try simp only [Act.put, List.setIfInBounds_toArray, List.set_cons_zero, List.set_cons_succ])
          refine wpAnyH_ready (rs := [13]) (by kernel_rfl) (by simp) ?_
          refine AllReadyH.cons (o := ⟨none, _, _, _, _, _⟩) rfl (fun K hK => ?_) AllReadyH.nil
          obtain ⟨s0, s1, sf0, sf1⟩ := f0.two
          (first | (obtain ⟨s0, s1, sf0, sf1⟩ := f0.two) | skip); go_simp
          refine hK.out _ _ ?_ (fun _ => ?_)
          · ((try dsimp only); (first | exact hst | exact hHeld | exact hHeld.apart (by omega) hb11 | exact hHeld.far (by omega) _ | exact hHeld.below (below_new _ _)))
          clear hK K
          (try simp only [Act.put, List.setIfInBounds_toArray, List.set_cons_zero, List.set_cons_succ])
          refine gen0 (T := fun W => ((fun W => RK w W f (some ad) cs.length cap)) W ∧ Own W (w1.heap.size + 1) 46 2 A11 m11.length c11 (m11.flatMap df) ∧ Blk W w1.heap.size 91 #[.int .i64 (f + i), .slice A11 m11.length c11] ∧ True) ?_ (fun wq5 hT => ?_)
          · exact ⟨by (first | exact hst | exact hHeld | exact hHeld.apart (by omega) hb11 | exact hHeld.far (by omega) _ | exact hHeld.below (below_new _ _)), by (first | assumption | exact hB.drew | exact World.ownsRow.drew hO | exact f0.alloc _ | exact World.ownsRow.alloc f1 _ | exact Sl.litsS _ 2 1 (df (kk, d)) 46 rfl (by simp [maxLen]) | exact (hb11.block _ (by omega)).trans f0 | exact ho11 | exact f1.set1 (by omega) _ | exact f0.set_ 1 _), by (first | assumption | exact hB.drew | exact World.ownsRow.drew hO | exact f0.alloc _ | exact World.ownsRow.alloc f1 _ | exact Sl.litsS _ 2 1 (df (kk, d)) 46 rfl (by simp [maxLen]) | exact (hb11.block _ (by omega)).trans f0 | exact ho11 | exact f1.set1 (by omega) _ | exact f0.set_ 1 _), trivial⟩
          (try clear f0 f1 f2 f3 f4 f5 f6 f7 f8 f9 f10 f11)
          obtain ⟨hHeld, f0, f1, -⟩ := hT
          refine wpAnyH_done (by kernel_rfl) ?_ _
          (go_wp2_with fail; go_roundw; (case rel => exact ⟨k + 1, A11, c11, m11, hlt, (by congr 1; omega), (show _ = _ from by rw [hm11.out, hm.out, hnx.out]), hHeld, f1, f0⟩); (case measure => simp [intOf]; omega))
        refine AllReadyH.cons (o := ⟨some 55, _, _, _, _, _⟩) rfl (fun K hK => ?_) ?_
        · (first | (obtain ⟨s0, s1, sf0, sf1⟩ := f0.two) | skip); go_simp
          refine hK.out _ _ ?_ (fun _ => ?_)
          · ((try dsimp only); (first | exact hst | exact hHeld | exact hHeld.apart (by omega) hb11 | exact hHeld.far (by omega) _ | exact hHeld.below (below_new _ _)))
          clear hK K
          (try simp only [Act.put, List.setIfInBounds_toArray, List.set_cons_zero, List.set_cons_succ])
          refine gen0 (T := fun W => ((fun W => RK w W f (some ad) cs.length cap)) W ∧ Blk W w1.heap.size 91 #[.int .i64 (f + i), .slice Am m.length cm] ∧ Own W (w1.heap.size + 1) 46 2 Am m.length cm (m.flatMap df) ∧ Sl W 2 (some ⟨wq1.heap.size, 0, none⟩) 1 1 (df (kk, d)) ∧ True) ?_ (fun wq6 hT => ?_)
          · exact ⟨by (first | exact hst | exact hHeld | exact hHeld.apart (by omega) hb11 | exact hHeld.far (by omega) _ | exact hHeld.below (below_new _ _)), by (first | assumption | exact hB.drew | exact World.ownsRow.drew hO | exact f0.alloc _ | exact World.ownsRow.alloc f1 _ | exact Sl.litsS _ 2 1 (df (kk, d)) 46 rfl (by simp [maxLen]) | exact (hb11.block _ (by omega)).trans f0 | exact ho11 | exact f1.set1 (by omega) _ | exact f0.set_ 1 _), by (first | assumption | exact hB.drew | exact World.ownsRow.drew hO | exact f0.alloc _ | exact World.ownsRow.alloc f1 _ | exact Sl.litsS _ 2 1 (df (kk, d)) 46 rfl (by simp [maxLen]) | exact (hb11.block _ (by omega)).trans f0 | exact ho11 | exact f1.set1 (by omega) _ | exact f0.set_ 1 _), by (first | assumption | exact hB.drew | exact World.ownsRow.drew hO | exact f0.alloc _ | exact World.ownsRow.alloc f1 _ | exact Sl.litsS _ 2 1 (df (kk, d)) 46 rfl (by simp [maxLen]) | exact (hb11.block _ (by omega)).trans f0 | exact ho11 | exact f1.set1 (by omega) _ | exact f0.set_ 1 _), trivial⟩
          (try clear f0 f1 f2 f3 f4 f5 f6 f7 f8 f9 f10 f11)
          obtain ⟨hHeld, f0, f1, f2, -⟩ := hT
          refine wpAnyH_ready (rs := [1]) (by kernel_rfl) (by simp) ?_
          refine AllReadyH.cons (o := ⟨some 46, _, _, _, _, _⟩) rfl (fun K hK => ?_) AllReadyH.nil
          (first | (obtain ⟨s0, s1, sf0, sf1⟩ := f0.two) | skip); go_simp
          refine hK.out _ _ ?_ (fun _ => ?_)
          · ((try dsimp only); (first | exact hst | exact hHeld | exact hHeld.apart (by omega) hb11 | exact hHeld.far (by omega) _ | exact hHeld.below (below_new _ _)))
          clear hK K
          (try simp only [Act.put, List.setIfInBounds_toArray, List.set_cons_zero, List.set_cons_succ])
          refine gen0 (T := fun W => ((fun W => RK w W f (some ad) cs.length cap)) W ∧ Blk W w1.heap.size 91 #[.int .i64 (f + i), .slice Am m.length cm] ∧ Own W (w1.heap.size + 1) 46 2 Am m.length cm (m.flatMap df) ∧ Sl W 2 (some ⟨wq1.heap.size, 0, none⟩) 1 1 (df (kk, d)) ∧ True) ?_ (fun wq7 hT => ?_)
          · exact ⟨by (first | exact hst | exact hHeld | exact hHeld.apart (by omega) hb11 | exact hHeld.far (by omega) _ | exact hHeld.below (below_new _ _)), by (first | assumption | exact hB.drew | exact World.ownsRow.drew hO | exact f0.alloc _ | exact World.ownsRow.alloc f1 _ | exact Sl.litsS _ 2 1 (df (kk, d)) 46 rfl (by simp [maxLen]) | exact (hb11.block _ (by omega)).trans f0 | exact ho11 | exact f1.set1 (by omega) _ | exact f0.set_ 1 _), by (first | assumption | exact hB.drew | exact World.ownsRow.drew hO | exact f0.alloc _ | exact World.ownsRow.alloc f1 _ | exact Sl.litsS _ 2 1 (df (kk, d)) 46 rfl (by simp [maxLen]) | exact (hb11.block _ (by omega)).trans f0 | exact ho11 | exact f1.set1 (by omega) _ | exact f0.set_ 1 _), by (first | assumption | exact hB.drew | exact World.ownsRow.drew hO | exact f0.alloc _ | exact World.ownsRow.alloc f1 _ | exact Sl.litsS _ 2 1 (df (kk, d)) 46 rfl (by simp [maxLen]) | exact (hb11.block _ (by omega)).trans f0 | exact ho11 | exact f1.set1 (by omega) _ | exact f0.set_ 1 _), trivial⟩
          (try clear f0 f1 f2 f3 f4 f5 f6 f7 f8 f9 f10 f11)
          obtain ⟨hHeld, f0, f1, f2, -⟩ := hT
          refine wpAnyH_ready (rs := [11]) (by kernel_rfl) (by simp) ?_
          refine AllReadyH.cons (o := ⟨some 56, _, _, _, _, _⟩) rfl (fun K hK => ?_) AllReadyH.nil
          (refine step_dcells (by kernel_rfl) (.tmp 46) (.tmp 55) rfl (w1.heap.size + 1) Am cm m rfl f1 _ 1 1 [(kk, d)] rfl rfl f2 (by simp; omega) f0.lt ?_; intro A11 c11 m11 w11 hm11 ho11 hg11 hb11)
          refine hK.out _ _ ?_ (fun _ => ?_)
          · ((try dsimp only); (first | exact hst | exact hHeld | exact hHeld.apart (by omega) hb11 | exact hHeld.far (by omega) _ | exact hHeld.below (below_new _ _)))
          clear hK K
          (try simp only [Act.put, List.setIfInBounds_toArray, List.set_cons_zero, List.set_cons_succ])
          refine gen0 (T := fun W => ((fun W => RK w W f (some ad) cs.length cap)) W ∧ Blk W w1.heap.size 91 #[.int .i64 (f + i), .slice Am m.length cm] ∧ Own W (w1.heap.size + 1) 46 2 A11 m11.length c11 (m11.flatMap df) ∧ True) ?_ (fun wq8 hT => ?_)
          · exact ⟨by (first | exact hst | exact hHeld | exact hHeld.apart (by omega) hb11 | exact hHeld.far (by omega) _ | exact hHeld.below (below_new _ _)), by (first | assumption | exact hB.drew | exact World.ownsRow.drew hO | exact f0.alloc _ | exact World.ownsRow.alloc f1 _ | exact Sl.litsS _ 2 1 (df (kk, d)) 46 rfl (by simp [maxLen]) | exact (hb11.block _ (by omega)).trans f0 | exact ho11 | exact f1.set1 (by omega) _ | exact f0.set_ 1 _), by (first | assumption | exact hB.drew | exact World.ownsRow.drew hO | exact f0.alloc _ | exact World.ownsRow.alloc f1 _ | exact Sl.litsS _ 2 1 (df (kk, d)) 46 rfl (by simp [maxLen]) | exact (hb11.block _ (by omega)).trans f0 | exact ho11 | exact f1.set1 (by omega) _ | exact f0.set_ 1 _), trivial⟩
          (try clear f0 f1 f2 f3 f4 f5 f6 f7 f8 f9 f10 f11)
          obtain ⟨hHeld, f0, f1, -⟩ := hT
          refine wpAnyH_take (i := 12) (oi := ⟨some 57, _, _, _, _, _⟩) (v := ?_) rfl (by kernel_rfl) (by kernel_rfl) (by kernel_rfl) (fun _ _ _ h => h) (Or.inl ⟨by kernel_rfl, ?_⟩) (by assumption) ?_
          rotate_left
          · (intro wS hSw; (try dsimp only at hSw); obtain ⟨q0, q1, _, _⟩ := hSw.a.two; have e0 := (hSw.bel.cell (p := ⟨b, o, none⟩) hbl).trans hc0; have e1 := (hSw.bel.cell (p := ⟨b, o + 1, none⟩) hbl).trans hc1; clear hSw; go_simp; (try with_reducible rfl))
          (try simp only [Act.put, List.setIfInBounds_toArray, List.set_cons_zero, List.set_cons_succ])
          refine wpAnyH_ready (rs := [13]) (by kernel_rfl) (by simp) ?_
          refine AllReadyH.cons (o := ⟨none, _, _, _, _, _⟩) rfl (fun K hK => ?_) AllReadyH.nil
          obtain ⟨s0, s1, sf0, sf1⟩ := f0.two
          (first | (obtain ⟨s0, s1, sf0, sf1⟩ := f0.two) | skip); go_simp
          refine hK.out _ _ ?_ (fun _ => ?_)
          · ((try dsimp only); (first | exact hst | exact hHeld | exact hHeld.apart (by omega) hb11 | exact hHeld.far (by omega) _ | exact hHeld.below (below_new _ _)))
          clear hK K
          (try simp only [Act.put, List.setIfInBounds_toArray, List.set_cons_zero, List.set_cons_succ])
          refine gen0 (T := fun W => ((fun W => RK w W f (some ad) cs.length cap)) W ∧ Own W (w1.heap.size + 1) 46 2 A11 m11.length c11 (m11.flatMap df) ∧ Blk W w1.heap.size 91 #[.int .i64 (f + i), .slice A11 m11.length c11] ∧ True) ?_ (fun wq9 hT => ?_)
          · exact ⟨by (first | exact hst | exact hHeld | exact hHeld.apart (by omega) hb11 | exact hHeld.far (by omega) _ | exact hHeld.below (below_new _ _)), by (first | assumption | exact hB.drew | exact World.ownsRow.drew hO | exact f0.alloc _ | exact World.ownsRow.alloc f1 _ | exact Sl.litsS _ 2 1 (df (kk, d)) 46 rfl (by simp [maxLen]) | exact (hb11.block _ (by omega)).trans f0 | exact ho11 | exact f1.set1 (by omega) _ | exact f0.set_ 1 _), by (first | assumption | exact hB.drew | exact World.ownsRow.drew hO | exact f0.alloc _ | exact World.ownsRow.alloc f1 _ | exact Sl.litsS _ 2 1 (df (kk, d)) 46 rfl (by simp [maxLen]) | exact (hb11.block _ (by omega)).trans f0 | exact ho11 | exact f1.set1 (by omega) _ | exact f0.set_ 1 _), trivial⟩
          (try clear f0 f1 f2 f3 f4 f5 f6 f7 f8 f9 f10 f11)
          obtain ⟨hHeld, f0, f1, -⟩ := hT
          refine wpAnyH_done (by kernel_rfl) ?_ _
          (go_wp2_with fail; go_roundw; (case rel => exact ⟨k + 1, A11, c11, m11, hlt, (by congr 1; omega), (show _ = _ from by rw [hm11.out, hm.out, hnx.out]), hHeld, f1, f0⟩); (case measure => simp [intOf]; omega))
        exact AllReadyH.nil
      · obtain ⟨s0, s1, _, _⟩ := hB.two
        obtain ⟨r0, r1, rf0, rf1⟩ := hJ.r.two
        have hkn : k = n := by omega
        subst hkn
        have hge : ¬ (f + (i : Int) + (k : Int) < f + (i : Int) + (k : Int)) := by omega
        go_wp2_with fail
        exact bodyPost_ret (res_rg2 rfl rfl (g := w.heap.size + 1) (hJ.r.set2 _ _)) rfl ⟨Am, cm, m, by rw [HJH.out]; rfl, (show _ = _ from by rw [HJH.out, hm.out]), (Own.set2 hO (by omega) _ _).more (by omega), bel_set (bel_set hJ.bel (by dsimp only; omega) _) (by dsimp only; omega) _⟩
  · have HJ : Hid (spart (f, cs) p q = ((0, []), schk (f, cs))) := (show _ = _ from by
      unfold spart
      rw [if_pos (by omega)])
    have hk1 : (((schk (f, cs) : Nat) : Int) != 0) = true := by simp; omega
    generalize schk (f, cs) = z at *
    obtain ⟨r0, r1, rf0, rf1⟩ := hJ1.r.two
    obtain ⟨a0, a1, _, _⟩ := hJ1.a.two
    go_wp2_with fail
    exact bodyPost_ret (res_rg2 rfl rfl (g := w.heap.size + 1) (hJ1.r.set2 _ _)) rfl ⟨none, 0, [], by rw [HJ.out]; rfl, (show _ = _ from by rw [HJ.out]), Own.none_ _ _ _ _, bel_set (bel_set hJ1.bel (by dsimp only; omega) _) (by dsimp only; omega) _⟩
end Go.Proofs.Ytkkcgibmcijhaaa
