/- WHAT IT HOLDS: the document's Join of segments, walked. -/
import Derived.Test.YtkkcgibmcijhaaaSegK
namespace Go.Proofs.Ytkkcgibmcijhaaa
open Go.RowKit
attribute [local go_sem ↓] Go.wp_at_zero Go.wp_at_succ

/-- what gives one of the document's segments and a number -/
def RGivesSg (w0 : World) (x : Sg × Nat) (e : Ending) (w' : World) : Prop :=
  ∃ A c m, e = .returned (.tuple #[cv x.1.1 A (List.length m) c, .int .i64 (x.2 : Nat)]) ∧ Hid (m = x.1.2) ∧ Own w' w0.heap.size 46 2 A m.length c (m.flatMap df) ∧ Below w0.heap.size w0 w'
/-- two boxed segments and the result's block -/
structure RJ (w W : World) (f : Int) (E : Option Addr) (n cap : Nat) (fb : Int) (G : Option Addr) (n2 cap2 : Nat) : Prop where
  bel : Below w.heap.size w W
  a : Blk W w.heap.size 91 #[.int .i64 f, .slice E n cap]
  b : Blk W (w.heap.size + 1) 91 #[.int .i64 fb, .slice G n2 cap2]
  r : Blk W (w.heap.size + 1 + 1) 91 #[.int .i64 0, .slice none 0 0]
section
variable {w W W' : World} {f fb : Int} {E G : Option Addr} {n cap n2 cap2 : Nat}
theorem RJ.below (h : RJ w W f E n cap fb G n2 cap2) (hb : Below W.heap.size W W') : RJ w W' f E n cap fb G n2 cap2 := ⟨bel_call h.bel hb, h.a.below hb, h.b.below hb, h.r.below hb⟩
theorem RJ.drew (h : RJ w W f E n cap fb G n2 cap2) : RJ w W.drew f E n cap fb G n2 cap2 := ⟨h.bel.drew, h.a.drew, h.b.drew, h.r.drew⟩
theorem RJ.far (h : RJ w W f E n cap fb G n2 cap2) {g i : Nat} (hg : w.heap.size + 1 + 1 < g) (u : Value) : RJ w (W.setCell ⟨g, i, none⟩ u) f E n cap fb G n2 cap2 :=
  ⟨bel_set h.bel (by show w.heap.size ≤ g; omega) u, h.a.far (by show w.heap.size ≠ g; omega) u, h.b.far (by show w.heap.size + 1 ≠ g; omega) u, h.r.far (by show w.heap.size + 1 + 1 ≠ g; omega) u⟩
theorem RJ.far2 (h : RJ w W f E n cap fb G n2 cap2) {g : Nat} (hg : w.heap.size + 1 + 1 < g) (u v : Value) : RJ w ((W.setCell ⟨g, 0, none⟩ u).setCell ⟨g, 1, none⟩ v) f E n cap fb G n2 cap2 := (h.far hg u).far hg v
theorem RJ.apart (h : RJ w W f E n cap fb G n2 cap2) {B : Nat} (hB : w.heap.size + 1 + 1 < B) (hb : Below B W W') : RJ w W' f E n cap fb G n2 cap2 :=
  ⟨h.bel.trans (hb.mono (by omega)), (hb.block _ (by omega)).trans h.a, (hb.block _ (by omega)).trans h.b, (hb.block _ (by omega)).trans h.r⟩
end
theorem Own.setT2 {w : World} {base g : Nat} {e t : TypeId} {size n c : Nat} {A : Option Addr} {xs : List Value} {cs : Array Value} (h : Own w base e size A n c xs) (hb : Blk w g t cs) (hne : e ≠ t) (u v : Value) : Own ((w.setCell ⟨g, 0, none⟩ u).setCell ⟨g, 1, none⟩ v) base e size A n c xs :=
  h.wrT ((Wr.set_ (Wr.refl (g := g) w) 0 u).set_ 1 v) hb hne
theorem Own.lit0 {w : World} {base : Nat} (size : Nat) (e : TypeId) (hb : base ≤ w.heap.size) : Own (w.alloc (.cells #[] e)) base e size (some ⟨w.heap.size, 0, none⟩) 0 0 [] := Own.lit size hb

set_option maxRecDepth 100000 in
set_option maxHeartbeats 2000000 in
theorem rSJoin_any {E G : Option Addr} {cap cap2 : Nat} (f fb : Int) (cs ds : List Ce) (w : World) (h : SlD w E cap cs) (h2 : SlD w G cap2 ds) :
    Calls Try.prog 62 #[cv f E cs.length cap, cv fb G ds.length cap2] w (RGivesSg w (sjoin (f, cs) (fb, ds))) := by
  have hR0 : RJ w ((((w.alloc (.cells #[.int .i64 f, .slice E cs.length cap] 91)).alloc (.cells #[.int .i64 fb, .slice G ds.length cap2] 91)).alloc (.cells #[.int .i64 0, .slice none 0 0] 91)).alloc (.cells #[.int .i64 f, .slice E cs.length cap, .int .i64 fb, .slice G ds.length cap2] 91)) f E cs.length cap fb G ds.length cap2 :=
    ⟨bel_alloc (bel_alloc (bel_alloc (below_new w _) _) _) _, (((Blk.new w _ _).alloc _).alloc _).alloc _, ((Blk.newAt (by simp) _ _).alloc _).alloc _, (Blk.newAt (by simp) _ _).alloc _⟩
  have hL0 := Blk.newAt (w := ((w.alloc (.cells #[.int .i64 f, .slice E cs.length cap] 91)).alloc (.cells #[.int .i64 fb, .slice G ds.length cap2] 91)).alloc (.cells #[.int .i64 0, .slice none 0 0] 91)) (g := w.heap.size + 1 + 1 + 1) (by simp) 91 #[.int .i64 f, .slice E cs.length cap, .int .i64 fb, .slice G ds.length cap2]
  go_enter Try.func62, Try.ntmps62
  go_wp2_with fail
  go_loopw [15] (fun x wr => ∃ k : Nat, k ≤ 2 ∧ x = .int .i64 k ∧ Hid (1 ≤ k → schk (f, cs) = 0) ∧ Hid (2 ≤ k → schk (fb, ds) = 0) ∧ RJ w wr f E cs.length cap fb G ds.length cap2 ∧ Blk wr (w.heap.size + 1 + 1 + 1) 91 #[.int .i64 f, .slice E cs.length cap, .int .i64 fb, .slice G ds.length cap2]) (fun x w => 2 - (intOf x).toNat)
  case atStart => exact ⟨0, by omega, rfl, (fun h => by omega), (fun h => by omega), hR0, hL0⟩
  case round =>
    obtain ⟨k, hk, rfl, hc1, hc2, hR, hL⟩ := hrel
    clear hR0 hL0
    obtain rfl | rfl | rfl : k = 0 ∨ k = 1 ∨ k = 2 := by omega
    · have x0 := hL.cell 0
      have x1 := hL.cell 1
      simp only [List.getElem?_toArray, List.getElem?_cons_zero, List.getElem?_cons_succ] at x0 x1
      go_wp2_with fail
      have hbn := below_new wr (.cells #[.int .i64 f, .slice E cs.length cap] 91)
      refine (rSCheck_any f cs _ (Sl.below h (bel_call hR.bel hbn))).mono ?_
      rintro e w4 ⟨rfl, hb4⟩
      have hR4 := (hR.below hbn).below hb4
      have hL4 := (hL.below hbn).below hb4
      clear hR hL hbn hb4 x0 x1
      rcases Nat.eq_zero_or_pos (schk (f, cs)) with h0 | h0
      · have hz := Lib.hid h0
        rw [hz.out]
        clear h0
        go_wp2_with fail
        go_roundw
        case rel => exact ⟨1, by omega, by rfl, (fun _ => hz.out), (fun h => by omega), hR4, hL4⟩
        case measure => simp [intOf]
      · have HJ : Hid (sjoin (f, cs) (fb, ds) = ((0, []), schk (f, cs))) := (show _ = _ from by
          unfold sjoin
          rw [if_pos (by omega)])
        have hk1 : (((schk (f, cs) : Nat) : Int) != 0) = true := by simp; omega
        generalize schk (f, cs) = q at *
        obtain ⟨r0, r1, rf0, rf1⟩ := hR4.r.two
        obtain ⟨a0, a1, _, _⟩ := hR4.a.two
        obtain ⟨b0, b1, _, _⟩ := hR4.b.two
        go_wp2_with fail
        exact bodyPost_ret (res_rg2 rfl rfl (g := w.heap.size + 1 + 1) (hR4.r.set2 _ _)) rfl ⟨none, 0, [], by rw [HJ.out]; rfl, (show _ = _ from by rw [HJ.out]), Own.none_ _ _ _ _, bel_set (bel_set hR4.bel (by dsimp only; omega) _) (by dsimp only; omega) _⟩
    · have x0 := hL.cell 2
      have x1 := hL.cell 3
      simp only [List.getElem?_toArray, List.getElem?_cons_zero, List.getElem?_cons_succ] at x0 x1
      go_wp2_with fail
      have hbn := below_new wr (.cells #[.int .i64 fb, .slice G ds.length cap2] 91)
      refine (rSCheck_any fb ds _ (Sl.below h2 (bel_call hR.bel hbn))).mono ?_
      rintro e w4 ⟨rfl, hb4⟩
      have hR4 := (hR.below hbn).below hb4
      have hL4 := (hL.below hbn).below hb4
      clear hR hL hbn hb4 x0 x1
      rcases Nat.eq_zero_or_pos (schk (fb, ds)) with h0 | h0
      · have hz := Lib.hid h0
        rw [hz.out]
        clear h0
        go_wp2_with fail
        go_roundw
        case rel => exact ⟨2, by omega, by rfl, (fun _ => hc1.out (by omega)), (fun h => hz.out), hR4, hL4⟩
        case measure => simp [intOf]
      · have HJ : Hid (sjoin (f, cs) (fb, ds) = ((0, []), schk (fb, ds))) := (show _ = _ from by
          unfold sjoin
          rw [if_neg (by rw [hc1.out (by omega)]; simp), if_pos (by omega)])
        have hk1 : (((schk (fb, ds) : Nat) : Int) != 0) = true := by simp; omega
        generalize schk (fb, ds) = q at *
        obtain ⟨r0, r1, rf0, rf1⟩ := hR4.r.two
        obtain ⟨a0, a1, _, _⟩ := hR4.a.two
        obtain ⟨b0, b1, _, _⟩ := hR4.b.two
        go_wp2_with fail
        exact bodyPost_ret (res_rg2 rfl rfl (g := w.heap.size + 1 + 1) (hR4.r.set2 _ _)) rfl ⟨none, 0, [], by rw [HJ.out]; rfl, (show _ = _ from by rw [HJ.out]), Own.none_ _ _ _ _, bel_set (bel_set hR4.bel (by dsimp only; omega) _) (by dsimp only; omega) _⟩
    · have ha := hc1.out (by omega)
      have hb := hc2.out (by omega)
      obtain ⟨hf0, hf1, hn64, hne, _⟩ := schk_ok ha
      obtain ⟨hg0, hg1, hn642, _, _⟩ := schk_ok hb
      dsimp only at hf0 hf1 hn64 hne hg0 hg1 hn642
      have HA := Lib.hid ha
      have HB := Lib.hid hb
      clear ha hb hc1 hc2 hL hk
      by_cases hj : fb = f + (cs.length : Int)
      · have hjb : (f + (cs.length : Int) != fb) = false := by simp [hj]
        have hS2 : Hid (sjoin (f, cs) (fb, ds) = if schk (f, cs ++ ds) ≠ 0 then ((0, []), schk (f, cs ++ ds)) else ((f, cs ++ ds), 0)) := (show _ = _ from by
          unfold sjoin
          rw [if_neg (by rw [HA.out]; simp), if_neg (by rw [HB.out]; simp), if_neg (by simp [hj])])
        clear hj
        obtain ⟨a0, a1, _, _⟩ := hR.a.two
        obtain ⟨b0, b1, _, _⟩ := hR.b.two
        have hz3 : w.heap.size + 1 + 1 < wr.heap.size := hR.r.lt
        go_upto_region 10 with (fail)
        go_cut [9] (fun s9 wz => ∃ (gz : Nat) (A : Option Addr) (c : Nat) (m : List Ce), s9 = .pointer (some ⟨gz, 0, none⟩) ∧ Hid (m = cs ++ ds) ∧ RJ w wz f E cs.length cap fb G ds.length cap2 ∧ Blk wz gz 91 #[.int .i64 f, .slice A (List.length m) c] ∧ Own wz wr.heap.size 46 2 A m.length c (m.flatMap df))
        case first =>
          have hst := hR.drew
          clear a0 a1 b0 b1 hR
          refine wp_region_held_drew (S := (fun W => RJ w W f E cs.length cap fb G ds.length cap2 ∧ wr.heap.size ≤ W.heap.size)) (by kernel_rfl) ?_ (fun hHeld => ?_)
          · exact ⟨hst, Nat.le_refl _⟩
          refine gen0 (T := fun W => ((fun W => RJ w W f E cs.length cap fb G ds.length cap2 ∧ wr.heap.size ≤ W.heap.size)) W ∧ True) ?_ (fun wq1 hT => ?_)
          · exact ⟨by (first | exact ⟨hst, Nat.le_refl _⟩ | exact ⟨hHeld.1.apart hz3 hb11, Nat.le_trans hHeld.2 hb11.size⟩ | exact ⟨hHeld.1.apart hz3 hb12, Nat.le_trans hHeld.2 hb12.size⟩ | exact ⟨hHeld.1.below (below_new _ _), Nat.le_trans hHeld.2 (by simp)⟩ | exact ⟨hHeld.1.far2 (by have := hHeld.2; omega) _ _, by have := hHeld.2; simp [World.setCell]; omega⟩), trivial⟩
          (try clear f0 f1 f2 f3 f4 f5 f6 f7 f8 f9 f10 f11)
          obtain ⟨hHeld, -⟩ := hT
          refine wpAnyH_take (i := 0) (oi := ⟨some 36, _, _, _, _, _⟩) (v := ?_) rfl (by kernel_rfl) (by kernel_rfl) (by kernel_rfl) (fun _ _ _ h => h) (Or.inl ⟨by kernel_rfl, ?_⟩) (by assumption) ?_
          rotate_left
          · (intro wS hSw; (try dsimp only at hSw); obtain ⟨p0, p1, _, _⟩ := hSw.1.a.two; obtain ⟨q0, q1, _, _⟩ := hSw.1.b.two; clear hSw; go_simp; (try with_reducible rfl))
          (try simp only [Act.put, List.setIfInBounds_toArray, List.set_cons_zero, List.set_cons_succ])
          refine wpAnyH_take (i := 1) (oi := ⟨some 37, _, _, _, _, _⟩) (v := ?_) rfl (by kernel_rfl) (by kernel_rfl) (by kernel_rfl) (fun _ _ _ h => h) (Or.inl ⟨by kernel_rfl, ?_⟩) (by assumption) ?_
          rotate_left
          · (intro wS hSw; (try dsimp only at hSw); obtain ⟨p0, p1, _, _⟩ := hSw.1.a.two; obtain ⟨q0, q1, _, _⟩ := hSw.1.b.two; clear hSw; go_simp; (try with_reducible rfl))
          (try simp only [Act.put, List.setIfInBounds_toArray, List.set_cons_zero, List.set_cons_succ])
          refine wpAnyH_take (i := 3) (oi := ⟨some 39, _, _, _, _, _⟩) (v := ?_) rfl (by kernel_rfl) (by kernel_rfl) (by kernel_rfl) (fun _ _ _ h => h) (Or.inl ⟨by kernel_rfl, ?_⟩) (by assumption) ?_
          rotate_left
          · (intro wS hSw; (try dsimp only at hSw); obtain ⟨p0, p1, _, _⟩ := hSw.1.a.two; obtain ⟨q0, q1, _, _⟩ := hSw.1.b.two; clear hSw; go_simp; (try with_reducible rfl))
          (try simp only [Act.put, List.setIfInBounds_toArray, List.set_cons_zero, List.set_cons_succ])
          refine wpAnyH_take (i := 4) (oi := ⟨some 40, _, _, _, _, _⟩) (v := ?_) rfl (by kernel_rfl) (by kernel_rfl) (by kernel_rfl) (fun _ _ _ h => h) (Or.inl ⟨by kernel_rfl, ?_⟩) (by assumption) ?_
          rotate_left
          · (intro wS hSw; (try dsimp only at hSw); obtain ⟨p0, p1, _, _⟩ := hSw.1.a.two; obtain ⟨q0, q1, _, _⟩ := hSw.1.b.two; clear hSw; go_simp; (try with_reducible rfl))
          (try simp only [Act.put, List.setIfInBounds_toArray, List.set_cons_zero, List.set_cons_succ])
          refine wpAnyH_take (i := 6) (oi := ⟨some 42, _, _, _, _, _⟩) (v := ?_) rfl (by kernel_rfl) (by kernel_rfl) (by kernel_rfl) (fun _ _ _ h => h) (Or.inl ⟨by kernel_rfl, ?_⟩) (by assumption) ?_
          rotate_left
          · (intro wS hSw; (try dsimp only at hSw); obtain ⟨p0, p1, _, _⟩ := hSw.1.a.two; obtain ⟨q0, q1, _, _⟩ := hSw.1.b.two; clear hSw; go_simp; (try with_reducible rfl))
          (try simp only [Act.put, List.setIfInBounds_toArray, List.set_cons_zero, List.set_cons_succ])
          refine wpAnyH_take (i := 7) (oi := ⟨some 43, _, _, _, _, _⟩) (v := ?_) rfl (by kernel_rfl) (by kernel_rfl) (by kernel_rfl) (fun _ _ _ h => h) (Or.inl ⟨by kernel_rfl, ?_⟩) (by assumption) ?_
          rotate_left
          · (intro wS hSw; (try dsimp only at hSw); obtain ⟨p0, p1, _, _⟩ := hSw.1.a.two; obtain ⟨q0, q1, _, _⟩ := hSw.1.b.two; clear hSw; go_simp; (try with_reducible rfl))
          (try simp only [Act.put, List.setIfInBounds_toArray, List.set_cons_zero, List.set_cons_succ])
          refine wpAnyH_ready (rs := [2, 10]) (by kernel_rfl) (by simp) ?_
          refine AllReadyH.cons (o := ⟨some 38, _, _, _, _, _⟩) rfl (fun K hK => ?_) ?_
          · go_simp
            refine hK.out _ _ ?_ (fun _ => ?_)
            · ((try dsimp only); (first | exact ⟨hst, Nat.le_refl _⟩ | exact ⟨hHeld.1.apart hz3 hb11, Nat.le_trans hHeld.2 hb11.size⟩ | exact ⟨hHeld.1.apart hz3 hb12, Nat.le_trans hHeld.2 hb12.size⟩ | exact ⟨hHeld.1.below (below_new _ _), Nat.le_trans hHeld.2 (by simp)⟩ | exact ⟨hHeld.1.far2 (by have := hHeld.2; omega) _ _, by have := hHeld.2; simp [World.setCell]; omega⟩))
            clear hK K
            (try simp only [Act.put, List.setIfInBounds_toArray, List.set_cons_zero, List.set_cons_succ])
            refine gen0 (T := fun W => ((fun W => RJ w W f E cs.length cap fb G ds.length cap2 ∧ wr.heap.size ≤ W.heap.size)) W ∧ Own W wr.heap.size 46 2 (some ⟨wq1.heap.size, 0, none⟩) 0 0 [] ∧ True) ?_ (fun wq2 hT => ?_)
            · exact ⟨by (first | exact ⟨hst, Nat.le_refl _⟩ | exact ⟨hHeld.1.apart hz3 hb11, Nat.le_trans hHeld.2 hb11.size⟩ | exact ⟨hHeld.1.apart hz3 hb12, Nat.le_trans hHeld.2 hb12.size⟩ | exact ⟨hHeld.1.below (below_new _ _), Nat.le_trans hHeld.2 (by simp)⟩ | exact ⟨hHeld.1.far2 (by have := hHeld.2; omega) _ _, by have := hHeld.2; simp [World.setCell]; omega⟩), by (first | assumption | exact Own.lit0 2 _ hHeld.2 | exact Blk.new _ _ _ | exact hHeld.2 | exact World.ownsRow.alloc f0 _ | exact f0.alloc _ | exact f1.alloc _ | exact ho11 | exact ho12 | exact Blk.append f1 f0 hg11 (by decide) | exact Blk.append f1 f0 hg12 (by decide) | exact f0.setT2 f1 (by decide) _ _ | exact f1.set2 _ _), trivial⟩
            (try clear f0 f1 f2 f3 f4 f5 f6 f7 f8 f9 f10 f11)
            obtain ⟨hHeld, f0, -⟩ := hT
            refine wpAnyH_ready (rs := [5, 10]) (by kernel_rfl) (by simp) ?_
            refine AllReadyH.cons (o := ⟨some 41, _, _, _, _, _⟩) rfl (fun K hK => ?_) ?_
            · (first | (refine step_dcells (by kernel_rfl) (.tmp 38) (.tmp 40) rfl wr.heap.size _ 0 [] rfl f0 E cap cs.length cs rfl rfl (Sl.below h hHeld.1.bel) (by simp; omega) hHeld.2 ?_; intro A11 c11 m11 w11 hm11 ho11 hg11 hb11; have hml11 : m11.length ≤ 64 := (by rw [hm11.out]; simpa using hn64)) | (refine step_dcells (by kernel_rfl) (.tmp 41) (.tmp 43) rfl wr.heap.size A11 c11 m11 rfl f0 G cap2 ds.length ds rfl rfl (Sl.below h2 hHeld.1.bel) (by omega) hHeld.2 ?_; intro A12 c12 m12 w12 hm12 ho12 hg12 hb12))
              refine hK.out _ _ ?_ (fun _ => ?_)
              · ((try dsimp only); (first | exact ⟨hst, Nat.le_refl _⟩ | exact ⟨hHeld.1.apart hz3 hb11, Nat.le_trans hHeld.2 hb11.size⟩ | exact ⟨hHeld.1.apart hz3 hb12, Nat.le_trans hHeld.2 hb12.size⟩ | exact ⟨hHeld.1.below (below_new _ _), Nat.le_trans hHeld.2 (by simp)⟩ | exact ⟨hHeld.1.far2 (by have := hHeld.2; omega) _ _, by have := hHeld.2; simp [World.setCell]; omega⟩))
              clear hK K
              (try simp only [Act.put, List.setIfInBounds_toArray, List.set_cons_zero, List.set_cons_succ])
              refine gen0 (T := fun W => ((fun W => RJ w W f E cs.length cap fb G ds.length cap2 ∧ wr.heap.size ≤ W.heap.size)) W ∧ Own W wr.heap.size 46 2 A11 m11.length c11 (m11.flatMap df) ∧ True) ?_ (fun wq3 hT => ?_)
              · exact ⟨by (first | exact ⟨hst, Nat.le_refl _⟩ | exact ⟨hHeld.1.apart hz3 hb11, Nat.le_trans hHeld.2 hb11.size⟩ | exact ⟨hHeld.1.apart hz3 hb12, Nat.le_trans hHeld.2 hb12.size⟩ | exact ⟨hHeld.1.below (below_new _ _), Nat.le_trans hHeld.2 (by simp)⟩ | exact ⟨hHeld.1.far2 (by have := hHeld.2; omega) _ _, by have := hHeld.2; simp [World.setCell]; omega⟩), by (first | assumption | exact Own.lit0 2 _ hHeld.2 | exact Blk.new _ _ _ | exact hHeld.2 | exact World.ownsRow.alloc f0 _ | exact f0.alloc _ | exact f1.alloc _ | exact ho11 | exact ho12 | exact Blk.append f1 f0 hg11 (by decide) | exact Blk.append f1 f0 hg12 (by decide) | exact f0.setT2 f1 (by decide) _ _ | exact f1.set2 _ _), trivial⟩
              (try clear f0 f1 f2 f3 f4 f5 f6 f7 f8 f9 f10 f11)
              obtain ⟨hHeld, f0, -⟩ := hT
              refine wpAnyH_ready (rs := [8, 10]) (by kernel_rfl) (by simp) ?_
              refine AllReadyH.cons (o := ⟨some 44, _, _, _, _, _⟩) rfl (fun K hK => ?_) ?_
              · (first | (refine step_dcells (by kernel_rfl) (.tmp 38) (.tmp 40) rfl wr.heap.size _ 0 [] rfl f0 E cap cs.length cs rfl rfl (Sl.below h hHeld.1.bel) (by simp; omega) hHeld.2 ?_; intro A11 c11 m11 w11 hm11 ho11 hg11 hb11; have hml11 : m11.length ≤ 64 := (by rw [hm11.out]; simpa using hn64)) | (refine step_dcells (by kernel_rfl) (.tmp 41) (.tmp 43) rfl wr.heap.size A11 c11 m11 rfl f0 G cap2 ds.length ds rfl rfl (Sl.below h2 hHeld.1.bel) (by omega) hHeld.2 ?_; intro A12 c12 m12 w12 hm12 ho12 hg12 hb12))
                refine hK.out _ _ ?_ (fun _ => ?_)
                · ((try dsimp only); (first | exact ⟨hst, Nat.le_refl _⟩ | exact ⟨hHeld.1.apart hz3 hb11, Nat.le_trans hHeld.2 hb11.size⟩ | exact ⟨hHeld.1.apart hz3 hb12, Nat.le_trans hHeld.2 hb12.size⟩ | exact ⟨hHeld.1.below (below_new _ _), Nat.le_trans hHeld.2 (by simp)⟩ | exact ⟨hHeld.1.far2 (by have := hHeld.2; omega) _ _, by have := hHeld.2; simp [World.setCell]; omega⟩))
                clear hK K
                (try simp only [Act.put, List.setIfInBounds_toArray, List.set_cons_zero, List.set_cons_succ])
                refine gen0 (T := fun W => ((fun W => RJ w W f E cs.length cap fb G ds.length cap2 ∧ wr.heap.size ≤ W.heap.size)) W ∧ Own W wr.heap.size 46 2 A12 m12.length c12 (m12.flatMap df) ∧ True) ?_ (fun wq4 hT => ?_)
                · exact ⟨by (first | exact ⟨hst, Nat.le_refl _⟩ | exact ⟨hHeld.1.apart hz3 hb11, Nat.le_trans hHeld.2 hb11.size⟩ | exact ⟨hHeld.1.apart hz3 hb12, Nat.le_trans hHeld.2 hb12.size⟩ | exact ⟨hHeld.1.below (below_new _ _), Nat.le_trans hHeld.2 (by simp)⟩ | exact ⟨hHeld.1.far2 (by have := hHeld.2; omega) _ _, by have := hHeld.2; simp [World.setCell]; omega⟩), by (first | assumption | exact Own.lit0 2 _ hHeld.2 | exact Blk.new _ _ _ | exact hHeld.2 | exact World.ownsRow.alloc f0 _ | exact f0.alloc _ | exact f1.alloc _ | exact ho11 | exact ho12 | exact Blk.append f1 f0 hg11 (by decide) | exact Blk.append f1 f0 hg12 (by decide) | exact f0.setT2 f1 (by decide) _ _ | exact f1.set2 _ _), trivial⟩
                (try clear f0 f1 f2 f3 f4 f5 f6 f7 f8 f9 f10 f11)
                obtain ⟨hHeld, f0, -⟩ := hT
                refine wpAnyH_take (i := 9) (oi := ⟨some 45, _, _, _, _, _⟩) (v := ?_) rfl (by kernel_rfl) (by kernel_rfl) (by kernel_rfl) (fun _ _ _ h => h) (Or.inl ⟨by kernel_rfl, ?_⟩) (by assumption) ?_
                rotate_left
                · (intro wS hSw; (try dsimp only at hSw); obtain ⟨p0, p1, _, _⟩ := hSw.1.a.two; obtain ⟨q0, q1, _, _⟩ := hSw.1.b.two; clear hSw; go_simp; (try with_reducible rfl))
                (try simp only [Act.put, List.setIfInBounds_toArray, List.set_cons_zero, List.set_cons_succ])
                refine wpAnyH_ready (rs := [10]) (by kernel_rfl) (by simp) ?_
                refine AllReadyH.cons (o := ⟨some 9, _, _, _, _, _⟩) rfl (fun K hK => ?_) AllReadyH.nil
                go_simp
                refine hK.out _ _ ?_ (fun _ => ?_)
                · ((try dsimp only); (first | exact ⟨hst, Nat.le_refl _⟩ | exact ⟨hHeld.1.apart hz3 hb11, Nat.le_trans hHeld.2 hb11.size⟩ | exact ⟨hHeld.1.apart hz3 hb12, Nat.le_trans hHeld.2 hb12.size⟩ | exact ⟨hHeld.1.below (below_new _ _), Nat.le_trans hHeld.2 (by simp)⟩ | exact ⟨hHeld.1.far2 (by have := hHeld.2; omega) _ _, by have := hHeld.2; simp [World.setCell]; omega⟩))
                clear hK K
                (try simp only [Act.put, List.setIfInBounds_toArray, List.set_cons_zero, List.set_cons_succ])
                refine gen0 (T := fun W => ((fun W => RJ w W f E cs.length cap fb G ds.length cap2 ∧ wr.heap.size ≤ W.heap.size)) W ∧ Own W wr.heap.size 46 2 A12 m12.length c12 (m12.flatMap df) ∧ Blk W wq4.heap.size 91 #[.int .i64 0, .slice none 0 0] ∧ wr.heap.size ≤ wq4.heap.size ∧ True) ?_ (fun wq5 hT => ?_)
                · exact ⟨by (first | exact ⟨hst, Nat.le_refl _⟩ | exact ⟨hHeld.1.apart hz3 hb11, Nat.le_trans hHeld.2 hb11.size⟩ | exact ⟨hHeld.1.apart hz3 hb12, Nat.le_trans hHeld.2 hb12.size⟩ | exact ⟨hHeld.1.below (below_new _ _), Nat.le_trans hHeld.2 (by simp)⟩ | exact ⟨hHeld.1.far2 (by have := hHeld.2; omega) _ _, by have := hHeld.2; simp [World.setCell]; omega⟩), by (first | assumption | exact Own.lit0 2 _ hHeld.2 | exact Blk.new _ _ _ | exact hHeld.2 | exact World.ownsRow.alloc f0 _ | exact f0.alloc _ | exact f1.alloc _ | exact ho11 | exact ho12 | exact Blk.append f1 f0 hg11 (by decide) | exact Blk.append f1 f0 hg12 (by decide) | exact f0.setT2 f1 (by decide) _ _ | exact f1.set2 _ _), by (first | assumption | exact Own.lit0 2 _ hHeld.2 | exact Blk.new _ _ _ | exact hHeld.2 | exact World.ownsRow.alloc f0 _ | exact f0.alloc _ | exact f1.alloc _ | exact ho11 | exact ho12 | exact Blk.append f1 f0 hg11 (by decide) | exact Blk.append f1 f0 hg12 (by decide) | exact f0.setT2 f1 (by decide) _ _ | exact f1.set2 _ _), by (first | assumption | exact Own.lit0 2 _ hHeld.2 | exact Blk.new _ _ _ | exact hHeld.2 | exact World.ownsRow.alloc f0 _ | exact f0.alloc _ | exact f1.alloc _ | exact ho11 | exact ho12 | exact Blk.append f1 f0 hg11 (by decide) | exact Blk.append f1 f0 hg12 (by decide) | exact f0.setT2 f1 (by decide) _ _ | exact f1.set2 _ _), trivial⟩
                (try clear f0 f1 f2 f3 f4 f5 f6 f7 f8 f9 f10 f11)
                obtain ⟨hHeld, f0, f1, f2, -⟩ := hT
                refine wpAnyH_ready (rs := [11]) (by kernel_rfl) (by simp) ?_
                refine AllReadyH.cons (o := ⟨none, _, _, _, _, _⟩) rfl (fun K hK => ?_) AllReadyH.nil
                obtain ⟨s0, s1, sf0, sf1⟩ := f1.two
                go_simp
                refine hK.out _ _ ?_ (fun _ => ?_)
                · ((try dsimp only); (first | exact ⟨hst, Nat.le_refl _⟩ | exact ⟨hHeld.1.apart hz3 hb11, Nat.le_trans hHeld.2 hb11.size⟩ | exact ⟨hHeld.1.apart hz3 hb12, Nat.le_trans hHeld.2 hb12.size⟩ | exact ⟨hHeld.1.below (below_new _ _), Nat.le_trans hHeld.2 (by simp)⟩ | exact ⟨hHeld.1.far2 (by have := hHeld.2; omega) _ _, by have := hHeld.2; simp [World.setCell]; omega⟩))
                clear hK K
                (try simp only [Act.put, List.setIfInBounds_toArray, List.set_cons_zero, List.set_cons_succ])
                refine gen0 (T := fun W => ((fun W => RJ w W f E cs.length cap fb G ds.length cap2 ∧ wr.heap.size ≤ W.heap.size)) W ∧ Own W wr.heap.size 46 2 A12 m12.length c12 (m12.flatMap df) ∧ Blk W wq4.heap.size 91 #[.int .i64 f, .slice A12 m12.length c12] ∧ wr.heap.size ≤ wq4.heap.size ∧ True) ?_ (fun wq6 hT => ?_)
                · exact ⟨by (first | exact ⟨hst, Nat.le_refl _⟩ | exact ⟨hHeld.1.apart hz3 hb11, Nat.le_trans hHeld.2 hb11.size⟩ | exact ⟨hHeld.1.apart hz3 hb12, Nat.le_trans hHeld.2 hb12.size⟩ | exact ⟨hHeld.1.below (below_new _ _), Nat.le_trans hHeld.2 (by simp)⟩ | exact ⟨hHeld.1.far2 (by have := hHeld.2; omega) _ _, by have := hHeld.2; simp [World.setCell]; omega⟩), by (first | assumption | exact Own.lit0 2 _ hHeld.2 | exact Blk.new _ _ _ | exact hHeld.2 | exact World.ownsRow.alloc f0 _ | exact f0.alloc _ | exact f1.alloc _ | exact ho11 | exact ho12 | exact Blk.append f1 f0 hg11 (by decide) | exact Blk.append f1 f0 hg12 (by decide) | exact f0.setT2 f1 (by decide) _ _ | exact f1.set2 _ _), by (first | assumption | exact Own.lit0 2 _ hHeld.2 | exact Blk.new _ _ _ | exact hHeld.2 | exact World.ownsRow.alloc f0 _ | exact f0.alloc _ | exact f1.alloc _ | exact ho11 | exact ho12 | exact Blk.append f1 f0 hg11 (by decide) | exact Blk.append f1 f0 hg12 (by decide) | exact f0.setT2 f1 (by decide) _ _ | exact f1.set2 _ _), by (first | assumption | exact Own.lit0 2 _ hHeld.2 | exact Blk.new _ _ _ | exact hHeld.2 | exact World.ownsRow.alloc f0 _ | exact f0.alloc _ | exact f1.alloc _ | exact ho11 | exact ho12 | exact Blk.append f1 f0 hg11 (by decide) | exact Blk.append f1 f0 hg12 (by decide) | exact f0.setT2 f1 (by decide) _ _ | exact f1.set2 _ _), trivial⟩
                (try clear f0 f1 f2 f3 f4 f5 f6 f7 f8 f9 f10 f11)
                obtain ⟨hHeld, f0, f1, f2, -⟩ := hT
                refine wpAnyH_done (by kernel_rfl) ?_ _
                (go_wp2_with fail; go_meet; exact ⟨_, A12, c12, m12, rfl, (show _ = _ from by rw [hm12.out, hm11.out, List.nil_append]), hHeld.1, f1, f0⟩)
              refine AllReadyH.cons (o := ⟨some 9, _, _, _, _, _⟩) rfl (fun K hK => ?_) ?_
              · go_simp
                refine hK.out _ _ ?_ (fun _ => ?_)
                · ((try dsimp only); (first | exact ⟨hst, Nat.le_refl _⟩ | exact ⟨hHeld.1.apart hz3 hb11, Nat.le_trans hHeld.2 hb11.size⟩ | exact ⟨hHeld.1.apart hz3 hb12, Nat.le_trans hHeld.2 hb12.size⟩ | exact ⟨hHeld.1.below (below_new _ _), Nat.le_trans hHeld.2 (by simp)⟩ | exact ⟨hHeld.1.far2 (by have := hHeld.2; omega) _ _, by have := hHeld.2; simp [World.setCell]; omega⟩))
                clear hK K
                (try simp only [Act.put, List.setIfInBounds_toArray, List.set_cons_zero, List.set_cons_succ])
                refine gen0 (T := fun W => ((fun W => RJ w W f E cs.length cap fb G ds.length cap2 ∧ wr.heap.size ≤ W.heap.size)) W ∧ Own W wr.heap.size 46 2 A11 m11.length c11 (m11.flatMap df) ∧ Blk W wq3.heap.size 91 #[.int .i64 0, .slice none 0 0] ∧ wr.heap.size ≤ wq3.heap.size ∧ True) ?_ (fun wq7 hT => ?_)
                · exact ⟨by (first | exact ⟨hst, Nat.le_refl _⟩ | exact ⟨hHeld.1.apart hz3 hb11, Nat.le_trans hHeld.2 hb11.size⟩ | exact ⟨hHeld.1.apart hz3 hb12, Nat.le_trans hHeld.2 hb12.size⟩ | exact ⟨hHeld.1.below (below_new _ _), Nat.le_trans hHeld.2 (by simp)⟩ | exact ⟨hHeld.1.far2 (by have := hHeld.2; omega) _ _, by have := hHeld.2; simp [World.setCell]; omega⟩), by (first | assumption | exact Own.lit0 2 _ hHeld.2 | exact Blk.new _ _ _ | exact hHeld.2 | exact World.ownsRow.alloc f0 _ | exact f0.alloc _ | exact f1.alloc _ | exact ho11 | exact ho12 | exact Blk.append f1 f0 hg11 (by decide) | exact Blk.append f1 f0 hg12 (by decide) | exact f0.setT2 f1 (by decide) _ _ | exact f1.set2 _ _), by (first | assumption | exact Own.lit0 2 _ hHeld.2 | exact Blk.new _ _ _ | exact hHeld.2 | exact World.ownsRow.alloc f0 _ | exact f0.alloc _ | exact f1.alloc _ | exact ho11 | exact ho12 | exact Blk.append f1 f0 hg11 (by decide) | exact Blk.append f1 f0 hg12 (by decide) | exact f0.setT2 f1 (by decide) _ _ | exact f1.set2 _ _), by (first | assumption | exact Own.lit0 2 _ hHeld.2 | exact Blk.new _ _ _ | exact hHeld.2 | exact World.ownsRow.alloc f0 _ | exact f0.alloc _ | exact f1.alloc _ | exact ho11 | exact ho12 | exact Blk.append f1 f0 hg11 (by decide) | exact Blk.append f1 f0 hg12 (by decide) | exact f0.setT2 f1 (by decide) _ _ | exact f1.set2 _ _), trivial⟩
                (try clear f0 f1 f2 f3 f4 f5 f6 f7 f8 f9 f10 f11)
                obtain ⟨hHeld, f0, f1, f2, -⟩ := hT
                refine wpAnyH_ready (rs := [8]) (by kernel_rfl) (by simp) ?_
                refine AllReadyH.cons (o := ⟨some 44, _, _, _, _, _⟩) rfl (fun K hK => ?_) AllReadyH.nil
                (first | (refine step_dcells (by kernel_rfl) (.tmp 38) (.tmp 40) rfl wr.heap.size _ 0 [] rfl f0 E cap cs.length cs rfl rfl (Sl.below h hHeld.1.bel) (by simp; omega) hHeld.2 ?_; intro A11 c11 m11 w11 hm11 ho11 hg11 hb11; have hml11 : m11.length ≤ 64 := (by rw [hm11.out]; simpa using hn64)) | (refine step_dcells (by kernel_rfl) (.tmp 41) (.tmp 43) rfl wr.heap.size A11 c11 m11 rfl f0 G cap2 ds.length ds rfl rfl (Sl.below h2 hHeld.1.bel) (by omega) hHeld.2 ?_; intro A12 c12 m12 w12 hm12 ho12 hg12 hb12))
                refine hK.out _ _ ?_ (fun _ => ?_)
                · ((try dsimp only); (first | exact ⟨hst, Nat.le_refl _⟩ | exact ⟨hHeld.1.apart hz3 hb11, Nat.le_trans hHeld.2 hb11.size⟩ | exact ⟨hHeld.1.apart hz3 hb12, Nat.le_trans hHeld.2 hb12.size⟩ | exact ⟨hHeld.1.below (below_new _ _), Nat.le_trans hHeld.2 (by simp)⟩ | exact ⟨hHeld.1.far2 (by have := hHeld.2; omega) _ _, by have := hHeld.2; simp [World.setCell]; omega⟩))
                clear hK K
                (try simp only [Act.put, List.setIfInBounds_toArray, List.set_cons_zero, List.set_cons_succ])
                refine gen0 (T := fun W => ((fun W => RJ w W f E cs.length cap fb G ds.length cap2 ∧ wr.heap.size ≤ W.heap.size)) W ∧ Own W wr.heap.size 46 2 A12 m12.length c12 (m12.flatMap df) ∧ Blk W wq3.heap.size 91 #[.int .i64 0, .slice none 0 0] ∧ wr.heap.size ≤ wq3.heap.size ∧ True) ?_ (fun wq8 hT => ?_)
                · exact ⟨by (first | exact ⟨hst, Nat.le_refl _⟩ | exact ⟨hHeld.1.apart hz3 hb11, Nat.le_trans hHeld.2 hb11.size⟩ | exact ⟨hHeld.1.apart hz3 hb12, Nat.le_trans hHeld.2 hb12.size⟩ | exact ⟨hHeld.1.below (below_new _ _), Nat.le_trans hHeld.2 (by simp)⟩ | exact ⟨hHeld.1.far2 (by have := hHeld.2; omega) _ _, by have := hHeld.2; simp [World.setCell]; omega⟩), by (first | assumption | exact Own.lit0 2 _ hHeld.2 | exact Blk.new _ _ _ | exact hHeld.2 | exact World.ownsRow.alloc f0 _ | exact f0.alloc _ | exact f1.alloc _ | exact ho11 | exact ho12 | exact Blk.append f1 f0 hg11 (by decide) | exact Blk.append f1 f0 hg12 (by decide) | exact f0.setT2 f1 (by decide) _ _ | exact f1.set2 _ _), by (first | assumption | exact Own.lit0 2 _ hHeld.2 | exact Blk.new _ _ _ | exact hHeld.2 | exact World.ownsRow.alloc f0 _ | exact f0.alloc _ | exact f1.alloc _ | exact ho11 | exact ho12 | exact Blk.append f1 f0 hg11 (by decide) | exact Blk.append f1 f0 hg12 (by decide) | exact f0.setT2 f1 (by decide) _ _ | exact f1.set2 _ _), by (first | assumption | exact Own.lit0 2 _ hHeld.2 | exact Blk.new _ _ _ | exact hHeld.2 | exact World.ownsRow.alloc f0 _ | exact f0.alloc _ | exact f1.alloc _ | exact ho11 | exact ho12 | exact Blk.append f1 f0 hg11 (by decide) | exact Blk.append f1 f0 hg12 (by decide) | exact f0.setT2 f1 (by decide) _ _ | exact f1.set2 _ _), trivial⟩
                (try clear f0 f1 f2 f3 f4 f5 f6 f7 f8 f9 f10 f11)
                obtain ⟨hHeld, f0, f1, f2, -⟩ := hT
                refine wpAnyH_take (i := 9) (oi := ⟨some 45, _, _, _, _, _⟩) (v := ?_) rfl (by kernel_rfl) (by kernel_rfl) (by kernel_rfl) (fun _ _ _ h => h) (Or.inl ⟨by kernel_rfl, ?_⟩) (by assumption) ?_
                rotate_left
                · (intro wS hSw; (try dsimp only at hSw); obtain ⟨p0, p1, _, _⟩ := hSw.1.a.two; obtain ⟨q0, q1, _, _⟩ := hSw.1.b.two; clear hSw; go_simp; (try with_reducible rfl))
                (try simp only [Act.put, List.setIfInBounds_toArray, List.set_cons_zero, List.set_cons_succ])
                refine wpAnyH_ready (rs := [11]) (by kernel_rfl) (by simp) ?_
                refine AllReadyH.cons (o := ⟨none, _, _, _, _, _⟩) rfl (fun K hK => ?_) AllReadyH.nil
                obtain ⟨s0, s1, sf0, sf1⟩ := f1.two
                go_simp
                refine hK.out _ _ ?_ (fun _ => ?_)
                · ((try dsimp only); (first | exact ⟨hst, Nat.le_refl _⟩ | exact ⟨hHeld.1.apart hz3 hb11, Nat.le_trans hHeld.2 hb11.size⟩ | exact ⟨hHeld.1.apart hz3 hb12, Nat.le_trans hHeld.2 hb12.size⟩ | exact ⟨hHeld.1.below (below_new _ _), Nat.le_trans hHeld.2 (by simp)⟩ | exact ⟨hHeld.1.far2 (by have := hHeld.2; omega) _ _, by have := hHeld.2; simp [World.setCell]; omega⟩))
                clear hK K
                (try simp only [Act.put, List.setIfInBounds_toArray, List.set_cons_zero, List.set_cons_succ])
                refine gen0 (T := fun W => ((fun W => RJ w W f E cs.length cap fb G ds.length cap2 ∧ wr.heap.size ≤ W.heap.size)) W ∧ Own W wr.heap.size 46 2 A12 m12.length c12 (m12.flatMap df) ∧ Blk W wq3.heap.size 91 #[.int .i64 f, .slice A12 m12.length c12] ∧ wr.heap.size ≤ wq3.heap.size ∧ True) ?_ (fun wq9 hT => ?_)
                · exact ⟨by (first | exact ⟨hst, Nat.le_refl _⟩ | exact ⟨hHeld.1.apart hz3 hb11, Nat.le_trans hHeld.2 hb11.size⟩ | exact ⟨hHeld.1.apart hz3 hb12, Nat.le_trans hHeld.2 hb12.size⟩ | exact ⟨hHeld.1.below (below_new _ _), Nat.le_trans hHeld.2 (by simp)⟩ | exact ⟨hHeld.1.far2 (by have := hHeld.2; omega) _ _, by have := hHeld.2; simp [World.setCell]; omega⟩), by (first | assumption | exact Own.lit0 2 _ hHeld.2 | exact Blk.new _ _ _ | exact hHeld.2 | exact World.ownsRow.alloc f0 _ | exact f0.alloc _ | exact f1.alloc _ | exact ho11 | exact ho12 | exact Blk.append f1 f0 hg11 (by decide) | exact Blk.append f1 f0 hg12 (by decide) | exact f0.setT2 f1 (by decide) _ _ | exact f1.set2 _ _), by (first | assumption | exact Own.lit0 2 _ hHeld.2 | exact Blk.new _ _ _ | exact hHeld.2 | exact World.ownsRow.alloc f0 _ | exact f0.alloc _ | exact f1.alloc _ | exact ho11 | exact ho12 | exact Blk.append f1 f0 hg11 (by decide) | exact Blk.append f1 f0 hg12 (by decide) | exact f0.setT2 f1 (by decide) _ _ | exact f1.set2 _ _), by (first | assumption | exact Own.lit0 2 _ hHeld.2 | exact Blk.new _ _ _ | exact hHeld.2 | exact World.ownsRow.alloc f0 _ | exact f0.alloc _ | exact f1.alloc _ | exact ho11 | exact ho12 | exact Blk.append f1 f0 hg11 (by decide) | exact Blk.append f1 f0 hg12 (by decide) | exact f0.setT2 f1 (by decide) _ _ | exact f1.set2 _ _), trivial⟩
                (try clear f0 f1 f2 f3 f4 f5 f6 f7 f8 f9 f10 f11)
                obtain ⟨hHeld, f0, f1, f2, -⟩ := hT
                refine wpAnyH_done (by kernel_rfl) ?_ _
                (go_wp2_with fail; go_meet; exact ⟨_, A12, c12, m12, rfl, (show _ = _ from by rw [hm12.out, hm11.out, List.nil_append]), hHeld.1, f1, f0⟩)
              exact AllReadyH.nil
            refine AllReadyH.cons (o := ⟨some 9, _, _, _, _, _⟩) rfl (fun K hK => ?_) ?_
            · go_simp
              refine hK.out _ _ ?_ (fun _ => ?_)
              · ((try dsimp only); (first | exact ⟨hst, Nat.le_refl _⟩ | exact ⟨hHeld.1.apart hz3 hb11, Nat.le_trans hHeld.2 hb11.size⟩ | exact ⟨hHeld.1.apart hz3 hb12, Nat.le_trans hHeld.2 hb12.size⟩ | exact ⟨hHeld.1.below (below_new _ _), Nat.le_trans hHeld.2 (by simp)⟩ | exact ⟨hHeld.1.far2 (by have := hHeld.2; omega) _ _, by have := hHeld.2; simp [World.setCell]; omega⟩))
              clear hK K
              (try simp only [Act.put, List.setIfInBounds_toArray, List.set_cons_zero, List.set_cons_succ])
              refine gen0 (T := fun W => ((fun W => RJ w W f E cs.length cap fb G ds.length cap2 ∧ wr.heap.size ≤ W.heap.size)) W ∧ Own W wr.heap.size 46 2 (some ⟨wq1.heap.size, 0, none⟩) 0 0 [] ∧ Blk W wq2.heap.size 91 #[.int .i64 0, .slice none 0 0] ∧ wr.heap.size ≤ wq2.heap.size ∧ True) ?_ (fun wq10 hT => ?_)
              · exact ⟨by (first | exact ⟨hst, Nat.le_refl _⟩ | exact ⟨hHeld.1.apart hz3 hb11, Nat.le_trans hHeld.2 hb11.size⟩ | exact ⟨hHeld.1.apart hz3 hb12, Nat.le_trans hHeld.2 hb12.size⟩ | exact ⟨hHeld.1.below (below_new _ _), Nat.le_trans hHeld.2 (by simp)⟩ | exact ⟨hHeld.1.far2 (by have := hHeld.2; omega) _ _, by have := hHeld.2; simp [World.setCell]; omega⟩), by (first | assumption | exact Own.lit0 2 _ hHeld.2 | exact Blk.new _ _ _ | exact hHeld.2 | exact World.ownsRow.alloc f0 _ | exact f0.alloc _ | exact f1.alloc _ | exact ho11 | exact ho12 | exact Blk.append f1 f0 hg11 (by decide) | exact Blk.append f1 f0 hg12 (by decide) | exact f0.setT2 f1 (by decide) _ _ | exact f1.set2 _ _), by (first | assumption | exact Own.lit0 2 _ hHeld.2 | exact Blk.new _ _ _ | exact hHeld.2 | exact World.ownsRow.alloc f0 _ | exact f0.alloc _ | exact f1.alloc _ | exact ho11 | exact ho12 | exact Blk.append f1 f0 hg11 (by decide) | exact Blk.append f1 f0 hg12 (by decide) | exact f0.setT2 f1 (by decide) _ _ | exact f1.set2 _ _), by (first | assumption | exact Own.lit0 2 _ hHeld.2 | exact Blk.new _ _ _ | exact hHeld.2 | exact World.ownsRow.alloc f0 _ | exact f0.alloc _ | exact f1.alloc _ | exact ho11 | exact ho12 | exact Blk.append f1 f0 hg11 (by decide) | exact Blk.append f1 f0 hg12 (by decide) | exact f0.setT2 f1 (by decide) _ _ | exact f1.set2 _ _), trivial⟩
              (try clear f0 f1 f2 f3 f4 f5 f6 f7 f8 f9 f10 f11)
              obtain ⟨hHeld, f0, f1, f2, -⟩ := hT
              refine wpAnyH_ready (rs := [5]) (by kernel_rfl) (by simp) ?_
              refine AllReadyH.cons (o := ⟨some 41, _, _, _, _, _⟩) rfl (fun K hK => ?_) AllReadyH.nil
              (first | (refine step_dcells (by kernel_rfl) (.tmp 38) (.tmp 40) rfl wr.heap.size _ 0 [] rfl f0 E cap cs.length cs rfl rfl (Sl.below h hHeld.1.bel) (by simp; omega) hHeld.2 ?_; intro A11 c11 m11 w11 hm11 ho11 hg11 hb11; have hml11 : m11.length ≤ 64 := (by rw [hm11.out]; simpa using hn64)) | (refine step_dcells (by kernel_rfl) (.tmp 41) (.tmp 43) rfl wr.heap.size A11 c11 m11 rfl f0 G cap2 ds.length ds rfl rfl (Sl.below h2 hHeld.1.bel) (by omega) hHeld.2 ?_; intro A12 c12 m12 w12 hm12 ho12 hg12 hb12))
              refine hK.out _ _ ?_ (fun _ => ?_)
              · ((try dsimp only); (first | exact ⟨hst, Nat.le_refl _⟩ | exact ⟨hHeld.1.apart hz3 hb11, Nat.le_trans hHeld.2 hb11.size⟩ | exact ⟨hHeld.1.apart hz3 hb12, Nat.le_trans hHeld.2 hb12.size⟩ | exact ⟨hHeld.1.below (below_new _ _), Nat.le_trans hHeld.2 (by simp)⟩ | exact ⟨hHeld.1.far2 (by have := hHeld.2; omega) _ _, by have := hHeld.2; simp [World.setCell]; omega⟩))
              clear hK K
              (try simp only [Act.put, List.setIfInBounds_toArray, List.set_cons_zero, List.set_cons_succ])
              refine gen0 (T := fun W => ((fun W => RJ w W f E cs.length cap fb G ds.length cap2 ∧ wr.heap.size ≤ W.heap.size)) W ∧ Own W wr.heap.size 46 2 A11 m11.length c11 (m11.flatMap df) ∧ Blk W wq2.heap.size 91 #[.int .i64 0, .slice none 0 0] ∧ wr.heap.size ≤ wq2.heap.size ∧ True) ?_ (fun wq11 hT => ?_)
              · exact ⟨by (first | exact ⟨hst, Nat.le_refl _⟩ | exact ⟨hHeld.1.apart hz3 hb11, Nat.le_trans hHeld.2 hb11.size⟩ | exact ⟨hHeld.1.apart hz3 hb12, Nat.le_trans hHeld.2 hb12.size⟩ | exact ⟨hHeld.1.below (below_new _ _), Nat.le_trans hHeld.2 (by simp)⟩ | exact ⟨hHeld.1.far2 (by have := hHeld.2; omega) _ _, by have := hHeld.2; simp [World.setCell]; omega⟩), by (first | assumption | exact Own.lit0 2 _ hHeld.2 | exact Blk.new _ _ _ | exact hHeld.2 | exact World.ownsRow.alloc f0 _ | exact f0.alloc _ | exact f1.alloc _ | exact ho11 | exact ho12 | exact Blk.append f1 f0 hg11 (by decide) | exact Blk.append f1 f0 hg12 (by decide) | exact f0.setT2 f1 (by decide) _ _ | exact f1.set2 _ _), by (first | assumption | exact Own.lit0 2 _ hHeld.2 | exact Blk.new _ _ _ | exact hHeld.2 | exact World.ownsRow.alloc f0 _ | exact f0.alloc _ | exact f1.alloc _ | exact ho11 | exact ho12 | exact Blk.append f1 f0 hg11 (by decide) | exact Blk.append f1 f0 hg12 (by decide) | exact f0.setT2 f1 (by decide) _ _ | exact f1.set2 _ _), by (first | assumption | exact Own.lit0 2 _ hHeld.2 | exact Blk.new _ _ _ | exact hHeld.2 | exact World.ownsRow.alloc f0 _ | exact f0.alloc _ | exact f1.alloc _ | exact ho11 | exact ho12 | exact Blk.append f1 f0 hg11 (by decide) | exact Blk.append f1 f0 hg12 (by decide) | exact f0.setT2 f1 (by decide) _ _ | exact f1.set2 _ _), trivial⟩
              (try clear f0 f1 f2 f3 f4 f5 f6 f7 f8 f9 f10 f11)
              obtain ⟨hHeld, f0, f1, f2, -⟩ := hT
              refine wpAnyH_ready (rs := [8]) (by kernel_rfl) (by simp) ?_
              refine AllReadyH.cons (o := ⟨some 44, _, _, _, _, _⟩) rfl (fun K hK => ?_) AllReadyH.nil
              (first | (refine step_dcells (by kernel_rfl) (.tmp 38) (.tmp 40) rfl wr.heap.size _ 0 [] rfl f0 E cap cs.length cs rfl rfl (Sl.below h hHeld.1.bel) (by simp; omega) hHeld.2 ?_; intro A11 c11 m11 w11 hm11 ho11 hg11 hb11; have hml11 : m11.length ≤ 64 := (by rw [hm11.out]; simpa using hn64)) | (refine step_dcells (by kernel_rfl) (.tmp 41) (.tmp 43) rfl wr.heap.size A11 c11 m11 rfl f0 G cap2 ds.length ds rfl rfl (Sl.below h2 hHeld.1.bel) (by omega) hHeld.2 ?_; intro A12 c12 m12 w12 hm12 ho12 hg12 hb12))
              refine hK.out _ _ ?_ (fun _ => ?_)
              · ((try dsimp only); (first | exact ⟨hst, Nat.le_refl _⟩ | exact ⟨hHeld.1.apart hz3 hb11, Nat.le_trans hHeld.2 hb11.size⟩ | exact ⟨hHeld.1.apart hz3 hb12, Nat.le_trans hHeld.2 hb12.size⟩ | exact ⟨hHeld.1.below (below_new _ _), Nat.le_trans hHeld.2 (by simp)⟩ | exact ⟨hHeld.1.far2 (by have := hHeld.2; omega) _ _, by have := hHeld.2; simp [World.setCell]; omega⟩))
              clear hK K
              (try simp only [Act.put, List.setIfInBounds_toArray, List.set_cons_zero, List.set_cons_succ])
              refine gen0 (T := fun W => ((fun W => RJ w W f E cs.length cap fb G ds.length cap2 ∧ wr.heap.size ≤ W.heap.size)) W ∧ Own W wr.heap.size 46 2 A12 m12.length c12 (m12.flatMap df) ∧ Blk W wq2.heap.size 91 #[.int .i64 0, .slice none 0 0] ∧ wr.heap.size ≤ wq2.heap.size ∧ True) ?_ (fun wq12 hT => ?_)
              · exact ⟨by (first | exact ⟨hst, Nat.le_refl _⟩ | exact ⟨hHeld.1.apart hz3 hb11, Nat.le_trans hHeld.2 hb11.size⟩ | exact ⟨hHeld.1.apart hz3 hb12, Nat.le_trans hHeld.2 hb12.size⟩ | exact ⟨hHeld.1.below (below_new _ _), Nat.le_trans hHeld.2 (by simp)⟩ | exact ⟨hHeld.1.far2 (by have := hHeld.2; omega) _ _, by have := hHeld.2; simp [World.setCell]; omega⟩), by (first | assumption | exact Own.lit0 2 _ hHeld.2 | exact Blk.new _ _ _ | exact hHeld.2 | exact World.ownsRow.alloc f0 _ | exact f0.alloc _ | exact f1.alloc _ | exact ho11 | exact ho12 | exact Blk.append f1 f0 hg11 (by decide) | exact Blk.append f1 f0 hg12 (by decide) | exact f0.setT2 f1 (by decide) _ _ | exact f1.set2 _ _), by (first | assumption | exact Own.lit0 2 _ hHeld.2 | exact Blk.new _ _ _ | exact hHeld.2 | exact World.ownsRow.alloc f0 _ | exact f0.alloc _ | exact f1.alloc _ | exact ho11 | exact ho12 | exact Blk.append f1 f0 hg11 (by decide) | exact Blk.append f1 f0 hg12 (by decide) | exact f0.setT2 f1 (by decide) _ _ | exact f1.set2 _ _), by (first | assumption | exact Own.lit0 2 _ hHeld.2 | exact Blk.new _ _ _ | exact hHeld.2 | exact World.ownsRow.alloc f0 _ | exact f0.alloc _ | exact f1.alloc _ | exact ho11 | exact ho12 | exact Blk.append f1 f0 hg11 (by decide) | exact Blk.append f1 f0 hg12 (by decide) | exact f0.setT2 f1 (by decide) _ _ | exact f1.set2 _ _), trivial⟩
              (try clear f0 f1 f2 f3 f4 f5 f6 f7 f8 f9 f10 f11)
              obtain ⟨hHeld, f0, f1, f2, -⟩ := hT
              refine wpAnyH_take (i := 9) (oi := ⟨some 45, _, _, _, _, _⟩) (v := ?_) rfl (by kernel_rfl) (by kernel_rfl) (by kernel_rfl) (fun _ _ _ h => h) (Or.inl ⟨by kernel_rfl, ?_⟩) (by assumption) ?_
              rotate_left
              · (intro wS hSw; (try dsimp only at hSw); obtain ⟨p0, p1, _, _⟩ := hSw.1.a.two; obtain ⟨q0, q1, _, _⟩ := hSw.1.b.two; clear hSw; go_simp; (try with_reducible rfl))
              (try simp only [Act.put, List.setIfInBounds_toArray, List.set_cons_zero, List.set_cons_succ])
              refine wpAnyH_ready (rs := [11]) (by kernel_rfl) (by simp) ?_
              refine AllReadyH.cons (o := ⟨none, _, _, _, _, _⟩) rfl (fun K hK => ?_) AllReadyH.nil
              obtain ⟨s0, s1, sf0, sf1⟩ := f1.two
              go_simp
              refine hK.out _ _ ?_ (fun _ => ?_)
              · ((try dsimp only); (first | exact ⟨hst, Nat.le_refl _⟩ | exact ⟨hHeld.1.apart hz3 hb11, Nat.le_trans hHeld.2 hb11.size⟩ | exact ⟨hHeld.1.apart hz3 hb12, Nat.le_trans hHeld.2 hb12.size⟩ | exact ⟨hHeld.1.below (below_new _ _), Nat.le_trans hHeld.2 (by simp)⟩ | exact ⟨hHeld.1.far2 (by have := hHeld.2; omega) _ _, by have := hHeld.2; simp [World.setCell]; omega⟩))
              clear hK K
              (try simp only [Act.put, List.setIfInBounds_toArray, List.set_cons_zero, List.set_cons_succ])
              refine gen0 (T := fun W => ((fun W => RJ w W f E cs.length cap fb G ds.length cap2 ∧ wr.heap.size ≤ W.heap.size)) W ∧ Own W wr.heap.size 46 2 A12 m12.length c12 (m12.flatMap df) ∧ Blk W wq2.heap.size 91 #[.int .i64 f, .slice A12 m12.length c12] ∧ wr.heap.size ≤ wq2.heap.size ∧ True) ?_ (fun wq13 hT => ?_)
              · exact ⟨by (first | exact ⟨hst, Nat.le_refl _⟩ | exact ⟨hHeld.1.apart hz3 hb11, Nat.le_trans hHeld.2 hb11.size⟩ | exact ⟨hHeld.1.apart hz3 hb12, Nat.le_trans hHeld.2 hb12.size⟩ | exact ⟨hHeld.1.below (below_new _ _), Nat.le_trans hHeld.2 (by simp)⟩ | exact ⟨hHeld.1.far2 (by have := hHeld.2; omega) _ _, by have := hHeld.2; simp [World.setCell]; omega⟩), by (first | assumption | exact Own.lit0 2 _ hHeld.2 | exact Blk.new _ _ _ | exact hHeld.2 | exact World.ownsRow.alloc f0 _ | exact f0.alloc _ | exact f1.alloc _ | exact ho11 | exact ho12 | exact Blk.append f1 f0 hg11 (by decide) | exact Blk.append f1 f0 hg12 (by decide) | exact f0.setT2 f1 (by decide) _ _ | exact f1.set2 _ _), by (first | assumption | exact Own.lit0 2 _ hHeld.2 | exact Blk.new _ _ _ | exact hHeld.2 | exact World.ownsRow.alloc f0 _ | exact f0.alloc _ | exact f1.alloc _ | exact ho11 | exact ho12 | exact Blk.append f1 f0 hg11 (by decide) | exact Blk.append f1 f0 hg12 (by decide) | exact f0.setT2 f1 (by decide) _ _ | exact f1.set2 _ _), by (first | assumption | exact Own.lit0 2 _ hHeld.2 | exact Blk.new _ _ _ | exact hHeld.2 | exact World.ownsRow.alloc f0 _ | exact f0.alloc _ | exact f1.alloc _ | exact ho11 | exact ho12 | exact Blk.append f1 f0 hg11 (by decide) | exact Blk.append f1 f0 hg12 (by decide) | exact f0.setT2 f1 (by decide) _ _ | exact f1.set2 _ _), trivial⟩
              (try clear f0 f1 f2 f3 f4 f5 f6 f7 f8 f9 f10 f11)
              obtain ⟨hHeld, f0, f1, f2, -⟩ := hT
              refine wpAnyH_done (by kernel_rfl) ?_ _
              (go_wp2_with fail; go_meet; exact ⟨_, A12, c12, m12, rfl, (show _ = _ from by rw [hm12.out, hm11.out, List.nil_append]), hHeld.1, f1, f0⟩)
            exact AllReadyH.nil
          refine AllReadyH.cons (o := ⟨some 9, _, _, _, _, _⟩) rfl (fun K hK => ?_) ?_
          · go_simp
            refine hK.out _ _ ?_ (fun _ => ?_)
            · ((try dsimp only); (first | exact ⟨hst, Nat.le_refl _⟩ | exact ⟨hHeld.1.apart hz3 hb11, Nat.le_trans hHeld.2 hb11.size⟩ | exact ⟨hHeld.1.apart hz3 hb12, Nat.le_trans hHeld.2 hb12.size⟩ | exact ⟨hHeld.1.below (below_new _ _), Nat.le_trans hHeld.2 (by simp)⟩ | exact ⟨hHeld.1.far2 (by have := hHeld.2; omega) _ _, by have := hHeld.2; simp [World.setCell]; omega⟩))
            clear hK K
            (try simp only [Act.put, List.setIfInBounds_toArray, List.set_cons_zero, List.set_cons_succ])
            refine gen0 (T := fun W => ((fun W => RJ w W f E cs.length cap fb G ds.length cap2 ∧ wr.heap.size ≤ W.heap.size)) W ∧ Blk W wq1.heap.size 91 #[.int .i64 0, .slice none 0 0] ∧ wr.heap.size ≤ wq1.heap.size ∧ True) ?_ (fun wq14 hT => ?_)
            · exact ⟨by (first | exact ⟨hst, Nat.le_refl _⟩ | exact ⟨hHeld.1.apart hz3 hb11, Nat.le_trans hHeld.2 hb11.size⟩ | exact ⟨hHeld.1.apart hz3 hb12, Nat.le_trans hHeld.2 hb12.size⟩ | exact ⟨hHeld.1.below (below_new _ _), Nat.le_trans hHeld.2 (by simp)⟩ | exact ⟨hHeld.1.far2 (by have := hHeld.2; omega) _ _, by have := hHeld.2; simp [World.setCell]; omega⟩), by (first | assumption | exact Own.lit0 2 _ hHeld.2 | exact Blk.new _ _ _ | exact hHeld.2 | exact World.ownsRow.alloc f0 _ | exact f0.alloc _ | exact f1.alloc _ | exact ho11 | exact ho12 | exact Blk.append f1 f0 hg11 (by decide) | exact Blk.append f1 f0 hg12 (by decide) | exact f0.setT2 f1 (by decide) _ _ | exact f1.set2 _ _), by (first | assumption | exact Own.lit0 2 _ hHeld.2 | exact Blk.new _ _ _ | exact hHeld.2 | exact World.ownsRow.alloc f0 _ | exact f0.alloc _ | exact f1.alloc _ | exact ho11 | exact ho12 | exact Blk.append f1 f0 hg11 (by decide) | exact Blk.append f1 f0 hg12 (by decide) | exact f0.setT2 f1 (by decide) _ _ | exact f1.set2 _ _), trivial⟩
            (try clear f0 f1 f2 f3 f4 f5 f6 f7 f8 f9 f10 f11)
            obtain ⟨hHeld, f0, f1, -⟩ := hT
            refine wpAnyH_ready (rs := [2]) (by kernel_rfl) (by simp) ?_
            refine AllReadyH.cons (o := ⟨some 38, _, _, _, _, _⟩) rfl (fun K hK => ?_) AllReadyH.nil
            go_simp
            refine hK.out _ _ ?_ (fun _ => ?_)
            · ((try dsimp only); (first | exact ⟨hst, Nat.le_refl _⟩ | exact ⟨hHeld.1.apart hz3 hb11, Nat.le_trans hHeld.2 hb11.size⟩ | exact ⟨hHeld.1.apart hz3 hb12, Nat.le_trans hHeld.2 hb12.size⟩ | exact ⟨hHeld.1.below (below_new _ _), Nat.le_trans hHeld.2 (by simp)⟩ | exact ⟨hHeld.1.far2 (by have := hHeld.2; omega) _ _, by have := hHeld.2; simp [World.setCell]; omega⟩))
            clear hK K
            (try simp only [Act.put, List.setIfInBounds_toArray, List.set_cons_zero, List.set_cons_succ])
            refine gen0 (T := fun W => ((fun W => RJ w W f E cs.length cap fb G ds.length cap2 ∧ wr.heap.size ≤ W.heap.size)) W ∧ Own W wr.heap.size 46 2 (some ⟨wq14.heap.size, 0, none⟩) 0 0 [] ∧ Blk W wq1.heap.size 91 #[.int .i64 0, .slice none 0 0] ∧ wr.heap.size ≤ wq1.heap.size ∧ True) ?_ (fun wq15 hT => ?_)
            · exact ⟨by (first | exact ⟨hst, Nat.le_refl _⟩ | exact ⟨hHeld.1.apart hz3 hb11, Nat.le_trans hHeld.2 hb11.size⟩ | exact ⟨hHeld.1.apart hz3 hb12, Nat.le_trans hHeld.2 hb12.size⟩ | exact ⟨hHeld.1.below (below_new _ _), Nat.le_trans hHeld.2 (by simp)⟩ | exact ⟨hHeld.1.far2 (by have := hHeld.2; omega) _ _, by have := hHeld.2; simp [World.setCell]; omega⟩), by (first | assumption | exact Own.lit0 2 _ hHeld.2 | exact Blk.new _ _ _ | exact hHeld.2 | exact World.ownsRow.alloc f0 _ | exact f0.alloc _ | exact f1.alloc _ | exact ho11 | exact ho12 | exact Blk.append f1 f0 hg11 (by decide) | exact Blk.append f1 f0 hg12 (by decide) | exact f0.setT2 f1 (by decide) _ _ | exact f1.set2 _ _), by (first | assumption | exact Own.lit0 2 _ hHeld.2 | exact Blk.new _ _ _ | exact hHeld.2 | exact World.ownsRow.alloc f0 _ | exact f0.alloc _ | exact f1.alloc _ | exact ho11 | exact ho12 | exact Blk.append f1 f0 hg11 (by decide) | exact Blk.append f1 f0 hg12 (by decide) | exact f0.setT2 f1 (by decide) _ _ | exact f1.set2 _ _), by (first | assumption | exact Own.lit0 2 _ hHeld.2 | exact Blk.new _ _ _ | exact hHeld.2 | exact World.ownsRow.alloc f0 _ | exact f0.alloc _ | exact f1.alloc _ | exact ho11 | exact ho12 | exact Blk.append f1 f0 hg11 (by decide) | exact Blk.append f1 f0 hg12 (by decide) | exact f0.setT2 f1 (by decide) _ _ | exact f1.set2 _ _), trivial⟩
            (try clear f0 f1 f2 f3 f4 f5 f6 f7 f8 f9 f10 f11)
            obtain ⟨hHeld, f0, f1, f2, -⟩ := hT
            refine wpAnyH_ready (rs := [5]) (by kernel_rfl) (by simp) ?_
            refine AllReadyH.cons (o := ⟨some 41, _, _, _, _, _⟩) rfl (fun K hK => ?_) AllReadyH.nil
            (first | (refine step_dcells (by kernel_rfl) (.tmp 38) (.tmp 40) rfl wr.heap.size _ 0 [] rfl f0 E cap cs.length cs rfl rfl (Sl.below h hHeld.1.bel) (by simp; omega) hHeld.2 ?_; intro A11 c11 m11 w11 hm11 ho11 hg11 hb11; have hml11 : m11.length ≤ 64 := (by rw [hm11.out]; simpa using hn64)) | (refine step_dcells (by kernel_rfl) (.tmp 41) (.tmp 43) rfl wr.heap.size A11 c11 m11 rfl f0 G cap2 ds.length ds rfl rfl (Sl.below h2 hHeld.1.bel) (by omega) hHeld.2 ?_; intro A12 c12 m12 w12 hm12 ho12 hg12 hb12))
            refine hK.out _ _ ?_ (fun _ => ?_)
            · ((try dsimp only); (first | exact ⟨hst, Nat.le_refl _⟩ | exact ⟨hHeld.1.apart hz3 hb11, Nat.le_trans hHeld.2 hb11.size⟩ | exact ⟨hHeld.1.apart hz3 hb12, Nat.le_trans hHeld.2 hb12.size⟩ | exact ⟨hHeld.1.below (below_new _ _), Nat.le_trans hHeld.2 (by simp)⟩ | exact ⟨hHeld.1.far2 (by have := hHeld.2; omega) _ _, by have := hHeld.2; simp [World.setCell]; omega⟩))
            clear hK K
            (try simp only [Act.put, List.setIfInBounds_toArray, List.set_cons_zero, List.set_cons_succ])
            refine gen0 (T := fun W => ((fun W => RJ w W f E cs.length cap fb G ds.length cap2 ∧ wr.heap.size ≤ W.heap.size)) W ∧ Own W wr.heap.size 46 2 A11 m11.length c11 (m11.flatMap df) ∧ Blk W wq1.heap.size 91 #[.int .i64 0, .slice none 0 0] ∧ wr.heap.size ≤ wq1.heap.size ∧ True) ?_ (fun wq16 hT => ?_)
            · exact ⟨by (first | exact ⟨hst, Nat.le_refl _⟩ | exact ⟨hHeld.1.apart hz3 hb11, Nat.le_trans hHeld.2 hb11.size⟩ | exact ⟨hHeld.1.apart hz3 hb12, Nat.le_trans hHeld.2 hb12.size⟩ | exact ⟨hHeld.1.below (below_new _ _), Nat.le_trans hHeld.2 (by simp)⟩ | exact ⟨hHeld.1.far2 (by have := hHeld.2; omega) _ _, by have := hHeld.2; simp [World.setCell]; omega⟩), by (first | assumption | exact Own.lit0 2 _ hHeld.2 | exact Blk.new _ _ _ | exact hHeld.2 | exact World.ownsRow.alloc f0 _ | exact f0.alloc _ | exact f1.alloc _ | exact ho11 | exact ho12 | exact Blk.append f1 f0 hg11 (by decide) | exact Blk.append f1 f0 hg12 (by decide) | exact f0.setT2 f1 (by decide) _ _ | exact f1.set2 _ _), by (first | assumption | exact Own.lit0 2 _ hHeld.2 | exact Blk.new _ _ _ | exact hHeld.2 | exact World.ownsRow.alloc f0 _ | exact f0.alloc _ | exact f1.alloc _ | exact ho11 | exact ho12 | exact Blk.append f1 f0 hg11 (by decide) | exact Blk.append f1 f0 hg12 (by decide) | exact f0.setT2 f1 (by decide) _ _ | exact f1.set2 _ _), by (first | assumption | exact Own.lit0 2 _ hHeld.2 | exact Blk.new _ _ _ | exact hHeld.2 | exact World.ownsRow.alloc f0 _ | exact f0.alloc _ | exact f1.alloc _ | exact ho11 | exact ho12 | exact Blk.append f1 f0 hg11 (by decide) | exact Blk.append f1 f0 hg12 (by decide) | exact f0.setT2 f1 (by decide) _ _ | exact f1.set2 _ _), trivial⟩
            (try clear f0 f1 f2 f3 f4 f5 f6 f7 f8 f9 f10 f11)
            obtain ⟨hHeld, f0, f1, f2, -⟩ := hT
            refine wpAnyH_ready (rs := [8]) (by kernel_rfl) (by simp) ?_
            refine AllReadyH.cons (o := ⟨some 44, _, _, _, _, _⟩) rfl (fun K hK => ?_) AllReadyH.nil
            (first | (refine step_dcells (by kernel_rfl) (.tmp 38) (.tmp 40) rfl wr.heap.size _ 0 [] rfl f0 E cap cs.length cs rfl rfl (Sl.below h hHeld.1.bel) (by simp; omega) hHeld.2 ?_; intro A11 c11 m11 w11 hm11 ho11 hg11 hb11; have hml11 : m11.length ≤ 64 := (by rw [hm11.out]; simpa using hn64)) | (refine step_dcells (by kernel_rfl) (.tmp 41) (.tmp 43) rfl wr.heap.size A11 c11 m11 rfl f0 G cap2 ds.length ds rfl rfl (Sl.below h2 hHeld.1.bel) (by omega) hHeld.2 ?_; intro A12 c12 m12 w12 hm12 ho12 hg12 hb12))
            refine hK.out _ _ ?_ (fun _ => ?_)
            · ((try dsimp only); (first | exact ⟨hst, Nat.le_refl _⟩ | exact ⟨hHeld.1.apart hz3 hb11, Nat.le_trans hHeld.2 hb11.size⟩ | exact ⟨hHeld.1.apart hz3 hb12, Nat.le_trans hHeld.2 hb12.size⟩ | exact ⟨hHeld.1.below (below_new _ _), Nat.le_trans hHeld.2 (by simp)⟩ | exact ⟨hHeld.1.far2 (by have := hHeld.2; omega) _ _, by have := hHeld.2; simp [World.setCell]; omega⟩))
            clear hK K
            (try simp only [Act.put, List.setIfInBounds_toArray, List.set_cons_zero, List.set_cons_succ])
            refine gen0 (T := fun W => ((fun W => RJ w W f E cs.length cap fb G ds.length cap2 ∧ wr.heap.size ≤ W.heap.size)) W ∧ Own W wr.heap.size 46 2 A12 m12.length c12 (m12.flatMap df) ∧ Blk W wq1.heap.size 91 #[.int .i64 0, .slice none 0 0] ∧ wr.heap.size ≤ wq1.heap.size ∧ True) ?_ (fun wq17 hT => ?_)
            · exact ⟨by (first | exact ⟨hst, Nat.le_refl _⟩ | exact ⟨hHeld.1.apart hz3 hb11, Nat.le_trans hHeld.2 hb11.size⟩ | exact ⟨hHeld.1.apart hz3 hb12, Nat.le_trans hHeld.2 hb12.size⟩ | exact ⟨hHeld.1.below (below_new _ _), Nat.le_trans hHeld.2 (by simp)⟩ | exact ⟨hHeld.1.far2 (by have := hHeld.2; omega) _ _, by have := hHeld.2; simp [World.setCell]; omega⟩), by (first | assumption | exact Own.lit0 2 _ hHeld.2 | exact Blk.new _ _ _ | exact hHeld.2 | exact World.ownsRow.alloc f0 _ | exact f0.alloc _ | exact f1.alloc _ | exact ho11 | exact ho12 | exact Blk.append f1 f0 hg11 (by decide) | exact Blk.append f1 f0 hg12 (by decide) | exact f0.setT2 f1 (by decide) _ _ | exact f1.set2 _ _), by (first | assumption | exact Own.lit0 2 _ hHeld.2 | exact Blk.new _ _ _ | exact hHeld.2 | exact World.ownsRow.alloc f0 _ | exact f0.alloc _ | exact f1.alloc _ | exact ho11 | exact ho12 | exact Blk.append f1 f0 hg11 (by decide) | exact Blk.append f1 f0 hg12 (by decide) | exact f0.setT2 f1 (by decide) _ _ | exact f1.set2 _ _), by (first | assumption | exact Own.lit0 2 _ hHeld.2 | exact Blk.new _ _ _ | exact hHeld.2 | exact World.ownsRow.alloc f0 _ | exact f0.alloc _ | exact f1.alloc _ | exact ho11 | exact ho12 | exact Blk.append f1 f0 hg11 (by decide) | exact Blk.append f1 f0 hg12 (by decide) | exact f0.setT2 f1 (by decide) _ _ | exact f1.set2 _ _), trivial⟩
            (try clear f0 f1 f2 f3 f4 f5 f6 f7 f8 f9 f10 f11)
            obtain ⟨hHeld, f0, f1, f2, -⟩ := hT
            refine wpAnyH_take (i := 9) (oi := ⟨some 45, _, _, _, _, _⟩) (v := ?_) rfl (by kernel_rfl) (by kernel_rfl) (by kernel_rfl) (fun _ _ _ h => h) (Or.inl ⟨by kernel_rfl, ?_⟩) (by assumption) ?_
            rotate_left
            · (intro wS hSw; (try dsimp only at hSw); obtain ⟨p0, p1, _, _⟩ := hSw.1.a.two; obtain ⟨q0, q1, _, _⟩ := hSw.1.b.two; clear hSw; go_simp; (try with_reducible rfl))
            (try simp only [Act.put, List.setIfInBounds_toArray, List.set_cons_zero, List.set_cons_succ])
            refine wpAnyH_ready (rs := [11]) (by kernel_rfl) (by simp) ?_
            refine AllReadyH.cons (o := ⟨none, _, _, _, _, _⟩) rfl (fun K hK => ?_) AllReadyH.nil
            obtain ⟨s0, s1, sf0, sf1⟩ := f1.two
            go_simp
            refine hK.out _ _ ?_ (fun _ => ?_)
            · ((try dsimp only); (first | exact ⟨hst, Nat.le_refl _⟩ | exact ⟨hHeld.1.apart hz3 hb11, Nat.le_trans hHeld.2 hb11.size⟩ | exact ⟨hHeld.1.apart hz3 hb12, Nat.le_trans hHeld.2 hb12.size⟩ | exact ⟨hHeld.1.below (below_new _ _), Nat.le_trans hHeld.2 (by simp)⟩ | exact ⟨hHeld.1.far2 (by have := hHeld.2; omega) _ _, by have := hHeld.2; simp [World.setCell]; omega⟩))
            clear hK K
            (try simp only [Act.put, List.setIfInBounds_toArray, List.set_cons_zero, List.set_cons_succ])
            refine gen0 (T := fun W => ((fun W => RJ w W f E cs.length cap fb G ds.length cap2 ∧ wr.heap.size ≤ W.heap.size)) W ∧ Own W wr.heap.size 46 2 A12 m12.length c12 (m12.flatMap df) ∧ Blk W wq1.heap.size 91 #[.int .i64 f, .slice A12 m12.length c12] ∧ wr.heap.size ≤ wq1.heap.size ∧ True) ?_ (fun wq18 hT => ?_)
            · exact ⟨by (first | exact ⟨hst, Nat.le_refl _⟩ | exact ⟨hHeld.1.apart hz3 hb11, Nat.le_trans hHeld.2 hb11.size⟩ | exact ⟨hHeld.1.apart hz3 hb12, Nat.le_trans hHeld.2 hb12.size⟩ | exact ⟨hHeld.1.below (below_new _ _), Nat.le_trans hHeld.2 (by simp)⟩ | exact ⟨hHeld.1.far2 (by have := hHeld.2; omega) _ _, by have := hHeld.2; simp [World.setCell]; omega⟩), by (first | assumption | exact Own.lit0 2 _ hHeld.2 | exact Blk.new _ _ _ | exact hHeld.2 | exact World.ownsRow.alloc f0 _ | exact f0.alloc _ | exact f1.alloc _ | exact ho11 | exact ho12 | exact Blk.append f1 f0 hg11 (by decide) | exact Blk.append f1 f0 hg12 (by decide) | exact f0.setT2 f1 (by decide) _ _ | exact f1.set2 _ _), by (first | assumption | exact Own.lit0 2 _ hHeld.2 | exact Blk.new _ _ _ | exact hHeld.2 | exact World.ownsRow.alloc f0 _ | exact f0.alloc _ | exact f1.alloc _ | exact ho11 | exact ho12 | exact Blk.append f1 f0 hg11 (by decide) | exact Blk.append f1 f0 hg12 (by decide) | exact f0.setT2 f1 (by decide) _ _ | exact f1.set2 _ _), by (first | assumption | exact Own.lit0 2 _ hHeld.2 | exact Blk.new _ _ _ | exact hHeld.2 | exact World.ownsRow.alloc f0 _ | exact f0.alloc _ | exact f1.alloc _ | exact ho11 | exact ho12 | exact Blk.append f1 f0 hg11 (by decide) | exact Blk.append f1 f0 hg12 (by decide) | exact f0.setT2 f1 (by decide) _ _ | exact f1.set2 _ _), trivial⟩
            (try clear f0 f1 f2 f3 f4 f5 f6 f7 f8 f9 f10 f11)
            obtain ⟨hHeld, f0, f1, f2, -⟩ := hT
            refine wpAnyH_done (by kernel_rfl) ?_ _
            (go_wp2_with fail; go_meet; exact ⟨_, A12, c12, m12, rfl, (show _ = _ from by rw [hm12.out, hm11.out, List.nil_append]), hHeld.1, f1, f0⟩)
          exact AllReadyH.nil
        case rest =>
          obtain ⟨gz, Az, cz, mz, rfl, hmz, hR5, hB5, hO5⟩ := hcut
          clear hR a0 a1 b0 b1
          obtain ⟨s0, s1, _, _⟩ := hB5.two
          go_wp2_with fail
          refine (rSCheck_any f mz _ hO5.sl).mono ?_
          rintro e w6 ⟨rfl, hb6⟩
          rw [hmz.out]
          have hR6 := hR5.below hb6
          have hB6 := hB5.below hb6
          have hO6 : Own w6 wr.heap.size 46 2 Az mz.length cz (mz.flatMap df) := Own.below hO5 hb6
          clear hR5 hB5 hO5 hb6 s0 s1
          rcases Nat.eq_zero_or_pos (schk (f, cs ++ ds)) with h0 | h0
          · have hS3 : Hid (sjoin (f, cs) (fb, ds) = ((f, cs ++ ds), 0)) := (show _ = _ from by rw [hS2.out, if_neg (by rw [h0]; simp)])
            rw [h0]
            clear h0 hS2
            obtain ⟨s0, s1, _, _⟩ := hB6.two
            obtain ⟨r0, r1, rf0, rf1⟩ := hR6.r.two
            go_wp2_with fail
            exact bodyPost_ret (res_rg2 rfl rfl (g := w.heap.size + 1 + 1) (hR6.r.set2 _ _)) rfl ⟨Az, cz, mz, by rw [hS3.out]; rfl, (show _ = _ from by rw [hS3.out, hmz.out]), (Own.set2 hO6 (by omega) _ _).more (by omega), bel_set (bel_set hR6.bel (by dsimp only; omega) _) (by dsimp only; omega) _⟩
          · have HJ : Hid (sjoin (f, cs) (fb, ds) = ((0, []), schk (f, cs ++ ds))) := (show _ = _ from by rw [hS2.out, if_pos (by omega)])
            have hk1 : (((schk (f, cs ++ ds) : Nat) : Int) != 0) = true := by simp; omega
            clear hS2
            generalize schk (f, cs ++ ds) = q at *
            obtain ⟨r0, r1, rf0, rf1⟩ := hR6.r.two
            obtain ⟨a0, a1, _, _⟩ := hR6.a.two
            obtain ⟨b0, b1, _, _⟩ := hR6.b.two
            go_wp2_with fail
            exact bodyPost_ret (res_rg2 rfl rfl (g := w.heap.size + 1 + 1) (hR6.r.set2 _ _)) rfl ⟨none, 0, [], by rw [HJ.out]; rfl, (show _ = _ from by rw [HJ.out]), Own.none_ _ _ _ _, bel_set (bel_set hR6.bel (by dsimp only; omega) _) (by dsimp only; omega) _⟩
      · have hjb : (f + (cs.length : Int) != fb) = true := by simp; omega
        have HJ : Hid (sjoin (f, cs) (fb, ds) = ((0, []), 13)) := (show _ = _ from by
          unfold sjoin
          rw [if_neg (by rw [HA.out]; simp), if_neg (by rw [HB.out]; simp), if_pos (by simpa using hj)])
        clear hj
        obtain ⟨r0, r1, rf0, rf1⟩ := hR.r.two
        obtain ⟨a0, a1, _, _⟩ := hR.a.two
        obtain ⟨b0, b1, _, _⟩ := hR.b.two
        go_wp2_with fail
        exact bodyPost_ret (res_rg2 rfl rfl (g := w.heap.size + 1 + 1) (hR.r.set2 _ _)) rfl ⟨none, 0, [], by rw [HJ.out]; rfl, (show _ = _ from by rw [HJ.out]), Own.none_ _ _ _ _, bel_set (bel_set hR.bel (by dsimp only; omega) _) (by dsimp only; omega) _⟩
end Go.Proofs.Ytkkcgibmcijhaaa
