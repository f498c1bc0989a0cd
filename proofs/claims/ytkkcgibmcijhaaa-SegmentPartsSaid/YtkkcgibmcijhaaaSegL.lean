/- WHAT IT HOLDS: the law SegmentParts, walked. -/
import Derived.Test.YtkkcgibmcijhaaaSegA
import Derived.Test.YtkkcgibmcijhaaaVarR
namespace Go.Proofs.Ytkkcgibmcijhaaa
open Go.RowKit
attribute [local go_sem ↓] Go.wp_at_zero Go.wp_at_succ

/-- two boxed segments and two numbers -/
structure PSt (w W : World) (f : Int) (E : Option Addr) (n cap : Nat) (fb : Int) (G : Option Addr) (n2 cap2 : Nat) (p q : Int) : Prop where
  bel : Below w.heap.size w W
  a : Blk W w.heap.size 89 #[.int .i64 f, .slice E n cap]
  b : Blk W (w.heap.size + 1) 89 #[.int .i64 fb, .slice G n2 cap2]
  e : Blk W (w.heap.size + 1 + 1) 107 #[.int .i64 p, .int .i64 q]
theorem PSt.below {w W W' : World} {f fb p q : Int} {E G : Option Addr} {n cap n2 cap2 : Nat} (h : PSt w W f E n cap fb G n2 cap2 p q) (hb : Below W.heap.size W W') : PSt w W' f E n cap fb G n2 cap2 p q := ⟨bel_call h.bel hb, h.a.below hb, h.b.below hb, h.e.below hb⟩
theorem PSt.drew {w W : World} {f fb p q : Int} {E G : Option Addr} {n cap n2 cap2 : Nat} (h : PSt w W f E n cap fb G n2 cap2 p q) : PSt w W.drew f E n cap fb G n2 cap2 p q := ⟨h.bel.drew, h.a.drew, h.b.drew, h.e.drew⟩

set_option maxRecDepth 100000 in
set_option maxHeartbeats 1000000 in
theorem parts_early1 {E G : Option Addr} {cap cap2 : Nat} {f fb p q : Int} {cs ds : List CeV} (w : World) (h : SlC w E cap cs) (hlong : longb (cs.map ceOf) 80 = true) :
    Calls Try.prog 9 #[cv f E cs.length cap, cv fb G ds.length cap2, .agg #[.int .i64 p, .int .i64 q]] w fun e w' => e = .returned (.bool true) ∧ Below w.heap.size w w' := by
  have hP0 : PSt w (((w.alloc (.cells #[.int .i64 f, .slice E cs.length cap] 89)).alloc (.cells #[.int .i64 fb, .slice G ds.length cap2] 89)).alloc (.cells #[.int .i64 p, .int .i64 q] 107)) f E cs.length cap fb G ds.length cap2 p q :=
    ⟨bel_alloc (bel_alloc (below_new w _) _) _, ((Blk.new w _ _).alloc _).alloc _, (Blk.newAt (by simp) _ _).alloc _, Blk.newAt (by simp) _ _⟩
  go_enter Try.func9, Try.ntmps9
  go_wp2_with fail
  refine (alive14_any _).mono ?_
  rintro e w1 ⟨rfl, hb1⟩
  have hP1 := hP0.below hb1
  obtain ⟨a0, a1, _, _⟩ := hP1.a.two
  obtain ⟨b0, b1, _, _⟩ := hP1.b.two
  clear hP0 hb1
  go_wp2_with fail
  refine (Long_any cs 80 _ (h.below hP1.bel)).mono ?_
  rintro e w2 ⟨rfl, hb2⟩
  rw [hlong]
  have hP2 := hP1.below hb2
  clear hP1 hb2 a0 a1 b0 b1
  obtain ⟨b0, b1, _, _⟩ := hP2.b.two
  go_wp2_with fail
  go_ret
  exact ⟨rfl, hP2.bel⟩
set_option maxRecDepth 100000 in
set_option maxHeartbeats 1000000 in
theorem parts_early2 {E G : Option Addr} {cap cap2 : Nat} {f fb p q : Int} {cs ds : List CeV} (w : World) (h : SlC w E cap cs) (h2 : SlC w G cap2 ds) (hlong : longb (cs.map ceOf) 80 = false) (hlong2 : longb (ds.map ceOf) 80 = true) :
    Calls Try.prog 9 #[cv f E cs.length cap, cv fb G ds.length cap2, .agg #[.int .i64 p, .int .i64 q]] w fun e w' => e = .returned (.bool true) ∧ Below w.heap.size w w' := by
  have hP0 : PSt w (((w.alloc (.cells #[.int .i64 f, .slice E cs.length cap] 89)).alloc (.cells #[.int .i64 fb, .slice G ds.length cap2] 89)).alloc (.cells #[.int .i64 p, .int .i64 q] 107)) f E cs.length cap fb G ds.length cap2 p q :=
    ⟨bel_alloc (bel_alloc (below_new w _) _) _, ((Blk.new w _ _).alloc _).alloc _, (Blk.newAt (by simp) _ _).alloc _, Blk.newAt (by simp) _ _⟩
  go_enter Try.func9, Try.ntmps9
  go_wp2_with fail
  refine (alive14_any _).mono ?_
  rintro e w1 ⟨rfl, hb1⟩
  have hP1 := hP0.below hb1
  obtain ⟨a0, a1, _, _⟩ := hP1.a.two
  obtain ⟨b0, b1, _, _⟩ := hP1.b.two
  clear hP0 hb1
  go_wp2_with fail
  refine (Long_any cs 80 _ (h.below hP1.bel)).mono ?_
  rintro e w2 ⟨rfl, hb2⟩
  rw [hlong]
  have hP2 := hP1.below hb2
  clear hP1 hb2 a0 a1 b0 b1
  obtain ⟨b0, b1, _, _⟩ := hP2.b.two
  go_wp2_with fail
  refine (Long_any ds 80 _ (h2.below hP2.bel)).mono ?_
  rintro e w3 ⟨rfl, hb3⟩
  rw [hlong2]
  have hP3 := hP2.below hb3
  clear hP2 hb3 b0 b1
  go_wp2_with fail
  go_ret
  exact ⟨rfl, hP3.bel⟩
theorem longb_all {l : List CeV} {n : Int} (h : longb (l.map ceOf) n = false) (hn : n ≤ 1000) : (∀ x ∈ l, x.2.2.2.length ≤ 1000000000) ∧ l.length ≤ 1000 := by
  unfold longb at h
  simp only [Bool.or_eq_false_iff, decide_eq_false_iff_not, List.any_eq_false] at h
  refine ⟨fun x hx => ?_, ?_⟩
  · have := h.1 (ceOf x) (List.mem_map_of_mem hx)
    simp at this
    omega
  · have := h.2
    simp at this
    omega
theorem sjoin_len (a b : Sg) : (sjoin a b).1.2.length ≤ a.2.length + b.2.length := by
  unfold sjoin
  split
  · simp
  split
  · simp
  split
  · simp
  split
  · simp
  · simp
theorem spart_len (a : Sg) (x y : Int) : (spart a x y).1.2.length ≤ a.2.length := by
  unfold spart
  split
  · simp
  split
  · simp
  · simp only [List.length_take, List.length_drop]; omega
set_option maxRecDepth 100000 in
set_option maxHeartbeats 4000000 in
theorem parts_walk {E G : Option Addr} {cap cap2 : Nat} {f fb p q : Int} {cs ds : List CeV} (w : World) (h : SlC w E cap cs) (h2 : SlC w G cap2 ds) (hlong : longb (cs.map ceOf) 80 = false) (hlong2 : longb (ds.map ceOf) 80 = false) :
    Calls Try.prog 9 #[cv f E cs.length cap, cv fb G ds.length cap2, .agg #[.int .i64 p, .int .i64 q]] w fun e w' => e = .returned (.bool true) ∧ Below w.heap.size w w' := by
  obtain ⟨hd1, hl1⟩ := longb_all hlong (by decide)
  obtain ⟨hd2, hl2⟩ := longb_all hlong2 (by decide)
  have HD1 := Lib.hid hd1
  have HD2 := Lib.hid hd2
  clear hd1 hd2
  have hP0 : PSt w (((w.alloc (.cells #[.int .i64 f, .slice E cs.length cap] 89)).alloc (.cells #[.int .i64 fb, .slice G ds.length cap2] 89)).alloc (.cells #[.int .i64 p, .int .i64 q] 107)) f E cs.length cap fb G ds.length cap2 p q :=
    ⟨bel_alloc (bel_alloc (below_new w _) _) _, ((Blk.new w _ _).alloc _).alloc _, (Blk.newAt (by simp) _ _).alloc _, Blk.newAt (by simp) _ _⟩
  go_enter Try.func9, Try.ntmps9
  go_wp2_with fail
  refine (alive14_any _).mono ?_
  rintro e w1 ⟨rfl, hb1⟩
  have hP1 := hP0.below hb1
  obtain ⟨a0, a1, _, _⟩ := hP1.a.two
  obtain ⟨b0, b1, _, _⟩ := hP1.b.two
  clear hP0 hb1
  go_wp2_with fail
  refine (Long_any cs 80 _ (h.below hP1.bel)).mono ?_
  rintro e w2 ⟨rfl, hb2⟩
  rw [hlong]
  have hP2 := hP1.below hb2
  clear hP1 hb2 a0 a1 b0 b1
  obtain ⟨b0, b1, _, _⟩ := hP2.b.two
  go_wp2_with fail
  refine (Long_any ds 80 _ (h2.below hP2.bel)).mono ?_
  rintro e w3 ⟨rfl, hb3⟩
  rw [hlong2]
  have hP3 := hP2.below hb3
  clear hP2 hb3 b0 b1
  clear hlong hlong2
  obtain ⟨a0, a1, _, _⟩ := hP3.a.two
  obtain ⟨b0, b1, _, _⟩ := hP3.b.two
  go_wp2_with fail
  refine (SJoin_any f fb cs ds _ (h.below hP3.bel) (h2.below hP3.bel) HD1.out HD2.out).mono ?_
  rintro e w4 ⟨Aj, kj, mj, rfl, hmj, hCj, hb4⟩
  have hP4 := hP3.below hb4
  have hrj := fun A B x y W (hx : SlD W A x (cs.map ceOf)) (hy : SlD W B y (ds.map ceOf)) => rSJoin_any (E := A) (G := B) (cap := x) (cap2 := y) f fb (cs.map ceOf) (ds.map ceOf) W hx hy
  have hjl := sjoin_len (f, cs.map ceOf) (fb, ds.map ceOf)
  clear hP3 hb4 a0 a1 b0 b1
  generalize sjoin (f, cs.map ceOf) (fb, ds.map ceOf) = x at *
  obtain ⟨⟨jf, jc⟩, jb⟩ := x
  dsimp only at *
  have HRJ := Lib.hid hrj
  clear hrj
  go_upto_region 6 with (fail)
  have hbn := below_new w4 (.cells #[.int .i64 jf, .slice Aj mj.length kj] 89)
  go_cut [9, 10] (fun s9 s10 wz => ∃ (gz : Nat) (A : Option Addr) (c : Nat) (m : List Ce), s9 = .pointer (some ⟨gz, 0, none⟩) ∧ s10 = .int .i64 (jb : Nat) ∧ Hid (m = jc) ∧ Below (w4.alloc (.cells #[.int .i64 jf, .slice Aj mj.length kj] 89)).heap.size (w4.alloc (.cells #[.int .i64 jf, .slice Aj mj.length kj] 89)) wz ∧ Blk wz gz 91 #[.int .i64 jf, .slice A (List.length m) c] ∧ SlD wz A c m)
  case first =>
    have hP5 := hP4.below hbn
    generalize hW0 : (w4.alloc (.cells #[.int .i64 jf, .slice Aj mj.length kj] 89)) = W0 at *
    clear hW0 hbn hP4
    have hst : Below W0.heap.size W0 W0.drew := (Below.refl _ _).drew
    refine wp_region_held_drew (S := (fun W => Below W0.heap.size W0 W)) (by kernel_rfl) ?_ (fun hHeld => ?_)
    · exact hst
    refine gen0 (T := fun W => ((fun W => Below W0.heap.size W0 W)) W ∧ True) ?_ (fun wq1 hT => ?_)
    · exact ⟨by (first | exact hst | exact bel_call hHeld hb9 | exact bel_call hHeld hb10 | exact bel_call hHeld hb11 | exact bel_alloc hHeld _ | exact bel_set (bel_set hHeld (by dsimp only; omega) _) (by dsimp only; omega) _), trivial⟩
    (try clear f0 f1 f2 f3 f4 f5 f6 f7 f8 f9 f10 f11)
    obtain ⟨hHeld, -⟩ := hT
    refine wpAnyH_take (i := 0) (oi := ⟨some 30, _, _, _, _, _⟩) (v := ?_) rfl (by kernel_rfl) (by kernel_rfl) (by kernel_rfl) (fun _ _ _ h => h) (Or.inl ⟨by kernel_rfl, ?_⟩) (by assumption) ?_
    rotate_left
    · (intro wS hSw; (try dsimp only at hSw); obtain ⟨q0, q1, _, _⟩ := (hP5.a.below hSw).two; obtain ⟨p0, p1, _, _⟩ := (hP5.b.below hSw).two; clear hSw; go_simp; (try with_reducible rfl))
    (try simp only [Act.put, List.setIfInBounds_toArray, List.set_cons_zero, List.set_cons_succ])
    refine wpAnyH_take (i := 2) (oi := ⟨some 32, _, _, _, _, _⟩) (v := ?_) rfl (by kernel_rfl) (by kernel_rfl) (by kernel_rfl) (fun _ _ _ h => h) (Or.inl ⟨by kernel_rfl, ?_⟩) (by assumption) ?_
    rotate_left
    · (intro wS hSw; (try dsimp only at hSw); obtain ⟨q0, q1, _, _⟩ := (hP5.a.below hSw).two; obtain ⟨p0, p1, _, _⟩ := (hP5.b.below hSw).two; clear hSw; go_simp; (try with_reducible rfl))
    (try simp only [Act.put, List.setIfInBounds_toArray, List.set_cons_zero, List.set_cons_succ])
    refine wpAnyH_ready (rs := [1, 8]) (by kernel_rfl) (by simp) ?_
    refine AllReadyH.cons (o := ⟨some 31, _, _, _, _, _⟩) rfl (fun K hK => ?_) ?_
    · go_simp
      (first | ((with_reducible refine (Doc14_any f cs _ (h.below (bel_call hP5.bel hHeld)) (by omega)).mono ?_); rintro e w9 ⟨A9, c9, m9, rfl, hm9, hs9, hb9⟩) | ((with_reducible refine (Doc14_any fb ds _ (h2.below (bel_call hP5.bel hHeld)) (by omega)).mono ?_); rintro e w10 ⟨A10, c10, m10, rfl, hm10, hs10, hb10⟩))
      go_wp2_with fail
      refine hK.out _ _ ?_ (fun _ => ?_)
      · ((try dsimp only); (first | exact hst | exact bel_call hHeld hb9 | exact bel_call hHeld hb10 | exact bel_call hHeld hb11 | exact bel_alloc hHeld _ | exact bel_set (bel_set hHeld (by dsimp only; omega) _) (by dsimp only; omega) _))
      clear hK K
      (try simp only [Act.put, List.setIfInBounds_toArray, List.set_cons_zero, List.set_cons_succ])
      refine gen0 (T := fun W => ((fun W => Below W0.heap.size W0 W)) W ∧ SlD W A9 c9 m9 ∧ True) ?_ (fun wq2 hT => ?_)
      · exact ⟨by (first | exact hst | exact bel_call hHeld hb9 | exact bel_call hHeld hb10 | exact bel_call hHeld hb11 | exact bel_alloc hHeld _ | exact bel_set (bel_set hHeld (by dsimp only; omega) _) (by dsimp only; omega) _), by (first | assumption | exact hs9 | exact hs10 | exact ho11.more hHeld.size | exact Sl.below f0 hb10 | exact Sl.below f0 (below_new _ _) | exact Sl.below f1 (below_new _ _) | exact World.ownsRow.alloc f0 _ | exact Blk.new _ _ _ | exact hHeld.size | exact f0.below hb9 | exact f0.below hb10 | exact f1.below hb10 | exact f1.below hb11 | exact f2.below hb11 | exact f0.setT2 f1 (by decide) _ _ | exact f1.set2 _ _), trivial⟩
      (try clear f0 f1 f2 f3 f4 f5 f6 f7 f8 f9 f10 f11)
      obtain ⟨hHeld, f0, -⟩ := hT
      refine wpAnyH_ready (rs := [3, 8]) (by kernel_rfl) (by simp) ?_
      refine AllReadyH.cons (o := ⟨some 33, _, _, _, _, _⟩) rfl (fun K hK => ?_) ?_
      · go_simp
        (first | ((with_reducible refine (Doc14_any f cs _ (h.below (bel_call hP5.bel hHeld)) (by omega)).mono ?_); rintro e w9 ⟨A9, c9, m9, rfl, hm9, hs9, hb9⟩) | ((with_reducible refine (Doc14_any fb ds _ (h2.below (bel_call hP5.bel hHeld)) (by omega)).mono ?_); rintro e w10 ⟨A10, c10, m10, rfl, hm10, hs10, hb10⟩))
        go_wp2_with fail
        refine hK.out _ _ ?_ (fun _ => ?_)
        · ((try dsimp only); (first | exact hst | exact bel_call hHeld hb9 | exact bel_call hHeld hb10 | exact bel_call hHeld hb11 | exact bel_alloc hHeld _ | exact bel_set (bel_set hHeld (by dsimp only; omega) _) (by dsimp only; omega) _))
        clear hK K
        (try simp only [Act.put, List.setIfInBounds_toArray, List.set_cons_zero, List.set_cons_succ])
        refine gen0 (T := fun W => ((fun W => Below W0.heap.size W0 W)) W ∧ SlD W A9 c9 m9 ∧ SlD W A10 c10 m10 ∧ True) ?_ (fun wq3 hT => ?_)
        · exact ⟨by (first | exact hst | exact bel_call hHeld hb9 | exact bel_call hHeld hb10 | exact bel_call hHeld hb11 | exact bel_alloc hHeld _ | exact bel_set (bel_set hHeld (by dsimp only; omega) _) (by dsimp only; omega) _), by (first | assumption | exact hs9 | exact hs10 | exact ho11.more hHeld.size | exact Sl.below f0 hb10 | exact Sl.below f0 (below_new _ _) | exact Sl.below f1 (below_new _ _) | exact World.ownsRow.alloc f0 _ | exact Blk.new _ _ _ | exact hHeld.size | exact f0.below hb9 | exact f0.below hb10 | exact f1.below hb10 | exact f1.below hb11 | exact f2.below hb11 | exact f0.setT2 f1 (by decide) _ _ | exact f1.set2 _ _), by (first | assumption | exact hs9 | exact hs10 | exact ho11.more hHeld.size | exact Sl.below f0 hb10 | exact Sl.below f0 (below_new _ _) | exact Sl.below f1 (below_new _ _) | exact World.ownsRow.alloc f0 _ | exact Blk.new _ _ _ | exact hHeld.size | exact f0.below hb9 | exact f0.below hb10 | exact f1.below hb10 | exact f1.below hb11 | exact f2.below hb11 | exact f0.setT2 f1 (by decide) _ _ | exact f1.set2 _ _), trivial⟩
        (try clear f0 f1 f2 f3 f4 f5 f6 f7 f8 f9 f10 f11)
        obtain ⟨hHeld, f0, f1, -⟩ := hT
        refine wpAnyH_ready (rs := [4, 8]) (by kernel_rfl) (by simp) ?_
        refine AllReadyH.cons (o := ⟨some 34, _, _, _, _, _⟩) rfl (fun K hK => ?_) ?_
        · go_simp
          (obtain rfl := hm9.out; obtain rfl := hm10.out; refine (HRJ.out A9 A10 c9 c10 _ f0 f1).mono ?_; rintro e w11 ⟨A11, c11, m11, rfl, hm11, ho11, hb11⟩)
          go_wp2_with fail
          refine hK.out _ _ ?_ (fun _ => ?_)
          · ((try dsimp only); (first | exact hst | exact bel_call hHeld hb9 | exact bel_call hHeld hb10 | exact bel_call hHeld hb11 | exact bel_alloc hHeld _ | exact bel_set (bel_set hHeld (by dsimp only; omega) _) (by dsimp only; omega) _))
          clear hK K
          (try simp only [Act.put, List.setIfInBounds_toArray, List.set_cons_zero, List.set_cons_succ])
          refine gen0 (T := fun W => ((fun W => Below W0.heap.size W0 W)) W ∧ Own W W0.heap.size 46 2 A11 m11.length c11 (m11.flatMap df) ∧ True) ?_ (fun wq4 hT => ?_)
          · exact ⟨by (first | exact hst | exact bel_call hHeld hb9 | exact bel_call hHeld hb10 | exact bel_call hHeld hb11 | exact bel_alloc hHeld _ | exact bel_set (bel_set hHeld (by dsimp only; omega) _) (by dsimp only; omega) _), by (first | assumption | exact hs9 | exact hs10 | exact ho11.more hHeld.size | exact Sl.below f0 hb10 | exact Sl.below f0 (below_new _ _) | exact Sl.below f1 (below_new _ _) | exact World.ownsRow.alloc f0 _ | exact Blk.new _ _ _ | exact hHeld.size | exact f0.below hb9 | exact f0.below hb10 | exact f1.below hb10 | exact f1.below hb11 | exact f2.below hb11 | exact f0.setT2 f1 (by decide) _ _ | exact f1.set2 _ _), trivial⟩
          (try clear f0 f1 f2 f3 f4 f5 f6 f7 f8 f9 f10 f11)
          obtain ⟨hHeld, f0, -⟩ := hT
          refine wpAnyH_take (i := 5) (oi := ⟨some 29, _, _, _, _, _⟩) (v := ?_) rfl (by kernel_rfl) (by kernel_rfl) (by kernel_rfl) (fun _ _ _ h => h) (Or.inl ⟨by kernel_rfl, ?_⟩) (by assumption) ?_
          rotate_left
          · (intro wS hSw; (try dsimp only at hSw); obtain ⟨q0, q1, _, _⟩ := (hP5.a.below hSw).two; obtain ⟨p0, p1, _, _⟩ := (hP5.b.below hSw).two; clear hSw; go_simp; (try with_reducible rfl))
          (try simp only [Act.put, List.setIfInBounds_toArray, List.set_cons_zero, List.set_cons_succ])
          refine wpAnyH_take (i := 6) (oi := ⟨some 35, _, _, _, _, _⟩) (v := ?_) rfl (by kernel_rfl) (by kernel_rfl) (by kernel_rfl) (fun _ _ _ h => h) (Or.inl ⟨by kernel_rfl, ?_⟩) (by assumption) ?_
          rotate_left
          · (intro wS hSw; (try dsimp only at hSw); obtain ⟨q0, q1, _, _⟩ := (hP5.a.below hSw).two; obtain ⟨p0, p1, _, _⟩ := (hP5.b.below hSw).two; clear hSw; go_simp; (try with_reducible rfl))
          (try simp only [Act.put, List.setIfInBounds_toArray, List.set_cons_zero, List.set_cons_succ])
          refine wpAnyH_take (i := 7) (oi := ⟨some 36, _, _, _, _, _⟩) (v := ?_) rfl (by kernel_rfl) (by kernel_rfl) (by kernel_rfl) (fun _ _ _ h => h) (Or.inl ⟨by kernel_rfl, ?_⟩) (by assumption) ?_
          rotate_left
          · (intro wS hSw; (try dsimp only at hSw); obtain ⟨q0, q1, _, _⟩ := (hP5.a.below hSw).two; obtain ⟨p0, p1, _, _⟩ := (hP5.b.below hSw).two; clear hSw; go_simp; (try with_reducible rfl))
          (try simp only [Act.put, List.setIfInBounds_toArray, List.set_cons_zero, List.set_cons_succ])
          refine wpAnyH_ready (rs := [8]) (by kernel_rfl) (by simp) ?_
          refine AllReadyH.cons (o := ⟨some 9, _, _, _, _, _⟩) rfl (fun K hK => ?_) AllReadyH.nil
          go_simp
          refine hK.out _ _ ?_ (fun _ => ?_)
          · ((try dsimp only); (first | exact hst | exact bel_call hHeld hb9 | exact bel_call hHeld hb10 | exact bel_call hHeld hb11 | exact bel_alloc hHeld _ | exact bel_set (bel_set hHeld (by dsimp only; omega) _) (by dsimp only; omega) _))
          clear hK K
          (try simp only [Act.put, List.setIfInBounds_toArray, List.set_cons_zero, List.set_cons_succ])
          refine gen0 (T := fun W => ((fun W => Below W0.heap.size W0 W)) W ∧ Own W W0.heap.size 46 2 A11 m11.length c11 (m11.flatMap df) ∧ Blk W wq4.heap.size 91 #[.int .i64 0, .slice none 0 0] ∧ W0.heap.size ≤ wq4.heap.size ∧ True) ?_ (fun wq5 hT => ?_)
          · exact ⟨by (first | exact hst | exact bel_call hHeld hb9 | exact bel_call hHeld hb10 | exact bel_call hHeld hb11 | exact bel_alloc hHeld _ | exact bel_set (bel_set hHeld (by dsimp only; omega) _) (by dsimp only; omega) _), by (first | assumption | exact hs9 | exact hs10 | exact ho11.more hHeld.size | exact Sl.below f0 hb10 | exact Sl.below f0 (below_new _ _) | exact Sl.below f1 (below_new _ _) | exact World.ownsRow.alloc f0 _ | exact Blk.new _ _ _ | exact hHeld.size | exact f0.below hb9 | exact f0.below hb10 | exact f1.below hb10 | exact f1.below hb11 | exact f2.below hb11 | exact f0.setT2 f1 (by decide) _ _ | exact f1.set2 _ _), by (first | assumption | exact hs9 | exact hs10 | exact ho11.more hHeld.size | exact Sl.below f0 hb10 | exact Sl.below f0 (below_new _ _) | exact Sl.below f1 (below_new _ _) | exact World.ownsRow.alloc f0 _ | exact Blk.new _ _ _ | exact hHeld.size | exact f0.below hb9 | exact f0.below hb10 | exact f1.below hb10 | exact f1.below hb11 | exact f2.below hb11 | exact f0.setT2 f1 (by decide) _ _ | exact f1.set2 _ _), by (first | assumption | exact hs9 | exact hs10 | exact ho11.more hHeld.size | exact Sl.below f0 hb10 | exact Sl.below f0 (below_new _ _) | exact Sl.below f1 (below_new _ _) | exact World.ownsRow.alloc f0 _ | exact Blk.new _ _ _ | exact hHeld.size | exact f0.below hb9 | exact f0.below hb10 | exact f1.below hb10 | exact f1.below hb11 | exact f2.below hb11 | exact f0.setT2 f1 (by decide) _ _ | exact f1.set2 _ _), trivial⟩
          (try clear f0 f1 f2 f3 f4 f5 f6 f7 f8 f9 f10 f11)
          obtain ⟨hHeld, f0, f1, f2, -⟩ := hT
          refine wpAnyH_ready (rs := [9]) (by kernel_rfl) (by simp) ?_
          refine AllReadyH.cons (o := ⟨none, _, _, _, _, _⟩) rfl (fun K hK => ?_) AllReadyH.nil
          obtain ⟨s0, s1, sf0, sf1⟩ := f1.two
          go_simp
          refine hK.out _ _ ?_ (fun _ => ?_)
          · ((try dsimp only); (first | exact hst | exact bel_call hHeld hb9 | exact bel_call hHeld hb10 | exact bel_call hHeld hb11 | exact bel_alloc hHeld _ | exact bel_set (bel_set hHeld (by dsimp only; omega) _) (by dsimp only; omega) _))
          clear hK K
          (try simp only [Act.put, List.setIfInBounds_toArray, List.set_cons_zero, List.set_cons_succ])
          refine gen0 (T := fun W => ((fun W => Below W0.heap.size W0 W)) W ∧ Own W W0.heap.size 46 2 A11 m11.length c11 (m11.flatMap df) ∧ W0.heap.size ≤ wq4.heap.size ∧ Blk W wq4.heap.size 91 #[.int .i64 jf, .slice A11 m11.length c11] ∧ True) ?_ (fun wq6 hT => ?_)
          · exact ⟨by (first | exact hst | exact bel_call hHeld hb9 | exact bel_call hHeld hb10 | exact bel_call hHeld hb11 | exact bel_alloc hHeld _ | exact bel_set (bel_set hHeld (by dsimp only; omega) _) (by dsimp only; omega) _), by (first | assumption | exact hs9 | exact hs10 | exact ho11.more hHeld.size | exact Sl.below f0 hb10 | exact Sl.below f0 (below_new _ _) | exact Sl.below f1 (below_new _ _) | exact World.ownsRow.alloc f0 _ | exact Blk.new _ _ _ | exact hHeld.size | exact f0.below hb9 | exact f0.below hb10 | exact f1.below hb10 | exact f1.below hb11 | exact f2.below hb11 | exact f0.setT2 f1 (by decide) _ _ | exact f1.set2 _ _), by (first | assumption | exact hs9 | exact hs10 | exact ho11.more hHeld.size | exact Sl.below f0 hb10 | exact Sl.below f0 (below_new _ _) | exact Sl.below f1 (below_new _ _) | exact World.ownsRow.alloc f0 _ | exact Blk.new _ _ _ | exact hHeld.size | exact f0.below hb9 | exact f0.below hb10 | exact f1.below hb10 | exact f1.below hb11 | exact f2.below hb11 | exact f0.setT2 f1 (by decide) _ _ | exact f1.set2 _ _), by (first | assumption | exact hs9 | exact hs10 | exact ho11.more hHeld.size | exact Sl.below f0 hb10 | exact Sl.below f0 (below_new _ _) | exact Sl.below f1 (below_new _ _) | exact World.ownsRow.alloc f0 _ | exact Blk.new _ _ _ | exact hHeld.size | exact f0.below hb9 | exact f0.below hb10 | exact f1.below hb10 | exact f1.below hb11 | exact f2.below hb11 | exact f0.setT2 f1 (by decide) _ _ | exact f1.set2 _ _), trivial⟩
          (try clear f0 f1 f2 f3 f4 f5 f6 f7 f8 f9 f10 f11)
          obtain ⟨hHeld, f0, f1, f2, -⟩ := hT
          refine wpAnyH_take (i := 10) (oi := ⟨some 10, _, _, _, _, _⟩) (v := ?_) rfl (by kernel_rfl) (by kernel_rfl) (by kernel_rfl) (fun _ _ _ h => h) (Or.inl ⟨by kernel_rfl, ?_⟩) (by assumption) ?_
          rotate_left
          · (intro wS hSw; (try dsimp only at hSw); obtain ⟨q0, q1, _, _⟩ := (hP5.a.below hSw).two; obtain ⟨p0, p1, _, _⟩ := (hP5.b.below hSw).two; clear hSw; go_simp; (try with_reducible rfl))
          (try simp only [Act.put, List.setIfInBounds_toArray, List.set_cons_zero, List.set_cons_succ])
          refine wpAnyH_done (by kernel_rfl) ?_ _
          (go_wp2_with fail; go_meet; exact ⟨_, A11, c11, m11, rfl, rfl, hm11, hHeld, f2, f0.sl⟩)
        refine AllReadyH.cons (o := ⟨some 9, _, _, _, _, _⟩) rfl (fun K hK => ?_) ?_
        · go_simp
          refine hK.out _ _ ?_ (fun _ => ?_)
          · ((try dsimp only); (first | exact hst | exact bel_call hHeld hb9 | exact bel_call hHeld hb10 | exact bel_call hHeld hb11 | exact bel_alloc hHeld _ | exact bel_set (bel_set hHeld (by dsimp only; omega) _) (by dsimp only; omega) _))
          clear hK K
          (try simp only [Act.put, List.setIfInBounds_toArray, List.set_cons_zero, List.set_cons_succ])
          refine gen0 (T := fun W => ((fun W => Below W0.heap.size W0 W)) W ∧ SlD W A9 c9 m9 ∧ SlD W A10 c10 m10 ∧ Blk W wq3.heap.size 91 #[.int .i64 0, .slice none 0 0] ∧ W0.heap.size ≤ wq3.heap.size ∧ True) ?_ (fun wq7 hT => ?_)
          · exact ⟨by (first | exact hst | exact bel_call hHeld hb9 | exact bel_call hHeld hb10 | exact bel_call hHeld hb11 | exact bel_alloc hHeld _ | exact bel_set (bel_set hHeld (by dsimp only; omega) _) (by dsimp only; omega) _), by (first | assumption | exact hs9 | exact hs10 | exact ho11.more hHeld.size | exact Sl.below f0 hb10 | exact Sl.below f0 (below_new _ _) | exact Sl.below f1 (below_new _ _) | exact World.ownsRow.alloc f0 _ | exact Blk.new _ _ _ | exact hHeld.size | exact f0.below hb9 | exact f0.below hb10 | exact f1.below hb10 | exact f1.below hb11 | exact f2.below hb11 | exact f0.setT2 f1 (by decide) _ _ | exact f1.set2 _ _), by (first | assumption | exact hs9 | exact hs10 | exact ho11.more hHeld.size | exact Sl.below f0 hb10 | exact Sl.below f0 (below_new _ _) | exact Sl.below f1 (below_new _ _) | exact World.ownsRow.alloc f0 _ | exact Blk.new _ _ _ | exact hHeld.size | exact f0.below hb9 | exact f0.below hb10 | exact f1.below hb10 | exact f1.below hb11 | exact f2.below hb11 | exact f0.setT2 f1 (by decide) _ _ | exact f1.set2 _ _), by (first | assumption | exact hs9 | exact hs10 | exact ho11.more hHeld.size | exact Sl.below f0 hb10 | exact Sl.below f0 (below_new _ _) | exact Sl.below f1 (below_new _ _) | exact World.ownsRow.alloc f0 _ | exact Blk.new _ _ _ | exact hHeld.size | exact f0.below hb9 | exact f0.below hb10 | exact f1.below hb10 | exact f1.below hb11 | exact f2.below hb11 | exact f0.setT2 f1 (by decide) _ _ | exact f1.set2 _ _), by (first | assumption | exact hs9 | exact hs10 | exact ho11.more hHeld.size | exact Sl.below f0 hb10 | exact Sl.below f0 (below_new _ _) | exact Sl.below f1 (below_new _ _) | exact World.ownsRow.alloc f0 _ | exact Blk.new _ _ _ | exact hHeld.size | exact f0.below hb9 | exact f0.below hb10 | exact f1.below hb10 | exact f1.below hb11 | exact f2.below hb11 | exact f0.setT2 f1 (by decide) _ _ | exact f1.set2 _ _), trivial⟩
          (try clear f0 f1 f2 f3 f4 f5 f6 f7 f8 f9 f10 f11)
          obtain ⟨hHeld, f0, f1, f2, f3, -⟩ := hT
          refine wpAnyH_ready (rs := [4]) (by kernel_rfl) (by simp) ?_
          refine AllReadyH.cons (o := ⟨some 34, _, _, _, _, _⟩) rfl (fun K hK => ?_) AllReadyH.nil
          go_simp
          (obtain rfl := hm9.out; obtain rfl := hm10.out; refine (HRJ.out A9 A10 c9 c10 _ f0 f1).mono ?_; rintro e w11 ⟨A11, c11, m11, rfl, hm11, ho11, hb11⟩)
          go_wp2_with fail
          refine hK.out _ _ ?_ (fun _ => ?_)
          · ((try dsimp only); (first | exact hst | exact bel_call hHeld hb9 | exact bel_call hHeld hb10 | exact bel_call hHeld hb11 | exact bel_alloc hHeld _ | exact bel_set (bel_set hHeld (by dsimp only; omega) _) (by dsimp only; omega) _))
          clear hK K
          (try simp only [Act.put, List.setIfInBounds_toArray, List.set_cons_zero, List.set_cons_succ])
          refine gen0 (T := fun W => ((fun W => Below W0.heap.size W0 W)) W ∧ Own W W0.heap.size 46 2 A11 m11.length c11 (m11.flatMap df) ∧ Blk W wq3.heap.size 91 #[.int .i64 0, .slice none 0 0] ∧ W0.heap.size ≤ wq3.heap.size ∧ True) ?_ (fun wq8 hT => ?_)
          · exact ⟨by (first | exact hst | exact bel_call hHeld hb9 | exact bel_call hHeld hb10 | exact bel_call hHeld hb11 | exact bel_alloc hHeld _ | exact bel_set (bel_set hHeld (by dsimp only; omega) _) (by dsimp only; omega) _), by (first | assumption | exact hs9 | exact hs10 | exact ho11.more hHeld.size | exact Sl.below f0 hb10 | exact Sl.below f0 (below_new _ _) | exact Sl.below f1 (below_new _ _) | exact World.ownsRow.alloc f0 _ | exact Blk.new _ _ _ | exact hHeld.size | exact f0.below hb9 | exact f0.below hb10 | exact f1.below hb10 | exact f1.below hb11 | exact f2.below hb11 | exact f0.setT2 f1 (by decide) _ _ | exact f1.set2 _ _), by (first | assumption | exact hs9 | exact hs10 | exact ho11.more hHeld.size | exact Sl.below f0 hb10 | exact Sl.below f0 (below_new _ _) | exact Sl.below f1 (below_new _ _) | exact World.ownsRow.alloc f0 _ | exact Blk.new _ _ _ | exact hHeld.size | exact f0.below hb9 | exact f0.below hb10 | exact f1.below hb10 | exact f1.below hb11 | exact f2.below hb11 | exact f0.setT2 f1 (by decide) _ _ | exact f1.set2 _ _), by (first | assumption | exact hs9 | exact hs10 | exact ho11.more hHeld.size | exact Sl.below f0 hb10 | exact Sl.below f0 (below_new _ _) | exact Sl.below f1 (below_new _ _) | exact World.ownsRow.alloc f0 _ | exact Blk.new _ _ _ | exact hHeld.size | exact f0.below hb9 | exact f0.below hb10 | exact f1.below hb10 | exact f1.below hb11 | exact f2.below hb11 | exact f0.setT2 f1 (by decide) _ _ | exact f1.set2 _ _), trivial⟩
          (try clear f0 f1 f2 f3 f4 f5 f6 f7 f8 f9 f10 f11)
          obtain ⟨hHeld, f0, f1, f2, -⟩ := hT
          refine wpAnyH_take (i := 5) (oi := ⟨some 29, _, _, _, _, _⟩) (v := ?_) rfl (by kernel_rfl) (by kernel_rfl) (by kernel_rfl) (fun _ _ _ h => h) (Or.inl ⟨by kernel_rfl, ?_⟩) (by assumption) ?_
          rotate_left
          · (intro wS hSw; (try dsimp only at hSw); obtain ⟨q0, q1, _, _⟩ := (hP5.a.below hSw).two; obtain ⟨p0, p1, _, _⟩ := (hP5.b.below hSw).two; clear hSw; go_simp; (try with_reducible rfl))
          (try simp only [Act.put, List.setIfInBounds_toArray, List.set_cons_zero, List.set_cons_succ])
          refine wpAnyH_take (i := 6) (oi := ⟨some 35, _, _, _, _, _⟩) (v := ?_) rfl (by kernel_rfl) (by kernel_rfl) (by kernel_rfl) (fun _ _ _ h => h) (Or.inl ⟨by kernel_rfl, ?_⟩) (by assumption) ?_
          rotate_left
          · (intro wS hSw; (try dsimp only at hSw); obtain ⟨q0, q1, _, _⟩ := (hP5.a.below hSw).two; obtain ⟨p0, p1, _, _⟩ := (hP5.b.below hSw).two; clear hSw; go_simp; (try with_reducible rfl))
          (try simp only [Act.put, List.setIfInBounds_toArray, List.set_cons_zero, List.set_cons_succ])
          refine wpAnyH_take (i := 7) (oi := ⟨some 36, _, _, _, _, _⟩) (v := ?_) rfl (by kernel_rfl) (by kernel_rfl) (by kernel_rfl) (fun _ _ _ h => h) (Or.inl ⟨by kernel_rfl, ?_⟩) (by assumption) ?_
          rotate_left
          · (intro wS hSw; (try dsimp only at hSw); obtain ⟨q0, q1, _, _⟩ := (hP5.a.below hSw).two; obtain ⟨p0, p1, _, _⟩ := (hP5.b.below hSw).two; clear hSw; go_simp; (try with_reducible rfl))
          (try simp only [Act.put, List.setIfInBounds_toArray, List.set_cons_zero, List.set_cons_succ])
          refine wpAnyH_ready (rs := [9]) (by kernel_rfl) (by simp) ?_
          refine AllReadyH.cons (o := ⟨none, _, _, _, _, _⟩) rfl (fun K hK => ?_) AllReadyH.nil
          obtain ⟨s0, s1, sf0, sf1⟩ := f1.two
          go_simp
          refine hK.out _ _ ?_ (fun _ => ?_)
          · ((try dsimp only); (first | exact hst | exact bel_call hHeld hb9 | exact bel_call hHeld hb10 | exact bel_call hHeld hb11 | exact bel_alloc hHeld _ | exact bel_set (bel_set hHeld (by dsimp only; omega) _) (by dsimp only; omega) _))
          clear hK K
          (try simp only [Act.put, List.setIfInBounds_toArray, List.set_cons_zero, List.set_cons_succ])
          refine gen0 (T := fun W => ((fun W => Below W0.heap.size W0 W)) W ∧ Own W W0.heap.size 46 2 A11 m11.length c11 (m11.flatMap df) ∧ W0.heap.size ≤ wq3.heap.size ∧ Blk W wq3.heap.size 91 #[.int .i64 jf, .slice A11 m11.length c11] ∧ True) ?_ (fun wq9 hT => ?_)
          · exact ⟨by (first | exact hst | exact bel_call hHeld hb9 | exact bel_call hHeld hb10 | exact bel_call hHeld hb11 | exact bel_alloc hHeld _ | exact bel_set (bel_set hHeld (by dsimp only; omega) _) (by dsimp only; omega) _), by (first | assumption | exact hs9 | exact hs10 | exact ho11.more hHeld.size | exact Sl.below f0 hb10 | exact Sl.below f0 (below_new _ _) | exact Sl.below f1 (below_new _ _) | exact World.ownsRow.alloc f0 _ | exact Blk.new _ _ _ | exact hHeld.size | exact f0.below hb9 | exact f0.below hb10 | exact f1.below hb10 | exact f1.below hb11 | exact f2.below hb11 | exact f0.setT2 f1 (by decide) _ _ | exact f1.set2 _ _), by (first | assumption | exact hs9 | exact hs10 | exact ho11.more hHeld.size | exact Sl.below f0 hb10 | exact Sl.below f0 (below_new _ _) | exact Sl.below f1 (below_new _ _) | exact World.ownsRow.alloc f0 _ | exact Blk.new _ _ _ | exact hHeld.size | exact f0.below hb9 | exact f0.below hb10 | exact f1.below hb10 | exact f1.below hb11 | exact f2.below hb11 | exact f0.setT2 f1 (by decide) _ _ | exact f1.set2 _ _), by (first | assumption | exact hs9 | exact hs10 | exact ho11.more hHeld.size | exact Sl.below f0 hb10 | exact Sl.below f0 (below_new _ _) | exact Sl.below f1 (below_new _ _) | exact World.ownsRow.alloc f0 _ | exact Blk.new _ _ _ | exact hHeld.size | exact f0.below hb9 | exact f0.below hb10 | exact f1.below hb10 | exact f1.below hb11 | exact f2.below hb11 | exact f0.setT2 f1 (by decide) _ _ | exact f1.set2 _ _), trivial⟩
          (try clear f0 f1 f2 f3 f4 f5 f6 f7 f8 f9 f10 f11)
          obtain ⟨hHeld, f0, f1, f2, -⟩ := hT
          refine wpAnyH_take (i := 10) (oi := ⟨some 10, _, _, _, _, _⟩) (v := ?_) rfl (by kernel_rfl) (by kernel_rfl) (by kernel_rfl) (fun _ _ _ h => h) (Or.inl ⟨by kernel_rfl, ?_⟩) (by assumption) ?_
          rotate_left
          · (intro wS hSw; (try dsimp only at hSw); obtain ⟨q0, q1, _, _⟩ := (hP5.a.below hSw).two; obtain ⟨p0, p1, _, _⟩ := (hP5.b.below hSw).two; clear hSw; go_simp; (try with_reducible rfl))
          (try simp only [Act.put, List.setIfInBounds_toArray, List.set_cons_zero, List.set_cons_succ])
          refine wpAnyH_done (by kernel_rfl) ?_ _
          (go_wp2_with fail; go_meet; exact ⟨_, A11, c11, m11, rfl, rfl, hm11, hHeld, f2, f0.sl⟩)
        exact AllReadyH.nil
      refine AllReadyH.cons (o := ⟨some 9, _, _, _, _, _⟩) rfl (fun K hK => ?_) ?_
      · go_simp
        refine hK.out _ _ ?_ (fun _ => ?_)
        · ((try dsimp only); (first | exact hst | exact bel_call hHeld hb9 | exact bel_call hHeld hb10 | exact bel_call hHeld hb11 | exact bel_alloc hHeld _ | exact bel_set (bel_set hHeld (by dsimp only; omega) _) (by dsimp only; omega) _))
        clear hK K
        (try simp only [Act.put, List.setIfInBounds_toArray, List.set_cons_zero, List.set_cons_succ])
        refine gen0 (T := fun W => ((fun W => Below W0.heap.size W0 W)) W ∧ SlD W A9 c9 m9 ∧ Blk W wq2.heap.size 91 #[.int .i64 0, .slice none 0 0] ∧ W0.heap.size ≤ wq2.heap.size ∧ True) ?_ (fun wq10 hT => ?_)
        · exact ⟨by (first | exact hst | exact bel_call hHeld hb9 | exact bel_call hHeld hb10 | exact bel_call hHeld hb11 | exact bel_alloc hHeld _ | exact bel_set (bel_set hHeld (by dsimp only; omega) _) (by dsimp only; omega) _), by (first | assumption | exact hs9 | exact hs10 | exact ho11.more hHeld.size | exact Sl.below f0 hb10 | exact Sl.below f0 (below_new _ _) | exact Sl.below f1 (below_new _ _) | exact World.ownsRow.alloc f0 _ | exact Blk.new _ _ _ | exact hHeld.size | exact f0.below hb9 | exact f0.below hb10 | exact f1.below hb10 | exact f1.below hb11 | exact f2.below hb11 | exact f0.setT2 f1 (by decide) _ _ | exact f1.set2 _ _), by (first | assumption | exact hs9 | exact hs10 | exact ho11.more hHeld.size | exact Sl.below f0 hb10 | exact Sl.below f0 (below_new _ _) | exact Sl.below f1 (below_new _ _) | exact World.ownsRow.alloc f0 _ | exact Blk.new _ _ _ | exact hHeld.size | exact f0.below hb9 | exact f0.below hb10 | exact f1.below hb10 | exact f1.below hb11 | exact f2.below hb11 | exact f0.setT2 f1 (by decide) _ _ | exact f1.set2 _ _), by (first | assumption | exact hs9 | exact hs10 | exact ho11.more hHeld.size | exact Sl.below f0 hb10 | exact Sl.below f0 (below_new _ _) | exact Sl.below f1 (below_new _ _) | exact World.ownsRow.alloc f0 _ | exact Blk.new _ _ _ | exact hHeld.size | exact f0.below hb9 | exact f0.below hb10 | exact f1.below hb10 | exact f1.below hb11 | exact f2.below hb11 | exact f0.setT2 f1 (by decide) _ _ | exact f1.set2 _ _), trivial⟩
        (try clear f0 f1 f2 f3 f4 f5 f6 f7 f8 f9 f10 f11)
        obtain ⟨hHeld, f0, f1, f2, -⟩ := hT
        refine wpAnyH_ready (rs := [3]) (by kernel_rfl) (by simp) ?_
        refine AllReadyH.cons (o := ⟨some 33, _, _, _, _, _⟩) rfl (fun K hK => ?_) AllReadyH.nil
        go_simp
        (first | ((with_reducible refine (Doc14_any f cs _ (h.below (bel_call hP5.bel hHeld)) (by omega)).mono ?_); rintro e w9 ⟨A9, c9, m9, rfl, hm9, hs9, hb9⟩) | ((with_reducible refine (Doc14_any fb ds _ (h2.below (bel_call hP5.bel hHeld)) (by omega)).mono ?_); rintro e w10 ⟨A10, c10, m10, rfl, hm10, hs10, hb10⟩))
        go_wp2_with fail
        refine hK.out _ _ ?_ (fun _ => ?_)
        · ((try dsimp only); (first | exact hst | exact bel_call hHeld hb9 | exact bel_call hHeld hb10 | exact bel_call hHeld hb11 | exact bel_alloc hHeld _ | exact bel_set (bel_set hHeld (by dsimp only; omega) _) (by dsimp only; omega) _))
        clear hK K
        (try simp only [Act.put, List.setIfInBounds_toArray, List.set_cons_zero, List.set_cons_succ])
        refine gen0 (T := fun W => ((fun W => Below W0.heap.size W0 W)) W ∧ SlD W A9 c9 m9 ∧ SlD W A10 c10 m10 ∧ Blk W wq2.heap.size 91 #[.int .i64 0, .slice none 0 0] ∧ W0.heap.size ≤ wq2.heap.size ∧ True) ?_ (fun wq11 hT => ?_)
        · exact ⟨by (first | exact hst | exact bel_call hHeld hb9 | exact bel_call hHeld hb10 | exact bel_call hHeld hb11 | exact bel_alloc hHeld _ | exact bel_set (bel_set hHeld (by dsimp only; omega) _) (by dsimp only; omega) _), by (first | assumption | exact hs9 | exact hs10 | exact ho11.more hHeld.size | exact Sl.below f0 hb10 | exact Sl.below f0 (below_new _ _) | exact Sl.below f1 (below_new _ _) | exact World.ownsRow.alloc f0 _ | exact Blk.new _ _ _ | exact hHeld.size | exact f0.below hb9 | exact f0.below hb10 | exact f1.below hb10 | exact f1.below hb11 | exact f2.below hb11 | exact f0.setT2 f1 (by decide) _ _ | exact f1.set2 _ _), by (first | assumption | exact hs9 | exact hs10 | exact ho11.more hHeld.size | exact Sl.below f0 hb10 | exact Sl.below f0 (below_new _ _) | exact Sl.below f1 (below_new _ _) | exact World.ownsRow.alloc f0 _ | exact Blk.new _ _ _ | exact hHeld.size | exact f0.below hb9 | exact f0.below hb10 | exact f1.below hb10 | exact f1.below hb11 | exact f2.below hb11 | exact f0.setT2 f1 (by decide) _ _ | exact f1.set2 _ _), by (first | assumption | exact hs9 | exact hs10 | exact ho11.more hHeld.size | exact Sl.below f0 hb10 | exact Sl.below f0 (below_new _ _) | exact Sl.below f1 (below_new _ _) | exact World.ownsRow.alloc f0 _ | exact Blk.new _ _ _ | exact hHeld.size | exact f0.below hb9 | exact f0.below hb10 | exact f1.below hb10 | exact f1.below hb11 | exact f2.below hb11 | exact f0.setT2 f1 (by decide) _ _ | exact f1.set2 _ _), by (first | assumption | exact hs9 | exact hs10 | exact ho11.more hHeld.size | exact Sl.below f0 hb10 | exact Sl.below f0 (below_new _ _) | exact Sl.below f1 (below_new _ _) | exact World.ownsRow.alloc f0 _ | exact Blk.new _ _ _ | exact hHeld.size | exact f0.below hb9 | exact f0.below hb10 | exact f1.below hb10 | exact f1.below hb11 | exact f2.below hb11 | exact f0.setT2 f1 (by decide) _ _ | exact f1.set2 _ _), trivial⟩
        (try clear f0 f1 f2 f3 f4 f5 f6 f7 f8 f9 f10 f11)
        obtain ⟨hHeld, f0, f1, f2, f3, -⟩ := hT
        refine wpAnyH_ready (rs := [4]) (by kernel_rfl) (by simp) ?_
        refine AllReadyH.cons (o := ⟨some 34, _, _, _, _, _⟩) rfl (fun K hK => ?_) AllReadyH.nil
        go_simp
        (obtain rfl := hm9.out; obtain rfl := hm10.out; refine (HRJ.out A9 A10 c9 c10 _ f0 f1).mono ?_; rintro e w11 ⟨A11, c11, m11, rfl, hm11, ho11, hb11⟩)
        go_wp2_with fail
        refine hK.out _ _ ?_ (fun _ => ?_)
        · ((try dsimp only); (first | exact hst | exact bel_call hHeld hb9 | exact bel_call hHeld hb10 | exact bel_call hHeld hb11 | exact bel_alloc hHeld _ | exact bel_set (bel_set hHeld (by dsimp only; omega) _) (by dsimp only; omega) _))
        clear hK K
        (try simp only [Act.put, List.setIfInBounds_toArray, List.set_cons_zero, List.set_cons_succ])
        refine gen0 (T := fun W => ((fun W => Below W0.heap.size W0 W)) W ∧ Own W W0.heap.size 46 2 A11 m11.length c11 (m11.flatMap df) ∧ Blk W wq2.heap.size 91 #[.int .i64 0, .slice none 0 0] ∧ W0.heap.size ≤ wq2.heap.size ∧ True) ?_ (fun wq12 hT => ?_)
        · exact ⟨by (first | exact hst | exact bel_call hHeld hb9 | exact bel_call hHeld hb10 | exact bel_call hHeld hb11 | exact bel_alloc hHeld _ | exact bel_set (bel_set hHeld (by dsimp only; omega) _) (by dsimp only; omega) _), by (first | assumption | exact hs9 | exact hs10 | exact ho11.more hHeld.size | exact Sl.below f0 hb10 | exact Sl.below f0 (below_new _ _) | exact Sl.below f1 (below_new _ _) | exact World.ownsRow.alloc f0 _ | exact Blk.new _ _ _ | exact hHeld.size | exact f0.below hb9 | exact f0.below hb10 | exact f1.below hb10 | exact f1.below hb11 | exact f2.below hb11 | exact f0.setT2 f1 (by decide) _ _ | exact f1.set2 _ _), by (first | assumption | exact hs9 | exact hs10 | exact ho11.more hHeld.size | exact Sl.below f0 hb10 | exact Sl.below f0 (below_new _ _) | exact Sl.below f1 (below_new _ _) | exact World.ownsRow.alloc f0 _ | exact Blk.new _ _ _ | exact hHeld.size | exact f0.below hb9 | exact f0.below hb10 | exact f1.below hb10 | exact f1.below hb11 | exact f2.below hb11 | exact f0.setT2 f1 (by decide) _ _ | exact f1.set2 _ _), by (first | assumption | exact hs9 | exact hs10 | exact ho11.more hHeld.size | exact Sl.below f0 hb10 | exact Sl.below f0 (below_new _ _) | exact Sl.below f1 (below_new _ _) | exact World.ownsRow.alloc f0 _ | exact Blk.new _ _ _ | exact hHeld.size | exact f0.below hb9 | exact f0.below hb10 | exact f1.below hb10 | exact f1.below hb11 | exact f2.below hb11 | exact f0.setT2 f1 (by decide) _ _ | exact f1.set2 _ _), trivial⟩
        (try clear f0 f1 f2 f3 f4 f5 f6 f7 f8 f9 f10 f11)
        obtain ⟨hHeld, f0, f1, f2, -⟩ := hT
        refine wpAnyH_take (i := 5) (oi := ⟨some 29, _, _, _, _, _⟩) (v := ?_) rfl (by kernel_rfl) (by kernel_rfl) (by kernel_rfl) (fun _ _ _ h => h) (Or.inl ⟨by kernel_rfl, ?_⟩) (by assumption) ?_
        rotate_left
        · (intro wS hSw; (try dsimp only at hSw); obtain ⟨q0, q1, _, _⟩ := (hP5.a.below hSw).two; obtain ⟨p0, p1, _, _⟩ := (hP5.b.below hSw).two; clear hSw; go_simp; (try with_reducible rfl))
        (try simp only [Act.put, List.setIfInBounds_toArray, List.set_cons_zero, List.set_cons_succ])
        refine wpAnyH_take (i := 6) (oi := ⟨some 35, _, _, _, _, _⟩) (v := ?_) rfl (by kernel_rfl) (by kernel_rfl) (by kernel_rfl) (fun _ _ _ h => h) (Or.inl ⟨by kernel_rfl, ?_⟩) (by assumption) ?_
        rotate_left
        · (intro wS hSw; (try dsimp only at hSw); obtain ⟨q0, q1, _, _⟩ := (hP5.a.below hSw).two; obtain ⟨p0, p1, _, _⟩ := (hP5.b.below hSw).two; clear hSw; go_simp; (try with_reducible rfl))
        (try simp only [Act.put, List.setIfInBounds_toArray, List.set_cons_zero, List.set_cons_succ])
        refine wpAnyH_take (i := 7) (oi := ⟨some 36, _, _, _, _, _⟩) (v := ?_) rfl (by kernel_rfl) (by kernel_rfl) (by kernel_rfl) (fun _ _ _ h => h) (Or.inl ⟨by kernel_rfl, ?_⟩) (by assumption) ?_
        rotate_left
        · (intro wS hSw; (try dsimp only at hSw); obtain ⟨q0, q1, _, _⟩ := (hP5.a.below hSw).two; obtain ⟨p0, p1, _, _⟩ := (hP5.b.below hSw).two; clear hSw; go_simp; (try with_reducible rfl))
        (try simp only [Act.put, List.setIfInBounds_toArray, List.set_cons_zero, List.set_cons_succ])
        refine wpAnyH_ready (rs := [9]) (by kernel_rfl) (by simp) ?_
        refine AllReadyH.cons (o := ⟨none, _, _, _, _, _⟩) rfl (fun K hK => ?_) AllReadyH.nil
        obtain ⟨s0, s1, sf0, sf1⟩ := f1.two
        go_simp
        refine hK.out _ _ ?_ (fun _ => ?_)
        · ((try dsimp only); (first | exact hst | exact bel_call hHeld hb9 | exact bel_call hHeld hb10 | exact bel_call hHeld hb11 | exact bel_alloc hHeld _ | exact bel_set (bel_set hHeld (by dsimp only; omega) _) (by dsimp only; omega) _))
        clear hK K
        (try simp only [Act.put, List.setIfInBounds_toArray, List.set_cons_zero, List.set_cons_succ])
        refine gen0 (T := fun W => ((fun W => Below W0.heap.size W0 W)) W ∧ Own W W0.heap.size 46 2 A11 m11.length c11 (m11.flatMap df) ∧ W0.heap.size ≤ wq2.heap.size ∧ Blk W wq2.heap.size 91 #[.int .i64 jf, .slice A11 m11.length c11] ∧ True) ?_ (fun wq13 hT => ?_)
        · exact ⟨by (first | exact hst | exact bel_call hHeld hb9 | exact bel_call hHeld hb10 | exact bel_call hHeld hb11 | exact bel_alloc hHeld _ | exact bel_set (bel_set hHeld (by dsimp only; omega) _) (by dsimp only; omega) _), by (first | assumption | exact hs9 | exact hs10 | exact ho11.more hHeld.size | exact Sl.below f0 hb10 | exact Sl.below f0 (below_new _ _) | exact Sl.below f1 (below_new _ _) | exact World.ownsRow.alloc f0 _ | exact Blk.new _ _ _ | exact hHeld.size | exact f0.below hb9 | exact f0.below hb10 | exact f1.below hb10 | exact f1.below hb11 | exact f2.below hb11 | exact f0.setT2 f1 (by decide) _ _ | exact f1.set2 _ _), by (first | assumption | exact hs9 | exact hs10 | exact ho11.more hHeld.size | exact Sl.below f0 hb10 | exact Sl.below f0 (below_new _ _) | exact Sl.below f1 (below_new _ _) | exact World.ownsRow.alloc f0 _ | exact Blk.new _ _ _ | exact hHeld.size | exact f0.below hb9 | exact f0.below hb10 | exact f1.below hb10 | exact f1.below hb11 | exact f2.below hb11 | exact f0.setT2 f1 (by decide) _ _ | exact f1.set2 _ _), by (first | assumption | exact hs9 | exact hs10 | exact ho11.more hHeld.size | exact Sl.below f0 hb10 | exact Sl.below f0 (below_new _ _) | exact Sl.below f1 (below_new _ _) | exact World.ownsRow.alloc f0 _ | exact Blk.new _ _ _ | exact hHeld.size | exact f0.below hb9 | exact f0.below hb10 | exact f1.below hb10 | exact f1.below hb11 | exact f2.below hb11 | exact f0.setT2 f1 (by decide) _ _ | exact f1.set2 _ _), trivial⟩
        (try clear f0 f1 f2 f3 f4 f5 f6 f7 f8 f9 f10 f11)
        obtain ⟨hHeld, f0, f1, f2, -⟩ := hT
        refine wpAnyH_take (i := 10) (oi := ⟨some 10, _, _, _, _, _⟩) (v := ?_) rfl (by kernel_rfl) (by kernel_rfl) (by kernel_rfl) (fun _ _ _ h => h) (Or.inl ⟨by kernel_rfl, ?_⟩) (by assumption) ?_
        rotate_left
        · (intro wS hSw; (try dsimp only at hSw); obtain ⟨q0, q1, _, _⟩ := (hP5.a.below hSw).two; obtain ⟨p0, p1, _, _⟩ := (hP5.b.below hSw).two; clear hSw; go_simp; (try with_reducible rfl))
        (try simp only [Act.put, List.setIfInBounds_toArray, List.set_cons_zero, List.set_cons_succ])
        refine wpAnyH_done (by kernel_rfl) ?_ _
        (go_wp2_with fail; go_meet; exact ⟨_, A11, c11, m11, rfl, rfl, hm11, hHeld, f2, f0.sl⟩)
      exact AllReadyH.nil
    refine AllReadyH.cons (o := ⟨some 9, _, _, _, _, _⟩) rfl (fun K hK => ?_) ?_
    · go_simp
      refine hK.out _ _ ?_ (fun _ => ?_)
      · ((try dsimp only); (first | exact hst | exact bel_call hHeld hb9 | exact bel_call hHeld hb10 | exact bel_call hHeld hb11 | exact bel_alloc hHeld _ | exact bel_set (bel_set hHeld (by dsimp only; omega) _) (by dsimp only; omega) _))
      clear hK K
      (try simp only [Act.put, List.setIfInBounds_toArray, List.set_cons_zero, List.set_cons_succ])
      refine gen0 (T := fun W => ((fun W => Below W0.heap.size W0 W)) W ∧ Blk W wq1.heap.size 91 #[.int .i64 0, .slice none 0 0] ∧ W0.heap.size ≤ wq1.heap.size ∧ True) ?_ (fun wq14 hT => ?_)
      · exact ⟨by (first | exact hst | exact bel_call hHeld hb9 | exact bel_call hHeld hb10 | exact bel_call hHeld hb11 | exact bel_alloc hHeld _ | exact bel_set (bel_set hHeld (by dsimp only; omega) _) (by dsimp only; omega) _), by (first | assumption | exact hs9 | exact hs10 | exact ho11.more hHeld.size | exact Sl.below f0 hb10 | exact Sl.below f0 (below_new _ _) | exact Sl.below f1 (below_new _ _) | exact World.ownsRow.alloc f0 _ | exact Blk.new _ _ _ | exact hHeld.size | exact f0.below hb9 | exact f0.below hb10 | exact f1.below hb10 | exact f1.below hb11 | exact f2.below hb11 | exact f0.setT2 f1 (by decide) _ _ | exact f1.set2 _ _), by (first | assumption | exact hs9 | exact hs10 | exact ho11.more hHeld.size | exact Sl.below f0 hb10 | exact Sl.below f0 (below_new _ _) | exact Sl.below f1 (below_new _ _) | exact World.ownsRow.alloc f0 _ | exact Blk.new _ _ _ | exact hHeld.size | exact f0.below hb9 | exact f0.below hb10 | exact f1.below hb10 | exact f1.below hb11 | exact f2.below hb11 | exact f0.setT2 f1 (by decide) _ _ | exact f1.set2 _ _), trivial⟩
      (try clear f0 f1 f2 f3 f4 f5 f6 f7 f8 f9 f10 f11)
      obtain ⟨hHeld, f0, f1, -⟩ := hT
      refine wpAnyH_ready (rs := [1]) (by kernel_rfl) (by simp) ?_
      refine AllReadyH.cons (o := ⟨some 31, _, _, _, _, _⟩) rfl (fun K hK => ?_) AllReadyH.nil
      go_simp
      (first | ((with_reducible refine (Doc14_any f cs _ (h.below (bel_call hP5.bel hHeld)) (by omega)).mono ?_); rintro e w9 ⟨A9, c9, m9, rfl, hm9, hs9, hb9⟩) | ((with_reducible refine (Doc14_any fb ds _ (h2.below (bel_call hP5.bel hHeld)) (by omega)).mono ?_); rintro e w10 ⟨A10, c10, m10, rfl, hm10, hs10, hb10⟩))
      go_wp2_with fail
      refine hK.out _ _ ?_ (fun _ => ?_)
      · ((try dsimp only); (first | exact hst | exact bel_call hHeld hb9 | exact bel_call hHeld hb10 | exact bel_call hHeld hb11 | exact bel_alloc hHeld _ | exact bel_set (bel_set hHeld (by dsimp only; omega) _) (by dsimp only; omega) _))
      clear hK K
      (try simp only [Act.put, List.setIfInBounds_toArray, List.set_cons_zero, List.set_cons_succ])
      refine gen0 (T := fun W => ((fun W => Below W0.heap.size W0 W)) W ∧ SlD W A9 c9 m9 ∧ Blk W wq1.heap.size 91 #[.int .i64 0, .slice none 0 0] ∧ W0.heap.size ≤ wq1.heap.size ∧ True) ?_ (fun wq15 hT => ?_)
      · exact ⟨by (first | exact hst | exact bel_call hHeld hb9 | exact bel_call hHeld hb10 | exact bel_call hHeld hb11 | exact bel_alloc hHeld _ | exact bel_set (bel_set hHeld (by dsimp only; omega) _) (by dsimp only; omega) _), by (first | assumption | exact hs9 | exact hs10 | exact ho11.more hHeld.size | exact Sl.below f0 hb10 | exact Sl.below f0 (below_new _ _) | exact Sl.below f1 (below_new _ _) | exact World.ownsRow.alloc f0 _ | exact Blk.new _ _ _ | exact hHeld.size | exact f0.below hb9 | exact f0.below hb10 | exact f1.below hb10 | exact f1.below hb11 | exact f2.below hb11 | exact f0.setT2 f1 (by decide) _ _ | exact f1.set2 _ _), by (first | assumption | exact hs9 | exact hs10 | exact ho11.more hHeld.size | exact Sl.below f0 hb10 | exact Sl.below f0 (below_new _ _) | exact Sl.below f1 (below_new _ _) | exact World.ownsRow.alloc f0 _ | exact Blk.new _ _ _ | exact hHeld.size | exact f0.below hb9 | exact f0.below hb10 | exact f1.below hb10 | exact f1.below hb11 | exact f2.below hb11 | exact f0.setT2 f1 (by decide) _ _ | exact f1.set2 _ _), by (first | assumption | exact hs9 | exact hs10 | exact ho11.more hHeld.size | exact Sl.below f0 hb10 | exact Sl.below f0 (below_new _ _) | exact Sl.below f1 (below_new _ _) | exact World.ownsRow.alloc f0 _ | exact Blk.new _ _ _ | exact hHeld.size | exact f0.below hb9 | exact f0.below hb10 | exact f1.below hb10 | exact f1.below hb11 | exact f2.below hb11 | exact f0.setT2 f1 (by decide) _ _ | exact f1.set2 _ _), trivial⟩
      (try clear f0 f1 f2 f3 f4 f5 f6 f7 f8 f9 f10 f11)
      obtain ⟨hHeld, f0, f1, f2, -⟩ := hT
      refine wpAnyH_ready (rs := [3]) (by kernel_rfl) (by simp) ?_
      refine AllReadyH.cons (o := ⟨some 33, _, _, _, _, _⟩) rfl (fun K hK => ?_) AllReadyH.nil
      go_simp
      (first | ((with_reducible refine (Doc14_any f cs _ (h.below (bel_call hP5.bel hHeld)) (by omega)).mono ?_); rintro e w9 ⟨A9, c9, m9, rfl, hm9, hs9, hb9⟩) | ((with_reducible refine (Doc14_any fb ds _ (h2.below (bel_call hP5.bel hHeld)) (by omega)).mono ?_); rintro e w10 ⟨A10, c10, m10, rfl, hm10, hs10, hb10⟩))
      go_wp2_with fail
      refine hK.out _ _ ?_ (fun _ => ?_)
      · ((try dsimp only); (first | exact hst | exact bel_call hHeld hb9 | exact bel_call hHeld hb10 | exact bel_call hHeld hb11 | exact bel_alloc hHeld _ | exact bel_set (bel_set hHeld (by dsimp only; omega) _) (by dsimp only; omega) _))
      clear hK K
      (try simp only [Act.put, List.setIfInBounds_toArray, List.set_cons_zero, List.set_cons_succ])
      refine gen0 (T := fun W => ((fun W => Below W0.heap.size W0 W)) W ∧ SlD W A9 c9 m9 ∧ SlD W A10 c10 m10 ∧ Blk W wq1.heap.size 91 #[.int .i64 0, .slice none 0 0] ∧ W0.heap.size ≤ wq1.heap.size ∧ True) ?_ (fun wq16 hT => ?_)
      · exact ⟨by (first | exact hst | exact bel_call hHeld hb9 | exact bel_call hHeld hb10 | exact bel_call hHeld hb11 | exact bel_alloc hHeld _ | exact bel_set (bel_set hHeld (by dsimp only; omega) _) (by dsimp only; omega) _), by (first | assumption | exact hs9 | exact hs10 | exact ho11.more hHeld.size | exact Sl.below f0 hb10 | exact Sl.below f0 (below_new _ _) | exact Sl.below f1 (below_new _ _) | exact World.ownsRow.alloc f0 _ | exact Blk.new _ _ _ | exact hHeld.size | exact f0.below hb9 | exact f0.below hb10 | exact f1.below hb10 | exact f1.below hb11 | exact f2.below hb11 | exact f0.setT2 f1 (by decide) _ _ | exact f1.set2 _ _), by (first | assumption | exact hs9 | exact hs10 | exact ho11.more hHeld.size | exact Sl.below f0 hb10 | exact Sl.below f0 (below_new _ _) | exact Sl.below f1 (below_new _ _) | exact World.ownsRow.alloc f0 _ | exact Blk.new _ _ _ | exact hHeld.size | exact f0.below hb9 | exact f0.below hb10 | exact f1.below hb10 | exact f1.below hb11 | exact f2.below hb11 | exact f0.setT2 f1 (by decide) _ _ | exact f1.set2 _ _), by (first | assumption | exact hs9 | exact hs10 | exact ho11.more hHeld.size | exact Sl.below f0 hb10 | exact Sl.below f0 (below_new _ _) | exact Sl.below f1 (below_new _ _) | exact World.ownsRow.alloc f0 _ | exact Blk.new _ _ _ | exact hHeld.size | exact f0.below hb9 | exact f0.below hb10 | exact f1.below hb10 | exact f1.below hb11 | exact f2.below hb11 | exact f0.setT2 f1 (by decide) _ _ | exact f1.set2 _ _), by (first | assumption | exact hs9 | exact hs10 | exact ho11.more hHeld.size | exact Sl.below f0 hb10 | exact Sl.below f0 (below_new _ _) | exact Sl.below f1 (below_new _ _) | exact World.ownsRow.alloc f0 _ | exact Blk.new _ _ _ | exact hHeld.size | exact f0.below hb9 | exact f0.below hb10 | exact f1.below hb10 | exact f1.below hb11 | exact f2.below hb11 | exact f0.setT2 f1 (by decide) _ _ | exact f1.set2 _ _), trivial⟩
      (try clear f0 f1 f2 f3 f4 f5 f6 f7 f8 f9 f10 f11)
      obtain ⟨hHeld, f0, f1, f2, f3, -⟩ := hT
      refine wpAnyH_ready (rs := [4]) (by kernel_rfl) (by simp) ?_
      refine AllReadyH.cons (o := ⟨some 34, _, _, _, _, _⟩) rfl (fun K hK => ?_) AllReadyH.nil
      go_simp
      (obtain rfl := hm9.out; obtain rfl := hm10.out; refine (HRJ.out A9 A10 c9 c10 _ f0 f1).mono ?_; rintro e w11 ⟨A11, c11, m11, rfl, hm11, ho11, hb11⟩)
      go_wp2_with fail
      refine hK.out _ _ ?_ (fun _ => ?_)
      · ((try dsimp only); (first | exact hst | exact bel_call hHeld hb9 | exact bel_call hHeld hb10 | exact bel_call hHeld hb11 | exact bel_alloc hHeld _ | exact bel_set (bel_set hHeld (by dsimp only; omega) _) (by dsimp only; omega) _))
      clear hK K
      (try simp only [Act.put, List.setIfInBounds_toArray, List.set_cons_zero, List.set_cons_succ])
      refine gen0 (T := fun W => ((fun W => Below W0.heap.size W0 W)) W ∧ Own W W0.heap.size 46 2 A11 m11.length c11 (m11.flatMap df) ∧ Blk W wq1.heap.size 91 #[.int .i64 0, .slice none 0 0] ∧ W0.heap.size ≤ wq1.heap.size ∧ True) ?_ (fun wq17 hT => ?_)
      · exact ⟨by (first | exact hst | exact bel_call hHeld hb9 | exact bel_call hHeld hb10 | exact bel_call hHeld hb11 | exact bel_alloc hHeld _ | exact bel_set (bel_set hHeld (by dsimp only; omega) _) (by dsimp only; omega) _), by (first | assumption | exact hs9 | exact hs10 | exact ho11.more hHeld.size | exact Sl.below f0 hb10 | exact Sl.below f0 (below_new _ _) | exact Sl.below f1 (below_new _ _) | exact World.ownsRow.alloc f0 _ | exact Blk.new _ _ _ | exact hHeld.size | exact f0.below hb9 | exact f0.below hb10 | exact f1.below hb10 | exact f1.below hb11 | exact f2.below hb11 | exact f0.setT2 f1 (by decide) _ _ | exact f1.set2 _ _), by (first | assumption | exact hs9 | exact hs10 | exact ho11.more hHeld.size | exact Sl.below f0 hb10 | exact Sl.below f0 (below_new _ _) | exact Sl.below f1 (below_new _ _) | exact World.ownsRow.alloc f0 _ | exact Blk.new _ _ _ | exact hHeld.size | exact f0.below hb9 | exact f0.below hb10 | exact f1.below hb10 | exact f1.below hb11 | exact f2.below hb11 | exact f0.setT2 f1 (by decide) _ _ | exact f1.set2 _ _), by (first | assumption | exact hs9 | exact hs10 | exact ho11.more hHeld.size | exact Sl.below f0 hb10 | exact Sl.below f0 (below_new _ _) | exact Sl.below f1 (below_new _ _) | exact World.ownsRow.alloc f0 _ | exact Blk.new _ _ _ | exact hHeld.size | exact f0.below hb9 | exact f0.below hb10 | exact f1.below hb10 | exact f1.below hb11 | exact f2.below hb11 | exact f0.setT2 f1 (by decide) _ _ | exact f1.set2 _ _), trivial⟩
      (try clear f0 f1 f2 f3 f4 f5 f6 f7 f8 f9 f10 f11)
      obtain ⟨hHeld, f0, f1, f2, -⟩ := hT
      refine wpAnyH_take (i := 5) (oi := ⟨some 29, _, _, _, _, _⟩) (v := ?_) rfl (by kernel_rfl) (by kernel_rfl) (by kernel_rfl) (fun _ _ _ h => h) (Or.inl ⟨by kernel_rfl, ?_⟩) (by assumption) ?_
      rotate_left
      · (intro wS hSw; (try dsimp only at hSw); obtain ⟨q0, q1, _, _⟩ := (hP5.a.below hSw).two; obtain ⟨p0, p1, _, _⟩ := (hP5.b.below hSw).two; clear hSw; go_simp; (try with_reducible rfl))
      (try simp only [Act.put, List.setIfInBounds_toArray, List.set_cons_zero, List.set_cons_succ])
      refine wpAnyH_take (i := 6) (oi := ⟨some 35, _, _, _, _, _⟩) (v := ?_) rfl (by kernel_rfl) (by kernel_rfl) (by kernel_rfl) (fun _ _ _ h => h) (Or.inl ⟨by kernel_rfl, ?_⟩) (by assumption) ?_
      rotate_left
      · (intro wS hSw; (try dsimp only at hSw); obtain ⟨q0, q1, _, _⟩ := (hP5.a.below hSw).two; obtain ⟨p0, p1, _, _⟩ := (hP5.b.below hSw).two; clear hSw; go_simp; (try with_reducible rfl))
      (try simp only [Act.put, List.setIfInBounds_toArray, List.set_cons_zero, List.set_cons_succ])
      refine wpAnyH_take (i := 7) (oi := ⟨some 36, _, _, _, _, _⟩) (v := ?_) rfl (by kernel_rfl) (by kernel_rfl) (by kernel_rfl) (fun _ _ _ h => h) (Or.inl ⟨by kernel_rfl, ?_⟩) (by assumption) ?_
      rotate_left
      · (intro wS hSw; (try dsimp only at hSw); obtain ⟨q0, q1, _, _⟩ := (hP5.a.below hSw).two; obtain ⟨p0, p1, _, _⟩ := (hP5.b.below hSw).two; clear hSw; go_simp; (try with_reducible rfl))
      (try simp only [Act.put, List.setIfInBounds_toArray, List.set_cons_zero, List.set_cons_succ])
      refine wpAnyH_ready (rs := [9]) (by kernel_rfl) (by simp) ?_
      refine AllReadyH.cons (o := ⟨none, _, _, _, _, _⟩) rfl (fun K hK => ?_) AllReadyH.nil
      obtain ⟨s0, s1, sf0, sf1⟩ := f1.two
      go_simp
      refine hK.out _ _ ?_ (fun _ => ?_)
      · ((try dsimp only); (first | exact hst | exact bel_call hHeld hb9 | exact bel_call hHeld hb10 | exact bel_call hHeld hb11 | exact bel_alloc hHeld _ | exact bel_set (bel_set hHeld (by dsimp only; omega) _) (by dsimp only; omega) _))
      clear hK K
      (try simp only [Act.put, List.setIfInBounds_toArray, List.set_cons_zero, List.set_cons_succ])
      refine gen0 (T := fun W => ((fun W => Below W0.heap.size W0 W)) W ∧ Own W W0.heap.size 46 2 A11 m11.length c11 (m11.flatMap df) ∧ W0.heap.size ≤ wq1.heap.size ∧ Blk W wq1.heap.size 91 #[.int .i64 jf, .slice A11 m11.length c11] ∧ True) ?_ (fun wq18 hT => ?_)
      · exact ⟨by (first | exact hst | exact bel_call hHeld hb9 | exact bel_call hHeld hb10 | exact bel_call hHeld hb11 | exact bel_alloc hHeld _ | exact bel_set (bel_set hHeld (by dsimp only; omega) _) (by dsimp only; omega) _), by (first | assumption | exact hs9 | exact hs10 | exact ho11.more hHeld.size | exact Sl.below f0 hb10 | exact Sl.below f0 (below_new _ _) | exact Sl.below f1 (below_new _ _) | exact World.ownsRow.alloc f0 _ | exact Blk.new _ _ _ | exact hHeld.size | exact f0.below hb9 | exact f0.below hb10 | exact f1.below hb10 | exact f1.below hb11 | exact f2.below hb11 | exact f0.setT2 f1 (by decide) _ _ | exact f1.set2 _ _), by (first | assumption | exact hs9 | exact hs10 | exact ho11.more hHeld.size | exact Sl.below f0 hb10 | exact Sl.below f0 (below_new _ _) | exact Sl.below f1 (below_new _ _) | exact World.ownsRow.alloc f0 _ | exact Blk.new _ _ _ | exact hHeld.size | exact f0.below hb9 | exact f0.below hb10 | exact f1.below hb10 | exact f1.below hb11 | exact f2.below hb11 | exact f0.setT2 f1 (by decide) _ _ | exact f1.set2 _ _), by (first | assumption | exact hs9 | exact hs10 | exact ho11.more hHeld.size | exact Sl.below f0 hb10 | exact Sl.below f0 (below_new _ _) | exact Sl.below f1 (below_new _ _) | exact World.ownsRow.alloc f0 _ | exact Blk.new _ _ _ | exact hHeld.size | exact f0.below hb9 | exact f0.below hb10 | exact f1.below hb10 | exact f1.below hb11 | exact f2.below hb11 | exact f0.setT2 f1 (by decide) _ _ | exact f1.set2 _ _), trivial⟩
      (try clear f0 f1 f2 f3 f4 f5 f6 f7 f8 f9 f10 f11)
      obtain ⟨hHeld, f0, f1, f2, -⟩ := hT
      refine wpAnyH_take (i := 10) (oi := ⟨some 10, _, _, _, _, _⟩) (v := ?_) rfl (by kernel_rfl) (by kernel_rfl) (by kernel_rfl) (fun _ _ _ h => h) (Or.inl ⟨by kernel_rfl, ?_⟩) (by assumption) ?_
      rotate_left
      · (intro wS hSw; (try dsimp only at hSw); obtain ⟨q0, q1, _, _⟩ := (hP5.a.below hSw).two; obtain ⟨p0, p1, _, _⟩ := (hP5.b.below hSw).two; clear hSw; go_simp; (try with_reducible rfl))
      (try simp only [Act.put, List.setIfInBounds_toArray, List.set_cons_zero, List.set_cons_succ])
      refine wpAnyH_done (by kernel_rfl) ?_ _
      (go_wp2_with fail; go_meet; exact ⟨_, A11, c11, m11, rfl, rfl, hm11, hHeld, f2, f0.sl⟩)
    exact AllReadyH.nil
  case rest =>
    obtain ⟨gz, Az, cz, mz, rfl, rfl, hmz, hbz, hBz, hDz⟩ := hcut
    have hP6 := (hP4.below hbn).below hbz
    have hJ6 := (Blk.new w4 89 #[.int .i64 jf, .slice Aj mj.length kj]).below hbz
    have hC6 := (hCj.below hbn).below hbz
    have hml : mj.length ≤ 2000 := by
      have := congrArg List.length hmj.out
      simp only [List.length_map] at this hjl
      omega
    clear hjl
    clear hP4 hbn hbz hCj HRJ
    have hst : Below wc.heap.size wc wc.drew := (Below.refl _ _).drew
    go_upto_region 7 with (fail)
    refine wp_region_held_drew (S := (fun W => Below wc.heap.size wc W)) (by kernel_rfl) ?_ (fun hHeld => ?_)
    · exact hst
    refine gen0 (T := fun W => ((fun W => Below wc.heap.size wc W)) W ∧ True) ?_ (fun wq1 hT => ?_)
    · exact ⟨by (first | exact hst | exact hHeld | exact bel_call hHeld hb9 | exact bel_call hHeld hb10), trivial⟩
    (try clear f0 f1 f2 f3 f4 f5 f6 f7 f8 f9 f10 f11)
    obtain ⟨hHeld, -⟩ := hT
    refine wpAnyH_take (i := 0) (oi := ⟨some 37, _, _, _, _, _⟩) (v := ?_) rfl (by kernel_rfl) (by kernel_rfl) (by kernel_rfl) (fun _ _ _ h => h) (Or.inl ⟨by kernel_rfl, ?_⟩) (by assumption) ?_
    rotate_left
    · (intro wS hSw; (try dsimp only at hSw); obtain ⟨q0, q1, _, _⟩ := (hJ6.below hSw).two; obtain ⟨p0, p1, _, _⟩ := (hBz.below hSw).two; clear hSw; go_simp; (try with_reducible rfl))
    (try simp only [Act.put, List.setIfInBounds_toArray, List.set_cons_zero, List.set_cons_succ])
    refine wpAnyH_take (i := 2) (oi := ⟨some 39, _, _, _, _, _⟩) (v := ?_) rfl (by kernel_rfl) (by kernel_rfl) (by kernel_rfl) (fun _ _ _ h => h) (Or.inl ⟨by kernel_rfl, ?_⟩) (by assumption) ?_
    rotate_left
    · (intro wS hSw; (try dsimp only at hSw); obtain ⟨q0, q1, _, _⟩ := (hJ6.below hSw).two; obtain ⟨p0, p1, _, _⟩ := (hBz.below hSw).two; clear hSw; go_simp; (try with_reducible rfl))
    (try simp only [Act.put, List.setIfInBounds_toArray, List.set_cons_zero, List.set_cons_succ])
    refine wpAnyH_ready (rs := [1]) (by kernel_rfl) (by simp) ?_
    refine AllReadyH.cons (o := ⟨some 38, _, _, _, _, _⟩) rfl (fun K hK => ?_) AllReadyH.nil
    go_simp
    (refine (Doc14_any jf mj _ (hC6.below hHeld) (by omega)).mono ?_; rintro e w9 ⟨A9, c9, m9, rfl, hm9, hs9, hb9⟩)
    go_wp2_with fail
    refine hK.out _ _ ?_ (fun _ => ?_)
    · ((try dsimp only); (first | exact hst | exact hHeld | exact bel_call hHeld hb9 | exact bel_call hHeld hb10))
    clear hK K
    (try simp only [Act.put, List.setIfInBounds_toArray, List.set_cons_zero, List.set_cons_succ])
    refine gen0 (T := fun W => ((fun W => Below wc.heap.size wc W)) W ∧ SlD W A9 c9 m9 ∧ True) ?_ (fun wq2 hT => ?_)
    · exact ⟨by (first | exact hst | exact hHeld | exact bel_call hHeld hb9 | exact bel_call hHeld hb10), by (first | assumption | exact hs9), trivial⟩
    (try clear f0 f1 f2 f3 f4 f5 f6 f7 f8 f9 f10 f11)
    obtain ⟨hHeld, f0, -⟩ := hT
    refine wpAnyH_ready (rs := [3]) (by kernel_rfl) (by simp) ?_
    refine AllReadyH.cons (o := ⟨some 40, _, _, _, _, _⟩) rfl (fun K hK => ?_) AllReadyH.nil
    go_simp
    (refine (rSSame_any jf jf m9 mz _ f0 (Sl.below hDz hHeld)).mono ?_; rintro e w10 ⟨rfl, hb10⟩; rw [show ssame (jf, m9) (jf, mz) = true from by rw [ssame_eq, hm9.out, hmj.out, hmz.out]; simp])
    go_wp2_with fail
    refine hK.out _ _ ?_ (fun _ => ?_)
    · ((try dsimp only); (first | exact hst | exact hHeld | exact bel_call hHeld hb9 | exact bel_call hHeld hb10))
    clear hK K
    (try simp only [Act.put, List.setIfInBounds_toArray, List.set_cons_zero, List.set_cons_succ])
    refine gen0 (T := fun W => ((fun W => Below wc.heap.size wc W)) W ∧ True) ?_ (fun wq3 hT => ?_)
    · exact ⟨by (first | exact hst | exact hHeld | exact bel_call hHeld hb9 | exact bel_call hHeld hb10), trivial⟩
    (try clear f0 f1 f2 f3 f4 f5 f6 f7 f8 f9 f10 f11)
    obtain ⟨hHeld, -⟩ := hT
    refine wpAnyH_take (i := 4) (oi := ⟨some 41, _, _, _, _, _⟩) (v := ?_) rfl (by kernel_rfl) (by kernel_rfl) (by kernel_rfl) (fun _ _ _ h => h) (Or.inl ⟨by kernel_rfl, ?_⟩) (by assumption) ?_
    rotate_left
    · (intro wS hSw; (try dsimp only at hSw); obtain ⟨q0, q1, _, _⟩ := (hJ6.below hSw).two; obtain ⟨p0, p1, _, _⟩ := (hBz.below hSw).two; clear hSw; go_simp; (try with_reducible rfl))
    (try simp only [Act.put, List.setIfInBounds_toArray, List.set_cons_zero, List.set_cons_succ])
    refine wpAnyH_take (i := 5) (oi := ⟨some 42, _, _, _, _, _⟩) (v := ?_) rfl (by kernel_rfl) (by kernel_rfl) (by kernel_rfl) (fun _ _ _ h => h) (Or.inl ⟨by kernel_rfl, ?_⟩) (by assumption) ?_
    rotate_left
    · (intro wS hSw; (try dsimp only at hSw); obtain ⟨q0, q1, _, _⟩ := (hJ6.below hSw).two; obtain ⟨p0, p1, _, _⟩ := (hBz.below hSw).two; clear hSw; go_simp; (try with_reducible rfl))
    (try simp only [Act.put, List.setIfInBounds_toArray, List.set_cons_zero, List.set_cons_succ])
    refine wpAnyH_take (i := 6) (oi := ⟨some 43, _, _, _, _, _⟩) (v := ?_) rfl (by kernel_rfl) (by kernel_rfl) (by kernel_rfl) (fun _ _ _ h => h) (Or.inl ⟨by kernel_rfl, ?_⟩) (by assumption) ?_
    rotate_left
    · (intro wS hSw; (try dsimp only at hSw); obtain ⟨q0, q1, _, _⟩ := (hJ6.below hSw).two; obtain ⟨p0, p1, _, _⟩ := (hBz.below hSw).two; clear hSw; go_simp; (try with_reducible rfl))
    (try simp only [Act.put, List.setIfInBounds_toArray, List.set_cons_zero, List.set_cons_succ])
    refine wpAnyH_take (i := 8) (oi := ⟨some 45, _, _, _, _, _⟩) (v := ?_) rfl (by kernel_rfl) (by kernel_rfl) (by kernel_rfl) (fun _ _ _ h => h) (Or.inl ⟨by kernel_rfl, ?_⟩) (by assumption) ?_
    rotate_left
    · (intro wS hSw; (try dsimp only at hSw); obtain ⟨q0, q1, _, _⟩ := (hJ6.below hSw).two; obtain ⟨p0, p1, _, _⟩ := (hBz.below hSw).two; clear hSw; go_simp; (try with_reducible rfl))
    (try simp only [Act.put, List.setIfInBounds_toArray, List.set_cons_zero, List.set_cons_succ])
    refine wpAnyH_ready (rs := [7]) (by kernel_rfl) (by simp) ?_
    refine AllReadyH.cons (o := ⟨some 44, _, _, _, _, _⟩) rfl (fun K hK => ?_) AllReadyH.nil
    go_simp
    (refine (num_any jb _).mono ?_; rintro e w11 ⟨rfl, rfl⟩)
    go_wp2_with fail
    refine hK.out _ _ ?_ (fun _ => ?_)
    · ((try dsimp only); (first | exact hst | exact hHeld | exact bel_call hHeld hb9 | exact bel_call hHeld hb10))
    clear hK K
    (try simp only [Act.put, List.setIfInBounds_toArray, List.set_cons_zero, List.set_cons_succ])
    refine gen0 (T := fun W => ((fun W => Below wc.heap.size wc W)) W ∧ True) ?_ (fun wq4 hT => ?_)
    · exact ⟨by (first | exact hst | exact hHeld | exact bel_call hHeld hb9 | exact bel_call hHeld hb10), trivial⟩
    (try clear f0 f1 f2 f3 f4 f5 f6 f7 f8 f9 f10 f11)
    obtain ⟨hHeld, -⟩ := hT
    refine wpAnyH_take (i := 9) (oi := ⟨some 46, _, _, _, _, _⟩) (v := ?_) rfl (by kernel_rfl) (by kernel_rfl) (by kernel_rfl) (fun _ _ _ h => h) (Or.inl ⟨by kernel_rfl, ?_⟩) (by assumption) ?_
    rotate_left
    · (intro wS hSw; (try dsimp only at hSw); obtain ⟨q0, q1, _, _⟩ := (hJ6.below hSw).two; obtain ⟨p0, p1, _, _⟩ := (hBz.below hSw).two; clear hSw; go_simp; (try with_reducible rfl))
    (try simp only [Act.put, List.setIfInBounds_toArray, List.set_cons_zero, List.set_cons_succ])
    refine wpAnyH_take (i := 10) (oi := ⟨some 47, _, _, _, _, _⟩) (v := ?_) rfl (by kernel_rfl) (by kernel_rfl) (by kernel_rfl) (fun _ _ _ h => h) (Or.inl ⟨by kernel_rfl, ?_⟩) (by assumption) ?_
    rotate_left
    · (intro wS hSw; (try dsimp only at hSw); obtain ⟨q0, q1, _, _⟩ := (hJ6.below hSw).two; obtain ⟨p0, p1, _, _⟩ := (hBz.below hSw).two; clear hSw; go_simp; (try with_reducible rfl))
    (try simp only [Act.put, List.setIfInBounds_toArray, List.set_cons_zero, List.set_cons_succ])
    refine wpAnyH_done (by kernel_rfl) ?_ _
    have hP7 := hP6.below hHeld
    clear hst hP6 hJ6 hC6 hBz hDz
    obtain ⟨a0, a1, _, _⟩ := hP7.a.two
    obtain ⟨x0, x1, _, _⟩ := hP7.e.two
    go_wp2_with fail
    refine (SSlice_any f p q cs _ (h.below hP7.bel) HD1.out).mono ?_
    rintro e w8 ⟨As, ks, ms, rfl, hms, hCs, hb8⟩
    have hP8 := hP7.below hb8
    have hrs := fun A x W (hx : SlD W A x (cs.map ceOf)) => rSSlice_any (E := A) (cap := x) f p q (cs.map ceOf) W hx
    have hpl := spart_len (f, cs.map ceOf) p q
    clear hP7 hb8 a0 a1 x0 x1
    generalize spart (f, cs.map ceOf) p q = y at *
    obtain ⟨⟨pf, pc⟩, pb⟩ := y
    dsimp only at *
    have HRS := Lib.hid hrs
    have hml2 : ms.length ≤ 1000 := by
      have := congrArg List.length hms.out
      simp only [List.length_map] at this hpl
      omega
    clear hrs hpl hHeld hb9 hb10 hs9 hm9
    go_upto_region 10 with (fail)
    have hbn := below_new w8 (.cells #[.int .i64 pf, .slice As ms.length ks] 89)
    have hP9 := hP8.below hbn
    have hJ9 := Blk.new w8 89 #[.int .i64 pf, .slice As ms.length ks]
    have hC9 := hCs.below hbn
    generalize hW9 : (w8.alloc (.cells #[.int .i64 pf, .slice As ms.length ks] 89)) = W9 at *
    clear hW9 hbn hP8 hCs
    go_cut [12, 10] (fun s12 s10 wz => ∃ (gy : Nat) (A : Option Addr) (c : Nat) (m : List Ce), s12 = .pointer (some ⟨gy, 0, none⟩) ∧ s10 = .int .i64 (pb : Nat) ∧ Hid (m = pc) ∧ Below W9.heap.size W9 wz ∧ Blk wz gy 91 #[.int .i64 pf, .slice A (List.length m) c] ∧ SlD wz A c m)
    case first =>
      have hst : Below W9.heap.size W9 W9.drew := (Below.refl _ _).drew
      refine wp_region_held_drew (S := (fun W => Below W9.heap.size W9 W)) (by kernel_rfl) ?_ (fun hHeld => ?_)
      · exact hst
      refine gen0 (T := fun W => ((fun W => Below W9.heap.size W9 W)) W ∧ True) ?_ (fun wq1 hT => ?_)
      · exact ⟨by (first | exact hst | exact bel_call hHeld hb9 | exact bel_call hHeld hb11 | exact bel_alloc hHeld _ | exact bel_set (bel_set hHeld (by dsimp only; omega) _) (by dsimp only; omega) _), trivial⟩
      (try clear f0 f1 f2 f3 f4 f5 f6 f7 f8 f9 f10 f11)
      obtain ⟨hHeld, -⟩ := hT
      refine wpAnyH_take (i := 0) (oi := ⟨some 58, _, _, _, _, _⟩) (v := ?_) rfl (by kernel_rfl) (by kernel_rfl) (by kernel_rfl) (fun _ _ _ h => h) (Or.inl ⟨by kernel_rfl, ?_⟩) (by assumption) ?_
      rotate_left
      · (intro wS hSw; (try dsimp only at hSw); obtain ⟨q0, q1, _, _⟩ := (hP9.a.below hSw).two; obtain ⟨p0, p1, _, _⟩ := (hP9.e.below hSw).two; clear hSw; go_simp; (try with_reducible rfl))
      (try simp only [Act.put, List.setIfInBounds_toArray, List.set_cons_zero, List.set_cons_succ])
      refine wpAnyH_take (i := 2) (oi := ⟨some 60, _, _, _, _, _⟩) (v := ?_) rfl (by kernel_rfl) (by kernel_rfl) (by kernel_rfl) (fun _ _ _ h => h) (Or.inl ⟨by kernel_rfl, ?_⟩) (by assumption) ?_
      rotate_left
      · (intro wS hSw; (try dsimp only at hSw); obtain ⟨q0, q1, _, _⟩ := (hP9.a.below hSw).two; obtain ⟨p0, p1, _, _⟩ := (hP9.e.below hSw).two; clear hSw; go_simp; (try with_reducible rfl))
      (try simp only [Act.put, List.setIfInBounds_toArray, List.set_cons_zero, List.set_cons_succ])
      refine wpAnyH_take (i := 3) (oi := ⟨some 61, _, _, _, _, _⟩) (v := ?_) rfl (by kernel_rfl) (by kernel_rfl) (by kernel_rfl) (fun _ _ _ h => h) (Or.inl ⟨by kernel_rfl, ?_⟩) (by assumption) ?_
      rotate_left
      · (intro wS hSw; (try dsimp only at hSw); obtain ⟨q0, q1, _, _⟩ := (hP9.a.below hSw).two; obtain ⟨p0, p1, _, _⟩ := (hP9.e.below hSw).two; clear hSw; go_simp; (try with_reducible rfl))
      (try simp only [Act.put, List.setIfInBounds_toArray, List.set_cons_zero, List.set_cons_succ])
      refine wpAnyH_take (i := 4) (oi := ⟨some 62, _, _, _, _, _⟩) (v := ?_) rfl (by kernel_rfl) (by kernel_rfl) (by kernel_rfl) (fun _ _ _ h => h) (Or.inl ⟨by kernel_rfl, ?_⟩) (by assumption) ?_
      rotate_left
      · (intro wS hSw; (try dsimp only at hSw); obtain ⟨q0, q1, _, _⟩ := (hP9.a.below hSw).two; obtain ⟨p0, p1, _, _⟩ := (hP9.e.below hSw).two; clear hSw; go_simp; (try with_reducible rfl))
      (try simp only [Act.put, List.setIfInBounds_toArray, List.set_cons_zero, List.set_cons_succ])
      refine wpAnyH_take (i := 5) (oi := ⟨some 63, _, _, _, _, _⟩) (v := ?_) rfl (by kernel_rfl) (by kernel_rfl) (by kernel_rfl) (fun _ _ _ h => h) (Or.inl ⟨by kernel_rfl, ?_⟩) (by assumption) ?_
      rotate_left
      · (intro wS hSw; (try dsimp only at hSw); obtain ⟨q0, q1, _, _⟩ := (hP9.a.below hSw).two; obtain ⟨p0, p1, _, _⟩ := (hP9.e.below hSw).two; clear hSw; go_simp; (try with_reducible rfl))
      (try simp only [Act.put, List.setIfInBounds_toArray, List.set_cons_zero, List.set_cons_succ])
      refine wpAnyH_ready (rs := [1, 10]) (by kernel_rfl) (by simp) ?_
      refine AllReadyH.cons (o := ⟨some 59, _, _, _, _, _⟩) rfl (fun K hK => ?_) ?_
      · go_simp
        ((with_reducible refine (Doc14_any f cs _ (h.below (bel_call hP9.bel hHeld)) (by omega)).mono ?_); rintro e w9 ⟨A9, c9, m9, rfl, hm9, hs9, hb9⟩)
        go_wp2_with fail
        refine hK.out _ _ ?_ (fun _ => ?_)
        · ((try dsimp only); (first | exact hst | exact bel_call hHeld hb9 | exact bel_call hHeld hb11 | exact bel_alloc hHeld _ | exact bel_set (bel_set hHeld (by dsimp only; omega) _) (by dsimp only; omega) _))
        clear hK K
        (try simp only [Act.put, List.setIfInBounds_toArray, List.set_cons_zero, List.set_cons_succ])
        refine gen0 (T := fun W => ((fun W => Below W9.heap.size W9 W)) W ∧ SlD W A9 c9 m9 ∧ True) ?_ (fun wq2 hT => ?_)
        · exact ⟨by (first | exact hst | exact bel_call hHeld hb9 | exact bel_call hHeld hb11 | exact bel_alloc hHeld _ | exact bel_set (bel_set hHeld (by dsimp only; omega) _) (by dsimp only; omega) _), by (first | assumption | exact hs9 | exact ho11.more hHeld.size | exact Sl.below f0 (below_new _ _) | exact World.ownsRow.alloc f0 _ | exact Blk.new _ _ _ | exact hHeld.size | exact f0.below hb9 | exact f0.below hb11 | exact f1.below hb11 | exact f0.setT2 f1 (by decide) _ _ | exact f1.set2 _ _), trivial⟩
        (try clear f0 f1 f2 f3 f4 f5 f6 f7 f8 f9 f10 f11)
        obtain ⟨hHeld, f0, -⟩ := hT
        refine wpAnyH_ready (rs := [6, 10]) (by kernel_rfl) (by simp) ?_
        refine AllReadyH.cons (o := ⟨some 64, _, _, _, _, _⟩) rfl (fun K hK => ?_) ?_
        · go_simp
          (obtain rfl := hm9.out; refine (HRS.out A9 c9 _ f0).mono ?_; rintro e w11 ⟨A11, c11, m11, rfl, hm11, ho11, hb11⟩)
          go_wp2_with fail
          refine hK.out _ _ ?_ (fun _ => ?_)
          · ((try dsimp only); (first | exact hst | exact bel_call hHeld hb9 | exact bel_call hHeld hb11 | exact bel_alloc hHeld _ | exact bel_set (bel_set hHeld (by dsimp only; omega) _) (by dsimp only; omega) _))
          clear hK K
          (try simp only [Act.put, List.setIfInBounds_toArray, List.set_cons_zero, List.set_cons_succ])
          refine gen0 (T := fun W => ((fun W => Below W9.heap.size W9 W)) W ∧ Own W W9.heap.size 46 2 A11 m11.length c11 (m11.flatMap df) ∧ True) ?_ (fun wq3 hT => ?_)
          · exact ⟨by (first | exact hst | exact bel_call hHeld hb9 | exact bel_call hHeld hb11 | exact bel_alloc hHeld _ | exact bel_set (bel_set hHeld (by dsimp only; omega) _) (by dsimp only; omega) _), by (first | assumption | exact hs9 | exact ho11.more hHeld.size | exact Sl.below f0 (below_new _ _) | exact World.ownsRow.alloc f0 _ | exact Blk.new _ _ _ | exact hHeld.size | exact f0.below hb9 | exact f0.below hb11 | exact f1.below hb11 | exact f0.setT2 f1 (by decide) _ _ | exact f1.set2 _ _), trivial⟩
          (try clear f0 f1 f2 f3 f4 f5 f6 f7 f8 f9 f10 f11)
          obtain ⟨hHeld, f0, -⟩ := hT
          refine wpAnyH_take (i := 7) (oi := ⟨some 57, _, _, _, _, _⟩) (v := ?_) rfl (by kernel_rfl) (by kernel_rfl) (by kernel_rfl) (fun _ _ _ h => h) (Or.inl ⟨by kernel_rfl, ?_⟩) (by assumption) ?_
          rotate_left
          · (intro wS hSw; (try dsimp only at hSw); obtain ⟨q0, q1, _, _⟩ := (hP9.a.below hSw).two; obtain ⟨p0, p1, _, _⟩ := (hP9.e.below hSw).two; clear hSw; go_simp; (try with_reducible rfl))
          (try simp only [Act.put, List.setIfInBounds_toArray, List.set_cons_zero, List.set_cons_succ])
          refine wpAnyH_take (i := 8) (oi := ⟨some 65, _, _, _, _, _⟩) (v := ?_) rfl (by kernel_rfl) (by kernel_rfl) (by kernel_rfl) (fun _ _ _ h => h) (Or.inl ⟨by kernel_rfl, ?_⟩) (by assumption) ?_
          rotate_left
          · (intro wS hSw; (try dsimp only at hSw); obtain ⟨q0, q1, _, _⟩ := (hP9.a.below hSw).two; obtain ⟨p0, p1, _, _⟩ := (hP9.e.below hSw).two; clear hSw; go_simp; (try with_reducible rfl))
          (try simp only [Act.put, List.setIfInBounds_toArray, List.set_cons_zero, List.set_cons_succ])
          refine wpAnyH_take (i := 9) (oi := ⟨some 66, _, _, _, _, _⟩) (v := ?_) rfl (by kernel_rfl) (by kernel_rfl) (by kernel_rfl) (fun _ _ _ h => h) (Or.inl ⟨by kernel_rfl, ?_⟩) (by assumption) ?_
          rotate_left
          · (intro wS hSw; (try dsimp only at hSw); obtain ⟨q0, q1, _, _⟩ := (hP9.a.below hSw).two; obtain ⟨p0, p1, _, _⟩ := (hP9.e.below hSw).two; clear hSw; go_simp; (try with_reducible rfl))
          (try simp only [Act.put, List.setIfInBounds_toArray, List.set_cons_zero, List.set_cons_succ])
          refine wpAnyH_ready (rs := [10]) (by kernel_rfl) (by simp) ?_
          refine AllReadyH.cons (o := ⟨some 12, _, _, _, _, _⟩) rfl (fun K hK => ?_) AllReadyH.nil
          go_simp
          refine hK.out _ _ ?_ (fun _ => ?_)
          · ((try dsimp only); (first | exact hst | exact bel_call hHeld hb9 | exact bel_call hHeld hb11 | exact bel_alloc hHeld _ | exact bel_set (bel_set hHeld (by dsimp only; omega) _) (by dsimp only; omega) _))
          clear hK K
          (try simp only [Act.put, List.setIfInBounds_toArray, List.set_cons_zero, List.set_cons_succ])
          refine gen0 (T := fun W => ((fun W => Below W9.heap.size W9 W)) W ∧ Own W W9.heap.size 46 2 A11 m11.length c11 (m11.flatMap df) ∧ Blk W wq3.heap.size 91 #[.int .i64 0, .slice none 0 0] ∧ W9.heap.size ≤ wq3.heap.size ∧ True) ?_ (fun wq4 hT => ?_)
          · exact ⟨by (first | exact hst | exact bel_call hHeld hb9 | exact bel_call hHeld hb11 | exact bel_alloc hHeld _ | exact bel_set (bel_set hHeld (by dsimp only; omega) _) (by dsimp only; omega) _), by (first | assumption | exact hs9 | exact ho11.more hHeld.size | exact Sl.below f0 (below_new _ _) | exact World.ownsRow.alloc f0 _ | exact Blk.new _ _ _ | exact hHeld.size | exact f0.below hb9 | exact f0.below hb11 | exact f1.below hb11 | exact f0.setT2 f1 (by decide) _ _ | exact f1.set2 _ _), by (first | assumption | exact hs9 | exact ho11.more hHeld.size | exact Sl.below f0 (below_new _ _) | exact World.ownsRow.alloc f0 _ | exact Blk.new _ _ _ | exact hHeld.size | exact f0.below hb9 | exact f0.below hb11 | exact f1.below hb11 | exact f0.setT2 f1 (by decide) _ _ | exact f1.set2 _ _), by (first | assumption | exact hs9 | exact ho11.more hHeld.size | exact Sl.below f0 (below_new _ _) | exact World.ownsRow.alloc f0 _ | exact Blk.new _ _ _ | exact hHeld.size | exact f0.below hb9 | exact f0.below hb11 | exact f1.below hb11 | exact f0.setT2 f1 (by decide) _ _ | exact f1.set2 _ _), trivial⟩
          (try clear f0 f1 f2 f3 f4 f5 f6 f7 f8 f9 f10 f11)
          obtain ⟨hHeld, f0, f1, f2, -⟩ := hT
          refine wpAnyH_ready (rs := [11]) (by kernel_rfl) (by simp) ?_
          refine AllReadyH.cons (o := ⟨none, _, _, _, _, _⟩) rfl (fun K hK => ?_) AllReadyH.nil
          obtain ⟨s0, s1, sf0, sf1⟩ := f1.two
          go_simp
          refine hK.out _ _ ?_ (fun _ => ?_)
          · ((try dsimp only); (first | exact hst | exact bel_call hHeld hb9 | exact bel_call hHeld hb11 | exact bel_alloc hHeld _ | exact bel_set (bel_set hHeld (by dsimp only; omega) _) (by dsimp only; omega) _))
          clear hK K
          (try simp only [Act.put, List.setIfInBounds_toArray, List.set_cons_zero, List.set_cons_succ])
          refine gen0 (T := fun W => ((fun W => Below W9.heap.size W9 W)) W ∧ Own W W9.heap.size 46 2 A11 m11.length c11 (m11.flatMap df) ∧ W9.heap.size ≤ wq3.heap.size ∧ Blk W wq3.heap.size 91 #[.int .i64 pf, .slice A11 m11.length c11] ∧ True) ?_ (fun wq5 hT => ?_)
          · exact ⟨by (first | exact hst | exact bel_call hHeld hb9 | exact bel_call hHeld hb11 | exact bel_alloc hHeld _ | exact bel_set (bel_set hHeld (by dsimp only; omega) _) (by dsimp only; omega) _), by (first | assumption | exact hs9 | exact ho11.more hHeld.size | exact Sl.below f0 (below_new _ _) | exact World.ownsRow.alloc f0 _ | exact Blk.new _ _ _ | exact hHeld.size | exact f0.below hb9 | exact f0.below hb11 | exact f1.below hb11 | exact f0.setT2 f1 (by decide) _ _ | exact f1.set2 _ _), by (first | assumption | exact hs9 | exact ho11.more hHeld.size | exact Sl.below f0 (below_new _ _) | exact World.ownsRow.alloc f0 _ | exact Blk.new _ _ _ | exact hHeld.size | exact f0.below hb9 | exact f0.below hb11 | exact f1.below hb11 | exact f0.setT2 f1 (by decide) _ _ | exact f1.set2 _ _), by (first | assumption | exact hs9 | exact ho11.more hHeld.size | exact Sl.below f0 (below_new _ _) | exact World.ownsRow.alloc f0 _ | exact Blk.new _ _ _ | exact hHeld.size | exact f0.below hb9 | exact f0.below hb11 | exact f1.below hb11 | exact f0.setT2 f1 (by decide) _ _ | exact f1.set2 _ _), trivial⟩
          (try clear f0 f1 f2 f3 f4 f5 f6 f7 f8 f9 f10 f11)
          obtain ⟨hHeld, f0, f1, f2, -⟩ := hT
          refine wpAnyH_take (i := 12) (oi := ⟨some 10, _, _, _, _, _⟩) (v := ?_) rfl (by kernel_rfl) (by kernel_rfl) (by kernel_rfl) (fun _ _ _ h => h) (Or.inl ⟨by kernel_rfl, ?_⟩) (by assumption) ?_
          rotate_left
          · (intro wS hSw; (try dsimp only at hSw); obtain ⟨q0, q1, _, _⟩ := (hP9.a.below hSw).two; obtain ⟨p0, p1, _, _⟩ := (hP9.e.below hSw).two; clear hSw; go_simp; (try with_reducible rfl))
          (try simp only [Act.put, List.setIfInBounds_toArray, List.set_cons_zero, List.set_cons_succ])
          refine wpAnyH_done (by kernel_rfl) ?_ _
          (go_wp2_with fail; go_meet; exact ⟨_, A11, c11, m11, rfl, rfl, hm11, hHeld, f2, f0.sl⟩)
        refine AllReadyH.cons (o := ⟨some 12, _, _, _, _, _⟩) rfl (fun K hK => ?_) ?_
        · go_simp
          refine hK.out _ _ ?_ (fun _ => ?_)
          · ((try dsimp only); (first | exact hst | exact bel_call hHeld hb9 | exact bel_call hHeld hb11 | exact bel_alloc hHeld _ | exact bel_set (bel_set hHeld (by dsimp only; omega) _) (by dsimp only; omega) _))
          clear hK K
          (try simp only [Act.put, List.setIfInBounds_toArray, List.set_cons_zero, List.set_cons_succ])
          refine gen0 (T := fun W => ((fun W => Below W9.heap.size W9 W)) W ∧ SlD W A9 c9 m9 ∧ Blk W wq2.heap.size 91 #[.int .i64 0, .slice none 0 0] ∧ W9.heap.size ≤ wq2.heap.size ∧ True) ?_ (fun wq6 hT => ?_)
          · exact ⟨by (first | exact hst | exact bel_call hHeld hb9 | exact bel_call hHeld hb11 | exact bel_alloc hHeld _ | exact bel_set (bel_set hHeld (by dsimp only; omega) _) (by dsimp only; omega) _), by (first | assumption | exact hs9 | exact ho11.more hHeld.size | exact Sl.below f0 (below_new _ _) | exact World.ownsRow.alloc f0 _ | exact Blk.new _ _ _ | exact hHeld.size | exact f0.below hb9 | exact f0.below hb11 | exact f1.below hb11 | exact f0.setT2 f1 (by decide) _ _ | exact f1.set2 _ _), by (first | assumption | exact hs9 | exact ho11.more hHeld.size | exact Sl.below f0 (below_new _ _) | exact World.ownsRow.alloc f0 _ | exact Blk.new _ _ _ | exact hHeld.size | exact f0.below hb9 | exact f0.below hb11 | exact f1.below hb11 | exact f0.setT2 f1 (by decide) _ _ | exact f1.set2 _ _), by (first | assumption | exact hs9 | exact ho11.more hHeld.size | exact Sl.below f0 (below_new _ _) | exact World.ownsRow.alloc f0 _ | exact Blk.new _ _ _ | exact hHeld.size | exact f0.below hb9 | exact f0.below hb11 | exact f1.below hb11 | exact f0.setT2 f1 (by decide) _ _ | exact f1.set2 _ _), trivial⟩
          (try clear f0 f1 f2 f3 f4 f5 f6 f7 f8 f9 f10 f11)
          obtain ⟨hHeld, f0, f1, f2, -⟩ := hT
          refine wpAnyH_ready (rs := [6]) (by kernel_rfl) (by simp) ?_
          refine AllReadyH.cons (o := ⟨some 64, _, _, _, _, _⟩) rfl (fun K hK => ?_) AllReadyH.nil
          go_simp
          (obtain rfl := hm9.out; refine (HRS.out A9 c9 _ f0).mono ?_; rintro e w11 ⟨A11, c11, m11, rfl, hm11, ho11, hb11⟩)
          go_wp2_with fail
          refine hK.out _ _ ?_ (fun _ => ?_)
          · ((try dsimp only); (first | exact hst | exact bel_call hHeld hb9 | exact bel_call hHeld hb11 | exact bel_alloc hHeld _ | exact bel_set (bel_set hHeld (by dsimp only; omega) _) (by dsimp only; omega) _))
          clear hK K
          (try simp only [Act.put, List.setIfInBounds_toArray, List.set_cons_zero, List.set_cons_succ])
          refine gen0 (T := fun W => ((fun W => Below W9.heap.size W9 W)) W ∧ Own W W9.heap.size 46 2 A11 m11.length c11 (m11.flatMap df) ∧ Blk W wq2.heap.size 91 #[.int .i64 0, .slice none 0 0] ∧ W9.heap.size ≤ wq2.heap.size ∧ True) ?_ (fun wq7 hT => ?_)
          · exact ⟨by (first | exact hst | exact bel_call hHeld hb9 | exact bel_call hHeld hb11 | exact bel_alloc hHeld _ | exact bel_set (bel_set hHeld (by dsimp only; omega) _) (by dsimp only; omega) _), by (first | assumption | exact hs9 | exact ho11.more hHeld.size | exact Sl.below f0 (below_new _ _) | exact World.ownsRow.alloc f0 _ | exact Blk.new _ _ _ | exact hHeld.size | exact f0.below hb9 | exact f0.below hb11 | exact f1.below hb11 | exact f0.setT2 f1 (by decide) _ _ | exact f1.set2 _ _), by (first | assumption | exact hs9 | exact ho11.more hHeld.size | exact Sl.below f0 (below_new _ _) | exact World.ownsRow.alloc f0 _ | exact Blk.new _ _ _ | exact hHeld.size | exact f0.below hb9 | exact f0.below hb11 | exact f1.below hb11 | exact f0.setT2 f1 (by decide) _ _ | exact f1.set2 _ _), by (first | assumption | exact hs9 | exact ho11.more hHeld.size | exact Sl.below f0 (below_new _ _) | exact World.ownsRow.alloc f0 _ | exact Blk.new _ _ _ | exact hHeld.size | exact f0.below hb9 | exact f0.below hb11 | exact f1.below hb11 | exact f0.setT2 f1 (by decide) _ _ | exact f1.set2 _ _), trivial⟩
          (try clear f0 f1 f2 f3 f4 f5 f6 f7 f8 f9 f10 f11)
          obtain ⟨hHeld, f0, f1, f2, -⟩ := hT
          refine wpAnyH_take (i := 7) (oi := ⟨some 57, _, _, _, _, _⟩) (v := ?_) rfl (by kernel_rfl) (by kernel_rfl) (by kernel_rfl) (fun _ _ _ h => h) (Or.inl ⟨by kernel_rfl, ?_⟩) (by assumption) ?_
          rotate_left
          · (intro wS hSw; (try dsimp only at hSw); obtain ⟨q0, q1, _, _⟩ := (hP9.a.below hSw).two; obtain ⟨p0, p1, _, _⟩ := (hP9.e.below hSw).two; clear hSw; go_simp; (try with_reducible rfl))
          (try simp only [Act.put, List.setIfInBounds_toArray, List.set_cons_zero, List.set_cons_succ])
          refine wpAnyH_take (i := 8) (oi := ⟨some 65, _, _, _, _, _⟩) (v := ?_) rfl (by kernel_rfl) (by kernel_rfl) (by kernel_rfl) (fun _ _ _ h => h) (Or.inl ⟨by kernel_rfl, ?_⟩) (by assumption) ?_
          rotate_left
          · (intro wS hSw; (try dsimp only at hSw); obtain ⟨q0, q1, _, _⟩ := (hP9.a.below hSw).two; obtain ⟨p0, p1, _, _⟩ := (hP9.e.below hSw).two; clear hSw; go_simp; (try with_reducible rfl))
          (try simp only [Act.put, List.setIfInBounds_toArray, List.set_cons_zero, List.set_cons_succ])
          refine wpAnyH_take (i := 9) (oi := ⟨some 66, _, _, _, _, _⟩) (v := ?_) rfl (by kernel_rfl) (by kernel_rfl) (by kernel_rfl) (fun _ _ _ h => h) (Or.inl ⟨by kernel_rfl, ?_⟩) (by assumption) ?_
          rotate_left
          · (intro wS hSw; (try dsimp only at hSw); obtain ⟨q0, q1, _, _⟩ := (hP9.a.below hSw).two; obtain ⟨p0, p1, _, _⟩ := (hP9.e.below hSw).two; clear hSw; go_simp; (try with_reducible rfl))
          (try simp only [Act.put, List.setIfInBounds_toArray, List.set_cons_zero, List.set_cons_succ])
          refine wpAnyH_ready (rs := [11]) (by kernel_rfl) (by simp) ?_
          refine AllReadyH.cons (o := ⟨none, _, _, _, _, _⟩) rfl (fun K hK => ?_) AllReadyH.nil
          obtain ⟨s0, s1, sf0, sf1⟩ := f1.two
          go_simp
          refine hK.out _ _ ?_ (fun _ => ?_)
          · ((try dsimp only); (first | exact hst | exact bel_call hHeld hb9 | exact bel_call hHeld hb11 | exact bel_alloc hHeld _ | exact bel_set (bel_set hHeld (by dsimp only; omega) _) (by dsimp only; omega) _))
          clear hK K
          (try simp only [Act.put, List.setIfInBounds_toArray, List.set_cons_zero, List.set_cons_succ])
          refine gen0 (T := fun W => ((fun W => Below W9.heap.size W9 W)) W ∧ Own W W9.heap.size 46 2 A11 m11.length c11 (m11.flatMap df) ∧ W9.heap.size ≤ wq2.heap.size ∧ Blk W wq2.heap.size 91 #[.int .i64 pf, .slice A11 m11.length c11] ∧ True) ?_ (fun wq8 hT => ?_)
          · exact ⟨by (first | exact hst | exact bel_call hHeld hb9 | exact bel_call hHeld hb11 | exact bel_alloc hHeld _ | exact bel_set (bel_set hHeld (by dsimp only; omega) _) (by dsimp only; omega) _), by (first | assumption | exact hs9 | exact ho11.more hHeld.size | exact Sl.below f0 (below_new _ _) | exact World.ownsRow.alloc f0 _ | exact Blk.new _ _ _ | exact hHeld.size | exact f0.below hb9 | exact f0.below hb11 | exact f1.below hb11 | exact f0.setT2 f1 (by decide) _ _ | exact f1.set2 _ _), by (first | assumption | exact hs9 | exact ho11.more hHeld.size | exact Sl.below f0 (below_new _ _) | exact World.ownsRow.alloc f0 _ | exact Blk.new _ _ _ | exact hHeld.size | exact f0.below hb9 | exact f0.below hb11 | exact f1.below hb11 | exact f0.setT2 f1 (by decide) _ _ | exact f1.set2 _ _), by (first | assumption | exact hs9 | exact ho11.more hHeld.size | exact Sl.below f0 (below_new _ _) | exact World.ownsRow.alloc f0 _ | exact Blk.new _ _ _ | exact hHeld.size | exact f0.below hb9 | exact f0.below hb11 | exact f1.below hb11 | exact f0.setT2 f1 (by decide) _ _ | exact f1.set2 _ _), trivial⟩
          (try clear f0 f1 f2 f3 f4 f5 f6 f7 f8 f9 f10 f11)
          obtain ⟨hHeld, f0, f1, f2, -⟩ := hT
          refine wpAnyH_take (i := 12) (oi := ⟨some 10, _, _, _, _, _⟩) (v := ?_) rfl (by kernel_rfl) (by kernel_rfl) (by kernel_rfl) (fun _ _ _ h => h) (Or.inl ⟨by kernel_rfl, ?_⟩) (by assumption) ?_
          rotate_left
          · (intro wS hSw; (try dsimp only at hSw); obtain ⟨q0, q1, _, _⟩ := (hP9.a.below hSw).two; obtain ⟨p0, p1, _, _⟩ := (hP9.e.below hSw).two; clear hSw; go_simp; (try with_reducible rfl))
          (try simp only [Act.put, List.setIfInBounds_toArray, List.set_cons_zero, List.set_cons_succ])
          refine wpAnyH_done (by kernel_rfl) ?_ _
          (go_wp2_with fail; go_meet; exact ⟨_, A11, c11, m11, rfl, rfl, hm11, hHeld, f2, f0.sl⟩)
        exact AllReadyH.nil
      refine AllReadyH.cons (o := ⟨some 12, _, _, _, _, _⟩) rfl (fun K hK => ?_) ?_
      · go_simp
        refine hK.out _ _ ?_ (fun _ => ?_)
        · ((try dsimp only); (first | exact hst | exact bel_call hHeld hb9 | exact bel_call hHeld hb11 | exact bel_alloc hHeld _ | exact bel_set (bel_set hHeld (by dsimp only; omega) _) (by dsimp only; omega) _))
        clear hK K
        (try simp only [Act.put, List.setIfInBounds_toArray, List.set_cons_zero, List.set_cons_succ])
        refine gen0 (T := fun W => ((fun W => Below W9.heap.size W9 W)) W ∧ Blk W wq1.heap.size 91 #[.int .i64 0, .slice none 0 0] ∧ W9.heap.size ≤ wq1.heap.size ∧ True) ?_ (fun wq9 hT => ?_)
        · exact ⟨by (first | exact hst | exact bel_call hHeld hb9 | exact bel_call hHeld hb11 | exact bel_alloc hHeld _ | exact bel_set (bel_set hHeld (by dsimp only; omega) _) (by dsimp only; omega) _), by (first | assumption | exact hs9 | exact ho11.more hHeld.size | exact Sl.below f0 (below_new _ _) | exact World.ownsRow.alloc f0 _ | exact Blk.new _ _ _ | exact hHeld.size | exact f0.below hb9 | exact f0.below hb11 | exact f1.below hb11 | exact f0.setT2 f1 (by decide) _ _ | exact f1.set2 _ _), by (first | assumption | exact hs9 | exact ho11.more hHeld.size | exact Sl.below f0 (below_new _ _) | exact World.ownsRow.alloc f0 _ | exact Blk.new _ _ _ | exact hHeld.size | exact f0.below hb9 | exact f0.below hb11 | exact f1.below hb11 | exact f0.setT2 f1 (by decide) _ _ | exact f1.set2 _ _), trivial⟩
        (try clear f0 f1 f2 f3 f4 f5 f6 f7 f8 f9 f10 f11)
        obtain ⟨hHeld, f0, f1, -⟩ := hT
        refine wpAnyH_ready (rs := [1]) (by kernel_rfl) (by simp) ?_
        refine AllReadyH.cons (o := ⟨some 59, _, _, _, _, _⟩) rfl (fun K hK => ?_) AllReadyH.nil
        go_simp
        ((with_reducible refine (Doc14_any f cs _ (h.below (bel_call hP9.bel hHeld)) (by omega)).mono ?_); rintro e w9 ⟨A9, c9, m9, rfl, hm9, hs9, hb9⟩)
        go_wp2_with fail
        refine hK.out _ _ ?_ (fun _ => ?_)
        · ((try dsimp only); (first | exact hst | exact bel_call hHeld hb9 | exact bel_call hHeld hb11 | exact bel_alloc hHeld _ | exact bel_set (bel_set hHeld (by dsimp only; omega) _) (by dsimp only; omega) _))
        clear hK K
        (try simp only [Act.put, List.setIfInBounds_toArray, List.set_cons_zero, List.set_cons_succ])
        refine gen0 (T := fun W => ((fun W => Below W9.heap.size W9 W)) W ∧ SlD W A9 c9 m9 ∧ Blk W wq1.heap.size 91 #[.int .i64 0, .slice none 0 0] ∧ W9.heap.size ≤ wq1.heap.size ∧ True) ?_ (fun wq10 hT => ?_)
        · exact ⟨by (first | exact hst | exact bel_call hHeld hb9 | exact bel_call hHeld hb11 | exact bel_alloc hHeld _ | exact bel_set (bel_set hHeld (by dsimp only; omega) _) (by dsimp only; omega) _), by (first | assumption | exact hs9 | exact ho11.more hHeld.size | exact Sl.below f0 (below_new _ _) | exact World.ownsRow.alloc f0 _ | exact Blk.new _ _ _ | exact hHeld.size | exact f0.below hb9 | exact f0.below hb11 | exact f1.below hb11 | exact f0.setT2 f1 (by decide) _ _ | exact f1.set2 _ _), by (first | assumption | exact hs9 | exact ho11.more hHeld.size | exact Sl.below f0 (below_new _ _) | exact World.ownsRow.alloc f0 _ | exact Blk.new _ _ _ | exact hHeld.size | exact f0.below hb9 | exact f0.below hb11 | exact f1.below hb11 | exact f0.setT2 f1 (by decide) _ _ | exact f1.set2 _ _), by (first | assumption | exact hs9 | exact ho11.more hHeld.size | exact Sl.below f0 (below_new _ _) | exact World.ownsRow.alloc f0 _ | exact Blk.new _ _ _ | exact hHeld.size | exact f0.below hb9 | exact f0.below hb11 | exact f1.below hb11 | exact f0.setT2 f1 (by decide) _ _ | exact f1.set2 _ _), trivial⟩
        (try clear f0 f1 f2 f3 f4 f5 f6 f7 f8 f9 f10 f11)
        obtain ⟨hHeld, f0, f1, f2, -⟩ := hT
        refine wpAnyH_ready (rs := [6]) (by kernel_rfl) (by simp) ?_
        refine AllReadyH.cons (o := ⟨some 64, _, _, _, _, _⟩) rfl (fun K hK => ?_) AllReadyH.nil
        go_simp
        (obtain rfl := hm9.out; refine (HRS.out A9 c9 _ f0).mono ?_; rintro e w11 ⟨A11, c11, m11, rfl, hm11, ho11, hb11⟩)
        go_wp2_with fail
        refine hK.out _ _ ?_ (fun _ => ?_)
        · ((try dsimp only); (first | exact hst | exact bel_call hHeld hb9 | exact bel_call hHeld hb11 | exact bel_alloc hHeld _ | exact bel_set (bel_set hHeld (by dsimp only; omega) _) (by dsimp only; omega) _))
        clear hK K
        (try simp only [Act.put, List.setIfInBounds_toArray, List.set_cons_zero, List.set_cons_succ])
        refine gen0 (T := fun W => ((fun W => Below W9.heap.size W9 W)) W ∧ Own W W9.heap.size 46 2 A11 m11.length c11 (m11.flatMap df) ∧ Blk W wq1.heap.size 91 #[.int .i64 0, .slice none 0 0] ∧ W9.heap.size ≤ wq1.heap.size ∧ True) ?_ (fun wq11 hT => ?_)
        · exact ⟨by (first | exact hst | exact bel_call hHeld hb9 | exact bel_call hHeld hb11 | exact bel_alloc hHeld _ | exact bel_set (bel_set hHeld (by dsimp only; omega) _) (by dsimp only; omega) _), by (first | assumption | exact hs9 | exact ho11.more hHeld.size | exact Sl.below f0 (below_new _ _) | exact World.ownsRow.alloc f0 _ | exact Blk.new _ _ _ | exact hHeld.size | exact f0.below hb9 | exact f0.below hb11 | exact f1.below hb11 | exact f0.setT2 f1 (by decide) _ _ | exact f1.set2 _ _), by (first | assumption | exact hs9 | exact ho11.more hHeld.size | exact Sl.below f0 (below_new _ _) | exact World.ownsRow.alloc f0 _ | exact Blk.new _ _ _ | exact hHeld.size | exact f0.below hb9 | exact f0.below hb11 | exact f1.below hb11 | exact f0.setT2 f1 (by decide) _ _ | exact f1.set2 _ _), by (first | assumption | exact hs9 | exact ho11.more hHeld.size | exact Sl.below f0 (below_new _ _) | exact World.ownsRow.alloc f0 _ | exact Blk.new _ _ _ | exact hHeld.size | exact f0.below hb9 | exact f0.below hb11 | exact f1.below hb11 | exact f0.setT2 f1 (by decide) _ _ | exact f1.set2 _ _), trivial⟩
        (try clear f0 f1 f2 f3 f4 f5 f6 f7 f8 f9 f10 f11)
        obtain ⟨hHeld, f0, f1, f2, -⟩ := hT
        refine wpAnyH_take (i := 7) (oi := ⟨some 57, _, _, _, _, _⟩) (v := ?_) rfl (by kernel_rfl) (by kernel_rfl) (by kernel_rfl) (fun _ _ _ h => h) (Or.inl ⟨by kernel_rfl, ?_⟩) (by assumption) ?_
        rotate_left
        · (intro wS hSw; (try dsimp only at hSw); obtain ⟨q0, q1, _, _⟩ := (hP9.a.below hSw).two; obtain ⟨p0, p1, _, _⟩ := (hP9.e.below hSw).two; clear hSw; go_simp; (try with_reducible rfl))
        (try simp only [Act.put, List.setIfInBounds_toArray, List.set_cons_zero, List.set_cons_succ])
        refine wpAnyH_take (i := 8) (oi := ⟨some 65, _, _, _, _, _⟩) (v := ?_) rfl (by kernel_rfl) (by kernel_rfl) (by kernel_rfl) (fun _ _ _ h => h) (Or.inl ⟨by kernel_rfl, ?_⟩) (by assumption) ?_
        rotate_left
        · (intro wS hSw; (try dsimp only at hSw); obtain ⟨q0, q1, _, _⟩ := (hP9.a.below hSw).two; obtain ⟨p0, p1, _, _⟩ := (hP9.e.below hSw).two; clear hSw; go_simp; (try with_reducible rfl))
        (try simp only [Act.put, List.setIfInBounds_toArray, List.set_cons_zero, List.set_cons_succ])
        refine wpAnyH_take (i := 9) (oi := ⟨some 66, _, _, _, _, _⟩) (v := ?_) rfl (by kernel_rfl) (by kernel_rfl) (by kernel_rfl) (fun _ _ _ h => h) (Or.inl ⟨by kernel_rfl, ?_⟩) (by assumption) ?_
        rotate_left
        · (intro wS hSw; (try dsimp only at hSw); obtain ⟨q0, q1, _, _⟩ := (hP9.a.below hSw).two; obtain ⟨p0, p1, _, _⟩ := (hP9.e.below hSw).two; clear hSw; go_simp; (try with_reducible rfl))
        (try simp only [Act.put, List.setIfInBounds_toArray, List.set_cons_zero, List.set_cons_succ])
        refine wpAnyH_ready (rs := [11]) (by kernel_rfl) (by simp) ?_
        refine AllReadyH.cons (o := ⟨none, _, _, _, _, _⟩) rfl (fun K hK => ?_) AllReadyH.nil
        obtain ⟨s0, s1, sf0, sf1⟩ := f1.two
        go_simp
        refine hK.out _ _ ?_ (fun _ => ?_)
        · ((try dsimp only); (first | exact hst | exact bel_call hHeld hb9 | exact bel_call hHeld hb11 | exact bel_alloc hHeld _ | exact bel_set (bel_set hHeld (by dsimp only; omega) _) (by dsimp only; omega) _))
        clear hK K
        (try simp only [Act.put, List.setIfInBounds_toArray, List.set_cons_zero, List.set_cons_succ])
        refine gen0 (T := fun W => ((fun W => Below W9.heap.size W9 W)) W ∧ Own W W9.heap.size 46 2 A11 m11.length c11 (m11.flatMap df) ∧ W9.heap.size ≤ wq1.heap.size ∧ Blk W wq1.heap.size 91 #[.int .i64 pf, .slice A11 m11.length c11] ∧ True) ?_ (fun wq12 hT => ?_)
        · exact ⟨by (first | exact hst | exact bel_call hHeld hb9 | exact bel_call hHeld hb11 | exact bel_alloc hHeld _ | exact bel_set (bel_set hHeld (by dsimp only; omega) _) (by dsimp only; omega) _), by (first | assumption | exact hs9 | exact ho11.more hHeld.size | exact Sl.below f0 (below_new _ _) | exact World.ownsRow.alloc f0 _ | exact Blk.new _ _ _ | exact hHeld.size | exact f0.below hb9 | exact f0.below hb11 | exact f1.below hb11 | exact f0.setT2 f1 (by decide) _ _ | exact f1.set2 _ _), by (first | assumption | exact hs9 | exact ho11.more hHeld.size | exact Sl.below f0 (below_new _ _) | exact World.ownsRow.alloc f0 _ | exact Blk.new _ _ _ | exact hHeld.size | exact f0.below hb9 | exact f0.below hb11 | exact f1.below hb11 | exact f0.setT2 f1 (by decide) _ _ | exact f1.set2 _ _), by (first | assumption | exact hs9 | exact ho11.more hHeld.size | exact Sl.below f0 (below_new _ _) | exact World.ownsRow.alloc f0 _ | exact Blk.new _ _ _ | exact hHeld.size | exact f0.below hb9 | exact f0.below hb11 | exact f1.below hb11 | exact f0.setT2 f1 (by decide) _ _ | exact f1.set2 _ _), trivial⟩
        (try clear f0 f1 f2 f3 f4 f5 f6 f7 f8 f9 f10 f11)
        obtain ⟨hHeld, f0, f1, f2, -⟩ := hT
        refine wpAnyH_take (i := 12) (oi := ⟨some 10, _, _, _, _, _⟩) (v := ?_) rfl (by kernel_rfl) (by kernel_rfl) (by kernel_rfl) (fun _ _ _ h => h) (Or.inl ⟨by kernel_rfl, ?_⟩) (by assumption) ?_
        rotate_left
        · (intro wS hSw; (try dsimp only at hSw); obtain ⟨q0, q1, _, _⟩ := (hP9.a.below hSw).two; obtain ⟨p0, p1, _, _⟩ := (hP9.e.below hSw).two; clear hSw; go_simp; (try with_reducible rfl))
        (try simp only [Act.put, List.setIfInBounds_toArray, List.set_cons_zero, List.set_cons_succ])
        refine wpAnyH_done (by kernel_rfl) ?_ _
        (go_wp2_with fail; go_meet; exact ⟨_, A11, c11, m11, rfl, rfl, hm11, hHeld, f2, f0.sl⟩)
      exact AllReadyH.nil
    case rest =>
      obtain ⟨gy, Ay, cy, my, rfl, rfl, hmy, hby, hBy, hDy⟩ := hcut
      have hP10 := hP9.below hby
      have hJ10 := hJ9.below hby
      have hC10 := hC9.below hby
      clear hP9 hJ9 hC9 hby HRS
      have hst : Below wc.heap.size wc wc.drew := (Below.refl _ _).drew
      have hss := fun W (h1 : SlC W E cap cs) (h3 : SlC W G cap2 ds) => SSame_any f fb cs ds W h1 h3
      have hrr := fun A B x y W (h1 : SlD W A x (cs.map ceOf)) (h3 : SlD W B y (ds.map ceOf)) => rSSame_any (E := A) (G := B) (cap := x) (cap2 := y) f fb (cs.map ceOf) (ds.map ceOf) W h1 h3
      generalize ssame (f, cs.map ceOf) (fb, ds.map ceOf) = sb at *
      have HSS := Lib.hid hss
      have HRR := Lib.hid hrr
      clear hss hrr
      go_upto_region 11 with (fail)
      refine wp_region_held_drew (S := (fun W => Below wc.heap.size wc W)) (by kernel_rfl) ?_ (fun hHeld => ?_)
      · exact hst
      refine gen0 (T := fun W => ((fun W => Below wc.heap.size wc W)) W ∧ True) ?_ (fun wq1 hT => ?_)
      · exact ⟨by (first | exact hst | exact hHeld | exact bel_call hHeld hb9 | exact bel_call hHeld hb10 | exact bel_call hHeld hb12 | exact bel_call hHeld hb13 | exact bel_call hHeld hb14 | exact bel_call hHeld hb15), trivial⟩
      (try clear f0 f1 f2 f3 f4 f5 f6 f7 f8 f9 f10 f11)
      obtain ⟨hHeld, -⟩ := hT
      refine wpAnyH_take (i := 0) (oi := ⟨some 67, _, _, _, _, _⟩) (v := ?_) rfl (by kernel_rfl) (by kernel_rfl) (by kernel_rfl) (fun _ _ _ h => h) (Or.inl ⟨by kernel_rfl, ?_⟩) (by assumption) ?_
      rotate_left
      · (intro wS hSw; (try dsimp only at hSw); obtain ⟨q0, q1, _, _⟩ := (hJ10.below hSw).two; obtain ⟨p0, p1, _, _⟩ := (hBy.below hSw).two; obtain ⟨a0, a1, _, _⟩ := (hP10.a.below hSw).two; obtain ⟨b0, b1, _, _⟩ := (hP10.b.below hSw).two; clear hSw; go_simp; (try with_reducible rfl))
      (try simp only [Act.put, List.setIfInBounds_toArray, List.set_cons_zero, List.set_cons_succ])
      refine wpAnyH_take (i := 2) (oi := ⟨some 69, _, _, _, _, _⟩) (v := ?_) rfl (by kernel_rfl) (by kernel_rfl) (by kernel_rfl) (fun _ _ _ h => h) (Or.inl ⟨by kernel_rfl, ?_⟩) (by assumption) ?_
      rotate_left
      · (intro wS hSw; (try dsimp only at hSw); obtain ⟨q0, q1, _, _⟩ := (hJ10.below hSw).two; obtain ⟨p0, p1, _, _⟩ := (hBy.below hSw).two; obtain ⟨a0, a1, _, _⟩ := (hP10.a.below hSw).two; obtain ⟨b0, b1, _, _⟩ := (hP10.b.below hSw).two; clear hSw; go_simp; (try with_reducible rfl))
      (try simp only [Act.put, List.setIfInBounds_toArray, List.set_cons_zero, List.set_cons_succ])
      refine wpAnyH_ready (rs := [1]) (by kernel_rfl) (by simp) ?_
      refine AllReadyH.cons (o := ⟨some 68, _, _, _, _, _⟩) rfl (fun K hK => ?_) AllReadyH.nil
      go_simp
      (first | ((with_reducible refine (Doc14_any pf ms _ (hC10.below hHeld) (by omega)).mono ?_); rintro e w9 ⟨A9, c9, m9, rfl, hm9, hs9, hb9⟩) | ((with_reducible refine (Doc14_any f cs _ (h.below (bel_call hP10.bel hHeld)) (by omega)).mono ?_); rintro e w12 ⟨A12, c12, m12, rfl, hm12, hs12, hb12⟩) | ((with_reducible refine (Doc14_any fb ds _ (h2.below (bel_call hP10.bel hHeld)) (by omega)).mono ?_); rintro e w13 ⟨A13, c13, m13, rfl, hm13, hs13, hb13⟩))
      go_wp2_with fail
      refine hK.out _ _ ?_ (fun _ => ?_)
      · ((try dsimp only); (first | exact hst | exact hHeld | exact bel_call hHeld hb9 | exact bel_call hHeld hb10 | exact bel_call hHeld hb12 | exact bel_call hHeld hb13 | exact bel_call hHeld hb14 | exact bel_call hHeld hb15))
      clear hK K
      (try simp only [Act.put, List.setIfInBounds_toArray, List.set_cons_zero, List.set_cons_succ])
      refine gen0 (T := fun W => ((fun W => Below wc.heap.size wc W)) W ∧ SlD W A9 c9 m9 ∧ True) ?_ (fun wq2 hT => ?_)
      · exact ⟨by (first | exact hst | exact hHeld | exact bel_call hHeld hb9 | exact bel_call hHeld hb10 | exact bel_call hHeld hb12 | exact bel_call hHeld hb13 | exact bel_call hHeld hb14 | exact bel_call hHeld hb15), by (first | assumption | exact hs9 | exact hs12 | exact hs13 | exact Sl.below f0 hb10 | exact Sl.below f0 hb12 | exact Sl.below f0 hb13 | exact Sl.below f0 hb14), trivial⟩
      (try clear f0 f1 f2 f3 f4 f5 f6 f7 f8 f9 f10 f11)
      obtain ⟨hHeld, f0, -⟩ := hT
      refine wpAnyH_ready (rs := [3]) (by kernel_rfl) (by simp) ?_
      refine AllReadyH.cons (o := ⟨some 70, _, _, _, _, _⟩) rfl (fun K hK => ?_) AllReadyH.nil
      go_simp
      (first | ((with_reducible refine (rSSame_any pf pf m9 my _ f0 (Sl.below hDy hHeld)).mono ?_); rintro e w10 ⟨rfl, hb10⟩; rw [show ssame (pf, m9) (pf, my) = true from by rw [ssame_eq, hm9.out, hms.out, hmy.out]; simp]) | (obtain rfl := hm12.out; obtain rfl := hm13.out; refine (HRR.out A12 A13 c12 c13 _ f0 f1).mono ?_; rintro e w14 ⟨rfl, hb14⟩))
      go_wp2_with fail
      refine hK.out _ _ ?_ (fun _ => ?_)
      · ((try dsimp only); (first | exact hst | exact hHeld | exact bel_call hHeld hb9 | exact bel_call hHeld hb10 | exact bel_call hHeld hb12 | exact bel_call hHeld hb13 | exact bel_call hHeld hb14 | exact bel_call hHeld hb15))
      clear hK K
      (try simp only [Act.put, List.setIfInBounds_toArray, List.set_cons_zero, List.set_cons_succ])
      refine gen0 (T := fun W => ((fun W => Below wc.heap.size wc W)) W ∧ True) ?_ (fun wq3 hT => ?_)
      · exact ⟨by (first | exact hst | exact hHeld | exact bel_call hHeld hb9 | exact bel_call hHeld hb10 | exact bel_call hHeld hb12 | exact bel_call hHeld hb13 | exact bel_call hHeld hb14 | exact bel_call hHeld hb15), trivial⟩
      (try clear f0 f1 f2 f3 f4 f5 f6 f7 f8 f9 f10 f11)
      obtain ⟨hHeld, -⟩ := hT
      refine wpAnyH_take (i := 4) (oi := ⟨some 71, _, _, _, _, _⟩) (v := ?_) rfl (by kernel_rfl) (by kernel_rfl) (by kernel_rfl) (fun _ _ _ h => h) (Or.inl ⟨by kernel_rfl, ?_⟩) (by assumption) ?_
      rotate_left
      · (intro wS hSw; (try dsimp only at hSw); obtain ⟨q0, q1, _, _⟩ := (hJ10.below hSw).two; obtain ⟨p0, p1, _, _⟩ := (hBy.below hSw).two; obtain ⟨a0, a1, _, _⟩ := (hP10.a.below hSw).two; obtain ⟨b0, b1, _, _⟩ := (hP10.b.below hSw).two; clear hSw; go_simp; (try with_reducible rfl))
      (try simp only [Act.put, List.setIfInBounds_toArray, List.set_cons_zero, List.set_cons_succ])
      refine wpAnyH_take (i := 5) (oi := ⟨some 72, _, _, _, _, _⟩) (v := ?_) rfl (by kernel_rfl) (by kernel_rfl) (by kernel_rfl) (fun _ _ _ h => h) (Or.inl ⟨by kernel_rfl, ?_⟩) (by assumption) ?_
      rotate_left
      · (intro wS hSw; (try dsimp only at hSw); obtain ⟨q0, q1, _, _⟩ := (hJ10.below hSw).two; obtain ⟨p0, p1, _, _⟩ := (hBy.below hSw).two; obtain ⟨a0, a1, _, _⟩ := (hP10.a.below hSw).two; obtain ⟨b0, b1, _, _⟩ := (hP10.b.below hSw).two; clear hSw; go_simp; (try with_reducible rfl))
      (try simp only [Act.put, List.setIfInBounds_toArray, List.set_cons_zero, List.set_cons_succ])
      refine wpAnyH_take (i := 7) (oi := ⟨some 74, _, _, _, _, _⟩) (v := ?_) rfl (by kernel_rfl) (by kernel_rfl) (by kernel_rfl) (fun _ _ _ h => h) (Or.inl ⟨by kernel_rfl, ?_⟩) (by assumption) ?_
      rotate_left
      · (intro wS hSw; (try dsimp only at hSw); obtain ⟨q0, q1, _, _⟩ := (hJ10.below hSw).two; obtain ⟨p0, p1, _, _⟩ := (hBy.below hSw).two; obtain ⟨a0, a1, _, _⟩ := (hP10.a.below hSw).two; obtain ⟨b0, b1, _, _⟩ := (hP10.b.below hSw).two; clear hSw; go_simp; (try with_reducible rfl))
      (try simp only [Act.put, List.setIfInBounds_toArray, List.set_cons_zero, List.set_cons_succ])
      refine wpAnyH_ready (rs := [6]) (by kernel_rfl) (by simp) ?_
      refine AllReadyH.cons (o := ⟨some 73, _, _, _, _, _⟩) rfl (fun K hK => ?_) AllReadyH.nil
      go_simp
      (refine (num_any pb _).mono ?_; rintro e w11 ⟨rfl, rfl⟩)
      go_wp2_with fail
      refine hK.out _ _ ?_ (fun _ => ?_)
      · ((try dsimp only); (first | exact hst | exact hHeld | exact bel_call hHeld hb9 | exact bel_call hHeld hb10 | exact bel_call hHeld hb12 | exact bel_call hHeld hb13 | exact bel_call hHeld hb14 | exact bel_call hHeld hb15))
      clear hK K
      (try simp only [Act.put, List.setIfInBounds_toArray, List.set_cons_zero, List.set_cons_succ])
      refine gen0 (T := fun W => ((fun W => Below wc.heap.size wc W)) W ∧ True) ?_ (fun wq4 hT => ?_)
      · exact ⟨by (first | exact hst | exact hHeld | exact bel_call hHeld hb9 | exact bel_call hHeld hb10 | exact bel_call hHeld hb12 | exact bel_call hHeld hb13 | exact bel_call hHeld hb14 | exact bel_call hHeld hb15), trivial⟩
      (try clear f0 f1 f2 f3 f4 f5 f6 f7 f8 f9 f10 f11)
      obtain ⟨hHeld, -⟩ := hT
      refine wpAnyH_take (i := 8) (oi := ⟨some 75, _, _, _, _, _⟩) (v := ?_) rfl (by kernel_rfl) (by kernel_rfl) (by kernel_rfl) (fun _ _ _ h => h) (Or.inl ⟨by kernel_rfl, ?_⟩) (by assumption) ?_
      rotate_left
      · (intro wS hSw; (try dsimp only at hSw); obtain ⟨q0, q1, _, _⟩ := (hJ10.below hSw).two; obtain ⟨p0, p1, _, _⟩ := (hBy.below hSw).two; obtain ⟨a0, a1, _, _⟩ := (hP10.a.below hSw).two; obtain ⟨b0, b1, _, _⟩ := (hP10.b.below hSw).two; clear hSw; go_simp; (try with_reducible rfl))
      (try simp only [Act.put, List.setIfInBounds_toArray, List.set_cons_zero, List.set_cons_succ])
      refine wpAnyH_take (i := 9) (oi := ⟨some 76, _, _, _, _, _⟩) (v := ?_) rfl (by kernel_rfl) (by kernel_rfl) (by kernel_rfl) (fun _ _ _ h => h) (Or.inl ⟨by kernel_rfl, ?_⟩) (by assumption) ?_
      rotate_left
      · (intro wS hSw; (try dsimp only at hSw); obtain ⟨q0, q1, _, _⟩ := (hJ10.below hSw).two; obtain ⟨p0, p1, _, _⟩ := (hBy.below hSw).two; obtain ⟨a0, a1, _, _⟩ := (hP10.a.below hSw).two; obtain ⟨b0, b1, _, _⟩ := (hP10.b.below hSw).two; clear hSw; go_simp; (try with_reducible rfl))
      (try simp only [Act.put, List.setIfInBounds_toArray, List.set_cons_zero, List.set_cons_succ])
      refine wpAnyH_take (i := 10) (oi := ⟨some 77, _, _, _, _, _⟩) (v := ?_) rfl (by kernel_rfl) (by kernel_rfl) (by kernel_rfl) (fun _ _ _ h => h) (Or.inl ⟨by kernel_rfl, ?_⟩) (by assumption) ?_
      rotate_left
      · (intro wS hSw; (try dsimp only at hSw); obtain ⟨q0, q1, _, _⟩ := (hJ10.below hSw).two; obtain ⟨p0, p1, _, _⟩ := (hBy.below hSw).two; obtain ⟨a0, a1, _, _⟩ := (hP10.a.below hSw).two; obtain ⟨b0, b1, _, _⟩ := (hP10.b.below hSw).two; clear hSw; go_simp; (try with_reducible rfl))
      (try simp only [Act.put, List.setIfInBounds_toArray, List.set_cons_zero, List.set_cons_succ])
      refine wpAnyH_take (i := 11) (oi := ⟨some 78, _, _, _, _, _⟩) (v := ?_) rfl (by kernel_rfl) (by kernel_rfl) (by kernel_rfl) (fun _ _ _ h => h) (Or.inl ⟨by kernel_rfl, ?_⟩) (by assumption) ?_
      rotate_left
      · (intro wS hSw; (try dsimp only at hSw); obtain ⟨q0, q1, _, _⟩ := (hJ10.below hSw).two; obtain ⟨p0, p1, _, _⟩ := (hBy.below hSw).two; obtain ⟨a0, a1, _, _⟩ := (hP10.a.below hSw).two; obtain ⟨b0, b1, _, _⟩ := (hP10.b.below hSw).two; clear hSw; go_simp; (try with_reducible rfl))
      (try simp only [Act.put, List.setIfInBounds_toArray, List.set_cons_zero, List.set_cons_succ])
      refine wpAnyH_take (i := 12) (oi := ⟨some 79, _, _, _, _, _⟩) (v := ?_) rfl (by kernel_rfl) (by kernel_rfl) (by kernel_rfl) (fun _ _ _ h => h) (Or.inl ⟨by kernel_rfl, ?_⟩) (by assumption) ?_
      rotate_left
      · (intro wS hSw; (try dsimp only at hSw); obtain ⟨q0, q1, _, _⟩ := (hJ10.below hSw).two; obtain ⟨p0, p1, _, _⟩ := (hBy.below hSw).two; obtain ⟨a0, a1, _, _⟩ := (hP10.a.below hSw).two; obtain ⟨b0, b1, _, _⟩ := (hP10.b.below hSw).two; clear hSw; go_simp; (try with_reducible rfl))
      (try simp only [Act.put, List.setIfInBounds_toArray, List.set_cons_zero, List.set_cons_succ])
      refine wpAnyH_take (i := 14) (oi := ⟨some 81, _, _, _, _, _⟩) (v := ?_) rfl (by kernel_rfl) (by kernel_rfl) (by kernel_rfl) (fun _ _ _ h => h) (Or.inl ⟨by kernel_rfl, ?_⟩) (by assumption) ?_
      rotate_left
      · (intro wS hSw; (try dsimp only at hSw); obtain ⟨q0, q1, _, _⟩ := (hJ10.below hSw).two; obtain ⟨p0, p1, _, _⟩ := (hBy.below hSw).two; obtain ⟨a0, a1, _, _⟩ := (hP10.a.below hSw).two; obtain ⟨b0, b1, _, _⟩ := (hP10.b.below hSw).two; clear hSw; go_simp; (try with_reducible rfl))
      (try simp only [Act.put, List.setIfInBounds_toArray, List.set_cons_zero, List.set_cons_succ])
      refine wpAnyH_take (i := 16) (oi := ⟨some 83, _, _, _, _, _⟩) (v := ?_) rfl (by kernel_rfl) (by kernel_rfl) (by kernel_rfl) (fun _ _ _ h => h) (Or.inl ⟨by kernel_rfl, ?_⟩) (by assumption) ?_
      rotate_left
      · (intro wS hSw; (try dsimp only at hSw); obtain ⟨q0, q1, _, _⟩ := (hJ10.below hSw).two; obtain ⟨p0, p1, _, _⟩ := (hBy.below hSw).two; obtain ⟨a0, a1, _, _⟩ := (hP10.a.below hSw).two; obtain ⟨b0, b1, _, _⟩ := (hP10.b.below hSw).two; clear hSw; go_simp; (try with_reducible rfl))
      (try simp only [Act.put, List.setIfInBounds_toArray, List.set_cons_zero, List.set_cons_succ])
      refine wpAnyH_ready (rs := [13]) (by kernel_rfl) (by simp) ?_
      refine AllReadyH.cons (o := ⟨some 80, _, _, _, _, _⟩) rfl (fun K hK => ?_) AllReadyH.nil
      go_simp
      (refine (HSS.out _ (h.below (bel_call hP10.bel hHeld)) (h2.below (bel_call hP10.bel hHeld))).mono ?_; rintro e w15 ⟨rfl, hb15⟩)
      go_wp2_with fail
      refine hK.out _ _ ?_ (fun _ => ?_)
      · ((try dsimp only); (first | exact hst | exact hHeld | exact bel_call hHeld hb9 | exact bel_call hHeld hb10 | exact bel_call hHeld hb12 | exact bel_call hHeld hb13 | exact bel_call hHeld hb14 | exact bel_call hHeld hb15))
      clear hK K
      (try simp only [Act.put, List.setIfInBounds_toArray, List.set_cons_zero, List.set_cons_succ])
      refine gen0 (T := fun W => ((fun W => Below wc.heap.size wc W)) W ∧ True) ?_ (fun wq5 hT => ?_)
      · exact ⟨by (first | exact hst | exact hHeld | exact bel_call hHeld hb9 | exact bel_call hHeld hb10 | exact bel_call hHeld hb12 | exact bel_call hHeld hb13 | exact bel_call hHeld hb14 | exact bel_call hHeld hb15), trivial⟩
      (try clear f0 f1 f2 f3 f4 f5 f6 f7 f8 f9 f10 f11)
      obtain ⟨hHeld, -⟩ := hT
      refine wpAnyH_ready (rs := [15]) (by kernel_rfl) (by simp) ?_
      refine AllReadyH.cons (o := ⟨some 82, _, _, _, _, _⟩) rfl (fun K hK => ?_) AllReadyH.nil
      go_simp
      (first | ((with_reducible refine (Doc14_any pf ms _ (hC10.below hHeld) (by omega)).mono ?_); rintro e w9 ⟨A9, c9, m9, rfl, hm9, hs9, hb9⟩) | ((with_reducible refine (Doc14_any f cs _ (h.below (bel_call hP10.bel hHeld)) (by omega)).mono ?_); rintro e w12 ⟨A12, c12, m12, rfl, hm12, hs12, hb12⟩) | ((with_reducible refine (Doc14_any fb ds _ (h2.below (bel_call hP10.bel hHeld)) (by omega)).mono ?_); rintro e w13 ⟨A13, c13, m13, rfl, hm13, hs13, hb13⟩))
      go_wp2_with fail
      refine hK.out _ _ ?_ (fun _ => ?_)
      · ((try dsimp only); (first | exact hst | exact hHeld | exact bel_call hHeld hb9 | exact bel_call hHeld hb10 | exact bel_call hHeld hb12 | exact bel_call hHeld hb13 | exact bel_call hHeld hb14 | exact bel_call hHeld hb15))
      clear hK K
      (try simp only [Act.put, List.setIfInBounds_toArray, List.set_cons_zero, List.set_cons_succ])
      refine gen0 (T := fun W => ((fun W => Below wc.heap.size wc W)) W ∧ SlD W A12 c12 m12 ∧ True) ?_ (fun wq6 hT => ?_)
      · exact ⟨by (first | exact hst | exact hHeld | exact bel_call hHeld hb9 | exact bel_call hHeld hb10 | exact bel_call hHeld hb12 | exact bel_call hHeld hb13 | exact bel_call hHeld hb14 | exact bel_call hHeld hb15), by (first | assumption | exact hs9 | exact hs12 | exact hs13 | exact Sl.below f0 hb10 | exact Sl.below f0 hb12 | exact Sl.below f0 hb13 | exact Sl.below f0 hb14), trivial⟩
      (try clear f0 f1 f2 f3 f4 f5 f6 f7 f8 f9 f10 f11)
      obtain ⟨hHeld, f0, -⟩ := hT
      refine wpAnyH_ready (rs := [17]) (by kernel_rfl) (by simp) ?_
      refine AllReadyH.cons (o := ⟨some 84, _, _, _, _, _⟩) rfl (fun K hK => ?_) AllReadyH.nil
      go_simp
      (first | ((with_reducible refine (Doc14_any pf ms _ (hC10.below hHeld) (by omega)).mono ?_); rintro e w9 ⟨A9, c9, m9, rfl, hm9, hs9, hb9⟩) | ((with_reducible refine (Doc14_any f cs _ (h.below (bel_call hP10.bel hHeld)) (by omega)).mono ?_); rintro e w12 ⟨A12, c12, m12, rfl, hm12, hs12, hb12⟩) | ((with_reducible refine (Doc14_any fb ds _ (h2.below (bel_call hP10.bel hHeld)) (by omega)).mono ?_); rintro e w13 ⟨A13, c13, m13, rfl, hm13, hs13, hb13⟩))
      go_wp2_with fail
      refine hK.out _ _ ?_ (fun _ => ?_)
      · ((try dsimp only); (first | exact hst | exact hHeld | exact bel_call hHeld hb9 | exact bel_call hHeld hb10 | exact bel_call hHeld hb12 | exact bel_call hHeld hb13 | exact bel_call hHeld hb14 | exact bel_call hHeld hb15))
      clear hK K
      (try simp only [Act.put, List.setIfInBounds_toArray, List.set_cons_zero, List.set_cons_succ])
      refine gen0 (T := fun W => ((fun W => Below wc.heap.size wc W)) W ∧ SlD W A12 c12 m12 ∧ SlD W A13 c13 m13 ∧ True) ?_ (fun wq7 hT => ?_)
      · exact ⟨by (first | exact hst | exact hHeld | exact bel_call hHeld hb9 | exact bel_call hHeld hb10 | exact bel_call hHeld hb12 | exact bel_call hHeld hb13 | exact bel_call hHeld hb14 | exact bel_call hHeld hb15), by (first | assumption | exact hs9 | exact hs12 | exact hs13 | exact Sl.below f0 hb10 | exact Sl.below f0 hb12 | exact Sl.below f0 hb13 | exact Sl.below f0 hb14), by (first | assumption | exact hs9 | exact hs12 | exact hs13 | exact Sl.below f0 hb10 | exact Sl.below f0 hb12 | exact Sl.below f0 hb13 | exact Sl.below f0 hb14), trivial⟩
      (try clear f0 f1 f2 f3 f4 f5 f6 f7 f8 f9 f10 f11)
      obtain ⟨hHeld, f0, f1, -⟩ := hT
      refine wpAnyH_ready (rs := [18]) (by kernel_rfl) (by simp) ?_
      refine AllReadyH.cons (o := ⟨some 85, _, _, _, _, _⟩) rfl (fun K hK => ?_) AllReadyH.nil
      go_simp
      (first | ((with_reducible refine (rSSame_any pf pf m9 my _ f0 (Sl.below hDy hHeld)).mono ?_); rintro e w10 ⟨rfl, hb10⟩; rw [show ssame (pf, m9) (pf, my) = true from by rw [ssame_eq, hm9.out, hms.out, hmy.out]; simp]) | (obtain rfl := hm12.out; obtain rfl := hm13.out; refine (HRR.out A12 A13 c12 c13 _ f0 f1).mono ?_; rintro e w14 ⟨rfl, hb14⟩))
      go_wp2_with fail
      refine hK.out _ _ ?_ (fun _ => ?_)
      · ((try dsimp only); (first | exact hst | exact hHeld | exact bel_call hHeld hb9 | exact bel_call hHeld hb10 | exact bel_call hHeld hb12 | exact bel_call hHeld hb13 | exact bel_call hHeld hb14 | exact bel_call hHeld hb15))
      clear hK K
      (try simp only [Act.put, List.setIfInBounds_toArray, List.set_cons_zero, List.set_cons_succ])
      refine gen0 (T := fun W => ((fun W => Below wc.heap.size wc W)) W ∧ True) ?_ (fun wq8 hT => ?_)
      · exact ⟨by (first | exact hst | exact hHeld | exact bel_call hHeld hb9 | exact bel_call hHeld hb10 | exact bel_call hHeld hb12 | exact bel_call hHeld hb13 | exact bel_call hHeld hb14 | exact bel_call hHeld hb15), trivial⟩
      (try clear f0 f1 f2 f3 f4 f5 f6 f7 f8 f9 f10 f11)
      obtain ⟨hHeld, -⟩ := hT
      refine wpAnyH_take (i := 19) (oi := ⟨some 86, _, _, _, _, _⟩) (v := ?_) rfl (by kernel_rfl) (by kernel_rfl) (by kernel_rfl) (fun _ _ _ h => h) (Or.inl ⟨by kernel_rfl, ?_⟩) (by assumption) ?_
      rotate_left
      · (intro wS hSw; (try dsimp only at hSw); obtain ⟨q0, q1, _, _⟩ := (hJ10.below hSw).two; obtain ⟨p0, p1, _, _⟩ := (hBy.below hSw).two; obtain ⟨a0, a1, _, _⟩ := (hP10.a.below hSw).two; obtain ⟨b0, b1, _, _⟩ := (hP10.b.below hSw).two; clear hSw; go_simp; (try with_reducible rfl))
      (try simp only [Act.put, List.setIfInBounds_toArray, List.set_cons_zero, List.set_cons_succ])
      refine wpAnyH_take (i := 20) (oi := ⟨some 87, _, _, _, _, _⟩) (v := ?_) rfl (by kernel_rfl) (by kernel_rfl) (by kernel_rfl) (fun _ _ _ h => h) (Or.inl ⟨by kernel_rfl, ?_⟩) (by assumption) ?_
      rotate_left
      · (intro wS hSw; (try dsimp only at hSw); obtain ⟨q0, q1, _, _⟩ := (hJ10.below hSw).two; obtain ⟨p0, p1, _, _⟩ := (hBy.below hSw).two; obtain ⟨a0, a1, _, _⟩ := (hP10.a.below hSw).two; obtain ⟨b0, b1, _, _⟩ := (hP10.b.below hSw).two; clear hSw; go_simp; (try with_reducible rfl))
      (try simp only [Act.put, List.setIfInBounds_toArray, List.set_cons_zero, List.set_cons_succ])
      refine wpAnyH_take (i := 21) (oi := ⟨some 6, _, _, _, _, _⟩) (v := ?_) rfl (by kernel_rfl) (by kernel_rfl) (by kernel_rfl) (fun _ _ _ h => h) (Or.inl ⟨by kernel_rfl, ?_⟩) (by assumption) ?_
      rotate_left
      · (intro wS hSw; (try dsimp only at hSw); obtain ⟨q0, q1, _, _⟩ := (hJ10.below hSw).two; obtain ⟨p0, p1, _, _⟩ := (hBy.below hSw).two; obtain ⟨a0, a1, _, _⟩ := (hP10.a.below hSw).two; obtain ⟨b0, b1, _, _⟩ := (hP10.b.below hSw).two; clear hSw; go_simp; (try with_reducible rfl))
      (try simp only [Act.put, List.setIfInBounds_toArray, List.set_cons_zero, List.set_cons_succ])
      refine wpAnyH_done (by kernel_rfl) ?_ _
      go_wp2_with fail
      go_ret
      trace_state
      exact ⟨rfl, bel_call hP10.bel hHeld⟩
theorem parts_all {E G : Option Addr} {cap cap2 : Nat} {f fb p q : Int} {cs ds : List CeV} (w : World) (h : SlC w E cap cs) (h2 : SlC w G cap2 ds) :
    Calls Try.prog 9 #[cv f E cs.length cap, cv fb G ds.length cap2, .agg #[.int .i64 p, .int .i64 q]] w fun e w' => e = .returned (.bool true) ∧ Below w.heap.size w w' := by
  cases hl : longb (cs.map ceOf) 80
  · cases hl2 : longb (ds.map ceOf) 80
    · exact parts_walk w h h2 hl hl2
    · exact parts_early2 w h h2 hl hl2
  · exact parts_early1 w h hl
end Go.Proofs.Ytkkcgibmcijhaaa
