/- WHAT IT HOLDS: Join of segments, walked. | WHAT IT HOLDS: Slice of segments, walked. -/
import Derived.Test.YtjkdnnekagcdhaaCellBackG10
import Derived.Test.YtjkdnnekagcdhaaCellBackG02
namespace Go.Proofs.Ytjkdnnekagcdhaa
open Go.RowKit
attribute [local go_sem ↓] Go.wp_at_zero Go.wp_at_succ

/-- a row lies in no block of another type -/
theorem Own.wrT {w w' : World} {base g : Nat} {e t : TypeId} {size n c : Nat} {A : Option Addr} {xs : List Value} {cs : Array Value} (h : Own w base e size A n c xs) (hw : Wr w w' g) (hb : Blk w g t cs) (hne : e ≠ t) : Own w' base e size A n c xs := by
  obtain ⟨h1, h2⟩ := h
  refine ⟨h1, ?_⟩
  rcases h2 with h2 | ⟨g', cap, cur, hv, hbb, hh, r⟩
  · exact Or.inl h2
  · refine Or.inr ⟨g', cap, cur, hv, hbb, (hw.block g' (Array.getElem?_eq_some_iff.1 hh).1 (fun he => ?_)).trans hh, r⟩
    injection he with he
    subst he
    unfold Blk at hb
    rw [hb] at hh
    injection hh with hh
    injection hh with _ ht
    exact hne ht.symm
theorem Own.setT {w : World} {base g i : Nat} {e t : TypeId} {size n c : Nat} {A : Option Addr} {xs : List Value} {cs : Array Value} (h : Own w base e size A n c xs) (hb : Blk w g t cs) (hne : e ≠ t) (u : Value) : Own (w.setCell ⟨g, i, none⟩ u) base e size A n c xs :=
  h.wrT (Wr.set_ (Wr.refl (g := g) w) i u) hb hne

theorem field_sg (f : Int) (A : Option Addr) (n c : Nat) (W : World) : (Instr.field 75 (cv f A n c) 1).run Try.prog W = .ok (.slice A n c) W := by kernel_rfl
/-- what gives a segment and an error -/
def GivesSg (w0 : World) (x : Sg × Nat) (e : Ending) (w' : World) : Prop :=
  ∃ A c m, e = .returned (.tuple #[cv x.1.1 A (List.length m) c, errv x.2]) ∧ Hid (m.map ceOf = x.1.2) ∧ SlC w' A c m ∧ Below w0.heap.size w0 w'
theorem SlC.nil (w : World) : SlC w none 0 [] := ⟨Sl.none_ _ _, fun x hx => by simp at hx⟩
/-- a new segment -/
def GivesSgN (w0 : World) (x : Sg × Nat) (e : Ending) (w' : World) : Prop :=
  ∃ A c m, e = .returned (.tuple #[cv x.1.1 A (List.length m) c, errv x.2]) ∧ Hid (m.map ceOf = x.1.2) ∧ NewS w' w0.heap.size A c m ∧ Below w0.heap.size w0 w'
theorem NewS.nil (w : World) (base : Nat) : NewS w base none 0 [] := ⟨Own.none_ _ _ _ _, fun x hx => by simp at hx⟩
theorem GivesSgN.weak {w : World} {x : Sg × Nat} {e : Ending} {w' : World} (h : GivesSgN w x e w') : GivesSg w x e w' := by
  obtain ⟨A, c, m, h1, h2, h3, h4⟩ := h
  exact ⟨A, c, m, h1, h2, h3.slc, h4⟩
/-- two boxed segments and the result's block -/
structure JSt (w W : World) (f : Int) (E : Option Addr) (n cap : Nat) (fb : Int) (G : Option Addr) (n2 cap2 : Nat) : Prop where
  bel : Below w.heap.size w W
  a : Blk W w.heap.size 75 #[.int .i64 f, .slice E n cap]
  b : Blk W (w.heap.size + 1) 75 #[.int .i64 fb, .slice G n2 cap2]
  r : Blk W (w.heap.size + 1 + 1) 75 #[.int .i64 0, .slice none 0 0]
section
variable {w W W' : World} {f fb : Int} {E G : Option Addr} {n cap n2 cap2 : Nat}
theorem JSt.below (h : JSt w W f E n cap fb G n2 cap2) (hb : Below W.heap.size W W') : JSt w W' f E n cap fb G n2 cap2 := ⟨bel_call h.bel hb, h.a.below hb, h.b.below hb, h.r.below hb⟩
theorem JSt.drew (h : JSt w W f E n cap fb G n2 cap2) : JSt w W.drew f E n cap fb G n2 cap2 := ⟨h.bel.drew, h.a.drew, h.b.drew, h.r.drew⟩
theorem JSt.far (h : JSt w W f E n cap fb G n2 cap2) {g i : Nat} (hg : w.heap.size + 1 + 1 < g) (u : Value) : JSt w (W.setCell ⟨g, i, none⟩ u) f E n cap fb G n2 cap2 :=
  ⟨bel_set h.bel (by show w.heap.size ≤ g; omega) u, h.a.far (by show w.heap.size ≠ g; omega) u, h.b.far (by show w.heap.size + 1 ≠ g; omega) u, h.r.far (by show w.heap.size + 1 + 1 ≠ g; omega) u⟩
theorem JSt.apart (h : JSt w W f E n cap fb G n2 cap2) {B : Nat} (hB : w.heap.size + 1 + 1 < B) (hb : Below B W W') : JSt w W' f E n cap fb G n2 cap2 :=
  ⟨h.bel.trans (hb.mono (by omega)), (hb.block _ (by omega)).trans h.a, (hb.block _ (by omega)).trans h.b, (hb.block _ (by omega)).trans h.r⟩
end

set_option maxRecDepth 100000 in
set_option maxHeartbeats 2000000 in
theorem SJoin_any {E G : Option Addr} {cap cap2 : Nat} (f fb : Int) (cs ds : List CeV) (w : World) (h : SlC w E cap cs) (h2 : SlC w G cap2 ds) (hd : ∀ x ∈ cs, x.2.2.2.length ≤ 1000000000) (hd2 : ∀ x ∈ ds, x.2.2.2.length ≤ 1000000000) :
    Calls Try.prog 71 #[cv f E cs.length cap, cv fb G ds.length cap2] w (GivesSg w (sjoin (f, cs.map ceOf) (fb, ds.map ceOf))) := by
  have hJ0 : JSt w (((w.alloc (.cells #[.int .i64 f, .slice E cs.length cap] 75)).alloc (.cells #[.int .i64 fb, .slice G ds.length cap2] 75)).alloc (.cells #[.int .i64 0, .slice none 0 0] 75)) f E cs.length cap fb G ds.length cap2 :=
    ⟨bel_alloc (bel_alloc (below_new w _) _) _, ((Blk.new w _ _).alloc _).alloc _, (Blk.newAt (by simp) _ _).alloc _, Blk.newAt (by simp) _ _⟩
  obtain ⟨a0, a1, _, _⟩ := hJ0.a.two
  obtain ⟨b0, b1, _, _⟩ := hJ0.b.two
  have HD := Lib.hid hd
  have HD2 := Lib.hid hd2
  clear hd hd2
  go_enter Try.func71, Try.ntmps71
  go_wp2_with fail
  refine (SCheck_any f cs _ (h.below hJ0.bel)).mono ?_
  rintro e w1 ⟨rfl, hb1⟩
  have hJ1 := hJ0.below hb1
  clear hJ0 hb1 a0 a1 b0 b1
  rcases errv_cases (schk (f, cs.map ceOf)) with ⟨h0, hev⟩ | ⟨k, hk, hke, hev⟩
  · obtain ⟨hf0, hf1, hn64, hne, _⟩ := schk_ok h0
    simp only [List.length_map] at hn64 hne
    have hS0 := Lib.hid h0
    rw [hev]
    clear hev h0
    obtain ⟨b0, b1, _, _⟩ := hJ1.b.two
    go_wp2_with fail
    refine (SCheck_any fb ds _ (h2.below hJ1.bel)).mono ?_
    rintro e w2 ⟨rfl, hb2⟩
    have hJ2 := hJ1.below hb2
    clear hJ1 hb2 b0 b1
    rcases errv_cases (schk (fb, ds.map ceOf)) with ⟨h0, hev⟩ | ⟨k, hk, hke, hev⟩
    · obtain ⟨hg0, hg1, hn642, _, _⟩ := schk_ok h0
      simp only [List.length_map] at hn642
      have hS1 := Lib.hid h0
      rw [hev]
      clear hev h0
      go_upto_region 7 with (fail)
      go_cut [26] (fun s26 wx => s26 = .bool (fb != f + (cs.length : Int)) ∧ JSt w wx f E cs.length cap fb G ds.length cap2)
      case first =>
        have hst := hJ2.drew
        refine wp_region_held_drew (S := (fun W => JSt w W f E cs.length cap fb G ds.length cap2)) (by kernel_rfl) ?_ (fun hHeld => ?_)
        · first | exact hst | exact hHeld.below hb9
        refine wpAnyH_take (i := 0) (oi := ⟨some 22, _, _, _, _, _⟩) (v := ?_) rfl (by kernel_rfl) (by kernel_rfl) (by kernel_rfl) (fun _ _ _ h => h) (Or.inl ⟨by kernel_rfl, ?_⟩) (by assumption) ?_
        rotate_left
        · (intro wS hSw; (try dsimp only at hSw); obtain ⟨q0, q1, _, _⟩ := hSw.a.two; obtain ⟨p0, p1, _, _⟩ := hSw.b.two; clear hSw; go_simp; (try with_reducible rfl))
        (try simp only [Act.put, List.setIfInBounds_toArray, List.set_cons_zero, List.set_cons_succ])
        refine wpAnyH_take (i := 1) (oi := ⟨some 23, _, _, _, _, _⟩) (v := ?_) rfl (by kernel_rfl) (by kernel_rfl) (by kernel_rfl) (fun _ _ _ h => h) (Or.inl ⟨by kernel_rfl, ?_⟩) (by assumption) ?_
        rotate_left
        · (intro wS hSw; (try dsimp only at hSw); obtain ⟨q0, q1, _, _⟩ := hSw.a.two; obtain ⟨p0, p1, _, _⟩ := hSw.b.two; clear hSw; go_simp; (try with_reducible rfl))
        (try simp only [Act.put, List.setIfInBounds_toArray, List.set_cons_zero, List.set_cons_succ])
        refine wpAnyH_take (i := 2) (oi := ⟨some 24, _, _, _, _, _⟩) (v := ?_) rfl (by kernel_rfl) (by kernel_rfl) (by kernel_rfl) (fun _ _ _ h => h) (Or.inl ⟨by kernel_rfl, ?_⟩) (by assumption) ?_
        rotate_left
        · (intro wS hSw; (try dsimp only at hSw); obtain ⟨q0, q1, _, _⟩ := hSw.a.two; obtain ⟨p0, p1, _, _⟩ := hSw.b.two; clear hSw; go_simp; (try with_reducible rfl))
        (try simp only [Act.put, List.setIfInBounds_toArray, List.set_cons_zero, List.set_cons_succ])
        refine wpAnyH_ready (rs := [3]) (by kernel_rfl) (by simp) ?_
        refine AllReadyH.cons (o := ⟨some 25, _, _, _, _, _⟩) rfl (fun K hK => ?_) AllReadyH.nil
        go_simp
        (refine (SEnd_any f E cs.length cap _ hf0 hf1 (by omega)).mono ?_; rintro e w9 ⟨rfl, hb9⟩)
        go_wp2_with fail
        refine hK.out _ _ ?_ (fun hHeld => ?_)
        · ((try dsimp only); (first | exact hst | exact hHeld.below hb9))
        clear hK K
        (try simp only [Act.put, List.setIfInBounds_toArray, List.set_cons_zero, List.set_cons_succ])
        refine wpAnyH_take (i := 4) (oi := ⟨some 26, _, _, _, _, _⟩) (v := ?_) rfl (by kernel_rfl) (by kernel_rfl) (by kernel_rfl) (fun _ _ _ h => h) (Or.inl ⟨by kernel_rfl, ?_⟩) (by assumption) ?_
        rotate_left
        · (intro wS hSw; (try dsimp only at hSw); obtain ⟨q0, q1, _, _⟩ := hSw.a.two; obtain ⟨p0, p1, _, _⟩ := hSw.b.two; clear hSw; go_simp; (try with_reducible rfl))
        (try simp only [Act.put, List.setIfInBounds_toArray, List.set_cons_zero, List.set_cons_succ])
        refine wpAnyH_done (by kernel_rfl) ?_ _
        go_wp2_with fail
        go_meet
        exact ⟨rfl, hHeld⟩
      case rest =>
        obtain ⟨rfl, hJ3⟩ := hcut
        clear hJ2
        by_cases hj : fb = f + (cs.length : Int)
        · have hjb : (fb != f + (cs.length : Int)) = false := by simpa using hj
          have hS2 : Hid (sjoin (f, cs.map ceOf) (fb, ds.map ceOf) = if schk (f, cs.map ceOf ++ ds.map ceOf) ≠ 0 then ((0, []), schk (f, cs.map ceOf ++ ds.map ceOf)) else ((f, cs.map ceOf ++ ds.map ceOf), 0)) := (show _ = _ from by
            unfold sjoin
            rw [if_neg (by rw [hS0.out]; simp), if_neg (by rw [hS1.out]; simp), if_neg (by simp [hj])])
          rw [hjb]
          clear hj hjb
          obtain ⟨a0, a1, _, _⟩ := hJ3.a.two
          go_wp2_with fail
          refine (SCopy_any f cs _ (h.below hJ3.bel) (by omega) HD.out).mono ?_
          rintro e w4 ⟨A1, c1, m1, rfl, hm1, hN1, hb4⟩
          have hJ4 := hJ3.below hb4
          have hml1 : m1.length ≤ 64 := by have := congrArg List.length hm1.out; simp at this; omega
          have hz3 : w.heap.size + 1 + 1 < wc.heap.size := hJ3.r.lt
          have hz4 := hb4.size
          have hbn := below_new w4 (.cells #[.int .i64 f, .slice A1 m1.length c1] 75)
          clear hJ3 hb4 a0 a1
          go_upto_region 10 with (fail)
          go_cut [36] (fun _ wz => ∃ A c m, Hid (m.map ceOf = cs.map ceOf ++ ds.map ceOf) ∧ JSt w wz f E cs.length cap fb G ds.length cap2 ∧ Blk wz w4.heap.size 75 #[.int .i64 f, .slice A (List.length m) c] ∧ NewS wz wc.heap.size A c m)
          case first =>
            have hst := (hJ4.below hbn).drew
            have hst0 : Blk (w4.alloc (.cells #[.int .i64 f, .slice A1 m1.length c1] 75)).drew w4.heap.size 75 #[.int .i64 f, .slice A1 m1.length c1] := Blk.new _ _ _
            have hst1 : Own (w4.alloc (.cells #[.int .i64 f, .slice A1 m1.length c1] 75)).drew wc.heap.size 24 2 A1 m1.length c1 (m1.flatMap cf) := World.ownsRow.drew (Own.below hN1.1 hbn)
            have hst2 : ∀ x ∈ m1, OwnB (w4.alloc (.cells #[.int .i64 f, .slice A1 m1.length c1] 75)).drew wc.heap.size 5 x.2.1 x.2.2.1 x.2.2.2 := fun x hx => World.ownsRow.drew (Own.below (hN1.2 x hx) hbn)
            clear hJ4 hN1 hbn
            have hfd := field_sg fb
            refine wp_region_held_drew (S := (fun W => JSt w W f E cs.length cap fb G ds.length cap2)) (by kernel_rfl) ?_ (fun hHeld => ?_)
            · exact hst
            refine gen0 (T := fun W => ((fun W => JSt w W f E cs.length cap fb G ds.length cap2)) W ∧ Blk W w4.heap.size 75 #[.int .i64 f, .slice A1 m1.length c1] ∧ Own W wc.heap.size 24 2 A1 m1.length c1 (m1.flatMap cf) ∧ (∀ x ∈ m1, OwnB W wc.heap.size 5 x.2.1 x.2.2.1 x.2.2.2) ∧ True) ?_ (fun wq1 hT => ?_)
            · exact ⟨by (first | exact hst | exact hHeld | exact hHeld.below hb9 | exact hHeld.apart hz3 hb11 | exact hHeld.far (by omega) _), by (first | assumption | exact hst0 | exact hst1 | exact hst2 | exact f0.below hb9 | exact Own.below f1 hb9 | exact fun x hx => Own.below (f2 x hx) hb9 | exact hN9.more (by have := f0.lt; omega) | exact Blk.append f0 f1 hg11 (by decide) | exact fun x hx => (f2 x hx).other f1 hg11 (by decide) | exact fun x hx => (f3.2 x hx).other f1 hg11 (by decide) | exact ho11 | exact fun x hx => (f1 x hx).setT f0 (by decide) _ | exact fun x hx => (f2 x hx).setT f0 (by decide) _ | exact f3.setT f0 (by decide) _ | exact f0.set_ 1 _), by (first | assumption | exact hst0 | exact hst1 | exact hst2 | exact f0.below hb9 | exact Own.below f1 hb9 | exact fun x hx => Own.below (f2 x hx) hb9 | exact hN9.more (by have := f0.lt; omega) | exact Blk.append f0 f1 hg11 (by decide) | exact fun x hx => (f2 x hx).other f1 hg11 (by decide) | exact fun x hx => (f3.2 x hx).other f1 hg11 (by decide) | exact ho11 | exact fun x hx => (f1 x hx).setT f0 (by decide) _ | exact fun x hx => (f2 x hx).setT f0 (by decide) _ | exact f3.setT f0 (by decide) _ | exact f0.set_ 1 _), by (first | assumption | exact hst0 | exact hst1 | exact hst2 | exact f0.below hb9 | exact Own.below f1 hb9 | exact fun x hx => Own.below (f2 x hx) hb9 | exact hN9.more (by have := f0.lt; omega) | exact Blk.append f0 f1 hg11 (by decide) | exact fun x hx => (f2 x hx).other f1 hg11 (by decide) | exact fun x hx => (f3.2 x hx).other f1 hg11 (by decide) | exact ho11 | exact fun x hx => (f1 x hx).setT f0 (by decide) _ | exact fun x hx => (f2 x hx).setT f0 (by decide) _ | exact f3.setT f0 (by decide) _ | exact f0.set_ 1 _), trivial⟩
            (try clear f0 f1 f2 f3 f4 f5 f6 f7 f8 f9 f10 f11)
            obtain ⟨hHeld, f0, f1, f2, -⟩ := hT
            refine wpAnyH_take (i := 0) (oi := ⟨some 31, _, _, _, _, _⟩) (v := ?_) rfl (by kernel_rfl) (by kernel_rfl) (by kernel_rfl) (fun _ _ _ h => h) (Or.inl ⟨by kernel_rfl, ?_⟩) (by assumption) ?_
            rotate_left
            · (intro wS hSw; (try dsimp only at hSw); obtain ⟨p0, p1, _, _⟩ := hSw.b.two; clear hSw; go_simp; (try with_reducible rfl))
            (try simp only [Act.put, List.setIfInBounds_toArray, List.set_cons_zero, List.set_cons_succ])
            refine wpAnyH_take (i := 2) (oi := ⟨some 33, _, _, _, _, _⟩) (v := ?_) rfl (by kernel_rfl) (by kernel_rfl) (by kernel_rfl) (fun _ _ _ h => h) (Or.inl ⟨by kernel_rfl, ?_⟩) (by assumption) ?_
            rotate_left
            · (intro wS hSw; (try dsimp only at hSw); obtain ⟨p0, p1, _, _⟩ := hSw.b.two; clear hSw; go_simp; (try with_reducible rfl))
            (try simp only [Act.put, List.setIfInBounds_toArray, List.set_cons_zero, List.set_cons_succ])
            refine wpAnyH_ready (rs := [1, 3]) (by kernel_rfl) (by simp) ?_
            refine AllReadyH.cons (o := ⟨some 32, _, _, _, _, _⟩) rfl (fun K hK => ?_) ?_
            · (first | (obtain ⟨s0, s1, sf0, sf1⟩ := f0.two) | skip); go_simp
              refine hK.out _ _ ?_ (fun _ => ?_)
              · ((try dsimp only); (first | exact hst | exact hHeld | exact hHeld.below hb9 | exact hHeld.apart hz3 hb11 | exact hHeld.far (by omega) _))
              clear hK K
              (try simp only [Act.put, List.setIfInBounds_toArray, List.set_cons_zero, List.set_cons_succ])
              refine gen0 (T := fun W => ((fun W => JSt w W f E cs.length cap fb G ds.length cap2)) W ∧ Blk W w4.heap.size 75 #[.int .i64 f, .slice A1 m1.length c1] ∧ Own W wc.heap.size 24 2 A1 m1.length c1 (m1.flatMap cf) ∧ (∀ x ∈ m1, OwnB W wc.heap.size 5 x.2.1 x.2.2.1 x.2.2.2) ∧ True) ?_ (fun wq2 hT => ?_)
              · exact ⟨by (first | exact hst | exact hHeld | exact hHeld.below hb9 | exact hHeld.apart hz3 hb11 | exact hHeld.far (by omega) _), by (first | assumption | exact hst0 | exact hst1 | exact hst2 | exact f0.below hb9 | exact Own.below f1 hb9 | exact fun x hx => Own.below (f2 x hx) hb9 | exact hN9.more (by have := f0.lt; omega) | exact Blk.append f0 f1 hg11 (by decide) | exact fun x hx => (f2 x hx).other f1 hg11 (by decide) | exact fun x hx => (f3.2 x hx).other f1 hg11 (by decide) | exact ho11 | exact fun x hx => (f1 x hx).setT f0 (by decide) _ | exact fun x hx => (f2 x hx).setT f0 (by decide) _ | exact f3.setT f0 (by decide) _ | exact f0.set_ 1 _), by (first | assumption | exact hst0 | exact hst1 | exact hst2 | exact f0.below hb9 | exact Own.below f1 hb9 | exact fun x hx => Own.below (f2 x hx) hb9 | exact hN9.more (by have := f0.lt; omega) | exact Blk.append f0 f1 hg11 (by decide) | exact fun x hx => (f2 x hx).other f1 hg11 (by decide) | exact fun x hx => (f3.2 x hx).other f1 hg11 (by decide) | exact ho11 | exact fun x hx => (f1 x hx).setT f0 (by decide) _ | exact fun x hx => (f2 x hx).setT f0 (by decide) _ | exact f3.setT f0 (by decide) _ | exact f0.set_ 1 _), by (first | assumption | exact hst0 | exact hst1 | exact hst2 | exact f0.below hb9 | exact Own.below f1 hb9 | exact fun x hx => Own.below (f2 x hx) hb9 | exact hN9.more (by have := f0.lt; omega) | exact Blk.append f0 f1 hg11 (by decide) | exact fun x hx => (f2 x hx).other f1 hg11 (by decide) | exact fun x hx => (f3.2 x hx).other f1 hg11 (by decide) | exact ho11 | exact fun x hx => (f1 x hx).setT f0 (by decide) _ | exact fun x hx => (f2 x hx).setT f0 (by decide) _ | exact f3.setT f0 (by decide) _ | exact f0.set_ 1 _), trivial⟩
              (try clear f0 f1 f2 f3 f4 f5 f6 f7 f8 f9 f10 f11)
              obtain ⟨hHeld, f0, f1, f2, -⟩ := hT
              refine wpAnyH_ready (rs := [3]) (by kernel_rfl) (by simp) ?_
              refine AllReadyH.cons (o := ⟨some 34, _, _, _, _, _⟩) rfl (fun K hK => ?_) AllReadyH.nil
              go_simp
              (refine (SCopy_any fb ds _ (h2.below hHeld.bel) (by omega) HD2.out).mono ?_; rintro e w9 ⟨A9, c9, m9, rfl, hm9, hN9, hb9⟩; have hml9 : m9.length ≤ 64 := (by have := congrArg List.length hm9.out; simp at this; omega))
              go_wp2_with fail
              refine hK.out _ _ ?_ (fun _ => ?_)
              · ((try dsimp only); (first | exact hst | exact hHeld | exact hHeld.below hb9 | exact hHeld.apart hz3 hb11 | exact hHeld.far (by omega) _))
              clear hK K
              (try simp only [Act.put, List.setIfInBounds_toArray, List.set_cons_zero, List.set_cons_succ])
              refine gen0 (T := fun W => ((fun W => JSt w W f E cs.length cap fb G ds.length cap2)) W ∧ Blk W w4.heap.size 75 #[.int .i64 f, .slice A1 m1.length c1] ∧ Own W wc.heap.size 24 2 A1 m1.length c1 (m1.flatMap cf) ∧ (∀ x ∈ m1, OwnB W wc.heap.size 5 x.2.1 x.2.2.1 x.2.2.2) ∧ NewS W wc.heap.size A9 c9 m9 ∧ True) ?_ (fun wq3 hT => ?_)
              · exact ⟨by (first | exact hst | exact hHeld | exact hHeld.below hb9 | exact hHeld.apart hz3 hb11 | exact hHeld.far (by omega) _), by (first | assumption | exact hst0 | exact hst1 | exact hst2 | exact f0.below hb9 | exact Own.below f1 hb9 | exact fun x hx => Own.below (f2 x hx) hb9 | exact hN9.more (by have := f0.lt; omega) | exact Blk.append f0 f1 hg11 (by decide) | exact fun x hx => (f2 x hx).other f1 hg11 (by decide) | exact fun x hx => (f3.2 x hx).other f1 hg11 (by decide) | exact ho11 | exact fun x hx => (f1 x hx).setT f0 (by decide) _ | exact fun x hx => (f2 x hx).setT f0 (by decide) _ | exact f3.setT f0 (by decide) _ | exact f0.set_ 1 _), by (first | assumption | exact hst0 | exact hst1 | exact hst2 | exact f0.below hb9 | exact Own.below f1 hb9 | exact fun x hx => Own.below (f2 x hx) hb9 | exact hN9.more (by have := f0.lt; omega) | exact Blk.append f0 f1 hg11 (by decide) | exact fun x hx => (f2 x hx).other f1 hg11 (by decide) | exact fun x hx => (f3.2 x hx).other f1 hg11 (by decide) | exact ho11 | exact fun x hx => (f1 x hx).setT f0 (by decide) _ | exact fun x hx => (f2 x hx).setT f0 (by decide) _ | exact f3.setT f0 (by decide) _ | exact f0.set_ 1 _), by (first | assumption | exact hst0 | exact hst1 | exact hst2 | exact f0.below hb9 | exact Own.below f1 hb9 | exact fun x hx => Own.below (f2 x hx) hb9 | exact hN9.more (by have := f0.lt; omega) | exact Blk.append f0 f1 hg11 (by decide) | exact fun x hx => (f2 x hx).other f1 hg11 (by decide) | exact fun x hx => (f3.2 x hx).other f1 hg11 (by decide) | exact ho11 | exact fun x hx => (f1 x hx).setT f0 (by decide) _ | exact fun x hx => (f2 x hx).setT f0 (by decide) _ | exact f3.setT f0 (by decide) _ | exact f0.set_ 1 _), by (first | assumption | exact hst0 | exact hst1 | exact hst2 | exact f0.below hb9 | exact Own.below f1 hb9 | exact fun x hx => Own.below (f2 x hx) hb9 | exact hN9.more (by have := f0.lt; omega) | exact Blk.append f0 f1 hg11 (by decide) | exact fun x hx => (f2 x hx).other f1 hg11 (by decide) | exact fun x hx => (f3.2 x hx).other f1 hg11 (by decide) | exact ho11 | exact fun x hx => (f1 x hx).setT f0 (by decide) _ | exact fun x hx => (f2 x hx).setT f0 (by decide) _ | exact f3.setT f0 (by decide) _ | exact f0.set_ 1 _), trivial⟩
              (try clear f0 f1 f2 f3 f4 f5 f6 f7 f8 f9 f10 f11)
              obtain ⟨hHeld, f0, f1, f2, f3, -⟩ := hT
              refine wpAnyH_take (i := 4) (oi := ⟨some 35, _, _, _, _, _⟩) (v := ?_) rfl (by kernel_rfl) (by kernel_rfl) (by kernel_rfl) (fun _ _ _ h => h) (Or.inl ⟨by kernel_rfl, ?_⟩) (by assumption) ?_
              rotate_left
              · (intro wS hSw; (try dsimp only at hSw); obtain ⟨p0, p1, _, _⟩ := hSw.b.two; clear hSw; go_simp; (try with_reducible rfl))
              (try simp only [Act.put, List.setIfInBounds_toArray, List.set_cons_zero, List.set_cons_succ])
              refine wpAnyH_ready (rs := [5]) (by kernel_rfl) (by simp) ?_
              refine AllReadyH.cons (o := ⟨some 36, _, _, _, _, _⟩) rfl (fun K hK => ?_) AllReadyH.nil
              (refine step_cells (by kernel_rfl) (.tmp 32) (.tmp 35) rfl wc.heap.size A1 c1 m1 rfl f1 A9 c9 m9.length m9 rfl rfl f3.1.sl (by omega) (by have := f0.lt; omega) ?_; intro A11 c11 m11 w11 hm11 ho11 hg11 hb11)
              refine hK.out _ _ ?_ (fun _ => ?_)
              · ((try dsimp only); (first | exact hst | exact hHeld | exact hHeld.below hb9 | exact hHeld.apart hz3 hb11 | exact hHeld.far (by omega) _))
              clear hK K
              (try simp only [Act.put, List.setIfInBounds_toArray, List.set_cons_zero, List.set_cons_succ])
              refine gen0 (T := fun W => ((fun W => JSt w W f E cs.length cap fb G ds.length cap2)) W ∧ Blk W w4.heap.size 75 #[.int .i64 f, .slice A1 m1.length c1] ∧ (∀ x ∈ m1, OwnB W wc.heap.size 5 x.2.1 x.2.2.1 x.2.2.2) ∧ (∀ x ∈ m9, OwnB W wc.heap.size 5 x.2.1 x.2.2.1 x.2.2.2) ∧ Own W wc.heap.size 24 2 A11 m11.length c11 (m11.flatMap cf) ∧ True) ?_ (fun wq4 hT => ?_)
              · exact ⟨by (first | exact hst | exact hHeld | exact hHeld.below hb9 | exact hHeld.apart hz3 hb11 | exact hHeld.far (by omega) _), by (first | assumption | exact hst0 | exact hst1 | exact hst2 | exact f0.below hb9 | exact Own.below f1 hb9 | exact fun x hx => Own.below (f2 x hx) hb9 | exact hN9.more (by have := f0.lt; omega) | exact Blk.append f0 f1 hg11 (by decide) | exact fun x hx => (f2 x hx).other f1 hg11 (by decide) | exact fun x hx => (f3.2 x hx).other f1 hg11 (by decide) | exact ho11 | exact fun x hx => (f1 x hx).setT f0 (by decide) _ | exact fun x hx => (f2 x hx).setT f0 (by decide) _ | exact f3.setT f0 (by decide) _ | exact f0.set_ 1 _), by (first | assumption | exact hst0 | exact hst1 | exact hst2 | exact f0.below hb9 | exact Own.below f1 hb9 | exact fun x hx => Own.below (f2 x hx) hb9 | exact hN9.more (by have := f0.lt; omega) | exact Blk.append f0 f1 hg11 (by decide) | exact fun x hx => (f2 x hx).other f1 hg11 (by decide) | exact fun x hx => (f3.2 x hx).other f1 hg11 (by decide) | exact ho11 | exact fun x hx => (f1 x hx).setT f0 (by decide) _ | exact fun x hx => (f2 x hx).setT f0 (by decide) _ | exact f3.setT f0 (by decide) _ | exact f0.set_ 1 _), by (first | assumption | exact hst0 | exact hst1 | exact hst2 | exact f0.below hb9 | exact Own.below f1 hb9 | exact fun x hx => Own.below (f2 x hx) hb9 | exact hN9.more (by have := f0.lt; omega) | exact Blk.append f0 f1 hg11 (by decide) | exact fun x hx => (f2 x hx).other f1 hg11 (by decide) | exact fun x hx => (f3.2 x hx).other f1 hg11 (by decide) | exact ho11 | exact fun x hx => (f1 x hx).setT f0 (by decide) _ | exact fun x hx => (f2 x hx).setT f0 (by decide) _ | exact f3.setT f0 (by decide) _ | exact f0.set_ 1 _), by (first | assumption | exact hst0 | exact hst1 | exact hst2 | exact f0.below hb9 | exact Own.below f1 hb9 | exact fun x hx => Own.below (f2 x hx) hb9 | exact hN9.more (by have := f0.lt; omega) | exact Blk.append f0 f1 hg11 (by decide) | exact fun x hx => (f2 x hx).other f1 hg11 (by decide) | exact fun x hx => (f3.2 x hx).other f1 hg11 (by decide) | exact ho11 | exact fun x hx => (f1 x hx).setT f0 (by decide) _ | exact fun x hx => (f2 x hx).setT f0 (by decide) _ | exact f3.setT f0 (by decide) _ | exact f0.set_ 1 _), trivial⟩
              (try clear f0 f1 f2 f3 f4 f5 f6 f7 f8 f9 f10 f11)
              obtain ⟨hHeld, f0, f1, f2, f3, -⟩ := hT
              refine wpAnyH_take (i := 6) (oi := ⟨some 37, _, _, _, _, _⟩) (v := ?_) rfl (by kernel_rfl) (by kernel_rfl) (by kernel_rfl) (fun _ _ _ h => h) (Or.inl ⟨by kernel_rfl, ?_⟩) (by assumption) ?_
              rotate_left
              · (intro wS hSw; (try dsimp only at hSw); obtain ⟨p0, p1, _, _⟩ := hSw.b.two; clear hSw; go_simp; (try with_reducible rfl))
              (try simp only [Act.put, List.setIfInBounds_toArray, List.set_cons_zero, List.set_cons_succ])
              refine wpAnyH_ready (rs := [7]) (by kernel_rfl) (by simp) ?_
              refine AllReadyH.cons (o := ⟨none, _, _, _, _, _⟩) rfl (fun K hK => ?_) AllReadyH.nil
              obtain ⟨s0, s1, sf0, sf1⟩ := f0.two
              (first | (obtain ⟨s0, s1, sf0, sf1⟩ := f0.two) | skip); go_simp
              refine hK.out _ _ ?_ (fun _ => ?_)
              · ((try dsimp only); (first | exact hst | exact hHeld | exact hHeld.below hb9 | exact hHeld.apart hz3 hb11 | exact hHeld.far (by omega) _))
              clear hK K
              (try simp only [Act.put, List.setIfInBounds_toArray, List.set_cons_zero, List.set_cons_succ])
              refine gen0 (T := fun W => ((fun W => JSt w W f E cs.length cap fb G ds.length cap2)) W ∧ (∀ x ∈ m1, OwnB W wc.heap.size 5 x.2.1 x.2.2.1 x.2.2.2) ∧ (∀ x ∈ m9, OwnB W wc.heap.size 5 x.2.1 x.2.2.1 x.2.2.2) ∧ Own W wc.heap.size 24 2 A11 m11.length c11 (m11.flatMap cf) ∧ Blk W w4.heap.size 75 #[.int .i64 f, .slice A11 m11.length c11] ∧ True) ?_ (fun wq5 hT => ?_)
              · exact ⟨by (first | exact hst | exact hHeld | exact hHeld.below hb9 | exact hHeld.apart hz3 hb11 | exact hHeld.far (by omega) _), by (first | assumption | exact hst0 | exact hst1 | exact hst2 | exact f0.below hb9 | exact Own.below f1 hb9 | exact fun x hx => Own.below (f2 x hx) hb9 | exact hN9.more (by have := f0.lt; omega) | exact Blk.append f0 f1 hg11 (by decide) | exact fun x hx => (f2 x hx).other f1 hg11 (by decide) | exact fun x hx => (f3.2 x hx).other f1 hg11 (by decide) | exact ho11 | exact fun x hx => (f1 x hx).setT f0 (by decide) _ | exact fun x hx => (f2 x hx).setT f0 (by decide) _ | exact f3.setT f0 (by decide) _ | exact f0.set_ 1 _), by (first | assumption | exact hst0 | exact hst1 | exact hst2 | exact f0.below hb9 | exact Own.below f1 hb9 | exact fun x hx => Own.below (f2 x hx) hb9 | exact hN9.more (by have := f0.lt; omega) | exact Blk.append f0 f1 hg11 (by decide) | exact fun x hx => (f2 x hx).other f1 hg11 (by decide) | exact fun x hx => (f3.2 x hx).other f1 hg11 (by decide) | exact ho11 | exact fun x hx => (f1 x hx).setT f0 (by decide) _ | exact fun x hx => (f2 x hx).setT f0 (by decide) _ | exact f3.setT f0 (by decide) _ | exact f0.set_ 1 _), by (first | assumption | exact hst0 | exact hst1 | exact hst2 | exact f0.below hb9 | exact Own.below f1 hb9 | exact fun x hx => Own.below (f2 x hx) hb9 | exact hN9.more (by have := f0.lt; omega) | exact Blk.append f0 f1 hg11 (by decide) | exact fun x hx => (f2 x hx).other f1 hg11 (by decide) | exact fun x hx => (f3.2 x hx).other f1 hg11 (by decide) | exact ho11 | exact fun x hx => (f1 x hx).setT f0 (by decide) _ | exact fun x hx => (f2 x hx).setT f0 (by decide) _ | exact f3.setT f0 (by decide) _ | exact f0.set_ 1 _), by (first | assumption | exact hst0 | exact hst1 | exact hst2 | exact f0.below hb9 | exact Own.below f1 hb9 | exact fun x hx => Own.below (f2 x hx) hb9 | exact hN9.more (by have := f0.lt; omega) | exact Blk.append f0 f1 hg11 (by decide) | exact fun x hx => (f2 x hx).other f1 hg11 (by decide) | exact fun x hx => (f3.2 x hx).other f1 hg11 (by decide) | exact ho11 | exact fun x hx => (f1 x hx).setT f0 (by decide) _ | exact fun x hx => (f2 x hx).setT f0 (by decide) _ | exact f3.setT f0 (by decide) _ | exact f0.set_ 1 _), trivial⟩
              (try clear f0 f1 f2 f3 f4 f5 f6 f7 f8 f9 f10 f11)
              obtain ⟨hHeld, f0, f1, f2, f3, -⟩ := hT
              refine wpAnyH_done (by kernel_rfl) ?_ _
              (go_wp2_with fail; go_meet; exact ⟨A11, c11, m11, (show _ = _ from by rw [hm11.out, List.map_append, hm1.out, hm9.out]), hHeld, f3, ⟨f2, fun x hx => by rw [hm11.out] at hx; rcases List.mem_append.1 hx with hx | hx; exact f0 x hx; exact f1 x hx⟩⟩)
            refine AllReadyH.cons (o := ⟨some 34, _, _, _, _, _⟩) rfl (fun K hK => ?_) ?_
            · go_simp
              (refine (SCopy_any fb ds _ (h2.below hHeld.bel) (by omega) HD2.out).mono ?_; rintro e w9 ⟨A9, c9, m9, rfl, hm9, hN9, hb9⟩; have hml9 : m9.length ≤ 64 := (by have := congrArg List.length hm9.out; simp at this; omega))
              go_wp2_with fail
              refine hK.out _ _ ?_ (fun _ => ?_)
              · ((try dsimp only); (first | exact hst | exact hHeld | exact hHeld.below hb9 | exact hHeld.apart hz3 hb11 | exact hHeld.far (by omega) _))
              clear hK K
              (try simp only [Act.put, List.setIfInBounds_toArray, List.set_cons_zero, List.set_cons_succ])
              refine gen0 (T := fun W => ((fun W => JSt w W f E cs.length cap fb G ds.length cap2)) W ∧ Blk W w4.heap.size 75 #[.int .i64 f, .slice A1 m1.length c1] ∧ Own W wc.heap.size 24 2 A1 m1.length c1 (m1.flatMap cf) ∧ (∀ x ∈ m1, OwnB W wc.heap.size 5 x.2.1 x.2.2.1 x.2.2.2) ∧ NewS W wc.heap.size A9 c9 m9 ∧ True) ?_ (fun wq6 hT => ?_)
              · exact ⟨by (first | exact hst | exact hHeld | exact hHeld.below hb9 | exact hHeld.apart hz3 hb11 | exact hHeld.far (by omega) _), by (first | assumption | exact hst0 | exact hst1 | exact hst2 | exact f0.below hb9 | exact Own.below f1 hb9 | exact fun x hx => Own.below (f2 x hx) hb9 | exact hN9.more (by have := f0.lt; omega) | exact Blk.append f0 f1 hg11 (by decide) | exact fun x hx => (f2 x hx).other f1 hg11 (by decide) | exact fun x hx => (f3.2 x hx).other f1 hg11 (by decide) | exact ho11 | exact fun x hx => (f1 x hx).setT f0 (by decide) _ | exact fun x hx => (f2 x hx).setT f0 (by decide) _ | exact f3.setT f0 (by decide) _ | exact f0.set_ 1 _), by (first | assumption | exact hst0 | exact hst1 | exact hst2 | exact f0.below hb9 | exact Own.below f1 hb9 | exact fun x hx => Own.below (f2 x hx) hb9 | exact hN9.more (by have := f0.lt; omega) | exact Blk.append f0 f1 hg11 (by decide) | exact fun x hx => (f2 x hx).other f1 hg11 (by decide) | exact fun x hx => (f3.2 x hx).other f1 hg11 (by decide) | exact ho11 | exact fun x hx => (f1 x hx).setT f0 (by decide) _ | exact fun x hx => (f2 x hx).setT f0 (by decide) _ | exact f3.setT f0 (by decide) _ | exact f0.set_ 1 _), by (first | assumption | exact hst0 | exact hst1 | exact hst2 | exact f0.below hb9 | exact Own.below f1 hb9 | exact fun x hx => Own.below (f2 x hx) hb9 | exact hN9.more (by have := f0.lt; omega) | exact Blk.append f0 f1 hg11 (by decide) | exact fun x hx => (f2 x hx).other f1 hg11 (by decide) | exact fun x hx => (f3.2 x hx).other f1 hg11 (by decide) | exact ho11 | exact fun x hx => (f1 x hx).setT f0 (by decide) _ | exact fun x hx => (f2 x hx).setT f0 (by decide) _ | exact f3.setT f0 (by decide) _ | exact f0.set_ 1 _), by (first | assumption | exact hst0 | exact hst1 | exact hst2 | exact f0.below hb9 | exact Own.below f1 hb9 | exact fun x hx => Own.below (f2 x hx) hb9 | exact hN9.more (by have := f0.lt; omega) | exact Blk.append f0 f1 hg11 (by decide) | exact fun x hx => (f2 x hx).other f1 hg11 (by decide) | exact fun x hx => (f3.2 x hx).other f1 hg11 (by decide) | exact ho11 | exact fun x hx => (f1 x hx).setT f0 (by decide) _ | exact fun x hx => (f2 x hx).setT f0 (by decide) _ | exact f3.setT f0 (by decide) _ | exact f0.set_ 1 _), trivial⟩
              (try clear f0 f1 f2 f3 f4 f5 f6 f7 f8 f9 f10 f11)
              obtain ⟨hHeld, f0, f1, f2, f3, -⟩ := hT
              refine wpAnyH_take (i := 4) (oi := ⟨some 35, _, _, _, _, _⟩) (v := ?_) rfl (by kernel_rfl) (by kernel_rfl) (by kernel_rfl) (fun _ _ _ h => h) (Or.inl ⟨by kernel_rfl, ?_⟩) (by assumption) ?_
              rotate_left
              · (intro wS hSw; (try dsimp only at hSw); obtain ⟨p0, p1, _, _⟩ := hSw.b.two; clear hSw; go_simp; (try with_reducible rfl))
              (try simp only [Act.put, List.setIfInBounds_toArray, List.set_cons_zero, List.set_cons_succ])
              refine wpAnyH_ready (rs := [1]) (by kernel_rfl) (by simp) ?_
              refine AllReadyH.cons (o := ⟨some 32, _, _, _, _, _⟩) rfl (fun K hK => ?_) AllReadyH.nil
              (first | (obtain ⟨s0, s1, sf0, sf1⟩ := f0.two) | skip); go_simp
              refine hK.out _ _ ?_ (fun _ => ?_)
              · ((try dsimp only); (first | exact hst | exact hHeld | exact hHeld.below hb9 | exact hHeld.apart hz3 hb11 | exact hHeld.far (by omega) _))
              clear hK K
              (try simp only [Act.put, List.setIfInBounds_toArray, List.set_cons_zero, List.set_cons_succ])
              refine gen0 (T := fun W => ((fun W => JSt w W f E cs.length cap fb G ds.length cap2)) W ∧ Blk W w4.heap.size 75 #[.int .i64 f, .slice A1 m1.length c1] ∧ Own W wc.heap.size 24 2 A1 m1.length c1 (m1.flatMap cf) ∧ (∀ x ∈ m1, OwnB W wc.heap.size 5 x.2.1 x.2.2.1 x.2.2.2) ∧ NewS W wc.heap.size A9 c9 m9 ∧ True) ?_ (fun wq7 hT => ?_)
              · exact ⟨by (first | exact hst | exact hHeld | exact hHeld.below hb9 | exact hHeld.apart hz3 hb11 | exact hHeld.far (by omega) _), by (first | assumption | exact hst0 | exact hst1 | exact hst2 | exact f0.below hb9 | exact Own.below f1 hb9 | exact fun x hx => Own.below (f2 x hx) hb9 | exact hN9.more (by have := f0.lt; omega) | exact Blk.append f0 f1 hg11 (by decide) | exact fun x hx => (f2 x hx).other f1 hg11 (by decide) | exact fun x hx => (f3.2 x hx).other f1 hg11 (by decide) | exact ho11 | exact fun x hx => (f1 x hx).setT f0 (by decide) _ | exact fun x hx => (f2 x hx).setT f0 (by decide) _ | exact f3.setT f0 (by decide) _ | exact f0.set_ 1 _), by (first | assumption | exact hst0 | exact hst1 | exact hst2 | exact f0.below hb9 | exact Own.below f1 hb9 | exact fun x hx => Own.below (f2 x hx) hb9 | exact hN9.more (by have := f0.lt; omega) | exact Blk.append f0 f1 hg11 (by decide) | exact fun x hx => (f2 x hx).other f1 hg11 (by decide) | exact fun x hx => (f3.2 x hx).other f1 hg11 (by decide) | exact ho11 | exact fun x hx => (f1 x hx).setT f0 (by decide) _ | exact fun x hx => (f2 x hx).setT f0 (by decide) _ | exact f3.setT f0 (by decide) _ | exact f0.set_ 1 _), by (first | assumption | exact hst0 | exact hst1 | exact hst2 | exact f0.below hb9 | exact Own.below f1 hb9 | exact fun x hx => Own.below (f2 x hx) hb9 | exact hN9.more (by have := f0.lt; omega) | exact Blk.append f0 f1 hg11 (by decide) | exact fun x hx => (f2 x hx).other f1 hg11 (by decide) | exact fun x hx => (f3.2 x hx).other f1 hg11 (by decide) | exact ho11 | exact fun x hx => (f1 x hx).setT f0 (by decide) _ | exact fun x hx => (f2 x hx).setT f0 (by decide) _ | exact f3.setT f0 (by decide) _ | exact f0.set_ 1 _), by (first | assumption | exact hst0 | exact hst1 | exact hst2 | exact f0.below hb9 | exact Own.below f1 hb9 | exact fun x hx => Own.below (f2 x hx) hb9 | exact hN9.more (by have := f0.lt; omega) | exact Blk.append f0 f1 hg11 (by decide) | exact fun x hx => (f2 x hx).other f1 hg11 (by decide) | exact fun x hx => (f3.2 x hx).other f1 hg11 (by decide) | exact ho11 | exact fun x hx => (f1 x hx).setT f0 (by decide) _ | exact fun x hx => (f2 x hx).setT f0 (by decide) _ | exact f3.setT f0 (by decide) _ | exact f0.set_ 1 _), trivial⟩
              (try clear f0 f1 f2 f3 f4 f5 f6 f7 f8 f9 f10 f11)
              obtain ⟨hHeld, f0, f1, f2, f3, -⟩ := hT
              refine wpAnyH_ready (rs := [5]) (by kernel_rfl) (by simp) ?_
              refine AllReadyH.cons (o := ⟨some 36, _, _, _, _, _⟩) rfl (fun K hK => ?_) AllReadyH.nil
              (refine step_cells (by kernel_rfl) (.tmp 32) (.tmp 35) rfl wc.heap.size A1 c1 m1 rfl f1 A9 c9 m9.length m9 rfl rfl f3.1.sl (by omega) (by have := f0.lt; omega) ?_; intro A11 c11 m11 w11 hm11 ho11 hg11 hb11)
              refine hK.out _ _ ?_ (fun _ => ?_)
              · ((try dsimp only); (first | exact hst | exact hHeld | exact hHeld.below hb9 | exact hHeld.apart hz3 hb11 | exact hHeld.far (by omega) _))
              clear hK K
              (try simp only [Act.put, List.setIfInBounds_toArray, List.set_cons_zero, List.set_cons_succ])
              refine gen0 (T := fun W => ((fun W => JSt w W f E cs.length cap fb G ds.length cap2)) W ∧ Blk W w4.heap.size 75 #[.int .i64 f, .slice A1 m1.length c1] ∧ (∀ x ∈ m1, OwnB W wc.heap.size 5 x.2.1 x.2.2.1 x.2.2.2) ∧ (∀ x ∈ m9, OwnB W wc.heap.size 5 x.2.1 x.2.2.1 x.2.2.2) ∧ Own W wc.heap.size 24 2 A11 m11.length c11 (m11.flatMap cf) ∧ True) ?_ (fun wq8 hT => ?_)
              · exact ⟨by (first | exact hst | exact hHeld | exact hHeld.below hb9 | exact hHeld.apart hz3 hb11 | exact hHeld.far (by omega) _), by (first | assumption | exact hst0 | exact hst1 | exact hst2 | exact f0.below hb9 | exact Own.below f1 hb9 | exact fun x hx => Own.below (f2 x hx) hb9 | exact hN9.more (by have := f0.lt; omega) | exact Blk.append f0 f1 hg11 (by decide) | exact fun x hx => (f2 x hx).other f1 hg11 (by decide) | exact fun x hx => (f3.2 x hx).other f1 hg11 (by decide) | exact ho11 | exact fun x hx => (f1 x hx).setT f0 (by decide) _ | exact fun x hx => (f2 x hx).setT f0 (by decide) _ | exact f3.setT f0 (by decide) _ | exact f0.set_ 1 _), by (first | assumption | exact hst0 | exact hst1 | exact hst2 | exact f0.below hb9 | exact Own.below f1 hb9 | exact fun x hx => Own.below (f2 x hx) hb9 | exact hN9.more (by have := f0.lt; omega) | exact Blk.append f0 f1 hg11 (by decide) | exact fun x hx => (f2 x hx).other f1 hg11 (by decide) | exact fun x hx => (f3.2 x hx).other f1 hg11 (by decide) | exact ho11 | exact fun x hx => (f1 x hx).setT f0 (by decide) _ | exact fun x hx => (f2 x hx).setT f0 (by decide) _ | exact f3.setT f0 (by decide) _ | exact f0.set_ 1 _), by (first | assumption | exact hst0 | exact hst1 | exact hst2 | exact f0.below hb9 | exact Own.below f1 hb9 | exact fun x hx => Own.below (f2 x hx) hb9 | exact hN9.more (by have := f0.lt; omega) | exact Blk.append f0 f1 hg11 (by decide) | exact fun x hx => (f2 x hx).other f1 hg11 (by decide) | exact fun x hx => (f3.2 x hx).other f1 hg11 (by decide) | exact ho11 | exact fun x hx => (f1 x hx).setT f0 (by decide) _ | exact fun x hx => (f2 x hx).setT f0 (by decide) _ | exact f3.setT f0 (by decide) _ | exact f0.set_ 1 _), by (first | assumption | exact hst0 | exact hst1 | exact hst2 | exact f0.below hb9 | exact Own.below f1 hb9 | exact fun x hx => Own.below (f2 x hx) hb9 | exact hN9.more (by have := f0.lt; omega) | exact Blk.append f0 f1 hg11 (by decide) | exact fun x hx => (f2 x hx).other f1 hg11 (by decide) | exact fun x hx => (f3.2 x hx).other f1 hg11 (by decide) | exact ho11 | exact fun x hx => (f1 x hx).setT f0 (by decide) _ | exact fun x hx => (f2 x hx).setT f0 (by decide) _ | exact f3.setT f0 (by decide) _ | exact f0.set_ 1 _), trivial⟩
              (try clear f0 f1 f2 f3 f4 f5 f6 f7 f8 f9 f10 f11)
              obtain ⟨hHeld, f0, f1, f2, f3, -⟩ := hT
              refine wpAnyH_take (i := 6) (oi := ⟨some 37, _, _, _, _, _⟩) (v := ?_) rfl (by kernel_rfl) (by kernel_rfl) (by kernel_rfl) (fun _ _ _ h => h) (Or.inl ⟨by kernel_rfl, ?_⟩) (by assumption) ?_
              rotate_left
              · (intro wS hSw; (try dsimp only at hSw); obtain ⟨p0, p1, _, _⟩ := hSw.b.two; clear hSw; go_simp; (try with_reducible rfl))
              (try simp only [Act.put, List.setIfInBounds_toArray, List.set_cons_zero, List.set_cons_succ])
              refine wpAnyH_ready (rs := [7]) (by kernel_rfl) (by simp) ?_
              refine AllReadyH.cons (o := ⟨none, _, _, _, _, _⟩) rfl (fun K hK => ?_) AllReadyH.nil
              obtain ⟨s0, s1, sf0, sf1⟩ := f0.two
              (first | (obtain ⟨s0, s1, sf0, sf1⟩ := f0.two) | skip); go_simp
              refine hK.out _ _ ?_ (fun _ => ?_)
              · ((try dsimp only); (first | exact hst | exact hHeld | exact hHeld.below hb9 | exact hHeld.apart hz3 hb11 | exact hHeld.far (by omega) _))
              clear hK K
              (try simp only [Act.put, List.setIfInBounds_toArray, List.set_cons_zero, List.set_cons_succ])
              refine gen0 (T := fun W => ((fun W => JSt w W f E cs.length cap fb G ds.length cap2)) W ∧ (∀ x ∈ m1, OwnB W wc.heap.size 5 x.2.1 x.2.2.1 x.2.2.2) ∧ (∀ x ∈ m9, OwnB W wc.heap.size 5 x.2.1 x.2.2.1 x.2.2.2) ∧ Own W wc.heap.size 24 2 A11 m11.length c11 (m11.flatMap cf) ∧ Blk W w4.heap.size 75 #[.int .i64 f, .slice A11 m11.length c11] ∧ True) ?_ (fun wq9 hT => ?_)
              · exact ⟨by (first | exact hst | exact hHeld | exact hHeld.below hb9 | exact hHeld.apart hz3 hb11 | exact hHeld.far (by omega) _), by (first | assumption | exact hst0 | exact hst1 | exact hst2 | exact f0.below hb9 | exact Own.below f1 hb9 | exact fun x hx => Own.below (f2 x hx) hb9 | exact hN9.more (by have := f0.lt; omega) | exact Blk.append f0 f1 hg11 (by decide) | exact fun x hx => (f2 x hx).other f1 hg11 (by decide) | exact fun x hx => (f3.2 x hx).other f1 hg11 (by decide) | exact ho11 | exact fun x hx => (f1 x hx).setT f0 (by decide) _ | exact fun x hx => (f2 x hx).setT f0 (by decide) _ | exact f3.setT f0 (by decide) _ | exact f0.set_ 1 _), by (first | assumption | exact hst0 | exact hst1 | exact hst2 | exact f0.below hb9 | exact Own.below f1 hb9 | exact fun x hx => Own.below (f2 x hx) hb9 | exact hN9.more (by have := f0.lt; omega) | exact Blk.append f0 f1 hg11 (by decide) | exact fun x hx => (f2 x hx).other f1 hg11 (by decide) | exact fun x hx => (f3.2 x hx).other f1 hg11 (by decide) | exact ho11 | exact fun x hx => (f1 x hx).setT f0 (by decide) _ | exact fun x hx => (f2 x hx).setT f0 (by decide) _ | exact f3.setT f0 (by decide) _ | exact f0.set_ 1 _), by (first | assumption | exact hst0 | exact hst1 | exact hst2 | exact f0.below hb9 | exact Own.below f1 hb9 | exact fun x hx => Own.below (f2 x hx) hb9 | exact hN9.more (by have := f0.lt; omega) | exact Blk.append f0 f1 hg11 (by decide) | exact fun x hx => (f2 x hx).other f1 hg11 (by decide) | exact fun x hx => (f3.2 x hx).other f1 hg11 (by decide) | exact ho11 | exact fun x hx => (f1 x hx).setT f0 (by decide) _ | exact fun x hx => (f2 x hx).setT f0 (by decide) _ | exact f3.setT f0 (by decide) _ | exact f0.set_ 1 _), by (first | assumption | exact hst0 | exact hst1 | exact hst2 | exact f0.below hb9 | exact Own.below f1 hb9 | exact fun x hx => Own.below (f2 x hx) hb9 | exact hN9.more (by have := f0.lt; omega) | exact Blk.append f0 f1 hg11 (by decide) | exact fun x hx => (f2 x hx).other f1 hg11 (by decide) | exact fun x hx => (f3.2 x hx).other f1 hg11 (by decide) | exact ho11 | exact fun x hx => (f1 x hx).setT f0 (by decide) _ | exact fun x hx => (f2 x hx).setT f0 (by decide) _ | exact f3.setT f0 (by decide) _ | exact f0.set_ 1 _), trivial⟩
              (try clear f0 f1 f2 f3 f4 f5 f6 f7 f8 f9 f10 f11)
              obtain ⟨hHeld, f0, f1, f2, f3, -⟩ := hT
              refine wpAnyH_done (by kernel_rfl) ?_ _
              (go_wp2_with fail; go_meet; exact ⟨A11, c11, m11, (show _ = _ from by rw [hm11.out, List.map_append, hm1.out, hm9.out]), hHeld, f3, ⟨f2, fun x hx => by rw [hm11.out] at hx; rcases List.mem_append.1 hx with hx | hx; exact f0 x hx; exact f1 x hx⟩⟩)
            exact AllReadyH.nil
          case rest =>
            obtain ⟨Az, cz, mz, hmz, hJ5, hB5, hN5⟩ := hcut
            clear hJ4 hN1 hbn hm1 hml1
            obtain ⟨s0, s1, _, _⟩ := hB5.two
            go_wp2_with fail
            refine (SCheck_any f mz _ hN5.slc).mono ?_
            rintro e w6 ⟨rfl, hb6⟩
            rw [hmz.out]
            have hJ6 := hJ5.below hb6
            have hB6 := hB5.below hb6
            have hN6 := hN5.below hb6
            clear hJ5 hB5 hN5 hb6 s0 s1
            rcases errv_cases (schk (f, cs.map ceOf ++ ds.map ceOf)) with ⟨h0, hev⟩ | ⟨k, hk, hke, hev⟩
            · have hS3 : Hid (sjoin (f, cs.map ceOf) (fb, ds.map ceOf) = ((f, cs.map ceOf ++ ds.map ceOf), 0)) := (show _ = _ from by rw [hS2.out, if_neg (by rw [h0]; simp)])
              rw [hev]
              clear hev h0 hS2
              obtain ⟨s0, s1, _, _⟩ := hB6.two
              obtain ⟨r0, r1, rf0, rf1⟩ := hJ6.r.two
              go_wp2_with fail
              exact bodyPost_ret (res_sg2 rfl rfl (g := w.heap.size + 1 + 1) (hJ6.r.set2 _ _)) rfl ⟨Az, cz, mz, by rw [hS3.out]; rfl, (show _ = _ from by rw [hS3.out, hmz.out]), ⟨(Own.set2 hN6.1 (by omega) _ _).sl, fun x hx => (Own.set2 (hN6.2 x hx) (by omega) _ _).sl⟩, bel_set (bel_set hJ6.bel (by dsimp only; omega) _) (by dsimp only; omega) _⟩
            · have HJ : Hid (sjoin (f, cs.map ceOf) (fb, ds.map ceOf) = ((0, []), schk (f, cs.map ceOf ++ ds.map ceOf))) := (show _ = _ from by rw [hS2.out, if_pos (by omega)])
              have HEV := Lib.hid hev
              rw [hev]
              clear hev hke hS2
              obtain ⟨r0, r1, rf0, rf1⟩ := hJ6.r.two
              obtain ⟨a0, a1, _, _⟩ := hJ6.a.two
              obtain ⟨b0, b1, _, _⟩ := hJ6.b.two
              go_wp2_with fail
              exact bodyPost_ret (res_sg2 rfl rfl (g := w.heap.size + 1 + 1) (hJ6.r.set2 _ _)) rfl ⟨none, 0, [], by rw [HJ.out]; (dsimp only; rw [HEV.out]; rfl), (show _ = _ from by rw [HJ.out]; rfl), SlC.nil _, bel_set (bel_set hJ6.bel (by dsimp only; omega) _) (by dsimp only; omega) _⟩
        · have hjb : (fb != f + (cs.length : Int)) = true := by simpa using hj
          have HJ : Hid (sjoin (f, cs.map ceOf) (fb, ds.map ceOf) = ((0, []), 13)) := (show _ = _ from by
            unfold sjoin
            rw [if_neg (by rw [hS0.out]; simp), if_neg (by rw [hS1.out]; simp), if_pos (by simpa using hj)])
          rw [hjb]
          clear hj hjb
          obtain ⟨r0, r1, rf0, rf1⟩ := hJ3.r.two
          obtain ⟨a0, a1, _, _⟩ := hJ3.a.two
          obtain ⟨b0, b1, _, _⟩ := hJ3.b.two
          go_wp2_with fail
          exact bodyPost_ret (res_sg2 rfl rfl (g := w.heap.size + 1 + 1) (hJ3.r.set2 _ _)) rfl ⟨none, 0, [], by rw [HJ.out]; rfl, (show _ = _ from by rw [HJ.out]; rfl), SlC.nil _, bel_set (bel_set hJ3.bel (by dsimp only; omega) _) (by dsimp only; omega) _⟩
    · have HJ : Hid (sjoin (f, cs.map ceOf) (fb, ds.map ceOf) = ((0, []), schk (fb, ds.map ceOf))) := (show _ = _ from by
        unfold sjoin
        rw [if_neg (by rw [hS0.out]; simp), if_pos (by omega)])
      have HEV := Lib.hid hev
      rw [hev]
      clear hev hke
      obtain ⟨r0, r1, rf0, rf1⟩ := hJ2.r.two
      obtain ⟨a0, a1, _, _⟩ := hJ2.a.two
      obtain ⟨b0, b1, _, _⟩ := hJ2.b.two
      go_wp2_with fail
      exact bodyPost_ret (res_sg2 rfl rfl (g := w.heap.size + 1 + 1) (hJ2.r.set2 _ _)) rfl ⟨none, 0, [], by rw [HJ.out]; (dsimp only; rw [HEV.out]; rfl), (show _ = _ from by rw [HJ.out]; rfl), SlC.nil _, bel_set (bel_set hJ2.bel (by dsimp only; omega) _) (by dsimp only; omega) _⟩
  · have HJ : Hid (sjoin (f, cs.map ceOf) (fb, ds.map ceOf) = ((0, []), schk (f, cs.map ceOf))) := (show _ = _ from by
      unfold sjoin
      rw [if_pos (by omega)])
    have HEV := Lib.hid hev
    rw [hev]
    clear hev hke
    obtain ⟨r0, r1, rf0, rf1⟩ := hJ1.r.two
    obtain ⟨a0, a1, _, _⟩ := hJ1.a.two
    obtain ⟨b0, b1, _, _⟩ := hJ1.b.two
    go_wp2_with fail
    exact bodyPost_ret (res_sg2 rfl rfl (g := w.heap.size + 1 + 1) (hJ1.r.set2 _ _)) rfl ⟨none, 0, [], by rw [HJ.out]; (dsimp only; rw [HEV.out]; rfl), (show _ = _ from by rw [HJ.out]; rfl), SlC.nil _, bel_set (bel_set hJ1.bel (by dsimp only; omega) _) (by dsimp only; omega) _⟩
end Go.Proofs.Ytjkdnnekagcdhaa

namespace Go.Proofs.Ytjkdnnekagcdhaa
open Go.RowKit
attribute [local go_sem ↓] Go.wp_at_zero Go.wp_at_succ

theorem flat_take : ∀ (k : Nat) (l : List CeV), (l.flatMap cf).take (k * 2) = (l.take k).flatMap cf
  | 0, l => by simp
  | k + 1, [] => by simp
  | k + 1, x :: l => by
    have h := flat_take k l
    rw [show (k + 1) * 2 = k * 2 + 1 + 1 from by omega]
    simp only [List.flatMap_cons, List.take_succ_cons, cf]
    simp only [List.cons_append, List.nil_append, List.take_succ_cons]
    rw [h]
theorem SlC.take {w : World} {E : Option Addr} {cap : Nat} {l : List CeV} (h : SlC w E cap l) {k : Nat} (hk : k ≤ l.length) : SlC w E cap (l.take k) := by
  refine ⟨?_, fun x hx => h.2 x (List.mem_of_mem_take hx)⟩
  obtain ⟨h1, h2, h3, h4, h5⟩ := h.1
  rw [← flat_take, show (l.take k).length = k from by simp; omega]
  refine ⟨by rw [List.length_take, h1]; omega, by omega, h3, fun e => by have := h4 e; omega, fun j u hj => ?_⟩
  have hlt := (List.getElem?_eq_some_iff.1 hj).1
  rw [List.length_take] at hlt
  rw [List.getElem?_take_of_lt (by omega)] at hj
  exact h5 j u hj

/-- a boxed segment and the result's block -/
structure KSt (w W : World) (f : Int) (E : Option Addr) (n cap : Nat) : Prop where
  bel : Below w.heap.size w W
  a : Blk W w.heap.size 75 #[.int .i64 f, .slice E n cap]
  r : Blk W (w.heap.size + 1) 75 #[.int .i64 0, .slice none 0 0]
theorem KSt.below {w W W' : World} {f : Int} {E : Option Addr} {n cap : Nat} (h : KSt w W f E n cap) (hb : Below W.heap.size W W') : KSt w W' f E n cap := ⟨bel_call h.bel hb, h.a.below hb, h.r.below hb⟩
set_option maxRecDepth 100000 in
set_option maxHeartbeats 2000000 in
theorem SSlice_new {E : Option Addr} {cap : Nat} (f p q : Int) (cs : List CeV) (w : World) (h : SlC w E cap cs) (hd : ∀ x ∈ cs, x.2.2.2.length ≤ 1000000000) :
    Calls Try.prog 70 #[cv f E cs.length cap, .int .i64 p, .int .i64 q] w (GivesSgN w (spart (f, cs.map ceOf) p q)) := by
  have hJ0 : KSt w ((w.alloc (.cells #[.int .i64 f, .slice E cs.length cap] 75)).alloc (.cells #[.int .i64 0, .slice none 0 0] 75)) f E cs.length cap :=
    ⟨bel_alloc (below_new w _) _, (Blk.new w _ _).alloc _, Blk.newAt (by simp) _ _⟩
  obtain ⟨a0, a1, _, _⟩ := hJ0.a.two
  have HD := Lib.hid hd
  have hcap := h.1.2.1
  clear hd
  go_enter Try.func70, Try.ntmps70
  go_wp2_with fail
  refine (SCheck_any f cs _ (h.below hJ0.bel)).mono ?_
  rintro e w1 ⟨rfl, hb1⟩
  have hJ1 := hJ0.below hb1
  clear hJ0 hb1 a0 a1
  rcases errv_cases (schk (f, cs.map ceOf)) with ⟨h0, hev⟩ | ⟨k, hk, hke, hev⟩
  · obtain ⟨hf0, hf1, hn64, hne, _⟩ := schk_ok h0
    simp only [List.length_map] at hn64 hne
    have HS := Lib.hid (show spart (f, cs.map ceOf) p q = if p < f ∨ f + cs.length < q ∨ q < p then ((0, []), 1) else ((p, ((cs.map ceOf).drop (p - f).toNat).take (q - p).toNat), 0) from by
      unfold spart
      rw [if_neg (by rw [h0]; simp)]
      simp only [List.length_map])
    rw [hev]
    clear hev h0
    by_cases c1 : p < f
    · have HJ : Hid (spart (f, cs.map ceOf) p q = ((0, []), 1)) := (show _ = _ from by rw [HS.out, if_pos (.inl c1)])
      obtain ⟨r0, r1, rf0, rf1⟩ := hJ1.r.two
      obtain ⟨a0, a1, _, _⟩ := hJ1.a.two
      go_wp2_with fail
      exact bodyPost_ret (res_sg2 rfl rfl (g := w.heap.size + 1) (hJ1.r.set2 _ _)) rfl ⟨none, 0, [], by rw [HJ.out]; rfl, (show _ = _ from by rw [HJ.out]; rfl), NewS.nil _ _, bel_set (bel_set hJ1.bel (by dsimp only; omega) _) (by dsimp only; omega) _⟩
    · obtain ⟨a0, a1, _, _⟩ := hJ1.a.two
      go_wp2_with fail
      refine (SEnd_any f E cs.length cap _ hf0 hf1 (by omega)).mono ?_
      rintro e w2 ⟨rfl, hb2⟩
      have hJ2 := hJ1.below hb2
      clear hJ1 hb2 a0 a1
      by_cases c2 : f + (cs.length : Int) < q
      · have HJ : Hid (spart (f, cs.map ceOf) p q = ((0, []), 1)) := (show _ = _ from by rw [HS.out, if_pos (.inr (.inl c2))])
        obtain ⟨r0, r1, rf0, rf1⟩ := hJ2.r.two
        obtain ⟨a0, a1, _, _⟩ := hJ2.a.two
        go_wp2_with fail
        exact bodyPost_ret (res_sg2 rfl rfl (g := w.heap.size + 1) (hJ2.r.set2 _ _)) rfl ⟨none, 0, [], by rw [HJ.out]; rfl, (show _ = _ from by rw [HJ.out]; rfl), NewS.nil _ _, bel_set (bel_set hJ2.bel (by dsimp only; omega) _) (by dsimp only; omega) _⟩
      · by_cases c3 : q < p
        · have HJ : Hid (spart (f, cs.map ceOf) p q = ((0, []), 1)) := (show _ = _ from by rw [HS.out, if_pos (.inr (.inr c3))])
          obtain ⟨r0, r1, rf0, rf1⟩ := hJ2.r.two
          obtain ⟨a0, a1, _, _⟩ := hJ2.a.two
          go_wp2_with fail
          exact bodyPost_ret (res_sg2 rfl rfl (g := w.heap.size + 1) (hJ2.r.set2 _ _)) rfl ⟨none, 0, [], by rw [HJ.out]; rfl, (show _ = _ from by rw [HJ.out]; rfl), NewS.nil _ _, bel_set (bel_set hJ2.bel (by dsimp only; omega) _) (by dsimp only; omega) _⟩
        · have HJ : spart (f, cs.map ceOf) p q = ((p, ((cs.map ceOf).drop (p - f).toNat).take (q - p).toNat), 0) := by rw [HS.out, if_neg (by omega)]
          obtain ⟨i, hi⟩ : ∃ i : Nat, p - f = i := ⟨(p - f).toNat, by omega⟩
          obtain ⟨j, hj⟩ : ∃ j : Nat, q - f = j := ⟨(q - f).toNat, by omega⟩
          have hij : i ≤ j := by omega
          have hjn : j ≤ cs.length := by omega
          rw [hi, show (q - p).toNat = j - i from by omega] at HJ
          simp only [Int.toNat_natCast] at HJ
          have HJH := Lib.hid HJ
          obtain ⟨a0, a1, _, _⟩ := hJ2.a.two
          have hjc : j ≤ cap := by omega
          have hic : i ≤ cap := by omega
          clear HJ HS
          by_cases hci : cap = i
          · have hpart := (SlC.cut (SlC.take (h.below hJ2.bel) hjn) (k := i) (by simp; omega))
            have hpl : ((cs.take j).drop i).length = j - i := by simp; omega
            have hcs : ((cs.take j).drop i).map ceOf = ((cs.map ceOf).drop i).take (j - i) := by rw [List.map_drop, List.map_take, List.drop_take]
            have HCS := Lib.hid hcs
            have hdd : ∀ x ∈ (cs.take j).drop i, x.2.2.2.length ≤ 1000000000 := fun x hx => HD.out x (List.mem_of_mem_take (List.mem_of_mem_drop hx))
            clear hcs
            generalize (cs.take j).drop i = ps at *
            rw [if_pos hci] at hpart
            have hp0 : ps = [] := List.eq_nil_of_length_eq_zero (by omega)
            subst hp0
            subst hci
            go_wp2_with fail
            rw [Nat.sub_self] at hpart
            have hco := SCopy_any p [] w2 hpart (by simp) hdd
            have hz2 : w.heap.size + 1 < w2.heap.size := hJ2.r.lt
            refine hco.mono ?_
            rintro e w3 ⟨A3, k3, m3, rfl, hm3, hN3, hb3⟩
            have hJ3 := hJ2.below hb3
            obtain ⟨r0, r1, rf0, rf1⟩ := hJ3.r.two
            clear hJ2 hb3 hpart a0 a1 hpl
            go_wp2_with fail
            exact bodyPost_ret (res_sg2 rfl rfl (g := w.heap.size + 1) (hJ3.r.set2 _ _)) rfl ⟨A3, k3, m3, by rw [HJH.out]; rfl, (show _ = _ from by rw [HJH.out, hm3.out, HCS.out]), NewS.more ⟨Own.set2 hN3.1 (by omega) _ _, fun x hx => Own.set2 (hN3.2 x hx) (by omega) _ _⟩ (by omega), bel_set (bel_set hJ3.bel (by dsimp only; omega) _) (by dsimp only; omega) _⟩
          · have hpart := (SlC.cut (SlC.take (h.below hJ2.bel) hjn) (k := i) (by simp; omega))
            have hpl : ((cs.take j).drop i).length = j - i := by simp; omega
            have hcs : ((cs.take j).drop i).map ceOf = ((cs.map ceOf).drop i).take (j - i) := by rw [List.map_drop, List.map_take, List.drop_take]
            have HCS := Lib.hid hcs
            have hdd : ∀ x ∈ (cs.take j).drop i, x.2.2.2.length ≤ 1000000000 := fun x hx => HD.out x (List.mem_of_mem_take (List.mem_of_mem_drop hx))
            clear hcs
            generalize (cs.take j).drop i = ps at *
            rw [if_neg hci] at hpart
            go_wp2_with fail
            have hco := SCopy_any p ps w2 hpart (by omega) hdd
            rw [hpl] at hco
            have hz2 : w.heap.size + 1 < w2.heap.size := hJ2.r.lt
            refine hco.mono ?_
            rintro e w3 ⟨A3, k3, m3, rfl, hm3, hN3, hb3⟩
            have hJ3 := hJ2.below hb3
            obtain ⟨r0, r1, rf0, rf1⟩ := hJ3.r.two
            clear hJ2 hb3 hpart a0 a1 hpl
            go_wp2_with fail
            exact bodyPost_ret (res_sg2 rfl rfl (g := w.heap.size + 1) (hJ3.r.set2 _ _)) rfl ⟨A3, k3, m3, by rw [HJH.out]; rfl, (show _ = _ from by rw [HJH.out, hm3.out, HCS.out]), NewS.more ⟨Own.set2 hN3.1 (by omega) _ _, fun x hx => Own.set2 (hN3.2 x hx) (by omega) _ _⟩ (by omega), bel_set (bel_set hJ3.bel (by dsimp only; omega) _) (by dsimp only; omega) _⟩
  · have HJ : Hid (spart (f, cs.map ceOf) p q = ((0, []), schk (f, cs.map ceOf))) := (show _ = _ from by
      unfold spart
      rw [if_pos (by omega)])
    have HEV := Lib.hid hev
    rw [hev]
    clear hev hke
    obtain ⟨r0, r1, rf0, rf1⟩ := hJ1.r.two
    obtain ⟨a0, a1, _, _⟩ := hJ1.a.two
    go_wp2_with fail
    exact bodyPost_ret (res_sg2 rfl rfl (g := w.heap.size + 1) (hJ1.r.set2 _ _)) rfl ⟨none, 0, [], by rw [HJ.out]; (dsimp only; rw [HEV.out]; rfl), (show _ = _ from by rw [HJ.out]; rfl), NewS.nil _ _, bel_set (bel_set hJ1.bel (by dsimp only; omega) _) (by dsimp only; omega) _⟩
theorem SSlice_any {E : Option Addr} {cap : Nat} (f p q : Int) (cs : List CeV) (w : World) (h : SlC w E cap cs) (hd : ∀ x ∈ cs, x.2.2.2.length ≤ 1000000000) :
    Calls Try.prog 70 #[cv f E cs.length cap, .int .i64 p, .int .i64 q] w (GivesSg w (spart (f, cs.map ceOf) p q)) := (SSlice_new f p q cs w h hd).mono fun _ _ h => h.weak
end Go.Proofs.Ytjkdnnekagcdhaa
