/- WHAT IT HOLDS: the document's register: a lease kept: walked. -/
import Derived.Test.YtddmfoldnlafaaaGreatDoorRegisterPlaysG25
import Derived.Test.YtddmfoldnlafaaaGreatDoorRegisterPlaysG16
namespace Go.Proofs.YtddmfoldnlafaaaGreatDoor
open Go.RowKit Go.Maps Go.Sort
attribute [local go_sem ↓] Go.wp_at_zero Go.wp_at_succ

/-- not one of a call's first three blocks -/
def T4 (T : Nat → Prop) (g : Nat) (j : Nat) : Prop := T j ∧ j ≠ g ∧ j ≠ g + 1 ∧ j ≠ g + 2
/-- an act on the document's register: its own copy, a lease, the result -/
structure KRk (T : Nat → Prop) (w W : World) (d : Dk Bs) (A : Option Addr) (c : Nat) (B : Option Addr) (k : Nat) (x : L3r) (R9 : Array Value) : Prop where
  mm : Mm w W [(w.heap.size + 1 + 1, 104, rrz), (w.heap.size + 1, 102, #[.int .i64 x.1, .int .i64 x.2.1, .int .i64 x.2.2]), (w.heap.size, 104, R9)] []
  R : Rdk (T4 T w.heap.size) W d A c B k
  up : ∀ j, w.heap.size ≤ j → T j
section
variable {T T' : Nat → Prop} {w W W' : World} {d d' : Dk Bs} {A B A' B' : Option Addr} {c k c' k' g : Nat} {R9 : Array Value} {sp bo n : Int} {L x : L3r}
theorem Rdk.weak (h : Rdk T W d A c B k) (hT : ∀ i, i < W.heap.size → T i → T' i) : Rdk T' W d A c B k := h.sameH hT (Nat.le_refl _) fun _ _ _ => rfl
theorem KRk.begin (hT : ∀ j, w.heap.size ≤ j → T j) (h : Rdk T w d A c B k) (R9 : Array Value) (x : L3r) : KRk T w (((w.alloc (.cells R9 104)).alloc (.cells #[.int .i64 x.1, .int .i64 x.2.1, .int .i64 x.2.2] 102)).alloc (.cells rrz 104)) d A c B k x R9 := by
  have hM := (((Mm.start w).alloc R9 104).alloc #[.int .i64 x.1, .int .i64 x.2.1, .int .i64 x.2.2] 102).alloc rrz 104
  rw [show ((w.alloc (.cells R9 104)).alloc (.cells #[.int .i64 x.1, .int .i64 x.2.1, .int .i64 x.2.2] 102)).heap.size = w.heap.size + 1 + 1 by simp, show (w.alloc (.cells R9 104)).heap.size = w.heap.size + 1 by simp] at hM
  exact ⟨hM, h.sameH (fun _ hi ht => ⟨ht, by omega, by omega, by omega⟩) hM.bel.size fun i hi _ => hM.bel.block i hi, hT⟩
theorem KRk.call (h : KRk T w W d A c B k x R9) (hb : Below W.heap.size W W') : KRk T w W' d A c B k x R9 := ⟨h.mm.call hb, h.R.below hb, h.up⟩
theorem KRk.up4 (h : KRk T w W d A c B k x R9) : ∀ j, W.heap.size ≤ j → T4 T w.heap.size j := fun j hj => by
  have h0 := h.mm.b0.lt
  have h1 := h.mm.b1.lt
  have h2 := h.mm.b2.lt
  exact ⟨h.up j (by omega), by omega, by omega, by omega⟩
theorem KRk.out (h : KRk T w W d A c B k x R9) (hw : Wr W W' (w.heap.size + 1 + 1)) : Rdk T W' d A c B k ∧ Below w.heap.size w W' :=
  ⟨h.R.sameH (fun _ _ ht => ht.1) hw.size fun j hj ht => hw.block j hj fun e => ht.2.2.2 (by injection e), h.mm.bel.trans (hw.below h.mm.bel.size (by omega))⟩
/-- another disk is laid into the register's copy -/
theorem KRk.disk (h : KRk T w W d A c B k x (rrg d A c B k sp bo L n)) (hR : Rdk (T4 T w.heap.size) W d' A' c' B' k') : KRk T w (((((W.setCell ⟨w.heap.size, 0, none⟩ (.int .i64 d'.room)).setCell ⟨w.heap.size, 1, none⟩ (.slice A' d'.sure.length c')).setCell ⟨w.heap.size, 2, none⟩ (.slice B' d'.pend.length k')).setCell ⟨w.heap.size, 3, none⟩ (.int .i64 d'.fuse)).setCell ⟨w.heap.size, 4, none⟩ (.bool d'.down)) d' A' c' B' k' x (rrg d' A' c' B' k' sp bo L n) := by
  have hw : Wr W (((((W.setCell ⟨w.heap.size, 0, none⟩ (.int .i64 d'.room)).setCell ⟨w.heap.size, 1, none⟩ (.slice A' d'.sure.length c')).setCell ⟨w.heap.size, 2, none⟩ (.slice B' d'.pend.length k')).setCell ⟨w.heap.size, 3, none⟩ (.int .i64 d'.fuse)).setCell ⟨w.heap.size, 4, none⟩ (.bool d'.down)) w.heap.size := (((((Wr.refl _ _).set_ 0 _).set_ 1 _).set_ 2 _).set_ 3 _).set_ 4 _
  exact ⟨h.mm.turn 2 rfl (Blk.cast (((((h.mm.b2.set_ 0 _).set_ 1 _).set_ 2 _).set_ 3 _).set_ 4 _) (by kernel_rfl)) hw, hR.sameH (fun _ _ ht => ht) hw.size fun j hj ht => hw.block j hj fun e => ht.2.1 (by injection e), h.up⟩
theorem KRk.set3 (h : KRk T w W d A c B k x (rrg d A c B k sp bo L n)) (a b e : Int) : KRk T w (((W.setCell ⟨w.heap.size, 7, none⟩ (.int .i64 a)).setCell ⟨w.heap.size, 8, none⟩ (.int .i64 b)).setCell ⟨w.heap.size, 9, none⟩ (.int .i64 e)) d A c B k x (rrg d A c B k sp bo (a, b, e) n) := by
  have hw : Wr W (((W.setCell ⟨w.heap.size, 7, none⟩ (.int .i64 a)).setCell ⟨w.heap.size, 8, none⟩ (.int .i64 b)).setCell ⟨w.heap.size, 9, none⟩ (.int .i64 e)) w.heap.size := (((Wr.refl _ _).set_ 7 _).set_ 8 _).set_ 9 _
  exact ⟨h.mm.turn 2 rfl (Blk.cast (((h.mm.b2.set_ 7 _).set_ 8 _).set_ 9 _) (by kernel_rfl)) hw, h.R.sameH (fun _ _ ht => ht) hw.size fun j hj ht => hw.block j hj fun e => ht.2.1 (by injection e), h.up⟩
/-- rows that a call gives lie apart from a block that was made ahead of it -/
def Tn (X : Nat → Prop) (w0 W : World) (j : Nat) : Prop := X j ∧ (w0.heap.size ≤ j → W.heap.size ≤ j)
theorem Rdk.tn {X : Nat → Prop} {w0 W : World} (h : Rdk X w0 d A c B k) (hb : Below w0.heap.size w0 W) : Rdk (Tn X w0 W) W d A c B k :=
  h.sameH (fun i hi ht => ⟨ht, fun h => absurd hi (by omega)⟩) hb.size fun i hi _ => hb.block i hi
theorem Rdk.untn {X : Nat → Prop} {w0 w5 : World} (h : Rdk (Tn X w0 w5) W d A c B k) (hlo : w0.heap.size ≤ g) (hg : g < w5.heap.size) : Rdk (fun j => X j ∧ j ≠ g) W d A c B k :=
  h.weak fun i _ ht => ⟨ht.1, fun e => by have := ht.2 (e ▸ hlo); omega⟩
theorem Rdk.untn0 {X : Nat → Prop} {w0 w5 : World} (h : Rdk (Tn X w0 w5) W d A c B k) : Rdk X W d A c B k := h.weak fun _ _ ht => ht.1
theorem Rdk.alloc {X : Nat → Prop} (h : Rdk X W d A c B k) (o : Obj) : Rdk (fun j => X j ∧ j ≠ W.heap.size) (W.alloc o) d A c B k :=
  (h.weak fun i hi ht => ⟨ht, Nat.ne_of_lt hi⟩ : Rdk (fun j => X j ∧ j ≠ W.heap.size) W d A c B k).below (below_new W o)
theorem Rdk.st5 {X : Nat → Prop} (h : Rdk (fun j => X j ∧ j ≠ g) W d A c B k) (x y z u v : Value) : Rdk (fun j => X j ∧ j ≠ g) (((((W.setCell ⟨g, 0, none⟩ x).setCell ⟨g, 1, none⟩ y).setCell ⟨g, 2, none⟩ z).setCell ⟨g, 3, none⟩ u).setCell ⟨g, 4, none⟩ v) d A c B k := by
  have hw : Wr W (((((W.setCell ⟨g, 0, none⟩ x).setCell ⟨g, 1, none⟩ y).setCell ⟨g, 2, none⟩ z).setCell ⟨g, 3, none⟩ u).setCell ⟨g, 4, none⟩ v) g := (((((Wr.refl _ _).set_ 0 _).set_ 1 _).set_ 2 _).set_ 3 _).set_ 4 _
  exact h.sameH (fun _ _ ht => ht) hw.size fun j hj ht => hw.block j hj fun e => ht.2 (by injection e)
end
set_option maxRecDepth 100000 in
set_option maxHeartbeats 4000000 in
theorem R29Keep_any {T : Nat → Prop} {A B : Option Addr} {c k : Nat} (d : Dk Bs) (sp bo n : Int) (L x : L3r) (w : World) (hT : ∀ k, w.heap.size ≤ k → T k) (h : Rdk T w d A c B k) (hl : d.sure.length + d.pend.length ≤ 400) (hf : d.fuse ≤ 9223372036854775807) (hr : Ris d.sure) (hu : fused bln d.shown ≤ 1000000000000) (hx : lck x = 0) :
    Calls Tryz.prog 148 #[.agg (rrg d A c B k sp bo L n), lv x.1 x.2.1 x.2.2] w fun e w' => GvR T w w' e (sPut bln ([] : Bs) d lname (lpt x)).1 sp bo (if (sPut bln ([] : Bs) d lname (lpt x)).2 = 0 then x else L) n (sPut bln ([] : Bs) d lname (lpt x)).2 := by
  have hS0 := KRk.begin hT h (rrg d A c B k sp bo L n) x
  have hpl := lpt_len hx
  obtain ⟨xo, xe, xu⟩ := x
  dsimp only at hS0 ⊢
  have HP := Lib.hid (fun W => rLPut_any xo xe xu W hx)
  have hpt : (lput xo xe xu).1 = lpt (xo, xe, xu) := rfl
  rw [hpt] at HP
  generalize lpt (xo, xe, xu) = p at *
  have HPut := Lib.hid (fun (T : Nat → Prop) (W : World) (hT : ∀ j, W.heap.size ≤ j → T j) (h : Rdk T W d A c B k) => KSPut_any d lname p W hT h hl hf (by decide) (by omega) hr hu)
  generalize sPut bln ([] : Bs) d lname p = r at *
  obtain ⟨d2, n2⟩ := r
  dsimp only at HPut ⊢
  unfold lname at HPut
  generalize hLf : (if n2 = 0 then ((xo, xe, xu) : L3r) else L) = Lf
  have HLf := Lib.hid hLf
  clear hLf
  clear hpt hpl hl hf hr hu hx h hT
  have HS0 := Lib.hid hS0
  clear hS0
  go_enter Tryz.func148, Tryz.ntmps148
  go_upto_region 1 with (fail)
  refine gen1 (T := fun W => KRk T w W d A c B k (xo, xe, xu) (rrg d A c B k sp bo L n)) HS0.out (fun w0 hS => ?_)
  clear HS0
  have HS := Lib.hid hS
  clear hS
  go_cut [6, 7] (fun y z wz => ∃ (g : Nat) (A2 : Option Addr) (c2 : Nat) (B2 : Option Addr) (k2 : Nat), y = .pointer (some ⟨g, 0, none⟩) ∧ z = .int .i64 (n2 : Nat) ∧ w0.heap.size ≤ g ∧ Blk wz g 85 (rda d2 A2 c2 B2 k2) ∧ Rdk (T4 T w.heap.size) wz d2 A2 c2 B2 k2 ∧ Below w0.heap.size w0 wz)
  case first =>
    have hst : Below w0.heap.size w0 w0.drew := Below.drew (Below.refl _ _)
    refine wp_region_held_drew (S := (fun W => Below w0.heap.size w0 W)) (by kernel_rfl) ?_ (fun hHeld => ?_)
    · exact hst
    refine gen0 (T := fun W => ((fun W => Below w0.heap.size w0 W)) W ∧ True) ?_ (fun wq1 hT => ?_)
    · exact ⟨by (with_reducible exact hst), trivial⟩
    (try clear f0 f1 f2 f3 f4 f5 f6 f7 f8 f9 f10 f11)
    obtain ⟨hHeld, -⟩ := hT
    refine wpAnyH_take (i := 0) (oi := ⟨some 9, _, _, _, _, _⟩) (v := ?_) rfl (by kernel_rfl) (by kernel_rfl) (by kernel_rfl) (fun _ _ _ h => h) (Or.inl ⟨by kernel_rfl, ?_⟩) (by assumption) ?_
    rotate_left
    · (intro wS hSw; (try dsimp only at hSw); have hq := HS.out.call hSw; have hq2 := hq.mm.b2; unfold rrg at hq2; obtain ⟨a0, a1, a2, a3, a4, -⟩ := hq2.elev; obtain ⟨x0, x1, x2, -, -, -⟩ := hq.mm.b1.three; dsimp only at x0 x1 x2; clear hq hq2 hSw; go_simp; (try with_reducible rfl))
    (try simp only [Act.put, List.setIfInBounds_toArray, List.set_cons_zero, List.set_cons_succ])
    refine wpAnyH_take (i := 1) (oi := ⟨some 10, _, _, _, _, _⟩) (v := ?_) rfl (by kernel_rfl) (by kernel_rfl) (by kernel_rfl) (fun _ _ _ h => h) (Or.inl ⟨by kernel_rfl, ?_⟩) (by assumption) ?_
    rotate_left
    · (intro wS hSw; (try dsimp only at hSw); have hq := HS.out.call hSw; have hq2 := hq.mm.b2; unfold rrg at hq2; obtain ⟨a0, a1, a2, a3, a4, -⟩ := hq2.elev; obtain ⟨x0, x1, x2, -, -, -⟩ := hq.mm.b1.three; dsimp only at x0 x1 x2; clear hq hq2 hSw; go_simp; (try with_reducible rfl))
    (try simp only [Act.put, List.setIfInBounds_toArray, List.set_cons_zero, List.set_cons_succ])
    refine wpAnyH_take (i := 2) (oi := ⟨some 11, _, _, _, _, _⟩) (v := ?_) rfl (by kernel_rfl) (by kernel_rfl) (by kernel_rfl) (fun _ _ _ h => h) (Or.inl ⟨by kernel_rfl, ?_⟩) (by assumption) ?_
    rotate_left
    · (intro wS hSw; (try dsimp only at hSw); have hq := HS.out.call hSw; have hq2 := hq.mm.b2; unfold rrg at hq2; obtain ⟨a0, a1, a2, a3, a4, -⟩ := hq2.elev; obtain ⟨x0, x1, x2, -, -, -⟩ := hq.mm.b1.three; dsimp only at x0 x1 x2; clear hq hq2 hSw; go_simp; (try with_reducible rfl))
    (try simp only [Act.put, List.setIfInBounds_toArray, List.set_cons_zero, List.set_cons_succ])
    refine wpAnyH_ready (rs := [3, 9]) (by kernel_rfl) (by simp) ?_
    refine AllReadyH.cons (o := ⟨some 12, _, _, _, _, _⟩) rfl (fun K hK => ?_) ?_
    · go_simp
      (refine (HP.out _).mono ?_; rintro e w9 ⟨A9, c9, m9, rfl, hm9, ho9, hb9⟩; have hq9 := hm9.out.symm; subst hq9)
      go_wp2_with fail
      refine hK.out _ _ ?_ (fun _ => ?_)
      · ((try dsimp only); (exact bel_call hHeld hb9))
      clear hK K
      (try simp only [Act.put, List.setIfInBounds_toArray, List.set_cons_zero, List.set_cons_succ])
      refine gen0 (T := fun W => ((fun W => Below w0.heap.size w0 W)) W ∧ SlB W A9 c9 p ∧ True) ?_ (fun wq2 hT => ?_)
      · exact ⟨by (exact bel_call hHeld hb9), by (exact Own.sl ho9), trivial⟩
      (try clear f0 f1 f2 f3 f4 f5 f6 f7 f8 f9 f10 f11)
      obtain ⟨hHeld, f0, -⟩ := hT
      refine wpAnyH_ready (rs := [4, 9]) (by kernel_rfl) (by simp) ?_
      refine AllReadyH.cons (o := ⟨some 13, _, _, _, _, _⟩) rfl (fun K hK => ?_) ?_
      · (try (have hcv := conv_str (P := Tryz.prog) 25 9 5 Tryz.underlying25 Tryz.underlying5 Tryz.underlying9 (n := p.length) f0 rfl)); go_simp
        refine hK.out _ _ ?_ (fun _ => ?_)
        · ((try dsimp only); (with_reducible exact hHeld))
        clear hK K
        (try simp only [Act.put, List.setIfInBounds_toArray, List.set_cons_zero, List.set_cons_succ])
        refine gen0 (T := fun W => ((fun W => Below w0.heap.size w0 W)) W ∧ True) ?_ (fun wq3 hT => ?_)
        · exact ⟨by (with_reducible exact hHeld), trivial⟩
        (try clear f0 f1 f2 f3 f4 f5 f6 f7 f8 f9 f10 f11)
        obtain ⟨hHeld, -⟩ := hT
        refine wpAnyH_ready (rs := [5, 9]) (by kernel_rfl) (by simp) ?_
        refine AllReadyH.cons (o := ⟨some 14, _, _, _, _, _⟩) rfl (fun K hK => ?_) ?_
        · go_simp
          (refine (HPut.out (Tn (T4 T w.heap.size) w0 _) _ (fun j hj => ⟨(HS.out.call hHeld).up4 j hj, fun _ => hj⟩) (HS.out.R.tn hHeld)).mono ?_; rintro e w9 ⟨A2, c2, B2, k2, rfl, hR9, hb9⟩; (try dsimp only at hR9); unfold rda)
          go_wp2_with fail
          refine hK.out _ _ ?_ (fun _ => ?_)
          · ((try dsimp only); (exact bel_call hHeld hb9))
          clear hK K
          (try simp only [Act.put, List.setIfInBounds_toArray, List.set_cons_zero, List.set_cons_succ])
          refine gen0 (T := fun W => ((fun W => Below w0.heap.size w0 W)) W ∧ Rdk (T4 T w.heap.size) W d2 A2 c2 B2 k2 ∧ True) ?_ (fun wq4 hT => ?_)
          · exact ⟨by (exact bel_call hHeld hb9), by (with_reducible exact Rdk.untn0 hR9), trivial⟩
          (try clear f0 f1 f2 f3 f4 f5 f6 f7 f8 f9 f10 f11)
          obtain ⟨hHeld, f0, -⟩ := hT
          refine wpAnyH_take (i := 6) (oi := ⟨some 8, _, _, _, _, _⟩) (v := ?_) rfl (by kernel_rfl) (by kernel_rfl) (by kernel_rfl) (fun _ _ _ h => h) (Or.inl ⟨by kernel_rfl, ?_⟩) (by assumption) ?_
          rotate_left
          · (intro wS hSw; (try dsimp only at hSw); have hq := HS.out.call hSw; have hq2 := hq.mm.b2; unfold rrg at hq2; obtain ⟨a0, a1, a2, a3, a4, -⟩ := hq2.elev; obtain ⟨x0, x1, x2, -, -, -⟩ := hq.mm.b1.three; dsimp only at x0 x1 x2; clear hq hq2 hSw; go_simp; (try with_reducible rfl))
          (try simp only [Act.put, List.setIfInBounds_toArray, List.set_cons_zero, List.set_cons_succ])
          refine wpAnyH_take (i := 7) (oi := ⟨some 15, _, _, _, _, _⟩) (v := ?_) rfl (by kernel_rfl) (by kernel_rfl) (by kernel_rfl) (fun _ _ _ h => h) (Or.inl ⟨by kernel_rfl, ?_⟩) (by assumption) ?_
          rotate_left
          · (intro wS hSw; (try dsimp only at hSw); have hq := HS.out.call hSw; have hq2 := hq.mm.b2; unfold rrg at hq2; obtain ⟨a0, a1, a2, a3, a4, -⟩ := hq2.elev; obtain ⟨x0, x1, x2, -, -, -⟩ := hq.mm.b1.three; dsimp only at x0 x1 x2; clear hq hq2 hSw; go_simp; (try with_reducible rfl))
          (try simp only [Act.put, List.setIfInBounds_toArray, List.set_cons_zero, List.set_cons_succ])
          refine wpAnyH_take (i := 8) (oi := ⟨some 16, _, _, _, _, _⟩) (v := ?_) rfl (by kernel_rfl) (by kernel_rfl) (by kernel_rfl) (fun _ _ _ h => h) (Or.inl ⟨by kernel_rfl, ?_⟩) (by assumption) ?_
          rotate_left
          · (intro wS hSw; (try dsimp only at hSw); have hq := HS.out.call hSw; have hq2 := hq.mm.b2; unfold rrg at hq2; obtain ⟨a0, a1, a2, a3, a4, -⟩ := hq2.elev; obtain ⟨x0, x1, x2, -, -, -⟩ := hq.mm.b1.three; dsimp only at x0 x1 x2; clear hq hq2 hSw; go_simp; (try with_reducible rfl))
          (try simp only [Act.put, List.setIfInBounds_toArray, List.set_cons_zero, List.set_cons_succ])
          refine wpAnyH_ready (rs := [9]) (by kernel_rfl) (by simp) ?_
          refine AllReadyH.cons (o := ⟨some 6, _, _, _, _, _⟩) rfl (fun K hK => ?_) AllReadyH.nil
          (try (have hcv := conv_str (P := Tryz.prog) 25 9 5 Tryz.underlying25 Tryz.underlying5 Tryz.underlying9 (n := p.length) f0 rfl)); go_simp
          refine hK.out _ _ ?_ (fun _ => ?_)
          · ((try dsimp only); (with_reducible exact bel_alloc hHeld _))
          clear hK K
          (try simp only [Act.put, List.setIfInBounds_toArray, List.set_cons_zero, List.set_cons_succ])
          refine gen0 (T := fun W => ((fun W => Below w0.heap.size w0 W)) W ∧ Blk W wq4.heap.size 85 #[.int .i64 0, .slice none 0 0, .slice none 0 0, .int .i64 0, .bool false] ∧ w0.heap.size ≤ wq4.heap.size ∧ Rdk (fun j => T4 T w.heap.size j ∧ j ≠ wq4.heap.size) W d2 A2 c2 B2 k2 ∧ True) ?_ (fun wq5 hT => ?_)
          · exact ⟨by (with_reducible exact bel_alloc hHeld _), by (with_reducible exact Blk.new _ _ _), by (with_reducible exact hHeld.size), by (with_reducible exact Rdk.alloc (by with_reducible assumption) _), trivial⟩
          (try clear f0 f1 f2 f3 f4 f5 f6 f7 f8 f9 f10 f11)
          obtain ⟨hHeld, f0, f1, f2, -⟩ := hT
          refine wpAnyH_ready (rs := [10]) (by kernel_rfl) (by simp) ?_
          refine AllReadyH.cons (o := ⟨none, _, _, _, _, _⟩) rfl (fun K hK => ?_) AllReadyH.nil
          obtain ⟨s0, s1, s2, s3, s4, s5, s6, s7, s8, s9⟩ := f0.fiveC
          (try (have hcv := conv_str (P := Tryz.prog) 25 9 5 Tryz.underlying25 Tryz.underlying5 Tryz.underlying9 (n := p.length) f0 rfl)); go_simp
          refine hK.out _ _ ?_ (fun _ => ?_)
          · ((try dsimp only); (with_reducible exact bel_st5 hHeld (by with_reducible assumption) _ _ _ _ _))
          clear hK K
          (try simp only [Act.put, List.setIfInBounds_toArray, List.set_cons_zero, List.set_cons_succ])
          refine gen0 (T := fun W => ((fun W => Below w0.heap.size w0 W)) W ∧ w0.heap.size ≤ wq4.heap.size ∧ Rdk (fun j => T4 T w.heap.size j ∧ j ≠ wq4.heap.size) W d2 A2 c2 B2 k2 ∧ Blk W wq4.heap.size 85 (rda d2 A2 c2 B2 k2) ∧ True) ?_ (fun wq6 hT => ?_)
          · exact ⟨by (with_reducible exact bel_st5 hHeld (by with_reducible assumption) _ _ _ _ _), by (with_reducible assumption), by (with_reducible exact Rdk.st5 f2 _ _ _ _ _), by ((with_reducible refine Blk.cast (((((Blk.set_ f0 0 _).set_ 1 _).set_ 2 _).set_ 3 _).set_ 4 _) ?_; kernel_rfl)), trivial⟩
          (try clear f0 f1 f2 f3 f4 f5 f6 f7 f8 f9 f10 f11)
          obtain ⟨hHeld, f0, f1, f2, -⟩ := hT
          refine wpAnyH_take (i := 11) (oi := ⟨some 7, _, _, _, _, _⟩) (v := ?_) rfl (by kernel_rfl) (by kernel_rfl) (by kernel_rfl) (fun _ _ _ h => h) (Or.inl ⟨by kernel_rfl, ?_⟩) (by assumption) ?_
          rotate_left
          · (intro wS hSw; (try dsimp only at hSw); have hq := HS.out.call hSw; have hq2 := hq.mm.b2; unfold rrg at hq2; obtain ⟨a0, a1, a2, a3, a4, -⟩ := hq2.elev; obtain ⟨x0, x1, x2, -, -, -⟩ := hq.mm.b1.three; dsimp only at x0 x1 x2; clear hq hq2 hSw; go_simp; (try with_reducible rfl))
          (try simp only [Act.put, List.setIfInBounds_toArray, List.set_cons_zero, List.set_cons_succ])
          refine wpAnyH_done (by kernel_rfl) ?_ _
          (go_wp2_with fail; go_meet; exact ⟨_, A2, c2, B2, k2, rfl, rfl, f0, f2, f1.weak (fun _ _ h => h.1), hHeld⟩)
        refine AllReadyH.cons (o := ⟨some 6, _, _, _, _, _⟩) rfl (fun K hK => ?_) ?_
        · (try (have hcv := conv_str (P := Tryz.prog) 25 9 5 Tryz.underlying25 Tryz.underlying5 Tryz.underlying9 (n := p.length) f0 rfl)); go_simp
          refine hK.out _ _ ?_ (fun _ => ?_)
          · ((try dsimp only); (with_reducible exact bel_alloc hHeld _))
          clear hK K
          (try simp only [Act.put, List.setIfInBounds_toArray, List.set_cons_zero, List.set_cons_succ])
          refine gen0 (T := fun W => ((fun W => Below w0.heap.size w0 W)) W ∧ Blk W wq3.heap.size 85 #[.int .i64 0, .slice none 0 0, .slice none 0 0, .int .i64 0, .bool false] ∧ w0.heap.size ≤ wq3.heap.size ∧ True) ?_ (fun wq7 hT => ?_)
          · exact ⟨by (with_reducible exact bel_alloc hHeld _), by (with_reducible exact Blk.new _ _ _), by (with_reducible exact hHeld.size), trivial⟩
          (try clear f0 f1 f2 f3 f4 f5 f6 f7 f8 f9 f10 f11)
          obtain ⟨hHeld, f0, f1, -⟩ := hT
          refine wpAnyH_ready (rs := [5]) (by kernel_rfl) (by simp) ?_
          refine AllReadyH.cons (o := ⟨some 14, _, _, _, _, _⟩) rfl (fun K hK => ?_) AllReadyH.nil
          go_simp
          (refine (HPut.out (Tn (T4 T w.heap.size) w0 _) _ (fun j hj => ⟨(HS.out.call hHeld).up4 j hj, fun _ => hj⟩) (HS.out.R.tn hHeld)).mono ?_; rintro e w9 ⟨A2, c2, B2, k2, rfl, hR9, hb9⟩; (try dsimp only at hR9); unfold rda)
          go_wp2_with fail
          refine hK.out _ _ ?_ (fun _ => ?_)
          · ((try dsimp only); (exact bel_call hHeld hb9))
          clear hK K
          (try simp only [Act.put, List.setIfInBounds_toArray, List.set_cons_zero, List.set_cons_succ])
          refine gen0 (T := fun W => ((fun W => Below w0.heap.size w0 W)) W ∧ Blk W wq3.heap.size 85 #[.int .i64 0, .slice none 0 0, .slice none 0 0, .int .i64 0, .bool false] ∧ w0.heap.size ≤ wq3.heap.size ∧ Rdk (fun j => T4 T w.heap.size j ∧ j ≠ wq3.heap.size) W d2 A2 c2 B2 k2 ∧ True) ?_ (fun wq8 hT => ?_)
          · exact ⟨by (exact bel_call hHeld hb9), by (with_reducible exact Blk.below (by with_reducible assumption) hb9), by (with_reducible assumption), by (with_reducible exact Rdk.untn hR9 (by with_reducible assumption) (Blk.lt (by with_reducible assumption))), trivial⟩
          (try clear f0 f1 f2 f3 f4 f5 f6 f7 f8 f9 f10 f11)
          obtain ⟨hHeld, f0, f1, f2, -⟩ := hT
          refine wpAnyH_take (i := 6) (oi := ⟨some 8, _, _, _, _, _⟩) (v := ?_) rfl (by kernel_rfl) (by kernel_rfl) (by kernel_rfl) (fun _ _ _ h => h) (Or.inl ⟨by kernel_rfl, ?_⟩) (by assumption) ?_
          rotate_left
          · (intro wS hSw; (try dsimp only at hSw); have hq := HS.out.call hSw; have hq2 := hq.mm.b2; unfold rrg at hq2; obtain ⟨a0, a1, a2, a3, a4, -⟩ := hq2.elev; obtain ⟨x0, x1, x2, -, -, -⟩ := hq.mm.b1.three; dsimp only at x0 x1 x2; clear hq hq2 hSw; go_simp; (try with_reducible rfl))
          (try simp only [Act.put, List.setIfInBounds_toArray, List.set_cons_zero, List.set_cons_succ])
          refine wpAnyH_take (i := 7) (oi := ⟨some 15, _, _, _, _, _⟩) (v := ?_) rfl (by kernel_rfl) (by kernel_rfl) (by kernel_rfl) (fun _ _ _ h => h) (Or.inl ⟨by kernel_rfl, ?_⟩) (by assumption) ?_
          rotate_left
          · (intro wS hSw; (try dsimp only at hSw); have hq := HS.out.call hSw; have hq2 := hq.mm.b2; unfold rrg at hq2; obtain ⟨a0, a1, a2, a3, a4, -⟩ := hq2.elev; obtain ⟨x0, x1, x2, -, -, -⟩ := hq.mm.b1.three; dsimp only at x0 x1 x2; clear hq hq2 hSw; go_simp; (try with_reducible rfl))
          (try simp only [Act.put, List.setIfInBounds_toArray, List.set_cons_zero, List.set_cons_succ])
          refine wpAnyH_take (i := 8) (oi := ⟨some 16, _, _, _, _, _⟩) (v := ?_) rfl (by kernel_rfl) (by kernel_rfl) (by kernel_rfl) (fun _ _ _ h => h) (Or.inl ⟨by kernel_rfl, ?_⟩) (by assumption) ?_
          rotate_left
          · (intro wS hSw; (try dsimp only at hSw); have hq := HS.out.call hSw; have hq2 := hq.mm.b2; unfold rrg at hq2; obtain ⟨a0, a1, a2, a3, a4, -⟩ := hq2.elev; obtain ⟨x0, x1, x2, -, -, -⟩ := hq.mm.b1.three; dsimp only at x0 x1 x2; clear hq hq2 hSw; go_simp; (try with_reducible rfl))
          (try simp only [Act.put, List.setIfInBounds_toArray, List.set_cons_zero, List.set_cons_succ])
          refine wpAnyH_ready (rs := [10]) (by kernel_rfl) (by simp) ?_
          refine AllReadyH.cons (o := ⟨none, _, _, _, _, _⟩) rfl (fun K hK => ?_) AllReadyH.nil
          obtain ⟨s0, s1, s2, s3, s4, s5, s6, s7, s8, s9⟩ := f0.fiveC
          (try (have hcv := conv_str (P := Tryz.prog) 25 9 5 Tryz.underlying25 Tryz.underlying5 Tryz.underlying9 (n := p.length) f0 rfl)); go_simp
          refine hK.out _ _ ?_ (fun _ => ?_)
          · ((try dsimp only); (with_reducible exact bel_st5 hHeld (by with_reducible assumption) _ _ _ _ _))
          clear hK K
          (try simp only [Act.put, List.setIfInBounds_toArray, List.set_cons_zero, List.set_cons_succ])
          refine gen0 (T := fun W => ((fun W => Below w0.heap.size w0 W)) W ∧ w0.heap.size ≤ wq3.heap.size ∧ Rdk (fun j => T4 T w.heap.size j ∧ j ≠ wq3.heap.size) W d2 A2 c2 B2 k2 ∧ Blk W wq3.heap.size 85 (rda d2 A2 c2 B2 k2) ∧ True) ?_ (fun wq9 hT => ?_)
          · exact ⟨by (with_reducible exact bel_st5 hHeld (by with_reducible assumption) _ _ _ _ _), by (with_reducible assumption), by (with_reducible exact Rdk.st5 f2 _ _ _ _ _), by ((with_reducible refine Blk.cast (((((Blk.set_ f0 0 _).set_ 1 _).set_ 2 _).set_ 3 _).set_ 4 _) ?_; kernel_rfl)), trivial⟩
          (try clear f0 f1 f2 f3 f4 f5 f6 f7 f8 f9 f10 f11)
          obtain ⟨hHeld, f0, f1, f2, -⟩ := hT
          refine wpAnyH_take (i := 11) (oi := ⟨some 7, _, _, _, _, _⟩) (v := ?_) rfl (by kernel_rfl) (by kernel_rfl) (by kernel_rfl) (fun _ _ _ h => h) (Or.inl ⟨by kernel_rfl, ?_⟩) (by assumption) ?_
          rotate_left
          · (intro wS hSw; (try dsimp only at hSw); have hq := HS.out.call hSw; have hq2 := hq.mm.b2; unfold rrg at hq2; obtain ⟨a0, a1, a2, a3, a4, -⟩ := hq2.elev; obtain ⟨x0, x1, x2, -, -, -⟩ := hq.mm.b1.three; dsimp only at x0 x1 x2; clear hq hq2 hSw; go_simp; (try with_reducible rfl))
          (try simp only [Act.put, List.setIfInBounds_toArray, List.set_cons_zero, List.set_cons_succ])
          refine wpAnyH_done (by kernel_rfl) ?_ _
          (go_wp2_with fail; go_meet; exact ⟨_, A2, c2, B2, k2, rfl, rfl, f0, f2, f1.weak (fun _ _ h => h.1), hHeld⟩)
        exact AllReadyH.nil
      refine AllReadyH.cons (o := ⟨some 6, _, _, _, _, _⟩) rfl (fun K hK => ?_) ?_
      · (try (have hcv := conv_str (P := Tryz.prog) 25 9 5 Tryz.underlying25 Tryz.underlying5 Tryz.underlying9 (n := p.length) f0 rfl)); go_simp
        refine hK.out _ _ ?_ (fun _ => ?_)
        · ((try dsimp only); (with_reducible exact bel_alloc hHeld _))
        clear hK K
        (try simp only [Act.put, List.setIfInBounds_toArray, List.set_cons_zero, List.set_cons_succ])
        refine gen0 (T := fun W => ((fun W => Below w0.heap.size w0 W)) W ∧ SlB W A9 c9 p ∧ Blk W wq2.heap.size 85 #[.int .i64 0, .slice none 0 0, .slice none 0 0, .int .i64 0, .bool false] ∧ w0.heap.size ≤ wq2.heap.size ∧ True) ?_ (fun wq10 hT => ?_)
        · exact ⟨by (with_reducible exact bel_alloc hHeld _), by (exact Sl.below f0 (below_new _ _)), by (with_reducible exact Blk.new _ _ _), by (with_reducible exact hHeld.size), trivial⟩
        (try clear f0 f1 f2 f3 f4 f5 f6 f7 f8 f9 f10 f11)
        obtain ⟨hHeld, f0, f1, f2, -⟩ := hT
        refine wpAnyH_ready (rs := [4]) (by kernel_rfl) (by simp) ?_
        refine AllReadyH.cons (o := ⟨some 13, _, _, _, _, _⟩) rfl (fun K hK => ?_) AllReadyH.nil
        (try (have hcv := conv_str (P := Tryz.prog) 25 9 5 Tryz.underlying25 Tryz.underlying5 Tryz.underlying9 (n := p.length) f0 rfl)); go_simp
        refine hK.out _ _ ?_ (fun _ => ?_)
        · ((try dsimp only); (with_reducible exact hHeld))
        clear hK K
        (try simp only [Act.put, List.setIfInBounds_toArray, List.set_cons_zero, List.set_cons_succ])
        refine gen0 (T := fun W => ((fun W => Below w0.heap.size w0 W)) W ∧ Blk W wq2.heap.size 85 #[.int .i64 0, .slice none 0 0, .slice none 0 0, .int .i64 0, .bool false] ∧ w0.heap.size ≤ wq2.heap.size ∧ True) ?_ (fun wq11 hT => ?_)
        · exact ⟨by (with_reducible exact hHeld), by (with_reducible assumption), by (with_reducible assumption), trivial⟩
        (try clear f0 f1 f2 f3 f4 f5 f6 f7 f8 f9 f10 f11)
        obtain ⟨hHeld, f0, f1, -⟩ := hT
        refine wpAnyH_ready (rs := [5]) (by kernel_rfl) (by simp) ?_
        refine AllReadyH.cons (o := ⟨some 14, _, _, _, _, _⟩) rfl (fun K hK => ?_) AllReadyH.nil
        go_simp
        (refine (HPut.out (Tn (T4 T w.heap.size) w0 _) _ (fun j hj => ⟨(HS.out.call hHeld).up4 j hj, fun _ => hj⟩) (HS.out.R.tn hHeld)).mono ?_; rintro e w9 ⟨A2, c2, B2, k2, rfl, hR9, hb9⟩; (try dsimp only at hR9); unfold rda)
        go_wp2_with fail
        refine hK.out _ _ ?_ (fun _ => ?_)
        · ((try dsimp only); (exact bel_call hHeld hb9))
        clear hK K
        (try simp only [Act.put, List.setIfInBounds_toArray, List.set_cons_zero, List.set_cons_succ])
        refine gen0 (T := fun W => ((fun W => Below w0.heap.size w0 W)) W ∧ Blk W wq2.heap.size 85 #[.int .i64 0, .slice none 0 0, .slice none 0 0, .int .i64 0, .bool false] ∧ w0.heap.size ≤ wq2.heap.size ∧ Rdk (fun j => T4 T w.heap.size j ∧ j ≠ wq2.heap.size) W d2 A2 c2 B2 k2 ∧ True) ?_ (fun wq12 hT => ?_)
        · exact ⟨by (exact bel_call hHeld hb9), by (with_reducible exact Blk.below (by with_reducible assumption) hb9), by (with_reducible assumption), by (with_reducible exact Rdk.untn hR9 (by with_reducible assumption) (Blk.lt (by with_reducible assumption))), trivial⟩
        (try clear f0 f1 f2 f3 f4 f5 f6 f7 f8 f9 f10 f11)
        obtain ⟨hHeld, f0, f1, f2, -⟩ := hT
        refine wpAnyH_take (i := 6) (oi := ⟨some 8, _, _, _, _, _⟩) (v := ?_) rfl (by kernel_rfl) (by kernel_rfl) (by kernel_rfl) (fun _ _ _ h => h) (Or.inl ⟨by kernel_rfl, ?_⟩) (by assumption) ?_
        rotate_left
        · (intro wS hSw; (try dsimp only at hSw); have hq := HS.out.call hSw; have hq2 := hq.mm.b2; unfold rrg at hq2; obtain ⟨a0, a1, a2, a3, a4, -⟩ := hq2.elev; obtain ⟨x0, x1, x2, -, -, -⟩ := hq.mm.b1.three; dsimp only at x0 x1 x2; clear hq hq2 hSw; go_simp; (try with_reducible rfl))
        (try simp only [Act.put, List.setIfInBounds_toArray, List.set_cons_zero, List.set_cons_succ])
        refine wpAnyH_take (i := 7) (oi := ⟨some 15, _, _, _, _, _⟩) (v := ?_) rfl (by kernel_rfl) (by kernel_rfl) (by kernel_rfl) (fun _ _ _ h => h) (Or.inl ⟨by kernel_rfl, ?_⟩) (by assumption) ?_
        rotate_left
        · (intro wS hSw; (try dsimp only at hSw); have hq := HS.out.call hSw; have hq2 := hq.mm.b2; unfold rrg at hq2; obtain ⟨a0, a1, a2, a3, a4, -⟩ := hq2.elev; obtain ⟨x0, x1, x2, -, -, -⟩ := hq.mm.b1.three; dsimp only at x0 x1 x2; clear hq hq2 hSw; go_simp; (try with_reducible rfl))
        (try simp only [Act.put, List.setIfInBounds_toArray, List.set_cons_zero, List.set_cons_succ])
        refine wpAnyH_take (i := 8) (oi := ⟨some 16, _, _, _, _, _⟩) (v := ?_) rfl (by kernel_rfl) (by kernel_rfl) (by kernel_rfl) (fun _ _ _ h => h) (Or.inl ⟨by kernel_rfl, ?_⟩) (by assumption) ?_
        rotate_left
        · (intro wS hSw; (try dsimp only at hSw); have hq := HS.out.call hSw; have hq2 := hq.mm.b2; unfold rrg at hq2; obtain ⟨a0, a1, a2, a3, a4, -⟩ := hq2.elev; obtain ⟨x0, x1, x2, -, -, -⟩ := hq.mm.b1.three; dsimp only at x0 x1 x2; clear hq hq2 hSw; go_simp; (try with_reducible rfl))
        (try simp only [Act.put, List.setIfInBounds_toArray, List.set_cons_zero, List.set_cons_succ])
        refine wpAnyH_ready (rs := [10]) (by kernel_rfl) (by simp) ?_
        refine AllReadyH.cons (o := ⟨none, _, _, _, _, _⟩) rfl (fun K hK => ?_) AllReadyH.nil
        obtain ⟨s0, s1, s2, s3, s4, s5, s6, s7, s8, s9⟩ := f0.fiveC
        (try (have hcv := conv_str (P := Tryz.prog) 25 9 5 Tryz.underlying25 Tryz.underlying5 Tryz.underlying9 (n := p.length) f0 rfl)); go_simp
        refine hK.out _ _ ?_ (fun _ => ?_)
        · ((try dsimp only); (with_reducible exact bel_st5 hHeld (by with_reducible assumption) _ _ _ _ _))
        clear hK K
        (try simp only [Act.put, List.setIfInBounds_toArray, List.set_cons_zero, List.set_cons_succ])
        refine gen0 (T := fun W => ((fun W => Below w0.heap.size w0 W)) W ∧ w0.heap.size ≤ wq2.heap.size ∧ Rdk (fun j => T4 T w.heap.size j ∧ j ≠ wq2.heap.size) W d2 A2 c2 B2 k2 ∧ Blk W wq2.heap.size 85 (rda d2 A2 c2 B2 k2) ∧ True) ?_ (fun wq13 hT => ?_)
        · exact ⟨by (with_reducible exact bel_st5 hHeld (by with_reducible assumption) _ _ _ _ _), by (with_reducible assumption), by (with_reducible exact Rdk.st5 f2 _ _ _ _ _), by ((with_reducible refine Blk.cast (((((Blk.set_ f0 0 _).set_ 1 _).set_ 2 _).set_ 3 _).set_ 4 _) ?_; kernel_rfl)), trivial⟩
        (try clear f0 f1 f2 f3 f4 f5 f6 f7 f8 f9 f10 f11)
        obtain ⟨hHeld, f0, f1, f2, -⟩ := hT
        refine wpAnyH_take (i := 11) (oi := ⟨some 7, _, _, _, _, _⟩) (v := ?_) rfl (by kernel_rfl) (by kernel_rfl) (by kernel_rfl) (fun _ _ _ h => h) (Or.inl ⟨by kernel_rfl, ?_⟩) (by assumption) ?_
        rotate_left
        · (intro wS hSw; (try dsimp only at hSw); have hq := HS.out.call hSw; have hq2 := hq.mm.b2; unfold rrg at hq2; obtain ⟨a0, a1, a2, a3, a4, -⟩ := hq2.elev; obtain ⟨x0, x1, x2, -, -, -⟩ := hq.mm.b1.three; dsimp only at x0 x1 x2; clear hq hq2 hSw; go_simp; (try with_reducible rfl))
        (try simp only [Act.put, List.setIfInBounds_toArray, List.set_cons_zero, List.set_cons_succ])
        refine wpAnyH_done (by kernel_rfl) ?_ _
        (go_wp2_with fail; go_meet; exact ⟨_, A2, c2, B2, k2, rfl, rfl, f0, f2, f1.weak (fun _ _ h => h.1), hHeld⟩)
      exact AllReadyH.nil
    refine AllReadyH.cons (o := ⟨some 6, _, _, _, _, _⟩) rfl (fun K hK => ?_) ?_
    · (try (have hcv := conv_str (P := Tryz.prog) 25 9 5 Tryz.underlying25 Tryz.underlying5 Tryz.underlying9 (n := p.length) f0 rfl)); go_simp
      refine hK.out _ _ ?_ (fun _ => ?_)
      · ((try dsimp only); (with_reducible exact bel_alloc hHeld _))
      clear hK K
      (try simp only [Act.put, List.setIfInBounds_toArray, List.set_cons_zero, List.set_cons_succ])
      refine gen0 (T := fun W => ((fun W => Below w0.heap.size w0 W)) W ∧ Blk W wq1.heap.size 85 #[.int .i64 0, .slice none 0 0, .slice none 0 0, .int .i64 0, .bool false] ∧ w0.heap.size ≤ wq1.heap.size ∧ True) ?_ (fun wq14 hT => ?_)
      · exact ⟨by (with_reducible exact bel_alloc hHeld _), by (with_reducible exact Blk.new _ _ _), by (with_reducible exact hHeld.size), trivial⟩
      (try clear f0 f1 f2 f3 f4 f5 f6 f7 f8 f9 f10 f11)
      obtain ⟨hHeld, f0, f1, -⟩ := hT
      refine wpAnyH_ready (rs := [3]) (by kernel_rfl) (by simp) ?_
      refine AllReadyH.cons (o := ⟨some 12, _, _, _, _, _⟩) rfl (fun K hK => ?_) AllReadyH.nil
      go_simp
      (refine (HP.out _).mono ?_; rintro e w9 ⟨A9, c9, m9, rfl, hm9, ho9, hb9⟩; have hq9 := hm9.out.symm; subst hq9)
      go_wp2_with fail
      refine hK.out _ _ ?_ (fun _ => ?_)
      · ((try dsimp only); (exact bel_call hHeld hb9))
      clear hK K
      (try simp only [Act.put, List.setIfInBounds_toArray, List.set_cons_zero, List.set_cons_succ])
      refine gen0 (T := fun W => ((fun W => Below w0.heap.size w0 W)) W ∧ SlB W A9 c9 p ∧ Blk W wq1.heap.size 85 #[.int .i64 0, .slice none 0 0, .slice none 0 0, .int .i64 0, .bool false] ∧ w0.heap.size ≤ wq1.heap.size ∧ True) ?_ (fun wq15 hT => ?_)
      · exact ⟨by (exact bel_call hHeld hb9), by (exact Own.sl ho9), by (with_reducible exact Blk.below (by with_reducible assumption) hb9), by (with_reducible assumption), trivial⟩
      (try clear f0 f1 f2 f3 f4 f5 f6 f7 f8 f9 f10 f11)
      obtain ⟨hHeld, f0, f1, f2, -⟩ := hT
      refine wpAnyH_ready (rs := [4]) (by kernel_rfl) (by simp) ?_
      refine AllReadyH.cons (o := ⟨some 13, _, _, _, _, _⟩) rfl (fun K hK => ?_) AllReadyH.nil
      (try (have hcv := conv_str (P := Tryz.prog) 25 9 5 Tryz.underlying25 Tryz.underlying5 Tryz.underlying9 (n := p.length) f0 rfl)); go_simp
      refine hK.out _ _ ?_ (fun _ => ?_)
      · ((try dsimp only); (with_reducible exact hHeld))
      clear hK K
      (try simp only [Act.put, List.setIfInBounds_toArray, List.set_cons_zero, List.set_cons_succ])
      refine gen0 (T := fun W => ((fun W => Below w0.heap.size w0 W)) W ∧ Blk W wq1.heap.size 85 #[.int .i64 0, .slice none 0 0, .slice none 0 0, .int .i64 0, .bool false] ∧ w0.heap.size ≤ wq1.heap.size ∧ True) ?_ (fun wq16 hT => ?_)
      · exact ⟨by (with_reducible exact hHeld), by (with_reducible assumption), by (with_reducible assumption), trivial⟩
      (try clear f0 f1 f2 f3 f4 f5 f6 f7 f8 f9 f10 f11)
      obtain ⟨hHeld, f0, f1, -⟩ := hT
      refine wpAnyH_ready (rs := [5]) (by kernel_rfl) (by simp) ?_
      refine AllReadyH.cons (o := ⟨some 14, _, _, _, _, _⟩) rfl (fun K hK => ?_) AllReadyH.nil
      go_simp
      (refine (HPut.out (Tn (T4 T w.heap.size) w0 _) _ (fun j hj => ⟨(HS.out.call hHeld).up4 j hj, fun _ => hj⟩) (HS.out.R.tn hHeld)).mono ?_; rintro e w9 ⟨A2, c2, B2, k2, rfl, hR9, hb9⟩; (try dsimp only at hR9); unfold rda)
      go_wp2_with fail
      refine hK.out _ _ ?_ (fun _ => ?_)
      · ((try dsimp only); (exact bel_call hHeld hb9))
      clear hK K
      (try simp only [Act.put, List.setIfInBounds_toArray, List.set_cons_zero, List.set_cons_succ])
      refine gen0 (T := fun W => ((fun W => Below w0.heap.size w0 W)) W ∧ Blk W wq1.heap.size 85 #[.int .i64 0, .slice none 0 0, .slice none 0 0, .int .i64 0, .bool false] ∧ w0.heap.size ≤ wq1.heap.size ∧ Rdk (fun j => T4 T w.heap.size j ∧ j ≠ wq1.heap.size) W d2 A2 c2 B2 k2 ∧ True) ?_ (fun wq17 hT => ?_)
      · exact ⟨by (exact bel_call hHeld hb9), by (with_reducible exact Blk.below (by with_reducible assumption) hb9), by (with_reducible assumption), by (with_reducible exact Rdk.untn hR9 (by with_reducible assumption) (Blk.lt (by with_reducible assumption))), trivial⟩
      (try clear f0 f1 f2 f3 f4 f5 f6 f7 f8 f9 f10 f11)
      obtain ⟨hHeld, f0, f1, f2, -⟩ := hT
      refine wpAnyH_take (i := 6) (oi := ⟨some 8, _, _, _, _, _⟩) (v := ?_) rfl (by kernel_rfl) (by kernel_rfl) (by kernel_rfl) (fun _ _ _ h => h) (Or.inl ⟨by kernel_rfl, ?_⟩) (by assumption) ?_
      rotate_left
      · (intro wS hSw; (try dsimp only at hSw); have hq := HS.out.call hSw; have hq2 := hq.mm.b2; unfold rrg at hq2; obtain ⟨a0, a1, a2, a3, a4, -⟩ := hq2.elev; obtain ⟨x0, x1, x2, -, -, -⟩ := hq.mm.b1.three; dsimp only at x0 x1 x2; clear hq hq2 hSw; go_simp; (try with_reducible rfl))
      (try simp only [Act.put, List.setIfInBounds_toArray, List.set_cons_zero, List.set_cons_succ])
      refine wpAnyH_take (i := 7) (oi := ⟨some 15, _, _, _, _, _⟩) (v := ?_) rfl (by kernel_rfl) (by kernel_rfl) (by kernel_rfl) (fun _ _ _ h => h) (Or.inl ⟨by kernel_rfl, ?_⟩) (by assumption) ?_
      rotate_left
      · (intro wS hSw; (try dsimp only at hSw); have hq := HS.out.call hSw; have hq2 := hq.mm.b2; unfold rrg at hq2; obtain ⟨a0, a1, a2, a3, a4, -⟩ := hq2.elev; obtain ⟨x0, x1, x2, -, -, -⟩ := hq.mm.b1.three; dsimp only at x0 x1 x2; clear hq hq2 hSw; go_simp; (try with_reducible rfl))
      (try simp only [Act.put, List.setIfInBounds_toArray, List.set_cons_zero, List.set_cons_succ])
      refine wpAnyH_take (i := 8) (oi := ⟨some 16, _, _, _, _, _⟩) (v := ?_) rfl (by kernel_rfl) (by kernel_rfl) (by kernel_rfl) (fun _ _ _ h => h) (Or.inl ⟨by kernel_rfl, ?_⟩) (by assumption) ?_
      rotate_left
      · (intro wS hSw; (try dsimp only at hSw); have hq := HS.out.call hSw; have hq2 := hq.mm.b2; unfold rrg at hq2; obtain ⟨a0, a1, a2, a3, a4, -⟩ := hq2.elev; obtain ⟨x0, x1, x2, -, -, -⟩ := hq.mm.b1.three; dsimp only at x0 x1 x2; clear hq hq2 hSw; go_simp; (try with_reducible rfl))
      (try simp only [Act.put, List.setIfInBounds_toArray, List.set_cons_zero, List.set_cons_succ])
      refine wpAnyH_ready (rs := [10]) (by kernel_rfl) (by simp) ?_
      refine AllReadyH.cons (o := ⟨none, _, _, _, _, _⟩) rfl (fun K hK => ?_) AllReadyH.nil
      obtain ⟨s0, s1, s2, s3, s4, s5, s6, s7, s8, s9⟩ := f0.fiveC
      (try (have hcv := conv_str (P := Tryz.prog) 25 9 5 Tryz.underlying25 Tryz.underlying5 Tryz.underlying9 (n := p.length) f0 rfl)); go_simp
      refine hK.out _ _ ?_ (fun _ => ?_)
      · ((try dsimp only); (with_reducible exact bel_st5 hHeld (by with_reducible assumption) _ _ _ _ _))
      clear hK K
      (try simp only [Act.put, List.setIfInBounds_toArray, List.set_cons_zero, List.set_cons_succ])
      refine gen0 (T := fun W => ((fun W => Below w0.heap.size w0 W)) W ∧ w0.heap.size ≤ wq1.heap.size ∧ Rdk (fun j => T4 T w.heap.size j ∧ j ≠ wq1.heap.size) W d2 A2 c2 B2 k2 ∧ Blk W wq1.heap.size 85 (rda d2 A2 c2 B2 k2) ∧ True) ?_ (fun wq18 hT => ?_)
      · exact ⟨by (with_reducible exact bel_st5 hHeld (by with_reducible assumption) _ _ _ _ _), by (with_reducible assumption), by (with_reducible exact Rdk.st5 f2 _ _ _ _ _), by ((with_reducible refine Blk.cast (((((Blk.set_ f0 0 _).set_ 1 _).set_ 2 _).set_ 3 _).set_ 4 _) ?_; kernel_rfl)), trivial⟩
      (try clear f0 f1 f2 f3 f4 f5 f6 f7 f8 f9 f10 f11)
      obtain ⟨hHeld, f0, f1, f2, -⟩ := hT
      refine wpAnyH_take (i := 11) (oi := ⟨some 7, _, _, _, _, _⟩) (v := ?_) rfl (by kernel_rfl) (by kernel_rfl) (by kernel_rfl) (fun _ _ _ h => h) (Or.inl ⟨by kernel_rfl, ?_⟩) (by assumption) ?_
      rotate_left
      · (intro wS hSw; (try dsimp only at hSw); have hq := HS.out.call hSw; have hq2 := hq.mm.b2; unfold rrg at hq2; obtain ⟨a0, a1, a2, a3, a4, -⟩ := hq2.elev; obtain ⟨x0, x1, x2, -, -, -⟩ := hq.mm.b1.three; dsimp only at x0 x1 x2; clear hq hq2 hSw; go_simp; (try with_reducible rfl))
      (try simp only [Act.put, List.setIfInBounds_toArray, List.set_cons_zero, List.set_cons_succ])
      refine wpAnyH_done (by kernel_rfl) ?_ _
      (go_wp2_with fail; go_meet; exact ⟨_, A2, c2, B2, k2, rfl, rfl, f0, f2, f1.weak (fun _ _ h => h.1), hHeld⟩)
    exact AllReadyH.nil
  case rest =>
    obtain ⟨g, A2, c2, B2, k2, rfl, rfl, hlo, hBl, hR2, hHeld⟩ := hcut
    have hS := HS.out.call hHeld
    have hne : w.heap.size ≠ g := by have := HS.out.mm.b2.lt; omega
    obtain ⟨b0, b1, b2, b3, b4, bf0, bf1, bf2, bf3, bf4⟩ := hBl.fiveC
    have ha := hS.mm.b2
    unfold rrg at ha
    obtain ⟨a0, a1, a2, a3, a4, -⟩ := ha.elev
    obtain ⟨af0, af1, af2, af3, af4, -⟩ := ha.frz
    have HS5 := Lib.hid (hS.disk hR2)
    unfold rrg at HS5
    clear ha hBl hR2 hHeld hS HS hlo
    go_upto_region 3 with (fail)
    refine gen1 (T := fun W => KRk T w W d2 A2 c2 B2 k2 (xo, xe, xu) _) HS5.out (fun w6 hS => ?_)
    clear a0 a1 a2 a3 a4 b0 b1 b2 b3 b4 bf0 bf1 bf2 bf3 bf4 af0 af1 af2 af3 af4 HS5 hne
    by_cases h0 : n2 = 0
    rotate_left
    · have hz : ((n2 : Int) == 0) = false := by simp; omega
      obtain ⟨a0, a1, a2, a3, a4, a5, a6, a7, a8, a9, a10⟩ := (hS).mm.b2.elev
      obtain ⟨af0, af1, af2, af3, af4, af5, af6, af7, af8, af9, af10⟩ := (hS).mm.b2.frz
      obtain ⟨r0, r1, r2, r3, r4, r5, r6, r7, r8, r9, r10⟩ := (hS).mm.b0.elev
      obtain ⟨rf0, rf1, rf2, rf3, rf4, rf5, rf6, rf7, rf8, rf9, rf10⟩ := (hS).mm.b0.frz
      obtain ⟨x0, x1, x2, -, -, -⟩ := (hS).mm.b1.three
      dsimp only at x0 x1 x2
      have HI := Lib.hid (show Lf = L from HLf.out.symm.trans (if_neg h0))
      have HS := Lib.hid hS
      clear hS h0
      go_wp2_with fail
      have HO := (HS.out).out (wr_setR _ (w.heap.size + 1 + 1) d2 A2 c2 B2 k2 sp bo L n)
      have HB := (HS.out).mm.b0.setR d2 A2 c2 B2 k2 sp bo L n
      unfold setR at HO HB
      unfold rrg at HB
      try dsimp only at HO HB
      exact bodyPost_ret (res_rr rfl rfl (g := w.heap.size + 1 + 1) HB) rfl (by rw [HI.out]; exact ⟨A2, c2, B2, k2, rfl, HO.1, HO.2⟩)
    subst h0
    have HI := Lib.hid (show Lf = (xo, xe, xu) from HLf.out.symm.trans (if_pos rfl))
    obtain ⟨a0, a1, a2, a3, a4, a5, a6, a7, a8, a9, a10⟩ := (hS).mm.b2.elev
    obtain ⟨af0, af1, af2, af3, af4, af5, af6, af7, af8, af9, af10⟩ := (hS).mm.b2.frz
    obtain ⟨r0, r1, r2, r3, r4, r5, r6, r7, r8, r9, r10⟩ := (hS).mm.b0.elev
    obtain ⟨rf0, rf1, rf2, rf3, rf4, rf5, rf6, rf7, rf8, rf9, rf10⟩ := (hS).mm.b0.frz
    obtain ⟨x0, x1, x2, -, -, -⟩ := (hS).mm.b1.three
    dsimp only at x0 x1 x2
    have HS6 := Lib.hid (KRk.set3 (d := d2) (A := A2) (c := c2) (B := B2) (k := k2) (sp := sp) (bo := bo) (n := n) (L := L) hS xo xe xu)
    unfold rrg at HS6
    clear hS
    go_upto_region 5 with (fail)
    refine gen1 (T := fun W => KRk T w W d2 A2 c2 B2 k2 (xo, xe, xu) _) HS6.out (fun w7 hS => ?_)
    clear a0 a1 a2 a3 a4 a5 a6 a7 a8 a9 a10 af0 af1 af2 af3 af4 af5 af6 af7 af8 af9 af10 r0 r1 r2 r3 r4 r5 r6 r7 r8 r9 r10 rf0 rf1 rf2 rf3 rf4 rf5 rf6 rf7 rf8 rf9 rf10 x0 x1 x2 HS6
    obtain ⟨a0, a1, a2, a3, a4, a5, a6, a7, a8, a9, a10⟩ := (hS).mm.b2.elev
    obtain ⟨af0, af1, af2, af3, af4, af5, af6, af7, af8, af9, af10⟩ := (hS).mm.b2.frz
    obtain ⟨r0, r1, r2, r3, r4, r5, r6, r7, r8, r9, r10⟩ := (hS).mm.b0.elev
    obtain ⟨rf0, rf1, rf2, rf3, rf4, rf5, rf6, rf7, rf8, rf9, rf10⟩ := (hS).mm.b0.frz
    obtain ⟨x0, x1, x2, -, -, -⟩ := (hS).mm.b1.three
    dsimp only at x0 x1 x2
    have HS := Lib.hid hS
    clear hS
    go_wp2_with fail
    have HO := (HS.out).out (wr_setR _ (w.heap.size + 1 + 1) d2 A2 c2 B2 k2 sp bo (xo, xe, xu) n)
    have HB := (HS.out).mm.b0.setR d2 A2 c2 B2 k2 sp bo (xo, xe, xu) n
    unfold setR at HO HB
    unfold rrg at HB
    try dsimp only at HO HB
    exact bodyPost_ret (res_rr rfl rfl (g := w.heap.size + 1 + 1) HB) rfl (by rw [HI.out]; exact ⟨A2, c2, B2, k2, rfl, HO.1, HO.2⟩)
end Go.Proofs.YtddmfoldnlafaaaGreatDoor
