/- WHAT IT HOLDS: the document's cursors saved: walked. | WHAT IT HOLDS: the document's Same of equal cursors, walked. | WHAT IT HOLDS: the document's taking of cursors, walked. | WHAT IT HOLDS: the document's Take and Prefix, and lists side by side, walked. -/
import Derived.Test.YtabnndjdkjkciaaGreatDoorCursorKeepsG26
import Derived.Test.YtabnndjdkjkciaaGreatDoorCursorKeepsG31
import Derived.Test.YtabnndjdkjkciaaGreatDoorCursorKeepsG18
namespace Go.Proofs.YtabnndjdkjkciaaGreatDoor
open Go.RowKit Go.Maps Go.Sort
attribute [local go_sem ↓] Go.wp_at_zero Go.wp_at_succ

/-- while the document's cursor is saved: the disk's block, the cursor's, the result's -/
structure K3 (T : Nat → Prop) (w W : World) (d : Dk Bs) (A : Option Addr) (c : Nat) (B : Option Addr) (k : Nat) (cs : Array Value) : Prop where
  mm : Mm w W [(w.heap.size + 2, 91, rdz), (w.heap.size + 1, 79, cs), (w.heap.size, 91, rda d A c B k)] []
  R : Rdk (T2 T (w.heap.size + 1)) W d A c B k
  up : ∀ j, w.heap.size ≤ j → T j
section
variable {T : Nat → Prop} {w W W' : World} {d d' : Dk Bs} {A A' B B' : Option Addr} {c c' k k' : Nat} {cs : Array Value}
theorem K3.up2 (h : K3 T w W d A c B k cs) : ∀ j, W.heap.size ≤ j → T2 T (w.heap.size + 1) j := fun j hj => by
  have := h.mm.b0.lt
  exact ⟨h.up j (by omega), by omega, by omega⟩
theorem K3.call (h : K3 T w W d A c B k cs) (hb : Below W.heap.size W W') : K3 T w W' d A c B k cs := ⟨h.mm.call hb, h.R.below hb, h.up⟩
theorem K3.drew (h : K3 T w W d A c B k cs) : K3 T w W.drew d A c B k cs := h.call (Below.drew (Below.refl _ _))
theorem K3.begin (hT : ∀ j, w.heap.size ≤ j → T j) (h : Rdk T w d A c B k) (cs : Array Value) : K3 T w (((w.alloc (.cells (rda d A c B k) 91)).alloc (.cells cs 79)).alloc (.cells rdz 91)) d A c B k cs := by
  have hM := (((Mm.start w).alloc (rda d A c B k) 91).alloc cs 79).alloc rdz 91
  have e1 : (w.alloc (.cells (rda d A c B k) 91)).heap.size = w.heap.size + 1 := by simp
  rw [show ((w.alloc (.cells (rda d A c B k) 91)).alloc (.cells cs 79)).heap.size = w.heap.size + 2 by simp, e1] at hM
  refine ⟨hM, ?_, hT⟩
  have h1 := (h.below (below_new w (.cells (rda d A c B k) 91))).t2 (bel_alloc (below_new (w.alloc (.cells (rda d A c B k) 91)) (.cells cs 79)) (.cells rdz 91))
  rw [e1] at h1
  exact h1
/-- the result is laid -/
theorem K3.out (h : K3 T w W d A c B k cs) (hR : Rdk (T2 T (w.heap.size + 1)) W' d' A' c' B' k') (hb : Below W.heap.size W W') :
    Rdk T (((((W'.setCell ⟨w.heap.size + 2, 0, none⟩ (.int .i64 d'.room)).setCell ⟨w.heap.size + 2, 1, none⟩ (.slice A' d'.sure.length c')).setCell ⟨w.heap.size + 2, 2, none⟩ (.slice B' d'.pend.length k')).setCell ⟨w.heap.size + 2, 3, none⟩ (.int .i64 d'.fuse)).setCell ⟨w.heap.size + 2, 4, none⟩ (.bool d'.down)) d' A' c' B' k' ∧ Below w.heap.size w (((((W'.setCell ⟨w.heap.size + 2, 0, none⟩ (.int .i64 d'.room)).setCell ⟨w.heap.size + 2, 1, none⟩ (.slice A' d'.sure.length c')).setCell ⟨w.heap.size + 2, 2, none⟩ (.slice B' d'.pend.length k')).setCell ⟨w.heap.size + 2, 3, none⟩ (.int .i64 d'.fuse)).setCell ⟨w.heap.size + 2, 4, none⟩ (.bool d'.down)) :=
  ⟨hR.sam ((Sam.refl (w.heap.size + 1) W').st5 (.inr rfl) _ _ _ _ _), bel_st5 (bel_call h.mm.bel hb) (by omega) _ _ _ _ _⟩
end
/-- a cursor saved, plainly -/
def save18 (d : Dk Bs) (n : Bs) (x : Cur) : Dk Bs × Nat := if crchk x ≠ 0 then (d, crchk x) else sPut bln ([] : Bs) d n (frm (crtxt x))
set_option maxRecDepth 100000 in
set_option maxHeartbeats 2000000 in
theorem K18Save_any {T : Nat → Prop} {A B A2 : Option Addr} {c k c2 : Nat} (d : Dk Bs) (n : Bs) (f nx t q : Int) (ps : List Pt5) (w : World) (hT : ∀ k, w.heap.size ≤ k → T k) (h : Rdk T w d A c B k) (hl : d.sure.length + d.pend.length ≤ 400) (hf : d.fuse ≤ 9223372036854775807) (hn : n.length ≤ 9223372036854775807) (hr : Ris d.sure) (hu : fused bln d.shown ≤ 1000000000000) (hp : SlP w A2 c2 ps) (hI : PtsI ps) :
    Calls Tryz.prog 40 #[.agg (rda d A c B k), .string ⟨n.toArray⟩, crv f nx t q A2 ps.length c2] w fun e w' => GvK T w w' e (save18 d n (f, nx, t, q, ps)) := by
  have hS0 := K3.begin hT h #[.int .i64 f, .int .i64 nx, .int .i64 t, .int .i64 q, .slice A2 ps.length c2]
  have HC := Lib.hid (fun W (hW : Below w.heap.size w W) => rCCheck_any f nx t q ps W (hp.below hW) hI)
  have HP := Lib.hid (fun W (hW : Below w.heap.size w W) (h0 : crchk (f, nx, t, q, ps) = 0) => rCPut_any f nx t q ps W (hp.below hW) h0)
  have HL := Lib.hid (@crtxt_len (f, nx, t, q, ps))
  have HXX := Lib.hid (show save18 d n (f, nx, t, q, ps) = if crchk (f, nx, t, q, ps) ≠ 0 then (d, crchk (f, nx, t, q, ps)) else sPut bln ([] : Bs) d n (frm (crtxt (f, nx, t, q, ps))) from rfl)
  obtain ⟨r0, r1, r2, r3, r4, rf0, rf1, rf2, rf3, rf4⟩ := hS0.mm.b2.fiveC
  obtain ⟨c0, c1, c2', c3, c4, -⟩ := Blk.five hS0.mm.b1
  have HS0 := Lib.hid hS0
  clear h hT hS0 hp hI
  generalize crchk (f, nx, t, q, ps) = bad at *
  unfold rda
  go_enter Tryz.func40, Tryz.ntmps40
  go_wp2_with fail
  refine (HC.out _ HS0.out.mm.bel).mono ?_
  rintro e w1 ⟨rfl, hb1⟩
  have hS := HS0.out.call hb1
  clear HC HS0 hb1 r0 r1 r2 r3 r4 rf0 rf1 rf2 rf3 rf4 c0 c1 c2' c3 c4
  obtain ⟨r0, r1, r2, r3, r4, rf0, rf1, rf2, rf3, rf4⟩ := hS.mm.b2.fiveC
  obtain ⟨b0, b1, b2, b3, b4, bf0, bf1, bf2, bf3, bf4⟩ := hS.mm.b0.fiveC
  rcases Decidable.em (bad = 0) with h0 | h0
  rotate_left
  · have HX := Lib.hid (HXX.out.trans (if_pos h0))
    have hz : (((bad : Nat) : Int) != 0) = true := by simp; omega
    have HO := Lib.hid (hS.out hS.R (Below.refl _ _))
    have HB := Lib.hid hS.mm.b0
    clear hS HXX HP HL h0
    go_wp2_with fail
    exact bodyPost_ret (res_k2 rfl rfl (g := w.heap.size + 2) (HB.out.st5 _ _ _ _ _)) rfl (by rw [HX.out]; exact ⟨_, _, _, _, rfl, HO.out.1, HO.out.2⟩)
  have HX := Lib.hid (HXX.out.trans (if_neg (by simp [h0])))
  have hz : (((bad : Nat) : Int) != 0) = false := by simp [h0]
  have hlt : (frm (crtxt (f, nx, t, q, ps))).length ≤ 100000 := by
    have := HL.out h0
    unfold frm txb
    have l1 := vb_le10 (n := (crtxt (f, nx, t, q, ps)).length) (by omega)
    simp only [List.length_append, four_len]
    omega
  generalize frm (crtxt (f, nx, t, q, ps)) = tx at *
  have HP2 := Lib.hid (fun W hW => HP.out W hW h0)
  clear HP HXX HL h0
  go_upto_region 4 with (fail)
  rw [show w.heap.size + 1 + 1 = w.heap.size + 2 from rfl]
  have hst := hS.drew
  clear hS r0 r1 r2 r3 r4 rf0 rf1 rf2 rf3 rf4 b0 b1 b2 b3 b4 bf0 bf1 bf2 bf3 bf4
  have hst0 : Blk (World.drew w1) w.heap.size 91 (rda d A c B k) ∧ Blk (World.drew w1) (w.heap.size + 1) 79 #[.int .i64 f, .int .i64 nx, .int .i64 t, .int .i64 q, .slice A2 ps.length c2] := ⟨hst.mm.b2, hst.mm.b1⟩
  have hne2 : w.heap.size ≠ w.heap.size + 2 := by omega
  have hne3 : w.heap.size + 1 ≠ w.heap.size + 2 := by omega
  refine wp_region_held_drew (S := (fun W => Blk W w.heap.size 91 (rda d A c B k) ∧ Blk W (w.heap.size + 1) 79 #[.int .i64 f, .int .i64 nx, .int .i64 t, .int .i64 q, .slice A2 ps.length c2])) (by kernel_rfl) ?_ (fun hHeld => ?_)
  · first | with_reducible exact hst0 | with_reducible exact hHeld | exact ⟨hHeld.1.below hb9, hHeld.2.below hb9⟩ | exact ⟨hHeld.1.below hb8, hHeld.2.below hb8⟩ | exact ⟨((((hHeld.1.far hne2 _).far hne2 _).far hne2 _).far hne2 _).far hne2 _, ((((hHeld.2.far hne3 _).far hne3 _).far hne3 _).far hne3 _).far hne3 _⟩
  refine wpAnyH_take (i := 0) (oi := ⟨some 15, _, _, _, _, _⟩) (v := ?_) rfl (by kernel_rfl) (by kernel_rfl) (by kernel_rfl) (fun _ _ _ h => h) (Or.inl ⟨by kernel_rfl, ?_⟩) (by assumption) ?_
  rotate_left
  · (intro wS hSw; (try dsimp only at hSw); obtain ⟨z0, z1, z2, z3, z4, -⟩ := hSw.1.fiveC; obtain ⟨y0, y1, y2, y3, y4, -⟩ := Blk.five hSw.2; clear hSw; go_simp; (try with_reducible rfl))
  (try simp only [Act.put, List.setIfInBounds_toArray, List.set_cons_zero, List.set_cons_succ])
  refine wpAnyH_take (i := 1) (oi := ⟨some 16, _, _, _, _, _⟩) (v := ?_) rfl (by kernel_rfl) (by kernel_rfl) (by kernel_rfl) (fun _ _ _ h => h) (Or.inl ⟨by kernel_rfl, ?_⟩) (by assumption) ?_
  rotate_left
  · (intro wS hSw; (try dsimp only at hSw); obtain ⟨z0, z1, z2, z3, z4, -⟩ := hSw.1.fiveC; obtain ⟨y0, y1, y2, y3, y4, -⟩ := Blk.five hSw.2; clear hSw; go_simp; (try with_reducible rfl))
  (try simp only [Act.put, List.setIfInBounds_toArray, List.set_cons_zero, List.set_cons_succ])
  refine wpAnyH_take (i := 2) (oi := ⟨some 17, _, _, _, _, _⟩) (v := ?_) rfl (by kernel_rfl) (by kernel_rfl) (by kernel_rfl) (fun _ _ _ h => h) (Or.inl ⟨by kernel_rfl, ?_⟩) (by assumption) ?_
  rotate_left
  · (intro wS hSw; (try dsimp only at hSw); obtain ⟨z0, z1, z2, z3, z4, -⟩ := hSw.1.fiveC; obtain ⟨y0, y1, y2, y3, y4, -⟩ := Blk.five hSw.2; clear hSw; go_simp; (try with_reducible rfl))
  (try simp only [Act.put, List.setIfInBounds_toArray, List.set_cons_zero, List.set_cons_succ])
  refine wpAnyH_ready (rs := [3]) (by kernel_rfl) (by simp) ?_
  refine AllReadyH.cons (o := ⟨some 18, _, _, _, _, _⟩) rfl (fun K hK => ?_) AllReadyH.nil
  go_simp
  (refine (HP2.out _ hst.mm.bel).mono ?_; rintro e w9 ⟨A9, c9, m9, rfl, hm9, ho9, hb9⟩; have hS9 := hst.call hb9; have hcv := conv_str (P := Tryz.prog) 29 9 5 Tryz.underlying29 Tryz.underlying5 Tryz.underlying9 (Own.sl ho9) rfl)
  go_wp2_with fail
  refine hK.out _ _ ?_ (fun hHeld => ?_)
  · ((try dsimp only); (first | with_reducible exact hst0 | with_reducible exact hHeld | exact ⟨hHeld.1.below hb9, hHeld.2.below hb9⟩ | exact ⟨hHeld.1.below hb8, hHeld.2.below hb8⟩ | exact ⟨((((hHeld.1.far hne2 _).far hne2 _).far hne2 _).far hne2 _).far hne2 _, ((((hHeld.2.far hne3 _).far hne3 _).far hne3 _).far hne3 _).far hne3 _⟩))
  clear hK K
  (try simp only [Act.put, List.setIfInBounds_toArray, List.set_cons_zero, List.set_cons_succ])
  refine wpAnyH_ready (rs := [4]) (by kernel_rfl) (by simp) ?_
  refine AllReadyH.cons (o := ⟨some 19, _, _, _, _, _⟩) rfl (fun K hK => ?_) AllReadyH.nil
  go_simp
  refine hK.out _ _ ?_ (fun hHeld => ?_)
  · ((try dsimp only); (first | with_reducible exact hst0 | with_reducible exact hHeld | exact ⟨hHeld.1.below hb9, hHeld.2.below hb9⟩ | exact ⟨hHeld.1.below hb8, hHeld.2.below hb8⟩ | exact ⟨((((hHeld.1.far hne2 _).far hne2 _).far hne2 _).far hne2 _).far hne2 _, ((((hHeld.2.far hne3 _).far hne3 _).far hne3 _).far hne3 _).far hne3 _⟩))
  clear hK K
  (try simp only [Act.put, List.setIfInBounds_toArray, List.set_cons_zero, List.set_cons_succ])
  refine wpAnyH_ready (rs := [5]) (by kernel_rfl) (by simp) ?_
  refine AllReadyH.cons (o := ⟨some 20, _, _, _, _, _⟩) rfl (fun K hK => ?_) AllReadyH.nil
  go_simp
  (refine (KSPut_any (T := T2 T (w.heap.size + 1)) d n m9 _ hS9.up2 hS9.R hl hf hn (by rw [hm9.out]; omega) hr hu).mono ?_; rintro e w8 ⟨A8, c8, B8, k8, rfl, hR8, hb8⟩; obtain ⟨d8, n8, hr8⟩ : ∃ a b, sPut bln ([] : Bs) d n m9 = (a, b) := ⟨_, _, rfl⟩; rw [hr8] at hR8 ⊢; dsimp only at hR8 ⊢; unfold rda; have Hr8 := Lib.hid hr8; clear hr8; have hS8 := hS9.out hR8 hb8; have hB8 := (hS9.call hb8).mm.b0; obtain ⟨x0, x1, x2, x3, x4, xf0, xf1, xf2, xf3, xf4⟩ := hB8.fiveC)
  go_wp2_with fail
  refine hK.out _ _ ?_ (fun hHeld => ?_)
  · ((try dsimp only); (first | with_reducible exact hst0 | with_reducible exact hHeld | exact ⟨hHeld.1.below hb9, hHeld.2.below hb9⟩ | exact ⟨hHeld.1.below hb8, hHeld.2.below hb8⟩ | exact ⟨((((hHeld.1.far hne2 _).far hne2 _).far hne2 _).far hne2 _).far hne2 _, ((((hHeld.2.far hne3 _).far hne3 _).far hne3 _).far hne3 _).far hne3 _⟩))
  clear hK K
  (try simp only [Act.put, List.setIfInBounds_toArray, List.set_cons_zero, List.set_cons_succ])
  refine wpAnyH_take (i := 6) (oi := ⟨some 21, _, _, _, _, _⟩) (v := ?_) rfl (by kernel_rfl) (by kernel_rfl) (by kernel_rfl) (fun _ _ _ h => h) (Or.inl ⟨by kernel_rfl, ?_⟩) (by assumption) ?_
  rotate_left
  · (intro wS hSw; (try dsimp only at hSw); obtain ⟨z0, z1, z2, z3, z4, -⟩ := hSw.1.fiveC; obtain ⟨y0, y1, y2, y3, y4, -⟩ := Blk.five hSw.2; clear hSw; go_simp; (try with_reducible rfl))
  (try simp only [Act.put, List.setIfInBounds_toArray, List.set_cons_zero, List.set_cons_succ])
  refine wpAnyH_take (i := 7) (oi := ⟨some 22, _, _, _, _, _⟩) (v := ?_) rfl (by kernel_rfl) (by kernel_rfl) (by kernel_rfl) (fun _ _ _ h => h) (Or.inl ⟨by kernel_rfl, ?_⟩) (by assumption) ?_
  rotate_left
  · (intro wS hSw; (try dsimp only at hSw); obtain ⟨z0, z1, z2, z3, z4, -⟩ := hSw.1.fiveC; obtain ⟨y0, y1, y2, y3, y4, -⟩ := Blk.five hSw.2; clear hSw; go_simp; (try with_reducible rfl))
  (try simp only [Act.put, List.setIfInBounds_toArray, List.set_cons_zero, List.set_cons_succ])
  refine wpAnyH_ready (rs := [8]) (by kernel_rfl) (by simp) ?_
  refine AllReadyH.cons (o := ⟨none, _, _, _, _, _⟩) rfl (fun K hK => ?_) AllReadyH.nil
  go_simp
  refine hK.out _ _ ?_ (fun hHeld => ?_)
  · ((try dsimp only); (first | with_reducible exact hst0 | with_reducible exact hHeld | exact ⟨hHeld.1.below hb9, hHeld.2.below hb9⟩ | exact ⟨hHeld.1.below hb8, hHeld.2.below hb8⟩ | exact ⟨((((hHeld.1.far hne2 _).far hne2 _).far hne2 _).far hne2 _).far hne2 _, ((((hHeld.2.far hne3 _).far hne3 _).far hne3 _).far hne3 _).far hne3 _⟩))
  clear hK K
  (try simp only [Act.put, List.setIfInBounds_toArray, List.set_cons_zero, List.set_cons_succ])
  refine wpAnyH_take (i := 9) (oi := ⟨some 7, _, _, _, _, _⟩) (v := ?_) rfl (by kernel_rfl) (by kernel_rfl) (by kernel_rfl) (fun _ _ _ h => h) (Or.inl ⟨by kernel_rfl, ?_⟩) (by assumption) ?_
  rotate_left
  · (intro wS hSw; (try dsimp only at hSw); obtain ⟨z0, z1, z2, z3, z4, -⟩ := hSw.1.fiveC; obtain ⟨y0, y1, y2, y3, y4, -⟩ := Blk.five hSw.2; clear hSw; go_simp; (try with_reducible rfl))
  (try simp only [Act.put, List.setIfInBounds_toArray, List.set_cons_zero, List.set_cons_succ])
  refine wpAnyH_done (by kernel_rfl) ?_ _
  have HO := Lib.hid hS8
  go_wp2_with fail
  exact bodyPost_ret (res_k2 rfl rfl (g := w.heap.size + 2) (hB8.st5 _ _ _ _ _)) rfl (by rw [HX.out, ← hm9.out, Hr8.out]; exact ⟨_, _, _, _, rfl, HO.out.1, HO.out.2⟩)
end Go.Proofs.YtabnndjdkjkciaaGreatDoor

namespace Go.Proofs.YtabnndjdkjkciaaGreatDoor
open Go.RowKit
attribute [local go_sem ↓] Go.wp_at_zero Go.wp_at_succ

set_option maxRecDepth 100000 in
set_option maxHeartbeats 1000000 in
theorem rCSame_true {E G : Option Addr} {cap cap2 : Nat} (f nx t q : Int) (ps qs : List Pt5) (w : World) (h : SlP w E cap ps) (h2 : SlP w G cap2 qs) (he : qs = ps) :
    Calls Tryz.prog 42 #[crv f nx t q E ps.length cap, crv f nx t q G qs.length cap2] w fun e w' => e = .returned (.bool true) ∧ Below w.heap.size w w' := by
  subst he
  have hM := ((Mm.start w).alloc #[.int .i64 f, .int .i64 nx, .int .i64 t, .int .i64 q, .slice E qs.length cap] 79).alloc #[.int .i64 f, .int .i64 nx, .int .i64 t, .int .i64 q, .slice G qs.length cap2] 79
  rw [show (w.alloc (.cells #[.int .i64 f, .int .i64 nx, .int .i64 t, .int .i64 q, .slice E qs.length cap] 79)).heap.size = w.heap.size + 1 from by simp] at hM
  have hmax := h.len_le
  unfold maxLen at hmax
  go_enter Tryz.func42, Tryz.ntmps42
  go_upto_region 1 with (fail)
  refine gen1 (T := fun W => Mm w W [(w.heap.size + 1, 79, #[.int .i64 f, .int .i64 nx, .int .i64 t, .int .i64 q, .slice G qs.length cap2]), (w.heap.size, 79, #[.int .i64 f, .int .i64 nx, .int .i64 t, .int .i64 q, .slice E qs.length cap])] []) hM (fun w1 hM => ?_)
  obtain ⟨a0, a1, a2, a3, a4, -⟩ := Blk.five hM.b1
  obtain ⟨c0, c1, c2, c3, c4, -⟩ := Blk.five hM.b0
  go_wp2_with fail
  go_loopw [5] (fun x wr => ∃ k : Nat, k ≤ qs.length ∧ x = .int .i64 (k : Nat) ∧ Mm w wr [(w.heap.size + 1, 79, #[.int .i64 f, .int .i64 nx, .int .i64 t, .int .i64 q, .slice G qs.length cap2]), (w.heap.size, 79, #[.int .i64 f, .int .i64 nx, .int .i64 t, .int .i64 q, .slice E qs.length cap])] []) (fun x wr => qs.length - (intOf x).toNat)
  case atStart => exact ⟨0, Nat.zero_le _, rfl, hM⟩
  case round =>
    obtain ⟨k, hk, rfl, hMr⟩ := hrel
    clear hM a0 a1 a2 a3 a4 c0 c1 c2 c3 c4
    obtain ⟨a0, a1, a2, a3, a4, -⟩ := Blk.five hMr.b1
    obtain ⟨c0, c1, c2, c3, c4, -⟩ := Blk.five hMr.b0
    rcases Nat.lt_or_ge k qs.length with hlt | hge
    · have hkI : (k : Int) < (qs.length : Int) := by omega
      have hk0 : 0 ≤ (k : Int) := by omega
      obtain ⟨ad, b, o, rfl, had, hcc⟩ := (h.below hMr.bel).at hlt
      obtain ⟨ad2, b2, o2, rfl, had2, hdd⟩ := (h2.below hMr.bel).at hlt
      generalize qs[k] = p at *
      have hnn := neq_ptR p p
      rw [show (!decide (p = p)) = false from by simp] at hnn
      have HC1 := Lib.hid (fun W (hW : Below wr.heap.size wr W) => cells_below hcc hW)
      have HC2 := Lib.hid (fun W (hW : Below wr.heap.size wr W) => cells_below hdd hW)
      clear hcc hdd
      go_upto_region 6 with (fail)
      have hst : Mm w wr.drew [(w.heap.size + 1, 79, #[.int .i64 f, .int .i64 nx, .int .i64 t, .int .i64 q, .slice (some ad2) qs.length cap2]), (w.heap.size, 79, #[.int .i64 f, .int .i64 nx, .int .i64 t, .int .i64 q, .slice (some ad) qs.length cap])] [] ∧ Below wr.heap.size wr wr.drew := ⟨hMr.drew, (Below.refl _ _).drew⟩
      clear hMr a0 a1 a2 a3 a4 c0 c1 c2 c3 c4
      go_cut [58] (fun s58 wz => s58 = .bool false ∧ Mm w wz [(w.heap.size + 1, 79, #[.int .i64 f, .int .i64 nx, .int .i64 t, .int .i64 q, .slice (some ad2) qs.length cap2]), (w.heap.size, 79, #[.int .i64 f, .int .i64 nx, .int .i64 t, .int .i64 q, .slice (some ad) qs.length cap])] [])
      case first =>
        refine wp_region_held_drew (S := (fun W => Mm w W [(w.heap.size + 1, 79, #[.int .i64 f, .int .i64 nx, .int .i64 t, .int .i64 q, .slice (some ad2) qs.length cap2]), (w.heap.size, 79, #[.int .i64 f, .int .i64 nx, .int .i64 t, .int .i64 q, .slice (some ad) qs.length cap])] [] ∧ Below wr.heap.size wr W)) (by kernel_rfl) ?_ (fun hHeld => ?_)
        · first | exact hst | exact hHeld
        refine wpAnyH_take (i := 0) (oi := ⟨some 48, _, _, _, _, _⟩) (v := ?_) rfl (by kernel_rfl) (by kernel_rfl) (by kernel_rfl) (fun _ _ _ h => h) (Or.inl ⟨by kernel_rfl, ?_⟩) (by assumption) ?_
        rotate_left
        · (intro wS hSw; (try dsimp only at hSw); obtain ⟨a0, a1, a2, a3, a4, -⟩ := Blk.five hSw.1.b1; obtain ⟨c0, c1, c2, c3, c4, -⟩ := Blk.five hSw.1.b0; clear hSw; go_simp; (try with_reducible rfl))
        (try simp only [Act.put, List.setIfInBounds_toArray, List.set_cons_zero, List.set_cons_succ])
        refine wpAnyH_take (i := 1) (oi := ⟨some 49, _, _, _, _, _⟩) (v := ?_) rfl (by kernel_rfl) (by kernel_rfl) (by kernel_rfl) (fun _ _ _ h => h) (Or.inl ⟨by kernel_rfl, ?_⟩) (by assumption) ?_
        rotate_left
        · (intro wS hSw; (try dsimp only at hSw); obtain ⟨a0, a1, a2, a3, a4, -⟩ := Blk.five hSw.1.b1; obtain ⟨c0, c1, c2, c3, c4, -⟩ := Blk.five hSw.1.b0; clear hSw; go_simp; (try with_reducible rfl))
        (try simp only [Act.put, List.setIfInBounds_toArray, List.set_cons_zero, List.set_cons_succ])
        refine wpAnyH_take (i := 2) (oi := ⟨some 50, _, _, _, _, _⟩) (v := ?_) rfl (by kernel_rfl) (by kernel_rfl) (by kernel_rfl) (fun _ _ _ h => h) (Or.inl ⟨by kernel_rfl, ?_⟩) (by assumption) ?_
        rotate_left
        · (intro wS hSw; (try dsimp only at hSw); obtain ⟨a0, a1, a2, a3, a4, -⟩ := Blk.five hSw.1.b1; obtain ⟨c0, c1, c2, c3, c4, -⟩ := Blk.five hSw.1.b0; clear hSw; go_simp; (try with_reducible rfl))
        (try simp only [Act.put, List.setIfInBounds_toArray, List.set_cons_zero, List.set_cons_succ])
        refine wpAnyH_take (i := 3) (oi := ⟨some 51, _, _, _, _, _⟩) (v := ?_) rfl (by kernel_rfl) (by kernel_rfl) (by kernel_rfl) (fun _ _ _ h => h) (Or.inl ⟨by kernel_rfl, ?_⟩) (by assumption) ?_
        rotate_left
        · (intro wS hSw; (try dsimp only at hSw); obtain ⟨a0, a1, a2, a3, a4, -⟩ := Blk.five hSw.1.b1; obtain ⟨c0, c1, c2, c3, c4, -⟩ := Blk.five hSw.1.b0; clear hSw; go_simp; (try with_reducible rfl))
        (try simp only [Act.put, List.setIfInBounds_toArray, List.set_cons_zero, List.set_cons_succ])
        refine wpAnyH_take (i := 5) (oi := ⟨some 53, _, _, _, _, _⟩) (v := ?_) rfl (by kernel_rfl) (by kernel_rfl) (by kernel_rfl) (fun _ _ _ h => h) (Or.inl ⟨by kernel_rfl, ?_⟩) (by assumption) ?_
        rotate_left
        · (intro wS hSw; (try dsimp only at hSw); obtain ⟨a0, a1, a2, a3, a4, -⟩ := Blk.five hSw.1.b1; obtain ⟨c0, c1, c2, c3, c4, -⟩ := Blk.five hSw.1.b0; clear hSw; go_simp; (try with_reducible rfl))
        (try simp only [Act.put, List.setIfInBounds_toArray, List.set_cons_zero, List.set_cons_succ])
        refine wpAnyH_take (i := 6) (oi := ⟨some 54, _, _, _, _, _⟩) (v := ?_) rfl (by kernel_rfl) (by kernel_rfl) (by kernel_rfl) (fun _ _ _ h => h) (Or.inl ⟨by kernel_rfl, ?_⟩) (by assumption) ?_
        rotate_left
        · (intro wS hSw; (try dsimp only at hSw); obtain ⟨a0, a1, a2, a3, a4, -⟩ := Blk.five hSw.1.b1; obtain ⟨c0, c1, c2, c3, c4, -⟩ := Blk.five hSw.1.b0; clear hSw; go_simp; (try with_reducible rfl))
        (try simp only [Act.put, List.setIfInBounds_toArray, List.set_cons_zero, List.set_cons_succ])
        refine wpAnyH_take (i := 7) (oi := ⟨some 55, _, _, _, _, _⟩) (v := ?_) rfl (by kernel_rfl) (by kernel_rfl) (by kernel_rfl) (fun _ _ _ h => h) (Or.inl ⟨by kernel_rfl, ?_⟩) (by assumption) ?_
        rotate_left
        · (intro wS hSw; (try dsimp only at hSw); obtain ⟨a0, a1, a2, a3, a4, -⟩ := Blk.five hSw.1.b1; obtain ⟨c0, c1, c2, c3, c4, -⟩ := Blk.five hSw.1.b0; clear hSw; go_simp; (try with_reducible rfl))
        (try simp only [Act.put, List.setIfInBounds_toArray, List.set_cons_zero, List.set_cons_succ])
        refine wpAnyH_take (i := 8) (oi := ⟨some 56, _, _, _, _, _⟩) (v := ?_) rfl (by kernel_rfl) (by kernel_rfl) (by kernel_rfl) (fun _ _ _ h => h) (Or.inl ⟨by kernel_rfl, ?_⟩) (by assumption) ?_
        rotate_left
        · (intro wS hSw; (try dsimp only at hSw); obtain ⟨a0, a1, a2, a3, a4, -⟩ := Blk.five hSw.1.b1; obtain ⟨c0, c1, c2, c3, c4, -⟩ := Blk.five hSw.1.b0; clear hSw; go_simp; (try with_reducible rfl))
        (try simp only [Act.put, List.setIfInBounds_toArray, List.set_cons_zero, List.set_cons_succ])
        refine wpAnyH_ready (rs := [4, 9]) (by kernel_rfl) (by simp) ?_
        refine AllReadyH.cons (o := ⟨some 52, _, _, _, _, _⟩) rfl (fun K hK => ?_) ?_
        · (first | (refine step_loadR (by kernel_rfl) _ rfl ⟨b, o, none⟩ p rfl (HC1.out _ hHeld.2) ?_) | (refine step_loadR (by kernel_rfl) _ rfl ⟨b2, o2, none⟩ p rfl (HC2.out _ hHeld.2) ?_))
          refine hK.out _ _ ?_ (fun hHeld => ?_)
          · ((try dsimp only); (first | exact hst | exact hHeld))
          clear hK K
          (try simp only [Act.put, List.setIfInBounds_toArray, List.set_cons_zero, List.set_cons_succ])
          refine wpAnyH_ready (rs := [9]) (by kernel_rfl) (by simp) ?_
          refine AllReadyH.cons (o := ⟨some 57, _, _, _, _, _⟩) rfl (fun K hK => ?_) AllReadyH.nil
          (first | (refine step_loadR (by kernel_rfl) _ rfl ⟨b, o, none⟩ p rfl (HC1.out _ hHeld.2) ?_) | (refine step_loadR (by kernel_rfl) _ rfl ⟨b2, o2, none⟩ p rfl (HC2.out _ hHeld.2) ?_))
          refine hK.out _ _ ?_ (fun hHeld => ?_)
          · ((try dsimp only); (first | exact hst | exact hHeld))
          clear hK K
          (try simp only [Act.put, List.setIfInBounds_toArray, List.set_cons_zero, List.set_cons_succ])
          refine wpAnyH_take (i := 10) (oi := ⟨some 58, _, _, _, _, _⟩) (v := ?_) rfl (by kernel_rfl) (by kernel_rfl) (by kernel_rfl) (fun _ _ _ h => h) (Or.inl ⟨by kernel_rfl, ?_⟩) (by assumption) ?_
          rotate_left
          · (intro wS hSw; (try dsimp only at hSw); obtain ⟨a0, a1, a2, a3, a4, -⟩ := Blk.five hSw.1.b1; obtain ⟨c0, c1, c2, c3, c4, -⟩ := Blk.five hSw.1.b0; clear hSw; go_simp; (try with_reducible rfl))
          (try simp only [Act.put, List.setIfInBounds_toArray, List.set_cons_zero, List.set_cons_succ])
          refine wpAnyH_done (by kernel_rfl) ?_ _
          (go_wp2_with fail; go_meet; exact ⟨rfl, hHeld.1⟩)
        refine AllReadyH.cons (o := ⟨some 57, _, _, _, _, _⟩) rfl (fun K hK => ?_) ?_
        · (first | (refine step_loadR (by kernel_rfl) _ rfl ⟨b, o, none⟩ p rfl (HC1.out _ hHeld.2) ?_) | (refine step_loadR (by kernel_rfl) _ rfl ⟨b2, o2, none⟩ p rfl (HC2.out _ hHeld.2) ?_))
          refine hK.out _ _ ?_ (fun hHeld => ?_)
          · ((try dsimp only); (first | exact hst | exact hHeld))
          clear hK K
          (try simp only [Act.put, List.setIfInBounds_toArray, List.set_cons_zero, List.set_cons_succ])
          refine wpAnyH_ready (rs := [4]) (by kernel_rfl) (by simp) ?_
          refine AllReadyH.cons (o := ⟨some 52, _, _, _, _, _⟩) rfl (fun K hK => ?_) AllReadyH.nil
          (first | (refine step_loadR (by kernel_rfl) _ rfl ⟨b, o, none⟩ p rfl (HC1.out _ hHeld.2) ?_) | (refine step_loadR (by kernel_rfl) _ rfl ⟨b2, o2, none⟩ p rfl (HC2.out _ hHeld.2) ?_))
          refine hK.out _ _ ?_ (fun hHeld => ?_)
          · ((try dsimp only); (first | exact hst | exact hHeld))
          clear hK K
          (try simp only [Act.put, List.setIfInBounds_toArray, List.set_cons_zero, List.set_cons_succ])
          refine wpAnyH_take (i := 10) (oi := ⟨some 58, _, _, _, _, _⟩) (v := ?_) rfl (by kernel_rfl) (by kernel_rfl) (by kernel_rfl) (fun _ _ _ h => h) (Or.inl ⟨by kernel_rfl, ?_⟩) (by assumption) ?_
          rotate_left
          · (intro wS hSw; (try dsimp only at hSw); obtain ⟨a0, a1, a2, a3, a4, -⟩ := Blk.five hSw.1.b1; obtain ⟨c0, c1, c2, c3, c4, -⟩ := Blk.five hSw.1.b0; clear hSw; go_simp; (try with_reducible rfl))
          (try simp only [Act.put, List.setIfInBounds_toArray, List.set_cons_zero, List.set_cons_succ])
          refine wpAnyH_done (by kernel_rfl) ?_ _
          (go_wp2_with fail; go_meet; exact ⟨rfl, hHeld.1⟩)
        exact AllReadyH.nil
      case rest =>
        obtain ⟨rfl, hM5⟩ := hcut
        go_wp2_with fail
        go_roundw
        case rel => exact ⟨k + 1, hlt, by go_num, hM5⟩
        case measure => simp [intOf]; omega
    · go_wp2_with fail
      go_ret
      exact ⟨rfl, hMr.bel⟩
end Go.Proofs.YtabnndjdkjkciaaGreatDoor

namespace Go.Proofs.YtabnndjdkjkciaaGreatDoor
open Go.RowKit
attribute [local go_sem ↓] Go.wp_at_zero Go.wp_at_succ

theorem take_neB {k : Nat} {l : List UInt8} (h : l.take k ≠ []) : l ≠ [] := fun e => h (by rw [e]; simp)
/-- bytes, where they lie, and the reader then -/
def RGivesBB (B : Nat) (r : List UInt8 × (List UInt8 × Nat)) (w : World) (e : Ending) (w' : World) : Prop :=
  ∃ A c m v, e = .returned (.tuple #[.slice A (List.length m) c, v]) ∧ Hid (m = r.1) ∧ SlB w' A c m ∧ (m ≠ [] → ∀ ad, A = some ad → ad.block < B) ∧ RV w' B v r.2 ∧ Below w.heap.size w w'
set_option maxRecDepth 100000 in
set_option maxHeartbeats 1000000 in
theorem rFixedB_any {A : Option Addr} {c bad : Nat} {l : List UInt8} (many : Int) (w : World) (hS : SlB w A c l) {B : Nat} (hBd : l ≠ [] → ∀ ad, A = some ad → ad.block < B) : Calls Tryz.prog 160 #[rv A l.length c bad, .int .i64 many] w (RGivesBB B (rFixed many (l, bad)) w) := by
  have hB0 := (Blk.new w 199 #[.slice A l.length c, .int .i64 bad]).alloc (.cells #[.slice none 0 0, .int .i64 0] 199)
  have hB1 := Blk.newAt (w := w.alloc (.cells #[.slice A l.length c, .int .i64 bad] 199)) (g := w.heap.size + 1) (by simp) 199 #[.slice none 0 0, .int .i64 0]
  have hbw := bel_alloc (below_new w (.cells #[.slice A l.length c, .int .i64 bad] 199)) (.cells #[.slice none 0 0, .int .i64 0] 199)
  rcases Decidable.em (bad = 0) with h0 | h0
  · subst h0
    rcases Decidable.em (many < 0) with h1 | h1
    · have HG : Hid (rFixed many (l, 0) = ([], (l, 2))) := (show _ = _ by simp [rFixed, h1])
      go_enter Tryz.func160, Tryz.ntmps160
      go_wp2_with fail
      refine (rfail_any (l := l) 2 _).mono ?_
      rintro e w1 ⟨b, rfl, hfb, hb1⟩
      have hD1 := hB1.below hb1
      have hw1 := bel_call hbw hb1
      obtain ⟨b0, b1, f0, f1⟩ := hD1.two
      go_wp2_with fail
      refine bodyPost_ret (res_r2 rfl rfl (g := w.heap.size + 1) (x := .slice A l.length c) (y := .int .i64 b) (by (repeat (first | with_reducible exact hD1 | with_reducible apply Blk.set3 | with_reducible apply Blk.set2 | with_reducible refine Blk.alloc ?_ _ | with_reducible refine Blk.far ?_ (by first | omega | (dsimp only; omega)) _ | with_reducible refine Blk.drewN ?_ _ | with_reducible refine Blk.drew ?_)))) rfl ⟨none, 0, [], rv A l.length c b, rfl, by rw [HG.out]; rfl, SlB.nil _ _ _ (by simp [maxLen]) (fun _ => rfl), fun hn => absurd rfl hn, ?_, by (repeat (first | with_reducible exact hw1 | with_reducible refine bel_alloc ?_ _ | with_reducible refine bel_set ?_ (by first | omega | (dsimp only; omega)) _ | with_reducible refine below_drewN ?_ _ | with_reducible refine Below.drew ?_))⟩
      rw [HG.out]
      obtain rfl : b = 2 := by have := hfb.out; simp [rFail] at this; omega
      exact ⟨A, c, rfl, hS.below (by (repeat (first | with_reducible exact hw1 | with_reducible refine bel_alloc ?_ _ | with_reducible refine bel_set ?_ (by first | omega | (dsimp only; omega)) _ | with_reducible refine below_drewN ?_ _ | with_reducible refine Below.drew ?_))), hBd⟩
    · obtain ⟨k, rfl⟩ := Int.eq_ofNat_of_zero_le (by omega : 0 ≤ many)
      rcases Decidable.em (l.length < k) with h2 | h2
      · have HG : Hid (rFixed k (l, 0) = ([], (l, 2))) := (show _ = _ by simp [rFixed, h2])
        go_enter Tryz.func160, Tryz.ntmps160
        go_wp2_with fail
        refine (rfail_any (l := l) 2 _).mono ?_
        rintro e w1 ⟨b, rfl, hfb, hb1⟩
        have hD1 := hB1.below hb1
        have hw1 := bel_call hbw hb1
        obtain ⟨b0, b1, f0, f1⟩ := hD1.two
        go_wp2_with fail
        refine bodyPost_ret (res_r2 rfl rfl (g := w.heap.size + 1) (x := .slice A l.length c) (y := .int .i64 b) (by (repeat (first | with_reducible exact hD1 | with_reducible apply Blk.set3 | with_reducible apply Blk.set2 | with_reducible refine Blk.alloc ?_ _ | with_reducible refine Blk.far ?_ (by first | omega | (dsimp only; omega)) _ | with_reducible refine Blk.drewN ?_ _ | with_reducible refine Blk.drew ?_)))) rfl ⟨none, 0, [], rv A l.length c b, rfl, by rw [HG.out]; rfl, SlB.nil _ _ _ (by simp [maxLen]) (fun _ => rfl), fun hn => absurd rfl hn, ?_, by (repeat (first | with_reducible exact hw1 | with_reducible refine bel_alloc ?_ _ | with_reducible refine bel_set ?_ (by first | omega | (dsimp only; omega)) _ | with_reducible refine below_drewN ?_ _ | with_reducible refine Below.drew ?_))⟩
        rw [HG.out]
        obtain rfl : b = 2 := by have := hfb.out; simp [rFail] at this; omega
        exact ⟨A, c, rfl, hS.below (by (repeat (first | with_reducible exact hw1 | with_reducible refine bel_alloc ?_ _ | with_reducible refine bel_set ?_ (by first | omega | (dsimp only; omega)) _ | with_reducible refine below_drewN ?_ _ | with_reducible refine Below.drew ?_))), hBd⟩
      · have HG : Hid (rFixed k (l, 0) = (l.take k, (l.drop k, 0))) := (show _ = _ by simp [rFixed, h2])
        have hk : k ≤ l.length := by omega
        have hkc : k ≤ c := Nat.le_trans hk hS.2.1
        have hmx : c ≤ 9223372036854775807 := by have := hS.2.2.1; unfold maxLen at this; exact this
        have ht := hS.takeB k
        have hlt : (l.take k).length = k := by simp; omega
        have HLT := Lib.hid hlt
        clear hlt
        go_enter Tryz.func160, Tryz.ntmps160
        go_wp2_with fail
        all_goals
          go_region
        all_goals
          go_wp2_with fail
          have hw2 := (bel_alloc (below_new w (.cells #[.slice A l.length c, .int .i64 0] 199)) (.cells #[.slice none 0 0, .int .i64 0] 199))
          first
            | (have h := cutRV_eq hS hBd hk ‹_›
               refine bodyPost_ret (res_r2 rfl rfl (g := w.heap.size + 1) (x := .slice A (l.length - k) 0) (y := .int .i64 0) (Blk.newAt (by simp) _ _).drew) rfl ⟨A, k, l.take k, rv A (l.length - k) 0 0, ?_, by rw [HG.out]; rfl, ?_, fun hn => hBd (take_neB hn), ?_, (bel_alloc (below_new _ _) _).drew⟩
               · rw [HLT.out]; rfl
               · exact Sl.below (by have := ht; rw [‹c = k›] at this; exact this) (bel_alloc (below_new _ _) _).drew
               · rw [HG.out]; exact h.below (bel_alloc (below_new _ _) _).drew)
            | (have h := cutRV_ne hS hBd hk ‹_›
               refine bodyPost_ret (res_r2 rfl rfl (g := w.heap.size + 1) (x := .slice (Option.map (fun x => x.add k) A) (l.length - k) (c - k)) (y := .int .i64 0) (Blk.newAt (by simp) _ _).drew) rfl ⟨A, c, l.take k, rv (Option.map (fun x => x.add k) A) (l.length - k) (c - k) 0, ?_, by rw [HG.out]; rfl, ?_, fun hn => hBd (take_neB hn), ?_, (bel_alloc (below_new _ _) _).drew⟩
               · rw [HLT.out]; rfl
               · exact Sl.below ht (bel_alloc (below_new _ _) _).drew
               · rw [HG.out]; exact h.below (bel_alloc (below_new _ _) _).drew)
  · have hb : ((bad : Int) != 0) = true := by simp; omega
    have HG : Hid (rFixed many (l, bad) = ([], (l, bad))) := (show _ = _ by simp [rFixed, h0])
    clear h0
    go_enter Tryz.func160, Tryz.ntmps160
    go_wp2_with fail
    go_region
    all_goals
      go_wp2_with fail
      refine bodyPost_ret (res_r2 rfl rfl (g := w.heap.size + 1) (x := .slice A l.length c) (y := .int .i64 bad) (Blk.newAt (by simp) _ _).drew) rfl ⟨none, 0, [], rv A l.length c bad, rfl, by rw [HG.out]; rfl, SlB.nil _ _ _ (by simp [maxLen]) (fun _ => rfl), fun hn => absurd rfl hn, ?_, (bel_alloc (below_new _ _) _).drew⟩
      rw [HG.out]
      exact ⟨A, c, rfl, hS.below (bel_alloc (below_new _ _) _).drew, hBd⟩


theorem SlB.setB {w : World} {B k i c : Nat} {A : Option Addr} {l : List UInt8} (h : SlB w A c l) (hBd : l ≠ [] → ∀ ad, A = some ad → ad.block < B) (hk : B ≤ k) (v : Value) : SlB (w.setCell ⟨k, i, none⟩ v) A c l :=
  ⟨h.1, h.2.1, h.2.2.1, h.2.2.2.1, fun j u hj => by
    obtain ⟨ad, hA, hc⟩ := h.2.2.2.2 j u hj
    have hne : l ≠ [] := by rintro e; rw [e] at hj; simp at hj
    have hlt := hBd hne ad hA
    exact ⟨ad, hA, by rw [← hc]; exact World.cell?_setCell_far _ _ _ _ (by rw [addr_add_block]; dsimp only; omega)⟩⟩
theorem rNumber_v {A : Option Addr} {c : Nat} {s : List UInt8 × Nat} (w : World) (hS : SlB w A c s.1) {B : Nat} (hBd : s.1 ≠ [] → ∀ ad, A = some ad → ad.block < B) : Calls Tryz.prog 159 #[rv A s.1.length c s.2] w (RGives .u64 B (rNum s) w) := by obtain ⟨l, b⟩ := s; exact rNumber_any w hS hBd
theorem rWithin_v18 {A : Option Addr} {c : Nat} {s : List UInt8 × Nat} (most : Nat) (w : World) (hS : SlB w A c s.1) {B : Nat} (hBd : s.1 ≠ [] → ∀ ad, A = some ad → ad.block < B) : Calls Tryz.prog 113 #[rv A s.1.length c s.2, .int .u64 most] w (RGives .i64 B (rWithin most s) w) := by obtain ⟨l, b⟩ := s; exact rWithin_any most w hS hBd
theorem rFixed_v {A : Option Addr} {c : Nat} {s : List UInt8 × Nat} (many : Int) (w : World) (hS : SlB w A c s.1) {B : Nat} (hBd : s.1 ≠ [] → ∀ ad, A = some ad → ad.block < B) : Calls Tryz.prog 160 #[rv A s.1.length c s.2, .int .i64 many] w (RGivesBB B (rFixed many s) w) := by obtain ⟨l, b⟩ := s; exact rFixedB_any many w hS hBd
theorem rEnd_v18 {A : Option Addr} {c : Nat} {s : List UInt8 × Nat} (w : World) : Calls Tryz.prog 115 #[rv A s.1.length c s.2] w fun e w' => e = .returned (.int .i64 (rEnd s : Nat)) ∧ Below w.heap.size w w' := by obtain ⟨l, b⟩ := s; exact rEnd_any w
theorem rWithin_bad {n : Nat} {s : List UInt8 × Nat} (h : s.2 ≠ 0) : (rWithin n s).2 = s := by
  have hr : rNum s = (0, s) := by unfold rNum; rw [if_pos h]
  unfold rWithin
  rw [hr, if_neg (by simp)]
theorem rFixed_bad {n : Int} {s : List UInt8 × Nat} (h : s.2 ≠ 0) : rFixed n s = ([], s) := by unfold rFixed; rw [if_pos h]
theorem rPart_bad {a : Int} {s : List UInt8 × Nat} (h : s.2 ≠ 0) : (rPart a s).2 = s := by
  show (rDg (rWithin 65536 (rWithin 64 s).2).2).2 = s
  rw [rWithin_bad (n := 64) h, rWithin_bad (n := 65536) h]
  show (rFixed 32 s).2 = s
  rw [rFixed_bad h]
theorem crLoop_bad : ∀ (k : Nat) (a : Int) (s : List UInt8 × Nat), s.2 ≠ 0 → (crLoop k a s).2 = s
  | 0, _, _, _ => rfl
  | k + 1, a, s, h => by
    show (crLoop k (a + (rPart a s).1.2.1) (rPart a s).2).2 = s
    rw [rPart_bad h]
    exact crLoop_bad k _ _ h
theorem crLoop_stop : ∀ (n k : Nat) (a : Int) (s : List UInt8 × Nat), k ≤ n → (crLoop k a s).2.2 ≠ 0 → (crLoop n a s).2 = (crLoop k a s).2
  | n, 0, a, s, _, h => crLoop_bad n a s h
  | 0, k + 1, _, _, h, _ => by omega
  | n + 1, k + 1, a, s, hk, h => crLoop_stop n k (a + (rPart a s).1.2.1) (rPart a s).2 (by omega) h
/-- a part's cells while its digest is laid, byte by byte -/
def ptk (a x y : Int) (m : List UInt8) (k : Nat) : Array Value := (.int .i64 a :: .int .i64 x :: .int .i64 y :: bvs (m.take k ++ List.replicate (32 - k) 0)).toArray
theorem ptk_zero (a x y : Int) (m : List UInt8) : ptk a x y m 0 = pta (a, x, y, dg0) := by
  unfold ptk pta ptl dg0
  simp
theorem ptk_full (a x y : Int) (m : List UInt8) (h : m.length = 32) : ptk a x y m 32 = pta (a, x, y, ⟨m, h⟩) := by
  unfold ptk pta ptl
  rw [List.take_of_length_le (by omega)]
  simp
theorem ptk_size (a x y : Int) (m : List UInt8) (k : Nat) (hk : k ≤ 32) (h : m.length = 32) : (ptk a x y m k).size = 35 := by
  unfold ptk
  simp
  omega
theorem ptk_set (a x y : Int) (m : List UInt8) (k : Nat) (hk : k < 32) (h : m.length = 32) : (ptk a x y m k).setIfInBounds (3 + k) (bv (m[k]'(by omega))) = ptk a x y m (k + 1) := by
  unfold ptk
  rw [List.setIfInBounds_toArray]
  congr 1
  rw [show 3 + k = k + 1 + 1 + 1 from by omega, List.set_cons_succ, List.set_cons_succ, List.set_cons_succ]
  congr 3
  rw [← List.map_set]
  congr 1
  have hl : (m.take k).length = k := by simp; omega
  rw [List.set_append_right _ _ (by omega), hl, Nat.sub_self, show 32 - k = (32 - (k + 1)) + 1 from by omega, List.replicate_succ, List.set_cons_zero, List.take_succ_eq_append_getElem (by omega), List.append_assoc]
  rfl
end Go.Proofs.YtabnndjdkjkciaaGreatDoor

namespace Go.Proofs.YtabnndjdkjkciaaGreatDoor
open Go.RowKit
attribute [local go_sem ↓] Go.wp_at_zero Go.wp_at_succ

theorem list_beq' (l m : List UInt8) : (l == m) = decide (l = m) := by
  by_cases h : l = m
  · subst h; simp
  · simp [h]
/-- what the document's Take answers -/
def RTakesF (w0 : World) (A0 : Option Addr) (o : List UInt8 × Nat × Nat) (e : Ending) (w' : World) : Prop :=
  ∃ A c m, e = .returned (.tuple #[.slice A (List.length m) c, .int .i64 (o.2.1 : Nat), .int .i64 (o.2.2 : Nat)]) ∧ Hid (m = o.1) ∧ SlB w' A c m ∧ Below w0.heap.size w0 w' ∧ (m ≠ [] → A.map (·.block) = A0.map (·.block))
theorem Sl.lt0 {w : World} {size n c : Nat} {A : Option Addr} {xs : List Value} (h : Sl w size A n c xs) (hne : xs ≠ []) : ∀ g, A.map (·.block) = some g → g < w.heap.size := by
  intro g hg
  rcases Nat.lt_or_ge g w.heap.size with h1 | h1
  · exact h1
  · exact absurd hg (Sl.old h h1 hne)

theorem shift_block (A : Option Addr) (k : Nat) : (Option.map (fun x => x.add k) A).map (·.block) = A.map (·.block) := by cases A <;> simp [addr_add_block]
set_option maxRecDepth 100000 in
set_option maxHeartbeats 2000000 in
theorem rFTake_any (A : Option Addr) (c : Nat) (l : List UInt8) (w : World) (hs : SlB w A c l) (hl : l.length ≤ 10000000) :
    Calls Tryz.prog 112 #[.slice A l.length c] w (RTakesF w A (ftake l)) := by
  have hc1 := hs.2.1
  go_enter Tryz.func112, Tryz.ntmps112
  go_wp2_with fail
  refine (rTake_any A c l _ hs).mono ?_
  rintro e w1 ⟨hb1, ⟨ht, rfl⟩ | ⟨n, k, ht, rfl⟩⟩
  · have hf := Lib.hid (ftake_none ht)
    clear ht
    go_wp2_with fail
    go_ret3
    exact ⟨none, 0, [], by rw [hf.out]; rfl, by rw [hf.out]; rfl, Sl.none_ _ _, hb1, fun h => absurd rfl h⟩
  · obtain ⟨hu, hkl, _⟩ := take_some ht
    by_cases hn : 65536 < n
    · have hf := Lib.hid (ftake_long ht hn)
      have hni : (65536 : Int) < (n : Int) := by omega
      clear ht
      go_wp2_with fail
      go_ret3
      exact ⟨none, 0, [], by rw [hf.out]; rfl, by rw [hf.out]; rfl, Sl.none_ _ _, hb1, fun h => absurd rfl h⟩
    · have hni : ¬ (65536 : Int) < (n : Int) := by omega
      have hw64 : wrap64 (n : Int) = (n : Int) := by simp only [wrap64]; omega
      obtain ⟨q, hq⟩ : ∃ q, q = k + n := ⟨_, rfl⟩
      have hqi : (k : Int) + (n : Int) = (q : Int) := by omega
      by_cases hsh : l.length < k + n + 4
      · have hf := Lib.hid (ftake_short ht hn hsh)
        have hqs : (l.length : Int) < (q : Int) + 4 := by omega
        clear ht hq
        go_wp2_with fail
        go_ret3
        exact ⟨none, 0, [], by rw [hf.out]; rfl, by rw [hf.out]; rfl, Sl.none_ _ _, hb1, fun h => absurd rfl h⟩
      · have hqs : ¬ (l.length : Int) < (q : Int) + 4 := by omega
        have hkq : k ≤ q := by omega
        have hql : q + 4 ≤ l.length := by omega
        have hf : ftake l = if four (sumW (l.take q)) = (l.drop q).take 4 then ((l.take q).drop k, q + 4, 0) else ([], 0, 11) := by
          unfold ftake; rw [ht]; dsimp only; rw [if_neg hn, if_neg hsh, hq]
        have HF := Lib.hid hf
        clear ht hq hsh hf
        have hs1 := hs.below hb1
        have hqc : ¬ (c = q) := by omega
        have hkc : ¬ (c = k) := by omega
        have hq1 : q ≤ c := by omega
        have hq2 : q + 4 ≤ c := by omega
        have hT := Sl.takeB hs1 q
        have hD := Sl.take (Sl.cutB hs1 (k := q) (by omega)) (k := 4) (by omega)
        rw [if_neg hqc, show (bvs (l.drop q)).take 4 = bvs ((l.drop q).take 4) from by simp [bvs, List.map_take, List.map_drop]] at hD
        have hl2 : ((l.drop q).take 4).length = 4 := by simp; omega
        have htl : (l.take q).length = q := by simp; omega
        have hX := Sl.cutB hT (k := k) (by omega)
        have hX0 := Sl.cutB (Sl.takeB hs q) (k := k) (by omega)
        rw [if_neg hkc, htl, show q - k = ((l.take q).drop k).length from by rw [List.length_drop, htl]] at hX hX0
        have hxl := Lib.hid (show ((l.take q).drop k).length = q - k from by rw [List.length_drop, htl])
        generalize (l.take q).drop k = xt at *
        generalize hg2 : (l.drop q).take 4 = l2 at *
        generalize hg1 : l.take q = l1 at *
        clear hg1 hg2 hs1
        rw [← hl2] at hD
        subst htl
        have H4 := Lib.hid hl2
        obtain ⟨p4, hp4⟩ : ∃ p4, p4 = l1.length + 4 := ⟨_, rfl⟩
        have hwq : IntKind.i64.wrap ((l1.length : Int) + 4) = (p4 : Int) := by rw [IntKind.wrap_i64]; omega
        have hpc : p4 ≤ c := by omega
        have hlp : l1.length ≤ p4 := by omega
        have hps : p4 - l1.length = 4 := by omega
        have HP4 := Lib.hid hp4
        clear hp4
        clear hl2
        go_wp2_with fail
        go_cut [41] (fun s41 wx => s41 = .bool (!decide (four (sumW l1) = l2)) ∧ Below w1.heap.size w1 wx)
        case first =>
          have hT' : SlB w1.drew A c l1 := hT
          refine wp_region_held_drew (S := (fun W => SlB W (Option.map (fun x => x.add l1.length) A) (c - l1.length) l2)) (by kernel_rfl) ?_ (fun hHeld => ?_)
          · first | exact hD | exact hD2
          refine wpAnyH_take (i := 0) (oi := ⟨some 29, _, _, _, _, _⟩) (v := ?_) rfl (by kernel_rfl) (by kernel_rfl) (by kernel_rfl) (fun _ _ _ h => h) (Or.inl ⟨by kernel_rfl, ?_⟩) (by assumption) ?_
          rotate_left
          · (intro wS hSw; (try dsimp only at hSw); have hcv := conv_str (P := Tryz.prog) 29 9 5 Tryz.underlying29 Tryz.underlying5 Tryz.underlying9 (n := 4) hSw H4.out.symm; go_simp; (try with_reducible rfl))
          (try simp only [Act.put, List.setIfInBounds_toArray, List.set_cons_zero, List.set_cons_succ])
          refine wpAnyH_take (i := 1) (oi := ⟨some 30, _, _, _, _, _⟩) (v := ?_) rfl (by kernel_rfl) (by kernel_rfl) (by kernel_rfl) (fun _ _ _ h => h) (Or.inl ⟨by kernel_rfl, ?_⟩) (by assumption) ?_
          rotate_left
          · (intro wS hSw; (try dsimp only at hSw); have hcv := conv_str (P := Tryz.prog) 29 9 5 Tryz.underlying29 Tryz.underlying5 Tryz.underlying9 (n := 4) hSw H4.out.symm; go_simp; (try with_reducible rfl))
          (try simp only [Act.put, List.setIfInBounds_toArray, List.set_cons_zero, List.set_cons_succ])
          refine wpAnyH_take (i := 2) (oi := ⟨some 31, _, _, _, _, _⟩) (v := ?_) rfl (by kernel_rfl) (by kernel_rfl) (by kernel_rfl) (fun _ _ _ h => h) (Or.inl ⟨by kernel_rfl, ?_⟩) (by assumption) ?_
          rotate_left
          · (intro wS hSw; (try dsimp only at hSw); have hcv := conv_str (P := Tryz.prog) 29 9 5 Tryz.underlying29 Tryz.underlying5 Tryz.underlying9 (n := 4) hSw H4.out.symm; go_simp; (try with_reducible rfl))
          (try simp only [Act.put, List.setIfInBounds_toArray, List.set_cons_zero, List.set_cons_succ])
          refine wpAnyH_take (i := 6) (oi := ⟨some 35, _, _, _, _, _⟩) (v := ?_) rfl (by kernel_rfl) (by kernel_rfl) (by kernel_rfl) (fun _ _ _ h => h) (Or.inl ⟨by kernel_rfl, ?_⟩) (by assumption) ?_
          rotate_left
          · (intro wS hSw; (try dsimp only at hSw); have hcv := conv_str (P := Tryz.prog) 29 9 5 Tryz.underlying29 Tryz.underlying5 Tryz.underlying9 (n := 4) hSw H4.out.symm; go_simp; (try with_reducible rfl))
          (try simp only [Act.put, List.setIfInBounds_toArray, List.set_cons_zero, List.set_cons_succ])
          refine wpAnyH_take (i := 7) (oi := ⟨some 36, _, _, _, _, _⟩) (v := ?_) rfl (by kernel_rfl) (by kernel_rfl) (by kernel_rfl) (fun _ _ _ h => h) (Or.inl ⟨by kernel_rfl, ?_⟩) (by assumption) ?_
          rotate_left
          · (intro wS hSw; (try dsimp only at hSw); have hcv := conv_str (P := Tryz.prog) 29 9 5 Tryz.underlying29 Tryz.underlying5 Tryz.underlying9 (n := 4) hSw H4.out.symm; go_simp; (try with_reducible rfl))
          (try simp only [Act.put, List.setIfInBounds_toArray, List.set_cons_zero, List.set_cons_succ])
          refine wpAnyH_take (i := 8) (oi := ⟨some 37, _, _, _, _, _⟩) (v := ?_) rfl (by kernel_rfl) (by kernel_rfl) (by kernel_rfl) (fun _ _ _ h => h) (Or.inl ⟨by kernel_rfl, ?_⟩) (by assumption) ?_
          rotate_left
          · (intro wS hSw; (try dsimp only at hSw); have hcv := conv_str (P := Tryz.prog) 29 9 5 Tryz.underlying29 Tryz.underlying5 Tryz.underlying9 (n := 4) hSw H4.out.symm; go_simp; (try with_reducible rfl))
          (try simp only [Act.put, List.setIfInBounds_toArray, List.set_cons_zero, List.set_cons_succ])
          refine wpAnyH_take (i := 9) (oi := ⟨some 38, _, _, _, _, _⟩) (v := ?_) rfl (by kernel_rfl) (by kernel_rfl) (by kernel_rfl) (fun _ _ _ h => h) (Or.inl ⟨by kernel_rfl, ?_⟩) (by assumption) ?_
          rotate_left
          · (intro wS hSw; (try dsimp only at hSw); have hcv := conv_str (P := Tryz.prog) 29 9 5 Tryz.underlying29 Tryz.underlying5 Tryz.underlying9 (n := 4) hSw H4.out.symm; go_simp; (try with_reducible rfl))
          (try simp only [Act.put, List.setIfInBounds_toArray, List.set_cons_zero, List.set_cons_succ])
          refine wpAnyH_take (i := 10) (oi := ⟨some 39, _, _, _, _, _⟩) (v := ?_) rfl (by kernel_rfl) (by kernel_rfl) (by kernel_rfl) (fun _ _ _ h => h) (Or.inl ⟨by kernel_rfl, ?_⟩) (by assumption) ?_
          rotate_left
          · (intro wS hSw; (try dsimp only at hSw); have hcv := conv_str (P := Tryz.prog) 29 9 5 Tryz.underlying29 Tryz.underlying5 Tryz.underlying9 (n := 4) hSw H4.out.symm; go_simp; (try with_reducible rfl))
          (try simp only [Act.put, List.setIfInBounds_toArray, List.set_cons_zero, List.set_cons_succ])
          refine wpAnyH_take (i := 11) (oi := ⟨some 40, _, _, _, _, _⟩) (v := ?_) rfl (by kernel_rfl) (by kernel_rfl) (by kernel_rfl) (fun _ _ _ h => h) (Or.inl ⟨by kernel_rfl, ?_⟩) (by assumption) ?_
          rotate_left
          · (intro wS hSw; (try dsimp only at hSw); have hcv := conv_str (P := Tryz.prog) 29 9 5 Tryz.underlying29 Tryz.underlying5 Tryz.underlying9 (n := 4) hSw H4.out.symm; go_simp; (try with_reducible rfl))
          (try simp only [Act.put, List.setIfInBounds_toArray, List.set_cons_zero, List.set_cons_succ])
          refine wpAnyH_ready (rs := [3]) (by kernel_rfl) (by simp) ?_
          refine AllReadyH.cons (o := ⟨some 32, _, _, _, _, _⟩) rfl (fun K hK => ?_) AllReadyH.nil
          go_simp
          (refine (rSum_any A c l1 _ hT' (by omega)).mono ?_; rintro e w13 ⟨rfl, rfl⟩)
          go_wp2_with fail
          refine hK.out _ _ ?_ (fun hHeld => ?_)
          · ((try dsimp only); (first | exact hD | exact hD2))
          clear hK K
          (try simp only [Act.put, List.setIfInBounds_toArray, List.set_cons_zero, List.set_cons_succ])
          refine wpAnyH_ready (rs := [4]) (by kernel_rfl) (by simp) ?_
          refine AllReadyH.cons (o := ⟨some 33, _, _, _, _, _⟩) rfl (fun K hK => ?_) AllReadyH.nil
          go_simp
          (refine (rFour_any (sumW l1) _).mono ?_; rintro e w14 ⟨A14, c14, m14, rfl, hm14, hs14, hb14⟩; have hD2 := Sl.below hD (below_of_drew hb14); have hcv := conv_str (P := Tryz.prog) 29 9 5 Tryz.underlying29 Tryz.underlying5 Tryz.underlying9 hs14 rfl)
          go_wp2_with fail
          refine hK.out _ _ ?_ (fun hHeld => ?_)
          · ((try dsimp only); (first | exact hD | exact hD2))
          clear hK K
          (try simp only [Act.put, List.setIfInBounds_toArray, List.set_cons_zero, List.set_cons_succ])
          refine wpAnyH_ready (rs := [5]) (by kernel_rfl) (by simp) ?_
          refine AllReadyH.cons (o := ⟨some 34, _, _, _, _, _⟩) rfl (fun K hK => ?_) AllReadyH.nil
          go_simp
          refine hK.out _ _ ?_ (fun hHeld => ?_)
          · ((try dsimp only); (first | exact hD | exact hD2))
          clear hK K
          (try simp only [Act.put, List.setIfInBounds_toArray, List.set_cons_zero, List.set_cons_succ])
          refine wpAnyH_take (i := 12) (oi := ⟨some 41, _, _, _, _, _⟩) (v := ?_) rfl (by kernel_rfl) (by kernel_rfl) (by kernel_rfl) (fun _ _ _ h => h) (Or.inl ⟨by kernel_rfl, ?_⟩) (by assumption) ?_
          rotate_left
          · (intro wS hSw; (try dsimp only at hSw); have hcv := conv_str (P := Tryz.prog) 29 9 5 Tryz.underlying29 Tryz.underlying5 Tryz.underlying9 (n := 4) hSw H4.out.symm; go_simp; (try with_reducible rfl))
          (try simp only [Act.put, List.setIfInBounds_toArray, List.set_cons_zero, List.set_cons_succ])
          refine wpAnyH_done (by kernel_rfl) ?_ _
          go_wp2_with fail
          go_meet
          refine ⟨?_, below_of_drew hb14⟩
          rw [← hm14.out]
          exact congrArg Value.bool (congrArg not (list_beq' m14 l2))
        case rest =>
          obtain ⟨rfl, hbc⟩ := hcut
          have hw := bel_call hb1 hbc
          have hXc := hX.below hbc
          have hlt : xt ≠ [] → (Option.map (fun x => x.add k) A).map (·.block) = A.map (·.block) := fun _ => shift_block A k
          clear hT hD hX hX0 hbc
          by_cases he : four (sumW l1) = l2
          · have hd : decide (four (sumW l1) = l2) = true := decide_eq_true he
            have hov := Lib.hid (show ftake l = (xt, p4, 0) from by rw [HF.out, if_pos he, HP4.out])
            rw [hd]
            clear HF he hd
            go_wp2_with fail
            go_ret3
            refine ⟨_, c - k, xt, ?_, by rw [hov.out]; rfl, hXc, hw, hlt⟩
            rw [hov.out, hxl.out]
            rfl
          · have hd : decide (four (sumW l1) = l2) = false := decide_eq_false he
            have hov := Lib.hid (show ftake l = ([], 0, 11) from by rw [HF.out, if_neg he])
            rw [hd]
            clear HF he hd
            go_wp2_with fail
            go_ret3
            exact ⟨none, 0, [], by rw [hov.out]; rfl, by rw [hov.out]; rfl, Sl.none_ _ _, hw, fun h => absurd rfl h⟩
/-- the number of what follows the frames: 0: nothing does -/
def fbad (l : List UInt8) : Nat := if (fpre l).2 = l.length then 0 else (ftake (l.drop (fpre l).2)).2.2

end Go.Proofs.YtabnndjdkjkciaaGreatDoor
