/- WHAT IT HOLDS: the fixed fact of the manifest's laws, walked: the bytes of the empty manifest. | WHAT IT HOLDS: which cursors there are, plainly and walked. | WHAT IT HOLDS: parts appended, cloned; Step, walked. | WHAT IT HOLDS: the law CrcParts, walked. | WHAT IT HOLDS: the law CrcFinds, walked. | WHAT IT HOLDS: the law FrameFinds, walked. | WHAT IT HOLDS: frame.Join, and the document's frames, walked. | WHAT IT HOLDS: the law FrameJoins, walked. -/
import Derived.Test.YtgfigkenpmmdeaaCursorTakesG05
import Derived.Test.YtgfigkenpmmdeaaCursorTakesG07
import Derived.Test.YtgfigkenpmmdeaaCursorTakesG02
import Derived.Great.BuildSlice
import Derived.Laws.CopyOwn
namespace Go.Proofs.Ytgfigkenpmmdeaa
open Go.RowKit
attribute [local go_sem ↓] Go.wp_at_zero Go.wp_at_succ

theorem zman : (#[.int .i64 0, .int .i64 0, .int .i64 0, .int .i64 0, .int .u8 0, .int .u8 0, .int .u8 0, .int .u8 0, .int .u8 0, .int .u8 0, .int .u8 0, .int .u8 0, .int .u8 0, .int .u8 0, .int .u8 0, .int .u8 0, .int .u8 0, .int .u8 0, .int .u8 0, .int .u8 0, .int .u8 0, .int .u8 0, .int .u8 0, .int .u8 0, .int .u8 0, .int .u8 0, .int .u8 0, .int .u8 0, .int .u8 0, .int .u8 0, .int .u8 0, .int .u8 0, .int .u8 0, .int .u8 0, .int .u8 0, .int .u8 0, .slice none 0 0] : Array Value) = mfa 0 0 0 0 dg0 none 0 0 := rfl
theorem mchk0 : mchk (0, 0, 0, 0, dg0, []) = 0 := by
  rw [mchk_rest (by decide) (by decide) (by decide) (by decide) (by decide) (fun _ => by decide)]
  rfl
def mtx0 : List UInt8 := List.replicate 37 0
theorem SlB.dg {w : World} {g : Nat} {n f t r : Int} {d : Dg} {A : Option Addr} {k c : Nat} (h : BlM w g n f t r d A k c) : SlB w (some ⟨g, 4, none⟩) 32 d.1 := by
  have hd := d.2
  refine ⟨by simp, by omega, by simp [maxLen], (fun h => by cases h), fun j u hj => ⟨_, rfl, ?_⟩⟩
  exact BlM.dg h j u (by simpa [dga] using hj)
theorem step_bytesG {P : Program} {w : World} {ops : Array Oper} {o : Oper} {a : Act} {K : Act → World → Prop} {Q : Exit → Act → World → Prop} {E : Prop} (t e : TypeId) (ht : P.underlying t = some (.slice e))
    (hinfo : (P.info? e).map (fun i => (i.zero, i.size, i.bytes)) = some (some (.int .u8 0), 1, 1)) (hw : Region.wanted o (yielded ops a.tmps) = true) (s x : Operand)
    (ho : o.op = .call { callee := .builtin .append, args := #[s, x], argTypes := #[t, t] })
    (base : Nat) (A : Option Addr) (c : Nat) (l : List UInt8) (hs : a.eval s = .slice A l.length c) (hown : OwnB w base e A c l)
    (A2 : Option Addr) (c2 n2 : Nat) (l2 : List UInt8) (hn2 : n2 = l2.length) (hx : a.eval x = .slice A2 n2 c2) (hr : SlB w A2 c2 l2)
    (hlen : l.length + l2.length ≤ 140737488355328) (hbase : base ≤ w.heap.size)
    (h : ∀ A' c' (m : List UInt8) w', Hid (m = l ++ l2) → OwnB w' base e A' c' m → w.grownBy w' (A.map (·.block)) → Below base w w' → K (a.put o.dst (.slice A' m.length c')) w') :
    if Region.wanted o (yielded ops a.tmps) = true then Oper.wp P o a w K Q else E := by
  subst hn2
  obtain ⟨i0, hi, hz0, hz1, hz2⟩ := info_parts hinfo
  refine step_append hw s x t ho base e i0 (.int .u8 0) 1 1 ht hi hz0 hz1 hz2 rfl (by decide) A l.length c (bvs l) hs hown A2 l2.length c2 (bvs l2) hx hr (one_bvs l2) (by omega) (by simp only [maxLen]; omega) hbase ?_
  intro A' c' w' hap
  rw [← List.length_append]
  refine h A' c' (l ++ l2) w' rfl ?_ hap.grown (hap.below hown hbase)
  have := hap.own
  simpa [OwnB] using this
theorem lit64 {w W : World} (hb : w.heap.size ≤ W.heap.size) (n : Nat) : Own (W.alloc (.cells #[nv n] 62)) w.heap.size 62 1 (some ⟨W.heap.size, 0, none⟩) 1 1 [nv n] :=
  Own.more (World.ownsRow_lit W #[nv n] 1 (Nat.le_refl _) (by simp [maxLen]) (by simp)) hb
set_option maxRecDepth 100000 in
set_option maxHeartbeats 2000000 in
theorem MPut0_any (w : World) : Calls Try.prog 18 #[.agg (mfa 0 0 0 0 dg0 none 0 0)] w fun e w' => ∃ A c m, e = .returned (.tuple #[.slice A (List.length m) c, .nilIface]) ∧ Hid (m = frm mtx0) ∧ SlB w' A c m ∧ Below w.heap.size w w' := by
  have hB : BlM _ w.heap.size 0 0 0 0 dg0 none 0 0 := Blk.new w 27 (mfa 0 0 0 0 dg0 none 0 0)
  have hbw := below_new w (.cells (mfa 0 0 0 0 dg0 none 0 0) 27)
  have hms := Lib.hid (mfa_size 0 0 0 0 dg0 none 0 0)
  have hC := fun W => MCheck_any (A := none) (c := 0) 0 0 0 0 dg0 [] W (Sl.none_ _ _) (fun p hp => by cases hp)
  rw [mchk0] at hC
  have HC := Lib.hid hC
  clear hC
  go_enter Try.func18, Try.ntmps18
  go_wp2_with (refine wpl_loadG rfl 27 _ rfl ⟨w.heap.size, 0, none⟩ (mfa 0 0 0 0 dg0 none 0 0) rfl hB.cells _ Try.underlying27 rfl (by rw [hms.out]; kernel_rfl) ?_)
  refine (HC.out _).mono ?_
  rintro e w1 ⟨rfl, hb1⟩
  rw [show errv 0 = .nilIface from rfl]
  have hB1 : BlM w1 w.heap.size 0 0 0 0 dg0 none 0 0 := Blk.below hB hb1
  have hw1 := bel_call hbw hb1
  clear HC hB hbw hb1
  obtain ⟨a0, a1, a2, a3, a4⟩ := BlM.five hB1
  have hL : SlN (w1.alloc (.cells #[.int .u64 0, .int .u64 0, .int .u64 0, .int .u64 0] 62)) (some ⟨w1.heap.size, 0, none⟩) 4 [0, 0, 0, 0] := Sl.lits w1 [nv 0, nv 0, nv 0, nv 0] 62 (by simp [maxLen])
  have HL := Lib.hid hL
  clear hL
  go_wp2_with fail
  refine (Put_any none 0 [] _ 4 [0, 0, 0, 0] _ (by simp) (Sl.none_ _ _) HL.out (by simp) (by intro z hz; simp at hz; subst hz; unfold U64; omega)).mono ?_
  rintro e w2 ⟨A2, c2, m2, rfl, hm2, ho2, hb2⟩
  have hm2b : m2 = [0, 0, 0, 0] := by rw [hm2.out]; simp [vbs, vb_small]
  have hml2 : m2.length = 4 := by rw [hm2b]; rfl
  have HM2 := Lib.hid hm2b
  have hB2 : BlM w2 w.heap.size 0 0 0 0 dg0 none 0 0 := Blk.below (Blk.alloc hB1 _) hb2
  have hw2 := bel_call (bel_alloc hw1 _) hb2
  have hl1 := Blk.lt hB1
  have ho2b := Own.more (base' := w.heap.size + 1) ho2 (by simp; omega)
  have hmle2 : m2.length ≤ 4 := by omega
  clear hB1 hw1 hb2 hm2 ho2 HL hm2b hml2 a0 a1 a2 a3 a4
  go_upto_region 5 with (fail)
  go_cut [5] (fun s5 wz => ∃ A c m, s5 = .slice A (List.length m) c ∧ Hid (m = mtx0) ∧ SlB wz A c m ∧ BlM wz w.heap.size 0 0 0 0 dg0 none 0 0 ∧ Below w.heap.size w wz)
  case first =>
    have hst : BlM w2.drew w.heap.size 0 0 0 0 dg0 none 0 0 ∧ Below w.heap.size w w2.drew := ⟨Blk.drew hB2, hw2.drew⟩
    have hoS := World.ownsRow.drew ho2b
    clear hB2 hw2
    refine wp_region_held_drew (S := (fun W => BlM W w.heap.size 0 0 0 0 dg0 none 0 0 ∧ Below w.heap.size w W)) (by kernel_rfl) ?_ (fun hHeld => ?_)
    · exact hst
    refine gen0 (T := fun W => ((fun W => BlM W w.heap.size 0 0 0 0 dg0 none 0 0 ∧ Below w.heap.size w W)) W ∧ OwnB W (w.heap.size + 1) 5 A2 c2 m2 ∧ True) ?_ (fun wq1 hT => ?_)
    · exact ⟨by (first | with_reducible exact hst | exact ⟨Blk.below hHeld.1 hb9, bel_call hHeld.2 hb9⟩ | exact ⟨(hb8.block w.heap.size (Nat.lt_succ_self _)).trans hHeld.1, hHeld.2.trans (hb8.mono (Nat.le_succ _))⟩ | exact ⟨Blk.alloc hHeld.1 _, bel_alloc hHeld.2 _⟩), by (first | with_reducible assumption | exact hoS | exact ho8 | exact Own.below f0 (below_new _ _) | exact lit64 hHeld.2.size 0 | exact Own.other f1 f0 hg8 (by decide) | exact ho9.sl), trivial⟩
    (try clear f0 f1 f2 f3 f4 f5 f6 f7 f8 f9 f10 f11)
    obtain ⟨hHeld, f0, -⟩ := hT
    refine wpAnyH_take (i := 0) (oi := ⟨some 27, _, _, _, _, _⟩) (v := ?_) rfl (by kernel_rfl) (by kernel_rfl) (by kernel_rfl) (fun _ _ _ h => h) (Or.inl ⟨by kernel_rfl, ?_⟩) (by assumption) ?_
    rotate_left
    · (intro wS hSw; (try dsimp only at hSw); obtain ⟨q0, q1, q2, q3, q4⟩ := BlM.five hSw.1; clear hSw; go_simp; (try with_reducible rfl))
    (try simp only [Act.put, List.setIfInBounds_toArray, List.set_cons_zero, List.set_cons_succ])
    refine wpAnyH_take (i := 1) (oi := ⟨some 28, _, _, _, _, _⟩) (v := ?_) rfl (by kernel_rfl) (by kernel_rfl) (by kernel_rfl) (fun _ _ _ h => h) (Or.inl ⟨by kernel_rfl, ?_⟩) (by assumption) ?_
    rotate_left
    · (intro wS hSw; (try dsimp only at hSw); obtain ⟨q0, q1, q2, q3, q4⟩ := BlM.five hSw.1; clear hSw; go_simp; (try with_reducible rfl))
    (try simp only [Act.put, List.setIfInBounds_toArray, List.set_cons_zero, List.set_cons_succ])
    refine wpAnyH_take (i := 2) (oi := ⟨some 29, _, _, _, _, _⟩) (v := ?_) rfl (by kernel_rfl) (by kernel_rfl) (by kernel_rfl) (fun _ _ _ h => h) (Or.inl ⟨by kernel_rfl, ?_⟩) (by assumption) ?_
    rotate_left
    · (intro wS hSw; (try dsimp only at hSw); obtain ⟨q0, q1, q2, q3, q4⟩ := BlM.five hSw.1; clear hSw; go_simp; (try with_reducible rfl))
    (try simp only [Act.put, List.setIfInBounds_toArray, List.set_cons_zero, List.set_cons_succ])
    refine wpAnyH_take (i := 4) (oi := ⟨some 31, _, _, _, _, _⟩) (v := ?_) rfl (by kernel_rfl) (by kernel_rfl) (by kernel_rfl) (fun _ _ _ h => h) (Or.inl ⟨by kernel_rfl, ?_⟩) (by assumption) ?_
    rotate_left
    · (intro wS hSw; (try dsimp only at hSw); obtain ⟨q0, q1, q2, q3, q4⟩ := BlM.five hSw.1; clear hSw; go_simp; (try with_reducible rfl))
    (try simp only [Act.put, List.setIfInBounds_toArray, List.set_cons_zero, List.set_cons_succ])
    refine wpAnyH_take (i := 5) (oi := ⟨some 32, _, _, _, _, _⟩) (v := ?_) rfl (by kernel_rfl) (by kernel_rfl) (by kernel_rfl) (fun _ _ _ h => h) (Or.inl ⟨by kernel_rfl, ?_⟩) (by assumption) ?_
    rotate_left
    · (intro wS hSw; (try dsimp only at hSw); obtain ⟨q0, q1, q2, q3, q4⟩ := BlM.five hSw.1; clear hSw; go_simp; (try with_reducible rfl))
    (try simp only [Act.put, List.setIfInBounds_toArray, List.set_cons_zero, List.set_cons_succ])
    refine wpAnyH_take (i := 6) (oi := ⟨some 33, _, _, _, _, _⟩) (v := ?_) rfl (by kernel_rfl) (by kernel_rfl) (by kernel_rfl) (fun _ _ _ h => h) (Or.inl ⟨by kernel_rfl, ?_⟩) (by assumption) ?_
    rotate_left
    · (intro wS hSw; (try dsimp only at hSw); obtain ⟨q0, q1, q2, q3, q4⟩ := BlM.five hSw.1; clear hSw; go_simp; (try with_reducible rfl))
    (try simp only [Act.put, List.setIfInBounds_toArray, List.set_cons_zero, List.set_cons_succ])
    refine wpAnyH_take (i := 7) (oi := ⟨some 34, _, _, _, _, _⟩) (v := ?_) rfl (by kernel_rfl) (by kernel_rfl) (by kernel_rfl) (fun _ _ _ h => h) (Or.inl ⟨by kernel_rfl, ?_⟩) (by assumption) ?_
    rotate_left
    · (intro wS hSw; (try dsimp only at hSw); obtain ⟨q0, q1, q2, q3, q4⟩ := BlM.five hSw.1; clear hSw; go_simp; (try with_reducible rfl))
    (try simp only [Act.put, List.setIfInBounds_toArray, List.set_cons_zero, List.set_cons_succ])
    refine wpAnyH_ready (rs := [3, 8]) (by kernel_rfl) (by simp) ?_
    refine AllReadyH.cons (o := ⟨some 30, _, _, _, _, _⟩) rfl (fun K hK => ?_) ?_
    · (refine step_bytesG 22 5 Try.underlying22 u8_info (by kernel_rfl) (.tmp 27) (.tmp 29) rfl (w.heap.size + 1) A2 c2 m2 rfl f0 (some ⟨w.heap.size, 4, none⟩) 32 32 dg0.1 (by simp [dg0]) rfl (SlB.dg hHeld.1) (by simp [dg0]; omega) (Blk.lt hHeld.1) ?_; intro A8 c8 m8 w8 hm8 ho8 hg8 hb8)
      refine hK.out _ _ ?_ (fun _ => ?_)
      · ((try dsimp only); (first | with_reducible exact hst | exact ⟨Blk.below hHeld.1 hb9, bel_call hHeld.2 hb9⟩ | exact ⟨(hb8.block w.heap.size (Nat.lt_succ_self _)).trans hHeld.1, hHeld.2.trans (hb8.mono (Nat.le_succ _))⟩ | exact ⟨Blk.alloc hHeld.1 _, bel_alloc hHeld.2 _⟩))
      clear hK K
      (try simp only [Act.put, List.setIfInBounds_toArray, List.set_cons_zero, List.set_cons_succ])
      refine gen0 (T := fun W => ((fun W => BlM W w.heap.size 0 0 0 0 dg0 none 0 0 ∧ Below w.heap.size w W)) W ∧ OwnB W (w.heap.size + 1) 5 A8 c8 m8 ∧ True) ?_ (fun wq2 hT => ?_)
      · exact ⟨by (first | with_reducible exact hst | exact ⟨Blk.below hHeld.1 hb9, bel_call hHeld.2 hb9⟩ | exact ⟨(hb8.block w.heap.size (Nat.lt_succ_self _)).trans hHeld.1, hHeld.2.trans (hb8.mono (Nat.le_succ _))⟩ | exact ⟨Blk.alloc hHeld.1 _, bel_alloc hHeld.2 _⟩), by (first | with_reducible assumption | exact hoS | exact ho8 | exact Own.below f0 (below_new _ _) | exact lit64 hHeld.2.size 0 | exact Own.other f1 f0 hg8 (by decide) | exact ho9.sl), trivial⟩
      (try clear f0 f1 f2 f3 f4 f5 f6 f7 f8 f9 f10 f11)
      obtain ⟨hHeld, f0, -⟩ := hT
      refine wpAnyH_ready (rs := [8]) (by kernel_rfl) (by simp) ?_
      refine AllReadyH.cons (o := ⟨some 35, _, _, _, _, _⟩) rfl (fun K hK => ?_) AllReadyH.nil
      go_simp
      refine hK.out _ _ ?_ (fun _ => ?_)
      · ((try dsimp only); (first | with_reducible exact hst | exact ⟨Blk.below hHeld.1 hb9, bel_call hHeld.2 hb9⟩ | exact ⟨(hb8.block w.heap.size (Nat.lt_succ_self _)).trans hHeld.1, hHeld.2.trans (hb8.mono (Nat.le_succ _))⟩ | exact ⟨Blk.alloc hHeld.1 _, bel_alloc hHeld.2 _⟩))
      clear hK K
      (try simp only [Act.put, List.setIfInBounds_toArray, List.set_cons_zero, List.set_cons_succ])
      refine gen0 (T := fun W => ((fun W => BlM W w.heap.size 0 0 0 0 dg0 none 0 0 ∧ Below w.heap.size w W)) W ∧ OwnB W (w.heap.size + 1) 5 A8 c8 m8 ∧ Own W w.heap.size 62 1 (some ⟨wq2.heap.size, 0, none⟩) 1 1 [nv 0] ∧ True) ?_ (fun wq3 hT => ?_)
      · exact ⟨by (first | with_reducible exact hst | exact ⟨Blk.below hHeld.1 hb9, bel_call hHeld.2 hb9⟩ | exact ⟨(hb8.block w.heap.size (Nat.lt_succ_self _)).trans hHeld.1, hHeld.2.trans (hb8.mono (Nat.le_succ _))⟩ | exact ⟨Blk.alloc hHeld.1 _, bel_alloc hHeld.2 _⟩), by (first | with_reducible assumption | exact hoS | exact ho8 | exact Own.below f0 (below_new _ _) | exact lit64 hHeld.2.size 0 | exact Own.other f1 f0 hg8 (by decide) | exact ho9.sl), by (first | with_reducible assumption | exact hoS | exact ho8 | exact Own.below f0 (below_new _ _) | exact lit64 hHeld.2.size 0 | exact Own.other f1 f0 hg8 (by decide) | exact ho9.sl), trivial⟩
      (try clear f0 f1 f2 f3 f4 f5 f6 f7 f8 f9 f10 f11)
      obtain ⟨hHeld, f0, f1, -⟩ := hT
      refine wpAnyH_ready (rs := [9]) (by kernel_rfl) (by simp) ?_
      refine AllReadyH.cons (o := ⟨some 36, _, _, _, _, _⟩) rfl (fun K hK => ?_) AllReadyH.nil
      go_simp
      (refine (Put_any A8 c8 m8 _ 1 [0] _ (by rw [hm8.out, HM2.out]; simp [dg0]) f0.sl f1.sl (by simp) (by intro z hz; simp at hz; subst hz; unfold U64; omega)).mono ?_; rintro e w9 ⟨A9, c9, m9, rfl, hm9, ho9, hb9⟩)
      go_wp2_with fail
      refine hK.out _ _ ?_ (fun _ => ?_)
      · ((try dsimp only); (first | with_reducible exact hst | exact ⟨Blk.below hHeld.1 hb9, bel_call hHeld.2 hb9⟩ | exact ⟨(hb8.block w.heap.size (Nat.lt_succ_self _)).trans hHeld.1, hHeld.2.trans (hb8.mono (Nat.le_succ _))⟩ | exact ⟨Blk.alloc hHeld.1 _, bel_alloc hHeld.2 _⟩))
      clear hK K
      (try simp only [Act.put, List.setIfInBounds_toArray, List.set_cons_zero, List.set_cons_succ])
      refine gen0 (T := fun W => ((fun W => BlM W w.heap.size 0 0 0 0 dg0 none 0 0 ∧ Below w.heap.size w W)) W ∧ SlB W A9 c9 m9 ∧ True) ?_ (fun wq4 hT => ?_)
      · exact ⟨by (first | with_reducible exact hst | exact ⟨Blk.below hHeld.1 hb9, bel_call hHeld.2 hb9⟩ | exact ⟨(hb8.block w.heap.size (Nat.lt_succ_self _)).trans hHeld.1, hHeld.2.trans (hb8.mono (Nat.le_succ _))⟩ | exact ⟨Blk.alloc hHeld.1 _, bel_alloc hHeld.2 _⟩), by (first | with_reducible assumption | exact hoS | exact ho8 | exact Own.below f0 (below_new _ _) | exact lit64 hHeld.2.size 0 | exact Own.other f1 f0 hg8 (by decide) | exact ho9.sl), trivial⟩
      (try clear f0 f1 f2 f3 f4 f5 f6 f7 f8 f9 f10 f11)
      obtain ⟨hHeld, f0, -⟩ := hT
      refine wpAnyH_take (i := 10) (oi := ⟨some 5, _, _, _, _, _⟩) (v := ?_) rfl (by kernel_rfl) (by kernel_rfl) (by kernel_rfl) (fun _ _ _ h => h) (Or.inl ⟨by kernel_rfl, ?_⟩) (by assumption) ?_
      rotate_left
      · (intro wS hSw; (try dsimp only at hSw); obtain ⟨q0, q1, q2, q3, q4⟩ := BlM.five hSw.1; clear hSw; go_simp; (try with_reducible rfl))
      (try simp only [Act.put, List.setIfInBounds_toArray, List.set_cons_zero, List.set_cons_succ])
      refine wpAnyH_done (by kernel_rfl) ?_ _
      (go_wp2_with fail; go_meet; exact ⟨A9, c9, m9, rfl, (show _ = _ from by rw [hm9.out, hm8.out, HM2.out]; simp [vbs, vb_small, dg0, mtx0]), f0, hHeld.1, hHeld.2⟩)
    refine AllReadyH.cons (o := ⟨some 35, _, _, _, _, _⟩) rfl (fun K hK => ?_) ?_
    · go_simp
      refine hK.out _ _ ?_ (fun _ => ?_)
      · ((try dsimp only); (first | with_reducible exact hst | exact ⟨Blk.below hHeld.1 hb9, bel_call hHeld.2 hb9⟩ | exact ⟨(hb8.block w.heap.size (Nat.lt_succ_self _)).trans hHeld.1, hHeld.2.trans (hb8.mono (Nat.le_succ _))⟩ | exact ⟨Blk.alloc hHeld.1 _, bel_alloc hHeld.2 _⟩))
      clear hK K
      (try simp only [Act.put, List.setIfInBounds_toArray, List.set_cons_zero, List.set_cons_succ])
      refine gen0 (T := fun W => ((fun W => BlM W w.heap.size 0 0 0 0 dg0 none 0 0 ∧ Below w.heap.size w W)) W ∧ OwnB W (w.heap.size + 1) 5 A2 c2 m2 ∧ Own W w.heap.size 62 1 (some ⟨wq1.heap.size, 0, none⟩) 1 1 [nv 0] ∧ True) ?_ (fun wq5 hT => ?_)
      · exact ⟨by (first | with_reducible exact hst | exact ⟨Blk.below hHeld.1 hb9, bel_call hHeld.2 hb9⟩ | exact ⟨(hb8.block w.heap.size (Nat.lt_succ_self _)).trans hHeld.1, hHeld.2.trans (hb8.mono (Nat.le_succ _))⟩ | exact ⟨Blk.alloc hHeld.1 _, bel_alloc hHeld.2 _⟩), by (first | with_reducible assumption | exact hoS | exact ho8 | exact Own.below f0 (below_new _ _) | exact lit64 hHeld.2.size 0 | exact Own.other f1 f0 hg8 (by decide) | exact ho9.sl), by (first | with_reducible assumption | exact hoS | exact ho8 | exact Own.below f0 (below_new _ _) | exact lit64 hHeld.2.size 0 | exact Own.other f1 f0 hg8 (by decide) | exact ho9.sl), trivial⟩
      (try clear f0 f1 f2 f3 f4 f5 f6 f7 f8 f9 f10 f11)
      obtain ⟨hHeld, f0, f1, -⟩ := hT
      refine wpAnyH_ready (rs := [3]) (by kernel_rfl) (by simp) ?_
      refine AllReadyH.cons (o := ⟨some 30, _, _, _, _, _⟩) rfl (fun K hK => ?_) AllReadyH.nil
      (refine step_bytesG 22 5 Try.underlying22 u8_info (by kernel_rfl) (.tmp 27) (.tmp 29) rfl (w.heap.size + 1) A2 c2 m2 rfl f0 (some ⟨w.heap.size, 4, none⟩) 32 32 dg0.1 (by simp [dg0]) rfl (SlB.dg hHeld.1) (by simp [dg0]; omega) (Blk.lt hHeld.1) ?_; intro A8 c8 m8 w8 hm8 ho8 hg8 hb8)
      refine hK.out _ _ ?_ (fun _ => ?_)
      · ((try dsimp only); (first | with_reducible exact hst | exact ⟨Blk.below hHeld.1 hb9, bel_call hHeld.2 hb9⟩ | exact ⟨(hb8.block w.heap.size (Nat.lt_succ_self _)).trans hHeld.1, hHeld.2.trans (hb8.mono (Nat.le_succ _))⟩ | exact ⟨Blk.alloc hHeld.1 _, bel_alloc hHeld.2 _⟩))
      clear hK K
      (try simp only [Act.put, List.setIfInBounds_toArray, List.set_cons_zero, List.set_cons_succ])
      refine gen0 (T := fun W => ((fun W => BlM W w.heap.size 0 0 0 0 dg0 none 0 0 ∧ Below w.heap.size w W)) W ∧ OwnB W (w.heap.size + 1) 5 A8 c8 m8 ∧ Own W w.heap.size 62 1 (some ⟨wq1.heap.size, 0, none⟩) 1 1 [nv 0] ∧ True) ?_ (fun wq6 hT => ?_)
      · exact ⟨by (first | with_reducible exact hst | exact ⟨Blk.below hHeld.1 hb9, bel_call hHeld.2 hb9⟩ | exact ⟨(hb8.block w.heap.size (Nat.lt_succ_self _)).trans hHeld.1, hHeld.2.trans (hb8.mono (Nat.le_succ _))⟩ | exact ⟨Blk.alloc hHeld.1 _, bel_alloc hHeld.2 _⟩), by (first | with_reducible assumption | exact hoS | exact ho8 | exact Own.below f0 (below_new _ _) | exact lit64 hHeld.2.size 0 | exact Own.other f1 f0 hg8 (by decide) | exact ho9.sl), by (first | with_reducible assumption | exact hoS | exact ho8 | exact Own.below f0 (below_new _ _) | exact lit64 hHeld.2.size 0 | exact Own.other f1 f0 hg8 (by decide) | exact ho9.sl), trivial⟩
      (try clear f0 f1 f2 f3 f4 f5 f6 f7 f8 f9 f10 f11)
      obtain ⟨hHeld, f0, f1, -⟩ := hT
      refine wpAnyH_ready (rs := [9]) (by kernel_rfl) (by simp) ?_
      refine AllReadyH.cons (o := ⟨some 36, _, _, _, _, _⟩) rfl (fun K hK => ?_) AllReadyH.nil
      go_simp
      (refine (Put_any A8 c8 m8 _ 1 [0] _ (by rw [hm8.out, HM2.out]; simp [dg0]) f0.sl f1.sl (by simp) (by intro z hz; simp at hz; subst hz; unfold U64; omega)).mono ?_; rintro e w9 ⟨A9, c9, m9, rfl, hm9, ho9, hb9⟩)
      go_wp2_with fail
      refine hK.out _ _ ?_ (fun _ => ?_)
      · ((try dsimp only); (first | with_reducible exact hst | exact ⟨Blk.below hHeld.1 hb9, bel_call hHeld.2 hb9⟩ | exact ⟨(hb8.block w.heap.size (Nat.lt_succ_self _)).trans hHeld.1, hHeld.2.trans (hb8.mono (Nat.le_succ _))⟩ | exact ⟨Blk.alloc hHeld.1 _, bel_alloc hHeld.2 _⟩))
      clear hK K
      (try simp only [Act.put, List.setIfInBounds_toArray, List.set_cons_zero, List.set_cons_succ])
      refine gen0 (T := fun W => ((fun W => BlM W w.heap.size 0 0 0 0 dg0 none 0 0 ∧ Below w.heap.size w W)) W ∧ SlB W A9 c9 m9 ∧ True) ?_ (fun wq7 hT => ?_)
      · exact ⟨by (first | with_reducible exact hst | exact ⟨Blk.below hHeld.1 hb9, bel_call hHeld.2 hb9⟩ | exact ⟨(hb8.block w.heap.size (Nat.lt_succ_self _)).trans hHeld.1, hHeld.2.trans (hb8.mono (Nat.le_succ _))⟩ | exact ⟨Blk.alloc hHeld.1 _, bel_alloc hHeld.2 _⟩), by (first | with_reducible assumption | exact hoS | exact ho8 | exact Own.below f0 (below_new _ _) | exact lit64 hHeld.2.size 0 | exact Own.other f1 f0 hg8 (by decide) | exact ho9.sl), trivial⟩
      (try clear f0 f1 f2 f3 f4 f5 f6 f7 f8 f9 f10 f11)
      obtain ⟨hHeld, f0, -⟩ := hT
      refine wpAnyH_take (i := 10) (oi := ⟨some 5, _, _, _, _, _⟩) (v := ?_) rfl (by kernel_rfl) (by kernel_rfl) (by kernel_rfl) (fun _ _ _ h => h) (Or.inl ⟨by kernel_rfl, ?_⟩) (by assumption) ?_
      rotate_left
      · (intro wS hSw; (try dsimp only at hSw); obtain ⟨q0, q1, q2, q3, q4⟩ := BlM.five hSw.1; clear hSw; go_simp; (try with_reducible rfl))
      (try simp only [Act.put, List.setIfInBounds_toArray, List.set_cons_zero, List.set_cons_succ])
      refine wpAnyH_done (by kernel_rfl) ?_ _
      (go_wp2_with fail; go_meet; exact ⟨A9, c9, m9, rfl, (show _ = _ from by rw [hm9.out, hm8.out, HM2.out]; simp [vbs, vb_small, dg0, mtx0]), f0, hHeld.1, hHeld.2⟩)
    exact AllReadyH.nil
  case rest =>
    obtain ⟨A5, c5, m5, rfl, hm5, hs5, hB5, hw5⟩ := hcut
    have hml5 : m5.length ≤ 100 := by rw [hm5.out]; simp [mtx0]
    obtain ⟨a0, a1, a2, a3, a4⟩ := BlM.five hB5
    go_wp2_with fail
    go_loopw [40, 5] (fun x y wr => x = .int .i64 0 ∧ y = .slice A5 m5.length c5 ∧ wr = wc) (fun x y wr => 0)
    case atStart => exact ⟨rfl, rfl, rfl⟩
    case round =>
      obtain ⟨rfl, rfl, rfl⟩ := hrel
      go_wp2_with fail
      refine (FPut_any none 0 [] A5 c5 m5 _ (by simp) (Sl.none_ _ _) hs5 (by omega)).mono ?_
      rintro e w6 ⟨A6, c6, m6, he, hm6, ho6, hb6⟩
      have hfp : fput [] m5 = (frm mtx0, 0) := by
        unfold fput
        rw [hm5.out, if_neg (by simp [mtx0])]
        rfl
      rw [hfp] at he hm6
      dsimp only at he hm6
      rw [show errv 0 = .nilIface from rfl] at he
      subst he
      go_wp2_with fail
      go_ret2
      exact ⟨A6, c6, m6, rfl, hm6, ho6.sl, bel_call hw5 hb6⟩
set_option maxRecDepth 100000 in
set_option maxHeartbeats 1000000 in
theorem alive15_any (w : World) : Calls Try.prog 5 #[] w fun e w' => e = .returned (.bool true) ∧ Below w.heap.size w w' := by
  have hP := fun W => MPut0_any W
  rw [← zman] at hP
  have HP := Lib.hid hP
  clear hP
  go_enter Try.func5, Try.ntmps5
  go_wp2_with fail
  refine (HP.out _).mono ?_
  rintro e w1 ⟨A1, c1, m1, rfl, hm1, hs1, hb1⟩
  have hfl : (frm mtx0) = 37 :: (mtx0 ++ four (sumW (txb mtx0))) := by
    unfold frm txb
    rw [show mtx0.length = 37 from by simp [mtx0], vb_small (by decide)]
    rfl
  have h42 : m1.length = 42 := by rw [hm1.out, hfl]; simp [four_len, mtx0]
  obtain ⟨ad, hA, hc0⟩ := Sl.at1 (f := bv) (l := m1) hs1 (k := 0) (by omega)
  obtain ⟨ad2, hA2, hc37⟩ := Sl.at1 (f := bv) (l := m1) hs1 (k := 37) (by omega)
  subst hA
  injection hA2 with hA2
  subst hA2
  have hv0 : m1[0]'(by omega) = 37 := by
    have := hm1.out
    subst this
    simp [hfl]
  have hv37 : m1[37]'(by omega) = 0 := by
    have := hm1.out
    subst this
    simp only [hfl, List.getElem_cons_succ]
    rw [List.getElem_append_left (by simp [mtx0])]
    simp [mtx0]
  rw [hv0] at hc0
  rw [hv37] at hc37
  have hc0b : w1.cell? ad = some (.int .u8 37) := by
    have h0 : ad.add 0 = ad := by simp [Addr.add]
    rw [h0] at hc0
    exact hc0
  have hsp := World.cell?_spot hc0b
  obtain ⟨ab, ao, asp⟩ := ad
  dsimp only at hsp
  subst hsp
  have hc37b : w1.cell? ⟨ab, ao + 37, none⟩ = some (.int .u8 0) := by rw [← addr_lit]; exact hc37
  clear hc0 hc37
  have hcap : 42 ≤ c1 := by have := hs1.2.1; omega
  rw [h42]
  clear hv0 hv37 hfl h42 HP hm1
  go_wp2_with fail
  go_ret
  exact ⟨rfl, hb1⟩
end Go.Proofs.Ytgfigkenpmmdeaa

namespace Go.Proofs.Ytgfigkenpmmdeaa
open Go.RowKit
attribute [local go_sem ↓] Go.wp_at_zero Go.wp_at_succ

/-- a cursor: from, next, to, its trim, its parts -/
abbrev Cur := Int × Int × Int × Int × List Pt5
def crchk (x : Cur) : Nat := if mchk (1, x.1, x.2.1, x.2.2.2.1, dg0, x.2.2.2.2) ≠ 0 then mchk (1, x.1, x.2.1, x.2.2.2.1, dg0, x.2.2.2.2) else if x.2.2.1 < 0 ∨ 1048576 < x.2.2.1 then 1 else if x.2.2.1 < x.2.1 then 2 else 0
abbrev crv (f nx t q : Int) (A : Option Addr) (k c : Nat) : Value := .agg #[.int .i64 f, .int .i64 nx, .int .i64 t, .int .i64 q, .slice A k c]
theorem Blk.five {w : World} {g : Nat} {t : TypeId} {a b c d e : Value} (h : Blk w g t #[a, b, c, d, e]) : w.cell? ⟨g, 0, none⟩ = some a ∧ w.cell? ⟨g, 1, none⟩ = some b ∧ w.cell? ⟨g, 2, none⟩ = some c ∧ w.cell? ⟨g, 3, none⟩ = some d ∧ w.cell? ⟨g, 4, none⟩ = some e ∧
    w.frozen? ⟨g, 0, none⟩ = false ∧ w.frozen? ⟨g, 1, none⟩ = false ∧ w.frozen? ⟨g, 2, none⟩ = false ∧ w.frozen? ⟨g, 3, none⟩ = false ∧ w.frozen? ⟨g, 4, none⟩ = false := ⟨h.cell 0, h.cell 1, h.cell 2, h.cell 3, h.cell 4, h.frozen 0, h.frozen 1, h.frozen 2, h.frozen 3, h.frozen 4⟩
theorem mfa_all (n f t r : Int) (d : Dg) (A : Option Addr) (k c : Nat) : (mfa n f t r d A k c).all (·.oneCell') = true := by
  rw [Array.all_eq_true_iff_forall_mem]
  intro u hu
  simp only [mfa, mfl, List.mem_toArray, List.mem_cons, List.mem_append, List.not_mem_nil, or_false] at hu
  rcases hu with rfl | rfl | rfl | rfl | hu | rfl
  · rfl
  · rfl
  · rfl
  · rfl
  · exact one_bvs _ u hu
  · rfl
theorem crchk_m {x : Cur} (h : mchk (1, x.1, x.2.1, x.2.2.2.1, dg0, x.2.2.2.2) ≠ 0) : crchk x = mchk (1, x.1, x.2.1, x.2.2.2.1, dg0, x.2.2.2.2) := by unfold crchk; rw [if_pos h]
theorem crchk_to {x : Cur} (h : mchk (1, x.1, x.2.1, x.2.2.2.1, dg0, x.2.2.2.2) = 0) (h2 : x.2.2.1 < 0 ∨ 1048576 < x.2.2.1) : crchk x = 1 := by unfold crchk; rw [if_neg (by rw [h]; simp), if_pos h2]
theorem crchk_far {x : Cur} (h : mchk (1, x.1, x.2.1, x.2.2.2.1, dg0, x.2.2.2.2) = 0) (h2 : ¬ (x.2.2.1 < 0 ∨ 1048576 < x.2.2.1)) (h3 : x.2.2.1 < x.2.1) : crchk x = 2 := by unfold crchk; rw [if_neg (by rw [h]; simp), if_neg h2, if_pos h3]
theorem crchk_fine {x : Cur} (h : mchk (1, x.1, x.2.1, x.2.2.2.1, dg0, x.2.2.2.2) = 0) (h2 : ¬ (x.2.2.1 < 0 ∨ 1048576 < x.2.2.1)) (h3 : ¬ x.2.2.1 < x.2.1) : crchk x = 0 := by unfold crchk; rw [if_neg (by rw [h]; simp), if_neg h2, if_neg h3]
theorem wpl_storeNg {P : Program} {ops : Array Oper} {rest : List Oper} {o : Oper} {a : Act} {w : World} {Q : Exit → Act → World → Prop} {g : Nat} (hg : g = w.heap.size) (hgd : o.guard = none) (ty : TypeId) (x y : Operand) (ho : o.op = .store ty x y)
    (old cells : Array Value) (t : TypeId) (hx : a.eval x = .pointer (some ⟨g, 0, none⟩)) (hy : a.eval y = .agg cells) (hi : (P.info? ty).map (·.size) = some cells.size) (hold : old.size = cells.size) (h1 : cells.all (·.oneCell') = true)
    (h : wpList P ops Q rest (a.put o.dst undef) (w.alloc (.cells cells t))) : wpList P ops Q (o :: rest) a (w.alloc (.cells old t)) := by
  subst hg
  exact wpl_storeN hgd ty x y ho old cells t hx hy hi hold h1 h
theorem built_m (n f t r : Int) (A : Option Addr) (k c : Nat) : Try.prog.built 27 [(0, .int .i64 n), (1, .int .i64 f), (2, .int .i64 t), (3, .int .i64 r), (5, .slice A k c)] = some (mfa n f t r dg0 A k c) := by kernel_rfl
/-- a manifest that is typed out -/
theorem wpl_buildM {ops : Array Oper} {rest : List Oper} {o : Oper} {a : Act} {w : World} {Q : Exit → Act → World → Prop} (hgd : o.guard = none) (x0 x1 x2 x3 x5 : Operand) (ho : o.op = .build 27 #[(0, x0), (1, x1), (2, x2), (3, x3), (5, x5)])
    {n f t r : Int} {A : Option Addr} {k c : Nat} (h0 : a.eval x0 = .int .i64 n) (h1 : a.eval x1 = .int .i64 f) (h2 : a.eval x2 = .int .i64 t) (h3 : a.eval x3 = .int .i64 r) (h5 : a.eval x5 = .slice A k c)
    (h : wpList Try.prog ops Q rest (a.put o.dst (.agg (mfa n f t r dg0 A k c))) w) : wpList Try.prog ops Q (o :: rest) a w := by
  have hl : ((#[(0, x0), (1, x1), (2, x2), (3, x3), (5, x5)] : Array (Nat × Operand)).map fun (i, x) => (i, a.eval x)).toList = [(0, .int .i64 n), (1, .int .i64 f), (2, .int .i64 t), (3, .int .i64 r), (5, .slice A k c)] := by
    simp [h0, h1, h2, h3, h5]
  refine wpList_build hgd 27 _ ho ?_ ?_
  · rw [hl, built_m]; rfl
  · rw [hl, built_m]; exact h
set_option maxRecDepth 100000 in
set_option maxHeartbeats 1000000 in
theorem CrCheck_any {A : Option Addr} {c : Nat} (f nx t q : Int) (ps : List Pt5) (w : World) (h : SlP w A c ps) (hI : PtsI ps) :
    Calls Try.prog 40 #[crv f nx t q A ps.length c] w fun e w' => e = .returned (errv (crchk (f, nx, t, q, ps))) ∧ Below w.heap.size w w' := by
  have hB := (Blk.new w 46 #[.int .i64 f, .int .i64 nx, .int .i64 t, .int .i64 q, .slice A ps.length c]).alloc (.cells (mfa 1 f nx q dg0 A ps.length c) 27)
  have hM : BlM _ (w.heap.size + 1) 1 f nx q dg0 A ps.length c := Blk.newAt (w := w.alloc (.cells #[.int .i64 f, .int .i64 nx, .int .i64 t, .int .i64 q, .slice A ps.length c] 46)) (g := w.heap.size + 1) (by simp) 27 (mfa 1 f nx q dg0 A ps.length c)
  have hbw := bel_alloc (below_new w (.cells #[.int .i64 f, .int .i64 nx, .int .i64 t, .int .i64 q, .slice A ps.length c] 46)) (.cells (mfa 1 f nx q dg0 A ps.length c) 27)
  have hms := Lib.hid (mfa_size 1 f nx q dg0 A ps.length c)
  have hma := Lib.hid (mfa_all 1 f nx q dg0 A ps.length c)
  have hC := MCheck_any 1 f nx q dg0 ps _ (h.below hbw) hI
  have hc1 := fun h => Lib.hid (crchk_m (x := (f, nx, t, q, ps)) h)
  have hc2 := fun h h2 => Lib.hid (crchk_to (x := (f, nx, t, q, ps)) h h2)
  have hc3 := fun h h2 h3 => Lib.hid (crchk_far (x := (f, nx, t, q, ps)) h h2 h3)
  have hc4 := fun h h2 h3 => Lib.hid (crchk_fine (x := (f, nx, t, q, ps)) h h2 h3)
  dsimp only at hc1 hc2 hc3 hc4
  generalize mchk (1, f, nx, q, dg0, ps) = bad at *
  rcases errv_cases bad with ⟨h0, hev⟩ | ⟨k, hk, hke, hev⟩
  · rw [hev] at hC
    have HC := Lib.hid hC
    have HN := Lib.hid h0
    clear hC hev h0 hc1
    go_enter Try.func40, Try.ntmps40
    go_wp2_with (first | (refine wpl_buildM rfl _ _ _ _ _ rfl (n := 1) (f := f) (t := nx) (r := q) (A := A) (k := ps.length) (c := c) rfl rfl rfl rfl rfl ?_) | (refine wpl_storeNg (g := w.heap.size + 1) (by simp) rfl 27 _ _ rfl _ (mfa 1 f nx q dg0 A ps.length c) 27 rfl rfl (by rw [hms.out]; kernel_rfl) (by rw [hms.out]; rfl) hma.out ?_) | (refine wpl_loadG rfl 27 _ rfl ⟨w.heap.size + 1, 0, none⟩ (mfa 1 f nx q dg0 A ps.length c) rfl hM.cells _ Try.underlying27 rfl (by rw [hms.out]; kernel_rfl) ?_))
    refine HC.out.mono ?_
    rintro e w2 ⟨rfl, hb2⟩
    have hB2 := Blk.below hB hb2
    have hw := bel_call hbw hb2
    obtain ⟨a0, a1, a2, a3, a4, _⟩ := Blk.five hB2
    clear hB hM hbw hb2 HC
    by_cases g1 : t < 0
    · have hr := hc2 HN.out (.inl g1)
      clear hc2 hc3 hc4
      go_wp2_with fail
      go_ret
      exact ⟨by rw [hr.out]; rfl, hw⟩
    by_cases g2 : 1048576 < t
    · have hr := hc2 HN.out (.inr g2)
      clear hc2 hc3 hc4
      go_wp2_with fail
      go_ret
      exact ⟨by rw [hr.out]; rfl, hw⟩
    by_cases g3 : t < nx
    · have hr := hc3 HN.out (by omega) g3
      clear hc2 hc3 hc4
      go_wp2_with fail
      go_ret
      exact ⟨by rw [hr.out]; rfl, hw⟩
    · have hr := hc4 HN.out (by omega) (by omega)
      clear hc2 hc3 hc4
      go_wp2_with fail
      go_ret
      exact ⟨by rw [hr.out]; rfl, hw⟩
  · have hr := hc1 (by omega)
    have HEV := Lib.hid hev
    rw [hev] at hC
    have HC := Lib.hid hC
    clear hC hev hke hc1 hc2 hc3 hc4
    go_enter Try.func40, Try.ntmps40
    go_wp2_with (first | (refine wpl_buildM rfl _ _ _ _ _ rfl (n := 1) (f := f) (t := nx) (r := q) (A := A) (k := ps.length) (c := c) rfl rfl rfl rfl rfl ?_) | (refine wpl_storeNg (g := w.heap.size + 1) (by simp) rfl 27 _ _ rfl _ (mfa 1 f nx q dg0 A ps.length c) 27 rfl rfl (by rw [hms.out]; kernel_rfl) (by rw [hms.out]; rfl) hma.out ?_) | (refine wpl_loadG rfl 27 _ rfl ⟨w.heap.size + 1, 0, none⟩ (mfa 1 f nx q dg0 A ps.length c) rfl hM.cells _ Try.underlying27 rfl (by rw [hms.out]; kernel_rfl) ?_))
    refine HC.out.mono ?_
    rintro e w2 ⟨rfl, hb2⟩
    go_wp2_with fail
    go_ret
    exact ⟨by rw [hr.out, HEV.out]; rfl, bel_call hbw hb2⟩
set_option maxRecDepth 100000 in
set_option maxHeartbeats 400000 in
theorem CrDone_any (f nx t q : Int) (A : Option Addr) (k c : Nat) (w : World) : Calls Try.prog 37 #[crv f nx t q A k c] w fun e w' => e = .returned (.bool (nx == t)) ∧ Below w.heap.size w w' := by
  have hbw := below_new w (.cells #[.int .i64 f, .int .i64 nx, .int .i64 t, .int .i64 q, .slice A k c] 46)
  go_enter Try.func37, Try.ntmps37
  go_wp2_with fail
  go_ret
  exact ⟨rfl, hbw⟩
end Go.Proofs.Ytgfigkenpmmdeaa

namespace Go.Proofs.Ytgfigkenpmmdeaa
open Go.RowKit
attribute [local go_sem ↓] Go.wp_at_zero Go.wp_at_succ

theorem pt_info : (Try.prog.info? 68).map (fun i => (i.zero, i.size, i.bytes)) = some (some (.agg (pta (0, 0, 0, dg0))), 35, 56) := by kernel_rfl
theorem one_ptl (l : List Pt5) : ∀ u ∈ l.flatMap ptl, u.oneCell' = true := by
  intro u hu
  simp only [List.mem_flatMap] at hu
  obtain ⟨x, _, hx⟩ := hu
  exact ptl_one x u hx
abbrev OwnP (w : World) (base : Nat) (A : Option Addr) (c : Nat) (ps : List Pt5) : Prop := Own w base 68 35 A ps.length c (ps.flatMap ptl)
theorem step_parts {w : World} {ops : Array Oper} {o : Oper} {a : Act} {K : Act → World → Prop} {Q : Exit → Act → World → Prop} {X : Prop} (hw : Region.wanted o (yielded ops a.tmps) = true) (s x : Operand)
    (ho : o.op = .call { callee := .builtin .append, args := #[s, x], argTypes := #[25, 25] })
    (base : Nat) (A : Option Addr) (c : Nat) (l : List Pt5) (hs : a.eval s = .slice A l.length c) (hown : OwnP w base A c l)
    (A2 : Option Addr) (c2 n2 : Nat) (l2 : List Pt5) (hn2 : n2 = l2.length) (hx : a.eval x = .slice A2 n2 c2) (hr : SlP w A2 c2 l2) (hlen : l.length + l2.length ≤ 1000000000) (hbase : base ≤ w.heap.size)
    (h : ∀ A' c' (m : List Pt5) w', Hid (m = l ++ l2) → OwnP w' base A' c' m → w.grownBy w' (A.map (·.block)) → Below base w w' → K (a.put o.dst (.slice A' m.length c')) w') :
    if Region.wanted o (yielded ops a.tmps) = true then Oper.wp Try.prog o a w K Q else X := by
  subst hn2
  obtain ⟨i0, hi, hz0, hz1, hz2⟩ := info_parts pt_info
  refine step_append hw s x 25 ho base 68 i0 _ 35 56 Try.underlying25 hi hz0 hz1 hz2 (by rw [show (Value.agg (pta (0, 0, 0, dg0))).cells.size = (pta (0, 0, 0, dg0)).size from rfl, pta_size]) (by decide) A l.length c (l.flatMap ptl) hs hown A2 l2.length c2 (l2.flatMap ptl) hx hr (one_ptl l2) (by omega) (by simp only [maxLen]; omega) hbase ?_
  intro A' c' w' hap
  rw [← List.length_append]
  refine h A' c' (l ++ l2) w' rfl ?_ hap.grown (hap.below hown hbase)
  show Own w' base 68 35 A' (l ++ l2).length c' ((l ++ l2).flatMap ptl)
  rw [List.length_append, List.flatMap_append]
  exact hap.own
theorem wpl_parts {w : World} {ops : Array Oper} {rest : List Oper} {o : Oper} {a : Act} {Q : Exit → Act → World → Prop} (hw : Region.wanted o (yielded ops a.tmps) = true) (s x : Operand)
    (ho : o.op = .call { callee := .builtin .append, args := #[s, x], argTypes := #[25, 25] })
    (base : Nat) (A : Option Addr) (c : Nat) (l : List Pt5) (hs : a.eval s = .slice A l.length c) (hown : OwnP w base A c l)
    (A2 : Option Addr) (c2 n2 : Nat) (l2 : List Pt5) (hn2 : n2 = l2.length) (hx : a.eval x = .slice A2 n2 c2) (hr : SlP w A2 c2 l2) (hlen : l.length + l2.length ≤ 1000000000) (hbase : base ≤ w.heap.size)
    (h : ∀ A' c' (m : List Pt5) w', Hid (m = l ++ l2) → OwnP w' base A' c' m → w.grownBy w' (A.map (·.block)) → Below base w w' → wpList Try.prog ops Q rest (a.put o.dst (.slice A' m.length c')) w') : wpList Try.prog ops Q (o :: rest) a w :=
  wpList_step fun _ hK => step_parts hw s x ho base A c l hs hown A2 c2 n2 l2 hn2 hx hr hlen hbase fun A' c' m w' h1 h2 h3 h4 => hK _ _ (h A' c' m w' h1 h2 h3 h4)
/-- new parts -/
def GivesPs (w0 : World) (ps : List Pt5) (e : Ending) (w' : World) : Prop := ∃ A c m, e = .returned (.slice A (List.length m) c) ∧ Hid (m = ps) ∧ OwnP w' w0.heap.size A c m ∧ Below w0.heap.size w0 w'
theorem step_loadP {w : World} {ops : Array Oper} {o : Oper} {a : Act} {K : Act → World → Prop} {Q : Exit → Act → World → Prop} {X : Prop} (hgd : Region.wanted o (yielded ops a.tmps) = true) (x : Operand) (ho : o.op = .load 68 x)
    (ad : Addr) (p : Pt5) (hx : a.eval x = .pointer (some ad)) (hc : ∀ j u, (pta p)[j]? = some u → w.cell? (ad.add j) = some u)
    (h : K (a.put o.dst (.agg (pta p))) w) : if Region.wanted o (yielded ops a.tmps) = true then Oper.wp Try.prog o a w K Q else X := by
  rw [if_pos hgd]
  exact wp_loadA 68 x ho ad (pta p) hx hc _ Try.underlying68 rfl (by rw [pta_size]; kernel_rfl) h
/-- a slice literal of one part -/
theorem step_lit1 {w : World} {ops : Array Oper} {o : Oper} {a : Act} {K : Act → World → Prop} {Q : Exit → Act → World → Prop} {X : Prop} (hgd : Region.wanted o (yielded ops a.tmps) = true) (x : Operand) (ho : o.op = .buildSlice 25 1 #[(0, x)])
    (p : Pt5) (hx : a.eval x = .agg (pta p)) (h : K (a.put o.dst (.slice (some ⟨w.heap.size, 0, none⟩) 1 1)) (w.alloc (.cells (pta p) 68))) : if Region.wanted o (yielded ops a.tmps) = true then Oper.wp Try.prog o a w K Q else X := by
  rw [if_pos hgd]
  obtain ⟨i0, hi, hz0, hz1, hz2⟩ := info_parts pt_info
  refine wp_buildSlice 25 68 1 _ ho (pta p) i0 _ Try.underlying25 hi hz0 (by rw [hz1]; decide) (by rw [hz1]; decide) ?_ h
  rw [hz1]
  have hl : ((#[(0, x)] : Array (Nat × Operand)).map fun (i, x) => (i, a.eval x)).toList = ([Value.agg (pta p)].zipIdx 0).map fun x => (x.2, x.1) := by simp [hx]
  have hps := pta_size p
  rw [hl, Go.Great.fill_whole (s := 35) (by decide) [Value.agg (pta p)] _ (by intro v hv; rw [List.mem_singleton.1 hv]; exact hps) (by simp)]
  simp [Value.cells]
theorem litP (W : World) (p : Pt5) : SlP (W.alloc (.cells (pta p) 68)) (some ⟨W.heap.size, 0, none⟩) 1 [p] := by
  have h := Sl.litsS W 35 1 (ptl p) 68 (by rw [ptl_len]) (by simp [maxLen])
  show Sl _ 35 _ 1 1 ([p].flatMap ptl)
  simpa [pta] using h
theorem res_cr2 {fn : Func} {a b : Nat} {tmps : Array Value} {w : World} {g : Nat} {x y z u v : Value} (hres : fn.results = #[.cell a 46, .tmp b]) (ha : tmps.getD a undef = .pointer (some ⟨g, 0, none⟩)) (hB : Blk w g 46 #[x, y, z, u, v]) :
    (results fn tmps).run Try.prog w = .ok (.tuple #[.agg #[x, y, z, u, v], tmps.getD b undef]) w := by
  obtain ⟨b0, b1, b2, b3, b4, -⟩ := Blk.five hB
  have ha' : tmps[a]?.getD undef = .pointer (some ⟨g, 0, none⟩) := by simpa using ha
  simp [results, hres, go_sem, b0, b1, b2, b3, b4, ha']
theorem Blk.set5 {w : World} {g : Nat} {t : TypeId} {a b c d e : Value} (h : Blk w g t #[a, b, c, d, e]) (x y z u v : Value) : Blk (((((w.setCell ⟨g, 0, none⟩ x).setCell ⟨g, 1, none⟩ y).setCell ⟨g, 2, none⟩ z).setCell ⟨g, 3, none⟩ u).setCell ⟨g, 4, none⟩ v) g t #[x, y, z, u, v] :=
  ((((h.set_ 0 x).set_ 1 y).set_ 2 z).set_ 3 u).set_ 4 v
theorem Own.set5 {w : World} {base : Nat} {e : TypeId} {size n c : Nat} {A : Option Addr} {xs : List Value} (h : Own w base e size A n c xs) {g : Nat} (hg : g < base) (x y z u v : Value) : Own (((((w.setCell ⟨g, 0, none⟩ x).setCell ⟨g, 1, none⟩ y).setCell ⟨g, 2, none⟩ z).setCell ⟨g, 3, none⟩ u).setCell ⟨g, 4, none⟩ v) base e size A n c xs :=
  Own.set1 (Own.set1 (Own.set1 (Own.set1 (Own.set1 h hg _) hg _) hg _) hg _) hg _
theorem bel_set5 {w w' : World} {g : Nat} (h : Below w.heap.size w w') (hg : w.heap.size ≤ g) (x y z u v : Value) : Below w.heap.size w (((((w'.setCell ⟨g, 0, none⟩ x).setCell ⟨g, 1, none⟩ y).setCell ⟨g, 2, none⟩ z).setCell ⟨g, 3, none⟩ u).setCell ⟨g, 4, none⟩ v) := bel_set (bel_set (bel_set (bel_set (bel_set h hg _) hg _) hg _) hg _) hg _
/-- a cursor and a part, the result's block -/
structure StC (w W : World) (f nx t q : Int) (A : Option Addr) (k c : Nat) (p : Pt5) : Prop where
  bel : Below w.heap.size w W
  pt : Blk W (w.heap.size + 1) 68 (pta p)
  res : Blk W (w.heap.size + 1 + 1) 46 #[.int .i64 0, .int .i64 0, .int .i64 0, .int .i64 0, .slice none 0 0]
section
variable {w W W' : World} {f nx t q : Int} {A : Option Addr} {k c : Nat} {p : Pt5}
theorem StC.below (h : StC w W f nx t q A k c p) (hb : Below W.heap.size W W') : StC w W' f nx t q A k c p := ⟨bel_call h.bel hb, h.pt.below hb, h.res.below hb⟩
theorem StC.drew (h : StC w W f nx t q A k c p) : StC w W.drew f nx t q A k c p := ⟨h.bel.drew, h.pt.drew, h.res.drew⟩
theorem StC.alloc (h : StC w W f nx t q A k c p) (o : Obj) : StC w (W.alloc o) f nx t q A k c p := ⟨bel_alloc h.bel o, h.pt.alloc o, h.res.alloc o⟩
theorem StC.apart (h : StC w W f nx t q A k c p) {B : Nat} (hB : w.heap.size + 1 + 1 < B) (hb : Below B W W') : StC w W' f nx t q A k c p :=
  ⟨h.bel.trans (hb.mono (by omega)), (hb.block _ (by omega)).trans h.pt, (hb.block _ hB).trans h.res⟩
theorem StC.set0 (h : StC w W f nx t q A k c p) (i : Nat) (u : Value) : StC w (W.setCell ⟨w.heap.size, i, none⟩ u) f nx t q A k c p :=
  ⟨bel_set h.bel (Nat.le_refl _) u, h.pt.far (by dsimp only; omega) u, h.res.far (by dsimp only; omega) u⟩
end
end Go.Proofs.Ytgfigkenpmmdeaa

namespace Go.Proofs.Ytgfigkenpmmdeaa
open Go.RowKit
attribute [local go_sem ↓] Go.wp_at_zero Go.wp_at_succ

theorem u64_tmod (a : Int) (n : Nat) : ∃ k : Nat, k ≤ n ∧ (IntKind.u64.wrap a).tmod ((n : Int) + 1) = (k : Int) := by
  have h : 0 ≤ IntKind.u64.wrap a := wrap_u64_nonneg a
  rw [Int.tmod_eq_emod_of_nonneg h]
  have h1 := Int.emod_nonneg (IntKind.u64.wrap a) (show (n : Int) + 1 ≠ 0 by omega)
  have h2 := Int.emod_lt_of_pos (IntKind.u64.wrap a) (show (0 : Int) < (n : Int) + 1 by omega)
  exact ⟨((IntKind.u64.wrap a) % ((n : Int) + 1)).toNat, by omega, by omega⟩
theorem opened_sealed (l : List UInt8) : opened (l ++ four (sumW l)) = (l, 0) := by
  have h4 := four_len (sumW l)
  unfold opened
  have hl : (l ++ four (sumW l)).length - 4 = l.length := by simp [h4]
  rw [if_neg (by rw [List.length_append, h4]; omega), hl, List.take_left, List.drop_left, if_pos rfl]

end Go.Proofs.Ytgfigkenpmmdeaa

namespace Go.Proofs.Ytgfigkenpmmdeaa
open Go.RowKit
attribute [local go_sem ↓] Go.wp_at_zero Go.wp_at_succ

theorem u64_tmod_pos (a : Int) (n : Nat) (hn : 0 < n) : ∃ k : Nat, k < n ∧ (IntKind.u64.wrap a).tmod (n : Int) = (k : Int) := by
  obtain ⟨k, hk, he⟩ := u64_tmod a (n - 1)
  refine ⟨k, by omega, ?_⟩
  rw [← he]
  congr 1
  omega
/-- the bits that have been turned so far -/
def wpart (x n8 place i : Nat) : Nat := x % 2 ^ min i (n8 - place)
theorem wpart_out {x n8 place i : Nat} (h : n8 ≤ place + i) : wpart x n8 place (i + 1) = wpart x n8 place i := by
  unfold wpart; rw [Nat.min_eq_right (by omega), Nat.min_eq_right (by omega)]
theorem wpart_off {x n8 place i : Nat} (hp : place + i < n8) (h : x.testBit i = false) : wpart x n8 place (i + 1) = wpart x n8 place i := by
  unfold wpart
  rw [Nat.min_eq_left (by omega), Nat.min_eq_left (by omega)]
  apply Nat.eq_of_testBit_eq
  intro j
  simp only [Nat.testBit_mod_two_pow]
  by_cases hj : j = i
  · subst hj; simp [h]
  · by_cases h1 : j < i
    · simp [h1, show j < i + 1 from by omega]
    · simp [h1, show ¬ j < i + 1 from by omega]
theorem wpart_on {x n8 place i : Nat} (hp : place + i < n8) (h : x.testBit i = true) : wpart x n8 place (i + 1) = wpart x n8 place i ^^^ 2 ^ i := by
  unfold wpart
  rw [Nat.min_eq_left (by omega), Nat.min_eq_left (by omega)]
  apply Nat.eq_of_testBit_eq
  intro j
  simp only [Nat.testBit_mod_two_pow, Nat.testBit_xor, Nat.testBit_two_pow]
  by_cases hj : j = i
  · subst hj; simp [h]
  · by_cases h1 : j < i
    · simp [h1, show j < i + 1 from by omega, show ¬ i = j from by omega]
    · simp [h1, show ¬ j < i + 1 from by omega, show ¬ i = j from by omega]
theorem wpart_on_ne {x n8 place i : Nat} (hp : place + i < n8) (h : x.testBit i = true) : wpart x n8 place (i + 1) ≠ 0 := by
  rw [wpart_on hp h]
  intro he
  have := congrArg (fun y => y.testBit i) he
  simp [Nat.testBit_xor, wpart, Nat.testBit_mod_two_pow, Nat.min_eq_left (show i ≤ n8 - place from by omega)] at this
theorem set_bit {l m : List UInt8} {W place i : Nat} (_hl : m.length = l.length) (h : leN m = leN l ^^^ (W <<< place)) (hp : (place + i) / 8 < m.length) :
    leN (m.set ((place + i) / 8) (m[(place + i) / 8] ^^^ UInt8.ofNat (2 ^ ((place + i) % 8)))) = leN l ^^^ ((W ^^^ 2 ^ i) <<< place) := by
  rw [leN_set _ _ hp, h, Nat.xor_assoc, Nat.shiftLeft_xor_distrib]
  congr 2
  have h8 : (place + i) % 8 < 8 := Nat.mod_lt _ (by decide)
  have h2 : 2 ^ ((place + i) % 8) < 256 := Nat.pow_lt_pow_right (a := 2) (by decide) h8
  rw [UInt8.toNat_ofNat', Nat.mod_eq_of_lt h2, Nat.shiftLeft_eq, Nat.shiftLeft_eq, ← Nat.pow_add, ← Nat.pow_add]
  congr 1
  omega
theorem own_set {w : World} {base : Nat} {e : TypeId} {A : Option Addr} {c j : Nat} {m : List UInt8} {x : UInt8} {g : Nat} (h : OwnB w base e A c m) (hA : A = some ⟨g, 0, none⟩) (_hj : j < m.length) : OwnB (w.setCell ⟨g, j, none⟩ (bv x)) base e A c (m.set j x) := by
  obtain ⟨h1, h2⟩ := h
  rcases h2 with ⟨hv, hn⟩ | ⟨g', cap, cur, hv, hb, hh, hnc, hcm, hcs, ht⟩
  · subst hA; simp at hv
  · subst hA
    simp at hv
    obtain ⟨rfl, rfl⟩ := hv
    have hb2 : bvs (m.set j x) = (bvs m).set j (bv x) := by rw [bvs, bvs, List.map_set]
    refine ⟨by simp, .inr ⟨g, c, cur.setIfInBounds j (bv x), by simp, hb, ?_, by simpa using hnc, hcm, by simpa using hcs, ?_⟩⟩
    · simp [World.setCell, Array.getElem?_modify, hh]
    · rw [Array.toList_setIfInBounds, List.length_set, List.take_set, ht, hb2]

theorem Sl.apartB {w w5 w6 : World} {A : Option Addr} {c g : Nat} {l : List UInt8} (h : SlB w A c l) (hb : But g w w5) (_ : g < w.heap.size) (hb6 : Below w.heap.size w5 w6) (hA : l ≠ [] → A.map (·.block) ≠ some g) : SlB w6 A c l := by
  have h5 := SlB.but h hb hA
  refine ⟨h.1, h.2.1, h.2.2.1, h.2.2.2.1, fun j u hj => ?_⟩
  obtain ⟨ad, hA2, hc⟩ := h5.2.2.2.2 j u hj
  obtain ⟨ad', hA', hc'⟩ := h.2.2.2.2 j u hj
  rw [hA2] at hA'
  injection hA' with e
  subst e
  exact ⟨ad, hA2, (hb6.cell (World.block_lt_of_cell? w _ hc')).trans hc⟩
theorem own_copy {w : World} {base g cap : Nat} {e : TypeId} {cur : List Value} {l m f : List UInt8} (hg : base ≤ g) (hh : w.heap[g]? = some (.cells (splice cur 0 (bvs m)).toArray e (0, 0))) (hn : (l ++ f).length ≤ cap) (hcm : cap ≤ maxLen)
    (hcs : cur.length = cap) (ht : cur.take (l ++ f).length = bvs (l ++ f)) (hlm : m.length = l.length) : OwnB w base e (some ⟨g, 0, none⟩) cap (m ++ f) := by
  have h1 : (m ++ f).length = (l ++ f).length := by simp [hlm]
  have h2 : (bvs m).length = m.length := by simp
  refine ⟨by simp, .inr ⟨g, cap, _, rfl, hg, hh, by rw [h1]; exact hn, hcm, ?_, ?_⟩⟩
  · simp only [List.size_toArray]
    rw [length_splice _ _ _ (by rw [h2, hcs, hlm]; rw [List.length_append] at hn; omega), hcs]
    omega
  · show List.take ((m ++ f).length * 1) (splice cur 0 (bvs m)) = bvs (m ++ f)
    have h3 : bvs (m ++ f) = bvs m ++ bvs f := List.map_append
    have h4 : (cur.drop m.length).take f.length = bvs f := by
      have := congrArg (List.drop l.length) ht
      rw [List.drop_take, List.length_append, Nat.add_sub_cancel_left] at this
      rw [hlm, this]
      show (bvs (l ++ f)).drop l.length = bvs f
      rw [show bvs (l ++ f) = bvs l ++ bvs f from List.map_append, List.drop_left' (by simp)]
    rw [h3, ← h4]
    unfold splice
    rw [List.take_zero, List.nil_append, Nat.zero_add, h2, Nat.mul_one, List.length_append, List.take_append, h2, List.take_of_length_le (by rw [h2]; omega), Nat.add_sub_cancel_left]
theorem opened_other {l m : List UInt8} (h : sumW m ≠ sumW l) : opened (m ++ four (sumW l)) = ([], 11) := by
  have h4 := four_len (sumW l)
  unfold opened
  have hl : (m ++ four (sumW l)).length - 4 = m.length := by simp [h4]
  rw [if_neg (by rw [List.length_append, h4]; omega), hl, List.take_left, List.drop_left, if_neg (fun e => h (four_inj e))]

end Go.Proofs.Ytgfigkenpmmdeaa

namespace Go.Proofs.Ytgfigkenpmmdeaa
open Go.RowKit
attribute [local go_sem ↓] Go.wp_at_zero Go.wp_at_succ

theorem frm_nil : frm [] = [0, 82, 125, 83, 81] := by
  unfold frm txb
  rw [show vb ([] : List UInt8).length = [0] from vb_small (by decide)]
  decide +kernel
theorem FTake_len (A : Option Addr) (c k : Nat) (l : List UInt8) (w : World) (hk : k = l.length) (hs : SlB w A c l) (hl : l.length ≤ 10000000) :
    Calls Try.prog 45 #[.slice A k c] w (TakesF w (ftake l)) := by subst hk; exact FTake_any A c l w hs hl
end Go.Proofs.Ytgfigkenpmmdeaa

namespace Go.Proofs.Ytgfigkenpmmdeaa
open Go.RowKit
attribute [local go_sem ↓] Go.wp_at_zero Go.wp_at_succ

def ptx (ps : List Pt) : List (List UInt8) := ps.map (·.2.2)
theorem ptx_get {ps : List Pt} {k : Nat} (h : k < (ptx ps).length) (h2 : k < ps.length) : (ptx ps)[k] = ps[k].2.2 := List.getElem_map _
def frms (ts : List (List UInt8)) : List UInt8 := ts.flatMap frm
def fjoin (ts : List (List UInt8)) : List UInt8 × Nat := if ts.any (fun t => decide (65536 < t.length)) then ([], 3) else (frms ts, 0)
theorem fjoin_long {ts : List (List UInt8)} {k : Nat} (hk : k < ts.length) (h : 65536 < ts[k].length) : fjoin ts = ([], 3) := by
  unfold fjoin; rw [if_pos]
  exact List.any_eq_true.2 ⟨ts[k], List.getElem_mem hk, decide_eq_true h⟩
theorem fjoin_ok {ts : List (List UInt8)} (h : ∀ t ∈ ts, t.length ≤ 65536) : fjoin ts = (frms ts, 0) := by
  unfold fjoin; rw [if_neg]
  intro he
  obtain ⟨t, ht, hd⟩ := List.any_eq_true.1 he
  have := of_decide_eq_true hd
  have := h t ht
  omega
theorem frms_snoc {ts : List (List UInt8)} {k : Nat} (hk : k < ts.length) : frms (ts.take (k + 1)) = frms (ts.take k) ++ frm ts[k] := by
  unfold frms; rw [List.take_succ_eq_append_getElem hk, List.flatMap_append]; simp
theorem frms_le {ts : List (List UInt8)} (h : ∀ t ∈ ts, t.length ≤ 70000) : (frms ts).length ≤ 70014 * ts.length := by
  induction ts with
  | nil => simp [frms]
  | cons t ts ih =>
    have h1 := h t (by simp)
    have h2 := ih (fun q hq => h q (by simp [hq]))
    have h3 := frm_len t
    have h4 := vb_le10 (n := t.length) (by omega)
    simp only [frms, List.flatMap_cons, List.length_append, List.length_cons] at h2 ⊢
    omega
/-- what Join answers -/
def JoinsB (w0 : World) (o : List UInt8 × Nat) (e : Ending) (w' : World) : Prop :=
  ∃ A c m, e = .returned (.tuple #[.slice A (List.length m) c, errv o.2]) ∧ Hid (m = o.1) ∧ SlB w' A c m ∧ Below w0.heap.size w0 w'

end Go.Proofs.Ytgfigkenpmmdeaa

namespace Go.Proofs.Ytgfigkenpmmdeaa
open Go.RowKit
attribute [local go_sem ↓] Go.wp_at_zero Go.wp_at_succ

theorem sl_info : (Try.prog.info? 22).map (fun i => (i.zero, i.size, i.bytes)) = some (some (.slice none 0 0), 1, 24) := by kernel_rfl
theorem frms_le' {ts : List (List UInt8)} (h : ∀ t ∈ ts, t.length ≤ 300) : (frms ts).length ≤ 314 * ts.length := by
  induction ts with
  | nil => simp [frms]
  | cons t ts ih =>
    have h1 := h t (by simp)
    have h2 := ih (fun q hq => h q (by simp [hq]))
    have h3 := frm_len t
    have h4 := vb_le10 (n := t.length) (by omega)
    simp only [frms, List.flatMap_cons, List.length_append, List.length_cons] at h2 ⊢
    omega
/-- texts of the call's own -/
abbrev OwnT (w : World) (base : Nat) (A : Option Addr) (c : Nat) (ps : List Pt) : Prop := Own w base 22 1 A ps.length c (ps.map pv)
abbrev SlT (w : World) (A : Option Addr) (c : Nat) (ps : List Pt) : Prop := Sl w 1 A ps.length c (ps.map pv)
theorem one_pv (ps : List Pt) : ∀ u ∈ ps.map pv, u.oneCell' = true := by
  intro u hu
  simp only [List.mem_map] at hu
  obtain ⟨b, _, rfl⟩ := hu
  rfl
/-- append of texts -/
theorem wpl_texts {w : World} {ops : Array Oper} {rest : List Oper} {o : Oper} {a : Act} {Q : Exit → Act → World → Prop} (hgd : o.guard = none) (s x : Operand)
    (ho : o.op = .call { callee := .builtin .append, args := #[s, x], argTypes := #[128, 128] })
    (base : Nat) (A : Option Addr) (c : Nat) (l : List Pt) (hs : a.eval s = .slice A l.length c) (hown : OwnT w base A c l)
    (A2 : Option Addr) (c2 : Nat) (l2 : List Pt) (hx : a.eval x = .slice A2 l2.length c2) (hr : SlT w A2 c2 l2)
    (hlen : l.length + l2.length ≤ 100000) (hbase : base ≤ w.heap.size)
    (h : ∀ A' c' (m : List Pt) w', Hid (m = l ++ l2) → OwnT w' base A' c' m → Below base w w' → wpList Try.prog ops Q rest (a.put o.dst (.slice A' m.length c')) w') : wpList Try.prog ops Q (o :: rest) a w := by
  obtain ⟨i0, hi, hz0, hz1, hz2⟩ := info_parts sl_info
  refine wpl_append hgd s x 128 ho base 22 i0 (.slice none 0 0) 1 24 Try.underlying128 hi hz0 hz1 hz2 rfl (by decide) A l.length c (l.map pv) hs hown A2 l2.length c2 (l2.map pv) hx hr (one_pv l2) (by omega) (by simp only [maxLen]; omega) hbase ?_
  intro A' c' w' hap
  rw [← List.length_append]
  refine h A' c' (l ++ l2) w' rfl ?_ (hap.below hown hbase)
  have := hap.own
  simpa [OwnT] using this

end Go.Proofs.Ytgfigkenpmmdeaa
