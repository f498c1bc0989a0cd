/- WHAT IT HOLDS: the fixed fact of the manifest's laws, walked: the bytes of the empty manifest. | WHAT IT HOLDS: which cursors there are, plainly and walked. | WHAT IT HOLDS: parts appended, cloned; Step, walked. | WHAT IT HOLDS: the law CrcParts, walked. | WHAT IT HOLDS: the law CrcFinds, walked. | WHAT IT HOLDS: the law FrameFinds, walked. | WHAT IT HOLDS: frame.Join, and the document's frames, walked. | WHAT IT HOLDS: the law FrameJoins, walked. | WHAT IT HOLDS: frame.One, Prefix, All, walked. | WHAT IT HOLDS: signed numbers' numbers, plainly (no program). | WHAT IT HOLDS: what is put is taken as it was, of the reader's plain functions (no program). | WHAT IT HOLDS: one frame, put and taken, plainly (no program). -/
import Derived.Test.YtabnndjdkjkciaaGreatDoorManifestPartsG09
import Derived.Test.YtabnndjdkjkciaaGreatDoorManifestPartsG10
import Derived.Test.YtabnndjdkjkciaaGreatDoorManifestPartsG03
import Derived.Great.BuildSlice
import Derived.Test.YtabnndjdkjkciaaGreatDoorManifestPartsG05
import Derived.Laws.CopyOwn
import Derived.Test.YtabnndjdkjkciaaGreatDoorManifestPartsG04
import Derived.Lib.Zigzag
namespace Go.Proofs.YtabnndjdkjkciaaGreatDoor
open Go.RowKit
attribute [local go_sem ↓] Go.wp_at_zero Go.wp_at_succ

theorem zman : (#[.int .i64 0, .int .i64 0, .int .i64 0, .int .i64 0, .int .u8 0, .int .u8 0, .int .u8 0, .int .u8 0, .int .u8 0, .int .u8 0, .int .u8 0, .int .u8 0, .int .u8 0, .int .u8 0, .int .u8 0, .int .u8 0, .int .u8 0, .int .u8 0, .int .u8 0, .int .u8 0, .int .u8 0, .int .u8 0, .int .u8 0, .int .u8 0, .int .u8 0, .int .u8 0, .int .u8 0, .int .u8 0, .int .u8 0, .int .u8 0, .int .u8 0, .int .u8 0, .int .u8 0, .int .u8 0, .int .u8 0, .int .u8 0, .slice none 0 0] : Array Value) = mfa 0 0 0 0 dg0 none 0 0 := rfl
theorem mchk0 : mchk (0, 0, 0, 0, dg0, []) = 0 := by
  rw [mchk_rest (by decide) (by decide) (by decide) (by decide) (by decide) (fun _ => by decide)]
  rfl
def mtx0 : List UInt8 := List.replicate 37 0
theorem SlB.dg {w : World} {g : Nat} {n f t r : Int} {d : Dg} {A : Option Addr} {k c : Nat} (h : BlM w g n f t r d A k c) : SlB w (some ⟨g, 4, none⟩) 32 d.1 := by
  have hd := d.2
  refine ⟨by simp, by omega, by simp [maxLen], (fun h => by cases h), fun j u hj => ⟨_, rfl, ?_⟩⟩
  exact BlM.dg h j u (by simpa [dga] using hj)
theorem step_bytesG {P : Program} {w : World} {ops : Array Oper} {o : Oper} {a : Act} {K : Act → World → Prop} {Q : Exit → Act → World → Prop} {E : Prop} (t e : TypeId) (ht : P.underlying t = some (.slice e))
    (hinfo : (P.info? e).map (fun i => (i.zero, i.size, i.bytes)) = some (some (.int .u8 0), 1, 1)) (hw : Region.wanted o (yielded ops a.tmps) = true) (s x : Operand)
    (ho : o.op = .call { callee := .builtin .append, args := #[s, x], argTypes := #[t, t] })
    (base : Nat) (A : Option Addr) (c : Nat) (l : List UInt8) (hs : a.eval s = .slice A l.length c) (hown : OwnB w base e A c l)
    (A2 : Option Addr) (c2 n2 : Nat) (l2 : List UInt8) (hn2 : n2 = l2.length) (hx : a.eval x = .slice A2 n2 c2) (hr : SlB w A2 c2 l2)
    (hlen : l.length + l2.length ≤ 140737488355328) (hbase : base ≤ w.heap.size)
    (h : ∀ A' c' (m : List UInt8) w', Hid (m = l ++ l2) → OwnB w' base e A' c' m → w.grownBy w' (A.map (·.block)) → Below base w w' → K (a.put o.dst (.slice A' m.length c')) w') :
    if Region.wanted o (yielded ops a.tmps) = true then Oper.wp P o a w K Q else E := by
  subst hn2
  obtain ⟨i0, hi, hz0, hz1, hz2⟩ := info_parts hinfo
  refine step_append hw s x t ho base e i0 (.int .u8 0) 1 1 ht hi hz0 hz1 hz2 rfl (by decide) A l.length c (bvs l) hs hown A2 l2.length c2 (bvs l2) hx hr (one_bvs l2) (by omega) (by simp only [maxLen]; omega) hbase ?_
  intro A' c' w' hap
  rw [← List.length_append]
  refine h A' c' (l ++ l2) w' rfl ?_ hap.grown (hap.below hown hbase)
  have := hap.own
  simpa [OwnB] using this
theorem lit64 {w W : World} (hb : w.heap.size ≤ W.heap.size) (n : Nat) : Own (W.alloc (.cells #[nv n] 124)) w.heap.size 124 1 (some ⟨W.heap.size, 0, none⟩) 1 1 [nv n] :=
  Own.more (World.ownsRow_lit W #[nv n] 1 (Nat.le_refl _) (by simp [maxLen]) (by simp)) hb
set_option maxRecDepth 100000 in
set_option maxHeartbeats 2000000 in
theorem MPut0_any (w : World) : Calls Tryz.prog 18 #[.agg (mfa 0 0 0 0 dg0 none 0 0)] w fun e w' => ∃ A c m, e = .returned (.tuple #[.slice A (List.length m) c, .nilIface]) ∧ Hid (m = frm mtx0) ∧ SlB w' A c m ∧ Below w.heap.size w w' := by
  have hB : BlM _ w.heap.size 0 0 0 0 dg0 none 0 0 := Blk.new w 57 (mfa 0 0 0 0 dg0 none 0 0)
  have hbw := below_new w (.cells (mfa 0 0 0 0 dg0 none 0 0) 57)
  have hms := Lib.hid (mfa_size 0 0 0 0 dg0 none 0 0)
  have hC := fun W => MCheck_any (A := none) (c := 0) 0 0 0 0 dg0 [] W (Sl.none_ _ _) (fun p hp => by cases hp)
  rw [mchk0] at hC
  have HC := Lib.hid hC
  clear hC
  go_enter Tryz.func18, Tryz.ntmps18
  go_wp2_with (refine wpl_loadG rfl 57 _ rfl ⟨w.heap.size, 0, none⟩ (mfa 0 0 0 0 dg0 none 0 0) rfl hB.cells _ Tryz.underlying57 rfl (by rw [hms.out]; kernel_rfl) ?_)
  refine (HC.out _).mono ?_
  rintro e w1 ⟨rfl, hb1⟩
  rw [show errv 0 = .nilIface from rfl]
  have hB1 : BlM w1 w.heap.size 0 0 0 0 dg0 none 0 0 := Blk.below hB hb1
  have hw1 := bel_call hbw hb1
  clear HC hB hbw hb1
  obtain ⟨a0, a1, a2, a3, a4⟩ := BlM.five hB1
  have hL : SlN (w1.alloc (.cells #[.int .u64 0, .int .u64 0, .int .u64 0, .int .u64 0] 124)) (some ⟨w1.heap.size, 0, none⟩) 4 [0, 0, 0, 0] := Sl.lits w1 [nv 0, nv 0, nv 0, nv 0] 124 (by simp [maxLen])
  have HL := Lib.hid hL
  clear hL
  go_wp2_with fail
  refine (Put_any none 0 [] _ 4 [0, 0, 0, 0] _ (by simp) (Sl.none_ _ _) HL.out (by simp) (by intro z hz; simp at hz; subst hz; unfold U64; omega)).mono ?_
  rintro e w2 ⟨A2, c2, m2, rfl, hm2, ho2, hb2⟩
  have hm2b : m2 = [0, 0, 0, 0] := by rw [hm2.out]; simp [vbs, vb_small]
  have hml2 : m2.length = 4 := by rw [hm2b]; rfl
  have HM2 := Lib.hid hm2b
  have hB2 : BlM w2 w.heap.size 0 0 0 0 dg0 none 0 0 := Blk.below (Blk.alloc hB1 _) hb2
  have hw2 := bel_call (bel_alloc hw1 _) hb2
  have hl1 := Blk.lt hB1
  have ho2b := Own.more (base' := w.heap.size + 1) ho2 (by simp; omega)
  have hmle2 : m2.length ≤ 4 := by omega
  clear hB1 hw1 hb2 hm2 ho2 HL hm2b hml2 a0 a1 a2 a3 a4
  go_upto_region 5 with (fail)
  go_cut [5] (fun s5 wz => ∃ A c m, s5 = .slice A (List.length m) c ∧ Hid (m = mtx0) ∧ SlB wz A c m ∧ BlM wz w.heap.size 0 0 0 0 dg0 none 0 0 ∧ Below w.heap.size w wz)
  case first =>
    have hst : BlM w2.drew w.heap.size 0 0 0 0 dg0 none 0 0 ∧ Below w.heap.size w w2.drew := ⟨Blk.drew hB2, hw2.drew⟩
    have hoS := World.ownsRow.drew ho2b
    clear hB2 hw2
    refine wp_region_held_drew (S := (fun W => BlM W w.heap.size 0 0 0 0 dg0 none 0 0 ∧ Below w.heap.size w W)) (by kernel_rfl) ?_ (fun hHeld => ?_)
    · exact hst
    refine gen0 (T := fun W => ((fun W => BlM W w.heap.size 0 0 0 0 dg0 none 0 0 ∧ Below w.heap.size w W)) W ∧ OwnB W (w.heap.size + 1) 5 A2 c2 m2 ∧ True) ?_ (fun wq1 hT => ?_)
    · exact ⟨by (first | with_reducible exact hst | exact ⟨Blk.below hHeld.1 hb9, bel_call hHeld.2 hb9⟩ | exact ⟨(hb8.block w.heap.size (Nat.lt_succ_self _)).trans hHeld.1, hHeld.2.trans (hb8.mono (Nat.le_succ _))⟩ | exact ⟨Blk.alloc hHeld.1 _, bel_alloc hHeld.2 _⟩), by (first | with_reducible assumption | exact hoS | exact ho8 | exact Own.below f0 (below_new _ _) | exact lit64 hHeld.2.size 0 | exact Own.other f1 f0 hg8 (by decide) | exact ho9.sl), trivial⟩
    (try clear f0 f1 f2 f3 f4 f5 f6 f7 f8 f9 f10 f11)
    obtain ⟨hHeld, f0, -⟩ := hT
    refine wpAnyH_take (i := 0) (oi := ⟨some 27, _, _, _, _, _⟩) (v := ?_) rfl (by kernel_rfl) (by kernel_rfl) (by kernel_rfl) (fun _ _ _ h => h) (Or.inl ⟨by kernel_rfl, ?_⟩) (by assumption) ?_
    rotate_left
    · (intro wS hSw; (try dsimp only at hSw); obtain ⟨q0, q1, q2, q3, q4⟩ := BlM.five hSw.1; clear hSw; go_simp; (try with_reducible rfl))
    (try simp only [Act.put, List.setIfInBounds_toArray, List.set_cons_zero, List.set_cons_succ])
    refine wpAnyH_take (i := 1) (oi := ⟨some 28, _, _, _, _, _⟩) (v := ?_) rfl (by kernel_rfl) (by kernel_rfl) (by kernel_rfl) (fun _ _ _ h => h) (Or.inl ⟨by kernel_rfl, ?_⟩) (by assumption) ?_
    rotate_left
    · (intro wS hSw; (try dsimp only at hSw); obtain ⟨q0, q1, q2, q3, q4⟩ := BlM.five hSw.1; clear hSw; go_simp; (try with_reducible rfl))
    (try simp only [Act.put, List.setIfInBounds_toArray, List.set_cons_zero, List.set_cons_succ])
    refine wpAnyH_take (i := 2) (oi := ⟨some 29, _, _, _, _, _⟩) (v := ?_) rfl (by kernel_rfl) (by kernel_rfl) (by kernel_rfl) (fun _ _ _ h => h) (Or.inl ⟨by kernel_rfl, ?_⟩) (by assumption) ?_
    rotate_left
    · (intro wS hSw; (try dsimp only at hSw); obtain ⟨q0, q1, q2, q3, q4⟩ := BlM.five hSw.1; clear hSw; go_simp; (try with_reducible rfl))
    (try simp only [Act.put, List.setIfInBounds_toArray, List.set_cons_zero, List.set_cons_succ])
    refine wpAnyH_take (i := 4) (oi := ⟨some 31, _, _, _, _, _⟩) (v := ?_) rfl (by kernel_rfl) (by kernel_rfl) (by kernel_rfl) (fun _ _ _ h => h) (Or.inl ⟨by kernel_rfl, ?_⟩) (by assumption) ?_
    rotate_left
    · (intro wS hSw; (try dsimp only at hSw); obtain ⟨q0, q1, q2, q3, q4⟩ := BlM.five hSw.1; clear hSw; go_simp; (try with_reducible rfl))
    (try simp only [Act.put, List.setIfInBounds_toArray, List.set_cons_zero, List.set_cons_succ])
    refine wpAnyH_take (i := 5) (oi := ⟨some 32, _, _, _, _, _⟩) (v := ?_) rfl (by kernel_rfl) (by kernel_rfl) (by kernel_rfl) (fun _ _ _ h => h) (Or.inl ⟨by kernel_rfl, ?_⟩) (by assumption) ?_
    rotate_left
    · (intro wS hSw; (try dsimp only at hSw); obtain ⟨q0, q1, q2, q3, q4⟩ := BlM.five hSw.1; clear hSw; go_simp; (try with_reducible rfl))
    (try simp only [Act.put, List.setIfInBounds_toArray, List.set_cons_zero, List.set_cons_succ])
    refine wpAnyH_take (i := 6) (oi := ⟨some 33, _, _, _, _, _⟩) (v := ?_) rfl (by kernel_rfl) (by kernel_rfl) (by kernel_rfl) (fun _ _ _ h => h) (Or.inl ⟨by kernel_rfl, ?_⟩) (by assumption) ?_
    rotate_left
    · (intro wS hSw; (try dsimp only at hSw); obtain ⟨q0, q1, q2, q3, q4⟩ := BlM.five hSw.1; clear hSw; go_simp; (try with_reducible rfl))
    (try simp only [Act.put, List.setIfInBounds_toArray, List.set_cons_zero, List.set_cons_succ])
    refine wpAnyH_take (i := 7) (oi := ⟨some 34, _, _, _, _, _⟩) (v := ?_) rfl (by kernel_rfl) (by kernel_rfl) (by kernel_rfl) (fun _ _ _ h => h) (Or.inl ⟨by kernel_rfl, ?_⟩) (by assumption) ?_
    rotate_left
    · (intro wS hSw; (try dsimp only at hSw); obtain ⟨q0, q1, q2, q3, q4⟩ := BlM.five hSw.1; clear hSw; go_simp; (try with_reducible rfl))
    (try simp only [Act.put, List.setIfInBounds_toArray, List.set_cons_zero, List.set_cons_succ])
    refine wpAnyH_ready (rs := [3, 8]) (by kernel_rfl) (by simp) ?_
    refine AllReadyH.cons (o := ⟨some 30, _, _, _, _, _⟩) rfl (fun K hK => ?_) ?_
    · (refine step_bytesG 29 5 Tryz.underlying29 u8_info (by kernel_rfl) (.tmp 27) (.tmp 29) rfl (w.heap.size + 1) A2 c2 m2 rfl f0 (some ⟨w.heap.size, 4, none⟩) 32 32 dg0.1 (by simp [dg0]) rfl (SlB.dg hHeld.1) (by simp [dg0]; omega) (Blk.lt hHeld.1) ?_; intro A8 c8 m8 w8 hm8 ho8 hg8 hb8)
      refine hK.out _ _ ?_ (fun _ => ?_)
      · ((try dsimp only); (first | with_reducible exact hst | exact ⟨Blk.below hHeld.1 hb9, bel_call hHeld.2 hb9⟩ | exact ⟨(hb8.block w.heap.size (Nat.lt_succ_self _)).trans hHeld.1, hHeld.2.trans (hb8.mono (Nat.le_succ _))⟩ | exact ⟨Blk.alloc hHeld.1 _, bel_alloc hHeld.2 _⟩))
      clear hK K
      (try simp only [Act.put, List.setIfInBounds_toArray, List.set_cons_zero, List.set_cons_succ])
      refine gen0 (T := fun W => ((fun W => BlM W w.heap.size 0 0 0 0 dg0 none 0 0 ∧ Below w.heap.size w W)) W ∧ OwnB W (w.heap.size + 1) 5 A8 c8 m8 ∧ True) ?_ (fun wq2 hT => ?_)
      · exact ⟨by (first | with_reducible exact hst | exact ⟨Blk.below hHeld.1 hb9, bel_call hHeld.2 hb9⟩ | exact ⟨(hb8.block w.heap.size (Nat.lt_succ_self _)).trans hHeld.1, hHeld.2.trans (hb8.mono (Nat.le_succ _))⟩ | exact ⟨Blk.alloc hHeld.1 _, bel_alloc hHeld.2 _⟩), by (first | with_reducible assumption | exact hoS | exact ho8 | exact Own.below f0 (below_new _ _) | exact lit64 hHeld.2.size 0 | exact Own.other f1 f0 hg8 (by decide) | exact ho9.sl), trivial⟩
      (try clear f0 f1 f2 f3 f4 f5 f6 f7 f8 f9 f10 f11)
      obtain ⟨hHeld, f0, -⟩ := hT
      refine wpAnyH_ready (rs := [8]) (by kernel_rfl) (by simp) ?_
      refine AllReadyH.cons (o := ⟨some 35, _, _, _, _, _⟩) rfl (fun K hK => ?_) AllReadyH.nil
      go_simp
      refine hK.out _ _ ?_ (fun _ => ?_)
      · ((try dsimp only); (first | with_reducible exact hst | exact ⟨Blk.below hHeld.1 hb9, bel_call hHeld.2 hb9⟩ | exact ⟨(hb8.block w.heap.size (Nat.lt_succ_self _)).trans hHeld.1, hHeld.2.trans (hb8.mono (Nat.le_succ _))⟩ | exact ⟨Blk.alloc hHeld.1 _, bel_alloc hHeld.2 _⟩))
      clear hK K
      (try simp only [Act.put, List.setIfInBounds_toArray, List.set_cons_zero, List.set_cons_succ])
      refine gen0 (T := fun W => ((fun W => BlM W w.heap.size 0 0 0 0 dg0 none 0 0 ∧ Below w.heap.size w W)) W ∧ OwnB W (w.heap.size + 1) 5 A8 c8 m8 ∧ Own W w.heap.size 124 1 (some ⟨wq2.heap.size, 0, none⟩) 1 1 [nv 0] ∧ True) ?_ (fun wq3 hT => ?_)
      · exact ⟨by (first | with_reducible exact hst | exact ⟨Blk.below hHeld.1 hb9, bel_call hHeld.2 hb9⟩ | exact ⟨(hb8.block w.heap.size (Nat.lt_succ_self _)).trans hHeld.1, hHeld.2.trans (hb8.mono (Nat.le_succ _))⟩ | exact ⟨Blk.alloc hHeld.1 _, bel_alloc hHeld.2 _⟩), by (first | with_reducible assumption | exact hoS | exact ho8 | exact Own.below f0 (below_new _ _) | exact lit64 hHeld.2.size 0 | exact Own.other f1 f0 hg8 (by decide) | exact ho9.sl), by (first | with_reducible assumption | exact hoS | exact ho8 | exact Own.below f0 (below_new _ _) | exact lit64 hHeld.2.size 0 | exact Own.other f1 f0 hg8 (by decide) | exact ho9.sl), trivial⟩
      (try clear f0 f1 f2 f3 f4 f5 f6 f7 f8 f9 f10 f11)
      obtain ⟨hHeld, f0, f1, -⟩ := hT
      refine wpAnyH_ready (rs := [9]) (by kernel_rfl) (by simp) ?_
      refine AllReadyH.cons (o := ⟨some 36, _, _, _, _, _⟩) rfl (fun K hK => ?_) AllReadyH.nil
      go_simp
      (refine (Put_any A8 c8 m8 _ 1 [0] _ (by rw [hm8.out, HM2.out]; simp [dg0]) f0.sl f1.sl (by simp) (by intro z hz; simp at hz; subst hz; unfold U64; omega)).mono ?_; rintro e w9 ⟨A9, c9, m9, rfl, hm9, ho9, hb9⟩)
      go_wp2_with fail
      refine hK.out _ _ ?_ (fun _ => ?_)
      · ((try dsimp only); (first | with_reducible exact hst | exact ⟨Blk.below hHeld.1 hb9, bel_call hHeld.2 hb9⟩ | exact ⟨(hb8.block w.heap.size (Nat.lt_succ_self _)).trans hHeld.1, hHeld.2.trans (hb8.mono (Nat.le_succ _))⟩ | exact ⟨Blk.alloc hHeld.1 _, bel_alloc hHeld.2 _⟩))
      clear hK K
      (try simp only [Act.put, List.setIfInBounds_toArray, List.set_cons_zero, List.set_cons_succ])
      refine gen0 (T := fun W => ((fun W => BlM W w.heap.size 0 0 0 0 dg0 none 0 0 ∧ Below w.heap.size w W)) W ∧ SlB W A9 c9 m9 ∧ True) ?_ (fun wq4 hT => ?_)
      · exact ⟨by (first | with_reducible exact hst | exact ⟨Blk.below hHeld.1 hb9, bel_call hHeld.2 hb9⟩ | exact ⟨(hb8.block w.heap.size (Nat.lt_succ_self _)).trans hHeld.1, hHeld.2.trans (hb8.mono (Nat.le_succ _))⟩ | exact ⟨Blk.alloc hHeld.1 _, bel_alloc hHeld.2 _⟩), by (first | with_reducible assumption | exact hoS | exact ho8 | exact Own.below f0 (below_new _ _) | exact lit64 hHeld.2.size 0 | exact Own.other f1 f0 hg8 (by decide) | exact ho9.sl), trivial⟩
      (try clear f0 f1 f2 f3 f4 f5 f6 f7 f8 f9 f10 f11)
      obtain ⟨hHeld, f0, -⟩ := hT
      refine wpAnyH_take (i := 10) (oi := ⟨some 5, _, _, _, _, _⟩) (v := ?_) rfl (by kernel_rfl) (by kernel_rfl) (by kernel_rfl) (fun _ _ _ h => h) (Or.inl ⟨by kernel_rfl, ?_⟩) (by assumption) ?_
      rotate_left
      · (intro wS hSw; (try dsimp only at hSw); obtain ⟨q0, q1, q2, q3, q4⟩ := BlM.five hSw.1; clear hSw; go_simp; (try with_reducible rfl))
      (try simp only [Act.put, List.setIfInBounds_toArray, List.set_cons_zero, List.set_cons_succ])
      refine wpAnyH_done (by kernel_rfl) ?_ _
      (go_wp2_with fail; go_meet; exact ⟨A9, c9, m9, rfl, (show _ = _ from by rw [hm9.out, hm8.out, HM2.out]; simp [vbs, vb_small, dg0, mtx0]), f0, hHeld.1, hHeld.2⟩)
    refine AllReadyH.cons (o := ⟨some 35, _, _, _, _, _⟩) rfl (fun K hK => ?_) ?_
    · go_simp
      refine hK.out _ _ ?_ (fun _ => ?_)
      · ((try dsimp only); (first | with_reducible exact hst | exact ⟨Blk.below hHeld.1 hb9, bel_call hHeld.2 hb9⟩ | exact ⟨(hb8.block w.heap.size (Nat.lt_succ_self _)).trans hHeld.1, hHeld.2.trans (hb8.mono (Nat.le_succ _))⟩ | exact ⟨Blk.alloc hHeld.1 _, bel_alloc hHeld.2 _⟩))
      clear hK K
      (try simp only [Act.put, List.setIfInBounds_toArray, List.set_cons_zero, List.set_cons_succ])
      refine gen0 (T := fun W => ((fun W => BlM W w.heap.size 0 0 0 0 dg0 none 0 0 ∧ Below w.heap.size w W)) W ∧ OwnB W (w.heap.size + 1) 5 A2 c2 m2 ∧ Own W w.heap.size 124 1 (some ⟨wq1.heap.size, 0, none⟩) 1 1 [nv 0] ∧ True) ?_ (fun wq5 hT => ?_)
      · exact ⟨by (first | with_reducible exact hst | exact ⟨Blk.below hHeld.1 hb9, bel_call hHeld.2 hb9⟩ | exact ⟨(hb8.block w.heap.size (Nat.lt_succ_self _)).trans hHeld.1, hHeld.2.trans (hb8.mono (Nat.le_succ _))⟩ | exact ⟨Blk.alloc hHeld.1 _, bel_alloc hHeld.2 _⟩), by (first | with_reducible assumption | exact hoS | exact ho8 | exact Own.below f0 (below_new _ _) | exact lit64 hHeld.2.size 0 | exact Own.other f1 f0 hg8 (by decide) | exact ho9.sl), by (first | with_reducible assumption | exact hoS | exact ho8 | exact Own.below f0 (below_new _ _) | exact lit64 hHeld.2.size 0 | exact Own.other f1 f0 hg8 (by decide) | exact ho9.sl), trivial⟩
      (try clear f0 f1 f2 f3 f4 f5 f6 f7 f8 f9 f10 f11)
      obtain ⟨hHeld, f0, f1, -⟩ := hT
      refine wpAnyH_ready (rs := [3]) (by kernel_rfl) (by simp) ?_
      refine AllReadyH.cons (o := ⟨some 30, _, _, _, _, _⟩) rfl (fun K hK => ?_) AllReadyH.nil
      (refine step_bytesG 29 5 Tryz.underlying29 u8_info (by kernel_rfl) (.tmp 27) (.tmp 29) rfl (w.heap.size + 1) A2 c2 m2 rfl f0 (some ⟨w.heap.size, 4, none⟩) 32 32 dg0.1 (by simp [dg0]) rfl (SlB.dg hHeld.1) (by simp [dg0]; omega) (Blk.lt hHeld.1) ?_; intro A8 c8 m8 w8 hm8 ho8 hg8 hb8)
      refine hK.out _ _ ?_ (fun _ => ?_)
      · ((try dsimp only); (first | with_reducible exact hst | exact ⟨Blk.below hHeld.1 hb9, bel_call hHeld.2 hb9⟩ | exact ⟨(hb8.block w.heap.size (Nat.lt_succ_self _)).trans hHeld.1, hHeld.2.trans (hb8.mono (Nat.le_succ _))⟩ | exact ⟨Blk.alloc hHeld.1 _, bel_alloc hHeld.2 _⟩))
      clear hK K
      (try simp only [Act.put, List.setIfInBounds_toArray, List.set_cons_zero, List.set_cons_succ])
      refine gen0 (T := fun W => ((fun W => BlM W w.heap.size 0 0 0 0 dg0 none 0 0 ∧ Below w.heap.size w W)) W ∧ OwnB W (w.heap.size + 1) 5 A8 c8 m8 ∧ Own W w.heap.size 124 1 (some ⟨wq1.heap.size, 0, none⟩) 1 1 [nv 0] ∧ True) ?_ (fun wq6 hT => ?_)
      · exact ⟨by (first | with_reducible exact hst | exact ⟨Blk.below hHeld.1 hb9, bel_call hHeld.2 hb9⟩ | exact ⟨(hb8.block w.heap.size (Nat.lt_succ_self _)).trans hHeld.1, hHeld.2.trans (hb8.mono (Nat.le_succ _))⟩ | exact ⟨Blk.alloc hHeld.1 _, bel_alloc hHeld.2 _⟩), by (first | with_reducible assumption | exact hoS | exact ho8 | exact Own.below f0 (below_new _ _) | exact lit64 hHeld.2.size 0 | exact Own.other f1 f0 hg8 (by decide) | exact ho9.sl), by (first | with_reducible assumption | exact hoS | exact ho8 | exact Own.below f0 (below_new _ _) | exact lit64 hHeld.2.size 0 | exact Own.other f1 f0 hg8 (by decide) | exact ho9.sl), trivial⟩
      (try clear f0 f1 f2 f3 f4 f5 f6 f7 f8 f9 f10 f11)
      obtain ⟨hHeld, f0, f1, -⟩ := hT
      refine wpAnyH_ready (rs := [9]) (by kernel_rfl) (by simp) ?_
      refine AllReadyH.cons (o := ⟨some 36, _, _, _, _, _⟩) rfl (fun K hK => ?_) AllReadyH.nil
      go_simp
      (refine (Put_any A8 c8 m8 _ 1 [0] _ (by rw [hm8.out, HM2.out]; simp [dg0]) f0.sl f1.sl (by simp) (by intro z hz; simp at hz; subst hz; unfold U64; omega)).mono ?_; rintro e w9 ⟨A9, c9, m9, rfl, hm9, ho9, hb9⟩)
      go_wp2_with fail
      refine hK.out _ _ ?_ (fun _ => ?_)
      · ((try dsimp only); (first | with_reducible exact hst | exact ⟨Blk.below hHeld.1 hb9, bel_call hHeld.2 hb9⟩ | exact ⟨(hb8.block w.heap.size (Nat.lt_succ_self _)).trans hHeld.1, hHeld.2.trans (hb8.mono (Nat.le_succ _))⟩ | exact ⟨Blk.alloc hHeld.1 _, bel_alloc hHeld.2 _⟩))
      clear hK K
      (try simp only [Act.put, List.setIfInBounds_toArray, List.set_cons_zero, List.set_cons_succ])
      refine gen0 (T := fun W => ((fun W => BlM W w.heap.size 0 0 0 0 dg0 none 0 0 ∧ Below w.heap.size w W)) W ∧ SlB W A9 c9 m9 ∧ True) ?_ (fun wq7 hT => ?_)
      · exact ⟨by (first | with_reducible exact hst | exact ⟨Blk.below hHeld.1 hb9, bel_call hHeld.2 hb9⟩ | exact ⟨(hb8.block w.heap.size (Nat.lt_succ_self _)).trans hHeld.1, hHeld.2.trans (hb8.mono (Nat.le_succ _))⟩ | exact ⟨Blk.alloc hHeld.1 _, bel_alloc hHeld.2 _⟩), by (first | with_reducible assumption | exact hoS | exact ho8 | exact Own.below f0 (below_new _ _) | exact lit64 hHeld.2.size 0 | exact Own.other f1 f0 hg8 (by decide) | exact ho9.sl), trivial⟩
      (try clear f0 f1 f2 f3 f4 f5 f6 f7 f8 f9 f10 f11)
      obtain ⟨hHeld, f0, -⟩ := hT
      refine wpAnyH_take (i := 10) (oi := ⟨some 5, _, _, _, _, _⟩) (v := ?_) rfl (by kernel_rfl) (by kernel_rfl) (by kernel_rfl) (fun _ _ _ h => h) (Or.inl ⟨by kernel_rfl, ?_⟩) (by assumption) ?_
      rotate_left
      · (intro wS hSw; (try dsimp only at hSw); obtain ⟨q0, q1, q2, q3, q4⟩ := BlM.five hSw.1; clear hSw; go_simp; (try with_reducible rfl))
      (try simp only [Act.put, List.setIfInBounds_toArray, List.set_cons_zero, List.set_cons_succ])
      refine wpAnyH_done (by kernel_rfl) ?_ _
      (go_wp2_with fail; go_meet; exact ⟨A9, c9, m9, rfl, (show _ = _ from by rw [hm9.out, hm8.out, HM2.out]; simp [vbs, vb_small, dg0, mtx0]), f0, hHeld.1, hHeld.2⟩)
    exact AllReadyH.nil
  case rest =>
    obtain ⟨A5, c5, m5, rfl, hm5, hs5, hB5, hw5⟩ := hcut
    have hml5 : m5.length ≤ 100 := by rw [hm5.out]; simp [mtx0]
    obtain ⟨a0, a1, a2, a3, a4⟩ := BlM.five hB5
    go_wp2_with fail
    go_loopw [40, 5] (fun x y wr => x = .int .i64 0 ∧ y = .slice A5 m5.length c5 ∧ wr = wc) (fun x y wr => 0)
    case atStart => exact ⟨rfl, rfl, rfl⟩
    case round =>
      obtain ⟨rfl, rfl, rfl⟩ := hrel
      go_wp2_with fail
      refine (FPut_any none 0 [] A5 c5 m5 _ (by simp) (Sl.none_ _ _) hs5 (by omega)).mono ?_
      rintro e w6 ⟨A6, c6, m6, he, hm6, ho6, hb6⟩
      have hfp : fput [] m5 = (frm mtx0, 0) := by
        unfold fput
        rw [hm5.out, if_neg (by simp [mtx0])]
        rfl
      rw [hfp] at he hm6
      dsimp only at he hm6
      rw [show errv 0 = .nilIface from rfl] at he
      subst he
      go_wp2_with fail
      go_ret2
      exact ⟨A6, c6, m6, rfl, hm6, ho6.sl, bel_call hw5 hb6⟩
set_option maxRecDepth 100000 in
set_option maxHeartbeats 1000000 in
theorem alive15_any (w : World) : Calls Tryz.prog 6 #[] w fun e w' => e = .returned (.bool true) ∧ Below w.heap.size w w' := by
  have hP := fun W => MPut0_any W
  rw [← zman] at hP
  have HP := Lib.hid hP
  clear hP
  go_enter Tryz.func6, Tryz.ntmps6
  go_wp2_with fail
  refine (HP.out _).mono ?_
  rintro e w1 ⟨A1, c1, m1, rfl, hm1, hs1, hb1⟩
  have hfl : (frm mtx0) = 37 :: (mtx0 ++ four (sumW (txb mtx0))) := by
    unfold frm txb
    rw [show mtx0.length = 37 from by simp [mtx0], vb_small (by decide)]
    rfl
  have h42 : m1.length = 42 := by rw [hm1.out, hfl]; simp [four_len, mtx0]
  obtain ⟨ad, hA, hc0⟩ := Sl.at1 (f := bv) (l := m1) hs1 (k := 0) (by omega)
  obtain ⟨ad2, hA2, hc37⟩ := Sl.at1 (f := bv) (l := m1) hs1 (k := 37) (by omega)
  subst hA
  injection hA2 with hA2
  subst hA2
  have hv0 : m1[0]'(by omega) = 37 := by
    have := hm1.out
    subst this
    simp [hfl]
  have hv37 : m1[37]'(by omega) = 0 := by
    have := hm1.out
    subst this
    simp only [hfl, List.getElem_cons_succ]
    rw [List.getElem_append_left (by simp [mtx0])]
    simp [mtx0]
  rw [hv0] at hc0
  rw [hv37] at hc37
  have hc0b : w1.cell? ad = some (.int .u8 37) := by
    have h0 : ad.add 0 = ad := by simp [Addr.add]
    rw [h0] at hc0
    exact hc0
  have hsp := World.cell?_spot hc0b
  obtain ⟨ab, ao, asp⟩ := ad
  dsimp only at hsp
  subst hsp
  have hc37b : w1.cell? ⟨ab, ao + 37, none⟩ = some (.int .u8 0) := by rw [← addr_lit]; exact hc37
  clear hc0 hc37
  have hcap : 42 ≤ c1 := by have := hs1.2.1; omega
  rw [h42]
  clear hv0 hv37 hfl h42 HP hm1
  go_wp2_with fail
  go_ret
  exact ⟨rfl, hb1⟩
end Go.Proofs.YtabnndjdkjkciaaGreatDoor

namespace Go.Proofs.YtabnndjdkjkciaaGreatDoor
open Go.RowKit
attribute [local go_sem ↓] Go.wp_at_zero Go.wp_at_succ

end Go.Proofs.YtabnndjdkjkciaaGreatDoor

namespace Go.Proofs.YtabnndjdkjkciaaGreatDoor
open Go.RowKit
attribute [local go_sem ↓] Go.wp_at_zero Go.wp_at_succ

section
variable {w W W' : World} {f nx t q : Int} {A : Option Addr} {k c : Nat} {p : Pt5}
end
end Go.Proofs.YtabnndjdkjkciaaGreatDoor

namespace Go.Proofs.YtabnndjdkjkciaaGreatDoor
open Go.RowKit
attribute [local go_sem ↓] Go.wp_at_zero Go.wp_at_succ

end Go.Proofs.YtabnndjdkjkciaaGreatDoor

namespace Go.Proofs.YtabnndjdkjkciaaGreatDoor
open Go.RowKit
attribute [local go_sem ↓] Go.wp_at_zero Go.wp_at_succ

end Go.Proofs.YtabnndjdkjkciaaGreatDoor

namespace Go.Proofs.YtabnndjdkjkciaaGreatDoor
open Go.RowKit
attribute [local go_sem ↓] Go.wp_at_zero Go.wp_at_succ

end Go.Proofs.YtabnndjdkjkciaaGreatDoor

namespace Go.Proofs.YtabnndjdkjkciaaGreatDoor
open Go.RowKit
attribute [local go_sem ↓] Go.wp_at_zero Go.wp_at_succ

/-- what Join answers -/
def JoinsB (w0 : World) (o : List UInt8 × Nat) (e : Ending) (w' : World) : Prop :=
  ∃ A c m, e = .returned (.tuple #[.slice A (List.length m) c, errv o.2]) ∧ Hid (m = o.1) ∧ SlB w' A c m ∧ Below w0.heap.size w0 w'

set_option maxRecDepth 100000 in
set_option maxHeartbeats 1000000 in
theorem rFrame_any (A : Option Addr) (c : Nat) (t : List UInt8) (w : World) (hs : SlB w A c t) (ht : t.length ≤ 1000000) :
    Calls Tryz.prog 108 #[.slice A t.length c] w (GivesB w (frm t)) := by
  have hvl := Lib.hid (vb_le10 (n := t.length) (by omega))
  go_enter Tryz.func108, Tryz.ntmps108
  go_wp2_with fail
  refine (rText_any A c t _ hs (by omega)).mono ?_
  rintro e w1 ⟨A1, c1, m1, rfl, hm1, ho1, hb1⟩
  have hm1' := Lib.hid (show m1 = txb t from hm1.out)
  have hl1 := Lib.hid (show m1.length ≤ 1000010 from by rw [hm1'.out]; unfold txb; rw [List.length_append]; have := hvl.out; omega)
  go_wp2_with fail
  refine (rSum_any A1 c1 m1 _ ho1.sl (by have := hl1.out; omega)).mono ?_
  rintro e w2 ⟨rfl, rfl⟩
  go_wp2_with fail
  refine (rFour_any (sumW m1) _).mono ?_
  rintro e w3 ⟨A3, c3, m3, rfl, hm3, hs3, hb3⟩
  have hl3 := Lib.hid (show m3.length = 4 from by rw [hm3.out, four_len])
  go_wp2_with (at_builtin; go_must (refine wpl_bytes 29 5 Tryz.underlying29 u8_info rfl _ _ rfl w.heap.size A1 c1 m1 rfl (ho1.below hb3) A3 c3 m3 rfl hs3 (by have := hl1.out; have := hl3.out; omega) (Nat.le_trans hb1.size hb3.size) ?_; intro A4 c4 m4 w4 hm4 ho4 _ _ hb4))
  go_ret
  exact ⟨A4, c4, m4, rfl, (show m4 = _ from by rw [hm4.out, hm3.out, hm1'.out]; rfl), ho4, (bel_call hb1 hb3).trans hb4⟩
end Go.Proofs.YtabnndjdkjkciaaGreatDoor

namespace Go.Proofs.YtabnndjdkjkciaaGreatDoor
open Go.RowKit
attribute [local go_sem ↓] Go.wp_at_zero Go.wp_at_succ

end Go.Proofs.YtabnndjdkjkciaaGreatDoor

namespace Go.Proofs.YtabnndjdkjkciaaGreatDoor
open Go.RowKit
attribute [local go_sem ↓] Go.wp_at_zero Go.wp_at_succ

theorem ftake_ok {l : List UInt8} (h : (ftake l).2.2 = 0) : 4 ≤ (ftake l).2.1 ∧ (ftake l).2.1 ≤ l.length := by
  unfold ftake at h ⊢
  split at h
  · simp at h
  · rename_i n k _
    by_cases h1 : 65536 < n
    · rw [if_pos h1] at h; simp at h
    · rw [if_neg h1] at h ⊢
      by_cases h2 : l.length < k + n + 4
      · rw [if_pos h2] at h; simp at h
      · rw [if_neg h2] at h ⊢
        by_cases h3 : four (sumW (l.take (k + n))) = (l.drop (k + n)).take 4
        · rw [if_pos h3]; dsimp only; omega
        · rw [if_neg h3] at h; simp at h
/-- the texts of the frames that bytes begin with, and how many bytes these have -/
def fpre (l : List UInt8) : List (List UInt8) × Nat :=
  if _h : (ftake l).2.2 = 0 then ((ftake l).1 :: (fpre (l.drop (ftake l).2.1)).1, (ftake l).2.1 + (fpre (l.drop (ftake l).2.1)).2) else ([], 0)
  termination_by l.length
  decreasing_by all_goals (have := ftake_ok _h; simp; omega)
def fone (l : List UInt8) : List UInt8 × Nat := if (ftake l).2.2 ≠ 0 then ([], (ftake l).2.2) else if (ftake l).2.1 < l.length then ([], 2) else ((ftake l).1, 0)
set_option maxRecDepth 100000 in
set_option maxHeartbeats 1000000 in
theorem FOne_any (A : Option Addr) (c : Nat) (l : List UInt8) (w : World) (hs : SlB w A c l) (hl : l.length ≤ 10000000) :
    Calls Tryz.prog 53 #[.slice A l.length c] w (JoinsB w (fone l)) := by
  go_enter Tryz.func53, Tryz.ntmps53
  go_wp2_with fail
  refine (FTake_any A c l _ hs hl).mono ?_
  rintro e w1 ⟨A1, c1, m1, he, hm1, ho1, hb1⟩
  rcases errv_cases (ftake l).2.2 with ⟨h0, hev⟩ | ⟨k, hk, hke, hev⟩
  · rw [hev] at he
    subst he
    by_cases hlt : (ftake l).2.1 < l.length
    · have hf := Lib.hid (show fone l = ([], 2) from by unfold fone; rw [if_neg (by omega), if_pos hlt])
      have hi : (((ftake l).2.1 : Nat) : Int) < (l.length : Int) := by omega
      generalize (ftake l).2.1 = q at *
      clear h0 hm1
      go_wp2_with fail
      go_ret2
      exact ⟨none, 0, [], by rw [hf.out]; rfl, by rw [hf.out]; rfl, Sl.none_ _ _, hb1⟩
    · have hf := Lib.hid (show fone l = ((ftake l).1, 0) from by unfold fone; rw [if_neg (by omega), if_neg hlt])
      have hi : ¬ (((ftake l).2.1 : Nat) : Int) < (l.length : Int) := by omega
      have hm : Hid (m1 = (fone l).1) := (show _ = _ from by rw [hf.out]; exact hm1.out)
      generalize (ftake l).2.1 = q at *
      clear h0 hm1
      go_wp2_with fail
      go_ret2
      exact ⟨A1, c1, m1, by rw [hf.out]; rfl, hm, ho1.1, hb1⟩
  · have hf := Lib.hid (show fone l = ([], (ftake l).2.2) from by unfold fone; rw [if_pos (by omega)])
    have hfe : errv (fone l).2 = .iface 68 (.int .i64 k) := by rw [hf.out]; exact hev
    have HFE := Lib.hid hfe
    rw [hev] at he
    subst he
    generalize (ftake l).2.1 = q at *
    clear hev hfe hm1 hke
    go_wp2_with fail
    go_ret2
    exact ⟨none, 0, [], by rw [HFE.out]; rfl, by rw [hf.out]; rfl, Sl.none_ _ _, hb1⟩

end Go.Proofs.YtabnndjdkjkciaaGreatDoor

namespace Go.Proofs.YtabnndjdkjkciaaGreatDoor
open Go.RowKit

def zb (u : Nat) : Int := if u % 2 = 0 then (u / 2 : Nat) else -((u / 2 : Nat) : Int) - 1
end Go.Proofs.YtabnndjdkjkciaaGreatDoor

namespace Go.Proofs.YtabnndjdkjkciaaGreatDoor
open Go.RowKit

end Go.Proofs.YtabnndjdkjkciaaGreatDoor

namespace Go.Proofs.YtabnndjdkjkciaaGreatDoor
open Go.RowKit

end Go.Proofs.YtabnndjdkjkciaaGreatDoor
