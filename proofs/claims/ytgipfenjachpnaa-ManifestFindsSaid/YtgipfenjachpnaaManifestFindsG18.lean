/- WHAT IT HOLDS: the fixed fact of the manifest's laws, walked: the bytes of the empty manifest. | WHAT IT HOLDS: the law ManifestFinds, walked. -/
import Derived.Test.YtgipfenjachpnaaManifestFindsG13
import Derived.Test.YtgipfenjachpnaaManifestFindsG17
import Derived.Test.YtgipfenjachpnaaManifestFindsG04
namespace Go.Proofs.Ytgipfenjachpnaa
open Go.RowKit
attribute [local go_sem ↓] Go.wp_at_zero Go.wp_at_succ

theorem zman : (#[.int .i64 0, .int .i64 0, .int .i64 0, .int .i64 0, .int .u8 0, .int .u8 0, .int .u8 0, .int .u8 0, .int .u8 0, .int .u8 0, .int .u8 0, .int .u8 0, .int .u8 0, .int .u8 0, .int .u8 0, .int .u8 0, .int .u8 0, .int .u8 0, .int .u8 0, .int .u8 0, .int .u8 0, .int .u8 0, .int .u8 0, .int .u8 0, .int .u8 0, .int .u8 0, .int .u8 0, .int .u8 0, .int .u8 0, .int .u8 0, .int .u8 0, .int .u8 0, .int .u8 0, .int .u8 0, .int .u8 0, .int .u8 0, .slice none 0 0] : Array Value) = mfa 0 0 0 0 dg0 none 0 0 := rfl
theorem mchk0 : mchk (0, 0, 0, 0, dg0, []) = 0 := by
  rw [mchk_rest (by decide) (by decide) (by decide) (by decide) (by decide) (fun _ => by decide)]
  rfl
def mtx0 : List UInt8 := List.replicate 37 0
theorem SlB.dg {w : World} {g : Nat} {n f t r : Int} {d : Dg} {A : Option Addr} {k c : Nat} (h : BlM w g n f t r d A k c) : SlB w (some ⟨g, 4, none⟩) 32 d.1 := by
  have hd := d.2
  refine ⟨by simp, by omega, by simp [maxLen], (fun h => by cases h), fun j u hj => ⟨_, rfl, ?_⟩⟩
  exact BlM.dg h j u (by simpa [dga] using hj)
theorem step_bytesG {P : Program} {w : World} {ops : Array Oper} {o : Oper} {a : Act} {K : Act → World → Prop} {Q : Exit → Act → World → Prop} {E : Prop} (t e : TypeId) (ht : P.underlying t = some (.slice e))
    (hinfo : (P.info? e).map (fun i => (i.zero, i.size, i.bytes)) = some (some (.int .u8 0), 1, 1)) (hw : Region.wanted o (yielded ops a.tmps) = true) (s x : Operand)
    (ho : o.op = .call { callee := .builtin .append, args := #[s, x], argTypes := #[t, t] })
    (base : Nat) (A : Option Addr) (c : Nat) (l : List UInt8) (hs : a.eval s = .slice A l.length c) (hown : OwnB w base e A c l)
    (A2 : Option Addr) (c2 n2 : Nat) (l2 : List UInt8) (hn2 : n2 = l2.length) (hx : a.eval x = .slice A2 n2 c2) (hr : SlB w A2 c2 l2)
    (hlen : l.length + l2.length ≤ 140737488355328) (hbase : base ≤ w.heap.size)
    (h : ∀ A' c' (m : List UInt8) w', Hid (m = l ++ l2) → OwnB w' base e A' c' m → w.grownBy w' (A.map (·.block)) → Below base w w' → K (a.put o.dst (.slice A' m.length c')) w') :
    if Region.wanted o (yielded ops a.tmps) = true then Oper.wp P o a w K Q else E := by
  subst hn2
  obtain ⟨i0, hi, hz0, hz1, hz2⟩ := info_parts hinfo
  refine step_append hw s x t ho base e i0 (.int .u8 0) 1 1 ht hi hz0 hz1 hz2 rfl (by decide) A l.length c (bvs l) hs hown A2 l2.length c2 (bvs l2) hx hr (one_bvs l2) (by omega) (by simp only [maxLen]; omega) hbase ?_
  intro A' c' w' hap
  rw [← List.length_append]
  refine h A' c' (l ++ l2) w' rfl ?_ hap.grown (hap.below hown hbase)
  have := hap.own
  simpa [OwnB] using this
theorem lit64 {w W : World} (hb : w.heap.size ≤ W.heap.size) (n : Nat) : Own (W.alloc (.cells #[nv n] 118)) w.heap.size 118 1 (some ⟨W.heap.size, 0, none⟩) 1 1 [nv n] :=
  Own.more (World.ownsRow_lit W #[nv n] 1 (Nat.le_refl _) (by simp [maxLen]) (by simp)) hb
set_option maxRecDepth 100000 in
set_option maxHeartbeats 2000000 in
theorem MPut0_any (w : World) : Calls Try.prog 62 #[.agg (mfa 0 0 0 0 dg0 none 0 0)] w fun e w' => ∃ A c m, e = .returned (.tuple #[.slice A (List.length m) c, .nilIface]) ∧ Hid (m = frm mtx0) ∧ SlB w' A c m ∧ Below w.heap.size w w' := by
  have hB : BlM _ w.heap.size 0 0 0 0 dg0 none 0 0 := Blk.new w 52 (mfa 0 0 0 0 dg0 none 0 0)
  have hbw := below_new w (.cells (mfa 0 0 0 0 dg0 none 0 0) 52)
  have hms := Lib.hid (mfa_size 0 0 0 0 dg0 none 0 0)
  have hC := fun W => MCheck_any (A := none) (c := 0) 0 0 0 0 dg0 [] W (Sl.none_ _ _) (fun p hp => by cases hp)
  rw [mchk0] at hC
  have HC := Lib.hid hC
  clear hC
  go_enter Try.func62, Try.ntmps62
  go_wp2_with (refine wpl_loadG rfl 52 _ rfl ⟨w.heap.size, 0, none⟩ (mfa 0 0 0 0 dg0 none 0 0) rfl hB.cells _ Try.underlying52 rfl (by rw [hms.out]; kernel_rfl) ?_)
  refine (HC.out _).mono ?_
  rintro e w1 ⟨rfl, hb1⟩
  rw [show errv 0 = .nilIface from rfl]
  have hB1 : BlM w1 w.heap.size 0 0 0 0 dg0 none 0 0 := Blk.below hB hb1
  have hw1 := bel_call hbw hb1
  clear HC hB hbw hb1
  obtain ⟨a0, a1, a2, a3, a4⟩ := BlM.five hB1
  have hL : SlN (w1.alloc (.cells #[.int .u64 0, .int .u64 0, .int .u64 0, .int .u64 0] 118)) (some ⟨w1.heap.size, 0, none⟩) 4 [0, 0, 0, 0] := Sl.lits w1 [nv 0, nv 0, nv 0, nv 0] 118 (by simp [maxLen])
  have HL := Lib.hid hL
  clear hL
  go_wp2_with fail
  refine (Put_any none 0 [] _ 4 [0, 0, 0, 0] _ (by simp) (Sl.none_ _ _) HL.out (by simp) (by intro z hz; simp at hz; subst hz; unfold U64; omega)).mono ?_
  rintro e w2 ⟨A2, c2, m2, rfl, hm2, ho2, hb2⟩
  have hm2b : m2 = [0, 0, 0, 0] := by rw [hm2.out]; simp [vbs, vb_small]
  have hml2 : m2.length = 4 := by rw [hm2b]; rfl
  have HM2 := Lib.hid hm2b
  have hB2 : BlM w2 w.heap.size 0 0 0 0 dg0 none 0 0 := Blk.below (Blk.alloc hB1 _) hb2
  have hw2 := bel_call (bel_alloc hw1 _) hb2
  have hl1 := Blk.lt hB1
  have ho2b := Own.more (base' := w.heap.size + 1) ho2 (by simp; omega)
  have hmle2 : m2.length ≤ 4 := by omega
  clear hB1 hw1 hb2 hm2 ho2 HL hm2b hml2 a0 a1 a2 a3 a4
  go_upto_region 5 with (fail)
  go_cut [5] (fun s5 wz => ∃ A c m, s5 = .slice A (List.length m) c ∧ Hid (m = mtx0) ∧ SlB wz A c m ∧ BlM wz w.heap.size 0 0 0 0 dg0 none 0 0 ∧ Below w.heap.size w wz)
  case first =>
    have hst : BlM w2.drew w.heap.size 0 0 0 0 dg0 none 0 0 ∧ Below w.heap.size w w2.drew := ⟨Blk.drew hB2, hw2.drew⟩
    have hoS := World.ownsRow.drew ho2b
    clear hB2 hw2
    refine wp_region_held_drew (S := (fun W => BlM W w.heap.size 0 0 0 0 dg0 none 0 0 ∧ Below w.heap.size w W)) (by kernel_rfl) ?_ (fun hHeld => ?_)
    · exact hst
    refine gen0 (T := fun W => ((fun W => BlM W w.heap.size 0 0 0 0 dg0 none 0 0 ∧ Below w.heap.size w W)) W ∧ OwnB W (w.heap.size + 1) 5 A2 c2 m2 ∧ True) ?_ (fun wq1 hT => ?_)
    · exact ⟨by (first | with_reducible exact hst | exact ⟨Blk.below hHeld.1 hb9, bel_call hHeld.2 hb9⟩ | exact ⟨(hb8.block w.heap.size (Nat.lt_succ_self _)).trans hHeld.1, hHeld.2.trans (hb8.mono (Nat.le_succ _))⟩ | exact ⟨Blk.alloc hHeld.1 _, bel_alloc hHeld.2 _⟩), by (first | with_reducible assumption | exact hoS | exact ho8 | exact Own.below f0 (below_new _ _) | exact lit64 hHeld.2.size 0 | exact Own.other f1 f0 hg8 (by decide) | exact ho9.sl), trivial⟩
    (try clear f0 f1 f2 f3 f4 f5 f6 f7 f8 f9 f10 f11)
    obtain ⟨hHeld, f0, -⟩ := hT
    refine wpAnyH_take (i := 0) (oi := ⟨some 27, _, _, _, _, _⟩) (v := ?_) rfl (by kernel_rfl) (by kernel_rfl) (by kernel_rfl) (fun _ _ _ h => h) (Or.inl ⟨by kernel_rfl, ?_⟩) (by assumption) ?_
    rotate_left
    · (intro wS hSw; (try dsimp only at hSw); obtain ⟨q0, q1, q2, q3, q4⟩ := BlM.five hSw.1; clear hSw; go_simp; (try with_reducible rfl))
    (try simp only [Act.put, List.setIfInBounds_toArray, List.set_cons_zero, List.set_cons_succ])
    refine wpAnyH_take (i := 1) (oi := ⟨some 28, _, _, _, _, _⟩) (v := ?_) rfl (by kernel_rfl) (by kernel_rfl) (by kernel_rfl) (fun _ _ _ h => h) (Or.inl ⟨by kernel_rfl, ?_⟩) (by assumption) ?_
    rotate_left
    · (intro wS hSw; (try dsimp only at hSw); obtain ⟨q0, q1, q2, q3, q4⟩ := BlM.five hSw.1; clear hSw; go_simp; (try with_reducible rfl))
    (try simp only [Act.put, List.setIfInBounds_toArray, List.set_cons_zero, List.set_cons_succ])
    refine wpAnyH_take (i := 2) (oi := ⟨some 29, _, _, _, _, _⟩) (v := ?_) rfl (by kernel_rfl) (by kernel_rfl) (by kernel_rfl) (fun _ _ _ h => h) (Or.inl ⟨by kernel_rfl, ?_⟩) (by assumption) ?_
    rotate_left
    · (intro wS hSw; (try dsimp only at hSw); obtain ⟨q0, q1, q2, q3, q4⟩ := BlM.five hSw.1; clear hSw; go_simp; (try with_reducible rfl))
    (try simp only [Act.put, List.setIfInBounds_toArray, List.set_cons_zero, List.set_cons_succ])
    refine wpAnyH_take (i := 4) (oi := ⟨some 31, _, _, _, _, _⟩) (v := ?_) rfl (by kernel_rfl) (by kernel_rfl) (by kernel_rfl) (fun _ _ _ h => h) (Or.inl ⟨by kernel_rfl, ?_⟩) (by assumption) ?_
    rotate_left
    · (intro wS hSw; (try dsimp only at hSw); obtain ⟨q0, q1, q2, q3, q4⟩ := BlM.five hSw.1; clear hSw; go_simp; (try with_reducible rfl))
    (try simp only [Act.put, List.setIfInBounds_toArray, List.set_cons_zero, List.set_cons_succ])
    refine wpAnyH_take (i := 5) (oi := ⟨some 32, _, _, _, _, _⟩) (v := ?_) rfl (by kernel_rfl) (by kernel_rfl) (by kernel_rfl) (fun _ _ _ h => h) (Or.inl ⟨by kernel_rfl, ?_⟩) (by assumption) ?_
    rotate_left
    · (intro wS hSw; (try dsimp only at hSw); obtain ⟨q0, q1, q2, q3, q4⟩ := BlM.five hSw.1; clear hSw; go_simp; (try with_reducible rfl))
    (try simp only [Act.put, List.setIfInBounds_toArray, List.set_cons_zero, List.set_cons_succ])
    refine wpAnyH_take (i := 6) (oi := ⟨some 33, _, _, _, _, _⟩) (v := ?_) rfl (by kernel_rfl) (by kernel_rfl) (by kernel_rfl) (fun _ _ _ h => h) (Or.inl ⟨by kernel_rfl, ?_⟩) (by assumption) ?_
    rotate_left
    · (intro wS hSw; (try dsimp only at hSw); obtain ⟨q0, q1, q2, q3, q4⟩ := BlM.five hSw.1; clear hSw; go_simp; (try with_reducible rfl))
    (try simp only [Act.put, List.setIfInBounds_toArray, List.set_cons_zero, List.set_cons_succ])
    refine wpAnyH_take (i := 7) (oi := ⟨some 34, _, _, _, _, _⟩) (v := ?_) rfl (by kernel_rfl) (by kernel_rfl) (by kernel_rfl) (fun _ _ _ h => h) (Or.inl ⟨by kernel_rfl, ?_⟩) (by assumption) ?_
    rotate_left
    · (intro wS hSw; (try dsimp only at hSw); obtain ⟨q0, q1, q2, q3, q4⟩ := BlM.five hSw.1; clear hSw; go_simp; (try with_reducible rfl))
    (try simp only [Act.put, List.setIfInBounds_toArray, List.set_cons_zero, List.set_cons_succ])
    refine wpAnyH_ready (rs := [3, 8]) (by kernel_rfl) (by simp) ?_
    refine AllReadyH.cons (o := ⟨some 30, _, _, _, _, _⟩) rfl (fun K hK => ?_) ?_
    · (refine step_bytesG 22 5 Try.underlying22 u8_info (by kernel_rfl) (.tmp 27) (.tmp 29) rfl (w.heap.size + 1) A2 c2 m2 rfl f0 (some ⟨w.heap.size, 4, none⟩) 32 32 dg0.1 (by simp [dg0]) rfl (SlB.dg hHeld.1) (by simp [dg0]; omega) (Blk.lt hHeld.1) ?_; intro A8 c8 m8 w8 hm8 ho8 hg8 hb8)
      refine hK.out _ _ ?_ (fun _ => ?_)
      · ((try dsimp only); (first | with_reducible exact hst | exact ⟨Blk.below hHeld.1 hb9, bel_call hHeld.2 hb9⟩ | exact ⟨(hb8.block w.heap.size (Nat.lt_succ_self _)).trans hHeld.1, hHeld.2.trans (hb8.mono (Nat.le_succ _))⟩ | exact ⟨Blk.alloc hHeld.1 _, bel_alloc hHeld.2 _⟩))
      clear hK K
      (try simp only [Act.put, List.setIfInBounds_toArray, List.set_cons_zero, List.set_cons_succ])
      refine gen0 (T := fun W => ((fun W => BlM W w.heap.size 0 0 0 0 dg0 none 0 0 ∧ Below w.heap.size w W)) W ∧ OwnB W (w.heap.size + 1) 5 A8 c8 m8 ∧ True) ?_ (fun wq2 hT => ?_)
      · exact ⟨by (first | with_reducible exact hst | exact ⟨Blk.below hHeld.1 hb9, bel_call hHeld.2 hb9⟩ | exact ⟨(hb8.block w.heap.size (Nat.lt_succ_self _)).trans hHeld.1, hHeld.2.trans (hb8.mono (Nat.le_succ _))⟩ | exact ⟨Blk.alloc hHeld.1 _, bel_alloc hHeld.2 _⟩), by (first | with_reducible assumption | exact hoS | exact ho8 | exact Own.below f0 (below_new _ _) | exact lit64 hHeld.2.size 0 | exact Own.other f1 f0 hg8 (by decide) | exact ho9.sl), trivial⟩
      (try clear f0 f1 f2 f3 f4 f5 f6 f7 f8 f9 f10 f11)
      obtain ⟨hHeld, f0, -⟩ := hT
      refine wpAnyH_ready (rs := [8]) (by kernel_rfl) (by simp) ?_
      refine AllReadyH.cons (o := ⟨some 35, _, _, _, _, _⟩) rfl (fun K hK => ?_) AllReadyH.nil
      go_simp
      refine hK.out _ _ ?_ (fun _ => ?_)
      · ((try dsimp only); (first | with_reducible exact hst | exact ⟨Blk.below hHeld.1 hb9, bel_call hHeld.2 hb9⟩ | exact ⟨(hb8.block w.heap.size (Nat.lt_succ_self _)).trans hHeld.1, hHeld.2.trans (hb8.mono (Nat.le_succ _))⟩ | exact ⟨Blk.alloc hHeld.1 _, bel_alloc hHeld.2 _⟩))
      clear hK K
      (try simp only [Act.put, List.setIfInBounds_toArray, List.set_cons_zero, List.set_cons_succ])
      refine gen0 (T := fun W => ((fun W => BlM W w.heap.size 0 0 0 0 dg0 none 0 0 ∧ Below w.heap.size w W)) W ∧ OwnB W (w.heap.size + 1) 5 A8 c8 m8 ∧ Own W w.heap.size 118 1 (some ⟨wq2.heap.size, 0, none⟩) 1 1 [nv 0] ∧ True) ?_ (fun wq3 hT => ?_)
      · exact ⟨by (first | with_reducible exact hst | exact ⟨Blk.below hHeld.1 hb9, bel_call hHeld.2 hb9⟩ | exact ⟨(hb8.block w.heap.size (Nat.lt_succ_self _)).trans hHeld.1, hHeld.2.trans (hb8.mono (Nat.le_succ _))⟩ | exact ⟨Blk.alloc hHeld.1 _, bel_alloc hHeld.2 _⟩), by (first | with_reducible assumption | exact hoS | exact ho8 | exact Own.below f0 (below_new _ _) | exact lit64 hHeld.2.size 0 | exact Own.other f1 f0 hg8 (by decide) | exact ho9.sl), by (first | with_reducible assumption | exact hoS | exact ho8 | exact Own.below f0 (below_new _ _) | exact lit64 hHeld.2.size 0 | exact Own.other f1 f0 hg8 (by decide) | exact ho9.sl), trivial⟩
      (try clear f0 f1 f2 f3 f4 f5 f6 f7 f8 f9 f10 f11)
      obtain ⟨hHeld, f0, f1, -⟩ := hT
      refine wpAnyH_ready (rs := [9]) (by kernel_rfl) (by simp) ?_
      refine AllReadyH.cons (o := ⟨some 36, _, _, _, _, _⟩) rfl (fun K hK => ?_) AllReadyH.nil
      go_simp
      (refine (Put_any A8 c8 m8 _ 1 [0] _ (by rw [hm8.out, HM2.out]; simp [dg0]) f0.sl f1.sl (by simp) (by intro z hz; simp at hz; subst hz; unfold U64; omega)).mono ?_; rintro e w9 ⟨A9, c9, m9, rfl, hm9, ho9, hb9⟩)
      go_wp2_with fail
      refine hK.out _ _ ?_ (fun _ => ?_)
      · ((try dsimp only); (first | with_reducible exact hst | exact ⟨Blk.below hHeld.1 hb9, bel_call hHeld.2 hb9⟩ | exact ⟨(hb8.block w.heap.size (Nat.lt_succ_self _)).trans hHeld.1, hHeld.2.trans (hb8.mono (Nat.le_succ _))⟩ | exact ⟨Blk.alloc hHeld.1 _, bel_alloc hHeld.2 _⟩))
      clear hK K
      (try simp only [Act.put, List.setIfInBounds_toArray, List.set_cons_zero, List.set_cons_succ])
      refine gen0 (T := fun W => ((fun W => BlM W w.heap.size 0 0 0 0 dg0 none 0 0 ∧ Below w.heap.size w W)) W ∧ SlB W A9 c9 m9 ∧ True) ?_ (fun wq4 hT => ?_)
      · exact ⟨by (first | with_reducible exact hst | exact ⟨Blk.below hHeld.1 hb9, bel_call hHeld.2 hb9⟩ | exact ⟨(hb8.block w.heap.size (Nat.lt_succ_self _)).trans hHeld.1, hHeld.2.trans (hb8.mono (Nat.le_succ _))⟩ | exact ⟨Blk.alloc hHeld.1 _, bel_alloc hHeld.2 _⟩), by (first | with_reducible assumption | exact hoS | exact ho8 | exact Own.below f0 (below_new _ _) | exact lit64 hHeld.2.size 0 | exact Own.other f1 f0 hg8 (by decide) | exact ho9.sl), trivial⟩
      (try clear f0 f1 f2 f3 f4 f5 f6 f7 f8 f9 f10 f11)
      obtain ⟨hHeld, f0, -⟩ := hT
      refine wpAnyH_take (i := 10) (oi := ⟨some 5, _, _, _, _, _⟩) (v := ?_) rfl (by kernel_rfl) (by kernel_rfl) (by kernel_rfl) (fun _ _ _ h => h) (Or.inl ⟨by kernel_rfl, ?_⟩) (by assumption) ?_
      rotate_left
      · (intro wS hSw; (try dsimp only at hSw); obtain ⟨q0, q1, q2, q3, q4⟩ := BlM.five hSw.1; clear hSw; go_simp; (try with_reducible rfl))
      (try simp only [Act.put, List.setIfInBounds_toArray, List.set_cons_zero, List.set_cons_succ])
      refine wpAnyH_done (by kernel_rfl) ?_ _
      (go_wp2_with fail; go_meet; exact ⟨A9, c9, m9, rfl, (show _ = _ from by rw [hm9.out, hm8.out, HM2.out]; simp [vbs, vb_small, dg0, mtx0]), f0, hHeld.1, hHeld.2⟩)
    refine AllReadyH.cons (o := ⟨some 35, _, _, _, _, _⟩) rfl (fun K hK => ?_) ?_
    · go_simp
      refine hK.out _ _ ?_ (fun _ => ?_)
      · ((try dsimp only); (first | with_reducible exact hst | exact ⟨Blk.below hHeld.1 hb9, bel_call hHeld.2 hb9⟩ | exact ⟨(hb8.block w.heap.size (Nat.lt_succ_self _)).trans hHeld.1, hHeld.2.trans (hb8.mono (Nat.le_succ _))⟩ | exact ⟨Blk.alloc hHeld.1 _, bel_alloc hHeld.2 _⟩))
      clear hK K
      (try simp only [Act.put, List.setIfInBounds_toArray, List.set_cons_zero, List.set_cons_succ])
      refine gen0 (T := fun W => ((fun W => BlM W w.heap.size 0 0 0 0 dg0 none 0 0 ∧ Below w.heap.size w W)) W ∧ OwnB W (w.heap.size + 1) 5 A2 c2 m2 ∧ Own W w.heap.size 118 1 (some ⟨wq1.heap.size, 0, none⟩) 1 1 [nv 0] ∧ True) ?_ (fun wq5 hT => ?_)
      · exact ⟨by (first | with_reducible exact hst | exact ⟨Blk.below hHeld.1 hb9, bel_call hHeld.2 hb9⟩ | exact ⟨(hb8.block w.heap.size (Nat.lt_succ_self _)).trans hHeld.1, hHeld.2.trans (hb8.mono (Nat.le_succ _))⟩ | exact ⟨Blk.alloc hHeld.1 _, bel_alloc hHeld.2 _⟩), by (first | with_reducible assumption | exact hoS | exact ho8 | exact Own.below f0 (below_new _ _) | exact lit64 hHeld.2.size 0 | exact Own.other f1 f0 hg8 (by decide) | exact ho9.sl), by (first | with_reducible assumption | exact hoS | exact ho8 | exact Own.below f0 (below_new _ _) | exact lit64 hHeld.2.size 0 | exact Own.other f1 f0 hg8 (by decide) | exact ho9.sl), trivial⟩
      (try clear f0 f1 f2 f3 f4 f5 f6 f7 f8 f9 f10 f11)
      obtain ⟨hHeld, f0, f1, -⟩ := hT
      refine wpAnyH_ready (rs := [3]) (by kernel_rfl) (by simp) ?_
      refine AllReadyH.cons (o := ⟨some 30, _, _, _, _, _⟩) rfl (fun K hK => ?_) AllReadyH.nil
      (refine step_bytesG 22 5 Try.underlying22 u8_info (by kernel_rfl) (.tmp 27) (.tmp 29) rfl (w.heap.size + 1) A2 c2 m2 rfl f0 (some ⟨w.heap.size, 4, none⟩) 32 32 dg0.1 (by simp [dg0]) rfl (SlB.dg hHeld.1) (by simp [dg0]; omega) (Blk.lt hHeld.1) ?_; intro A8 c8 m8 w8 hm8 ho8 hg8 hb8)
      refine hK.out _ _ ?_ (fun _ => ?_)
      · ((try dsimp only); (first | with_reducible exact hst | exact ⟨Blk.below hHeld.1 hb9, bel_call hHeld.2 hb9⟩ | exact ⟨(hb8.block w.heap.size (Nat.lt_succ_self _)).trans hHeld.1, hHeld.2.trans (hb8.mono (Nat.le_succ _))⟩ | exact ⟨Blk.alloc hHeld.1 _, bel_alloc hHeld.2 _⟩))
      clear hK K
      (try simp only [Act.put, List.setIfInBounds_toArray, List.set_cons_zero, List.set_cons_succ])
      refine gen0 (T := fun W => ((fun W => BlM W w.heap.size 0 0 0 0 dg0 none 0 0 ∧ Below w.heap.size w W)) W ∧ OwnB W (w.heap.size + 1) 5 A8 c8 m8 ∧ Own W w.heap.size 118 1 (some ⟨wq1.heap.size, 0, none⟩) 1 1 [nv 0] ∧ True) ?_ (fun wq6 hT => ?_)
      · exact ⟨by (first | with_reducible exact hst | exact ⟨Blk.below hHeld.1 hb9, bel_call hHeld.2 hb9⟩ | exact ⟨(hb8.block w.heap.size (Nat.lt_succ_self _)).trans hHeld.1, hHeld.2.trans (hb8.mono (Nat.le_succ _))⟩ | exact ⟨Blk.alloc hHeld.1 _, bel_alloc hHeld.2 _⟩), by (first | with_reducible assumption | exact hoS | exact ho8 | exact Own.below f0 (below_new _ _) | exact lit64 hHeld.2.size 0 | exact Own.other f1 f0 hg8 (by decide) | exact ho9.sl), by (first | with_reducible assumption | exact hoS | exact ho8 | exact Own.below f0 (below_new _ _) | exact lit64 hHeld.2.size 0 | exact Own.other f1 f0 hg8 (by decide) | exact ho9.sl), trivial⟩
      (try clear f0 f1 f2 f3 f4 f5 f6 f7 f8 f9 f10 f11)
      obtain ⟨hHeld, f0, f1, -⟩ := hT
      refine wpAnyH_ready (rs := [9]) (by kernel_rfl) (by simp) ?_
      refine AllReadyH.cons (o := ⟨some 36, _, _, _, _, _⟩) rfl (fun K hK => ?_) AllReadyH.nil
      go_simp
      (refine (Put_any A8 c8 m8 _ 1 [0] _ (by rw [hm8.out, HM2.out]; simp [dg0]) f0.sl f1.sl (by simp) (by intro z hz; simp at hz; subst hz; unfold U64; omega)).mono ?_; rintro e w9 ⟨A9, c9, m9, rfl, hm9, ho9, hb9⟩)
      go_wp2_with fail
      refine hK.out _ _ ?_ (fun _ => ?_)
      · ((try dsimp only); (first | with_reducible exact hst | exact ⟨Blk.below hHeld.1 hb9, bel_call hHeld.2 hb9⟩ | exact ⟨(hb8.block w.heap.size (Nat.lt_succ_self _)).trans hHeld.1, hHeld.2.trans (hb8.mono (Nat.le_succ _))⟩ | exact ⟨Blk.alloc hHeld.1 _, bel_alloc hHeld.2 _⟩))
      clear hK K
      (try simp only [Act.put, List.setIfInBounds_toArray, List.set_cons_zero, List.set_cons_succ])
      refine gen0 (T := fun W => ((fun W => BlM W w.heap.size 0 0 0 0 dg0 none 0 0 ∧ Below w.heap.size w W)) W ∧ SlB W A9 c9 m9 ∧ True) ?_ (fun wq7 hT => ?_)
      · exact ⟨by (first | with_reducible exact hst | exact ⟨Blk.below hHeld.1 hb9, bel_call hHeld.2 hb9⟩ | exact ⟨(hb8.block w.heap.size (Nat.lt_succ_self _)).trans hHeld.1, hHeld.2.trans (hb8.mono (Nat.le_succ _))⟩ | exact ⟨Blk.alloc hHeld.1 _, bel_alloc hHeld.2 _⟩), by (first | with_reducible assumption | exact hoS | exact ho8 | exact Own.below f0 (below_new _ _) | exact lit64 hHeld.2.size 0 | exact Own.other f1 f0 hg8 (by decide) | exact ho9.sl), trivial⟩
      (try clear f0 f1 f2 f3 f4 f5 f6 f7 f8 f9 f10 f11)
      obtain ⟨hHeld, f0, -⟩ := hT
      refine wpAnyH_take (i := 10) (oi := ⟨some 5, _, _, _, _, _⟩) (v := ?_) rfl (by kernel_rfl) (by kernel_rfl) (by kernel_rfl) (fun _ _ _ h => h) (Or.inl ⟨by kernel_rfl, ?_⟩) (by assumption) ?_
      rotate_left
      · (intro wS hSw; (try dsimp only at hSw); obtain ⟨q0, q1, q2, q3, q4⟩ := BlM.five hSw.1; clear hSw; go_simp; (try with_reducible rfl))
      (try simp only [Act.put, List.setIfInBounds_toArray, List.set_cons_zero, List.set_cons_succ])
      refine wpAnyH_done (by kernel_rfl) ?_ _
      (go_wp2_with fail; go_meet; exact ⟨A9, c9, m9, rfl, (show _ = _ from by rw [hm9.out, hm8.out, HM2.out]; simp [vbs, vb_small, dg0, mtx0]), f0, hHeld.1, hHeld.2⟩)
    exact AllReadyH.nil
  case rest =>
    obtain ⟨A5, c5, m5, rfl, hm5, hs5, hB5, hw5⟩ := hcut
    have hml5 : m5.length ≤ 100 := by rw [hm5.out]; simp [mtx0]
    obtain ⟨a0, a1, a2, a3, a4⟩ := BlM.five hB5
    go_wp2_with fail
    go_loopw [40, 5] (fun x y wr => x = .int .i64 0 ∧ y = .slice A5 m5.length c5 ∧ wr = wc) (fun x y wr => 0)
    case atStart => exact ⟨rfl, rfl, rfl⟩
    case round =>
      obtain ⟨rfl, rfl, rfl⟩ := hrel
      go_wp2_with fail
      refine (FPut_any none 0 [] A5 c5 m5 _ (by simp) (Sl.none_ _ _) hs5 (by omega)).mono ?_
      rintro e w6 ⟨A6, c6, m6, he, hm6, ho6, hb6⟩
      have hfp : fput [] m5 = (frm mtx0, 0) := by
        unfold fput
        rw [hm5.out, if_neg (by simp [mtx0])]
        rfl
      rw [hfp] at he hm6
      dsimp only at he hm6
      rw [show errv 0 = .nilIface from rfl] at he
      subst he
      go_wp2_with fail
      go_ret2
      exact ⟨A6, c6, m6, rfl, hm6, ho6.sl, bel_call hw5 hb6⟩
set_option maxRecDepth 100000 in
set_option maxHeartbeats 1000000 in
theorem alive15_any (w : World) : Calls Try.prog 25 #[] w fun e w' => e = .returned (.bool true) ∧ Below w.heap.size w w' := by
  have hP := fun W => MPut0_any W
  rw [← zman] at hP
  have HP := Lib.hid hP
  clear hP
  go_enter Try.func25, Try.ntmps25
  go_wp2_with fail
  refine (HP.out _).mono ?_
  rintro e w1 ⟨A1, c1, m1, rfl, hm1, hs1, hb1⟩
  have hfl : (frm mtx0) = 37 :: (mtx0 ++ four (sumW (txb mtx0))) := by
    unfold frm txb
    rw [show mtx0.length = 37 from by simp [mtx0], vb_small (by decide)]
    rfl
  have h42 : m1.length = 42 := by rw [hm1.out, hfl]; simp [four_len, mtx0]
  obtain ⟨ad, hA, hc0⟩ := Sl.at1 (f := bv) (l := m1) hs1 (k := 0) (by omega)
  obtain ⟨ad2, hA2, hc37⟩ := Sl.at1 (f := bv) (l := m1) hs1 (k := 37) (by omega)
  subst hA
  injection hA2 with hA2
  subst hA2
  have hv0 : m1[0]'(by omega) = 37 := by
    have := hm1.out
    subst this
    simp [hfl]
  have hv37 : m1[37]'(by omega) = 0 := by
    have := hm1.out
    subst this
    simp only [hfl, List.getElem_cons_succ]
    rw [List.getElem_append_left (by simp [mtx0])]
    simp [mtx0]
  rw [hv0] at hc0
  rw [hv37] at hc37
  have hc0b : w1.cell? ad = some (.int .u8 37) := by
    have h0 : ad.add 0 = ad := by simp [Addr.add]
    rw [h0] at hc0
    exact hc0
  have hsp := World.cell?_spot hc0b
  obtain ⟨ab, ao, asp⟩ := ad
  dsimp only at hsp
  subst hsp
  have hc37b : w1.cell? ⟨ab, ao + 37, none⟩ = some (.int .u8 0) := by rw [← addr_lit]; exact hc37
  clear hc0 hc37
  have hcap : 42 ≤ c1 := by have := hs1.2.1; omega
  rw [h42]
  clear hv0 hv37 hfl h42 HP hm1
  go_wp2_with fail
  go_ret
  exact ⟨rfl, hb1⟩
end Go.Proofs.Ytgipfenjachpnaa

namespace Go.Proofs.Ytgipfenjachpnaa
open Go.RowKit
attribute [local go_sem ↓] Go.wp_at_zero Go.wp_at_succ

theorem pgo_fit {z : Int} (hz : z ≤ 1048576) : ∀ {l : List Pt5} {a : Int}, 0 ≤ a → pgo z a l = 0 → ∀ p ∈ l, PtFit p
  | [], _, _, _ => fun p hp => by cases hp
  | q :: r, a, ha, h => fun p hp => by
    have hle := (pgo_end h).2
    unfold pgo at h
    by_cases h1 : ptchk q a ≠ 0
    · rw [if_pos h1] at h; exact absurd h h1
    rw [if_neg h1] at h
    obtain ⟨g1, g2, _, _, g5⟩ := ptchk_ok (Decidable.byContradiction h1)
    rcases List.mem_cons.1 hp with rfl | hp
    · exact ⟨by omega, by omega, g1, g2⟩
    · exact pgo_fit hz (by omega) h p hp
theorem pcnt_snoc {x : Int} {l : List Pt5} {k : Nat} (hk : k < l.length) : pcnt x (l.take (k + 1)) = pcnt x (l.take k) + if phit x l[k] then 1 else 0 := by
  rw [List.take_succ_eq_append_getElem hk]
  unfold pcnt
  rw [List.filter_append, List.length_append]
  cases h : phit x l[k] <;> simp [h]
theorem pcnt_le (x : Int) (l : List Pt5) : pcnt x l ≤ l.length := List.length_filter_le _ _
set_option maxRecDepth 100000 in
set_option maxHeartbeats 1000000 in
theorem mfinds_early {A : Option Addr} {c : Nat} {n f t r x : Int} {d : Dg} {ps : List Pt5} (w : World) (h : SlP w A c ps) (hl : 60 < ps.length) :
    Calls Try.prog 4 #[.agg (mfa n f t r d A ps.length c), .int .i64 x] w fun e w' => e = .returned (.bool true) ∧ Below w.heap.size w w' := by
  have hmax := h.len_le
  unfold maxLen at hmax
  have hB0 : BlM _ w.heap.size n f t r d A ps.length c := Blk.new w 52 (mfa n f t r d A ps.length c)
  have hbw := below_new w (.cells (mfa n f t r d A ps.length c) 52)
  have hms := Lib.hid (mfa_size n f t r d A ps.length c)
  go_enter Try.func4, Try.ntmps4
  go_wp2_with fail
  refine (alive15_any _).mono ?_
  rintro e w1 ⟨rfl, hb1⟩
  have hB : BlM w1 w.heap.size n f t r d A ps.length c := Blk.below hB0 hb1
  have hw := bel_call hbw hb1
  clear hB0 hbw hb1
  obtain ⟨a0, a1, a2, a3, a4⟩ := BlM.five hB
  have hlI : (60 : Int) < (ps.length : Int) := by omega
  go_wp2_with fail
  go_ret
  exact ⟨rfl, hw⟩
set_option maxRecDepth 100000 in
set_option maxHeartbeats 4000000 in
theorem mfinds_walk {A : Option Addr} {c : Nat} {n f t r x : Int} {d : Dg} {ps : List Pt5} (w : World) (h : SlP w A c ps) (hI : PtsI ps) (hx : I64 x) (hl : ps.length ≤ 60) :
    Calls Try.prog 4 #[.agg (mfa n f t r d A ps.length c), .int .i64 x] w fun e w' => e = .returned (.bool true) ∧ Below w.heap.size w w' := by
  have hmax := h.len_le
  unfold maxLen at hmax
  have hB0 : BlM _ w.heap.size n f t r d A ps.length c := Blk.new w 52 (mfa n f t r d A ps.length c)
  have hbw := below_new w (.cells (mfa n f t r d A ps.length c) 52)
  have hms := Lib.hid (mfa_size n f t r d A ps.length c)
  go_enter Try.func4, Try.ntmps4
  go_wp2_with fail
  refine (alive15_any _).mono ?_
  rintro e w1 ⟨rfl, hb1⟩
  have hB : BlM w1 w.heap.size n f t r d A ps.length c := Blk.below hB0 hb1
  have hw := bel_call hbw hb1
  clear hB0 hbw hb1
  obtain ⟨a0, a1, a2, a3, a4⟩ := BlM.five hB
  have hlI : (ps.length : Int) ≤ 60 := by omega
  have hlB : decide ((60 : Int) < (ps.length : Int)) = false := by rw [decide_eq_false_iff_not]; omega
  have hC := MCheck_any n f t r d ps w1 (h.below hw) hI
  have HMO := Lib.hid (fun h0 => mchk_ok (m := (n, f, t, r, d, ps)) h0)
  generalize mchk (n, f, t, r, d, ps) = bad at *
  rcases errv_cases bad with ⟨h0, hev⟩ | ⟨q, hq, hqe, hev⟩
  · rw [hev] at hC
    have HC := Lib.hid hC
    obtain ⟨-, ⟨hf0, hf1⟩, ⟨ht0, ht1⟩, -, hft, -, -, hpg⟩ := HMO.out h0
    dsimp only at hf0 hf1 ht0 ht1 hft hpg
    have hfit := pgo_fit ht1 hf0 hpg
    have HPG := Lib.hid hpg
    clear hC hev h0 HMO hpg
    go_wp2_with (refine wpl_loadG (by kernel_rfl) 52 _ rfl ⟨w.heap.size, 0, none⟩ (mfa n f t r d A ps.length c) rfl hB.cells _ Try.underlying52 rfl (by rw [hms.out]; kernel_rfl) ?_)
    refine HC.out.mono ?_
    rintro e w2 ⟨rfl, hb2⟩
    have hB2 : BlM w2 w.heap.size n f t r d A ps.length c := Blk.below hB hb2
    replace hw := bel_call hw hb2
    have HF := Lib.hid (Find_any n f t r d ps x w2 (h.below hw) hfit hx)
    clear HC hb2 hB a0 a1 a2 a3 a4
    go_wp2_with (refine wpl_loadG (by kernel_rfl) 52 _ rfl ⟨w.heap.size, 0, none⟩ (mfa n f t r d A ps.length c) rfl hB2.cells _ Try.underlying52 rfl (by rw [hms.out]; kernel_rfl) ?_)
    refine HF.out.mono ?_
    rintro e w3 ⟨rfl, hb3⟩
    have hB3 : BlM w3 w.heap.size n f t r d A ps.length c := Blk.below hB2 hb3
    replace hw := bel_call hw hb3
    clear HF hb3 hB2
    obtain ⟨a0, a1, a2, a3, a4⟩ := BlM.five hB3
    have hone := Lib.hid (pgo_one (x := x) HPG.out)
    have hhit := Lib.hid (fun (k : Nat) (hk : k < ps.length) => pidx_hit (x := x) hk HPG.out)
    generalize pidx x ps = z at *
    obtain ⟨zm, hzm⟩ : ∃ m, max z 0 = m := ⟨_, rfl⟩
    obtain ⟨zb, hzb⟩ : ∃ b, decide (0 ≤ z) = b := ⟨_, rfl⟩
    rw [hzm, hzb]
    have HZM := Lib.hid hzm
    have HZB := Lib.hid hzb
    clear hzm hzb
    go_wp2_with fail
    go_loopw [30, 7] (fun y v wr => ∃ (k cn : Nat), k ≤ ps.length ∧ y = .int .i64 k ∧ v = .int .i64 cn ∧ cn ≤ k ∧ Hid (cn = pcnt x (ps.take k)) ∧ Below w.heap.size w wr ∧ BlM wr w.heap.size n f t r d A ps.length c) (fun y v w => ps.length - (intOf y).toNat)
    case atStart => exact ⟨0, 0, Nat.zero_le _, rfl, rfl, Nat.le_refl _, (show _ = _ from rfl), hw, hB3⟩
    case round =>
      obtain ⟨k, cn, hk, rfl, rfl, hck, hcn, hbr, hBr⟩ := hrel
      clear hw hB3 a0 a1 a2 a3 a4
      obtain ⟨a0, a1, a2, a3, a4⟩ := BlM.five hBr
      by_cases hlt : k < ps.length
      · obtain ⟨ad, b, o, rfl, had, hcc⟩ := (h.below hbr).at hlt
        have hsn := Lib.hid (pcnt_snoc (x := x) hlt)
        have hht := Lib.hid (hhit.out k hlt)
        have hpf := hfit _ (List.getElem_mem hlt)
        generalize ps[k] = p at *
        have hX := Blk.new wr 57 (pta p)
        obtain ⟨x0, x1, x2⟩ := BlP.three hX
        have hbx := bel_call hbr (below_new wr (.cells (pta p) 57))
        have hBx : BlM _ w.heap.size n f t r d (some ad) ps.length c := Blk.alloc hBr (.cells (pta p) 57)
        have hps := Lib.hid (pta_size p)
        have hpa := Lib.hid (pta_all p)
        have HCC := Lib.hid hcc
        obtain ⟨hp0, hp1, hp2, hp3⟩ := hpf
        have HPI := Lib.hid (phit_iff (x := x) (p := p))
        clear hcc hbr hBr
        generalize hpt : pta p = pa at *
        obtain ⟨p1, p2, p3, p4⟩ := p
        dsimp only at *
        clear hpt
        cases hb : phit x (p1, p2, p3, p4)
        · have hn := Lib.hid (show cn = pcnt x (ps.take (k + 1)) from by rw [hsn.out, hb, hcn.out]; simp)
          have hno : ¬ (p1 ≤ x ∧ x < p1 + p2) := by rw [← HPI.out, hb]; simp
          clear hb hsn hht HPI hcn
          by_cases h1 : x < p1
          · clear hno
            go_wp2_with (first | (refine wpl_loadG rfl 57 _ rfl ⟨b, o, none⟩ pa rfl HCC.out _ Try.underlying57 rfl (by rw [hps.out]; kernel_rfl) ?_) | (refine wpl_storeN rfl 57 _ _ rfl _ pa 57 rfl rfl (by rw [hps.out]; kernel_rfl) (by rw [hps.out]; rfl) hpa.out ?_))
            go_roundw
            case rel => exact ⟨k + 1, cn, hlt, by go_num, rfl, by omega, hn, hbx, hBx⟩
            case measure => simp [intOf]; omega
          · have h2 : p1 + p2 ≤ x := by omega
            clear hno
            go_wp2_with (first | (refine wpl_loadG rfl 57 _ rfl ⟨b, o, none⟩ pa rfl HCC.out _ Try.underlying57 rfl (by rw [hps.out]; kernel_rfl) ?_) | (refine wpl_storeN rfl 57 _ _ rfl _ pa 57 rfl rfl (by rw [hps.out]; kernel_rfl) (by rw [hps.out]; rfl) hpa.out ?_))
            go_roundw
            case rel => exact ⟨k + 1, cn, hlt, by go_num, rfl, by omega, hn, hbx, hBx⟩
            case measure => simp [intOf]; omega
        · have hn := Lib.hid (show cn + 1 = pcnt x (ps.take (k + 1)) from by rw [hsn.out, hb, hcn.out]; simp)
          have hzk : z = (k : Int) := hht.out hb
          obtain ⟨h1, h2⟩ := HPI.out.1 hb
          have hzm : zm = (k : Int) := by rw [← HZM.out]; omega
          have hzb : zb = true := by rw [← HZB.out, decide_eq_true_iff]; omega
          clear HZM HZB hone hzk
          subst hzm hzb
          clear hb hsn hht HPI hcn
          go_wp2_with (first | (refine wpl_loadG rfl 57 _ rfl ⟨b, o, none⟩ pa rfl HCC.out _ Try.underlying57 rfl (by rw [hps.out]; kernel_rfl) ?_) | (refine wpl_storeN rfl 57 _ _ rfl _ pa 57 rfl rfl (by rw [hps.out]; kernel_rfl) (by rw [hps.out]; rfl) hpa.out ?_))
          go_roundw
          case rel => exact ⟨k + 1, cn + 1, hlt, by go_num, by go_num, by omega, hn, hbx, hBx⟩
          case measure => simp [intOf]; omega
      · have hce : cn = pcnt x ps := by rw [hcn.out, List.take_of_length_le (by omega)]
        clear hcn hhit
        by_cases hin : f ≤ x ∧ x < t
        · obtain ⟨h1, h2⟩ := hone.out.1 hin
          obtain ⟨hi1, hi2⟩ := hin
          have hc1 : cn = 1 := by omega
          have hzb : zb = true := by rw [← HZB.out, decide_eq_true_iff]; exact h2
          clear HZM HZB
          subst hc1 hzb
          clear hce hone h1
          go_wp2_with fail
          go_ret
          exact ⟨rfl, hbr⟩
        · obtain ⟨h1, h2⟩ := hone.out.2 hin
          have hc1 : cn = 0 := by omega
          have hzb : zb = false := by rw [← HZB.out, decide_eq_false_iff_not]; omega
          clear HZM HZB
          subst hc1 hzb
          clear hce hone h1
          by_cases h3 : x < f
          · clear hin
            go_wp2_with fail
            go_ret
            exact ⟨rfl, hbr⟩
          · have h4 : t ≤ x := by omega
            have h4b : decide (x < t) = false := by rw [decide_eq_false_iff_not]; omega
            clear hin
            go_wp2_with fail
            go_ret
            exact ⟨rfl, hbr⟩
  · rw [hev] at hC
    have HC := Lib.hid hC
    clear hC hev HMO hqe
    go_wp2_with (refine wpl_loadG (by kernel_rfl) 52 _ rfl ⟨w.heap.size, 0, none⟩ (mfa n f t r d A ps.length c) rfl hB.cells _ Try.underlying52 rfl (by rw [hms.out]; kernel_rfl) ?_)
    refine HC.out.mono ?_
    rintro e w2 ⟨rfl, hb2⟩
    go_wp2_with fail
    go_ret
    exact ⟨rfl, bel_call hw hb2⟩
theorem mfinds_all {A : Option Addr} {c : Nat} {n f t r x : Int} {d : Dg} {ps : List Pt5} (w : World) (h : SlP w A c ps) (hI : PtsI ps) (hx : I64 x) :
    Calls Try.prog 4 #[.agg (mfa n f t r d A ps.length c), .int .i64 x] w fun e w' => e = .returned (.bool true) ∧ Below w.heap.size w w' := by
  rcases Nat.lt_or_ge 60 ps.length with hl | hl
  · exact mfinds_early w h hl
  · exact mfinds_walk w h hI hx hl
end Go.Proofs.Ytgipfenjachpnaa
