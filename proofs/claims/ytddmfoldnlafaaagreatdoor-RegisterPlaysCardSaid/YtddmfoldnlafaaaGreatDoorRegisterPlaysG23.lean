/- WHAT IT HOLDS: the document's Check, Put and Take of leases, walked. | WHAT IT HOLDS: the document's leases: free, given up, granted: walked. -/
import Derived.Test.YtddmfoldnlafaaaGreatDoorRegisterPlaysG16
import Derived.Test.YtddmfoldnlafaaaGreatDoorRegisterPlaysG08
import Derived.Test.YtddmfoldnlafaaaGreatDoorRegisterPlaysG04
namespace Go.Proofs.YtddmfoldnlafaaaGreatDoor
open Go.RowKit
attribute [local go_sem ↓] Go.wp_at_zero Go.wp_at_succ

theorem Own.litsL1 {w : World} {g : Nat} (hg : g = w.heap.size) (e : TypeId) (b : UInt8) : OwnB (w.alloc (.cells #[bv b] e)) w.heap.size e (some ⟨g, 0, none⟩) 1 [b] := by
  subst hg
  exact World.ownsRow_lit w #[bv b] 1 (Nat.le_refl _) (by simp [maxLen]) (by simp)
theorem chk_one {o e u : Int} (h : o < 0 ∨ 2 < o ∨ e < 0 ∨ 1099511627776 < e ∨ u < 0 ∨ 1099511627776 < u) : chk o e u = 1 := by
  unfold chk
  rw [if_pos]
  by_cases h1 : inb [e, u] = false
  · exact Or.inr h1
  · have h2 : inb [e, u] = true := by cases h4 : inb [e, u] <;> simp_all
    have h3 := inb_two h2
    refine Or.inl ⟨by omega, ?_⟩
    unfold ownb
    simp
    omega
theorem chk_two {o e u : Int} (h1 : o = 0) (h2 : 0 ≤ e ∧ e ≤ 1099511627776) (h3 : 0 < u ∧ u ≤ 1099511627776) : chk o e u = 2 := by
  unfold chk
  rw [if_neg, if_pos ⟨h1, by omega⟩]
  rintro (h | h)
  · exact h.1 h1
  · simp [inb] at h; omega
theorem chk_zero {o e u : Int} (h1 : 0 ≤ o ∧ o ≤ 2) (h2 : 0 ≤ e ∧ e ≤ 1099511627776) (h3 : 0 ≤ u ∧ u ≤ 1099511627776) (h4 : o = 0 → u = 0) : chk o e u = 0 := by
  unfold chk
  rw [if_neg, if_neg (by omega)]
  rintro (h | h)
  · unfold ownb at h; simp at h; omega
  · simp [inb] at h; omega

set_option maxRecDepth 100000 in
set_option maxHeartbeats 1000000 in
theorem rLCheck_any (o e u : Int) (w : World) : Calls Tryz.prog 169 #[lv o e u] w fun r w' => r = .returned (.int .i64 (chk o e u : Nat)) ∧ Below w.heap.size w w' := by
  have hbw := below_new w (.cells #[iv o, iv e, iv u] 102)
  by_cases h1 : o < 0
  · have HG := Lib.hid (chk_one (e := e) (u := u) (.inl h1))
    go_enter Tryz.func169, Tryz.ntmps169
    go_wp2_with fail
    go_ret
    exact ⟨by first | (rw [HG.out]; rfl) | rfl, hbw⟩
  by_cases h2 : 2 < o
  · have HG := Lib.hid (chk_one (e := e) (u := u) (.inr (.inl h2)))
    go_enter Tryz.func169, Tryz.ntmps169
    go_wp2_with fail
    go_ret
    exact ⟨by first | (rw [HG.out]; rfl) | rfl, hbw⟩
  by_cases h3 : e < 0
  · have HG := Lib.hid (chk_one (o := o) (u := u) (.inr (.inr (.inl h3))))
    go_enter Tryz.func169, Tryz.ntmps169
    go_wp2_with fail
    go_ret
    exact ⟨by first | (rw [HG.out]; rfl) | rfl, hbw⟩
  by_cases h4 : 1099511627776 < e
  · have HG := Lib.hid (chk_one (o := o) (u := u) (.inr (.inr (.inr (.inl h4)))))
    go_enter Tryz.func169, Tryz.ntmps169
    go_wp2_with fail
    go_ret
    exact ⟨by first | (rw [HG.out]; rfl) | rfl, hbw⟩
  by_cases h5 : u < 0
  · have HG := Lib.hid (chk_one (o := o) (e := e) (.inr (.inr (.inr (.inr (.inl h5))))))
    go_enter Tryz.func169, Tryz.ntmps169
    go_wp2_with fail
    go_ret
    exact ⟨by first | (rw [HG.out]; rfl) | rfl, hbw⟩
  by_cases h6 : 1099511627776 < u
  · have HG := Lib.hid (chk_one (o := o) (e := e) (.inr (.inr (.inr (.inr (.inr h6))))))
    go_enter Tryz.func169, Tryz.ntmps169
    go_wp2_with fail
    go_ret
    exact ⟨by first | (rw [HG.out]; rfl) | rfl, hbw⟩
  by_cases h7 : o = 0
  · have h7b : (o == 0) = true := by simpa using h7
    by_cases h8 : 0 < u
    · have hcc := chk_two h7 (e := e) (u := u) ⟨by omega, by omega⟩ ⟨h8, by omega⟩
      clear h7
      have HG := Lib.hid hcc
      go_enter Tryz.func169, Tryz.ntmps169
      go_wp2_with fail
      go_ret
      exact ⟨by first | (rw [HG.out]; rfl) | rfl, hbw⟩
    · have hcc := chk_zero (o := o) (e := e) (u := u) ⟨by omega, by omega⟩ ⟨by omega, by omega⟩ ⟨by omega, by omega⟩ (fun _ => by omega)
      clear h7
      have HG := Lib.hid hcc
      go_enter Tryz.func169, Tryz.ntmps169
      go_wp2_with fail
      go_ret
      exact ⟨by first | (rw [HG.out]; rfl) | rfl, hbw⟩
  · have h7b : (o == 0) = false := by simpa using h7
    have hcc := chk_zero (o := o) (e := e) (u := u) ⟨by omega, by omega⟩ ⟨by omega, by omega⟩ ⟨by omega, by omega⟩ (fun h => absurd h h7)
    clear h7
    have HG := Lib.hid hcc
    go_enter Tryz.func169, Tryz.ntmps169
    go_wp2_with fail
    go_ret
    exact ⟨by first | (rw [HG.out]; rfl) | rfl, hbw⟩

set_option maxRecDepth 100000 in
set_option maxHeartbeats 2000000 in
theorem rLPut_any (o e u : Int) (w : World) (hc : chk o e u = 0) : Calls Tryz.prog 170 #[lv o e u] w (GivesB w (lput o e u).1) := by
  have hg := Lib.hid (show (lput o e u).1 = frm (ltxt o e u) from by unfold lput; rw [if_neg (by omega)])
  have hlt := ltxt_len hc
  obtain ⟨⟨r1, r2⟩, ⟨r3, r4⟩, ⟨r5, r6⟩, _⟩ := chk_ok hc
  obtain ⟨ob, rfl⟩ : ∃ b : UInt8, o = (b.toNat : Int) := ⟨UInt8.ofNat o.toNat, by rw [UInt8.toNat_ofNat']; omega⟩
  obtain ⟨b, rfl⟩ : ∃ n : Nat, e = n := ⟨e.toNat, by omega⟩
  obtain ⟨c, rfl⟩ : ∃ n : Nat, u = n := ⟨u.toNat, by omega⟩
  have hub : U64 b := by unfold U64; omega
  have huc : U64 c := by unfold U64; omega
  have hwb := wrap_u64_of hub
  have hwc := wrap_u64_of huc
  have hwo : IntKind.u8.wrap (ob.toNat : Int) = (ob.toNat : Int) := by have := ob.toNat_lt; rw [IntKind.wrap_u8]; omega
  have htx : Hid (ltxt (ob.toNat : Int) b c = [ob] ++ vb b ++ vb c) := (show _ = _ from by
    unfold ltxt
    simp only [Int.toNat_natCast]
    rw [vb_small (n := ob.toNat) (by omega)]
    simp)
  have HLT := Lib.hid hlt
  have hB0 := Blk.new w 102 #[iv (ob.toNat : Int), iv b, iv c]
  have hbw := below_new w (.cells #[iv (ob.toNat : Int), iv b, iv c] 102)
  have hz0 : w.heap.size < (w.alloc (.cells #[iv (ob.toNat : Int), iv b, iv c] 102)).heap.size := by simp
  clear hc hlt
  go_enter Tryz.func170, Tryz.ntmps170
  go_upto_region 1 with (fail)
  have hst : Blk (w.alloc (.cells #[iv (ob.toNat : Int), iv b, iv c] 102)).drew w.heap.size 102 #[iv (ob.toNat : Int), iv b, iv c] ∧ Below w.heap.size w (w.alloc (.cells #[iv (ob.toNat : Int), iv b, iv c] 102)).drew ∧ w.heap.size < (w.alloc (.cells #[iv (ob.toNat : Int), iv b, iv c] 102)).drew.heap.size := ⟨hB0, hbw.drew, hz0⟩
  clear hB0 hbw hz0
  refine wp_region_held_drew (S := (fun W => Blk W w.heap.size 102 #[iv (ob.toNat : Int), iv b, iv c] ∧ Below w.heap.size w W ∧ w.heap.size < W.heap.size)) (by kernel_rfl) ?_ (fun hHeld => ?_)
  · exact hst
  refine gen0 (T := fun W => ((fun W => Blk W w.heap.size 102 #[iv (ob.toNat : Int), iv b, iv c] ∧ Below w.heap.size w W ∧ w.heap.size < W.heap.size)) W ∧ True) ?_ (fun wq1 hT => ?_)
  · exact ⟨by (exact hst), trivial⟩
  (try clear f0 f1 f2 f3 f4 f5 f6 f7 f8 f9 f10 f11)
  obtain ⟨hHeld, -⟩ := hT
  refine wpAnyH_take (i := 0) (oi := ⟨some 4, _, _, _, _, _⟩) (v := ?_) rfl (by kernel_rfl) (by kernel_rfl) (by kernel_rfl) (fun _ _ _ h => h) (Or.inl ⟨by kernel_rfl, ?_⟩) (by assumption) ?_
  rotate_left
  · (intro wS hSw; (try dsimp only at hSw); obtain ⟨q0, q1, q2, _, _, _⟩ := hSw.1.three; clear hSw; go_simp; (try with_reducible rfl))
  (try simp only [Act.put, List.setIfInBounds_toArray, List.set_cons_zero, List.set_cons_succ])
  refine wpAnyH_take (i := 1) (oi := ⟨some 5, _, _, _, _, _⟩) (v := ?_) rfl (by kernel_rfl) (by kernel_rfl) (by kernel_rfl) (fun _ _ _ h => h) (Or.inl ⟨by kernel_rfl, ?_⟩) (by assumption) ?_
  rotate_left
  · (intro wS hSw; (try dsimp only at hSw); obtain ⟨q0, q1, q2, _, _, _⟩ := hSw.1.three; clear hSw; go_simp; (try with_reducible rfl))
  (try simp only [Act.put, List.setIfInBounds_toArray, List.set_cons_zero, List.set_cons_succ])
  refine wpAnyH_take (i := 2) (oi := ⟨some 6, _, _, _, _, _⟩) (v := ?_) rfl (by kernel_rfl) (by kernel_rfl) (by kernel_rfl) (fun _ _ _ h => h) (Or.inl ⟨by kernel_rfl, ?_⟩) (by assumption) ?_
  rotate_left
  · (intro wS hSw; (try dsimp only at hSw); obtain ⟨q0, q1, q2, _, _, _⟩ := hSw.1.three; clear hSw; go_simp; (try with_reducible rfl))
  (try simp only [Act.put, List.setIfInBounds_toArray, List.set_cons_zero, List.set_cons_succ])
  refine wpAnyH_take (i := 4) (oi := ⟨some 8, _, _, _, _, _⟩) (v := ?_) rfl (by kernel_rfl) (by kernel_rfl) (by kernel_rfl) (fun _ _ _ h => h) (Or.inl ⟨by kernel_rfl, ?_⟩) (by assumption) ?_
  rotate_left
  · (intro wS hSw; (try dsimp only at hSw); obtain ⟨q0, q1, q2, _, _, _⟩ := hSw.1.three; clear hSw; go_simp; (try with_reducible rfl))
  (try simp only [Act.put, List.setIfInBounds_toArray, List.set_cons_zero, List.set_cons_succ])
  refine wpAnyH_take (i := 5) (oi := ⟨some 9, _, _, _, _, _⟩) (v := ?_) rfl (by kernel_rfl) (by kernel_rfl) (by kernel_rfl) (fun _ _ _ h => h) (Or.inl ⟨by kernel_rfl, ?_⟩) (by assumption) ?_
  rotate_left
  · (intro wS hSw; (try dsimp only at hSw); obtain ⟨q0, q1, q2, _, _, _⟩ := hSw.1.three; clear hSw; go_simp; (try with_reducible rfl))
  (try simp only [Act.put, List.setIfInBounds_toArray, List.set_cons_zero, List.set_cons_succ])
  refine wpAnyH_take (i := 6) (oi := ⟨some 10, _, _, _, _, _⟩) (v := ?_) rfl (by kernel_rfl) (by kernel_rfl) (by kernel_rfl) (fun _ _ _ h => h) (Or.inl ⟨by kernel_rfl, ?_⟩) (by assumption) ?_
  rotate_left
  · (intro wS hSw; (try dsimp only at hSw); obtain ⟨q0, q1, q2, _, _, _⟩ := hSw.1.three; clear hSw; go_simp; (try with_reducible rfl))
  (try simp only [Act.put, List.setIfInBounds_toArray, List.set_cons_zero, List.set_cons_succ])
  refine wpAnyH_ready (rs := [3, 7]) (by kernel_rfl) (by simp) ?_
  refine AllReadyH.cons (o := ⟨some 7, _, _, _, _, _⟩) rfl (fun K hK => ?_) ?_
  · go_simp
    refine hK.out _ _ ?_ (fun _ => ?_)
    · ((try dsimp only); (exact ⟨hHeld.1.alloc _, bel_alloc hHeld.2.1 _, by have := hHeld.2.2; simp; omega⟩))
    clear hK K
    (try simp only [Act.put, List.setIfInBounds_toArray, List.set_cons_zero, List.set_cons_succ])
    refine gen0 (T := fun W => ((fun W => Blk W w.heap.size 102 #[iv (ob.toNat : Int), iv b, iv c] ∧ Below w.heap.size w W ∧ w.heap.size < W.heap.size)) W ∧ OwnB W (w.heap.size + 1) 5 (some ⟨wq1.heap.size, 0, none⟩) 1 [ob] ∧ True) ?_ (fun wq2 hT => ?_)
    · exact ⟨by (exact ⟨hHeld.1.alloc _, bel_alloc hHeld.2.1 _, by have := hHeld.2.2; simp; omega⟩), by (exact Own.more (Own.litsL1 rfl 5 ob) hHeld.2.2), trivial⟩
    (try clear f0 f1 f2 f3 f4 f5 f6 f7 f8 f9 f10 f11)
    obtain ⟨hHeld, f0, -⟩ := hT
    refine wpAnyH_ready (rs := [7]) (by kernel_rfl) (by simp) ?_
    refine AllReadyH.cons (o := ⟨some 11, _, _, _, _, _⟩) rfl (fun K hK => ?_) AllReadyH.nil
    go_simp
    (refine (rBytes_any b hub _).mono ?_; rintro e w9 ⟨A9, c9, m9, rfl, hm9, ho9, hb9⟩; have hml9 : m9.length ≤ 10 := by rw [hm9.out]; exact vb_le10 hub)
    go_wp2_with fail
    refine hK.out _ _ ?_ (fun _ => ?_)
    · ((try dsimp only); (exact ⟨hHeld.1.below hb9, bel_call hHeld.2.1 hb9, Nat.lt_of_lt_of_le hHeld.2.2 hb9.size⟩))
    clear hK K
    (try simp only [Act.put, List.setIfInBounds_toArray, List.set_cons_zero, List.set_cons_succ])
    refine gen0 (T := fun W => ((fun W => Blk W w.heap.size 102 #[iv (ob.toNat : Int), iv b, iv c] ∧ Below w.heap.size w W ∧ w.heap.size < W.heap.size)) W ∧ OwnB W (w.heap.size + 1) 5 (some ⟨wq1.heap.size, 0, none⟩) 1 [ob] ∧ SlB W A9 c9 m9 ∧ True) ?_ (fun wq3 hT => ?_)
    · exact ⟨by (exact ⟨hHeld.1.below hb9, bel_call hHeld.2.1 hb9, Nat.lt_of_lt_of_le hHeld.2.2 hb9.size⟩), by (exact Own.below f0 hb9), by (exact ho9.sl), trivial⟩
    (try clear f0 f1 f2 f3 f4 f5 f6 f7 f8 f9 f10 f11)
    obtain ⟨hHeld, f0, f1, -⟩ := hT
    refine wpAnyH_ready (rs := [8]) (by kernel_rfl) (by simp) ?_
    refine AllReadyH.cons (o := ⟨some 12, _, _, _, _, _⟩) rfl (fun K hK => ?_) AllReadyH.nil
    (refine step_bytes 25 5 Tryz.underlying25 u8_info (by kernel_rfl) (.tmp 7) (.tmp 11) rfl (w.heap.size + 1) _ 1 [ob] rfl f0 A9 c9 m9.length m9 rfl rfl f1 (by simp; omega) hHeld.2.2 ?_; intro A11 c11 m11 w11 hm11 ho11 hb11)
    refine hK.out _ _ ?_ (fun _ => ?_)
    · ((try dsimp only); (exact ⟨(hb11.block w.heap.size (Nat.lt_succ_self _)).trans hHeld.1, hHeld.2.1.trans (hb11.mono (Nat.le_succ _)), Nat.lt_of_lt_of_le hHeld.2.2 hb11.size⟩))
    clear hK K
    (try simp only [Act.put, List.setIfInBounds_toArray, List.set_cons_zero, List.set_cons_succ])
    refine gen0 (T := fun W => ((fun W => Blk W w.heap.size 102 #[iv (ob.toNat : Int), iv b, iv c] ∧ Below w.heap.size w W ∧ w.heap.size < W.heap.size)) W ∧ OwnB W (w.heap.size + 1) 5 A11 c11 m11 ∧ True) ?_ (fun wq4 hT => ?_)
    · exact ⟨by (exact ⟨(hb11.block w.heap.size (Nat.lt_succ_self _)).trans hHeld.1, hHeld.2.1.trans (hb11.mono (Nat.le_succ _)), Nat.lt_of_lt_of_le hHeld.2.2 hb11.size⟩), by (assumption), trivial⟩
    (try clear f0 f1 f2 f3 f4 f5 f6 f7 f8 f9 f10 f11)
    obtain ⟨hHeld, f0, -⟩ := hT
    refine wpAnyH_take (i := 9) (oi := ⟨some 3, _, _, _, _, _⟩) (v := ?_) rfl (by kernel_rfl) (by kernel_rfl) (by kernel_rfl) (fun _ _ _ h => h) (Or.inl ⟨by kernel_rfl, ?_⟩) (by assumption) ?_
    rotate_left
    · (intro wS hSw; (try dsimp only at hSw); obtain ⟨q0, q1, q2, _, _, _⟩ := hSw.1.three; clear hSw; go_simp; (try with_reducible rfl))
    (try simp only [Act.put, List.setIfInBounds_toArray, List.set_cons_zero, List.set_cons_succ])
    refine wpAnyH_done (by kernel_rfl) ?_ _
    (obtain ⟨hBq, hwq, hzq⟩ := hHeld; obtain ⟨q0, q1, q2, _, _, _⟩ := hBq.three; have hml11 : m11.length ≤ 11 := (by rw [hm11.out]; simp; omega); clear hBq; go_wp2_with fail; refine (rBytes_any c huc _).mono ?_; rintro e w12 ⟨A12, c12, m12, rfl, hm12, ho12, hb12⟩; have hml12 : m12.length ≤ 10 := (by rw [hm12.out]; exact vb_le10 huc); go_wp2_with (at_builtin; go_must (refine wpl_bytes 25 5 Tryz.underlying25 u8_info rfl _ _ rfl (w.heap.size + 1) A11 c11 m11 rfl (f0.below hb12) A12 c12 m12 rfl ho12.sl (by omega) (Nat.le_trans hzq hb12.size) ?_; intro A13 c13 m13 w13 hm13 ho13 _ _ hb13)); refine (rFrame_any A13 c13 m13 _ ho13.sl (by rw [hm13.out]; simp; omega)).mono ?_; rintro e w14 ⟨A14, c14, m14, rfl, hm14, ho14, hb14⟩; go_wp2_with fail; go_ret; exact ⟨A14, c14, m14, rfl, (show m14 = _ from by rw [hm14.out, hm13.out, hm12.out, hm11.out, hm9.out, hg.out, htx.out]), ho14.more (Nat.le_trans (Nat.le_of_lt hzq) (Nat.le_trans hb12.size hb13.size)), bel_call ((bel_call hwq hb12).trans (hb13.mono (Nat.le_succ _))) hb14⟩)
  refine AllReadyH.cons (o := ⟨some 11, _, _, _, _, _⟩) rfl (fun K hK => ?_) ?_
  · go_simp
    (refine (rBytes_any b hub _).mono ?_; rintro e w9 ⟨A9, c9, m9, rfl, hm9, ho9, hb9⟩; have hml9 : m9.length ≤ 10 := by rw [hm9.out]; exact vb_le10 hub)
    go_wp2_with fail
    refine hK.out _ _ ?_ (fun _ => ?_)
    · ((try dsimp only); (exact ⟨hHeld.1.below hb9, bel_call hHeld.2.1 hb9, Nat.lt_of_lt_of_le hHeld.2.2 hb9.size⟩))
    clear hK K
    (try simp only [Act.put, List.setIfInBounds_toArray, List.set_cons_zero, List.set_cons_succ])
    refine gen0 (T := fun W => ((fun W => Blk W w.heap.size 102 #[iv (ob.toNat : Int), iv b, iv c] ∧ Below w.heap.size w W ∧ w.heap.size < W.heap.size)) W ∧ SlB W A9 c9 m9 ∧ True) ?_ (fun wq5 hT => ?_)
    · exact ⟨by (exact ⟨hHeld.1.below hb9, bel_call hHeld.2.1 hb9, Nat.lt_of_lt_of_le hHeld.2.2 hb9.size⟩), by (exact ho9.sl), trivial⟩
    (try clear f0 f1 f2 f3 f4 f5 f6 f7 f8 f9 f10 f11)
    obtain ⟨hHeld, f0, -⟩ := hT
    refine wpAnyH_ready (rs := [3]) (by kernel_rfl) (by simp) ?_
    refine AllReadyH.cons (o := ⟨some 7, _, _, _, _, _⟩) rfl (fun K hK => ?_) AllReadyH.nil
    go_simp
    refine hK.out _ _ ?_ (fun _ => ?_)
    · ((try dsimp only); (exact ⟨hHeld.1.alloc _, bel_alloc hHeld.2.1 _, by have := hHeld.2.2; simp; omega⟩))
    clear hK K
    (try simp only [Act.put, List.setIfInBounds_toArray, List.set_cons_zero, List.set_cons_succ])
    refine gen0 (T := fun W => ((fun W => Blk W w.heap.size 102 #[iv (ob.toNat : Int), iv b, iv c] ∧ Below w.heap.size w W ∧ w.heap.size < W.heap.size)) W ∧ OwnB W (w.heap.size + 1) 5 (some ⟨wq5.heap.size, 0, none⟩) 1 [ob] ∧ SlB W A9 c9 m9 ∧ True) ?_ (fun wq6 hT => ?_)
    · exact ⟨by (exact ⟨hHeld.1.alloc _, bel_alloc hHeld.2.1 _, by have := hHeld.2.2; simp; omega⟩), by (exact Own.more (Own.litsL1 rfl 5 ob) hHeld.2.2), by (exact Sl.below f0 (below_new _ _)), trivial⟩
    (try clear f0 f1 f2 f3 f4 f5 f6 f7 f8 f9 f10 f11)
    obtain ⟨hHeld, f0, f1, -⟩ := hT
    refine wpAnyH_ready (rs := [8]) (by kernel_rfl) (by simp) ?_
    refine AllReadyH.cons (o := ⟨some 12, _, _, _, _, _⟩) rfl (fun K hK => ?_) AllReadyH.nil
    (refine step_bytes 25 5 Tryz.underlying25 u8_info (by kernel_rfl) (.tmp 7) (.tmp 11) rfl (w.heap.size + 1) _ 1 [ob] rfl f0 A9 c9 m9.length m9 rfl rfl f1 (by simp; omega) hHeld.2.2 ?_; intro A11 c11 m11 w11 hm11 ho11 hb11)
    refine hK.out _ _ ?_ (fun _ => ?_)
    · ((try dsimp only); (exact ⟨(hb11.block w.heap.size (Nat.lt_succ_self _)).trans hHeld.1, hHeld.2.1.trans (hb11.mono (Nat.le_succ _)), Nat.lt_of_lt_of_le hHeld.2.2 hb11.size⟩))
    clear hK K
    (try simp only [Act.put, List.setIfInBounds_toArray, List.set_cons_zero, List.set_cons_succ])
    refine gen0 (T := fun W => ((fun W => Blk W w.heap.size 102 #[iv (ob.toNat : Int), iv b, iv c] ∧ Below w.heap.size w W ∧ w.heap.size < W.heap.size)) W ∧ OwnB W (w.heap.size + 1) 5 A11 c11 m11 ∧ True) ?_ (fun wq7 hT => ?_)
    · exact ⟨by (exact ⟨(hb11.block w.heap.size (Nat.lt_succ_self _)).trans hHeld.1, hHeld.2.1.trans (hb11.mono (Nat.le_succ _)), Nat.lt_of_lt_of_le hHeld.2.2 hb11.size⟩), by (assumption), trivial⟩
    (try clear f0 f1 f2 f3 f4 f5 f6 f7 f8 f9 f10 f11)
    obtain ⟨hHeld, f0, -⟩ := hT
    refine wpAnyH_take (i := 9) (oi := ⟨some 3, _, _, _, _, _⟩) (v := ?_) rfl (by kernel_rfl) (by kernel_rfl) (by kernel_rfl) (fun _ _ _ h => h) (Or.inl ⟨by kernel_rfl, ?_⟩) (by assumption) ?_
    rotate_left
    · (intro wS hSw; (try dsimp only at hSw); obtain ⟨q0, q1, q2, _, _, _⟩ := hSw.1.three; clear hSw; go_simp; (try with_reducible rfl))
    (try simp only [Act.put, List.setIfInBounds_toArray, List.set_cons_zero, List.set_cons_succ])
    refine wpAnyH_done (by kernel_rfl) ?_ _
    (obtain ⟨hBq, hwq, hzq⟩ := hHeld; obtain ⟨q0, q1, q2, _, _, _⟩ := hBq.three; have hml11 : m11.length ≤ 11 := (by rw [hm11.out]; simp; omega); clear hBq; go_wp2_with fail; refine (rBytes_any c huc _).mono ?_; rintro e w12 ⟨A12, c12, m12, rfl, hm12, ho12, hb12⟩; have hml12 : m12.length ≤ 10 := (by rw [hm12.out]; exact vb_le10 huc); go_wp2_with (at_builtin; go_must (refine wpl_bytes 25 5 Tryz.underlying25 u8_info rfl _ _ rfl (w.heap.size + 1) A11 c11 m11 rfl (f0.below hb12) A12 c12 m12 rfl ho12.sl (by omega) (Nat.le_trans hzq hb12.size) ?_; intro A13 c13 m13 w13 hm13 ho13 _ _ hb13)); refine (rFrame_any A13 c13 m13 _ ho13.sl (by rw [hm13.out]; simp; omega)).mono ?_; rintro e w14 ⟨A14, c14, m14, rfl, hm14, ho14, hb14⟩; go_wp2_with fail; go_ret; exact ⟨A14, c14, m14, rfl, (show m14 = _ from by rw [hm14.out, hm13.out, hm12.out, hm11.out, hm9.out, hg.out, htx.out]), ho14.more (Nat.le_trans (Nat.le_of_lt hzq) (Nat.le_trans hb12.size hb13.size)), bel_call ((bel_call hwq hb12).trans (hb13.mono (Nat.le_succ _))) hb14⟩)
  exact AllReadyH.nil

theorem SlB.apartL {w w' : World} {A : Option Addr} {c B : Nat} {l : List UInt8} (h : SlB w A c l) (hB : l ≠ [] → ∀ ad, A = some ad → ad.block < B) (hb : Below B w w') : SlB w' A c l := by
  refine ⟨h.1, h.2.1, h.2.2.1, h.2.2.2.1, fun j u hj => ?_⟩
  obtain ⟨ad, hA, hc⟩ := h.2.2.2.2 j u hj
  have hne : l ≠ [] := by intro e; rw [e] at hj; simp at hj
  exact ⟨ad, hA, (hb.cell (by rw [addr_add_block]; exact hB hne ad hA)).trans hc⟩
theorem res_rlease {fn : Func} {a b : Nat} {tmps : Array Value} {w : World} {g : Nat} {x y z : Value} (hres : fn.results = #[.cell a 102, .tmp b]) (ha : tmps.getD a undef = .pointer (some ⟨g, 0, none⟩)) (hB : Blk w g 102 #[x, y, z]) :
    (results fn tmps).run Tryz.prog w = .ok (.tuple #[.agg #[x, y, z], tmps.getD b undef]) w := by
  obtain ⟨b0, b1, b2, _, _, _⟩ := hB.three
  have ha' : tmps[a]?.getD undef = .pointer (some ⟨g, 0, none⟩) := by simpa using ha
  simp [results, hres, go_sem, b0, b1, b2, ha']
/-- what the document's Take answers: a lease, a number -/
def RLeased (x : Int × Int × Int × Nat) (w : World) (r : Ending) (w' : World) : Prop := r = .returned (.tuple #[lv x.1 x.2.1 x.2.2.1, .int .i64 (x.2.2.2 : Nat)]) ∧ Below w.heap.size w w'
/-- the reader by value in block g, the lease read so far behind it, the result's block r0 -/
structure RT (w W : World) (g : Nat) (o e u : Int) (s : List UInt8 × Nat) : Prop where
  bel : Below w.heap.size w W
  r0 : Blk W w.heap.size 102 #[iv 0, iv 0, iv 0]
  le : Blk W (g + 1) 102 #[iv o, iv e, iv u]
  gt : w.heap.size < g
theorem RT.call {w W W' : World} {g : Nat} {o e u : Int} {s s' : List UInt8 × Nat} (h : RT w W g o e u s) (hb : Below W.heap.size W W') : RT w W' g o e u s' := ⟨bel_call h.bel hb, h.r0.below hb, h.le.below hb, h.gt⟩
theorem RT.rd {w W : World} {g : Nat} {o e u : Int} {s s' : List UInt8 × Nat} (h : RT w W g o e u s) (x y : Value) : RT w ((W.setCell ⟨g, 0, none⟩ x).setCell ⟨g, 1, none⟩ y) g o e u s' := by
  have h1 := h.gt
  exact ⟨bel_set (bel_set h.bel (by show w.heap.size ≤ g; omega) _) (by show w.heap.size ≤ g; omega) _, (h.r0.far (p := ⟨g, 0, none⟩) (by show w.heap.size ≠ g; omega) x).far (p := ⟨g, 1, none⟩) (by show w.heap.size ≠ g; omega) y, (h.le.far (p := ⟨g, 0, none⟩) (by show g + 1 ≠ g; omega) x).far (p := ⟨g, 1, none⟩) (by show g + 1 ≠ g; omega) y, h1⟩
theorem RT.set0 {w W : World} {g : Nat} {o e u : Int} {s s' : List UInt8 × Nat} (h : RT w W g o e u s) (x : Int) : RT w (W.setCell ⟨g + 1, 0, none⟩ (iv x)) g x e u s' := by
  have h1 := h.gt
  exact ⟨bel_set h.bel (by show w.heap.size ≤ g + 1; omega) _, h.r0.far (p := ⟨g + 1, 0, none⟩) (by show w.heap.size ≠ g + 1; omega) _, h.le.set_ 0 _, h1⟩
theorem RT.set1 {w W : World} {g : Nat} {o e u : Int} {s s' : List UInt8 × Nat} (h : RT w W g o e u s) (x : Int) : RT w (W.setCell ⟨g + 1, 1, none⟩ (iv x)) g o x u s' := by
  have h1 := h.gt
  exact ⟨bel_set h.bel (by show w.heap.size ≤ g + 1; omega) _, h.r0.far (p := ⟨g + 1, 1, none⟩) (by show w.heap.size ≠ g + 1; omega) _, h.le.set_ 1 _, h1⟩
theorem RT.set2 {w W : World} {g : Nat} {o e u : Int} {s s' : List UInt8 × Nat} (h : RT w W g o e u s) (x : Int) : RT w (W.setCell ⟨g + 1, 2, none⟩ (iv x)) g o e x s' := by
  have h1 := h.gt
  exact ⟨bel_set h.bel (by show w.heap.size ≤ g + 1; omega) _, h.r0.far (p := ⟨g + 1, 2, none⟩) (by show w.heap.size ≠ g + 1; omega) _, h.le.set_ 2 _, h1⟩
/-- stores from block g on -/
theorem bel_sets {W : World} {g : Nat} {i : Nat} (x y z : Value) : Below g W (((W.setCell ⟨g + 1, i, none⟩ x).setCell ⟨g, 0, none⟩ y).setCell ⟨g, 1, none⟩ z) :=
  ((((Below.refl g W).setCell (p := ⟨g + 1, i, none⟩) (by show g ≤ g + 1; omega) x).setCell (p := ⟨g, 0, none⟩) (Nat.le_refl _) y).setCell (p := ⟨g, 1, none⟩) (Nat.le_refl _) z)

set_option maxRecDepth 100000 in
set_option maxHeartbeats 4000000 in
theorem rLTake_any (A : Option Addr) (c : Nat) (l : List UInt8) (w : World) (hs : SlB w A c l) (hl : l.length ≤ 10000000) :
    Calls Tryz.prog 146 #[.slice A l.length c] w (RLeased (ltake l) w) := by
  have hB0 := Blk.new w 102 #[iv 0, iv 0, iv 0]
  have hbw := below_new w (.cells #[iv 0, iv 0, iv 0] 102)
  have hs0 := hs.below hbw
  rcases hft : ftake l with ⟨t, n, bad⟩
  have hln : l.length ≤ c := hs.2.1
  rcases Nat.eq_zero_or_pos bad with h0 | h0
  · subst h0
    by_cases hlt : n < l.length
    · have hL : Hid (ltake l = (0, 0, 0, 2)) := (show _ = _ from by unfold ltake; rw [show fone l = ([], 2) from by unfold fone; rw [hft, if_neg (by simp), if_pos hlt]]; dsimp only; rw [if_pos (by decide)])
      have HF := Lib.hid hft
      clear hft
      go_enter Tryz.func146, Tryz.ntmps146
      go_wp2_with fail
      refine (rFTake_any A c l _ hs0 hl).mono ?_
      rintro r w1 ⟨A1, c1, m1, rfl, hm1, hs1, hb1, _⟩
      rw [HF.out]
      dsimp only
      have hB1 := hB0.below hb1
      have hw1 := bel_call hbw hb1
      obtain ⟨z0, z1, z2, zf0, zf1, zf2⟩ := hB1.three
      clear hm1 hB0 hb1 hbw
      go_wp2_with fail
      refine bodyPost_ret (res_rlease rfl rfl (g := w.heap.size) (hB1.set3 _ _ _)) rfl ⟨by rw [hL.out]; rfl, below_three hw1 (Nat.le_refl _) _ _ _⟩
    · have hL : ltake l = if (lread t).2.2.2 ≠ 0 then (0, 0, 0, (lread t).2.2.2) else if chk (lread t).1 (lread t).2.1 (lread t).2.2.1 ≠ 0 then (0, 0, 0, chk (lread t).1 (lread t).2.1 (lread t).2.2.1) else ((lread t).1, (lread t).2.1, (lread t).2.2.1, 0) := by
        unfold ltake
        rw [show fone l = (t, 0) from by unfold fone; rw [hft, if_neg (by simp), if_neg hlt]]
        dsimp only
        rw [if_neg (by simp)]
      rcases h1 : rWithin 2 (t, 0) with ⟨o, s1⟩
      rcases h2 : rWithin 1099511627776 s1 with ⟨e, s2⟩
      rcases h3 : rWithin 1099511627776 s2 with ⟨u, s3⟩
      have hrd : lread t = ((o : Int), (e : Int), (u : Int), rEnd s3) := by unfold lread; rw [h1]; dsimp only; rw [h2]; dsimp only; rw [h3]
      rw [hrd] at hL
      obtain ⟨t1, b1⟩ := s1
      obtain ⟨t2, b2⟩ := s2
      obtain ⟨t3, b3⟩ := s3
      have HF := Lib.hid hft
      have H1 := Lib.hid h1
      have H2 := Lib.hid h2
      have H3 := Lib.hid h3
      have HL := Lib.hid hL
      clear hft h1 h2 h3 hrd hL
      go_enter Tryz.func146, Tryz.ntmps146
      go_wp2_with fail
      refine (rFTake_any A c l _ hs0 hl).mono ?_
      rintro r w1 ⟨A1, c1, m1, rfl, hm1, hs1, hb1, _⟩
      rw [HF.out] at hm1 ⊢
      dsimp only
      obtain rfl : m1 = t := hm1.out
      have hB1 := hB0.below hb1
      have hw1 := bel_call hbw hb1
      have hz1 : w.heap.size < w1.heap.size := hB1.lt
      clear hm1 hB0 hb1 hbw
      go_upto_region 8 with (fail)
      have hbd := bel_alloc (below_new w1 (.cells #[.slice A1 m1.length c1, iv 0] 233)) (.cells #[iv 0, iv 0, iv 0] 102)
      have hT : RT w ((w1.alloc (.cells #[.slice A1 m1.length c1, iv 0] 233)).alloc (.cells #[iv 0, iv 0, iv 0] 102)) w1.heap.size 0 0 0 (([] : List UInt8), 0) := ⟨bel_call hw1 hbd, hB1.below hbd, Blk.newAt (by simp) _ _, hz1⟩
      have hQ := (Blk.new w1 233 #[.slice A1 m1.length c1, iv 0]).alloc (.cells #[iv 0, iv 0, iv 0] 102)
      have hBd : m1 ≠ [] → ∀ ad, A1 = some ad → ad.block < w1.heap.size := fun hne ad hA => Sl.lt0 hs1 (by simpa [bvs] using hne) ad.block (by rw [hA]; rfl)
      have hS := hs1.below hbd
      generalize hWW : (w1.alloc (.cells #[.slice A1 m1.length c1, .int .i64 0] 233)).alloc (.cells #[.int .i64 0, .int .i64 0, .int .i64 0] 102) = Wa at *
      clear hWW hs1 hB1 hw1 hbd
      obtain ⟨k0, k1, _, _⟩ := hQ.two
      go_wp2_with fail
      refine (rWithin_any 2 _ hS (B := w1.heap.size) hBd).mono ?_
      rintro r w2 ⟨v2, rfl, ⟨A2, c2, rfl, hS2, hBd2⟩, hb2⟩
      rw [H1.out] at hS2 hBd2 ⊢
      dsimp only at hS2 hBd2 ⊢
      have hT2 := hT.call (s' := ([], 0)) hb2
      have hQ2 := hQ.below hb2
      obtain ⟨_, _, _, xf0, xf1, xf2⟩ := hT2.le.three
      obtain ⟨_, _, yf0, yf1⟩ := hQ2.two
      clear hS hBd hb2 hT hQ k0 k1
      go_upto_region 9 with (fail)
      have hT := (hT2.set0 (s' := ([], 0)) o).rd (s' := ([], 0)) (.slice A2 (t1).length c2) (iv b1)
      have hQ := (hQ2.far (p := ⟨w1.heap.size + 1, 0, none⟩) (by show w1.heap.size ≠ w1.heap.size + 1; omega) (iv o)).set2 (.slice A2 (t1).length c2) (iv b1)
      have hS := SlB.apartL hS2 hBd2 (bel_sets (i := 0) (iv o) (.slice A2 (t1).length c2) (iv b1))
      clear hT2 hQ2 hS2 xf0 xf1 xf2 yf0 yf1
      have hBd := hBd2
      clear hBd2
      generalize hWW : ((w2.setCell ⟨w1.heap.size + 1, 0, none⟩ (.int .i64 o)).setCell ⟨w1.heap.size, 0, none⟩ (.slice A2 (t1).length c2)).setCell ⟨w1.heap.size, 1, none⟩ (.int .i64 b1) = W0 at *
      clear hWW
      obtain ⟨k0, k1, _, _⟩ := hQ.two
      go_wp2_with fail
      refine (rWithin_any 1099511627776 _ hS (B := w1.heap.size) hBd).mono ?_
      rintro r w2 ⟨v2, rfl, ⟨A2, c2, rfl, hS2, hBd2⟩, hb2⟩
      rw [H2.out] at hS2 hBd2 ⊢
      dsimp only at hS2 hBd2 ⊢
      have hT2 := hT.call (s' := ([], 0)) hb2
      have hQ2 := hQ.below hb2
      obtain ⟨_, _, _, xf0, xf1, xf2⟩ := hT2.le.three
      obtain ⟨_, _, yf0, yf1⟩ := hQ2.two
      clear hS hBd hb2 hT hQ k0 k1
      go_upto_region 10 with (fail)
      have hT := (hT2.set1 (s' := ([], 0)) e).rd (s' := ([], 0)) (.slice A2 (t2).length c2) (iv b2)
      have hQ := (hQ2.far (p := ⟨w1.heap.size + 1, 1, none⟩) (by show w1.heap.size ≠ w1.heap.size + 1; omega) (iv e)).set2 (.slice A2 (t2).length c2) (iv b2)
      have hS := SlB.apartL hS2 hBd2 (bel_sets (i := 1) (iv e) (.slice A2 (t2).length c2) (iv b2))
      clear hT2 hQ2 hS2 xf0 xf1 xf2 yf0 yf1
      have hBd := hBd2
      clear hBd2
      generalize hWW : ((w2.setCell ⟨w1.heap.size + 1, 1, none⟩ (.int .i64 e)).setCell ⟨w1.heap.size, 0, none⟩ (.slice A2 (t2).length c2)).setCell ⟨w1.heap.size, 1, none⟩ (.int .i64 b2) = W1 at *
      clear hWW
      obtain ⟨k0, k1, _, _⟩ := hQ.two
      go_wp2_with fail
      refine (rWithin_any 1099511627776 _ hS (B := w1.heap.size) hBd).mono ?_
      rintro r w2 ⟨v2, rfl, ⟨A2, c2, rfl, hS2, hBd2⟩, hb2⟩
      rw [H3.out] at hS2 hBd2 ⊢
      dsimp only at hS2 hBd2 ⊢
      have hT2 := hT.call (s' := ([], 0)) hb2
      have hQ2 := hQ.below hb2
      obtain ⟨_, _, _, xf0, xf1, xf2⟩ := hT2.le.three
      obtain ⟨_, _, yf0, yf1⟩ := hQ2.two
      clear hS hBd hb2 hT hQ k0 k1
      go_upto_region 11 with (fail)
      have hT := (hT2.set2 (s' := ([], 0)) u).rd (s' := ([], 0)) (.slice A2 (t3).length c2) (iv b3)
      have hQ := (hQ2.far (p := ⟨w1.heap.size + 1, 2, none⟩) (by show w1.heap.size ≠ w1.heap.size + 1; omega) (iv u)).set2 (.slice A2 (t3).length c2) (iv b3)
      have hS := SlB.apartL hS2 hBd2 (bel_sets (i := 2) (iv u) (.slice A2 (t3).length c2) (iv b3))
      clear hT2 hQ2 hS2 xf0 xf1 xf2 yf0 yf1
      have hBd := hBd2
      clear hBd2
      generalize hWW : ((w2.setCell ⟨w1.heap.size + 1, 2, none⟩ (.int .i64 u)).setCell ⟨w1.heap.size, 0, none⟩ (.slice A2 (t3).length c2)).setCell ⟨w1.heap.size, 1, none⟩ (.int .i64 b3) = W2 at *
      clear hWW
      obtain ⟨k0, k1, _, _⟩ := hQ.two
      go_wp2_with fail
      refine (rEnd_any (bad := b3) (l := t3) _).mono ?_
      rintro r w3 ⟨rfl, hb3⟩
      have hT3 := hT.call (s' := ([], 0)) hb3
      clear hT hQ k0 k1 hS hBd hb3
      obtain ⟨x0, x1, x2, _, _, _⟩ := hT3.le.three
      obtain ⟨z0, z1, z2, zf0, zf1, zf2⟩ := hT3.r0.three
      rcases Nat.eq_zero_or_pos (rEnd (t3, b3)) with h0 | h0
      · have HL2 : Hid (ltake l = if chk o e u ≠ 0 then (0, 0, 0, chk o e u) else ((o : Int), (e : Int), (u : Int), 0)) := (show _ = _ from by rw [HL.out, if_neg (by omega)])
        rw [h0]
        clear h0 HL
        go_wp2_with fail
        refine (rLCheck_any o e u _).mono ?_
        rintro r w4 ⟨rfl, hb4⟩
        have hT4 := hT3.call (s' := ([], 0)) hb4
        clear hT3 hb4 x0 x1 x2 z0 z1 z2 zf0 zf1 zf2
        obtain ⟨x0, x1, x2, _, _, _⟩ := hT4.le.three
        obtain ⟨z0, z1, z2, zf0, zf1, zf2⟩ := hT4.r0.three
        rcases Nat.eq_zero_or_pos (chk o e u) with h0 | h0
        · have HL3 : Hid (ltake l = ((o : Int), (e : Int), (u : Int), 0)) := (show _ = _ from by rw [HL2.out, if_neg (by omega)])
          rw [h0]
          clear h0 HL2
          go_wp2_with fail
          refine bodyPost_ret (res_rlease rfl rfl (g := w.heap.size) (hT4.r0.set3 _ _ _)) rfl ⟨by rw [HL3.out]; rfl, below_three hT4.bel (Nat.le_refl _) _ _ _⟩
        · have HL3 : Hid (ltake l = (0, 0, 0, chk o e u)) := (show _ = _ from by rw [HL2.out, if_pos (by omega)])
          generalize chk o e u = k at *
          have hk1 : ((k : Int) != 0) = true := by simp; omega
          have hk2 : ((k : Int) == 0) = false := by simp; omega
          clear HL2
          go_wp2_with fail
          refine bodyPost_ret (res_rlease rfl rfl (g := w.heap.size) (hT4.r0.set3 _ _ _)) rfl ⟨by rw [HL3.out]; rfl, below_three hT4.bel (Nat.le_refl _) _ _ _⟩
      · have HL3 : Hid (ltake l = (0, 0, 0, rEnd (t3, b3))) := (show _ = _ from by rw [HL.out, if_pos (by omega)])
        generalize rEnd (t3, b3) = k at *
        have hk1 : ((k : Int) != 0) = true := by simp; omega
        have hk2 : ((k : Int) == 0) = false := by simp; omega
        clear HL
        go_wp2_with fail
        refine bodyPost_ret (res_rlease rfl rfl (g := w.heap.size) (hT3.r0.set3 _ _ _)) rfl ⟨by rw [HL3.out]; rfl, below_three hT3.bel (Nat.le_refl _) _ _ _⟩
  · have hL : Hid (ltake l = (0, 0, 0, bad)) := (show _ = _ from by unfold ltake; rw [show fone l = ([], bad) from by unfold fone; rw [hft, if_pos (by simp; omega)]]; dsimp only; rw [if_pos (by omega)])
    have HF := Lib.hid hft
    have hk1 : ((bad : Int) != 0) = true := by simp; omega
    have hk2 : ((bad : Int) == 0) = false := by simp; omega
    clear hft
    go_enter Tryz.func146, Tryz.ntmps146
    go_wp2_with fail
    refine (rFTake_any A c l _ hs0 hl).mono ?_
    rintro r w1 ⟨A1, c1, m1, rfl, hm1, hs1, hb1, _⟩
    rw [HF.out]
    dsimp only
    have hB1 := hB0.below hb1
    have hw1 := bel_call hbw hb1
    obtain ⟨z0, z1, z2, zf0, zf1, zf2⟩ := hB1.three
    clear hm1 hB0 hb1 hbw
    go_wp2_with fail
    refine bodyPost_ret (res_rlease rfl rfl (g := w.heap.size) (hB1.set3 _ _ _)) rfl ⟨by rw [hL.out]; rfl, below_three hw1 (Nat.le_refl _) _ _ _⟩
end Go.Proofs.YtddmfoldnlafaaaGreatDoor

namespace Go.Proofs.YtddmfoldnlafaaaGreatDoor
open Go.RowKit
attribute [local go_sem ↓] Go.wp_at_zero Go.wp_at_succ

theorem inb_list2 {a b : Int} (h1 : 0 ≤ a ∧ a ≤ 1099511627776) (h2 : 0 ≤ b ∧ b ≤ 1099511627776) : inb [a, b] = true := by
  simp [inb]
  omega
theorem bel_three {w W : World} {g : Nat} (h : Below w.heap.size w W) (hg : w.heap.size ≤ g) (x y z : Value) : Below w.heap.size w (((W.setCell ⟨g, 0, none⟩ x).setCell ⟨g, 1, none⟩ y).setCell ⟨g, 2, none⟩ z) := bel_set (bel_set (bel_set h (p := ⟨g, 0, none⟩) hg x) (p := ⟨g, 1, none⟩) hg y) (p := ⟨g, 2, none⟩) hg z
set_option maxRecDepth 100000 in
set_option maxHeartbeats 1000000 in
theorem rLFree_any (o e u now bound : Int) (w : World) : Calls Tryz.prog 171 #[lv o e u, iv now, iv bound] w fun r w' => r = .returned (.bool (freeb o e u now bound)) ∧ Below w.heap.size w w' := by
  have hb1 := below_new w (.cells #[iv o, iv e, iv u] 102)
  have hB1 := Blk.new w 102 #[iv o, iv e, iv u]
  have hck := rLCheck_any o e u (w.alloc (.cells #[iv o, iv e, iv u] 102))
  rcases Decidable.em (chk o e u = 0) with hc | hc
  rotate_left
  · have HX := Lib.hid (show freeb o e u now bound = false from by unfold freeb; rw [decide_eq_false hc]; rfl)
    have h1 : ¬ (chk o e u : Int) = 0 := by omega
    have hz : (((chk o e u : Nat) : Int) != 0) = true := by simpa using h1
    generalize chk o e u = ck at *
    have HC := Lib.hid hck
    clear hc h1 hck
    go_enter Tryz.func171, Tryz.ntmps171
    go_wp2_with fail
    refine HC.out.mono ?_
    rintro r w2 ⟨rfl, hb2⟩
    have hb3 := bel_call hb1 hb2
    go_wp2_with fail
    go_ret
    exact ⟨by rw [HX.out]; rfl, hb3⟩
  obtain ⟨⟨r1, r2⟩, ⟨r3, r4⟩, ⟨r5, r6⟩, _⟩ := chk_ok hc
  rw [hc] at hck
  have HC := Lib.hid hck
  have hfr : freeb o e u now bound = (inb [now, bound] && (decide (o = 0) || decide (u + bound ≤ now))) := by unfold freeb; rw [decide_eq_true hc]; rfl
  clear hck hc
  by_cases hin : inb [now, bound] = true
  rotate_left
  · have hin2 : inb [now, bound] = false := by cases h : inb [now, bound] <;> simp_all
    have HX := Lib.hid (show freeb o e u now bound = false from by rw [hfr, hin2]; rfl)
    have hor : now < 0 ∨ 1099511627776 < now ∨ bound < 0 ∨ 1099511627776 < bound := by
      rcases Int.lt_or_le now 0 with h | h1
      · exact .inl h
      rcases Int.lt_or_le 1099511627776 now with h | h2
      · exact .inr (.inl h)
      rcases Int.lt_or_le bound 0 with h | h3
      · exact .inr (.inr (.inl h))
      rcases Int.lt_or_le 1099511627776 bound with h | h4
      · exact .inr (.inr (.inr h))
      exact absurd (inb_list2 ⟨h1, h2⟩ ⟨h3, h4⟩) hin
    clear hfr hin hin2
    by_cases h1 : now < 0
    · go_enter Tryz.func171, Tryz.ntmps171
      go_wp2_with fail
      refine HC.out.mono ?_
      rintro r w2 ⟨rfl, hb2⟩
      have hb3 := bel_call hb1 hb2
      go_wp2_with fail
      go_ret
      exact ⟨by rw [HX.out]; rfl, hb3⟩
    by_cases h2 : 1099511627776 < now
    · go_enter Tryz.func171, Tryz.ntmps171
      go_wp2_with fail
      refine HC.out.mono ?_
      rintro r w2 ⟨rfl, hb2⟩
      have hb3 := bel_call hb1 hb2
      go_wp2_with fail
      go_ret
      exact ⟨by rw [HX.out]; rfl, hb3⟩
    by_cases h3 : bound < 0
    · go_enter Tryz.func171, Tryz.ntmps171
      go_wp2_with fail
      refine HC.out.mono ?_
      rintro r w2 ⟨rfl, hb2⟩
      have hb3 := bel_call hb1 hb2
      go_wp2_with fail
      go_ret
      exact ⟨by rw [HX.out]; rfl, hb3⟩
    have h4 : 1099511627776 < bound := by omega
    go_enter Tryz.func171, Tryz.ntmps171
    go_wp2_with fail
    refine HC.out.mono ?_
    rintro r w2 ⟨rfl, hb2⟩
    have hb3 := bel_call hb1 hb2
    go_wp2_with fail
    go_ret
    exact ⟨by rw [HX.out]; rfl, hb3⟩
  obtain ⟨⟨a1, a2⟩, a3, a4⟩ := inb_two hin
  rw [hin, Bool.true_and] at hfr
  have HX := Lib.hid hfr
  have H1 := Lib.hid hB1
  clear hfr hin hB1
  have hwr : wrap64 (u + bound) = u + bound := by simp only [wrap64]; omega
  have hwr2 : IntKind.i64.wrap (u + bound) = u + bound := by rw [IntKind.wrap_i64]; omega
  by_cases h0 : o = 0
  · have hz : (o == 0) = true := by simpa using h0
    have HX2 := Lib.hid (show freeb o e u now bound = true from by rw [HX.out, decide_eq_true h0, Bool.true_or])
    clear h0 HX
    go_enter Tryz.func171, Tryz.ntmps171
    go_wp2_with fail
    refine HC.out.mono ?_
    rintro r w2 ⟨rfl, hb2⟩
    have hb3 := bel_call hb1 hb2
    obtain ⟨b0, b1, b2, -, -, -⟩ := (H1.out.below hb2).three
    go_wp2_with fail
    go_ret
    exact ⟨by rw [HX2.out]; rfl, hb3⟩
  · have hz : (o == 0) = false := by simpa using h0
    have HX2 := Lib.hid (show freeb o e u now bound = decide (u + bound ≤ now) from by rw [HX.out, decide_eq_false h0, Bool.false_or])
    clear h0 HX
    go_enter Tryz.func171, Tryz.ntmps171
    go_wp2_with fail
    refine HC.out.mono ?_
    rintro r w2 ⟨rfl, hb2⟩
    have hb3 := bel_call hb1 hb2
    obtain ⟨b0, b1, b2, -, -, -⟩ := (H1.out.below hb2).three
    go_wp2_with fail
    go_ret
    exact ⟨by rw [HX2.out]; rfl, hb3⟩
set_option maxRecDepth 100000 in
set_option maxHeartbeats 1000000 in
theorem rLGive_any (o e u by_ : Int) (w : World) : Calls Tryz.prog 147 #[lv o e u, iv by_] w (RLeased (give o e u by_) w) := by
  have hs0 : (w.alloc (.cells #[iv o, iv e, iv u] 102)).heap.size = w.heap.size + 1 := by simp
  have hb1 := bel_alloc (below_new w (.cells #[iv o, iv e, iv u] 102)) (.cells #[iv 0, iv 0, iv 0] 102)
  have hA0 := (Blk.new w 102 #[iv o, iv e, iv u]).alloc (.cells #[iv 0, iv 0, iv 0] 102)
  have hB0 := Blk.newAt (w := w.alloc (.cells #[iv o, iv e, iv u] 102)) (g := w.heap.size + 1) hs0.symm 102 #[iv 0, iv 0, iv 0]
  have HC := Lib.hid (rLCheck_any o e u ((w.alloc (.cells #[iv o, iv e, iv u] 102)).alloc (.cells #[iv 0, iv 0, iv 0] 102)))
  obtain ⟨a0, a1, a2, -, -, -⟩ := hA0.three
  have Hb1 := Lib.hid hb1
  have HA0 := Lib.hid hA0
  have HB0 := Lib.hid hB0
  clear hs0 hb1 hA0 hB0
  go_enter Tryz.func147, Tryz.ntmps147
  go_wp2_with fail
  refine HC.out.mono ?_
  rintro r w2 ⟨rfl, hb2⟩
  have hb3 := bel_call Hb1.out hb2
  have hA1 := HA0.out.below hb2
  have hB1 := HB0.out.below hb2
  obtain ⟨c0, c1, c2, -, -, -⟩ := hA1.three
  obtain ⟨d0, d1, d2, df0, df1, df2⟩ := hB1.three
  clear HC hb2 Hb1 HA0 HB0 a0 a1 a2 hA1
  rcases Decidable.em (chk o e u = 0) with hc | hc
  rotate_left
  · have HX := Lib.hid (show give o e u by_ = (0, 0, 0, chk o e u) from by unfold give; rw [if_pos hc])
    have h1 : ¬ (chk o e u : Int) = 0 := by omega
    have hz : (((chk o e u : Nat) : Int) != 0) = true := by simpa using h1
    generalize chk o e u = ck at *
    clear hc h1
    have HB := Lib.hid (((hB1.set_ 0 (iv 0)).set_ 1 (iv 0)).set_ 2 (iv 0))
    have Hb := Lib.hid (bel_three hb3 (show w.heap.size ≤ w.heap.size + 1 by omega) (iv 0) (iv 0) (iv 0))
    clear hB1 hb3
    go_wp2_with fail
    exact bodyPost_ret (res_rlease rfl rfl (g := w.heap.size + 1) HB.out) rfl ⟨by rw [HX.out]; rfl, Hb.out⟩
  have hgv : give o e u by_ = if ownb by_ = false then (0, 0, 0, 1) else if o ≠ by_ then (0, 0, 0, 16) else (0, e, 0, 0) := by unfold give; rw [if_neg (by omega)]
  rw [hc]
  clear hc
  by_cases h1 : by_ = 1
  · subst h1
    rw [show ownb 1 = true from rfl, if_neg (by simp)] at hgv
    by_cases h2 : o = 1
    · subst h2
      have HX := Lib.hid (hgv.trans (if_neg (by simp)))
      clear hgv
      have HB := Lib.hid (((hB1.set_ 0 (iv 0)).set_ 1 (iv e)).set_ 2 (iv 0))
      have Hb := Lib.hid (bel_three hb3 (show w.heap.size ≤ w.heap.size + 1 by omega) (iv 0) (iv e) (iv 0))
      clear hB1 hb3
      go_wp2_with fail
      exact bodyPost_ret (res_rlease rfl rfl (g := w.heap.size + 1) HB.out) rfl ⟨by rw [HX.out]; rfl, Hb.out⟩
    · have hz : (o != 1) = true := by simpa using h2
      have HX := Lib.hid (hgv.trans (if_pos h2))
      clear hgv h2
      have HB := Lib.hid (((hB1.set_ 0 (iv 0)).set_ 1 (iv 0)).set_ 2 (iv 0))
      have Hb := Lib.hid (bel_three hb3 (show w.heap.size ≤ w.heap.size + 1 by omega) (iv 0) (iv 0) (iv 0))
      clear hB1 hb3
      go_wp2_with fail
      exact bodyPost_ret (res_rlease rfl rfl (g := w.heap.size + 1) HB.out) rfl ⟨by rw [HX.out]; rfl, Hb.out⟩
  have hz1 : (by_ != 1) = true := by simpa using h1
  by_cases h2 : by_ = 2
  · subst h2
    rw [show ownb 2 = true from rfl, if_neg (by simp)] at hgv
    by_cases h2 : o = 2
    · subst h2
      have HX := Lib.hid (hgv.trans (if_neg (by simp)))
      clear hgv h1
      have HB := Lib.hid (((hB1.set_ 0 (iv 0)).set_ 1 (iv e)).set_ 2 (iv 0))
      have Hb := Lib.hid (bel_three hb3 (show w.heap.size ≤ w.heap.size + 1 by omega) (iv 0) (iv e) (iv 0))
      clear hB1 hb3
      go_wp2_with fail
      exact bodyPost_ret (res_rlease rfl rfl (g := w.heap.size + 1) HB.out) rfl ⟨by rw [HX.out]; rfl, Hb.out⟩
    · have hz : (o != 2) = true := by simpa using h2
      have HX := Lib.hid (hgv.trans (if_pos h2))
      clear hgv h2 h1
      have HB := Lib.hid (((hB1.set_ 0 (iv 0)).set_ 1 (iv 0)).set_ 2 (iv 0))
      have Hb := Lib.hid (bel_three hb3 (show w.heap.size ≤ w.heap.size + 1 by omega) (iv 0) (iv 0) (iv 0))
      clear hB1 hb3
      go_wp2_with fail
      exact bodyPost_ret (res_rlease rfl rfl (g := w.heap.size + 1) HB.out) rfl ⟨by rw [HX.out]; rfl, Hb.out⟩
  have hz2 : (by_ != 2) = true := by simpa using h2
  have HX := Lib.hid (hgv.trans (if_pos (by unfold ownb; simp; omega)))
  clear hgv h1 h2
  have HB := Lib.hid (((hB1.set_ 0 (iv 0)).set_ 1 (iv 0)).set_ 2 (iv 0))
  have Hb := Lib.hid (bel_three hb3 (show w.heap.size ≤ w.heap.size + 1 by omega) (iv 0) (iv 0) (iv 0))
  clear hB1 hb3
  go_wp2_with fail
  exact bodyPost_ret (res_rlease rfl rfl (g := w.heap.size + 1) HB.out) rfl ⟨by rw [HX.out]; rfl, Hb.out⟩
end Go.Proofs.YtddmfoldnlafaaaGreatDoor
