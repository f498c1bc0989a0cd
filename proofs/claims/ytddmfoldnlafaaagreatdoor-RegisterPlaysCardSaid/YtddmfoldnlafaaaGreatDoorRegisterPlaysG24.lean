/- WHAT IT HOLDS: the document's leases granted: walked. | WHAT IT HOLDS: the document's store: which texts are names; objects deleted, put, read: walked. | WHAT IT HOLDS: a store's objects told: walked. | WHAT IT HOLDS: the law StoreSweeps, walked. -/
import Derived.Test.YtddmfoldnlafaaaGreatDoorRegisterPlaysG23
import Derived.Test.YtddmfoldnlafaaaGreatDoorRegisterPlaysG13
import Derived.Test.YtddmfoldnlafaaaGreatDoorRegisterPlaysG20
import Derived.Test.YtddmfoldnlafaaaGreatDoorRegisterPlaysG12
import Derived.Test.YtddmfoldnlafaaaGreatDoorRegisterPlaysG22
import Derived.Carry
namespace Go.Proofs.YtddmfoldnlafaaaGreatDoor
open Go.RowKit
attribute [local go_sem ↓] Go.wp_at_zero Go.wp_at_succ

theorem inb_pair {a b : Int} : inb [a, b] = (decide (0 ≤ a ∧ a ≤ 1099511627776) && decide (0 ≤ b ∧ b ≤ 1099511627776)) := by
  simp [inb, Bool.decide_and]

set_option maxRecDepth 100000 in
set_option maxHeartbeats 1000000 in
theorem rLGrant_any (o e u p now span bound : Int) (w : World) : Calls Tryz.prog 149 #[lv o e u, iv p, iv now, iv span, iv bound] w (RLeased (grant o e u p now span bound) w) := by
  have hs0 : (w.alloc (.cells #[iv o, iv e, iv u] 102)).heap.size = w.heap.size + 1 := by simp
  have hb1 := bel_alloc (below_new w (.cells #[iv o, iv e, iv u] 102)) (.cells #[iv 0, iv 0, iv 0] 102)
  have hA0 := (Blk.new w 102 #[iv o, iv e, iv u]).alloc (.cells #[iv 0, iv 0, iv 0] 102)
  have hB0 := Blk.newAt (w := w.alloc (.cells #[iv o, iv e, iv u] 102)) (g := w.heap.size + 1) hs0.symm 102 #[iv 0, iv 0, iv 0]
  have HC := Lib.hid (rLCheck_any o e u ((w.alloc (.cells #[iv o, iv e, iv u] 102)).alloc (.cells #[iv 0, iv 0, iv 0] 102)))
  obtain ⟨a0, a1, a2, -, -, -⟩ := hA0.three
  have Hb1 := Lib.hid hb1
  have HA0 := Lib.hid hA0
  have HB0 := Lib.hid hB0
  clear hs0 hb1 hA0 hB0
  go_enter Tryz.func149, Tryz.ntmps149
  go_wp2_with fail
  refine HC.out.mono ?_
  rintro r w2 ⟨rfl, hb2⟩
  have hb3 := bel_call Hb1.out hb2
  have hA1 := HA0.out.below hb2
  have hB1 := HB0.out.below hb2
  obtain ⟨c0, c1, c2, -, -, -⟩ := hA1.three
  obtain ⟨d0, d1, d2, df0, df1, df2⟩ := hB1.three
  clear HC hb2 Hb1 HA0 HB0 a0 a1 a2
  rcases Decidable.em (chk o e u = 0) with hc | hc
  rotate_left
  · have HX := Lib.hid (show grant o e u p now span bound = (0, 0, 0, chk o e u) from by unfold grant; rw [if_pos hc])
    have h1 : ¬ (chk o e u : Int) = 0 := by omega
    have hz : (((chk o e u : Nat) : Int) != 0) = true := by simpa using h1
    generalize chk o e u = ck at *
    clear hc h1 hA1
    have HB := Lib.hid (((hB1.set_ 0 (iv 0)).set_ 1 (iv 0)).set_ 2 (iv 0))
    have Hb := Lib.hid (bel_three hb3 (show w.heap.size ≤ w.heap.size + 1 by omega) (iv 0) (iv 0) (iv 0))
    clear hB1 hb3
    go_wp2_with fail
    exact bodyPost_ret (res_rlease rfl rfl (g := w.heap.size + 1) HB.out) rfl ⟨by rw [HX.out]; rfl, Hb.out⟩
  obtain ⟨⟨r1, r2⟩, ⟨r3, r4⟩, ⟨r5, r6⟩, _⟩ := chk_ok hc
  have hgr : ownb p = true → (inb [now, span, bound] = false → grant o e u p now span bound = (0, 0, 0, 1)) ∧ (inb [now, span, bound] = true → grant o e u p now span bound = if o ≠ p ∧ freeb o e u now bound = false then (0, 0, 0, 15) else if o ≠ p then (if inb [e + 1, now + span] then (p, e + 1, now + span, 0) else (0, 0, 0, 5)) else (if inb [e, now + span] then (p, e, max u (now + span), 0) else (0, 0, 0, 5))) := fun ho => ⟨fun h => by unfold grant; rw [if_neg (by omega), if_pos (.inr h)], fun h => by unfold grant; rw [if_neg (by omega), if_neg (by rw [ho, h]; simp)]⟩
  have hno : ownb p = false → grant o e u p now span bound = (0, 0, 0, 1) := fun ho => by unfold grant; rw [if_neg (by omega), if_pos (.inl ho)]
  rw [hc]
  clear hc
  by_cases h1 : p = 1
  · subst h1
    replace hgr := hgr rfl
    clear hno
    have hS := Sl.litsAt (w := w2) (g := w2.heap.size) rfl [iv now, iv span, iv bound] 3 (by simp [maxLen])
    have hbn := below_new w2 (.cells #[iv now, iv span, iv bound] 3)
    have hA2 := hA1.below hbn
    have hB2 := hB1.below hbn
    have hb4 := bel_call hb3 hbn
    obtain ⟨l, hl⟩ : ∃ l : List Int, l = [now, span, bound] := ⟨_, rfl⟩
    have hS2 : Sl (w2.alloc (.cells #[iv now, iv span, iv bound] 3)) 1 (some ⟨w2.heap.size, 0, none⟩) l.length 3 (l.map iv) := by rw [hl]; exact hS
    have hll : l.length = 3 := by rw [hl]; rfl
    have HGr := Lib.hid hgr
    have HLl := Lib.hid hl
    have HS2 := Lib.hid hS2
    have HA2 := Lib.hid hA2
    have HB2 := Lib.hid hB2
    have Hb4 := Lib.hid hb4
    clear hS hbn hA2 hB2 hb4 hl hS2 hA1 hB1 hb3 c0 c1 c2 d0 d1 d2 df0 df1 df2 hgr
    go_wp2_with fail
    go_loopw [34] (fun x wr => ∃ k : Nat, k ≤ l.length ∧ x = .int .i64 k ∧ Hid (inb (l.take k) = true) ∧ Below (w2.alloc (.cells #[iv now, iv span, iv bound] 3)).heap.size (w2.alloc (.cells #[iv now, iv span, iv bound] 3)) wr) (fun x w => l.length - (intOf x).toNat)
    case atStart => exact ⟨0, Nat.zero_le _, rfl, (show _ = _ from rfl), Below.refl _ _⟩
    case round =>
      obtain ⟨k, hk, rfl, ht, hbr⟩ := hrel
      have hA5 := HA2.out.below hbr
      have hB5 := HB2.out.below hbr
      have hb5 := bel_call Hb4.out hbr
      obtain ⟨c0, c1, c2, cf0, cf1, cf2⟩ := hA5.three
      obtain ⟨d0, d1, d2, df0, df1, df2⟩ := hB5.three
      by_cases hlt : k < l.length
      · have hkI : (k : Int) < 3 := by omega
        obtain ⟨ad, had, hc⟩ := (HS2.out.below hbr).at1 hlt
        injection had with had
        subst had
        rw [show (⟨w2.heap.size, 0, none⟩ : Addr).add k = ⟨w2.heap.size, k, none⟩ from by rw [addr_lit, Nat.zero_add]] at hc
        have h1 := fun h1 h2 => Lib.hid (inb_take hlt ht.out h1 h2)
        have h2 := fun h => Lib.hid (inb_no hlt h)
        have H1 := Lib.hid h1
        have H2 := Lib.hid h2
        clear h1 h2
        generalize l[k] = x at *
        by_cases hx1 : x < 0
        · have hr := H2.out (by omega)
          have HX := Lib.hid (HGr.out.1 (by rw [← HLl.out]; exact hr.out))
          clear hr H1 H2 hA5
          have HB := Lib.hid (((hB5.set_ 0 (iv 0)).set_ 1 (iv 0)).set_ 2 (iv 0))
          have Hb := Lib.hid (bel_three hb5 (show w.heap.size ≤ w.heap.size + 1 by omega) (iv 0) (iv 0) (iv 0))
          clear hB5 hb5
          go_wp2_with fail
          exact bodyPost_ret (res_rlease rfl rfl (g := w.heap.size + 1) HB.out) rfl ⟨by rw [HX.out]; rfl, Hb.out⟩
        by_cases hx2 : 1099511627776 < x
        · have hr := H2.out (by omega)
          have HX := Lib.hid (HGr.out.1 (by rw [← HLl.out]; exact hr.out))
          clear hr H1 H2 hA5
          have HB := Lib.hid (((hB5.set_ 0 (iv 0)).set_ 1 (iv 0)).set_ 2 (iv 0))
          have Hb := Lib.hid (bel_three hb5 (show w.heap.size ≤ w.heap.size + 1 by omega) (iv 0) (iv 0) (iv 0))
          clear hB5 hb5
          go_wp2_with fail
          exact bodyPost_ret (res_rlease rfl rfl (g := w.heap.size + 1) HB.out) rfl ⟨by rw [HX.out]; rfl, Hb.out⟩
        have HN := Lib.hid (H1.out (by omega) (by omega)).out
        clear H1 H2 hA5 hB5 hb5 c0 c1 c2 cf0 cf1 cf2 d0 d1 d2 df0 df1 df2
        go_wp2_with fail
        go_roundw
        case rel => exact ⟨k + 1, hlt, by go_num, HN, hbr⟩
        case measure => simp [intOf]; omega
      · have hkI : 3 ≤ (k : Int) := by omega
        have hin : inb [now, span, bound] = true := by
          have h1 := ht.out
          rw [List.take_of_length_le (by omega), HLl.out] at h1
          exact h1
        have hgr := HGr.out.2 hin
        obtain ⟨⟨e1, e2⟩, ⟨e3, e4⟩, e5, e6⟩ := inb_three hin
        have hwr : wrap64 (now + span) = now + span := by simp only [wrap64]; omega
        have hwr2 : IntKind.i64.wrap (now + span) = now + span := by rw [IntKind.wrap_i64]; omega
        clear hin HGr HLl ht hbr HA2 HB2 Hb4
        by_cases ho : o = 1
        · subst ho
          rw [if_neg (fun h => h.1 rfl), if_neg (fun h => h rfl), inb_pair, decide_eq_true (show 0 ≤ e ∧ e ≤ 1099511627776 from ⟨r3, r4⟩), Bool.true_and] at hgr
          by_cases ht : 1099511627776 < now + span
          · rw [if_neg (by simp; omega)] at hgr
            have HX := Lib.hid hgr
            clear hgr hA5
            have HB := Lib.hid (((hB5.set_ 0 (iv 0)).set_ 1 (iv 0)).set_ 2 (iv 0))
            have Hb := Lib.hid (bel_three hb5 (show w.heap.size ≤ w.heap.size + 1 by omega) (iv 0) (iv 0) (iv 0))
            clear hB5 hb5
            go_wp2_with fail
            exact bodyPost_ret (res_rlease rfl rfl (g := w.heap.size + 1) HB.out) rfl ⟨by rw [HX.out]; rfl, Hb.out⟩
          · rw [if_pos (by simp; omega)] at hgr
            have HX := Lib.hid hgr
            have hw6 : Wr wr (wr.setCell ⟨w.heap.size, 2, none⟩ (iv (max u (now + span)))) w.heap.size := (Wr.refl _ _).set_ 2 _
            have HB6 := Lib.hid ((((hB5.wr hw6 (by omega)).set_ 0 (iv 1)).set_ 1 (iv e)).set_ 2 (iv (max u (now + span))))
            have Hb6 := Lib.hid (bel_three (bel_set hb5 (p := ⟨w.heap.size, 2, none⟩) (Nat.le_refl _) (iv (max u (now + span)))) (show w.heap.size ≤ w.heap.size + 1 by omega) (iv 1) (iv e) (iv (max u (now + span))))
            clear hgr hA5 hB5 hb5 hw6
            go_wp2_with fail
            exact bodyPost_ret (res_rlease rfl rfl (g := w.heap.size + 1) HB6.out) rfl ⟨by rw [HX.out]; rfl, Hb6.out⟩
        · have hoz : (o == 1) = false := by simpa using ho
          have HF := Lib.hid (rLFree_any o e u now bound wr)
          cases hf : freeb o e u now bound with
          | false =>
            rw [hf] at HF
            rw [if_pos ⟨ho, hf⟩] at hgr
            have HX := Lib.hid hgr
            have HB6 := Lib.hid hB5
            have Hb6 := Lib.hid hb5
            clear hgr hA5 hf ho hB5 hb5 d0 d1 d2 df0 df1 df2
            go_wp2_with fail
            refine HF.out.mono ?_
            rintro r w7 ⟨rfl, hb7⟩
            have hB5 := HB6.out.below hb7
            have hb5 := bel_call Hb6.out hb7
            obtain ⟨d0, d1, d2, df0, df1, df2⟩ := hB5.three
            clear hb7
            have HB := Lib.hid (((hB5.set_ 0 (iv 0)).set_ 1 (iv 0)).set_ 2 (iv 0))
            have Hb := Lib.hid (bel_three hb5 (show w.heap.size ≤ w.heap.size + 1 by omega) (iv 0) (iv 0) (iv 0))
            clear hB5 hb5
            go_wp2_with fail
            exact bodyPost_ret (res_rlease rfl rfl (g := w.heap.size + 1) HB.out) rfl ⟨by rw [HX.out]; rfl, Hb.out⟩
          | true =>
            rw [hf] at HF
            rw [if_neg (fun h => by rw [hf] at h; cases h.2), if_pos ho, inb_pair] at hgr
            have HA6 := Lib.hid hA5
            have HB6 := Lib.hid hB5
            have Hb6 := Lib.hid hb5
            clear hA5 hf ho hB5 hb5 d0 d1 d2 df0 df1 df2
            have hwe : wrap64 (e + 1) = e + 1 := by simp only [wrap64]; omega
            have hwe2 : IntKind.i64.wrap (e + 1) = e + 1 := by rw [IntKind.wrap_i64]; omega
            by_cases ht : 1099511627776 < now + span
            · rw [if_neg (by simp; omega)] at hgr
              have HX := Lib.hid hgr
              clear hgr
              go_wp2_with fail
              refine HF.out.mono ?_
              rintro r w7 ⟨rfl, hb7⟩
              have hB5 := HB6.out.below hb7
              have hb5 := bel_call Hb6.out hb7
              obtain ⟨d0, d1, d2, df0, df1, df2⟩ := hB5.three
              obtain ⟨x0, x1, x2, -, -, -⟩ := (HA6.out.below hb7).three
              clear hb7
              have HB := Lib.hid (((hB5.set_ 0 (iv 0)).set_ 1 (iv 0)).set_ 2 (iv 0))
              have Hb := Lib.hid (bel_three hb5 (show w.heap.size ≤ w.heap.size + 1 by omega) (iv 0) (iv 0) (iv 0))
              clear hB5 hb5
              go_wp2_with fail
              exact bodyPost_ret (res_rlease rfl rfl (g := w.heap.size + 1) HB.out) rfl ⟨by rw [HX.out]; rfl, Hb.out⟩
            by_cases he : e = 1099511627776
            · rw [if_neg (by simp; omega)] at hgr
              have HX := Lib.hid hgr
              have hez : (e == 1099511627776) = true := by simpa using he
              clear hgr he
              go_wp2_with fail
              refine HF.out.mono ?_
              rintro r w7 ⟨rfl, hb7⟩
              have hB5 := HB6.out.below hb7
              have hb5 := bel_call Hb6.out hb7
              obtain ⟨d0, d1, d2, df0, df1, df2⟩ := hB5.three
              obtain ⟨x0, x1, x2, -, -, -⟩ := (HA6.out.below hb7).three
              clear hb7
              have HB := Lib.hid (((hB5.set_ 0 (iv 0)).set_ 1 (iv 0)).set_ 2 (iv 0))
              have Hb := Lib.hid (bel_three hb5 (show w.heap.size ≤ w.heap.size + 1 by omega) (iv 0) (iv 0) (iv 0))
              clear hB5 hb5
              go_wp2_with fail
              exact bodyPost_ret (res_rlease rfl rfl (g := w.heap.size + 1) HB.out) rfl ⟨by rw [HX.out]; rfl, Hb.out⟩
            · rw [if_pos (by simp; omega)] at hgr
              have HX := Lib.hid hgr
              have hez : (e == 1099511627776) = false := by simpa using he
              clear hgr he
              go_wp2_with fail
              refine HF.out.mono ?_
              rintro r w7 ⟨rfl, hb7⟩
              have hB5 := HB6.out.below hb7
              have hb5 := bel_call Hb6.out hb7
              obtain ⟨d0, d1, d2, df0, df1, df2⟩ := hB5.three
              obtain ⟨x0, x1, x2, -, -, -⟩ := (HA6.out.below hb7).three
              clear hb7
              have HB := Lib.hid (((hB5.set_ 0 (iv 1)).set_ 1 (iv (e + 1))).set_ 2 (iv (now + span)))
              have Hb := Lib.hid (bel_three hb5 (show w.heap.size ≤ w.heap.size + 1 by omega) (iv 1) (iv (e + 1)) (iv (now + span)))
              clear hB5 hb5
              go_wp2_with fail
              exact bodyPost_ret (res_rlease rfl rfl (g := w.heap.size + 1) HB.out) rfl ⟨by rw [HX.out]; rfl, Hb.out⟩
  have hz1 : (p != 1) = true := by simpa using h1
  by_cases h2 : p = 2
  · subst h2
    replace hgr := hgr rfl
    clear hno h1
    have hS := Sl.litsAt (w := w2) (g := w2.heap.size) rfl [iv now, iv span, iv bound] 3 (by simp [maxLen])
    have hbn := below_new w2 (.cells #[iv now, iv span, iv bound] 3)
    have hA2 := hA1.below hbn
    have hB2 := hB1.below hbn
    have hb4 := bel_call hb3 hbn
    obtain ⟨l, hl⟩ : ∃ l : List Int, l = [now, span, bound] := ⟨_, rfl⟩
    have hS2 : Sl (w2.alloc (.cells #[iv now, iv span, iv bound] 3)) 1 (some ⟨w2.heap.size, 0, none⟩) l.length 3 (l.map iv) := by rw [hl]; exact hS
    have hll : l.length = 3 := by rw [hl]; rfl
    have HGr := Lib.hid hgr
    have HLl := Lib.hid hl
    have HS2 := Lib.hid hS2
    have HA2 := Lib.hid hA2
    have HB2 := Lib.hid hB2
    have Hb4 := Lib.hid hb4
    clear hS hbn hA2 hB2 hb4 hl hS2 hA1 hB1 hb3 c0 c1 c2 d0 d1 d2 df0 df1 df2 hgr
    go_wp2_with fail
    go_loopw [34] (fun x wr => ∃ k : Nat, k ≤ l.length ∧ x = .int .i64 k ∧ Hid (inb (l.take k) = true) ∧ Below (w2.alloc (.cells #[iv now, iv span, iv bound] 3)).heap.size (w2.alloc (.cells #[iv now, iv span, iv bound] 3)) wr) (fun x w => l.length - (intOf x).toNat)
    case atStart => exact ⟨0, Nat.zero_le _, rfl, (show _ = _ from rfl), Below.refl _ _⟩
    case round =>
      obtain ⟨k, hk, rfl, ht, hbr⟩ := hrel
      have hA5 := HA2.out.below hbr
      have hB5 := HB2.out.below hbr
      have hb5 := bel_call Hb4.out hbr
      obtain ⟨c0, c1, c2, cf0, cf1, cf2⟩ := hA5.three
      obtain ⟨d0, d1, d2, df0, df1, df2⟩ := hB5.three
      by_cases hlt : k < l.length
      · have hkI : (k : Int) < 3 := by omega
        obtain ⟨ad, had, hc⟩ := (HS2.out.below hbr).at1 hlt
        injection had with had
        subst had
        rw [show (⟨w2.heap.size, 0, none⟩ : Addr).add k = ⟨w2.heap.size, k, none⟩ from by rw [addr_lit, Nat.zero_add]] at hc
        have h1 := fun h1 h2 => Lib.hid (inb_take hlt ht.out h1 h2)
        have h2 := fun h => Lib.hid (inb_no hlt h)
        have H1 := Lib.hid h1
        have H2 := Lib.hid h2
        clear h1 h2
        generalize l[k] = x at *
        by_cases hx1 : x < 0
        · have hr := H2.out (by omega)
          have HX := Lib.hid (HGr.out.1 (by rw [← HLl.out]; exact hr.out))
          clear hr H1 H2 hA5
          have HB := Lib.hid (((hB5.set_ 0 (iv 0)).set_ 1 (iv 0)).set_ 2 (iv 0))
          have Hb := Lib.hid (bel_three hb5 (show w.heap.size ≤ w.heap.size + 1 by omega) (iv 0) (iv 0) (iv 0))
          clear hB5 hb5
          go_wp2_with fail
          exact bodyPost_ret (res_rlease rfl rfl (g := w.heap.size + 1) HB.out) rfl ⟨by rw [HX.out]; rfl, Hb.out⟩
        by_cases hx2 : 1099511627776 < x
        · have hr := H2.out (by omega)
          have HX := Lib.hid (HGr.out.1 (by rw [← HLl.out]; exact hr.out))
          clear hr H1 H2 hA5
          have HB := Lib.hid (((hB5.set_ 0 (iv 0)).set_ 1 (iv 0)).set_ 2 (iv 0))
          have Hb := Lib.hid (bel_three hb5 (show w.heap.size ≤ w.heap.size + 1 by omega) (iv 0) (iv 0) (iv 0))
          clear hB5 hb5
          go_wp2_with fail
          exact bodyPost_ret (res_rlease rfl rfl (g := w.heap.size + 1) HB.out) rfl ⟨by rw [HX.out]; rfl, Hb.out⟩
        have HN := Lib.hid (H1.out (by omega) (by omega)).out
        clear H1 H2 hA5 hB5 hb5 c0 c1 c2 cf0 cf1 cf2 d0 d1 d2 df0 df1 df2
        go_wp2_with fail
        go_roundw
        case rel => exact ⟨k + 1, hlt, by go_num, HN, hbr⟩
        case measure => simp [intOf]; omega
      · have hkI : 3 ≤ (k : Int) := by omega
        have hin : inb [now, span, bound] = true := by
          have h1 := ht.out
          rw [List.take_of_length_le (by omega), HLl.out] at h1
          exact h1
        have hgr := HGr.out.2 hin
        obtain ⟨⟨e1, e2⟩, ⟨e3, e4⟩, e5, e6⟩ := inb_three hin
        have hwr : wrap64 (now + span) = now + span := by simp only [wrap64]; omega
        have hwr2 : IntKind.i64.wrap (now + span) = now + span := by rw [IntKind.wrap_i64]; omega
        clear hin HGr HLl ht hbr HA2 HB2 Hb4
        by_cases ho : o = 2
        · subst ho
          rw [if_neg (fun h => h.1 rfl), if_neg (fun h => h rfl), inb_pair, decide_eq_true (show 0 ≤ e ∧ e ≤ 1099511627776 from ⟨r3, r4⟩), Bool.true_and] at hgr
          by_cases ht : 1099511627776 < now + span
          · rw [if_neg (by simp; omega)] at hgr
            have HX := Lib.hid hgr
            clear hgr hA5
            have HB := Lib.hid (((hB5.set_ 0 (iv 0)).set_ 1 (iv 0)).set_ 2 (iv 0))
            have Hb := Lib.hid (bel_three hb5 (show w.heap.size ≤ w.heap.size + 1 by omega) (iv 0) (iv 0) (iv 0))
            clear hB5 hb5
            go_wp2_with fail
            exact bodyPost_ret (res_rlease rfl rfl (g := w.heap.size + 1) HB.out) rfl ⟨by rw [HX.out]; rfl, Hb.out⟩
          · rw [if_pos (by simp; omega)] at hgr
            have HX := Lib.hid hgr
            have hw6 : Wr wr (wr.setCell ⟨w.heap.size, 2, none⟩ (iv (max u (now + span)))) w.heap.size := (Wr.refl _ _).set_ 2 _
            have HB6 := Lib.hid ((((hB5.wr hw6 (by omega)).set_ 0 (iv 2)).set_ 1 (iv e)).set_ 2 (iv (max u (now + span))))
            have Hb6 := Lib.hid (bel_three (bel_set hb5 (p := ⟨w.heap.size, 2, none⟩) (Nat.le_refl _) (iv (max u (now + span)))) (show w.heap.size ≤ w.heap.size + 1 by omega) (iv 2) (iv e) (iv (max u (now + span))))
            clear hgr hA5 hB5 hb5 hw6
            go_wp2_with fail
            exact bodyPost_ret (res_rlease rfl rfl (g := w.heap.size + 1) HB6.out) rfl ⟨by rw [HX.out]; rfl, Hb6.out⟩
        · have hoz : (o == 2) = false := by simpa using ho
          have HF := Lib.hid (rLFree_any o e u now bound wr)
          cases hf : freeb o e u now bound with
          | false =>
            rw [hf] at HF
            rw [if_pos ⟨ho, hf⟩] at hgr
            have HX := Lib.hid hgr
            have HB6 := Lib.hid hB5
            have Hb6 := Lib.hid hb5
            clear hgr hA5 hf ho hB5 hb5 d0 d1 d2 df0 df1 df2
            go_wp2_with fail
            refine HF.out.mono ?_
            rintro r w7 ⟨rfl, hb7⟩
            have hB5 := HB6.out.below hb7
            have hb5 := bel_call Hb6.out hb7
            obtain ⟨d0, d1, d2, df0, df1, df2⟩ := hB5.three
            clear hb7
            have HB := Lib.hid (((hB5.set_ 0 (iv 0)).set_ 1 (iv 0)).set_ 2 (iv 0))
            have Hb := Lib.hid (bel_three hb5 (show w.heap.size ≤ w.heap.size + 1 by omega) (iv 0) (iv 0) (iv 0))
            clear hB5 hb5
            go_wp2_with fail
            exact bodyPost_ret (res_rlease rfl rfl (g := w.heap.size + 1) HB.out) rfl ⟨by rw [HX.out]; rfl, Hb.out⟩
          | true =>
            rw [hf] at HF
            rw [if_neg (fun h => by rw [hf] at h; cases h.2), if_pos ho, inb_pair] at hgr
            have HA6 := Lib.hid hA5
            have HB6 := Lib.hid hB5
            have Hb6 := Lib.hid hb5
            clear hA5 hf ho hB5 hb5 d0 d1 d2 df0 df1 df2
            have hwe : wrap64 (e + 1) = e + 1 := by simp only [wrap64]; omega
            have hwe2 : IntKind.i64.wrap (e + 1) = e + 1 := by rw [IntKind.wrap_i64]; omega
            by_cases ht : 1099511627776 < now + span
            · rw [if_neg (by simp; omega)] at hgr
              have HX := Lib.hid hgr
              clear hgr
              go_wp2_with fail
              refine HF.out.mono ?_
              rintro r w7 ⟨rfl, hb7⟩
              have hB5 := HB6.out.below hb7
              have hb5 := bel_call Hb6.out hb7
              obtain ⟨d0, d1, d2, df0, df1, df2⟩ := hB5.three
              obtain ⟨x0, x1, x2, -, -, -⟩ := (HA6.out.below hb7).three
              clear hb7
              have HB := Lib.hid (((hB5.set_ 0 (iv 0)).set_ 1 (iv 0)).set_ 2 (iv 0))
              have Hb := Lib.hid (bel_three hb5 (show w.heap.size ≤ w.heap.size + 1 by omega) (iv 0) (iv 0) (iv 0))
              clear hB5 hb5
              go_wp2_with fail
              exact bodyPost_ret (res_rlease rfl rfl (g := w.heap.size + 1) HB.out) rfl ⟨by rw [HX.out]; rfl, Hb.out⟩
            by_cases he : e = 1099511627776
            · rw [if_neg (by simp; omega)] at hgr
              have HX := Lib.hid hgr
              have hez : (e == 1099511627776) = true := by simpa using he
              clear hgr he
              go_wp2_with fail
              refine HF.out.mono ?_
              rintro r w7 ⟨rfl, hb7⟩
              have hB5 := HB6.out.below hb7
              have hb5 := bel_call Hb6.out hb7
              obtain ⟨d0, d1, d2, df0, df1, df2⟩ := hB5.three
              obtain ⟨x0, x1, x2, -, -, -⟩ := (HA6.out.below hb7).three
              clear hb7
              have HB := Lib.hid (((hB5.set_ 0 (iv 0)).set_ 1 (iv 0)).set_ 2 (iv 0))
              have Hb := Lib.hid (bel_three hb5 (show w.heap.size ≤ w.heap.size + 1 by omega) (iv 0) (iv 0) (iv 0))
              clear hB5 hb5
              go_wp2_with fail
              exact bodyPost_ret (res_rlease rfl rfl (g := w.heap.size + 1) HB.out) rfl ⟨by rw [HX.out]; rfl, Hb.out⟩
            · rw [if_pos (by simp; omega)] at hgr
              have HX := Lib.hid hgr
              have hez : (e == 1099511627776) = false := by simpa using he
              clear hgr he
              go_wp2_with fail
              refine HF.out.mono ?_
              rintro r w7 ⟨rfl, hb7⟩
              have hB5 := HB6.out.below hb7
              have hb5 := bel_call Hb6.out hb7
              obtain ⟨d0, d1, d2, df0, df1, df2⟩ := hB5.three
              obtain ⟨x0, x1, x2, -, -, -⟩ := (HA6.out.below hb7).three
              clear hb7
              have HB := Lib.hid (((hB5.set_ 0 (iv 2)).set_ 1 (iv (e + 1))).set_ 2 (iv (now + span)))
              have Hb := Lib.hid (bel_three hb5 (show w.heap.size ≤ w.heap.size + 1 by omega) (iv 2) (iv (e + 1)) (iv (now + span)))
              clear hB5 hb5
              go_wp2_with fail
              exact bodyPost_ret (res_rlease rfl rfl (g := w.heap.size + 1) HB.out) rfl ⟨by rw [HX.out]; rfl, Hb.out⟩
  have hz2 : (p != 2) = true := by simpa using h2
  have HX := Lib.hid (hno (by unfold ownb; simp; omega))
  clear hgr hno h1 h2 hA1
  have HB := Lib.hid (((hB1.set_ 0 (iv 0)).set_ 1 (iv 0)).set_ 2 (iv 0))
  have Hb := Lib.hid (bel_three hb3 (show w.heap.size ≤ w.heap.size + 1 by omega) (iv 0) (iv 0) (iv 0))
  clear hB1 hb3
  go_wp2_with fail
  exact bodyPost_ret (res_rlease rfl rfl (g := w.heap.size + 1) HB.out) rfl ⟨by rw [HX.out]; rfl, Hb.out⟩
end Go.Proofs.YtddmfoldnlafaaaGreatDoor

namespace Go.Proofs.YtddmfoldnlafaaaGreatDoor
open Go.RowKit Go.Maps Go.Sort
attribute [local go_sem ↓] Go.wp_at_zero Go.wp_at_succ

set_option maxRecDepth 100000 in
set_option maxHeartbeats 1000000 in
theorem KSNamed_any (s : Bs) (w : World) (hl : s.length ≤ 4611686018427387904) : Calls Tryz.prog 137 #[.string ⟨s.toArray⟩] w fun e w' => e = .returned (.bool (snamed s)) ∧ Below w.heap.size w w' := by
  have hsz : (ByteArray.size ⟨s.toArray⟩) = s.length := by simp [ByteArray.size]
  have HN := Lib.hid (fun W => RNamed_any s W hl)
  go_enter Tryz.func137, Tryz.ntmps137
  go_wp2_with fail
  go_loopw [3] (fun x wr => ∃ k : Nat, k ≤ s.length ∧ x = .int .i64 k ∧ (∀ i (hi : i < s.length), i < k → s[i] ≠ 126) ∧ Below w.heap.size w wr) (fun x w => s.length - (intOf x).toNat)
  case atStart => exact ⟨0, Nat.zero_le _, rfl, (fun i _ hi => by omega), Below.refl _ _⟩
  case round =>
    obtain ⟨k, hk, rfl, hno, hb⟩ := hrel
    by_cases hlt : k < s.length
    · have hkI : (k : Int) < (s.length : Int) := by omega
      have hix : ∀ W : World, (Instr.index 9 (.string ⟨s.toArray⟩) (.int .i64 k)).run Tryz.prog W = .ok (.int .u8 (s[k].toNat : Int)) W := fun W => ix_str s hlt W
      obtain ⟨c0, hc0⟩ : ∃ c, s[k] = c := ⟨_, rfl⟩
      rw [hc0] at hix
      have he := Lib.hid hc0
      by_cases h1 : c0 = 126
      · subst h1
        have HS := Lib.hid (show snamed s = false from by
          have : (126 : UInt8) ∈ s := he.out ▸ List.getElem_mem hlt
          unfold snamed
          rw [decide_eq_true this]
          simp)
        clear hc0 hno
        rw [show ((126 : UInt8).toNat : Int) = 126 from rfl] at hix
        go_wp2_with fail
        go_ret
        exact ⟨by rw [HS.out]; rfl, hb⟩
      · have hx : ¬ (c0.toNat : Int) = 126 := fun e => h1 (UInt8.toNat_inj.1 (by show c0.toNat = 126; omega))
        have H1 := Lib.hid h1
        have b1 : ((c0.toNat : Int) == 126) = false := by simpa using hx
        generalize (c0.toNat : Int) = x at *
        clear hc0 h1
        go_wp2_with fail
        go_roundw
        case rel => exact ⟨k + 1, hlt, by go_num, (fun i hi hik => by
          rcases Nat.lt_or_ge i k with h | h
          · exact hno i hi h
          · obtain rfl : i = k := by omega
            rw [he.out]
            exact H1.out), hb⟩
        case measure => simp [intOf]; omega
    · have hkI : (s.length : Int) ≤ (k : Int) := by omega
      have hnm : 126 ∉ s := fun hm => by
        obtain ⟨i, hi, e⟩ := List.getElem_of_mem hm
        exact hno i hi (by omega) e
      have hd : decide ((126 : UInt8) ∈ s) = false := decide_eq_false hnm
      clear hno hnm
      rcases Nat.lt_or_ge 20 s.length with h | h
      · have hI : (20 : Int) < (s.length : Int) := by omega
        have HS := Lib.hid (show snamed s = false from by unfold snamed; rw [decide_eq_false (by omega)]; rfl)
        clear hd
        go_wp2_with fail
        go_ret
        exact ⟨by rw [HS.out]; rfl, hb⟩
      have hI : (s.length : Int) ≤ 20 := by omega
      have HS := Lib.hid (show snamed s = named s from by unfold snamed; rw [decide_eq_true (show s.length ≤ 20 by omega), hd]; simp)
      clear hd
      go_wp2_with fail
      refine (HN.out _).mono ?_
      rintro e w5 ⟨rfl, hb5⟩
      have hb6 := bel_call hb hb5
      go_wp2_with fail
      go_ret
      exact ⟨by rw [HS.out]; rfl, hb6⟩
/-- while the document's store acts: its disk lies in the first block, the result in the second one -/
structure KSt (T : Nat → Prop) (w W : World) (d : Dk Bs) (A : Option Addr) (c : Nat) (B : Option Addr) (k : Nat) : Prop where
  mm : Mm w W [(w.heap.size + 1, 85, rdz), (w.heap.size, 85, rda d A c B k)] []
  R : Rdk (T2 T w.heap.size) W d A c B k
  up : ∀ j, w.heap.size ≤ j → T j
section
variable {T : Nat → Prop} {w W W' : World} {d d' : Dk Bs} {A A' B B' : Option Addr} {c c' k k' : Nat}
theorem KSt.up2 (h : KSt T w W d A c B k) : ∀ j, W.heap.size ≤ j → T2 T w.heap.size j := T2.up h.up h.mm
theorem KSt.call (h : KSt T w W d A c B k) (hb : Below W.heap.size W W') : KSt T w W' d A c B k := ⟨h.mm.call hb, h.R.below hb, h.up⟩
/-- the disk is laid anew -/
theorem KSt.next (h : KSt T w W d A c B k) (hR : Rdk (T2 T w.heap.size) W' d' A' c' B' k') (hb : Below W.heap.size W W') : KSt T w (((((W'.setCell ⟨w.heap.size, 0, none⟩ (.int .i64 d'.room)).setCell ⟨w.heap.size, 1, none⟩ (.slice A' d'.sure.length c')).setCell ⟨w.heap.size, 2, none⟩ (.slice B' d'.pend.length k')).setCell ⟨w.heap.size, 3, none⟩ (.int .i64 d'.fuse)).setCell ⟨w.heap.size, 4, none⟩ (.bool d'.down)) d' A' c' B' k' := by
  refine ⟨(h.mm.call hb).st5 1 rfl _ _ _ _ _, ?_, h.up⟩
  have hw : Wr W' (((((W'.setCell ⟨w.heap.size, 0, none⟩ (.int .i64 d'.room)).setCell ⟨w.heap.size, 1, none⟩ (.slice A' d'.sure.length c')).setCell ⟨w.heap.size, 2, none⟩ (.slice B' d'.pend.length k')).setCell ⟨w.heap.size, 3, none⟩ (.int .i64 d'.fuse)).setCell ⟨w.heap.size, 4, none⟩ (.bool d'.down)) w.heap.size := (((((Wr.refl _ _).set_ 0 _).set_ 1 _).set_ 2 _).set_ 3 _).set_ 4 _
  exact hR.sameH (fun _ _ ht => ht) hw.size fun j hj ht => hw.block j hj fun e => ht.2.1 (by injection e)
/-- the result is laid -/
theorem KSt.out (h : KSt T w W d A c B k) : Rdk T (((((W.setCell ⟨w.heap.size + 1, 0, none⟩ (.int .i64 d.room)).setCell ⟨w.heap.size + 1, 1, none⟩ (.slice A d.sure.length c)).setCell ⟨w.heap.size + 1, 2, none⟩ (.slice B d.pend.length k)).setCell ⟨w.heap.size + 1, 3, none⟩ (.int .i64 d.fuse)).setCell ⟨w.heap.size + 1, 4, none⟩ (.bool d.down)) d A c B k ∧ Below w.heap.size w (((((W.setCell ⟨w.heap.size + 1, 0, none⟩ (.int .i64 d.room)).setCell ⟨w.heap.size + 1, 1, none⟩ (.slice A d.sure.length c)).setCell ⟨w.heap.size + 1, 2, none⟩ (.slice B d.pend.length k)).setCell ⟨w.heap.size + 1, 3, none⟩ (.int .i64 d.fuse)).setCell ⟨w.heap.size + 1, 4, none⟩ (.bool d.down)) :=
  ⟨h.R.sam ((Sam.refl w.heap.size W).st5 (.inr rfl) _ _ _ _ _), bel_st5 h.mm.bel (by omega) _ _ _ _ _⟩
theorem KSt.begin (hT : ∀ j, w.heap.size ≤ j → T j) (h : Rdk T w d A c B k) : KSt T w ((w.alloc (.cells (rda d A c B k) 85)).alloc (.cells rdz 85)) d A c B k := by
  have hM := ((Mm.start w).alloc (rda d A c B k) 85).alloc rdz 85
  rw [show (w.alloc (.cells (rda d A c B k) 85)).heap.size = w.heap.size + 1 by simp] at hM
  exact ⟨hM, h.t2 hM.bel, hT⟩
end
theorem opd_fu {α : Type} {d : Dk α} {r : Dk α × Nat} (h : Opd d r) {M : Int} (hf : d.fuse ≤ M) : r.1.fuse ≤ M := by
  rw [h.2.1]
  unfold dWorks
  split
  · exact hf
  · split
    · exact hf
    · split
      · dsimp only; omega
      · exact hf
set_option maxRecDepth 100000 in
set_option maxHeartbeats 1000000 in
theorem KSPut_any {T : Nat → Prop} {A B : Option Addr} {c k : Nat} (d : Dk Bs) (n v : Bs) (w : World) (hT : ∀ k, w.heap.size ≤ k → T k) (h : Rdk T w d A c B k) (hl : d.sure.length + d.pend.length ≤ 400) (hf : d.fuse ≤ 9223372036854775807) (hn : n.length ≤ 1152921504606846976) (hv : v.length ≤ 4611686018427387904) (hr : Ris d.sure) (hu : fused bln d.shown ≤ 1000000000000) :
    Calls Tryz.prog 87 #[.agg (rda d A c B k), .string ⟨n.toArray⟩, .string ⟨v.toArray⟩] w fun e w' => GvK T w w' e (sPut bln ([] : Bs) d n v) := by
  have HN := Lib.hid (fun W => KSNamed_any n W (by omega))
  have hS0 := KSt.begin hT h
  obtain ⟨r0, r1, r2, r3, r4, rf0, rf1, rf2, rf3, rf4⟩ := (hS0).mm.b0.fiveC
  obtain ⟨b0, b1, b2, b3, b4, bf0, bf1, bf2, bf3, bf4⟩ := (hS0).mm.b1.fiveC
  have HS0 := Lib.hid hS0
  clear h hT hS0
  unfold rda
  have hcat := cat_begun n
  have hbl : (begun n).length ≤ 1152921504606846977 := by unfold begun; simp; omega
  have hsz : (ByteArray.size ⟨n.toArray⟩) = n.length := by simp [ByteArray.size]
  have hsz1 : (ByteArray.size ⟨#[126]⟩) = 1 := rfl
  have HXX := Lib.hid (fun (hs : snamed n = true) => (show sPut bln ([] : Bs) d n v = andThen (dWrite bln d (begun n) v) fun d => andThen (dSync d) fun d => andThen (dRename ([] : Bs) d (begun n) n) dSync from by unfold sPut; rw [if_neg (by simp [hs])]))
  generalize hbn : begun n = bn at *
  clear hbn
  go_enter Tryz.func87, Tryz.ntmps87
  go_wp2_with fail
  refine (HN.out _).mono ?_
  rintro e w1 ⟨rfl, hb1⟩
  have hS := HS0.out.call hb1
  clear r0 r1 r2 r3 r4 rf0 rf1 rf2 rf3 rf4 b0 b1 b2 b3 b4 bf0 bf1 bf2 bf3 bf4
  clear HS0 hb1
  obtain ⟨r0, r1, r2, r3, r4, rf0, rf1, rf2, rf3, rf4⟩ := (hS).mm.b0.fiveC
  obtain ⟨b0, b1, b2, b3, b4, bf0, bf1, bf2, bf3, bf4⟩ := (hS).mm.b1.fiveC
  cases hs : snamed n with
  | false =>
    have HX := Lib.hid (show sPut bln ([] : Bs) d n v = (d, 2) from by unfold sPut; rw [if_pos hs])
    have HS1 := Lib.hid hS
    clear hS
    have HO := Lib.hid (HS1.out).out
    have HB := Lib.hid (HS1.out).mm.b0
    go_wp2_with fail
    exact bodyPost_ret (res_k2 rfl rfl (g := w.heap.size + 1) (HB.out.st5 _ _ _ _ _)) rfl (by rw [HX.out]; exact ⟨_, _, _, _, rfl, HO.out.1, HO.out.2⟩)
  | true =>
    replace HXX := Lib.hid (HXX.out hs)
    have HR := Lib.hid (KWrite_any (T := T2 T w.heap.size) d bn v w1 hS.up2 hS.R (by omega) hf (by omega) hv hr hu)
    have hop := Opd.write bln d bn v
    generalize dWrite bln d bn v = r at *
    go_wp2_with fail
    refine HR.out.mono ?_
    clear HR
    rintro e w2 ⟨A2, c2, B2, k2, rfl, hR2, hb2⟩
    obtain ⟨d1, n1⟩ := r
    have hf1 := opd_fu hop hf
    have hl1 := opd_len hop hl
    dsimp only at hf1 hl1 hR2 ⊢
    have HS2 := Lib.hid (hS.next hR2 hb2)
    clear r0 r1 r2 r3 r4 rf0 rf1 rf2 rf3 rf4 b0 b1 b2 b3 b4 bf0 bf1 bf2 bf3 bf4
    have hS2 := hS.call hb2
    clear hR2 hb2 hS hop
    obtain ⟨r0, r1, r2, r3, r4, rf0, rf1, rf2, rf3, rf4⟩ := (hS2).mm.b0.fiveC
    obtain ⟨b0, b1, b2, b3, b4, bf0, bf1, bf2, bf3, bf4⟩ := (hS2).mm.b1.fiveC
    unfold rda
    clear hS2
    go_upto_region 4 with (fail)
    refine gen1 (T := fun W => KSt T w W d1 A2 c2 B2 k2) HS2.out (fun w3 hS3 => ?_)
    clear r0 r1 r2 r3 r4 rf0 rf1 rf2 rf3 rf4 b0 b1 b2 b3 b4 bf0 bf1 bf2 bf3 bf4
    clear HS2 w2
    obtain ⟨r0, r1, r2, r3, r4, rf0, rf1, rf2, rf3, rf4⟩ := (hS3).mm.b0.fiveC
    obtain ⟨b0, b1, b2, b3, b4, bf0, bf1, bf2, bf3, bf4⟩ := (hS3).mm.b1.fiveC
    rcases Decidable.em (n1 = 0) with h0 | h0
    rotate_left
    · have HX := Lib.hid (HXX.out.trans (if_pos h0))
      have h1 : ¬ (n1 : Int) = 0 := by omega
      have hz : ((n1 : Int) == 0) = false := by simpa using h1
      have HS3 := Lib.hid hS3
      clear hS3 HXX h0 h1
      have HO := Lib.hid (HS3.out).out
      have HB := Lib.hid (HS3.out).mm.b0
      go_wp2_with fail
      exact bodyPost_ret (res_k2 rfl rfl (g := w.heap.size + 1) (HB.out.st5 _ _ _ _ _)) rfl (by rw [HX.out]; exact ⟨_, _, _, _, rfl, HO.out.1, HO.out.2⟩)
    subst h0
    replace HXX := Lib.hid (HXX.out.trans (if_neg (by simp)))
    dsimp only at HXX
    have HR := Lib.hid (KSync_any (T := T2 T w.heap.size) d1 w3 hS3.up2 hS3.R (by omega) hf1)
    have hop := Opd.sync d1
    generalize dSync d1 = r at *
    replace hS := hS3
    replace hf := hf1
    replace hl := hl1
    clear hS3 hf1 hl1
    go_wp2_with fail
    refine HR.out.mono ?_
    clear HR
    rintro e w2 ⟨A2, c2, B2, k2, rfl, hR2, hb2⟩
    obtain ⟨d1, n1⟩ := r
    have hf1 := opd_fu hop hf
    have hl1 := opd_len hop hl
    dsimp only at hf1 hl1 hR2 ⊢
    have HS2 := Lib.hid (hS.next hR2 hb2)
    clear r0 r1 r2 r3 r4 rf0 rf1 rf2 rf3 rf4 b0 b1 b2 b3 b4 bf0 bf1 bf2 bf3 bf4
    have hS2 := hS.call hb2
    clear hR2 hb2 hS hop
    obtain ⟨r0, r1, r2, r3, r4, rf0, rf1, rf2, rf3, rf4⟩ := (hS2).mm.b0.fiveC
    obtain ⟨b0, b1, b2, b3, b4, bf0, bf1, bf2, bf3, bf4⟩ := (hS2).mm.b1.fiveC
    unfold rda
    clear hS2
    go_upto_region 6 with (fail)
    refine gen1 (T := fun W => KSt T w W d1 A2 c2 B2 k2) HS2.out (fun w3 hS3 => ?_)
    clear r0 r1 r2 r3 r4 rf0 rf1 rf2 rf3 rf4 b0 b1 b2 b3 b4 bf0 bf1 bf2 bf3 bf4
    clear HS2 w2
    obtain ⟨r0, r1, r2, r3, r4, rf0, rf1, rf2, rf3, rf4⟩ := (hS3).mm.b0.fiveC
    obtain ⟨b0, b1, b2, b3, b4, bf0, bf1, bf2, bf3, bf4⟩ := (hS3).mm.b1.fiveC
    rcases Decidable.em (n1 = 0) with h0 | h0
    rotate_left
    · have HX := Lib.hid (HXX.out.trans (if_pos h0))
      have h1 : ¬ (n1 : Int) = 0 := by omega
      have hz : ((n1 : Int) == 0) = false := by simpa using h1
      have HS3 := Lib.hid hS3
      clear hS3 HXX h0 h1
      have HO := Lib.hid (HS3.out).out
      have HB := Lib.hid (HS3.out).mm.b0
      go_wp2_with fail
      exact bodyPost_ret (res_k2 rfl rfl (g := w.heap.size + 1) (HB.out.st5 _ _ _ _ _)) rfl (by rw [HX.out]; exact ⟨_, _, _, _, rfl, HO.out.1, HO.out.2⟩)
    subst h0
    replace HXX := Lib.hid (HXX.out.trans (if_neg (by simp)))
    dsimp only at HXX
    have HR := Lib.hid (KRename_any (T := T2 T w.heap.size) d1 bn n w3 hS3.up2 hS3.R (by omega) hf1 (by omega) (by omega))
    have hop := Opd.rename ([] : Bs) d1 bn n
    generalize dRename ([] : Bs) d1 bn n = r at *
    replace hS := hS3
    replace hf := hf1
    replace hl := hl1
    clear hS3 hf1 hl1
    go_wp2_with fail
    refine HR.out.mono ?_
    clear HR
    rintro e w2 ⟨A2, c2, B2, k2, rfl, hR2, hb2⟩
    obtain ⟨d1, n1⟩ := r
    have hf1 := opd_fu hop hf
    have hl1 := opd_len hop hl
    dsimp only at hf1 hl1 hR2 ⊢
    have HS2 := Lib.hid (hS.next hR2 hb2)
    clear r0 r1 r2 r3 r4 rf0 rf1 rf2 rf3 rf4 b0 b1 b2 b3 b4 bf0 bf1 bf2 bf3 bf4
    have hS2 := hS.call hb2
    clear hR2 hb2 hS hop
    obtain ⟨r0, r1, r2, r3, r4, rf0, rf1, rf2, rf3, rf4⟩ := (hS2).mm.b0.fiveC
    obtain ⟨b0, b1, b2, b3, b4, bf0, bf1, bf2, bf3, bf4⟩ := (hS2).mm.b1.fiveC
    unfold rda
    clear hS2
    go_upto_region 8 with (fail)
    refine gen1 (T := fun W => KSt T w W d1 A2 c2 B2 k2) HS2.out (fun w3 hS3 => ?_)
    clear r0 r1 r2 r3 r4 rf0 rf1 rf2 rf3 rf4 b0 b1 b2 b3 b4 bf0 bf1 bf2 bf3 bf4
    clear HS2 w2
    obtain ⟨r0, r1, r2, r3, r4, rf0, rf1, rf2, rf3, rf4⟩ := (hS3).mm.b0.fiveC
    obtain ⟨b0, b1, b2, b3, b4, bf0, bf1, bf2, bf3, bf4⟩ := (hS3).mm.b1.fiveC
    rcases Decidable.em (n1 = 0) with h0 | h0
    rotate_left
    · have HX := Lib.hid (HXX.out.trans (if_pos h0))
      have h1 : ¬ (n1 : Int) = 0 := by omega
      have hz : ((n1 : Int) == 0) = false := by simpa using h1
      have HS3 := Lib.hid hS3
      clear hS3 HXX h0 h1
      have HO := Lib.hid (HS3.out).out
      have HB := Lib.hid (HS3.out).mm.b0
      go_wp2_with fail
      exact bodyPost_ret (res_k2 rfl rfl (g := w.heap.size + 1) (HB.out.st5 _ _ _ _ _)) rfl (by rw [HX.out]; exact ⟨_, _, _, _, rfl, HO.out.1, HO.out.2⟩)
    subst h0
    replace HXX := Lib.hid (HXX.out.trans (if_neg (by simp)))
    dsimp only at HXX
    have HR := Lib.hid (KSync_any (T := T2 T w.heap.size) d1 w3 hS3.up2 hS3.R (by omega) hf1)
    have hop := Opd.sync d1
    generalize dSync d1 = r at *
    replace hS := hS3
    replace hf := hf1
    replace hl := hl1
    clear hS3 hf1 hl1
    go_wp2_with fail
    refine HR.out.mono ?_
    clear HR
    rintro e w2 ⟨A2, c2, B2, k2, rfl, hR2, hb2⟩
    obtain ⟨d1, n1⟩ := r
    dsimp only at hR2 ⊢
    have HS2 := Lib.hid (hS.next hR2 hb2)
    clear r0 r1 r2 r3 r4 rf0 rf1 rf2 rf3 rf4 b0 b1 b2 b3 b4 bf0 bf1 bf2 bf3 bf4
    have hS2 := hS.call hb2
    clear hR2 hb2 hS hop
    obtain ⟨r0, r1, r2, r3, r4, rf0, rf1, rf2, rf3, rf4⟩ := (hS2).mm.b0.fiveC
    obtain ⟨b0, b1, b2, b3, b4, bf0, bf1, bf2, bf3, bf4⟩ := (hS2).mm.b1.fiveC
    unfold rda
    clear hS2
    go_upto_region 10 with (fail)
    refine gen1 (T := fun W => KSt T w W d1 A2 c2 B2 k2) HS2.out (fun w3 hS3 => ?_)
    clear r0 r1 r2 r3 r4 rf0 rf1 rf2 rf3 rf4 b0 b1 b2 b3 b4 bf0 bf1 bf2 bf3 bf4
    clear HS2 w2
    obtain ⟨r0, r1, r2, r3, r4, rf0, rf1, rf2, rf3, rf4⟩ := (hS3).mm.b0.fiveC
    obtain ⟨b0, b1, b2, b3, b4, bf0, bf1, bf2, bf3, bf4⟩ := (hS3).mm.b1.fiveC
    have HX := HXX
    have HS3 := Lib.hid hS3
    clear hS3 HXX
    have HO := Lib.hid (HS3.out).out
    have HB := Lib.hid (HS3.out).mm.b0
    go_wp2_with fail
    exact bodyPost_ret (res_k2 rfl rfl (g := w.heap.size + 1) (HB.out.st5 _ _ _ _ _)) rfl (by rw [HX.out]; exact ⟨_, _, _, _, rfl, HO.out.1, HO.out.2⟩)
def sGetK (d : Dk Bs) (n : Bs) : Bs × Nat := if snamed n = false then ([], 2) else rRead d n
set_option maxRecDepth 100000 in
set_option maxHeartbeats 1000000 in
theorem KSGet_any {T : Nat → Prop} {A B : Option Addr} {c k : Nat} (d : Dk Bs) (n : Bs) (w : World) (hT : ∀ k, w.heap.size ≤ k → T k) (h : Rdk T w d A c B k) (hl : d.sure.length + d.pend.length ≤ 100000) (hn : n.length ≤ 4611686018427387904) :
    Calls Tryz.prog 89 #[.agg (rda d A c B k), .string ⟨n.toArray⟩] w fun e w' => e = .returned (.tuple #[.string ⟨(sGetK d n).1.toArray⟩, .int .i64 ((sGetK d n).2 : Nat)]) ∧ Below w.heap.size w w' := by
  have HN := Lib.hid (fun W => KSNamed_any n W hn)
  have hb0 := below_new w (.cells (rda d A c B k) 85)
  have hB := Blk.new w 85 (rda d A c B k)
  have HB := Lib.hid hB
  have HR := Lib.hid h
  have HT := Lib.hid hT
  clear h hB hT
  go_enter Tryz.func89, Tryz.ntmps89
  go_wp2_with fail
  refine (HN.out _).mono ?_
  rintro e w1 ⟨rfl, hb1⟩
  have hb2 := bel_call hb0 hb1
  cases hs : snamed n with
  | false =>
    have HX := Lib.hid (show sGetK d n = ([], 2) from by unfold sGetK; rw [if_pos hs])
    go_wp2_with fail
    go_ret2
    exact ⟨by rw [HX.out]; rfl, hb2⟩
  | true =>
    have HX := Lib.hid (show sGetK d n = rRead d n from by unfold sGetK; rw [if_neg (by simp [hs])])
    have HK := Lib.hid (KRead_any (T := T) d n w1 (fun j hj => HT.out j (by have := hb2.size; omega)) ((HR.out.below hb0).below hb1) hl)
    obtain ⟨r0, r1, r2, r3, r4, -⟩ := (HB.out.below hb1).fiveC
    go_wp2_with fail
    refine HK.out.mono ?_
    rintro e w3 ⟨rfl, hb3⟩
    have hb4 := bel_call hb2 hb3
    go_wp2_with fail
    go_ret2
    exact ⟨by rw [HX.out]; rfl, hb4⟩
end Go.Proofs.YtddmfoldnlafaaaGreatDoor

namespace Go.Proofs.YtddmfoldnlafaaaGreatDoor
open Go.RowKit Go.Maps Go.Sort
attribute [local go_sem ↓] Go.wp_at_zero Go.wp_at_succ

end Go.Proofs.YtddmfoldnlafaaaGreatDoor

namespace Go.Proofs.YtddmfoldnlafaaaGreatDoor
open Go.RowKit Go.Maps Go.Sort
attribute [local go_sem ↓] Go.wp_at_zero Go.wp_at_succ

theorem head_ix {x : Bs} (hn : named x = true) : ∃ c : UInt8, isBegun x = (126 == c) ∧ ∀ W : World, (Instr.index 9 (.string ⟨x.toArray⟩) (.int .i64 0)).run Tryz.prog W = .ok (.int .u8 (c.toNat : Int)) W := by
  cases x with
  | nil => cases hn
  | cons c r => exact ⟨c, begun_head, fun W => ix_str (c :: r) (k := 0) (by simp) W⟩
end Go.Proofs.YtddmfoldnlafaaaGreatDoor
