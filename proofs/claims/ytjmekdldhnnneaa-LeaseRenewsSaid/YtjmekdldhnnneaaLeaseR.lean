/- WHAT IS PROVED: the statement LeaseRenews: for every input the law returns true. No condition. -/
import Derived.Test.YtjmekdldhnnneaaLeaseG
namespace Go.Proofs.Ytjmekdldhnnneaa
open Go.ChangeShapes Go.WideShapes Go.ChangeAt Go.RowKit

theorem is_nil (k : Int) (hk : 0 < k) (w : World) : Calls Try.prog 28 #[.nilIface, iv k] w fun e w' => e = .returned (.bool false) ∧ w = w' := by
  have hz : ((0 : Int) == k) = false := by simp; omega
  go_enter Try.func28, Try.ntmps28
  go_wp2_with fail
  refine (num_nil w).mono ?_
  rintro e w1 ⟨rfl, rfl⟩
  go_wp2_with fail
  go_ret
  exact ⟨rfl, rfl⟩
theorem is_err (n k : Int) (hn : 0 < n) (w : World) : Calls Try.prog 28 #[.iface 46 (iv n), iv k] w fun e w' => e = .returned (.bool (n == k)) ∧ w = w' := by
  go_enter Try.func28, Try.ntmps28
  go_wp2_with fail
  refine (num_err n hn w).mono ?_
  rintro e w1 ⟨rfl, rfl⟩
  go_wp2_with fail
  go_ret
  exact ⟨rfl, rfl⟩

set_option maxRecDepth 100000 in
set_option maxHeartbeats 400000 in
theorem alive28_any (w : World) : Calls Try.prog 24 #[] w fun e w' => e = .returned (.bool true) ∧ Below w.heap.size w w' := by
  have hG1 := fun W => Grant_any 1 4 10 2 11 5 2 W
  rw [show grant 1 4 10 2 11 5 2 = (0, 0, 0, 15) from by decide] at hG1
  have hG2 := fun W => Grant_any 1 4 10 2 12 5 2 W
  rw [show grant 1 4 10 2 12 5 2 = (2, 5, 17, 0) from by decide] at hG2
  have HG1 := Lib.hid hG1
  have HG2 := Lib.hid hG2
  clear hG1 hG2
  have hB0 := Blk.new w 39 #[iv 1, iv 4, iv 10]
  go_enter Try.func24, Try.ntmps24
  go_wp2_with fail
  refine (HG1.out _).mono ?_
  rintro r w1 ⟨rfl, hb1⟩
  have hbw1 := bel_call (below_new w (.cells #[iv 1, iv 4, iv 10] 39)) hb1
  obtain ⟨a0, a1, a2, _, _, _⟩ := (hB0.below hb1).three
  have hz : w.heap.size < w1.heap.size := by have := hb1.size; simp at this; omega
  go_wp2_with fail
  refine (HG2.out _).mono ?_
  rintro r w2 ⟨rfl, hb2⟩
  have hbw2 := bel_call (bel_alloc hbw1 _) hb2
  have e15 : errv 15 = .iface 46 (iv 15) := rfl
  have e0 : errv 0 = .nilIface := rfl
  go_wp2_with fail
  refine (is_err 15 15 (by omega) _).mono ?_
  rintro r w3 ⟨rfl, rfl⟩
  go_wp2_with fail
  go_ret
  exact ⟨rfl, by (repeat (first | with_reducible exact hbw2 | with_reducible refine bel_alloc ?_ _ | with_reducible refine bel_set ?_ (by first | omega | (dsimp only; omega)) _ | with_reducible refine below_drewN ?_ _ | with_reducible refine Below.drew ?_))⟩

theorem ownb_of {o : Int} (h1 : o ≠ 0) (h2 : 0 ≤ o ∧ o ≤ 2) : ownb o = true := by unfold ownb; exact decide_eq_true (by omega)
theorem give_own {o e u : Int} (hc : chk o e u = 0) (h0 : o ≠ 0) : give o e u o = (0, e, 0, 0) := by
  unfold give
  rw [if_neg (by omega), if_neg (by rw [ownb_of h0 (chk_ok hc).1]; simp), if_neg (by simp)]
/-- renewing keeps owner and epoch, and never shortens -/
theorem grant_own {o e u now span bound : Int} (hc : chk o e u = 0) (h0 : o ≠ 0) : (grant o e u o now span bound).2.2.2 = 0 →
    (grant o e u o now span bound).1 = o ∧ (grant o e u o now span bound).2.1 = e ∧ u ≤ (grant o e u o now span bound).2.2.1 ∧ now + span ≤ (grant o e u o now span bound).2.2.1 ∧ (0 ≤ now ∧ now ≤ 1099511627776) ∧ 0 ≤ span ∧ span ≤ 1099511627776 := by
  unfold grant
  rw [if_neg (by omega)]
  cases hi : inb [now, span, bound]
  · rw [if_pos (Or.inr rfl)]; simp
  · have h3 := inb_three hi
    rw [if_neg (by rw [ownb_of h0 (chk_ok hc).1]; simp), if_neg (by simp), if_neg (by simp)]
    cases inb [e, now + span]
    · simp
    · intro _
      exact ⟨rfl, rfl, Int.le_max_left _ _, Int.le_max_right _ _, h3.1, h3.2.1⟩
theorem chk_free {o e u : Int} (hc : chk o e u = 0) : chk 0 e 0 = 0 := by
  have := (chk_ok hc).2.1
  unfold chk inb
  simp [this.1, this.2]
/-- what is free anyone gets, by an epoch that is 1 more -/
theorem grant_free {e to now span bound : Int} (hc : chk 0 e 0 = 0) (ht : to = 1 ∨ to = 2) : (grant 0 e 0 to now span bound).2.2.2 ≠ 15 ∧ ((grant 0 e 0 to now span bound).2.2.2 = 0 → (grant 0 e 0 to now span bound).1 = to ∧ (grant 0 e 0 to now span bound).2.1 = e + 1) := by
  unfold grant
  rw [if_neg (by omega)]
  cases hi : inb [now, span, bound]
  · rw [if_pos (Or.inr rfl)]; simp
  · have h3 := inb_three hi
    have hf : freeb 0 e 0 now bound = true := by
      have h4 : inb [now, bound] = true := by simp [inb]; omega
      unfold freeb
      rw [hc, h4]
      simp
    rw [if_neg (by rw [ownb_of (by omega) (by omega)]; simp), if_neg (by rw [hf]; simp), if_pos (by omega)]
    cases inb [e + 1, now + span] <;> simp

theorem lease_bad_walk {o e u a b c : Int} (w : World) (h : chk o e u ≠ 0 ∨ o = 0) :
    Calls Try.prog 5 #[lv o e u, .agg #[iv a, iv b, iv c]] w fun r w' => r = .returned (.bool true) ∧ Below w.heap.size w w' := by
  have hB0 := (Blk.new w 39 #[iv o, iv e, iv u]).alloc (.cells #[iv a, iv b, iv c] 40)
  have hbw := bel_alloc (below_new w (.cells #[iv o, iv e, iv u] 39)) (.cells #[iv a, iv b, iv c] 40)
  rcases errv_cases (chk o e u) with ⟨hc, he⟩ | ⟨k, hk, hc, he⟩
  · have h0 : (o == 0) = true := by simp; omega
    have H := Lib.hid h
    clear h hc
    go_enter Try.func5, Try.ntmps5
    go_wp2_with fail
    refine (alive28_any _).mono ?_
    rintro r w1 ⟨rfl, hb1⟩
    have hB1 := hB0.below hb1
    obtain ⟨a0, a1, a2, _, _, _⟩ := hB1.three
    go_wp2_with fail
    refine (Check_any o e u _).mono ?_
    rintro r w2 ⟨rfl, hb2⟩
    obtain ⟨a0, a1, a2, _, _, _⟩ := (hB1.below hb2).three
    go_wp2_with fail
    go_ret
    exact ⟨rfl, bel_call (bel_call hbw hb1) hb2⟩
  · have H := Lib.hid h
    clear h hc
    go_enter Try.func5, Try.ntmps5
    go_wp2_with fail
    refine (alive28_any _).mono ?_
    rintro r w1 ⟨rfl, hb1⟩
    have hB1 := hB0.below hb1
    obtain ⟨a0, a1, a2, _, _, _⟩ := hB1.three
    go_wp2_with fail
    refine (Check_any o e u _).mono ?_
    rintro r w2 ⟨rfl, hb2⟩
    go_wp2_with fail
    go_ret
    exact ⟨rfl, bel_call (bel_call hbw hb1) hb2⟩

set_option maxRecDepth 100000 in
set_option maxHeartbeats 2000000 in
theorem lease_renews_walk {o e u a b c : Int} (w : World) (hc : chk o e u = 0) (h0 : o ≠ 0) :
    Calls Try.prog 5 #[lv o e u, .agg #[iv a, iv b, iv c]] w fun r w' => r = .returned (.bool true) ∧ Below w.heap.size w w' := by
  have hB0 := (Blk.new w 39 #[iv o, iv e, iv u]).alloc (.cells #[iv a, iv b, iv c] 40)
  have hT0 := Blk.newAt (w := w.alloc (.cells #[iv o, iv e, iv u] 39)) (g := w.heap.size + 1) (by simp) 40 #[iv a, iv b, iv c]
  have hbw := bel_alloc (below_new w (.cells #[iv o, iv e, iv u] 39)) (.cells #[iv a, iv b, iv c] 40)
  have he : errv (chk o e u) = .nilIface := by rw [hc]; rfl
  have hob : (o == 0) = false := by simp; omega
  have HG := Lib.hid (grant_own (now := a) (span := b) (bound := c) hc h0)
  have HV := Lib.hid (give_own hc h0)
  have HF := Lib.hid (chk_free hc)
  have HC := Lib.hid hc
  have H0 := Lib.hid h0
  clear hc h0
  go_enter Try.func5, Try.ntmps5
  go_wp2_with fail
  refine (alive28_any _).mono ?_
  rintro r w1 ⟨rfl, hb1⟩
  have hB1 := hB0.below hb1
  have hT1 := hT0.below hb1
  have hbw1 := bel_call hbw hb1
  have hz1 : w.heap.size + 1 < w1.heap.size := by have := hb1.size; simp at this; omega
  clear hB0 hT0 hbw hb1
  obtain ⟨a0, a1, a2, _, _, _⟩ := hB1.three
  go_wp2_with fail
  refine (Check_any o e u _).mono ?_
  rintro r w2 ⟨rfl, hb2⟩
  have hB2 := hB1.below hb2
  have hT2 := hT1.below hb2
  have hbw2 := bel_call hbw1 hb2
  have hz2 : w.heap.size + 1 < w2.heap.size := by have := hb2.size; omega
  clear hB1 hT1 hbw1 hb2 hz1
  obtain ⟨a0, a1, a2, _, _, _⟩ := hB2.three
  obtain ⟨t0, t1, t2, _, _, _⟩ := hT2.three
  go_wp2_with fail
  go_quiet (fail)
  go_wp2_with fail
  have hL := Grant_any o e u o a b c (w2.drewN nq)
  have HX := HG.out
  clear HG
  generalize grant o e u o a b c = x at hL HX
  obtain ⟨x1, x2, x3, n⟩ := x
  have HX := Lib.hid HX
  refine hL.mono ?_
  clear hL
  rintro r w3 ⟨rfl, hb3⟩
  have hB3 := (hB2.drewN nq).below hb3
  have hT3 := (hT2.drewN nq).below hb3
  have hbw3 := bel_call (below_drewN hbw2 nq) hb3
  have hz3 : w.heap.size + 1 < w3.heap.size := by have := hb3.size; simp at this; omega
  clear hB2 hT2 hbw2 hb3 hz2 a0 a1 a2 t0 t1 t2
  obtain ⟨a0, a1, a2, _, _, _⟩ := hB3.three
  obtain ⟨t0, t1, t2, _, _, _⟩ := hT3.three
  have hgive := Give_any o e u o
  rw [HV.out] at hgive
  have HGive := Lib.hid hgive
  clear hgive
  have HN : (n = 0 ∧ errv n = .nilIface ∧ o = x1 ∧ e = x2 ∧ u ≤ x3 ∧ a + b ≤ x3 ∧ (0 ≤ a ∧ a ≤ 1099511627776) ∧ 0 ≤ b ∧ b ≤ 1099511627776) ∨ ∃ k : Int, errv n = .iface 46 (.int .i64 k) := by
    rcases errv_cases n with ⟨h, hn⟩ | ⟨k, _, _, hn⟩
    · obtain ⟨g1, g2, g3⟩ := HX.out h
      exact .inl ⟨h, hn, g1.symm, g2.symm, g3⟩
    · exact .inr ⟨k, hn⟩
  have e0 : errv 0 = .nilIface := rfl
  clear HX
  have hz30 : w.heap.size < w3.heap.size := by omega
  have heb := (chk_ok HC.out).2.1
  obtain ⟨he1, he2⟩ := heb
  have hFG := fun (t : Int) (ht : t = 1 ∨ t = 2) => grant_free (now := a) (span := b) (bound := c) HF.out ht
  have HFG := Lib.hid hFG
  clear hFG
  rcases HN with ⟨hn0, hn, rfl, rfl, hu, hab, ⟨ha1, ha2⟩, hb1, hb2⟩ | ⟨k, hn⟩
  all_goals
    try clear hn0
    go_wp2_with fail
    refine (HGive.out _).mono ?_
    rintro r w4 ⟨rfl, hb4⟩
    have hB4 := (hB3.alloc _).below hb4
    have hbw4 := bel_call (bel_alloc hbw3 _) hb4
    have hz4 : w.heap.size < w4.heap.size := by have := hb4.size; simp at this; omega
    clear hB3 hT3 hbw3 hb4 hz3 hz30 a0 a1 a2 t0 t1 t2
    obtain ⟨a0, a1, a2, _, _, _⟩ := hB4.three
    go_wp2_with fail
    go_loopw [12] (fun x wr => ∃ t : Int, 1 ≤ t ∧ t ≤ 3 ∧ x = .int .i64 t ∧ Blk wr w.heap.size 39 #[iv o, iv e, iv u] ∧ Blk wr w4.heap.size 39 #[iv 0, iv e, iv 0] ∧ Below w.heap.size w wr) (fun x wr => (3 - intOf x).toNat)
    case atStart => exact ⟨1, by omega, by omega, rfl, hB4.alloc _, Blk.new _ _ _, by (repeat (first | with_reducible exact hbw4 | with_reducible refine bel_alloc ?_ _ | with_reducible refine bel_set ?_ (by first | omega | (dsimp only; omega)) _ | with_reducible refine below_drewN ?_ _ | with_reducible refine Below.drew ?_))⟩
    case round =>
      obtain ⟨t, ht1, ht3, rfl, hBr, hFr, hbr⟩ := hrel
      obtain ⟨a0, a1, a2, _, _, _⟩ := hBr.three
      obtain ⟨f0, f1, f2, _, _, _⟩ := hFr.three
      by_cases ht : t ≤ 2
      · go_wp2_with fail
        have hL := Grant_any 0 e 0 t a b c wr
        have HX := HFG.out t (by omega)
        generalize grant 0 e 0 t a b c = y at hL HX
        obtain ⟨y1, y2, y3, m⟩ := y
        have hM : (errv m = .nilIface ∧ y1 = t ∧ y2 = e + 1) ∨ ∃ k : Int, 0 < k ∧ (k == 15) = false ∧ errv m = .iface 46 (.int .i64 k) := by
          rcases errv_cases m with ⟨h, hn⟩ | ⟨k, h1, h2, hn⟩
          · exact .inl ⟨hn, HX.2 h⟩
          · have h3 : m ≠ 15 := HX.1
            exact .inr ⟨k, h1, by simp; omega, hn⟩
        clear HX
        refine hL.mono ?_
        clear hL
        rintro r w5 ⟨rfl, hb5⟩
        have hB5 := hBr.below hb5
        have hF5 := hFr.below hb5
        have hbw5 := bel_call hbr hb5
        have hz5 : w.heap.size < w5.heap.size := Nat.lt_of_lt_of_le hBr.lt hb5.size
        have hz6 : w4.heap.size < w5.heap.size := Nat.lt_of_lt_of_le hFr.lt hb5.size
        clear hBr hFr hbr hb5 a0 a1 a2 f0 f1 f2
        obtain ⟨a0, a1, a2, _, _, _⟩ := hB5.three
        obtain ⟨f0, f1, f2, _, _, _⟩ := hF5.three
        rcases hM with ⟨hm, rfl, rfl⟩ | ⟨k2, hk2, hk15, hm⟩
        · go_wp2_with fail
          refine (is_nil 15 (by omega) _).mono ?_
          rintro r w6 ⟨rfl, rfl⟩
          go_wp2_with fail
          go_roundw
          case rel => exact ⟨y1 + 1, by omega, by omega, rfl, hB5.alloc _, hF5.alloc _, by (repeat (first | with_reducible exact hbw5 | with_reducible refine bel_alloc ?_ _ | with_reducible refine bel_set ?_ (by first | omega | (dsimp only; omega)) _ | with_reducible refine below_drewN ?_ _ | with_reducible refine Below.drew ?_))⟩
          case measure => simp [intOf]; omega
        · go_wp2_with fail
          refine (is_err k2 15 hk2 _).mono ?_
          rintro r w6 ⟨rfl, rfl⟩
          go_wp2_with fail
          go_roundw
          case rel => exact ⟨t + 1, by omega, by omega, rfl, hB5.alloc _, hF5.alloc _, by (repeat (first | with_reducible exact hbw5 | with_reducible refine bel_alloc ?_ _ | with_reducible refine bel_set ?_ (by first | omega | (dsimp only; omega)) _ | with_reducible refine below_drewN ?_ _ | with_reducible refine Below.drew ?_))⟩
          case measure => simp [intOf]; omega
      · go_wp2_with fail
        go_ret
        exact ⟨rfl, hbr⟩

theorem renews_walk {o e u a b c : Int} (w : World) (_ : I64 o) (_ : I64 e) (_ : I64 u) (_ : I64 a) (_ : I64 b) (_ : I64 c) :
    Calls Try.prog 5 #[lv o e u, .agg #[iv a, iv b, iv c]] w fun r w' => r = .returned (.bool true) ∧ Below w.heap.size w w' := by
  by_cases h : chk o e u ≠ 0 ∨ o = 0
  · exact lease_bad_walk w h
  · exact lease_renews_walk w (by omega) (by omega)

namespace LeaseRenews
theorem own : ownKnob Try.prog.godebug = none := by kernel_rfl
theorem laidOut : laidOutB Try.prog = true := by kernel_rfl

set_option maxRecDepth 100000 in
theorem lifted (os : Os) (started : os.Started) (H : Type) (enc : TypeId × Value → H) :
    ReturnsInHanded {} Try.checked os 5 .any (Rows.leaseRenewsSpec.pre6 enc Try.prog Try.f5 Rows.leaseRenewsRow.domain false) (Rows.leaseRenewsSpec.post enc Try.prog Try.f5 false true false false) := by
  refine returnsInHanded_of_change (C := Try.checked) own started (by kernel_rfl) Try.func5
    (ChangeSpec.witness6 (enc := enc) (C := Try.checked) false ⟨#[], #[.agg #[.int .i64 0, .int .i64 0, .int .i64 0], .agg #[.int .i64 0, .int .i64 0, .int .i64 0]], []⟩ 8 (by kernel_rfl) (by kernel_rfl) (by kernel_rfl) (by kernel_rfl)) ?_
  intro W base args ds gs before hval0 hW hcnd _
  have hval : ∀ (j : Nat) t v, Try.f5.params[j]? = some t → args[j]? = some v → Value.okWide Try.prog W .any base t v := hval0
  have hW0 := hW
  obtain ⟨p, q, hA0, hV, rfl, hfz, hnd⟩ := hW
  have hA : DataW.TrodAll enc Try.prog W 0 (fun _ => true) true Try.f5.params.toList args.toList ds p := hA0
  rw [Try.params5] at hA hval
  obtain ⟨v0, vs0, d0, ds0, p0, q0, hargs, rfl, rfl, h0, r0⟩ := trodAll_cons hA
  obtain ⟨v1, vs1, d1, ds1, p1, q1, rfl, rfl, rfl, h1, r1⟩ := trodAll_cons r0
  obtain ⟨rfl, rfl, rfl⟩ := trodAll_nil r1
  obtain rfl : args = #[v0, v1] := by cases args; simp_all
  obtain ⟨rfl, rfl⟩ := trodVars_none hV
  have lt0 : ∀ x ∈ p0, x.block < W.heap.size := by obtain ⟨m, hm⟩ := h0; exact DataW.trod_lt m _ _ _ hm
  have lt1 : ∀ x ∈ p1, x.block < W.heap.size := by obtain ⟨m, hm⟩ := h1; exact DataW.trod_lt m _ _ _ hm
  have k0 := h0
  obtain ⟨o0, e0, u0, rfl, sa0, sb0, sc0⟩ := open_ints3 Try.underlying39 Try.underlying3 Try.underlying3 Try.underlying3 (by kernel_rfl) (by kernel_rfl) (hval 0 39 v0 rfl rfl) h0
  have k1 := h1
  obtain ⟨o1, e1, u1, rfl, sa1, sb1, sc1⟩ := open_arr3 Try.underlying40 Try.underlying3 (by kernel_rfl) (by kernel_rfl) (hval 1 40 v1 rfl rfl) h1
  clear hA0 hval0
  refine (renews_walk W sa0 sb0 sc0 sa1 sb1 sc1).mono fun e W2 ⟨he, bel⟩ => ?_
  subst he
  exact ⟨_, rfl, _, _, _, [], _, [], hW0, trodAll_mk1 (shut_bool Try.underlying4 _), (trodAll_cons_mk (Below.trod laidOut (by kernel_rfl) (of_decide_eq_true (by kernel_rfl)) k0 bel lt0) (trodAll_cons_mk (Below.trod laidOut (by kernel_rfl) (of_decide_eq_true (by kernel_rfl)) k1 bel lt1) trodAll_mk0)), rfl, bel.frame _, fun h => by cases h⟩

theorem over : Rows.leaseRenewsRow.holds Try.pinned (OpenSpec.ofChange Rows.leaseRenewsSpec) :=
  OpenClaim.holds_of_wide 5 Try.f5 rfl rfl rfl rfl rfl rfl rfl ⟨rfl, rfl, rfl, rfl, rfl⟩ rfl rfl rfl rfl rfl (by kernel_rfl) Try.func5 (by kernel_rfl)
    (of_decide_eq_true (by kernel_rfl)) (by unfold Func.isWrapper; first | (rw [if_pos (by decide +kernel)]; kernel_rfl) | (rw [if_neg (by decide +kernel)]; exact ⟨rfl, rfl⟩))
    (fun os started H enc _ => lifted os started H enc)

theorem proved : Rows.LeaseRenewsSaid := over
end LeaseRenews
end Go.Proofs.Ytjmekdldhnnneaa
