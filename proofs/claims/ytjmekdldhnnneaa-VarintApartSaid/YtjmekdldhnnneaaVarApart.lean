/- WHAT IS PROVED: the statement VarintApart: for every input the law returns true. No condition. -/
import Derived.Test.YtjmekdldhnnneaaVarW
import Derived.Test.YtjmekdldhnnneaaFrame
namespace Go.Proofs.Ytjmekdldhnnneaa
open Go.ChangeShapes Go.WideShapes Go.ChangeAt Go.RowKit

set_option maxRecDepth 100000 in
set_option maxHeartbeats 400000 in
theorem apart_walk {A B : Option Addr} {c d : Nat} {xs ys : List Nat} (w : World) (ha : SlN w A c xs) (hx : ∀ n ∈ xs, U64 n) (hb : SlN w B d ys) (hy : ∀ n ∈ ys, U64 n) :
    Calls Try.prog 3 #[.slice A xs.length c, .slice B ys.length d] w fun e w' => e = .returned (.bool true) ∧ Below w.heap.size w w' := by
  by_cases h1 : 40 < xs.length
  · go_enter Try.func3, Try.ntmps3
    go_wp2_with fail
    refine (alive01_any w).mono ?_
    rintro e w1 ⟨rfl, hb1⟩
    go_wp2_with fail
    go_ret
    exact ⟨rfl, hb1⟩
  by_cases h2 : 40 < ys.length
  · go_enter Try.func3, Try.ntmps3
    go_wp2_with fail
    refine (alive01_any w).mono ?_
    rintro e w1 ⟨rfl, hb1⟩
    go_wp2_with fail
    go_ret
    exact ⟨rfl, hb1⟩
  go_enter Try.func3, Try.ntmps3
  go_wp2_with fail
  refine (alive01_any w).mono ?_
  rintro e w1 ⟨rfl, hb1⟩
  have ha1 := ha.below hb1
  have hb1' := hb.below hb1
  go_wp2_with fail
  refine (PutList_any none 0 [] A c xs _ (by simp) (SlB.nil _ _ _ (by simp [maxLen]) (fun _ => rfl)) ha1 (by omega) hx).mono ?_
  rintro e w2 ⟨A2, c2, m2, rfl, hm2, ho2, hb2⟩
  have hb22 := hb1'.below hb2
  go_wp2_with fail
  refine (PutList_any none 0 [] B d ys _ (by simp) (SlB.nil _ _ _ (by simp [maxLen]) (fun _ => rfl)) hb22 (by omega) hy).mono ?_
  rintro e w3 ⟨A3, c3, m3, rfl, hm3, ho3, hb3⟩
  have ho2' := ho2.below hb3
  by_cases hle : m2.length ≤ m3.length
  · have hcv1 := conv_strs (P := Try.prog) 24 9 5 Try.underlying24 Try.underlying5 Try.underlying9 (SlB.take ho3.sl m2.length) (n := m2.length) (by simp; omega)
    have hcv2 := conv_strs (P := Try.prog) 24 9 5 Try.underlying24 Try.underlying5 Try.underlying9 ho2'.sl (n := m2.length) rfl
    have hcap : m3.length ≤ c3 := ho3.sl.2.1
    have hcap1 : m2.length ≤ c3 := Nat.le_trans hle hcap
    have hmx : c3 ≤ 9223372036854775807 := by have := ho3.sl.2.2.1; unfold maxLen at this; exact this
    have hbw := (hb1.trans (hb2.mono hb1.size)).trans (hb3.mono (hb1.trans (hb2.mono hb1.size)).size)
    have haf := ((ha1.below hb2).below hb3)
    have hbf := hb22.below hb3
    rcases Decidable.em (xs = ys) with hxy | hxy
    · have hdec : decide (xs = ys) = true := by simpa using hxy
      have hbeg : (List.take m2.length m3 == m2) = true := by
        rw [hm3.out, hm2.out, hxy]
        simp
      clear hxy
      go_wp2_with fail
      go_quiet (fail)
      go_wp2_with fail
      refine (wide_any A B c d xs ys _ (haf.drewN _) (hbf.drewN _)).mono ?_
      rintro e w4 ⟨rfl, hb4⟩
      go_wp2_with fail
      go_ret
      exact ⟨rfl, (below_drewN hbw _).trans (hb4.mono hbw.size)⟩
    · have hdec : decide (xs = ys) = false := by simpa using hxy
      have hbeg : (List.take m2.length m3 == m2) = false := by
        rw [beq_eq_false_iff_ne, hm3.out, hm2.out]
        exact fun h => hxy (lb_begins (by unfold U64; omega) (by unfold U64; omega) hx hy h)
      clear hxy
      go_wp2_with fail
      go_quiet (fail)
      go_wp2_with fail
      refine (wide_any A B c d xs ys _ (haf.drewN _) (hbf.drewN _)).mono ?_
      rintro e w4 ⟨rfl, hb4⟩
      go_wp2_with fail
      go_ret
      exact ⟨rfl, (below_drewN hbw _).trans (hb4.mono hbw.size)⟩
  · have hd : decide (m2.length ≤ m3.length) = false := by simp; omega
    have hbw := (hb1.trans (hb2.mono hb1.size)).trans (hb3.mono (hb1.trans (hb2.mono hb1.size)).size)
    have haf := ((ha1.below hb2).below hb3)
    have hbf := hb22.below hb3
    have hdec : decide (xs = ys) = false := by
      simp only [decide_eq_false_iff_not]
      intro h
      apply hle
      rw [hm3.out, hm2.out, h]
      exact Nat.le_refl _
    go_wp2_with fail
    go_quiet (fail)
    go_wp2_with fail
    refine (wide_any A B c d xs ys _ (haf.drewN _) (hbf.drewN _)).mono ?_
    rintro e w4 ⟨rfl, hb4⟩
    go_wp2_with fail
    go_ret
    exact ⟨rfl, (below_drewN hbw _).trans (hb4.mono hbw.size)⟩

namespace VarintApart
theorem own : ownKnob Try.prog.godebug = none := by kernel_rfl
theorem laidOut : laidOutB Try.prog = true := by kernel_rfl

set_option maxRecDepth 100000 in
theorem lifted (os : Os) (started : os.Started) (H : Type) (enc : TypeId × Value → H) :
    ReturnsInHanded {} Try.checked os 3 .any (Rows.varintApartSpec.pre6 enc Try.prog Try.f3 Rows.varintApartRow.domain false) (Rows.varintApartSpec.post enc Try.prog Try.f3 false true false false) := by
  refine returnsInHanded_of_change (C := Try.checked) own started (by kernel_rfl) Try.func3
    (ChangeSpec.witness6 (enc := enc) (C := Try.checked) false ⟨#[], #[.slice none 0 0, .slice none 0 0], []⟩ 8 (by kernel_rfl) (by kernel_rfl) (by kernel_rfl) (by kernel_rfl)) ?_
  intro W base args ds gs before hval0 hW hcnd _
  have hval : ∀ (j : Nat) t v, Try.f3.params[j]? = some t → args[j]? = some v → Value.okWide Try.prog W .any base t v := hval0
  have hW0 := hW
  obtain ⟨p, q, hA0, hV, rfl, hfz, hnd⟩ := hW
  have hA : DataW.TrodAll enc Try.prog W 0 (fun _ => true) true Try.f3.params.toList args.toList ds p := hA0
  rw [Try.params3] at hA hval
  obtain ⟨v0, vs0, d0, ds0, p0, q0, hargs, rfl, rfl, h0, r0⟩ := trodAll_cons hA
  obtain ⟨v1, vs1, d1, ds1, p1, q1, rfl, rfl, rfl, h1, r1⟩ := trodAll_cons r0
  obtain ⟨rfl, rfl, rfl⟩ := trodAll_nil r1
  obtain rfl : args = #[v0, v1] := by cases args; simp_all
  obtain ⟨rfl, rfl⟩ := trodVars_none hV
  have lt0 : ∀ x ∈ p0, x.block < W.heap.size := by obtain ⟨m, hm⟩ := h0; exact DataW.trod_lt m _ _ _ hm
  have lt1 : ∀ x ∈ p1, x.block < W.heap.size := by obtain ⟨m, hm⟩ := h1; exact DataW.trod_lt m _ _ _ hm
  have k0 := h0
  obtain ⟨A0, c0, l0, rfl, s0, u0⟩ := open_nums Try.underlying22 Try.underlying27 (by kernel_rfl) (hval 0 22 v0 rfl rfl) h0
  have k1 := h1
  obtain ⟨A1, c1, l1, rfl, s1, u1⟩ := open_nums Try.underlying22 Try.underlying27 (by kernel_rfl) (hval 1 22 v1 rfl rfl) h1
  clear hA0 hval0
  refine (apart_walk W s0 u0 s1 u1).mono fun e W2 ⟨he, bel⟩ => ?_
  subst he
  exact ⟨_, rfl, _, _, _, [], _, [], hW0, trodAll_mk1 (shut_bool Try.underlying4 _), (trodAll_cons_mk (Below.trod laidOut (by kernel_rfl) (of_decide_eq_true (by kernel_rfl)) k0 bel lt0) (trodAll_cons_mk (Below.trod laidOut (by kernel_rfl) (of_decide_eq_true (by kernel_rfl)) k1 bel lt1) trodAll_mk0)), rfl, bel.frame _, fun h => by cases h⟩

theorem over : Rows.varintApartRow.holds Try.pinned (OpenSpec.ofChange Rows.varintApartSpec) :=
  OpenClaim.holds_of_wide 3 Try.f3 rfl rfl rfl rfl rfl rfl rfl ⟨rfl, rfl, rfl, rfl, rfl⟩ rfl rfl rfl rfl rfl (by kernel_rfl) Try.func3 (by kernel_rfl)
    (of_decide_eq_true (by kernel_rfl)) (by unfold Func.isWrapper; first | (rw [if_pos (by decide +kernel)]; kernel_rfl) | (rw [if_neg (by decide +kernel)]; exact ⟨rfl, rfl⟩))
    (fun os started H enc _ => lifted os started H enc)

theorem proved : Rows.VarintApartSaid := over
end VarintApart
end Go.Proofs.Ytjmekdldhnnneaa
