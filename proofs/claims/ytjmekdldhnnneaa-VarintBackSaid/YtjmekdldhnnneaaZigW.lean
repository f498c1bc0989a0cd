/- WHAT IS PROVED: Zigzag and Zagzig, walked, and the statement VarintTakes: for every input the law returns true. No condition. -/
import Derived.Test.YtjmekdldhnnneaaVarR
import Derived.Test.YtjmekdldhnnneaaZigP
namespace Go.Proofs.Ytjmekdldhnnneaa
open Go.ChangeShapes Go.WideShapes Go.ChangeAt Go.RowKit

set_option maxRecDepth 100000 in
set_option maxHeartbeats 400000 in
theorem zig_any (n : Int) (hn : I64 n) (w : World) : Calls Try.prog 22 #[.int .i64 n] w fun e w' => e = .returned (.int .u64 (zz n)) ∧ w = w' := by
  have hv := zig_val hn
  go_enter Try.func22, Try.ntmps22
  go_wp2_with fail
  go_ret
  exact ⟨rfl, rfl⟩
set_option maxRecDepth 100000 in
set_option maxHeartbeats 400000 in
theorem zag_any (n : Nat) (hn : U64 n) (w : World) : Calls Try.prog 23 #[.int .u64 n] w fun e w' => e = .returned (.int .i64 (zb n)) ∧ w = w' := by
  have hv := zag_val hn
  go_enter Try.func23, Try.ntmps23
  go_wp2_with fail
  go_ret
  exact ⟨rfl, rfl⟩

set_option maxRecDepth 100000 in
set_option maxHeartbeats 400000 in
theorem takes_walk {A : Option Addr} {c : Nat} {l : List UInt8} {n : Int} {u : Nat} (w : World) (ha : SlB w A c l) (hn : I64 n) (hu : U64 u) :
    Calls Try.prog 4 #[.slice A l.length c, .int .i64 n, .int .u64 u] w fun e w' => e = .returned (.bool true) ∧ Below w.heap.size w w' := by
  by_cases h1 : 100 < l.length
  · go_enter Try.func4, Try.ntmps4
    go_wp2_with fail
    refine (alive01_any w).mono ?_
    rintro e w1 ⟨rfl, hb1⟩
    go_wp2_with fail
    go_ret
    exact ⟨rfl, hb1⟩
  go_enter Try.func4, Try.ntmps4
  go_wp2_with fail
  refine (alive01_any w).mono ?_
  rintro e w1 ⟨rfl, hb1⟩
  have ha1 := ha.below hb1
  have hsg : (0 ≤ n ∧ IntKind.u64.wrap (2 * IntKind.u64.wrap n) = ((zz n : Nat) : Int)) ∨ (n < 0 ∧ ∃ p q r s, wrap64 (n + 1) = p ∧ wrap64 (-p) = q ∧ IntKind.u64.wrap q = r ∧ IntKind.u64.wrap (2 * r) = s ∧ IntKind.u64.wrap (s + 1) = ((zz n : Nat) : Int)) := by
    rcases Decidable.em (0 ≤ n) with h | h
    · exact .inl ⟨h, zig_pos hn h⟩
    · exact .inr ⟨by omega, zig_neg hn (by omega)⟩
  have hpar : (((u : Int) % 2 == 0) = true ∧ ∃ a, IntKind.u64.wrap ((u : Int) / 2) = a ∧ wrap64 a = zb u) ∨ (((u : Int) % 2 == 0) = false ∧ ((u : Int) % 2 == 1) = true ∧ ∃ a b d, IntKind.u64.wrap ((u : Int) / 2) = a ∧ wrap64 a = b ∧ wrap64 (-b) = d ∧ wrap64 (d - 1) = zb u) := by
    rcases Decidable.em (u % 2 = 0) with h | h
    · exact .inl ⟨by simp; omega, zag_even hu h⟩
    · exact .inr ⟨by simp; omega, by simp; omega, zag_odd hu h⟩
  have Hsg := Lib.hid hsg
  have Hpar := Lib.hid hpar
  clear hsg hpar
  go_wp2_with fail
  refine (Take_any A c l w1 ha1).mono ?_
  rintro e w2 ⟨rfl, ⟨h, rfl⟩ | ⟨x, k, h, rfl⟩⟩
  · go_wp2_with fail
    refine (rTake_any A c l w1 ha1).mono ?_
    rintro e w2 ⟨hb2, ⟨_, rfl⟩ | ⟨x, k, h', rfl⟩⟩
    · clear h
      go_wp2_with fail
      refine (num_err 2 (by omega) _).mono ?_
      rintro e w3 ⟨rfl, rfl⟩
      go_wp2_with fail
      refine (zig_any n hn _).mono ?_
      rintro e w3 ⟨rfl, rfl⟩
      rcases Hsg.out with ⟨h0, e1⟩ | ⟨h0, p, q, r, s, e1, e2, e3, e4, e5⟩
      all_goals
        go_wp2_with fail
        refine (zag_any u hu _).mono ?_
        rintro e w3 ⟨rfl, rfl⟩
        rcases Hpar.out with ⟨h3, a, f1, f2⟩ | ⟨h3, h4, a, b, d, f1, f2, f3, f4⟩
        all_goals
          go_wp2_with fail
          go_ret
          exact ⟨rfl, hb1.trans (hb2.mono hb1.size)⟩
    · rw [h] at h'; cases h'
  · go_wp2_with fail
    refine (rTake_any A c l w1 ha1).mono ?_
    rintro e w2 ⟨hb2, ⟨h', rfl⟩ | ⟨x', k', h', rfl⟩⟩
    · rw [h] at h'; cases h'
    · rw [h] at h'
      simp only [Option.some.injEq, Prod.mk.injEq] at h'
      obtain ⟨rfl, rfl⟩ := h'
      clear h
      go_wp2_with fail
      refine (num_nil _).mono ?_
      rintro e w3 ⟨rfl, rfl⟩
      go_wp2_with fail
      refine (zig_any n hn _).mono ?_
      rintro e w3 ⟨rfl, rfl⟩
      rcases Hsg.out with ⟨h0, e1⟩ | ⟨h0, p, q, r, s, e1, e2, e3, e4, e5⟩
      all_goals
        go_wp2_with fail
        refine (zag_any u hu _).mono ?_
        rintro e w3 ⟨rfl, rfl⟩
        rcases Hpar.out with ⟨h3, a, f1, f2⟩ | ⟨h3, h4, a, b, d, f1, f2, f3, f4⟩
        all_goals
          go_wp2_with fail
          go_ret
          exact ⟨rfl, hb1.trans (hb2.mono hb1.size)⟩

namespace VarintTakes
theorem own : ownKnob Try.prog.godebug = none := by kernel_rfl
theorem laidOut : laidOutB Try.prog = true := by kernel_rfl

set_option maxRecDepth 100000 in
theorem lifted (os : Os) (started : os.Started) (H : Type) (enc : TypeId × Value → H) :
    ReturnsInHanded {} Try.checked os 4 .any (Rows.varintTakesSpec.pre6 enc Try.prog Try.f4 Rows.varintTakesRow.domain false) (Rows.varintTakesSpec.post enc Try.prog Try.f4 false true false false) := by
  refine returnsInHanded_of_change (C := Try.checked) own started (by kernel_rfl) Try.func4
    (ChangeSpec.witness6 (enc := enc) (C := Try.checked) false ⟨#[], #[.slice none 0 0, .int .i64 0, .int .u64 0], []⟩ 8 (by kernel_rfl) (by kernel_rfl) (by kernel_rfl) (by kernel_rfl)) ?_
  intro W base args ds gs before hval0 hW hcnd _
  have hval : ∀ (j : Nat) t v, Try.f4.params[j]? = some t → args[j]? = some v → Value.okWide Try.prog W .any base t v := hval0
  have hW0 := hW
  obtain ⟨p, q, hA0, hV, rfl, hfz, hnd⟩ := hW
  have hA : DataW.TrodAll enc Try.prog W 0 (fun _ => true) true Try.f4.params.toList args.toList ds p := hA0
  rw [Try.params4] at hA hval
  obtain ⟨v0, vs0, d0, ds0, p0, q0, hargs, rfl, rfl, h0, r0⟩ := trodAll_cons hA
  obtain ⟨v1, vs1, d1, ds1, p1, q1, rfl, rfl, rfl, h1, r1⟩ := trodAll_cons r0
  obtain ⟨v2, vs2, d2, ds2, p2, q2, rfl, rfl, rfl, h2, r2⟩ := trodAll_cons r1
  obtain ⟨rfl, rfl, rfl⟩ := trodAll_nil r2
  obtain rfl : args = #[v0, v1, v2] := by cases args; simp_all
  obtain ⟨rfl, rfl⟩ := trodVars_none hV
  have lt0 : ∀ x ∈ p0, x.block < W.heap.size := by obtain ⟨m, hm⟩ := h0; exact DataW.trod_lt m _ _ _ hm
  have lt1 : ∀ x ∈ p1, x.block < W.heap.size := by obtain ⟨m, hm⟩ := h1; exact DataW.trod_lt m _ _ _ hm
  have lt2 : ∀ x ∈ p2, x.block < W.heap.size := by obtain ⟨m, hm⟩ := h2; exact DataW.trod_lt m _ _ _ hm
  have k0 := h0
  obtain ⟨A0, c0, l0, rfl, s0⟩ := open_bytes Try.underlying24 Try.underlying5 (by kernel_rfl) (hval 0 24 v0 rfl rfl) h0
  have k1 := h1
  obtain ⟨a1, rfl, s1⟩ := open_i64 Try.underlying2 (hval 1 2 v1 rfl rfl) h1
  have k2 := h2
  obtain ⟨a2, rfl, s2⟩ := open_u64 Try.underlying27 (hval 2 27 v2 rfl rfl) h2
  clear hA0 hval0
  refine (takes_walk W s0 s1 s2).mono fun e W2 ⟨he, bel⟩ => ?_
  subst he
  exact ⟨_, rfl, _, _, _, [], _, [], hW0, trodAll_mk1 (shut_bool Try.underlying4 _), (trodAll_cons_mk (Below.trod laidOut (by kernel_rfl) (of_decide_eq_true (by kernel_rfl)) k0 bel lt0) (trodAll_cons_mk (Below.trod laidOut (by kernel_rfl) (of_decide_eq_true (by kernel_rfl)) k1 bel lt1) (trodAll_cons_mk (Below.trod laidOut (by kernel_rfl) (of_decide_eq_true (by kernel_rfl)) k2 bel lt2) trodAll_mk0))), rfl, bel.frame _, fun h => by cases h⟩

theorem over : Rows.varintTakesRow.holds Try.pinned (OpenSpec.ofChange Rows.varintTakesSpec) :=
  OpenClaim.holds_of_wide 4 Try.f4 rfl rfl rfl rfl rfl rfl rfl ⟨rfl, rfl, rfl, rfl, rfl⟩ rfl rfl rfl rfl rfl (by kernel_rfl) Try.func4 (by kernel_rfl)
    (of_decide_eq_true (by kernel_rfl)) (by unfold Func.isWrapper; first | (rw [if_pos (by decide +kernel)]; kernel_rfl) | (rw [if_neg (by decide +kernel)]; exact ⟨rfl, rfl⟩))
    (fun os started H enc _ => lifted os started H enc)

theorem proved : Rows.VarintTakesSaid := over
end VarintTakes
end Go.Proofs.Ytjmekdldhnnneaa
