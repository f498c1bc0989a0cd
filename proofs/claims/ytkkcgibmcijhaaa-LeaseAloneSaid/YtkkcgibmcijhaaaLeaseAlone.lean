/- WHAT IS PROVED: the statement LeaseAlone: for every input the law returns true. No condition. -/
import Derived.Test.YtkkcgibmcijhaaaAloneWalk
import Derived.Test.YtkkcgibmcijhaaaFrameS
namespace Go.Proofs.Ytkkcgibmcijhaaa
open Go.ChangeShapes Go.WideShapes Go.ChangeAt Go.RowKit Go.Deep

theorem open_asks {H : Type} {enc : TypeId × Value → H} {P : Program} {w : World} {base b0 : Nat} {held : Bool} {r : Reach} {t e : TypeId} {v : Value} {d : DataW H} {p : List MemPlace} {f0 f1 f2 f3 : Field}
    (ht : P.underlying t = some (.slice e)) (he : P.underlying e = some (.struct #[f0, f1, f2, f3])) (h0 : P.underlying f0.type = some (.int .i64)) (h1 : P.underlying f1.type = some (.int .i64)) (h2 : P.underlying f2.type = some (.int .i64)) (h3 : P.underlying f3.type = some (.int .i64))
    (hone : oneCellFields P #[f0, f1, f2, f3] = true) (hC : P.cellsOf e = 4) (hv : Value.okWide P w r b0 t v) (h : DataW.Trod enc P w base (fun _ => true) held t v d p) :
    ∃ (A : Option Addr) (c : Nat) (l : List (Int × Int × Int × Int)), v = .slice A l.length c ∧ Sl w 4 A l.length c (l.flatMap af) := by
  obtain ⟨A, c, l, h1, h2, _⟩ := open_structs af (fun _ => True) (fun _ => rfl) ht he hone hC (by
    intro vs hl hf
    obtain ⟨u0, n0, y0, e0, t0⟩ := hf 0 f0 rfl
    obtain ⟨u1, n1, y1, e1, t1⟩ := hf 1 f1 rfl
    obtain ⟨u2, n2, y2, e2, t2⟩ := hf 2 f2 rfl
    obtain ⟨u3, n3, y3, e3, t3⟩ := hf 3 f3 rfl
    obtain ⟨a, rfl, _⟩ := int_cell h0 t0
    obtain ⟨b, rfl, _⟩ := int_cell h1 t1
    obtain ⟨c, rfl, _⟩ := int_cell h2 t2
    obtain ⟨d, rfl, _⟩ := int_cell h3 t3
    match vs, hl with
    | [x0, x1, x2, x3], _ =>
      simp at e0 e1 e2 e3
      exact ⟨(a, b, c, d), by simp [af, e0, e1, e2, e3], trivial⟩) hv h
  exact ⟨A, c, l, h1, h2⟩

set_option maxRecDepth 100000 in
set_option maxHeartbeats 1000000 in
theorem alone_all {A : Option Addr} {c : Nat} {sc : List (Int × Int × Int × Int)} {span bound : Int} (w : World) (_ : I64 span) (_ : I64 bound) (hA : Sl w 4 A sc.length c (sc.flatMap af)) :
    Calls Try.prog 3 #[.int .i64 span, .int .i64 bound, .slice A sc.length c] w fun e w' => e = .returned (.bool true) ∧ Below w.heap.size w w' := by
  by_cases k1 : 60 < (sc.length : Int)
  · go_enter Try.func3, Try.ntmps3
    go_wp2_with fail
    refine (alive28_any _).mono ?_
    rintro e w1 ⟨rfl, hb1⟩
    go_wp2_with fail
    go_ret
    exact ⟨rfl, hb1⟩
  have hk1 : sc.length ≤ 60 := by omega
  by_cases e1 : span < 0
  · go_enter Try.func3, Try.ntmps3
    go_wp2_with fail
    refine (alive28_any _).mono ?_
    rintro e w1 ⟨rfl, hb1⟩
    go_wp2_with fail
    go_ret
    exact ⟨rfl, hb1⟩
  by_cases e2 : 1073741824 < span
  · go_enter Try.func3, Try.ntmps3
    go_wp2_with fail
    refine (alive28_any _).mono ?_
    rintro e w1 ⟨rfl, hb1⟩
    go_wp2_with fail
    go_ret
    exact ⟨rfl, hb1⟩
  by_cases e3 : bound < 0
  · go_enter Try.func3, Try.ntmps3
    go_wp2_with fail
    refine (alive28_any _).mono ?_
    rintro e w1 ⟨rfl, hb1⟩
    go_wp2_with fail
    go_ret
    exact ⟨rfl, hb1⟩
  by_cases e4 : 1073741824 < bound
  · go_enter Try.func3, Try.ntmps3
    go_wp2_with fail
    refine (alive28_any _).mono ?_
    rintro e w1 ⟨rfl, hb1⟩
    go_wp2_with fail
    go_ret
    exact ⟨rfl, hb1⟩
  exact alone_walk w hA hk1 (by omega) (by omega) (by omega) (by omega)
namespace LeaseAlone
theorem own : ownKnob Try.prog.godebug = none := by kernel_rfl
theorem laidOut : laidOutB Try.prog = true := by kernel_rfl

set_option maxRecDepth 100000 in
theorem lifted (os : Os) (started : os.Started) (H : Type) (enc : TypeId × Value → H) :
    ReturnsInHanded {} Try.checked os 3 .any (Rows.leaseAloneSpec.pre6 enc Try.prog Try.f3 Rows.leaseAloneRow.domain false) (Rows.leaseAloneSpec.post enc Try.prog Try.f3 false true false false) := by
  refine returnsInHanded_of_change (C := Try.checked) own started (by kernel_rfl) Try.func3
    (ChangeSpec.witness6 (enc := enc) (C := Try.checked) false ⟨#[], #[.int .i64 0, .int .i64 0, .slice none 0 0], []⟩ 8 (by kernel_rfl) (by kernel_rfl) (by kernel_rfl) (by kernel_rfl)) ?_
  intro W base args ds gs before hval0 hW hcnd _
  have hval : ∀ (j : Nat) t v, Try.f3.params[j]? = some t → args[j]? = some v → Value.okWide Try.prog W .any base t v := hval0
  have hW0 := hW
  obtain ⟨p, q, hA0, hV, rfl, hfz, hnd⟩ := hW
  have hA : DataW.TrodAll enc Try.prog W 0 (fun _ => true) true Try.f3.params.toList args.toList ds p := hA0
  rw [Try.params3] at hA hval
  obtain ⟨v0, vs0, d0, ds0, p0, q0, hargs, rfl, rfl, h0, r0⟩ := trodAll_cons hA
  obtain ⟨v1, vs1, d1, ds1, p1, q1, rfl, rfl, rfl, h1, r1⟩ := trodAll_cons r0
  obtain ⟨v2, vs2, d2, ds2, p2, q2, rfl, rfl, rfl, h2, r2⟩ := trodAll_cons r1
  obtain ⟨rfl, rfl, rfl⟩ := trodAll_nil r2
  obtain rfl : args = #[v0, v1, v2] := by cases args; simp_all
  obtain ⟨rfl, rfl⟩ := trodVars_none hV
  have lt0 : ∀ x ∈ p0, x.block < W.heap.size := by obtain ⟨m, hm⟩ := h0; exact DataW.trod_lt m _ _ _ hm
  have lt1 : ∀ x ∈ p1, x.block < W.heap.size := by obtain ⟨m, hm⟩ := h1; exact DataW.trod_lt m _ _ _ hm
  have lt2 : ∀ x ∈ p2, x.block < W.heap.size := by obtain ⟨m, hm⟩ := h2; exact DataW.trod_lt m _ _ _ hm
  have k0 := h0
  obtain ⟨a0, rfl, s0⟩ := open_i64 Try.underlying3 (hval 0 3 v0 rfl rfl) h0
  have k1 := h1
  obtain ⟨a1, rfl, s1⟩ := open_i64 Try.underlying3 (hval 1 3 v1 rfl rfl) h1
  have k2 := h2
  obtain ⟨A2, c2, l2, rfl, s2⟩ := open_asks Try.underlying22 Try.underlying30 Try.underlying3 Try.underlying3 Try.underlying3 Try.underlying3 (by kernel_rfl) (by kernel_rfl) (hval 2 22 v2 rfl rfl) h2
  clear hA0 hval0
  refine (alone_all W s0 s1 s2).mono fun e W2 ⟨he, bel⟩ => ?_
  subst he
  exact ⟨_, rfl, _, _, _, [], _, [], hW0, trodAll_mk1 (shut_bool Try.underlying4 _), (trodAll_cons_mk (Below.trod laidOut (by kernel_rfl) (of_decide_eq_true (by kernel_rfl)) k0 bel lt0) (trodAll_cons_mk (Below.trod laidOut (by kernel_rfl) (of_decide_eq_true (by kernel_rfl)) k1 bel lt1) (trodAll_cons_mk (Below.trod laidOut (by kernel_rfl) (of_decide_eq_true (by kernel_rfl)) k2 bel lt2) trodAll_mk0))), rfl, bel.frame _, fun h => by cases h⟩

theorem over : Rows.leaseAloneRow.holds Try.pinned (OpenSpec.ofChange Rows.leaseAloneSpec) :=
  OpenClaim.holds_of_wide 3 Try.f3 rfl rfl rfl rfl rfl rfl rfl ⟨rfl, rfl, rfl, rfl, rfl⟩ rfl rfl rfl rfl rfl (by kernel_rfl) Try.func3 (by kernel_rfl)
    (of_decide_eq_true (by kernel_rfl)) (by unfold Func.isWrapper; first | (rw [if_pos (by decide +kernel)]; kernel_rfl) | (rw [if_neg (by decide +kernel)]; exact ⟨rfl, rfl⟩))
    (fun os started H enc _ => lifted os started H enc)

theorem proved : Rows.LeaseAloneSaid := over
end LeaseAlone
end Go.Proofs.Ytkkcgibmcijhaaa
