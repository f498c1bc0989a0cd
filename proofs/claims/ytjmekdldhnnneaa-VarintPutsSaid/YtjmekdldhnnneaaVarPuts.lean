/- WHAT IS PROVED: the statement VarintPuts: for every input the law returns true. No condition. -/
import Derived.Test.YtjmekdldhnnneaaVarQ
namespace Go.Proofs.Ytjmekdldhnnneaa
open Go.ChangeShapes Go.WideShapes Go.ChangeAt Go.RowKit

theorem puts_early {A B D : Option Addr} {c d f : Nat} {l t : List UInt8} {ns : List Nat} (w : World) (h : 100 < l.length ∨ 40 < ns.length ∨ 300 < t.length) :
    Calls Try.prog 7 #[.slice A l.length c, .slice B ns.length d, .slice D t.length f] w fun e w' => e = .returned (.bool true) ∧ Below w.heap.size w w' := by
  have key : ∀ (x y z : Bool), x = decide (100 < l.length) → y = decide (40 < ns.length) → z = decide (300 < t.length) → (x || y || z) = true := by
    intro x y z hx hy hz
    subst hx; subst hy; subst hz
    simp; omega
  rcases Decidable.em (100 < l.length) with h1 | h1 <;> rcases Decidable.em (40 < ns.length) with h2 | h2 <;> rcases Decidable.em (300 < t.length) with h3 | h3
  all_goals first
    | (exfalso; omega)
    | (go_enter Try.func7, Try.ntmps7
       go_wp2_with fail
       refine (alive01_any w).mono ?_
       rintro e w1 ⟨rfl, hb1⟩
       go_wp2_with fail
       go_ret
       exact ⟨rfl, hb1⟩)

set_option maxRecDepth 100000 in
set_option maxHeartbeats 1000000 in
theorem puts_walk {A B D : Option Addr} {c d f : Nat} {l t : List UInt8} {ns : List Nat} (w : World) (ha : SlB w A c l) (hb : SlN w B d ns) (h64 : ∀ n ∈ ns, U64 n) (ht : SlB w D f t) :
    Calls Try.prog 7 #[.slice A l.length c, .slice B ns.length d, .slice D t.length f] w fun e w' => e = .returned (.bool true) ∧ Below w.heap.size w w' := by
  by_cases hlong : 100 < l.length ∨ 40 < ns.length ∨ 300 < t.length
  · exact puts_early w hlong
  have h1 : l.length ≤ 100 := by omega
  have h2 : ns.length ≤ 40 := by omega
  have h3 : t.length ≤ 300 := by omega
  clear hlong
  go_enter Try.func7, Try.ntmps7
  go_wp2_with fail
  refine (alive01_any w).mono ?_
  rintro e w1 ⟨rfl, hb1⟩
  go_wp2_with (first | (at_builtin; refine wpl_fresh 24 5 Try.underlying24 u8_info rfl (.tmp 28) (.tmp 29) rfl rfl A c l rfl (ha.below hb1) (by omega) ?_; intro A2 c2 m2 w2 hm2 ho2 hb2) | (at_builtin; refine wpl_fresh 24 5 Try.underlying24 u8_info rfl (.tmp 31) (.tmp 32) rfl rfl A c l rfl (ha.below (bel_call hb1 hb2)) (by omega) ?_; intro A3 c3 m3 w3 hm3 ho3 hb3))
  have hw2 := bel_call hb1 hb2
  clear hb1 hb2
  have hmax := hb.len_le
  unfold maxLen at hmax
  go_loopw [8, 36] (fun v x wr => ∃ (k : Nat) (E : Option Addr) (g : Nat) (m : List UInt8), k ≤ ns.length ∧ x = .int .i64 k ∧ v = .slice E m.length g ∧ Hid (m = l ++ vbs (ns.take k)) ∧ OwnB wr w2.heap.size 5 E g m ∧ Below w2.heap.size w2 wr) (fun v x w => ns.length - (intOf x).toNat)
  case atStart => exact ⟨0, A3, c3, m3, Nat.zero_le _, rfl, rfl, (show _ = _ by rw [hm3.out]; simp [vbs]), ho3, hb3⟩
  case round =>
    obtain ⟨k, E, g, m, hk, rfl, rfl, hm, hor, hbr⟩ := hrel
    have hwr := bel_call hw2 hbr
    by_cases hlt : k < ns.length
    · obtain ⟨ad, rfl, hc⟩ := (hb.below hwr).at1 hlt
      have hml : m.length ≤ 1000 := by
        have h5 := vbs_le (l := ns.take k) (fun n hn => h64 n (List.mem_of_mem_take hn))
        have h6 := congrArg List.length hm.out
        simp only [List.length_append, List.length_take] at h5 h6
        omega
      have hn64 := h64 _ (List.getElem_mem hlt)
      have hsn := Lib.hid (vbs_snoc hlt)
      generalize ns[k] = x at *
      go_wp2_with fail
      refine (Size_any x hn64 _).mono ?_
      rintro e w4 ⟨rfl, rfl⟩
      go_wp2_with fail
      refine (rBytes_any x hn64 _).mono ?_
      rintro e w4 ⟨A4, c4, m4, rfl, hm4, ho4, hb4⟩
      have hl4 : m4.length = (vb x).length := by rw [hm4.out]
      have hne : (((vb x).length : Int) != (m4.length : Int)) = false := by rw [hl4]; simp
      have hne2 : ((vb x).length != m4.length) = false := by rw [hl4]; simp
      have Hl4 := Lib.hid hl4
      clear hl4
      go_wp2_with fail
      refine (rBytes_any x hn64 _).mono ?_
      rintro e w5 ⟨A5, c5, m5, rfl, hm5, ho5, hb5⟩
      have hl5 : m5.length ≤ 10 := by rw [hm5.out]; exact vb_le10 hn64
      have hb25 := bel_call (bel_call hbr hb4) hb5
      go_wp2_with (at_builtin; go_must (refine wpl_bytes 24 5 Try.underlying24 u8_info rfl _ _ rfl w2.heap.size E g m rfl ((hor.below hb4).below hb5) A5 c5 m5 rfl ho5.sl (by omega) hb25.size ?_; intro A6 c6 m6 w6 hm6 ho6 _ _ hb6))
      go_roundw
      case rel => exact ⟨k + 1, A6, c6, m6, hlt, by go_num, rfl, (show _ = _ by rw [hm6.out, hm5.out, hm.out, hsn.out]; simp), ho6, hb25.trans hb6⟩
      case measure => simp [intOf]; omega
    · have hmf : Hid (m = l ++ vbs ns) := (show _ = _ by rw [hm.out, List.take_of_length_le (by omega)])
      clear hm
      have hs2 := ho2.sl
      have hml2 : m2.length ≤ 100 := by rw [hm2.out]; exact h1
      go_wp2_with fail
      refine (Put_any A2 c2 m2 B d ns _ (by omega) (hs2.below hbr) (hb.below hwr) (by omega) h64).mono ?_
      rintro e w4 ⟨A4, c4, m4, rfl, hm4, ho4, hb4⟩
      go_wp2_with fail
      refine (nBytes_any A4 E c4 g m4 m _ ho4.sl (hor.sl.below hb4)).mono ?_
      rintro e w5 ⟨rfl, rfl⟩
      have hq4 : (m4 == m) = true := by rw [hm4.out, hmf.out, hm2.out]; simp
      have h24 := bel_call hbr hb4
      have hw4 := bel_call hw2 h24
      go_wp2_with fail
      refine (PutText_any A2 c2 m2 D f t _ (by omega) (hs2.below h24) (ht.below hw4) (by omega)).mono ?_
      rintro e w5 ⟨A5, c5, m5, rfl, hm5, ho5, hb5⟩
      have h25 := bel_call h24 hb5
      have hw5 := bel_call hw2 h25
      go_wp2_with fail
      refine (PutList_any A2 c2 m2 B d ns _ (by omega) (hs2.below h25) (hb.below hw5) (by omega) h64).mono ?_
      rintro e w6 ⟨A6, c6, m6, rfl, hm6, ho6, hb6⟩
      have h26 := bel_call h25 hb6
      have hw6 := bel_call hw2 h26
      have hs5 := ho5.sl.below hb6
      go_wp2_with (at_builtin; go_must (refine wpl_fresh 24 5 Try.underlying24 u8_info rfl _ _ rfl rfl A c l rfl (ha.below hw6) (by omega) ?_; intro A7 c7 m7 w7 hm7 ho7 hb7))
      have h27 := bel_call h26 hb7
      have hw7 := bel_call hw2 h27
      have hml7 : m7.length ≤ 100 := by rw [hm7.out]; exact h1
      refine (rText_any D f t _ (ht.below hw7) (by omega)).mono ?_
      rintro e w8 ⟨A8, c8, m8, rfl, hm8, ho8, hb8⟩
      have hml8 : m8.length ≤ 400 := by
        have hu : U64 t.length := by unfold U64; omega
        have := vb_le10 hu
        rw [hm8.out, List.length_append]
        omega
      have h68 := bel_call hb7 hb8
      go_wp2_with (at_builtin; go_must (refine wpl_bytes 24 5 Try.underlying24 u8_info rfl _ _ rfl w6.heap.size A7 c7 m7 rfl (ho7.below hb8) A8 c8 m8 rfl ho8.sl (by omega) h68.size ?_; intro A9 c9 m9 w9 hm9 ho9 _ _ hb9))
      have h69 := h68.trans hb9
      have h29 := bel_call h26 h69
      have hw9 := bel_call hw2 h29
      refine (nBytes_any A5 A9 c5 c9 m5 m9 _ ((ho5.sl.below hb6).below h69) ho9.sl).mono ?_
      rintro e w10 ⟨rfl, rfl⟩
      have hq5 : (m5 == m9) = true := by rw [hm5.out, hm9.out, hm8.out, hm7.out, hm2.out]; simp
      go_wp2_with (at_builtin; go_must (refine wpl_fresh 24 5 Try.underlying24 u8_info rfl _ _ rfl rfl A c l rfl (ha.below hw9) (by omega) ?_; intro A10 c10 m10 w10 hm10 ho10 hb10))
      have h210 := bel_call h29 hb10
      have hw10 := bel_call hw2 h210
      have hml10 : m10.length ≤ 100 := by rw [hm10.out]; exact h1
      refine (rList_any B d ns _ (hb.below hw10) (by omega) h64).mono ?_
      rintro e w11 ⟨A11, c11, m11, rfl, hm11, ho11, hb11⟩
      have hml11 : m11.length ≤ 1000 := by
        have hu : U64 ns.length := by unfold U64; omega
        have := vb_le10 hu
        have := vbs_le h64
        rw [hm11.out, lb, List.length_append]
        omega
      have h911 := bel_call hb10 hb11
      go_wp2_with (at_builtin; go_must (refine wpl_bytes 24 5 Try.underlying24 u8_info rfl _ _ rfl w9.heap.size A10 c10 m10 rfl (ho10.below hb11) A11 c11 m11 rfl ho11.sl (by omega) h911.size ?_; intro A12 c12 m12 w12 hm12 ho12 _ _ hb12))
      have h912 := h911.trans hb12
      have h212 := bel_call h29 h912
      have hw12 := bel_call hw2 h212
      refine (nBytes_any A6 A12 c6 c12 m6 m12 _ ((ho6.sl.below h69).below h912) ho12.sl).mono ?_
      rintro e w13 ⟨rfl, rfl⟩
      have hq6 : (m6 == m12) = true := by rw [hm6.out, hm12.out, hm11.out, hm10.out, hm2.out]; simp
      go_wp2_with fail
      refine (nBytes_any A2 A c2 c m2 l _ (hs2.below h212) (ha.below hw12)).mono ?_
      rintro e w13 ⟨rfl, rfl⟩
      have hq7 : (m2 == l) = true := by rw [hm2.out]; simp
      go_wp2_with fail
      go_ret
      exact ⟨rfl, hw12⟩

namespace VarintPuts
theorem own : ownKnob Try.prog.godebug = none := by kernel_rfl
theorem laidOut : laidOutB Try.prog = true := by kernel_rfl

set_option maxRecDepth 100000 in
theorem lifted (os : Os) (started : os.Started) (H : Type) (enc : TypeId × Value → H) :
    ReturnsInHanded {} Try.checked os 7 .any (Rows.varintPutsSpec.pre6 enc Try.prog Try.f7 Rows.varintPutsRow.domain false) (Rows.varintPutsSpec.post enc Try.prog Try.f7 false true false false) := by
  refine returnsInHanded_of_change (C := Try.checked) own started (by kernel_rfl) Try.func7
    (ChangeSpec.witness6 (enc := enc) (C := Try.checked) false ⟨#[], #[.slice none 0 0, .slice none 0 0, .slice none 0 0], []⟩ 8 (by kernel_rfl) (by kernel_rfl) (by kernel_rfl) (by kernel_rfl)) ?_
  intro W base args ds gs before hval0 hW hcnd _
  have hval : ∀ (j : Nat) t v, Try.f7.params[j]? = some t → args[j]? = some v → Value.okWide Try.prog W .any base t v := hval0
  have hW0 := hW
  obtain ⟨p, q, hA0, hV, rfl, hfz, hnd⟩ := hW
  have hA : DataW.TrodAll enc Try.prog W 0 (fun _ => true) true Try.f7.params.toList args.toList ds p := hA0
  rw [Try.params7] at hA hval
  obtain ⟨v0, vs0, d0, ds0, p0, q0, hargs, rfl, rfl, h0, r0⟩ := trodAll_cons hA
  obtain ⟨v1, vs1, d1, ds1, p1, q1, rfl, rfl, rfl, h1, r1⟩ := trodAll_cons r0
  obtain ⟨v2, vs2, d2, ds2, p2, q2, rfl, rfl, rfl, h2, r2⟩ := trodAll_cons r1
  obtain ⟨rfl, rfl, rfl⟩ := trodAll_nil r2
  obtain rfl : args = #[v0, v1, v2] := by cases args; simp_all
  obtain ⟨rfl, rfl⟩ := trodVars_none hV
  have lt0 : ∀ x ∈ p0, x.block < W.heap.size := by obtain ⟨m, hm⟩ := h0; exact DataW.trod_lt m _ _ _ hm
  have lt1 : ∀ x ∈ p1, x.block < W.heap.size := by obtain ⟨m, hm⟩ := h1; exact DataW.trod_lt m _ _ _ hm
  have lt2 : ∀ x ∈ p2, x.block < W.heap.size := by obtain ⟨m, hm⟩ := h2; exact DataW.trod_lt m _ _ _ hm
  have k0 := h0
  obtain ⟨A0, c0, l0, rfl, s0⟩ := open_bytes Try.underlying24 Try.underlying5 (by kernel_rfl) (hval 0 24 v0 rfl rfl) h0
  have k1 := h1
  obtain ⟨A1, c1, l1, rfl, s1, u1⟩ := open_nums Try.underlying22 Try.underlying27 (by kernel_rfl) (hval 1 22 v1 rfl rfl) h1
  have k2 := h2
  obtain ⟨A2, c2, l2, rfl, s2⟩ := open_bytes Try.underlying24 Try.underlying5 (by kernel_rfl) (hval 2 24 v2 rfl rfl) h2
  clear hA0 hval0
  refine (puts_walk W s0 s1 u1 s2).mono fun e W2 ⟨he, bel⟩ => ?_
  subst he
  exact ⟨_, rfl, _, _, _, [], _, [], hW0, trodAll_mk1 (shut_bool Try.underlying4 _), (trodAll_cons_mk (Below.trod laidOut (by kernel_rfl) (of_decide_eq_true (by kernel_rfl)) k0 bel lt0) (trodAll_cons_mk (Below.trod laidOut (by kernel_rfl) (of_decide_eq_true (by kernel_rfl)) k1 bel lt1) (trodAll_cons_mk (Below.trod laidOut (by kernel_rfl) (of_decide_eq_true (by kernel_rfl)) k2 bel lt2) trodAll_mk0))), rfl, bel.frame _, fun h => by cases h⟩

theorem over : Rows.varintPutsRow.holds Try.pinned (OpenSpec.ofChange Rows.varintPutsSpec) :=
  OpenClaim.holds_of_wide 7 Try.f7 rfl rfl rfl rfl rfl rfl rfl ⟨rfl, rfl, rfl, rfl, rfl⟩ rfl rfl rfl rfl rfl (by kernel_rfl) Try.func7 (by kernel_rfl)
    (of_decide_eq_true (by kernel_rfl)) (by unfold Func.isWrapper; first | (rw [if_pos (by decide +kernel)]; kernel_rfl) | (rw [if_neg (by decide +kernel)]; exact ⟨rfl, rfl⟩))
    (fun os started H enc _ => lifted os started H enc)

theorem proved : Rows.VarintPutsSaid := over
end VarintPuts
end Go.Proofs.Ytjmekdldhnnneaa
