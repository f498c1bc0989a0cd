/- WHAT IS PROVED: the statement VarintReads: for every input the law returns true. No condition. -/
import Derived.Test.YtjmekdldhnnneaaActA
import Derived.Test.YtjmekdldhnnneaaFrameS
namespace Go.Proofs.Ytjmekdldhnnneaa
open Go.ChangeShapes Go.WideShapes Go.ChangeAt Go.RowKit

set_option maxRecDepth 100000 in
set_option maxHeartbeats 2000000 in
theorem reads_walk {A E : Option Addr} {c d : Nat} {l : List UInt8} {acts : List (Int × Nat × Int)} (w : World) (ha : SlB w A c l) (hb : Sl w 3 E acts.length d (acts.flatMap actf)) (hi : Hid (∀ a ∈ acts, -9223372036854775808 ≤ a.2.2 ∧ a.2.2 ≤ 9223372036854775807)) (h1 : l.length ≤ 400) (h2 : acts.length ≤ 40) :
    Calls Try.prog 12 #[.slice A l.length c, .slice E acts.length d] w fun e w' => e = .returned (.bool true) ∧ Below w.heap.size w w' := by
  have hI : ∀ W, Calls Try.prog 28 #[.iface 46 (.int .i64 4), .int .i64 4] W fun e w' => e = .returned (.bool true) ∧ W = w' := fun W => isn_any 4 4 W
  have HI := Lib.hid hI
  clear hI
  go_enter Try.func12, Try.ntmps12
  go_wp2_with fail
  refine (alive01_any w).mono ?_
  rintro e w1 ⟨rfl, hb1⟩
  go_wp2_with fail
  refine (Fail_nil _ _).mono ?_
  rintro e w2 ⟨rfl, rfl⟩
  go_wp2_with fail
  refine (Number_nil _).mono ?_
  rintro e w2 ⟨rfl, rfl⟩
  go_wp2_with fail
  refine (Within_nil 5 _).mono ?_
  rintro e w2 ⟨rfl, rfl⟩
  go_wp2_with fail
  refine (Text_nil 5 _).mono ?_
  rintro e w2 ⟨rfl, rfl⟩
  go_wp2_with fail
  refine (List_nil 5 _).mono ?_
  rintro e w2 ⟨rfl, rfl⟩
  go_wp2_with fail
  refine (Fixed_nil 0 _).mono ?_
  rintro e w2 ⟨rfl, rfl⟩
  go_wp2_with fail
  refine (Left_nil _).mono ?_
  rintro e w2 ⟨rfl, rfl⟩
  go_wp2_with fail
  refine (Err_nil _).mono ?_
  rintro e w2 ⟨rfl, rfl⟩
  go_wp2_with fail
  refine (HI.out _).mono ?_
  rintro e w2 ⟨rfl, rfl⟩
  go_wp2_with fail
  refine (End_nil _).mono ?_
  rintro e w2 ⟨rfl, rfl⟩
  go_wp2_with fail
  refine (HI.out _).mono ?_
  rintro e w2 ⟨rfl, rfl⟩
  go_wp2_with (at_builtin; go_must (refine wpl_fresh 24 5 Try.underlying24 u8_info rfl _ _ rfl rfl A c l rfl (ha.below hb1) (by omega) ?_; intro A2 c2 m2 w2 hm2 ho2 hb2))
  refine (New_any A2 c2 m2 w2 ho2.sl).mono ?_
  rintro e w3 ⟨g, rfl, hg, hR3, hb3⟩
  go_wp2_with fail
  obtain rfl : m2 = l := hm2.out
  clear hm2
  refine (same_any (g := g) (B := w2.heap.size) (l := m2) (bad := 0) (A := A) (c := c) (hR3.below (below_new _ _))).mono ?_
  rintro e w4 ⟨rfl, hb4⟩
  have hK4 := (Blk.new w3 102 #[.slice A m2.length c, .int .i64 0]).below hb4
  have hb23 := bel_call (bel_alloc hb3 (.cells #[.slice A m2.length c, .int .i64 0] 102)) hb4
  have hR4 := (hR3.below (below_new w3 (.cells #[.slice A m2.length c, .int .i64 0] 102))).below hb4
  have hg3 := hR3.lt
  have hw2 := bel_call hb1 hb2
  have hS4 := (ha.below hw2).below hb23
  have hC : m2 ≠ [] → ∀ ad, A = some ad → ad.block < w.heap.size := by
    intro hn ad hA
    have hl : 0 < m2.length := by cases h : m2 <;> simp_all
    obtain ⟨ad2, hA2, hc⟩ := ha.at1 (k := 0) hl
    rw [hA] at hA2
    injection hA2 with e
    subst e
    have := World.block_lt_of_cell? w _ hc
    rwa [addr_add_block] at this
  have hz2 : w.heap.size ≤ w2.heap.size := hw2.size
  have hz3 : w2.heap.size ≤ w3.heap.size := hb3.size
  have hmax := hb.2.1
  have hmax2 := hb.2.2.1
  unfold maxLen at hmax2
  go_wp2_with fail
  go_loopw [76] (fun x wr => ∃ (k : Nat) (s : List UInt8 × Nat) (A5 : Option Addr) (c5 : Nat), k ≤ acts.length ∧ x = .int .i64 k ∧ s.1.length ≤ 400 ∧ Blk wr w3.heap.size 102 #[.slice A5 s.1.length c5, .int .i64 s.2] ∧ SlB wr A5 c5 s.1 ∧ (s.1 ≠ [] → ∀ ad, A5 = some ad → ad.block < w.heap.size) ∧
    IsR wr g w2.heap.size s ∧ Below w2.heap.size w2 wr) (fun x w => acts.length - (intOf x).toNat)
  case atStart => exact ⟨0, (m2, 0), A, c, Nat.zero_le _, rfl, h1, hK4, hS4, hC, hR4, hb23⟩
  case round =>
    obtain ⟨k, s, A5, c5, hk, rfl, hsl, hKr, hSr, hCr, hRr, hbr⟩ := hrel
    obtain ⟨sl, sb⟩ := s
    obtain ⟨k0, k1, kf0, kf1⟩ := hKr.two
    have hz : w3.heap.size < wr.heap.size := hKr.lt
    by_cases hlt : k < acts.length
    · obtain ⟨ad, b5, o5, rfl, had, hc⟩ := Sl.atS (f := actf) (size := 3) (fun _ => rfl) (by omega) (hb.below (hw2.trans (hbr.mono hz2))) hlt
      have hM := Lib.hid (hi.out _ (List.getElem_mem hlt))
      generalize acts[k] = a at *
      obtain ⟨kind, n, most⟩ := a
      have c0 := hc 0 _ rfl
      have c1 := hc 1 _ rfl
      have c2 := hc 2 _ rfl
      rw [Nat.add_zero] at c0
      clear hc
      go_wp2_with fail
      have hRa := hRr.below (below_new wr (.cells #[.int .i64 kind, .int .u64 n, .int .i64 most] 105))
      have hSa := hSr.below (below_new wr (.cells #[.int .i64 kind, .int .u64 n, .int .i64 most] 105))
      have hbs := hbr.size
      refine (act_any (C := w.heap.size) kind most hM.out (by omega) n hRa hSa hCr (by simp; omega) (by simp; omega) (by omega)).mono ?_
      rintro e w5 ⟨⟨s1, s2⟩, v, rfl, hle, ⟨A6, c6, rfl, hS6, hC6⟩, hR6, hr6⟩
      have hl6 : s1.length ≤ 400 := Nat.le_trans hle hsl
      have hK6 := (hKr.alloc (.cells #[.int .i64 kind, .int .u64 n, .int .i64 most] 105)).wr hr6 (by omega)
      have hb6 := below_wr (hbr.alloc hbs (.cells #[.int .i64 kind, .int .u64 n, .int .i64 most] 105)) hr6 (by simp; omega) hg
      have hz6 : w3.heap.size < w5.heap.size := hK6.lt
      obtain ⟨k0, k1, kf0, kf1⟩ := hK6.two
      clear hRa hSa hRr hSr hKr hbr hr6 c0 c1 c2
      go_wp2_with fail
      go_roundw
      case rel =>
        have hX := (below_two (Below.refl w3.heap.size w5) (g := w3.heap.size) (Nat.le_refl _) (.slice A6 s1.length c6) (.int .i64 s2)).alloc (by simp [World.setCell]; omega) (.cells #[.slice A6 s1.length c6, .int .i64 s2] 102)
        exact ⟨k + 1, (s1, s2), A6, c6, hlt, by go_num, hl6, (hK6.set2 _ _).alloc _, hS6.apart hC6 (by omega) hX, hC6, hR6.apart hg3 hz3 hX, hb6.trans (hX.mono hz3)⟩
      case measure => simp [intOf]; omega
    · have hbs := hbr.size
      have hF : rFail 0 (sl, sb) = (sl, sb) := by unfold rFail; split <;> simp_all
      have hQ : ∀ W, IsR W g w2.heap.size (sl, sb) → Calls Try.prog 53 #[.pointer (some ⟨g, 0, none⟩), .nilIface] W fun e w' => e = .returned (.tuple #[]) ∧ IsR w' g w2.heap.size (sl, sb) ∧ Wr W w' g := fun W h => by
        have := Fail_any (k := 0) h
        rw [hF] at this
        exact this
      have HQ := Lib.hid hQ
      clear hQ hF
      go_wp2_with fail
      refine (HQ.out _ hRr).mono ?_
      rintro e w5 ⟨rfl, hR5, hr5⟩
      have hK5 := hKr.wr hr5 (by omega)
      have hb5 := below_wr hbr hr5 hbs hg
      obtain ⟨k0, k1, kf0, kf1⟩ := hK5.two
      go_wp2_with fail
      refine (same_any (g := g) (B := w2.heap.size) (l := sl) (bad := sb) (A := A5) (c := c5) hR5).mono ?_
      rintro e w6 ⟨rfl, hb6⟩
      have hb26 := bel_call hb5 hb6
      have hsO := ho2.sl.below hb26
      have hsA := (ha.below hw2).below hb26
      go_wp2_with fail
      refine (nBytes_any A2 A _ c m2 m2 _ hsO hsA).mono ?_
      rintro e w7 ⟨rfl, rfl⟩
      go_wp2_with fail
      go_ret
      exact ⟨by simp, hw2.trans (hb26.mono hz2)⟩

theorem reads_early {A E : Option Addr} {c d : Nat} {l : List UInt8} {acts : List (Int × Nat × Int)} (w : World) (h : 400 < l.length ∨ 40 < acts.length) :
    Calls Try.prog 12 #[.slice A l.length c, .slice E acts.length d] w fun e w' => e = .returned (.bool true) ∧ Below w.heap.size w w' := by
  rcases Decidable.em (400 < l.length) with h1 | h1 <;> rcases Decidable.em (40 < acts.length) with h2 | h2
  all_goals first
    | (exfalso; omega)
    | (go_enter Try.func12, Try.ntmps12
       go_wp2_with fail
       refine (alive01_any w).mono ?_
       rintro e w1 ⟨rfl, hb1⟩
       go_wp2_with fail
       go_ret
       exact ⟨rfl, hb1⟩)

theorem reads_all {A E : Option Addr} {c d : Nat} {l : List UInt8} {acts : List (Int × Nat × Int)} (w : World) (ha : SlB w A c l) (hb : Sl w 3 E acts.length d (acts.flatMap actf)) (hi : ∀ a ∈ acts, I64 a.1 ∧ U64 a.2.1 ∧ I64 a.2.2) :
    Calls Try.prog 12 #[.slice A l.length c, .slice E acts.length d] w fun e w' => e = .returned (.bool true) ∧ Below w.heap.size w w' := by
  by_cases h : 400 < l.length ∨ 40 < acts.length
  · exact reads_early w h
  · exact reads_walk w ha hb (fun a h => (hi a h).2.2) (by omega) (by omega)

namespace VarintReads
theorem own : ownKnob Try.prog.godebug = none := by kernel_rfl
theorem laidOut : laidOutB Try.prog = true := by kernel_rfl

set_option maxRecDepth 100000 in
theorem lifted (os : Os) (started : os.Started) (H : Type) (enc : TypeId × Value → H) :
    ReturnsInHanded {} Try.checked os 12 .any (Rows.varintReadsSpec.pre6 enc Try.prog Try.f12 Rows.varintReadsRow.domain false) (Rows.varintReadsSpec.post enc Try.prog Try.f12 false true false false) := by
  refine returnsInHanded_of_change (C := Try.checked) own started (by kernel_rfl) Try.func12
    (ChangeSpec.witness6 (enc := enc) (C := Try.checked) false ⟨#[], #[.slice none 0 0, .slice none 0 0], []⟩ 8 (by kernel_rfl) (by kernel_rfl) (by kernel_rfl) (by kernel_rfl)) ?_
  intro W base args ds gs before hval0 hW hcnd _
  have hval : ∀ (j : Nat) t v, Try.f12.params[j]? = some t → args[j]? = some v → Value.okWide Try.prog W .any base t v := hval0
  have hW0 := hW
  obtain ⟨p, q, hA0, hV, rfl, hfz, hnd⟩ := hW
  have hA : DataW.TrodAll enc Try.prog W 0 (fun _ => true) true Try.f12.params.toList args.toList ds p := hA0
  rw [Try.params12] at hA hval
  obtain ⟨v0, vs0, d0, ds0, p0, q0, hargs, rfl, rfl, h0, r0⟩ := trodAll_cons hA
  obtain ⟨v1, vs1, d1, ds1, p1, q1, rfl, rfl, rfl, h1, r1⟩ := trodAll_cons r0
  obtain ⟨rfl, rfl, rfl⟩ := trodAll_nil r1
  obtain rfl : args = #[v0, v1] := by cases args; simp_all
  obtain ⟨rfl, rfl⟩ := trodVars_none hV
  have lt0 : ∀ x ∈ p0, x.block < W.heap.size := by obtain ⟨m, hm⟩ := h0; exact DataW.trod_lt m _ _ _ hm
  have lt1 : ∀ x ∈ p1, x.block < W.heap.size := by obtain ⟨m, hm⟩ := h1; exact DataW.trod_lt m _ _ _ hm
  have k0 := h0
  obtain ⟨A0, c0, l0, rfl, s0⟩ := open_bytes Try.underlying24 Try.underlying5 (by kernel_rfl) (hval 0 24 v0 rfl rfl) h0
  have k1 := h1
  obtain ⟨A1, c1, l1, rfl, s1, u1⟩ := open_acts Try.underlying92 Try.underlying105 Try.underlying3 Try.underlying27 Try.underlying3 (by kernel_rfl) (by kernel_rfl) (hval 1 92 v1 rfl rfl) h1
  clear hA0 hval0
  refine (reads_all W s0 s1 u1).mono fun e W2 ⟨he, bel⟩ => ?_
  subst he
  exact ⟨_, rfl, _, _, _, [], _, [], hW0, trodAll_mk1 (shut_bool Try.underlying4 _), (trodAll_cons_mk (Below.trod laidOut (by kernel_rfl) (of_decide_eq_true (by kernel_rfl)) k0 bel lt0) (trodAll_cons_mk (Below.trod laidOut (by kernel_rfl) (of_decide_eq_true (by kernel_rfl)) k1 bel lt1) trodAll_mk0)), rfl, bel.frame _, fun h => by cases h⟩

theorem over : Rows.varintReadsRow.holds Try.pinned (OpenSpec.ofChange Rows.varintReadsSpec) :=
  OpenClaim.holds_of_wide 12 Try.f12 rfl rfl rfl rfl rfl rfl rfl ⟨rfl, rfl, rfl, rfl, rfl⟩ rfl rfl rfl rfl rfl (by kernel_rfl) Try.func12 (by kernel_rfl)
    (of_decide_eq_true (by kernel_rfl)) (by unfold Func.isWrapper; first | (rw [if_pos (by decide +kernel)]; kernel_rfl) | (rw [if_neg (by decide +kernel)]; exact ⟨rfl, rfl⟩))
    (fun os started H enc _ => lifted os started H enc)

theorem proved : Rows.VarintReadsSaid := over
end VarintReads
end Go.Proofs.Ytjmekdldhnnneaa
