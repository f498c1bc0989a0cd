/- WHAT IS PROVED: the statement LeaseBytes: for every input the law returns true. No condition. -/
import Derived.Test.YtkkcgibmcijhaaaLbX
import Derived.Test.YtkkcgibmcijhaaaFrameS
import Derived.Deep.CutBlock
namespace Go.Proofs.Ytkkcgibmcijhaaa
open Go.ChangeShapes Go.WideShapes Go.ChangeAt Go.RowKit
attribute [local go_sem ↓] Go.wp_at_zero Go.wp_at_succ

set_option maxRecDepth 100000 in
set_option maxHeartbeats 2000000 in
theorem lbytes_walk {o e u : Int} {A : Option Addr} {c : Nat} {b : List UInt8} (w : World) (hs : SlB w A c b) (h1 : b.length ≤ 200) :
    Calls Try.prog 10 #[lv o e u, .slice A b.length c] w fun e w' => e = .returned (.bool true) ∧ Below w.heap.size w w' := by
  have hB0 := Blk.new w 25 #[iv o, iv e, iv u]
  have hbw := below_new w (.cells #[iv o, iv e, iv u] 25)
  have hs0 := hs.below hbw
  go_enter Try.func10, Try.ntmps10
  go_wp2_with fail
  refine (alive28_any _).mono ?_
  rintro r w1 ⟨rfl, hb1⟩
  have hB1 := hB0.below hb1
  have hw1 := bel_call hbw hb1
  have hs1 := hs0.below hb1
  clear hB0 hbw hs0 hb1
  obtain ⟨a0, a1, a2, _, _, _⟩ := hB1.three
  go_wp2_with fail
  refine (LPut_any o e u _).mono ?_
  rintro r w2 ⟨A2, c2, m2, rfl, hm2, ho2, hb2⟩
  have hB2 := hB1.below hb2
  have hw2 := bel_call hw1 hb2
  have hs2 := hs1.below hb2
  have hp2 := ho2.sl
  clear hB1 hw1 hs1 hb2 ho2 a0 a1 a2
  obtain ⟨a0, a1, a2, _, _, _⟩ := hB2.three
  have he2 : (lput o e u).2 = chk o e u := by
    unfold lput
    split
    · rfl
    · dsimp only; omega
  rw [he2]
  clear he2
  go_wp2_with fail
  refine (rLCheck_any o e u _).mono ?_
  rintro r w3 ⟨rfl, hb3⟩
  have hB3 := hB2.below hb3
  have hw3 := bel_call hw2 hb3
  have hs3 := hs2.below hb3
  have hp3 := hp2.below hb3
  clear hB2 hw2 hs2 hb3 hp2 a0 a1 a2
  obtain ⟨a0, a1, a2, _, _, _⟩ := hB3.three
  go_wp2_with fail
  refine (num_any _ _).mono ?_
  rintro r w4 ⟨rfl, rfl⟩
  go_upto_if 29 with (fail)
  go_cut [6, 7] (fun _ _ wx => SlB wx A c b ∧ Below w.heap.size w wx)
  case first =>
    rcases Nat.eq_zero_or_pos (chk o e u) with h0 | h0
    · have hml : m2.length ≤ 10000000 := by
        have h2 := ltxt_len h0
        have h3 := vb_le10 (n := (ltxt o e u).length) (by omega)
        rw [hm2.out, show (lput o e u).1 = frm (ltxt o e u) from by unfold lput; rw [if_neg (by omega)], frm_len]
        omega
      have HT := Lib.hid (show ltake m2 = (o, e, u, 0) from by rw [hm2.out]; exact ltake_lput h0)
      have hput := fun W => rLPut_any o e u W h0
      have HP := Lib.hid hput
      rw [h0]
      clear h0 hput
      go_wp2_with fail
      refine (LTake_any A2 c2 m2 _ hp3 hml).mono ?_
      rintro r w5 ⟨rfl, hb5⟩
      rw [HT.out]
      dsimp only
      have hB5 := hB3.below hb5
      have hw5 := bel_call hw3 hb5
      have hs5 := hs3.below hb5
      have hp5 := hp3.below hb5
      clear hB3 hw3 hs3 hb5 hp3 a0 a1 a2
      have hev : errv 0 = .nilIface := rfl
      rw [hev]
      clear hev
      obtain ⟨a0, a1, a2, _, _, _⟩ := hB5.three
      have hz5 : w.heap.size < w5.heap.size := hB5.lt
      go_wp2_with fail
      have hbn := below_new w5 (.cells #[iv o, iv e, iv u] 25)
      refine (HP.out _).mono ?_
      rintro r w6 ⟨A6, c6, m6, rfl, hm6, ho6, hb6⟩
      have hB6 := (hB5.below hbn).below hb6
      have hX6 := (Blk.new w5 25 #[iv o, iv e, iv u]).below hb6
      have hw6 := bel_call (bel_call hw5 hbn) hb6
      have hs6 := (hs5.below hbn).below hb6
      have hp6 := (hp5.below hbn).below hb6
      have heq : (m2 == m6) = true := by rw [hm2.out, hm6.out]; simp
      clear hB5 hw5 hs5 hb6 hp5 hbn a0 a1 a2
      obtain ⟨a0, a1, a2, _, _, _⟩ := hB6.three
      obtain ⟨x0, x1, x2, _, _, _⟩ := hX6.three
      go_wp2_with fail
      refine (nBytes_any A2 A6 c2 c6 m2 m6 _ hp6 ho6.sl).mono ?_
      rintro r w7 ⟨rfl, rfl⟩
      rw [heq]
      go_wp2_with fail
      go_meet
      exact ⟨hs6, hw6⟩
    · have hk2 : (((chk o e u : Nat) : Int) == 0) = false := by simp; omega
      generalize chk o e u = k at *
      clear hm2
      go_wp2_with fail
      go_meet
      exact ⟨hs3, hw3⟩
  case rest =>
    obtain ⟨hs5, hw5⟩ := hcut
    have hbk := fun h => ltake_back (l := b) h
    rcases hlt : ltake b with ⟨o2, e2, u2, bad2⟩
    rw [hlt] at hbk
    dsimp only at hbk
    have HLT := Lib.hid hlt
    have HBK := Lib.hid hbk
    clear hlt hbk hB3 hw3 hs3 hp3 a0 a1 a2 hm2
    go_wp2_with fail
    refine (LTake_any A c b _ hs5 (by omega)).mono ?_
    rintro r w6 ⟨rfl, hb6⟩
    rw [HLT.out]
    dsimp only
    have hw6 := bel_call hw5 hb6
    have hs6 := hs5.below hb6
    clear hs5 hw5 hb6
    go_wp2_with fail
    have hX6 := Blk.new w6 25 #[iv o2, iv e2, iv u2]
    have hbn := below_new w6 (.cells #[iv o2, iv e2, iv u2] 25)
    refine (rLTake_any A c b _ (hs6.below hbn) (by omega)).mono ?_
    rintro r w7 ⟨rfl, hb7⟩
    rw [HLT.out]
    dsimp only
    have hX7 := hX6.below hb7
    have hs7 := (hs6.below hbn).below hb7
    have hw7 := bel_call (bel_call hw6 hbn) hb7
    have hz7 : w6.heap.size < w7.heap.size := hX7.lt
    clear hs6 hw6 hb7 hbn hX6
    obtain ⟨x0, x1, x2, _, _, _⟩ := hX7.three
    go_wp2_with fail
    have hbn := below_new w7 (.cells #[iv o2, iv e2, iv u2] 117)
    have hX8 := hX7.below hbn
    have hs8 := hs7.below hbn
    have hw8 := bel_call hw7 hbn
    clear hX7 hs7 hw7 x0 x1 x2 hbn
    refine (num_any bad2 _).mono ?_
    rintro r w8 ⟨rfl, rfl⟩
    obtain ⟨x0, x1, x2, _, _, _⟩ := hX8.three
    rcases errv_cases bad2 with ⟨rfl, hev⟩ | ⟨k, hk, hke, hev⟩
    · obtain ⟨hc0, hpu⟩ := HBK.out rfl
      have HPU := Lib.hid hpu
      rw [hev]
      clear hev hc0 hpu
      go_wp2_with fail
      refine (LPut_any o2 e2 u2 _).mono ?_
      rintro r w9 ⟨A9, c9, m9, rfl, hm9, ho9, hb9⟩
      rw [HPU.out] at hm9 ⊢
      have hev : errv 0 = .nilIface := rfl
      dsimp only
      rw [hev]
      clear hev
      have hs9 := hs8.below hb9
      have heq : (m9 == b) = true := by rw [hm9.out]; simp
      go_wp2_with fail
      refine (nBytes_any A9 A c9 c m9 b _ ho9.sl hs9).mono ?_
      rintro r w10 ⟨rfl, rfl⟩
      rw [heq]
      go_wp2_with fail
      go_ret
      exact ⟨rfl, bel_call hw8 hb9⟩
    · rw [hev]
      clear hev hke
      go_wp2_with fail
      go_ret
      exact ⟨rfl, hw8⟩

theorem lbytes_early {o e u : Int} {A : Option Addr} {c : Nat} {b : List UInt8} (w : World) (h1 : 200 < b.length) :
    Calls Try.prog 10 #[lv o e u, .slice A b.length c] w fun e w' => e = .returned (.bool true) ∧ Below w.heap.size w w' := by
  have hbw := below_new w (.cells #[iv o, iv e, iv u] 25)
  go_enter Try.func10, Try.ntmps10
  go_wp2_with fail
  refine (alive28_any _).mono ?_
  rintro r w1 ⟨rfl, hb1⟩
  go_wp2_with fail
  go_ret
  exact ⟨rfl, bel_call hbw hb1⟩
theorem lbytes_all {o e u : Int} {A : Option Addr} {c : Nat} {b : List UInt8} (w : World) (_ : I64 o) (_ : I64 e) (_ : I64 u) (hs : SlB w A c b) :
    Calls Try.prog 10 #[.agg #[.int .i64 o, .int .i64 e, .int .i64 u], .slice A b.length c] w fun e w' => e = .returned (.bool true) ∧ Below w.heap.size w w' := by
  by_cases h : b.length ≤ 200
  · exact lbytes_walk w hs h
  · exact lbytes_early w (by omega)
namespace LeaseBytes
theorem own : ownKnob Try.prog.godebug = none := by kernel_rfl
theorem laidOut : laidOutB Try.prog = true := by kernel_rfl

set_option maxRecDepth 100000 in
theorem lifted (os : Os) (started : os.Started) (H : Type) (enc : TypeId × Value → H) :
    ReturnsInHanded {} Try.checked os 10 .any (Rows.leaseBytesSpec.pre6 enc Try.prog Try.f10 Rows.leaseBytesRow.domain false) (Rows.leaseBytesSpec.post enc Try.prog Try.f10 false true false false) := by
  refine returnsInHanded_of_change (C := Try.checked) own started (by kernel_rfl) Try.func10
    (ChangeSpec.witness6 (enc := enc) (C := Try.checked) false ⟨#[], #[.agg #[.int .i64 0, .int .i64 0, .int .i64 0], .slice none 0 0], []⟩ 8 (by kernel_rfl) (by kernel_rfl) (by kernel_rfl) (by kernel_rfl)) ?_
  intro W base args ds gs before hval0 hW hcnd _
  have hval : ∀ (j : Nat) t v, Try.f10.params[j]? = some t → args[j]? = some v → Value.okWide Try.prog W .any base t v := hval0
  have hW0 := hW
  obtain ⟨p, q, hA0, hV, rfl, hfz, hnd⟩ := hW
  have hA : DataW.TrodAll enc Try.prog W 0 (fun _ => true) true Try.f10.params.toList args.toList ds p := hA0
  rw [Try.params10] at hA hval
  obtain ⟨v0, vs0, d0, ds0, p0, q0, hargs, rfl, rfl, h0, r0⟩ := trodAll_cons hA
  obtain ⟨v1, vs1, d1, ds1, p1, q1, rfl, rfl, rfl, h1, r1⟩ := trodAll_cons r0
  obtain ⟨rfl, rfl, rfl⟩ := trodAll_nil r1
  obtain rfl : args = #[v0, v1] := by cases args; simp_all
  obtain ⟨rfl, rfl⟩ := trodVars_none hV
  have lt0 : ∀ x ∈ p0, x.block < W.heap.size := by obtain ⟨m, hm⟩ := h0; exact DataW.trod_lt m _ _ _ hm
  have lt1 : ∀ x ∈ p1, x.block < W.heap.size := by obtain ⟨m, hm⟩ := h1; exact DataW.trod_lt m _ _ _ hm
  have k0 := h0
  obtain ⟨o0, e0, u0, rfl, sa0, sb0, sc0⟩ := open_ints3 Try.underlying25 Try.underlying3 Try.underlying3 Try.underlying3 (by kernel_rfl) (by kernel_rfl) (hval 0 25 v0 rfl rfl) h0
  have k1 := h1
  obtain ⟨A1, c1, l1, rfl, s1⟩ := open_bytes Try.underlying40 Try.underlying5 (by kernel_rfl) (hval 1 40 v1 rfl rfl) h1
  clear hA0 hval0
  refine (lbytes_all W sa0 sb0 sc0 s1).mono fun e W2 ⟨he, bel⟩ => ?_
  subst he
  exact ⟨_, rfl, _, _, _, [], _, [], hW0, trodAll_mk1 (shut_bool Try.underlying4 _), (trodAll_cons_mk (Below.trod laidOut (by kernel_rfl) (of_decide_eq_true (by kernel_rfl)) k0 bel lt0) (trodAll_cons_mk (Below.trod laidOut (by kernel_rfl) (of_decide_eq_true (by kernel_rfl)) k1 bel lt1) trodAll_mk0)), rfl, bel.frame _, fun h => by cases h⟩

theorem over : Rows.leaseBytesRow.holds Try.pinned (OpenSpec.ofChange Rows.leaseBytesSpec) :=
  OpenClaim.holds_of_wide 10 Try.f10 rfl rfl rfl rfl rfl rfl rfl ⟨rfl, rfl, rfl, rfl, rfl⟩ rfl rfl rfl rfl rfl (by kernel_rfl) Try.func10 (by kernel_rfl)
    (of_decide_eq_true (by kernel_rfl)) (by unfold Func.isWrapper; first | (rw [if_pos (by decide +kernel)]; kernel_rfl) | (rw [if_neg (by decide +kernel)]; exact ⟨rfl, rfl⟩))
    (fun os started H enc _ => lifted os started H enc)

theorem proved : Rows.LeaseBytesSaid := over
end LeaseBytes
end Go.Proofs.Ytkkcgibmcijhaaa
