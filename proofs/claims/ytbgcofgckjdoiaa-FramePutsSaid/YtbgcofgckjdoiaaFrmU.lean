/- WHAT IT HOLDS: the law FramePuts, walked. -/
import Derived.Test.YtbgcofgckjdoiaaFrmJ
namespace Go.Proofs.Ytbgcofgckjdoiaa
open Go.RowKit
attribute [local go_sem ↓] Go.wp_at_zero Go.wp_at_succ

set_option maxRecDepth 100000 in
set_option maxHeartbeats 4000000 in
theorem fputs_small {A B : Option Addr} {c d : Nat} {l t : List UInt8} (w : World) (ha : SlB w A c l) (hb : SlB w B d t) (h1 : l.length ≤ 300) (h2 : t.length ≤ 1000) :
    Calls Try.prog 10 #[.slice A l.length c, .slice B t.length d] w fun e w' => e = .returned (.bool true) ∧ Below w.heap.size w w' := by
  have k1 : ¬ (300 < (l.length : Int)) := by omega
  have k2 : ¬ (1000 < (t.length : Int)) := by omega
  have k3 : ¬ (66000 < (t.length : Int)) := by omega
  have k4 : ¬ (65536 < (t.length : Int)) := by omega
  have HPUT := Lib.hid (show fput l t = (l ++ frm t, 0) from by unfold fput; rw [if_neg (by omega)])
  have HJOIN := Lib.hid (show fjoin [[], t] = (frms [[], t], 0) from fjoin_ok (by intro q hq; simp only [List.mem_cons, List.not_mem_nil, or_false] at hq; rcases hq with rfl | rfl; simp; omega))
  go_enter Try.func10, Try.ntmps10
  go_wp2_with fail
  refine (alive04_any _).mono ?_
  rintro e w1 ⟨rfl, hb1⟩
  go_wp2_with (at_builtin; first
    | (refine wpl_fresh 40 5 Try.underlying40 u8_info rfl _ _ rfl rfl A c l rfl (ha.below hb1) (by omega) ?_; intro A2 c2 m2 w2 hm2 ho2 hb2))
  obtain rfl : m2 = l := hm2.out
  have hw2 := bel_call hb1 hb2
  refine (FPut_any A2 c2 m2 B d t w2 (by omega) ho2.sl (hb.below hw2) (by omega)).mono ?_
  rintro e w3 ⟨A3, c3, m3, he, hm3, ho3, hb3⟩
  rw [HPUT.out] at he hm3
  have hev : errv (m2 ++ frm t, 0).2 = .nilIface := rfl
  rw [hev] at he
  subst he
  clear hev
  go_wp2_with fail
  have hw3 := bel_call hw2 hb3
  have hbn := below_new w3 (.cells #[pv (none, 0, []), pv (B, d, t)] 40)
  refine (FJoin_any (some ⟨w3.heap.size, 0, none⟩) 2 [(none, 0, []), (B, d, t)] _ (Sl.lits w3 [pv (none, 0, []), pv (B, d, t)] 40 (by simp [maxLen])) ?_ (by simp)).mono ?_
  · intro x hx
    simp only [List.mem_cons, List.not_mem_nil, or_false] at hx
    rcases hx with rfl | rfl
    · exact ⟨Sl.none_ _ _, by simp⟩
    · exact ⟨(hb.below hw3).below hbn, by dsimp only; omega⟩
  rintro e w4 ⟨A4, c4, m4, he, hm4, hs4, hb4⟩
  rw [show ptx [((none : Option Addr), 0, []), (B, d, t)] = [[], t] from rfl, HJOIN.out] at he hm4
  have hw4 := bel_call (bel_call hw3 hbn) hb4
  have hev : errv (frms [[], t], 0).2 = .nilIface := rfl
  rw [hev] at he
  subst he
  have hm3' := Lib.hid (show m3 = m2 ++ frm t from hm3.out)
  have hm4' := Lib.hid (show m4 = frm [] ++ frm t from by rw [hm4.out]; simp [frms])
  have hs2 := ((((ho2.sl.below hb3).below hbn).below hb4))
  have hs3 := (ho3.sl.below hbn).below hb4
  clear hev hm3 hm4 hbn hb4 hb3 ho3 ho2 hw3
  go_wp2_with fail
  refine (nBytes_any A2 A c2 c m2 m2 _ hs2 (ha.below hw4)).mono ?_
  rintro e w5 ⟨rfl, rfl⟩
  have hq : (m2 == m2) = true := by simp
  rw [hq]
  clear hq
  go_wp2_with fail
  refine (rFrame_any B d t _ (hb.below hw4) (by omega)).mono ?_
  rintro e w6 ⟨A6, c6, m6, rfl, hm6, ho6, hb6⟩
  have hm6' := Lib.hid (show m6 = frm t from hm6.out)
  have hl6 := Lib.hid (show m6.length ≤ 1014 from by rw [hm6'.out, frm_len]; have := vb_le10 (n := t.length) (by omega); omega)
  have hw6 := bel_call hw4 hb6
  have hs3' := hs3.below hb6
  have hs4' := hs4.below hb6
  have hs6 := ho6.sl
  clear hm6 ho6 hs2 hs3 hs4 hb6
  go_wp2_with (at_builtin; first
    | (refine wpg_bytes 40 5 Try.underlying40 u8_info (by kernel_rfl) _ _ rfl w6.heap.size A7 c7 m7 rfl ho7 A6 c6 m6 rfl (hs6.below hb7) (by have := hl6.out; have := hl7.out; omega) hb7.size ?_; intro A8 c8 m8 w8 hm8 ho8 hb8)
    | (refine wpg_fresh 40 5 Try.underlying40 u8_info (by kernel_rfl) _ _ rfl rfl A c m2 rfl (ha.below hw6) (by omega) ?_; intro A7 c7 m7 w7 hm7 ho7 hb7; have hl7 := Lib.hid (show m7.length ≤ 300 from by rw [hm7.out]; exact h1)))
  have hb68 : Below w6.heap.size w6 w8 := hb7.trans hb8
  have hq := Lib.hid (show (m3 == m8) = true from by rw [hm3'.out, hm8.out, hm7.out, hm6'.out]; simp)
  have hs3'' := hs3'.below hb68
  have hs4'' := hs4'.below hb68
  have hs6' := hs6.below hb68
  have hs8 := ho8.sl
  have hw8 := bel_call hw6 hb68
  clear hs3' hs4' hs6 ho7 ho8 hb7 hb8 hb68 hm8 hm7 hl7
  refine (nBytes_any A3 A8 c3 c8 m3 m8 _ hs3'' hs8).mono ?_
  rintro e w9 ⟨rfl, rfl⟩
  rw [hq.out]
  clear hq hs3'' hs8
  go_wp2_with fail
  refine (rFrame_any none 0 [] w8 (Sl.none_ w8 1) (by simp)).mono ?_
  rintro e w10 ⟨A10, c10, m10, rfl, hm10, ho10, hb10⟩
  have hl10 := Lib.hid (show m10.length ≤ 5 from by rw [hm10.out, frm_nil]; simp)
  go_wp2_with (at_builtin; (refine wpg_bytes 40 5 Try.underlying40 u8_info (by kernel_rfl) _ _ rfl w8.heap.size A10 c10 m10 rfl ho10 A6 c6 m6 rfl (hs6'.below hb10) (by have := hl6.out; have := hl10.out; omega) hb10.size ?_; intro A11 c11 m11 w11 hm11 ho11 hb11))
  have hb811 : Below w8.heap.size w8 w11 := hb10.trans hb11
  have hq := Lib.hid (show (m4 == m11) = true from by rw [hm4'.out, hm11.out, hm10.out, hm6'.out]; simp)
  refine (nBytes_any A4 A11 c4 c11 m4 m11 _ (hs4''.below hb811) ho11.sl).mono ?_
  rintro e w12 ⟨rfl, rfl⟩
  rw [hq.out]
  have hw11 := bel_call hw8 hb811
  have hsz : (((frm t).length : Int) == (m6.length : Int)) = true := by rw [hm6'.out]; simp
  clear hq hs4'' hs6' ho10 ho11 hb10 hb11 hb811 hm11 hm10 hl10
  go_wp2_with fail
  refine (FSize_any B d t _ (by omega)).mono ?_
  rintro e w13 ⟨rfl, rfl⟩
  go_wp2_with fail
  go_ret
  exact ⟨rfl, hw11⟩

set_option maxRecDepth 100000 in
set_option maxHeartbeats 4000000 in
theorem fputs_long {A B : Option Addr} {c d : Nat} {l t : List UInt8} (w : World) (ha : SlB w A c l) (hb : SlB w B d t) (h1 : l.length ≤ 300) (h2 : 65536 < t.length) (h3 : t.length ≤ 66000) :
    Calls Try.prog 10 #[.slice A l.length c, .slice B t.length d] w fun e w' => e = .returned (.bool true) ∧ Below w.heap.size w w' := by
  have k1 : ¬ (300 < (l.length : Int)) := by omega
  have k2 : (1000 < (t.length : Int)) := by omega
  have k3 : ¬ (66000 < (t.length : Int)) := by omega
  have k4 : (65536 < (t.length : Int)) := by omega
  have k5 : ¬ ((t.length : Int) ≤ 65536) := by omega
  have k6 : decide (1000 < (t.length : Int)) = true := decide_eq_true k2
  have k7 : decide ((t.length : Int) ≤ 65536) = false := decide_eq_false k5
  have HPUT := Lib.hid (show fput l t = ([], 3) from by unfold fput; rw [if_pos (by omega)])
  have HJOIN := Lib.hid (show fjoin [[], t] = ([], 3) from fjoin_long (k := 1) (by simp) (by simpa using h2))
  go_enter Try.func10, Try.ntmps10
  go_wp2_with fail
  refine (alive04_any _).mono ?_
  rintro e w1 ⟨rfl, hb1⟩
  go_wp2_with (at_builtin; first
    | (refine wpl_fresh 40 5 Try.underlying40 u8_info rfl _ _ rfl rfl A c l rfl (ha.below hb1) (by omega) ?_; intro A2 c2 m2 w2 hm2 ho2 hb2))
  obtain rfl : m2 = l := hm2.out
  have hw2 := bel_call hb1 hb2
  refine (FPut_any A2 c2 m2 B d t w2 (by omega) ho2.sl (hb.below hw2) (by omega)).mono ?_
  rintro e w3 ⟨A3, c3, m3, he, hm3, ho3, hb3⟩
  rw [HPUT.out] at he hm3
  have hE := isn_any 3 3
  go_wp2_with fail
  have hw3 := bel_call hw2 hb3
  have hbn := below_new w3 (.cells #[pv (none, 0, []), pv (B, d, t)] 40)
  refine (FJoin_any (some ⟨w3.heap.size, 0, none⟩) 2 [(none, 0, []), (B, d, t)] _ (Sl.lits w3 [pv (none, 0, []), pv (B, d, t)] 40 (by simp [maxLen])) ?_ (by simp)).mono ?_
  · intro x hx
    simp only [List.mem_cons, List.not_mem_nil, or_false] at hx
    rcases hx with rfl | rfl
    · exact ⟨Sl.none_ _ _, by simp⟩
    · exact ⟨(hb.below hw3).below hbn, by dsimp only; omega⟩
  rintro e w4 ⟨A4, c4, m4, he, hm4, hs4, hb4⟩
  rw [show ptx [((none : Option Addr), 0, []), (B, d, t)] = [[], t] from rfl, HJOIN.out] at he hm4
  have hw4 := bel_call (bel_call hw3 hbn) hb4
  dsimp only at he
  have hs2 := ((((ho2.sl.below hb3).below hbn).below hb4))
  obtain rfl : m3 = [] := hm3.out
  obtain rfl : m4 = [] := hm4.out
  subst he
  generalize errv 3 = ev at *
  clear hm3 hm4 ho3 hs4 ho2 hb3 hb4 hbn
  go_wp2_with fail
  refine (nBytes_any A2 A c2 c m2 m2 _ hs2 (ha.below hw4)).mono ?_
  rintro e w5 ⟨rfl, rfl⟩
  have hq : (m2 == m2) = true := by simp
  rw [hq]
  clear hq
  go_wp2_with fail
  refine (hE _).mono ?_
  rintro e w6 ⟨rfl, rfl⟩
  go_wp2_with fail
  refine (hE _).mono ?_
  rintro e w7 ⟨rfl, rfl⟩
  go_wp2_with fail
  go_ret
  exact ⟨rfl, hw4⟩

theorem fputs_early {A B : Option Addr} {c d : Nat} {l t : List UInt8} (w : World) (h : 300 < l.length ∨ (1000 < t.length ∧ t.length ≤ 65536) ∨ 66000 < t.length) :
    Calls Try.prog 10 #[.slice A l.length c, .slice B t.length d] w fun e w' => e = .returned (.bool true) ∧ Below w.heap.size w w' := by
  by_cases h1 : 300 < l.length
  · have k1 : (300 : Int) < (l.length : Int) := by omega
    have d1 : decide ((300 : Int) < (l.length : Int)) = true := decide_eq_true k1
    clear h
    go_enter Try.func10, Try.ntmps10
    go_wp2_with fail
    refine (alive04_any _).mono ?_
    rintro e w1 ⟨rfl, hb1⟩
    go_wp2_with fail
    go_ret
    exact ⟨rfl, hb1⟩
  · have k1 : ¬ (300 : Int) < (l.length : Int) := by omega
    have d1 : decide ((300 : Int) < (l.length : Int)) = false := decide_eq_false k1
    by_cases h2 : 1000 < t.length ∧ t.length ≤ 65536
    · have k2 : (1000 : Int) < (t.length : Int) := by omega
      have k3 : (t.length : Int) ≤ 65536 := by omega
      have d2 : decide ((1000 : Int) < (t.length : Int)) = true := decide_eq_true k2
      have d3 : decide ((t.length : Int) ≤ 65536) = true := decide_eq_true k3
      clear h h2
      go_enter Try.func10, Try.ntmps10
      go_wp2_with fail
      refine (alive04_any _).mono ?_
      rintro e w1 ⟨rfl, hb1⟩
      go_wp2_with fail
      go_ret
      exact ⟨rfl, hb1⟩
    · have h3 : 66000 < t.length := (h.resolve_left h1).resolve_left h2
      have k2 : (1000 : Int) < (t.length : Int) := by omega
      have k3 : ¬ (t.length : Int) ≤ 65536 := by omega
      have k4 : (66000 : Int) < (t.length : Int) := by omega
      have d2 : decide ((1000 : Int) < (t.length : Int)) = true := decide_eq_true k2
      have d3 : decide ((t.length : Int) ≤ 65536) = false := decide_eq_false k3
      have d4 : decide ((66000 : Int) < (t.length : Int)) = true := decide_eq_true k4
      clear h h2
      go_enter Try.func10, Try.ntmps10
      go_wp2_with fail
      refine (alive04_any _).mono ?_
      rintro e w1 ⟨rfl, hb1⟩
      go_wp2_with fail
      go_ret
      exact ⟨rfl, hb1⟩
theorem fputs_all {A B : Option Addr} {c d : Nat} {l t : List UInt8} (w : World) (ha : SlB w A c l) (hb : SlB w B d t) :
    Calls Try.prog 10 #[.slice A l.length c, .slice B t.length d] w fun e w' => e = .returned (.bool true) ∧ Below w.heap.size w w' := by
  by_cases h : 300 < l.length ∨ (1000 < t.length ∧ t.length ≤ 65536) ∨ 66000 < t.length
  · exact fputs_early w h
  · by_cases h2 : t.length ≤ 1000
    · exact fputs_small w ha hb (by omega) h2
    · exact fputs_long w ha hb (by omega) (by omega) (by omega)
end Go.Proofs.Ytbgcofgckjdoiaa
