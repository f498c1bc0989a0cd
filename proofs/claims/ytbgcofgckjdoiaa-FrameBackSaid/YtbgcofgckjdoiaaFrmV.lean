/- WHAT IT HOLDS: the law FrameJoins, walked. -/
import Derived.Test.YtbgcofgckjdoiaaFrmJ
namespace Go.Proofs.Ytbgcofgckjdoiaa
open Go.RowKit
attribute [local go_sem ↓] Go.wp_at_zero Go.wp_at_succ

theorem sl_info : (Try.prog.info? 40).map (fun i => (i.zero, i.size, i.bytes)) = some (some (.slice none 0 0), 1, 24) := by kernel_rfl
theorem frms_le' {ts : List (List UInt8)} (h : ∀ t ∈ ts, t.length ≤ 300) : (frms ts).length ≤ 314 * ts.length := by
  induction ts with
  | nil => simp [frms]
  | cons t ts ih =>
    have h1 := h t (by simp)
    have h2 := ih (fun q hq => h q (by simp [hq]))
    have h3 := frm_len t
    have h4 := vb_le10 (n := t.length) (by omega)
    simp only [frms, List.flatMap_cons, List.length_append, List.length_cons] at h2 ⊢
    omega
/-- texts of the call's own -/
abbrev OwnT (w : World) (base : Nat) (A : Option Addr) (c : Nat) (ps : List Pt) : Prop := Own w base 40 1 A ps.length c (ps.map pv)
abbrev SlT (w : World) (A : Option Addr) (c : Nat) (ps : List Pt) : Prop := Sl w 1 A ps.length c (ps.map pv)
theorem one_pv (ps : List Pt) : ∀ u ∈ ps.map pv, u.oneCell' = true := by
  intro u hu
  simp only [List.mem_map] at hu
  obtain ⟨b, _, rfl⟩ := hu
  rfl
/-- append of texts -/
theorem wpl_texts {w : World} {ops : Array Oper} {rest : List Oper} {o : Oper} {a : Act} {Q : Exit → Act → World → Prop} (hgd : o.guard = none) (s x : Operand)
    (ho : o.op = .call { callee := .builtin .append, args := #[s, x], argTypes := #[83, 83] })
    (base : Nat) (A : Option Addr) (c : Nat) (l : List Pt) (hs : a.eval s = .slice A l.length c) (hown : OwnT w base A c l)
    (A2 : Option Addr) (c2 : Nat) (l2 : List Pt) (hx : a.eval x = .slice A2 l2.length c2) (hr : SlT w A2 c2 l2)
    (hlen : l.length + l2.length ≤ 100000) (hbase : base ≤ w.heap.size)
    (h : ∀ A' c' (m : List Pt) w', Hid (m = l ++ l2) → OwnT w' base A' c' m → Below base w w' → wpList Try.prog ops Q rest (a.put o.dst (.slice A' m.length c')) w') : wpList Try.prog ops Q (o :: rest) a w := by
  obtain ⟨i0, hi, hz0, hz1, hz2⟩ := info_parts sl_info
  refine wpl_append hgd s x 83 ho base 40 i0 (.slice none 0 0) 1 24 Try.underlying83 hi hz0 hz1 hz2 rfl (by decide) A l.length c (l.map pv) hs hown A2 l2.length c2 (l2.map pv) hx hr (one_pv l2) (by omega) (by simp only [maxLen]; omega) hbase ?_
  intro A' c' w' hap
  rw [← List.length_append]
  refine h A' c' (l ++ l2) w' rfl ?_ (hap.below hown hbase)
  have := hap.own
  simpa [OwnT] using this

set_option maxRecDepth 100000 in
set_option maxHeartbeats 4000000 in
theorem fjoins_walk {A B : Option Addr} {c d : Nat} {ps qs : List Pt} (w : World) (hA : SlT w A c ps) (ha : ∀ x ∈ ps, SlB w x.1 x.2.1 x.2.2) (hB : SlT w B d qs) (hb : ∀ x ∈ qs, SlB w x.1 x.2.1 x.2.2) (h1 : ps.length ≤ 20) (h2 : qs.length ≤ 20) :
    Calls Try.prog 11 #[.slice A ps.length c, .slice B qs.length d] w fun e w' => e = .returned (.bool true) ∧ Below w.heap.size w w' := by
  have k1 : ¬ (20 < (ps.length : Int)) := by omega
  have k2 : ¬ (20 < (qs.length : Int)) := by omega
  go_enter Try.func11, Try.ntmps11
  go_wp2_with fail
  refine (alive04_any _).mono ?_
  rintro e w1 ⟨rfl, hb1⟩
  go_wp2_with (at_builtin; first
    | (refine wpl_texts rfl _ _ rfl w1.heap.size A2 c2 p2 rfl ho2 B d qs rfl (hB.below (bel_call hb1 hb2)) (by have := hl2.out; omega) hb2.size ?_; intro A3 c3 p3 w3 hm3 ho3 hb3)
    | (refine wpl_texts rfl _ _ rfl w1.heap.size (some ⟨w1.heap.size, 0, none⟩) 0 [] rfl (Own.lit 1 (Nat.le_refl _)) A c ps rfl ((hA.below hb1).below (below_new _ _)) (by simp; omega) (by simp) ?_; intro A2 c2 p2 w2 hm2 ho2 hb2'; have hb2 := (below_new w1 (.cells #[] 40)).trans hb2'; have hl2 := Lib.hid (show p2.length ≤ 20 from by rw [hm2.out]; simpa using h1)))
  have hp3 := Lib.hid (show p3 = ps ++ qs from by rw [hm3.out, hm2.out]; rfl)
  have hw3 : Below w.heap.size w w3 := bel_call hb1 (hb2.trans hb3)
  have ha3 : ∀ x ∈ p3, SlB w3 x.1 x.2.1 x.2.2 := by
    intro x hx
    rw [hp3.out, List.mem_append] at hx
    rcases hx with hx | hx
    · exact (ha x hx).below hw3
    · exact (hb x hx).below hw3
  have hs3 := ho3.sl
  have hn3 : p3.length ≤ 40 := by rw [hp3.out, List.length_append]; omega
  clear ho2 ho3 hb2 hb2' hb3 hm2 hm3 hl2 hb1
  have HA := Lib.hid ha
  have HB := Lib.hid hb
  have HA3 := Lib.hid ha3
  clear ha hb ha3
  go_loopw [6, 32] (fun v i wr => ∃ k : Nat, k ≤ p3.length ∧ i = .int .i64 k ∧ v = .int .i64 ((frms ((ptx p3).take k)).length : Nat) ∧ Hid (∀ t ∈ (ptx p3).take k, t.length ≤ 300) ∧ w3 = wr) (fun v i w => p3.length - (intOf i).toNat)
  case atStart => exact ⟨0, Nat.zero_le _, rfl, rfl, (fun t ht => by simp at ht), rfl⟩
  case round =>
    obtain ⟨k, hk, rfl, rfl, hsm, rfl⟩ := hrel
    by_cases hlt : k < p3.length
    · obtain ⟨ad, rfl, hc⟩ := hs3.at1 hlt
      have q1 := HA3.out p3[k] (List.getElem_mem hlt)
      have hk2 : k < (ptx p3).length := by unfold ptx; simpa using hlt
      have hpk := ptx_get hk2 hlt
      have hsn := Lib.hid (congrArg List.length (frms_snoc hk2))
      have hle : Hid ((frms ((ptx p3).take k)).length ≤ 100000) := (show _ ≤ _ from by
        refine Nat.le_trans (Nat.le_trans (frms_le' hsm.out) (Nat.mul_le_mul_left 314 (show ((ptx p3).take k).length ≤ 40 from by simp; omega))) (by omega))
      have hnx : Hid (p3[k].2.2.length ≤ 300 → ∀ t ∈ (ptx p3).take (k + 1), t.length ≤ 300) := (show _ → _ from fun hq t ht => by
        rw [List.take_succ_eq_append_getElem hk2, List.mem_append] at ht
        rcases ht with ht | ht
        · exact hsm.out t ht
        · simp only [List.mem_singleton] at ht
          rw [ht, hpk]; exact hq)
      rw [hpk, List.length_append] at hsn
      clear hpk
      generalize p3[k] = x at *
      obtain ⟨xa, xc, xl⟩ := x
      dsimp only at q1 hc hsn hnx
      generalize (frms ((ptx p3).take k)).length = S at *
      by_cases hx : 300 < xl.length
      · have hxi : (300 : Int) < (xl.length : Int) := by omega
        go_wp2_with fail
        go_ret
        exact ⟨rfl, hw3⟩
      · have hxi : ¬ (300 : Int) < (xl.length : Int) := by omega
        go_wp2_with fail
        refine (FSize_any xa xc xl _ (by omega)).mono ?_
        rintro e w4 ⟨rfl, rfl⟩
        have hfl : (frm xl).length ≤ 400 := by
          have := vb_le10 (n := xl.length) (by omega)
          rw [frm_len]; omega
        have hS := hle.out
        generalize (frm xl).length = F at *
        go_wp2_with fail
        go_roundw
        case rel => exact ⟨k + 1, hlt, by go_num, by rw [hsn.out]; go_num, hnx.out (by omega), by trivial⟩
        case measure => simp [intOf]; omega
    · obtain rfl : k = p3.length := by omega
      have hall : ∀ t ∈ ptx p3, t.length ≤ 300 := by
        have := hsm.out
        rwa [List.take_of_length_le (by unfold ptx; simp)] at this
      have hSz : frms ((ptx p3).take p3.length) = frms (ptx p3) := by rw [List.take_of_length_le (by unfold ptx; simp)]
      rw [hSz]
      have hpa : ∀ x ∈ p3, x.2.2.length ≤ 300 := fun x hx => hall _ (by unfold ptx; exact List.mem_map.2 ⟨x, hx, rfl⟩)
      have hja := Lib.hid (show fjoin (ptx ps) = (frms (ptx ps), 0) from fjoin_ok (fun t ht => Nat.le_trans (hall t (by rw [hp3.out]; unfold ptx at ht ⊢; rw [List.map_append]; exact List.mem_append_left _ ht)) (by omega)))
      have hjb := Lib.hid (show fjoin (ptx qs) = (frms (ptx qs), 0) from fjoin_ok (fun t ht => Nat.le_trans (hall t (by rw [hp3.out]; unfold ptx at ht ⊢; rw [List.map_append]; exact List.mem_append_right _ ht)) (by omega)))
      have hjc := Lib.hid (show fjoin (ptx p3) = (frms (ptx p3), 0) from fjoin_ok (fun t ht => Nat.le_trans (hall t ht) (by omega)))
      have hcat := Lib.hid (show frms (ptx p3) = frms (ptx ps) ++ frms (ptx qs) from by rw [hp3.out]; unfold frms ptx; rw [List.map_append, List.flatMap_append])
      have HPA := Lib.hid hpa
      have h3a : ∀ x ∈ ps, SlB w3 x.1 x.2.1 x.2.2 ∧ x.2.2.length ≤ 70000 := fun x hx => ⟨(HA.out x hx).below hw3, Nat.le_trans (HPA.out x (by rw [hp3.out]; exact List.mem_append_left _ hx)) (by omega)⟩
      have h3b : ∀ x ∈ qs, SlB w3 x.1 x.2.1 x.2.2 ∧ x.2.2.length ≤ 70000 := fun x hx => ⟨(HB.out x hx).below hw3, Nat.le_trans (HPA.out x (by rw [hp3.out]; exact List.mem_append_right _ hx)) (by omega)⟩
      have h3c : ∀ x ∈ p3, SlB w3 x.1 x.2.1 x.2.2 ∧ x.2.2.length ≤ 70000 := fun x hx => ⟨HA3.out x hx, Nat.le_trans (HPA.out x hx) (by omega)⟩
      have H3A := Lib.hid h3a
      have H3B := Lib.hid h3b
      have H3C := Lib.hid h3c
      clear hall hSz hpa h3a h3b h3c hsm
      have hev : errv 0 = .nilIface := rfl
      go_wp2_with fail
      refine (FJoin_any A c ps _ (hA.below hw3) H3A.out (by omega)).mono ?_
      rintro e w4 ⟨A4, c4, m4, he, hm4, hs4, hb4⟩
      rw [hja.out] at he hm4
      dsimp only at he
      rw [hev] at he
      subst he
      go_wp2_with fail
      refine (FJoin_any B d qs _ ((hB.below hw3).below hb4) (fun x hx => ⟨(H3B.out x hx).1.below hb4, (H3B.out x hx).2⟩) (by omega)).mono ?_
      rintro e w5 ⟨A5, c5, m5, he, hm5, hs5, hb5⟩
      rw [hjb.out] at he hm5
      dsimp only at he
      rw [hev] at he
      subst he
      have hb45 : Below w3.heap.size w3 w5 := bel_call hb4 hb5
      go_wp2_with fail
      refine (FJoin_any A3 c3 p3 _ (hs3.below hb45) (fun x hx => ⟨(H3C.out x hx).1.below hb45, (H3C.out x hx).2⟩) (by omega)).mono ?_
      rintro e w6 ⟨A6, c6, m6, he, hm6, hs6, hb6⟩
      rw [hjc.out] at he hm6
      dsimp only at he
      rw [hev] at he
      subst he
      have hs4' := (hs4.below hb5).below hb6
      have hs5' := hs5.below hb6
      have hcc : m6 = m4 ++ m5 := by rw [hm6.out, hm4.out, hm5.out]; exact hcat.out
      have hlen : (m6.length : Int) = ((frms (ptx p3)).length : Int) := by rw [hm6.out]
      have hw6 := bel_call (bel_call hw3 hb45) hb6
      have e1 := conv_str (P := Try.prog) 40 9 5 Try.underlying40 Try.underlying5 Try.underlying9 hs4' rfl
      have e2 := conv_str (P := Try.prog) 40 9 5 Try.underlying40 Try.underlying5 Try.underlying9 hs5' rfl
      have e3 := conv_str (P := Try.prog) 40 9 5 Try.underlying40 Try.underlying5 Try.underlying9 hs6 rfl
      have hst : ((⟨m4.toArray⟩ : ByteArray) ++ (⟨m5.toArray⟩ : ByteArray)).toList = m6 := by rw [ByteArray.toList_eq, hcc]; simp
      have hov : ¬ 9223372036854775807 < m4.length + m5.length := by
        have h := hs6.len_le
        unfold maxLen at h
        rw [hcc, List.length_append] at h
        omega
      have HC := Lib.hid hcc
      clear hcc hs4 hs5 hs4' hs5' hs6 hs3 hA hB hb4 hb5 hb6 hb45 hm4 hm5 hm6
      go_wp2_with fail
      go_ret
      exact ⟨rfl, hw6⟩
theorem fjoins_all {A B : Option Addr} {c d : Nat} {ps qs : List Pt} (w : World) (hA : SlT w A c ps) (ha : ∀ x ∈ ps, SlB w x.1 x.2.1 x.2.2) (hB : SlT w B d qs) (hb : ∀ x ∈ qs, SlB w x.1 x.2.1 x.2.2) :
    Calls Try.prog 11 #[.slice A ps.length c, .slice B qs.length d] w fun e w' => e = .returned (.bool true) ∧ Below w.heap.size w w' := by
  by_cases h : 20 < ps.length ∨ 20 < qs.length
  · by_cases h1 : 20 < ps.length
    · have k1 : (20 : Int) < (ps.length : Int) := by omega
      have d1 : decide ((20 : Int) < (ps.length : Int)) = true := decide_eq_true k1
      clear h
      go_enter Try.func11, Try.ntmps11
      go_wp2_with fail
      refine (alive04_any _).mono ?_
      rintro e w1 ⟨rfl, hb1⟩
      go_wp2_with fail
      go_ret
      exact ⟨rfl, hb1⟩
    · have k1 : ¬ (20 : Int) < (ps.length : Int) := by omega
      have k2 : (20 : Int) < (qs.length : Int) := by omega
      have d1 : decide ((20 : Int) < (ps.length : Int)) = false := decide_eq_false k1
      have d2 : decide ((20 : Int) < (qs.length : Int)) = true := decide_eq_true k2
      clear h
      go_enter Try.func11, Try.ntmps11
      go_wp2_with fail
      refine (alive04_any _).mono ?_
      rintro e w1 ⟨rfl, hb1⟩
      go_wp2_with fail
      go_ret
      exact ⟨rfl, hb1⟩
  · exact fjoins_walk w hA ha hB hb (by omega) (by omega)
end Go.Proofs.Ytbgcofgckjdoiaa
