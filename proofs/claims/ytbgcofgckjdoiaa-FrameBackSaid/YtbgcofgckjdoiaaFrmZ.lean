/- WHAT IT HOLDS: lists of texts side by side; frame.All, walked. -/
import Derived.Test.YtbgcofgckjdoiaaFrmY
namespace Go.Proofs.Ytbgcofgckjdoiaa
open Go.RowKit
attribute [local go_sem ↓] Go.wp_at_zero Go.wp_at_succ

set_option maxRecDepth 100000 in
set_option maxHeartbeats 2000000 in
theorem lists_any (A : Option Addr) (c : Nat) (ps : List Pt) (B : Option Addr) (d : Nat) (qs : List Pt) (w : World) (hA : SlT w A c ps) (ha : ∀ x ∈ ps, SlB w x.1 x.2.1 x.2.2) (hB : SlT w B d qs) (hb : ∀ x ∈ qs, SlB w x.1 x.2.1 x.2.2) :
    Calls Try.prog 60 #[.slice A ps.length c, .slice B qs.length d] w fun e w' => e = .returned (.bool (decide (ptx ps = ptx qs))) ∧ Below w.heap.size w w' := by
  have hmax := hA.len_le
  unfold maxLen at hmax
  have hlp : (ptx ps).length = ps.length := by unfold ptx; simp
  have hlq : (ptx qs).length = qs.length := by unfold ptx; simp
  have HLP := Lib.hid hlp
  have HLQ := Lib.hid hlq
  have HA := Lib.hid ha
  have HB := Lib.hid hb
  by_cases hlen : ps.length = qs.length
  · have hne : ((ps.length : Int) != (qs.length : Int)) = false := by rw [bne_eq_false_iff_eq]; omega
    have HLEN := Lib.hid hlen
    clear hlp hlq ha hb hlen
    go_enter Try.func60, Try.ntmps60
    go_wp2_with fail
    go_loopw [13] (fun i wr => ∃ k : Nat, k ≤ ps.length ∧ i = .int .i64 k ∧ Hid ((ptx ps).take k = (ptx qs).take k) ∧ Below w.heap.size w wr) (fun i w => ps.length - (intOf i).toNat)
    case atStart => exact ⟨0, Nat.zero_le _, rfl, rfl, Below.refl _ _⟩
    case round =>
      obtain ⟨k, hk, rfl, hq, hbr⟩ := hrel
      by_cases hlt : k < ps.length
      · have hlt2 : k < qs.length := by have := HLEN.out; omega
        obtain ⟨ad, rfl, hc⟩ := (hA.below hbr).at1 hlt
        obtain ⟨ad2, rfl, hc2⟩ := (hB.below hbr).at1 hlt2
        have q1 := (HA.out ps[k] (List.getElem_mem hlt)).below hbr
        have q2 := (HB.out qs[k] (List.getElem_mem hlt2)).below hbr
        have hk1 : k < (ptx ps).length := by rw [HLP.out]; exact hlt
        have hk2 : k < (ptx qs).length := by rw [HLQ.out]; exact hlt2
        have e1 := ptx_get hk1 hlt
        have e2 := ptx_get hk2 hlt2
        have s1 := Lib.hid (show (ptx ps).take (k + 1) = (ptx ps).take k ++ [ps[k].2.2] from by rw [List.take_succ_eq_append_getElem hk1, e1])
        have s2 := Lib.hid (show (ptx qs).take (k + 1) = (ptx qs).take k ++ [qs[k].2.2] from by rw [List.take_succ_eq_append_getElem hk2, e2])
        clear e1 e2 hk1 hk2
        generalize ps[k] = x at *
        generalize qs[k] = y at *
        obtain ⟨xa, xc, xl⟩ := x
        obtain ⟨ya, yc, yl⟩ := y
        dsimp only at q1 q2 hc hc2 s1 s2
        have v1 := conv_strs (P := Try.prog) 40 9 5 Try.underlying40 Try.underlying5 Try.underlying9 q1 rfl
        have v2 := conv_strs (P := Try.prog) 40 9 5 Try.underlying40 Try.underlying5 Try.underlying9 q2 rfl
        by_cases he : xl = yl
        · have hbe : (xl == yl) = true := by rw [he]; simp
          have hbe2 : (yl == yl) = true := by simp
          have HE := Lib.hid he
          clear he q1 q2
          go_wp2
          go_quiet (fail)
          go_wp2
          go_roundw
          case rel => exact ⟨k + 1, hlt, by go_num, (show _ = _ from by rw [s1.out, s2.out, hq.out, HE.out]), below_drewN hbr _⟩
          case measure => simp [intOf]; omega
        · have hbe : (xl == yl) = false := by simp [he]
          have hd := Lib.hid (show decide (ptx ps = ptx qs) = false from decide_eq_false (fun e => by
            have h1 := s1.out
            have h2 := s2.out
            rw [e, h2, ← e] at h1
            rw [hq.out] at h1
            have := List.append_cancel_left h1
            simp at this
            exact he this.symm))
          clear he q1 q2
          go_wp2
          go_quiet (fail)
          go_wp2
          go_ret
          exact ⟨by rw [hd.out]; rfl, below_drewN hbr _⟩
      · have hd := Lib.hid (show decide (ptx ps = ptx qs) = true from decide_eq_true (by
          have := hq.out
          rwa [List.take_of_length_le (by rw [HLP.out]; omega), List.take_of_length_le (by rw [HLQ.out]; have := HLEN.out; omega)] at this))
        go_wp2
        go_ret
        exact ⟨by rw [hd.out]; rfl, hbr⟩
  · have hne : ((ps.length : Int) != (qs.length : Int)) = true := by rw [bne_iff_ne]; omega
    have hd := Lib.hid (show decide (ptx ps = ptx qs) = false from decide_eq_false (fun e => hlen (by rw [← hlp, ← hlq, e])))
    clear hlp hlq ha hb hlen
    go_enter Try.func60, Try.ntmps60
    go_wp2
    go_ret
    exact ⟨by rw [hd.out]; rfl, Below.refl _ _⟩

def fall (l : List UInt8) : List (List UInt8) := if (fpre l).2 = l.length then (fpre l).1 else []
/-- what All answers -/
def AllsB (w0 : World) (o : List (List UInt8)) (bad : Nat) (e : Ending) (w' : World) : Prop :=
  ∃ A c ps, e = .returned (.tuple #[.slice A (List.length ps) c, errv bad]) ∧ Hid (ptx ps = o) ∧ SlT w' A c ps ∧ (∀ x ∈ ps, SlB w' x.1 x.2.1 x.2.2 ∧ (x.2.2 ≠ [] → From w0.heap.size (x.1.map (·.block)))) ∧ From w0.heap.size (A.map (·.block)) ∧ Below w0.heap.size w0 w'
theorem fbad_ne {l : List UInt8} (h : (fpre l).2 ≠ l.length) : fbad l = (ftake (l.drop (fpre l).2)).2.2 ∧ fbad l ≠ 0 := by
  have h1 : fbad l = (ftake (l.drop (fpre l).2)).2.2 := by unfold fbad; rw [if_neg h]
  exact ⟨h1, by rw [h1]; exact (fpre_end _ l (Nat.le_refl _)).2⟩
set_option maxRecDepth 100000 in
set_option maxHeartbeats 2000000 in
theorem FAll_any (A : Option Addr) (c : Nat) (l : List UInt8) (w : World) (hs : SlB w A c l) (hl : l.length ≤ 1000000) :
    Calls Try.prog 58 #[.slice A l.length c] w (AllsB w (fall l) (fbad l)) := by
  have hc1 := hs.2.1
  have hle := (fpre_end _ l (Nat.le_refl _)).1
  go_enter Try.func58, Try.ntmps58
  go_wp2_with fail
  refine (FPrefix_any A c l _ hs hl).mono ?_
  rintro e w1 ⟨A1, c1, ps, rfl, hm1, hs1, ht1, hf1, hb1⟩
  by_cases heq : (fpre l).2 = l.length
  · have hf := Lib.hid (show fall l = (fpre l).1 from by unfold fall; rw [if_pos heq])
    have hfb := Lib.hid (show fbad l = 0 from by unfold fbad; rw [if_pos heq])
    have hq : ((((fpre l).2 : Nat) : Int) == (l.length : Int)) = true := by rw [beq_iff_eq]; omega
    generalize (fpre l).2 = q at *
    clear heq
    go_wp2_with fail
    go_ret2
    exact ⟨A1, c1, ps, by rw [hfb.out]; rfl, by rw [hf.out]; exact hm1, hs1, ht1, hf1, hb1⟩
  · have hf := Lib.hid (show fall l = [] from by unfold fall; rw [if_neg heq])
    obtain ⟨h1, h2⟩ := fbad_ne heq
    have hq : ((((fpre l).2 : Nat) : Int) == (l.length : Int)) = false := by rw [beq_eq_false_iff_ne]; omega
    have hlt : (fpre l).2 < l.length := by omega
    have hD := Sl.cutB (hs.below hb1) hle
    rw [show l.length - (fpre l).2 = (l.drop (fpre l).2).length from by simp, if_neg (show ¬ c = (fpre l).2 from by omega)] at hD
    have hdl : l.length - (fpre l).2 = (l.drop (fpre l).2).length := by simp
    have hac : (fpre l).2 ≤ c := by omega
    have hca : ¬ (c = (fpre l).2) := by omega
    have hrl := Lib.hid (show (l.drop (fpre l).2).length ≤ 1000000 from by simp; omega)
    generalize hr : l.drop (fpre l).2 = r at *
    have HB1 := Lib.hid h1
    clear hr h1
    generalize (fpre l).2 = q at *
    clear heq
    go_wp2_with fail
    refine (FTake_any (Option.map (fun x => x.add q) A) (c - q) r _ hD (by have := hrl.out; omega)).mono ?_
    rintro e w2 ⟨A2, c2, m2, rfl, hm2, ho2, hb2⟩
    generalize (ftake r).2.1 = z at *
    go_wp2_with fail
    go_ret2
    exact ⟨none, 0, [], by rw [HB1.out]; rfl, by rw [hf.out]; rfl, Sl.none_ _ _, (fun x hx => by simp at hx), (fun g hg => by simp at hg), bel_call hb1 hb2⟩
end Go.Proofs.Ytbgcofgckjdoiaa
