/- WHAT IT HOLDS: which manifests there are, walked. | WHAT IT HOLDS: Join of segments, walked. | WHAT IT HOLDS: Slice of segments, walked. | WHAT IT HOLDS: sums of bytes, plainly (no program): bit by bit, by the table, joined by exclusive or, and what they find. | WHAT IT HOLDS: sync.Once of one goroutine: its lock, its two deferred calls, and that Do calls a function once, then never again. | WHAT IT HOLDS: what the package crc computes, walked. | WHAT IT HOLDS: the sums of package crc, walked. -/
import Derived.Test.YtabnndjdkjkciaaGreatDoorCursorKeepsG13
import Derived.Test.YtabnndjdkjkciaaGreatDoorCursorKeepsG07
import Derived.Test.YtabnndjdkjkciaaGreatDoorCursorKeepsG04
import Derived.Test.YtabnndjdkjkciaaGreatDoorCursorKeepsG01
import Derived.Laws.BitsAllLaws
import Derived.Test.YtabnndjdkjkciaaGreatDoorRows
import Derived.Tactics
import Derived.Tactics2
import Derived.Defers
import Derived.Laws.Pointers
import Derived.Laws.LoneSync
import Derived.RegionTactic
import Derived.RegionCalls
import Derived.Deep.RegionHeld3
import Derived.Deep.DrawnRows
namespace Go.Proofs.YtabnndjdkjkciaaGreatDoor
open Go.RowKit
attribute [local go_sem ↓] Go.wp_at_zero Go.wp_at_succ

set_option maxRecDepth 100000 in
set_option maxHeartbeats 400000 in
theorem MIn_any (x m : Int) (w : World) : Calls Tryz.prog 116 #[.int .i64 x, .int .i64 m] w fun e w' => e = .returned (.bool (inb x m)) ∧ w = w' := by
  go_enter Tryz.func116, Tryz.ntmps116
  by_cases h : 0 ≤ x
  · have h2 : decide (0 ≤ x) = true := by simp [h]
    go_wp2_with fail
    go_ret
    exact ⟨by unfold inb; rw [h2]; rfl, rfl⟩
  · have h2 : decide (0 ≤ x) = false := by simp [h]
    go_wp2_with fail
    go_ret
    exact ⟨by unfold inb; rw [h2]; rfl, rfl⟩
theorem zeros : (#[.int .u8 0, .int .u8 0, .int .u8 0, .int .u8 0, .int .u8 0, .int .u8 0, .int .u8 0, .int .u8 0, .int .u8 0, .int .u8 0, .int .u8 0, .int .u8 0, .int .u8 0, .int .u8 0, .int .u8 0, .int .u8 0, .int .u8 0, .int .u8 0, .int .u8 0, .int .u8 0, .int .u8 0, .int .u8 0, .int .u8 0, .int .u8 0, .int .u8 0, .int .u8 0, .int .u8 0, .int .u8 0, .int .u8 0, .int .u8 0, .int .u8 0, .int .u8 0] : Array Value) = dga dg0 := rfl
set_option maxRecDepth 100000 in
set_option maxHeartbeats 1000000 in
theorem Zero_any (d : Dg) (w : World) : Calls Tryz.prog 117 #[.agg (dga d)] w fun e w' => e = .returned (.bool (decide (d = dg0))) ∧ Below w.heap.size w w' := by
  have hB := Blk.new w 26 (dga d)
  have hE := eql_dg d dg0
  rw [← zeros] at hE
  have hsz := Lib.hid (dga_size d)
  generalize decide (d = dg0) = zb at *
  generalize dga d = da at *
  go_enter Tryz.func117, Tryz.ntmps117
  go_wp2_with (refine wpl_loadG rfl 26 _ rfl _ da rfl hB.cells _ Tryz.underlying26 rfl (by rw [hsz.out]; kernel_rfl) ?_)
  go_ret
  exact ⟨rfl, below_new _ _⟩
theorem wrap_sub1 {m c : Int} (h : I64 m) (hc : 0 ≤ c) (hc2 : c ≤ 1000000) : inb (wrap64 (m - 1)) c = (decide (1 ≤ m) && decide (m ≤ c + 1)) := by
  unfold I64 at h
  obtain ⟨h1, h2⟩ := h
  unfold inb
  rw [Bool.eq_iff_iff]
  simp only [Bool.and_eq_true, decide_eq_true_eq, wrap64]
  omega
theorem ptchk_range {p : Pt5} {a : Int} (h : (decide (1 ≤ p.2.1) && decide (p.2.1 ≤ 63 + 1)) = false ∨ (decide (1 ≤ p.2.2.1) && decide (p.2.2.1 ≤ 65535 + 1)) = false) : ptchk p a = 1 := by
  unfold ptchk
  simp only [Bool.and_eq_false_iff, decide_eq_false_iff_not] at h
  rw [if_pos (by omega)]
theorem ptchk_at {p : Pt5} {a : Int} (h : (decide (1 ≤ p.2.1) && decide (p.2.1 ≤ 63 + 1)) = true) (h2 : (decide (1 ≤ p.2.2.1) && decide (p.2.2.1 ≤ 65535 + 1)) = true) : ptchk p a = if p.1 ≠ a then 2 else 0 := by
  unfold ptchk
  simp only [Bool.and_eq_true, decide_eq_true_eq] at h h2
  rw [if_neg (by omega)]
set_option maxRecDepth 100000 in
set_option maxHeartbeats 1000000 in
theorem PtCheck_any (p : Pt5) (a : Int) (h1 : I64 p.2.1) (h2 : I64 p.2.2.1) (w : World) :
    Calls Tryz.prog 118 #[.agg (pta p), .int .i64 a] w fun e w' => e = .returned (errv (ptchk p a)) ∧ Below w.heap.size w w' := by
  have hB := Blk.new w 28 (pta p)
  have hbw := below_new w (.cells (pta p) 28)
  have hI1 := wrap_sub1 h1 (c := 63) (by decide) (by decide)
  have hI2 := wrap_sub1 h2 (c := 65535) (by decide) (by decide)
  have hbad := fun h => Lib.hid (ptchk_range (p := p) (a := a) h)
  have hgood := fun h h2 => Lib.hid (ptchk_at (p := p) (a := a) h h2)
  generalize (decide (1 ≤ p.2.1) && decide (p.2.1 ≤ 63 + 1)) = b1 at *
  generalize (decide (1 ≤ p.2.2.1) && decide (p.2.2.1 ≤ 65535 + 1)) = b2 at *
  obtain ⟨c0, c1, c2⟩ := BlP.three hB
  obtain ⟨z1, hz1⟩ : ∃ z, wrap64 (p.2.1 - 1) = z := ⟨_, rfl⟩
  obtain ⟨z2, hz2⟩ : ∃ z, wrap64 (p.2.2.1 - 1) = z := ⟨_, rfl⟩
  have hw1 : IntKind.i64.wrap (p.2.1 - 1) = z1 := by rw [IntKind.wrap_i64]; simpa only [wrap64] using hz1
  have hw2 : IntKind.i64.wrap (p.2.2.1 - 1) = z2 := by rw [IntKind.wrap_i64]; simpa only [wrap64] using hz2
  have hC1 := fun W => MIn_any z1 63 W
  have hC2 := fun W => MIn_any z2 65535 W
  rw [hz1] at hI1
  rw [hz2] at hI2
  rw [hI1] at hC1
  rw [hI2] at hC2
  have HC1 := Lib.hid hC1
  have HC2 := Lib.hid hC2
  clear hC1 hC2 hI1 hI2 h1 h2 hB
  generalize pta p = pa at *
  go_enter Tryz.func118, Tryz.ntmps118
  go_wp2_with fail
  refine (HC1.out _).mono ?_
  rintro e w1 ⟨rfl, rfl⟩
  cases b1 with
  | false =>
    have hc := hbad (.inl rfl)
    clear hbad hgood
    go_wp2_with fail
    go_ret
    exact ⟨by rw [hc.out]; rfl, hbw⟩
  | true =>
    go_wp2_with fail
    refine (HC2.out _).mono ?_
    rintro e w1 ⟨rfl, rfl⟩
    cases b2 with
    | false =>
      have hc := hbad (.inr rfl)
      clear hbad hgood
      go_wp2_with fail
      go_ret
      exact ⟨by rw [hc.out]; rfl, hbw⟩
    | true =>
      have hg := hgood trivial rfl
      clear hbad hgood
      by_cases ha : p.1 = a
      · have hb : (p.1 != a) = false := by simp [ha]
        have hc : Hid (ptchk p a = 0) := (show _ = _ from by rw [hg.out, if_neg (by simp [ha])])
        clear hg ha
        go_wp2_with fail
        go_ret
        exact ⟨by rw [hc.out]; rfl, hbw⟩
      · have hb : (p.1 != a) = true := by simpa using ha
        have hc : Hid (ptchk p a = 2) := (show _ = _ from by rw [hg.out, if_pos ha])
        clear hg ha
        go_wp2_with fail
        go_ret
        exact ⟨by rw [hc.out]; rfl, hbw⟩
theorem mchk_range {m : Mf} (h : inb m.1 999999 = false ∨ inb m.2.1 1048576 = false ∨ inb m.2.2.1 1048576 = false ∨ inb m.2.2.2.1 1048576 = false) : mchk m = 1 := by
  unfold mchk
  rw [if_pos]
  rcases h with h | h | h | h <;> simp [h]
theorem mchk_form {m : Mf} (h1 : inb m.1 999999 = true) (h2 : inb m.2.1 1048576 = true) (h3 : inb m.2.2.1 1048576 = true) (h4 : inb m.2.2.2.1 1048576 = true) (h : m.2.2.1 < m.2.1 ∨ (m.1 = 0 ∧ decide (m.2.2.2.2.1 = dg0) = false)) : mchk m = 2 := by
  unfold mchk
  rw [if_neg (by simp [h1, h2, h3, h4]), if_pos]
  rcases h with h | ⟨h, h5⟩
  · simp [h]
  · rw [h, h5]; simp
theorem mchk_rest {m : Mf} (h1 : inb m.1 999999 = true) (h2 : inb m.2.1 1048576 = true) (h3 : inb m.2.2.1 1048576 = true) (h4 : inb m.2.2.2.1 1048576 = true) (h5 : ¬ m.2.2.1 < m.2.1) (h6 : m.1 = 0 → decide (m.2.2.2.2.1 = dg0) = true) :
    mchk m = if 1024 < m.2.2.2.2.2.length then 3 else pgo m.2.2.1 m.2.1 m.2.2.2.2.2 := by
  unfold mchk
  rw [if_neg (by simp [h1, h2, h3, h4]), if_neg]
  simp only [Bool.or_eq_true, Bool.and_eq_true, decide_eq_true_eq, beq_iff_eq, not_or, not_and]
  exact ⟨h5, fun h => by rw [h6 h]; simp⟩
/-- parts whose numbers are numbers -/
def PtsI (ps : List Pt5) : Prop := ∀ p ∈ ps, I64 p.1 ∧ I64 p.2.1 ∧ I64 p.2.2.1
theorem pgo_step {z a : Int} {l : List Pt5} {k : Nat} (hk : k < l.length) (h : ptchk l[k] a = 0) : pgo z a (l.drop k) = pgo z (a + l[k].2.1) (l.drop (k + 1)) := by
  rw [List.drop_eq_getElem_cons hk, pgo, if_neg (by rw [h]; simp)]
theorem pgo_stop {z a : Int} {l : List Pt5} {k : Nat} (hk : k < l.length) (h : ptchk l[k] a ≠ 0) : pgo z a (l.drop k) = ptchk l[k] a := by
  rw [List.drop_eq_getElem_cons hk, pgo, if_pos h]
set_option maxRecDepth 100000 in
set_option maxHeartbeats 4000000 in
theorem MCheck_any {A : Option Addr} {c : Nat} (n f t r : Int) (d : Dg) (ps : List Pt5) (w : World) (h : SlP w A c ps) (hI : PtsI ps) :
    Calls Tryz.prog 50 #[.agg (mfa n f t r d A ps.length c)] w fun e w' => e = .returned (errv (mchk (n, f, t, r, d, ps))) ∧ Below w.heap.size w w' := by
  have hB : BlM _ w.heap.size n f t r d A ps.length c := Blk.new w 57 (mfa n f t r d A ps.length c)
  have hbw := below_new w (.cells (mfa n f t r d A ps.length c) 57)
  have hmax := h.len_le
  unfold maxLen at hmax
  obtain ⟨b1, hb1⟩ : ∃ b, inb n 999999 = b := ⟨_, rfl⟩
  obtain ⟨b2, hb2⟩ : ∃ b, inb f 1048576 = b := ⟨_, rfl⟩
  obtain ⟨b3, hb3⟩ : ∃ b, inb t 1048576 = b := ⟨_, rfl⟩
  obtain ⟨b4, hb4⟩ : ∃ b, inb r 1048576 = b := ⟨_, rfl⟩
  have hC1 := fun W => MIn_any n 999999 W
  have hC2 := fun W => MIn_any f 1048576 W
  have hC3 := fun W => MIn_any t 1048576 W
  have hC4 := fun W => MIn_any r 1048576 W
  rw [hb1] at hC1
  rw [hb2] at hC2
  rw [hb3] at hC3
  rw [hb4] at hC4
  have HC1 := Lib.hid hC1
  have HC2 := Lib.hid hC2
  have HC3 := Lib.hid hC3
  have HC4 := Lib.hid hC4
  have HB1 := Lib.hid hb1
  have HB2 := Lib.hid hb2
  have HB3 := Lib.hid hb3
  have HB4 := Lib.hid hb4
  clear hb1 hb2 hb3 hb4 hC1 hC2 hC3 hC4
  obtain ⟨a0, a1, a2, a3, a4⟩ := BlM.five hB
  have hdg := Lib.hid hB.dg
  have hds := Lib.hid (dga_size d)
  go_enter Tryz.func50, Tryz.ntmps50
  go_wp2_with fail
  refine (HC1.out _).mono ?_
  rintro e w1 ⟨rfl, rfl⟩
  cases b1 with
  | false =>
    have HC := Lib.hid (mchk_range (m := (n, f, t, r, d, ps)) (.inl HB1.out))
    go_wp2_with fail
    go_ret
    exact ⟨by rw [HC.out]; rfl, hbw⟩
  | true =>
  go_wp2_with fail
  refine (HC2.out _).mono ?_
  rintro e w1 ⟨rfl, rfl⟩
  cases b2 with
  | false =>
    have HC := Lib.hid (mchk_range (m := (n, f, t, r, d, ps)) (.inr (.inl HB2.out)))
    go_wp2_with fail
    go_ret
    exact ⟨by rw [HC.out]; rfl, hbw⟩
  | true =>
  go_wp2_with fail
  refine (HC3.out _).mono ?_
  rintro e w1 ⟨rfl, rfl⟩
  cases b3 with
  | false =>
    have HC := Lib.hid (mchk_range (m := (n, f, t, r, d, ps)) (.inr (.inr (.inl HB3.out))))
    go_wp2_with fail
    go_ret
    exact ⟨by rw [HC.out]; rfl, hbw⟩
  | true =>
  go_wp2_with fail
  refine (HC4.out _).mono ?_
  rintro e w1 ⟨rfl, rfl⟩
  cases b4 with
  | false =>
    have HC := Lib.hid (mchk_range (m := (n, f, t, r, d, ps)) (.inr (.inr (.inr HB4.out))))
    go_wp2_with fail
    go_ret
    exact ⟨by rw [HC.out]; rfl, hbw⟩
  | true =>
  clear HC1 HC2 HC3 HC4
  by_cases c1 : t < f
  · have HC := Lib.hid (mchk_form (m := (n, f, t, r, d, ps)) HB1.out HB2.out HB3.out HB4.out (.inl c1))
    go_wp2_with fail
    go_ret
    exact ⟨by rw [HC.out]; rfl, hbw⟩
  by_cases c2 : n = 0
  · have hn0 : (n == 0) = true := by simpa using c2
    have hz := fun W => Zero_any d W
    obtain ⟨zb, hzb⟩ : ∃ b, decide (d = dg0) = b := ⟨_, rfl⟩
    rw [hzb] at hz
    have HZ := Lib.hid hz
    have HZB := Lib.hid hzb
    have HN0 := Lib.hid c2
    clear hz hzb c2
    go_wp2_with (refine wpl_loadG (by kernel_rfl) 26 _ rfl ⟨w.heap.size, 4, none⟩ (dga d) rfl hdg.out _ Tryz.underlying26 rfl (by rw [hds.out]; kernel_rfl) ?_)
    refine (HZ.out _).mono ?_
    rintro e w2 ⟨rfl, hb2⟩
    have hBm := hB.below hb2
    have hw := bel_call hbw hb2
    clear hB hbw hb2 a0 a1 a2 a3 a4
    cases zb with
    | false =>
      have HC := Lib.hid (mchk_form (m := (n, f, t, r, d, ps)) HB1.out HB2.out HB3.out HB4.out (.inr ⟨HN0.out, HZB.out⟩))
      go_wp2_with fail
      go_ret
      exact ⟨by rw [HC.out]; rfl, hw⟩
    | true =>
      have HM := Lib.hid (mchk_rest (m := (n, f, t, r, d, ps)) HB1.out HB2.out HB3.out HB4.out (by dsimp only; omega) (fun _ => HZB.out))
      obtain ⟨a0, a1, a2, a3, a4⟩ := BlM.five hBm
      dsimp only at HM
      clear HN0 HZ HZB
      by_cases hlen : 1024 < ps.length
      · have hlI : (1024 : Int) < (ps.length : Int) := by omega
        have HC := Lib.hid (show mchk (n, f, t, r, d, ps) = 3 from by rw [HM.out, if_pos hlen])
        clear hlen
        go_wp2_with fail
        go_ret
        exact ⟨by rw [HC.out]; rfl, hw⟩
      · have hlI : (ps.length : Int) ≤ 1024 := by omega
        have HM2 := Lib.hid (show mchk (n, f, t, r, d, ps) = pgo t f ps from by rw [HM.out, if_neg hlen])
        have hf2 := inb_iff.1 HB2.out
        obtain ⟨hf0, hf1⟩ := hf2
        clear hlen HM
        go_wp2_with fail
        go_loopw [60, 3] (fun x y wr => ∃ (k : Nat) (a : Int), k ≤ ps.length ∧ x = .int .i64 k ∧ y = .int .i64 a ∧ Hid (pgo t f ps = pgo t a (ps.drop k)) ∧ f ≤ a ∧ a ≤ f + 64 * k ∧ Below w.heap.size w wr ∧ BlM wr w.heap.size n f t r d A ps.length c) (fun x y w => ps.length - (intOf x).toNat)
        case atStart => exact ⟨0, f, Nat.zero_le _, rfl, rfl, (show _ = _ from by rw [List.drop_zero]), Int.le_refl _, by omega, hw, hBm⟩
        case round =>
          obtain ⟨k, a, hk, rfl, rfl, hp, ha0, ha1, hbr, hBr⟩ := hrel
          clear hw hBm a0 a1 a2 a3 a4
          obtain ⟨a0, a1, a2, a3, a4⟩ := BlM.five hBr
          by_cases hlt : k < ps.length
          · obtain ⟨ad, b, o, rfl, had, hcc⟩ := (h.below hbr).at hlt
            have hnx := Lib.hid (fun h0 => (pgo_step (z := t) (a := a) hlt h0))
            have hst := Lib.hid (fun h0 => (pgo_stop (z := t) (a := a) hlt h0))
            have hIp := hI _ (List.getElem_mem hlt)
            generalize ps[k] = p at *
            obtain ⟨_, hI1, hI2⟩ := hIp
            have hX := Blk.new wr 28 (pta p)
            obtain ⟨x0, x1, x2⟩ := BlP.three hX
            have hbx := below_new wr (.cells (pta p) 28)
            have hps := Lib.hid (pta_size p)
            have hpa := Lib.hid (pta_all p)
            have HCC := Lib.hid hcc
            clear hcc
            go_wp2_with (first | (refine wpl_loadG rfl 28 _ rfl ⟨b, o, none⟩ (pta p) rfl HCC.out _ Tryz.underlying28 rfl (by rw [hps.out]; kernel_rfl) ?_) | (refine wpl_storeN rfl 28 _ _ rfl _ (pta p) 28 rfl rfl (by rw [hps.out]; kernel_rfl) (by rw [hps.out]; rfl) hpa.out ?_) | (refine wpl_loadG rfl 28 _ rfl ⟨wr.heap.size, 0, none⟩ (pta p) rfl hX.cells _ Tryz.underlying28 rfl (by rw [hps.out]; kernel_rfl) ?_))
            have hXb := hX
            refine (PtCheck_any p a hI1 hI2 _).mono ?_
            rintro e w5 ⟨rfl, hb5⟩
            replace hXb := Blk.below hXb hb5
            have hn5 := bel_call (bel_call hbr hbx) hb5
            have hBn : BlM w5 w.heap.size n f t r d (some ad) ps.length c := Blk.below (Blk.below hBr hbx) hb5
            rcases errv_cases (ptchk p a) with ⟨h0, hev⟩ | ⟨q, hq, hqe, hev⟩
            · have hp2 := hnx.out h0
              obtain ⟨_, hm64, _, _, _⟩ := ptchk_ok h0
              have hm1 : 1 ≤ p.2.1 := (ptchk_ok h0).1
              have HP := Lib.hid (hp.out.trans hp2)
              rw [hev]
              clear hev h0 hp2 hnx hst hp x0 x1 x2 a0 a1 a2 a3 a4 hX hI1 hI2 hps hpa HCC
              obtain ⟨x0, x1, x2⟩ := BlP.three hXb
              have hwa : wrap64 (a + p.2.1) = a + p.2.1 := by simp only [wrap64]; omega
              have hwa2 : IntKind.i64.wrap (a + p.2.1) = a + p.2.1 := by rw [IntKind.wrap_i64]; omega
              go_wp2_with fail
              go_roundw
              case rel => exact ⟨k + 1, a + p.2.1, hlt, by go_num, rfl, HP, by omega, by omega, hn5, hBn⟩
              case measure => simp [intOf]; omega
            · have hp2 := hst.out (by omega)
              have HP := Lib.hid ((HM2.out.trans hp.out).trans hp2)
              have HEV := Lib.hid hev
              rw [hev]
              clear hev hqe hp2 hnx hst hp x0 x1 x2 a0 a1 a2 a3 a4 hX hI1 hI2 hps hpa HCC
              go_wp2_with fail
              go_ret
              exact ⟨by rw [HP.out, HEV.out]; rfl, hn5⟩
          · have hkn : ps.drop k = [] := List.drop_eq_nil_of_le (by omega)
            have HP := Lib.hid (show mchk (n, f, t, r, d, ps) = if a ≠ t then 2 else 0 from by rw [HM2.out, hp.out, hkn]; rfl)
            clear hp hkn
            by_cases hat : a = t
            · have hb : (a != t) = false := by simp [hat]
              have HC := Lib.hid (show mchk (n, f, t, r, d, ps) = 0 from by rw [HP.out, if_neg (by simp [hat])])
              clear HP hat
              go_wp2_with fail
              go_ret
              exact ⟨by rw [HC.out]; rfl, hbr⟩
            · have hb : (a != t) = true := by simpa using hat
              have HC := Lib.hid (show mchk (n, f, t, r, d, ps) = 2 from by rw [HP.out, if_pos hat])
              clear HP hat
              go_wp2_with fail
              go_ret
              exact ⟨by rw [HC.out]; rfl, hbr⟩
  · have hn0 : (n == 0) = false := by simpa using c2
    have HM := Lib.hid (mchk_rest (m := (n, f, t, r, d, ps)) HB1.out HB2.out HB3.out HB4.out (by dsimp only; omega) (fun h0 => absurd h0 c2))
    have hBm := hB
    have hw := hbw
    dsimp only at HM
    clear hB hbw c2
    by_cases hlen : 1024 < ps.length
    · have hlI : (1024 : Int) < (ps.length : Int) := by omega
      have HC := Lib.hid (show mchk (n, f, t, r, d, ps) = 3 from by rw [HM.out, if_pos hlen])
      clear hlen
      go_wp2_with fail
      go_ret
      exact ⟨by rw [HC.out]; rfl, hw⟩
    · have hlI : (ps.length : Int) ≤ 1024 := by omega
      have HM2 := Lib.hid (show mchk (n, f, t, r, d, ps) = pgo t f ps from by rw [HM.out, if_neg hlen])
      have hf2 := inb_iff.1 HB2.out
      obtain ⟨hf0, hf1⟩ := hf2
      clear hlen HM
      go_wp2_with fail
      go_loopw [60, 3] (fun x y wr => ∃ (k : Nat) (a : Int), k ≤ ps.length ∧ x = .int .i64 k ∧ y = .int .i64 a ∧ Hid (pgo t f ps = pgo t a (ps.drop k)) ∧ f ≤ a ∧ a ≤ f + 64 * k ∧ Below w.heap.size w wr ∧ BlM wr w.heap.size n f t r d A ps.length c) (fun x y w => ps.length - (intOf x).toNat)
      case atStart => exact ⟨0, f, Nat.zero_le _, rfl, rfl, (show _ = _ from by rw [List.drop_zero]), Int.le_refl _, by omega, hw, hBm⟩
      case round =>
        obtain ⟨k, a, hk, rfl, rfl, hp, ha0, ha1, hbr, hBr⟩ := hrel
        clear hw hBm a0 a1 a2 a3 a4
        obtain ⟨a0, a1, a2, a3, a4⟩ := BlM.five hBr
        by_cases hlt : k < ps.length
        · obtain ⟨ad, b, o, rfl, had, hcc⟩ := (h.below hbr).at hlt
          have hnx := Lib.hid (fun h0 => (pgo_step (z := t) (a := a) hlt h0))
          have hst := Lib.hid (fun h0 => (pgo_stop (z := t) (a := a) hlt h0))
          have hIp := hI _ (List.getElem_mem hlt)
          generalize ps[k] = p at *
          obtain ⟨_, hI1, hI2⟩ := hIp
          have hX := Blk.new wr 28 (pta p)
          obtain ⟨x0, x1, x2⟩ := BlP.three hX
          have hbx := below_new wr (.cells (pta p) 28)
          have hps := Lib.hid (pta_size p)
          have hpa := Lib.hid (pta_all p)
          have HCC := Lib.hid hcc
          clear hcc
          go_wp2_with (first | (refine wpl_loadG rfl 28 _ rfl ⟨b, o, none⟩ (pta p) rfl HCC.out _ Tryz.underlying28 rfl (by rw [hps.out]; kernel_rfl) ?_) | (refine wpl_storeN rfl 28 _ _ rfl _ (pta p) 28 rfl rfl (by rw [hps.out]; kernel_rfl) (by rw [hps.out]; rfl) hpa.out ?_) | (refine wpl_loadG rfl 28 _ rfl ⟨wr.heap.size, 0, none⟩ (pta p) rfl hX.cells _ Tryz.underlying28 rfl (by rw [hps.out]; kernel_rfl) ?_))
          have hXb := hX
          refine (PtCheck_any p a hI1 hI2 _).mono ?_
          rintro e w5 ⟨rfl, hb5⟩
          replace hXb := Blk.below hXb hb5
          have hn5 := bel_call (bel_call hbr hbx) hb5
          have hBn : BlM w5 w.heap.size n f t r d (some ad) ps.length c := Blk.below (Blk.below hBr hbx) hb5
          rcases errv_cases (ptchk p a) with ⟨h0, hev⟩ | ⟨q, hq, hqe, hev⟩
          · have hp2 := hnx.out h0
            obtain ⟨_, hm64, _, _, _⟩ := ptchk_ok h0
            have hm1 : 1 ≤ p.2.1 := (ptchk_ok h0).1
            have HP := Lib.hid (hp.out.trans hp2)
            rw [hev]
            clear hev h0 hp2 hnx hst hp x0 x1 x2 a0 a1 a2 a3 a4 hX hI1 hI2 hps hpa HCC
            obtain ⟨x0, x1, x2⟩ := BlP.three hXb
            have hwa : wrap64 (a + p.2.1) = a + p.2.1 := by simp only [wrap64]; omega
            have hwa2 : IntKind.i64.wrap (a + p.2.1) = a + p.2.1 := by rw [IntKind.wrap_i64]; omega
            go_wp2_with fail
            go_roundw
            case rel => exact ⟨k + 1, a + p.2.1, hlt, by go_num, rfl, HP, by omega, by omega, hn5, hBn⟩
            case measure => simp [intOf]; omega
          · have hp2 := hst.out (by omega)
            have HP := Lib.hid ((HM2.out.trans hp.out).trans hp2)
            have HEV := Lib.hid hev
            rw [hev]
            clear hev hqe hp2 hnx hst hp x0 x1 x2 a0 a1 a2 a3 a4 hX hI1 hI2 hps hpa HCC
            go_wp2_with fail
            go_ret
            exact ⟨by rw [HP.out, HEV.out]; rfl, hn5⟩
        · have hkn : ps.drop k = [] := List.drop_eq_nil_of_le (by omega)
          have HP := Lib.hid (show mchk (n, f, t, r, d, ps) = if a ≠ t then 2 else 0 from by rw [HM2.out, hp.out, hkn]; rfl)
          clear hp hkn
          by_cases hat : a = t
          · have hb : (a != t) = false := by simp [hat]
            have HC := Lib.hid (show mchk (n, f, t, r, d, ps) = 0 from by rw [HP.out, if_neg (by simp [hat])])
            clear HP hat
            go_wp2_with fail
            go_ret
            exact ⟨by rw [HC.out]; rfl, hbr⟩
          · have hb : (a != t) = true := by simpa using hat
            have HC := Lib.hid (show mchk (n, f, t, r, d, ps) = 2 from by rw [HP.out, if_pos hat])
            clear HP hat
            go_wp2_with fail
            go_ret
            exact ⟨by rw [HC.out]; rfl, hbr⟩
end Go.Proofs.YtabnndjdkjkciaaGreatDoor

namespace Go.Proofs.YtabnndjdkjkciaaGreatDoor
open Go.RowKit
attribute [local go_sem ↓] Go.wp_at_zero Go.wp_at_succ

section
variable {w W W' : World} {f fb : Int} {E G : Option Addr} {n cap n2 cap2 : Nat}
end

end Go.Proofs.YtabnndjdkjkciaaGreatDoor

namespace Go.Proofs.YtabnndjdkjkciaaGreatDoor
open Go.RowKit
attribute [local go_sem ↓] Go.wp_at_zero Go.wp_at_succ

end Go.Proofs.YtabnndjdkjkciaaGreatDoor

namespace Go.Proofs.YtabnndjdkjkciaaGreatDoor
open Go.RowKit

abbrev W32 := BitVec 32
def P32 : W32 := 2197175160#32
/-- one bit -/
def st1 (x : W32) : W32 := (x >>> 1) ^^^ (if x.getLsbD 0 then P32 else 0#32)
/-- that often -/
def stn : Nat → W32 → W32
  | 0, x => x
  | n + 1, x => stn n (st1 x)
def st8 (x : W32) : W32 := stn 8 x
def bw (b : UInt8) : W32 := BitVec.ofNat 32 b.toNat
def crcS (x : W32) (l : List UInt8) : W32 := l.foldl (fun x b => st8 (x ^^^ bw b)) x
/-- the sum of more bytes -/
def extW (s : W32) (l : List UInt8) : W32 := ~~~ crcS (~~~ s) l
def sumW (l : List UInt8) : W32 := extW 0#32 l
def four (x : W32) : List UInt8 := [UInt8.ofNat (x.toNat / 16777216), UInt8.ofNat (x.toNat / 65536 % 256), UInt8.ofNat (x.toNat / 256 % 256), UInt8.ofNat (x.toNat % 256)]

theorem st1_xor (x y : W32) : st1 (x ^^^ y) = st1 x ^^^ st1 y := by
  unfold st1
  apply BitVec.eq_of_getLsbD_eq
  intro i hi
  simp only [BitVec.getLsbD_xor, BitVec.getLsbD_ushiftRight]
  cases x.getLsbD 0 <;> cases y.getLsbD 0 <;> simp [Bool.xor_comm, Bool.xor_left_comm]
theorem stn_xor (n : Nat) : ∀ x y, stn n (x ^^^ y) = stn n x ^^^ stn n y := by
  induction n with
  | zero => intro x y; rfl
  | succ n ih => intro x y; simp only [stn, st1_xor, ih]
theorem st1_shl (y : W32) (h : y.getLsbD 31 = false) : st1 (y <<< 1) = y := by
  unfold st1
  apply BitVec.eq_of_getLsbD_eq
  intro i hi
  simp only [BitVec.getLsbD_xor, BitVec.getLsbD_ushiftRight, BitVec.getLsbD_shiftLeft]
  by_cases h1 : i = 31
  · subst h1
    have h' : y[31] = false := by rw [← BitVec.getLsbD_eq_getElem]; exact h
    simp [h']
  · have : 1 + i < 32 := by omega
    simp [this]
theorem stn_shl (n : Nat) : ∀ (y : W32), y.toNat * 2 ^ n < 2 ^ 32 → stn n (y <<< n) = y := by
  induction n with
  | zero => intro y _; simp [stn]
  | succ n ih =>
    intro y h
    rw [stn, BitVec.shiftLeft_add, st1_shl]
    · refine ih y ?_
      refine Nat.lt_of_le_of_lt ?_ h
      exact Nat.mul_le_mul_left _ (Nat.pow_le_pow_right (by decide) (by omega))
    · rw [BitVec.getLsbD_eq_getElem (by omega), BitVec.getElem_eq_testBit_toNat] <;> try omega
      rw [BitVec.toNat_shiftLeft, Nat.shiftLeft_eq]
      have h2 : y.toNat * 2 ^ n < 2 ^ 31 := by rw [Nat.pow_succ, ← Nat.mul_assoc] at h; omega
      rw [Nat.mod_eq_of_lt (by omega)]
      exact Nat.testBit_lt_two_pow h2

theorem bw_toNat (b : UInt8) : (bw b).toNat = b.toNat := by
  have := b.toNat_lt
  unfold bw
  rw [BitVec.toNat_ofNat]
  omega
theorem by_table (x : W32) (c : UInt8) : st8 (x ^^^ bw c) = st8 (BitVec.ofNat 32 ((x.toNat % 256) ^^^ c.toNat)) ^^^ (x >>> 8) := by
  have hx := x.isLt
  have hy : (x >>> 8).toNat * 2 ^ 8 < 2 ^ 32 := by
    rw [BitVec.toNat_ushiftRight, Nat.shiftRight_eq_div_pow]
    omega
  have h1 : x ^^^ bw c = BitVec.ofNat 32 ((x.toNat % 256) ^^^ c.toNat) ^^^ ((x >>> 8) <<< 8) := by
    apply BitVec.eq_of_getLsbD_eq
    intro i hi
    have hc := c.toNat_lt
    simp only [bw, BitVec.getLsbD_xor, BitVec.getLsbD_ofNat, BitVec.getLsbD_shiftLeft, BitVec.getLsbD_ushiftRight, Nat.testBit_xor, hi, decide_true, Bool.true_and]
    rw [show (256 : Nat) = 2 ^ 8 from rfl, Nat.testBit_mod_two_pow]
    by_cases h : i < 8
    · simp [h, BitVec.testBit_toNat]
    · have h8 : 8 + (i - 8) = i := by omega
      have : c.toNat.testBit i = false := Nat.testBit_lt_two_pow (Nat.lt_of_lt_of_le hc (Nat.pow_le_pow_right (by decide) (by omega : 8 ≤ i)))
      simp [h, h8, this]
  rw [h1]
  unfold st8
  rw [stn_xor, stn_shl 8 _ hy]

/- values -/
/-- a word as a number, behind a name (the walk's simp would look into it) -/
def wn (x : W32) : Int := (x.toNat : Int)
abbrev wv (x : W32) : Value := .int .u32 (wn x)
theorem and_one (x : W32) : bits .and .u32 (wn x) 1 = ((if x.getLsbD 0 then 1 else 0 : Nat) : Int) := by
  unfold wn
  rw [show (1 : Int) = ((1 : Nat) : Int) from rfl, u32_and_nat _ _ x.isLt (by decide), nat_mask1]
  congr 1
  have : x.getLsbD 0 = decide (x.toNat % 2 = 1) := by rw [← BitVec.testBit_toNat, Nat.testBit_zero]
  rw [this]
  by_cases h : x.toNat % 2 = 1
  · simp [h]
  · simp [h]; omega
theorem xor_wn (x y : W32) : bits .xor .u32 (wn x) (wn y) = wn (x ^^^ y) := by
  unfold wn; rw [u32_xor_nat _ _ x.isLt y.isLt, BitVec.toNat_xor]
theorem shr_wn (x : W32) (k : Nat) : wn x / ((2 ^ k : Nat) : Int) = wn (x >>> k) := by
  unfold wn; rw [BitVec.toNat_ushiftRight, Nat.shiftRight_eq_div_pow]; rfl
theorem xor_P (y : W32) : bits .xor .u32 (wn y) 2197175160 = wn (y ^^^ P32) := xor_wn y P32
theorem half_wn (y : W32) : HDiv.hDiv (α := Int) (β := Int) (wn y) (2 : Int) = wn (y >>> 1) := shr_wn y 1
theorem not_wn (x : W32) : bits .xor .u32 4294967295 (wn x) = wn (~~~ x) := by
  have := xor_wn (BitVec.allOnes 32) x
  rw [BitVec.allOnes_xor] at this
  exact this
theorem mod_wn (y : W32) : HMod.hMod (α := Int) (β := Int) (wn y) (256 : Int) = ((y.toNat % 256 : Nat) : Int) := by
  unfold wn; omega
theorem xor_u8 {a b : Nat} (ha : a < 256) (hb : b < 256) : bits .xor .u8 (a : Int) (b : Int) = ((a ^^^ b : Nat) : Int) := u8_xor_nat a b ha hb
theorem shr8_wn (y : W32) : HDiv.hDiv (α := Int) (β := Int) (wn y) (256 : Int) = wn (y >>> 8) := shr_wn y 8
theorem crcS_drop {l : List UInt8} {k : Nat} (hk : k < l.length) (y : W32) : crcS y (l.drop k) = crcS (st8 (y ^^^ bw l[k])) (l.drop (k + 1)) := by
  rw [List.drop_eq_getElem_cons hk]; rfl
theorem wrap_ofNat {k : Nat} (_h : k < 256) : IntKind.u32.wrap (k : Int) = wn (BitVec.ofNat 32 k) := by
  unfold wn; rw [IntKind.wrap_u32, BitVec.toNat_ofNat]; omega
end Go.Proofs.YtabnndjdkjkciaaGreatDoor

namespace Go.Proofs.YtabnndjdkjkciaaGreatDoor
open Go.RowKit

theorem race_disable (w : World) : (callFunc 261 #[]).run Tryz.prog w = .ok (.value (.tuple #[])) w := run_call_mark0 Tryz.func261 (by kernel_rfl) (by kernel_rfl) (by kernel_rfl) .disable (by kernel_rfl) w
theorem race_enable (w : World) : (callFunc 263 #[]).run Tryz.prog w = .ok (.value (.tuple #[])) w := run_call_mark0 Tryz.func263 (by kernel_rfl) (by kernel_rfl) (by kernel_rfl) .enable (by kernel_rfl) w
theorem race_acquire (a : Addr) (w : World) : (callFunc 264 #[.pointer (some a)]).run Tryz.prog w = .ok (.value (.tuple #[])) w := run_call_marked Tryz.func264 (by kernel_rfl) (by kernel_rfl) (by kernel_rfl) .acquire (by kernel_rfl) a w
theorem race_merge (a : Addr) (w : World) : (callFunc 266 #[.pointer (some a)]).run Tryz.prog w = .ok (.value (.tuple #[])) w := run_call_marked Tryz.func266 (by kernel_rfl) (by kernel_rfl) (by kernel_rfl) .releaseMerge (by kernel_rfl) a w

/-- '(*sync/atomic.Bool).Store(true)', entered as a deferred call: the cell holds 1. -/
theorem once_store (a : Addr) (x : Value) (u : FrameMode) (w : World) (hc : w.cell? a = some x) (hz : w.frozen? a = false) :
    CallsD Tryz.prog 254 #[.pointer (some a), .bool true] u w fun e u' w' => u' = u ∧ (e = .returned (.tuple #[]) ∧ w' = w.drew.setCell a (.int .u32 1)) := by
  have hc' : w.drew.cell? a = some x := by go_simp
  have hz' : w.drew.frozen? a = false := by go_simp
  have hst := run_call_store (P := Tryz.prog) Tryz.func259 (by kernel_rfl) (by kernel_rfl) (by kernel_rfl) (by kernel_rfl) (k := .u32) (y := 1) hc' hz'
  go_enter_d Tryz.func254, Tryz.ntmps254
  go_wp2
  go_region_calls
  all_goals (go_end0; exact ⟨rfl, rfl⟩)

set_option maxRecDepth 100000 in
set_option maxHeartbeats 1600000 in
/-- '(*sync.Mutex).Unlock', entered as a deferred call, the lock held and nobody waiting (state 1): state 0. -/
theorem once_unlock (a : Addr) (u : FrameMode) (w : World) (hc : w.cell? a = some (.int .i32 1)) (hz : w.frozen? a = false) :
    CallsD Tryz.prog 253 #[.pointer (some a)] u w fun e u' w' => u' = u ∧ (e = .returned (.tuple #[]) ∧ w' = w.setCell a (.int .i32 0)) := by
  have hd := race_disable
  have he := race_enable
  have hr := race_merge
  have hadd := run_call_add (P := Tryz.prog) Tryz.func267 (by kernel_rfl) (by kernel_rfl) (by kernel_rfl) .i32 (by kernel_rfl) (y := -1) (s := 0) hc hz (by simp [go_sem]; rfl)
  have hcv := run_convert_to_unsafe (P := Tryz.prog) (src := 357) (dst := 361) Tryz.underlying357 Tryz.underlying361 (by kernel_rfl) hc
  go_enter_d Tryz.func253, Tryz.ntmps253
  go_wp2
  go_end0
  go_wp2
  go_end0
  exact ⟨rfl, rfl⟩

set_option maxRecDepth 100000 in
set_option maxHeartbeats 1600000 in
/-- '(*sync.Mutex).Lock', the lock free (state 0): state 1. -/
theorem once_lock (a : Addr) (w : World) (hc : w.cell? a = some (.int .i32 0)) (hz : w.frozen? a = false) :
    Calls Tryz.prog 252 #[.pointer (some a)] w fun e w' => e = .returned (.tuple #[]) ∧ w' = w.setCell a (.int .i32 1) := by
  have hd := race_disable
  have he := race_enable
  have ha := race_acquire
  have hcas := run_call_cas_hit (P := Tryz.prog) Tryz.func262 (by kernel_rfl) (by kernel_rfl) (by kernel_rfl) .i32 (by kernel_rfl) (y := 1) hc hz
  have hc' : (w.setCell a (.int .i32 1)).cell? a = some (.int .i32 1) := World.cell?_setCell_same w a _ hc
  have hcv := run_convert_to_unsafe (P := Tryz.prog) (src := 357) (dst := 361) Tryz.underlying357 Tryz.underlying361 (by kernel_rfl) hc'
  go_enter Tryz.func252, Tryz.ntmps252
  go_wp2
  first | go_end0 | (simp only [Exit.inBlock, Exit.then]; refine bodyPost_ret (results_none rfl _ _ _) rfl ?_) | refine bodyPost_ret (results_none rfl _ _ _) rfl ?_
  go_wp2
  go_end0
  exact ⟨rfl, rfl⟩
end Go.Proofs.YtabnndjdkjkciaaGreatDoor

namespace Go.Proofs.YtabnndjdkjkciaaGreatDoor
open Go.RowKit

set_option maxRecDepth 100000 in
set_option maxHeartbeats 1000000 in
theorem step_any (x : W32) (w : World) : Calls Tryz.prog 243 #[wv x] w fun e w' => e = .returned (wv (st8 x)) ∧ w = w' := by
  go_enter Tryz.func243, Tryz.ntmps243
  go_wp2
  go_loopw [0, 4] (fun v i wr => ∃ (k : Nat) (y : W32), k ≤ 8 ∧ i = .int .i64 k ∧ v = wv y ∧ Hid (st8 x = stn (8 - k) y) ∧ w = wr) (fun v i w => 8 - (intOf i).toNat)
  case atStart => exact ⟨0, x, by omega, rfl, rfl, rfl, rfl⟩
  case round =>
    obtain ⟨k, y, hk, rfl, rfl, hy, rfl⟩ := hrel
    by_cases h8 : k < 8
    · have hst : stn (8 - k) y = stn (8 - (k + 1)) (st1 y) := by rw [show 8 - k = (8 - (k + 1)) + 1 from by omega]; rfl
      cases hb : y.getLsbD 0
      · have e0 := and_one y
        rw [hb] at e0
        simp only [Bool.false_eq_true, if_false] at e0
        have hs : st1 y = y >>> 1 := by unfold st1; rw [hb]; simp
        have HS := Lib.hid hs
        have HT := Lib.hid hst
        clear hs hst hb
        go_wp2
        go_roundw
        case rel => exact ⟨k + 1, y >>> 1, h8, by go_num, congrArg (Value.int .u32) (half_wn y), (show st8 x = _ from by rw [hy.out, HT.out, HS.out]), by trivial⟩
        case measure => simp [intOf]; omega
      · have e0 := and_one y
        rw [hb] at e0
        simp only [if_true] at e0
        have hs : st1 y = (y >>> 1) ^^^ P32 := by unfold st1; rw [hb]; simp
        have HS := Lib.hid hs
        have HT := Lib.hid hst
        clear hs hst hb
        go_wp2
        go_roundw
        case rel => exact ⟨k + 1, (y >>> 1) ^^^ P32, h8, by go_num, congrArg (Value.int .u32) (by rw [half_wn, xor_P]), (show st8 x = _ from by rw [hy.out, HT.out, HS.out]), by trivial⟩
        case measure => simp [intOf]; omega
    · obtain rfl : k = 8 := by omega
      go_wp2
      go_ret
      exact ⟨by rw [hy.out]; rfl, rfl⟩
/-- a maker at block g: d: is its table made · n: how many sums were asked for · k: how many of the table's rows are made -/
def Mk (w : World) (g : Nat) (d s : Int) (n : Int) (k : Nat) : Prop := ∃ cs : Array Value, Blk w g 286 cs ∧ cs.size = 260 ∧ cs[0]? = some (.int .u32 d) ∧ cs[1]? = some (.int .i32 s) ∧ cs[259]? = some (.int .i64 n) ∧
  (∀ i, i < 256 → ∃ v, cs[3 + i]? = some v) ∧ ∀ i, i < k → cs[3 + i]? = some (wv (st8 (BitVec.ofNat 32 i)))

theorem zero_rows : (List.range 256).all (fun i => (Tryz.zeroCells286[3 + i]?).isSome) = true := by kernel_rfl
theorem zero_mk : Tryz.zeroCells286.size = 260 ∧ Tryz.zeroCells286[0]? = some (.int .u32 0) ∧ Tryz.zeroCells286[1]? = some (.int .i32 0) ∧ Tryz.zeroCells286[259]? = some (.int .i64 0) ∧
    (∀ i, i < 256 → ∃ v, Tryz.zeroCells286[3 + i]? = some v) ∧ ∀ i, i < 0 → Tryz.zeroCells286[3 + i]? = some (wv (st8 (BitVec.ofNat 32 i))) :=
  ⟨by kernel_rfl, by kernel_rfl, by kernel_rfl, by kernel_rfl, fun i hi => Option.isSome_iff_exists.1 (List.all_eq_true.1 zero_rows i (List.mem_range.2 hi)), fun i hi => absurd hi (by omega)⟩
set_option maxRecDepth 100000 in
set_option maxHeartbeats 1000000 in
theorem CrcNew_any (w : World) : Calls Tryz.prog 122 #[] w fun e w' => e = .returned (.pointer (some ⟨w.heap.size, 0, none⟩)) ∧ Mk w' w.heap.size 0 0 0 0 ∧ Below w.heap.size w w' := by
  go_enter Tryz.func122, Tryz.ntmps122
  go_wp2
  go_ret
  refine ⟨rfl, ⟨_, Blk.new _ _ _, ?_⟩, below_new _ _⟩
  exact zero_mk
theorem Mk.lt {w : World} {g k : Nat} {d s n : Int} (h : Mk w g d s n k) : g < w.heap.size := by obtain ⟨cs, hB, _⟩ := h; exact hB.lt
/-- a store into the table -/
theorem Mk.row {w : World} {g k : Nat} {d s n : Int} (h : Mk w g d s n k) (hk : k < 256) : Mk (w.setCell ⟨g, 3 + k, none⟩ (wv (st8 (BitVec.ofNat 32 k)))) g d s n (k + 1) := by
  obtain ⟨cs, hB, hs, h0, h1, h9, hr, ht⟩ := h
  refine ⟨_, hB.set_ _ _, by simpa using hs, ?_, ?_, ?_, ?_, ?_⟩
  · rw [Array.getElem?_setIfInBounds_ne (by omega)]; exact h0
  · rw [Array.getElem?_setIfInBounds_ne (by omega)]; exact h1
  · rw [Array.getElem?_setIfInBounds_ne (by omega)]; exact h9
  · intro i hi
    by_cases he : k = i
    · subst he; exact ⟨_, Array.getElem?_setIfInBounds_self_of_lt (by omega)⟩
    · rw [Array.getElem?_setIfInBounds_ne (by omega)]; exact hr i hi
  · intro i hi
    by_cases he : k = i
    · subst he; exact Array.getElem?_setIfInBounds_self_of_lt (by omega)
    · rw [Array.getElem?_setIfInBounds_ne (by omega)]; exact ht i (by omega)
theorem Mk.drew {w : World} {g k : Nat} {d s n : Int} (h : Mk w g d s n k) : Mk w.drew g d s n k := h
theorem Mk.cell {w : World} {g k : Nat} {d s n : Int} (h : Mk w g d s n k) : w.cell? ⟨g, 0, none⟩ = some (.int .u32 d) ∧ w.cell? ⟨g, 1, none⟩ = some (.int .i32 s) ∧ w.cell? ⟨g, 259, none⟩ = some (.int .i64 n) ∧ w.frozen? ⟨g, 0, none⟩ = false ∧ w.frozen? ⟨g, 1, none⟩ = false ∧ w.frozen? ⟨g, 259, none⟩ = false ∧
    (∀ i, i < 256 → ∃ v, w.cell? ⟨g, 3 + i, none⟩ = some v) ∧ (∀ i, w.frozen? ⟨g, i, none⟩ = false) := by
  obtain ⟨cs, hB, hs, h0, h1, h9, hr, ht⟩ := h
  exact ⟨(hB.cell 0).trans h0, (hB.cell 1).trans h1, (hB.cell 259).trans h9, hB.frozen 0, hB.frozen 1, hB.frozen 259, fun i hi => (hr i hi).imp fun v hv => (hB.cell _).trans hv, fun i => hB.frozen i⟩
theorem Mk.at {w : World} {g k : Nat} {d s n : Int} (h : Mk w g d s n k) {i : Nat} (hi : i < k) : w.cell? ⟨g, 3 + i, none⟩ = some (wv (st8 (BitVec.ofNat 32 i))) := by
  obtain ⟨cs, hB, hs, h0, h1, h9, hr, ht⟩ := h
  exact (hB.cell _).trans (ht i hi)

/-- only block g is written, and new ones -/
abbrev But (g : Nat) (w w' : World) : Prop := w.grownBy w' (some g)
theorem But.set {g : Nat} {w w' : World} (h : But g w w') (i : Nat) (v : Value) : But g w (w'.setCell ⟨g, i, none⟩ v) :=
  ⟨h.os, h.tape, h.output, by simpa [World.setCell] using h.size, fun k hk hne => (Below.heap_setCell w' ⟨g, i, none⟩ v k (fun e => hne (by rw [e]))).trans (h.block k hk hne)⟩
theorem But.refl (g : Nat) (w : World) : But g w w := World.grownBy.refl w _
theorem But.drew {g : Nat} {w w' : World} (h : But g w w') : But g w w'.drew := ⟨h.os, h.tape, h.output, h.size, h.block⟩
set_option maxRecDepth 100000 in
set_option maxHeartbeats 1000000 in
theorem fill_any (g : Nat) (d s n : Int) (w : World) (hM : Mk w g d s n 0) : Calls Tryz.prog 229 #[.pointer (some ⟨g, 0, none⟩)] w fun e w' => e = .returned (.tuple #[]) ∧ Mk w' g d s n 256 ∧ But g w w' := by
  go_enter Tryz.func229, Tryz.ntmps229
  go_wp2
  go_loopw [3] (fun i wr => ∃ k : Nat, k ≤ 256 ∧ i = .int .i64 k ∧ Mk wr g d s n k ∧ But g w wr) (fun i w => 256 - (intOf i).toNat)
  case atStart => exact ⟨0, by omega, rfl, hM, But.refl _ _⟩
  case round =>
    obtain ⟨k, hk, rfl, hMk, hBut⟩ := hrel
    by_cases h : k < 256
    · obtain ⟨v, hv⟩ := (hMk.cell).2.2.2.2.2.2.1 k h
      have hf := (hMk.cell).2.2.2.2.2.2.2 (3 + k)
      have hrow := hMk.row h
      have hwr := wrap_ofNat h
      generalize BitVec.ofNat 32 k = x at hrow hwr
      have HR := Lib.hid hrow
      clear hrow
      go_wp2
      refine wp_region_held_drew (S := (fun _ => True)) (by kernel_rfl) ?_ (fun hHeld => ?_)
      · first | done | trivial
      refine wpAnyH_take (i := 0) (oi := ⟨some 6, _, _, _, _, _⟩) (v := ?_) rfl (by kernel_rfl) (by kernel_rfl) (by kernel_rfl) (fun _ _ _ h => h) (Or.inl ⟨by kernel_rfl, ?_⟩) (by assumption) ?_
      rotate_left
      · (intro wS hSw; (try dsimp only at hSw); go_simp; (try with_reducible rfl))
      (try simp only [Act.put, List.setIfInBounds_toArray, List.set_cons_zero, List.set_cons_succ])
      refine wpAnyH_take (i := 1) (oi := ⟨some 7, _, _, _, _, _⟩) (v := ?_) rfl (by kernel_rfl) (by kernel_rfl) (by kernel_rfl) (fun _ _ _ h => h) (Or.inl ⟨by kernel_rfl, ?_⟩) (by assumption) ?_
      rotate_left
      · (intro wS hSw; (try dsimp only at hSw); go_simp; (try with_reducible rfl))
      (try simp only [Act.put, List.setIfInBounds_toArray, List.set_cons_zero, List.set_cons_succ])
      refine wpAnyH_take (i := 2) (oi := ⟨some 8, _, _, _, _, _⟩) (v := ?_) rfl (by kernel_rfl) (by kernel_rfl) (by kernel_rfl) (fun _ _ _ h => h) (Or.inl ⟨by kernel_rfl, ?_⟩) (by assumption) ?_
      rotate_left
      · (intro wS hSw; (try dsimp only at hSw); go_simp; (try with_reducible rfl))
      (try simp only [Act.put, List.setIfInBounds_toArray, List.set_cons_zero, List.set_cons_succ])
      refine wpAnyH_take (i := 3) (oi := ⟨some 9, _, _, _, _, _⟩) (v := ?_) rfl (by kernel_rfl) (by kernel_rfl) (by kernel_rfl) (fun _ _ _ h => h) (Or.inl ⟨by kernel_rfl, ?_⟩) (by assumption) ?_
      rotate_left
      · (intro wS hSw; (try dsimp only at hSw); go_simp; (try with_reducible rfl))
      (try simp only [Act.put, List.setIfInBounds_toArray, List.set_cons_zero, List.set_cons_succ])
      refine wpAnyH_take (i := 5) (oi := ⟨some 11, _, _, _, _, _⟩) (v := ?_) rfl (by kernel_rfl) (by kernel_rfl) (by kernel_rfl) (fun _ _ _ h => h) (Or.inl ⟨by kernel_rfl, ?_⟩) (by assumption) ?_
      rotate_left
      · (intro wS hSw; (try dsimp only at hSw); go_simp; (try with_reducible rfl))
      (try simp only [Act.put, List.setIfInBounds_toArray, List.set_cons_zero, List.set_cons_succ])
      refine wpAnyH_take (i := 6) (oi := ⟨some 12, _, _, _, _, _⟩) (v := ?_) rfl (by kernel_rfl) (by kernel_rfl) (by kernel_rfl) (fun _ _ _ h => h) (Or.inl ⟨by kernel_rfl, ?_⟩) (by assumption) ?_
      rotate_left
      · (intro wS hSw; (try dsimp only at hSw); go_simp; (try with_reducible rfl))
      (try simp only [Act.put, List.setIfInBounds_toArray, List.set_cons_zero, List.set_cons_succ])
      refine wpAnyH_ready (rs := [4]) (by kernel_rfl) (by simp) ?_
      refine AllReadyH.cons (o := ⟨some 10, _, _, _, _, _⟩) rfl (fun K hK => ?_) AllReadyH.nil
      go_simp
      (refine (step_any x _).mono ?_; rintro e w9 ⟨rfl, rfl⟩)
      go_wp2_with fail
      refine hK.out _ _ ?_ (fun hHeld => ?_)
      · ((try dsimp only); (first | done | trivial))
      clear hK K
      (try simp only [Act.put, List.setIfInBounds_toArray, List.set_cons_zero, List.set_cons_succ])
      refine wpAnyH_take (i := 7) (oi := ⟨some 13, _, _, _, _, _⟩) (v := ?_) rfl (by kernel_rfl) (by kernel_rfl) (by kernel_rfl) (fun _ _ _ h => h) (Or.inl ⟨by kernel_rfl, ?_⟩) (by assumption) ?_
      rotate_left
      · (intro wS hSw; (try dsimp only at hSw); go_simp; (try with_reducible rfl))
      (try simp only [Act.put, List.setIfInBounds_toArray, List.set_cons_zero, List.set_cons_succ])
      refine wpAnyH_ready (rs := [8]) (by kernel_rfl) (by simp) ?_
      refine AllReadyH.cons (o := ⟨none, _, _, _, _, _⟩) rfl (fun K hK => ?_) AllReadyH.nil
      go_simp
      refine hK.out _ _ ?_ (fun hHeld => ?_)
      · ((try dsimp only); (first | done | trivial))
      clear hK K
      (try simp only [Act.put, List.setIfInBounds_toArray, List.set_cons_zero, List.set_cons_succ])
      refine wpAnyH_done (by kernel_rfl) ?_ _
      go_wp2
      go_roundw
      case rel => exact ⟨k + 1, h, by go_num, HR.out, (hBut.set _ _).drew⟩
      case measure => simp [intOf]; omega
    · obtain rfl : k = 256 := by omega
      go_wp2
      go_end0
      exact ⟨rfl, hMk, hBut⟩
theorem Mk.set0 {w : World} {g k : Nat} {d s n : Int} (h : Mk w g d s n k) (x : Int) : Mk (w.setCell ⟨g, 0, none⟩ (.int .u32 x)) g x s n k := by
  obtain ⟨cs, hB, hs, h0, h1, h9, hr, ht⟩ := h
  refine ⟨_, hB.set_ _ _, by simpa using hs, Array.getElem?_setIfInBounds_self_of_lt (by omega), ?_, ?_, fun i hi => ?_, fun i hi => ?_⟩
  · rw [Array.getElem?_setIfInBounds_ne (by omega)]; exact h1
  · rw [Array.getElem?_setIfInBounds_ne (by omega)]; exact h9
  · rw [Array.getElem?_setIfInBounds_ne (by omega)]; exact hr i hi
  · rw [Array.getElem?_setIfInBounds_ne (by omega)]; exact ht i hi
theorem Mk.set1 {w : World} {g k : Nat} {d s n : Int} (h : Mk w g d s n k) (x : Int) : Mk (w.setCell ⟨g, 1, none⟩ (.int .i32 x)) g d x n k := by
  obtain ⟨cs, hB, hs, h0, h1, h9, hr, ht⟩ := h
  refine ⟨_, hB.set_ _ _, by simpa using hs, ?_, Array.getElem?_setIfInBounds_self_of_lt (by omega), ?_, fun i hi => ?_, fun i hi => ?_⟩
  · rw [Array.getElem?_setIfInBounds_ne (by omega)]; exact h0
  · rw [Array.getElem?_setIfInBounds_ne (by omega)]; exact h9
  · rw [Array.getElem?_setIfInBounds_ne (by omega)]; exact hr i hi
  · rw [Array.getElem?_setIfInBounds_ne (by omega)]; exact ht i hi
theorem Mk.set9 {w : World} {g k : Nat} {d s n : Int} (h : Mk w g d s n k) (hk : k ≤ 256) (x : Int) : Mk (w.setCell ⟨g, 259, none⟩ (.int .i64 x)) g d s x k := by
  obtain ⟨cs, hB, hs, h0, h1, h9, hr, ht⟩ := h
  refine ⟨_, hB.set_ _ _, by simpa using hs, ?_, ?_, Array.getElem?_setIfInBounds_self_of_lt (by omega), fun i hi => ?_, fun i hi => ?_⟩
  · rw [Array.getElem?_setIfInBounds_ne (by omega)]; exact h0
  · rw [Array.getElem?_setIfInBounds_ne (by omega)]; exact h1
  · rw [Array.getElem?_setIfInBounds_ne (by omega)]; exact hr i hi
  · rw [Array.getElem?_setIfInBounds_ne (by omega)]; exact ht i (by omega)

set_option maxRecDepth 100000 in
set_option maxHeartbeats 1600000 in
theorem slow_any (g : Nat) (n : Int) (w : World) (hM : Mk w g 0 0 n 0) :
    Calls Tryz.prog 242 #[.pointer (some ⟨g, 0, none⟩), .func (.func 229) #[.pointer (some ⟨g, 0, none⟩)] #[]] w fun e w' => e = .returned (.tuple #[]) ∧ Mk w' g 1 0 n 256 ∧ But g w w' := by
  obtain ⟨h0, h1, _, f0, f1, _, _, _⟩ := hM.cell
  have hl := run_call_load (P := Tryz.prog) Tryz.func251 (by kernel_rfl) (by kernel_rfl) (by kernel_rfl) .u32 (by kernel_rfl) (w := w.setCell ⟨g, 1, none⟩ (.int .i32 1)) (a := ⟨g, 0, none⟩) (x := 0) ((World.cell?_setCell_other _ ⟨g, 1, none⟩ ⟨g, 0, none⟩ _ (by simp)).trans h0)
  have hnot : ∀ (x : Bool) (w : World), (Op.unary .not (.bool x)).run Tryz.prog w = .ok (.bool (!x)) w := fun _ _ => rfl
  go_enter_defers Tryz.func242, Tryz.ntmps242
  go_wp2_with (go_at_call 252; refine (once_lock ⟨g, 1, none⟩ _ (by go_simp) (by go_simp)).mono ?_; rintro e w' ⟨rfl, rfl⟩)
  have hM1 := hM.set1 1
  go_wp2_with (first | (go_at_call 229; refine (fill_any g 0 1 n _ hM1).mono ?_; rintro e w1 ⟨rfl, hM2, hB2⟩) | (go_at_call 241; go_in))
  obtain ⟨c0, _, _, z0, z1, _, _, _⟩ := hM2.cell
  refine leaves_cons (f := 254) (args := #[.pointer (some ⟨g, 0, none⟩), .bool true]) (by simp) (by simp [go_sem]) ?_
  refine (once_store ⟨g, 0, none⟩ (.int .u32 0) .returning _ c0 z0).mono ?_
  rintro e u' w2 ⟨rfl, rfl, rfl⟩
  have hM3 := hM2.drew.set0 1
  obtain ⟨_, c1, _, _, z1, _, _, _⟩ := hM3.cell
  refine leaves_cons (f := 253) (args := #[.pointer (some ⟨g, 1, none⟩)]) (by simp [settle]) (by simp [go_sem]) ?_
  refine (once_unlock ⟨g, 1, none⟩ _ _ c1 z1).mono ?_
  rintro e u' w3 ⟨rfl, rfl, rfl⟩
  have hM4 := hM3.set1 0
  exact ⟨_, results_none rfl _ _ _, rfl, hM4, But.set (But.set (But.drew (World.grownBy.trans (But.set (But.refl g w) _ _) hB2)) _ _) _ _⟩

set_option maxRecDepth 100000 in
set_option maxHeartbeats 1600000 in
theorem do_first (g : Nat) (n : Int) (w : World) (hM : Mk w g 0 0 n 0) :
    Calls Tryz.prog 228 #[.pointer (some ⟨g, 0, none⟩), .func (.func 229) #[.pointer (some ⟨g, 0, none⟩)] #[]] w fun e w' => e = .returned (.tuple #[]) ∧ Mk w' g 1 0 n 256 ∧ But g w w' := by
  obtain ⟨h0, _, _, _, _, _, _, _⟩ := hM.cell
  have hl := run_call_load (P := Tryz.prog) Tryz.func251 (by kernel_rfl) (by kernel_rfl) (by kernel_rfl) .u32 (by kernel_rfl) h0
  have hnot : ∀ (x : Bool) (w : World), (Op.unary .not (.bool x)).run Tryz.prog w = .ok (.bool (!x)) w := fun _ _ => rfl
  go_enter Tryz.func228, Tryz.ntmps228
  go_wp2_with (first | (go_at_call 242; refine (slow_any g n _ hM).mono ?_; rintro e w1 ⟨rfl, hM2, hB2⟩) | (go_at_call 241; go_in))
  go_end0
  exact ⟨rfl, hM2, hB2⟩
theorem do_done (g : Nat) (s n : Int) (fv : Value) (w : World) (hM : Mk w g 1 s n 256) :
    Calls Tryz.prog 228 #[.pointer (some ⟨g, 0, none⟩), fv] w fun e w' => e = .returned (.tuple #[]) ∧ w = w' := by
  obtain ⟨h0, _, _, _, _, _, _, _⟩ := hM.cell
  have hl := run_call_load (P := Tryz.prog) Tryz.func251 (by kernel_rfl) (by kernel_rfl) (by kernel_rfl) .u32 (by kernel_rfl) h0
  have hnot : ∀ (x : Bool) (w : World), (Op.unary .not (.bool x)).run Tryz.prog w = .ok (.bool (!x)) w := fun _ _ => rfl
  go_enter Tryz.func228, Tryz.ntmps228
  go_wp2
  go_end0
  exact ⟨rfl, rfl⟩
/-- a maker, its table made or not -/
def Mkr (w : World) (g : Nat) (n : Int) : Prop := Mk w g 0 0 n 0 ∨ Mk w g 1 0 n 256
theorem do_any (g : Nat) (n : Int) (w : World) (hM : Mkr w g n) :
    Calls Tryz.prog 228 #[.pointer (some ⟨g, 0, none⟩), .func (.func 229) #[.pointer (some ⟨g, 0, none⟩)] #[]] w fun e w' => e = .returned (.tuple #[]) ∧ Mk w' g 1 0 n 256 ∧ But g w w' := by
  rcases hM with hM | hM
  · exact do_first g n w hM
  · refine (do_done g 0 n _ w hM).mono ?_
    rintro e w1 ⟨rfl, rfl⟩
    exact ⟨rfl, hM, But.refl _ _⟩
theorem SlB.but {w w' : World} {A : Option Addr} {c g : Nat} {l : List UInt8} (h : SlB w A c l) (hb : But g w w') (hA : l ≠ [] → A.map (·.block) ≠ some g) : SlB w' A c l := by
  refine ⟨h.1, h.2.1, h.2.2.1, h.2.2.2.1, fun j u hj => ?_⟩
  obtain ⟨ad, hA2, hc⟩ := h.2.2.2.2 j u hj
  have hne : l ≠ [] := by intro e; rw [e] at hj; simp at hj
  subst hA2
  exact ⟨ad, rfl, hb.cell hc (by rw [addr_add_block]; exact hA hne)⟩
end Go.Proofs.YtabnndjdkjkciaaGreatDoor

namespace Go.Proofs.YtabnndjdkjkciaaGreatDoor
open Go.RowKit

set_option maxRecDepth 100000 in
set_option maxHeartbeats 1600000 in
theorem extend_at (g : Nat) (n : Int) (s : W32) (A : Option Addr) (c : Nat) (l : List UInt8) (w : World) (hM : Mkr w g n) (hs : SlB w A c l) (hA : l ≠ [] → A.map (·.block) ≠ some g) (hl : l.length ≤ 1000000000) :
    Calls Tryz.prog 208 #[.pointer (some ⟨g, 0, none⟩), wv s, .slice A l.length c] w fun e w' => e = .returned (wv (extW s l)) ∧ Mk w' g 1 0 n 256 ∧ But g w w' := by
  have hsg : ¬ (IntKind.u32.signed = true) := by decide
  have hmx : IntKind.u32.max = 4294967295 := by decide
  have hns := not_wn s
  have hns1 := not_wn
  go_enter Tryz.func208, Tryz.ntmps208
  go_wp2_with fail
  refine (do_any g n _ hM).mono ?_
  rintro e w1 ⟨rfl, hM1, hB1⟩
  have hs1 := SlB.but hs hB1 hA
  go_wp2_with fail
  go_loopw [7, 26] (fun v i wr => ∃ (k : Nat) (y : W32), k ≤ l.length ∧ i = .int .i64 k ∧ v = wv y ∧ Hid (crcS (~~~ s) l = crcS y (l.drop k)) ∧ w1 = wr) (fun v i w => l.length - (intOf i).toNat)
  case atStart => exact ⟨0, ~~~ s, Nat.zero_le _, rfl, rfl, rfl, rfl⟩
  case round =>
    obtain ⟨k, y, hk, rfl, rfl, hy, rfl⟩ := hrel
    by_cases hlt : k < l.length
    · obtain ⟨ad, rfl, hc⟩ := hs1.at1 hlt
      have hj : (y.toNat % 256) ^^^ l[k].toNat < 256 := Nat.xor_lt_two_pow (n := 8) (Nat.mod_lt _ (by decide)) l[k].toNat_lt
      have hcell := hM1.at hj
      have hbt := by_table y l[k]
      have e1 := mod_wn y
      have e2 := xor_u8 (a := y.toNat % 256) (b := l[k].toNat) (Nat.mod_lt _ (by decide)) l[k].toNat_lt
      have e3 := shr8_wn y
      have e4 := fun T => xor_wn T (y >>> 8)
      have hcd := crcS_drop hlt y
      rw [hbt] at hcd
      generalize st8 (BitVec.ofNat 32 ((y.toNat % 256) ^^^ l[k].toNat)) = T at *
      generalize (y.toNat % 256) ^^^ l[k].toNat = j at *
      generalize y.toNat % 256 = m at *
      have HC := Lib.hid hcd
      have hjb : (0 : Int) ≤ (j : Int) ∧ (j : Int) < 256 := by omega
      clear hcd hbt
      go_wp2
      go_roundw
      case rel => exact ⟨k + 1, T ^^^ (y >>> 8), hlt, by go_num, rfl, (show crcS (~~~ s) l = _ from by rw [hy.out, HC.out]), by trivial⟩
      case measure => simp [intOf]; omega
    · obtain rfl : k = l.length := by omega
      have hfin : crcS (~~~ s) l = y := by rw [hy.out, List.drop_length]; rfl
      have HF := Lib.hid hfin
      clear hfin
      have hn2 := not_wn y
      go_wp2
      go_ret
      exact ⟨by unfold extW; rw [HF.out]; rfl, hM1, hB1⟩
theorem But.of_below {B g : Nat} {w w' : World} (h : Below B w w') (hB : w.heap.size ≤ B) : But g w w' := ⟨h.os, h.tape, h.output, h.size, fun k hk _ => h.block k (Nat.lt_of_lt_of_le hk hB)⟩
theorem below_of_but {a w w' : World} {g : Nat} (h : But g w w') (hb : Below a.heap.size a w) (hg : a.heap.size ≤ g) : Below a.heap.size a w' :=
  hb.grown h hb.size (fun k hk => by injection hk with hk; omega)
theorem Sl.old {w : World} {size n c g : Nat} {A : Option Addr} {xs : List Value} (h : Sl w size A n c xs) (hg : w.heap.size ≤ g) : xs ≠ [] → A.map (·.block) ≠ some g := by
  intro hne hA
  obtain ⟨ad, rfl, hc⟩ := h.2.2.2.2.at (k := 0) (by cases xs <;> simp_all)
  have := World.block_lt_of_cell? _ _ hc
  rw [addr_add_block] at this
  simp at hA
  omega
theorem SlB.old {w : World} {c g : Nat} {A : Option Addr} {l : List UInt8} (h : SlB w A c l) (hg : w.heap.size ≤ g) : l ≠ [] → A.map (·.block) ≠ some g := fun hne => Sl.old h hg (by simpa using hne)

theorem Mkr.cell {w : World} {g : Nat} {n : Int} (h : Mkr w g n) : w.cell? ⟨g, 259, none⟩ = some (.int .i64 n) ∧ w.frozen? ⟨g, 259, none⟩ = false := by
  rcases h with h | h <;> exact ⟨h.cell.2.2.1, h.cell.2.2.2.2.2.1⟩
theorem Mkr.set9 {w : World} {g : Nat} {n : Int} (h : Mkr w g n) (x : Int) : Mkr (w.setCell ⟨g, 259, none⟩ (.int .i64 x)) g x := by
  rcases h with h | h
  · exact .inl (h.set9 (by omega) x)
  · exact .inr (h.set9 (by omega) x)
set_option maxRecDepth 100000 in
set_option maxHeartbeats 1600000 in
theorem ask_at (g n : Nat) (w : World) (hM : Mkr w g n) (hn : n < 1000000000) : Calls Tryz.prog 193 #[.pointer (some ⟨g, 0, none⟩)] w fun e w' => e = .returned (.tuple #[]) ∧ Mkr w' g ((n + 1 : Nat) : Int) ∧ But g w w' := by
  obtain ⟨hc, hz⟩ := hM.cell
  have hadd := run_call_add (P := Tryz.prog) Tryz.func230 (by kernel_rfl) (by kernel_rfl) (by kernel_rfl) .i64 (by kernel_rfl) (y := 1) (s := ((n + 1 : Nat) : Int)) hc hz (by simp [go_sem]; rw [IntKind.wrap_i64]; omega)
  go_enter Tryz.func193, Tryz.ntmps193
  go_wp2
  go_end0
  exact ⟨rfl, hM.set9 _, (But.refl _ _).set _ _⟩
set_option maxRecDepth 100000 in
set_option maxHeartbeats 1600000 in
theorem Extend_at (g n : Nat) (s : W32) (A : Option Addr) (c : Nat) (l : List UInt8) (w : World) (hM : Mkr w g n) (hn : n < 1000000000) (hs : SlB w A c l) (hA : l ≠ [] → A.map (·.block) ≠ some g) (hl : l.length ≤ 1000000000) :
    Calls Tryz.prog 192 #[.pointer (some ⟨g, 0, none⟩), wv s, .slice A l.length c] w fun e w' => e = .returned (wv (extW s l)) ∧ Mkr w' g ((n + 1 : Nat) : Int) ∧ But g w w' := by
  go_enter Tryz.func192, Tryz.ntmps192
  go_wp2_with fail
  refine (ask_at g n _ hM hn).mono ?_
  rintro e w1 ⟨rfl, hM1, hB1⟩
  go_wp2_with fail
  refine (extend_at g _ s A c l _ hM1 (SlB.but hs hB1 hA) hA hl).mono ?_
  rintro e w2 ⟨rfl, hM2, hB2⟩
  go_wp2_with fail
  go_ret
  exact ⟨rfl, .inr hM2, hB1.trans hB2⟩
set_option maxRecDepth 100000 in
set_option maxHeartbeats 1600000 in
theorem Sum_at (g n : Nat) (A : Option Addr) (c : Nat) (l : List UInt8) (w : World) (hM : Mkr w g n) (hn : n < 1000000000) (hs : SlB w A c l) (hA : l ≠ [] → A.map (·.block) ≠ some g) (hl : l.length ≤ 1000000000) :
    Calls Tryz.prog 176 #[.pointer (some ⟨g, 0, none⟩), .slice A l.length c] w fun e w' => e = .returned (wv (sumW l)) ∧ Mkr w' g ((n + 1 : Nat) : Int) ∧ But g w w' := by
  go_enter Tryz.func176, Tryz.ntmps176
  go_wp2_with fail
  refine (Extend_at g n 0#32 A c l _ hM hn hs hA hl).mono ?_
  rintro e w1 ⟨rfl, hM1, hB1⟩
  go_wp2_with fail
  go_ret
  exact ⟨rfl, hM1, hB1⟩
/-- parts: each an address, a capacity, its bytes -/
abbrev Pt := Option Addr × Nat × List UInt8
abbrev pv (x : Pt) : Value := .slice x.1 x.2.2.length x.2.1
def partsOf (ps : List Pt) : List UInt8 := ps.flatMap (·.2.2)
end Go.Proofs.YtabnndjdkjkciaaGreatDoor
