/- WHAT IT HOLDS: which manifests there are, walked. | WHAT IT HOLDS: Find, walked. | WHAT IT HOLDS: a segment's copy, walked; append of cells at a step of a region that draws. -/
import Derived.Test.YtgipfenjachpnaaManifestFindsG12
namespace Go.Proofs.Ytgipfenjachpnaa
open Go.RowKit
attribute [local go_sem ↓] Go.wp_at_zero Go.wp_at_succ

set_option maxRecDepth 100000 in
set_option maxHeartbeats 400000 in
theorem MIn_any (x m : Int) (w : World) : Calls Try.prog 63 #[.int .i64 x, .int .i64 m] w fun e w' => e = .returned (.bool (inb x m)) ∧ w = w' := by
  go_enter Try.func63, Try.ntmps63
  by_cases h : 0 ≤ x
  · have h2 : decide (0 ≤ x) = true := by simp [h]
    go_wp2_with fail
    go_ret
    exact ⟨by unfold inb; rw [h2]; rfl, rfl⟩
  · have h2 : decide (0 ≤ x) = false := by simp [h]
    go_wp2_with fail
    go_ret
    exact ⟨by unfold inb; rw [h2]; rfl, rfl⟩
theorem zeros : (#[.int .u8 0, .int .u8 0, .int .u8 0, .int .u8 0, .int .u8 0, .int .u8 0, .int .u8 0, .int .u8 0, .int .u8 0, .int .u8 0, .int .u8 0, .int .u8 0, .int .u8 0, .int .u8 0, .int .u8 0, .int .u8 0, .int .u8 0, .int .u8 0, .int .u8 0, .int .u8 0, .int .u8 0, .int .u8 0, .int .u8 0, .int .u8 0, .int .u8 0, .int .u8 0, .int .u8 0, .int .u8 0, .int .u8 0, .int .u8 0, .int .u8 0, .int .u8 0] : Array Value) = dga dg0 := rfl
set_option maxRecDepth 100000 in
set_option maxHeartbeats 1000000 in
theorem Zero_any (d : Dg) (w : World) : Calls Try.prog 64 #[.agg (dga d)] w fun e w' => e = .returned (.bool (decide (d = dg0))) ∧ Below w.heap.size w w' := by
  have hB := Blk.new w 49 (dga d)
  have hE := eql_dg d dg0
  rw [← zeros] at hE
  have hsz := Lib.hid (dga_size d)
  generalize decide (d = dg0) = zb at *
  generalize dga d = da at *
  go_enter Try.func64, Try.ntmps64
  go_wp2_with (refine wpl_loadG rfl 49 _ rfl _ da rfl hB.cells _ Try.underlying49 rfl (by rw [hsz.out]; kernel_rfl) ?_)
  go_ret
  exact ⟨rfl, below_new _ _⟩
theorem wrap_sub1 {m c : Int} (h : I64 m) (hc : 0 ≤ c) (hc2 : c ≤ 1000000) : inb (wrap64 (m - 1)) c = (decide (1 ≤ m) && decide (m ≤ c + 1)) := by
  unfold I64 at h
  obtain ⟨h1, h2⟩ := h
  unfold inb
  rw [Bool.eq_iff_iff]
  simp only [Bool.and_eq_true, decide_eq_true_eq, wrap64]
  omega
theorem ptchk_range {p : Pt5} {a : Int} (h : (decide (1 ≤ p.2.1) && decide (p.2.1 ≤ 63 + 1)) = false ∨ (decide (1 ≤ p.2.2.1) && decide (p.2.2.1 ≤ 65535 + 1)) = false) : ptchk p a = 1 := by
  unfold ptchk
  simp only [Bool.and_eq_false_iff, decide_eq_false_iff_not] at h
  rw [if_pos (by omega)]
theorem ptchk_at {p : Pt5} {a : Int} (h : (decide (1 ≤ p.2.1) && decide (p.2.1 ≤ 63 + 1)) = true) (h2 : (decide (1 ≤ p.2.2.1) && decide (p.2.2.1 ≤ 65535 + 1)) = true) : ptchk p a = if p.1 ≠ a then 2 else 0 := by
  unfold ptchk
  simp only [Bool.and_eq_true, decide_eq_true_eq] at h h2
  rw [if_neg (by omega)]
set_option maxRecDepth 100000 in
set_option maxHeartbeats 1000000 in
theorem PtCheck_any (p : Pt5) (a : Int) (h1 : I64 p.2.1) (h2 : I64 p.2.2.1) (w : World) :
    Calls Try.prog 65 #[.agg (pta p), .int .i64 a] w fun e w' => e = .returned (errv (ptchk p a)) ∧ Below w.heap.size w w' := by
  have hB := Blk.new w 57 (pta p)
  have hbw := below_new w (.cells (pta p) 57)
  have hI1 := wrap_sub1 h1 (c := 63) (by decide) (by decide)
  have hI2 := wrap_sub1 h2 (c := 65535) (by decide) (by decide)
  have hbad := fun h => Lib.hid (ptchk_range (p := p) (a := a) h)
  have hgood := fun h h2 => Lib.hid (ptchk_at (p := p) (a := a) h h2)
  generalize (decide (1 ≤ p.2.1) && decide (p.2.1 ≤ 63 + 1)) = b1 at *
  generalize (decide (1 ≤ p.2.2.1) && decide (p.2.2.1 ≤ 65535 + 1)) = b2 at *
  obtain ⟨c0, c1, c2⟩ := BlP.three hB
  obtain ⟨z1, hz1⟩ : ∃ z, wrap64 (p.2.1 - 1) = z := ⟨_, rfl⟩
  obtain ⟨z2, hz2⟩ : ∃ z, wrap64 (p.2.2.1 - 1) = z := ⟨_, rfl⟩
  have hw1 : IntKind.i64.wrap (p.2.1 - 1) = z1 := by rw [IntKind.wrap_i64]; simpa only [wrap64] using hz1
  have hw2 : IntKind.i64.wrap (p.2.2.1 - 1) = z2 := by rw [IntKind.wrap_i64]; simpa only [wrap64] using hz2
  have hC1 := fun W => MIn_any z1 63 W
  have hC2 := fun W => MIn_any z2 65535 W
  rw [hz1] at hI1
  rw [hz2] at hI2
  rw [hI1] at hC1
  rw [hI2] at hC2
  have HC1 := Lib.hid hC1
  have HC2 := Lib.hid hC2
  clear hC1 hC2 hI1 hI2 h1 h2 hB
  generalize pta p = pa at *
  go_enter Try.func65, Try.ntmps65
  go_wp2_with fail
  refine (HC1.out _).mono ?_
  rintro e w1 ⟨rfl, rfl⟩
  cases b1 with
  | false =>
    have hc := hbad (.inl rfl)
    clear hbad hgood
    go_wp2_with fail
    go_ret
    exact ⟨by rw [hc.out]; rfl, hbw⟩
  | true =>
    go_wp2_with fail
    refine (HC2.out _).mono ?_
    rintro e w1 ⟨rfl, rfl⟩
    cases b2 with
    | false =>
      have hc := hbad (.inr rfl)
      clear hbad hgood
      go_wp2_with fail
      go_ret
      exact ⟨by rw [hc.out]; rfl, hbw⟩
    | true =>
      have hg := hgood trivial rfl
      clear hbad hgood
      by_cases ha : p.1 = a
      · have hb : (p.1 != a) = false := by simp [ha]
        have hc : Hid (ptchk p a = 0) := (show _ = _ from by rw [hg.out, if_neg (by simp [ha])])
        clear hg ha
        go_wp2_with fail
        go_ret
        exact ⟨by rw [hc.out]; rfl, hbw⟩
      · have hb : (p.1 != a) = true := by simpa using ha
        have hc : Hid (ptchk p a = 2) := (show _ = _ from by rw [hg.out, if_pos ha])
        clear hg ha
        go_wp2_with fail
        go_ret
        exact ⟨by rw [hc.out]; rfl, hbw⟩
theorem mchk_range {m : Mf} (h : inb m.1 999999 = false ∨ inb m.2.1 1048576 = false ∨ inb m.2.2.1 1048576 = false ∨ inb m.2.2.2.1 1048576 = false) : mchk m = 1 := by
  unfold mchk
  rw [if_pos]
  rcases h with h | h | h | h <;> simp [h]
theorem mchk_form {m : Mf} (h1 : inb m.1 999999 = true) (h2 : inb m.2.1 1048576 = true) (h3 : inb m.2.2.1 1048576 = true) (h4 : inb m.2.2.2.1 1048576 = true) (h : m.2.2.1 < m.2.1 ∨ (m.1 = 0 ∧ decide (m.2.2.2.2.1 = dg0) = false)) : mchk m = 2 := by
  unfold mchk
  rw [if_neg (by simp [h1, h2, h3, h4]), if_pos]
  rcases h with h | ⟨h, h5⟩
  · simp [h]
  · rw [h, h5]; simp
theorem mchk_rest {m : Mf} (h1 : inb m.1 999999 = true) (h2 : inb m.2.1 1048576 = true) (h3 : inb m.2.2.1 1048576 = true) (h4 : inb m.2.2.2.1 1048576 = true) (h5 : ¬ m.2.2.1 < m.2.1) (h6 : m.1 = 0 → decide (m.2.2.2.2.1 = dg0) = true) :
    mchk m = if 1024 < m.2.2.2.2.2.length then 3 else pgo m.2.2.1 m.2.1 m.2.2.2.2.2 := by
  unfold mchk
  rw [if_neg (by simp [h1, h2, h3, h4]), if_neg]
  simp only [Bool.or_eq_true, Bool.and_eq_true, decide_eq_true_eq, beq_iff_eq, not_or, not_and]
  exact ⟨h5, fun h => by rw [h6 h]; simp⟩
/-- parts whose numbers are numbers -/
def PtsI (ps : List Pt5) : Prop := ∀ p ∈ ps, I64 p.1 ∧ I64 p.2.1 ∧ I64 p.2.2.1
theorem pgo_step {z a : Int} {l : List Pt5} {k : Nat} (hk : k < l.length) (h : ptchk l[k] a = 0) : pgo z a (l.drop k) = pgo z (a + l[k].2.1) (l.drop (k + 1)) := by
  rw [List.drop_eq_getElem_cons hk, pgo, if_neg (by rw [h]; simp)]
theorem pgo_stop {z a : Int} {l : List Pt5} {k : Nat} (hk : k < l.length) (h : ptchk l[k] a ≠ 0) : pgo z a (l.drop k) = ptchk l[k] a := by
  rw [List.drop_eq_getElem_cons hk, pgo, if_pos h]
set_option maxRecDepth 100000 in
set_option maxHeartbeats 4000000 in
theorem MCheck_any {A : Option Addr} {c : Nat} (n f t r : Int) (d : Dg) (ps : List Pt5) (w : World) (h : SlP w A c ps) (hI : PtsI ps) :
    Calls Try.prog 26 #[.agg (mfa n f t r d A ps.length c)] w fun e w' => e = .returned (errv (mchk (n, f, t, r, d, ps))) ∧ Below w.heap.size w w' := by
  have hB : BlM _ w.heap.size n f t r d A ps.length c := Blk.new w 52 (mfa n f t r d A ps.length c)
  have hbw := below_new w (.cells (mfa n f t r d A ps.length c) 52)
  have hmax := h.len_le
  unfold maxLen at hmax
  obtain ⟨b1, hb1⟩ : ∃ b, inb n 999999 = b := ⟨_, rfl⟩
  obtain ⟨b2, hb2⟩ : ∃ b, inb f 1048576 = b := ⟨_, rfl⟩
  obtain ⟨b3, hb3⟩ : ∃ b, inb t 1048576 = b := ⟨_, rfl⟩
  obtain ⟨b4, hb4⟩ : ∃ b, inb r 1048576 = b := ⟨_, rfl⟩
  have hC1 := fun W => MIn_any n 999999 W
  have hC2 := fun W => MIn_any f 1048576 W
  have hC3 := fun W => MIn_any t 1048576 W
  have hC4 := fun W => MIn_any r 1048576 W
  rw [hb1] at hC1
  rw [hb2] at hC2
  rw [hb3] at hC3
  rw [hb4] at hC4
  have HC1 := Lib.hid hC1
  have HC2 := Lib.hid hC2
  have HC3 := Lib.hid hC3
  have HC4 := Lib.hid hC4
  have HB1 := Lib.hid hb1
  have HB2 := Lib.hid hb2
  have HB3 := Lib.hid hb3
  have HB4 := Lib.hid hb4
  clear hb1 hb2 hb3 hb4 hC1 hC2 hC3 hC4
  obtain ⟨a0, a1, a2, a3, a4⟩ := BlM.five hB
  have hdg := Lib.hid hB.dg
  have hds := Lib.hid (dga_size d)
  go_enter Try.func26, Try.ntmps26
  go_wp2_with fail
  refine (HC1.out _).mono ?_
  rintro e w1 ⟨rfl, rfl⟩
  cases b1 with
  | false =>
    have HC := Lib.hid (mchk_range (m := (n, f, t, r, d, ps)) (.inl HB1.out))
    go_wp2_with fail
    go_ret
    exact ⟨by rw [HC.out]; rfl, hbw⟩
  | true =>
  go_wp2_with fail
  refine (HC2.out _).mono ?_
  rintro e w1 ⟨rfl, rfl⟩
  cases b2 with
  | false =>
    have HC := Lib.hid (mchk_range (m := (n, f, t, r, d, ps)) (.inr (.inl HB2.out)))
    go_wp2_with fail
    go_ret
    exact ⟨by rw [HC.out]; rfl, hbw⟩
  | true =>
  go_wp2_with fail
  refine (HC3.out _).mono ?_
  rintro e w1 ⟨rfl, rfl⟩
  cases b3 with
  | false =>
    have HC := Lib.hid (mchk_range (m := (n, f, t, r, d, ps)) (.inr (.inr (.inl HB3.out))))
    go_wp2_with fail
    go_ret
    exact ⟨by rw [HC.out]; rfl, hbw⟩
  | true =>
  go_wp2_with fail
  refine (HC4.out _).mono ?_
  rintro e w1 ⟨rfl, rfl⟩
  cases b4 with
  | false =>
    have HC := Lib.hid (mchk_range (m := (n, f, t, r, d, ps)) (.inr (.inr (.inr HB4.out))))
    go_wp2_with fail
    go_ret
    exact ⟨by rw [HC.out]; rfl, hbw⟩
  | true =>
  clear HC1 HC2 HC3 HC4
  by_cases c1 : t < f
  · have HC := Lib.hid (mchk_form (m := (n, f, t, r, d, ps)) HB1.out HB2.out HB3.out HB4.out (.inl c1))
    go_wp2_with fail
    go_ret
    exact ⟨by rw [HC.out]; rfl, hbw⟩
  by_cases c2 : n = 0
  · have hn0 : (n == 0) = true := by simpa using c2
    have hz := fun W => Zero_any d W
    obtain ⟨zb, hzb⟩ : ∃ b, decide (d = dg0) = b := ⟨_, rfl⟩
    rw [hzb] at hz
    have HZ := Lib.hid hz
    have HZB := Lib.hid hzb
    have HN0 := Lib.hid c2
    clear hz hzb c2
    go_wp2_with (refine wpl_loadG (by kernel_rfl) 49 _ rfl ⟨w.heap.size, 4, none⟩ (dga d) rfl hdg.out _ Try.underlying49 rfl (by rw [hds.out]; kernel_rfl) ?_)
    refine (HZ.out _).mono ?_
    rintro e w2 ⟨rfl, hb2⟩
    have hBm := hB.below hb2
    have hw := bel_call hbw hb2
    clear hB hbw hb2 a0 a1 a2 a3 a4
    cases zb with
    | false =>
      have HC := Lib.hid (mchk_form (m := (n, f, t, r, d, ps)) HB1.out HB2.out HB3.out HB4.out (.inr ⟨HN0.out, HZB.out⟩))
      go_wp2_with fail
      go_ret
      exact ⟨by rw [HC.out]; rfl, hw⟩
    | true =>
      have HM := Lib.hid (mchk_rest (m := (n, f, t, r, d, ps)) HB1.out HB2.out HB3.out HB4.out (by dsimp only; omega) (fun _ => HZB.out))
      obtain ⟨a0, a1, a2, a3, a4⟩ := BlM.five hBm
      dsimp only at HM
      clear HN0 HZ HZB
      by_cases hlen : 1024 < ps.length
      · have hlI : (1024 : Int) < (ps.length : Int) := by omega
        have HC := Lib.hid (show mchk (n, f, t, r, d, ps) = 3 from by rw [HM.out, if_pos hlen])
        clear hlen
        go_wp2_with fail
        go_ret
        exact ⟨by rw [HC.out]; rfl, hw⟩
      · have hlI : (ps.length : Int) ≤ 1024 := by omega
        have HM2 := Lib.hid (show mchk (n, f, t, r, d, ps) = pgo t f ps from by rw [HM.out, if_neg hlen])
        have hf2 := inb_iff.1 HB2.out
        obtain ⟨hf0, hf1⟩ := hf2
        clear hlen HM
        go_wp2_with fail
        go_loopw [60, 3] (fun x y wr => ∃ (k : Nat) (a : Int), k ≤ ps.length ∧ x = .int .i64 k ∧ y = .int .i64 a ∧ Hid (pgo t f ps = pgo t a (ps.drop k)) ∧ f ≤ a ∧ a ≤ f + 64 * k ∧ Below w.heap.size w wr ∧ BlM wr w.heap.size n f t r d A ps.length c) (fun x y w => ps.length - (intOf x).toNat)
        case atStart => exact ⟨0, f, Nat.zero_le _, rfl, rfl, (show _ = _ from by rw [List.drop_zero]), Int.le_refl _, by omega, hw, hBm⟩
        case round =>
          obtain ⟨k, a, hk, rfl, rfl, hp, ha0, ha1, hbr, hBr⟩ := hrel
          clear hw hBm a0 a1 a2 a3 a4
          obtain ⟨a0, a1, a2, a3, a4⟩ := BlM.five hBr
          by_cases hlt : k < ps.length
          · obtain ⟨ad, b, o, rfl, had, hcc⟩ := (h.below hbr).at hlt
            have hnx := Lib.hid (fun h0 => (pgo_step (z := t) (a := a) hlt h0))
            have hst := Lib.hid (fun h0 => (pgo_stop (z := t) (a := a) hlt h0))
            have hIp := hI _ (List.getElem_mem hlt)
            generalize ps[k] = p at *
            obtain ⟨_, hI1, hI2⟩ := hIp
            have hX := Blk.new wr 57 (pta p)
            obtain ⟨x0, x1, x2⟩ := BlP.three hX
            have hbx := below_new wr (.cells (pta p) 57)
            have hps := Lib.hid (pta_size p)
            have hpa := Lib.hid (pta_all p)
            have HCC := Lib.hid hcc
            clear hcc
            go_wp2_with (first | (refine wpl_loadG rfl 57 _ rfl ⟨b, o, none⟩ (pta p) rfl HCC.out _ Try.underlying57 rfl (by rw [hps.out]; kernel_rfl) ?_) | (refine wpl_storeN rfl 57 _ _ rfl _ (pta p) 57 rfl rfl (by rw [hps.out]; kernel_rfl) (by rw [hps.out]; rfl) hpa.out ?_) | (refine wpl_loadG rfl 57 _ rfl ⟨wr.heap.size, 0, none⟩ (pta p) rfl hX.cells _ Try.underlying57 rfl (by rw [hps.out]; kernel_rfl) ?_))
            have hXb := hX
            refine (PtCheck_any p a hI1 hI2 _).mono ?_
            rintro e w5 ⟨rfl, hb5⟩
            replace hXb := Blk.below hXb hb5
            have hn5 := bel_call (bel_call hbr hbx) hb5
            have hBn : BlM w5 w.heap.size n f t r d (some ad) ps.length c := Blk.below (Blk.below hBr hbx) hb5
            rcases errv_cases (ptchk p a) with ⟨h0, hev⟩ | ⟨q, hq, hqe, hev⟩
            · have hp2 := hnx.out h0
              obtain ⟨_, hm64, _, _, _⟩ := ptchk_ok h0
              have hm1 : 1 ≤ p.2.1 := (ptchk_ok h0).1
              have HP := Lib.hid (hp.out.trans hp2)
              rw [hev]
              clear hev h0 hp2 hnx hst hp x0 x1 x2 a0 a1 a2 a3 a4 hX hI1 hI2 hps hpa HCC
              obtain ⟨x0, x1, x2⟩ := BlP.three hXb
              have hwa : wrap64 (a + p.2.1) = a + p.2.1 := by simp only [wrap64]; omega
              have hwa2 : IntKind.i64.wrap (a + p.2.1) = a + p.2.1 := by rw [IntKind.wrap_i64]; omega
              go_wp2_with fail
              go_roundw
              case rel => exact ⟨k + 1, a + p.2.1, hlt, by go_num, rfl, HP, by omega, by omega, hn5, hBn⟩
              case measure => simp [intOf]; omega
            · have hp2 := hst.out (by omega)
              have HP := Lib.hid ((HM2.out.trans hp.out).trans hp2)
              have HEV := Lib.hid hev
              rw [hev]
              clear hev hqe hp2 hnx hst hp x0 x1 x2 a0 a1 a2 a3 a4 hX hI1 hI2 hps hpa HCC
              go_wp2_with fail
              go_ret
              exact ⟨by rw [HP.out, HEV.out]; rfl, hn5⟩
          · have hkn : ps.drop k = [] := List.drop_eq_nil_of_le (by omega)
            have HP := Lib.hid (show mchk (n, f, t, r, d, ps) = if a ≠ t then 2 else 0 from by rw [HM2.out, hp.out, hkn]; rfl)
            clear hp hkn
            by_cases hat : a = t
            · have hb : (a != t) = false := by simp [hat]
              have HC := Lib.hid (show mchk (n, f, t, r, d, ps) = 0 from by rw [HP.out, if_neg (by simp [hat])])
              clear HP hat
              go_wp2_with fail
              go_ret
              exact ⟨by rw [HC.out]; rfl, hbr⟩
            · have hb : (a != t) = true := by simpa using hat
              have HC := Lib.hid (show mchk (n, f, t, r, d, ps) = 2 from by rw [HP.out, if_pos hat])
              clear HP hat
              go_wp2_with fail
              go_ret
              exact ⟨by rw [HC.out]; rfl, hbr⟩
  · have hn0 : (n == 0) = false := by simpa using c2
    have HM := Lib.hid (mchk_rest (m := (n, f, t, r, d, ps)) HB1.out HB2.out HB3.out HB4.out (by dsimp only; omega) (fun h0 => absurd h0 c2))
    have hBm := hB
    have hw := hbw
    dsimp only at HM
    clear hB hbw c2
    by_cases hlen : 1024 < ps.length
    · have hlI : (1024 : Int) < (ps.length : Int) := by omega
      have HC := Lib.hid (show mchk (n, f, t, r, d, ps) = 3 from by rw [HM.out, if_pos hlen])
      clear hlen
      go_wp2_with fail
      go_ret
      exact ⟨by rw [HC.out]; rfl, hw⟩
    · have hlI : (ps.length : Int) ≤ 1024 := by omega
      have HM2 := Lib.hid (show mchk (n, f, t, r, d, ps) = pgo t f ps from by rw [HM.out, if_neg hlen])
      have hf2 := inb_iff.1 HB2.out
      obtain ⟨hf0, hf1⟩ := hf2
      clear hlen HM
      go_wp2_with fail
      go_loopw [60, 3] (fun x y wr => ∃ (k : Nat) (a : Int), k ≤ ps.length ∧ x = .int .i64 k ∧ y = .int .i64 a ∧ Hid (pgo t f ps = pgo t a (ps.drop k)) ∧ f ≤ a ∧ a ≤ f + 64 * k ∧ Below w.heap.size w wr ∧ BlM wr w.heap.size n f t r d A ps.length c) (fun x y w => ps.length - (intOf x).toNat)
      case atStart => exact ⟨0, f, Nat.zero_le _, rfl, rfl, (show _ = _ from by rw [List.drop_zero]), Int.le_refl _, by omega, hw, hBm⟩
      case round =>
        obtain ⟨k, a, hk, rfl, rfl, hp, ha0, ha1, hbr, hBr⟩ := hrel
        clear hw hBm a0 a1 a2 a3 a4
        obtain ⟨a0, a1, a2, a3, a4⟩ := BlM.five hBr
        by_cases hlt : k < ps.length
        · obtain ⟨ad, b, o, rfl, had, hcc⟩ := (h.below hbr).at hlt
          have hnx := Lib.hid (fun h0 => (pgo_step (z := t) (a := a) hlt h0))
          have hst := Lib.hid (fun h0 => (pgo_stop (z := t) (a := a) hlt h0))
          have hIp := hI _ (List.getElem_mem hlt)
          generalize ps[k] = p at *
          obtain ⟨_, hI1, hI2⟩ := hIp
          have hX := Blk.new wr 57 (pta p)
          obtain ⟨x0, x1, x2⟩ := BlP.three hX
          have hbx := below_new wr (.cells (pta p) 57)
          have hps := Lib.hid (pta_size p)
          have hpa := Lib.hid (pta_all p)
          have HCC := Lib.hid hcc
          clear hcc
          go_wp2_with (first | (refine wpl_loadG rfl 57 _ rfl ⟨b, o, none⟩ (pta p) rfl HCC.out _ Try.underlying57 rfl (by rw [hps.out]; kernel_rfl) ?_) | (refine wpl_storeN rfl 57 _ _ rfl _ (pta p) 57 rfl rfl (by rw [hps.out]; kernel_rfl) (by rw [hps.out]; rfl) hpa.out ?_) | (refine wpl_loadG rfl 57 _ rfl ⟨wr.heap.size, 0, none⟩ (pta p) rfl hX.cells _ Try.underlying57 rfl (by rw [hps.out]; kernel_rfl) ?_))
          have hXb := hX
          refine (PtCheck_any p a hI1 hI2 _).mono ?_
          rintro e w5 ⟨rfl, hb5⟩
          replace hXb := Blk.below hXb hb5
          have hn5 := bel_call (bel_call hbr hbx) hb5
          have hBn : BlM w5 w.heap.size n f t r d (some ad) ps.length c := Blk.below (Blk.below hBr hbx) hb5
          rcases errv_cases (ptchk p a) with ⟨h0, hev⟩ | ⟨q, hq, hqe, hev⟩
          · have hp2 := hnx.out h0
            obtain ⟨_, hm64, _, _, _⟩ := ptchk_ok h0
            have hm1 : 1 ≤ p.2.1 := (ptchk_ok h0).1
            have HP := Lib.hid (hp.out.trans hp2)
            rw [hev]
            clear hev h0 hp2 hnx hst hp x0 x1 x2 a0 a1 a2 a3 a4 hX hI1 hI2 hps hpa HCC
            obtain ⟨x0, x1, x2⟩ := BlP.three hXb
            have hwa : wrap64 (a + p.2.1) = a + p.2.1 := by simp only [wrap64]; omega
            have hwa2 : IntKind.i64.wrap (a + p.2.1) = a + p.2.1 := by rw [IntKind.wrap_i64]; omega
            go_wp2_with fail
            go_roundw
            case rel => exact ⟨k + 1, a + p.2.1, hlt, by go_num, rfl, HP, by omega, by omega, hn5, hBn⟩
            case measure => simp [intOf]; omega
          · have hp2 := hst.out (by omega)
            have HP := Lib.hid ((HM2.out.trans hp.out).trans hp2)
            have HEV := Lib.hid hev
            rw [hev]
            clear hev hqe hp2 hnx hst hp x0 x1 x2 a0 a1 a2 a3 a4 hX hI1 hI2 hps hpa HCC
            go_wp2_with fail
            go_ret
            exact ⟨by rw [HP.out, HEV.out]; rfl, hn5⟩
        · have hkn : ps.drop k = [] := List.drop_eq_nil_of_le (by omega)
          have HP := Lib.hid (show mchk (n, f, t, r, d, ps) = if a ≠ t then 2 else 0 from by rw [HM2.out, hp.out, hkn]; rfl)
          clear hp hkn
          by_cases hat : a = t
          · have hb : (a != t) = false := by simp [hat]
            have HC := Lib.hid (show mchk (n, f, t, r, d, ps) = 0 from by rw [HP.out, if_neg (by simp [hat])])
            clear HP hat
            go_wp2_with fail
            go_ret
            exact ⟨by rw [HC.out]; rfl, hbr⟩
          · have hb : (a != t) = true := by simpa using hat
            have HC := Lib.hid (show mchk (n, f, t, r, d, ps) = 2 from by rw [HP.out, if_pos hat])
            clear HP hat
            go_wp2_with fail
            go_ret
            exact ⟨by rw [HC.out]; rfl, hbr⟩
end Go.Proofs.Ytgipfenjachpnaa

namespace Go.Proofs.Ytgipfenjachpnaa
open Go.RowKit
attribute [local go_sem ↓] Go.wp_at_zero Go.wp_at_succ

/-- a part of a right manifest -/
def PtFit (p : Pt5) : Prop := 0 ≤ p.1 ∧ p.1 ≤ 10000000 ∧ 1 ≤ p.2.1 ∧ p.2.1 ≤ 64
theorem phit_lo {x : Int} {p : Pt5} (h : x < p.1) : phit x p = false := by
  rw [Bool.eq_false_iff]; intro h2; have := phit_iff.1 h2; omega
theorem phit_hi {x : Int} {p : Pt5} (h : p.2.1 ≤ x - p.1) : phit x p = false := by
  rw [Bool.eq_false_iff]; intro h2; have := phit_iff.1 h2; omega
theorem phit_in {x : Int} {p : Pt5} (h : p.1 ≤ x) (h2 : x - p.1 < p.2.1) : phit x p = true := phit_iff.2 ⟨h, by omega⟩
set_option maxRecDepth 100000 in
set_option maxHeartbeats 1000000 in
theorem FindF_any (p : Pt5) (x : Int) (g : Nat) (w : World) (hc : w.cell? ⟨g, 0, none⟩ = some (.int .i64 x)) (hp : PtFit p) (hx : I64 x) :
    Calls Try.prog 67 #[.agg (pta p), .pointer (some ⟨g, 0, none⟩)] w fun e w' => e = .returned (.bool (phit x p)) ∧ Below w.heap.size w w' := by
  have hB := Blk.new w 57 (pta p)
  have hbw := below_new w (.cells (pta p) 57)
  obtain ⟨c0, c1, c2⟩ := BlP.three hB
  have hgl : g < w.heap.size := World.block_lt_of_cell? w _ hc
  have hgc := (hbw.cell (p := ⟨g, 0, none⟩) hgl).trans hc
  obtain ⟨hp0, hp1, hp2, hp3⟩ := hp
  unfold I64 at hx
  obtain ⟨hx0, hx1⟩ := hx
  have hlo := fun h => Lib.hid (phit_lo (x := x) (p := p) h)
  have hhi := fun h => Lib.hid (phit_hi (x := x) (p := p) h)
  have hin := fun h h2 => Lib.hid (phit_in (x := x) (p := p) h h2)
  generalize phit x p = b at *
  obtain ⟨p1, p2, p3, p4⟩ := p
  dsimp only at *
  clear hc hB
  by_cases h1 : x < p1
  · have hr := hlo h1
    clear hlo hhi hin
    generalize pta (p1, p2, p3, p4) = pa at *
    go_enter Try.func67, Try.ntmps67
    go_wp2_with fail
    go_ret
    exact ⟨by rw [hr.out]; rfl, hbw⟩
  · have hwa : wrap64 (x - p1) = x - p1 := by simp only [wrap64]; omega
    have hwa2 : IntKind.i64.wrap (x - p1) = x - p1 := by rw [IntKind.wrap_i64]; omega
    by_cases h2 : p2 ≤ x - p1
    · have hr := hhi h2
      clear hlo hhi hin
      generalize pta (p1, p2, p3, p4) = pa at *
      go_enter Try.func67, Try.ntmps67
      go_wp2_with fail
      go_ret
      exact ⟨by rw [hr.out]; rfl, hbw⟩
    · have hr := hin (by omega) (by omega)
      have h0 : 0 ≤ x - p1 := by omega
      clear hlo hhi hin
      generalize pta (p1, p2, p3, p4) = pa at *
      go_enter Try.func67, Try.ntmps67
      go_wp2_with fail
      go_ret
      exact ⟨by rw [hr.out]; rfl, hbw⟩
theorem pidx_first {x : Int} : ∀ {l : List Pt5} {k : Nat} (hk : k < l.length), (∀ p ∈ l.take k, phit x p = false) → phit x l[k] = true → pidx x l = k
  | q :: r, 0, _, _, hh => by rw [List.getElem_cons_zero] at hh; rw [pidx, hh]; simp
  | q :: r, k + 1, hk, h, hh => by
    have ih := pidx_first (x := x) (l := r) (k := k) (by simpa using hk) (fun p hp => h p (by rw [List.take_succ_cons]; exact .tail _ hp)) (by simpa using hh)
    have hq := h q (by rw [List.take_succ_cons]; exact .head _)
    rw [pidx, hq, ih, if_neg (by simp), if_neg (by omega)]
    simp
set_option maxRecDepth 100000 in
set_option maxHeartbeats 1000000 in
theorem IdxF_any {E : Option Addr} {cap : Nat} (ps : List Pt5) (x : Int) (g : Nat) (w : World) (h : SlP w E cap ps) (hc : w.cell? ⟨g, 0, none⟩ = some (.int .i64 x)) (hp : ∀ p ∈ ps, PtFit p) (hx : I64 x) :
    Calls Try.prog 66 #[.slice E ps.length cap, .func (.func 67) #[] #[.pointer (some ⟨g, 0, none⟩)]] w fun e w' => e = .returned (.int .i64 (pidx x ps)) ∧ Below w.heap.size w w' := by
  have hmax := h.len_le
  unfold maxLen at hmax
  have hgl : g < w.heap.size := World.block_lt_of_cell? w _ hc
  go_enter Try.func66, Try.ntmps66
  go_wp2_with fail
  go_loopw [8] (fun y wr => ∃ k : Nat, k ≤ ps.length ∧ y = .int .i64 k ∧ Hid (∀ p ∈ ps.take k, phit x p = false) ∧ Below w.heap.size w wr) (fun y w => ps.length - (intOf y).toNat)
  case atStart => exact ⟨0, Nat.zero_le _, rfl, (fun p hp => by simp at hp), Below.refl _ _⟩
  case round =>
    obtain ⟨k, hk, rfl, hall, hbr⟩ := hrel
    by_cases hlt : k < ps.length
    · obtain ⟨ad, b, o, rfl, had, hcc⟩ := (h.below hbr).at hlt
      have hfst := Lib.hid (fun hh => pidx_first (x := x) hlt hall.out hh)
      have hnxt : Hid (phit x ps[k] = false → ∀ p ∈ ps.take (k + 1), phit x p = false) := (show _ → _ from fun h0 p hp => by
        rw [List.take_succ_eq_append_getElem hlt, List.mem_append] at hp
        rcases hp with hp | hp
        · exact hall.out p hp
        · rw [List.mem_singleton.1 hp]; exact h0)
      have hpf := hp _ (List.getElem_mem hlt)
      have hcr := (hbr.cell (p := ⟨g, 0, none⟩) hgl).trans hc
      have hF := Lib.hid (FindF_any ps[k] x g wr hcr hpf hx)
      generalize ps[k] = p at *
      have hps := Lib.hid (pta_size p)
      have HCC := Lib.hid hcc
      have HPF := Lib.hid hpf
      clear hcc hcr hpf
      go_wp2_with (refine wpl_loadG rfl 57 _ rfl ⟨b, o, none⟩ (pta p) rfl HCC.out _ Try.underlying57 rfl (by rw [hps.out]; kernel_rfl) ?_)
      refine hF.out.mono ?_
      rintro e w5 ⟨rfl, hb5⟩
      have hn5 := bel_call hbr hb5
      cases hb : phit x p
      · have hn := Lib.hid (hnxt.out hb)
        clear hb hnxt hfst hall
        go_wp2_with fail
        go_roundw
        case rel => exact ⟨k + 1, hlt, by go_num, hn, hn5⟩
        case measure => simp [intOf]; omega
      · have hn := Lib.hid (hfst.out hb)
        clear hb hnxt hfst hall
        go_wp2_with fail
        go_ret
        exact ⟨by rw [hn.out]; rfl, hn5⟩
    · have hn := Lib.hid (pcnt_none (x := x) (l := ps) fun p hp => hall.out p (by rw [List.take_of_length_le (by omega)]; exact hp)).2
      clear hall
      go_wp2_with fail
      go_ret
      exact ⟨by rw [hn]; rfl, hbr⟩
set_option maxRecDepth 100000 in
set_option maxHeartbeats 1000000 in
theorem Find_any {A : Option Addr} {c : Nat} (n f t r : Int) (d : Dg) (ps : List Pt5) (x : Int) (w : World) (h : SlP w A c ps) (hp : ∀ p ∈ ps, PtFit p) (hx : I64 x) :
    Calls Try.prog 27 #[.agg (mfa n f t r d A ps.length c), .int .i64 x] w fun e w' => e = .returned (.tuple #[.int .i64 (max (pidx x ps) 0), .bool (decide (0 ≤ pidx x ps))]) ∧ Below w.heap.size w w' := by
  have hB : BlM _ w.heap.size n f t r d A ps.length c := Blk.new w 52 (mfa n f t r d A ps.length c)
  have hbw := bel_alloc (below_new w (.cells (mfa n f t r d A ps.length c) 52)) (.cells #[.int .i64 x] 3)
  have hX := Blk.newAt (w := w.alloc (.cells (mfa n f t r d A ps.length c) 52)) (g := w.heap.size + 1) (by simp) 3 #[.int .i64 x]
  have hB1 : BlM _ w.heap.size n f t r d A ps.length c := Blk.alloc hB (.cells #[.int .i64 x] 3)
  obtain ⟨a0, a1, a2, a3, a4⟩ := BlM.five hB1
  have hcx := Lib.hid ((hX.cell 0).trans (show _ = some (.int .i64 x) from rfl))
  have hge := pidx_ge x ps
  have hmf : ∀ (fn : Fn) (first cap : Array Value) (w : World), (Instr.makeFunc fn first cap).run Try.prog w = .ok (.func fn first cap) w := fun _ _ _ _ => rfl
  clear hX hB
  go_enter Try.func27, Try.ntmps27
  go_wp2_with fail
  refine (IdxF_any ps x (w.heap.size + 1) _ (h.below hbw) hcx.out hp hx).mono ?_
  rintro e w1 ⟨rfl, hb1⟩
  have hw := bel_call hbw hb1
  clear hmf a0 a1 a2 a3 a4
  go_wp2_with fail
  go_ret2
  exact ⟨rfl, hw⟩
end Go.Proofs.Ytgipfenjachpnaa

namespace Go.Proofs.Ytgipfenjachpnaa
open Go.RowKit
attribute [local go_sem ↓] Go.wp_at_zero Go.wp_at_succ

theorem one_cf (l : List CeV) : ∀ u ∈ l.flatMap cf, u.oneCell' = true := by
  intro u hu
  simp only [List.mem_flatMap, List.mem_cons, List.not_mem_nil, or_false] at hu
  obtain ⟨x, _, hx⟩ := hu
  rcases hx with rfl | rfl <;> rfl
theorem step_cells {w : World} {ops : Array Oper} {o : Oper} {a : Act} {K : Act → World → Prop} {Q : Exit → Act → World → Prop} {X : Prop} (hw : Region.wanted o (yielded ops a.tmps) = true) (s x : Operand)
    (ho : o.op = .call { callee := .builtin .append, args := #[s, x], argTypes := #[27, 27] })
    (base : Nat) (A : Option Addr) (c : Nat) (l : List CeV) (hs : a.eval s = .slice A l.length c) (hown : Own w base 24 2 A l.length c (l.flatMap cf))
    (A2 : Option Addr) (c2 n2 : Nat) (l2 : List CeV) (hn2 : n2 = l2.length) (hx : a.eval x = .slice A2 n2 c2) (hr : Sl w 2 A2 l2.length c2 (l2.flatMap cf)) (hlen : l.length + l2.length ≤ 1000000000) (hbase : base ≤ w.heap.size)
    (h : ∀ A' c' (m : List CeV) w', Hid (m = l ++ l2) → Own w' base 24 2 A' m.length c' (m.flatMap cf) → w.grownBy w' (A.map (·.block)) → Below base w w' → K (a.put o.dst (.slice A' m.length c')) w') :
    if Region.wanted o (yielded ops a.tmps) = true then Oper.wp Try.prog o a w K Q else X := by
  subst hn2
  obtain ⟨i0, hi, hz0, hz1, hz2⟩ := info_parts cell_info
  refine step_append hw s x 27 ho base 24 i0 _ 2 32 Try.underlying27 hi hz0 hz1 hz2 rfl (by decide) A l.length c (l.flatMap cf) hs hown A2 l2.length c2 (l2.flatMap cf) hx hr (one_cf l2) (by omega) (by simp only [maxLen]; omega) hbase ?_
  intro A' c' w' hap
  rw [← List.length_append]
  refine h A' c' (l ++ l2) w' rfl ?_ hap.grown (hap.below hown hbase)
  have := hap.own
  simpa using this
theorem one_df (l : List Ce) : ∀ u ∈ l.flatMap df, u.oneCell' = true := by
  intro u hu
  simp only [List.mem_flatMap, List.mem_cons, List.not_mem_nil, or_false] at hu
  obtain ⟨x, _, hx⟩ := hu
  rcases hx with rfl | rfl <;> rfl
theorem step_dcells {w : World} {ops : Array Oper} {o : Oper} {a : Act} {K : Act → World → Prop} {Q : Exit → Act → World → Prop} {X : Prop} (hw : Region.wanted o (yielded ops a.tmps) = true) (s x : Operand)
    (ho : o.op = .call { callee := .builtin .append, args := #[s, x], argTypes := #[69, 69] })
    (base : Nat) (A : Option Addr) (c : Nat) (l : List Ce) (hs : a.eval s = .slice A l.length c) (hown : Own w base 29 2 A l.length c (l.flatMap df))
    (A2 : Option Addr) (c2 n2 : Nat) (l2 : List Ce) (hn2 : n2 = l2.length) (hx : a.eval x = .slice A2 n2 c2) (hr : Sl w 2 A2 l2.length c2 (l2.flatMap df)) (hlen : l.length + l2.length ≤ 1000000000) (hbase : base ≤ w.heap.size)
    (h : ∀ A' c' (m : List Ce) w', Hid (m = l ++ l2) → Own w' base 29 2 A' m.length c' (m.flatMap df) → w.grownBy w' (A.map (·.block)) → Below base w w' → K (a.put o.dst (.slice A' m.length c')) w') :
    if Region.wanted o (yielded ops a.tmps) = true then Oper.wp Try.prog o a w K Q else X := by
  subst hn2
  obtain ⟨i0, hi, hz0, hz1, hz2⟩ := info_parts dcell_info
  refine step_append hw s x 69 ho base 29 i0 _ 2 24 Try.underlying69 hi hz0 hz1 hz2 rfl (by decide) A l.length c (l.flatMap df) hs hown A2 l2.length c2 (l2.flatMap df) hx hr (one_df l2) (by omega) (by simp only [maxLen]; omega) hbase ?_
  intro A' c' w' hap
  rw [← List.length_append]
  refine h A' c' (l ++ l2) w' rfl ?_ hap.grown (hap.below hown hbase)
  have := hap.own
  simpa using this
/-- a row of another type is as it was behind an append -/
theorem Own.other {w w' : World} {base base' : Nat} {e e' : TypeId} {size size' n n' c c' : Nat} {A B : Option Addr} {xs ys : List Value} (h : Own w base' e' size' B n' c' ys) (ho : Own w base e size A n c xs) (hg : w.grownBy w' (A.map (·.block))) (hne : e ≠ e') : Own w' base' e' size' B n' c' ys := by
  obtain ⟨h1, h2⟩ := h
  refine ⟨h1, ?_⟩
  rcases h2 with h2 | ⟨g', cap, cur, hv, hb, hh, r⟩
  · exact Or.inl h2
  · refine Or.inr ⟨g', cap, cur, hv, hb, (hg.block g' (Array.getElem?_eq_some_iff.1 hh).1 (fun he => ?_)).trans hh, r⟩
    rcases ho.2 with ⟨hv2, _⟩ | ⟨g2, cap2, cur2, hv2, _, hh2, _⟩
    · injection hv2 with hA
      subst hA
      simp at he
    · injection hv2 with hA
      subst hA
      simp at he
      subst he
      rw [hh] at hh2
      injection hh2 with hh2
      injection hh2 with _ ht
      exact hne ht.symm
theorem Own.ltB {w : World} {base : Nat} {e : TypeId} {size n c : Nat} {A : Option Addr} {xs : List Value} (h : Own w base e size A n c xs) : ∀ g, A.map (·.block) = some g → base ≤ g ∧ g < w.heap.size := by
  intro g hg
  rcases h.2 with ⟨hv, _⟩ | ⟨g2, cap, cur, hv, hb, hh, _⟩
  · injection hv with hA
    subst hA
    simp at hg
  · injection hv with hA
    subst hA
    simp at hg
    subst hg
    exact ⟨hb, (Array.getElem?_eq_some_iff.1 hh).1⟩
theorem Own.set1 {w : World} {base : Nat} {e : TypeId} {size n c : Nat} {A : Option Addr} {xs : List Value} (h : Own w base e size A n c xs) {g i : Nat} (hg : g < base) (u : Value) : Own (w.setCell ⟨g, i, none⟩ u) base e size A n c xs :=
  ownsRow_setCell_below (a := ⟨g, i, none⟩) h hg u

/-- a new segment: a row of its own, bytes of its own -/
def NewS (w' : World) (base : Nat) (A : Option Addr) (c : Nat) (m : List CeV) : Prop := Own w' base 24 2 A m.length c (m.flatMap cf) ∧ ∀ x ∈ m, OwnB w' base 5 x.2.1 x.2.2.1 x.2.2.2
theorem NewS.slc {w' : World} {base : Nat} {A : Option Addr} {c : Nat} {m : List CeV} (h : NewS w' base A c m) : SlC w' A c m := ⟨h.1.sl, fun x hx => (h.2 x hx).sl⟩
theorem NewS.below {w w' : World} {base : Nat} {A : Option Addr} {c : Nat} {m : List CeV} (h : NewS w base A c m) (hb : Below w.heap.size w w') : NewS w' base A c m := ⟨Own.below h.1 hb, fun x hx => Own.below (h.2 x hx) hb⟩
theorem NewS.more {w : World} {base base' : Nat} {A : Option Addr} {c : Nat} {m : List CeV} (h : NewS w base A c m) (hb : base' ≤ base) : NewS w base' A c m := ⟨h.1.more hb, fun x hx => (h.2 x hx).more hb⟩

end Go.Proofs.Ytgipfenjachpnaa
