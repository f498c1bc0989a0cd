/- WHAT IT HOLDS: which manifests there are, walked. | WHAT IT HOLDS: a segment's copy, walked; append of cells at a step of a region that draws. | WHAT IT HOLDS: Join of segments, walked. | WHAT IT HOLDS: Slice of segments, walked. | WHAT IT HOLDS: sums of bytes, plainly (no program): bit by bit, by the table, joined by exclusive or, and what they find. | WHAT IT HOLDS: sync.Once of one goroutine: its lock, its two deferred calls, and that Do calls a function once, then never again. -/
import Derived.Test.YtgfigkenpmmdeaaManifestTakesG04
import Derived.Test.YtgfigkenpmmdeaaManifestTakesG02
import Derived.Test.YtgfigkenpmmdeaaManifestTakesG01
import Derived.Laws.BitsAllLaws
import Derived.Test.YtgfigkenpmmdeaaRows
import Derived.Tactics
import Derived.Tactics2
import Derived.Defers
import Derived.Laws.Pointers
import Derived.Laws.LoneSync
import Derived.RegionTactic
import Derived.RegionCalls
namespace Go.Proofs.Ytgfigkenpmmdeaa
open Go.RowKit
attribute [local go_sem ↓] Go.wp_at_zero Go.wp_at_succ

set_option maxRecDepth 100000 in
set_option maxHeartbeats 400000 in
theorem MIn_any (x m : Int) (w : World) : Calls Try.prog 51 #[.int .i64 x, .int .i64 m] w fun e w' => e = .returned (.bool (inb x m)) ∧ w = w' := by
  go_enter Try.func51, Try.ntmps51
  by_cases h : 0 ≤ x
  · have h2 : decide (0 ≤ x) = true := by simp [h]
    go_wp2_with fail
    go_ret
    exact ⟨by unfold inb; rw [h2]; rfl, rfl⟩
  · have h2 : decide (0 ≤ x) = false := by simp [h]
    go_wp2_with fail
    go_ret
    exact ⟨by unfold inb; rw [h2]; rfl, rfl⟩
theorem zeros : (#[.int .u8 0, .int .u8 0, .int .u8 0, .int .u8 0, .int .u8 0, .int .u8 0, .int .u8 0, .int .u8 0, .int .u8 0, .int .u8 0, .int .u8 0, .int .u8 0, .int .u8 0, .int .u8 0, .int .u8 0, .int .u8 0, .int .u8 0, .int .u8 0, .int .u8 0, .int .u8 0, .int .u8 0, .int .u8 0, .int .u8 0, .int .u8 0, .int .u8 0, .int .u8 0, .int .u8 0, .int .u8 0, .int .u8 0, .int .u8 0, .int .u8 0, .int .u8 0] : Array Value) = dga dg0 := rfl
set_option maxRecDepth 100000 in
set_option maxHeartbeats 1000000 in
theorem Zero_any (d : Dg) (w : World) : Calls Try.prog 52 #[.agg (dga d)] w fun e w' => e = .returned (.bool (decide (d = dg0))) ∧ Below w.heap.size w w' := by
  have hB := Blk.new w 24 (dga d)
  have hE := eql_dg d dg0
  rw [← zeros] at hE
  have hsz := Lib.hid (dga_size d)
  generalize decide (d = dg0) = zb at *
  generalize dga d = da at *
  go_enter Try.func52, Try.ntmps52
  go_wp2_with (refine wpl_loadG rfl 24 _ rfl _ da rfl hB.cells _ Try.underlying24 rfl (by rw [hsz.out]; kernel_rfl) ?_)
  go_ret
  exact ⟨rfl, below_new _ _⟩
theorem wrap_sub1 {m c : Int} (h : I64 m) (hc : 0 ≤ c) (hc2 : c ≤ 1000000) : inb (wrap64 (m - 1)) c = (decide (1 ≤ m) && decide (m ≤ c + 1)) := by
  unfold I64 at h
  obtain ⟨h1, h2⟩ := h
  unfold inb
  rw [Bool.eq_iff_iff]
  simp only [Bool.and_eq_true, decide_eq_true_eq, wrap64]
  omega
theorem ptchk_range {p : Pt5} {a : Int} (h : (decide (1 ≤ p.2.1) && decide (p.2.1 ≤ 63 + 1)) = false ∨ (decide (1 ≤ p.2.2.1) && decide (p.2.2.1 ≤ 65535 + 1)) = false) : ptchk p a = 1 := by
  unfold ptchk
  simp only [Bool.and_eq_false_iff, decide_eq_false_iff_not] at h
  rw [if_pos (by omega)]
theorem ptchk_at {p : Pt5} {a : Int} (h : (decide (1 ≤ p.2.1) && decide (p.2.1 ≤ 63 + 1)) = true) (h2 : (decide (1 ≤ p.2.2.1) && decide (p.2.2.1 ≤ 65535 + 1)) = true) : ptchk p a = if p.1 ≠ a then 2 else 0 := by
  unfold ptchk
  simp only [Bool.and_eq_true, decide_eq_true_eq] at h h2
  rw [if_neg (by omega)]
set_option maxRecDepth 100000 in
set_option maxHeartbeats 1000000 in
theorem PtCheck_any (p : Pt5) (a : Int) (h1 : I64 p.2.1) (h2 : I64 p.2.2.1) (w : World) :
    Calls Try.prog 53 #[.agg (pta p), .int .i64 a] w fun e w' => e = .returned (errv (ptchk p a)) ∧ Below w.heap.size w w' := by
  have hB := Blk.new w 68 (pta p)
  have hbw := below_new w (.cells (pta p) 68)
  have hI1 := wrap_sub1 h1 (c := 63) (by decide) (by decide)
  have hI2 := wrap_sub1 h2 (c := 65535) (by decide) (by decide)
  have hbad := fun h => Lib.hid (ptchk_range (p := p) (a := a) h)
  have hgood := fun h h2 => Lib.hid (ptchk_at (p := p) (a := a) h h2)
  generalize (decide (1 ≤ p.2.1) && decide (p.2.1 ≤ 63 + 1)) = b1 at *
  generalize (decide (1 ≤ p.2.2.1) && decide (p.2.2.1 ≤ 65535 + 1)) = b2 at *
  obtain ⟨c0, c1, c2⟩ := BlP.three hB
  obtain ⟨z1, hz1⟩ : ∃ z, wrap64 (p.2.1 - 1) = z := ⟨_, rfl⟩
  obtain ⟨z2, hz2⟩ : ∃ z, wrap64 (p.2.2.1 - 1) = z := ⟨_, rfl⟩
  have hw1 : IntKind.i64.wrap (p.2.1 - 1) = z1 := by rw [IntKind.wrap_i64]; simpa only [wrap64] using hz1
  have hw2 : IntKind.i64.wrap (p.2.2.1 - 1) = z2 := by rw [IntKind.wrap_i64]; simpa only [wrap64] using hz2
  have hC1 := fun W => MIn_any z1 63 W
  have hC2 := fun W => MIn_any z2 65535 W
  rw [hz1] at hI1
  rw [hz2] at hI2
  rw [hI1] at hC1
  rw [hI2] at hC2
  have HC1 := Lib.hid hC1
  have HC2 := Lib.hid hC2
  clear hC1 hC2 hI1 hI2 h1 h2 hB
  generalize pta p = pa at *
  go_enter Try.func53, Try.ntmps53
  go_wp2_with fail
  refine (HC1.out _).mono ?_
  rintro e w1 ⟨rfl, rfl⟩
  cases b1 with
  | false =>
    have hc := hbad (.inl rfl)
    clear hbad hgood
    go_wp2_with fail
    go_ret
    exact ⟨by rw [hc.out]; rfl, hbw⟩
  | true =>
    go_wp2_with fail
    refine (HC2.out _).mono ?_
    rintro e w1 ⟨rfl, rfl⟩
    cases b2 with
    | false =>
      have hc := hbad (.inr rfl)
      clear hbad hgood
      go_wp2_with fail
      go_ret
      exact ⟨by rw [hc.out]; rfl, hbw⟩
    | true =>
      have hg := hgood trivial rfl
      clear hbad hgood
      by_cases ha : p.1 = a
      · have hb : (p.1 != a) = false := by simp [ha]
        have hc : Hid (ptchk p a = 0) := (show _ = _ from by rw [hg.out, if_neg (by simp [ha])])
        clear hg ha
        go_wp2_with fail
        go_ret
        exact ⟨by rw [hc.out]; rfl, hbw⟩
      · have hb : (p.1 != a) = true := by simpa using ha
        have hc : Hid (ptchk p a = 2) := (show _ = _ from by rw [hg.out, if_pos ha])
        clear hg ha
        go_wp2_with fail
        go_ret
        exact ⟨by rw [hc.out]; rfl, hbw⟩
theorem mchk_range {m : Mf} (h : inb m.1 999999 = false ∨ inb m.2.1 1048576 = false ∨ inb m.2.2.1 1048576 = false ∨ inb m.2.2.2.1 1048576 = false) : mchk m = 1 := by
  unfold mchk
  rw [if_pos]
  rcases h with h | h | h | h <;> simp [h]
theorem mchk_form {m : Mf} (h1 : inb m.1 999999 = true) (h2 : inb m.2.1 1048576 = true) (h3 : inb m.2.2.1 1048576 = true) (h4 : inb m.2.2.2.1 1048576 = true) (h : m.2.2.1 < m.2.1 ∨ (m.1 = 0 ∧ decide (m.2.2.2.2.1 = dg0) = false)) : mchk m = 2 := by
  unfold mchk
  rw [if_neg (by simp [h1, h2, h3, h4]), if_pos]
  rcases h with h | ⟨h, h5⟩
  · simp [h]
  · rw [h, h5]; simp
theorem mchk_rest {m : Mf} (h1 : inb m.1 999999 = true) (h2 : inb m.2.1 1048576 = true) (h3 : inb m.2.2.1 1048576 = true) (h4 : inb m.2.2.2.1 1048576 = true) (h5 : ¬ m.2.2.1 < m.2.1) (h6 : m.1 = 0 → decide (m.2.2.2.2.1 = dg0) = true) :
    mchk m = if 1024 < m.2.2.2.2.2.length then 3 else pgo m.2.2.1 m.2.1 m.2.2.2.2.2 := by
  unfold mchk
  rw [if_neg (by simp [h1, h2, h3, h4]), if_neg]
  simp only [Bool.or_eq_true, Bool.and_eq_true, decide_eq_true_eq, beq_iff_eq, not_or, not_and]
  exact ⟨h5, fun h => by rw [h6 h]; simp⟩
/-- parts whose numbers are numbers -/
def PtsI (ps : List Pt5) : Prop := ∀ p ∈ ps, I64 p.1 ∧ I64 p.2.1 ∧ I64 p.2.2.1
theorem pgo_step {z a : Int} {l : List Pt5} {k : Nat} (hk : k < l.length) (h : ptchk l[k] a = 0) : pgo z a (l.drop k) = pgo z (a + l[k].2.1) (l.drop (k + 1)) := by
  rw [List.drop_eq_getElem_cons hk, pgo, if_neg (by rw [h]; simp)]
theorem pgo_stop {z a : Int} {l : List Pt5} {k : Nat} (hk : k < l.length) (h : ptchk l[k] a ≠ 0) : pgo z a (l.drop k) = ptchk l[k] a := by
  rw [List.drop_eq_getElem_cons hk, pgo, if_pos h]
set_option maxRecDepth 100000 in
set_option maxHeartbeats 4000000 in
theorem MCheck_any {A : Option Addr} {c : Nat} (n f t r : Int) (d : Dg) (ps : List Pt5) (w : World) (h : SlP w A c ps) (hI : PtsI ps) :
    Calls Try.prog 27 #[.agg (mfa n f t r d A ps.length c)] w fun e w' => e = .returned (errv (mchk (n, f, t, r, d, ps))) ∧ Below w.heap.size w w' := by
  have hB : BlM _ w.heap.size n f t r d A ps.length c := Blk.new w 27 (mfa n f t r d A ps.length c)
  have hbw := below_new w (.cells (mfa n f t r d A ps.length c) 27)
  have hmax := h.len_le
  unfold maxLen at hmax
  obtain ⟨b1, hb1⟩ : ∃ b, inb n 999999 = b := ⟨_, rfl⟩
  obtain ⟨b2, hb2⟩ : ∃ b, inb f 1048576 = b := ⟨_, rfl⟩
  obtain ⟨b3, hb3⟩ : ∃ b, inb t 1048576 = b := ⟨_, rfl⟩
  obtain ⟨b4, hb4⟩ : ∃ b, inb r 1048576 = b := ⟨_, rfl⟩
  have hC1 := fun W => MIn_any n 999999 W
  have hC2 := fun W => MIn_any f 1048576 W
  have hC3 := fun W => MIn_any t 1048576 W
  have hC4 := fun W => MIn_any r 1048576 W
  rw [hb1] at hC1
  rw [hb2] at hC2
  rw [hb3] at hC3
  rw [hb4] at hC4
  have HC1 := Lib.hid hC1
  have HC2 := Lib.hid hC2
  have HC3 := Lib.hid hC3
  have HC4 := Lib.hid hC4
  have HB1 := Lib.hid hb1
  have HB2 := Lib.hid hb2
  have HB3 := Lib.hid hb3
  have HB4 := Lib.hid hb4
  clear hb1 hb2 hb3 hb4 hC1 hC2 hC3 hC4
  obtain ⟨a0, a1, a2, a3, a4⟩ := BlM.five hB
  have hdg := Lib.hid hB.dg
  have hds := Lib.hid (dga_size d)
  go_enter Try.func27, Try.ntmps27
  go_wp2_with fail
  refine (HC1.out _).mono ?_
  rintro e w1 ⟨rfl, rfl⟩
  cases b1 with
  | false =>
    have HC := Lib.hid (mchk_range (m := (n, f, t, r, d, ps)) (.inl HB1.out))
    go_wp2_with fail
    go_ret
    exact ⟨by rw [HC.out]; rfl, hbw⟩
  | true =>
  go_wp2_with fail
  refine (HC2.out _).mono ?_
  rintro e w1 ⟨rfl, rfl⟩
  cases b2 with
  | false =>
    have HC := Lib.hid (mchk_range (m := (n, f, t, r, d, ps)) (.inr (.inl HB2.out)))
    go_wp2_with fail
    go_ret
    exact ⟨by rw [HC.out]; rfl, hbw⟩
  | true =>
  go_wp2_with fail
  refine (HC3.out _).mono ?_
  rintro e w1 ⟨rfl, rfl⟩
  cases b3 with
  | false =>
    have HC := Lib.hid (mchk_range (m := (n, f, t, r, d, ps)) (.inr (.inr (.inl HB3.out))))
    go_wp2_with fail
    go_ret
    exact ⟨by rw [HC.out]; rfl, hbw⟩
  | true =>
  go_wp2_with fail
  refine (HC4.out _).mono ?_
  rintro e w1 ⟨rfl, rfl⟩
  cases b4 with
  | false =>
    have HC := Lib.hid (mchk_range (m := (n, f, t, r, d, ps)) (.inr (.inr (.inr HB4.out))))
    go_wp2_with fail
    go_ret
    exact ⟨by rw [HC.out]; rfl, hbw⟩
  | true =>
  clear HC1 HC2 HC3 HC4
  by_cases c1 : t < f
  · have HC := Lib.hid (mchk_form (m := (n, f, t, r, d, ps)) HB1.out HB2.out HB3.out HB4.out (.inl c1))
    go_wp2_with fail
    go_ret
    exact ⟨by rw [HC.out]; rfl, hbw⟩
  by_cases c2 : n = 0
  · have hn0 : (n == 0) = true := by simpa using c2
    have hz := fun W => Zero_any d W
    obtain ⟨zb, hzb⟩ : ∃ b, decide (d = dg0) = b := ⟨_, rfl⟩
    rw [hzb] at hz
    have HZ := Lib.hid hz
    have HZB := Lib.hid hzb
    have HN0 := Lib.hid c2
    clear hz hzb c2
    go_wp2_with (refine wpl_loadG (by kernel_rfl) 24 _ rfl ⟨w.heap.size, 4, none⟩ (dga d) rfl hdg.out _ Try.underlying24 rfl (by rw [hds.out]; kernel_rfl) ?_)
    refine (HZ.out _).mono ?_
    rintro e w2 ⟨rfl, hb2⟩
    have hBm := hB.below hb2
    have hw := bel_call hbw hb2
    clear hB hbw hb2 a0 a1 a2 a3 a4
    cases zb with
    | false =>
      have HC := Lib.hid (mchk_form (m := (n, f, t, r, d, ps)) HB1.out HB2.out HB3.out HB4.out (.inr ⟨HN0.out, HZB.out⟩))
      go_wp2_with fail
      go_ret
      exact ⟨by rw [HC.out]; rfl, hw⟩
    | true =>
      have HM := Lib.hid (mchk_rest (m := (n, f, t, r, d, ps)) HB1.out HB2.out HB3.out HB4.out (by dsimp only; omega) (fun _ => HZB.out))
      obtain ⟨a0, a1, a2, a3, a4⟩ := BlM.five hBm
      dsimp only at HM
      clear HN0 HZ HZB
      by_cases hlen : 1024 < ps.length
      · have hlI : (1024 : Int) < (ps.length : Int) := by omega
        have HC := Lib.hid (show mchk (n, f, t, r, d, ps) = 3 from by rw [HM.out, if_pos hlen])
        clear hlen
        go_wp2_with fail
        go_ret
        exact ⟨by rw [HC.out]; rfl, hw⟩
      · have hlI : (ps.length : Int) ≤ 1024 := by omega
        have HM2 := Lib.hid (show mchk (n, f, t, r, d, ps) = pgo t f ps from by rw [HM.out, if_neg hlen])
        have hf2 := inb_iff.1 HB2.out
        obtain ⟨hf0, hf1⟩ := hf2
        clear hlen HM
        go_wp2_with fail
        go_loopw [60, 3] (fun x y wr => ∃ (k : Nat) (a : Int), k ≤ ps.length ∧ x = .int .i64 k ∧ y = .int .i64 a ∧ Hid (pgo t f ps = pgo t a (ps.drop k)) ∧ f ≤ a ∧ a ≤ f + 64 * k ∧ Below w.heap.size w wr ∧ BlM wr w.heap.size n f t r d A ps.length c) (fun x y w => ps.length - (intOf x).toNat)
        case atStart => exact ⟨0, f, Nat.zero_le _, rfl, rfl, (show _ = _ from by rw [List.drop_zero]), Int.le_refl _, by omega, hw, hBm⟩
        case round =>
          obtain ⟨k, a, hk, rfl, rfl, hp, ha0, ha1, hbr, hBr⟩ := hrel
          clear hw hBm a0 a1 a2 a3 a4
          obtain ⟨a0, a1, a2, a3, a4⟩ := BlM.five hBr
          by_cases hlt : k < ps.length
          · obtain ⟨ad, b, o, rfl, had, hcc⟩ := (h.below hbr).at hlt
            have hnx := Lib.hid (fun h0 => (pgo_step (z := t) (a := a) hlt h0))
            have hst := Lib.hid (fun h0 => (pgo_stop (z := t) (a := a) hlt h0))
            have hIp := hI _ (List.getElem_mem hlt)
            generalize ps[k] = p at *
            obtain ⟨_, hI1, hI2⟩ := hIp
            have hX := Blk.new wr 68 (pta p)
            obtain ⟨x0, x1, x2⟩ := BlP.three hX
            have hbx := below_new wr (.cells (pta p) 68)
            have hps := Lib.hid (pta_size p)
            have hpa := Lib.hid (pta_all p)
            have HCC := Lib.hid hcc
            clear hcc
            go_wp2_with (first | (refine wpl_loadG rfl 68 _ rfl ⟨b, o, none⟩ (pta p) rfl HCC.out _ Try.underlying68 rfl (by rw [hps.out]; kernel_rfl) ?_) | (refine wpl_storeN rfl 68 _ _ rfl _ (pta p) 68 rfl rfl (by rw [hps.out]; kernel_rfl) (by rw [hps.out]; rfl) hpa.out ?_) | (refine wpl_loadG rfl 68 _ rfl ⟨wr.heap.size, 0, none⟩ (pta p) rfl hX.cells _ Try.underlying68 rfl (by rw [hps.out]; kernel_rfl) ?_))
            have hXb := hX
            refine (PtCheck_any p a hI1 hI2 _).mono ?_
            rintro e w5 ⟨rfl, hb5⟩
            replace hXb := Blk.below hXb hb5
            have hn5 := bel_call (bel_call hbr hbx) hb5
            have hBn : BlM w5 w.heap.size n f t r d (some ad) ps.length c := Blk.below (Blk.below hBr hbx) hb5
            rcases errv_cases (ptchk p a) with ⟨h0, hev⟩ | ⟨q, hq, hqe, hev⟩
            · have hp2 := hnx.out h0
              obtain ⟨_, hm64, _, _, _⟩ := ptchk_ok h0
              have hm1 : 1 ≤ p.2.1 := (ptchk_ok h0).1
              have HP := Lib.hid (hp.out.trans hp2)
              rw [hev]
              clear hev h0 hp2 hnx hst hp x0 x1 x2 a0 a1 a2 a3 a4 hX hI1 hI2 hps hpa HCC
              obtain ⟨x0, x1, x2⟩ := BlP.three hXb
              have hwa : wrap64 (a + p.2.1) = a + p.2.1 := by simp only [wrap64]; omega
              have hwa2 : IntKind.i64.wrap (a + p.2.1) = a + p.2.1 := by rw [IntKind.wrap_i64]; omega
              go_wp2_with fail
              go_roundw
              case rel => exact ⟨k + 1, a + p.2.1, hlt, by go_num, rfl, HP, by omega, by omega, hn5, hBn⟩
              case measure => simp [intOf]; omega
            · have hp2 := hst.out (by omega)
              have HP := Lib.hid ((HM2.out.trans hp.out).trans hp2)
              have HEV := Lib.hid hev
              rw [hev]
              clear hev hqe hp2 hnx hst hp x0 x1 x2 a0 a1 a2 a3 a4 hX hI1 hI2 hps hpa HCC
              go_wp2_with fail
              go_ret
              exact ⟨by rw [HP.out, HEV.out]; rfl, hn5⟩
          · have hkn : ps.drop k = [] := List.drop_eq_nil_of_le (by omega)
            have HP := Lib.hid (show mchk (n, f, t, r, d, ps) = if a ≠ t then 2 else 0 from by rw [HM2.out, hp.out, hkn]; rfl)
            clear hp hkn
            by_cases hat : a = t
            · have hb : (a != t) = false := by simp [hat]
              have HC := Lib.hid (show mchk (n, f, t, r, d, ps) = 0 from by rw [HP.out, if_neg (by simp [hat])])
              clear HP hat
              go_wp2_with fail
              go_ret
              exact ⟨by rw [HC.out]; rfl, hbr⟩
            · have hb : (a != t) = true := by simpa using hat
              have HC := Lib.hid (show mchk (n, f, t, r, d, ps) = 2 from by rw [HP.out, if_pos hat])
              clear HP hat
              go_wp2_with fail
              go_ret
              exact ⟨by rw [HC.out]; rfl, hbr⟩
  · have hn0 : (n == 0) = false := by simpa using c2
    have HM := Lib.hid (mchk_rest (m := (n, f, t, r, d, ps)) HB1.out HB2.out HB3.out HB4.out (by dsimp only; omega) (fun h0 => absurd h0 c2))
    have hBm := hB
    have hw := hbw
    dsimp only at HM
    clear hB hbw c2
    by_cases hlen : 1024 < ps.length
    · have hlI : (1024 : Int) < (ps.length : Int) := by omega
      have HC := Lib.hid (show mchk (n, f, t, r, d, ps) = 3 from by rw [HM.out, if_pos hlen])
      clear hlen
      go_wp2_with fail
      go_ret
      exact ⟨by rw [HC.out]; rfl, hw⟩
    · have hlI : (ps.length : Int) ≤ 1024 := by omega
      have HM2 := Lib.hid (show mchk (n, f, t, r, d, ps) = pgo t f ps from by rw [HM.out, if_neg hlen])
      have hf2 := inb_iff.1 HB2.out
      obtain ⟨hf0, hf1⟩ := hf2
      clear hlen HM
      go_wp2_with fail
      go_loopw [60, 3] (fun x y wr => ∃ (k : Nat) (a : Int), k ≤ ps.length ∧ x = .int .i64 k ∧ y = .int .i64 a ∧ Hid (pgo t f ps = pgo t a (ps.drop k)) ∧ f ≤ a ∧ a ≤ f + 64 * k ∧ Below w.heap.size w wr ∧ BlM wr w.heap.size n f t r d A ps.length c) (fun x y w => ps.length - (intOf x).toNat)
      case atStart => exact ⟨0, f, Nat.zero_le _, rfl, rfl, (show _ = _ from by rw [List.drop_zero]), Int.le_refl _, by omega, hw, hBm⟩
      case round =>
        obtain ⟨k, a, hk, rfl, rfl, hp, ha0, ha1, hbr, hBr⟩ := hrel
        clear hw hBm a0 a1 a2 a3 a4
        obtain ⟨a0, a1, a2, a3, a4⟩ := BlM.five hBr
        by_cases hlt : k < ps.length
        · obtain ⟨ad, b, o, rfl, had, hcc⟩ := (h.below hbr).at hlt
          have hnx := Lib.hid (fun h0 => (pgo_step (z := t) (a := a) hlt h0))
          have hst := Lib.hid (fun h0 => (pgo_stop (z := t) (a := a) hlt h0))
          have hIp := hI _ (List.getElem_mem hlt)
          generalize ps[k] = p at *
          obtain ⟨_, hI1, hI2⟩ := hIp
          have hX := Blk.new wr 68 (pta p)
          obtain ⟨x0, x1, x2⟩ := BlP.three hX
          have hbx := below_new wr (.cells (pta p) 68)
          have hps := Lib.hid (pta_size p)
          have hpa := Lib.hid (pta_all p)
          have HCC := Lib.hid hcc
          clear hcc
          go_wp2_with (first | (refine wpl_loadG rfl 68 _ rfl ⟨b, o, none⟩ (pta p) rfl HCC.out _ Try.underlying68 rfl (by rw [hps.out]; kernel_rfl) ?_) | (refine wpl_storeN rfl 68 _ _ rfl _ (pta p) 68 rfl rfl (by rw [hps.out]; kernel_rfl) (by rw [hps.out]; rfl) hpa.out ?_) | (refine wpl_loadG rfl 68 _ rfl ⟨wr.heap.size, 0, none⟩ (pta p) rfl hX.cells _ Try.underlying68 rfl (by rw [hps.out]; kernel_rfl) ?_))
          have hXb := hX
          refine (PtCheck_any p a hI1 hI2 _).mono ?_
          rintro e w5 ⟨rfl, hb5⟩
          replace hXb := Blk.below hXb hb5
          have hn5 := bel_call (bel_call hbr hbx) hb5
          have hBn : BlM w5 w.heap.size n f t r d (some ad) ps.length c := Blk.below (Blk.below hBr hbx) hb5
          rcases errv_cases (ptchk p a) with ⟨h0, hev⟩ | ⟨q, hq, hqe, hev⟩
          · have hp2 := hnx.out h0
            obtain ⟨_, hm64, _, _, _⟩ := ptchk_ok h0
            have hm1 : 1 ≤ p.2.1 := (ptchk_ok h0).1
            have HP := Lib.hid (hp.out.trans hp2)
            rw [hev]
            clear hev h0 hp2 hnx hst hp x0 x1 x2 a0 a1 a2 a3 a4 hX hI1 hI2 hps hpa HCC
            obtain ⟨x0, x1, x2⟩ := BlP.three hXb
            have hwa : wrap64 (a + p.2.1) = a + p.2.1 := by simp only [wrap64]; omega
            have hwa2 : IntKind.i64.wrap (a + p.2.1) = a + p.2.1 := by rw [IntKind.wrap_i64]; omega
            go_wp2_with fail
            go_roundw
            case rel => exact ⟨k + 1, a + p.2.1, hlt, by go_num, rfl, HP, by omega, by omega, hn5, hBn⟩
            case measure => simp [intOf]; omega
          · have hp2 := hst.out (by omega)
            have HP := Lib.hid ((HM2.out.trans hp.out).trans hp2)
            have HEV := Lib.hid hev
            rw [hev]
            clear hev hqe hp2 hnx hst hp x0 x1 x2 a0 a1 a2 a3 a4 hX hI1 hI2 hps hpa HCC
            go_wp2_with fail
            go_ret
            exact ⟨by rw [HP.out, HEV.out]; rfl, hn5⟩
        · have hkn : ps.drop k = [] := List.drop_eq_nil_of_le (by omega)
          have HP := Lib.hid (show mchk (n, f, t, r, d, ps) = if a ≠ t then 2 else 0 from by rw [HM2.out, hp.out, hkn]; rfl)
          clear hp hkn
          by_cases hat : a = t
          · have hb : (a != t) = false := by simp [hat]
            have HC := Lib.hid (show mchk (n, f, t, r, d, ps) = 0 from by rw [HP.out, if_neg (by simp [hat])])
            clear HP hat
            go_wp2_with fail
            go_ret
            exact ⟨by rw [HC.out]; rfl, hbr⟩
          · have hb : (a != t) = true := by simpa using hat
            have HC := Lib.hid (show mchk (n, f, t, r, d, ps) = 2 from by rw [HP.out, if_pos hat])
            clear HP hat
            go_wp2_with fail
            go_ret
            exact ⟨by rw [HC.out]; rfl, hbr⟩
end Go.Proofs.Ytgfigkenpmmdeaa

namespace Go.Proofs.Ytgfigkenpmmdeaa
open Go.RowKit
attribute [local go_sem ↓] Go.wp_at_zero Go.wp_at_succ

theorem one_cf (l : List CeV) : ∀ u ∈ l.flatMap cf, u.oneCell' = true := by
  intro u hu
  simp only [List.mem_flatMap, List.mem_cons, List.not_mem_nil, or_false] at hu
  obtain ⟨x, _, hx⟩ := hu
  rcases hx with rfl | rfl <;> rfl
theorem one_df (l : List Ce) : ∀ u ∈ l.flatMap df, u.oneCell' = true := by
  intro u hu
  simp only [List.mem_flatMap, List.mem_cons, List.not_mem_nil, or_false] at hu
  obtain ⟨x, _, hx⟩ := hu
  rcases hx with rfl | rfl <;> rfl
/-- a row of another type is as it was behind an append -/
theorem Own.other {w w' : World} {base base' : Nat} {e e' : TypeId} {size size' n n' c c' : Nat} {A B : Option Addr} {xs ys : List Value} (h : Own w base' e' size' B n' c' ys) (ho : Own w base e size A n c xs) (hg : w.grownBy w' (A.map (·.block))) (hne : e ≠ e') : Own w' base' e' size' B n' c' ys := by
  obtain ⟨h1, h2⟩ := h
  refine ⟨h1, ?_⟩
  rcases h2 with h2 | ⟨g', cap, cur, hv, hb, hh, r⟩
  · exact Or.inl h2
  · refine Or.inr ⟨g', cap, cur, hv, hb, (hg.block g' (Array.getElem?_eq_some_iff.1 hh).1 (fun he => ?_)).trans hh, r⟩
    rcases ho.2 with ⟨hv2, _⟩ | ⟨g2, cap2, cur2, hv2, _, hh2, _⟩
    · injection hv2 with hA
      subst hA
      simp at he
    · injection hv2 with hA
      subst hA
      simp at he
      subst he
      rw [hh] at hh2
      injection hh2 with hh2
      injection hh2 with _ ht
      exact hne ht.symm
theorem Own.ltB {w : World} {base : Nat} {e : TypeId} {size n c : Nat} {A : Option Addr} {xs : List Value} (h : Own w base e size A n c xs) : ∀ g, A.map (·.block) = some g → base ≤ g ∧ g < w.heap.size := by
  intro g hg
  rcases h.2 with ⟨hv, _⟩ | ⟨g2, cap, cur, hv, hb, hh, _⟩
  · injection hv with hA
    subst hA
    simp at hg
  · injection hv with hA
    subst hA
    simp at hg
    subst hg
    exact ⟨hb, (Array.getElem?_eq_some_iff.1 hh).1⟩
theorem Own.set1 {w : World} {base : Nat} {e : TypeId} {size n c : Nat} {A : Option Addr} {xs : List Value} (h : Own w base e size A n c xs) {g i : Nat} (hg : g < base) (u : Value) : Own (w.setCell ⟨g, i, none⟩ u) base e size A n c xs :=
  ownsRow_setCell_below (a := ⟨g, i, none⟩) h hg u

end Go.Proofs.Ytgfigkenpmmdeaa

namespace Go.Proofs.Ytgfigkenpmmdeaa
open Go.RowKit
attribute [local go_sem ↓] Go.wp_at_zero Go.wp_at_succ

/-- a row lies in no block of another type -/
theorem Own.wrT {w w' : World} {base g : Nat} {e t : TypeId} {size n c : Nat} {A : Option Addr} {xs : List Value} {cs : Array Value} (h : Own w base e size A n c xs) (hw : Wr w w' g) (hb : Blk w g t cs) (hne : e ≠ t) : Own w' base e size A n c xs := by
  obtain ⟨h1, h2⟩ := h
  refine ⟨h1, ?_⟩
  rcases h2 with h2 | ⟨g', cap, cur, hv, hbb, hh, r⟩
  · exact Or.inl h2
  · refine Or.inr ⟨g', cap, cur, hv, hbb, (hw.block g' (Array.getElem?_eq_some_iff.1 hh).1 (fun he => ?_)).trans hh, r⟩
    injection he with he
    subst he
    unfold Blk at hb
    rw [hb] at hh
    injection hh with hh
    injection hh with _ ht
    exact hne ht.symm
theorem Own.setT {w : World} {base g i : Nat} {e t : TypeId} {size n c : Nat} {A : Option Addr} {xs : List Value} {cs : Array Value} (h : Own w base e size A n c xs) (hb : Blk w g t cs) (hne : e ≠ t) (u : Value) : Own (w.setCell ⟨g, i, none⟩ u) base e size A n c xs :=
  h.wrT (Wr.set_ (Wr.refl (g := g) w) i u) hb hne

/-- what gives a segment and an error -/
def GivesSg (w0 : World) (x : Sg × Nat) (e : Ending) (w' : World) : Prop :=
  ∃ A c m, e = .returned (.tuple #[cv x.1.1 A (List.length m) c, errv x.2]) ∧ Hid (m.map ceOf = x.1.2) ∧ SlC w' A c m ∧ Below w0.heap.size w0 w'
theorem SlC.nil (w : World) : SlC w none 0 [] := ⟨Sl.none_ _ _, fun x hx => by simp at hx⟩
section
variable {w W W' : World} {f fb : Int} {E G : Option Addr} {n cap n2 cap2 : Nat}
end

end Go.Proofs.Ytgfigkenpmmdeaa

namespace Go.Proofs.Ytgfigkenpmmdeaa
open Go.RowKit
attribute [local go_sem ↓] Go.wp_at_zero Go.wp_at_succ

theorem flat_take : ∀ (k : Nat) (l : List CeV), (l.flatMap cf).take (k * 2) = (l.take k).flatMap cf
  | 0, l => by simp
  | k + 1, [] => by simp
  | k + 1, x :: l => by
    have h := flat_take k l
    rw [show (k + 1) * 2 = k * 2 + 1 + 1 from by omega]
    simp only [List.flatMap_cons, List.take_succ_cons, cf]
    simp only [List.cons_append, List.nil_append, List.take_succ_cons]
    rw [h]
theorem SlC.take {w : World} {E : Option Addr} {cap : Nat} {l : List CeV} (h : SlC w E cap l) {k : Nat} (hk : k ≤ l.length) : SlC w E cap (l.take k) := by
  refine ⟨?_, fun x hx => h.2 x (List.mem_of_mem_take hx)⟩
  obtain ⟨h1, h2, h3, h4, h5⟩ := h.1
  rw [← flat_take, show (l.take k).length = k from by simp; omega]
  refine ⟨by rw [List.length_take, h1]; omega, by omega, h3, fun e => by have := h4 e; omega, fun j u hj => ?_⟩
  have hlt := (List.getElem?_eq_some_iff.1 hj).1
  rw [List.length_take] at hlt
  rw [List.getElem?_take_of_lt (by omega)] at hj
  exact h5 j u hj

theorem Own.setT2 {w : World} {base g : Nat} {e t : TypeId} {size n c : Nat} {A : Option Addr} {xs : List Value} {cs : Array Value} (h : Own w base e size A n c xs) (hb : Blk w g t cs) (hne : e ≠ t) (u v : Value) : Own ((w.setCell ⟨g, 0, none⟩ u).setCell ⟨g, 1, none⟩ v) base e size A n c xs :=
  h.wrT ((Wr.set_ (Wr.refl (g := g) w) 0 u).set_ 1 v) hb hne
theorem Own.lit0 {w : World} {base : Nat} (size : Nat) (e : TypeId) (hb : base ≤ w.heap.size) : Own (w.alloc (.cells #[] e)) base e size (some ⟨w.heap.size, 0, none⟩) 0 0 [] := Own.lit size hb
end Go.Proofs.Ytgfigkenpmmdeaa

namespace Go.Proofs.Ytgfigkenpmmdeaa
open Go.RowKit

abbrev W32 := BitVec 32
def P32 : W32 := 2197175160#32
/-- one bit -/
def st1 (x : W32) : W32 := (x >>> 1) ^^^ (if x.getLsbD 0 then P32 else 0#32)
/-- that often -/
def stn : Nat → W32 → W32
  | 0, x => x
  | n + 1, x => stn n (st1 x)
def st8 (x : W32) : W32 := stn 8 x
def bw (b : UInt8) : W32 := BitVec.ofNat 32 b.toNat
def crcS (x : W32) (l : List UInt8) : W32 := l.foldl (fun x b => st8 (x ^^^ bw b)) x
/-- the sum of more bytes -/
def extW (s : W32) (l : List UInt8) : W32 := ~~~ crcS (~~~ s) l
def sumW (l : List UInt8) : W32 := extW 0#32 l
def four (x : W32) : List UInt8 := [UInt8.ofNat (x.toNat / 16777216), UInt8.ofNat (x.toNat / 65536 % 256), UInt8.ofNat (x.toNat / 256 % 256), UInt8.ofNat (x.toNat % 256)]

theorem st1_xor (x y : W32) : st1 (x ^^^ y) = st1 x ^^^ st1 y := by
  unfold st1
  apply BitVec.eq_of_getLsbD_eq
  intro i hi
  simp only [BitVec.getLsbD_xor, BitVec.getLsbD_ushiftRight]
  cases x.getLsbD 0 <;> cases y.getLsbD 0 <;> simp [Bool.xor_comm, Bool.xor_left_comm]
theorem st1_zero : st1 0#32 = 0#32 := by decide
theorem stn_xor (n : Nat) : ∀ x y, stn n (x ^^^ y) = stn n x ^^^ stn n y := by
  induction n with
  | zero => intro x y; rfl
  | succ n ih => intro x y; simp only [stn, st1_xor, ih]
theorem stn_zero (n : Nat) : stn n 0#32 = 0#32 := by
  induction n with
  | zero => rfl
  | succ n ih => rw [stn, st1_zero, ih]
theorem P32_top : P32.getLsbD 31 = true := by decide
theorem st1_inj {x : W32} (h : st1 x = 0#32) : x = 0#32 := by
  unfold st1 at h
  have h31 := congrArg (fun y => BitVec.getLsbD y 31) h
  simp only [BitVec.getLsbD_xor, BitVec.getLsbD_ushiftRight] at h31
  have h32 : x.getLsbD (1 + 31) = false := BitVec.getLsbD_of_ge _ _ (by omega)
  rw [h32] at h31
  cases h0 : x.getLsbD 0
  · rw [h0] at h
    apply BitVec.eq_of_getLsbD_eq
    intro i hi
    rcases i with _ | i
    · simpa using h0
    · have := congrArg (fun y => BitVec.getLsbD y i) h
      simp only [BitVec.getLsbD_xor, BitVec.getLsbD_ushiftRight] at this
      simpa [Nat.add_comm] using this
  · rw [h0] at h31
    simp only [if_true, P32_top] at h31
    exact absurd h31 (by decide)
theorem stn_inj (n : Nat) : ∀ {x : W32}, stn n x = 0#32 → x = 0#32 := by
  induction n with
  | zero => intro x h; exact h
  | succ n ih => intro x h; exact st1_inj (ih h)

theorem st1_shl (y : W32) (h : y.getLsbD 31 = false) : st1 (y <<< 1) = y := by
  unfold st1
  apply BitVec.eq_of_getLsbD_eq
  intro i hi
  simp only [BitVec.getLsbD_xor, BitVec.getLsbD_ushiftRight, BitVec.getLsbD_shiftLeft]
  by_cases h1 : i = 31
  · subst h1
    have h' : y[31] = false := by rw [← BitVec.getLsbD_eq_getElem]; exact h
    simp [h']
  · have : 1 + i < 32 := by omega
    simp [this]
theorem stn_shl (n : Nat) : ∀ (y : W32), y.toNat * 2 ^ n < 2 ^ 32 → stn n (y <<< n) = y := by
  induction n with
  | zero => intro y _; simp [stn]
  | succ n ih =>
    intro y h
    rw [stn, BitVec.shiftLeft_add, st1_shl]
    · refine ih y ?_
      refine Nat.lt_of_le_of_lt ?_ h
      exact Nat.mul_le_mul_left _ (Nat.pow_le_pow_right (by decide) (by omega))
    · rw [BitVec.getLsbD_eq_getElem (by omega), BitVec.getElem_eq_testBit_toNat] <;> try omega
      rw [BitVec.toNat_shiftLeft, Nat.shiftLeft_eq]
      have h2 : y.toNat * 2 ^ n < 2 ^ 31 := by rw [Nat.pow_succ, ← Nat.mul_assoc] at h; omega
      rw [Nat.mod_eq_of_lt (by omega)]
      exact Nat.testBit_lt_two_pow h2

theorem bw_toNat (b : UInt8) : (bw b).toNat = b.toNat := by
  have := b.toNat_lt
  unfold bw
  rw [BitVec.toNat_ofNat]
  omega
theorem by_table (x : W32) (c : UInt8) : st8 (x ^^^ bw c) = st8 (BitVec.ofNat 32 ((x.toNat % 256) ^^^ c.toNat)) ^^^ (x >>> 8) := by
  have hx := x.isLt
  have hy : (x >>> 8).toNat * 2 ^ 8 < 2 ^ 32 := by
    rw [BitVec.toNat_ushiftRight, Nat.shiftRight_eq_div_pow]
    omega
  have h1 : x ^^^ bw c = BitVec.ofNat 32 ((x.toNat % 256) ^^^ c.toNat) ^^^ ((x >>> 8) <<< 8) := by
    apply BitVec.eq_of_getLsbD_eq
    intro i hi
    have hc := c.toNat_lt
    simp only [bw, BitVec.getLsbD_xor, BitVec.getLsbD_ofNat, BitVec.getLsbD_shiftLeft, BitVec.getLsbD_ushiftRight, Nat.testBit_xor, hi, decide_true, Bool.true_and]
    rw [show (256 : Nat) = 2 ^ 8 from rfl, Nat.testBit_mod_two_pow]
    by_cases h : i < 8
    · simp [h, BitVec.testBit_toNat]
    · have h8 : 8 + (i - 8) = i := by omega
      have : c.toNat.testBit i = false := Nat.testBit_lt_two_pow (Nat.lt_of_lt_of_le hc (Nat.pow_le_pow_right (by decide) (by omega : 8 ≤ i)))
      simp [h, h8, this]
  rw [h1]
  unfold st8
  rw [stn_xor, stn_shl 8 _ hy]

/-- bit by bit, the bits of a number -/
def crcN : Nat → W32 → Nat → W32
  | 0, x, _ => x
  | n + 1, x, D => crcN n (st1 (x ^^^ (if D.testBit 0 then 1#32 else 0#32))) (D >>> 1)
theorem one_xor (a b : Bool) : (if (a ^^ b) then 1#32 else 0#32) = (if a then 1#32 else 0#32) ^^^ (if b then 1#32 else 0#32) := by cases a <;> cases b <;> decide
theorem crcN_xor (n : Nat) : ∀ x y A B, crcN n (x ^^^ y) (A ^^^ B) = crcN n x A ^^^ crcN n y B := by
  induction n with
  | zero => intro x y A B; rfl
  | succ n ih =>
    intro x y A B
    simp only [crcN]
    rw [Nat.testBit_xor, one_xor, Nat.shiftRight_xor_distrib, ← ih, ← st1_xor]
    congr 2
    ac_rfl
theorem crcN_add (k : Nat) : ∀ m x D, crcN (k + m) x D = crcN m (crcN k x D) (D >>> k) := by
  induction k with
  | zero => intro m x D; simp [crcN]
  | succ k ih =>
    intro m x D
    rw [show k + 1 + m = (k + m) + 1 from by omega]
    simp only [crcN]
    rw [ih, ← Nat.shiftRight_add, Nat.add_comm 1 k]
theorem crcN_zero (n : Nat) : ∀ x, crcN n x 0 = stn n x := by
  induction n with
  | zero => intro x; rfl
  | succ n ih => intro x; simp [crcN, stn, ih]
theorem crcN_shl (p m W : Nat) : crcN (p + m) 0#32 (W <<< p) = crcN m 0#32 W := by
  induction p generalizing W with
  | zero => simp
  | succ p ih =>
    rw [show p + 1 + m = (p + m) + 1 from by omega]
    simp only [crcN]
    have h1 : (W <<< (p + 1)).testBit 0 = false := by simp
    have h2 : (W <<< (p + 1)) >>> 1 = W <<< p := by
      rw [Nat.shiftLeft_eq, Nat.shiftLeft_eq, Nat.shiftRight_eq_div_pow, Nat.pow_succ, ← Nat.mul_assoc, Nat.pow_one, Nat.mul_div_cancel _ (by decide)]
    rw [h1, h2]
    simp only [Bool.false_eq_true, if_false, BitVec.xor_zero, st1_zero]
    exact ih W
theorem half_step (x : W32) {W : Nat} (h : W < 2 ^ 32) : st1 (x ^^^ BitVec.ofNat 32 W) = st1 (x ^^^ (if W.testBit 0 then 1#32 else 0#32)) ^^^ BitVec.ofNat 32 (W >>> 1) := by
  have h1 : BitVec.ofNat 32 W = (if W.testBit 0 then 1#32 else 0#32) ^^^ (BitVec.ofNat 32 (W >>> 1) <<< 1) := by
    apply BitVec.eq_of_getLsbD_eq
    intro i hi
    rw [BitVec.getLsbD_xor, BitVec.getLsbD_ofNat, BitVec.getLsbD_shiftLeft, BitVec.getLsbD_ofNat]
    rcases i with _ | i
    · cases hw : W.testBit 0 <;> simp
    · have h0 : (if W.testBit 0 then 1#32 else 0#32).getLsbD (i + 1) = false := by
        cases W.testBit 0
        · simp
        · simp [BitVec.getLsbD_one]
      rw [h0]
      have : i < 32 := by omega
      simp [hi, this, Nat.testBit_shiftRight, Nat.add_comm]
  rw [h1, ← BitVec.xor_assoc, st1_xor, st1_shl]
  rw [BitVec.getLsbD_ofNat, Nat.testBit_shiftRight, Nat.testBit_lt_two_pow (by omega : W < 2 ^ (1 + 31))]
  simp
theorem crcN_word (m : Nat) : ∀ x W, W < 2 ^ 32 → W < 2 ^ m → crcN m x W = stn m (x ^^^ BitVec.ofNat 32 W) := by
  induction m with
  | zero =>
    intro x W _ h
    obtain rfl : W = 0 := by omega
    simp [crcN, stn]
  | succ m ih =>
    intro x W h32 hm
    simp only [crcN, stn]
    have hh : W >>> 1 < 2 ^ m := by rw [Nat.shiftRight_eq_div_pow]; rw [Nat.pow_succ] at hm; omega
    have h3 : W >>> 1 < 2 ^ 32 := by rw [Nat.shiftRight_eq_div_pow]; omega
    rw [ih _ _ h3 hh, half_step x h32]

/-- bytes as one number, the first byte lowest -/
def leN : List UInt8 → Nat
  | [] => 0
  | b :: l => b.toNat ^^^ (leN l <<< 8)
theorem crcS_leN (l : List UInt8) : ∀ x, crcS x l = crcN (8 * l.length) x (leN l) := by
  induction l with
  | nil => intro x; rfl
  | cons b l ih =>
    intro x
    have hb := b.toNat_lt
    rw [show crcS x (b :: l) = crcS (st8 (x ^^^ bw b)) l from rfl, ih, List.length_cons, show 8 * (l.length + 1) = 8 + 8 * l.length from by omega, crcN_add]
    have h1 : leN (b :: l) >>> 8 = leN l := by
      rw [leN, Nat.shiftRight_xor_distrib, Nat.shiftLeft_shiftRight, Nat.shiftRight_eq_div_pow, Nat.div_eq_of_lt hb, Nat.zero_xor]
    have h2 : crcN 8 x (leN (b :: l)) = st8 (x ^^^ bw b) := by
      have := crcN_xor 8 x 0#32 b.toNat (leN l <<< 8)
      rw [BitVec.xor_zero] at this
      rw [leN, this, show crcN 8 0#32 (leN l <<< 8) = 0#32 from crcN_shl 8 0 (leN l), BitVec.xor_zero, crcN_word 8 x b.toNat (by omega) hb]
      rfl
    rw [h1, h2]
theorem leN_lt (l : List UInt8) : leN l < 2 ^ (8 * l.length) := by
  induction l with
  | nil => simp [leN]
  | cons b l ih =>
    have hb := b.toNat_lt
    rw [leN, List.length_cons]
    refine Nat.xor_lt_two_pow (Nat.lt_of_lt_of_le hb (Nat.pow_le_pow_right (by decide) (by omega))) ?_
    rw [Nat.shiftLeft_eq, show 8 * (l.length + 1) = 8 * l.length + 8 from by omega, Nat.pow_add]
    exact Nat.mul_lt_mul_of_pos_right ih (by decide)
theorem leN_set (l : List UInt8) : ∀ (j : Nat) (hj : j < l.length) (m : UInt8), leN (l.set j (l[j] ^^^ m)) = leN l ^^^ (m.toNat <<< (8 * j)) := by
  induction l with
  | nil => intro j hj; simp at hj
  | cons b l ih =>
    intro j hj m
    rcases j with _ | j
    · simp only [List.set_cons_zero, List.getElem_cons_zero, leN, UInt8.toNat_xor, Nat.mul_zero, Nat.shiftLeft_zero]
      ac_rfl
    · simp only [List.set_cons_succ, List.getElem_cons_succ, leN]
      rw [ih j (by simpa using hj), Nat.shiftLeft_xor_distrib, ← Nat.shiftLeft_add, show 8 * j + 8 = 8 * (j + 1) from by omega]
      ac_rfl
/-- what stands together is found -/
theorem finds {b c : List UInt8} {W p : Nat} (hl : b.length = c.length) (h : leN c = leN b ^^^ (W <<< p)) (hp : p ≤ 8 * b.length) (h0 : W ≠ 0) (h1 : W < 2 ^ 32) (h2 : W < 2 ^ (8 * b.length - p)) (x : W32) : crcS x c ≠ crcS x b := by
  intro he
  rw [crcS_leN, crcS_leN, ← hl, h] at he
  have h3 := crcN_xor (8 * b.length) x 0#32 (leN b) (W <<< p)
  rw [BitVec.xor_zero] at h3
  rw [h3] at he
  have h4 : crcN (8 * b.length) 0#32 (W <<< p) = 0#32 := by
    have := congrArg (fun z => crcN (8 * b.length) x (leN b) ^^^ z) he
    simpa [← BitVec.xor_assoc] using this
  rw [show 8 * b.length = p + (8 * b.length - p) from by omega, crcN_shl, crcN_word _ _ _ h1 h2] at h4
  have h5 := stn_inj _ h4
  rw [BitVec.zero_xor] at h5
  have h6 := congrArg BitVec.toNat h5
  rw [BitVec.toNat_ofNat, Nat.mod_eq_of_lt h1] at h6
  exact h0 h6
theorem crcS_append (x : W32) (a b : List UInt8) : crcS x (a ++ b) = crcS (crcS x a) b := List.foldl_append
theorem extW_append (s : W32) (a b : List UInt8) : extW s (a ++ b) = extW (extW s a) b := by
  unfold extW
  rw [crcS_append, BitVec.not_not]
theorem extW_nil (s : W32) : extW s [] = s := by
  show ~~~ ~~~ s = s
  rw [BitVec.not_not]
theorem extW_inj {s : W32} {b c : List UInt8} (h : crcS (~~~ s) c ≠ crcS (~~~ s) b) : extW s c ≠ extW s b := by
  unfold extW
  intro he
  exact h (by rw [← BitVec.not_not (b := crcS (~~~ s) c), he, BitVec.not_not])
/-- bytes joined by exclusive or -/
def xor3 : List UInt8 → List UInt8 → List UInt8 → List UInt8
  | a :: l, b :: m, c :: n => (a ^^^ b ^^^ c) :: xor3 l m n
  | _, _, _ => []
theorem bw_xor (a b : UInt8) : bw (a ^^^ b) = bw a ^^^ bw b := by
  apply BitVec.eq_of_toNat_eq
  rw [bw_toNat, BitVec.toNat_xor, bw_toNat, bw_toNat, UInt8.toNat_xor]
theorem crcS_xor3 : ∀ (a b c : List UInt8) (x y z : W32), a.length = b.length → b.length = c.length → crcS (x ^^^ y ^^^ z) (xor3 a b c) = crcS x a ^^^ crcS y b ^^^ crcS z c
  | [], [], [], x, y, z, _, _ => rfl
  | a :: l, b :: m, c :: n, x, y, z, h1, h2 => by
    show crcS (st8 (x ^^^ y ^^^ z ^^^ bw (a ^^^ b ^^^ c))) (xor3 l m n) = crcS (st8 (x ^^^ bw a)) l ^^^ crcS (st8 (y ^^^ bw b)) m ^^^ crcS (st8 (z ^^^ bw c)) n
    rw [← crcS_xor3 l m n _ _ _ (by simpa using h1) (by simpa using h2)]
    unfold st8
    rw [← stn_xor, ← stn_xor, bw_xor, bw_xor]
    congr 2
    ac_rfl
theorem not_xor3 (x y z : W32) : ~~~ (x ^^^ y ^^^ z) = ~~~ x ^^^ ~~~ y ^^^ ~~~ z := by
  apply BitVec.eq_of_getLsbD_eq
  intro i hi
  simp only [BitVec.getLsbD_not, BitVec.getLsbD_xor, hi, decide_true, Bool.true_and]
  cases x.getLsbD i <;> cases y.getLsbD i <;> cases z.getLsbD i <;> rfl
theorem sum_xor3 {a b c : List UInt8} (h1 : a.length = b.length) (h2 : b.length = c.length) : sumW (xor3 a b c) = sumW a ^^^ sumW b ^^^ sumW c := by
  unfold sumW extW
  rw [← not_xor3, ← crcS_xor3 _ _ _ _ _ _ h1 h2]
  congr 2

/- values -/
/-- a word as a number, behind a name (the walk's simp would look into it) -/
def wn (x : W32) : Int := (x.toNat : Int)
abbrev wv (x : W32) : Value := .int .u32 (wn x)
theorem and_one (x : W32) : bits .and .u32 (wn x) 1 = ((if x.getLsbD 0 then 1 else 0 : Nat) : Int) := by
  unfold wn
  rw [show (1 : Int) = ((1 : Nat) : Int) from rfl, u32_and_nat _ _ x.isLt (by decide), nat_mask1]
  congr 1
  have : x.getLsbD 0 = decide (x.toNat % 2 = 1) := by rw [← BitVec.testBit_toNat, Nat.testBit_zero]
  rw [this]
  by_cases h : x.toNat % 2 = 1
  · simp [h]
  · simp [h]; omega
theorem xor_wn (x y : W32) : bits .xor .u32 (wn x) (wn y) = wn (x ^^^ y) := by
  unfold wn; rw [u32_xor_nat _ _ x.isLt y.isLt, BitVec.toNat_xor]
theorem shr_wn (x : W32) (k : Nat) : wn x / ((2 ^ k : Nat) : Int) = wn (x >>> k) := by
  unfold wn; rw [BitVec.toNat_ushiftRight, Nat.shiftRight_eq_div_pow]; rfl
theorem xor_P (y : W32) : bits .xor .u32 (wn y) 2197175160 = wn (y ^^^ P32) := xor_wn y P32
theorem half_wn (y : W32) : HDiv.hDiv (α := Int) (β := Int) (wn y) (2 : Int) = wn (y >>> 1) := shr_wn y 1
theorem not_wn (x : W32) : bits .xor .u32 4294967295 (wn x) = wn (~~~ x) := by
  have := xor_wn (BitVec.allOnes 32) x
  rw [BitVec.allOnes_xor] at this
  exact this
theorem mod_wn (y : W32) : HMod.hMod (α := Int) (β := Int) (wn y) (256 : Int) = ((y.toNat % 256 : Nat) : Int) := by
  unfold wn; omega
theorem xor_u8 {a b : Nat} (ha : a < 256) (hb : b < 256) : bits .xor .u8 (a : Int) (b : Int) = ((a ^^^ b : Nat) : Int) := u8_xor_nat a b ha hb
theorem shr8_wn (y : W32) : HDiv.hDiv (α := Int) (β := Int) (wn y) (256 : Int) = wn (y >>> 8) := shr_wn y 8
theorem crcS_drop {l : List UInt8} {k : Nat} (hk : k < l.length) (y : W32) : crcS y (l.drop k) = crcS (st8 (y ^^^ bw l[k])) (l.drop (k + 1)) := by
  rw [List.drop_eq_getElem_cons hk]; rfl
theorem wrap_ofNat {k : Nat} (_h : k < 256) : IntKind.u32.wrap (k : Int) = wn (BitVec.ofNat 32 k) := by
  unfold wn; rw [IntKind.wrap_u32, BitVec.toNat_ofNat]; omega
end Go.Proofs.Ytgfigkenpmmdeaa

namespace Go.Proofs.Ytgfigkenpmmdeaa
open Go.RowKit

theorem race_disable (w : World) : (callFunc 89 #[]).run Try.prog w = .ok (.value (.tuple #[])) w := run_call_mark0 Try.func89 (by kernel_rfl) (by kernel_rfl) (by kernel_rfl) .disable (by kernel_rfl) w
theorem race_enable (w : World) : (callFunc 91 #[]).run Try.prog w = .ok (.value (.tuple #[])) w := run_call_mark0 Try.func91 (by kernel_rfl) (by kernel_rfl) (by kernel_rfl) .enable (by kernel_rfl) w
theorem race_acquire (a : Addr) (w : World) : (callFunc 92 #[.pointer (some a)]).run Try.prog w = .ok (.value (.tuple #[])) w := run_call_marked Try.func92 (by kernel_rfl) (by kernel_rfl) (by kernel_rfl) .acquire (by kernel_rfl) a w
theorem race_merge (a : Addr) (w : World) : (callFunc 94 #[.pointer (some a)]).run Try.prog w = .ok (.value (.tuple #[])) w := run_call_marked Try.func94 (by kernel_rfl) (by kernel_rfl) (by kernel_rfl) .releaseMerge (by kernel_rfl) a w

/-- '(*sync/atomic.Bool).Store(true)', entered as a deferred call: the cell holds 1. -/
theorem once_store (a : Addr) (x : Value) (u : FrameMode) (w : World) (hc : w.cell? a = some x) (hz : w.frozen? a = false) :
    CallsD Try.prog 84 #[.pointer (some a), .bool true] u w fun e u' w' => u' = u ∧ (e = .returned (.tuple #[]) ∧ w' = w.drew.setCell a (.int .u32 1)) := by
  have hc' : w.drew.cell? a = some x := by go_simp
  have hz' : w.drew.frozen? a = false := by go_simp
  have hst := run_call_store (P := Try.prog) Try.func87 (by kernel_rfl) (by kernel_rfl) (by kernel_rfl) (by kernel_rfl) (k := .u32) (y := 1) hc' hz'
  go_enter_d Try.func84, Try.ntmps84
  go_wp2
  go_region_calls
  all_goals (go_end0; exact ⟨rfl, rfl⟩)

set_option maxRecDepth 100000 in
set_option maxHeartbeats 1600000 in
/-- '(*sync.Mutex).Unlock', entered as a deferred call, the lock held and nobody waiting (state 1): state 0. -/
theorem once_unlock (a : Addr) (u : FrameMode) (w : World) (hc : w.cell? a = some (.int .i32 1)) (hz : w.frozen? a = false) :
    CallsD Try.prog 83 #[.pointer (some a)] u w fun e u' w' => u' = u ∧ (e = .returned (.tuple #[]) ∧ w' = w.setCell a (.int .i32 0)) := by
  have hd := race_disable
  have he := race_enable
  have hr := race_merge
  have hadd := run_call_add (P := Try.prog) Try.func95 (by kernel_rfl) (by kernel_rfl) (by kernel_rfl) .i32 (by kernel_rfl) (y := -1) (s := 0) hc hz (by simp [go_sem]; rfl)
  have hcv := run_convert_to_unsafe (P := Try.prog) (src := 161) (dst := 165) Try.underlying161 Try.underlying165 (by kernel_rfl) hc
  go_enter_d Try.func83, Try.ntmps83
  go_wp2
  go_end0
  go_wp2
  go_end0
  exact ⟨rfl, rfl⟩

set_option maxRecDepth 100000 in
set_option maxHeartbeats 1600000 in
/-- '(*sync.Mutex).Lock', the lock free (state 0): state 1. -/
theorem once_lock (a : Addr) (w : World) (hc : w.cell? a = some (.int .i32 0)) (hz : w.frozen? a = false) :
    Calls Try.prog 82 #[.pointer (some a)] w fun e w' => e = .returned (.tuple #[]) ∧ w' = w.setCell a (.int .i32 1) := by
  have hd := race_disable
  have he := race_enable
  have ha := race_acquire
  have hcas := run_call_cas_hit (P := Try.prog) Try.func90 (by kernel_rfl) (by kernel_rfl) (by kernel_rfl) .i32 (by kernel_rfl) (y := 1) hc hz
  have hc' : (w.setCell a (.int .i32 1)).cell? a = some (.int .i32 1) := World.cell?_setCell_same w a _ hc
  have hcv := run_convert_to_unsafe (P := Try.prog) (src := 161) (dst := 165) Try.underlying161 Try.underlying165 (by kernel_rfl) hc'
  go_enter Try.func82, Try.ntmps82
  go_wp2
  first | go_end0 | (simp only [Exit.inBlock, Exit.then]; refine bodyPost_ret (results_none rfl _ _ _) rfl ?_) | refine bodyPost_ret (results_none rfl _ _ _) rfl ?_
  go_wp2
  go_end0
  exact ⟨rfl, rfl⟩
end Go.Proofs.Ytgfigkenpmmdeaa
