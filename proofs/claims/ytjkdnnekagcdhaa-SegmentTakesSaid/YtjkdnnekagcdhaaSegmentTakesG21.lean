/- WHAT IT HOLDS: cell.TakeRun, walked. | WHAT IT HOLDS: the ways through a round of taking a run, plainly. -/
import Derived.Test.YtjkdnnekagcdhaaSegmentTakesG20
import Derived.Test.YtjkdnnekagcdhaaSegmentTakesG14
import Derived.Test.YtjkdnnekagcdhaaSegmentTakesG08
namespace Go.Proofs.Ytjkdnnekagcdhaa
open Go.RowKit
attribute [local go_sem ↓] Go.wp_at_zero Go.wp_at_succ

theorem rWithin_len2 (m : Nat) (s : Rs) : (rWithin m s).2.1.length ≤ s.1.length := rWithin_len m s
theorem tkStep_ok {t : Tk} (h : TkOk t) (hl : 1 ≤ t.left) (h0 : (tkStep t).s.2 = 0) : TkOk (tkStep t) := by
  obtain ⟨h1, h2, h3, h4⟩ := h
  have hn := rNum_len t.s
  unfold tkStep at h0 ⊢
  by_cases hb : (rNum t.s).2.2 ≠ 0
  · rw [if_pos hb] at h0; exact absurd h0 hb
  rw [if_neg hb] at h0 ⊢
  by_cases hp : 0 < (rNum t.s).1
  · rw [if_pos hp] at h0 ⊢
    generalize rNum t.s = p at *
    obtain ⟨n, s0⟩ := p
    dsimp only at *
    obtain ⟨s1, hs1⟩ : ∃ s1, (if t.left < n then rFail 2 s0 else s0) = s1 := ⟨_, rfl⟩
    obtain ⟨k, s2, h12⟩ : ∃ k s2, rWithin 3 s1 = (k, s2) := ⟨_, _, rfl⟩
    obtain ⟨c1, c2, c3⟩ := tkRow_cases n { t with s := s0 } hs1 h12
    have hk := rWithin_le 3 s1
    have hl2 := rWithin_len2 3 s1
    rw [h12] at hk hl2
    dsimp only at hk hl2
    have hl1 : s1.1.length ≤ s0.1.length := by
      rw [← hs1]
      split
      · exact rFail_len 2 s0
      · exact Nat.le_refl _
    by_cases hkk : k = 1 ∨ k = t.kind
    · rw [c1 hkk] at h0; exact absurd h0 (rFail_bad (by decide))
    by_cases hs2 : s2.2 = 0
    · rw [c2 hkk hs2]
      have hnl : n ≤ t.left := by
        rcases Nat.lt_or_ge t.left n with hx | hx
        · rw [if_pos hx] at hs1
          rw [← hs1, rWithin_of (rFail_bad (by decide))] at h12
          injection h12 with _ h12
          rw [← h12] at hs2
          exact absurd hs2 (rFail_bad (by decide))
        · exact hx
      exact ⟨by simp only [List.length_append, List.length_replicate]; omega, hk, h3, by dsimp only; omega⟩
    · rw [c3 hkk hs2] at h0; exact absurd h0 hs2
  · rw [if_neg hp] at h0 ⊢
    generalize rNum t.s = p at *
    obtain ⟨n0, s0⟩ := p
    dsimp only at *
    obtain ⟨n, s1, e1⟩ : ∃ n s1, rNum s0 = (n, s1) := ⟨_, _, rfl⟩
    obtain ⟨s2, e2⟩ : ∃ s2, (if 64 < n then rFail 3 s1 else s1) = s2 := ⟨_, rfl⟩
    obtain ⟨k, s3, e3⟩ : ∃ k s3, rNum s2 = (k, s3) := ⟨_, _, rfl⟩
    obtain ⟨s4, e4⟩ : ∃ s4, (if min n t.last.length < k then rFail 2 s3 else s3) = s4 := ⟨_, rfl⟩
    obtain ⟨c1, c2⟩ := tkData_cases { t with s := s0 } e1 e2 e3 e4
    by_cases hb4 : s4.2 = 0
    · obtain ⟨f, s5, e5⟩ : ∃ f s5, rFixed ((n - k : Nat) : Int) s4 = (f, s5) := ⟨_, _, rfl⟩
      obtain ⟨s6, e6⟩ : ∃ s6, (if s5.2 = 0 ∧ cpl t.last (t.last.take k ++ f) ≠ k then rFail 2 s5 else s5) = s6 := ⟨_, rfl⟩
      have e7 := c2 hb4 f s5 e5 (t.last.take k ++ f) rfl s6 e6
      rw [e7]
      have hk : k ≤ min n t.last.length := by
        rcases Nat.lt_or_ge (min n t.last.length) k with hx | hx
        · rw [if_pos hx] at e4; rw [← e4] at hb4; exact absurd hb4 (rFail_bad (by decide))
        · exact hx
      have h34 : s4 = s3 := by rw [← e4, if_neg (by omega)]
      have hn64 : n ≤ 64 := by
        rcases Nat.lt_or_ge 64 n with hx | hx
        · rw [if_pos hx] at e2
          rw [← e2, rNum_of (rFail_bad (by decide))] at e3
          injection e3 with _ e3
          rw [h34, ← e3] at hb4
          exact absurd hb4 (rFail_bad (by decide))
        · exact hx
      have h12 : s2 = s1 := by rw [← e2, if_neg (by omega)]
      have l1 := rNum_len s0
      have l3 := rNum_len s2
      have l5 := rFixed_len ((n - k : Nat) : Int) s4
      have lf : f.length ≤ n - k := by
        have : (rFixed ((n - k : Nat) : Int) s4).1.length ≤ n - k := by
          unfold rFixed
          split
          · simp
          · split
            · simp
            · simp only [List.length_take, Int.toNat_natCast]
              exact Nat.min_le_left _ _
        rw [e5] at this
        exact this
      rw [e1] at l1
      rw [e3] at l3
      rw [e5] at l5
      have l6 : s6.1.length ≤ s5.1.length := by
        rw [← e6]
        split
        · exact rFail_len 2 s5
        · exact Nat.le_refl _
      dsimp only at l1 l3 l5
      rw [h12] at l3
      rw [h34] at l5
      exact ⟨by simp only [List.length_append, List.length_cons, List.length_nil]; omega, by dsimp only; omega, by simp only [List.length_append, List.length_take]; omega, by dsimp only; omega⟩
    · rw [c1 hb4] at h0; exact absurd h0 hb4
/-- how far the loop has to go: what is left, and whether there is no error -/
def msr (g gt : Nat) (w : World) : Nat := 2 * (match w.cell? ⟨gt, 2, none⟩ with | some (.int _ z) => z.toNat | _ => 0) + (match w.cell? ⟨g, 1, none⟩ with | some .nilIface => 1 | _ => 0)
theorem msr_eq {w0 W : World} {g gt B : Nat} {t : Tk} (h : TkS w0 g gt B t W) : msr g gt W = 2 * t.left + (if t.s.2 = 0 then 1 else 0) := by
  obtain ⟨A, c, E, d, m, hM⟩ := h
  obtain ⟨_, _, a2, _⟩ := hM.blk.five
  obtain ⟨A1, c1, hB, _⟩ := hM.rd
  obtain ⟨_, b1, _, _⟩ := hB.two
  unfold msr
  rw [a2, b1]
  rcases errv_cases t.s.2 with ⟨h0, he⟩ | ⟨q, hq, hq2, he⟩
  · rw [he, if_pos h0]; rfl
  · rw [he, if_neg (by omega)]; rfl
theorem msr_step {w0 W W' : World} {g gt B : Nat} {t : Tk} (h : TkS w0 g gt B t W) (h' : TkS w0 g gt B (tkStep t) W') (hl : 1 ≤ t.left) (h0 : t.s.2 = 0) (hle : (tkStep t).left ≤ t.left) : msr g gt W' < msr g gt W := by
  rw [msr_eq h, msr_eq h', if_pos h0]
  rcases tkStep_left t with h1 | h1
  · rw [if_neg h1]; omega
  · split <;> omega
theorem tk_le {p : Prop} [Decidable p] {x y : Tk} {n : Nat} (hx : x.left ≤ n) (hy : y.left ≤ n) : (if p then x else y).left ≤ n := by split <;> assumption
theorem tkStep_le (t : Tk) : (tkStep t).left ≤ t.left := by
  unfold tkStep
  refine tk_le (Nat.le_refl _) (tk_le ?_ ?_)
  · unfold tkRow
    exact tk_le (Nat.sub_le _ _) (Nat.le_refl _)
  · unfold tkData
    exact tk_le (Nat.le_refl _) (Nat.sub_le _ _)
/-- a run of cells out of a reader -/
def GivesRun (w0 : World) (g B : Nat) (r : List Ce × Rs) (e : Ending) (w' : World) : Prop :=
  ∃ A c m, e = .returned (.slice A (List.length m) c) ∧ Hid (m.map ceOf = r.1) ∧ NewS w' w0.heap.size A c m ∧ IsR w' g B r.2 ∧ Wr w0 w' g
set_option maxRecDepth 100000 in
set_option maxHeartbeats 2000000 in
theorem TakeRun_any {w : World} {g B : Nat} {s : Rs} (hR0 : IsR w g B s) (hB : B ≤ w.heap.size) (hS : s.1.length ≤ 1000000000) :
    Calls Try.prog 38 #[.pointer (some ⟨g, 0, none⟩)] w (GivesRun w g B (takeRun s)) := by
  have hg := hR0.lt
  go_enter Try.func38, Try.ntmps38
  go_wp2_with fail
  refine (Number_s hR0).mono ?_
  rintro e w1 ⟨rfl, hR1, hr1⟩
  have hu := rNum_u64 s
  have hnl := rNum_len s
  have hnew : tkNew s = ⟨if 64 < (rNum s).1 then rFail 3 (rNum s).2 else (rNum s).2, [], min (rNum s).1 64, [], 1⟩ := rfl
  generalize rNum s = p at *
  obtain ⟨n, s1⟩ := p
  dsimp only at *
  rcases Nat.lt_or_ge 64 n with h64 | h64
  · have hnI : (64 : Int) < (n : Int) := by omega
    rw [if_pos h64] at hnew
    go_wp2_with fail
    refine (Fail_s 3 hR1).mono ?_
    rintro e W ⟨rfl, hR, hr2⟩
    have hr := hr1.trans hr2
    have hmn : (min (n : Int) 64) = ((min n 64 : Nat) : Int) := by omega
    have hst : TkM w g W.heap.size B (tkNew s) none 0 none 0 [] (W.alloc (.cells #[.pointer (some ⟨g, 0, none⟩), .slice none 0 0, .int .i64 ((min n 64) : Nat), .slice none 0 0, .int .i64 1] 164)) :=
      ⟨hg, hr.size, hB, by rw [hnew]; exact Blk.new _ _ _, (show _ = _ from by rw [hnew]; rfl), ⟨Own.none_ _ _ _ _, fun x hx => by simp at hx⟩, by rw [hnew]; exact Own.none_ _ _ _ _, by rw [hnew]; exact hR.below (below_new _ _), hr.alloc _⟩
    have hok : (tkNew s).s.2 = 0 → TkOk (tkNew s) := fun _ => by rw [hnew]; exact ⟨by simp; omega, by dsimp only; omega, by simp, by have := rFail_len 3 s1; dsimp only; omega⟩
    have HT0 : Hid (∀ W', W' = W.alloc (.cells #[.pointer (some ⟨g, 0, none⟩), .slice none 0 0, .int .i64 ((min n 64) : Nat), .slice none 0 0, .int .i64 1] 164) → TkS w g W.heap.size B (tkNew s) W') := (show ∀ W', _ → _ from fun W' h => by rw [h]; exact ⟨none, 0, none, 0, [], hst⟩)
    have HOK := Lib.hid hok
    have hsW := hr.size
    clear hst hok hnew hR hr hS
    go_wp2_with fail
    go_loopw [] (fun wr => ∃ t, TkS w g W.heap.size B t wr ∧ Hid (t.s.2 = 0 → TkOk t) ∧ Hid (tkEnd (tkNew s) = tkEnd t)) (fun wr => msr g W.heap.size wr)
    case atStart => exact ⟨tkNew s, HT0.out _ rfl, HOK.out, (show _ = _ from rfl)⟩
    case round =>
      obtain ⟨t, hT, hO, hE⟩ := hrel
      obtain ⟨A, c, E, d, m, hM⟩ := hT
      clear HT0 HOK
      obtain ⟨a0, a1, a2, _, _, _⟩ := hM.blk.five
      have hEr := Err_s hM.rd
      rcases Nat.eq_zero_or_pos t.left with h0 | h0
      · have hlb : ¬ (0 : Int) < (t.left : Int) := by omega
        have hEnd := tkEnd_stop (t := t) (.inl h0)
        clear h0
        rcases errv_cases t.s.2 with ⟨he0, hev⟩ | ⟨q, hq, hq2, hev⟩
        · have HT := Lib.hid (show takeRun s = (t.out, t.s) from by unfold takeRun; rw [hE.out, hEnd, if_neg (by simpa using he0)])
          rw [hev] at hEr
          have HE := Lib.hid hEr
          clear hEr hev hEnd he0
          go_wp2_with fail
          refine HE.out.mono ?_
          rintro e w4 ⟨rfl, rfl⟩
          go_wp2_with fail
          go_ret
          exact ⟨A, c, m, rfl, (show _ = _ from by rw [HT.out]; exact hM.out.out), hM.new, by rw [HT.out]; exact hM.rd, hM.fr⟩
        · have HT := Lib.hid (show takeRun s = ([], t.s) from by unfold takeRun; rw [hE.out, hEnd, if_pos (by omega)])
          rw [hev] at hEr
          have HE := Lib.hid hEr
          clear hEr hev hEnd hq2
          go_wp2_with fail
          refine HE.out.mono ?_
          rintro e w4 ⟨rfl, rfl⟩
          go_wp2_with fail
          go_ret
          exact ⟨none, 0, [], rfl, (show _ = _ from by rw [HT.out]; rfl), ⟨Own.none_ _ _ _ _, fun x hx => by simp at hx⟩, by rw [HT.out]; exact hM.rd, hM.fr⟩
      · have hlb : (0 : Int) < (t.left : Int) := by omega
        rcases errv_cases t.s.2 with ⟨he0, hev⟩ | ⟨q, hq, hq2, hev⟩
        · have hOk := hO.out he0
          have hst := tkEnd_step (t := t) (by omega) he0
          have HST := Lib.hid (hE.out.trans hst)
          have HMS := Lib.hid (fun (W' : World) (h' : TkS w g _ B (tkStep t) W') => msr_step ⟨A, c, E, d, m, hM⟩ h' h0 he0 (tkStep_le t))
          have HOK2 : Hid ((tkStep t).s.2 = 0 → TkOk (tkStep t)) := (show _ → _ from tkStep_ok hOk h0)
          rw [hev] at hEr
          have HE := Lib.hid hEr
          clear hEr hev hst hE hO
          go_wp2_with fail
          refine HE.out.mono ?_
          rintro e w4 ⟨rfl, rfl⟩
          go_wp2_with fail
          refine (Number_s hM.rd).mono ?_
          rintro e w5 ⟨rfl, hR5, hr5⟩
          have hM5 := hM.read hR5 hr5
          have hu5 := rNum_u64 t.s
          have hl5 := rNum_len t.s
          have hsp : tkStep t = if (rNum t.s).2.2 ≠ 0 then { t with s := (rNum t.s).2 } else if 0 < (rNum t.s).1 then tkRow (rNum t.s).1 { t with s := (rNum t.s).2 } else tkData { t with s := (rNum t.s).2 } := rfl
          generalize rNum t.s = p at *
          obtain ⟨many, s5⟩ := p
          dsimp only at *
          have hE5 := Err_s hM5.rd
          dsimp only at hE5
          have hOk5 : TkOk { t with s := s5 } := ⟨hOk.sum, hOk.kind, hOk.last, by dsimp only; have := hOk.len; omega⟩
          clear hM hR5 hr5 a0 a1 a2
          obtain ⟨a0, a1, a2, _, _, _⟩ := hM5.blk.five
          go_wp2_with fail
          rcases errv_cases s5.2 with ⟨he5, hev⟩ | ⟨q, hq, hq2, hev⟩
          · rw [if_neg (by simpa using he5)] at hsp
            rw [hev] at hE5
            have HE5 := Lib.hid hE5
            clear hE5 hev
            refine HE5.out.mono ?_
            rintro e w6 ⟨rfl, rfl⟩
            rcases Nat.eq_zero_or_pos many with hm0 | hm0
            · rw [if_neg (by omega)] at hsp
              have hmI : ¬ (0 : Int) < (many : Int) := by omega
              have HSP := Lib.hid hsp
              clear hsp hm0
              go_wp2_with fail
              refine (tkData_any ⟨A, c, E, d, m, hM5⟩ hOk5 h0).mono ?_
              rintro e w7 ⟨rfl, hT7⟩
              rw [← HSP.out] at hT7
              go_wp2_with fail
              go_roundw
              case rel => exact ⟨tkStep t, hT7, HOK2.out, HST.out⟩
              case measure => exact HMS.out _ hT7
            · rw [if_pos hm0] at hsp
              have hmI : (0 : Int) < (many : Int) := by omega
              have HSP := Lib.hid hsp
              clear hsp
              go_wp2_with fail
              refine (tkRow_any ⟨A, c, E, d, m, hM5⟩ hOk5 hu5 hm0).mono ?_
              rintro e w7 ⟨rfl, hT7⟩
              rw [← HSP.out] at hT7
              go_wp2_with fail
              go_roundw
              case rel => exact ⟨tkStep t, hT7, HOK2.out, HST.out⟩
              case measure => exact HMS.out _ hT7
          · rw [if_pos (by omega)] at hsp
            rw [hev] at hE5
            have HE5 := Lib.hid hE5
            have hT7 : TkS w g W.heap.size B (tkStep t) w5 := by rw [hsp]; exact ⟨A, c, E, d, m, hM5⟩
            clear hE5 hev hq2 hsp
            refine HE5.out.mono ?_
            rintro e w6 ⟨rfl, rfl⟩
            go_wp2_with fail
            go_roundw
            case rel => exact ⟨tkStep t, hT7, HOK2.out, HST.out⟩
            case measure => exact HMS.out _ hT7
        · have hEnd := tkEnd_stop (t := t) (.inr (by omega))
          have HT := Lib.hid (show takeRun s = ([], t.s) from by unfold takeRun; rw [hE.out, hEnd, if_pos (by omega)])
          rw [hev] at hEr
          have HE := Lib.hid hEr
          clear hEr hev hEnd hq2
          go_wp2_with fail
          refine HE.out.mono ?_
          rintro e w4 ⟨rfl, rfl⟩
          go_wp2_with fail
          refine HE.out.mono ?_
          rintro e w5 ⟨rfl, rfl⟩
          go_wp2_with fail
          go_ret
          exact ⟨none, 0, [], rfl, (show _ = _ from by rw [HT.out]; rfl), ⟨Own.none_ _ _ _ _, fun x hx => by simp at hx⟩, by rw [HT.out]; exact hM.rd, hM.fr⟩
  · have hnI : (n : Int) ≤ 64 := by omega
    rw [if_neg (by omega)] at hnew
    rw [Nat.min_eq_left h64] at hnew
    have hmn : (min (n : Int) 64) = (n : Int) := by omega
    go_wp2_with fail
    have hR := hR1
    have hr := hr1
    generalize w1 = W at *
    have hst : TkM w g W.heap.size B (tkNew s) none 0 none 0 [] (W.alloc (.cells #[.pointer (some ⟨g, 0, none⟩), .slice none 0 0, .int .i64 (n : Nat), .slice none 0 0, .int .i64 1] 164)) :=
      ⟨hg, hr.size, hB, by rw [hnew]; exact Blk.new _ _ _, (show _ = _ from by rw [hnew]; rfl), ⟨Own.none_ _ _ _ _, fun x hx => by simp at hx⟩, by rw [hnew]; exact Own.none_ _ _ _ _, by rw [hnew]; exact hR.below (below_new _ _), hr.alloc _⟩
    have hok : (tkNew s).s.2 = 0 → TkOk (tkNew s) := fun _ => by rw [hnew]; exact ⟨by simp; omega, by dsimp only; omega, by simp, by dsimp only; omega⟩
    have HT0 : Hid (∀ W', W' = W.alloc (.cells #[.pointer (some ⟨g, 0, none⟩), .slice none 0 0, .int .i64 (n : Nat), .slice none 0 0, .int .i64 1] 164) → TkS w g W.heap.size B (tkNew s) W') := (show ∀ W', _ → _ from fun W' h => by rw [h]; exact ⟨none, 0, none, 0, [], hst⟩)
    have HOK := Lib.hid hok
    have hsW := hr.size
    clear hst hok hnew hR hr hS
    go_wp2_with fail
    go_loopw [] (fun wr => ∃ t, TkS w g W.heap.size B t wr ∧ Hid (t.s.2 = 0 → TkOk t) ∧ Hid (tkEnd (tkNew s) = tkEnd t)) (fun wr => msr g W.heap.size wr)
    case atStart => exact ⟨tkNew s, HT0.out _ rfl, HOK.out, (show _ = _ from rfl)⟩
    case round =>
      obtain ⟨t, hT, hO, hE⟩ := hrel
      obtain ⟨A, c, E, d, m, hM⟩ := hT
      clear HT0 HOK
      obtain ⟨a0, a1, a2, _, _, _⟩ := hM.blk.five
      have hEr := Err_s hM.rd
      rcases Nat.eq_zero_or_pos t.left with h0 | h0
      · have hlb : ¬ (0 : Int) < (t.left : Int) := by omega
        have hEnd := tkEnd_stop (t := t) (.inl h0)
        clear h0
        rcases errv_cases t.s.2 with ⟨he0, hev⟩ | ⟨q, hq, hq2, hev⟩
        · have HT := Lib.hid (show takeRun s = (t.out, t.s) from by unfold takeRun; rw [hE.out, hEnd, if_neg (by simpa using he0)])
          rw [hev] at hEr
          have HE := Lib.hid hEr
          clear hEr hev hEnd he0
          go_wp2_with fail
          refine HE.out.mono ?_
          rintro e w4 ⟨rfl, rfl⟩
          go_wp2_with fail
          go_ret
          exact ⟨A, c, m, rfl, (show _ = _ from by rw [HT.out]; exact hM.out.out), hM.new, by rw [HT.out]; exact hM.rd, hM.fr⟩
        · have HT := Lib.hid (show takeRun s = ([], t.s) from by unfold takeRun; rw [hE.out, hEnd, if_pos (by omega)])
          rw [hev] at hEr
          have HE := Lib.hid hEr
          clear hEr hev hEnd hq2
          go_wp2_with fail
          refine HE.out.mono ?_
          rintro e w4 ⟨rfl, rfl⟩
          go_wp2_with fail
          go_ret
          exact ⟨none, 0, [], rfl, (show _ = _ from by rw [HT.out]; rfl), ⟨Own.none_ _ _ _ _, fun x hx => by simp at hx⟩, by rw [HT.out]; exact hM.rd, hM.fr⟩
      · have hlb : (0 : Int) < (t.left : Int) := by omega
        rcases errv_cases t.s.2 with ⟨he0, hev⟩ | ⟨q, hq, hq2, hev⟩
        · have hOk := hO.out he0
          have hst := tkEnd_step (t := t) (by omega) he0
          have HST := Lib.hid (hE.out.trans hst)
          have HMS := Lib.hid (fun (W' : World) (h' : TkS w g _ B (tkStep t) W') => msr_step ⟨A, c, E, d, m, hM⟩ h' h0 he0 (tkStep_le t))
          have HOK2 : Hid ((tkStep t).s.2 = 0 → TkOk (tkStep t)) := (show _ → _ from tkStep_ok hOk h0)
          rw [hev] at hEr
          have HE := Lib.hid hEr
          clear hEr hev hst hE hO
          go_wp2_with fail
          refine HE.out.mono ?_
          rintro e w4 ⟨rfl, rfl⟩
          go_wp2_with fail
          refine (Number_s hM.rd).mono ?_
          rintro e w5 ⟨rfl, hR5, hr5⟩
          have hM5 := hM.read hR5 hr5
          have hu5 := rNum_u64 t.s
          have hl5 := rNum_len t.s
          have hsp : tkStep t = if (rNum t.s).2.2 ≠ 0 then { t with s := (rNum t.s).2 } else if 0 < (rNum t.s).1 then tkRow (rNum t.s).1 { t with s := (rNum t.s).2 } else tkData { t with s := (rNum t.s).2 } := rfl
          generalize rNum t.s = p at *
          obtain ⟨many, s5⟩ := p
          dsimp only at *
          have hE5 := Err_s hM5.rd
          dsimp only at hE5
          have hOk5 : TkOk { t with s := s5 } := ⟨hOk.sum, hOk.kind, hOk.last, by dsimp only; have := hOk.len; omega⟩
          clear hM hR5 hr5 a0 a1 a2
          obtain ⟨a0, a1, a2, _, _, _⟩ := hM5.blk.five
          go_wp2_with fail
          rcases errv_cases s5.2 with ⟨he5, hev⟩ | ⟨q, hq, hq2, hev⟩
          · rw [if_neg (by simpa using he5)] at hsp
            rw [hev] at hE5
            have HE5 := Lib.hid hE5
            clear hE5 hev
            refine HE5.out.mono ?_
            rintro e w6 ⟨rfl, rfl⟩
            rcases Nat.eq_zero_or_pos many with hm0 | hm0
            · rw [if_neg (by omega)] at hsp
              have hmI : ¬ (0 : Int) < (many : Int) := by omega
              have HSP := Lib.hid hsp
              clear hsp hm0
              go_wp2_with fail
              refine (tkData_any ⟨A, c, E, d, m, hM5⟩ hOk5 h0).mono ?_
              rintro e w7 ⟨rfl, hT7⟩
              rw [← HSP.out] at hT7
              go_wp2_with fail
              go_roundw
              case rel => exact ⟨tkStep t, hT7, HOK2.out, HST.out⟩
              case measure => exact HMS.out _ hT7
            · rw [if_pos hm0] at hsp
              have hmI : (0 : Int) < (many : Int) := by omega
              have HSP := Lib.hid hsp
              clear hsp
              go_wp2_with fail
              refine (tkRow_any ⟨A, c, E, d, m, hM5⟩ hOk5 hu5 hm0).mono ?_
              rintro e w7 ⟨rfl, hT7⟩
              rw [← HSP.out] at hT7
              go_wp2_with fail
              go_roundw
              case rel => exact ⟨tkStep t, hT7, HOK2.out, HST.out⟩
              case measure => exact HMS.out _ hT7
          · rw [if_pos (by omega)] at hsp
            rw [hev] at hE5
            have HE5 := Lib.hid hE5
            have hT7 : TkS w g W.heap.size B (tkStep t) w5 := by rw [hsp]; exact ⟨A, c, E, d, m, hM5⟩
            clear hE5 hev hq2 hsp
            refine HE5.out.mono ?_
            rintro e w6 ⟨rfl, rfl⟩
            go_wp2_with fail
            go_roundw
            case rel => exact ⟨tkStep t, hT7, HOK2.out, HST.out⟩
            case measure => exact HMS.out _ hT7
        · have hEnd := tkEnd_stop (t := t) (.inr (by omega))
          have HT := Lib.hid (show takeRun s = ([], t.s) from by unfold takeRun; rw [hE.out, hEnd, if_pos (by omega)])
          rw [hev] at hEr
          have HE := Lib.hid hEr
          clear hEr hev hEnd hq2
          go_wp2_with fail
          refine HE.out.mono ?_
          rintro e w4 ⟨rfl, rfl⟩
          go_wp2_with fail
          refine HE.out.mono ?_
          rintro e w5 ⟨rfl, rfl⟩
          go_wp2_with fail
          go_ret
          exact ⟨none, 0, [], rfl, (show _ = _ from by rw [HT.out]; rfl), ⟨Own.none_ _ _ _ _, fun x hx => by simp at hx⟩, by rw [HT.out]; exact hM.rd, hM.fr⟩
end Go.Proofs.Ytjkdnnekagcdhaa

namespace Go.Proofs.Ytjkdnnekagcdhaa
open Go.RowKit

/-- a round that fails is the end -/
theorem tr_bad {s : Rs} {t t' : Tk} (hE : tkEnd (tkNew s) = tkEnd t) (h0 : 1 ≤ t.left) (hs : t.s.2 = 0) (ht : tkStep t = t') (hb : t'.s.2 ≠ 0) : takeRun s = ([], t'.s) := by
  have h1 := tkEnd_step (t := t) (by omega) hs
  rw [ht, tkEnd_stop (.inr hb)] at h1
  unfold takeRun
  rw [hE, h1, if_pos hb]
theorem tr_done {s : Rs} {t : Tk} (hE : tkEnd (tkNew s) = tkEnd t) (h0 : t.left = 0) (hs : t.s.2 = 0) : takeRun s = (t.out, t.s) := by
  unfold takeRun
  rw [hE, tkEnd_stop (.inl h0), if_neg (by simpa using hs)]
theorem rFail_s2 {k : Nat} {s : Rs} (h : s.2 ≠ 0) : rFail k s = s := rFail_of h
section
variable {t : Tk} {many : Nat} {s1 : Rs} (h1 : rNum t.s = (many, s1))
include h1
theorem st_bad (hb : s1.2 ≠ 0) : tkStep t = { t with s := s1 } := by
  unfold tkStep
  rw [h1, if_pos hb]
theorem st_row (hb : s1.2 = 0) (hm : 0 < many) : tkStep t = tkRow many { t with s := s1 } := by
  unfold tkStep
  rw [h1, if_neg (by simpa using hb), if_pos hm]
theorem st_data (hb : s1.2 = 0) (hm : many = 0) : tkStep t = tkData { t with s := s1 } := by
  unfold tkStep
  rw [h1, if_neg (by simpa using hb), if_neg (by dsimp only; omega)]
theorem st_far (hb : s1.2 = 0) (hm : 0 < many) (hl : t.left < many) : (tkStep t).s = rFail 2 s1 := by
  rw [st_row h1 hb hm]
  have h2 : rWithin 3 (rFail 2 s1) = (0, rFail 2 s1) := rWithin_of (rFail_bad (by decide))
  obtain ⟨c1, c2, c3⟩ := tkRow_cases many { t with s := s1 } (if_pos hl) h2
  by_cases hk : 0 = 1 ∨ 0 = t.kind
  · rw [c1 hk]; exact rFail_of (rFail_bad (by decide))
  · rw [c3 hk (rFail_bad (by decide))]
theorem st_rowbad (hb : s1.2 = 0) (hm : 0 < many) (hl : many ≤ t.left) {k : Nat} {s2 : Rs} (h2 : rWithin 3 s1 = (k, s2)) (hc : s2.2 ≠ 0 ∨ k = 1 ∨ k = t.kind) : (tkStep t).s = rFail 2 s2 := by
  rw [st_row h1 hb hm]
  obtain ⟨c1, c2, c3⟩ := tkRow_cases many { t with s := s1 } (if_neg (by dsimp only; omega)) h2
  by_cases hk : k = 1 ∨ k = t.kind
  · rw [c1 hk]
  · have hb2 : s2.2 ≠ 0 := by
      rcases hc with h | h
      · exact h
      · exact absurd h hk
    rw [c3 hk hb2, rFail_of hb2]
theorem st_rowok (hb : s1.2 = 0) (hm : 0 < many) (hl : many ≤ t.left) {k : Nat} {s2 : Rs} (h2 : rWithin 3 s1 = (k, s2)) (hc : s2.2 = 0) (hk : ¬ (k = 1 ∨ k = t.kind)) : tkStep t = ⟨s2, t.out ++ List.replicate many ((k : Int), []), t.left - many, t.last, k⟩ := by
  rw [st_row h1 hb hm]
  obtain ⟨c1, c2, c3⟩ := tkRow_cases many { t with s := s1 } (if_neg (by dsimp only; omega)) h2
  exact c2 hk hc
variable {n : Nat} {s2 : Rs} (h2 : rNum s1 = (n, s2))
include h2
theorem st_long (hb : s1.2 = 0) (hm : many = 0) (hc : s2.2 ≠ 0 ∨ 64 < n) : (tkStep t).s = rFail 3 s2 := by
  rw [st_data h1 hb hm]
  have hz : s2.2 ≠ 0 → n = 0 := by
    intro h
    unfold rNum at h2
    split at h2
    · injection h2 with h2 _; exact h2.symm
    · split at h2
      · injection h2 with h2 _; exact h2.symm
      · injection h2 with _ h2; rw [← h2] at h; exact absurd rfl h
  by_cases hn : 64 < n
  · have h3 : rNum (rFail 3 s2) = (0, rFail 3 s2) := rNum_of (rFail_bad (by decide))
    obtain ⟨c1, -⟩ := tkData_cases { t with s := s1 } h2 (if_pos hn) h3 (if_neg (Nat.not_lt_zero _))
    rw [c1 (rFail_bad (by decide))]
  · have hb2 : s2.2 ≠ 0 := by
      rcases hc with h | h
      · exact h
      · exact absurd h hn
    have h3 : rNum s2 = (0, s2) := rNum_of hb2
    obtain ⟨c1, -⟩ := tkData_cases { t with s := s1 } h2 (if_neg hn) h3 (if_neg (Nat.not_lt_zero _))
    rw [c1 hb2, rFail_of hb2]
variable (hb : s1.2 = 0) (hm : many = 0) (hn : n ≤ 64) {k : Nat} {s3 : Rs} (h3 : rNum s2 = (k, s3))
include hb hm hn h3
theorem st_share (hc : s3.2 ≠ 0 ∨ n < k ∨ t.last.length < k) : (tkStep t).s = rFail 2 s3 := by
  rw [st_data h1 hb hm]
  by_cases hk : min n t.last.length < k
  · obtain ⟨c1, -⟩ := tkData_cases { t with s := s1 } h2 (if_neg (by omega)) h3 (if_pos hk)
    rw [c1 (rFail_bad (by decide))]
  · have hb3 : s3.2 ≠ 0 := by
      rcases hc with h | h | h
      · exact h
      · omega
      · omega
    obtain ⟨c1, -⟩ := tkData_cases { t with s := s1 } h2 (if_neg (by omega)) h3 (if_neg hk)
    rw [c1 hb3, rFail_of hb3]
variable (hk : k ≤ n) (hk2 : k ≤ t.last.length) (h30 : s3.2 = 0) {f : List UInt8} {s5 : Rs} (h5 : rFixed ((n - k : Nat) : Int) s3 = (f, s5))
include hk hk2 h30 h5
theorem st_fixbad (h50 : s5.2 ≠ 0) : (tkStep t).s = s5 := by
  rw [st_data h1 hb hm]
  obtain ⟨-, c2⟩ := tkData_cases { t with s := s1 } h2 (if_neg (by omega)) h3 (if_neg (by dsimp only; omega))
  rw [c2 h30 f s5 h5 _ rfl s5 (if_neg (by intro h; exact h50 h.1))]
theorem st_textbad (h50 : s5.2 = 0) {x : List UInt8} (hx : x = t.last.take k ++ f) (hc : cpl t.last x ≠ k) : (tkStep t).s = rFail 2 s5 := by
  rw [st_data h1 hb hm]
  obtain ⟨-, c2⟩ := tkData_cases { t with s := s1 } h2 (if_neg (by omega)) h3 (if_neg (by dsimp only; omega))
  rw [c2 h30 f s5 h5 x hx (rFail 2 s5) (if_pos ⟨h50, hc⟩)]
theorem st_textok (h50 : s5.2 = 0) {x : List UInt8} (hx : x = t.last.take k ++ f) (hc : cpl t.last x = k) : tkStep t = ⟨s5, t.out ++ [(1, x)], t.left - 1, x, 1⟩ := by
  rw [st_data h1 hb hm]
  obtain ⟨-, c2⟩ := tkData_cases { t with s := s1 } h2 (if_neg (by omega)) h3 (if_neg (by dsimp only; omega))
  exact c2 h30 f s5 h5 x hx s5 (if_neg (by intro h; exact h.2 hc))
end
end Go.Proofs.Ytjkdnnekagcdhaa
