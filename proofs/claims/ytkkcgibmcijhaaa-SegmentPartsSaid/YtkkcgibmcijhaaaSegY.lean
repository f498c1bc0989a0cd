/- WHAT IT HOLDS: Same of segments, the program's and the document's, walked. -/
import Derived.Test.YtkkcgibmcijhaaaSegX
import Derived.BigQuiet
import Derived.Deep.QuietTactic
namespace Go.Proofs.Ytkkcgibmcijhaaa
open Go.RowKit
attribute [local go_sem ↓] Go.wp_at_zero Go.wp_at_succ

def ssame (a b : Sg) : Bool := decide (a = b)
theorem same_iff {a b : Ce} : same a b = true ↔ a = b := by unfold same; exact decide_eq_true_iff
theorem take_ne {xs ys : List Ce} {k : Nat} (hx : k < xs.length) (hy : k < ys.length) (h : xs[k] ≠ ys[k]) : decide (xs = ys) = false := by
  rw [decide_eq_false_iff_not]
  rintro rfl
  exact h rfl
theorem len_ne {xs ys : List Ce} (h : xs.length ≠ ys.length) : decide (xs = ys) = false := by
  rw [decide_eq_false_iff_not]
  rintro rfl
  exact h rfl
set_option maxRecDepth 100000 in
set_option maxHeartbeats 1000000 in
theorem EqualFunc_any {E G : Option Addr} {cap cap2 : Nat} (cs ds : List CeV) (w : World) (h : SlC w E cap cs) (h2 : SlC w G cap2 ds) :
    Calls Try.prog 114 #[.slice E cs.length cap, .slice G ds.length cap2, .func (.func 26) #[] #[]] w fun e w' => e = .returned (.bool (decide (cs.map ceOf = ds.map ceOf))) ∧ Below w.heap.size w w' := by
  have hmax := h.1.len_le
  have hmax2 := h2.1.len_le
  unfold maxLen at hmax hmax2
  by_cases hl : cs.length = ds.length
  · have HL := Lib.hid hl
    have hlb : ((cs.length : Int) != (ds.length : Int)) = false := by simp [hl]
    have hle1 : cs.length ≤ ds.length := by omega
    have hle2 : ds.length ≤ cs.length := by omega
    clear hl
    go_enter Try.func114, Try.ntmps114
    go_wp2_with fail
    go_loopw [17] (fun x wr => ∃ k : Nat, k ≤ cs.length ∧ x = .int .i64 k ∧ Hid ((cs.map ceOf).take k = (ds.map ceOf).take k) ∧ Below w.heap.size w wr) (fun x w => cs.length - (intOf x).toNat)
    case atStart => exact ⟨0, Nat.zero_le _, rfl, (show _ = _ from by simp), Below.refl _ _⟩
    case round =>
      obtain ⟨k, hk, rfl, hall, hbr⟩ := hrel
      by_cases hlt : k < cs.length
      · have hlt2 : k < ds.length := by omega
        obtain ⟨ad, b, o, rfl, had, hc0, hc1, hsx⟩ := (h.below hbr).at2 hlt
        obtain ⟨ad2, b2, o2, rfl, had2, hd0, hd1, hsy⟩ := (h2.below hbr).at2 hlt2
        have hnx := Lib.hid (take_succ_eq hall.out (by simpa using hlt) (by simpa using hlt2))
        have hno := Lib.hid (take_ne (xs := cs.map ceOf) (ys := ds.map ceOf) (k := k) (by simpa using hlt) (by simpa using hlt2))
        rw [List.getElem_map, List.getElem_map] at hnx hno
        generalize cs[k] = x at *
        generalize ds[k] = y at *
        obtain ⟨kk, A, c, d⟩ := x
        obtain ⟨kk2, A2, c2, d2⟩ := y
        dsimp only [ceOf] at *
        have hb2 := bel_alloc (below_new wr (.cells #[.int .i64 kk, .slice A d.length c] 42)) (.cells #[.int .i64 kk2, .slice A2 d2.length c2] 42)
        have hlb2 : b2 < wr.heap.size := World.block_lt_of_cell? wr _ hd0
        have hne2 : b2 ≠ wr.heap.size := by omega
        go_wp2_with fail
        refine (CSame_any kk kk2 d d2 _ (hsx.below hb2) (hsy.below hb2)).mono ?_
        rintro e w4 ⟨rfl, hb4⟩
        have hn4 := bel_call (bel_call hbr hb2) hb4
        cases hs : same (kk, d) (kk2, d2)
        · have he : ((kk, d) : Ce) ≠ (kk2, d2) := by intro he; rw [same_iff.2 he] at hs; cases hs
          have hr := Lib.hid (hno.out he)
          clear he hs hno hnx
          go_wp2_with fail
          go_ret
          exact ⟨by rw [hr.out]; rfl, hn4⟩
        · have hr := Lib.hid (hnx.out.2 (same_iff.1 hs))
          clear hs hno hnx
          go_wp2_with fail
          go_roundw
          case rel => exact ⟨k + 1, hlt, by go_num, hr, hn4⟩
          case measure => simp [intOf]; omega
      · go_wp2_with fail
        go_ret
        have h5 := hall.out
        rw [List.take_of_length_le (by simp; omega), List.take_of_length_le (by simp; omega)] at h5
        exact ⟨by rw [decide_eq_true h5]; rfl, hbr⟩
  · have hlb : ((cs.length : Int) != (ds.length : Int)) = true := by simp; omega
    have hr := Lib.hid (len_ne (xs := cs.map ceOf) (ys := ds.map ceOf) (by simpa using hl))
    clear hl
    go_enter Try.func114, Try.ntmps114
    go_wp2_with fail
    go_ret
    exact ⟨by rw [hr.out]; rfl, Below.refl _ _⟩

theorem ssame_ne {f f2 : Int} {l m : List Ce} (h : f ≠ f2) : ssame (f, l) (f2, m) = false := by
  unfold ssame
  rw [decide_eq_false_iff_not]
  intro he
  exact h (congrArg Prod.fst he)
theorem ssame_eq {f : Int} {l m : List Ce} : ssame (f, l) (f, m) = decide (l = m) := by
  unfold ssame
  rw [decide_eq_decide]
  exact ⟨fun h => congrArg Prod.snd h, fun h => by rw [h]⟩

set_option maxRecDepth 100000 in
set_option maxHeartbeats 1000000 in
theorem SSame_any {E G : Option Addr} {cap cap2 : Nat} (f f2 : Int) (cs ds : List CeV) (w : World) (h : SlC w E cap cs) (h2 : SlC w G cap2 ds) :
    Calls Try.prog 55 #[cv f E cs.length cap, cv f2 G ds.length cap2] w fun e w' => e = .returned (.bool (ssame (f, cs.map ceOf) (f2, ds.map ceOf))) ∧ Below w.heap.size w w' := by
  have hbb := bel_alloc (below_new w (.cells #[.int .i64 f, .slice E cs.length cap] 89)) (.cells #[.int .i64 f2, .slice G ds.length cap2] 89)
  by_cases hf : f = f2
  · subst hf
    have hr := Lib.hid (ssame_eq (f := f) (l := cs.map ceOf) (m := ds.map ceOf))
    go_enter Try.func55, Try.ntmps55
    go_wp2_with fail
    refine (EqualFunc_any cs ds _ (h.below hbb) (h2.below hbb)).mono ?_
    rintro e w2 ⟨rfl, hb2⟩
    go_wp2_with fail
    go_ret
    exact ⟨by rw [hr.out]; rfl, bel_call hbb hb2⟩
  · have hfb : (f == f2) = false := by simpa using hf
    have hr := Lib.hid (ssame_ne (l := cs.map ceOf) (m := ds.map ceOf) hf)
    clear hf
    go_enter Try.func55, Try.ntmps55
    go_wp2_with fail
    go_ret
    exact ⟨by rw [hr.out]; rfl, hbb⟩

set_option maxRecDepth 100000 in
set_option maxHeartbeats 1000000 in
theorem rSSame_any {E G : Option Addr} {cap cap2 : Nat} (f f2 : Int) (cs ds : List Ce) (w : World) (h : SlD w E cap cs) (h2 : SlD w G cap2 ds) :
    Calls Try.prog 56 #[cv f E cs.length cap, cv f2 G ds.length cap2] w fun e w' => e = .returned (.bool (ssame (f, cs) (f2, ds))) ∧ Below w.heap.size w w' := by
  have hmax := h.len_le
  have hmax2 := h2.len_le
  unfold maxLen at hmax hmax2
  have hbb := bel_alloc (below_new w (.cells #[.int .i64 f, .slice E cs.length cap] 91)) (.cells #[.int .i64 f2, .slice G ds.length cap2] 91)
  by_cases hf : f = f2
  · subst hf
    have hsr := Lib.hid (ssame_eq (f := f) (l := cs) (m := ds))
    have hfb : (f != f) = false := by simp
    by_cases hl : cs.length = ds.length
    · have HL := Lib.hid hl
      have hlb : ((cs.length : Int) != (ds.length : Int)) = false := by simp [hl]
      have hle1 : cs.length ≤ ds.length := by omega
      have hle2 : ds.length ≤ cs.length := by omega
      have hB1 := (Blk.new w 91 #[.int .i64 f, .slice E cs.length cap]).alloc (.cells #[.int .i64 f, .slice G ds.length cap2] 91)
      have hB2 := Blk.newAt (w := w.alloc (.cells #[.int .i64 f, .slice E cs.length cap] 91)) (g := w.heap.size + 1) (by simp) 91 #[.int .i64 f, .slice G ds.length cap2]
      clear hl
      go_enter Try.func56, Try.ntmps56
      go_wp2_with fail
      go_loopw [5] (fun x wr => ∃ k : Nat, k ≤ cs.length ∧ x = .int .i64 k ∧ Hid (cs.take k = ds.take k) ∧ Below w.heap.size w wr ∧ Blk wr w.heap.size 91 #[.int .i64 f, .slice E cs.length cap] ∧ Blk wr (w.heap.size + 1) 91 #[.int .i64 f, .slice G ds.length cap2]) (fun x w => cs.length - (intOf x).toNat)
      case atStart => exact ⟨0, Nat.zero_le _, rfl, (show _ = _ from by simp), hbb, hB1, hB2⟩
      case round =>
        obtain ⟨k, hk, rfl, hall, hbr, hBr1, hBr2⟩ := hrel
        obtain ⟨a0, a1, _, _⟩ := hBr1.two
        obtain ⟨b0, b1, _, _⟩ := hBr2.two
        by_cases hlt : k < cs.length
        · have hlt2 : k < ds.length := by omega
          obtain ⟨ad, b, o, rfl, had, hcc⟩ := (h.below hbr).atS (f := df) (fun _ => rfl) (by decide) hlt
          obtain ⟨ad2, b2, o2, rfl, had2, hdd⟩ := (h2.below hbr).atS (f := df) (fun _ => rfl) (by decide) hlt2
          have hc0 := hcc 0 _ rfl
          have hc1 := hcc 1 _ rfl
          have hd0 := hdd 0 _ rfl
          have hd1 := hdd 1 _ rfl
          clear hcc hdd
          have hnx := Lib.hid (take_succ_eq hall.out hlt hlt2)
          have hno := Lib.hid (take_ne hlt hlt2)
          generalize cs[k] = x at *
          generalize ds[k] = y at *
          obtain ⟨kk, d⟩ := x
          obtain ⟨kk2, d2⟩ := y
          dsimp only at *
          rw [Nat.add_zero] at hc0 hd0
          have hnn := neq_dv kk kk2 d d2
          cases hs : same (kk, d) (kk2, d2)
          · have he : ((kk, d) : Ce) ≠ (kk2, d2) := by intro he; rw [same_iff.2 he] at hs; cases hs
            have hr := Lib.hid (hno.out he)
            rw [hs] at hnn
            clear he hs hno hnx
            go_wp2_with fail
            go_quiet (fail)
            go_wp2_with fail
            go_ret
            exact ⟨by rw [hsr.out, hr.out]; rfl, below_drewN hbr _⟩
          · have hr := Lib.hid (hnx.out.2 (same_iff.1 hs))
            rw [hs] at hnn
            clear hs hno hnx
            go_wp2_with fail
            go_quiet (fail)
            go_wp2_with fail
            go_roundw
            case rel => exact ⟨k + 1, hlt, by go_num, hr, below_drewN hbr _, hBr1.drewN _, hBr2.drewN _⟩
            case measure => simp [intOf]; omega
        · go_wp2_with fail
          go_ret
          have h5 := hall.out
          rw [List.take_of_length_le (by omega), List.take_of_length_le (by omega)] at h5
          exact ⟨by rw [hsr.out, decide_eq_true h5]; rfl, hbr⟩
    · have hlb : ((cs.length : Int) != (ds.length : Int)) = true := by simp; omega
      have hr := Lib.hid (len_ne hl)
      clear hl
      go_enter Try.func56, Try.ntmps56
      go_wp2_with fail
      go_ret
      exact ⟨by rw [hsr.out, hr.out]; rfl, hbb⟩
  · have hfb : (f != f2) = true := by simpa using hf
    have hr := Lib.hid (ssame_ne (l := cs) (m := ds) hf)
    clear hf
    go_enter Try.func56, Try.ntmps56
    go_wp2_with fail
    go_ret
    exact ⟨by rw [hr.out]; rfl, hbb⟩
end Go.Proofs.Ytkkcgibmcijhaaa
