/- WHAT IT HOLDS: Check of segments, the program's and the document's, walked. | WHAT IT HOLDS: the document's Check of segments, and both Same, walked. | WHAT IT HOLDS: Same of segments, the program's and the document's, walked. | WHAT IT HOLDS: a segment as the document's, and a segment's copy, walked. | WHAT IT HOLDS: a segment's copy, walked; append of cells at a step of a region that draws. | WHAT IT HOLDS: a row of the call's own, written in place; rows of other types beside it. | WHAT IT HOLDS: a call's own blocks, carried together through a walk. -/
import Derived.Test.YtnndlmkcckgkhaaGreatDoorStoreOpensG07
import Derived.BigQuiet
import Derived.Deep.QuietTactic
import Derived.Test.YtnndlmkcckgkhaaGreatDoorStoreOpensG03
namespace Go.Proofs.YtnndlmkcckgkhaaGreatDoor
open Go.RowKit
attribute [local go_sem ↓] Go.wp_at_zero Go.wp_at_succ

set_option maxRecDepth 100000 in
set_option maxHeartbeats 400000 in
theorem SEnd_any (f : Int) (E : Option Addr) (n c : Nat) (w : World) (h0 : 0 ≤ f) (h1 : f ≤ 1048576) (h2 : n ≤ 100000000) :
    Calls Tryz.prog 151 #[cv f E n c] w fun e w' => e = .returned (.int .i64 (f + (n : Int))) ∧ Below w.heap.size w w' := by
  have hbw := below_new w (.cells #[.int .i64 f, .slice E n c] 24)
  go_enter Tryz.func151, Tryz.ntmps151
  go_wp2_with fail
  go_ret
  exact ⟨rfl, hbw⟩

set_option maxRecDepth 100000 in
set_option maxHeartbeats 1000000 in
theorem SCheck_any {E : Option Addr} {cap : Nat} (f : Int) (cs : List CeV) (w : World) (h : SlC w E cap cs) :
    Calls Tryz.prog 103 #[cv f E cs.length cap] w fun e w' => e = .returned (errv (schk (f, cs.map ceOf))) ∧ Below w.heap.size w w' := by
  have hmax := h.1.len_le
  unfold maxLen at hmax
  have hbw := below_new w (.cells #[.int .i64 f, .slice E cs.length cap] 24)
  have hB := Blk.new w 24 #[.int .i64 f, .slice E cs.length cap]
  by_cases h1 : f < 0
  · have hc := Lib.hid (schk_range (s := (f, cs.map ceOf)) (.inl h1))
    go_enter Tryz.func103, Tryz.ntmps103
    go_wp2_with fail
    go_ret
    exact ⟨by rw [hc.out]; rfl, hbw⟩
  by_cases h2 : 1048576 < f
  · have hc := Lib.hid (schk_range (s := (f, cs.map ceOf)) (.inr h2))
    go_enter Tryz.func103, Tryz.ntmps103
    go_wp2_with fail
    go_ret
    exact ⟨by rw [hc.out]; rfl, hbw⟩
  have hr : ¬ (f < 0 ∨ 1048576 < f) := by omega
  by_cases h3 : 64 < cs.length
  · have hc := Lib.hid (schk_long (s := (f, cs.map ceOf)) hr (by simpa using h3))
    clear hr
    go_enter Tryz.func103, Tryz.ntmps103
    go_wp2_with fail
    go_ret
    exact ⟨by rw [hc.out]; rfl, hbw⟩
  by_cases h4 : 1048576 < f + cs.length
  · have hc := Lib.hid (schk_far (s := (f, cs.map ceOf)) hr (by simpa using h3) (by simpa using h4))
    clear hr
    obtain ⟨a0, a1, _, _⟩ := hB.two
    go_enter Tryz.func103, Tryz.ntmps103
    go_wp2_with fail
    refine (SEnd_any f E cs.length cap _ (by omega) (by omega) (by omega)).mono ?_
    rintro e w1 ⟨rfl, hb1⟩
    go_wp2_with fail
    go_ret
    exact ⟨by rw [hc.out]; rfl, bel_call hbw hb1⟩
  have hc := Lib.hid (schk_cells (s := (f, cs.map ceOf)) hr (by simpa using h3) (by simpa using h4))
  clear hr
  obtain ⟨a0, a1, _, _⟩ := hB.two
  go_enter Tryz.func103, Tryz.ntmps103
  go_wp2_with fail
  refine (SEnd_any f E cs.length cap _ (by omega) (by omega) (by omega)).mono ?_
  rintro e w1 ⟨rfl, hb1⟩
  have hw1 := bel_call hbw hb1
  have hB1 := hB.below hb1
  obtain ⟨a0, a1, _, _⟩ := hB1.two
  clear hB hbw hb1 hB1
  go_wp2_with fail
  go_loopw [30] (fun x wr => ∃ k : Nat, k ≤ cs.length ∧ x = .int .i64 k ∧ Hid (∀ c ∈ (cs.map ceOf).take k, cchk c = 0) ∧ Below w.heap.size w wr) (fun x w => cs.length - (intOf x).toNat)
  case atStart => exact ⟨0, Nat.zero_le _, rfl, (fun c hc => by simp at hc), hw1⟩
  case round =>
    obtain ⟨k, hk, rfl, hall, hbr⟩ := hrel
    clear a0 a1
    by_cases hlt : k < cs.length
    · obtain ⟨ad, b, o, rfl, had, hc0, hc1, _⟩ := (h.below hbr).at2 hlt
      have hbad := Lib.hid (rchk_at (l := cs.map ceOf) (k := k) (by simpa using hlt) hall.out)
      have hgood : Hid (cchk ((cs.map ceOf)[k]'(by simpa using hlt)) = 0 → ∀ c ∈ (cs.map ceOf).take (k + 1), cchk c = 0) := (show _ → _ from fun h c hc => by
        rw [List.take_succ_eq_append_getElem (by simpa using hlt), List.mem_append] at hc
        rcases hc with hc | hc
        · exact hall.out c hc
        · simp only [List.mem_singleton] at hc
          rw [hc]; exact h)
      rw [List.getElem_map] at hbad hgood
      generalize cs[k] = x at *
      obtain ⟨kk, A, c, d⟩ := x
      dsimp only [ceOf] at *
      have hC := fun W => CCheck_any (A := A) (c := c) kk d W
      rcases errv_cases (cchk (kk, d)) with ⟨h1, e1⟩ | ⟨n1, p1, q1, e1⟩
      · simp only [e1] at hC
        have C1 := Lib.hid hC
        have hg := Lib.hid (hgood.out h1)
        clear hC h1 e1 hgood hbad
        go_wp2_with fail
        refine (C1.out _).mono ?_
        rintro e w4 ⟨rfl, hb4⟩
        have hn4 := bel_call (bel_alloc hbr (.cells #[.int .i64 kk, .slice A d.length c] 109)) hb4
        go_wp2_with fail
        go_roundw
        case rel => exact ⟨k + 1, hlt, by go_num, hg, hn4⟩
        case measure => simp [intOf]; omega
      · simp only [e1] at hC
        have C1 := Lib.hid hC
        have hr : Hid (rchk (cs.map ceOf) = cchk (kk, d)) := Lib.hid (hbad.out (by omega))
        have E1 := Lib.hid e1
        clear hC hbad hgood e1 q1
        go_wp2_with fail
        refine (C1.out _).mono ?_
        rintro e w4 ⟨rfl, hb4⟩
        have hn4 := bel_call (bel_alloc hbr (.cells #[.int .i64 kk, .slice A d.length c] 109)) hb4
        go_wp2_with fail
        go_ret
        exact ⟨by rw [hc.out]; dsimp only; rw [hr.out, E1.out]; rfl, hn4⟩
    · go_wp2_with fail
      go_ret
      have h5 : rchk (cs.map ceOf) = 0 := rchk_ok fun c hc => hall.out c (by rw [List.take_of_length_le (by simp; omega)]; exact hc)
      exact ⟨by rw [hc.out]; dsimp only; rw [h5]; rfl, hbr⟩
end Go.Proofs.YtnndlmkcckgkhaaGreatDoor

namespace Go.Proofs.YtnndlmkcckgkhaaGreatDoor
open Go.RowKit
attribute [local go_sem ↓] Go.wp_at_zero Go.wp_at_succ

theorem rchk_next {l : List Ce} {k : Nat} (hk : k < l.length) (hall : ∀ c ∈ l.take k, cchk c = 0) (h0 : cchk l[k] = 0) : ∀ c ∈ l.take (k + 1), cchk c = 0 := fun c hc => by
  rw [List.take_succ_eq_append_getElem hk, List.mem_append] at hc
  rcases hc with hc | hc
  · exact hall c hc
  · simp only [List.mem_singleton] at hc
    rw [hc]; exact h0

set_option maxRecDepth 100000 in
set_option maxHeartbeats 1000000 in
theorem rSCheck_any {E : Option Addr} {cap : Nat} (f : Int) (ds : List Ce) (w : World) (h : SlD w E cap ds) :
    Calls Tryz.prog 11 #[cv f E ds.length cap] w fun e w' => e = .returned (.int .i64 (schk (f, ds) : Nat)) ∧ Below w.heap.size w w' := by
  have hmax := h.len_le
  unfold maxLen at hmax
  have hbw := below_new w (.cells #[.int .i64 f, .slice E ds.length cap] 34)
  have hB := Blk.new w 34 #[.int .i64 f, .slice E ds.length cap]
  by_cases h1 : f < 0
  · have hc := Lib.hid (schk_range (s := (f, ds)) (.inl h1))
    go_enter Tryz.func11, Tryz.ntmps11
    go_wp2_with fail
    go_ret
    exact ⟨by rw [hc.out]; rfl, hbw⟩
  by_cases h2 : 1048576 < f
  · have hc := Lib.hid (schk_range (s := (f, ds)) (.inr h2))
    go_enter Tryz.func11, Tryz.ntmps11
    go_wp2_with fail
    go_ret
    exact ⟨by rw [hc.out]; rfl, hbw⟩
  have hr : ¬ (f < 0 ∨ 1048576 < f) := by omega
  by_cases h3 : 64 < ds.length
  · have hc := Lib.hid (schk_long (s := (f, ds)) hr h3)
    clear hr
    go_enter Tryz.func11, Tryz.ntmps11
    go_wp2_with fail
    go_ret
    exact ⟨by rw [hc.out]; rfl, hbw⟩
  by_cases h4 : 1048576 < f + ds.length
  · have hc := Lib.hid (schk_far (s := (f, ds)) hr h3 h4)
    clear hr
    go_enter Tryz.func11, Tryz.ntmps11
    go_wp2_with fail
    go_ret
    exact ⟨by rw [hc.out]; rfl, hbw⟩
  have hc := Lib.hid (schk_cells (s := (f, ds)) hr h3 h4)
  clear hr
  go_enter Tryz.func11, Tryz.ntmps11
  go_wp2_with fail
  go_loopw [3] (fun x wr => ∃ k : Nat, k ≤ ds.length ∧ x = .int .i64 k ∧ Hid (∀ c ∈ ds.take k, cchk c = 0) ∧ Below w.heap.size w wr ∧ Blk wr w.heap.size 34 #[.int .i64 f, .slice E ds.length cap]) (fun x w => ds.length - (intOf x).toNat)
  case atStart => exact ⟨0, Nat.zero_le _, rfl, (fun c hc => by simp at hc), hbw, hB⟩
  case round =>
    obtain ⟨k, hk, rfl, hall, hbr, hBr⟩ := hrel
    obtain ⟨a0, a1, _, _⟩ := hBr.two
    by_cases hlt : k < ds.length
    · obtain ⟨ad, b, o, rfl, had, hcc⟩ := (h.below hbr).atS (f := df) (fun _ => rfl) (by decide) hlt
      have hc0 := hcc 0 _ rfl
      have hc1 := hcc 1 _ rfl
      clear hcc
      have hbad := Lib.hid (rchk_at (l := ds) (k := k) hlt hall.out)
      have hgood := Lib.hid (rchk_next hlt hall.out)
      generalize ds[k] = x at *
      obtain ⟨kk, d⟩ := x
      dsimp only at *
      rw [Nat.add_zero] at hc0
      rcases Nat.eq_zero_or_pos (cchk (kk, d)) with h1 | h1
      · have hg := Lib.hid (hgood.out h1)
        have hz := Lib.hid h1
        clear h1 hgood hbad
        go_wp2_with fail
        refine (rCheck_any kk d _).mono ?_
        rintro e w4 ⟨rfl, hb4⟩
        rw [hz.out]
        have hn4 := bel_call hbr hb4
        have hB4 := hBr.below hb4
        clear a0 a1 hBr hbr hb4 hc0 hc1
        go_wp2_with fail
        go_roundw
        case rel => exact ⟨k + 1, hlt, by go_num, hg, hn4, hB4⟩
        case measure => simp [intOf]; omega
      · have hr : Hid (rchk ds = cchk (kk, d)) := Lib.hid (hbad.out (by omega))
        have hk1 : (((cchk (kk, d) : Nat) : Int) != 0) = true := by simp; omega
        clear hbad hgood
        go_wp2_with fail
        refine (rCheck_any kk d _).mono ?_
        rintro e w4 ⟨rfl, hb4⟩
        have hn4 := bel_call hbr hb4
        generalize cchk (kk, d) = q at *
        go_wp2_with fail
        go_ret
        exact ⟨by rw [hc.out]; dsimp only; rw [hr.out]; rfl, hn4⟩
    · go_wp2_with fail
      go_ret
      have h5 : rchk ds = 0 := rchk_ok fun c hc => hall.out c (by rw [List.take_of_length_le (by omega)]; exact hc)
      exact ⟨by rw [hc.out]; dsimp only; rw [h5]; rfl, hbr⟩
end Go.Proofs.YtnndlmkcckgkhaaGreatDoor

namespace Go.Proofs.YtnndlmkcckgkhaaGreatDoor
open Go.RowKit
attribute [local go_sem ↓] Go.wp_at_zero Go.wp_at_succ

def ssame (a b : Sg) : Bool := decide (a = b)
theorem same_iff {a b : Ce} : same a b = true ↔ a = b := by unfold same; exact decide_eq_true_iff
theorem take_ne {xs ys : List Ce} {k : Nat} (hx : k < xs.length) (hy : k < ys.length) (h : xs[k] ≠ ys[k]) : decide (xs = ys) = false := by
  rw [decide_eq_false_iff_not]
  rintro rfl
  exact h rfl
theorem len_ne {xs ys : List Ce} (h : xs.length ≠ ys.length) : decide (xs = ys) = false := by
  rw [decide_eq_false_iff_not]
  rintro rfl
  exact h rfl
set_option maxRecDepth 100000 in
set_option maxHeartbeats 1000000 in
theorem EqualFunc_any {E G : Option Addr} {cap cap2 : Nat} (cs ds : List CeV) (w : World) (h : SlC w E cap cs) (h2 : SlC w G cap2 ds) :
    Calls Tryz.prog 64 #[.slice E cs.length cap, .slice G ds.length cap2, .func (.func 65) #[] #[]] w fun e w' => e = .returned (.bool (decide (cs.map ceOf = ds.map ceOf))) ∧ Below w.heap.size w w' := by
  have hmax := h.1.len_le
  have hmax2 := h2.1.len_le
  unfold maxLen at hmax hmax2
  by_cases hl : cs.length = ds.length
  · have HL := Lib.hid hl
    have hlb : ((cs.length : Int) != (ds.length : Int)) = false := by simp [hl]
    have hle1 : cs.length ≤ ds.length := by omega
    have hle2 : ds.length ≤ cs.length := by omega
    clear hl
    go_enter Tryz.func64, Tryz.ntmps64
    go_wp2_with fail
    go_loopw [17] (fun x wr => ∃ k : Nat, k ≤ cs.length ∧ x = .int .i64 k ∧ Hid ((cs.map ceOf).take k = (ds.map ceOf).take k) ∧ Below w.heap.size w wr) (fun x w => cs.length - (intOf x).toNat)
    case atStart => exact ⟨0, Nat.zero_le _, rfl, (show _ = _ from by simp), Below.refl _ _⟩
    case round =>
      obtain ⟨k, hk, rfl, hall, hbr⟩ := hrel
      by_cases hlt : k < cs.length
      · have hlt2 : k < ds.length := by omega
        obtain ⟨ad, b, o, rfl, had, hc0, hc1, hsx⟩ := (h.below hbr).at2 hlt
        obtain ⟨ad2, b2, o2, rfl, had2, hd0, hd1, hsy⟩ := (h2.below hbr).at2 hlt2
        have hnx := Lib.hid (take_succ_eq hall.out (by simpa using hlt) (by simpa using hlt2))
        have hno := Lib.hid (take_ne (xs := cs.map ceOf) (ys := ds.map ceOf) (k := k) (by simpa using hlt) (by simpa using hlt2))
        rw [List.getElem_map, List.getElem_map] at hnx hno
        generalize cs[k] = x at *
        generalize ds[k] = y at *
        obtain ⟨kk, A, c, d⟩ := x
        obtain ⟨kk2, A2, c2, d2⟩ := y
        dsimp only [ceOf] at *
        have hb2 := bel_alloc (below_new wr (.cells #[.int .i64 kk, .slice A d.length c] 109)) (.cells #[.int .i64 kk2, .slice A2 d2.length c2] 109)
        have hlb2 : b2 < wr.heap.size := World.block_lt_of_cell? wr _ hd0
        have hne2 : b2 ≠ wr.heap.size := by omega
        go_wp2_with fail
        refine (CSame_any kk kk2 d d2 _ (hsx.below hb2) (hsy.below hb2)).mono ?_
        rintro e w4 ⟨rfl, hb4⟩
        have hn4 := bel_call (bel_call hbr hb2) hb4
        cases hs : same (kk, d) (kk2, d2)
        · have he : ((kk, d) : Ce) ≠ (kk2, d2) := by intro he; rw [same_iff.2 he] at hs; cases hs
          have hr := Lib.hid (hno.out he)
          clear he hs hno hnx
          go_wp2_with fail
          go_ret
          exact ⟨by rw [hr.out]; rfl, hn4⟩
        · have hr := Lib.hid (hnx.out.2 (same_iff.1 hs))
          clear hs hno hnx
          go_wp2_with fail
          go_roundw
          case rel => exact ⟨k + 1, hlt, by go_num, hr, hn4⟩
          case measure => simp [intOf]; omega
      · go_wp2_with fail
        go_ret
        have h5 := hall.out
        rw [List.take_of_length_le (by simp; omega), List.take_of_length_le (by simp; omega)] at h5
        exact ⟨by rw [decide_eq_true h5]; rfl, hbr⟩
  · have hlb : ((cs.length : Int) != (ds.length : Int)) = true := by simp; omega
    have hr := Lib.hid (len_ne (xs := cs.map ceOf) (ys := ds.map ceOf) (by simpa using hl))
    clear hl
    go_enter Tryz.func64, Tryz.ntmps64
    go_wp2_with fail
    go_ret
    exact ⟨by rw [hr.out]; rfl, Below.refl _ _⟩

theorem ssame_ne {f f2 : Int} {l m : List Ce} (h : f ≠ f2) : ssame (f, l) (f2, m) = false := by
  unfold ssame
  rw [decide_eq_false_iff_not]
  intro he
  exact h (congrArg Prod.fst he)
theorem ssame_eq {f : Int} {l m : List Ce} : ssame (f, l) (f, m) = decide (l = m) := by
  unfold ssame
  rw [decide_eq_decide]
  exact ⟨fun h => congrArg Prod.snd h, fun h => by rw [h]⟩

set_option maxRecDepth 100000 in
set_option maxHeartbeats 1000000 in
theorem SSame_any {E G : Option Addr} {cap cap2 : Nat} (f f2 : Int) (cs ds : List CeV) (w : World) (h : SlC w E cap cs) (h2 : SlC w G cap2 ds) :
    Calls Tryz.prog 24 #[cv f E cs.length cap, cv f2 G ds.length cap2] w fun e w' => e = .returned (.bool (ssame (f, cs.map ceOf) (f2, ds.map ceOf))) ∧ Below w.heap.size w w' := by
  have hbb := bel_alloc (below_new w (.cells #[.int .i64 f, .slice E cs.length cap] 24)) (.cells #[.int .i64 f2, .slice G ds.length cap2] 24)
  by_cases hf : f = f2
  · subst hf
    have hr := Lib.hid (ssame_eq (f := f) (l := cs.map ceOf) (m := ds.map ceOf))
    go_enter Tryz.func24, Tryz.ntmps24
    go_wp2_with fail
    refine (EqualFunc_any cs ds _ (h.below hbb) (h2.below hbb)).mono ?_
    rintro e w2 ⟨rfl, hb2⟩
    go_wp2_with fail
    go_ret
    exact ⟨by rw [hr.out]; rfl, bel_call hbb hb2⟩
  · have hfb : (f == f2) = false := by simpa using hf
    have hr := Lib.hid (ssame_ne (l := cs.map ceOf) (m := ds.map ceOf) hf)
    clear hf
    go_enter Tryz.func24, Tryz.ntmps24
    go_wp2_with fail
    go_ret
    exact ⟨by rw [hr.out]; rfl, hbb⟩

set_option maxRecDepth 100000 in
set_option maxHeartbeats 1000000 in
theorem rSSame_any {E G : Option Addr} {cap cap2 : Nat} (f f2 : Int) (cs ds : List Ce) (w : World) (h : SlD w E cap cs) (h2 : SlD w G cap2 ds) :
    Calls Tryz.prog 18 #[cv f E cs.length cap, cv f2 G ds.length cap2] w fun e w' => e = .returned (.bool (ssame (f, cs) (f2, ds))) ∧ Below w.heap.size w w' := by
  have hmax := h.len_le
  have hmax2 := h2.len_le
  unfold maxLen at hmax hmax2
  have hbb := bel_alloc (below_new w (.cells #[.int .i64 f, .slice E cs.length cap] 34)) (.cells #[.int .i64 f2, .slice G ds.length cap2] 34)
  by_cases hf : f = f2
  · subst hf
    have hsr := Lib.hid (ssame_eq (f := f) (l := cs) (m := ds))
    have hfb : (f != f) = false := by simp
    by_cases hl : cs.length = ds.length
    · have HL := Lib.hid hl
      have hlb : ((cs.length : Int) != (ds.length : Int)) = false := by simp [hl]
      have hle1 : cs.length ≤ ds.length := by omega
      have hle2 : ds.length ≤ cs.length := by omega
      have hB1 := (Blk.new w 34 #[.int .i64 f, .slice E cs.length cap]).alloc (.cells #[.int .i64 f, .slice G ds.length cap2] 34)
      have hB2 := Blk.newAt (w := w.alloc (.cells #[.int .i64 f, .slice E cs.length cap] 34)) (g := w.heap.size + 1) (by simp) 34 #[.int .i64 f, .slice G ds.length cap2]
      clear hl
      go_enter Tryz.func18, Tryz.ntmps18
      go_wp2_with fail
      go_loopw [5] (fun x wr => ∃ k : Nat, k ≤ cs.length ∧ x = .int .i64 k ∧ Hid (cs.take k = ds.take k) ∧ Below w.heap.size w wr ∧ Blk wr w.heap.size 34 #[.int .i64 f, .slice E cs.length cap] ∧ Blk wr (w.heap.size + 1) 34 #[.int .i64 f, .slice G ds.length cap2]) (fun x w => cs.length - (intOf x).toNat)
      case atStart => exact ⟨0, Nat.zero_le _, rfl, (show _ = _ from by simp), hbb, hB1, hB2⟩
      case round =>
        obtain ⟨k, hk, rfl, hall, hbr, hBr1, hBr2⟩ := hrel
        obtain ⟨a0, a1, _, _⟩ := hBr1.two
        obtain ⟨b0, b1, _, _⟩ := hBr2.two
        by_cases hlt : k < cs.length
        · have hlt2 : k < ds.length := by omega
          obtain ⟨ad, b, o, rfl, had, hcc⟩ := (h.below hbr).atS (f := df) (fun _ => rfl) (by decide) hlt
          obtain ⟨ad2, b2, o2, rfl, had2, hdd⟩ := (h2.below hbr).atS (f := df) (fun _ => rfl) (by decide) hlt2
          have hc0 := hcc 0 _ rfl
          have hc1 := hcc 1 _ rfl
          have hd0 := hdd 0 _ rfl
          have hd1 := hdd 1 _ rfl
          clear hcc hdd
          have hnx := Lib.hid (take_succ_eq hall.out hlt hlt2)
          have hno := Lib.hid (take_ne hlt hlt2)
          generalize cs[k] = x at *
          generalize ds[k] = y at *
          obtain ⟨kk, d⟩ := x
          obtain ⟨kk2, d2⟩ := y
          dsimp only at *
          rw [Nat.add_zero] at hc0 hd0
          have hnn := neq_dv kk kk2 d d2
          cases hs : same (kk, d) (kk2, d2)
          · have he : ((kk, d) : Ce) ≠ (kk2, d2) := by intro he; rw [same_iff.2 he] at hs; cases hs
            have hr := Lib.hid (hno.out he)
            rw [hs] at hnn
            clear he hs hno hnx
            go_wp2_with fail
            go_quiet (fail)
            go_wp2_with fail
            go_ret
            exact ⟨by rw [hsr.out, hr.out]; rfl, below_drewN hbr _⟩
          · have hr := Lib.hid (hnx.out.2 (same_iff.1 hs))
            rw [hs] at hnn
            clear hs hno hnx
            go_wp2_with fail
            go_quiet (fail)
            go_wp2_with fail
            go_roundw
            case rel => exact ⟨k + 1, hlt, by go_num, hr, below_drewN hbr _, hBr1.drewN _, hBr2.drewN _⟩
            case measure => simp [intOf]; omega
        · go_wp2_with fail
          go_ret
          have h5 := hall.out
          rw [List.take_of_length_le (by omega), List.take_of_length_le (by omega)] at h5
          exact ⟨by rw [hsr.out, decide_eq_true h5]; rfl, hbr⟩
    · have hlb : ((cs.length : Int) != (ds.length : Int)) = true := by simp; omega
      have hr := Lib.hid (len_ne hl)
      clear hl
      go_enter Tryz.func18, Tryz.ntmps18
      go_wp2_with fail
      go_ret
      exact ⟨by rw [hsr.out, hr.out]; rfl, hbb⟩
  · have hfb : (f != f2) = true := by simpa using hf
    have hr := Lib.hid (ssame_ne (l := cs) (m := ds) hf)
    clear hf
    go_enter Tryz.func18, Tryz.ntmps18
    go_wp2_with fail
    go_ret
    exact ⟨by rw [hr.out]; rfl, hbb⟩
end Go.Proofs.YtnndlmkcckgkhaaGreatDoor

namespace Go.Proofs.YtnndlmkcckgkhaaGreatDoor
open Go.RowKit
attribute [local go_sem ↓] Go.wp_at_zero Go.wp_at_succ

theorem res_sg1 {fn : Func} {a : Nat} {tmps : Array Value} {w : World} {g : Nat} {x y : Value} (hres : fn.results = #[.cell a 24]) (ha : tmps.getD a undef = .pointer (some ⟨g, 0, none⟩)) (hB : Blk w g 24 #[x, y]) :
    (results fn tmps).run Tryz.prog w = .ok (.agg #[x, y]) w := by
  obtain ⟨b0, b1, _, _⟩ := hB.two
  have ha' : tmps[a]?.getD undef = .pointer (some ⟨g, 0, none⟩) := by simpa using ha
  simp [results, hres, go_sem, b0, b1, ha']
theorem res_rg1 {fn : Func} {a : Nat} {tmps : Array Value} {w : World} {g : Nat} {x y : Value} (hres : fn.results = #[.cell a 34]) (ha : tmps.getD a undef = .pointer (some ⟨g, 0, none⟩)) (hB : Blk w g 34 #[x, y]) :
    (results fn tmps).run Tryz.prog w = .ok (.agg #[x, y]) w := by
  obtain ⟨b0, b1, _, _⟩ := hB.two
  have ha' : tmps[a]?.getD undef = .pointer (some ⟨g, 0, none⟩) := by simpa using ha
  simp [results, hres, go_sem, b0, b1, ha']
theorem res_sg2 {fn : Func} {a b : Nat} {tmps : Array Value} {w : World} {g : Nat} {x y : Value} (hres : fn.results = #[.cell a 24, .tmp b]) (ha : tmps.getD a undef = .pointer (some ⟨g, 0, none⟩)) (hB : Blk w g 24 #[x, y]) :
    (results fn tmps).run Tryz.prog w = .ok (.tuple #[.agg #[x, y], tmps.getD b undef]) w := by
  obtain ⟨b0, b1, _, _⟩ := hB.two
  have ha' : tmps[a]?.getD undef = .pointer (some ⟨g, 0, none⟩) := by simpa using ha
  simp [results, hres, go_sem, b0, b1, ha']
theorem res_rg2 {fn : Func} {a b : Nat} {tmps : Array Value} {w : World} {g : Nat} {x y : Value} (hres : fn.results = #[.cell a 34, .tmp b]) (ha : tmps.getD a undef = .pointer (some ⟨g, 0, none⟩)) (hB : Blk w g 34 #[x, y]) :
    (results fn tmps).run Tryz.prog w = .ok (.tuple #[.agg #[x, y], tmps.getD b undef]) w := by
  obtain ⟨b0, b1, _, _⟩ := hB.two
  have ha' : tmps[a]?.getD undef = .pointer (some ⟨g, 0, none⟩) := by simpa using ha
  simp [results, hres, go_sem, b0, b1, ha']
theorem Blk.far2 {w : World} {g g' : Nat} {t : TypeId} {cs : Array Value} (h : Blk w g t cs) (hne : g ≠ g') (u v : Value) : Blk ((w.setCell ⟨g', 0, none⟩ u).setCell ⟨g', 1, none⟩ v) g t cs := (h.far hne u).far hne v
theorem Own.set2 {w : World} {base : Nat} {e : TypeId} {size n c : Nat} {A : Option Addr} {xs : List Value} (h : Own w base e size A n c xs) {g : Nat} (hg : g < base) (u v : Value) : Own ((w.setCell ⟨g, 0, none⟩ u).setCell ⟨g, 1, none⟩ v) base e size A n c xs :=
  ownsRow_setCell_below (a := ⟨g, 1, none⟩) (ownsRow_setCell_below (a := ⟨g, 0, none⟩) h hg u) hg v
theorem gen0 {T R : World → Prop} {W : World} (hT : T W) (k : ∀ W, T W → R W) : R W := k W hT

set_option maxRecDepth 100000 in
set_option maxHeartbeats 1000000 in
theorem Doc14_any {E : Option Addr} {cap : Nat} (f : Int) (cs : List CeV) (w : World) (h : SlC w E cap cs) (hl : cs.length ≤ 1000000) :
    Calls Tryz.prog 9 #[cv f E cs.length cap] w fun e w' => ∃ A c m, e = .returned (cv f A (List.length m) c) ∧ Hid (m = cs.map ceOf) ∧ SlD w' A c m ∧ Below w.heap.size w w' := by
  have hB0 := (Blk.new w 24 #[.int .i64 f, .slice E cs.length cap]).alloc (.cells #[.int .i64 0, .slice none 0 0] 34)
  have hB1 := Blk.newAt (w := w.alloc (.cells #[.int .i64 f, .slice E cs.length cap] 24)) (g := w.heap.size + 1) (by simp) 34 #[.int .i64 0, .slice none 0 0]
  have hbw := bel_alloc (below_new w (.cells #[.int .i64 f, .slice E cs.length cap] 24)) (.cells #[.int .i64 0, .slice none 0 0] 34)
  go_enter Tryz.func9, Tryz.ntmps9
  go_upto_region 1 with (fail)
  have hst : Blk ((w.alloc (.cells #[.int .i64 f, .slice E cs.length cap] 24)).alloc (.cells #[.int .i64 0, .slice none 0 0] 34)).drew w.heap.size 24 #[.int .i64 f, .slice E cs.length cap] ∧ Below w.heap.size w ((w.alloc (.cells #[.int .i64 f, .slice E cs.length cap] 24)).alloc (.cells #[.int .i64 0, .slice none 0 0] 34)).drew := ⟨hB0, hbw.drew⟩
  have hst1 : Blk ((w.alloc (.cells #[.int .i64 f, .slice E cs.length cap] 24)).alloc (.cells #[.int .i64 0, .slice none 0 0] 34)).drew (w.heap.size + 1) 34 #[.int .i64 0, .slice none 0 0] := hB1
  clear hB0 hB1 hbw
  refine wp_region_held_drew (S := (fun W => Blk W w.heap.size 24 #[.int .i64 f, .slice E cs.length cap] ∧ Below w.heap.size w W)) (by kernel_rfl) ?_ (fun hHeld => ?_)
  · exact hst
  refine gen0 (T := fun W => ((fun W => Blk W w.heap.size 24 #[.int .i64 f, .slice E cs.length cap] ∧ Below w.heap.size w W)) W ∧ Blk W (w.heap.size + 1) 34 #[.int .i64 0, .slice none 0 0] ∧ True) ?_ (fun wq1 hT => ?_)
  · exact ⟨by (first | exact hst | exact ⟨hHeld.1.below hb9, bel_call hHeld.2 hb9⟩ | exact ⟨Blk.far2 hHeld.1 (by omega) _ _, bel_set (bel_set hHeld.2 (by dsimp only; omega) _) (by dsimp only; omega) _⟩), by (first | assumption | exact f0.below hb9 | exact ho9.more f0.lt | exact Blk.set2 f0 _ _ | exact Own.set2 f1 (by omega) _ _), trivial⟩
  (try clear f0 f1 f2 f3 f4 f5 f6 f7 f8 f9 f10 f11)
  obtain ⟨hHeld, f0, -⟩ := hT
  refine wpAnyH_take (i := 0) (oi := ⟨some 3, _, _, _, _, _⟩) (v := ?_) rfl (by kernel_rfl) (by kernel_rfl) (by kernel_rfl) (fun _ _ _ h => h) (Or.inl ⟨by kernel_rfl, ?_⟩) (by assumption) ?_
  rotate_left
  · (intro wS hSw; (try dsimp only at hSw); obtain ⟨q0, q1, _, _⟩ := hSw.1.two; clear hSw; go_simp; (try with_reducible rfl))
  (try simp only [Act.put, List.setIfInBounds_toArray, List.set_cons_zero, List.set_cons_succ])
  refine wpAnyH_take (i := 1) (oi := ⟨some 4, _, _, _, _, _⟩) (v := ?_) rfl (by kernel_rfl) (by kernel_rfl) (by kernel_rfl) (fun _ _ _ h => h) (Or.inl ⟨by kernel_rfl, ?_⟩) (by assumption) ?_
  rotate_left
  · (intro wS hSw; (try dsimp only at hSw); obtain ⟨q0, q1, _, _⟩ := hSw.1.two; clear hSw; go_simp; (try with_reducible rfl))
  (try simp only [Act.put, List.setIfInBounds_toArray, List.set_cons_zero, List.set_cons_succ])
  refine wpAnyH_take (i := 2) (oi := ⟨some 5, _, _, _, _, _⟩) (v := ?_) rfl (by kernel_rfl) (by kernel_rfl) (by kernel_rfl) (fun _ _ _ h => h) (Or.inl ⟨by kernel_rfl, ?_⟩) (by assumption) ?_
  rotate_left
  · (intro wS hSw; (try dsimp only at hSw); obtain ⟨q0, q1, _, _⟩ := hSw.1.two; clear hSw; go_simp; (try with_reducible rfl))
  (try simp only [Act.put, List.setIfInBounds_toArray, List.set_cons_zero, List.set_cons_succ])
  refine wpAnyH_take (i := 3) (oi := ⟨some 6, _, _, _, _, _⟩) (v := ?_) rfl (by kernel_rfl) (by kernel_rfl) (by kernel_rfl) (fun _ _ _ h => h) (Or.inl ⟨by kernel_rfl, ?_⟩) (by assumption) ?_
  rotate_left
  · (intro wS hSw; (try dsimp only at hSw); obtain ⟨q0, q1, _, _⟩ := hSw.1.two; clear hSw; go_simp; (try with_reducible rfl))
  (try simp only [Act.put, List.setIfInBounds_toArray, List.set_cons_zero, List.set_cons_succ])
  refine wpAnyH_ready (rs := [4]) (by kernel_rfl) (by simp) ?_
  refine AllReadyH.cons (o := ⟨some 7, _, _, _, _, _⟩) rfl (fun K hK => ?_) AllReadyH.nil
  go_simp
  (refine (Documents_own cs _ (h.below hHeld.2) hl).mono ?_; rintro e w9 ⟨A9, c9, m9, rfl, hm9, ho9, hb9⟩)
  go_wp2_with fail
  refine hK.out _ _ ?_ (fun _ => ?_)
  · ((try dsimp only); (first | exact hst | exact ⟨hHeld.1.below hb9, bel_call hHeld.2 hb9⟩ | exact ⟨Blk.far2 hHeld.1 (by omega) _ _, bel_set (bel_set hHeld.2 (by dsimp only; omega) _) (by dsimp only; omega) _⟩))
  clear hK K
  (try simp only [Act.put, List.setIfInBounds_toArray, List.set_cons_zero, List.set_cons_succ])
  refine gen0 (T := fun W => ((fun W => Blk W w.heap.size 24 #[.int .i64 f, .slice E cs.length cap] ∧ Below w.heap.size w W)) W ∧ Blk W (w.heap.size + 1) 34 #[.int .i64 0, .slice none 0 0] ∧ Own W (w.heap.size + 2) 114 2 A9 m9.length c9 (m9.flatMap df) ∧ True) ?_ (fun wq2 hT => ?_)
  · exact ⟨by (first | exact hst | exact ⟨hHeld.1.below hb9, bel_call hHeld.2 hb9⟩ | exact ⟨Blk.far2 hHeld.1 (by omega) _ _, bel_set (bel_set hHeld.2 (by dsimp only; omega) _) (by dsimp only; omega) _⟩), by (first | assumption | exact f0.below hb9 | exact ho9.more f0.lt | exact Blk.set2 f0 _ _ | exact Own.set2 f1 (by omega) _ _), by (first | assumption | exact f0.below hb9 | exact ho9.more f0.lt | exact Blk.set2 f0 _ _ | exact Own.set2 f1 (by omega) _ _), trivial⟩
  (try clear f0 f1 f2 f3 f4 f5 f6 f7 f8 f9 f10 f11)
  obtain ⟨hHeld, f0, f1, -⟩ := hT
  refine wpAnyH_take (i := 5) (oi := ⟨some 8, _, _, _, _, _⟩) (v := ?_) rfl (by kernel_rfl) (by kernel_rfl) (by kernel_rfl) (fun _ _ _ h => h) (Or.inl ⟨by kernel_rfl, ?_⟩) (by assumption) ?_
  rotate_left
  · (intro wS hSw; (try dsimp only at hSw); obtain ⟨q0, q1, _, _⟩ := hSw.1.two; clear hSw; go_simp; (try with_reducible rfl))
  (try simp only [Act.put, List.setIfInBounds_toArray, List.set_cons_zero, List.set_cons_succ])
  refine wpAnyH_ready (rs := [6]) (by kernel_rfl) (by simp) ?_
  refine AllReadyH.cons (o := ⟨none, _, _, _, _, _⟩) rfl (fun K hK => ?_) AllReadyH.nil
  obtain ⟨s0, s1, sf0, sf1⟩ := f0.two
  go_simp
  refine hK.out _ _ ?_ (fun _ => ?_)
  · ((try dsimp only); (first | exact hst | exact ⟨hHeld.1.below hb9, bel_call hHeld.2 hb9⟩ | exact ⟨Blk.far2 hHeld.1 (by omega) _ _, bel_set (bel_set hHeld.2 (by dsimp only; omega) _) (by dsimp only; omega) _⟩))
  clear hK K
  (try simp only [Act.put, List.setIfInBounds_toArray, List.set_cons_zero, List.set_cons_succ])
  refine gen0 (T := fun W => ((fun W => Blk W w.heap.size 24 #[.int .i64 f, .slice E cs.length cap] ∧ Below w.heap.size w W)) W ∧ Own W (w.heap.size + 2) 114 2 A9 m9.length c9 (m9.flatMap df) ∧ Blk W (w.heap.size + 1) 34 #[.int .i64 f, .slice A9 m9.length c9] ∧ True) ?_ (fun wq3 hT => ?_)
  · exact ⟨by (first | exact hst | exact ⟨hHeld.1.below hb9, bel_call hHeld.2 hb9⟩ | exact ⟨Blk.far2 hHeld.1 (by omega) _ _, bel_set (bel_set hHeld.2 (by dsimp only; omega) _) (by dsimp only; omega) _⟩), by (first | assumption | exact f0.below hb9 | exact ho9.more f0.lt | exact Blk.set2 f0 _ _ | exact Own.set2 f1 (by omega) _ _), by (first | assumption | exact f0.below hb9 | exact ho9.more f0.lt | exact Blk.set2 f0 _ _ | exact Own.set2 f1 (by omega) _ _), trivial⟩
  (try clear f0 f1 f2 f3 f4 f5 f6 f7 f8 f9 f10 f11)
  obtain ⟨hHeld, f0, f1, -⟩ := hT
  refine wpAnyH_done (by kernel_rfl) ?_ _
  go_wp2_with fail
  exact bodyPost_ret (res_rg1 rfl rfl (g := w.heap.size + 1) f1) rfl ⟨A9, c9, m9, rfl, hm9, f0.sl, hHeld.2⟩
end Go.Proofs.YtnndlmkcckgkhaaGreatDoor

namespace Go.Proofs.YtnndlmkcckgkhaaGreatDoor
open Go.RowKit
attribute [local go_sem ↓] Go.wp_at_zero Go.wp_at_succ

theorem one_cf (l : List CeV) : ∀ u ∈ l.flatMap cf, u.oneCell' = true := by
  intro u hu
  simp only [List.mem_flatMap, List.mem_cons, List.not_mem_nil, or_false] at hu
  obtain ⟨x, _, hx⟩ := hu
  rcases hx with rfl | rfl <;> rfl
theorem step_cells {w : World} {ops : Array Oper} {o : Oper} {a : Act} {K : Act → World → Prop} {Q : Exit → Act → World → Prop} {X : Prop} (hw : Region.wanted o (yielded ops a.tmps) = true) (s x : Operand)
    (ho : o.op = .call { callee := .builtin .append, args := #[s, x], argTypes := #[22, 22] })
    (base : Nat) (A : Option Addr) (c : Nat) (l : List CeV) (hs : a.eval s = .slice A l.length c) (hown : Own w base 109 2 A l.length c (l.flatMap cf))
    (A2 : Option Addr) (c2 n2 : Nat) (l2 : List CeV) (hn2 : n2 = l2.length) (hx : a.eval x = .slice A2 n2 c2) (hr : Sl w 2 A2 l2.length c2 (l2.flatMap cf)) (hlen : l.length + l2.length ≤ 1000000000) (hbase : base ≤ w.heap.size)
    (h : ∀ A' c' (m : List CeV) w', Hid (m = l ++ l2) → Own w' base 109 2 A' m.length c' (m.flatMap cf) → w.grownBy w' (A.map (·.block)) → Below base w w' → K (a.put o.dst (.slice A' m.length c')) w') :
    if Region.wanted o (yielded ops a.tmps) = true then Oper.wp Tryz.prog o a w K Q else X := by
  subst hn2
  obtain ⟨i0, hi, hz0, hz1, hz2⟩ := info_parts cell_info
  refine step_append hw s x 22 ho base 109 i0 _ 2 32 Tryz.underlying22 hi hz0 hz1 hz2 rfl (by decide) A l.length c (l.flatMap cf) hs hown A2 l2.length c2 (l2.flatMap cf) hx hr (one_cf l2) (by omega) (by simp only [maxLen]; omega) hbase ?_
  intro A' c' w' hap
  rw [← List.length_append]
  refine h A' c' (l ++ l2) w' rfl ?_ hap.grown (hap.below hown hbase)
  have := hap.own
  simpa using this
theorem one_df (l : List Ce) : ∀ u ∈ l.flatMap df, u.oneCell' = true := by
  intro u hu
  simp only [List.mem_flatMap, List.mem_cons, List.not_mem_nil, or_false] at hu
  obtain ⟨x, _, hx⟩ := hu
  rcases hx with rfl | rfl <;> rfl
theorem step_dcells {w : World} {ops : Array Oper} {o : Oper} {a : Act} {K : Act → World → Prop} {Q : Exit → Act → World → Prop} {X : Prop} (hw : Region.wanted o (yielded ops a.tmps) = true) (s x : Operand)
    (ho : o.op = .call { callee := .builtin .append, args := #[s, x], argTypes := #[32, 32] })
    (base : Nat) (A : Option Addr) (c : Nat) (l : List Ce) (hs : a.eval s = .slice A l.length c) (hown : Own w base 114 2 A l.length c (l.flatMap df))
    (A2 : Option Addr) (c2 n2 : Nat) (l2 : List Ce) (hn2 : n2 = l2.length) (hx : a.eval x = .slice A2 n2 c2) (hr : Sl w 2 A2 l2.length c2 (l2.flatMap df)) (hlen : l.length + l2.length ≤ 1000000000) (hbase : base ≤ w.heap.size)
    (h : ∀ A' c' (m : List Ce) w', Hid (m = l ++ l2) → Own w' base 114 2 A' m.length c' (m.flatMap df) → w.grownBy w' (A.map (·.block)) → Below base w w' → K (a.put o.dst (.slice A' m.length c')) w') :
    if Region.wanted o (yielded ops a.tmps) = true then Oper.wp Tryz.prog o a w K Q else X := by
  subst hn2
  obtain ⟨i0, hi, hz0, hz1, hz2⟩ := info_parts dcell_info
  refine step_append hw s x 32 ho base 114 i0 _ 2 24 Tryz.underlying32 hi hz0 hz1 hz2 rfl (by decide) A l.length c (l.flatMap df) hs hown A2 l2.length c2 (l2.flatMap df) hx hr (one_df l2) (by omega) (by simp only [maxLen]; omega) hbase ?_
  intro A' c' w' hap
  rw [← List.length_append]
  refine h A' c' (l ++ l2) w' rfl ?_ hap.grown (hap.below hown hbase)
  have := hap.own
  simpa using this
/-- a row of another type is as it was behind an append -/
theorem Own.other {w w' : World} {base base' : Nat} {e e' : TypeId} {size size' n n' c c' : Nat} {A B : Option Addr} {xs ys : List Value} (h : Own w base' e' size' B n' c' ys) (ho : Own w base e size A n c xs) (hg : w.grownBy w' (A.map (·.block))) (hne : e ≠ e') : Own w' base' e' size' B n' c' ys := by
  obtain ⟨h1, h2⟩ := h
  refine ⟨h1, ?_⟩
  rcases h2 with h2 | ⟨g', cap, cur, hv, hb, hh, r⟩
  · exact Or.inl h2
  · refine Or.inr ⟨g', cap, cur, hv, hb, (hg.block g' (Array.getElem?_eq_some_iff.1 hh).1 (fun he => ?_)).trans hh, r⟩
    rcases ho.2 with ⟨hv2, _⟩ | ⟨g2, cap2, cur2, hv2, _, hh2, _⟩
    · injection hv2 with hA
      subst hA
      simp at he
    · injection hv2 with hA
      subst hA
      simp at he
      subst he
      rw [hh] at hh2
      injection hh2 with hh2
      injection hh2 with _ ht
      exact hne ht.symm
theorem Own.ltB {w : World} {base : Nat} {e : TypeId} {size n c : Nat} {A : Option Addr} {xs : List Value} (h : Own w base e size A n c xs) : ∀ g, A.map (·.block) = some g → base ≤ g ∧ g < w.heap.size := by
  intro g hg
  rcases h.2 with ⟨hv, _⟩ | ⟨g2, cap, cur, hv, hb, hh, _⟩
  · injection hv with hA
    subst hA
    simp at hg
  · injection hv with hA
    subst hA
    simp at hg
    subst hg
    exact ⟨hb, (Array.getElem?_eq_some_iff.1 hh).1⟩
theorem Own.set1 {w : World} {base : Nat} {e : TypeId} {size n c : Nat} {A : Option Addr} {xs : List Value} (h : Own w base e size A n c xs) {g i : Nat} (hg : g < base) (u : Value) : Own (w.setCell ⟨g, i, none⟩ u) base e size A n c xs :=
  ownsRow_setCell_below (a := ⟨g, i, none⟩) h hg u

/-- a new segment: a row of its own, bytes of its own -/
def NewS (w' : World) (base : Nat) (A : Option Addr) (c : Nat) (m : List CeV) : Prop := Own w' base 109 2 A m.length c (m.flatMap cf) ∧ ∀ x ∈ m, OwnB w' base 5 x.2.1 x.2.2.1 x.2.2.2
theorem NewS.slc {w' : World} {base : Nat} {A : Option Addr} {c : Nat} {m : List CeV} (h : NewS w' base A c m) : SlC w' A c m := ⟨h.1.sl, fun x hx => (h.2 x hx).sl⟩
theorem NewS.below {w w' : World} {base : Nat} {A : Option Addr} {c : Nat} {m : List CeV} (h : NewS w base A c m) (hb : Below w.heap.size w w') : NewS w' base A c m := ⟨Own.below h.1 hb, fun x hx => Own.below (h.2 x hx) hb⟩
theorem NewS.more {w : World} {base base' : Nat} {A : Option Addr} {c : Nat} {m : List CeV} (h : NewS w base A c m) (hb : base' ≤ base) : NewS w base' A c m := ⟨h.1.more hb, fun x hx => (h.2 x hx).more hb⟩

end Go.Proofs.YtnndlmkcckgkhaaGreatDoor

namespace Go.Proofs.YtnndlmkcckgkhaaGreatDoor
open Go.RowKit

section
variable {w : World} {base base' : Nat} {e e' : TypeId} {size size' n n' c c' : Nat} {A B : Option Addr} {xs ys : List Value}
/-- where a row of one's own lies -/
theorem Own.row (h : Own w base e size A n c xs) (hn : 0 < xs.length) : ∃ g cur, A = some ⟨g, 0, none⟩ ∧ base ≤ g ∧ w.heap[g]? = some (.cells cur e (0, 0)) ∧ cur.size = c * size ∧ cur.toList.take (n * size) = xs := by
  obtain ⟨h1, h2⟩ := h
  rcases h2 with ⟨_, h0⟩ | ⟨g, cap, cur, hv, hb, hh, _, _, hs, ht⟩
  · rw [h0, Nat.zero_mul] at h1; omega
  · injection hv with hA _ hc
    subst hc
    exact ⟨g, cur, hA, hb, hh, hs, ht⟩
theorem Own.cellAt {g : Nat} (h : Own w base e size (some ⟨g, 0, none⟩) n c xs) {j : Nat} (hj : j < xs.length) : w.cell? ⟨g, j, none⟩ = some xs[j] := by
  obtain ⟨ad, hA, hc⟩ := h.sl.2.2.2.2 j _ (List.getElem?_eq_getElem hj)
  injection hA with hA
  subst hA
  rw [addr_lit] at hc
  simpa using hc
theorem Own.frz {g : Nat} (h : Own w base e size (some ⟨g, 0, none⟩) n c xs) (j : Nat) : w.frozen? ⟨g, j, none⟩ = false := by
  obtain ⟨_, h2⟩ := h
  rcases h2 with ⟨hv, _⟩ | ⟨g2, cap, cur, hv, _, hh, _⟩
  · injection hv with hA; cases hA
  · injection hv with hA
    injection hA with hA
    injection hA with hA
    subst hA
    simp [World.frozen?, hh]
theorem Own.setAt {g : Nat} (h : Own w base e size (some ⟨g, 0, none⟩) n c xs) {j : Nat} (_hj : j < xs.length) (u : Value) : Own (w.setCell ⟨g, j, none⟩ u) base e size (some ⟨g, 0, none⟩) n c (xs.set j u) := by
  obtain ⟨h1, h2⟩ := h
  refine ⟨by simpa using h1, ?_⟩
  rcases h2 with ⟨hv, _⟩ | ⟨g2, cap, cur, hv, hb, hh, hnc, hcm, hs, ht⟩
  · injection hv with hA; cases hA
  · injection hv with hA hn hc
    injection hA with hA
    injection hA with hA
    subst hA
    refine .inr ⟨g, cap, cur.setIfInBounds j u, by rw [hc], hb, heap_setCell_same w g j cur e u hh, hnc, hcm, by simpa using hs, ?_⟩
    rw [Array.toList_setIfInBounds, List.take_set, ht]
theorem Own.apart (h : Own w base e size A n c xs) (k : Own w base' e' size' B n' c' ys) (hne : e ≠ e') : ∀ g, A.map (·.block) = some g → B.map (·.block) ≠ some g := by
  intro g hg hg2
  rcases h.2 with ⟨hv, _⟩ | ⟨g1, _, cur, hv, _, hh, _⟩
  · injection hv with hA; subst hA; simp at hg
  · injection hv with hA
    subst hA
    simp at hg
    subst hg
    rcases k.2 with ⟨hv2, _⟩ | ⟨g2, _, cur2, hv2, _, hh2, _⟩
    · injection hv2 with hB; subst hB; simp at hg2
    · injection hv2 with hB
      subst hB
      simp at hg2
      subst hg2
      rw [hh] at hh2
      injection hh2 with hh2
      injection hh2 with _ ht
      exact hne ht
theorem Own.setOther (h : Own w base e size A n c xs) {g : Nat} (hg : A.map (·.block) ≠ some g) (i : Nat) (u : Value) : Own (w.setCell ⟨g, i, none⟩ u) base e size A n c xs :=
  ownsRow_setCell_other h (a := ⟨g, i, none⟩) (by rw [ownBlock_slice]; exact hg) u
end
/-- the cells of a list of pairs: one cell turned -/
theorem flat_set {T : Type} {f : T → List Value} {s : Nat} (hf : ∀ x, (f x).length = s) : ∀ (l : List T) (k j : Nat) (y : T) (u : Value), (hk : k < l.length) → j < s → f y = (f l[k]).set j u → (l.set k y).flatMap f = (l.flatMap f).set (k * s + j) u
  | x :: l, 0, j, y, u, _, hj, hy => by
    simp only [List.set_cons_zero, List.flatMap_cons, List.getElem_cons_zero, Nat.zero_mul, Nat.zero_add] at hy ⊢
    rw [hy, List.set_append_left _ _ (by rw [hf]; exact hj)]
  | x :: l, k + 1, j, y, u, hk, hj, hy => by
    simp only [List.set_cons_succ, List.flatMap_cons, List.getElem_cons_succ] at hy ⊢
    rw [flat_set hf l k j y u (by simpa using hk) hj hy, List.set_append_right _ _ (by rw [hf, Nat.succ_mul]; omega), hf]
    congr 2
    rw [Nat.succ_mul]; omega
theorem wrap_succ_ne (k : Int) : wrap64 (k + 1) ≠ k := by
  simp only [wrap64]
  omega
end Go.Proofs.YtnndlmkcckgkhaaGreatDoor

namespace Go.Proofs.YtnndlmkcckgkhaaGreatDoor
open Go.RowKit

theorem gen1 {T R : World → Prop} {W : World} (hT : T W) (k : ∀ W, T W → R W) : R W := k W hT
/-- a call's own blocks: number, type, cells; and blocks that stay apart from them -/
abbrev BL := List (Nat × TypeId × Array Value)
structure Mm (w W : World) (L : BL) (G : List (Option Nat)) : Prop where
  bel : Below w.heap.size w W
  blk : ∀ x ∈ L, Blk W x.1 x.2.1 x.2.2
  low : ∀ x ∈ L, w.heap.size ≤ x.1
  dis : L.Pairwise fun x y => x.1 ≠ y.1
  far : ∀ g, some g ∈ G → g < W.heap.size ∧ ∀ x ∈ L, x.1 ≠ g
section
variable {w W W' : World} {L : BL} {G : List (Option Nat)} {g : Nat} {t : TypeId} {cs : Array Value}
theorem Mm.start (w : World) : Mm w w [] [] := ⟨Below.refl _ _, by simp, by simp, List.Pairwise.nil, by simp⟩
theorem Mm.allocO (h : Mm w W L G) (o : Obj) : Mm w (W.alloc o) L G :=
  ⟨bel_alloc h.bel o, fun x hx => (h.blk x hx).alloc o, h.low, h.dis, fun g hg => ⟨by have := (h.far g hg).1; simp; omega, (h.far g hg).2⟩⟩
theorem Mm.alloc (h : Mm w W L G) (cs : Array Value) (t : TypeId) : Mm w (W.alloc (.cells cs t)) ((W.heap.size, t, cs) :: L) G := by
  refine ⟨bel_alloc h.bel _, fun x hx => ?_, fun x hx => ?_, List.pairwise_cons.2 ⟨fun x hx => ?_, h.dis⟩, fun g hg => ⟨by have := (h.far g hg).1; simp; omega, fun x hx => ?_⟩⟩
  · rcases List.mem_cons.1 hx with rfl | hx
    · exact Blk.new W t cs
    · exact (h.blk x hx).alloc _
  · rcases List.mem_cons.1 hx with rfl | hx
    · exact h.bel.size
    · exact h.low x hx
  · have := (h.blk x hx).lt
    dsimp only
    omega
  · rcases List.mem_cons.1 hx with rfl | hx
    · have := (h.far g hg).1
      dsimp only
      omega
    · exact (h.far g hg).2 x hx
theorem Mm.call (h : Mm w W L G) (hb : Below W.heap.size W W') : Mm w W' L G :=
  ⟨bel_call h.bel hb, fun x hx => (h.blk x hx).below hb, h.low, h.dis, fun g hg => ⟨Nat.lt_of_lt_of_le (h.far g hg).1 hb.size, (h.far g hg).2⟩⟩
theorem Mm.drew (h : Mm w W L G) : Mm w W.drew L G := ⟨h.bel.drew, fun x hx => (h.blk x hx).drew, h.low, h.dis, h.far⟩
theorem Mm.drewN (h : Mm w W L G) (n : Nat) : Mm w (W.drewN n) L G := ⟨below_drewN h.bel n, fun x hx => (h.blk x hx).drewN n, h.low, h.dis, h.far⟩
/-- a row that a call has made stays apart -/
theorem Mm.callAdd (h : Mm w W L G) (hb : Below W.heap.size W W') {a : Option Nat} (hA : ∀ k, a = some k → W.heap.size ≤ k ∧ k < W'.heap.size) : Mm w W' L (a :: G) := by
  have h' := h.call hb
  refine ⟨h'.bel, h'.blk, h'.low, h'.dis, fun g hg => ?_⟩
  rcases List.mem_cons.1 hg with e | hg
  · obtain ⟨h1, h2⟩ := hA g e.symm
    exact ⟨h2, fun x hx => by have := (h.blk x hx).lt; omega⟩
  · exact h'.far g hg
theorem Mm.add (h : Mm w W L G) {a : Option Nat} (hA : ∀ k, a = some k → k < W.heap.size ∧ ∀ x ∈ L, x.1 ≠ k) : Mm w W L (a :: G) := by
  refine ⟨h.bel, h.blk, h.low, h.dis, fun g hg => ?_⟩
  rcases List.mem_cons.1 hg with e | hg
  · exact hA g e.symm
  · exact h.far g hg
theorem Mm.sub (h : Mm w W L G) {L' : BL} (hL : L'.Sublist L) : Mm w W L' G :=
  ⟨h.bel, fun x hx => h.blk x (hL.subset hx), fun x hx => h.low x (hL.subset hx), h.dis.sublist hL, fun g hg => ⟨(h.far g hg).1, fun x hx => (h.far g hg).2 x (hL.subset hx)⟩⟩
theorem Mm.subG (h : Mm w W L G) {G' : List (Option Nat)} (hG : ∀ x ∈ G', x ∈ G) : Mm w W L G' := ⟨h.bel, h.blk, h.low, h.dis, fun g hg => h.far g (hG _ hg)⟩
/-- a block apart is written -/
theorem Mm.wr (h : Mm w W L G) (hr : Wr W W' g) (hg : some g ∈ G) (hlo : w.heap.size ≤ g) : Mm w W' L G :=
  ⟨h.bel.trans (hr.below h.bel.size hlo), fun x hx => (h.blk x hx).wr hr ((h.far g hg).2 x hx), h.low, h.dis, fun k hk => ⟨Nat.lt_of_lt_of_le (h.far k hk).1 hr.size, (h.far k hk).2⟩⟩
theorem Mm.cons (h : Mm w W L G) (hB : Blk W g t cs) (hlo : w.heap.size ≤ g) (hd : ∀ x ∈ L, g ≠ x.1) (hf : some g ∉ G) : Mm w W ((g, t, cs) :: L) G := by
  refine ⟨h.bel, fun x hx => ?_, fun x hx => ?_, List.pairwise_cons.2 ⟨hd, h.dis⟩, fun k hk => ⟨(h.far k hk).1, fun x hx => ?_⟩⟩
  · rcases List.mem_cons.1 hx with rfl | hx
    · exact hB
    · exact h.blk x hx
  · rcases List.mem_cons.1 hx with rfl | hx
    · exact hlo
    · exact h.low x hx
  · rcases List.mem_cons.1 hx with rfl | hx
    · rintro rfl; exact hf hk
    · exact (h.far k hk).2 x hx
/-- the j-th block turns, and nothing else -/
theorem Mm.turn (h : Mm w W L G) (j : Nat) {cs' : Array Value} (hj : L[j]? = some (g, t, cs)) (hB : Blk W' g t cs') (hr : Wr W W' g) : Mm w W' (L.set j (g, t, cs')) G := by
  have hjl : j < L.length := (List.getElem?_eq_some_iff.1 hj).1
  have hje : L[j] = (g, t, cs) := (List.getElem?_eq_some_iff.1 hj).2
  have hmem : (g, t, cs) ∈ L := by rw [← hje]; exact List.getElem_mem hjl
  have hmap : (L.set j (g, t, cs')).map (·.1) = L.map (·.1) := by
    rw [List.map_set]
    apply List.ext_getElem? 
    intro i
    rw [List.getElem?_set]
    split
    · rename_i e
      subst e
      simp [hjl, hje]
    · rfl
  have hin : ∀ x ∈ L.set j (g, t, cs'), ∃ y ∈ L, y.1 = x.1 := fun x hx => by
    have : x.1 ∈ (L.set j (g, t, cs')).map (·.1) := List.mem_map_of_mem hx
    rw [hmap] at this
    obtain ⟨y, hy, e⟩ := List.mem_map.1 this
    exact ⟨y, hy, e⟩
  refine ⟨h.bel.trans (hr.below h.bel.size (h.low _ hmem)), fun x hx => ?_, fun x hx => ?_, ?_, fun k hk => ⟨Nat.lt_of_lt_of_le (h.far k hk).1 hr.size, fun x hx => ?_⟩⟩
  · rw [List.mem_iff_getElem?] at hx
    obtain ⟨i, hi⟩ := hx
    rw [List.getElem?_set] at hi
    split at hi
    · rename_i e
      injection hi with hi
      subst hi
      exact hB
    · rename_i e
      have hm := List.mem_of_getElem? hi
      refine (h.blk x hm).wr hr ?_
      obtain ⟨hil, hie⟩ := List.getElem?_eq_some_iff.1 hi
      have hp := List.pairwise_iff_getElem.1 h.dis
      rcases Nat.lt_or_gt_of_ne e with hlt | hlt
      · have := hp j i hjl hil hlt
        rw [hje, hie] at this
        exact fun e => this e.symm
      · have := hp i j hil hjl hlt
        rw [hje, hie] at this
        exact this
  · obtain ⟨y, hy, e⟩ := hin x hx
    rw [← e]
    exact h.low y hy
  · have h1 := h.dis
    rw [show (fun x y : Nat × TypeId × Array Value => x.1 ≠ y.1) = (fun x y => (fun a b : Nat => a ≠ b) x.1 y.1) from rfl, ← List.pairwise_map] at h1 ⊢
    rw [hmap]
    exact h1
  · obtain ⟨y, hy, e⟩ := hin x hx
    rw [← e]
    exact (h.far k hk).2 y hy
theorem Mm.set (h : Mm w W L G) (j i : Nat) (v : Value) (hj : L[j]? = some (g, t, cs)) : Mm w (W.setCell ⟨g, i, none⟩ v) (L.set j (g, t, cs.setIfInBounds i v)) G :=
  h.turn j hj ((h.blk _ (List.mem_of_getElem? hj)).set_ i v) ((Wr.refl _ _).set_ i v)
theorem Wr.row (cs2 : Array Value) : Wr W (W.setRow g cs2) g := ⟨rfl, rfl, rfl, by simp, fun i _ hn => setRow_other W g i cs2 (fun e => hn (by rw [e]))⟩
theorem Mm.row (h : Mm w W L G) (j : Nat) {cs' : Array Value} (hj : L[j]? = some (g, t, cs)) (hB : Blk (W.setRow g cs') g t cs') : Mm w (W.setRow g cs') (L.set j (g, t, cs')) G := h.turn j hj hB (Wr.row cs')
theorem Mm.b0 {L : BL} (h : Mm w W ((g, t, cs) :: L) G) : Blk W g t cs := h.blk _ (.head _)
theorem Mm.b1 {a : Nat × TypeId × Array Value} {L : BL} (h : Mm w W (a :: (g, t, cs) :: L) G) : Blk W g t cs := h.blk _ (.tail _ (.head _))
theorem Mm.b2 {a b : Nat × TypeId × Array Value} {L : BL} (h : Mm w W (a :: b :: (g, t, cs) :: L) G) : Blk W g t cs := h.blk _ (.tail _ (.tail _ (.head _)))
theorem Mm.b3 {a b c : Nat × TypeId × Array Value} {L : BL} (h : Mm w W (a :: b :: c :: (g, t, cs) :: L) G) : Blk W g t cs := h.blk _ (.tail _ (.tail _ (.tail _ (.head _))))
/-- a block that is none of these is written -/
theorem Mm.off (h : Mm w W L G) (hr : Wr W W' g) (hg : ∀ x ∈ L, x.1 ≠ g) (hlo : w.heap.size ≤ g) : Mm w W' L G :=
  ⟨h.bel.trans (hr.below h.bel.size hlo), fun x hx => (h.blk x hx).wr hr (hg x hx), h.low, h.dis, fun k hk => ⟨Nat.lt_of_lt_of_le (h.far k hk).1 hr.size, (h.far k hk).2⟩⟩
/-- what lies above all of them turns -/
theorem Mm.base (h : Mm w W L G) {B : Nat} (hb : Below B W W') (hL : ∀ x ∈ L, x.1 < B) (hlo : w.heap.size ≤ B) {a : Option Nat} (hA : ∀ k, a = some k → B ≤ k ∧ k < W'.heap.size) {G' : List (Option Nat)} (hG : ∀ x ∈ G', x ∈ G) : Mm w W' L (a :: G') := by
  refine ⟨h.bel.trans (hb.mono hlo), fun x hx => (hb.block _ (hL x hx)).trans (h.blk x hx), h.low, h.dis, fun g hg => ?_⟩
  rcases List.mem_cons.1 hg with e | hg
  · obtain ⟨h1, h2⟩ := hA g e.symm
    exact ⟨h2, fun x hx => by have := hL x hx; omega⟩
  · exact ⟨Nat.lt_of_lt_of_le (h.far g (hG _ hg)).1 hb.size, (h.far g (hG _ hg)).2⟩
theorem Mm.above (h : Mm w W L []) {B : Nat} (hb : Below B W W') (hL : ∀ x ∈ L, x.1 < B) (hlo : w.heap.size ≤ B) : Mm w W' L [] :=
  (h.base hb hL hlo (a := none) (fun _ h => by cases h) (G' := []) (fun _ h => h)).subG (fun _ h => .tail _ h)
/-- a row that stays apart reads as before behind a store into one of the blocks -/
theorem Own.setM {base : Nat} {e : TypeId} {size n c i : Nat} {A : Option Addr} {xs : List Value} (ho : Own W base e size A n c xs) (h : Mm w W L G) (hG : A.map (·.block) ∈ G) {x : Nat × TypeId × Array Value} (hx : x ∈ L) (v : Value) : Own (W.setCell ⟨x.1, i, none⟩ v) base e size A n c xs :=
  ho.setOther (fun hA => (h.far x.1 (hA ▸ hG)).2 x hx rfl) _ _
end
end Go.Proofs.YtnndlmkcckgkhaaGreatDoor
