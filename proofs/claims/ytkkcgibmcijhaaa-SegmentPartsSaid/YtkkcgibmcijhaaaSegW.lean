/- WHAT IT HOLDS: Check of segments, the program's and the document's, walked. -/
import Derived.Test.YtkkcgibmcijhaaaSegP
namespace Go.Proofs.Ytkkcgibmcijhaaa
open Go.RowKit
attribute [local go_sem ↓] Go.wp_at_zero Go.wp_at_succ

set_option maxRecDepth 100000 in
set_option maxHeartbeats 400000 in
theorem SEnd_any (f : Int) (E : Option Addr) (n c : Nat) (w : World) (h0 : 0 ≤ f) (h1 : f ≤ 1048576) (h2 : n ≤ 100000000) :
    Calls Try.prog 52 #[cv f E n c] w fun e w' => e = .returned (.int .i64 (f + (n : Int))) ∧ Below w.heap.size w w' := by
  have hbw := below_new w (.cells #[.int .i64 f, .slice E n c] 89)
  go_enter Try.func52, Try.ntmps52
  go_wp2_with fail
  go_ret
  exact ⟨rfl, hbw⟩

set_option maxRecDepth 100000 in
set_option maxHeartbeats 1000000 in
theorem SCheck_any {E : Option Addr} {cap : Nat} (f : Int) (cs : List CeV) (w : World) (h : SlC w E cap cs) :
    Calls Try.prog 51 #[cv f E cs.length cap] w fun e w' => e = .returned (errv (schk (f, cs.map ceOf))) ∧ Below w.heap.size w w' := by
  have hmax := h.1.len_le
  unfold maxLen at hmax
  have hbw := below_new w (.cells #[.int .i64 f, .slice E cs.length cap] 89)
  have hB := Blk.new w 89 #[.int .i64 f, .slice E cs.length cap]
  by_cases h1 : f < 0
  · have hc := Lib.hid (schk_range (s := (f, cs.map ceOf)) (.inl h1))
    go_enter Try.func51, Try.ntmps51
    go_wp2_with fail
    go_ret
    exact ⟨by rw [hc.out]; rfl, hbw⟩
  by_cases h2 : 1048576 < f
  · have hc := Lib.hid (schk_range (s := (f, cs.map ceOf)) (.inr h2))
    go_enter Try.func51, Try.ntmps51
    go_wp2_with fail
    go_ret
    exact ⟨by rw [hc.out]; rfl, hbw⟩
  have hr : ¬ (f < 0 ∨ 1048576 < f) := by omega
  by_cases h3 : 64 < cs.length
  · have hc := Lib.hid (schk_long (s := (f, cs.map ceOf)) hr (by simpa using h3))
    clear hr
    go_enter Try.func51, Try.ntmps51
    go_wp2_with fail
    go_ret
    exact ⟨by rw [hc.out]; rfl, hbw⟩
  by_cases h4 : 1048576 < f + cs.length
  · have hc := Lib.hid (schk_far (s := (f, cs.map ceOf)) hr (by simpa using h3) (by simpa using h4))
    clear hr
    obtain ⟨a0, a1, _, _⟩ := hB.two
    go_enter Try.func51, Try.ntmps51
    go_wp2_with fail
    refine (SEnd_any f E cs.length cap _ (by omega) (by omega) (by omega)).mono ?_
    rintro e w1 ⟨rfl, hb1⟩
    go_wp2_with fail
    go_ret
    exact ⟨by rw [hc.out]; rfl, bel_call hbw hb1⟩
  have hc := Lib.hid (schk_cells (s := (f, cs.map ceOf)) hr (by simpa using h3) (by simpa using h4))
  clear hr
  obtain ⟨a0, a1, _, _⟩ := hB.two
  go_enter Try.func51, Try.ntmps51
  go_wp2_with fail
  refine (SEnd_any f E cs.length cap _ (by omega) (by omega) (by omega)).mono ?_
  rintro e w1 ⟨rfl, hb1⟩
  have hw1 := bel_call hbw hb1
  have hB1 := hB.below hb1
  obtain ⟨a0, a1, _, _⟩ := hB1.two
  clear hB hbw hb1 hB1
  go_wp2_with fail
  go_loopw [30] (fun x wr => ∃ k : Nat, k ≤ cs.length ∧ x = .int .i64 k ∧ Hid (∀ c ∈ (cs.map ceOf).take k, cchk c = 0) ∧ Below w.heap.size w wr) (fun x w => cs.length - (intOf x).toNat)
  case atStart => exact ⟨0, Nat.zero_le _, rfl, (fun c hc => by simp at hc), hw1⟩
  case round =>
    obtain ⟨k, hk, rfl, hall, hbr⟩ := hrel
    clear a0 a1
    by_cases hlt : k < cs.length
    · obtain ⟨ad, b, o, rfl, had, hc0, hc1, _⟩ := (h.below hbr).at2 hlt
      have hbad := Lib.hid (rchk_at (l := cs.map ceOf) (k := k) (by simpa using hlt) hall.out)
      have hgood : Hid (cchk ((cs.map ceOf)[k]'(by simpa using hlt)) = 0 → ∀ c ∈ (cs.map ceOf).take (k + 1), cchk c = 0) := (show _ → _ from fun h c hc => by
        rw [List.take_succ_eq_append_getElem (by simpa using hlt), List.mem_append] at hc
        rcases hc with hc | hc
        · exact hall.out c hc
        · simp only [List.mem_singleton] at hc
          rw [hc]; exact h)
      rw [List.getElem_map] at hbad hgood
      generalize cs[k] = x at *
      obtain ⟨kk, A, c, d⟩ := x
      dsimp only [ceOf] at *
      have hC := fun W => CCheck_any (A := A) (c := c) kk d W
      rcases errv_cases (cchk (kk, d)) with ⟨h1, e1⟩ | ⟨n1, p1, q1, e1⟩
      · simp only [e1] at hC
        have C1 := Lib.hid hC
        have hg := Lib.hid (hgood.out h1)
        clear hC h1 e1 hgood hbad
        go_wp2_with fail
        refine (C1.out _).mono ?_
        rintro e w4 ⟨rfl, hb4⟩
        have hn4 := bel_call (bel_alloc hbr (.cells #[.int .i64 kk, .slice A d.length c] 42)) hb4
        go_wp2_with fail
        go_roundw
        case rel => exact ⟨k + 1, hlt, by go_num, hg, hn4⟩
        case measure => simp [intOf]; omega
      · simp only [e1] at hC
        have C1 := Lib.hid hC
        have hr : Hid (rchk (cs.map ceOf) = cchk (kk, d)) := Lib.hid (hbad.out (by omega))
        have E1 := Lib.hid e1
        clear hC hbad hgood e1 q1
        go_wp2_with fail
        refine (C1.out _).mono ?_
        rintro e w4 ⟨rfl, hb4⟩
        have hn4 := bel_call (bel_alloc hbr (.cells #[.int .i64 kk, .slice A d.length c] 42)) hb4
        go_wp2_with fail
        go_ret
        exact ⟨by rw [hc.out]; dsimp only; rw [hr.out, E1.out]; rfl, hn4⟩
    · go_wp2_with fail
      go_ret
      have h5 : rchk (cs.map ceOf) = 0 := rchk_ok fun c hc => hall.out c (by rw [List.take_of_length_le (by simp; omega)]; exact hc)
      exact ⟨by rw [hc.out]; dsimp only; rw [h5]; rfl, hbr⟩
end Go.Proofs.Ytkkcgibmcijhaaa
