/- WHAT IT HOLDS: the document's Check of segments, and both Same, walked. -/
import Derived.Test.YtkkcgibmcijhaaaSegW
import Derived.Test.YtkkcgibmcijhaaaRrunX
namespace Go.Proofs.Ytkkcgibmcijhaaa
open Go.RowKit
attribute [local go_sem ↓] Go.wp_at_zero Go.wp_at_succ

theorem rchk_next {l : List Ce} {k : Nat} (hk : k < l.length) (hall : ∀ c ∈ l.take k, cchk c = 0) (h0 : cchk l[k] = 0) : ∀ c ∈ l.take (k + 1), cchk c = 0 := fun c hc => by
  rw [List.take_succ_eq_append_getElem hk, List.mem_append] at hc
  rcases hc with hc | hc
  · exact hall c hc
  · simp only [List.mem_singleton] at hc
    rw [hc]; exact h0

set_option maxRecDepth 100000 in
set_option maxHeartbeats 1000000 in
theorem rSCheck_any {E : Option Addr} {cap : Nat} (f : Int) (ds : List Ce) (w : World) (h : SlD w E cap ds) :
    Calls Try.prog 49 #[cv f E ds.length cap] w fun e w' => e = .returned (.int .i64 (schk (f, ds) : Nat)) ∧ Below w.heap.size w w' := by
  have hmax := h.len_le
  unfold maxLen at hmax
  have hbw := below_new w (.cells #[.int .i64 f, .slice E ds.length cap] 91)
  have hB := Blk.new w 91 #[.int .i64 f, .slice E ds.length cap]
  by_cases h1 : f < 0
  · have hc := Lib.hid (schk_range (s := (f, ds)) (.inl h1))
    go_enter Try.func49, Try.ntmps49
    go_wp2_with fail
    go_ret
    exact ⟨by rw [hc.out]; rfl, hbw⟩
  by_cases h2 : 1048576 < f
  · have hc := Lib.hid (schk_range (s := (f, ds)) (.inr h2))
    go_enter Try.func49, Try.ntmps49
    go_wp2_with fail
    go_ret
    exact ⟨by rw [hc.out]; rfl, hbw⟩
  have hr : ¬ (f < 0 ∨ 1048576 < f) := by omega
  by_cases h3 : 64 < ds.length
  · have hc := Lib.hid (schk_long (s := (f, ds)) hr h3)
    clear hr
    go_enter Try.func49, Try.ntmps49
    go_wp2_with fail
    go_ret
    exact ⟨by rw [hc.out]; rfl, hbw⟩
  by_cases h4 : 1048576 < f + ds.length
  · have hc := Lib.hid (schk_far (s := (f, ds)) hr h3 h4)
    clear hr
    go_enter Try.func49, Try.ntmps49
    go_wp2_with fail
    go_ret
    exact ⟨by rw [hc.out]; rfl, hbw⟩
  have hc := Lib.hid (schk_cells (s := (f, ds)) hr h3 h4)
  clear hr
  go_enter Try.func49, Try.ntmps49
  go_wp2_with fail
  go_loopw [3] (fun x wr => ∃ k : Nat, k ≤ ds.length ∧ x = .int .i64 k ∧ Hid (∀ c ∈ ds.take k, cchk c = 0) ∧ Below w.heap.size w wr ∧ Blk wr w.heap.size 91 #[.int .i64 f, .slice E ds.length cap]) (fun x w => ds.length - (intOf x).toNat)
  case atStart => exact ⟨0, Nat.zero_le _, rfl, (fun c hc => by simp at hc), hbw, hB⟩
  case round =>
    obtain ⟨k, hk, rfl, hall, hbr, hBr⟩ := hrel
    obtain ⟨a0, a1, _, _⟩ := hBr.two
    by_cases hlt : k < ds.length
    · obtain ⟨ad, b, o, rfl, had, hcc⟩ := (h.below hbr).atS (f := df) (fun _ => rfl) (by decide) hlt
      have hc0 := hcc 0 _ rfl
      have hc1 := hcc 1 _ rfl
      clear hcc
      have hbad := Lib.hid (rchk_at (l := ds) (k := k) hlt hall.out)
      have hgood := Lib.hid (rchk_next hlt hall.out)
      generalize ds[k] = x at *
      obtain ⟨kk, d⟩ := x
      dsimp only at *
      rw [Nat.add_zero] at hc0
      rcases Nat.eq_zero_or_pos (cchk (kk, d)) with h1 | h1
      · have hg := Lib.hid (hgood.out h1)
        have hz := Lib.hid h1
        clear h1 hgood hbad
        go_wp2_with fail
        refine (rCheck_any kk d _).mono ?_
        rintro e w4 ⟨rfl, hb4⟩
        rw [hz.out]
        have hn4 := bel_call hbr hb4
        have hB4 := hBr.below hb4
        clear a0 a1 hBr hbr hb4 hc0 hc1
        go_wp2_with fail
        go_roundw
        case rel => exact ⟨k + 1, hlt, by go_num, hg, hn4, hB4⟩
        case measure => simp [intOf]; omega
      · have hr : Hid (rchk ds = cchk (kk, d)) := Lib.hid (hbad.out (by omega))
        have hk1 : (((cchk (kk, d) : Nat) : Int) != 0) = true := by simp; omega
        clear hbad hgood
        go_wp2_with fail
        refine (rCheck_any kk d _).mono ?_
        rintro e w4 ⟨rfl, hb4⟩
        have hn4 := bel_call hbr hb4
        generalize cchk (kk, d) = q at *
        go_wp2_with fail
        go_ret
        exact ⟨by rw [hc.out]; dsimp only; rw [hr.out]; rfl, hn4⟩
    · go_wp2_with fail
      go_ret
      have h5 : rchk ds = 0 := rchk_ok fun c hc => hall.out c (by rw [List.take_of_length_le (by omega)]; exact hc)
      exact ⟨by rw [hc.out]; dsimp only; rw [h5]; rfl, hbr⟩
end Go.Proofs.Ytkkcgibmcijhaaa
