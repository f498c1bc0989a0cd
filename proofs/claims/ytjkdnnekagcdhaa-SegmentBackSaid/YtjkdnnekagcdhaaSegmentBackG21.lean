/- WHAT IT HOLDS: the law SegmentBack, walked. | WHAT IT HOLDS: arguments that are segments, arrays, opened to the words of Kit. -/
import Derived.Test.YtjkdnnekagcdhaaSegmentBackG20
import Derived.Test.YtjkdnnekagcdhaaSegmentBackG05
import Derived.Test.YtjkdnnekagcdhaaSegmentBackG08
namespace Go.Proofs.Ytjkdnnekagcdhaa
open Go.RowKit
attribute [local go_sem ↓] Go.wp_at_zero Go.wp_at_succ

theorem u64q (a : Int) (n : Nat) (hn : n ≤ 1000) : ∃ q : Nat, q ≤ n ∧ (IntKind.u64.wrap a).tmod ((n : Int) + 1) = (q : Int) := by
  rw [IntKind.wrap_u64]
  have h : (0 : Int) ≤ a % 18446744073709551616 := Int.emod_nonneg _ (by decide)
  rw [Int.tmod_eq_emod_of_nonneg h]
  have h1 := Int.emod_nonneg (a % 18446744073709551616) (b := (n : Int) + 1) (by omega)
  have h2 := Int.emod_lt_of_pos (a % 18446744073709551616) (b := (n : Int) + 1) (by omega)
  exact ⟨((a % 18446744073709551616) % ((n : Int) + 1)).toNat, by omega, by omega⟩
theorem data_le {ms : List CeV} {l : List Ce} (h : ms.map ceOf = l) (hl : ∀ c ∈ l, c.2.length ≤ 1000000000) : ∀ x ∈ ms, x.2.2.2.length ≤ 1000000000 := fun x hx => hl (ceOf x) (by rw [← h]; exact List.mem_map_of_mem hx)
theorem sgTake_nil (b : List UInt8) : (sgTake b).2 ≠ 0 → (sgTake b).1 = (0, []) := by
  unfold sgTake
  split
  · intro _; rfl
  · unfold sgEnd
    split
    · intro _; rfl
    · split
      · intro _; rfl
      · intro h; exact absurd rfl h
set_option maxRecDepth 100000 in
set_option maxHeartbeats 1000000 in
theorem sback_early1 {E A : Option Addr} {cap c : Nat} {f a : Int} {cs : List CeV} {b : List UInt8} (w : World) (h : SlC w E cap cs) (hlong : longb (cs.map ceOf) 80 = true) :
    Calls Try.prog 12 #[cv f E cs.length cap, .int .i64 a, .slice A b.length c] w fun e w' => e = .returned (.bool true) ∧ Below w.heap.size w w' := by
  have hB0 := Blk.new w 75 #[.int .i64 f, .slice E cs.length cap]
  have hbw := below_new w (.cells #[.int .i64 f, .slice E cs.length cap] 75)
  go_enter Try.func12, Try.ntmps12
  go_wp2_with fail
  refine (alive14_any _).mono ?_
  rintro e w1 ⟨rfl, hb1⟩
  have hB1 := hB0.below hb1
  have hw1 := bel_call hbw hb1
  clear hB0 hbw hb1
  obtain ⟨a0, a1, _, _⟩ := hB1.two
  go_wp2_with fail
  refine (Long_any cs 80 _ (h.below hw1)).mono ?_
  rintro e w2 ⟨rfl, hb2⟩
  rw [hlong]
  have hB2 := hB1.below hb2
  have hw2 := bel_call hw1 hb2
  clear hB1 hw1 hb2 a0 a1
  go_wp2_with fail
  go_ret
  exact ⟨rfl, hw2⟩
set_option maxRecDepth 100000 in
set_option maxHeartbeats 1000000 in
theorem sback_early2 {E A : Option Addr} {cap c : Nat} {f a : Int} {cs : List CeV} {b : List UInt8} (w : World) (h : SlC w E cap cs) (hb : SlB w A c b) (hlong : longb (cs.map ceOf) 80 = false) (hl : 6000 < b.length) :
    Calls Try.prog 12 #[cv f E cs.length cap, .int .i64 a, .slice A b.length c] w fun e w' => e = .returned (.bool true) ∧ Below w.heap.size w w' := by
  have hm := hb.len_le
  unfold maxLen at hm
  have hlI : (6000 : Int) < (b.length : Int) := by omega
  have hB0 := Blk.new w 75 #[.int .i64 f, .slice E cs.length cap]
  have hbw := below_new w (.cells #[.int .i64 f, .slice E cs.length cap] 75)
  go_enter Try.func12, Try.ntmps12
  go_wp2_with fail
  refine (alive14_any _).mono ?_
  rintro e w1 ⟨rfl, hb1⟩
  have hB1 := hB0.below hb1
  have hw1 := bel_call hbw hb1
  clear hB0 hbw hb1
  obtain ⟨a0, a1, _, _⟩ := hB1.two
  go_wp2_with fail
  refine (Long_any cs 80 _ (h.below hw1)).mono ?_
  rintro e w2 ⟨rfl, hb2⟩
  rw [hlong]
  have hB2 := hB1.below hb2
  have hw2 := bel_call hw1 hb2
  clear hB1 hw1 hb2 a0 a1
  go_wp2_with fail
  go_ret
  exact ⟨rfl, hw2⟩
set_option maxRecDepth 100000 in
set_option maxHeartbeats 4000000 in
theorem sback_walk {E A : Option Addr} {cap c : Nat} {f a : Int} {cs : List CeV} {b : List UInt8} (w : World) (h : SlC w E cap cs) (hb : SlB w A c b) (hlong : longb (cs.map ceOf) 80 = false) (hl : b.length ≤ 6000) :
    Calls Try.prog 12 #[cv f E cs.length cap, .int .i64 a, .slice A b.length c] w fun e w' => e = .returned (.bool true) ∧ Below w.heap.size w w' := by
  have hlI : (b.length : Int) ≤ 6000 := by omega
  obtain ⟨hd1, hl1⟩ := longb_all hlong (by decide)
  have HD1 := Lib.hid hd1
  clear hd1
  have hB0 := Blk.new w 75 #[.int .i64 f, .slice E cs.length cap]
  have hbw := below_new w (.cells #[.int .i64 f, .slice E cs.length cap] 75)
  go_enter Try.func12, Try.ntmps12
  go_wp2_with fail
  refine (alive14_any _).mono ?_
  rintro e w1 ⟨rfl, hb1⟩
  have hB1 := hB0.below hb1
  have hw1 := bel_call hbw hb1
  clear hB0 hbw hb1
  obtain ⟨a0, a1, _, _⟩ := hB1.two
  go_wp2_with fail
  refine (Long_any cs 80 _ (h.below hw1)).mono ?_
  rintro e w2 ⟨rfl, hb2⟩
  rw [hlong]
  have hB2 := hB1.below hb2
  have hw2 := bel_call hw1 hb2
  clear hB1 hw1 hb2 a0 a1
  clear hlong
  obtain ⟨a0, a1, _, _⟩ := hB2.two
  go_wp2_with fail
  refine (SPut_any f cs _ (h.below hw2)).mono ?_
  rintro e w3 ⟨A3, c3, m3, rfl, hm3, ho3, hb3⟩
  have hB := hB2.below hb3
  have hw := bel_call hw2 hb3
  clear hB2 hw2 hb3 a0 a1
  rcases errv_cases (sput (f, cs.map ceOf)).2 with ⟨h0, hev⟩ | ⟨k, hk, hke, hev⟩
  · rw [hev]
    have hsk := sput_bad h0
    have htk := sgTake_put hsk
    obtain ⟨hf0, hf1, hn64, hne, hr0⟩ := schk_ok hsk
    dsimp only at hf0 hf1 hn64 hne
    simp only [List.length_map] at hn64 hne
    have HSK := Lib.hid hsk
    have hS6 := STake_any A3 c3 m3 _ ho3.sl (by rw [hm3.out, sput_ok hsk]; dsimp only; have := stxt_len hsk; rw [frm_len]; have := vb_le10 (n := (stxt (f, cs.map ceOf)).length) (by omega); omega)
    rw [hm3.out, htk] at hS6
    rw [← hm3.out] at hS6
    have HS6 := Lib.hid hS6
    clear hS6 htk hsk h0 hev hr0
    go_wp2_with fail
    refine HS6.out.mono ?_
    rintro e w6 ⟨A6, c6, m6, rfl, hm6, hN6, hb6⟩
    dsimp only at hm6
    rw [show errv 0 = .nilIface from rfl]
    go_upto_region 8 with (fail)
    have hbx := bel_call hb6 (below_new w6 (.cells #[.int .i64 f, .slice A6 m6.length c6] 75))
    have hX := Blk.new w6 75 #[.int .i64 f, .slice A6 m6.length c6]
    have hNX := (hN6.below (below_new w6 (.cells #[.int .i64 f, .slice A6 m6.length c6] 75))).slc
    replace hB := hB.below hbx
    replace hw := bel_call hw hbx
    clear hbx hb6 hN6 ho3 HS6
    generalize hWe : w6.alloc (.cells #[.int .i64 f, .slice A6 m6.length c6] 75) = w7 at *
    clear hWe
    generalize hge : w6.heap.size = gx at *
    clear hge
    obtain ⟨q, hq1, hq2⟩ := u64q a cs.length (by omega)
    have hl1a : IntKind.i64.wrap ((cs.length : Int) + 1) = (cs.length : Int) + 1 := by rw [IntKind.wrap_i64]; omega
    have hl1b : IntKind.u64.wrap ((cs.length : Int) + 1) = (cs.length : Int) + 1 := by rw [IntKind.wrap_u64]; omega
    have hl1c : ¬ ((cs.length : Int) + 1 = 0) := by omega
    have hqa : IntKind.i64.wrap (q : Int) = (q : Int) := by rw [IntKind.wrap_i64]; omega
    have hqb : IntKind.i64.wrap (f + (q : Int)) = f + (q : Int) := by rw [IntKind.wrap_i64]; omega
    have hst : Below w7.heap.size w7 w7.drew := (Below.refl _ _).drew
    refine wp_region_held_drew (S := (fun W => Below w7.heap.size w7 W)) (by kernel_rfl) ?_ (fun hHeld => ?_)
    · exact hst
    refine gen0 (T := fun W => ((fun W => Below w7.heap.size w7 W)) W ∧ True) ?_ (fun wq1 hT => ?_)
    · exact ⟨by (first | exact hst | exact hHeld), trivial⟩
    (try clear f0 f1 f2 f3 f4 f5 f6 f7 f8 f9 f10 f11)
    obtain ⟨hHeld, -⟩ := hT
    refine wpAnyH_take (i := 0) (oi := ⟨some 43, _, _, _, _, _⟩) (v := ?_) rfl (by kernel_rfl) (by kernel_rfl) (by kernel_rfl) (fun _ _ _ h => h) (Or.inl ⟨by kernel_rfl, ?_⟩) (by assumption) ?_
    rotate_left
    · (intro wS hSw; (try dsimp only at hSw); obtain ⟨q0, q1, _, _⟩ := (hB.below hSw).two; clear hSw; go_simp; (try with_reducible rfl))
    (try simp only [Act.put, List.setIfInBounds_toArray, List.set_cons_zero, List.set_cons_succ])
    refine wpAnyH_take (i := 1) (oi := ⟨some 44, _, _, _, _, _⟩) (v := ?_) rfl (by kernel_rfl) (by kernel_rfl) (by kernel_rfl) (fun _ _ _ h => h) (Or.inl ⟨by kernel_rfl, ?_⟩) (by assumption) ?_
    rotate_left
    · (intro wS hSw; (try dsimp only at hSw); obtain ⟨q0, q1, _, _⟩ := (hB.below hSw).two; clear hSw; go_simp; (try with_reducible rfl))
    (try simp only [Act.put, List.setIfInBounds_toArray, List.set_cons_zero, List.set_cons_succ])
    refine wpAnyH_take (i := 2) (oi := ⟨some 45, _, _, _, _, _⟩) (v := ?_) rfl (by kernel_rfl) (by kernel_rfl) (by kernel_rfl) (fun _ _ _ h => h) (Or.inl ⟨by kernel_rfl, ?_⟩) (by assumption) ?_
    rotate_left
    · (intro wS hSw; (try dsimp only at hSw); obtain ⟨q0, q1, _, _⟩ := (hB.below hSw).two; clear hSw; go_simp; (try with_reducible rfl))
    (try simp only [Act.put, List.setIfInBounds_toArray, List.set_cons_zero, List.set_cons_succ])
    refine wpAnyH_take (i := 3) (oi := ⟨some 46, _, _, _, _, _⟩) (v := ?_) rfl (by kernel_rfl) (by kernel_rfl) (by kernel_rfl) (fun _ _ _ h => h) (Or.inl ⟨by kernel_rfl, ?_⟩) (by assumption) ?_
    rotate_left
    · (intro wS hSw; (try dsimp only at hSw); obtain ⟨q0, q1, _, _⟩ := (hB.below hSw).two; clear hSw; go_simp; (try with_reducible rfl))
    (try simp only [Act.put, List.setIfInBounds_toArray, List.set_cons_zero, List.set_cons_succ])
    refine wpAnyH_take (i := 4) (oi := ⟨some 47, _, _, _, _, _⟩) (v := ?_) rfl (by kernel_rfl) (by kernel_rfl) (by kernel_rfl) (fun _ _ _ h => h) (Or.inl ⟨by kernel_rfl, ?_⟩) (by assumption) ?_
    rotate_left
    · (intro wS hSw; (try dsimp only at hSw); obtain ⟨q0, q1, _, _⟩ := (hB.below hSw).two; clear hSw; go_simp; (try with_reducible rfl))
    (try simp only [Act.put, List.setIfInBounds_toArray, List.set_cons_zero, List.set_cons_succ])
    refine wpAnyH_take (i := 5) (oi := ⟨some 48, _, _, _, _, _⟩) (v := ?_) rfl (by kernel_rfl) (by kernel_rfl) (by kernel_rfl) (fun _ _ _ h => h) (Or.inl ⟨by kernel_rfl, ?_⟩) (by assumption) ?_
    rotate_left
    · (intro wS hSw; (try dsimp only at hSw); obtain ⟨q0, q1, _, _⟩ := (hB.below hSw).two; clear hSw; go_simp; (try with_reducible rfl))
    (try simp only [Act.put, List.setIfInBounds_toArray, List.set_cons_zero, List.set_cons_succ])
    refine wpAnyH_take (i := 6) (oi := ⟨some 49, _, _, _, _, _⟩) (v := ?_) rfl (by kernel_rfl) (by kernel_rfl) (by kernel_rfl) (fun _ _ _ h => h) (Or.inl ⟨by kernel_rfl, ?_⟩) (by assumption) ?_
    rotate_left
    · (intro wS hSw; (try dsimp only at hSw); obtain ⟨q0, q1, _, _⟩ := (hB.below hSw).two; clear hSw; go_simp; (try with_reducible rfl))
    (try simp only [Act.put, List.setIfInBounds_toArray, List.set_cons_zero, List.set_cons_succ])
    refine wpAnyH_take (i := 7) (oi := ⟨some 50, _, _, _, _, _⟩) (v := ?_) rfl (by kernel_rfl) (by kernel_rfl) (by kernel_rfl) (fun _ _ _ h => h) (Or.inl ⟨by kernel_rfl, ?_⟩) (by assumption) ?_
    rotate_left
    · (intro wS hSw; (try dsimp only at hSw); obtain ⟨q0, q1, _, _⟩ := (hB.below hSw).two; clear hSw; go_simp; (try with_reducible rfl))
    (try simp only [Act.put, List.setIfInBounds_toArray, List.set_cons_zero, List.set_cons_succ])
    refine wpAnyH_take (i := 8) (oi := ⟨some 51, _, _, _, _, _⟩) (v := ?_) rfl (by kernel_rfl) (by kernel_rfl) (by kernel_rfl) (fun _ _ _ h => h) (Or.inl ⟨by kernel_rfl, ?_⟩) (by assumption) ?_
    rotate_left
    · (intro wS hSw; (try dsimp only at hSw); obtain ⟨q0, q1, _, _⟩ := (hB.below hSw).two; clear hSw; go_simp; (try with_reducible rfl))
    (try simp only [Act.put, List.setIfInBounds_toArray, List.set_cons_zero, List.set_cons_succ])
    refine wpAnyH_take (i := 9) (oi := ⟨some 52, _, _, _, _, _⟩) (v := ?_) rfl (by kernel_rfl) (by kernel_rfl) (by kernel_rfl) (fun _ _ _ h => h) (Or.inl ⟨by kernel_rfl, ?_⟩) (by assumption) ?_
    rotate_left
    · (intro wS hSw; (try dsimp only at hSw); obtain ⟨q0, q1, _, _⟩ := (hB.below hSw).two; clear hSw; go_simp; (try with_reducible rfl))
    (try simp only [Act.put, List.setIfInBounds_toArray, List.set_cons_zero, List.set_cons_succ])
    refine wpAnyH_take (i := 10) (oi := ⟨some 53, _, _, _, _, _⟩) (v := ?_) rfl (by kernel_rfl) (by kernel_rfl) (by kernel_rfl) (fun _ _ _ h => h) (Or.inl ⟨by kernel_rfl, ?_⟩) (by assumption) ?_
    rotate_left
    · (intro wS hSw; (try dsimp only at hSw); obtain ⟨q0, q1, _, _⟩ := (hB.below hSw).two; clear hSw; go_simp; (try with_reducible rfl))
    (try simp only [Act.put, List.setIfInBounds_toArray, List.set_cons_zero, List.set_cons_succ])
    refine wpAnyH_take (i := 11) (oi := ⟨some 54, _, _, _, _, _⟩) (v := ?_) rfl (by kernel_rfl) (by kernel_rfl) (by kernel_rfl) (fun _ _ _ h => h) (Or.inl ⟨by kernel_rfl, ?_⟩) (by assumption) ?_
    rotate_left
    · (intro wS hSw; (try dsimp only at hSw); obtain ⟨q0, q1, _, _⟩ := (hB.below hSw).two; clear hSw; go_simp; (try with_reducible rfl))
    (try simp only [Act.put, List.setIfInBounds_toArray, List.set_cons_zero, List.set_cons_succ])
    refine wpAnyH_take (i := 12) (oi := ⟨some 11, _, _, _, _, _⟩) (v := ?_) rfl (by kernel_rfl) (by kernel_rfl) (by kernel_rfl) (fun _ _ _ h => h) (Or.inl ⟨by kernel_rfl, ?_⟩) (by assumption) ?_
    rotate_left
    · (intro wS hSw; (try dsimp only at hSw); obtain ⟨q0, q1, _, _⟩ := (hB.below hSw).two; clear hSw; go_simp; (try with_reducible rfl))
    (try simp only [Act.put, List.setIfInBounds_toArray, List.set_cons_zero, List.set_cons_succ])
    refine wpAnyH_done (by kernel_rfl) ?_ _
    clear hl1a hl1b hl1c hqa hqb hq2 hst
    replace hB := hB.below hHeld
    replace hX := hX.below hHeld
    replace hNX := hNX.below hHeld
    replace hw := bel_call hw hHeld
    clear hHeld
    obtain ⟨a0, a1, _, _⟩ := hB.two
    have hq3 : q ≤ (cs.map ceOf).length := by simpa using hq1
    have hS9 := fun W (hh : SlC W E cap cs) => SSlice_any f f (f + (q : Int)) cs W hh HD1.out
    rw [spart_head (s := (f, cs.map ceOf)) HSK.out hq3] at hS9
    have hS10 := fun W (hh : SlC W E cap cs) => SSlice_new f (f + (q : Int)) (f + (cs.length : Int)) cs W hh HD1.out
    have hpt := spart_tail (s := (f, cs.map ceOf)) HSK.out hq3
    dsimp only at hpt
    simp only [List.length_map] at hpt
    rw [hpt] at hS10
    have HS9 := Lib.hid hS9
    have HS10 := Lib.hid hS10
    clear hS9 hS10 hpt
    go_wp2_with fail
    refine (HS9.out _ (h.below hw)).mono ?_
    rintro e w9 ⟨A9, c9, m9, rfl, hm9, hN9, hb9⟩
    dsimp only at hm9
    rw [show errv 0 = .nilIface from rfl]
    go_upto_region 10 with (fail)
    have hbx := bel_call hb9 (below_new w9 (.cells #[.int .i64 f, .slice A9 m9.length c9] 75))
    have hY := Blk.new w9 75 #[.int .i64 f, .slice A9 m9.length c9]
    have hNY := hN9.below (below_new w9 (.cells #[.int .i64 f, .slice A9 m9.length c9] 75))
    replace hB := hB.below hbx
    replace hX := hX.below hbx
    replace hNX := hNX.below hbx
    replace hw := bel_call hw hbx
    clear hbx hb9 hN9 HS9 a0 a1
    generalize hWe : w9.alloc (.cells #[.int .i64 f, .slice A9 m9.length c9] 75) = W0 at *
    clear hWe
    generalize hge : w9.heap.size = gh at *
    clear hge
    go_cut [14, 15] (fun s14 s15 wz => ∃ (gz : Nat) (A : Option Addr) (c : Nat) (m : List CeV), s14 = .pointer (some ⟨gz, 0, none⟩) ∧ s15 = .nilIface ∧ Hid (m.map ceOf = (cs.map ceOf).drop q) ∧ Below W0.heap.size W0 wz ∧ Blk wz gz 75 #[.int .i64 (f + (q : Int)), .slice A (List.length m) c] ∧ SlC wz A c m)
    case first =>
      have hst : Below W0.heap.size W0 W0.drew := (Below.refl _ _).drew
      refine wp_region_held_drew (S := (fun W => Below W0.heap.size W0 W)) (by kernel_rfl) ?_ (fun hHeld => ?_)
      · exact hst
      refine gen0 (T := fun W => ((fun W => Below W0.heap.size W0 W)) W ∧ True) ?_ (fun wq1 hT => ?_)
      · exact ⟨by (first | exact hst | exact bel_call hHeld hb10 | exact bel_call hHeld hb11 | exact bel_alloc hHeld _ | exact bel_set (bel_set hHeld (by dsimp only; omega) _) (by dsimp only; omega) _), trivial⟩
      (try clear f0 f1 f2 f3 f4 f5 f6 f7 f8 f9 f10 f11)
      obtain ⟨hHeld, -⟩ := hT
      refine wpAnyH_take (i := 0) (oi := ⟨some 64, _, _, _, _, _⟩) (v := ?_) rfl (by kernel_rfl) (by kernel_rfl) (by kernel_rfl) (fun _ _ _ h => h) (Or.inl ⟨by kernel_rfl, ?_⟩) (by assumption) ?_
      rotate_left
      · (intro wS hSw; (try dsimp only at hSw); obtain ⟨q0, q1, _, _⟩ := (hB.below hSw).two; clear hSw; go_simp; (try with_reducible rfl))
      (try simp only [Act.put, List.setIfInBounds_toArray, List.set_cons_zero, List.set_cons_succ])
      refine wpAnyH_take (i := 1) (oi := ⟨some 65, _, _, _, _, _⟩) (v := ?_) rfl (by kernel_rfl) (by kernel_rfl) (by kernel_rfl) (fun _ _ _ h => h) (Or.inl ⟨by kernel_rfl, ?_⟩) (by assumption) ?_
      rotate_left
      · (intro wS hSw; (try dsimp only at hSw); obtain ⟨q0, q1, _, _⟩ := (hB.below hSw).two; clear hSw; go_simp; (try with_reducible rfl))
      (try simp only [Act.put, List.setIfInBounds_toArray, List.set_cons_zero, List.set_cons_succ])
      refine wpAnyH_take (i := 2) (oi := ⟨some 66, _, _, _, _, _⟩) (v := ?_) rfl (by kernel_rfl) (by kernel_rfl) (by kernel_rfl) (fun _ _ _ h => h) (Or.inl ⟨by kernel_rfl, ?_⟩) (by assumption) ?_
      rotate_left
      · (intro wS hSw; (try dsimp only at hSw); obtain ⟨q0, q1, _, _⟩ := (hB.below hSw).two; clear hSw; go_simp; (try with_reducible rfl))
      (try simp only [Act.put, List.setIfInBounds_toArray, List.set_cons_zero, List.set_cons_succ])
      refine wpAnyH_ready (rs := [3, 8]) (by kernel_rfl) (by simp) ?_
      refine AllReadyH.cons (o := ⟨some 67, _, _, _, _, _⟩) rfl (fun K hK => ?_) ?_
      · go_simp
        (refine (SEnd_any f E cs.length cap _ hf0 hf1 (by omega)).mono ?_; rintro e w10 ⟨rfl, hb10⟩)
        go_wp2_with fail
        refine hK.out _ _ ?_ (fun _ => ?_)
        · ((try dsimp only); (first | exact hst | exact bel_call hHeld hb10 | exact bel_call hHeld hb11 | exact bel_alloc hHeld _ | exact bel_set (bel_set hHeld (by dsimp only; omega) _) (by dsimp only; omega) _))
        clear hK K
        (try simp only [Act.put, List.setIfInBounds_toArray, List.set_cons_zero, List.set_cons_succ])
        refine gen0 (T := fun W => ((fun W => Below W0.heap.size W0 W)) W ∧ True) ?_ (fun wq2 hT => ?_)
        · exact ⟨by (first | exact hst | exact bel_call hHeld hb10 | exact bel_call hHeld hb11 | exact bel_alloc hHeld _ | exact bel_set (bel_set hHeld (by dsimp only; omega) _) (by dsimp only; omega) _), trivial⟩
        (try clear f0 f1 f2 f3 f4 f5 f6 f7 f8 f9 f10 f11)
        obtain ⟨hHeld, -⟩ := hT
        refine wpAnyH_ready (rs := [4, 8]) (by kernel_rfl) (by simp) ?_
        refine AllReadyH.cons (o := ⟨some 68, _, _, _, _, _⟩) rfl (fun K hK => ?_) ?_
        · go_simp
          (refine (HS10.out _ (h.below (bel_call hw hHeld))).mono ?_; rintro e w11 ⟨A11, c11, m11, rfl, hm11, hN11, hb11⟩; dsimp only at hm11; rw [show errv 0 = .nilIface from rfl])
          go_wp2_with fail
          refine hK.out _ _ ?_ (fun _ => ?_)
          · ((try dsimp only); (first | exact hst | exact bel_call hHeld hb10 | exact bel_call hHeld hb11 | exact bel_alloc hHeld _ | exact bel_set (bel_set hHeld (by dsimp only; omega) _) (by dsimp only; omega) _))
          clear hK K
          (try simp only [Act.put, List.setIfInBounds_toArray, List.set_cons_zero, List.set_cons_succ])
          refine gen0 (T := fun W => ((fun W => Below W0.heap.size W0 W)) W ∧ NewS W W0.heap.size A11 c11 m11 ∧ True) ?_ (fun wq3 hT => ?_)
          · exact ⟨by (first | exact hst | exact bel_call hHeld hb10 | exact bel_call hHeld hb11 | exact bel_alloc hHeld _ | exact bel_set (bel_set hHeld (by dsimp only; omega) _) (by dsimp only; omega) _), by (first | assumption | exact hN11.more hHeld.size | exact NewS.below f0 (below_new _ _) | exact Blk.new _ _ _ | exact hHeld.size | exact f0.below hb10 | exact f0.below hb11 | exact ⟨f0.1.setT2 f1 (by decide) _ _, fun x hx => Own.setT2 (f0.2 x hx) f1 (by decide) _ _⟩ | exact f1.set2 _ _), trivial⟩
          (try clear f0 f1 f2 f3 f4 f5 f6 f7 f8 f9 f10 f11)
          obtain ⟨hHeld, f0, -⟩ := hT
          refine wpAnyH_take (i := 5) (oi := ⟨some 63, _, _, _, _, _⟩) (v := ?_) rfl (by kernel_rfl) (by kernel_rfl) (by kernel_rfl) (fun _ _ _ h => h) (Or.inl ⟨by kernel_rfl, ?_⟩) (by assumption) ?_
          rotate_left
          · (intro wS hSw; (try dsimp only at hSw); obtain ⟨q0, q1, _, _⟩ := (hB.below hSw).two; clear hSw; go_simp; (try with_reducible rfl))
          (try simp only [Act.put, List.setIfInBounds_toArray, List.set_cons_zero, List.set_cons_succ])
          refine wpAnyH_take (i := 6) (oi := ⟨some 69, _, _, _, _, _⟩) (v := ?_) rfl (by kernel_rfl) (by kernel_rfl) (by kernel_rfl) (fun _ _ _ h => h) (Or.inl ⟨by kernel_rfl, ?_⟩) (by assumption) ?_
          rotate_left
          · (intro wS hSw; (try dsimp only at hSw); obtain ⟨q0, q1, _, _⟩ := (hB.below hSw).two; clear hSw; go_simp; (try with_reducible rfl))
          (try simp only [Act.put, List.setIfInBounds_toArray, List.set_cons_zero, List.set_cons_succ])
          refine wpAnyH_take (i := 7) (oi := ⟨some 70, _, _, _, _, _⟩) (v := ?_) rfl (by kernel_rfl) (by kernel_rfl) (by kernel_rfl) (fun _ _ _ h => h) (Or.inl ⟨by kernel_rfl, ?_⟩) (by assumption) ?_
          rotate_left
          · (intro wS hSw; (try dsimp only at hSw); obtain ⟨q0, q1, _, _⟩ := (hB.below hSw).two; clear hSw; go_simp; (try with_reducible rfl))
          (try simp only [Act.put, List.setIfInBounds_toArray, List.set_cons_zero, List.set_cons_succ])
          refine wpAnyH_ready (rs := [8]) (by kernel_rfl) (by simp) ?_
          refine AllReadyH.cons (o := ⟨some 14, _, _, _, _, _⟩) rfl (fun K hK => ?_) AllReadyH.nil
          go_simp
          refine hK.out _ _ ?_ (fun _ => ?_)
          · ((try dsimp only); (first | exact hst | exact bel_call hHeld hb10 | exact bel_call hHeld hb11 | exact bel_alloc hHeld _ | exact bel_set (bel_set hHeld (by dsimp only; omega) _) (by dsimp only; omega) _))
          clear hK K
          (try simp only [Act.put, List.setIfInBounds_toArray, List.set_cons_zero, List.set_cons_succ])
          refine gen0 (T := fun W => ((fun W => Below W0.heap.size W0 W)) W ∧ NewS W W0.heap.size A11 c11 m11 ∧ Blk W wq3.heap.size 75 #[.int .i64 0, .slice none 0 0] ∧ W0.heap.size ≤ wq3.heap.size ∧ True) ?_ (fun wq4 hT => ?_)
          · exact ⟨by (first | exact hst | exact bel_call hHeld hb10 | exact bel_call hHeld hb11 | exact bel_alloc hHeld _ | exact bel_set (bel_set hHeld (by dsimp only; omega) _) (by dsimp only; omega) _), by (first | assumption | exact hN11.more hHeld.size | exact NewS.below f0 (below_new _ _) | exact Blk.new _ _ _ | exact hHeld.size | exact f0.below hb10 | exact f0.below hb11 | exact ⟨f0.1.setT2 f1 (by decide) _ _, fun x hx => Own.setT2 (f0.2 x hx) f1 (by decide) _ _⟩ | exact f1.set2 _ _), by (first | assumption | exact hN11.more hHeld.size | exact NewS.below f0 (below_new _ _) | exact Blk.new _ _ _ | exact hHeld.size | exact f0.below hb10 | exact f0.below hb11 | exact ⟨f0.1.setT2 f1 (by decide) _ _, fun x hx => Own.setT2 (f0.2 x hx) f1 (by decide) _ _⟩ | exact f1.set2 _ _), by (first | assumption | exact hN11.more hHeld.size | exact NewS.below f0 (below_new _ _) | exact Blk.new _ _ _ | exact hHeld.size | exact f0.below hb10 | exact f0.below hb11 | exact ⟨f0.1.setT2 f1 (by decide) _ _, fun x hx => Own.setT2 (f0.2 x hx) f1 (by decide) _ _⟩ | exact f1.set2 _ _), trivial⟩
          (try clear f0 f1 f2 f3 f4 f5 f6 f7 f8 f9 f10 f11)
          obtain ⟨hHeld, f0, f1, f2, -⟩ := hT
          refine wpAnyH_ready (rs := [9]) (by kernel_rfl) (by simp) ?_
          refine AllReadyH.cons (o := ⟨none, _, _, _, _, _⟩) rfl (fun K hK => ?_) AllReadyH.nil
          obtain ⟨s0, s1, sf0, sf1⟩ := f1.two
          go_simp
          refine hK.out _ _ ?_ (fun _ => ?_)
          · ((try dsimp only); (first | exact hst | exact bel_call hHeld hb10 | exact bel_call hHeld hb11 | exact bel_alloc hHeld _ | exact bel_set (bel_set hHeld (by dsimp only; omega) _) (by dsimp only; omega) _))
          clear hK K
          (try simp only [Act.put, List.setIfInBounds_toArray, List.set_cons_zero, List.set_cons_succ])
          refine gen0 (T := fun W => ((fun W => Below W0.heap.size W0 W)) W ∧ NewS W W0.heap.size A11 c11 m11 ∧ W0.heap.size ≤ wq3.heap.size ∧ Blk W wq3.heap.size 75 #[.int .i64 (f + (q : Int)), .slice A11 m11.length c11] ∧ True) ?_ (fun wq5 hT => ?_)
          · exact ⟨by (first | exact hst | exact bel_call hHeld hb10 | exact bel_call hHeld hb11 | exact bel_alloc hHeld _ | exact bel_set (bel_set hHeld (by dsimp only; omega) _) (by dsimp only; omega) _), by (first | assumption | exact hN11.more hHeld.size | exact NewS.below f0 (below_new _ _) | exact Blk.new _ _ _ | exact hHeld.size | exact f0.below hb10 | exact f0.below hb11 | exact ⟨f0.1.setT2 f1 (by decide) _ _, fun x hx => Own.setT2 (f0.2 x hx) f1 (by decide) _ _⟩ | exact f1.set2 _ _), by (first | assumption | exact hN11.more hHeld.size | exact NewS.below f0 (below_new _ _) | exact Blk.new _ _ _ | exact hHeld.size | exact f0.below hb10 | exact f0.below hb11 | exact ⟨f0.1.setT2 f1 (by decide) _ _, fun x hx => Own.setT2 (f0.2 x hx) f1 (by decide) _ _⟩ | exact f1.set2 _ _), by (first | assumption | exact hN11.more hHeld.size | exact NewS.below f0 (below_new _ _) | exact Blk.new _ _ _ | exact hHeld.size | exact f0.below hb10 | exact f0.below hb11 | exact ⟨f0.1.setT2 f1 (by decide) _ _, fun x hx => Own.setT2 (f0.2 x hx) f1 (by decide) _ _⟩ | exact f1.set2 _ _), trivial⟩
          (try clear f0 f1 f2 f3 f4 f5 f6 f7 f8 f9 f10 f11)
          obtain ⟨hHeld, f0, f1, f2, -⟩ := hT
          refine wpAnyH_take (i := 10) (oi := ⟨some 15, _, _, _, _, _⟩) (v := ?_) rfl (by kernel_rfl) (by kernel_rfl) (by kernel_rfl) (fun _ _ _ h => h) (Or.inl ⟨by kernel_rfl, ?_⟩) (by assumption) ?_
          rotate_left
          · (intro wS hSw; (try dsimp only at hSw); obtain ⟨q0, q1, _, _⟩ := (hB.below hSw).two; clear hSw; go_simp; (try with_reducible rfl))
          (try simp only [Act.put, List.setIfInBounds_toArray, List.set_cons_zero, List.set_cons_succ])
          refine wpAnyH_done (by kernel_rfl) ?_ _
          (go_wp2_with fail; go_meet; exact ⟨_, A11, c11, m11, rfl, rfl, hm11, hHeld, f2, f0.slc⟩)
        refine AllReadyH.cons (o := ⟨some 14, _, _, _, _, _⟩) rfl (fun K hK => ?_) ?_
        · go_simp
          refine hK.out _ _ ?_ (fun _ => ?_)
          · ((try dsimp only); (first | exact hst | exact bel_call hHeld hb10 | exact bel_call hHeld hb11 | exact bel_alloc hHeld _ | exact bel_set (bel_set hHeld (by dsimp only; omega) _) (by dsimp only; omega) _))
          clear hK K
          (try simp only [Act.put, List.setIfInBounds_toArray, List.set_cons_zero, List.set_cons_succ])
          refine gen0 (T := fun W => ((fun W => Below W0.heap.size W0 W)) W ∧ Blk W wq2.heap.size 75 #[.int .i64 0, .slice none 0 0] ∧ W0.heap.size ≤ wq2.heap.size ∧ True) ?_ (fun wq6 hT => ?_)
          · exact ⟨by (first | exact hst | exact bel_call hHeld hb10 | exact bel_call hHeld hb11 | exact bel_alloc hHeld _ | exact bel_set (bel_set hHeld (by dsimp only; omega) _) (by dsimp only; omega) _), by (first | assumption | exact hN11.more hHeld.size | exact NewS.below f0 (below_new _ _) | exact Blk.new _ _ _ | exact hHeld.size | exact f0.below hb10 | exact f0.below hb11 | exact ⟨f0.1.setT2 f1 (by decide) _ _, fun x hx => Own.setT2 (f0.2 x hx) f1 (by decide) _ _⟩ | exact f1.set2 _ _), by (first | assumption | exact hN11.more hHeld.size | exact NewS.below f0 (below_new _ _) | exact Blk.new _ _ _ | exact hHeld.size | exact f0.below hb10 | exact f0.below hb11 | exact ⟨f0.1.setT2 f1 (by decide) _ _, fun x hx => Own.setT2 (f0.2 x hx) f1 (by decide) _ _⟩ | exact f1.set2 _ _), trivial⟩
          (try clear f0 f1 f2 f3 f4 f5 f6 f7 f8 f9 f10 f11)
          obtain ⟨hHeld, f0, f1, -⟩ := hT
          refine wpAnyH_ready (rs := [4]) (by kernel_rfl) (by simp) ?_
          refine AllReadyH.cons (o := ⟨some 68, _, _, _, _, _⟩) rfl (fun K hK => ?_) AllReadyH.nil
          go_simp
          (refine (HS10.out _ (h.below (bel_call hw hHeld))).mono ?_; rintro e w11 ⟨A11, c11, m11, rfl, hm11, hN11, hb11⟩; dsimp only at hm11; rw [show errv 0 = .nilIface from rfl])
          go_wp2_with fail
          refine hK.out _ _ ?_ (fun _ => ?_)
          · ((try dsimp only); (first | exact hst | exact bel_call hHeld hb10 | exact bel_call hHeld hb11 | exact bel_alloc hHeld _ | exact bel_set (bel_set hHeld (by dsimp only; omega) _) (by dsimp only; omega) _))
          clear hK K
          (try simp only [Act.put, List.setIfInBounds_toArray, List.set_cons_zero, List.set_cons_succ])
          refine gen0 (T := fun W => ((fun W => Below W0.heap.size W0 W)) W ∧ NewS W W0.heap.size A11 c11 m11 ∧ Blk W wq2.heap.size 75 #[.int .i64 0, .slice none 0 0] ∧ W0.heap.size ≤ wq2.heap.size ∧ True) ?_ (fun wq7 hT => ?_)
          · exact ⟨by (first | exact hst | exact bel_call hHeld hb10 | exact bel_call hHeld hb11 | exact bel_alloc hHeld _ | exact bel_set (bel_set hHeld (by dsimp only; omega) _) (by dsimp only; omega) _), by (first | assumption | exact hN11.more hHeld.size | exact NewS.below f0 (below_new _ _) | exact Blk.new _ _ _ | exact hHeld.size | exact f0.below hb10 | exact f0.below hb11 | exact ⟨f0.1.setT2 f1 (by decide) _ _, fun x hx => Own.setT2 (f0.2 x hx) f1 (by decide) _ _⟩ | exact f1.set2 _ _), by (first | assumption | exact hN11.more hHeld.size | exact NewS.below f0 (below_new _ _) | exact Blk.new _ _ _ | exact hHeld.size | exact f0.below hb10 | exact f0.below hb11 | exact ⟨f0.1.setT2 f1 (by decide) _ _, fun x hx => Own.setT2 (f0.2 x hx) f1 (by decide) _ _⟩ | exact f1.set2 _ _), by (first | assumption | exact hN11.more hHeld.size | exact NewS.below f0 (below_new _ _) | exact Blk.new _ _ _ | exact hHeld.size | exact f0.below hb10 | exact f0.below hb11 | exact ⟨f0.1.setT2 f1 (by decide) _ _, fun x hx => Own.setT2 (f0.2 x hx) f1 (by decide) _ _⟩ | exact f1.set2 _ _), trivial⟩
          (try clear f0 f1 f2 f3 f4 f5 f6 f7 f8 f9 f10 f11)
          obtain ⟨hHeld, f0, f1, f2, -⟩ := hT
          refine wpAnyH_take (i := 5) (oi := ⟨some 63, _, _, _, _, _⟩) (v := ?_) rfl (by kernel_rfl) (by kernel_rfl) (by kernel_rfl) (fun _ _ _ h => h) (Or.inl ⟨by kernel_rfl, ?_⟩) (by assumption) ?_
          rotate_left
          · (intro wS hSw; (try dsimp only at hSw); obtain ⟨q0, q1, _, _⟩ := (hB.below hSw).two; clear hSw; go_simp; (try with_reducible rfl))
          (try simp only [Act.put, List.setIfInBounds_toArray, List.set_cons_zero, List.set_cons_succ])
          refine wpAnyH_take (i := 6) (oi := ⟨some 69, _, _, _, _, _⟩) (v := ?_) rfl (by kernel_rfl) (by kernel_rfl) (by kernel_rfl) (fun _ _ _ h => h) (Or.inl ⟨by kernel_rfl, ?_⟩) (by assumption) ?_
          rotate_left
          · (intro wS hSw; (try dsimp only at hSw); obtain ⟨q0, q1, _, _⟩ := (hB.below hSw).two; clear hSw; go_simp; (try with_reducible rfl))
          (try simp only [Act.put, List.setIfInBounds_toArray, List.set_cons_zero, List.set_cons_succ])
          refine wpAnyH_take (i := 7) (oi := ⟨some 70, _, _, _, _, _⟩) (v := ?_) rfl (by kernel_rfl) (by kernel_rfl) (by kernel_rfl) (fun _ _ _ h => h) (Or.inl ⟨by kernel_rfl, ?_⟩) (by assumption) ?_
          rotate_left
          · (intro wS hSw; (try dsimp only at hSw); obtain ⟨q0, q1, _, _⟩ := (hB.below hSw).two; clear hSw; go_simp; (try with_reducible rfl))
          (try simp only [Act.put, List.setIfInBounds_toArray, List.set_cons_zero, List.set_cons_succ])
          refine wpAnyH_ready (rs := [9]) (by kernel_rfl) (by simp) ?_
          refine AllReadyH.cons (o := ⟨none, _, _, _, _, _⟩) rfl (fun K hK => ?_) AllReadyH.nil
          obtain ⟨s0, s1, sf0, sf1⟩ := f1.two
          go_simp
          refine hK.out _ _ ?_ (fun _ => ?_)
          · ((try dsimp only); (first | exact hst | exact bel_call hHeld hb10 | exact bel_call hHeld hb11 | exact bel_alloc hHeld _ | exact bel_set (bel_set hHeld (by dsimp only; omega) _) (by dsimp only; omega) _))
          clear hK K
          (try simp only [Act.put, List.setIfInBounds_toArray, List.set_cons_zero, List.set_cons_succ])
          refine gen0 (T := fun W => ((fun W => Below W0.heap.size W0 W)) W ∧ NewS W W0.heap.size A11 c11 m11 ∧ W0.heap.size ≤ wq2.heap.size ∧ Blk W wq2.heap.size 75 #[.int .i64 (f + (q : Int)), .slice A11 m11.length c11] ∧ True) ?_ (fun wq8 hT => ?_)
          · exact ⟨by (first | exact hst | exact bel_call hHeld hb10 | exact bel_call hHeld hb11 | exact bel_alloc hHeld _ | exact bel_set (bel_set hHeld (by dsimp only; omega) _) (by dsimp only; omega) _), by (first | assumption | exact hN11.more hHeld.size | exact NewS.below f0 (below_new _ _) | exact Blk.new _ _ _ | exact hHeld.size | exact f0.below hb10 | exact f0.below hb11 | exact ⟨f0.1.setT2 f1 (by decide) _ _, fun x hx => Own.setT2 (f0.2 x hx) f1 (by decide) _ _⟩ | exact f1.set2 _ _), by (first | assumption | exact hN11.more hHeld.size | exact NewS.below f0 (below_new _ _) | exact Blk.new _ _ _ | exact hHeld.size | exact f0.below hb10 | exact f0.below hb11 | exact ⟨f0.1.setT2 f1 (by decide) _ _, fun x hx => Own.setT2 (f0.2 x hx) f1 (by decide) _ _⟩ | exact f1.set2 _ _), by (first | assumption | exact hN11.more hHeld.size | exact NewS.below f0 (below_new _ _) | exact Blk.new _ _ _ | exact hHeld.size | exact f0.below hb10 | exact f0.below hb11 | exact ⟨f0.1.setT2 f1 (by decide) _ _, fun x hx => Own.setT2 (f0.2 x hx) f1 (by decide) _ _⟩ | exact f1.set2 _ _), trivial⟩
          (try clear f0 f1 f2 f3 f4 f5 f6 f7 f8 f9 f10 f11)
          obtain ⟨hHeld, f0, f1, f2, -⟩ := hT
          refine wpAnyH_take (i := 10) (oi := ⟨some 15, _, _, _, _, _⟩) (v := ?_) rfl (by kernel_rfl) (by kernel_rfl) (by kernel_rfl) (fun _ _ _ h => h) (Or.inl ⟨by kernel_rfl, ?_⟩) (by assumption) ?_
          rotate_left
          · (intro wS hSw; (try dsimp only at hSw); obtain ⟨q0, q1, _, _⟩ := (hB.below hSw).two; clear hSw; go_simp; (try with_reducible rfl))
          (try simp only [Act.put, List.setIfInBounds_toArray, List.set_cons_zero, List.set_cons_succ])
          refine wpAnyH_done (by kernel_rfl) ?_ _
          (go_wp2_with fail; go_meet; exact ⟨_, A11, c11, m11, rfl, rfl, hm11, hHeld, f2, f0.slc⟩)
        exact AllReadyH.nil
      refine AllReadyH.cons (o := ⟨some 14, _, _, _, _, _⟩) rfl (fun K hK => ?_) ?_
      · go_simp
        refine hK.out _ _ ?_ (fun _ => ?_)
        · ((try dsimp only); (first | exact hst | exact bel_call hHeld hb10 | exact bel_call hHeld hb11 | exact bel_alloc hHeld _ | exact bel_set (bel_set hHeld (by dsimp only; omega) _) (by dsimp only; omega) _))
        clear hK K
        (try simp only [Act.put, List.setIfInBounds_toArray, List.set_cons_zero, List.set_cons_succ])
        refine gen0 (T := fun W => ((fun W => Below W0.heap.size W0 W)) W ∧ Blk W wq1.heap.size 75 #[.int .i64 0, .slice none 0 0] ∧ W0.heap.size ≤ wq1.heap.size ∧ True) ?_ (fun wq9 hT => ?_)
        · exact ⟨by (first | exact hst | exact bel_call hHeld hb10 | exact bel_call hHeld hb11 | exact bel_alloc hHeld _ | exact bel_set (bel_set hHeld (by dsimp only; omega) _) (by dsimp only; omega) _), by (first | assumption | exact hN11.more hHeld.size | exact NewS.below f0 (below_new _ _) | exact Blk.new _ _ _ | exact hHeld.size | exact f0.below hb10 | exact f0.below hb11 | exact ⟨f0.1.setT2 f1 (by decide) _ _, fun x hx => Own.setT2 (f0.2 x hx) f1 (by decide) _ _⟩ | exact f1.set2 _ _), by (first | assumption | exact hN11.more hHeld.size | exact NewS.below f0 (below_new _ _) | exact Blk.new _ _ _ | exact hHeld.size | exact f0.below hb10 | exact f0.below hb11 | exact ⟨f0.1.setT2 f1 (by decide) _ _, fun x hx => Own.setT2 (f0.2 x hx) f1 (by decide) _ _⟩ | exact f1.set2 _ _), trivial⟩
        (try clear f0 f1 f2 f3 f4 f5 f6 f7 f8 f9 f10 f11)
        obtain ⟨hHeld, f0, f1, -⟩ := hT
        refine wpAnyH_ready (rs := [3]) (by kernel_rfl) (by simp) ?_
        refine AllReadyH.cons (o := ⟨some 67, _, _, _, _, _⟩) rfl (fun K hK => ?_) AllReadyH.nil
        go_simp
        (refine (SEnd_any f E cs.length cap _ hf0 hf1 (by omega)).mono ?_; rintro e w10 ⟨rfl, hb10⟩)
        go_wp2_with fail
        refine hK.out _ _ ?_ (fun _ => ?_)
        · ((try dsimp only); (first | exact hst | exact bel_call hHeld hb10 | exact bel_call hHeld hb11 | exact bel_alloc hHeld _ | exact bel_set (bel_set hHeld (by dsimp only; omega) _) (by dsimp only; omega) _))
        clear hK K
        (try simp only [Act.put, List.setIfInBounds_toArray, List.set_cons_zero, List.set_cons_succ])
        refine gen0 (T := fun W => ((fun W => Below W0.heap.size W0 W)) W ∧ Blk W wq1.heap.size 75 #[.int .i64 0, .slice none 0 0] ∧ W0.heap.size ≤ wq1.heap.size ∧ True) ?_ (fun wq10 hT => ?_)
        · exact ⟨by (first | exact hst | exact bel_call hHeld hb10 | exact bel_call hHeld hb11 | exact bel_alloc hHeld _ | exact bel_set (bel_set hHeld (by dsimp only; omega) _) (by dsimp only; omega) _), by (first | assumption | exact hN11.more hHeld.size | exact NewS.below f0 (below_new _ _) | exact Blk.new _ _ _ | exact hHeld.size | exact f0.below hb10 | exact f0.below hb11 | exact ⟨f0.1.setT2 f1 (by decide) _ _, fun x hx => Own.setT2 (f0.2 x hx) f1 (by decide) _ _⟩ | exact f1.set2 _ _), by (first | assumption | exact hN11.more hHeld.size | exact NewS.below f0 (below_new _ _) | exact Blk.new _ _ _ | exact hHeld.size | exact f0.below hb10 | exact f0.below hb11 | exact ⟨f0.1.setT2 f1 (by decide) _ _, fun x hx => Own.setT2 (f0.2 x hx) f1 (by decide) _ _⟩ | exact f1.set2 _ _), trivial⟩
        (try clear f0 f1 f2 f3 f4 f5 f6 f7 f8 f9 f10 f11)
        obtain ⟨hHeld, f0, f1, -⟩ := hT
        refine wpAnyH_ready (rs := [4]) (by kernel_rfl) (by simp) ?_
        refine AllReadyH.cons (o := ⟨some 68, _, _, _, _, _⟩) rfl (fun K hK => ?_) AllReadyH.nil
        go_simp
        (refine (HS10.out _ (h.below (bel_call hw hHeld))).mono ?_; rintro e w11 ⟨A11, c11, m11, rfl, hm11, hN11, hb11⟩; dsimp only at hm11; rw [show errv 0 = .nilIface from rfl])
        go_wp2_with fail
        refine hK.out _ _ ?_ (fun _ => ?_)
        · ((try dsimp only); (first | exact hst | exact bel_call hHeld hb10 | exact bel_call hHeld hb11 | exact bel_alloc hHeld _ | exact bel_set (bel_set hHeld (by dsimp only; omega) _) (by dsimp only; omega) _))
        clear hK K
        (try simp only [Act.put, List.setIfInBounds_toArray, List.set_cons_zero, List.set_cons_succ])
        refine gen0 (T := fun W => ((fun W => Below W0.heap.size W0 W)) W ∧ NewS W W0.heap.size A11 c11 m11 ∧ Blk W wq1.heap.size 75 #[.int .i64 0, .slice none 0 0] ∧ W0.heap.size ≤ wq1.heap.size ∧ True) ?_ (fun wq11 hT => ?_)
        · exact ⟨by (first | exact hst | exact bel_call hHeld hb10 | exact bel_call hHeld hb11 | exact bel_alloc hHeld _ | exact bel_set (bel_set hHeld (by dsimp only; omega) _) (by dsimp only; omega) _), by (first | assumption | exact hN11.more hHeld.size | exact NewS.below f0 (below_new _ _) | exact Blk.new _ _ _ | exact hHeld.size | exact f0.below hb10 | exact f0.below hb11 | exact ⟨f0.1.setT2 f1 (by decide) _ _, fun x hx => Own.setT2 (f0.2 x hx) f1 (by decide) _ _⟩ | exact f1.set2 _ _), by (first | assumption | exact hN11.more hHeld.size | exact NewS.below f0 (below_new _ _) | exact Blk.new _ _ _ | exact hHeld.size | exact f0.below hb10 | exact f0.below hb11 | exact ⟨f0.1.setT2 f1 (by decide) _ _, fun x hx => Own.setT2 (f0.2 x hx) f1 (by decide) _ _⟩ | exact f1.set2 _ _), by (first | assumption | exact hN11.more hHeld.size | exact NewS.below f0 (below_new _ _) | exact Blk.new _ _ _ | exact hHeld.size | exact f0.below hb10 | exact f0.below hb11 | exact ⟨f0.1.setT2 f1 (by decide) _ _, fun x hx => Own.setT2 (f0.2 x hx) f1 (by decide) _ _⟩ | exact f1.set2 _ _), trivial⟩
        (try clear f0 f1 f2 f3 f4 f5 f6 f7 f8 f9 f10 f11)
        obtain ⟨hHeld, f0, f1, f2, -⟩ := hT
        refine wpAnyH_take (i := 5) (oi := ⟨some 63, _, _, _, _, _⟩) (v := ?_) rfl (by kernel_rfl) (by kernel_rfl) (by kernel_rfl) (fun _ _ _ h => h) (Or.inl ⟨by kernel_rfl, ?_⟩) (by assumption) ?_
        rotate_left
        · (intro wS hSw; (try dsimp only at hSw); obtain ⟨q0, q1, _, _⟩ := (hB.below hSw).two; clear hSw; go_simp; (try with_reducible rfl))
        (try simp only [Act.put, List.setIfInBounds_toArray, List.set_cons_zero, List.set_cons_succ])
        refine wpAnyH_take (i := 6) (oi := ⟨some 69, _, _, _, _, _⟩) (v := ?_) rfl (by kernel_rfl) (by kernel_rfl) (by kernel_rfl) (fun _ _ _ h => h) (Or.inl ⟨by kernel_rfl, ?_⟩) (by assumption) ?_
        rotate_left
        · (intro wS hSw; (try dsimp only at hSw); obtain ⟨q0, q1, _, _⟩ := (hB.below hSw).two; clear hSw; go_simp; (try with_reducible rfl))
        (try simp only [Act.put, List.setIfInBounds_toArray, List.set_cons_zero, List.set_cons_succ])
        refine wpAnyH_take (i := 7) (oi := ⟨some 70, _, _, _, _, _⟩) (v := ?_) rfl (by kernel_rfl) (by kernel_rfl) (by kernel_rfl) (fun _ _ _ h => h) (Or.inl ⟨by kernel_rfl, ?_⟩) (by assumption) ?_
        rotate_left
        · (intro wS hSw; (try dsimp only at hSw); obtain ⟨q0, q1, _, _⟩ := (hB.below hSw).two; clear hSw; go_simp; (try with_reducible rfl))
        (try simp only [Act.put, List.setIfInBounds_toArray, List.set_cons_zero, List.set_cons_succ])
        refine wpAnyH_ready (rs := [9]) (by kernel_rfl) (by simp) ?_
        refine AllReadyH.cons (o := ⟨none, _, _, _, _, _⟩) rfl (fun K hK => ?_) AllReadyH.nil
        obtain ⟨s0, s1, sf0, sf1⟩ := f1.two
        go_simp
        refine hK.out _ _ ?_ (fun _ => ?_)
        · ((try dsimp only); (first | exact hst | exact bel_call hHeld hb10 | exact bel_call hHeld hb11 | exact bel_alloc hHeld _ | exact bel_set (bel_set hHeld (by dsimp only; omega) _) (by dsimp only; omega) _))
        clear hK K
        (try simp only [Act.put, List.setIfInBounds_toArray, List.set_cons_zero, List.set_cons_succ])
        refine gen0 (T := fun W => ((fun W => Below W0.heap.size W0 W)) W ∧ NewS W W0.heap.size A11 c11 m11 ∧ W0.heap.size ≤ wq1.heap.size ∧ Blk W wq1.heap.size 75 #[.int .i64 (f + (q : Int)), .slice A11 m11.length c11] ∧ True) ?_ (fun wq12 hT => ?_)
        · exact ⟨by (first | exact hst | exact bel_call hHeld hb10 | exact bel_call hHeld hb11 | exact bel_alloc hHeld _ | exact bel_set (bel_set hHeld (by dsimp only; omega) _) (by dsimp only; omega) _), by (first | assumption | exact hN11.more hHeld.size | exact NewS.below f0 (below_new _ _) | exact Blk.new _ _ _ | exact hHeld.size | exact f0.below hb10 | exact f0.below hb11 | exact ⟨f0.1.setT2 f1 (by decide) _ _, fun x hx => Own.setT2 (f0.2 x hx) f1 (by decide) _ _⟩ | exact f1.set2 _ _), by (first | assumption | exact hN11.more hHeld.size | exact NewS.below f0 (below_new _ _) | exact Blk.new _ _ _ | exact hHeld.size | exact f0.below hb10 | exact f0.below hb11 | exact ⟨f0.1.setT2 f1 (by decide) _ _, fun x hx => Own.setT2 (f0.2 x hx) f1 (by decide) _ _⟩ | exact f1.set2 _ _), by (first | assumption | exact hN11.more hHeld.size | exact NewS.below f0 (below_new _ _) | exact Blk.new _ _ _ | exact hHeld.size | exact f0.below hb10 | exact f0.below hb11 | exact ⟨f0.1.setT2 f1 (by decide) _ _, fun x hx => Own.setT2 (f0.2 x hx) f1 (by decide) _ _⟩ | exact f1.set2 _ _), trivial⟩
        (try clear f0 f1 f2 f3 f4 f5 f6 f7 f8 f9 f10 f11)
        obtain ⟨hHeld, f0, f1, f2, -⟩ := hT
        refine wpAnyH_take (i := 10) (oi := ⟨some 15, _, _, _, _, _⟩) (v := ?_) rfl (by kernel_rfl) (by kernel_rfl) (by kernel_rfl) (fun _ _ _ h => h) (Or.inl ⟨by kernel_rfl, ?_⟩) (by assumption) ?_
        rotate_left
        · (intro wS hSw; (try dsimp only at hSw); obtain ⟨q0, q1, _, _⟩ := (hB.below hSw).two; clear hSw; go_simp; (try with_reducible rfl))
        (try simp only [Act.put, List.setIfInBounds_toArray, List.set_cons_zero, List.set_cons_succ])
        refine wpAnyH_done (by kernel_rfl) ?_ _
        (go_wp2_with fail; go_meet; exact ⟨_, A11, c11, m11, rfl, rfl, hm11, hHeld, f2, f0.slc⟩)
      exact AllReadyH.nil
    case rest =>
      obtain ⟨gz, Az, cz, mz, rfl, rfl, hmz, hbz, hZ, hCz⟩ := hcut
      replace hB := hB.below hbz
      replace hX := hX.below hbz
      replace hNX := hNX.below hbz
      replace hNY := hNY.below hbz
      have hY2 := hY.below hbz
      replace hw := bel_call hw hbz
      have hdY := data_le hm9.out (fun c hc => by
        obtain ⟨x, hx, rfl⟩ := List.mem_map.1 (List.mem_of_mem_take hc)
        exact HD1.out x hx)
      have hdZ := data_le hmz.out (fun c hc => by
        obtain ⟨x, hx, rfl⟩ := List.mem_map.1 (List.mem_of_mem_drop hc)
        exact HD1.out x hx)
      have hJ := SJoin_any f (f + (q : Int)) m9 mz _ hNY hCz hdY hdZ
      have hjp := sjoin_parts (s := (f, cs.map ceOf)) HSK.out hq3
      dsimp only at hjp
      rw [hm9.out, hmz.out, hjp] at hJ
      have HJ := Lib.hid hJ
      obtain ⟨y0, y1, _, _⟩ := hY2.two
      obtain ⟨z0, z1, _, _⟩ := hZ.two
      clear hbz hY hdY hdZ hJ hjp HS10 hNY hCz
      go_wp2_with fail
      refine HJ.out.mono ?_
      rintro e w12 ⟨A12, c12, m12, rfl, hm12, hS12, hb12⟩
      dsimp only at hm12
      rw [show errv 0 = .nilIface from rfl]
      clear HJ y0 y1 z0 z1
      go_upto_region 12 with (fail)
      have hbx := bel_call hb12 (below_new w12 (.cells #[.int .i64 f, .slice A12 m12.length c12] 75))
      have hV := Blk.new w12 75 #[.int .i64 f, .slice A12 m12.length c12]
      have hSV := SlC.below hS12 (below_new w12 (.cells #[.int .i64 f, .slice A12 m12.length c12] 75))
      replace hB := hB.below hbx
      replace hX := hX.below hbx
      replace hNX := hNX.below hbx
      replace hw := bel_call hw hbx
      clear hbx hb12 hS12
      generalize hWe : w12.alloc (.cells #[.int .i64 f, .slice A12 m12.length c12] 75) = w13 at *
      clear hWe
      generalize hge : w12.heap.size = gv at *
      clear hge
      obtain ⟨a0, a1, _, _⟩ := hB.two
      obtain ⟨x0, x1, _, _⟩ := hX.two
      go_wp2_with fail
      refine (SSame_any f f m6 cs _ hNX (h.below hw)).mono ?_
      rintro e w14 ⟨rfl, hb14⟩
      rw [show ssame (f, m6.map ceOf) (f, cs.map ceOf) = true from by rw [ssame_eq, hm6.out]; simp]
      replace hB := hB.below hb14
      replace hV := hV.below hb14
      replace hSV := SlC.below hSV hb14
      replace hw := bel_call hw hb14
      clear hb14 a0 a1 x0 x1
      obtain ⟨a0, a1, _, _⟩ := hB.two
      obtain ⟨x0, x1, _, _⟩ := hV.two
      go_wp2_with fail
      refine (SSame_any f f m12 cs _ hSV (h.below hw)).mono ?_
      rintro e w15 ⟨rfl, hb15⟩
      rw [show ssame (f, m12.map ceOf) (f, cs.map ceOf) = true from by rw [ssame_eq, hm12.out]; simp]
      replace hw := bel_call hw hb15
      clear hb15 a0 a1 x0 x1 hX hB hV hSV
      go_wp2_with fail
      -- bytes that are a segment have just those bytes
      have hTL := sgTake_len64 b
      have hbk := fun s => sgTake_back (b := b) (s := s) (by omega)
      have hbad : (sgTake b).2 ≠ 0 → (sgTake b).1 = (0, []) := sgTake_nil b
      refine (STake_any A c b _ (hb.below hw) (by omega)).mono ?_
      rintro e wx ⟨Ax, cx, mx, rfl, hmx, hNx, hbx⟩
      generalize sgTake b = y at *
      obtain ⟨⟨fy, cy⟩, by_⟩ := y
      dsimp only at *
      have hby := bel_call hbx (below_new wx (.cells #[.int .i64 fy, .slice Ax mx.length cx] 75))
      have hX := Blk.new wx 75 #[.int .i64 fy, .slice Ax mx.length cx]
      have hNy := hNx.below (below_new wx (.cells #[.int .i64 fy, .slice Ax mx.length cx] 75))
      replace hw := bel_call hw hby
      clear hNx hbx hby
      go_upto_region 15 with (fail)
      generalize hWe : wx.alloc (.cells #[.int .i64 fy, .slice Ax mx.length cx] 75) = wy at *
      clear hWe
      generalize hge : wx.heap.size = gy at *
      clear hge
      obtain ⟨x0, x1, _, _⟩ := hX.two
      rcases errv_cases by_ with ⟨h0, hev⟩ | ⟨k, hk, hke, hev⟩
      · have hbk2 := hbk (fy, cy) (by rw [h0])
        have hml : mx.length ≤ 64 := by
          have := congrArg List.length hmx.out
          simp only [List.length_map] at this
          omega
        rw [hev]
        have HBK := Lib.hid hbk2
        clear hbk hbk2 hbad hev h0 hTL
        go_wp2_with fail
        refine (SPut_any fy mx _ hNy.slc).mono ?_
        rintro e wz ⟨Az, cz, mz, rfl, hmz, hoz, hbz⟩
        rw [hmx.out, HBK.out.2] at hmz ⊢
        dsimp only at hmz ⊢
        have heq : (mz == b) = true := by rw [hmz.out]; simp
        have HEQ := Lib.hid heq
        clear heq
        rw [show errv 0 = .nilIface from rfl]
        go_wp2_with fail
        refine (nBytes_any Az A cz c mz b _ hoz.sl (hb.below (bel_call hw hbz))).mono ?_
        rintro e wv ⟨rfl, rfl⟩
        rw [HEQ.out]
        go_wp2_with fail
        go_ret
        exact ⟨rfl, bel_call hw hbz⟩
      · have hz := hbad (by omega)
        injection hz with hz1 hz2
        have hml : mx.length = 0 := by
          have := congrArg List.length hmx.out
          rw [hz2] at this
          simpa using this
        have hl0 : ((mx.length : Int) == 0) = true := by rw [hml]; rfl
        have hf0 : (fy == 0) = true := by rw [hz1]; rfl
        rw [hev]
        clear hbk hbad hev hke hTL hz1 hz2 hml
        go_wp2_with fail
        go_ret
        exact ⟨rfl, hw⟩
  · rw [hev]
    clear hev hke
    go_wp2_with fail
    -- bytes that are a segment have just those bytes
    have hTL := sgTake_len64 b
    have hbk := fun s => sgTake_back (b := b) (s := s) (by omega)
    have hbad : (sgTake b).2 ≠ 0 → (sgTake b).1 = (0, []) := sgTake_nil b
    refine (STake_any A c b _ (hb.below hw) (by omega)).mono ?_
    rintro e wx ⟨Ax, cx, mx, rfl, hmx, hNx, hbx⟩
    generalize sgTake b = y at *
    obtain ⟨⟨fy, cy⟩, by_⟩ := y
    dsimp only at *
    have hby := bel_call hbx (below_new wx (.cells #[.int .i64 fy, .slice Ax mx.length cx] 75))
    have hX := Blk.new wx 75 #[.int .i64 fy, .slice Ax mx.length cx]
    have hNy := hNx.below (below_new wx (.cells #[.int .i64 fy, .slice Ax mx.length cx] 75))
    replace hw := bel_call hw hby
    clear hNx hbx hby
    go_upto_region 15 with (fail)
    generalize hWe : wx.alloc (.cells #[.int .i64 fy, .slice Ax mx.length cx] 75) = wy at *
    clear hWe
    generalize hge : wx.heap.size = gy at *
    clear hge
    obtain ⟨x0, x1, _, _⟩ := hX.two
    rcases errv_cases by_ with ⟨h0, hev⟩ | ⟨k, hk, hke, hev⟩
    · have hbk2 := hbk (fy, cy) (by rw [h0])
      have hml : mx.length ≤ 64 := by
        have := congrArg List.length hmx.out
        simp only [List.length_map] at this
        omega
      rw [hev]
      have HBK := Lib.hid hbk2
      clear hbk hbk2 hbad hev h0 hTL
      go_wp2_with fail
      refine (SPut_any fy mx _ hNy.slc).mono ?_
      rintro e wz ⟨Az, cz, mz, rfl, hmz, hoz, hbz⟩
      rw [hmx.out, HBK.out.2] at hmz ⊢
      dsimp only at hmz ⊢
      have heq : (mz == b) = true := by rw [hmz.out]; simp
      have HEQ := Lib.hid heq
      clear heq
      rw [show errv 0 = .nilIface from rfl]
      go_wp2_with fail
      refine (nBytes_any Az A cz c mz b _ hoz.sl (hb.below (bel_call hw hbz))).mono ?_
      rintro e wv ⟨rfl, rfl⟩
      rw [HEQ.out]
      go_wp2_with fail
      go_ret
      exact ⟨rfl, bel_call hw hbz⟩
    · have hz := hbad (by omega)
      injection hz with hz1 hz2
      have hml : mx.length = 0 := by
        have := congrArg List.length hmx.out
        rw [hz2] at this
        simpa using this
      have hl0 : ((mx.length : Int) == 0) = true := by rw [hml]; rfl
      have hf0 : (fy == 0) = true := by rw [hz1]; rfl
      rw [hev]
      clear hbk hbad hev hke hTL hz1 hz2 hml
      go_wp2_with fail
      go_ret
      exact ⟨rfl, hw⟩
theorem sback_all {E A : Option Addr} {cap c : Nat} {f a : Int} {cs : List CeV} {b : List UInt8} (w : World) (h : SlC w E cap cs) (hb : SlB w A c b) :
    Calls Try.prog 12 #[cv f E cs.length cap, .int .i64 a, .slice A b.length c] w fun e w' => e = .returned (.bool true) ∧ Below w.heap.size w w' := by
  cases hl : longb (cs.map ceOf) 80
  · rcases Nat.lt_or_ge 6000 b.length with hl2 | hl2
    · exact sback_early2 w h hb hl hl2
    · exact sback_walk w h hb hl hl2
  · exact sback_early1 w h hl
theorem sback_all3 {E A : Option Addr} {cap c : Nat} {f a : Int} {cs : List CeV} {b : List UInt8} (w : World) (h : SlC w E cap cs) (_ : I64 a) (hb : SlB w A c b) :
    Calls Try.prog 12 #[cv f E cs.length cap, .int .i64 a, .slice A b.length c] w fun e w' => e = .returned (.bool true) ∧ Below w.heap.size w w' := sback_all w h hb
end Go.Proofs.Ytjkdnnekagcdhaa

namespace Go.Proofs.Ytjkdnnekagcdhaa
open Go.ChangeShapes Go.WideShapes Go.ChangeAt Go.RowKit Go.Deep

/-- a slice of structs of one-cell fields, as a struct's field -/
theorem open_structsF {H : Type} {enc : TypeId × Value → H} {P : Program} {w : World} {base : Nat} {held : Bool} {t e : TypeId} {v : Value} {fs : Array Field}
    {T : Type} (f : T → List Value) (Q : T → Prop) (hfl : ∀ x, (f x).length = fs.size)
    (ht : P.underlying t = some (.slice e)) (he : P.underlying e = some (.struct fs)) (hone : oneCellFields P fs = true) (hC : P.cellsOf e = fs.size)
    (hel : ∀ vs : List Value, vs.length = fs.size → (∀ (j : Nat) (fd : Field), fs[j]? = some fd → ∃ (u : Value) (n : Nat) (y : DataW H × List MemPlace), vs[j]? = some u ∧ DataW.trod enc P w base (fun _ => true) held n fd.type [u] = some y) → ∃ x : T, f x = vs ∧ Q x)
    {fuel : Nat} {yy : DataW H × List MemPlace} (hf : DataW.trod enc P w base (fun _ => true) held fuel t [v] = some yy) :
    ∃ (A : Option Addr) (c : Nat) (l : List T), v = .slice A l.length c ∧ Sl w fs.size A l.length c (l.flatMap f) ∧ ∀ x ∈ l, Q x := by
  rcases open_slice_fields ht he hone hC hf with ⟨hcs, _⟩ | ⟨a, n, c, m, D, Pl, hcs, _, hl, hm, hmm, _, hi⟩
  · simp at hcs
    subst hcs
    exact ⟨none, 0, [], rfl, by simpa using Sl.none_ w fs.size, fun x hx => by simp at hx⟩
  · simp at hcs
    subst hcs
    simp only [if_true] at hmm
    subst hmm
    have hx : ∀ i, i < n → ∃ x : T, Q x ∧ ∀ j u, (f x)[j]? = some u → w.cell? (a.add (i * fs.size + j)) = some u := by
      intro i hin
      obtain ⟨ys, nn, _, _, _, hfd⟩ := hi i (by omega)
      have hc : ∀ j, j < fs.size → ∃ u : Value, w.cell? (a.add (i * fs.size + j)) = some u ∧ ∃ y : DataW H × List MemPlace, DataW.trod enc P w base (fun _ => true) held nn (fs[j]!).type [u] = some y := by
        intro j hj
        obtain ⟨u, y, h1, _, h3⟩ := hfd j fs[j] (by simp [hj])
        exact ⟨u, h1, y, by simpa [hj] using h3⟩
      obtain ⟨vs, hvl, hvr⟩ := list_choice (fun j u => w.cell? (a.add (i * fs.size + j)) = some u ∧ ∃ y : DataW H × List MemPlace, DataW.trod enc P w base (fun _ => true) held nn (fs[j]!).type [u] = some y) fs.size hc
      obtain ⟨x, hxe, hxq⟩ := hel vs hvl fun j fd hj => by
        have hjl : j < fs.size := (Array.getElem?_eq_some_iff.1 hj).1
        obtain ⟨_, y, hy⟩ := hvr j (by omega)
        have hfe : fs[j]! = fd := by
          have := (Array.getElem?_eq_some_iff.1 hj).2
          simp [hjl, this]
        rw [hfe] at hy
        exact ⟨vs[j], nn, y, List.getElem?_eq_getElem (by omega), hy⟩
      refine ⟨x, hxq, fun j u hj => ?_⟩
      rw [hxe] at hj
      obtain ⟨hjl, hju⟩ := List.getElem?_eq_some_iff.1 hj
      rw [← hju]
      exact (hvr j hjl).1
    obtain ⟨l, hll, hlr⟩ := list_choice _ n hx
    refine ⟨some a, _, l, by rw [hll], ⟨flat_len hfl l, by omega, hm, (fun h => by cases h), fun j u hj => ⟨a, rfl, ?_⟩⟩, fun x hx => ?_⟩
    · rcases Nat.eq_zero_or_pos fs.size with h0 | h0
      · have := (List.getElem?_eq_some_iff.1 hj).1
        rw [flat_len hfl, h0] at this
        omega
      · have hjl := (List.getElem?_eq_some_iff.1 hj).1
        rw [flat_len hfl] at hjl
        have hk : j / fs.size < l.length := by rw [Nat.div_lt_iff_lt_mul h0]; exact hjl
        have hr : j % fs.size < fs.size := Nat.mod_lt _ h0
        have he := flat_get hfl l (j / fs.size) (j % fs.size) hk hr
        have hj2 : j / fs.size * fs.size + j % fs.size = j := by rw [Nat.mul_comm]; exact Nat.div_add_mod _ _
        rw [hj2, hj] at he
        have := (hlr _ hk).2 _ _ he.symm
        rwa [hj2] at this
    · obtain ⟨i, hi, rfl⟩ := List.getElem_of_mem hx
      exact (hlr i hi).1

section
variable {H : Type} {enc : TypeId × Value → H} {P : Program} {w : World} {base b0 : Nat} {held : Bool} {r : Reach} {t e b u : TypeId} {v : Value} {d : DataW H} {p : List MemPlace}
theorem open_seg {g0 g1 f0 f1 : Field} (hs : P.underlying t = some (.struct #[g0, g1])) (hg0 : P.underlying g0.type = some (.int .i64)) (hg1 : P.underlying g1.type = some (.slice b)) (hb : P.underlying b = some (.struct #[f0, f1])) (h0 : P.underlying f0.type = some (.int .i64)) (h1 : P.underlying f1.type = some (.slice e)) (he : P.underlying e = some (.int .u8))
    (hCe : P.cellsOf e = 1) (hone : oneCellFields P #[f0, f1] = true) (hC : P.cellsOf b = 2) (hone2 : oneCellFields P #[g0, g1] = true) (hC2 : P.cellsOf t = 2) (hv : Value.okWide P w r b0 t v) (h : DataW.Trod enc P w base (fun _ => true) held t v d p) :
    ∃ (k : Int) (A : Option Addr) (c : Nat) (l : List CeV), v = cv k A l.length c ∧ SlC w A c l := by
  obtain ⟨v0, v1, y0, y1, n, rfl, _, _, q0, q1⟩ := Go.Joins.open_agg2 hs hone2 hC2 hv h
  obtain ⟨k, rfl, hk⟩ := int_cell hg0 q0
  obtain ⟨A, c, l, rfl, hl, hq⟩ := open_structsF cf (fun x => I64 x.1 ∧ SlB w x.2.1 x.2.2.1 x.2.2.2) (fun _ => rfl) hg1 hb hone hC (by
    intro vs hl hf
    obtain ⟨u0, n0, y0, e0, t0⟩ := hf 0 f0 rfl
    obtain ⟨u1, n1, y1, e1, t1⟩ := hf 1 f1 rfl
    obtain ⟨k, rfl, hk⟩ := int_cell h0 t0
    obtain ⟨A, c, l, rfl, hb⟩ := bytes_cell h1 he hCe t1
    match vs, hl with
    | [x0, x1], _ =>
      simp at e0 e1
      exact ⟨(k, A, c, l), by simp [cf, e0, e1], hk, hb⟩) q1
  exact ⟨k, A, c, l, rfl, ⟨hl, fun x hx => (hq x hx).2⟩⟩
theorem open_segI {g0 g1 f0 f1 : Field} (hs : P.underlying t = some (.struct #[g0, g1])) (hg0 : P.underlying g0.type = some (.int .i64)) (hg1 : P.underlying g1.type = some (.slice b)) (hb : P.underlying b = some (.struct #[f0, f1])) (h0 : P.underlying f0.type = some (.int .i64)) (h1 : P.underlying f1.type = some (.slice e)) (he : P.underlying e = some (.int .u8))
    (hCe : P.cellsOf e = 1) (hone : oneCellFields P #[f0, f1] = true) (hC : P.cellsOf b = 2) (hone2 : oneCellFields P #[g0, g1] = true) (hC2 : P.cellsOf t = 2) (hv : Value.okWide P w r b0 t v) (h : DataW.Trod enc P w base (fun _ => true) held t v d p) :
    ∃ (k : Int) (A : Option Addr) (c : Nat) (l : List CeV), v = cv k A l.length c ∧ SlC w A c l ∧ I64 k := by
  obtain ⟨v0, v1, y0, y1, n, rfl, _, _, q0, q1⟩ := Go.Joins.open_agg2 hs hone2 hC2 hv h
  obtain ⟨k, rfl, hk⟩ := int_cell hg0 q0
  obtain ⟨A, c, l, rfl, hl, hq⟩ := open_structsF cf (fun x => I64 x.1 ∧ SlB w x.2.1 x.2.2.1 x.2.2.2) (fun _ => rfl) hg1 hb hone hC (by
    intro vs hl hf
    obtain ⟨u0, n0, y0, e0, t0⟩ := hf 0 f0 rfl
    obtain ⟨u1, n1, y1, e1, t1⟩ := hf 1 f1 rfl
    obtain ⟨k, rfl, hk⟩ := int_cell h0 t0
    obtain ⟨A, c, l, rfl, hb⟩ := bytes_cell h1 he hCe t1
    match vs, hl with
    | [x0, x1], _ =>
      simp at e0 e1
      exact ⟨(k, A, c, l), by simp [cf, e0, e1], hk, hb⟩) q1
  exact ⟨k, A, c, l, rfl, ⟨hl, fun x hx => (hq x hx).2⟩, hk⟩
theorem open_arr2 (hs : P.underlying t = some (.array 2 e)) (he : P.underlying e = some (.int .i64)) (hC : P.cellsOf t = 2) (hE : P.cellsOf e = 1) (hv : Value.okWide P w r b0 t v) (h : DataW.Trod enc P w base (fun _ => true) held t v d p) :
    ∃ a b : Int, v = .agg #[.int .i64 a, .int .i64 b] := by
  simp only [Value.okWide, hs] at hv
  obtain ⟨cs, rfl, hsz, _⟩ := hv
  obtain ⟨c0, c1, rfl⟩ : ∃ c0 c1, cs = #[c0, c1] := by
    have h2 := hsz.trans hC
    match cs, h2 with
    | ⟨[x, y]⟩, _ => exact ⟨x, y, rfl⟩
  obtain ⟨fuel, hf⟩ := h
  obtain ⟨xs, m, _, _, _, hlen, hg⟩ := DataW.trod_array hs hf
  have k0 := hg 0 (by omega)
  have k1 := hg 1 (by omega)
  rw [hE, List.getElem?_eq_getElem (by omega)] at k0 k1
  simp [Value.cells] at k0 k1
  obtain ⟨a, rfl, ha⟩ := int_cell he k0
  obtain ⟨b, rfl, hb⟩ := int_cell he k1
  exact ⟨a, b, rfl⟩
end
end Go.Proofs.Ytjkdnnekagcdhaa
