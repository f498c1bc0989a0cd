/- WHAT IT HOLDS: what the small functions of the package cell compute, walked. -/
import Derived.Test.YtkkcgibmcijhaaaActA
import Derived.Test.YtkkcgibmcijhaaaCellP
namespace Go.Proofs.Ytkkcgibmcijhaaa
open Go.RowKit
attribute [local go_sem ↓] Go.wp_at_zero Go.wp_at_succ

/-- a cell as a value -/
abbrev cv (k : Int) (A : Option Addr) (n c : Nat) : Value := .agg #[.int .i64 k, .slice A n c]

theorem strs_map (l : List UInt8) : strOfNums (l.map fun b => (b.toNat : Int)) = ⟨l.toArray⟩ := by
  simp only [strOfNums, List.map_map]
  congr 2
  simp [Function.comp_def]
theorem of_map (l : List UInt8) : Lib.bytesOf (l.map fun b => (b.toNat : Int)) = l := by
  simp only [Lib.bytesOf, List.map_map]
  simp [Function.comp_def]
theorem bEqual_any (A B : Option Addr) (c d : Nat) (l m : List UInt8) (w : World) (ha : SlB w A c l) (hb : SlB w B d m) :
    Calls Try.prog 90 #[.slice A l.length c, .slice B m.length d] w fun e w' => e = .returned (.bool (l == m)) ∧ w = w' := by
  have h1 := conv_str (P := Try.prog) 40 9 5 Try.underlying40 Try.underlying5 Try.underlying9 ha rfl
  have h2 := conv_str (P := Try.prog) 40 9 5 Try.underlying40 Try.underlying5 Try.underlying9 hb rfl
  rw [← strs_map] at h1 h2
  refine (Go.Proofs.Try.bytes_Equal _ _ _ _ w h1 h2).mono ?_
  rintro e w' ⟨rfl, rfl⟩
  exact ⟨by rw [of_map, of_map], rfl⟩

set_option maxRecDepth 100000 in
set_option maxHeartbeats 400000 in
theorem CCheck_any {A : Option Addr} {c : Nat} (k : Int) (d : List UInt8) (w : World) : Calls Try.prog 25 #[cv k A d.length c] w fun e w' => e = .returned (errv (cchk (k, d))) ∧ Below w.heap.size w w' := by
  rcases cchk_cases (k, d) with ⟨h1, hc⟩ | ⟨h1, h2, hc⟩ | ⟨h1, h2, h3, hc⟩ | ⟨h1, h2, h3, h4, h5, hc⟩ | ⟨h1, h2, h3, hc⟩ | ⟨h1, h2, h3, hc⟩
  case inr.inr.inr.inl =>
    have hb : (k != 1) = true := by simpa using h5
    have HC := Lib.hid hc
    clear hc h5
    dsimp only at *
    go_enter Try.func25, Try.ntmps25
    go_wp2_with fail
    go_ret
    exact ⟨by rw [HC.out]; rfl, below_new _ _⟩
  case inr.inr.inr.inr.inl =>
    obtain rfl : d = [] := List.eq_nil_of_length_eq_zero h3
    have HC := Lib.hid hc
    clear hc h3
    dsimp only at *
    go_enter Try.func25, Try.ntmps25
    go_wp2_with fail
    go_ret
    exact ⟨by rw [HC.out]; rfl, below_new _ _⟩
  case inr.inr.inr.inr.inr =>
    dsimp only at h3
    subst h3
    have HC := Lib.hid hc
    clear hc
    dsimp only at *
    go_enter Try.func25, Try.ntmps25
    go_wp2_with fail
    go_ret
    exact ⟨by rw [HC.out]; rfl, below_new _ _⟩
  all_goals
    have HC := Lib.hid hc
    clear hc
    dsimp only at *
    go_enter Try.func25, Try.ntmps25
    go_wp2_with fail
    go_ret
    exact ⟨by rw [HC.out]; rfl, below_new _ _⟩


set_option maxRecDepth 100000 in
set_option maxHeartbeats 400000 in
theorem CSame_any {A A2 : Option Addr} {c c2 : Nat} (k k2 : Int) (d d2 : List UInt8) (w : World) (ha : SlB w A c d) (hb : SlB w A2 c2 d2) :
    Calls Try.prog 26 #[cv k A d.length c, cv k2 A2 d2.length c2] w fun e w' => e = .returned (.bool (same (k, d) (k2, d2))) ∧ Below w.heap.size w w' := by
  have hB0 := (Blk.new w 42 #[.int .i64 k, .slice A d.length c]).alloc (.cells #[.int .i64 k2, .slice A2 d2.length c2] 42)
  have hB1 := Blk.newAt (w := w.alloc (.cells #[.int .i64 k, .slice A d.length c] 42)) (g := w.heap.size + 1) (by simp) 42 #[.int .i64 k2, .slice A2 d2.length c2]
  have hbw := bel_alloc (below_new w (.cells #[.int .i64 k, .slice A d.length c] 42)) (.cells #[.int .i64 k2, .slice A2 d2.length c2] 42)
  rcases Decidable.em (k = k2) with rfl | h
  · have hs : Hid (same (k, d) (k, d2) = (d == d2)) := (show _ = _ by unfold same; rw [Bool.eq_iff_iff]; simp)
    have hE := Lib.hid (bEqual_any A A2 c c2 d d2 _ (ha.below hbw) (hb.below hbw))
    clear hB0 hB1
    go_enter Try.func26, Try.ntmps26
    go_wp2_with fail
    refine hE.out.mono ?_
    rintro e w1 ⟨rfl, rfl⟩
    go_wp2_with fail
    go_ret
    exact ⟨by rw [hs.out]; rfl, hbw⟩
  · have hs : Hid (same (k, d) (k2, d2) = false) := (show _ = _ by unfold same; simp [h])
    have hkb : (k == k2) = false := by simpa using h
    clear h hB0 hB1
    go_enter Try.func26, Try.ntmps26
    go_wp2_with fail
    go_ret
    exact ⟨by rw [hs.out]; rfl, hbw⟩


set_option maxRecDepth 100000 in
set_option maxHeartbeats 1000000 in
theorem CMay_any {A A2 : Option Addr} {c c2 : Nat} (k k2 : Int) (d d2 : List UInt8) (w : World) (ha : SlB w A c d) (hb : SlB w A2 c2 d2) :
    Calls Try.prog 27 #[cv k A d.length c, cv k2 A2 d2.length c2] w fun e w' => e = .returned (.bool (mayb (k, d) (k2, d2))) ∧ Below w.heap.size w w' := by
  have hB0 := (Blk.new w 42 #[.int .i64 k, .slice A d.length c]).alloc (.cells #[.int .i64 k2, .slice A2 d2.length c2] 42)
  have hB1 := Blk.newAt (w := w.alloc (.cells #[.int .i64 k, .slice A d.length c] 42)) (g := w.heap.size + 1) (by simp) 42 #[.int .i64 k2, .slice A2 d2.length c2]
  have hbw := bel_alloc (below_new w (.cells #[.int .i64 k, .slice A d.length c] 42)) (.cells #[.int .i64 k2, .slice A2 d2.length c2] 42)
  have hC1 := fun W => CCheck_any (A := A) (c := c) k d W
  have hC2 := fun W => CCheck_any (A := A2) (c := c2) k2 d2 W
  rcases errv_cases (cchk (k, d)) with ⟨h1, e1⟩ | ⟨n1, p1, q1, e1⟩
  · rcases errv_cases (cchk (k2, d2)) with ⟨h2, e2⟩ | ⟨n2, p2, q2, e2⟩
    · simp only [e1] at hC1
      simp only [e2] at hC2
      have C1 := Lib.hid hC1
      have C2 := Lib.hid hC2
      have hM : Hid (mayb (k, d) (k2, d2) = (decide (k = 0) || (same (k, d) (k2, d2) || decide (k2 = 3)))) := (show _ = _ by unfold mayb same; simp [h1, h2])
      have hS := Lib.hid (fun W a b => CSame_any (c := c) (c2 := c2) (A := A) (A2 := A2) k k2 d d2 W a b)
      generalize same (k, d) (k2, d2) = s at *
      clear hC1 hC2 h1 h2 e1 e2
      rcases Decidable.em (k = 0) with rfl | h0
      · go_enter Try.func27, Try.ntmps27
        go_wp2_with fail
        refine (C1.out _).mono ?_
        rintro e w1 ⟨rfl, hb1⟩
        obtain ⟨a0, a1, _, _⟩ := (hB0.below hb1).two
        obtain ⟨b0, b1, _, _⟩ := (hB1.below hb1).two
        have hw1 := bel_call hbw hb1
        have hz : w.heap.size + 1 < w1.heap.size := by have := hb1.size; simp at this; omega
        go_wp2_with fail
        refine (C2.out _).mono ?_
        rintro e w2 ⟨rfl, hb2⟩
        obtain ⟨a0, a1, _, _⟩ := ((hB0.below hb1).below hb2).two
        obtain ⟨b0, b1, _, _⟩ := ((hB1.below hb1).below hb2).two
        have hw2 := bel_call hw1 hb2
        have hz2 : w.heap.size + 1 < w2.heap.size := by have := hb2.size; omega
        go_wp2_with fail
        go_ret
        exact ⟨by rw [hM.out]; rfl, hw2⟩
      · have hk0 : (k == 0) = false := by simpa using h0
        have hd0 : Hid (decide (k = 0) = false) := (show _ = _ by simpa using h0)
        clear h0
        cases s
        · rcases Decidable.em (k2 = 3) with rfl | h3
          · go_enter Try.func27, Try.ntmps27
            go_wp2_with fail
            refine (C1.out _).mono ?_
            rintro e w1 ⟨rfl, hb1⟩
            obtain ⟨a0, a1, _, _⟩ := (hB0.below hb1).two
            obtain ⟨b0, b1, _, _⟩ := (hB1.below hb1).two
            have hw1 := bel_call hbw hb1
            have hz : w.heap.size + 1 < w1.heap.size := by have := hb1.size; simp at this; omega
            go_wp2_with fail
            refine (C2.out _).mono ?_
            rintro e w2 ⟨rfl, hb2⟩
            obtain ⟨a0, a1, _, _⟩ := ((hB0.below hb1).below hb2).two
            obtain ⟨b0, b1, _, _⟩ := ((hB1.below hb1).below hb2).two
            have hw2 := bel_call hw1 hb2
            have hz2 : w.heap.size + 1 < w2.heap.size := by have := hb2.size; omega
            go_wp2_with fail
            refine (hS.out _ ((ha.below hw2)) (hb.below hw2)).mono ?_
            rintro e w3 ⟨rfl, hb3⟩
            obtain ⟨b0, b1, _, _⟩ := (((hB1.below hb1).below hb2).below hb3).two
            go_wp2_with fail
            go_ret
            exact ⟨by rw [hM.out, hd0.out]; rfl, bel_call hw2 hb3⟩
          · have hk3 : (k2 == 3) = false := by simpa using h3
            have hd3 : Hid (decide (k2 = 3) = false) := (show _ = _ by simpa using h3)
            clear h3
            go_enter Try.func27, Try.ntmps27
            go_wp2_with fail
            refine (C1.out _).mono ?_
            rintro e w1 ⟨rfl, hb1⟩
            obtain ⟨a0, a1, _, _⟩ := (hB0.below hb1).two
            obtain ⟨b0, b1, _, _⟩ := (hB1.below hb1).two
            have hw1 := bel_call hbw hb1
            have hz : w.heap.size + 1 < w1.heap.size := by have := hb1.size; simp at this; omega
            go_wp2_with fail
            refine (C2.out _).mono ?_
            rintro e w2 ⟨rfl, hb2⟩
            obtain ⟨a0, a1, _, _⟩ := ((hB0.below hb1).below hb2).two
            obtain ⟨b0, b1, _, _⟩ := ((hB1.below hb1).below hb2).two
            have hw2 := bel_call hw1 hb2
            have hz2 : w.heap.size + 1 < w2.heap.size := by have := hb2.size; omega
            go_wp2_with fail
            refine (hS.out _ ((ha.below hw2)) (hb.below hw2)).mono ?_
            rintro e w3 ⟨rfl, hb3⟩
            obtain ⟨b0, b1, _, _⟩ := (((hB1.below hb1).below hb2).below hb3).two
            go_wp2_with fail
            go_ret
            exact ⟨by rw [hM.out, hd0.out, hd3.out]; rfl, bel_call hw2 hb3⟩
        · go_enter Try.func27, Try.ntmps27
          go_wp2_with fail
          refine (C1.out _).mono ?_
          rintro e w1 ⟨rfl, hb1⟩
          obtain ⟨a0, a1, _, _⟩ := (hB0.below hb1).two
          obtain ⟨b0, b1, _, _⟩ := (hB1.below hb1).two
          have hw1 := bel_call hbw hb1
          have hz : w.heap.size + 1 < w1.heap.size := by have := hb1.size; simp at this; omega
          go_wp2_with fail
          refine (C2.out _).mono ?_
          rintro e w2 ⟨rfl, hb2⟩
          obtain ⟨a0, a1, _, _⟩ := ((hB0.below hb1).below hb2).two
          obtain ⟨b0, b1, _, _⟩ := ((hB1.below hb1).below hb2).two
          have hw2 := bel_call hw1 hb2
          have hz2 : w.heap.size + 1 < w2.heap.size := by have := hb2.size; omega
          go_wp2_with fail
          refine (hS.out _ ((ha.below hw2)) (hb.below hw2)).mono ?_
          rintro e w3 ⟨rfl, hb3⟩
          go_wp2_with fail
          go_ret
          exact ⟨by rw [hM.out, hd0.out]; rfl, bel_call hw2 hb3⟩
    · simp only [e1] at hC1
      simp only [e2] at hC2
      have C1 := Lib.hid hC1
      have C2 := Lib.hid hC2
      have hM : Hid (mayb (k, d) (k2, d2) = false) := (show _ = _ by unfold mayb; rw [decide_eq_false (by omega)])
      clear hC1 hC2 h1 q2 e1 e2
      go_enter Try.func27, Try.ntmps27
      go_wp2_with fail
      refine (C1.out _).mono ?_
      rintro e w1 ⟨rfl, hb1⟩
      obtain ⟨a0, a1, _, _⟩ := (hB0.below hb1).two
      obtain ⟨b0, b1, _, _⟩ := (hB1.below hb1).two
      have hw1 := bel_call hbw hb1
      have hz : w.heap.size + 1 < w1.heap.size := by have := hb1.size; simp at this; omega
      go_wp2_with fail
      refine (C2.out _).mono ?_
      rintro e w2 ⟨rfl, hb2⟩
      obtain ⟨a0, a1, _, _⟩ := ((hB0.below hb1).below hb2).two
      obtain ⟨b0, b1, _, _⟩ := ((hB1.below hb1).below hb2).two
      have hw2 := bel_call hw1 hb2
      have hz2 : w.heap.size + 1 < w2.heap.size := by have := hb2.size; omega
      go_wp2_with fail
      go_ret
      exact ⟨by rw [hM.out]; rfl, hw2⟩
  · simp only [e1] at hC1
    have C1 := Lib.hid hC1
    have hM : Hid (mayb (k, d) (k2, d2) = false) := (show _ = _ by unfold mayb; rw [decide_eq_false (by omega)])
    clear hC1 hC2 q1 e1
    go_enter Try.func27, Try.ntmps27
    go_wp2_with fail
    refine (C1.out _).mono ?_
    rintro e w1 ⟨rfl, hb1⟩
    obtain ⟨a0, a1, _, _⟩ := (hB0.below hb1).two
    obtain ⟨b0, b1, _, _⟩ := (hB1.below hb1).two
    have hw1 := bel_call hbw hb1
    have hz : w.heap.size + 1 < w1.heap.size := by have := hb1.size; simp at this; omega
    go_wp2_with fail
    go_ret
    exact ⟨by rw [hM.out]; rfl, hw1⟩

theorem res_c1 {fn : Func} {a : Nat} {tmps : Array Value} {w : World} {g : Nat} {x y : Value} (hres : fn.results = #[.cell a 42]) (ha : tmps.getD a undef = .pointer (some ⟨g, 0, none⟩)) (hB : Blk w g 42 #[x, y]) :
    (results fn tmps).run Try.prog w = .ok (.agg #[x, y]) w := by
  obtain ⟨b0, b1, _, _⟩ := hB.two
  have ha' : tmps[a]?.getD undef = .pointer (some ⟨g, 0, none⟩) := by simpa using ha
  simp [results, hres, go_sem, b0, b1, ha']
theorem res_c2 {fn : Func} {a b : Nat} {tmps : Array Value} {w : World} {g : Nat} {x y : Value} (hres : fn.results = #[.cell a 42, .tmp b]) (ha : tmps.getD a undef = .pointer (some ⟨g, 0, none⟩)) (hB : Blk w g 42 #[x, y]) :
    (results fn tmps).run Try.prog w = .ok (.tuple #[.agg #[x, y], tmps.getD b undef]) w := by
  obtain ⟨b0, b1, _, _⟩ := hB.two
  have ha' : tmps[a]?.getD undef = .pointer (some ⟨g, 0, none⟩) := by simpa using ha
  simp [results, hres, go_sem, b0, b1, ha']

/-- a new cell -/
def GivesC (w0 : World) (x : Ce) (e : Ending) (w' : World) : Prop :=
  ∃ A c m, e = .returned (cv x.1 A (List.length m) c) ∧ Hid (m = x.2) ∧ OwnB w' w0.heap.size 5 A c m ∧ Below w0.heap.size w0 w'

set_option maxRecDepth 100000 in
set_option maxHeartbeats 1000000 in
theorem CCopy_any {A : Option Addr} {c : Nat} (k : Int) (d : List UInt8) (w : World) (ha : SlB w A c d) (hl : d.length ≤ 1000000000) : Calls Try.prog 32 #[cv k A d.length c] w (GivesC w (k, d)) := by
  have hB0 := (Blk.new w 42 #[.int .i64 k, .slice A d.length c]).alloc (.cells #[.int .i64 0, .slice none 0 0] 42)
  have hB1 := Blk.newAt (w := w.alloc (.cells #[.int .i64 k, .slice A d.length c] 42)) (g := w.heap.size + 1) (by simp) 42 #[.int .i64 0, .slice none 0 0]
  have hbw := bel_alloc (below_new w (.cells #[.int .i64 k, .slice A d.length c] 42)) (.cells #[.int .i64 0, .slice none 0 0] 42)
  have hA := ha.below hbw.drew
  have HC := Lib.hid (fun W h => clone_any A c d W hl h)
  have H0 := Lib.hid hB0
  have H1 := Lib.hid hB1
  obtain ⟨b0, b1, f0, f1⟩ := hB1.two
  clear hB0 hB1 ha
  go_enter Try.func32, Try.ntmps32
  go_wp2_with fail
  go_region_held3 (fun W => W.cell? ⟨w.heap.size, 0, none⟩ = some (.int .i64 k) ∧ W.cell? ⟨w.heap.size, 1, none⟩ = some (.slice A d.length c)) (first | exact hk1 | exact (blk_two_far hX (by omega) _ _).cells2 | exact H0.out.drew.cells2 | go_keep) (first
    | (go_at_call 93; go_must (refine (HC.out _ ?_).mono ?_; exact hA; rintro e w1 ⟨A1, c1, m1, rfl, hm1, ho1, hb1⟩; have hX := H0.out.drew.below hb1; have hk1 := hX.cells2; obtain ⟨b0, b1, f0, f1⟩ := (H1.out.drew.below hb1).two)))
  go_wp2_with fail
  have hw1 := bel_call hbw.drew hb1
  refine bodyPost_ret (res_c1 rfl rfl (g := w.heap.size + 1) (x := .int .i64 k) (y := .slice A1 m1.length c1) ((H1.out.drew.below hb1).set2 _ _)) rfl ⟨A1, c1, m1, rfl, hm1, ?_, below_two hw1 (by omega) _ _⟩
  exact Own.more (ownsRow_setCell_below (a := ⟨w.heap.size + 1, 1, none⟩) (ownsRow_setCell_below (a := ⟨w.heap.size + 1, 0, none⟩) (Own.more (base' := w.heap.size + 2) ho1 (by simp)) (by dsimp only; omega) _) (by dsimp only; omega) _) (by omega)
end Go.Proofs.Ytkkcgibmcijhaaa
