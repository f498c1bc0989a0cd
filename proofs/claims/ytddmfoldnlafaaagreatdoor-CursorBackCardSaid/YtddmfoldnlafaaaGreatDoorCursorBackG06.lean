/- WHAT IT HOLDS: what the methods of varint.Reader do, walked. | WHAT IT HOLDS: Left, Err, End, New of varint.Reader, and what a nil reader does, walked. -/
import Derived.Test.YtddmfoldnlafaaaGreatDoorCursorBackG05
namespace Go.Proofs.YtddmfoldnlafaaaGreatDoor
open Go.RowKit

theorem IsR.store {w : World} {g B bad : Nat} {l l' : List UInt8} (hR : IsR w g B (l, bad)) {A' : Option Addr} {c' n : Nat} (hn : n = l'.length) (hS : SlB w A' c' l') (hBd : l' ≠ [] → ∀ ad, A' = some ad → ad.block < B) : IsR (w.setCell ⟨g, 0, none⟩ (.slice A' n c')) g B (l', bad) := by
  subst hn
  obtain ⟨A, c, hB, h0⟩ := hR
  exact ⟨A', c', hB.set_ 0 _, SlB.wr hS hB (slice_ne _ _ _) (errv_ne _) ((Wr.refl _ _).set_ _ _), hBd⟩
theorem drop_ne {l : List UInt8} {k : Nat} (h : l.drop k ≠ []) : l ≠ [] := fun e => h (by rw [e]; simp)
theorem IsR.cut_eq {w : World} {g B bad : Nat} {l : List UInt8} {A : Option Addr} {c k : Nat} (hR : IsR w g B (l, bad)) (hS : SlB w A c l) (hBd : l ≠ [] → ∀ ad, A = some ad → ad.block < B) (hk : k ≤ l.length) (h : c = k) : IsR (w.setCell ⟨g, 0, none⟩ (.slice A (l.length - k) 0)) g B (l.drop k, bad) := by
  have := Sl.cutB hS hk
  rw [if_pos h, show c - k = 0 from by omega] at this
  exact hR.store (by simp) (by rw [← List.length_drop] at this; exact this) (fun hn => hBd (drop_ne hn))
theorem IsR.cut_ne {w : World} {g B bad : Nat} {l : List UInt8} {A : Option Addr} {c k : Nat} (hR : IsR w g B (l, bad)) (hS : SlB w A c l) (hBd : l ≠ [] → ∀ ad, A = some ad → ad.block < B) (hk : k ≤ l.length) (h : ¬ c = k) :
    IsR (w.setCell ⟨g, 0, none⟩ (.slice (Option.map (fun x => x.add k) A) (l.length - k) (c - k))) g B (l.drop k, bad) := by
  have := Sl.cutB hS hk
  rw [if_neg h] at this
  refine hR.store (by simp) (by rw [← List.length_drop] at this; exact this) (fun hn ad hA => ?_)
  cases A with
  | none => simp at hA
  | some a =>
    simp at hA
    rw [← hA, addr_add_block]
    exact hBd (drop_ne hn) a rfl

set_option maxRecDepth 100000 in
set_option maxHeartbeats 400000 in
theorem going_any {g B bad : Nat} {l : List UInt8} {w : World} (hR : IsR w g B (l, bad)) : Calls Tryz.prog 119 #[.pointer (some ⟨g, 0, none⟩)] w fun e w' => e = .returned (.bool (decide (bad = 0))) ∧ w = w' := by
  obtain ⟨A, c, hB, hS, hBd⟩ := hR
  obtain ⟨a0, a1, f0, f1⟩ := hB.two
  rcases errv_cases bad with ⟨h0, he⟩ | ⟨k, hk, h0, he⟩
  · have hd : decide (bad = 0) = true := by simpa using h0
    have H := Lib.hid h0
    clear h0
    go_enter Tryz.func119, Tryz.ntmps119
    go_wp2_with fail
    go_ret
    exact ⟨rfl, rfl⟩
  · have hd : decide (bad = 0) = false := by simp; omega
    have H := Lib.hid h0
    clear h0
    go_enter Tryz.func119, Tryz.ntmps119
    go_wp2_with fail
    go_ret
    exact ⟨rfl, rfl⟩
set_option maxRecDepth 100000 in
set_option maxHeartbeats 400000 in
theorem going_nil (w : World) : Calls Tryz.prog 119 #[.pointer none] w fun e w' => e = .returned (.bool false) ∧ w = w' := by
  go_enter Tryz.func119, Tryz.ntmps119
  go_wp2_with fail
  go_ret
  exact ⟨rfl, rfl⟩

set_option maxRecDepth 100000 in
set_option maxHeartbeats 400000 in
theorem Fail_any {g B bad : Nat} {l : List UInt8} {w : World} (k : Nat) (hR : IsR w g B (l, bad)) :
    Calls Tryz.prog 57 #[.pointer (some ⟨g, 0, none⟩), errv k] w fun e w' => e = .returned (.tuple #[]) ∧ IsR w' g B (rFail k (l, bad)) ∧ Wr w w' g := by
  have hR0 := hR
  obtain ⟨A, c, hB, hS, hBd⟩ := hR
  obtain ⟨a0, a1, f0, f1⟩ := hB.two
  rcases Decidable.em (bad = 0) with h0 | h0
  · have hd : decide (bad = 0) = true := by simpa using h0
    have hf : rFail k (l, bad) = (l, k) := by unfold rFail; rw [if_pos h0]
    have H := Lib.hid h0
    clear h0
    have hx : ∃ x, errv k = x ∧ (x = .nilIface ∨ ∃ n, x = .iface 79 (.int .i64 n)) := by
      rcases errv_cases k with ⟨_, h⟩ | ⟨n, _, _, h⟩
      · exact ⟨_, h, .inl rfl⟩
      · exact ⟨_, h, .inr ⟨n, rfl⟩⟩
    have HF := Lib.hid hf
    clear hf
    obtain ⟨x, hx, hx2⟩ := hx
    have HX := Lib.hid hx
    rw [hx]
    clear hx
    rcases hx2 with rfl | ⟨n, rfl⟩
    all_goals
      go_enter Tryz.func57, Tryz.ntmps57
      go_wp2_with fail
      refine (going_any hR0).mono ?_
      rintro e w1 ⟨rfl, rfl⟩
      go_wp2_with fail
      go_end0
      refine ⟨rfl, ?_, (Wr.refl _ _).set_ _ _⟩
      rw [HF.out]
      refine ⟨A, c, ?_, hS.wrR hR0 ((Wr.refl _ _).set_ _ _), hBd⟩
      have := hB.set_ 1 (errv k)
      rw [HX.out] at this
      simpa [HX.out] using this
  · have hd : decide (bad = 0) = false := by simpa using h0
    have hf : rFail k (l, bad) = (l, bad) := by unfold rFail; rw [if_neg h0]
    have HF := Lib.hid hf
    clear h0 hf
    go_enter Tryz.func57, Tryz.ntmps57
    go_wp2_with fail
    refine (going_any hR0).mono ?_
    rintro e w1 ⟨rfl, rfl⟩
    go_wp2_with fail
    go_end0
    exact ⟨rfl, by rw [HF.out]; exact hR0, Wr.refl _ _⟩

set_option maxRecDepth 100000 in
set_option maxHeartbeats 400000 in
theorem Number_any {g B bad : Nat} {l : List UInt8} {w : World} (hR : IsR w g B (l, bad)) :
    Calls Tryz.prog 56 #[.pointer (some ⟨g, 0, none⟩)] w fun e w' => e = .returned (.int .u64 ((rNum (l, bad)).1 : Nat)) ∧ IsR w' g B (rNum (l, bad)).2 ∧ Wr w w' g := by
  have hR0 := hR
  obtain ⟨A, c, hB, hS, hBd⟩ := hR
  obtain ⟨a0, a1, f0, f1⟩ := hB.two
  rcases Decidable.em (bad = 0) with h0 | h0
  · subst h0
    have he : errv 0 = .nilIface := rfl
    go_enter Tryz.func56, Tryz.ntmps56
    go_wp2_with fail
    refine (going_any hR0).mono ?_
    rintro e w1 ⟨rfl, rfl⟩
    go_wp2_with fail
    refine (Take_any A c l _ hS).mono ?_
    rintro e w1 ⟨rfl, ⟨ht, rfl⟩ | ⟨n, k, ht, rfl⟩⟩
    · have hn : rNum (l, 0) = (0, (l, 2)) := by simp [rNum, ht]
      have HN := Lib.hid hn
      clear hn ht
      go_wp2_with fail
      go_ret
      rw [HN.out]
      exact ⟨rfl, ⟨A, c, hB.set_ 1 (.iface 79 (.int .i64 2)), hS.wrR hR0 ((Wr.refl _ _).set_ _ _), hBd⟩, (Wr.refl _ _).set_ _ _⟩
    · have hn : rNum (l, 0) = (n, (l.drop k, 0)) := by simp [rNum, ht]
      obtain ⟨hu, hk, _⟩ := take_some ht
      have hkc : k ≤ c := Nat.le_trans hk hS.2.1
      have hmx : c ≤ 9223372036854775807 := by have := hS.2.2.1; unfold maxLen at this; exact this
      have HN := Lib.hid hn
      clear hn ht
      go_wp2_with fail
      all_goals
        go_ret
        rw [HN.out]
        refine ⟨rfl, ?_, (Wr.refl _ _).set_ _ _⟩
        first | exact hR0.cut_eq hS hBd hk ‹_› | exact hR0.cut_ne hS hBd hk ‹_›
  · have hn : rNum (l, bad) = (0, (l, bad)) := by simp [rNum, h0]
    have hd : decide (bad = 0) = false := by simpa using h0
    have HN := Lib.hid hn
    clear hn h0
    go_enter Tryz.func56, Tryz.ntmps56
    go_wp2_with fail
    refine (going_any hR0).mono ?_
    rintro e w1 ⟨rfl, rfl⟩
    go_wp2_with fail
    go_ret
    rw [HN.out]
    exact ⟨rfl, hR0, Wr.refl _ _⟩

theorem rNum_u64 (s : List UInt8 × Nat) : U64 (rNum s).1 := by
  unfold rNum
  split
  · unfold U64; omega
  · split
    · unfold U64; omega
    · rename_i h; exact (take_some h).1

set_option maxRecDepth 100000 in
set_option maxHeartbeats 400000 in
theorem Within_any {g B : Nat} {s : List UInt8 × Nat} {w : World} (most : Nat) (hR : IsR w g B s) :
    Calls Tryz.prog 118 #[.pointer (some ⟨g, 0, none⟩), .int .u64 most] w fun e w' => e = .returned (.int .i64 ((rWithin most s).1 : Nat)) ∧ IsR w' g B (rWithin most s).2 ∧ Wr w w' g := by
  obtain ⟨l, bad⟩ := s
  have hNum := Number_any hR
  have hu := rNum_u64 (l, bad)
  have hW : rWithin most (l, bad) = if (rNum (l, bad)).1 > most ∨ (rNum (l, bad)).1 > 4611686018427387904 then (0, rFail 1 (rNum (l, bad)).2) else rNum (l, bad) := rfl
  generalize rNum (l, bad) = r at *
  obtain ⟨n, l2, bad2⟩ := r
  have HW := Lib.hid hW
  clear hW
  rcases Decidable.em (most < n) with h1 | h1
  · have HG : Hid (rWithin most (l, bad) = (0, rFail 1 (l2, bad2))) := (show _ = _ by rw [HW.out, if_pos (Or.inl h1)])
    have HN := Lib.hid hNum
    clear hNum
    go_enter Tryz.func118, Tryz.ntmps118
    go_wp2_with fail
    refine HN.out.mono ?_
    rintro e w1 ⟨rfl, hR1, hw1⟩
    go_wp2_with fail
    refine (Fail_any 1 hR1).mono ?_
    rintro e w2 ⟨rfl, hR2, hw2⟩
    go_wp2_with fail
    go_ret
    rw [HG.out]
    exact ⟨rfl, hR2, hw1.trans hw2⟩
  · rcases Decidable.em (4611686018427387904 < n) with h2 | h2
    · have HG : Hid (rWithin most (l, bad) = (0, rFail 1 (l2, bad2))) := (show _ = _ by rw [HW.out, if_pos (Or.inr h2)])
      have h3 : (4611686018427387904 : Int) < (n : Int) := by omega
      clear h2
      have HN := Lib.hid hNum
      clear hNum
      go_enter Tryz.func118, Tryz.ntmps118
      go_wp2_with fail
      refine HN.out.mono ?_
      rintro e w1 ⟨rfl, hR1, hw1⟩
      go_wp2_with fail
      refine (Fail_any 1 hR1).mono ?_
      rintro e w2 ⟨rfl, hR2, hw2⟩
      go_wp2_with fail
      go_ret
      rw [HG.out]
      exact ⟨rfl, hR2, hw1.trans hw2⟩
    · have HG : Hid (rWithin most (l, bad) = (n, (l2, bad2))) := (show _ = _ by rw [HW.out, if_neg (by simp only [gt_iff_lt]; omega)])
      have h3 : (n : Int) ≤ 4611686018427387904 := by omega
      clear h2
      have HN := Lib.hid hNum
      clear hNum
      go_enter Tryz.func118, Tryz.ntmps118
      go_wp2_with fail
      refine HN.out.mono ?_
      rintro e w1 ⟨rfl, hR1, hw1⟩
      go_wp2_with fail
      go_ret
      rw [HG.out]
      exact ⟨rfl, hR1, hw1⟩

set_option maxRecDepth 100000 in
set_option maxHeartbeats 1000000 in
theorem Fixed_any {g B bad : Nat} {l : List UInt8} {w : World} (many : Int) (hl : l.length ≤ 1000000000) (hR : IsR w g B (l, bad)) :
    Calls Tryz.prog 121 #[.pointer (some ⟨g, 0, none⟩), .int .i64 many] w (GivesR w g B (rFixed many (l, bad))) := by
  have hR0 := hR
  have hglt := hR.lt
  obtain ⟨A, c, hB, hS, hBd⟩ := hR
  obtain ⟨a0, a1, f0, f1⟩ := hB.two
  rcases Decidable.em (bad = 0) with h0 | h0
  · subst h0
    have he : errv 0 = .nilIface := rfl
    rcases Decidable.em (many < 0) with h1 | h1
    · have HG : Hid (rFixed many (l, 0) = ([], (l, 2))) := (show _ = _ by simp [rFixed, h1])
      go_enter Tryz.func121, Tryz.ntmps121
      go_wp2_with fail
      refine (going_any hR0).mono ?_
      rintro e w1 ⟨rfl, rfl⟩
      go_wp2_with fail
      refine (Fail_any 2 hR0).mono ?_
      rintro e w2 ⟨rfl, hR2, hw2⟩
      go_wp2_with fail
      go_ret
      rw [HG.out]
      exact ⟨none, 0, [], rfl, rfl, Own.none_ _ _ _ _, hR2, hw2⟩
    · obtain ⟨k, rfl⟩ := Int.eq_ofNat_of_zero_le (by omega : 0 ≤ many)
      rcases Decidable.em (l.length < k) with h2 | h2
      · have HG : Hid (rFixed k (l, 0) = ([], (l, 2))) := (show _ = _ by simp [rFixed, h2])
        go_enter Tryz.func121, Tryz.ntmps121
        go_wp2_with fail
        refine (going_any hR0).mono ?_
        rintro e w1 ⟨rfl, rfl⟩
        go_wp2_with fail
        refine (Fail_any 2 hR0).mono ?_
        rintro e w2 ⟨rfl, hR2, hw2⟩
        go_wp2_with fail
        go_ret
        rw [HG.out]
        exact ⟨none, 0, [], rfl, rfl, Own.none_ _ _ _ _, hR2, hw2⟩
      · have HG : Hid (rFixed k (l, 0) = (l.take k, (l.drop k, 0))) := (show _ = _ by simp [rFixed, h2])
        have hk : k ≤ l.length := by omega
        have hkc : k ≤ c := Nat.le_trans hk hS.2.1
        have hmx : c ≤ 9223372036854775807 := by have := hS.2.2.1; unfold maxLen at this; exact this
        go_enter Tryz.func121, Tryz.ntmps121
        go_wp2_with fail
        refine (going_any hR0).mono ?_
        rintro e w1 ⟨rfl, rfl⟩
        go_wp2_with fail
        have hcl := clone_any A c (l.take k) w (by simp; omega) (hS.takeB k)
        rw [show (l.take k).length = k from by simp; omega] at hcl
        refine hcl.mono ?_
        clear hcl
        rintro e w2 ⟨A2, c2, m2, rfl, hm2, ho2, hb2⟩
        have hR2 := hR0.below hb2
        have hS2 := hS.below hb2
        obtain ⟨b0, b1, g0, g1⟩ := (hB.below hb2).two
        go_wp2_with fail
        all_goals
          go_ret
          rw [HG.out]
          refine ⟨A2, c2, m2, rfl, hm2, ho2.wr hglt ((Wr.refl _ _).set_ _ _), ?_, (Wr.of_below hb2).set_ _ _⟩
          first | exact hR2.cut_eq hS2 hBd hk ‹_› | exact hR2.cut_ne hS2 hBd hk ‹_›
  · have hd : decide (bad = 0) = false := by simpa using h0
    have HG : Hid (rFixed many (l, bad) = ([], (l, bad))) := (show _ = _ by simp [rFixed, h0])
    clear h0
    go_enter Tryz.func121, Tryz.ntmps121
    go_wp2_with fail
    refine (going_any hR0).mono ?_
    rintro e w1 ⟨rfl, rfl⟩
    go_wp2_with fail
    go_ret
    rw [HG.out]
    exact ⟨none, 0, [], rfl, rfl, Own.none_ _ _ _ _, hR0, Wr.refl _ _⟩

theorem rNum_lt {s : List UInt8 × Nat} (h : (rNum s).2.2 = 0) : (rNum s).2.1.length + 1 ≤ s.1.length := by
  unfold rNum at h ⊢
  split at h
  · rename_i h0; exact absurd h h0
  · rename_i h0
    rw [if_neg h0]
    split at h
    · cases h
    · rename_i n k ht
      have h1 := (take_last ht).1
      have h2 := (take_some ht).2.1
      simp only [List.length_drop]
      omega
theorem rCount_le63 {most : Int} {s : List UInt8 × Nat} (h : most ≤ 9223372036854775807) : ((rCount most s).1 : Int) ≤ 9223372036854775807 := by
  unfold rCount
  split
  · simp
  · split
    · simp
    · rename_i h; simp only [gt_iff_lt, not_or] at h; omega

/-- after k numbers, of n: where the reading of all comes to -/
def Nums (n : Nat) (s0 : List UInt8 × Nat) (k : Nat) (xs : List Nat) (s : List UInt8 × Nat) : Prop :=
  s.2 = 0 ∧ xs.length = k ∧ (rNums n s0 = if (rNums (n - k) s).2.2 ≠ 0 then ([], (rNums (n - k) s).2) else (xs ++ (rNums (n - k) s).1, (rNums (n - k) s).2)) ∧ xs.length + s.1.length ≤ s0.1.length
theorem Nums.start {n : Nat} {s0 : List UInt8 × Nat} (h : s0.2 = 0) : Nums n s0 0 [] s0 := by
  refine ⟨h, rfl, ?_, by simp⟩
  rw [Nat.sub_zero]
  split
  · rename_i h1
    cases n with
    | zero => exact absurd h h1
    | succ n =>
      rw [rNums] at h1 ⊢
      split
      · rfl
      · rename_i h2
        rw [if_neg h2] at h1
        split
        · rfl
        · rename_i h3
          rw [if_neg h3] at h1
          exact absurd h1 (by simpa using h3)
  · rfl
theorem Nums.stop {n k : Nat} {s0 s : List UInt8 × Nat} {xs : List Nat} (h : Nums n s0 k xs s) (hk : k < n) (hb : (rNum s).2.2 ≠ 0) : rNums n s0 = ([], (rNum s).2) := by
  obtain ⟨_, _, h3, _⟩ := h
  obtain ⟨m, hm⟩ : ∃ m, n - k = m + 1 := ⟨n - k - 1, by omega⟩
  rw [h3, hm, rNums, if_pos hb, if_pos hb]
theorem Nums.next {n k : Nat} {s0 s : List UInt8 × Nat} {xs : List Nat} (h : Nums n s0 k xs s) (hk : k < n) (hb : (rNum s).2.2 = 0) : Nums n s0 (k + 1) (xs ++ [(rNum s).1]) (rNum s).2 := by
  obtain ⟨_, h2, h3, h4⟩ := h
  have h5 := rNum_lt hb
  refine ⟨hb, by simp [h2], ?_, by simp; omega⟩
  obtain ⟨m, hm⟩ : ∃ m, n - k = m + 1 := ⟨n - k - 1, by omega⟩
  have e : rNums (m + 1) s = if (rNums m (rNum s).2).2.2 ≠ 0 then ([], (rNums m (rNum s).2).2) else ((rNum s).1 :: (rNums m (rNum s).2).1, (rNums m (rNum s).2).2) := by
    rw [rNums, if_neg (fun h => h hb)]
  rw [h3, hm, e, show n - (k + 1) = m from by omega]
  by_cases hc : (rNums m (rNum s).2).2.2 ≠ 0
  · rw [if_pos hc, if_pos hc, if_pos hc]
  · rw [if_neg hc, if_neg hc, if_neg hc]
    simp
theorem Nums.done {n : Nat} {s0 s : List UInt8 × Nat} {xs : List Nat} (h : Nums n s0 n xs s) : rNums n s0 = (xs, s) := by
  obtain ⟨h1, _, h3, _⟩ := h
  rw [h3, Nat.sub_self, rNums, if_neg (by simpa using h1)]
  simp

end Go.Proofs.YtddmfoldnlafaaaGreatDoor

namespace Go.Proofs.YtddmfoldnlafaaaGreatDoor
open Go.RowKit

set_option maxRecDepth 100000 in
set_option maxHeartbeats 400000 in
theorem Left_any {g B bad : Nat} {l : List UInt8} {w : World} (hR : IsR w g B (l, bad)) : Calls Tryz.prog 123 #[.pointer (some ⟨g, 0, none⟩)] w fun e w' => e = .returned (.int .i64 (rLeft (l, bad) : Nat)) ∧ w = w' := by
  have hR0 := hR
  obtain ⟨A, c, hB, hS, _⟩ := hR
  obtain ⟨a0, a1, f0, f1⟩ := hB.two
  rcases Decidable.em (bad = 0) with h0 | h0
  · subst h0
    go_enter Tryz.func123, Tryz.ntmps123
    go_wp2_with fail
    refine (going_any hR0).mono ?_
    rintro e w1 ⟨rfl, rfl⟩
    go_wp2_with fail
    go_ret
    exact ⟨rfl, rfl⟩
  · have hd : decide (bad = 0) = false := by simpa using h0
    have HG : Hid (rLeft (l, bad) = 0) := (show _ = _ by simp [rLeft, h0])
    clear h0
    go_enter Tryz.func123, Tryz.ntmps123
    go_wp2_with fail
    refine (going_any hR0).mono ?_
    rintro e w1 ⟨rfl, rfl⟩
    go_wp2_with fail
    go_ret
    exact ⟨by rw [HG.out]; rfl, rfl⟩
set_option maxRecDepth 100000 in
set_option maxHeartbeats 400000 in
theorem Err_any {g B bad : Nat} {l : List UInt8} {w : World} (hR : IsR w g B (l, bad)) : Calls Tryz.prog 122 #[.pointer (some ⟨g, 0, none⟩)] w fun e w' => e = .returned (errv bad) ∧ w = w' := by
  obtain ⟨A, c, hB, hS, _⟩ := hR
  obtain ⟨a0, a1, f0, f1⟩ := hB.two
  go_enter Tryz.func122, Tryz.ntmps122
  go_wp2_with fail
  go_ret
  exact ⟨rfl, rfl⟩
set_option maxRecDepth 100000 in
set_option maxHeartbeats 400000 in
theorem End_any {g B bad : Nat} {l : List UInt8} {w : World} (hR : IsR w g B (l, bad)) : Calls Tryz.prog 59 #[.pointer (some ⟨g, 0, none⟩)] w fun e w' => e = .returned (errv (rEnd (l, bad))) ∧ w = w' := by
  rcases errv_cases bad with ⟨rfl, he⟩ | ⟨k, hk, h0, he⟩
  · rcases Decidable.em (0 < l.length) with hl | hl
    · have HG : Hid (rEnd (l, 0) = 2) := (show (if (0 : Nat) = 0 ∧ 0 < l.length then 2 else 0) = 2 by rw [if_pos ⟨rfl, hl⟩])
      have HL : Hid (rLeft (l, 0) = l.length) := (show _ = _ from rfl)
      go_enter Tryz.func59, Tryz.ntmps59
      go_wp2_with fail
      refine (Err_any hR).mono ?_
      rintro e w1 ⟨rfl, rfl⟩
      go_wp2_with fail
      refine (Left_any hR).mono ?_
      rintro e w1 ⟨rfl, rfl⟩
      rw [HL.out]
      go_wp2_with fail
      go_ret
      exact ⟨by rw [HG.out]; rfl, rfl⟩
    · have HG : Hid (rEnd (l, 0) = 0) := (show (if (0 : Nat) = 0 ∧ 0 < l.length then 2 else 0) = 0 by rw [if_neg (fun h => hl h.2)])
      have HL : Hid (rLeft (l, 0) = l.length) := (show _ = _ from rfl)
      go_enter Tryz.func59, Tryz.ntmps59
      go_wp2_with fail
      refine (Err_any hR).mono ?_
      rintro e w1 ⟨rfl, rfl⟩
      go_wp2_with fail
      refine (Left_any hR).mono ?_
      rintro e w1 ⟨rfl, rfl⟩
      rw [HL.out]
      go_wp2_with fail
      go_ret
      exact ⟨by rw [HG.out]; rfl, rfl⟩
  · have HG : Hid (rEnd (l, bad) = bad) := (show _ = _ by simp only [rEnd]; rw [if_neg (by omega)])
    have H0 := Lib.hid h0
    clear h0
    go_enter Tryz.func59, Tryz.ntmps59
    go_wp2_with fail
    refine (Err_any hR).mono ?_
    rintro e w1 ⟨rfl, rfl⟩
    go_wp2_with fail
    go_ret
    exact ⟨by rw [HG.out, he]; rfl, rfl⟩
set_option maxRecDepth 100000 in
set_option maxHeartbeats 400000 in
theorem RNew_any (A : Option Addr) (c : Nat) (l : List UInt8) (w : World) (hs : SlB w A c l) : Calls Tryz.prog 54 #[.slice A l.length c] w fun e w' => ∃ g, e = .returned (.pointer (some ⟨g, 0, none⟩)) ∧ w.heap.size ≤ g ∧ IsR w' g w.heap.size (l, 0) ∧ Below w.heap.size w w' := by
  go_enter Tryz.func54, Tryz.ntmps54
  go_wp2_with fail
  go_ret
  refine ⟨w.heap.size, rfl, Nat.le_refl _, ⟨A, c, Blk.new _ _ _, hs.below (below_new _ _), fun hn ad hA => ?_⟩, below_new _ _⟩
  have hl : 0 < l.length := by cases l <;> simp_all
  obtain ⟨ad', hA', hc⟩ := hs.at1 (k := 0) hl
  rw [hA] at hA'
  injection hA' with e
  subst e
  have := World.block_lt_of_cell? w _ hc
  rwa [addr_add_block] at this
set_option maxRecDepth 100000 in
set_option maxHeartbeats 400000 in
theorem Fail_nil (x : Value) (w : World) : Calls Tryz.prog 57 #[.pointer none, x] w fun e w' => e = .returned (.tuple #[]) ∧ w = w' := by
  go_enter Tryz.func57, Tryz.ntmps57
  go_wp2_with fail
  refine (going_nil w).mono ?_
  rintro e w1 ⟨rfl, rfl⟩
  go_wp2_with fail
  go_end0
  exact ⟨rfl, rfl⟩
set_option maxRecDepth 100000 in
set_option maxHeartbeats 400000 in
theorem Number_nil (w : World) : Calls Tryz.prog 56 #[.pointer none] w fun e w' => e = .returned (.int .u64 0) ∧ w = w' := by
  go_enter Tryz.func56, Tryz.ntmps56
  go_wp2_with fail
  refine (going_nil w).mono ?_
  rintro e w1 ⟨rfl, rfl⟩
  go_wp2_with fail
  go_ret
  exact ⟨rfl, rfl⟩
set_option maxRecDepth 100000 in
set_option maxHeartbeats 400000 in
theorem Within_nil (n : Nat) (w : World) : Calls Tryz.prog 118 #[.pointer none, .int .u64 n] w fun e w' => e = .returned (.int .i64 0) ∧ w = w' := by
  go_enter Tryz.func118, Tryz.ntmps118
  go_wp2_with fail
  refine (Number_nil w).mono ?_
  rintro e w1 ⟨rfl, rfl⟩
  go_wp2_with fail
  go_ret
  exact ⟨rfl, rfl⟩
set_option maxRecDepth 100000 in
set_option maxHeartbeats 400000 in
theorem Fixed_nil (n : Int) (w : World) : Calls Tryz.prog 121 #[.pointer none, .int .i64 n] w fun e w' => e = .returned (.slice none 0 0) ∧ w = w' := by
  go_enter Tryz.func121, Tryz.ntmps121
  go_wp2_with fail
  refine (going_nil w).mono ?_
  rintro e w1 ⟨rfl, rfl⟩
  go_wp2_with fail
  go_ret
  exact ⟨rfl, rfl⟩
set_option maxRecDepth 100000 in
set_option maxHeartbeats 400000 in
theorem Left_nil (w : World) : Calls Tryz.prog 123 #[.pointer none] w fun e w' => e = .returned (.int .i64 0) ∧ w = w' := by
  go_enter Tryz.func123, Tryz.ntmps123
  go_wp2_with fail
  refine (going_nil w).mono ?_
  rintro e w1 ⟨rfl, rfl⟩
  go_wp2_with fail
  go_ret
  exact ⟨rfl, rfl⟩
set_option maxRecDepth 100000 in
set_option maxHeartbeats 400000 in
theorem Err_nil (w : World) : Calls Tryz.prog 122 #[.pointer none] w fun e w' => e = .returned (.iface 79 (.int .i64 4)) ∧ w = w' := by
  go_enter Tryz.func122, Tryz.ntmps122
  go_wp2_with fail
  go_ret
  exact ⟨rfl, rfl⟩
set_option maxRecDepth 100000 in
set_option maxHeartbeats 400000 in
theorem End_nil (w : World) : Calls Tryz.prog 59 #[.pointer none] w fun e w' => e = .returned (.iface 79 (.int .i64 4)) ∧ w = w' := by
  go_enter Tryz.func59, Tryz.ntmps59
  go_wp2_with fail
  refine (Err_nil w).mono ?_
  rintro e w1 ⟨rfl, rfl⟩
  go_wp2_with fail
  go_ret
  exact ⟨rfl, rfl⟩
end Go.Proofs.YtddmfoldnlafaaaGreatDoor
