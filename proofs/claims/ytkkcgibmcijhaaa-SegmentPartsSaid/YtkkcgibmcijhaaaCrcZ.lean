/- WHAT IT HOLDS: Sealed, Opened of package crc, walked. -/
import Derived.Test.YtkkcgibmcijhaaaCrcY
import Derived.Test.YtkkcgibmcijhaaaVarR
import Derived.Deep.DeepCutAuto
namespace Go.Proofs.Ytkkcgibmcijhaaa
open Go.RowKit
attribute [local go_sem ↓] Go.wp_at_zero Go.wp_at_succ

theorem But.mkr {w w' : World} {g h : Nat} {n : Int} (hM : Mkr w g n) (hb : But h w w') (hne : g ≠ h) : Mkr w' g n := by
  rcases hM with ⟨cs, hB, r⟩ | ⟨cs, hB, r⟩
  · exact .inl ⟨cs, (hb.block g hB.lt (by intro e; injection e with e; exact hne e)).trans hB, r⟩
  · exact .inr ⟨cs, (hb.block g hB.lt (by intro e; injection e with e; exact hne e)).trans hB, r⟩
theorem Mkr.below {w w' : World} {g : Nat} {n : Int} (hM : Mkr w g n) (hb : Below w.heap.size w w') : Mkr w' g n := by
  rcases hM with ⟨cs, hB, r⟩ | ⟨cs, hB, r⟩
  · exact .inl ⟨cs, hB.below hb, r⟩
  · exact .inr ⟨cs, hB.below hb, r⟩
theorem But.of_drew {g : Nat} {a b : World} (h : But g a.drew b) : But g a b := ⟨h.os, h.tape, h.output, h.size, h.block⟩
theorem Mkr.drew {w : World} {g : Nat} {n : Int} (hM : Mkr w g n) : Mkr w.drew g n := hM
theorem Mkr.lt {w : World} {g : Nat} {n : Int} (hM : Mkr w g n) : g < w.heap.size := by
  rcases hM with ⟨cs, hB, r⟩ | ⟨cs, hB, r⟩ <;> exact hB.lt
theorem But.below {g : Nat} {a w w' : World} (h : But g a w) (hb : Below w.heap.size w w') : But g a w' := h.trans (But.of_below hb (Nat.le_refl _))
/-- the bytes, whole, and the maker asked once more -/
def SealsB (g n : Nat) (w0 : World) (l : List UInt8) (e : Ending) (w' : World) : Prop :=
  ∃ A c m, e = .returned (.slice A (List.length m) c) ∧ Hid (m = l) ∧ OwnB w' w0.heap.size 5 A c m ∧ Mkr w' g ((n + 1 : Nat) : Int) ∧ But g w0 w'

set_option maxRecDepth 100000 in
set_option maxHeartbeats 1000000 in
theorem Sealed_at (g n : Nat) (A : Option Addr) (c : Nat) (l : List UInt8) (w : World) (hM : Mkr w g n) (hn : n < 1000000000) (hs : SlB w A c l) (hA : l ≠ [] → A.map (·.block) ≠ some g) (hl : l.length ≤ 100000000) :
    Calls Try.prog 145 #[.pointer (some ⟨g, 0, none⟩), .slice A l.length c] w (SealsB g n w (l ++ four (sumW l))) := by
  go_enter Try.func145, Try.ntmps145
  go_wp2_with fail
  refine (Sum_at g n A c l _ hM hn hs hA (by omega)).mono ?_
  rintro e w1 ⟨rfl, hM1, hB1⟩
  have hs1 := SlB.but hs hB1 hA
  go_wp2_with fail
  refine (four_any (sumW l) _).mono ?_
  rintro e w2 ⟨A2, c2, f, rfl, hf, hs2, hb2⟩
  have hfl := Lib.hid (show f.length = 4 from by rw [hf.out, four_len])
  have hs3 := hs1.below hb2
  have hbn := below_new w2 (.cells #[.slice A l.length c, .slice A2 f.length c2] 40)
  go_wp2_with fail
  refine (Concat_any (some ⟨w2.heap.size, 0, none⟩) 2 [(A, c, l), (A2, c2, f)] _ (Sl.lits w2 [pv (A, c, l), pv (A2, c2, f)] 40 (by simp [maxLen])) ?_ ?_).mono ?_
  · intro q hq
    simp only [List.mem_cons, List.not_mem_nil, or_false] at hq
    rcases hq with rfl | rfl
    · exact hs3.below hbn
    · exact hs2.below hbn
  · have := hfl.out; simp [partsOf]; omega
  rintro e w3 ⟨A3, c3, m3, rfl, hm3, ho3, hb3⟩
  go_wp2_with fail
  go_ret
  refine ⟨A3, c3, m3, rfl, (show _ = _ from by rw [hm3.out, ← hf.out]; simp [partsOf]), ho3.more ?_, ?_, (hB1.below hb2).trans (But.of_below (hbn.trans (hb3.mono hbn.size)) (Nat.le_refl _))⟩
  · exact Nat.le_trans hB1.size (Nat.le_trans hb2.size hbn.size)
  · exact ((hM1.below hb2).below hbn).below hb3

def opened (l : List UInt8) : List UInt8 × Nat := if l.length < 4 then ([], 2) else if four (sumW (l.take (l.length - 4))) = l.drop (l.length - 4) then (l.take (l.length - 4), 0) else ([], 11)
/-- what Opened answers -/
def OpensB (g n : Nat) (w0 : World) (o : List UInt8 × Nat) (e : Ending) (w' : World) : Prop :=
  ∃ A c m, e = .returned (.tuple #[.slice A (List.length m) c, errv o.2]) ∧ Hid (m = o.1) ∧ OwnB w' w0.heap.size 5 A c m ∧ Mkr w' g ((n + 1 : Nat) : Int) ∧ But g w0 w'

set_option maxRecDepth 100000 in
set_option maxHeartbeats 1000000 in
theorem Opened_at (g n : Nat) (A : Option Addr) (c : Nat) (l : List UInt8) (w : World) (hM : Mkr w g n) (hn : n < 1000000000) (hs : SlB w A c l) (hA : l ≠ [] → A.map (·.block) ≠ some g) (hl : l.length ≤ 100000000) :
    Calls Try.prog 154 #[.pointer (some ⟨g, 0, none⟩), .slice A l.length c] w (OpensB g n w (opened l)) := by
  have hc1 := hs.2.1
  have hc2 := hs.2.2.1
  unfold maxLen at hc2
  by_cases h4 : l.length < 4
  · have ho := Lib.hid (show opened l = ([], 2) from by unfold opened; rw [if_pos h4])
    go_enter Try.func154, Try.ntmps154
    go_wp2_with fail
    refine (ask_at g n _ hM hn).mono ?_
    rintro e w1 ⟨rfl, hM1, hB1⟩
    go_wp2_with fail
    go_ret2
    exact ⟨none, 0, [], by rw [ho.out]; rfl, by rw [ho.out]; rfl, Own.none_ _ _ _ _, hM1, hB1⟩
  · obtain ⟨k, hk⟩ : ∃ k, k = l.length - 4 := ⟨_, rfl⟩
    have hki : (l.length : Int) - 4 = (k : Int) := by omega
    have hkn : ¬ ((k : Int) < 0) := by omega
    have hck : ¬ (c = k) := by omega
    have hkc : k ≤ c := by omega
    have hkl : k ≤ l.length := by omega
    have hm := Lib.hid (show opened l = if four (sumW (l.take k)) = l.drop k then (l.take k, 0) else ([], 11) from by unfold opened; rw [if_neg h4, hk])
    have hT := Sl.takeB hs k
    have hD := Sl.cutB hs hkl
    rw [if_neg hck] at hD
    have htl : (l.take k).length = k := by simp; omega
    have hdl' : (l.drop k).length = l.length - k := by simp
    have hdl : (l.drop k).length = 4 := by simp; omega
    clear hk
    have hAk : l.take k ≠ [] → A.map (·.block) ≠ some g := fun h => hA (fun e => h (by rw [e]; simp))
    have hAd : l.drop k ≠ [] → (Option.map (fun x => x.add k) A).map (·.block) ≠ some g := by
      intro h
      have := hA (fun e => h (by rw [e]; simp))
      cases A with
      | none => simp
      | some a => simpa [addr_add_block] using this
    rw [← hdl'] at hD
    generalize hl1 : l.take k = l1 at *
    generalize hl2 : l.drop k = l2 at *
    clear hl1 hl2
    subst htl
    have hsub : l.length - l1.length = l2.length := hdl'.symm
    have hd4 := Lib.hid hdl
    clear hdl hdl'
    go_enter Try.func154, Try.ntmps154
    go_wp2_with fail
    go_cut [25] (fun s25 wx => s25 = .bool (!decide (four (sumW l1) = l2)) ∧ Mkr wx g ((n + 1 : Nat) : Int) ∧ But g w wx)
    case first =>
      refine wp_region_held_drew (S := (fun _ => True)) (by kernel_rfl) ?_ (fun hHeld => ?_)
      · first | done | trivial
      refine wpAnyH_take (i := 0) (oi := ⟨some 15, _, _, _, _, _⟩) (v := ?_) rfl (by kernel_rfl) (by kernel_rfl) (by kernel_rfl) (fun _ _ _ h => h) (Or.inl ⟨by kernel_rfl, ?_⟩) (by assumption) ?_
      rotate_left
      · (intro wS hSw; (try dsimp only at hSw); go_simp; (try with_reducible rfl))
      (try simp only [Act.put, List.setIfInBounds_toArray, List.set_cons_zero, List.set_cons_succ])
      refine wpAnyH_take (i := 1) (oi := ⟨some 16, _, _, _, _, _⟩) (v := ?_) rfl (by kernel_rfl) (by kernel_rfl) (by kernel_rfl) (fun _ _ _ h => h) (Or.inl ⟨by kernel_rfl, ?_⟩) (by assumption) ?_
      rotate_left
      · (intro wS hSw; (try dsimp only at hSw); go_simp; (try with_reducible rfl))
      (try simp only [Act.put, List.setIfInBounds_toArray, List.set_cons_zero, List.set_cons_succ])
      refine wpAnyH_take (i := 2) (oi := ⟨some 17, _, _, _, _, _⟩) (v := ?_) rfl (by kernel_rfl) (by kernel_rfl) (by kernel_rfl) (fun _ _ _ h => h) (Or.inl ⟨by kernel_rfl, ?_⟩) (by assumption) ?_
      rotate_left
      · (intro wS hSw; (try dsimp only at hSw); go_simp; (try with_reducible rfl))
      (try simp only [Act.put, List.setIfInBounds_toArray, List.set_cons_zero, List.set_cons_succ])
      refine wpAnyH_take (i := 3) (oi := ⟨some 18, _, _, _, _, _⟩) (v := ?_) rfl (by kernel_rfl) (by kernel_rfl) (by kernel_rfl) (fun _ _ _ h => h) (Or.inl ⟨by kernel_rfl, ?_⟩) (by assumption) ?_
      rotate_left
      · (intro wS hSw; (try dsimp only at hSw); go_simp; (try with_reducible rfl))
      (try simp only [Act.put, List.setIfInBounds_toArray, List.set_cons_zero, List.set_cons_succ])
      refine wpAnyH_take (i := 6) (oi := ⟨some 21, _, _, _, _, _⟩) (v := ?_) rfl (by kernel_rfl) (by kernel_rfl) (by kernel_rfl) (fun _ _ _ h => h) (Or.inl ⟨by kernel_rfl, ?_⟩) (by assumption) ?_
      rotate_left
      · (intro wS hSw; (try dsimp only at hSw); go_simp; (try with_reducible rfl))
      (try simp only [Act.put, List.setIfInBounds_toArray, List.set_cons_zero, List.set_cons_succ])
      refine wpAnyH_take (i := 7) (oi := ⟨some 22, _, _, _, _, _⟩) (v := ?_) rfl (by kernel_rfl) (by kernel_rfl) (by kernel_rfl) (fun _ _ _ h => h) (Or.inl ⟨by kernel_rfl, ?_⟩) (by assumption) ?_
      rotate_left
      · (intro wS hSw; (try dsimp only at hSw); go_simp; (try with_reducible rfl))
      (try simp only [Act.put, List.setIfInBounds_toArray, List.set_cons_zero, List.set_cons_succ])
      refine wpAnyH_take (i := 8) (oi := ⟨some 23, _, _, _, _, _⟩) (v := ?_) rfl (by kernel_rfl) (by kernel_rfl) (by kernel_rfl) (fun _ _ _ h => h) (Or.inl ⟨by kernel_rfl, ?_⟩) (by assumption) ?_
      rotate_left
      · (intro wS hSw; (try dsimp only at hSw); go_simp; (try with_reducible rfl))
      (try simp only [Act.put, List.setIfInBounds_toArray, List.set_cons_zero, List.set_cons_succ])
      refine wpAnyH_ready (rs := [4]) (by kernel_rfl) (by simp) ?_
      refine AllReadyH.cons (o := ⟨some 19, _, _, _, _, _⟩) rfl (fun K hK => ?_) AllReadyH.nil
      go_simp
      (refine (Sum_at g n A c l1 _ hM.drew hn hT hAk (by omega)).mono ?_; rintro e w2 ⟨rfl, hM2, hB2⟩; replace hB2 := But.of_drew hB2)
      go_wp2_with fail
      refine hK.out _ _ ?_ (fun hHeld => ?_)
      · ((try dsimp only); (first | done | trivial))
      clear hK K
      (try simp only [Act.put, List.setIfInBounds_toArray, List.set_cons_zero, List.set_cons_succ])
      refine wpAnyH_ready (rs := [5]) (by kernel_rfl) (by simp) ?_
      refine AllReadyH.cons (o := ⟨some 20, _, _, _, _, _⟩) rfl (fun K hK => ?_) AllReadyH.nil
      go_simp
      (refine (four_any (sumW l1) _).mono ?_; rintro e w3 ⟨A3, c3, f, rfl, hf, hs3, hb3⟩)
      go_wp2_with fail
      refine hK.out _ _ ?_ (fun hHeld => ?_)
      · ((try dsimp only); (first | done | trivial))
      clear hK K
      (try simp only [Act.put, List.setIfInBounds_toArray, List.set_cons_zero, List.set_cons_succ])
      refine wpAnyH_ready (rs := [9]) (by kernel_rfl) (by simp) ?_
      refine AllReadyH.cons (o := ⟨some 24, _, _, _, _, _⟩) rfl (fun K hK => ?_) AllReadyH.nil
      go_simp
      (with_reducible refine (Equal_any A3 c3 f (Option.map (fun x => x.add l1.length) A) (c - l1.length) l2 _ hs3 ((SlB.but hD hB2 hAd).below hb3)).mono ?_; rintro e w4 ⟨rfl, hb4⟩)
      go_wp2_with fail
      refine hK.out _ _ ?_ (fun hHeld => ?_)
      · ((try dsimp only); (first | done | trivial))
      clear hK K
      (try simp only [Act.put, List.setIfInBounds_toArray, List.set_cons_zero, List.set_cons_succ])
      refine wpAnyH_take (i := 10) (oi := ⟨some 25, _, _, _, _, _⟩) (v := ?_) rfl (by kernel_rfl) (by kernel_rfl) (by kernel_rfl) (fun _ _ _ h => h) (Or.inl ⟨by kernel_rfl, ?_⟩) (by assumption) ?_
      rotate_left
      · (intro wS hSw; (try dsimp only at hSw); go_simp; (try with_reducible rfl))
      (try simp only [Act.put, List.setIfInBounds_toArray, List.set_cons_zero, List.set_cons_succ])
      refine wpAnyH_done (by kernel_rfl) ?_ _
      go_wp2_with fail
      go_meet
      exact ⟨by rw [hf.out], (hM2.below hb3).below hb4, (hB2.below hb3).below hb4⟩
    case rest =>
      obtain ⟨rfl, hM2, hB2⟩ := hcut
      by_cases he : four (sumW l1) = l2
      · have hm2 := Lib.hid (show opened l = (l1, 0) from by rw [hm.out, if_pos he])
        have hd : decide (four (sumW l1) = l2) = true := decide_eq_true he
        rw [hd]
        clear he hd hm
        have hT2 := SlB.but hT hB2 hAk
        go_wp2_with fail
        refine (clone_any A c l1 _ (by omega) hT2).mono ?_
        rintro e w5 ⟨A5, c5, m5, rfl, hm5, ho5, hb5⟩
        go_wp2_with fail
        go_ret2
        exact ⟨A5, c5, m5, by rw [hm2.out]; rfl, by rw [hm2.out]; exact hm5, ho5.more hB2.size, hM2.below hb5, hB2.below hb5⟩
      · have hm2 := Lib.hid (show opened l = ([], 11) from by rw [hm.out, if_neg he])
        have hd : decide (four (sumW l1) = l2) = false := decide_eq_false he
        rw [hd]
        clear he hd hm
        go_wp2_with fail
        go_ret2
        exact ⟨none, 0, [], by rw [hm2.out]; rfl, by rw [hm2.out]; rfl, Own.none_ _ _ _ _, hM2, hB2⟩
end Go.Proofs.Ytkkcgibmcijhaaa
