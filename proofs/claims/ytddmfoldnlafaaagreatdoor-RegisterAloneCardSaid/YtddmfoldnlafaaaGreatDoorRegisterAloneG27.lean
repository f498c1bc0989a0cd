/- WHAT IT HOLDS: the document's Take and Prefix, and lists side by side, walked. | WHAT IT HOLDS: lists of texts side by side; frame.All, walked. | WHAT IT HOLDS: the law FrameTakes, walked. | WHAT IT HOLDS: a lease's Put and Take, and the document's, walked. -/
import Derived.Test.YtddmfoldnlafaaaGreatDoorRegisterAloneG26
import Derived.Test.YtddmfoldnlafaaaGreatDoorRegisterAloneG10
namespace Go.Proofs.YtddmfoldnlafaaaGreatDoor
open Go.RowKit
attribute [local go_sem ↓] Go.wp_at_zero Go.wp_at_succ

theorem list_beq' (l m : List UInt8) : (l == m) = decide (l = m) := by
  by_cases h : l = m
  · subst h; simp
  · simp [h]
/-- what the document's Take answers -/
def RTakesF (w0 : World) (A0 : Option Addr) (o : List UInt8 × Nat × Nat) (e : Ending) (w' : World) : Prop :=
  ∃ A c m, e = .returned (.tuple #[.slice A (List.length m) c, .int .i64 (o.2.1 : Nat), .int .i64 (o.2.2 : Nat)]) ∧ Hid (m = o.1) ∧ SlB w' A c m ∧ Below w0.heap.size w0 w' ∧ (m ≠ [] → A.map (·.block) = A0.map (·.block))
theorem Sl.lt0 {w : World} {size n c : Nat} {A : Option Addr} {xs : List Value} (h : Sl w size A n c xs) (hne : xs ≠ []) : ∀ g, A.map (·.block) = some g → g < w.heap.size := by
  intro g hg
  rcases Nat.lt_or_ge g w.heap.size with h1 | h1
  · exact h1
  · exact absurd hg (Sl.old h h1 hne)

theorem shift_block (A : Option Addr) (k : Nat) : (Option.map (fun x => x.add k) A).map (·.block) = A.map (·.block) := by cases A <;> simp [addr_add_block]
set_option maxRecDepth 100000 in
set_option maxHeartbeats 2000000 in
theorem rFTake_any (A : Option Addr) (c : Nat) (l : List UInt8) (w : World) (hs : SlB w A c l) (hl : l.length ≤ 10000000) :
    Calls Tryz.prog 140 #[.slice A l.length c] w (RTakesF w A (ftake l)) := by
  have hc1 := hs.2.1
  go_enter Tryz.func140, Tryz.ntmps140
  go_wp2_with fail
  refine (rTake_any A c l _ hs).mono ?_
  rintro e w1 ⟨hb1, ⟨ht, rfl⟩ | ⟨n, k, ht, rfl⟩⟩
  · have hf := Lib.hid (ftake_none ht)
    clear ht
    go_wp2_with fail
    go_ret3
    exact ⟨none, 0, [], by rw [hf.out]; rfl, by rw [hf.out]; rfl, Sl.none_ _ _, hb1, fun h => absurd rfl h⟩
  · obtain ⟨hu, hkl, _⟩ := take_some ht
    by_cases hn : 65536 < n
    · have hf := Lib.hid (ftake_long ht hn)
      have hni : (65536 : Int) < (n : Int) := by omega
      clear ht
      go_wp2_with fail
      go_ret3
      exact ⟨none, 0, [], by rw [hf.out]; rfl, by rw [hf.out]; rfl, Sl.none_ _ _, hb1, fun h => absurd rfl h⟩
    · have hni : ¬ (65536 : Int) < (n : Int) := by omega
      have hw64 : wrap64 (n : Int) = (n : Int) := by simp only [wrap64]; omega
      obtain ⟨q, hq⟩ : ∃ q, q = k + n := ⟨_, rfl⟩
      have hqi : (k : Int) + (n : Int) = (q : Int) := by omega
      by_cases hsh : l.length < k + n + 4
      · have hf := Lib.hid (ftake_short ht hn hsh)
        have hqs : (l.length : Int) < (q : Int) + 4 := by omega
        clear ht hq
        go_wp2_with fail
        go_ret3
        exact ⟨none, 0, [], by rw [hf.out]; rfl, by rw [hf.out]; rfl, Sl.none_ _ _, hb1, fun h => absurd rfl h⟩
      · have hqs : ¬ (l.length : Int) < (q : Int) + 4 := by omega
        have hkq : k ≤ q := by omega
        have hql : q + 4 ≤ l.length := by omega
        have hf : ftake l = if four (sumW (l.take q)) = (l.drop q).take 4 then ((l.take q).drop k, q + 4, 0) else ([], 0, 11) := by
          unfold ftake; rw [ht]; dsimp only; rw [if_neg hn, if_neg hsh, hq]
        have HF := Lib.hid hf
        clear ht hq hsh hf
        have hs1 := hs.below hb1
        have hqc : ¬ (c = q) := by omega
        have hkc : ¬ (c = k) := by omega
        have hq1 : q ≤ c := by omega
        have hq2 : q + 4 ≤ c := by omega
        have hT := Sl.takeB hs1 q
        have hD := Sl.take (Sl.cutB hs1 (k := q) (by omega)) (k := 4) (by omega)
        rw [if_neg hqc, show (bvs (l.drop q)).take 4 = bvs ((l.drop q).take 4) from by simp [bvs, List.map_take, List.map_drop]] at hD
        have hl2 : ((l.drop q).take 4).length = 4 := by simp; omega
        have htl : (l.take q).length = q := by simp; omega
        have hX := Sl.cutB hT (k := k) (by omega)
        have hX0 := Sl.cutB (Sl.takeB hs q) (k := k) (by omega)
        rw [if_neg hkc, htl, show q - k = ((l.take q).drop k).length from by rw [List.length_drop, htl]] at hX hX0
        have hxl := Lib.hid (show ((l.take q).drop k).length = q - k from by rw [List.length_drop, htl])
        generalize (l.take q).drop k = xt at *
        generalize hg2 : (l.drop q).take 4 = l2 at *
        generalize hg1 : l.take q = l1 at *
        clear hg1 hg2 hs1
        rw [← hl2] at hD
        subst htl
        have H4 := Lib.hid hl2
        obtain ⟨p4, hp4⟩ : ∃ p4, p4 = l1.length + 4 := ⟨_, rfl⟩
        have hwq : IntKind.i64.wrap ((l1.length : Int) + 4) = (p4 : Int) := by rw [IntKind.wrap_i64]; omega
        have hpc : p4 ≤ c := by omega
        have hlp : l1.length ≤ p4 := by omega
        have hps : p4 - l1.length = 4 := by omega
        have HP4 := Lib.hid hp4
        clear hp4
        clear hl2
        go_wp2_with fail
        go_cut [41] (fun s41 wx => s41 = .bool (!decide (four (sumW l1) = l2)) ∧ Below w1.heap.size w1 wx)
        case first =>
          have hT' : SlB w1.drew A c l1 := hT
          refine wp_region_held_drew (S := (fun W => SlB W (Option.map (fun x => x.add l1.length) A) (c - l1.length) l2)) (by kernel_rfl) ?_ (fun hHeld => ?_)
          · first | exact hD | exact hD2
          refine wpAnyH_take (i := 0) (oi := ⟨some 29, _, _, _, _, _⟩) (v := ?_) rfl (by kernel_rfl) (by kernel_rfl) (by kernel_rfl) (fun _ _ _ h => h) (Or.inl ⟨by kernel_rfl, ?_⟩) (by assumption) ?_
          rotate_left
          · (intro wS hSw; (try dsimp only at hSw); have hcv := conv_str (P := Tryz.prog) 25 9 5 Tryz.underlying25 Tryz.underlying5 Tryz.underlying9 (n := 4) hSw H4.out.symm; go_simp; (try with_reducible rfl))
          (try simp only [Act.put, List.setIfInBounds_toArray, List.set_cons_zero, List.set_cons_succ])
          refine wpAnyH_take (i := 1) (oi := ⟨some 30, _, _, _, _, _⟩) (v := ?_) rfl (by kernel_rfl) (by kernel_rfl) (by kernel_rfl) (fun _ _ _ h => h) (Or.inl ⟨by kernel_rfl, ?_⟩) (by assumption) ?_
          rotate_left
          · (intro wS hSw; (try dsimp only at hSw); have hcv := conv_str (P := Tryz.prog) 25 9 5 Tryz.underlying25 Tryz.underlying5 Tryz.underlying9 (n := 4) hSw H4.out.symm; go_simp; (try with_reducible rfl))
          (try simp only [Act.put, List.setIfInBounds_toArray, List.set_cons_zero, List.set_cons_succ])
          refine wpAnyH_take (i := 2) (oi := ⟨some 31, _, _, _, _, _⟩) (v := ?_) rfl (by kernel_rfl) (by kernel_rfl) (by kernel_rfl) (fun _ _ _ h => h) (Or.inl ⟨by kernel_rfl, ?_⟩) (by assumption) ?_
          rotate_left
          · (intro wS hSw; (try dsimp only at hSw); have hcv := conv_str (P := Tryz.prog) 25 9 5 Tryz.underlying25 Tryz.underlying5 Tryz.underlying9 (n := 4) hSw H4.out.symm; go_simp; (try with_reducible rfl))
          (try simp only [Act.put, List.setIfInBounds_toArray, List.set_cons_zero, List.set_cons_succ])
          refine wpAnyH_take (i := 6) (oi := ⟨some 35, _, _, _, _, _⟩) (v := ?_) rfl (by kernel_rfl) (by kernel_rfl) (by kernel_rfl) (fun _ _ _ h => h) (Or.inl ⟨by kernel_rfl, ?_⟩) (by assumption) ?_
          rotate_left
          · (intro wS hSw; (try dsimp only at hSw); have hcv := conv_str (P := Tryz.prog) 25 9 5 Tryz.underlying25 Tryz.underlying5 Tryz.underlying9 (n := 4) hSw H4.out.symm; go_simp; (try with_reducible rfl))
          (try simp only [Act.put, List.setIfInBounds_toArray, List.set_cons_zero, List.set_cons_succ])
          refine wpAnyH_take (i := 7) (oi := ⟨some 36, _, _, _, _, _⟩) (v := ?_) rfl (by kernel_rfl) (by kernel_rfl) (by kernel_rfl) (fun _ _ _ h => h) (Or.inl ⟨by kernel_rfl, ?_⟩) (by assumption) ?_
          rotate_left
          · (intro wS hSw; (try dsimp only at hSw); have hcv := conv_str (P := Tryz.prog) 25 9 5 Tryz.underlying25 Tryz.underlying5 Tryz.underlying9 (n := 4) hSw H4.out.symm; go_simp; (try with_reducible rfl))
          (try simp only [Act.put, List.setIfInBounds_toArray, List.set_cons_zero, List.set_cons_succ])
          refine wpAnyH_take (i := 8) (oi := ⟨some 37, _, _, _, _, _⟩) (v := ?_) rfl (by kernel_rfl) (by kernel_rfl) (by kernel_rfl) (fun _ _ _ h => h) (Or.inl ⟨by kernel_rfl, ?_⟩) (by assumption) ?_
          rotate_left
          · (intro wS hSw; (try dsimp only at hSw); have hcv := conv_str (P := Tryz.prog) 25 9 5 Tryz.underlying25 Tryz.underlying5 Tryz.underlying9 (n := 4) hSw H4.out.symm; go_simp; (try with_reducible rfl))
          (try simp only [Act.put, List.setIfInBounds_toArray, List.set_cons_zero, List.set_cons_succ])
          refine wpAnyH_take (i := 9) (oi := ⟨some 38, _, _, _, _, _⟩) (v := ?_) rfl (by kernel_rfl) (by kernel_rfl) (by kernel_rfl) (fun _ _ _ h => h) (Or.inl ⟨by kernel_rfl, ?_⟩) (by assumption) ?_
          rotate_left
          · (intro wS hSw; (try dsimp only at hSw); have hcv := conv_str (P := Tryz.prog) 25 9 5 Tryz.underlying25 Tryz.underlying5 Tryz.underlying9 (n := 4) hSw H4.out.symm; go_simp; (try with_reducible rfl))
          (try simp only [Act.put, List.setIfInBounds_toArray, List.set_cons_zero, List.set_cons_succ])
          refine wpAnyH_take (i := 10) (oi := ⟨some 39, _, _, _, _, _⟩) (v := ?_) rfl (by kernel_rfl) (by kernel_rfl) (by kernel_rfl) (fun _ _ _ h => h) (Or.inl ⟨by kernel_rfl, ?_⟩) (by assumption) ?_
          rotate_left
          · (intro wS hSw; (try dsimp only at hSw); have hcv := conv_str (P := Tryz.prog) 25 9 5 Tryz.underlying25 Tryz.underlying5 Tryz.underlying9 (n := 4) hSw H4.out.symm; go_simp; (try with_reducible rfl))
          (try simp only [Act.put, List.setIfInBounds_toArray, List.set_cons_zero, List.set_cons_succ])
          refine wpAnyH_take (i := 11) (oi := ⟨some 40, _, _, _, _, _⟩) (v := ?_) rfl (by kernel_rfl) (by kernel_rfl) (by kernel_rfl) (fun _ _ _ h => h) (Or.inl ⟨by kernel_rfl, ?_⟩) (by assumption) ?_
          rotate_left
          · (intro wS hSw; (try dsimp only at hSw); have hcv := conv_str (P := Tryz.prog) 25 9 5 Tryz.underlying25 Tryz.underlying5 Tryz.underlying9 (n := 4) hSw H4.out.symm; go_simp; (try with_reducible rfl))
          (try simp only [Act.put, List.setIfInBounds_toArray, List.set_cons_zero, List.set_cons_succ])
          refine wpAnyH_ready (rs := [3]) (by kernel_rfl) (by simp) ?_
          refine AllReadyH.cons (o := ⟨some 32, _, _, _, _, _⟩) rfl (fun K hK => ?_) AllReadyH.nil
          go_simp
          (refine (rSum_any A c l1 _ hT' (by omega)).mono ?_; rintro e w13 ⟨rfl, rfl⟩)
          go_wp2_with fail
          refine hK.out _ _ ?_ (fun hHeld => ?_)
          · ((try dsimp only); (first | exact hD | exact hD2))
          clear hK K
          (try simp only [Act.put, List.setIfInBounds_toArray, List.set_cons_zero, List.set_cons_succ])
          refine wpAnyH_ready (rs := [4]) (by kernel_rfl) (by simp) ?_
          refine AllReadyH.cons (o := ⟨some 33, _, _, _, _, _⟩) rfl (fun K hK => ?_) AllReadyH.nil
          go_simp
          (refine (rFour_any (sumW l1) _).mono ?_; rintro e w14 ⟨A14, c14, m14, rfl, hm14, hs14, hb14⟩; have hD2 := Sl.below hD (below_of_drew hb14); have hcv := conv_str (P := Tryz.prog) 25 9 5 Tryz.underlying25 Tryz.underlying5 Tryz.underlying9 hs14 rfl)
          go_wp2_with fail
          refine hK.out _ _ ?_ (fun hHeld => ?_)
          · ((try dsimp only); (first | exact hD | exact hD2))
          clear hK K
          (try simp only [Act.put, List.setIfInBounds_toArray, List.set_cons_zero, List.set_cons_succ])
          refine wpAnyH_ready (rs := [5]) (by kernel_rfl) (by simp) ?_
          refine AllReadyH.cons (o := ⟨some 34, _, _, _, _, _⟩) rfl (fun K hK => ?_) AllReadyH.nil
          go_simp
          refine hK.out _ _ ?_ (fun hHeld => ?_)
          · ((try dsimp only); (first | exact hD | exact hD2))
          clear hK K
          (try simp only [Act.put, List.setIfInBounds_toArray, List.set_cons_zero, List.set_cons_succ])
          refine wpAnyH_take (i := 12) (oi := ⟨some 41, _, _, _, _, _⟩) (v := ?_) rfl (by kernel_rfl) (by kernel_rfl) (by kernel_rfl) (fun _ _ _ h => h) (Or.inl ⟨by kernel_rfl, ?_⟩) (by assumption) ?_
          rotate_left
          · (intro wS hSw; (try dsimp only at hSw); have hcv := conv_str (P := Tryz.prog) 25 9 5 Tryz.underlying25 Tryz.underlying5 Tryz.underlying9 (n := 4) hSw H4.out.symm; go_simp; (try with_reducible rfl))
          (try simp only [Act.put, List.setIfInBounds_toArray, List.set_cons_zero, List.set_cons_succ])
          refine wpAnyH_done (by kernel_rfl) ?_ _
          go_wp2_with fail
          go_meet
          refine ⟨?_, below_of_drew hb14⟩
          rw [← hm14.out]
          exact congrArg Value.bool (congrArg not (list_beq' m14 l2))
        case rest =>
          obtain ⟨rfl, hbc⟩ := hcut
          have hw := bel_call hb1 hbc
          have hXc := hX.below hbc
          have hlt : xt ≠ [] → (Option.map (fun x => x.add k) A).map (·.block) = A.map (·.block) := fun _ => shift_block A k
          clear hT hD hX hX0 hbc
          by_cases he : four (sumW l1) = l2
          · have hd : decide (four (sumW l1) = l2) = true := decide_eq_true he
            have hov := Lib.hid (show ftake l = (xt, p4, 0) from by rw [HF.out, if_pos he, HP4.out])
            rw [hd]
            clear HF he hd
            go_wp2_with fail
            go_ret3
            refine ⟨_, c - k, xt, ?_, by rw [hov.out]; rfl, hXc, hw, hlt⟩
            rw [hov.out, hxl.out]
            rfl
          · have hd : decide (four (sumW l1) = l2) = false := decide_eq_false he
            have hov := Lib.hid (show ftake l = ([], 0, 11) from by rw [HF.out, if_neg he])
            rw [hd]
            clear HF he hd
            go_wp2_with fail
            go_ret3
            exact ⟨none, 0, [], by rw [hov.out]; rfl, by rw [hov.out]; rfl, Sl.none_ _ _, hw, fun h => absurd rfl h⟩
/-- what the document's Prefix answers -/
def RPreB (w0 : World) (A0 : Option Addr) (o : List (List UInt8) × Nat) (bad : Nat) (e : Ending) (w' : World) : Prop :=
  ∃ A c ps, e = .returned (.tuple #[.slice A (List.length ps) c, .int .i64 (o.2 : Nat), .int .i64 (bad : Nat)]) ∧ Hid (ptx ps = o.1) ∧ SlPt w' A c ps ∧ (∀ x ∈ ps, SlB w' x.1 x.2.1 x.2.2 ∧ (x.2.2 ≠ [] → x.1.map (·.block) = A0.map (·.block))) ∧ From w0.heap.size (A.map (·.block)) ∧ Below w0.heap.size w0 w'
/-- the number of what follows the frames: 0: nothing does -/
def fbad (l : List UInt8) : Nat := if (fpre l).2 = l.length then 0 else (ftake (l.drop (fpre l).2)).2.2

theorem fpre_nil : fpre [] = ([], 0) := fpre_bad (by rw [ftake_none (by rfl)]; simp)
theorem fpre_end (n : Nat) : ∀ l : List UInt8, l.length ≤ n → (fpre l).2 ≤ l.length ∧ (ftake (l.drop (fpre l).2)).2.2 ≠ 0 := by
  induction n with
  | zero =>
    intro l hl
    have : l = [] := List.eq_nil_of_length_eq_zero (by omega)
    subst this
    rw [fpre_nil, List.drop_nil, ftake_none (by rfl)]
    simp
  | succ n ih =>
    intro l hl
    by_cases h : (ftake l).2.2 = 0
    · obtain ⟨h1, h2⟩ := ftake_ok h
      rw [fpre_ok h]
      obtain ⟨i1, i2⟩ := ih (l.drop (ftake l).2.1) (by simp; omega)
      rw [List.drop_drop] at i2
      simp only [List.length_drop] at i1
      exact ⟨by dsimp only; omega, i2⟩
    · rw [fpre_bad h]
      exact ⟨by simp, by simpa using h⟩
end Go.Proofs.YtddmfoldnlafaaaGreatDoor

namespace Go.Proofs.YtddmfoldnlafaaaGreatDoor
open Go.RowKit
attribute [local go_sem ↓] Go.wp_at_zero Go.wp_at_succ

def fall (l : List UInt8) : List (List UInt8) := if (fpre l).2 = l.length then (fpre l).1 else []
/-- what All answers -/
def AllsB (w0 : World) (o : List (List UInt8)) (bad : Nat) (e : Ending) (w' : World) : Prop :=
  ∃ A c ps, e = .returned (.tuple #[.slice A (List.length ps) c, errv bad]) ∧ Hid (ptx ps = o) ∧ SlPt w' A c ps ∧ (∀ x ∈ ps, SlB w' x.1 x.2.1 x.2.2 ∧ (x.2.2 ≠ [] → From w0.heap.size (x.1.map (·.block)))) ∧ From w0.heap.size (A.map (·.block)) ∧ Below w0.heap.size w0 w'
theorem fbad_ne {l : List UInt8} (h : (fpre l).2 ≠ l.length) : fbad l = (ftake (l.drop (fpre l).2)).2.2 ∧ fbad l ≠ 0 := by
  have h1 : fbad l = (ftake (l.drop (fpre l).2)).2.2 := by unfold fbad; rw [if_neg h]
  exact ⟨h1, by rw [h1]; exact (fpre_end _ l (Nat.le_refl _)).2⟩
end Go.Proofs.YtddmfoldnlafaaaGreatDoor

namespace Go.Proofs.YtddmfoldnlafaaaGreatDoor
open Go.RowKit
attribute [local go_sem ↓] Go.wp_at_zero Go.wp_at_succ

theorem ftake_empty {l : List UInt8} (h : (ftake l).2.2 ≠ 0) : (ftake l).1 = [] := by
  unfold ftake at h ⊢
  split at h
  · rfl
  · rename_i n k hv
    by_cases h1 : 65536 < n
    · rw [if_pos h1]
    · rw [if_neg h1] at h ⊢
      by_cases h2 : l.length < k + n + 4
      · rw [if_pos h2]
      · rw [if_neg h2] at h ⊢
        by_cases h3 : four (sumW (l.take (k + n))) = (l.drop (k + n)).take 4
        · rw [if_pos h3] at h; simp at h
        · rw [if_neg h3]
/-- bytes that can be read, each a place, a capacity, its bytes -/
structure BSt (w : World) (ls : List Pt) (W : World) : Prop where
  bel : Below w.heap.size w W
  sl : ∀ x ∈ ls, SlB W x.1 x.2.1 x.2.2
theorem BSt.at {w W : World} {ls : List Pt} (h : BSt w ls W) {A : Option Addr} {c : Nat} {l : List UInt8} (hm : (A, c, l) ∈ ls) : SlB W A c l := h.sl _ hm
theorem BSt.below {w W W' : World} {ls : List Pt} (h : BSt w ls W) (hb : Below W.heap.size W W') : BSt w ls W' := ⟨bel_call h.bel hb, fun x hx => (h.sl x hx).below hb⟩
theorem BSt.add {w W : World} {ls : List Pt} (h : BSt w ls W) {A : Option Addr} {c : Nat} {l : List UInt8} (hs : SlB W A c l) : BSt w ((A, c, l) :: ls) W := ⟨h.bel, fun x hx => by
  rw [List.mem_cons] at hx
  rcases hx with rfl | hx
  · exact hs
  · exact h.sl x hx⟩

/-- a row of bytes that can be written -/
structure Wri (w : World) (g off : Nat) (m : List UInt8) : Prop where
  blk : ∃ cur, w.heap[g]? = some (.cells cur 5)
  at_ : ∀ j (h : j < m.length), w.cell? ⟨g, off + j, none⟩ = some (bv m[j])
theorem Wri.frozen {w : World} {g off : Nat} {m : List UInt8} (h : Wri w g off m) (i : Nat) : w.frozen? ⟨g, i, none⟩ = false := by
  obtain ⟨cur, hc⟩ := h.blk
  simp [World.frozen?, hc]
theorem Wri.set {w : World} {g off : Nat} {m : List UInt8} (h : Wri w g off m) {k : Nat} (_hk : k < m.length) (x : UInt8) : Wri (w.setCell ⟨g, off + k, none⟩ (bv x)) g off (m.set k x) := by
  obtain ⟨cur, hc⟩ := h.blk
  refine ⟨⟨cur.setIfInBounds (off + k) (bv x), by simp [World.setCell, Array.getElem?_modify, hc]⟩, fun j hj => ?_⟩
  have hj2 : j < m.length := by simpa using hj
  have h1 := h.at_ j hj2
  rw [cell_of_row w g _ cur 5 (0, 0) hc] at h1
  rw [cell_of_row _ g _ (cur.setIfInBounds (off + k) (bv x)) 5 (0, 0) (by simp [World.setCell, Array.getElem?_modify, hc])]
  rw [Array.getElem?_setIfInBounds, List.getElem_set]
  by_cases e : k = j
  · subst e
    rw [if_pos rfl, if_pos rfl, if_pos (Array.getElem?_eq_some_iff.1 h1).1]
  · rw [if_neg (by omega), if_neg e]; exact h1
/-- all blocks but those between lo and hi stay -/
structure Beside (lo hi : Nat) (W W' : World) : Prop where
  size : W.heap.size ≤ W'.heap.size
  block : ∀ k, k < W.heap.size → (k < lo ∨ hi ≤ k) → W'.heap[k]? = W.heap[k]?
theorem Beside.refl (lo hi : Nat) (W : World) : Beside lo hi W W := ⟨Nat.le_refl _, fun _ _ _ => rfl⟩
theorem Beside.set {lo hi : Nat} {W W' : World} (h : Beside lo hi W W') {g i : Nat} (h1 : lo ≤ g) (h2 : g < hi) (u : Value) : Beside lo hi W (W'.setCell ⟨g, i, none⟩ u) :=
  ⟨by simpa using h.size, fun k hk hs => (Below.heap_setCell W' ⟨g, i, none⟩ u k (by show k ≠ g; omega)).trans (h.block k hk hs)⟩
theorem Beside.sl {lo hi : Nat} {W W' : World} (h : Beside lo hi W W') {size n c : Nat} {A : Option Addr} {xs : List Value} (hs : Sl W size A n c xs) (hA : xs ≠ [] → ∀ g, A.map (·.block) = some g → g < lo ∨ hi ≤ g) : Sl W' size A n c xs := by
  refine ⟨hs.1, hs.2.1, hs.2.2.1, hs.2.2.2.1, fun j u hj => ?_⟩
  obtain ⟨ad, rfl, hc⟩ := hs.2.2.2.2 j u hj
  have hne : xs ≠ [] := by intro e; rw [e] at hj; simp at hj
  refine ⟨ad, rfl, ?_⟩
  have hlt := World.block_lt_of_cell? W _ hc
  have hb := h.block _ hlt (by rw [addr_add_block]; exact hA hne _ rfl)
  rw [← hc]
  unfold World.cell?
  rw [hb]

theorem meas_one {n k : Nat} (h : k < n) : n - (intOf (.int .i64 ((k : Int) + 1))).toNat < n - (intOf (.int .i64 (k : Int))).toNat := by
  have h1 : (intOf (.int .i64 ((k : Int) + 1))).toNat = k + 1 := by show ((k : Int) + 1).toNat = k + 1; omega
  have h2 : (intOf (.int .i64 (k : Int))).toNat = k := by show (k : Int).toNat = k; omega
  rw [h1, h2]
  omega
theorem val_one (k : Nat) : Value.int .i64 ((k : Int) + 1) = .int .i64 ((k + 1 : Nat) : Int) := rfl

end Go.Proofs.YtddmfoldnlafaaaGreatDoor

namespace Go.Proofs.YtddmfoldnlafaaaGreatDoor
open Go.RowKit
attribute [local go_sem ↓] Go.wp_at_zero Go.wp_at_succ

theorem fput_ok {l t : List UInt8} (h : t.length ≤ 65536) : fput l t = (l ++ frm t, 0) := by unfold fput; rw [if_neg (by omega)]

set_option maxRecDepth 100000 in
set_option maxHeartbeats 1000000 in
theorem LPut_any (o e u : Int) (w : World) : Calls Tryz.prog 126 #[lv o e u] w (PutsB w (lput o e u)) := by
  have hB0 := Blk.new w 56 #[iv o, iv e, iv u]
  have hbw := below_new w (.cells #[iv o, iv e, iv u] 56)
  rcases errv_cases (chk o e u) with ⟨hc, he⟩ | ⟨k, hk, hc, he⟩
  · have hg := Lib.hid (show lput o e u = (frm (ltxt o e u), 0) from by unfold lput; rw [if_neg (by omega)])
    have hr := chk_ok hc
    have hlt := ltxt_len hc
    obtain ⟨⟨r1, r2⟩, ⟨r3, r4⟩, ⟨r5, r6⟩, _⟩ := hr
    obtain ⟨a, rfl⟩ : ∃ n : Nat, o = n := ⟨o.toNat, by omega⟩
    obtain ⟨b, rfl⟩ : ∃ n : Nat, e = n := ⟨e.toNat, by omega⟩
    obtain ⟨c, rfl⟩ : ∃ n : Nat, u = n := ⟨u.toNat, by omega⟩
    have ha := wrap_u64_of (k := a) (by unfold U64; omega)
    have hb := wrap_u64_of (k := b) (by unfold U64; omega)
    have hcc := wrap_u64_of (k := c) (by unfold U64; omega)
    have hall : ∀ n ∈ [a, b, c], U64 n := by
      intro n hn
      simp only [List.mem_cons, List.not_mem_nil, or_false] at hn
      unfold U64
      rcases hn with rfl | rfl | rfl <;> omega
    have HALL := Lib.hid hall
    have htx : Hid (ltxt (a : Int) b c = vbs [a, b, c]) := (show _ = _ from by unfold ltxt vbs; simp)
    have HLT := Lib.hid hlt
    clear hc hall hlt
    go_enter Tryz.func126, Tryz.ntmps126
    go_wp2_with fail
    refine (Check_any a b c _).mono ?_
    rintro r w1 ⟨rfl, hb1⟩
    rw [he]
    have hw1 := bel_call hbw hb1
    obtain ⟨a0, a1, a2, _, _, _⟩ := (hB0.below hb1).three
    clear hB0 hbw hb1 he
    go_wp2_with fail
    have hS := Sl.litsAt (w := w1) (g := w1.heap.size) rfl [nv a, nv b, nv c] 125 (by simp [maxLen])
    have hw2 := bel_alloc hw1 (.cells #[nv a, nv b, nv c] 125)
    refine (Put_any none 0 [] (some ⟨w1.heap.size, 0, none⟩) 3 [a, b, c] _ (by simp) (Sl.none_ _ _) hS (by simp) HALL.out).mono ?_
    rintro e w2 ⟨A2, c2, m2, rfl, hm2, ho2, hb2⟩
    have hml : m2.length ≤ 30 := by rw [hm2.out, List.nil_append, ← htx.out]; exact HLT.out
    go_wp2_with fail
    refine (FPut_any none 0 [] A2 c2 m2 _ (by simp) (Sl.none_ _ _) ho2.sl (by omega)).mono ?_
    rintro e w3 ⟨A3, c3, m3, rfl, hm3, ho3, hb3⟩
    have hf := Lib.hid (fput_ok (l := []) (t := m2) (by omega))
    rw [hf.out] at hm3 ⊢
    have hw3 := bel_call (bel_call hw2 hb2) hb3
    go_wp2_with fail
    go_ret2
    exact ⟨A3, c3, m3, by rw [hg.out]; rfl, (show _ = _ from by rw [hg.out, hm3.out, hm2.out, htx.out]; simp), ho3.more (Nat.le_trans (bel_call hw2 hb2).size (Nat.le_refl _)), hw3⟩
  · have hg := Lib.hid (show lput o e u = ([], chk o e u) from by unfold lput; rw [if_pos (by omega)])
    have HC := Lib.hid hc
    clear hc
    go_enter Tryz.func126, Tryz.ntmps126
    go_wp2_with fail
    refine (Check_any o e u _).mono ?_
    rintro r w1 ⟨rfl, hb1⟩
    have HE := Lib.hid he
    rw [he]
    clear he
    go_wp2_with fail
    go_ret2
    exact ⟨none, 0, [], by rw [hg.out]; dsimp only; rw [HE.out]; rfl, (show _ = _ from by rw [hg.out]), Own.none_ _ _ _ _, bel_call hbw hb1⟩

theorem wr_new {w w' : World} {g : Nat} (h : Wr w w' g) : w.heap.size ≤ w'.heap.size := h.size

set_option maxRecDepth 100000 in
set_option maxHeartbeats 1000000 in
theorem LTake_any (A : Option Addr) (c : Nat) (l : List UInt8) (w : World) (hs : SlB w A c l) (hl : l.length ≤ 10000000) :
    Calls Tryz.prog 65 #[.slice A l.length c] w (Leased (ltake l) w) := by
  have hB0 := Blk.new w 56 #[iv 0, iv 0, iv 0]
  have hbw := below_new w (.cells #[iv 0, iv 0, iv 0] 56)
  have hs0 := hs.below hbw
  rcases hf : fone l with ⟨t, bad⟩
  rcases errv_cases bad with ⟨rfl, he⟩ | ⟨k, hk, hke, he⟩
  · rcases h1 : rWithin 2 (t, 0) with ⟨o, s1⟩
    rcases h2 : rWithin 1099511627776 s1 with ⟨e, s2⟩
    rcases h3 : rWithin 1099511627776 s2 with ⟨u, s3⟩
    have hrd : lread t = ((o : Int), (e : Int), (u : Int), rEnd s3) := by unfold lread; rw [h1]; dsimp only; rw [h2]; dsimp only; rw [h3]
    have hlt : ltake l = if rEnd s3 ≠ 0 then (0, 0, 0, rEnd s3) else if chk o e u ≠ 0 then (0, 0, 0, chk o e u) else ((o : Int), (e : Int), (u : Int), 0) := by
      unfold ltake
      rw [hf]
      dsimp only
      rw [if_neg (by simp), hrd]
    have HF := Lib.hid hf
    have H1 := Lib.hid h1
    have H2 := Lib.hid h2
    have H3 := Lib.hid h3
    have HLT := Lib.hid hlt
    clear hf h1 h2 h3 hrd hlt
    go_enter Tryz.func65, Tryz.ntmps65
    go_wp2_with fail
    refine (FOne_any A c l _ hs0 hl).mono ?_
    rintro r w1 ⟨A1, c1, m1, rfl, hm1, hs1, hb1⟩
    rw [HF.out] at hm1 ⊢
    dsimp only
    rw [he]
    obtain rfl : m1 = t := hm1.out
    clear he
    have hB1 := hB0.below hb1
    have hw1 := bel_call hbw hb1
    clear hm1 hB0 hb1 hbw
    go_wp2_with fail
    refine (RNew_any A1 c1 m1 _ hs1).mono ?_
    rintro r w2 ⟨g, rfl, hg, hR, hb2⟩
    have hw2 := bel_call hw1 hb2
    have hB2 := hB1.below hb2
    have hne : w.heap.size ≠ g := by have := hB1.lt; omega
    have hwg : w.heap.size ≤ g := Nat.le_trans hw1.size hg
    clear hB1 hw1
    go_wp2_with fail
    refine (Within_any 2 hR).mono ?_
    rintro r w3 ⟨rfl, hR3, hW3⟩
    rw [H1.out] at hR3 ⊢
    dsimp only at hR3
    clear hR
    go_wp2_with fail
    refine (Within_any 1099511627776 hR3).mono ?_
    rintro r w4 ⟨rfl, hR4, hW4⟩
    rw [H2.out] at hR4 ⊢
    dsimp only at hR4
    clear hR3
    go_wp2_with fail
    refine (Within_any 1099511627776 hR4).mono ?_
    rintro r w5 ⟨rfl, hR5, hW5⟩
    rw [H3.out] at hR5 ⊢
    dsimp only at hR5
    clear hR4
    have hW := (hW3.trans hW4).trans hW5
    have hB5 := hB2.wr hW hne
    have hw5 := hw2.trans (hW.below hw2.size hwg)
    go_wp2_with fail
    have hbn := below_new w5 (.cells #[iv o, iv e, iv u] 56)
    have hR6 := hR5.below hbn
    have hB6 := hB5.below hbn
    have hL6 := Blk.new w5 56 #[iv o, iv e, iv u]
    have hw6 := bel_call hw5 hbn
    clear hR5 hB5 hW hW3 hW4 hW5 hb2 hs1 hs0 hw2 hB2 hbn
    refine (End_any hR6).mono ?_
    rintro r w6 ⟨rfl, rfl⟩
    obtain ⟨a0, a1, a2, _, _, _⟩ := hL6.three
    obtain ⟨z0, z1, z2, zf0, zf1, zf2⟩ := hB6.three
    clear hR6
    rcases errv_cases (rEnd s3) with ⟨h0, hev⟩ | ⟨k, hk, hke, hev⟩
    · have HL2 : Hid (ltake l = if chk o e u ≠ 0 then (0, 0, 0, chk o e u) else ((o : Int), (e : Int), (u : Int), 0)) := (show _ = _ from by rw [HLT.out, if_neg (by omega)])
      rw [hev]
      clear hev h0 HLT
      go_wp2_with fail
      refine (Check_any o e u _).mono ?_
      rintro r w7 ⟨rfl, hb7⟩
      have hL7 := hL6.below hb7
      have hB7 := hB6.below hb7
      have hw7 := bel_call hw6 hb7
      obtain ⟨a0, a1, a2, _, _, _⟩ := hL7.three
      obtain ⟨z0, z1, z2, zf0, zf1, zf2⟩ := hB7.three
      clear hL6 hB6 hw6 hb7
      rcases errv_cases (chk o e u) with ⟨h0, hev⟩ | ⟨k, hk, hke, hev⟩
      · have HL3 : Hid (ltake l = ((o : Int), (e : Int), (u : Int), 0)) := (show _ = _ from by rw [HL2.out, if_neg (by omega)])
        rw [hev]
        clear hev h0 HL2
        go_wp2_with fail
        refine bodyPost_ret (res_lease rfl rfl (g := w.heap.size) (hB7.set3 _ _ _)) rfl ⟨by rw [HL3.out]; rfl, below_three hw7 (Nat.le_refl _) _ _ _⟩
      · have HL3 : Hid (ltake l = (0, 0, 0, chk o e u)) := (show _ = _ from by rw [HL2.out, if_pos (by omega)])
        have HEV := Lib.hid hev
        rw [hev]
        clear hev hke HL2
        go_wp2_with fail
        refine bodyPost_ret (res_lease rfl rfl (g := w.heap.size) (hB7.set3 _ _ _)) rfl ⟨by rw [HL3.out]; dsimp only; rw [HEV.out]; rfl, below_three hw7 (Nat.le_refl _) _ _ _⟩
    · have HL3 : Hid (ltake l = (0, 0, 0, rEnd s3)) := (show _ = _ from by rw [HLT.out, if_pos (by omega)])
      have HEV := Lib.hid hev
      rw [hev]
      clear hev hke HLT
      go_wp2_with fail
      refine bodyPost_ret (res_lease rfl rfl (g := w.heap.size) (hB6.set3 _ _ _)) rfl ⟨by rw [HL3.out]; dsimp only; rw [HEV.out]; rfl, below_three hw6 (Nat.le_refl _) _ _ _⟩
  · have HL3 : Hid (ltake l = (0, 0, 0, bad)) := (show _ = _ from by unfold ltake; rw [hf]; dsimp only; rw [if_pos (by omega)])
    have HF := Lib.hid hf
    have HEV := Lib.hid he
    clear hf hke he
    go_enter Tryz.func65, Tryz.ntmps65
    go_wp2_with fail
    refine (FOne_any A c l _ hs0 hl).mono ?_
    rintro r w1 ⟨A1, c1, m1, rfl, hm1, hs1, hb1⟩
    rw [HF.out] at hm1 ⊢
    dsimp only
    rw [HEV.out]
    have hB1 := hB0.below hb1
    have hw1 := bel_call hbw hb1
    obtain ⟨z0, z1, z2, zf0, zf1, zf2⟩ := hB1.three
    clear hm1 hB0 hb1 hbw
    go_wp2_with fail
    refine bodyPost_ret (res_lease rfl rfl (g := w.heap.size) (hB1.set3 _ _ _)) rfl ⟨by rw [HL3.out]; dsimp only; rw [HEV.out]; rfl, below_three hw1 (Nat.le_refl _) _ _ _⟩
end Go.Proofs.YtddmfoldnlafaaaGreatDoor
