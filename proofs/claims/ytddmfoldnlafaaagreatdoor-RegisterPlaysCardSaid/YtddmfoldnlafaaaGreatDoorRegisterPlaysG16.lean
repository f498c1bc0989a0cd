/- WHAT IT HOLDS: the document's Take and Prefix, and lists side by side, walked. | WHAT IT HOLDS: lists of texts side by side; frame.All, walked. | WHAT IT HOLDS: the law FrameTakes, walked. | WHAT IT HOLDS: a lease's Put and Take, and the document's, walked. | WHAT IT HOLDS: a register in memory; what opening, keeping, acquiring and giving up leave, plainly. | WHAT IT HOLDS: a register between two calls, plainly: what is kept is what is read when it is opened anew. | WHAT IT HOLDS: a register opened; its lease kept, acquired, given up: walked. | WHAT IT HOLDS: a register's lease kept, acquired, given up, told: walked. -/
import Derived.Test.YtddmfoldnlafaaaGreatDoorRegisterPlaysG15
import Derived.Test.YtddmfoldnlafaaaGreatDoorRegisterPlaysG07
import Derived.Test.YtddmfoldnlafaaaGreatDoorRegisterPlaysG12
import Derived.Laws.LoneSync
import Derived.LaidEql
import Derived.Test.YtddmfoldnlafaaaGreatDoorRegisterPlaysG04
namespace Go.Proofs.YtddmfoldnlafaaaGreatDoor
open Go.RowKit
attribute [local go_sem ↓] Go.wp_at_zero Go.wp_at_succ

theorem list_beq' (l m : List UInt8) : (l == m) = decide (l = m) := by
  by_cases h : l = m
  · subst h; simp
  · simp [h]
/-- what the document's Take answers -/
def RTakesF (w0 : World) (A0 : Option Addr) (o : List UInt8 × Nat × Nat) (e : Ending) (w' : World) : Prop :=
  ∃ A c m, e = .returned (.tuple #[.slice A (List.length m) c, .int .i64 (o.2.1 : Nat), .int .i64 (o.2.2 : Nat)]) ∧ Hid (m = o.1) ∧ SlB w' A c m ∧ Below w0.heap.size w0 w' ∧ (m ≠ [] → A.map (·.block) = A0.map (·.block))
theorem Sl.lt0 {w : World} {size n c : Nat} {A : Option Addr} {xs : List Value} (h : Sl w size A n c xs) (hne : xs ≠ []) : ∀ g, A.map (·.block) = some g → g < w.heap.size := by
  intro g hg
  rcases Nat.lt_or_ge g w.heap.size with h1 | h1
  · exact h1
  · exact absurd hg (Sl.old h h1 hne)

theorem shift_block (A : Option Addr) (k : Nat) : (Option.map (fun x => x.add k) A).map (·.block) = A.map (·.block) := by cases A <;> simp [addr_add_block]
set_option maxRecDepth 100000 in
set_option maxHeartbeats 2000000 in
theorem rFTake_any (A : Option Addr) (c : Nat) (l : List UInt8) (w : World) (hs : SlB w A c l) (hl : l.length ≤ 10000000) :
    Calls Tryz.prog 140 #[.slice A l.length c] w (RTakesF w A (ftake l)) := by
  have hc1 := hs.2.1
  go_enter Tryz.func140, Tryz.ntmps140
  go_wp2_with fail
  refine (rTake_any A c l _ hs).mono ?_
  rintro e w1 ⟨hb1, ⟨ht, rfl⟩ | ⟨n, k, ht, rfl⟩⟩
  · have hf := Lib.hid (ftake_none ht)
    clear ht
    go_wp2_with fail
    go_ret3
    exact ⟨none, 0, [], by rw [hf.out]; rfl, by rw [hf.out]; rfl, Sl.none_ _ _, hb1, fun h => absurd rfl h⟩
  · obtain ⟨hu, hkl, _⟩ := take_some ht
    by_cases hn : 65536 < n
    · have hf := Lib.hid (ftake_long ht hn)
      have hni : (65536 : Int) < (n : Int) := by omega
      clear ht
      go_wp2_with fail
      go_ret3
      exact ⟨none, 0, [], by rw [hf.out]; rfl, by rw [hf.out]; rfl, Sl.none_ _ _, hb1, fun h => absurd rfl h⟩
    · have hni : ¬ (65536 : Int) < (n : Int) := by omega
      have hw64 : wrap64 (n : Int) = (n : Int) := by simp only [wrap64]; omega
      obtain ⟨q, hq⟩ : ∃ q, q = k + n := ⟨_, rfl⟩
      have hqi : (k : Int) + (n : Int) = (q : Int) := by omega
      by_cases hsh : l.length < k + n + 4
      · have hf := Lib.hid (ftake_short ht hn hsh)
        have hqs : (l.length : Int) < (q : Int) + 4 := by omega
        clear ht hq
        go_wp2_with fail
        go_ret3
        exact ⟨none, 0, [], by rw [hf.out]; rfl, by rw [hf.out]; rfl, Sl.none_ _ _, hb1, fun h => absurd rfl h⟩
      · have hqs : ¬ (l.length : Int) < (q : Int) + 4 := by omega
        have hkq : k ≤ q := by omega
        have hql : q + 4 ≤ l.length := by omega
        have hf : ftake l = if four (sumW (l.take q)) = (l.drop q).take 4 then ((l.take q).drop k, q + 4, 0) else ([], 0, 11) := by
          unfold ftake; rw [ht]; dsimp only; rw [if_neg hn, if_neg hsh, hq]
        have HF := Lib.hid hf
        clear ht hq hsh hf
        have hs1 := hs.below hb1
        have hqc : ¬ (c = q) := by omega
        have hkc : ¬ (c = k) := by omega
        have hq1 : q ≤ c := by omega
        have hq2 : q + 4 ≤ c := by omega
        have hT := Sl.takeB hs1 q
        have hD := Sl.take (Sl.cutB hs1 (k := q) (by omega)) (k := 4) (by omega)
        rw [if_neg hqc, show (bvs (l.drop q)).take 4 = bvs ((l.drop q).take 4) from by simp [bvs, List.map_take, List.map_drop]] at hD
        have hl2 : ((l.drop q).take 4).length = 4 := by simp; omega
        have htl : (l.take q).length = q := by simp; omega
        have hX := Sl.cutB hT (k := k) (by omega)
        have hX0 := Sl.cutB (Sl.takeB hs q) (k := k) (by omega)
        rw [if_neg hkc, htl, show q - k = ((l.take q).drop k).length from by rw [List.length_drop, htl]] at hX hX0
        have hxl := Lib.hid (show ((l.take q).drop k).length = q - k from by rw [List.length_drop, htl])
        generalize (l.take q).drop k = xt at *
        generalize hg2 : (l.drop q).take 4 = l2 at *
        generalize hg1 : l.take q = l1 at *
        clear hg1 hg2 hs1
        rw [← hl2] at hD
        subst htl
        have H4 := Lib.hid hl2
        obtain ⟨p4, hp4⟩ : ∃ p4, p4 = l1.length + 4 := ⟨_, rfl⟩
        have hwq : IntKind.i64.wrap ((l1.length : Int) + 4) = (p4 : Int) := by rw [IntKind.wrap_i64]; omega
        have hpc : p4 ≤ c := by omega
        have hlp : l1.length ≤ p4 := by omega
        have hps : p4 - l1.length = 4 := by omega
        have HP4 := Lib.hid hp4
        clear hp4
        clear hl2
        go_wp2_with fail
        go_cut [41] (fun s41 wx => s41 = .bool (!decide (four (sumW l1) = l2)) ∧ Below w1.heap.size w1 wx)
        case first =>
          have hT' : SlB w1.drew A c l1 := hT
          refine wp_region_held_drew (S := (fun W => SlB W (Option.map (fun x => x.add l1.length) A) (c - l1.length) l2)) (by kernel_rfl) ?_ (fun hHeld => ?_)
          · first | exact hD | exact hD2
          refine wpAnyH_take (i := 0) (oi := ⟨some 29, _, _, _, _, _⟩) (v := ?_) rfl (by kernel_rfl) (by kernel_rfl) (by kernel_rfl) (fun _ _ _ h => h) (Or.inl ⟨by kernel_rfl, ?_⟩) (by assumption) ?_
          rotate_left
          · (intro wS hSw; (try dsimp only at hSw); have hcv := conv_str (P := Tryz.prog) 25 9 5 Tryz.underlying25 Tryz.underlying5 Tryz.underlying9 (n := 4) hSw H4.out.symm; go_simp; (try with_reducible rfl))
          (try simp only [Act.put, List.setIfInBounds_toArray, List.set_cons_zero, List.set_cons_succ])
          refine wpAnyH_take (i := 1) (oi := ⟨some 30, _, _, _, _, _⟩) (v := ?_) rfl (by kernel_rfl) (by kernel_rfl) (by kernel_rfl) (fun _ _ _ h => h) (Or.inl ⟨by kernel_rfl, ?_⟩) (by assumption) ?_
          rotate_left
          · (intro wS hSw; (try dsimp only at hSw); have hcv := conv_str (P := Tryz.prog) 25 9 5 Tryz.underlying25 Tryz.underlying5 Tryz.underlying9 (n := 4) hSw H4.out.symm; go_simp; (try with_reducible rfl))
          (try simp only [Act.put, List.setIfInBounds_toArray, List.set_cons_zero, List.set_cons_succ])
          refine wpAnyH_take (i := 2) (oi := ⟨some 31, _, _, _, _, _⟩) (v := ?_) rfl (by kernel_rfl) (by kernel_rfl) (by kernel_rfl) (fun _ _ _ h => h) (Or.inl ⟨by kernel_rfl, ?_⟩) (by assumption) ?_
          rotate_left
          · (intro wS hSw; (try dsimp only at hSw); have hcv := conv_str (P := Tryz.prog) 25 9 5 Tryz.underlying25 Tryz.underlying5 Tryz.underlying9 (n := 4) hSw H4.out.symm; go_simp; (try with_reducible rfl))
          (try simp only [Act.put, List.setIfInBounds_toArray, List.set_cons_zero, List.set_cons_succ])
          refine wpAnyH_take (i := 6) (oi := ⟨some 35, _, _, _, _, _⟩) (v := ?_) rfl (by kernel_rfl) (by kernel_rfl) (by kernel_rfl) (fun _ _ _ h => h) (Or.inl ⟨by kernel_rfl, ?_⟩) (by assumption) ?_
          rotate_left
          · (intro wS hSw; (try dsimp only at hSw); have hcv := conv_str (P := Tryz.prog) 25 9 5 Tryz.underlying25 Tryz.underlying5 Tryz.underlying9 (n := 4) hSw H4.out.symm; go_simp; (try with_reducible rfl))
          (try simp only [Act.put, List.setIfInBounds_toArray, List.set_cons_zero, List.set_cons_succ])
          refine wpAnyH_take (i := 7) (oi := ⟨some 36, _, _, _, _, _⟩) (v := ?_) rfl (by kernel_rfl) (by kernel_rfl) (by kernel_rfl) (fun _ _ _ h => h) (Or.inl ⟨by kernel_rfl, ?_⟩) (by assumption) ?_
          rotate_left
          · (intro wS hSw; (try dsimp only at hSw); have hcv := conv_str (P := Tryz.prog) 25 9 5 Tryz.underlying25 Tryz.underlying5 Tryz.underlying9 (n := 4) hSw H4.out.symm; go_simp; (try with_reducible rfl))
          (try simp only [Act.put, List.setIfInBounds_toArray, List.set_cons_zero, List.set_cons_succ])
          refine wpAnyH_take (i := 8) (oi := ⟨some 37, _, _, _, _, _⟩) (v := ?_) rfl (by kernel_rfl) (by kernel_rfl) (by kernel_rfl) (fun _ _ _ h => h) (Or.inl ⟨by kernel_rfl, ?_⟩) (by assumption) ?_
          rotate_left
          · (intro wS hSw; (try dsimp only at hSw); have hcv := conv_str (P := Tryz.prog) 25 9 5 Tryz.underlying25 Tryz.underlying5 Tryz.underlying9 (n := 4) hSw H4.out.symm; go_simp; (try with_reducible rfl))
          (try simp only [Act.put, List.setIfInBounds_toArray, List.set_cons_zero, List.set_cons_succ])
          refine wpAnyH_take (i := 9) (oi := ⟨some 38, _, _, _, _, _⟩) (v := ?_) rfl (by kernel_rfl) (by kernel_rfl) (by kernel_rfl) (fun _ _ _ h => h) (Or.inl ⟨by kernel_rfl, ?_⟩) (by assumption) ?_
          rotate_left
          · (intro wS hSw; (try dsimp only at hSw); have hcv := conv_str (P := Tryz.prog) 25 9 5 Tryz.underlying25 Tryz.underlying5 Tryz.underlying9 (n := 4) hSw H4.out.symm; go_simp; (try with_reducible rfl))
          (try simp only [Act.put, List.setIfInBounds_toArray, List.set_cons_zero, List.set_cons_succ])
          refine wpAnyH_take (i := 10) (oi := ⟨some 39, _, _, _, _, _⟩) (v := ?_) rfl (by kernel_rfl) (by kernel_rfl) (by kernel_rfl) (fun _ _ _ h => h) (Or.inl ⟨by kernel_rfl, ?_⟩) (by assumption) ?_
          rotate_left
          · (intro wS hSw; (try dsimp only at hSw); have hcv := conv_str (P := Tryz.prog) 25 9 5 Tryz.underlying25 Tryz.underlying5 Tryz.underlying9 (n := 4) hSw H4.out.symm; go_simp; (try with_reducible rfl))
          (try simp only [Act.put, List.setIfInBounds_toArray, List.set_cons_zero, List.set_cons_succ])
          refine wpAnyH_take (i := 11) (oi := ⟨some 40, _, _, _, _, _⟩) (v := ?_) rfl (by kernel_rfl) (by kernel_rfl) (by kernel_rfl) (fun _ _ _ h => h) (Or.inl ⟨by kernel_rfl, ?_⟩) (by assumption) ?_
          rotate_left
          · (intro wS hSw; (try dsimp only at hSw); have hcv := conv_str (P := Tryz.prog) 25 9 5 Tryz.underlying25 Tryz.underlying5 Tryz.underlying9 (n := 4) hSw H4.out.symm; go_simp; (try with_reducible rfl))
          (try simp only [Act.put, List.setIfInBounds_toArray, List.set_cons_zero, List.set_cons_succ])
          refine wpAnyH_ready (rs := [3]) (by kernel_rfl) (by simp) ?_
          refine AllReadyH.cons (o := ⟨some 32, _, _, _, _, _⟩) rfl (fun K hK => ?_) AllReadyH.nil
          go_simp
          (refine (rSum_any A c l1 _ hT' (by omega)).mono ?_; rintro e w13 ⟨rfl, rfl⟩)
          go_wp2_with fail
          refine hK.out _ _ ?_ (fun hHeld => ?_)
          · ((try dsimp only); (exact hD))
          clear hK K
          (try simp only [Act.put, List.setIfInBounds_toArray, List.set_cons_zero, List.set_cons_succ])
          refine wpAnyH_ready (rs := [4]) (by kernel_rfl) (by simp) ?_
          refine AllReadyH.cons (o := ⟨some 33, _, _, _, _, _⟩) rfl (fun K hK => ?_) AllReadyH.nil
          go_simp
          (refine (rFour_any (sumW l1) _).mono ?_; rintro e w14 ⟨A14, c14, m14, rfl, hm14, hs14, hb14⟩; have hD2 := Sl.below hD (below_of_drew hb14); have hcv := conv_str (P := Tryz.prog) 25 9 5 Tryz.underlying25 Tryz.underlying5 Tryz.underlying9 hs14 rfl)
          go_wp2_with fail
          refine hK.out _ _ ?_ (fun hHeld => ?_)
          · ((try dsimp only); (exact hD2))
          clear hK K
          (try simp only [Act.put, List.setIfInBounds_toArray, List.set_cons_zero, List.set_cons_succ])
          refine wpAnyH_ready (rs := [5]) (by kernel_rfl) (by simp) ?_
          refine AllReadyH.cons (o := ⟨some 34, _, _, _, _, _⟩) rfl (fun K hK => ?_) AllReadyH.nil
          go_simp
          refine hK.out _ _ ?_ (fun hHeld => ?_)
          · ((try dsimp only); (exact hD2))
          clear hK K
          (try simp only [Act.put, List.setIfInBounds_toArray, List.set_cons_zero, List.set_cons_succ])
          refine wpAnyH_take (i := 12) (oi := ⟨some 41, _, _, _, _, _⟩) (v := ?_) rfl (by kernel_rfl) (by kernel_rfl) (by kernel_rfl) (fun _ _ _ h => h) (Or.inl ⟨by kernel_rfl, ?_⟩) (by assumption) ?_
          rotate_left
          · (intro wS hSw; (try dsimp only at hSw); have hcv := conv_str (P := Tryz.prog) 25 9 5 Tryz.underlying25 Tryz.underlying5 Tryz.underlying9 (n := 4) hSw H4.out.symm; go_simp; (try with_reducible rfl))
          (try simp only [Act.put, List.setIfInBounds_toArray, List.set_cons_zero, List.set_cons_succ])
          refine wpAnyH_done (by kernel_rfl) ?_ _
          go_wp2_with fail
          go_meet
          refine ⟨?_, below_of_drew hb14⟩
          rw [← hm14.out]
          exact congrArg Value.bool (congrArg not (list_beq' m14 l2))
        case rest =>
          obtain ⟨rfl, hbc⟩ := hcut
          have hw := bel_call hb1 hbc
          have hXc := hX.below hbc
          have hlt : xt ≠ [] → (Option.map (fun x => x.add k) A).map (·.block) = A.map (·.block) := fun _ => shift_block A k
          clear hT hD hX hX0 hbc
          by_cases he : four (sumW l1) = l2
          · have hd : decide (four (sumW l1) = l2) = true := decide_eq_true he
            have hov := Lib.hid (show ftake l = (xt, p4, 0) from by rw [HF.out, if_pos he, HP4.out])
            rw [hd]
            clear HF he hd
            go_wp2_with fail
            go_ret3
            refine ⟨_, c - k, xt, ?_, by rw [hov.out]; rfl, hXc, hw, hlt⟩
            rw [hov.out, hxl.out]
            rfl
          · have hd : decide (four (sumW l1) = l2) = false := decide_eq_false he
            have hov := Lib.hid (show ftake l = ([], 0, 11) from by rw [HF.out, if_neg he])
            rw [hd]
            clear HF he hd
            go_wp2_with fail
            go_ret3
            exact ⟨none, 0, [], by rw [hov.out]; rfl, by rw [hov.out]; rfl, Sl.none_ _ _, hw, fun h => absurd rfl h⟩
end Go.Proofs.YtddmfoldnlafaaaGreatDoor

namespace Go.Proofs.YtddmfoldnlafaaaGreatDoor
open Go.RowKit
attribute [local go_sem ↓] Go.wp_at_zero Go.wp_at_succ

end Go.Proofs.YtddmfoldnlafaaaGreatDoor

namespace Go.Proofs.YtddmfoldnlafaaaGreatDoor
open Go.RowKit
attribute [local go_sem ↓] Go.wp_at_zero Go.wp_at_succ

end Go.Proofs.YtddmfoldnlafaaaGreatDoor

namespace Go.Proofs.YtddmfoldnlafaaaGreatDoor
open Go.RowKit
attribute [local go_sem ↓] Go.wp_at_zero Go.wp_at_succ

theorem fput_ok {l t : List UInt8} (h : t.length ≤ 65536) : fput l t = (l ++ frm t, 0) := by unfold fput; rw [if_neg (by omega)]

set_option maxRecDepth 100000 in
set_option maxHeartbeats 1000000 in
theorem LPut_any (o e u : Int) (w : World) : Calls Tryz.prog 126 #[lv o e u] w (PutsB w (lput o e u)) := by
  have hB0 := Blk.new w 56 #[iv o, iv e, iv u]
  have hbw := below_new w (.cells #[iv o, iv e, iv u] 56)
  rcases errv_cases (chk o e u) with ⟨hc, he⟩ | ⟨k, hk, hc, he⟩
  · have hg := Lib.hid (show lput o e u = (frm (ltxt o e u), 0) from by unfold lput; rw [if_neg (by omega)])
    have hr := chk_ok hc
    have hlt := ltxt_len hc
    obtain ⟨⟨r1, r2⟩, ⟨r3, r4⟩, ⟨r5, r6⟩, _⟩ := hr
    obtain ⟨a, rfl⟩ : ∃ n : Nat, o = n := ⟨o.toNat, by omega⟩
    obtain ⟨b, rfl⟩ : ∃ n : Nat, e = n := ⟨e.toNat, by omega⟩
    obtain ⟨c, rfl⟩ : ∃ n : Nat, u = n := ⟨u.toNat, by omega⟩
    have ha := wrap_u64_of (k := a) (by unfold U64; omega)
    have hb := wrap_u64_of (k := b) (by unfold U64; omega)
    have hcc := wrap_u64_of (k := c) (by unfold U64; omega)
    have hall : ∀ n ∈ [a, b, c], U64 n := by
      intro n hn
      simp only [List.mem_cons, List.not_mem_nil, or_false] at hn
      unfold U64
      rcases hn with rfl | rfl | rfl <;> omega
    have HALL := Lib.hid hall
    have htx : Hid (ltxt (a : Int) b c = vbs [a, b, c]) := (show _ = _ from by unfold ltxt vbs; simp)
    have HLT := Lib.hid hlt
    clear hc hall hlt
    go_enter Tryz.func126, Tryz.ntmps126
    go_wp2_with fail
    refine (Check_any a b c _).mono ?_
    rintro r w1 ⟨rfl, hb1⟩
    rw [he]
    have hw1 := bel_call hbw hb1
    obtain ⟨a0, a1, a2, _, _, _⟩ := (hB0.below hb1).three
    clear hB0 hbw hb1 he
    go_wp2_with fail
    have hS := Sl.litsAt (w := w1) (g := w1.heap.size) rfl [nv a, nv b, nv c] 125 (by simp [maxLen])
    have hw2 := bel_alloc hw1 (.cells #[nv a, nv b, nv c] 125)
    refine (Put_any none 0 [] (some ⟨w1.heap.size, 0, none⟩) 3 [a, b, c] _ (by simp) (Sl.none_ _ _) hS (by simp) HALL.out).mono ?_
    rintro e w2 ⟨A2, c2, m2, rfl, hm2, ho2, hb2⟩
    have hml : m2.length ≤ 30 := by rw [hm2.out, List.nil_append, ← htx.out]; exact HLT.out
    go_wp2_with fail
    refine (FPut_any none 0 [] A2 c2 m2 _ (by simp) (Sl.none_ _ _) ho2.sl (by omega)).mono ?_
    rintro e w3 ⟨A3, c3, m3, rfl, hm3, ho3, hb3⟩
    have hf := Lib.hid (fput_ok (l := []) (t := m2) (by omega))
    rw [hf.out] at hm3 ⊢
    have hw3 := bel_call (bel_call hw2 hb2) hb3
    go_wp2_with fail
    go_ret2
    exact ⟨A3, c3, m3, by rw [hg.out]; rfl, (show _ = _ from by rw [hg.out, hm3.out, hm2.out, htx.out]; simp), ho3.more (Nat.le_trans (bel_call hw2 hb2).size (Nat.le_refl _)), hw3⟩
  · have hg := Lib.hid (show lput o e u = ([], chk o e u) from by unfold lput; rw [if_pos (by omega)])
    have HC := Lib.hid hc
    clear hc
    go_enter Tryz.func126, Tryz.ntmps126
    go_wp2_with fail
    refine (Check_any o e u _).mono ?_
    rintro r w1 ⟨rfl, hb1⟩
    have HE := Lib.hid he
    rw [he]
    clear he
    go_wp2_with fail
    go_ret2
    exact ⟨none, 0, [], by rw [hg.out]; dsimp only; rw [HE.out]; rfl, (show _ = _ from by rw [hg.out]), Own.none_ _ _ _ _, bel_call hbw hb1⟩

set_option maxRecDepth 100000 in
set_option maxHeartbeats 1000000 in
theorem LTake_any (A : Option Addr) (c : Nat) (l : List UInt8) (w : World) (hs : SlB w A c l) (hl : l.length ≤ 10000000) :
    Calls Tryz.prog 65 #[.slice A l.length c] w (Leased (ltake l) w) := by
  have hB0 := Blk.new w 56 #[iv 0, iv 0, iv 0]
  have hbw := below_new w (.cells #[iv 0, iv 0, iv 0] 56)
  have hs0 := hs.below hbw
  rcases hf : fone l with ⟨t, bad⟩
  rcases errv_cases bad with ⟨rfl, he⟩ | ⟨k, hk, hke, he⟩
  · rcases h1 : rWithin 2 (t, 0) with ⟨o, s1⟩
    rcases h2 : rWithin 1099511627776 s1 with ⟨e, s2⟩
    rcases h3 : rWithin 1099511627776 s2 with ⟨u, s3⟩
    have hrd : lread t = ((o : Int), (e : Int), (u : Int), rEnd s3) := by unfold lread; rw [h1]; dsimp only; rw [h2]; dsimp only; rw [h3]
    have hlt : ltake l = if rEnd s3 ≠ 0 then (0, 0, 0, rEnd s3) else if chk o e u ≠ 0 then (0, 0, 0, chk o e u) else ((o : Int), (e : Int), (u : Int), 0) := by
      unfold ltake
      rw [hf]
      dsimp only
      rw [if_neg (by simp), hrd]
    have HF := Lib.hid hf
    have H1 := Lib.hid h1
    have H2 := Lib.hid h2
    have H3 := Lib.hid h3
    have HLT := Lib.hid hlt
    clear hf h1 h2 h3 hrd hlt
    go_enter Tryz.func65, Tryz.ntmps65
    go_wp2_with fail
    refine (FOne_any A c l _ hs0 hl).mono ?_
    rintro r w1 ⟨A1, c1, m1, rfl, hm1, hs1, hb1⟩
    rw [HF.out] at hm1 ⊢
    dsimp only
    rw [he]
    obtain rfl : m1 = t := hm1.out
    clear he
    have hB1 := hB0.below hb1
    have hw1 := bel_call hbw hb1
    clear hm1 hB0 hb1 hbw
    go_wp2_with fail
    refine (RNew_any A1 c1 m1 _ hs1).mono ?_
    rintro r w2 ⟨g, rfl, hg, hR, hb2⟩
    have hw2 := bel_call hw1 hb2
    have hB2 := hB1.below hb2
    have hne : w.heap.size ≠ g := by have := hB1.lt; omega
    have hwg : w.heap.size ≤ g := Nat.le_trans hw1.size hg
    clear hB1 hw1
    go_wp2_with fail
    refine (Within_any 2 hR).mono ?_
    rintro r w3 ⟨rfl, hR3, hW3⟩
    rw [H1.out] at hR3 ⊢
    dsimp only at hR3
    clear hR
    go_wp2_with fail
    refine (Within_any 1099511627776 hR3).mono ?_
    rintro r w4 ⟨rfl, hR4, hW4⟩
    rw [H2.out] at hR4 ⊢
    dsimp only at hR4
    clear hR3
    go_wp2_with fail
    refine (Within_any 1099511627776 hR4).mono ?_
    rintro r w5 ⟨rfl, hR5, hW5⟩
    rw [H3.out] at hR5 ⊢
    dsimp only at hR5
    clear hR4
    have hW := (hW3.trans hW4).trans hW5
    have hB5 := hB2.wr hW hne
    have hw5 := hw2.trans (hW.below hw2.size hwg)
    go_wp2_with fail
    have hbn := below_new w5 (.cells #[iv o, iv e, iv u] 56)
    have hR6 := hR5.below hbn
    have hB6 := hB5.below hbn
    have hL6 := Blk.new w5 56 #[iv o, iv e, iv u]
    have hw6 := bel_call hw5 hbn
    clear hR5 hB5 hW hW3 hW4 hW5 hb2 hs1 hs0 hw2 hB2 hbn
    refine (End_any hR6).mono ?_
    rintro r w6 ⟨rfl, rfl⟩
    obtain ⟨a0, a1, a2, _, _, _⟩ := hL6.three
    obtain ⟨z0, z1, z2, zf0, zf1, zf2⟩ := hB6.three
    clear hR6
    rcases errv_cases (rEnd s3) with ⟨h0, hev⟩ | ⟨k, hk, hke, hev⟩
    · have HL2 : Hid (ltake l = if chk o e u ≠ 0 then (0, 0, 0, chk o e u) else ((o : Int), (e : Int), (u : Int), 0)) := (show _ = _ from by rw [HLT.out, if_neg (by omega)])
      rw [hev]
      clear hev h0 HLT
      go_wp2_with fail
      refine (Check_any o e u _).mono ?_
      rintro r w7 ⟨rfl, hb7⟩
      have hL7 := hL6.below hb7
      have hB7 := hB6.below hb7
      have hw7 := bel_call hw6 hb7
      obtain ⟨a0, a1, a2, _, _, _⟩ := hL7.three
      obtain ⟨z0, z1, z2, zf0, zf1, zf2⟩ := hB7.three
      clear hL6 hB6 hw6 hb7
      rcases errv_cases (chk o e u) with ⟨h0, hev⟩ | ⟨k, hk, hke, hev⟩
      · have HL3 : Hid (ltake l = ((o : Int), (e : Int), (u : Int), 0)) := (show _ = _ from by rw [HL2.out, if_neg (by omega)])
        rw [hev]
        clear hev h0 HL2
        go_wp2_with fail
        refine bodyPost_ret (res_lease rfl rfl (g := w.heap.size) (hB7.set3 _ _ _)) rfl ⟨by rw [HL3.out]; rfl, below_three hw7 (Nat.le_refl _) _ _ _⟩
      · have HL3 : Hid (ltake l = (0, 0, 0, chk o e u)) := (show _ = _ from by rw [HL2.out, if_pos (by omega)])
        have HEV := Lib.hid hev
        rw [hev]
        clear hev hke HL2
        go_wp2_with fail
        refine bodyPost_ret (res_lease rfl rfl (g := w.heap.size) (hB7.set3 _ _ _)) rfl ⟨by rw [HL3.out]; dsimp only; rw [HEV.out]; rfl, below_three hw7 (Nat.le_refl _) _ _ _⟩
    · have HL3 : Hid (ltake l = (0, 0, 0, rEnd s3)) := (show _ = _ from by rw [HLT.out, if_pos (by omega)])
      have HEV := Lib.hid hev
      rw [hev]
      clear hev hke HLT
      go_wp2_with fail
      refine bodyPost_ret (res_lease rfl rfl (g := w.heap.size) (hB6.set3 _ _ _)) rfl ⟨by rw [HL3.out]; dsimp only; rw [HEV.out]; rfl, below_three hw6 (Nat.le_refl _) _ _ _⟩
  · have HL3 : Hid (ltake l = (0, 0, 0, bad)) := (show _ = _ from by unfold ltake; rw [hf]; dsimp only; rw [if_pos (by omega)])
    have HF := Lib.hid hf
    have HEV := Lib.hid he
    clear hf hke he
    go_enter Tryz.func65, Tryz.ntmps65
    go_wp2_with fail
    refine (FOne_any A c l _ hs0 hl).mono ?_
    rintro r w1 ⟨A1, c1, m1, rfl, hm1, hs1, hb1⟩
    rw [HF.out] at hm1 ⊢
    dsimp only
    rw [HEV.out]
    have hB1 := hB0.below hb1
    have hw1 := bel_call hbw hb1
    obtain ⟨z0, z1, z2, zf0, zf1, zf2⟩ := hB1.three
    clear hm1 hB0 hb1 hbw
    go_wp2_with fail
    refine bodyPost_ret (res_lease rfl rfl (g := w.heap.size) (hB1.set3 _ _ _)) rfl ⟨by rw [HL3.out]; dsimp only; rw [HEV.out]; rfl, below_three hw1 (Nat.le_refl _) _ _ _⟩
end Go.Proofs.YtddmfoldnlafaaaGreatDoor

namespace Go.Proofs.YtddmfoldnlafaaaGreatDoor
open Go.RowKit Go.Maps Go.Sort

abbrev rgBad (sp bo : Int) : Prop := sp < 1 ∨ 1099511627776 < sp ∨ bo < 0 ∨ 1099511627776 < bo
/-- the lease that a disk's store holds -/
def rgRead (d : Dk Sv) : L3r × Nat :=
  if (sGet d lname).2 = 4 then ((0, 0, 0), 0)
  else if (sGet d lname).2 ≠ 0 then ((0, 0, 0), (sGet d lname).2)
  else (((ltake (((sGet d lname).1.map Sv.l).getD [])).1, (ltake (((sGet d lname).1.map Sv.l).getD [])).2.1, (ltake (((sGet d lname).1.map Sv.l).getD [])).2.2.1), (ltake (((sGet d lname).1.map Sv.l).getD [])).2.2.2)
/-- a lease kept: the disk then, an error's number -/
def rgKeep (d : Dk Sv) (x : L3r) (A : Option Addr) (c : Nat) : Dk Sv × Nat := if lck x ≠ 0 then (d, lck x) else sPut svl Sv.nil d lname ⟨A, c, lpt x⟩
abbrev rga (gs : Nat) (sp bo : Int) (L : L3r) (n : Int) : Array Value := #[.pointer (some ⟨gs, 0, none⟩), .int .i64 sp, .int .i64 bo, .int .i64 L.1, .int .i64 L.2.1, .int .i64 L.2.2, .int .i64 n]
/-- a register and its disk in memory -/
structure RgM (w : World) (gr gs : Nat) (q : Fp) (d : Dk Sv) (sp bo : Int) (L : L3r) (n : Int) : Prop where
  st : StM w gs q d
  blk : Blk w gr 153 (rga gs sp bo L n)
  ap : ¬ q.M gr
  ne : gr ≠ gs
/-- nothing but the disk's own blocks and one more has turned -/
structure Frg (q : Fp) (g : Nat) (w w' : World) : Prop where
  os : w'.os = w.os
  tape : w'.tape = w.tape
  output : w'.output = w.output
  size : w.heap.size ≤ w'.heap.size
  block : ∀ i, i < w.heap.size → ¬ q.M i → i ≠ g → w'.heap[i]? = w.heap[i]?
section
variable {w w' w2 : World} {gr gs : Nat} {q q' : Fp} {d d' : Dk Sv} {sp bo n m : Int} {L L' : L3r}
theorem RgM.below (h : RgM w gr gs q d sp bo L n) (hb : Below w.heap.size w w') : RgM w' gr gs q d sp bo L n := ⟨h.st.below hb, h.blk.below hb, h.ap, h.ne⟩
theorem RgM.act (h : RgM w gr gs q d sp bo L n) (hg : q'.g = q.g) (hD : Dsk w' q' d') (hF : Frd q w w') (hM : ∀ i, q'.M i → q.M i ∨ w.heap.size ≤ i) : RgM w' gr gs q' d' sp bo L n :=
  ⟨h.st.act hg hD hF hM, (hF.block gr h.blk.lt h.ap).trans h.blk, fun hq => by
    rcases hM gr hq with h1 | h1
    · exact h.ap h1
    · have := h.blk.lt
      omega, h.ne⟩
theorem Frg.of (g : Nat) (h : Frd q w w') : Frg q g w w' := ⟨h.os, h.tape, h.output, h.size, fun i hi hn _ => h.block i hi hn⟩
theorem Frg.of_below (g : Nat) (h : Below w.heap.size w w') : Frg q g w w' := Frg.of g (Frd.of_below h)
theorem Frg.trans {g : Nat} (h : Frg q g w w') (h2 : Frg q' g w' w2) (hM : ∀ i, q'.M i → q.M i ∨ w.heap.size ≤ i) : Frg q g w w2 :=
  ⟨h2.os.trans h.os, h2.tape.trans h.tape, h2.output.trans h.output, Nat.le_trans h.size h2.size, fun i hi hn hne => (h2.block i (Nat.lt_of_lt_of_le hi h.size) (fun hq => by
    rcases hM i hq with h1 | h1
    · exact hn h1
    · omega) hne).trans (h.block i hi hn hne)⟩
theorem Frg.wr {g : Nat} (h : Frg q g w w') (hw : Wr w' w2 g) : Frg q g w w2 :=
  ⟨hw.os.trans h.os, hw.tape.trans h.tape, hw.output.trans h.output, Nat.le_trans h.size hw.size, fun i hi hn hne => (hw.block i (Nat.lt_of_lt_of_le hi h.size) (fun e => hne (by injection e))).trans (h.block i hi hn hne)⟩
/-- cells of the register's block are set -/
theorem RgM.wr (h : RgM w gr gs q d sp bo L n) (hnb : ∀ s ∈ svs d, s.l ≠ [] → ∀ ad, s.A = some ad → ad.block ≠ gr) (hw : Wr w w' gr) (hB : Blk w' gr 153 (rga gs sp bo L' m)) : RgM w' gr gs q d sp bo L' m := by
  refine ⟨⟨?_, h.st.blk.wr hw (fun e => h.ne e.symm), h.st.ap⟩, hB, h.ap, h.ne⟩
  refine h.st.dsk.frame fun j hj => hw.block j (h.st.dsk.lt hj) fun e => ?_
  injection e with e
  rw [e] at hj
  rcases hj with hj | ⟨s, hs, hne, hA⟩
  · exact h.ap hj
  · cases hsA : s.A with
    | none => rw [hsA] at hA; cases hA
    | some ad =>
      rw [hsA] at hA
      injection hA with hA
      exact hnb s hs hne ad hsA hA
theorem rga_byte (gs : Nat) (sp bo : Int) (L : L3r) (n : Int) (o : Nat) (x : UInt8) : (rga gs sp bo L n)[o]? ≠ some (bv x) := by
  intro h
  match o with
  | 0 => simp [rga] at h
  | 1 => simp [rga] at h
  | 2 => simp [rga] at h
  | 3 => simp [rga] at h
  | 4 => simp [rga] at h
  | 5 => simp [rga] at h
  | 6 => simp [rga] at h
  | k + 7 => simp [rga] at h
/-- no value lies in the register's block -/
theorem RgM.off (h : RgM w gr gs q d sp bo L n) : ∀ s ∈ svs d, s.l ≠ [] → ∀ ad, s.A = some ad → ad.block ≠ gr := by
  intro s hs hne ad hA e
  have hS := h.st.dsk.rd s hs
  obtain ⟨ad2, hA2, hc⟩ := Sl.at1 (f := bv) (l := s.l) hS (k := 0) (List.length_pos_iff.2 hne)
  rw [hA] at hA2
  injection hA2 with hA2
  subst hA2
  have hsp := World.cell?_spot hc
  have hbl : (ad.add 0).block = gr := by rw [addr_add_block]; exact e
  have hq : ad.add 0 = ⟨gr, (ad.add 0).off, none⟩ := by
    cases h3 : ad.add 0 with
    | mk x y z => rw [h3] at hsp hbl; dsimp only at hsp hbl ⊢; rw [hbl, hsp]
  rw [hq, h.blk.cell] at hc
  exact rga_byte _ _ _ _ _ _ _ hc
theorem RgM.set (h : RgM w gr gs q d sp bo L n) (hw : Wr w w' gr) (hB : Blk w' gr 153 (rga gs sp bo L' m)) : RgM w' gr gs q d sp bo L' m := h.wr h.off hw hB
end
theorem Dsk.offB {w : World} {q : Fp} {d : Dk Sv} {b : Nat} {t : TypeId} {cs : Array Value} (h : Dsk w q d) (hB : Blk w b t cs) (hno : ∀ (o : Nat) (x : UInt8), cs[o]? ≠ some (bv x)) : ∀ s ∈ svs d, s.l ≠ [] → ∀ ad, s.A = some ad → ad.block ≠ b := by
  intro s hs hne ad hA e
  have hS := h.rd s hs
  obtain ⟨ad2, hA2, hc⟩ := Sl.at1 (f := bv) (l := s.l) hS (k := 0) (List.length_pos_iff.2 hne)
  rw [hA] at hA2
  injection hA2 with hA2
  subst hA2
  have hsp := World.cell?_spot hc
  have hbl : (ad.add 0).block = b := by rw [addr_add_block]; exact e
  have hq : ad.add 0 = ⟨b, (ad.add 0).off, none⟩ := by
    cases h3 : ad.add 0 with
    | mk x y z => rw [h3] at hsp hbl; dsimp only at hsp hbl ⊢; rw [hbl, hsp]
  rw [hq, hB.cell] at hc
  exact hno _ _ hc
theorem lease_nob {a b c : Int} (o : Nat) (x : UInt8) : (#[.int .i64 a, .int .i64 b, .int .i64 c] : Array Value)[o]? ≠ some (bv x) := by
  intro h
  match o with
  | 0 => simp at h
  | 1 => simp at h
  | 2 => simp at h
  | k + 3 => simp at h
/-- another block is set -/
theorem RgM.other {w w' : World} {gr gs b : Nat} {q : Fp} {d : Dk Sv} {sp bo n : Int} {L : L3r} {t : TypeId} {cs : Array Value} (h : RgM w gr gs q d sp bo L n) (hB : Blk w b t cs) (hno : ∀ (o : Nat) (x : UInt8), cs[o]? ≠ some (bv x)) (hq : ¬ q.M b) (hg : b ≠ gr) (hgs : b ≠ gs) (hw : Wr w w' b) : RgM w' gr gs q d sp bo L n := by
  refine ⟨⟨h.st.dsk.frame fun j hj => hw.block j (h.st.dsk.lt hj) fun e => ?_, h.st.blk.wr hw (fun e => hgs e.symm), h.st.ap⟩, h.blk.wr hw (fun e => hg e.symm), h.ap, h.ne⟩
  injection e with e
  rw [e] at hj
  rcases hj with hj | ⟨s, hs, hne, hA⟩
  · exact hq hj
  · cases hsA : s.A with
    | none => rw [hsA] at hA; cases hA
    | some ad =>
      rw [hsA] at hA
      injection hA with hA
      exact h.st.dsk.offB hB hno s hs hne ad hsA hA
theorem Frg.more {w w' w2 : World} {q : Fp} {g b : Nat} (h : Frg q g w w') (hw : Wr w' w2 b) (hb : w.heap.size ≤ b) : Frg q g w w2 :=
  ⟨hw.os.trans h.os, hw.tape.trans h.tape, hw.output.trans h.output, Nat.le_trans h.size hw.size, fun i hi hn hne => (hw.block i (Nat.lt_of_lt_of_le hi h.size) (fun e => by injection e with e; omega)).trans (h.block i hi hn hne)⟩
theorem Fro.frg {w W W' : World} {q q' : Fp} {gr : Nat} (h : Fro w W q) (hF : Frg q gr W W') (hM : ∀ i, q'.M i → q.M i ∨ W.heap.size ≤ i) (hgr : w.heap.size ≤ gr) : Fro w W' q' :=
  ⟨⟨hF.os.trans h.1.os, hF.tape.trans h.1.tape, hF.output.trans h.1.output, Nat.le_trans h.1.size hF.size, fun i hi => (hF.block i (Nat.lt_of_lt_of_le hi h.1.size) (fun hq => by have := h.2 i hq; omega) (by omega)).trans (h.1.block i hi)⟩, fun i hi => by
    rcases hM i hi with h1 | h1
    · exact h.2 i h1
    · have := h.1.size
      omega⟩
/-- a block that a register's acts leave alone -/
structure Off (W : World) (q : Fp) (gr B : Nat) (t : TypeId) (cs : Array Value) : Prop where
  blk : Blk W B t cs
  nm : ¬ q.M B
  ng : B ≠ gr
section
variable {W W' : World} {q q' : Fp} {gr gr' B : Nat} {t : TypeId} {cs : Array Value} {d : Dk Sv}
theorem Off.below (h : Off W q gr B t cs) (hb : Below W.heap.size W W') : Off W' q gr B t cs := ⟨h.blk.below hb, h.nm, h.ng⟩
theorem Off.nmM (h : Off W q gr B t cs) (hM : ∀ i, q'.M i → q.M i ∨ W.heap.size ≤ i) : ¬ q'.M B := fun hq => by
  rcases hM B hq with h1 | h1
  · exact h.nm h1
  · have := h.blk.lt
    omega
theorem Off.frg (h : Off W q gr B t cs) (hF : Frg q gr W W') (hM : ∀ i, q'.M i → q.M i ∨ W.heap.size ≤ i) : Off W' q' gr B t cs := ⟨(hF.block B h.blk.lt h.nm h.ng).trans h.blk, h.nmM hM, h.ng⟩
theorem Off.act (h : Off W q gr B t cs) (hF : Frd q W W') (hM : ∀ i, q'.M i → q.M i ∨ W.heap.size ≤ i) : Off W' q' gr B t cs := ⟨(hF.block B h.blk.lt h.nm).trans h.blk, h.nmM hM, h.ng⟩
end
/-- what opening gives -/
def RgO (w : World) (q : Fp) (sp bo : Int) (r : Dk Sv × L3r × Nat) (e : Ending) (w' : World) : Prop :=
  ∃ q' : Fp, q'.g = q.g ∧ Dsk w' q' r.1 ∧ Frd q w w' ∧ (∀ i, q'.M i → q.M i ∨ w.heap.size ≤ i) ∧
    (r.2.2 = 0 ∧ (∃ gr gs, e = .returned (.tuple #[.pointer (some ⟨gr, 0, none⟩), .nilIface]) ∧ RgM w' gr gs q' r.1 sp bo r.2.1 0 ∧ w.heap.size ≤ gr ∧ w.heap.size ≤ gs) ∨ r.2.2 ≠ 0 ∧ e = .returned (.tuple #[.pointer none, errv r.2.2]))
def rgOpen (d : Dk Sv) (sp bo : Int) : Dk Sv × L3r × Nat :=
  if rgBad sp bo then (d, (0, 0, 0), 1)
  else if (sOpen Sv.nil d).2 ≠ 0 then ((sOpen Sv.nil d).1, (0, 0, 0), (sOpen Sv.nil d).2)
  else ((sOpen Sv.nil d).1, rgRead (sOpen Sv.nil d).1)
/-- what an act on a register gives: its value and the register then -/
def RgG (w : World) (gr gs : Nat) (q : Fp) (sp bo : Int) (d' : Dk Sv) (L : L3r) (n : Int) (w' : World) : Prop :=
  ∃ q' : Fp, q'.g = q.g ∧ RgM w' gr gs q' d' sp bo L n ∧ Frg q gr w w' ∧ (∀ i, q'.M i → q.M i ∨ w.heap.size ≤ i)
end Go.Proofs.YtddmfoldnlafaaaGreatDoor

namespace Go.Proofs.YtddmfoldnlafaaaGreatDoor
open Go.RowKit Go.Maps Go.Sort

def grantL (L : L3r) (o now sp bo : Int) : L3r × Nat := (((grant L.1 L.2.1 L.2.2 o now sp bo).1, (grant L.1 L.2.1 L.2.2 o now sp bo).2.1, (grant L.1 L.2.1 L.2.2 o now sp bo).2.2.1), (grant L.1 L.2.1 L.2.2 o now sp bo).2.2.2)
def giveL (L : L3r) (o : Int) : L3r × Nat := (((give L.1 L.2.1 L.2.2 o).1, (give L.1 L.2.1 L.2.2 o).2.1, (give L.1 L.2.1 L.2.2 o).2.2.1), (give L.1 L.2.1 L.2.2 o).2.2.2)
/-- what acquiring gives: the lease told, an error's number; disk, lease, grants then -/
inductive AcqO (d : Dk Sv) (L : L3r) (n sp bo o now : Int) : L3r → Nat → Dk Sv → L3r → Int → Prop where
  | no (h : (grantL L o now sp bo).2 ≠ 0) : AcqO d L n sp bo o now (0, 0, 0) (grantL L o now sp bo).2 d L n
  | bad (A : Option Addr) (c : Nat) (h : (grantL L o now sp bo).2 = 0) (hk : (rgKeep d (grantL L o now sp bo).1 A c).2 ≠ 0) : AcqO d L n sp bo o now (0, 0, 0) (rgKeep d (grantL L o now sp bo).1 A c).2 (rgKeep d (grantL L o now sp bo).1 A c).1 L n
  | ok (A : Option Addr) (c : Nat) (h : (grantL L o now sp bo).2 = 0) (hk : (rgKeep d (grantL L o now sp bo).1 A c).2 = 0) : AcqO d L n sp bo o now (grantL L o now sp bo).1 0 (rgKeep d (grantL L o now sp bo).1 A c).1 (grantL L o now sp bo).1 (wrap64 (n + 1))
/-- what giving up gives -/
inductive GivO (d : Dk Sv) (L : L3r) (o : Int) : Nat → Dk Sv → L3r → Prop where
  | no (h : (giveL L o).2 ≠ 0) : GivO d L o (giveL L o).2 d L
  | gave (A : Option Addr) (c : Nat) (h : (giveL L o).2 = 0) : GivO d L o (rgKeep d (giveL L o).1 A c).2 (rgKeep d (giveL L o).1 A c).1 (if (rgKeep d (giveL L o).1 A c).2 = 0 then (giveL L o).1 else L)
end Go.Proofs.YtddmfoldnlafaaaGreatDoor

namespace Go.Proofs.YtddmfoldnlafaaaGreatDoor
open Go.RowKit Go.Maps Go.Sort
attribute [local go_sem ↓] Go.wp_at_zero Go.wp_at_succ

theorem errno_comp : ∃ i, Tryz.prog.info? 79 = some i ∧ i.comparable = true := by
  have h : (Tryz.prog.info? 79).map (fun i => i.comparable) = some true := by kernel_rfl
  cases hq : Tryz.prog.info? 79 with
  | none => rw [hq] at h; cases h
  | some i => rw [hq] at h; exact ⟨i, rfl, by injection h⟩
theorem errv_is4 (n : Nat) (W : World) : (binOp .eql 29 (errv n) (.iface 79 (.int .i64 4))).run Tryz.prog W = .ok (.bool (decide (n = 4))) W := by
  rcases errv_cases n with ⟨h0, he⟩ | ⟨k, hk, hke, he⟩
  · subst h0
    rw [he]
    exact run_eql_iface_nil_left W _ _ Tryz.underlying29
  · have h2 : decide (n = 4) = (k == 4) := by
      rw [Bool.eq_iff_iff, decide_eq_true_iff, beq_iff_eq]
      omega
    obtain ⟨i, hi, hc⟩ := errno_comp
    have h : ∀ d : Nat, (Op.equalIn (d + 2) 29 (.iface 79 (.int .i64 k)) (.iface 79 (.int .i64 4))).run Tryz.prog W = .ok (k == 4) W := fun d => by
      simp [Op.equalIn, run_underlying Tryz.underlying29, run_underlying Tryz.underlying79, typeInfo, hi, hc]
    rw [he, h2]
    simp only [binOp]
    simp [Op.equal, Op.maxDepth, h 9998]
theorem errv_g4 (n : Nat) (x y : Operand) (W : World) : (eqGuard .eql 29 x y (errv n) (.iface 79 (.int .i64 4))).run Tryz.prog W = .ok () W := by
  rcases errv_cases n with ⟨h0, he⟩ | ⟨k, hk, hke, he⟩
  · rw [he]
    go_simp
  · rw [he]
    go_simp
theorem Blk.sevC {w : World} {g : Nat} {t : TypeId} {a0 a1 a2 a3 a4 a5 a6 : Value} (h : Blk w g t #[a0, a1, a2, a3, a4, a5, a6]) : w.cell? ⟨g, 0, none⟩ = some a0 ∧ w.cell? ⟨g, 1, none⟩ = some a1 ∧ w.cell? ⟨g, 2, none⟩ = some a2 ∧ w.cell? ⟨g, 3, none⟩ = some a3 ∧ w.cell? ⟨g, 4, none⟩ = some a4 ∧ w.cell? ⟨g, 5, none⟩ = some a5 ∧ w.cell? ⟨g, 6, none⟩ = some a6 := ⟨h.cell 0, h.cell 1, h.cell 2, h.cell 3, h.cell 4, h.cell 5, h.cell 6⟩
theorem sGet_len {w : World} {q : Fp} {d : Dk Sv} (h : Dsk w q d) (n : Bs) : (((sGet d n).1.map Sv.l).getD []).length ≤ 65536 := by
  unfold sGet
  split
  · simp
  · unfold dRead
    split
    · simp
    · cases hg : gget n d.shown with
      | none => simp
      | some v => exact h.len v (h.shown_mem (n, v) (gget_mem hg)).2
theorem rgRead_eq (d : Dk Sv) : rgRead d = if (sGet d lname).2 = 4 then ((0, 0, 0), 0)
  else if (sGet d lname).2 ≠ 0 then ((0, 0, 0), (sGet d lname).2)
  else (((ltake (((sGet d lname).1.map Sv.l).getD [])).1, (ltake (((sGet d lname).1.map Sv.l).getD [])).2.1, (ltake (((sGet d lname).1.map Sv.l).getD [])).2.2.1), (ltake (((sGet d lname).1.map Sv.l).getD [])).2.2.2) := rfl
set_option maxRecDepth 100000 in
set_option maxHeartbeats 1000000 in
theorem RgOpen_any {w : World} {q : Fp} {d : Dk Sv} (h : Dsk w q d) (hf : Fok d) (hl : d.sure.length + d.pend.length ≤ 400) (sp bo : Int) :
    Calls Tryz.prog 21 #[.pointer (some ⟨q.g, 0, none⟩), .int .i64 sp, .int .i64 bo] w fun e w' => RgO w q sp bo (rgOpen d sp bo) e w' := by
  by_cases h1 : sp < 1
  · have HX := Lib.hid (show rgOpen d sp bo = (d, (0, 0, 0), 1) from by unfold rgOpen; rw [if_pos (by unfold rgBad; omega)])
    have HD := Lib.hid h
    clear h hf hl
    go_enter Tryz.func21, Tryz.ntmps21
    go_wp2_with fail
    go_ret2
    exact ⟨q, rfl, by rw [HX.out]; exact HD.out, Frd.of_below (Below.refl _ _), fun i hi => .inl hi, .inr ⟨by rw [HX.out]; exact Nat.one_ne_zero, by rw [HX.out]; rfl⟩⟩
  by_cases h2 : 1099511627776 < sp
  · have HX := Lib.hid (show rgOpen d sp bo = (d, (0, 0, 0), 1) from by unfold rgOpen; rw [if_pos (by unfold rgBad; omega)])
    have HD := Lib.hid h
    clear h hf hl
    go_enter Tryz.func21, Tryz.ntmps21
    go_wp2_with fail
    go_ret2
    exact ⟨q, rfl, by rw [HX.out]; exact HD.out, Frd.of_below (Below.refl _ _), fun i hi => .inl hi, .inr ⟨by rw [HX.out]; exact Nat.one_ne_zero, by rw [HX.out]; rfl⟩⟩
  by_cases h3 : bo < 0
  · have HX := Lib.hid (show rgOpen d sp bo = (d, (0, 0, 0), 1) from by unfold rgOpen; rw [if_pos (by unfold rgBad; omega)])
    have HD := Lib.hid h
    clear h hf hl
    go_enter Tryz.func21, Tryz.ntmps21
    go_wp2_with fail
    go_ret2
    exact ⟨q, rfl, by rw [HX.out]; exact HD.out, Frd.of_below (Below.refl _ _), fun i hi => .inl hi, .inr ⟨by rw [HX.out]; exact Nat.one_ne_zero, by rw [HX.out]; rfl⟩⟩
  by_cases h4 : 1099511627776 < bo
  · have HX := Lib.hid (show rgOpen d sp bo = (d, (0, 0, 0), 1) from by unfold rgOpen; rw [if_pos (by unfold rgBad; omega)])
    have HD := Lib.hid h
    clear h hf hl
    go_enter Tryz.func21, Tryz.ntmps21
    go_wp2_with fail
    go_ret2
    exact ⟨q, rfl, by rw [HX.out]; exact HD.out, Frd.of_below (Below.refl _ _), fun i hi => .inl hi, .inr ⟨by rw [HX.out]; exact Nat.one_ne_zero, by rw [HX.out]; rfl⟩⟩
  have i1 : 1 ≤ sp := by omega
  have i2 : sp ≤ 1099511627776 := by omega
  have i3 : 0 ≤ bo := by omega
  have i4 : bo ≤ 1099511627776 := by omega
  have HX := Lib.hid (show rgOpen d sp bo = if (sOpen Sv.nil d).2 ≠ 0 then ((sOpen Sv.nil d).1, (0, 0, 0), (sOpen Sv.nil d).2) else ((sOpen Sv.nil d).1, rgRead (sOpen Sv.nil d).1) from by unfold rgOpen; rw [if_neg (by unfold rgBad; omega)])
  have HOp := Lib.hid (SOpen_any h hf hl)
  clear h hf hl
  generalize hgq : q.g = g0 at *
  have HGq := Lib.hid hgq
  clear hgq
  go_enter Tryz.func21, Tryz.ntmps21
  go_wp2_with fail
  refine HOp.out.mono ?_
  rintro e w1 ⟨q1, hg1, hD1, hF1, hM1, -, h0⟩
  clear HOp
  generalize sOpen Sv.nil d = r at *
  obtain ⟨d1, n1⟩ := r
  dsimp only at hD1 h0
  try dsimp only at HX
  rcases h0 with ⟨rfl, gs, rfl, hS1, hgs1⟩ | ⟨h0, rfl⟩
  rotate_left
  · obtain ⟨ev, hev⟩ := errv_ifc h0
    have HXX := Lib.hid (HX.out.trans (if_pos h0))
    have HO := Lib.hid (show RgO w q sp bo (rgOpen d sp bo) (.returned (.tuple #[.pointer none, errv n1])) w1 from ⟨q1, hg1, by rw [HXX.out]; exact hD1, hF1, hM1, .inr ⟨by rw [HXX.out]; exact h0, by rw [HXX.out]⟩⟩)
    rw [hev] at HO ⊢
    clear hev h0 HX HXX hD1 hF1 hM1
    go_wp2_with fail
    go_ret2
    exact HO.out
  replace HX := Lib.hid (HX.out.trans (if_neg (by simp)))
  try dsimp only at HX
  have hS1g := hS1.blk.lt
  have hb2 := below_new w1 (.cells (rga gs sp bo (0, 0, 0) 0) 153)
  have hRg : RgM (w1.alloc (.cells (rga gs sp bo (0, 0, 0) 0) 153)) w1.heap.size gs q1 d1 sp bo (0, 0, 0) 0 := ⟨hS1.below hb2, Blk.new _ _ _, fun hq => by have := hS1.dsk.ltM hq; omega, by omega⟩
  have HG := Lib.hid (SGet_any hRg.st lname (by decide))
  have hsz := sGet_len hS1.dsk lname
  have HRg := Lib.hid hRg
  have HF2 := Lib.hid (hF1.trans (Frd.of_below (q := q1) hb2) hM1)
  have HM1 := Lib.hid hM1
  have Hg1 := Lib.hid (hg1.trans HGq.out)
  have Hws := Lib.hid hF1.size
  have Hgs := Lib.hid hgs1
  have HR := Lib.hid (rgRead_eq d1)
  clear hD1 hF1 hM1 hg1 hgs1 hS1 hRg hb2 hS1g
  generalize sGet d1 lname = r2 at *
  obtain ⟨v, k⟩ := r2
  dsimp only at HG HR hsz
  generalize (v.map Sv.l).getD [] = tl at *
  have he4 := errv_is4 k
  have hg4 := errv_g4 k
  unfold lname at HG
  go_wp2_with fail
  refine HG.out.mono ?_
  rintro e w2 ⟨A, c, m, rfl, hm, ho, hb3⟩
  obtain rfl := hm.out
  have HRg2 := Lib.hid (HRg.out.below hb3)
  have HF3 := Lib.hid (HF2.out.trans (Frd.of_below (q := q1) hb3) HM1.out)
  have HSb := Lib.hid (show SlB w2 A c m from Own.sl ho)
  clear HG hm ho hb3 HRg HF2
  by_cases hk4 : k = 4
  · subst hk4
    have HXX := Lib.hid (show rgOpen d sp bo = (d1, (0, 0, 0), 0) from by rw [HX.out, HR.out, if_pos rfl])
    have HO := Lib.hid (show RgO w q sp bo (rgOpen d sp bo) (.returned (.tuple #[.pointer (some ⟨w1.heap.size, 0, none⟩), .nilIface])) w2 from ⟨q1, Hg1.out.trans HGq.out.symm, by rw [HXX.out]; exact HRg2.out.st.dsk, HF3.out, fun i hi => HM1.out i hi, .inl ⟨by rw [HXX.out], w1.heap.size, gs, rfl, by rw [HXX.out]; exact HRg2.out, Hws.out, Hgs.out⟩⟩)
    have hd4 : decide (4 = 4) = true := rfl
    rw [hd4] at he4
    generalize errv 4 = ev at *
    clear hd4 HRg2 HF3 HX HXX HR
    go_wp2_with fail
    go_ret2
    exact HO.out
  have hd4 : decide (k = 4) = false := decide_eq_false hk4
  rw [hd4] at he4
  rw [if_neg hk4] at HR
  clear hd4
  rcases Decidable.em (k = 0) with h0 | h0
  rotate_left
  · obtain ⟨ev, hev⟩ := errv_ifc h0
    have HXX := Lib.hid (show rgOpen d sp bo = (d1, (0, 0, 0), k) from by rw [HX.out, HR.out, if_pos h0])
    have HO := Lib.hid (show RgO w q sp bo (rgOpen d sp bo) (.returned (.tuple #[.pointer none, errv k])) w2 from ⟨q1, Hg1.out.trans HGq.out.symm, by rw [HXX.out]; exact HRg2.out.st.dsk, HF3.out, fun i hi => HM1.out i hi, .inr ⟨by rw [HXX.out]; exact h0, by rw [HXX.out]⟩⟩)
    rw [hev] at HO he4 hg4 ⊢
    clear hev HRg2 HF3 HX HXX HR h0 hk4
    go_wp2_with fail
    go_ret2
    exact HO.out
  subst h0
  rw [if_neg (by simp)] at HR
  have HT := Lib.hid (LTake_any A c m w2 HSb.out (by omega))
  unfold Leased at HT
  generalize ltake m = t at *
  obtain ⟨t1, t2, t3, t4⟩ := t
  dsimp only at HR HT
  have HXX := Lib.hid (show rgOpen d sp bo = (d1, (t1, t2, t3), t4) from by rw [HX.out, HR.out])
  rw [show errv 0 = Value.nilIface from rfl] at he4 hg4 ⊢
  clear HX HR hk4
  go_wp2_with fail
  refine HT.out.mono ?_
  rintro e w3 ⟨rfl, hb4⟩
  have hRg3 := HRg2.out.below hb4
  have HF4 := Lib.hid ((Frg.of w1.heap.size HF3.out).trans (Frg.of_below (q := q1) w1.heap.size hb4) HM1.out)
  obtain ⟨x0, x1, x2, x3, x4, x5, x6⟩ := hRg3.blk.sevC
  have xf3 := hRg3.blk.frozen 3
  have xf4 := hRg3.blk.frozen 4
  have xf5 := hRg3.blk.frozen 5
  have HRg4 := Lib.hid (hRg3.set (L' := (t1, t2, t3)) (m := 0) ((((Wr.refl _ _).set_ 3 (.int .i64 t1)).set_ 4 (.int .i64 t2)).set_ 5 (.int .i64 t3)) (((hRg3.blk.set_ 3 (.int .i64 t1)).set_ 4 (.int .i64 t2)).set_ 5 (.int .i64 t3)))
  have HF5 := Lib.hid (HF4.out.wr ((((Wr.refl _ _).set_ 3 (.int .i64 t1)).set_ 4 (.int .i64 t2)).set_ 5 (.int .i64 t3)))
  clear hb4 hRg3 HRg2 HF3 HF4 HT he4 hg4
  go_upto_region 13 with (fail)
  refine gen1 (T := fun W => RgM W w1.heap.size gs q1 d1 sp bo (t1, t2, t3) 0 ∧ Frg q w1.heap.size w W) ⟨HRg4.out, HF5.out⟩ (fun w5 hT => ?_)
  obtain ⟨hR5, hF5⟩ := hT
  have hFd : Frd q w w5 := ⟨hF5.os, hF5.tape, hF5.output, hF5.size, fun i hi hn => hF5.block i hi hn (by have := Hws.out; omega)⟩
  clear x0 x1 x2 x3 x4 x5 x6 xf3 xf4 xf5 HRg4 HF5 hF5
  rcases Decidable.em (t4 = 0) with h0 | h0
  · subst h0
    have HO := Lib.hid (show RgO w q sp bo (rgOpen d sp bo) (.returned (.tuple #[.pointer (some ⟨w1.heap.size, 0, none⟩), .nilIface])) w5 from ⟨q1, Hg1.out.trans HGq.out.symm, by rw [HXX.out]; exact hR5.st.dsk, hFd, fun i hi => HM1.out i hi, .inl ⟨by rw [HXX.out], w1.heap.size, gs, rfl, by rw [HXX.out]; exact hR5, Hws.out, Hgs.out⟩⟩)
    rw [show errv 0 = Value.nilIface from rfl]
    clear hR5 hFd HXX
    go_wp2_with fail
    go_ret2
    exact HO.out
  · obtain ⟨ev, hev⟩ := errv_ifc h0
    have HO := Lib.hid (show RgO w q sp bo (rgOpen d sp bo) (.returned (.tuple #[.pointer none, errv t4])) w5 from ⟨q1, Hg1.out.trans HGq.out.symm, by rw [HXX.out]; exact hR5.st.dsk, hFd, fun i hi => HM1.out i hi, .inr ⟨by rw [HXX.out]; exact h0, by rw [HXX.out]⟩⟩)
    rw [hev] at HO ⊢
    clear hev hR5 hFd HXX h0
    go_wp2_with fail
    go_ret2
    exact HO.out
end Go.Proofs.YtddmfoldnlafaaaGreatDoor

namespace Go.Proofs.YtddmfoldnlafaaaGreatDoor
open Go.RowKit Go.Maps Go.Sort
attribute [local go_sem ↓] Go.wp_at_zero Go.wp_at_succ

section
variable {w w' : World} {gr gs : Nat} {q : Fp} {d d' : Dk Sv} {sp bo n : Int} {L : L3r}
theorem RgG.still (h : RgM w gr gs q d sp bo L n) (hb : Below w.heap.size w w') : RgG w gr gs q sp bo d L n w' := ⟨q, rfl, h.below hb, Frg.of_below gr hb, fun _ hi => .inl hi⟩
end
theorem lput_err (x : L3r) : (lput x.1 x.2.1 x.2.2).2 = lck x := by
  unfold lput lck
  split
  · rfl
  · rename_i h
    exact (Decidable.byContradiction h : chk x.1 x.2.1 x.2.2 = 0).symm
theorem lpt_len {x : L3r} (h : lck x = 0) : (lpt x).length ≤ 200 := by
  unfold lpt lput
  rw [if_neg (by unfold lck at h; omega)]
  have h1 := ltxt_len h
  show (frm (ltxt x.1 x.2.1 x.2.2)).length ≤ 200
  rw [frm_len]
  have h2 := vb_le10 (n := (ltxt x.1 x.2.1 x.2.2).length) (by omega)
  omega
set_option maxRecDepth 100000 in
set_option maxHeartbeats 1000000 in
theorem RKeep_any {w : World} {gr gs : Nat} {q : Fp} {d : Dk Sv} {sp bo n : Int} {L : L3r} (h : RgM w gr gs q d sp bo L n) (hf : Fok d) (hl : d.sure.length + d.pend.length ≤ 900) (x : L3r) :
    Calls Tryz.prog 67 #[.pointer (some ⟨gr, 0, none⟩), lv x.1 x.2.1 x.2.2] w fun e w' => ∃ A c, e = .returned (errv (rgKeep d x A c).2) ∧ RgG w gr gs q sp bo (rgKeep d x A c).1 (if (rgKeep d x A c).2 = 0 then x else L) n w' := by
  obtain ⟨xo, xe, xu⟩ := x
  have hb0 := below_new w (.cells #[.int .i64 xo, .int .i64 xe, .int .i64 xu] 56)
  have hB0 := Blk.new w 56 #[.int .i64 xo, .int .i64 xe, .int .i64 xu]
  have HP := Lib.hid (LPut_any xo xe xu (w.alloc (.cells #[.int .i64 xo, .int .i64 xe, .int .i64 xu] 56)))
  have hle := lput_err (xo, xe, xu)
  dsimp only at hle
  unfold PutsB at HP
  rw [hle] at HP
  have hm0 := h.below hb0
  have H0 := Lib.hid hm0
  have HB0 := Lib.hid hB0
  have Hb0 := Lib.hid hb0
  have Hg := Lib.hid h.blk.lt
  have Hqg := Lib.hid h.st.dsk.blk.lt
  have HNq := Lib.hid (show ¬ q.M w.heap.size from fun hq => by have := h.st.dsk.ltM hq; omega)
  have HF := Lib.hid hf
  have hpt : (lput xo xe xu).1 = lpt (xo, xe, xu) := rfl
  rw [hpt] at HP
  obtain ⟨b0, b1, b2, -, -, -⟩ := hB0.three
  clear h hb0 hB0 hm0 hle hpt hf
  go_enter Tryz.func67, Tryz.ntmps67
  go_wp2_with fail
  refine HP.out.mono ?_
  clear HP
  rintro e w1 ⟨A, c, m, rfl, hm, ho, hb1⟩
  have hR1 := H0.out.below hb1
  have hb1' := bel_call Hb0.out hb1
  have hB1 := HB0.out.below hb1
  rcases Decidable.em (lck (xo, xe, xu) = 0) with hc | hc
  rotate_left
  · obtain ⟨ev, hev⟩ := errv_ifc hc
    have HO := Lib.hid (show ∃ A c, Ending.returned (errv (lck (xo, xe, xu))) = .returned (errv (rgKeep d (xo, xe, xu) A c).2) ∧ RgG w gr gs q sp bo (rgKeep d (xo, xe, xu) A c).1 (if (rgKeep d (xo, xe, xu) A c).2 = 0 then (xo, xe, xu) else L) n w1 from ⟨none, 0, by
      have e1 : rgKeep d (xo, xe, xu) none 0 = (d, lck (xo, xe, xu)) := if_pos hc
      rw [e1]
      dsimp only
      rw [if_neg hc]
      exact ⟨rfl, q, rfl, hR1, Frg.of_below gr hb1', fun i hi => .inl hi⟩⟩)
    rw [hev] at HO ⊢
    clear hev hc hR1 hb1 hb1' hm ho hB1 H0 HB0 Hb0
    go_wp2_with fail
    go_ret
    exact HO.out
  have hml : m.length ≤ 200 := by rw [hm.out]; exact lpt_len hc
  have hlt := Own.lt ho
  have HPut := Lib.hid (SPut_any hR1.st HF.out hl lname (by decide) m (Own.sl ho) (fun hne ad hA e => by
    have h1 := (hlt ad.block (by rw [hA]; rfl)).1
    have h2 := Hqg.out
    simp at h1
    omega) (by omega))
  obtain rfl := hm.out
  rw [hc, show errv 0 = Value.nilIface from rfl]
  unfold lname at HPut
  obtain ⟨x0, x1, x2, x3, x4, x5, x6⟩ := hR1.blk.sevC
  have HR1 := Lib.hid hR1
  have HB1 := Lib.hid hB1
  have Hb1 := Lib.hid hb1'
  clear hm ho hb1 hb1' hR1 hB1 H0 HB0 Hb0 hlt b0 b1 b2
  go_wp2_with fail
  refine HPut.out.mono ?_
  clear HPut
  rintro e w2 ⟨A2, c2, rfl, q2, hg2, hD2, hF2, hM2, -⟩
  have hE : ∀ r, sPut svl Sv.nil d [108, 101, 97, 115, 101] ⟨A2, c2, lpt (xo, xe, xu)⟩ = r → rgKeep d (xo, xe, xu) A2 c2 = r := fun r hr => by rw [← hr]; exact if_neg (by rw [hc]; simp)
  have hR2 := HR1.out.act hg2 hD2 hF2 hM2
  have hne : w.heap.size ≠ gr := by have := Hg.out; omega
  have hBx : Blk w2 w.heap.size 56 #[.int .i64 xo, .int .i64 xe, .int .i64 xu] := (hF2.block _ HB1.out.lt HNq.out).trans HB1.out
  generalize sPut svl Sv.nil d [108, 101, 97, 115, 101] ⟨A2, c2, lpt (xo, xe, xu)⟩ = r at *
  obtain ⟨d2, k2⟩ := r
  dsimp only at hR2 ⊢
  have hE2 := hE _ rfl
  have HF2 := Lib.hid ((Frg.of_below (q := q) gr Hb1.out).trans (Frg.of gr hF2) (fun i hi => .inl hi))
  have HM2 := Lib.hid (show ∀ i, q2.M i → q.M i ∨ w.heap.size ≤ i from fun i hi => by
    rcases hM2 i hi with h1 | h1
    · exact .inl h1
    · have := Hb1.out.size; exact .inr (by omega))
  have HE := Lib.hid hE2
  have Hg2 := Lib.hid hg2
  rcases Decidable.em (k2 = 0) with h0 | h0
  rotate_left
  · obtain ⟨ev, hev⟩ := errv_ifc h0
    have HO := Lib.hid (show ∃ A c, Ending.returned (errv k2) = .returned (errv (rgKeep d (xo, xe, xu) A c).2) ∧ RgG w gr gs q sp bo (rgKeep d (xo, xe, xu) A c).1 (if (rgKeep d (xo, xe, xu) A c).2 = 0 then (xo, xe, xu) else L) n w2 from ⟨A2, c2, by
      rw [HE.out]
      dsimp only
      rw [if_neg h0]
      exact ⟨rfl, q2, Hg2.out, hR2, HF2.out, HM2.out⟩⟩)
    rw [hev] at HO ⊢
    clear hev h0 hR2 hBx HF2 HM2 hF2 hM2 hD2 hg2 hE hE2 HE x0 x1 x2 x3 x4 x5 x6 HR1 HB1 Hb1
    go_wp2_with fail
    go_ret
    exact HO.out
  subst h0
  obtain ⟨y0, y1, y2, y3, y4, y5, y6⟩ := hR2.blk.sevC
  have yf3 := hR2.blk.frozen 3
  have yf4 := hR2.blk.frozen 4
  have yf5 := hR2.blk.frozen 5
  obtain ⟨z0, z1, z2, -, -, -⟩ := hBx.three
  have HR3 := Lib.hid (hR2.set (L' := (xo, xe, xu)) (m := n) ((((Wr.refl _ _).set_ 3 (.int .i64 xo)).set_ 4 (.int .i64 xe)).set_ 5 (.int .i64 xu)) (((hR2.blk.set_ 3 (.int .i64 xo)).set_ 4 (.int .i64 xe)).set_ 5 (.int .i64 xu)))
  have HF3 := Lib.hid (HF2.out.wr ((((Wr.refl _ _).set_ 3 (.int .i64 xo)).set_ 4 (.int .i64 xe)).set_ 5 (.int .i64 xu)))
  rw [show errv 0 = Value.nilIface from rfl]
  clear hR2 hBx HF2 hF2 hM2 hD2 hg2 hE hE2 x0 x1 x2 x3 x4 x5 x6 HR1 HB1 Hb1
  go_wp2_with fail
  go_ret
  exact ⟨A2, c2, by
    rw [HE.out]
    dsimp only
    rw [if_pos rfl]
    exact ⟨rfl, q2, Hg2.out, HR3.out, HF3.out, HM2.out⟩⟩
theorem res_lease1 {fn : Func} {a : Nat} {tmps : Array Value} {w : World} {g : Nat} {x y z : Value} (hres : fn.results = #[.cell a 56]) (ha : tmps.getD a undef = .pointer (some ⟨g, 0, none⟩)) (hB : Blk w g 56 #[x, y, z]) :
    (results fn tmps).run Tryz.prog w = .ok (.agg #[x, y, z]) w := by
  obtain ⟨b0, b1, b2, -, -, -⟩ := hB.three
  have ha' : tmps[a]?.getD undef = .pointer (some ⟨g, 0, none⟩) := by simpa using ha
  simp [results, hres, go_sem, b0, b1, b2, ha']
set_option maxRecDepth 100000 in
set_option maxHeartbeats 1000000 in
theorem RLease_any {w : World} {gr gs : Nat} {q : Fp} {d : Dk Sv} {sp bo n : Int} {L : L3r} (h : RgM w gr gs q d sp bo L n) :
    Calls Tryz.prog 40 #[.pointer (some ⟨gr, 0, none⟩)] w fun e w' => e = .returned (lv L.1 L.2.1 L.2.2) ∧ Below w.heap.size w w' := by
  have hb := below_new w (.cells #[.int .i64 L.1, .int .i64 L.2.1, .int .i64 L.2.2] 56)
  have hB := Blk.new w 56 #[.int .i64 L.1, .int .i64 L.2.1, .int .i64 L.2.2]
  obtain ⟨x0, x1, x2, x3, x4, x5, x6⟩ := (h.blk.below (below_new w (.cells #[.int .i64 0, .int .i64 0, .int .i64 0] 56))).sevC
  go_enter Tryz.func40, Tryz.ntmps40
  go_wp2_with fail
  exact bodyPost_ret (res_lease1 rfl rfl (g := w.heap.size) hB) rfl ⟨rfl, hb⟩
set_option maxRecDepth 100000 in
set_option maxHeartbeats 1000000 in
theorem RGive_any {w : World} {gr gs : Nat} {q : Fp} {d : Dk Sv} {sp bo n : Int} {L : L3r} (h : RgM w gr gs q d sp bo L n) (hf : Fok d) (hl : d.sure.length + d.pend.length ≤ 900) (o : Int) :
    Calls Tryz.prog 22 #[.pointer (some ⟨gr, 0, none⟩), .int .i64 o] w fun e w' => ∃ k d' L', GivO d L o k d' L' ∧ e = .returned (errv k) ∧ RgG w gr gs q sp bo d' L' n w' := by
  have HG := Lib.hid (Give_any L.1 L.2.1 L.2.2 o w)
  unfold Leased at HG
  have hno := @GivO.no d L o
  have hto := @GivO.gave d L o
  unfold giveL at hno hto
  generalize give L.1 L.2.1 L.2.2 o = t at *
  obtain ⟨t1, t2, t3, t4⟩ := t
  dsimp only at HG hno hto
  obtain ⟨x0, x1, x2, x3, x4, x5, x6⟩ := h.blk.sevC
  have H := Lib.hid h
  have HNo := Lib.hid hno
  have HTo := Lib.hid hto
  clear h hno hto
  go_enter Tryz.func22, Tryz.ntmps22
  go_wp2_with fail
  refine HG.out.mono ?_
  rintro e w1 ⟨rfl, hb1⟩
  have hb2 := bel_alloc hb1 (.cells #[.int .i64 t1, .int .i64 t2, .int .i64 t3] 56)
  have HR2 := Lib.hid (H.out.below hb2)
  have HB2 := Lib.hid (Blk.new w1 56 #[.int .i64 t1, .int .i64 t2, .int .i64 t3])
  have Hb2 := Lib.hid hb2
  clear HG hb1 hb2 x0 x1 x2 x3 x4 x5 x6
  rcases Decidable.em (t4 = 0) with h0 | h0
  rotate_left
  · obtain ⟨ev, hev⟩ := errv_ifc h0
    have HO := Lib.hid (show ∃ k d' L', GivO d L o k d' L' ∧ Ending.returned (errv t4) = .returned (errv k) ∧ RgG w gr gs q sp bo d' L' n (w1.alloc (.cells #[.int .i64 t1, .int .i64 t2, .int .i64 t3] 56)) from ⟨t4, d, L, HNo.out h0, rfl, RgG.still H.out Hb2.out⟩)
    rw [hev] at HO ⊢
    clear hev h0
    go_wp2_with fail
    go_ret
    exact HO.out
  subst h0
  have HK := Lib.hid (RKeep_any HR2.out hf hl (t1, t2, t3))
  rw [show errv 0 = Value.nilIface from rfl]
  go_wp2_with fail
  refine HK.out.mono ?_
  clear HK
  rintro e w3 ⟨A, c, rfl, q3, hg3, hR3, hF3, hM3⟩
  have HG3 := Lib.hid (HTo.out A c (by first | rfl | trivial))
  have HF3 := Lib.hid ((Frg.of_below (q := q) gr Hb2.out).trans hF3 (fun i hi => .inl hi))
  have HM3 := Lib.hid (show ∀ i, q3.M i → q.M i ∨ w.heap.size ≤ i from fun i hi => by
    rcases hM3 i hi with h1 | h1
    · exact .inl h1
    · have := Hb2.out.size; exact .inr (by omega))
  have HR3 := Lib.hid hR3
  have Hg3 := Lib.hid hg3
  clear hR3 hF3 hM3 hg3 HR2 HB2 Hb2
  generalize rgKeep d (t1, t2, t3) A c = r at *
  obtain ⟨d3, k3⟩ := r
  dsimp only at HR3 HG3 ⊢
  go_wp2_with fail
  go_ret
  exact ⟨k3, d3, _, HG3.out, rfl, q3, Hg3.out, HR3.out, HF3.out, HM3.out⟩
end Go.Proofs.YtddmfoldnlafaaaGreatDoor
