/- WHAT IT HOLDS: a disk cut, walked. | WHAT IT HOLDS: a disk started anew, walked. -/
import Derived.Test.YtabkeaammiellaaDoorStoreWholeG13
namespace Go.Proofs.YtabkeaammiellaaDoor
open Go.RowKit Go.Maps Go.Sort
attribute [local go_sem ↓] Go.wp_at_zero Go.wp_at_succ

theorem kept_none {α : Type} (cs : List (Chg α)) : kept [] cs = [] := by simp [kept]
theorem kept_nil {α : Type} (keep : List Bool) : kept keep ([] : List (Chg α)) = [] := by simp [kept]
theorem kept_cons {α : Type} (b : Bool) (keep : List Bool) (c : Chg α) (cs : List (Chg α)) : kept (b :: keep) (c :: cs) = (if b = true then [c] else []) ++ kept keep cs := by
  cases b <;> simp [kept]
theorem kept_len {α : Type} (keep : List Bool) (cs : List (Chg α)) : (kept keep cs).length ≤ cs.length := by
  unfold kept
  rw [List.length_map]
  refine Nat.le_trans (List.length_filter_le _ _) ?_
  rw [List.length_zip]
  exact Nat.min_le_left _ _
theorem Blk.dk1 {W : World} {q : Fp} {d : Dk Sv} (h : Blk W q.g 82 (dka q d)) : W.cell? ⟨q.g, 1, none⟩ = some (.map (some q.bs)) := h.cell 1
theorem kept_succ {α : Type} : ∀ (keep : List Bool) (cs : List (Chg α)) {k : Nat} (hk : k < cs.length), kept keep (cs.take (k + 1)) = kept keep (cs.take k) ++ (if keep[k]? = some true then [cs[k]] else [])
  | [], cs, k, _ => by rw [kept_none, kept_none]; rfl
  | b :: keep, [], _, hk => by simp at hk
  | b :: keep, c :: cs, 0, _ => by
    rw [List.take_succ_cons, kept_cons, List.take_zero, List.take_zero, kept_nil, kept_nil]
    simp
  | b :: keep, c :: cs, k + 1, hk => by
    rw [List.take_succ_cons, List.take_succ_cons, kept_cons, kept_cons, kept_succ keep cs (by simpa using hk), List.append_assoc]
    simp
theorem kept_mem {α : Type} {keep : List Bool} {cs : List (Chg α)} {x : Chg α} (h : x ∈ kept keep cs) : x ∈ cs := by
  unfold kept at h
  obtain ⟨p, hp, rfl⟩ := List.mem_map.1 h
  exact (List.of_mem_zip (List.mem_filter.1 hp).1).1
/-- what is kept is sure, nothing is pending, the disk is down -/
theorem Dsk.cut {w wr : World} {q : Fp} {d : Dk Sv} (keep : List Bool) (h : Dsk w q d) (hwr : Wr w wr q.bs) (hO : OmD wr q.bs (fdos d.sure (kept keep d.pend))) {es : Array MapEntry} {clock : Nat} (hb : wr.heap[q.bs]? = some (.map es clock)) :
    Dgo w q d (dCut keep d) ((((wr.alloc (.map es clock)).setCell ⟨q.g, 2, none⟩ (.map (some wr.heap.size))).setCell ⟨q.g, 3, none⟩ (.slice none 0 0)).setCell ⟨q.g, 5, none⟩ (.bool true)) := by
  have hB : Blk wr q.g 82 (dka q d) := h.blk.wr hwr (fun e => h.neg.1 e.symm)
  have hw2 : Wr (wr.alloc (.map es clock)) ((((wr.alloc (.map es clock)).setCell ⟨q.g, 2, none⟩ (.map (some wr.heap.size))).setCell ⟨q.g, 3, none⟩ (.slice none 0 0)).setCell ⟨q.g, 5, none⟩ (.bool true)) q.g := (((Wr.refl _ _).set_ 2 _).set_ 3 _).set_ 5 _
  have hw : Wr wr ((((wr.alloc (.map es clock)).setCell ⟨q.g, 2, none⟩ (.map (some wr.heap.size))).setCell ⟨q.g, 3, none⟩ (.slice none 0 0)).setCell ⟨q.g, 5, none⟩ (.bool true)) q.g := ((((Wr.refl _ _).alloc _).set_ 2 _).set_ 3 _).set_ 5 _
  have hBlk := (((hB.alloc (.map es clock)).set_ 2 (.map (some wr.heap.size))).set_ 3 (.slice none 0 0)).set_ 5 (.bool true)
  have hs : OmD (wr.alloc (.map es clock)) wr.heap.size (fdos d.sure (kept keep d.pend)) := by
    obtain ⟨es2, clock2, hb2, r⟩ := hO
    rw [hb] at hb2
    injection hb2 with hb2
    injection hb2 with e1 e2
    subst e1
    subst e2
    exact ⟨es, clock, heap_alloc_new wr _, r⟩
  have hall : ∀ p ∈ fdos d.sure (kept keep d.pend), p.1.length ≤ 24 ∧ p.2 ∈ svs d := by
    refine fdos_all (kept keep d.pend) (N := fun s => s.length ≤ 24) (V := fun s => s ∈ svs d) (fun p hp => ⟨h.nm.1 p hp, ?_⟩) fun x hx => ⟨(h.nm.2 x (kept_mem hx)).1, (h.nm.2 x (kept_mem hx)).2, ?_⟩
    · exact List.mem_append.2 (.inl (List.mem_map_of_mem hp))
    · exact List.mem_append.2 (.inr (List.mem_map_of_mem (f := fun y : Chg Sv => y.val) (kept_mem hx)))
  have hsv : ∀ s ∈ svs (dCut keep d), s ∈ svs d := by
    intro s hs
    simp only [svs, dCut, List.map_nil, List.append_nil, List.mem_map] at hs
    obtain ⟨p, hp, rfl⟩ := hs
    exact (hall p hp).2
  have hz := hwr.size
  generalize ((((wr.alloc (.map es clock)).setCell ⟨q.g, 2, none⟩ (.map (some wr.heap.size))).setCell ⟨q.g, 3, none⟩ (.slice none 0 0)).setCell ⟨q.g, 5, none⟩ (.bool true)) = w' at *
  have hM : ∀ i, Fp.M ⟨q.g, q.bs, wr.heap.size, none, 0⟩ i → q.M i ∨ w.heap.size ≤ i := by
    rintro i (e | e | e | e)
    · exact .inl (.inl e)
    · exact .inl (.inr (.inl e))
    · exact .inr (by dsimp only at e; omega)
    · cases e
  have hF : Frd q w w' := (Frd.of_wr (.inr (.inl rfl)) hwr).trans (Frd.of_wr (q := q) (.inl rfl) hw) fun i hi => .inl hi
  have hlt : ∀ s ∈ svs (dCut keep d), s.l ≠ [] → ∀ ad, s.A = some ad → ad.block < w.heap.size := fun s hs hne ad hA => h.lt (.inr ⟨s, hsv s hs, hne, by rw [hA]; rfl⟩)
  refine ⟨⟨q.g, q.bs, wr.heap.size, none, 0⟩, rfl, ⟨hBlk, ?_, ?_, Own.none_ _ _ _ _, ?_, ?_, ?_, h.ris.fdos _, ?_, ?_⟩, hF, hM, ?_⟩
  · exact OmD.wr hO hw h.neg.1
  · have := h.blk.lt
    exact OmD.wr hs hw2 (by dsimp only; omega)
  · have := h.sure.lt
    dsimp only
    omega
  · intro s hs
    exact SlB.sameB (h.rd s (hsv s hs)) fun hne ad hA => hF.block _ (hlt s hs hne ad hA) (h.ap s (hsv s hs) hne ad hA)
  · intro s hs hne ad hA hm
    rcases hM _ hm with hm | hm
    · exact h.ap s (hsv s hs) hne ad hA hm
    · have h5 := hlt s hs hne ad hA
      omega
  · exact fun s hs => h.len s (hsv s hs)
  · exact ⟨fun p hp => (hall p hp).1, fun x hx => by simp [dCut] at hx⟩
  · rintro i (hi | ⟨s, hs, hne, hA⟩)
    · rcases hM i hi with hi | hi
      · exact .inl (.inl hi)
      · exact .inr hi
    · exact .inl (.inr ⟨s, hsv s hs, hne, hA⟩)
set_option maxRecDepth 100000 in
set_option maxHeartbeats 1000000 in
theorem Cut_any {w : World} {q : Fp} {d : Dk Sv} (h : Dsk w q d) (hn : d.pend.length ≤ 1000000) (hL : d.sure.length ≤ 1000000) (keep : List Bool) {B : Option Addr} {kc : Nat} (hK : Sl w 1 B keep.length kc (keep.map Value.bool)) (hKM : keep ≠ [] → ∀ ad, B = some ad → ad.block ≠ q.bs) :
    Calls Tryd.prog 15 #[.pointer (some ⟨q.g, 0, none⟩), .slice B keep.length kc] w fun e w' => e = .returned (.tuple #[]) ∧ Dgo w q d (dCut keep d) w' := by
  obtain ⟨a0, a1, a2, a3, a4, a5, af1, af2, af3, af4, af5⟩ := h.six
  have HD := Lib.hid h
  have HK := Lib.hid hK
  clear h hK
  go_enter Tryd.func15, Tryd.ntmps15
  go_wp2_with fail
  go_loopw [13] (fun x wr => ∃ k : Nat, k ≤ d.pend.length ∧ x = .int .i64 k ∧ OmD wr q.bs (fdos d.sure (kept keep (d.pend.take k))) ∧ Wr w wr q.bs) (fun x w => d.pend.length - (intOf x).toNat)
  case atStart => exact ⟨0, Nat.zero_le _, rfl, HD.out.sure, Wr.refl _ _⟩
  case round =>
    obtain ⟨k, hk, rfl, hO, hw⟩ := hrel
    have hB : Blk wr q.g 82 (dka q d) := HD.out.blk.wr hw (fun e => HD.out.neg.1 e.symm)
    clear a0 a1 a2 a3 a4 a5 af1 af2 af3 af4 af5
    obtain ⟨a1, a2, a3⟩ : wr.cell? ⟨q.g, 1, none⟩ = some (.map (some q.bs)) ∧ wr.cell? ⟨q.g, 2, none⟩ = some (.map (some q.bm)) ∧ wr.cell? ⟨q.g, 3, none⟩ = some (.slice q.A d.pend.length q.c) := ⟨hB.cell 1, hB.cell 2, hB.cell 3⟩
    have hP : Own wr 0 87 4 q.A d.pend.length q.c (d.pend.flatMap chl) := World.ownsRow.kept HD.out.pend hw (.inr fun e => (HD.out.negA (by rw [← ownBlock_slice]; exact e)).2.1 rfl)
    by_cases hlt : k < d.pend.length
    · obtain ⟨ad, b, o, hA, had, hcc⟩ := Sl.atS (f := chl) (size := 4) (fun _ => rfl) (by omega) hP.sl hlt
      have hc0 := hcc 0 _ rfl
      have hc1 := hcc 1 _ rfl
      have hc2 := hcc 2 _ rfl
      have hc3 := hcc 3 _ rfl
      rw [Nat.add_zero] at hc0
      have HKS := Lib.hid (kept_succ keep d.pend hlt)
      have hnm := HD.out.nm.2 _ (List.getElem_mem hlt)
      clear hcc
      generalize d.pend[k] = x at *
      obtain ⟨kd, nm, tt, ⟨sA, sc, sl⟩⟩ := x
      dsimp only [Sv.v] at *
      subst_vars
      rw [hA] at *
      clear hA
      have hnew : Wr w (wr.alloc (.cells (cha ⟨kd, nm, tt, ⟨sA, sc, sl⟩⟩) 87)) q.bs := hw.alloc _
      have hO1 := hO.below (below_new wr (.cells (cha ⟨kd, nm, tt, ⟨sA, sc, sl⟩⟩) 87))
      cases hkk : keep[k]? with
      | none =>
        have hkl : (keep.length : Int) ≤ (k : Int) := by
          have := List.getElem?_eq_none_iff.1 hkk
          omega
        rw [hkk] at HKS
        have HE := Lib.hid (show kept keep (d.pend.take (k + 1)) = kept keep (d.pend.take k) from by rw [HKS.out]; simp)
        clear HKS hkk
        go_wp2_with fail
        go_roundw
        case rel => exact ⟨k + 1, hlt, rfl, by rw [HE.out]; exact hO1, hnew⟩
        case measure => simp [intOf]; omega
      | some kb =>
        have hkl0 : k < keep.length := (List.getElem?_eq_some_iff.1 hkk).1
        have hkb : keep[k] = kb := (List.getElem?_eq_some_iff.1 hkk).2
        have hkl : (k : Int) < (keep.length : Int) := by omega
        have hKf : Sl w 1 B keep.length kc (keep.flatMap fun b => [Value.bool b]) := by
          have := HK.out
          rwa [List.map_eq_flatMap] at this
        obtain ⟨adB, b2, o2, hBB, had2, hcc2⟩ := Sl.atS (f := fun b => [Value.bool b]) (size := 1) (fun _ => rfl) (by omega) hKf hkl0
        have hcB := hcc2 0 _ rfl
        rw [hkb, Nat.add_zero] at hcB
        rw [Nat.mul_one] at had2
        have hb2 : b2 = adB.block := by
          have := congrArg Addr.block had2
          rw [addr_add_block] at this
          exact this.symm
        replace hcB : wr.cell? ⟨b2, o2, none⟩ = some (.bool kb) := by
          rw [← hcB]
          unfold World.cell?
          rw [hw.block b2 (World.block_lt_of_cell? _ _ hcB) (fun e => hKM (by rintro e2; rw [e2] at hkl0; simp at hkl0) adB hBB (by rw [← hb2]; injection e))]
        have hcB2 : (wr.alloc (.cells #[.int .i64 kd, .string ⟨nm.toArray⟩, .string ⟨tt.toArray⟩, .slice sA sl.length sc] 87)).cell? ⟨b2, o2, none⟩ = some (.bool kb) := ((below_new wr _).cell (p := ⟨b2, o2, none⟩) (World.block_lt_of_cell? _ _ hcB)).trans hcB
        subst hBB
        clear hKf hcc2 hb2
        rw [hkk] at HKS
        clear hkk hkb
        cases kb
        · have HE := Lib.hid (show kept keep (d.pend.take (k + 1)) = kept keep (d.pend.take k) from by rw [HKS.out]; simp)
          clear HKS
          go_wp2_with fail
          go_roundw
          case rel => exact ⟨k + 1, hlt, rfl, by rw [HE.out]; exact hO1, hnew⟩
          case measure => simp [intOf]; omega
        · have HE := Lib.hid (show fdos d.sure (kept keep (d.pend.take (k + 1))) = fdo (fdos d.sure (kept keep (d.pend.take k))) ⟨kd, nm, tt, ⟨sA, sc, sl⟩⟩ from by rw [HKS.out]; exact fdos_snoc _ _ _)
          clear HKS
          have hfl : (fdos d.sure (kept keep (d.pend.take k))).length ≤ 100000000 := by
            have h1 := flen_dos d.sure (kept keep (d.pend.take k))
            have h2 := kept_len keep (d.pend.take k)
            have h3 : (d.pend.take k).length ≤ d.pend.length := by simp; omega
            omega
          have hst : Blk (wr.alloc (.cells (cha ⟨kd, nm, tt, ⟨sA, sc, sl⟩⟩) 87)).drew wr.heap.size 87 (cha ⟨kd, nm, tt, ⟨sA, sc, sl⟩⟩) ∧ Blk (wr.alloc (.cells (cha ⟨kd, nm, tt, ⟨sA, sc, sl⟩⟩) 87)).drew q.g 82 (dka q d) := ⟨(Blk.new wr _ _).drew, (hB.alloc _).drew⟩
          have hO2 : OmD (wr.alloc (.cells (cha ⟨kd, nm, tt, ⟨sA, sc, sl⟩⟩) 87)).drew q.bs (fdos d.sure (kept keep (d.pend.take k))) := hO1
          have hnew2 : Wr w (wr.alloc (.cells (cha ⟨kd, nm, tt, ⟨sA, sc, sl⟩⟩) 87)).drew q.bs := hnew.drew
          have hk1 : wr.heap.size ≠ q.bs := by have := hO.lt; omega
          have hk2 : q.g ≠ q.bs := fun e => HD.out.neg.1 e.symm
          go_upto_region 5 with (fail)
          clear hO1 hnew hB hP hO hw a1 a2 a3 hc0 hc1 hc2 hc3 hcB hcB2
          refine wp_region_held_drew (S := (fun W => Blk W wr.heap.size 87 (cha ⟨kd, nm, tt, ⟨sA, sc, sl⟩⟩) ∧ Blk W q.g 82 (dka q d))) (by kernel_rfl) ?_ (fun hHeld => ?_)
          · exact hst
          refine gen0 (T := fun W => ((fun W => Blk W wr.heap.size 87 (cha ⟨kd, nm, tt, ⟨sA, sc, sl⟩⟩) ∧ Blk W q.g 82 (dka q d))) W ∧ OmD W q.bs (fdos d.sure (kept keep (d.pend.take k))) ∧ Wr w W q.bs ∧ True) ?_ (fun wq1 hT => ?_)
          · exact ⟨by (first | with_reducible exact hst | with_reducible exact hHeld | exact ⟨hHeld.1.wr hw5 hk1, hHeld.2.wr hw5 hk2⟩), by (first | with_reducible assumption | exact f1.trans hw5 | exact hO2 | exact hnew2), by (first | with_reducible assumption | exact f1.trans hw5 | exact hO2 | exact hnew2), trivial⟩
          (try clear f0 f1 f2 f3 f4 f5 f6 f7 f8 f9 f10 f11)
          obtain ⟨hHeld, f0, f1, -⟩ := hT
          refine wpAnyH_take (i := 0) (oi := ⟨some 28, _, _, _, _, _⟩) (v := ?_) rfl (by kernel_rfl) (by kernel_rfl) (by kernel_rfl) (fun _ _ _ h => h) (Or.inl ⟨by kernel_rfl, ?_⟩) (by assumption) ?_
          rotate_left
          · (intro wS hSw; (try dsimp only at hSw); obtain ⟨q0, q1, q2, q3⟩ := hSw.1.fourC; have s1 := (Blk.dk1 hSw.2); clear hSw; go_simp; (try with_reducible rfl))
          (try simp only [Act.put, List.setIfInBounds_toArray, List.set_cons_zero, List.set_cons_succ])
          refine wpAnyH_take (i := 1) (oi := ⟨some 29, _, _, _, _, _⟩) (v := ?_) rfl (by kernel_rfl) (by kernel_rfl) (by kernel_rfl) (fun _ _ _ h => h) (Or.inl ⟨by kernel_rfl, ?_⟩) (by assumption) ?_
          rotate_left
          · (intro wS hSw; (try dsimp only at hSw); obtain ⟨q0, q1, q2, q3⟩ := hSw.1.fourC; have s1 := (Blk.dk1 hSw.2); clear hSw; go_simp; (try with_reducible rfl))
          (try simp only [Act.put, List.setIfInBounds_toArray, List.set_cons_zero, List.set_cons_succ])
          refine wpAnyH_take (i := 2) (oi := ⟨some 30, _, _, _, _, _⟩) (v := ?_) rfl (by kernel_rfl) (by kernel_rfl) (by kernel_rfl) (fun _ _ _ h => h) (Or.inl ⟨by kernel_rfl, ?_⟩) (by assumption) ?_
          rotate_left
          · (intro wS hSw; (try dsimp only at hSw); obtain ⟨q0, q1, q2, q3⟩ := hSw.1.fourC; have s1 := (Blk.dk1 hSw.2); clear hSw; go_simp; (try with_reducible rfl))
          (try simp only [Act.put, List.setIfInBounds_toArray, List.set_cons_zero, List.set_cons_succ])
          refine wpAnyH_take (i := 3) (oi := ⟨some 31, _, _, _, _, _⟩) (v := ?_) rfl (by kernel_rfl) (by kernel_rfl) (by kernel_rfl) (fun _ _ _ h => h) (Or.inl ⟨by kernel_rfl, ?_⟩) (by assumption) ?_
          rotate_left
          · (intro wS hSw; (try dsimp only at hSw); obtain ⟨q0, q1, q2, q3⟩ := hSw.1.fourC; have s1 := (Blk.dk1 hSw.2); clear hSw; go_simp; (try with_reducible rfl))
          (try simp only [Act.put, List.setIfInBounds_toArray, List.set_cons_zero, List.set_cons_succ])
          refine wpAnyH_take (i := 4) (oi := ⟨some 32, _, _, _, _, _⟩) (v := ?_) rfl (by kernel_rfl) (by kernel_rfl) (by kernel_rfl) (fun _ _ _ h => h) (Or.inl ⟨by kernel_rfl, ?_⟩) (by assumption) ?_
          rotate_left
          · (intro wS hSw; (try dsimp only at hSw); obtain ⟨q0, q1, q2, q3⟩ := hSw.1.fourC; have s1 := (Blk.dk1 hSw.2); clear hSw; go_simp; (try with_reducible rfl))
          (try simp only [Act.put, List.setIfInBounds_toArray, List.set_cons_zero, List.set_cons_succ])
          refine wpAnyH_ready (rs := [5]) (by kernel_rfl) (by simp) ?_
          refine AllReadyH.cons (o := ⟨some 33, _, _, _, _, _⟩) rfl (fun K hK => ?_) AllReadyH.nil
          go_simp
          (refine (Do_any ⟨kd, nm, tt, ⟨sA, sc, sl⟩⟩ f0 hfl (by have := hnm.1; dsimp only; omega) (by have := hnm.2; dsimp only; omega)).mono ?_; rintro e w5 ⟨rfl, hO5, hw5⟩)
          go_wp2_with fail
          refine hK.out _ _ ?_ (fun _ => ?_)
          · ((try dsimp only); (first | with_reducible exact hst | with_reducible exact hHeld | exact ⟨hHeld.1.wr hw5 hk1, hHeld.2.wr hw5 hk2⟩))
          clear hK K
          (try simp only [Act.put, List.setIfInBounds_toArray, List.set_cons_zero, List.set_cons_succ])
          refine gen0 (T := fun W => ((fun W => Blk W wr.heap.size 87 (cha ⟨kd, nm, tt, ⟨sA, sc, sl⟩⟩) ∧ Blk W q.g 82 (dka q d))) W ∧ OmD W q.bs (fdo (fdos d.sure (kept keep (d.pend.take k))) ⟨kd, nm, tt, ⟨sA, sc, sl⟩⟩) ∧ Wr w W q.bs ∧ True) ?_ (fun wq2 hT => ?_)
          · exact ⟨by (first | with_reducible exact hst | with_reducible exact hHeld | exact ⟨hHeld.1.wr hw5 hk1, hHeld.2.wr hw5 hk2⟩), by (first | with_reducible assumption | exact f1.trans hw5 | exact hO2 | exact hnew2), by (first | with_reducible assumption | exact f1.trans hw5 | exact hO2 | exact hnew2), trivial⟩
          (try clear f0 f1 f2 f3 f4 f5 f6 f7 f8 f9 f10 f11)
          obtain ⟨hHeld, f0, f1, -⟩ := hT
          refine wpAnyH_done (by kernel_rfl) ?_ _
          go_wp2_with fail
          go_roundw
          case rel => exact ⟨k + 1, hlt, rfl, by rw [HE.out]; exact f0, f1⟩
          case measure => simp [intOf]; omega
    · have hkn : k = d.pend.length := by omega
      subst hkn
      rw [List.take_length] at hO
      have hO' := hO
      obtain ⟨es, clock, hb, -⟩ := hO'
      have hE := Lib.hid (HD.out.cut keep hw hO hb)
      have hge : ¬ ((d.pend.length : Int) < (d.pend.length : Int)) := by omega
      go_wp2_with fail
      refine (Tryd.maps_Clone_any q.bs es clock wr hb).mono ?_
      rintro e w2 ⟨rfl, rfl⟩
      have hB2 := hB.alloc (.map es clock)
      have hB3 := hB2.set_ 2 (.map (some wr.heap.size))
      have hB4 := hB3.set_ 3 (.slice none 0 0)
      have g2 : (wr.alloc (.map es clock)).frozen? ⟨q.g, 2, none⟩ = false := hB2.frozen 2
      have b2 : (wr.alloc (.map es clock)).cell? ⟨q.g, 2, none⟩ = some (.map (some q.bm)) := hB2.cell 2
      have g3 : ((wr.alloc (.map es clock)).setCell ⟨q.g, 2, none⟩ (.map (some wr.heap.size))).frozen? ⟨q.g, 3, none⟩ = false := hB3.frozen 3
      have b3 : ((wr.alloc (.map es clock)).setCell ⟨q.g, 2, none⟩ (.map (some wr.heap.size))).cell? ⟨q.g, 3, none⟩ = some (.slice q.A d.pend.length q.c) := hB3.cell 3
      have g5 : (((wr.alloc (.map es clock)).setCell ⟨q.g, 2, none⟩ (.map (some wr.heap.size))).setCell ⟨q.g, 3, none⟩ (.slice none 0 0)).frozen? ⟨q.g, 5, none⟩ = false := hB4.frozen 5
      have b5 : (((wr.alloc (.map es clock)).setCell ⟨q.g, 2, none⟩ (.map (some wr.heap.size))).setCell ⟨q.g, 3, none⟩ (.slice none 0 0)).cell? ⟨q.g, 5, none⟩ = some (.bool d.down) := hB4.cell 5
      clear a1 a2 a3 hB2 hB3 hB4
      go_wp2_with fail
      go_end0
      exact ⟨rfl, hE.out⟩
end Go.Proofs.YtabkeaammiellaaDoor

namespace Go.Proofs.YtabkeaammiellaaDoor
open Go.RowKit Go.Maps Go.Sort
attribute [local go_sem ↓] Go.wp_at_zero Go.wp_at_succ

theorem dStart_up {α : Type} {d : Dk α} (h : d.down = false) : dStart d = { d with fuse := -1 } := by unfold dStart; rw [if_neg (by simp [h])]
set_option maxRecDepth 100000 in
set_option maxHeartbeats 1000000 in
theorem StartUp_any {w : World} {q : Fp} {d : Dk Sv} (h : Dsk w q d) (hd : d.down = false) :
    Calls Tryd.prog 16 #[.pointer (some ⟨q.g, 0, none⟩)] w fun e w' => e = .returned (.tuple #[]) ∧ Dgo w q d (dStart d) w' := by
  obtain ⟨a0, a1, a2, a3, a4, a5, af1, af2, af3, af4, af5⟩ := h.six
  have hB5 := h.blk.set_ 5 (.bool false)
  have hB4 := hB5.set_ 4 (.int .i64 (-1))
  have hW : Wr w ((w.setCell ⟨q.g, 5, none⟩ (.bool false)).setCell ⟨q.g, 4, none⟩ (.int .i64 (-1))) q.g := ((Wr.refl _ _).set_ 5 _).set_ 4 _
  have hT := h.turn (d' := { d with fuse := -1 }) (by rw [show dka q { d with fuse := -1 } = #[.int .i64 d.room, .map (some q.bs), .map (some q.bm), .slice q.A d.pend.length q.c, .int .i64 (-1), .bool false] from by simp [dka, hd]]; exact hB4) hW rfl rfl
  have hE := Lib.hid (show Dgo w q d (dStart d) _ from by rw [dStart_up hd]; exact Dgo.of hT (Frd.of_wr (.inl rfl) hW) rfl rfl)
  rw [hd] at a5
  clear hB5 hB4 hW hT h
  go_enter Tryd.func16, Tryd.ntmps16
  go_wp2_with fail
  go_end0
  exact ⟨rfl, hE.out⟩
theorem dStart_down {α : Type} {d : Dk α} (h : d.down = true) : dStart d = { dCut [] d with down := false, fuse := -1 } := by
  unfold dStart dCut
  rw [if_pos h, kept_none]
  rfl
/-- the struct alone turns, behind an act -/
theorem Dgo.turn {w w1 w2 : World} {q q1 : Fp} {d d1 d2 : Dk Sv} (hg : q1.g = q.g) (hD : Dsk w1 q1 d1) (hF : Frd q w w1) (hM : ∀ i, q1.M i → q.M i ∨ w.heap.size ≤ i) (hT : ∀ i, Tc q1 d1 i → Tc q d i ∨ w.heap.size ≤ i)
    (hB : Blk w2 q1.g 82 (dka q1 d2)) (hw : Wr w1 w2 q1.g) (h1 : d2.sure = d1.sure) (h2 : d2.pend = d1.pend) : Dgo w q d d2 w2 :=
  ⟨q1, hg, hD.turn hB hw h1 h2, hF.trans (Frd.of_wr (q := q1) (.inl rfl) hw) hM, hM, fun i hi => hT i (hi.same h1 h2)⟩
set_option maxRecDepth 100000 in
set_option maxHeartbeats 1000000 in
theorem StartDown_any {w : World} {q : Fp} {d : Dk Sv} (h : Dsk w q d) (hn : d.pend.length ≤ 1000000) (hL : d.sure.length ≤ 1000000) (hd : d.down = true) :
    Calls Tryd.prog 16 #[.pointer (some ⟨q.g, 0, none⟩)] w fun e w' => e = .returned (.tuple #[]) ∧ Dgo w q d (dStart d) w' := by
  obtain ⟨a0, a1, a2, a3, a4, a5, -⟩ := h.six
  have HC := Lib.hid (Cut_any (B := none) (kc := 0) h hn hL [] (Sl.none_ _ _) (fun e => absurd rfl e))
  rw [hd] at a5
  have HDS := Lib.hid (dStart_down hd)
  clear h
  go_enter Tryd.func16, Tryd.ntmps16
  go_wp2_with fail
  refine HC.out.mono ?_
  rintro e w1 ⟨rfl, q1, hg, hD, hF, hM, hT⟩
  have hB := hD.blk
  have hB5 := hB.set_ 5 (.bool false)
  have hB4 := hB5.set_ 4 (.int .i64 (-1))
  have hW : Wr w1 ((w1.setCell ⟨q1.g, 5, none⟩ (.bool false)).setCell ⟨q1.g, 4, none⟩ (.int .i64 (-1))) q1.g := ((Wr.refl _ _).set_ 5 _).set_ 4 _
  have hE := Lib.hid (show Dgo w q d (dStart d) _ from by rw [HDS.out]; exact Dgo.turn (d2 := { dCut [] d with down := false, fuse := -1 }) hg hD hF hM hT hB4 hW rfl rfl)
  obtain ⟨c0, c1, c2, c3, c4, c5, cf1, cf2, cf3, cf4, cf5⟩ := hD.six
  rw [hg] at *
  clear a0 a1 a2 a3 a4 a5 hB hB5 hB4 hW hD hF hM hT HC
  go_wp2_with fail
  go_end0
  exact ⟨rfl, hE.out⟩
end Go.Proofs.YtabkeaammiellaaDoor
