/- WHAT IT HOLDS: a disk cut, walked. | WHAT IT HOLDS: a disk started anew, walked. | WHAT IT HOLDS: what a fuse lets through, plainly (no program). | WHAT IT HOLDS: what is told of a disk: its names, what is pending, what is used; texts compared: walked. | WHAT IT HOLDS: a store, plainly: what is done to a disk. | WHAT IT HOLDS: a file of a disk named anew, walked. | WHAT IT HOLDS: a disk's sure files, told as a slice of files of their own, walked; texts compared. | WHAT IT HOLDS: the law's disk is alive, walked. | WHAT IT HOLDS: the document's names, walked; what a nil disk answers, walked; the law DiskNames, walked. -/
import Derived.Test.YtabnndjdkjkciaaGreatDoorCursorKeepsG10
import Derived.Test.YtabnndjdkjkciaaGreatDoorShelf
import Derived.Test.YtabnndjdkjkciaaGreatDoorCursorKeepsG09
import Derived.Deep.QuietTactic
import Derived.BigQuiet
import Derived.Test.YtabnndjdkjkciaaGreatDoorCursorKeepsG02
namespace Go.Proofs.YtabnndjdkjkciaaGreatDoor
open Go.RowKit Go.Maps Go.Sort
attribute [local go_sem ↓] Go.wp_at_zero Go.wp_at_succ

theorem kept_none {α : Type} (cs : List (Chg α)) : kept [] cs = [] := by simp [kept]
theorem kept_nil {α : Type} (keep : List Bool) : kept keep ([] : List (Chg α)) = [] := by simp [kept]
theorem kept_cons {α : Type} (b : Bool) (keep : List Bool) (c : Chg α) (cs : List (Chg α)) : kept (b :: keep) (c :: cs) = (if b = true then [c] else []) ++ kept keep cs := by
  cases b <;> simp [kept]
theorem kept_len {α : Type} (keep : List Bool) (cs : List (Chg α)) : (kept keep cs).length ≤ cs.length := by
  unfold kept
  rw [List.length_map]
  refine Nat.le_trans (List.length_filter_le _ _) ?_
  rw [List.length_zip]
  exact Nat.min_le_left _ _
theorem Blk.dk1 {W : World} {q : Fp} {d : Dk Sv} (h : Blk W q.g 158 (dka q d)) : W.cell? ⟨q.g, 1, none⟩ = some (.map (some q.bs)) := h.cell 1
theorem kept_succ {α : Type} : ∀ (keep : List Bool) (cs : List (Chg α)) {k : Nat} (hk : k < cs.length), kept keep (cs.take (k + 1)) = kept keep (cs.take k) ++ (if keep[k]? = some true then [cs[k]] else [])
  | [], cs, k, _ => by rw [kept_none, kept_none]; rfl
  | b :: keep, [], _, hk => by simp at hk
  | b :: keep, c :: cs, 0, _ => by
    rw [List.take_succ_cons, kept_cons, List.take_zero, List.take_zero, kept_nil, kept_nil]
    simp
  | b :: keep, c :: cs, k + 1, hk => by
    rw [List.take_succ_cons, List.take_succ_cons, kept_cons, kept_cons, kept_succ keep cs (by simpa using hk), List.append_assoc]
    simp
theorem kept_mem {α : Type} {keep : List Bool} {cs : List (Chg α)} {x : Chg α} (h : x ∈ kept keep cs) : x ∈ cs := by
  unfold kept at h
  obtain ⟨p, hp, rfl⟩ := List.mem_map.1 h
  exact (List.of_mem_zip (List.mem_filter.1 hp).1).1
/-- what is kept is sure, nothing is pending, the disk is down -/
theorem Dsk.cut {w wr : World} {q : Fp} {d : Dk Sv} (keep : List Bool) (h : Dsk w q d) (hwr : Wr w wr q.bs) (hO : OmD wr q.bs (fdos d.sure (kept keep d.pend))) {es : Array MapEntry} {clock : Nat} (hb : wr.heap[q.bs]? = some (.map es clock)) :
    Dgo w q d (dCut keep d) ((((wr.alloc (.map es clock)).setCell ⟨q.g, 2, none⟩ (.map (some wr.heap.size))).setCell ⟨q.g, 3, none⟩ (.slice none 0 0)).setCell ⟨q.g, 5, none⟩ (.bool true)) := by
  have hB : Blk wr q.g 158 (dka q d) := h.blk.wr hwr (fun e => h.neg.1 e.symm)
  have hw2 : Wr (wr.alloc (.map es clock)) ((((wr.alloc (.map es clock)).setCell ⟨q.g, 2, none⟩ (.map (some wr.heap.size))).setCell ⟨q.g, 3, none⟩ (.slice none 0 0)).setCell ⟨q.g, 5, none⟩ (.bool true)) q.g := (((Wr.refl _ _).set_ 2 _).set_ 3 _).set_ 5 _
  have hw : Wr wr ((((wr.alloc (.map es clock)).setCell ⟨q.g, 2, none⟩ (.map (some wr.heap.size))).setCell ⟨q.g, 3, none⟩ (.slice none 0 0)).setCell ⟨q.g, 5, none⟩ (.bool true)) q.g := ((((Wr.refl _ _).alloc _).set_ 2 _).set_ 3 _).set_ 5 _
  have hBlk := (((hB.alloc (.map es clock)).set_ 2 (.map (some wr.heap.size))).set_ 3 (.slice none 0 0)).set_ 5 (.bool true)
  have hs : OmD (wr.alloc (.map es clock)) wr.heap.size (fdos d.sure (kept keep d.pend)) := by
    obtain ⟨es2, clock2, hb2, r⟩ := hO
    rw [hb] at hb2
    injection hb2 with hb2
    injection hb2 with e1 e2
    subst e1
    subst e2
    exact ⟨es, clock, heap_alloc_new wr _, r⟩
  have hall : ∀ p ∈ fdos d.sure (kept keep d.pend), p.1.length ≤ 24 ∧ p.2 ∈ svs d := by
    refine fdos_all (kept keep d.pend) (N := fun s => s.length ≤ 24) (V := fun s => s ∈ svs d) (fun p hp => ⟨h.nm.1 p hp, ?_⟩) fun x hx => ⟨(h.nm.2 x (kept_mem hx)).1, (h.nm.2 x (kept_mem hx)).2, ?_⟩
    · exact List.mem_append.2 (.inl (List.mem_map_of_mem hp))
    · exact List.mem_append.2 (.inr (List.mem_map_of_mem (f := fun y : Chg Sv => y.val) (kept_mem hx)))
  have hsv : ∀ s ∈ svs (dCut keep d), s ∈ svs d := by
    intro s hs
    simp only [svs, dCut, List.map_nil, List.append_nil, List.mem_map] at hs
    obtain ⟨p, hp, rfl⟩ := hs
    exact (hall p hp).2
  have hz := hwr.size
  generalize ((((wr.alloc (.map es clock)).setCell ⟨q.g, 2, none⟩ (.map (some wr.heap.size))).setCell ⟨q.g, 3, none⟩ (.slice none 0 0)).setCell ⟨q.g, 5, none⟩ (.bool true)) = w' at *
  have hM : ∀ i, Fp.M ⟨q.g, q.bs, wr.heap.size, none, 0⟩ i → q.M i ∨ w.heap.size ≤ i := by
    rintro i (e | e | e | e)
    · exact .inl (.inl e)
    · exact .inl (.inr (.inl e))
    · exact .inr (by dsimp only at e; omega)
    · cases e
  have hF : Frd q w w' := (Frd.of_wr (.inr (.inl rfl)) hwr).trans (Frd.of_wr (q := q) (.inl rfl) hw) fun i hi => .inl hi
  have hlt : ∀ s ∈ svs (dCut keep d), s.l ≠ [] → ∀ ad, s.A = some ad → ad.block < w.heap.size := fun s hs hne ad hA => h.lt (.inr ⟨s, hsv s hs, hne, by rw [hA]; rfl⟩)
  refine ⟨⟨q.g, q.bs, wr.heap.size, none, 0⟩, rfl, ⟨hBlk, ?_, ?_, Own.none_ _ _ _ _, ?_, ?_, ?_, h.ris.fdos _, ?_, ?_⟩, hF, hM, ?_⟩
  · exact OmD.wr hO hw h.neg.1
  · have := h.blk.lt
    exact OmD.wr hs hw2 (by dsimp only; omega)
  · have := h.sure.lt
    dsimp only
    omega
  · intro s hs
    exact SlB.sameB (h.rd s (hsv s hs)) fun hne ad hA => hF.block _ (hlt s hs hne ad hA) (h.ap s (hsv s hs) hne ad hA)
  · intro s hs hne ad hA hm
    rcases hM _ hm with hm | hm
    · exact h.ap s (hsv s hs) hne ad hA hm
    · have h5 := hlt s hs hne ad hA
      omega
  · exact fun s hs => h.len s (hsv s hs)
  · exact ⟨fun p hp => (hall p hp).1, fun x hx => by simp [dCut] at hx⟩
  · rintro i (hi | ⟨s, hs, hne, hA⟩)
    · rcases hM i hi with hi | hi
      · exact .inl (.inl hi)
      · exact .inr hi
    · exact .inl (.inr ⟨s, hsv s hs, hne, hA⟩)
set_option maxRecDepth 100000 in
set_option maxHeartbeats 1000000 in
theorem Cut_any {w : World} {q : Fp} {d : Dk Sv} (h : Dsk w q d) (hn : d.pend.length ≤ 1000000) (hL : d.sure.length ≤ 1000000) (keep : List Bool) {B : Option Addr} {kc : Nat} (hK : Sl w 1 B keep.length kc (keep.map Value.bool)) (hKM : keep ≠ [] → ∀ ad, B = some ad → ad.block ≠ q.bs) :
    Calls Tryz.prog 90 #[.pointer (some ⟨q.g, 0, none⟩), .slice B keep.length kc] w fun e w' => e = .returned (.tuple #[]) ∧ Dgo w q d (dCut keep d) w' := by
  obtain ⟨a0, a1, a2, a3, a4, a5, af1, af2, af3, af4, af5⟩ := h.six
  have HD := Lib.hid h
  have HK := Lib.hid hK
  clear h hK
  go_enter Tryz.func90, Tryz.ntmps90
  go_wp2_with fail
  go_loopw [13] (fun x wr => ∃ k : Nat, k ≤ d.pend.length ∧ x = .int .i64 k ∧ OmD wr q.bs (fdos d.sure (kept keep (d.pend.take k))) ∧ Wr w wr q.bs) (fun x w => d.pend.length - (intOf x).toNat)
  case atStart => exact ⟨0, Nat.zero_le _, rfl, HD.out.sure, Wr.refl _ _⟩
  case round =>
    obtain ⟨k, hk, rfl, hO, hw⟩ := hrel
    have hB : Blk wr q.g 158 (dka q d) := HD.out.blk.wr hw (fun e => HD.out.neg.1 e.symm)
    clear a0 a1 a2 a3 a4 a5 af1 af2 af3 af4 af5
    obtain ⟨a1, a2, a3⟩ : wr.cell? ⟨q.g, 1, none⟩ = some (.map (some q.bs)) ∧ wr.cell? ⟨q.g, 2, none⟩ = some (.map (some q.bm)) ∧ wr.cell? ⟨q.g, 3, none⟩ = some (.slice q.A d.pend.length q.c) := ⟨hB.cell 1, hB.cell 2, hB.cell 3⟩
    have hP : Own wr 0 243 4 q.A d.pend.length q.c (d.pend.flatMap chl) := World.ownsRow.kept HD.out.pend hw (.inr fun e => (HD.out.negA (by rw [← ownBlock_slice]; exact e)).2.1 rfl)
    by_cases hlt : k < d.pend.length
    · obtain ⟨ad, b, o, hA, had, hcc⟩ := Sl.atS (f := chl) (size := 4) (fun _ => rfl) (by omega) hP.sl hlt
      have hc0 := hcc 0 _ rfl
      have hc1 := hcc 1 _ rfl
      have hc2 := hcc 2 _ rfl
      have hc3 := hcc 3 _ rfl
      rw [Nat.add_zero] at hc0
      have HKS := Lib.hid (kept_succ keep d.pend hlt)
      have hnm := HD.out.nm.2 _ (List.getElem_mem hlt)
      clear hcc
      generalize d.pend[k] = x at *
      obtain ⟨kd, nm, tt, ⟨sA, sc, sl⟩⟩ := x
      dsimp only [Sv.v] at *
      subst_vars
      rw [hA] at *
      clear hA
      have hnew : Wr w (wr.alloc (.cells (cha ⟨kd, nm, tt, ⟨sA, sc, sl⟩⟩) 243)) q.bs := hw.alloc _
      have hO1 := hO.below (below_new wr (.cells (cha ⟨kd, nm, tt, ⟨sA, sc, sl⟩⟩) 243))
      cases hkk : keep[k]? with
      | none =>
        have hkl : (keep.length : Int) ≤ (k : Int) := by
          have := List.getElem?_eq_none_iff.1 hkk
          omega
        rw [hkk] at HKS
        have HE := Lib.hid (show kept keep (d.pend.take (k + 1)) = kept keep (d.pend.take k) from by rw [HKS.out]; simp)
        clear HKS hkk
        go_wp2_with fail
        go_roundw
        case rel => exact ⟨k + 1, hlt, rfl, by rw [HE.out]; exact hO1, hnew⟩
        case measure => simp [intOf]; omega
      | some kb =>
        have hkl0 : k < keep.length := (List.getElem?_eq_some_iff.1 hkk).1
        have hkb : keep[k] = kb := (List.getElem?_eq_some_iff.1 hkk).2
        have hkl : (k : Int) < (keep.length : Int) := by omega
        have hKf : Sl w 1 B keep.length kc (keep.flatMap fun b => [Value.bool b]) := by
          have := HK.out
          rwa [List.map_eq_flatMap] at this
        obtain ⟨adB, b2, o2, hBB, had2, hcc2⟩ := Sl.atS (f := fun b => [Value.bool b]) (size := 1) (fun _ => rfl) (by omega) hKf hkl0
        have hcB := hcc2 0 _ rfl
        rw [hkb, Nat.add_zero] at hcB
        rw [Nat.mul_one] at had2
        have hb2 : b2 = adB.block := by
          have := congrArg Addr.block had2
          rw [addr_add_block] at this
          exact this.symm
        replace hcB : wr.cell? ⟨b2, o2, none⟩ = some (.bool kb) := by
          rw [← hcB]
          unfold World.cell?
          rw [hw.block b2 (World.block_lt_of_cell? _ _ hcB) (fun e => hKM (by rintro e2; rw [e2] at hkl0; simp at hkl0) adB hBB (by rw [← hb2]; injection e))]
        have hcB2 : (wr.alloc (.cells #[.int .i64 kd, .string ⟨nm.toArray⟩, .string ⟨tt.toArray⟩, .slice sA sl.length sc] 243)).cell? ⟨b2, o2, none⟩ = some (.bool kb) := ((below_new wr _).cell (p := ⟨b2, o2, none⟩) (World.block_lt_of_cell? _ _ hcB)).trans hcB
        subst hBB
        clear hKf hcc2 hb2
        rw [hkk] at HKS
        clear hkk hkb
        cases kb
        · have HE := Lib.hid (show kept keep (d.pend.take (k + 1)) = kept keep (d.pend.take k) from by rw [HKS.out]; simp)
          clear HKS
          go_wp2_with fail
          go_roundw
          case rel => exact ⟨k + 1, hlt, rfl, by rw [HE.out]; exact hO1, hnew⟩
          case measure => simp [intOf]; omega
        · have HE := Lib.hid (show fdos d.sure (kept keep (d.pend.take (k + 1))) = fdo (fdos d.sure (kept keep (d.pend.take k))) ⟨kd, nm, tt, ⟨sA, sc, sl⟩⟩ from by rw [HKS.out]; exact fdos_snoc _ _ _)
          clear HKS
          have hfl : (fdos d.sure (kept keep (d.pend.take k))).length ≤ 100000000 := by
            have h1 := flen_dos d.sure (kept keep (d.pend.take k))
            have h2 := kept_len keep (d.pend.take k)
            have h3 : (d.pend.take k).length ≤ d.pend.length := by simp; omega
            omega
          have hst : Blk (wr.alloc (.cells (cha ⟨kd, nm, tt, ⟨sA, sc, sl⟩⟩) 243)).drew wr.heap.size 243 (cha ⟨kd, nm, tt, ⟨sA, sc, sl⟩⟩) ∧ Blk (wr.alloc (.cells (cha ⟨kd, nm, tt, ⟨sA, sc, sl⟩⟩) 243)).drew q.g 158 (dka q d) := ⟨(Blk.new wr _ _).drew, (hB.alloc _).drew⟩
          have hO2 : OmD (wr.alloc (.cells (cha ⟨kd, nm, tt, ⟨sA, sc, sl⟩⟩) 243)).drew q.bs (fdos d.sure (kept keep (d.pend.take k))) := hO1
          have hnew2 : Wr w (wr.alloc (.cells (cha ⟨kd, nm, tt, ⟨sA, sc, sl⟩⟩) 243)).drew q.bs := hnew.drew
          have hk1 : wr.heap.size ≠ q.bs := by have := hO.lt; omega
          have hk2 : q.g ≠ q.bs := fun e => HD.out.neg.1 e.symm
          go_upto_region 5 with (fail)
          clear hO1 hnew hB hP hO hw a1 a2 a3 hc0 hc1 hc2 hc3 hcB hcB2
          refine wp_region_held_drew (S := (fun W => Blk W wr.heap.size 243 (cha ⟨kd, nm, tt, ⟨sA, sc, sl⟩⟩) ∧ Blk W q.g 158 (dka q d))) (by kernel_rfl) ?_ (fun hHeld => ?_)
          · exact hst
          refine gen0 (T := fun W => ((fun W => Blk W wr.heap.size 243 (cha ⟨kd, nm, tt, ⟨sA, sc, sl⟩⟩) ∧ Blk W q.g 158 (dka q d))) W ∧ OmD W q.bs (fdos d.sure (kept keep (d.pend.take k))) ∧ Wr w W q.bs ∧ True) ?_ (fun wq1 hT => ?_)
          · exact ⟨by (first | with_reducible exact hst | with_reducible exact hHeld | exact ⟨hHeld.1.wr hw5 hk1, hHeld.2.wr hw5 hk2⟩), by (first | with_reducible assumption | exact f1.trans hw5 | exact hO2 | exact hnew2), by (first | with_reducible assumption | exact f1.trans hw5 | exact hO2 | exact hnew2), trivial⟩
          (try clear f0 f1 f2 f3 f4 f5 f6 f7 f8 f9 f10 f11)
          obtain ⟨hHeld, f0, f1, -⟩ := hT
          refine wpAnyH_take (i := 0) (oi := ⟨some 28, _, _, _, _, _⟩) (v := ?_) rfl (by kernel_rfl) (by kernel_rfl) (by kernel_rfl) (fun _ _ _ h => h) (Or.inl ⟨by kernel_rfl, ?_⟩) (by assumption) ?_
          rotate_left
          · (intro wS hSw; (try dsimp only at hSw); obtain ⟨q0, q1, q2, q3⟩ := hSw.1.fourC; have s1 := (Blk.dk1 hSw.2); clear hSw; go_simp; (try with_reducible rfl))
          (try simp only [Act.put, List.setIfInBounds_toArray, List.set_cons_zero, List.set_cons_succ])
          refine wpAnyH_take (i := 1) (oi := ⟨some 29, _, _, _, _, _⟩) (v := ?_) rfl (by kernel_rfl) (by kernel_rfl) (by kernel_rfl) (fun _ _ _ h => h) (Or.inl ⟨by kernel_rfl, ?_⟩) (by assumption) ?_
          rotate_left
          · (intro wS hSw; (try dsimp only at hSw); obtain ⟨q0, q1, q2, q3⟩ := hSw.1.fourC; have s1 := (Blk.dk1 hSw.2); clear hSw; go_simp; (try with_reducible rfl))
          (try simp only [Act.put, List.setIfInBounds_toArray, List.set_cons_zero, List.set_cons_succ])
          refine wpAnyH_take (i := 2) (oi := ⟨some 30, _, _, _, _, _⟩) (v := ?_) rfl (by kernel_rfl) (by kernel_rfl) (by kernel_rfl) (fun _ _ _ h => h) (Or.inl ⟨by kernel_rfl, ?_⟩) (by assumption) ?_
          rotate_left
          · (intro wS hSw; (try dsimp only at hSw); obtain ⟨q0, q1, q2, q3⟩ := hSw.1.fourC; have s1 := (Blk.dk1 hSw.2); clear hSw; go_simp; (try with_reducible rfl))
          (try simp only [Act.put, List.setIfInBounds_toArray, List.set_cons_zero, List.set_cons_succ])
          refine wpAnyH_take (i := 3) (oi := ⟨some 31, _, _, _, _, _⟩) (v := ?_) rfl (by kernel_rfl) (by kernel_rfl) (by kernel_rfl) (fun _ _ _ h => h) (Or.inl ⟨by kernel_rfl, ?_⟩) (by assumption) ?_
          rotate_left
          · (intro wS hSw; (try dsimp only at hSw); obtain ⟨q0, q1, q2, q3⟩ := hSw.1.fourC; have s1 := (Blk.dk1 hSw.2); clear hSw; go_simp; (try with_reducible rfl))
          (try simp only [Act.put, List.setIfInBounds_toArray, List.set_cons_zero, List.set_cons_succ])
          refine wpAnyH_take (i := 4) (oi := ⟨some 32, _, _, _, _, _⟩) (v := ?_) rfl (by kernel_rfl) (by kernel_rfl) (by kernel_rfl) (fun _ _ _ h => h) (Or.inl ⟨by kernel_rfl, ?_⟩) (by assumption) ?_
          rotate_left
          · (intro wS hSw; (try dsimp only at hSw); obtain ⟨q0, q1, q2, q3⟩ := hSw.1.fourC; have s1 := (Blk.dk1 hSw.2); clear hSw; go_simp; (try with_reducible rfl))
          (try simp only [Act.put, List.setIfInBounds_toArray, List.set_cons_zero, List.set_cons_succ])
          refine wpAnyH_ready (rs := [5]) (by kernel_rfl) (by simp) ?_
          refine AllReadyH.cons (o := ⟨some 33, _, _, _, _, _⟩) rfl (fun K hK => ?_) AllReadyH.nil
          go_simp
          (refine (Do_any ⟨kd, nm, tt, ⟨sA, sc, sl⟩⟩ f0 hfl (by have := hnm.1; dsimp only; omega) (by have := hnm.2; dsimp only; omega)).mono ?_; rintro e w5 ⟨rfl, hO5, hw5⟩)
          go_wp2_with fail
          refine hK.out _ _ ?_ (fun _ => ?_)
          · ((try dsimp only); (first | with_reducible exact hst | with_reducible exact hHeld | exact ⟨hHeld.1.wr hw5 hk1, hHeld.2.wr hw5 hk2⟩))
          clear hK K
          (try simp only [Act.put, List.setIfInBounds_toArray, List.set_cons_zero, List.set_cons_succ])
          refine gen0 (T := fun W => ((fun W => Blk W wr.heap.size 243 (cha ⟨kd, nm, tt, ⟨sA, sc, sl⟩⟩) ∧ Blk W q.g 158 (dka q d))) W ∧ OmD W q.bs (fdo (fdos d.sure (kept keep (d.pend.take k))) ⟨kd, nm, tt, ⟨sA, sc, sl⟩⟩) ∧ Wr w W q.bs ∧ True) ?_ (fun wq2 hT => ?_)
          · exact ⟨by (first | with_reducible exact hst | with_reducible exact hHeld | exact ⟨hHeld.1.wr hw5 hk1, hHeld.2.wr hw5 hk2⟩), by (first | with_reducible assumption | exact f1.trans hw5 | exact hO2 | exact hnew2), by (first | with_reducible assumption | exact f1.trans hw5 | exact hO2 | exact hnew2), trivial⟩
          (try clear f0 f1 f2 f3 f4 f5 f6 f7 f8 f9 f10 f11)
          obtain ⟨hHeld, f0, f1, -⟩ := hT
          refine wpAnyH_done (by kernel_rfl) ?_ _
          go_wp2_with fail
          go_roundw
          case rel => exact ⟨k + 1, hlt, rfl, by rw [HE.out]; exact f0, f1⟩
          case measure => simp [intOf]; omega
    · have hkn : k = d.pend.length := by omega
      subst hkn
      rw [List.take_length] at hO
      have hO' := hO
      obtain ⟨es, clock, hb, -⟩ := hO'
      have hE := Lib.hid (HD.out.cut keep hw hO hb)
      have hge : ¬ ((d.pend.length : Int) < (d.pend.length : Int)) := by omega
      go_wp2_with fail
      refine (Tryz.maps_Clone_any q.bs es clock wr hb).mono ?_
      rintro e w2 ⟨rfl, rfl⟩
      have hB2 := hB.alloc (.map es clock)
      have hB3 := hB2.set_ 2 (.map (some wr.heap.size))
      have hB4 := hB3.set_ 3 (.slice none 0 0)
      have g2 : (wr.alloc (.map es clock)).frozen? ⟨q.g, 2, none⟩ = false := hB2.frozen 2
      have b2 : (wr.alloc (.map es clock)).cell? ⟨q.g, 2, none⟩ = some (.map (some q.bm)) := hB2.cell 2
      have g3 : ((wr.alloc (.map es clock)).setCell ⟨q.g, 2, none⟩ (.map (some wr.heap.size))).frozen? ⟨q.g, 3, none⟩ = false := hB3.frozen 3
      have b3 : ((wr.alloc (.map es clock)).setCell ⟨q.g, 2, none⟩ (.map (some wr.heap.size))).cell? ⟨q.g, 3, none⟩ = some (.slice q.A d.pend.length q.c) := hB3.cell 3
      have g5 : (((wr.alloc (.map es clock)).setCell ⟨q.g, 2, none⟩ (.map (some wr.heap.size))).setCell ⟨q.g, 3, none⟩ (.slice none 0 0)).frozen? ⟨q.g, 5, none⟩ = false := hB4.frozen 5
      have b5 : (((wr.alloc (.map es clock)).setCell ⟨q.g, 2, none⟩ (.map (some wr.heap.size))).setCell ⟨q.g, 3, none⟩ (.slice none 0 0)).cell? ⟨q.g, 5, none⟩ = some (.bool d.down) := hB4.cell 5
      clear a1 a2 a3 hB2 hB3 hB4
      go_wp2_with fail
      go_end0
      exact ⟨rfl, hE.out⟩
end Go.Proofs.YtabnndjdkjkciaaGreatDoor

namespace Go.Proofs.YtabnndjdkjkciaaGreatDoor
open Go.RowKit Go.Maps Go.Sort
attribute [local go_sem ↓] Go.wp_at_zero Go.wp_at_succ

theorem dStart_up {α : Type} {d : Dk α} (h : d.down = false) : dStart d = { d with fuse := -1 } := by unfold dStart; rw [if_neg (by simp [h])]
set_option maxRecDepth 100000 in
set_option maxHeartbeats 1000000 in
theorem StartUp_any {w : World} {q : Fp} {d : Dk Sv} (h : Dsk w q d) (hd : d.down = false) :
    Calls Tryz.prog 92 #[.pointer (some ⟨q.g, 0, none⟩)] w fun e w' => e = .returned (.tuple #[]) ∧ Dgo w q d (dStart d) w' := by
  obtain ⟨a0, a1, a2, a3, a4, a5, af1, af2, af3, af4, af5⟩ := h.six
  have hB5 := h.blk.set_ 5 (.bool false)
  have hB4 := hB5.set_ 4 (.int .i64 (-1))
  have hW : Wr w ((w.setCell ⟨q.g, 5, none⟩ (.bool false)).setCell ⟨q.g, 4, none⟩ (.int .i64 (-1))) q.g := ((Wr.refl _ _).set_ 5 _).set_ 4 _
  have hT := h.turn (d' := { d with fuse := -1 }) (by rw [show dka q { d with fuse := -1 } = #[.int .i64 d.room, .map (some q.bs), .map (some q.bm), .slice q.A d.pend.length q.c, .int .i64 (-1), .bool false] from by simp [dka, hd]]; exact hB4) hW rfl rfl
  have hE := Lib.hid (show Dgo w q d (dStart d) _ from by rw [dStart_up hd]; exact Dgo.of hT (Frd.of_wr (.inl rfl) hW) rfl rfl)
  rw [hd] at a5
  clear hB5 hB4 hW hT h
  go_enter Tryz.func92, Tryz.ntmps92
  go_wp2_with fail
  go_end0
  exact ⟨rfl, hE.out⟩
theorem dStart_down {α : Type} {d : Dk α} (h : d.down = true) : dStart d = { dCut [] d with down := false, fuse := -1 } := by
  unfold dStart dCut
  rw [if_pos h, kept_none]
  rfl
/-- the struct alone turns, behind an act -/
theorem Dgo.turn {w w1 w2 : World} {q q1 : Fp} {d d1 d2 : Dk Sv} (hg : q1.g = q.g) (hD : Dsk w1 q1 d1) (hF : Frd q w w1) (hM : ∀ i, q1.M i → q.M i ∨ w.heap.size ≤ i) (hT : ∀ i, Tc q1 d1 i → Tc q d i ∨ w.heap.size ≤ i)
    (hB : Blk w2 q1.g 158 (dka q1 d2)) (hw : Wr w1 w2 q1.g) (h1 : d2.sure = d1.sure) (h2 : d2.pend = d1.pend) : Dgo w q d d2 w2 :=
  ⟨q1, hg, hD.turn hB hw h1 h2, hF.trans (Frd.of_wr (q := q1) (.inl rfl) hw) hM, hM, fun i hi => hT i (hi.same h1 h2)⟩
set_option maxRecDepth 100000 in
set_option maxHeartbeats 1000000 in
theorem StartDown_any {w : World} {q : Fp} {d : Dk Sv} (h : Dsk w q d) (hn : d.pend.length ≤ 1000000) (hL : d.sure.length ≤ 1000000) (hd : d.down = true) :
    Calls Tryz.prog 92 #[.pointer (some ⟨q.g, 0, none⟩)] w fun e w' => e = .returned (.tuple #[]) ∧ Dgo w q d (dStart d) w' := by
  obtain ⟨a0, a1, a2, a3, a4, a5, -⟩ := h.six
  have HC := Lib.hid (Cut_any (B := none) (kc := 0) h hn hL [] (Sl.none_ _ _) (fun e => absurd rfl e))
  rw [hd] at a5
  have HDS := Lib.hid (dStart_down hd)
  clear h
  go_enter Tryz.func92, Tryz.ntmps92
  go_wp2_with fail
  refine HC.out.mono ?_
  rintro e w1 ⟨rfl, q1, hg, hD, hF, hM, hT⟩
  have hB := hD.blk
  have hB5 := hB.set_ 5 (.bool false)
  have hB4 := hB5.set_ 4 (.int .i64 (-1))
  have hW : Wr w1 ((w1.setCell ⟨q1.g, 5, none⟩ (.bool false)).setCell ⟨q1.g, 4, none⟩ (.int .i64 (-1))) q1.g := ((Wr.refl _ _).set_ 5 _).set_ 4 _
  have hE := Lib.hid (show Dgo w q d (dStart d) _ from by rw [HDS.out]; exact Dgo.turn (d2 := { dCut [] d with down := false, fuse := -1 }) hg hD hF hM hT hB4 hW rfl rfl)
  obtain ⟨c0, c1, c2, c3, c4, c5, cf1, cf2, cf3, cf4, cf5⟩ := hD.six
  rw [hg] at *
  clear a0 a1 a2 a3 a4 a5 hB hB5 hB4 hW hD hF hM hT HC
  go_wp2_with fail
  go_end0
  exact ⟨rfl, hE.out⟩
end Go.Proofs.YtabnndjdkjkciaaGreatDoor

namespace Go.Proofs.YtabnndjdkjkciaaGreatDoor
section
variable {α : Type}
/-- what any operation of a disk answers -/
def Opd (d : Dk α) (r : Dk α × Nat) : Prop :=
  (r.2 = 14 ↔ (dWorks d).2 = 14) ∧ r.1.fuse = (dWorks d).1.fuse ∧ r.1.down = (dWorks d).1.down ∧ r.1.sure.length + r.1.pend.length ≤ d.sure.length + d.pend.length + 1
theorem Opd.works (d : Dk α) (k : Nat) (hk : k ≠ 14) (h : (dWorks d).2 = 0) : Opd d ((dWorks d).1, k) := by
  obtain ⟨s1, s2, -, -⟩ := dWorks_same d
  refine ⟨⟨fun e => absurd e hk, fun e => by rw [h] at e; cases e⟩, rfl, rfl, ?_⟩
  dsimp only
  rw [s1, s2]
  omega
theorem Opd.down (d : Dk α) : Opd d (dWorks d) := by
  obtain ⟨s1, s2, -, -⟩ := dWorks_same d
  refine ⟨Iff.rfl, rfl, rfl, ?_⟩
  rw [s1, s2]
  omega
theorem Opd.add (d : Dk α) (c : Chg α) (h : (dWorks d).2 = 0) : Opd d (dAdd (dWorks d).1 c, 0) := by
  obtain ⟨s1, s2, -, -⟩ := dWorks_same d
  refine ⟨⟨fun e => (by cases e), fun e => (by rw [h] at e; cases e)⟩, rfl, rfl, ?_⟩
  unfold dAdd
  dsimp only
  rw [s1, s2, List.length_append]
  simp
  omega
theorem dWorks_zero {d : Dk α} (h : ¬ (dWorks d).2 ≠ 0) : (dWorks d).2 = 0 := Decidable.byContradiction h
theorem Opd.write (len : α → Nat) (d : Dk α) (n : Bs) (v : α) : Opd d (dWrite len d n v) := by
  unfold dWrite
  split
  · exact Opd.down d
  · rename_i h
    have h := dWorks_zero h
    split
    · exact Opd.works d 2 (by decide) h
    · split
      · exact Opd.works d 3 (by decide) h
      · split
        · exact Opd.works d 5 (by decide) h
        · exact Opd.add d _ h
theorem Opd.rename (z : α) (d : Dk α) (n t : Bs) : Opd d (dRename z d n t) := by
  unfold dRename
  split
  · exact Opd.down d
  · rename_i h
    have h := dWorks_zero h
    split
    · exact Opd.works d 2 (by decide) h
    · split
      · exact Opd.works d 4 (by decide) h
      · exact Opd.add d _ h
theorem Opd.remove (z : α) (d : Dk α) (n : Bs) : Opd d (dRemove z d n) := by
  unfold dRemove
  split
  · exact Opd.down d
  · rename_i h
    have h := dWorks_zero h
    split
    · exact Opd.works d 2 (by decide) h
    · split
      · exact Opd.works d 4 (by decide) h
      · exact Opd.add d _ h
theorem Opd.sync (d : Dk α) : Opd d (dSync d) := by
  unfold dSync
  split
  · exact Opd.down d
  · rename_i h
    have h := dWorks_zero h
    refine ⟨⟨fun e => (by cases e), fun e => by rw [h] at e; cases e⟩, rfl, rfl, ?_⟩
    have := flen_dos d.sure d.pend
    unfold Dk.shown
    dsimp only
    simp
    omega
end
theorem fused_le (l : List (Bs × Sv)) (h : ∀ p ∈ l, p.2.l.length ≤ 65536) : fused svl l ≤ 65536 * l.length := by
  unfold fused
  induction l with
  | nil => simp
  | cons p r ih =>
    have h1 := h p (List.mem_cons_self ..)
    have h2 := ih fun q hq => h q (List.mem_cons_of_mem _ hq)
    simp only [List.map_cons, List.sum_cons, List.length_cons]
    have : svl p.2 = p.2.l.length := rfl
    omega
theorem Dsk.fits {w : World} {q : Fp} {d : Dk Sv} (h : Dsk w q d) {k : Nat} (hk : d.sure.length + d.pend.length ≤ k) (hk2 : k ≤ 1000) : d.pend.length ≤ 1000000 ∧ d.shown.length ≤ 100000000 ∧ fused svl d.shown ≤ 1000000000000 ∧ d.sure.length ≤ 1000000 := by
  have h1 := flen_dos d.sure d.pend
  have h2 := fused_le d.shown fun p hp => h.len _ (h.shown_mem p hp).2
  have h3 : d.shown.length ≤ d.sure.length + d.pend.length := h1
  refine ⟨by omega, by omega, by omega, by omega⟩
end Go.Proofs.YtabnndjdkjkciaaGreatDoor

namespace Go.Proofs.YtabnndjdkjkciaaGreatDoor
open Go.RowKit Go.Maps Go.Sort
attribute [local go_sem ↓] Go.wp_at_zero Go.wp_at_succ

theorem bb_le : ∀ {a b : Bs}, bytesBefore a b = true → a ≤ b
  | [], [], h => by cases h
  | [], _ :: _, _ => List.nil_le _
  | _ :: _, [], h => by cases h
  | x :: r, y :: s, h => by
    unfold bytesBefore at h
    rw [List.cons_le_cons_iff]
    rcases Decidable.em (x = y) with e | e
    · subst e
      refine .inr ⟨rfl, bb_le ?_⟩
      simpa using h
    · refine .inl ?_
      have h2 : x.toNat < y.toNat := by
        have he : ¬ x.toNat = y.toNat := fun e2 => e (UInt8.toNat_inj.1 e2)
        simp [e] at h
        have := UInt8.lt_iff_toNat_lt.1 h
        exact this
      exact UInt8.lt_iff_toNat_lt.2 h2
/-- the cells of texts -/
abbrev tx (m : List Bs) : List Value := m.map encStr
def names {α : Type} (l : List (Bs × α)) : List Bs := l.map (·.1)
theorem names_sorted {l : List (Bs × Sv)} (h : Ris l) {ss : List Bs} (hp : ss.Perm (strKeys (dat l))) : ss.mergeSort (fun x y => decide (x ≤ y)) = names l := by
  have e : strKeys (dat l) = names l := by
    show (List.map _ (List.map _ l)) = List.map _ l
    rw [List.map_map]
    rfl
  rw [e] at hp
  rw [show (fun x y : Bs => decide (x ≤ y)) = leB from rfl, mergeSort_of_perm hp]
  refine List.mergeSort_of_pairwise ?_
  unfold names
  rw [List.pairwise_map]
  refine h.imp ?_
  intro a b hab
  exact decide_eq_true (bb_le hab)
theorem row_form {w : World} {base : Nat} {e : TypeId} {size : Nat} {v : Value} {n : Nat} {xs : List Value} (h : w.ownsRow base e size v n xs) : ∃ A c, v = .slice A n c := by
  obtain ⟨h1, h2⟩ := h
  rcases h2 with ⟨hv, hx⟩ | ⟨g1, cap, cur, hv, r⟩
  · subst hx
    exact ⟨none, 0, hv⟩
  · exact ⟨_, _, hv⟩
/-- a row of texts of one's own -/
abbrev OwnT (w : World) (base : Nat) (A : Option Addr) (c : Nat) (m : List Bs) : Prop := Own w base 9 1 A m.length c (tx m)
/-- a slice of texts -/
def SlT (w : World) (A : Option Addr) (c : Nat) (m : List Bs) : Prop := Sl w 1 A m.length c (tx m)
theorem SlT.below {w w' : World} {A : Option Addr} {c : Nat} {m : List Bs} (h : SlT w A c m) (hb : Below w.heap.size w w') : SlT w' A c m := Sl.below h hb
theorem Keys_any (b : Nat) (w : World) : Calls Tryz.prog 145 #[.map (some b)] w fun e w' => e = .returned (.func (.func 185) #[] #[.pointer (some ⟨w.heap.size, 0, none⟩)]) ∧ w' = w.alloc (.cells #[.map (some b)] 155) :=
  callsIn_wide.1 (Tryz.maps_Keys_145 (some b) w)
theorem Sorted_any {w : World} {b : Nat} {l : List (Bs × Sv)} (h : OmD w b l) (hr : Ris l) (hl : l.length ≤ 100000000) :
    Calls Tryz.prog 144 #[.func (.func 185) #[] #[.pointer (some ⟨w.heap.size, 0, none⟩)]] (w.alloc (.cells #[.map (some b)] 155)) fun e w' => ∃ A c m, e = .returned (.slice A (List.length m) c) ∧ Hid (m = names l) ∧ OwnT w' w.heap.size A c m ∧ Below w.heap.size w w' := by
  refine (callsIn_wide.1 (Tryz.slices_Sorted_keys_144_145 b l.length (dat l) tok w h (by rw [dat_size]; unfold maxLen; omega) (by rw [dat_size]; omega))).mono ?_
  rintro e w' ⟨v, ss, rfl, hp, ho, -, hb⟩
  rw [names_sorted hr hp] at ho
  have hn : ss.length = (names l).length := by
    rw [← names_sorted hr hp, List.length_mergeSort]
  rw [hn] at ho
  obtain ⟨A, c, rfl⟩ := row_form ho
  have hsz : w.heap.size ≤ (w.alloc (.cells #[.map (some b)] 155)).heap.size := by simp
  refine ⟨A, c, names l, rfl, (show _ = _ from rfl), Own.more ho hsz, (below_new w _).trans (hb.mono hsz)⟩
set_option maxRecDepth 100000 in
set_option maxHeartbeats 1000000 in
theorem Pending_any {w : World} {q : Fp} {d : Dk Sv} (h : Dsk w q d) : Calls Tryz.prog 101 #[.pointer (some ⟨q.g, 0, none⟩)] w fun e w' => e = .returned (.int .i64 d.pend.length) ∧ w' = w := by
  obtain ⟨a0, a1, a2, a3, a4, a5, -⟩ := h.six
  clear h
  go_enter Tryz.func101, Tryz.ntmps101
  go_wp2_with fail
  go_ret
  exact ⟨rfl, rfl⟩
set_option maxRecDepth 100000 in
set_option maxHeartbeats 1000000 in
theorem UsedD_any {w : World} {q : Fp} {d : Dk Sv} (h : Dsk w q d) (hu : fused svl d.shown ≤ 1000000000000) : Calls Tryz.prog 102 #[.pointer (some ⟨q.g, 0, none⟩)] w fun e w' => e = .returned (.int .i64 (fused svl d.shown : Nat)) ∧ Below w.heap.size w w' := by
  obtain ⟨a0, a1, a2, a3, a4, a5, -⟩ := h.six
  have HU := Lib.hid (Used_any h.shown (h.ris.fdos _) (by omega))
  clear h
  go_enter Tryz.func102, Tryz.ntmps102
  go_wp2_with fail
  refine HU.out.mono ?_
  rintro e w1 ⟨rfl, hb⟩
  go_wp2_with fail
  go_ret
  exact ⟨rfl, hb⟩
set_option maxRecDepth 100000 in
set_option maxHeartbeats 1000000 in
theorem DList_any {w : World} {q : Fp} {d : Dk Sv} (h : Dsk w q d) (hL : d.shown.length ≤ 100000000) : Calls Tryz.prog 75 #[.pointer (some ⟨q.g, 0, none⟩)] w fun e w' => ∃ A c m, e = .returned (.tuple #[.slice A (List.length m) c, errv (if d.down = true then 14 else 0)]) ∧ Hid (m = if d.down = true then [] else names d.shown) ∧ OwnT w' w.heap.size A c m ∧ Below w.heap.size w w' := by
  have hlk := Looks_any h
  cases hd : d.down
  · rw [hd, if_neg (by simp), show errv 0 = Value.nilIface from rfl] at hlk
    obtain ⟨a0, a1, a2, a3, a4, a5, -⟩ := h.six
    have HK := Lib.hid (Keys_any q.bm w)
    have HS := Lib.hid (Sorted_any h.shown (h.ris.fdos _) hL)
    have HL := Lib.hid hlk
    clear h hlk hd
    go_enter Tryz.func75, Tryz.ntmps75
    go_wp2_with fail
    refine HL.out.mono ?_
    rintro e w1 ⟨rfl, rfl⟩
    go_wp2_with fail
    refine HK.out.mono ?_
    rintro e w1 ⟨rfl, rfl⟩
    go_wp2_with fail
    refine HS.out.mono ?_
    rintro e w2 ⟨A, c, m, rfl, hm, ho, hb⟩
    go_wp2_with fail
    go_ret2
    exact ⟨A, c, m, rfl, (show _ = _ from hm.out), ho, hb⟩
  · rw [hd, if_pos rfl, show errv 14 = Value.iface 68 (.int .i64 14) from rfl] at hlk
    have HL := Lib.hid hlk
    clear h hlk hd
    go_enter Tryz.func75, Tryz.ntmps75
    go_wp2_with fail
    refine HL.out.mono ?_
    rintro e w1 ⟨rfl, rfl⟩
    go_wp2_with fail
    go_ret2
    exact ⟨none, 0, [], rfl, (show _ = _ from rfl), Own.none_ _ _ _ _, Below.refl _ _⟩
end Go.Proofs.YtabnndjdkjkciaaGreatDoor

namespace Go.Proofs.YtabnndjdkjkciaaGreatDoor

def begun (n : Bs) : Bs := 126 :: n
def isBegun (n : Bs) : Bool := Lib.hasPrefix n [126]
def snamed (n : Bs) : Bool := decide (n.length ≤ 20) && named n && !decide (126 ∈ n)
section
variable {α : Type}
/-- what was being put is removed; how many bytes bad, whether any was -/
def sSweep (z : α) : List Bs → Dk α → Bool → Dk α × Nat × Bool
  | [], d, b => (d, 0, b)
  | n :: r, d, b => if isBegun n = true then (if (dRemove z d n).2 ≠ 0 then ((dRemove z d n).1, (dRemove z d n).2, b) else sSweep z r (dRemove z d n).1 true) else sSweep z r d b
def sOpen (z : α) (d : Dk α) : Dk α × Nat :=
  if d.down = true then (d, 14) else
    if (sSweep z (names d.shown) d false).2.1 ≠ 0 then ((sSweep z (names d.shown) d false).1, (sSweep z (names d.shown) d false).2.1)
    else if (sSweep z (names d.shown) d false).2.2 = true then dSync (sSweep z (names d.shown) d false).1 else ((sSweep z (names d.shown) d false).1, 0)
/-- one act, then another one, if the first was let through -/
def andThen (r : Dk α × Nat) (f : Dk α → Dk α × Nat) : Dk α × Nat := if r.2 ≠ 0 then r else f r.1
def sPut (len : α → Nat) (z : α) (d : Dk α) (n : Bs) (v : α) : Dk α × Nat :=
  if snamed n = false then (d, 2) else
    andThen (dWrite len d (begun n) v) fun d => andThen (dSync d) fun d => andThen (dRename z d (begun n) n) dSync
def sDelete (z : α) (d : Dk α) (n : Bs) : Dk α × Nat := if snamed n = false then (d, 2) else andThen (dRemove z d n) dSync
def sGet (d : Dk α) (n : Bs) : Option α × Nat := if snamed n = false then (none, 2) else dRead d n
end
/-! ### what an act leaves of a fuse, and how much there is -/
def Fok (d : Dk Sv) : Prop := -1 ≤ d.fuse ∧ d.fuse ≤ 9223372036854775807
theorem Fok.works {d : Dk Sv} (h : Fok d) : Fok (dWorks d).1 := by
  unfold Fok dWorks at *
  split
  · exact h
  · split
    · exact h
    · split
      · dsimp only; omega
      · exact h
theorem Fok.opd {d : Dk Sv} {r : Dk Sv × Nat} (h : Fok d) (ho : Opd d r) : Fok r.1 := by
  have := h.works
  unfold Fok at *
  rw [ho.2.1]
  exact this
theorem cut_len (ks : List Bool) (d : Dk Sv) : (dCut ks d).sure.length + (dCut ks d).pend.length ≤ d.sure.length + d.pend.length := by
  unfold dCut
  have h1 := flen_dos d.sure (kept ks d.pend)
  have h2 := kept_len ks d.pend
  simp
  omega
theorem start_len (d : Dk Sv) : (dStart d).sure.length + (dStart d).pend.length ≤ d.sure.length + d.pend.length := by
  unfold dStart
  split
  · simp
  · exact Nat.le_refl _
theorem start_fok (d : Dk Sv) : Fok (dStart d) := by
  unfold dStart Fok
  split
  · dsimp only; omega
  · dsimp only; omega
theorem opd_len {α : Type} {d : Dk α} {r : Dk α × Nat} (h : Opd d r) {k : Nat} (hk : d.sure.length + d.pend.length ≤ k) : r.1.sure.length + r.1.pend.length ≤ k + 1 := by have := h.2.2.2; omega
end Go.Proofs.YtabnndjdkjkciaaGreatDoor

namespace Go.Proofs.YtabnndjdkjkciaaGreatDoor
open Go.RowKit Go.Maps Go.Sort
attribute [local go_sem ↓] Go.wp_at_zero Go.wp_at_succ

set_option maxRecDepth 100000 in
set_option maxHeartbeats 1000000 in
theorem Rename_any {w : World} {q : Fp} {d : Dk Sv} (h : Dsk w q d) (hf : -1 ≤ d.fuse ∧ d.fuse ≤ 9223372036854775807) (hp : d.pend.length ≤ 1000000) (hL : d.shown.length ≤ 100000000) (n t : Bs) (hn : n.length ≤ 100000000) (ht : t.length ≤ 100000000) :
    Calls Tryz.prog 85 #[.pointer (some ⟨q.g, 0, none⟩), .string ⟨n.toArray⟩, .string ⟨t.toArray⟩] w fun e w' => e = .returned (errv (dRename Sv.nil d n t).2) ∧ Dgo w q d (dRename Sv.nil d n t).1 w' := by
  have hW := Works_any h hf
  obtain ⟨s1, s2, s3, s4⟩ := dWorks_same d
  have hR : dRename Sv.nil d n t = if (dWorks d).2 ≠ 0 then dWorks d else if named n = false ∨ named t = false then ((dWorks d).1, 2) else if (gget n d.shown).isNone = true then ((dWorks d).1, 4) else (dAdd (dWorks d).1 ⟨1, n, t, Sv.nil⟩, 0) := rfl
  generalize dWorks d = dw at *
  obtain ⟨d1, k⟩ := dw
  dsimp only at *
  have hsh : d1.shown = d.shown := by unfold Dk.shown; rw [s1, s2]
  clear h hf
  rcases s4 with rfl | rfl
  · rw [if_neg (by simp)] at hR
    rw [show errv 0 = Value.nilIface from rfl] at hW
    have HW := Lib.hid hW
    clear hW
    go_enter Tryz.func85, Tryz.ntmps85
    go_wp2_with fail
    refine HW.out.mono ?_
    rintro e w1 ⟨rfl, hD1, hw1⟩
    have hF1 : Frd q w w1 := Frd.of_wr (.inl rfl) hw1
    go_wp2_with fail
    refine (Named_any n w1 (by omega)).mono ?_
    rintro e w2 ⟨rfl, hb2⟩
    have hD2 := hD1.below hb2
    have hF2 : Frd q w w2 := hF1.trans (Frd.of_below (q := q) hb2) fun i hi => .inl hi
    cases hnm : named n
    · have HR := Lib.hid (show dRename Sv.nil d n t = (d1, 2) from by rw [hR, if_pos (.inl hnm)])
      clear hR hnm
      go_wp2_with fail
      go_ret
      exact ⟨by rw [HR.out]; rfl, by rw [HR.out]; exact Dgo.of hD2 hF2 s1 s2⟩
    go_wp2_with fail
    refine (Named_any t w2 (by omega)).mono ?_
    rintro e w3 ⟨rfl, hb3⟩
    replace hD2 := hD2.below hb3
    replace hF2 : Frd q w w3 := hF2.trans (Frd.of_below (q := q) hb3) fun i hi => .inl hi
    cases hnt : named t
    · have HR := Lib.hid (show dRename Sv.nil d n t = (d1, 2) from by rw [hR, if_pos (.inr hnt)])
      clear hR hnm hnt
      go_wp2_with fail
      go_ret
      exact ⟨by rw [HR.out]; rfl, by rw [HR.out]; exact Dgo.of hD2 hF2 s1 s2⟩
    rw [if_neg (by simp [hnm, hnt])] at hR
    have hlk := hD2.shown.look (T := 155) (E := 29) Tryz.underlying9 Tryz.underlying155 (zero_bs _) (k := n) (by unfold maxLen; omega)
    rw [hsh] at hlk
    obtain ⟨a0, a1, a2, -⟩ := hD2.six
    cases hgt : gget n d.shown with
    | none =>
      rw [hgt] at hlk
      have HR := Lib.hid (show dRename Sv.nil d n t = (d1, 4) from by rw [hR, hgt]; rfl)
      clear hR hgt
      go_wp2_with fail
      go_ret
      exact ⟨by rw [HR.out]; rfl, by rw [HR.out]; exact Dgo.of hD2 hF2 s1 s2⟩
    | some u =>
      rw [hgt] at hlk
      dsimp only [Option.map_some, Option.getD_some, Option.isSome_some] at hlk
      have HR := Lib.hid (show dRename Sv.nil d n t = (dAdd d1 ⟨1, n, t, Sv.nil⟩, 0) from by rw [hR, hgt]; rfl)
      clear hR hgt
      go_wp2_with fail
      refine (Add_any (x := ⟨1, n, t, Sv.nil⟩) hD2 (by rw [s2]; omega) (by rw [hsh]; omega) (named_len hnm) (named_len hnt)).mono ?_
      rintro e w4 ⟨rfl, hG⟩
      have hE := (Dgo.add hD2 (named_len hnm) (named_len hnt) hG).next hF2 s1 s2
      clear hlk a0 a1 a2
      go_wp2_with fail
      go_ret
      exact ⟨by rw [HR.out]; rfl, by rw [HR.out]; exact hE⟩
  · have HR := Lib.hid (show dRename Sv.nil d n t = (d1, 14) from by rw [hR, if_pos (by simp)])
    rw [show errv 14 = Value.iface 68 (.int .i64 14) from rfl] at hW
    have HW := Lib.hid hW
    clear hW hR
    go_enter Tryz.func85, Tryz.ntmps85
    go_wp2_with fail
    refine HW.out.mono ?_
    rintro e w1 ⟨rfl, hD1, hw1⟩
    go_wp2_with fail
    go_ret
    exact ⟨by rw [HR.out]; rfl, by rw [HR.out]; exact Dgo.of hD1 (Frd.of_wr (.inl rfl) hw1) s1 s2⟩
end Go.Proofs.YtabnndjdkjkciaaGreatDoor

namespace Go.Proofs.YtabnndjdkjkciaaGreatDoor
open Go.RowKit Go.Maps Go.Sort
attribute [local go_sem ↓] Go.wp_at_zero Go.wp_at_succ

def flv (p : Bs × Sv) : List Value := [.string ⟨p.1.toArray⟩, p.2.v]
theorem fl_info : (Tryz.prog.info? 184).map (fun i => (i.zero, i.size, i.bytes)) = some (some (.agg #[.string ⟨#[]⟩, .slice none 0 0]), 2, 40) := by kernel_rfl
theorem one_flv (p : Bs × Sv) : ∀ u ∈ flv p, u.oneCell' = true := by
  intro u hu
  simp only [flv, Sv.v, List.mem_cons, List.not_mem_nil, or_false] at hu
  rcases hu with rfl | rfl <;> rfl
theorem lit_fl (w : World) (p : Bs × Sv) : Sl (w.alloc (.cells #[.string ⟨p.1.toArray⟩, p.2.v] 184)) 2 (some ⟨w.heap.size, 0, none⟩) 1 1 (flv p) :=
  ⟨by simp [flv], by omega, by simp [maxLen], (fun h => by cases h), fun j u hj => ⟨_, rfl, by
    rw [addr_lit, cell_of_row _ _ _ _ 184 (0, 0) (heap_alloc_new w _)]
    simpa [flv] using hj⟩⟩
/-- append of one file -/
theorem wpl_file {w : World} {ops : Array Oper} {rest : List Oper} {o : Oper} {a : Act} {Q : Exit → Act → World → Prop} (hgd : o.guard = none) (s x : Operand)
    (ho : o.op = .call { callee := .builtin .append, args := #[s, x], argTypes := #[179, 179] })
    (base : Nat) (A : Option Addr) (n c : Nat) (xs : List Value) (hs : a.eval s = .slice A n c) (hown : Own w base 184 2 A n c xs) (hn : n ≤ 100000000)
    (A2 : Option Addr) (p : Bs × Sv) (hx : a.eval x = .slice A2 1 1) (hr : Sl w 2 A2 1 1 (flv p)) (hbase : base ≤ w.heap.size)
    (h : ∀ A' c' w', Own w' base 184 2 A' (n + 1) c' (xs ++ flv p) → w.grownBy w' (A.map (·.block)) → (A'.map (·.block) = A.map (·.block) ∨ A'.map (·.block) = some w.heap.size) → wpList Tryz.prog ops Q rest (a.put o.dst (.slice A' (n + 1) c')) w') : wpList Tryz.prog ops Q (o :: rest) a w := by
  obtain ⟨i0, hi, hz0, hz1, hz2⟩ := info_parts fl_info
  refine wpl_append hgd s x 179 ho base 184 i0 _ 2 40 Tryz.underlying179 hi hz0 hz1 hz2 rfl (by decide) A n c xs hs hown A2 1 1 (flv p) hx hr (one_flv p) (by omega) (by unfold maxLen; omega) hbase ?_
  intro A' c' w' hap
  exact h A' c' w' hap.own hap.grown hap.place
/-- files that are told: those of their own that lie apart from the row -/
structure Tf (w : World) (B : Nat) (A : Option Addr) (c : Nat) (r : List (Bs × Sv)) : Prop where
  row : Own w B 184 2 A r.length c (r.flatMap flv)
  rd : ∀ p ∈ r, SlB w p.2.A p.2.c p.2.l
  ap : ∀ p ∈ r, p.2.l ≠ [] → ∀ k, p.2.A.map (·.block) = some k → A.map (·.block) ≠ some k
  lo : ∀ p ∈ r, ∀ k, p.2.A.map (·.block) = some k → B ≤ k ∧ k < w.heap.size
theorem Tf.below {w w' : World} {B c : Nat} {A : Option Addr} {r : List (Bs × Sv)} (h : Tf w B A c r) (hb : Below w.heap.size w w') : Tf w' B A c r := ⟨Own.below h.row hb, fun p hp => Sl.below (h.rd p hp) hb, h.ap, fun p hp k hk => ⟨(h.lo p hp k hk).1, Nat.lt_of_lt_of_le (h.lo p hp k hk).2 hb.size⟩⟩
theorem Tf.add {w w' w2 : World} {B c c' c5 : Nat} {A A' A5 : Option Addr} {r : List (Bs × Sv)} {nm m : Bs} (h : Tf w B A c r) (hB : B ≤ w.heap.size) (ho : OwnB w' w.heap.size 5 A5 c5 m) (hb : Below w.heap.size w w') (o : Obj)
    (hO : Own w2 B 184 2 A' (r.length + 1) c' (r.flatMap flv ++ flv (nm, ⟨A5, c5, m⟩))) (hg : (w'.alloc o).grownBy w2 (A.map (·.block))) (hp : A'.map (·.block) = A.map (·.block) ∨ A'.map (·.block) = some (w'.alloc o).heap.size) :
    Tf w2 B A' c' (r ++ [(nm, ⟨A5, c5, m⟩)]) := by
  have hbo := below_new w' o
  have hso : (w'.alloc o).heap.size = w'.heap.size + 1 := by simp
  have hs := hb.size
  have hold : ∀ (A1 : Option Addr) (c1 : Nat) (l : Bs), SlB (w'.alloc o) A1 c1 l → (l ≠ [] → ∀ k, A1.map (·.block) = some k → A.map (·.block) ≠ some k) → SlB w2 A1 c1 l ∧ (l ≠ [] → ∀ k, A1.map (·.block) = some k → A'.map (·.block) ≠ some k) := by
    intro A1 c1 l hS hA
    have hlt : l ≠ [] → ∀ ad, A1 = some ad → ad.block < (w'.alloc o).heap.size := fun hne ad e => by
      obtain ⟨ad', e2, hc⟩ := Sl.at1 (f := bv) (l := l) hS (k := 0) (List.length_pos_iff.2 hne)
      rw [e] at e2
      injection e2 with e2
      subst e2
      have := World.block_lt_of_cell? _ _ hc
      rwa [addr_add_block] at this
    refine ⟨SlB.sameB hS fun hne ad e => hg.block _ (hlt hne ad e) (fun e2 => hA hne ad.block (by rw [e]; rfl) e2.symm), fun hne k e => ?_⟩
    rcases hp with hp | hp
    · rw [hp]; exact hA hne k e
    · rw [hp]
      intro e2
      injection e2 with e2
      obtain ⟨ad, rfl⟩ : ∃ ad, A1 = some ad := by cases A1 with | none => cases e | some ad => exact ⟨ad, rfl⟩
      have := hlt hne ad rfl
      injection e with e
      dsimp only at e
      omega
  have hnew := hold A5 c5 m (Sl.below (Own.sl ho) hbo) (fun _ k e => by
    have h5 := (Own.lt ho k e).1
    intro e2
    have := (Own.lt h.row k e2).2
    omega)
  have hrs : ∀ p ∈ r, SlB w2 p.2.A p.2.c p.2.l ∧ (p.2.l ≠ [] → ∀ k, p.2.A.map (·.block) = some k → A'.map (·.block) ≠ some k) := fun p hp => hold _ _ _ (Sl.below (Sl.below (h.rd p hp) hb) hbo) (h.ap p hp)
  refine ⟨by simpa using hO, fun p hp => ?_, fun p hp => ?_, fun p hp k hk => ?_⟩
  · rcases List.mem_append.1 hp with hp | hp
    · exact (hrs p hp).1
    · rw [List.mem_singleton.1 hp]; exact hnew.1
  · rcases List.mem_append.1 hp with hp | hp
    · exact (hrs p hp).2
    · rw [List.mem_singleton.1 hp]; exact hnew.2
  · have h2 := hg.size
    rcases List.mem_append.1 hp with hp | hp
    · have := h.lo p hp k hk
      omega
    · rw [List.mem_singleton.1 hp] at hk
      have := Own.lt ho k hk
      omega
theorem gmap_take {l : List (Bs × Sv)} {r : List (Bs × Sv)} {k : Nat} (hk : k < l.length) (h : gmap Sv.l r = gmap Sv.l (l.take k)) {m : Bs} (hm : m = l[k].2.l) {A : Option Addr} {c : Nat} : gmap Sv.l (r ++ [(l[k].1, ⟨A, c, m⟩)]) = gmap Sv.l (l.take (k + 1)) := by
  rw [List.take_succ_eq_append_getElem hk]
  unfold gmap at *
  rw [List.map_append, List.map_append, h, hm]
  rfl
theorem gmap_len {α β : Type} {f : α → β} {r : List (Bs × α)} : (gmap f r).length = r.length := by unfold gmap; rw [List.length_map]
set_option maxRecDepth 100000 in
set_option maxHeartbeats 1000000 in
theorem DSure_any {w : World} {q : Fp} {d : Dk Sv} (h : Dsk w q d) (hl : d.sure.length ≤ 1000000) : Calls Tryz.prog 98 #[.pointer (some ⟨q.g, 0, none⟩)] w fun e w' => ∃ A c r, e = .returned (.slice A (List.length r) c) ∧ Hid (gmap Sv.l r = gmap Sv.l d.sure) ∧ Tf w' w.heap.size A c r ∧ Below w.heap.size w w' := by
  obtain ⟨a0, a1, a2, a3, a4, a5, -⟩ := h.six
  have HK := Lib.hid (Keys_any q.bs w)
  have HS := Lib.hid (Sorted_any h.sure h.ris (by omega))
  have HD := Lib.hid h
  clear h
  go_enter Tryz.func98, Tryz.ntmps98
  go_wp2_with fail
  refine HK.out.mono ?_
  rintro e w1 ⟨rfl, rfl⟩
  go_wp2_with fail
  refine HS.out.mono ?_
  rintro e w2 ⟨A0, c0, m0, rfl, hm0, ho0, hb0⟩
  clear HK HS a0 a1 a2 a3 a4 a5
  have HM := Lib.hid hm0.out
  have hml : m0.length = d.sure.length := by rw [hm0.out]; unfold names; rw [List.length_map]
  have HT := Lib.hid (show SlT w2 A0 c0 m0 from Own.sl ho0)
  clear hm0 ho0
  rw [hml]
  go_wp2_with fail
  go_loopw [15, 3] (fun x y wr => ∃ (k : Nat) (A : Option Addr) (c : Nat) (r : List (Bs × Sv)), k ≤ d.sure.length ∧ x = .int .i64 k ∧ y = .slice A r.length c ∧ Tf wr w2.heap.size A c r ∧ Hid (gmap Sv.l r = gmap Sv.l (d.sure.take k)) ∧ Below w2.heap.size w2 wr) (fun x _ w => d.sure.length - (intOf x).toNat)
  case atStart => exact ⟨0, none, 0, [], Nat.zero_le _, rfl, rfl, ⟨Own.none_ _ _ _ _, (fun p hp => by simp at hp), (fun p hp => by simp at hp), (fun p hp => by simp at hp)⟩, Lib.hid rfl, Below.refl _ _⟩
  case round =>
    obtain ⟨k, A, c, r, hk, rfl, rfl, hT, hR, hb⟩ := hrel
    have hrl : r.length = k := by
      have := congrArg List.length hR.out
      rw [gmap_len, gmap_len, List.length_take] at this
      omega
    subst hrl
    by_cases hlt : r.length < d.sure.length
    · have hTx := HT.out.below hb
      obtain ⟨adT, bT, oT, hAT, hadT, hccT⟩ := Sl.atS (f := fun x => [encStr x]) (size := 1) (fun _ => rfl) (by omega) (l := m0) (k := r.length) (n := m0.length) (c := c0) (A := A0) (by
        have := hTx
        unfold SlT tx at this
        rwa [List.map_eq_flatMap] at this) (by omega)
      have hcT := hccT 0 _ rfl
      rw [Nat.add_zero] at hcT
      rw [Nat.mul_one] at hadT
      have hnm : m0[r.length]'(by omega) = d.sure[r.length].1 := by
        have := HM.out
        unfold names at this
        simp [this]
      rw [hnm] at hcT
      have hDr := HD.out.below hb0
      have hDr2 := hDr.below hb
      have hmem := List.getElem_mem hlt
      have hlk := hDr2.sure.look1 (T := 155) (E := 29) Tryz.underlying9 Tryz.underlying155 (zero_bs _) (k := d.sure[r.length].1) (by have := hDr2.nm.1 _ hmem; unfold maxLen; omega)
      rw [gget_of_mem hDr2.ris (show (d.sure[r.length].1, d.sure[r.length].2) ∈ d.sure from hmem)] at hlk
      have hsv : d.sure[r.length].2 ∈ svs d := List.mem_append.2 (.inl (List.mem_map_of_mem hmem))
      have hrd := hDr2.rd _ hsv
      have hln := hDr2.len _ hsv
      obtain ⟨a0, a1, a2, a3, a4, a5, -⟩ := hDr2.six
      have hst := fun (A5 : Option Addr) (c5 : Nat) (m5 : Bs) (hm5 : m5 = d.sure[r.length].2.l) => gmap_take hlt hR.out hm5 (A := A5) (c := c5)
      clear hTx hccT hnm hDr hDr2 hsv hR hmem
      generalize d.sure[r.length] = x at *
      obtain ⟨nm, ⟨sA, sc, sl⟩⟩ := x
      dsimp only [Option.map_some, Option.getD_some, Sv.v] at *
      have HC := Lib.hid (BClone_any sl _ hrd (by omega))
      have HST := Lib.hid hst
      have HTf := Lib.hid hT
      subst hAT
      clear hrd hln hst hT
      dsimp only [encStr] at hcT
      go_wp2_with fail
      refine HC.out.mono ?_
      rintro e w5 ⟨A5, c5, m5, rfl, hm5, ho5, hb5⟩
      have hT5 := HTf.out.below hb5
      have hrow := World.ownsRow.alloc hT5.row (.cells #[.string ⟨nm.toArray⟩, .slice A5 m5.length c5] 184)
      have hlit := lit_fl w5 (nm, ⟨A5, c5, m5⟩)
      dsimp only [Sv.v] at hlit
      have hz : w2.heap.size ≤ (w5.alloc (.cells #[.string ⟨nm.toArray⟩, .slice A5 m5.length c5] 184)).heap.size := by
        have h1 := hb.size
        have h2 := hb5.size
        simp
        omega
      have hBe := bel_alloc (hb.trans (hb5.mono hb.size)) (.cells #[.string ⟨nm.toArray⟩, .slice A5 m5.length c5] 184)
      have hbase := Own.lt hT5.row
      have HM5 := Lib.hid hm5.out
      have HO5 := Lib.hid ho5
      have HB5 := Lib.hid hb5
      clear hm5 ho5 hb5 hT5 HC hlk a0 a1 a2 a3 a4 a5 hcT hadT
      go_wp2_with (at_builtin; go_must (refine wpl_file rfl _ _ rfl w2.heap.size A r.length c (r.flatMap flv) rfl hrow (by omega) _ (nm, ⟨A5, c5, m5⟩) rfl hlit hz ?_; intro A6 c6 w6 ho6 hg6 hp6))
      have hlen : r.length + 1 = (r ++ [(nm, (⟨A5, c5, m5⟩ : Sv))]).length := by simp
      rw [hlen]
      go_roundw
      case rel => exact ⟨r.length + 1, A6, c6, r ++ [(nm, ⟨A5, c5, m5⟩)], hlt, rfl, rfl, HTf.out.add hb.size HO5.out HB5.out _ ho6 hg6 hp6, Lib.hid (HST.out _ _ _ HM5.out), hBe.trans ⟨hg6.os, hg6.tape, hg6.output, hg6.size, fun i hi => hg6.block i (by have := hz; omega) (fun e => by have := (hbase i e.symm).1; omega)⟩⟩
      case measure => simp [intOf]; omega
    · have hke : r.length = d.sure.length := by omega
      have HF := Lib.hid (show Tf wr w.heap.size A c r from ⟨Own.more hT.row hb0.size, hT.rd, hT.ap, fun p hp k hk => ⟨Nat.le_trans hb0.size (hT.lo p hp k hk).1, (hT.lo p hp k hk).2⟩⟩)
      have HG := Lib.hid (show gmap Sv.l r = gmap Sv.l d.sure from by rw [hR.out, hke, List.take_length])
      have HB := Lib.hid (hb0.trans (hb.mono hb0.size))
      clear hT hR hke
      go_wp2_with fail
      go_ret
      exact ⟨A, c, r, rfl, HG.out, HF.out, HB.out⟩
/-- the cell k of a slice of texts -/
theorem SlT.at1 {w : World} {A : Option Addr} {c : Nat} {m : List Bs} (h : SlT w A c m) {k : Nat} (hk : k < m.length) : ∃ ad b o, A = some ad ∧ ad.add k = ⟨b, o, none⟩ ∧ w.cell? ⟨b, o, none⟩ = some (.string ⟨m[k].toArray⟩) := by
  have h2 : Sl w 1 A m.length c (m.flatMap fun x => [encStr x]) := by
    have := h
    unfold SlT tx at this
    rwa [List.map_eq_flatMap] at this
  obtain ⟨ad, b, o, hA, had, hcc⟩ := Sl.atS (f := fun x => [encStr x]) (size := 1) (fun _ => rfl) (by omega) h2 hk
  have hc := hcc 0 _ rfl
  rw [Nat.add_zero] at hc
  rw [Nat.mul_one] at had
  exact ⟨ad, b, o, hA, had, hc⟩
set_option maxRecDepth 100000 in
set_option maxHeartbeats 1000000 in
theorem Texts_any {A B : Option Addr} {c c2 : Nat} {m m2 : List Bs} (w : World) (h : SlT w A c m) (h2 : SlT w B c2 m2) : Calls Tryz.prog 99 #[.slice A m.length c, .slice B m2.length c2] w fun e w' => e = .returned (.bool (decide (m = m2))) ∧ Below w.heap.size w w' := by
  have hm : m.length ≤ maxLen := Nat.le_trans h.2.1 h.2.2.1
  have hm2 : m2.length ≤ maxLen := Nat.le_trans h2.2.1 h2.2.2.1
  unfold maxLen at hm hm2
  have H := Lib.hid h
  have H2 := Lib.hid h2
  clear h h2
  by_cases hlen : m.length = m2.length
  · have hne : ((m.length : Int) != (m2.length : Int)) = false := by simp [hlen]
    have HL := Lib.hid hlen
    clear hlen
    go_enter Tryz.func99, Tryz.ntmps99
    go_wp2_with fail
    go_loopw [13] (fun x wr => ∃ k : Nat, k ≤ m.length ∧ x = .int .i64 k ∧ Hid (m.take k = m2.take k) ∧ Below w.heap.size w wr) (fun x w => m.length - (intOf x).toNat)
    case atStart => exact ⟨0, Nat.zero_le _, rfl, Lib.hid rfl, Below.refl _ _⟩
    case round =>
      obtain ⟨k, hk, rfl, hq, hbr⟩ := hrel
      by_cases hlt : k < m.length
      · have hlt2 : k < m2.length := by rw [← HL.out]; exact hlt
        obtain ⟨ad, b, o, hA, had, hc⟩ := SlT.at1 (H.out.below hbr) hlt
        obtain ⟨ad2, b2, o2, hA2, had2, hc2⟩ := SlT.at1 (H2.out.below hbr) hlt2
        have s1 := Lib.hid (show m.take (k + 1) = m.take k ++ [m[k]] from List.take_succ_eq_append_getElem hlt)
        have s2 := Lib.hid (show m2.take (k + 1) = m2.take k ++ [m2[k]] from List.take_succ_eq_append_getElem hlt2)
        have HX := Lib.hid (show m[k] ≠ m2[k] → m ≠ m2 from fun h1 e => h1 (by subst e; rfl))
        generalize m[k] = x at *
        generalize m2[k] = y at *
        subst hA hA2
        by_cases he : x = y
        · have hbe : (x == y) = true := by rw [he]; simp
          have hbe2 : (y == y) = true := by simp
          have HE := Lib.hid he
          have hi1 : (k : Int) < (m.length : Int) := by omega
          have hi2 : (k : Int) < (m2.length : Int) := by omega
          clear he
          go_wp2_with fail
          go_quiet (fail)
          go_wp2_with fail
          go_roundw
          case rel => exact ⟨k + 1, hlt, by go_num, Lib.hid (by rw [s1.out, s2.out, hq.out, HE.out]), below_drewN hbr _⟩
          case measure => simp [intOf]; omega
        · have hbe : (x == y) = false := by simp [he]
          have hd := Lib.hid (show decide (m = m2) = false from decide_eq_false (HX.out he))
          have hi1 : (k : Int) < (m.length : Int) := by omega
          have hi2 : (k : Int) < (m2.length : Int) := by omega
          clear he
          go_wp2_with fail
          go_quiet (fail)
          go_wp2_with fail
          go_ret
          exact ⟨by rw [hd.out]; rfl, below_drewN hbr _⟩
      · have hd := Lib.hid (show decide (m = m2) = true from decide_eq_true (by
          have := hq.out
          rwa [List.take_of_length_le (by omega), List.take_of_length_le (by have := HL.out; omega)] at this))
        go_wp2_with fail
        go_ret
        exact ⟨by rw [hd.out]; rfl, hbr⟩
  · have hne : ((m.length : Int) != (m2.length : Int)) = true := by rw [bne_iff_ne]; omega
    have hd := Lib.hid (show decide (m = m2) = false from decide_eq_false (fun e => hlen (by rw [e])))
    clear hlen
    go_enter Tryz.func99, Tryz.ntmps99
    go_wp2_with fail
    go_ret
    exact ⟨by rw [hd.out]; rfl, Below.refl _ _⟩
/-! ### rows that stay while a disk is used -/
/-- the block of a slice, if any, is there, and is none of a disk's -/
def Hld (q : Fp) (w : World) (A : Option Addr) : Prop := ∀ k, A.map (·.block) = some k → k < w.heap.size ∧ ¬ q.M k
theorem Hld.act {q q' : Fp} {w w' : World} {A : Option Addr} (h : Hld q w A) (hF : Frd q w w') (hM : ∀ i, q'.M i → q.M i ∨ w.heap.size ≤ i) : Hld q' w' A := fun k hk => by
  obtain ⟨h1, h2⟩ := h k hk
  exact ⟨Nat.lt_of_lt_of_le h1 hF.size, fun hq => by
    rcases hM k hq with h3 | h3
    · exact h2 h3
    · omega⟩
theorem Hld.of {q : Fp} {w0 w : World} {d : Dk Sv} (hD : Dsk w0 q d) {A : Option Addr} (h : ∀ k, A.map (·.block) = some k → w0.heap.size ≤ k ∧ k < w.heap.size) : Hld q w A := fun k hk => ⟨(h k hk).2, fun hq => by
  have := hD.ltM hq
  have := (h k hk).1
  omega⟩
theorem Sl.sameH {w w' : World} {size n c : Nat} {A : Option Addr} {xs : List Value} (h : Sl w size A n c xs) (hs : ∀ k, A.map (·.block) = some k → w'.heap[k]? = w.heap[k]?) : Sl w' size A n c xs :=
  ⟨h.1, h.2.1, h.2.2.1, h.2.2.2.1, fun j u hj => by
    obtain ⟨ad, hA, hc⟩ := h.2.2.2.2 j u hj
    refine ⟨ad, hA, ?_⟩
    rw [← hc]
    unfold World.cell?
    rw [addr_add_block, hs ad.block (by rw [hA]; rfl)]⟩
theorem Hld.same {q : Fp} {w w' : World} {A : Option Addr} (h : Hld q w A) (hF : Frd q w w') : ∀ k, A.map (·.block) = some k → w'.heap[k]? = w.heap[k]? := fun k hk => hF.block k (h k hk).1 (h k hk).2
/-- texts that stay -/
def TxH (q : Fp) (w : World) (A : Option Addr) (c : Nat) (m : List Bs) : Prop := SlT w A c m ∧ Hld q w A
theorem TxH.act {q q' : Fp} {w w' : World} {A : Option Addr} {c : Nat} {m : List Bs} (h : TxH q w A c m) (hF : Frd q w w') (hM : ∀ i, q'.M i → q.M i ∨ w.heap.size ≤ i) : TxH q' w' A c m := ⟨Sl.sameH h.1 (h.2.same hF), h.2.act hF hM⟩
theorem TxH.of {q : Fp} {w0 w : World} {d : Dk Sv} (hD : Dsk w0 q d) {A : Option Addr} {c : Nat} {m : List Bs} (h : OwnT w w0.heap.size A c m) : TxH q w A c m := ⟨Own.sl h, Hld.of hD (Own.lt h)⟩
end Go.Proofs.YtabnndjdkjkciaaGreatDoor

namespace Go.Proofs.YtabnndjdkjkciaaGreatDoor
open Go.RowKit Go.Maps Go.Sort
attribute [local go_sem ↓] Go.wp_at_zero Go.wp_at_succ

/-- all that a disk may write lies behind the block B; below it the world is as it was -/
def Fro (w0 w : World) (q : Fp) : Prop := Below w0.heap.size w0 w ∧ ∀ i, q.M i → w0.heap.size ≤ i
theorem Fro.frd {w0 w w' : World} {q q' : Fp} (h : Fro w0 w q) (hF : Frd q w w') (hM : ∀ i, q'.M i → q.M i ∨ w.heap.size ≤ i) : Fro w0 w' q' := by
  have hs := h.1.size
  refine ⟨⟨hF.os.trans h.1.os, hF.tape.trans h.1.tape, hF.output.trans h.1.output, by have := hF.size; omega, fun i hi => ?_⟩, fun i hi => ?_⟩
  · rw [hF.block i (by omega) (fun hq => by have := h.2 i hq; omega)]
    exact h.1.block i hi
  · rcases hM i hi with hi | hi
    · exact h.2 i hi
    · omega
theorem Fro.call {w0 w w' : World} {q : Fp} (h : Fro w0 w q) (hb : Below w.heap.size w w') : Fro w0 w' q := ⟨h.1.trans (hb.mono h.1.size), h.2⟩
end Go.Proofs.YtabnndjdkjkciaaGreatDoor

namespace Go.Proofs.YtabnndjdkjkciaaGreatDoor
open Go.RowKit Go.Maps Go.Sort
attribute [local go_sem ↓] Go.wp_at_zero Go.wp_at_succ

theorem isSign_int (c : UInt8) : isSign c = (decide (97 ≤ (c.toNat : Int) ∧ (c.toNat : Int) ≤ 122) || decide (48 ≤ (c.toNat : Int) ∧ (c.toNat : Int) ≤ 57) || decide ((c.toNat : Int) = 45) || decide ((c.toNat : Int) = 46) || decide ((c.toNat : Int) = 126)) := by
  have hall : ((List.range 256).all fun n => isSign (UInt8.ofNat n) == (decide (97 ≤ (n : Int) ∧ (n : Int) ≤ 122) || decide (48 ≤ (n : Int) ∧ (n : Int) ≤ 57) || decide ((n : Int) = 45) || decide ((n : Int) = 46) || decide ((n : Int) = 126))) = true := by decide +kernel
  have h := List.all_eq_true.1 hall c.toNat (List.mem_range.2 (UInt8.toNat_lt c))
  rw [UInt8.ofNat_toNat] at h
  simpa using h
theorem ix_str (s : Bs) {k : Nat} (hk : k < s.length) (w : World) : (Instr.index 9 (.string ⟨s.toArray⟩) (.int .i64 k)).run Tryz.prog w = .ok (.int .u8 (s[k].toNat : Int)) w := by
  have h1 : (ByteArray.size ⟨s.toArray⟩) = s.length := by simp [ByteArray.size]
  rw [run_index_string _ _ _ _ _ Tryz.underlying9, dif_pos ⟨by omega, by rw [h1]; omega⟩]
  rfl
set_option maxRecDepth 100000 in
set_option maxHeartbeats 1000000 in
theorem RNamed_any (s : Bs) (w : World) (hl : s.length ≤ 9223372036854775807) : Calls Tryz.prog 152 #[.string ⟨s.toArray⟩] w fun e w' => e = .returned (.bool (named s)) ∧ Below w.heap.size w w' := by
  have hsz : (ByteArray.size ⟨s.toArray⟩) = s.length := by simp [ByteArray.size]
  go_enter Tryz.func152, Tryz.ntmps152
  go_wp2_with fail
  go_loopw [3] (fun x wr => ∃ k : Nat, k ≤ s.length ∧ x = .int .i64 k ∧ (∀ i (hi : i < s.length), i < k → isSign s[i] = true) ∧ Below w.heap.size w wr) (fun x w => s.length - (intOf x).toNat)
  case atStart => exact ⟨0, Nat.zero_le _, rfl, (fun i _ hi => by omega), Below.refl _ _⟩
  case round =>
    obtain ⟨k, hk, rfl, hno, hb⟩ := hrel
    by_cases hlt : k < s.length
    · have hkI : (k : Int) < (s.length : Int) := by omega
      have hix : ∀ W : World, (Instr.index 9 (.string ⟨s.toArray⟩) (.int .i64 k)).run Tryz.prog W = .ok (.int .u8 (s[k].toNat : Int)) W := fun W => ix_str s hlt W
      obtain ⟨c0, hc0⟩ : ∃ c, s[k] = c := ⟨_, rfl⟩
      rw [hc0] at hix
      have he := Lib.hid hc0
      have hs0 := isSign_int c0
      have hr := UInt8.toNat_lt c0
      generalize hx : (c0.toNat : Int) = x at *
      by_cases h1 : 97 ≤ x ∧ x ≤ 122
      · obtain ⟨h1, h2⟩ := h1
        have HS := Lib.hid (show isSign c0 = true from by rw [hs0]; simp <;> omega)
        clear hs0 hc0
        go_wp2_with fail
        go_roundw
        case rel => exact ⟨k + 1, hlt, by go_num, (fun i hi hik => by
          rcases Nat.lt_or_ge i k with h | h
          · exact hno i hi h
          · obtain rfl : i = k := by omega
            rw [he.out]
            exact HS.out), hb⟩
        case measure => simp [intOf]; omega
      by_cases h2 : 48 ≤ x ∧ x ≤ 57
      · obtain ⟨h2, h3⟩ := h2
        have h4 : x < 97 := by omega
        have HS := Lib.hid (show isSign c0 = true from by rw [hs0]; simp <;> omega)
        clear hs0 hc0
        go_wp2_with fail
        go_roundw
        case rel => exact ⟨k + 1, hlt, by go_num, (fun i hi hik => by
          rcases Nat.lt_or_ge i k with h | h
          · exact hno i hi h
          · obtain rfl : i = k := by omega
            rw [he.out]
            exact HS.out), hb⟩
        case measure => simp [intOf]; omega
      by_cases h3 : x = 45
      · subst h3
        have HS := Lib.hid (show isSign c0 = true from by rw [hs0]; simp <;> omega)
        clear hs0 hc0
        go_wp2_with fail
        go_roundw
        case rel => exact ⟨k + 1, hlt, by go_num, (fun i hi hik => by
          rcases Nat.lt_or_ge i k with h | h
          · exact hno i hi h
          · obtain rfl : i = k := by omega
            rw [he.out]
            exact HS.out), hb⟩
        case measure => simp [intOf]; omega
      by_cases h4 : x = 46
      · subst h4
        have HS := Lib.hid (show isSign c0 = true from by rw [hs0]; simp <;> omega)
        clear hs0 hc0
        go_wp2_with fail
        go_roundw
        case rel => exact ⟨k + 1, hlt, by go_num, (fun i hi hik => by
          rcases Nat.lt_or_ge i k with h | h
          · exact hno i hi h
          · obtain rfl : i = k := by omega
            rw [he.out]
            exact HS.out), hb⟩
        case measure => simp [intOf]; omega
      by_cases h5 : x = 126
      · subst h5
        have HS := Lib.hid (show isSign c0 = true from by rw [hs0]; simp <;> omega)
        clear hs0 hc0
        go_wp2_with fail
        go_roundw
        case rel => exact ⟨k + 1, hlt, by go_num, (fun i hi hik => by
          rcases Nat.lt_or_ge i k with h | h
          · exact hno i hi h
          · obtain rfl : i = k := by omega
            rw [he.out]
            exact HS.out), hb⟩
        case measure => simp [intOf]; omega
      have b3 : (x == 45) = false := by simpa using h3
      have b4 : (x == 46) = false := by simpa using h4
      have b5 : (x == 126) = false := by simpa using h5
      by_cases h6 : 97 ≤ x
      · have h7 : 122 < x := by omega
        have h8 : 48 ≤ x := by omega
        have h9 : 57 < x := by omega
        have d7 : decide (x ≤ 122) = false := by simp; omega
        have d9 : decide (x ≤ 57) = false := by simp; omega
        have HS := Lib.hid (show named s = false from by
          unfold named
          have h1 : isSign c0 = false := by rw [hs0]; simp; omega
          have : s.all isSign = false := List.all_eq_false.2 ⟨s[k], List.getElem_mem hlt, by rw [he.out, h1]; simp⟩
          rw [this]
          simp)
        clear hs0 hc0 hno
        go_wp2_with fail
        go_ret
        exact ⟨by rw [HS.out]; rfl, hb⟩
      · replace h6 : x < 97 := by omega
        by_cases h7 : 48 ≤ x
        · have h9 : 57 < x := by omega
          have d6 : decide (97 ≤ x) = false := by simp; omega
          have d9 : decide (x ≤ 57) = false := by simp; omega
          have HS := Lib.hid (show named s = false from by
            unfold named
            have h1 : isSign c0 = false := by rw [hs0]; simp; omega
            have : s.all isSign = false := List.all_eq_false.2 ⟨s[k], List.getElem_mem hlt, by rw [he.out, h1]; simp⟩
            rw [this]
            simp)
          clear hs0 hc0 hno
          go_wp2_with fail
          go_ret
          exact ⟨by rw [HS.out]; rfl, hb⟩
        · replace h7 : x < 48 := by omega
          have d6 : decide (97 ≤ x) = false := by simp; omega
          have d7 : decide (48 ≤ x) = false := by simp; omega
          have HS := Lib.hid (show named s = false from by
            unfold named
            have h1 : isSign c0 = false := by rw [hs0]; simp; omega
            have : s.all isSign = false := List.all_eq_false.2 ⟨s[k], List.getElem_mem hlt, by rw [he.out, h1]; simp⟩
            rw [this]
            simp)
          clear hs0 hc0 hno
          go_wp2_with fail
          go_ret
          exact ⟨by rw [HS.out]; rfl, hb⟩
    · have hke : k = s.length := by omega
      have hkI : (s.length : Int) ≤ (k : Int) := by omega
      have ha : s.all isSign = true := List.all_eq_true.2 fun x hx => by
        obtain ⟨i, hi, rfl⟩ := List.getElem_of_mem hx
        exact hno i hi (by omega)
      clear hno
      rcases Nat.lt_or_ge s.length 1 with h1 | h1
      · have hI : (s.length : Int) < 1 := by omega
        have HN := Lib.hid (show named s = false from by unfold named; simp; omega)
        go_wp2_with fail
        go_ret
        exact ⟨by rw [HN.out]; rfl, hb⟩
      have hI : (1 : Int) ≤ (s.length : Int) := by omega
      have HN := Lib.hid (show named s = decide ((s.length : Int) ≤ 24) from by unfold named; rw [ha, decide_eq_true (show 1 ≤ s.length from h1), Bool.true_and, Bool.and_true]; exact decide_eq_decide.2 (by omega))
      go_wp2_with fail
      go_ret
      exact ⟨by rw [HN.out]; rfl, hb⟩
/-! ### a nil disk -/
end Go.Proofs.YtabnndjdkjkciaaGreatDoor
