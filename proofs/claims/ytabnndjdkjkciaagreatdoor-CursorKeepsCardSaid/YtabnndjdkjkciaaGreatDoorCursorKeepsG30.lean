/- WHAT IT HOLDS: the document's disk: its power cut: walked. | WHAT IT HOLDS: a disk shows the document's: walked. | WHAT IT HOLDS: what is done to a disk, done to the document's, plainly. -/
import Derived.Test.YtabnndjdkjkciaaGreatDoorCursorKeepsG29
import Derived.Test.YtabnndjdkjkciaaGreatDoorCursorKeepsG12
import Derived.Test.YtabnndjdkjkciaaGreatDoorCursorKeepsG11
namespace Go.Proofs.YtabnndjdkjkciaaGreatDoor
open Go.RowKit Go.Maps Go.Sort
attribute [local go_sem ↓] Go.wp_at_zero Go.wp_at_succ

theorem kept_past {α : Type} {ks : List Bool} {cs : List (Chg α)} {i : Nat} (h : ks.length ≤ i) : ∀ n, kept ks (cs.take (i + n)) = kept ks (cs.take i)
  | 0 => rfl
  | n + 1 => by
    rw [← kept_past h n]
    rcases Nat.lt_or_ge (i + n) cs.length with h1 | h1
    · rw [show i + (n + 1) = i + n + 1 from rfl, kept_succ ks cs h1, List.getElem?_eq_none (by omega)]
      simp
    · rw [List.take_of_length_le (by omega), List.take_of_length_le h1]
theorem kept_end {α : Type} {ks : List Bool} {cs : List (Chg α)} {i : Nat} (h : ks.length ≤ i ∨ cs.length ≤ i) : kept ks (cs.take i) = kept ks cs := by
  rcases h with h | h
  · rw [← kept_past h cs.length, List.take_of_length_le (by omega)]
  · rw [List.take_of_length_le h]
/-- the cell k of a slice of bools -/
theorem SlZ.at1 {w : World} {A : Option Addr} {c : Nat} {m : List Bool} (h : SlZ w A c m) {k : Nat} (hk : k < m.length) : ∃ ad b o, A = some ad ∧ ad.add k = ⟨b, o, none⟩ ∧ w.cell? ⟨b, o, none⟩ = some (.bool m[k]) := by
  have h2 : Sl w 1 A m.length c (m.flatMap fun x => [Value.bool x]) := by
    have := h
    unfold SlZ at this
    rwa [List.map_eq_flatMap] at this
  obtain ⟨ad, b, o, hA, had, hcc⟩ := Sl.atS (f := fun x => [Value.bool x]) (size := 1) (fun _ => rfl) (by omega) h2 hk
  have hc := hcc 0 _ rfl
  rw [Nat.add_zero] at hc
  rw [Nat.mul_one] at had
  exact ⟨ad, b, o, hA, had, hc⟩
theorem Blk.rsSet {w : World} {g : Nat} {room fuse : Int} {down : Bool} {sure : List (Bs × Bs)} {pend : List (Chg Bs)} {A B : Option Addr} {c k : Nat} (h : Blk w g 91 (rda ⟨room, sure, pend, fuse, down⟩ A c B k)) (l : List (Bs × Bs)) (A' : Option Addr) (c' : Nat) : Blk (w.setCell ⟨g, 1, none⟩ (.slice A' l.length c')) g 91 (rda ⟨room, l, pend, fuse, down⟩ A' c' B k) := h.set_ 1 (.slice A' l.length c')
theorem cell_far {w : World} {g b : Nat} (h : b ≠ g) (i : Nat) (v : Value) {o : Nat} : (w.setCell ⟨g, i, none⟩ v).cell? ⟨b, o, none⟩ = w.cell? ⟨b, o, none⟩ := by
  unfold World.cell?
  rw [Below.heap_setCell w ⟨g, i, none⟩ v b h]
def GvK1 (T : Nat → Prop) (w w' : World) (e : Ending) (d : Dk Bs) : Prop := ∃ A c B k, e = .returned (.agg (rda d A c B k)) ∧ Rdk T w' d A c B k ∧ Below w.heap.size w w'
set_option maxRecDepth 100000 in
set_option maxHeartbeats 1000000 in
theorem KCut_any {T : Nat → Prop} {A B Q : Option Addr} {c k kc : Nat} (d : Dk Bs) (ks : List Bool) (w : World) (hT : ∀ k, w.heap.size ≤ k → T k) (h : Rdk T w d A c B k) (hk : SlZ w Q kc ks) (hl : d.sure.length + d.pend.length ≤ 100000) (hkl : ks.length ≤ 100000) :
    Calls Tryz.prog 89 #[.agg (rda d A c B k), .slice Q ks.length kc] w fun e w' => GvK1 T w w' e (dCut ks d) := by
  obtain ⟨room, sure, pend, fuse, down⟩ := d
  dsimp only at hl
  have hM := ((Mm.start w).alloc (rda ⟨room, sure, pend, fuse, down⟩ A c B k) 91).alloc rdz 91
  rw [show (w.alloc (.cells (rda ⟨room, sure, pend, fuse, down⟩ A c B k) 91)).heap.size = w.heap.size + 1 by simp] at hM
  have HM := Lib.hid hM
  have HT := Lib.hid hT
  have HP := Lib.hid (show SlK w B k pend from h.p)
  have HKs := Lib.hid hk
  have HS0 := Lib.hid (h.s.below hM.bel)
  have HA0 := Lib.hid (h.sa.t2 hM.bel.size)
  have HPa := Lib.hid h.pa
  clear hM hT hk h
  go_enter Tryz.func89, Tryz.ntmps89
  go_wp2_with fail
  go_loopw [5] (fun x wr => ∃ (i : Nat) (A' : Option Addr) (c' : Nat) (m : List (Bs × Bs)), i ≤ pend.length ∧ i ≤ ks.length ∧ x = .int .i64 i ∧ Mm w wr [(w.heap.size + 1, 91, rdz), (w.heap.size, 91, rda ⟨room, m, pend, fuse, down⟩ A' c' B k)] [] ∧ SlR wr A' c' m ∧ Okb (T2 T w.heap.size) wr A' ∧ Hid (m = fdos sure (kept ks (pend.take i)))) (fun x w => pend.length - (intOf x).toNat)
  case atStart => exact ⟨0, A, c, sure, Nat.zero_le _, Nat.zero_le _, rfl, HM.out, HS0.out, HA0.out, Lib.hid rfl⟩
  case round =>
    clear HM HS0 HA0
    obtain ⟨i, A', c', m, hi, hi2, rfl, hM, hS, hA, hm⟩ := hrel
    obtain ⟨b0, b1, b2, b3, b4, bf0, bf1, bf2, bf3, bf4⟩ := hM.b1.fiveC
    obtain ⟨r0, r1, r2, r3, r4, rf0, rf1, rf2, rf3, rf4⟩ := hM.b0.fiveC
    have hml : m.length ≤ 100000 := by
      rw [hm.out]
      have h1 := flen_dos sure (kept ks (pend.take i))
      have h2 := kept_len ks (pend.take i)
      rw [List.length_take] at h2
      omega
    by_cases hlt : i < pend.length
    · have hI : (i : Int) < (pend.length : Int) := by omega
      by_cases hlt2 : i < ks.length
      · have hI2 : (i : Int) < (ks.length : Int) := by omega
        obtain ⟨adk, bk, ok, hAk, hadk, hck⟩ := SlZ.at1 (show SlZ wr Q kc ks from Sl.below HKs.out hM.bel) hlt2
        have HX := Lib.hid (kept_succ ks pend hlt)
        rw [List.getElem?_eq_getElem hlt2] at HX
        obtain ⟨kb, hkk⟩ : ∃ b, ks[i] = b := ⟨_, rfl⟩
        rw [hkk] at hck HX
        cases kb with
        | false =>
          have HE := Lib.hid (show kept ks (pend.take (i + 1)) = kept ks (pend.take i) from by rw [HX.out]; simp)
          have HMm := Lib.hid hM
          subst hAk
          clear HX hkk hM
          go_wp2_with fail
          go_roundw
          case rel => exact ⟨i + 1, A', c', m, hlt, hlt2, by go_num, HMm.out, hS, hA, Lib.hid (by rw [hm.out, HE.out])⟩
          case measure => simp [intOf]; omega
        | true =>
          obtain ⟨ad, b, o, hAd, had, hc0, hc1, hc2, hc3⟩ := (HP.out.below hM.bel).at1 hlt
          have HE := Lib.hid (show fdos sure (kept ks (pend.take (i + 1))) = fdo m pend[i] from by rw [HX.out, if_pos rfl, fdos_snoc, hm.out])
          generalize pend[i] = x at *
          obtain ⟨kd, nm, tt, vv⟩ := x
          dsimp only at *
          subst hAk
          subst hAd
          have hst : (Mm w wr.drew [(w.heap.size + 1, 91, rdz)] [] ∧ wr.drew.cell? ⟨w.heap.size, 2, none⟩ = some (.slice (some ad) pend.length k)) ∧ wr.drew.cell? ⟨b, o, none⟩ = some (.int .i64 kd) ∧ wr.drew.cell? ⟨b, o + 1, none⟩ = some (.string ⟨nm.toArray⟩) ∧ wr.drew.cell? ⟨b, o + 2, none⟩ = some (.string ⟨tt.toArray⟩) ∧ wr.drew.cell? ⟨b, o + 3, none⟩ = some (.string ⟨vv.toArray⟩) := ⟨⟨(hM.drew).sub (by simp), b2⟩, hc0, hc1, hc2, hc3⟩
          have hB0 : Blk wr.drew w.heap.size 91 (rda ⟨room, m, pend, fuse, down⟩ A' c' (some ad) k) := hM.b1.drew
          have hbne : b ≠ w.heap.size := by
            have hbk := addr_add_block ad (i * 4)
            rw [had] at hbk
            have := (HPa.out b (congrArg some hbk.symm)).2
            omega
          have hS0 : SlR wr.drew A' c' m := hS
          have hA0 : Okb (T2 T w.heap.size) wr.drew A' := hA
          have hup : ∀ j, wr.drew.heap.size ≤ j → T2 T w.heap.size j := fun j hj => T2.up HT.out hM j hj
          have hws : wr.drew.heap.size = wr.heap.size := rfl
          go_upto_region 5 with (fail)
          refine wp_region_held_drew (S := (fun W => (Mm w W [(w.heap.size + 1, 91, rdz)] [] ∧ W.cell? ⟨w.heap.size, 2, none⟩ = some (.slice (some ad) pend.length k)) ∧ W.cell? ⟨b, o, none⟩ = some (.int .i64 kd) ∧ W.cell? ⟨b, o + 1, none⟩ = some (.string ⟨nm.toArray⟩) ∧ W.cell? ⟨b, o + 2, none⟩ = some (.string ⟨tt.toArray⟩) ∧ W.cell? ⟨b, o + 3, none⟩ = some (.string ⟨vv.toArray⟩))) (by kernel_rfl) ?_ (fun hHeld => ?_)
          · exact hst
          refine gen0 (T := fun W => ((fun W => (Mm w W [(w.heap.size + 1, 91, rdz)] [] ∧ W.cell? ⟨w.heap.size, 2, none⟩ = some (.slice (some ad) pend.length k)) ∧ W.cell? ⟨b, o, none⟩ = some (.int .i64 kd) ∧ W.cell? ⟨b, o + 1, none⟩ = some (.string ⟨nm.toArray⟩) ∧ W.cell? ⟨b, o + 2, none⟩ = some (.string ⟨tt.toArray⟩) ∧ W.cell? ⟨b, o + 3, none⟩ = some (.string ⟨vv.toArray⟩))) W ∧ Blk W w.heap.size 91 (rda ⟨room, m, pend, fuse, down⟩ A' c' (some ad) k) ∧ SlR W A' c' m ∧ Okb (T2 T w.heap.size) W A' ∧ wr.heap.size ≤ W.heap.size ∧ True) ?_ (fun wq1 hT => ?_)
          · exact ⟨by (with_reducible exact hst), by (with_reducible assumption), by (with_reducible assumption), by (with_reducible assumption), by (exact Nat.le_refl _), trivial⟩
          (try clear f0 f1 f2 f3 f4 f5 f6 f7 f8 f9 f10 f11)
          obtain ⟨hHeld, f0, f1, f2, f3, -⟩ := hT
          refine wpAnyH_take (i := 0) (oi := ⟨some 23, _, _, _, _, _⟩) (v := ?_) rfl (by kernel_rfl) (by kernel_rfl) (by kernel_rfl) (fun _ _ _ h => h) (Or.inl ⟨by kernel_rfl, ?_⟩) (by assumption) ?_
          rotate_left
          · (intro wS hSw; (try dsimp only at hSw); obtain ⟨⟨-, y2⟩, y3, y4, y5, y6⟩ := hSw; go_simp; (try with_reducible rfl))
          (try simp only [Act.put, List.setIfInBounds_toArray, List.set_cons_zero, List.set_cons_succ])
          refine wpAnyH_take (i := 2) (oi := ⟨some 25, _, _, _, _, _⟩) (v := ?_) rfl (by kernel_rfl) (by kernel_rfl) (by kernel_rfl) (fun _ _ _ h => h) (Or.inl ⟨by kernel_rfl, ?_⟩) (by assumption) ?_
          rotate_left
          · (intro wS hSw; (try dsimp only at hSw); obtain ⟨⟨-, y2⟩, y3, y4, y5, y6⟩ := hSw; go_simp; (try with_reducible rfl))
          (try simp only [Act.put, List.setIfInBounds_toArray, List.set_cons_zero, List.set_cons_succ])
          refine wpAnyH_take (i := 3) (oi := ⟨some 26, _, _, _, _, _⟩) (v := ?_) rfl (by kernel_rfl) (by kernel_rfl) (by kernel_rfl) (fun _ _ _ h => h) (Or.inl ⟨by kernel_rfl, ?_⟩) (by assumption) ?_
          rotate_left
          · (intro wS hSw; (try dsimp only at hSw); obtain ⟨⟨-, y2⟩, y3, y4, y5, y6⟩ := hSw; go_simp; (try with_reducible rfl))
          (try simp only [Act.put, List.setIfInBounds_toArray, List.set_cons_zero, List.set_cons_succ])
          refine wpAnyH_take (i := 4) (oi := ⟨some 27, _, _, _, _, _⟩) (v := ?_) rfl (by kernel_rfl) (by kernel_rfl) (by kernel_rfl) (fun _ _ _ h => h) (Or.inl ⟨by kernel_rfl, ?_⟩) (by assumption) ?_
          rotate_left
          · (intro wS hSw; (try dsimp only at hSw); obtain ⟨⟨-, y2⟩, y3, y4, y5, y6⟩ := hSw; go_simp; (try with_reducible rfl))
          (try simp only [Act.put, List.setIfInBounds_toArray, List.set_cons_zero, List.set_cons_succ])
          refine wpAnyH_take (i := 5) (oi := ⟨some 28, _, _, _, _, _⟩) (v := ?_) rfl (by kernel_rfl) (by kernel_rfl) (by kernel_rfl) (fun _ _ _ h => h) (Or.inl ⟨by kernel_rfl, ?_⟩) (by assumption) ?_
          rotate_left
          · (intro wS hSw; (try dsimp only at hSw); obtain ⟨⟨-, y2⟩, y3, y4, y5, y6⟩ := hSw; go_simp; (try with_reducible rfl))
          (try simp only [Act.put, List.setIfInBounds_toArray, List.set_cons_zero, List.set_cons_succ])
          refine wpAnyH_take (i := 6) (oi := ⟨some 29, _, _, _, _, _⟩) (v := ?_) rfl (by kernel_rfl) (by kernel_rfl) (by kernel_rfl) (fun _ _ _ h => h) (Or.inl ⟨by kernel_rfl, ?_⟩) (by assumption) ?_
          rotate_left
          · (intro wS hSw; (try dsimp only at hSw); obtain ⟨⟨-, y2⟩, y3, y4, y5, y6⟩ := hSw; go_simp; (try with_reducible rfl))
          (try simp only [Act.put, List.setIfInBounds_toArray, List.set_cons_zero, List.set_cons_succ])
          refine wpAnyH_ready (rs := [1]) (by kernel_rfl) (by simp) ?_
          refine AllReadyH.cons (o := ⟨some 24, _, _, _, _, _⟩) rfl (fun K hK => ?_) AllReadyH.nil
          ((obtain ⟨s0, s1, s2, s3, s4, sf0, sf1, sf2, sf3, sf4⟩ := f0.fiveC)); go_simp
          refine hK.out _ _ ?_ (fun _ => ?_)
          · ((try dsimp only); (with_reducible exact hHeld))
          clear hK K
          (try simp only [Act.put, List.setIfInBounds_toArray, List.set_cons_zero, List.set_cons_succ])
          refine gen0 (T := fun W => ((fun W => (Mm w W [(w.heap.size + 1, 91, rdz)] [] ∧ W.cell? ⟨w.heap.size, 2, none⟩ = some (.slice (some ad) pend.length k)) ∧ W.cell? ⟨b, o, none⟩ = some (.int .i64 kd) ∧ W.cell? ⟨b, o + 1, none⟩ = some (.string ⟨nm.toArray⟩) ∧ W.cell? ⟨b, o + 2, none⟩ = some (.string ⟨tt.toArray⟩) ∧ W.cell? ⟨b, o + 3, none⟩ = some (.string ⟨vv.toArray⟩))) W ∧ Blk W w.heap.size 91 (rda ⟨room, m, pend, fuse, down⟩ A' c' (some ad) k) ∧ SlR W A' c' m ∧ Okb (T2 T w.heap.size) W A' ∧ wr.heap.size ≤ W.heap.size ∧ True) ?_ (fun wq2 hT => ?_)
          · exact ⟨by (with_reducible exact hHeld), by (with_reducible assumption), by (with_reducible assumption), by (with_reducible assumption), by (with_reducible assumption), trivial⟩
          (try clear f0 f1 f2 f3 f4 f5 f6 f7 f8 f9 f10 f11)
          obtain ⟨hHeld, f0, f1, f2, f3, -⟩ := hT
          refine wpAnyH_ready (rs := [7]) (by kernel_rfl) (by simp) ?_
          refine AllReadyH.cons (o := ⟨some 30, _, _, _, _, _⟩) rfl (fun K hK => ?_) AllReadyH.nil
          go_simp
          (refine (RApply_any (T := T2 T w.heap.size) ⟨kd, nm, tt, vv⟩ _ (fun j hj => hup j (by omega)) f1 f2 (by omega)).mono ?_; rintro e w7 ⟨A7, c7, m7, rfl, hm7, hs7, ho7, hb7⟩)
          go_wp2_with fail
          refine hK.out _ _ ?_ (fun _ => ?_)
          · ((try dsimp only); (exact ⟨⟨hHeld.1.1.call hb7, (hb7.cell (World.block_lt_of_cell? _ _ hHeld.1.2)).trans hHeld.1.2⟩, (hb7.cell (World.block_lt_of_cell? _ _ hHeld.2.1)).trans hHeld.2.1, (hb7.cell (World.block_lt_of_cell? _ _ hHeld.2.2.1)).trans hHeld.2.2.1, (hb7.cell (World.block_lt_of_cell? _ _ hHeld.2.2.2.1)).trans hHeld.2.2.2.1, (hb7.cell (World.block_lt_of_cell? _ _ hHeld.2.2.2.2)).trans hHeld.2.2.2.2⟩))
          clear hK K
          (try simp only [Act.put, List.setIfInBounds_toArray, List.set_cons_zero, List.set_cons_succ])
          refine gen0 (T := fun W => ((fun W => (Mm w W [(w.heap.size + 1, 91, rdz)] [] ∧ W.cell? ⟨w.heap.size, 2, none⟩ = some (.slice (some ad) pend.length k)) ∧ W.cell? ⟨b, o, none⟩ = some (.int .i64 kd) ∧ W.cell? ⟨b, o + 1, none⟩ = some (.string ⟨nm.toArray⟩) ∧ W.cell? ⟨b, o + 2, none⟩ = some (.string ⟨tt.toArray⟩) ∧ W.cell? ⟨b, o + 3, none⟩ = some (.string ⟨vv.toArray⟩))) W ∧ Blk W w.heap.size 91 (rda ⟨room, m, pend, fuse, down⟩ A' c' (some ad) k) ∧ SlR W A7 c7 m7 ∧ Okb (T2 T w.heap.size) W A7 ∧ True) ?_ (fun wq3 hT => ?_)
          · exact ⟨by (exact ⟨⟨hHeld.1.1.call hb7, (hb7.cell (World.block_lt_of_cell? _ _ hHeld.1.2)).trans hHeld.1.2⟩, (hb7.cell (World.block_lt_of_cell? _ _ hHeld.2.1)).trans hHeld.2.1, (hb7.cell (World.block_lt_of_cell? _ _ hHeld.2.2.1)).trans hHeld.2.2.1, (hb7.cell (World.block_lt_of_cell? _ _ hHeld.2.2.2.1)).trans hHeld.2.2.2.1, (hb7.cell (World.block_lt_of_cell? _ _ hHeld.2.2.2.2)).trans hHeld.2.2.2.2⟩), by (exact f0.below hb7), by (with_reducible assumption), by (with_reducible assumption), trivial⟩
          (try clear f0 f1 f2 f3 f4 f5 f6 f7 f8 f9 f10 f11)
          obtain ⟨hHeld, f0, f1, f2, -⟩ := hT
          refine wpAnyH_take (i := 8) (oi := ⟨some 31, _, _, _, _, _⟩) (v := ?_) rfl (by kernel_rfl) (by kernel_rfl) (by kernel_rfl) (fun _ _ _ h => h) (Or.inl ⟨by kernel_rfl, ?_⟩) (by assumption) ?_
          rotate_left
          · (intro wS hSw; (try dsimp only at hSw); obtain ⟨⟨-, y2⟩, y3, y4, y5, y6⟩ := hSw; go_simp; (try with_reducible rfl))
          (try simp only [Act.put, List.setIfInBounds_toArray, List.set_cons_zero, List.set_cons_succ])
          refine wpAnyH_ready (rs := [9]) (by kernel_rfl) (by simp) ?_
          refine AllReadyH.cons (o := ⟨none, _, _, _, _, _⟩) rfl (fun K hK => ?_) AllReadyH.nil
          ((obtain ⟨s0, s1, s2, s3, s4, sf0, sf1, sf2, sf3, sf4⟩ := f0.fiveC)); go_simp
          refine hK.out _ _ ?_ (fun _ => ?_)
          · ((try dsimp only); (exact ⟨⟨hHeld.1.1.off ((Wr.refl _ _).set_ 1 _) (by simp) (Nat.le_refl _), (f0.rsSet m7 A7 c7).cell 2⟩, (cell_far hbne _ _).trans hHeld.2.1, (cell_far hbne _ _).trans hHeld.2.2.1, (cell_far hbne _ _).trans hHeld.2.2.2.1, (cell_far hbne _ _).trans hHeld.2.2.2.2⟩))
          clear hK K
          (try simp only [Act.put, List.setIfInBounds_toArray, List.set_cons_zero, List.set_cons_succ])
          refine gen0 (T := fun W => ((fun W => (Mm w W [(w.heap.size + 1, 91, rdz)] [] ∧ W.cell? ⟨w.heap.size, 2, none⟩ = some (.slice (some ad) pend.length k)) ∧ W.cell? ⟨b, o, none⟩ = some (.int .i64 kd) ∧ W.cell? ⟨b, o + 1, none⟩ = some (.string ⟨nm.toArray⟩) ∧ W.cell? ⟨b, o + 2, none⟩ = some (.string ⟨tt.toArray⟩) ∧ W.cell? ⟨b, o + 3, none⟩ = some (.string ⟨vv.toArray⟩))) W ∧ Blk W w.heap.size 91 (rda ⟨room, m7, pend, fuse, down⟩ A7 c7 (some ad) k) ∧ SlR W A7 c7 m7 ∧ Okb (T2 T w.heap.size) W A7 ∧ True) ?_ (fun wq4 hT => ?_)
          · exact ⟨by (exact ⟨⟨hHeld.1.1.off ((Wr.refl _ _).set_ 1 _) (by simp) (Nat.le_refl _), (f0.rsSet m7 A7 c7).cell 2⟩, (cell_far hbne _ _).trans hHeld.2.1, (cell_far hbne _ _).trans hHeld.2.2.1, (cell_far hbne _ _).trans hHeld.2.2.2.1, (cell_far hbne _ _).trans hHeld.2.2.2.2⟩), by (exact f0.rsSet _ _ _), by (exact Sl.sam f1 f2 ((Sam.refl _ _).set (.inl rfl) 1 _)), by (exact f2.below (by simp)), trivial⟩
          (try clear f0 f1 f2 f3 f4 f5 f6 f7 f8 f9 f10 f11)
          obtain ⟨hHeld, f0, f1, f2, -⟩ := hT
          refine wpAnyH_done (by kernel_rfl) ?_ _
          have hM9 := hHeld.1.1.cons (g := w.heap.size) f0 (Nat.le_refl _) (by simp) (by simp)
          have HB9 := Lib.hid f0
          have hMx : Mm w _ [(w.heap.size + 1, 91, rdz), (w.heap.size, 91, rda ⟨room, m7, pend, fuse, down⟩ A7 c7 (some ad) k)] [] := ⟨hM9.bel, by simpa [or_comm] using hM9.blk, by simp, by simp, by simp⟩
          have HMx := Lib.hid hMx
          have HH := Lib.hid hHeld
          clear hMx hM9 hHeld
          go_wp2_with fail
          go_roundw
          case rel => exact ⟨i + 1, A7, c7, m7, hlt, hlt2, by go_num, HMx.out, f1, f2, Lib.hid (by rw [hm7.out, HE.out])⟩
          case measure => simp [intOf]; omega
      · have hI2 : (ks.length : Int) ≤ (i : Int) := by omega
        have HX := Lib.hid (show dCut ks (⟨room, sure, pend, fuse, down⟩ : Dk Bs) = ⟨room, m, [], fuse, true⟩ from by unfold dCut; dsimp only; rw [hm.out, kept_end (by omega)])
        have HS5 := Lib.hid (((((Sam.refl w.heap.size wr).set (.inl rfl) 2 (.slice none 0 0)).set (.inl rfl) 4 (.bool true)).st5 (.inr rfl) (.int .i64 room) (.slice A' m.length c') (.slice none 0 0) (.int .i64 fuse) (.bool true)))
        have HB5 := Lib.hid (bel_st5 (bel_set (bel_set hM.bel (p := ⟨w.heap.size, 2, none⟩) (Nat.le_refl _) (.slice none 0 0)) (p := ⟨w.heap.size, 4, none⟩) (Nat.le_refl _) (.bool true)) (g := w.heap.size + 1) (by omega) (.int .i64 room) (.slice A' m.length c') (.slice none 0 0) (.int .i64 fuse) (.bool true))
        have HSl := Lib.hid hS
        have HO := Lib.hid hA
        clear hS hA hm
        go_wp2_with fail
        exact bodyPost_ret (res_k1 rfl rfl (g := w.heap.size + 1) (((hM.set 1 2 _ rfl).set 1 4 _ rfl).b0.st5 _ _ _ _ _)) rfl (by rw [HX.out]; exact ⟨A', c', none, 0, rfl, ⟨Sl.sam HSl.out HO.out HS5.out, HO.out.sam HS5.out, Sl.none_ _ _, fun k hk => by cases hk⟩, HB5.out⟩)
    · have hI : (pend.length : Int) ≤ (i : Int) := by omega
      have HX := Lib.hid (show dCut ks (⟨room, sure, pend, fuse, down⟩ : Dk Bs) = ⟨room, m, [], fuse, true⟩ from by unfold dCut; dsimp only; rw [hm.out, kept_end (by omega)])
      have HS5 := Lib.hid (((((Sam.refl w.heap.size wr).set (.inl rfl) 2 (.slice none 0 0)).set (.inl rfl) 4 (.bool true)).st5 (.inr rfl) (.int .i64 room) (.slice A' m.length c') (.slice none 0 0) (.int .i64 fuse) (.bool true)))
      have HB5 := Lib.hid (bel_st5 (bel_set (bel_set hM.bel (p := ⟨w.heap.size, 2, none⟩) (Nat.le_refl _) (.slice none 0 0)) (p := ⟨w.heap.size, 4, none⟩) (Nat.le_refl _) (.bool true)) (g := w.heap.size + 1) (by omega) (.int .i64 room) (.slice A' m.length c') (.slice none 0 0) (.int .i64 fuse) (.bool true))
      have HSl := Lib.hid hS
      have HO := Lib.hid hA
      clear hS hA hm
      go_wp2_with fail
      exact bodyPost_ret (res_k1 rfl rfl (g := w.heap.size + 1) (((hM.set 1 2 _ rfl).set 1 4 _ rfl).b0.st5 _ _ _ _ _)) rfl (by rw [HX.out]; exact ⟨A', c', none, 0, rfl, ⟨Sl.sam HSl.out HO.out HS5.out, HO.out.sam HS5.out, Sl.none_ _ _, fun k hk => by cases hk⟩, HB5.out⟩)
end Go.Proofs.YtabnndjdkjkciaaGreatDoor

namespace Go.Proofs.YtabnndjdkjkciaaGreatDoor
open Go.RowKit Go.Maps Go.Sort
attribute [local go_sem ↓] Go.wp_at_zero Go.wp_at_succ

theorem names_map {α β : Type} (f : α → β) (l : List (Bs × α)) : names (gmap f l) = names l := by
  unfold names gmap
  rw [List.map_map]
  rfl
theorem fused_map (l : List (Bs × Sv)) : fused bln (gmap Sv.l l) = fused svl l := by
  unfold fused gmap
  rw [List.map_map]
  rfl
theorem Rdk.wk {T : Nat → Prop} {w : World} {d : Dk Bs} {A B : Option Addr} {c k : Nat} (h : Rdk T w d A c B k) : Rdk (fun _ => True) w d A c B k := ⟨h.s, fun j hj => ⟨trivial, (h.sa j hj).2⟩, h.p, fun j hj => ⟨trivial, (h.pa j hj).2⟩⟩
theorem Tf.at1 {w : World} {B : Nat} {A : Option Addr} {c : Nat} {r : List (Bs × Sv)} (h : Tf w B A c r) {k : Nat} (hk : k < r.length) : ∃ ad b o, A = some ad ∧ ad.add (k * 2) = ⟨b, o, none⟩ ∧ w.cell? ⟨b, o, none⟩ = some (.string ⟨r[k].1.toArray⟩) ∧ w.cell? ⟨b, o + 1, none⟩ = some (.slice r[k].2.A r[k].2.l.length r[k].2.c) ∧ SlB w r[k].2.A r[k].2.c r[k].2.l := by
  obtain ⟨ad, b, o, hA, had, hcc⟩ := Sl.atS (f := flv) (size := 2) (fun _ => rfl) (by omega) (Own.sl h.row) hk
  have h0 := hcc 0 _ rfl
  have h1 := hcc 1 _ rfl
  rw [Nat.add_zero] at h0
  exact ⟨ad, b, o, hA, had, h0, h1, h.rd _ (List.getElem_mem hk)⟩
theorem gmap_get {r l : List (Bs × Sv)} (h : gmap Sv.l r = gmap Sv.l l) {k : Nat} (hk : k < r.length) (hk2 : k < (gmap Sv.l l).length) : (gmap Sv.l l)[k] = (r[k].1, r[k].2.l) := by
  have : (gmap Sv.l l)[k]? = some (r[k].1, r[k].2.l) := by
    rw [← h]
    unfold gmap
    rw [List.getElem?_map, List.getElem?_eq_getElem hk]
    rfl
  rw [List.getElem?_eq_getElem hk2] at this
  injection this
set_option maxRecDepth 100000 in
set_option maxHeartbeats 1000000 in
theorem Shows_any {T : Nat → Prop} {w : World} {q : Fp} {d : Dk Sv} {A B : Option Addr} {c k : Nat} (h : Dsk w q d) (hR : Rdk T w (d.map Sv.l) A c B k) (hl : d.sure.length + d.pend.length ≤ 1000) :
    Calls Tryz.prog 43 #[.pointer (some ⟨q.g, 0, none⟩), .agg (rda (d.map Sv.l) A c B k)] w fun e w' => e = .returned (.bool true) ∧ Below w.heap.size w w' := by
  obtain ⟨p1, p2, p3, -⟩ := h.fits hl (by omega)
  have hlm : (d.map Sv.l).sure.length + (d.map Sv.l).pend.length ≤ 1000 := by
    show (gmap Sv.l d.sure).length + (d.pend.map (Chg.map Sv.l)).length ≤ 1000
    rw [gmap_len, List.length_map]
    exact hl
  have hpl : (d.map Sv.l).pend.length = d.pend.length := List.length_map ..
  have hsl : (d.map Sv.l).sure.length = d.sure.length := gmap_len
  have hdn : (d.map Sv.l).down = d.down := rfl
  have hsm : (d.map Sv.l).sure = gmap Sv.l d.sure := rfl
  have hsh := shown_map Sv.l d
  have HNm := Lib.hid (show rNames (d.map Sv.l) = ((if d.down = true then [] else names d.shown), (if d.down = true then 14 else 0)) from by
    unfold rNames
    rw [hdn, hsh, names_map]
    cases d.down <;> rfl)
  have HFs := Lib.hid (show fused bln (d.map Sv.l).shown = fused svl d.shown from by rw [hsh, fused_map])
  have HSm := Lib.hid hsm
  have HDn := Lib.hid hdn
  have hb0 := below_new w (.cells (rda (d.map Sv.l) A c B k) 91)
  have HB := Lib.hid (Blk.new w 91 (rda (d.map Sv.l) A c B k))
  have HR := Lib.hid (hR.wk.below hb0)
  have hD := h.below hb0
  have HL := Lib.hid (DList_any hD p2)
  have HD := Lib.hid hD
  have HB0 := Lib.hid hb0
  have HPl := Lib.hid hpl
  have HSl := Lib.hid hsl
  clear hpl hsl hdn hsm hsh h hR hD
  generalize d.map Sv.l = dm at *
  generalize hen : (if d.down = true then 14 else 0 : Nat) = en at *
  clear hb0
  go_enter Tryz.func43, Tryz.ntmps43
  go_wp2_with fail
  refine HL.out.mono ?_
  rintro e w1 ⟨A1, c1, m1, rfl, hm1, ho1, hb1⟩
  obtain ⟨r0, r1, r2, r3, r4, -⟩ := (HB.out.below hb1).fiveC
  have HN := Lib.hid (KNames_any dm w1 (HR.out.below hb1) (by omega))
  have HO1 := Lib.hid (show SlT w1 A1 c1 m1 from Own.sl ho1)
  have HM1 := Lib.hid hm1.out
  have HD1 := Lib.hid (HD.out.below hb1)
  have HR1 := Lib.hid (HR.out.below hb1)
  have HB1 := Lib.hid (HB.out.below hb1)
  have HW1 := Lib.hid (bel_call HB0.out hb1)
  clear HL hm1 ho1 hb1 HR HD HB0 HB
  go_wp2_with fail
  refine HN.out.mono ?_
  rintro e w2 ⟨A2, c2, m2, rfl, hm2, ho2, hb2⟩
  have HM2 := Lib.hid (show m1 = m2 from by rw [HM1.out, hm2.out, HNm.out])
  have HO2 := Lib.hid (show SlT w2 A2 c2 m2 from Own.sl ho2)
  have HO1' := Lib.hid (HO1.out.below hb2)
  have hD2 := HD1.out.below hb2
  have HS := Lib.hid (DSure_any hD2 (by omega))
  have HD2 := Lib.hid hD2
  have HR2 := Lib.hid (HR1.out.below hb2)
  have HB2 := Lib.hid (HB1.out.below hb2)
  have HW2 := Lib.hid (bel_call HW1.out hb2)
  have hen2 : (rNames dm).2 = en := by rw [HNm.out]
  rw [hen2]
  clear HN hm2 ho2 hb2 HD1 HR1 HB1 HW1 hD2 r0 r1 r2 r3 r4 HO1 hen2
  go_wp2_with fail
  refine HS.out.mono ?_
  rintro e w3 ⟨A3, c3, r, rfl, hr, hT, hb3⟩
  have HTx := fun W (hW : SlT W A1 c1 m1) (hW2 : SlT W A2 c2 m2) => Texts_any W hW hW2
  rw [show decide (m1 = m2) = true from decide_eq_true HM2.out] at HTx
  have HTx2 := Lib.hid HTx
  have HNum := Lib.hid (fun W => num_any en W)
  have hrl : r.length = dm.sure.length := by
    have := congrArg List.length hr.out
    rw [gmap_len, gmap_len] at this
    rw [HSl.out]
    exact this
  have hst : Dsk w3.drew q d ∧ Rdk (fun _ => True) w3.drew dm A c B k ∧ Blk w3.drew w.heap.size 91 (rda dm A c B k) ∧ SlT w3.drew A1 c1 m1 ∧ SlT w3.drew A2 c2 m2 ∧ Tf w3.drew w2.heap.size A3 c3 r ∧ Below w.heap.size w w3.drew := by
    have h1 := Below.drew hb3
    exact ⟨HD2.out.below h1, HR2.out.below h1, HB2.out.below h1, HO1'.out.below h1, HO2.out.below h1, ⟨hT.row, hT.rd, hT.ap, hT.lo⟩, (bel_call HW2.out hb3).drew⟩
  have b1 : ((en : Int) != (en : Int)) = false := by simp
  have b2 : (d.down == dm.down) = true := by rw [HDn.out]; simp
  have b3 : ((d.pend.length : Int) != (dm.pend.length : Int)) = false := by rw [HPl.out]; simp
  have b4 : ((r.length : Int) != (dm.sure.length : Int)) = false := by rw [hrl]; simp
  generalize errv en = ev at *
  have HRl := Lib.hid hrl
  have HRr := Lib.hid hr.out
  clear HTx hrl hr hT hb3 HD2 HR2 HB2 HW2 HO1' HO2 HS HM2
  go_upto_region 4 with (fail)
  refine wp_region_held_drew (S := (fun W => Dsk W q d ∧ Rdk (fun _ => True) W dm A c B k ∧ Blk W w.heap.size 91 (rda dm A c B k) ∧ SlT W A1 c1 m1 ∧ SlT W A2 c2 m2 ∧ Tf W w2.heap.size A3 c3 r ∧ Below w.heap.size w W)) (by kernel_rfl) ?_ (fun hHeld => ?_)
  · first | with_reducible exact hst | with_reducible exact hHeld | exact ⟨hHeld.1.below hb7, hHeld.2.1.below hb7, hHeld.2.2.1.below hb7, hHeld.2.2.2.1.below hb7, hHeld.2.2.2.2.1.below hb7, hHeld.2.2.2.2.2.1.below hb7, bel_call hHeld.2.2.2.2.2.2 hb7⟩
  refine wpAnyH_take (i := 0) (oi := ⟨some 24, _, _, _, _, _⟩) (v := ?_) rfl (by kernel_rfl) (by kernel_rfl) (by kernel_rfl) (fun _ _ _ h => h) (Or.inl ⟨by kernel_rfl, ?_⟩) (by assumption) ?_
  rotate_left
  · (intro wS hSw; (try dsimp only at hSw); obtain ⟨y0, y1, y2, y3, y4, -⟩ := hSw.2.2.1.fiveC; clear hSw; go_simp; (try with_reducible rfl))
  (try simp only [Act.put, List.setIfInBounds_toArray, List.set_cons_zero, List.set_cons_succ])
  refine wpAnyH_take (i := 1) (oi := ⟨some 25, _, _, _, _, _⟩) (v := ?_) rfl (by kernel_rfl) (by kernel_rfl) (by kernel_rfl) (fun _ _ _ h => h) (Or.inl ⟨by kernel_rfl, ?_⟩) (by assumption) ?_
  rotate_left
  · (intro wS hSw; (try dsimp only at hSw); obtain ⟨y0, y1, y2, y3, y4, -⟩ := hSw.2.2.1.fiveC; clear hSw; go_simp; (try with_reducible rfl))
  (try simp only [Act.put, List.setIfInBounds_toArray, List.set_cons_zero, List.set_cons_succ])
  refine wpAnyH_ready (rs := [2]) (by kernel_rfl) (by simp) ?_
  refine AllReadyH.cons (o := ⟨some 26, _, _, _, _, _⟩) rfl (fun K hK => ?_) AllReadyH.nil
  go_simp
  (refine (HTx2.out _ hHeld.2.2.2.1 hHeld.2.2.2.2.1).mono ?_; rintro e w7 ⟨rfl, hb7⟩)
  go_wp2_with fail
  refine hK.out _ _ ?_ (fun hHeld => ?_)
  · ((try dsimp only); (first | with_reducible exact hst | with_reducible exact hHeld | exact ⟨hHeld.1.below hb7, hHeld.2.1.below hb7, hHeld.2.2.1.below hb7, hHeld.2.2.2.1.below hb7, hHeld.2.2.2.2.1.below hb7, hHeld.2.2.2.2.2.1.below hb7, bel_call hHeld.2.2.2.2.2.2 hb7⟩))
  clear hK K
  (try simp only [Act.put, List.setIfInBounds_toArray, List.set_cons_zero, List.set_cons_succ])
  refine wpAnyH_take (i := 3) (oi := ⟨some 27, _, _, _, _, _⟩) (v := ?_) rfl (by kernel_rfl) (by kernel_rfl) (by kernel_rfl) (fun _ _ _ h => h) (Or.inl ⟨by kernel_rfl, ?_⟩) (by assumption) ?_
  rotate_left
  · (intro wS hSw; (try dsimp only at hSw); obtain ⟨y0, y1, y2, y3, y4, -⟩ := hSw.2.2.1.fiveC; clear hSw; go_simp; (try with_reducible rfl))
  (try simp only [Act.put, List.setIfInBounds_toArray, List.set_cons_zero, List.set_cons_succ])
  refine wpAnyH_take (i := 4) (oi := ⟨some 28, _, _, _, _, _⟩) (v := ?_) rfl (by kernel_rfl) (by kernel_rfl) (by kernel_rfl) (fun _ _ _ h => h) (Or.inl ⟨by kernel_rfl, ?_⟩) (by assumption) ?_
  rotate_left
  · (intro wS hSw; (try dsimp only at hSw); obtain ⟨y0, y1, y2, y3, y4, -⟩ := hSw.2.2.1.fiveC; clear hSw; go_simp; (try with_reducible rfl))
  (try simp only [Act.put, List.setIfInBounds_toArray, List.set_cons_zero, List.set_cons_succ])
  refine wpAnyH_take (i := 5) (oi := ⟨some 29, _, _, _, _, _⟩) (v := ?_) rfl (by kernel_rfl) (by kernel_rfl) (by kernel_rfl) (fun _ _ _ h => h) (Or.inl ⟨by kernel_rfl, ?_⟩) (by assumption) ?_
  rotate_left
  · (intro wS hSw; (try dsimp only at hSw); obtain ⟨y0, y1, y2, y3, y4, -⟩ := hSw.2.2.1.fiveC; clear hSw; go_simp; (try with_reducible rfl))
  (try simp only [Act.put, List.setIfInBounds_toArray, List.set_cons_zero, List.set_cons_succ])
  refine wpAnyH_take (i := 7) (oi := ⟨some 31, _, _, _, _, _⟩) (v := ?_) rfl (by kernel_rfl) (by kernel_rfl) (by kernel_rfl) (fun _ _ _ h => h) (Or.inl ⟨by kernel_rfl, ?_⟩) (by assumption) ?_
  rotate_left
  · (intro wS hSw; (try dsimp only at hSw); obtain ⟨y0, y1, y2, y3, y4, -⟩ := hSw.2.2.1.fiveC; clear hSw; go_simp; (try with_reducible rfl))
  (try simp only [Act.put, List.setIfInBounds_toArray, List.set_cons_zero, List.set_cons_succ])
  refine wpAnyH_ready (rs := [6]) (by kernel_rfl) (by simp) ?_
  refine AllReadyH.cons (o := ⟨some 30, _, _, _, _, _⟩) rfl (fun K hK => ?_) AllReadyH.nil
  go_simp
  (refine (HNum.out _).mono ?_; rintro e w8 ⟨rfl, rfl⟩)
  go_wp2_with fail
  refine hK.out _ _ ?_ (fun hHeld => ?_)
  · ((try dsimp only); (first | with_reducible exact hst | with_reducible exact hHeld | exact ⟨hHeld.1.below hb7, hHeld.2.1.below hb7, hHeld.2.2.1.below hb7, hHeld.2.2.2.1.below hb7, hHeld.2.2.2.2.1.below hb7, hHeld.2.2.2.2.2.1.below hb7, bel_call hHeld.2.2.2.2.2.2 hb7⟩))
  clear hK K
  (try simp only [Act.put, List.setIfInBounds_toArray, List.set_cons_zero, List.set_cons_succ])
  refine wpAnyH_take (i := 8) (oi := ⟨some 32, _, _, _, _, _⟩) (v := ?_) rfl (by kernel_rfl) (by kernel_rfl) (by kernel_rfl) (fun _ _ _ h => h) (Or.inl ⟨by kernel_rfl, ?_⟩) (by assumption) ?_
  rotate_left
  · (intro wS hSw; (try dsimp only at hSw); (go_simp; rfl))
  (try simp only [Act.put, List.setIfInBounds_toArray, List.set_cons_zero, List.set_cons_succ])
  refine wpAnyH_take (i := 9) (oi := ⟨some 33, _, _, _, _, _⟩) (v := ?_) rfl (by kernel_rfl) (by kernel_rfl) (by kernel_rfl) (fun _ _ _ h => h) (Or.inl ⟨by kernel_rfl, ?_⟩) (by assumption) ?_
  rotate_left
  · (intro wS hSw; (try dsimp only at hSw); obtain ⟨y0, y1, y2, y3, y4, -⟩ := hSw.2.2.1.fiveC; clear hSw; go_simp; (try with_reducible rfl))
  (try simp only [Act.put, List.setIfInBounds_toArray, List.set_cons_zero, List.set_cons_succ])
  refine wpAnyH_take (i := 10) (oi := ⟨some 34, _, _, _, _, _⟩) (v := ?_) rfl (by kernel_rfl) (by kernel_rfl) (by kernel_rfl) (fun _ _ _ h => h) (Or.inl ⟨by kernel_rfl, ?_⟩) (by assumption) ?_
  rotate_left
  · (intro wS hSw; (try dsimp only at hSw); obtain ⟨y0, y1, y2, y3, y4, -⟩ := hSw.2.2.1.fiveC; clear hSw; go_simp; (try with_reducible rfl))
  (try simp only [Act.put, List.setIfInBounds_toArray, List.set_cons_zero, List.set_cons_succ])
  refine wpAnyH_take (i := 11) (oi := ⟨some 35, _, _, _, _, _⟩) (v := ?_) rfl (by kernel_rfl) (by kernel_rfl) (by kernel_rfl) (fun _ _ _ h => h) (Or.inl ⟨by kernel_rfl, ?_⟩) (by assumption) ?_
  rotate_left
  · (intro wS hSw; (try dsimp only at hSw); obtain ⟨y0, y1, y2, y3, y4, -⟩ := hSw.2.2.1.fiveC; clear hSw; go_simp; (try with_reducible rfl))
  (try simp only [Act.put, List.setIfInBounds_toArray, List.set_cons_zero, List.set_cons_succ])
  refine wpAnyH_take (i := 13) (oi := ⟨some 37, _, _, _, _, _⟩) (v := ?_) rfl (by kernel_rfl) (by kernel_rfl) (by kernel_rfl) (fun _ _ _ h => h) (Or.inl ⟨by kernel_rfl, ?_⟩) (by assumption) ?_
  rotate_left
  · (intro wS hSw; (try dsimp only at hSw); obtain ⟨y0, y1, y2, y3, y4, -⟩ := hSw.2.2.1.fiveC; clear hSw; go_simp; (try with_reducible rfl))
  (try simp only [Act.put, List.setIfInBounds_toArray, List.set_cons_zero, List.set_cons_succ])
  refine wpAnyH_take (i := 14) (oi := ⟨some 38, _, _, _, _, _⟩) (v := ?_) rfl (by kernel_rfl) (by kernel_rfl) (by kernel_rfl) (fun _ _ _ h => h) (Or.inl ⟨by kernel_rfl, ?_⟩) (by assumption) ?_
  rotate_left
  · (intro wS hSw; (try dsimp only at hSw); obtain ⟨y0, y1, y2, y3, y4, -⟩ := hSw.2.2.1.fiveC; clear hSw; go_simp; (try with_reducible rfl))
  (try simp only [Act.put, List.setIfInBounds_toArray, List.set_cons_zero, List.set_cons_succ])
  refine wpAnyH_ready (rs := [12]) (by kernel_rfl) (by simp) ?_
  refine AllReadyH.cons (o := ⟨some 36, _, _, _, _, _⟩) rfl (fun K hK => ?_) AllReadyH.nil
  go_simp
  (refine (Down_any hHeld.1).mono ?_; rintro e w9 ⟨rfl, rfl⟩)
  go_wp2_with fail
  refine hK.out _ _ ?_ (fun hHeld => ?_)
  · ((try dsimp only); (first | with_reducible exact hst | with_reducible exact hHeld | exact ⟨hHeld.1.below hb7, hHeld.2.1.below hb7, hHeld.2.2.1.below hb7, hHeld.2.2.2.1.below hb7, hHeld.2.2.2.2.1.below hb7, hHeld.2.2.2.2.2.1.below hb7, bel_call hHeld.2.2.2.2.2.2 hb7⟩))
  clear hK K
  (try simp only [Act.put, List.setIfInBounds_toArray, List.set_cons_zero, List.set_cons_succ])
  refine wpAnyH_take (i := 15) (oi := ⟨some 39, _, _, _, _, _⟩) (v := ?_) rfl (by kernel_rfl) (by kernel_rfl) (by kernel_rfl) (fun _ _ _ h => h) (Or.inl ⟨by kernel_rfl, ?_⟩) (by assumption) ?_
  rotate_left
  · (intro wS hSw; (try dsimp only at hSw); (go_simp; rfl))
  (try simp only [Act.put, List.setIfInBounds_toArray, List.set_cons_zero, List.set_cons_succ])
  refine wpAnyH_take (i := 16) (oi := ⟨some 40, _, _, _, _, _⟩) (v := ?_) rfl (by kernel_rfl) (by kernel_rfl) (by kernel_rfl) (fun _ _ _ h => h) (Or.inl ⟨by kernel_rfl, ?_⟩) (by assumption) ?_
  rotate_left
  · (intro wS hSw; (try dsimp only at hSw); obtain ⟨y0, y1, y2, y3, y4, -⟩ := hSw.2.2.1.fiveC; clear hSw; go_simp; (try with_reducible rfl))
  (try simp only [Act.put, List.setIfInBounds_toArray, List.set_cons_zero, List.set_cons_succ])
  refine wpAnyH_take (i := 17) (oi := ⟨some 41, _, _, _, _, _⟩) (v := ?_) rfl (by kernel_rfl) (by kernel_rfl) (by kernel_rfl) (fun _ _ _ h => h) (Or.inl ⟨by kernel_rfl, ?_⟩) (by assumption) ?_
  rotate_left
  · (intro wS hSw; (try dsimp only at hSw); obtain ⟨y0, y1, y2, y3, y4, -⟩ := hSw.2.2.1.fiveC; clear hSw; go_simp; (try with_reducible rfl))
  (try simp only [Act.put, List.setIfInBounds_toArray, List.set_cons_zero, List.set_cons_succ])
  refine wpAnyH_take (i := 18) (oi := ⟨some 42, _, _, _, _, _⟩) (v := ?_) rfl (by kernel_rfl) (by kernel_rfl) (by kernel_rfl) (fun _ _ _ h => h) (Or.inl ⟨by kernel_rfl, ?_⟩) (by assumption) ?_
  rotate_left
  · (intro wS hSw; (try dsimp only at hSw); obtain ⟨y0, y1, y2, y3, y4, -⟩ := hSw.2.2.1.fiveC; clear hSw; go_simp; (try with_reducible rfl))
  (try simp only [Act.put, List.setIfInBounds_toArray, List.set_cons_zero, List.set_cons_succ])
  refine wpAnyH_take (i := 20) (oi := ⟨some 44, _, _, _, _, _⟩) (v := ?_) rfl (by kernel_rfl) (by kernel_rfl) (by kernel_rfl) (fun _ _ _ h => h) (Or.inl ⟨by kernel_rfl, ?_⟩) (by assumption) ?_
  rotate_left
  · (intro wS hSw; (try dsimp only at hSw); obtain ⟨y0, y1, y2, y3, y4, -⟩ := hSw.2.2.1.fiveC; clear hSw; go_simp; (try with_reducible rfl))
  (try simp only [Act.put, List.setIfInBounds_toArray, List.set_cons_zero, List.set_cons_succ])
  refine wpAnyH_take (i := 21) (oi := ⟨some 45, _, _, _, _, _⟩) (v := ?_) rfl (by kernel_rfl) (by kernel_rfl) (by kernel_rfl) (fun _ _ _ h => h) (Or.inl ⟨by kernel_rfl, ?_⟩) (by assumption) ?_
  rotate_left
  · (intro wS hSw; (try dsimp only at hSw); obtain ⟨y0, y1, y2, y3, y4, -⟩ := hSw.2.2.1.fiveC; clear hSw; go_simp; (try with_reducible rfl))
  (try simp only [Act.put, List.setIfInBounds_toArray, List.set_cons_zero, List.set_cons_succ])
  refine wpAnyH_take (i := 22) (oi := ⟨some 46, _, _, _, _, _⟩) (v := ?_) rfl (by kernel_rfl) (by kernel_rfl) (by kernel_rfl) (fun _ _ _ h => h) (Or.inl ⟨by kernel_rfl, ?_⟩) (by assumption) ?_
  rotate_left
  · (intro wS hSw; (try dsimp only at hSw); obtain ⟨y0, y1, y2, y3, y4, -⟩ := hSw.2.2.1.fiveC; clear hSw; go_simp; (try with_reducible rfl))
  (try simp only [Act.put, List.setIfInBounds_toArray, List.set_cons_zero, List.set_cons_succ])
  refine wpAnyH_ready (rs := [19]) (by kernel_rfl) (by simp) ?_
  refine AllReadyH.cons (o := ⟨some 43, _, _, _, _, _⟩) rfl (fun K hK => ?_) AllReadyH.nil
  go_simp
  (refine (Pending_any hHeld.1).mono ?_; rintro e w10 ⟨rfl, rfl⟩)
  go_wp2_with fail
  refine hK.out _ _ ?_ (fun hHeld => ?_)
  · ((try dsimp only); (first | with_reducible exact hst | with_reducible exact hHeld | exact ⟨hHeld.1.below hb7, hHeld.2.1.below hb7, hHeld.2.2.1.below hb7, hHeld.2.2.2.1.below hb7, hHeld.2.2.2.2.1.below hb7, hHeld.2.2.2.2.2.1.below hb7, bel_call hHeld.2.2.2.2.2.2 hb7⟩))
  clear hK K
  (try simp only [Act.put, List.setIfInBounds_toArray, List.set_cons_zero, List.set_cons_succ])
  refine wpAnyH_take (i := 23) (oi := ⟨some 47, _, _, _, _, _⟩) (v := ?_) rfl (by kernel_rfl) (by kernel_rfl) (by kernel_rfl) (fun _ _ _ h => h) (Or.inl ⟨by kernel_rfl, ?_⟩) (by assumption) ?_
  rotate_left
  · (intro wS hSw; (try dsimp only at hSw); (go_simp; rfl))
  (try simp only [Act.put, List.setIfInBounds_toArray, List.set_cons_zero, List.set_cons_succ])
  refine wpAnyH_take (i := 24) (oi := ⟨some 48, _, _, _, _, _⟩) (v := ?_) rfl (by kernel_rfl) (by kernel_rfl) (by kernel_rfl) (fun _ _ _ h => h) (Or.inl ⟨by kernel_rfl, ?_⟩) (by assumption) ?_
  rotate_left
  · (intro wS hSw; (try dsimp only at hSw); obtain ⟨y0, y1, y2, y3, y4, -⟩ := hSw.2.2.1.fiveC; clear hSw; go_simp; (try with_reducible rfl))
  (try simp only [Act.put, List.setIfInBounds_toArray, List.set_cons_zero, List.set_cons_succ])
  refine wpAnyH_take (i := 25) (oi := ⟨some 49, _, _, _, _, _⟩) (v := ?_) rfl (by kernel_rfl) (by kernel_rfl) (by kernel_rfl) (fun _ _ _ h => h) (Or.inl ⟨by kernel_rfl, ?_⟩) (by assumption) ?_
  rotate_left
  · (intro wS hSw; (try dsimp only at hSw); obtain ⟨y0, y1, y2, y3, y4, -⟩ := hSw.2.2.1.fiveC; clear hSw; go_simp; (try with_reducible rfl))
  (try simp only [Act.put, List.setIfInBounds_toArray, List.set_cons_zero, List.set_cons_succ])
  refine wpAnyH_take (i := 26) (oi := ⟨some 50, _, _, _, _, _⟩) (v := ?_) rfl (by kernel_rfl) (by kernel_rfl) (by kernel_rfl) (fun _ _ _ h => h) (Or.inl ⟨by kernel_rfl, ?_⟩) (by assumption) ?_
  rotate_left
  · (intro wS hSw; (try dsimp only at hSw); obtain ⟨y0, y1, y2, y3, y4, -⟩ := hSw.2.2.1.fiveC; clear hSw; go_simp; (try with_reducible rfl))
  (try simp only [Act.put, List.setIfInBounds_toArray, List.set_cons_zero, List.set_cons_succ])
  refine wpAnyH_take (i := 27) (oi := ⟨some 51, _, _, _, _, _⟩) (v := ?_) rfl (by kernel_rfl) (by kernel_rfl) (by kernel_rfl) (fun _ _ _ h => h) (Or.inl ⟨by kernel_rfl, ?_⟩) (by assumption) ?_
  rotate_left
  · (intro wS hSw; (try dsimp only at hSw); obtain ⟨y0, y1, y2, y3, y4, -⟩ := hSw.2.2.1.fiveC; clear hSw; go_simp; (try with_reducible rfl))
  (try simp only [Act.put, List.setIfInBounds_toArray, List.set_cons_zero, List.set_cons_succ])
  refine wpAnyH_take (i := 28) (oi := ⟨some 52, _, _, _, _, _⟩) (v := ?_) rfl (by kernel_rfl) (by kernel_rfl) (by kernel_rfl) (fun _ _ _ h => h) (Or.inl ⟨by kernel_rfl, ?_⟩) (by assumption) ?_
  rotate_left
  · (intro wS hSw; (try dsimp only at hSw); obtain ⟨y0, y1, y2, y3, y4, -⟩ := hSw.2.2.1.fiveC; clear hSw; go_simp; (try with_reducible rfl))
  (try simp only [Act.put, List.setIfInBounds_toArray, List.set_cons_zero, List.set_cons_succ])
  refine wpAnyH_take (i := 29) (oi := ⟨some 53, _, _, _, _, _⟩) (v := ?_) rfl (by kernel_rfl) (by kernel_rfl) (by kernel_rfl) (fun _ _ _ h => h) (Or.inl ⟨by kernel_rfl, ?_⟩) (by assumption) ?_
  rotate_left
  · (intro wS hSw; (try dsimp only at hSw); obtain ⟨y0, y1, y2, y3, y4, -⟩ := hSw.2.2.1.fiveC; clear hSw; go_simp; (try with_reducible rfl))
  (try simp only [Act.put, List.setIfInBounds_toArray, List.set_cons_zero, List.set_cons_succ])
  refine wpAnyH_take (i := 30) (oi := ⟨some 54, _, _, _, _, _⟩) (v := ?_) rfl (by kernel_rfl) (by kernel_rfl) (by kernel_rfl) (fun _ _ _ h => h) (Or.inl ⟨by kernel_rfl, ?_⟩) (by assumption) ?_
  rotate_left
  · (intro wS hSw; (try dsimp only at hSw); obtain ⟨y0, y1, y2, y3, y4, -⟩ := hSw.2.2.1.fiveC; clear hSw; go_simp; (try with_reducible rfl))
  (try simp only [Act.put, List.setIfInBounds_toArray, List.set_cons_zero, List.set_cons_succ])
  refine wpAnyH_take (i := 31) (oi := ⟨some 55, _, _, _, _, _⟩) (v := ?_) rfl (by kernel_rfl) (by kernel_rfl) (by kernel_rfl) (fun _ _ _ h => h) (Or.inl ⟨by kernel_rfl, ?_⟩) (by assumption) ?_
  rotate_left
  · (intro wS hSw; (try dsimp only at hSw); obtain ⟨y0, y1, y2, y3, y4, -⟩ := hSw.2.2.1.fiveC; clear hSw; go_simp; (try with_reducible rfl))
  (try simp only [Act.put, List.setIfInBounds_toArray, List.set_cons_zero, List.set_cons_succ])
  refine wpAnyH_take (i := 32) (oi := ⟨some 56, _, _, _, _, _⟩) (v := ?_) rfl (by kernel_rfl) (by kernel_rfl) (by kernel_rfl) (fun _ _ _ h => h) (Or.inl ⟨by kernel_rfl, ?_⟩) (by assumption) ?_
  rotate_left
  · (intro wS hSw; (try dsimp only at hSw); obtain ⟨y0, y1, y2, y3, y4, -⟩ := hSw.2.2.1.fiveC; clear hSw; go_simp; (try with_reducible rfl))
  (try simp only [Act.put, List.setIfInBounds_toArray, List.set_cons_zero, List.set_cons_succ])
  refine wpAnyH_done (by kernel_rfl) ?_ _
  obtain ⟨hDx, hRx, hBx, -, -, hTx, hWx⟩ := hHeld
  have HRx := Lib.hid hRx
  have HBx := Lib.hid hBx
  have HTf := Lib.hid hTx
  have HWx := Lib.hid hWx
  have HDx := Lib.hid hDx
  have hrlen := HRl.out
  clear hDx hRx hBx hTx hWx hst HTx2 HNum b1 b2 b3 b4
  go_wp2_with fail
  go_loopw [59] (fun x wr => ∃ i : Nat, i ≤ r.length ∧ x = .int .i64 i ∧ Below w10.heap.size w10 wr) (fun x w => r.length - (intOf x).toNat)
  case atStart => exact ⟨0, Nat.zero_le _, rfl, Below.refl _ _⟩
  case round =>
    obtain ⟨i, hi, rfl, hb⟩ := hrel
    have hBr := HBx.out.below hb
    by_cases hlt : i < r.length
    · have hlt2 : i < dm.sure.length := by rw [← HRl.out]; exact hlt
      obtain ⟨ad, b, o, hA, had, hc0, hc1, hsb⟩ := (HTf.out.below hb).at1 hlt
      obtain ⟨ad2, b2, o2, hA2, had2, hd0, hd1⟩ := (HRx.out.below hb).s.at1 hlt2
      have heq : dm.sure[i] = (r[i].1, r[i].2.l) := by
        have h2 : i < (gmap Sv.l d.sure).length := by rw [← HSm.out]; exact hlt2
        have h3 := gmap_get HRr.out hlt h2
        rw [← h3]
        congr 1
      rw [heq] at hd0 hd1
      have hbx := hBr.alloc (.cells #[.string ⟨r[i].1.toArray⟩, .slice r[i].2.A r[i].2.l.length r[i].2.c] 184)
      obtain ⟨z0, z1, z2, z3, z4, -⟩ := hbx.fiveC
      have hk1 : (i : Int) < (r.length : Int) := by omega
      have hk2 : (i : Int) < (dm.sure.length : Int) := by omega
      have hbn := below_new wr (.cells #[.string ⟨r[i].1.toArray⟩, .slice r[i].2.A r[i].2.l.length r[i].2.c] 184)
      have hsb2 := Sl.below hsb hbn
      have hd0' := (hbn.cell (World.block_lt_of_cell? _ _ hd0)).trans hd0
      have hd1' := (hbn.cell (World.block_lt_of_cell? _ _ hd1)).trans hd1
      clear heq hbx hBr hsb hbn
      generalize r[i] = x at *
      obtain ⟨xn, xA, xc, xl⟩ := x
      dsimp only at *
      subst hA hA2
      have v1 := conv_strs (P := Tryz.prog) 29 9 5 Tryz.underlying29 Tryz.underlying5 Tryz.underlying9 hsb2 rfl
      have hbe : ∀ l : List UInt8, (l == l) = true := fun l => by simp
      clear hsb2
      go_wp2_with fail
      go_quiet (fail)
      go_wp2_with fail
      go_roundw
      case rel => exact ⟨i + 1, hlt, by go_num, below_drewN (bel_alloc hb _) _⟩
      case measure => simp [intOf]; omega
    · have hke : i = r.length := by omega
      have hD := HDx.out.below hb
      have hR := HRx.out.below hb
      have hst : Dsk wr.drew q d ∧ Rdk (fun _ => True) wr.drew dm A c B k ∧ Blk wr.drew w.heap.size 91 (rda dm A c B k) ∧ Below w.heap.size w wr.drew := ⟨hD.frame (w' := wr.drew) fun i _ => rfl, ⟨hR.s, hR.sa, hR.p, hR.pa⟩, hBr.drew, (bel_call HWx.out hb).drew⟩
      have hsl : dm.shown.length ≤ 100000 := by
        have := flen_dos dm.sure dm.pend
        unfold Dk.shown
        omega
      clear hBr hD hR HDx HRx HBx HTf HWx
      go_upto_region 12 with (fail)
      refine wp_region_held_drew (S := (fun W => Dsk W q d ∧ Rdk (fun _ => True) W dm A c B k ∧ Blk W w.heap.size 91 (rda dm A c B k) ∧ Below w.heap.size w W)) (by kernel_rfl) ?_ (fun hHeld => ?_)
      · first | with_reducible exact hst | with_reducible exact hHeld | exact ⟨hHeld.1.below hb9, hHeld.2.1.below hb9, hHeld.2.2.1.below hb9, bel_call hHeld.2.2.2 hb9⟩ | exact ⟨hHeld.1.below hb8, hHeld.2.1.below hb8, hHeld.2.2.1.below hb8, bel_call hHeld.2.2.2 hb8⟩ | exact ⟨hHeld.1.below hb7, hHeld.2.1.below hb7, hHeld.2.2.1.below hb7, bel_call hHeld.2.2.2 hb7⟩
      refine wpAnyH_take (i := 0) (oi := ⟨some 86, _, _, _, _, _⟩) (v := ?_) rfl (by kernel_rfl) (by kernel_rfl) (by kernel_rfl) (fun _ _ _ h => h) (Or.inl ⟨by kernel_rfl, ?_⟩) (by assumption) ?_
      rotate_left
      · (intro wS hSw; (try dsimp only at hSw); obtain ⟨y0, y1, y2, y3, y4, -⟩ := hSw.2.2.1.fiveC; clear hSw; go_simp; (try with_reducible rfl))
      (try simp only [Act.put, List.setIfInBounds_toArray, List.set_cons_zero, List.set_cons_succ])
      refine wpAnyH_take (i := 2) (oi := ⟨some 88, _, _, _, _, _⟩) (v := ?_) rfl (by kernel_rfl) (by kernel_rfl) (by kernel_rfl) (fun _ _ _ h => h) (Or.inl ⟨by kernel_rfl, ?_⟩) (by assumption) ?_
      rotate_left
      · (intro wS hSw; (try dsimp only at hSw); obtain ⟨y0, y1, y2, y3, y4, -⟩ := hSw.2.2.1.fiveC; clear hSw; go_simp; (try with_reducible rfl))
      (try simp only [Act.put, List.setIfInBounds_toArray, List.set_cons_zero, List.set_cons_succ])
      refine wpAnyH_ready (rs := [1]) (by kernel_rfl) (by simp) ?_
      refine AllReadyH.cons (o := ⟨some 87, _, _, _, _, _⟩) rfl (fun K hK => ?_) AllReadyH.nil
      go_simp
      (refine (UsedD_any hHeld.1 p3).mono ?_; rintro e w7 ⟨rfl, hb7⟩)
      go_wp2_with fail
      refine hK.out _ _ ?_ (fun hHeld => ?_)
      · ((try dsimp only); (first | with_reducible exact hst | with_reducible exact hHeld | exact ⟨hHeld.1.below hb9, hHeld.2.1.below hb9, hHeld.2.2.1.below hb9, bel_call hHeld.2.2.2 hb9⟩ | exact ⟨hHeld.1.below hb8, hHeld.2.1.below hb8, hHeld.2.2.1.below hb8, bel_call hHeld.2.2.2 hb8⟩ | exact ⟨hHeld.1.below hb7, hHeld.2.1.below hb7, hHeld.2.2.1.below hb7, bel_call hHeld.2.2.2 hb7⟩))
      clear hK K
      (try simp only [Act.put, List.setIfInBounds_toArray, List.set_cons_zero, List.set_cons_succ])
      refine wpAnyH_ready (rs := [3]) (by kernel_rfl) (by simp) ?_
      refine AllReadyH.cons (o := ⟨some 89, _, _, _, _, _⟩) rfl (fun K hK => ?_) AllReadyH.nil
      go_simp
      (refine (RShown_any (d := dm) _ (fun _ _ => trivial) hHeld.2.1 (by omega)).mono ?_; rintro e w8 ⟨A8, c8, m8, rfl, hm8, hs8, ho8, hb8⟩; have HS8 := Lib.hid hs8; have HM8 := Lib.hid hm8.out)
      go_wp2_with fail
      refine hK.out _ _ ?_ (fun hHeld => ?_)
      · ((try dsimp only); (first | with_reducible exact hst | with_reducible exact hHeld | exact ⟨hHeld.1.below hb9, hHeld.2.1.below hb9, hHeld.2.2.1.below hb9, bel_call hHeld.2.2.2 hb9⟩ | exact ⟨hHeld.1.below hb8, hHeld.2.1.below hb8, hHeld.2.2.1.below hb8, bel_call hHeld.2.2.2 hb8⟩ | exact ⟨hHeld.1.below hb7, hHeld.2.1.below hb7, hHeld.2.2.1.below hb7, bel_call hHeld.2.2.2 hb7⟩))
      clear hK K
      (try simp only [Act.put, List.setIfInBounds_toArray, List.set_cons_zero, List.set_cons_succ])
      refine wpAnyH_ready (rs := [4]) (by kernel_rfl) (by simp) ?_
      refine AllReadyH.cons (o := ⟨some 90, _, _, _, _, _⟩) rfl (fun K hK => ?_) AllReadyH.nil
      go_simp
      (refine (RUsed_any _ (by first | exact HS8.out | exact HS8.out.below hb7) (by rw [HM8.out]; omega) (by rw [HM8.out, HFs.out]; omega)).mono ?_; rintro e w9 ⟨rfl, hb9⟩)
      go_wp2_with fail
      refine hK.out _ _ ?_ (fun hHeld => ?_)
      · ((try dsimp only); (first | with_reducible exact hst | with_reducible exact hHeld | exact ⟨hHeld.1.below hb9, hHeld.2.1.below hb9, hHeld.2.2.1.below hb9, bel_call hHeld.2.2.2 hb9⟩ | exact ⟨hHeld.1.below hb8, hHeld.2.1.below hb8, hHeld.2.2.1.below hb8, bel_call hHeld.2.2.2 hb8⟩ | exact ⟨hHeld.1.below hb7, hHeld.2.1.below hb7, hHeld.2.2.1.below hb7, bel_call hHeld.2.2.2 hb7⟩))
      clear hK K
      (try simp only [Act.put, List.setIfInBounds_toArray, List.set_cons_zero, List.set_cons_succ])
      refine wpAnyH_take (i := 5) (oi := ⟨some 91, _, _, _, _, _⟩) (v := ?_) rfl (by kernel_rfl) (by kernel_rfl) (by kernel_rfl) (fun _ _ _ h => h) (Or.inl ⟨by kernel_rfl, ?_⟩) (by assumption) ?_
      rotate_left
      · (intro wS hSw; (try dsimp only at hSw); obtain ⟨y0, y1, y2, y3, y4, -⟩ := hSw.2.2.1.fiveC; clear hSw; go_simp; (try with_reducible rfl))
      (try simp only [Act.put, List.setIfInBounds_toArray, List.set_cons_zero, List.set_cons_succ])
      refine wpAnyH_take (i := 6) (oi := ⟨some 4, _, _, _, _, _⟩) (v := ?_) rfl (by kernel_rfl) (by kernel_rfl) (by kernel_rfl) (fun _ _ _ h => h) (Or.inl ⟨by kernel_rfl, ?_⟩) (by assumption) ?_
      rotate_left
      · (intro wS hSw; (try dsimp only at hSw); obtain ⟨y0, y1, y2, y3, y4, -⟩ := hSw.2.2.1.fiveC; clear hSw; go_simp; (try with_reducible rfl))
      (try simp only [Act.put, List.setIfInBounds_toArray, List.set_cons_zero, List.set_cons_succ])
      refine wpAnyH_done (by kernel_rfl) ?_ _
      have HB9 := Lib.hid hHeld.2.2.2
      have HQ := Lib.hid (show ((fused svl d.shown : Nat) : Int) = (fused bln m8 : Nat) from by rw [HM8.out, HFs.out])
      clear hHeld
      go_wp2_with fail
      go_ret
      exact ⟨by rw [← HQ.out]; simp, HB9.out⟩
end Go.Proofs.YtabnndjdkjkciaaGreatDoor

namespace Go.Proofs.YtabnndjdkjkciaaGreatDoor
open Go.RowKit Go.Maps Go.Sort

theorem dWorks_map (d : Dk Sv) : dWorks (d.map Sv.l) = ((dWorks d).1.map Sv.l, (dWorks d).2) := by
  obtain ⟨room, sure, pend, fuse, down⟩ := d
  unfold dWorks Dk.map
  dsimp only
  split
  · rfl
  · split
    · rfl
    · split <;> rfl
theorem dAdd_map (d : Dk Sv) (c : Chg Sv) : (dAdd d c).map Sv.l = dAdd (d.map Sv.l) (c.map Sv.l) := by
  unfold dAdd Dk.map
  dsimp only
  rw [List.map_append]
  rfl
theorem room_map (d : Dk Sv) : (d.map Sv.l).room = d.room := rfl
theorem gmap_len2 (l : List (Bs × Sv)) : (gmap Sv.l l).length = l.length := gmap_len
theorem isNone_map (o : Option Sv) : (o.map Sv.l).isNone = o.isNone := by cases o <;> rfl
theorem getD_map (o : Option Sv) : (((o.map Sv.l).map bln).getD 0 : Nat) = (o.map svl).getD 0 := by cases o <;> rfl
theorem dWrite_map (d : Dk Sv) (n : Bs) (v : Sv) : dWrite bln (d.map Sv.l) n v.l = ((dWrite svl d n v).1.map Sv.l, (dWrite svl d n v).2) := by
  unfold dWrite
  rw [dWorks_map, shown_map, gget_map, fused_map, gmap_len2, isNone_map, getD_map, room_map]
  dsimp only
  split
  · rfl
  · split
    · rfl
    · split
      · rename_i h
        rw [if_pos (show 65536 < svl v from h)]
      · rename_i h
        rw [if_neg (show ¬ 65536 < svl v from h)]
        by_cases hc : ((gget n d.shown).isNone = true ∧ 512 ≤ d.shown.length ∨ d.room < (fused svl d.shown : Int) - ((gget n d.shown).map svl).getD 0 + svl v)
        · rw [if_pos hc]
          exact if_pos hc
        · rw [if_neg hc, dAdd_map]
          exact if_neg hc
theorem dRename_map (d : Dk Sv) (n t : Bs) : dRename ([] : Bs) (d.map Sv.l) n t = ((dRename Sv.nil d n t).1.map Sv.l, (dRename Sv.nil d n t).2) := by
  unfold dRename
  rw [dWorks_map, shown_map, gget_map, isNone_map]
  dsimp only
  split
  · rfl
  · split
    · rfl
    · split
      · rfl
      · rw [dAdd_map]; rfl
theorem dRemove_map (d : Dk Sv) (n : Bs) : dRemove ([] : Bs) (d.map Sv.l) n = ((dRemove Sv.nil d n).1.map Sv.l, (dRemove Sv.nil d n).2) := by
  unfold dRemove
  rw [dWorks_map, shown_map, gget_map, isNone_map]
  dsimp only
  split
  · rfl
  · split
    · rfl
    · split
      · rfl
      · rw [dAdd_map]; rfl
theorem dSync_map (d : Dk Sv) : dSync (d.map Sv.l) = ((dSync d).1.map Sv.l, (dSync d).2) := by
  unfold dSync
  rw [dWorks_map, shown_map]
  dsimp only
  split <;> rfl
theorem kept_map (ks : List Bool) (cs : List (Chg Sv)) : kept ks (cs.map (Chg.map Sv.l)) = (kept ks cs).map (Chg.map Sv.l) := by
  induction cs generalizing ks with
  | nil => rw [List.map_nil, kept_nil, kept_nil]; rfl
  | cons x r ih =>
    cases ks with
    | nil => rw [kept_none, kept_none]; rfl
    | cons b ks =>
      rw [List.map_cons, kept_cons, kept_cons, List.map_append, ih]
      cases b <;> rfl
theorem dCut_map (ks : List Bool) (d : Dk Sv) : dCut ks (d.map Sv.l) = (dCut ks d).map Sv.l := by
  unfold dCut
  have h1 : (d.map Sv.l).sure = gmap Sv.l d.sure := rfl
  have h2 : (d.map Sv.l).pend = d.pend.map (Chg.map Sv.l) := rfl
  rw [h1, h2, kept_map, fdos_map]
  rfl
theorem dStart_map (d : Dk Sv) : dStart (d.map Sv.l) = (dStart d).map Sv.l := by
  obtain ⟨room, sure, pend, fuse, down⟩ := d
  unfold dStart Dk.map
  dsimp only
  cases down <;> rfl
theorem rRead_map (d : Dk Sv) (n : Bs) : rRead (d.map Sv.l) n = (((dRead d n).1.map Sv.l).getD [], (dRead d n).2) := by
  unfold rRead dRead
  rw [shown_map, gget_map]
  show (if d.down = true then _ else _) = _
  cases d.down with
  | true => rfl
  | false =>
    rw [if_neg (by simp), if_neg (by simp)]
    cases gget n d.shown <;> rfl
theorem Ris.mapD {d : Dk Sv} (h : Ris d.sure) : Ris (d.map Sv.l).sure := Ris.map h Sv.l
theorem len_mapD (d : Dk Sv) : (d.map Sv.l).sure.length + (d.map Sv.l).pend.length = d.sure.length + d.pend.length := by
  show (gmap Sv.l d.sure).length + (d.pend.map (Chg.map Sv.l)).length = _
  rw [gmap_len, List.length_map]
end Go.Proofs.YtabnndjdkjkciaaGreatDoor
