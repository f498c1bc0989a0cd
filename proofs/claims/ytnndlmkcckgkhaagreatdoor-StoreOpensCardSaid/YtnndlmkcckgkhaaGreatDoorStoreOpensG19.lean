/- WHAT IT HOLDS: the document's disk: its names; its power cut: walked. | WHAT IT HOLDS: the document's disk: its power cut: walked. -/
import Derived.Test.YtnndlmkcckgkhaaGreatDoorStoreOpensG18
namespace Go.Proofs.YtnndlmkcckgkhaaGreatDoor
open Go.RowKit Go.Maps Go.Sort
attribute [local go_sem ↓] Go.wp_at_zero Go.wp_at_succ

/-- while names are told -/
structure Ni (w wr : World) (A1 : Option Addr) (c1 : Nat) (g : List (Bs × Bs)) (B : Option Addr) (d : Nat) (m : List Bs) : Prop where
  own : OwnT wr w.heap.size B d m
  row : SlR wr A1 c1 g
  ap : ∀ k, B.map (·.block) = some k → A1.map (·.block) ≠ some k
  al : ∀ k, A1.map (·.block) = some k → k < wr.heap.size
  bel : Below w.heap.size w wr
section
variable {w wr w' : World} {A1 B B' : Option Addr} {c1 d d' : Nat} {g : List (Bs × Bs)} {m m' : List Bs}
theorem Ni.alloc (h : Ni w wr A1 c1 g B d m) (o : Obj) : Ni w (wr.alloc o) A1 c1 g B d m :=
  ⟨World.ownsRow.alloc h.own o, h.row.below (below_new _ _), h.ap, fun k hk => by have := h.al k hk; simp; omega, h.bel.alloc h.bel.size o⟩
theorem Ni.grow (h : Ni w wr A1 c1 g B d m) {o : Obj} (ho : OwnT w' w.heap.size B' d' m') (hg : (wr.alloc o).grownBy w' (B.map (·.block))) (hp : B'.map (·.block) = B.map (·.block) ∨ B'.map (·.block) = some (wr.alloc o).heap.size) : Ni w w' A1 c1 g B' d' m' := by
  have h1 := h.alloc o
  refine ⟨ho, ?_, fun k hk => ?_, fun k hk => Nat.lt_of_lt_of_le (h1.al k hk) hg.size, ?_⟩
  · exact Sl.sameH h1.row fun k hk => hg.block k (h1.al k hk) (fun e => h1.ap k e.symm hk)
  · rcases hp with hp | hp
    · exact h1.ap k (hp ▸ hk)
    · rw [hp] at hk
      injection hk with hk
      intro e
      have := h1.al k e
      omega
  · exact bel_grown h.bel h.bel.size (fun k hk => (Own.lt h.own k hk).1) hg (Nat.le_refl _)
end
def rNames (d : Dk Bs) : List Bs × Nat := if d.down = true then ([], 14) else (names d.shown, 0)
set_option maxRecDepth 100000 in
set_option maxHeartbeats 1000000 in
theorem KNames_any {T : Nat → Prop} {A B : Option Addr} {c k : Nat} (d : Dk Bs) (w : World) (h : Rdk T w d A c B k) (hl : d.sure.length + d.pend.length ≤ 100000) :
    Calls Tryz.prog 95 #[.agg (rda d A c B k)] w fun e w' => ∃ A' c' m, e = .returned (.tuple #[.slice A' (List.length m) c', .int .i64 ((rNames d).2 : Nat)]) ∧ Hid (m = (rNames d).1) ∧ OwnT w' w.heap.size A' c' m ∧ Below w.heap.size w w' := by
  obtain ⟨room, sure, pend, fuse, down⟩ := d
  dsimp only at hl
  cases down with
  | true =>
    have hB := Blk.new w 79 (rda ⟨room, sure, pend, fuse, true⟩ A c B k)
    have hb := below_new w (.cells (rda ⟨room, sure, pend, fuse, true⟩ A c B k) 79)
    obtain ⟨r0, r1, r2, r3, r4, -⟩ := hB.fiveC
    clear h
    go_enter Tryz.func95, Tryz.ntmps95
    go_wp2_with fail
    go_ret2
    exact ⟨none, 0, [], rfl, (show _ = _ from rfl), Own.none_ _ _ _ _, hb⟩
  | false =>
    have hB := (Blk.new w 79 (rda ⟨room, sure, pend, fuse, false⟩ A c B k)).alloc (.cells #[] 9)
    have hb := bel_alloc (below_new w (.cells (rda ⟨room, sure, pend, fuse, false⟩ A c B k) 79)) (.cells #[] 9)
    have hsz : ((w.alloc (.cells (rda ⟨room, sure, pend, fuse, false⟩ A c B k) 79)).alloc (.cells #[] 9)).heap.size = w.heap.size + 2 := by simp
    obtain ⟨s0, s1, s2, s3, s4, -⟩ := (Blk.new w 79 (rda ⟨room, sure, pend, fuse, false⟩ A c B k)).fiveC
    obtain ⟨r0, r1, r2, r3, r4, -⟩ := hB.fiveC
    have hR : Rdk (fun j => j ≠ w.heap.size + 1) ((w.alloc (.cells (rda ⟨room, sure, pend, fuse, false⟩ A c B k) 79)).alloc (.cells #[] 9)) ⟨room, sure, pend, fuse, false⟩ A c B k :=
      ⟨(h.s.below (below_new _ _)).below (below_new _ _), fun j hj => ⟨by have := (h.sa j hj).2; omega, by have := (h.sa j hj).2; omega⟩, (h.p.below (below_new _ _)).below (below_new _ _), fun j hj => ⟨by have := (h.pa j hj).2; omega, by have := (h.pa j hj).2; omega⟩⟩
    have HSh := Lib.hid (RShown_any (d := ⟨room, sure, pend, fuse, false⟩) _ (fun j hj => by omega) hR hl)
    have HO0 := Lib.hid (Own.lit (w := w.alloc (.cells (rda ⟨room, sure, pend, fuse, false⟩ A c B k) 79)) (base := w.heap.size) (e := 9) 1 (by simp))
    have hlen : (Dk.shown (⟨room, sure, pend, fuse, false⟩ : Dk Bs)).length ≤ 100000 := by
      have := flen_dos sure pend
      unfold Dk.shown
      dsimp only
      omega
    have HRR := Lib.hid (show rNames (⟨room, sure, pend, fuse, false⟩ : Dk Bs) = (names (Dk.shown (⟨room, sure, pend, fuse, false⟩ : Dk Bs)), 0) from rfl)
    clear h hR
    generalize Dk.shown (⟨room, sure, pend, fuse, false⟩ : Dk Bs) = sh at HSh HRR hlen
    go_enter Tryz.func95, Tryz.ntmps95
    go_wp2_with fail
    refine HSh.out.mono ?_
    rintro e w1 ⟨A1, c1, m1, rfl, hm1, hs1, ho1, hb1⟩
    have HO1 := Own.below HO0.out hb1
    rw [show (w.alloc (.cells (rda ⟨room, sure, pend, fuse, false⟩ A c B k) 79)).heap.size = w.heap.size + 1 by simp] at HO1
    have HNi := Lib.hid (show Ni w w1 A1 c1 m1 (some ⟨w.heap.size + 1, 0, none⟩) 0 [] from ⟨HO1, hs1, fun j hj e => by injection hj with hj; exact (ho1 j e).1 hj.symm, fun j hj => (ho1 j hj).2, bel_call hb hb1⟩)
    have HE := Lib.hid hm1.out
    rw [← hm1.out] at hlen
    clear HSh HO0 HO1 hs1 ho1 hb1 hb hB s0 s1 s2 s3 s4 r0 r1 r2 r3 r4 hm1
    go_wp2_with fail
    go_loopw [13, 4] (fun x y wr => ∃ (k : Nat) (B : Option Addr) (d : Nat) (m : List Bs), k ≤ m1.length ∧ x = .int .i64 k ∧ y = .slice B m.length d ∧ Hid (m = names (m1.take k)) ∧ Ni w wr A1 c1 m1 B d m) (fun x _ w => m1.length - (intOf x).toNat)
    case atStart => exact ⟨0, _, 0, [], Nat.zero_le _, rfl, rfl, Lib.hid rfl, HNi.out⟩
    case round =>
      obtain ⟨k, B, d, m, hk, rfl, rfl, hm, hi⟩ := hrel
      have hml : m.length ≤ 100000 := by rw [hm.out]; unfold names; rw [List.length_map, List.length_take]; omega
      by_cases hlt : k < m1.length
      · obtain ⟨ad, b, o, hA, had, hc0, hc1⟩ := hi.row.at1 hlt
        have hI : (k : Int) < (m1.length : Int) := by omega
        have HX := Lib.hid (show names (m1.take (k + 1)) = names (m1.take k) ++ [m1[k].1] from by rw [List.take_succ_eq_append_getElem hlt]; unfold names; rw [List.map_append]; rfl)
        have hsz := hi.bel.size
        generalize m1[k] = x at *
        subst hA
        have hi2 := hi.alloc (.cells #[.string ⟨x.1.toArray⟩, .string ⟨x.2.toArray⟩] 170)
        have ho2 := hi2.own
        have HI := Lib.hid hi2
        clear hi2 hi
        go_wp2_with (at_builtin; go_must (refine wpl_tx rfl _ _ rfl w.heap.size B d m rfl ho2 (by omega) x.1 _ (by simp) rfl (by simp; omega) ?_); intro A5 c5 m5 w5 hm5 ho5 hg5 hp5)
        have hi6 := HI.out.grow ho5 hg5 hp5
        go_roundw
        case rel => exact ⟨k + 1, A5, c5, m5, hlt, by go_num, rfl, Lib.hid (by rw [hm5.out, hm.out, HX.out]), hi6⟩
        case measure => simp [intOf]; omega
      · have hI : (m1.length : Int) ≤ (k : Int) := by omega
        have HM := Lib.hid (show m = names sh from by rw [hm.out, List.take_of_length_le (by omega), HE.out])
        have HO := Lib.hid hi.own
        have HB := Lib.hid hi.bel
        clear hm hi
        go_wp2_with fail
        go_ret2
        exact ⟨B, d, m, by rw [HRR.out]; rfl, (show _ = _ from by rw [HRR.out]; exact HM.out), HO.out, HB.out⟩
end Go.Proofs.YtnndlmkcckgkhaaGreatDoor

namespace Go.Proofs.YtnndlmkcckgkhaaGreatDoor
open Go.RowKit Go.Maps Go.Sort
attribute [local go_sem ↓] Go.wp_at_zero Go.wp_at_succ

theorem kept_past {α : Type} {ks : List Bool} {cs : List (Chg α)} {i : Nat} (h : ks.length ≤ i) : ∀ n, kept ks (cs.take (i + n)) = kept ks (cs.take i)
  | 0 => rfl
  | n + 1 => by
    rw [← kept_past h n]
    rcases Nat.lt_or_ge (i + n) cs.length with h1 | h1
    · rw [show i + (n + 1) = i + n + 1 from rfl, kept_succ ks cs h1, List.getElem?_eq_none (by omega)]
      simp
    · rw [List.take_of_length_le (by omega), List.take_of_length_le h1]
theorem kept_end {α : Type} {ks : List Bool} {cs : List (Chg α)} {i : Nat} (h : ks.length ≤ i ∨ cs.length ≤ i) : kept ks (cs.take i) = kept ks cs := by
  rcases h with h | h
  · rw [← kept_past h cs.length, List.take_of_length_le (by omega)]
  · rw [List.take_of_length_le h]
/-- the cell k of a slice of bools -/
theorem SlZ.at1 {w : World} {A : Option Addr} {c : Nat} {m : List Bool} (h : SlZ w A c m) {k : Nat} (hk : k < m.length) : ∃ ad b o, A = some ad ∧ ad.add k = ⟨b, o, none⟩ ∧ w.cell? ⟨b, o, none⟩ = some (.bool m[k]) := by
  have h2 : Sl w 1 A m.length c (m.flatMap fun x => [Value.bool x]) := by
    have := h
    unfold SlZ at this
    rwa [List.map_eq_flatMap] at this
  obtain ⟨ad, b, o, hA, had, hcc⟩ := Sl.atS (f := fun x => [Value.bool x]) (size := 1) (fun _ => rfl) (by omega) h2 hk
  have hc := hcc 0 _ rfl
  rw [Nat.add_zero] at hc
  rw [Nat.mul_one] at had
  exact ⟨ad, b, o, hA, had, hc⟩
theorem Blk.rsSet {w : World} {g : Nat} {room fuse : Int} {down : Bool} {sure : List (Bs × Bs)} {pend : List (Chg Bs)} {A B : Option Addr} {c k : Nat} (h : Blk w g 79 (rda ⟨room, sure, pend, fuse, down⟩ A c B k)) (l : List (Bs × Bs)) (A' : Option Addr) (c' : Nat) : Blk (w.setCell ⟨g, 1, none⟩ (.slice A' l.length c')) g 79 (rda ⟨room, l, pend, fuse, down⟩ A' c' B k) := h.set_ 1 (.slice A' l.length c')
theorem cell_far {w : World} {g b : Nat} (h : b ≠ g) (i : Nat) (v : Value) {o : Nat} : (w.setCell ⟨g, i, none⟩ v).cell? ⟨b, o, none⟩ = w.cell? ⟨b, o, none⟩ := by
  unfold World.cell?
  rw [Below.heap_setCell w ⟨g, i, none⟩ v b h]
def GvK1 (T : Nat → Prop) (w w' : World) (e : Ending) (d : Dk Bs) : Prop := ∃ A c B k, e = .returned (.agg (rda d A c B k)) ∧ Rdk T w' d A c B k ∧ Below w.heap.size w w'
set_option maxRecDepth 100000 in
set_option maxHeartbeats 1000000 in
theorem KCut_any {T : Nat → Prop} {A B Q : Option Addr} {c k kc : Nat} (d : Dk Bs) (ks : List Bool) (w : World) (hT : ∀ k, w.heap.size ≤ k → T k) (h : Rdk T w d A c B k) (hk : SlZ w Q kc ks) (hl : d.sure.length + d.pend.length ≤ 100000) (hkl : ks.length ≤ 100000) :
    Calls Tryz.prog 78 #[.agg (rda d A c B k), .slice Q ks.length kc] w fun e w' => GvK1 T w w' e (dCut ks d) := by
  obtain ⟨room, sure, pend, fuse, down⟩ := d
  dsimp only at hl
  have hM := ((Mm.start w).alloc (rda ⟨room, sure, pend, fuse, down⟩ A c B k) 79).alloc rdz 79
  rw [show (w.alloc (.cells (rda ⟨room, sure, pend, fuse, down⟩ A c B k) 79)).heap.size = w.heap.size + 1 by simp] at hM
  have HM := Lib.hid hM
  have HT := Lib.hid hT
  have HP := Lib.hid (show SlK w B k pend from h.p)
  have HKs := Lib.hid hk
  have HS0 := Lib.hid (h.s.below hM.bel)
  have HA0 := Lib.hid (h.sa.t2 hM.bel.size)
  have HPa := Lib.hid h.pa
  clear hM hT hk h
  go_enter Tryz.func78, Tryz.ntmps78
  go_wp2_with fail
  go_loopw [5] (fun x wr => ∃ (i : Nat) (A' : Option Addr) (c' : Nat) (m : List (Bs × Bs)), i ≤ pend.length ∧ i ≤ ks.length ∧ x = .int .i64 i ∧ Mm w wr [(w.heap.size + 1, 79, rdz), (w.heap.size, 79, rda ⟨room, m, pend, fuse, down⟩ A' c' B k)] [] ∧ SlR wr A' c' m ∧ Okb (T2 T w.heap.size) wr A' ∧ Hid (m = fdos sure (kept ks (pend.take i)))) (fun x w => pend.length - (intOf x).toNat)
  case atStart => exact ⟨0, A, c, sure, Nat.zero_le _, Nat.zero_le _, rfl, HM.out, HS0.out, HA0.out, Lib.hid rfl⟩
  case round =>
    clear HM HS0 HA0
    obtain ⟨i, A', c', m, hi, hi2, rfl, hM, hS, hA, hm⟩ := hrel
    obtain ⟨b0, b1, b2, b3, b4, bf0, bf1, bf2, bf3, bf4⟩ := hM.b1.fiveC
    obtain ⟨r0, r1, r2, r3, r4, rf0, rf1, rf2, rf3, rf4⟩ := hM.b0.fiveC
    have hml : m.length ≤ 100000 := by
      rw [hm.out]
      have h1 := flen_dos sure (kept ks (pend.take i))
      have h2 := kept_len ks (pend.take i)
      rw [List.length_take] at h2
      omega
    by_cases hlt : i < pend.length
    · have hI : (i : Int) < (pend.length : Int) := by omega
      by_cases hlt2 : i < ks.length
      · have hI2 : (i : Int) < (ks.length : Int) := by omega
        obtain ⟨adk, bk, ok, hAk, hadk, hck⟩ := SlZ.at1 (show SlZ wr Q kc ks from Sl.below HKs.out hM.bel) hlt2
        have HX := Lib.hid (kept_succ ks pend hlt)
        rw [List.getElem?_eq_getElem hlt2] at HX
        obtain ⟨kb, hkk⟩ : ∃ b, ks[i] = b := ⟨_, rfl⟩
        rw [hkk] at hck HX
        cases kb with
        | false =>
          have HE := Lib.hid (show kept ks (pend.take (i + 1)) = kept ks (pend.take i) from by rw [HX.out]; simp)
          have HMm := Lib.hid hM
          subst hAk
          clear HX hkk hM
          go_wp2_with fail
          go_roundw
          case rel => exact ⟨i + 1, A', c', m, hlt, hlt2, by go_num, HMm.out, hS, hA, Lib.hid (by rw [hm.out, HE.out])⟩
          case measure => simp [intOf]; omega
        | true =>
          obtain ⟨ad, b, o, hAd, had, hc0, hc1, hc2, hc3⟩ := (HP.out.below hM.bel).at1 hlt
          have HE := Lib.hid (show fdos sure (kept ks (pend.take (i + 1))) = fdo m pend[i] from by rw [HX.out, if_pos rfl, fdos_snoc, hm.out])
          generalize pend[i] = x at *
          obtain ⟨kd, nm, tt, vv⟩ := x
          dsimp only at *
          subst hAk
          subst hAd
          have hst : (Mm w wr.drew [(w.heap.size + 1, 79, rdz)] [] ∧ wr.drew.cell? ⟨w.heap.size, 2, none⟩ = some (.slice (some ad) pend.length k)) ∧ wr.drew.cell? ⟨b, o, none⟩ = some (.int .i64 kd) ∧ wr.drew.cell? ⟨b, o + 1, none⟩ = some (.string ⟨nm.toArray⟩) ∧ wr.drew.cell? ⟨b, o + 2, none⟩ = some (.string ⟨tt.toArray⟩) ∧ wr.drew.cell? ⟨b, o + 3, none⟩ = some (.string ⟨vv.toArray⟩) := ⟨⟨(hM.drew).sub (by simp), b2⟩, hc0, hc1, hc2, hc3⟩
          have hB0 : Blk wr.drew w.heap.size 79 (rda ⟨room, m, pend, fuse, down⟩ A' c' (some ad) k) := hM.b1.drew
          have hbne : b ≠ w.heap.size := by
            have hbk := addr_add_block ad (i * 4)
            rw [had] at hbk
            have := (HPa.out b (congrArg some hbk.symm)).2
            omega
          have hS0 : SlR wr.drew A' c' m := hS
          have hA0 : Okb (T2 T w.heap.size) wr.drew A' := hA
          have hup : ∀ j, wr.drew.heap.size ≤ j → T2 T w.heap.size j := fun j hj => T2.up HT.out hM j hj
          have hws : wr.drew.heap.size = wr.heap.size := rfl
          go_upto_region 5 with (fail)
          refine wp_region_held_drew (S := (fun W => (Mm w W [(w.heap.size + 1, 79, rdz)] [] ∧ W.cell? ⟨w.heap.size, 2, none⟩ = some (.slice (some ad) pend.length k)) ∧ W.cell? ⟨b, o, none⟩ = some (.int .i64 kd) ∧ W.cell? ⟨b, o + 1, none⟩ = some (.string ⟨nm.toArray⟩) ∧ W.cell? ⟨b, o + 2, none⟩ = some (.string ⟨tt.toArray⟩) ∧ W.cell? ⟨b, o + 3, none⟩ = some (.string ⟨vv.toArray⟩))) (by kernel_rfl) ?_ (fun hHeld => ?_)
          · exact hst
          refine gen0 (T := fun W => ((fun W => (Mm w W [(w.heap.size + 1, 79, rdz)] [] ∧ W.cell? ⟨w.heap.size, 2, none⟩ = some (.slice (some ad) pend.length k)) ∧ W.cell? ⟨b, o, none⟩ = some (.int .i64 kd) ∧ W.cell? ⟨b, o + 1, none⟩ = some (.string ⟨nm.toArray⟩) ∧ W.cell? ⟨b, o + 2, none⟩ = some (.string ⟨tt.toArray⟩) ∧ W.cell? ⟨b, o + 3, none⟩ = some (.string ⟨vv.toArray⟩))) W ∧ Blk W w.heap.size 79 (rda ⟨room, m, pend, fuse, down⟩ A' c' (some ad) k) ∧ SlR W A' c' m ∧ Okb (T2 T w.heap.size) W A' ∧ wr.heap.size ≤ W.heap.size ∧ True) ?_ (fun wq1 hT => ?_)
          · exact ⟨by (first | with_reducible exact hst | with_reducible exact hHeld | exact ⟨⟨hHeld.1.1.call hb7, (hb7.cell (World.block_lt_of_cell? _ _ hHeld.1.2)).trans hHeld.1.2⟩, (hb7.cell (World.block_lt_of_cell? _ _ hHeld.2.1)).trans hHeld.2.1, (hb7.cell (World.block_lt_of_cell? _ _ hHeld.2.2.1)).trans hHeld.2.2.1, (hb7.cell (World.block_lt_of_cell? _ _ hHeld.2.2.2.1)).trans hHeld.2.2.2.1, (hb7.cell (World.block_lt_of_cell? _ _ hHeld.2.2.2.2)).trans hHeld.2.2.2.2⟩ | exact ⟨⟨hHeld.1.1.off ((Wr.refl _ _).set_ 1 _) (by simp) (Nat.le_refl _), (f0.rsSet m7 A7 c7).cell 2⟩, (cell_far hbne _ _).trans hHeld.2.1, (cell_far hbne _ _).trans hHeld.2.2.1, (cell_far hbne _ _).trans hHeld.2.2.2.1, (cell_far hbne _ _).trans hHeld.2.2.2.2⟩), by (first | with_reducible assumption | exact hB0 | exact hS0 | exact hA0 | exact Nat.le_refl _ | exact f0.below hb7 | exact hs7 | exact ho7 | exact f0.rsSet _ _ _ | exact Sl.sam f1 f2 ((Sam.refl _ _).set (.inl rfl) 1 _) | exact f2.below (by simp)), by (first | with_reducible assumption | exact hB0 | exact hS0 | exact hA0 | exact Nat.le_refl _ | exact f0.below hb7 | exact hs7 | exact ho7 | exact f0.rsSet _ _ _ | exact Sl.sam f1 f2 ((Sam.refl _ _).set (.inl rfl) 1 _) | exact f2.below (by simp)), by (first | with_reducible assumption | exact hB0 | exact hS0 | exact hA0 | exact Nat.le_refl _ | exact f0.below hb7 | exact hs7 | exact ho7 | exact f0.rsSet _ _ _ | exact Sl.sam f1 f2 ((Sam.refl _ _).set (.inl rfl) 1 _) | exact f2.below (by simp)), by (first | with_reducible assumption | exact hB0 | exact hS0 | exact hA0 | exact Nat.le_refl _ | exact f0.below hb7 | exact hs7 | exact ho7 | exact f0.rsSet _ _ _ | exact Sl.sam f1 f2 ((Sam.refl _ _).set (.inl rfl) 1 _) | exact f2.below (by simp)), trivial⟩
          (try clear f0 f1 f2 f3 f4 f5 f6 f7 f8 f9 f10 f11)
          obtain ⟨hHeld, f0, f1, f2, f3, -⟩ := hT
          refine wpAnyH_take (i := 0) (oi := ⟨some 23, _, _, _, _, _⟩) (v := ?_) rfl (by kernel_rfl) (by kernel_rfl) (by kernel_rfl) (fun _ _ _ h => h) (Or.inl ⟨by kernel_rfl, ?_⟩) (by assumption) ?_
          rotate_left
          · (intro wS hSw; (try dsimp only at hSw); obtain ⟨⟨-, y2⟩, y3, y4, y5, y6⟩ := hSw; go_simp; (try with_reducible rfl))
          (try simp only [Act.put, List.setIfInBounds_toArray, List.set_cons_zero, List.set_cons_succ])
          refine wpAnyH_take (i := 2) (oi := ⟨some 25, _, _, _, _, _⟩) (v := ?_) rfl (by kernel_rfl) (by kernel_rfl) (by kernel_rfl) (fun _ _ _ h => h) (Or.inl ⟨by kernel_rfl, ?_⟩) (by assumption) ?_
          rotate_left
          · (intro wS hSw; (try dsimp only at hSw); obtain ⟨⟨-, y2⟩, y3, y4, y5, y6⟩ := hSw; go_simp; (try with_reducible rfl))
          (try simp only [Act.put, List.setIfInBounds_toArray, List.set_cons_zero, List.set_cons_succ])
          refine wpAnyH_take (i := 3) (oi := ⟨some 26, _, _, _, _, _⟩) (v := ?_) rfl (by kernel_rfl) (by kernel_rfl) (by kernel_rfl) (fun _ _ _ h => h) (Or.inl ⟨by kernel_rfl, ?_⟩) (by assumption) ?_
          rotate_left
          · (intro wS hSw; (try dsimp only at hSw); obtain ⟨⟨-, y2⟩, y3, y4, y5, y6⟩ := hSw; go_simp; (try with_reducible rfl))
          (try simp only [Act.put, List.setIfInBounds_toArray, List.set_cons_zero, List.set_cons_succ])
          refine wpAnyH_take (i := 4) (oi := ⟨some 27, _, _, _, _, _⟩) (v := ?_) rfl (by kernel_rfl) (by kernel_rfl) (by kernel_rfl) (fun _ _ _ h => h) (Or.inl ⟨by kernel_rfl, ?_⟩) (by assumption) ?_
          rotate_left
          · (intro wS hSw; (try dsimp only at hSw); obtain ⟨⟨-, y2⟩, y3, y4, y5, y6⟩ := hSw; go_simp; (try with_reducible rfl))
          (try simp only [Act.put, List.setIfInBounds_toArray, List.set_cons_zero, List.set_cons_succ])
          refine wpAnyH_take (i := 5) (oi := ⟨some 28, _, _, _, _, _⟩) (v := ?_) rfl (by kernel_rfl) (by kernel_rfl) (by kernel_rfl) (fun _ _ _ h => h) (Or.inl ⟨by kernel_rfl, ?_⟩) (by assumption) ?_
          rotate_left
          · (intro wS hSw; (try dsimp only at hSw); obtain ⟨⟨-, y2⟩, y3, y4, y5, y6⟩ := hSw; go_simp; (try with_reducible rfl))
          (try simp only [Act.put, List.setIfInBounds_toArray, List.set_cons_zero, List.set_cons_succ])
          refine wpAnyH_take (i := 6) (oi := ⟨some 29, _, _, _, _, _⟩) (v := ?_) rfl (by kernel_rfl) (by kernel_rfl) (by kernel_rfl) (fun _ _ _ h => h) (Or.inl ⟨by kernel_rfl, ?_⟩) (by assumption) ?_
          rotate_left
          · (intro wS hSw; (try dsimp only at hSw); obtain ⟨⟨-, y2⟩, y3, y4, y5, y6⟩ := hSw; go_simp; (try with_reducible rfl))
          (try simp only [Act.put, List.setIfInBounds_toArray, List.set_cons_zero, List.set_cons_succ])
          refine wpAnyH_ready (rs := [1]) (by kernel_rfl) (by simp) ?_
          refine AllReadyH.cons (o := ⟨some 24, _, _, _, _, _⟩) rfl (fun K hK => ?_) AllReadyH.nil
          (first | (obtain ⟨s0, s1, s2, s3, s4, sf0, sf1, sf2, sf3, sf4⟩ := f0.fiveC) | skip); go_simp
          refine hK.out _ _ ?_ (fun _ => ?_)
          · ((try dsimp only); (first | with_reducible exact hst | with_reducible exact hHeld | exact ⟨⟨hHeld.1.1.call hb7, (hb7.cell (World.block_lt_of_cell? _ _ hHeld.1.2)).trans hHeld.1.2⟩, (hb7.cell (World.block_lt_of_cell? _ _ hHeld.2.1)).trans hHeld.2.1, (hb7.cell (World.block_lt_of_cell? _ _ hHeld.2.2.1)).trans hHeld.2.2.1, (hb7.cell (World.block_lt_of_cell? _ _ hHeld.2.2.2.1)).trans hHeld.2.2.2.1, (hb7.cell (World.block_lt_of_cell? _ _ hHeld.2.2.2.2)).trans hHeld.2.2.2.2⟩ | exact ⟨⟨hHeld.1.1.off ((Wr.refl _ _).set_ 1 _) (by simp) (Nat.le_refl _), (f0.rsSet m7 A7 c7).cell 2⟩, (cell_far hbne _ _).trans hHeld.2.1, (cell_far hbne _ _).trans hHeld.2.2.1, (cell_far hbne _ _).trans hHeld.2.2.2.1, (cell_far hbne _ _).trans hHeld.2.2.2.2⟩))
          clear hK K
          (try simp only [Act.put, List.setIfInBounds_toArray, List.set_cons_zero, List.set_cons_succ])
          refine gen0 (T := fun W => ((fun W => (Mm w W [(w.heap.size + 1, 79, rdz)] [] ∧ W.cell? ⟨w.heap.size, 2, none⟩ = some (.slice (some ad) pend.length k)) ∧ W.cell? ⟨b, o, none⟩ = some (.int .i64 kd) ∧ W.cell? ⟨b, o + 1, none⟩ = some (.string ⟨nm.toArray⟩) ∧ W.cell? ⟨b, o + 2, none⟩ = some (.string ⟨tt.toArray⟩) ∧ W.cell? ⟨b, o + 3, none⟩ = some (.string ⟨vv.toArray⟩))) W ∧ Blk W w.heap.size 79 (rda ⟨room, m, pend, fuse, down⟩ A' c' (some ad) k) ∧ SlR W A' c' m ∧ Okb (T2 T w.heap.size) W A' ∧ wr.heap.size ≤ W.heap.size ∧ True) ?_ (fun wq2 hT => ?_)
          · exact ⟨by (first | with_reducible exact hst | with_reducible exact hHeld | exact ⟨⟨hHeld.1.1.call hb7, (hb7.cell (World.block_lt_of_cell? _ _ hHeld.1.2)).trans hHeld.1.2⟩, (hb7.cell (World.block_lt_of_cell? _ _ hHeld.2.1)).trans hHeld.2.1, (hb7.cell (World.block_lt_of_cell? _ _ hHeld.2.2.1)).trans hHeld.2.2.1, (hb7.cell (World.block_lt_of_cell? _ _ hHeld.2.2.2.1)).trans hHeld.2.2.2.1, (hb7.cell (World.block_lt_of_cell? _ _ hHeld.2.2.2.2)).trans hHeld.2.2.2.2⟩ | exact ⟨⟨hHeld.1.1.off ((Wr.refl _ _).set_ 1 _) (by simp) (Nat.le_refl _), (f0.rsSet m7 A7 c7).cell 2⟩, (cell_far hbne _ _).trans hHeld.2.1, (cell_far hbne _ _).trans hHeld.2.2.1, (cell_far hbne _ _).trans hHeld.2.2.2.1, (cell_far hbne _ _).trans hHeld.2.2.2.2⟩), by (first | with_reducible assumption | exact hB0 | exact hS0 | exact hA0 | exact Nat.le_refl _ | exact f0.below hb7 | exact hs7 | exact ho7 | exact f0.rsSet _ _ _ | exact Sl.sam f1 f2 ((Sam.refl _ _).set (.inl rfl) 1 _) | exact f2.below (by simp)), by (first | with_reducible assumption | exact hB0 | exact hS0 | exact hA0 | exact Nat.le_refl _ | exact f0.below hb7 | exact hs7 | exact ho7 | exact f0.rsSet _ _ _ | exact Sl.sam f1 f2 ((Sam.refl _ _).set (.inl rfl) 1 _) | exact f2.below (by simp)), by (first | with_reducible assumption | exact hB0 | exact hS0 | exact hA0 | exact Nat.le_refl _ | exact f0.below hb7 | exact hs7 | exact ho7 | exact f0.rsSet _ _ _ | exact Sl.sam f1 f2 ((Sam.refl _ _).set (.inl rfl) 1 _) | exact f2.below (by simp)), by (first | with_reducible assumption | exact hB0 | exact hS0 | exact hA0 | exact Nat.le_refl _ | exact f0.below hb7 | exact hs7 | exact ho7 | exact f0.rsSet _ _ _ | exact Sl.sam f1 f2 ((Sam.refl _ _).set (.inl rfl) 1 _) | exact f2.below (by simp)), trivial⟩
          (try clear f0 f1 f2 f3 f4 f5 f6 f7 f8 f9 f10 f11)
          obtain ⟨hHeld, f0, f1, f2, f3, -⟩ := hT
          refine wpAnyH_ready (rs := [7]) (by kernel_rfl) (by simp) ?_
          refine AllReadyH.cons (o := ⟨some 30, _, _, _, _, _⟩) rfl (fun K hK => ?_) AllReadyH.nil
          go_simp
          (refine (RApply_any (T := T2 T w.heap.size) ⟨kd, nm, tt, vv⟩ _ (fun j hj => hup j (by omega)) f1 f2 (by omega)).mono ?_; rintro e w7 ⟨A7, c7, m7, rfl, hm7, hs7, ho7, hb7⟩)
          go_wp2_with fail
          refine hK.out _ _ ?_ (fun _ => ?_)
          · ((try dsimp only); (first | with_reducible exact hst | with_reducible exact hHeld | exact ⟨⟨hHeld.1.1.call hb7, (hb7.cell (World.block_lt_of_cell? _ _ hHeld.1.2)).trans hHeld.1.2⟩, (hb7.cell (World.block_lt_of_cell? _ _ hHeld.2.1)).trans hHeld.2.1, (hb7.cell (World.block_lt_of_cell? _ _ hHeld.2.2.1)).trans hHeld.2.2.1, (hb7.cell (World.block_lt_of_cell? _ _ hHeld.2.2.2.1)).trans hHeld.2.2.2.1, (hb7.cell (World.block_lt_of_cell? _ _ hHeld.2.2.2.2)).trans hHeld.2.2.2.2⟩ | exact ⟨⟨hHeld.1.1.off ((Wr.refl _ _).set_ 1 _) (by simp) (Nat.le_refl _), (f0.rsSet m7 A7 c7).cell 2⟩, (cell_far hbne _ _).trans hHeld.2.1, (cell_far hbne _ _).trans hHeld.2.2.1, (cell_far hbne _ _).trans hHeld.2.2.2.1, (cell_far hbne _ _).trans hHeld.2.2.2.2⟩))
          clear hK K
          (try simp only [Act.put, List.setIfInBounds_toArray, List.set_cons_zero, List.set_cons_succ])
          refine gen0 (T := fun W => ((fun W => (Mm w W [(w.heap.size + 1, 79, rdz)] [] ∧ W.cell? ⟨w.heap.size, 2, none⟩ = some (.slice (some ad) pend.length k)) ∧ W.cell? ⟨b, o, none⟩ = some (.int .i64 kd) ∧ W.cell? ⟨b, o + 1, none⟩ = some (.string ⟨nm.toArray⟩) ∧ W.cell? ⟨b, o + 2, none⟩ = some (.string ⟨tt.toArray⟩) ∧ W.cell? ⟨b, o + 3, none⟩ = some (.string ⟨vv.toArray⟩))) W ∧ Blk W w.heap.size 79 (rda ⟨room, m, pend, fuse, down⟩ A' c' (some ad) k) ∧ SlR W A7 c7 m7 ∧ Okb (T2 T w.heap.size) W A7 ∧ True) ?_ (fun wq3 hT => ?_)
          · exact ⟨by (first | with_reducible exact hst | with_reducible exact hHeld | exact ⟨⟨hHeld.1.1.call hb7, (hb7.cell (World.block_lt_of_cell? _ _ hHeld.1.2)).trans hHeld.1.2⟩, (hb7.cell (World.block_lt_of_cell? _ _ hHeld.2.1)).trans hHeld.2.1, (hb7.cell (World.block_lt_of_cell? _ _ hHeld.2.2.1)).trans hHeld.2.2.1, (hb7.cell (World.block_lt_of_cell? _ _ hHeld.2.2.2.1)).trans hHeld.2.2.2.1, (hb7.cell (World.block_lt_of_cell? _ _ hHeld.2.2.2.2)).trans hHeld.2.2.2.2⟩ | exact ⟨⟨hHeld.1.1.off ((Wr.refl _ _).set_ 1 _) (by simp) (Nat.le_refl _), (f0.rsSet m7 A7 c7).cell 2⟩, (cell_far hbne _ _).trans hHeld.2.1, (cell_far hbne _ _).trans hHeld.2.2.1, (cell_far hbne _ _).trans hHeld.2.2.2.1, (cell_far hbne _ _).trans hHeld.2.2.2.2⟩), by (first | with_reducible assumption | exact hB0 | exact hS0 | exact hA0 | exact Nat.le_refl _ | exact f0.below hb7 | exact hs7 | exact ho7 | exact f0.rsSet _ _ _ | exact Sl.sam f1 f2 ((Sam.refl _ _).set (.inl rfl) 1 _) | exact f2.below (by simp)), by (first | with_reducible assumption | exact hB0 | exact hS0 | exact hA0 | exact Nat.le_refl _ | exact f0.below hb7 | exact hs7 | exact ho7 | exact f0.rsSet _ _ _ | exact Sl.sam f1 f2 ((Sam.refl _ _).set (.inl rfl) 1 _) | exact f2.below (by simp)), by (first | with_reducible assumption | exact hB0 | exact hS0 | exact hA0 | exact Nat.le_refl _ | exact f0.below hb7 | exact hs7 | exact ho7 | exact f0.rsSet _ _ _ | exact Sl.sam f1 f2 ((Sam.refl _ _).set (.inl rfl) 1 _) | exact f2.below (by simp)), trivial⟩
          (try clear f0 f1 f2 f3 f4 f5 f6 f7 f8 f9 f10 f11)
          obtain ⟨hHeld, f0, f1, f2, -⟩ := hT
          refine wpAnyH_take (i := 8) (oi := ⟨some 31, _, _, _, _, _⟩) (v := ?_) rfl (by kernel_rfl) (by kernel_rfl) (by kernel_rfl) (fun _ _ _ h => h) (Or.inl ⟨by kernel_rfl, ?_⟩) (by assumption) ?_
          rotate_left
          · (intro wS hSw; (try dsimp only at hSw); obtain ⟨⟨-, y2⟩, y3, y4, y5, y6⟩ := hSw; go_simp; (try with_reducible rfl))
          (try simp only [Act.put, List.setIfInBounds_toArray, List.set_cons_zero, List.set_cons_succ])
          refine wpAnyH_ready (rs := [9]) (by kernel_rfl) (by simp) ?_
          refine AllReadyH.cons (o := ⟨none, _, _, _, _, _⟩) rfl (fun K hK => ?_) AllReadyH.nil
          (first | (obtain ⟨s0, s1, s2, s3, s4, sf0, sf1, sf2, sf3, sf4⟩ := f0.fiveC) | skip); go_simp
          refine hK.out _ _ ?_ (fun _ => ?_)
          · ((try dsimp only); (first | with_reducible exact hst | with_reducible exact hHeld | exact ⟨⟨hHeld.1.1.call hb7, (hb7.cell (World.block_lt_of_cell? _ _ hHeld.1.2)).trans hHeld.1.2⟩, (hb7.cell (World.block_lt_of_cell? _ _ hHeld.2.1)).trans hHeld.2.1, (hb7.cell (World.block_lt_of_cell? _ _ hHeld.2.2.1)).trans hHeld.2.2.1, (hb7.cell (World.block_lt_of_cell? _ _ hHeld.2.2.2.1)).trans hHeld.2.2.2.1, (hb7.cell (World.block_lt_of_cell? _ _ hHeld.2.2.2.2)).trans hHeld.2.2.2.2⟩ | exact ⟨⟨hHeld.1.1.off ((Wr.refl _ _).set_ 1 _) (by simp) (Nat.le_refl _), (f0.rsSet m7 A7 c7).cell 2⟩, (cell_far hbne _ _).trans hHeld.2.1, (cell_far hbne _ _).trans hHeld.2.2.1, (cell_far hbne _ _).trans hHeld.2.2.2.1, (cell_far hbne _ _).trans hHeld.2.2.2.2⟩))
          clear hK K
          (try simp only [Act.put, List.setIfInBounds_toArray, List.set_cons_zero, List.set_cons_succ])
          refine gen0 (T := fun W => ((fun W => (Mm w W [(w.heap.size + 1, 79, rdz)] [] ∧ W.cell? ⟨w.heap.size, 2, none⟩ = some (.slice (some ad) pend.length k)) ∧ W.cell? ⟨b, o, none⟩ = some (.int .i64 kd) ∧ W.cell? ⟨b, o + 1, none⟩ = some (.string ⟨nm.toArray⟩) ∧ W.cell? ⟨b, o + 2, none⟩ = some (.string ⟨tt.toArray⟩) ∧ W.cell? ⟨b, o + 3, none⟩ = some (.string ⟨vv.toArray⟩))) W ∧ Blk W w.heap.size 79 (rda ⟨room, m7, pend, fuse, down⟩ A7 c7 (some ad) k) ∧ SlR W A7 c7 m7 ∧ Okb (T2 T w.heap.size) W A7 ∧ True) ?_ (fun wq4 hT => ?_)
          · exact ⟨by (first | with_reducible exact hst | with_reducible exact hHeld | exact ⟨⟨hHeld.1.1.call hb7, (hb7.cell (World.block_lt_of_cell? _ _ hHeld.1.2)).trans hHeld.1.2⟩, (hb7.cell (World.block_lt_of_cell? _ _ hHeld.2.1)).trans hHeld.2.1, (hb7.cell (World.block_lt_of_cell? _ _ hHeld.2.2.1)).trans hHeld.2.2.1, (hb7.cell (World.block_lt_of_cell? _ _ hHeld.2.2.2.1)).trans hHeld.2.2.2.1, (hb7.cell (World.block_lt_of_cell? _ _ hHeld.2.2.2.2)).trans hHeld.2.2.2.2⟩ | exact ⟨⟨hHeld.1.1.off ((Wr.refl _ _).set_ 1 _) (by simp) (Nat.le_refl _), (f0.rsSet m7 A7 c7).cell 2⟩, (cell_far hbne _ _).trans hHeld.2.1, (cell_far hbne _ _).trans hHeld.2.2.1, (cell_far hbne _ _).trans hHeld.2.2.2.1, (cell_far hbne _ _).trans hHeld.2.2.2.2⟩), by (first | with_reducible assumption | exact hB0 | exact hS0 | exact hA0 | exact Nat.le_refl _ | exact f0.below hb7 | exact hs7 | exact ho7 | exact f0.rsSet _ _ _ | exact Sl.sam f1 f2 ((Sam.refl _ _).set (.inl rfl) 1 _) | exact f2.below (by simp)), by (first | with_reducible assumption | exact hB0 | exact hS0 | exact hA0 | exact Nat.le_refl _ | exact f0.below hb7 | exact hs7 | exact ho7 | exact f0.rsSet _ _ _ | exact Sl.sam f1 f2 ((Sam.refl _ _).set (.inl rfl) 1 _) | exact f2.below (by simp)), by (first | with_reducible assumption | exact hB0 | exact hS0 | exact hA0 | exact Nat.le_refl _ | exact f0.below hb7 | exact hs7 | exact ho7 | exact f0.rsSet _ _ _ | exact Sl.sam f1 f2 ((Sam.refl _ _).set (.inl rfl) 1 _) | exact f2.below (by simp)), trivial⟩
          (try clear f0 f1 f2 f3 f4 f5 f6 f7 f8 f9 f10 f11)
          obtain ⟨hHeld, f0, f1, f2, -⟩ := hT
          refine wpAnyH_done (by kernel_rfl) ?_ _
          have hM9 := hHeld.1.1.cons (g := w.heap.size) f0 (Nat.le_refl _) (by simp) (by simp)
          have HB9 := Lib.hid f0
          have hMx : Mm w _ [(w.heap.size + 1, 79, rdz), (w.heap.size, 79, rda ⟨room, m7, pend, fuse, down⟩ A7 c7 (some ad) k)] [] := ⟨hM9.bel, by simpa [or_comm] using hM9.blk, by simp, by simp, by simp⟩
          have HMx := Lib.hid hMx
          have HH := Lib.hid hHeld
          clear hMx hM9 hHeld
          go_wp2_with fail
          go_roundw
          case rel => exact ⟨i + 1, A7, c7, m7, hlt, hlt2, by go_num, HMx.out, f1, f2, Lib.hid (by rw [hm7.out, HE.out])⟩
          case measure => simp [intOf]; omega
      · have hI2 : (ks.length : Int) ≤ (i : Int) := by omega
        have HX := Lib.hid (show dCut ks (⟨room, sure, pend, fuse, down⟩ : Dk Bs) = ⟨room, m, [], fuse, true⟩ from by unfold dCut; dsimp only; rw [hm.out, kept_end (by omega)])
        have HS5 := Lib.hid (((((Sam.refl w.heap.size wr).set (.inl rfl) 2 (.slice none 0 0)).set (.inl rfl) 4 (.bool true)).st5 (.inr rfl) (.int .i64 room) (.slice A' m.length c') (.slice none 0 0) (.int .i64 fuse) (.bool true)))
        have HB5 := Lib.hid (bel_st5 (bel_set (bel_set hM.bel (p := ⟨w.heap.size, 2, none⟩) (Nat.le_refl _) (.slice none 0 0)) (p := ⟨w.heap.size, 4, none⟩) (Nat.le_refl _) (.bool true)) (g := w.heap.size + 1) (by omega) (.int .i64 room) (.slice A' m.length c') (.slice none 0 0) (.int .i64 fuse) (.bool true))
        have HSl := Lib.hid hS
        have HO := Lib.hid hA
        clear hS hA hm
        go_wp2_with fail
        exact bodyPost_ret (res_k1 rfl rfl (g := w.heap.size + 1) (((hM.set 1 2 _ rfl).set 1 4 _ rfl).b0.st5 _ _ _ _ _)) rfl (by rw [HX.out]; exact ⟨A', c', none, 0, rfl, ⟨Sl.sam HSl.out HO.out HS5.out, HO.out.sam HS5.out, Sl.none_ _ _, fun k hk => by cases hk⟩, HB5.out⟩)
    · have hI : (pend.length : Int) ≤ (i : Int) := by omega
      have HX := Lib.hid (show dCut ks (⟨room, sure, pend, fuse, down⟩ : Dk Bs) = ⟨room, m, [], fuse, true⟩ from by unfold dCut; dsimp only; rw [hm.out, kept_end (by omega)])
      have HS5 := Lib.hid (((((Sam.refl w.heap.size wr).set (.inl rfl) 2 (.slice none 0 0)).set (.inl rfl) 4 (.bool true)).st5 (.inr rfl) (.int .i64 room) (.slice A' m.length c') (.slice none 0 0) (.int .i64 fuse) (.bool true)))
      have HB5 := Lib.hid (bel_st5 (bel_set (bel_set hM.bel (p := ⟨w.heap.size, 2, none⟩) (Nat.le_refl _) (.slice none 0 0)) (p := ⟨w.heap.size, 4, none⟩) (Nat.le_refl _) (.bool true)) (g := w.heap.size + 1) (by omega) (.int .i64 room) (.slice A' m.length c') (.slice none 0 0) (.int .i64 fuse) (.bool true))
      have HSl := Lib.hid hS
      have HO := Lib.hid hA
      clear hS hA hm
      go_wp2_with fail
      exact bodyPost_ret (res_k1 rfl rfl (g := w.heap.size + 1) (((hM.set 1 2 _ rfl).set 1 4 _ rfl).b0.st5 _ _ _ _ _)) rfl (by rw [HX.out]; exact ⟨A', c', none, 0, rfl, ⟨Sl.sam HSl.out HO.out HS5.out, HO.out.sam HS5.out, Sl.none_ _ _, fun k hk => by cases hk⟩, HB5.out⟩)
end Go.Proofs.YtnndlmkcckgkhaaGreatDoor
