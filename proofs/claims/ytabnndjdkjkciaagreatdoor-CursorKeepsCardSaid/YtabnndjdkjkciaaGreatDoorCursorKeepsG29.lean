/- WHAT IT HOLDS: the document's disk: written, renamed, removed, synced, walked. | WHAT IT HOLDS: the document's disk: a file written, walked. | WHAT IT HOLDS: the document's disk: its names; its power cut: walked. -/
import Derived.Test.YtabnndjdkjkciaaGreatDoorCursorKeepsG28
import Derived.Test.YtabnndjdkjkciaaGreatDoorCursorKeepsG12
namespace Go.Proofs.YtabnndjdkjkciaaGreatDoor
open Go.RowKit Go.Maps Go.Sort
attribute [local go_sem ↓] Go.wp_at_zero Go.wp_at_succ

section
variable {w W : World} {L : BL} {G : List (Option Nat)} {g : Nat} {t : TypeId} {a b c d e : Value}
theorem Mm.st5 (h : Mm w W L G) (j : Nat) (hj : L[j]? = some (g, t, #[a, b, c, d, e])) (x y z u v : Value) : Mm w (((((W.setCell ⟨g, 0, none⟩ x).setCell ⟨g, 1, none⟩ y).setCell ⟨g, 2, none⟩ z).setCell ⟨g, 3, none⟩ u).setCell ⟨g, 4, none⟩ v) (L.set j (g, t, #[x, y, z, u, v])) G :=
  h.turn j hj ((h.blk _ (List.mem_of_getElem? hj)).st5 _ _ _ _ _) (((((Wr.refl _ _).set_ 0 _).set_ 1 _).set_ 2 _).set_ 3 _ |>.set_ 4 _)
end
/-! ### how many, and how many bytes, there are -/
section
variable {α : Type}
theorem fused_ins (len : α → Nat) (x : Bs × α) : ∀ l : List (Bs × α), fused len (gins x l) = fused len l + len x.2
  | [] => by simp [gins, fused]
  | y :: r => by
    have ih := fused_ins len x r
    unfold gins
    split
    · unfold fused; simp; omega
    · unfold fused at *
      simp only [List.map_cons, List.sum_cons] at *
      omega
theorem gdel_none {k : Bs} {l : List (Bs × α)} (h : gget k l = none) : gdel k l = l := by
  unfold gdel
  rw [List.filter_eq_self]
  intro p hp
  simpa using gget_none.1 h p hp
theorem del_some (len : α → Nat) {k : Bs} {v : α} : ∀ {l : List (Bs × α)}, Ris l → gget k l = some v → fused len (gdel k l) + len v = fused len l ∧ (gdel k l).length + 1 = l.length
  | [], _, h => by cases h
  | y :: r, hr, h => by
    obtain ⟨h1, h2⟩ := List.pairwise_cons.1 hr
    by_cases hy : y.1 = k
    · have hn : gget k r = none := gget_none.2 fun p hp e => by
        have := h1 p hp
        rw [hy, e, bb_irrefl] at this
        cases this
      have hv : y.2 = v := by
        unfold gget at h
        rw [List.find?_cons, show (y.1 == k) = true from by simp [hy]] at h
        injection h
      have hd : gdel k (y :: r) = r := by
        have := gdel_none hn
        unfold gdel at this ⊢
        rw [List.filter_cons, if_neg (by simp [hy]), this]
      rw [hd, ← hv]
      unfold fused
      simp
      omega
    · have hg : gget k r = some v := by
        unfold gget at h ⊢
        rw [List.find?_cons, show (y.1 == k) = false from by simp [hy]] at h
        exact h
      obtain ⟨i1, i2⟩ := del_some len h2 hg
      have hd : gdel k (y :: r) = y :: gdel k r := by
        unfold gdel
        rw [List.filter_cons, if_pos (by simp [hy])]
      rw [hd]
      unfold fused at *
      simp only [List.map_cons, List.sum_cons, List.length_cons]
      omega
theorem put_count (len : α → Nat) {k : Bs} {l : List (Bs × α)} (hr : Ris l) (v : α) : (fused len (gput k v l) : Int) = fused len l - ((gget k l).map len).getD 0 + len v ∧ (gput k v l).length = l.length + (if (gget k l).isNone = true then 1 else 0) := by
  unfold gput
  rw [fused_ins, glen_ins]
  cases h : gget k l with
  | none =>
    rw [gdel_none h]
    simp
  | some u =>
    obtain ⟨h1, h2⟩ := del_some len hr h
    simp
    omega
/-- the document's answer to a write -/
theorem dWrite_doc {len : α → Nat} {d : Dk α} (hr : Ris d.sure) (hl : d.shown.length ≤ 511) (n : Bs) (v : α) : dWrite len d n v =
    if (dWorks d).2 ≠ 0 then dWorks d else if named n = false then ((dWorks d).1, 2) else if 65536 < len v then ((dWorks d).1, 3) else
    if d.room < (fused len (gput n v d.shown) : Int) then ((dWorks d).1, 5) else (dAdd (dWorks d).1 ⟨0, n, [], v⟩, 0) := by
  unfold dWrite
  obtain ⟨h1, h2⟩ := put_count len (hr.fdos d.pend) v (k := n)
  congr 1
  congr 1
  congr 1
  have e : ((gget n d.shown).isNone = true ∧ 512 ≤ d.shown.length ∨ d.room < (fused len d.shown : Int) - ((gget n d.shown).map len).getD 0 + len v) ↔ d.room < (fused len (gput n v d.shown) : Int) := by
    unfold Dk.shown at *
    rw [h1]
    constructor
    · rintro (⟨-, h⟩ | h)
      · omega
      · exact h
    · exact .inr
  simp only [e]
end
def GvK (T : Nat → Prop) (w w' : World) (e : Ending) (r : Dk Bs × Nat) : Prop := ∃ A c B k, e = .returned (.tuple #[.agg (rda r.1 A c B k), .int .i64 (r.2 : Nat)]) ∧ Rdk T w' r.1 A c B k ∧ Below w.heap.size w w'
theorem GvK.mk {T : Nat → Prop} {w w' : World} {d : Dk Bs} {n : Nat} {A B : Option Addr} {c k : Nat} (h : Rdk T w d A c B k) (hb : Below w.heap.size w w') : GvK T w w' (.returned (.tuple #[.agg (rda d A c B k), .int .i64 n])) (d, n) := ⟨A, c, B, k, rfl, h.below hb, hb⟩
def T2 (T : Nat → Prop) (g : Nat) (k : Nat) : Prop := T k ∧ k ≠ g ∧ k ≠ g + 1
theorem Okb.t2 {T : Nat → Prop} {w W : World} {A : Option Addr} (h : Okb T w A) (hs : w.heap.size ≤ W.heap.size) : Okb (T2 T w.heap.size) W A := fun k hk => by
  obtain ⟨h1, h2⟩ := h k hk
  exact ⟨⟨h1, by omega, by omega⟩, by omega⟩
theorem Okb.t1 {T : Nat → Prop} {g : Nat} {W : World} {A : Option Addr} (h : Okb (T2 T g) W A) : Okb T W A := fun k hk => ⟨(h k hk).1.1, (h k hk).2⟩
theorem Rdk.t2 {T : Nat → Prop} {w W : World} {d : Dk Bs} {A B : Option Addr} {c k : Nat} (h : Rdk T w d A c B k) (hb : Below w.heap.size w W) : Rdk (T2 T w.heap.size) W d A c B k := ⟨h.s.below hb, h.sa.t2 hb.size, h.p.below hb, h.pa.t2 hb.size⟩
/-- what lies apart from a call's own blocks stays -/
structure Sam (g : Nat) (W W' : World) : Prop where
  size : W.heap.size ≤ W'.heap.size
  block : ∀ k, k < W.heap.size → k ≠ g → k ≠ g + 1 → W'.heap[k]? = W.heap[k]?
theorem Sam.refl (g : Nat) (W : World) : Sam g W W := ⟨Nat.le_refl _, fun _ _ _ _ => rfl⟩
theorem Sam.set {g : Nat} {W W' : World} (h : Sam g W W') {j : Nat} (hj : j = g ∨ j = g + 1) (i : Nat) (v : Value) : Sam g W (W'.setCell ⟨j, i, none⟩ v) :=
  ⟨by simpa using h.size, fun k hk h1 h2 => (Below.heap_setCell W' ⟨j, i, none⟩ v k (by show k ≠ j; omega)).trans (h.block k hk h1 h2)⟩
theorem Sam.st5 {g : Nat} {W W' : World} (h : Sam g W W') {j : Nat} (hj : j = g ∨ j = g + 1) (x y z u v : Value) : Sam g W (((((W'.setCell ⟨j, 0, none⟩ x).setCell ⟨j, 1, none⟩ y).setCell ⟨j, 2, none⟩ z).setCell ⟨j, 3, none⟩ u).setCell ⟨j, 4, none⟩ v) :=
  ((((h.set hj _ _).set hj _ _).set hj _ _).set hj _ _).set hj _ _
theorem Okb.sam {T : Nat → Prop} {g : Nat} {W W' : World} {A : Option Addr} (h : Okb (T2 T g) W A) (hs : Sam g W W') : Okb T W' A := h.t1.below hs.size
theorem Sl.sam {T : Nat → Prop} {g size n c : Nat} {W W' : World} {A : Option Addr} {xs : List Value} (h : Sl W size A n c xs) (ha : Okb (T2 T g) W A) (hs : Sam g W W') : Sl W' size A n c xs := Sl.sameH h fun k hk => hs.block k (ha k hk).2 (ha k hk).1.2.1 (ha k hk).1.2.2
theorem Rdk.sam {T : Nat → Prop} {g : Nat} {W W' : World} {d : Dk Bs} {A B : Option Addr} {c k : Nat} (h : Rdk (T2 T g) W d A c B k) (hs : Sam g W W') : Rdk T W' d A c B k := ⟨Sl.sam h.s h.sa hs, h.sa.sam hs, Sl.sam h.p h.pa hs, h.pa.sam hs⟩
theorem T2.up {T : Nat → Prop} {w W : World} {L : BL} {G : List (Option Nat)} {t : TypeId} {cs : Array Value} (hT : ∀ k, w.heap.size ≤ k → T k) (hM : Mm w W ((w.heap.size + 1, t, cs) :: L) G) : ∀ k, W.heap.size ≤ k → T2 T w.heap.size k := fun k hk => by
  have := hM.b0.lt
  exact ⟨hT k (by omega), by omega, by omega⟩
set_option maxRecDepth 100000 in
set_option maxHeartbeats 1000000 in
theorem KSync_any {T : Nat → Prop} {A B : Option Addr} {c k : Nat} (d : Dk Bs) (w : World) (hT : ∀ k, w.heap.size ≤ k → T k) (h : Rdk T w d A c B k) (hl : d.sure.length + d.pend.length ≤ 100000) (hf : d.fuse ≤ 9223372036854775807) :
    Calls Tryz.prog 81 #[.agg (rda d A c B k)] w fun e w' => GvK T w w' e (dSync d) := by
  have hM := ((Mm.start w).alloc (rda d A c B k) 91).alloc rdz 91
  rw [show (w.alloc (.cells (rda d A c B k) 91)).heap.size = w.heap.size + 1 by simp] at hM
  have HM := Lib.hid hM
  have HD := Lib.hid h
  have HT := Lib.hid hT
  obtain ⟨g1, g2, g3, g4⟩ := dWorks_same d
  have hWk := fun W => RWorks_any (A := A) (B := B) (c := c) (k := k) d W hf
  have HWk := Lib.hid hWk
  have HDW := Lib.hid (rfl : dWorks d = dWorks d)
  clear hM h hT hWk
  unfold rda
  go_enter Tryz.func81, Tryz.ntmps81
  go_wp2_with fail
  refine (HWk.out _).mono ?_
  rintro e w3 ⟨rfl, hb3⟩
  have hM3 := HM.out.call hb3
  generalize hdw : dWorks d = dw at *
  obtain ⟨d1, n1⟩ := dw
  dsimp only at g1 g2 g3 g4
  have HR := Lib.hid (show Rdk T w d1 A c B k from ⟨by rw [g1]; exact HD.out.s, HD.out.sa, by rw [g2]; exact HD.out.p, HD.out.pa⟩)
  have HS := Lib.hid (show d1.shown = d.shown from by unfold Dk.shown; rw [g1, g2])
  have hl1 : d1.sure.length + d1.pend.length ≤ 100000 := by rw [g1, g2]; exact hl
  have G3 := Lib.hid g3
  clear g1 g2 g3
  obtain ⟨r0, r1, r2, r3, r4, rf0, rf1, rf2, rf3, rf4⟩ := hM3.b1.fiveC
  unfold rda
  clear HM hb3 HWk HDW HD
  dsimp only
  go_upto_region 2 with (fail)
  refine gen1 (T := fun W => Mm w W [(w.heap.size + 1, 91, rdz), (w.heap.size, 91, rda d1 A c B k)] []) (hM3.st5 1 rfl _ _ _ _ _) (fun w4 hM4 => ?_)
  clear r0 r1 r2 r3 r4 rf0 rf1 rf2 rf3 rf4 hM3
  rcases g4 with h0 | h0
  · subst h0
    have HX := Lib.hid (show dSync d = ({ d1 with sure := d1.shown, pend := [] }, 0) from by unfold dSync; rw [hdw, HS.out]; rfl)
    have HSh := Lib.hid (RShown_any (d := d1) w4 (T2.up HT.out hM4) (HR.out.t2 hM4.bel) hl1)
    obtain ⟨r0, r1, r2, r3, r4, rf0, rf1, rf2, rf3, rf4⟩ := (hM4).b0.fiveC
    obtain ⟨b0, b1, b2, b3, b4, bf0, bf1, bf2, bf3, bf4⟩ := (hM4).b1.fiveC
    go_wp2_with fail
    refine HSh.out.mono ?_
    rintro e w5 ⟨A5, c5, m5, rfl, hm5, hs5, ho5, hb5⟩
    have hM5 := hM4.call hb5
    clear HSh r0 r1 r2 r3 r4 rf0 rf1 rf2 rf3 rf4 b0 b1 b2 b3 b4 bf0 bf1 bf2 bf3 bf4
    obtain ⟨r0, r1, r2, r3, r4, rf0, rf1, rf2, rf3, rf4⟩ := (hM5).b0.fiveC
    obtain ⟨b0, b1, b2, b3, b4, bf0, bf1, bf2, bf3, bf4⟩ := (hM5).b1.fiveC
    obtain rfl := hm5.out
    have HS5 := Lib.hid (((((Sam.refl w.heap.size w5).set (.inl rfl) 1 (.slice A5 d1.shown.length c5)).set (.inl rfl) 2 (.slice none 0 0)).st5 (.inr rfl) (.int .i64 d1.room) (.slice A5 d1.shown.length c5) (.slice none 0 0) (.int .i64 d1.fuse) (.bool d1.down)))
    have HB5 := Lib.hid (bel_st5 (bel_set (bel_set hM5.bel (p := ⟨w.heap.size, 1, none⟩) (Nat.le_refl _) (.slice A5 d1.shown.length c5)) (p := ⟨w.heap.size, 2, none⟩) (Nat.le_refl _) (.slice none 0 0)) (g := w.heap.size + 1) (by omega) (.int .i64 d1.room) (.slice A5 d1.shown.length c5) (.slice none 0 0) (.int .i64 d1.fuse) (.bool d1.down))
    have HA := Lib.hid hs5
    have HO := Lib.hid ho5
    clear hs5 ho5
    go_wp2_with fail
    exact bodyPost_ret (res_k2 rfl rfl (g := w.heap.size + 1) (((hM5.set 1 1 _ rfl).set 1 2 _ rfl).b0.st5 _ _ _ _ _)) rfl (by rw [HX.out]; exact ⟨A5, c5, none, 0, rfl, ⟨Sl.sam HA.out HO.out HS5.out, HO.out.sam HS5.out, Sl.none_ _ _, fun k hk => by cases hk⟩, HB5.out⟩)
  · subst h0
    have HX := Lib.hid (show dSync d = (d1, 14) from by unfold dSync; rw [hdw]; rfl)
    have HE0 : ∀ (w' : World), Below w.heap.size w w' → GvK T w w' (.returned (.tuple #[.agg (rda d1 A c B k), .int .i64 (14 : Nat)])) (d1, 14) := fun w' hb => GvK.mk HR.out hb
    have HE := Lib.hid HE0
    clear HE0
    obtain ⟨r0, r1, r2, r3, r4, rf0, rf1, rf2, rf3, rf4⟩ := (hM4).b0.fiveC
    obtain ⟨b0, b1, b2, b3, b4, bf0, bf1, bf2, bf3, bf4⟩ := (hM4).b1.fiveC
    go_wp2_with fail
    exact bodyPost_ret (res_k2 rfl rfl (g := w.heap.size + 1) (hM4.b0.st5 _ _ _ _ _)) rfl (by rw [HX.out]; exact HE.out _ (bel_st5 hM4.bel (Nat.le_succ _) _ _ _ _ _))
set_option maxRecDepth 100000 in
set_option maxHeartbeats 1000000 in
theorem KRemove_any {T : Nat → Prop} {A B : Option Addr} {c k : Nat} (d : Dk Bs) (n : Bs) (w : World) (hT : ∀ k, w.heap.size ≤ k → T k) (h : Rdk T w d A c B k) (hl : d.sure.length + d.pend.length ≤ 100000) (hf : d.fuse ≤ 9223372036854775807) (hn : n.length ≤ 4611686018427387904) :
    Calls Tryz.prog 80 #[.agg (rda d A c B k), .string ⟨n.toArray⟩] w fun e w' => GvK T w w' e (dRemove ([] : Bs) d n) := by
  have hM := ((Mm.start w).alloc (rda d A c B k) 91).alloc rdz 91
  rw [show (w.alloc (.cells (rda d A c B k) 91)).heap.size = w.heap.size + 1 by simp] at hM
  have HM := Lib.hid hM
  have HD := Lib.hid h
  have HT := Lib.hid hT
  obtain ⟨g1, g2, g3, g4⟩ := dWorks_same d
  have hWk := fun W => RWorks_any (A := A) (B := B) (c := c) (k := k) d W hf
  have HWk := Lib.hid hWk
  have HDW := Lib.hid (rfl : dWorks d = dWorks d)
  clear hM h hT hWk
  unfold rda
  go_enter Tryz.func80, Tryz.ntmps80
  go_wp2_with fail
  refine (HWk.out _).mono ?_
  rintro e w3 ⟨rfl, hb3⟩
  have hM3 := HM.out.call hb3
  generalize hdw : dWorks d = dw at *
  obtain ⟨d1, n1⟩ := dw
  dsimp only at g1 g2 g3 g4
  have HR := Lib.hid (show Rdk T w d1 A c B k from ⟨by rw [g1]; exact HD.out.s, HD.out.sa, by rw [g2]; exact HD.out.p, HD.out.pa⟩)
  have HS := Lib.hid (show d1.shown = d.shown from by unfold Dk.shown; rw [g1, g2])
  have hl1 : d1.sure.length + d1.pend.length ≤ 100000 := by rw [g1, g2]; exact hl
  have G3 := Lib.hid g3
  clear g1 g2 g3
  obtain ⟨r0, r1, r2, r3, r4, rf0, rf1, rf2, rf3, rf4⟩ := hM3.b1.fiveC
  unfold rda
  clear HM hb3 HWk HDW HD
  dsimp only
  go_upto_region 2 with (fail)
  refine gen1 (T := fun W => Mm w W [(w.heap.size + 1, 91, rdz), (w.heap.size, 91, rda d1 A c B k)] []) (hM3.st5 1 rfl _ _ _ _ _) (fun w4 hM4 => ?_)
  clear r0 r1 r2 r3 r4 rf0 rf1 rf2 rf3 rf4 hM3
  rcases g4 with h0 | h0
  · subst h0
    have HN := Lib.hid (fun W => RNamed_any n W (by omega))
    obtain ⟨r0, r1, r2, r3, r4, rf0, rf1, rf2, rf3, rf4⟩ := (hM4).b0.fiveC
    obtain ⟨b0, b1, b2, b3, b4, bf0, bf1, bf2, bf3, bf4⟩ := (hM4).b1.fiveC
    go_wp2_with fail
    refine (HN.out _).mono ?_
    rintro e w5 ⟨rfl, hb5⟩
    have hM5 := hM4.call hb5
    clear r0 r1 r2 r3 r4 rf0 rf1 rf2 rf3 rf4 b0 b1 b2 b3 b4 bf0 bf1 bf2 bf3 bf4
    clear HN hb5 hM4
    cases hnm : named n with
    | false =>
      have HX := Lib.hid (show dRemove ([] : Bs) d n = (d1, 2) from by unfold dRemove; rw [hdw, if_neg (by simp), if_pos hnm])
      obtain ⟨r0, r1, r2, r3, r4, rf0, rf1, rf2, rf3, rf4⟩ := (hM5).b0.fiveC
      obtain ⟨b0, b1, b2, b3, b4, bf0, bf1, bf2, bf3, bf4⟩ := (hM5).b1.fiveC
      have HE := Lib.hid (GvK.mk (n := 2) HR.out (bel_st5 (hM5).bel (g := w.heap.size + 1) (by omega) (.int .i64 d1.room) (.slice A d1.sure.length c) (.slice B d1.pend.length k) (.int .i64 d1.fuse) (.bool d1.down)))
      go_wp2_with fail
      exact bodyPost_ret (res_k2 rfl rfl (g := w.heap.size + 1) ((hM5).b0.st5 _ _ _ _ _)) rfl (by rw [HX.out]; exact HE.out)
    | true =>
      have HSh := Lib.hid (RShown_any (d := d1) w5 (T2.up HT.out hM5) (HR.out.t2 hM5.bel) hl1)
      obtain ⟨r0, r1, r2, r3, r4, rf0, rf1, rf2, rf3, rf4⟩ := (hM5).b0.fiveC
      obtain ⟨b0, b1, b2, b3, b4, bf0, bf1, bf2, bf3, bf4⟩ := (hM5).b1.fiveC
      go_wp2_with fail
      refine HSh.out.mono ?_
      rintro e w6 ⟨A6, c6, m6, rfl, hm6, hs6, ho6, hb6⟩
      have hM6 := hM5.call hb6
      have HF := Lib.hid (RFind_any n w6 hs6)
      obtain rfl := hm6.out
      clear r0 r1 r2 r3 r4 rf0 rf1 rf2 rf3 rf4 b0 b1 b2 b3 b4 bf0 bf1 bf2 bf3 bf4
      clear HSh hb6 hM5 ho6 hs6
      go_wp2_with fail
      refine HF.out.mono ?_
      rintro e w7 ⟨rfl, hb7⟩
      have hM7 := hM6.call hb7
      clear HF hb7 hM6
      rcases rfind_gget n d1.shown with ⟨hg, hr⟩ | ⟨v, i, hi, hg, hr, -⟩
      · rw [hr]
        have HX := Lib.hid (show dRemove ([] : Bs) d n = (d1, 4) from by unfold dRemove; rw [hdw, if_neg (by simp), if_neg (by simp [hnm]), ← HS.out, hg]; rfl)
        obtain ⟨r0, r1, r2, r3, r4, rf0, rf1, rf2, rf3, rf4⟩ := (hM7).b0.fiveC
        obtain ⟨b0, b1, b2, b3, b4, bf0, bf1, bf2, bf3, bf4⟩ := (hM7).b1.fiveC
        clear hg hr
        have HE := Lib.hid (GvK.mk (n := 4) HR.out (bel_st5 (hM7).bel (g := w.heap.size + 1) (by omega) (.int .i64 d1.room) (.slice A d1.sure.length c) (.slice B d1.pend.length k) (.int .i64 d1.fuse) (.bool d1.down)))
        go_wp2_with fail
        exact bodyPost_ret (res_k2 rfl rfl (g := w.heap.size + 1) ((hM7).b0.st5 _ _ _ _ _)) rfl (by rw [HX.out]; exact HE.out)
      · rw [hr]
        have HX := Lib.hid (show dRemove ([] : Bs) d n = (dAdd d1 ⟨2, n, [], []⟩, 0) from by unfold dRemove; rw [hdw, if_neg (by simp), if_neg (by simp [hnm]), ← HS.out, hg]; rfl)
        have hi0 : ¬ ((i : Int) < 0) := by omega
        obtain ⟨r0, r1, r2, r3, r4, rf0, rf1, rf2, rf3, rf4⟩ := (hM7).b0.fiveC
        obtain ⟨b0, b1, b2, b3, b4, bf0, bf1, bf2, bf3, bf4⟩ := (hM7).b1.fiveC
        clear hg hr
        have HAd := Lib.hid (RAdd_any (T := T2 T w.heap.size) (A := A) (c := c) d1 ⟨2, n, [], []⟩ _ (T2.up HT.out hM7) (HR.out.p.below (hM7).bel) (by omega))
        go_wp2_with fail
        refine HAd.out.mono ?_
        rintro e w9 ⟨B9, k9, rfl, hs9, ho9, hb9⟩
        have hM9 := (hM7).call hb9
        clear HAd
        clear r0 r1 r2 r3 r4 rf0 rf1 rf2 rf3 rf4 b0 b1 b2 b3 b4 bf0 bf1 bf2 bf3 bf4
        obtain ⟨r0, r1, r2, r3, r4, rf0, rf1, rf2, rf3, rf4⟩ := (hM9).b0.fiveC
        obtain ⟨b0, b1, b2, b3, b4, bf0, bf1, bf2, bf3, bf4⟩ := (hM9).b1.fiveC
        have HR9 := Lib.hid (show Rdk (T2 T w.heap.size) w9 (dAdd d1 ⟨2, n, [], []⟩) A c B9 k9 from ⟨HR.out.s.below hM9.bel, HR.out.sa.t2 hM9.bel.size, hs9, ho9⟩)
        generalize dAdd d1 ⟨2, n, [], []⟩ = d9 at *
        have HS9 := Lib.hid ((Sam.refl w.heap.size w9).st5 (.inr rfl) (.int .i64 d9.room) (.slice A d9.sure.length c) (.slice B9 d9.pend.length k9) (.int .i64 d9.fuse) (.bool d9.down))
        have HB9 := Lib.hid (bel_st5 hM9.bel (g := w.heap.size + 1) (by omega) (.int .i64 d9.room) (.slice A d9.sure.length c) (.slice B9 d9.pend.length k9) (.int .i64 d9.fuse) (.bool d9.down))
        clear hs9 ho9 hb9
        unfold rda
        go_wp2_with fail
        exact bodyPost_ret (res_k2 rfl rfl (g := w.heap.size + 1) (hM9.b0.st5 _ _ _ _ _)) rfl (by rw [HX.out]; exact ⟨A, c, B9, k9, rfl, HR9.out.sam HS9.out, HB9.out⟩)
  · subst h0
    have HX := Lib.hid (show dRemove ([] : Bs) d n = (d1, 14) from by unfold dRemove; rw [hdw]; rfl)
    obtain ⟨r0, r1, r2, r3, r4, rf0, rf1, rf2, rf3, rf4⟩ := (hM4).b0.fiveC
    obtain ⟨b0, b1, b2, b3, b4, bf0, bf1, bf2, bf3, bf4⟩ := (hM4).b1.fiveC
    have HE := Lib.hid (GvK.mk (n := 14) HR.out (bel_st5 (hM4).bel (g := w.heap.size + 1) (by omega) (.int .i64 d1.room) (.slice A d1.sure.length c) (.slice B d1.pend.length k) (.int .i64 d1.fuse) (.bool d1.down)))
    go_wp2_with fail
    exact bodyPost_ret (res_k2 rfl rfl (g := w.heap.size + 1) ((hM4).b0.st5 _ _ _ _ _)) rfl (by rw [HX.out]; exact HE.out)
set_option maxRecDepth 100000 in
set_option maxHeartbeats 1000000 in
theorem KRename_any {T : Nat → Prop} {A B : Option Addr} {c k : Nat} (d : Dk Bs) (n t : Bs) (w : World) (hT : ∀ k, w.heap.size ≤ k → T k) (h : Rdk T w d A c B k) (hl : d.sure.length + d.pend.length ≤ 100000) (hf : d.fuse ≤ 9223372036854775807) (hn : n.length ≤ 4611686018427387904) (ht : t.length ≤ 4611686018427387904) :
    Calls Tryz.prog 84 #[.agg (rda d A c B k), .string ⟨n.toArray⟩, .string ⟨t.toArray⟩] w fun e w' => GvK T w w' e (dRename ([] : Bs) d n t) := by
  have hM := ((Mm.start w).alloc (rda d A c B k) 91).alloc rdz 91
  rw [show (w.alloc (.cells (rda d A c B k) 91)).heap.size = w.heap.size + 1 by simp] at hM
  have HM := Lib.hid hM
  have HD := Lib.hid h
  have HT := Lib.hid hT
  obtain ⟨g1, g2, g3, g4⟩ := dWorks_same d
  have hWk := fun W => RWorks_any (A := A) (B := B) (c := c) (k := k) d W hf
  have HWk := Lib.hid hWk
  have HDW := Lib.hid (rfl : dWorks d = dWorks d)
  clear hM h hT hWk
  unfold rda
  go_enter Tryz.func84, Tryz.ntmps84
  go_wp2_with fail
  refine (HWk.out _).mono ?_
  rintro e w3 ⟨rfl, hb3⟩
  have hM3 := HM.out.call hb3
  generalize hdw : dWorks d = dw at *
  obtain ⟨d1, n1⟩ := dw
  dsimp only at g1 g2 g3 g4
  have HR := Lib.hid (show Rdk T w d1 A c B k from ⟨by rw [g1]; exact HD.out.s, HD.out.sa, by rw [g2]; exact HD.out.p, HD.out.pa⟩)
  have HS := Lib.hid (show d1.shown = d.shown from by unfold Dk.shown; rw [g1, g2])
  have hl1 : d1.sure.length + d1.pend.length ≤ 100000 := by rw [g1, g2]; exact hl
  have G3 := Lib.hid g3
  clear g1 g2 g3
  obtain ⟨r0, r1, r2, r3, r4, rf0, rf1, rf2, rf3, rf4⟩ := hM3.b1.fiveC
  unfold rda
  clear HM hb3 HWk HDW HD
  dsimp only
  go_upto_region 2 with (fail)
  refine gen1 (T := fun W => Mm w W [(w.heap.size + 1, 91, rdz), (w.heap.size, 91, rda d1 A c B k)] []) (hM3.st5 1 rfl _ _ _ _ _) (fun w4 hM4 => ?_)
  clear r0 r1 r2 r3 r4 rf0 rf1 rf2 rf3 rf4 hM3
  rcases g4 with h0 | h0
  · subst h0
    have HN := Lib.hid (fun W => RNamed_any n W (by omega))
    have HN2 := Lib.hid (fun W => RNamed_any t W (by omega))
    obtain ⟨r0, r1, r2, r3, r4, rf0, rf1, rf2, rf3, rf4⟩ := (hM4).b0.fiveC
    obtain ⟨b0, b1, b2, b3, b4, bf0, bf1, bf2, bf3, bf4⟩ := (hM4).b1.fiveC
    go_wp2_with fail
    refine (HN.out _).mono ?_
    rintro e w5 ⟨rfl, hb5⟩
    have hM5 := hM4.call hb5
    clear r0 r1 r2 r3 r4 rf0 rf1 rf2 rf3 rf4 b0 b1 b2 b3 b4 bf0 bf1 bf2 bf3 bf4
    clear HN hb5 hM4
    cases hnm : named n with
    | false =>
      have HX := Lib.hid (show dRename ([] : Bs) d n t = (d1, 2) from by unfold dRename; rw [hdw, if_neg (by simp), if_pos (.inl hnm)])
      obtain ⟨r0, r1, r2, r3, r4, rf0, rf1, rf2, rf3, rf4⟩ := (hM5).b0.fiveC
      obtain ⟨b0, b1, b2, b3, b4, bf0, bf1, bf2, bf3, bf4⟩ := (hM5).b1.fiveC
      have HE := Lib.hid (GvK.mk (n := 2) HR.out (bel_st5 (hM5).bel (g := w.heap.size + 1) (by omega) (.int .i64 d1.room) (.slice A d1.sure.length c) (.slice B d1.pend.length k) (.int .i64 d1.fuse) (.bool d1.down)))
      go_wp2_with fail
      exact bodyPost_ret (res_k2 rfl rfl (g := w.heap.size + 1) ((hM5).b0.st5 _ _ _ _ _)) rfl (by rw [HX.out]; exact HE.out)
    | true =>
      obtain ⟨r0, r1, r2, r3, r4, rf0, rf1, rf2, rf3, rf4⟩ := (hM5).b0.fiveC
      obtain ⟨b0, b1, b2, b3, b4, bf0, bf1, bf2, bf3, bf4⟩ := (hM5).b1.fiveC
      go_wp2_with fail
      refine (HN2.out _).mono ?_
      rintro e w5b ⟨rfl, hb5⟩
      replace hM5 := hM5.call hb5
      clear r0 r1 r2 r3 r4 rf0 rf1 rf2 rf3 rf4 b0 b1 b2 b3 b4 bf0 bf1 bf2 bf3 bf4
      clear HN2 hb5
      cases hnt : named t with
      | false =>
        have HX := Lib.hid (show dRename ([] : Bs) d n t = (d1, 2) from by unfold dRename; rw [hdw, if_neg (by simp), if_pos (.inr hnt)])
        obtain ⟨r0, r1, r2, r3, r4, rf0, rf1, rf2, rf3, rf4⟩ := (hM5).b0.fiveC
        obtain ⟨b0, b1, b2, b3, b4, bf0, bf1, bf2, bf3, bf4⟩ := (hM5).b1.fiveC
        have HE := Lib.hid (GvK.mk (n := 2) HR.out (bel_st5 (hM5).bel (g := w.heap.size + 1) (by omega) (.int .i64 d1.room) (.slice A d1.sure.length c) (.slice B d1.pend.length k) (.int .i64 d1.fuse) (.bool d1.down)))
        go_wp2_with fail
        exact bodyPost_ret (res_k2 rfl rfl (g := w.heap.size + 1) ((hM5).b0.st5 _ _ _ _ _)) rfl (by rw [HX.out]; exact HE.out)
      | true =>
        have HSh := Lib.hid (RShown_any (d := d1) _ (T2.up HT.out hM5) (HR.out.t2 hM5.bel) hl1)
        obtain ⟨r0, r1, r2, r3, r4, rf0, rf1, rf2, rf3, rf4⟩ := (hM5).b0.fiveC
        obtain ⟨b0, b1, b2, b3, b4, bf0, bf1, bf2, bf3, bf4⟩ := (hM5).b1.fiveC
        go_wp2_with fail
        refine HSh.out.mono ?_
        rintro e w6 ⟨A6, c6, m6, rfl, hm6, hs6, ho6, hb6⟩
        have hM6 := hM5.call hb6
        have HF := Lib.hid (RFind_any n w6 hs6)
        obtain rfl := hm6.out
        clear r0 r1 r2 r3 r4 rf0 rf1 rf2 rf3 rf4 b0 b1 b2 b3 b4 bf0 bf1 bf2 bf3 bf4
        clear HSh hb6 hM5 ho6 hs6
        go_wp2_with fail
        refine HF.out.mono ?_
        rintro e w7 ⟨rfl, hb7⟩
        have hM7 := hM6.call hb7
        clear HF hb7 hM6
        rcases rfind_gget n d1.shown with ⟨hg, hr⟩ | ⟨v, i, hi, hg, hr, -⟩
        · rw [hr]
          have HX := Lib.hid (show dRename ([] : Bs) d n t = (d1, 4) from by unfold dRename; rw [hdw, if_neg (by simp), if_neg (by simp [hnm, hnt]), ← HS.out, hg]; rfl)
          obtain ⟨r0, r1, r2, r3, r4, rf0, rf1, rf2, rf3, rf4⟩ := (hM7).b0.fiveC
          obtain ⟨b0, b1, b2, b3, b4, bf0, bf1, bf2, bf3, bf4⟩ := (hM7).b1.fiveC
          clear hg hr
          have HE := Lib.hid (GvK.mk (n := 4) HR.out (bel_st5 (hM7).bel (g := w.heap.size + 1) (by omega) (.int .i64 d1.room) (.slice A d1.sure.length c) (.slice B d1.pend.length k) (.int .i64 d1.fuse) (.bool d1.down)))
          go_wp2_with fail
          exact bodyPost_ret (res_k2 rfl rfl (g := w.heap.size + 1) ((hM7).b0.st5 _ _ _ _ _)) rfl (by rw [HX.out]; exact HE.out)
        · rw [hr]
          have HX := Lib.hid (show dRename ([] : Bs) d n t = (dAdd d1 ⟨1, n, t, []⟩, 0) from by unfold dRename; rw [hdw, if_neg (by simp), if_neg (by simp [hnm, hnt]), ← HS.out, hg]; rfl)
          have hi0 : ¬ ((i : Int) < 0) := by omega
          obtain ⟨r0, r1, r2, r3, r4, rf0, rf1, rf2, rf3, rf4⟩ := (hM7).b0.fiveC
          obtain ⟨b0, b1, b2, b3, b4, bf0, bf1, bf2, bf3, bf4⟩ := (hM7).b1.fiveC
          clear hg hr
          have HAd := Lib.hid (RAdd_any (T := T2 T w.heap.size) (A := A) (c := c) d1 ⟨1, n, t, []⟩ _ (T2.up HT.out hM7) (HR.out.p.below (hM7).bel) (by omega))
          go_wp2_with fail
          refine HAd.out.mono ?_
          rintro e w9 ⟨B9, k9, rfl, hs9, ho9, hb9⟩
          have hM9 := (hM7).call hb9
          clear HAd
          clear r0 r1 r2 r3 r4 rf0 rf1 rf2 rf3 rf4 b0 b1 b2 b3 b4 bf0 bf1 bf2 bf3 bf4
          obtain ⟨r0, r1, r2, r3, r4, rf0, rf1, rf2, rf3, rf4⟩ := (hM9).b0.fiveC
          obtain ⟨b0, b1, b2, b3, b4, bf0, bf1, bf2, bf3, bf4⟩ := (hM9).b1.fiveC
          have HR9 := Lib.hid (show Rdk (T2 T w.heap.size) w9 (dAdd d1 ⟨1, n, t, []⟩) A c B9 k9 from ⟨HR.out.s.below hM9.bel, HR.out.sa.t2 hM9.bel.size, hs9, ho9⟩)
          generalize dAdd d1 ⟨1, n, t, []⟩ = d9 at *
          have HS9 := Lib.hid ((Sam.refl w.heap.size w9).st5 (.inr rfl) (.int .i64 d9.room) (.slice A d9.sure.length c) (.slice B9 d9.pend.length k9) (.int .i64 d9.fuse) (.bool d9.down))
          have HB9 := Lib.hid (bel_st5 hM9.bel (g := w.heap.size + 1) (by omega) (.int .i64 d9.room) (.slice A d9.sure.length c) (.slice B9 d9.pend.length k9) (.int .i64 d9.fuse) (.bool d9.down))
          clear hs9 ho9 hb9
          unfold rda
          go_wp2_with fail
          exact bodyPost_ret (res_k2 rfl rfl (g := w.heap.size + 1) (hM9.b0.st5 _ _ _ _ _)) rfl (by rw [HX.out]; exact ⟨A, c, B9, k9, rfl, HR9.out.sam HS9.out, HB9.out⟩)
  · subst h0
    have HX := Lib.hid (show dRename ([] : Bs) d n t = (d1, 14) from by unfold dRename; rw [hdw]; rfl)
    obtain ⟨r0, r1, r2, r3, r4, rf0, rf1, rf2, rf3, rf4⟩ := (hM4).b0.fiveC
    obtain ⟨b0, b1, b2, b3, b4, bf0, bf1, bf2, bf3, bf4⟩ := (hM4).b1.fiveC
    have HE := Lib.hid (GvK.mk (n := 14) HR.out (bel_st5 (hM4).bel (g := w.heap.size + 1) (by omega) (.int .i64 d1.room) (.slice A d1.sure.length c) (.slice B d1.pend.length k) (.int .i64 d1.fuse) (.bool d1.down)))
    go_wp2_with fail
    exact bodyPost_ret (res_k2 rfl rfl (g := w.heap.size + 1) ((hM4).b0.st5 _ _ _ _ _)) rfl (by rw [HX.out]; exact HE.out)
end Go.Proofs.YtabnndjdkjkciaaGreatDoor

namespace Go.Proofs.YtabnndjdkjkciaaGreatDoor
open Go.RowKit Go.Maps Go.Sort
attribute [local go_sem ↓] Go.wp_at_zero Go.wp_at_succ

theorem dWrite_not {d : Dk Bs} {n v : Bs} (h0 : (dWorks d).2 = 0) (hn : named n = true) (hv : v.length ≤ 65536) (hr : Ris d.sure) (hl : d.shown.length ≤ 511) : dWrite bln d n v = if d.room < (fused bln (gput n v d.shown) : Int) then ((dWorks d).1, 5) else (dAdd (dWorks d).1 ⟨0, n, [], v⟩, 0) := by
  rw [dWrite_doc hr hl, if_neg (by simp [h0]), if_neg (by simp [hn]), if_neg (by unfold bln; omega)]
set_option maxRecDepth 100000 in
set_option maxHeartbeats 1000000 in
theorem KWrite_any {T : Nat → Prop} {A B : Option Addr} {c k : Nat} (d : Dk Bs) (n v : Bs) (w : World) (hT : ∀ k, w.heap.size ≤ k → T k) (h : Rdk T w d A c B k) (hl : d.sure.length + d.pend.length ≤ 500) (hf : d.fuse ≤ 9223372036854775807) (hn : n.length ≤ 4611686018427387904) (hv : v.length ≤ 4611686018427387904) (hr : Ris d.sure) (hu : fused bln d.shown ≤ 1000000000000) :
    Calls Tryz.prog 82 #[.agg (rda d A c B k), .string ⟨n.toArray⟩, .string ⟨v.toArray⟩] w fun e w' => GvK T w w' e (dWrite bln d n v) := by
  have hsh : d.shown.length ≤ 500 := by have := flen_dos d.sure d.pend; unfold Dk.shown; omega
  have HDn := Lib.hid (fun (h1 : (dWorks d).2 = 0) (h2 : named n = true) (h3 : v.length ≤ 65536) => dWrite_not h1 h2 h3 hr (by omega : d.shown.length ≤ 511))
  have HPc := Lib.hid (put_count bln (hr.fdos d.pend) v (k := n))
  have hsz : (ByteArray.size ⟨v.toArray⟩) = v.length := by simp [ByteArray.size]
  have hM := ((Mm.start w).alloc (rda d A c B k) 91).alloc rdz 91
  rw [show (w.alloc (.cells (rda d A c B k) 91)).heap.size = w.heap.size + 1 by simp] at hM
  have HM := Lib.hid hM
  have HD := Lib.hid h
  have HT := Lib.hid hT
  obtain ⟨g1, g2, g3, g4⟩ := dWorks_same d
  have hWk := fun W => RWorks_any (A := A) (B := B) (c := c) (k := k) d W hf
  have HWk := Lib.hid hWk
  have HDW := Lib.hid (rfl : dWorks d = dWorks d)
  clear hM h hT hWk
  unfold rda
  go_enter Tryz.func82, Tryz.ntmps82
  go_wp2_with fail
  refine (HWk.out _).mono ?_
  rintro e w3 ⟨rfl, hb3⟩
  have hM3 := HM.out.call hb3
  generalize hdw : dWorks d = dw at *
  obtain ⟨d1, n1⟩ := dw
  dsimp only at g1 g2 g3 g4
  have HR := Lib.hid (show Rdk T w d1 A c B k from ⟨by rw [g1]; exact HD.out.s, HD.out.sa, by rw [g2]; exact HD.out.p, HD.out.pa⟩)
  have HS := Lib.hid (show d1.shown = d.shown from by unfold Dk.shown; rw [g1, g2])
  have hl1 : d1.sure.length + d1.pend.length ≤ 500 := by rw [g1, g2]; exact hl
  have G3 := Lib.hid g3
  clear g1 g2 g3
  obtain ⟨r0, r1, r2, r3, r4, rf0, rf1, rf2, rf3, rf4⟩ := hM3.b1.fiveC
  unfold rda
  clear HM hb3 HWk HDW HD
  dsimp only
  go_upto_region 2 with (fail)
  refine gen1 (T := fun W => Mm w W [(w.heap.size + 1, 91, rdz), (w.heap.size, 91, rda d1 A c B k)] []) (hM3.st5 1 rfl _ _ _ _ _) (fun w4 hM4 => ?_)
  clear r0 r1 r2 r3 r4 rf0 rf1 rf2 rf3 rf4 hM3
  rcases g4 with h0 | h0
  · subst h0
    have HN := Lib.hid (fun W => RNamed_any n W (by omega))
    obtain ⟨r0, r1, r2, r3, r4, rf0, rf1, rf2, rf3, rf4⟩ := (hM4).b0.fiveC
    obtain ⟨b0, b1, b2, b3, b4, bf0, bf1, bf2, bf3, bf4⟩ := (hM4).b1.fiveC
    go_wp2_with fail
    refine (HN.out _).mono ?_
    rintro e w5 ⟨rfl, hb5⟩
    have hM5 := hM4.call hb5
    clear r0 r1 r2 r3 r4 rf0 rf1 rf2 rf3 rf4 b0 b1 b2 b3 b4 bf0 bf1 bf2 bf3 bf4
    clear HN hb5 hM4
    cases hnm : named n with
    | false =>
      have HX := Lib.hid (show dWrite bln d n v = (d1, 2) from by unfold dWrite; rw [hdw, if_neg (by simp), if_pos hnm])
      obtain ⟨r0, r1, r2, r3, r4, rf0, rf1, rf2, rf3, rf4⟩ := (hM5).b0.fiveC
      obtain ⟨b0, b1, b2, b3, b4, bf0, bf1, bf2, bf3, bf4⟩ := (hM5).b1.fiveC
      have HE := Lib.hid (GvK.mk (n := 2) HR.out (bel_st5 (hM5).bel (g := w.heap.size + 1) (by omega) (.int .i64 d1.room) (.slice A d1.sure.length c) (.slice B d1.pend.length k) (.int .i64 d1.fuse) (.bool d1.down)))
      go_wp2_with fail
      exact bodyPost_ret (res_k2 rfl rfl (g := w.heap.size + 1) ((hM5).b0.st5 _ _ _ _ _)) rfl (by rw [HX.out]; exact HE.out)
    | true =>
      rcases Nat.lt_or_ge 65536 v.length with hv1 | hv1
      · have hI : (65536 : Int) < (v.length : Int) := by omega
        have HX := Lib.hid (show dWrite bln d n v = (d1, 3) from by unfold dWrite; rw [hdw, if_neg (by simp), if_neg (by simp [hnm]), if_pos (show 65536 < bln v from hv1)])
        obtain ⟨r0, r1, r2, r3, r4, rf0, rf1, rf2, rf3, rf4⟩ := (hM5).b0.fiveC
        obtain ⟨b0, b1, b2, b3, b4, bf0, bf1, bf2, bf3, bf4⟩ := (hM5).b1.fiveC
        have HE := Lib.hid (GvK.mk (n := 3) HR.out (bel_st5 (hM5).bel (g := w.heap.size + 1) (by omega) (.int .i64 d1.room) (.slice A d1.sure.length c) (.slice B d1.pend.length k) (.int .i64 d1.fuse) (.bool d1.down)))
        go_wp2_with fail
        exact bodyPost_ret (res_k2 rfl rfl (g := w.heap.size + 1) ((hM5).b0.st5 _ _ _ _ _)) rfl (by rw [HX.out]; exact HE.out)
      have hI : (v.length : Int) ≤ 65536 := by omega
      have HDW := Lib.hid (show dWrite bln d n v = if d.room < (fused bln (gput n v d.shown) : Int) then (d1, 5) else (dAdd d1 ⟨0, n, [], v⟩, 0) from HDn.out trivial hnm hv1)
      have HAd := Lib.hid (RAdd_any (T := T2 T w.heap.size) (A := A) (c := c) d1 ⟨0, n, [], v⟩ w5 (T2.up HT.out hM5) (HR.out.p.below hM5.bel) (by omega))
      obtain ⟨r0, r1, r2, r3, r4, rf0, rf1, rf2, rf3, rf4⟩ := (hM5).b0.fiveC
      obtain ⟨b0, b1, b2, b3, b4, bf0, bf1, bf2, bf3, bf4⟩ := (hM5).b1.fiveC
      go_wp2_with fail
      refine HAd.out.mono ?_
      rintro e w9 ⟨B9, k9, rfl, hs9, ho9, hb9⟩
      have hM9 := hM5.call hb9
      clear HAd HDn
      clear r0 r1 r2 r3 r4 rf0 rf1 rf2 rf3 rf4 b0 b1 b2 b3 b4 bf0 bf1 bf2 bf3 bf4
      have hsh9 : (dAdd d1 ⟨0, n, [], v⟩).shown = gput n v d.shown := by rw [shown_write, HS.out]
      have hl9 : (dAdd d1 ⟨0, n, [], v⟩).sure.length + (dAdd d1 ⟨0, n, [], v⟩).pend.length ≤ 501 := by unfold dAdd; simp; omega
      have HR9 := Lib.hid (show Rdk (T2 T w.heap.size) w9 (dAdd d1 ⟨0, n, [], v⟩) A c B9 k9 from ⟨HR.out.s.below hM9.bel, HR.out.sa.t2 hM9.bel.size, hs9, ho9⟩)
      generalize dAdd d1 ⟨0, n, [], v⟩ = d9 at *
      clear hs9 ho9 hb9 hM5
      have hM10 := hM9.alloc (rda d9 A c B9 k9) 91
      have HSh := Lib.hid (RShown_any (T := T2 T w.heap.size) (d := d9) (A := A) (c := c) (B := B9) (k := k9) (w9.alloc (.cells (rda d9 A c B9 k9) 91)) (fun j hj => T2.up HT.out hM9 j (by simp at hj; omega)) (HR9.out.below (below_new _ _)) (by omega))
      obtain ⟨x0, x1, x2, x3, x4, -⟩ := hM10.b0.fiveC
      have hlg : w9.heap.size ≠ w.heap.size ∧ w9.heap.size ≠ w.heap.size + 1 := ⟨by have := hM9.b0.lt; omega, by have := hM9.b0.lt; omega⟩
      unfold rda
      go_wp2_with fail
      refine HSh.out.mono ?_
      rintro e w11 ⟨A6, c6, m6, rfl, hm6, hs6, ho6, hb6⟩
      have hM11 := hM10.call hb6
      have HR11 := Lib.hid (HR9.out.below (below_new _ _) |>.below hb6)
      clear HSh x0 x1 x2 x3 x4 hb6 hM10 ho6 hM9
      have hfu : fused bln m6 ≤ 4000000000000 ∧ m6.length ≤ 501 := by
        rw [hm6.out, hsh9]
        have := HPc.out
        have hbv : bln v ≤ 65536 := hv1
        unfold Dk.shown at hu hsh ⊢
        constructor
        · have h1 := this.1
          omega
        · have h2 := this.2
          rw [h2]
          split <;> omega
      have HU := fun W (hW : SlR W A6 c6 m6) => RUsed_any W hW (by omega) hfu.1
      have hd9 : decide ((512 : Int) < (m6.length : Int)) = false := decide_eq_false (by omega)
      have HU' := Lib.hid HU
      have HF9 := Lib.hid (show fused bln m6 = fused bln (gput n v d.shown) from by rw [hm6.out, hsh9])
      clear HU
      go_upto_region 10 with (fail)
      have hst : Mm w w11.drew [(w9.heap.size, 91, rda d9 A c B9 k9), (w.heap.size + 1, 91, rdz), (w.heap.size, 91, rda d1 A c B k)] [] ∧ SlR w11.drew A6 c6 m6 := ⟨hM11.drew, hs6⟩
      generalize hf6 : fused bln m6 = f6 at *
      refine wp_region_held_drew (S := (fun W => Mm w W [(w9.heap.size, 91, rda d9 A c B9 k9), (w.heap.size + 1, 91, rdz), (w.heap.size, 91, rda d1 A c B k)] [] ∧ SlR W A6 c6 m6)) (by kernel_rfl) ?_ (fun hHeld => ?_)
      · first | with_reducible exact hst | with_reducible exact hHeld | exact ⟨hHeld.1.call hb7, hHeld.2.below hb7⟩
      refine wpAnyH_take (i := 0) (oi := ⟨some 35, _, _, _, _, _⟩) (v := ?_) rfl (by kernel_rfl) (by kernel_rfl) (by kernel_rfl) (fun _ _ _ h => h) (Or.inl ⟨by kernel_rfl, ?_⟩) (by assumption) ?_
      rotate_left
      · (intro wS hSw; (try dsimp only at hSw); obtain ⟨y0, y1, y2, y3, y4, -⟩ := hSw.1.b2.fiveC; clear hSw; go_simp; (try with_reducible rfl))
      (try simp only [Act.put, List.setIfInBounds_toArray, List.set_cons_zero, List.set_cons_succ])
      refine wpAnyH_take (i := 1) (oi := ⟨some 36, _, _, _, _, _⟩) (v := ?_) rfl (by kernel_rfl) (by kernel_rfl) (by kernel_rfl) (fun _ _ _ h => h) (Or.inl ⟨by kernel_rfl, ?_⟩) (by assumption) ?_
      rotate_left
      · (intro wS hSw; (try dsimp only at hSw); obtain ⟨y0, y1, y2, y3, y4, -⟩ := hSw.1.b2.fiveC; clear hSw; go_simp; (try with_reducible rfl))
      (try simp only [Act.put, List.setIfInBounds_toArray, List.set_cons_zero, List.set_cons_succ])
      refine wpAnyH_take (i := 2) (oi := ⟨some 37, _, _, _, _, _⟩) (v := ?_) rfl (by kernel_rfl) (by kernel_rfl) (by kernel_rfl) (fun _ _ _ h => h) (Or.inl ⟨by kernel_rfl, ?_⟩) (by assumption) ?_
      rotate_left
      · (intro wS hSw; (try dsimp only at hSw); (go_simp; rfl))
      (try simp only [Act.put, List.setIfInBounds_toArray, List.set_cons_zero, List.set_cons_succ])
      refine wpAnyH_take (i := 3) (oi := ⟨some 38, _, _, _, _, _⟩) (v := ?_) rfl (by kernel_rfl) (by kernel_rfl) (by kernel_rfl) (fun _ _ _ h => h) (Or.inl ⟨by kernel_rfl, ?_⟩) (by assumption) ?_
      rotate_left
      · (intro wS hSw; (try dsimp only at hSw); obtain ⟨y0, y1, y2, y3, y4, -⟩ := hSw.1.b2.fiveC; clear hSw; go_simp; (try with_reducible rfl))
      (try simp only [Act.put, List.setIfInBounds_toArray, List.set_cons_zero, List.set_cons_succ])
      refine wpAnyH_take (i := 4) (oi := ⟨some 39, _, _, _, _, _⟩) (v := ?_) rfl (by kernel_rfl) (by kernel_rfl) (by kernel_rfl) (fun _ _ _ h => h) (Or.inl ⟨by kernel_rfl, ?_⟩) (by assumption) ?_
      rotate_left
      · (intro wS hSw; (try dsimp only at hSw); obtain ⟨y0, y1, y2, y3, y4, -⟩ := hSw.1.b2.fiveC; clear hSw; go_simp; (try with_reducible rfl))
      (try simp only [Act.put, List.setIfInBounds_toArray, List.set_cons_zero, List.set_cons_succ])
      refine wpAnyH_take (i := 6) (oi := ⟨some 41, _, _, _, _, _⟩) (v := ?_) rfl (by kernel_rfl) (by kernel_rfl) (by kernel_rfl) (fun _ _ _ h => h) (Or.inl ⟨by kernel_rfl, ?_⟩) (by assumption) ?_
      rotate_left
      · (intro wS hSw; (try dsimp only at hSw); obtain ⟨y0, y1, y2, y3, y4, -⟩ := hSw.1.b2.fiveC; clear hSw; go_simp; (try with_reducible rfl))
      (try simp only [Act.put, List.setIfInBounds_toArray, List.set_cons_zero, List.set_cons_succ])
      refine wpAnyH_take (i := 7) (oi := ⟨some 42, _, _, _, _, _⟩) (v := ?_) rfl (by kernel_rfl) (by kernel_rfl) (by kernel_rfl) (fun _ _ _ h => h) (Or.inl ⟨by kernel_rfl, ?_⟩) (by assumption) ?_
      rotate_left
      · (intro wS hSw; (try dsimp only at hSw); obtain ⟨y0, y1, y2, y3, y4, -⟩ := hSw.1.b2.fiveC; clear hSw; go_simp; (try with_reducible rfl))
      (try simp only [Act.put, List.setIfInBounds_toArray, List.set_cons_zero, List.set_cons_succ])
      refine wpAnyH_ready (rs := [5]) (by kernel_rfl) (by simp) ?_
      refine AllReadyH.cons (o := ⟨some 40, _, _, _, _, _⟩) rfl (fun K hK => ?_) AllReadyH.nil
      go_simp
      (refine (HU'.out _ hHeld.2).mono ?_; rintro e w7 ⟨rfl, hb7⟩)
      go_wp2_with fail
      refine hK.out _ _ ?_ (fun hHeld => ?_)
      · ((try dsimp only); (first | with_reducible exact hst | with_reducible exact hHeld | exact ⟨hHeld.1.call hb7, hHeld.2.below hb7⟩))
      clear hK K
      (try simp only [Act.put, List.setIfInBounds_toArray, List.set_cons_zero, List.set_cons_succ])
      refine wpAnyH_take (i := 8) (oi := ⟨some 43, _, _, _, _, _⟩) (v := ?_) rfl (by kernel_rfl) (by kernel_rfl) (by kernel_rfl) (fun _ _ _ h => h) (Or.inl ⟨by kernel_rfl, ?_⟩) (by assumption) ?_
      rotate_left
      · (intro wS hSw; (try dsimp only at hSw); obtain ⟨y0, y1, y2, y3, y4, -⟩ := hSw.1.b2.fiveC; clear hSw; go_simp; (try with_reducible rfl))
      (try simp only [Act.put, List.setIfInBounds_toArray, List.set_cons_zero, List.set_cons_succ])
      refine wpAnyH_take (i := 9) (oi := ⟨some 44, _, _, _, _, _⟩) (v := ?_) rfl (by kernel_rfl) (by kernel_rfl) (by kernel_rfl) (fun _ _ _ h => h) (Or.inl ⟨by kernel_rfl, ?_⟩) (by assumption) ?_
      rotate_left
      · (intro wS hSw; (try dsimp only at hSw); obtain ⟨y0, y1, y2, y3, y4, -⟩ := hSw.1.b2.fiveC; clear hSw; go_simp; (try with_reducible rfl))
      (try simp only [Act.put, List.setIfInBounds_toArray, List.set_cons_zero, List.set_cons_succ])
      refine wpAnyH_done (by kernel_rfl) ?_ _
      obtain ⟨hM7, -⟩ := hHeld
      obtain ⟨r0, r1, r2, r3, r4, rf0, rf1, rf2, rf3, rf4⟩ := hM7.b1.fiveC
      obtain ⟨b0, b1, b2, b3, b4, bf0, bf1, bf2, bf3, bf4⟩ := hM7.b2.fiveC
      obtain ⟨x0, x1, x2, x3, x4, -⟩ := hM7.b0.fiveC
      rcases Int.lt_or_le d1.room (f6 : Int) with hroom | hroom
      · have HX := Lib.hid (show dWrite bln d n v = (d1, 5) from by rw [HDW.out, if_pos (by rw [← G3.out, ← HF9.out]; exact hroom)])
        have HE := Lib.hid (GvK.mk (n := 5) HR.out (bel_st5 hM7.bel (g := w.heap.size + 1) (by omega) (.int .i64 d1.room) (.slice A d1.sure.length c) (.slice B d1.pend.length k) (.int .i64 d1.fuse) (.bool d1.down)))
        go_wp2_with fail
        exact bodyPost_ret (res_k2 rfl rfl (g := w.heap.size + 1) (hM7.b1.st5 _ _ _ _ _)) rfl (by rw [HX.out]; exact HE.out)
      · have HX := Lib.hid (show dWrite bln d n v = (d9, 0) from by rw [HDW.out, if_neg (by rw [← G3.out, ← HF9.out]; omega)])
        have hno : ¬ (d1.room < (f6 : Int)) := by omega
        have HR7 := Lib.hid (Rdk.below (w := w11.drew) (d := d9) ⟨HR11.out.s, HR11.out.sa, HR11.out.p, HR11.out.pa⟩ hb7)
        have HS7 := Lib.hid ((Sam.refl w.heap.size w7).st5 (.inr rfl) (.int .i64 d9.room) (.slice A d9.sure.length c) (.slice B9 d9.pend.length k9) (.int .i64 d9.fuse) (.bool d9.down))
        have HB7 := Lib.hid (bel_st5 hM7.bel (g := w.heap.size + 1) (by omega) (.int .i64 d9.room) (.slice A d9.sure.length c) (.slice B9 d9.pend.length k9) (.int .i64 d9.fuse) (.bool d9.down))
        go_wp2_with fail
        exact bodyPost_ret (res_k2 rfl rfl (g := w.heap.size + 1) (hM7.b1.st5 _ _ _ _ _)) rfl (by rw [HX.out]; exact ⟨A, c, B9, k9, rfl, HR7.out.sam HS7.out, HB7.out⟩)
  · subst h0
    have HX := Lib.hid (show dWrite bln d n v = (d1, 14) from by unfold dWrite; rw [hdw]; rfl)
    obtain ⟨r0, r1, r2, r3, r4, rf0, rf1, rf2, rf3, rf4⟩ := (hM4).b0.fiveC
    obtain ⟨b0, b1, b2, b3, b4, bf0, bf1, bf2, bf3, bf4⟩ := (hM4).b1.fiveC
    have HE := Lib.hid (GvK.mk (n := 14) HR.out (bel_st5 (hM4).bel (g := w.heap.size + 1) (by omega) (.int .i64 d1.room) (.slice A d1.sure.length c) (.slice B d1.pend.length k) (.int .i64 d1.fuse) (.bool d1.down)))
    go_wp2_with fail
    exact bodyPost_ret (res_k2 rfl rfl (g := w.heap.size + 1) ((hM4).b0.st5 _ _ _ _ _)) rfl (by rw [HX.out]; exact HE.out)
/-- what the document reads -/
def rRead (d : Dk Bs) (n : Bs) : Bs × Nat := if d.down = true then ([], 14) else match gget n d.shown with | none => ([], 4) | some v => (v, 0)
set_option maxRecDepth 100000 in
set_option maxHeartbeats 1000000 in
theorem KRead_any {T : Nat → Prop} {A B : Option Addr} {c k : Nat} (d : Dk Bs) (n : Bs) (w : World) (hT : ∀ k, w.heap.size ≤ k → T k) (h : Rdk T w d A c B k) (hl : d.sure.length + d.pend.length ≤ 100000) :
    Calls Tryz.prog 86 #[.agg (rda d A c B k), .string ⟨n.toArray⟩] w fun e w' => e = .returned (.tuple #[.string ⟨(rRead d n).1.toArray⟩, .int .i64 ((rRead d n).2 : Nat)]) ∧ Below w.heap.size w w' := by
  obtain ⟨room, sure, pend, fuse, down⟩ := d
  dsimp only at hl
  cases down with
  | true =>
    have hB := Blk.new w 91 (rda ⟨room, sure, pend, fuse, true⟩ A c B k)
    have hb := below_new w (.cells (rda ⟨room, sure, pend, fuse, true⟩ A c B k) 91)
    obtain ⟨r0, r1, r2, r3, r4, -⟩ := hB.fiveC
    have HX := Lib.hid (show rRead (⟨room, sure, pend, fuse, true⟩ : Dk Bs) n = ([], 14) from rfl)
    go_enter Tryz.func86, Tryz.ntmps86
    go_wp2_with fail
    go_ret2
    exact ⟨by rw [HX.out]; rfl, hb⟩
  | false =>
    have hB := Blk.new w 91 (rda ⟨room, sure, pend, fuse, false⟩ A c B k)
    have hb := below_new w (.cells (rda ⟨room, sure, pend, fuse, false⟩ A c B k) 91)
    obtain ⟨r0, r1, r2, r3, r4, -⟩ := hB.fiveC
    have HSh := Lib.hid (RShown_any (d := ⟨room, sure, pend, fuse, false⟩) _ (fun j hj => hT j (by simp at hj; omega)) (h.below hb) hl)
    clear h hT
    have HRR := Lib.hid (show ∀ r, (match gget n (Dk.shown (⟨room, sure, pend, fuse, false⟩ : Dk Bs)) with | none => (([], 4) : Bs × Nat) | some v => (v, 0)) = r → rRead (⟨room, sure, pend, fuse, false⟩ : Dk Bs) n = r from fun r h => by unfold rRead; rw [if_neg (by simp)]; exact h)
    generalize Dk.shown (⟨room, sure, pend, fuse, false⟩ : Dk Bs) = sh at HSh HRR
    go_enter Tryz.func86, Tryz.ntmps86
    go_wp2_with fail
    refine HSh.out.mono ?_
    rintro e w1 ⟨A1, c1, m1, rfl, hm1, hs1, ho1, hb1⟩
    have hb2 := bel_call hb hb1
    have HF := Lib.hid (RFind_any n w1 hs1)
    have HS1 := Lib.hid hs1
    obtain rfl := hm1.out
    clear HSh hs1 ho1 hb1
    go_wp2_with fail
    refine HF.out.mono ?_
    rintro e w2 ⟨rfl, hb3⟩
    have hb4 := bel_call hb2 hb3
    rcases rfind_gget n m1 with ⟨hg, hr⟩ | ⟨v, i, hi, hg, hr, hlk⟩
    · rw [hr]
      have HX := Lib.hid (HRR.out _ (by rw [hg]))
      clear hr hg
      go_wp2_with fail
      go_ret2
      exact ⟨by rw [HX.out]; rfl, hb4⟩
    · obtain ⟨ad, b, o, hAd, had, -, hc1⟩ := (HS1.out.below hb3).at1 hi
      rw [hlk] at hc1
      rw [hr]
      have HX := Lib.hid (HRR.out _ (by rw [hg]))
      clear hg
      subst hAd
      have hi0 : ¬ ((i : Int) < 0) := by omega
      have hi1 : (i : Int) < (m1.length : Int) := by omega
      clear hr hlk
      go_wp2_with fail
      go_ret2
      exact ⟨by rw [HX.out]; rfl, hb4⟩
/-- append of one text -/
theorem tx_info : (Tryz.prog.info? 9).map (fun i => (i.zero, i.size, i.bytes)) = some (some (.string ⟨#[]⟩), 1, 16) := by kernel_rfl
theorem lit_tx (w : World) (x : Bs) : Sl (w.alloc (.cells #[.string ⟨x.toArray⟩] 9)) 1 (some ⟨w.heap.size, 0, none⟩) 1 1 (tx [x]) :=
  ⟨by simp [tx], by omega, by simp [maxLen], (fun h => by cases h), fun j u hj => ⟨_, rfl, by
    rw [addr_lit, cell_of_row _ _ _ _ 9 (0, 0) (heap_alloc_new w _)]
    simpa [tx, encStr] using hj⟩⟩
theorem wpl_tx {w : World} {ops : Array Oper} {rest : List Oper} {o : Oper} {a : Act} {Q : Exit → Act → World → Prop} (hgd : o.guard = none) (s x : Operand)
    (ho : o.op = .call { callee := .builtin .append, args := #[s, x], argTypes := #[159, 159] })
    (base : Nat) (A : Option Addr) (c : Nat) (l : List Bs) (hs : a.eval s = .slice A l.length c) (hown : OwnT w base A c l) (hn : l.length ≤ 1000000000000)
    (p : Bs) (gx : Nat) (hgx : gx = w.heap.size) (hx : a.eval x = .slice (some ⟨gx, 0, none⟩) 1 1) (hbase : base ≤ w.heap.size)
    (h : ∀ A' c' m w', Hid (m = l ++ [p]) → OwnT w' base A' c' m → (w.alloc (.cells #[.string ⟨p.toArray⟩] 9)).grownBy w' (A.map (·.block)) → (A'.map (·.block) = A.map (·.block) ∨ A'.map (·.block) = some (w.alloc (.cells #[.string ⟨p.toArray⟩] 9)).heap.size) → wpList Tryz.prog ops Q rest (a.put o.dst (.slice A' m.length c')) w') : wpList Tryz.prog ops Q (o :: rest) a (w.alloc (.cells #[.string ⟨p.toArray⟩] 9)) := by
  subst hgx
  obtain ⟨i0, hi, hz0, hz1, hz2⟩ := info_parts tx_info
  have hown2 : OwnT (w.alloc (.cells #[.string ⟨p.toArray⟩] 9)) base A c l := World.ownsRow.alloc hown _
  refine wpl_append hgd s x 159 ho base 9 i0 _ 1 16 Tryz.underlying159 hi hz0 hz1 hz2 rfl (by decide) A l.length c _ hs hown2 _ 1 1 (tx [p]) hx (lit_tx w p) (by intro u hu; simp [tx, encStr] at hu; subst hu; rfl) (by omega) (by unfold maxLen; omega) (by simp; omega) ?_
  intro A' c' w' hap
  have hlen : l.length + 1 = (l ++ [p]).length := by simp
  rw [hlen]
  exact h A' c' (l ++ [p]) w' (show _ = _ from rfl) (by have := hap.own; unfold OwnT tx; rw [List.map_append]; simpa using this) hap.grown hap.place
end Go.Proofs.YtabnndjdkjkciaaGreatDoor

namespace Go.Proofs.YtabnndjdkjkciaaGreatDoor
open Go.RowKit Go.Maps Go.Sort
attribute [local go_sem ↓] Go.wp_at_zero Go.wp_at_succ

/-- while names are told -/
structure Ni (w wr : World) (A1 : Option Addr) (c1 : Nat) (g : List (Bs × Bs)) (B : Option Addr) (d : Nat) (m : List Bs) : Prop where
  own : OwnT wr w.heap.size B d m
  row : SlR wr A1 c1 g
  ap : ∀ k, B.map (·.block) = some k → A1.map (·.block) ≠ some k
  al : ∀ k, A1.map (·.block) = some k → k < wr.heap.size
  bel : Below w.heap.size w wr
section
variable {w wr w' : World} {A1 B B' : Option Addr} {c1 d d' : Nat} {g : List (Bs × Bs)} {m m' : List Bs}
theorem Ni.alloc (h : Ni w wr A1 c1 g B d m) (o : Obj) : Ni w (wr.alloc o) A1 c1 g B d m :=
  ⟨World.ownsRow.alloc h.own o, h.row.below (below_new _ _), h.ap, fun k hk => by have := h.al k hk; simp; omega, h.bel.alloc h.bel.size o⟩
theorem Ni.grow (h : Ni w wr A1 c1 g B d m) {o : Obj} (ho : OwnT w' w.heap.size B' d' m') (hg : (wr.alloc o).grownBy w' (B.map (·.block))) (hp : B'.map (·.block) = B.map (·.block) ∨ B'.map (·.block) = some (wr.alloc o).heap.size) : Ni w w' A1 c1 g B' d' m' := by
  have h1 := h.alloc o
  refine ⟨ho, ?_, fun k hk => ?_, fun k hk => Nat.lt_of_lt_of_le (h1.al k hk) hg.size, ?_⟩
  · exact Sl.sameH h1.row fun k hk => hg.block k (h1.al k hk) (fun e => h1.ap k e.symm hk)
  · rcases hp with hp | hp
    · exact h1.ap k (hp ▸ hk)
    · rw [hp] at hk
      injection hk with hk
      intro e
      have := h1.al k e
      omega
  · exact bel_grown h.bel h.bel.size (fun k hk => (Own.lt h.own k hk).1) hg (Nat.le_refl _)
end
def rNames (d : Dk Bs) : List Bs × Nat := if d.down = true then ([], 14) else (names d.shown, 0)
set_option maxRecDepth 100000 in
set_option maxHeartbeats 1000000 in
theorem KNames_any {T : Nat → Prop} {A B : Option Addr} {c k : Nat} (d : Dk Bs) (w : World) (h : Rdk T w d A c B k) (hl : d.sure.length + d.pend.length ≤ 100000) :
    Calls Tryz.prog 79 #[.agg (rda d A c B k)] w fun e w' => ∃ A' c' m, e = .returned (.tuple #[.slice A' (List.length m) c', .int .i64 ((rNames d).2 : Nat)]) ∧ Hid (m = (rNames d).1) ∧ OwnT w' w.heap.size A' c' m ∧ Below w.heap.size w w' := by
  obtain ⟨room, sure, pend, fuse, down⟩ := d
  dsimp only at hl
  cases down with
  | true =>
    have hB := Blk.new w 91 (rda ⟨room, sure, pend, fuse, true⟩ A c B k)
    have hb := below_new w (.cells (rda ⟨room, sure, pend, fuse, true⟩ A c B k) 91)
    obtain ⟨r0, r1, r2, r3, r4, -⟩ := hB.fiveC
    clear h
    go_enter Tryz.func79, Tryz.ntmps79
    go_wp2_with fail
    go_ret2
    exact ⟨none, 0, [], rfl, (show _ = _ from rfl), Own.none_ _ _ _ _, hb⟩
  | false =>
    have hB := (Blk.new w 91 (rda ⟨room, sure, pend, fuse, false⟩ A c B k)).alloc (.cells #[] 9)
    have hb := bel_alloc (below_new w (.cells (rda ⟨room, sure, pend, fuse, false⟩ A c B k) 91)) (.cells #[] 9)
    have hsz : ((w.alloc (.cells (rda ⟨room, sure, pend, fuse, false⟩ A c B k) 91)).alloc (.cells #[] 9)).heap.size = w.heap.size + 2 := by simp
    obtain ⟨s0, s1, s2, s3, s4, -⟩ := (Blk.new w 91 (rda ⟨room, sure, pend, fuse, false⟩ A c B k)).fiveC
    obtain ⟨r0, r1, r2, r3, r4, -⟩ := hB.fiveC
    have hR : Rdk (fun j => j ≠ w.heap.size + 1) ((w.alloc (.cells (rda ⟨room, sure, pend, fuse, false⟩ A c B k) 91)).alloc (.cells #[] 9)) ⟨room, sure, pend, fuse, false⟩ A c B k :=
      ⟨(h.s.below (below_new _ _)).below (below_new _ _), fun j hj => ⟨by have := (h.sa j hj).2; omega, by have := (h.sa j hj).2; omega⟩, (h.p.below (below_new _ _)).below (below_new _ _), fun j hj => ⟨by have := (h.pa j hj).2; omega, by have := (h.pa j hj).2; omega⟩⟩
    have HSh := Lib.hid (RShown_any (d := ⟨room, sure, pend, fuse, false⟩) _ (fun j hj => by omega) hR hl)
    have HO0 := Lib.hid (Own.lit (w := w.alloc (.cells (rda ⟨room, sure, pend, fuse, false⟩ A c B k) 91)) (base := w.heap.size) (e := 9) 1 (by simp))
    have hlen : (Dk.shown (⟨room, sure, pend, fuse, false⟩ : Dk Bs)).length ≤ 100000 := by
      have := flen_dos sure pend
      unfold Dk.shown
      dsimp only
      omega
    have HRR := Lib.hid (show rNames (⟨room, sure, pend, fuse, false⟩ : Dk Bs) = (names (Dk.shown (⟨room, sure, pend, fuse, false⟩ : Dk Bs)), 0) from rfl)
    clear h hR
    generalize Dk.shown (⟨room, sure, pend, fuse, false⟩ : Dk Bs) = sh at HSh HRR hlen
    go_enter Tryz.func79, Tryz.ntmps79
    go_wp2_with fail
    refine HSh.out.mono ?_
    rintro e w1 ⟨A1, c1, m1, rfl, hm1, hs1, ho1, hb1⟩
    have HO1 := Own.below HO0.out hb1
    rw [show (w.alloc (.cells (rda ⟨room, sure, pend, fuse, false⟩ A c B k) 91)).heap.size = w.heap.size + 1 by simp] at HO1
    have HNi := Lib.hid (show Ni w w1 A1 c1 m1 (some ⟨w.heap.size + 1, 0, none⟩) 0 [] from ⟨HO1, hs1, fun j hj e => by injection hj with hj; exact (ho1 j e).1 hj.symm, fun j hj => (ho1 j hj).2, bel_call hb hb1⟩)
    have HE := Lib.hid hm1.out
    rw [← hm1.out] at hlen
    clear HSh HO0 HO1 hs1 ho1 hb1 hb hB s0 s1 s2 s3 s4 r0 r1 r2 r3 r4 hm1
    go_wp2_with fail
    go_loopw [13, 4] (fun x y wr => ∃ (k : Nat) (B : Option Addr) (d : Nat) (m : List Bs), k ≤ m1.length ∧ x = .int .i64 k ∧ y = .slice B m.length d ∧ Hid (m = names (m1.take k)) ∧ Ni w wr A1 c1 m1 B d m) (fun x _ w => m1.length - (intOf x).toNat)
    case atStart => exact ⟨0, _, 0, [], Nat.zero_le _, rfl, rfl, Lib.hid rfl, HNi.out⟩
    case round =>
      obtain ⟨k, B, d, m, hk, rfl, rfl, hm, hi⟩ := hrel
      have hml : m.length ≤ 100000 := by rw [hm.out]; unfold names; rw [List.length_map, List.length_take]; omega
      by_cases hlt : k < m1.length
      · obtain ⟨ad, b, o, hA, had, hc0, hc1⟩ := hi.row.at1 hlt
        have hI : (k : Int) < (m1.length : Int) := by omega
        have HX := Lib.hid (show names (m1.take (k + 1)) = names (m1.take k) ++ [m1[k].1] from by rw [List.take_succ_eq_append_getElem hlt]; unfold names; rw [List.map_append]; rfl)
        have hsz := hi.bel.size
        generalize m1[k] = x at *
        subst hA
        have hi2 := hi.alloc (.cells #[.string ⟨x.1.toArray⟩, .string ⟨x.2.toArray⟩] 186)
        have ho2 := hi2.own
        have HI := Lib.hid hi2
        clear hi2 hi
        go_wp2_with (at_builtin; go_must (refine wpl_tx rfl _ _ rfl w.heap.size B d m rfl ho2 (by omega) x.1 _ (by simp) rfl (by simp; omega) ?_); intro A5 c5 m5 w5 hm5 ho5 hg5 hp5)
        have hi6 := HI.out.grow ho5 hg5 hp5
        go_roundw
        case rel => exact ⟨k + 1, A5, c5, m5, hlt, by go_num, rfl, Lib.hid (by rw [hm5.out, hm.out, HX.out]), hi6⟩
        case measure => simp [intOf]; omega
      · have hI : (m1.length : Int) ≤ (k : Int) := by omega
        have HM := Lib.hid (show m = names sh from by rw [hm.out, List.take_of_length_le (by omega), HE.out])
        have HO := Lib.hid hi.own
        have HB := Lib.hid hi.bel
        clear hm hi
        go_wp2_with fail
        go_ret2
        exact ⟨B, d, m, by rw [HRR.out]; rfl, (show _ = _ from by rw [HRR.out]; exact HM.out), HO.out, HB.out⟩
end Go.Proofs.YtabnndjdkjkciaaGreatDoor
