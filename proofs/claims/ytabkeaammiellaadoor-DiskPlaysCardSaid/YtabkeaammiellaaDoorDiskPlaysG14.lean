/- WHAT IT HOLDS: the document's disk: written, renamed, removed, synced, walked. | WHAT IT HOLDS: maps from texts to values of any kind in memory: looked up, written, gone through. | WHAT IT HOLDS: arguments that are acts of a disk, opened to the words of Kit. -/
import Derived.Test.YtabkeaammiellaaDoorDiskPlaysG13
import Derived.Test.YtabkeaammiellaaDoorDiskPlaysG02
import Derived.Test.YtabkeaammiellaaDoorDiskPlaysG05
import Derived.Test.YtabkeaammiellaaDoorDiskPlaysG04
namespace Go.Proofs.YtabkeaammiellaaDoor
open Go.RowKit Go.Maps Go.Sort
attribute [local go_sem ↓] Go.wp_at_zero Go.wp_at_succ

section
variable {w W : World} {L : BL} {G : List (Option Nat)} {g : Nat} {t : TypeId} {a b c d e : Value}
theorem Mm.st5 (h : Mm w W L G) (j : Nat) (hj : L[j]? = some (g, t, #[a, b, c, d, e])) (x y z u v : Value) : Mm w (((((W.setCell ⟨g, 0, none⟩ x).setCell ⟨g, 1, none⟩ y).setCell ⟨g, 2, none⟩ z).setCell ⟨g, 3, none⟩ u).setCell ⟨g, 4, none⟩ v) (L.set j (g, t, #[x, y, z, u, v])) G :=
  h.turn j hj ((h.blk _ (List.mem_of_getElem? hj)).st5 _ _ _ _ _) (((((Wr.refl _ _).set_ 0 _).set_ 1 _).set_ 2 _).set_ 3 _ |>.set_ 4 _)
end
/-! ### how many, and how many bytes, there are -/
section
variable {α : Type}
theorem fused_ins (len : α → Nat) (x : Bs × α) : ∀ l : List (Bs × α), fused len (gins x l) = fused len l + len x.2
  | [] => by simp [gins, fused]
  | y :: r => by
    have ih := fused_ins len x r
    unfold gins
    split
    · unfold fused; simp; omega
    · unfold fused at *
      simp only [List.map_cons, List.sum_cons] at *
      omega
theorem gdel_none {k : Bs} {l : List (Bs × α)} (h : gget k l = none) : gdel k l = l := by
  unfold gdel
  rw [List.filter_eq_self]
  intro p hp
  simpa using gget_none.1 h p hp
theorem del_some (len : α → Nat) {k : Bs} {v : α} : ∀ {l : List (Bs × α)}, Ris l → gget k l = some v → fused len (gdel k l) + len v = fused len l ∧ (gdel k l).length + 1 = l.length
  | [], _, h => by cases h
  | y :: r, hr, h => by
    obtain ⟨h1, h2⟩ := List.pairwise_cons.1 hr
    by_cases hy : y.1 = k
    · have hn : gget k r = none := gget_none.2 fun p hp e => by
        have := h1 p hp
        rw [hy, e, bb_irrefl] at this
        cases this
      have hv : y.2 = v := by
        unfold gget at h
        rw [List.find?_cons, show (y.1 == k) = true from by simp [hy]] at h
        injection h
      have hd : gdel k (y :: r) = r := by
        have := gdel_none hn
        unfold gdel at this ⊢
        rw [List.filter_cons, if_neg (by simp [hy]), this]
      rw [hd, ← hv]
      unfold fused
      simp
      omega
    · have hg : gget k r = some v := by
        unfold gget at h ⊢
        rw [List.find?_cons, show (y.1 == k) = false from by simp [hy]] at h
        exact h
      obtain ⟨i1, i2⟩ := del_some len h2 hg
      have hd : gdel k (y :: r) = y :: gdel k r := by
        unfold gdel
        rw [List.filter_cons, if_pos (by simp [hy])]
      rw [hd]
      unfold fused at *
      simp only [List.map_cons, List.sum_cons, List.length_cons]
      omega
theorem put_count (len : α → Nat) {k : Bs} {l : List (Bs × α)} (hr : Ris l) (v : α) : (fused len (gput k v l) : Int) = fused len l - ((gget k l).map len).getD 0 + len v ∧ (gput k v l).length = l.length + (if (gget k l).isNone = true then 1 else 0) := by
  unfold gput
  rw [fused_ins, glen_ins]
  cases h : gget k l with
  | none =>
    rw [gdel_none h]
    simp
  | some u =>
    obtain ⟨h1, h2⟩ := del_some len hr h
    simp
    omega
/-- the document's answer to a write -/
theorem dWrite_doc {len : α → Nat} {d : Dk α} (hr : Ris d.sure) (hl : d.shown.length ≤ 511) (n : Bs) (v : α) : dWrite len d n v =
    if (dWorks d).2 ≠ 0 then dWorks d else if named n = false then ((dWorks d).1, 2) else if 65536 < len v then ((dWorks d).1, 3) else
    if d.room < (fused len (gput n v d.shown) : Int) then ((dWorks d).1, 5) else (dAdd (dWorks d).1 ⟨0, n, [], v⟩, 0) := by
  unfold dWrite
  obtain ⟨h1, h2⟩ := put_count len (hr.fdos d.pend) v (k := n)
  congr 1
  congr 1
  congr 1
  have e : ((gget n d.shown).isNone = true ∧ 512 ≤ d.shown.length ∨ d.room < (fused len d.shown : Int) - ((gget n d.shown).map len).getD 0 + len v) ↔ d.room < (fused len (gput n v d.shown) : Int) := by
    unfold Dk.shown at *
    rw [h1]
    constructor
    · rintro (⟨-, h⟩ | h)
      · omega
      · exact h
    · exact .inr
  simp only [e]
end
def GvK (T : Nat → Prop) (w w' : World) (e : Ending) (r : Dk Bs × Nat) : Prop := ∃ A c B k, e = .returned (.tuple #[.agg (rda r.1 A c B k), .int .i64 (r.2 : Nat)]) ∧ Rdk T w' r.1 A c B k ∧ Below w.heap.size w w'
theorem GvK.mk {T : Nat → Prop} {w w' : World} {d : Dk Bs} {n : Nat} {A B : Option Addr} {c k : Nat} (h : Rdk T w d A c B k) (hb : Below w.heap.size w w') : GvK T w w' (.returned (.tuple #[.agg (rda d A c B k), .int .i64 n])) (d, n) := ⟨A, c, B, k, rfl, h.below hb, hb⟩
def T2 (T : Nat → Prop) (g : Nat) (k : Nat) : Prop := T k ∧ k ≠ g ∧ k ≠ g + 1
theorem Okb.t2 {T : Nat → Prop} {w W : World} {A : Option Addr} (h : Okb T w A) (hs : w.heap.size ≤ W.heap.size) : Okb (T2 T w.heap.size) W A := fun k hk => by
  obtain ⟨h1, h2⟩ := h k hk
  exact ⟨⟨h1, by omega, by omega⟩, by omega⟩
theorem Okb.t1 {T : Nat → Prop} {g : Nat} {W : World} {A : Option Addr} (h : Okb (T2 T g) W A) : Okb T W A := fun k hk => ⟨(h k hk).1.1, (h k hk).2⟩
theorem Rdk.t2 {T : Nat → Prop} {w W : World} {d : Dk Bs} {A B : Option Addr} {c k : Nat} (h : Rdk T w d A c B k) (hb : Below w.heap.size w W) : Rdk (T2 T w.heap.size) W d A c B k := ⟨h.s.below hb, h.sa.t2 hb.size, h.p.below hb, h.pa.t2 hb.size⟩
/-- what lies apart from a call's own blocks stays -/
structure Sam (g : Nat) (W W' : World) : Prop where
  size : W.heap.size ≤ W'.heap.size
  block : ∀ k, k < W.heap.size → k ≠ g → k ≠ g + 1 → W'.heap[k]? = W.heap[k]?
theorem Sam.refl (g : Nat) (W : World) : Sam g W W := ⟨Nat.le_refl _, fun _ _ _ _ => rfl⟩
theorem Sam.set {g : Nat} {W W' : World} (h : Sam g W W') {j : Nat} (hj : j = g ∨ j = g + 1) (i : Nat) (v : Value) : Sam g W (W'.setCell ⟨j, i, none⟩ v) :=
  ⟨by simpa using h.size, fun k hk h1 h2 => (Below.heap_setCell W' ⟨j, i, none⟩ v k (by show k ≠ j; omega)).trans (h.block k hk h1 h2)⟩
theorem Sam.st5 {g : Nat} {W W' : World} (h : Sam g W W') {j : Nat} (hj : j = g ∨ j = g + 1) (x y z u v : Value) : Sam g W (((((W'.setCell ⟨j, 0, none⟩ x).setCell ⟨j, 1, none⟩ y).setCell ⟨j, 2, none⟩ z).setCell ⟨j, 3, none⟩ u).setCell ⟨j, 4, none⟩ v) :=
  ((((h.set hj _ _).set hj _ _).set hj _ _).set hj _ _).set hj _ _
theorem Sam.alloc {g : Nat} {W W' : World} (h : Sam g W W') (o : Obj) : Sam g W (W'.alloc o) := ⟨by have := h.size; simp; omega, fun k hk h1 h2 => ((below_new W' o).block k (Nat.lt_of_lt_of_le hk h.size)).trans (h.block k hk h1 h2)⟩
theorem Sam.call {g : Nat} {W W' W2 : World} (h : Sam g W W') (hb : Below W'.heap.size W' W2) : Sam g W W2 := ⟨Nat.le_trans h.size hb.size, fun k hk h1 h2 => (hb.block k (Nat.lt_of_lt_of_le hk h.size)).trans (h.block k hk h1 h2)⟩
theorem Okb.sam {T : Nat → Prop} {g : Nat} {W W' : World} {A : Option Addr} (h : Okb (T2 T g) W A) (hs : Sam g W W') : Okb T W' A := h.t1.below hs.size
theorem Sl.sam {T : Nat → Prop} {g size n c : Nat} {W W' : World} {A : Option Addr} {xs : List Value} (h : Sl W size A n c xs) (ha : Okb (T2 T g) W A) (hs : Sam g W W') : Sl W' size A n c xs := Sl.sameH h fun k hk => hs.block k (ha k hk).2 (ha k hk).1.2.1 (ha k hk).1.2.2
theorem Rdk.sam {T : Nat → Prop} {g : Nat} {W W' : World} {d : Dk Bs} {A B : Option Addr} {c k : Nat} (h : Rdk (T2 T g) W d A c B k) (hs : Sam g W W') : Rdk T W' d A c B k := ⟨Sl.sam h.s h.sa hs, h.sa.sam hs, Sl.sam h.p h.pa hs, h.pa.sam hs⟩
theorem T2.up {T : Nat → Prop} {w W : World} {L : BL} {G : List (Option Nat)} {t : TypeId} {cs : Array Value} (hT : ∀ k, w.heap.size ≤ k → T k) (hM : Mm w W ((w.heap.size + 1, t, cs) :: L) G) : ∀ k, W.heap.size ≤ k → T2 T w.heap.size k := fun k hk => by
  have := hM.b0.lt
  exact ⟨hT k (by omega), by omega, by omega⟩
set_option maxRecDepth 100000 in
set_option maxHeartbeats 1000000 in
theorem KSync_any {T : Nat → Prop} {A B : Option Addr} {c k : Nat} (d : Dk Bs) (w : World) (hT : ∀ k, w.heap.size ≤ k → T k) (h : Rdk T w d A c B k) (hl : d.sure.length + d.pend.length ≤ 100000) (hf : d.fuse ≤ 9223372036854775807) :
    Calls Tryd.prog 49 #[.agg (rda d A c B k)] w fun e w' => GvK T w w' e (dSync d) := by
  have hM := ((Mm.start w).alloc (rda d A c B k) 56).alloc rdz 56
  rw [show (w.alloc (.cells (rda d A c B k) 56)).heap.size = w.heap.size + 1 by simp] at hM
  have HM := Lib.hid hM
  have HD := Lib.hid h
  have HT := Lib.hid hT
  obtain ⟨g1, g2, g3, g4⟩ := dWorks_same d
  have hWk := fun W => RWorks_any (A := A) (B := B) (c := c) (k := k) d W hf
  have HWk := Lib.hid hWk
  have HDW := Lib.hid (rfl : dWorks d = dWorks d)
  clear hM h hT hWk
  unfold rda
  go_enter Tryd.func49, Tryd.ntmps49
  go_wp2_with fail
  refine (HWk.out _).mono ?_
  rintro e w3 ⟨rfl, hb3⟩
  have hM3 := HM.out.call hb3
  generalize hdw : dWorks d = dw at *
  obtain ⟨d1, n1⟩ := dw
  dsimp only at g1 g2 g3 g4
  have HR := Lib.hid (show Rdk T w d1 A c B k from ⟨by rw [g1]; exact HD.out.s, HD.out.sa, by rw [g2]; exact HD.out.p, HD.out.pa⟩)
  have HS := Lib.hid (show d1.shown = d.shown from by unfold Dk.shown; rw [g1, g2])
  have hl1 : d1.sure.length + d1.pend.length ≤ 100000 := by rw [g1, g2]; exact hl
  have G3 := Lib.hid g3
  clear g1 g2 g3
  obtain ⟨r0, r1, r2, r3, r4, rf0, rf1, rf2, rf3, rf4⟩ := hM3.b1.fiveC
  unfold rda
  clear HM hb3 HWk HDW HD
  dsimp only
  go_upto_region 2 with (fail)
  refine gen1 (T := fun W => Mm w W [(w.heap.size + 1, 56, rdz), (w.heap.size, 56, rda d1 A c B k)] []) (hM3.st5 1 rfl _ _ _ _ _) (fun w4 hM4 => ?_)
  clear r0 r1 r2 r3 r4 rf0 rf1 rf2 rf3 rf4 hM3
  rcases g4 with h0 | h0
  · subst h0
    have HX := Lib.hid (show dSync d = ({ d1 with sure := d1.shown, pend := [] }, 0) from by unfold dSync; rw [hdw, HS.out]; rfl)
    have HSh := Lib.hid (RShown_any (d := d1) w4 (T2.up HT.out hM4) (HR.out.t2 hM4.bel) hl1)
    obtain ⟨r0, r1, r2, r3, r4, rf0, rf1, rf2, rf3, rf4⟩ := (hM4).b0.fiveC
    obtain ⟨b0, b1, b2, b3, b4, bf0, bf1, bf2, bf3, bf4⟩ := (hM4).b1.fiveC
    go_wp2_with fail
    refine HSh.out.mono ?_
    rintro e w5 ⟨A5, c5, m5, rfl, hm5, hs5, ho5, hb5⟩
    have hM5 := hM4.call hb5
    clear HSh r0 r1 r2 r3 r4 rf0 rf1 rf2 rf3 rf4 b0 b1 b2 b3 b4 bf0 bf1 bf2 bf3 bf4
    obtain ⟨r0, r1, r2, r3, r4, rf0, rf1, rf2, rf3, rf4⟩ := (hM5).b0.fiveC
    obtain ⟨b0, b1, b2, b3, b4, bf0, bf1, bf2, bf3, bf4⟩ := (hM5).b1.fiveC
    obtain rfl := hm5.out
    have HS5 := Lib.hid (((((Sam.refl w.heap.size w5).set (.inl rfl) 1 (.slice A5 d1.shown.length c5)).set (.inl rfl) 2 (.slice none 0 0)).st5 (.inr rfl) (.int .i64 d1.room) (.slice A5 d1.shown.length c5) (.slice none 0 0) (.int .i64 d1.fuse) (.bool d1.down)))
    have HB5 := Lib.hid (bel_st5 (bel_set (bel_set hM5.bel (p := ⟨w.heap.size, 1, none⟩) (Nat.le_refl _) (.slice A5 d1.shown.length c5)) (p := ⟨w.heap.size, 2, none⟩) (Nat.le_refl _) (.slice none 0 0)) (g := w.heap.size + 1) (by omega) (.int .i64 d1.room) (.slice A5 d1.shown.length c5) (.slice none 0 0) (.int .i64 d1.fuse) (.bool d1.down))
    have HA := Lib.hid hs5
    have HO := Lib.hid ho5
    clear hs5 ho5
    go_wp2_with fail
    exact bodyPost_ret (res_k2 rfl rfl (g := w.heap.size + 1) (((hM5.set 1 1 _ rfl).set 1 2 _ rfl).b0.st5 _ _ _ _ _)) rfl (by rw [HX.out]; exact ⟨A5, c5, none, 0, rfl, ⟨Sl.sam HA.out HO.out HS5.out, HO.out.sam HS5.out, Sl.none_ _ _, fun k hk => by cases hk⟩, HB5.out⟩)
  · subst h0
    have HX := Lib.hid (show dSync d = (d1, 14) from by unfold dSync; rw [hdw]; rfl)
    have HE0 : ∀ (w' : World), Below w.heap.size w w' → GvK T w w' (.returned (.tuple #[.agg (rda d1 A c B k), .int .i64 (14 : Nat)])) (d1, 14) := fun w' hb => GvK.mk HR.out hb
    have HE := Lib.hid HE0
    clear HE0
    obtain ⟨r0, r1, r2, r3, r4, rf0, rf1, rf2, rf3, rf4⟩ := (hM4).b0.fiveC
    obtain ⟨b0, b1, b2, b3, b4, bf0, bf1, bf2, bf3, bf4⟩ := (hM4).b1.fiveC
    go_wp2_with fail
    exact bodyPost_ret (res_k2 rfl rfl (g := w.heap.size + 1) (hM4.b0.st5 _ _ _ _ _)) rfl (by rw [HX.out]; exact HE.out _ (bel_st5 hM4.bel (Nat.le_succ _) _ _ _ _ _))
set_option maxRecDepth 100000 in
set_option maxHeartbeats 1000000 in
theorem KRemove_any {T : Nat → Prop} {A B : Option Addr} {c k : Nat} (d : Dk Bs) (n : Bs) (w : World) (hT : ∀ k, w.heap.size ≤ k → T k) (h : Rdk T w d A c B k) (hl : d.sure.length + d.pend.length ≤ 100000) (hf : d.fuse ≤ 9223372036854775807) (hn : n.length ≤ 4611686018427387904) :
    Calls Tryd.prog 48 #[.agg (rda d A c B k), .string ⟨n.toArray⟩] w fun e w' => GvK T w w' e (dRemove ([] : Bs) d n) := by
  have hM := ((Mm.start w).alloc (rda d A c B k) 56).alloc rdz 56
  rw [show (w.alloc (.cells (rda d A c B k) 56)).heap.size = w.heap.size + 1 by simp] at hM
  have HM := Lib.hid hM
  have HD := Lib.hid h
  have HT := Lib.hid hT
  obtain ⟨g1, g2, g3, g4⟩ := dWorks_same d
  have hWk := fun W => RWorks_any (A := A) (B := B) (c := c) (k := k) d W hf
  have HWk := Lib.hid hWk
  have HDW := Lib.hid (rfl : dWorks d = dWorks d)
  clear hM h hT hWk
  unfold rda
  go_enter Tryd.func48, Tryd.ntmps48
  go_wp2_with fail
  refine (HWk.out _).mono ?_
  rintro e w3 ⟨rfl, hb3⟩
  have hM3 := HM.out.call hb3
  generalize hdw : dWorks d = dw at *
  obtain ⟨d1, n1⟩ := dw
  dsimp only at g1 g2 g3 g4
  have HR := Lib.hid (show Rdk T w d1 A c B k from ⟨by rw [g1]; exact HD.out.s, HD.out.sa, by rw [g2]; exact HD.out.p, HD.out.pa⟩)
  have HS := Lib.hid (show d1.shown = d.shown from by unfold Dk.shown; rw [g1, g2])
  have hl1 : d1.sure.length + d1.pend.length ≤ 100000 := by rw [g1, g2]; exact hl
  have G3 := Lib.hid g3
  clear g1 g2 g3
  obtain ⟨r0, r1, r2, r3, r4, rf0, rf1, rf2, rf3, rf4⟩ := hM3.b1.fiveC
  unfold rda
  clear HM hb3 HWk HDW HD
  dsimp only
  go_upto_region 2 with (fail)
  refine gen1 (T := fun W => Mm w W [(w.heap.size + 1, 56, rdz), (w.heap.size, 56, rda d1 A c B k)] []) (hM3.st5 1 rfl _ _ _ _ _) (fun w4 hM4 => ?_)
  clear r0 r1 r2 r3 r4 rf0 rf1 rf2 rf3 rf4 hM3
  rcases g4 with h0 | h0
  · subst h0
    have HN := Lib.hid (fun W => RNamed_any n W hn)
    obtain ⟨r0, r1, r2, r3, r4, rf0, rf1, rf2, rf3, rf4⟩ := (hM4).b0.fiveC
    obtain ⟨b0, b1, b2, b3, b4, bf0, bf1, bf2, bf3, bf4⟩ := (hM4).b1.fiveC
    go_wp2_with fail
    refine (HN.out _).mono ?_
    rintro e w5 ⟨rfl, hb5⟩
    have hM5 := hM4.call hb5
    clear r0 r1 r2 r3 r4 rf0 rf1 rf2 rf3 rf4 b0 b1 b2 b3 b4 bf0 bf1 bf2 bf3 bf4
    clear HN hb5 hM4
    cases hnm : named n with
    | false =>
      have HX := Lib.hid (show dRemove ([] : Bs) d n = (d1, 2) from by unfold dRemove; rw [hdw, if_neg (by simp), if_pos hnm])
      obtain ⟨r0, r1, r2, r3, r4, rf0, rf1, rf2, rf3, rf4⟩ := (hM5).b0.fiveC
      obtain ⟨b0, b1, b2, b3, b4, bf0, bf1, bf2, bf3, bf4⟩ := (hM5).b1.fiveC
      have HE := Lib.hid (GvK.mk (n := 2) HR.out (bel_st5 (hM5).bel (g := w.heap.size + 1) (by omega) (.int .i64 d1.room) (.slice A d1.sure.length c) (.slice B d1.pend.length k) (.int .i64 d1.fuse) (.bool d1.down)))
      go_wp2_with fail
      exact bodyPost_ret (res_k2 rfl rfl (g := w.heap.size + 1) ((hM5).b0.st5 _ _ _ _ _)) rfl (by rw [HX.out]; exact HE.out)
    | true =>
      have HSh := Lib.hid (RShown_any (d := d1) w5 (T2.up HT.out hM5) (HR.out.t2 hM5.bel) hl1)
      obtain ⟨r0, r1, r2, r3, r4, rf0, rf1, rf2, rf3, rf4⟩ := (hM5).b0.fiveC
      obtain ⟨b0, b1, b2, b3, b4, bf0, bf1, bf2, bf3, bf4⟩ := (hM5).b1.fiveC
      go_wp2_with fail
      refine HSh.out.mono ?_
      rintro e w6 ⟨A6, c6, m6, rfl, hm6, hs6, ho6, hb6⟩
      have hM6 := hM5.call hb6
      have HF := Lib.hid (RFind_any n w6 hs6)
      obtain rfl := hm6.out
      clear r0 r1 r2 r3 r4 rf0 rf1 rf2 rf3 rf4 b0 b1 b2 b3 b4 bf0 bf1 bf2 bf3 bf4
      clear HSh hb6 hM5 ho6 hs6
      go_wp2_with fail
      refine HF.out.mono ?_
      rintro e w7 ⟨rfl, hb7⟩
      have hM7 := hM6.call hb7
      clear HF hb7 hM6
      rcases rfind_gget n d1.shown with ⟨hg, hr⟩ | ⟨v, i, hi, hg, hr, -⟩
      · rw [hr]
        have HX := Lib.hid (show dRemove ([] : Bs) d n = (d1, 4) from by unfold dRemove; rw [hdw, if_neg (by simp), if_neg (by simp [hnm]), ← HS.out, hg]; rfl)
        obtain ⟨r0, r1, r2, r3, r4, rf0, rf1, rf2, rf3, rf4⟩ := (hM7).b0.fiveC
        obtain ⟨b0, b1, b2, b3, b4, bf0, bf1, bf2, bf3, bf4⟩ := (hM7).b1.fiveC
        clear hg hr
        have HE := Lib.hid (GvK.mk (n := 4) HR.out (bel_st5 (hM7).bel (g := w.heap.size + 1) (by omega) (.int .i64 d1.room) (.slice A d1.sure.length c) (.slice B d1.pend.length k) (.int .i64 d1.fuse) (.bool d1.down)))
        go_wp2_with fail
        exact bodyPost_ret (res_k2 rfl rfl (g := w.heap.size + 1) ((hM7).b0.st5 _ _ _ _ _)) rfl (by rw [HX.out]; exact HE.out)
      · rw [hr]
        have HX := Lib.hid (show dRemove ([] : Bs) d n = (dAdd d1 ⟨2, n, [], []⟩, 0) from by unfold dRemove; rw [hdw, if_neg (by simp), if_neg (by simp [hnm]), ← HS.out, hg]; rfl)
        have hi0 : ¬ ((i : Int) < 0) := by omega
        obtain ⟨r0, r1, r2, r3, r4, rf0, rf1, rf2, rf3, rf4⟩ := (hM7).b0.fiveC
        obtain ⟨b0, b1, b2, b3, b4, bf0, bf1, bf2, bf3, bf4⟩ := (hM7).b1.fiveC
        clear hg hr
        have HAd := Lib.hid (RAdd_any (T := T2 T w.heap.size) (A := A) (c := c) d1 ⟨2, n, [], []⟩ _ (T2.up HT.out hM7) (HR.out.p.below (hM7).bel) (by omega))
        go_wp2_with fail
        refine HAd.out.mono ?_
        rintro e w9 ⟨B9, k9, rfl, hs9, ho9, hb9⟩
        have hM9 := (hM7).call hb9
        clear HAd
        clear r0 r1 r2 r3 r4 rf0 rf1 rf2 rf3 rf4 b0 b1 b2 b3 b4 bf0 bf1 bf2 bf3 bf4
        obtain ⟨r0, r1, r2, r3, r4, rf0, rf1, rf2, rf3, rf4⟩ := (hM9).b0.fiveC
        obtain ⟨b0, b1, b2, b3, b4, bf0, bf1, bf2, bf3, bf4⟩ := (hM9).b1.fiveC
        have HR9 := Lib.hid (show Rdk (T2 T w.heap.size) w9 (dAdd d1 ⟨2, n, [], []⟩) A c B9 k9 from ⟨HR.out.s.below hM9.bel, HR.out.sa.t2 hM9.bel.size, hs9, ho9⟩)
        generalize dAdd d1 ⟨2, n, [], []⟩ = d9 at *
        have HS9 := Lib.hid ((Sam.refl w.heap.size w9).st5 (.inr rfl) (.int .i64 d9.room) (.slice A d9.sure.length c) (.slice B9 d9.pend.length k9) (.int .i64 d9.fuse) (.bool d9.down))
        have HB9 := Lib.hid (bel_st5 hM9.bel (g := w.heap.size + 1) (by omega) (.int .i64 d9.room) (.slice A d9.sure.length c) (.slice B9 d9.pend.length k9) (.int .i64 d9.fuse) (.bool d9.down))
        clear hs9 ho9 hb9
        unfold rda
        go_wp2_with fail
        exact bodyPost_ret (res_k2 rfl rfl (g := w.heap.size + 1) (hM9.b0.st5 _ _ _ _ _)) rfl (by rw [HX.out]; exact ⟨A, c, B9, k9, rfl, HR9.out.sam HS9.out, HB9.out⟩)
  · subst h0
    have HX := Lib.hid (show dRemove ([] : Bs) d n = (d1, 14) from by unfold dRemove; rw [hdw]; rfl)
    obtain ⟨r0, r1, r2, r3, r4, rf0, rf1, rf2, rf3, rf4⟩ := (hM4).b0.fiveC
    obtain ⟨b0, b1, b2, b3, b4, bf0, bf1, bf2, bf3, bf4⟩ := (hM4).b1.fiveC
    have HE := Lib.hid (GvK.mk (n := 14) HR.out (bel_st5 (hM4).bel (g := w.heap.size + 1) (by omega) (.int .i64 d1.room) (.slice A d1.sure.length c) (.slice B d1.pend.length k) (.int .i64 d1.fuse) (.bool d1.down)))
    go_wp2_with fail
    exact bodyPost_ret (res_k2 rfl rfl (g := w.heap.size + 1) ((hM4).b0.st5 _ _ _ _ _)) rfl (by rw [HX.out]; exact HE.out)
set_option maxRecDepth 100000 in
set_option maxHeartbeats 1000000 in
theorem KRename_any {T : Nat → Prop} {A B : Option Addr} {c k : Nat} (d : Dk Bs) (n t : Bs) (w : World) (hT : ∀ k, w.heap.size ≤ k → T k) (h : Rdk T w d A c B k) (hl : d.sure.length + d.pend.length ≤ 100000) (hf : d.fuse ≤ 9223372036854775807) (hn : n.length ≤ 4611686018427387904) (ht : t.length ≤ 4611686018427387904) :
    Calls Tryd.prog 47 #[.agg (rda d A c B k), .string ⟨n.toArray⟩, .string ⟨t.toArray⟩] w fun e w' => GvK T w w' e (dRename ([] : Bs) d n t) := by
  have hM := ((Mm.start w).alloc (rda d A c B k) 56).alloc rdz 56
  rw [show (w.alloc (.cells (rda d A c B k) 56)).heap.size = w.heap.size + 1 by simp] at hM
  have HM := Lib.hid hM
  have HD := Lib.hid h
  have HT := Lib.hid hT
  obtain ⟨g1, g2, g3, g4⟩ := dWorks_same d
  have hWk := fun W => RWorks_any (A := A) (B := B) (c := c) (k := k) d W hf
  have HWk := Lib.hid hWk
  have HDW := Lib.hid (rfl : dWorks d = dWorks d)
  clear hM h hT hWk
  unfold rda
  go_enter Tryd.func47, Tryd.ntmps47
  go_wp2_with fail
  refine (HWk.out _).mono ?_
  rintro e w3 ⟨rfl, hb3⟩
  have hM3 := HM.out.call hb3
  generalize hdw : dWorks d = dw at *
  obtain ⟨d1, n1⟩ := dw
  dsimp only at g1 g2 g3 g4
  have HR := Lib.hid (show Rdk T w d1 A c B k from ⟨by rw [g1]; exact HD.out.s, HD.out.sa, by rw [g2]; exact HD.out.p, HD.out.pa⟩)
  have HS := Lib.hid (show d1.shown = d.shown from by unfold Dk.shown; rw [g1, g2])
  have hl1 : d1.sure.length + d1.pend.length ≤ 100000 := by rw [g1, g2]; exact hl
  have G3 := Lib.hid g3
  clear g1 g2 g3
  obtain ⟨r0, r1, r2, r3, r4, rf0, rf1, rf2, rf3, rf4⟩ := hM3.b1.fiveC
  unfold rda
  clear HM hb3 HWk HDW HD
  dsimp only
  go_upto_region 2 with (fail)
  refine gen1 (T := fun W => Mm w W [(w.heap.size + 1, 56, rdz), (w.heap.size, 56, rda d1 A c B k)] []) (hM3.st5 1 rfl _ _ _ _ _) (fun w4 hM4 => ?_)
  clear r0 r1 r2 r3 r4 rf0 rf1 rf2 rf3 rf4 hM3
  rcases g4 with h0 | h0
  · subst h0
    have HN := Lib.hid (fun W => RNamed_any n W hn)
    have HN2 := Lib.hid (fun W => RNamed_any t W ht)
    obtain ⟨r0, r1, r2, r3, r4, rf0, rf1, rf2, rf3, rf4⟩ := (hM4).b0.fiveC
    obtain ⟨b0, b1, b2, b3, b4, bf0, bf1, bf2, bf3, bf4⟩ := (hM4).b1.fiveC
    go_wp2_with fail
    refine (HN.out _).mono ?_
    rintro e w5 ⟨rfl, hb5⟩
    have hM5 := hM4.call hb5
    clear r0 r1 r2 r3 r4 rf0 rf1 rf2 rf3 rf4 b0 b1 b2 b3 b4 bf0 bf1 bf2 bf3 bf4
    clear HN hb5 hM4
    cases hnm : named n with
    | false =>
      have HX := Lib.hid (show dRename ([] : Bs) d n t = (d1, 2) from by unfold dRename; rw [hdw, if_neg (by simp), if_pos (.inl hnm)])
      obtain ⟨r0, r1, r2, r3, r4, rf0, rf1, rf2, rf3, rf4⟩ := (hM5).b0.fiveC
      obtain ⟨b0, b1, b2, b3, b4, bf0, bf1, bf2, bf3, bf4⟩ := (hM5).b1.fiveC
      have HE := Lib.hid (GvK.mk (n := 2) HR.out (bel_st5 (hM5).bel (g := w.heap.size + 1) (by omega) (.int .i64 d1.room) (.slice A d1.sure.length c) (.slice B d1.pend.length k) (.int .i64 d1.fuse) (.bool d1.down)))
      go_wp2_with fail
      exact bodyPost_ret (res_k2 rfl rfl (g := w.heap.size + 1) ((hM5).b0.st5 _ _ _ _ _)) rfl (by rw [HX.out]; exact HE.out)
    | true =>
      obtain ⟨r0, r1, r2, r3, r4, rf0, rf1, rf2, rf3, rf4⟩ := (hM5).b0.fiveC
      obtain ⟨b0, b1, b2, b3, b4, bf0, bf1, bf2, bf3, bf4⟩ := (hM5).b1.fiveC
      go_wp2_with fail
      refine (HN2.out _).mono ?_
      rintro e w5b ⟨rfl, hb5⟩
      replace hM5 := hM5.call hb5
      clear r0 r1 r2 r3 r4 rf0 rf1 rf2 rf3 rf4 b0 b1 b2 b3 b4 bf0 bf1 bf2 bf3 bf4
      clear HN2 hb5
      cases hnt : named t with
      | false =>
        have HX := Lib.hid (show dRename ([] : Bs) d n t = (d1, 2) from by unfold dRename; rw [hdw, if_neg (by simp), if_pos (.inr hnt)])
        obtain ⟨r0, r1, r2, r3, r4, rf0, rf1, rf2, rf3, rf4⟩ := (hM5).b0.fiveC
        obtain ⟨b0, b1, b2, b3, b4, bf0, bf1, bf2, bf3, bf4⟩ := (hM5).b1.fiveC
        have HE := Lib.hid (GvK.mk (n := 2) HR.out (bel_st5 (hM5).bel (g := w.heap.size + 1) (by omega) (.int .i64 d1.room) (.slice A d1.sure.length c) (.slice B d1.pend.length k) (.int .i64 d1.fuse) (.bool d1.down)))
        go_wp2_with fail
        exact bodyPost_ret (res_k2 rfl rfl (g := w.heap.size + 1) ((hM5).b0.st5 _ _ _ _ _)) rfl (by rw [HX.out]; exact HE.out)
      | true =>
        have HSh := Lib.hid (RShown_any (d := d1) _ (T2.up HT.out hM5) (HR.out.t2 hM5.bel) hl1)
        obtain ⟨r0, r1, r2, r3, r4, rf0, rf1, rf2, rf3, rf4⟩ := (hM5).b0.fiveC
        obtain ⟨b0, b1, b2, b3, b4, bf0, bf1, bf2, bf3, bf4⟩ := (hM5).b1.fiveC
        go_wp2_with fail
        refine HSh.out.mono ?_
        rintro e w6 ⟨A6, c6, m6, rfl, hm6, hs6, ho6, hb6⟩
        have hM6 := hM5.call hb6
        have HF := Lib.hid (RFind_any n w6 hs6)
        obtain rfl := hm6.out
        clear r0 r1 r2 r3 r4 rf0 rf1 rf2 rf3 rf4 b0 b1 b2 b3 b4 bf0 bf1 bf2 bf3 bf4
        clear HSh hb6 hM5 ho6 hs6
        go_wp2_with fail
        refine HF.out.mono ?_
        rintro e w7 ⟨rfl, hb7⟩
        have hM7 := hM6.call hb7
        clear HF hb7 hM6
        rcases rfind_gget n d1.shown with ⟨hg, hr⟩ | ⟨v, i, hi, hg, hr, -⟩
        · rw [hr]
          have HX := Lib.hid (show dRename ([] : Bs) d n t = (d1, 4) from by unfold dRename; rw [hdw, if_neg (by simp), if_neg (by simp [hnm, hnt]), ← HS.out, hg]; rfl)
          obtain ⟨r0, r1, r2, r3, r4, rf0, rf1, rf2, rf3, rf4⟩ := (hM7).b0.fiveC
          obtain ⟨b0, b1, b2, b3, b4, bf0, bf1, bf2, bf3, bf4⟩ := (hM7).b1.fiveC
          clear hg hr
          have HE := Lib.hid (GvK.mk (n := 4) HR.out (bel_st5 (hM7).bel (g := w.heap.size + 1) (by omega) (.int .i64 d1.room) (.slice A d1.sure.length c) (.slice B d1.pend.length k) (.int .i64 d1.fuse) (.bool d1.down)))
          go_wp2_with fail
          exact bodyPost_ret (res_k2 rfl rfl (g := w.heap.size + 1) ((hM7).b0.st5 _ _ _ _ _)) rfl (by rw [HX.out]; exact HE.out)
        · rw [hr]
          have HX := Lib.hid (show dRename ([] : Bs) d n t = (dAdd d1 ⟨1, n, t, []⟩, 0) from by unfold dRename; rw [hdw, if_neg (by simp), if_neg (by simp [hnm, hnt]), ← HS.out, hg]; rfl)
          have hi0 : ¬ ((i : Int) < 0) := by omega
          obtain ⟨r0, r1, r2, r3, r4, rf0, rf1, rf2, rf3, rf4⟩ := (hM7).b0.fiveC
          obtain ⟨b0, b1, b2, b3, b4, bf0, bf1, bf2, bf3, bf4⟩ := (hM7).b1.fiveC
          clear hg hr
          have HAd := Lib.hid (RAdd_any (T := T2 T w.heap.size) (A := A) (c := c) d1 ⟨1, n, t, []⟩ _ (T2.up HT.out hM7) (HR.out.p.below (hM7).bel) (by omega))
          go_wp2_with fail
          refine HAd.out.mono ?_
          rintro e w9 ⟨B9, k9, rfl, hs9, ho9, hb9⟩
          have hM9 := (hM7).call hb9
          clear HAd
          clear r0 r1 r2 r3 r4 rf0 rf1 rf2 rf3 rf4 b0 b1 b2 b3 b4 bf0 bf1 bf2 bf3 bf4
          obtain ⟨r0, r1, r2, r3, r4, rf0, rf1, rf2, rf3, rf4⟩ := (hM9).b0.fiveC
          obtain ⟨b0, b1, b2, b3, b4, bf0, bf1, bf2, bf3, bf4⟩ := (hM9).b1.fiveC
          have HR9 := Lib.hid (show Rdk (T2 T w.heap.size) w9 (dAdd d1 ⟨1, n, t, []⟩) A c B9 k9 from ⟨HR.out.s.below hM9.bel, HR.out.sa.t2 hM9.bel.size, hs9, ho9⟩)
          generalize dAdd d1 ⟨1, n, t, []⟩ = d9 at *
          have HS9 := Lib.hid ((Sam.refl w.heap.size w9).st5 (.inr rfl) (.int .i64 d9.room) (.slice A d9.sure.length c) (.slice B9 d9.pend.length k9) (.int .i64 d9.fuse) (.bool d9.down))
          have HB9 := Lib.hid (bel_st5 hM9.bel (g := w.heap.size + 1) (by omega) (.int .i64 d9.room) (.slice A d9.sure.length c) (.slice B9 d9.pend.length k9) (.int .i64 d9.fuse) (.bool d9.down))
          clear hs9 ho9 hb9
          unfold rda
          go_wp2_with fail
          exact bodyPost_ret (res_k2 rfl rfl (g := w.heap.size + 1) (hM9.b0.st5 _ _ _ _ _)) rfl (by rw [HX.out]; exact ⟨A, c, B9, k9, rfl, HR9.out.sam HS9.out, HB9.out⟩)
  · subst h0
    have HX := Lib.hid (show dRename ([] : Bs) d n t = (d1, 14) from by unfold dRename; rw [hdw]; rfl)
    obtain ⟨r0, r1, r2, r3, r4, rf0, rf1, rf2, rf3, rf4⟩ := (hM4).b0.fiveC
    obtain ⟨b0, b1, b2, b3, b4, bf0, bf1, bf2, bf3, bf4⟩ := (hM4).b1.fiveC
    have HE := Lib.hid (GvK.mk (n := 14) HR.out (bel_st5 (hM4).bel (g := w.heap.size + 1) (by omega) (.int .i64 d1.room) (.slice A d1.sure.length c) (.slice B d1.pend.length k) (.int .i64 d1.fuse) (.bool d1.down)))
    go_wp2_with fail
    exact bodyPost_ret (res_k2 rfl rfl (g := w.heap.size + 1) ((hM4).b0.st5 _ _ _ _ _)) rfl (by rw [HX.out]; exact HE.out)
end Go.Proofs.YtabkeaammiellaaDoor

namespace Go.Proofs.YtabkeaammiellaaDoor
open Go.RowKit Go.Maps Go.Sort
attribute [local go_sem ↓] Go.wp_at_zero Go.wp_at_succ

section
variable {β : Type}
def datF (f : β → Value) (l : List (Bs × β)) : DataW Value := .map (l.map fun p => (.string p.1, .held (f p.2)))
theorem datF_put (f : β → Value) (k : Bs) (s : β) (l : List (Bs × β)) : (datF f l).put (.string k) (.held (f s)) = datF f (gput k s l) := by
  unfold datF gput gdel
  rw [DataW.put_eq]
  unfold ChangeMaps.putKey
  congr 1
  rw [List.filter_map]
  have hf : (ChangeMaps.notKey (Lit.string k) ∘ fun p : Bs × β => ((Lit.string p.1, DataW.held (f p.2)) : Lit × DataW Value)) = fun p => !(p.1 == k) := rfl
  rw [hf]
  generalize List.filter (fun p : Bs × β => !(p.1 == k)) l = r
  induction r with
  | nil => rfl
  | cons y r ih =>
    show (if (Lit.string k).before (.string y.1) = true then _ else _) = List.map _ (if bytesBefore k y.1 = true then _ else _)
    rw [show (Lit.string k).before (.string y.1) = bytesBefore k y.1 from rfl]
    split
    · rfl
    · rw [List.map_cons, ← ih]
theorem datF_at (f : β → Value) (k : Bs) (l : List (Bs × β)) (z : Value) : (datF f l).atKey (.string k) (.held z) = .held (((gget k l).map f).getD z) := by
  unfold datF gget DataW.atKey
  dsimp only
  rw [List.find?_map]
  have hf : ((fun p : Lit × DataW Value => p.1.sameKey (Lit.string k)) ∘ fun p : Bs × β => ((Lit.string p.1, DataW.held (f p.2)) : Lit × DataW Value)) = fun p => p.1 == k := rfl
  rw [hf]
  cases l.find? (fun p => p.1 == k) <;> rfl
theorem datF_has (f : β → Value) (k : Bs) (l : List (Bs × β)) : Maps.has (datF f l) (.string k) = (gget k l).isSome := by
  unfold datF gget
  rw [Maps.has_eq]
  induction l with
  | nil => rfl
  | cons y r ih =>
    rw [List.map_cons, List.any_cons, List.find?_cons]
    show (y.1 == k || _) = _
    cases hy : y.1 == k
    · rw [Bool.false_or]; exact ih
    · rfl
theorem datF_at_mem {f : β → Value} {k : Bs} {l : List (Bs × β)} {y : DataW Value} (h : ∀ zd, (datF f l).atKey (.string k) zd = y) : ∃ s, (k, s) ∈ l ∧ y = .held (f s) := by
  cases hg : gget k l with
  | none =>
    have hz : ∀ zd, (datF f l).atKey (.string k) zd = zd := fun zd => by
      unfold datF DataW.atKey
      dsimp only
      rw [List.find?_map]
      have hf : ((fun p : Lit × DataW Value => p.1.sameKey (Lit.string k)) ∘ fun p : Bs × β => ((Lit.string p.1, DataW.held (f p.2)) : Lit × DataW Value)) = fun p => p.1 == k := rfl
      rw [hf]
      unfold gget at hg
      rw [Option.map_eq_none_iff] at hg
      rw [hg]
      rfl
    have h1 := h .nil
    have h2 := h (.agg [])
    rw [hz] at h1 h2
    rw [← h1] at h2
    cases h2
  | some s =>
    refine ⟨s, gget_mem hg, ?_⟩
    rw [← h (.held (.slice none 0 0)), datF_at, hg]
    rfl
/-- block b is a map that holds l, its elements as f lays them -/
def OmF (f : β → Value) (P : Program) (K : TypeId) (w : World) (b : Nat) (l : List (Bs × β)) : Prop := w.ownsMap P K tok b l.length (datF f l)
variable {f : β → Value} {P : Program} {K T E : TypeId} {w w' : World} {b n : Nat} {l : List (Bs × β)}
theorem OmF.of (h : w.ownsMap P K tok b n (datF f l)) : OmF f P K w b l := by
  obtain ⟨es, clock, hb, F, _, hD⟩ := h
  refine ⟨es, clock, hb, F, ?_, hD⟩
  have h1 : (datF f l) = .map (l.map fun p => (.string p.1, .held (f p.2))) := rfl
  rw [h1] at hD
  injection hD with hD
  have h2 := congrArg List.length hD
  rw [length_sorted] at h2
  simp at h2
  omega
theorem OmF.lt (h : OmF f P K w b l) : b < w.heap.size := World.ownsMap.lt h
theorem OmF.same (h : OmF f P K w b l) (e : w'.heap[b]? = w.heap[b]?) : OmF f P K w' b l := by
  obtain ⟨es, clock, hb, r⟩ := h
  exact ⟨es, clock, e.trans hb, r⟩
theorem OmF.below (h : OmF f P K w b l) (hb : Below w.heap.size w w') : OmF f P K w' b l := h.same (hb.block b h.lt)
theorem OmF.new (w : World) : OmF f P K (w.alloc (.map #[] 0)) w.heap.size [] := World.ownsMap_made w P K tok
theorem OmF.look (h : OmF f P K w b l) (hK : P.underlying K = some .string) (hT : P.underlying T = some (.map K E)) {z : Value} (hz : (zeroValue E).run P w = .ok z w) {k : Bs} (hk : k.length ≤ maxLen) :
    (Instr.lookup T (.map (some b)) (.string ⟨k.toArray⟩) true).run P w = .ok (.tuple #[((gget k l).map f).getD z, .bool (gget k l).isSome]) w := by
  obtain ⟨v, ps, hrun, hv⟩ := World.ownsMap.look_ok h (string_keyed hK) hT hz (zd := .held z) (zp := []) rfl (key := .string ⟨k.toArray⟩) (kl := .string k) (key_str hK hk)
  rw [datF_at, datF_has] at *
  unfold tok at hv
  injection hv with hv
  injection hv with hv
  injection hv with hv
  subst hv
  exact hrun
theorem OmF.look1 (h : OmF f P K w b l) (hK : P.underlying K = some .string) (hT : P.underlying T = some (.map K E)) {z : Value} (hz : (zeroValue E).run P w = .ok z w) {k : Bs} (hk : k.length ≤ maxLen) :
    (Instr.lookup T (.map (some b)) (.string ⟨k.toArray⟩) false).run P w = .ok (((gget k l).map f).getD z) w := by
  obtain ⟨v, ps, hrun, hv⟩ := World.ownsMap.lookup h (string_keyed hK) hT hz (zd := .held z) (zp := []) rfl (key := .string ⟨k.toArray⟩) (kl := .string k) (key_str hK hk)
  rw [datF_at] at hv
  unfold tok at hv
  injection hv with hv
  injection hv with hv
  injection hv with hv
  subst hv
  exact hrun
theorem OmF.store (h : OmF f P K w b l) (hK : P.underlying K = some .string) (hT : P.underlying T = some (.map K E)) (hn : l.length < maxLen) {k : Bs} (hk : k.length ≤ maxLen) (s : β) :
    ∃ w', (Instr.mapUpdate T (.map (some b)) (.string ⟨k.toArray⟩) (f s)).run P w = .ok () w' ∧ OmF f P K w' b (gput k s l) ∧ w.grownBy w' (some b) := by
  obtain ⟨w', hrun, h1, h2⟩ := World.ownsMap.store h (string_keyed hK) hT hn (key := .string ⟨k.toArray⟩) (val := f s) (kl := .string k) (d := .held (f s)) (ps := []) (key_str hK hk) rfl
  rw [datF_put] at h1
  exact ⟨w', hrun, OmF.of h1, h2.grown⟩
variable {ops : Array Oper} {rest : List Oper} {o : Oper} {a : Act} {Q : Exit → Act → World → Prop}
theorem wpl_putF (hg : o.guard = none) (m x v : Operand) (hop : o.op = Op.mapUpdate T m x v) (hK : P.underlying K = some .string) (hT : P.underlying T = some (.map K E)) (b : Nat) (l : List (Bs × β)) (hm : a.eval m = .map (some b)) (h : OmF f P K w b l) (hn : l.length < maxLen)
    (k : Bs) (hk : k.length ≤ maxLen) (hx : a.eval x = .string ⟨k.toArray⟩) (s : β) (hv : a.eval v = f s) (hC : ∀ w', OmF f P K w' b (gput k s l) → w.grownBy w' (some b) → wpList P ops Q rest (a.put o.dst undef) w') : wpList P ops Q (o :: rest) a w := by
  refine wpList_plain hg fun K' hK' => ?_
  obtain ⟨w', hrun, r1, r2⟩ := h.store hK hT hn hk s
  unfold Oper.wp
  simp [execOp, hop, hm, hx, hv, hrun, Result.andThen]
  exact hK' _ _ (hC w' r1 r2)
theorem step_putF {K' : Act → World → Prop} {X : Prop} (hw : Region.wanted o (yielded ops a.tmps) = true) (m x v : Operand) (hop : o.op = Op.mapUpdate T m x v) (hK : P.underlying K = some .string) (hT : P.underlying T = some (.map K E)) (b : Nat) (l : List (Bs × β)) (hm : a.eval m = .map (some b)) (h : OmF f P K w b l) (hn : l.length < maxLen)
    (k : Bs) (hk : k.length ≤ maxLen) (hx : a.eval x = .string ⟨k.toArray⟩) (s : β) (hv : a.eval v = f s) (hC : ∀ w', OmF f P K w' b (gput k s l) → w.grownBy w' (some b) → K' (a.put o.dst undef) w') :
    if Region.wanted o (yielded ops a.tmps) = true then Oper.wp P o a w K' Q else X := by
  rw [if_pos hw]
  obtain ⟨w', hrun, r1, r2⟩ := h.store hK hT hn hk s
  unfold Oper.wp
  simp [execOp, hop, hm, hx, hv, hrun, Result.andThen]
  exact hC w' r1 r2
end
end Go.Proofs.YtabkeaammiellaaDoor

namespace Go.Proofs.YtabkeaammiellaaDoor
open Go.ChangeShapes Go.WideShapes Go.ChangeAt Go.RowKit Go.Deep

/-- an act: its kind, its two names, its bytes, its number, what is kept -/
structure DA where
  k : Int
  n : List UInt8
  t : List UInt8
  A : Option Addr
  c : Nat
  l : List UInt8
  f : Int
  B : Option Addr
  kc : Nat
  ks : List Bool
def dac (a : DA) : List Value := [.int .i64 a.k, .string ⟨a.n.toArray⟩, .string ⟨a.t.toArray⟩, .slice a.A a.l.length a.c, .int .i64 a.f, .slice a.B a.ks.length a.kc]
theorem dac_len (a : DA) : (dac a).length = 6 := rfl
def SlZ (w : World) (B : Option Addr) (kc : Nat) (ks : List Bool) : Prop := Sl w 1 B ks.length kc (ks.map Value.bool)
/-- what is so of every act's parts -/
def DAok (w : World) (a : DA) : Prop := SlB w a.A a.c a.l ∧ SlZ w a.B a.kc a.ks ∧ I64 a.k ∧ I64 a.f ∧ a.n.length ≤ maxLen ∧ a.t.length ≤ maxLen
def SlDA (w : World) (A : Option Addr) (c : Nat) (s : List DA) : Prop := Sl w 6 A s.length c (s.flatMap dac) ∧ ∀ a ∈ s, DAok w a
theorem DAok.below {w w' : World} {a : DA} (h : DAok w a) (hb : Below w.heap.size w w') : DAok w' a := ⟨Sl.below h.1 hb, Sl.below h.2.1 hb, h.2.2⟩
theorem SlDA.below {w w' : World} {A : Option Addr} {c : Nat} {s : List DA} (h : SlDA w A c s) (hb : Below w.heap.size w w') : SlDA w' A c s := ⟨h.1.below hb, fun a ha => (h.2 a ha).below hb⟩
section
variable {H : Type} {enc : TypeId × Value → H} {P : Program} {w : World} {base b0 : Nat} {held : Bool} {r : Reach} {t e z b s : TypeId} {v : Value} {d : DataW H} {p : List MemPlace}
theorem bytes_cellD {n : Nat} {y : DataW H × List MemPlace} (ht : P.underlying t = some (.slice e)) (he : P.underlying e = some (.int .u8)) (hC : P.cellsOf e = 1) (h : DataW.trod enc P w base (fun _ => true) held n t [v] = some y) :
    ∃ (A : Option Addr) (c : Nat) (l : List UInt8), v = .slice A l.length c ∧ SlB w A c l := by
  rcases open_ints ht he hC h with ⟨hcs, _⟩ | ⟨x, l, c', zs, hcs, _, hl, hm, hz, _, hcell, hwz⟩
  · simp at hcs
    subst hcs
    exact ⟨none, 0, [], rfl, Sl.none_ _ _⟩
  · simp at hcs
    subst hcs
    simp only [if_true] at hz
    have hs := row_reads hl hm hz hcell
    have hw : ∀ z ∈ zs.take l, (Lit.int .u8 z).wf = true := fun z hz => hwz z (List.mem_of_mem_take hz)
    have hm : (zs.take l).map (Value.int .u8) = bvs ((zs.take l).map fun z => UInt8.ofNat z.toNat) := by
      rw [bvs, List.map_map]
      refine List.map_congr_left fun z hz => ?_
      have hb := bounds_u8 (hw z hz)
      simp only [Function.comp, bv, UInt8.toNat_ofNat']
      congr 1
      omega
    rw [hm] at hs
    have hlen : ((zs.take l).map fun z => UInt8.ofNat z.toNat).length = l := by simp; omega
    refine ⟨some x, c', (zs.take l).map fun z => UInt8.ofNat z.toNat, by rw [hlen], ?_⟩
    show Sl w 1 _ (List.map _ _).length c' _
    rw [hlen]
    exact hs
theorem bools_cell {n : Nat} {y : DataW H × List MemPlace} (ht : P.underlying t = some (.slice z)) (he : P.underlying z = some .bool) (hC : P.cellsOf z = 1) (h : DataW.trod enc P w base (fun _ => true) held n t [v] = some y) :
    ∃ (A : Option Addr) (c : Nat) (l : List Bool), v = .slice A l.length c ∧ SlZ w A c l := by
  rcases open_slice1 ht hC h with ⟨hcs, _⟩ | ⟨a, len, cap, m, nn, V, D, Pl, hcs, _, hl, hm, hmm, _, hi⟩
  · simp at hcs
    subst hcs
    exact ⟨none, 0, [], rfl, Sl.none_ _ _⟩
  · simp at hcs
    subst hcs
    simp only [if_true] at hmm
    obtain ⟨l, hll, hlr⟩ := list_choice (fun i b => w.cell? (a.add i) = some (.bool b)) len fun i hi' => by
      obtain ⟨h1, h2⟩ := hi i (by omega)
      obtain ⟨b, hb, _⟩ := DataW.trod_bool he h2
      simp at hb
      exact ⟨b, by rw [h1, hb]⟩
    refine ⟨some a, cap, l, by rw [hll], by simp, by omega, hm, (fun h => by cases h), fun j u hj => ⟨a, rfl, ?_⟩⟩
    obtain ⟨hjl, rfl⟩ := List.getElem?_eq_some_iff.1 hj
    rw [List.length_map] at hjl
    rw [List.getElem_map]
    exact hlr j hjl
theorem string_cell {n : Nat} {y : DataW H × List MemPlace} (ht : P.underlying t = some .string) (h : DataW.trod enc P w base (fun _ => true) held n t [v] = some y) :
    ∃ l : List UInt8, v = .string ⟨l.toArray⟩ ∧ l.length ≤ maxLen := by
  obtain ⟨s, hs, _, hz⟩ := DataW.trod_string ht h
  simp at hs
  subst hs
  exact ⟨s.data.toList, rfl, hz⟩
theorem open_dacts {f0 f1 f2 f3 f4 f5 : Field} (ht : P.underlying t = some (.slice b)) (hs : P.underlying b = some (.struct #[f0, f1, f2, f3, f4, f5])) (h0 : P.underlying f0.type = some (.int .i64)) (h1 : P.underlying f1.type = some .string) (h2 : P.underlying f2.type = some .string) (h3 : P.underlying f3.type = some (.slice e)) (h4 : P.underlying f4.type = some (.int .i64)) (h5 : P.underlying f5.type = some (.slice z))
    (he : P.underlying e = some (.int .u8)) (hz : P.underlying z = some .bool) (hCe : P.cellsOf e = 1) (hCz : P.cellsOf z = 1) (hone : oneCellFields P #[f0, f1, f2, f3, f4, f5] = true) (hC : P.cellsOf b = 6) (hv : Value.okWide P w r b0 t v) (h : DataW.Trod enc P w base (fun _ => true) held t v d p) :
    ∃ (A : Option Addr) (c : Nat) (l : List DA), v = .slice A l.length c ∧ SlDA w A c l := by
  obtain ⟨A, c, l, rfl, hl, hq⟩ := open_structs dac (DAok w) (fun _ => rfl) ht hs hone hC (by
    intro vs hl hf
    obtain ⟨u0, n0, y0, e0, t0⟩ := hf 0 f0 rfl
    obtain ⟨u1, n1, y1, e1, t1⟩ := hf 1 f1 rfl
    obtain ⟨u2, n2, y2, e2, t2⟩ := hf 2 f2 rfl
    obtain ⟨u3, n3, y3, e3, t3⟩ := hf 3 f3 rfl
    obtain ⟨u4, n4, y4, e4, t4⟩ := hf 4 f4 rfl
    obtain ⟨u5, n5, y5, e5, t5⟩ := hf 5 f5 rfl
    obtain ⟨k, rfl, hk⟩ := int_cell h0 t0
    obtain ⟨nm, rfl, hn⟩ := string_cell h1 t1
    obtain ⟨tw, rfl, ht⟩ := string_cell h2 t2
    obtain ⟨A, c, l, rfl, hb⟩ := bytes_cellD h3 he hCe t3
    obtain ⟨f, rfl, hfi⟩ := int_cell h4 t4
    obtain ⟨B, kc, ks, rfl, hks⟩ := bools_cell h5 hz hCz t5
    match vs, hl with
    | [x0, x1, x2, x3, x4, x5], _ =>
      simp at e0 e1 e2 e3 e4 e5
      exact ⟨⟨k, nm, tw, A, c, l, f, B, kc, ks⟩, by simp [dac, e0, e1, e2, e3, e4, e5], hb, hks, hk, hfi, hn, ht⟩) hv h
  exact ⟨A, c, l, rfl, hl, hq⟩
theorem open_bools (ht : P.underlying t = some (.slice z)) (hz : P.underlying z = some .bool) (hCz : P.cellsOf z = 1) (hv : Value.okWide P w r b0 t v) (h : DataW.Trod enc P w base (fun _ => true) held t v d p) :
    ∃ (A : Option Addr) (c : Nat) (l : List Bool), v = .slice A l.length c ∧ SlZ w A c l := by
  obtain ⟨A, n, c, rfl⟩ := okWide_slice ht hv
  obtain ⟨fuel, hf⟩ := h
  exact bools_cell ht hz hCz hf
theorem open_textD (ht : P.underlying t = some .string) (hv : Value.okWide P w r b0 t v) (h : DataW.Trod enc P w base (fun _ => true) held t v d p) :
    ∃ l : List UInt8, v = .string ⟨l.toArray⟩ ∧ l.length ≤ maxLen := by
  obtain ⟨s, rfl⟩ := okWide_string ht hv
  obtain ⟨fuel, hf⟩ := h
  exact string_cell ht hf
/-- files -/
structure DF where
  n : List UInt8
  A : Option Addr
  c : Nat
  l : List UInt8
def dfc (a : DF) : List Value := [.string ⟨a.n.toArray⟩, .slice a.A a.l.length a.c]
def DFok (w : World) (a : DF) : Prop := SlB w a.A a.c a.l ∧ a.n.length ≤ maxLen
def SlDF (w : World) (A : Option Addr) (c : Nat) (s : List DF) : Prop := Sl w 2 A s.length c (s.flatMap dfc) ∧ ∀ a ∈ s, DFok w a
theorem SlDF.below {w w' : World} {A : Option Addr} {c : Nat} {s : List DF} (h : SlDF w A c s) (hb : Below w.heap.size w w') : SlDF w' A c s := ⟨h.1.below hb, fun a ha => ⟨Sl.below (h.2 a ha).1 hb, (h.2 a ha).2⟩⟩
theorem open_dfiles {f0 f1 : Field} (ht : P.underlying t = some (.slice b)) (hs : P.underlying b = some (.struct #[f0, f1])) (h0 : P.underlying f0.type = some .string) (h1 : P.underlying f1.type = some (.slice e)) (he : P.underlying e = some (.int .u8))
    (hCe : P.cellsOf e = 1) (hone : oneCellFields P #[f0, f1] = true) (hC : P.cellsOf b = 2) (hv : Value.okWide P w r b0 t v) (h : DataW.Trod enc P w base (fun _ => true) held t v d p) :
    ∃ (A : Option Addr) (c : Nat) (l : List DF), v = .slice A l.length c ∧ SlDF w A c l := by
  obtain ⟨A, c, l, rfl, hl, hq⟩ := open_structs dfc (DFok w) (fun _ => rfl) ht hs hone hC (by
    intro vs hl hf
    obtain ⟨u0, n0, y0, e0, t0⟩ := hf 0 f0 rfl
    obtain ⟨u1, n1, y1, e1, t1⟩ := hf 1 f1 rfl
    obtain ⟨nm, rfl, hn⟩ := string_cell h0 t0
    obtain ⟨A, c, l, rfl, hb⟩ := bytes_cellD h1 he hCe t1
    match vs, hl with
    | [x0, x1], _ =>
      simp at e0 e1
      exact ⟨⟨nm, A, c, l⟩, by simp [dfc, e0, e1], hb, hn⟩) hv h
  exact ⟨A, c, l, rfl, hl, hq⟩
end
end Go.Proofs.YtabkeaammiellaaDoor
