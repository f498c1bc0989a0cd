/- WHAT IT HOLDS: the document's ListOf, walked. -/
import Derived.Test.YtjmekdldhnnneaaRefW
namespace Go.Proofs.Ytjmekdldhnnneaa
open Go.RowKit

theorem bound_here {w : World} {A : Option Addr} {c B : Nat} {l : List UInt8} (hS : SlB w A c l) (hBd : l ≠ [] → ∀ ad, A = some ad → ad.block < B) : l ≠ [] → ∀ ad, A = some ad → ad.block < min B w.heap.size := by
  intro hn ad hA
  have hl : 0 < l.length := by cases l <;> simp_all
  obtain ⟨ad2, hA2, hc⟩ := hS.at1 (k := 0) hl
  rw [hA] at hA2
  injection hA2 with e
  subst e
  have := World.block_lt_of_cell? w _ hc
  rw [addr_add_block] at this
  have := hBd hn ad hA
  omega
theorem Own.litAt {w : World} {base g : Nat} {e : TypeId} (size : Nat) (hg : g = w.heap.size) (h : base ≤ w.heap.size) : Own (w.alloc (.cells #[] e)) base e size (some ⟨g, 0, none⟩) 0 0 [] := by subst hg; exact Own.lit size h

theorem Blk.apart {w w' : World} {g C : Nat} {t : TypeId} {cs : Array Value} (h : Blk w g t cs) (hg : g < C) (hb : Below C w w') : Blk w' g t cs := (hb.block g hg).trans h
theorem SlB.apart {w w' : World} {A : Option Addr} {c B C : Nat} {l : List UInt8} (h : SlB w A c l) (hBd : l ≠ [] → ∀ ad, A = some ad → ad.block < B) (hBC : B ≤ C) (hb : Below C w w') : SlB w' A c l := by
  refine ⟨h.1, h.2.1, h.2.2.1, h.2.2.2.1, fun j u hj => ?_⟩
  obtain ⟨ad, hA, hc⟩ := h.2.2.2.2 j u hj
  have hne : l ≠ [] := by intro e; rw [e] at hj; simp at hj
  exact ⟨ad, hA, (hb.cell (by rw [addr_add_block]; exact Nat.lt_of_lt_of_le (hBd hne ad hA) hBC)).trans hc⟩

set_option maxRecDepth 100000 in
set_option maxHeartbeats 1000000 in
theorem rListOf_any {A : Option Addr} {c bad : Nat} {l : List UInt8} (most : Int) (hm : -9223372036854775808 ≤ most ∧ most ≤ 9223372036854775807) (hl : l.length ≤ 1000000) (w : World) (hS : SlB w A c l) {B : Nat} (hBd : l ≠ [] → ∀ ad, A = some ad → ad.block < B) :
    Calls Try.prog 86 #[rv A l.length c bad, .int .i64 most] w fun e w' => ∃ A c m v, e = .returned (.tuple #[.slice A (List.length m) c, v]) ∧ Hid (m = (rList most (l, bad)).1) ∧ Sl w' 1 A m.length c (m.map nv) ∧ RV w' B v (rList most (l, bad)).2 ∧ Below w.heap.size w w' := by
  have hB0 := (Blk.new w 102 #[.slice A l.length c, .int .i64 bad]).alloc (.cells #[.slice none 0 0, .int .i64 0] 102)
  have hB1 := Blk.newAt (w := w.alloc (.cells #[.slice A l.length c, .int .i64 bad] 102)) (g := w.heap.size + 1) (by simp) 102 #[.slice none 0 0, .int .i64 0]
  have hbw := bel_alloc (below_new w (.cells #[.slice A l.length c, .int .i64 bad] 102)) (.cells #[.slice none 0 0, .int .i64 0] 102)
  have hC := rcount_any (bad := bad) most hm _ (hS.below hbw) (bound_here hS hBd)
  have hT : rList most (l, bad) = rNums (rCount most (l, bad)).1 (rCount most (l, bad)).2 := rfl
  have hle := rCount_le63 (s := (l, bad)) hm.2
  have hll := rCount_len most (l, bad)
  have hz := rCount_bad (most := most) (s := (l, bad))
  generalize rCount most (l, bad) = r at *
  obtain ⟨n, l2, bad2⟩ := r
  have HT := Lib.hid hT
  have HN := Lib.hid hC
  have HZ := Lib.hid hz
  have hn : (n : Int) ≤ 9223372036854775807 := hle
  have hl2 : l2.length ≤ 1000000 := Nat.le_trans hll hl
  clear hT hC hm hz hle hll hl
  go_enter Try.func86, Try.ntmps86
  go_wp2_with fail
  refine HN.out.mono ?_
  rintro e w1 ⟨v, rfl, ⟨A2, c2, rfl, hS2, hBd2⟩, hb1⟩
  have hD0 := hB0.below hb1
  have hD1 := hB1.below hb1
  have hw1 := bel_call hbw hb1
  have hz0 : w.heap.size < w1.heap.size := hD0.lt
  have hz1 : w.heap.size + 1 < w1.heap.size := hD1.lt
  obtain ⟨a0, a1, e0, e1⟩ := hD0.two
  obtain ⟨b0, b1, f0, f1⟩ := hD1.two
  clear hB0 hB1 hbw hb1
  go_wp2_with fail
  have hK := hD0.set2 (.slice A2 l2.length c2) (.int .i64 bad2)
  have hK1 := (hD1.far (p := ⟨w.heap.size, 0, none⟩) (by dsimp only; omega) (.slice A2 l2.length c2)).far (p := ⟨w.heap.size, 1, none⟩) (by dsimp only; omega) (.int .i64 bad2)
  have hwK : Below w.heap.size w ((w1.setCell ⟨w.heap.size, 0, none⟩ (.slice A2 l2.length c2)).setCell ⟨w.heap.size, 1, none⟩ (.int .i64 bad2)) := by (repeat (first | with_reducible exact hw1 | with_reducible refine bel_alloc ?_ _ | with_reducible refine bel_set ?_ (by first | omega | (dsimp only; omega)) _ | with_reducible refine below_drewN ?_ _ | with_reducible refine Below.drew ?_))
  have hSK : SlB ((w1.setCell ⟨w.heap.size, 0, none⟩ (.slice A2 l2.length c2)).setCell ⟨w.heap.size, 1, none⟩ (.int .i64 bad2)) A2 c2 l2 := hS2.wr hD0 (slice_ne _ _ _) (fun b h => by cases h) (((Wr.refl _ _).set_ _ _).set_ _ _)
  have hbase : w.heap.size + 2 ≤ w1.heap.size := by omega
  go_loopw [7, 8] (fun v x wr => ∃ (k : Nat) (E : Option Addr) (d : Nat) (m : List Nat) (s : List UInt8 × Nat) (A5 : Option Addr) (c5 : Nat), k ≤ n ∧ x = .int .i64 k ∧ v = .slice E m.length d ∧ Hid ((n = 0 ∧ s = (l2, bad2) ∧ m = []) ∨ Nums n (l2, bad2) k m s) ∧
      Own wr w1.heap.size 27 1 E m.length d (m.map nv) ∧ Blk wr w.heap.size 102 #[.slice A5 s.1.length c5, .int .i64 s.2] ∧ SlB wr A5 c5 s.1 ∧ (s.1 ≠ [] → ∀ ad, A5 = some ad → ad.block < min B w.heap.size) ∧ Blk wr (w.heap.size + 1) 102 #[.slice none 0 0, .int .i64 0] ∧ Below w.heap.size w wr ∧ w1.heap.size ≤ wr.heap.size) (fun v x w => n - (intOf x).toNat)
  case atStart =>
    refine ⟨0, _, 0, [], (l2, bad2), A2, c2, Nat.zero_le _, rfl, rfl, ?_, Own.litAt 1 (by simp [World.setCell]) (by simp [World.setCell]), hK.alloc _, hSK.below (below_new _ _), hBd2, hK1.alloc _, bel_alloc hwK _, by simp [World.setCell]⟩
    show _ ∨ _
    by_cases h : bad2 = 0
    · exact .inr (Nums.start h)
    · exact .inl ⟨HZ.out h, rfl, rfl⟩
  case round =>
    obtain ⟨k, E, d, m, s, A5, c5, hk, rfl, rfl, hN, hor, hBr, hSr, hBdr, hGr, hwr, hsz⟩ := hrel
    clear a0 a1 e0 e1 b0 b1 f0 f1 hK hK1 hwK hSK hD0 hD1
    obtain ⟨a0, a1, e0, e1⟩ := hBr.two
    obtain ⟨b0, b1, f0, f1⟩ := hGr.two
    by_cases hlt : k < n
    · have hNn : Nums n (l2, bad2) k m s := by
        rcases hN.out with ⟨h, _⟩ | h
        · omega
        · exact h
      obtain ⟨sl, sb⟩ := s
      have hNum := rNumber_any (bad := sb) wr hSr hBdr
      have hnx := fun h => hNn.next hlt h
      have hst := fun h => hNn.stop hlt h
      have hml : m.length + sl.length ≤ l2.length := hNn.2.2.2
      generalize rNum (sl, sb) = q at *
      obtain ⟨x, ql, qb⟩ := q
      have HNum := Lib.hid hNum
      have HNX := Lib.hid hnx
      have HST := Lib.hid hst
      have hmk : m.length ≤ 1000000 := by omega
      clear hNum hnx hst hN hNn hml
      go_wp2_with fail
      refine HNum.out.mono ?_
      rintro e w2 ⟨v, rfl, ⟨A6, c6, rfl, hS6, hBd6⟩, hb2⟩
      have hB2 := hBr.below hb2
      have hG2 := hGr.below hb2
      have ho2 := World.ownsRow.kept hor (World.grownBy.mk hb2.os hb2.tape hb2.output hb2.size (fun i hi _ => hb2.block i hi)) (row := none) (by cases h : (Value.slice E m.length d).ownBlock <;> simp)
      have hw2 := bel_call hwr hb2
      have hz2 : w.heap.size < w2.heap.size := hB2.lt
      have hz3 : w.heap.size + 1 < w2.heap.size := hG2.lt
      have hsz2 : w1.heap.size ≤ w2.heap.size := Nat.le_trans hsz hb2.size
      clear a0 a1 e0 e1 b0 b1 f0 f1
      obtain ⟨a0, a1, e0, e1⟩ := hB2.two
      obtain ⟨b0, b1, f0, f1⟩ := hG2.two
      rcases Decidable.em (qb = 0) with hq | hq
      · have hd : ((qb : Int) != 0) = false := by simp; omega
        have HQ := Lib.hid hq
        clear hq
        have hoc : Own ((w2.setCell ⟨w.heap.size, 0, none⟩ (.slice A6 ql.length c6)).setCell ⟨w.heap.size, 1, none⟩ (.int .i64 qb)) w1.heap.size 27 1 E m.length d (m.map nv) := ownsRow_setCell_below (ownsRow_setCell_below ho2 (by dsimp only; omega) _) (by dsimp only; omega) _
        go_wp2_with (at_builtin; go_must (refine wpl_num 22 27 Try.underlying22 u64_info rfl _ _ rfl w1.heap.size E d m x rfl (World.ownsRow.alloc hoc _) (by show Value.slice (some ⟨w2.heap.size + 1, 0, none⟩) 1 1 = _; simp [World.setCell]) (by omega) (by simp [World.setCell]; omega) ?_; intro A1 c1 m1 w3 hm1 ho3 _ hb3))
        have hW := ((((Wr.refl w2 w.heap.size).set_ 0 (.slice A6 ql.length c6)).set_ 1 (.int .i64 qb)))
        have hS7 := SlB.wr hS6 hB2 (slice_ne _ _ _) (fun b h => by cases h) hW
        have hB7 := ((hB2.set2 (.slice A6 ql.length c6) (.int .i64 qb)).alloc _).apart (by omega) hb3
        have hG7 := (((hG2.far (p := ⟨w.heap.size, 0, none⟩) (by dsimp only; omega) (.slice A6 ql.length c6)).far (p := ⟨w.heap.size, 1, none⟩) (by dsimp only; omega) (.int .i64 qb)).alloc _).apart (by omega) hb3
        have hw7 : Below w.heap.size w w3 := (Below.trans (by (repeat (first | with_reducible exact hw2 | with_reducible refine bel_alloc ?_ _ | with_reducible refine bel_set ?_ (by first | omega | (dsimp only; omega)) _ | with_reducible refine below_drewN ?_ _ | with_reducible refine Below.drew ?_)) : Below w.heap.size w (((w2.setCell ⟨w.heap.size, 0, none⟩ (.slice A6 ql.length c6)).setCell ⟨w.heap.size, 1, none⟩ (.int .i64 qb)).alloc (.cells #[.slice A6 ql.length c6, .int .i64 qb] 102))) (hb3.mono (by omega)))
        have hz7 : w1.heap.size ≤ w3.heap.size := Nat.le_trans (by simp [World.setCell]; omega) hb3.size
        go_roundw
        case rel => exact ⟨k + 1, A1, c1, m1, (ql, qb), A6, c6, hlt, by go_num, rfl, .inr (by rw [hm1.out]; exact HNX.out HQ.out), ho3, hB7, SlB.apart (hS7.below (below_new _ _)) hBd6 (by omega) hb3, hBd6, hG7, hw7, hz7⟩
        case measure => simp [intOf]; omega
      · have hd : ((qb : Int) != 0) = true := by simp; omega
        have HG : Hid (rList most (l, bad) = ([], (ql, qb))) := (show _ = _ by rw [show rList most (l, bad) = _ from HT.out]; exact HST.out hq)
        clear hq
        go_wp2_with fail
        go_region
        go_wp2_with fail
        have hW := ((((Wr.refl w2 w.heap.size).set_ 0 (.slice A6 ql.length c6)).set_ 1 (.int .i64 qb)))
        have hS7 := SlB.wr hS6 hB2 (slice_ne _ _ _) (fun b h => by cases h) hW
        have hG7 := ((hG2.far (p := ⟨w.heap.size, 0, none⟩) (by dsimp only; omega) (.slice A6 ql.length c6)).far (p := ⟨w.heap.size, 1, none⟩) (by dsimp only; omega) (.int .i64 qb))
        have hS8 := SlB.wr hS7 hG7 (slice_ne _ _ _) (fun b h => by cases h) (((Wr.refl _ _).set_ 0 (.slice A6 ql.length c6)).set_ 1 (.int .i64 qb))
        refine bodyPost_ret (res_r2 rfl rfl (g := w.heap.size + 1) (x := .slice A6 ql.length c6) (y := .int .i64 qb) ((hG7.set2 _ _).alloc _).drew) rfl ⟨none, 0, [], rv A6 ql.length c6 qb, rfl, by rw [HG.out]; rfl, Sl.none_ _ _, ?_, by (repeat (first | with_reducible exact hw2 | with_reducible refine bel_alloc ?_ _ | with_reducible refine bel_set ?_ (by first | omega | (dsimp only; omega)) _ | with_reducible refine below_drewN ?_ _ | with_reducible refine Below.drew ?_))⟩
        rw [HG.out]
        exact ⟨A6, c6, rfl, hS8.below (below_new _ _).drew, fun hn ad h => Nat.lt_of_lt_of_le (hBd6 hn ad h) (Nat.min_le_left _ _)⟩
    · have HG : Hid (rList most (l, bad) = (m, s)) := by
        show _ = _
        rw [show rList most (l, bad) = _ from HT.out]
        rcases hN.out with ⟨h, rfl, rfl⟩ | h
        · subst h; rfl
        · obtain rfl : k = n := by omega
          exact h.done
      go_wp2_with fail
      go_region
      go_wp2_with fail
      have hS8 := SlB.wr hSr hGr (slice_ne _ _ _) (fun b h => by cases h) (((Wr.refl _ _).set_ 0 (.slice A5 s.1.length c5)).set_ 1 (.int .i64 s.2))
      have hm8 := (ownsRow_setCell_below (ownsRow_setCell_below hor (a := ⟨w.heap.size + 1, 0, none⟩) (by dsimp only; omega) (.slice A5 s.1.length c5)) (a := ⟨w.heap.size + 1, 1, none⟩) (by dsimp only; omega) (.int .i64 s.2))
      refine bodyPost_ret (res_r2 rfl rfl (g := w.heap.size + 1) (x := .slice A5 s.1.length c5) (y := .int .i64 s.2) (hGr.set2 _ _).drew) rfl ⟨E, d, m, rv A5 s.1.length c5 s.2, rfl, by rw [HG.out]; rfl, Own.sl hm8, ?_, by (repeat (first | with_reducible exact hwr | with_reducible refine bel_alloc ?_ _ | with_reducible refine bel_set ?_ (by first | omega | (dsimp only; omega)) _ | with_reducible refine below_drewN ?_ _ | with_reducible refine Below.drew ?_))⟩
      rw [HG.out]
      exact ⟨A5, c5, rfl, hS8, fun hn ad h => Nat.lt_of_lt_of_le (hBdr hn ad h) (Nat.min_le_left _ _)⟩
end Go.Proofs.Ytjmekdldhnnneaa
