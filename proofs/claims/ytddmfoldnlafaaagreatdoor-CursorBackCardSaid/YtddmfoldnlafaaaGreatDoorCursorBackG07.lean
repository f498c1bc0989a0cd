/- WHAT IT HOLDS: what the document's reader (a struct by value) answers, walked. | WHAT IT HOLDS: the document's ListOf, walked. | WHAT IT HOLDS: same, walked. | WHAT IT HOLDS: act, walked. | WHAT IT HOLDS: what the small functions of the package cell compute, walked. -/
import Derived.Test.YtddmfoldnlafaaaGreatDoorCursorBackG06
import Derived.RegionTactic
import Derived.ChangeAlike
import Derived.Deep.RegionHeld3
import Derived.Deep.DrawnRows
import Derived.Test.YtddmfoldnlafaaaGreatDoorCursorBackG05
import Derived.Test.YtddmfoldnlafaaaGreatDoorShelfB
import Derived.Lib.Bytes
namespace Go.Proofs.YtddmfoldnlafaaaGreatDoor
open Go.RowKit

theorem res_r1 {fn : Func} {a : Nat} {tmps : Array Value} {w : World} {g : Nat} {x y : Value} (hres : fn.results = #[.cell a 233]) (ha : tmps.getD a undef = .pointer (some ⟨g, 0, none⟩)) (hB : Blk w g 233 #[x, y]) :
    (results fn tmps).run Tryz.prog w = .ok (.agg #[x, y]) w := by
  obtain ⟨b0, b1, _, _⟩ := hB.two
  have ha' : tmps[a]?.getD undef = .pointer (some ⟨g, 0, none⟩) := by simpa using ha
  simp [results, hres, go_sem, b0, b1, ha']
theorem res_r2 {fn : Func} {a b : Nat} {tmps : Array Value} {w : World} {g : Nat} {x y : Value} (hres : fn.results = #[.tmp b, .cell a 233]) (ha : tmps.getD a undef = .pointer (some ⟨g, 0, none⟩)) (hB : Blk w g 233 #[x, y]) :
    (results fn tmps).run Tryz.prog w = .ok (.tuple #[tmps.getD b undef, .agg #[x, y]]) w := by
  obtain ⟨b0, b1, _, _⟩ := hB.two
  have ha' : tmps[a]?.getD undef = .pointer (some ⟨g, 0, none⟩) := by simpa using ha
  simp [results, hres, go_sem, b0, b1, ha']

/-- the document's reader as a value -/
abbrev rv (A : Option Addr) (n c : Nat) (bad : Nat) : Value := .agg #[.slice A n c, .int .i64 (bad : Int)]
/-- a reader by value that reads as s -/
def RV (w : World) (B : Nat) (v : Value) (s : List UInt8 × Nat) : Prop := ∃ A c, v = rv A s.1.length c s.2 ∧ SlB w A c s.1 ∧ (s.1 ≠ [] → ∀ ad, A = some ad → ad.block < B)
theorem RV.below {w w' : World} {B : Nat} {v : Value} {s : List UInt8 × Nat} (h : RV w B v s) (hb : Below w.heap.size w w') : RV w' B v s := by
  obtain ⟨A, c, h1, h2, h3⟩ := h
  exact ⟨A, c, h1, h2.below hb, h3⟩

set_option maxRecDepth 100000 in
set_option maxHeartbeats 400000 in
theorem rfail_any {A : Option Addr} {n c bad : Nat} {l : List UInt8} (k : Nat) (w : World) : Calls Tryz.prog 168 #[rv A n c bad, .int .i64 k] w fun e w' => ∃ b : Nat, e = .returned (rv A n c b) ∧ Hid (rFail k (l, bad) = (l, b)) ∧ Below w.heap.size w w' := by
  rcases Decidable.em (bad = 0) with h0 | h0
  · subst h0
    go_enter Tryz.func168, Tryz.ntmps168
    go_wp2_with fail
    exact bodyPost_ret (res_r1 rfl rfl (g := w.heap.size + 1) (x := .slice A n c) (y := .int .i64 k) (Blk.newAt (by simp) _ _)) rfl ⟨k, rfl, (show _ = _ by simp [rFail]), bel_alloc (below_new _ _) _⟩
  · have hb : ((bad : Int) == 0) = false := by simp; omega
    have H0 := Lib.hid h0
    clear h0
    go_enter Tryz.func168, Tryz.ntmps168
    go_wp2_with fail
    exact bodyPost_ret (res_r1 rfl rfl (g := w.heap.size + 1) (x := .slice A n c) (y := .int .i64 bad) (Blk.newAt (by simp) _ _)) rfl ⟨bad, rfl, (show _ = _ by simp [rFail, H0.out]), bel_alloc (below_new _ _) _⟩

theorem cut_bound {A : Option Addr} {k B : Nat} {l : List UInt8} (hBd : l ≠ [] → ∀ ad, A = some ad → ad.block < B) : l.drop k ≠ [] → ∀ ad, Option.map (fun x => x.add k) A = some ad → ad.block < B := by
  intro hn ad hA
  cases A with
  | none => simp at hA
  | some a =>
    simp at hA
    rw [← hA, addr_add_block]
    exact hBd (drop_ne hn) a rfl
theorem cutRV_eq {w : World} {A : Option Addr} {c k : Nat} {l : List UInt8} (hS : SlB w A c l) {B : Nat} (hBd : l ≠ [] → ∀ ad, A = some ad → ad.block < B) (hk : k ≤ l.length) (h : c = k) : RV w B (rv A (l.length - k) 0 0) (l.drop k, 0) := by
  have := Sl.cutB hS hk
  rw [if_pos h, show c - k = 0 from by omega, ← List.length_drop] at this
  exact ⟨A, 0, by rw [← List.length_drop], this, fun hn => hBd (drop_ne hn)⟩
theorem cutRV_ne {w : World} {A : Option Addr} {c k : Nat} {l : List UInt8} (hS : SlB w A c l) {B : Nat} (hBd : l ≠ [] → ∀ ad, A = some ad → ad.block < B) (hk : k ≤ l.length) (h : ¬ c = k) : RV w B (rv (Option.map (fun x => x.add k) A) (l.length - k) (c - k) 0) (l.drop k, 0) := by
  have := Sl.cutB hS hk
  rw [if_neg h, ← List.length_drop] at this
  exact ⟨_, c - k, by rw [← List.length_drop], this, cut_bound hBd⟩

/-- a number, and the reader then -/
def RGives (k : IntKind) (B : Nat) (r : Nat × (List UInt8 × Nat)) (w : World) (e : Ending) (w' : World) : Prop := ∃ v, e = .returned (.tuple #[.int k (r.1 : Int), v]) ∧ RV w' B v r.2 ∧ Below w.heap.size w w'

set_option maxRecDepth 100000 in
set_option maxHeartbeats 1000000 in
theorem rNumber_any {A : Option Addr} {c bad : Nat} {l : List UInt8} (w : World) (hS : SlB w A c l) {B : Nat} (hBd : l ≠ [] → ∀ ad, A = some ad → ad.block < B) : Calls Tryz.prog 142 #[rv A l.length c bad] w (RGives .u64 B (rNum (l, bad)) w) := by
  rcases Decidable.em (bad = 0) with h0 | h0
  · subst h0
    go_enter Tryz.func142, Tryz.ntmps142
    go_wp2_with fail
    refine (rTake_any A c l _ (hS.below (bel_alloc (below_new _ _) _))).mono ?_
    rintro e w1 ⟨hb1, ⟨ht, rfl⟩ | ⟨n, k, ht, rfl⟩⟩
    · have HN : Hid (rNum (l, 0) = (0, (l, 2))) := (show _ = _ by simp [rNum, ht])
      clear ht
      have hB0 := ((Blk.new w 233 #[.slice A l.length c, .int .i64 0]).alloc (.cells #[.slice none 0 0, .int .i64 0] 233)).below hb1
      have hB1 := (Blk.newAt (w := w.alloc (.cells #[.slice A l.length c, .int .i64 0] 233)) (g := w.heap.size + 1) (by simp) 233 #[.slice none 0 0, .int .i64 0]).below hb1
      have hw1 := bel_call (bel_alloc (below_new w _) _) hb1
      obtain ⟨a0, a1, _, _⟩ := hB0.two
      obtain ⟨b0, b1, f0, f1⟩ := hB1.two
      go_wp2_with fail
      refine (rfail_any (l := l) (bad := 0) 2 _).mono ?_
      rintro e w2 ⟨b, rfl, hfb, hb2⟩
      obtain rfl : b = 2 := by have := hfb.out; simp [rFail] at this; omega
      have hw2 := bel_call hw1 hb2
      obtain ⟨b0, b1, f0, f1⟩ := (hB1.below hb2).two
      have hE1 := hB1.below hb2
      go_wp2_with fail
      refine bodyPost_ret (res_r2 rfl rfl (g := w.heap.size + 1) (x := .slice A l.length c) (y := .int .i64 2) (by (repeat (first | with_reducible exact hE1 | with_reducible apply Blk.set3 | with_reducible apply Blk.set2 | with_reducible refine Blk.alloc ?_ _ | with_reducible refine Blk.far ?_ (by first | omega | (dsimp only; omega)) _ | with_reducible refine Blk.drewN ?_ _ | with_reducible refine Blk.drew ?_)))) rfl ⟨rv A l.length c 2, by rw [HN.out]; rfl, ?_, by (repeat (first | with_reducible exact hw2 | with_reducible refine bel_alloc ?_ _ | with_reducible refine bel_set ?_ (by first | omega | (dsimp only; omega)) _ | with_reducible refine below_drewN ?_ _ | with_reducible refine Below.drew ?_))⟩
      rw [HN.out]
      exact ⟨A, c, rfl, hS.below (by (repeat (first | with_reducible exact hw2 | with_reducible refine bel_alloc ?_ _ | with_reducible refine bel_set ?_ (by first | omega | (dsimp only; omega)) _ | with_reducible refine below_drewN ?_ _ | with_reducible refine Below.drew ?_))), hBd⟩
    · have HN : Hid (rNum (l, 0) = (n, (l.drop k, 0))) := (show _ = _ by simp [rNum, ht])
      obtain ⟨hu, hk, _⟩ := take_some ht
      have hkc : k ≤ c := Nat.le_trans hk hS.2.1
      have hmx : c ≤ 9223372036854775807 := by have := hS.2.2.1; unfold maxLen at this; exact this
      have hcut := Sl.cutB hS hk
      clear ht
      have hB0 := ((Blk.new w 233 #[.slice A l.length c, .int .i64 0]).alloc (.cells #[.slice none 0 0, .int .i64 0] 233)).below hb1
      have hB1 := (Blk.newAt (w := w.alloc (.cells #[.slice A l.length c, .int .i64 0] 233)) (g := w.heap.size + 1) (by simp) 233 #[.slice none 0 0, .int .i64 0]).below hb1
      have hw1 := bel_call (bel_alloc (below_new w _) _) hb1
      obtain ⟨a0, a1, e0, e1⟩ := hB0.two
      obtain ⟨b0, b1, f0, f1⟩ := hB1.two
      go_wp2_with fail
      all_goals
        go_region
      all_goals
        go_wp2_with fail
        first
          | (have h := cutRV_eq hS hBd hk ‹_›
             refine bodyPost_ret (res_r2 rfl rfl (g := w.heap.size + 1) (x := .slice A (l.length - k) 0) (y := .int .i64 0) (by (repeat (first | with_reducible exact hB1 | with_reducible apply Blk.set3 | with_reducible apply Blk.set2 | with_reducible refine Blk.alloc ?_ _ | with_reducible refine Blk.far ?_ (by first | omega | (dsimp only; omega)) _ | with_reducible refine Blk.drewN ?_ _ | with_reducible refine Blk.drew ?_)))) rfl ⟨rv A (l.length - k) 0 0, by rw [HN.out]; rfl, ?_, by (repeat (first | with_reducible exact hw1 | with_reducible refine bel_alloc ?_ _ | with_reducible refine bel_set ?_ (by first | omega | (dsimp only; omega)) _ | with_reducible refine below_drewN ?_ _ | with_reducible refine Below.drew ?_))⟩
             rw [HN.out]
             exact h.below (by (repeat (first | with_reducible exact hw1 | with_reducible refine bel_alloc ?_ _ | with_reducible refine bel_set ?_ (by first | omega | (dsimp only; omega)) _ | with_reducible refine below_drewN ?_ _ | with_reducible refine Below.drew ?_))))
          | (have h := cutRV_ne hS hBd hk ‹_›
             refine bodyPost_ret (res_r2 rfl rfl (g := w.heap.size + 1) (x := .slice (Option.map (fun x => x.add k) A) (l.length - k) (c - k)) (y := .int .i64 0) (by (repeat (first | with_reducible exact hB1 | with_reducible apply Blk.set3 | with_reducible apply Blk.set2 | with_reducible refine Blk.alloc ?_ _ | with_reducible refine Blk.far ?_ (by first | omega | (dsimp only; omega)) _ | with_reducible refine Blk.drewN ?_ _ | with_reducible refine Blk.drew ?_)))) rfl ⟨rv (Option.map (fun x => x.add k) A) (l.length - k) (c - k) 0, by rw [HN.out]; rfl, ?_, by (repeat (first | with_reducible exact hw1 | with_reducible refine bel_alloc ?_ _ | with_reducible refine bel_set ?_ (by first | omega | (dsimp only; omega)) _ | with_reducible refine below_drewN ?_ _ | with_reducible refine Below.drew ?_))⟩
             rw [HN.out]
             exact h.below (by (repeat (first | with_reducible exact hw1 | with_reducible refine bel_alloc ?_ _ | with_reducible refine bel_set ?_ (by first | omega | (dsimp only; omega)) _ | with_reducible refine below_drewN ?_ _ | with_reducible refine Below.drew ?_))))
  · have hb : ((bad : Int) != 0) = true := by simp; omega
    have HN : Hid (rNum (l, bad) = (0, (l, bad))) := (show _ = _ by simp [rNum, h0])
    clear h0
    go_enter Tryz.func142, Tryz.ntmps142
    go_wp2_with fail
    go_region
    all_goals
      go_wp2_with fail
      refine bodyPost_ret (res_r2 rfl rfl (g := w.heap.size + 1) (x := .slice A l.length c) (y := .int .i64 bad) (Blk.newAt (by simp) _ _).drew) rfl ⟨rv A l.length c bad, by rw [HN.out]; rfl, ?_, (bel_alloc (below_new _ _) _).drew⟩
      rw [HN.out]
      exact ⟨A, c, rfl, hS.below (bel_alloc (below_new _ _) _).drew, hBd⟩

set_option maxRecDepth 100000 in
set_option maxHeartbeats 1000000 in
theorem rWithin_any {A : Option Addr} {c bad : Nat} {l : List UInt8} (most : Nat) (w : World) (hS : SlB w A c l) {B : Nat} (hBd : l ≠ [] → ∀ ad, A = some ad → ad.block < B) : Calls Tryz.prog 141 #[rv A l.length c bad, .int .u64 most] w (RGives .i64 B (rWithin most (l, bad)) w) := by
  have hB0 := (Blk.new w 233 #[.slice A l.length c, .int .i64 bad]).alloc (.cells #[.slice none 0 0, .int .i64 0] 233)
  have hB1 := Blk.newAt (w := w.alloc (.cells #[.slice A l.length c, .int .i64 bad] 233)) (g := w.heap.size + 1) (by simp) 233 #[.slice none 0 0, .int .i64 0]
  have hbw := bel_alloc (below_new w (.cells #[.slice A l.length c, .int .i64 bad] 233)) (.cells #[.slice none 0 0, .int .i64 0] 233)
  have hNum := rNumber_any (bad := bad) _ (hS.below hbw) hBd
  have hW : rWithin most (l, bad) = if (rNum (l, bad)).1 > most ∨ (rNum (l, bad)).1 > 4611686018427387904 then (0, rFail 1 (rNum (l, bad)).2) else rNum (l, bad) := rfl
  generalize rNum (l, bad) = r at *
  obtain ⟨n, l2, bad2⟩ := r
  have HW := Lib.hid hW
  have HN := Lib.hid hNum
  clear hW hNum
  rcases Decidable.em (most < n) with h1 | h1
  · have HG : Hid (rWithin most (l, bad) = (0, rFail 1 (l2, bad2))) := (show _ = _ by rw [HW.out, if_pos (Or.inl h1)])
    go_enter Tryz.func141, Tryz.ntmps141
    go_wp2_with fail
    refine HN.out.mono ?_
    rintro e w1 ⟨v, rfl, ⟨A2, c2, rfl, hS2, hBd2⟩, hb1⟩
    have hD0 := hB0.below hb1
    have hD1 := hB1.below hb1
    have hw1 := bel_call hbw hb1
    have hz0 : w.heap.size < w1.heap.size := hD0.lt
    have hz1 : w.heap.size + 1 < w1.heap.size := hD1.lt
    obtain ⟨a0, a1, e0, e1⟩ := hD0.two
    obtain ⟨b0, b1, f0, f1⟩ := hD1.two
    clear hB0 hB1 hbw hb1
    go_wp2_with fail
    have hK := hD0.set2 (.slice A2 l2.length c2) (.int .i64 bad2)
    have hK1 := (hD1.far (p := ⟨w.heap.size, 0, none⟩) (by dsimp only; omega) (.slice A2 l2.length c2)).far (p := ⟨w.heap.size, 1, none⟩) (by dsimp only; omega) (.int .i64 bad2)
    have hwK : Below w.heap.size w ((w1.setCell ⟨w.heap.size, 0, none⟩ (.slice A2 l2.length c2)).setCell ⟨w.heap.size, 1, none⟩ (.int .i64 bad2)) := by (repeat (first | with_reducible exact hw1 | with_reducible refine bel_alloc ?_ _ | with_reducible refine bel_set ?_ (by first | omega | (dsimp only; omega)) _ | with_reducible refine below_drewN ?_ _ | with_reducible refine Below.drew ?_))
    have hSK : SlB ((w1.setCell ⟨w.heap.size, 0, none⟩ (.slice A2 l2.length c2)).setCell ⟨w.heap.size, 1, none⟩ (.int .i64 bad2)) A2 c2 l2 := hS2.wr hD0 (slice_ne _ _ _) (fun b h => by cases h) (((Wr.refl _ _).set_ _ _).set_ _ _)
    refine (rfail_any (l := l2) 1 _).mono ?_
    rintro e w2 ⟨b, rfl, hfb, hb2⟩
    have hL1 := hK1.below hb2
    have hw2 := bel_call hwK hb2
    have hS3 := hSK.below hb2
    obtain ⟨b0, b1, f0, f1⟩ := hL1.two
    clear a0 a1 e0 e1 hK hK1 hwK hSK hb2
    go_wp2_with fail
    refine bodyPost_ret (res_r2 rfl rfl (g := w.heap.size + 1) (x := .slice A2 l2.length c2) (y := .int .i64 b) (by (repeat (first | with_reducible exact hL1 | with_reducible apply Blk.set3 | with_reducible apply Blk.set2 | with_reducible refine Blk.alloc ?_ _ | with_reducible refine Blk.far ?_ (by first | omega | (dsimp only; omega)) _ | with_reducible refine Blk.drewN ?_ _ | with_reducible refine Blk.drew ?_)))) rfl ⟨rv A2 l2.length c2 b, by rw [HG.out]; rfl, ?_, by (repeat (first | with_reducible exact hw2 | with_reducible refine bel_alloc ?_ _ | with_reducible refine bel_set ?_ (by first | omega | (dsimp only; omega)) _ | with_reducible refine below_drewN ?_ _ | with_reducible refine Below.drew ?_))⟩
    rw [HG.out, hfb.out]
    exact ⟨A2, c2, rfl, SlB.wr hS3 hL1 (slice_ne _ _ _) (fun b h => by cases h) (((Wr.refl _ _).set_ 0 (.slice A2 l2.length c2)).set_ 1 (.int .i64 b)), hBd2⟩
  · rcases Decidable.em (4611686018427387904 < n) with h2 | h2
    · have HG : Hid (rWithin most (l, bad) = (0, rFail 1 (l2, bad2))) := (show _ = _ by rw [HW.out, if_pos (Or.inr h2)])
      have h3 : (4611686018427387904 : Int) < (n : Int) := by omega
      clear h2
      go_enter Tryz.func141, Tryz.ntmps141
      go_wp2_with fail
      refine HN.out.mono ?_
      rintro e w1 ⟨v, rfl, ⟨A2, c2, rfl, hS2, hBd2⟩, hb1⟩
      have hD0 := hB0.below hb1
      have hD1 := hB1.below hb1
      have hw1 := bel_call hbw hb1
      have hz0 : w.heap.size < w1.heap.size := hD0.lt
      have hz1 : w.heap.size + 1 < w1.heap.size := hD1.lt
      obtain ⟨a0, a1, e0, e1⟩ := hD0.two
      obtain ⟨b0, b1, f0, f1⟩ := hD1.two
      clear hB0 hB1 hbw hb1
      go_wp2_with fail
      have hK := hD0.set2 (.slice A2 l2.length c2) (.int .i64 bad2)
      have hK1 := (hD1.far (p := ⟨w.heap.size, 0, none⟩) (by dsimp only; omega) (.slice A2 l2.length c2)).far (p := ⟨w.heap.size, 1, none⟩) (by dsimp only; omega) (.int .i64 bad2)
      have hwK : Below w.heap.size w ((w1.setCell ⟨w.heap.size, 0, none⟩ (.slice A2 l2.length c2)).setCell ⟨w.heap.size, 1, none⟩ (.int .i64 bad2)) := by (repeat (first | with_reducible exact hw1 | with_reducible refine bel_alloc ?_ _ | with_reducible refine bel_set ?_ (by first | omega | (dsimp only; omega)) _ | with_reducible refine below_drewN ?_ _ | with_reducible refine Below.drew ?_))
      have hSK : SlB ((w1.setCell ⟨w.heap.size, 0, none⟩ (.slice A2 l2.length c2)).setCell ⟨w.heap.size, 1, none⟩ (.int .i64 bad2)) A2 c2 l2 := hS2.wr hD0 (slice_ne _ _ _) (fun b h => by cases h) (((Wr.refl _ _).set_ _ _).set_ _ _)
      refine (rfail_any (l := l2) 1 _).mono ?_
      rintro e w2 ⟨b, rfl, hfb, hb2⟩
      have hL1 := hK1.below hb2
      have hw2 := bel_call hwK hb2
      have hS3 := hSK.below hb2
      obtain ⟨b0, b1, f0, f1⟩ := hL1.two
      clear a0 a1 e0 e1 hK hK1 hwK hSK hb2
      go_wp2_with fail
      refine bodyPost_ret (res_r2 rfl rfl (g := w.heap.size + 1) (x := .slice A2 l2.length c2) (y := .int .i64 b) (by (repeat (first | with_reducible exact hL1 | with_reducible apply Blk.set3 | with_reducible apply Blk.set2 | with_reducible refine Blk.alloc ?_ _ | with_reducible refine Blk.far ?_ (by first | omega | (dsimp only; omega)) _ | with_reducible refine Blk.drewN ?_ _ | with_reducible refine Blk.drew ?_)))) rfl ⟨rv A2 l2.length c2 b, by rw [HG.out]; rfl, ?_, by (repeat (first | with_reducible exact hw2 | with_reducible refine bel_alloc ?_ _ | with_reducible refine bel_set ?_ (by first | omega | (dsimp only; omega)) _ | with_reducible refine below_drewN ?_ _ | with_reducible refine Below.drew ?_))⟩
      rw [HG.out, hfb.out]
      exact ⟨A2, c2, rfl, SlB.wr hS3 hL1 (slice_ne _ _ _) (fun b h => by cases h) (((Wr.refl _ _).set_ 0 (.slice A2 l2.length c2)).set_ 1 (.int .i64 b)), hBd2⟩
    · have HG : Hid (rWithin most (l, bad) = (n, (l2, bad2))) := (show _ = _ by rw [HW.out, if_neg (by simp only [gt_iff_lt]; omega)])
      have h3 : (n : Int) ≤ 4611686018427387904 := by omega
      clear h2
      go_enter Tryz.func141, Tryz.ntmps141
      go_wp2_with fail
      refine HN.out.mono ?_
      rintro e w1 ⟨v, rfl, ⟨A2, c2, rfl, hS2, hBd2⟩, hb1⟩
      have hD0 := hB0.below hb1
      have hD1 := hB1.below hb1
      have hw1 := bel_call hbw hb1
      have hz0 : w.heap.size < w1.heap.size := hD0.lt
      have hz1 : w.heap.size + 1 < w1.heap.size := hD1.lt
      obtain ⟨a0, a1, e0, e1⟩ := hD0.two
      obtain ⟨b0, b1, f0, f1⟩ := hD1.two
      clear hB0 hB1 hbw hb1
      go_wp2_with fail
      go_region
      all_goals
        go_wp2_with fail
        refine bodyPost_ret (res_r2 rfl rfl (g := w.heap.size + 1) (x := .slice A2 l2.length c2) (y := .int .i64 bad2) (by (repeat (first | with_reducible exact hD1 | with_reducible apply Blk.set3 | with_reducible apply Blk.set2 | with_reducible refine Blk.alloc ?_ _ | with_reducible refine Blk.far ?_ (by first | omega | (dsimp only; omega)) _ | with_reducible refine Blk.drewN ?_ _ | with_reducible refine Blk.drew ?_)))) rfl ⟨rv A2 l2.length c2 bad2, by rw [HG.out]; rfl, ?_, by (repeat (first | with_reducible exact hw1 | with_reducible refine bel_alloc ?_ _ | with_reducible refine bel_set ?_ (by first | omega | (dsimp only; omega)) _ | with_reducible refine below_drewN ?_ _ | with_reducible refine Below.drew ?_))⟩
        rw [HG.out]
        refine ⟨A2, c2, rfl, ?_, hBd2⟩
        exact SlB.wr (SlB.wr hS2 hD0 (slice_ne _ _ _) (fun b h => by cases h) (((Wr.refl _ _).set_ 0 (.slice A2 l2.length c2)).set_ 1 (.int .i64 bad2))) ((hD1.far (p := ⟨w.heap.size, 0, none⟩) (by dsimp only; omega) (.slice A2 l2.length c2)).far (p := ⟨w.heap.size, 1, none⟩) (by dsimp only; omega) (.int .i64 bad2)) (slice_ne _ _ _) (fun b h => by cases h) (((Wr.refl _ _).set_ 0 (.slice A2 l2.length c2)).set_ 1 (.int .i64 bad2)).drew

/-- bytes, and the reader then -/
def RGivesB (B : Nat) (r : List UInt8 × (List UInt8 × Nat)) (w : World) (e : Ending) (w' : World) : Prop :=
  ∃ A c m v, e = .returned (.tuple #[.slice A (List.length m) c, v]) ∧ Hid (m = r.1) ∧ SlB w' A c m ∧ RV w' B v r.2 ∧ Below w.heap.size w w'

set_option maxRecDepth 100000 in
set_option maxHeartbeats 1000000 in
theorem rFixed_any {A : Option Addr} {c bad : Nat} {l : List UInt8} (many : Int) (w : World) (hS : SlB w A c l) {B : Nat} (hBd : l ≠ [] → ∀ ad, A = some ad → ad.block < B) : Calls Tryz.prog 143 #[rv A l.length c bad, .int .i64 many] w (RGivesB B (rFixed many (l, bad)) w) := by
  have hB0 := (Blk.new w 233 #[.slice A l.length c, .int .i64 bad]).alloc (.cells #[.slice none 0 0, .int .i64 0] 233)
  have hB1 := Blk.newAt (w := w.alloc (.cells #[.slice A l.length c, .int .i64 bad] 233)) (g := w.heap.size + 1) (by simp) 233 #[.slice none 0 0, .int .i64 0]
  have hbw := bel_alloc (below_new w (.cells #[.slice A l.length c, .int .i64 bad] 233)) (.cells #[.slice none 0 0, .int .i64 0] 233)
  rcases Decidable.em (bad = 0) with h0 | h0
  · subst h0
    rcases Decidable.em (many < 0) with h1 | h1
    · have HG : Hid (rFixed many (l, 0) = ([], (l, 2))) := (show _ = _ by simp [rFixed, h1])
      go_enter Tryz.func143, Tryz.ntmps143
      go_wp2_with fail
      refine (rfail_any (l := l) 2 _).mono ?_
      rintro e w1 ⟨b, rfl, hfb, hb1⟩
      have hD1 := hB1.below hb1
      have hw1 := bel_call hbw hb1
      obtain ⟨b0, b1, f0, f1⟩ := hD1.two
      go_wp2_with fail
      refine bodyPost_ret (res_r2 rfl rfl (g := w.heap.size + 1) (x := .slice A l.length c) (y := .int .i64 b) (by (repeat (first | with_reducible exact hD1 | with_reducible apply Blk.set3 | with_reducible apply Blk.set2 | with_reducible refine Blk.alloc ?_ _ | with_reducible refine Blk.far ?_ (by first | omega | (dsimp only; omega)) _ | with_reducible refine Blk.drewN ?_ _ | with_reducible refine Blk.drew ?_)))) rfl ⟨none, 0, [], rv A l.length c b, rfl, by rw [HG.out]; rfl, SlB.nil _ _ _ (by simp [maxLen]) (fun _ => rfl), ?_, by (repeat (first | with_reducible exact hw1 | with_reducible refine bel_alloc ?_ _ | with_reducible refine bel_set ?_ (by first | omega | (dsimp only; omega)) _ | with_reducible refine below_drewN ?_ _ | with_reducible refine Below.drew ?_))⟩
      rw [HG.out]
      obtain rfl : b = 2 := by have := hfb.out; simp [rFail] at this; omega
      exact ⟨A, c, rfl, hS.below (by (repeat (first | with_reducible exact hw1 | with_reducible refine bel_alloc ?_ _ | with_reducible refine bel_set ?_ (by first | omega | (dsimp only; omega)) _ | with_reducible refine below_drewN ?_ _ | with_reducible refine Below.drew ?_))), hBd⟩
    · obtain ⟨k, rfl⟩ := Int.eq_ofNat_of_zero_le (by omega : 0 ≤ many)
      rcases Decidable.em (l.length < k) with h2 | h2
      · have HG : Hid (rFixed k (l, 0) = ([], (l, 2))) := (show _ = _ by simp [rFixed, h2])
        go_enter Tryz.func143, Tryz.ntmps143
        go_wp2_with fail
        refine (rfail_any (l := l) 2 _).mono ?_
        rintro e w1 ⟨b, rfl, hfb, hb1⟩
        have hD1 := hB1.below hb1
        have hw1 := bel_call hbw hb1
        obtain ⟨b0, b1, f0, f1⟩ := hD1.two
        go_wp2_with fail
        refine bodyPost_ret (res_r2 rfl rfl (g := w.heap.size + 1) (x := .slice A l.length c) (y := .int .i64 b) (by (repeat (first | with_reducible exact hD1 | with_reducible apply Blk.set3 | with_reducible apply Blk.set2 | with_reducible refine Blk.alloc ?_ _ | with_reducible refine Blk.far ?_ (by first | omega | (dsimp only; omega)) _ | with_reducible refine Blk.drewN ?_ _ | with_reducible refine Blk.drew ?_)))) rfl ⟨none, 0, [], rv A l.length c b, rfl, by rw [HG.out]; rfl, SlB.nil _ _ _ (by simp [maxLen]) (fun _ => rfl), ?_, by (repeat (first | with_reducible exact hw1 | with_reducible refine bel_alloc ?_ _ | with_reducible refine bel_set ?_ (by first | omega | (dsimp only; omega)) _ | with_reducible refine below_drewN ?_ _ | with_reducible refine Below.drew ?_))⟩
        rw [HG.out]
        obtain rfl : b = 2 := by have := hfb.out; simp [rFail] at this; omega
        exact ⟨A, c, rfl, hS.below (by (repeat (first | with_reducible exact hw1 | with_reducible refine bel_alloc ?_ _ | with_reducible refine bel_set ?_ (by first | omega | (dsimp only; omega)) _ | with_reducible refine below_drewN ?_ _ | with_reducible refine Below.drew ?_))), hBd⟩
      · have HG : Hid (rFixed k (l, 0) = (l.take k, (l.drop k, 0))) := (show _ = _ by simp [rFixed, h2])
        have hk : k ≤ l.length := by omega
        have hkc : k ≤ c := Nat.le_trans hk hS.2.1
        have hmx : c ≤ 9223372036854775807 := by have := hS.2.2.1; unfold maxLen at this; exact this
        have ht := hS.takeB k
        have hlt : (l.take k).length = k := by simp; omega
        have HLT := Lib.hid hlt
        clear hlt
        go_enter Tryz.func143, Tryz.ntmps143
        go_wp2_with fail
        all_goals
          go_region
        all_goals
          go_wp2_with fail
          have hw2 := (bel_alloc (below_new w (.cells #[.slice A l.length c, .int .i64 0] 233)) (.cells #[.slice none 0 0, .int .i64 0] 233))
          first
            | (have h := cutRV_eq hS hBd hk ‹_›
               refine bodyPost_ret (res_r2 rfl rfl (g := w.heap.size + 1) (x := .slice A (l.length - k) 0) (y := .int .i64 0) (Blk.newAt (by simp) _ _).drew) rfl ⟨A, k, l.take k, rv A (l.length - k) 0 0, ?_, by rw [HG.out]; rfl, ?_, ?_, (bel_alloc (below_new _ _) _).drew⟩
               · rw [HLT.out]; rfl
               · exact Sl.below (by have := ht; rw [‹c = k›] at this; exact this) (bel_alloc (below_new _ _) _).drew
               · rw [HG.out]; exact h.below (bel_alloc (below_new _ _) _).drew)
            | (have h := cutRV_ne hS hBd hk ‹_›
               refine bodyPost_ret (res_r2 rfl rfl (g := w.heap.size + 1) (x := .slice (Option.map (fun x => x.add k) A) (l.length - k) (c - k)) (y := .int .i64 0) (Blk.newAt (by simp) _ _).drew) rfl ⟨A, c, l.take k, rv (Option.map (fun x => x.add k) A) (l.length - k) (c - k) 0, ?_, by rw [HG.out]; rfl, ?_, ?_, (bel_alloc (below_new _ _) _).drew⟩
               · rw [HLT.out]; rfl
               · exact Sl.below ht (bel_alloc (below_new _ _) _).drew
               · rw [HG.out]; exact h.below (bel_alloc (below_new _ _) _).drew)
  · have hb : ((bad : Int) != 0) = true := by simp; omega
    have HG : Hid (rFixed many (l, bad) = ([], (l, bad))) := (show _ = _ by simp [rFixed, h0])
    clear h0
    go_enter Tryz.func143, Tryz.ntmps143
    go_wp2_with fail
    go_region
    all_goals
      go_wp2_with fail
      refine bodyPost_ret (res_r2 rfl rfl (g := w.heap.size + 1) (x := .slice A l.length c) (y := .int .i64 bad) (Blk.newAt (by simp) _ _).drew) rfl ⟨none, 0, [], rv A l.length c bad, rfl, by rw [HG.out]; rfl, SlB.nil _ _ _ (by simp [maxLen]) (fun _ => rfl), ?_, (bel_alloc (below_new _ _) _).drew⟩
      rw [HG.out]
      exact ⟨A, c, rfl, hS.below (bel_alloc (below_new _ _) _).drew, hBd⟩

set_option maxRecDepth 100000 in
set_option maxHeartbeats 1000000 in
theorem rEnd_any {A : Option Addr} {c bad : Nat} {l : List UInt8} (w : World) : Calls Tryz.prog 144 #[rv A l.length c bad] w fun e w' => e = .returned (.int .i64 (rEnd (l, bad) : Nat)) ∧ Below w.heap.size w w' := by
  rcases Decidable.em (bad = 0) with h0 | h0
  · subst h0
    rcases Decidable.em (0 < l.length) with h1 | h1
    · have HG : Hid (rEnd (l, 0) = 2) := (show (if (0 : Nat) = 0 ∧ 0 < l.length then 2 else 0) = 2 by rw [if_pos ⟨rfl, h1⟩])
      go_enter Tryz.func144, Tryz.ntmps144
      go_wp2_with fail
      go_ret
      exact ⟨by rw [HG.out]; rfl, below_new _ _⟩
    · have HG : Hid (rEnd (l, 0) = 0) := (show (if (0 : Nat) = 0 ∧ 0 < l.length then 2 else 0) = 0 by rw [if_neg (fun h => h1 h.2)])
      go_enter Tryz.func144, Tryz.ntmps144
      go_wp2_with fail
      go_ret
      exact ⟨by rw [HG.out]; rfl, below_new _ _⟩
  · have hb : ((bad : Int) == 0) = false := by simp; omega
    have HG : Hid (rEnd (l, bad) = bad) := (show (if bad = 0 ∧ 0 < l.length then 2 else bad) = bad by rw [if_neg (fun h => h0 h.1)])
    clear h0
    go_enter Tryz.func144, Tryz.ntmps144
    go_wp2_with fail
    go_ret
    exact ⟨by rw [HG.out]; rfl, below_new _ _⟩
end Go.Proofs.YtddmfoldnlafaaaGreatDoor

namespace Go.Proofs.YtddmfoldnlafaaaGreatDoor
open Go.RowKit

theorem bound_here {w : World} {A : Option Addr} {c B : Nat} {l : List UInt8} (hS : SlB w A c l) (hBd : l ≠ [] → ∀ ad, A = some ad → ad.block < B) : l ≠ [] → ∀ ad, A = some ad → ad.block < min B w.heap.size := by
  intro hn ad hA
  have hl : 0 < l.length := by cases l <;> simp_all
  obtain ⟨ad2, hA2, hc⟩ := hS.at1 (k := 0) hl
  rw [hA] at hA2
  injection hA2 with e
  subst e
  have := World.block_lt_of_cell? w _ hc
  rw [addr_add_block] at this
  have := hBd hn ad hA
  omega
theorem Own.litAt {w : World} {base g : Nat} {e : TypeId} (size : Nat) (hg : g = w.heap.size) (h : base ≤ w.heap.size) : Own (w.alloc (.cells #[] e)) base e size (some ⟨g, 0, none⟩) 0 0 [] := by subst hg; exact Own.lit size h

theorem Blk.apart {w w' : World} {g C : Nat} {t : TypeId} {cs : Array Value} (h : Blk w g t cs) (hg : g < C) (hb : Below C w w') : Blk w' g t cs := (hb.block g hg).trans h
theorem SlB.apart {w w' : World} {A : Option Addr} {c B C : Nat} {l : List UInt8} (h : SlB w A c l) (hBd : l ≠ [] → ∀ ad, A = some ad → ad.block < B) (hBC : B ≤ C) (hb : Below C w w') : SlB w' A c l := by
  refine ⟨h.1, h.2.1, h.2.2.1, h.2.2.2.1, fun j u hj => ?_⟩
  obtain ⟨ad, hA, hc⟩ := h.2.2.2.2 j u hj
  have hne : l ≠ [] := by intro e; rw [e] at hj; simp at hj
  exact ⟨ad, hA, (hb.cell (by rw [addr_add_block]; exact Nat.lt_of_lt_of_le (hBd hne ad hA) hBC)).trans hc⟩

end Go.Proofs.YtddmfoldnlafaaaGreatDoor

namespace Go.Proofs.YtddmfoldnlafaaaGreatDoor
open Go.RowKit

theorem Blk.cells2 {w : World} {g : Nat} {t : TypeId} {a b : Value} (h : Blk w g t #[a, b]) : w.cell? ⟨g, 0, none⟩ = some a ∧ w.cell? ⟨g, 1, none⟩ = some b := ⟨h.cell 0, h.cell 1⟩
theorem below_two {B : Nat} {a w : World} (h : Below B a w) {g : Nat} (hg : B ≤ g) (x y : Value) : Below B a ((w.setCell ⟨g, 0, none⟩ x).setCell ⟨g, 1, none⟩ y) := (h.setCell (p := ⟨g, 0, none⟩) hg x).setCell (p := ⟨g, 1, none⟩) hg y
theorem blk_two_far {w : World} {g g' : Nat} {t : TypeId} {cs : Array Value} (h : Blk w g t cs) (hne : g ≠ g') (x y : Value) : Blk ((w.setCell ⟨g', 0, none⟩ x).setCell ⟨g', 1, none⟩ y) g t cs :=
  (h.far (p := ⟨g', 0, none⟩) hne x).far (p := ⟨g', 1, none⟩) hne y
theorem below_wr {B : Nat} {a w w' : World} {g : Nat} (h : Below B a w) (hw : Wr w w' g) (hB : B ≤ w.heap.size) (hg : B ≤ g) : Below B a w' := h.trans (hw.below hB hg)
theorem wr_below {B : Nat} {a w w' : World} {g : Nat} (h : Wr a w g) (hs : a.heap.size ≤ B) (k : Below B w w') : Wr a w' g :=
  ⟨k.os.trans h.os, k.tape.trans h.tape, k.output.trans h.output, Nat.le_trans h.size k.size, fun i hi hn => (k.block i (by omega)).trans (h.block i hi hn)⟩
theorem IsR.drew {g B : Nat} {s : List UInt8 × Nat} {w : World} (h : IsR w g B s) : IsR w.drew g B s := h

attribute [local go_sem ↓] Go.wp_at_zero Go.wp_at_succ

end Go.Proofs.YtddmfoldnlafaaaGreatDoor

namespace Go.Proofs.YtddmfoldnlafaaaGreatDoor
open Go.RowKit
attribute [local go_sem ↓] Go.wp_at_zero Go.wp_at_succ

theorem res_rb {fn : Func} {a b : Nat} {tmps : Array Value} {w : World} {g : Nat} {x y : Value} (hres : fn.results = #[.cell a 233, .tmp b]) (ha : tmps.getD a undef = .pointer (some ⟨g, 0, none⟩)) (hB : Blk w g 233 #[x, y]) :
    (results fn tmps).run Tryz.prog w = .ok (.tuple #[.agg #[x, y], tmps.getD b undef]) w := by
  obtain ⟨b0, b1, _, _⟩ := hB.two
  have ha' : tmps[a]?.getD undef = .pointer (some ⟨g, 0, none⟩) := by simpa using ha
  simp [results, hres, go_sem, b0, b1, ha']
/-- both act: the readers then -/
def ActOut (w : World) (g B C : Nat) (s : List UInt8 × Nat) (e : Ending) (w' : World) : Prop :=
  ∃ s' v, e = .returned (.tuple #[v, .bool true]) ∧ s'.1.length ≤ s.1.length ∧ RV w' C v s' ∧ IsR w' g B s' ∧ Wr w w' g

theorem kk {w : World} {g g' : Nat} {t t' : TypeId} {a b x y z : Value} (h : Blk w g t #[a, b]) (k : Blk w g' t' #[x, y, z]) : w.cell? ⟨g, 0, none⟩ = some a ∧ w.cell? ⟨g, 1, none⟩ = some b ∧ w.cell? ⟨g', 1, none⟩ = some y ∧ w.cell? ⟨g', 2, none⟩ = some z :=
  ⟨h.cell 0, h.cell 1, k.cell 1, k.cell 2⟩
theorem SlN.wr {w w' : World} {g : Nat} {t : TypeId} {x y : Value} {A : Option Addr} {c : Nat} {l : List Nat} (h : SlN w A c l) (hb : Blk w g t #[x, y]) (hx : ∀ n, x ≠ nv n) (hy : ∀ n, y ≠ nv n) (hw : Wr w w' g) : SlN w' A c l := by
  refine ⟨h.1, h.2.1, h.2.2.1, h.2.2.2.1, fun j u hj => ?_⟩
  obtain ⟨ad, hA, hc⟩ := h.2.2.2.2 j u hj
  refine ⟨ad, hA, ?_⟩
  have hlt := World.block_lt_of_cell? w _ hc
  have hne : (ad.add j).block ≠ g := by
    intro e
    have hsp := World.cell?_spot hc
    have hu : ∃ b, u = nv b := by
      simp only [List.getElem?_map, Option.map_eq_some_iff] at hj
      obtain ⟨b, _, hb⟩ := hj
      exact ⟨b, hb.symm⟩
    obtain ⟨b, rfl⟩ := hu
    have he : ad.add j = ⟨g, (ad.add j).off, none⟩ := by
      cases h1 : ad.add j with
      | mk bl of sp => rw [h1] at e hsp; simp at e hsp; subst e; subst hsp; rfl
    rw [he, hb.cell] at hc
    match (ad.add j).off, hc with
    | 0, hc => simp at hc; exact hx b hc
    | 1, hc => simp at hc; exact hy b hc
    | n + 2, hc => simp at hc
  exact (World.cell?_of_block (hw.block _ hlt (fun e => hne (by injection e)))).trans hc
theorem SlN.wrR {w w' : World} {g B : Nat} {s : List UInt8 × Nat} {A : Option Addr} {c : Nat} {l : List Nat} (h : SlN w A c l) (hR : IsR w g B s) (hw : Wr w w' g) : SlN w' A c l := by
  obtain ⟨_, _, hb, _⟩ := hR
  exact SlN.wr h hb (fun n h => by cases h) (fun n h => by cases h' : s.2 <;> (rw [h'] at h; cases h)) hw
theorem rFail_len (k : Nat) (s : List UInt8 × Nat) : (rFail k s).1.length ≤ s.1.length := by unfold rFail; split <;> exact Nat.le_refl _
theorem rWithin_len (n : Nat) (s : List UInt8 × Nat) : (rWithin n s).2.1.length ≤ s.1.length := by
  have := rNum_len s
  unfold rWithin
  split
  · exact Nat.le_trans (rFail_len _ _) this
  · exact this
theorem rFixed_len (n : Int) (s : List UInt8 × Nat) : (rFixed n s).2.1.length ≤ s.1.length := by
  unfold rFixed
  split
  · exact Nat.le_refl _
  · split
    · exact Nat.le_refl _
    · simp
theorem rText_len (n : Int) (s : List UInt8 × Nat) : (rText n s).2.1.length ≤ s.1.length := Nat.le_trans (rFixed_len _ _) (rCount_len _ _)
theorem rNums_len : ∀ (n : Nat) (s : List UInt8 × Nat), (rNums n s).2.1.length ≤ s.1.length
  | 0, s => Nat.le_refl _
  | n + 1, s => by
    have h1 := rNum_len s
    have h2 := rNums_len n (rNum s).2
    unfold rNums
    split
    · exact h1
    · split <;> exact Nat.le_trans h2 h1
theorem rList_len (n : Int) (s : List UInt8 × Nat) : (rList n s).2.1.length ≤ s.1.length := Nat.le_trans (rNums_len _ _) (rCount_len _ _)

def u6 (kind : Int) (k : Int) : Prop := (IntKind.u64.wrap kind).tmod 6 = k

theorem u6_cases (kind : Int) : u6 kind 0 ∨ u6 kind 1 ∨ u6 kind 2 ∨ u6 kind 3 ∨ u6 kind 4 ∨ u6 kind 5 := by
  unfold u6
  rw [IntKind.wrap_u64]
  have h : (0 : Int) ≤ kind % 18446744073709551616 := Int.emod_nonneg _ (by decide)
  rw [Int.tmod_eq_emod_of_nonneg h]
  omega
end Go.Proofs.YtddmfoldnlafaaaGreatDoor

namespace Go.Proofs.YtddmfoldnlafaaaGreatDoor
open Go.RowKit
attribute [local go_sem ↓] Go.wp_at_zero Go.wp_at_succ

/-- a cell as a value -/
abbrev cv (k : Int) (A : Option Addr) (n c : Nat) : Value := .agg #[.int .i64 k, .slice A n c]

theorem strs_map (l : List UInt8) : strOfNums (l.map fun b => (b.toNat : Int)) = ⟨l.toArray⟩ := by
  simp only [strOfNums, List.map_map]
  congr 2
  simp [Function.comp_def]
theorem of_map (l : List UInt8) : Lib.bytesOf (l.map fun b => (b.toNat : Int)) = l := by
  simp only [Lib.bytesOf, List.map_map]
  simp [Function.comp_def]
/-- a new cell -/
def GivesC (w0 : World) (x : Ce) (e : Ending) (w' : World) : Prop :=
  ∃ A c m, e = .returned (cv x.1 A (List.length m) c) ∧ Hid (m = x.2) ∧ OwnB w' w0.heap.size 5 A c m ∧ Below w0.heap.size w0 w'

end Go.Proofs.YtddmfoldnlafaaaGreatDoor
