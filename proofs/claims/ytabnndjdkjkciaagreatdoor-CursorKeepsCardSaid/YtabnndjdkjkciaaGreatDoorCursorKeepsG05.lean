/- WHAT IT HOLDS: what the document's reader (a struct by value) answers, walked. | WHAT IT HOLDS: the document's ListOf, walked. | WHAT IT HOLDS: same, walked. | WHAT IT HOLDS: act, walked. | WHAT IT HOLDS: what the small functions of the package cell compute, walked. | WHAT IT HOLDS: arguments that are slices of structs, opened to the words of Kit; over any program. | WHAT IT HOLDS: Later, Put, Word of the package cell, and the law's Document and Long, walked. | WHAT IT HOLDS: the document's small functions of layer 5, walked. | WHAT IT HOLDS: row and alike of the package cell, walked; append as a step of a region that draws. -/
import Derived.Test.YtabnndjdkjkciaaGreatDoorCursorKeepsG04
import Derived.RegionTactic
import Derived.ChangeAlike
import Derived.Deep.RegionHeld3
import Derived.Deep.DrawnRows
import Derived.Test.YtabnndjdkjkciaaGreatDoorShelfB
import Derived.Lib.Bytes
import Derived.Test.YtabnndjdkjkciaaGreatDoorCursorKeepsG03
import Derived.Deep.Slices
import Derived.Deep.Fields
import Derived.ChangeSame
import Derived.Laws.StructEq
namespace Go.Proofs.YtabnndjdkjkciaaGreatDoor
open Go.RowKit

theorem res_r1 {fn : Func} {a : Nat} {tmps : Array Value} {w : World} {g : Nat} {x y : Value} (hres : fn.results = #[.cell a 199]) (ha : tmps.getD a undef = .pointer (some ⟨g, 0, none⟩)) (hB : Blk w g 199 #[x, y]) :
    (results fn tmps).run Tryz.prog w = .ok (.agg #[x, y]) w := by
  obtain ⟨b0, b1, _, _⟩ := hB.two
  have ha' : tmps[a]?.getD undef = .pointer (some ⟨g, 0, none⟩) := by simpa using ha
  simp [results, hres, go_sem, b0, b1, ha']
theorem res_r2 {fn : Func} {a b : Nat} {tmps : Array Value} {w : World} {g : Nat} {x y : Value} (hres : fn.results = #[.tmp b, .cell a 199]) (ha : tmps.getD a undef = .pointer (some ⟨g, 0, none⟩)) (hB : Blk w g 199 #[x, y]) :
    (results fn tmps).run Tryz.prog w = .ok (.tuple #[tmps.getD b undef, .agg #[x, y]]) w := by
  obtain ⟨b0, b1, _, _⟩ := hB.two
  have ha' : tmps[a]?.getD undef = .pointer (some ⟨g, 0, none⟩) := by simpa using ha
  simp [results, hres, go_sem, b0, b1, ha']

/-- the document's reader as a value -/
abbrev rv (A : Option Addr) (n c : Nat) (bad : Nat) : Value := .agg #[.slice A n c, .int .i64 (bad : Int)]
/-- a reader by value that reads as s -/
def RV (w : World) (B : Nat) (v : Value) (s : List UInt8 × Nat) : Prop := ∃ A c, v = rv A s.1.length c s.2 ∧ SlB w A c s.1 ∧ (s.1 ≠ [] → ∀ ad, A = some ad → ad.block < B)
theorem RV.below {w w' : World} {B : Nat} {v : Value} {s : List UInt8 × Nat} (h : RV w B v s) (hb : Below w.heap.size w w') : RV w' B v s := by
  obtain ⟨A, c, h1, h2, h3⟩ := h
  exact ⟨A, c, h1, h2.below hb, h3⟩

set_option maxRecDepth 100000 in
set_option maxHeartbeats 400000 in
theorem rfail_any {A : Option Addr} {n c bad : Nat} {l : List UInt8} (k : Nat) (w : World) : Calls Tryz.prog 172 #[rv A n c bad, .int .i64 k] w fun e w' => ∃ b : Nat, e = .returned (rv A n c b) ∧ Hid (rFail k (l, bad) = (l, b)) ∧ Below w.heap.size w w' := by
  rcases Decidable.em (bad = 0) with h0 | h0
  · subst h0
    go_enter Tryz.func172, Tryz.ntmps172
    go_wp2_with fail
    exact bodyPost_ret (res_r1 rfl rfl (g := w.heap.size + 1) (x := .slice A n c) (y := .int .i64 k) (Blk.newAt (by simp) _ _)) rfl ⟨k, rfl, (show _ = _ by simp [rFail]), bel_alloc (below_new _ _) _⟩
  · have hb : ((bad : Int) == 0) = false := by simp; omega
    have H0 := Lib.hid h0
    clear h0
    go_enter Tryz.func172, Tryz.ntmps172
    go_wp2_with fail
    exact bodyPost_ret (res_r1 rfl rfl (g := w.heap.size + 1) (x := .slice A n c) (y := .int .i64 bad) (Blk.newAt (by simp) _ _)) rfl ⟨bad, rfl, (show _ = _ by simp [rFail, H0.out]), bel_alloc (below_new _ _) _⟩

theorem cut_bound {A : Option Addr} {k B : Nat} {l : List UInt8} (hBd : l ≠ [] → ∀ ad, A = some ad → ad.block < B) : l.drop k ≠ [] → ∀ ad, Option.map (fun x => x.add k) A = some ad → ad.block < B := by
  intro hn ad hA
  cases A with
  | none => simp at hA
  | some a =>
    simp at hA
    rw [← hA, addr_add_block]
    exact hBd (drop_ne hn) a rfl
theorem cutRV_eq {w : World} {A : Option Addr} {c k : Nat} {l : List UInt8} (hS : SlB w A c l) {B : Nat} (hBd : l ≠ [] → ∀ ad, A = some ad → ad.block < B) (hk : k ≤ l.length) (h : c = k) : RV w B (rv A (l.length - k) 0 0) (l.drop k, 0) := by
  have := Sl.cutB hS hk
  rw [if_pos h, show c - k = 0 from by omega, ← List.length_drop] at this
  exact ⟨A, 0, by rw [← List.length_drop], this, fun hn => hBd (drop_ne hn)⟩
theorem cutRV_ne {w : World} {A : Option Addr} {c k : Nat} {l : List UInt8} (hS : SlB w A c l) {B : Nat} (hBd : l ≠ [] → ∀ ad, A = some ad → ad.block < B) (hk : k ≤ l.length) (h : ¬ c = k) : RV w B (rv (Option.map (fun x => x.add k) A) (l.length - k) (c - k) 0) (l.drop k, 0) := by
  have := Sl.cutB hS hk
  rw [if_neg h, ← List.length_drop] at this
  exact ⟨_, c - k, by rw [← List.length_drop], this, cut_bound hBd⟩

/-- a number, and the reader then -/
def RGives (k : IntKind) (B : Nat) (r : Nat × (List UInt8 × Nat)) (w : World) (e : Ending) (w' : World) : Prop := ∃ v, e = .returned (.tuple #[.int k (r.1 : Int), v]) ∧ RV w' B v r.2 ∧ Below w.heap.size w w'

set_option maxRecDepth 100000 in
set_option maxHeartbeats 1000000 in
theorem rNumber_any {A : Option Addr} {c bad : Nat} {l : List UInt8} (w : World) (hS : SlB w A c l) {B : Nat} (hBd : l ≠ [] → ∀ ad, A = some ad → ad.block < B) : Calls Tryz.prog 159 #[rv A l.length c bad] w (RGives .u64 B (rNum (l, bad)) w) := by
  rcases Decidable.em (bad = 0) with h0 | h0
  · subst h0
    go_enter Tryz.func159, Tryz.ntmps159
    go_wp2_with fail
    refine (rTake_any A c l _ (hS.below (bel_alloc (below_new _ _) _))).mono ?_
    rintro e w1 ⟨hb1, ⟨ht, rfl⟩ | ⟨n, k, ht, rfl⟩⟩
    · have HN : Hid (rNum (l, 0) = (0, (l, 2))) := (show _ = _ by simp [rNum, ht])
      clear ht
      have hB0 := ((Blk.new w 199 #[.slice A l.length c, .int .i64 0]).alloc (.cells #[.slice none 0 0, .int .i64 0] 199)).below hb1
      have hB1 := (Blk.newAt (w := w.alloc (.cells #[.slice A l.length c, .int .i64 0] 199)) (g := w.heap.size + 1) (by simp) 199 #[.slice none 0 0, .int .i64 0]).below hb1
      have hw1 := bel_call (bel_alloc (below_new w _) _) hb1
      obtain ⟨a0, a1, _, _⟩ := hB0.two
      obtain ⟨b0, b1, f0, f1⟩ := hB1.two
      go_wp2_with fail
      refine (rfail_any (l := l) (bad := 0) 2 _).mono ?_
      rintro e w2 ⟨b, rfl, hfb, hb2⟩
      obtain rfl : b = 2 := by have := hfb.out; simp [rFail] at this; omega
      have hw2 := bel_call hw1 hb2
      obtain ⟨b0, b1, f0, f1⟩ := (hB1.below hb2).two
      have hE1 := hB1.below hb2
      go_wp2_with fail
      refine bodyPost_ret (res_r2 rfl rfl (g := w.heap.size + 1) (x := .slice A l.length c) (y := .int .i64 2) (by (repeat (first | with_reducible exact hE1 | with_reducible apply Blk.set3 | with_reducible apply Blk.set2 | with_reducible refine Blk.alloc ?_ _ | with_reducible refine Blk.far ?_ (by first | omega | (dsimp only; omega)) _ | with_reducible refine Blk.drewN ?_ _ | with_reducible refine Blk.drew ?_)))) rfl ⟨rv A l.length c 2, by rw [HN.out]; rfl, ?_, by (repeat (first | with_reducible exact hw2 | with_reducible refine bel_alloc ?_ _ | with_reducible refine bel_set ?_ (by first | omega | (dsimp only; omega)) _ | with_reducible refine below_drewN ?_ _ | with_reducible refine Below.drew ?_))⟩
      rw [HN.out]
      exact ⟨A, c, rfl, hS.below (by (repeat (first | with_reducible exact hw2 | with_reducible refine bel_alloc ?_ _ | with_reducible refine bel_set ?_ (by first | omega | (dsimp only; omega)) _ | with_reducible refine below_drewN ?_ _ | with_reducible refine Below.drew ?_))), hBd⟩
    · have HN : Hid (rNum (l, 0) = (n, (l.drop k, 0))) := (show _ = _ by simp [rNum, ht])
      obtain ⟨hu, hk, _⟩ := take_some ht
      have hkc : k ≤ c := Nat.le_trans hk hS.2.1
      have hmx : c ≤ 9223372036854775807 := by have := hS.2.2.1; unfold maxLen at this; exact this
      have hcut := Sl.cutB hS hk
      clear ht
      have hB0 := ((Blk.new w 199 #[.slice A l.length c, .int .i64 0]).alloc (.cells #[.slice none 0 0, .int .i64 0] 199)).below hb1
      have hB1 := (Blk.newAt (w := w.alloc (.cells #[.slice A l.length c, .int .i64 0] 199)) (g := w.heap.size + 1) (by simp) 199 #[.slice none 0 0, .int .i64 0]).below hb1
      have hw1 := bel_call (bel_alloc (below_new w _) _) hb1
      obtain ⟨a0, a1, e0, e1⟩ := hB0.two
      obtain ⟨b0, b1, f0, f1⟩ := hB1.two
      go_wp2_with fail
      all_goals
        go_region
      all_goals
        go_wp2_with fail
        first
          | (have h := cutRV_eq hS hBd hk ‹_›
             refine bodyPost_ret (res_r2 rfl rfl (g := w.heap.size + 1) (x := .slice A (l.length - k) 0) (y := .int .i64 0) (by (repeat (first | with_reducible exact hB1 | with_reducible apply Blk.set3 | with_reducible apply Blk.set2 | with_reducible refine Blk.alloc ?_ _ | with_reducible refine Blk.far ?_ (by first | omega | (dsimp only; omega)) _ | with_reducible refine Blk.drewN ?_ _ | with_reducible refine Blk.drew ?_)))) rfl ⟨rv A (l.length - k) 0 0, by rw [HN.out]; rfl, ?_, by (repeat (first | with_reducible exact hw1 | with_reducible refine bel_alloc ?_ _ | with_reducible refine bel_set ?_ (by first | omega | (dsimp only; omega)) _ | with_reducible refine below_drewN ?_ _ | with_reducible refine Below.drew ?_))⟩
             rw [HN.out]
             exact h.below (by (repeat (first | with_reducible exact hw1 | with_reducible refine bel_alloc ?_ _ | with_reducible refine bel_set ?_ (by first | omega | (dsimp only; omega)) _ | with_reducible refine below_drewN ?_ _ | with_reducible refine Below.drew ?_))))
          | (have h := cutRV_ne hS hBd hk ‹_›
             refine bodyPost_ret (res_r2 rfl rfl (g := w.heap.size + 1) (x := .slice (Option.map (fun x => x.add k) A) (l.length - k) (c - k)) (y := .int .i64 0) (by (repeat (first | with_reducible exact hB1 | with_reducible apply Blk.set3 | with_reducible apply Blk.set2 | with_reducible refine Blk.alloc ?_ _ | with_reducible refine Blk.far ?_ (by first | omega | (dsimp only; omega)) _ | with_reducible refine Blk.drewN ?_ _ | with_reducible refine Blk.drew ?_)))) rfl ⟨rv (Option.map (fun x => x.add k) A) (l.length - k) (c - k) 0, by rw [HN.out]; rfl, ?_, by (repeat (first | with_reducible exact hw1 | with_reducible refine bel_alloc ?_ _ | with_reducible refine bel_set ?_ (by first | omega | (dsimp only; omega)) _ | with_reducible refine below_drewN ?_ _ | with_reducible refine Below.drew ?_))⟩
             rw [HN.out]
             exact h.below (by (repeat (first | with_reducible exact hw1 | with_reducible refine bel_alloc ?_ _ | with_reducible refine bel_set ?_ (by first | omega | (dsimp only; omega)) _ | with_reducible refine below_drewN ?_ _ | with_reducible refine Below.drew ?_))))
  · have hb : ((bad : Int) != 0) = true := by simp; omega
    have HN : Hid (rNum (l, bad) = (0, (l, bad))) := (show _ = _ by simp [rNum, h0])
    clear h0
    go_enter Tryz.func159, Tryz.ntmps159
    go_wp2_with fail
    go_region
    all_goals
      go_wp2_with fail
      refine bodyPost_ret (res_r2 rfl rfl (g := w.heap.size + 1) (x := .slice A l.length c) (y := .int .i64 bad) (Blk.newAt (by simp) _ _).drew) rfl ⟨rv A l.length c bad, by rw [HN.out]; rfl, ?_, (bel_alloc (below_new _ _) _).drew⟩
      rw [HN.out]
      exact ⟨A, c, rfl, hS.below (bel_alloc (below_new _ _) _).drew, hBd⟩

set_option maxRecDepth 100000 in
set_option maxHeartbeats 1000000 in
theorem rWithin_any {A : Option Addr} {c bad : Nat} {l : List UInt8} (most : Nat) (w : World) (hS : SlB w A c l) {B : Nat} (hBd : l ≠ [] → ∀ ad, A = some ad → ad.block < B) : Calls Tryz.prog 113 #[rv A l.length c bad, .int .u64 most] w (RGives .i64 B (rWithin most (l, bad)) w) := by
  have hB0 := (Blk.new w 199 #[.slice A l.length c, .int .i64 bad]).alloc (.cells #[.slice none 0 0, .int .i64 0] 199)
  have hB1 := Blk.newAt (w := w.alloc (.cells #[.slice A l.length c, .int .i64 bad] 199)) (g := w.heap.size + 1) (by simp) 199 #[.slice none 0 0, .int .i64 0]
  have hbw := bel_alloc (below_new w (.cells #[.slice A l.length c, .int .i64 bad] 199)) (.cells #[.slice none 0 0, .int .i64 0] 199)
  have hNum := rNumber_any (bad := bad) _ (hS.below hbw) hBd
  have hW : rWithin most (l, bad) = if (rNum (l, bad)).1 > most ∨ (rNum (l, bad)).1 > 4611686018427387904 then (0, rFail 1 (rNum (l, bad)).2) else rNum (l, bad) := rfl
  generalize rNum (l, bad) = r at *
  obtain ⟨n, l2, bad2⟩ := r
  have HW := Lib.hid hW
  have HN := Lib.hid hNum
  clear hW hNum
  rcases Decidable.em (most < n) with h1 | h1
  · have HG : Hid (rWithin most (l, bad) = (0, rFail 1 (l2, bad2))) := (show _ = _ by rw [HW.out, if_pos (Or.inl h1)])
    go_enter Tryz.func113, Tryz.ntmps113
    go_wp2_with fail
    refine HN.out.mono ?_
    rintro e w1 ⟨v, rfl, ⟨A2, c2, rfl, hS2, hBd2⟩, hb1⟩
    have hD0 := hB0.below hb1
    have hD1 := hB1.below hb1
    have hw1 := bel_call hbw hb1
    have hz0 : w.heap.size < w1.heap.size := hD0.lt
    have hz1 : w.heap.size + 1 < w1.heap.size := hD1.lt
    obtain ⟨a0, a1, e0, e1⟩ := hD0.two
    obtain ⟨b0, b1, f0, f1⟩ := hD1.two
    clear hB0 hB1 hbw hb1
    go_wp2_with fail
    have hK := hD0.set2 (.slice A2 l2.length c2) (.int .i64 bad2)
    have hK1 := (hD1.far (p := ⟨w.heap.size, 0, none⟩) (by dsimp only; omega) (.slice A2 l2.length c2)).far (p := ⟨w.heap.size, 1, none⟩) (by dsimp only; omega) (.int .i64 bad2)
    have hwK : Below w.heap.size w ((w1.setCell ⟨w.heap.size, 0, none⟩ (.slice A2 l2.length c2)).setCell ⟨w.heap.size, 1, none⟩ (.int .i64 bad2)) := by (repeat (first | with_reducible exact hw1 | with_reducible refine bel_alloc ?_ _ | with_reducible refine bel_set ?_ (by first | omega | (dsimp only; omega)) _ | with_reducible refine below_drewN ?_ _ | with_reducible refine Below.drew ?_))
    have hSK : SlB ((w1.setCell ⟨w.heap.size, 0, none⟩ (.slice A2 l2.length c2)).setCell ⟨w.heap.size, 1, none⟩ (.int .i64 bad2)) A2 c2 l2 := hS2.wr hD0 (slice_ne _ _ _) (fun b h => by cases h) (((Wr.refl _ _).set_ _ _).set_ _ _)
    refine (rfail_any (l := l2) 1 _).mono ?_
    rintro e w2 ⟨b, rfl, hfb, hb2⟩
    have hL1 := hK1.below hb2
    have hw2 := bel_call hwK hb2
    have hS3 := hSK.below hb2
    obtain ⟨b0, b1, f0, f1⟩ := hL1.two
    clear a0 a1 e0 e1 hK hK1 hwK hSK hb2
    go_wp2_with fail
    refine bodyPost_ret (res_r2 rfl rfl (g := w.heap.size + 1) (x := .slice A2 l2.length c2) (y := .int .i64 b) (by (repeat (first | with_reducible exact hL1 | with_reducible apply Blk.set3 | with_reducible apply Blk.set2 | with_reducible refine Blk.alloc ?_ _ | with_reducible refine Blk.far ?_ (by first | omega | (dsimp only; omega)) _ | with_reducible refine Blk.drewN ?_ _ | with_reducible refine Blk.drew ?_)))) rfl ⟨rv A2 l2.length c2 b, by rw [HG.out]; rfl, ?_, by (repeat (first | with_reducible exact hw2 | with_reducible refine bel_alloc ?_ _ | with_reducible refine bel_set ?_ (by first | omega | (dsimp only; omega)) _ | with_reducible refine below_drewN ?_ _ | with_reducible refine Below.drew ?_))⟩
    rw [HG.out, hfb.out]
    exact ⟨A2, c2, rfl, SlB.wr hS3 hL1 (slice_ne _ _ _) (fun b h => by cases h) (((Wr.refl _ _).set_ 0 (.slice A2 l2.length c2)).set_ 1 (.int .i64 b)), hBd2⟩
  · rcases Decidable.em (4611686018427387904 < n) with h2 | h2
    · have HG : Hid (rWithin most (l, bad) = (0, rFail 1 (l2, bad2))) := (show _ = _ by rw [HW.out, if_pos (Or.inr h2)])
      have h3 : (4611686018427387904 : Int) < (n : Int) := by omega
      clear h2
      go_enter Tryz.func113, Tryz.ntmps113
      go_wp2_with fail
      refine HN.out.mono ?_
      rintro e w1 ⟨v, rfl, ⟨A2, c2, rfl, hS2, hBd2⟩, hb1⟩
      have hD0 := hB0.below hb1
      have hD1 := hB1.below hb1
      have hw1 := bel_call hbw hb1
      have hz0 : w.heap.size < w1.heap.size := hD0.lt
      have hz1 : w.heap.size + 1 < w1.heap.size := hD1.lt
      obtain ⟨a0, a1, e0, e1⟩ := hD0.two
      obtain ⟨b0, b1, f0, f1⟩ := hD1.two
      clear hB0 hB1 hbw hb1
      go_wp2_with fail
      have hK := hD0.set2 (.slice A2 l2.length c2) (.int .i64 bad2)
      have hK1 := (hD1.far (p := ⟨w.heap.size, 0, none⟩) (by dsimp only; omega) (.slice A2 l2.length c2)).far (p := ⟨w.heap.size, 1, none⟩) (by dsimp only; omega) (.int .i64 bad2)
      have hwK : Below w.heap.size w ((w1.setCell ⟨w.heap.size, 0, none⟩ (.slice A2 l2.length c2)).setCell ⟨w.heap.size, 1, none⟩ (.int .i64 bad2)) := by (repeat (first | with_reducible exact hw1 | with_reducible refine bel_alloc ?_ _ | with_reducible refine bel_set ?_ (by first | omega | (dsimp only; omega)) _ | with_reducible refine below_drewN ?_ _ | with_reducible refine Below.drew ?_))
      have hSK : SlB ((w1.setCell ⟨w.heap.size, 0, none⟩ (.slice A2 l2.length c2)).setCell ⟨w.heap.size, 1, none⟩ (.int .i64 bad2)) A2 c2 l2 := hS2.wr hD0 (slice_ne _ _ _) (fun b h => by cases h) (((Wr.refl _ _).set_ _ _).set_ _ _)
      refine (rfail_any (l := l2) 1 _).mono ?_
      rintro e w2 ⟨b, rfl, hfb, hb2⟩
      have hL1 := hK1.below hb2
      have hw2 := bel_call hwK hb2
      have hS3 := hSK.below hb2
      obtain ⟨b0, b1, f0, f1⟩ := hL1.two
      clear a0 a1 e0 e1 hK hK1 hwK hSK hb2
      go_wp2_with fail
      refine bodyPost_ret (res_r2 rfl rfl (g := w.heap.size + 1) (x := .slice A2 l2.length c2) (y := .int .i64 b) (by (repeat (first | with_reducible exact hL1 | with_reducible apply Blk.set3 | with_reducible apply Blk.set2 | with_reducible refine Blk.alloc ?_ _ | with_reducible refine Blk.far ?_ (by first | omega | (dsimp only; omega)) _ | with_reducible refine Blk.drewN ?_ _ | with_reducible refine Blk.drew ?_)))) rfl ⟨rv A2 l2.length c2 b, by rw [HG.out]; rfl, ?_, by (repeat (first | with_reducible exact hw2 | with_reducible refine bel_alloc ?_ _ | with_reducible refine bel_set ?_ (by first | omega | (dsimp only; omega)) _ | with_reducible refine below_drewN ?_ _ | with_reducible refine Below.drew ?_))⟩
      rw [HG.out, hfb.out]
      exact ⟨A2, c2, rfl, SlB.wr hS3 hL1 (slice_ne _ _ _) (fun b h => by cases h) (((Wr.refl _ _).set_ 0 (.slice A2 l2.length c2)).set_ 1 (.int .i64 b)), hBd2⟩
    · have HG : Hid (rWithin most (l, bad) = (n, (l2, bad2))) := (show _ = _ by rw [HW.out, if_neg (by simp only [gt_iff_lt]; omega)])
      have h3 : (n : Int) ≤ 4611686018427387904 := by omega
      clear h2
      go_enter Tryz.func113, Tryz.ntmps113
      go_wp2_with fail
      refine HN.out.mono ?_
      rintro e w1 ⟨v, rfl, ⟨A2, c2, rfl, hS2, hBd2⟩, hb1⟩
      have hD0 := hB0.below hb1
      have hD1 := hB1.below hb1
      have hw1 := bel_call hbw hb1
      have hz0 : w.heap.size < w1.heap.size := hD0.lt
      have hz1 : w.heap.size + 1 < w1.heap.size := hD1.lt
      obtain ⟨a0, a1, e0, e1⟩ := hD0.two
      obtain ⟨b0, b1, f0, f1⟩ := hD1.two
      clear hB0 hB1 hbw hb1
      go_wp2_with fail
      go_region
      all_goals
        go_wp2_with fail
        refine bodyPost_ret (res_r2 rfl rfl (g := w.heap.size + 1) (x := .slice A2 l2.length c2) (y := .int .i64 bad2) (by (repeat (first | with_reducible exact hD1 | with_reducible apply Blk.set3 | with_reducible apply Blk.set2 | with_reducible refine Blk.alloc ?_ _ | with_reducible refine Blk.far ?_ (by first | omega | (dsimp only; omega)) _ | with_reducible refine Blk.drewN ?_ _ | with_reducible refine Blk.drew ?_)))) rfl ⟨rv A2 l2.length c2 bad2, by rw [HG.out]; rfl, ?_, by (repeat (first | with_reducible exact hw1 | with_reducible refine bel_alloc ?_ _ | with_reducible refine bel_set ?_ (by first | omega | (dsimp only; omega)) _ | with_reducible refine below_drewN ?_ _ | with_reducible refine Below.drew ?_))⟩
        rw [HG.out]
        refine ⟨A2, c2, rfl, ?_, hBd2⟩
        exact SlB.wr (SlB.wr hS2 hD0 (slice_ne _ _ _) (fun b h => by cases h) (((Wr.refl _ _).set_ 0 (.slice A2 l2.length c2)).set_ 1 (.int .i64 bad2))) ((hD1.far (p := ⟨w.heap.size, 0, none⟩) (by dsimp only; omega) (.slice A2 l2.length c2)).far (p := ⟨w.heap.size, 1, none⟩) (by dsimp only; omega) (.int .i64 bad2)) (slice_ne _ _ _) (fun b h => by cases h) (((Wr.refl _ _).set_ 0 (.slice A2 l2.length c2)).set_ 1 (.int .i64 bad2)).drew

set_option maxRecDepth 100000 in
set_option maxHeartbeats 1000000 in
theorem rEnd_any {A : Option Addr} {c bad : Nat} {l : List UInt8} (w : World) : Calls Tryz.prog 115 #[rv A l.length c bad] w fun e w' => e = .returned (.int .i64 (rEnd (l, bad) : Nat)) ∧ Below w.heap.size w w' := by
  rcases Decidable.em (bad = 0) with h0 | h0
  · subst h0
    rcases Decidable.em (0 < l.length) with h1 | h1
    · have HG : Hid (rEnd (l, 0) = 2) := (show (if (0 : Nat) = 0 ∧ 0 < l.length then 2 else 0) = 2 by rw [if_pos ⟨rfl, h1⟩])
      go_enter Tryz.func115, Tryz.ntmps115
      go_wp2_with fail
      go_ret
      exact ⟨by rw [HG.out]; rfl, below_new _ _⟩
    · have HG : Hid (rEnd (l, 0) = 0) := (show (if (0 : Nat) = 0 ∧ 0 < l.length then 2 else 0) = 0 by rw [if_neg (fun h => h1 h.2)])
      go_enter Tryz.func115, Tryz.ntmps115
      go_wp2_with fail
      go_ret
      exact ⟨by rw [HG.out]; rfl, below_new _ _⟩
  · have hb : ((bad : Int) == 0) = false := by simp; omega
    have HG : Hid (rEnd (l, bad) = bad) := (show (if bad = 0 ∧ 0 < l.length then 2 else bad) = bad by rw [if_neg (fun h => h0 h.1)])
    clear h0
    go_enter Tryz.func115, Tryz.ntmps115
    go_wp2_with fail
    go_ret
    exact ⟨by rw [HG.out]; rfl, below_new _ _⟩
end Go.Proofs.YtabnndjdkjkciaaGreatDoor

namespace Go.Proofs.YtabnndjdkjkciaaGreatDoor
open Go.RowKit

theorem SlB.apart {w w' : World} {A : Option Addr} {c B C : Nat} {l : List UInt8} (h : SlB w A c l) (hBd : l ≠ [] → ∀ ad, A = some ad → ad.block < B) (hBC : B ≤ C) (hb : Below C w w') : SlB w' A c l := by
  refine ⟨h.1, h.2.1, h.2.2.1, h.2.2.2.1, fun j u hj => ?_⟩
  obtain ⟨ad, hA, hc⟩ := h.2.2.2.2 j u hj
  have hne : l ≠ [] := by intro e; rw [e] at hj; simp at hj
  exact ⟨ad, hA, (hb.cell (by rw [addr_add_block]; exact Nat.lt_of_lt_of_le (hBd hne ad hA) hBC)).trans hc⟩

end Go.Proofs.YtabnndjdkjkciaaGreatDoor

namespace Go.Proofs.YtabnndjdkjkciaaGreatDoor
open Go.RowKit

theorem IsR.drew {g B : Nat} {s : List UInt8 × Nat} {w : World} (h : IsR w g B s) : IsR w.drew g B s := h

attribute [local go_sem ↓] Go.wp_at_zero Go.wp_at_succ

end Go.Proofs.YtabnndjdkjkciaaGreatDoor

namespace Go.Proofs.YtabnndjdkjkciaaGreatDoor
open Go.RowKit
attribute [local go_sem ↓] Go.wp_at_zero Go.wp_at_succ

theorem kk {w : World} {g g' : Nat} {t t' : TypeId} {a b x y z : Value} (h : Blk w g t #[a, b]) (k : Blk w g' t' #[x, y, z]) : w.cell? ⟨g, 0, none⟩ = some a ∧ w.cell? ⟨g, 1, none⟩ = some b ∧ w.cell? ⟨g', 1, none⟩ = some y ∧ w.cell? ⟨g', 2, none⟩ = some z :=
  ⟨h.cell 0, h.cell 1, k.cell 1, k.cell 2⟩
theorem rFail_len (k : Nat) (s : List UInt8 × Nat) : (rFail k s).1.length ≤ s.1.length := by unfold rFail; split <;> exact Nat.le_refl _
theorem rWithin_len (n : Nat) (s : List UInt8 × Nat) : (rWithin n s).2.1.length ≤ s.1.length := by
  have := rNum_len s
  unfold rWithin
  split
  · exact Nat.le_trans (rFail_len _ _) this
  · exact this
theorem rFixed_len (n : Int) (s : List UInt8 × Nat) : (rFixed n s).2.1.length ≤ s.1.length := by
  unfold rFixed
  split
  · exact Nat.le_refl _
  · split
    · exact Nat.le_refl _
    · simp
def u6 (kind : Int) (k : Int) : Prop := (IntKind.u64.wrap kind).tmod 6 = k

end Go.Proofs.YtabnndjdkjkciaaGreatDoor

namespace Go.Proofs.YtabnndjdkjkciaaGreatDoor
open Go.RowKit
attribute [local go_sem ↓] Go.wp_at_zero Go.wp_at_succ

end Go.Proofs.YtabnndjdkjkciaaGreatDoor

namespace Go.Proofs.YtabnndjdkjkciaaGreatDoor
open Go.ChangeShapes Go.WideShapes Go.ChangeAt Go.RowKit Go.Deep

section
variable {H : Type} {enc : TypeId × Value → H} {P : Program} {w : World} {base : Nat} {spare : Nat → Bool} {held : Bool}
theorem open_slice_fields {t e : TypeId} {fs : Array Field} {fuel : Nat} {cs : List Value} {x : DataW H × List MemPlace} (ht : P.underlying t = some (.slice e)) (he : P.underlying e = some (.struct fs))
    (hone : oneCellFields P fs = true) (hC : P.cellsOf e = fs.size) (h : DataW.trod enc P w base spare held fuel t cs = some x) :
    (cs = [.slice none 0 0] ∧ x = (.nil, [])) ∨
    ∃ (a : Addr) (len cap m : Nat) (D : Nat → DataW H) (Pl : Nat → List MemPlace), cs = [.slice (some a) len cap] ∧ base ≤ a.block ∧ len ≤ cap ∧ cap ≤ maxLen ∧ m = (if spare a.block then cap else len) ∧
      x = (.slice ((List.range len).map D) ((List.range (m - len)).map fun j => D (len + j)), MemPlace.row a (m * fs.size) ++ (List.range m).flatMap Pl) ∧
      ∀ i, i < m → ∃ (ys : List (DataW H × List MemPlace)) (n : Nat), D i = .agg (ys.map (·.1)) ∧ Pl i = ys.flatMap (·.2) ∧ ys.length = fs.size ∧
        ∀ (j : Nat) (f : Field), fs[j]? = some f → ∃ (v : Value) (y : DataW H × List MemPlace), w.cell? (a.add (i * fs.size + j)) = some v ∧ ys[j]? = some y ∧ DataW.trod enc P w base spare held n f.type [v] = some y := by
  rcases open_slice ht h with h0 | ⟨a, len, cap, m, n, D, Pl, hcs, hb, hl, hm, hmm, hx, hi⟩
  · exact .inl h0
  · refine .inr ⟨a, len, cap, m, D, Pl, hcs, hb, hl, hm, hmm, by rw [hC] at hx; exact hx, fun i him => ?_⟩
    obtain ⟨cs', hc, ht'⟩ := hi i him
    rw [hC] at hc
    obtain ⟨ys, n', hn', hy, hlen, hyl, hf⟩ := DataW.trod_struct he ht'
    obtain ⟨_, hcl, hat⟩ := World.cells?_some hc
    simp only [Prod.mk.injEq] at hy
    refine ⟨ys, n', hy.1, hy.2, hyl, fun j f hj => ?_⟩
    obtain ⟨ho, hk⟩ := hone_of hone j f hj
    have hjl : j < fs.size := (Array.getElem?_eq_some_iff.1 hj).1
    have hcell := hat j hjl
    have hv : cs'[j]? = some (cs'[j]'(by omega)) := List.getElem?_eq_getElem (by omega)
    have h1 := hf j f hj
    rw [ho, hk] at h1
    have hone' : (cs'.drop j).take 1 = [cs'[j]'(by omega)] := by
      rw [List.drop_eq_getElem_cons (by omega)]
      rfl
    rw [hone'] at h1
    have hys : ys[j]? = some (ys[j]'(by omega)) := List.getElem?_eq_getElem (by omega)
    refine ⟨_, _, ?_, hys, h1.trans hys⟩
    rw [← Go.Deep.add_add, hcell, hv]
end

theorem list_choice {T : Type} (R : Nat → T → Prop) : ∀ n, (∀ i, i < n → ∃ t, R i t) → ∃ l : List T, l.length = n ∧ ∀ i (hi : i < l.length), R i l[i]
  | 0, _ => ⟨[], rfl, fun i hi => by simp at hi⟩
  | n + 1, h => by
    obtain ⟨l, hl, hr⟩ := list_choice R n fun i hi => h i (by omega)
    obtain ⟨t, ht⟩ := h n (by omega)
    refine ⟨l ++ [t], by simp [hl], fun i hi => ?_⟩
    by_cases hin : i < l.length
    · rw [List.getElem_append_left hin]; exact hr i hin
    · have : i = l.length := by simp at hi; omega
      subst this
      simpa [hl] using ht
theorem flat_len {T : Type} {f : T → List Value} {s : Nat} (hf : ∀ x, (f x).length = s) (l : List T) : (l.flatMap f).length = l.length * s := by
  induction l with
  | nil => simp
  | cons x l ih => simp only [List.flatMap_cons, List.length_append, hf, ih, List.length_cons, Nat.succ_mul]; omega
theorem flat_get {T : Type} {f : T → List Value} {s : Nat} (hf : ∀ x, (f x).length = s) : ∀ (l : List T) (k j : Nat) (hk : k < l.length), j < s → (l.flatMap f)[k * s + j]? = (f l[k])[j]?
  | x :: l, 0, j, _, hj => by
    simp only [List.flatMap_cons, Nat.zero_mul, Nat.zero_add, List.getElem_cons_zero]
    rw [List.getElem?_append_left (by rw [hf]; exact hj)]
  | x :: l, k + 1, j, hk, hj => by
    have h := flat_get hf l k j (by simpa using hk) hj
    simp only [List.flatMap_cons, List.getElem_cons_succ]
    rw [List.getElem?_append_right (by rw [hf, Nat.succ_mul]; omega), hf, ← h]
    congr 1
    rw [Nat.succ_mul]
    omega
/-- the cell j of the struct k -/
theorem Sl.atS {w : World} {n c size : Nat} {A : Option Addr} {T : Type} {f : T → List Value} {l : List T} (hf : ∀ x, (f x).length = size) (h0 : 0 < size) (h : Sl w size A n c (l.flatMap f)) {k : Nat} (hk : k < l.length) :
    ∃ ad b o, A = some ad ∧ ad.add (k * size) = ⟨b, o, none⟩ ∧ ∀ j u, (f l[k])[j]? = some u → w.cell? ⟨b, o + j, none⟩ = some u := by
  have h1 := flat_get hf l k 0 hk h0
  have h2 : (f l[k])[0]? = some ((f l[k])[0]'(by rw [hf]; exact h0)) := List.getElem?_eq_getElem _
  obtain ⟨ad, hA, hc0⟩ := h.2.2.2.2 _ _ (h1.trans h2)
  have hsp := World.cell?_spot hc0
  have he : ad.add (k * size) = ⟨(ad.add (k * size)).block, (ad.add (k * size)).off, none⟩ := by
    rw [Nat.add_zero] at hsp
    cases h3 : ad.add (k * size) with
    | mk bl of sp => rw [h3] at hsp; simp at hsp; subst hsp; rfl
  refine ⟨ad, _, _, hA, he, fun j u hu => ?_⟩
  have hj : j < size := by have := (List.getElem?_eq_some_iff.1 hu).1; rw [hf] at this; exact this
  obtain ⟨ad', hA', hc⟩ := h.2.2.2.2 _ _ ((flat_get hf l k j hk hj).trans hu)
  rw [hA] at hA'
  injection hA' with e
  subst e
  rw [← addr_add_add, he, addr_lit] at hc
  exact hc
/-- a slice of structs of one-cell fields: a list of what the elements are -/
theorem open_structs {H : Type} {enc : TypeId × Value → H} {P : Program} {w : World} {base b0 : Nat} {held : Bool} {r : Reach} {t e : TypeId} {v : Value} {d : DataW H} {p : List MemPlace} {fs : Array Field}
    {T : Type} (f : T → List Value) (Q : T → Prop) (hfl : ∀ x, (f x).length = fs.size)
    (ht : P.underlying t = some (.slice e)) (he : P.underlying e = some (.struct fs)) (hone : oneCellFields P fs = true) (hC : P.cellsOf e = fs.size)
    (hel : ∀ vs : List Value, vs.length = fs.size → (∀ (j : Nat) (fd : Field), fs[j]? = some fd → ∃ (u : Value) (n : Nat) (y : DataW H × List MemPlace), vs[j]? = some u ∧ DataW.trod enc P w base (fun _ => true) held n fd.type [u] = some y) → ∃ x : T, f x = vs ∧ Q x)
    (hv : Value.okWide P w r b0 t v) (h : DataW.Trod enc P w base (fun _ => true) held t v d p) :
    ∃ (A : Option Addr) (c : Nat) (l : List T), v = .slice A l.length c ∧ Sl w fs.size A l.length c (l.flatMap f) ∧ ∀ x ∈ l, Q x := by
  obtain ⟨A, n, c, rfl⟩ := okWide_slice ht hv
  obtain ⟨fuel, hf⟩ := h
  rcases open_slice_fields ht he hone hC hf with ⟨hcs, _⟩ | ⟨a, len, cap, m, D, Pl, hcs, _, hl, hm, hmm, _, hi⟩
  · simp [Value.cells] at hcs
    obtain ⟨rfl, rfl, rfl⟩ := hcs
    exact ⟨none, 0, [], rfl, by simpa using Sl.none_ w fs.size, fun x hx => by simp at hx⟩
  · simp [Value.cells] at hcs
    obtain ⟨rfl, rfl, rfl⟩ := hcs
    simp only [if_true] at hmm
    subst hmm
    have hx : ∀ i, i < n → ∃ x : T, Q x ∧ ∀ j u, (f x)[j]? = some u → w.cell? (a.add (i * fs.size + j)) = some u := by
      intro i hin
      obtain ⟨ys, nn, _, _, _, hfd⟩ := hi i (by omega)
      have hc : ∀ j, j < fs.size → ∃ u : Value, w.cell? (a.add (i * fs.size + j)) = some u ∧ ∃ y : DataW H × List MemPlace, DataW.trod enc P w base (fun _ => true) held nn (fs[j]!).type [u] = some y := by
        intro j hj
        obtain ⟨u, y, h1, _, h3⟩ := hfd j fs[j] (by simp [hj])
        exact ⟨u, h1, y, by simpa [hj] using h3⟩
      obtain ⟨vs, hvl, hvr⟩ := list_choice (fun j u => w.cell? (a.add (i * fs.size + j)) = some u ∧ ∃ y : DataW H × List MemPlace, DataW.trod enc P w base (fun _ => true) held nn (fs[j]!).type [u] = some y) fs.size hc
      obtain ⟨x, hxe, hxq⟩ := hel vs hvl fun j fd hj => by
        have hjl : j < fs.size := (Array.getElem?_eq_some_iff.1 hj).1
        obtain ⟨_, y, hy⟩ := hvr j (by omega)
        have hfe : fs[j]! = fd := by
          have := (Array.getElem?_eq_some_iff.1 hj).2
          simp [hjl, this]
        rw [hfe] at hy
        exact ⟨vs[j], nn, y, List.getElem?_eq_getElem (by omega), hy⟩
      refine ⟨x, hxq, fun j u hj => ?_⟩
      rw [hxe] at hj
      obtain ⟨hjl, hju⟩ := List.getElem?_eq_some_iff.1 hj
      rw [← hju]
      exact (hvr j hjl).1
    obtain ⟨l, hll, hlr⟩ := list_choice _ n hx
    refine ⟨some a, _, l, by rw [hll], ⟨flat_len hfl l, by omega, hm, (fun h => by cases h), fun j u hj => ⟨a, rfl, ?_⟩⟩, fun x hx => ?_⟩
    · rcases Nat.eq_zero_or_pos fs.size with h0 | h0
      · have := (List.getElem?_eq_some_iff.1 hj).1
        rw [flat_len hfl, h0] at this
        omega
      · have hjl := (List.getElem?_eq_some_iff.1 hj).1
        rw [flat_len hfl] at hjl
        have hk : j / fs.size < l.length := by rw [Nat.div_lt_iff_lt_mul h0]; exact hjl
        have hr : j % fs.size < fs.size := Nat.mod_lt _ h0
        have he := flat_get hfl l (j / fs.size) (j % fs.size) hk hr
        have hj2 : j / fs.size * fs.size + j % fs.size = j := by rw [Nat.mul_comm]; exact Nat.div_add_mod _ _
        rw [hj2, hj] at he
        have := (hlr _ hk).2 _ _ he.symm
        rwa [hj2] at this
    · obtain ⟨i, hi, rfl⟩ := List.getElem_of_mem hx
      exact (hlr i hi).1
end Go.Proofs.YtabnndjdkjkciaaGreatDoor

namespace Go.Proofs.YtabnndjdkjkciaaGreatDoor
open Go.RowKit
attribute [local go_sem ↓] Go.wp_at_zero Go.wp_at_succ

end Go.Proofs.YtabnndjdkjkciaaGreatDoor

namespace Go.Proofs.YtabnndjdkjkciaaGreatDoor
open Go.RowKit
attribute [local go_sem ↓] Go.wp_at_zero Go.wp_at_succ

end Go.Proofs.YtabnndjdkjkciaaGreatDoor

namespace Go.Proofs.YtabnndjdkjkciaaGreatDoor
open Go.RowKit
attribute [local go_sem ↓] Go.wp_at_zero Go.wp_at_succ


end Go.Proofs.YtabnndjdkjkciaaGreatDoor
