/- WHAT IT HOLDS: same, walked. -/
import Derived.Test.YtjmekdldhnnneaaRefL
import Derived.Test.YtjmekdldhnnneaaReadE
import Derived.Deep.RegionHeld3
import Derived.Deep.DrawnRows
namespace Go.Proofs.Ytjmekdldhnnneaa
open Go.RowKit

theorem num_any (n : Nat) (w : World) : Calls Try.prog 21 #[errv n] w fun e w' => e = .returned (.int .i64 (n : Nat)) ∧ w = w' := by
  rcases errv_cases n with ⟨rfl, he⟩ | ⟨k, hk, h0, he⟩
  · rw [he]
    exact num_nil w
  · rw [he]
    rw [← h0]
    exact num_err k hk w

theorem isn_any (n : Nat) (k : Int) (w : World) : Calls Try.prog 28 #[errv n, .int .i64 k] w fun e w' => e = .returned (.bool ((n : Int) == k)) ∧ w = w' := by
  have h := num_any n w
  generalize errv n = x at h ⊢
  go_enter Try.func28, Try.ntmps28
  go_wp2_with fail
  refine h.mono ?_
  rintro e w1 ⟨rfl, rfl⟩
  go_wp2_with fail
  go_ret
  exact ⟨rfl, rfl⟩
theorem Blk.cells2 {w : World} {g : Nat} {t : TypeId} {a b : Value} (h : Blk w g t #[a, b]) : w.cell? ⟨g, 0, none⟩ = some a ∧ w.cell? ⟨g, 1, none⟩ = some b := ⟨h.cell 0, h.cell 1⟩
theorem below_two {B : Nat} {a w : World} (h : Below B a w) {g : Nat} (hg : B ≤ g) (x y : Value) : Below B a ((w.setCell ⟨g, 0, none⟩ x).setCell ⟨g, 1, none⟩ y) := (h.setCell (p := ⟨g, 0, none⟩) hg x).setCell (p := ⟨g, 1, none⟩) hg y
theorem blk_two_far {w : World} {g g' : Nat} {t : TypeId} {cs : Array Value} (h : Blk w g t cs) (hne : g ≠ g') (x y : Value) : Blk ((w.setCell ⟨g', 0, none⟩ x).setCell ⟨g', 1, none⟩ y) g t cs :=
  (h.far (p := ⟨g', 0, none⟩) hne x).far (p := ⟨g', 1, none⟩) hne y
theorem below_wr {B : Nat} {a w w' : World} {g : Nat} (h : Below B a w) (hw : Wr w w' g) (hB : B ≤ w.heap.size) (hg : B ≤ g) : Below B a w' := h.trans (hw.below hB hg)
theorem wr_below {B : Nat} {a w w' : World} {g : Nat} (h : Wr a w g) (hs : a.heap.size ≤ B) (k : Below B w w') : Wr a w' g :=
  ⟨k.os.trans h.os, k.tape.trans h.tape, k.output.trans h.output, Nat.le_trans h.size k.size, fun i hi hn => (k.block i (by omega)).trans (h.block i hi hn)⟩
theorem IsR.drew {g B : Nat} {s : List UInt8 × Nat} {w : World} (h : IsR w g B s) : IsR w.drew g B s := h

attribute [local go_sem ↓] Go.wp_at_zero Go.wp_at_succ

set_option maxRecDepth 100000 in
set_option maxHeartbeats 2000000 in
theorem same_any {g B bad : Nat} {l : List UInt8} {A : Option Addr} {c : Nat} {w : World} (hR : IsR w g B (l, bad)) : Calls Try.prog 63 #[.pointer (some ⟨g, 0, none⟩), rv A l.length c bad] w fun e w' => e = .returned (.bool true) ∧ Below w.heap.size w w' := by
  have hL : ∀ W, IsR W g B (l, bad) → Calls Try.prog 59 #[.pointer (some ⟨g, 0, none⟩)] W fun e w' => e = .returned (.int .i64 ((if bad = 0 then l.length else 0 : Nat) : Nat)) ∧ W = w' := fun W h => Left_any h
  have hE : ∀ W, IsR W g B (l, bad) → Calls Try.prog 60 #[.pointer (some ⟨g, 0, none⟩)] W fun e w' => e = .returned (errv bad) ∧ W = w' := fun W h => Err_any h
  have hN : ∀ W, IsR W g B (l, bad) → Calls Try.prog 61 #[.pointer (some ⟨g, 0, none⟩)] W fun e w' => e = .returned (errv (rEnd (l, bad))) ∧ W = w' := fun W h => End_any h
  have hM : ∀ W, Calls Try.prog 67 #[rv A l.length c bad] W fun e w' => e = .returned (.int .i64 (rEnd (l, bad) : Nat)) ∧ Below W.heap.size W w' := fun W => rEnd_any W
  have hR1 := hR.below (below_new w (.cells #[.slice A l.length c, .int .i64 bad] 102))
  have hb0 := below_new w (.cells #[.slice A l.length c, .int .i64 bad] 102)
  generalize rEnd (l, bad) = q at *
  rcases Decidable.em (bad = 0) with h0 | h0
  · subst h0
    rw [if_pos rfl] at hL
    have HL := Lib.hid hL
    have HE := Lib.hid hE
    have HN := Lib.hid hN
    have HM := Lib.hid hM
    have HR := Lib.hid hR1
    have HB := Lib.hid hb0
    have HK := Lib.hid (Blk.new w 102 #[.slice A l.length c, .int .i64 0])
    clear hL hE hN hM hR hR1 hb0
    go_enter Try.func63, Try.ntmps63
    go_wp2_with fail
    go_region_held3 (fun W => W.cell? ⟨w.heap.size, 0, none⟩ = some (.slice A l.length c) ∧ W.cell? ⟨w.heap.size, 1, none⟩ = some (.int .i64 0)) (first | exact ⟨k0, k1⟩ | go_keep) (first
      | (go_at_call 59; refine (HL.out _ ?_).mono ?_; (first | exact HR.out.drew | exact HR.out); rintro e w1 ⟨rfl, rfl⟩)
      | (go_at_call 60; refine (HE.out _ ?_).mono ?_; (first | exact HR.out.drew | exact HR.out); rintro e w1 ⟨rfl, rfl⟩)
      | (go_at_call 61; refine (HN.out _ ?_).mono ?_; (first | exact HR.out.drew | exact HR.out); rintro e w1 ⟨rfl, rfl⟩)
      | (go_at_call 21; refine (num_any _ _).mono ?_; rintro e w1 ⟨rfl, rfl⟩)
      | (go_at_call 67; refine (HM.out _).mono ?_; rintro e w1 ⟨rfl, hb1⟩; have k0 := (HK.out.drew.below hb1).cell 0; have k1 := (HK.out.drew.below hb1).cell 1; simp only [List.getElem?_toArray, List.getElem?_cons_zero, List.getElem?_cons_succ] at k0 k1))
    go_wp2_with fail
    go_ret
    exact ⟨rfl, HB.out.drew.trans (hb1.mono HB.out.size)⟩
  · have hb : ((bad : Int) != 0) = true := by simp; omega
    rw [if_neg h0] at hL
    have HL := Lib.hid hL
    have HE := Lib.hid hE
    have HN := Lib.hid hN
    have HM := Lib.hid hM
    have HR := Lib.hid hR1
    have HB := Lib.hid hb0
    have HK := Lib.hid (Blk.new w 102 #[.slice A l.length c, .int .i64 bad])
    clear hL hE hN hM hR hR1 hb0
    go_enter Try.func63, Try.ntmps63
    go_wp2_with fail
    go_region_held3 (fun W => W.cell? ⟨w.heap.size, 0, none⟩ = some (.slice A l.length c) ∧ W.cell? ⟨w.heap.size, 1, none⟩ = some (.int .i64 bad)) (first | exact ⟨k0, k1⟩ | go_keep) (first
      | (go_at_call 59; refine (HL.out _ ?_).mono ?_; (first | exact HR.out.drew | exact HR.out); rintro e w1 ⟨rfl, rfl⟩)
      | (go_at_call 60; refine (HE.out _ ?_).mono ?_; (first | exact HR.out.drew | exact HR.out); rintro e w1 ⟨rfl, rfl⟩)
      | (go_at_call 61; refine (HN.out _ ?_).mono ?_; (first | exact HR.out.drew | exact HR.out); rintro e w1 ⟨rfl, rfl⟩)
      | (go_at_call 21; refine (num_any _ _).mono ?_; rintro e w1 ⟨rfl, rfl⟩)
      | (go_at_call 67; refine (HM.out _).mono ?_; rintro e w1 ⟨rfl, hb1⟩; have k0 := (HK.out.drew.below hb1).cell 0; have k1 := (HK.out.drew.below hb1).cell 1; simp only [List.getElem?_toArray, List.getElem?_cons_zero, List.getElem?_cons_succ] at k0 k1))
    go_wp2_with fail
    go_ret
    exact ⟨rfl, HB.out.drew.trans (hb1.mono HB.out.size)⟩
end Go.Proofs.Ytjmekdldhnnneaa
