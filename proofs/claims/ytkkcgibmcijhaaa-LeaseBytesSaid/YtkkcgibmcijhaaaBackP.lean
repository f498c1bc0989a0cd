/- WHAT IT HOLDS: what is put is taken as it was, of the reader's plain functions (no program). -/
import Derived.Test.YtkkcgibmcijhaaaReadE
import Derived.Test.YtkkcgibmcijhaaaZigP
namespace Go.Proofs.Ytkkcgibmcijhaaa
open Go.RowKit

theorem rNum_vb {n : Nat} (h : U64 n) (r : List UInt8) : rNum (vb n ++ r, 0) = (n, (r, 0)) := by
  unfold rNum
  rw [if_neg (by simp)]
  simp only [take_vb h r, List.drop_left]
theorem rCount_vb {n : Nat} (h : U64 n) {most : Int} (hm : (n : Int) ≤ most) (r : List UInt8) : rCount most (vb n ++ r, 0) = (n, (r, 0)) := by
  unfold rCount
  rw [rNum_vb h, if_neg (by simp), if_neg (by simp only [gt_iff_lt]; omega)]
theorem rNums_vbs : ∀ {l : List Nat}, (∀ n ∈ l, U64 n) → ∀ r, rNums l.length (vbs l ++ r, 0) = (l, (r, 0))
  | [], _, r => rfl
  | n :: l, h, r => by
    have h1 := rNums_vbs (l := l) (fun k hk => h k (by simp [hk])) r
    simp only [vbs, List.flatMap_cons, List.append_assoc, List.length_cons] at h1 ⊢
    unfold rNums
    rw [rNum_vb (h n (by simp)), if_neg (by simp), h1, if_neg (by simp)]
theorem rList_lb {l : List Nat} (h : ∀ n ∈ l, U64 n) (hl : U64 l.length) {most : Int} (hm : (l.length : Int) ≤ most) (r : List UInt8) : rList most (lb l ++ r, 0) = (l, (r, 0)) := by
  unfold rList lb
  rw [List.append_assoc, rCount_vb hl hm, rNums_vbs h]
theorem rFixed_all (t r : List UInt8) : rFixed (t.length : Int) (t ++ r, 0) = (t, (r, 0)) := by
  unfold rFixed
  rw [if_neg (by simp), if_neg (by simp; omega)]
  simp
theorem rText_tb {t : List UInt8} (h : U64 t.length) {most : Int} (hm : (t.length : Int) ≤ most) (r : List UInt8) : rText most (vb t.length ++ (t ++ r), 0) = (t, (r, 0)) := by
  unfold rText
  rw [rCount_vb h hm, rFixed_all]
theorem zb_i64 {u : Nat} (h : U64 u) : I64 (zb u) := by
  unfold U64 at h
  unfold zb I64
  split <;> omega
end Go.Proofs.Ytkkcgibmcijhaaa
