/- WHAT IT HOLDS: two parts, two slices of parts, two cursors, compared. -/
import Derived.Test.YtabnndjdkjkciaaGreatDoorCursorKeepsG18
namespace Go.Proofs.YtabnndjdkjkciaaGreatDoor
open Go.RowKit
attribute [local go_sem ↓] Go.wp_at_zero Go.wp_at_succ

theorem part_int (xs : Array Value) (i : Nat) (v : Value) (h : xs[i]? = some v) (w : World) : (part 3 xs i).run Tryz.prog w = .ok v w := by
  unfold part
  rw [Sem.run_bind, Tryz.isAgg3]
  simp [h]
theorem equalIn_int' (n : Nat) (a b : Int) (w : World) : (Op.equalIn (n + 1) 3 (.int .i64 a) (.int .i64 b)).run Tryz.prog w = .ok (a == b) w := run_equalIn_int w n 3 .i64 .i64 a b Tryz.underlying3
theorem part_pt0 (q : Pt5) (w : World) : (part 3 (pta q) 0).run Tryz.prog w = .ok (.int .i64 q.1) w := part_int _ 0 _ (by simp [pta, ptl]) w
theorem part_pt1 (q : Pt5) (w : World) : (part 3 (pta q) 1).run Tryz.prog w = .ok (.int .i64 q.2.1) w := part_int _ 1 _ (by simp [pta, ptl]) w
theorem part_pt2 (q : Pt5) (w : World) : (part 3 (pta q) 2).run Tryz.prog w = .ok (.int .i64 q.2.2.1) w := part_int _ 2 _ (by simp [pta, ptl]) w
theorem eqF_cons (n : Nat) (xs ys : Array Value) (fl : Field) (fs : List Field) (w : World) {x y : Value} {b c : Bool} {T : TypeId} {k : Nat} (hn : fl.name ≠ "_") (ht : fl.type = T) (hk : fl.offset = k) (ha : (part T xs k).run Tryz.prog w = .ok x w) (hb : (part T ys k).run Tryz.prog w = .ok y w)
    (he : (Op.equalIn n T x y).run Tryz.prog w = .ok b w) (hr : (Op.eqFields n xs ys fs).run Tryz.prog w = .ok c w) : (Op.eqFields n xs ys (fl :: fs)).run Tryz.prog w = .ok (b && c) w := by
  subst ht hk
  simp only [Op.eqFields, hn, ne_eq, not_false_eq_true, if_true, Sem.run_bind, ha, hb, he, Result.andThen_ok]
  cases b
  · rfl
  · exact hr
theorem bool_pt (p1 p2 p3 q1 q2 q3 : Int) (p4 q4 : Dg) : ((p1 == q1) && ((p2 == q2) && ((p3 == q3) && (decide (p4 = q4) && true)))) = decide ((p1, p2, p3, p4) = (q1, q2, q3, q4)) := by
  rw [Bool.eq_iff_iff]
  simp only [Bool.and_eq_true, beq_iff_eq, decide_eq_true_eq, Prod.mk.injEq, and_true]
theorem cells_below {W W' : World} {ad : Addr} {cs : Array Value} (hc : ∀ j u, cs[j]? = some u → W.cell? (ad.add j) = some u) (hb : Below W.heap.size W W') : ∀ j u, cs[j]? = some u → W'.cell? (ad.add j) = some u := fun j u hj =>
  (hb.cell (World.block_lt_of_cell? _ _ (hc j u hj))).trans (hc j u hj)
end Go.Proofs.YtabnndjdkjkciaaGreatDoor
