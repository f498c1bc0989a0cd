/- WHAT IT HOLDS: the document's Take of cursors, walked. | WHAT IT HOLDS: the document's Take of manifests, walked. | WHAT IT HOLDS: Same of manifests, the program's and the document's, walked. | WHAT IT HOLDS: the document's Same of manifests, walked. | WHAT IT HOLDS: lists of texts side by side; frame.All, walked. | WHAT IT HOLDS: the law FrameTakes, walked. | WHAT IT HOLDS: the document's Put of segments, and a segment's cell, walked. -/
import Derived.Test.YtabnndjdkjkciaaGreatDoorManifestBackG22
import Derived.Test.YtabnndjdkjkciaaGreatDoorManifestBackG19
import Derived.Test.YtabnndjdkjkciaaGreatDoorManifestBackG09
namespace Go.Proofs.YtabnndjdkjkciaaGreatDoor
open Go.RowKit
attribute [local go_sem ↓] Go.wp_at_zero Go.wp_at_succ

end Go.Proofs.YtabnndjdkjkciaaGreatDoor

namespace Go.Proofs.YtabnndjdkjkciaaGreatDoor
open Go.RowKit
attribute [local go_sem ↓] Go.wp_at_zero Go.wp_at_succ

end Go.Proofs.YtabnndjdkjkciaaGreatDoor

namespace Go.Proofs.YtabnndjdkjkciaaGreatDoor
open Go.RowKit
attribute [local go_sem ↓] Go.wp_at_zero Go.wp_at_succ

theorem yld_load {P : Program} {a : Act} {o : Oper} {w : World} (ty : TypeId) (x : Operand) (ho : o.op = .load ty x) (ad : Addr) (cs : Array Value) (hx : a.eval x = .pointer (some ad)) (hc : ∀ j u, cs[j]? = some u → w.cell? (ad.add j) = some u) (d : TypeDesc) (hu : P.underlying ty = some d) (hd : (match d with | .struct _ | .array _ _ => true | _ => false) = true) (hi : (P.info? ty).map (·.size) = some cs.size) :
    (execOp a.eval o).run P w = .ok (.value (.agg cs)) w := by
  unfold execOp
  simp only [ho, hx, Instr.loadAt, Instr.sureAddr, Sem.run_bind, Sem.run_pure, Result.andThen_ok, run_loadVar_at w ad ty cs hc d hu hd hi]
/-- two manifests are one -/
def mfeq (x y : Mf) : Bool := decide (x.1 = y.1) && decide (x.2.1 = y.2.1) && decide (x.2.2.1 = y.2.2.1) && decide (x.2.2.2.1 = y.2.2.2.1) && decide (x.2.2.2.2.1 = y.2.2.2.2.1) && decide (x.2.2.2.2.2 = y.2.2.2.2.2)
theorem mfeq_iff {x y : Mf} : mfeq x y = true ↔ x = y := by
  obtain ⟨x1, x2, x3, x4, x5, x6⟩ := x
  obtain ⟨y1, y2, y3, y4, y5, y6⟩ := y
  unfold mfeq
  simp only [Bool.and_eq_true, decide_eq_true_eq, Prod.mk.injEq, and_assoc]
theorem ne_mf {x y : Mf} (h : x ≠ y) : mfeq x y = false := by
  rw [Bool.eq_false_iff]
  exact fun h2 => h (mfeq_iff.1 h2)
theorem eq_mf {x y : Mf} (h : x = y) : mfeq x y = true := mfeq_iff.2 h
set_option maxRecDepth 100000 in
set_option maxHeartbeats 2000000 in
theorem MSame_any {E G : Option Addr} {cap cap2 : Nat} (n f t r n2 f2 t2 r2 : Int) (d d2 : Dg) (ps qs : List Pt5) (w : World) (h : SlP w E cap ps) (h2 : SlP w G cap2 qs) :
    Calls Tryz.prog 21 #[.agg (mfa n f t r d E ps.length cap), .agg (mfa n2 f2 t2 r2 d2 G qs.length cap2)] w fun e w' => e = .returned (.bool (mfeq (n, f, t, r, d, ps) (n2, f2, t2, r2, d2, qs))) ∧ Below w.heap.size w w' := by
  have hM := ((Mm.start w).alloc (mfa n f t r d E ps.length cap) 57).alloc (mfa n2 f2 t2 r2 d2 G qs.length cap2) 57
  rw [show (w.alloc (.cells (mfa n f t r d E ps.length cap) 57)).heap.size = w.heap.size + 1 from by simp] at hM
  have hds := Lib.hid (dga_size d)
  have hds2 := Lib.hid (dga_size d2)
  have hmax := h.len_le
  have hmax2 := h2.len_le
  unfold maxLen at hmax hmax2
  go_enter Tryz.func21, Tryz.ntmps21
  go_upto_region 1 with (fail)
  refine gen1 (T := fun W => Mm w W [(w.heap.size + 1, 57, mfa n2 f2 t2 r2 d2 G qs.length cap2), (w.heap.size, 57, mfa n f t r d E ps.length cap)] []) hM (fun w1 hM => ?_)
  obtain ⟨a0, a1, a2, a3, a4⟩ := Blm.five hM.b1
  obtain ⟨c0, c1, c2, c3, c4⟩ := Blm.five hM.b0
  have hdg := Lib.hid (Blm.dg hM.b1)
  have hdg2 := Lib.hid (Blm.dg hM.b0)
  by_cases e_n : n = n2
  case neg =>
    have hb : (n == n2) = false := by simp [e_n]
    have HR := Lib.hid (ne_mf (x := (n, f, t, r, d, ps)) (y := (n2, f2, t2, r2, d2, qs)) (fun h => e_n (by simp only [Prod.mk.injEq] at h; first | exact h.1 | exact h.2.1 | exact h.2.2.1 | exact h.2.2.2.1)))
    clear e_n
    go_wp2_with fail
    go_ret
    exact ⟨by rw [HR.out] <;> rfl, hM.bel⟩
  subst e_n
  by_cases e_f : f = f2
  case neg =>
    have hb : (f == f2) = false := by simp [e_f]
    have HR := Lib.hid (ne_mf (x := (n, f, t, r, d, ps)) (y := (n, f2, t2, r2, d2, qs)) (fun h => e_f (by simp only [Prod.mk.injEq] at h; first | exact h.1 | exact h.2.1 | exact h.2.2.1 | exact h.2.2.2.1)))
    clear e_f
    go_wp2_with fail
    go_ret
    exact ⟨by rw [HR.out] <;> rfl, hM.bel⟩
  subst e_f
  by_cases e_t : t = t2
  case neg =>
    have hb : (t == t2) = false := by simp [e_t]
    have HR := Lib.hid (ne_mf (x := (n, f, t, r, d, ps)) (y := (n, f, t2, r2, d2, qs)) (fun h => e_t (by simp only [Prod.mk.injEq] at h; first | exact h.1 | exact h.2.1 | exact h.2.2.1 | exact h.2.2.2.1)))
    clear e_t
    go_wp2_with fail
    go_ret
    exact ⟨by rw [HR.out] <;> rfl, hM.bel⟩
  subst e_t
  by_cases e_r : r = r2
  case neg =>
    have hb : (r == r2) = false := by simp [e_r]
    have HR := Lib.hid (ne_mf (x := (n, f, t, r, d, ps)) (y := (n, f, t, r2, d2, qs)) (fun h => e_r (by simp only [Prod.mk.injEq] at h; first | exact h.1 | exact h.2.1 | exact h.2.2.1 | exact h.2.2.2.1)))
    clear e_r
    go_wp2_with fail
    go_ret
    exact ⟨by rw [HR.out] <;> rfl, hM.bel⟩
  subst e_r
  have hq := fun W => eql_dg d d2 W
  obtain ⟨zb, hzb⟩ : ∃ b, decide (d = d2) = b := ⟨_, rfl⟩
  rw [hzb] at hq
  cases zb
  case false =>
    have HR := Lib.hid (ne_mf (x := (n, f, t, r, d, ps)) (y := (n, f, t, r, d2, qs)) (fun h => of_decide_eq_false hzb (by simp only [Prod.mk.injEq] at h; exact h.2.2.2.2.1)))
    clear hzb
    go_wp2_with (first | (refine wpl_loadG (by kernel_rfl) 26 _ rfl ⟨w.heap.size, 4, none⟩ (dga d) rfl hdg.out _ Tryz.underlying26 rfl (by rw [hds.out]; kernel_rfl) ?_) | (refine wpl_loadG (by kernel_rfl) 26 _ rfl ⟨w.heap.size + 1, 4, none⟩ (dga d2) rfl hdg2.out _ Tryz.underlying26 rfl (by rw [hds2.out]; kernel_rfl) ?_))
    go_ret
    exact ⟨by rw [HR.out] <;> rfl, hM.bel⟩
  have hdd := of_decide_eq_true hzb
  have HD := Lib.hid hdd
  clear hzb hdd
  go_wp2_with (first | (refine wpl_loadG (by kernel_rfl) 26 _ rfl ⟨w.heap.size, 4, none⟩ (dga d) rfl hdg.out _ Tryz.underlying26 rfl (by rw [hds.out]; kernel_rfl) ?_) | (refine wpl_loadG (by kernel_rfl) 26 _ rfl ⟨w.heap.size + 1, 4, none⟩ (dga d2) rfl hdg2.out _ Tryz.underlying26 rfl (by rw [hds2.out]; kernel_rfl) ?_))
  refine (PtEqual_any ps qs _ (h.below hM.bel) (h2.below hM.bel)).mono ?_
  rintro e w2 ⟨rfl, hb2⟩
  have HR := Lib.hid (show mfeq (n, f, t, r, d, ps) (n, f, t, r, d2, qs) = decide (ps = qs) from by rw [HD.out]; unfold mfeq; simp)
  obtain ⟨z2, hz2⟩ : ∃ b, decide (ps = qs) = b := ⟨_, rfl⟩
  rw [hz2]
  have HZ := Lib.hid hz2
  clear hz2 a0 a1 a2 a3 a4 c0 c1 c2 c3 c4 hq
  go_wp2_with fail
  go_ret
  exact ⟨by rw [HR.out, HZ.out] <;> rfl, hM.bel.trans (hb2.mono hM.bel.size)⟩
end Go.Proofs.YtabnndjdkjkciaaGreatDoor

namespace Go.Proofs.YtabnndjdkjkciaaGreatDoor
open Go.RowKit
attribute [local go_sem ↓] Go.wp_at_zero Go.wp_at_succ
end Go.Proofs.YtabnndjdkjkciaaGreatDoor

namespace Go.Proofs.YtabnndjdkjkciaaGreatDoor
open Go.RowKit
attribute [local go_sem ↓] Go.wp_at_zero Go.wp_at_succ

end Go.Proofs.YtabnndjdkjkciaaGreatDoor

namespace Go.Proofs.YtabnndjdkjkciaaGreatDoor
open Go.RowKit
attribute [local go_sem ↓] Go.wp_at_zero Go.wp_at_succ

end Go.Proofs.YtabnndjdkjkciaaGreatDoor

namespace Go.Proofs.YtabnndjdkjkciaaGreatDoor
open Go.RowKit
attribute [local go_sem ↓] Go.wp_at_zero Go.wp_at_succ

end Go.Proofs.YtabnndjdkjkciaaGreatDoor
