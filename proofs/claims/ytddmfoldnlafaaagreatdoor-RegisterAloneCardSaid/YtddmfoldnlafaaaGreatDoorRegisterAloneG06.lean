/- WHAT IS PROVED: the statement LeaseRenews: for every input the law returns true. No condition. -/
import Derived.Test.YtddmfoldnlafaaaGreatDoorRegisterAloneG05
namespace Go.Proofs.YtddmfoldnlafaaaGreatDoor
open Go.ChangeShapes Go.WideShapes Go.ChangeAt Go.RowKit

theorem is_nil (k : Int) (hk : 0 < k) (w : World) : Calls Tryz.prog 28 #[.nilIface, iv k] w fun e w' => e = .returned (.bool false) ∧ w = w' := by
  have hz : ((0 : Int) == k) = false := by simp; omega
  go_enter Tryz.func28, Tryz.ntmps28
  go_wp2_with fail
  refine (num_nil w).mono ?_
  rintro e w1 ⟨rfl, rfl⟩
  go_wp2_with fail
  go_ret
  exact ⟨rfl, rfl⟩
theorem is_err (n k : Int) (hn : 0 < n) (w : World) : Calls Tryz.prog 28 #[.iface 79 (iv n), iv k] w fun e w' => e = .returned (.bool (n == k)) ∧ w = w' := by
  go_enter Tryz.func28, Tryz.ntmps28
  go_wp2_with fail
  refine (num_err n hn w).mono ?_
  rintro e w1 ⟨rfl, rfl⟩
  go_wp2_with fail
  go_ret
  exact ⟨rfl, rfl⟩

theorem ownb_of {o : Int} (h1 : o ≠ 0) (h2 : 0 ≤ o ∧ o ≤ 2) : ownb o = true := by unfold ownb; exact decide_eq_true (by omega)
theorem give_own {o e u : Int} (hc : chk o e u = 0) (h0 : o ≠ 0) : give o e u o = (0, e, 0, 0) := by
  unfold give
  rw [if_neg (by omega), if_neg (by rw [ownb_of h0 (chk_ok hc).1]; simp), if_neg (by simp)]
/-- renewing keeps owner and epoch, and never shortens -/
theorem grant_own {o e u now span bound : Int} (hc : chk o e u = 0) (h0 : o ≠ 0) : (grant o e u o now span bound).2.2.2 = 0 →
    (grant o e u o now span bound).1 = o ∧ (grant o e u o now span bound).2.1 = e ∧ u ≤ (grant o e u o now span bound).2.2.1 ∧ now + span ≤ (grant o e u o now span bound).2.2.1 ∧ (0 ≤ now ∧ now ≤ 1099511627776) ∧ 0 ≤ span ∧ span ≤ 1099511627776 := by
  unfold grant
  rw [if_neg (by omega)]
  cases hi : inb [now, span, bound]
  · rw [if_pos (Or.inr rfl)]; simp
  · have h3 := inb_three hi
    rw [if_neg (by rw [ownb_of h0 (chk_ok hc).1]; simp), if_neg (by simp), if_neg (by simp)]
    cases inb [e, now + span]
    · simp
    · intro _
      exact ⟨rfl, rfl, Int.le_max_left _ _, Int.le_max_right _ _, h3.1, h3.2.1⟩
theorem chk_free {o e u : Int} (hc : chk o e u = 0) : chk 0 e 0 = 0 := by
  have := (chk_ok hc).2.1
  unfold chk inb
  simp [this.1, this.2]
/-- what is free anyone gets, by an epoch that is 1 more -/
theorem grant_free {e to now span bound : Int} (hc : chk 0 e 0 = 0) (ht : to = 1 ∨ to = 2) : (grant 0 e 0 to now span bound).2.2.2 ≠ 15 ∧ ((grant 0 e 0 to now span bound).2.2.2 = 0 → (grant 0 e 0 to now span bound).1 = to ∧ (grant 0 e 0 to now span bound).2.1 = e + 1) := by
  unfold grant
  rw [if_neg (by omega)]
  cases hi : inb [now, span, bound]
  · rw [if_pos (Or.inr rfl)]; simp
  · have h3 := inb_three hi
    have hf : freeb 0 e 0 now bound = true := by
      have h4 : inb [now, bound] = true := by simp [inb]; omega
      unfold freeb
      rw [hc, h4]
      simp
    rw [if_neg (by rw [ownb_of (by omega) (by omega)]; simp), if_neg (by rw [hf]; simp), if_pos (by omega)]
    cases inb [e + 1, now + span] <;> simp

namespace LeaseRenews
end LeaseRenews
end Go.Proofs.YtddmfoldnlafaaaGreatDoor
