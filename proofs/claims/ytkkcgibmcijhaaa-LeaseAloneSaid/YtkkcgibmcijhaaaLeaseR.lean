/- WHAT IS PROVED: the statement LeaseRenews: for every input the law returns true. No condition. -/
import Derived.Test.YtkkcgibmcijhaaaLeaseG
namespace Go.Proofs.Ytkkcgibmcijhaaa
open Go.ChangeShapes Go.WideShapes Go.ChangeAt Go.RowKit

theorem is_nil (k : Int) (hk : 0 < k) (w : World) : Calls Try.prog 85 #[.nilIface, iv k] w fun e w' => e = .returned (.bool false) ∧ w = w' := by
  have hz : ((0 : Int) == k) = false := by simp; omega
  go_enter Try.func85, Try.ntmps85
  go_wp2_with fail
  refine (num_nil w).mono ?_
  rintro e w1 ⟨rfl, rfl⟩
  go_wp2_with fail
  go_ret
  exact ⟨rfl, rfl⟩
theorem is_err (n k : Int) (hn : 0 < n) (w : World) : Calls Try.prog 85 #[.iface 153 (iv n), iv k] w fun e w' => e = .returned (.bool (n == k)) ∧ w = w' := by
  go_enter Try.func85, Try.ntmps85
  go_wp2_with fail
  refine (num_err n hn w).mono ?_
  rintro e w1 ⟨rfl, rfl⟩
  go_wp2_with fail
  go_ret
  exact ⟨rfl, rfl⟩

set_option maxRecDepth 100000 in
set_option maxHeartbeats 400000 in
theorem alive28_any (w : World) : Calls Try.prog 16 #[] w fun e w' => e = .returned (.bool true) ∧ Below w.heap.size w w' := by
  have hG1 := fun W => Grant_any 1 4 10 2 11 5 2 W
  rw [show grant 1 4 10 2 11 5 2 = (0, 0, 0, 15) from by decide] at hG1
  have hG2 := fun W => Grant_any 1 4 10 2 12 5 2 W
  rw [show grant 1 4 10 2 12 5 2 = (2, 5, 17, 0) from by decide] at hG2
  have HG1 := Lib.hid hG1
  have HG2 := Lib.hid hG2
  clear hG1 hG2
  have hB0 := Blk.new w 25 #[iv 1, iv 4, iv 10]
  go_enter Try.func16, Try.ntmps16
  go_wp2_with fail
  refine (HG1.out _).mono ?_
  rintro r w1 ⟨rfl, hb1⟩
  have hbw1 := bel_call (below_new w (.cells #[iv 1, iv 4, iv 10] 25)) hb1
  obtain ⟨a0, a1, a2, _, _, _⟩ := (hB0.below hb1).three
  have hz : w.heap.size < w1.heap.size := by have := hb1.size; simp at this; omega
  go_wp2_with fail
  refine (HG2.out _).mono ?_
  rintro r w2 ⟨rfl, hb2⟩
  have hbw2 := bel_call (bel_alloc hbw1 _) hb2
  have e15 : errv 15 = .iface 153 (iv 15) := rfl
  have e0 : errv 0 = .nilIface := rfl
  go_wp2_with fail
  refine (is_err 15 15 (by omega) _).mono ?_
  rintro r w3 ⟨rfl, rfl⟩
  go_wp2_with fail
  go_ret
  exact ⟨rfl, by (repeat (first | with_reducible exact hbw2 | with_reducible refine bel_alloc ?_ _ | with_reducible refine bel_set ?_ (by first | omega | (dsimp only; omega)) _ | with_reducible refine below_drewN ?_ _ | with_reducible refine Below.drew ?_))⟩

theorem ownb_of {o : Int} (h1 : o ≠ 0) (h2 : 0 ≤ o ∧ o ≤ 2) : ownb o = true := by unfold ownb; exact decide_eq_true (by omega)
theorem give_own {o e u : Int} (hc : chk o e u = 0) (h0 : o ≠ 0) : give o e u o = (0, e, 0, 0) := by
  unfold give
  rw [if_neg (by omega), if_neg (by rw [ownb_of h0 (chk_ok hc).1]; simp), if_neg (by simp)]
/-- renewing keeps owner and epoch, and never shortens -/
theorem grant_own {o e u now span bound : Int} (hc : chk o e u = 0) (h0 : o ≠ 0) : (grant o e u o now span bound).2.2.2 = 0 →
    (grant o e u o now span bound).1 = o ∧ (grant o e u o now span bound).2.1 = e ∧ u ≤ (grant o e u o now span bound).2.2.1 ∧ now + span ≤ (grant o e u o now span bound).2.2.1 ∧ (0 ≤ now ∧ now ≤ 1099511627776) ∧ 0 ≤ span ∧ span ≤ 1099511627776 := by
  unfold grant
  rw [if_neg (by omega)]
  cases hi : inb [now, span, bound]
  · rw [if_pos (Or.inr rfl)]; simp
  · have h3 := inb_three hi
    rw [if_neg (by rw [ownb_of h0 (chk_ok hc).1]; simp), if_neg (by simp), if_neg (by simp)]
    cases inb [e, now + span]
    · simp
    · intro _
      exact ⟨rfl, rfl, Int.le_max_left _ _, Int.le_max_right _ _, h3.1, h3.2.1⟩
theorem chk_free {o e u : Int} (hc : chk o e u = 0) : chk 0 e 0 = 0 := by
  have := (chk_ok hc).2.1
  unfold chk inb
  simp [this.1, this.2]
/-- what is free anyone gets, by an epoch that is 1 more -/
theorem grant_free {e to now span bound : Int} (hc : chk 0 e 0 = 0) (ht : to = 1 ∨ to = 2) : (grant 0 e 0 to now span bound).2.2.2 ≠ 15 ∧ ((grant 0 e 0 to now span bound).2.2.2 = 0 → (grant 0 e 0 to now span bound).1 = to ∧ (grant 0 e 0 to now span bound).2.1 = e + 1) := by
  unfold grant
  rw [if_neg (by omega)]
  cases hi : inb [now, span, bound]
  · rw [if_pos (Or.inr rfl)]; simp
  · have h3 := inb_three hi
    have hf : freeb 0 e 0 now bound = true := by
      have h4 : inb [now, bound] = true := by simp [inb]; omega
      unfold freeb
      rw [hc, h4]
      simp
    rw [if_neg (by rw [ownb_of (by omega) (by omega)]; simp), if_neg (by rw [hf]; simp), if_pos (by omega)]
    cases inb [e + 1, now + span] <;> simp

namespace LeaseRenews
end LeaseRenews
end Go.Proofs.Ytkkcgibmcijhaaa
