/- WHAT IT HOLDS: lease.Grant, walked. -/
import Derived.Test.YtddmfoldnlafaaaGreatDoorRegisterPlaysG03
namespace Go.Proofs.YtddmfoldnlafaaaGreatDoor
open Go.RowKit

def grant (o e u tw now span bound : Int) : Int × Int × Int × Nat :=
  if chk o e u ≠ 0 then (0, 0, 0, chk o e u) else if ownb tw = false ∨ inb [now, span, bound] = false then (0, 0, 0, 1)
  else if o ≠ tw ∧ freeb o e u now bound = false then (0, 0, 0, 15)
  else if o ≠ tw then (if inb [e + 1, now + span] then (tw, e + 1, now + span, 0) else (0, 0, 0, 5))
  else (if inb [e, now + span] then (tw, e, max u (now + span), 0) else (0, 0, 0, 5))

set_option maxRecDepth 100000 in
set_option maxHeartbeats 1000000 in
theorem grant_err (o e u tw now span bound : Int) (hc : chk o e u ≠ 0) (w : World) : Calls Tryz.prog 68 #[lv o e u, iv tw, iv now, iv span, iv bound] w (Leased (grant o e u tw now span bound) w) := by
  have hB0 := Blk.new w 56 #[iv o, iv e, iv u]
  have hB1 := Blk.newAt (w := w.alloc (.cells #[iv o, iv e, iv u] 56)) (g := w.heap.size + 1) (by simp) 56 #[iv 0, iv 0, iv 0]
  have hB0 := hB0.alloc (.cells #[iv 0, iv 0, iv 0] 56)
  have hbw := (below_new w (.cells #[iv o, iv e, iv u] 56)).trans ((below_new (w.alloc (.cells #[iv o, iv e, iv u] 56)) (.cells #[iv 0, iv 0, iv 0] 56)).mono (size_new _ _))
  have hg := Lib.hid (show grant o e u tw now span bound = (0, 0, 0, chk o e u) from by unfold grant; rw [if_pos hc])
  rcases errv_cases (chk o e u) with ⟨h, he⟩ | ⟨k, hk, h, he⟩
  · exact absurd h hc
  · clear hc h
    go_enter Tryz.func68, Tryz.ntmps68
    go_wp2_with fail
    refine (Check_any o e u _).mono ?_
    rintro r w1 ⟨rfl, hb1⟩
    obtain ⟨a0, a1, a2, _, _, _⟩ := (hB0.below hb1).three
    obtain ⟨b0, b1, b2, f0, f1, f2⟩ := (hB1.below hb1).three
    have hz : w.heap.size + 1 < w1.heap.size := by have := hb1.size; simp at this; omega
    go_wp2_with fail
    refine bodyPost_ret (v := .tuple #[lv 0 0 0, .iface 79 (.int .i64 k)]) (by simp [results, Tryz.results68, go_sem, b0, b1, b2]) rfl ⟨by rw [hg.out, ← he], below_three (hbw.trans (hb1.mono hbw.size)) (by omega) _ _ _⟩

set_option maxRecDepth 100000 in
set_option maxHeartbeats 1000000 in
theorem grant_range (o e u tw now span bound : Int) (hc : chk o e u = 0) (hr : ownb tw = false ∨ inb [now, span, bound] = false) (w : World) :
    Calls Tryz.prog 68 #[lv o e u, iv tw, iv now, iv span, iv bound] w (Leased (grant o e u tw now span bound) w) := by
  have hB0 := Blk.new w 56 #[iv o, iv e, iv u]
  have hB1 := Blk.newAt (w := w.alloc (.cells #[iv o, iv e, iv u] 56)) (g := w.heap.size + 1) (by simp) 56 #[iv 0, iv 0, iv 0]
  have hB0 := hB0.alloc (.cells #[iv 0, iv 0, iv 0] 56)
  have hbw := (below_new w (.cells #[iv o, iv e, iv u] 56)).trans ((below_new (w.alloc (.cells #[iv o, iv e, iv u] 56)) (.cells #[iv 0, iv 0, iv 0] 56)).mono (size_new _ _))
  have hg := Lib.hid (show grant o e u tw now span bound = (0, 0, 0, 1) from by unfold grant; rw [if_neg (by omega), if_pos hr])
  have he : errv (chk o e u) = .nilIface := by rw [hc]; rfl
  clear hc
  rcases hr with hr | hr
  · skip
    go_enter Tryz.func68, Tryz.ntmps68
    go_wp2_with fail
    refine (Check_any o e u _).mono ?_
    rintro r w1 ⟨rfl, hb1⟩
    have hA0 := hB0.below hb1
    have hA1 := hB1.below hb1
    obtain ⟨a0, a1, a2, _, _, _⟩ := hA0.three
    obtain ⟨b0, b1, b2, f0, f1, f2⟩ := hA1.three
    have hz : w.heap.size + 1 < w1.heap.size := by have := hb1.size; simp at this; omega
    have hz0 : w.heap.size < w1.heap.size := by omega
    have hbw1 := hbw.trans (hb1.mono hbw.size)
    clear hB0 hB1 hb1
    go_wp2_with fail
    all_goals
      refine (owner_any tw _).mono ?_
      rintro r w2 ⟨rfl, rfl⟩
      go_wp2_with fail
      refine bodyPost_ret (res_lease rfl rfl (g := w.heap.size + 1) (x := iv 0) (y := iv 0) (z := iv 0) ?_) rfl ⟨by rw [hg.out]; rfl, ?_⟩
      · (repeat (first | with_reducible exact hA1 | with_reducible apply Blk.set3 | with_reducible refine Blk.alloc ?_ _))
      (repeat (first | with_reducible exact hbw1 | with_reducible refine bel_alloc ?_ _ | with_reducible refine bel_set ?_ (by first | omega | (dsimp only; omega)) _))
  · cases ho : ownb tw
    all_goals
      go_enter Tryz.func68, Tryz.ntmps68
      go_wp2_with fail
      refine (Check_any o e u _).mono ?_
      rintro r w1 ⟨rfl, hb1⟩
      have hA0 := hB0.below hb1
      have hA1 := hB1.below hb1
      obtain ⟨a0, a1, a2, _, _, _⟩ := hA0.three
      obtain ⟨b0, b1, b2, f0, f1, f2⟩ := hA1.three
      have hz : w.heap.size + 1 < w1.heap.size := by have := hb1.size; simp at this; omega
      have hz0 : w.heap.size < w1.heap.size := by omega
      have hbw1 := hbw.trans (hb1.mono hbw.size)
      clear hB0 hB1 hb1
      go_wp2_with fail
      all_goals
        refine (owner_any tw _).mono ?_
        rintro r w2 ⟨rfl, rfl⟩
        go_wp2_with fail
    · refine bodyPost_ret (res_lease rfl rfl (g := w.heap.size + 1) (x := iv 0) (y := iv 0) (z := iv 0) ?_) rfl ⟨by rw [hg.out]; rfl, ?_⟩
      · (repeat (first | with_reducible exact hA1 | with_reducible apply Blk.set3 | with_reducible refine Blk.alloc ?_ _))
      (repeat (first | with_reducible exact hbw1 | with_reducible refine bel_alloc ?_ _ | with_reducible refine bel_set ?_ (by first | omega | (dsimp only; omega)) _))
    · refine bodyPost_ret (res_lease rfl rfl (g := w.heap.size + 1) (x := iv 0) (y := iv 0) (z := iv 0) ?_) rfl ⟨by rw [hg.out]; rfl, ?_⟩
      · (repeat (first | with_reducible exact hA1 | with_reducible apply Blk.set3 | with_reducible refine Blk.alloc ?_ _))
      (repeat (first | with_reducible exact hbw1 | with_reducible refine bel_alloc ?_ _ | with_reducible refine bel_set ?_ (by first | omega | (dsimp only; omega)) _))
    all_goals
      refine (in_any _ 3 [now, span, bound] _ (Sl.litsAt (by simp) [iv now, iv span, iv bound] 3 (by simp [maxLen]))).mono ?_
      rintro r w2 ⟨rfl, rfl⟩
      go_wp2_with fail
      refine bodyPost_ret (res_lease rfl rfl (g := w.heap.size + 1) (x := iv 0) (y := iv 0) (z := iv 0) ?_) rfl ⟨by rw [hg.out]; rfl, ?_⟩
      · (repeat (first | with_reducible exact hA1 | with_reducible apply Blk.set3 | with_reducible refine Blk.alloc ?_ _))
      (repeat (first | with_reducible exact hbw1 | with_reducible refine bel_alloc ?_ _ | with_reducible refine bel_set ?_ (by first | omega | (dsimp only; omega)) _))

set_option maxRecDepth 100000 in
set_option maxHeartbeats 2000000 in
theorem grant_same (o e u tw now span bound : Int) (hc : chk o e u = 0) (ho : ownb tw = true) (hi : inb [now, span, bound] = true) (hot : o = tw) (w : World) :
    Calls Tryz.prog 68 #[lv o e u, iv tw, iv now, iv span, iv bound] w (Leased (grant o e u tw now span bound) w) := by
  have hB0 := Blk.new w 56 #[iv o, iv e, iv u]
  have hB1 := Blk.newAt (w := w.alloc (.cells #[iv o, iv e, iv u] 56)) (g := w.heap.size + 1) (by simp) 56 #[iv 0, iv 0, iv 0]
  have hB0 := hB0.alloc (.cells #[iv 0, iv 0, iv 0] 56)
  have hbw := (below_new w (.cells #[iv o, iv e, iv u] 56)).trans ((below_new (w.alloc (.cells #[iv o, iv e, iv u] 56)) (.cells #[iv 0, iv 0, iv 0] 56)).mono (size_new _ _))
  have hck := chk_ok hc
  obtain ⟨_, ⟨he1, he2⟩, ⟨hu1, hu2⟩, _⟩ := hck
  have he : errv (chk o e u) = .nilIface := by rw [hc]; rfl
  have H3 := inb_three hi
  obtain ⟨⟨hn1, hn2⟩, ⟨hs1, hs2⟩, hd1, hd2⟩ := H3
  have HC := Lib.hid hc
  clear hc
  have hob : (o != tw) = false := by simp; omega
  have hG : grant o e u tw now span bound = if inb [e, now + span] then (tw, e, max u (now + span), 0) else (0, 0, 0, 5) := by
    unfold grant; rw [if_neg (by rw [HC.out]; simp), if_neg (by rw [ho, hi]; simp), if_neg (fun h => h.1 hot), if_neg (by simpa using hot)]
  have HO := Lib.hid hot
  clear hot
  rcases Decidable.em (now + span ≤ u) with hm | hm
  all_goals
    cases h2 : inb [e, now + span]
  · have hg := Lib.hid (show grant o e u tw now span bound = (0, 0, 0, 5) from by rw [hG, h2]; rfl)
    clear hG
    go_enter Tryz.func68, Tryz.ntmps68
    go_wp2_with fail
    refine (Check_any o e u _).mono ?_
    rintro r w1 ⟨rfl, hb1⟩
    have hA0 := hB0.below hb1
    have hA1 := hB1.below hb1
    obtain ⟨a0, a1, a2, _, _, _⟩ := hA0.three
    obtain ⟨b0, b1, b2, f0, f1, f2⟩ := hA1.three
    have hz : w.heap.size + 1 < w1.heap.size := by have := hb1.size; simp at this; omega
    have hz0 : w.heap.size < w1.heap.size := by omega
    have hbw1 := hbw.trans (hb1.mono hbw.size)
    clear hB0 hB1 hb1
    go_wp2_with fail
    refine (owner_any tw _).mono ?_
    rintro r w2 ⟨rfl, rfl⟩
    go_wp2_with fail
    refine (in_any _ 3 [now, span, bound] _ (Sl.litsAt (by simp) [iv now, iv span, iv bound] 3 (by simp [maxLen]))).mono ?_
    rintro r w2 ⟨rfl, rfl⟩
    go_wp2_with fail
    refine (in_any _ 2 [e, now + span] _ (Sl.litsAt (by simp) [iv e, iv (now + span)] 3 (by simp [maxLen]))).mono ?_
    rintro r w2 ⟨rfl, rfl⟩
    go_wp2_with fail
    refine bodyPost_ret (res_lease rfl rfl (g := w.heap.size + 1) (x := iv 0) (y := iv 0) (z := iv 0) ?_) rfl ⟨by rw [hg.out]; rfl, ?_⟩
    · (repeat (first | with_reducible exact hA1 | with_reducible apply Blk.set3 | with_reducible refine Blk.alloc ?_ _))
    (repeat (first | with_reducible exact hbw1 | with_reducible refine bel_alloc ?_ _ | with_reducible refine bel_set ?_ (by first | omega | (dsimp only; omega)) _))
  · have hg := Lib.hid (show grant o e u tw now span bound = (tw, e, u, 0) from by rw [hG, h2, Int.max_eq_left hm]; rfl)
    clear hG
    go_enter Tryz.func68, Tryz.ntmps68
    go_wp2_with fail
    refine (Check_any o e u _).mono ?_
    rintro r w1 ⟨rfl, hb1⟩
    have hA0 := hB0.below hb1
    have hA1 := hB1.below hb1
    obtain ⟨a0, a1, a2, _, _, _⟩ := hA0.three
    obtain ⟨b0, b1, b2, f0, f1, f2⟩ := hA1.three
    have hz : w.heap.size + 1 < w1.heap.size := by have := hb1.size; simp at this; omega
    have hz0 : w.heap.size < w1.heap.size := by omega
    have hbw1 := hbw.trans (hb1.mono hbw.size)
    clear hB0 hB1 hb1
    go_wp2_with fail
    refine (owner_any tw _).mono ?_
    rintro r w2 ⟨rfl, rfl⟩
    go_wp2_with fail
    refine (in_any _ 3 [now, span, bound] _ (Sl.litsAt (by simp) [iv now, iv span, iv bound] 3 (by simp [maxLen]))).mono ?_
    rintro r w2 ⟨rfl, rfl⟩
    go_wp2_with fail
    refine (in_any _ 2 [e, now + span] _ (Sl.litsAt (by simp) [iv e, iv (now + span)] 3 (by simp [maxLen]))).mono ?_
    rintro r w2 ⟨rfl, rfl⟩
    go_wp2_with fail
    refine bodyPost_ret (res_lease rfl rfl (g := w.heap.size + 1) (x := iv tw) (y := iv e) (z := iv u) ?_) rfl ⟨by rw [hg.out]; rfl, ?_⟩
    · (repeat (first | with_reducible exact hA1 | with_reducible apply Blk.set3 | with_reducible refine Blk.alloc ?_ _))
    (repeat (first | with_reducible exact hbw1 | with_reducible refine bel_alloc ?_ _ | with_reducible refine bel_set ?_ (by first | omega | (dsimp only; omega)) _))
  · have hg := Lib.hid (show grant o e u tw now span bound = (0, 0, 0, 5) from by rw [hG, h2]; rfl)
    clear hG
    go_enter Tryz.func68, Tryz.ntmps68
    go_wp2_with fail
    refine (Check_any o e u _).mono ?_
    rintro r w1 ⟨rfl, hb1⟩
    have hA0 := hB0.below hb1
    have hA1 := hB1.below hb1
    obtain ⟨a0, a1, a2, _, _, _⟩ := hA0.three
    obtain ⟨b0, b1, b2, f0, f1, f2⟩ := hA1.three
    have hz : w.heap.size + 1 < w1.heap.size := by have := hb1.size; simp at this; omega
    have hz0 : w.heap.size < w1.heap.size := by omega
    have hbw1 := hbw.trans (hb1.mono hbw.size)
    clear hB0 hB1 hb1
    go_wp2_with fail
    refine (owner_any tw _).mono ?_
    rintro r w2 ⟨rfl, rfl⟩
    go_wp2_with fail
    refine (in_any _ 3 [now, span, bound] _ (Sl.litsAt (by simp) [iv now, iv span, iv bound] 3 (by simp [maxLen]))).mono ?_
    rintro r w2 ⟨rfl, rfl⟩
    go_wp2_with fail
    refine (in_any _ 2 [e, now + span] _ (Sl.litsAt (by simp) [iv e, iv (now + span)] 3 (by simp [maxLen]))).mono ?_
    rintro r w2 ⟨rfl, rfl⟩
    go_wp2_with fail
    refine bodyPost_ret (res_lease rfl rfl (g := w.heap.size + 1) (x := iv 0) (y := iv 0) (z := iv 0) ?_) rfl ⟨by rw [hg.out]; rfl, ?_⟩
    · (repeat (first | with_reducible exact hA1 | with_reducible apply Blk.set3 | with_reducible refine Blk.alloc ?_ _))
    (repeat (first | with_reducible exact hbw1 | with_reducible refine bel_alloc ?_ _ | with_reducible refine bel_set ?_ (by first | omega | (dsimp only; omega)) _))
  · have hg := Lib.hid (show grant o e u tw now span bound = (tw, e, now + span, 0) from by rw [hG, h2, Int.max_eq_right (by omega)]; rfl)
    clear hG
    go_enter Tryz.func68, Tryz.ntmps68
    go_wp2_with fail
    refine (Check_any o e u _).mono ?_
    rintro r w1 ⟨rfl, hb1⟩
    have hA0 := hB0.below hb1
    have hA1 := hB1.below hb1
    obtain ⟨a0, a1, a2, _, _, _⟩ := hA0.three
    obtain ⟨b0, b1, b2, f0, f1, f2⟩ := hA1.three
    have hz : w.heap.size + 1 < w1.heap.size := by have := hb1.size; simp at this; omega
    have hz0 : w.heap.size < w1.heap.size := by omega
    have hbw1 := hbw.trans (hb1.mono hbw.size)
    clear hB0 hB1 hb1
    go_wp2_with fail
    refine (owner_any tw _).mono ?_
    rintro r w2 ⟨rfl, rfl⟩
    go_wp2_with fail
    refine (in_any _ 3 [now, span, bound] _ (Sl.litsAt (by simp) [iv now, iv span, iv bound] 3 (by simp [maxLen]))).mono ?_
    rintro r w2 ⟨rfl, rfl⟩
    go_wp2_with fail
    refine (in_any _ 2 [e, now + span] _ (Sl.litsAt (by simp) [iv e, iv (now + span)] 3 (by simp [maxLen]))).mono ?_
    rintro r w2 ⟨rfl, rfl⟩
    go_wp2_with fail
    refine bodyPost_ret (res_lease rfl rfl (g := w.heap.size + 1) (x := iv tw) (y := iv e) (z := iv (now + span)) ?_) rfl ⟨by rw [hg.out]; rfl, ?_⟩
    · (repeat (first | with_reducible exact hA1 | with_reducible apply Blk.set3 | with_reducible refine Blk.alloc ?_ _))
    (repeat (first | with_reducible exact hbw1 | with_reducible refine bel_alloc ?_ _ | with_reducible refine bel_set ?_ (by first | omega | (dsimp only; omega)) _))

set_option maxRecDepth 100000 in
set_option maxHeartbeats 2000000 in
theorem grant_no (o e u tw now span bound : Int) (hc : chk o e u = 0) (ho : ownb tw = true) (hi : inb [now, span, bound] = true) (hot : o ≠ tw) (hf : freeb o e u now bound = false) (w : World) :
    Calls Tryz.prog 68 #[lv o e u, iv tw, iv now, iv span, iv bound] w (Leased (grant o e u tw now span bound) w) := by
  have hB0 := Blk.new w 56 #[iv o, iv e, iv u]
  have hB1 := Blk.newAt (w := w.alloc (.cells #[iv o, iv e, iv u] 56)) (g := w.heap.size + 1) (by simp) 56 #[iv 0, iv 0, iv 0]
  have hB0 := hB0.alloc (.cells #[iv 0, iv 0, iv 0] 56)
  have hbw := (below_new w (.cells #[iv o, iv e, iv u] 56)).trans ((below_new (w.alloc (.cells #[iv o, iv e, iv u] 56)) (.cells #[iv 0, iv 0, iv 0] 56)).mono (size_new _ _))
  have hck := chk_ok hc
  obtain ⟨_, ⟨he1, he2⟩, ⟨hu1, hu2⟩, _⟩ := hck
  have he : errv (chk o e u) = .nilIface := by rw [hc]; rfl
  have H3 := inb_three hi
  obtain ⟨⟨hn1, hn2⟩, ⟨hs1, hs2⟩, hd1, hd2⟩ := H3
  have HC := Lib.hid hc
  clear hc
  have hob : (o != tw) = true := by simp; omega
  have hG : grant o e u tw now span bound = if freeb o e u now bound = false then (0, 0, 0, 15) else if inb [e + 1, now + span] then (tw, e + 1, now + span, 0) else (0, 0, 0, 5) := by
    unfold grant
    rw [if_neg (by rw [HC.out]; simp), if_neg (by rw [ho, hi]; simp)]
    cases freeb o e u now bound
    · rw [if_pos ⟨hot, rfl⟩, if_pos rfl]
    · rw [if_neg (fun h => by cases h.2), if_pos hot]; simp
  have HO := Lib.hid hot
  clear hot
  have hg := Lib.hid (show grant o e u tw now span bound = (0, 0, 0, 15) from by rw [hG, hf]; rfl)
  clear hG
  rcases Decidable.em (now + span ≤ u) with hm | hm
  all_goals
    go_enter Tryz.func68, Tryz.ntmps68
    go_wp2_with fail
    refine (Check_any o e u _).mono ?_
    rintro r w1 ⟨rfl, hb1⟩
    have hA0 := hB0.below hb1
    have hA1 := hB1.below hb1
    obtain ⟨a0, a1, a2, _, _, _⟩ := hA0.three
    obtain ⟨b0, b1, b2, f0, f1, f2⟩ := hA1.three
    have hz : w.heap.size + 1 < w1.heap.size := by have := hb1.size; simp at this; omega
    have hz0 : w.heap.size < w1.heap.size := by omega
    have hbw1 := hbw.trans (hb1.mono hbw.size)
    clear hB0 hB1 hb1
    go_wp2_with fail
    refine (owner_any tw _).mono ?_
    rintro r w2 ⟨rfl, rfl⟩
    go_wp2_with fail
    refine (in_any _ 3 [now, span, bound] _ (Sl.litsAt (by simp) [iv now, iv span, iv bound] 3 (by simp [maxLen]))).mono ?_
    rintro r w2 ⟨rfl, rfl⟩
    go_wp2_with fail
    refine (Free_any o e u now bound _).mono ?_
    rintro r w3 ⟨rfl, hb3⟩
    have hbw3 := bel_call (bel_alloc (bel_alloc hbw1 _) _) hb3
    obtain ⟨a0, a1, a2, _, _, _⟩ := (((hA0.alloc _).alloc _).below hb3).three
    have hE1 := ((hA1.alloc _).alloc _).below hb3
    obtain ⟨b0, b1, b2, f0, f1, f2⟩ := hE1.three
    go_wp2_with fail
    refine bodyPost_ret (res_lease rfl rfl (g := w.heap.size + 1) (x := iv 0) (y := iv 0) (z := iv 0) ?_) rfl ⟨by rw [hg.out]; rfl, ?_⟩
    · (repeat (first | with_reducible exact hE1 | with_reducible apply Blk.set3))
    (repeat (first | with_reducible exact hbw3 | with_reducible refine bel_set ?_ (by first | omega | (dsimp only; omega)) _))

set_option maxRecDepth 100000 in
set_option maxHeartbeats 2000000 in
theorem grant_full (o e u tw now span bound : Int) (hc : chk o e u = 0) (ho : ownb tw = true) (hi : inb [now, span, bound] = true) (hot : o ≠ tw) (hf : freeb o e u now bound = true) (h2 : inb [e + 1, now + span] = false) (w : World) :
    Calls Tryz.prog 68 #[lv o e u, iv tw, iv now, iv span, iv bound] w (Leased (grant o e u tw now span bound) w) := by
  have hB0 := Blk.new w 56 #[iv o, iv e, iv u]
  have hB1 := Blk.newAt (w := w.alloc (.cells #[iv o, iv e, iv u] 56)) (g := w.heap.size + 1) (by simp) 56 #[iv 0, iv 0, iv 0]
  have hB0 := hB0.alloc (.cells #[iv 0, iv 0, iv 0] 56)
  have hbw := (below_new w (.cells #[iv o, iv e, iv u] 56)).trans ((below_new (w.alloc (.cells #[iv o, iv e, iv u] 56)) (.cells #[iv 0, iv 0, iv 0] 56)).mono (size_new _ _))
  have hck := chk_ok hc
  obtain ⟨_, ⟨he1, he2⟩, ⟨hu1, hu2⟩, _⟩ := hck
  have he : errv (chk o e u) = .nilIface := by rw [hc]; rfl
  have H3 := inb_three hi
  obtain ⟨⟨hn1, hn2⟩, ⟨hs1, hs2⟩, hd1, hd2⟩ := H3
  have HC := Lib.hid hc
  clear hc
  have hob : (o != tw) = true := by simp; omega
  have hG : grant o e u tw now span bound = if freeb o e u now bound = false then (0, 0, 0, 15) else if inb [e + 1, now + span] then (tw, e + 1, now + span, 0) else (0, 0, 0, 5) := by
    unfold grant
    rw [if_neg (by rw [HC.out]; simp), if_neg (by rw [ho, hi]; simp)]
    cases freeb o e u now bound
    · rw [if_pos ⟨hot, rfl⟩, if_pos rfl]
    · rw [if_neg (fun h => by cases h.2), if_pos hot]; simp
  have HO := Lib.hid hot
  clear hot
  have hg := Lib.hid (show grant o e u tw now span bound = (0, 0, 0, 5) from by rw [hG, hf, h2]; simp)
  clear hG
  rcases Decidable.em (now + span ≤ u) with hm | hm
  all_goals
    go_enter Tryz.func68, Tryz.ntmps68
    go_wp2_with fail
    refine (Check_any o e u _).mono ?_
    rintro r w1 ⟨rfl, hb1⟩
    have hA0 := hB0.below hb1
    have hA1 := hB1.below hb1
    obtain ⟨a0, a1, a2, _, _, _⟩ := hA0.three
    obtain ⟨b0, b1, b2, f0, f1, f2⟩ := hA1.three
    have hz : w.heap.size + 1 < w1.heap.size := by have := hb1.size; simp at this; omega
    have hz0 : w.heap.size < w1.heap.size := by omega
    have hbw1 := hbw.trans (hb1.mono hbw.size)
    clear hB0 hB1 hb1
    go_wp2_with fail
    refine (owner_any tw _).mono ?_
    rintro r w2 ⟨rfl, rfl⟩
    go_wp2_with fail
    refine (in_any _ 3 [now, span, bound] _ (Sl.litsAt (by simp) [iv now, iv span, iv bound] 3 (by simp [maxLen]))).mono ?_
    rintro r w2 ⟨rfl, rfl⟩
    go_wp2_with fail
    refine (Free_any o e u now bound _).mono ?_
    rintro r w3 ⟨rfl, hb3⟩
    have hbw3 := bel_call (bel_alloc (bel_alloc hbw1 _) _) hb3
    have hD0 := ((hA0.alloc _).alloc _).below hb3
    have hD1 := ((hA1.alloc _).alloc _).below hb3
    have hD2 := ((Blk.new w1 56 #[iv tw, iv e, _]).alloc _).below hb3
    have hz3 : w1.heap.size + 1 < w3.heap.size := by have := hb3.size; simp at this; omega
    have hz4 : w1.heap.size < w3.heap.size := by omega
    have hz5 : w.heap.size + 1 < w3.heap.size := by omega
    have hz6 : w.heap.size < w3.heap.size := by omega
    clear a0 a1 a2 b0 b1 b2 f0 f1 f2 hA0 hA1 hb3 hbw1
    obtain ⟨a0, a1, a2, _, _, _⟩ := hD0.three
    obtain ⟨b0, b1, b2, f0, f1, f2⟩ := hD1.three
    obtain ⟨c0, c1, c2, g0, g1, g2⟩ := hD2.three
    clear hD0 hD2
    go_wp2_with fail
    refine (in_any _ 2 [e + 1, now + span] _ (Sl.litsAt (by simp) [iv (e + 1), iv (now + span)] 3 (by simp [maxLen]))).mono ?_
    rintro r w4 ⟨rfl, rfl⟩
    go_wp2_with fail
    refine bodyPost_ret (res_lease rfl rfl (g := w.heap.size + 1) (x := iv 0) (y := iv 0) (z := iv 0) ?_) rfl ⟨by rw [hg.out]; rfl, ?_⟩
    · (repeat (first | with_reducible exact hD1 | with_reducible apply Blk.set3 | with_reducible refine Blk.alloc ?_ _ | with_reducible refine Blk.far ?_ (by first | omega | (dsimp only; omega)) _))
    (repeat (first | with_reducible exact hbw3 | with_reducible refine bel_alloc ?_ _ | with_reducible refine bel_set ?_ (by first | omega | (dsimp only; omega)) _))

set_option maxRecDepth 100000 in
set_option maxHeartbeats 2000000 in
theorem grant_ok (o e u tw now span bound : Int) (hc : chk o e u = 0) (ho : ownb tw = true) (hi : inb [now, span, bound] = true) (hot : o ≠ tw) (hf : freeb o e u now bound = true) (h2 : inb [e + 1, now + span] = true) (w : World) :
    Calls Tryz.prog 68 #[lv o e u, iv tw, iv now, iv span, iv bound] w (Leased (grant o e u tw now span bound) w) := by
  have hB0 := Blk.new w 56 #[iv o, iv e, iv u]
  have hB1 := Blk.newAt (w := w.alloc (.cells #[iv o, iv e, iv u] 56)) (g := w.heap.size + 1) (by simp) 56 #[iv 0, iv 0, iv 0]
  have hB0 := hB0.alloc (.cells #[iv 0, iv 0, iv 0] 56)
  have hbw := (below_new w (.cells #[iv o, iv e, iv u] 56)).trans ((below_new (w.alloc (.cells #[iv o, iv e, iv u] 56)) (.cells #[iv 0, iv 0, iv 0] 56)).mono (size_new _ _))
  have hck := chk_ok hc
  obtain ⟨_, ⟨he1, he2⟩, ⟨hu1, hu2⟩, _⟩ := hck
  have he : errv (chk o e u) = .nilIface := by rw [hc]; rfl
  have H3 := inb_three hi
  obtain ⟨⟨hn1, hn2⟩, ⟨hs1, hs2⟩, hd1, hd2⟩ := H3
  have HC := Lib.hid hc
  clear hc
  have hob : (o != tw) = true := by simp; omega
  have hG : grant o e u tw now span bound = if freeb o e u now bound = false then (0, 0, 0, 15) else if inb [e + 1, now + span] then (tw, e + 1, now + span, 0) else (0, 0, 0, 5) := by
    unfold grant
    rw [if_neg (by rw [HC.out]; simp), if_neg (by rw [ho, hi]; simp)]
    cases freeb o e u now bound
    · rw [if_pos ⟨hot, rfl⟩, if_pos rfl]
    · rw [if_neg (fun h => by cases h.2), if_pos hot]; simp
  have HO := Lib.hid hot
  clear hot
  have hg := Lib.hid (show grant o e u tw now span bound = (tw, e + 1, now + span, 0) from by rw [hG, hf, h2]; simp)
  clear hG
  rcases Decidable.em (now + span ≤ u) with hm | hm
  all_goals
    go_enter Tryz.func68, Tryz.ntmps68
    go_wp2_with fail
    refine (Check_any o e u _).mono ?_
    rintro r w1 ⟨rfl, hb1⟩
    have hA0 := hB0.below hb1
    have hA1 := hB1.below hb1
    obtain ⟨a0, a1, a2, _, _, _⟩ := hA0.three
    obtain ⟨b0, b1, b2, f0, f1, f2⟩ := hA1.three
    have hz : w.heap.size + 1 < w1.heap.size := by have := hb1.size; simp at this; omega
    have hz0 : w.heap.size < w1.heap.size := by omega
    have hbw1 := hbw.trans (hb1.mono hbw.size)
    clear hB0 hB1 hb1
    go_wp2_with fail
    refine (owner_any tw _).mono ?_
    rintro r w2 ⟨rfl, rfl⟩
    go_wp2_with fail
    refine (in_any _ 3 [now, span, bound] _ (Sl.litsAt (by simp) [iv now, iv span, iv bound] 3 (by simp [maxLen]))).mono ?_
    rintro r w2 ⟨rfl, rfl⟩
    go_wp2_with fail
    refine (Free_any o e u now bound _).mono ?_
    rintro r w3 ⟨rfl, hb3⟩
    have hbw3 := bel_call (bel_alloc (bel_alloc hbw1 _) _) hb3
    have hD0 := ((hA0.alloc _).alloc _).below hb3
    have hD1 := ((hA1.alloc _).alloc _).below hb3
    have hD2 := ((Blk.new w1 56 #[iv tw, iv e, _]).alloc _).below hb3
    have hz3 : w1.heap.size + 1 < w3.heap.size := by have := hb3.size; simp at this; omega
    have hz4 : w1.heap.size < w3.heap.size := by omega
    have hz5 : w.heap.size + 1 < w3.heap.size := by omega
    have hz6 : w.heap.size < w3.heap.size := by omega
    clear a0 a1 a2 b0 b1 b2 f0 f1 f2 hA0 hA1 hb3 hbw1
    obtain ⟨a0, a1, a2, _, _, _⟩ := hD0.three
    obtain ⟨b0, b1, b2, f0, f1, f2⟩ := hD1.three
    obtain ⟨c0, c1, c2, g0, g1, g2⟩ := hD2.three
    clear hD0 hD2
    go_wp2_with fail
    refine (in_any _ 2 [e + 1, now + span] _ (Sl.litsAt (by simp) [iv (e + 1), iv (now + span)] 3 (by simp [maxLen]))).mono ?_
    rintro r w4 ⟨rfl, rfl⟩
    go_wp2_with fail
    refine bodyPost_ret (res_lease rfl rfl (g := w.heap.size + 1) (x := iv tw) (y := iv (e + 1)) (z := iv (now + span)) ?_) rfl ⟨by rw [hg.out]; rfl, ?_⟩
    · (repeat (first | with_reducible exact hD1 | with_reducible apply Blk.set3 | with_reducible refine Blk.alloc ?_ _ | with_reducible refine Blk.far ?_ (by first | omega | (dsimp only; omega)) _))
    (repeat (first | with_reducible exact hbw3 | with_reducible refine bel_alloc ?_ _ | with_reducible refine bel_set ?_ (by first | omega | (dsimp only; omega)) _))

theorem Grant_any (o e u tw now span bound : Int) (w : World) :
    Calls Tryz.prog 68 #[lv o e u, iv tw, iv now, iv span, iv bound] w (Leased (grant o e u tw now span bound) w) := by
  rcases Decidable.em (chk o e u = 0) with hc | hc
  · cases ho : ownb tw
    · exact grant_range o e u tw now span bound hc (.inl ho) w
    · cases hi : inb [now, span, bound]
      · exact grant_range o e u tw now span bound hc (.inr hi) w
      · rcases Decidable.em (o = tw) with hot | hot
        · exact grant_same o e u tw now span bound hc ho hi hot w
        · cases hf : freeb o e u now bound
          · exact grant_no o e u tw now span bound hc ho hi hot hf w
          · cases h2 : inb [e + 1, now + span]
            · exact grant_full o e u tw now span bound hc ho hi hot hf h2 w
            · exact grant_ok o e u tw now span bound hc ho hi hot hf h2 w
  · exact grant_err o e u tw now span bound hc w
end Go.Proofs.YtddmfoldnlafaaaGreatDoor
