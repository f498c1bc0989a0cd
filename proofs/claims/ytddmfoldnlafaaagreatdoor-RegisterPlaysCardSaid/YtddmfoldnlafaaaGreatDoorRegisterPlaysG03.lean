/- WHAT IT HOLDS: what the functions of the package lease compute, walked. -/
import Derived.Test.YtddmfoldnlafaaaGreatDoorRegisterPlaysG01
import Derived.Test.YtddmfoldnlafaaaGreatDoorRegisterPlaysG02
namespace Go.Proofs.YtddmfoldnlafaaaGreatDoor
open Go.RowKit

abbrev iv (n : Int) : Value := .int .i64 n
/-- all from 0 to 2^40 -/
def inb (l : List Int) : Bool := l.all fun x => decide (0 ≤ x) && decide (x ≤ 1099511627776)
def ownb (x : Int) : Bool := decide (1 ≤ x ∧ x ≤ 2)
def chk (o e u : Int) : Nat := if (o ≠ 0 ∧ ownb o = false) ∨ inb [e, u] = false then 1 else if o = 0 ∧ u ≠ 0 then 2 else 0
theorem inb_take {l : List Int} {k : Nat} (hk : k < l.length) (h : inb (l.take k) = true) (h1 : 0 ≤ l[k]) (h2 : l[k] ≤ 1099511627776) : inb (l.take (k + 1)) = true := by
  unfold inb at h ⊢
  rw [List.take_succ_eq_append_getElem hk, List.all_append, h]
  simp [h1, h2]
theorem inb_no {l : List Int} {k : Nat} (hk : k < l.length) (h : ¬ (0 ≤ l[k] ∧ l[k] ≤ 1099511627776)) : inb l = false := by
  unfold inb
  rw [List.all_eq_false]
  exact ⟨l[k], List.getElem_mem hk, by simpa using h⟩

set_option maxRecDepth 100000 in
set_option maxHeartbeats 400000 in
theorem in_any (A : Option Addr) (c : Nat) (l : List Int) (w : World) (hs : Sl w 1 A l.length c (l.map iv)) :
    Calls Tryz.prog 127 #[.slice A l.length c] w fun e w' => e = .returned (.bool (inb l)) ∧ w = w' := by
  have hmax := hs.len_le
  unfold maxLen at hmax
  go_enter Tryz.func127, Tryz.ntmps127
  go_wp2_with fail
  go_loop [7] (fun x => ∃ k : Nat, k ≤ l.length ∧ x = .int .i64 k ∧ Hid (inb (l.take k) = true)) (fun x => l.length - (intOf x).toNat)
  case atStart => exact ⟨0, Nat.zero_le _, rfl, (show _ = _ from rfl)⟩
  case round =>
    obtain ⟨k, hk, rfl, ht⟩ := hrel
    by_cases hlt : k < l.length
    · obtain ⟨ad, rfl, hc⟩ := hs.at1 hlt
      have h1 := fun h1 h2 => Lib.hid (inb_take hlt ht.out h1 h2)
      have h2 := fun h => Lib.hid (inb_no hlt h)
      have H1 := Lib.hid h1
      have H2 := Lib.hid h2
      clear h1 h2
      generalize l[k] = x at *
      by_cases hx : 0 ≤ x ∧ x ≤ 1099511627776
      · obtain ⟨hx1, hx2⟩ := hx
        go_wp2_with fail
        go_round
        case rel => exact ⟨k + 1, hlt, by go_num, H1.out hx1 hx2⟩
        case measure => simp [intOf]; omega
      · have hr := H2.out hx
        by_cases hx1 : 0 ≤ x
        all_goals
          go_wp2_with fail
          go_ret
          exact ⟨by rw [hr.out]; rfl, rfl⟩
    · go_wp2_with fail
      go_ret
      have h1 := ht.out
      rw [List.take_of_length_le (by omega)] at h1
      exact ⟨by rw [h1]; rfl, rfl⟩

set_option maxRecDepth 100000 in
set_option maxHeartbeats 400000 in
theorem owner_any (x : Int) (w : World) : Calls Tryz.prog 71 #[iv x] w fun e w' => e = .returned (.bool (ownb x)) ∧ w = w' := by
  unfold ownb
  by_cases h1 : 1 ≤ x
  · by_cases h2 : x ≤ 2
    · go_enter Tryz.func71, Tryz.ntmps71
      go_wp2_with fail
      go_ret
      exact ⟨by simp [h1, h2], rfl⟩
    · go_enter Tryz.func71, Tryz.ntmps71
      go_wp2_with fail
      go_ret
      exact ⟨by simp [h2], rfl⟩
  · go_enter Tryz.func71, Tryz.ntmps71
    go_wp2_with fail
    go_ret
    exact ⟨by simp; omega, rfl⟩

abbrev lv (o e u : Int) : Value := .agg #[iv o, iv e, iv u]

set_option maxRecDepth 100000 in
set_option maxHeartbeats 400000 in
theorem Check_any (o e u : Int) (w : World) : Calls Tryz.prog 70 #[lv o e u] w fun r w' => r = .returned (errv (chk o e u)) ∧ Below w.heap.size w w' := by
  have hin := Sl.litsAt (w := w.alloc (.cells #[iv o, iv e, iv u] 56)) (g := w.heap.size + 1) (by simp) [iv e, iv u] 3 (by simp [maxLen])
  have hb := (below_new w (.cells #[iv o, iv e, iv u] 56)).trans ((below_new (w.alloc (.cells #[iv o, iv e, iv u] 56)) (.cells #[iv e, iv u] 3)).mono (size_new _ _))
  have hb1 := below_new w (.cells #[iv o, iv e, iv u] 56)
  rcases Decidable.em (o = 0) with h0 | h0
  · have hb0 : (o != 0) = false := by simp; omega
    have hb00 : (o == 0) = true := by simp; omega
    have H0 := Lib.hid h0
    clear h0
    cases hi : inb [e, u]
    · have hc : chk o e u = 1 := by unfold chk; rw [if_pos (Or.inr hi)]
      go_enter Tryz.func70, Tryz.ntmps70
      go_wp2_with fail
      refine (in_any _ 2 [e, u] _ hin).mono ?_
      rintro r w1 ⟨rfl, rfl⟩
      go_wp2_with fail
      go_ret
      exact ⟨by rw [hc]; rfl, hb⟩
    · rcases Decidable.em (u = 0) with hu | hu
      · have hu0 : (u != 0) = false := by simp; omega
        have hc : chk o e u = 0 := by unfold chk; rw [if_neg (by rintro (h | h); exact h.1 H0.out; rw [hi] at h; cases h), if_neg (fun h => h.2 hu)]
        clear hu
        go_enter Tryz.func70, Tryz.ntmps70
        go_wp2_with fail
        refine (in_any _ 2 [e, u] _ hin).mono ?_
        rintro r w1 ⟨rfl, rfl⟩
        go_wp2_with fail
        go_ret
        exact ⟨by rw [hc]; rfl, hb⟩
      · have hu0 : (u != 0) = true := by simp; omega
        have hc : chk o e u = 2 := by unfold chk; rw [if_neg (by rintro (h | h); exact h.1 H0.out; rw [hi] at h; cases h), if_pos ⟨H0.out, hu⟩]
        clear hu
        go_enter Tryz.func70, Tryz.ntmps70
        go_wp2_with fail
        refine (in_any _ 2 [e, u] _ hin).mono ?_
        rintro r w1 ⟨rfl, rfl⟩
        go_wp2_with fail
        go_ret
        exact ⟨by rw [hc]; rfl, hb⟩
  · have hb0 : (o != 0) = true := by simp; omega
    have hb00 : (o == 0) = false := by simp; omega
    have H0 := Lib.hid h0
    clear h0
    cases ho : ownb o
    · have hc : chk o e u = 1 := by unfold chk; rw [if_pos (Or.inl ⟨H0.out, ho⟩)]
      go_enter Tryz.func70, Tryz.ntmps70
      go_wp2_with fail
      refine (owner_any o _).mono ?_
      rintro r w1 ⟨rfl, rfl⟩
      go_wp2_with fail
      go_ret
      exact ⟨by rw [hc]; rfl, hb1⟩
    · cases hi : inb [e, u]
      · have hc : chk o e u = 1 := by unfold chk; rw [if_pos (Or.inr hi)]
        go_enter Tryz.func70, Tryz.ntmps70
        go_wp2_with fail
        refine (owner_any o _).mono ?_
        rintro r w1 ⟨rfl, rfl⟩
        go_wp2_with fail
        refine (in_any _ 2 [e, u] _ hin).mono ?_
        rintro r w1 ⟨rfl, rfl⟩
        go_wp2_with fail
        go_ret
        exact ⟨by rw [hc]; rfl, hb⟩
      · have hc : chk o e u = 0 := by unfold chk; rw [if_neg (by rintro (h | h); (rw [ho] at h; cases h.2); rw [hi] at h; cases h), if_neg (fun h => H0.out h.1)]
        go_enter Tryz.func70, Tryz.ntmps70
        go_wp2_with fail
        refine (owner_any o _).mono ?_
        rintro r w1 ⟨rfl, rfl⟩
        go_wp2_with fail
        refine (in_any _ 2 [e, u] _ hin).mono ?_
        rintro r w1 ⟨rfl, rfl⟩
        go_wp2_with fail
        go_ret
        exact ⟨by rw [hc]; rfl, hb⟩

/-- two results, the first a lease -/
def Leased (x : Int × Int × Int × Nat) (w : World) (r : Ending) (w' : World) : Prop := r = .returned (.tuple #[lv x.1 x.2.1 x.2.2.1, errv x.2.2.2]) ∧ Below w.heap.size w w'
def give (o e u by_ : Int) : Int × Int × Int × Nat := if chk o e u ≠ 0 then (0, 0, 0, chk o e u) else if ownb by_ = false then (0, 0, 0, 1) else if o ≠ by_ then (0, 0, 0, 16) else (0, e, 0, 0)
theorem below_three {B : Nat} {a w : World} (h : Below B a w) {g : Nat} (hg : B ≤ g) (x y z : Value) : Below B a (((w.setCell ⟨g, 0, none⟩ x).setCell ⟨g, 1, none⟩ y).setCell ⟨g, 2, none⟩ z) :=
  ((h.setCell (p := ⟨g, 0, none⟩) hg x).setCell (p := ⟨g, 1, none⟩) hg y).setCell (p := ⟨g, 2, none⟩) hg z

theorem res_lease {fn : Func} {a b : Nat} {tmps : Array Value} {w : World} {g : Nat} {x y z : Value} (hres : fn.results = #[.cell a 56, .tmp b]) (ha : tmps.getD a undef = .pointer (some ⟨g, 0, none⟩)) (hB : Blk w g 56 #[x, y, z]) :
    (results fn tmps).run Tryz.prog w = .ok (.tuple #[.agg #[x, y, z], tmps.getD b undef]) w := by
  obtain ⟨b0, b1, b2, _, _, _⟩ := hB.three
  have ha' : tmps[a]?.getD undef = .pointer (some ⟨g, 0, none⟩) := by simpa using ha
  simp [results, hres, go_sem, b0, b1, b2, ha']

set_option maxRecDepth 100000 in
set_option maxHeartbeats 1000000 in
theorem Give_any (o e u by_ : Int) (w : World) : Calls Tryz.prog 66 #[lv o e u, iv by_] w (Leased (give o e u by_) w) := by
  have hB0 := Blk.new w 56 #[iv o, iv e, iv u]
  have hB1 := Blk.newAt (w := w.alloc (.cells #[iv o, iv e, iv u] 56)) (g := w.heap.size + 1) (by simp) 56 #[iv 0, iv 0, iv 0]
  have hB0 := hB0.alloc (.cells #[iv 0, iv 0, iv 0] 56)
  have hbw := (below_new w (.cells #[iv o, iv e, iv u] 56)).trans ((below_new (w.alloc (.cells #[iv o, iv e, iv u] 56)) (.cells #[iv 0, iv 0, iv 0] 56)).mono (size_new _ _))
  rcases errv_cases (chk o e u) with ⟨hc, he⟩ | ⟨k, hk, hc, he⟩
  · have HC := Lib.hid hc
    clear hc
    cases ho : ownb by_
    · have hg := Lib.hid (show give o e u by_ = (0, 0, 0, 1) from by unfold give; rw [if_neg (by rw [HC.out]; simp), if_pos ho])
      go_enter Tryz.func66, Tryz.ntmps66
      go_wp2_with fail
      refine (Check_any o e u _).mono ?_
      rintro r w1 ⟨rfl, hb1⟩
      obtain ⟨a0, a1, a2, _, _, _⟩ := (hB0.below hb1).three
      obtain ⟨b0, b1, b2, f0, f1, f2⟩ := (hB1.below hb1).three
      have hz : w.heap.size + 1 < w1.heap.size := by have := hb1.size; simp at this; omega
      go_wp2_with fail
      refine (owner_any by_ _).mono ?_
      rintro r w2 ⟨rfl, rfl⟩
      go_wp2_with fail
      refine bodyPost_ret (v := .tuple #[lv 0 0 0, errv 1]) (by simp [results, Tryz.results66, go_sem, b0, b1, b2, errv]) rfl ⟨by rw [hg.out], below_three (hbw.trans (hb1.mono hbw.size)) (by omega) _ _ _⟩
    · rcases Decidable.em (o = by_) with hoe | hoe
      · have hg := Lib.hid (show give o e u by_ = (0, e, 0, 0) from by unfold give; rw [if_neg (by rw [HC.out]; simp), if_neg (by rw [ho]; simp), if_neg (by simpa using hoe)])
        have hob : (o != by_) = false := by simp; omega
        clear hoe
        go_enter Tryz.func66, Tryz.ntmps66
        go_wp2_with fail
        refine (Check_any o e u _).mono ?_
        rintro r w1 ⟨rfl, hb1⟩
        obtain ⟨a0, a1, a2, _, _, _⟩ := (hB0.below hb1).three
        obtain ⟨b0, b1, b2, f0, f1, f2⟩ := (hB1.below hb1).three
        have hz : w.heap.size + 1 < w1.heap.size := by have := hb1.size; simp at this; omega
        go_wp2_with fail
        refine (owner_any by_ _).mono ?_
        rintro r w2 ⟨rfl, rfl⟩
        go_wp2_with fail
        refine bodyPost_ret (v := .tuple #[lv 0 e 0, errv 0]) (by simp [results, Tryz.results66, go_sem, b0, b1, b2, errv]) rfl ⟨by rw [hg.out], below_three (hbw.trans (hb1.mono hbw.size)) (by omega) _ _ _⟩
      · have hg := Lib.hid (show give o e u by_ = (0, 0, 0, 16) from by unfold give; rw [if_neg (by rw [HC.out]; simp), if_neg (by rw [ho]; simp), if_pos hoe])
        have hob : (o != by_) = true := by simp; omega
        clear hoe
        go_enter Tryz.func66, Tryz.ntmps66
        go_wp2_with fail
        refine (Check_any o e u _).mono ?_
        rintro r w1 ⟨rfl, hb1⟩
        obtain ⟨a0, a1, a2, _, _, _⟩ := (hB0.below hb1).three
        obtain ⟨b0, b1, b2, f0, f1, f2⟩ := (hB1.below hb1).three
        have hz : w.heap.size + 1 < w1.heap.size := by have := hb1.size; simp at this; omega
        go_wp2_with fail
        refine (owner_any by_ _).mono ?_
        rintro r w2 ⟨rfl, rfl⟩
        go_wp2_with fail
        refine bodyPost_ret (v := .tuple #[lv 0 0 0, errv 16]) (by simp [results, Tryz.results66, go_sem, b0, b1, b2, errv]) rfl ⟨by rw [hg.out], below_three (hbw.trans (hb1.mono hbw.size)) (by omega) _ _ _⟩
  · have hg := Lib.hid (show give o e u by_ = (0, 0, 0, chk o e u) from by unfold give; rw [if_pos (by omega)])
    have HC := Lib.hid hc
    clear hc
    go_enter Tryz.func66, Tryz.ntmps66
    go_wp2_with fail
    refine (Check_any o e u _).mono ?_
    rintro r w1 ⟨rfl, hb1⟩
    obtain ⟨a0, a1, a2, _, _, _⟩ := (hB0.below hb1).three
    obtain ⟨b0, b1, b2, f0, f1, f2⟩ := (hB1.below hb1).three
    have hz : w.heap.size + 1 < w1.heap.size := by have := hb1.size; simp at this; omega
    go_wp2_with fail
    refine bodyPost_ret (v := .tuple #[lv 0 0 0, .iface 79 (.int .i64 k)]) (by simp [results, Tryz.results66, go_sem, b0, b1, b2]) rfl ⟨by rw [hg.out, ← he], below_three (hbw.trans (hb1.mono hbw.size)) (by omega) _ _ _⟩

theorem inb_two {a b : Int} (h : inb [a, b] = true) : (0 ≤ a ∧ a ≤ 1099511627776) ∧ 0 ≤ b ∧ b ≤ 1099511627776 := by
  simp [inb] at h; omega
theorem inb_three {a b c : Int} (h : inb [a, b, c] = true) : (0 ≤ a ∧ a ≤ 1099511627776) ∧ (0 ≤ b ∧ b ≤ 1099511627776) ∧ 0 ≤ c ∧ c ≤ 1099511627776 := by
  simp [inb] at h; omega
theorem chk_ok {o e u : Int} (h : chk o e u = 0) : (0 ≤ o ∧ o ≤ 2) ∧ (0 ≤ e ∧ e ≤ 1099511627776) ∧ (0 ≤ u ∧ u ≤ 1099511627776) ∧ (o = 0 → u = 0) := by
  unfold chk at h
  by_cases h1 : (o ≠ 0 ∧ ownb o = false) ∨ inb [e, u] = false
  · rw [if_pos h1] at h; cases h
  rw [if_neg h1] at h
  by_cases h2 : o = 0 ∧ u ≠ 0
  · rw [if_pos h2] at h; cases h
  have h3 : inb [e, u] = true := by cases h4 : inb [e, u] <;> simp_all
  have h5 := inb_two h3
  refine ⟨?_, h5.1, h5.2, fun h => by omega⟩
  by_cases h6 : o = 0
  · omega
  · have : ownb o = true := by cases h4 : ownb o <;> simp_all
    unfold ownb at this
    have := of_decide_eq_true this
    omega

def freeb (o e u now bound : Int) : Bool := decide (chk o e u = 0) && inb [now, bound] && (decide (o = 0) || decide (u + bound ≤ now))

set_option maxRecDepth 100000 in
set_option maxHeartbeats 1000000 in
theorem Free_any (o e u now bound : Int) (w : World) : Calls Tryz.prog 128 #[lv o e u, iv now, iv bound] w fun r w' => r = .returned (.bool (freeb o e u now bound)) ∧ Below w.heap.size w w' := by
  have hB0 := Blk.new w 56 #[iv o, iv e, iv u]
  have hbw := below_new w (.cells #[iv o, iv e, iv u] 56)
  rcases errv_cases (chk o e u) with ⟨hc, he⟩ | ⟨k, hk, hc, he⟩
  · have hck := chk_ok hc
    obtain ⟨_, _, ⟨hu1, hu2⟩, _⟩ := hck
    have HC := Lib.hid hc
    clear hc
    cases hi : inb [now, bound]
    · have hg := Lib.hid (show freeb o e u now bound = false from by unfold freeb; rw [hi]; simp)
      go_enter Tryz.func128, Tryz.ntmps128
      go_wp2_with fail
      refine (Check_any o e u _).mono ?_
      rintro r w1 ⟨rfl, hb1⟩
      go_wp2_with fail
      refine (in_any _ 2 [now, bound] _ (Sl.lits w1 [iv now, iv bound] 3 (by simp [maxLen]))).mono ?_
      rintro r w2 ⟨rfl, rfl⟩
      have hz : w.heap.size < w1.heap.size := by have := hb1.size; simp at this; omega
      obtain ⟨a0, a1, a2, _, _, _⟩ := ((hB0.below hb1).alloc (.cells #[iv now, iv bound] 3)).three
      go_wp2_with fail
      go_ret
      exact ⟨by rw [hg.out]; rfl, (hbw.trans (hb1.mono hbw.size)).trans ((below_new _ _).mono (by omega))⟩
    · have hin := inb_two hi
      obtain ⟨⟨hn1, hn2⟩, hd1, hd2⟩ := hin
      rcases Decidable.em (o = 0) with h0 | h0
      · have hb0 : (o == 0) = true := by simp; omega
        have hg := Lib.hid (show freeb o e u now bound = true from by unfold freeb; rw [hi, HC.out]; simp [h0])
        clear h0
        go_enter Tryz.func128, Tryz.ntmps128
        go_wp2_with fail
        refine (Check_any o e u _).mono ?_
        rintro r w1 ⟨rfl, hb1⟩
        go_wp2_with fail
        refine (in_any _ 2 [now, bound] _ (Sl.lits w1 [iv now, iv bound] 3 (by simp [maxLen]))).mono ?_
        rintro r w2 ⟨rfl, rfl⟩
        have hz : w.heap.size < w1.heap.size := by have := hb1.size; simp at this; omega
        obtain ⟨a0, a1, a2, _, _, _⟩ := ((hB0.below hb1).alloc (.cells #[iv now, iv bound] 3)).three
        go_wp2_with fail
        go_ret
        exact ⟨by rw [hg.out]; rfl, (hbw.trans (hb1.mono hbw.size)).trans ((below_new _ _).mono (by omega))⟩
      · have hb0 : (o == 0) = false := by simp; omega
        rcases Decidable.em (u + bound ≤ now) with h1 | h1
        all_goals
          have hg := Lib.hid (show freeb o e u now bound = decide (u + bound ≤ now) from by unfold freeb; rw [hi, HC.out]; simp [h0])
          clear h0
          go_enter Tryz.func128, Tryz.ntmps128
          go_wp2_with fail
          refine (Check_any o e u _).mono ?_
          rintro r w1 ⟨rfl, hb1⟩
          go_wp2_with fail
          refine (in_any _ 2 [now, bound] _ (Sl.lits w1 [iv now, iv bound] 3 (by simp [maxLen]))).mono ?_
          rintro r w2 ⟨rfl, rfl⟩
          have hz : w.heap.size < w1.heap.size := by have := hb1.size; simp at this; omega
          obtain ⟨a0, a1, a2, _, _, _⟩ := ((hB0.below hb1).alloc (.cells #[iv now, iv bound] 3)).three
          go_wp2_with fail
          go_ret
          exact ⟨by rw [hg.out]; simp [h1], (hbw.trans (hb1.mono hbw.size)).trans ((below_new _ _).mono (by omega))⟩
  · have hg := Lib.hid (show freeb o e u now bound = false from by unfold freeb; rw [decide_eq_false (by omega)]; rfl)
    clear hc
    go_enter Tryz.func128, Tryz.ntmps128
    go_wp2_with fail
    refine (Check_any o e u _).mono ?_
    rintro r w1 ⟨rfl, hb1⟩
    go_wp2_with fail
    go_ret
    exact ⟨by rw [hg.out]; rfl, hbw.trans (hb1.mono hbw.size)⟩

end Go.Proofs.YtddmfoldnlafaaaGreatDoor
