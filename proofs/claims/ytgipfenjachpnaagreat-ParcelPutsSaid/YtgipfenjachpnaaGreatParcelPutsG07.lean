/- WHAT IT HOLDS: Same of segments, the program's and the document's, walked. | WHAT IT HOLDS: a segment as the document's, and a segment's copy, walked. | WHAT IT HOLDS: a segment's copy, walked; append of cells at a step of a region that draws. | WHAT IT HOLDS: a row of the call's own, written in place; rows of other types beside it. | WHAT IT HOLDS: copy of elements of several cells, plainly. | WHAT IT HOLDS: slices.Repeat of one cell, walked. | WHAT IT HOLDS: what taking a run of cells answers, plainly (no program). -/
import Derived.Test.YtgipfenjachpnaaGreatParcelPutsG06
import Derived.BigQuiet
import Derived.Deep.QuietTactic
import Derived.Test.YtgipfenjachpnaaGreatParcelPutsG02
import Derived.Laws.CopyOwn
import Derived.Test.YtgipfenjachpnaaGreatShelf
import Derived.Deep.OwnRows
import Derived.Test.YtgipfenjachpnaaGreatParcelPutsG01
namespace Go.Proofs.YtgipfenjachpnaaGreat
open Go.RowKit
attribute [local go_sem ↓] Go.wp_at_zero Go.wp_at_succ

def ssame (a b : Sg) : Bool := decide (a = b)
theorem same_iff {a b : Ce} : same a b = true ↔ a = b := by unfold same; exact decide_eq_true_iff
theorem take_ne {xs ys : List Ce} {k : Nat} (hx : k < xs.length) (hy : k < ys.length) (h : xs[k] ≠ ys[k]) : decide (xs = ys) = false := by
  rw [decide_eq_false_iff_not]
  rintro rfl
  exact h rfl
theorem len_ne {xs ys : List Ce} (h : xs.length ≠ ys.length) : decide (xs = ys) = false := by
  rw [decide_eq_false_iff_not]
  rintro rfl
  exact h rfl
set_option maxRecDepth 100000 in
set_option maxHeartbeats 1000000 in
theorem EqualFunc_any {E G : Option Addr} {cap cap2 : Nat} (cs ds : List CeV) (w : World) (h : SlC w E cap cs) (h2 : SlC w G cap2 ds) :
    Calls Tryz.prog 69 #[.slice E cs.length cap, .slice G ds.length cap2, .func (.func 70) #[] #[]] w fun e w' => e = .returned (.bool (decide (cs.map ceOf = ds.map ceOf))) ∧ Below w.heap.size w w' := by
  have hmax := h.1.len_le
  have hmax2 := h2.1.len_le
  unfold maxLen at hmax hmax2
  by_cases hl : cs.length = ds.length
  · have HL := Lib.hid hl
    have hlb : ((cs.length : Int) != (ds.length : Int)) = false := by simp [hl]
    have hle1 : cs.length ≤ ds.length := by omega
    have hle2 : ds.length ≤ cs.length := by omega
    clear hl
    go_enter Tryz.func69, Tryz.ntmps69
    go_wp2_with fail
    go_loopw [17] (fun x wr => ∃ k : Nat, k ≤ cs.length ∧ x = .int .i64 k ∧ Hid ((cs.map ceOf).take k = (ds.map ceOf).take k) ∧ Below w.heap.size w wr) (fun x w => cs.length - (intOf x).toNat)
    case atStart => exact ⟨0, Nat.zero_le _, rfl, (show _ = _ from by simp), Below.refl _ _⟩
    case round =>
      obtain ⟨k, hk, rfl, hall, hbr⟩ := hrel
      by_cases hlt : k < cs.length
      · have hlt2 : k < ds.length := by omega
        obtain ⟨ad, b, o, rfl, had, hc0, hc1, hsx⟩ := (h.below hbr).at2 hlt
        obtain ⟨ad2, b2, o2, rfl, had2, hd0, hd1, hsy⟩ := (h2.below hbr).at2 hlt2
        have hnx := Lib.hid (take_succ_eq hall.out (by simpa using hlt) (by simpa using hlt2))
        have hno := Lib.hid (take_ne (xs := cs.map ceOf) (ys := ds.map ceOf) (k := k) (by simpa using hlt) (by simpa using hlt2))
        rw [List.getElem_map, List.getElem_map] at hnx hno
        generalize cs[k] = x at *
        generalize ds[k] = y at *
        obtain ⟨kk, A, c, d⟩ := x
        obtain ⟨kk2, A2, c2, d2⟩ := y
        dsimp only [ceOf] at *
        have hb2 := bel_alloc (below_new wr (.cells #[.int .i64 kk, .slice A d.length c] 85)) (.cells #[.int .i64 kk2, .slice A2 d2.length c2] 85)
        have hlb2 : b2 < wr.heap.size := World.block_lt_of_cell? wr _ hd0
        have hne2 : b2 ≠ wr.heap.size := by omega
        go_wp2_with fail
        refine (CSame_any kk kk2 d d2 _ (hsx.below hb2) (hsy.below hb2)).mono ?_
        rintro e w4 ⟨rfl, hb4⟩
        have hn4 := bel_call (bel_call hbr hb2) hb4
        cases hs : same (kk, d) (kk2, d2)
        · have he : ((kk, d) : Ce) ≠ (kk2, d2) := by intro he; rw [same_iff.2 he] at hs; cases hs
          have hr := Lib.hid (hno.out he)
          clear he hs hno hnx
          go_wp2_with fail
          go_ret
          exact ⟨by rw [hr.out]; rfl, hn4⟩
        · have hr := Lib.hid (hnx.out.2 (same_iff.1 hs))
          clear hs hno hnx
          go_wp2_with fail
          go_roundw
          case rel => exact ⟨k + 1, hlt, by go_num, hr, hn4⟩
          case measure => simp [intOf]; omega
      · go_wp2_with fail
        go_ret
        have h5 := hall.out
        rw [List.take_of_length_le (by simp; omega), List.take_of_length_le (by simp; omega)] at h5
        exact ⟨by rw [decide_eq_true h5]; rfl, hbr⟩
  · have hlb : ((cs.length : Int) != (ds.length : Int)) = true := by simp; omega
    have hr := Lib.hid (len_ne (xs := cs.map ceOf) (ys := ds.map ceOf) (by simpa using hl))
    clear hl
    go_enter Tryz.func69, Tryz.ntmps69
    go_wp2_with fail
    go_ret
    exact ⟨by rw [hr.out]; rfl, Below.refl _ _⟩

theorem ssame_ne {f f2 : Int} {l m : List Ce} (h : f ≠ f2) : ssame (f, l) (f2, m) = false := by
  unfold ssame
  rw [decide_eq_false_iff_not]
  intro he
  exact h (congrArg Prod.fst he)
theorem ssame_eq {f : Int} {l m : List Ce} : ssame (f, l) (f, m) = decide (l = m) := by
  unfold ssame
  rw [decide_eq_decide]
  exact ⟨fun h => congrArg Prod.snd h, fun h => by rw [h]⟩

set_option maxRecDepth 100000 in
set_option maxHeartbeats 1000000 in
theorem SSame_any {E G : Option Addr} {cap cap2 : Nat} (f f2 : Int) (cs ds : List CeV) (w : World) (h : SlC w E cap cs) (h2 : SlC w G cap2 ds) :
    Calls Tryz.prog 39 #[cv f E cs.length cap, cv f2 G ds.length cap2] w fun e w' => e = .returned (.bool (ssame (f, cs.map ceOf) (f2, ds.map ceOf))) ∧ Below w.heap.size w w' := by
  have hbb := bel_alloc (below_new w (.cells #[.int .i64 f, .slice E cs.length cap] 26)) (.cells #[.int .i64 f2, .slice G ds.length cap2] 26)
  by_cases hf : f = f2
  · subst hf
    have hr := Lib.hid (ssame_eq (f := f) (l := cs.map ceOf) (m := ds.map ceOf))
    go_enter Tryz.func39, Tryz.ntmps39
    go_wp2_with fail
    refine (EqualFunc_any cs ds _ (h.below hbb) (h2.below hbb)).mono ?_
    rintro e w2 ⟨rfl, hb2⟩
    go_wp2_with fail
    go_ret
    exact ⟨by rw [hr.out]; rfl, bel_call hbb hb2⟩
  · have hfb : (f == f2) = false := by simpa using hf
    have hr := Lib.hid (ssame_ne (l := cs.map ceOf) (m := ds.map ceOf) hf)
    clear hf
    go_enter Tryz.func39, Tryz.ntmps39
    go_wp2_with fail
    go_ret
    exact ⟨by rw [hr.out]; rfl, hbb⟩

set_option maxRecDepth 100000 in
set_option maxHeartbeats 1000000 in
theorem rSSame_any {E G : Option Addr} {cap cap2 : Nat} (f f2 : Int) (cs ds : List Ce) (w : World) (h : SlD w E cap cs) (h2 : SlD w G cap2 ds) :
    Calls Tryz.prog 31 #[cv f E cs.length cap, cv f2 G ds.length cap2] w fun e w' => e = .returned (.bool (ssame (f, cs) (f2, ds))) ∧ Below w.heap.size w w' := by
  have hmax := h.len_le
  have hmax2 := h2.len_le
  unfold maxLen at hmax hmax2
  have hbb := bel_alloc (below_new w (.cells #[.int .i64 f, .slice E cs.length cap] 35)) (.cells #[.int .i64 f2, .slice G ds.length cap2] 35)
  by_cases hf : f = f2
  · subst hf
    have hsr := Lib.hid (ssame_eq (f := f) (l := cs) (m := ds))
    have hfb : (f != f) = false := by simp
    by_cases hl : cs.length = ds.length
    · have HL := Lib.hid hl
      have hlb : ((cs.length : Int) != (ds.length : Int)) = false := by simp [hl]
      have hle1 : cs.length ≤ ds.length := by omega
      have hle2 : ds.length ≤ cs.length := by omega
      have hB1 := (Blk.new w 35 #[.int .i64 f, .slice E cs.length cap]).alloc (.cells #[.int .i64 f, .slice G ds.length cap2] 35)
      have hB2 := Blk.newAt (w := w.alloc (.cells #[.int .i64 f, .slice E cs.length cap] 35)) (g := w.heap.size + 1) (by simp) 35 #[.int .i64 f, .slice G ds.length cap2]
      clear hl
      go_enter Tryz.func31, Tryz.ntmps31
      go_wp2_with fail
      go_loopw [5] (fun x wr => ∃ k : Nat, k ≤ cs.length ∧ x = .int .i64 k ∧ Hid (cs.take k = ds.take k) ∧ Below w.heap.size w wr ∧ Blk wr w.heap.size 35 #[.int .i64 f, .slice E cs.length cap] ∧ Blk wr (w.heap.size + 1) 35 #[.int .i64 f, .slice G ds.length cap2]) (fun x w => cs.length - (intOf x).toNat)
      case atStart => exact ⟨0, Nat.zero_le _, rfl, (show _ = _ from by simp), hbb, hB1, hB2⟩
      case round =>
        obtain ⟨k, hk, rfl, hall, hbr, hBr1, hBr2⟩ := hrel
        obtain ⟨a0, a1, _, _⟩ := hBr1.two
        obtain ⟨b0, b1, _, _⟩ := hBr2.two
        by_cases hlt : k < cs.length
        · have hlt2 : k < ds.length := by omega
          obtain ⟨ad, b, o, rfl, had, hcc⟩ := (h.below hbr).atS (f := df) (fun _ => rfl) (by decide) hlt
          obtain ⟨ad2, b2, o2, rfl, had2, hdd⟩ := (h2.below hbr).atS (f := df) (fun _ => rfl) (by decide) hlt2
          have hc0 := hcc 0 _ rfl
          have hc1 := hcc 1 _ rfl
          have hd0 := hdd 0 _ rfl
          have hd1 := hdd 1 _ rfl
          clear hcc hdd
          have hnx := Lib.hid (take_succ_eq hall.out hlt hlt2)
          have hno := Lib.hid (take_ne hlt hlt2)
          generalize cs[k] = x at *
          generalize ds[k] = y at *
          obtain ⟨kk, d⟩ := x
          obtain ⟨kk2, d2⟩ := y
          dsimp only at *
          rw [Nat.add_zero] at hc0 hd0
          have hnn := neq_dv kk kk2 d d2
          cases hs : same (kk, d) (kk2, d2)
          · have he : ((kk, d) : Ce) ≠ (kk2, d2) := by intro he; rw [same_iff.2 he] at hs; cases hs
            have hr := Lib.hid (hno.out he)
            rw [hs] at hnn
            clear he hs hno hnx
            go_wp2_with fail
            go_quiet (fail)
            go_wp2_with fail
            go_ret
            exact ⟨by rw [hsr.out, hr.out]; rfl, below_drewN hbr _⟩
          · have hr := Lib.hid (hnx.out.2 (same_iff.1 hs))
            rw [hs] at hnn
            clear hs hno hnx
            go_wp2_with fail
            go_quiet (fail)
            go_wp2_with fail
            go_roundw
            case rel => exact ⟨k + 1, hlt, by go_num, hr, below_drewN hbr _, hBr1.drewN _, hBr2.drewN _⟩
            case measure => simp [intOf]; omega
        · go_wp2_with fail
          go_ret
          have h5 := hall.out
          rw [List.take_of_length_le (by omega), List.take_of_length_le (by omega)] at h5
          exact ⟨by rw [hsr.out, decide_eq_true h5]; rfl, hbr⟩
    · have hlb : ((cs.length : Int) != (ds.length : Int)) = true := by simp; omega
      have hr := Lib.hid (len_ne hl)
      clear hl
      go_enter Tryz.func31, Tryz.ntmps31
      go_wp2_with fail
      go_ret
      exact ⟨by rw [hsr.out, hr.out]; rfl, hbb⟩
  · have hfb : (f != f2) = true := by simpa using hf
    have hr := Lib.hid (ssame_ne (l := cs) (m := ds) hf)
    clear hf
    go_enter Tryz.func31, Tryz.ntmps31
    go_wp2_with fail
    go_ret
    exact ⟨by rw [hr.out]; rfl, hbb⟩
end Go.Proofs.YtgipfenjachpnaaGreat

namespace Go.Proofs.YtgipfenjachpnaaGreat
open Go.RowKit
attribute [local go_sem ↓] Go.wp_at_zero Go.wp_at_succ

theorem res_sg1 {fn : Func} {a : Nat} {tmps : Array Value} {w : World} {g : Nat} {x y : Value} (hres : fn.results = #[.cell a 26]) (ha : tmps.getD a undef = .pointer (some ⟨g, 0, none⟩)) (hB : Blk w g 26 #[x, y]) :
    (results fn tmps).run Tryz.prog w = .ok (.agg #[x, y]) w := by
  obtain ⟨b0, b1, _, _⟩ := hB.two
  have ha' : tmps[a]?.getD undef = .pointer (some ⟨g, 0, none⟩) := by simpa using ha
  simp [results, hres, go_sem, b0, b1, ha']
theorem res_rg1 {fn : Func} {a : Nat} {tmps : Array Value} {w : World} {g : Nat} {x y : Value} (hres : fn.results = #[.cell a 35]) (ha : tmps.getD a undef = .pointer (some ⟨g, 0, none⟩)) (hB : Blk w g 35 #[x, y]) :
    (results fn tmps).run Tryz.prog w = .ok (.agg #[x, y]) w := by
  obtain ⟨b0, b1, _, _⟩ := hB.two
  have ha' : tmps[a]?.getD undef = .pointer (some ⟨g, 0, none⟩) := by simpa using ha
  simp [results, hres, go_sem, b0, b1, ha']
theorem res_sg2 {fn : Func} {a b : Nat} {tmps : Array Value} {w : World} {g : Nat} {x y : Value} (hres : fn.results = #[.cell a 26, .tmp b]) (ha : tmps.getD a undef = .pointer (some ⟨g, 0, none⟩)) (hB : Blk w g 26 #[x, y]) :
    (results fn tmps).run Tryz.prog w = .ok (.tuple #[.agg #[x, y], tmps.getD b undef]) w := by
  obtain ⟨b0, b1, _, _⟩ := hB.two
  have ha' : tmps[a]?.getD undef = .pointer (some ⟨g, 0, none⟩) := by simpa using ha
  simp [results, hres, go_sem, b0, b1, ha']
theorem res_rg2 {fn : Func} {a b : Nat} {tmps : Array Value} {w : World} {g : Nat} {x y : Value} (hres : fn.results = #[.cell a 35, .tmp b]) (ha : tmps.getD a undef = .pointer (some ⟨g, 0, none⟩)) (hB : Blk w g 35 #[x, y]) :
    (results fn tmps).run Tryz.prog w = .ok (.tuple #[.agg #[x, y], tmps.getD b undef]) w := by
  obtain ⟨b0, b1, _, _⟩ := hB.two
  have ha' : tmps[a]?.getD undef = .pointer (some ⟨g, 0, none⟩) := by simpa using ha
  simp [results, hres, go_sem, b0, b1, ha']
theorem Blk.far2 {w : World} {g g' : Nat} {t : TypeId} {cs : Array Value} (h : Blk w g t cs) (hne : g ≠ g') (u v : Value) : Blk ((w.setCell ⟨g', 0, none⟩ u).setCell ⟨g', 1, none⟩ v) g t cs := (h.far hne u).far hne v
theorem Own.set2 {w : World} {base : Nat} {e : TypeId} {size n c : Nat} {A : Option Addr} {xs : List Value} (h : Own w base e size A n c xs) {g : Nat} (hg : g < base) (u v : Value) : Own ((w.setCell ⟨g, 0, none⟩ u).setCell ⟨g, 1, none⟩ v) base e size A n c xs :=
  ownsRow_setCell_below (a := ⟨g, 1, none⟩) (ownsRow_setCell_below (a := ⟨g, 0, none⟩) h hg u) hg v
theorem gen0 {T R : World → Prop} {W : World} (hT : T W) (k : ∀ W, T W → R W) : R W := k W hT

set_option maxRecDepth 100000 in
set_option maxHeartbeats 1000000 in
theorem Doc14_any {E : Option Addr} {cap : Nat} (f : Int) (cs : List CeV) (w : World) (h : SlC w E cap cs) (hl : cs.length ≤ 1000000) :
    Calls Tryz.prog 32 #[cv f E cs.length cap] w fun e w' => ∃ A c m, e = .returned (cv f A (List.length m) c) ∧ Hid (m = cs.map ceOf) ∧ SlD w' A c m ∧ Below w.heap.size w w' := by
  have hB0 := (Blk.new w 26 #[.int .i64 f, .slice E cs.length cap]).alloc (.cells #[.int .i64 0, .slice none 0 0] 35)
  have hB1 := Blk.newAt (w := w.alloc (.cells #[.int .i64 f, .slice E cs.length cap] 26)) (g := w.heap.size + 1) (by simp) 35 #[.int .i64 0, .slice none 0 0]
  have hbw := bel_alloc (below_new w (.cells #[.int .i64 f, .slice E cs.length cap] 26)) (.cells #[.int .i64 0, .slice none 0 0] 35)
  go_enter Tryz.func32, Tryz.ntmps32
  go_upto_region 1 with (fail)
  have hst : Blk ((w.alloc (.cells #[.int .i64 f, .slice E cs.length cap] 26)).alloc (.cells #[.int .i64 0, .slice none 0 0] 35)).drew w.heap.size 26 #[.int .i64 f, .slice E cs.length cap] ∧ Below w.heap.size w ((w.alloc (.cells #[.int .i64 f, .slice E cs.length cap] 26)).alloc (.cells #[.int .i64 0, .slice none 0 0] 35)).drew := ⟨hB0, hbw.drew⟩
  have hst1 : Blk ((w.alloc (.cells #[.int .i64 f, .slice E cs.length cap] 26)).alloc (.cells #[.int .i64 0, .slice none 0 0] 35)).drew (w.heap.size + 1) 35 #[.int .i64 0, .slice none 0 0] := hB1
  clear hB0 hB1 hbw
  refine wp_region_held_drew (S := (fun W => Blk W w.heap.size 26 #[.int .i64 f, .slice E cs.length cap] ∧ Below w.heap.size w W)) (by kernel_rfl) ?_ (fun hHeld => ?_)
  · exact hst
  refine gen0 (T := fun W => ((fun W => Blk W w.heap.size 26 #[.int .i64 f, .slice E cs.length cap] ∧ Below w.heap.size w W)) W ∧ Blk W (w.heap.size + 1) 35 #[.int .i64 0, .slice none 0 0] ∧ True) ?_ (fun wq1 hT => ?_)
  · exact ⟨by (first | exact hst | exact ⟨hHeld.1.below hb9, bel_call hHeld.2 hb9⟩ | exact ⟨Blk.far2 hHeld.1 (by omega) _ _, bel_set (bel_set hHeld.2 (by dsimp only; omega) _) (by dsimp only; omega) _⟩), by (first | assumption | exact f0.below hb9 | exact ho9.more f0.lt | exact Blk.set2 f0 _ _ | exact Own.set2 f1 (by omega) _ _), trivial⟩
  (try clear f0 f1 f2 f3 f4 f5 f6 f7 f8 f9 f10 f11)
  obtain ⟨hHeld, f0, -⟩ := hT
  refine wpAnyH_take (i := 0) (oi := ⟨some 3, _, _, _, _, _⟩) (v := ?_) rfl (by kernel_rfl) (by kernel_rfl) (by kernel_rfl) (fun _ _ _ h => h) (Or.inl ⟨by kernel_rfl, ?_⟩) (by assumption) ?_
  rotate_left
  · (intro wS hSw; (try dsimp only at hSw); obtain ⟨q0, q1, _, _⟩ := hSw.1.two; clear hSw; go_simp; (try with_reducible rfl))
  (try simp only [Act.put, List.setIfInBounds_toArray, List.set_cons_zero, List.set_cons_succ])
  refine wpAnyH_take (i := 1) (oi := ⟨some 4, _, _, _, _, _⟩) (v := ?_) rfl (by kernel_rfl) (by kernel_rfl) (by kernel_rfl) (fun _ _ _ h => h) (Or.inl ⟨by kernel_rfl, ?_⟩) (by assumption) ?_
  rotate_left
  · (intro wS hSw; (try dsimp only at hSw); obtain ⟨q0, q1, _, _⟩ := hSw.1.two; clear hSw; go_simp; (try with_reducible rfl))
  (try simp only [Act.put, List.setIfInBounds_toArray, List.set_cons_zero, List.set_cons_succ])
  refine wpAnyH_take (i := 2) (oi := ⟨some 5, _, _, _, _, _⟩) (v := ?_) rfl (by kernel_rfl) (by kernel_rfl) (by kernel_rfl) (fun _ _ _ h => h) (Or.inl ⟨by kernel_rfl, ?_⟩) (by assumption) ?_
  rotate_left
  · (intro wS hSw; (try dsimp only at hSw); obtain ⟨q0, q1, _, _⟩ := hSw.1.two; clear hSw; go_simp; (try with_reducible rfl))
  (try simp only [Act.put, List.setIfInBounds_toArray, List.set_cons_zero, List.set_cons_succ])
  refine wpAnyH_take (i := 3) (oi := ⟨some 6, _, _, _, _, _⟩) (v := ?_) rfl (by kernel_rfl) (by kernel_rfl) (by kernel_rfl) (fun _ _ _ h => h) (Or.inl ⟨by kernel_rfl, ?_⟩) (by assumption) ?_
  rotate_left
  · (intro wS hSw; (try dsimp only at hSw); obtain ⟨q0, q1, _, _⟩ := hSw.1.two; clear hSw; go_simp; (try with_reducible rfl))
  (try simp only [Act.put, List.setIfInBounds_toArray, List.set_cons_zero, List.set_cons_succ])
  refine wpAnyH_ready (rs := [4]) (by kernel_rfl) (by simp) ?_
  refine AllReadyH.cons (o := ⟨some 7, _, _, _, _, _⟩) rfl (fun K hK => ?_) AllReadyH.nil
  go_simp
  (refine (Documents_own cs _ (h.below hHeld.2) hl).mono ?_; rintro e w9 ⟨A9, c9, m9, rfl, hm9, ho9, hb9⟩)
  go_wp2_with fail
  refine hK.out _ _ ?_ (fun _ => ?_)
  · ((try dsimp only); (first | exact hst | exact ⟨hHeld.1.below hb9, bel_call hHeld.2 hb9⟩ | exact ⟨Blk.far2 hHeld.1 (by omega) _ _, bel_set (bel_set hHeld.2 (by dsimp only; omega) _) (by dsimp only; omega) _⟩))
  clear hK K
  (try simp only [Act.put, List.setIfInBounds_toArray, List.set_cons_zero, List.set_cons_succ])
  refine gen0 (T := fun W => ((fun W => Blk W w.heap.size 26 #[.int .i64 f, .slice E cs.length cap] ∧ Below w.heap.size w W)) W ∧ Blk W (w.heap.size + 1) 35 #[.int .i64 0, .slice none 0 0] ∧ Own W (w.heap.size + 2) 112 2 A9 m9.length c9 (m9.flatMap df) ∧ True) ?_ (fun wq2 hT => ?_)
  · exact ⟨by (first | exact hst | exact ⟨hHeld.1.below hb9, bel_call hHeld.2 hb9⟩ | exact ⟨Blk.far2 hHeld.1 (by omega) _ _, bel_set (bel_set hHeld.2 (by dsimp only; omega) _) (by dsimp only; omega) _⟩), by (first | assumption | exact f0.below hb9 | exact ho9.more f0.lt | exact Blk.set2 f0 _ _ | exact Own.set2 f1 (by omega) _ _), by (first | assumption | exact f0.below hb9 | exact ho9.more f0.lt | exact Blk.set2 f0 _ _ | exact Own.set2 f1 (by omega) _ _), trivial⟩
  (try clear f0 f1 f2 f3 f4 f5 f6 f7 f8 f9 f10 f11)
  obtain ⟨hHeld, f0, f1, -⟩ := hT
  refine wpAnyH_take (i := 5) (oi := ⟨some 8, _, _, _, _, _⟩) (v := ?_) rfl (by kernel_rfl) (by kernel_rfl) (by kernel_rfl) (fun _ _ _ h => h) (Or.inl ⟨by kernel_rfl, ?_⟩) (by assumption) ?_
  rotate_left
  · (intro wS hSw; (try dsimp only at hSw); obtain ⟨q0, q1, _, _⟩ := hSw.1.two; clear hSw; go_simp; (try with_reducible rfl))
  (try simp only [Act.put, List.setIfInBounds_toArray, List.set_cons_zero, List.set_cons_succ])
  refine wpAnyH_ready (rs := [6]) (by kernel_rfl) (by simp) ?_
  refine AllReadyH.cons (o := ⟨none, _, _, _, _, _⟩) rfl (fun K hK => ?_) AllReadyH.nil
  obtain ⟨s0, s1, sf0, sf1⟩ := f0.two
  go_simp
  refine hK.out _ _ ?_ (fun _ => ?_)
  · ((try dsimp only); (first | exact hst | exact ⟨hHeld.1.below hb9, bel_call hHeld.2 hb9⟩ | exact ⟨Blk.far2 hHeld.1 (by omega) _ _, bel_set (bel_set hHeld.2 (by dsimp only; omega) _) (by dsimp only; omega) _⟩))
  clear hK K
  (try simp only [Act.put, List.setIfInBounds_toArray, List.set_cons_zero, List.set_cons_succ])
  refine gen0 (T := fun W => ((fun W => Blk W w.heap.size 26 #[.int .i64 f, .slice E cs.length cap] ∧ Below w.heap.size w W)) W ∧ Own W (w.heap.size + 2) 112 2 A9 m9.length c9 (m9.flatMap df) ∧ Blk W (w.heap.size + 1) 35 #[.int .i64 f, .slice A9 m9.length c9] ∧ True) ?_ (fun wq3 hT => ?_)
  · exact ⟨by (first | exact hst | exact ⟨hHeld.1.below hb9, bel_call hHeld.2 hb9⟩ | exact ⟨Blk.far2 hHeld.1 (by omega) _ _, bel_set (bel_set hHeld.2 (by dsimp only; omega) _) (by dsimp only; omega) _⟩), by (first | assumption | exact f0.below hb9 | exact ho9.more f0.lt | exact Blk.set2 f0 _ _ | exact Own.set2 f1 (by omega) _ _), by (first | assumption | exact f0.below hb9 | exact ho9.more f0.lt | exact Blk.set2 f0 _ _ | exact Own.set2 f1 (by omega) _ _), trivial⟩
  (try clear f0 f1 f2 f3 f4 f5 f6 f7 f8 f9 f10 f11)
  obtain ⟨hHeld, f0, f1, -⟩ := hT
  refine wpAnyH_done (by kernel_rfl) ?_ _
  go_wp2_with fail
  exact bodyPost_ret (res_rg1 rfl rfl (g := w.heap.size + 1) f1) rfl ⟨A9, c9, m9, rfl, hm9, f0.sl, hHeld.2⟩
end Go.Proofs.YtgipfenjachpnaaGreat

namespace Go.Proofs.YtgipfenjachpnaaGreat
open Go.RowKit
attribute [local go_sem ↓] Go.wp_at_zero Go.wp_at_succ

theorem one_cf (l : List CeV) : ∀ u ∈ l.flatMap cf, u.oneCell' = true := by
  intro u hu
  simp only [List.mem_flatMap, List.mem_cons, List.not_mem_nil, or_false] at hu
  obtain ⟨x, _, hx⟩ := hu
  rcases hx with rfl | rfl <;> rfl
theorem step_cells {w : World} {ops : Array Oper} {o : Oper} {a : Act} {K : Act → World → Prop} {Q : Exit → Act → World → Prop} {X : Prop} (hw : Region.wanted o (yielded ops a.tmps) = true) (s x : Operand)
    (ho : o.op = .call { callee := .builtin .append, args := #[s, x], argTypes := #[24, 24] })
    (base : Nat) (A : Option Addr) (c : Nat) (l : List CeV) (hs : a.eval s = .slice A l.length c) (hown : Own w base 85 2 A l.length c (l.flatMap cf))
    (A2 : Option Addr) (c2 n2 : Nat) (l2 : List CeV) (hn2 : n2 = l2.length) (hx : a.eval x = .slice A2 n2 c2) (hr : Sl w 2 A2 l2.length c2 (l2.flatMap cf)) (hlen : l.length + l2.length ≤ 1000000000) (hbase : base ≤ w.heap.size)
    (h : ∀ A' c' (m : List CeV) w', Hid (m = l ++ l2) → Own w' base 85 2 A' m.length c' (m.flatMap cf) → w.grownBy w' (A.map (·.block)) → Below base w w' → K (a.put o.dst (.slice A' m.length c')) w') :
    if Region.wanted o (yielded ops a.tmps) = true then Oper.wp Tryz.prog o a w K Q else X := by
  subst hn2
  obtain ⟨i0, hi, hz0, hz1, hz2⟩ := info_parts cell_info
  refine step_append hw s x 24 ho base 85 i0 _ 2 32 Tryz.underlying24 hi hz0 hz1 hz2 rfl (by decide) A l.length c (l.flatMap cf) hs hown A2 l2.length c2 (l2.flatMap cf) hx hr (one_cf l2) (by omega) (by simp only [maxLen]; omega) hbase ?_
  intro A' c' w' hap
  rw [← List.length_append]
  refine h A' c' (l ++ l2) w' rfl ?_ hap.grown (hap.below hown hbase)
  have := hap.own
  simpa using this
theorem one_df (l : List Ce) : ∀ u ∈ l.flatMap df, u.oneCell' = true := by
  intro u hu
  simp only [List.mem_flatMap, List.mem_cons, List.not_mem_nil, or_false] at hu
  obtain ⟨x, _, hx⟩ := hu
  rcases hx with rfl | rfl <;> rfl
theorem step_dcells {w : World} {ops : Array Oper} {o : Oper} {a : Act} {K : Act → World → Prop} {Q : Exit → Act → World → Prop} {X : Prop} (hw : Region.wanted o (yielded ops a.tmps) = true) (s x : Operand)
    (ho : o.op = .call { callee := .builtin .append, args := #[s, x], argTypes := #[33, 33] })
    (base : Nat) (A : Option Addr) (c : Nat) (l : List Ce) (hs : a.eval s = .slice A l.length c) (hown : Own w base 112 2 A l.length c (l.flatMap df))
    (A2 : Option Addr) (c2 n2 : Nat) (l2 : List Ce) (hn2 : n2 = l2.length) (hx : a.eval x = .slice A2 n2 c2) (hr : Sl w 2 A2 l2.length c2 (l2.flatMap df)) (hlen : l.length + l2.length ≤ 1000000000) (hbase : base ≤ w.heap.size)
    (h : ∀ A' c' (m : List Ce) w', Hid (m = l ++ l2) → Own w' base 112 2 A' m.length c' (m.flatMap df) → w.grownBy w' (A.map (·.block)) → Below base w w' → K (a.put o.dst (.slice A' m.length c')) w') :
    if Region.wanted o (yielded ops a.tmps) = true then Oper.wp Tryz.prog o a w K Q else X := by
  subst hn2
  obtain ⟨i0, hi, hz0, hz1, hz2⟩ := info_parts dcell_info
  refine step_append hw s x 33 ho base 112 i0 _ 2 24 Tryz.underlying33 hi hz0 hz1 hz2 rfl (by decide) A l.length c (l.flatMap df) hs hown A2 l2.length c2 (l2.flatMap df) hx hr (one_df l2) (by omega) (by simp only [maxLen]; omega) hbase ?_
  intro A' c' w' hap
  rw [← List.length_append]
  refine h A' c' (l ++ l2) w' rfl ?_ hap.grown (hap.below hown hbase)
  have := hap.own
  simpa using this
/-- a row of another type is as it was behind an append -/
theorem Own.other {w w' : World} {base base' : Nat} {e e' : TypeId} {size size' n n' c c' : Nat} {A B : Option Addr} {xs ys : List Value} (h : Own w base' e' size' B n' c' ys) (ho : Own w base e size A n c xs) (hg : w.grownBy w' (A.map (·.block))) (hne : e ≠ e') : Own w' base' e' size' B n' c' ys := by
  obtain ⟨h1, h2⟩ := h
  refine ⟨h1, ?_⟩
  rcases h2 with h2 | ⟨g', cap, cur, hv, hb, hh, r⟩
  · exact Or.inl h2
  · refine Or.inr ⟨g', cap, cur, hv, hb, (hg.block g' (Array.getElem?_eq_some_iff.1 hh).1 (fun he => ?_)).trans hh, r⟩
    rcases ho.2 with ⟨hv2, _⟩ | ⟨g2, cap2, cur2, hv2, _, hh2, _⟩
    · injection hv2 with hA
      subst hA
      simp at he
    · injection hv2 with hA
      subst hA
      simp at he
      subst he
      rw [hh] at hh2
      injection hh2 with hh2
      injection hh2 with _ ht
      exact hne ht.symm
theorem Own.ltB {w : World} {base : Nat} {e : TypeId} {size n c : Nat} {A : Option Addr} {xs : List Value} (h : Own w base e size A n c xs) : ∀ g, A.map (·.block) = some g → base ≤ g ∧ g < w.heap.size := by
  intro g hg
  rcases h.2 with ⟨hv, _⟩ | ⟨g2, cap, cur, hv, hb, hh, _⟩
  · injection hv with hA
    subst hA
    simp at hg
  · injection hv with hA
    subst hA
    simp at hg
    subst hg
    exact ⟨hb, (Array.getElem?_eq_some_iff.1 hh).1⟩
theorem Own.set1 {w : World} {base : Nat} {e : TypeId} {size n c : Nat} {A : Option Addr} {xs : List Value} (h : Own w base e size A n c xs) {g i : Nat} (hg : g < base) (u : Value) : Own (w.setCell ⟨g, i, none⟩ u) base e size A n c xs :=
  ownsRow_setCell_below (a := ⟨g, i, none⟩) h hg u

/-- a new segment: a row of its own, bytes of its own -/
def NewS (w' : World) (base : Nat) (A : Option Addr) (c : Nat) (m : List CeV) : Prop := Own w' base 85 2 A m.length c (m.flatMap cf) ∧ ∀ x ∈ m, OwnB w' base 5 x.2.1 x.2.2.1 x.2.2.2
theorem NewS.slc {w' : World} {base : Nat} {A : Option Addr} {c : Nat} {m : List CeV} (h : NewS w' base A c m) : SlC w' A c m := ⟨h.1.sl, fun x hx => (h.2 x hx).sl⟩
theorem NewS.below {w w' : World} {base : Nat} {A : Option Addr} {c : Nat} {m : List CeV} (h : NewS w base A c m) (hb : Below w.heap.size w w') : NewS w' base A c m := ⟨Own.below h.1 hb, fun x hx => Own.below (h.2 x hx) hb⟩
theorem NewS.more {w : World} {base base' : Nat} {A : Option Addr} {c : Nat} {m : List CeV} (h : NewS w base A c m) (hb : base' ≤ base) : NewS w base' A c m := ⟨h.1.more hb, fun x hx => (h.2 x hx).more hb⟩

end Go.Proofs.YtgipfenjachpnaaGreat

namespace Go.Proofs.YtgipfenjachpnaaGreat
open Go.RowKit

section
variable {w : World} {base base' : Nat} {e e' : TypeId} {size size' n n' c c' : Nat} {A B : Option Addr} {xs ys : List Value}
/-- where a row of one's own lies -/
theorem Own.row (h : Own w base e size A n c xs) (hn : 0 < xs.length) : ∃ g cur, A = some ⟨g, 0, none⟩ ∧ base ≤ g ∧ w.heap[g]? = some (.cells cur e (0, 0)) ∧ cur.size = c * size ∧ cur.toList.take (n * size) = xs := by
  obtain ⟨h1, h2⟩ := h
  rcases h2 with ⟨_, h0⟩ | ⟨g, cap, cur, hv, hb, hh, _, _, hs, ht⟩
  · rw [h0, Nat.zero_mul] at h1; omega
  · injection hv with hA _ hc
    subst hc
    exact ⟨g, cur, hA, hb, hh, hs, ht⟩
theorem Own.cellAt {g : Nat} (h : Own w base e size (some ⟨g, 0, none⟩) n c xs) {j : Nat} (hj : j < xs.length) : w.cell? ⟨g, j, none⟩ = some xs[j] := by
  obtain ⟨ad, hA, hc⟩ := h.sl.2.2.2.2 j _ (List.getElem?_eq_getElem hj)
  injection hA with hA
  subst hA
  rw [addr_lit] at hc
  simpa using hc
theorem Own.frz {g : Nat} (h : Own w base e size (some ⟨g, 0, none⟩) n c xs) (j : Nat) : w.frozen? ⟨g, j, none⟩ = false := by
  obtain ⟨_, h2⟩ := h
  rcases h2 with ⟨hv, _⟩ | ⟨g2, cap, cur, hv, _, hh, _⟩
  · injection hv with hA; cases hA
  · injection hv with hA
    injection hA with hA
    injection hA with hA
    subst hA
    simp [World.frozen?, hh]
theorem Own.setAt {g : Nat} (h : Own w base e size (some ⟨g, 0, none⟩) n c xs) {j : Nat} (_hj : j < xs.length) (u : Value) : Own (w.setCell ⟨g, j, none⟩ u) base e size (some ⟨g, 0, none⟩) n c (xs.set j u) := by
  obtain ⟨h1, h2⟩ := h
  refine ⟨by simpa using h1, ?_⟩
  rcases h2 with ⟨hv, _⟩ | ⟨g2, cap, cur, hv, hb, hh, hnc, hcm, hs, ht⟩
  · injection hv with hA; cases hA
  · injection hv with hA hn hc
    injection hA with hA
    injection hA with hA
    subst hA
    refine .inr ⟨g, cap, cur.setIfInBounds j u, by rw [hc], hb, heap_setCell_same w g j cur e u hh, hnc, hcm, by simpa using hs, ?_⟩
    rw [Array.toList_setIfInBounds, List.take_set, ht]
theorem Own.apart (h : Own w base e size A n c xs) (k : Own w base' e' size' B n' c' ys) (hne : e ≠ e') : ∀ g, A.map (·.block) = some g → B.map (·.block) ≠ some g := by
  intro g hg hg2
  rcases h.2 with ⟨hv, _⟩ | ⟨g1, _, cur, hv, _, hh, _⟩
  · injection hv with hA; subst hA; simp at hg
  · injection hv with hA
    subst hA
    simp at hg
    subst hg
    rcases k.2 with ⟨hv2, _⟩ | ⟨g2, _, cur2, hv2, _, hh2, _⟩
    · injection hv2 with hB; subst hB; simp at hg2
    · injection hv2 with hB
      subst hB
      simp at hg2
      subst hg2
      rw [hh] at hh2
      injection hh2 with hh2
      injection hh2 with _ ht
      exact hne ht
theorem Own.setOther (h : Own w base e size A n c xs) {g : Nat} (hg : A.map (·.block) ≠ some g) (i : Nat) (u : Value) : Own (w.setCell ⟨g, i, none⟩ u) base e size A n c xs :=
  ownsRow_setCell_other h (a := ⟨g, i, none⟩) (by rw [ownBlock_slice]; exact hg) u
end
/-- the cells of a list of pairs: one cell turned -/
theorem flat_set {T : Type} {f : T → List Value} {s : Nat} (hf : ∀ x, (f x).length = s) : ∀ (l : List T) (k j : Nat) (y : T) (u : Value), (hk : k < l.length) → j < s → f y = (f l[k]).set j u → (l.set k y).flatMap f = (l.flatMap f).set (k * s + j) u
  | x :: l, 0, j, y, u, _, hj, hy => by
    simp only [List.set_cons_zero, List.flatMap_cons, List.getElem_cons_zero, Nat.zero_mul, Nat.zero_add] at hy ⊢
    rw [hy, List.set_append_left _ _ (by rw [hf]; exact hj)]
  | x :: l, k + 1, j, y, u, hk, hj, hy => by
    simp only [List.set_cons_succ, List.flatMap_cons, List.getElem_cons_succ] at hy ⊢
    rw [flat_set hf l k j y u (by simpa using hk) hj hy, List.set_append_right _ _ (by rw [hf, Nat.succ_mul]; omega), hf]
    congr 2
    rw [Nat.succ_mul]; omega
theorem wrap_succ_ne (k : Int) : wrap64 (k + 1) ≠ k := by
  simp only [wrap64]
  omega
end Go.Proofs.YtgipfenjachpnaaGreat

namespace Go.Proofs.YtgipfenjachpnaaGreat
open Go.RowKit

theorem run_copy_rowK {P : Program} (w : World) (dT sT ty elem : TypeId) (k : Nat) (g o dLen dCap : Nat) (a : Addr) (sLen sCap : Nat) (cur : Array Value) (t : TypeId) (cs : List Value)
    (hu : P.underlying dT = some (.slice elem)) (hs : (P.info? elem).map (·.size) = some k)
    (hg : w.heap[g]? = some (.cells cur t (0, 0))) (hn : cs.length = Nat.min sLen dLen * k)
    (hsrc : ∀ j v, cs[j]? = some v → w.cell? (a.add j) = some v) (hfit : o + cs.length ≤ cur.size) (h1 : ∀ v ∈ cs, v.oneCell' = true) :
    (Builtin.copy_ #[dT, sT] ty #[.slice (some ⟨g, o, none⟩) dLen dCap, .slice (some a) sLen sCap]).run P w =
      .ok (goInt (Nat.min sLen dLen)) (w.setRow g (cur.toList.take o ++ cs ++ cur.toList.drop (o + cs.length)).toArray) := by
  have hl := run_loadCells_list (P := P) w a cs hsrc
  have hst := run_storeCells_at P g o t cs 0 cur w hg (by simpa using hfit) h1
  cases hq : P.info? elem with
  | none => simp [hq] at hs
  | some i =>
    have hi : i.size = k := by simpa [hq] using hs
    simp [Builtin.copy_, run_underlying hu, Builtin.lenOf, Builtin.firstCells, sizeOf, typeInfo, hq, hi, ← hn, hl, hst]
theorem wpl_copyK {P : Program} {w : World} {ops : Array Oper} {rest : List Oper} {o : Oper} {a : Act} {Q : Exit → Act → World → Prop} (hgd : o.guard = none) (d s : Operand) (dT sT : TypeId)
    (ho : o.op = .call { callee := .builtin .copy, args := #[d, s], argTypes := #[dT, sT] }) (elem : TypeId) (k : Nat) (hu : P.underlying dT = some (.slice elem)) (hsz : (P.info? elem).map (·.size) = some k)
    (g off dLen dCap : Nat) (ad : Addr) (sLen sCap : Nat) (hd : a.eval d = .slice (some ⟨g, off, none⟩) dLen dCap) (hs : a.eval s = .slice (some ad) sLen sCap)
    (cur : List Value) (t : TypeId) (hg : w.heap[g]? = some (.cells cur.toArray t (0, 0))) (cs : List Value) (hn : cs.length = Nat.min sLen dLen * k)
    (hsrc : ∀ j v, cs[j]? = some v → w.cell? (ad.add j) = some v) (hfit : off + cs.length ≤ cur.length) (h1 : ∀ v ∈ cs, v.oneCell' = true) (B : Nat) (w0 : World) (hb : Below B w0 w) (hBg : B ≤ g)
    (h : ∀ w', Hid (w'.heap[g]? = some (.cells (splice cur off cs).toArray t (0, 0))) → Below B w0 w' → wpList P ops Q rest (a.put o.dst (goInt (Nat.min sLen dLen))) w') : wpList P ops Q (o :: rest) a w := by
  refine wpList_plain hgd fun K hK => ?_
  have hrun := run_copy_rowK (P := P) w dT sT o.type elem k g off dLen dCap ad sLen sCap cur.toArray t cs hu hsz hg hn hsrc (by simpa using hfit) h1
  unfold Oper.wp
  simp [execOp, ho, resolve, invoke, builtin, hd, hs, hrun, Result.andThen]
  exact hK _ _ (h _ (show _ = _ by simpa [splice] using setRow_heap w g _ _ t _ hg) (below_setRow hb hBg _))
theorem step_copyK {P : Program} {ops : Array Oper} {o : Oper} {a : Act} {w : World} {K : Act → World → Prop} {Q : Exit → Act → World → Prop} {E : Prop} (hgd : o.guard = none) (d s : Operand) (dT sT : TypeId)
    (ho : o.op = .call { callee := .builtin .copy, args := #[d, s], argTypes := #[dT, sT] }) (elem : TypeId) (k : Nat) (hu : P.underlying dT = some (.slice elem)) (hsz : (P.info? elem).map (·.size) = some k)
    (g off dLen dCap : Nat) (ad : Addr) (sLen sCap : Nat) (hd : a.eval d = .slice (some ⟨g, off, none⟩) dLen dCap) (hs : a.eval s = .slice (some ad) sLen sCap)
    (cur : List Value) (t : TypeId) (hg : w.heap[g]? = some (.cells cur.toArray t (0, 0))) (cs : List Value) (q : Nat) (hq : Nat.min sLen dLen = q) (hn : cs.length = q * k)
    (hsrc : ∀ j v, cs[j]? = some v → w.cell? (ad.add j) = some v) (hfit : off + cs.length ≤ cur.length) (h1 : ∀ v ∈ cs, v.oneCell' = true) (B : Nat) (w0 : World) (hb : Below B w0 w) (hBg : B ≤ g)
    (h : ∀ w', Hid (w'.heap[g]? = some (.cells (splice cur off cs).toArray t (0, 0))) → Below B w0 w' → K (a.put o.dst (goInt q)) w') :
    if Region.wanted o (yielded ops a.tmps) = true then Oper.wp P o a w K Q else E := by
  subst hq
  have hw : Region.wanted o (yielded ops a.tmps) = true := by simp [Region.wanted, hgd]
  rw [if_pos hw]
  have hrun := run_copy_rowK (P := P) w dT sT o.type elem k g off dLen dCap ad sLen sCap cur.toArray t cs hu hsz hg hn hsrc (by simpa using hfit) h1
  unfold Oper.wp
  simp [execOp, ho, resolve, invoke, builtin, hd, hs, hrun, Result.andThen]
  exact h _ (show _ = _ by simpa [splice] using setRow_heap w g _ _ t _ hg) (below_setRow hb hBg _)
end Go.Proofs.YtgipfenjachpnaaGreat

namespace Go.Proofs.YtgipfenjachpnaaGreat
open Go.RowKit
attribute [local go_sem ↓] Go.wp_at_zero Go.wp_at_succ

theorem make_cells (n : Nat) (hn : n ≤ 1000000) (w : World) : ∃ Z : List Value, Z.length = n * 2 ∧ (Instr.makeSlice 24 (.int .i64 (n : Int)) (.int .i64 (n : Int))).run Tryz.prog w = .ok (.slice (some ⟨w.heap.size, 0, none⟩) n n) (w.alloc (.cells Z.toArray 85)) := by
  obtain ⟨i0, hi, hz0, hz1, hz2⟩ := info_parts cell_info
  have hr := run_make (P := Tryz.prog) w 24 85 i0 _ Tryz.underlying24 hi hz0 .i64 .i64 n n (by omega) (Int.le_refl _) (by rw [hz2]; omega) (by omega)
  simp only [Int.toNat_natCast] at hr
  exact ⟨(madeCells (Value.agg #[Value.int IntKind.i64 0, Value.slice none 0 0]).cells (n * i0.size)).toList, by rw [Array.length_toList, size_madeCells, hz1], by rw [hr]⟩
theorem rep_flat {T : Type} {f : T → List Value} (x : T) (m q : Nat) : (List.replicate (m + q) x).flatMap f = (List.replicate m x).flatMap f ++ (List.replicate q x).flatMap f := by
  rw [← List.replicate_append_replicate, List.flatMap_append]
theorem rep_grow {x : CeV} {cur : List Value} {m q : Nat} (hc : (List.replicate m x).flatMap cf = cur.take (m * 2)) (_hm : m * 2 ≤ cur.length) : (splice cur (m * 2) ((List.replicate q x).flatMap cf)).take ((m + q) * 2) = (List.replicate (m + q) x).flatMap cf := by
  have hl : ∀ k, ((List.replicate k x).flatMap cf).length = k * 2 := fun k => by rw [flat_len (f := cf) (s := 2) (fun _ => rfl)]; simp
  unfold splice
  rw [← hc, rep_flat, ← List.append_assoc, List.take_left' (by rw [List.length_append, hl, hl]; omega)]
theorem rep_src {x : CeV} {cur : List Value} {m q : Nat} (hq : q ≤ m) (hc : (List.replicate m x).flatMap cf = cur.take (m * 2)) {j : Nat} {v : Value} (h : ((List.replicate q x).flatMap cf)[j]? = some v) : cur[j]? = some v := by
  obtain ⟨r, rfl⟩ : ∃ r, m = q + r := ⟨m - q, by omega⟩
  have hj := (List.getElem?_eq_some_iff.1 h).1
  rw [flat_len (f := cf) (s := 2) (fun _ => rfl)] at hj
  have h2 : ((List.replicate (q + r) x).flatMap cf)[j]? = (cur.take ((q + r) * 2))[j]? := by rw [hc]
  rw [rep_flat, List.getElem?_append_left (by rw [flat_len (f := cf) (s := 2) (fun _ => rfl)]; exact hj), h, List.getElem?_take_of_lt (by simp at hj; omega)] at h2
  exact h2.symm
set_option maxRecDepth 100000 in
set_option maxHeartbeats 2000000 in
theorem Repeat_any {A : Option Addr} {c : Nat} (k : Int) (n : Nat) (w : World) (h : Sl w 2 A 1 c (cf (k, none, 0, []))) (h0 : 1 ≤ n) (h1 : n ≤ 64) :
    Calls Tryz.prog 77 #[.slice A 1 c, .int .i64 n] w fun e w' => ∃ B d, e = .returned (.slice B n d) ∧ Own w' w.heap.size 85 2 B n d ((List.replicate n ((k, none, 0, []) : CeV)).flatMap cf) ∧ Below w.heap.size w w' := by
  have hm := fun W => Tryz.bits_Mul 1 n (by omega) (by omega) W
  rw [show 1 * n / 18446744073709551616 = 0 from by rw [Nat.one_mul]; exact Nat.div_eq_of_lt (by omega), show 1 * n % 18446744073709551616 = n from by rw [Nat.one_mul]; exact Nat.mod_eq_of_lt (by omega)] at hm
  have HM := Lib.hid hm
  clear hm
  obtain ⟨Z, hZ, hmk⟩ := make_cells n (by omega) w
  have HZ := Lib.hid hZ
  clear hZ
  obtain ⟨ad, rfl, hcell⟩ : ∃ ad, A = some ad ∧ ∀ j v, (cf (k, none, 0, []))[j]? = some v → w.cell? (ad.add j) = some v := by
    obtain ⟨ad, hA, _⟩ := h.2.2.2.2 0 _ rfl
    refine ⟨ad, hA, fun j v hj => ?_⟩
    obtain ⟨ad2, hA2, hc⟩ := h.2.2.2.2 j v hj
    rw [hA] at hA2
    injection hA2 with hA2
    rw [hA2]
    exact hc
  have HC := Lib.hid hcell
  have hlt := World.block_lt_of_cell? w _ (hcell 0 _ rfl)
  clear hcell h
  go_enter Tryz.func77, Tryz.ntmps77
  go_wp2_with fail
  refine (HM.out _).mono ?_
  rintro e w1 ⟨rfl, rfl⟩
  have hg0 := heap_alloc_new w1 (.cells Z.toArray 85)
  have hbx := below_new w1 (.cells Z.toArray 85)
  obtain ⟨w2, hrun, hg2, hb2⟩ : ∃ w2, (Builtin.copy_ #[24, 24] 3 #[Value.slice (some { block := w1.heap.size, off := 0 }) n n, Value.slice (some ad) 1 c]).run Tryz.prog (w1.alloc (Obj.cells Z.toArray 85)) = .ok (.int .i64 1) w2 ∧ Hid (w2.heap[w1.heap.size]? = some (.cells (splice Z 0 (cf (k, none, 0, []))).toArray 85 (0, 0))) ∧ Below w1.heap.size w1 w2 := by
    have hr := run_copy_rowK (P := Tryz.prog) (w1.alloc (Obj.cells Z.toArray 85)) 24 24 3 85 2 w1.heap.size 0 n n ad 1 c Z.toArray 85 (cf (k, none, 0, [])) Tryz.underlying24 (by kernel_rfl) hg0 (by rw [show Nat.min 1 n = 1 from Nat.min_eq_left h0]; rfl) (fun j v hj => (hbx.cell (by rw [addr_add_block]; rw [addr_add_block] at hlt; exact hlt)).trans (HC.out j v hj)) (by simp only [List.size_toArray]; rw [HZ.out]; show 0 + 2 ≤ n * 2; omega) (by intro v hv; simp at hv; rcases hv with rfl | rfl <;> rfl)
    refine ⟨_, hr.trans ?_, (show _ = _ from setRow_heap _ _ _ _ _ _ hg0), below_setRow hbx (Nat.le_refl _) _⟩
    rw [show Nat.min 1 n = 1 from Nat.min_eq_left h0]
    simp [splice, goInt]
  clear hg0 hbx
  go_wp2_with fail
  clear hrun hmk
  go_loopw [8] (fun s8 wr => ∃ (m : Nat) (cur : List Value), 1 ≤ m ∧ m ≤ n ∧ s8 = .int .i64 m ∧ Hid (cur.length = n * 2) ∧ Hid ((List.replicate m ((k, none, 0, []) : CeV)).flatMap cf = cur.take (m * 2)) ∧ Hid (wr.heap[w1.heap.size]? = some (.cells cur.toArray 85 (0, 0))) ∧ Below w1.heap.size w1 wr) (fun s8 wr => n - (intOf s8).toNat)
  case atStart =>
    refine ⟨1, _, Nat.le_refl _, h0, rfl, (show _ = _ from ?_), (show _ = _ from ?_), hg2, hb2⟩
    · rw [length_splice _ _ _ (by rw [HZ.out]; show 0 + 2 ≤ n * 2; omega), HZ.out]
    · simp [splice]
  case round =>
    obtain ⟨m, cur, hm1, hmn, rfl, hcl, hct, hgr, hbr⟩ := hrel
    by_cases hlt : m < n
    · obtain ⟨q, hq⟩ : ∃ q, Nat.min m (n - m) = q := ⟨_, rfl⟩
      have hq1 : 1 ≤ q := by rw [← hq]; exact Nat.le_min.2 ⟨hm1, by omega⟩
      have hq2 : q ≤ m := by rw [← hq]; exact Nat.min_le_left _ _
      have hq3 : m + q ≤ n := by have : q ≤ n - m := by rw [← hq]; exact Nat.min_le_right _ _
                                 omega
      have hne : ¬ n = m := by omega
      have HQ := Lib.hid hq
      clear hq
      have hwq : IntKind.i64.wrap ((m : Int) + (q : Int)) = ((m + q : Nat) : Int) := by rw [IntKind.wrap_i64]; omega
      have had := addr_lit w1.heap.size 0 (m * 2)
      rw [Nat.zero_add] at had
      have hk0 : (0 : Int) ≤ (m : Int) := by omega
      have hk1 : (m : Int) ≤ (n : Int) := by omega
      go_upto_region 9 with (fail)
      have hst : Below w1.heap.size w1 wr.drew := hbr.drew
      refine wp_region_held_drew (S := (fun W => Below w1.heap.size w1 W)) (by kernel_rfl) ?_ (fun hHeld => ?_)
      · exact hst
      refine gen0 (T := fun W => ((fun W => Below w1.heap.size w1 W)) W ∧ W.heap[w1.heap.size]? = some (.cells cur.toArray 85 (0, 0)) ∧ True) ?_ (fun wq1 hT => ?_)
      · exact ⟨by (first | exact hst | exact hHeld | exact hb3), by (first | exact hgr.out | exact hg3 | assumption), trivial⟩
      (try clear f0 f1 f2 f3 f4 f5 f6 f7 f8 f9 f10 f11)
      obtain ⟨hHeld, f0, -⟩ := hT
      refine wpAnyH_take (i := 0) (oi := ⟨some 38, _, _, _, _, _⟩) (v := ?_) rfl (by kernel_rfl) (by kernel_rfl) (by kernel_rfl) (fun _ _ _ h => h) (Or.inl ⟨by kernel_rfl, ?_⟩) (by assumption) ?_
      rotate_left
      · (intro wS hSw; (try dsimp only at hSw); go_simp; (try with_reducible rfl))
      (try simp only [Act.put, List.setIfInBounds_toArray, List.set_cons_zero, List.set_cons_succ])
      refine wpAnyH_take (i := 1) (oi := ⟨some 39, _, _, _, _, _⟩) (v := ?_) rfl (by kernel_rfl) (by kernel_rfl) (by kernel_rfl) (fun _ _ _ h => h) (Or.inl ⟨by kernel_rfl, ?_⟩) (by assumption) ?_
      rotate_left
      · (intro wS hSw; (try dsimp only at hSw); go_simp; (try with_reducible rfl))
      (try simp only [Act.put, List.setIfInBounds_toArray, List.set_cons_zero, List.set_cons_succ])
      refine wpAnyH_take (i := 2) (oi := ⟨some 40, _, _, _, _, _⟩) (v := ?_) rfl (by kernel_rfl) (by kernel_rfl) (by kernel_rfl) (fun _ _ _ h => h) (Or.inl ⟨by kernel_rfl, ?_⟩) (by assumption) ?_
      rotate_left
      · (intro wS hSw; (try dsimp only at hSw); go_simp; (try with_reducible rfl))
      (try simp only [Act.put, List.setIfInBounds_toArray, List.set_cons_zero, List.set_cons_succ])
      refine wpAnyH_take (i := 3) (oi := ⟨some 41, _, _, _, _, _⟩) (v := ?_) rfl (by kernel_rfl) (by kernel_rfl) (by kernel_rfl) (fun _ _ _ h => h) (Or.inl ⟨by kernel_rfl, ?_⟩) (by assumption) ?_
      rotate_left
      · (intro wS hSw; (try dsimp only at hSw); go_simp; (try with_reducible rfl))
      (try simp only [Act.put, List.setIfInBounds_toArray, List.set_cons_zero, List.set_cons_succ])
      refine wpAnyH_take (i := 4) (oi := ⟨some 42, _, _, _, _, _⟩) (v := ?_) rfl (by kernel_rfl) (by kernel_rfl) (by kernel_rfl) (fun _ _ _ h => h) (Or.inl ⟨by kernel_rfl, ?_⟩) (by assumption) ?_
      rotate_left
      · (intro wS hSw; (try dsimp only at hSw); go_simp; (try with_reducible rfl))
      (try simp only [Act.put, List.setIfInBounds_toArray, List.set_cons_zero, List.set_cons_succ])
      refine wpAnyH_take (i := 5) (oi := ⟨some 43, _, _, _, _, _⟩) (v := ?_) rfl (by kernel_rfl) (by kernel_rfl) (by kernel_rfl) (fun _ _ _ h => h) (Or.inl ⟨by kernel_rfl, ?_⟩) (by assumption) ?_
      rotate_left
      · (intro wS hSw; (try dsimp only at hSw); go_simp; (try with_reducible rfl))
      (try simp only [Act.put, List.setIfInBounds_toArray, List.set_cons_zero, List.set_cons_succ])
      refine wpAnyH_take (i := 6) (oi := ⟨some 44, _, _, _, _, _⟩) (v := ?_) rfl (by kernel_rfl) (by kernel_rfl) (by kernel_rfl) (fun _ _ _ h => h) (Or.inl ⟨by kernel_rfl, ?_⟩) (by assumption) ?_
      rotate_left
      · (intro wS hSw; (try dsimp only at hSw); go_simp; (try with_reducible rfl))
      (try simp only [Act.put, List.setIfInBounds_toArray, List.set_cons_zero, List.set_cons_succ])
      refine wpAnyH_ready (rs := [7]) (by kernel_rfl) (by simp) ?_
      refine AllReadyH.cons (o := ⟨some 45, _, _, _, _, _⟩) rfl (fun K hK => ?_) AllReadyH.nil
      refine step_copyK rfl (.tmp 41) (.tmp 44) 24 24 rfl 85 2 Tryz.underlying24 (by kernel_rfl) w1.heap.size (m * 2) (n - m) (n - m) ⟨w1.heap.size, 0, none⟩ m n rfl rfl cur 85 f0 ((List.replicate q ((k, none, 0, []) : CeV)).flatMap cf) q HQ.out (by rw [flat_len (f := cf) (s := 2) (fun _ => rfl)]; simp) ?_ ?_ ?_ w1.heap.size w1 hHeld (Nat.le_refl _) ?_; (intro j v hj; rw [addr_lit, Nat.zero_add, cell_of_row _ _ _ _ _ _ f0]; simpa using rep_src hq2 hct.out hj); (rw [flat_len (f := cf) (s := 2) (fun _ => rfl), hcl.out]; simp; omega); (exact one_cf _); intro w3 hg3 hb3
      refine hK.out _ _ ?_ (fun _ => ?_)
      · ((try dsimp only); (first | exact hst | exact hHeld | exact hb3))
      clear hK K
      (try simp only [Act.put, List.setIfInBounds_toArray, List.set_cons_zero, List.set_cons_succ])
      refine gen0 (T := fun W => ((fun W => Below w1.heap.size w1 W)) W ∧ Hid (W.heap[w1.heap.size]? = some (.cells (splice cur (m * 2) ((List.replicate q ((k, none, 0, []) : CeV)).flatMap cf)).toArray 85 (0, 0))) ∧ True) ?_ (fun wq2 hT => ?_)
      · exact ⟨by (first | exact hst | exact hHeld | exact hb3), by (first | exact hgr.out | exact hg3 | assumption), trivial⟩
      (try clear f0 f1 f2 f3 f4 f5 f6 f7 f8 f9 f10 f11)
      obtain ⟨hHeld, f0, -⟩ := hT
      refine wpAnyH_take (i := 8) (oi := ⟨some 46, _, _, _, _, _⟩) (v := ?_) rfl (by kernel_rfl) (by kernel_rfl) (by kernel_rfl) (fun _ _ _ h => h) (Or.inl ⟨by kernel_rfl, ?_⟩) (by assumption) ?_
      rotate_left
      · (intro wS hSw; (try dsimp only at hSw); go_simp; (try with_reducible rfl))
      (try simp only [Act.put, List.setIfInBounds_toArray, List.set_cons_zero, List.set_cons_succ])
      refine wpAnyH_take (i := 9) (oi := ⟨some 8, _, _, _, _, _⟩) (v := ?_) rfl (by kernel_rfl) (by kernel_rfl) (by kernel_rfl) (fun _ _ _ h => h) (Or.inl ⟨by kernel_rfl, ?_⟩) (by assumption) ?_
      rotate_left
      · (intro wS hSw; (try dsimp only at hSw); go_simp; (try with_reducible rfl))
      (try simp only [Act.put, List.setIfInBounds_toArray, List.set_cons_zero, List.set_cons_succ])
      refine wpAnyH_done (by kernel_rfl) ?_ _
      have hlr : ((List.replicate q ((k, none, 0, []) : CeV)).flatMap cf).length = q * 2 := by rw [flat_len (f := cf) (s := 2) (fun _ => rfl)]; simp
      go_wp2_with fail
      go_roundw
      case rel => exact ⟨m + q, _, by omega, hq3, rfl, (show _ = _ from by rw [length_splice _ _ _ (by rw [hlr, hcl.out]; omega), hcl.out]), (show _ = _ from (rep_grow hct.out (by rw [hcl.out]; omega)).symm), f0, hHeld⟩
      case measure => simp [intOf]; omega
    · have hmn2 : m = n := by omega
      subst hmn2
      go_wp2_with fail
      go_ret
      have hct2 := hct.out
      rw [List.take_of_length_le (by rw [hcl.out]; exact Nat.le_refl _)] at hct2
      exact ⟨_, _, rfl, ⟨by rw [hct2, hcl.out], .inr ⟨w1.heap.size, m, cur.toArray, rfl, Nat.le_refl _, hgr.out, Nat.le_refl _, by unfold maxLen; omega, by simp only [List.size_toArray]; exact hcl.out, by rw [hct2]; exact List.take_of_length_le (by rw [hcl.out]; exact Nat.le_refl _)⟩⟩, hbr⟩
end Go.Proofs.YtgipfenjachpnaaGreat

namespace Go.Proofs.YtgipfenjachpnaaGreat
open Go.RowKit

abbrev Rs := List UInt8 × Nat
/-- what takes a run: the reader, the cells, how many are left, the last text, the kind of the row just ahead (1: none) -/
structure Tk where
  s : Rs
  out : List Ce
  left : Nat
  last : List UInt8
  kind : Nat
def tkRow (n : Nat) (t : Tk) : Tk :=
  let s1 := if t.left < n then rFail 2 t.s else t.s
  let k := (rWithin 3 s1).1
  let s2 := (rWithin 3 s1).2
  let s3 := if k = 1 ∨ k = t.kind then rFail 2 s2 else s2
  if s3.2 = 0 then ⟨s3, t.out ++ List.replicate n ((k : Int), []), t.left - n, t.last, k⟩ else { t with s := s3 }
def tkData (t : Tk) : Tk :=
  let n := (rNum t.s).1
  let s2 := if 64 < n then rFail 3 (rNum t.s).2 else (rNum t.s).2
  let k := (rNum s2).1
  let s4 := if min n t.last.length < k then rFail 2 (rNum s2).2 else (rNum s2).2
  if s4.2 ≠ 0 then { t with s := s4 } else
    let x := t.last.take k ++ (rFixed ((n - k : Nat) : Int) s4).1
    let s5 := (rFixed ((n - k : Nat) : Int) s4).2
    let s6 := if s5.2 = 0 ∧ cpl t.last x ≠ k then rFail 2 s5 else s5
    ⟨s6, t.out ++ [(1, x)], t.left - 1, x, 1⟩
def tkStep (t : Tk) : Tk :=
  if (rNum t.s).2.2 ≠ 0 then { t with s := (rNum t.s).2 }
  else if 0 < (rNum t.s).1 then tkRow (rNum t.s).1 { t with s := (rNum t.s).2 } else tkData { t with s := (rNum t.s).2 }
def tkGo : Nat → Tk → Tk
  | 0, t => t
  | n + 1, t => if t.left = 0 ∨ t.s.2 ≠ 0 then t else tkGo n (tkStep t)
/-- the end of it -/
def tkEnd (t : Tk) : Tk := tkGo (t.left + 1) t
def tkNew (s : Rs) : Tk := ⟨if 64 < (rNum s).1 then rFail 3 (rNum s).2 else (rNum s).2, [], min (rNum s).1 64, [], 1⟩
def takeRun (s : Rs) : List Ce × Rs := if (tkEnd (tkNew s)).s.2 ≠ 0 then ([], (tkEnd (tkNew s)).s) else ((tkEnd (tkNew s)).out, (tkEnd (tkNew s)).s)

theorem rFail_bad {k : Nat} {s : Rs} (hk : k ≠ 0) : (rFail k s).2 ≠ 0 := by
  unfold rFail
  split
  · exact hk
  · assumption
theorem rFail_of {k : Nat} {s : Rs} (h : s.2 ≠ 0) : rFail k s = s := by unfold rFail; rw [if_neg h]
theorem rNum_of {s : Rs} (h : s.2 ≠ 0) : rNum s = (0, s) := by unfold rNum; rw [if_pos h]
theorem rWithin_of {m : Nat} {s : Rs} (h : s.2 ≠ 0) : rWithin m s = (0, s) := by
  unfold rWithin
  rw [rNum_of h, if_neg (by simp)]
theorem tk_or {s : Rs} {x y : Tk} {n : Nat} (hx : x.left = n) (hy : y.s = s) : (if s.2 = 0 then x else y).s.2 ≠ 0 ∨ (if s.2 = 0 then x else y).left = n := by
  by_cases h : s.2 = 0
  · rw [if_pos h]; exact .inr hx
  · rw [if_neg h, hy]; exact .inl h
theorem tk_or2 {s : Rs} {x y : Tk} {n : Nat} (hx : x.left = n) (hy : y.s = s) : (if s.2 ≠ 0 then y else x).s.2 ≠ 0 ∨ (if s.2 ≠ 0 then y else x).left = n := by
  by_cases h : s.2 = 0
  · rw [if_neg (by simpa using h)]; exact .inr hx
  · rw [if_pos h, hy]; exact .inl h
theorem tkRow_left (n : Nat) (t : Tk) : (tkRow n t).s.2 ≠ 0 ∨ (tkRow n t).left = t.left - n := by
  unfold tkRow
  exact tk_or rfl rfl
theorem tkData_left (t : Tk) : (tkData t).s.2 ≠ 0 ∨ (tkData t).left = t.left - 1 := by
  unfold tkData
  exact tk_or2 rfl rfl
theorem tkStep_left (t : Tk) : (tkStep t).s.2 ≠ 0 ∨ (tkStep t).left ≤ t.left - 1 := by
  unfold tkStep
  split
  · rename_i h; exact .inl h
  · split
    · rename_i h
      rcases tkRow_left (rNum t.s).1 { t with s := (rNum t.s).2 } with h1 | h1
      · exact .inl h1
      · right; rw [h1]; dsimp only; omega
    · rcases tkData_left { t with s := (rNum t.s).2 } with h1 | h1
      · exact .inl h1
      · right; rw [h1]; exact Nat.le_refl _
theorem tkGo_stop {t : Tk} (h : t.left = 0 ∨ t.s.2 ≠ 0) : ∀ n, tkGo n t = t
  | 0 => rfl
  | n + 1 => by rw [tkGo, if_pos h]
theorem tkGo_more : ∀ (n m : Nat) (t : Tk), t.left < n → t.left < m → tkGo n t = tkGo m t
  | n + 1, m + 1, t, hn, hm => by
    rw [tkGo, tkGo]
    by_cases h : t.left = 0 ∨ t.s.2 ≠ 0
    · rw [if_pos h, if_pos h]
    · rw [if_neg h, if_neg h]
      rcases tkStep_left t with h1 | h1
      · rw [tkGo_stop (.inr h1), tkGo_stop (.inr h1)]
      · exact tkGo_more n m _ (by omega) (by omega)
theorem tkEnd_stop {t : Tk} (h : t.left = 0 ∨ t.s.2 ≠ 0) : tkEnd t = t := tkGo_stop h _
theorem tkEnd_step {t : Tk} (h : t.left ≠ 0) (h2 : t.s.2 = 0) : tkEnd t = tkEnd (tkStep t) := by
  unfold tkEnd
  rw [tkGo, if_neg (by simp [h, h2])]
  rcases tkStep_left t with h1 | h1
  · rw [tkGo_stop (.inr h1), tkGo_stop (.inr h1)]
  · exact tkGo_more _ _ _ (by omega) (by omega)
end Go.Proofs.YtgipfenjachpnaaGreat
