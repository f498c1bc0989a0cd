/- WHAT IT HOLDS: the document's Check of segments, and both Same, walked. | WHAT IT HOLDS: Same of segments, the program's and the document's, walked. | WHAT IT HOLDS: a segment as the document's, and a segment's copy, walked. -/
import Derived.Test.YtjkdnnekagcdhaaCellBackG08
import Derived.BigQuiet
import Derived.Deep.QuietTactic
import Derived.Test.YtjkdnnekagcdhaaCellBackG02
namespace Go.Proofs.Ytjkdnnekagcdhaa
open Go.RowKit
attribute [local go_sem ↓] Go.wp_at_zero Go.wp_at_succ

theorem rchk_next {l : List Ce} {k : Nat} (hk : k < l.length) (hall : ∀ c ∈ l.take k, cchk c = 0) (h0 : cchk l[k] = 0) : ∀ c ∈ l.take (k + 1), cchk c = 0 := fun c hc => by
  rw [List.take_succ_eq_append_getElem hk, List.mem_append] at hc
  rcases hc with hc | hc
  · exact hall c hc
  · simp only [List.mem_singleton] at hc
    rw [hc]; exact h0

set_option maxRecDepth 100000 in
set_option maxHeartbeats 1000000 in
theorem rSCheck_any {E : Option Addr} {cap : Nat} (f : Int) (ds : List Ce) (w : World) (h : SlD w E cap ds) :
    Calls Try.prog 43 #[cv f E ds.length cap] w fun e w' => e = .returned (.int .i64 (schk (f, ds) : Nat)) ∧ Below w.heap.size w w' := by
  have hmax := h.len_le
  unfold maxLen at hmax
  have hbw := below_new w (.cells #[.int .i64 f, .slice E ds.length cap] 77)
  have hB := Blk.new w 77 #[.int .i64 f, .slice E ds.length cap]
  by_cases h1 : f < 0
  · have hc := Lib.hid (schk_range (s := (f, ds)) (.inl h1))
    go_enter Try.func43, Try.ntmps43
    go_wp2_with fail
    go_ret
    exact ⟨by rw [hc.out]; rfl, hbw⟩
  by_cases h2 : 1048576 < f
  · have hc := Lib.hid (schk_range (s := (f, ds)) (.inr h2))
    go_enter Try.func43, Try.ntmps43
    go_wp2_with fail
    go_ret
    exact ⟨by rw [hc.out]; rfl, hbw⟩
  have hr : ¬ (f < 0 ∨ 1048576 < f) := by omega
  by_cases h3 : 64 < ds.length
  · have hc := Lib.hid (schk_long (s := (f, ds)) hr h3)
    clear hr
    go_enter Try.func43, Try.ntmps43
    go_wp2_with fail
    go_ret
    exact ⟨by rw [hc.out]; rfl, hbw⟩
  by_cases h4 : 1048576 < f + ds.length
  · have hc := Lib.hid (schk_far (s := (f, ds)) hr h3 h4)
    clear hr
    go_enter Try.func43, Try.ntmps43
    go_wp2_with fail
    go_ret
    exact ⟨by rw [hc.out]; rfl, hbw⟩
  have hc := Lib.hid (schk_cells (s := (f, ds)) hr h3 h4)
  clear hr
  go_enter Try.func43, Try.ntmps43
  go_wp2_with fail
  go_loopw [3] (fun x wr => ∃ k : Nat, k ≤ ds.length ∧ x = .int .i64 k ∧ Hid (∀ c ∈ ds.take k, cchk c = 0) ∧ Below w.heap.size w wr ∧ Blk wr w.heap.size 77 #[.int .i64 f, .slice E ds.length cap]) (fun x w => ds.length - (intOf x).toNat)
  case atStart => exact ⟨0, Nat.zero_le _, rfl, (fun c hc => by simp at hc), hbw, hB⟩
  case round =>
    obtain ⟨k, hk, rfl, hall, hbr, hBr⟩ := hrel
    obtain ⟨a0, a1, _, _⟩ := hBr.two
    by_cases hlt : k < ds.length
    · obtain ⟨ad, b, o, rfl, had, hcc⟩ := (h.below hbr).atS (f := df) (fun _ => rfl) (by decide) hlt
      have hc0 := hcc 0 _ rfl
      have hc1 := hcc 1 _ rfl
      clear hcc
      have hbad := Lib.hid (rchk_at (l := ds) (k := k) hlt hall.out)
      have hgood := Lib.hid (rchk_next hlt hall.out)
      generalize ds[k] = x at *
      obtain ⟨kk, d⟩ := x
      dsimp only at *
      rw [Nat.add_zero] at hc0
      rcases Nat.eq_zero_or_pos (cchk (kk, d)) with h1 | h1
      · have hg := Lib.hid (hgood.out h1)
        have hz := Lib.hid h1
        clear h1 hgood hbad
        go_wp2_with fail
        refine (rCheck_any kk d _).mono ?_
        rintro e w4 ⟨rfl, hb4⟩
        rw [hz.out]
        have hn4 := bel_call hbr hb4
        have hB4 := hBr.below hb4
        clear a0 a1 hBr hbr hb4 hc0 hc1
        go_wp2_with fail
        go_roundw
        case rel => exact ⟨k + 1, hlt, by go_num, hg, hn4, hB4⟩
        case measure => simp [intOf]; omega
      · have hr : Hid (rchk ds = cchk (kk, d)) := Lib.hid (hbad.out (by omega))
        have hk1 : (((cchk (kk, d) : Nat) : Int) != 0) = true := by simp; omega
        clear hbad hgood
        go_wp2_with fail
        refine (rCheck_any kk d _).mono ?_
        rintro e w4 ⟨rfl, hb4⟩
        have hn4 := bel_call hbr hb4
        generalize cchk (kk, d) = q at *
        go_wp2_with fail
        go_ret
        exact ⟨by rw [hc.out]; dsimp only; rw [hr.out]; rfl, hn4⟩
    · go_wp2_with fail
      go_ret
      have h5 : rchk ds = 0 := rchk_ok fun c hc => hall.out c (by rw [List.take_of_length_le (by omega)]; exact hc)
      exact ⟨by rw [hc.out]; dsimp only; rw [h5]; rfl, hbr⟩
end Go.Proofs.Ytjkdnnekagcdhaa

namespace Go.Proofs.Ytjkdnnekagcdhaa
open Go.RowKit
attribute [local go_sem ↓] Go.wp_at_zero Go.wp_at_succ

def ssame (a b : Sg) : Bool := decide (a = b)
theorem same_iff {a b : Ce} : same a b = true ↔ a = b := by unfold same; exact decide_eq_true_iff
theorem take_ne {xs ys : List Ce} {k : Nat} (hx : k < xs.length) (hy : k < ys.length) (h : xs[k] ≠ ys[k]) : decide (xs = ys) = false := by
  rw [decide_eq_false_iff_not]
  rintro rfl
  exact h rfl
theorem len_ne {xs ys : List Ce} (h : xs.length ≠ ys.length) : decide (xs = ys) = false := by
  rw [decide_eq_false_iff_not]
  rintro rfl
  exact h rfl
set_option maxRecDepth 100000 in
set_option maxHeartbeats 1000000 in
theorem EqualFunc_any {E G : Option Addr} {cap cap2 : Nat} (cs ds : List CeV) (w : World) (h : SlC w E cap cs) (h2 : SlC w G cap2 ds) :
    Calls Try.prog 103 #[.slice E cs.length cap, .slice G ds.length cap2, .func (.func 20) #[] #[]] w fun e w' => e = .returned (.bool (decide (cs.map ceOf = ds.map ceOf))) ∧ Below w.heap.size w w' := by
  have hmax := h.1.len_le
  have hmax2 := h2.1.len_le
  unfold maxLen at hmax hmax2
  by_cases hl : cs.length = ds.length
  · have HL := Lib.hid hl
    have hlb : ((cs.length : Int) != (ds.length : Int)) = false := by simp [hl]
    have hle1 : cs.length ≤ ds.length := by omega
    have hle2 : ds.length ≤ cs.length := by omega
    clear hl
    go_enter Try.func103, Try.ntmps103
    go_wp2_with fail
    go_loopw [17] (fun x wr => ∃ k : Nat, k ≤ cs.length ∧ x = .int .i64 k ∧ Hid ((cs.map ceOf).take k = (ds.map ceOf).take k) ∧ Below w.heap.size w wr) (fun x w => cs.length - (intOf x).toNat)
    case atStart => exact ⟨0, Nat.zero_le _, rfl, (show _ = _ from by simp), Below.refl _ _⟩
    case round =>
      obtain ⟨k, hk, rfl, hall, hbr⟩ := hrel
      by_cases hlt : k < cs.length
      · have hlt2 : k < ds.length := by omega
        obtain ⟨ad, b, o, rfl, had, hc0, hc1, hsx⟩ := (h.below hbr).at2 hlt
        obtain ⟨ad2, b2, o2, rfl, had2, hd0, hd1, hsy⟩ := (h2.below hbr).at2 hlt2
        have hnx := Lib.hid (take_succ_eq hall.out (by simpa using hlt) (by simpa using hlt2))
        have hno := Lib.hid (take_ne (xs := cs.map ceOf) (ys := ds.map ceOf) (k := k) (by simpa using hlt) (by simpa using hlt2))
        rw [List.getElem_map, List.getElem_map] at hnx hno
        generalize cs[k] = x at *
        generalize ds[k] = y at *
        obtain ⟨kk, A, c, d⟩ := x
        obtain ⟨kk2, A2, c2, d2⟩ := y
        dsimp only [ceOf] at *
        have hb2 := bel_alloc (below_new wr (.cells #[.int .i64 kk, .slice A d.length c] 24)) (.cells #[.int .i64 kk2, .slice A2 d2.length c2] 24)
        have hlb2 : b2 < wr.heap.size := World.block_lt_of_cell? wr _ hd0
        have hne2 : b2 ≠ wr.heap.size := by omega
        go_wp2_with fail
        refine (CSame_any kk kk2 d d2 _ (hsx.below hb2) (hsy.below hb2)).mono ?_
        rintro e w4 ⟨rfl, hb4⟩
        have hn4 := bel_call (bel_call hbr hb2) hb4
        cases hs : same (kk, d) (kk2, d2)
        · have he : ((kk, d) : Ce) ≠ (kk2, d2) := by intro he; rw [same_iff.2 he] at hs; cases hs
          have hr := Lib.hid (hno.out he)
          clear he hs hno hnx
          go_wp2_with fail
          go_ret
          exact ⟨by rw [hr.out]; rfl, hn4⟩
        · have hr := Lib.hid (hnx.out.2 (same_iff.1 hs))
          clear hs hno hnx
          go_wp2_with fail
          go_roundw
          case rel => exact ⟨k + 1, hlt, by go_num, hr, hn4⟩
          case measure => simp [intOf]; omega
      · go_wp2_with fail
        go_ret
        have h5 := hall.out
        rw [List.take_of_length_le (by simp; omega), List.take_of_length_le (by simp; omega)] at h5
        exact ⟨by rw [decide_eq_true h5]; rfl, hbr⟩
  · have hlb : ((cs.length : Int) != (ds.length : Int)) = true := by simp; omega
    have hr := Lib.hid (len_ne (xs := cs.map ceOf) (ys := ds.map ceOf) (by simpa using hl))
    clear hl
    go_enter Try.func103, Try.ntmps103
    go_wp2_with fail
    go_ret
    exact ⟨by rw [hr.out]; rfl, Below.refl _ _⟩

theorem ssame_ne {f f2 : Int} {l m : List Ce} (h : f ≠ f2) : ssame (f, l) (f2, m) = false := by
  unfold ssame
  rw [decide_eq_false_iff_not]
  intro he
  exact h (congrArg Prod.fst he)
theorem ssame_eq {f : Int} {l m : List Ce} : ssame (f, l) (f, m) = decide (l = m) := by
  unfold ssame
  rw [decide_eq_decide]
  exact ⟨fun h => congrArg Prod.snd h, fun h => by rw [h]⟩

set_option maxRecDepth 100000 in
set_option maxHeartbeats 1000000 in
theorem SSame_any {E G : Option Addr} {cap cap2 : Nat} (f f2 : Int) (cs ds : List CeV) (w : World) (h : SlC w E cap cs) (h2 : SlC w G cap2 ds) :
    Calls Try.prog 49 #[cv f E cs.length cap, cv f2 G ds.length cap2] w fun e w' => e = .returned (.bool (ssame (f, cs.map ceOf) (f2, ds.map ceOf))) ∧ Below w.heap.size w w' := by
  have hbb := bel_alloc (below_new w (.cells #[.int .i64 f, .slice E cs.length cap] 75)) (.cells #[.int .i64 f2, .slice G ds.length cap2] 75)
  by_cases hf : f = f2
  · subst hf
    have hr := Lib.hid (ssame_eq (f := f) (l := cs.map ceOf) (m := ds.map ceOf))
    go_enter Try.func49, Try.ntmps49
    go_wp2_with fail
    refine (EqualFunc_any cs ds _ (h.below hbb) (h2.below hbb)).mono ?_
    rintro e w2 ⟨rfl, hb2⟩
    go_wp2_with fail
    go_ret
    exact ⟨by rw [hr.out]; rfl, bel_call hbb hb2⟩
  · have hfb : (f == f2) = false := by simpa using hf
    have hr := Lib.hid (ssame_ne (l := cs.map ceOf) (m := ds.map ceOf) hf)
    clear hf
    go_enter Try.func49, Try.ntmps49
    go_wp2_with fail
    go_ret
    exact ⟨by rw [hr.out]; rfl, hbb⟩

set_option maxRecDepth 100000 in
set_option maxHeartbeats 1000000 in
theorem rSSame_any {E G : Option Addr} {cap cap2 : Nat} (f f2 : Int) (cs ds : List Ce) (w : World) (h : SlD w E cap cs) (h2 : SlD w G cap2 ds) :
    Calls Try.prog 50 #[cv f E cs.length cap, cv f2 G ds.length cap2] w fun e w' => e = .returned (.bool (ssame (f, cs) (f2, ds))) ∧ Below w.heap.size w w' := by
  have hmax := h.len_le
  have hmax2 := h2.len_le
  unfold maxLen at hmax hmax2
  have hbb := bel_alloc (below_new w (.cells #[.int .i64 f, .slice E cs.length cap] 77)) (.cells #[.int .i64 f2, .slice G ds.length cap2] 77)
  by_cases hf : f = f2
  · subst hf
    have hsr := Lib.hid (ssame_eq (f := f) (l := cs) (m := ds))
    have hfb : (f != f) = false := by simp
    by_cases hl : cs.length = ds.length
    · have HL := Lib.hid hl
      have hlb : ((cs.length : Int) != (ds.length : Int)) = false := by simp [hl]
      have hle1 : cs.length ≤ ds.length := by omega
      have hle2 : ds.length ≤ cs.length := by omega
      have hB1 := (Blk.new w 77 #[.int .i64 f, .slice E cs.length cap]).alloc (.cells #[.int .i64 f, .slice G ds.length cap2] 77)
      have hB2 := Blk.newAt (w := w.alloc (.cells #[.int .i64 f, .slice E cs.length cap] 77)) (g := w.heap.size + 1) (by simp) 77 #[.int .i64 f, .slice G ds.length cap2]
      clear hl
      go_enter Try.func50, Try.ntmps50
      go_wp2_with fail
      go_loopw [5] (fun x wr => ∃ k : Nat, k ≤ cs.length ∧ x = .int .i64 k ∧ Hid (cs.take k = ds.take k) ∧ Below w.heap.size w wr ∧ Blk wr w.heap.size 77 #[.int .i64 f, .slice E cs.length cap] ∧ Blk wr (w.heap.size + 1) 77 #[.int .i64 f, .slice G ds.length cap2]) (fun x w => cs.length - (intOf x).toNat)
      case atStart => exact ⟨0, Nat.zero_le _, rfl, (show _ = _ from by simp), hbb, hB1, hB2⟩
      case round =>
        obtain ⟨k, hk, rfl, hall, hbr, hBr1, hBr2⟩ := hrel
        obtain ⟨a0, a1, _, _⟩ := hBr1.two
        obtain ⟨b0, b1, _, _⟩ := hBr2.two
        by_cases hlt : k < cs.length
        · have hlt2 : k < ds.length := by omega
          obtain ⟨ad, b, o, rfl, had, hcc⟩ := (h.below hbr).atS (f := df) (fun _ => rfl) (by decide) hlt
          obtain ⟨ad2, b2, o2, rfl, had2, hdd⟩ := (h2.below hbr).atS (f := df) (fun _ => rfl) (by decide) hlt2
          have hc0 := hcc 0 _ rfl
          have hc1 := hcc 1 _ rfl
          have hd0 := hdd 0 _ rfl
          have hd1 := hdd 1 _ rfl
          clear hcc hdd
          have hnx := Lib.hid (take_succ_eq hall.out hlt hlt2)
          have hno := Lib.hid (take_ne hlt hlt2)
          generalize cs[k] = x at *
          generalize ds[k] = y at *
          obtain ⟨kk, d⟩ := x
          obtain ⟨kk2, d2⟩ := y
          dsimp only at *
          rw [Nat.add_zero] at hc0 hd0
          have hnn := neq_dv kk kk2 d d2
          cases hs : same (kk, d) (kk2, d2)
          · have he : ((kk, d) : Ce) ≠ (kk2, d2) := by intro he; rw [same_iff.2 he] at hs; cases hs
            have hr := Lib.hid (hno.out he)
            rw [hs] at hnn
            clear he hs hno hnx
            go_wp2_with fail
            go_quiet (fail)
            go_wp2_with fail
            go_ret
            exact ⟨by rw [hsr.out, hr.out]; rfl, below_drewN hbr _⟩
          · have hr := Lib.hid (hnx.out.2 (same_iff.1 hs))
            rw [hs] at hnn
            clear hs hno hnx
            go_wp2_with fail
            go_quiet (fail)
            go_wp2_with fail
            go_roundw
            case rel => exact ⟨k + 1, hlt, by go_num, hr, below_drewN hbr _, hBr1.drewN _, hBr2.drewN _⟩
            case measure => simp [intOf]; omega
        · go_wp2_with fail
          go_ret
          have h5 := hall.out
          rw [List.take_of_length_le (by omega), List.take_of_length_le (by omega)] at h5
          exact ⟨by rw [hsr.out, decide_eq_true h5]; rfl, hbr⟩
    · have hlb : ((cs.length : Int) != (ds.length : Int)) = true := by simp; omega
      have hr := Lib.hid (len_ne hl)
      clear hl
      go_enter Try.func50, Try.ntmps50
      go_wp2_with fail
      go_ret
      exact ⟨by rw [hsr.out, hr.out]; rfl, hbb⟩
  · have hfb : (f != f2) = true := by simpa using hf
    have hr := Lib.hid (ssame_ne (l := cs) (m := ds) hf)
    clear hf
    go_enter Try.func50, Try.ntmps50
    go_wp2_with fail
    go_ret
    exact ⟨by rw [hr.out]; rfl, hbb⟩
end Go.Proofs.Ytjkdnnekagcdhaa

namespace Go.Proofs.Ytjkdnnekagcdhaa
open Go.RowKit
attribute [local go_sem ↓] Go.wp_at_zero Go.wp_at_succ

theorem res_sg1 {fn : Func} {a : Nat} {tmps : Array Value} {w : World} {g : Nat} {x y : Value} (hres : fn.results = #[.cell a 75]) (ha : tmps.getD a undef = .pointer (some ⟨g, 0, none⟩)) (hB : Blk w g 75 #[x, y]) :
    (results fn tmps).run Try.prog w = .ok (.agg #[x, y]) w := by
  obtain ⟨b0, b1, _, _⟩ := hB.two
  have ha' : tmps[a]?.getD undef = .pointer (some ⟨g, 0, none⟩) := by simpa using ha
  simp [results, hres, go_sem, b0, b1, ha']
theorem res_rg1 {fn : Func} {a : Nat} {tmps : Array Value} {w : World} {g : Nat} {x y : Value} (hres : fn.results = #[.cell a 77]) (ha : tmps.getD a undef = .pointer (some ⟨g, 0, none⟩)) (hB : Blk w g 77 #[x, y]) :
    (results fn tmps).run Try.prog w = .ok (.agg #[x, y]) w := by
  obtain ⟨b0, b1, _, _⟩ := hB.two
  have ha' : tmps[a]?.getD undef = .pointer (some ⟨g, 0, none⟩) := by simpa using ha
  simp [results, hres, go_sem, b0, b1, ha']
theorem res_sg2 {fn : Func} {a b : Nat} {tmps : Array Value} {w : World} {g : Nat} {x y : Value} (hres : fn.results = #[.cell a 75, .tmp b]) (ha : tmps.getD a undef = .pointer (some ⟨g, 0, none⟩)) (hB : Blk w g 75 #[x, y]) :
    (results fn tmps).run Try.prog w = .ok (.tuple #[.agg #[x, y], tmps.getD b undef]) w := by
  obtain ⟨b0, b1, _, _⟩ := hB.two
  have ha' : tmps[a]?.getD undef = .pointer (some ⟨g, 0, none⟩) := by simpa using ha
  simp [results, hres, go_sem, b0, b1, ha']
theorem res_rg2 {fn : Func} {a b : Nat} {tmps : Array Value} {w : World} {g : Nat} {x y : Value} (hres : fn.results = #[.cell a 77, .tmp b]) (ha : tmps.getD a undef = .pointer (some ⟨g, 0, none⟩)) (hB : Blk w g 77 #[x, y]) :
    (results fn tmps).run Try.prog w = .ok (.tuple #[.agg #[x, y], tmps.getD b undef]) w := by
  obtain ⟨b0, b1, _, _⟩ := hB.two
  have ha' : tmps[a]?.getD undef = .pointer (some ⟨g, 0, none⟩) := by simpa using ha
  simp [results, hres, go_sem, b0, b1, ha']
theorem Blk.far2 {w : World} {g g' : Nat} {t : TypeId} {cs : Array Value} (h : Blk w g t cs) (hne : g ≠ g') (u v : Value) : Blk ((w.setCell ⟨g', 0, none⟩ u).setCell ⟨g', 1, none⟩ v) g t cs := (h.far hne u).far hne v
theorem Own.set2 {w : World} {base : Nat} {e : TypeId} {size n c : Nat} {A : Option Addr} {xs : List Value} (h : Own w base e size A n c xs) {g : Nat} (hg : g < base) (u v : Value) : Own ((w.setCell ⟨g, 0, none⟩ u).setCell ⟨g, 1, none⟩ v) base e size A n c xs :=
  ownsRow_setCell_below (a := ⟨g, 1, none⟩) (ownsRow_setCell_below (a := ⟨g, 0, none⟩) h hg u) hg v
theorem gen0 {T R : World → Prop} {W : World} (hT : T W) (k : ∀ W, T W → R W) : R W := k W hT

set_option maxRecDepth 100000 in
set_option maxHeartbeats 1000000 in
theorem Doc14_any {E : Option Addr} {cap : Nat} (f : Int) (cs : List CeV) (w : World) (h : SlC w E cap cs) (hl : cs.length ≤ 1000000) :
    Calls Try.prog 42 #[cv f E cs.length cap] w fun e w' => ∃ A c m, e = .returned (cv f A (List.length m) c) ∧ Hid (m = cs.map ceOf) ∧ SlD w' A c m ∧ Below w.heap.size w w' := by
  have hB0 := (Blk.new w 75 #[.int .i64 f, .slice E cs.length cap]).alloc (.cells #[.int .i64 0, .slice none 0 0] 77)
  have hB1 := Blk.newAt (w := w.alloc (.cells #[.int .i64 f, .slice E cs.length cap] 75)) (g := w.heap.size + 1) (by simp) 77 #[.int .i64 0, .slice none 0 0]
  have hbw := bel_alloc (below_new w (.cells #[.int .i64 f, .slice E cs.length cap] 75)) (.cells #[.int .i64 0, .slice none 0 0] 77)
  go_enter Try.func42, Try.ntmps42
  go_upto_region 1 with (fail)
  have hst : Blk ((w.alloc (.cells #[.int .i64 f, .slice E cs.length cap] 75)).alloc (.cells #[.int .i64 0, .slice none 0 0] 77)).drew w.heap.size 75 #[.int .i64 f, .slice E cs.length cap] ∧ Below w.heap.size w ((w.alloc (.cells #[.int .i64 f, .slice E cs.length cap] 75)).alloc (.cells #[.int .i64 0, .slice none 0 0] 77)).drew := ⟨hB0, hbw.drew⟩
  have hst1 : Blk ((w.alloc (.cells #[.int .i64 f, .slice E cs.length cap] 75)).alloc (.cells #[.int .i64 0, .slice none 0 0] 77)).drew (w.heap.size + 1) 77 #[.int .i64 0, .slice none 0 0] := hB1
  clear hB0 hB1 hbw
  refine wp_region_held_drew (S := (fun W => Blk W w.heap.size 75 #[.int .i64 f, .slice E cs.length cap] ∧ Below w.heap.size w W)) (by kernel_rfl) ?_ (fun hHeld => ?_)
  · exact hst
  refine gen0 (T := fun W => ((fun W => Blk W w.heap.size 75 #[.int .i64 f, .slice E cs.length cap] ∧ Below w.heap.size w W)) W ∧ Blk W (w.heap.size + 1) 77 #[.int .i64 0, .slice none 0 0] ∧ True) ?_ (fun wq1 hT => ?_)
  · exact ⟨by (first | exact hst | exact ⟨hHeld.1.below hb9, bel_call hHeld.2 hb9⟩ | exact ⟨Blk.far2 hHeld.1 (by omega) _ _, bel_set (bel_set hHeld.2 (by dsimp only; omega) _) (by dsimp only; omega) _⟩), by (first | assumption | exact f0.below hb9 | exact ho9.more f0.lt | exact Blk.set2 f0 _ _ | exact Own.set2 f1 (by omega) _ _), trivial⟩
  (try clear f0 f1 f2 f3 f4 f5 f6 f7 f8 f9 f10 f11)
  obtain ⟨hHeld, f0, -⟩ := hT
  refine wpAnyH_take (i := 0) (oi := ⟨some 3, _, _, _, _, _⟩) (v := ?_) rfl (by kernel_rfl) (by kernel_rfl) (by kernel_rfl) (fun _ _ _ h => h) (Or.inl ⟨by kernel_rfl, ?_⟩) (by assumption) ?_
  rotate_left
  · (intro wS hSw; (try dsimp only at hSw); obtain ⟨q0, q1, _, _⟩ := hSw.1.two; clear hSw; go_simp; (try with_reducible rfl))
  (try simp only [Act.put, List.setIfInBounds_toArray, List.set_cons_zero, List.set_cons_succ])
  refine wpAnyH_take (i := 1) (oi := ⟨some 4, _, _, _, _, _⟩) (v := ?_) rfl (by kernel_rfl) (by kernel_rfl) (by kernel_rfl) (fun _ _ _ h => h) (Or.inl ⟨by kernel_rfl, ?_⟩) (by assumption) ?_
  rotate_left
  · (intro wS hSw; (try dsimp only at hSw); obtain ⟨q0, q1, _, _⟩ := hSw.1.two; clear hSw; go_simp; (try with_reducible rfl))
  (try simp only [Act.put, List.setIfInBounds_toArray, List.set_cons_zero, List.set_cons_succ])
  refine wpAnyH_take (i := 2) (oi := ⟨some 5, _, _, _, _, _⟩) (v := ?_) rfl (by kernel_rfl) (by kernel_rfl) (by kernel_rfl) (fun _ _ _ h => h) (Or.inl ⟨by kernel_rfl, ?_⟩) (by assumption) ?_
  rotate_left
  · (intro wS hSw; (try dsimp only at hSw); obtain ⟨q0, q1, _, _⟩ := hSw.1.two; clear hSw; go_simp; (try with_reducible rfl))
  (try simp only [Act.put, List.setIfInBounds_toArray, List.set_cons_zero, List.set_cons_succ])
  refine wpAnyH_take (i := 3) (oi := ⟨some 6, _, _, _, _, _⟩) (v := ?_) rfl (by kernel_rfl) (by kernel_rfl) (by kernel_rfl) (fun _ _ _ h => h) (Or.inl ⟨by kernel_rfl, ?_⟩) (by assumption) ?_
  rotate_left
  · (intro wS hSw; (try dsimp only at hSw); obtain ⟨q0, q1, _, _⟩ := hSw.1.two; clear hSw; go_simp; (try with_reducible rfl))
  (try simp only [Act.put, List.setIfInBounds_toArray, List.set_cons_zero, List.set_cons_succ])
  refine wpAnyH_ready (rs := [4]) (by kernel_rfl) (by simp) ?_
  refine AllReadyH.cons (o := ⟨some 7, _, _, _, _, _⟩) rfl (fun K hK => ?_) AllReadyH.nil
  go_simp
  (refine (Documents_own cs _ (h.below hHeld.2) hl).mono ?_; rintro e w9 ⟨A9, c9, m9, rfl, hm9, ho9, hb9⟩)
  go_wp2_with fail
  refine hK.out _ _ ?_ (fun _ => ?_)
  · ((try dsimp only); (first | exact hst | exact ⟨hHeld.1.below hb9, bel_call hHeld.2 hb9⟩ | exact ⟨Blk.far2 hHeld.1 (by omega) _ _, bel_set (bel_set hHeld.2 (by dsimp only; omega) _) (by dsimp only; omega) _⟩))
  clear hK K
  (try simp only [Act.put, List.setIfInBounds_toArray, List.set_cons_zero, List.set_cons_succ])
  refine gen0 (T := fun W => ((fun W => Blk W w.heap.size 75 #[.int .i64 f, .slice E cs.length cap] ∧ Below w.heap.size w W)) W ∧ Blk W (w.heap.size + 1) 77 #[.int .i64 0, .slice none 0 0] ∧ Own W (w.heap.size + 2) 29 2 A9 m9.length c9 (m9.flatMap df) ∧ True) ?_ (fun wq2 hT => ?_)
  · exact ⟨by (first | exact hst | exact ⟨hHeld.1.below hb9, bel_call hHeld.2 hb9⟩ | exact ⟨Blk.far2 hHeld.1 (by omega) _ _, bel_set (bel_set hHeld.2 (by dsimp only; omega) _) (by dsimp only; omega) _⟩), by (first | assumption | exact f0.below hb9 | exact ho9.more f0.lt | exact Blk.set2 f0 _ _ | exact Own.set2 f1 (by omega) _ _), by (first | assumption | exact f0.below hb9 | exact ho9.more f0.lt | exact Blk.set2 f0 _ _ | exact Own.set2 f1 (by omega) _ _), trivial⟩
  (try clear f0 f1 f2 f3 f4 f5 f6 f7 f8 f9 f10 f11)
  obtain ⟨hHeld, f0, f1, -⟩ := hT
  refine wpAnyH_take (i := 5) (oi := ⟨some 8, _, _, _, _, _⟩) (v := ?_) rfl (by kernel_rfl) (by kernel_rfl) (by kernel_rfl) (fun _ _ _ h => h) (Or.inl ⟨by kernel_rfl, ?_⟩) (by assumption) ?_
  rotate_left
  · (intro wS hSw; (try dsimp only at hSw); obtain ⟨q0, q1, _, _⟩ := hSw.1.two; clear hSw; go_simp; (try with_reducible rfl))
  (try simp only [Act.put, List.setIfInBounds_toArray, List.set_cons_zero, List.set_cons_succ])
  refine wpAnyH_ready (rs := [6]) (by kernel_rfl) (by simp) ?_
  refine AllReadyH.cons (o := ⟨none, _, _, _, _, _⟩) rfl (fun K hK => ?_) AllReadyH.nil
  obtain ⟨s0, s1, sf0, sf1⟩ := f0.two
  go_simp
  refine hK.out _ _ ?_ (fun _ => ?_)
  · ((try dsimp only); (first | exact hst | exact ⟨hHeld.1.below hb9, bel_call hHeld.2 hb9⟩ | exact ⟨Blk.far2 hHeld.1 (by omega) _ _, bel_set (bel_set hHeld.2 (by dsimp only; omega) _) (by dsimp only; omega) _⟩))
  clear hK K
  (try simp only [Act.put, List.setIfInBounds_toArray, List.set_cons_zero, List.set_cons_succ])
  refine gen0 (T := fun W => ((fun W => Blk W w.heap.size 75 #[.int .i64 f, .slice E cs.length cap] ∧ Below w.heap.size w W)) W ∧ Own W (w.heap.size + 2) 29 2 A9 m9.length c9 (m9.flatMap df) ∧ Blk W (w.heap.size + 1) 77 #[.int .i64 f, .slice A9 m9.length c9] ∧ True) ?_ (fun wq3 hT => ?_)
  · exact ⟨by (first | exact hst | exact ⟨hHeld.1.below hb9, bel_call hHeld.2 hb9⟩ | exact ⟨Blk.far2 hHeld.1 (by omega) _ _, bel_set (bel_set hHeld.2 (by dsimp only; omega) _) (by dsimp only; omega) _⟩), by (first | assumption | exact f0.below hb9 | exact ho9.more f0.lt | exact Blk.set2 f0 _ _ | exact Own.set2 f1 (by omega) _ _), by (first | assumption | exact f0.below hb9 | exact ho9.more f0.lt | exact Blk.set2 f0 _ _ | exact Own.set2 f1 (by omega) _ _), trivial⟩
  (try clear f0 f1 f2 f3 f4 f5 f6 f7 f8 f9 f10 f11)
  obtain ⟨hHeld, f0, f1, -⟩ := hT
  refine wpAnyH_done (by kernel_rfl) ?_ _
  go_wp2_with fail
  exact bodyPost_ret (res_rg1 rfl rfl (g := w.heap.size + 1) f1) rfl ⟨A9, c9, m9, rfl, hm9, f0.sl, hHeld.2⟩
end Go.Proofs.Ytjkdnnekagcdhaa
