/- WHAT IT HOLDS: the document's Run, walked. | WHAT IT HOLDS: arguments that are cells, and slices of cells, opened to the words of Kit. | WHAT IS PROVED: the statement CellRuns: for every input the law returns true. No condition. | WHAT IT HOLDS: segments, plainly (no program). | WHAT IT HOLDS: Check of segments, the program's and the document's, walked. | WHAT IT HOLDS: the document's Check of segments, and both Same, walked. | WHAT IT HOLDS: Same of segments, the program's and the document's, walked. | WHAT IT HOLDS: a segment as the document's, and a segment's copy, walked. | WHAT IT HOLDS: a segment's copy, walked; append of cells at a step of a region that draws. | WHAT IT HOLDS: a row of the call's own, written in place; rows of other types beside it. -/
import Derived.Test.YtabnndjdkjkciaaGreatDoorManifestBackG06
import Derived.Test.YtabnndjdkjkciaaGreatDoorManifestBackG05
import Derived.BigQuiet
import Derived.Deep.QuietTactic
import Derived.Test.YtabnndjdkjkciaaGreatDoorManifestBackG04
namespace Go.Proofs.YtabnndjdkjkciaaGreatDoor
open Go.RowKit
attribute [local go_sem ↓] Go.wp_at_zero Go.wp_at_succ

end Go.Proofs.YtabnndjdkjkciaaGreatDoor

namespace Go.Proofs.YtabnndjdkjkciaaGreatDoor
open Go.ChangeShapes Go.WideShapes Go.ChangeAt Go.RowKit Go.Deep

section
variable {H : Type} {enc : TypeId × Value → H} {P : Program} {w : World} {base b0 : Nat} {held : Bool} {r : Reach} {t e b : TypeId} {v : Value} {d : DataW H} {p : List MemPlace}
theorem bytes_cell {n : Nat} {y : DataW H × List MemPlace} (ht : P.underlying t = some (.slice e)) (he : P.underlying e = some (.int .u8)) (hC : P.cellsOf e = 1) (h : DataW.trod enc P w base (fun _ => true) held n t [v] = some y) :
    ∃ (A : Option Addr) (c : Nat) (l : List UInt8), v = .slice A l.length c ∧ SlB w A c l := by
  rcases open_ints ht he hC h with ⟨hcs, _⟩ | ⟨x, l, c', zs, hcs, _, hl, hm, hz, _, hcell, hwz⟩
  · simp at hcs
    subst hcs
    exact ⟨none, 0, [], rfl, Sl.none_ _ _⟩
  · simp at hcs
    subst hcs
    simp only [if_true] at hz
    have hs := row_reads hl hm hz hcell
    have hw : ∀ z ∈ zs.take l, (Lit.int .u8 z).wf = true := fun z hz => hwz z (List.mem_of_mem_take hz)
    have hm : (zs.take l).map (Value.int .u8) = bvs ((zs.take l).map fun z => UInt8.ofNat z.toNat) := by
      rw [bvs, List.map_map]
      refine List.map_congr_left fun z hz => ?_
      have hb := bounds_u8 (hw z hz)
      simp only [Function.comp, bv, UInt8.toNat_ofNat']
      congr 1
      omega
    rw [hm] at hs
    have hlen : ((zs.take l).map fun z => UInt8.ofNat z.toNat).length = l := by simp; omega
    refine ⟨some x, c', (zs.take l).map fun z => UInt8.ofNat z.toNat, by rw [hlen], ?_⟩
    show Sl w 1 _ (List.map _ _).length c' _
    rw [hlen]
    exact hs
end
end Go.Proofs.YtabnndjdkjkciaaGreatDoor

namespace Go.Proofs.YtabnndjdkjkciaaGreatDoor
open Go.ChangeShapes Go.WideShapes Go.ChangeAt Go.RowKit
attribute [local go_sem ↓] Go.wp_at_zero Go.wp_at_succ

theorem rchk_zero : ∀ {l : List Ce}, rchk l = 0 → ∀ c ∈ l, cchk c = 0
  | [], _, c, hc => by simp at hc
  | x :: l, h, c, hc => by
    by_cases hx : cchk x = 0
    · have h2 : rchk l = 0 := by simpa [rchk, hx] using h
      rcases List.mem_cons.mp hc with rfl | hc
      · exact hx
      · exact rchk_zero h2 c hc
    · simp [rchk, hx] at h

theorem rgo_len : ∀ (l : List Ce) (prev : Option Int) (last : List UInt8), (∀ c ∈ l, cchk c = 0) → (rgo prev last l).length ≤ 100 * l.length
  | [], _, _, _ => by rw [rgo]; simp
  | c :: r, prev, last, h => by
    have hc := (cchk_ok (h c (by simp))).2.2.1
    have hr := fun prev last => rgo_len r prev last (fun c hc => h c (by simp [hc]))
    rw [rgo]
    simp only [List.length_cons]
    split
    · have := hr (some 1) c.2
      simp
      omega
    · split
      · have := hr (some c.1) last
        omega
      · have := hr (some c.1) last
        simp
        omega

namespace CellRuns
end CellRuns
end Go.Proofs.YtabnndjdkjkciaaGreatDoor

namespace Go.Proofs.YtabnndjdkjkciaaGreatDoor
open Go.RowKit

/-- a segment: its first address, its cells -/
abbrev Sg := Int × List Ce
/-- an error's number -/
def schk (s : Sg) : Nat := if s.1 < 0 ∨ 1048576 < s.1 then 1 else if 64 < s.2.length then 3 else if 1048576 < s.1 + s.2.length then 1 else rchk s.2
theorem schk_ok {s : Sg} (h : schk s = 0) : 0 ≤ s.1 ∧ s.1 ≤ 1048576 ∧ s.2.length ≤ 64 ∧ s.1 + s.2.length ≤ 1048576 ∧ rchk s.2 = 0 := by
  unfold schk at h
  by_cases h1 : s.1 < 0 ∨ 1048576 < s.1
  · rw [if_pos h1] at h; simp at h
  rw [if_neg h1] at h
  by_cases h2 : 64 < s.2.length
  · rw [if_pos h2] at h; simp at h
  rw [if_neg h2] at h
  by_cases h3 : 1048576 < s.1 + s.2.length
  · rw [if_pos h3] at h; simp at h
  rw [if_neg h3] at h
  exact ⟨by omega, by omega, by omega, by omega, h⟩
theorem schk_range {s : Sg} (h : s.1 < 0 ∨ 1048576 < s.1) : schk s = 1 := by unfold schk; rw [if_pos h]
theorem schk_long {s : Sg} (h : ¬ (s.1 < 0 ∨ 1048576 < s.1)) (h2 : 64 < s.2.length) : schk s = 3 := by unfold schk; rw [if_neg h, if_pos h2]
theorem schk_far {s : Sg} (h : ¬ (s.1 < 0 ∨ 1048576 < s.1)) (h2 : ¬ 64 < s.2.length) (h3 : 1048576 < s.1 + s.2.length) : schk s = 1 := by unfold schk; rw [if_neg h, if_neg h2, if_pos h3]
theorem schk_cells {s : Sg} (h : ¬ (s.1 < 0 ∨ 1048576 < s.1)) (h2 : ¬ 64 < s.2.length) (h3 : ¬ 1048576 < s.1 + s.2.length) : schk s = rchk s.2 := by unfold schk; rw [if_neg h, if_neg h2, if_neg h3]
end Go.Proofs.YtabnndjdkjkciaaGreatDoor

namespace Go.Proofs.YtabnndjdkjkciaaGreatDoor
open Go.RowKit
attribute [local go_sem ↓] Go.wp_at_zero Go.wp_at_succ

set_option maxRecDepth 100000 in
set_option maxHeartbeats 400000 in
theorem SEnd_any (f : Int) (E : Option Addr) (n c : Nat) (w : World) (h0 : 0 ≤ f) (h1 : f ≤ 1048576) (h2 : n ≤ 100000000) :
    Calls Tryz.prog 161 #[cv f E n c] w fun e w' => e = .returned (.int .i64 (f + (n : Int))) ∧ Below w.heap.size w w' := by
  have hbw := below_new w (.cells #[.int .i64 f, .slice E n c] 24)
  go_enter Tryz.func161, Tryz.ntmps161
  go_wp2_with fail
  go_ret
  exact ⟨rfl, hbw⟩

set_option maxRecDepth 100000 in
set_option maxHeartbeats 1000000 in
theorem SCheck_any {E : Option Addr} {cap : Nat} (f : Int) (cs : List CeV) (w : World) (h : SlC w E cap cs) :
    Calls Tryz.prog 106 #[cv f E cs.length cap] w fun e w' => e = .returned (errv (schk (f, cs.map ceOf))) ∧ Below w.heap.size w w' := by
  have hmax := h.1.len_le
  unfold maxLen at hmax
  have hbw := below_new w (.cells #[.int .i64 f, .slice E cs.length cap] 24)
  have hB := Blk.new w 24 #[.int .i64 f, .slice E cs.length cap]
  by_cases h1 : f < 0
  · have hc := Lib.hid (schk_range (s := (f, cs.map ceOf)) (.inl h1))
    go_enter Tryz.func106, Tryz.ntmps106
    go_wp2_with fail
    go_ret
    exact ⟨by rw [hc.out]; rfl, hbw⟩
  by_cases h2 : 1048576 < f
  · have hc := Lib.hid (schk_range (s := (f, cs.map ceOf)) (.inr h2))
    go_enter Tryz.func106, Tryz.ntmps106
    go_wp2_with fail
    go_ret
    exact ⟨by rw [hc.out]; rfl, hbw⟩
  have hr : ¬ (f < 0 ∨ 1048576 < f) := by omega
  by_cases h3 : 64 < cs.length
  · have hc := Lib.hid (schk_long (s := (f, cs.map ceOf)) hr (by simpa using h3))
    clear hr
    go_enter Tryz.func106, Tryz.ntmps106
    go_wp2_with fail
    go_ret
    exact ⟨by rw [hc.out]; rfl, hbw⟩
  by_cases h4 : 1048576 < f + cs.length
  · have hc := Lib.hid (schk_far (s := (f, cs.map ceOf)) hr (by simpa using h3) (by simpa using h4))
    clear hr
    obtain ⟨a0, a1, _, _⟩ := hB.two
    go_enter Tryz.func106, Tryz.ntmps106
    go_wp2_with fail
    refine (SEnd_any f E cs.length cap _ (by omega) (by omega) (by omega)).mono ?_
    rintro e w1 ⟨rfl, hb1⟩
    go_wp2_with fail
    go_ret
    exact ⟨by rw [hc.out]; rfl, bel_call hbw hb1⟩
  have hc := Lib.hid (schk_cells (s := (f, cs.map ceOf)) hr (by simpa using h3) (by simpa using h4))
  clear hr
  obtain ⟨a0, a1, _, _⟩ := hB.two
  go_enter Tryz.func106, Tryz.ntmps106
  go_wp2_with fail
  refine (SEnd_any f E cs.length cap _ (by omega) (by omega) (by omega)).mono ?_
  rintro e w1 ⟨rfl, hb1⟩
  have hw1 := bel_call hbw hb1
  have hB1 := hB.below hb1
  obtain ⟨a0, a1, _, _⟩ := hB1.two
  clear hB hbw hb1 hB1
  go_wp2_with fail
  go_loopw [30] (fun x wr => ∃ k : Nat, k ≤ cs.length ∧ x = .int .i64 k ∧ Hid (∀ c ∈ (cs.map ceOf).take k, cchk c = 0) ∧ Below w.heap.size w wr) (fun x w => cs.length - (intOf x).toNat)
  case atStart => exact ⟨0, Nat.zero_le _, rfl, (fun c hc => by simp at hc), hw1⟩
  case round =>
    obtain ⟨k, hk, rfl, hall, hbr⟩ := hrel
    clear a0 a1
    by_cases hlt : k < cs.length
    · obtain ⟨ad, b, o, rfl, had, hc0, hc1, _⟩ := (h.below hbr).at2 hlt
      have hbad := Lib.hid (rchk_at (l := cs.map ceOf) (k := k) (by simpa using hlt) hall.out)
      have hgood : Hid (cchk ((cs.map ceOf)[k]'(by simpa using hlt)) = 0 → ∀ c ∈ (cs.map ceOf).take (k + 1), cchk c = 0) := (show _ → _ from fun h c hc => by
        rw [List.take_succ_eq_append_getElem (by simpa using hlt), List.mem_append] at hc
        rcases hc with hc | hc
        · exact hall.out c hc
        · simp only [List.mem_singleton] at hc
          rw [hc]; exact h)
      rw [List.getElem_map] at hbad hgood
      generalize cs[k] = x at *
      obtain ⟨kk, A, c, d⟩ := x
      dsimp only [ceOf] at *
      have hC := fun W => CCheck_any (A := A) (c := c) kk d W
      rcases errv_cases (cchk (kk, d)) with ⟨h1, e1⟩ | ⟨n1, p1, q1, e1⟩
      · simp only [e1] at hC
        have C1 := Lib.hid hC
        have hg := Lib.hid (hgood.out h1)
        clear hC h1 e1 hgood hbad
        go_wp2_with fail
        refine (C1.out _).mono ?_
        rintro e w4 ⟨rfl, hb4⟩
        have hn4 := bel_call (bel_alloc hbr (.cells #[.int .i64 kk, .slice A d.length c] 112)) hb4
        go_wp2_with fail
        go_roundw
        case rel => exact ⟨k + 1, hlt, by go_num, hg, hn4⟩
        case measure => simp [intOf]; omega
      · simp only [e1] at hC
        have C1 := Lib.hid hC
        have hr : Hid (rchk (cs.map ceOf) = cchk (kk, d)) := Lib.hid (hbad.out (by omega))
        have E1 := Lib.hid e1
        clear hC hbad hgood e1 q1
        go_wp2_with fail
        refine (C1.out _).mono ?_
        rintro e w4 ⟨rfl, hb4⟩
        have hn4 := bel_call (bel_alloc hbr (.cells #[.int .i64 kk, .slice A d.length c] 112)) hb4
        go_wp2_with fail
        go_ret
        exact ⟨by rw [hc.out]; dsimp only; rw [hr.out, E1.out]; rfl, hn4⟩
    · go_wp2_with fail
      go_ret
      have h5 : rchk (cs.map ceOf) = 0 := rchk_ok fun c hc => hall.out c (by rw [List.take_of_length_le (by simp; omega)]; exact hc)
      exact ⟨by rw [hc.out]; dsimp only; rw [h5]; rfl, hbr⟩
end Go.Proofs.YtabnndjdkjkciaaGreatDoor

namespace Go.Proofs.YtabnndjdkjkciaaGreatDoor
open Go.RowKit
attribute [local go_sem ↓] Go.wp_at_zero Go.wp_at_succ

end Go.Proofs.YtabnndjdkjkciaaGreatDoor

namespace Go.Proofs.YtabnndjdkjkciaaGreatDoor
open Go.RowKit
attribute [local go_sem ↓] Go.wp_at_zero Go.wp_at_succ

def ssame (a b : Sg) : Bool := decide (a = b)
theorem same_iff {a b : Ce} : same a b = true ↔ a = b := by unfold same; exact decide_eq_true_iff
theorem take_ne {xs ys : List Ce} {k : Nat} (hx : k < xs.length) (hy : k < ys.length) (h : xs[k] ≠ ys[k]) : decide (xs = ys) = false := by
  rw [decide_eq_false_iff_not]
  rintro rfl
  exact h rfl
theorem len_ne {xs ys : List Ce} (h : xs.length ≠ ys.length) : decide (xs = ys) = false := by
  rw [decide_eq_false_iff_not]
  rintro rfl
  exact h rfl
set_option maxRecDepth 100000 in
set_option maxHeartbeats 1000000 in
theorem EqualFunc_any {E G : Option Addr} {cap cap2 : Nat} (cs ds : List CeV) (w : World) (h : SlC w E cap cs) (h2 : SlC w G cap2 ds) :
    Calls Tryz.prog 63 #[.slice E cs.length cap, .slice G ds.length cap2, .func (.func 64) #[] #[]] w fun e w' => e = .returned (.bool (decide (cs.map ceOf = ds.map ceOf))) ∧ Below w.heap.size w w' := by
  have hmax := h.1.len_le
  have hmax2 := h2.1.len_le
  unfold maxLen at hmax hmax2
  by_cases hl : cs.length = ds.length
  · have HL := Lib.hid hl
    have hlb : ((cs.length : Int) != (ds.length : Int)) = false := by simp [hl]
    have hle1 : cs.length ≤ ds.length := by omega
    have hle2 : ds.length ≤ cs.length := by omega
    clear hl
    go_enter Tryz.func63, Tryz.ntmps63
    go_wp2_with fail
    go_loopw [17] (fun x wr => ∃ k : Nat, k ≤ cs.length ∧ x = .int .i64 k ∧ Hid ((cs.map ceOf).take k = (ds.map ceOf).take k) ∧ Below w.heap.size w wr) (fun x w => cs.length - (intOf x).toNat)
    case atStart => exact ⟨0, Nat.zero_le _, rfl, (show _ = _ from by simp), Below.refl _ _⟩
    case round =>
      obtain ⟨k, hk, rfl, hall, hbr⟩ := hrel
      by_cases hlt : k < cs.length
      · have hlt2 : k < ds.length := by omega
        obtain ⟨ad, b, o, rfl, had, hc0, hc1, hsx⟩ := (h.below hbr).at2 hlt
        obtain ⟨ad2, b2, o2, rfl, had2, hd0, hd1, hsy⟩ := (h2.below hbr).at2 hlt2
        have hnx := Lib.hid (take_succ_eq hall.out (by simpa using hlt) (by simpa using hlt2))
        have hno := Lib.hid (take_ne (xs := cs.map ceOf) (ys := ds.map ceOf) (k := k) (by simpa using hlt) (by simpa using hlt2))
        rw [List.getElem_map, List.getElem_map] at hnx hno
        generalize cs[k] = x at *
        generalize ds[k] = y at *
        obtain ⟨kk, A, c, d⟩ := x
        obtain ⟨kk2, A2, c2, d2⟩ := y
        dsimp only [ceOf] at *
        have hb2 := bel_alloc (below_new wr (.cells #[.int .i64 kk, .slice A d.length c] 112)) (.cells #[.int .i64 kk2, .slice A2 d2.length c2] 112)
        have hlb2 : b2 < wr.heap.size := World.block_lt_of_cell? wr _ hd0
        have hne2 : b2 ≠ wr.heap.size := by omega
        go_wp2_with fail
        refine (CSame_any kk kk2 d d2 _ (hsx.below hb2) (hsy.below hb2)).mono ?_
        rintro e w4 ⟨rfl, hb4⟩
        have hn4 := bel_call (bel_call hbr hb2) hb4
        cases hs : same (kk, d) (kk2, d2)
        · have he : ((kk, d) : Ce) ≠ (kk2, d2) := by intro he; rw [same_iff.2 he] at hs; cases hs
          have hr := Lib.hid (hno.out he)
          clear he hs hno hnx
          go_wp2_with fail
          go_ret
          exact ⟨by rw [hr.out]; rfl, hn4⟩
        · have hr := Lib.hid (hnx.out.2 (same_iff.1 hs))
          clear hs hno hnx
          go_wp2_with fail
          go_roundw
          case rel => exact ⟨k + 1, hlt, by go_num, hr, hn4⟩
          case measure => simp [intOf]; omega
      · go_wp2_with fail
        go_ret
        have h5 := hall.out
        rw [List.take_of_length_le (by simp; omega), List.take_of_length_le (by simp; omega)] at h5
        exact ⟨by rw [decide_eq_true h5]; rfl, hbr⟩
  · have hlb : ((cs.length : Int) != (ds.length : Int)) = true := by simp; omega
    have hr := Lib.hid (len_ne (xs := cs.map ceOf) (ys := ds.map ceOf) (by simpa using hl))
    clear hl
    go_enter Tryz.func63, Tryz.ntmps63
    go_wp2_with fail
    go_ret
    exact ⟨by rw [hr.out]; rfl, Below.refl _ _⟩

theorem ssame_ne {f f2 : Int} {l m : List Ce} (h : f ≠ f2) : ssame (f, l) (f2, m) = false := by
  unfold ssame
  rw [decide_eq_false_iff_not]
  intro he
  exact h (congrArg Prod.fst he)
theorem ssame_eq {f : Int} {l m : List Ce} : ssame (f, l) (f, m) = decide (l = m) := by
  unfold ssame
  rw [decide_eq_decide]
  exact ⟨fun h => congrArg Prod.snd h, fun h => by rw [h]⟩

set_option maxRecDepth 100000 in
set_option maxHeartbeats 1000000 in
theorem SSame_any {E G : Option Addr} {cap cap2 : Nat} (f f2 : Int) (cs ds : List CeV) (w : World) (h : SlC w E cap cs) (h2 : SlC w G cap2 ds) :
    Calls Tryz.prog 23 #[cv f E cs.length cap, cv f2 G ds.length cap2] w fun e w' => e = .returned (.bool (ssame (f, cs.map ceOf) (f2, ds.map ceOf))) ∧ Below w.heap.size w w' := by
  have hbb := bel_alloc (below_new w (.cells #[.int .i64 f, .slice E cs.length cap] 24)) (.cells #[.int .i64 f2, .slice G ds.length cap2] 24)
  by_cases hf : f = f2
  · subst hf
    have hr := Lib.hid (ssame_eq (f := f) (l := cs.map ceOf) (m := ds.map ceOf))
    go_enter Tryz.func23, Tryz.ntmps23
    go_wp2_with fail
    refine (EqualFunc_any cs ds _ (h.below hbb) (h2.below hbb)).mono ?_
    rintro e w2 ⟨rfl, hb2⟩
    go_wp2_with fail
    go_ret
    exact ⟨by rw [hr.out]; rfl, bel_call hbb hb2⟩
  · have hfb : (f == f2) = false := by simpa using hf
    have hr := Lib.hid (ssame_ne (l := cs.map ceOf) (m := ds.map ceOf) hf)
    clear hf
    go_enter Tryz.func23, Tryz.ntmps23
    go_wp2_with fail
    go_ret
    exact ⟨by rw [hr.out]; rfl, hbb⟩

end Go.Proofs.YtabnndjdkjkciaaGreatDoor

namespace Go.Proofs.YtabnndjdkjkciaaGreatDoor
open Go.RowKit
attribute [local go_sem ↓] Go.wp_at_zero Go.wp_at_succ

theorem res_sg2 {fn : Func} {a b : Nat} {tmps : Array Value} {w : World} {g : Nat} {x y : Value} (hres : fn.results = #[.cell a 24, .tmp b]) (ha : tmps.getD a undef = .pointer (some ⟨g, 0, none⟩)) (hB : Blk w g 24 #[x, y]) :
    (results fn tmps).run Tryz.prog w = .ok (.tuple #[.agg #[x, y], tmps.getD b undef]) w := by
  obtain ⟨b0, b1, _, _⟩ := hB.two
  have ha' : tmps[a]?.getD undef = .pointer (some ⟨g, 0, none⟩) := by simpa using ha
  simp [results, hres, go_sem, b0, b1, ha']
theorem gen0 {T R : World → Prop} {W : World} (hT : T W) (k : ∀ W, T W → R W) : R W := k W hT

end Go.Proofs.YtabnndjdkjkciaaGreatDoor

namespace Go.Proofs.YtabnndjdkjkciaaGreatDoor
open Go.RowKit
attribute [local go_sem ↓] Go.wp_at_zero Go.wp_at_succ

theorem one_cf (l : List CeV) : ∀ u ∈ l.flatMap cf, u.oneCell' = true := by
  intro u hu
  simp only [List.mem_flatMap, List.mem_cons, List.not_mem_nil, or_false] at hu
  obtain ⟨x, _, hx⟩ := hu
  rcases hx with rfl | rfl <;> rfl
theorem step_cells {w : World} {ops : Array Oper} {o : Oper} {a : Act} {K : Act → World → Prop} {Q : Exit → Act → World → Prop} {X : Prop} (hw : Region.wanted o (yielded ops a.tmps) = true) (s x : Operand)
    (ho : o.op = .call { callee := .builtin .append, args := #[s, x], argTypes := #[22, 22] })
    (base : Nat) (A : Option Addr) (c : Nat) (l : List CeV) (hs : a.eval s = .slice A l.length c) (hown : Own w base 112 2 A l.length c (l.flatMap cf))
    (A2 : Option Addr) (c2 n2 : Nat) (l2 : List CeV) (hn2 : n2 = l2.length) (hx : a.eval x = .slice A2 n2 c2) (hr : Sl w 2 A2 l2.length c2 (l2.flatMap cf)) (hlen : l.length + l2.length ≤ 1000000000) (hbase : base ≤ w.heap.size)
    (h : ∀ A' c' (m : List CeV) w', Hid (m = l ++ l2) → Own w' base 112 2 A' m.length c' (m.flatMap cf) → w.grownBy w' (A.map (·.block)) → Below base w w' → K (a.put o.dst (.slice A' m.length c')) w') :
    if Region.wanted o (yielded ops a.tmps) = true then Oper.wp Tryz.prog o a w K Q else X := by
  subst hn2
  obtain ⟨i0, hi, hz0, hz1, hz2⟩ := info_parts cell_info
  refine step_append hw s x 22 ho base 112 i0 _ 2 32 Tryz.underlying22 hi hz0 hz1 hz2 rfl (by decide) A l.length c (l.flatMap cf) hs hown A2 l2.length c2 (l2.flatMap cf) hx hr (one_cf l2) (by omega) (by simp only [maxLen]; omega) hbase ?_
  intro A' c' w' hap
  rw [← List.length_append]
  refine h A' c' (l ++ l2) w' rfl ?_ hap.grown (hap.below hown hbase)
  have := hap.own
  simpa using this
/-- a row of another type is as it was behind an append -/
theorem Own.other {w w' : World} {base base' : Nat} {e e' : TypeId} {size size' n n' c c' : Nat} {A B : Option Addr} {xs ys : List Value} (h : Own w base' e' size' B n' c' ys) (ho : Own w base e size A n c xs) (hg : w.grownBy w' (A.map (·.block))) (hne : e ≠ e') : Own w' base' e' size' B n' c' ys := by
  obtain ⟨h1, h2⟩ := h
  refine ⟨h1, ?_⟩
  rcases h2 with h2 | ⟨g', cap, cur, hv, hb, hh, r⟩
  · exact Or.inl h2
  · refine Or.inr ⟨g', cap, cur, hv, hb, (hg.block g' (Array.getElem?_eq_some_iff.1 hh).1 (fun he => ?_)).trans hh, r⟩
    rcases ho.2 with ⟨hv2, _⟩ | ⟨g2, cap2, cur2, hv2, _, hh2, _⟩
    · injection hv2 with hA
      subst hA
      simp at he
    · injection hv2 with hA
      subst hA
      simp at he
      subst he
      rw [hh] at hh2
      injection hh2 with hh2
      injection hh2 with _ ht
      exact hne ht.symm
theorem Own.set1 {w : World} {base : Nat} {e : TypeId} {size n c : Nat} {A : Option Addr} {xs : List Value} (h : Own w base e size A n c xs) {g i : Nat} (hg : g < base) (u : Value) : Own (w.setCell ⟨g, i, none⟩ u) base e size A n c xs :=
  ownsRow_setCell_below (a := ⟨g, i, none⟩) h hg u

/-- a new segment: a row of its own, bytes of its own -/
def NewS (w' : World) (base : Nat) (A : Option Addr) (c : Nat) (m : List CeV) : Prop := Own w' base 112 2 A m.length c (m.flatMap cf) ∧ ∀ x ∈ m, OwnB w' base 5 x.2.1 x.2.2.1 x.2.2.2
theorem NewS.slc {w' : World} {base : Nat} {A : Option Addr} {c : Nat} {m : List CeV} (h : NewS w' base A c m) : SlC w' A c m := ⟨h.1.sl, fun x hx => (h.2 x hx).sl⟩
theorem NewS.below {w w' : World} {base : Nat} {A : Option Addr} {c : Nat} {m : List CeV} (h : NewS w base A c m) (hb : Below w.heap.size w w') : NewS w' base A c m := ⟨Own.below h.1 hb, fun x hx => Own.below (h.2 x hx) hb⟩
theorem NewS.more {w : World} {base base' : Nat} {A : Option Addr} {c : Nat} {m : List CeV} (h : NewS w base A c m) (hb : base' ≤ base) : NewS w base' A c m := ⟨h.1.more hb, fun x hx => (h.2 x hx).more hb⟩

end Go.Proofs.YtabnndjdkjkciaaGreatDoor

namespace Go.Proofs.YtabnndjdkjkciaaGreatDoor
open Go.RowKit

section
variable {w : World} {base base' : Nat} {e e' : TypeId} {size size' n n' c c' : Nat} {A B : Option Addr} {xs ys : List Value}
/-- where a row of one's own lies -/
theorem Own.row (h : Own w base e size A n c xs) (hn : 0 < xs.length) : ∃ g cur, A = some ⟨g, 0, none⟩ ∧ base ≤ g ∧ w.heap[g]? = some (.cells cur e (0, 0)) ∧ cur.size = c * size ∧ cur.toList.take (n * size) = xs := by
  obtain ⟨h1, h2⟩ := h
  rcases h2 with ⟨_, h0⟩ | ⟨g, cap, cur, hv, hb, hh, _, _, hs, ht⟩
  · rw [h0, Nat.zero_mul] at h1; omega
  · injection hv with hA _ hc
    subst hc
    exact ⟨g, cur, hA, hb, hh, hs, ht⟩
theorem Own.cellAt {g : Nat} (h : Own w base e size (some ⟨g, 0, none⟩) n c xs) {j : Nat} (hj : j < xs.length) : w.cell? ⟨g, j, none⟩ = some xs[j] := by
  obtain ⟨ad, hA, hc⟩ := h.sl.2.2.2.2 j _ (List.getElem?_eq_getElem hj)
  injection hA with hA
  subst hA
  rw [addr_lit] at hc
  simpa using hc
theorem Own.frz {g : Nat} (h : Own w base e size (some ⟨g, 0, none⟩) n c xs) (j : Nat) : w.frozen? ⟨g, j, none⟩ = false := by
  obtain ⟨_, h2⟩ := h
  rcases h2 with ⟨hv, _⟩ | ⟨g2, cap, cur, hv, _, hh, _⟩
  · injection hv with hA; cases hA
  · injection hv with hA
    injection hA with hA
    injection hA with hA
    subst hA
    simp [World.frozen?, hh]
theorem Own.setAt {g : Nat} (h : Own w base e size (some ⟨g, 0, none⟩) n c xs) {j : Nat} (_hj : j < xs.length) (u : Value) : Own (w.setCell ⟨g, j, none⟩ u) base e size (some ⟨g, 0, none⟩) n c (xs.set j u) := by
  obtain ⟨h1, h2⟩ := h
  refine ⟨by simpa using h1, ?_⟩
  rcases h2 with ⟨hv, _⟩ | ⟨g2, cap, cur, hv, hb, hh, hnc, hcm, hs, ht⟩
  · injection hv with hA; cases hA
  · injection hv with hA hn hc
    injection hA with hA
    injection hA with hA
    subst hA
    refine .inr ⟨g, cap, cur.setIfInBounds j u, by rw [hc], hb, heap_setCell_same w g j cur e u hh, hnc, hcm, by simpa using hs, ?_⟩
    rw [Array.toList_setIfInBounds, List.take_set, ht]
theorem Own.setOther (h : Own w base e size A n c xs) {g : Nat} (hg : A.map (·.block) ≠ some g) (i : Nat) (u : Value) : Own (w.setCell ⟨g, i, none⟩ u) base e size A n c xs :=
  ownsRow_setCell_other h (a := ⟨g, i, none⟩) (by rw [ownBlock_slice]; exact hg) u
end
end Go.Proofs.YtabnndjdkjkciaaGreatDoor
