/- WHAT IT HOLDS: arguments that are acts of a disk, opened to the words of Kit. | WHAT IT HOLDS: which scripts of a disk's acts are long, walked. | WHAT IT HOLDS: the law DiskFuses, walked. | WHAT IT HOLDS: the law DiskSyncs, walked. | WHAT IT HOLDS: what a disk keeps of files that no change names, plainly; maps beside a disk in memory. | WHAT IT HOLDS: what opening a store removes, plainly; entries struck out of a map. -/
import Derived.Test.YtddmfoldnlafaaaGreatDoorCursorBackG08
import Derived.Test.YtddmfoldnlafaaaGreatDoorCursorBackG14
import Derived.Test.YtddmfoldnlafaaaGreatDoorCursorBackG13
import Derived.Test.YtddmfoldnlafaaaGreatDoorCursorBackG15
namespace Go.Proofs.YtddmfoldnlafaaaGreatDoor
open Go.ChangeShapes Go.WideShapes Go.ChangeAt Go.RowKit Go.Deep

/-- an act: its kind, its two names, its bytes, its number, what is kept -/
structure DA where
  k : Int
  n : List UInt8
  t : List UInt8
  A : Option Addr
  c : Nat
  l : List UInt8
  f : Int
  B : Option Addr
  kc : Nat
  ks : List Bool
def dac (a : DA) : List Value := [.int .i64 a.k, .string ⟨a.n.toArray⟩, .string ⟨a.t.toArray⟩, .slice a.A a.l.length a.c, .int .i64 a.f, .slice a.B a.ks.length a.kc]
theorem dac_len (a : DA) : (dac a).length = 6 := rfl
def SlZ (w : World) (B : Option Addr) (kc : Nat) (ks : List Bool) : Prop := Sl w 1 B ks.length kc (ks.map Value.bool)
/-- what is so of every act's parts -/
def DAok (w : World) (a : DA) : Prop := SlB w a.A a.c a.l ∧ SlZ w a.B a.kc a.ks ∧ I64 a.k ∧ I64 a.f ∧ a.n.length ≤ maxLen ∧ a.t.length ≤ maxLen
def SlDA (w : World) (A : Option Addr) (c : Nat) (s : List DA) : Prop := Sl w 6 A s.length c (s.flatMap dac) ∧ ∀ a ∈ s, DAok w a
theorem DAok.below {w w' : World} {a : DA} (h : DAok w a) (hb : Below w.heap.size w w') : DAok w' a := ⟨Sl.below h.1 hb, Sl.below h.2.1 hb, h.2.2⟩
theorem SlDA.below {w w' : World} {A : Option Addr} {c : Nat} {s : List DA} (h : SlDA w A c s) (hb : Below w.heap.size w w') : SlDA w' A c s := ⟨h.1.below hb, fun a ha => (h.2 a ha).below hb⟩
section
variable {H : Type} {enc : TypeId × Value → H} {P : Program} {w : World} {base b0 : Nat} {held : Bool} {r : Reach} {t e z b s : TypeId} {v : Value} {d : DataW H} {p : List MemPlace}
theorem bytes_cellD {n : Nat} {y : DataW H × List MemPlace} (ht : P.underlying t = some (.slice e)) (he : P.underlying e = some (.int .u8)) (hC : P.cellsOf e = 1) (h : DataW.trod enc P w base (fun _ => true) held n t [v] = some y) :
    ∃ (A : Option Addr) (c : Nat) (l : List UInt8), v = .slice A l.length c ∧ SlB w A c l := by
  rcases open_ints ht he hC h with ⟨hcs, _⟩ | ⟨x, l, c', zs, hcs, _, hl, hm, hz, _, hcell, hwz⟩
  · simp at hcs
    subst hcs
    exact ⟨none, 0, [], rfl, Sl.none_ _ _⟩
  · simp at hcs
    subst hcs
    simp only [if_true] at hz
    have hs := row_reads hl hm hz hcell
    have hw : ∀ z ∈ zs.take l, (Lit.int .u8 z).wf = true := fun z hz => hwz z (List.mem_of_mem_take hz)
    have hm : (zs.take l).map (Value.int .u8) = bvs ((zs.take l).map fun z => UInt8.ofNat z.toNat) := by
      rw [bvs, List.map_map]
      refine List.map_congr_left fun z hz => ?_
      have hb := bounds_u8 (hw z hz)
      simp only [Function.comp, bv, UInt8.toNat_ofNat']
      congr 1
      omega
    rw [hm] at hs
    have hlen : ((zs.take l).map fun z => UInt8.ofNat z.toNat).length = l := by simp; omega
    refine ⟨some x, c', (zs.take l).map fun z => UInt8.ofNat z.toNat, by rw [hlen], ?_⟩
    show Sl w 1 _ (List.map _ _).length c' _
    rw [hlen]
    exact hs
theorem bools_cell {n : Nat} {y : DataW H × List MemPlace} (ht : P.underlying t = some (.slice z)) (he : P.underlying z = some .bool) (hC : P.cellsOf z = 1) (h : DataW.trod enc P w base (fun _ => true) held n t [v] = some y) :
    ∃ (A : Option Addr) (c : Nat) (l : List Bool), v = .slice A l.length c ∧ SlZ w A c l := by
  rcases open_slice1 ht hC h with ⟨hcs, _⟩ | ⟨a, len, cap, m, nn, V, D, Pl, hcs, _, hl, hm, hmm, _, hi⟩
  · simp at hcs
    subst hcs
    exact ⟨none, 0, [], rfl, Sl.none_ _ _⟩
  · simp at hcs
    subst hcs
    simp only [if_true] at hmm
    obtain ⟨l, hll, hlr⟩ := list_choice (fun i b => w.cell? (a.add i) = some (.bool b)) len fun i hi' => by
      obtain ⟨h1, h2⟩ := hi i (by omega)
      obtain ⟨b, hb, _⟩ := DataW.trod_bool he h2
      simp at hb
      exact ⟨b, by rw [h1, hb]⟩
    refine ⟨some a, cap, l, by rw [hll], by simp, by omega, hm, (fun h => by cases h), fun j u hj => ⟨a, rfl, ?_⟩⟩
    obtain ⟨hjl, rfl⟩ := List.getElem?_eq_some_iff.1 hj
    rw [List.length_map] at hjl
    rw [List.getElem_map]
    exact hlr j hjl
theorem string_cell {n : Nat} {y : DataW H × List MemPlace} (ht : P.underlying t = some .string) (h : DataW.trod enc P w base (fun _ => true) held n t [v] = some y) :
    ∃ l : List UInt8, v = .string ⟨l.toArray⟩ ∧ l.length ≤ maxLen := by
  obtain ⟨s, hs, _, hz⟩ := DataW.trod_string ht h
  simp at hs
  subst hs
  exact ⟨s.data.toList, rfl, hz⟩
theorem open_dacts {f0 f1 f2 f3 f4 f5 : Field} (ht : P.underlying t = some (.slice b)) (hs : P.underlying b = some (.struct #[f0, f1, f2, f3, f4, f5])) (h0 : P.underlying f0.type = some (.int .i64)) (h1 : P.underlying f1.type = some .string) (h2 : P.underlying f2.type = some .string) (h3 : P.underlying f3.type = some (.slice e)) (h4 : P.underlying f4.type = some (.int .i64)) (h5 : P.underlying f5.type = some (.slice z))
    (he : P.underlying e = some (.int .u8)) (hz : P.underlying z = some .bool) (hCe : P.cellsOf e = 1) (hCz : P.cellsOf z = 1) (hone : oneCellFields P #[f0, f1, f2, f3, f4, f5] = true) (hC : P.cellsOf b = 6) (hv : Value.okWide P w r b0 t v) (h : DataW.Trod enc P w base (fun _ => true) held t v d p) :
    ∃ (A : Option Addr) (c : Nat) (l : List DA), v = .slice A l.length c ∧ SlDA w A c l := by
  obtain ⟨A, c, l, rfl, hl, hq⟩ := open_structs dac (DAok w) (fun _ => rfl) ht hs hone hC (by
    intro vs hl hf
    obtain ⟨u0, n0, y0, e0, t0⟩ := hf 0 f0 rfl
    obtain ⟨u1, n1, y1, e1, t1⟩ := hf 1 f1 rfl
    obtain ⟨u2, n2, y2, e2, t2⟩ := hf 2 f2 rfl
    obtain ⟨u3, n3, y3, e3, t3⟩ := hf 3 f3 rfl
    obtain ⟨u4, n4, y4, e4, t4⟩ := hf 4 f4 rfl
    obtain ⟨u5, n5, y5, e5, t5⟩ := hf 5 f5 rfl
    obtain ⟨k, rfl, hk⟩ := int_cell h0 t0
    obtain ⟨nm, rfl, hn⟩ := string_cell h1 t1
    obtain ⟨tw, rfl, ht⟩ := string_cell h2 t2
    obtain ⟨A, c, l, rfl, hb⟩ := bytes_cellD h3 he hCe t3
    obtain ⟨f, rfl, hfi⟩ := int_cell h4 t4
    obtain ⟨B, kc, ks, rfl, hks⟩ := bools_cell h5 hz hCz t5
    match vs, hl with
    | [x0, x1, x2, x3, x4, x5], _ =>
      simp at e0 e1 e2 e3 e4 e5
      exact ⟨⟨k, nm, tw, A, c, l, f, B, kc, ks⟩, by simp [dac, e0, e1, e2, e3, e4, e5], hb, hks, hk, hfi, hn, ht⟩) hv h
  exact ⟨A, c, l, rfl, hl, hq⟩
theorem open_bools (ht : P.underlying t = some (.slice z)) (hz : P.underlying z = some .bool) (hCz : P.cellsOf z = 1) (hv : Value.okWide P w r b0 t v) (h : DataW.Trod enc P w base (fun _ => true) held t v d p) :
    ∃ (A : Option Addr) (c : Nat) (l : List Bool), v = .slice A l.length c ∧ SlZ w A c l := by
  obtain ⟨A, n, c, rfl⟩ := okWide_slice ht hv
  obtain ⟨fuel, hf⟩ := h
  exact bools_cell ht hz hCz hf
theorem open_textD (ht : P.underlying t = some .string) (hv : Value.okWide P w r b0 t v) (h : DataW.Trod enc P w base (fun _ => true) held t v d p) :
    ∃ l : List UInt8, v = .string ⟨l.toArray⟩ ∧ l.length ≤ maxLen := by
  obtain ⟨s, rfl⟩ := okWide_string ht hv
  obtain ⟨fuel, hf⟩ := h
  exact string_cell ht hf
/-- files -/
structure DF where
  n : List UInt8
  A : Option Addr
  c : Nat
  l : List UInt8
def dfc (a : DF) : List Value := [.string ⟨a.n.toArray⟩, .slice a.A a.l.length a.c]
def DFok (w : World) (a : DF) : Prop := SlB w a.A a.c a.l ∧ a.n.length ≤ maxLen
def SlDF (w : World) (A : Option Addr) (c : Nat) (s : List DF) : Prop := Sl w 2 A s.length c (s.flatMap dfc) ∧ ∀ a ∈ s, DFok w a
theorem SlDF.below {w w' : World} {A : Option Addr} {c : Nat} {s : List DF} (h : SlDF w A c s) (hb : Below w.heap.size w w') : SlDF w' A c s := ⟨h.1.below hb, fun a ha => ⟨Sl.below (h.2 a ha).1 hb, (h.2 a ha).2⟩⟩
theorem open_dfiles {f0 f1 : Field} (ht : P.underlying t = some (.slice b)) (hs : P.underlying b = some (.struct #[f0, f1])) (h0 : P.underlying f0.type = some .string) (h1 : P.underlying f1.type = some (.slice e)) (he : P.underlying e = some (.int .u8))
    (hCe : P.cellsOf e = 1) (hone : oneCellFields P #[f0, f1] = true) (hC : P.cellsOf b = 2) (hv : Value.okWide P w r b0 t v) (h : DataW.Trod enc P w base (fun _ => true) held t v d p) :
    ∃ (A : Option Addr) (c : Nat) (l : List DF), v = .slice A l.length c ∧ SlDF w A c l := by
  obtain ⟨A, c, l, rfl, hl, hq⟩ := open_structs dfc (DFok w) (fun _ => rfl) ht hs hone hC (by
    intro vs hl hf
    obtain ⟨u0, n0, y0, e0, t0⟩ := hf 0 f0 rfl
    obtain ⟨u1, n1, y1, e1, t1⟩ := hf 1 f1 rfl
    obtain ⟨nm, rfl, hn⟩ := string_cell h0 t0
    obtain ⟨A, c, l, rfl, hb⟩ := bytes_cellD h1 he hCe t1
    match vs, hl with
    | [x0, x1], _ =>
      simp at e0 e1
      exact ⟨⟨nm, A, c, l⟩, by simp [dfc, e0, e1], hb, hn⟩) hv h
  exact ⟨A, c, l, rfl, hl, hq⟩
end
end Go.Proofs.YtddmfoldnlafaaaGreatDoor

namespace Go.Proofs.YtddmfoldnlafaaaGreatDoor
open Go.RowKit Go.Maps Go.Sort
attribute [local go_sem ↓] Go.wp_at_zero Go.wp_at_succ

def DA.long (a : DA) : Bool := decide (60 < a.n.length) || decide (60 < a.t.length) || decide (60 < a.ks.length) || decide (300 < a.l.length ∧ a.l.length ≤ 65536) || decide (66000 < a.l.length)
def dLong (s : List DA) (most : Int) : Bool := s.any DA.long || decide (most < s.length)
theorem dLong_at {s : List DA} {most : Int} {k : Nat} (hk : k < s.length) (h : s[k].long = true) : dLong s most = true := by
  unfold dLong
  rw [List.any_eq_true.2 ⟨s[k], List.getElem_mem hk, h⟩]
  rfl
theorem dLong_none {s : List DA} {most : Int} (h : ∀ i (hi : i < s.length), s[i].long = false) : dLong s most = decide (most < s.length) := by
  unfold dLong
  rw [List.any_eq_false.2 fun x hx => by
    obtain ⟨i, hi, rfl⟩ := List.getElem_of_mem hx
    simp [h i hi]]
  rfl
theorem DA.short {a : DA} (h : a.long = false) : a.n.length ≤ 60 ∧ a.t.length ≤ 60 ∧ a.ks.length ≤ 60 ∧ a.l.length ≤ 66000 ∧ (a.l.length ≤ 300 ∨ 65536 < a.l.length) := by
  unfold DA.long at h
  simp only [Bool.or_eq_false_iff, decide_eq_false_iff_not] at h
  omega
theorem dLong_short {s : List DA} {most : Int} (h : dLong s most = false) : (s.length : Int) ≤ most ∧ ∀ a ∈ s, a.long = false := by
  unfold dLong at h
  simp only [Bool.or_eq_false_iff, decide_eq_false_iff_not] at h
  refine ⟨by omega, fun a ha => ?_⟩
  have := List.any_eq_false.1 h.1 a ha
  simpa using this
set_option maxRecDepth 100000 in
set_option maxHeartbeats 1000000 in
theorem DLong_any {A : Option Addr} {c : Nat} {s : List DA} (w : World) (h : SlDA w A c s) (most : Int) : Calls Tryz.prog 25 #[.slice A s.length c, .int .i64 most] w fun e w' => e = .returned (.bool (dLong s most)) ∧ Below w.heap.size w w' := by
  have hsl : s.length ≤ maxLen := Nat.le_trans h.1.2.1 h.1.2.2.1
  unfold maxLen at hsl
  have H := Lib.hid h
  clear h
  go_enter Tryz.func25, Tryz.ntmps25
  go_wp2_with fail
  go_loopw [9] (fun x wr => ∃ k : Nat, k ≤ s.length ∧ x = .int .i64 k ∧ (∀ i (hi : i < s.length), i < k → s[i].long = false) ∧ Below w.heap.size w wr) (fun x w => s.length - (intOf x).toNat)
  case atStart => exact ⟨0, Nat.zero_le _, rfl, (fun i _ hi => by omega), Below.refl _ _⟩
  case round =>
    obtain ⟨k, hk, rfl, hno, hb⟩ := hrel
    by_cases hlt : k < s.length
    · have hS := H.out.below hb
      obtain ⟨ad, b, o, hA, had, hcc⟩ := Sl.atS (f := dac) (size := 6) (fun _ => rfl) (by omega) hS.1 hlt
      have hc0 := hcc 0 _ rfl
      have hc1 := hcc 1 _ rfl
      have hc2 := hcc 2 _ rfl
      have hc3 := hcc 3 _ rfl
      have hc4 := hcc 4 _ rfl
      have hc5 := hcc 5 _ rfl
      rw [Nat.add_zero] at hc0
      have hok := hS.2 _ (List.getElem_mem hlt)
      clear hcc hS
      generalize hx : s[k] = x at *
      obtain ⟨kd, nm, tt, A1, c1, l1, ff, B1, kc, ks⟩ := x
      obtain ⟨q1, q2, -, -, q5, q6⟩ := hok
      have q7 : l1.length ≤ maxLen := Nat.le_trans q1.2.1 q1.2.2.1
      have q8 : ks.length ≤ maxLen := Nat.le_trans q2.2.1 q2.2.2.1
      clear q1 q2
      dsimp only at *
      unfold maxLen at *
      rw [hA] at *
      clear hA
      have hbn := bel_alloc hb (.cells #[.int .i64 kd, .string ⟨nm.toArray⟩, .string ⟨tt.toArray⟩, .slice A1 l1.length c1, .int .i64 ff, .slice B1 ks.length kc] 62)
      rcases Nat.lt_or_ge 60 nm.length with g1 | g1
      · have i1 : (60 : Int) < (nm.length : Int) := by omega
        have HE := Lib.hid (dLong_at (most := most) hlt (by rw [hx]; unfold DA.long; simp; omega))
        clear hno hx
        go_wp2_with fail
        go_ret
        exact ⟨by rw [HE.out]; rfl, hbn⟩
      have i1 : (nm.length : Int) ≤ 60 := by omega
      rcases Nat.lt_or_ge 60 tt.length with g2 | g2
      · have i2 : (60 : Int) < (tt.length : Int) := by omega
        have HE := Lib.hid (dLong_at (most := most) hlt (by rw [hx]; unfold DA.long; simp; omega))
        clear hno hx
        go_wp2_with fail
        go_ret
        exact ⟨by rw [HE.out]; rfl, hbn⟩
      have i2 : (tt.length : Int) ≤ 60 := by omega
      rcases Nat.lt_or_ge 60 ks.length with g3 | g3
      · have i3 : (60 : Int) < (ks.length : Int) := by omega
        have HE := Lib.hid (dLong_at (most := most) hlt (by rw [hx]; unfold DA.long; simp; omega))
        clear hno hx
        go_wp2_with fail
        go_ret
        exact ⟨by rw [HE.out]; rfl, hbn⟩
      have i3 : (ks.length : Int) ≤ 60 := by omega
      rcases Nat.lt_or_ge 300 l1.length with g4 | g4
      · have i4 : (300 : Int) < (l1.length : Int) := by omega
        rcases Nat.lt_or_ge 65536 l1.length with g5 | g5
        · have i5 : (65536 : Int) < (l1.length : Int) := by omega
          rcases Nat.lt_or_ge 66000 l1.length with g6 | g6
          · have i6 : (66000 : Int) < (l1.length : Int) := by omega
            have HE := Lib.hid (dLong_at (most := most) hlt (by rw [hx]; unfold DA.long; simp; omega))
            clear hno hx
            go_wp2_with fail
            go_ret
            exact ⟨by rw [HE.out]; rfl, hbn⟩
          · have i6 : (l1.length : Int) ≤ 66000 := by omega
            have hno2 := Lib.hid (show ∀ i (hi : i < s.length), i < k + 1 → s[i].long = false from fun i hi hi2 => by
              rcases Nat.lt_or_ge i k with h1 | h1
              · exact hno i hi h1
              · obtain rfl : i = k := by omega
                rw [hx]; unfold DA.long; simp; omega)
            clear hno hx
            go_wp2_with fail
            go_roundw
            case rel => exact ⟨k + 1, hlt, rfl, hno2.out, hbn⟩
            case measure => simp [intOf]; omega
        · have i5 : (l1.length : Int) ≤ 65536 := by omega
          have HE := Lib.hid (dLong_at (most := most) hlt (by rw [hx]; unfold DA.long; simp; omega))
          clear hno hx
          go_wp2_with fail
          go_ret
          exact ⟨by rw [HE.out]; rfl, hbn⟩
      · have i4 : (l1.length : Int) ≤ 300 := by omega
        have i6 : (l1.length : Int) ≤ 66000 := by omega
        have hno2 := Lib.hid (show ∀ i (hi : i < s.length), i < k + 1 → s[i].long = false from fun i hi hi2 => by
          rcases Nat.lt_or_ge i k with h1 | h1
          · exact hno i hi h1
          · obtain rfl : i = k := by omega
            rw [hx]; unfold DA.long; simp; omega)
        clear hno hx
        go_wp2_with fail
        go_roundw
        case rel => exact ⟨k + 1, hlt, rfl, hno2.out, hbn⟩
        case measure => simp [intOf]; omega
    · have hke : k = s.length := by omega
      have HE := Lib.hid (dLong_none (most := most) fun i hi => hno i hi (by omega))
      subst hke
      clear hno
      go_wp2_with fail
      go_ret
      exact ⟨by rw [HE.out]; rfl, hb⟩
end Go.Proofs.YtddmfoldnlafaaaGreatDoor

namespace Go.Proofs.YtddmfoldnlafaaaGreatDoor
open Go.RowKit Go.Maps Go.Sort
attribute [local go_sem ↓] Go.wp_at_zero Go.wp_at_succ

theorem SlB.ltB {w : World} {A : Option Addr} {c : Nat} {l : Bs} (h : SlB w A c l) (hne : l ≠ []) {ad : Addr} (hA : A = some ad) : ad.block < w.heap.size := by
  obtain ⟨ad', e, hc⟩ := Sl.at1 (f := bv) (l := l) h (k := 0) (List.length_pos_iff.2 hne)
  rw [hA] at e
  injection e with e
  subst e
  have := World.block_lt_of_cell? _ _ hc
  rwa [addr_add_block] at this
theorem SlZ.ltB {w : World} {B : Option Addr} {kc : Nat} {ks : List Bool} (h : SlZ w B kc ks) (hne : ks ≠ []) {ad : Addr} (hA : B = some ad) : ad.block < w.heap.size := by
  have hl : 0 < ks.length := List.length_pos_iff.2 hne
  obtain ⟨ad', e, hc⟩ := h.2.2.2.2 0 _ (by rw [List.getElem?_map, List.getElem?_eq_getElem hl]; rfl)
  rw [hA] at e
  injection e with e
  subst e
  have := World.block_lt_of_cell? _ _ hc
  rwa [addr_add_block] at this
/-- a kind's remainder by 4 -/
theorem kind4 (k : Int) : (IntKind.u64.wrap k).tmod 4 = 0 ∨ (IntKind.u64.wrap k).tmod 4 = 1 ∨ (IntKind.u64.wrap k).tmod 4 = 2 ∨ (IntKind.u64.wrap k).tmod 4 = 3 := by
  have h : IntKind.u64.wrap k = k % 18446744073709551616 := rfl
  rw [h, Int.tmod_eq_emod_of_nonneg (by omega)]
  omega
/-- what has been done behind k acts -/
def Dn (n : Int) (k : Nat) (dn : Int) : Prop := (k : Int) ≤ n ∧ dn = k ∨ n < k ∧ dn = n
end Go.Proofs.YtddmfoldnlafaaaGreatDoor

namespace Go.Proofs.YtddmfoldnlafaaaGreatDoor
open Go.RowKit Go.Maps Go.Sort
attribute [local go_sem ↓] Go.wp_at_zero Go.wp_at_succ

section
variable {α : Type}
/-- a disk that is up, without a fuse -/
def Fre (d : Dk α) : Prop := d.fuse = -1 ∧ d.down = false
theorem dWorks_fre {d : Dk α} (h : Fre d) : dWorks d = (d, 0) := by
  unfold dWorks
  rw [if_neg (by rw [h.2]; simp), if_neg (by rw [h.1]; decide), if_neg (by rw [h.1]; decide)]
theorem Fre.opd {d : Dk α} {r : Dk α × Nat} (h : Fre d) (ho : Opd d r) : Fre r.1 := by
  obtain ⟨-, h2, h3, -⟩ := ho
  rw [dWorks_fre h] at h2 h3
  exact ⟨h2.trans h.1, h3.trans h.2⟩
theorem dSync_fre {d : Dk α} (h : Fre d) : (dSync d).2 = 0 ∧ (dSync d).1.sure = d.shown ∧ (dSync d).1.pend = [] ∧ Fre (dSync d).1 := by
  have e : dSync d = ({ d with sure := d.shown, pend := [] }, 0) := by
    unfold dSync
    rw [dWorks_fre h, if_neg (by simp)]
  rw [e]
  exact ⟨rfl, rfl, rfl, h⟩
theorem shown_nil {d : Dk α} (h : d.pend = []) : d.shown = d.sure := by
  unfold Dk.shown
  rw [h]
  rfl
theorem kept_non (keep : List Bool) : kept keep ([] : List (Chg α)) = [] := by
  unfold kept
  rfl
theorem dCut_nil {d : Dk α} (keep : List Bool) (h : d.pend = []) : (dCut keep d).sure = d.sure ∧ (dCut keep d).pend = [] ∧ (dCut keep d).down = true := by
  unfold dCut
  rw [h, kept_non]
  exact ⟨rfl, rfl, rfl⟩
theorem dStart_up2 {d : Dk α} (hp : d.pend = []) : (dStart d).sure = d.sure ∧ (dStart d).pend = [] ∧ Fre (dStart d) := by
  unfold dStart
  cases hd : d.down
  · exact ⟨rfl, hp, rfl, rfl⟩
  · exact ⟨rfl, rfl, rfl, rfl⟩
end
theorem kind3 (k : Int) : (IntKind.u64.wrap k).tmod 3 = 0 ∨ (IntKind.u64.wrap k).tmod 3 = 1 ∨ (IntKind.u64.wrap k).tmod 3 = 2 := by
  have h : IntKind.u64.wrap k = k % 18446744073709551616 := rfl
  rw [h, Int.tmod_eq_emod_of_nonneg (by omega)]
  omega
theorem DList_up {w : World} {q : Fp} {d : Dk Sv} (h : Dsk w q d) (hd : Fre d) (hL : d.shown.length ≤ 100000000) : Calls Tryz.prog 46 #[.pointer (some ⟨q.g, 0, none⟩)] w fun e w' => ∃ A c m, e = .returned (.tuple #[.slice A (List.length m) c, .nilIface]) ∧ Hid (m = names d.shown) ∧ TxH q w' A c m ∧ Below w.heap.size w w' := by
  refine (DList_any h hL).mono ?_
  rintro e w1 ⟨A, c, m, rfl, hm, ho, hb⟩
  rw [hd.2] at hm ⊢
  exact ⟨A, c, m, rfl, hm, TxH.of h ho, hb⟩
theorem names_gmap {r l : List (Bs × Sv)} (h : gmap Sv.l r = gmap Sv.l l) : names r = names l := by
  have := congrArg (List.map (·.1)) h
  unfold gmap at this
  rw [List.map_map, List.map_map] at this
  exact this
theorem gmap_at {r l : List (Bs × Sv)} (h : gmap Sv.l r = gmap Sv.l l) {k : Nat} (hk : k < r.length) (hk2 : k < l.length) : r[k].1 = l[k].1 ∧ r[k].2.l = l[k].2.l := by
  have h1 : (gmap Sv.l r)[k]? = (gmap Sv.l l)[k]? := by rw [h]
  unfold gmap at h1
  rw [List.getElem?_map, List.getElem?_map, List.getElem?_eq_getElem hk, List.getElem?_eq_getElem hk2] at h1
  simp only [Option.map_some, Option.some.injEq, Prod.mk.injEq] at h1
  exact h1
end Go.Proofs.YtddmfoldnlafaaaGreatDoor

namespace Go.Proofs.YtddmfoldnlafaaaGreatDoor
open Go.RowKit Go.Maps Go.Sort
attribute [local go_sem ↓] Go.wp_at_zero Go.wp_at_succ

section
variable {α : Type}
theorem dWrite_fre {len : α → Nat} {d : Dk α} (h : Fre d) (n : Bs) (v : α) : (dWrite len d n v).2 = 0 ∧ (dWrite len d n v).1 = dAdd d ⟨0, n, [], v⟩ ∨ (dWrite len d n v).2 ≠ 0 ∧ (dWrite len d n v).1 = d := by
  unfold dWrite
  rw [dWorks_fre h, if_neg (by simp)]
  split
  · exact .inr ⟨by simp, rfl⟩
  · split
    · exact .inr ⟨by simp, rfl⟩
    · split
      · exact .inr ⟨by simp, rfl⟩
      · exact .inl ⟨rfl, rfl⟩
theorem dRename_fre {z : α} {d : Dk α} (h : Fre d) (n t : Bs) : (dRename z d n t).2 = 0 ∧ (dRename z d n t).1 = dAdd d ⟨1, n, t, z⟩ ∨ (dRename z d n t).2 ≠ 0 ∧ (dRename z d n t).1 = d := by
  unfold dRename
  rw [dWorks_fre h, if_neg (by simp)]
  split
  · exact .inr ⟨by simp, rfl⟩
  · split
    · exact .inr ⟨by simp, rfl⟩
    · exact .inl ⟨rfl, rfl⟩
theorem dRemove_fre {z : α} {d : Dk α} (h : Fre d) (n : Bs) : (dRemove z d n).2 = 0 ∧ (dRemove z d n).1 = dAdd d ⟨2, n, [], z⟩ ∨ (dRemove z d n).2 ≠ 0 ∧ (dRemove z d n).1 = d := by
  unfold dRemove
  rw [dWorks_fre h, if_neg (by simp)]
  split
  · exact .inr ⟨by simp, rfl⟩
  · split
    · exact .inr ⟨by simp, rfl⟩
    · exact .inl ⟨rfl, rfl⟩
theorem shown_add (d : Dk α) (c : Chg α) : (dAdd d c).shown = fdo d.shown c := fdos_snoc _ _ _
theorem shown_write (d : Dk α) (n : Bs) (v : α) : (dAdd d ⟨0, n, [], v⟩).shown = gput n v d.shown := by
  rw [shown_add]
  exact fdo_w rfl
/-- a change of other files -/
theorem fdo_off {l : List (Bs × α)} {c : Chg α} {x : Bs} (h1 : x ≠ c.name) (h2 : c.kind = 1 → x ≠ c.to) : gget x (fdo l c) = gget x l := by
  unfold fdo
  split
  · exact gget_put_other _ h1 _
  · split
    · rfl
    · split
      · rename_i h3
        rw [gget_put_other _ (h2 h3), gget_del_other h1]
      · exact gget_del_other h1 _
theorem fdos_off {cs : List (Chg α)} {x : Bs} : ∀ {l : List (Bs × α)}, (∀ c ∈ cs, x ≠ c.name ∧ (c.kind = 1 → x ≠ c.to)) → gget x (fdos l cs) = gget x l := by
  induction cs with
  | nil => exact fun _ => rfl
  | cons c r ih =>
    intro l h
    have h0 := h c (List.mem_cons_self ..)
    have h1 := ih (l := fdo l c) fun y hy => h y (List.mem_cons_of_mem _ hy)
    show gget x (fdos (fdo l c) r) = _
    rw [h1, fdo_off h0.1 h0.2]
/-- all changes are of names that are told -/
def Cov (lt : List (Bs × Unit)) (cs : List (Chg α)) : Prop := ∀ c ∈ cs, (gget c.name lt).isSome = true ∧ (c.kind = 1 → (gget c.to lt).isSome = true)
theorem Cov.nil (lt : List (Bs × Unit)) : Cov lt ([] : List (Chg α)) := fun c hc => by simp at hc
theorem gget_more {lt : List (Bs × Unit)} {x y : Bs} (h : (gget y lt).isSome = true) : (gget y (gput x () lt)).isSome = true := by
  by_cases e : y = x
  · subst e
    rw [gget_put_same]
    rfl
  · rw [gget_put_other _ e]
    exact h
theorem gget_here (lt : List (Bs × Unit)) (x : Bs) : (gget x (gput x () lt)).isSome = true := by rw [gget_put_same]; rfl
theorem Cov.more {lt lt' : List (Bs × Unit)} {cs : List (Chg α)} (h : Cov lt cs) (hl : ∀ y, (gget y lt).isSome = true → (gget y lt').isSome = true) : Cov lt' cs := fun c hc => ⟨hl _ (h c hc).1, fun hk => hl _ ((h c hc).2 hk)⟩
theorem Cov.add {lt : List (Bs × Unit)} {cs : List (Chg α)} {c : Chg α} (h : Cov lt cs) (h1 : (gget c.name lt).isSome = true) (h2 : c.kind = 1 → (gget c.to lt).isSome = true) : Cov lt (cs ++ [c]) := fun y hy => by
  rcases List.mem_append.1 hy with hy | hy
  · exact h y hy
  · rw [List.mem_singleton.1 hy]; exact ⟨h1, h2⟩
theorem Cov.off {lt : List (Bs × Unit)} {cs : List (Chg α)} (h : Cov lt cs) (keep : List Bool) {l : List (Bs × α)} {x : Bs} (hx : gget x lt = none) : gget x (fdos l (kept keep cs)) = gget x l :=
  fdos_off fun c hc => by
    have h1 := h c (kept_mem hc)
    refine ⟨fun e => ?_, fun hk e => ?_⟩
    · rw [← e, hx] at h1
      exact absurd h1.1 (by simp)
    · have h2 := h1.2 hk
      rw [← e, hx] at h2
      exact absurd h2 (by simp)
end
/-! ### maps beside a disk -/
def lS (l : Bs) : Value := .string ⟨l.toArray⟩
def lU (_ : Unit) : Value := .bool true
/-- a map of one's own behind the world w0, none of a disk's blocks -/
def Mp {β : Type} (f : β → Value) (w0 : World) (q : Fp) (w : World) (b : Nat) (l : List (Bs × β)) : Prop := OmF f Tryz.prog 9 w b l ∧ ¬ q.M b ∧ w0.heap.size ≤ b
section
variable {β γ : Type} {f : β → Value} {g : γ → Value} {w0 w w' : World} {q q' : Fp} {d : Dk Sv} {b b2 : Nat} {l : List (Bs × β)} {l2 : List (Bs × γ)}
theorem Mp.act (h : Mp f w0 q w b l) (hF : Frd q w w') (hM : ∀ i, q'.M i → q.M i ∨ w.heap.size ≤ i) : Mp f w0 q' w' b l :=
  ⟨h.1.same (hF.block b h.1.lt h.2.1), fun hq => by
    rcases hM b hq with h3 | h3
    · exact h.2.1 h3
    · have := h.1.lt
      omega, h.2.2⟩
theorem Mp.call (h : Mp f w0 q w b l) (hb : Below w.heap.size w w') : Mp f w0 q w' b l := ⟨h.1.below hb, h.2⟩
theorem Mp.grown (h : Mp f w0 q w b l) (hg : w.grownBy w' (some b2)) (hne : b ≠ b2) : Mp f w0 q w' b l := ⟨h.1.same (hg.block b h.1.lt (fun e => hne (by injection e))), h.2⟩
theorem OmF.noCell (h : OmF f Tryz.prog 9 w b l) {o : Nat} {sp : Option Nat} {v : Value} (hc : w.cell? ⟨b, o, sp⟩ = some v) : False := by
  obtain ⟨es, cl, hb, _⟩ := h
  unfold World.cell? at hc
  dsimp only at hc
  rw [hb] at hc
  simp at hc
theorem Dsk.grownMap (hD : Dsk w q d) (h : Mp f w0 q w b l) (hg : w.grownBy w' (some b)) : Dsk w' q d := hD.frame fun i hi => hg.block i (hD.lt hi) (fun e => by
  injection e with e
  rw [e] at hi
  rcases hi with hi | ⟨s, hs, hne, hA⟩
  · exact h.2.1 hi
  · obtain ⟨A, c, l⟩ := s
    dsimp only at hne hA
    cases A with
    | none => cases hA
    | some ad =>
      injection hA with hA
      obtain ⟨ad', e, hc⟩ := Sl.at1 (f := bv) (l := l) (hD.rd _ hs) (k := 0) (List.length_pos_iff.2 hne)
      injection e with e
      subst e
      have hsp : ad.add 0 = ⟨b, (ad.add 0).off, (ad.add 0).spot⟩ := by
        have h1 : (ad.add 0).block = b := by rw [addr_add_block]; exact hA
        cases h2 : ad.add 0 with
        | mk x y z => rw [h2] at h1; dsimp only at h1 ⊢; rw [h1]
      rw [hsp] at hc
      exact h.1.noCell hc)
theorem Fro.grown (h : Fro w0 w q) (hg : w.grownBy w' (some b)) (hb : w0.heap.size ≤ b) : Fro w0 w' q :=
  ⟨⟨hg.os.trans h.1.os, hg.tape.trans h.1.tape, hg.output.trans h.1.output, Nat.le_trans h.1.size hg.size, fun i hi => (hg.block i (Nat.lt_of_lt_of_le hi h.1.size) (fun e => by injection e; omega)).trans (h.1.block i hi)⟩, h.2⟩
theorem Mp.new (w : World) (hD : Dsk w q d) (hw : w0.heap.size ≤ w.heap.size) : Mp f w0 q (w.alloc (.map #[] 0)) w.heap.size [] := ⟨OmF.new w, fun hq => by have := hD.ltM hq; omega, hw⟩
end
end Go.Proofs.YtddmfoldnlafaaaGreatDoor

namespace Go.Proofs.YtddmfoldnlafaaaGreatDoor
open Go.RowKit Go.Maps Go.Sort
attribute [local go_sem ↓] Go.wp_at_zero Go.wp_at_succ

section
variable {α : Type}
theorem dRemove_there {z : α} {d : Dk α} (h : Fre d) {n : Bs} (hn : named n = true) (hs : (gget n d.shown).isSome = true) : dRemove z d n = (dAdd d ⟨2, n, [], z⟩, 0) := by
  unfold dRemove
  rw [dWorks_fre h, if_neg (by simp), if_neg (by simp [hn]), if_neg (by cases hg : gget n d.shown with | none => rw [hg] at hs; cases hs | some v => simp)]
theorem shown_remove {z : α} {d : Dk α} {n : Bs} (hs : (gget n d.shown).isSome = true) : (dAdd d ⟨2, n, [], z⟩).shown = gdel n d.shown := by
  rw [shown_add]
  cases hg : gget n d.shown with
  | none => rw [hg] at hs; cases hs
  | some v => exact fdo_d (show (2 : Nat) ≠ 0 by decide) (show (2 : Nat) ≠ 1 by decide) hg
theorem sweep_ok {z : α} : ∀ (l : List Bs) (d : Dk α) (b : Bool), Fre d → (∀ n ∈ l, named n = true) → l.Nodup → (∀ n ∈ l, (gget n d.shown).isSome = true) → ∃ d1 b1, sSweep z l d b = (d1, 0, b1) ∧ Fre d1 ∧ (∀ x, gget x d1.shown = if x ∈ l ∧ isBegun x = true then none else gget x d.shown) ∧ d1.sure.length + d1.pend.length ≤ d.sure.length + d.pend.length + l.length
  | [], d, b, h, _, _, _ => ⟨d, b, rfl, h, fun x => by simp, by simp⟩
  | n :: r, d, b, h, hn, hd, hs => by
    obtain ⟨hd1, hd2⟩ := List.nodup_cons.1 hd
    unfold sSweep
    cases hb : isBegun n with
    | false =>
      rw [if_neg (by simp)]
      obtain ⟨d1, b1, e1, e2, e3, e4⟩ := sweep_ok r d b h (fun x hx => hn x (.tail _ hx)) hd2 (fun x hx => hs x (.tail _ hx))
      refine ⟨d1, b1, e1, e2, fun x => ?_, by simp; omega⟩
      rw [e3 x]
      by_cases hx : x = n
      · subst hx
        simp [hb]
      · simp [hx]
    | true =>
      have hr := dRemove_there (z := z) h (hn n (.head _)) (hs n (.head _))
      have hsh := shown_remove (z := z) (hs n (.head _))
      rw [if_pos rfl, hr, if_neg (by simp)]
      obtain ⟨d1, b1, e1, e2, e3, e4⟩ := sweep_ok r (dAdd d ⟨2, n, [], z⟩) true h (fun x hx => hn x (.tail _ hx)) hd2 (fun x hx => by
        rw [hsh, gget_del_other (show x ≠ n from fun e => by subst e; exact hd1 hx)]
        exact hs x (.tail _ hx))
      refine ⟨d1, b1, e1, e2, fun x => ?_, by unfold dAdd at e4; simp at e4 ⊢; omega⟩
      rw [e3 x, hsh]
      by_cases hx : x = n
      · subst hx
        rw [gget_del_same]
        simp [hb]
      · rw [gget_del_other hx]
        simp [hx]
theorem names_nodup {l : List (Bs × α)} (h : Ris l) : (names l).Nodup := by
  unfold names
  rw [List.Nodup, List.pairwise_map]
  exact h.imp fun {a b} hab e => by rw [e, bb_irrefl] at hab; cases hab
theorem mem_names {l : List (Bs × α)} (h : Ris l) {x : Bs} : x ∈ names l ↔ (gget x l).isSome = true := by
  constructor
  · intro hx
    obtain ⟨p, hp, rfl⟩ := List.mem_map.1 hx
    rw [gget_of_mem h (show (p.1, p.2) ∈ l from hp)]
    rfl
  · intro hx
    cases hg : gget x l with
    | none => rw [hg] at hx; cases hx
    | some v => exact List.mem_map.2 ⟨(x, v), gget_mem hg, rfl⟩
/-- what opening leaves of a disk that is up, whose files all have names -/
theorem open_ok {z : α} {d : Dk α} (h : Fre d) (hr : Ris d.sure) (hn : ∀ x ∈ names d.shown, named x = true) : ∃ d1, sOpen z d = (d1, 0) ∧ Fre d1 ∧ (∀ x, gget x d1.shown = if isBegun x = true then none else gget x d.shown) ∧ d1.sure.length + d1.pend.length ≤ 2 * (d.sure.length + d.pend.length) := by
  have hrs : Ris d.shown := hr.fdos d.pend
  have hlen : (names d.shown).length ≤ d.sure.length + d.pend.length := by
    unfold names
    rw [List.length_map]
    exact flen_dos d.sure d.pend
  obtain ⟨d1, b1, e1, e2, e3, e4⟩ := sweep_ok (z := z) (names d.shown) d false h hn (names_nodup hrs) (fun x hx => (mem_names hrs).1 hx)
  have e5 : ∀ x, gget x d1.shown = if isBegun x = true then none else gget x d.shown := fun x => by
    rw [e3 x]
    by_cases hb : isBegun x = true
    · rw [if_pos hb]
      by_cases hx : x ∈ names d.shown
      · rw [if_pos ⟨hx, hb⟩]
      · rw [if_neg (fun h => hx h.1)]
        cases hg : gget x d.shown with
        | none => rfl
        | some v => exact absurd ((mem_names hrs).2 (by rw [hg]; rfl)) hx
    · rw [if_neg hb, if_neg (fun h => hb h.2)]
  unfold sOpen
  rw [if_neg (by rw [h.2]; simp), e1]
  dsimp only
  rw [if_neg (by simp)]
  cases b1 with
  | false => exact ⟨d1, rfl, e2, e5, by omega⟩
  | true =>
    obtain ⟨y1, y2, y3, y4⟩ := dSync_fre e2
    refine ⟨(dSync d1).1, ?_, y4, fun x => ?_, ?_⟩
    · rw [if_pos rfl]
      exact Prod.ext rfl y1
    · rw [← e5 x]
      have : (dSync d1).1.shown = d1.shown := by rw [shown_nil y3, y2]
      rw [this]
    · rw [y2, y3]
      have := flen_dos d1.sure d1.pend
      unfold Dk.shown
      simp
      omega
theorem dWrite_named {len : α → Nat} {d : Dk α} {n : Bs} {v : α} (h : Fre d) (h0 : (dWrite len d n v).2 = 0) : named n = true := by
  unfold dWrite at h0
  rw [dWorks_fre h, if_neg (by simp)] at h0
  cases hn : named n with
  | true => rfl
  | false => rw [if_pos hn] at h0; cases h0
end
theorem begun_head {b : UInt8} {r : Bs} : isBegun (b :: r) = (126 == b) := by
  show ((126 == b) && true) = _
  rw [Bool.and_true]
section
variable {β : Type} {f : β → Value} {P : Program} {K T E : TypeId} {w w' : World} {b n : Nat} {l : List (Bs × β)}
theorem datF_del (f : β → Value) (k : Bs) (l : List (Bs × β)) : (datF f l).del (.string k) = datF f (gdel k l) := by
  unfold datF gdel
  rw [DataW.del_eq]
  unfold ChangeMaps.delKey
  rw [List.filter_map]
  rfl
theorem OmF.drop (h : OmF f P K w b l) (hK : P.underlying K = some .string) (hT : P.underlying T = some (.map K E)) {k : Bs} (hk : k.length ≤ maxLen) (ty : TypeId) :
    ∃ w', (Builtin.delete_ #[T, K] ty #[.map (some b), .string ⟨k.toArray⟩]).run P w = .ok (.tuple #[]) w' ∧ OmF f P K w' b (gdel k l) ∧ w.grownBy w' (some b) := by
  obtain ⟨w', hrun, h1, h2⟩ := World.ownsMap.drop h (string_keyed hK) hT (key := .string ⟨k.toArray⟩) (kl := .string k) (key_str hK hk) ty
  rw [datF_del] at h1
  exact ⟨w', hrun, OmF.of h1, h2.grown⟩
variable {ops : Array Oper} {rest : List Oper} {o : Oper} {a : Act} {Q : Exit → Act → World → Prop}
theorem wpl_dropF (hg : o.guard = none) (m x : Operand) (hop : o.op = Op.call { callee := Callee.builtin Builtin.delete, args := #[m, x], argTypes := #[T, K] }) (hK : P.underlying K = some .string) (hT : P.underlying T = some (.map K E)) (b : Nat) (l : List (Bs × β)) (hm : a.eval m = .map (some b)) (h : OmF f P K w b l)
    (k : Bs) (hk : k.length ≤ maxLen) (hx : a.eval x = .string ⟨k.toArray⟩) (hC : ∀ w', OmF f P K w' b (gdel k l) → w.grownBy w' (some b) → wpList P ops Q rest (a.put o.dst (.tuple #[])) w') : wpList P ops Q (o :: rest) a w := by
  refine wpList_plain hg fun K' hK' => ?_
  obtain ⟨w', hrun, r1, r2⟩ := h.drop hK hT hk o.type
  unfold Oper.wp
  simp [execOp, hop, resolve, invoke, builtin, hm, hx, hrun, Result.andThen]
  exact hK' _ _ (hC w' r1 r2)
end
end Go.Proofs.YtddmfoldnlafaaaGreatDoor
