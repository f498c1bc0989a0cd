/- WHAT IT HOLDS: what the small functions of the package cell compute, walked. | WHAT IT HOLDS: Later, Put, Word of the package cell, and the law's Document and Long, walked. | WHAT IT HOLDS: arguments that are cells, and slices of cells, opened to the words of Kit. | WHAT IT HOLDS: arguments that are segments, arrays, opened to the words of Kit. | WHAT IT HOLDS: arguments that are acts of a disk, opened to the words of Kit. | WHAT IT HOLDS: arguments that are acts of a store, opened to the words of Kit. | WHAT IT HOLDS: manifests, plainly (no program): which there are. | WHAT IT HOLDS: the bytes of a run of cells, plainly (no program). | WHAT IT HOLDS: the document's bytes of a run, plainly, are the same (no program). | WHAT IT HOLDS: append as a step of a region that draws. | WHAT IT HOLDS: the document's small functions of layer 5, walked. | WHAT IT HOLDS: row and alike of the package cell, walked; append as a step of a region that draws. -/
import Derived.Test.YtajfnmohlnkncaaGreatDoorVaultNilG03
import Derived.Test.YtajfnmohlnkncaaGreatDoorShelfB
import Derived.Lib.Bytes
import Derived.Test.YtajfnmohlnkncaaGreatDoorVaultNilG01
import Derived.Deep.RegionHeld3
import Derived.Deep.DrawnRows
import Derived.Deep.DeepCutAuto
import Derived.Laws.StructEq
namespace Go.Proofs.YtajfnmohlnkncaaGreatDoor
open Go.RowKit
attribute [local go_sem ↓] Go.wp_at_zero Go.wp_at_succ

/-- a cell as a value -/
abbrev cv (k : Int) (A : Option Addr) (n c : Nat) : Value := .agg #[.int .i64 k, .slice A n c]

set_option maxRecDepth 100000 in
set_option maxHeartbeats 400000 in
theorem CCheck_any {A : Option Addr} {c : Nat} (k : Int) (d : List UInt8) (w : World) : Calls Tryz.prog 130 #[cv k A d.length c] w fun e w' => e = .returned (errv (cchk (k, d))) ∧ Below w.heap.size w w' := by
  rcases cchk_cases (k, d) with ⟨h1, hc⟩ | ⟨h1, h2, hc⟩ | ⟨h1, h2, h3, hc⟩ | ⟨h1, h2, h3, h4, h5, hc⟩ | ⟨h1, h2, h3, hc⟩ | ⟨h1, h2, h3, hc⟩
  case inr.inr.inr.inl =>
    have hb : (k != 1) = true := by simpa using h5
    have HC := Lib.hid hc
    clear hc h5
    dsimp only at *
    go_enter Tryz.func130, Tryz.ntmps130
    go_wp2_with fail
    go_ret
    exact ⟨by rw [HC.out]; rfl, below_new _ _⟩
  case inr.inr.inr.inr.inl =>
    obtain rfl : d = [] := List.eq_nil_of_length_eq_zero h3
    have HC := Lib.hid hc
    clear hc h3
    dsimp only at *
    go_enter Tryz.func130, Tryz.ntmps130
    go_wp2_with fail
    go_ret
    exact ⟨by rw [HC.out]; rfl, below_new _ _⟩
  case inr.inr.inr.inr.inr =>
    dsimp only at h3
    subst h3
    have HC := Lib.hid hc
    clear hc
    dsimp only at *
    go_enter Tryz.func130, Tryz.ntmps130
    go_wp2_with fail
    go_ret
    exact ⟨by rw [HC.out]; rfl, below_new _ _⟩
  all_goals
    have HC := Lib.hid hc
    clear hc
    dsimp only at *
    go_enter Tryz.func130, Tryz.ntmps130
    go_wp2_with fail
    go_ret
    exact ⟨by rw [HC.out]; rfl, below_new _ _⟩


theorem res_c1 {fn : Func} {a : Nat} {tmps : Array Value} {w : World} {g : Nat} {x y : Value} (hres : fn.results = #[.cell a 54]) (ha : tmps.getD a undef = .pointer (some ⟨g, 0, none⟩)) (hB : Blk w g 54 #[x, y]) :
    (results fn tmps).run Tryz.prog w = .ok (.agg #[x, y]) w := by
  obtain ⟨b0, b1, _, _⟩ := hB.two
  have ha' : tmps[a]?.getD undef = .pointer (some ⟨g, 0, none⟩) := by simpa using ha
  simp [results, hres, go_sem, b0, b1, ha']
theorem res_c2 {fn : Func} {a b : Nat} {tmps : Array Value} {w : World} {g : Nat} {x y : Value} (hres : fn.results = #[.cell a 54, .tmp b]) (ha : tmps.getD a undef = .pointer (some ⟨g, 0, none⟩)) (hB : Blk w g 54 #[x, y]) :
    (results fn tmps).run Tryz.prog w = .ok (.tuple #[.agg #[x, y], tmps.getD b undef]) w := by
  obtain ⟨b0, b1, _, _⟩ := hB.two
  have ha' : tmps[a]?.getD undef = .pointer (some ⟨g, 0, none⟩) := by simpa using ha
  simp [results, hres, go_sem, b0, b1, ha']

/-- a new cell -/
def GivesC (w0 : World) (x : Ce) (e : Ending) (w' : World) : Prop :=
  ∃ A c m, e = .returned (cv x.1 A (List.length m) c) ∧ Hid (m = x.2) ∧ OwnB w' w0.heap.size 5 A c m ∧ Below w0.heap.size w0 w'

set_option maxRecDepth 100000 in
set_option maxHeartbeats 1000000 in
theorem CCopy_any {A : Option Addr} {c : Nat} (k : Int) (d : List UInt8) (w : World) (ha : SlB w A c d) (hl : d.length ≤ 1000000000) : Calls Tryz.prog 50 #[cv k A d.length c] w (GivesC w (k, d)) := by
  have hB0 := (Blk.new w 54 #[.int .i64 k, .slice A d.length c]).alloc (.cells #[.int .i64 0, .slice none 0 0] 54)
  have hB1 := Blk.newAt (w := w.alloc (.cells #[.int .i64 k, .slice A d.length c] 54)) (g := w.heap.size + 1) (by simp) 54 #[.int .i64 0, .slice none 0 0]
  have hbw := bel_alloc (below_new w (.cells #[.int .i64 k, .slice A d.length c] 54)) (.cells #[.int .i64 0, .slice none 0 0] 54)
  have hA := ha.below hbw.drew
  have HC := Lib.hid (fun W h => clone_any A c d W hl h)
  have H0 := Lib.hid hB0
  have H1 := Lib.hid hB1
  obtain ⟨b0, b1, f0, f1⟩ := hB1.two
  clear hB0 hB1 ha
  go_enter Tryz.func50, Tryz.ntmps50
  go_wp2_with fail
  go_region_held3 (fun W => W.cell? ⟨w.heap.size, 0, none⟩ = some (.int .i64 k) ∧ W.cell? ⟨w.heap.size, 1, none⟩ = some (.slice A d.length c)) (first | exact hk1 | exact (blk_two_far hX (by omega) _ _).cells2 | exact H0.out.drew.cells2 | go_keep) (first
    | (go_at_call 88; go_must (refine (HC.out _ ?_).mono ?_; exact hA; rintro e w1 ⟨A1, c1, m1, rfl, hm1, ho1, hb1⟩; have hX := H0.out.drew.below hb1; have hk1 := hX.cells2; obtain ⟨b0, b1, f0, f1⟩ := (H1.out.drew.below hb1).two)))
  go_wp2_with fail
  have hw1 := bel_call hbw.drew hb1
  refine bodyPost_ret (res_c1 rfl rfl (g := w.heap.size + 1) (x := .int .i64 k) (y := .slice A1 m1.length c1) ((H1.out.drew.below hb1).set2 _ _)) rfl ⟨A1, c1, m1, rfl, hm1, ?_, below_two hw1 (by omega) _ _⟩
  exact Own.more (ownsRow_setCell_below (a := ⟨w.heap.size + 1, 1, none⟩) (ownsRow_setCell_below (a := ⟨w.heap.size + 1, 0, none⟩) (Own.more (base' := w.heap.size + 2) ho1 (by simp)) (by dsimp only; omega) _) (by dsimp only; omega) _) (by omega)
end Go.Proofs.YtajfnmohlnkncaaGreatDoor

namespace Go.Proofs.YtajfnmohlnkncaaGreatDoor
open Go.RowKit
attribute [local go_sem ↓] Go.wp_at_zero Go.wp_at_succ

/-- a cell in a slice: kind, address, capacity, bytes -/
abbrev CeV := Int × Option Addr × Nat × List UInt8
abbrev cf (x : CeV) : List Value := [.int .i64 x.1, .slice x.2.1 x.2.2.2.length x.2.2.1]
abbrev ceOf (x : CeV) : Ce := (x.1, x.2.2.2)
/-- cells that can be read -/
def SlC (w : World) (E : Option Addr) (cap : Nat) (l : List CeV) : Prop := Sl w 2 E l.length cap (l.flatMap cf) ∧ ∀ x ∈ l, SlB w x.2.1 x.2.2.1 x.2.2.2
theorem SlC.below {w w' : World} {E : Option Addr} {cap : Nat} {l : List CeV} (h : SlC w E cap l) (hb : Below w.heap.size w w') : SlC w' E cap l := ⟨h.1.below hb, fun x hx => (h.2 x hx).below hb⟩
theorem SlC.at2 {w : World} {E : Option Addr} {cap : Nat} {l : List CeV} (h : SlC w E cap l) {k : Nat} (hk : k < l.length) :
    ∃ ad b o, E = some ad ∧ ad.add (k * 2) = ⟨b, o, none⟩ ∧ w.cell? ⟨b, o, none⟩ = some (.int .i64 l[k].1) ∧ w.cell? ⟨b, o + 1, none⟩ = some (.slice l[k].2.1 l[k].2.2.2.length l[k].2.2.1) ∧ SlB w l[k].2.1 l[k].2.2.1 l[k].2.2.2 := by
  obtain ⟨ad, b, o, h1, h2, h3⟩ := Sl.atS (f := cf) (size := 2) (fun _ => rfl) (by omega) h.1 hk
  exact ⟨ad, b, o, h1, h2, h3 0 _ rfl, h3 1 _ rfl, h.2 _ (List.getElem_mem hk)⟩
def longb (l : List Ce) (most : Int) : Bool := l.any (fun c => decide (100 < c.2.length)) || decide (most < (l.length : Int))

set_option maxRecDepth 100000 in
set_option maxHeartbeats 1000000 in
theorem Long_any {E : Option Addr} {cap : Nat} (l : List CeV) (most : Int) (w : World) (h : SlC w E cap l) : Calls Tryz.prog 9 #[.slice E l.length cap, .int .i64 most] w fun e w' => e = .returned (.bool (longb (l.map ceOf) most)) ∧ Below w.heap.size w w' := by
  have hmax := h.1.len_le
  unfold maxLen at hmax
  go_enter Tryz.func9, Tryz.ntmps9
  go_wp2_with fail
  go_loopw [9] (fun x wr => ∃ k : Nat, k ≤ l.length ∧ x = .int .i64 k ∧ Hid (((l.map ceOf).take k).any (fun c => decide (100 < c.2.length)) = false) ∧ Below w.heap.size w wr) (fun x w => l.length - (intOf x).toNat)
  case atStart => exact ⟨0, Nat.zero_le _, rfl, (show _ = _ from rfl), Below.refl _ _⟩
  case round =>
    obtain ⟨k, hk, rfl, ht, hbr⟩ := hrel
    by_cases hlt : k < l.length
    · obtain ⟨ad, b, o, rfl, had, hc0, hc1, _⟩ := (h.below hbr).at2 hlt
      have hn1 : Hid (100 < l[k].2.2.2.length → longb (l.map ceOf) most = true) := (show _ → _ from fun h => by
        unfold longb
        rw [Bool.or_eq_true]
        left
        rw [List.any_eq_true]
        exact ⟨ceOf l[k], List.mem_map_of_mem (List.getElem_mem hlt), by simpa using h⟩)
      have hn2 : Hid (¬ 100 < l[k].2.2.2.length → ((l.map ceOf).take (k + 1)).any (fun c => decide (100 < c.2.length)) = false) := (show _ → _ from fun h => by
        rw [List.take_succ_eq_append_getElem (by simpa using hlt), List.any_append, ht.out]
        simp at h ⊢
        exact h)
      generalize l[k] = x at *
      obtain ⟨kk, A, c, d⟩ := x
      dsimp only at *
      by_cases hlong : 100 < d.length
      · have hr := hn1.out hlong
        have HR := Lib.hid hr
        clear hr
        go_wp2_with fail
        go_ret
        exact ⟨by rw [HR.out]; rfl, bel_alloc hbr _⟩
      · have hr := Lib.hid (hn2.out hlong)
        go_wp2_with fail
        go_roundw
        case rel => exact ⟨k + 1, hlt, by go_num, hr.out, bel_alloc hbr _⟩
        case measure => simp [intOf]; omega
    · have hf : Hid (longb (l.map ceOf) most = decide (most < (l.length : Int))) := (show _ = _ by
        have h1 := ht.out
        rw [List.take_of_length_le (by simp; omega)] at h1
        unfold longb
        rw [h1]
        simp)
      go_wp2_with fail
      go_ret
      exact ⟨by rw [hf.out]; rfl, hbr⟩
end Go.Proofs.YtajfnmohlnkncaaGreatDoor

namespace Go.Proofs.YtajfnmohlnkncaaGreatDoor
open Go.ChangeShapes Go.WideShapes Go.ChangeAt Go.RowKit Go.Deep

section
variable {H : Type} {enc : TypeId × Value → H} {P : Program} {w : World} {base b0 : Nat} {held : Bool} {r : Reach} {t e b : TypeId} {v : Value} {d : DataW H} {p : List MemPlace}
theorem bytes_cell {n : Nat} {y : DataW H × List MemPlace} (ht : P.underlying t = some (.slice e)) (he : P.underlying e = some (.int .u8)) (hC : P.cellsOf e = 1) (h : DataW.trod enc P w base (fun _ => true) held n t [v] = some y) :
    ∃ (A : Option Addr) (c : Nat) (l : List UInt8), v = .slice A l.length c ∧ SlB w A c l := by
  rcases open_ints ht he hC h with ⟨hcs, _⟩ | ⟨x, l, c', zs, hcs, _, hl, hm, hz, _, hcell, hwz⟩
  · simp at hcs
    subst hcs
    exact ⟨none, 0, [], rfl, Sl.none_ _ _⟩
  · simp at hcs
    subst hcs
    simp only [if_true] at hz
    have hs := row_reads hl hm hz hcell
    have hw : ∀ z ∈ zs.take l, (Lit.int .u8 z).wf = true := fun z hz => hwz z (List.mem_of_mem_take hz)
    have hm : (zs.take l).map (Value.int .u8) = bvs ((zs.take l).map fun z => UInt8.ofNat z.toNat) := by
      rw [bvs, List.map_map]
      refine List.map_congr_left fun z hz => ?_
      have hb := bounds_u8 (hw z hz)
      simp only [Function.comp, bv, UInt8.toNat_ofNat']
      congr 1
      omega
    rw [hm] at hs
    have hlen : ((zs.take l).map fun z => UInt8.ofNat z.toNat).length = l := by simp; omega
    refine ⟨some x, c', (zs.take l).map fun z => UInt8.ofNat z.toNat, by rw [hlen], ?_⟩
    show Sl w 1 _ (List.map _ _).length c' _
    rw [hlen]
    exact hs
end
end Go.Proofs.YtajfnmohlnkncaaGreatDoor

namespace Go.Proofs.YtajfnmohlnkncaaGreatDoor
open Go.ChangeShapes Go.WideShapes Go.ChangeAt Go.RowKit Go.Deep

/-- a slice of structs of one-cell fields, as a struct's field -/
theorem open_structsF {H : Type} {enc : TypeId × Value → H} {P : Program} {w : World} {base : Nat} {held : Bool} {t e : TypeId} {v : Value} {fs : Array Field}
    {T : Type} (f : T → List Value) (Q : T → Prop) (hfl : ∀ x, (f x).length = fs.size)
    (ht : P.underlying t = some (.slice e)) (he : P.underlying e = some (.struct fs)) (hone : oneCellFields P fs = true) (hC : P.cellsOf e = fs.size)
    (hel : ∀ vs : List Value, vs.length = fs.size → (∀ (j : Nat) (fd : Field), fs[j]? = some fd → ∃ (u : Value) (n : Nat) (y : DataW H × List MemPlace), vs[j]? = some u ∧ DataW.trod enc P w base (fun _ => true) held n fd.type [u] = some y) → ∃ x : T, f x = vs ∧ Q x)
    {fuel : Nat} {yy : DataW H × List MemPlace} (hf : DataW.trod enc P w base (fun _ => true) held fuel t [v] = some yy) :
    ∃ (A : Option Addr) (c : Nat) (l : List T), v = .slice A l.length c ∧ Sl w fs.size A l.length c (l.flatMap f) ∧ ∀ x ∈ l, Q x := by
  rcases open_slice_fields ht he hone hC hf with ⟨hcs, _⟩ | ⟨a, n, c, m, D, Pl, hcs, _, hl, hm, hmm, _, hi⟩
  · simp at hcs
    subst hcs
    exact ⟨none, 0, [], rfl, by simpa using Sl.none_ w fs.size, fun x hx => by simp at hx⟩
  · simp at hcs
    subst hcs
    simp only [if_true] at hmm
    subst hmm
    have hx : ∀ i, i < n → ∃ x : T, Q x ∧ ∀ j u, (f x)[j]? = some u → w.cell? (a.add (i * fs.size + j)) = some u := by
      intro i hin
      obtain ⟨ys, nn, _, _, _, hfd⟩ := hi i (by omega)
      have hc : ∀ j, j < fs.size → ∃ u : Value, w.cell? (a.add (i * fs.size + j)) = some u ∧ ∃ y : DataW H × List MemPlace, DataW.trod enc P w base (fun _ => true) held nn (fs[j]!).type [u] = some y := by
        intro j hj
        obtain ⟨u, y, h1, _, h3⟩ := hfd j fs[j] (by simp [hj])
        exact ⟨u, h1, y, by simpa [hj] using h3⟩
      obtain ⟨vs, hvl, hvr⟩ := list_choice (fun j u => w.cell? (a.add (i * fs.size + j)) = some u ∧ ∃ y : DataW H × List MemPlace, DataW.trod enc P w base (fun _ => true) held nn (fs[j]!).type [u] = some y) fs.size hc
      obtain ⟨x, hxe, hxq⟩ := hel vs hvl fun j fd hj => by
        have hjl : j < fs.size := (Array.getElem?_eq_some_iff.1 hj).1
        obtain ⟨_, y, hy⟩ := hvr j (by omega)
        have hfe : fs[j]! = fd := by
          have := (Array.getElem?_eq_some_iff.1 hj).2
          simp [hjl, this]
        rw [hfe] at hy
        exact ⟨vs[j], nn, y, List.getElem?_eq_getElem (by omega), hy⟩
      refine ⟨x, hxq, fun j u hj => ?_⟩
      rw [hxe] at hj
      obtain ⟨hjl, hju⟩ := List.getElem?_eq_some_iff.1 hj
      rw [← hju]
      exact (hvr j hjl).1
    obtain ⟨l, hll, hlr⟩ := list_choice _ n hx
    refine ⟨some a, _, l, by rw [hll], ⟨flat_len hfl l, by omega, hm, (fun h => by cases h), fun j u hj => ⟨a, rfl, ?_⟩⟩, fun x hx => ?_⟩
    · rcases Nat.eq_zero_or_pos fs.size with h0 | h0
      · have := (List.getElem?_eq_some_iff.1 hj).1
        rw [flat_len hfl, h0] at this
        omega
      · have hjl := (List.getElem?_eq_some_iff.1 hj).1
        rw [flat_len hfl] at hjl
        have hk : j / fs.size < l.length := by rw [Nat.div_lt_iff_lt_mul h0]; exact hjl
        have hr : j % fs.size < fs.size := Nat.mod_lt _ h0
        have he := flat_get hfl l (j / fs.size) (j % fs.size) hk hr
        have hj2 : j / fs.size * fs.size + j % fs.size = j := by rw [Nat.mul_comm]; exact Nat.div_add_mod _ _
        rw [hj2, hj] at he
        have := (hlr _ hk).2 _ _ he.symm
        rwa [hj2] at this
    · obtain ⟨i, hi, rfl⟩ := List.getElem_of_mem hx
      exact (hlr i hi).1

section
variable {H : Type} {enc : TypeId × Value → H} {P : Program} {w : World} {base b0 : Nat} {held : Bool} {r : Reach} {t e b u : TypeId} {v : Value} {d : DataW H} {p : List MemPlace}
end
end Go.Proofs.YtajfnmohlnkncaaGreatDoor

namespace Go.Proofs.YtajfnmohlnkncaaGreatDoor
open Go.ChangeShapes Go.WideShapes Go.ChangeAt Go.RowKit Go.Deep

/-- an act: its kind, its two names, its bytes, its number, what is kept -/
structure DA where
  k : Int
  n : List UInt8
  t : List UInt8
  A : Option Addr
  c : Nat
  l : List UInt8
  f : Int
  B : Option Addr
  kc : Nat
  ks : List Bool
def dac (a : DA) : List Value := [.int .i64 a.k, .string ⟨a.n.toArray⟩, .string ⟨a.t.toArray⟩, .slice a.A a.l.length a.c, .int .i64 a.f, .slice a.B a.ks.length a.kc]
theorem dac_len (a : DA) : (dac a).length = 6 := rfl
def SlZ (w : World) (B : Option Addr) (kc : Nat) (ks : List Bool) : Prop := Sl w 1 B ks.length kc (ks.map Value.bool)
/-- what is so of every act's parts -/
def DAok (w : World) (a : DA) : Prop := SlB w a.A a.c a.l ∧ SlZ w a.B a.kc a.ks ∧ I64 a.k ∧ I64 a.f ∧ a.n.length ≤ maxLen ∧ a.t.length ≤ maxLen
def SlDA (w : World) (A : Option Addr) (c : Nat) (s : List DA) : Prop := Sl w 6 A s.length c (s.flatMap dac) ∧ ∀ a ∈ s, DAok w a
theorem DAok.below {w w' : World} {a : DA} (h : DAok w a) (hb : Below w.heap.size w w') : DAok w' a := ⟨Sl.below h.1 hb, Sl.below h.2.1 hb, h.2.2⟩
theorem SlDA.below {w w' : World} {A : Option Addr} {c : Nat} {s : List DA} (h : SlDA w A c s) (hb : Below w.heap.size w w') : SlDA w' A c s := ⟨h.1.below hb, fun a ha => (h.2 a ha).below hb⟩
section
variable {H : Type} {enc : TypeId × Value → H} {P : Program} {w : World} {base b0 : Nat} {held : Bool} {r : Reach} {t e z b s : TypeId} {v : Value} {d : DataW H} {p : List MemPlace}
theorem bytes_cellD {n : Nat} {y : DataW H × List MemPlace} (ht : P.underlying t = some (.slice e)) (he : P.underlying e = some (.int .u8)) (hC : P.cellsOf e = 1) (h : DataW.trod enc P w base (fun _ => true) held n t [v] = some y) :
    ∃ (A : Option Addr) (c : Nat) (l : List UInt8), v = .slice A l.length c ∧ SlB w A c l := by
  rcases open_ints ht he hC h with ⟨hcs, _⟩ | ⟨x, l, c', zs, hcs, _, hl, hm, hz, _, hcell, hwz⟩
  · simp at hcs
    subst hcs
    exact ⟨none, 0, [], rfl, Sl.none_ _ _⟩
  · simp at hcs
    subst hcs
    simp only [if_true] at hz
    have hs := row_reads hl hm hz hcell
    have hw : ∀ z ∈ zs.take l, (Lit.int .u8 z).wf = true := fun z hz => hwz z (List.mem_of_mem_take hz)
    have hm : (zs.take l).map (Value.int .u8) = bvs ((zs.take l).map fun z => UInt8.ofNat z.toNat) := by
      rw [bvs, List.map_map]
      refine List.map_congr_left fun z hz => ?_
      have hb := bounds_u8 (hw z hz)
      simp only [Function.comp, bv, UInt8.toNat_ofNat']
      congr 1
      omega
    rw [hm] at hs
    have hlen : ((zs.take l).map fun z => UInt8.ofNat z.toNat).length = l := by simp; omega
    refine ⟨some x, c', (zs.take l).map fun z => UInt8.ofNat z.toNat, by rw [hlen], ?_⟩
    show Sl w 1 _ (List.map _ _).length c' _
    rw [hlen]
    exact hs
theorem bools_cell {n : Nat} {y : DataW H × List MemPlace} (ht : P.underlying t = some (.slice z)) (he : P.underlying z = some .bool) (hC : P.cellsOf z = 1) (h : DataW.trod enc P w base (fun _ => true) held n t [v] = some y) :
    ∃ (A : Option Addr) (c : Nat) (l : List Bool), v = .slice A l.length c ∧ SlZ w A c l := by
  rcases open_slice1 ht hC h with ⟨hcs, _⟩ | ⟨a, len, cap, m, nn, V, D, Pl, hcs, _, hl, hm, hmm, _, hi⟩
  · simp at hcs
    subst hcs
    exact ⟨none, 0, [], rfl, Sl.none_ _ _⟩
  · simp at hcs
    subst hcs
    simp only [if_true] at hmm
    obtain ⟨l, hll, hlr⟩ := list_choice (fun i b => w.cell? (a.add i) = some (.bool b)) len fun i hi' => by
      obtain ⟨h1, h2⟩ := hi i (by omega)
      obtain ⟨b, hb, _⟩ := DataW.trod_bool he h2
      simp at hb
      exact ⟨b, by rw [h1, hb]⟩
    refine ⟨some a, cap, l, by rw [hll], by simp, by omega, hm, (fun h => by cases h), fun j u hj => ⟨a, rfl, ?_⟩⟩
    obtain ⟨hjl, rfl⟩ := List.getElem?_eq_some_iff.1 hj
    rw [List.length_map] at hjl
    rw [List.getElem_map]
    exact hlr j hjl
theorem string_cell {n : Nat} {y : DataW H × List MemPlace} (ht : P.underlying t = some .string) (h : DataW.trod enc P w base (fun _ => true) held n t [v] = some y) :
    ∃ l : List UInt8, v = .string ⟨l.toArray⟩ ∧ l.length ≤ maxLen := by
  obtain ⟨s, hs, _, hz⟩ := DataW.trod_string ht h
  simp at hs
  subst hs
  exact ⟨s.data.toList, rfl, hz⟩
end
end Go.Proofs.YtajfnmohlnkncaaGreatDoor

namespace Go.Proofs.YtajfnmohlnkncaaGreatDoor
open Go.ChangeShapes Go.WideShapes Go.ChangeAt Go.RowKit Go.Deep

section
variable {H : Type} {enc : TypeId × Value → H} {P : Program} {w : World} {base b0 : Nat} {held : Bool} {r : Reach} {t e b z u : TypeId} {v : Value} {d : DataW H} {p : List MemPlace}
/-- an act on a disk inside of another struct -/
theorem open_da {f0 f1 f2 f3 f4 f5 : Field} (hs : P.underlying t = some (.struct #[f0, f1, f2, f3, f4, f5])) (h0 : P.underlying f0.type = some (.int .i64)) (h1 : P.underlying f1.type = some .string) (h2 : P.underlying f2.type = some .string) (h3 : P.underlying f3.type = some (.slice e)) (h4 : P.underlying f4.type = some (.int .i64)) (h5 : P.underlying f5.type = some (.slice z))
    (he : P.underlying e = some (.int .u8)) (hz : P.underlying z = some .bool) (hCe : P.cellsOf e = 1) (hCz : P.cellsOf z = 1) (hone : oneCellFields P #[f0, f1, f2, f3, f4, f5] = true) (hC : P.cellsOf t = 6)
    (cs : List Value) (fuel : Nat) (y : DataW H × List MemPlace) (h : DataW.trod enc P w base (fun _ => true) held fuel t cs = some y) : ∃ a : DA, dac a = cs ∧ DAok w a := by
  obtain ⟨xs, n, _, _, hl, hxl, hf⟩ := DataW.trod_struct hs h
  rw [hC] at hl
  have q0 := hf 0 f0 rfl
  have q1 := hf 1 f1 rfl
  have q2 := hf 2 f2 rfl
  have q3 := hf 3 f3 rfl
  have q4 := hf 4 f4 rfl
  have q5 := hf 5 f5 rfl
  obtain ⟨o0, k0⟩ := hone_of hone 0 f0 rfl
  obtain ⟨o1, k1⟩ := hone_of hone 1 f1 rfl
  obtain ⟨o2, k2⟩ := hone_of hone 2 f2 rfl
  obtain ⟨o3, k3⟩ := hone_of hone 3 f3 rfl
  obtain ⟨o4, k4⟩ := hone_of hone 4 f4 rfl
  obtain ⟨o5, k5⟩ := hone_of hone 5 f5 rfl
  have hxl6 : xs.length = 6 := hxl
  rw [List.getElem?_eq_getElem (by omega)] at q0 q1 q2 q3 q4 q5
  match cs, hl with
  | [c0, c1, c2, c3, c4, c5], _ =>
    simp only [o0, k0, List.drop_zero, List.take_succ_cons, List.take_zero] at q0
    simp only [o1, k1, List.drop_succ_cons, List.drop_zero, List.take_succ_cons, List.take_zero] at q1
    simp only [o2, k2, List.drop_succ_cons, List.drop_zero, List.take_succ_cons, List.take_zero] at q2
    simp only [o3, k3, List.drop_succ_cons, List.drop_zero, List.take_succ_cons, List.take_zero] at q3
    simp only [o4, k4, List.drop_succ_cons, List.drop_zero, List.take_succ_cons, List.take_zero] at q4
    simp only [o5, k5, List.drop_succ_cons, List.drop_zero, List.take_succ_cons, List.take_zero] at q5
    obtain ⟨k, rfl, hk⟩ := int_cell h0 q0
    obtain ⟨nm, rfl, hn⟩ := string_cell h1 q1
    obtain ⟨tw, rfl, ht⟩ := string_cell h2 q2
    obtain ⟨A, c, l, rfl, hb⟩ := bytes_cellD h3 he hCe q3
    obtain ⟨f, rfl, hfi⟩ := int_cell h4 q4
    obtain ⟨B, kc, ks, rfl, hks⟩ := bools_cell h5 hz hCz q5
    exact ⟨⟨k, nm, tw, A, c, l, f, B, kc, ks⟩, rfl, hb, hks, hk, hfi, hn, ht⟩
end
end Go.Proofs.YtajfnmohlnkncaaGreatDoor

namespace Go.Proofs.YtajfnmohlnkncaaGreatDoor
open Go.RowKit

/-- a digest -/
abbrev Dg := { l : List UInt8 // l.length = 32 }
def dg0 : Dg := ⟨List.replicate 32 0, by simp⟩
/-- a part: its first address, how many, its size, its digest -/
abbrev Pt5 := Int × Int × Int × Dg
/-- an error's number behind an address; then that of the rest, up to an end -/
def ptchk (p : Pt5) (a : Int) : Nat := if p.2.1 < 1 ∨ 64 < p.2.1 ∨ p.2.2.1 < 1 ∨ 65536 < p.2.2.1 then 1 else if p.1 ≠ a then 2 else 0
def pgo (z : Int) : Int → List Pt5 → Nat
  | a, [] => if a ≠ z then 2 else 0
  | a, p :: r => if ptchk p a ≠ 0 then ptchk p a else pgo z (a + p.2.1) r
/-- a manifest: its number, from, to, its trim, what came ahead, its parts -/
abbrev Mf := Int × Int × Int × Int × Dg × List Pt5
def inb (x m : Int) : Bool := decide (0 ≤ x) && decide (x ≤ m)
def mchk (m : Mf) : Nat :=
  if (!inb m.1 999999 || !inb m.2.1 1048576 || !inb m.2.2.1 1048576 || !inb m.2.2.2.1 1048576) = true then 1
  else if (decide (m.2.2.1 < m.2.1) || (m.1 == 0 && !decide (m.2.2.2.2.1 = dg0))) = true then 2
  else if 1024 < m.2.2.2.2.2.length then 3
  else pgo m.2.2.1 m.2.1 m.2.2.2.2.2
theorem ptchk_ok {p : Pt5} {a : Int} (h : ptchk p a = 0) : 1 ≤ p.2.1 ∧ p.2.1 ≤ 64 ∧ 1 ≤ p.2.2.1 ∧ p.2.2.1 ≤ 65536 ∧ p.1 = a := by
  unfold ptchk at h
  by_cases h1 : p.2.1 < 1 ∨ 64 < p.2.1 ∨ p.2.2.1 < 1 ∨ 65536 < p.2.2.1
  · rw [if_pos h1] at h; cases h
  rw [if_neg h1] at h
  by_cases h2 : p.1 ≠ a
  · rw [if_pos h2] at h; cases h
  exact ⟨by omega, by omega, by omega, by omega, Decidable.byContradiction h2⟩
theorem inb_iff {x m : Int} : inb x m = true ↔ 0 ≤ x ∧ x ≤ m := by unfold inb; simp
theorem mchk_ok {m : Mf} (h : mchk m = 0) : (0 ≤ m.1 ∧ m.1 ≤ 999999) ∧ (0 ≤ m.2.1 ∧ m.2.1 ≤ 1048576) ∧ (0 ≤ m.2.2.1 ∧ m.2.2.1 ≤ 1048576) ∧ (0 ≤ m.2.2.2.1 ∧ m.2.2.2.1 ≤ 1048576) ∧ m.2.1 ≤ m.2.2.1 ∧ (m.1 = 0 → m.2.2.2.2.1 = dg0) ∧ m.2.2.2.2.2.length ≤ 1024 ∧ pgo m.2.2.1 m.2.1 m.2.2.2.2.2 = 0 := by
  unfold mchk at h
  split at h
  · cases h
  rename_i h1
  split at h
  · cases h
  rename_i h2
  split at h
  · cases h
  rename_i h3
  simp only [Bool.or_eq_true, Bool.not_eq_true', not_or, Bool.not_eq_false, inb_iff] at h1
  simp only [Bool.or_eq_true, Bool.and_eq_true, Bool.not_eq_true', decide_eq_true_eq, decide_eq_false_iff_not, beq_iff_eq, not_or, not_and, Decidable.not_not] at h2
  exact ⟨h1.1.1.1, h1.1.1.2, h1.1.2, h1.2, by omega, h2.2, by omega, h⟩
/-- where the parts behind an address end -/
def pend : Int → List Pt5 → Int
  | a, [] => a
  | a, p :: r => pend (a + p.2.1) r
theorem pgo_end {z : Int} : ∀ {l : List Pt5} {a : Int}, pgo z a l = 0 → pend a l = z ∧ a ≤ z
  | [], a, h => by
    unfold pgo at h
    by_cases h1 : a ≠ z
    · rw [if_pos h1] at h; cases h
    · have : a = z := Decidable.byContradiction h1
      exact ⟨this, by omega⟩
  | p :: r, a, h => by
    unfold pgo at h
    by_cases h1 : ptchk p a ≠ 0
    · rw [if_pos h1] at h; exact absurd h h1
    rw [if_neg h1] at h
    obtain ⟨g1, _⟩ := ptchk_ok (Decidable.byContradiction h1)
    obtain ⟨h2, h3⟩ := pgo_end h
    exact ⟨h2, by omega⟩
/-- an address is in a part -/
def phit (x : Int) (p : Pt5) : Bool := decide (p.1 ≤ x) && decide (x < p.1 + p.2.1)
def pidx (x : Int) : List Pt5 → Int
  | [] => -1
  | p :: r => if phit x p then 0 else if pidx x r < 0 then -1 else pidx x r + 1
theorem phit_iff {x : Int} {p : Pt5} : phit x p = true ↔ p.1 ≤ x ∧ x < p.1 + p.2.1 := by unfold phit; simp
/-- behind an address all parts are later ones -/
theorem pgo_later {z x : Int} : ∀ {l : List Pt5} {a : Int}, pgo z a l = 0 → x < a → ∀ p ∈ l, phit x p = false
  | [], _, _, _ => fun p hp => by cases hp
  | q :: r, a, h, hx => fun p hp => by
    unfold pgo at h
    by_cases h1 : ptchk q a ≠ 0
    · rw [if_pos h1] at h; exact absurd h h1
    rw [if_neg h1] at h
    obtain ⟨g1, _, _, _, g5⟩ := ptchk_ok (Decidable.byContradiction h1)
    rcases List.mem_cons.1 hp with rfl | hp
    · rw [Bool.eq_false_iff]
      intro hh
      obtain ⟨h3, _⟩ := phit_iff.1 hh
      omega
    · exact pgo_later h (by omega) p hp
/-- how many parts an address is in -/
def pcnt (x : Int) (l : List Pt5) : Nat := (l.filter (phit x)).length
theorem pcnt_none {x : Int} {l : List Pt5} (h : ∀ p ∈ l, phit x p = false) : pcnt x l = 0 ∧ pidx x l = -1 := by
  induction l with
  | nil => exact ⟨rfl, rfl⟩
  | cons p r ih =>
    obtain ⟨i1, i2⟩ := ih fun q hq => h q (.tail _ hq)
    have hp := h p (.head _)
    refine ⟨?_, ?_⟩
    · unfold pcnt at i1 ⊢
      rw [List.filter_cons, hp]
      simpa using i1
    · unfold pidx
      rw [hp, i2]
      simp
/-- of right parts an address is in one, if it lies in between, and else in none -/
theorem pgo_one {z x : Int} : ∀ {l : List Pt5} {a : Int}, pgo z a l = 0 → (a ≤ x ∧ x < z → pcnt x l = 1 ∧ 0 ≤ pidx x l) ∧ (¬ (a ≤ x ∧ x < z) → pcnt x l = 0 ∧ pidx x l = -1)
  | [], a, h => by
    obtain ⟨h1, h2⟩ := pgo_end h
    unfold pend at h1
    exact ⟨fun h => by omega, fun _ => ⟨rfl, rfl⟩⟩
  | q :: r, a, h => by
    have h0 := h
    unfold pgo at h
    by_cases h1 : ptchk q a ≠ 0
    · rw [if_pos h1] at h; exact absurd h h1
    rw [if_neg h1] at h
    obtain ⟨g1, _, _, _, g5⟩ := ptchk_ok (Decidable.byContradiction h1)
    obtain ⟨i1, i2⟩ := pgo_one h
    have hend := (pgo_end h).2
    cases hq : phit x q
    · have hnq : ¬ (q.1 ≤ x ∧ x < q.1 + q.2.1) := by rw [← phit_iff, hq]; simp
      have hc : pcnt x (q :: r) = pcnt x r := by unfold pcnt; rw [List.filter_cons, hq]; simp
      have hd : pidx x (q :: r) = if pidx x r < 0 then -1 else pidx x r + 1 := by rw [pidx, hq]; simp
      refine ⟨fun hx => ?_, fun hx => ?_⟩
      · have hx2 : a + q.2.1 ≤ x ∧ x < z := ⟨by omega, hx.2⟩
        obtain ⟨j1, j2⟩ := i1 hx2
        rw [hc, hd, if_neg (by omega)]
        exact ⟨j1, by omega⟩
      · have hx2 : ¬ (a + q.2.1 ≤ x ∧ x < z) := fun hh => hx ⟨by omega, hh.2⟩
        obtain ⟨j1, j2⟩ := i2 hx2
        rw [hc, hd, if_pos (by omega)]
        exact ⟨j1, rfl⟩
    · obtain ⟨k1, k2⟩ := phit_iff.1 hq
      have hlt := pgo_later h (x := x) (by omega)
      obtain ⟨j1, _⟩ := pcnt_none hlt
      refine ⟨fun _ => ⟨?_, ?_⟩, fun hx => absurd (show a ≤ x ∧ x < z from ⟨by omega, by omega⟩) hx⟩
      · unfold pcnt at j1 ⊢
        rw [List.filter_cons, hq]
        simpa using j1
      · rw [pidx, hq]; simp
theorem pidx_ge (x : Int) : ∀ l : List Pt5, -1 ≤ pidx x l ∧ pidx x l < l.length
  | [] => by simp [pidx]
  | p :: r => by
    have := pidx_ge x r
    unfold pidx
    split
    · exact ⟨by omega, by simp only [List.length_cons]; omega⟩
    · split
      · exact ⟨by omega, by simp only [List.length_cons]; omega⟩
      · exact ⟨by omega, by simp only [List.length_cons]; omega⟩
end Go.Proofs.YtajfnmohlnkncaaGreatDoor

namespace Go.Proofs.YtajfnmohlnkncaaGreatDoor
open Go.RowKit

/-- how many first bytes two texts have in common -/
def cpl : List UInt8 → List UInt8 → Nat
  | x :: a, y :: b => if x = y then cpl a b + 1 else 0
  | _, _ => 0
theorem cpl_le : ∀ a b, cpl a b ≤ a.length ∧ cpl a b ≤ b.length
  | [], b => by simp [cpl]
  | x :: a, [] => by simp [cpl]
  | x :: a, y :: b => by
    have := cpl_le a b
    unfold cpl
    split <;> simp <;> omega
theorem cpl_next : ∀ (a b : List UInt8) (k : Nat), k ≤ a.length → k ≤ b.length → a.take k = b.take k → cpl a b = k + cpl (a.drop k) (b.drop k)
  | a, b, 0, _, _, _ => by simp
  | x :: a, y :: b, k + 1, ha, hb, h => by
    simp only [List.take_succ_cons, List.cons.injEq] at h
    obtain ⟨rfl, h⟩ := h
    have := cpl_next a b k (by simpa using ha) (by simpa using hb) h
    simp only [List.drop_succ_cons]
    rw [cpl, if_pos rfl, this]
    omega
theorem cpl_take : ∀ (a b : List UInt8), a.take (cpl a b) = b.take (cpl a b)
  | [], b => by simp [cpl]
  | x :: a, [] => by simp [cpl]
  | x :: a, y :: b => by
    unfold cpl
    split
    · rename_i h
      subst h
      simp [cpl_take a b]
    · simp
theorem cpl_stop {a b : List UInt8} (h : a = [] ∨ b = [] ∨ a.head? ≠ b.head?) : cpl a b = 0 := by
  rcases a with _ | ⟨x, a⟩
  · simp [cpl]
  · rcases b with _ | ⟨y, b⟩
    · simp [cpl]
    · simp at h
      simp [cpl, h]
theorem cpl_end {a b : List UInt8} {k : Nat} (ha : k ≤ a.length) (hb : k ≤ b.length) (h : a.take k = b.take k) (hs : k = a.length ∨ k = b.length ∨ ∃ (h1 : k < a.length) (h2 : k < b.length), a[k] ≠ b[k]) : cpl a b = k := by
  have hst : List.drop k a = [] ∨ List.drop k b = [] ∨ (List.drop k a).head? ≠ (List.drop k b).head? := by
    rcases hs with rfl | rfl | ⟨h1, h2, h3⟩
    · exact .inl (by simp)
    · exact .inr (.inl (by simp))
    · refine .inr (.inr ?_)
      rw [List.head?_drop, List.head?_drop, List.getElem?_eq_getElem h1, List.getElem?_eq_getElem h2]
      simpa using h3
  rw [cpl_next a b k ha hb h, cpl_stop hst]
  rfl

/-- of kind k, and no data: how many of the first ones -/
def rowGo (k : Int) : List Ce → Nat
  | [] => 0
  | c :: r => if c.1 ≠ 1 ∧ c.1 = k then rowGo k r + 1 else 0
def rowN : List Ce → Nat
  | [] => 0
  | c :: r => rowGo c.1 (c :: r)
theorem rowGo_le (k : Int) : ∀ l, rowGo k l ≤ l.length
  | [] => by simp [rowGo]
  | c :: r => by
    have := rowGo_le k r
    unfold rowGo
    split <;> simp <;> omega
theorem rowN_le (l : List Ce) : rowN l ≤ l.length := by
  cases l
  · simp [rowN]
  · exact rowGo_le _ _
theorem rowGo_end {k : Int} : ∀ {l : List Ce} {n : Nat}, n ≤ l.length → (∀ j (h : j < l.length), j < n → l[j].1 ≠ 1 ∧ l[j].1 = k) → (n = l.length ∨ ∃ h : n < l.length, ¬ (l[n].1 ≠ 1 ∧ l[n].1 = k)) → rowGo k l = n
  | [], n, hn, _, _ => by simp at hn; subst hn; rfl
  | c :: r, 0, _, _, hs => by
    rcases hs with h | ⟨h, hc⟩
    · simp at h
    · simp only [List.getElem_cons_zero] at hc
      unfold rowGo
      rw [if_neg hc]
  | c :: r, n + 1, hn, ha, hs => by
    have h0 := ha 0 (by simp) (by omega)
    simp only [List.getElem_cons_zero] at h0
    unfold rowGo
    rw [if_pos h0, rowGo_end (n := n) (by simpa using hn) (fun j h hj => by have := ha (j + 1) (by simpa using h) (by omega); simp only [List.getElem_cons_succ] at this; exact this)]
    rcases hs with h | ⟨h, hc⟩
    · exact .inl (by simpa using h)
    · exact .inr ⟨by simpa using h, by simp only [List.getElem_cons_succ] at hc; exact hc⟩
/-- the first error -/
def rchk : List Ce → Nat
  | [] => 0
  | c :: r => if cchk c ≠ 0 then cchk c else rchk r
theorem rchk_ok {l : List Ce} (h : ∀ c ∈ l, cchk c = 0) : rchk l = 0 := by
  induction l with
  | nil => rfl
  | cons c r ih =>
    unfold rchk
    rw [if_neg (by simpa using h c (by simp))]
    exact ih fun x hx => h x (by simp [hx])
theorem rchk_at : ∀ {l : List Ce} {k : Nat} (hk : k < l.length), (∀ c ∈ l.take k, cchk c = 0) → cchk l[k] ≠ 0 → rchk l = cchk l[k]
  | c :: r, 0, _, _, h => by
    unfold rchk
    simp only [List.getElem_cons_zero] at h ⊢
    rw [if_pos h]
  | c :: r, k + 1, hk, h, h2 => by
    have h0 := h c (by simp)
    unfold rchk
    rw [if_neg (by simpa using h0)]
    simp only [List.getElem_cons_succ] at h2 ⊢
    exact rchk_at (by simpa using hk) (fun x hx => h x (by simp [hx])) h2

/-- the bytes of a run, without its length, behind the data 'last' -/
def prun (last : List UInt8) : List Ce → List UInt8
  | [] => []
  | c :: r => if 0 < rowN (c :: r) then vb (rowN (c :: r)) ++ vb c.1.toNat ++ prun last ((c :: r).drop (rowN (c :: r)))
    else vb 0 ++ vb c.2.length ++ vb (cpl last c.2) ++ c.2.drop (cpl last c.2) ++ prun c.2 r
  termination_by l => l.length
  decreasing_by
    · simp only [List.length_drop, List.length_cons]; omega
    · simp
theorem prun_row {last : List UInt8} {l : List Ce} (h : 0 < rowN l) : ∃ k : Int, (∃ r d, l = (k, d) :: r) ∧ prun last l = vb (rowN l) ++ vb k.toNat ++ prun last (l.drop (rowN l)) := by
  cases l with
  | nil => simp [rowN] at h
  | cons c r =>
    refine ⟨c.1, ⟨r, c.2, rfl⟩, ?_⟩
    rw [prun, if_pos h]
theorem prun_data {last : List UInt8} {c : Ce} {r : List Ce} (h : rowN (c :: r) = 0) : prun last (c :: r) = vb 0 ++ vb c.2.length ++ vb (cpl last c.2) ++ c.2.drop (cpl last c.2) ++ prun c.2 r := by
  rw [prun, if_neg (by omega)]
theorem rowN_zero {c : Ce} {r : List Ce} : rowN (c :: r) = 0 ↔ c.1 = 1 := by
  unfold rowN rowGo
  by_cases h : c.1 = 1
  · simp [h]
  · simp [h]
end Go.Proofs.YtajfnmohlnkncaaGreatDoor

namespace Go.Proofs.YtajfnmohlnkncaaGreatDoor
open Go.RowKit

theorem cpl_comm : ∀ a b, cpl a b = cpl b a
  | [], [] => rfl
  | [], y :: b => rfl
  | x :: a, [] => rfl
  | x :: a, y :: b => by
    unfold cpl
    by_cases h : x = y
    · subst h; rw [if_pos rfl, if_pos rfl, cpl_comm a b]
    · rw [if_neg h, if_neg (fun e => h e.symm)]
abbrev b1 (n : Nat) : UInt8 := UInt8.ofNat n
/-- cell by cell, the kind of the one ahead known -/
def rgo (prev : Option Int) (last : List UInt8) : List Ce → List UInt8
  | [] => []
  | c :: r => if c.1 = 1 then [0, b1 c.2.length, b1 (cpl c.2 last)] ++ c.2.drop (cpl c.2 last) ++ rgo (some 1) c.2 r
    else if prev = some c.1 then rgo (some c.1) last r else [b1 (rowGo c.1 (c :: r)), b1 c.1.toNat] ++ rgo (some c.1) last r
theorem rgo_skip {k : Int} (hk : k ≠ 1) (last : List UInt8) : ∀ l : List Ce, rgo (some k) last l = rgo (some k) last (l.drop (rowGo k l))
  | [] => by simp
  | c :: r => by
    by_cases h : c.1 = k
    · have h1 : c.1 ≠ 1 := by omega
      rw [rowGo, if_pos ⟨h1, h⟩, List.drop_succ_cons, rgo, if_neg h1, if_pos (by rw [h]), h]
      exact rgo_skip hk last r
    · rw [rowGo, if_neg (fun e => h e.2), List.drop_zero]
theorem rowGo_stop (k : Int) : ∀ (l : List Ce) (c : Ce) (r : List Ce), l.drop (rowGo k l) = c :: r → ¬ (c.1 ≠ 1 ∧ c.1 = k)
  | [], c, r, h => by simp at h
  | x :: l, c, r, h => by
    by_cases hx : x.1 ≠ 1 ∧ x.1 = k
    · rw [rowGo, if_pos hx, List.drop_succ_cons] at h
      exact rowGo_stop k l c r h
    · rw [rowGo, if_neg hx, List.drop_zero] at h
      injection h with h1 h2
      subst h1
      exact hx
theorem rgo_prev {prev : Option Int} (last : List UInt8) {l : List Ce} (h : ∀ c r, l = c :: r → c.1 = 1 ∨ prev ≠ some c.1) : rgo prev last l = rgo none last l := by
  cases l with
  | nil => simp [rgo]
  | cons c r =>
    rw [rgo, rgo]
    by_cases h1 : c.1 = 1
    · rw [if_pos h1, if_pos h1]
    · have h2 := (h c r rfl).resolve_left h1
      rw [if_neg h1, if_neg h1, if_neg h2, if_neg (by simp)]
theorem rgo_prun : ∀ (n : Nat) (l : List Ce) (last : List UInt8), l.length ≤ n → l.length ≤ 64 → (∀ c ∈ l, cchk c = 0) → last.length ≤ 64 → rgo none last l = prun last l
  | _, [], last, _, _, _, _ => by rw [rgo, prun]
  | 0, c :: r, _, h, _, _, _ => by simp at h
  | n + 1, c :: r, last, hn, h64, hok, hl => by
    have hc := cchk_ok (hok c (by simp))
    have hcl := cpl_le last c.2
    simp only [List.length_cons] at hn h64
    by_cases h1 : c.1 = 1
    · rw [rgo, if_pos h1, prun_data (rowN_zero.2 h1), vb_small (by omega), vb_small (n := c.2.length) (by omega), vb_small (n := cpl last c.2) (by omega), cpl_comm c.2 last]
      rw [rgo_prev (prev := some 1) c.2 (fun x r' h => by
        by_cases hx : x.1 = 1
        · exact .inl hx
        · exact .inr (fun e => hx (by injection e with e; omega)))]
      rw [rgo_prun n r c.2 (by omega) (by omega) (fun x hx => hok x (by simp [hx])) (by omega)]
      rfl
    · have hrow : rowN (c :: r) = rowGo c.1 (c :: r) := rfl
      have hpos : 0 < rowN (c :: r) := by
        have := rowN_zero (c := c) (r := r)
        omega
      have hle := rowN_le (c :: r)
      simp only [List.length_cons] at hle
      obtain ⟨k, ⟨r', d, hk⟩, hp⟩ := prun_row (last := last) hpos
      injection hk with hk1 hk2
      have hkc : k = c.1 := by rw [hk1]
      subst hkc
      rw [hp, rgo, if_neg h1, if_neg (by simp), vb_small (n := rowN (c :: r)) (by omega), vb_small (n := c.1.toNat) (by omega), ← hrow]
      have hskip := rgo_skip h1 last r
      have hd : (c :: r).drop (rowN (c :: r)) = r.drop (rowGo c.1 r) := by
        rw [hrow, rowGo, if_pos ⟨h1, rfl⟩, List.drop_succ_cons]
      rw [hskip, hd, rgo_prev (prev := some c.1) last (fun x r' h => by
        have := rowGo_stop c.1 r x r' h
        by_cases hx : x.1 = 1
        · exact .inl hx
        · exact .inr (fun e => this ⟨hx, by injection e with e; exact e.symm⟩))]
      rw [rgo_prun n (r.drop (rowGo c.1 r)) last (by simp; omega) (by simp; omega) (fun x hx => hok x (by simp [List.mem_of_mem_drop hx])) hl]
      rfl
end Go.Proofs.YtajfnmohlnkncaaGreatDoor

namespace Go.Proofs.YtajfnmohlnkncaaGreatDoor
open Go.RowKit

theorem step_append {P : Program} {w : World} {ops : Array Oper} {o : Oper} {a : Act} {K : Act → World → Prop} {Q : Exit → Act → World → Prop} {E : Prop} (hw : Region.wanted o (yielded ops a.tmps) = true) (s x : Operand) (t : TypeId)
    (ho : o.op = .call { callee := .builtin .append, args := #[s, x], argTypes := #[t, t] })
    (base : Nat) (e : TypeId) (i : TypeInfo) (z : Value) (size bytes : Nat) (ht : P.underlying t = some (.slice e)) (hi : P.info? e = some i) (hz : i.zero = some z)
    (hsize : i.size = size) (hby : i.bytes = bytes) (hzs : z.cells.size = size) (hsz : 0 < size)
    (A : Option Addr) (n c : Nat) (xs : List Value) (hs : a.eval s = .slice A n c) (hown : Own w base e size A n c xs)
    (A2 : Option Addr) (m c2 : Nat) (news : List Value) (hx : a.eval x = .slice A2 m c2) (hr : Sl w size A2 m c2 news) (h1 : ∀ u ∈ news, u.oneCell' = true)
    (hbytes : (n + m) * bytes ≤ 140737488355328) (hmax : n + m ≤ maxLen) (hbase : base ≤ w.heap.size)
    (h : ∀ A' c' w', Appd w w' base e size A A' (n + m) c' (xs ++ news) → K (a.put o.dst (.slice A' (n + m) c')) w') :
    if Region.wanted o (yielded ops a.tmps) = true then Oper.wp P o a w K Q else E := by
  rw [if_pos hw]
  obtain ⟨A', c', w', hrun, h2⟩ := run_append_rd (P := P) w base t o.type e i z size bytes ht hi hz hsize hby hzs hsz A n c xs hown A2 m c2 news hr h1 hbytes hmax hbase
  unfold Oper.wp execOp
  simp only [ho, resolve, invoke, builtin, Sem.run_bind, Sem.run_pure, Result.andThen_ok, List.map_toArray, List.map_cons, List.map_nil, hs, hx, hrun]
  exact h A' c' w' h2
/-- append of bytes at a step of a region that draws -/
theorem step_bytes {P : Program} {w : World} {ops : Array Oper} {o : Oper} {a : Act} {K : Act → World → Prop} {Q : Exit → Act → World → Prop} {E : Prop} (t e : TypeId) (ht : P.underlying t = some (.slice e))
    (hinfo : (P.info? e).map (fun i => (i.zero, i.size, i.bytes)) = some (some (.int .u8 0), 1, 1)) (hw : Region.wanted o (yielded ops a.tmps) = true) (s x : Operand)
    (ho : o.op = .call { callee := .builtin .append, args := #[s, x], argTypes := #[t, t] })
    (base : Nat) (A : Option Addr) (c : Nat) (l : List UInt8) (hs : a.eval s = .slice A l.length c) (hown : OwnB w base e A c l)
    (A2 : Option Addr) (c2 n2 : Nat) (l2 : List UInt8) (hn2 : n2 = l2.length) (hx : a.eval x = .slice A2 n2 c2) (hr : SlB w A2 c2 l2)
    (hlen : l.length + l2.length ≤ 140737488355328) (hbase : base ≤ w.heap.size)
    (h : ∀ A' c' (m : List UInt8) w', Hid (m = l ++ l2) → OwnB w' base e A' c' m → Below base w w' → K (a.put o.dst (.slice A' m.length c')) w') :
    if Region.wanted o (yielded ops a.tmps) = true then Oper.wp P o a w K Q else E := by
  subst hn2
  obtain ⟨i0, hi, hz0, hz1, hz2⟩ := info_parts hinfo
  refine step_append hw s x t ho base e i0 (.int .u8 0) 1 1 ht hi hz0 hz1 hz2 rfl (by decide) A l.length c (bvs l) hs hown A2 l2.length c2 (bvs l2) hx hr (one_bvs l2) (by omega) (by simp only [maxLen]; omega) hbase ?_
  intro A' c' w' hap
  rw [← List.length_append]
  refine h A' c' (l ++ l2) w' rfl ?_ (hap.below hown hbase)
  have := hap.own
  simpa [OwnB] using this
end Go.Proofs.YtajfnmohlnkncaaGreatDoor

namespace Go.Proofs.YtajfnmohlnkncaaGreatDoor
open Go.RowKit
attribute [local go_sem ↓] Go.wp_at_zero Go.wp_at_succ

/-- one byte, laid in a block of its own -/
theorem Own.lits1 {w : World} {g : Nat} (hg : g = w.heap.size) (e : TypeId) (b : UInt8) : OwnB (w.alloc (.cells #[bv b] e)) w.heap.size e (some ⟨g, 0, none⟩) 1 [b] := by
  subst hg
  exact World.ownsRow_lit w #[bv b] 1 (Nat.le_refl _) (by simp [maxLen]) (by simp)
end Go.Proofs.YtajfnmohlnkncaaGreatDoor

namespace Go.Proofs.YtajfnmohlnkncaaGreatDoor
open Go.RowKit
attribute [local go_sem ↓] Go.wp_at_zero Go.wp_at_succ


theorem u8_eq_iff {x y : UInt8} : ((x.toNat : Int) == (y.toNat : Int)) = true ↔ x = y := by
  rw [beq_iff_eq]
  constructor
  · intro h; exact UInt8.toNat_inj.1 (by omega)
  · rintro rfl; rfl
set_option maxRecDepth 100000 in
set_option maxHeartbeats 1000000 in
theorem alike_any (A B : Option Addr) (c d : Nat) (xs ys : List UInt8) (w : World) (ha : SlB w A c xs) (hb : SlB w B d ys) :
    Calls Tryz.prog 132 #[.slice A xs.length c, .slice B ys.length d] w fun e w' => e = .returned (.int .i64 (cpl xs ys : Nat)) ∧ Below w.heap.size w w' := by
  have hm1 := ha.len_le
  have hm2 := hb.len_le
  unfold maxLen at hm1 hm2
  go_enter Tryz.func132, Tryz.ntmps132
  go_wp2_with fail
  go_loopw [5] (fun x wr => ∃ k : Nat, k ≤ xs.length ∧ k ≤ ys.length ∧ x = .int .i64 k ∧ Hid (xs.take k = ys.take k) ∧ Below w.heap.size w wr) (fun x w => xs.length - (intOf x).toNat)
  case atStart => exact ⟨0, Nat.zero_le _, Nat.zero_le _, rfl, (show _ = _ by simp), Below.refl _ _⟩
  case round =>
    obtain ⟨k, hk1, hk2, rfl, ht, hbr⟩ := hrel
    rcases Decidable.em (k < xs.length ∧ k < ys.length) with hlt | hlt
    · obtain ⟨hl1, hl2⟩ := hlt
      obtain ⟨ad, rfl, hc⟩ := (ha.below hbr).at1 hl1
      obtain ⟨ad2, rfl, hc2⟩ := (hb.below hbr).at1 hl2
      have hts := Lib.hid (take_succ_eq ht.out hl1 hl2)
      have hend := Lib.hid (fun h => cpl_end hk1 hk2 ht.out (.inr (.inr ⟨hl1, hl2, h⟩)))
      have hmin : decide ((k : Int) < min (xs.length : Int) (ys.length : Int)) = true := by simp; omega
      generalize xs[k] = x at *
      generalize ys[k] = y at *
      by_cases hxy : x = y
      · have hxb : ((x.toNat : Int) == (y.toNat : Int)) = true := u8_eq_iff.2 hxy
        have Hxy := Lib.hid hxy
        clear hxy
        go_wp2_with fail
        go_quiet (fail)
        go_wp2_with fail
        go_roundw
        case rel => exact ⟨k + 1, hl1, hl2, by go_num, hts.out.2 Hxy.out, below_drewN hbr _⟩
        case measure => simp [intOf]; omega
      · have hxb : ((x.toNat : Int) == (y.toNat : Int)) = false := by rw [Bool.eq_false_iff]; exact fun h => hxy (u8_eq_iff.1 h)
        have he := Lib.hid (hend.out hxy)
        clear hxy
        go_wp2_with fail
        go_quiet (fail)
        go_wp2_with fail
        go_ret
        exact ⟨by rw [he.out]; rfl, below_drewN hbr _⟩
    · have hmin : decide ((k : Int) < min (xs.length : Int) (ys.length : Int)) = false := by simp; omega
      have he := Lib.hid (cpl_end hk1 hk2 ht.out (by omega))
      go_wp2_with fail
      go_quiet (fail)
      go_wp2_with fail
      go_ret
      exact ⟨by rw [he.out]; rfl, below_drewN hbr _⟩

set_option maxRecDepth 100000 in
set_option maxHeartbeats 1000000 in
theorem row_any {E : Option Addr} {cap : Nat} (l : List CeV) (w : World) (h : SlC w E cap l) : Calls Tryz.prog 131 #[.slice E l.length cap] w fun e w' => e = .returned (.int .i64 (rowN (l.map ceOf) : Nat)) ∧ Below w.heap.size w w' := by
  have hmax := h.1.len_le
  unfold maxLen at hmax
  rcases Nat.eq_zero_or_pos l.length with h0 | hpos
  · obtain rfl := List.eq_nil_of_length_eq_zero h0
    clear h0
    go_enter Tryz.func131, Tryz.ntmps131
    go_wp2_with fail
    refine wp_loop_rounds 1 ?_
    rw [rounds_succ]
    have hlt : decide ((0 : Int) < 0) = false := by decide
    go_wp2_with fail
    go_quiet (fail)
    go_wp2_with fail
    go_ret
    exact ⟨rfl, below_drewN (Below.refl _ _) _⟩
  · have hend : ∀ n, n ≤ (l.map ceOf).length → (∀ j (h : j < (l.map ceOf).length), j < n → (l.map ceOf)[j].1 ≠ 1 ∧ (l.map ceOf)[j].1 = (l[0]'hpos).1) → (n = (l.map ceOf).length ∨ ∃ h : n < (l.map ceOf).length, ¬ ((l.map ceOf)[n].1 ≠ 1 ∧ (l.map ceOf)[n].1 = (l[0]'hpos).1)) → rowGo (l[0]'hpos).1 (l.map ceOf) = n := fun n hn ha hs => rowGo_end hn ha hs
    have hrow : rowN (l.map ceOf) = rowGo (l[0]'hpos).1 (l.map ceOf) := by
      cases l
      · simp at hpos
      · rfl
    obtain ⟨ad0, b0, o0, hE0, had0, hc00, _, _⟩ := h.at2 (k := 0) hpos
    have HE := Lib.hid hend
    have HR := Lib.hid hrow
    clear hend hrow
    obtain rfl : ad0 = ⟨b0, o0, none⟩ := by simpa [Addr.add] using had0
    subst hE0
    generalize l[0].1 = k0 at *
    clear had0
    go_enter Tryz.func131, Tryz.ntmps131
    go_wp2_with fail
    go_loopw [3] (fun x wr => ∃ n : Nat, n ≤ l.length ∧ x = .int .i64 n ∧ Hid (∀ j (h : j < (l.map ceOf).length), j < n → (l.map ceOf)[j].1 ≠ 1 ∧ (l.map ceOf)[j].1 = k0) ∧ Below w.heap.size w wr) (fun x w => l.length - (intOf x).toNat)
    case atStart => exact ⟨0, Nat.zero_le _, rfl, (fun j _ hj => by omega), Below.refl _ _⟩
    case round =>
      obtain ⟨n, hn, rfl, hall, hbr⟩ := hrel
      have hbl := World.block_lt_of_cell? w _ hc00
      have hc00r := (hbr.cell (p := ⟨b0, o0, none⟩) hbl).trans hc00
      by_cases hlt : n < l.length
      · obtain ⟨ad, b, o, hE, had, hc0, _, _⟩ := (h.below hbr).at2 hlt
        injection hE with hE
        subst hE
        rw [addr_lit] at had
        injection had with hb hoo
        subst hb
        subst hoo
        have hst := Lib.hid (fun hc => HE.out n (by simpa using hn) hall.out (.inr ⟨by simpa using hlt, by simpa using hc⟩))
        have hnx : Hid (l[n].1 ≠ 1 → l[n].1 = k0 → ∀ j (h : j < (l.map ceOf).length), j < n + 1 → (l.map ceOf)[j].1 ≠ 1 ∧ (l.map ceOf)[j].1 = k0) := (show _ → _ → _ from fun h1 h2 j hj hjn => by
          by_cases e : j = n
          · subst e; simpa using ⟨h1, h2⟩
          · exact hall.out j hj (by omega))
        generalize l[n].1 = k at *
        rcases Decidable.em (k = 1) with h1 | h1
        · have hb1 : (k != 1) = false := by simpa using h1
          have hR := Lib.hid (hst.out (fun h => absurd h1 h))
          clear h1
          go_wp2_with fail
          go_quiet (fail)
          go_wp2_with fail
          go_ret
          exact ⟨by rw [HR.out, hR.out]; rfl, below_drewN hbr _⟩
        · have hb1 : (k != 1) = true := by simpa using h1
          rcases Decidable.em (k = k0) with h2 | h2
          · have hb2 : (k == k0) = true := by simpa using h2
            have hN := Lib.hid (hnx.out h1 h2)
            clear h1 h2
            go_wp2_with fail
            go_quiet (fail)
            go_wp2_with fail
            go_roundw
            case rel => exact ⟨n + 1, hlt, by go_num, hN.out, below_drewN hbr _⟩
            case measure => simp [intOf]; omega
          · have hb2 : (k == k0) = false := by simpa using h2
            have hR := Lib.hid (hst.out (fun _ => h2))
            clear h1 h2
            go_wp2_with fail
            go_quiet (fail)
            go_wp2_with fail
            go_ret
            exact ⟨by rw [HR.out, hR.out]; rfl, below_drewN hbr _⟩
      · have hR := Lib.hid (HE.out n (by simpa using hn) hall.out (.inl (by simp; omega)))
        go_wp2_with fail
        go_quiet (fail)
        go_wp2_with fail
        go_ret
        exact ⟨by rw [HR.out, hR.out]; rfl, below_drewN hbr _⟩
end Go.Proofs.YtajfnmohlnkncaaGreatDoor
