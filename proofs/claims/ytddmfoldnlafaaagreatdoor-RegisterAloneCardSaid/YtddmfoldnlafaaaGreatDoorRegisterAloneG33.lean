/- WHAT IT HOLDS: the law RegisterAlone for every input, walked. | WHAT IT HOLDS: arguments that are segments, arrays, opened to the words of Kit. | WHAT IT HOLDS: a slice of numbers as an argument. -/
import Derived.Test.YtddmfoldnlafaaaGreatDoorRegisterAloneG32
import Derived.Test.YtddmfoldnlafaaaGreatDoorRegisterAloneG11
import Derived.Test.YtddmfoldnlafaaaGreatDoorRegisterAloneG03
namespace Go.Proofs.YtddmfoldnlafaaaGreatDoor
open Go.RowKit Go.Maps Go.Sort
attribute [local go_sem ↓] Go.wp_at_zero Go.wp_at_succ

set_option maxRecDepth 100000 in
set_option maxHeartbeats 2000000 in
theorem ralone_all {A Z : Option Addr} {c z : Nat} {s : List RA} {zs : List Int} {t0 t1 : Int} (w : World) (h : SlRA w A c s) (hz : Sl w 1 Z zs.length z (zs.map iv)) :
    Calls Tryz.prog 4 #[.agg #[.int .i64 t0, .int .i64 t1], .slice A s.length c, .slice Z zs.length z] w fun e w' => e = .returned (.bool true) ∧ Below w.heap.size w w' := by
  rcases hlg : raLong s 40 with _ | _
  · by_cases h1 : zs.length ≤ 40
    · by_cases h2 : 1 ≤ t0
      · by_cases h3 : t0 ≤ 1073741824
        · by_cases h4 : 0 ≤ t1
          · by_cases h5 : t1 ≤ 1073741824
            · exact ralone_walk w h hz hlg h1 h2 h3 h4 h5
            · have j1 : ¬ (40 < (zs.length : Int)) := by omega
              have j2 : ¬ (t0 < 1) := by omega
              have j3 : ¬ (1073741824 < t0) := by omega
              have j4 : ¬ (t1 < 0) := by omega
              have j5 : 1073741824 < t1 := by omega
              clear h1 h2 h3 h4 h5
              have hb0 := below_new w (.cells #[.int .i64 t0, .int .i64 t1] 48)
              have hB0 := Blk.new w 48 #[.int .i64 t0, .int .i64 t1]
              have H := Lib.hid h
              have HLg := fun W (hh : SlRA W A c s) => RaLong_any W hh 40
              rw [hlg] at HLg
              replace HLg := Lib.hid HLg
              clear h hlg hz
              go_enter Tryz.func4, Tryz.ntmps4
              go_wp2_with fail
              refine (AliveR_any _).mono ?_
              rintro e w1 ⟨rfl, hb1⟩
              have hb2 := bel_call hb0 hb1
              have hB2 := hB0.below hb1
              go_wp2_with fail
              refine (HLg.out _ (H.out.below hb2)).mono ?_
              rintro e w2 ⟨rfl, hb3⟩
              have hb := bel_call hb2 hb3
              obtain ⟨m0, m1, -⟩ := Blk.two (hB2.below hb3)
              go_wp2_with fail
              go_ret
              exact ⟨rfl, hb⟩
          · have j1 : ¬ (40 < (zs.length : Int)) := by omega
            have j2 : ¬ (t0 < 1) := by omega
            have j3 : ¬ (1073741824 < t0) := by omega
            have j4 : t1 < 0 := by omega
            clear h1 h2 h3 h4
            have hb0 := below_new w (.cells #[.int .i64 t0, .int .i64 t1] 48)
            have hB0 := Blk.new w 48 #[.int .i64 t0, .int .i64 t1]
            have H := Lib.hid h
            have HLg := fun W (hh : SlRA W A c s) => RaLong_any W hh 40
            rw [hlg] at HLg
            replace HLg := Lib.hid HLg
            clear h hlg hz
            go_enter Tryz.func4, Tryz.ntmps4
            go_wp2_with fail
            refine (AliveR_any _).mono ?_
            rintro e w1 ⟨rfl, hb1⟩
            have hb2 := bel_call hb0 hb1
            have hB2 := hB0.below hb1
            go_wp2_with fail
            refine (HLg.out _ (H.out.below hb2)).mono ?_
            rintro e w2 ⟨rfl, hb3⟩
            have hb := bel_call hb2 hb3
            obtain ⟨m0, m1, -⟩ := Blk.two (hB2.below hb3)
            go_wp2_with fail
            go_ret
            exact ⟨rfl, hb⟩
        · have j1 : ¬ (40 < (zs.length : Int)) := by omega
          have j2 : ¬ (t0 < 1) := by omega
          have j3 : 1073741824 < t0 := by omega
          clear h1 h2 h3
          have hb0 := below_new w (.cells #[.int .i64 t0, .int .i64 t1] 48)
          have hB0 := Blk.new w 48 #[.int .i64 t0, .int .i64 t1]
          have H := Lib.hid h
          have HLg := fun W (hh : SlRA W A c s) => RaLong_any W hh 40
          rw [hlg] at HLg
          replace HLg := Lib.hid HLg
          clear h hlg hz
          go_enter Tryz.func4, Tryz.ntmps4
          go_wp2_with fail
          refine (AliveR_any _).mono ?_
          rintro e w1 ⟨rfl, hb1⟩
          have hb2 := bel_call hb0 hb1
          have hB2 := hB0.below hb1
          go_wp2_with fail
          refine (HLg.out _ (H.out.below hb2)).mono ?_
          rintro e w2 ⟨rfl, hb3⟩
          have hb := bel_call hb2 hb3
          obtain ⟨m0, m1, -⟩ := Blk.two (hB2.below hb3)
          go_wp2_with fail
          go_ret
          exact ⟨rfl, hb⟩
      · have j1 : ¬ (40 < (zs.length : Int)) := by omega
        have j2 : t0 < 1 := by omega
        clear h1 h2
        have hb0 := below_new w (.cells #[.int .i64 t0, .int .i64 t1] 48)
        have hB0 := Blk.new w 48 #[.int .i64 t0, .int .i64 t1]
        have H := Lib.hid h
        have HLg := fun W (hh : SlRA W A c s) => RaLong_any W hh 40
        rw [hlg] at HLg
        replace HLg := Lib.hid HLg
        clear h hlg hz
        go_enter Tryz.func4, Tryz.ntmps4
        go_wp2_with fail
        refine (AliveR_any _).mono ?_
        rintro e w1 ⟨rfl, hb1⟩
        have hb2 := bel_call hb0 hb1
        have hB2 := hB0.below hb1
        go_wp2_with fail
        refine (HLg.out _ (H.out.below hb2)).mono ?_
        rintro e w2 ⟨rfl, hb3⟩
        have hb := bel_call hb2 hb3
        obtain ⟨m0, m1, -⟩ := Blk.two (hB2.below hb3)
        go_wp2_with fail
        go_ret
        exact ⟨rfl, hb⟩
    · have j1 : 40 < (zs.length : Int) := by omega
      clear h1
      have hb0 := below_new w (.cells #[.int .i64 t0, .int .i64 t1] 48)
      have hB0 := Blk.new w 48 #[.int .i64 t0, .int .i64 t1]
      have H := Lib.hid h
      have HLg := fun W (hh : SlRA W A c s) => RaLong_any W hh 40
      rw [hlg] at HLg
      replace HLg := Lib.hid HLg
      clear h hlg hz
      go_enter Tryz.func4, Tryz.ntmps4
      go_wp2_with fail
      refine (AliveR_any _).mono ?_
      rintro e w1 ⟨rfl, hb1⟩
      have hb2 := bel_call hb0 hb1
      have hB2 := hB0.below hb1
      go_wp2_with fail
      refine (HLg.out _ (H.out.below hb2)).mono ?_
      rintro e w2 ⟨rfl, hb3⟩
      have hb := bel_call hb2 hb3
      obtain ⟨m0, m1, -⟩ := Blk.two (hB2.below hb3)
      go_wp2_with fail
      go_ret
      exact ⟨rfl, hb⟩
  · have hb0 := below_new w (.cells #[.int .i64 t0, .int .i64 t1] 48)
    have hB0 := Blk.new w 48 #[.int .i64 t0, .int .i64 t1]
    have H := Lib.hid h
    have HLg := fun W (hh : SlRA W A c s) => RaLong_any W hh 40
    rw [hlg] at HLg
    replace HLg := Lib.hid HLg
    clear h hlg hz
    go_enter Tryz.func4, Tryz.ntmps4
    go_wp2_with fail
    refine (AliveR_any _).mono ?_
    rintro e w1 ⟨rfl, hb1⟩
    have hb2 := bel_call hb0 hb1
    have hB2 := hB0.below hb1
    go_wp2_with fail
    refine (HLg.out _ (H.out.below hb2)).mono ?_
    rintro e w2 ⟨rfl, hb3⟩
    have hb := bel_call hb2 hb3
    obtain ⟨m0, m1, -⟩ := Blk.two (hB2.below hb3)
    go_wp2_with fail
    go_ret
    exact ⟨rfl, hb⟩
end Go.Proofs.YtddmfoldnlafaaaGreatDoor

namespace Go.Proofs.YtddmfoldnlafaaaGreatDoor
open Go.ChangeShapes Go.WideShapes Go.ChangeAt Go.RowKit Go.Deep

/-- a slice of structs of one-cell fields, as a struct's field -/
theorem open_structsF {H : Type} {enc : TypeId × Value → H} {P : Program} {w : World} {base : Nat} {held : Bool} {t e : TypeId} {v : Value} {fs : Array Field}
    {T : Type} (f : T → List Value) (Q : T → Prop) (hfl : ∀ x, (f x).length = fs.size)
    (ht : P.underlying t = some (.slice e)) (he : P.underlying e = some (.struct fs)) (hone : oneCellFields P fs = true) (hC : P.cellsOf e = fs.size)
    (hel : ∀ vs : List Value, vs.length = fs.size → (∀ (j : Nat) (fd : Field), fs[j]? = some fd → ∃ (u : Value) (n : Nat) (y : DataW H × List MemPlace), vs[j]? = some u ∧ DataW.trod enc P w base (fun _ => true) held n fd.type [u] = some y) → ∃ x : T, f x = vs ∧ Q x)
    {fuel : Nat} {yy : DataW H × List MemPlace} (hf : DataW.trod enc P w base (fun _ => true) held fuel t [v] = some yy) :
    ∃ (A : Option Addr) (c : Nat) (l : List T), v = .slice A l.length c ∧ Sl w fs.size A l.length c (l.flatMap f) ∧ ∀ x ∈ l, Q x := by
  rcases open_slice_fields ht he hone hC hf with ⟨hcs, _⟩ | ⟨a, n, c, m, D, Pl, hcs, _, hl, hm, hmm, _, hi⟩
  · simp at hcs
    subst hcs
    exact ⟨none, 0, [], rfl, by simpa using Sl.none_ w fs.size, fun x hx => by simp at hx⟩
  · simp at hcs
    subst hcs
    simp only [if_true] at hmm
    subst hmm
    have hx : ∀ i, i < n → ∃ x : T, Q x ∧ ∀ j u, (f x)[j]? = some u → w.cell? (a.add (i * fs.size + j)) = some u := by
      intro i hin
      obtain ⟨ys, nn, _, _, _, hfd⟩ := hi i (by omega)
      have hc : ∀ j, j < fs.size → ∃ u : Value, w.cell? (a.add (i * fs.size + j)) = some u ∧ ∃ y : DataW H × List MemPlace, DataW.trod enc P w base (fun _ => true) held nn (fs[j]!).type [u] = some y := by
        intro j hj
        obtain ⟨u, y, h1, _, h3⟩ := hfd j fs[j] (by simp [hj])
        exact ⟨u, h1, y, by simpa [hj] using h3⟩
      obtain ⟨vs, hvl, hvr⟩ := list_choice (fun j u => w.cell? (a.add (i * fs.size + j)) = some u ∧ ∃ y : DataW H × List MemPlace, DataW.trod enc P w base (fun _ => true) held nn (fs[j]!).type [u] = some y) fs.size hc
      obtain ⟨x, hxe, hxq⟩ := hel vs hvl fun j fd hj => by
        have hjl : j < fs.size := (Array.getElem?_eq_some_iff.1 hj).1
        obtain ⟨_, y, hy⟩ := hvr j (by omega)
        have hfe : fs[j]! = fd := by
          have := (Array.getElem?_eq_some_iff.1 hj).2
          simp [hjl, this]
        rw [hfe] at hy
        exact ⟨vs[j], nn, y, List.getElem?_eq_getElem (by omega), hy⟩
      refine ⟨x, hxq, fun j u hj => ?_⟩
      rw [hxe] at hj
      obtain ⟨hjl, hju⟩ := List.getElem?_eq_some_iff.1 hj
      rw [← hju]
      exact (hvr j hjl).1
    obtain ⟨l, hll, hlr⟩ := list_choice _ n hx
    refine ⟨some a, _, l, by rw [hll], ⟨flat_len hfl l, by omega, hm, (fun h => by cases h), fun j u hj => ⟨a, rfl, ?_⟩⟩, fun x hx => ?_⟩
    · rcases Nat.eq_zero_or_pos fs.size with h0 | h0
      · have := (List.getElem?_eq_some_iff.1 hj).1
        rw [flat_len hfl, h0] at this
        omega
      · have hjl := (List.getElem?_eq_some_iff.1 hj).1
        rw [flat_len hfl] at hjl
        have hk : j / fs.size < l.length := by rw [Nat.div_lt_iff_lt_mul h0]; exact hjl
        have hr : j % fs.size < fs.size := Nat.mod_lt _ h0
        have he := flat_get hfl l (j / fs.size) (j % fs.size) hk hr
        have hj2 : j / fs.size * fs.size + j % fs.size = j := by rw [Nat.mul_comm]; exact Nat.div_add_mod _ _
        rw [hj2, hj] at he
        have := (hlr _ hk).2 _ _ he.symm
        rwa [hj2] at this
    · obtain ⟨i, hi, rfl⟩ := List.getElem_of_mem hx
      exact (hlr i hi).1

section
variable {H : Type} {enc : TypeId × Value → H} {P : Program} {w : World} {base b0 : Nat} {held : Bool} {r : Reach} {t e b u : TypeId} {v : Value} {d : DataW H} {p : List MemPlace}
theorem open_seg {g0 g1 f0 f1 : Field} (hs : P.underlying t = some (.struct #[g0, g1])) (hg0 : P.underlying g0.type = some (.int .i64)) (hg1 : P.underlying g1.type = some (.slice b)) (hb : P.underlying b = some (.struct #[f0, f1])) (h0 : P.underlying f0.type = some (.int .i64)) (h1 : P.underlying f1.type = some (.slice e)) (he : P.underlying e = some (.int .u8))
    (hCe : P.cellsOf e = 1) (hone : oneCellFields P #[f0, f1] = true) (hC : P.cellsOf b = 2) (hone2 : oneCellFields P #[g0, g1] = true) (hC2 : P.cellsOf t = 2) (hv : Value.okWide P w r b0 t v) (h : DataW.Trod enc P w base (fun _ => true) held t v d p) :
    ∃ (k : Int) (A : Option Addr) (c : Nat) (l : List CeV), v = cv k A l.length c ∧ SlC w A c l := by
  obtain ⟨v0, v1, y0, y1, n, rfl, _, _, q0, q1⟩ := Go.Joins.open_agg2 hs hone2 hC2 hv h
  obtain ⟨k, rfl, hk⟩ := int_cell hg0 q0
  obtain ⟨A, c, l, rfl, hl, hq⟩ := open_structsF cf (fun x => I64 x.1 ∧ SlB w x.2.1 x.2.2.1 x.2.2.2) (fun _ => rfl) hg1 hb hone hC (by
    intro vs hl hf
    obtain ⟨u0, n0, y0, e0, t0⟩ := hf 0 f0 rfl
    obtain ⟨u1, n1, y1, e1, t1⟩ := hf 1 f1 rfl
    obtain ⟨k, rfl, hk⟩ := int_cell h0 t0
    obtain ⟨A, c, l, rfl, hb⟩ := bytes_cell h1 he hCe t1
    match vs, hl with
    | [x0, x1], _ =>
      simp at e0 e1
      exact ⟨(k, A, c, l), by simp [cf, e0, e1], hk, hb⟩) q1
  exact ⟨k, A, c, l, rfl, ⟨hl, fun x hx => (hq x hx).2⟩⟩
theorem open_segI {g0 g1 f0 f1 : Field} (hs : P.underlying t = some (.struct #[g0, g1])) (hg0 : P.underlying g0.type = some (.int .i64)) (hg1 : P.underlying g1.type = some (.slice b)) (hb : P.underlying b = some (.struct #[f0, f1])) (h0 : P.underlying f0.type = some (.int .i64)) (h1 : P.underlying f1.type = some (.slice e)) (he : P.underlying e = some (.int .u8))
    (hCe : P.cellsOf e = 1) (hone : oneCellFields P #[f0, f1] = true) (hC : P.cellsOf b = 2) (hone2 : oneCellFields P #[g0, g1] = true) (hC2 : P.cellsOf t = 2) (hv : Value.okWide P w r b0 t v) (h : DataW.Trod enc P w base (fun _ => true) held t v d p) :
    ∃ (k : Int) (A : Option Addr) (c : Nat) (l : List CeV), v = cv k A l.length c ∧ SlC w A c l ∧ I64 k := by
  obtain ⟨v0, v1, y0, y1, n, rfl, _, _, q0, q1⟩ := Go.Joins.open_agg2 hs hone2 hC2 hv h
  obtain ⟨k, rfl, hk⟩ := int_cell hg0 q0
  obtain ⟨A, c, l, rfl, hl, hq⟩ := open_structsF cf (fun x => I64 x.1 ∧ SlB w x.2.1 x.2.2.1 x.2.2.2) (fun _ => rfl) hg1 hb hone hC (by
    intro vs hl hf
    obtain ⟨u0, n0, y0, e0, t0⟩ := hf 0 f0 rfl
    obtain ⟨u1, n1, y1, e1, t1⟩ := hf 1 f1 rfl
    obtain ⟨k, rfl, hk⟩ := int_cell h0 t0
    obtain ⟨A, c, l, rfl, hb⟩ := bytes_cell h1 he hCe t1
    match vs, hl with
    | [x0, x1], _ =>
      simp at e0 e1
      exact ⟨(k, A, c, l), by simp [cf, e0, e1], hk, hb⟩) q1
  exact ⟨k, A, c, l, rfl, ⟨hl, fun x hx => (hq x hx).2⟩, hk⟩
theorem open_arr2 (hs : P.underlying t = some (.array 2 e)) (he : P.underlying e = some (.int .i64)) (hC : P.cellsOf t = 2) (hE : P.cellsOf e = 1) (hv : Value.okWide P w r b0 t v) (h : DataW.Trod enc P w base (fun _ => true) held t v d p) :
    ∃ a b : Int, v = .agg #[.int .i64 a, .int .i64 b] := by
  simp only [Value.okWide, hs] at hv
  obtain ⟨cs, rfl, hsz, _⟩ := hv
  obtain ⟨c0, c1, rfl⟩ : ∃ c0 c1, cs = #[c0, c1] := by
    have h2 := hsz.trans hC
    match cs, h2 with
    | ⟨[x, y]⟩, _ => exact ⟨x, y, rfl⟩
  obtain ⟨fuel, hf⟩ := h
  obtain ⟨xs, m, _, _, _, hlen, hg⟩ := DataW.trod_array hs hf
  have k0 := hg 0 (by omega)
  have k1 := hg 1 (by omega)
  rw [hE, List.getElem?_eq_getElem (by omega)] at k0 k1
  simp [Value.cells] at k0 k1
  obtain ⟨a, rfl, ha⟩ := int_cell he k0
  obtain ⟨b, rfl, hb⟩ := int_cell he k1
  exact ⟨a, b, rfl⟩
end
end Go.Proofs.YtddmfoldnlafaaaGreatDoor

namespace Go.Proofs.YtddmfoldnlafaaaGreatDoor
open Go.RowKit Go.Deep
section
variable {H : Type} {enc : TypeId × Value → H} {P : Program} {w : World} {base b0 : Nat} {held : Bool} {r : Reach} {t e : TypeId} {v : Value} {d : DataW H} {p : List MemPlace}
theorem open_intsR (ht : P.underlying t = some (.slice e)) (he : P.underlying e = some (.int .i64)) (hC : P.cellsOf e = 1) (hv : Value.okWide P w r b0 t v) (h : DataW.Trod enc P w base (fun _ => true) held t v d p) :
    ∃ (A : Option Addr) (c : Nat) (l : List Int), v = .slice A l.length c ∧ Sl w 1 A l.length c (l.map (Value.int .i64)) := by
  obtain ⟨A, n, c, zs, rfl, hs, hl, hw⟩ := open_row ht he hC hv h
  exact ⟨A, c, zs, by rw [hl], by rw [hl]; exact hs⟩
end
end Go.Proofs.YtddmfoldnlafaaaGreatDoor
