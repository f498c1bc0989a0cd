/- WHAT IT HOLDS: the law's disk is alive, walked. | WHAT IT HOLDS: arguments that are acts of a disk, opened to the words of Kit. | WHAT IT HOLDS: which scripts of a disk's acts are long, walked. | WHAT IT HOLDS: what a fuse lets through, plainly (no program). -/
import Derived.Test.YtdmohcmlocliiaaDoorDiskFusesG15
import Derived.Test.YtdmohcmlocliiaaDoorDiskFusesG06
namespace Go.Proofs.YtdmohcmlocliiaaDoor
open Go.RowKit Go.Maps Go.Sort
attribute [local go_sem ↓] Go.wp_at_zero Go.wp_at_succ

theorem SlB.lit1 (w : World) (b : UInt8) (e : TypeId) (z : Nat × Nat) : SlB (w.alloc (.cells #[bv b] e z)) (some ⟨w.heap.size, 0, none⟩) 1 [b] :=
  ⟨by simp, by simp, by simp [maxLen], (fun h => by cases h), fun j u hj => ⟨_, rfl, by
    rw [addr_lit, cell_of_row _ _ _ _ e z (heap_alloc_new w _)]
    simpa using hj⟩⟩
theorem SlZ.lit1 (w : World) (b : Bool) (e : TypeId) : Sl (w.alloc (.cells #[.bool b] e)) 1 (some ⟨w.heap.size, 0, none⟩) 1 1 ([b].map Value.bool) :=
  ⟨by simp, by simp, by simp [maxLen], (fun h => by cases h), fun j u hj => ⟨_, rfl, by
    rw [addr_lit, cell_of_row _ _ _ _ e (0, 0) (heap_alloc_new w _)]
    simpa using hj⟩⟩
/-- all that a disk may write lies behind the block B; below it the world is as it was -/
def Fro (w0 w : World) (q : Fp) : Prop := Below w0.heap.size w0 w ∧ ∀ i, q.M i → w0.heap.size ≤ i
theorem Fro.frd {w0 w w' : World} {q q' : Fp} (h : Fro w0 w q) (hF : Frd q w w') (hM : ∀ i, q'.M i → q.M i ∨ w.heap.size ≤ i) : Fro w0 w' q' := by
  have hs := h.1.size
  refine ⟨⟨hF.os.trans h.1.os, hF.tape.trans h.1.tape, hF.output.trans h.1.output, by have := hF.size; omega, fun i hi => ?_⟩, fun i hi => ?_⟩
  · rw [hF.block i (by omega) (fun hq => by have := h.2 i hq; omega)]
    exact h.1.block i hi
  · rcases hM i hi with hi | hi
    · exact h.2 i hi
    · omega
theorem Fro.call {w0 w w' : World} {q : Fp} (h : Fro w0 w q) (hb : Below w.heap.size w w') : Fro w0 w' q := ⟨h.1.trans (hb.mono h.1.size), h.2⟩
set_option maxRecDepth 100000 in
set_option maxHeartbeats 1000000 in
theorem Alive_any (w : World) : Calls Tryd.prog 8 #[] w fun e w' => e = .returned (.bool true) ∧ Below w.heap.size w w' := by
  go_enter Tryd.func8, Tryd.ntmps8
  go_wp2_with fail
  refine (New_any 100 w).mono ?_
  rintro e w1 (⟨h, -⟩ | ⟨-, q, rfl, hD, hM, hb⟩)
  · omega
  rw [show errv 0 = Value.nilIface from rfl]
  have hDa := hD.below (below_new w1 (.cells #[bv 120] 5 (1, 2)))
  have hFr : Fro w (w1.alloc (.cells #[bv 120] 5 (1, 2))) q := Fro.call ⟨hb, hM⟩ (below_new _ _)
  have hcv := Go.Lib.run_convert_bytes_const (P := Tryd.prog) w1 31 5 #[.int .u8 120] 1 1 Tryd.underlying31 Tryd.underlying5
  have HFr := Lib.hid hFr
  clear hFr
  go_wp2_with fail
  refine (Write_any (A := some ⟨w1.heap.size, 0, none⟩) (c := 1) hDa (by decide) (by decide) (by decide) (by decide) [97] (by decide) [120] (SlB.lit1 w1 120 5 (1, 2)) (fun _ ad e => by injection e with e; subst e; have := hD.blk.lt; dsimp only; omega) (by decide)).mono ?_
  rintro e w2 ⟨A2, c2, rfl, hG⟩
  rw [show dWrite svl (dk0 100) [97] ⟨A2, c2, [120]⟩ = (dAdd (dk0 100) ⟨0, [97], [], ⟨A2, c2, [120]⟩⟩, 0) from rfl] at *
  rw [show errv 0 = Value.nilIface from rfl]
  obtain ⟨q2, hg2, hD2, hF2, hM2, -⟩ := hG
  have n6 : dRead (dStart (dCut [true] (dAdd (dk0 100) ⟨0, [97], [], ⟨A2, c2, [120]⟩⟩))) [97] = (some ⟨A2, c2, [120]⟩, 0) := rfl
  have n1 : (dAdd (dk0 100) ⟨0, [97], [], ⟨A2, c2, [120]⟩⟩).pend.length ≤ 1000000 := Nat.le_of_ble_eq_true rfl
  have n2 : (dAdd (dk0 100) ⟨0, [97], [], ⟨A2, c2, [120]⟩⟩).sure.length ≤ 1000000 := Nat.le_of_ble_eq_true rfl
  have n3 : (dCut [true] (dAdd (dk0 100) ⟨0, [97], [], ⟨A2, c2, [120]⟩⟩)).pend.length ≤ 1000000 := Nat.le_of_ble_eq_true rfl
  have n4 : (dCut [true] (dAdd (dk0 100) ⟨0, [97], [], ⟨A2, c2, [120]⟩⟩)).sure.length ≤ 1000000 := Nat.le_of_ble_eq_true rfl
  have n5 : (dCut [true] (dAdd (dk0 100) ⟨0, [97], [], ⟨A2, c2, [120]⟩⟩)).down = true := rfl
  have hFb := Fro.call (HFr.out.frd hF2 hM2) (below_new w2 (.cells #[.bool true] 4))
  generalize (dAdd (dk0 100) ⟨0, [97], [], ⟨A2, c2, [120]⟩⟩) = d2 at *
  generalize hd3 : dCut [true] d2 = d3 at *
  generalize hd4 : dStart d3 = d4 at *
  have N3 := Lib.hid hd3
  have N4 := Lib.hid hd4
  have N6 := Lib.hid n6
  have HF2 := Lib.hid hFb
  clear n6 hd3 hd4 hF2 hM2 hD hM hb hcv hFb HFr
  rw [← hg2]
  clear hg2
  have HC := Lib.hid (Cut_any (hD2.below (below_new w2 (.cells #[.bool true] 4))) n1 n2 [true] (SlZ.lit1 w2 true 4) (fun _ ad e => by injection e with e; subst e; have := hD2.sure.lt; dsimp only; omega))
  clear hD2 n1 n2 hDa
  go_wp2_with fail
  refine HC.out.mono ?_
  clear HC
  rintro e w3 ⟨rfl, q3, hg3, hD3, hF3, hM3, -⟩
  rw [N3.out] at hD3
  rw [← hg3]
  clear hg3
  have HF3 := Lib.hid (HF2.out.frd hF3 hM3)
  have HS := Lib.hid (StartDown_any hD3 n3 n4 n5)
  clear hD3 hF3 hM3 HF2 N3 n3 n4 n5
  go_wp2_with fail
  refine HS.out.mono ?_
  clear HS
  rintro e w4 ⟨rfl, q4, hg4, hD4, hF4, hM4, -⟩
  rw [N4.out] at hD4
  rw [← hg4]
  clear hg4
  have HF4 := Lib.hid (HF3.out.frd hF4 hM4)
  have HR := Lib.hid (Read_any hD4 [97] (by decide))
  clear hD4 hF4 hM4 HF3 N4
  go_wp2_with fail
  refine HR.out.mono ?_
  clear HR
  rintro e w5 ⟨A5, c5, m5, rfl, hm5, ho5, hb5⟩
  rw [N6.out] at hm5 ⊢
  rw [show errv 0 = Value.nilIface from rfl]
  obtain rfl : m5 = [120] := hm5.out
  have hb := Own.sl ho5
  have h2 := conv_str (P := Tryd.prog) 31 9 5 Tryd.underlying31 Tryd.underlying5 Tryd.underlying9 (n := 1) hb rfl
  have HB := Lib.hid (HF4.out.call hb5).1
  clear hm5 ho5 hb5 HF4 N6 hb
  go_wp2_with fail
  go_ret
  exact ⟨rfl, HB.out⟩
end Go.Proofs.YtdmohcmlocliiaaDoor

namespace Go.Proofs.YtdmohcmlocliiaaDoor
open Go.ChangeShapes Go.WideShapes Go.ChangeAt Go.RowKit Go.Deep

/-- an act: its kind, its two names, its bytes, its number, what is kept -/
structure DA where
  k : Int
  n : List UInt8
  t : List UInt8
  A : Option Addr
  c : Nat
  l : List UInt8
  f : Int
  B : Option Addr
  kc : Nat
  ks : List Bool
def dac (a : DA) : List Value := [.int .i64 a.k, .string ⟨a.n.toArray⟩, .string ⟨a.t.toArray⟩, .slice a.A a.l.length a.c, .int .i64 a.f, .slice a.B a.ks.length a.kc]
theorem dac_len (a : DA) : (dac a).length = 6 := rfl
def SlZ (w : World) (B : Option Addr) (kc : Nat) (ks : List Bool) : Prop := Sl w 1 B ks.length kc (ks.map Value.bool)
/-- what is so of every act's parts -/
def DAok (w : World) (a : DA) : Prop := SlB w a.A a.c a.l ∧ SlZ w a.B a.kc a.ks ∧ I64 a.k ∧ I64 a.f ∧ a.n.length ≤ maxLen ∧ a.t.length ≤ maxLen
def SlDA (w : World) (A : Option Addr) (c : Nat) (s : List DA) : Prop := Sl w 6 A s.length c (s.flatMap dac) ∧ ∀ a ∈ s, DAok w a
theorem DAok.below {w w' : World} {a : DA} (h : DAok w a) (hb : Below w.heap.size w w') : DAok w' a := ⟨Sl.below h.1 hb, Sl.below h.2.1 hb, h.2.2⟩
theorem SlDA.below {w w' : World} {A : Option Addr} {c : Nat} {s : List DA} (h : SlDA w A c s) (hb : Below w.heap.size w w') : SlDA w' A c s := ⟨h.1.below hb, fun a ha => (h.2 a ha).below hb⟩
section
variable {H : Type} {enc : TypeId × Value → H} {P : Program} {w : World} {base b0 : Nat} {held : Bool} {r : Reach} {t e z b s : TypeId} {v : Value} {d : DataW H} {p : List MemPlace}
theorem bytes_cellD {n : Nat} {y : DataW H × List MemPlace} (ht : P.underlying t = some (.slice e)) (he : P.underlying e = some (.int .u8)) (hC : P.cellsOf e = 1) (h : DataW.trod enc P w base (fun _ => true) held n t [v] = some y) :
    ∃ (A : Option Addr) (c : Nat) (l : List UInt8), v = .slice A l.length c ∧ SlB w A c l := by
  rcases open_ints ht he hC h with ⟨hcs, _⟩ | ⟨x, l, c', zs, hcs, _, hl, hm, hz, _, hcell, hwz⟩
  · simp at hcs
    subst hcs
    exact ⟨none, 0, [], rfl, Sl.none_ _ _⟩
  · simp at hcs
    subst hcs
    simp only [if_true] at hz
    have hs := row_reads hl hm hz hcell
    have hw : ∀ z ∈ zs.take l, (Lit.int .u8 z).wf = true := fun z hz => hwz z (List.mem_of_mem_take hz)
    have hm : (zs.take l).map (Value.int .u8) = bvs ((zs.take l).map fun z => UInt8.ofNat z.toNat) := by
      rw [bvs, List.map_map]
      refine List.map_congr_left fun z hz => ?_
      have hb := bounds_u8 (hw z hz)
      simp only [Function.comp, bv, UInt8.toNat_ofNat']
      congr 1
      omega
    rw [hm] at hs
    have hlen : ((zs.take l).map fun z => UInt8.ofNat z.toNat).length = l := by simp; omega
    refine ⟨some x, c', (zs.take l).map fun z => UInt8.ofNat z.toNat, by rw [hlen], ?_⟩
    show Sl w 1 _ (List.map _ _).length c' _
    rw [hlen]
    exact hs
theorem bools_cell {n : Nat} {y : DataW H × List MemPlace} (ht : P.underlying t = some (.slice z)) (he : P.underlying z = some .bool) (hC : P.cellsOf z = 1) (h : DataW.trod enc P w base (fun _ => true) held n t [v] = some y) :
    ∃ (A : Option Addr) (c : Nat) (l : List Bool), v = .slice A l.length c ∧ SlZ w A c l := by
  rcases open_slice1 ht hC h with ⟨hcs, _⟩ | ⟨a, len, cap, m, nn, V, D, Pl, hcs, _, hl, hm, hmm, _, hi⟩
  · simp at hcs
    subst hcs
    exact ⟨none, 0, [], rfl, Sl.none_ _ _⟩
  · simp at hcs
    subst hcs
    simp only [if_true] at hmm
    obtain ⟨l, hll, hlr⟩ := list_choice (fun i b => w.cell? (a.add i) = some (.bool b)) len fun i hi' => by
      obtain ⟨h1, h2⟩ := hi i (by omega)
      obtain ⟨b, hb, _⟩ := DataW.trod_bool he h2
      simp at hb
      exact ⟨b, by rw [h1, hb]⟩
    refine ⟨some a, cap, l, by rw [hll], by simp, by omega, hm, (fun h => by cases h), fun j u hj => ⟨a, rfl, ?_⟩⟩
    obtain ⟨hjl, rfl⟩ := List.getElem?_eq_some_iff.1 hj
    rw [List.length_map] at hjl
    rw [List.getElem_map]
    exact hlr j hjl
theorem string_cell {n : Nat} {y : DataW H × List MemPlace} (ht : P.underlying t = some .string) (h : DataW.trod enc P w base (fun _ => true) held n t [v] = some y) :
    ∃ l : List UInt8, v = .string ⟨l.toArray⟩ ∧ l.length ≤ maxLen := by
  obtain ⟨s, hs, _, hz⟩ := DataW.trod_string ht h
  simp at hs
  subst hs
  exact ⟨s.data.toList, rfl, hz⟩
theorem open_dacts {f0 f1 f2 f3 f4 f5 : Field} (ht : P.underlying t = some (.slice b)) (hs : P.underlying b = some (.struct #[f0, f1, f2, f3, f4, f5])) (h0 : P.underlying f0.type = some (.int .i64)) (h1 : P.underlying f1.type = some .string) (h2 : P.underlying f2.type = some .string) (h3 : P.underlying f3.type = some (.slice e)) (h4 : P.underlying f4.type = some (.int .i64)) (h5 : P.underlying f5.type = some (.slice z))
    (he : P.underlying e = some (.int .u8)) (hz : P.underlying z = some .bool) (hCe : P.cellsOf e = 1) (hCz : P.cellsOf z = 1) (hone : oneCellFields P #[f0, f1, f2, f3, f4, f5] = true) (hC : P.cellsOf b = 6) (hv : Value.okWide P w r b0 t v) (h : DataW.Trod enc P w base (fun _ => true) held t v d p) :
    ∃ (A : Option Addr) (c : Nat) (l : List DA), v = .slice A l.length c ∧ SlDA w A c l := by
  obtain ⟨A, c, l, rfl, hl, hq⟩ := open_structs dac (DAok w) (fun _ => rfl) ht hs hone hC (by
    intro vs hl hf
    obtain ⟨u0, n0, y0, e0, t0⟩ := hf 0 f0 rfl
    obtain ⟨u1, n1, y1, e1, t1⟩ := hf 1 f1 rfl
    obtain ⟨u2, n2, y2, e2, t2⟩ := hf 2 f2 rfl
    obtain ⟨u3, n3, y3, e3, t3⟩ := hf 3 f3 rfl
    obtain ⟨u4, n4, y4, e4, t4⟩ := hf 4 f4 rfl
    obtain ⟨u5, n5, y5, e5, t5⟩ := hf 5 f5 rfl
    obtain ⟨k, rfl, hk⟩ := int_cell h0 t0
    obtain ⟨nm, rfl, hn⟩ := string_cell h1 t1
    obtain ⟨tw, rfl, ht⟩ := string_cell h2 t2
    obtain ⟨A, c, l, rfl, hb⟩ := bytes_cellD h3 he hCe t3
    obtain ⟨f, rfl, hfi⟩ := int_cell h4 t4
    obtain ⟨B, kc, ks, rfl, hks⟩ := bools_cell h5 hz hCz t5
    match vs, hl with
    | [x0, x1, x2, x3, x4, x5], _ =>
      simp at e0 e1 e2 e3 e4 e5
      exact ⟨⟨k, nm, tw, A, c, l, f, B, kc, ks⟩, by simp [dac, e0, e1, e2, e3, e4, e5], hb, hks, hk, hfi, hn, ht⟩) hv h
  exact ⟨A, c, l, rfl, hl, hq⟩
end
end Go.Proofs.YtdmohcmlocliiaaDoor

namespace Go.Proofs.YtdmohcmlocliiaaDoor
open Go.RowKit Go.Maps Go.Sort
attribute [local go_sem ↓] Go.wp_at_zero Go.wp_at_succ

def DA.long (a : DA) : Bool := decide (60 < a.n.length) || decide (60 < a.t.length) || decide (60 < a.ks.length) || decide (300 < a.l.length ∧ a.l.length ≤ 65536) || decide (66000 < a.l.length)
def dLong (s : List DA) (most : Int) : Bool := s.any DA.long || decide (most < s.length)
theorem dLong_at {s : List DA} {most : Int} {k : Nat} (hk : k < s.length) (h : s[k].long = true) : dLong s most = true := by
  unfold dLong
  rw [List.any_eq_true.2 ⟨s[k], List.getElem_mem hk, h⟩]
  rfl
theorem dLong_none {s : List DA} {most : Int} (h : ∀ i (hi : i < s.length), s[i].long = false) : dLong s most = decide (most < s.length) := by
  unfold dLong
  rw [List.any_eq_false.2 fun x hx => by
    obtain ⟨i, hi, rfl⟩ := List.getElem_of_mem hx
    simp [h i hi]]
  rfl
theorem DA.short {a : DA} (h : a.long = false) : a.n.length ≤ 60 ∧ a.t.length ≤ 60 ∧ a.ks.length ≤ 60 ∧ a.l.length ≤ 66000 ∧ (a.l.length ≤ 300 ∨ 65536 < a.l.length) := by
  unfold DA.long at h
  simp only [Bool.or_eq_false_iff, decide_eq_false_iff_not] at h
  omega
theorem dLong_short {s : List DA} {most : Int} (h : dLong s most = false) : (s.length : Int) ≤ most ∧ ∀ a ∈ s, a.long = false := by
  unfold dLong at h
  simp only [Bool.or_eq_false_iff, decide_eq_false_iff_not] at h
  refine ⟨by omega, fun a ha => ?_⟩
  have := List.any_eq_false.1 h.1 a ha
  simpa using this
set_option maxRecDepth 100000 in
set_option maxHeartbeats 1000000 in
theorem DLong_any {A : Option Addr} {c : Nat} {s : List DA} (w : World) (h : SlDA w A c s) (most : Int) : Calls Tryd.prog 9 #[.slice A s.length c, .int .i64 most] w fun e w' => e = .returned (.bool (dLong s most)) ∧ Below w.heap.size w w' := by
  have hsl : s.length ≤ maxLen := Nat.le_trans h.1.2.1 h.1.2.2.1
  unfold maxLen at hsl
  have H := Lib.hid h
  clear h
  go_enter Tryd.func9, Tryd.ntmps9
  go_wp2_with fail
  go_loopw [9] (fun x wr => ∃ k : Nat, k ≤ s.length ∧ x = .int .i64 k ∧ (∀ i (hi : i < s.length), i < k → s[i].long = false) ∧ Below w.heap.size w wr) (fun x w => s.length - (intOf x).toNat)
  case atStart => exact ⟨0, Nat.zero_le _, rfl, (fun i _ hi => by omega), Below.refl _ _⟩
  case round =>
    obtain ⟨k, hk, rfl, hno, hb⟩ := hrel
    by_cases hlt : k < s.length
    · have hS := H.out.below hb
      obtain ⟨ad, b, o, hA, had, hcc⟩ := Sl.atS (f := dac) (size := 6) (fun _ => rfl) (by omega) hS.1 hlt
      have hc0 := hcc 0 _ rfl
      have hc1 := hcc 1 _ rfl
      have hc2 := hcc 2 _ rfl
      have hc3 := hcc 3 _ rfl
      have hc4 := hcc 4 _ rfl
      have hc5 := hcc 5 _ rfl
      rw [Nat.add_zero] at hc0
      have hok := hS.2 _ (List.getElem_mem hlt)
      clear hcc hS
      generalize hx : s[k] = x at *
      obtain ⟨kd, nm, tt, A1, c1, l1, ff, B1, kc, ks⟩ := x
      obtain ⟨q1, q2, -, -, q5, q6⟩ := hok
      have q7 : l1.length ≤ maxLen := Nat.le_trans q1.2.1 q1.2.2.1
      have q8 : ks.length ≤ maxLen := Nat.le_trans q2.2.1 q2.2.2.1
      clear q1 q2
      dsimp only at *
      unfold maxLen at *
      rw [hA] at *
      clear hA
      have hbn := bel_alloc hb (.cells #[.int .i64 kd, .string ⟨nm.toArray⟩, .string ⟨tt.toArray⟩, .slice A1 l1.length c1, .int .i64 ff, .slice B1 ks.length kc] 34)
      rcases Nat.lt_or_ge 60 nm.length with g1 | g1
      · have i1 : (60 : Int) < (nm.length : Int) := by omega
        have HE := Lib.hid (dLong_at (most := most) hlt (by rw [hx]; unfold DA.long; simp; omega))
        clear hno hx
        go_wp2_with fail
        go_ret
        exact ⟨by rw [HE.out]; rfl, hbn⟩
      have i1 : (nm.length : Int) ≤ 60 := by omega
      rcases Nat.lt_or_ge 60 tt.length with g2 | g2
      · have i2 : (60 : Int) < (tt.length : Int) := by omega
        have HE := Lib.hid (dLong_at (most := most) hlt (by rw [hx]; unfold DA.long; simp; omega))
        clear hno hx
        go_wp2_with fail
        go_ret
        exact ⟨by rw [HE.out]; rfl, hbn⟩
      have i2 : (tt.length : Int) ≤ 60 := by omega
      rcases Nat.lt_or_ge 60 ks.length with g3 | g3
      · have i3 : (60 : Int) < (ks.length : Int) := by omega
        have HE := Lib.hid (dLong_at (most := most) hlt (by rw [hx]; unfold DA.long; simp; omega))
        clear hno hx
        go_wp2_with fail
        go_ret
        exact ⟨by rw [HE.out]; rfl, hbn⟩
      have i3 : (ks.length : Int) ≤ 60 := by omega
      rcases Nat.lt_or_ge 300 l1.length with g4 | g4
      · have i4 : (300 : Int) < (l1.length : Int) := by omega
        rcases Nat.lt_or_ge 65536 l1.length with g5 | g5
        · have i5 : (65536 : Int) < (l1.length : Int) := by omega
          rcases Nat.lt_or_ge 66000 l1.length with g6 | g6
          · have i6 : (66000 : Int) < (l1.length : Int) := by omega
            have HE := Lib.hid (dLong_at (most := most) hlt (by rw [hx]; unfold DA.long; simp; omega))
            clear hno hx
            go_wp2_with fail
            go_ret
            exact ⟨by rw [HE.out]; rfl, hbn⟩
          · have i6 : (l1.length : Int) ≤ 66000 := by omega
            have hno2 := Lib.hid (show ∀ i (hi : i < s.length), i < k + 1 → s[i].long = false from fun i hi hi2 => by
              rcases Nat.lt_or_ge i k with h1 | h1
              · exact hno i hi h1
              · obtain rfl : i = k := by omega
                rw [hx]; unfold DA.long; simp; omega)
            clear hno hx
            go_wp2_with fail
            go_roundw
            case rel => exact ⟨k + 1, hlt, rfl, hno2.out, hbn⟩
            case measure => simp [intOf]; omega
        · have i5 : (l1.length : Int) ≤ 65536 := by omega
          have HE := Lib.hid (dLong_at (most := most) hlt (by rw [hx]; unfold DA.long; simp; omega))
          clear hno hx
          go_wp2_with fail
          go_ret
          exact ⟨by rw [HE.out]; rfl, hbn⟩
      · have i4 : (l1.length : Int) ≤ 300 := by omega
        have i6 : (l1.length : Int) ≤ 66000 := by omega
        have hno2 := Lib.hid (show ∀ i (hi : i < s.length), i < k + 1 → s[i].long = false from fun i hi hi2 => by
          rcases Nat.lt_or_ge i k with h1 | h1
          · exact hno i hi h1
          · obtain rfl : i = k := by omega
            rw [hx]; unfold DA.long; simp; omega)
        clear hno hx
        go_wp2_with fail
        go_roundw
        case rel => exact ⟨k + 1, hlt, rfl, hno2.out, hbn⟩
        case measure => simp [intOf]; omega
    · have hke : k = s.length := by omega
      have HE := Lib.hid (dLong_none (most := most) fun i hi => hno i hi (by omega))
      subst hke
      clear hno
      go_wp2_with fail
      go_ret
      exact ⟨by rw [HE.out]; rfl, hb⟩
end Go.Proofs.YtdmohcmlocliiaaDoor

namespace Go.Proofs.YtdmohcmlocliiaaDoor
section
variable {α : Type}
/-- what any operation of a disk answers -/
def Opd (d : Dk α) (r : Dk α × Nat) : Prop :=
  (r.2 = 14 ↔ (dWorks d).2 = 14) ∧ r.1.fuse = (dWorks d).1.fuse ∧ r.1.down = (dWorks d).1.down ∧ r.1.sure.length + r.1.pend.length ≤ d.sure.length + d.pend.length + 1
theorem Opd.works (d : Dk α) (k : Nat) (hk : k ≠ 14) (h : (dWorks d).2 = 0) : Opd d ((dWorks d).1, k) := by
  obtain ⟨s1, s2, -, -⟩ := dWorks_same d
  refine ⟨⟨fun e => absurd e hk, fun e => by rw [h] at e; cases e⟩, rfl, rfl, ?_⟩
  dsimp only
  rw [s1, s2]
  omega
theorem Opd.down (d : Dk α) : Opd d (dWorks d) := by
  obtain ⟨s1, s2, -, -⟩ := dWorks_same d
  refine ⟨Iff.rfl, rfl, rfl, ?_⟩
  rw [s1, s2]
  omega
theorem Opd.add (d : Dk α) (c : Chg α) (h : (dWorks d).2 = 0) : Opd d (dAdd (dWorks d).1 c, 0) := by
  obtain ⟨s1, s2, -, -⟩ := dWorks_same d
  refine ⟨⟨fun e => (by cases e), fun e => (by rw [h] at e; cases e)⟩, rfl, rfl, ?_⟩
  unfold dAdd
  dsimp only
  rw [s1, s2, List.length_append]
  simp
  omega
theorem dWorks_zero {d : Dk α} (h : ¬ (dWorks d).2 ≠ 0) : (dWorks d).2 = 0 := Decidable.byContradiction h
theorem Opd.write (len : α → Nat) (d : Dk α) (n : Bs) (v : α) : Opd d (dWrite len d n v) := by
  unfold dWrite
  split
  · exact Opd.down d
  · rename_i h
    have h := dWorks_zero h
    split
    · exact Opd.works d 2 (by decide) h
    · split
      · exact Opd.works d 3 (by decide) h
      · split
        · exact Opd.works d 5 (by decide) h
        · exact Opd.add d _ h
theorem Opd.rename (z : α) (d : Dk α) (n t : Bs) : Opd d (dRename z d n t) := by
  unfold dRename
  split
  · exact Opd.down d
  · rename_i h
    have h := dWorks_zero h
    split
    · exact Opd.works d 2 (by decide) h
    · split
      · exact Opd.works d 4 (by decide) h
      · exact Opd.add d _ h
theorem Opd.remove (z : α) (d : Dk α) (n : Bs) : Opd d (dRemove z d n) := by
  unfold dRemove
  split
  · exact Opd.down d
  · rename_i h
    have h := dWorks_zero h
    split
    · exact Opd.works d 2 (by decide) h
    · split
      · exact Opd.works d 4 (by decide) h
      · exact Opd.add d _ h
theorem Opd.sync (d : Dk α) : Opd d (dSync d) := by
  unfold dSync
  split
  · exact Opd.down d
  · rename_i h
    have h := dWorks_zero h
    refine ⟨⟨fun e => (by cases e), fun e => by rw [h] at e; cases e⟩, rfl, rfl, ?_⟩
    have := flen_dos d.sure d.pend
    unfold Dk.shown
    dsimp only
    simp
    omega
/-- a disk behind k operations under a fuse of n -/
def Fz (n : Int) (k : Nat) (d : Dk α) : Prop := ((k : Int) ≤ n ∧ d.down = false ∧ d.fuse = n - k) ∨ (n < k ∧ d.down = true ∧ d.fuse = 0)
theorem Fz.step {n : Int} {k : Nat} {d : Dk α} {r : Dk α × Nat} (h : Fz n k d) (ho : Opd d r) : Fz n (k + 1) r.1 ∧ (r.2 = 14 ↔ n ≤ k) ∧ (r.1.down = true ↔ n ≤ k) := by
  obtain ⟨h1, h2, h3, -⟩ := ho
  rcases h with ⟨hk, hd, hf⟩ | ⟨hk, hd, hf⟩
  · rcases Decidable.em (d.fuse = 0) with h0 | h0
    · have hw : dWorks d = ({ d with down := true }, 14) := by unfold dWorks; rw [if_neg (by rw [hd]; simp), if_pos h0]
      rw [hw] at h1 h2 h3
      refine ⟨.inr ⟨by omega, h3, h2.trans h0⟩, ⟨fun _ => by omega, fun _ => h1.2 rfl⟩, ⟨fun _ => by omega, fun _ => h3⟩⟩
    · have hw : dWorks d = ({ d with fuse := d.fuse - 1 }, 0) := by unfold dWorks; rw [if_neg (by rw [hd]; simp), if_neg h0, if_pos (by omega)]
      rw [hw] at h1 h2 h3
      dsimp only at h1 h2 h3
      refine ⟨.inl ⟨by omega, h3.trans hd, by rw [h2, hf]; omega⟩, ⟨fun e => by have := h1.1 e; omega, fun e => by omega⟩, ⟨fun e => (by rw [h3, hd] at e; cases e), fun e => by omega⟩⟩
  · have hw : dWorks d = (d, 14) := by unfold dWorks; rw [if_pos hd]
    rw [hw] at h1 h2 h3
    exact ⟨.inr ⟨by omega, h3.trans hd, h2.trans hf⟩, ⟨fun _ => by omega, fun _ => h1.2 rfl⟩, ⟨fun _ => by omega, fun _ => h3.trans hd⟩⟩
theorem Fz.fuse {n : Int} {k : Nat} {d : Dk α} (h : Fz n k d) (hn : 0 ≤ n ∧ n ≤ 9223372036854775807) : -1 ≤ d.fuse ∧ d.fuse ≤ 9223372036854775807 := by
  rcases h with ⟨hk, _, hf⟩ | ⟨_, _, hf⟩ <;> rw [hf] <;> omega
end
theorem fused_le (l : List (Bs × Sv)) (h : ∀ p ∈ l, p.2.l.length ≤ 65536) : fused svl l ≤ 65536 * l.length := by
  unfold fused
  induction l with
  | nil => simp
  | cons p r ih =>
    have h1 := h p (List.mem_cons_self ..)
    have h2 := ih fun q hq => h q (List.mem_cons_of_mem _ hq)
    simp only [List.map_cons, List.sum_cons, List.length_cons]
    have : svl p.2 = p.2.l.length := rfl
    omega
theorem Dsk.fits {w : World} {q : Fp} {d : Dk Sv} (h : Dsk w q d) {k : Nat} (hk : d.sure.length + d.pend.length ≤ k) (hk2 : k ≤ 1000) : d.pend.length ≤ 1000000 ∧ d.shown.length ≤ 100000000 ∧ fused svl d.shown ≤ 1000000000000 ∧ d.sure.length ≤ 1000000 := by
  have h1 := flen_dos d.sure d.pend
  have h2 := fused_le d.shown fun p hp => h.len _ (h.shown_mem p hp).2
  have h3 : d.shown.length ≤ d.sure.length + d.pend.length := h1
  refine ⟨by omega, by omega, by omega, by omega⟩
end Go.Proofs.YtdmohcmlocliiaaDoor
