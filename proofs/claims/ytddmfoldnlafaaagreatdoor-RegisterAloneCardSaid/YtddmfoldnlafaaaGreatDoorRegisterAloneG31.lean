/- WHAT IT HOLDS: the law's register is alive, walked. | WHAT IT HOLDS: arguments that are acts of a store, opened to the words of Kit. | WHAT IT HOLDS: which scripts of a store's acts are long, walked. | WHAT IT HOLDS: arguments that are acts of a register, opened to the words of Kit. | WHAT IT HOLDS: which scripts of a register's acts are long, walked. | WHAT IT HOLDS: an act on a register as cells. -/
import Derived.Test.YtddmfoldnlafaaaGreatDoorRegisterAloneG30
import Derived.Test.YtddmfoldnlafaaaGreatDoorRegisterAloneG11
import Derived.Test.YtddmfoldnlafaaaGreatDoorRegisterAloneG20
namespace Go.Proofs.YtddmfoldnlafaaaGreatDoor
open Go.RowKit Go.Maps Go.Sort
attribute [local go_sem ↓] Go.wp_at_zero Go.wp_at_succ

/-- opened without an error -/
theorem RgO.ok {w w' : World} {q : Fp} {sp bo : Int} {d' : Dk Sv} {L : L3r} {e : Ending} (h : RgO w q sp bo (d', L, 0) e w') : ∃ q' gr gs, e = .returned (.tuple #[.pointer (some ⟨gr, 0, none⟩), .nilIface]) ∧ q'.g = q.g ∧ RgM w' gr gs q' d' sp bo L 0 ∧ Frd q w w' ∧ (∀ i, q'.M i → q.M i ∨ w.heap.size ≤ i) ∧ w.heap.size ≤ gr := by
  obtain ⟨q', hg, hD, hF, hM, h0⟩ := h
  rcases h0 with ⟨-, gr, gs, he, hR, h1, -⟩ | ⟨h0, -⟩
  · exact ⟨q', gr, gs, he, hg, hR, hF, hM, h1⟩
  · exact absurd rfl h0
theorem keep_alive (A : Option Addr) (c : Nat) : (rgKeep (dk0 1000) (1, 1, 5) A c).2 = 0 := by kernel_rfl
theorem grant_alive : grantL (0, 0, 0) 1 0 5 0 = ((1, 1, 5), 0) := by kernel_rfl
theorem acq_alive {ret : L3r} {k : Nat} {d' : Dk Sv} {L' : L3r} {n' : Int} (h : AcqO (dk0 1000) (0, 0, 0) 0 5 0 1 0 ret k d' L' n') : ret = (1, 1, 5) ∧ k = 0 := by
  have hg := grant_alive
  have hk := keep_alive
  cases h with
  | no h => rw [hg] at h; exact absurd rfl h
  | bad A c h h2 => rw [hg] at h2; exact absurd (hk A c) h2
  | ok A c h h2 => rw [hg]; exact ⟨rfl, rfl⟩
set_option maxRecDepth 100000 in
set_option maxHeartbeats 1000000 in
theorem AliveR_any (w : World) : Calls Tryz.prog 19 #[] w fun e w' => e = .returned (.bool true) ∧ Below w.heap.size w w' := by
  go_enter Tryz.func19, Tryz.ntmps19
  go_wp2_with fail
  refine (New_any 1000 w).mono ?_
  rintro e w1 (⟨h, -⟩ | ⟨-, q, rfl, hD, hM, hb⟩)
  · omega
  rw [show errv 0 = Value.nilIface from rfl]
  have HF1 := Lib.hid (show Fro w w1 q from ⟨hb, hM⟩)
  have hO := RgOpen_any hD (Fok.dk0 1000) (by decide) 5 0
  rw [show rgOpen (dk0 1000) 5 0 = (dk0 1000, (0, 0, 0), 0) from by kernel_rfl] at hO
  have HO := Lib.hid hO
  clear hD hM hb hO
  go_wp2_with fail
  refine HO.out.mono ?_
  rintro e w2 hOO
  obtain ⟨q2, gr, gs, rfl, hg2, hR2, hF2, hM2, hgr⟩ := hOO.ok
  have HA := Lib.hid (RAcquire_any hR2 (Fok.dk0 1000) (by decide) 1 0)
  have HF2 := Lib.hid (HF1.out.frd hF2 hM2)
  have Hgr := Lib.hid (Nat.le_trans HF1.out.1.size hgr)
  clear HO hOO hF2 hM2 hR2 hg2 hgr HF1
  go_wp2_with fail
  refine HA.out.mono ?_
  rintro e w3 ⟨ret, k, d', L', n', hA, rfl, q3, hg3, hR3, hF3, hM3⟩
  obtain ⟨rfl, rfl⟩ := acq_alive hA
  rw [show errv 0 = Value.nilIface from rfl]
  have HB := Lib.hid (bel_alloc (HF2.out.frg hF3 hM3 Hgr.out).1 (.cells #[.int .i64 1, .int .i64 1, .int .i64 5] 56))
  clear HA hA hg3 hR3 hF3 hM3
  go_wp2_with fail
  go_ret
  exact ⟨rfl, HB.out⟩
end Go.Proofs.YtddmfoldnlafaaaGreatDoor

namespace Go.Proofs.YtddmfoldnlafaaaGreatDoor
open Go.ChangeShapes Go.WideShapes Go.ChangeAt Go.RowKit Go.Deep

/-- an act on a store: its kind, its name, its bytes, an act on its disk, what is kept -/
structure SA where
  k : Int
  n : List UInt8
  A : Option Addr
  c : Nat
  l : List UInt8
  d : DA
  B : Option Addr
  kc : Nat
  ks : List Bool
def sac (a : SA) : List Value := [.int .i64 a.k, .string ⟨a.n.toArray⟩, .slice a.A a.l.length a.c, .int .i64 a.d.k, .string ⟨a.d.n.toArray⟩, .string ⟨a.d.t.toArray⟩, .slice a.d.A a.d.l.length a.d.c, .int .i64 a.d.f, .slice a.d.B a.d.ks.length a.d.kc, .slice a.B a.ks.length a.kc]
theorem sac_len (a : SA) : (sac a).length = 10 := rfl
def SAok (w : World) (a : SA) : Prop := SlB w a.A a.c a.l ∧ SlZ w a.B a.kc a.ks ∧ DAok w a.d ∧ I64 a.k ∧ a.n.length ≤ maxLen
def SlSA (w : World) (A : Option Addr) (c : Nat) (s : List SA) : Prop := Sl w 10 A s.length c (s.flatMap sac) ∧ ∀ a ∈ s, SAok w a
theorem SAok.below {w w' : World} {a : SA} (h : SAok w a) (hb : Below w.heap.size w w') : SAok w' a := ⟨Sl.below h.1 hb, Sl.below h.2.1 hb, h.2.2.1.below hb, h.2.2.2⟩
theorem SlSA.below {w w' : World} {A : Option Addr} {c : Nat} {s : List SA} (h : SlSA w A c s) (hb : Below w.heap.size w w') : SlSA w' A c s := ⟨h.1.below hb, fun a ha => (h.2 a ha).below hb⟩
section
variable {H : Type} {enc : TypeId × Value → H} {P : Program} {w : World} {base b0 : Nat} {held : Bool} {r : Reach} {t e b z u : TypeId} {v : Value} {d : DataW H} {p : List MemPlace}
/-- a slice of elements of so many cells -/
theorem open_sliceH {T : Type} (f : T → List Value) (Q : T → Prop) {k : Nat} (hfl : ∀ x, (f x).length = k) (hk : 0 < k) (ht : P.underlying t = some (.slice e)) (hC : P.cellsOf e = k)
    (hel : ∀ (cs' : List Value) (n : Nat) (y : DataW H × List MemPlace), DataW.trod enc P w base (fun _ => true) held n e cs' = some y → ∃ x : T, f x = cs' ∧ Q x)
    {fuel : Nat} {yy : DataW H × List MemPlace} (hf : DataW.trod enc P w base (fun _ => true) held fuel t [v] = some yy) :
    ∃ (A : Option Addr) (c : Nat) (l : List T), v = .slice A l.length c ∧ Sl w k A l.length c (l.flatMap f) ∧ ∀ x ∈ l, Q x := by
  rcases open_slice ht hf with ⟨hcs, _⟩ | ⟨a, n, c, m, nn, D, Pl, hcs, _, hl, hm, hmm, _, hi⟩
  · simp at hcs
    subst hcs
    exact ⟨none, 0, [], rfl, by simpa using Sl.none_ w k, fun x hx => by simp at hx⟩
  · simp at hcs
    subst hcs
    simp only [if_true] at hmm
    subst hmm
    have hx : ∀ i, i < n → ∃ x : T, Q x ∧ ∀ j u, (f x)[j]? = some u → w.cell? (a.add (i * k + j)) = some u := by
      intro i hin
      obtain ⟨cs', hc, ht'⟩ := hi i (by omega)
      rw [hC] at hc
      obtain ⟨_, hcl, hat⟩ := World.cells?_some hc
      obtain ⟨x, hxe, hxq⟩ := hel cs' nn _ ht'
      refine ⟨x, hxq, fun j u hj => ?_⟩
      have hjk : j < k := by rw [← hfl x]; exact (List.getElem?_eq_some_iff.1 hj).1
      rw [hxe] at hj
      rw [← Go.Deep.add_add, hat j hjk, hj]
    obtain ⟨l, hll, hlr⟩ := list_choice _ n hx
    refine ⟨some a, _, l, by rw [hll], ⟨flat_len hfl l, by omega, hm, (fun h => by cases h), fun j u hj => ⟨a, rfl, ?_⟩⟩, fun x hx => ?_⟩
    · have hjl := (List.getElem?_eq_some_iff.1 hj).1
      rw [flat_len hfl] at hjl
      have hkk : j / k < l.length := by rw [Nat.div_lt_iff_lt_mul hk]; exact hjl
      have hr : j % k < k := Nat.mod_lt _ hk
      have he := flat_get hfl l (j / k) (j % k) hkk hr
      have hj2 : j / k * k + j % k = j := by rw [Nat.mul_comm]; exact Nat.div_add_mod _ _
      rw [hj2, hj] at he
      have := (hlr _ hkk).2 _ _ he.symm
      rwa [hj2] at this
    · obtain ⟨i, hi, rfl⟩ := List.getElem_of_mem hx
      exact (hlr i hi).1
/-- an act on a disk inside of another struct -/
theorem open_da {f0 f1 f2 f3 f4 f5 : Field} (hs : P.underlying t = some (.struct #[f0, f1, f2, f3, f4, f5])) (h0 : P.underlying f0.type = some (.int .i64)) (h1 : P.underlying f1.type = some .string) (h2 : P.underlying f2.type = some .string) (h3 : P.underlying f3.type = some (.slice e)) (h4 : P.underlying f4.type = some (.int .i64)) (h5 : P.underlying f5.type = some (.slice z))
    (he : P.underlying e = some (.int .u8)) (hz : P.underlying z = some .bool) (hCe : P.cellsOf e = 1) (hCz : P.cellsOf z = 1) (hone : oneCellFields P #[f0, f1, f2, f3, f4, f5] = true) (hC : P.cellsOf t = 6)
    (cs : List Value) (fuel : Nat) (y : DataW H × List MemPlace) (h : DataW.trod enc P w base (fun _ => true) held fuel t cs = some y) : ∃ a : DA, dac a = cs ∧ DAok w a := by
  obtain ⟨xs, n, _, _, hl, hxl, hf⟩ := DataW.trod_struct hs h
  rw [hC] at hl
  have q0 := hf 0 f0 rfl
  have q1 := hf 1 f1 rfl
  have q2 := hf 2 f2 rfl
  have q3 := hf 3 f3 rfl
  have q4 := hf 4 f4 rfl
  have q5 := hf 5 f5 rfl
  obtain ⟨o0, k0⟩ := hone_of hone 0 f0 rfl
  obtain ⟨o1, k1⟩ := hone_of hone 1 f1 rfl
  obtain ⟨o2, k2⟩ := hone_of hone 2 f2 rfl
  obtain ⟨o3, k3⟩ := hone_of hone 3 f3 rfl
  obtain ⟨o4, k4⟩ := hone_of hone 4 f4 rfl
  obtain ⟨o5, k5⟩ := hone_of hone 5 f5 rfl
  have hxl6 : xs.length = 6 := hxl
  rw [List.getElem?_eq_getElem (by omega)] at q0 q1 q2 q3 q4 q5
  match cs, hl with
  | [c0, c1, c2, c3, c4, c5], _ =>
    simp only [o0, k0, List.drop_zero, List.take_succ_cons, List.take_zero] at q0
    simp only [o1, k1, List.drop_succ_cons, List.drop_zero, List.take_succ_cons, List.take_zero] at q1
    simp only [o2, k2, List.drop_succ_cons, List.drop_zero, List.take_succ_cons, List.take_zero] at q2
    simp only [o3, k3, List.drop_succ_cons, List.drop_zero, List.take_succ_cons, List.take_zero] at q3
    simp only [o4, k4, List.drop_succ_cons, List.drop_zero, List.take_succ_cons, List.take_zero] at q4
    simp only [o5, k5, List.drop_succ_cons, List.drop_zero, List.take_succ_cons, List.take_zero] at q5
    obtain ⟨k, rfl, hk⟩ := int_cell h0 q0
    obtain ⟨nm, rfl, hn⟩ := string_cell h1 q1
    obtain ⟨tw, rfl, ht⟩ := string_cell h2 q2
    obtain ⟨A, c, l, rfl, hb⟩ := bytes_cellD h3 he hCe q3
    obtain ⟨f, rfl, hfi⟩ := int_cell h4 q4
    obtain ⟨B, kc, ks, rfl, hks⟩ := bools_cell h5 hz hCz q5
    exact ⟨⟨k, nm, tw, A, c, l, f, B, kc, ks⟩, rfl, hb, hks, hk, hfi, hn, ht⟩
/-- an act on a store -/
theorem open_sa {g0 g1 g2 g3 g4 f0 f1 f2 f3 f4 f5 : Field} (hg : P.underlying t = some (.struct #[g0, g1, g2, g3, g4])) (i0 : P.underlying g0.type = some (.int .i64)) (i1 : P.underlying g1.type = some .string) (i2 : P.underlying g2.type = some (.slice e)) (hs : P.underlying g3.type = some (.struct #[f0, f1, f2, f3, f4, f5])) (i4 : P.underlying g4.type = some (.slice z))
    (h0 : P.underlying f0.type = some (.int .i64)) (h1 : P.underlying f1.type = some .string) (h2 : P.underlying f2.type = some .string) (h3 : P.underlying f3.type = some (.slice e)) (h4 : P.underlying f4.type = some (.int .i64)) (h5 : P.underlying f5.type = some (.slice z))
    (he : P.underlying e = some (.int .u8)) (hz : P.underlying z = some .bool) (hCe : P.cellsOf e = 1) (hCz : P.cellsOf z = 1) (hone : oneCellFields P #[f0, f1, f2, f3, f4, f5] = true) (hC3 : P.cellsOf g3.type = 6) (hC : P.cellsOf t = 10)
    (o0 : g0.offset = 0) (o1 : g1.offset = 1) (o2 : g2.offset = 2) (o3 : g3.offset = 3) (o4 : g4.offset = 9) (k0 : P.cellsOf g0.type = 1) (k1 : P.cellsOf g1.type = 1) (k2 : P.cellsOf g2.type = 1) (k4 : P.cellsOf g4.type = 1)
    (cs : List Value) (fuel : Nat) (y : DataW H × List MemPlace) (h : DataW.trod enc P w base (fun _ => true) held fuel t cs = some y) : ∃ a : SA, sac a = cs ∧ SAok w a := by
  obtain ⟨xs, n, _, _, hl, hxl, hf⟩ := DataW.trod_struct hg h
  rw [hC] at hl
  have q0 := hf 0 g0 rfl
  have q1 := hf 1 g1 rfl
  have q2 := hf 2 g2 rfl
  have q3 := hf 3 g3 rfl
  have q4 := hf 4 g4 rfl
  have hxl6 : xs.length = 5 := hxl
  rw [List.getElem?_eq_getElem (by omega)] at q0 q1 q2 q3 q4
  match cs, hl with
  | [c0, c1, c2, c3, c4, c5, c6, c7, c8, c9], _ =>
    simp only [o0, k0, List.drop_zero, List.take_succ_cons, List.take_zero] at q0
    simp only [o1, k1, List.drop_succ_cons, List.drop_zero, List.take_succ_cons, List.take_zero] at q1
    simp only [o2, k2, List.drop_succ_cons, List.drop_zero, List.take_succ_cons, List.take_zero] at q2
    simp only [o3, hC3, List.drop_succ_cons, List.drop_zero, List.take_succ_cons, List.take_zero] at q3
    simp only [o4, k4, List.drop_succ_cons, List.drop_zero, List.take_succ_cons, List.take_zero] at q4
    obtain ⟨k, rfl, hk⟩ := int_cell i0 q0
    obtain ⟨nm, rfl, hn⟩ := string_cell i1 q1
    obtain ⟨A, c, l, rfl, hb⟩ := bytes_cellD i2 he hCe q2
    obtain ⟨da, hda, hok⟩ := open_da hs h0 h1 h2 h3 h4 h5 he hz hCe hCz hone hC3 _ _ _ q3
    obtain ⟨B, kc, ks, rfl, hks⟩ := bools_cell i4 hz hCz q4
    refine ⟨⟨k, nm, A, c, l, da, B, kc, ks⟩, ?_, hb, hks, hok, hk, hn⟩
    show [_, _, _] ++ dac da ++ [_] = _
    rw [hda]
    rfl
theorem open_sacts {g0 g1 g2 g3 g4 f0 f1 f2 f3 f4 f5 : Field} (ht : P.underlying u = some (.slice t)) (hg : P.underlying t = some (.struct #[g0, g1, g2, g3, g4])) (i0 : P.underlying g0.type = some (.int .i64)) (i1 : P.underlying g1.type = some .string) (i2 : P.underlying g2.type = some (.slice e)) (hs : P.underlying g3.type = some (.struct #[f0, f1, f2, f3, f4, f5])) (i4 : P.underlying g4.type = some (.slice z))
    (h0 : P.underlying f0.type = some (.int .i64)) (h1 : P.underlying f1.type = some .string) (h2 : P.underlying f2.type = some .string) (h3 : P.underlying f3.type = some (.slice e)) (h4 : P.underlying f4.type = some (.int .i64)) (h5 : P.underlying f5.type = some (.slice z))
    (he : P.underlying e = some (.int .u8)) (hz : P.underlying z = some .bool) (hCe : P.cellsOf e = 1) (hCz : P.cellsOf z = 1) (hone : oneCellFields P #[f0, f1, f2, f3, f4, f5] = true) (hC3 : P.cellsOf g3.type = 6) (hC : P.cellsOf t = 10)
    (o0 : g0.offset = 0) (o1 : g1.offset = 1) (o2 : g2.offset = 2) (o3 : g3.offset = 3) (o4 : g4.offset = 9) (k0 : P.cellsOf g0.type = 1) (k1 : P.cellsOf g1.type = 1) (k2 : P.cellsOf g2.type = 1) (k4 : P.cellsOf g4.type = 1)
    (hv : Value.okWide P w r b0 u v) (h : DataW.Trod enc P w base (fun _ => true) held u v d p) :
    ∃ (A : Option Addr) (c : Nat) (l : List SA), v = .slice A l.length c ∧ SlSA w A c l := by
  obtain ⟨A0, n0, c0, rfl⟩ := okWide_slice ht hv
  obtain ⟨fuel, hf⟩ := h
  obtain ⟨A, c, l, hvv, hl, hq⟩ := open_sliceH sac (SAok w) sac_len (by decide) ht hC (fun cs' nn y hy => open_sa hg i0 i1 i2 hs i4 h0 h1 h2 h3 h4 h5 he hz hCe hCz hone hC3 hC o0 o1 o2 o3 o4 k0 k1 k2 k4 cs' nn y hy) hf
  exact ⟨A, c, l, hvv, hl, hq⟩
end
end Go.Proofs.YtddmfoldnlafaaaGreatDoor

namespace Go.Proofs.YtddmfoldnlafaaaGreatDoor
open Go.RowKit Go.Maps Go.Sort
attribute [local go_sem ↓] Go.wp_at_zero Go.wp_at_succ

def SA.long (a : SA) : Bool := decide (60 < a.n.length) || decide (60 < a.ks.length) || decide (300 < a.l.length ∧ a.l.length ≤ 65536) || decide (66000 < a.l.length) || dLong [a.d] 1
def sLong (s : List SA) (most : Int) : Bool := s.any SA.long || decide (most < s.length)
theorem sLong_at {s : List SA} {most : Int} {k : Nat} (hk : k < s.length) (h : s[k].long = true) : sLong s most = true := by
  unfold sLong
  rw [List.any_eq_true.2 ⟨s[k], List.getElem_mem hk, h⟩]
  rfl
theorem sLong_none {s : List SA} {most : Int} (h : ∀ i (hi : i < s.length), s[i].long = false) : sLong s most = decide (most < s.length) := by
  unfold sLong
  rw [List.any_eq_false.2 fun x hx => by
    obtain ⟨i, hi, rfl⟩ := List.getElem_of_mem hx
    simp [h i hi]]
  rfl
theorem SA.short {a : SA} (h : a.long = false) : a.n.length ≤ 60 ∧ a.ks.length ≤ 60 ∧ a.l.length ≤ 66000 ∧ (a.l.length ≤ 300 ∨ 65536 < a.l.length) ∧ dLong [a.d] 1 = false := by
  unfold SA.long at h
  simp only [Bool.or_eq_false_iff, decide_eq_false_iff_not] at h
  exact ⟨by omega, by omega, by omega, by omega, h.2⟩
theorem sLong_short {s : List SA} {most : Int} (h : sLong s most = false) : (s.length : Int) ≤ most ∧ ∀ a ∈ s, a.long = false := by
  unfold sLong at h
  simp only [Bool.or_eq_false_iff, decide_eq_false_iff_not] at h
  refine ⟨by omega, fun a ha => ?_⟩
  have := List.any_eq_false.1 h.1 a ha
  simpa using this
theorem SlDA.lit1 (w : World) (o : Obj) (t : TypeId) {a : DA} (h : DAok w a) : SlDA ((w.alloc o).alloc (.cells #[.int .i64 a.k, .string ⟨a.n.toArray⟩, .string ⟨a.t.toArray⟩, .slice a.A a.l.length a.c, .int .i64 a.f, .slice a.B a.ks.length a.kc] t)) (some ⟨w.heap.size + 1, 0, none⟩) 1 [a] := by
  have hsz : (w.alloc o).heap.size = w.heap.size + 1 := by simp
  refine ⟨⟨rfl, Nat.le_refl _, by simp [maxLen], (fun h => by cases h), fun j u hj => ⟨_, rfl, ?_⟩⟩, fun x hx => ?_⟩
  · rw [← hsz, addr_lit, cell_of_row _ _ _ _ t (0, 0) (heap_alloc_new (w.alloc o) _)]
    simpa [dac] using hj
  · obtain rfl : x = a := by simpa using hx
    exact (h.below (below_new w o)).below (below_new (w.alloc o) _)
end Go.Proofs.YtddmfoldnlafaaaGreatDoor

namespace Go.Proofs.YtddmfoldnlafaaaGreatDoor
open Go.ChangeShapes Go.WideShapes Go.ChangeAt Go.RowKit Go.Deep

/-- an act on a register: its kind, an owner, a time, an act on its disk, what is kept -/
structure RA where
  k : Int
  o : Int
  n : Int
  d : DA
  B : Option Addr
  kc : Nat
  ks : List Bool
def rac (a : RA) : List Value := [.int .i64 a.k, .int .i64 a.o, .int .i64 a.n, .int .i64 a.d.k, .string ⟨a.d.n.toArray⟩, .string ⟨a.d.t.toArray⟩, .slice a.d.A a.d.l.length a.d.c, .int .i64 a.d.f, .slice a.d.B a.d.ks.length a.d.kc, .slice a.B a.ks.length a.kc]
theorem rac_len (a : RA) : (rac a).length = 10 := rfl
def RAok (w : World) (a : RA) : Prop := SlZ w a.B a.kc a.ks ∧ DAok w a.d ∧ I64 a.k ∧ I64 a.o ∧ I64 a.n
def SlRA (w : World) (A : Option Addr) (c : Nat) (s : List RA) : Prop := Sl w 10 A s.length c (s.flatMap rac) ∧ ∀ a ∈ s, RAok w a
theorem RAok.below {w w' : World} {a : RA} (h : RAok w a) (hb : Below w.heap.size w w') : RAok w' a := ⟨Sl.below h.1 hb, h.2.1.below hb, h.2.2⟩
theorem SlRA.below {w w' : World} {A : Option Addr} {c : Nat} {s : List RA} (h : SlRA w A c s) (hb : Below w.heap.size w w') : SlRA w' A c s := ⟨h.1.below hb, fun a ha => (h.2 a ha).below hb⟩
section
variable {H : Type} {enc : TypeId × Value → H} {P : Program} {w : World} {base b0 : Nat} {held : Bool} {r : Reach} {t e b z u : TypeId} {v : Value} {d : DataW H} {p : List MemPlace}
/-- an act on a register -/
theorem open_ra {g0 g1 g2 g3 g4 f0 f1 f2 f3 f4 f5 : Field} (hg : P.underlying t = some (.struct #[g0, g1, g2, g3, g4])) (i0 : P.underlying g0.type = some (.int .i64)) (i1 : P.underlying g1.type = some (.int .i64)) (i2 : P.underlying g2.type = some (.int .i64)) (hs : P.underlying g3.type = some (.struct #[f0, f1, f2, f3, f4, f5])) (i4 : P.underlying g4.type = some (.slice z))
    (h0 : P.underlying f0.type = some (.int .i64)) (h1 : P.underlying f1.type = some .string) (h2 : P.underlying f2.type = some .string) (h3 : P.underlying f3.type = some (.slice e)) (h4 : P.underlying f4.type = some (.int .i64)) (h5 : P.underlying f5.type = some (.slice z))
    (he : P.underlying e = some (.int .u8)) (hz : P.underlying z = some .bool) (hCe : P.cellsOf e = 1) (hCz : P.cellsOf z = 1) (hone : oneCellFields P #[f0, f1, f2, f3, f4, f5] = true) (hC3 : P.cellsOf g3.type = 6) (hC : P.cellsOf t = 10)
    (o0 : g0.offset = 0) (o1 : g1.offset = 1) (o2 : g2.offset = 2) (o3 : g3.offset = 3) (o4 : g4.offset = 9) (k0 : P.cellsOf g0.type = 1) (k1 : P.cellsOf g1.type = 1) (k2 : P.cellsOf g2.type = 1) (k4 : P.cellsOf g4.type = 1)
    (cs : List Value) (fuel : Nat) (y : DataW H × List MemPlace) (h : DataW.trod enc P w base (fun _ => true) held fuel t cs = some y) : ∃ a : RA, rac a = cs ∧ RAok w a := by
  obtain ⟨xs, n, _, _, hl, hxl, hf⟩ := DataW.trod_struct hg h
  rw [hC] at hl
  have q0 := hf 0 g0 rfl
  have q1 := hf 1 g1 rfl
  have q2 := hf 2 g2 rfl
  have q3 := hf 3 g3 rfl
  have q4 := hf 4 g4 rfl
  have hxl6 : xs.length = 5 := hxl
  rw [List.getElem?_eq_getElem (by omega)] at q0 q1 q2 q3 q4
  match cs, hl with
  | [c0, c1, c2, c3, c4, c5, c6, c7, c8, c9], _ =>
    simp only [o0, k0, List.drop_zero, List.take_succ_cons, List.take_zero] at q0
    simp only [o1, k1, List.drop_succ_cons, List.drop_zero, List.take_succ_cons, List.take_zero] at q1
    simp only [o2, k2, List.drop_succ_cons, List.drop_zero, List.take_succ_cons, List.take_zero] at q2
    simp only [o3, hC3, List.drop_succ_cons, List.drop_zero, List.take_succ_cons, List.take_zero] at q3
    simp only [o4, k4, List.drop_succ_cons, List.drop_zero, List.take_succ_cons, List.take_zero] at q4
    obtain ⟨k, rfl, hk⟩ := int_cell i0 q0
    obtain ⟨ow, rfl, how⟩ := int_cell i1 q1
    obtain ⟨nw, rfl, hnw⟩ := int_cell i2 q2
    obtain ⟨da, hda, hok⟩ := open_da hs h0 h1 h2 h3 h4 h5 he hz hCe hCz hone hC3 _ _ _ q3
    obtain ⟨B, kc, ks, rfl, hks⟩ := bools_cell i4 hz hCz q4
    refine ⟨⟨k, ow, nw, da, B, kc, ks⟩, ?_, hks, hok, hk, how, hnw⟩
    show [_, _, _] ++ dac da ++ [_] = _
    rw [hda]
    rfl
theorem open_racts {g0 g1 g2 g3 g4 f0 f1 f2 f3 f4 f5 : Field} (ht : P.underlying u = some (.slice t)) (hg : P.underlying t = some (.struct #[g0, g1, g2, g3, g4])) (i0 : P.underlying g0.type = some (.int .i64)) (i1 : P.underlying g1.type = some (.int .i64)) (i2 : P.underlying g2.type = some (.int .i64)) (hs : P.underlying g3.type = some (.struct #[f0, f1, f2, f3, f4, f5])) (i4 : P.underlying g4.type = some (.slice z))
    (h0 : P.underlying f0.type = some (.int .i64)) (h1 : P.underlying f1.type = some .string) (h2 : P.underlying f2.type = some .string) (h3 : P.underlying f3.type = some (.slice e)) (h4 : P.underlying f4.type = some (.int .i64)) (h5 : P.underlying f5.type = some (.slice z))
    (he : P.underlying e = some (.int .u8)) (hz : P.underlying z = some .bool) (hCe : P.cellsOf e = 1) (hCz : P.cellsOf z = 1) (hone : oneCellFields P #[f0, f1, f2, f3, f4, f5] = true) (hC3 : P.cellsOf g3.type = 6) (hC : P.cellsOf t = 10)
    (o0 : g0.offset = 0) (o1 : g1.offset = 1) (o2 : g2.offset = 2) (o3 : g3.offset = 3) (o4 : g4.offset = 9) (k0 : P.cellsOf g0.type = 1) (k1 : P.cellsOf g1.type = 1) (k2 : P.cellsOf g2.type = 1) (k4 : P.cellsOf g4.type = 1)
    (hv : Value.okWide P w r b0 u v) (h : DataW.Trod enc P w base (fun _ => true) held u v d p) :
    ∃ (A : Option Addr) (c : Nat) (l : List RA), v = .slice A l.length c ∧ SlRA w A c l := by
  obtain ⟨A0, n0, c0, rfl⟩ := okWide_slice ht hv
  obtain ⟨fuel, hf⟩ := h
  obtain ⟨A, c, l, hvv, hl, hq⟩ := open_sliceH rac (RAok w) rac_len (by decide) ht hC (fun cs' nn y hy => open_ra hg i0 i1 i2 hs i4 h0 h1 h2 h3 h4 h5 he hz hCe hCz hone hC3 hC o0 o1 o2 o3 o4 k0 k1 k2 k4 cs' nn y hy) hf
  exact ⟨A, c, l, hvv, hl, hq⟩
end
end Go.Proofs.YtddmfoldnlafaaaGreatDoor

namespace Go.Proofs.YtddmfoldnlafaaaGreatDoor
open Go.RowKit Go.Maps Go.Sort
attribute [local go_sem ↓] Go.wp_at_zero Go.wp_at_succ

def RA.long (a : RA) : Bool := decide (60 < a.ks.length) || dLong [a.d] 1
def raLong (s : List RA) (most : Int) : Bool := s.any RA.long || decide (most < s.length)
theorem raLong_at {s : List RA} {most : Int} {k : Nat} (hk : k < s.length) (h : s[k].long = true) : raLong s most = true := by
  unfold raLong
  rw [List.any_eq_true.2 ⟨s[k], List.getElem_mem hk, h⟩]
  rfl
theorem raLong_none {s : List RA} {most : Int} (h : ∀ i (hi : i < s.length), s[i].long = false) : raLong s most = decide (most < s.length) := by
  unfold raLong
  rw [List.any_eq_false.2 fun x hx => by
    obtain ⟨i, hi, rfl⟩ := List.getElem_of_mem hx
    simp [h i hi]]
  rfl
theorem RA.short {a : RA} (h : a.long = false) : a.ks.length ≤ 60 ∧ dLong [a.d] 1 = false := by
  unfold RA.long at h
  simp only [Bool.or_eq_false_iff, decide_eq_false_iff_not] at h
  exact ⟨by omega, h.2⟩
theorem raLong_short {s : List RA} {most : Int} (h : raLong s most = false) : (s.length : Int) ≤ most ∧ ∀ a ∈ s, a.long = false := by
  unfold raLong at h
  simp only [Bool.or_eq_false_iff, decide_eq_false_iff_not] at h
  refine ⟨by omega, fun a ha => ?_⟩
  have := List.any_eq_false.1 h.1 a ha
  simpa using this
set_option maxRecDepth 100000 in
set_option maxHeartbeats 1000000 in
theorem RaLong_any {A : Option Addr} {c : Nat} {s : List RA} (w : World) (h : SlRA w A c s) (most : Int) : Calls Tryz.prog 20 #[.slice A s.length c, .int .i64 most] w fun e w' => e = .returned (.bool (raLong s most)) ∧ Below w.heap.size w w' := by
  have hsl : s.length ≤ maxLen := Nat.le_trans h.1.2.1 h.1.2.2.1
  unfold maxLen at hsl
  have H := Lib.hid h
  clear h
  go_enter Tryz.func20, Tryz.ntmps20
  go_wp2_with fail
  go_loopw [9] (fun x wr => ∃ k : Nat, k ≤ s.length ∧ x = .int .i64 k ∧ (∀ i (hi : i < s.length), i < k → s[i].long = false) ∧ Below w.heap.size w wr) (fun x w => s.length - (intOf x).toNat)
  case atStart => exact ⟨0, Nat.zero_le _, rfl, (fun i _ hi => by omega), Below.refl _ _⟩
  case round =>
    obtain ⟨k, hk, rfl, hno, hb⟩ := hrel
    by_cases hlt : k < s.length
    · have hS := H.out.below hb
      obtain ⟨ad, b, o, hA, had, hcc⟩ := Sl.atS (f := rac) (size := 10) (fun _ => rfl) (by omega) hS.1 hlt
      have hc0 := hcc 0 _ rfl
      have hc1 := hcc 1 _ rfl
      have hc2 := hcc 2 _ rfl
      have hc3 := hcc 3 _ rfl
      have hc4 := hcc 4 _ rfl
      have hc5 := hcc 5 _ rfl
      have hc6 := hcc 6 _ rfl
      have hc7 := hcc 7 _ rfl
      have hc8 := hcc 8 _ rfl
      have hc9 := hcc 9 _ rfl
      rw [Nat.add_zero] at hc0
      have hok := hS.2 _ (List.getElem_mem hlt)
      clear hcc hS
      generalize hx : s[k] = x at *
      obtain ⟨kd, ow, nw, dx, B1, kc, ks⟩ := x
      obtain ⟨q2, q3, -, -, -⟩ := hok
      have q8 : ks.length ≤ maxLen := Nat.le_trans q2.2.1 q2.2.2.1
      clear q2
      have hok := Lib.hid q3
      clear q3
      dsimp only at *
      unfold maxLen at *
      rw [hA] at *
      clear hA
      have hbn := bel_alloc hb (.cells #[.int .i64 kd, .int .i64 ow, .int .i64 nw, .int .i64 dx.k, .string ⟨dx.n.toArray⟩, .string ⟨dx.t.toArray⟩, .slice dx.A dx.l.length dx.c, .int .i64 dx.f, .slice dx.B dx.ks.length dx.kc, .slice B1 ks.length kc] 64)
      rcases Nat.lt_or_ge 60 ks.length with g3 | g3
      · have i3 : (60 : Int) < (ks.length : Int) := by omega
        have HE := Lib.hid (raLong_at (most := most) hlt (by rw [hx]; unfold RA.long; simp; omega))
        clear hno hx hok
        go_wp2_with fail
        go_ret
        exact ⟨by rw [HE.out]; rfl, hbn⟩
      have i3 : (ks.length : Int) ≤ 60 := by omega
      have hlk := Lib.hid (SlDA.lit1 wr (.cells #[.int .i64 kd, .int .i64 ow, .int .i64 nw, .int .i64 dx.k, .string ⟨dx.n.toArray⟩, .string ⟨dx.t.toArray⟩, .slice dx.A dx.l.length dx.c, .int .i64 dx.f, .slice dx.B dx.ks.length dx.kc, .slice B1 ks.length kc] 64) 62 hok.out)
      have hbn2 := bel_alloc hbn (.cells #[.int .i64 dx.k, .string ⟨dx.n.toArray⟩, .string ⟨dx.t.toArray⟩, .slice dx.A dx.l.length dx.c, .int .i64 dx.f, .slice dx.B dx.ks.length dx.kc] 62)
      have HL := Lib.hid (DLong_any _ hlk.out 1)
      have hc1 := Lib.hid hbn2
      clear hlk hbn2
      go_wp2_with fail
      refine HL.out.mono ?_
      rintro e w5 ⟨rfl, hb5⟩
      have hb6 := bel_call hc1.out hb5
      cases hdl : dLong [dx] 1 with
      | true =>
        have HE := Lib.hid (raLong_at (most := most) hlt (by rw [hx]; unfold RA.long; rw [hdl]; simp))
        clear hno hx hok HL hc1 hb5
        go_wp2_with fail
        go_ret
        exact ⟨by rw [HE.out]; rfl, hb6⟩
      | false =>
        have hno2 := Lib.hid (show ∀ i (hi : i < s.length), i < k + 1 → s[i].long = false from fun i hi hi2 => by
          rcases Nat.lt_or_ge i k with h1 | h1
          · exact hno i hi h1
          · obtain rfl : i = k := by omega
            rw [hx]; unfold RA.long; rw [hdl]; simp; omega)
        clear hno hx hok HL hc1 hb5
        go_wp2_with fail
        go_roundw
        case rel => exact ⟨k + 1, hlt, rfl, hno2.out, hb6⟩
        case measure => simp [intOf]; omega
    · have hke : k = s.length := by omega
      have HE := Lib.hid (raLong_none (most := most) fun i hi => hno i hi (by omega))
      subst hke
      clear hno
      go_wp2_with fail
      go_ret
      exact ⟨by rw [HE.out]; rfl, hb⟩
end Go.Proofs.YtddmfoldnlafaaaGreatDoor

namespace Go.Proofs.YtddmfoldnlafaaaGreatDoor
open Go.RowKit Go.Maps Go.Sort

def racta (x : RA) : Array Value := #[.int .i64 x.k, .int .i64 x.o, .int .i64 x.n, .int .i64 x.d.k, .string ⟨x.d.n.toArray⟩, .string ⟨x.d.t.toArray⟩, .slice x.d.A x.d.l.length x.d.c, .int .i64 x.d.f, .slice x.d.B x.d.ks.length x.d.kc, .slice x.B x.ks.length x.kc]
theorem Blk.tenD {w : World} {g : Nat} {t : TypeId} {a0 a1 a2 a3 a4 a5 a6 a7 a8 a9 : Value} (h : Blk w g t #[a0, a1, a2, a3, a4, a5, a6, a7, a8, a9]) : w.cell? ⟨g, 0, none⟩ = some a0 ∧ w.cell? ⟨g, 1, none⟩ = some a1 ∧ w.cell? ⟨g, 2, none⟩ = some a2 ∧ w.cell? ⟨g, 3, none⟩ = some a3 ∧ w.cell? ⟨g, 4, none⟩ = some a4 ∧ w.cell? ⟨g, 5, none⟩ = some a5 ∧ w.cell? ⟨g, 6, none⟩ = some a6 ∧ w.cell? ⟨g, 7, none⟩ = some a7 ∧ w.cell? ⟨g, 8, none⟩ = some a8 ∧ w.cell? ⟨g, 9, none⟩ = some a9 := ⟨h.cell 0, h.cell 1, h.cell 2, h.cell 3, h.cell 4, h.cell 5, h.cell 6, h.cell 7, h.cell 8, h.cell 9⟩
end Go.Proofs.YtddmfoldnlafaaaGreatDoor
