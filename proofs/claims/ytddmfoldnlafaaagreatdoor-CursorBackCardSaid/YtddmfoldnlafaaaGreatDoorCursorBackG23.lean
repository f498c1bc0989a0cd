/- WHAT IT HOLDS: parts appended, cloned; Step, walked. | WHAT IT HOLDS: the law CrcParts, walked. | WHAT IT HOLDS: the law CrcFinds, walked. | WHAT IT HOLDS: the law FrameFinds, walked. | WHAT IT HOLDS: frame.Join, and the document's frames, walked. | WHAT IT HOLDS: the law FrameJoins, walked. | WHAT IT HOLDS: frame.One, Prefix, All, walked. | WHAT IT HOLDS: signed numbers' numbers, plainly (no program). | WHAT IT HOLDS: what is put is taken as it was, of the reader's plain functions (no program). | WHAT IT HOLDS: one frame, put and taken, plainly (no program). -/
import Derived.Test.YtddmfoldnlafaaaGreatDoorCursorBackG22
import Derived.Great.BuildSlice
import Derived.Test.YtddmfoldnlafaaaGreatDoorCursorBackG21
import Derived.Test.YtddmfoldnlafaaaGreatDoorCursorBackG05
import Derived.Test.YtddmfoldnlafaaaGreatDoorCursorBackG20
import Derived.Laws.CopyOwn
import Derived.Test.YtddmfoldnlafaaaGreatDoorCursorBackG04
import Derived.Lib.Zigzag
import Derived.Test.YtddmfoldnlafaaaGreatDoorCursorBackG06
namespace Go.Proofs.YtddmfoldnlafaaaGreatDoor
open Go.RowKit
attribute [local go_sem ↓] Go.wp_at_zero Go.wp_at_succ

theorem pt_info : (Tryz.prog.info? 129).map (fun i => (i.zero, i.size, i.bytes)) = some (some (.agg (pta (0, 0, 0, dg0))), 35, 56) := by kernel_rfl
theorem one_ptl (l : List Pt5) : ∀ u ∈ l.flatMap ptl, u.oneCell' = true := by
  intro u hu
  simp only [List.mem_flatMap] at hu
  obtain ⟨x, _, hx⟩ := hu
  exact ptl_one x u hx
abbrev OwnP (w : World) (base : Nat) (A : Option Addr) (c : Nat) (ps : List Pt5) : Prop := Own w base 129 35 A ps.length c (ps.flatMap ptl)
theorem step_parts {w : World} {ops : Array Oper} {o : Oper} {a : Act} {K : Act → World → Prop} {Q : Exit → Act → World → Prop} {X : Prop} (hw : Region.wanted o (yielded ops a.tmps) = true) (s x : Operand)
    (ho : o.op = .call { callee := .builtin .append, args := #[s, x], argTypes := #[22, 22] })
    (base : Nat) (A : Option Addr) (c : Nat) (l : List Pt5) (hs : a.eval s = .slice A l.length c) (hown : OwnP w base A c l)
    (A2 : Option Addr) (c2 n2 : Nat) (l2 : List Pt5) (hn2 : n2 = l2.length) (hx : a.eval x = .slice A2 n2 c2) (hr : SlP w A2 c2 l2) (hlen : l.length + l2.length ≤ 1000000000) (hbase : base ≤ w.heap.size)
    (h : ∀ A' c' (m : List Pt5) w', Hid (m = l ++ l2) → OwnP w' base A' c' m → w.grownBy w' (A.map (·.block)) → Below base w w' → K (a.put o.dst (.slice A' m.length c')) w') :
    if Region.wanted o (yielded ops a.tmps) = true then Oper.wp Tryz.prog o a w K Q else X := by
  subst hn2
  obtain ⟨i0, hi, hz0, hz1, hz2⟩ := info_parts pt_info
  refine step_append hw s x 22 ho base 129 i0 _ 35 56 Tryz.underlying22 hi hz0 hz1 hz2 (by rw [show (Value.agg (pta (0, 0, 0, dg0))).cells.size = (pta (0, 0, 0, dg0)).size from rfl, pta_size]) (by decide) A l.length c (l.flatMap ptl) hs hown A2 l2.length c2 (l2.flatMap ptl) hx hr (one_ptl l2) (by omega) (by simp only [maxLen]; omega) hbase ?_
  intro A' c' w' hap
  rw [← List.length_append]
  refine h A' c' (l ++ l2) w' rfl ?_ hap.grown (hap.below hown hbase)
  show Own w' base 129 35 A' (l ++ l2).length c' ((l ++ l2).flatMap ptl)
  rw [List.length_append, List.flatMap_append]
  exact hap.own
theorem wpl_parts {w : World} {ops : Array Oper} {rest : List Oper} {o : Oper} {a : Act} {Q : Exit → Act → World → Prop} (hw : Region.wanted o (yielded ops a.tmps) = true) (s x : Operand)
    (ho : o.op = .call { callee := .builtin .append, args := #[s, x], argTypes := #[22, 22] })
    (base : Nat) (A : Option Addr) (c : Nat) (l : List Pt5) (hs : a.eval s = .slice A l.length c) (hown : OwnP w base A c l)
    (A2 : Option Addr) (c2 n2 : Nat) (l2 : List Pt5) (hn2 : n2 = l2.length) (hx : a.eval x = .slice A2 n2 c2) (hr : SlP w A2 c2 l2) (hlen : l.length + l2.length ≤ 1000000000) (hbase : base ≤ w.heap.size)
    (h : ∀ A' c' (m : List Pt5) w', Hid (m = l ++ l2) → OwnP w' base A' c' m → w.grownBy w' (A.map (·.block)) → Below base w w' → wpList Tryz.prog ops Q rest (a.put o.dst (.slice A' m.length c')) w') : wpList Tryz.prog ops Q (o :: rest) a w :=
  wpList_step fun _ hK => step_parts hw s x ho base A c l hs hown A2 c2 n2 l2 hn2 hx hr hlen hbase fun A' c' m w' h1 h2 h3 h4 => hK _ _ (h A' c' m w' h1 h2 h3 h4)
/-- new parts -/
def GivesPs (w0 : World) (ps : List Pt5) (e : Ending) (w' : World) : Prop := ∃ A c m, e = .returned (.slice A (List.length m) c) ∧ Hid (m = ps) ∧ OwnP w' w0.heap.size A c m ∧ Below w0.heap.size w0 w'
theorem step_loadP {w : World} {ops : Array Oper} {o : Oper} {a : Act} {K : Act → World → Prop} {Q : Exit → Act → World → Prop} {X : Prop} (hgd : Region.wanted o (yielded ops a.tmps) = true) (x : Operand) (ho : o.op = .load 129 x)
    (ad : Addr) (p : Pt5) (hx : a.eval x = .pointer (some ad)) (hc : ∀ j u, (pta p)[j]? = some u → w.cell? (ad.add j) = some u)
    (h : K (a.put o.dst (.agg (pta p))) w) : if Region.wanted o (yielded ops a.tmps) = true then Oper.wp Tryz.prog o a w K Q else X := by
  rw [if_pos hgd]
  exact wp_loadA 129 x ho ad (pta p) hx hc _ Tryz.underlying129 rfl (by rw [pta_size]; kernel_rfl) h
/-- a slice literal of one part -/
theorem step_lit1 {w : World} {ops : Array Oper} {o : Oper} {a : Act} {K : Act → World → Prop} {Q : Exit → Act → World → Prop} {X : Prop} (hgd : Region.wanted o (yielded ops a.tmps) = true) (x : Operand) (ho : o.op = .buildSlice 22 1 #[(0, x)])
    (p : Pt5) (hx : a.eval x = .agg (pta p)) (h : K (a.put o.dst (.slice (some ⟨w.heap.size, 0, none⟩) 1 1)) (w.alloc (.cells (pta p) 129))) : if Region.wanted o (yielded ops a.tmps) = true then Oper.wp Tryz.prog o a w K Q else X := by
  rw [if_pos hgd]
  obtain ⟨i0, hi, hz0, hz1, hz2⟩ := info_parts pt_info
  refine wp_buildSlice 22 129 1 _ ho (pta p) i0 _ Tryz.underlying22 hi hz0 (by rw [hz1]; decide) (by rw [hz1]; decide) ?_ h
  rw [hz1]
  have hl : ((#[(0, x)] : Array (Nat × Operand)).map fun (i, x) => (i, a.eval x)).toList = ([Value.agg (pta p)].zipIdx 0).map fun x => (x.2, x.1) := by simp [hx]
  have hps := pta_size p
  rw [hl, Go.Great.fill_whole (s := 35) (by decide) [Value.agg (pta p)] _ (by intro v hv; rw [List.mem_singleton.1 hv]; exact hps) (by simp)]
  simp [Value.cells]
theorem litP (W : World) (p : Pt5) : SlP (W.alloc (.cells (pta p) 129)) (some ⟨W.heap.size, 0, none⟩) 1 [p] := by
  have h := Sl.litsS W 35 1 (ptl p) 129 (by rw [ptl_len]) (by simp [maxLen])
  show Sl _ 35 _ 1 1 ([p].flatMap ptl)
  simpa [pta] using h
theorem res_cr2 {fn : Func} {a b : Nat} {tmps : Array Value} {w : World} {g : Nat} {x y z u v : Value} (hres : fn.results = #[.cell a 24, .tmp b]) (ha : tmps.getD a undef = .pointer (some ⟨g, 0, none⟩)) (hB : Blk w g 24 #[x, y, z, u, v]) :
    (results fn tmps).run Tryz.prog w = .ok (.tuple #[.agg #[x, y, z, u, v], tmps.getD b undef]) w := by
  obtain ⟨b0, b1, b2, b3, b4, -⟩ := Blk.five hB
  have ha' : tmps[a]?.getD undef = .pointer (some ⟨g, 0, none⟩) := by simpa using ha
  simp [results, hres, go_sem, b0, b1, b2, b3, b4, ha']
theorem Blk.set5 {w : World} {g : Nat} {t : TypeId} {a b c d e : Value} (h : Blk w g t #[a, b, c, d, e]) (x y z u v : Value) : Blk (((((w.setCell ⟨g, 0, none⟩ x).setCell ⟨g, 1, none⟩ y).setCell ⟨g, 2, none⟩ z).setCell ⟨g, 3, none⟩ u).setCell ⟨g, 4, none⟩ v) g t #[x, y, z, u, v] :=
  ((((h.set_ 0 x).set_ 1 y).set_ 2 z).set_ 3 u).set_ 4 v
theorem Own.set5 {w : World} {base : Nat} {e : TypeId} {size n c : Nat} {A : Option Addr} {xs : List Value} (h : Own w base e size A n c xs) {g : Nat} (hg : g < base) (x y z u v : Value) : Own (((((w.setCell ⟨g, 0, none⟩ x).setCell ⟨g, 1, none⟩ y).setCell ⟨g, 2, none⟩ z).setCell ⟨g, 3, none⟩ u).setCell ⟨g, 4, none⟩ v) base e size A n c xs :=
  Own.set1 (Own.set1 (Own.set1 (Own.set1 (Own.set1 h hg _) hg _) hg _) hg _) hg _
theorem bel_set5 {w w' : World} {g : Nat} (h : Below w.heap.size w w') (hg : w.heap.size ≤ g) (x y z u v : Value) : Below w.heap.size w (((((w'.setCell ⟨g, 0, none⟩ x).setCell ⟨g, 1, none⟩ y).setCell ⟨g, 2, none⟩ z).setCell ⟨g, 3, none⟩ u).setCell ⟨g, 4, none⟩ v) := bel_set (bel_set (bel_set (bel_set (bel_set h hg _) hg _) hg _) hg _) hg _
/-- a cursor and a part, the result's block -/
structure StC (w W : World) (f nx t q : Int) (A : Option Addr) (k c : Nat) (p : Pt5) : Prop where
  bel : Below w.heap.size w W
  pt : Blk W (w.heap.size + 1) 129 (pta p)
  res : Blk W (w.heap.size + 1 + 1) 24 #[.int .i64 0, .int .i64 0, .int .i64 0, .int .i64 0, .slice none 0 0]
section
variable {w W W' : World} {f nx t q : Int} {A : Option Addr} {k c : Nat} {p : Pt5}
theorem StC.below (h : StC w W f nx t q A k c p) (hb : Below W.heap.size W W') : StC w W' f nx t q A k c p := ⟨bel_call h.bel hb, h.pt.below hb, h.res.below hb⟩
theorem StC.drew (h : StC w W f nx t q A k c p) : StC w W.drew f nx t q A k c p := ⟨h.bel.drew, h.pt.drew, h.res.drew⟩
theorem StC.alloc (h : StC w W f nx t q A k c p) (o : Obj) : StC w (W.alloc o) f nx t q A k c p := ⟨bel_alloc h.bel o, h.pt.alloc o, h.res.alloc o⟩
theorem StC.apart (h : StC w W f nx t q A k c p) {B : Nat} (hB : w.heap.size + 1 + 1 < B) (hb : Below B W W') : StC w W' f nx t q A k c p :=
  ⟨h.bel.trans (hb.mono (by omega)), (hb.block _ (by omega)).trans h.pt, (hb.block _ hB).trans h.res⟩
theorem StC.set0 (h : StC w W f nx t q A k c p) (i : Nat) (u : Value) : StC w (W.setCell ⟨w.heap.size, i, none⟩ u) f nx t q A k c p :=
  ⟨bel_set h.bel (Nat.le_refl _) u, h.pt.far (by dsimp only; omega) u, h.res.far (by dsimp only; omega) u⟩
end
end Go.Proofs.YtddmfoldnlafaaaGreatDoor

namespace Go.Proofs.YtddmfoldnlafaaaGreatDoor
open Go.RowKit
attribute [local go_sem ↓] Go.wp_at_zero Go.wp_at_succ

theorem u64_tmod (a : Int) (n : Nat) : ∃ k : Nat, k ≤ n ∧ (IntKind.u64.wrap a).tmod ((n : Int) + 1) = (k : Int) := by
  have h : 0 ≤ IntKind.u64.wrap a := wrap_u64_nonneg a
  rw [Int.tmod_eq_emod_of_nonneg h]
  have h1 := Int.emod_nonneg (IntKind.u64.wrap a) (show (n : Int) + 1 ≠ 0 by omega)
  have h2 := Int.emod_lt_of_pos (IntKind.u64.wrap a) (show (0 : Int) < (n : Int) + 1 by omega)
  exact ⟨((IntKind.u64.wrap a) % ((n : Int) + 1)).toNat, by omega, by omega⟩
theorem opened_sealed (l : List UInt8) : opened (l ++ four (sumW l)) = (l, 0) := by
  have h4 := four_len (sumW l)
  unfold opened
  have hl : (l ++ four (sumW l)).length - 4 = l.length := by simp [h4]
  rw [if_neg (by rw [List.length_append, h4]; omega), hl, List.take_left, List.drop_left, if_pos rfl]

end Go.Proofs.YtddmfoldnlafaaaGreatDoor

namespace Go.Proofs.YtddmfoldnlafaaaGreatDoor
open Go.RowKit
attribute [local go_sem ↓] Go.wp_at_zero Go.wp_at_succ

theorem u64_tmod_pos (a : Int) (n : Nat) (hn : 0 < n) : ∃ k : Nat, k < n ∧ (IntKind.u64.wrap a).tmod (n : Int) = (k : Int) := by
  obtain ⟨k, hk, he⟩ := u64_tmod a (n - 1)
  refine ⟨k, by omega, ?_⟩
  rw [← he]
  congr 1
  omega
/-- the bits that have been turned so far -/
def wpart (x n8 place i : Nat) : Nat := x % 2 ^ min i (n8 - place)
theorem wpart_out {x n8 place i : Nat} (h : n8 ≤ place + i) : wpart x n8 place (i + 1) = wpart x n8 place i := by
  unfold wpart; rw [Nat.min_eq_right (by omega), Nat.min_eq_right (by omega)]
theorem wpart_off {x n8 place i : Nat} (hp : place + i < n8) (h : x.testBit i = false) : wpart x n8 place (i + 1) = wpart x n8 place i := by
  unfold wpart
  rw [Nat.min_eq_left (by omega), Nat.min_eq_left (by omega)]
  apply Nat.eq_of_testBit_eq
  intro j
  simp only [Nat.testBit_mod_two_pow]
  by_cases hj : j = i
  · subst hj; simp [h]
  · by_cases h1 : j < i
    · simp [h1, show j < i + 1 from by omega]
    · simp [h1, show ¬ j < i + 1 from by omega]
theorem wpart_on {x n8 place i : Nat} (hp : place + i < n8) (h : x.testBit i = true) : wpart x n8 place (i + 1) = wpart x n8 place i ^^^ 2 ^ i := by
  unfold wpart
  rw [Nat.min_eq_left (by omega), Nat.min_eq_left (by omega)]
  apply Nat.eq_of_testBit_eq
  intro j
  simp only [Nat.testBit_mod_two_pow, Nat.testBit_xor, Nat.testBit_two_pow]
  by_cases hj : j = i
  · subst hj; simp [h]
  · by_cases h1 : j < i
    · simp [h1, show j < i + 1 from by omega, show ¬ i = j from by omega]
    · simp [h1, show ¬ j < i + 1 from by omega, show ¬ i = j from by omega]
theorem wpart_on_ne {x n8 place i : Nat} (hp : place + i < n8) (h : x.testBit i = true) : wpart x n8 place (i + 1) ≠ 0 := by
  rw [wpart_on hp h]
  intro he
  have := congrArg (fun y => y.testBit i) he
  simp [Nat.testBit_xor, wpart, Nat.testBit_mod_two_pow, Nat.min_eq_left (show i ≤ n8 - place from by omega)] at this
theorem set_bit {l m : List UInt8} {W place i : Nat} (_hl : m.length = l.length) (h : leN m = leN l ^^^ (W <<< place)) (hp : (place + i) / 8 < m.length) :
    leN (m.set ((place + i) / 8) (m[(place + i) / 8] ^^^ UInt8.ofNat (2 ^ ((place + i) % 8)))) = leN l ^^^ ((W ^^^ 2 ^ i) <<< place) := by
  rw [leN_set _ _ hp, h, Nat.xor_assoc, Nat.shiftLeft_xor_distrib]
  congr 2
  have h8 : (place + i) % 8 < 8 := Nat.mod_lt _ (by decide)
  have h2 : 2 ^ ((place + i) % 8) < 256 := Nat.pow_lt_pow_right (a := 2) (by decide) h8
  rw [UInt8.toNat_ofNat', Nat.mod_eq_of_lt h2, Nat.shiftLeft_eq, Nat.shiftLeft_eq, ← Nat.pow_add, ← Nat.pow_add]
  congr 1
  omega
theorem own_set {w : World} {base : Nat} {e : TypeId} {A : Option Addr} {c j : Nat} {m : List UInt8} {x : UInt8} {g : Nat} (h : OwnB w base e A c m) (hA : A = some ⟨g, 0, none⟩) (_hj : j < m.length) : OwnB (w.setCell ⟨g, j, none⟩ (bv x)) base e A c (m.set j x) := by
  obtain ⟨h1, h2⟩ := h
  rcases h2 with ⟨hv, hn⟩ | ⟨g', cap, cur, hv, hb, hh, hnc, hcm, hcs, ht⟩
  · subst hA; simp at hv
  · subst hA
    simp at hv
    obtain ⟨rfl, rfl⟩ := hv
    have hb2 : bvs (m.set j x) = (bvs m).set j (bv x) := by rw [bvs, bvs, List.map_set]
    refine ⟨by simp, .inr ⟨g, c, cur.setIfInBounds j (bv x), by simp, hb, ?_, by simpa using hnc, hcm, by simpa using hcs, ?_⟩⟩
    · simp [World.setCell, Array.getElem?_modify, hh]
    · rw [Array.toList_setIfInBounds, List.length_set, List.take_set, ht, hb2]

theorem Sl.apartB {w w5 w6 : World} {A : Option Addr} {c g : Nat} {l : List UInt8} (h : SlB w A c l) (hb : But g w w5) (_ : g < w.heap.size) (hb6 : Below w.heap.size w5 w6) (hA : l ≠ [] → A.map (·.block) ≠ some g) : SlB w6 A c l := by
  have h5 := SlB.but h hb hA
  refine ⟨h.1, h.2.1, h.2.2.1, h.2.2.2.1, fun j u hj => ?_⟩
  obtain ⟨ad, hA2, hc⟩ := h5.2.2.2.2 j u hj
  obtain ⟨ad', hA', hc'⟩ := h.2.2.2.2 j u hj
  rw [hA2] at hA'
  injection hA' with e
  subst e
  exact ⟨ad, hA2, (hb6.cell (World.block_lt_of_cell? w _ hc')).trans hc⟩
theorem own_copy {w : World} {base g cap : Nat} {e : TypeId} {cur : List Value} {l m f : List UInt8} (hg : base ≤ g) (hh : w.heap[g]? = some (.cells (splice cur 0 (bvs m)).toArray e (0, 0))) (hn : (l ++ f).length ≤ cap) (hcm : cap ≤ maxLen)
    (hcs : cur.length = cap) (ht : cur.take (l ++ f).length = bvs (l ++ f)) (hlm : m.length = l.length) : OwnB w base e (some ⟨g, 0, none⟩) cap (m ++ f) := by
  have h1 : (m ++ f).length = (l ++ f).length := by simp [hlm]
  have h2 : (bvs m).length = m.length := by simp
  refine ⟨by simp, .inr ⟨g, cap, _, rfl, hg, hh, by rw [h1]; exact hn, hcm, ?_, ?_⟩⟩
  · simp only [List.size_toArray]
    rw [length_splice _ _ _ (by rw [h2, hcs, hlm]; rw [List.length_append] at hn; omega), hcs]
    omega
  · show List.take ((m ++ f).length * 1) (splice cur 0 (bvs m)) = bvs (m ++ f)
    have h3 : bvs (m ++ f) = bvs m ++ bvs f := List.map_append
    have h4 : (cur.drop m.length).take f.length = bvs f := by
      have := congrArg (List.drop l.length) ht
      rw [List.drop_take, List.length_append, Nat.add_sub_cancel_left] at this
      rw [hlm, this]
      show (bvs (l ++ f)).drop l.length = bvs f
      rw [show bvs (l ++ f) = bvs l ++ bvs f from List.map_append, List.drop_left' (by simp)]
    rw [h3, ← h4]
    unfold splice
    rw [List.take_zero, List.nil_append, Nat.zero_add, h2, Nat.mul_one, List.length_append, List.take_append, h2, List.take_of_length_le (by rw [h2]; omega), Nat.add_sub_cancel_left]
theorem opened_other {l m : List UInt8} (h : sumW m ≠ sumW l) : opened (m ++ four (sumW l)) = ([], 11) := by
  have h4 := four_len (sumW l)
  unfold opened
  have hl : (m ++ four (sumW l)).length - 4 = m.length := by simp [h4]
  rw [if_neg (by rw [List.length_append, h4]; omega), hl, List.take_left, List.drop_left, if_neg (fun e => h (four_inj e))]

end Go.Proofs.YtddmfoldnlafaaaGreatDoor

namespace Go.Proofs.YtddmfoldnlafaaaGreatDoor
open Go.RowKit
attribute [local go_sem ↓] Go.wp_at_zero Go.wp_at_succ

theorem frm_nil : frm [] = [0, 82, 125, 83, 81] := by
  unfold frm txb
  rw [show vb ([] : List UInt8).length = [0] from vb_small (by decide)]
  decide +kernel
theorem FTake_len (A : Option Addr) (c k : Nat) (l : List UInt8) (w : World) (hk : k = l.length) (hs : SlB w A c l) (hl : l.length ≤ 10000000) :
    Calls Tryz.prog 117 #[.slice A k c] w (TakesF w (ftake l)) := by subst hk; exact FTake_any A c l w hs hl
end Go.Proofs.YtddmfoldnlafaaaGreatDoor

namespace Go.Proofs.YtddmfoldnlafaaaGreatDoor
open Go.RowKit
attribute [local go_sem ↓] Go.wp_at_zero Go.wp_at_succ

def ptx (ps : List Pt) : List (List UInt8) := ps.map (·.2.2)
theorem ptx_get {ps : List Pt} {k : Nat} (h : k < (ptx ps).length) (h2 : k < ps.length) : (ptx ps)[k] = ps[k].2.2 := List.getElem_map _
def frms (ts : List (List UInt8)) : List UInt8 := ts.flatMap frm
def fjoin (ts : List (List UInt8)) : List UInt8 × Nat := if ts.any (fun t => decide (65536 < t.length)) then ([], 3) else (frms ts, 0)
theorem fjoin_long {ts : List (List UInt8)} {k : Nat} (hk : k < ts.length) (h : 65536 < ts[k].length) : fjoin ts = ([], 3) := by
  unfold fjoin; rw [if_pos]
  exact List.any_eq_true.2 ⟨ts[k], List.getElem_mem hk, decide_eq_true h⟩
theorem fjoin_ok {ts : List (List UInt8)} (h : ∀ t ∈ ts, t.length ≤ 65536) : fjoin ts = (frms ts, 0) := by
  unfold fjoin; rw [if_neg]
  intro he
  obtain ⟨t, ht, hd⟩ := List.any_eq_true.1 he
  have := of_decide_eq_true hd
  have := h t ht
  omega
theorem frms_snoc {ts : List (List UInt8)} {k : Nat} (hk : k < ts.length) : frms (ts.take (k + 1)) = frms (ts.take k) ++ frm ts[k] := by
  unfold frms; rw [List.take_succ_eq_append_getElem hk, List.flatMap_append]; simp
theorem frms_le {ts : List (List UInt8)} (h : ∀ t ∈ ts, t.length ≤ 70000) : (frms ts).length ≤ 70014 * ts.length := by
  induction ts with
  | nil => simp [frms]
  | cons t ts ih =>
    have h1 := h t (by simp)
    have h2 := ih (fun q hq => h q (by simp [hq]))
    have h3 := frm_len t
    have h4 := vb_le10 (n := t.length) (by omega)
    simp only [frms, List.flatMap_cons, List.length_append, List.length_cons] at h2 ⊢
    omega
/-- what Join answers -/
def JoinsB (w0 : World) (o : List UInt8 × Nat) (e : Ending) (w' : World) : Prop :=
  ∃ A c m, e = .returned (.tuple #[.slice A (List.length m) c, errv o.2]) ∧ Hid (m = o.1) ∧ SlB w' A c m ∧ Below w0.heap.size w0 w'

set_option maxRecDepth 100000 in
set_option maxHeartbeats 1000000 in
theorem rFrame_any (A : Option Addr) (c : Nat) (t : List UInt8) (w : World) (hs : SlB w A c t) (ht : t.length ≤ 1000000) :
    Calls Tryz.prog 139 #[.slice A t.length c] w (GivesB w (frm t)) := by
  have hvl := Lib.hid (vb_le10 (n := t.length) (by omega))
  go_enter Tryz.func139, Tryz.ntmps139
  go_wp2_with fail
  refine (rText_any A c t _ hs (by omega)).mono ?_
  rintro e w1 ⟨A1, c1, m1, rfl, hm1, ho1, hb1⟩
  have hm1' := Lib.hid (show m1 = txb t from hm1.out)
  have hl1 := Lib.hid (show m1.length ≤ 1000010 from by rw [hm1'.out]; unfold txb; rw [List.length_append]; have := hvl.out; omega)
  go_wp2_with fail
  refine (rSum_any A1 c1 m1 _ ho1.sl (by have := hl1.out; omega)).mono ?_
  rintro e w2 ⟨rfl, rfl⟩
  go_wp2_with fail
  refine (rFour_any (sumW m1) _).mono ?_
  rintro e w3 ⟨A3, c3, m3, rfl, hm3, hs3, hb3⟩
  have hl3 := Lib.hid (show m3.length = 4 from by rw [hm3.out, four_len])
  go_wp2_with (at_builtin; go_must (refine wpl_bytes 25 5 Tryz.underlying25 u8_info rfl _ _ rfl w.heap.size A1 c1 m1 rfl (ho1.below hb3) A3 c3 m3 rfl hs3 (by have := hl1.out; have := hl3.out; omega) (Nat.le_trans hb1.size hb3.size) ?_; intro A4 c4 m4 w4 hm4 ho4 _ _ hb4))
  go_ret
  exact ⟨A4, c4, m4, rfl, (show m4 = _ from by rw [hm4.out, hm3.out, hm1'.out]; rfl), ho4, (bel_call hb1 hb3).trans hb4⟩
end Go.Proofs.YtddmfoldnlafaaaGreatDoor

namespace Go.Proofs.YtddmfoldnlafaaaGreatDoor
open Go.RowKit
attribute [local go_sem ↓] Go.wp_at_zero Go.wp_at_succ

theorem sl_info : (Tryz.prog.info? 25).map (fun i => (i.zero, i.size, i.bytes)) = some (some (.slice none 0 0), 1, 24) := by kernel_rfl
theorem frms_le' {ts : List (List UInt8)} (h : ∀ t ∈ ts, t.length ≤ 300) : (frms ts).length ≤ 314 * ts.length := by
  induction ts with
  | nil => simp [frms]
  | cons t ts ih =>
    have h1 := h t (by simp)
    have h2 := ih (fun q hq => h q (by simp [hq]))
    have h3 := frm_len t
    have h4 := vb_le10 (n := t.length) (by omega)
    simp only [frms, List.flatMap_cons, List.length_append, List.length_cons] at h2 ⊢
    omega
/-- texts of the call's own -/
abbrev OwnPt (w : World) (base : Nat) (A : Option Addr) (c : Nat) (ps : List Pt) : Prop := Own w base 25 1 A ps.length c (ps.map pv)
abbrev SlPt (w : World) (A : Option Addr) (c : Nat) (ps : List Pt) : Prop := Sl w 1 A ps.length c (ps.map pv)
theorem one_pv (ps : List Pt) : ∀ u ∈ ps.map pv, u.oneCell' = true := by
  intro u hu
  simp only [List.mem_map] at hu
  obtain ⟨b, _, rfl⟩ := hu
  rfl
/-- append of texts -/
theorem wpl_texts {w : World} {ops : Array Oper} {rest : List Oper} {o : Oper} {a : Act} {Q : Exit → Act → World → Prop} (hgd : o.guard = none) (s x : Operand)
    (ho : o.op = .call { callee := .builtin .append, args := #[s, x], argTypes := #[251, 251] })
    (base : Nat) (A : Option Addr) (c : Nat) (l : List Pt) (hs : a.eval s = .slice A l.length c) (hown : OwnPt w base A c l)
    (A2 : Option Addr) (c2 : Nat) (l2 : List Pt) (hx : a.eval x = .slice A2 l2.length c2) (hr : SlPt w A2 c2 l2)
    (hlen : l.length + l2.length ≤ 100000) (hbase : base ≤ w.heap.size)
    (h : ∀ A' c' (m : List Pt) w', Hid (m = l ++ l2) → OwnPt w' base A' c' m → Below base w w' → wpList Tryz.prog ops Q rest (a.put o.dst (.slice A' m.length c')) w') : wpList Tryz.prog ops Q (o :: rest) a w := by
  obtain ⟨i0, hi, hz0, hz1, hz2⟩ := info_parts sl_info
  refine wpl_append hgd s x 251 ho base 25 i0 (.slice none 0 0) 1 24 Tryz.underlying251 hi hz0 hz1 hz2 rfl (by decide) A l.length c (l.map pv) hs hown A2 l2.length c2 (l2.map pv) hx hr (one_pv l2) (by omega) (by simp only [maxLen]; omega) hbase ?_
  intro A' c' w' hap
  rw [← List.length_append]
  refine h A' c' (l ++ l2) w' rfl ?_ (hap.below hown hbase)
  have := hap.own
  simpa [OwnPt] using this

end Go.Proofs.YtddmfoldnlafaaaGreatDoor

namespace Go.Proofs.YtddmfoldnlafaaaGreatDoor
open Go.RowKit
attribute [local go_sem ↓] Go.wp_at_zero Go.wp_at_succ

theorem ftake_ok {l : List UInt8} (h : (ftake l).2.2 = 0) : 4 ≤ (ftake l).2.1 ∧ (ftake l).2.1 ≤ l.length := by
  unfold ftake at h ⊢
  split at h
  · simp at h
  · rename_i n k _
    by_cases h1 : 65536 < n
    · rw [if_pos h1] at h; simp at h
    · rw [if_neg h1] at h ⊢
      by_cases h2 : l.length < k + n + 4
      · rw [if_pos h2] at h; simp at h
      · rw [if_neg h2] at h ⊢
        by_cases h3 : four (sumW (l.take (k + n))) = (l.drop (k + n)).take 4
        · rw [if_pos h3]; dsimp only; omega
        · rw [if_neg h3] at h; simp at h
/-- the texts of the frames that bytes begin with, and how many bytes these have -/
def fpre (l : List UInt8) : List (List UInt8) × Nat :=
  if _h : (ftake l).2.2 = 0 then ((ftake l).1 :: (fpre (l.drop (ftake l).2.1)).1, (ftake l).2.1 + (fpre (l.drop (ftake l).2.1)).2) else ([], 0)
  termination_by l.length
  decreasing_by all_goals (have := ftake_ok _h; simp; omega)
theorem fpre_ok {l : List UInt8} (h : (ftake l).2.2 = 0) : fpre l = ((ftake l).1 :: (fpre (l.drop (ftake l).2.1)).1, (ftake l).2.1 + (fpre (l.drop (ftake l).2.1)).2) := by rw [fpre, dif_pos h]
theorem fpre_bad {l : List UInt8} (h : (ftake l).2.2 ≠ 0) : fpre l = ([], 0) := by rw [fpre, dif_neg h]
def fone (l : List UInt8) : List UInt8 × Nat := if (ftake l).2.2 ≠ 0 then ([], (ftake l).2.2) else if (ftake l).2.1 < l.length then ([], 2) else ((ftake l).1, 0)
theorem SlB.grown {w w' : World} {A : Option Addr} {c : Nat} {row : Option Nat} {l : List UInt8} (h : SlB w A c l) (hb : w.grownBy w' row) (hA : l ≠ [] → A.map (·.block) ≠ row) : SlB w' A c l := by
  refine ⟨h.1, h.2.1, h.2.2.1, h.2.2.2.1, fun j u hj => ?_⟩
  obtain ⟨ad, hA2, hc⟩ := h.2.2.2.2 j u hj
  have hne : l ≠ [] := by intro e; rw [e] at hj; simp at hj
  subst hA2
  exact ⟨ad, rfl, hb.cell hc (by rw [addr_add_block]; exact hA hne)⟩

set_option maxRecDepth 100000 in
set_option maxHeartbeats 1000000 in
theorem FOne_any (A : Option Addr) (c : Nat) (l : List UInt8) (w : World) (hs : SlB w A c l) (hl : l.length ≤ 10000000) :
    Calls Tryz.prog 53 #[.slice A l.length c] w (JoinsB w (fone l)) := by
  go_enter Tryz.func53, Tryz.ntmps53
  go_wp2_with fail
  refine (FTake_any A c l _ hs hl).mono ?_
  rintro e w1 ⟨A1, c1, m1, he, hm1, ho1, hb1⟩
  rcases errv_cases (ftake l).2.2 with ⟨h0, hev⟩ | ⟨k, hk, hke, hev⟩
  · rw [hev] at he
    subst he
    by_cases hlt : (ftake l).2.1 < l.length
    · have hf := Lib.hid (show fone l = ([], 2) from by unfold fone; rw [if_neg (by omega), if_pos hlt])
      have hi : (((ftake l).2.1 : Nat) : Int) < (l.length : Int) := by omega
      generalize (ftake l).2.1 = q at *
      clear h0 hm1
      go_wp2_with fail
      go_ret2
      exact ⟨none, 0, [], by rw [hf.out]; rfl, by rw [hf.out]; rfl, Sl.none_ _ _, hb1⟩
    · have hf := Lib.hid (show fone l = ((ftake l).1, 0) from by unfold fone; rw [if_neg (by omega), if_neg hlt])
      have hi : ¬ (((ftake l).2.1 : Nat) : Int) < (l.length : Int) := by omega
      have hm : Hid (m1 = (fone l).1) := (show _ = _ from by rw [hf.out]; exact hm1.out)
      generalize (ftake l).2.1 = q at *
      clear h0 hm1
      go_wp2_with fail
      go_ret2
      exact ⟨A1, c1, m1, by rw [hf.out]; rfl, hm, ho1.1, hb1⟩
  · have hf := Lib.hid (show fone l = ([], (ftake l).2.2) from by unfold fone; rw [if_pos (by omega)])
    have hfe : errv (fone l).2 = .iface 79 (.int .i64 k) := by rw [hf.out]; exact hev
    have HFE := Lib.hid hfe
    rw [hev] at he
    subst he
    generalize (ftake l).2.1 = q at *
    clear hev hfe hm1 hke
    go_wp2_with fail
    go_ret2
    exact ⟨none, 0, [], by rw [HFE.out]; rfl, by rw [hf.out]; rfl, Sl.none_ _ _, hb1⟩

/-- append of texts, and where they then are -/
theorem wpl_texts2 {w : World} {ops : Array Oper} {rest : List Oper} {o : Oper} {a : Act} {Q : Exit → Act → World → Prop} (hgd : o.guard = none) (s x : Operand)
    (ho : o.op = .call { callee := .builtin .append, args := #[s, x], argTypes := #[251, 251] })
    (base : Nat) (A : Option Addr) (c : Nat) (l : List Pt) (hs : a.eval s = .slice A l.length c) (hown : OwnPt w base A c l)
    (A2 : Option Addr) (c2 : Nat) (l2 : List Pt) (hx : a.eval x = .slice A2 l2.length c2) (hr : SlPt w A2 c2 l2)
    (hlen : l.length + l2.length ≤ 100000000) (hbase : base ≤ w.heap.size)
    (h : ∀ A' c' (m : List Pt) w', Hid (m = l ++ l2) → OwnPt w' base A' c' m → w.grownBy w' (A.map (·.block)) → (A'.map (·.block) = A.map (·.block) ∨ A'.map (·.block) = some w.heap.size) → Below base w w' → wpList Tryz.prog ops Q rest (a.put o.dst (.slice A' m.length c')) w') : wpList Tryz.prog ops Q (o :: rest) a w := by
  obtain ⟨i0, hi, hz0, hz1, hz2⟩ := info_parts sl_info
  refine wpl_append hgd s x 251 ho base 25 i0 (.slice none 0 0) 1 24 Tryz.underlying251 hi hz0 hz1 hz2 rfl (by decide) A l.length c (l.map pv) hs hown A2 l2.length c2 (l2.map pv) hx hr (one_pv l2) (by omega) (by simp only [maxLen]; omega) hbase ?_
  intro A' c' w' hap
  rw [← List.length_append]
  refine h A' c' (l ++ l2) w' rfl ?_ hap.grown hap.place (hap.below hown hbase)
  have := hap.own
  simpa [OwnPt] using this
/-- each text can be read, and lies beside the row -/
def TX (w : World) (Pb : Option Nat → Prop) (B : Option Addr) (ps : List Pt) : Prop := ∀ x ∈ ps, SlB w x.1 x.2.1 x.2.2 ∧ (x.2.2 ≠ [] → x.1.map (·.block) ≠ B.map (·.block) ∧ Pb (x.1.map (·.block)))
theorem TX.below {w w' : World} {Pb : Option Nat → Prop} {B : Option Addr} {ps : List Pt} (h : TX w Pb B ps) (hb : Below w.heap.size w w') : TX w' Pb B ps := fun x hx => ⟨(h x hx).1.below hb, (h x hx).2⟩
theorem TX.grown {w w' : World} {Pb : Option Nat → Prop} {B B' : Option Addr} {ps : List Pt} (h : TX w Pb B ps) (hb : w.grownBy w' (B.map (·.block))) (hp : B'.map (·.block) = B.map (·.block) ∨ B'.map (·.block) = some w.heap.size) : TX w' Pb B' ps := fun x hx => by
  refine ⟨SlB.grown (h x hx).1 hb (fun hne => ((h x hx).2 hne).1), fun hne => ⟨?_, ((h x hx).2 hne).2⟩⟩
  rcases hp with hp | hp
  · rw [hp]; exact ((h x hx).2 hne).1
  · rw [hp]; exact SlB.old (h x hx).1 (Nat.le_refl _) hne
/-- a block from n on -/
def From (n : Nat) (b : Option Nat) : Prop := ∀ g, b = some g → n ≤ g
/-- what Prefix answers -/
def PreB (w0 : World) (o : List (List UInt8) × Nat) (e : Ending) (w' : World) : Prop :=
  ∃ A c ps, e = .returned (.tuple #[.slice A (List.length ps) c, .int .i64 (o.2 : Nat)]) ∧ Hid (ptx ps = o.1) ∧ SlPt w' A c ps ∧ (∀ x ∈ ps, SlB w' x.1 x.2.1 x.2.2 ∧ (x.2.2 ≠ [] → From w0.heap.size (x.1.map (·.block)))) ∧ From w0.heap.size (A.map (·.block)) ∧ Below w0.heap.size w0 w'

theorem meas_step {n a q : Nat} (h : a + q ≤ n) (h4 : 4 ≤ q) : n - (intOf (.int .i64 ((a : Int) + (q : Int)))).toNat < n - (intOf (.int .i64 (a : Int))).toNat := by
  have h1 : (intOf (.int .i64 ((a : Int) + (q : Int)))).toNat = a + q := by show ((a : Int) + (q : Int)).toNat = a + q; omega
  have h2 : (intOf (.int .i64 (a : Int))).toNat = a := by show (a : Int).toNat = a; omega
  rw [h1, h2]
  omega
end Go.Proofs.YtddmfoldnlafaaaGreatDoor

namespace Go.Proofs.YtddmfoldnlafaaaGreatDoor
open Go.RowKit

/-- a signed number's number, and back -/
def zz (n : Int) : Nat := if 0 ≤ n then (2 * n).toNat else (-2 * n - 1).toNat
def zb (u : Nat) : Int := if u % 2 = 0 then (u / 2 : Nat) else -((u / 2 : Nat) : Int) - 1
theorem zz_u64 {n : Int} (h : I64 n) : U64 (zz n) := by
  unfold I64 at h
  unfold U64 zz
  split <;> omega
theorem zz_zb (u : Nat) : zz (zb u) = u := by
  unfold zz zb
  split <;> split <;> omega
theorem zig_val {n : Int} (h : I64 n) : bits BinOp.xor IntKind.u64 (IntKind.u64.wrap (IntKind.u64.wrap n * 2)) (IntKind.u64.wrap (n / 9223372036854775808)) = ((zz n : Nat) : Int) := by
  unfold I64 at h
  unfold zz
  rw [IntKind.wrap_u64, IntKind.wrap_u64, IntKind.wrap_u64]
  by_cases h0 : 0 ≤ n
  · rw [if_pos h0, show n % 18446744073709551616 * 2 % 18446744073709551616 = (((2 * n).toNat : Nat) : Int) from by omega, show n / 9223372036854775808 % 18446744073709551616 = ((0 : Nat) : Int) from by omega,
      bits_xor_u64_nat _ _ (by omega) (by omega), Nat.xor_zero]
  · rw [if_neg h0, show n % 18446744073709551616 * 2 % 18446744073709551616 = (((2 * n + 18446744073709551616).toNat : Nat) : Int) from by omega,
      show n / 9223372036854775808 % 18446744073709551616 = ((18446744073709551615 : Nat) : Int) from by omega, bits_xor_u64_nat _ _ (by omega) (by omega), Nat.xor_comm]
    have := Lib.xor_ones64 (2 * n + 18446744073709551616).toNat (by omega)
    rw [show (18446744073709551615 : Nat) = 2 ^ 64 - 1 from by decide, this]
    omega
theorem wrap64_of {n : Int} (h : I64 n) : wrap64 n = n := IntWalk.wrap64_in n h
theorem zag_val {n : Nat} (h : U64 n) : bits BinOp.xor IntKind.i64 (wrap64 ((n : Int) / 2)) (wrap64 (-wrap64 (bits BinOp.and IntKind.u64 (n : Int) 1))) = zb n := by
  unfold U64 at h
  unfold zb
  rw [Lib.u64_and1 _ (by omega) (by omega), wrap64_of (n := (n : Int) / 2) (by unfold I64; omega), wrap64_of (n := (n : Int) % 2) (by unfold I64; omega), wrap64_of (n := -((n : Int) % 2)) (by unfold I64; omega)]
  by_cases h0 : n % 2 = 0
  · rw [if_pos h0, show -((n : Int) % 2) = 0 from by omega]
    show IntKind.i64.wrap ((BitVec.ofInt 64 ((n : Int) / 2) ^^^ BitVec.ofInt 64 0).toNat : Int) = _
    rw [show BitVec.ofInt 64 0 = 0#64 from rfl, BitVec.xor_zero, show (n : Int) / 2 = ((n / 2 : Nat) : Int) from by omega, BitVec.ofInt_natCast, BitVec.toNat_ofNat, IntKind.wrap_i64]
    omega
  · rw [if_neg h0, show -((n : Int) % 2) = -1 from by omega]
    have e := Lib.i64_not (n / 2) (by omega)
    have hc : bits .xor .i64 ((n : Int) / 2) (-1) = bits .xor .i64 (-1) ((n / 2 : Nat) : Int) := by
      show IntKind.i64.wrap ((BitVec.ofInt 64 ((n : Int) / 2) ^^^ BitVec.ofInt 64 (-1)).toNat : Int) = IntKind.i64.wrap ((BitVec.ofInt 64 (-1) ^^^ BitVec.ofInt 64 ((n / 2 : Nat) : Int)).toNat : Int)
      rw [BitVec.xor_comm, show (n : Int) / 2 = ((n / 2 : Nat) : Int) from by omega]
    rw [hc, e]
theorem zig_pos {n : Int} (h : I64 n) (h0 : 0 ≤ n) : IntKind.u64.wrap (2 * IntKind.u64.wrap n) = ((zz n : Nat) : Int) := by
  unfold I64 at h
  unfold zz
  rw [if_pos h0, IntKind.wrap_u64, IntKind.wrap_u64]
  omega
theorem zig_neg {n : Int} (h : I64 n) (h0 : n < 0) : ∃ p q r s, wrap64 (n + 1) = p ∧ wrap64 (-p) = q ∧ IntKind.u64.wrap q = r ∧ IntKind.u64.wrap (2 * r) = s ∧ IntKind.u64.wrap (s + 1) = ((zz n : Nat) : Int) := by
  refine ⟨_, _, _, _, rfl, rfl, rfl, rfl, ?_⟩
  unfold I64 at h
  unfold zz
  rw [if_neg (by omega), wrap64_of (n := n + 1) (by unfold I64; omega), wrap64_of (n := -(n + 1)) (by unfold I64; omega), IntKind.wrap_u64, IntKind.wrap_u64, IntKind.wrap_u64]
  omega
theorem zag_even {u : Nat} (h : U64 u) (h0 : u % 2 = 0) : ∃ a, IntKind.u64.wrap ((u : Int) / 2) = a ∧ wrap64 a = zb u := by
  refine ⟨_, rfl, ?_⟩
  unfold U64 at h
  unfold zb
  rw [if_pos h0, IntKind.wrap_u64, wrap64_of (by unfold I64; omega)]
  omega
theorem zag_odd {u : Nat} (h : U64 u) (h0 : ¬ u % 2 = 0) : ∃ a b d, IntKind.u64.wrap ((u : Int) / 2) = a ∧ wrap64 a = b ∧ wrap64 (-b) = d ∧ wrap64 (d - 1) = zb u := by
  refine ⟨_, _, _, rfl, rfl, rfl, ?_⟩
  unfold U64 at h
  unfold zb
  rw [if_neg h0, IntKind.wrap_u64, wrap64_of (n := (u : Int) / 2 % 18446744073709551616) (by unfold I64; omega), wrap64_of (n := -((u : Int) / 2 % 18446744073709551616)) (by unfold I64; omega),
    wrap64_of (n := -((u : Int) / 2 % 18446744073709551616) - 1) (by unfold I64; omega)]
  omega
end Go.Proofs.YtddmfoldnlafaaaGreatDoor

namespace Go.Proofs.YtddmfoldnlafaaaGreatDoor
open Go.RowKit

theorem rNum_vb {n : Nat} (h : U64 n) (r : List UInt8) : rNum (vb n ++ r, 0) = (n, (r, 0)) := by
  unfold rNum
  rw [if_neg (by simp)]
  simp only [take_vb h r, List.drop_left]
theorem rCount_vb {n : Nat} (h : U64 n) {most : Int} (hm : (n : Int) ≤ most) (r : List UInt8) : rCount most (vb n ++ r, 0) = (n, (r, 0)) := by
  unfold rCount
  rw [rNum_vb h, if_neg (by simp), if_neg (by simp only [gt_iff_lt]; omega)]
theorem rNums_vbs : ∀ {l : List Nat}, (∀ n ∈ l, U64 n) → ∀ r, rNums l.length (vbs l ++ r, 0) = (l, (r, 0))
  | [], _, r => rfl
  | n :: l, h, r => by
    have h1 := rNums_vbs (l := l) (fun k hk => h k (by simp [hk])) r
    simp only [vbs, List.flatMap_cons, List.append_assoc, List.length_cons] at h1 ⊢
    unfold rNums
    rw [rNum_vb (h n (by simp)), if_neg (by simp), h1, if_neg (by simp)]
theorem rList_lb {l : List Nat} (h : ∀ n ∈ l, U64 n) (hl : U64 l.length) {most : Int} (hm : (l.length : Int) ≤ most) (r : List UInt8) : rList most (lb l ++ r, 0) = (l, (r, 0)) := by
  unfold rList lb
  rw [List.append_assoc, rCount_vb hl hm, rNums_vbs h]
theorem rFixed_all (t r : List UInt8) : rFixed (t.length : Int) (t ++ r, 0) = (t, (r, 0)) := by
  unfold rFixed
  rw [if_neg (by simp), if_neg (by simp; omega)]
  simp
theorem rText_tb {t : List UInt8} (h : U64 t.length) {most : Int} (hm : (t.length : Int) ≤ most) (r : List UInt8) : rText most (vb t.length ++ (t ++ r), 0) = (t, (r, 0)) := by
  unfold rText
  rw [rCount_vb h hm, rFixed_all]
theorem zb_i64 {u : Nat} (h : U64 u) : I64 (zb u) := by
  unfold U64 at h
  unfold zb I64
  split <;> omega
end Go.Proofs.YtddmfoldnlafaaaGreatDoor

namespace Go.Proofs.YtddmfoldnlafaaaGreatDoor
open Go.RowKit

/-- what a frame was taken from is that frame -/
theorem ftake_back {l : List UInt8} (h : (ftake l).2.2 = 0) : (ftake l).1.length ≤ 65536 ∧ l.take (ftake l).2.1 = frm (ftake l).1 := by
  unfold ftake at h ⊢
  split at h
  · simp at h
  · rename_i n k hv
    obtain ⟨hu, hk, htk⟩ := take_some hv
    by_cases h1 : 65536 < n
    · rw [if_pos h1] at h; simp at h
    rw [if_neg h1] at h ⊢
    by_cases h2 : l.length < k + n + 4
    · rw [if_pos h2] at h; simp at h
    rw [if_neg h2] at h ⊢
    by_cases h3 : four (sumW (l.take (k + n))) = (l.drop (k + n)).take 4
    · rw [if_pos h3]
      dsimp only
      have hln : ((l.take (k + n)).drop k).length = n := by simp; omega
      have htx : txb ((l.take (k + n)).drop k) = l.take (k + n) := by
        unfold txb
        rw [hln, ← htk]
        have h5 : (l.take (k + n)).take k = l.take k := by rw [List.take_take, Nat.min_eq_left (by omega)]
        rw [← h5, List.take_append_drop]
      refine ⟨by omega, ?_⟩
      unfold frm
      rw [htx, h3, ← List.take_add]
    · rw [if_neg h3] at h; simp at h
theorem fone_back {l : List UInt8} (h : (fone l).2 = 0) : (fone l).1.length ≤ 65536 ∧ l = frm (fone l).1 := by
  unfold fone at h ⊢
  by_cases h1 : (ftake l).2.2 ≠ 0
  · rw [if_pos h1] at h; exact absurd h h1
  rw [if_neg h1] at h ⊢
  by_cases h2 : (ftake l).2.1 < l.length
  · rw [if_pos h2] at h; simp at h
  rw [if_neg h2]
  have h3 := ftake_back (l := l) (by omega)
  refine ⟨h3.1, ?_⟩
  rw [List.take_of_length_le (by omega)] at h3
  exact h3.2
theorem fone_frm {t : List UInt8} (h : t.length ≤ 65536) : fone (frm t) = (t, 0) := by
  have h1 := ftake_frm t [] h
  rw [List.append_nil] at h1
  unfold fone
  rw [h1, if_neg (by simp), if_neg (by simp)]
end Go.Proofs.YtddmfoldnlafaaaGreatDoor
