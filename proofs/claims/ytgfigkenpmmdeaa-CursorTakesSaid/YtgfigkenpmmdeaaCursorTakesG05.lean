/- WHAT IT HOLDS: the law CellOrder, walked. | WHAT IT HOLDS: the law CellFew, walked. | WHAT IT HOLDS: the document's common and Run, and the law's Documents, walked. | WHAT IT HOLDS: the document's Run, walked. | WHAT IT HOLDS: arguments that are cells, and slices of cells, opened to the words of Kit. | WHAT IS PROVED: the statement CellRuns: for every input the law returns true. No condition. | WHAT IT HOLDS: segments, plainly (no program). | WHAT IT HOLDS: Check of segments, the program's and the document's, walked. | WHAT IT HOLDS: the document's Check of segments, and both Same, walked. | WHAT IT HOLDS: Same of segments, the program's and the document's, walked. | WHAT IT HOLDS: a segment as the document's, and a segment's copy, walked. | WHAT IT HOLDS: words for parts and manifests in memory: structs that hold a whole array; loads and stores of whole rows. | WHAT IT HOLDS: which manifests there are, walked. | WHAT IT HOLDS: a segment's copy, walked; append of cells at a step of a region that draws. | WHAT IT HOLDS: Join of segments, walked. -/
import Derived.Test.YtgfigkenpmmdeaaCursorTakesG04
import Derived.Deep.DeepCutAuto
import Derived.Lib.SlBytesConst
import Derived.Test.YtgfigkenpmmdeaaCursorTakesG02
import Derived.Lib.AppendStr
import Derived.BigQuiet
import Derived.Deep.QuietTactic
import Derived.Test.YtgfigkenpmmdeaaCursorTakesG01
import Derived.Deep.WholeRow
import Derived.ChangeKeysEq
import Derived.Test.YtgfigkenpmmdeaaCursorTakesG03
namespace Go.Proofs.Ytgfigkenpmmdeaa
open Go.ChangeShapes Go.WideShapes Go.ChangeAt Go.RowKit
attribute [local go_sem ↓] Go.wp_at_zero Go.wp_at_succ

theorem hole_ok : cchk (2, []) = 0 := by decide
theorem ab_ok : cchk (1, [97, 98]) = 0 := by decide
theorem hole_bytes : [] ++ cbytes (2, []) = [2] := by decide
theorem ab_bytes : [] ++ cbytes (1, [97, 98]) = [1, 2, 97, 98] := by
  simp [cbytes, vb_small]

theorem Sl.litsS (w : World) (size n : Nat) (cs : List Value) (t : TypeId) (hl : cs.length = n * size) (h : n ≤ maxLen) : Sl (w.alloc (.cells cs.toArray t)) size (some ⟨w.heap.size, 0, none⟩) n n cs :=
  ⟨hl, by omega, h, (fun h => by cases h), fun j u hj => ⟨_, rfl, by
    rw [addr_lit, cell_of_row _ _ _ _ t (0, 0) (heap_alloc_new w _)]
    simpa using hj⟩⟩
theorem six {w : World} {g1 g2 g3 : Nat} {t : TypeId} {a b c d e f : Value} (h1 : Blk w g1 t #[a, b]) (h2 : Blk w g2 t #[c, d]) (h3 : Blk w g3 t #[e, f]) :
    w.cell? ⟨g1, 0, none⟩ = some a ∧ w.cell? ⟨g1, 1, none⟩ = some b ∧ w.cell? ⟨g2, 0, none⟩ = some c ∧ w.cell? ⟨g2, 1, none⟩ = some d ∧ w.cell? ⟨g3, 0, none⟩ = some e ∧ w.cell? ⟨g3, 1, none⟩ = some f :=
  ⟨h1.cell 0, h1.cell 1, h2.cell 0, h2.cell 1, h3.cell 0, h3.cell 1⟩

theorem longb_len {l : List Ce} {n : Int} (h : longb l n = false) : ∀ c ∈ l, c.2.length ≤ 100 := by
  unfold longb at h
  rw [Bool.or_eq_false_iff] at h
  intro c hc
  have := List.any_eq_false.1 h.1 c hc
  simpa using this
end Go.Proofs.Ytgfigkenpmmdeaa

namespace Go.Proofs.Ytgfigkenpmmdeaa
open Go.ChangeShapes Go.WideShapes Go.ChangeAt Go.RowKit
attribute [local go_sem ↓] Go.wp_at_zero Go.wp_at_succ

theorem vb_len1 {n : Nat} (h : n < 128) : (vb n).length = 1 := by rw [vb_small h]; rfl
theorem rowGo_rep {k : Int} (h : k ≠ 1) (d : List UInt8) : ∀ n, rowGo k (List.replicate n (k, d)) = n
  | 0 => rfl
  | n + 1 => by
    rw [List.replicate_succ, rowGo, if_pos ⟨h, rfl⟩, rowGo_rep h d n]
theorem few_other {k : Int} (h : k ≠ 1) (h0 : 0 ≤ k) (h3 : k ≤ 3) {n : Nat} (h1 : 1 ≤ n) (hn : n ≤ 64) : (vb n ++ prun [] (List.replicate n (k, []))).length = 3 := by
  obtain ⟨m, rfl⟩ : ∃ m, n = m + 1 := ⟨n - 1, by omega⟩
  have hr : rowN (List.replicate (m + 1) ((k, []) : Ce)) = m + 1 := by
    have := rowGo_rep h [] (m + 1)
    rw [List.replicate_succ] at this ⊢
    exact this
  obtain ⟨k', ⟨r, d, hk⟩, hp⟩ := prun_row (last := []) (l := List.replicate (m + 1) ((k, []) : Ce)) (by omega)
  rw [List.replicate_succ] at hk
  simp only [List.cons.injEq, Prod.mk.injEq] at hk
  obtain ⟨⟨rfl, _⟩, _⟩ := hk
  rw [hp, hr, List.drop_eq_nil_of_le (by simp)]
  simp only [List.length_append, prun, List.length_nil]
  rw [vb_len1 (by omega), vb_len1 (by omega)]
theorem cpl_self : ∀ d, cpl d d = d.length
  | [] => rfl
  | x :: d => by rw [cpl, if_pos rfl, cpl_self d]; rfl
theorem few_more (d : List UInt8) (hd : d.length ≤ 64) : ∀ n, (prun d (List.replicate n (1, d))).length = 3 * n
  | 0 => by simp [prun]
  | n + 1 => by
    rw [List.replicate_succ, prun_data (rowN_zero.2 rfl)]
    simp only [List.length_append, cpl_self, List.drop_length, List.length_nil]
    rw [vb_len1 (by omega), vb_len1 (by omega), few_more d hd n]
    omega
theorem few_data (d : List UInt8) (hd : d.length ≤ 64) {n : Nat} (h1 : 1 ≤ n) (hn : n ≤ 64) : (vb n ++ prun [] (List.replicate n (1, d))).length = 1 + 3 * n + d.length := by
  obtain ⟨m, rfl⟩ : ∃ m, n = m + 1 := ⟨n - 1, by omega⟩
  rw [List.replicate_succ, prun_data (rowN_zero.2 rfl)]
  have hc : cpl [] d = 0 := by simp [cpl]
  simp only [List.length_append, hc, List.drop_zero]
  rw [vb_len1 (by omega), vb_len1 (by omega), vb_len1 (by omega), few_more d hd m]
  omega
theorem rchk_rep {c : Ce} (h : cchk c = 0) (n : Nat) : rchk (List.replicate n c) = 0 := rchk_ok fun x hx => by rw [List.eq_of_mem_replicate hx]; exact h
theorem map_rep (x : CeV) (n : Nat) : (List.replicate n x).map ceOf = List.replicate n (ceOf x) := by simp

def u4 (kind : Int) (q : Int) : Prop := (IntKind.u64.wrap kind).tmod 4 = q
theorem u4_cases (kind : Int) : u4 kind 1 ∨ u4 kind 0 ∨ u4 kind 2 ∨ u4 kind 3 := by
  unfold u4
  rw [IntKind.wrap_u64]
  have h : (0 : Int) ≤ kind % 18446744073709551616 := Int.emod_nonneg _ (by decide)
  rw [Int.tmod_eq_emod_of_nonneg h]
  omega
theorem u64m (many : Int) : ∃ mm : Nat, mm ≤ 63 ∧ (IntKind.u64.wrap many).tmod 64 = (mm : Int) := by
  rw [IntKind.wrap_u64]
  have h : (0 : Int) ≤ many % 18446744073709551616 := Int.emod_nonneg _ (by decide)
  rw [Int.tmod_eq_emod_of_nonneg h]
  exact ⟨((many % 18446744073709551616) % 64).toNat, by omega, by omega⟩

end Go.Proofs.Ytgfigkenpmmdeaa

namespace Go.Proofs.Ytgfigkenpmmdeaa
open Go.RowKit
attribute [local go_sem ↓] Go.wp_at_zero Go.wp_at_succ

abbrev df (c : Ce) : List Value := [.int .i64 c.1, .string ⟨c.2.toArray⟩]
/-- the document's cells that can be read -/
abbrev SlD (w : World) (E : Option Addr) (cap : Nat) (l : List Ce) : Prop := Sl w 2 E l.length cap (l.flatMap df)

end Go.Proofs.Ytgfigkenpmmdeaa

namespace Go.Proofs.Ytgfigkenpmmdeaa
open Go.RowKit
attribute [local go_sem ↓] Go.wp_at_zero Go.wp_at_succ

theorem ext_drop (d : List UInt8) (s n : Nat) (hn : n = d.length) : (⟨d.toArray⟩ : ByteArray).extract s n = ⟨(d.drop s).toArray⟩ := by
  subst hn
  apply ByteArray.ext
  simp only [ByteArray.data_extract, List.extract_toArray]
  rw [List.extract_eq_take_drop, List.take_of_length_le (by simp)]
/-- append of a string to bytes -/
theorem wpl_str {w : World} {ops : Array Oper} {rest : List Oper} {o : Oper} {a : Act} {Q : Exit → Act → World → Prop} (hgd : o.guard = none) (s x : Operand)
    (ho : o.op = .call { callee := .builtin .append, args := #[s, x], argTypes := #[22, 9] })
    (base : Nat) (A : Option Addr) (c : Nat) (l : List UInt8) (hs : a.eval s = .slice A l.length c) (hown : OwnB w base 5 A c l)
    (sb : ByteArray) (l2 : List UInt8) (hsb : sb = ⟨l2.toArray⟩) (hx : a.eval x = .string sb) (hlen : l.length + l2.length ≤ 1000000000) (hbase : base ≤ w.heap.size)
    (h : ∀ A' c' (m : List UInt8) w', Hid (m = l ++ l2) → OwnB w' base 5 A' c' m → w.grownBy w' (A.map (·.block)) → Below base w w' → wpList Try.prog ops Q rest (a.put o.dst (.slice A' m.length c')) w') : wpList Try.prog ops Q (o :: rest) a w := by
  subst hsb
  obtain ⟨i0, hi, hz0, hz1, hz2⟩ := info_parts u8_info
  have hsz : (⟨l2.toArray⟩ : ByteArray).size = l2.length := rfl
  have hsc : Lib.strCells ⟨l2.toArray⟩ = bvs l2 := rfl
  refine Lib.wpList_append_own_string (P := Try.prog) w hgd s x 22 9 ho base 5 i0 Try.underlying22 Try.underlying9 hi hz0 hz1 hz2 (.slice A l.length c) l.length (bvs l) hs hown ⟨l2.toArray⟩ hx (by rw [hsz]; simp only [maxLen]; omega) (by rw [hsz]; omega) hbase ?_
  intro v' w' hown' hg _
  rw [hsz, hsc] at hown'
  have hb : Below base w w' := (Below.refl _ _).grown hg hbase (fun k hk => by rw [ownBlock_slice] at hk; exact (hown.lt k hk).1)
  have hform : ∃ A' c', v' = .slice A' (l ++ l2).length c' := by
    rw [List.length_append]
    rcases hown'.2 with ⟨rfl, hn⟩ | ⟨g, cap, _, rfl, _⟩
    · exact ⟨none, 0, by rw [hn]⟩
    · exact ⟨_, _, rfl⟩
  obtain ⟨A', c', rfl⟩ := hform
  rw [ownBlock_slice] at hg
  refine h A' c' (l ++ l2) w' rfl ?_ hg hb
  rw [← List.length_append] at hown'
  simpa [OwnB] using hown'

/-- a block of another type is as it was behind an append -/
theorem Blk.append {w w' : World} {g : Nat} {t e : TypeId} {cs : Array Value} {base size n c : Nat} {A : Option Addr} {xs : List Value} (h : Blk w g t cs) (ho : Own w base e size A n c xs) (hg : w.grownBy w' (A.map (·.block))) (hne : e ≠ t) : Blk w' g t cs := by
  refine (hg.block g h.lt (fun he => ?_)).trans h
  rcases ho.2 with ⟨hv, _⟩ | ⟨g', cap, cur, hv, _, hh, _⟩
  · injection hv with hA
    subst hA
    simp at he
  · injection hv with hA
    subst hA
    simp at he
    subst he
    unfold Blk at h
    rw [h] at hh
    injection hh with hh
    injection hh with _ ht
    exact hne ht.symm
def prevK (ds : List Ce) (k : Nat) : Option Int := if k = 0 then none else ds[k - 1]?.map (·.1)
theorem prevK_succ {ds : List Ce} {k : Nat} (h : k < ds.length) : prevK ds (k + 1) = some ds[k].1 := by
  unfold prevK
  rw [if_neg (by omega)]
  simp [List.getElem?_eq_getElem h]
theorem rgo_at {ds : List Ce} {k : Nat} (h : k < ds.length) (prev : Option Int) (last : List UInt8) : rgo prev last (ds.drop k) = if ds[k].1 = 1 then [0, b1 ds[k].2.length, b1 (cpl ds[k].2 last)] ++ ds[k].2.drop (cpl ds[k].2 last) ++ rgo (some 1) ds[k].2 (ds.drop (k + 1))
    else if prev = some ds[k].1 then rgo (some ds[k].1) last (ds.drop (k + 1)) else [b1 (rowGo ds[k].1 (ds.drop k)), b1 ds[k].1.toNat] ++ rgo (some ds[k].1) last (ds.drop (k + 1)) := by
  rw [List.drop_eq_getElem_cons h, rgo]

end Go.Proofs.Ytgfigkenpmmdeaa

namespace Go.Proofs.Ytgfigkenpmmdeaa
open Go.ChangeShapes Go.WideShapes Go.ChangeAt Go.RowKit Go.Deep

section
variable {H : Type} {enc : TypeId × Value → H} {P : Program} {w : World} {base b0 : Nat} {held : Bool} {r : Reach} {t e b : TypeId} {v : Value} {d : DataW H} {p : List MemPlace}
theorem bytes_cell {n : Nat} {y : DataW H × List MemPlace} (ht : P.underlying t = some (.slice e)) (he : P.underlying e = some (.int .u8)) (hC : P.cellsOf e = 1) (h : DataW.trod enc P w base (fun _ => true) held n t [v] = some y) :
    ∃ (A : Option Addr) (c : Nat) (l : List UInt8), v = .slice A l.length c ∧ SlB w A c l := by
  rcases open_ints ht he hC h with ⟨hcs, _⟩ | ⟨x, l, c', zs, hcs, _, hl, hm, hz, _, hcell, hwz⟩
  · simp at hcs
    subst hcs
    exact ⟨none, 0, [], rfl, Sl.none_ _ _⟩
  · simp at hcs
    subst hcs
    simp only [if_true] at hz
    have hs := row_reads hl hm hz hcell
    have hw : ∀ z ∈ zs.take l, (Lit.int .u8 z).wf = true := fun z hz => hwz z (List.mem_of_mem_take hz)
    have hm : (zs.take l).map (Value.int .u8) = bvs ((zs.take l).map fun z => UInt8.ofNat z.toNat) := by
      rw [bvs, List.map_map]
      refine List.map_congr_left fun z hz => ?_
      have hb := bounds_u8 (hw z hz)
      simp only [Function.comp, bv, UInt8.toNat_ofNat']
      congr 1
      omega
    rw [hm] at hs
    have hlen : ((zs.take l).map fun z => UInt8.ofNat z.toNat).length = l := by simp; omega
    refine ⟨some x, c', (zs.take l).map fun z => UInt8.ofNat z.toNat, by rw [hlen], ?_⟩
    show Sl w 1 _ (List.map _ _).length c' _
    rw [hlen]
    exact hs
theorem open_cell {f0 f1 : Field} (hs : P.underlying t = some (.struct #[f0, f1])) (h0 : P.underlying f0.type = some (.int .i64)) (h1 : P.underlying f1.type = some (.slice e)) (he : P.underlying e = some (.int .u8))
    (hCe : P.cellsOf e = 1) (hone : oneCellFields P #[f0, f1] = true) (hC : P.cellsOf t = 2) (hv : Value.okWide P w r b0 t v) (h : DataW.Trod enc P w base (fun _ => true) held t v d p) :
    ∃ (k : Int) (A : Option Addr) (c : Nat) (l : List UInt8), v = cv k A l.length c ∧ I64 k ∧ SlB w A c l := by
  obtain ⟨v0, v1, y0, y1, n, rfl, _, _, g0, g1⟩ := Go.Joins.open_agg2 hs hone hC hv h
  obtain ⟨k, rfl, hk⟩ := int_cell h0 g0
  obtain ⟨A, c, l, rfl, hl⟩ := bytes_cell h1 he hCe g1
  exact ⟨k, A, c, l, rfl, hk, hl⟩
theorem open_cells {f0 f1 : Field} (ht : P.underlying t = some (.slice b)) (hs : P.underlying b = some (.struct #[f0, f1])) (h0 : P.underlying f0.type = some (.int .i64)) (h1 : P.underlying f1.type = some (.slice e)) (he : P.underlying e = some (.int .u8))
    (hCe : P.cellsOf e = 1) (hone : oneCellFields P #[f0, f1] = true) (hC : P.cellsOf b = 2) (hv : Value.okWide P w r b0 t v) (h : DataW.Trod enc P w base (fun _ => true) held t v d p) :
    ∃ (A : Option Addr) (c : Nat) (l : List CeV), v = .slice A l.length c ∧ SlC w A c l ∧ ∀ x ∈ l, I64 x.1 := by
  obtain ⟨A, c, l, rfl, hl, hq⟩ := open_structs cf (fun x => I64 x.1 ∧ SlB w x.2.1 x.2.2.1 x.2.2.2) (fun _ => rfl) ht hs hone hC (by
    intro vs hl hf
    obtain ⟨u0, n0, y0, e0, t0⟩ := hf 0 f0 rfl
    obtain ⟨u1, n1, y1, e1, t1⟩ := hf 1 f1 rfl
    obtain ⟨k, rfl, hk⟩ := int_cell h0 t0
    obtain ⟨A, c, l, rfl, hb⟩ := bytes_cell h1 he hCe t1
    match vs, hl with
    | [x0, x1], _ =>
      simp at e0 e1
      exact ⟨(k, A, c, l), by simp [cf, e0, e1], hk, hb⟩) hv h
  exact ⟨A, c, l, rfl, ⟨hl, fun x hx => (hq x hx).2⟩, fun x hx => (hq x hx).1⟩
end
end Go.Proofs.Ytgfigkenpmmdeaa

namespace Go.Proofs.Ytgfigkenpmmdeaa
open Go.ChangeShapes Go.WideShapes Go.ChangeAt Go.RowKit
attribute [local go_sem ↓] Go.wp_at_zero Go.wp_at_succ

theorem rchk_snoc (l : List Ce) (c : Ce) : rchk (l ++ [c]) = if rchk l ≠ 0 then rchk l else cchk c := by
  induction l with
  | nil =>
    by_cases h : cchk c = 0
    · simp [rchk, h]
    · simp [rchk, h]
  | cons x l ih =>
    by_cases h : cchk x = 0
    · simp only [List.cons_append, rchk, h, ne_eq, not_true_eq_false, if_false]
      exact ih
    · simp [rchk, h]
def bad64 (n : Nat) (l : List Ce) : Nat := if 64 < n then 3 else rchk l

theorem rchk_zero : ∀ {l : List Ce}, rchk l = 0 → ∀ c ∈ l, cchk c = 0
  | [], _, c, hc => by simp at hc
  | x :: l, h, c, hc => by
    by_cases hx : cchk x = 0
    · have h2 : rchk l = 0 := by simpa [rchk, hx] using h
      rcases List.mem_cons.mp hc with rfl | hc
      · exact hx
      · exact rchk_zero h2 c hc
    · simp [rchk, hx] at h

theorem rgo_len : ∀ (l : List Ce) (prev : Option Int) (last : List UInt8), (∀ c ∈ l, cchk c = 0) → (rgo prev last l).length ≤ 100 * l.length
  | [], _, _, _ => by rw [rgo]; simp
  | c :: r, prev, last, h => by
    have hc := (cchk_ok (h c (by simp))).2.2.1
    have hr := fun prev last => rgo_len r prev last (fun c hc => h c (by simp [hc]))
    rw [rgo]
    simp only [List.length_cons]
    split
    · have := hr (some 1) c.2
      simp
      omega
    · split
      · have := hr (some c.1) last
        omega
      · have := hr (some c.1) last
        simp
        omega

namespace CellRuns
end CellRuns
end Go.Proofs.Ytgfigkenpmmdeaa

namespace Go.Proofs.Ytgfigkenpmmdeaa
open Go.RowKit

/-- a segment: its first address, its cells -/
abbrev Sg := Int × List Ce
/-- an error's number -/
def schk (s : Sg) : Nat := if s.1 < 0 ∨ 1048576 < s.1 then 1 else if 64 < s.2.length then 3 else if 1048576 < s.1 + s.2.length then 1 else rchk s.2
def sjoin (a b : Sg) : Sg × Nat := if schk a ≠ 0 then ((0, []), schk a) else if schk b ≠ 0 then ((0, []), schk b) else if b.1 ≠ a.1 + a.2.length then ((0, []), 13)
  else if schk (a.1, a.2 ++ b.2) ≠ 0 then ((0, []), schk (a.1, a.2 ++ b.2)) else ((a.1, a.2 ++ b.2), 0)
def spart (s : Sg) (f t : Int) : Sg × Nat := if schk s ≠ 0 then ((0, []), schk s) else if f < s.1 ∨ s.1 + s.2.length < t ∨ t < f then ((0, []), 1)
  else ((f, (s.2.drop (f - s.1).toNat).take (t - f).toNat), 0)
theorem schk_ok {s : Sg} (h : schk s = 0) : 0 ≤ s.1 ∧ s.1 ≤ 1048576 ∧ s.2.length ≤ 64 ∧ s.1 + s.2.length ≤ 1048576 ∧ rchk s.2 = 0 := by
  unfold schk at h
  by_cases h1 : s.1 < 0 ∨ 1048576 < s.1
  · rw [if_pos h1] at h; simp at h
  rw [if_neg h1] at h
  by_cases h2 : 64 < s.2.length
  · rw [if_pos h2] at h; simp at h
  rw [if_neg h2] at h
  by_cases h3 : 1048576 < s.1 + s.2.length
  · rw [if_pos h3] at h; simp at h
  rw [if_neg h3] at h
  exact ⟨by omega, by omega, by omega, by omega, h⟩
theorem schk_range {s : Sg} (h : s.1 < 0 ∨ 1048576 < s.1) : schk s = 1 := by unfold schk; rw [if_pos h]
theorem schk_long {s : Sg} (h : ¬ (s.1 < 0 ∨ 1048576 < s.1)) (h2 : 64 < s.2.length) : schk s = 3 := by unfold schk; rw [if_neg h, if_pos h2]
theorem schk_far {s : Sg} (h : ¬ (s.1 < 0 ∨ 1048576 < s.1)) (h2 : ¬ 64 < s.2.length) (h3 : 1048576 < s.1 + s.2.length) : schk s = 1 := by unfold schk; rw [if_neg h, if_neg h2, if_pos h3]
theorem schk_cells {s : Sg} (h : ¬ (s.1 < 0 ∨ 1048576 < s.1)) (h2 : ¬ 64 < s.2.length) (h3 : ¬ 1048576 < s.1 + s.2.length) : schk s = rchk s.2 := by unfold schk; rw [if_neg h, if_neg h2, if_neg h3]
theorem rchk_part {l : List Ce} (h : rchk l = 0) (i n : Nat) : rchk ((l.drop i).take n) = 0 := rchk_ok fun c hc => rchk_zero h c (List.mem_of_mem_drop (List.mem_of_mem_take hc))
end Go.Proofs.Ytgfigkenpmmdeaa

namespace Go.Proofs.Ytgfigkenpmmdeaa
open Go.RowKit
attribute [local go_sem ↓] Go.wp_at_zero Go.wp_at_succ

end Go.Proofs.Ytgfigkenpmmdeaa

namespace Go.Proofs.Ytgfigkenpmmdeaa
open Go.RowKit
attribute [local go_sem ↓] Go.wp_at_zero Go.wp_at_succ

theorem rchk_next {l : List Ce} {k : Nat} (hk : k < l.length) (hall : ∀ c ∈ l.take k, cchk c = 0) (h0 : cchk l[k] = 0) : ∀ c ∈ l.take (k + 1), cchk c = 0 := fun c hc => by
  rw [List.take_succ_eq_append_getElem hk, List.mem_append] at hc
  rcases hc with hc | hc
  · exact hall c hc
  · simp only [List.mem_singleton] at hc
    rw [hc]; exact h0

end Go.Proofs.Ytgfigkenpmmdeaa

namespace Go.Proofs.Ytgfigkenpmmdeaa
open Go.RowKit
attribute [local go_sem ↓] Go.wp_at_zero Go.wp_at_succ

def ssame (a b : Sg) : Bool := decide (a = b)
theorem same_iff {a b : Ce} : same a b = true ↔ a = b := by unfold same; exact decide_eq_true_iff
theorem take_ne {xs ys : List Ce} {k : Nat} (hx : k < xs.length) (hy : k < ys.length) (h : xs[k] ≠ ys[k]) : decide (xs = ys) = false := by
  rw [decide_eq_false_iff_not]
  rintro rfl
  exact h rfl
theorem len_ne {xs ys : List Ce} (h : xs.length ≠ ys.length) : decide (xs = ys) = false := by
  rw [decide_eq_false_iff_not]
  rintro rfl
  exact h rfl
theorem ssame_ne {f f2 : Int} {l m : List Ce} (h : f ≠ f2) : ssame (f, l) (f2, m) = false := by
  unfold ssame
  rw [decide_eq_false_iff_not]
  intro he
  exact h (congrArg Prod.fst he)
theorem ssame_eq {f : Int} {l m : List Ce} : ssame (f, l) (f, m) = decide (l = m) := by
  unfold ssame
  rw [decide_eq_decide]
  exact ⟨fun h => congrArg Prod.snd h, fun h => by rw [h]⟩

end Go.Proofs.Ytgfigkenpmmdeaa

namespace Go.Proofs.Ytgfigkenpmmdeaa
open Go.RowKit
attribute [local go_sem ↓] Go.wp_at_zero Go.wp_at_succ

theorem Blk.far2 {w : World} {g g' : Nat} {t : TypeId} {cs : Array Value} (h : Blk w g t cs) (hne : g ≠ g') (u v : Value) : Blk ((w.setCell ⟨g', 0, none⟩ u).setCell ⟨g', 1, none⟩ v) g t cs := (h.far hne u).far hne v
theorem Own.set2 {w : World} {base : Nat} {e : TypeId} {size n c : Nat} {A : Option Addr} {xs : List Value} (h : Own w base e size A n c xs) {g : Nat} (hg : g < base) (u v : Value) : Own ((w.setCell ⟨g, 0, none⟩ u).setCell ⟨g, 1, none⟩ v) base e size A n c xs :=
  ownsRow_setCell_below (a := ⟨g, 1, none⟩) (ownsRow_setCell_below (a := ⟨g, 0, none⟩) h hg u) hg v
theorem gen0 {T R : World → Prop} {W : World} (hT : T W) (k : ∀ W, T W → R W) : R W := k W hT

end Go.Proofs.Ytgfigkenpmmdeaa

namespace Go.Proofs.Ytgfigkenpmmdeaa
open Go.RowKit

section
variable {P : Program}
theorem run_loadVar_at (w : World) (ad : Addr) (ty : TypeId) (cs : Array Value) (hc : ∀ j u, cs[j]? = some u → w.cell? (ad.add j) = some u) (d : TypeDesc) (hu : P.underlying ty = some d) (hd : (match d with | .struct _ | .array _ _ => true | _ => false) = true) (hi : (P.info? ty).map (·.size) = some cs.size) :
    (loadVar ty ad).run P w = .ok (.agg cs) w := by
  have hl := run_loadCells_list (P := P) w ad cs.toList (fun j u hj => hc j u (by simpa using hj))
  cases hq : P.info? ty with
  | none => simp [hq] at hi
  | some i =>
    have hs : i.size = cs.size := by simpa [hq] using hi
    have hagg : (isAgg ty).run P w = .ok true w := by
      unfold isAgg
      rw [Sem.run_bind, run_underlying hu w]
      cases d <;> simp_all
    simp only [Array.length_toList, Array.toArray_toList] at hl
    simp [loadVar, Sem.run_bind, hagg, sizeOf, typeInfo, hq, hs, hl]
theorem wp_loadA {o : Oper} {a : Act} {w : World} {K : Act → World → Prop} {Q : Exit → Act → World → Prop} (ty : TypeId) (x : Operand) (ho : o.op = .load ty x)
    (ad : Addr) (cs : Array Value) (hx : a.eval x = .pointer (some ad)) (hc : ∀ j u, cs[j]? = some u → w.cell? (ad.add j) = some u) (d : TypeDesc) (hu : P.underlying ty = some d) (hd : (match d with | .struct _ | .array _ _ => true | _ => false) = true) (hi : (P.info? ty).map (·.size) = some cs.size)
    (h : K (a.put o.dst (.agg cs)) w) : o.wp P a w K Q := by
  unfold Oper.wp execOp
  simp only [ho, hx, Instr.loadAt, Instr.sureAddr, Sem.run_bind, Sem.run_pure, Result.andThen_ok, run_loadVar_at w ad ty cs hc d hu hd hi]
  exact h
/-- a whole struct or array out of memory (the operation's guard, if it has one, true) -/
theorem wpl_loadG {ops : Array Oper} {rest : List Oper} {o : Oper} {a : Act} {w : World} {Q : Exit → Act → World → Prop} (hgd : Region.wanted o (yielded ops a.tmps) = true) (ty : TypeId) (x : Operand) (ho : o.op = .load ty x)
    (ad : Addr) (cs : Array Value) (hx : a.eval x = .pointer (some ad)) (hc : ∀ j u, cs[j]? = some u → w.cell? (ad.add j) = some u) (d : TypeDesc) (hu : P.underlying ty = some d) (hd : (match d with | .struct _ | .array _ _ => true | _ => false) = true) (hi : (P.info? ty).map (·.size) = some cs.size)
    (h : wpList P ops Q rest (a.put o.dst (.agg cs)) w) : wpList P ops Q (o :: rest) a w :=
  wpList_step fun _ hK => by
    rw [if_pos hgd]
    exact wp_loadA ty x ho ad cs hx hc d hu hd hi (hK _ _ h)
/-- a whole struct laid into a block of its own that was just made -/
theorem wpl_storeN {ops : Array Oper} {rest : List Oper} {o : Oper} {a : Act} {w : World} {Q : Exit → Act → World → Prop} (hgd : o.guard = none) (ty : TypeId) (x y : Operand) (ho : o.op = .store ty x y)
    (old cells : Array Value) (t : TypeId) (hx : a.eval x = .pointer (some ⟨w.heap.size, 0, none⟩)) (hy : a.eval y = .agg cells) (hi : (P.info? ty).map (·.size) = some cells.size) (hold : old.size = cells.size) (h1 : cells.all (·.oneCell') = true)
    (h : wpList P ops Q rest (a.put o.dst undef) (w.alloc (.cells cells t))) : wpList P ops Q (o :: rest) a (w.alloc (.cells old t)) :=
  wpList_store_row hgd ty x y ho w.heap.size cells hx hy t old (heap_alloc_new w _) hi hold h1 (by rw [World.setRow_alloc_new]; exact h)
end

/-- a part's cells -/
def ptl (p : Pt5) : List Value := .int .i64 p.1 :: .int .i64 p.2.1 :: .int .i64 p.2.2.1 :: bvs p.2.2.2.1
theorem ptl_len (p : Pt5) : (ptl p).length = 35 := by
  have := p.2.2.2.2
  simp [ptl, this]
theorem bvs_one (l : List UInt8) : ∀ u ∈ bvs l, u.oneCell' = true := one_bvs l
theorem ptl_one (p : Pt5) : ∀ u ∈ ptl p, u.oneCell' = true := by
  intro u hu
  simp only [ptl, List.mem_cons] at hu
  rcases hu with rfl | rfl | rfl | hu
  · rfl
  · rfl
  · rfl
  · exact one_bvs _ u hu
theorem ptl_all (p : Pt5) : (ptl p).toArray.all (·.oneCell') = true := by
  rw [Array.all_eq_true_iff_forall_mem]
  intro u hu
  exact ptl_one p u (by simpa using hu)
/-- a manifest's cells -/
def mfl (n f t r : Int) (d : Dg) (A : Option Addr) (k c : Nat) : List Value := .int .i64 n :: .int .i64 f :: .int .i64 t :: .int .i64 r :: (bvs d.1 ++ [.slice A k c])
theorem mfl_len (n f t r : Int) (d : Dg) (A : Option Addr) (k c : Nat) : (mfl n f t r d A k c).length = 37 := by
  have := d.2
  simp [mfl, this]
/-- a digest's, a part's, a manifest's cells as an array -/
def dga (d : Dg) : Array Value := (bvs d.1).toArray
def pta (p : Pt5) : Array Value := (ptl p).toArray
def mfa (n f t r : Int) (d : Dg) (A : Option Addr) (k c : Nat) : Array Value := (mfl n f t r d A k c).toArray
theorem dga_size (d : Dg) : (dga d).size = 32 := by have := d.2; simp [dga, this]
theorem pta_size (p : Pt5) : (pta p).size = 35 := by have := ptl_len p; simp [pta, this]
theorem mfa_size (n f t r : Int) (d : Dg) (A : Option Addr) (k c : Nat) : (mfa n f t r d A k c).size = 37 := by have := mfl_len n f t r d A k c; simp [mfa, this]
theorem pta_all (p : Pt5) : (pta p).all (·.oneCell') = true := ptl_all p
/-- parts that can be read -/
def SlP (w : World) (E : Option Addr) (cap : Nat) (ps : List Pt5) : Prop := Sl w 35 E ps.length cap (ps.flatMap ptl)
theorem SlP.below {w w' : World} {E : Option Addr} {cap : Nat} {ps : List Pt5} (h : SlP w E cap ps) (hb : Below w.heap.size w w') : SlP w' E cap ps := Sl.below h hb
theorem SlP.at {w : World} {E : Option Addr} {cap : Nat} {ps : List Pt5} (h : SlP w E cap ps) {k : Nat} (hk : k < ps.length) :
    ∃ ad b o, E = some ad ∧ ad.add (k * 35) = ⟨b, o, none⟩ ∧ ∀ j u, (pta ps[k])[j]? = some u → w.cell? ((⟨b, o, none⟩ : Addr).add j) = some u := by
  obtain ⟨ad, b, o, h1, h2, h3⟩ := Sl.atS (f := ptl) ptl_len (by decide) h hk
  exact ⟨ad, b, o, h1, h2, fun j u hj => by rw [addr_lit]; exact h3 j u (by simpa [pta] using hj)⟩
/-- a manifest's block -/
abbrev BlM (w : World) (g : Nat) (n f t r : Int) (d : Dg) (A : Option Addr) (k c : Nat) : Prop := Blk w g 27 (mfa n f t r d A k c)
theorem Blk.cells {w : World} {g : Nat} {t : TypeId} {cs : Array Value} (h : Blk w g t cs) : ∀ j u, cs[j]? = some u → w.cell? ((⟨g, 0, none⟩ : Addr).add j) = some u := fun j u hj => by
  rw [addr_lit, Nat.zero_add, h.cell]
  exact hj
section
variable {w : World} {g : Nat} {n f t r : Int} {d : Dg} {A : Option Addr} {k c : Nat}
theorem BlM.five (h : BlM w g n f t r d A k c) : w.cell? ⟨g, 0, none⟩ = some (.int .i64 n) ∧ w.cell? ⟨g, 1, none⟩ = some (.int .i64 f) ∧ w.cell? ⟨g, 2, none⟩ = some (.int .i64 t) ∧ w.cell? ⟨g, 3, none⟩ = some (.int .i64 r) ∧ w.cell? ⟨g, 36, none⟩ = some (.slice A k c) := by
  refine ⟨(h.cell 0).trans rfl, (h.cell 1).trans rfl, (h.cell 2).trans rfl, (h.cell 3).trans rfl, (h.cell 36).trans ?_⟩
  have := d.2
  simp [mfa, mfl, this]
theorem BlM.dg (h : BlM w g n f t r d A k c) : ∀ j u, (dga d)[j]? = some u → w.cell? ((⟨g, 4, none⟩ : Addr).add j) = some u := fun j u hj => by
  rw [addr_lit, h.cell]
  replace hj : (bvs d.1)[j]? = some u := by simpa [dga] using hj
  have hj2 : j < (bvs d.1).length := (List.getElem?_eq_some_iff.1 hj).1
  rw [show 4 + j = j + 1 + 1 + 1 + 1 from by omega]
  simp only [mfa, mfl, List.getElem?_toArray, List.getElem?_cons_succ]
  rw [List.getElem?_append_left hj2]
  exact hj
end
abbrev BlP (w : World) (g : Nat) (p : Pt5) : Prop := Blk w g 68 (pta p)
theorem BlP.three {w : World} {g : Nat} {p : Pt5} (h : BlP w g p) : w.cell? ⟨g, 0, none⟩ = some (.int .i64 p.1) ∧ w.cell? ⟨g, 1, none⟩ = some (.int .i64 p.2.1) ∧ w.cell? ⟨g, 2, none⟩ = some (.int .i64 p.2.2.1) :=
  ⟨(h.cell 0).trans rfl, (h.cell 1).trans rfl, (h.cell 2).trans rfl⟩
/-- two digests -/
theorem eqItems_bytes {P : Program} {e : TypeId} (he : P.underlying e = some (.int .u8)) (d : Nat) (xs ys : List UInt8) (w : World) : ∀ is : List Nat, (∀ i ∈ is, i < xs.length ∧ i < ys.length) →
    (Op.eqItems (d + 1) e 1 (bvs xs).toArray (bvs ys).toArray is).run P w = .ok (is.all fun i => decide (xs[i]? = ys[i]?)) w
  | [], _ => by simp [Op.eqItems]
  | i :: is, h => by
    obtain ⟨h1, h2⟩ := h i (.head _)
    have ih := eqItems_bytes he d xs ys w is fun j hj => h j (.tail _ hj)
    have hagg : (isAgg e).run P w = .ok false w := by
      unfold isAgg
      rw [Sem.run_bind, run_underlying he w]
      rfl
    have hx : (part e (bvs xs).toArray (i * 1)).run P w = .ok (bv xs[i]) w := by
      unfold part
      rw [Sem.run_bind, hagg]
      simp [List.getElem?_eq_getElem h1]
    have hy : (part e (bvs ys).toArray (i * 1)).run P w = .ok (bv ys[i]) w := by
      unfold part
      rw [Sem.run_bind, hagg]
      simp [List.getElem?_eq_getElem h2]
    simp only [Op.eqItems, Sem.run_bind, hx, hy, Result.andThen_ok, run_equalIn_int w d e .u8 .u8 _ _ he]
    have hb : ((xs[i].toNat : Int) == (ys[i].toNat : Int)) = decide (xs[i]? = ys[i]?) := by
      rw [List.getElem?_eq_getElem h1, List.getElem?_eq_getElem h2, Bool.eq_iff_iff]
      simp only [beq_iff_eq, decide_eq_true_eq, Option.some.injEq]
      constructor
      · intro h; exact UInt8.toNat_inj.1 (by omega)
      · intro h; rw [h]
    rw [hb]
    cases hq : decide (xs[i]? = ys[i]?)
    · simp [hq]
    · simp [hq, ih]
theorem dg_all (a b : Dg) : ((List.range 32).all fun i => decide (a.1[i]? = b.1[i]?)) = decide (a = b) := by
  rw [Bool.eq_iff_iff]
  simp only [List.all_eq_true, decide_eq_true_eq, List.mem_range]
  constructor
  · intro h
    apply Subtype.ext
    apply List.ext_getElem?
    intro i
    rcases Nat.lt_or_ge i 32 with h1 | h1
    · exact h i h1
    · rw [List.getElem?_eq_none (by rw [a.2]; exact h1), List.getElem?_eq_none (by rw [b.2]; exact h1)]
  · rintro rfl i _
    rfl
theorem eql_dg (a b : Dg) (w : World) : (binOp .eql 24 (.agg (dga a)) (.agg (dga b))).run Try.prog w = .ok (.bool (decide (a = b))) w := by
  unfold dga
  rw [run_eql_struct]
  obtain ⟨i, hi⟩ : ∃ i, Try.prog.info? 5 = some i := Option.isSome_iff_exists.1 (by kernel_rfl)
  rw [run_equalIn_array (P := Try.prog) (w := w) 9999 (t := 24) (e := 5) (n := 32) (i := i) _ _ Try.underlying24 hi]
  rw [show Try.prog.cellsOf 5 = 1 from by kernel_rfl]
  rw [eqItems_bytes (P := Try.prog) Try.underlying5 9998 a.1 b.1 w _ (fun i hi => by have := List.mem_range.1 hi; rw [a.2, b.2]; exact ⟨this, this⟩)]
  rw [dg_all]
  rfl
end Go.Proofs.Ytgfigkenpmmdeaa

namespace Go.Proofs.Ytgfigkenpmmdeaa
open Go.RowKit
attribute [local go_sem ↓] Go.wp_at_zero Go.wp_at_succ

set_option maxRecDepth 100000 in
set_option maxHeartbeats 400000 in
theorem MIn_any (x m : Int) (w : World) : Calls Try.prog 51 #[.int .i64 x, .int .i64 m] w fun e w' => e = .returned (.bool (inb x m)) ∧ w = w' := by
  go_enter Try.func51, Try.ntmps51
  by_cases h : 0 ≤ x
  · have h2 : decide (0 ≤ x) = true := by simp [h]
    go_wp2_with fail
    go_ret
    exact ⟨by unfold inb; rw [h2]; rfl, rfl⟩
  · have h2 : decide (0 ≤ x) = false := by simp [h]
    go_wp2_with fail
    go_ret
    exact ⟨by unfold inb; rw [h2]; rfl, rfl⟩
theorem zeros : (#[.int .u8 0, .int .u8 0, .int .u8 0, .int .u8 0, .int .u8 0, .int .u8 0, .int .u8 0, .int .u8 0, .int .u8 0, .int .u8 0, .int .u8 0, .int .u8 0, .int .u8 0, .int .u8 0, .int .u8 0, .int .u8 0, .int .u8 0, .int .u8 0, .int .u8 0, .int .u8 0, .int .u8 0, .int .u8 0, .int .u8 0, .int .u8 0, .int .u8 0, .int .u8 0, .int .u8 0, .int .u8 0, .int .u8 0, .int .u8 0, .int .u8 0, .int .u8 0] : Array Value) = dga dg0 := rfl
set_option maxRecDepth 100000 in
set_option maxHeartbeats 1000000 in
theorem Zero_any (d : Dg) (w : World) : Calls Try.prog 52 #[.agg (dga d)] w fun e w' => e = .returned (.bool (decide (d = dg0))) ∧ Below w.heap.size w w' := by
  have hB := Blk.new w 24 (dga d)
  have hE := eql_dg d dg0
  rw [← zeros] at hE
  have hsz := Lib.hid (dga_size d)
  generalize decide (d = dg0) = zb at *
  generalize dga d = da at *
  go_enter Try.func52, Try.ntmps52
  go_wp2_with (refine wpl_loadG rfl 24 _ rfl _ da rfl hB.cells _ Try.underlying24 rfl (by rw [hsz.out]; kernel_rfl) ?_)
  go_ret
  exact ⟨rfl, below_new _ _⟩
theorem wrap_sub1 {m c : Int} (h : I64 m) (hc : 0 ≤ c) (hc2 : c ≤ 1000000) : inb (wrap64 (m - 1)) c = (decide (1 ≤ m) && decide (m ≤ c + 1)) := by
  unfold I64 at h
  obtain ⟨h1, h2⟩ := h
  unfold inb
  rw [Bool.eq_iff_iff]
  simp only [Bool.and_eq_true, decide_eq_true_eq, wrap64]
  omega
theorem ptchk_range {p : Pt5} {a : Int} (h : (decide (1 ≤ p.2.1) && decide (p.2.1 ≤ 63 + 1)) = false ∨ (decide (1 ≤ p.2.2.1) && decide (p.2.2.1 ≤ 65535 + 1)) = false) : ptchk p a = 1 := by
  unfold ptchk
  simp only [Bool.and_eq_false_iff, decide_eq_false_iff_not] at h
  rw [if_pos (by omega)]
theorem ptchk_at {p : Pt5} {a : Int} (h : (decide (1 ≤ p.2.1) && decide (p.2.1 ≤ 63 + 1)) = true) (h2 : (decide (1 ≤ p.2.2.1) && decide (p.2.2.1 ≤ 65535 + 1)) = true) : ptchk p a = if p.1 ≠ a then 2 else 0 := by
  unfold ptchk
  simp only [Bool.and_eq_true, decide_eq_true_eq] at h h2
  rw [if_neg (by omega)]
set_option maxRecDepth 100000 in
set_option maxHeartbeats 1000000 in
theorem PtCheck_any (p : Pt5) (a : Int) (h1 : I64 p.2.1) (h2 : I64 p.2.2.1) (w : World) :
    Calls Try.prog 53 #[.agg (pta p), .int .i64 a] w fun e w' => e = .returned (errv (ptchk p a)) ∧ Below w.heap.size w w' := by
  have hB := Blk.new w 68 (pta p)
  have hbw := below_new w (.cells (pta p) 68)
  have hI1 := wrap_sub1 h1 (c := 63) (by decide) (by decide)
  have hI2 := wrap_sub1 h2 (c := 65535) (by decide) (by decide)
  have hbad := fun h => Lib.hid (ptchk_range (p := p) (a := a) h)
  have hgood := fun h h2 => Lib.hid (ptchk_at (p := p) (a := a) h h2)
  generalize (decide (1 ≤ p.2.1) && decide (p.2.1 ≤ 63 + 1)) = b1 at *
  generalize (decide (1 ≤ p.2.2.1) && decide (p.2.2.1 ≤ 65535 + 1)) = b2 at *
  obtain ⟨c0, c1, c2⟩ := BlP.three hB
  obtain ⟨z1, hz1⟩ : ∃ z, wrap64 (p.2.1 - 1) = z := ⟨_, rfl⟩
  obtain ⟨z2, hz2⟩ : ∃ z, wrap64 (p.2.2.1 - 1) = z := ⟨_, rfl⟩
  have hw1 : IntKind.i64.wrap (p.2.1 - 1) = z1 := by rw [IntKind.wrap_i64]; simpa only [wrap64] using hz1
  have hw2 : IntKind.i64.wrap (p.2.2.1 - 1) = z2 := by rw [IntKind.wrap_i64]; simpa only [wrap64] using hz2
  have hC1 := fun W => MIn_any z1 63 W
  have hC2 := fun W => MIn_any z2 65535 W
  rw [hz1] at hI1
  rw [hz2] at hI2
  rw [hI1] at hC1
  rw [hI2] at hC2
  have HC1 := Lib.hid hC1
  have HC2 := Lib.hid hC2
  clear hC1 hC2 hI1 hI2 h1 h2 hB
  generalize pta p = pa at *
  go_enter Try.func53, Try.ntmps53
  go_wp2_with fail
  refine (HC1.out _).mono ?_
  rintro e w1 ⟨rfl, rfl⟩
  cases b1 with
  | false =>
    have hc := hbad (.inl rfl)
    clear hbad hgood
    go_wp2_with fail
    go_ret
    exact ⟨by rw [hc.out]; rfl, hbw⟩
  | true =>
    go_wp2_with fail
    refine (HC2.out _).mono ?_
    rintro e w1 ⟨rfl, rfl⟩
    cases b2 with
    | false =>
      have hc := hbad (.inr rfl)
      clear hbad hgood
      go_wp2_with fail
      go_ret
      exact ⟨by rw [hc.out]; rfl, hbw⟩
    | true =>
      have hg := hgood trivial rfl
      clear hbad hgood
      by_cases ha : p.1 = a
      · have hb : (p.1 != a) = false := by simp [ha]
        have hc : Hid (ptchk p a = 0) := (show _ = _ from by rw [hg.out, if_neg (by simp [ha])])
        clear hg ha
        go_wp2_with fail
        go_ret
        exact ⟨by rw [hc.out]; rfl, hbw⟩
      · have hb : (p.1 != a) = true := by simpa using ha
        have hc : Hid (ptchk p a = 2) := (show _ = _ from by rw [hg.out, if_pos ha])
        clear hg ha
        go_wp2_with fail
        go_ret
        exact ⟨by rw [hc.out]; rfl, hbw⟩
theorem mchk_range {m : Mf} (h : inb m.1 999999 = false ∨ inb m.2.1 1048576 = false ∨ inb m.2.2.1 1048576 = false ∨ inb m.2.2.2.1 1048576 = false) : mchk m = 1 := by
  unfold mchk
  rw [if_pos]
  rcases h with h | h | h | h <;> simp [h]
theorem mchk_form {m : Mf} (h1 : inb m.1 999999 = true) (h2 : inb m.2.1 1048576 = true) (h3 : inb m.2.2.1 1048576 = true) (h4 : inb m.2.2.2.1 1048576 = true) (h : m.2.2.1 < m.2.1 ∨ (m.1 = 0 ∧ decide (m.2.2.2.2.1 = dg0) = false)) : mchk m = 2 := by
  unfold mchk
  rw [if_neg (by simp [h1, h2, h3, h4]), if_pos]
  rcases h with h | ⟨h, h5⟩
  · simp [h]
  · rw [h, h5]; simp
theorem mchk_rest {m : Mf} (h1 : inb m.1 999999 = true) (h2 : inb m.2.1 1048576 = true) (h3 : inb m.2.2.1 1048576 = true) (h4 : inb m.2.2.2.1 1048576 = true) (h5 : ¬ m.2.2.1 < m.2.1) (h6 : m.1 = 0 → decide (m.2.2.2.2.1 = dg0) = true) :
    mchk m = if 1024 < m.2.2.2.2.2.length then 3 else pgo m.2.2.1 m.2.1 m.2.2.2.2.2 := by
  unfold mchk
  rw [if_neg (by simp [h1, h2, h3, h4]), if_neg]
  simp only [Bool.or_eq_true, Bool.and_eq_true, decide_eq_true_eq, beq_iff_eq, not_or, not_and]
  exact ⟨h5, fun h => by rw [h6 h]; simp⟩
/-- parts whose numbers are numbers -/
def PtsI (ps : List Pt5) : Prop := ∀ p ∈ ps, I64 p.1 ∧ I64 p.2.1 ∧ I64 p.2.2.1
theorem pgo_step {z a : Int} {l : List Pt5} {k : Nat} (hk : k < l.length) (h : ptchk l[k] a = 0) : pgo z a (l.drop k) = pgo z (a + l[k].2.1) (l.drop (k + 1)) := by
  rw [List.drop_eq_getElem_cons hk, pgo, if_neg (by rw [h]; simp)]
theorem pgo_stop {z a : Int} {l : List Pt5} {k : Nat} (hk : k < l.length) (h : ptchk l[k] a ≠ 0) : pgo z a (l.drop k) = ptchk l[k] a := by
  rw [List.drop_eq_getElem_cons hk, pgo, if_pos h]
set_option maxRecDepth 100000 in
set_option maxHeartbeats 4000000 in
theorem MCheck_any {A : Option Addr} {c : Nat} (n f t r : Int) (d : Dg) (ps : List Pt5) (w : World) (h : SlP w A c ps) (hI : PtsI ps) :
    Calls Try.prog 27 #[.agg (mfa n f t r d A ps.length c)] w fun e w' => e = .returned (errv (mchk (n, f, t, r, d, ps))) ∧ Below w.heap.size w w' := by
  have hB : BlM _ w.heap.size n f t r d A ps.length c := Blk.new w 27 (mfa n f t r d A ps.length c)
  have hbw := below_new w (.cells (mfa n f t r d A ps.length c) 27)
  have hmax := h.len_le
  unfold maxLen at hmax
  obtain ⟨b1, hb1⟩ : ∃ b, inb n 999999 = b := ⟨_, rfl⟩
  obtain ⟨b2, hb2⟩ : ∃ b, inb f 1048576 = b := ⟨_, rfl⟩
  obtain ⟨b3, hb3⟩ : ∃ b, inb t 1048576 = b := ⟨_, rfl⟩
  obtain ⟨b4, hb4⟩ : ∃ b, inb r 1048576 = b := ⟨_, rfl⟩
  have hC1 := fun W => MIn_any n 999999 W
  have hC2 := fun W => MIn_any f 1048576 W
  have hC3 := fun W => MIn_any t 1048576 W
  have hC4 := fun W => MIn_any r 1048576 W
  rw [hb1] at hC1
  rw [hb2] at hC2
  rw [hb3] at hC3
  rw [hb4] at hC4
  have HC1 := Lib.hid hC1
  have HC2 := Lib.hid hC2
  have HC3 := Lib.hid hC3
  have HC4 := Lib.hid hC4
  have HB1 := Lib.hid hb1
  have HB2 := Lib.hid hb2
  have HB3 := Lib.hid hb3
  have HB4 := Lib.hid hb4
  clear hb1 hb2 hb3 hb4 hC1 hC2 hC3 hC4
  obtain ⟨a0, a1, a2, a3, a4⟩ := BlM.five hB
  have hdg := Lib.hid hB.dg
  have hds := Lib.hid (dga_size d)
  go_enter Try.func27, Try.ntmps27
  go_wp2_with fail
  refine (HC1.out _).mono ?_
  rintro e w1 ⟨rfl, rfl⟩
  cases b1 with
  | false =>
    have HC := Lib.hid (mchk_range (m := (n, f, t, r, d, ps)) (.inl HB1.out))
    go_wp2_with fail
    go_ret
    exact ⟨by rw [HC.out]; rfl, hbw⟩
  | true =>
  go_wp2_with fail
  refine (HC2.out _).mono ?_
  rintro e w1 ⟨rfl, rfl⟩
  cases b2 with
  | false =>
    have HC := Lib.hid (mchk_range (m := (n, f, t, r, d, ps)) (.inr (.inl HB2.out)))
    go_wp2_with fail
    go_ret
    exact ⟨by rw [HC.out]; rfl, hbw⟩
  | true =>
  go_wp2_with fail
  refine (HC3.out _).mono ?_
  rintro e w1 ⟨rfl, rfl⟩
  cases b3 with
  | false =>
    have HC := Lib.hid (mchk_range (m := (n, f, t, r, d, ps)) (.inr (.inr (.inl HB3.out))))
    go_wp2_with fail
    go_ret
    exact ⟨by rw [HC.out]; rfl, hbw⟩
  | true =>
  go_wp2_with fail
  refine (HC4.out _).mono ?_
  rintro e w1 ⟨rfl, rfl⟩
  cases b4 with
  | false =>
    have HC := Lib.hid (mchk_range (m := (n, f, t, r, d, ps)) (.inr (.inr (.inr HB4.out))))
    go_wp2_with fail
    go_ret
    exact ⟨by rw [HC.out]; rfl, hbw⟩
  | true =>
  clear HC1 HC2 HC3 HC4
  by_cases c1 : t < f
  · have HC := Lib.hid (mchk_form (m := (n, f, t, r, d, ps)) HB1.out HB2.out HB3.out HB4.out (.inl c1))
    go_wp2_with fail
    go_ret
    exact ⟨by rw [HC.out]; rfl, hbw⟩
  by_cases c2 : n = 0
  · have hn0 : (n == 0) = true := by simpa using c2
    have hz := fun W => Zero_any d W
    obtain ⟨zb, hzb⟩ : ∃ b, decide (d = dg0) = b := ⟨_, rfl⟩
    rw [hzb] at hz
    have HZ := Lib.hid hz
    have HZB := Lib.hid hzb
    have HN0 := Lib.hid c2
    clear hz hzb c2
    go_wp2_with (refine wpl_loadG (by kernel_rfl) 24 _ rfl ⟨w.heap.size, 4, none⟩ (dga d) rfl hdg.out _ Try.underlying24 rfl (by rw [hds.out]; kernel_rfl) ?_)
    refine (HZ.out _).mono ?_
    rintro e w2 ⟨rfl, hb2⟩
    have hBm := hB.below hb2
    have hw := bel_call hbw hb2
    clear hB hbw hb2 a0 a1 a2 a3 a4
    cases zb with
    | false =>
      have HC := Lib.hid (mchk_form (m := (n, f, t, r, d, ps)) HB1.out HB2.out HB3.out HB4.out (.inr ⟨HN0.out, HZB.out⟩))
      go_wp2_with fail
      go_ret
      exact ⟨by rw [HC.out]; rfl, hw⟩
    | true =>
      have HM := Lib.hid (mchk_rest (m := (n, f, t, r, d, ps)) HB1.out HB2.out HB3.out HB4.out (by dsimp only; omega) (fun _ => HZB.out))
      obtain ⟨a0, a1, a2, a3, a4⟩ := BlM.five hBm
      dsimp only at HM
      clear HN0 HZ HZB
      by_cases hlen : 1024 < ps.length
      · have hlI : (1024 : Int) < (ps.length : Int) := by omega
        have HC := Lib.hid (show mchk (n, f, t, r, d, ps) = 3 from by rw [HM.out, if_pos hlen])
        clear hlen
        go_wp2_with fail
        go_ret
        exact ⟨by rw [HC.out]; rfl, hw⟩
      · have hlI : (ps.length : Int) ≤ 1024 := by omega
        have HM2 := Lib.hid (show mchk (n, f, t, r, d, ps) = pgo t f ps from by rw [HM.out, if_neg hlen])
        have hf2 := inb_iff.1 HB2.out
        obtain ⟨hf0, hf1⟩ := hf2
        clear hlen HM
        go_wp2_with fail
        go_loopw [60, 3] (fun x y wr => ∃ (k : Nat) (a : Int), k ≤ ps.length ∧ x = .int .i64 k ∧ y = .int .i64 a ∧ Hid (pgo t f ps = pgo t a (ps.drop k)) ∧ f ≤ a ∧ a ≤ f + 64 * k ∧ Below w.heap.size w wr ∧ BlM wr w.heap.size n f t r d A ps.length c) (fun x y w => ps.length - (intOf x).toNat)
        case atStart => exact ⟨0, f, Nat.zero_le _, rfl, rfl, (show _ = _ from by rw [List.drop_zero]), Int.le_refl _, by omega, hw, hBm⟩
        case round =>
          obtain ⟨k, a, hk, rfl, rfl, hp, ha0, ha1, hbr, hBr⟩ := hrel
          clear hw hBm a0 a1 a2 a3 a4
          obtain ⟨a0, a1, a2, a3, a4⟩ := BlM.five hBr
          by_cases hlt : k < ps.length
          · obtain ⟨ad, b, o, rfl, had, hcc⟩ := (h.below hbr).at hlt
            have hnx := Lib.hid (fun h0 => (pgo_step (z := t) (a := a) hlt h0))
            have hst := Lib.hid (fun h0 => (pgo_stop (z := t) (a := a) hlt h0))
            have hIp := hI _ (List.getElem_mem hlt)
            generalize ps[k] = p at *
            obtain ⟨_, hI1, hI2⟩ := hIp
            have hX := Blk.new wr 68 (pta p)
            obtain ⟨x0, x1, x2⟩ := BlP.three hX
            have hbx := below_new wr (.cells (pta p) 68)
            have hps := Lib.hid (pta_size p)
            have hpa := Lib.hid (pta_all p)
            have HCC := Lib.hid hcc
            clear hcc
            go_wp2_with (first | (refine wpl_loadG rfl 68 _ rfl ⟨b, o, none⟩ (pta p) rfl HCC.out _ Try.underlying68 rfl (by rw [hps.out]; kernel_rfl) ?_) | (refine wpl_storeN rfl 68 _ _ rfl _ (pta p) 68 rfl rfl (by rw [hps.out]; kernel_rfl) (by rw [hps.out]; rfl) hpa.out ?_) | (refine wpl_loadG rfl 68 _ rfl ⟨wr.heap.size, 0, none⟩ (pta p) rfl hX.cells _ Try.underlying68 rfl (by rw [hps.out]; kernel_rfl) ?_))
            have hXb := hX
            refine (PtCheck_any p a hI1 hI2 _).mono ?_
            rintro e w5 ⟨rfl, hb5⟩
            replace hXb := Blk.below hXb hb5
            have hn5 := bel_call (bel_call hbr hbx) hb5
            have hBn : BlM w5 w.heap.size n f t r d (some ad) ps.length c := Blk.below (Blk.below hBr hbx) hb5
            rcases errv_cases (ptchk p a) with ⟨h0, hev⟩ | ⟨q, hq, hqe, hev⟩
            · have hp2 := hnx.out h0
              obtain ⟨_, hm64, _, _, _⟩ := ptchk_ok h0
              have hm1 : 1 ≤ p.2.1 := (ptchk_ok h0).1
              have HP := Lib.hid (hp.out.trans hp2)
              rw [hev]
              clear hev h0 hp2 hnx hst hp x0 x1 x2 a0 a1 a2 a3 a4 hX hI1 hI2 hps hpa HCC
              obtain ⟨x0, x1, x2⟩ := BlP.three hXb
              have hwa : wrap64 (a + p.2.1) = a + p.2.1 := by simp only [wrap64]; omega
              have hwa2 : IntKind.i64.wrap (a + p.2.1) = a + p.2.1 := by rw [IntKind.wrap_i64]; omega
              go_wp2_with fail
              go_roundw
              case rel => exact ⟨k + 1, a + p.2.1, hlt, by go_num, rfl, HP, by omega, by omega, hn5, hBn⟩
              case measure => simp [intOf]; omega
            · have hp2 := hst.out (by omega)
              have HP := Lib.hid ((HM2.out.trans hp.out).trans hp2)
              have HEV := Lib.hid hev
              rw [hev]
              clear hev hqe hp2 hnx hst hp x0 x1 x2 a0 a1 a2 a3 a4 hX hI1 hI2 hps hpa HCC
              go_wp2_with fail
              go_ret
              exact ⟨by rw [HP.out, HEV.out]; rfl, hn5⟩
          · have hkn : ps.drop k = [] := List.drop_eq_nil_of_le (by omega)
            have HP := Lib.hid (show mchk (n, f, t, r, d, ps) = if a ≠ t then 2 else 0 from by rw [HM2.out, hp.out, hkn]; rfl)
            clear hp hkn
            by_cases hat : a = t
            · have hb : (a != t) = false := by simp [hat]
              have HC := Lib.hid (show mchk (n, f, t, r, d, ps) = 0 from by rw [HP.out, if_neg (by simp [hat])])
              clear HP hat
              go_wp2_with fail
              go_ret
              exact ⟨by rw [HC.out]; rfl, hbr⟩
            · have hb : (a != t) = true := by simpa using hat
              have HC := Lib.hid (show mchk (n, f, t, r, d, ps) = 2 from by rw [HP.out, if_pos hat])
              clear HP hat
              go_wp2_with fail
              go_ret
              exact ⟨by rw [HC.out]; rfl, hbr⟩
  · have hn0 : (n == 0) = false := by simpa using c2
    have HM := Lib.hid (mchk_rest (m := (n, f, t, r, d, ps)) HB1.out HB2.out HB3.out HB4.out (by dsimp only; omega) (fun h0 => absurd h0 c2))
    have hBm := hB
    have hw := hbw
    dsimp only at HM
    clear hB hbw c2
    by_cases hlen : 1024 < ps.length
    · have hlI : (1024 : Int) < (ps.length : Int) := by omega
      have HC := Lib.hid (show mchk (n, f, t, r, d, ps) = 3 from by rw [HM.out, if_pos hlen])
      clear hlen
      go_wp2_with fail
      go_ret
      exact ⟨by rw [HC.out]; rfl, hw⟩
    · have hlI : (ps.length : Int) ≤ 1024 := by omega
      have HM2 := Lib.hid (show mchk (n, f, t, r, d, ps) = pgo t f ps from by rw [HM.out, if_neg hlen])
      have hf2 := inb_iff.1 HB2.out
      obtain ⟨hf0, hf1⟩ := hf2
      clear hlen HM
      go_wp2_with fail
      go_loopw [60, 3] (fun x y wr => ∃ (k : Nat) (a : Int), k ≤ ps.length ∧ x = .int .i64 k ∧ y = .int .i64 a ∧ Hid (pgo t f ps = pgo t a (ps.drop k)) ∧ f ≤ a ∧ a ≤ f + 64 * k ∧ Below w.heap.size w wr ∧ BlM wr w.heap.size n f t r d A ps.length c) (fun x y w => ps.length - (intOf x).toNat)
      case atStart => exact ⟨0, f, Nat.zero_le _, rfl, rfl, (show _ = _ from by rw [List.drop_zero]), Int.le_refl _, by omega, hw, hBm⟩
      case round =>
        obtain ⟨k, a, hk, rfl, rfl, hp, ha0, ha1, hbr, hBr⟩ := hrel
        clear hw hBm a0 a1 a2 a3 a4
        obtain ⟨a0, a1, a2, a3, a4⟩ := BlM.five hBr
        by_cases hlt : k < ps.length
        · obtain ⟨ad, b, o, rfl, had, hcc⟩ := (h.below hbr).at hlt
          have hnx := Lib.hid (fun h0 => (pgo_step (z := t) (a := a) hlt h0))
          have hst := Lib.hid (fun h0 => (pgo_stop (z := t) (a := a) hlt h0))
          have hIp := hI _ (List.getElem_mem hlt)
          generalize ps[k] = p at *
          obtain ⟨_, hI1, hI2⟩ := hIp
          have hX := Blk.new wr 68 (pta p)
          obtain ⟨x0, x1, x2⟩ := BlP.three hX
          have hbx := below_new wr (.cells (pta p) 68)
          have hps := Lib.hid (pta_size p)
          have hpa := Lib.hid (pta_all p)
          have HCC := Lib.hid hcc
          clear hcc
          go_wp2_with (first | (refine wpl_loadG rfl 68 _ rfl ⟨b, o, none⟩ (pta p) rfl HCC.out _ Try.underlying68 rfl (by rw [hps.out]; kernel_rfl) ?_) | (refine wpl_storeN rfl 68 _ _ rfl _ (pta p) 68 rfl rfl (by rw [hps.out]; kernel_rfl) (by rw [hps.out]; rfl) hpa.out ?_) | (refine wpl_loadG rfl 68 _ rfl ⟨wr.heap.size, 0, none⟩ (pta p) rfl hX.cells _ Try.underlying68 rfl (by rw [hps.out]; kernel_rfl) ?_))
          have hXb := hX
          refine (PtCheck_any p a hI1 hI2 _).mono ?_
          rintro e w5 ⟨rfl, hb5⟩
          replace hXb := Blk.below hXb hb5
          have hn5 := bel_call (bel_call hbr hbx) hb5
          have hBn : BlM w5 w.heap.size n f t r d (some ad) ps.length c := Blk.below (Blk.below hBr hbx) hb5
          rcases errv_cases (ptchk p a) with ⟨h0, hev⟩ | ⟨q, hq, hqe, hev⟩
          · have hp2 := hnx.out h0
            obtain ⟨_, hm64, _, _, _⟩ := ptchk_ok h0
            have hm1 : 1 ≤ p.2.1 := (ptchk_ok h0).1
            have HP := Lib.hid (hp.out.trans hp2)
            rw [hev]
            clear hev h0 hp2 hnx hst hp x0 x1 x2 a0 a1 a2 a3 a4 hX hI1 hI2 hps hpa HCC
            obtain ⟨x0, x1, x2⟩ := BlP.three hXb
            have hwa : wrap64 (a + p.2.1) = a + p.2.1 := by simp only [wrap64]; omega
            have hwa2 : IntKind.i64.wrap (a + p.2.1) = a + p.2.1 := by rw [IntKind.wrap_i64]; omega
            go_wp2_with fail
            go_roundw
            case rel => exact ⟨k + 1, a + p.2.1, hlt, by go_num, rfl, HP, by omega, by omega, hn5, hBn⟩
            case measure => simp [intOf]; omega
          · have hp2 := hst.out (by omega)
            have HP := Lib.hid ((HM2.out.trans hp.out).trans hp2)
            have HEV := Lib.hid hev
            rw [hev]
            clear hev hqe hp2 hnx hst hp x0 x1 x2 a0 a1 a2 a3 a4 hX hI1 hI2 hps hpa HCC
            go_wp2_with fail
            go_ret
            exact ⟨by rw [HP.out, HEV.out]; rfl, hn5⟩
        · have hkn : ps.drop k = [] := List.drop_eq_nil_of_le (by omega)
          have HP := Lib.hid (show mchk (n, f, t, r, d, ps) = if a ≠ t then 2 else 0 from by rw [HM2.out, hp.out, hkn]; rfl)
          clear hp hkn
          by_cases hat : a = t
          · have hb : (a != t) = false := by simp [hat]
            have HC := Lib.hid (show mchk (n, f, t, r, d, ps) = 0 from by rw [HP.out, if_neg (by simp [hat])])
            clear HP hat
            go_wp2_with fail
            go_ret
            exact ⟨by rw [HC.out]; rfl, hbr⟩
          · have hb : (a != t) = true := by simpa using hat
            have HC := Lib.hid (show mchk (n, f, t, r, d, ps) = 2 from by rw [HP.out, if_pos hat])
            clear HP hat
            go_wp2_with fail
            go_ret
            exact ⟨by rw [HC.out]; rfl, hbr⟩
end Go.Proofs.Ytgfigkenpmmdeaa

namespace Go.Proofs.Ytgfigkenpmmdeaa
open Go.RowKit
attribute [local go_sem ↓] Go.wp_at_zero Go.wp_at_succ

theorem one_cf (l : List CeV) : ∀ u ∈ l.flatMap cf, u.oneCell' = true := by
  intro u hu
  simp only [List.mem_flatMap, List.mem_cons, List.not_mem_nil, or_false] at hu
  obtain ⟨x, _, hx⟩ := hu
  rcases hx with rfl | rfl <;> rfl
theorem one_df (l : List Ce) : ∀ u ∈ l.flatMap df, u.oneCell' = true := by
  intro u hu
  simp only [List.mem_flatMap, List.mem_cons, List.not_mem_nil, or_false] at hu
  obtain ⟨x, _, hx⟩ := hu
  rcases hx with rfl | rfl <;> rfl
/-- a row of another type is as it was behind an append -/
theorem Own.other {w w' : World} {base base' : Nat} {e e' : TypeId} {size size' n n' c c' : Nat} {A B : Option Addr} {xs ys : List Value} (h : Own w base' e' size' B n' c' ys) (ho : Own w base e size A n c xs) (hg : w.grownBy w' (A.map (·.block))) (hne : e ≠ e') : Own w' base' e' size' B n' c' ys := by
  obtain ⟨h1, h2⟩ := h
  refine ⟨h1, ?_⟩
  rcases h2 with h2 | ⟨g', cap, cur, hv, hb, hh, r⟩
  · exact Or.inl h2
  · refine Or.inr ⟨g', cap, cur, hv, hb, (hg.block g' (Array.getElem?_eq_some_iff.1 hh).1 (fun he => ?_)).trans hh, r⟩
    rcases ho.2 with ⟨hv2, _⟩ | ⟨g2, cap2, cur2, hv2, _, hh2, _⟩
    · injection hv2 with hA
      subst hA
      simp at he
    · injection hv2 with hA
      subst hA
      simp at he
      subst he
      rw [hh] at hh2
      injection hh2 with hh2
      injection hh2 with _ ht
      exact hne ht.symm
theorem Own.ltB {w : World} {base : Nat} {e : TypeId} {size n c : Nat} {A : Option Addr} {xs : List Value} (h : Own w base e size A n c xs) : ∀ g, A.map (·.block) = some g → base ≤ g ∧ g < w.heap.size := by
  intro g hg
  rcases h.2 with ⟨hv, _⟩ | ⟨g2, cap, cur, hv, hb, hh, _⟩
  · injection hv with hA
    subst hA
    simp at hg
  · injection hv with hA
    subst hA
    simp at hg
    subst hg
    exact ⟨hb, (Array.getElem?_eq_some_iff.1 hh).1⟩
theorem Own.set1 {w : World} {base : Nat} {e : TypeId} {size n c : Nat} {A : Option Addr} {xs : List Value} (h : Own w base e size A n c xs) {g i : Nat} (hg : g < base) (u : Value) : Own (w.setCell ⟨g, i, none⟩ u) base e size A n c xs :=
  ownsRow_setCell_below (a := ⟨g, i, none⟩) h hg u

end Go.Proofs.Ytgfigkenpmmdeaa

namespace Go.Proofs.Ytgfigkenpmmdeaa
open Go.RowKit
attribute [local go_sem ↓] Go.wp_at_zero Go.wp_at_succ

/-- a row lies in no block of another type -/
theorem Own.wrT {w w' : World} {base g : Nat} {e t : TypeId} {size n c : Nat} {A : Option Addr} {xs : List Value} {cs : Array Value} (h : Own w base e size A n c xs) (hw : Wr w w' g) (hb : Blk w g t cs) (hne : e ≠ t) : Own w' base e size A n c xs := by
  obtain ⟨h1, h2⟩ := h
  refine ⟨h1, ?_⟩
  rcases h2 with h2 | ⟨g', cap, cur, hv, hbb, hh, r⟩
  · exact Or.inl h2
  · refine Or.inr ⟨g', cap, cur, hv, hbb, (hw.block g' (Array.getElem?_eq_some_iff.1 hh).1 (fun he => ?_)).trans hh, r⟩
    injection he with he
    subst he
    unfold Blk at hb
    rw [hb] at hh
    injection hh with hh
    injection hh with _ ht
    exact hne ht.symm
theorem Own.setT {w : World} {base g i : Nat} {e t : TypeId} {size n c : Nat} {A : Option Addr} {xs : List Value} {cs : Array Value} (h : Own w base e size A n c xs) (hb : Blk w g t cs) (hne : e ≠ t) (u : Value) : Own (w.setCell ⟨g, i, none⟩ u) base e size A n c xs :=
  h.wrT (Wr.set_ (Wr.refl (g := g) w) i u) hb hne

/-- what gives a segment and an error -/
def GivesSg (w0 : World) (x : Sg × Nat) (e : Ending) (w' : World) : Prop :=
  ∃ A c m, e = .returned (.tuple #[cv x.1.1 A (List.length m) c, errv x.2]) ∧ Hid (m.map ceOf = x.1.2) ∧ SlC w' A c m ∧ Below w0.heap.size w0 w'
theorem SlC.nil (w : World) : SlC w none 0 [] := ⟨Sl.none_ _ _, fun x hx => by simp at hx⟩
section
variable {w W W' : World} {f fb : Int} {E G : Option Addr} {n cap n2 cap2 : Nat}
end

end Go.Proofs.Ytgfigkenpmmdeaa
