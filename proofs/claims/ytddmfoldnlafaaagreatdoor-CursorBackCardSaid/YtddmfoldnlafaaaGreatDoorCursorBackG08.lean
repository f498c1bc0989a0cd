/- WHAT IT HOLDS: arguments that are slices of structs, opened to the words of Kit; over any program. | WHAT IT HOLDS: Later, Put, Word of the package cell, and the law's Document and Long, walked. | WHAT IT HOLDS: the document's small functions of layer 5, walked. | WHAT IT HOLDS: row and alike of the package cell, walked; append as a step of a region that draws. | WHAT IT HOLDS: PutRun of the package cell, walked. | WHAT IT HOLDS: the law CellOrder, walked. | WHAT IT HOLDS: the law CellFew, walked. | WHAT IT HOLDS: the document's common and Run, and the law's Documents, walked. | WHAT IT HOLDS: the document's Run, walked. | WHAT IT HOLDS: arguments that are cells, and slices of cells, opened to the words of Kit. | WHAT IS PROVED: the statement CellRuns: for every input the law returns true. No condition. | WHAT IT HOLDS: segments, plainly (no program). | WHAT IT HOLDS: Check of segments, the program's and the document's, walked. | WHAT IT HOLDS: the document's Check of segments, and both Same, walked. | WHAT IT HOLDS: Same of segments, the program's and the document's, walked. | WHAT IT HOLDS: a segment as the document's, and a segment's copy, walked. | WHAT IT HOLDS: a segment's copy, walked; append of cells at a step of a region that draws. -/
import Derived.Test.YtddmfoldnlafaaaGreatDoorCursorBackG04
import Derived.Deep.Slices
import Derived.Deep.Fields
import Derived.ChangeSame
import Derived.Test.YtddmfoldnlafaaaGreatDoorCursorBackG07
import Derived.Laws.StructEq
import Derived.Test.YtddmfoldnlafaaaGreatDoorCursorBackG05
import Derived.Deep.DeepCutAuto
import Derived.Lib.SlBytesConst
import Derived.Lib.AppendStr
import Derived.BigQuiet
import Derived.Deep.QuietTactic
namespace Go.Proofs.YtddmfoldnlafaaaGreatDoor
open Go.ChangeShapes Go.WideShapes Go.ChangeAt Go.RowKit Go.Deep

section
variable {H : Type} {enc : TypeId × Value → H} {P : Program} {w : World} {base : Nat} {spare : Nat → Bool} {held : Bool}
theorem open_slice_fields {t e : TypeId} {fs : Array Field} {fuel : Nat} {cs : List Value} {x : DataW H × List MemPlace} (ht : P.underlying t = some (.slice e)) (he : P.underlying e = some (.struct fs))
    (hone : oneCellFields P fs = true) (hC : P.cellsOf e = fs.size) (h : DataW.trod enc P w base spare held fuel t cs = some x) :
    (cs = [.slice none 0 0] ∧ x = (.nil, [])) ∨
    ∃ (a : Addr) (len cap m : Nat) (D : Nat → DataW H) (Pl : Nat → List MemPlace), cs = [.slice (some a) len cap] ∧ base ≤ a.block ∧ len ≤ cap ∧ cap ≤ maxLen ∧ m = (if spare a.block then cap else len) ∧
      x = (.slice ((List.range len).map D) ((List.range (m - len)).map fun j => D (len + j)), MemPlace.row a (m * fs.size) ++ (List.range m).flatMap Pl) ∧
      ∀ i, i < m → ∃ (ys : List (DataW H × List MemPlace)) (n : Nat), D i = .agg (ys.map (·.1)) ∧ Pl i = ys.flatMap (·.2) ∧ ys.length = fs.size ∧
        ∀ (j : Nat) (f : Field), fs[j]? = some f → ∃ (v : Value) (y : DataW H × List MemPlace), w.cell? (a.add (i * fs.size + j)) = some v ∧ ys[j]? = some y ∧ DataW.trod enc P w base spare held n f.type [v] = some y := by
  rcases open_slice ht h with h0 | ⟨a, len, cap, m, n, D, Pl, hcs, hb, hl, hm, hmm, hx, hi⟩
  · exact .inl h0
  · refine .inr ⟨a, len, cap, m, D, Pl, hcs, hb, hl, hm, hmm, by rw [hC] at hx; exact hx, fun i him => ?_⟩
    obtain ⟨cs', hc, ht'⟩ := hi i him
    rw [hC] at hc
    obtain ⟨ys, n', hn', hy, hlen, hyl, hf⟩ := DataW.trod_struct he ht'
    obtain ⟨_, hcl, hat⟩ := World.cells?_some hc
    simp only [Prod.mk.injEq] at hy
    refine ⟨ys, n', hy.1, hy.2, hyl, fun j f hj => ?_⟩
    obtain ⟨ho, hk⟩ := hone_of hone j f hj
    have hjl : j < fs.size := (Array.getElem?_eq_some_iff.1 hj).1
    have hcell := hat j hjl
    have hv : cs'[j]? = some (cs'[j]'(by omega)) := List.getElem?_eq_getElem (by omega)
    have h1 := hf j f hj
    rw [ho, hk] at h1
    have hone' : (cs'.drop j).take 1 = [cs'[j]'(by omega)] := by
      rw [List.drop_eq_getElem_cons (by omega)]
      rfl
    rw [hone'] at h1
    have hys : ys[j]? = some (ys[j]'(by omega)) := List.getElem?_eq_getElem (by omega)
    refine ⟨_, _, ?_, hys, h1.trans hys⟩
    rw [← Go.Deep.add_add, hcell, hv]
end

theorem list_choice {T : Type} (R : Nat → T → Prop) : ∀ n, (∀ i, i < n → ∃ t, R i t) → ∃ l : List T, l.length = n ∧ ∀ i (hi : i < l.length), R i l[i]
  | 0, _ => ⟨[], rfl, fun i hi => by simp at hi⟩
  | n + 1, h => by
    obtain ⟨l, hl, hr⟩ := list_choice R n fun i hi => h i (by omega)
    obtain ⟨t, ht⟩ := h n (by omega)
    refine ⟨l ++ [t], by simp [hl], fun i hi => ?_⟩
    by_cases hin : i < l.length
    · rw [List.getElem_append_left hin]; exact hr i hin
    · have : i = l.length := by simp at hi; omega
      subst this
      simpa [hl] using ht
theorem flat_len {T : Type} {f : T → List Value} {s : Nat} (hf : ∀ x, (f x).length = s) (l : List T) : (l.flatMap f).length = l.length * s := by
  induction l with
  | nil => simp
  | cons x l ih => simp only [List.flatMap_cons, List.length_append, hf, ih, List.length_cons, Nat.succ_mul]; omega
theorem flat_get {T : Type} {f : T → List Value} {s : Nat} (hf : ∀ x, (f x).length = s) : ∀ (l : List T) (k j : Nat) (hk : k < l.length), j < s → (l.flatMap f)[k * s + j]? = (f l[k])[j]?
  | x :: l, 0, j, _, hj => by
    simp only [List.flatMap_cons, Nat.zero_mul, Nat.zero_add, List.getElem_cons_zero]
    rw [List.getElem?_append_left (by rw [hf]; exact hj)]
  | x :: l, k + 1, j, hk, hj => by
    have h := flat_get hf l k j (by simpa using hk) hj
    simp only [List.flatMap_cons, List.getElem_cons_succ]
    rw [List.getElem?_append_right (by rw [hf, Nat.succ_mul]; omega), hf, ← h]
    congr 1
    rw [Nat.succ_mul]
    omega
/-- the cell j of the struct k -/
theorem Sl.atS {w : World} {n c size : Nat} {A : Option Addr} {T : Type} {f : T → List Value} {l : List T} (hf : ∀ x, (f x).length = size) (h0 : 0 < size) (h : Sl w size A n c (l.flatMap f)) {k : Nat} (hk : k < l.length) :
    ∃ ad b o, A = some ad ∧ ad.add (k * size) = ⟨b, o, none⟩ ∧ ∀ j u, (f l[k])[j]? = some u → w.cell? ⟨b, o + j, none⟩ = some u := by
  have h1 := flat_get hf l k 0 hk h0
  have h2 : (f l[k])[0]? = some ((f l[k])[0]'(by rw [hf]; exact h0)) := List.getElem?_eq_getElem _
  obtain ⟨ad, hA, hc0⟩ := h.2.2.2.2 _ _ (h1.trans h2)
  have hsp := World.cell?_spot hc0
  have he : ad.add (k * size) = ⟨(ad.add (k * size)).block, (ad.add (k * size)).off, none⟩ := by
    rw [Nat.add_zero] at hsp
    cases h3 : ad.add (k * size) with
    | mk bl of sp => rw [h3] at hsp; simp at hsp; subst hsp; rfl
  refine ⟨ad, _, _, hA, he, fun j u hu => ?_⟩
  have hj : j < size := by have := (List.getElem?_eq_some_iff.1 hu).1; rw [hf] at this; exact this
  obtain ⟨ad', hA', hc⟩ := h.2.2.2.2 _ _ ((flat_get hf l k j hk hj).trans hu)
  rw [hA] at hA'
  injection hA' with e
  subst e
  rw [← addr_add_add, he, addr_lit] at hc
  exact hc
/-- a slice of structs of one-cell fields: a list of what the elements are -/
theorem open_structs {H : Type} {enc : TypeId × Value → H} {P : Program} {w : World} {base b0 : Nat} {held : Bool} {r : Reach} {t e : TypeId} {v : Value} {d : DataW H} {p : List MemPlace} {fs : Array Field}
    {T : Type} (f : T → List Value) (Q : T → Prop) (hfl : ∀ x, (f x).length = fs.size)
    (ht : P.underlying t = some (.slice e)) (he : P.underlying e = some (.struct fs)) (hone : oneCellFields P fs = true) (hC : P.cellsOf e = fs.size)
    (hel : ∀ vs : List Value, vs.length = fs.size → (∀ (j : Nat) (fd : Field), fs[j]? = some fd → ∃ (u : Value) (n : Nat) (y : DataW H × List MemPlace), vs[j]? = some u ∧ DataW.trod enc P w base (fun _ => true) held n fd.type [u] = some y) → ∃ x : T, f x = vs ∧ Q x)
    (hv : Value.okWide P w r b0 t v) (h : DataW.Trod enc P w base (fun _ => true) held t v d p) :
    ∃ (A : Option Addr) (c : Nat) (l : List T), v = .slice A l.length c ∧ Sl w fs.size A l.length c (l.flatMap f) ∧ ∀ x ∈ l, Q x := by
  obtain ⟨A, n, c, rfl⟩ := okWide_slice ht hv
  obtain ⟨fuel, hf⟩ := h
  rcases open_slice_fields ht he hone hC hf with ⟨hcs, _⟩ | ⟨a, len, cap, m, D, Pl, hcs, _, hl, hm, hmm, _, hi⟩
  · simp [Value.cells] at hcs
    obtain ⟨rfl, rfl, rfl⟩ := hcs
    exact ⟨none, 0, [], rfl, by simpa using Sl.none_ w fs.size, fun x hx => by simp at hx⟩
  · simp [Value.cells] at hcs
    obtain ⟨rfl, rfl, rfl⟩ := hcs
    simp only [if_true] at hmm
    subst hmm
    have hx : ∀ i, i < n → ∃ x : T, Q x ∧ ∀ j u, (f x)[j]? = some u → w.cell? (a.add (i * fs.size + j)) = some u := by
      intro i hin
      obtain ⟨ys, nn, _, _, _, hfd⟩ := hi i (by omega)
      have hc : ∀ j, j < fs.size → ∃ u : Value, w.cell? (a.add (i * fs.size + j)) = some u ∧ ∃ y : DataW H × List MemPlace, DataW.trod enc P w base (fun _ => true) held nn (fs[j]!).type [u] = some y := by
        intro j hj
        obtain ⟨u, y, h1, _, h3⟩ := hfd j fs[j] (by simp [hj])
        exact ⟨u, h1, y, by simpa [hj] using h3⟩
      obtain ⟨vs, hvl, hvr⟩ := list_choice (fun j u => w.cell? (a.add (i * fs.size + j)) = some u ∧ ∃ y : DataW H × List MemPlace, DataW.trod enc P w base (fun _ => true) held nn (fs[j]!).type [u] = some y) fs.size hc
      obtain ⟨x, hxe, hxq⟩ := hel vs hvl fun j fd hj => by
        have hjl : j < fs.size := (Array.getElem?_eq_some_iff.1 hj).1
        obtain ⟨_, y, hy⟩ := hvr j (by omega)
        have hfe : fs[j]! = fd := by
          have := (Array.getElem?_eq_some_iff.1 hj).2
          simp [hjl, this]
        rw [hfe] at hy
        exact ⟨vs[j], nn, y, List.getElem?_eq_getElem (by omega), hy⟩
      refine ⟨x, hxq, fun j u hj => ?_⟩
      rw [hxe] at hj
      obtain ⟨hjl, hju⟩ := List.getElem?_eq_some_iff.1 hj
      rw [← hju]
      exact (hvr j hjl).1
    obtain ⟨l, hll, hlr⟩ := list_choice _ n hx
    refine ⟨some a, _, l, by rw [hll], ⟨flat_len hfl l, by omega, hm, (fun h => by cases h), fun j u hj => ⟨a, rfl, ?_⟩⟩, fun x hx => ?_⟩
    · rcases Nat.eq_zero_or_pos fs.size with h0 | h0
      · have := (List.getElem?_eq_some_iff.1 hj).1
        rw [flat_len hfl, h0] at this
        omega
      · have hjl := (List.getElem?_eq_some_iff.1 hj).1
        rw [flat_len hfl] at hjl
        have hk : j / fs.size < l.length := by rw [Nat.div_lt_iff_lt_mul h0]; exact hjl
        have hr : j % fs.size < fs.size := Nat.mod_lt _ h0
        have he := flat_get hfl l (j / fs.size) (j % fs.size) hk hr
        have hj2 : j / fs.size * fs.size + j % fs.size = j := by rw [Nat.mul_comm]; exact Nat.div_add_mod _ _
        rw [hj2, hj] at he
        have := (hlr _ hk).2 _ _ he.symm
        rwa [hj2] at this
    · obtain ⟨i, hi, rfl⟩ := List.getElem_of_mem hx
      exact (hlr i hi).1
/-- a struct of an int, a number of 64 bits, an int -/
abbrev actf (a : Int × Nat × Int) : List Value := [.int .i64 a.1, .int .u64 (a.2.1 : Int), .int .i64 a.2.2]
theorem u64_cell {P : Program} {w : World} {base : Nat} {held : Bool} {sp : Nat → Bool} {t : TypeId} {n : Nat} {v : Value} {H : Type} {enc : TypeId × Value → H} {y : DataW H × List MemPlace} (ht : P.underlying t = some (.int .u64)) (h : DataW.trod enc P w base sp held n t [v] = some y) : ∃ a : Nat, v = .int .u64 (a : Int) ∧ U64 a := by
  obtain ⟨a, hv, _, hw⟩ := DataW.trod_int ht h
  simp at hv
  have hb := bounds_u64 hw
  exact ⟨a.toNat, by rw [hv]; congr 1; omega, by unfold U64; omega⟩
theorem open_acts {H : Type} {enc : TypeId × Value → H} {P : Program} {w : World} {base b0 : Nat} {held : Bool} {r : Reach} {t e : TypeId} {v : Value} {d : DataW H} {p : List MemPlace} {f0 f1 f2 : Field}
    (ht : P.underlying t = some (.slice e)) (he : P.underlying e = some (.struct #[f0, f1, f2])) (h0 : P.underlying f0.type = some (.int .i64)) (h1 : P.underlying f1.type = some (.int .u64)) (h2 : P.underlying f2.type = some (.int .i64))
    (hone : oneCellFields P #[f0, f1, f2] = true) (hC : P.cellsOf e = 3) (hv : Value.okWide P w r b0 t v) (h : DataW.Trod enc P w base (fun _ => true) held t v d p) :
    ∃ (A : Option Addr) (c : Nat) (l : List (Int × Nat × Int)), v = .slice A l.length c ∧ Sl w 3 A l.length c (l.flatMap actf) ∧ ∀ x ∈ l, I64 x.1 ∧ U64 x.2.1 ∧ I64 x.2.2 := by
  refine open_structs actf (fun x => I64 x.1 ∧ U64 x.2.1 ∧ I64 x.2.2) (fun _ => rfl) ht he hone hC ?_ hv h
  intro vs hl hf
  obtain ⟨u0, n0, y0, e0, t0⟩ := hf 0 f0 rfl
  obtain ⟨u1, n1, y1, e1, t1⟩ := hf 1 f1 rfl
  obtain ⟨u2, n2, y2, e2, t2⟩ := hf 2 f2 rfl
  obtain ⟨a, rfl, ha⟩ := int_cell h0 t0
  obtain ⟨b, rfl, hb⟩ := u64_cell h1 t1
  obtain ⟨c, rfl, hc⟩ := int_cell h2 t2
  match vs, hl with
  | [x0, x1, x2], _ =>
    simp at e0 e1 e2
    exact ⟨(a, b, c), by simp [actf, e0, e1, e2], ha, hb, hc⟩
end Go.Proofs.YtddmfoldnlafaaaGreatDoor

namespace Go.Proofs.YtddmfoldnlafaaaGreatDoor
open Go.RowKit
attribute [local go_sem ↓] Go.wp_at_zero Go.wp_at_succ

/-- the later cell, and whether there is one -/
def LaterOut (w0 : World) (x : Ce × Bool) (e : Ending) (w' : World) : Prop :=
  ∃ A c m, e = .returned (.tuple #[cv x.1.1 A (List.length m) c, .bool x.2]) ∧ Hid (m = x.1.2) ∧ SlB w' A c m ∧ Below w0.heap.size w0 w'


theorem u64_of_k {k : Int} (h1 : 0 ≤ k) (h2 : k ≤ 3) : ∃ n : Nat, k = (n : Int) ∧ n ≤ 3 := ⟨k.toNat, by omega, by omega⟩
/-- bytes and a cell's bytes, or an error -/
def CPutOut (w0 : World) (l : List UInt8) (x : Ce) (e : Ending) (w' : World) : Prop :=
  Below w0.heap.size w0 w' ∧ ((∃ A c m, cchk x = 0 ∧ e = .returned (.tuple #[.slice A (List.length m) c, .nilIface]) ∧ Hid (m = l ++ cbytes x) ∧ OwnB w' w0.heap.size 5 A c m) ∨ (cchk x ≠ 0 ∧ e = .returned (.tuple #[.slice none 0 0, errv (cchk x)])))

def cword (k : Int) : List UInt8 := if k = 0 then [101, 109, 112, 116, 121] else if k = 1 then [100, 97, 116, 97] else if k = 2 then [104, 111, 108, 101] else if k = 3 then [116, 114, 105, 109, 109, 101, 100] else []
/-- the document's cell as a value -/
abbrev dv (k : Int) (d : List UInt8) : Value := .agg #[.int .i64 k, .string ⟨d.toArray⟩]
/-- a cell in a slice: kind, address, capacity, bytes -/
abbrev CeV := Int × Option Addr × Nat × List UInt8
abbrev cf (x : CeV) : List Value := [.int .i64 x.1, .slice x.2.1 x.2.2.2.length x.2.2.1]
abbrev ceOf (x : CeV) : Ce := (x.1, x.2.2.2)
/-- cells that can be read -/
def SlC (w : World) (E : Option Addr) (cap : Nat) (l : List CeV) : Prop := Sl w 2 E l.length cap (l.flatMap cf) ∧ ∀ x ∈ l, SlB w x.2.1 x.2.2.1 x.2.2.2
theorem SlC.below {w w' : World} {E : Option Addr} {cap : Nat} {l : List CeV} (h : SlC w E cap l) (hb : Below w.heap.size w w') : SlC w' E cap l := ⟨h.1.below hb, fun x hx => (h.2 x hx).below hb⟩
theorem SlC.at2 {w : World} {E : Option Addr} {cap : Nat} {l : List CeV} (h : SlC w E cap l) {k : Nat} (hk : k < l.length) :
    ∃ ad b o, E = some ad ∧ ad.add (k * 2) = ⟨b, o, none⟩ ∧ w.cell? ⟨b, o, none⟩ = some (.int .i64 l[k].1) ∧ w.cell? ⟨b, o + 1, none⟩ = some (.slice l[k].2.1 l[k].2.2.2.length l[k].2.2.1) ∧ SlB w l[k].2.1 l[k].2.2.1 l[k].2.2.2 := by
  obtain ⟨ad, b, o, h1, h2, h3⟩ := Sl.atS (f := cf) (size := 2) (fun _ => rfl) (by omega) h.1 hk
  exact ⟨ad, b, o, h1, h2, h3 0 _ rfl, h3 1 _ rfl, h.2 _ (List.getElem_mem hk)⟩
def longb (l : List Ce) (most : Int) : Bool := l.any (fun c => decide (100 < c.2.length)) || decide (most < (l.length : Int))

end Go.Proofs.YtddmfoldnlafaaaGreatDoor

namespace Go.Proofs.YtddmfoldnlafaaaGreatDoor
open Go.RowKit
attribute [local go_sem ↓] Go.wp_at_zero Go.wp_at_succ

/-- what '[]byte(s)' leaves -/
def cvCap (w : World) (e : TypeId) (d : List UInt8) : Nat := grownCap w d.length 0 e
def cvWorld (w : World) (e : TypeId) (d : List UInt8) : World := w.drew.alloc (.cells (bytesRow ⟨d.toArray⟩ (cvCap w e d)) e ((bytesRow ⟨d.toArray⟩ (cvCap w e d)).size, (bytesRow ⟨d.toArray⟩ (cvCap w e d)).size + 1))
theorem conv_bytes {P : Program} (w : World) (src dst e : TypeId) (d : List UInt8) (hs : P.underlying src = some .string) (hd : P.underlying dst = some (.slice e)) (he : P.underlying e = some (.int .u8)) :
    (convert src dst (.string ⟨d.toArray⟩)).run P w = .ok (.slice (some ⟨w.heap.size, 0, none⟩) d.length (cvCap w e d)) (cvWorld w e d) := run_bytes_of_string w src dst e ⟨d.toArray⟩ hs hd he
theorem conv_below (w : World) (e : TypeId) (d : List UInt8) : Below w.heap.size w (cvWorld w e d) := (Below.refl _ _).drew.alloc (Nat.le_refl _) _
theorem conv_sl (w : World) (e : TypeId) (d : List UInt8) (h : d.length ≤ maxLen) {g : Nat} (hg : g = w.heap.size) : SlB (cvWorld w e d) (some ⟨g, 0, none⟩) (cvCap w e d) d := by
  subst hg
  refine ⟨by simp, grownCap_ge _ _ _ _, grownCap_le_maxLen _ _ _ _ h, (fun h => by cases h), fun j u hj => ⟨_, rfl, ?_⟩⟩
  rw [addr_lit, Nat.zero_add]
  have hl : j < d.length := by
    have := (List.getElem?_eq_some_iff.1 hj).1
    simpa using this
  have h1 := cell_of_row (cvWorld w e d) w.heap.size j _ e _ (heap_alloc_new w.drew _)
  rw [h1, bytesRow_at ⟨d.toArray⟩ _ j hl]
  rw [← hj]
  simp [List.getElem?_eq_getElem hl]
theorem beq_arr (d d2 : List UInt8) : ((⟨d.toArray⟩ : ByteArray) == ⟨d2.toArray⟩) = (d == d2) := by
  rw [beq_toListBytes]
  simp [ByteArray.toList_eq]
theorem same_beq (k k2 : Int) (d d2 : List UInt8) : same (k, d) (k2, d2) = (k == k2 && d == d2) := by unfold same; rw [Bool.eq_iff_iff]; simp
/-- one byte, laid in a block of its own -/
theorem Own.lits1 {w : World} {g : Nat} (hg : g = w.heap.size) (e : TypeId) (b : UInt8) : OwnB (w.alloc (.cells #[bv b] e)) w.heap.size e (some ⟨g, 0, none⟩) 1 [b] := by
  subst hg
  exact World.ownsRow_lit w #[bv b] 1 (Nat.le_refl _) (by simp [maxLen]) (by simp)
end Go.Proofs.YtddmfoldnlafaaaGreatDoor

namespace Go.Proofs.YtddmfoldnlafaaaGreatDoor
open Go.RowKit
attribute [local go_sem ↓] Go.wp_at_zero Go.wp_at_succ


theorem u8_eq_iff {x y : UInt8} : ((x.toNat : Int) == (y.toNat : Int)) = true ↔ x = y := by
  rw [beq_iff_eq]
  constructor
  · intro h; exact UInt8.toNat_inj.1 (by omega)
  · rintro rfl; rfl
end Go.Proofs.YtddmfoldnlafaaaGreatDoor

namespace Go.Proofs.YtddmfoldnlafaaaGreatDoor
open Go.RowKit
attribute [local go_sem ↓] Go.wp_at_zero Go.wp_at_succ

theorem Sl.cutS {w : World} {size n c : Nat} {A : Option Addr} {xs : List Value} (h : Sl w size A n c xs) {k : Nat} (hk : k ≤ n) : Sl w size (if c = k then A else A.map (·.add (k * size))) (n - k) (c - k) (xs.drop (k * size)) := by
  obtain ⟨h1, h2, h3, h4, h5⟩ := h
  refine ⟨by rw [List.length_drop, h1, Nat.sub_mul], by omega, by omega, fun e => ?_, fun j u hj => ?_⟩
  · split at e
    · have := h4 e; omega
    · cases A with
      | none => have := h4 rfl; omega
      | some a => simp at e
  · rw [List.getElem?_drop] at hj
    obtain ⟨ad, rfl, hc⟩ := h5 _ u hj
    have hl : k * size + j < n * size := by have := (List.getElem?_eq_some_iff.1 hj).1; omega
    have hkn : k < n := by
      rcases Nat.lt_or_ge k n with h | h
      · exact h
      · have := Nat.mul_le_mul_right size h
        omega
    rw [if_neg (by omega)]
    exact ⟨ad.add (k * size), rfl, by rw [addr_add_add]; exact hc⟩
theorem flat_drop : ∀ (k : Nat) (l : List CeV), (l.flatMap cf).drop (k * 2) = (l.drop k).flatMap cf
  | 0, l => by simp
  | k + 1, [] => by simp
  | k + 1, x :: l => by
    have h := flat_drop k l
    rw [show (k + 1) * 2 = k * 2 + 1 + 1 from by omega]
    simp only [List.flatMap_cons, List.drop_succ_cons]
    exact h
def lenOf : Value → Nat
  | .slice _ n _ => n
  | _ => 0
theorem SlC.cut {w : World} {E : Option Addr} {cap : Nat} {l : List CeV} (h : SlC w E cap l) {k : Nat} (hk : k ≤ l.length) : SlC w (if cap = k then E else E.map (·.add (k * 2))) (cap - k) (l.drop k) := by
  refine ⟨?_, fun x hx => h.2 x (List.mem_of_mem_drop hx)⟩
  have := Sl.cutS h.1 hk
  rw [flat_drop, ← List.length_drop] at this
  exact this

/-- the bytes of a run behind bytes, or an error -/
def RunOut (w0 : World) (l : List UInt8) (run : List Ce) (e : Ending) (w' : World) : Prop :=
  Below w0.heap.size w0 w' ∧ ((∃ A c m, run.length ≤ 64 ∧ rchk run = 0 ∧ e = .returned (.tuple #[.slice A (List.length m) c, .nilIface]) ∧ Hid (m = l ++ (vb run.length ++ prun [] run)) ∧ OwnB w' w0.heap.size 5 A c m) ∨
    (∃ bad : Nat, bad ≠ 0 ∧ bad = (if 64 < run.length then 3 else rchk run) ∧ e = .returned (.tuple #[.slice none 0 0, errv bad])))

end Go.Proofs.YtddmfoldnlafaaaGreatDoor

namespace Go.Proofs.YtddmfoldnlafaaaGreatDoor
open Go.ChangeShapes Go.WideShapes Go.ChangeAt Go.RowKit
attribute [local go_sem ↓] Go.wp_at_zero Go.wp_at_succ

theorem hole_ok : cchk (2, []) = 0 := by decide
theorem ab_ok : cchk (1, [97, 98]) = 0 := by decide
theorem hole_bytes : [] ++ cbytes (2, []) = [2] := by decide
theorem ab_bytes : [] ++ cbytes (1, [97, 98]) = [1, 2, 97, 98] := by
  simp [cbytes, vb_small]

theorem Sl.litsS (w : World) (size n : Nat) (cs : List Value) (t : TypeId) (hl : cs.length = n * size) (h : n ≤ maxLen) : Sl (w.alloc (.cells cs.toArray t)) size (some ⟨w.heap.size, 0, none⟩) n n cs :=
  ⟨hl, by omega, h, (fun h => by cases h), fun j u hj => ⟨_, rfl, by
    rw [addr_lit, cell_of_row _ _ _ _ t (0, 0) (heap_alloc_new w _)]
    simpa using hj⟩⟩
theorem six {w : World} {g1 g2 g3 : Nat} {t : TypeId} {a b c d e f : Value} (h1 : Blk w g1 t #[a, b]) (h2 : Blk w g2 t #[c, d]) (h3 : Blk w g3 t #[e, f]) :
    w.cell? ⟨g1, 0, none⟩ = some a ∧ w.cell? ⟨g1, 1, none⟩ = some b ∧ w.cell? ⟨g2, 0, none⟩ = some c ∧ w.cell? ⟨g2, 1, none⟩ = some d ∧ w.cell? ⟨g3, 0, none⟩ = some e ∧ w.cell? ⟨g3, 1, none⟩ = some f :=
  ⟨h1.cell 0, h1.cell 1, h2.cell 0, h2.cell 1, h3.cell 0, h3.cell 1⟩

theorem longb_len {l : List Ce} {n : Int} (h : longb l n = false) : ∀ c ∈ l, c.2.length ≤ 100 := by
  unfold longb at h
  rw [Bool.or_eq_false_iff] at h
  intro c hc
  have := List.any_eq_false.1 h.1 c hc
  simpa using this
end Go.Proofs.YtddmfoldnlafaaaGreatDoor

namespace Go.Proofs.YtddmfoldnlafaaaGreatDoor
open Go.ChangeShapes Go.WideShapes Go.ChangeAt Go.RowKit
attribute [local go_sem ↓] Go.wp_at_zero Go.wp_at_succ

theorem vb_len1 {n : Nat} (h : n < 128) : (vb n).length = 1 := by rw [vb_small h]; rfl
theorem rowGo_rep {k : Int} (h : k ≠ 1) (d : List UInt8) : ∀ n, rowGo k (List.replicate n (k, d)) = n
  | 0 => rfl
  | n + 1 => by
    rw [List.replicate_succ, rowGo, if_pos ⟨h, rfl⟩, rowGo_rep h d n]
theorem few_other {k : Int} (h : k ≠ 1) (h0 : 0 ≤ k) (h3 : k ≤ 3) {n : Nat} (h1 : 1 ≤ n) (hn : n ≤ 64) : (vb n ++ prun [] (List.replicate n (k, []))).length = 3 := by
  obtain ⟨m, rfl⟩ : ∃ m, n = m + 1 := ⟨n - 1, by omega⟩
  have hr : rowN (List.replicate (m + 1) ((k, []) : Ce)) = m + 1 := by
    have := rowGo_rep h [] (m + 1)
    rw [List.replicate_succ] at this ⊢
    exact this
  obtain ⟨k', ⟨r, d, hk⟩, hp⟩ := prun_row (last := []) (l := List.replicate (m + 1) ((k, []) : Ce)) (by omega)
  rw [List.replicate_succ] at hk
  simp only [List.cons.injEq, Prod.mk.injEq] at hk
  obtain ⟨⟨rfl, _⟩, _⟩ := hk
  rw [hp, hr, List.drop_eq_nil_of_le (by simp)]
  simp only [List.length_append, prun, List.length_nil]
  rw [vb_len1 (by omega), vb_len1 (by omega)]
theorem cpl_self : ∀ d, cpl d d = d.length
  | [] => rfl
  | x :: d => by rw [cpl, if_pos rfl, cpl_self d]; rfl
theorem few_more (d : List UInt8) (hd : d.length ≤ 64) : ∀ n, (prun d (List.replicate n (1, d))).length = 3 * n
  | 0 => by simp [prun]
  | n + 1 => by
    rw [List.replicate_succ, prun_data (rowN_zero.2 rfl)]
    simp only [List.length_append, cpl_self, List.drop_length, List.length_nil]
    rw [vb_len1 (by omega), vb_len1 (by omega), few_more d hd n]
    omega
theorem few_data (d : List UInt8) (hd : d.length ≤ 64) {n : Nat} (h1 : 1 ≤ n) (hn : n ≤ 64) : (vb n ++ prun [] (List.replicate n (1, d))).length = 1 + 3 * n + d.length := by
  obtain ⟨m, rfl⟩ : ∃ m, n = m + 1 := ⟨n - 1, by omega⟩
  rw [List.replicate_succ, prun_data (rowN_zero.2 rfl)]
  have hc : cpl [] d = 0 := by simp [cpl]
  simp only [List.length_append, hc, List.drop_zero]
  rw [vb_len1 (by omega), vb_len1 (by omega), vb_len1 (by omega), few_more d hd m]
  omega
theorem rchk_rep {c : Ce} (h : cchk c = 0) (n : Nat) : rchk (List.replicate n c) = 0 := rchk_ok fun x hx => by rw [List.eq_of_mem_replicate hx]; exact h
theorem map_rep (x : CeV) (n : Nat) : (List.replicate n x).map ceOf = List.replicate n (ceOf x) := by simp

def u4 (kind : Int) (q : Int) : Prop := (IntKind.u64.wrap kind).tmod 4 = q
theorem u4_cases (kind : Int) : u4 kind 1 ∨ u4 kind 0 ∨ u4 kind 2 ∨ u4 kind 3 := by
  unfold u4
  rw [IntKind.wrap_u64]
  have h : (0 : Int) ≤ kind % 18446744073709551616 := Int.emod_nonneg _ (by decide)
  rw [Int.tmod_eq_emod_of_nonneg h]
  omega
theorem u64m (many : Int) : ∃ mm : Nat, mm ≤ 63 ∧ (IntKind.u64.wrap many).tmod 64 = (mm : Int) := by
  rw [IntKind.wrap_u64]
  have h : (0 : Int) ≤ many % 18446744073709551616 := Int.emod_nonneg _ (by decide)
  rw [Int.tmod_eq_emod_of_nonneg h]
  exact ⟨((many % 18446744073709551616) % 64).toNat, by omega, by omega⟩

end Go.Proofs.YtddmfoldnlafaaaGreatDoor

namespace Go.Proofs.YtddmfoldnlafaaaGreatDoor
open Go.RowKit
attribute [local go_sem ↓] Go.wp_at_zero Go.wp_at_succ

abbrev df (c : Ce) : List Value := [.int .i64 c.1, .string ⟨c.2.toArray⟩]
/-- the document's cells that can be read -/
abbrev SlD (w : World) (E : Option Addr) (cap : Nat) (l : List Ce) : Prop := Sl w 2 E l.length cap (l.flatMap df)

end Go.Proofs.YtddmfoldnlafaaaGreatDoor

namespace Go.Proofs.YtddmfoldnlafaaaGreatDoor
open Go.RowKit
attribute [local go_sem ↓] Go.wp_at_zero Go.wp_at_succ

theorem ext_drop (d : List UInt8) (s n : Nat) (hn : n = d.length) : (⟨d.toArray⟩ : ByteArray).extract s n = ⟨(d.drop s).toArray⟩ := by
  subst hn
  apply ByteArray.ext
  simp only [ByteArray.data_extract, List.extract_toArray]
  rw [List.extract_eq_take_drop, List.take_of_length_le (by simp)]
/-- append of a string to bytes -/
theorem wpl_str {w : World} {ops : Array Oper} {rest : List Oper} {o : Oper} {a : Act} {Q : Exit → Act → World → Prop} (hgd : o.guard = none) (s x : Operand)
    (ho : o.op = .call { callee := .builtin .append, args := #[s, x], argTypes := #[25, 9] })
    (base : Nat) (A : Option Addr) (c : Nat) (l : List UInt8) (hs : a.eval s = .slice A l.length c) (hown : OwnB w base 5 A c l)
    (sb : ByteArray) (l2 : List UInt8) (hsb : sb = ⟨l2.toArray⟩) (hx : a.eval x = .string sb) (hlen : l.length + l2.length ≤ 1000000000) (hbase : base ≤ w.heap.size)
    (h : ∀ A' c' (m : List UInt8) w', Hid (m = l ++ l2) → OwnB w' base 5 A' c' m → w.grownBy w' (A.map (·.block)) → Below base w w' → wpList Tryz.prog ops Q rest (a.put o.dst (.slice A' m.length c')) w') : wpList Tryz.prog ops Q (o :: rest) a w := by
  subst hsb
  obtain ⟨i0, hi, hz0, hz1, hz2⟩ := info_parts u8_info
  have hsz : (⟨l2.toArray⟩ : ByteArray).size = l2.length := rfl
  have hsc : Lib.strCells ⟨l2.toArray⟩ = bvs l2 := rfl
  refine Lib.wpList_append_own_string (P := Tryz.prog) w hgd s x 25 9 ho base 5 i0 Tryz.underlying25 Tryz.underlying9 hi hz0 hz1 hz2 (.slice A l.length c) l.length (bvs l) hs hown ⟨l2.toArray⟩ hx (by rw [hsz]; simp only [maxLen]; omega) (by rw [hsz]; omega) hbase ?_
  intro v' w' hown' hg _
  rw [hsz, hsc] at hown'
  have hb : Below base w w' := (Below.refl _ _).grown hg hbase (fun k hk => by rw [ownBlock_slice] at hk; exact (hown.lt k hk).1)
  have hform : ∃ A' c', v' = .slice A' (l ++ l2).length c' := by
    rw [List.length_append]
    rcases hown'.2 with ⟨rfl, hn⟩ | ⟨g, cap, _, rfl, _⟩
    · exact ⟨none, 0, by rw [hn]⟩
    · exact ⟨_, _, rfl⟩
  obtain ⟨A', c', rfl⟩ := hform
  rw [ownBlock_slice] at hg
  refine h A' c' (l ++ l2) w' rfl ?_ hg hb
  rw [← List.length_append] at hown'
  simpa [OwnB] using hown'

/-- a block of another type is as it was behind an append -/
theorem Blk.append {w w' : World} {g : Nat} {t e : TypeId} {cs : Array Value} {base size n c : Nat} {A : Option Addr} {xs : List Value} (h : Blk w g t cs) (ho : Own w base e size A n c xs) (hg : w.grownBy w' (A.map (·.block))) (hne : e ≠ t) : Blk w' g t cs := by
  refine (hg.block g h.lt (fun he => ?_)).trans h
  rcases ho.2 with ⟨hv, _⟩ | ⟨g', cap, cur, hv, _, hh, _⟩
  · injection hv with hA
    subst hA
    simp at he
  · injection hv with hA
    subst hA
    simp at he
    subst he
    unfold Blk at h
    rw [h] at hh
    injection hh with hh
    injection hh with _ ht
    exact hne ht.symm
def prevK (ds : List Ce) (k : Nat) : Option Int := if k = 0 then none else ds[k - 1]?.map (·.1)
theorem prevK_succ {ds : List Ce} {k : Nat} (h : k < ds.length) : prevK ds (k + 1) = some ds[k].1 := by
  unfold prevK
  rw [if_neg (by omega)]
  simp [List.getElem?_eq_getElem h]
theorem rgo_at {ds : List Ce} {k : Nat} (h : k < ds.length) (prev : Option Int) (last : List UInt8) : rgo prev last (ds.drop k) = if ds[k].1 = 1 then [0, b1 ds[k].2.length, b1 (cpl ds[k].2 last)] ++ ds[k].2.drop (cpl ds[k].2 last) ++ rgo (some 1) ds[k].2 (ds.drop (k + 1))
    else if prev = some ds[k].1 then rgo (some ds[k].1) last (ds.drop (k + 1)) else [b1 (rowGo ds[k].1 (ds.drop k)), b1 ds[k].1.toNat] ++ rgo (some ds[k].1) last (ds.drop (k + 1)) := by
  rw [List.drop_eq_getElem_cons h, rgo]

end Go.Proofs.YtddmfoldnlafaaaGreatDoor

namespace Go.Proofs.YtddmfoldnlafaaaGreatDoor
open Go.ChangeShapes Go.WideShapes Go.ChangeAt Go.RowKit Go.Deep

section
variable {H : Type} {enc : TypeId × Value → H} {P : Program} {w : World} {base b0 : Nat} {held : Bool} {r : Reach} {t e b : TypeId} {v : Value} {d : DataW H} {p : List MemPlace}
theorem bytes_cell {n : Nat} {y : DataW H × List MemPlace} (ht : P.underlying t = some (.slice e)) (he : P.underlying e = some (.int .u8)) (hC : P.cellsOf e = 1) (h : DataW.trod enc P w base (fun _ => true) held n t [v] = some y) :
    ∃ (A : Option Addr) (c : Nat) (l : List UInt8), v = .slice A l.length c ∧ SlB w A c l := by
  rcases open_ints ht he hC h with ⟨hcs, _⟩ | ⟨x, l, c', zs, hcs, _, hl, hm, hz, _, hcell, hwz⟩
  · simp at hcs
    subst hcs
    exact ⟨none, 0, [], rfl, Sl.none_ _ _⟩
  · simp at hcs
    subst hcs
    simp only [if_true] at hz
    have hs := row_reads hl hm hz hcell
    have hw : ∀ z ∈ zs.take l, (Lit.int .u8 z).wf = true := fun z hz => hwz z (List.mem_of_mem_take hz)
    have hm : (zs.take l).map (Value.int .u8) = bvs ((zs.take l).map fun z => UInt8.ofNat z.toNat) := by
      rw [bvs, List.map_map]
      refine List.map_congr_left fun z hz => ?_
      have hb := bounds_u8 (hw z hz)
      simp only [Function.comp, bv, UInt8.toNat_ofNat']
      congr 1
      omega
    rw [hm] at hs
    have hlen : ((zs.take l).map fun z => UInt8.ofNat z.toNat).length = l := by simp; omega
    refine ⟨some x, c', (zs.take l).map fun z => UInt8.ofNat z.toNat, by rw [hlen], ?_⟩
    show Sl w 1 _ (List.map _ _).length c' _
    rw [hlen]
    exact hs
theorem open_cell {f0 f1 : Field} (hs : P.underlying t = some (.struct #[f0, f1])) (h0 : P.underlying f0.type = some (.int .i64)) (h1 : P.underlying f1.type = some (.slice e)) (he : P.underlying e = some (.int .u8))
    (hCe : P.cellsOf e = 1) (hone : oneCellFields P #[f0, f1] = true) (hC : P.cellsOf t = 2) (hv : Value.okWide P w r b0 t v) (h : DataW.Trod enc P w base (fun _ => true) held t v d p) :
    ∃ (k : Int) (A : Option Addr) (c : Nat) (l : List UInt8), v = cv k A l.length c ∧ I64 k ∧ SlB w A c l := by
  obtain ⟨v0, v1, y0, y1, n, rfl, _, _, g0, g1⟩ := Go.Joins.open_agg2 hs hone hC hv h
  obtain ⟨k, rfl, hk⟩ := int_cell h0 g0
  obtain ⟨A, c, l, rfl, hl⟩ := bytes_cell h1 he hCe g1
  exact ⟨k, A, c, l, rfl, hk, hl⟩
theorem open_cells {f0 f1 : Field} (ht : P.underlying t = some (.slice b)) (hs : P.underlying b = some (.struct #[f0, f1])) (h0 : P.underlying f0.type = some (.int .i64)) (h1 : P.underlying f1.type = some (.slice e)) (he : P.underlying e = some (.int .u8))
    (hCe : P.cellsOf e = 1) (hone : oneCellFields P #[f0, f1] = true) (hC : P.cellsOf b = 2) (hv : Value.okWide P w r b0 t v) (h : DataW.Trod enc P w base (fun _ => true) held t v d p) :
    ∃ (A : Option Addr) (c : Nat) (l : List CeV), v = .slice A l.length c ∧ SlC w A c l ∧ ∀ x ∈ l, I64 x.1 := by
  obtain ⟨A, c, l, rfl, hl, hq⟩ := open_structs cf (fun x => I64 x.1 ∧ SlB w x.2.1 x.2.2.1 x.2.2.2) (fun _ => rfl) ht hs hone hC (by
    intro vs hl hf
    obtain ⟨u0, n0, y0, e0, t0⟩ := hf 0 f0 rfl
    obtain ⟨u1, n1, y1, e1, t1⟩ := hf 1 f1 rfl
    obtain ⟨k, rfl, hk⟩ := int_cell h0 t0
    obtain ⟨A, c, l, rfl, hb⟩ := bytes_cell h1 he hCe t1
    match vs, hl with
    | [x0, x1], _ =>
      simp at e0 e1
      exact ⟨(k, A, c, l), by simp [cf, e0, e1], hk, hb⟩) hv h
  exact ⟨A, c, l, rfl, ⟨hl, fun x hx => (hq x hx).2⟩, fun x hx => (hq x hx).1⟩
end
end Go.Proofs.YtddmfoldnlafaaaGreatDoor

namespace Go.Proofs.YtddmfoldnlafaaaGreatDoor
open Go.ChangeShapes Go.WideShapes Go.ChangeAt Go.RowKit
attribute [local go_sem ↓] Go.wp_at_zero Go.wp_at_succ

theorem rchk_snoc (l : List Ce) (c : Ce) : rchk (l ++ [c]) = if rchk l ≠ 0 then rchk l else cchk c := by
  induction l with
  | nil =>
    by_cases h : cchk c = 0
    · simp [rchk, h]
    · simp [rchk, h]
  | cons x l ih =>
    by_cases h : cchk x = 0
    · simp only [List.cons_append, rchk, h, ne_eq, not_true_eq_false, if_false]
      exact ih
    · simp [rchk, h]
def bad64 (n : Nat) (l : List Ce) : Nat := if 64 < n then 3 else rchk l

theorem rchk_zero : ∀ {l : List Ce}, rchk l = 0 → ∀ c ∈ l, cchk c = 0
  | [], _, c, hc => by simp at hc
  | x :: l, h, c, hc => by
    by_cases hx : cchk x = 0
    · have h2 : rchk l = 0 := by simpa [rchk, hx] using h
      rcases List.mem_cons.mp hc with rfl | hc
      · exact hx
      · exact rchk_zero h2 c hc
    · simp [rchk, hx] at h

theorem rgo_len : ∀ (l : List Ce) (prev : Option Int) (last : List UInt8), (∀ c ∈ l, cchk c = 0) → (rgo prev last l).length ≤ 100 * l.length
  | [], _, _, _ => by rw [rgo]; simp
  | c :: r, prev, last, h => by
    have hc := (cchk_ok (h c (by simp))).2.2.1
    have hr := fun prev last => rgo_len r prev last (fun c hc => h c (by simp [hc]))
    rw [rgo]
    simp only [List.length_cons]
    split
    · have := hr (some 1) c.2
      simp
      omega
    · split
      · have := hr (some c.1) last
        omega
      · have := hr (some c.1) last
        simp
        omega

namespace CellRuns
end CellRuns
end Go.Proofs.YtddmfoldnlafaaaGreatDoor

namespace Go.Proofs.YtddmfoldnlafaaaGreatDoor
open Go.RowKit

/-- a segment: its first address, its cells -/
abbrev Sg := Int × List Ce
/-- an error's number -/
def schk (s : Sg) : Nat := if s.1 < 0 ∨ 1048576 < s.1 then 1 else if 64 < s.2.length then 3 else if 1048576 < s.1 + s.2.length then 1 else rchk s.2
def sjoin (a b : Sg) : Sg × Nat := if schk a ≠ 0 then ((0, []), schk a) else if schk b ≠ 0 then ((0, []), schk b) else if b.1 ≠ a.1 + a.2.length then ((0, []), 13)
  else if schk (a.1, a.2 ++ b.2) ≠ 0 then ((0, []), schk (a.1, a.2 ++ b.2)) else ((a.1, a.2 ++ b.2), 0)
def spart (s : Sg) (f t : Int) : Sg × Nat := if schk s ≠ 0 then ((0, []), schk s) else if f < s.1 ∨ s.1 + s.2.length < t ∨ t < f then ((0, []), 1)
  else ((f, (s.2.drop (f - s.1).toNat).take (t - f).toNat), 0)
theorem schk_ok {s : Sg} (h : schk s = 0) : 0 ≤ s.1 ∧ s.1 ≤ 1048576 ∧ s.2.length ≤ 64 ∧ s.1 + s.2.length ≤ 1048576 ∧ rchk s.2 = 0 := by
  unfold schk at h
  by_cases h1 : s.1 < 0 ∨ 1048576 < s.1
  · rw [if_pos h1] at h; simp at h
  rw [if_neg h1] at h
  by_cases h2 : 64 < s.2.length
  · rw [if_pos h2] at h; simp at h
  rw [if_neg h2] at h
  by_cases h3 : 1048576 < s.1 + s.2.length
  · rw [if_pos h3] at h; simp at h
  rw [if_neg h3] at h
  exact ⟨by omega, by omega, by omega, by omega, h⟩
theorem schk_range {s : Sg} (h : s.1 < 0 ∨ 1048576 < s.1) : schk s = 1 := by unfold schk; rw [if_pos h]
theorem schk_long {s : Sg} (h : ¬ (s.1 < 0 ∨ 1048576 < s.1)) (h2 : 64 < s.2.length) : schk s = 3 := by unfold schk; rw [if_neg h, if_pos h2]
theorem schk_far {s : Sg} (h : ¬ (s.1 < 0 ∨ 1048576 < s.1)) (h2 : ¬ 64 < s.2.length) (h3 : 1048576 < s.1 + s.2.length) : schk s = 1 := by unfold schk; rw [if_neg h, if_neg h2, if_pos h3]
theorem schk_cells {s : Sg} (h : ¬ (s.1 < 0 ∨ 1048576 < s.1)) (h2 : ¬ 64 < s.2.length) (h3 : ¬ 1048576 < s.1 + s.2.length) : schk s = rchk s.2 := by unfold schk; rw [if_neg h, if_neg h2, if_neg h3]
theorem rchk_part {l : List Ce} (h : rchk l = 0) (i n : Nat) : rchk ((l.drop i).take n) = 0 := rchk_ok fun c hc => rchk_zero h c (List.mem_of_mem_drop (List.mem_of_mem_take hc))
end Go.Proofs.YtddmfoldnlafaaaGreatDoor

namespace Go.Proofs.YtddmfoldnlafaaaGreatDoor
open Go.RowKit
attribute [local go_sem ↓] Go.wp_at_zero Go.wp_at_succ

end Go.Proofs.YtddmfoldnlafaaaGreatDoor

namespace Go.Proofs.YtddmfoldnlafaaaGreatDoor
open Go.RowKit
attribute [local go_sem ↓] Go.wp_at_zero Go.wp_at_succ

theorem rchk_next {l : List Ce} {k : Nat} (hk : k < l.length) (hall : ∀ c ∈ l.take k, cchk c = 0) (h0 : cchk l[k] = 0) : ∀ c ∈ l.take (k + 1), cchk c = 0 := fun c hc => by
  rw [List.take_succ_eq_append_getElem hk, List.mem_append] at hc
  rcases hc with hc | hc
  · exact hall c hc
  · simp only [List.mem_singleton] at hc
    rw [hc]; exact h0

end Go.Proofs.YtddmfoldnlafaaaGreatDoor

namespace Go.Proofs.YtddmfoldnlafaaaGreatDoor
open Go.RowKit
attribute [local go_sem ↓] Go.wp_at_zero Go.wp_at_succ

def ssame (a b : Sg) : Bool := decide (a = b)
theorem same_iff {a b : Ce} : same a b = true ↔ a = b := by unfold same; exact decide_eq_true_iff
theorem take_ne {xs ys : List Ce} {k : Nat} (hx : k < xs.length) (hy : k < ys.length) (h : xs[k] ≠ ys[k]) : decide (xs = ys) = false := by
  rw [decide_eq_false_iff_not]
  rintro rfl
  exact h rfl
theorem len_ne {xs ys : List Ce} (h : xs.length ≠ ys.length) : decide (xs = ys) = false := by
  rw [decide_eq_false_iff_not]
  rintro rfl
  exact h rfl
theorem ssame_ne {f f2 : Int} {l m : List Ce} (h : f ≠ f2) : ssame (f, l) (f2, m) = false := by
  unfold ssame
  rw [decide_eq_false_iff_not]
  intro he
  exact h (congrArg Prod.fst he)
theorem ssame_eq {f : Int} {l m : List Ce} : ssame (f, l) (f, m) = decide (l = m) := by
  unfold ssame
  rw [decide_eq_decide]
  exact ⟨fun h => congrArg Prod.snd h, fun h => by rw [h]⟩

end Go.Proofs.YtddmfoldnlafaaaGreatDoor

namespace Go.Proofs.YtddmfoldnlafaaaGreatDoor
open Go.RowKit
attribute [local go_sem ↓] Go.wp_at_zero Go.wp_at_succ

theorem Blk.far2 {w : World} {g g' : Nat} {t : TypeId} {cs : Array Value} (h : Blk w g t cs) (hne : g ≠ g') (u v : Value) : Blk ((w.setCell ⟨g', 0, none⟩ u).setCell ⟨g', 1, none⟩ v) g t cs := (h.far hne u).far hne v
theorem Own.set2 {w : World} {base : Nat} {e : TypeId} {size n c : Nat} {A : Option Addr} {xs : List Value} (h : Own w base e size A n c xs) {g : Nat} (hg : g < base) (u v : Value) : Own ((w.setCell ⟨g, 0, none⟩ u).setCell ⟨g, 1, none⟩ v) base e size A n c xs :=
  ownsRow_setCell_below (a := ⟨g, 1, none⟩) (ownsRow_setCell_below (a := ⟨g, 0, none⟩) h hg u) hg v
theorem gen0 {T R : World → Prop} {W : World} (hT : T W) (k : ∀ W, T W → R W) : R W := k W hT

end Go.Proofs.YtddmfoldnlafaaaGreatDoor

namespace Go.Proofs.YtddmfoldnlafaaaGreatDoor
open Go.RowKit
attribute [local go_sem ↓] Go.wp_at_zero Go.wp_at_succ

theorem one_cf (l : List CeV) : ∀ u ∈ l.flatMap cf, u.oneCell' = true := by
  intro u hu
  simp only [List.mem_flatMap, List.mem_cons, List.not_mem_nil, or_false] at hu
  obtain ⟨x, _, hx⟩ := hu
  rcases hx with rfl | rfl <;> rfl
theorem one_df (l : List Ce) : ∀ u ∈ l.flatMap df, u.oneCell' = true := by
  intro u hu
  simp only [List.mem_flatMap, List.mem_cons, List.not_mem_nil, or_false] at hu
  obtain ⟨x, _, hx⟩ := hu
  rcases hx with rfl | rfl <;> rfl
/-- a row of another type is as it was behind an append -/
theorem Own.other {w w' : World} {base base' : Nat} {e e' : TypeId} {size size' n n' c c' : Nat} {A B : Option Addr} {xs ys : List Value} (h : Own w base' e' size' B n' c' ys) (ho : Own w base e size A n c xs) (hg : w.grownBy w' (A.map (·.block))) (hne : e ≠ e') : Own w' base' e' size' B n' c' ys := by
  obtain ⟨h1, h2⟩ := h
  refine ⟨h1, ?_⟩
  rcases h2 with h2 | ⟨g', cap, cur, hv, hb, hh, r⟩
  · exact Or.inl h2
  · refine Or.inr ⟨g', cap, cur, hv, hb, (hg.block g' (Array.getElem?_eq_some_iff.1 hh).1 (fun he => ?_)).trans hh, r⟩
    rcases ho.2 with ⟨hv2, _⟩ | ⟨g2, cap2, cur2, hv2, _, hh2, _⟩
    · injection hv2 with hA
      subst hA
      simp at he
    · injection hv2 with hA
      subst hA
      simp at he
      subst he
      rw [hh] at hh2
      injection hh2 with hh2
      injection hh2 with _ ht
      exact hne ht.symm
theorem Own.ltB {w : World} {base : Nat} {e : TypeId} {size n c : Nat} {A : Option Addr} {xs : List Value} (h : Own w base e size A n c xs) : ∀ g, A.map (·.block) = some g → base ≤ g ∧ g < w.heap.size := by
  intro g hg
  rcases h.2 with ⟨hv, _⟩ | ⟨g2, cap, cur, hv, hb, hh, _⟩
  · injection hv with hA
    subst hA
    simp at hg
  · injection hv with hA
    subst hA
    simp at hg
    subst hg
    exact ⟨hb, (Array.getElem?_eq_some_iff.1 hh).1⟩
theorem Own.set1 {w : World} {base : Nat} {e : TypeId} {size n c : Nat} {A : Option Addr} {xs : List Value} (h : Own w base e size A n c xs) {g i : Nat} (hg : g < base) (u : Value) : Own (w.setCell ⟨g, i, none⟩ u) base e size A n c xs :=
  ownsRow_setCell_below (a := ⟨g, i, none⟩) h hg u

end Go.Proofs.YtddmfoldnlafaaaGreatDoor
