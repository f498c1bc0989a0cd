/- WHAT IT HOLDS: arguments that are parts, manifests, opened to the words of ManK. | WHAT IT HOLDS: arguments that are slices of segments, of lists of cells, acts of a vault, opened to the words of Kit. | WHAT IT HOLDS: a slice of numbers as an argument. | WHAT IT HOLDS: the law VaultKeeps: its state, and words for its walk. | WHAT IT HOLDS: a region that draws its order, one lemma for each set of operations that are done. -/
import Derived.Test.YtajfnmohlnkncaaGreatDoorVaultKeepsG30
import Derived.Test.YtajfnmohlnkncaaGreatDoorVaultKeepsG06
import Derived.Test.YtajfnmohlnkncaaGreatDoorVaultKeepsG08
import Derived.Test.YtajfnmohlnkncaaGreatDoorVaultKeepsG03
import Derived.Test.YtajfnmohlnkncaaGreatDoorVaultKeepsG09
import Derived.Test.YtajfnmohlnkncaaGreatDoorVaultKeepsG18
import Derived.Deep.CutBlock
import Derived.Deep.DeepCutAuto
import Derived.Deep.RegionHeld
namespace Go.Proofs.YtajfnmohlnkncaaGreatDoor
section
open Go.ChangeShapes Go.WideShapes Go.ChangeAt Go.RowKit Go.Deep
section
variable {H : Type} {enc : TypeId × Value → H} {P : Program} {w : World} {base b0 : Nat} {held : Bool} {r : Reach} {t e b u : TypeId} {v : Value} {d : DataW H} {p : List MemPlace}
end
abbrev SgV := Int × Option Addr × Nat × List CeV
def sgl (x : SgV) : List Value := [.int .i64 x.1, .slice x.2.1 x.2.2.2.length x.2.2.1]
theorem sgl_len (x : SgV) : (sgl x).length = 2 := rfl
def SgOk (w : World) (x : SgV) : Prop := SlC w x.2.1 x.2.2.1 x.2.2.2 ∧ (∀ y ∈ x.2.2.2, I64 y.1) ∧ I64 x.1
theorem SgOk.below {w w' : World} {x : SgV} (h : SgOk w x) (hb : Below w.heap.size w w') : SgOk w' x := ⟨h.1.below hb, h.2⟩
def SlSg (w : World) (A : Option Addr) (c : Nat) (l : List SgV) : Prop := Sl w 2 A l.length c (l.flatMap sgl) ∧ ∀ x ∈ l, SgOk w x
theorem SlSg.below {w w' : World} {A : Option Addr} {c : Nat} {l : List SgV} (h : SlSg w A c l) (hb : Below w.heap.size w w') : SlSg w' A c l := ⟨h.1.below hb, fun x hx => (h.2 x hx).below hb⟩
section
variable {H : Type} {enc : TypeId × Value → H} {P : Program} {w : World} {base b0 : Nat} {held : Bool} {r : Reach} {t e b z u pp ar : TypeId} {v : Value} {d : DataW H} {p : List MemPlace}
theorem cells_cell {f0 f1 : Field} {n : Nat} {y : DataW H × List MemPlace} (ht : P.underlying t = some (.slice b)) (hb : P.underlying b = some (.struct #[f0, f1])) (h0 : P.underlying f0.type = some (.int .i64)) (h1 : P.underlying f1.type = some (.slice e)) (he : P.underlying e = some (.int .u8))
 (hCe : P.cellsOf e = 1) (hone : oneCellFields P #[f0, f1] = true) (hC : P.cellsOf b = 2) (h : DataW.trod enc P w base (fun _ => true) held n t [v] = some y) : ∃ (A : Option Addr) (c : Nat) (l : List CeV), v = .slice A l.length c ∧ SlC w A c l ∧ ∀ x ∈ l, I64 x.1 := by
 obtain ⟨A, c, l, rfl, hl, hq⟩ := open_structsF cf (fun x => I64 x.1 ∧ SlB w x.2.1 x.2.2.1 x.2.2.2) (fun _ => rfl) ht hb hone hC (by
  intro vs hl hf
  obtain ⟨u0, n0, y0, e0, t0⟩ := hf 0 f0 rfl
  obtain ⟨u1, n1, y1, e1, t1⟩ := hf 1 f1 rfl
  obtain ⟨k, rfl, hk⟩ := int_cell h0 t0
  obtain ⟨A, c, l, rfl, hb⟩ := bytes_cell h1 he hCe t1
  match vs, hl with
  | [x0, x1], _ =>
   simp at e0 e1
   exact ⟨(k, A, c, l), by simp [cf, e0, e1], hk, hb⟩) h
 exact ⟨A, c, l, rfl, ⟨hl, fun x hx => (hq x hx).2⟩, fun x hx => (hq x hx).1⟩
theorem open_sg {g0 g1 f0 f1 : Field} (hs : P.underlying t = some (.struct #[g0, g1])) (hg0 : P.underlying g0.type = some (.int .i64)) (hg1 : P.underlying g1.type = some (.slice b)) (hb : P.underlying b = some (.struct #[f0, f1])) (h0 : P.underlying f0.type = some (.int .i64)) (h1 : P.underlying f1.type = some (.slice e)) (he : P.underlying e = some (.int .u8))
 (hCe : P.cellsOf e = 1) (hone : oneCellFields P #[f0, f1] = true) (hC : P.cellsOf b = 2) (hone2 : oneCellFields P #[g0, g1] = true) (hC2 : P.cellsOf t = 2)
 (cs : List Value) (fuel : Nat) (y : DataW H × List MemPlace) (h : DataW.trod enc P w base (fun _ => true) held fuel t cs = some y) : ∃ x : SgV, sgl x = cs ∧ SgOk w x := by
 obtain ⟨xs, n, _, _, hl, hxl, hf⟩ := DataW.trod_struct hs h
 rw [hC2] at hl
 have q0 := hf 0 g0 rfl
 have q1 := hf 1 g1 rfl
 obtain ⟨o0, k0⟩ := hone_of hone2 0 g0 rfl
 obtain ⟨o1, k1⟩ := hone_of hone2 1 g1 rfl
 have hxl2 : xs.length = 2 := hxl
 rw [List.getElem?_eq_getElem (by omega)] at q0 q1
 match cs, hl with
 | [c0, c1], _ =>
  simp only [o0, k0, List.drop_zero, List.take_succ_cons, List.take_zero] at q0
  simp only [o1, k1, List.drop_succ_cons, List.drop_zero, List.take_succ_cons, List.take_zero] at q1
  obtain ⟨k, rfl, hk⟩ := int_cell hg0 q0
  obtain ⟨A, c, l, rfl, hS, hI⟩ := cells_cell hg1 hb h0 h1 he hCe hone hC q1
  exact ⟨(k, A, c, l), rfl, hS, hI, hk⟩
theorem open_segs {g0 g1 f0 f1 : Field} (hu : P.underlying u = some (.slice t)) (hs : P.underlying t = some (.struct #[g0, g1])) (hg0 : P.underlying g0.type = some (.int .i64)) (hg1 : P.underlying g1.type = some (.slice b)) (hb : P.underlying b = some (.struct #[f0, f1])) (h0 : P.underlying f0.type = some (.int .i64)) (h1 : P.underlying f1.type = some (.slice e)) (he : P.underlying e = some (.int .u8))
 (hCe : P.cellsOf e = 1) (hone : oneCellFields P #[f0, f1] = true) (hC : P.cellsOf b = 2) (hone2 : oneCellFields P #[g0, g1] = true) (hC2 : P.cellsOf t = 2) (hv : Value.okWide P w r b0 u v) (h : DataW.Trod enc P w base (fun _ => true) held u v d p) :
 ∃ (A : Option Addr) (c : Nat) (l : List SgV), v = .slice A l.length c ∧ SlSg w A c l := by
 obtain ⟨A0, n0, c0, rfl⟩ := okWide_slice hu hv
 obtain ⟨fuel, hf⟩ := h
 obtain ⟨A, c, l, hvv, hl, hq⟩ := open_sliceH sgl (SgOk w) sgl_len (by decide) hu hC2 (fun cs' nn y hy => open_sg hs hg0 hg1 hb h0 h1 he hCe hone hC hone2 hC2 cs' nn y hy) hf
 exact ⟨A, c, l, hvv, hl, hq⟩
end
end
section
open Go.RowKit Go.Deep
section
variable {H : Type} {enc : TypeId × Value → H} {P : Program} {w : World} {base b0 : Nat} {held : Bool} {r : Reach} {t e : TypeId} {v : Value} {d : DataW H} {p : List MemPlace}
theorem open_intsR (ht : P.underlying t = some (.slice e)) (he : P.underlying e = some (.int .i64)) (hC : P.cellsOf e = 1) (hv : Value.okWide P w r b0 t v) (h : DataW.Trod enc P w base (fun _ => true) held t v d p) :
 ∃ (A : Option Addr) (c : Nat) (l : List Int), v = .slice A l.length c ∧ Sl w 1 A l.length c (l.map (Value.int .i64)) := by
 obtain ⟨A, n, c, zs, rfl, hs, hl, hw⟩ := open_row ht he hC hv h
 exact ⟨A, c, zs, by rw [hl], by rw [hl]; exact hs⟩
end
end
section
open Go.RowKit Go.Shelf
attribute [local go_sem ↓] Go.wp_at_zero Go.wp_at_succ
theorem wpl_cellsP {w : World} {ops : Array Oper} {rest : List Oper} {o : Oper} {a : Act} {Q : Exit → Act → World → Prop} (hw : Region.wanted o (yielded ops a.tmps) = true) (s x : Operand)
 (ho : o.op = .call { callee := .builtin .append, args := #[s, x], argTypes := #[32, 32] })
 (base : Nat) (A : Option Addr) (c : Nat) (l : List CeV) (hs : a.eval s = .slice A l.length c) (hown : Own w base 54 2 A l.length c (l.flatMap cf))
 (A2 : Option Addr) (c2 n2 : Nat) (l2 : List CeV) (hn2 : n2 = l2.length) (hx : a.eval x = .slice A2 n2 c2) (hr : Sl w 2 A2 l2.length c2 (l2.flatMap cf)) (hlen : l.length + l2.length ≤ 1000000000) (hbase : base ≤ w.heap.size)
 (h : ∀ A' c' (m : List CeV) w', Hid (m = l ++ l2) → Own w' base 54 2 A' m.length c' (m.flatMap cf) → w.grownBy w' (A.map (·.block)) → (A'.map (·.block) = A.map (·.block) ∨ A'.map (·.block) = some w.heap.size) → wpList Tryz.prog ops Q rest (a.put o.dst (.slice A' m.length c')) w') :
 wpList Tryz.prog ops Q (o :: rest) a w := wpList_step fun _ hK => by
 subst hn2
 obtain ⟨i0, hi, hz0, hz1, hz2⟩ := info_parts cell_info
 refine step_append hw s x 32 ho base 54 i0 _ 2 32 Tryz.underlying32 hi hz0 hz1 hz2 rfl (by decide) A l.length c (l.flatMap cf) hs hown A2 l2.length c2 (l2.flatMap cf) hx hr (one_cf l2) (by omega) (by simp only [maxLen]; omega) hbase ?_
 intro A' c' w' hap
 rw [← List.length_append]
 refine hK _ _ (h A' c' (l ++ l2) w' rfl ?_ hap.grown hap.place)
 have := hap.own
 simpa using this
section
variable {w W W' : World} {S : Nat → Prop} {L : BL} {G : List (Option Nat)}
theorem Mo.grow {k k' : Option Nat} (h : Mo w W S L (k :: G)) (hg : W.grownBy W' k) (hk : ∀ g, k = some g → w.heap.size ≤ g) (hk' : k' = k ∨ k' = some W.heap.size) (hlt : ∀ g, k' = some g → g < W'.heap.size) : Mo w W' S L (k' :: G) :=
 ⟨h.mm.grow hg hk hk' hlt, h.kin.more hg.size, h.off, fun g hgm hS => by
  rcases List.mem_cons.1 hgm with e | hgm
  · rcases hk' with e2 | e2
    · exact h.offG g (by rw [e, e2]; exact .head _) hS
    · rw [e2] at e
      injection e with e
      have := (h.kin g hS).2
      omega
  · exact h.offG g (.tail _ hgm) hS⟩
theorem Vs.grown {g gv : Nat} {d : Dk Sv} {l : List Mf} {k : Option Nat} (h : Vs W S g gv d l) (hg : W.grownBy W' k) (hk : ∀ b, k = some b → ¬ S b) : Vs W' S g gv d l :=
 h.apart hg.size fun i hlt hi => hg.block i hlt fun e => hk i e.symm hi
end
theorem rem12 (r : Int) : ∃ m : Int, (IntKind.u64.wrap r).tmod 12 = m ∧ 0 ≤ m ∧ m < 12 ∧ IntKind.u64.wrap m = m ∧ IntKind.i64.wrap m = m := by
 have h : IntKind.u64.wrap r = r % 18446744073709551616 := rfl
 refine ⟨_, rfl, ?_⟩
 rw [h, Int.tmod_eq_emod_of_nonneg (by omega)]
 have h1 : 0 ≤ r % 18446744073709551616 % 12 := by omega
 have h2 : r % 18446744073709551616 % 12 < 12 := by omega
 generalize r % 18446744073709551616 % 12 = z at *
 refine ⟨h1, h2, ?_, ?_⟩
 · show z % 18446744073709551616 = z
   omega
 · rw [IntKind.wrap_i64]
   omega
theorem NewM.more {w : World} {base base' : Nat} {A : Option Addr} {c : Nat} {m : List MfV} (h : NewM w base A c m) (hb : base' ≤ base) : NewM w base' A c m := ⟨h.1.more hb, fun x hx => ⟨(h.2 x hx).1.more hb, (h.2 x hx).2⟩⟩
structure KpS (w W : World) (S : Nat → Prop) (g gv : Nat) (d : Dk Sv) (l : List Mf) (A : Option Addr) (c : Nat) (ds : List CeV) (i : Nat) : Prop where
 mo : Mo w W S [] [A.map (·.block)]
 vs : Vs W S g gv d l
 kv : Kv Sv.l 0 d l (ds.map ceOf)
 fk : Fok d
 ln : d.sure.length + d.pend.length ≤ 8 * i
 ll : l.length ≤ i
 dl : ds.length ≤ 64 * i
 tm : cmark l = 0
 row : Own W w.heap.size 54 2 A ds.length c (ds.flatMap cf)
 rd : ∀ x ∈ ds, SlB w x.2.1 x.2.2.1 x.2.2.2
theorem Kv.risen {d0 d2 : Dk Sv} {S : Nat → Prop} {W : World} {g : Nat} (ho : sOpen Sv.nil d0 = (d2, 0)) (h : Ds W S g (vopen Sv.nil Sv.l d0).1.d) : Ris d2.sure := by
 obtain ⟨q, -, hD, -⟩ := h
 have e : (vopen Sv.nil Sv.l d0).1.d = d2 := by
  unfold vopen
  rw [ho]
  rfl
 rw [e] at hD
 exact hD.ris
end
section
open Go.RowKit Go.Shelf
def putL (vs : List (Tmp × Value)) (a : Act) : Act := vs.foldl (fun a p => a.put (some p.1) p.2) a
def lstL (js : List Nat) (l : Array Bool) : Array Bool := js.foldl (fun l j => l.setIfInBounds j true) l
section
variable {P : Program} {ops : Array Oper} {Q : Exit → Act → World → Prop} {md : Region.Mode} {S : World → Prop}
theorem dagCut {fuel : Nat} {listed : Array Bool} {a : Act} {w : World} (T : (List (Tmp × Value) → World → Prop) → Prop) (n : Nat) (js : List Nat)
 (h1 : T fun vs W => wpAnyH P md ops Q S n (lstL js listed) (putL vs a) W) (h2 : Hid (T fun vs W => wpAnyH P md ops Q S n (lstL js listed) (putL vs a) W) → wpAnyH P md ops Q S fuel listed a w) : wpAnyH P md ops Q S fuel listed a w := h2 h1
theorem dagUse {n : Nat} {l1 l2 : Array Bool} {a : Act} {w : World} (h : wpAnyH P md ops Q S n l1 a w) (hl : l1 = l2) : wpAnyH P md ops Q S n l2 a w := hl ▸ h
end
end
end Go.Proofs.YtajfnmohlnkncaaGreatDoor
