/- WHAT IT HOLDS: arguments that are parts, manifests, opened to the words of ManK. | WHAT IT HOLDS: arguments that are slices of segments, of lists of cells, acts of a vault, opened to the words of Kit. | WHAT IT HOLDS: a slice of numbers as an argument. | WHAT IT HOLDS: the law VaultKeeps: its state, and words for its walk. | WHAT IT HOLDS: a region that draws its order, one lemma for each set of operations that are done. | WHAT IT HOLDS: the law VaultAgrees: its state, and the cells that it reads. -/
import Derived.Test.YtajfnmohlnkncaaGreatDoorVaultAgreesG29
import Derived.Test.YtajfnmohlnkncaaGreatDoorVaultAgreesG06
import Derived.Test.YtajfnmohlnkncaaGreatDoorVaultAgreesG08
import Derived.Test.YtajfnmohlnkncaaGreatDoorVaultAgreesG03
import Derived.Test.YtajfnmohlnkncaaGreatDoorVaultAgreesG09
import Derived.Test.YtajfnmohlnkncaaGreatDoorVaultAgreesG17
import Derived.Deep.CutBlock
import Derived.Deep.DeepCutAuto
import Derived.Deep.RegionHeld
namespace Go.Proofs.YtajfnmohlnkncaaGreatDoor
section
open Go.ChangeShapes Go.WideShapes Go.ChangeAt Go.RowKit Go.Deep
section
variable {H : Type} {enc : TypeId × Value → H} {P : Program} {w : World} {base b0 : Nat} {held : Bool} {r : Reach} {t e b u : TypeId} {v : Value} {d : DataW H} {p : List MemPlace}
end
abbrev CsV := Option Addr × Nat × List CeV
def csl (x : CsV) : List Value := [.slice x.1 x.2.2.length x.2.1]
theorem csl_len (x : CsV) : (csl x).length = 1 := rfl
def CsOk (w : World) (x : CsV) : Prop := SlC w x.1 x.2.1 x.2.2 ∧ ∀ y ∈ x.2.2, I64 y.1
theorem CsOk.below {w w' : World} {x : CsV} (h : CsOk w x) (hb : Below w.heap.size w w') : CsOk w' x := ⟨h.1.below hb, h.2⟩
def SlCs (w : World) (A : Option Addr) (c : Nat) (l : List CsV) : Prop := Sl w 1 A l.length c (l.flatMap csl) ∧ ∀ x ∈ l, CsOk w x
theorem SlCs.below {w w' : World} {A : Option Addr} {c : Nat} {l : List CsV} (h : SlCs w A c l) (hb : Below w.heap.size w w') : SlCs w' A c l := ⟨h.1.below hb, fun x hx => (h.2 x hx).below hb⟩
section
variable {H : Type} {enc : TypeId × Value → H} {P : Program} {w : World} {base b0 : Nat} {held : Bool} {r : Reach} {t e b z u pp ar : TypeId} {v : Value} {d : DataW H} {p : List MemPlace}
theorem cells_cell {f0 f1 : Field} {n : Nat} {y : DataW H × List MemPlace} (ht : P.underlying t = some (.slice b)) (hb : P.underlying b = some (.struct #[f0, f1])) (h0 : P.underlying f0.type = some (.int .i64)) (h1 : P.underlying f1.type = some (.slice e)) (he : P.underlying e = some (.int .u8))
 (hCe : P.cellsOf e = 1) (hone : oneCellFields P #[f0, f1] = true) (hC : P.cellsOf b = 2) (h : DataW.trod enc P w base (fun _ => true) held n t [v] = some y) : ∃ (A : Option Addr) (c : Nat) (l : List CeV), v = .slice A l.length c ∧ SlC w A c l ∧ ∀ x ∈ l, I64 x.1 := by
 obtain ⟨A, c, l, rfl, hl, hq⟩ := open_structsF cf (fun x => I64 x.1 ∧ SlB w x.2.1 x.2.2.1 x.2.2.2) (fun _ => rfl) ht hb hone hC (by
  intro vs hl hf
  obtain ⟨u0, n0, y0, e0, t0⟩ := hf 0 f0 rfl
  obtain ⟨u1, n1, y1, e1, t1⟩ := hf 1 f1 rfl
  obtain ⟨k, rfl, hk⟩ := int_cell h0 t0
  obtain ⟨A, c, l, rfl, hb⟩ := bytes_cell h1 he hCe t1
  match vs, hl with
  | [x0, x1], _ =>
   simp at e0 e1
   exact ⟨(k, A, c, l), by simp [cf, e0, e1], hk, hb⟩) h
 exact ⟨A, c, l, rfl, ⟨hl, fun x hx => (hq x hx).2⟩, fun x hx => (hq x hx).1⟩
theorem open_cellss {f0 f1 : Field} (hu : P.underlying u = some (.slice t)) (ht : P.underlying t = some (.slice b)) (hb : P.underlying b = some (.struct #[f0, f1])) (h0 : P.underlying f0.type = some (.int .i64)) (h1 : P.underlying f1.type = some (.slice e)) (he : P.underlying e = some (.int .u8))
 (hCe : P.cellsOf e = 1) (hone : oneCellFields P #[f0, f1] = true) (hC : P.cellsOf b = 2) (hCt : P.cellsOf t = 1) (hv : Value.okWide P w r b0 u v) (h : DataW.Trod enc P w base (fun _ => true) held u v d p) :
 ∃ (A : Option Addr) (c : Nat) (l : List CsV), v = .slice A l.length c ∧ SlCs w A c l := by
 obtain ⟨A0, n0, c0, rfl⟩ := okWide_slice hu hv
 obtain ⟨fuel, hf⟩ := h
 obtain ⟨A, c, l, hvv, hl, hq⟩ := open_sliceH csl (CsOk w) csl_len (by decide) hu hCt (fun cs' nn y hy => by
  obtain ⟨x, rfl⟩ : ∃ x, cs' = [x] := by
   rcases open_slice ht hy with ⟨hc, -⟩ | ⟨a, len, cap, m, nn, D, Pl, hc, -⟩
   · exact ⟨_, hc⟩
   · exact ⟨_, hc⟩
  obtain ⟨A, c, l, rfl, hS, hI⟩ := cells_cell ht hb h0 h1 he hCe hone hC hy
  exact ⟨(A, c, l), rfl, hS, hI⟩) hf
 exact ⟨A, c, l, hvv, hl, hq⟩
end
end
section
open Go.RowKit Go.Deep
section
variable {H : Type} {enc : TypeId × Value → H} {P : Program} {w : World} {base b0 : Nat} {held : Bool} {r : Reach} {t e : TypeId} {v : Value} {d : DataW H} {p : List MemPlace}
end
end
section
open Go.RowKit Go.Shelf
attribute [local go_sem ↓] Go.wp_at_zero Go.wp_at_succ
section
variable {w W W' : World} {S : Nat → Prop} {L : BL} {G : List (Option Nat)}
end
theorem NewM.more {w : World} {base base' : Nat} {A : Option Addr} {c : Nat} {m : List MfV} (h : NewM w base A c m) (hb : base' ≤ base) : NewM w base' A c m := ⟨h.1.more hb, fun x hx => ⟨(h.2 x hx).1.more hb, (h.2 x hx).2⟩⟩
end
section
open Go.RowKit Go.Shelf
def putL (vs : List (Tmp × Value)) (a : Act) : Act := vs.foldl (fun a p => a.put (some p.1) p.2) a
def lstL (js : List Nat) (l : Array Bool) : Array Bool := js.foldl (fun l j => l.setIfInBounds j true) l
section
variable {P : Program} {ops : Array Oper} {Q : Exit → Act → World → Prop} {md : Region.Mode} {S : World → Prop}
theorem dagCut {fuel : Nat} {listed : Array Bool} {a : Act} {w : World} (T : (List (Tmp × Value) → World → Prop) → Prop) (n : Nat) (js : List Nat)
 (h1 : T fun vs W => wpAnyH P md ops Q S n (lstL js listed) (putL vs a) W) (h2 : Hid (T fun vs W => wpAnyH P md ops Q S n (lstL js listed) (putL vs a) W) → wpAnyH P md ops Q S fuel listed a w) : wpAnyH P md ops Q S fuel listed a w := h2 h1
theorem dagUse {n : Nat} {l1 l2 : Array Bool} {a : Act} {w : World} (h : wpAnyH P md ops Q S n l1 a w) (hl : l1 = l2) : wpAnyH P md ops Q S n l2 a w := hl ▸ h
end
theorem rem100 (r : Int) : ∃ m : Int, (IntKind.u64.wrap r).tmod 100 = m ∧ 0 ≤ m ∧ m < 100 ∧ IntKind.u64.wrap m = m ∧ IntKind.i64.wrap m = m := by
 have h : IntKind.u64.wrap r = r % 18446744073709551616 := rfl
 refine ⟨_, rfl, ?_⟩
 rw [h, Int.tmod_eq_emod_of_nonneg (by omega)]
 have h1 : 0 ≤ r % 18446744073709551616 % 100 := by omega
 have h2 : r % 18446744073709551616 % 100 < 100 := by omega
 generalize r % 18446744073709551616 % 100 = z at *
 refine ⟨h1, h2, ?_, ?_⟩
 · show z % 18446744073709551616 = z
   omega
 · rw [IntKind.wrap_i64]
   omega
structure AgS (w W : World) (S : Nat → Prop) (g gv : Nat) (d : Dk Sv) (l : List Mf) (done : List Ce) (i : Nat) : Prop where
 mo : Mo w W S [] []
 vs : Vs W S g gv d l
 kv : Kv Sv.l 0 d l done
 rm : Rm svl d (2 * l.length) (70000 * l.length)
 fk : Fok d
 ll : l.length ≤ i
 dl : done.length ≤ 64 * i
 mr : 0 ≤ cmark l ∧ cmark l ≤ 99
theorem AgS.few9 {w W : World} {S : Nat → Prop} {g gv : Nat} {d : Dk Sv} {l : List Mf} {done : List Ce} {i : Nat} (h : AgS w W S g gv d l done i) : d.sure.length + d.pend.length ≤ 2 * i := by
 have h1 := h.rm.fw
 have h2 := h.kv.toUpd.pn
 have h3 := h.ll
 rw [h2]
 simp
 omega
theorem Vs.agree {W : World} {S : Nat → Prop} {g gv : Nat} {d : Dk Sv} {l : List Mf} {done : List Ce} (hV : Vs W S g gv d l) (h : Kv Sv.l 0 d l done) (hd : done.length ≤ 1000) {a : Int} (h0 : 0 ≤ a) (h1 : a < done.length) :
 ∃ (n k : Nat) (f : Int) (cs : List Ce) (ce : Ce), cfind a 0 l = some (n, k) ∧ vget Sv.l ⟨d, l⟩ n k = ((f, cs), 0) ∧ I64 f ∧ cs.length ≤ 1000 ∧ (∀ c ∈ cs, c.2.length ≤ 64) ∧ sat (f, cs) a = (ce, true) ∧ vread Sv.l ⟨d, l⟩ a = (if a < cmark l then (3, []) else ce, 0) := by
 have hl : l ≠ [] := fun e => by
  have := h.ne e
  rw [this] at h1
  simp at h1
  omega
 obtain ⟨n, k, hc⟩ := chain_in (x := a) h.ck (by rw [h.be hl]; omega) (by rw [h.en hl]; omega) hl
 obtain ⟨p, cs, g1, g2, g3, g4, g5⟩ := h.get hc
 obtain ⟨hn, hk, hph, hvp⟩ := cfind_part hc
 obtain ⟨q, gs, lv, E, cap, -, -, hM, -⟩ := hV
 have hf := vget_fit hvp (Nat.le_trans (hM.st.dsk.short (label n k)) (by omega)) (by rw [g1])
 rw [g1] at hf
 obtain ⟨-, -, hf3⟩ := hf
 have hcl : cs.length ≤ 1000 := by
  have h6 := g5 (cs.length - 1) (by omega)
  have h7 := (List.getElem?_eq_some_iff.1 h6).1
  omega
 have hs : sat (p.1, cs) a = (cs.getD (a - p.1).toNat (0, []), true) := by
  unfold sat
  rw [if_neg (by dsimp only; omega)]
 refine ⟨n, k, p.1, cs, cs.getD (a - p.1).toNat (0, []), hc, g1, by unfold I64; omega, hcl, hf3, hs, ?_⟩
 unfold vread
 dsimp only
 rw [hc]
 dsimp only
 by_cases hm : a < cmark l
 · rw [if_pos hm, if_pos hm]
 · rw [if_neg hm, if_neg hm, g1, if_neg (by simp)]
theorem pick_max (a m : Int) (ha : 0 ≤ a ∧ a ≤ 99) (hm : 0 ≤ m ∧ m < 100) : ∃ t : Int, max a m = t ∧ a ≤ t ∧ 0 ≤ t ∧ t ≤ 99 := ⟨_, rfl, by omega⟩
theorem step_storeM2 {ops : Array Oper} {o : Oper} {a : Act} {w : World} {K : Act → World → Prop} {Q : Exit → Act → World → Prop} {X : Prop} (hgd : Region.wanted o (yielded ops a.tmps) = true) (x y : Operand) (ho : o.op = .store 46 x y)
 (g : Nat) (old p : MfV) (hx : a.eval x = .pointer (some ⟨g, 0, none⟩)) (hy : a.eval y = .agg (mva p)) (hB : Blk w g 46 (mva old))
 (h : K (a.put o.dst undef) (w.setRow g (mva p))) : if Region.wanted o (yielded ops a.tmps) = true then Oper.wp Tryz.prog o a w K Q else X := by
 rw [if_pos hgd]
 exact wp_store_row 46 x y ho g (mva p) hx hy 46 (mva old) hB (by rw [mva_size]; kernel_rfl) (by rw [mva_size, mva_size]) (mva_all p) h
end
end Go.Proofs.YtajfnmohlnkncaaGreatDoor
