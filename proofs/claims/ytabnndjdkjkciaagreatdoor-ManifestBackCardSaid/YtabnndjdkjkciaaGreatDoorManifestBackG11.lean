/- WHAT IT HOLDS: copy of elements of several cells, plainly. | WHAT IT HOLDS: the cursor's taker, walked: an address. A part's steps. -/
import Derived.Test.YtabnndjdkjkciaaGreatDoorManifestBackG07
import Derived.Laws.CopyOwn
import Derived.Test.YtabnndjdkjkciaaGreatDoorManifestBackG10
import Derived.Test.YtabnndjdkjkciaaGreatDoorManifestBackG05
namespace Go.Proofs.YtabnndjdkjkciaaGreatDoor
open Go.RowKit

theorem run_copy_rowK {P : Program} (w : World) (dT sT ty elem : TypeId) (k : Nat) (g o dLen dCap : Nat) (a : Addr) (sLen sCap : Nat) (cur : Array Value) (t : TypeId) (cs : List Value)
    (hu : P.underlying dT = some (.slice elem)) (hs : (P.info? elem).map (·.size) = some k)
    (hg : w.heap[g]? = some (.cells cur t (0, 0))) (hn : cs.length = Nat.min sLen dLen * k)
    (hsrc : ∀ j v, cs[j]? = some v → w.cell? (a.add j) = some v) (hfit : o + cs.length ≤ cur.size) (h1 : ∀ v ∈ cs, v.oneCell' = true) :
    (Builtin.copy_ #[dT, sT] ty #[.slice (some ⟨g, o, none⟩) dLen dCap, .slice (some a) sLen sCap]).run P w =
      .ok (goInt (Nat.min sLen dLen)) (w.setRow g (cur.toList.take o ++ cs ++ cur.toList.drop (o + cs.length)).toArray) := by
  have hl := run_loadCells_list (P := P) w a cs hsrc
  have hst := run_storeCells_at P g o t cs 0 cur w hg (by simpa using hfit) h1
  cases hq : P.info? elem with
  | none => simp [hq] at hs
  | some i =>
    have hi : i.size = k := by simpa [hq] using hs
    simp [Builtin.copy_, run_underlying hu, Builtin.lenOf, Builtin.firstCells, sizeOf, typeInfo, hq, hi, ← hn, hl, hst]
theorem wpl_copyK {P : Program} {w : World} {ops : Array Oper} {rest : List Oper} {o : Oper} {a : Act} {Q : Exit → Act → World → Prop} (hgd : o.guard = none) (d s : Operand) (dT sT : TypeId)
    (ho : o.op = .call { callee := .builtin .copy, args := #[d, s], argTypes := #[dT, sT] }) (elem : TypeId) (k : Nat) (hu : P.underlying dT = some (.slice elem)) (hsz : (P.info? elem).map (·.size) = some k)
    (g off dLen dCap : Nat) (ad : Addr) (sLen sCap : Nat) (hd : a.eval d = .slice (some ⟨g, off, none⟩) dLen dCap) (hs : a.eval s = .slice (some ad) sLen sCap)
    (cur : List Value) (t : TypeId) (hg : w.heap[g]? = some (.cells cur.toArray t (0, 0))) (cs : List Value) (hn : cs.length = Nat.min sLen dLen * k)
    (hsrc : ∀ j v, cs[j]? = some v → w.cell? (ad.add j) = some v) (hfit : off + cs.length ≤ cur.length) (h1 : ∀ v ∈ cs, v.oneCell' = true) (B : Nat) (w0 : World) (hb : Below B w0 w) (hBg : B ≤ g)
    (h : ∀ w', Hid (w'.heap[g]? = some (.cells (splice cur off cs).toArray t (0, 0))) → Below B w0 w' → wpList P ops Q rest (a.put o.dst (goInt (Nat.min sLen dLen))) w') : wpList P ops Q (o :: rest) a w := by
  refine wpList_plain hgd fun K hK => ?_
  have hrun := run_copy_rowK (P := P) w dT sT o.type elem k g off dLen dCap ad sLen sCap cur.toArray t cs hu hsz hg hn hsrc (by simpa using hfit) h1
  unfold Oper.wp
  simp [execOp, ho, resolve, invoke, builtin, hd, hs, hrun, Result.andThen]
  exact hK _ _ (h _ (show _ = _ by simpa [splice] using setRow_heap w g _ _ t _ hg) (below_setRow hb hBg _))
theorem step_copyK {P : Program} {ops : Array Oper} {o : Oper} {a : Act} {w : World} {K : Act → World → Prop} {Q : Exit → Act → World → Prop} {E : Prop} (hgd : o.guard = none) (d s : Operand) (dT sT : TypeId)
    (ho : o.op = .call { callee := .builtin .copy, args := #[d, s], argTypes := #[dT, sT] }) (elem : TypeId) (k : Nat) (hu : P.underlying dT = some (.slice elem)) (hsz : (P.info? elem).map (·.size) = some k)
    (g off dLen dCap : Nat) (ad : Addr) (sLen sCap : Nat) (hd : a.eval d = .slice (some ⟨g, off, none⟩) dLen dCap) (hs : a.eval s = .slice (some ad) sLen sCap)
    (cur : List Value) (t : TypeId) (hg : w.heap[g]? = some (.cells cur.toArray t (0, 0))) (cs : List Value) (q : Nat) (hq : Nat.min sLen dLen = q) (hn : cs.length = q * k)
    (hsrc : ∀ j v, cs[j]? = some v → w.cell? (ad.add j) = some v) (hfit : off + cs.length ≤ cur.length) (h1 : ∀ v ∈ cs, v.oneCell' = true) (B : Nat) (w0 : World) (hb : Below B w0 w) (hBg : B ≤ g)
    (h : ∀ w', Hid (w'.heap[g]? = some (.cells (splice cur off cs).toArray t (0, 0))) → Below B w0 w' → K (a.put o.dst (goInt q)) w') :
    if Region.wanted o (yielded ops a.tmps) = true then Oper.wp P o a w K Q else E := by
  subst hq
  have hw : Region.wanted o (yielded ops a.tmps) = true := by simp [Region.wanted, hgd]
  rw [if_pos hw]
  have hrun := run_copy_rowK (P := P) w dT sT o.type elem k g off dLen dCap ad sLen sCap cur.toArray t cs hu hsz hg hn hsrc (by simpa using hfit) h1
  unfold Oper.wp
  simp [execOp, ho, resolve, invoke, builtin, hd, hs, hrun, Result.andThen]
  exact h _ (show _ = _ by simpa [splice] using setRow_heap w g _ _ t _ hg) (below_setRow hb hBg _)
end Go.Proofs.YtabnndjdkjkciaaGreatDoor

namespace Go.Proofs.YtabnndjdkjkciaaGreatDoor
open Go.RowKit
attribute [local go_sem ↓] Go.wp_at_zero Go.wp_at_succ

/-- a part that is stored into a block of its own -/
theorem step_storeP {ops : Array Oper} {o : Oper} {a : Act} {w : World} {K : Act → World → Prop} {Q : Exit → Act → World → Prop} {X : Prop} (hgd : Region.wanted o (yielded ops a.tmps) = true) (x y : Operand) (ho : o.op = .store 28 x y)
    (g : Nat) (old p : Pt5) (hx : a.eval x = .pointer (some ⟨g, 0, none⟩)) (hy : a.eval y = .agg (pta p)) (hB : Blk w g 28 (pta old))
    (h : K (a.put o.dst undef) (w.setRow g (pta p))) : if Region.wanted o (yielded ops a.tmps) = true then Oper.wp Tryz.prog o a w K Q else X := by
  rw [if_pos hgd]
  exact wp_store_row 28 x y ho g (pta p) hx hy 28 (pta old) hB (by rw [pta_size]; kernel_rfl) (by rw [pta_size, pta_size]) (pta_all p) h
theorem Blk.row {w : World} {g : Nat} {t : TypeId} {old cs : Array Value} (h : Blk w g t old) : Blk (w.setRow g cs) g t cs := setRow_heap w g old cs t (0, 0) h
theorem Blk.rowFar {w : World} {g k : Nat} {t : TypeId} {cs : Array Value} (h : Blk w k t cs) (hk : k ≠ g) (c2 : Array Value) : Blk (w.setRow g c2) k t cs := (setRow_other w g k c2 hk).trans h
theorem IsR.row {w : World} {g B gc : Nat} {s : List UInt8 × Nat} (h : IsR w g B s) (h1 : g < gc) (h2 : B ≤ gc) (cs : Array Value) : IsR (w.setRow gc cs) g B s := h.apart (C := gc) h1 h2 (below_setRow (Below.refl _ _) (Nat.le_refl gc) cs)
section
variable {w W W' : World} {g gc B : Nat} {p : Pt5}
end
theorem run_copy_none {P : Program} (w : World) (dT sT ty elem : TypeId) (k : Nat) (d : Option Addr) (dLen dCap sCap : Nat) (hu : P.underlying dT = some (.slice elem)) (hs : (P.info? elem).map (·.size) = some k) :
    (Builtin.copy_ #[dT, sT] ty #[.slice d dLen dCap, .slice none 0 sCap]).run P w = .ok (goInt 0) w := by
  cases hq : P.info? elem with
  | none => simp [hq] at hs
  | some i => cases d <;> simp [Builtin.copy_, run_underlying hu, Builtin.lenOf, Builtin.firstCells, sizeOf, typeInfo, hq, loadCells, storeCells]
theorem splice_nil (l : List Value) (k : Nat) : splice l k [] = l := by simp [splice]
/-- a part out of a reader -/
def rDg (s : List UInt8 × Nat) : Dg × (List UInt8 × Nat) := (if h : (rFixed 32 s).1.length = 32 then ⟨(rFixed 32 s).1, h⟩ else dg0, (rFixed 32 s).2)
def rPart (f : Int) (s : List UInt8 × Nat) : Pt5 × (List UInt8 × Nat) := ((f, ((rWithin 64 s).1 : Nat), ((rWithin 65536 (rWithin 64 s).2).1 : Nat), (rDg (rWithin 65536 (rWithin 64 s).2).2).1), (rDg (rWithin 65536 (rWithin 64 s).2).2).2)
theorem rDg_eq {m : List UInt8} {s : List UInt8 × Nat} (h : m = (rFixed 32 s).1) : (if h : m.length = 32 then (⟨m, h⟩ : Dg) else dg0) = (rDg s).1 := by subst h; rfl
theorem rFixed32 (s : List UInt8 × Nat) : (rFixed 32 s).1.length = 0 ∨ (rFixed 32 s).1.length = 32 := by
  unfold rFixed
  split
  · exact .inl rfl
  · split
    · exact .inl rfl
    · right
      simp only [List.length_take]
      omega
theorem Fixed_s {g B : Nat} {s : List UInt8 × Nat} {w : World} (many : Int) (hl : s.1.length ≤ 1000000000) (hR : IsR w g B s) : Calls Tryz.prog 126 #[.pointer (some ⟨g, 0, none⟩), .int .i64 many] w (GivesR w g B (rFixed many s)) := by obtain ⟨l, b⟩ := s; exact Fixed_any many hl hR
theorem res_pt {fn : Func} {a : Nat} {tmps : Array Value} {w : World} {g : Nat} {p : Pt5} (hres : fn.results = #[.cell a 28]) (ha : tmps.getD a undef = .pointer (some ⟨g, 0, none⟩)) (hB : Blk w g 28 (pta p)) : (results fn tmps).run Tryz.prog w = .ok (.agg (pta p)) w := by
  have h := run_loadVar_at (P := Tryz.prog) w ⟨g, 0, none⟩ 28 (pta p) hB.cells _ Tryz.underlying28 rfl (by rw [pta_size]; kernel_rfl)
  have ha' : tmps[a]?.getD undef = .pointer (some ⟨g, 0, none⟩) := by simpa using ha
  simp [results, hres, asAddr, h, ha']
end Go.Proofs.YtabnndjdkjkciaaGreatDoor
