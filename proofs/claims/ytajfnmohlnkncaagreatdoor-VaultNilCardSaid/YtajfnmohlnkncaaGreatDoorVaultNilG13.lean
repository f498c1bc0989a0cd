/- WHAT IT HOLDS: the cursor's taker, walked: an address. A part's steps. | WHAT IT HOLDS: the cursor that bytes are, plainly (no program). | WHAT IT HOLDS: cursor.Take, walked, for all bytes. | WHAT IT HOLDS: which scripts of a vault's acts are long, walked. | WHAT IT HOLDS: two parts, two slices of parts, two cursors, compared. | WHAT IT HOLDS: the document's parts, walked: compared, appended, made of the program's. | WHAT IT HOLDS: a manifest as the document's, walked. | WHAT IT HOLDS: which manifests there are, by the document, walked. | WHAT IT HOLDS: digests and parts out of a reader, as package manifest takes them, walked; a store into the midst of a block. -/
import Derived.Test.YtajfnmohlnkncaaGreatDoorVaultNilG01
import Derived.Test.YtajfnmohlnkncaaGreatDoorVaultNilG12
import Derived.Test.YtajfnmohlnkncaaGreatDoorVaultNilG03
import Derived.Test.YtajfnmohlnkncaaGreatDoorVaultNilG09
import Derived.Test.YtajfnmohlnkncaaGreatDoorVaultNilG04
import Derived.Great.BuildSlice
namespace Go.Proofs.YtajfnmohlnkncaaGreatDoor
open Go.RowKit
attribute [local go_sem ↓] Go.wp_at_zero Go.wp_at_succ

/-- a part that is stored into a block of its own -/
theorem step_storeP {ops : Array Oper} {o : Oper} {a : Act} {w : World} {K : Act → World → Prop} {Q : Exit → Act → World → Prop} {X : Prop} (hgd : Region.wanted o (yielded ops a.tmps) = true) (x y : Operand) (ho : o.op = .store 37 x y)
    (g : Nat) (old p : Pt5) (hx : a.eval x = .pointer (some ⟨g, 0, none⟩)) (hy : a.eval y = .agg (pta p)) (hB : Blk w g 37 (pta old))
    (h : K (a.put o.dst undef) (w.setRow g (pta p))) : if Region.wanted o (yielded ops a.tmps) = true then Oper.wp Tryz.prog o a w K Q else X := by
  rw [if_pos hgd]
  exact wp_store_row 37 x y ho g (pta p) hx hy 37 (pta old) hB (by rw [pta_size]; kernel_rfl) (by rw [pta_size, pta_size]) (pta_all p) h
theorem Blk.row {w : World} {g : Nat} {t : TypeId} {old cs : Array Value} (h : Blk w g t old) : Blk (w.setRow g cs) g t cs := setRow_heap w g old cs t (0, 0) h
theorem Blk.rowFar {w : World} {g k : Nat} {t : TypeId} {cs : Array Value} (h : Blk w k t cs) (hk : k ≠ g) (c2 : Array Value) : Blk (w.setRow g c2) k t cs := (setRow_other w g k c2 hk).trans h
theorem IsR.row {w : World} {g B gc : Nat} {s : List UInt8 × Nat} (h : IsR w g B s) (h1 : g < gc) (h2 : B ≤ gc) (cs : Array Value) : IsR (w.setRow gc cs) g B s := h.apart (C := gc) h1 h2 (below_setRow (Below.refl _ _) (Nat.le_refl gc) cs)
section
variable {w W W' : World} {g gc B : Nat} {p : Pt5}
end
theorem run_copy_none {P : Program} (w : World) (dT sT ty elem : TypeId) (k : Nat) (d : Option Addr) (dLen dCap sCap : Nat) (hu : P.underlying dT = some (.slice elem)) (hs : (P.info? elem).map (·.size) = some k) :
    (Builtin.copy_ #[dT, sT] ty #[.slice d dLen dCap, .slice none 0 sCap]).run P w = .ok (goInt 0) w := by
  cases hq : P.info? elem with
  | none => simp [hq] at hs
  | some i => cases d <;> simp [Builtin.copy_, run_underlying hu, Builtin.lenOf, Builtin.firstCells, sizeOf, typeInfo, hq, loadCells, storeCells]
theorem splice_nil (l : List Value) (k : Nat) : splice l k [] = l := by simp [splice]
/-- a part out of a reader -/
def rDg (s : List UInt8 × Nat) : Dg × (List UInt8 × Nat) := (if h : (rFixed 32 s).1.length = 32 then ⟨(rFixed 32 s).1, h⟩ else dg0, (rFixed 32 s).2)
def rPart (f : Int) (s : List UInt8 × Nat) : Pt5 × (List UInt8 × Nat) := ((f, ((rWithin 64 s).1 : Nat), ((rWithin 65536 (rWithin 64 s).2).1 : Nat), (rDg (rWithin 65536 (rWithin 64 s).2).2).1), (rDg (rWithin 65536 (rWithin 64 s).2).2).2)
theorem rDg_eq {m : List UInt8} {s : List UInt8 × Nat} (h : m = (rFixed 32 s).1) : (if h : m.length = 32 then (⟨m, h⟩ : Dg) else dg0) = (rDg s).1 := by subst h; rfl
theorem rFixed32 (s : List UInt8 × Nat) : (rFixed 32 s).1.length = 0 ∨ (rFixed 32 s).1.length = 32 := by
  unfold rFixed
  split
  · exact .inl rfl
  · split
    · exact .inl rfl
    · right
      simp only [List.length_take]
      omega
theorem Fixed_s {g B : Nat} {s : List UInt8 × Nat} {w : World} (many : Int) (hl : s.1.length ≤ 1000000000) (hR : IsR w g B s) : Calls Tryz.prog 102 #[.pointer (some ⟨g, 0, none⟩), .int .i64 many] w (GivesR w g B (rFixed many s)) := by obtain ⟨l, b⟩ := s; exact Fixed_any many hl hR
theorem res_pt {fn : Func} {a : Nat} {tmps : Array Value} {w : World} {g : Nat} {p : Pt5} (hres : fn.results = #[.cell a 37]) (ha : tmps.getD a undef = .pointer (some ⟨g, 0, none⟩)) (hB : Blk w g 37 (pta p)) : (results fn tmps).run Tryz.prog w = .ok (.agg (pta p)) w := by
  have h := run_loadVar_at (P := Tryz.prog) w ⟨g, 0, none⟩ 37 (pta p) hB.cells _ Tryz.underlying37 rfl (by rw [pta_size]; kernel_rfl)
  have ha' : tmps[a]?.getD undef = .pointer (some ⟨g, 0, none⟩) := by simpa using ha
  simp [results, hres, asAddr, h, ha']
end Go.Proofs.YtajfnmohlnkncaaGreatDoor

namespace Go.Proofs.YtajfnmohlnkncaaGreatDoor
open Go.RowKit

/-- so many parts out of a reader, the first at an address -/
def crLoop : Nat → Int → List UInt8 × Nat → List Pt5 × (List UInt8 × Nat)
  | 0, _, s => ([], s)
  | n + 1, a, s => ((rPart a s).1 :: (crLoop n (a + (rPart a s).1.2.1) (rPart a s).2).1, (crLoop n (a + (rPart a s).1.2.1) (rPart a s).2).2)
theorem crLoop_succ : ∀ (k : Nat) (a : Int) (s : List UInt8 × Nat), crLoop (k + 1) a s = ((crLoop k a s).1 ++ [(rPart (pend a (crLoop k a s).1) (crLoop k a s).2).1], (rPart (pend a (crLoop k a s).1) (crLoop k a s).2).2)
  | 0, a, s => by simp [crLoop, pend]
  | k + 1, a, s => by
    have ih := crLoop_succ k (a + (rPart a s).1.2.1) (rPart a s).2
    have h1 : crLoop (k + 1 + 1) a s = ((rPart a s).1 :: (crLoop (k + 1) (a + (rPart a s).1.2.1) (rPart a s).2).1, (crLoop (k + 1) (a + (rPart a s).1.2.1) (rPart a s).2).2) := rfl
    have h2 : crLoop (k + 1) a s = ((rPart a s).1 :: (crLoop k (a + (rPart a s).1.2.1) (rPart a s).2).1, (crLoop k (a + (rPart a s).1.2.1) (rPart a s).2).2) := rfl
    rw [h1, ih, h2]
    rfl
theorem crLoop_len : ∀ (k : Nat) (a : Int) (s : List UInt8 × Nat), (crLoop k a s).1.length = k
  | 0, _, _ => rfl
  | k + 1, a, s => by
    have ih := crLoop_len k (a + (rPart a s).1.2.1) (rPart a s).2
    show ((rPart a s).1 :: (crLoop k (a + (rPart a s).1.2.1) (rPart a s).2).1).length = k + 1
    rw [List.length_cons, ih]
theorem rPart_len (a : Int) (s : List UInt8 × Nat) : (rPart a s).2.1.length ≤ s.1.length := by
  have h1 := rWithin_len 64 s
  have h2 := rWithin_len 65536 (rWithin 64 s).2
  have h3 := rFixed_len 32 (rWithin 65536 (rWithin 64 s).2).2
  exact Nat.le_trans h3 (Nat.le_trans h2 h1)
theorem crLoop_left : ∀ (k : Nat) (a : Int) (s : List UInt8 × Nat), (crLoop k a s).2.1.length ≤ s.1.length
  | 0, _, _ => Nat.le_refl _
  | k + 1, a, s => Nat.le_trans (crLoop_left k (a + (rPart a s).1.2.1) (rPart a s).2) (rPart_len a s)
end Go.Proofs.YtajfnmohlnkncaaGreatDoor

namespace Go.Proofs.YtajfnmohlnkncaaGreatDoor
open Go.RowKit
attribute [local go_sem ↓] Go.wp_at_zero Go.wp_at_succ

theorem wpl_lit1 {w : World} {ops : Array Oper} {rest : List Oper} {o : Oper} {a : Act} {Q : Exit → Act → World → Prop} (hgd : Region.wanted o (yielded ops a.tmps) = true) (x : Operand) (ho : o.op = .buildSlice 44 1 #[(0, x)])
    (p : Pt5) (hx : a.eval x = .agg (pta p)) (h : wpList Tryz.prog ops Q rest (a.put o.dst (.slice (some ⟨w.heap.size, 0, none⟩) 1 1)) (w.alloc (.cells (pta p) 37))) : wpList Tryz.prog ops Q (o :: rest) a w :=
  wpList_step fun _ hK => step_lit1 hgd x ho p hx (hK _ _ h)
theorem IsR.set {w : World} {g B k i : Nat} {s : List UInt8 × Nat} (h : IsR w g B s) (hk : k ≠ g) (hB : B ≤ k) (v : Value) : IsR (w.setCell ⟨k, i, none⟩ v) g B s := by
  obtain ⟨A, c, h1, h2, h3⟩ := h
  refine ⟨A, c, h1.far (by dsimp only; omega) v, ⟨h2.1, h2.2.1, h2.2.2.1, h2.2.2.2.1, fun j u hj => ?_⟩, h3⟩
  obtain ⟨ad, hA, hc⟩ := h2.2.2.2.2 j u hj
  have hne : s.1 ≠ [] := by rintro e; rw [e] at hj; simp at hj
  have hlt := h3 hne ad hA
  exact ⟨ad, hA, by rw [← hc]; exact World.cell?_setCell_far _ _ _ _ (by rw [addr_add_block]; dsimp only; omega)⟩
theorem rPart_first (f : Int) (s : List UInt8 × Nat) : (rPart f s).1.1 = f := rfl
theorem rPart_many (f : Int) (s : List UInt8 × Nat) : (rPart f s).1.2.1 = ((rWithin 64 s).1 : Nat) := rfl
theorem rWithin_le (n : Nat) (s : List UInt8 × Nat) : (rWithin n s).1 ≤ n := by
  unfold rWithin
  split
  · exact Nat.zero_le _
  · rename_i h
    omega
theorem pend_snoc : ∀ (l : List Pt5) (a : Int) (p : Pt5), pend a (l ++ [p]) = pend a l + p.2.1
  | [], _, _ => rfl
  | q :: r, a, p => pend_snoc r (a + q.2.1) p
theorem crLoop_bd (s : List UInt8 × Nat) (a : Int) : ∀ k, a ≤ pend a (crLoop k a s).1 ∧ pend a (crLoop k a s).1 ≤ a + 64 * k
  | 0 => by simp [crLoop, pend]
  | k + 1 => by
    have ih := crLoop_bd s a k
    rw [crLoop_succ]
    dsimp only
    rw [pend_snoc, rPart_many]
    have := rWithin_le 64 (crLoop k a s).2
    omega
theorem Number_s {g B : Nat} {s : List UInt8 × Nat} {w : World} (hR : IsR w g B s) :
    Calls Tryz.prog 70 #[.pointer (some ⟨g, 0, none⟩)] w fun e w' => e = .returned (.int .u64 ((rNum s).1 : Nat)) ∧ IsR w' g B (rNum s).2 ∧ Wr w w' g := by obtain ⟨l, b⟩ := s; exact Number_any hR
theorem Fail_s {g B : Nat} {s : List UInt8 × Nat} {w : World} (k : Nat) (hR : IsR w g B s) :
    Calls Tryz.prog 71 #[.pointer (some ⟨g, 0, none⟩), errv k] w fun e w' => e = .returned (.tuple #[]) ∧ IsR w' g B (rFail k s) ∧ Wr w w' g := by obtain ⟨l, b⟩ := s; exact Fail_any k hR
theorem End_s18 {g B : Nat} {s : List UInt8 × Nat} {w : World} (hR : IsR w g B s) : Calls Tryz.prog 73 #[.pointer (some ⟨g, 0, none⟩)] w fun e w' => e = .returned (errv (rEnd s)) ∧ w = w' := by obtain ⟨l, b⟩ := s; exact End_any hR
theorem foneLen (b : List UInt8) : (fone b).1.length ≤ b.length := by
  unfold fone
  split
  · simp
  · split
    · simp
    · unfold ftake
      split
      · simp
      · split
        · simp
        · split
          · simp
          · split
            · simp only [List.length_drop, List.length_take]; omega
            · simp
theorem rFail_fst18 (k : Nat) (s : List UInt8 × Nat) : (rFail k s).1 = s.1 := by unfold rFail; split <;> rfl
theorem crLoop_I : ∀ (k : Nat) (a : Int) (s : List UInt8 × Nat), 0 ≤ a → a + 64 * k ≤ 1000000000 → PtsI (crLoop k a s).1
  | 0, _, _, _, _ => fun p hp => by cases hp
  | k + 1, a, s, h0, h1 => fun p hp => by
    have hl := rWithin_le 64 s
    have hl2 := rWithin_le 65536 (rWithin 64 s).2
    rcases List.mem_cons.1 (show p ∈ (rPart a s).1 :: (crLoop k (a + (rPart a s).1.2.1) (rPart a s).2).1 from hp) with rfl | hp
    · refine ⟨?_, ?_, ?_⟩
      · rw [rPart_first]; unfold I64; omega
      · rw [rPart_many]; unfold I64; omega
      · show I64 (((rWithin 65536 (rWithin 64 s).2).1 : Nat) : Int); unfold I64; omega
    · exact crLoop_I k _ _ (by rw [rPart_many]; omega) (by rw [rPart_many]; omega) p hp
end Go.Proofs.YtajfnmohlnkncaaGreatDoor

namespace Go.Proofs.YtajfnmohlnkncaaGreatDoor
open Go.RowKit Go.Maps Go.Sort
attribute [local go_sem ↓] Go.wp_at_zero Go.wp_at_succ

def va0 : Array Value := #[.int .i64 0, .int .i64 0, .int .i64 0, .int .i64 0, .bool false, .int .i64 0, .slice none 0 0, .int .i64 0, .int .i64 0, .int .i64 0, .int .i64 0, .int .u8 0, .int .u8 0, .int .u8 0, .int .u8 0, .int .u8 0, .int .u8 0, .int .u8 0, .int .u8 0, .int .u8 0, .int .u8 0, .int .u8 0, .int .u8 0, .int .u8 0, .int .u8 0, .int .u8 0, .int .u8 0, .int .u8 0, .int .u8 0, .int .u8 0, .int .u8 0, .int .u8 0, .int .u8 0, .int .u8 0, .int .u8 0, .int .u8 0, .int .u8 0, .int .u8 0, .int .u8 0, .int .u8 0, .int .u8 0, .int .u8 0, .int .u8 0, .slice none 0 0, .int .i64 0, .string ⟨#[]⟩, .string ⟨#[]⟩, .slice none 0 0, .int .i64 0, .slice none 0 0, .slice none 0 0]
theorem va_info : (Tryz.prog.info? 78).map (fun i => (i.zero, i.size, i.bytes)) = some (some (.agg va0), 51, 280) := by kernel_rfl
theorem step_litV {w : World} {ops : Array Oper} {o : Oper} {a : Act} {K : Act → World → Prop} {Q : Exit → Act → World → Prop} {X : Prop} (hgd : Region.wanted o (yielded ops a.tmps) = true) (x : Operand) (ho : o.op = .buildSlice 80 1 #[(0, x)])
    (p : VA) (hx : a.eval x = .agg (vaa p)) (h : K (a.put o.dst (.slice (some ⟨w.heap.size, 0, none⟩) 1 1)) (w.alloc (.cells (vaa p) 78))) : if Region.wanted o (yielded ops a.tmps) = true then Oper.wp Tryz.prog o a w K Q else X := by
  rw [if_pos hgd]
  obtain ⟨i0, hi, hz0, hz1, hz2⟩ := info_parts va_info
  refine wp_buildSlice 80 78 1 _ ho (vaa p) i0 _ Tryz.underlying80 hi hz0 (by rw [hz1]; decide) (by rw [hz1]; decide) ?_ h
  rw [hz1]
  have hl : ((#[(0, x)] : Array (Nat × Operand)).map fun (i, x) => (i, a.eval x)).toList = ([Value.agg (vaa p)].zipIdx 0).map fun x => (x.2, x.1) := by simp [hx]
  have hps := vaa_size p
  rw [hl, Go.Great.fill_whole (s := 51) (by decide) [Value.agg (vaa p)] _ (by intro v hv; rw [List.mem_singleton.1 hv]; exact hps) (by simp)]
  simp [Value.cells]
theorem litV (W : World) (p : VA) : Sl (W.alloc (.cells (vaa p) 78)) 51 (some ⟨W.heap.size, 0, none⟩) 1 1 ([p].flatMap vac) := by
  have h := Sl.litsS W 51 1 (vac p) 78 (by rw [vac_len]) (by simp [maxLen])
  simpa [vaa] using h
theorem wpl_litV {w : World} {ops : Array Oper} {rest : List Oper} {o : Oper} {a : Act} {Q : Exit → Act → World → Prop} (hgd : Region.wanted o (yielded ops a.tmps) = true) (x : Operand) (ho : o.op = .buildSlice 80 1 #[(0, x)])
    (p : VA) (hx : a.eval x = .agg (vaa p)) (h : wpList Tryz.prog ops Q rest (a.put o.dst (.slice (some ⟨w.heap.size, 0, none⟩) 1 1)) (w.alloc (.cells (vaa p) 78))) : wpList Tryz.prog ops Q (o :: rest) a w :=
  wpList_step fun _ hK => step_litV hgd x ho p hx (hK _ _ h)
theorem SlVA.at {w : World} {A : Option Addr} {c : Nat} {s : List VA} (h : SlVA w A c s) {k : Nat} (hk : k < s.length) :
    ∃ ad b o, A = some ad ∧ ad.add (k * 51) = ⟨b, o, none⟩ ∧ ∀ j u, (vaa s[k])[j]? = some u → w.cell? ((⟨b, o, none⟩ : Addr).add j) = some u := by
  obtain ⟨ad, b, o, h1, h2, h3⟩ := Sl.atS (f := vac) vac_len (by decide) h.1 hk
  exact ⟨ad, b, o, h1, h2, fun j u hj => by rw [addr_lit]; exact h3 j u (by simpa [vaa] using hj)⟩
/-- an act's cells in a block of its own -/
theorem Blk.va {w : World} {g : Nat} {a : VA} (h : Blk w g 78 (vaa a)) : w.cell? ⟨g, 0, none⟩ = some (.int .i64 a.k) ∧ w.cell? ⟨g, 1, none⟩ = some (.int .i64 a.n) ∧ w.cell? ⟨g, 2, none⟩ = some (.int .i64 a.p) ∧ w.cell? ⟨g, 3, none⟩ = some (.int .i64 a.x) ∧ w.cell? ⟨g, 4, none⟩ = some (.bool a.au) ∧
    w.cell? ⟨g, 5, none⟩ = some (.int .i64 a.s.1) ∧ w.cell? ⟨g, 6, none⟩ = some (.slice a.s.2.1 a.s.2.2.2.length a.s.2.2.1) ∧ w.cell? ⟨g, 43, none⟩ = some (.slice a.mA a.m.2.2.2.2.2.length a.mc) ∧ w.cell? ⟨g, 44, none⟩ = some (.int .i64 a.d.k) ∧ w.cell? ⟨g, 45, none⟩ = some (.string ⟨a.d.n.toArray⟩) ∧ w.cell? ⟨g, 46, none⟩ = some (.string ⟨a.d.t.toArray⟩) ∧
    w.cell? ⟨g, 47, none⟩ = some (.slice a.d.A a.d.l.length a.d.c) ∧ w.cell? ⟨g, 48, none⟩ = some (.int .i64 a.d.f) ∧ w.cell? ⟨g, 49, none⟩ = some (.slice a.d.B a.d.ks.length a.d.kc) ∧ w.cell? ⟨g, 50, none⟩ = some (.slice a.B a.ks.length a.kc) := by
  obtain ⟨c0, c1, c2, c3, c4, c5, c6, c43, c44, c45, c46, c47, c48, c49, c50⟩ := vaa_cells a
  exact ⟨(h.cell 0).trans c0, (h.cell 1).trans c1, (h.cell 2).trans c2, (h.cell 3).trans c3, (h.cell 4).trans c4, (h.cell 5).trans c5, (h.cell 6).trans c6, (h.cell 43).trans c43, (h.cell 44).trans c44, (h.cell 45).trans c45, (h.cell 46).trans c46, (h.cell 47).trans c47, (h.cell 48).trans c48, (h.cell 49).trans c49, (h.cell 50).trans c50⟩
theorem Blk.vam {w : World} {g : Nat} {a : VA} (h : Blk w g 78 (vaa a)) : ∀ j u, (mfa a.m.1 a.m.2.1 a.m.2.2.1 a.m.2.2.2.1 a.m.2.2.2.2.1 a.mA a.m.2.2.2.2.2.length a.mc)[j]? = some u → w.cell? ((⟨g, 7, none⟩ : Addr).add j) = some u := fun j u hj => by
  have hl : j < 37 := by
    have h9 := (Array.getElem?_eq_some_iff.1 hj).1
    rw [mfa_size] at h9
    exact h9
  rw [addr_lit, h.cell, vaa_mf a j hl]
  simpa [mfa, mfc] using hj
theorem SlDA.litN {a : DA} (W : World) (t : TypeId) (h : DAok W a) : SlDA (W.alloc (.cells #[.int .i64 a.k, .string ⟨a.n.toArray⟩, .string ⟨a.t.toArray⟩, .slice a.A a.l.length a.c, .int .i64 a.f, .slice a.B a.ks.length a.kc] t)) (some ⟨W.heap.size, 0, none⟩) 1 [a] :=
  ⟨Sl.litsS W 6 1 (dac a) t rfl (by simp [maxLen]), fun x hx => by rw [List.mem_singleton.1 hx]; exact h.below (below_new _ _)⟩
def VA.long (a : VA) : Bool := longb (a.s.2.2.2.map ceOf) 70 || decide (12 < a.m.2.2.2.2.2.length) || decide (60 < a.ks.length) || dLong [a.d] 1
def vaLong (s : List VA) (most : Int) : Bool := s.any VA.long || decide (most < s.length)
theorem vaLong_at {s : List VA} {most : Int} {k : Nat} (hk : k < s.length) (h : s[k].long = true) : vaLong s most = true := by
  unfold vaLong
  rw [List.any_eq_true.2 ⟨s[k], List.getElem_mem hk, h⟩]
  rfl
theorem vaLong_none {s : List VA} {most : Int} (h : ∀ i (hi : i < s.length), s[i].long = false) : vaLong s most = decide (most < s.length) := by
  unfold vaLong
  rw [List.any_eq_false.2 fun x hx => by
    obtain ⟨i, hi, rfl⟩ := List.getElem_of_mem hx
    simp [h i hi]]
  rfl
set_option maxRecDepth 100000 in
set_option maxHeartbeats 4000000 in
theorem VaLong_any {A : Option Addr} {c : Nat} {s : List VA} (w : World) (h : SlVA w A c s) (most : Int) : Calls Tryz.prog 25 #[.slice A s.length c, .int .i64 most] w fun e w' => e = .returned (.bool (vaLong s most)) ∧ Below w.heap.size w w' := by
  have hsl : s.length ≤ maxLen := Nat.le_trans h.1.2.1 h.1.2.2.1
  unfold maxLen at hsl
  have hvs := fun x => Lib.hid (vaa_size x)
  have hvo := fun x => Lib.hid (vaa_one x)
  have H := Lib.hid h
  clear h
  go_enter Tryz.func25, Tryz.ntmps25
  go_wp2_with fail
  go_loopw [9] (fun x wr => ∃ k : Nat, k ≤ s.length ∧ x = .int .i64 k ∧ Hid (∀ i (hi : i < s.length), i < k → s[i].long = false) ∧ Below w.heap.size w wr) (fun x w => s.length - (intOf x).toNat)
  case atStart => exact ⟨0, Nat.zero_le _, rfl, Lib.hid (fun i _ hi => absurd hi (Nat.not_lt_zero i)), Below.refl _ _⟩
  case round =>
    obtain ⟨k, hk, rfl, hno, hb⟩ := hrel
    by_cases hlt : k < s.length
    · have hS := H.out.below hb
      obtain ⟨ad, b, o, rfl, had, hcc⟩ := hS.at hlt
      have hok := hS.2 _ (List.getElem_mem hlt)
      have HNo := Lib.hid (fun (hn : s[k].long = false) i (hi : i < s.length) (hi2 : i < k + 1) => (show s[i].long = false from by
        rcases Nat.lt_or_ge i k with h1 | h1
        · exact hno.out i hi h1
        · obtain rfl : i = k := by omega
          exact hn))
      have HAt := Lib.hid (fun (hn : s[k].long = true) => vaLong_at (most := most) hlt hn)
      generalize s[k] = a at *
      have HCC := Lib.hid hcc
      have hap := hok.2.1.2.1
      have hap2 := hok.2.1.2.2.1
      have hbp := hok.2.2.2.1.2.1
      have hbp2 := hok.2.2.2.1.2.2.1
      unfold maxLen at hap2 hbp2
      have HLc := Lib.hid (fun W (hh : Below wr.heap.size wr W) => Long_any a.s.2.2.2 70 W (hok.1.1.below hh))
      have HLd := Lib.hid (fun W (hh : Below wr.heap.size wr W) => hok.2.2.1.below hh)
      have HLg := Lib.hid (show a.long = (longb (a.s.2.2.2.map ceOf) 70 || decide (12 < a.m.2.2.2.2.2.length) || decide (60 < a.ks.length) || dLong [a.d] 1) from rfl)
      clear hS hcc hno hok
      go_upto_region 4 with (first | (refine wpl_loadG rfl 78 _ rfl ⟨b, o, none⟩ (vaa a) rfl HCC.out _ Tryz.underlying78 rfl (by rw [(hvs a).out]; kernel_rfl) ?_) | (refine wpl_storeN rfl 78 _ _ rfl _ (vaa a) 78 rfl rfl (by rw [(hvs a).out]; kernel_rfl) (by rw [(hvs a).out]; rfl) (hvo a).out ?_))
      refine gen1 (T := fun W => Mm wr W [(wr.heap.size, 78, vaa a)] []) ((Mm.start wr).alloc _ _) (fun w3 hM => ?_)
      have Hb := Lib.hid hb
      clear hb
      generalize longb (a.s.2.2.2.map ceOf) 70 = lb at *
      obtain ⟨z0, z1, z2, z3, z4, z5, z6, z43, z44, z45, z46, z47, z48, z49, z50⟩ := Blk.va hM.b0
      cases lb with
      | true =>
        have HT := Lib.hid (HAt.out (by rw [HLg.out]; rfl))
        clear HNo HAt HLg
        go_wp2_with fail
        refine (HLc.out _ hM.bel).mono ?_
        rintro e w5 ⟨rfl, hb5⟩
        clear z0 z1 z2 z3 z4 z5 z6 z43 z44 z45 z46 z47 z48 z49 z50
        go_wp2_with fail
        go_ret
        exact ⟨by rw [HT.out]; rfl, bel_call Hb.out (bel_call hM.bel hb5)⟩
      | false =>
        go_wp2_with fail
        refine (HLc.out _ hM.bel).mono ?_
        rintro e w5 ⟨rfl, hb5⟩
        have hM5 := hM.call hb5
        clear z0 z1 z2 z3 z4 z5 z6 z43 z44 z45 z46 z47 z48 z49 z50 hM HLc hb5
        obtain ⟨z0, z1, z2, z3, z4, z5, z6, z43, z44, z45, z46, z47, z48, z49, z50⟩ := Blk.va hM5.b0
        by_cases c1 : 12 < a.m.2.2.2.2.2.length
        · have HT := Lib.hid (HAt.out (by rw [HLg.out, decide_eq_true c1]; rfl))
          clear HNo HAt HLg
          go_wp2_with fail
          go_ret
          exact ⟨by rw [HT.out]; rfl, bel_call Hb.out hM5.bel⟩
        by_cases c2 : 60 < a.ks.length
        · have HT := Lib.hid (HAt.out (by rw [HLg.out, decide_eq_true c2]; simp))
          clear HNo HAt HLg
          go_wp2_with fail
          go_ret
          exact ⟨by rw [HT.out]; rfl, bel_call Hb.out hM5.bel⟩
        have hok5 := HLd.out _ hM5.bel
        have hlk := Lib.hid (SlDA.litN w5 76 hok5)
        have HL := Lib.hid (DLong_any _ hlk.out 1)
        have hbn := bel_alloc (bel_call Hb.out hM5.bel) (.cells #[.int .i64 a.d.k, .string ⟨a.d.n.toArray⟩, .string ⟨a.d.t.toArray⟩, .slice a.d.A a.d.l.length a.d.c, .int .i64 a.d.f, .slice a.d.B a.d.ks.length a.d.kc] 76)
        have HLh := Lib.hid (HLg.out.trans (by rw [decide_eq_false c1, decide_eq_false c2]; rfl : _ = dLong [a.d] 1))
        clear HLg hok5 HLd hlk
        go_wp2_with fail
        refine HL.out.mono ?_
        rintro e w6 ⟨rfl, hb6⟩
        have hb7 := bel_call hbn hb6
        clear hM5 hb6 HL hbn z0 z1 z2 z3 z4 z5 z6 z43 z44 z45 z46 z47 z48 z49 z50
        generalize dLong [a.d] 1 = db at *
        cases db with
        | true =>
          have HT := Lib.hid (HAt.out HLh.out)
          clear HNo HAt HLh
          go_wp2_with fail
          go_ret
          exact ⟨by rw [HT.out]; rfl, hb7⟩
        | false =>
          have HN2 := Lib.hid (HNo.out HLh.out)
          clear HNo HAt HLh
          go_wp2_with fail
          go_roundw
          case rel => exact ⟨k + 1, hlt, by go_num, HN2, hb7⟩
          case measure => simp [intOf]; omega
    · obtain rfl : k = s.length := by omega
      have HE := Lib.hid (vaLong_none (s := s) (most := most) (fun i hi => hno.out i hi hi))
      clear hno
      go_wp2_with fail
      go_ret
      exact ⟨by rw [HE.out]; rfl, hb⟩
end Go.Proofs.YtajfnmohlnkncaaGreatDoor

namespace Go.Proofs.YtajfnmohlnkncaaGreatDoor
open Go.RowKit
attribute [local go_sem ↓] Go.wp_at_zero Go.wp_at_succ

theorem part_int (xs : Array Value) (i : Nat) (v : Value) (h : xs[i]? = some v) (w : World) : (part 3 xs i).run Tryz.prog w = .ok v w := by
  unfold part
  rw [Sem.run_bind, Tryz.isAgg3]
  simp [h]
theorem part_dg (p : Pt5) (w : World) : (part 35 (pta p) 3).run Tryz.prog w = .ok (.agg (dga p.2.2.2)) w := by
  have hd := p.2.2.2.2
  have he : (pta p).extract 3 (3 + 32) = dga p.2.2.2 := by
    apply Array.ext'
    simp [pta, ptl, dga]
    exact List.take_of_length_le (by simp [hd])
  unfold part
  rw [Sem.run_bind, Tryz.isAgg35]
  simp only [Result.andThen_ok, if_true, Sem.run_bind, Tryz.sizeOf35, Sem.run_pure]
  rw [he]
theorem equalIn_dg (a b : Dg) (n : Nat) (w : World) : (Op.equalIn (n + 2) 35 (.agg (dga a)) (.agg (dga b))).run Tryz.prog w = .ok (decide (a = b)) w := by
  unfold dga
  obtain ⟨i, hi⟩ : ∃ i, Tryz.prog.info? 5 = some i := Option.isSome_iff_exists.1 (by kernel_rfl)
  rw [run_equalIn_array (P := Tryz.prog) (w := w) (n + 1) (t := 35) (e := 5) (n := 32) (i := i) _ _ Tryz.underlying35 hi]
  rw [show Tryz.prog.cellsOf 5 = 1 from by kernel_rfl]
  rw [eqItems_bytes (P := Tryz.prog) Tryz.underlying5 n a.1 b.1 w _ (fun i hi => by have := List.mem_range.1 hi; rw [a.2, b.2]; exact ⟨this, this⟩)]
  rw [dg_all]
theorem equalIn_int' (n : Nat) (a b : Int) (w : World) : (Op.equalIn (n + 1) 3 (.int .i64 a) (.int .i64 b)).run Tryz.prog w = .ok (a == b) w := run_equalIn_int w n 3 .i64 .i64 a b Tryz.underlying3
theorem part_pt0 (q : Pt5) (w : World) : (part 3 (pta q) 0).run Tryz.prog w = .ok (.int .i64 q.1) w := part_int _ 0 _ (by simp [pta, ptl]) w
theorem part_pt1 (q : Pt5) (w : World) : (part 3 (pta q) 1).run Tryz.prog w = .ok (.int .i64 q.2.1) w := part_int _ 1 _ (by simp [pta, ptl]) w
theorem part_pt2 (q : Pt5) (w : World) : (part 3 (pta q) 2).run Tryz.prog w = .ok (.int .i64 q.2.2.1) w := part_int _ 2 _ (by simp [pta, ptl]) w
theorem eqF_cons (n : Nat) (xs ys : Array Value) (fl : Field) (fs : List Field) (w : World) {x y : Value} {b c : Bool} {T : TypeId} {k : Nat} (hn : fl.name ≠ "_") (ht : fl.type = T) (hk : fl.offset = k) (ha : (part T xs k).run Tryz.prog w = .ok x w) (hb : (part T ys k).run Tryz.prog w = .ok y w)
    (he : (Op.equalIn n T x y).run Tryz.prog w = .ok b w) (hr : (Op.eqFields n xs ys fs).run Tryz.prog w = .ok c w) : (Op.eqFields n xs ys (fl :: fs)).run Tryz.prog w = .ok (b && c) w := by
  subst ht hk
  simp only [Op.eqFields, hn, ne_eq, not_false_eq_true, if_true, Sem.run_bind, ha, hb, he, Result.andThen_ok]
  cases b
  · rfl
  · exact hr
theorem bool_pt (p1 p2 p3 q1 q2 q3 : Int) (p4 q4 : Dg) : ((p1 == q1) && ((p2 == q2) && ((p3 == q3) && (decide (p4 = q4) && true)))) = decide ((p1, p2, p3, p4) = (q1, q2, q3, q4)) := by
  rw [Bool.eq_iff_iff]
  simp only [Bool.and_eq_true, beq_iff_eq, decide_eq_true_eq, Prod.mk.injEq, and_true]
theorem eqFields_pt (n : Nat) (p p' : Pt5) (w : World) (f0 f1 f2 f3 : Field) (n0 : f0.name ≠ "_") (n1 : f1.name ≠ "_") (n2 : f2.name ≠ "_") (n3 : f3.name ≠ "_") (t0 : f0.type = 3) (t1 : f1.type = 3) (t2 : f2.type = 3) (t3 : f3.type = 35) (o0 : f0.offset = 0) (o1 : f1.offset = 1) (o2 : f2.offset = 2) (o3 : f3.offset = 3) :
    (Op.eqFields (n + 2) (pta p) (pta p') [f0, f1, f2, f3]).run Tryz.prog w = .ok (decide (p = p')) w := by
  obtain ⟨p1, p2, p3, p4⟩ := p
  obtain ⟨q1, q2, q3, q4⟩ := p'
  rw [← bool_pt]
  refine eqF_cons _ _ _ _ _ _ n0 t0 o0 (part_pt0 _ w) (part_pt0 _ w) (equalIn_int' (n + 1) _ _ w) ?_
  refine eqF_cons _ _ _ _ _ _ n1 t1 o1 (part_pt1 _ w) (part_pt1 _ w) (equalIn_int' (n + 1) _ _ w) ?_
  refine eqF_cons _ _ _ _ _ _ n2 t2 o2 (part_pt2 _ w) (part_pt2 _ w) (equalIn_int' (n + 1) _ _ w) ?_
  refine eqF_cons _ _ _ _ _ _ n3 t3 o3 (part_dg _ w) (part_dg _ w) (equalIn_dg _ _ n w) ?_
  simp only [Op.eqFields, Sem.run_pure]
theorem fields_pt : ∃ f0 f1 f2 f3 : Field, (Tryz.prog.fieldsOf 37).toList = [f0, f1, f2, f3] ∧ f0.name ≠ "_" ∧ f1.name ≠ "_" ∧ f2.name ≠ "_" ∧ f3.name ≠ "_" ∧ f0.type = 3 ∧ f1.type = 3 ∧ f2.type = 3 ∧ f3.type = 35 ∧ f0.offset = 0 ∧ f1.offset = 1 ∧ f2.offset = 2 ∧ f3.offset = 3 := by
  simp only [Program.fieldsOf, Tryz.underlying37, List.toList_toArray]
  exact ⟨_, _, _, _, rfl, by decide, by decide, by decide, by decide, rfl, rfl, rfl, rfl, rfl, rfl, rfl, rfl⟩
theorem equalIn_pt (p p' : Pt5) (w : World) : (Op.equalIn 10000 37 (.agg (pta p)) (.agg (pta p'))).run Tryz.prog w = .ok (decide (p = p')) w := by
  obtain ⟨f0, f1, f2, f3, hf, n0, n1, n2, n3, t0, t1, t2, t3, o0, o1, o2, o3⟩ := fields_pt
  rw [run_equalIn_struct w 9999 37 _ _ (by kernel_rfl) (by kernel_rfl), hf]
  exact eqFields_pt 9997 p p' w f0 f1 f2 f3 n0 n1 n2 n3 t0 t1 t2 t3 o0 o1 o2 o3
theorem eql_pt (p p' : Pt5) (w : World) : (binOp .eql 37 (.agg (pta p)) (.agg (pta p'))).run Tryz.prog w = .ok (.bool (decide (p = p'))) w := by
  rw [run_eql_struct, equalIn_pt]
  rfl
end Go.Proofs.YtajfnmohlnkncaaGreatDoor

namespace Go.Proofs.YtajfnmohlnkncaaGreatDoor
open Go.RowKit
attribute [local go_sem ↓] Go.wp_at_zero Go.wp_at_succ

theorem dg_cases {Q : Dg → Prop} (h : ∀ b0 b1 b2 b3 b4 b5 b6 b7 b8 b9 b10 b11 b12 b13 b14 b15 b16 b17 b18 b19 b20 b21 b22 b23 b24 b25 b26 b27 b28 b29 b30 b31 : UInt8, Q ⟨[b0, b1, b2, b3, b4, b5, b6, b7, b8, b9, b10, b11, b12, b13, b14, b15, b16, b17, b18, b19, b20, b21, b22, b23, b24, b25, b26, b27, b28, b29, b30, b31], rfl⟩) : ∀ d, Q d := by
  rintro ⟨l, hl⟩
  match l, hl with
  | [b0, b1, b2, b3, b4, b5, b6, b7, b8, b9, b10, b11, b12, b13, b14, b15, b16, b17, b18, b19, b20, b21, b22, b23, b24, b25, b26, b27, b28, b29, b30, b31], _ => exact h b0 b1 b2 b3 b4 b5 b6 b7 b8 b9 b10 b11 b12 b13 b14 b15 b16 b17 b18 b19 b20 b21 b22 b23 b24 b25 b26 b27 b28 b29 b30 b31
end Go.Proofs.YtajfnmohlnkncaaGreatDoor

namespace Go.Proofs.YtajfnmohlnkncaaGreatDoor
open Go.RowKit
attribute [local go_sem ↓] Go.wp_at_zero Go.wp_at_succ

theorem mfa_set (n f t r : Int) (A A' : Option Addr) (k c k' c' : Nat) : ∀ d : Dg, (mfa n f t r d A k c).setIfInBounds 36 (.slice A' k' c') = mfa n f t r d A' k' c' := by
  refine dg_cases ?_
  intros
  rfl
section
variable {w : World} {g : Nat} {T : TypeId} {n f t r : Int} {d : Dg} {A : Option Addr} {k c : Nat}
theorem Blm.five (h : Blk w g T (mfa n f t r d A k c)) : w.cell? ⟨g, 0, none⟩ = some (.int .i64 n) ∧ w.cell? ⟨g, 1, none⟩ = some (.int .i64 f) ∧ w.cell? ⟨g, 2, none⟩ = some (.int .i64 t) ∧ w.cell? ⟨g, 3, none⟩ = some (.int .i64 r) ∧ w.cell? ⟨g, 36, none⟩ = some (.slice A k c) := by
  refine ⟨(h.cell 0).trans rfl, (h.cell 1).trans rfl, (h.cell 2).trans rfl, (h.cell 3).trans rfl, (h.cell 36).trans ?_⟩
  have := d.2
  simp [mfa, mfl, this]
end
end Go.Proofs.YtajfnmohlnkncaaGreatDoor

namespace Go.Proofs.YtajfnmohlnkncaaGreatDoor
open Go.RowKit
attribute [local go_sem ↓] Go.wp_at_zero Go.wp_at_succ

theorem Bl3 {w : World} {g : Nat} {T : TypeId} {p : Pt5} (h : Blk w g T (pta p)) : w.cell? ⟨g, 0, none⟩ = some (.int .i64 p.1) ∧ w.cell? ⟨g, 1, none⟩ = some (.int .i64 p.2.1) ∧ w.cell? ⟨g, 2, none⟩ = some (.int .i64 p.2.2.1) :=
  ⟨(h.cell 0).trans rfl, (h.cell 1).trans rfl, (h.cell 2).trans rfl⟩
end Go.Proofs.YtajfnmohlnkncaaGreatDoor

namespace Go.Proofs.YtajfnmohlnkncaaGreatDoor
open Go.RowKit
attribute [local go_sem ↓] Go.wp_at_zero Go.wp_at_succ

section
variable {P : Program}
theorem run_storeVar_at (w : World) (g off : Nat) (t ty : TypeId) (old cells : Array Value) (hg : w.heap[g]? = some (.cells old t (0, 0))) (hi : (P.info? ty).map (·.size) = some cells.size) (hfit : off + cells.size ≤ old.size) (h1 : cells.all (·.oneCell') = true) :
    (storeVar ty ⟨g, off, none⟩ (.agg cells)).run P w = .ok () (w.setRow g (splice old.toList off cells.toList).toArray) := by
  have := run_storeCells_at P g off t cells.toList 0 old w hg (by simp; omega) (fun v hv => (Array.all_eq_true_iff_forall_mem.1 h1) v (by simpa using hv))
  cases hq : P.info? ty with
  | none => simp [hq] at hi
  | some i =>
    have hs : cells.size = i.size := by simp [hq] at hi; omega
    simp only [Nat.add_zero] at this
    simp [storeVar, sizeOf, typeInfo, hq, Value.cells, hs, this, splice]
end
theorem dga_all (d : Dg) : (dga d).all (·.oneCell') = true := by
  rw [Array.all_eq_true_iff_forall_mem]
  intro u hu
  exact one_bvs _ u (by simpa [dga] using hu)
set_option maxRecDepth 100000 in
/-- a digest's bytes, or none, copied into a digest -/
theorem step_copyD0 {ops : Array Oper} {o : Oper} {a : Act} {w : World} {K : Act → World → Prop} {Q : Exit → Act → World → Prop} {E : Prop} (hgd : o.guard = none) (d s : Operand)
    (ho : o.op = .call { callee := .builtin .copy, args := #[d, s], argTypes := #[52, 52] }) (gc : Nat) (hB : Blk w gc 35 (dga dg0)) (hd : a.eval d = .slice (some ⟨gc, 0, none⟩) 32 32)
    (A : Option Addr) (c : Nat) (m : List UInt8) (hs : a.eval s = .slice A m.length c) (hS : SlB w A c m) (hm : m.length = 0 ∨ m.length = 32)
    (h : ∀ w' v, Blk w' gc 35 (dga (if h : m.length = 32 then ⟨m, h⟩ else dg0)) → Below gc w w' → K (a.put o.dst v) w') :
    if Region.wanted o (yielded ops a.tmps) = true then Oper.wp Tryz.prog o a w K Q else E := by
  have hu8 : (Tryz.prog.info? 5).map (·.size) = some 1 := by kernel_rfl
  have h0l : (bvs dg0.1).length = 32 := by have := dg0.2; simp [this]
  cases A with
  | none =>
    have h0 := hS.2.2.2.1 rfl
    have h1 := hS.2.1
    have hl : m.length = 0 := by omega
    have hw : Region.wanted o (yielded ops a.tmps) = true := by simp [Region.wanted, hgd]
    rw [if_pos hw]
    rw [hl] at hs
    have hrun := run_copy_none (P := Tryz.prog) w 52 52 o.type 5 1 (some ⟨gc, 0, none⟩) 32 32 c Tryz.underlying52 hu8
    unfold Oper.wp
    simp [execOp, ho, resolve, invoke, builtin, hd, hs, hrun, Result.andThen]
    refine h _ _ ?_ (Below.refl _ _)
    rw [dif_neg (by omega)]
    exact hB
  | some ad =>
    have hsrc : ∀ j v, (bvs m)[j]? = some v → w.cell? (ad.add j) = some v := fun j v hj => by
      obtain ⟨ad', hA, hc⟩ := hS.2.2.2.2 j v hj
      injection hA with hA
      subst hA
      exact hc
    rcases hm with hm | hm
    · have hn : m = [] := List.eq_nil_of_length_eq_zero hm
      refine step_copyK (E := E) hgd d s 52 52 ho 5 1 Tryz.underlying52 hu8 gc 0 32 32 ad m.length c hd hs (bvs dg0.1) 35 hB [] 0 (by simp [hm]) rfl (by simp) (by simp) (by simp) gc w (Below.refl _ _) (Nat.le_refl _) ?_
      intro w' hw' hb'
      refine h _ _ ?_ hb'
      rw [dif_neg (by omega)]
      have := hw'.out
      rw [splice_nil] at this
      exact this
    · refine step_copyK (E := E) hgd d s 52 52 ho 5 1 Tryz.underlying52 hu8 gc 0 32 32 ad m.length c hd hs (bvs dg0.1) 35 hB (bvs m) 32 (by simp [hm]) (by simp [hm]) hsrc (by rw [h0l]; simp [hm]) (one_bvs m) gc w (Below.refl _ _) (Nat.le_refl _) ?_
      intro w' hw' hb'
      refine h _ _ ?_ hb'
      rw [dif_pos hm]
      have := hw'.out
      rw [show splice (bvs dg0.1) 0 (bvs m) = bvs m from by unfold splice; rw [List.take_zero, List.drop_eq_nil_of_le (by rw [h0l]; simp [hm])]; simp] at this
      exact this
theorem res_dg {fn : Func} {a : Nat} {tmps : Array Value} {w : World} {g : Nat} {d : Dg} (hres : fn.results = #[.cell a 35]) (ha : tmps.getD a undef = .pointer (some ⟨g, 0, none⟩)) (hB : Blk w g 35 (dga d)) : (results fn tmps).run Tryz.prog w = .ok (.agg (dga d)) w := by
  have h := run_loadVar_at (P := Tryz.prog) w ⟨g, 0, none⟩ 35 (dga d) hB.cells _ Tryz.underlying35 rfl (by rw [dga_size]; kernel_rfl)
  have ha' : tmps[a]?.getD undef = .pointer (some ⟨g, 0, none⟩) := by simpa using ha
  simp [results, hres, asAddr, h, ha']
theorem IsR.row2 {w : World} {g B gc : Nat} {s : List UInt8 × Nat} (h : IsR w g B s) (h1 : g < gc) (h2 : B ≤ gc) (cs : Array Value) : IsR (w.setRow gc cs) g B s := IsR.row h h1 h2 cs
set_option maxRecDepth 100000 in
set_option maxHeartbeats 1000000 in
theorem MDig_any {w : World} {g B : Nat} {s : List UInt8 × Nat} (hR : IsR w g B s) (hB : B ≤ w.heap.size) (hl : s.1.length ≤ 1000000000) : Calls Tryz.prog 69 #[.pointer (some ⟨g, 0, none⟩)] w fun e w' => e = .returned (.agg (dga (rDg s).1)) ∧ IsR w' g B (rDg s).2 ∧ Wr w w' g := by
  have hg := hR.lt
  have hst0 : Wr w ((w.alloc (.cells (dga dg0) 35)).alloc (.cells (dga dg0) 35)) g ∧ Blk ((w.alloc (.cells (dga dg0) 35)).alloc (.cells (dga dg0) 35)) w.heap.size 35 (dga dg0) := ⟨((Wr.refl _ _).alloc _).alloc _, (Blk.new w _ _).alloc _⟩
  have hL0 : Blk ((w.alloc (.cells (dga dg0) 35)).alloc (.cells (dga dg0) 35)) (w.heap.size + 1) 35 (dga dg0) := Blk.newAt (by simp) _ _
  have hR0 := (hR.alloc (.cells (dga dg0) 35)).alloc (.cells (dga dg0) 35)
  have hds := Lib.hid (dga_size (rDg s).1)
  have hd0 := Lib.hid (dga_size dg0)
  have hda := Lib.hid (dga_all (rDg s).1)
  go_enter Tryz.func69, Tryz.ntmps69
  go_upto_region 2 with (fail)
  refine gen1 (T := fun W => ((Wr w W g ∧ Blk W w.heap.size 35 (dga dg0)) ∧ Blk W (w.heap.size + 1) 35 (dga dg0)) ∧ IsR W g B s) ⟨⟨hst0, hL0⟩, hR0⟩ (fun w0 hT => ?_)
  clear hst0 hL0 hR0
  obtain ⟨⟨hst, hL⟩, hR0⟩ := hT
  have hstd : Wr w w0.drew g ∧ Blk w0.drew w.heap.size 35 (dga dg0) := ⟨hst.1.drew, hst.2.drew⟩
  have hLd := hL.drew
  have hRd := hR0.drew
  have hlt := hL.lt
  clear hst hL hR0
  refine wp_region_held_drew (S := (fun W => Wr w W g ∧ Blk W w.heap.size 35 (dga dg0))) (by kernel_rfl) ?_ (fun hHeld => ?_)
  · exact hstd
  refine gen0 (T := fun W => ((fun W => Wr w W g ∧ Blk W w.heap.size 35 (dga dg0))) W ∧ IsR W g B s ∧ Blk W (w.heap.size + 1) 35 (dga dg0) ∧ True) ?_ (fun wq1 hT => ?_)
  · exact ⟨by (with_reducible exact hstd), by (with_reducible assumption), by (with_reducible assumption), trivial⟩
  (try clear f0 f1 f2 f3 f4 f5 f6 f7 f8 f9 f10 f11)
  obtain ⟨hHeld, f0, f1, -⟩ := hT
  refine wTk (i := 0) (oi := ⟨some 4, _, _, _, _, _⟩) (v := ?_) rfl ⟨by kernel_rfl, ?_⟩ (by assumption) ?_
  rotate_left
  · (intro wS hSw; (try dsimp only at hSw); clear hSw; go_simp; (try with_reducible rfl))
  (try simp only [Act.put, pS0, pS1, pS2])
  refine wTk (i := 1) (oi := ⟨some 5, _, _, _, _, _⟩) (v := ?_) rfl ⟨by kernel_rfl, ?_⟩ (by assumption) ?_
  rotate_left
  · (intro wS hSw; (try dsimp only at hSw); clear hSw; go_simp; (try with_reducible rfl))
  (try simp only [Act.put, pS0, pS1, pS2])
  refine wpAnyH_ready (rs := [2]) (by kernel_rfl) (by simp) ?_
  refine AllReadyH.cons (o := ⟨some 6, _, _, _, _, _⟩) rfl (fun K hK => ?_) AllReadyH.nil
  go_simp
  (refine (Fixed_s 32 hl f0).mono ?_; rintro e w9 ⟨A9, c9, m9, rfl, hm9, ho9, hR9, hr9⟩)
  go_wp2_with fail
  refine hK.out _ _ ?_ (fun _ => ?_)
  · ((try dsimp only); (with_reducible exact ⟨hHeld.1.trans hr9, hHeld.2.wr hr9 (by omega)⟩))
  clear hK K
  (try simp only [Act.put, pS0, pS1, pS2])
  refine gen0 (T := fun W => ((fun W => Wr w W g ∧ Blk W w.heap.size 35 (dga dg0))) W ∧ IsR W g B (rFixed 32 s).2 ∧ Blk W (w.heap.size + 1) 35 (dga dg0) ∧ SlB W A9 c9 m9 ∧ True) ?_ (fun wq2 hT => ?_)
  · exact ⟨by (with_reducible exact ⟨hHeld.1.trans hr9, hHeld.2.wr hr9 (by omega)⟩), by (with_reducible assumption), by (with_reducible exact Blk.wr (by with_reducible assumption) hr9 (by omega)), by (exact ho9.sl), trivial⟩
  (try clear f0 f1 f2 f3 f4 f5 f6 f7 f8 f9 f10 f11)
  obtain ⟨hHeld, f0, f1, f2, -⟩ := hT
  refine wpAnyH_ready (rs := [3]) (by kernel_rfl) (by simp) ?_
  refine AllReadyH.cons (o := ⟨some 7, _, _, _, _, _⟩) rfl (fun K hK => ?_) AllReadyH.nil
  ((refine step_copyD0 rfl (.tmp 4) (.tmp 6) rfl (w.heap.size + 1) (by with_reducible assumption) rfl A9 c9 m9 rfl (by with_reducible assumption) (by rw [hm9.out]; exact rFixed32 s) ?_; intro w10 v10 hB10 hb10))
  refine hK.out _ _ ?_ (fun _ => ?_)
  · ((try dsimp only); (exact ⟨⟨hb10.os.trans hHeld.1.os, hb10.tape.trans hHeld.1.tape, hb10.output.trans hHeld.1.output, Nat.le_trans hHeld.1.size hb10.size, fun i hi hn => (hb10.block i (by omega)).trans (hHeld.1.block i hi hn)⟩, (hb10.block _ (by omega)).trans hHeld.2⟩))
  clear hK K
  (try simp only [Act.put, pS0, pS1, pS2])
  refine gen0 (T := fun W => ((fun W => Wr w W g ∧ Blk W w.heap.size 35 (dga dg0))) W ∧ IsR W g B (rFixed 32 s).2 ∧ Blk W (w.heap.size + 1) 35 (dga (rDg s).1) ∧ True) ?_ (fun wq3 hT => ?_)
  · exact ⟨by (exact ⟨⟨hb10.os.trans hHeld.1.os, hb10.tape.trans hHeld.1.tape, hb10.output.trans hHeld.1.output, Nat.le_trans hHeld.1.size hb10.size, fun i hi hn => (hb10.block i (by omega)).trans (hHeld.1.block i hi hn)⟩, (hb10.block _ (by omega)).trans hHeld.2⟩), by (exact IsR.apart (by with_reducible assumption) (C := w.heap.size + 1) (by omega) (by omega) hb10), by (exact (by rw [← rDg_eq hm9.out]; exact hB10)), trivial⟩
  (try clear f0 f1 f2 f3 f4 f5 f6 f7 f8 f9 f10 f11)
  obtain ⟨hHeld, f0, f1, -⟩ := hT
  refine wpAnyH_done (by kernel_rfl) ?_ _
  have hq := f1.cells
  go_wp2_with (first | (refine wpl_loadG rfl 35 _ rfl ⟨w.heap.size + 1, 0, none⟩ (dga (rDg s).1) rfl hq _ Tryz.underlying35 rfl (by rw [hds.out]; kernel_rfl) ?_) | (refine wpList_store_row rfl 35 _ _ rfl w.heap.size (dga (rDg s).1) rfl rfl 35 _ hHeld.2 (by rw [hds.out]; kernel_rfl) (by rw [hds.out, hd0.out]) hda.out ?_))
  exact bodyPost_ret (res_dg rfl rfl (g := w.heap.size) hHeld.2.row) rfl ⟨rfl, IsR.row2 f0 (by omega) hB _, ⟨hHeld.1.os, hHeld.1.tape, hHeld.1.output, by simpa using hHeld.1.size, fun i hi hn => (setRow_other _ _ i _ (by omega)).trans (hHeld.1.block i hi hn)⟩⟩
theorem built_ptM (f x y : Int) : ∀ d : Dg, Tryz.prog.built 37 [(0, .int .i64 f), (1, .int .i64 x), (2, .int .i64 y), (3, .agg (dga d))] = some (pta (f, x, y, d)) := by
  refine dg_cases ?_
  intros
  kernel_rfl
theorem wpl_buildPM {w : World} {ops : Array Oper} {rest : List Oper} {o : Oper} {a : Act} {Q : Exit → Act → World → Prop} (hgd : o.guard = none) (x0 x1 x2 x3 : Operand) (ho : o.op = .build 37 #[(0, x0), (1, x1), (2, x2), (3, x3)])
    {f x y : Int} {d : Dg} (h0 : a.eval x0 = .int .i64 f) (h1 : a.eval x1 = .int .i64 x) (h2 : a.eval x2 = .int .i64 y) (h3 : a.eval x3 = .agg (dga d))
    (h : wpList Tryz.prog ops Q rest (a.put o.dst (.agg (pta (f, x, y, d)))) w) : wpList Tryz.prog ops Q (o :: rest) a w := by
  have hl : ((#[(0, x0), (1, x1), (2, x2), (3, x3)] : Array (Nat × Operand)).map fun (i, x) => (i, a.eval x)).toList = [(0, .int .i64 f), (1, .int .i64 x), (2, .int .i64 y), (3, .agg (dga d))] := by
    simp [h0, h1, h2, h3]
  refine wpList_build hgd 37 _ ho ?_ ?_
  · rw [hl, built_ptM]; rfl
  · rw [hl, built_ptM]; exact h
theorem MDig_eq {w : World} {g B : Nat} {s s' : List UInt8 × Nat} {d : Dg} (he : rDg s = (d, s')) (hR : IsR w g B s) (hB : B ≤ w.heap.size) (hl : s.1.length ≤ 1000000000) : Calls Tryz.prog 69 #[.pointer (some ⟨g, 0, none⟩)] w fun e w' => e = .returned (.agg (dga d)) ∧ IsR w' g B s' ∧ Wr w w' g := by
  have h := MDig_any hR hB hl
  rw [he] at h
  exact h
theorem Within_eq {g B n most : Nat} {s s' : List UInt8 × Nat} {w : World} (he : rWithin most s = (n, s')) (hR : IsR w g B s) :
    Calls Tryz.prog 68 #[.pointer (some ⟨g, 0, none⟩), .int .u64 most] w fun e w' => e = .returned (.int .i64 (n : Nat)) ∧ IsR w' g B s' ∧ Wr w w' g := by
  have h := Within_any most hR
  rw [he] at h
  exact h
set_option maxRecDepth 100000 in
set_option maxHeartbeats 1000000 in
theorem MPart_any {w : World} {g B : Nat} {s : List UInt8 × Nat} (f : Int) (hR : IsR w g B s) (hB : B ≤ w.heap.size) (hl : s.1.length ≤ 1000000000) : Calls Tryz.prog 72 #[.pointer (some ⟨g, 0, none⟩), .int .i64 f] w fun e w' => e = .returned (.agg (pta (rPart f s).1)) ∧ IsR w' g B (rPart f s).2 ∧ Wr w w' g := by
  have hg := hR.lt
  obtain ⟨y1, s6, h6⟩ : ∃ n s', rWithin 64 s = (n, s') := ⟨_, _, rfl⟩
  obtain ⟨y2, s7, h7⟩ : ∃ n s', rWithin 65536 s6 = (n, s') := ⟨_, _, rfl⟩
  obtain ⟨d, s8, h8⟩ : ∃ n s', rDg s7 = (n, s') := ⟨_, _, rfl⟩
  have hrp : rPart f s = ((f, (y1 : Int), (y2 : Int), d), s8) := by
    unfold rPart
    simp only [h6, h7, h8]
  have hl7 : s7.1.length ≤ 1000000000 := by
    have l1 := rWithin_len 64 s
    have l2 := rWithin_len 65536 s6
    rw [h6] at l1
    rw [h7] at l2
    dsimp only at l1 l2
    omega
  rw [hrp]
  have H6 := Lib.hid h6
  have H7 := Lib.hid h7
  have H8 := Lib.hid h8
  clear h6 h7 h8 hrp
  have hst0 : Wr w (w.alloc (.cells (pta (0, 0, 0, dg0)) 37)) g ∧ Blk (w.alloc (.cells (pta (0, 0, 0, dg0)) 37)) w.heap.size 37 (pta (0, 0, 0, dg0)) := ⟨(Wr.refl _ _).alloc _, Blk.new w _ _⟩
  have hR0 := hR.alloc (.cells (pta (0, 0, 0, dg0)) 37)
  have hz0 : (w.alloc (.cells (pta (0, 0, 0, dg0)) 37)).heap.size = w.heap.size + 1 := by simp
  go_enter Tryz.func72, Tryz.ntmps72
  go_upto_region 1 with (fail)
  refine gen1 (T := fun W => ((Wr w W g ∧ Blk W w.heap.size 37 (pta (0, 0, 0, dg0)))) ∧ IsR W g B s) ⟨hst0, hR0⟩ (fun w0 hT => ?_)
  clear hst0 hR0 hR
  obtain ⟨⟨hw, hP⟩, hR⟩ := hT
  go_wp2_with fail
  refine (Within_eq H6.out hR).mono ?_
  rintro e w1 ⟨rfl, hR1, hr1⟩
  replace hw := hw.trans hr1
  replace hP := hP.wr hr1 (by omega)
  clear hR hr1
  go_wp2_with fail
  refine (Within_eq H7.out hR1).mono ?_
  rintro e w2 ⟨rfl, hR2, hr2⟩
  replace hw := hw.trans hr2
  replace hP := hP.wr hr2 (by omega)
  clear hR1 hr2
  go_wp2_with fail
  refine (MDig_eq H8.out hR2 (Nat.le_trans hB hw.size) hl7).mono ?_
  rintro e w3 ⟨rfl, hR3, hr3⟩
  replace hw := hw.trans hr3
  replace hP := hP.wr hr3 (by omega)
  clear hR2 hr3
  have hps := Lib.hid (pta_size (f, (y1 : Int), (y2 : Int), d))
  have hp0 := Lib.hid (pta_size (0, 0, 0, dg0))
  have hpa := Lib.hid (pta_all (f, (y1 : Int), (y2 : Int), d))
  go_wp2_with (first | (refine wpl_buildPM rfl _ _ _ _ rfl (f := f) (x := y1) (y := y2) (d := d) rfl rfl rfl rfl ?_) | (refine wpList_store_row rfl 37 _ _ rfl w.heap.size (pta (f, (y1 : Int), (y2 : Int), d)) rfl rfl 37 _ hP (by rw [hps.out]; kernel_rfl) (by rw [hps.out, hp0.out]) hpa.out ?_))
  exact bodyPost_ret (res_pt rfl rfl (g := w.heap.size) hP.row) rfl ⟨rfl, IsR.row2 hR3 (by omega) hB _, ⟨hw.os, hw.tape, hw.output, by simpa using hw.size, fun i hi hn => (setRow_other _ _ i _ (by omega)).trans (hw.block i hi hn)⟩⟩
end Go.Proofs.YtajfnmohlnkncaaGreatDoor
