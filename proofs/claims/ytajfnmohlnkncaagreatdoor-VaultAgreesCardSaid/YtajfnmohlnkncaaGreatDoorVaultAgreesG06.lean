/- WHAT IT HOLDS: Check of segments, the program's and the document's, walked. | WHAT IT HOLDS: the document's Check of segments, and both Same, walked. | WHAT IT HOLDS: Same of segments, the program's and the document's, walked. | WHAT IT HOLDS: a segment as the document's, and a segment's copy, walked. | WHAT IT HOLDS: words for parts and manifests in memory: structs that hold a whole array; loads and stores of whole rows. | WHAT IT HOLDS: which manifests there are, walked. | WHAT IT HOLDS: a segment's copy, walked; append of cells at a step of a region that draws. | WHAT IT HOLDS: Join of segments, walked. | WHAT IT HOLDS: Slice of segments, walked. | WHAT IT HOLDS: sums of bytes, plainly (no program): bit by bit, by the table, joined by exclusive or, and what they find. | WHAT IT HOLDS: sync.Once of one goroutine: its lock, its two deferred calls, and that Do calls a function once, then never again. -/
import Derived.Test.YtajfnmohlnkncaaGreatDoorVaultAgreesG05
import Derived.BigQuiet
import Derived.Deep.QuietTactic
import Derived.Test.YtajfnmohlnkncaaGreatDoorVaultAgreesG01
import Derived.Deep.WholeRow
import Derived.ChangeKeysEq
import Derived.Test.YtajfnmohlnkncaaGreatDoorVaultAgreesG04
import Derived.Laws.BitsAllLaws
import Derived.Test.YtajfnmohlnkncaaGreatDoorRows
import Derived.Tactics
import Derived.Tactics2
import Derived.Defers
import Derived.Laws.Pointers
import Derived.Laws.LoneSync
import Derived.RegionTactic
import Derived.RegionCalls
namespace Go.Proofs.YtajfnmohlnkncaaGreatDoor
section
open Go.RowKit
attribute [local go_sem ↓] Go.wp_at_zero Go.wp_at_succ
set_option maxRecDepth 100000 in
set_option maxHeartbeats 400000 in
theorem SEnd_any (f : Int) (E : Option Addr) (n c : Nat) (w : World) (h0 : 0 ≤ f) (h1 : f ≤ 1048576) (h2 : n ≤ 100000000) :
 Calls Tryz.prog 129 #[cv f E n c] w fun e w' => e = .returned (.int .i64 (f + (n : Int))) ∧ Below w.heap.size w w' := by
 have hbw := below_new w (.cells #[.int .i64 f, .slice E n c] 43)
 go_enter Tryz.func129, Tryz.ntmps129
 go_wp2_with fail
 go_ret
 exact ⟨rfl, hbw⟩
set_option maxRecDepth 100000 in
set_option maxHeartbeats 1000000 in
theorem SCheck_any {E : Option Addr} {cap : Nat} (f : Int) (cs : List CeV) (w : World) (h : SlC w E cap cs) :
 Calls Tryz.prog 107 #[cv f E cs.length cap] w fun e w' => e = .returned (errv (schk (f, cs.map ceOf))) ∧ Below w.heap.size w w' := by
 have hmax := h.1.len_le
 unfold maxLen at hmax
 have hbw := below_new w (.cells #[.int .i64 f, .slice E cs.length cap] 43)
 have hB := Blk.new w 43 #[.int .i64 f, .slice E cs.length cap]
 by_cases h1 : f < 0
 · have hc := Lib.hid (schk_range (s := (f, cs.map ceOf)) (.inl h1))
   go_enter Tryz.func107, Tryz.ntmps107
   go_wp2_with fail
   go_ret
   exact ⟨by rw [hc.out]; rfl, hbw⟩
 by_cases h2 : 1048576 < f
 · have hc := Lib.hid (schk_range (s := (f, cs.map ceOf)) (.inr h2))
   go_enter Tryz.func107, Tryz.ntmps107
   go_wp2_with fail
   go_ret
   exact ⟨by rw [hc.out]; rfl, hbw⟩
 have hr : ¬ (f < 0 ∨ 1048576 < f) := by omega
 by_cases h3 : 64 < cs.length
 · have hc := Lib.hid (schk_long (s := (f, cs.map ceOf)) hr (by simpa using h3))
   clear hr
   go_enter Tryz.func107, Tryz.ntmps107
   go_wp2_with fail
   go_ret
   exact ⟨by rw [hc.out]; rfl, hbw⟩
 by_cases h4 : 1048576 < f + cs.length
 · have hc := Lib.hid (schk_far (s := (f, cs.map ceOf)) hr (by simpa using h3) (by simpa using h4))
   clear hr
   obtain ⟨a0, a1, _, _⟩ := hB.two
   go_enter Tryz.func107, Tryz.ntmps107
   go_wp2_with fail
   refine (SEnd_any f E cs.length cap _ (by omega) (by omega) (by omega)).mono ?_
   rintro e w1 ⟨rfl, hb1⟩
   go_wp2_with fail
   go_ret
   exact ⟨by rw [hc.out]; rfl, bel_call hbw hb1⟩
 have hc := Lib.hid (schk_cells (s := (f, cs.map ceOf)) hr (by simpa using h3) (by simpa using h4))
 clear hr
 obtain ⟨a0, a1, _, _⟩ := hB.two
 go_enter Tryz.func107, Tryz.ntmps107
 go_wp2_with fail
 refine (SEnd_any f E cs.length cap _ (by omega) (by omega) (by omega)).mono ?_
 rintro e w1 ⟨rfl, hb1⟩
 have hw1 := bel_call hbw hb1
 have hB1 := hB.below hb1
 obtain ⟨a0, a1, _, _⟩ := hB1.two
 clear hB hbw hb1 hB1
 go_wp2_with fail
 go_loopw [30] (fun x wr => ∃ k : Nat, k ≤ cs.length ∧ x = .int .i64 k ∧ Hid (∀ c ∈ (cs.map ceOf).take k, cchk c = 0) ∧ Below w.heap.size w wr) (fun x w => cs.length - (intOf x).toNat)
 case atStart => exact ⟨0, Nat.zero_le _, rfl, (fun c hc => by simp at hc), hw1⟩
 case round =>
  obtain ⟨k, hk, rfl, hall, hbr⟩ := hrel
  clear a0 a1
  by_cases hlt : k < cs.length
  · obtain ⟨ad, b, o, rfl, had, hc0, hc1, _⟩ := (h.below hbr).at2 hlt
    have hbad := Lib.hid (rchk_at (l := cs.map ceOf) (k := k) (by simpa using hlt) hall.out)
    have hgood : Hid (cchk ((cs.map ceOf)[k]'(by simpa using hlt)) = 0 → ∀ c ∈ (cs.map ceOf).take (k + 1), cchk c = 0) := (show _ → _ from fun h c hc => by
     rw [List.take_succ_eq_append_getElem (by simpa using hlt), List.mem_append] at hc
     rcases hc with hc | hc
     · exact hall.out c hc
     · simp only [List.mem_singleton] at hc
       rw [hc]; exact h)
    rw [List.getElem_map] at hbad hgood
    generalize cs[k] = x at *
    obtain ⟨kk, A, c, d⟩ := x
    dsimp only [ceOf] at *
    have hC := fun W => CCheck_any (A := A) (c := c) kk d W
    rcases errv_cases (cchk (kk, d)) with ⟨h1, e1⟩ | ⟨n1, p1, q1, e1⟩
    · simp only [e1] at hC
      have C1 := Lib.hid hC
      have hg := Lib.hid (hgood.out h1)
      clear hC h1 e1 hgood hbad
      go_wp2_with fail
      refine (C1.out _).mono ?_
      rintro e w4 ⟨rfl, hb4⟩
      have hn4 := bel_call (bel_alloc hbr (.cells #[.int .i64 kk, .slice A d.length c] 54)) hb4
      go_wp2_with fail
      go_roundw
      case rel => exact ⟨k + 1, hlt, by go_num, hg, hn4⟩
      case measure => simp [intOf]; omega
    · simp only [e1] at hC
      have C1 := Lib.hid hC
      have hr : Hid (rchk (cs.map ceOf) = cchk (kk, d)) := Lib.hid (hbad.out (by omega))
      have E1 := Lib.hid e1
      clear hC hbad hgood e1 q1
      go_wp2_with fail
      refine (C1.out _).mono ?_
      rintro e w4 ⟨rfl, hb4⟩
      have hn4 := bel_call (bel_alloc hbr (.cells #[.int .i64 kk, .slice A d.length c] 54)) hb4
      go_wp2_with fail
      go_ret
      exact ⟨by rw [hc.out]; dsimp only; rw [hr.out, E1.out]; rfl, hn4⟩
  · go_wp2_with fail
    go_ret
    have h5 : rchk (cs.map ceOf) = 0 := rchk_ok fun c hc => hall.out c (by rw [List.take_of_length_le (by simp; omega)]; exact hc)
    exact ⟨by rw [hc.out]; dsimp only; rw [h5]; rfl, hbr⟩
theorem res_sg2 {fn : Func} {a b : Nat} {tmps : Array Value} {w : World} {g : Nat} {x y : Value} (hres : fn.results = #[.cell a 43, .tmp b]) (ha : tmps.getD a undef = .pointer (some ⟨g, 0, none⟩)) (hB : Blk w g 43 #[x, y]) :
 (results fn tmps).run Tryz.prog w = .ok (.tuple #[.agg #[x, y], tmps.getD b undef]) w := by
 obtain ⟨b0, b1, _, _⟩ := hB.two
 have ha' : tmps[a]?.getD undef = .pointer (some ⟨g, 0, none⟩) := by simpa using ha
 simp [results, hres, go_sem, b0, b1, ha']
theorem Own.set2 {w : World} {base : Nat} {e : TypeId} {size n c : Nat} {A : Option Addr} {xs : List Value} (h : Own w base e size A n c xs) {g : Nat} (hg : g < base) (u v : Value) : Own ((w.setCell ⟨g, 0, none⟩ u).setCell ⟨g, 1, none⟩ v) base e size A n c xs :=
 ownsRow_setCell_below (a := ⟨g, 1, none⟩) (ownsRow_setCell_below (a := ⟨g, 0, none⟩) h hg u) hg v
theorem gen0 {T R : World → Prop} {W : World} (hT : T W) (k : ∀ W, T W → R W) : R W := k W hT
end
section
open Go.RowKit
section
variable {P : Program}
theorem run_loadVar_at (w : World) (ad : Addr) (ty : TypeId) (cs : Array Value) (hc : ∀ j u, cs[j]? = some u → w.cell? (ad.add j) = some u) (d : TypeDesc) (hu : P.underlying ty = some d) (hd : (match d with | .struct _ | .array _ _ => true | _ => false) = true) (hi : (P.info? ty).map (·.size) = some cs.size) :
 (loadVar ty ad).run P w = .ok (.agg cs) w := by
 have hl := run_loadCells_list (P := P) w ad cs.toList (fun j u hj => hc j u (by simpa using hj))
 cases hq : P.info? ty with
 | none => simp [hq] at hi
 | some i =>
  have hs : i.size = cs.size := by simpa [hq] using hi
  have hagg : (isAgg ty).run P w = .ok true w := by
   unfold isAgg
   rw [Sem.run_bind, run_underlying hu w]
   cases d <;> simp_all
  simp only [Array.length_toList, Array.toArray_toList] at hl
  simp [loadVar, Sem.run_bind, hagg, sizeOf, typeInfo, hq, hs, hl]
theorem wp_loadA {o : Oper} {a : Act} {w : World} {K : Act → World → Prop} {Q : Exit → Act → World → Prop} (ty : TypeId) (x : Operand) (ho : o.op = .load ty x)
 (ad : Addr) (cs : Array Value) (hx : a.eval x = .pointer (some ad)) (hc : ∀ j u, cs[j]? = some u → w.cell? (ad.add j) = some u) (d : TypeDesc) (hu : P.underlying ty = some d) (hd : (match d with | .struct _ | .array _ _ => true | _ => false) = true) (hi : (P.info? ty).map (·.size) = some cs.size)
 (h : K (a.put o.dst (.agg cs)) w) : o.wp P a w K Q := by
 unfold Oper.wp execOp
 simp only [ho, hx, Instr.loadAt, Instr.sureAddr, Sem.run_bind, Sem.run_pure, Result.andThen_ok, run_loadVar_at w ad ty cs hc d hu hd hi]
 exact h
theorem wpl_loadG {ops : Array Oper} {rest : List Oper} {o : Oper} {a : Act} {w : World} {Q : Exit → Act → World → Prop} (hgd : Region.wanted o (yielded ops a.tmps) = true) (ty : TypeId) (x : Operand) (ho : o.op = .load ty x)
 (ad : Addr) (cs : Array Value) (hx : a.eval x = .pointer (some ad)) (hc : ∀ j u, cs[j]? = some u → w.cell? (ad.add j) = some u) (d : TypeDesc) (hu : P.underlying ty = some d) (hd : (match d with | .struct _ | .array _ _ => true | _ => false) = true) (hi : (P.info? ty).map (·.size) = some cs.size)
 (h : wpList P ops Q rest (a.put o.dst (.agg cs)) w) : wpList P ops Q (o :: rest) a w :=
 wpList_step fun _ hK => by
  rw [if_pos hgd]
  exact wp_loadA ty x ho ad cs hx hc d hu hd hi (hK _ _ h)
theorem wpl_storeN {ops : Array Oper} {rest : List Oper} {o : Oper} {a : Act} {w : World} {Q : Exit → Act → World → Prop} (hgd : o.guard = none) (ty : TypeId) (x y : Operand) (ho : o.op = .store ty x y)
 (old cells : Array Value) (t : TypeId) (hx : a.eval x = .pointer (some ⟨w.heap.size, 0, none⟩)) (hy : a.eval y = .agg cells) (hi : (P.info? ty).map (·.size) = some cells.size) (hold : old.size = cells.size) (h1 : cells.all (·.oneCell') = true)
 (h : wpList P ops Q rest (a.put o.dst undef) (w.alloc (.cells cells t))) : wpList P ops Q (o :: rest) a (w.alloc (.cells old t)) :=
 wpList_store_row hgd ty x y ho w.heap.size cells hx hy t old (heap_alloc_new w _) hi hold h1 (by rw [World.setRow_alloc_new]; exact h)
end
def ptl (p : Pt5) : List Value := .int .i64 p.1 :: .int .i64 p.2.1 :: .int .i64 p.2.2.1 :: bvs p.2.2.2.1
theorem ptl_len (p : Pt5) : (ptl p).length = 35 := by
 have := p.2.2.2.2
 simp [ptl, this]
theorem ptl_one (p : Pt5) : ∀ u ∈ ptl p, u.oneCell' = true := by
 intro u hu
 simp only [ptl, List.mem_cons] at hu
 rcases hu with rfl | rfl | rfl | hu
 · rfl
 · rfl
 · rfl
 · exact one_bvs _ u hu
theorem ptl_all (p : Pt5) : (ptl p).toArray.all (·.oneCell') = true := by
 rw [Array.all_eq_true_iff_forall_mem]
 intro u hu
 exact ptl_one p u (by simpa using hu)
def mfl (n f t r : Int) (d : Dg) (A : Option Addr) (k c : Nat) : List Value := .int .i64 n :: .int .i64 f :: .int .i64 t :: .int .i64 r :: (bvs d.1 ++ [.slice A k c])
theorem mfl_len (n f t r : Int) (d : Dg) (A : Option Addr) (k c : Nat) : (mfl n f t r d A k c).length = 37 := by
 have := d.2
 simp [mfl, this]
def dga (d : Dg) : Array Value := (bvs d.1).toArray
def pta (p : Pt5) : Array Value := (ptl p).toArray
def mfa (n f t r : Int) (d : Dg) (A : Option Addr) (k c : Nat) : Array Value := (mfl n f t r d A k c).toArray
theorem dga_size (d : Dg) : (dga d).size = 32 := by have := d.2; simp [dga, this]
theorem pta_size (p : Pt5) : (pta p).size = 35 := by have := ptl_len p; simp [pta, this]
theorem mfa_size (n f t r : Int) (d : Dg) (A : Option Addr) (k c : Nat) : (mfa n f t r d A k c).size = 37 := by have := mfl_len n f t r d A k c; simp [mfa, this]
theorem pta_all (p : Pt5) : (pta p).all (·.oneCell') = true := ptl_all p
def SlP (w : World) (E : Option Addr) (cap : Nat) (ps : List Pt5) : Prop := Sl w 35 E ps.length cap (ps.flatMap ptl)
theorem SlP.below {w w' : World} {E : Option Addr} {cap : Nat} {ps : List Pt5} (h : SlP w E cap ps) (hb : Below w.heap.size w w') : SlP w' E cap ps := Sl.below h hb
theorem SlP.at {w : World} {E : Option Addr} {cap : Nat} {ps : List Pt5} (h : SlP w E cap ps) {k : Nat} (hk : k < ps.length) :
 ∃ ad b o, E = some ad ∧ ad.add (k * 35) = ⟨b, o, none⟩ ∧ ∀ j u, (pta ps[k])[j]? = some u → w.cell? ((⟨b, o, none⟩ : Addr).add j) = some u := by
 obtain ⟨ad, b, o, h1, h2, h3⟩ := Sl.atS (f := ptl) ptl_len (by decide) h hk
 exact ⟨ad, b, o, h1, h2, fun j u hj => by rw [addr_lit]; exact h3 j u (by simpa [pta] using hj)⟩
abbrev BlM (w : World) (g : Nat) (n f t r : Int) (d : Dg) (A : Option Addr) (k c : Nat) : Prop := Blk w g 46 (mfa n f t r d A k c)
theorem Blk.cells {w : World} {g : Nat} {t : TypeId} {cs : Array Value} (h : Blk w g t cs) : ∀ j u, cs[j]? = some u → w.cell? ((⟨g, 0, none⟩ : Addr).add j) = some u := fun j u hj => by
 rw [addr_lit, Nat.zero_add, h.cell]
 exact hj
section
variable {w : World} {g : Nat} {n f t r : Int} {d : Dg} {A : Option Addr} {k c : Nat}
theorem BlM.five (h : BlM w g n f t r d A k c) : w.cell? ⟨g, 0, none⟩ = some (.int .i64 n) ∧ w.cell? ⟨g, 1, none⟩ = some (.int .i64 f) ∧ w.cell? ⟨g, 2, none⟩ = some (.int .i64 t) ∧ w.cell? ⟨g, 3, none⟩ = some (.int .i64 r) ∧ w.cell? ⟨g, 36, none⟩ = some (.slice A k c) := by
 refine ⟨(h.cell 0).trans rfl, (h.cell 1).trans rfl, (h.cell 2).trans rfl, (h.cell 3).trans rfl, (h.cell 36).trans ?_⟩
 have := d.2
 simp [mfa, mfl, this]
theorem BlM.dg (h : BlM w g n f t r d A k c) : ∀ j u, (dga d)[j]? = some u → w.cell? ((⟨g, 4, none⟩ : Addr).add j) = some u := fun j u hj => by
 rw [addr_lit, h.cell]
 replace hj : (bvs d.1)[j]? = some u := by simpa [dga] using hj
 have hj2 : j < (bvs d.1).length := (List.getElem?_eq_some_iff.1 hj).1
 rw [show 4 + j = j + 1 + 1 + 1 + 1 from by omega]
 simp only [mfa, mfl, List.getElem?_toArray, List.getElem?_cons_succ]
 rw [List.getElem?_append_left hj2]
 exact hj
end
abbrev BlP (w : World) (g : Nat) (p : Pt5) : Prop := Blk w g 37 (pta p)
theorem BlP.three {w : World} {g : Nat} {p : Pt5} (h : BlP w g p) : w.cell? ⟨g, 0, none⟩ = some (.int .i64 p.1) ∧ w.cell? ⟨g, 1, none⟩ = some (.int .i64 p.2.1) ∧ w.cell? ⟨g, 2, none⟩ = some (.int .i64 p.2.2.1) :=
 ⟨(h.cell 0).trans rfl, (h.cell 1).trans rfl, (h.cell 2).trans rfl⟩
theorem eqItems_bytes {P : Program} {e : TypeId} (he : P.underlying e = some (.int .u8)) (d : Nat) (xs ys : List UInt8) (w : World) : ∀ is : List Nat, (∀ i ∈ is, i < xs.length ∧ i < ys.length) →
 (Op.eqItems (d + 1) e 1 (bvs xs).toArray (bvs ys).toArray is).run P w = .ok (is.all fun i => decide (xs[i]? = ys[i]?)) w
 | [], _ => by simp [Op.eqItems]
 | i :: is, h => by
  obtain ⟨h1, h2⟩ := h i (.head _)
  have ih := eqItems_bytes he d xs ys w is fun j hj => h j (.tail _ hj)
  have hagg : (isAgg e).run P w = .ok false w := by
   unfold isAgg
   rw [Sem.run_bind, run_underlying he w]
   rfl
  have hx : (part e (bvs xs).toArray (i * 1)).run P w = .ok (bv xs[i]) w := by
   unfold part
   rw [Sem.run_bind, hagg]
   simp [List.getElem?_eq_getElem h1]
  have hy : (part e (bvs ys).toArray (i * 1)).run P w = .ok (bv ys[i]) w := by
   unfold part
   rw [Sem.run_bind, hagg]
   simp [List.getElem?_eq_getElem h2]
  simp only [Op.eqItems, Sem.run_bind, hx, hy, Result.andThen_ok, run_equalIn_int w d e .u8 .u8 _ _ he]
  have hb : ((xs[i].toNat : Int) == (ys[i].toNat : Int)) = decide (xs[i]? = ys[i]?) := by
   rw [List.getElem?_eq_getElem h1, List.getElem?_eq_getElem h2, Bool.eq_iff_iff]
   simp only [beq_iff_eq, decide_eq_true_eq, Option.some.injEq]
   constructor
   · intro h; exact UInt8.toNat_inj.1 (by omega)
   · intro h; rw [h]
  rw [hb]
  cases hq : decide (xs[i]? = ys[i]?)
  · simp [hq]
  · simp [hq, ih]
theorem dg_all (a b : Dg) : ((List.range 32).all fun i => decide (a.1[i]? = b.1[i]?)) = decide (a = b) := by
 rw [Bool.eq_iff_iff]
 simp only [List.all_eq_true, decide_eq_true_eq, List.mem_range]
 constructor
 · intro h
   apply Subtype.ext
   apply List.ext_getElem?
   intro i
   rcases Nat.lt_or_ge i 32 with h1 | h1
   · exact h i h1
   · rw [List.getElem?_eq_none (by rw [a.2]; exact h1), List.getElem?_eq_none (by rw [b.2]; exact h1)]
 · rintro rfl i _
   rfl
theorem eql_dg (a b : Dg) (w : World) : (binOp .eql 35 (.agg (dga a)) (.agg (dga b))).run Tryz.prog w = .ok (.bool (decide (a = b))) w := by
 unfold dga
 rw [run_eql_struct]
 obtain ⟨i, hi⟩ : ∃ i, Tryz.prog.info? 5 = some i := Option.isSome_iff_exists.1 (by kernel_rfl)
 rw [run_equalIn_array (P := Tryz.prog) (w := w) 9999 (t := 35) (e := 5) (n := 32) (i := i) _ _ Tryz.underlying35 hi]
 rw [show Tryz.prog.cellsOf 5 = 1 from by kernel_rfl]
 rw [eqItems_bytes (P := Tryz.prog) Tryz.underlying5 9998 a.1 b.1 w _ (fun i hi => by have := List.mem_range.1 hi; rw [a.2, b.2]; exact ⟨this, this⟩)]
 rw [dg_all]
 rfl
end
section
open Go.RowKit
attribute [local go_sem ↓] Go.wp_at_zero Go.wp_at_succ
set_option maxRecDepth 100000 in
set_option maxHeartbeats 400000 in
theorem MIn_any (x m : Int) (w : World) : Calls Tryz.prog 80 #[.int .i64 x, .int .i64 m] w fun e w' => e = .returned (.bool (inb x m)) ∧ w = w' := by
 go_enter Tryz.func80, Tryz.ntmps80
 by_cases h : 0 ≤ x
 · have h2 : decide (0 ≤ x) = true := by simp [h]
   go_wp2_with fail
   go_ret
   exact ⟨by unfold inb; rw [h2]; rfl, rfl⟩
 · have h2 : decide (0 ≤ x) = false := by simp [h]
   go_wp2_with fail
   go_ret
   exact ⟨by unfold inb; rw [h2]; rfl, rfl⟩
theorem zeros : (#[.int .u8 0, .int .u8 0, .int .u8 0, .int .u8 0, .int .u8 0, .int .u8 0, .int .u8 0, .int .u8 0, .int .u8 0, .int .u8 0, .int .u8 0, .int .u8 0, .int .u8 0, .int .u8 0, .int .u8 0, .int .u8 0, .int .u8 0, .int .u8 0, .int .u8 0, .int .u8 0, .int .u8 0, .int .u8 0, .int .u8 0, .int .u8 0, .int .u8 0, .int .u8 0, .int .u8 0, .int .u8 0, .int .u8 0, .int .u8 0, .int .u8 0, .int .u8 0] : Array Value) = dga dg0 := rfl
set_option maxRecDepth 100000 in
set_option maxHeartbeats 1000000 in
theorem Zero_any (d : Dg) (w : World) : Calls Tryz.prog 81 #[.agg (dga d)] w fun e w' => e = .returned (.bool (decide (d = dg0))) ∧ Below w.heap.size w w' := by
 have hB := Blk.new w 35 (dga d)
 have hE := eql_dg d dg0
 rw [← zeros] at hE
 have hsz := Lib.hid (dga_size d)
 generalize decide (d = dg0) = zb at *
 generalize dga d = da at *
 go_enter Tryz.func81, Tryz.ntmps81
 go_wp2_with (refine wpl_loadG rfl 35 _ rfl _ da rfl hB.cells _ Tryz.underlying35 rfl (by rw [hsz.out]; kernel_rfl) ?_)
 go_ret
 exact ⟨rfl, below_new _ _⟩
theorem wrap_sub1 {m c : Int} (h : I64 m) (hc : 0 ≤ c) (hc2 : c ≤ 1000000) : inb (wrap64 (m - 1)) c = (decide (1 ≤ m) && decide (m ≤ c + 1)) := by
 unfold I64 at h
 obtain ⟨h1, h2⟩ := h
 unfold inb
 rw [Bool.eq_iff_iff]
 simp only [Bool.and_eq_true, decide_eq_true_eq, wrap64]
 omega
theorem ptchk_range {p : Pt5} {a : Int} (h : (decide (1 ≤ p.2.1) && decide (p.2.1 ≤ 63 + 1)) = false ∨ (decide (1 ≤ p.2.2.1) && decide (p.2.2.1 ≤ 65535 + 1)) = false) : ptchk p a = 1 := by
 unfold ptchk
 simp only [Bool.and_eq_false_iff, decide_eq_false_iff_not] at h
 rw [if_pos (by omega)]
theorem ptchk_at {p : Pt5} {a : Int} (h : (decide (1 ≤ p.2.1) && decide (p.2.1 ≤ 63 + 1)) = true) (h2 : (decide (1 ≤ p.2.2.1) && decide (p.2.2.1 ≤ 65535 + 1)) = true) : ptchk p a = if p.1 ≠ a then 2 else 0 := by
 unfold ptchk
 simp only [Bool.and_eq_true, decide_eq_true_eq] at h h2
 rw [if_neg (by omega)]
set_option maxRecDepth 100000 in
set_option maxHeartbeats 1000000 in
theorem PtCheck_any (p : Pt5) (a : Int) (h1 : I64 p.2.1) (h2 : I64 p.2.2.1) (w : World) :
 Calls Tryz.prog 82 #[.agg (pta p), .int .i64 a] w fun e w' => e = .returned (errv (ptchk p a)) ∧ Below w.heap.size w w' := by
 have hB := Blk.new w 37 (pta p)
 have hbw := below_new w (.cells (pta p) 37)
 have hI1 := wrap_sub1 h1 (c := 63) (by decide) (by decide)
 have hI2 := wrap_sub1 h2 (c := 65535) (by decide) (by decide)
 have hbad := fun h => Lib.hid (ptchk_range (p := p) (a := a) h)
 have hgood := fun h h2 => Lib.hid (ptchk_at (p := p) (a := a) h h2)
 generalize (decide (1 ≤ p.2.1) && decide (p.2.1 ≤ 63 + 1)) = b1 at *
 generalize (decide (1 ≤ p.2.2.1) && decide (p.2.2.1 ≤ 65535 + 1)) = b2 at *
 obtain ⟨c0, c1, c2⟩ := BlP.three hB
 obtain ⟨z1, hz1⟩ : ∃ z, wrap64 (p.2.1 - 1) = z := ⟨_, rfl⟩
 obtain ⟨z2, hz2⟩ : ∃ z, wrap64 (p.2.2.1 - 1) = z := ⟨_, rfl⟩
 have hw1 : IntKind.i64.wrap (p.2.1 - 1) = z1 := by rw [IntKind.wrap_i64]; simpa only [wrap64] using hz1
 have hw2 : IntKind.i64.wrap (p.2.2.1 - 1) = z2 := by rw [IntKind.wrap_i64]; simpa only [wrap64] using hz2
 have hC1 := fun W => MIn_any z1 63 W
 have hC2 := fun W => MIn_any z2 65535 W
 rw [hz1] at hI1
 rw [hz2] at hI2
 rw [hI1] at hC1
 rw [hI2] at hC2
 have HC1 := Lib.hid hC1
 have HC2 := Lib.hid hC2
 clear hC1 hC2 hI1 hI2 h1 h2 hB
 generalize pta p = pa at *
 go_enter Tryz.func82, Tryz.ntmps82
 go_wp2_with fail
 refine (HC1.out _).mono ?_
 rintro e w1 ⟨rfl, rfl⟩
 cases b1 with
 | false =>
  have hc := hbad (.inl rfl)
  clear hbad hgood
  go_wp2_with fail
  go_ret
  exact ⟨by rw [hc.out]; rfl, hbw⟩
 | true =>
  go_wp2_with fail
  refine (HC2.out _).mono ?_
  rintro e w1 ⟨rfl, rfl⟩
  cases b2 with
  | false =>
   have hc := hbad (.inr rfl)
   clear hbad hgood
   go_wp2_with fail
   go_ret
   exact ⟨by rw [hc.out]; rfl, hbw⟩
  | true =>
   have hg := hgood trivial rfl
   clear hbad hgood
   by_cases ha : p.1 = a
   · have hb : (p.1 != a) = false := by simp [ha]
     have hc : Hid (ptchk p a = 0) := (show _ = _ from by rw [hg.out, if_neg (by simp [ha])])
     clear hg ha
     go_wp2_with fail
     go_ret
     exact ⟨by rw [hc.out]; rfl, hbw⟩
   · have hb : (p.1 != a) = true := by simpa using ha
     have hc : Hid (ptchk p a = 2) := (show _ = _ from by rw [hg.out, if_pos ha])
     clear hg ha
     go_wp2_with fail
     go_ret
     exact ⟨by rw [hc.out]; rfl, hbw⟩
theorem mchk_range {m : Mf} (h : inb m.1 999999 = false ∨ inb m.2.1 1048576 = false ∨ inb m.2.2.1 1048576 = false ∨ inb m.2.2.2.1 1048576 = false) : mchk m = 1 := by
 unfold mchk
 rw [if_pos]
 rcases h with h | h | h | h <;> simp [h]
theorem mchk_form {m : Mf} (h1 : inb m.1 999999 = true) (h2 : inb m.2.1 1048576 = true) (h3 : inb m.2.2.1 1048576 = true) (h4 : inb m.2.2.2.1 1048576 = true) (h : m.2.2.1 < m.2.1 ∨ (m.1 = 0 ∧ decide (m.2.2.2.2.1 = dg0) = false)) : mchk m = 2 := by
 unfold mchk
 rw [if_neg (by simp [h1, h2, h3, h4]), if_pos]
 rcases h with h | ⟨h, h5⟩
 · simp [h]
 · rw [h, h5]; simp
theorem mchk_rest {m : Mf} (h1 : inb m.1 999999 = true) (h2 : inb m.2.1 1048576 = true) (h3 : inb m.2.2.1 1048576 = true) (h4 : inb m.2.2.2.1 1048576 = true) (h5 : ¬ m.2.2.1 < m.2.1) (h6 : m.1 = 0 → decide (m.2.2.2.2.1 = dg0) = true) :
 mchk m = if 1024 < m.2.2.2.2.2.length then 3 else pgo m.2.2.1 m.2.1 m.2.2.2.2.2 := by
 unfold mchk
 rw [if_neg (by simp [h1, h2, h3, h4]), if_neg]
 simp only [Bool.or_eq_true, Bool.and_eq_true, decide_eq_true_eq, beq_iff_eq, not_or, not_and]
 exact ⟨h5, fun h => by rw [h6 h]; simp⟩
def PtsI (ps : List Pt5) : Prop := ∀ p ∈ ps, I64 p.1 ∧ I64 p.2.1 ∧ I64 p.2.2.1
theorem pgo_step {z a : Int} {l : List Pt5} {k : Nat} (hk : k < l.length) (h : ptchk l[k] a = 0) : pgo z a (l.drop k) = pgo z (a + l[k].2.1) (l.drop (k + 1)) := by
 rw [List.drop_eq_getElem_cons hk, pgo, if_neg (by rw [h]; simp)]
theorem pgo_stop {z a : Int} {l : List Pt5} {k : Nat} (hk : k < l.length) (h : ptchk l[k] a ≠ 0) : pgo z a (l.drop k) = ptchk l[k] a := by
 rw [List.drop_eq_getElem_cons hk, pgo, if_pos h]
set_option maxRecDepth 100000 in
set_option maxHeartbeats 4000000 in
theorem MCheck_any {A : Option Addr} {c : Nat} (n f t r : Int) (d : Dg) (ps : List Pt5) (w : World) (h : SlP w A c ps) (hI : PtsI ps) :
 Calls Tryz.prog 41 #[.agg (mfa n f t r d A ps.length c)] w fun e w' => e = .returned (errv (mchk (n, f, t, r, d, ps))) ∧ Below w.heap.size w w' := by
 have hB : BlM _ w.heap.size n f t r d A ps.length c := Blk.new w 46 (mfa n f t r d A ps.length c)
 have hbw := below_new w (.cells (mfa n f t r d A ps.length c) 46)
 have hmax := h.len_le
 unfold maxLen at hmax
 obtain ⟨b1, hb1⟩ : ∃ b, inb n 999999 = b := ⟨_, rfl⟩
 obtain ⟨b2, hb2⟩ : ∃ b, inb f 1048576 = b := ⟨_, rfl⟩
 obtain ⟨b3, hb3⟩ : ∃ b, inb t 1048576 = b := ⟨_, rfl⟩
 obtain ⟨b4, hb4⟩ : ∃ b, inb r 1048576 = b := ⟨_, rfl⟩
 have hC1 := fun W => MIn_any n 999999 W
 have hC2 := fun W => MIn_any f 1048576 W
 have hC3 := fun W => MIn_any t 1048576 W
 have hC4 := fun W => MIn_any r 1048576 W
 rw [hb1] at hC1
 rw [hb2] at hC2
 rw [hb3] at hC3
 rw [hb4] at hC4
 have HC1 := Lib.hid hC1
 have HC2 := Lib.hid hC2
 have HC3 := Lib.hid hC3
 have HC4 := Lib.hid hC4
 have HB1 := Lib.hid hb1
 have HB2 := Lib.hid hb2
 have HB3 := Lib.hid hb3
 have HB4 := Lib.hid hb4
 clear hb1 hb2 hb3 hb4 hC1 hC2 hC3 hC4
 obtain ⟨a0, a1, a2, a3, a4⟩ := BlM.five hB
 have hdg := Lib.hid hB.dg
 have hds := Lib.hid (dga_size d)
 go_enter Tryz.func41, Tryz.ntmps41
 go_wp2_with fail
 refine (HC1.out _).mono ?_
 rintro e w1 ⟨rfl, rfl⟩
 cases b1 with
 | false =>
  have HC := Lib.hid (mchk_range (m := (n, f, t, r, d, ps)) (.inl HB1.out))
  go_wp2_with fail
  go_ret
  exact ⟨by rw [HC.out]; rfl, hbw⟩
 | true =>
 go_wp2_with fail
 refine (HC2.out _).mono ?_
 rintro e w1 ⟨rfl, rfl⟩
 cases b2 with
 | false =>
  have HC := Lib.hid (mchk_range (m := (n, f, t, r, d, ps)) (.inr (.inl HB2.out)))
  go_wp2_with fail
  go_ret
  exact ⟨by rw [HC.out]; rfl, hbw⟩
 | true =>
 go_wp2_with fail
 refine (HC3.out _).mono ?_
 rintro e w1 ⟨rfl, rfl⟩
 cases b3 with
 | false =>
  have HC := Lib.hid (mchk_range (m := (n, f, t, r, d, ps)) (.inr (.inr (.inl HB3.out))))
  go_wp2_with fail
  go_ret
  exact ⟨by rw [HC.out]; rfl, hbw⟩
 | true =>
 go_wp2_with fail
 refine (HC4.out _).mono ?_
 rintro e w1 ⟨rfl, rfl⟩
 cases b4 with
 | false =>
  have HC := Lib.hid (mchk_range (m := (n, f, t, r, d, ps)) (.inr (.inr (.inr HB4.out))))
  go_wp2_with fail
  go_ret
  exact ⟨by rw [HC.out]; rfl, hbw⟩
 | true =>
 clear HC1 HC2 HC3 HC4
 by_cases c1 : t < f
 · have HC := Lib.hid (mchk_form (m := (n, f, t, r, d, ps)) HB1.out HB2.out HB3.out HB4.out (.inl c1))
   go_wp2_with fail
   go_ret
   exact ⟨by rw [HC.out]; rfl, hbw⟩
 by_cases c2 : n = 0
 · have hn0 : (n == 0) = true := by simpa using c2
   have hz := fun W => Zero_any d W
   obtain ⟨zb, hzb⟩ : ∃ b, decide (d = dg0) = b := ⟨_, rfl⟩
   rw [hzb] at hz
   have HZ := Lib.hid hz
   have HZB := Lib.hid hzb
   have HN0 := Lib.hid c2
   clear hz hzb c2
   go_wp2_with (refine wpl_loadG (by kernel_rfl) 35 _ rfl ⟨w.heap.size, 4, none⟩ (dga d) rfl hdg.out _ Tryz.underlying35 rfl (by rw [hds.out]; kernel_rfl) ?_)
   refine (HZ.out _).mono ?_
   rintro e w2 ⟨rfl, hb2⟩
   have hBm := hB.below hb2
   have hw := bel_call hbw hb2
   clear hB hbw hb2 a0 a1 a2 a3 a4
   cases zb with
   | false =>
    have HC := Lib.hid (mchk_form (m := (n, f, t, r, d, ps)) HB1.out HB2.out HB3.out HB4.out (.inr ⟨HN0.out, HZB.out⟩))
    go_wp2_with fail
    go_ret
    exact ⟨by rw [HC.out]; rfl, hw⟩
   | true =>
    have HM := Lib.hid (mchk_rest (m := (n, f, t, r, d, ps)) HB1.out HB2.out HB3.out HB4.out (by dsimp only; omega) (fun _ => HZB.out))
    obtain ⟨a0, a1, a2, a3, a4⟩ := BlM.five hBm
    dsimp only at HM
    clear HN0 HZ HZB
    by_cases hlen : 1024 < ps.length
    · have hlI : (1024 : Int) < (ps.length : Int) := by omega
      have HC := Lib.hid (show mchk (n, f, t, r, d, ps) = 3 from by rw [HM.out, if_pos hlen])
      clear hlen
      go_wp2_with fail
      go_ret
      exact ⟨by rw [HC.out]; rfl, hw⟩
    · have hlI : (ps.length : Int) ≤ 1024 := by omega
      have HM2 := Lib.hid (show mchk (n, f, t, r, d, ps) = pgo t f ps from by rw [HM.out, if_neg hlen])
      have hf2 := inb_iff.1 HB2.out
      obtain ⟨hf0, hf1⟩ := hf2
      clear hlen HM
      go_wp2_with fail
      go_loopw [60, 3] (fun x y wr => ∃ (k : Nat) (a : Int), k ≤ ps.length ∧ x = .int .i64 k ∧ y = .int .i64 a ∧ Hid (pgo t f ps = pgo t a (ps.drop k)) ∧ f ≤ a ∧ a ≤ f + 64 * k ∧ Below w.heap.size w wr ∧ BlM wr w.heap.size n f t r d A ps.length c) (fun x y w => ps.length - (intOf x).toNat)
      case atStart => exact ⟨0, f, Nat.zero_le _, rfl, rfl, (show _ = _ from by rw [List.drop_zero]), Int.le_refl _, by omega, hw, hBm⟩
      case round =>
       obtain ⟨k, a, hk, rfl, rfl, hp, ha0, ha1, hbr, hBr⟩ := hrel
       clear hw hBm a0 a1 a2 a3 a4
       obtain ⟨a0, a1, a2, a3, a4⟩ := BlM.five hBr
       by_cases hlt : k < ps.length
       · obtain ⟨ad, b, o, rfl, had, hcc⟩ := (h.below hbr).at hlt
         have hnx := Lib.hid (fun h0 => (pgo_step (z := t) (a := a) hlt h0))
         have hst := Lib.hid (fun h0 => (pgo_stop (z := t) (a := a) hlt h0))
         have hIp := hI _ (List.getElem_mem hlt)
         generalize ps[k] = p at *
         obtain ⟨_, hI1, hI2⟩ := hIp
         have hX := Blk.new wr 37 (pta p)
         obtain ⟨x0, x1, x2⟩ := BlP.three hX
         have hbx := below_new wr (.cells (pta p) 37)
         have hps := Lib.hid (pta_size p)
         have hpa := Lib.hid (pta_all p)
         have HCC := Lib.hid hcc
         clear hcc
         go_wp2_with (first | (refine wpl_loadG rfl 37 _ rfl ⟨b, o, none⟩ (pta p) rfl HCC.out _ Tryz.underlying37 rfl (by rw [hps.out]; kernel_rfl) ?_) | (refine wpl_storeN rfl 37 _ _ rfl _ (pta p) 37 rfl rfl (by rw [hps.out]; kernel_rfl) (by rw [hps.out]; rfl) hpa.out ?_) | (refine wpl_loadG rfl 37 _ rfl ⟨wr.heap.size, 0, none⟩ (pta p) rfl hX.cells _ Tryz.underlying37 rfl (by rw [hps.out]; kernel_rfl) ?_))
         have hXb := hX
         refine (PtCheck_any p a hI1 hI2 _).mono ?_
         rintro e w5 ⟨rfl, hb5⟩
         replace hXb := Blk.below hXb hb5
         have hn5 := bel_call (bel_call hbr hbx) hb5
         have hBn : BlM w5 w.heap.size n f t r d (some ad) ps.length c := Blk.below (Blk.below hBr hbx) hb5
         rcases errv_cases (ptchk p a) with ⟨h0, hev⟩ | ⟨q, hq, hqe, hev⟩
         · have hp2 := hnx.out h0
           obtain ⟨_, hm64, _, _, _⟩ := ptchk_ok h0
           have hm1 : 1 ≤ p.2.1 := (ptchk_ok h0).1
           have HP := Lib.hid (hp.out.trans hp2)
           rw [hev]
           clear hev h0 hp2 hnx hst hp x0 x1 x2 a0 a1 a2 a3 a4 hX hI1 hI2 hps hpa HCC
           obtain ⟨x0, x1, x2⟩ := BlP.three hXb
           have hwa : wrap64 (a + p.2.1) = a + p.2.1 := by simp only [wrap64]; omega
           have hwa2 : IntKind.i64.wrap (a + p.2.1) = a + p.2.1 := by rw [IntKind.wrap_i64]; omega
           go_wp2_with fail
           go_roundw
           case rel => exact ⟨k + 1, a + p.2.1, hlt, by go_num, rfl, HP, by omega, by omega, hn5, hBn⟩
           case measure => simp [intOf]; omega
         · have hp2 := hst.out (by omega)
           have HP := Lib.hid ((HM2.out.trans hp.out).trans hp2)
           have HEV := Lib.hid hev
           rw [hev]
           clear hev hqe hp2 hnx hst hp x0 x1 x2 a0 a1 a2 a3 a4 hX hI1 hI2 hps hpa HCC
           go_wp2_with fail
           go_ret
           exact ⟨by rw [HP.out, HEV.out]; rfl, hn5⟩
       · have hkn : ps.drop k = [] := List.drop_eq_nil_of_le (by omega)
         have HP := Lib.hid (show mchk (n, f, t, r, d, ps) = if a ≠ t then 2 else 0 from by rw [HM2.out, hp.out, hkn]; rfl)
         clear hp hkn
         by_cases hat : a = t
         · have hb : (a != t) = false := by simp [hat]
           have HC := Lib.hid (show mchk (n, f, t, r, d, ps) = 0 from by rw [HP.out, if_neg (by simp [hat])])
           clear HP hat
           go_wp2_with fail
           go_ret
           exact ⟨by rw [HC.out]; rfl, hbr⟩
         · have hb : (a != t) = true := by simpa using hat
           have HC := Lib.hid (show mchk (n, f, t, r, d, ps) = 2 from by rw [HP.out, if_pos hat])
           clear HP hat
           go_wp2_with fail
           go_ret
           exact ⟨by rw [HC.out]; rfl, hbr⟩
 · have hn0 : (n == 0) = false := by simpa using c2
   have HM := Lib.hid (mchk_rest (m := (n, f, t, r, d, ps)) HB1.out HB2.out HB3.out HB4.out (by dsimp only; omega) (fun h0 => absurd h0 c2))
   have hBm := hB
   have hw := hbw
   dsimp only at HM
   clear hB hbw c2
   by_cases hlen : 1024 < ps.length
   · have hlI : (1024 : Int) < (ps.length : Int) := by omega
     have HC := Lib.hid (show mchk (n, f, t, r, d, ps) = 3 from by rw [HM.out, if_pos hlen])
     clear hlen
     go_wp2_with fail
     go_ret
     exact ⟨by rw [HC.out]; rfl, hw⟩
   · have hlI : (ps.length : Int) ≤ 1024 := by omega
     have HM2 := Lib.hid (show mchk (n, f, t, r, d, ps) = pgo t f ps from by rw [HM.out, if_neg hlen])
     have hf2 := inb_iff.1 HB2.out
     obtain ⟨hf0, hf1⟩ := hf2
     clear hlen HM
     go_wp2_with fail
     go_loopw [60, 3] (fun x y wr => ∃ (k : Nat) (a : Int), k ≤ ps.length ∧ x = .int .i64 k ∧ y = .int .i64 a ∧ Hid (pgo t f ps = pgo t a (ps.drop k)) ∧ f ≤ a ∧ a ≤ f + 64 * k ∧ Below w.heap.size w wr ∧ BlM wr w.heap.size n f t r d A ps.length c) (fun x y w => ps.length - (intOf x).toNat)
     case atStart => exact ⟨0, f, Nat.zero_le _, rfl, rfl, (show _ = _ from by rw [List.drop_zero]), Int.le_refl _, by omega, hw, hBm⟩
     case round =>
      obtain ⟨k, a, hk, rfl, rfl, hp, ha0, ha1, hbr, hBr⟩ := hrel
      clear hw hBm a0 a1 a2 a3 a4
      obtain ⟨a0, a1, a2, a3, a4⟩ := BlM.five hBr
      by_cases hlt : k < ps.length
      · obtain ⟨ad, b, o, rfl, had, hcc⟩ := (h.below hbr).at hlt
        have hnx := Lib.hid (fun h0 => (pgo_step (z := t) (a := a) hlt h0))
        have hst := Lib.hid (fun h0 => (pgo_stop (z := t) (a := a) hlt h0))
        have hIp := hI _ (List.getElem_mem hlt)
        generalize ps[k] = p at *
        obtain ⟨_, hI1, hI2⟩ := hIp
        have hX := Blk.new wr 37 (pta p)
        obtain ⟨x0, x1, x2⟩ := BlP.three hX
        have hbx := below_new wr (.cells (pta p) 37)
        have hps := Lib.hid (pta_size p)
        have hpa := Lib.hid (pta_all p)
        have HCC := Lib.hid hcc
        clear hcc
        go_wp2_with (first | (refine wpl_loadG rfl 37 _ rfl ⟨b, o, none⟩ (pta p) rfl HCC.out _ Tryz.underlying37 rfl (by rw [hps.out]; kernel_rfl) ?_) | (refine wpl_storeN rfl 37 _ _ rfl _ (pta p) 37 rfl rfl (by rw [hps.out]; kernel_rfl) (by rw [hps.out]; rfl) hpa.out ?_) | (refine wpl_loadG rfl 37 _ rfl ⟨wr.heap.size, 0, none⟩ (pta p) rfl hX.cells _ Tryz.underlying37 rfl (by rw [hps.out]; kernel_rfl) ?_))
        have hXb := hX
        refine (PtCheck_any p a hI1 hI2 _).mono ?_
        rintro e w5 ⟨rfl, hb5⟩
        replace hXb := Blk.below hXb hb5
        have hn5 := bel_call (bel_call hbr hbx) hb5
        have hBn : BlM w5 w.heap.size n f t r d (some ad) ps.length c := Blk.below (Blk.below hBr hbx) hb5
        rcases errv_cases (ptchk p a) with ⟨h0, hev⟩ | ⟨q, hq, hqe, hev⟩
        · have hp2 := hnx.out h0
          obtain ⟨_, hm64, _, _, _⟩ := ptchk_ok h0
          have hm1 : 1 ≤ p.2.1 := (ptchk_ok h0).1
          have HP := Lib.hid (hp.out.trans hp2)
          rw [hev]
          clear hev h0 hp2 hnx hst hp x0 x1 x2 a0 a1 a2 a3 a4 hX hI1 hI2 hps hpa HCC
          obtain ⟨x0, x1, x2⟩ := BlP.three hXb
          have hwa : wrap64 (a + p.2.1) = a + p.2.1 := by simp only [wrap64]; omega
          have hwa2 : IntKind.i64.wrap (a + p.2.1) = a + p.2.1 := by rw [IntKind.wrap_i64]; omega
          go_wp2_with fail
          go_roundw
          case rel => exact ⟨k + 1, a + p.2.1, hlt, by go_num, rfl, HP, by omega, by omega, hn5, hBn⟩
          case measure => simp [intOf]; omega
        · have hp2 := hst.out (by omega)
          have HP := Lib.hid ((HM2.out.trans hp.out).trans hp2)
          have HEV := Lib.hid hev
          rw [hev]
          clear hev hqe hp2 hnx hst hp x0 x1 x2 a0 a1 a2 a3 a4 hX hI1 hI2 hps hpa HCC
          go_wp2_with fail
          go_ret
          exact ⟨by rw [HP.out, HEV.out]; rfl, hn5⟩
      · have hkn : ps.drop k = [] := List.drop_eq_nil_of_le (by omega)
        have HP := Lib.hid (show mchk (n, f, t, r, d, ps) = if a ≠ t then 2 else 0 from by rw [HM2.out, hp.out, hkn]; rfl)
        clear hp hkn
        by_cases hat : a = t
        · have hb : (a != t) = false := by simp [hat]
          have HC := Lib.hid (show mchk (n, f, t, r, d, ps) = 0 from by rw [HP.out, if_neg (by simp [hat])])
          clear HP hat
          go_wp2_with fail
          go_ret
          exact ⟨by rw [HC.out]; rfl, hbr⟩
        · have hb : (a != t) = true := by simpa using hat
          have HC := Lib.hid (show mchk (n, f, t, r, d, ps) = 2 from by rw [HP.out, if_pos hat])
          clear HP hat
          go_wp2_with fail
          go_ret
          exact ⟨by rw [HC.out]; rfl, hbr⟩
theorem one_cf (l : List CeV) : ∀ u ∈ l.flatMap cf, u.oneCell' = true := by
 intro u hu
 simp only [List.mem_flatMap, List.mem_cons, List.not_mem_nil, or_false] at hu
 obtain ⟨x, _, hx⟩ := hu
 rcases hx with rfl | rfl <;> rfl
theorem step_cells {w : World} {ops : Array Oper} {o : Oper} {a : Act} {K : Act → World → Prop} {Q : Exit → Act → World → Prop} {X : Prop} (hw : Region.wanted o (yielded ops a.tmps) = true) (s x : Operand)
 (ho : o.op = .call { callee := .builtin .append, args := #[s, x], argTypes := #[32, 32] })
 (base : Nat) (A : Option Addr) (c : Nat) (l : List CeV) (hs : a.eval s = .slice A l.length c) (hown : Own w base 54 2 A l.length c (l.flatMap cf))
 (A2 : Option Addr) (c2 n2 : Nat) (l2 : List CeV) (hn2 : n2 = l2.length) (hx : a.eval x = .slice A2 n2 c2) (hr : Sl w 2 A2 l2.length c2 (l2.flatMap cf)) (hlen : l.length + l2.length ≤ 1000000000) (hbase : base ≤ w.heap.size)
 (h : ∀ A' c' (m : List CeV) w', Hid (m = l ++ l2) → Own w' base 54 2 A' m.length c' (m.flatMap cf) → w.grownBy w' (A.map (·.block)) → Below base w w' → K (a.put o.dst (.slice A' m.length c')) w') :
 if Region.wanted o (yielded ops a.tmps) = true then Oper.wp Tryz.prog o a w K Q else X := by
 subst hn2
 obtain ⟨i0, hi, hz0, hz1, hz2⟩ := info_parts cell_info
 refine step_append hw s x 32 ho base 54 i0 _ 2 32 Tryz.underlying32 hi hz0 hz1 hz2 rfl (by decide) A l.length c (l.flatMap cf) hs hown A2 l2.length c2 (l2.flatMap cf) hx hr (one_cf l2) (by omega) (by simp only [maxLen]; omega) hbase ?_
 intro A' c' w' hap
 rw [← List.length_append]
 refine h A' c' (l ++ l2) w' rfl ?_ hap.grown (hap.below hown hbase)
 have := hap.own
 simpa using this
theorem Own.other {w w' : World} {base base' : Nat} {e e' : TypeId} {size size' n n' c c' : Nat} {A B : Option Addr} {xs ys : List Value} (h : Own w base' e' size' B n' c' ys) (ho : Own w base e size A n c xs) (hg : w.grownBy w' (A.map (·.block))) (hne : e ≠ e') : Own w' base' e' size' B n' c' ys := by
 obtain ⟨h1, h2⟩ := h
 refine ⟨h1, ?_⟩
 rcases h2 with h2 | ⟨g', cap, cur, hv, hb, hh, r⟩
 · exact Or.inl h2
 · refine Or.inr ⟨g', cap, cur, hv, hb, (hg.block g' (Array.getElem?_eq_some_iff.1 hh).1 (fun he => ?_)).trans hh, r⟩
   rcases ho.2 with ⟨hv2, _⟩ | ⟨g2, cap2, cur2, hv2, _, hh2, _⟩
   · injection hv2 with hA
     subst hA
     simp at he
   · injection hv2 with hA
     subst hA
     simp at he
     subst he
     rw [hh] at hh2
     injection hh2 with hh2
     injection hh2 with _ ht
     exact hne ht.symm
theorem Own.set1 {w : World} {base : Nat} {e : TypeId} {size n c : Nat} {A : Option Addr} {xs : List Value} (h : Own w base e size A n c xs) {g i : Nat} (hg : g < base) (u : Value) : Own (w.setCell ⟨g, i, none⟩ u) base e size A n c xs :=
 ownsRow_setCell_below (a := ⟨g, i, none⟩) h hg u
def NewS (w' : World) (base : Nat) (A : Option Addr) (c : Nat) (m : List CeV) : Prop := Own w' base 54 2 A m.length c (m.flatMap cf) ∧ ∀ x ∈ m, OwnB w' base 5 x.2.1 x.2.2.1 x.2.2.2
theorem NewS.slc {w' : World} {base : Nat} {A : Option Addr} {c : Nat} {m : List CeV} (h : NewS w' base A c m) : SlC w' A c m := ⟨h.1.sl, fun x hx => (h.2 x hx).sl⟩
theorem NewS.below {w w' : World} {base : Nat} {A : Option Addr} {c : Nat} {m : List CeV} (h : NewS w base A c m) (hb : Below w.heap.size w w') : NewS w' base A c m := ⟨Own.below h.1 hb, fun x hx => Own.below (h.2 x hx) hb⟩
theorem NewS.more {w : World} {base base' : Nat} {A : Option Addr} {c : Nat} {m : List CeV} (h : NewS w base A c m) (hb : base' ≤ base) : NewS w base' A c m := ⟨h.1.more hb, fun x hx => (h.2 x hx).more hb⟩
theorem Own.wrT {w w' : World} {base g : Nat} {e t : TypeId} {size n c : Nat} {A : Option Addr} {xs : List Value} {cs : Array Value} (h : Own w base e size A n c xs) (hw : Wr w w' g) (hb : Blk w g t cs) (hne : e ≠ t) : Own w' base e size A n c xs := by
 obtain ⟨h1, h2⟩ := h
 refine ⟨h1, ?_⟩
 rcases h2 with h2 | ⟨g', cap, cur, hv, hbb, hh, r⟩
 · exact Or.inl h2
 · refine Or.inr ⟨g', cap, cur, hv, hbb, (hw.block g' (Array.getElem?_eq_some_iff.1 hh).1 (fun he => ?_)).trans hh, r⟩
   injection he with he
   subst he
   unfold Blk at hb
   rw [hb] at hh
   injection hh with hh
   injection hh with _ ht
   exact hne ht.symm
theorem Own.setT {w : World} {base g i : Nat} {e t : TypeId} {size n c : Nat} {A : Option Addr} {xs : List Value} {cs : Array Value} (h : Own w base e size A n c xs) (hb : Blk w g t cs) (hne : e ≠ t) (u : Value) : Own (w.setCell ⟨g, i, none⟩ u) base e size A n c xs :=
 h.wrT (Wr.set_ (Wr.refl (g := g) w) i u) hb hne
def GivesSgN (w0 : World) (x : Sg × Nat) (e : Ending) (w' : World) : Prop :=
 ∃ A c m, e = .returned (.tuple #[cv x.1.1 A (List.length m) c, errv x.2]) ∧ Hid (m.map ceOf = x.1.2) ∧ NewS w' w0.heap.size A c m ∧ Below w0.heap.size w0 w'
theorem NewS.nil (w : World) (base : Nat) : NewS w base none 0 [] := ⟨Own.none_ _ _ _ _, fun x hx => by simp at hx⟩
section
variable {w W W' : World} {f fb : Int} {E G : Option Addr} {n cap n2 cap2 : Nat}
end
end
section
open Go.RowKit
abbrev W32 := BitVec 32
def P32 : W32 := 2197175160#32
def st1 (x : W32) : W32 := (x >>> 1) ^^^ (if x.getLsbD 0 then P32 else 0#32)
def stn : Nat → W32 → W32
 | 0, x => x
 | n + 1, x => stn n (st1 x)
def st8 (x : W32) : W32 := stn 8 x
def bw (b : UInt8) : W32 := BitVec.ofNat 32 b.toNat
def crcS (x : W32) (l : List UInt8) : W32 := l.foldl (fun x b => st8 (x ^^^ bw b)) x
def extW (s : W32) (l : List UInt8) : W32 := ~~~ crcS (~~~ s) l
def sumW (l : List UInt8) : W32 := extW 0#32 l
def four (x : W32) : List UInt8 := [UInt8.ofNat (x.toNat / 16777216), UInt8.ofNat (x.toNat / 65536 % 256), UInt8.ofNat (x.toNat / 256 % 256), UInt8.ofNat (x.toNat % 256)]
theorem st1_xor (x y : W32) : st1 (x ^^^ y) = st1 x ^^^ st1 y := by
 unfold st1
 apply BitVec.eq_of_getLsbD_eq
 intro i hi
 simp only [BitVec.getLsbD_xor, BitVec.getLsbD_ushiftRight]
 cases x.getLsbD 0 <;> cases y.getLsbD 0 <;> simp [Bool.xor_comm, Bool.xor_left_comm]
theorem st1_zero : st1 0#32 = 0#32 := by decide
theorem stn_xor (n : Nat) : ∀ x y, stn n (x ^^^ y) = stn n x ^^^ stn n y := by
 induction n with
 | zero => intro x y; rfl
 | succ n ih => intro x y; simp only [stn, st1_xor, ih]
theorem P32_top : P32.getLsbD 31 = true := by decide
theorem st1_inj {x : W32} (h : st1 x = 0#32) : x = 0#32 := by
 unfold st1 at h
 have h31 := congrArg (fun y => BitVec.getLsbD y 31) h
 simp only [BitVec.getLsbD_xor, BitVec.getLsbD_ushiftRight] at h31
 have h32 : x.getLsbD (1 + 31) = false := BitVec.getLsbD_of_ge _ _ (by omega)
 rw [h32] at h31
 cases h0 : x.getLsbD 0
 · rw [h0] at h
   apply BitVec.eq_of_getLsbD_eq
   intro i hi
   rcases i with _ | i
   · simpa using h0
   · have := congrArg (fun y => BitVec.getLsbD y i) h
     simp only [BitVec.getLsbD_xor, BitVec.getLsbD_ushiftRight] at this
     simpa [Nat.add_comm] using this
 · rw [h0] at h31
   simp only [if_true, P32_top] at h31
   exact absurd h31 (by decide)
theorem stn_inj (n : Nat) : ∀ {x : W32}, stn n x = 0#32 → x = 0#32 := by
 induction n with
 | zero => intro x h; exact h
 | succ n ih => intro x h; exact st1_inj (ih h)
theorem st1_shl (y : W32) (h : y.getLsbD 31 = false) : st1 (y <<< 1) = y := by
 unfold st1
 apply BitVec.eq_of_getLsbD_eq
 intro i hi
 simp only [BitVec.getLsbD_xor, BitVec.getLsbD_ushiftRight, BitVec.getLsbD_shiftLeft]
 by_cases h1 : i = 31
 · subst h1
   have h' : y[31] = false := by rw [← BitVec.getLsbD_eq_getElem]; exact h
   simp [h']
 · have : 1 + i < 32 := by omega
   simp [this]
theorem stn_shl (n : Nat) : ∀ (y : W32), y.toNat * 2 ^ n < 2 ^ 32 → stn n (y <<< n) = y := by
 induction n with
 | zero => intro y _; simp [stn]
 | succ n ih =>
  intro y h
  rw [stn, BitVec.shiftLeft_add, st1_shl]
  · refine ih y ?_
    refine Nat.lt_of_le_of_lt ?_ h
    exact Nat.mul_le_mul_left _ (Nat.pow_le_pow_right (by decide) (by omega))
  · rw [BitVec.getLsbD_eq_getElem (by omega), BitVec.getElem_eq_testBit_toNat] <;> try omega
    rw [BitVec.toNat_shiftLeft, Nat.shiftLeft_eq]
    have h2 : y.toNat * 2 ^ n < 2 ^ 31 := by rw [Nat.pow_succ, ← Nat.mul_assoc] at h; omega
    rw [Nat.mod_eq_of_lt (by omega)]
    exact Nat.testBit_lt_two_pow h2
theorem by_table (x : W32) (c : UInt8) : st8 (x ^^^ bw c) = st8 (BitVec.ofNat 32 ((x.toNat % 256) ^^^ c.toNat)) ^^^ (x >>> 8) := by
 have hx := x.isLt
 have hy : (x >>> 8).toNat * 2 ^ 8 < 2 ^ 32 := by
  rw [BitVec.toNat_ushiftRight, Nat.shiftRight_eq_div_pow]
  omega
 have h1 : x ^^^ bw c = BitVec.ofNat 32 ((x.toNat % 256) ^^^ c.toNat) ^^^ ((x >>> 8) <<< 8) := by
  apply BitVec.eq_of_getLsbD_eq
  intro i hi
  have hc := c.toNat_lt
  simp only [bw, BitVec.getLsbD_xor, BitVec.getLsbD_ofNat, BitVec.getLsbD_shiftLeft, BitVec.getLsbD_ushiftRight, Nat.testBit_xor, hi, decide_true, Bool.true_and]
  rw [show (256 : Nat) = 2 ^ 8 from rfl, Nat.testBit_mod_two_pow]
  by_cases h : i < 8
  · simp [h, BitVec.testBit_toNat]
  · have h8 : 8 + (i - 8) = i := by omega
    have : c.toNat.testBit i = false := Nat.testBit_lt_two_pow (Nat.lt_of_lt_of_le hc (Nat.pow_le_pow_right (by decide) (by omega : 8 ≤ i)))
    simp [h, h8, this]
 rw [h1]
 unfold st8
 rw [stn_xor, stn_shl 8 _ hy]
def crcN : Nat → W32 → Nat → W32
 | 0, x, _ => x
 | n + 1, x, D => crcN n (st1 (x ^^^ (if D.testBit 0 then 1#32 else 0#32))) (D >>> 1)
theorem one_xor (a b : Bool) : (if (a ^^ b) then 1#32 else 0#32) = (if a then 1#32 else 0#32) ^^^ (if b then 1#32 else 0#32) := by cases a <;> cases b <;> decide
theorem crcN_xor (n : Nat) : ∀ x y A B, crcN n (x ^^^ y) (A ^^^ B) = crcN n x A ^^^ crcN n y B := by
 induction n with
 | zero => intro x y A B; rfl
 | succ n ih =>
  intro x y A B
  simp only [crcN]
  rw [Nat.testBit_xor, one_xor, Nat.shiftRight_xor_distrib, ← ih, ← st1_xor]
  congr 2
  ac_rfl
theorem crcN_add (k : Nat) : ∀ m x D, crcN (k + m) x D = crcN m (crcN k x D) (D >>> k) := by
 induction k with
 | zero => intro m x D; simp [crcN]
 | succ k ih =>
  intro m x D
  rw [show k + 1 + m = (k + m) + 1 from by omega]
  simp only [crcN]
  rw [ih, ← Nat.shiftRight_add, Nat.add_comm 1 k]
theorem crcN_shl (p m W : Nat) : crcN (p + m) 0#32 (W <<< p) = crcN m 0#32 W := by
 induction p generalizing W with
 | zero => simp
 | succ p ih =>
  rw [show p + 1 + m = (p + m) + 1 from by omega]
  simp only [crcN]
  have h1 : (W <<< (p + 1)).testBit 0 = false := by simp
  have h2 : (W <<< (p + 1)) >>> 1 = W <<< p := by
   rw [Nat.shiftLeft_eq, Nat.shiftLeft_eq, Nat.shiftRight_eq_div_pow, Nat.pow_succ, ← Nat.mul_assoc, Nat.pow_one, Nat.mul_div_cancel _ (by decide)]
  rw [h1, h2]
  simp only [Bool.false_eq_true, if_false, BitVec.xor_zero, st1_zero]
  exact ih W
theorem half_step (x : W32) {W : Nat} (h : W < 2 ^ 32) : st1 (x ^^^ BitVec.ofNat 32 W) = st1 (x ^^^ (if W.testBit 0 then 1#32 else 0#32)) ^^^ BitVec.ofNat 32 (W >>> 1) := by
 have h1 : BitVec.ofNat 32 W = (if W.testBit 0 then 1#32 else 0#32) ^^^ (BitVec.ofNat 32 (W >>> 1) <<< 1) := by
  apply BitVec.eq_of_getLsbD_eq
  intro i hi
  rw [BitVec.getLsbD_xor, BitVec.getLsbD_ofNat, BitVec.getLsbD_shiftLeft, BitVec.getLsbD_ofNat]
  rcases i with _ | i
  · cases hw : W.testBit 0 <;> simp
  · have h0 : (if W.testBit 0 then 1#32 else 0#32).getLsbD (i + 1) = false := by
     cases W.testBit 0
     · simp
     · simp [BitVec.getLsbD_one]
    rw [h0]
    have : i < 32 := by omega
    simp [hi, this, Nat.testBit_shiftRight, Nat.add_comm]
 rw [h1, ← BitVec.xor_assoc, st1_xor, st1_shl]
 rw [BitVec.getLsbD_ofNat, Nat.testBit_shiftRight, Nat.testBit_lt_two_pow (by omega : W < 2 ^ (1 + 31))]
 simp
theorem crcN_word (m : Nat) : ∀ x W, W < 2 ^ 32 → W < 2 ^ m → crcN m x W = stn m (x ^^^ BitVec.ofNat 32 W) := by
 induction m with
 | zero =>
  intro x W _ h
  obtain rfl : W = 0 := by omega
  simp [crcN, stn]
 | succ m ih =>
  intro x W h32 hm
  simp only [crcN, stn]
  have hh : W >>> 1 < 2 ^ m := by rw [Nat.shiftRight_eq_div_pow]; rw [Nat.pow_succ] at hm; omega
  have h3 : W >>> 1 < 2 ^ 32 := by rw [Nat.shiftRight_eq_div_pow]; omega
  rw [ih _ _ h3 hh, half_step x h32]
def leN : List UInt8 → Nat
 | [] => 0
 | b :: l => b.toNat ^^^ (leN l <<< 8)
theorem crcS_leN (l : List UInt8) : ∀ x, crcS x l = crcN (8 * l.length) x (leN l) := by
 induction l with
 | nil => intro x; rfl
 | cons b l ih =>
  intro x
  have hb := b.toNat_lt
  rw [show crcS x (b :: l) = crcS (st8 (x ^^^ bw b)) l from rfl, ih, List.length_cons, show 8 * (l.length + 1) = 8 + 8 * l.length from by omega, crcN_add]
  have h1 : leN (b :: l) >>> 8 = leN l := by
   rw [leN, Nat.shiftRight_xor_distrib, Nat.shiftLeft_shiftRight, Nat.shiftRight_eq_div_pow, Nat.div_eq_of_lt hb, Nat.zero_xor]
  have h2 : crcN 8 x (leN (b :: l)) = st8 (x ^^^ bw b) := by
   have := crcN_xor 8 x 0#32 b.toNat (leN l <<< 8)
   rw [BitVec.xor_zero] at this
   rw [leN, this, show crcN 8 0#32 (leN l <<< 8) = 0#32 from crcN_shl 8 0 (leN l), BitVec.xor_zero, crcN_word 8 x b.toNat (by omega) hb]
   rfl
  rw [h1, h2]
theorem finds {b c : List UInt8} {W p : Nat} (hl : b.length = c.length) (h : leN c = leN b ^^^ (W <<< p)) (hp : p ≤ 8 * b.length) (h0 : W ≠ 0) (h1 : W < 2 ^ 32) (h2 : W < 2 ^ (8 * b.length - p)) (x : W32) : crcS x c ≠ crcS x b := by
 intro he
 rw [crcS_leN, crcS_leN, ← hl, h] at he
 have h3 := crcN_xor (8 * b.length) x 0#32 (leN b) (W <<< p)
 rw [BitVec.xor_zero] at h3
 rw [h3] at he
 have h4 : crcN (8 * b.length) 0#32 (W <<< p) = 0#32 := by
  have := congrArg (fun z => crcN (8 * b.length) x (leN b) ^^^ z) he
  simpa [← BitVec.xor_assoc] using this
 rw [show 8 * b.length = p + (8 * b.length - p) from by omega, crcN_shl, crcN_word _ _ _ h1 h2] at h4
 have h5 := stn_inj _ h4
 rw [BitVec.zero_xor] at h5
 have h6 := congrArg BitVec.toNat h5
 rw [BitVec.toNat_ofNat, Nat.mod_eq_of_lt h1] at h6
 exact h0 h6
/- values -/
def wn (x : W32) : Int := (x.toNat : Int)
abbrev wv (x : W32) : Value := .int .u32 (wn x)
theorem and_one (x : W32) : bits .and .u32 (wn x) 1 = ((if x.getLsbD 0 then 1 else 0 : Nat) : Int) := by
 unfold wn
 rw [show (1 : Int) = ((1 : Nat) : Int) from rfl, u32_and_nat _ _ x.isLt (by decide), nat_mask1]
 congr 1
 have : x.getLsbD 0 = decide (x.toNat % 2 = 1) := by rw [← BitVec.testBit_toNat, Nat.testBit_zero]
 rw [this]
 by_cases h : x.toNat % 2 = 1
 · simp [h]
 · simp [h]; omega
theorem xor_wn (x y : W32) : bits .xor .u32 (wn x) (wn y) = wn (x ^^^ y) := by
 unfold wn; rw [u32_xor_nat _ _ x.isLt y.isLt, BitVec.toNat_xor]
theorem shr_wn (x : W32) (k : Nat) : wn x / ((2 ^ k : Nat) : Int) = wn (x >>> k) := by
 unfold wn; rw [BitVec.toNat_ushiftRight, Nat.shiftRight_eq_div_pow]; rfl
theorem xor_P (y : W32) : bits .xor .u32 (wn y) 2197175160 = wn (y ^^^ P32) := xor_wn y P32
theorem half_wn (y : W32) : HDiv.hDiv (α := Int) (β := Int) (wn y) (2 : Int) = wn (y >>> 1) := shr_wn y 1
theorem not_wn (x : W32) : bits .xor .u32 4294967295 (wn x) = wn (~~~ x) := by
 have := xor_wn (BitVec.allOnes 32) x
 rw [BitVec.allOnes_xor] at this
 exact this
theorem mod_wn (y : W32) : HMod.hMod (α := Int) (β := Int) (wn y) (256 : Int) = ((y.toNat % 256 : Nat) : Int) := by
 unfold wn; omega
theorem xor_u8 {a b : Nat} (ha : a < 256) (hb : b < 256) : bits .xor .u8 (a : Int) (b : Int) = ((a ^^^ b : Nat) : Int) := u8_xor_nat a b ha hb
theorem shr8_wn (y : W32) : HDiv.hDiv (α := Int) (β := Int) (wn y) (256 : Int) = wn (y >>> 8) := shr_wn y 8
theorem crcS_drop {l : List UInt8} {k : Nat} (hk : k < l.length) (y : W32) : crcS y (l.drop k) = crcS (st8 (y ^^^ bw l[k])) (l.drop (k + 1)) := by
 rw [List.drop_eq_getElem_cons hk]; rfl
theorem wrap_ofNat {k : Nat} (_h : k < 256) : IntKind.u32.wrap (k : Int) = wn (BitVec.ofNat 32 k) := by
 unfold wn; rw [IntKind.wrap_u32, BitVec.toNat_ofNat]; omega
theorem race_disable (w : World) : (callFunc 227 #[]).run Tryz.prog w = .ok (.value (.tuple #[])) w := run_call_mark0 Tryz.func227 (by kernel_rfl) (by kernel_rfl) (by kernel_rfl) .disable (by kernel_rfl) w
theorem race_enable (w : World) : (callFunc 229 #[]).run Tryz.prog w = .ok (.value (.tuple #[])) w := run_call_mark0 Tryz.func229 (by kernel_rfl) (by kernel_rfl) (by kernel_rfl) .enable (by kernel_rfl) w
theorem race_acquire (a : Addr) (w : World) : (callFunc 230 #[.pointer (some a)]).run Tryz.prog w = .ok (.value (.tuple #[])) w := run_call_marked Tryz.func230 (by kernel_rfl) (by kernel_rfl) (by kernel_rfl) .acquire (by kernel_rfl) a w
theorem race_merge (a : Addr) (w : World) : (callFunc 232 #[.pointer (some a)]).run Tryz.prog w = .ok (.value (.tuple #[])) w := run_call_marked Tryz.func232 (by kernel_rfl) (by kernel_rfl) (by kernel_rfl) .releaseMerge (by kernel_rfl) a w
theorem once_store (a : Addr) (x : Value) (u : FrameMode) (w : World) (hc : w.cell? a = some x) (hz : w.frozen? a = false) :
 CallsD Tryz.prog 222 #[.pointer (some a), .bool true] u w fun e u' w' => u' = u ∧ (e = .returned (.tuple #[]) ∧ w' = w.drew.setCell a (.int .u32 1)) := by
 have hc' : w.drew.cell? a = some x := by go_simp
 have hz' : w.drew.frozen? a = false := by go_simp
 have hst := run_call_store (P := Tryz.prog) Tryz.func225 (by kernel_rfl) (by kernel_rfl) (by kernel_rfl) (by kernel_rfl) (k := .u32) (y := 1) hc' hz'
 go_enter_d Tryz.func222, Tryz.ntmps222
 go_wp2
 go_region_calls
 all_goals (go_end0; exact ⟨rfl, rfl⟩)
set_option maxRecDepth 100000 in
set_option maxHeartbeats 1600000 in
theorem once_unlock (a : Addr) (u : FrameMode) (w : World) (hc : w.cell? a = some (.int .i32 1)) (hz : w.frozen? a = false) :
 CallsD Tryz.prog 221 #[.pointer (some a)] u w fun e u' w' => u' = u ∧ (e = .returned (.tuple #[]) ∧ w' = w.setCell a (.int .i32 0)) := by
 have hd := race_disable
 have he := race_enable
 have hr := race_merge
 have hadd := run_call_add (P := Tryz.prog) Tryz.func233 (by kernel_rfl) (by kernel_rfl) (by kernel_rfl) .i32 (by kernel_rfl) (y := -1) (s := 0) hc hz (by simp [go_sem]; rfl)
 have hcv := run_convert_to_unsafe (P := Tryz.prog) (src := 305) (dst := 267) Tryz.underlying305 Tryz.underlying267 (by kernel_rfl) hc
 go_enter_d Tryz.func221, Tryz.ntmps221
 go_wp2
 go_end0
 go_wp2
 go_end0
 exact ⟨rfl, rfl⟩
set_option maxRecDepth 100000 in
set_option maxHeartbeats 1600000 in
theorem once_lock (a : Addr) (w : World) (hc : w.cell? a = some (.int .i32 0)) (hz : w.frozen? a = false) :
 Calls Tryz.prog 220 #[.pointer (some a)] w fun e w' => e = .returned (.tuple #[]) ∧ w' = w.setCell a (.int .i32 1) := by
 have hd := race_disable
 have he := race_enable
 have ha := race_acquire
 have hcas := run_call_cas_hit (P := Tryz.prog) Tryz.func228 (by kernel_rfl) (by kernel_rfl) (by kernel_rfl) .i32 (by kernel_rfl) (y := 1) hc hz
 have hc' : (w.setCell a (.int .i32 1)).cell? a = some (.int .i32 1) := World.cell?_setCell_same w a _ hc
 have hcv := run_convert_to_unsafe (P := Tryz.prog) (src := 305) (dst := 267) Tryz.underlying305 Tryz.underlying267 (by kernel_rfl) hc'
 go_enter Tryz.func220, Tryz.ntmps220
 go_wp2
 first | go_end0 | (simp only [Exit.inBlock, Exit.then]; refine bodyPost_ret (results_none rfl _ _ _) rfl ?_) | refine bodyPost_ret (results_none rfl _ _ _) rfl ?_
 go_wp2
 go_end0
 exact ⟨rfl, rfl⟩
end
end Go.Proofs.YtajfnmohlnkncaaGreatDoor
