/- WHAT IT HOLDS: Same of segments, the program's and the document's, walked. | WHAT IT HOLDS: a segment as the document's, and a segment's copy, walked. | WHAT IT HOLDS: words for parts and manifests in memory: structs that hold a whole array; loads and stores of whole rows. -/
import Derived.Test.YtgipfenjachpnaaManifestFindsG11
import Derived.BigQuiet
import Derived.Deep.QuietTactic
import Derived.Test.YtgipfenjachpnaaManifestFindsG03
import Derived.Test.YtgipfenjachpnaaManifestFindsG02
import Derived.Deep.WholeRow
import Derived.ChangeKeysEq
namespace Go.Proofs.Ytgipfenjachpnaa
open Go.RowKit
attribute [local go_sem ↓] Go.wp_at_zero Go.wp_at_succ

def ssame (a b : Sg) : Bool := decide (a = b)
theorem same_iff {a b : Ce} : same a b = true ↔ a = b := by unfold same; exact decide_eq_true_iff
theorem take_ne {xs ys : List Ce} {k : Nat} (hx : k < xs.length) (hy : k < ys.length) (h : xs[k] ≠ ys[k]) : decide (xs = ys) = false := by
  rw [decide_eq_false_iff_not]
  rintro rfl
  exact h rfl
theorem len_ne {xs ys : List Ce} (h : xs.length ≠ ys.length) : decide (xs = ys) = false := by
  rw [decide_eq_false_iff_not]
  rintro rfl
  exact h rfl
set_option maxRecDepth 100000 in
set_option maxHeartbeats 1000000 in
theorem EqualFunc_any {E G : Option Addr} {cap cap2 : Nat} (cs ds : List CeV) (w : World) (h : SlC w E cap cs) (h2 : SlC w G cap2 ds) :
    Calls Try.prog 120 #[.slice E cs.length cap, .slice G ds.length cap2, .func (.func 16) #[] #[]] w fun e w' => e = .returned (.bool (decide (cs.map ceOf = ds.map ceOf))) ∧ Below w.heap.size w w' := by
  have hmax := h.1.len_le
  have hmax2 := h2.1.len_le
  unfold maxLen at hmax hmax2
  by_cases hl : cs.length = ds.length
  · have HL := Lib.hid hl
    have hlb : ((cs.length : Int) != (ds.length : Int)) = false := by simp [hl]
    have hle1 : cs.length ≤ ds.length := by omega
    have hle2 : ds.length ≤ cs.length := by omega
    clear hl
    go_enter Try.func120, Try.ntmps120
    go_wp2_with fail
    go_loopw [17] (fun x wr => ∃ k : Nat, k ≤ cs.length ∧ x = .int .i64 k ∧ Hid ((cs.map ceOf).take k = (ds.map ceOf).take k) ∧ Below w.heap.size w wr) (fun x w => cs.length - (intOf x).toNat)
    case atStart => exact ⟨0, Nat.zero_le _, rfl, (show _ = _ from by simp), Below.refl _ _⟩
    case round =>
      obtain ⟨k, hk, rfl, hall, hbr⟩ := hrel
      by_cases hlt : k < cs.length
      · have hlt2 : k < ds.length := by omega
        obtain ⟨ad, b, o, rfl, had, hc0, hc1, hsx⟩ := (h.below hbr).at2 hlt
        obtain ⟨ad2, b2, o2, rfl, had2, hd0, hd1, hsy⟩ := (h2.below hbr).at2 hlt2
        have hnx := Lib.hid (take_succ_eq hall.out (by simpa using hlt) (by simpa using hlt2))
        have hno := Lib.hid (take_ne (xs := cs.map ceOf) (ys := ds.map ceOf) (k := k) (by simpa using hlt) (by simpa using hlt2))
        rw [List.getElem_map, List.getElem_map] at hnx hno
        generalize cs[k] = x at *
        generalize ds[k] = y at *
        obtain ⟨kk, A, c, d⟩ := x
        obtain ⟨kk2, A2, c2, d2⟩ := y
        dsimp only [ceOf] at *
        have hb2 := bel_alloc (below_new wr (.cells #[.int .i64 kk, .slice A d.length c] 24)) (.cells #[.int .i64 kk2, .slice A2 d2.length c2] 24)
        have hlb2 : b2 < wr.heap.size := World.block_lt_of_cell? wr _ hd0
        have hne2 : b2 ≠ wr.heap.size := by omega
        go_wp2_with fail
        refine (CSame_any kk kk2 d d2 _ (hsx.below hb2) (hsy.below hb2)).mono ?_
        rintro e w4 ⟨rfl, hb4⟩
        have hn4 := bel_call (bel_call hbr hb2) hb4
        cases hs : same (kk, d) (kk2, d2)
        · have he : ((kk, d) : Ce) ≠ (kk2, d2) := by intro he; rw [same_iff.2 he] at hs; cases hs
          have hr := Lib.hid (hno.out he)
          clear he hs hno hnx
          go_wp2_with fail
          go_ret
          exact ⟨by rw [hr.out]; rfl, hn4⟩
        · have hr := Lib.hid (hnx.out.2 (same_iff.1 hs))
          clear hs hno hnx
          go_wp2_with fail
          go_roundw
          case rel => exact ⟨k + 1, hlt, by go_num, hr, hn4⟩
          case measure => simp [intOf]; omega
      · go_wp2_with fail
        go_ret
        have h5 := hall.out
        rw [List.take_of_length_le (by simp; omega), List.take_of_length_le (by simp; omega)] at h5
        exact ⟨by rw [decide_eq_true h5]; rfl, hbr⟩
  · have hlb : ((cs.length : Int) != (ds.length : Int)) = true := by simp; omega
    have hr := Lib.hid (len_ne (xs := cs.map ceOf) (ys := ds.map ceOf) (by simpa using hl))
    clear hl
    go_enter Try.func120, Try.ntmps120
    go_wp2_with fail
    go_ret
    exact ⟨by rw [hr.out]; rfl, Below.refl _ _⟩

theorem ssame_ne {f f2 : Int} {l m : List Ce} (h : f ≠ f2) : ssame (f, l) (f2, m) = false := by
  unfold ssame
  rw [decide_eq_false_iff_not]
  intro he
  exact h (congrArg Prod.fst he)
theorem ssame_eq {f : Int} {l m : List Ce} : ssame (f, l) (f, m) = decide (l = m) := by
  unfold ssame
  rw [decide_eq_decide]
  exact ⟨fun h => congrArg Prod.snd h, fun h => by rw [h]⟩

set_option maxRecDepth 100000 in
set_option maxHeartbeats 1000000 in
theorem SSame_any {E G : Option Addr} {cap cap2 : Nat} (f f2 : Int) (cs ds : List CeV) (w : World) (h : SlC w E cap cs) (h2 : SlC w G cap2 ds) :
    Calls Try.prog 99 #[cv f E cs.length cap, cv f2 G ds.length cap2] w fun e w' => e = .returned (.bool (ssame (f, cs.map ceOf) (f2, ds.map ceOf))) ∧ Below w.heap.size w w' := by
  have hbb := bel_alloc (below_new w (.cells #[.int .i64 f, .slice E cs.length cap] 101)) (.cells #[.int .i64 f2, .slice G ds.length cap2] 101)
  by_cases hf : f = f2
  · subst hf
    have hr := Lib.hid (ssame_eq (f := f) (l := cs.map ceOf) (m := ds.map ceOf))
    go_enter Try.func99, Try.ntmps99
    go_wp2_with fail
    refine (EqualFunc_any cs ds _ (h.below hbb) (h2.below hbb)).mono ?_
    rintro e w2 ⟨rfl, hb2⟩
    go_wp2_with fail
    go_ret
    exact ⟨by rw [hr.out]; rfl, bel_call hbb hb2⟩
  · have hfb : (f == f2) = false := by simpa using hf
    have hr := Lib.hid (ssame_ne (l := cs.map ceOf) (m := ds.map ceOf) hf)
    clear hf
    go_enter Try.func99, Try.ntmps99
    go_wp2_with fail
    go_ret
    exact ⟨by rw [hr.out]; rfl, hbb⟩

end Go.Proofs.Ytgipfenjachpnaa

namespace Go.Proofs.Ytgipfenjachpnaa
open Go.RowKit
attribute [local go_sem ↓] Go.wp_at_zero Go.wp_at_succ

theorem res_sg1 {fn : Func} {a : Nat} {tmps : Array Value} {w : World} {g : Nat} {x y : Value} (hres : fn.results = #[.cell a 101]) (ha : tmps.getD a undef = .pointer (some ⟨g, 0, none⟩)) (hB : Blk w g 101 #[x, y]) :
    (results fn tmps).run Try.prog w = .ok (.agg #[x, y]) w := by
  obtain ⟨b0, b1, _, _⟩ := hB.two
  have ha' : tmps[a]?.getD undef = .pointer (some ⟨g, 0, none⟩) := by simpa using ha
  simp [results, hres, go_sem, b0, b1, ha']
theorem res_sg2 {fn : Func} {a b : Nat} {tmps : Array Value} {w : World} {g : Nat} {x y : Value} (hres : fn.results = #[.cell a 101, .tmp b]) (ha : tmps.getD a undef = .pointer (some ⟨g, 0, none⟩)) (hB : Blk w g 101 #[x, y]) :
    (results fn tmps).run Try.prog w = .ok (.tuple #[.agg #[x, y], tmps.getD b undef]) w := by
  obtain ⟨b0, b1, _, _⟩ := hB.two
  have ha' : tmps[a]?.getD undef = .pointer (some ⟨g, 0, none⟩) := by simpa using ha
  simp [results, hres, go_sem, b0, b1, ha']
theorem Blk.far2 {w : World} {g g' : Nat} {t : TypeId} {cs : Array Value} (h : Blk w g t cs) (hne : g ≠ g') (u v : Value) : Blk ((w.setCell ⟨g', 0, none⟩ u).setCell ⟨g', 1, none⟩ v) g t cs := (h.far hne u).far hne v
theorem Own.set2 {w : World} {base : Nat} {e : TypeId} {size n c : Nat} {A : Option Addr} {xs : List Value} (h : Own w base e size A n c xs) {g : Nat} (hg : g < base) (u v : Value) : Own ((w.setCell ⟨g, 0, none⟩ u).setCell ⟨g, 1, none⟩ v) base e size A n c xs :=
  ownsRow_setCell_below (a := ⟨g, 1, none⟩) (ownsRow_setCell_below (a := ⟨g, 0, none⟩) h hg u) hg v
theorem gen0 {T R : World → Prop} {W : World} (hT : T W) (k : ∀ W, T W → R W) : R W := k W hT

end Go.Proofs.Ytgipfenjachpnaa

namespace Go.Proofs.Ytgipfenjachpnaa
open Go.RowKit

section
variable {P : Program}
theorem run_loadVar_at (w : World) (ad : Addr) (ty : TypeId) (cs : Array Value) (hc : ∀ j u, cs[j]? = some u → w.cell? (ad.add j) = some u) (d : TypeDesc) (hu : P.underlying ty = some d) (hd : (match d with | .struct _ | .array _ _ => true | _ => false) = true) (hi : (P.info? ty).map (·.size) = some cs.size) :
    (loadVar ty ad).run P w = .ok (.agg cs) w := by
  have hl := run_loadCells_list (P := P) w ad cs.toList (fun j u hj => hc j u (by simpa using hj))
  cases hq : P.info? ty with
  | none => simp [hq] at hi
  | some i =>
    have hs : i.size = cs.size := by simpa [hq] using hi
    have hagg : (isAgg ty).run P w = .ok true w := by
      unfold isAgg
      rw [Sem.run_bind, run_underlying hu w]
      cases d <;> simp_all
    simp only [Array.length_toList, Array.toArray_toList] at hl
    simp [loadVar, Sem.run_bind, hagg, sizeOf, typeInfo, hq, hs, hl]
theorem wp_loadA {o : Oper} {a : Act} {w : World} {K : Act → World → Prop} {Q : Exit → Act → World → Prop} (ty : TypeId) (x : Operand) (ho : o.op = .load ty x)
    (ad : Addr) (cs : Array Value) (hx : a.eval x = .pointer (some ad)) (hc : ∀ j u, cs[j]? = some u → w.cell? (ad.add j) = some u) (d : TypeDesc) (hu : P.underlying ty = some d) (hd : (match d with | .struct _ | .array _ _ => true | _ => false) = true) (hi : (P.info? ty).map (·.size) = some cs.size)
    (h : K (a.put o.dst (.agg cs)) w) : o.wp P a w K Q := by
  unfold Oper.wp execOp
  simp only [ho, hx, Instr.loadAt, Instr.sureAddr, Sem.run_bind, Sem.run_pure, Result.andThen_ok, run_loadVar_at w ad ty cs hc d hu hd hi]
  exact h
/-- a whole struct or array out of memory (the operation's guard, if it has one, true) -/
theorem wpl_loadG {ops : Array Oper} {rest : List Oper} {o : Oper} {a : Act} {w : World} {Q : Exit → Act → World → Prop} (hgd : Region.wanted o (yielded ops a.tmps) = true) (ty : TypeId) (x : Operand) (ho : o.op = .load ty x)
    (ad : Addr) (cs : Array Value) (hx : a.eval x = .pointer (some ad)) (hc : ∀ j u, cs[j]? = some u → w.cell? (ad.add j) = some u) (d : TypeDesc) (hu : P.underlying ty = some d) (hd : (match d with | .struct _ | .array _ _ => true | _ => false) = true) (hi : (P.info? ty).map (·.size) = some cs.size)
    (h : wpList P ops Q rest (a.put o.dst (.agg cs)) w) : wpList P ops Q (o :: rest) a w :=
  wpList_step fun _ hK => by
    rw [if_pos hgd]
    exact wp_loadA ty x ho ad cs hx hc d hu hd hi (hK _ _ h)
/-- a whole struct laid into a block of its own that was just made -/
theorem wpl_storeN {ops : Array Oper} {rest : List Oper} {o : Oper} {a : Act} {w : World} {Q : Exit → Act → World → Prop} (hgd : o.guard = none) (ty : TypeId) (x y : Operand) (ho : o.op = .store ty x y)
    (old cells : Array Value) (t : TypeId) (hx : a.eval x = .pointer (some ⟨w.heap.size, 0, none⟩)) (hy : a.eval y = .agg cells) (hi : (P.info? ty).map (·.size) = some cells.size) (hold : old.size = cells.size) (h1 : cells.all (·.oneCell') = true)
    (h : wpList P ops Q rest (a.put o.dst undef) (w.alloc (.cells cells t))) : wpList P ops Q (o :: rest) a (w.alloc (.cells old t)) :=
  wpList_store_row hgd ty x y ho w.heap.size cells hx hy t old (heap_alloc_new w _) hi hold h1 (by rw [World.setRow_alloc_new]; exact h)
end

/-- a part's cells -/
def ptl (p : Pt5) : List Value := .int .i64 p.1 :: .int .i64 p.2.1 :: .int .i64 p.2.2.1 :: bvs p.2.2.2.1
theorem ptl_len (p : Pt5) : (ptl p).length = 35 := by
  have := p.2.2.2.2
  simp [ptl, this]
theorem bvs_one (l : List UInt8) : ∀ u ∈ bvs l, u.oneCell' = true := one_bvs l
theorem ptl_one (p : Pt5) : ∀ u ∈ ptl p, u.oneCell' = true := by
  intro u hu
  simp only [ptl, List.mem_cons] at hu
  rcases hu with rfl | rfl | rfl | hu
  · rfl
  · rfl
  · rfl
  · exact one_bvs _ u hu
theorem ptl_all (p : Pt5) : (ptl p).toArray.all (·.oneCell') = true := by
  rw [Array.all_eq_true_iff_forall_mem]
  intro u hu
  exact ptl_one p u (by simpa using hu)
/-- a manifest's cells -/
def mfl (n f t r : Int) (d : Dg) (A : Option Addr) (k c : Nat) : List Value := .int .i64 n :: .int .i64 f :: .int .i64 t :: .int .i64 r :: (bvs d.1 ++ [.slice A k c])
theorem mfl_len (n f t r : Int) (d : Dg) (A : Option Addr) (k c : Nat) : (mfl n f t r d A k c).length = 37 := by
  have := d.2
  simp [mfl, this]
/-- a digest's, a part's, a manifest's cells as an array -/
def dga (d : Dg) : Array Value := (bvs d.1).toArray
def pta (p : Pt5) : Array Value := (ptl p).toArray
def mfa (n f t r : Int) (d : Dg) (A : Option Addr) (k c : Nat) : Array Value := (mfl n f t r d A k c).toArray
theorem dga_size (d : Dg) : (dga d).size = 32 := by have := d.2; simp [dga, this]
theorem pta_size (p : Pt5) : (pta p).size = 35 := by have := ptl_len p; simp [pta, this]
theorem mfa_size (n f t r : Int) (d : Dg) (A : Option Addr) (k c : Nat) : (mfa n f t r d A k c).size = 37 := by have := mfl_len n f t r d A k c; simp [mfa, this]
theorem pta_all (p : Pt5) : (pta p).all (·.oneCell') = true := ptl_all p
/-- parts that can be read -/
def SlP (w : World) (E : Option Addr) (cap : Nat) (ps : List Pt5) : Prop := Sl w 35 E ps.length cap (ps.flatMap ptl)
theorem SlP.below {w w' : World} {E : Option Addr} {cap : Nat} {ps : List Pt5} (h : SlP w E cap ps) (hb : Below w.heap.size w w') : SlP w' E cap ps := Sl.below h hb
theorem SlP.at {w : World} {E : Option Addr} {cap : Nat} {ps : List Pt5} (h : SlP w E cap ps) {k : Nat} (hk : k < ps.length) :
    ∃ ad b o, E = some ad ∧ ad.add (k * 35) = ⟨b, o, none⟩ ∧ ∀ j u, (pta ps[k])[j]? = some u → w.cell? ((⟨b, o, none⟩ : Addr).add j) = some u := by
  obtain ⟨ad, b, o, h1, h2, h3⟩ := Sl.atS (f := ptl) ptl_len (by decide) h hk
  exact ⟨ad, b, o, h1, h2, fun j u hj => by rw [addr_lit]; exact h3 j u (by simpa [pta] using hj)⟩
/-- a manifest's block -/
abbrev BlM (w : World) (g : Nat) (n f t r : Int) (d : Dg) (A : Option Addr) (k c : Nat) : Prop := Blk w g 52 (mfa n f t r d A k c)
theorem Blk.cells {w : World} {g : Nat} {t : TypeId} {cs : Array Value} (h : Blk w g t cs) : ∀ j u, cs[j]? = some u → w.cell? ((⟨g, 0, none⟩ : Addr).add j) = some u := fun j u hj => by
  rw [addr_lit, Nat.zero_add, h.cell]
  exact hj
section
variable {w : World} {g : Nat} {n f t r : Int} {d : Dg} {A : Option Addr} {k c : Nat}
theorem BlM.five (h : BlM w g n f t r d A k c) : w.cell? ⟨g, 0, none⟩ = some (.int .i64 n) ∧ w.cell? ⟨g, 1, none⟩ = some (.int .i64 f) ∧ w.cell? ⟨g, 2, none⟩ = some (.int .i64 t) ∧ w.cell? ⟨g, 3, none⟩ = some (.int .i64 r) ∧ w.cell? ⟨g, 36, none⟩ = some (.slice A k c) := by
  refine ⟨(h.cell 0).trans rfl, (h.cell 1).trans rfl, (h.cell 2).trans rfl, (h.cell 3).trans rfl, (h.cell 36).trans ?_⟩
  have := d.2
  simp [mfa, mfl, this]
theorem BlM.dg (h : BlM w g n f t r d A k c) : ∀ j u, (dga d)[j]? = some u → w.cell? ((⟨g, 4, none⟩ : Addr).add j) = some u := fun j u hj => by
  rw [addr_lit, h.cell]
  replace hj : (bvs d.1)[j]? = some u := by simpa [dga] using hj
  have hj2 : j < (bvs d.1).length := (List.getElem?_eq_some_iff.1 hj).1
  rw [show 4 + j = j + 1 + 1 + 1 + 1 from by omega]
  simp only [mfa, mfl, List.getElem?_toArray, List.getElem?_cons_succ]
  rw [List.getElem?_append_left hj2]
  exact hj
end
abbrev BlP (w : World) (g : Nat) (p : Pt5) : Prop := Blk w g 57 (pta p)
theorem BlP.three {w : World} {g : Nat} {p : Pt5} (h : BlP w g p) : w.cell? ⟨g, 0, none⟩ = some (.int .i64 p.1) ∧ w.cell? ⟨g, 1, none⟩ = some (.int .i64 p.2.1) ∧ w.cell? ⟨g, 2, none⟩ = some (.int .i64 p.2.2.1) :=
  ⟨(h.cell 0).trans rfl, (h.cell 1).trans rfl, (h.cell 2).trans rfl⟩
/-- two digests -/
theorem eqItems_bytes {P : Program} {e : TypeId} (he : P.underlying e = some (.int .u8)) (d : Nat) (xs ys : List UInt8) (w : World) : ∀ is : List Nat, (∀ i ∈ is, i < xs.length ∧ i < ys.length) →
    (Op.eqItems (d + 1) e 1 (bvs xs).toArray (bvs ys).toArray is).run P w = .ok (is.all fun i => decide (xs[i]? = ys[i]?)) w
  | [], _ => by simp [Op.eqItems]
  | i :: is, h => by
    obtain ⟨h1, h2⟩ := h i (.head _)
    have ih := eqItems_bytes he d xs ys w is fun j hj => h j (.tail _ hj)
    have hagg : (isAgg e).run P w = .ok false w := by
      unfold isAgg
      rw [Sem.run_bind, run_underlying he w]
      rfl
    have hx : (part e (bvs xs).toArray (i * 1)).run P w = .ok (bv xs[i]) w := by
      unfold part
      rw [Sem.run_bind, hagg]
      simp [List.getElem?_eq_getElem h1]
    have hy : (part e (bvs ys).toArray (i * 1)).run P w = .ok (bv ys[i]) w := by
      unfold part
      rw [Sem.run_bind, hagg]
      simp [List.getElem?_eq_getElem h2]
    simp only [Op.eqItems, Sem.run_bind, hx, hy, Result.andThen_ok, run_equalIn_int w d e .u8 .u8 _ _ he]
    have hb : ((xs[i].toNat : Int) == (ys[i].toNat : Int)) = decide (xs[i]? = ys[i]?) := by
      rw [List.getElem?_eq_getElem h1, List.getElem?_eq_getElem h2, Bool.eq_iff_iff]
      simp only [beq_iff_eq, decide_eq_true_eq, Option.some.injEq]
      constructor
      · intro h; exact UInt8.toNat_inj.1 (by omega)
      · intro h; rw [h]
    rw [hb]
    cases hq : decide (xs[i]? = ys[i]?)
    · simp [hq]
    · simp [hq, ih]
theorem dg_all (a b : Dg) : ((List.range 32).all fun i => decide (a.1[i]? = b.1[i]?)) = decide (a = b) := by
  rw [Bool.eq_iff_iff]
  simp only [List.all_eq_true, decide_eq_true_eq, List.mem_range]
  constructor
  · intro h
    apply Subtype.ext
    apply List.ext_getElem?
    intro i
    rcases Nat.lt_or_ge i 32 with h1 | h1
    · exact h i h1
    · rw [List.getElem?_eq_none (by rw [a.2]; exact h1), List.getElem?_eq_none (by rw [b.2]; exact h1)]
  · rintro rfl i _
    rfl
theorem eql_dg (a b : Dg) (w : World) : (binOp .eql 49 (.agg (dga a)) (.agg (dga b))).run Try.prog w = .ok (.bool (decide (a = b))) w := by
  unfold dga
  rw [run_eql_struct]
  obtain ⟨i, hi⟩ : ∃ i, Try.prog.info? 5 = some i := Option.isSome_iff_exists.1 (by kernel_rfl)
  rw [run_equalIn_array (P := Try.prog) (w := w) 9999 (t := 49) (e := 5) (n := 32) (i := i) _ _ Try.underlying49 hi]
  rw [show Try.prog.cellsOf 5 = 1 from by kernel_rfl]
  rw [eqItems_bytes (P := Try.prog) Try.underlying5 9998 a.1 b.1 w _ (fun i hi => by have := List.mem_range.1 hi; rw [a.2, b.2]; exact ⟨this, this⟩)]
  rw [dg_all]
  rfl
end Go.Proofs.Ytgipfenjachpnaa
