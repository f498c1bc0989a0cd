/- WHAT IT HOLDS: the document's disk: its power cut: walked. | WHAT IT HOLDS: a disk shows the document's: walked. | WHAT IT HOLDS: what is done to a disk, done to the document's, plainly. | WHAT IT HOLDS: a store's acts and the maps of values, plainly: they go past one another. | WHAT IT HOLDS: the document's constants of sha, walked: prime numbers, products, roots, tables. | WHAT IT HOLDS: a region that draws its order in a large frame: slots are read by unification and written by evaluation. | WHAT IT HOLDS: a digest's cells while it is laid, byte by byte. | WHAT IT HOLDS: the document's Take and Prefix, and lists side by side, walked. | WHAT IT HOLDS: words for the document's digest (rows of words, appends, bytes). | WHAT IT HOLDS: the document's digest: a block's 64 rounds, walked. | WHAT IT HOLDS: the document's digest: a block's 64 words, walked. | WHAT IT HOLDS: the document's digest, walked. | WHAT IT HOLDS: the document's digest of a text, walked. | WHAT IT HOLDS: the document's cursors, walked: Check, Same, a cursor as the document's. | WHAT IT HOLDS: the document's Same of equal cursors, walked. | WHAT IT HOLDS: the document's taking of cursors, walked. | WHAT IT HOLDS: the document's digest out of a reader, walked. | WHAT IT HOLDS: the document's Take of cursors, walked. | WHAT IT HOLDS: the document's Take of manifests, walked. | WHAT IT HOLDS: Same of manifests, the program's and the document's, walked. | WHAT IT HOLDS: the document's Same of manifests, walked. | WHAT IT HOLDS: lists of texts side by side; frame.All, walked. | WHAT IT HOLDS: the law FrameTakes, walked. | WHAT IT HOLDS: the document's Put of segments, and a segment's cell, walked. -/
import Derived.Test.YtajfnmohlnkncaaGreatDoorVaultAgreesG17
import Derived.Test.YtajfnmohlnkncaaGreatDoorVaultAgreesG16
import Derived.Test.YtajfnmohlnkncaaGreatDoorVaultAgreesG12
import Derived.OrdersHeld
import Derived.BigFrame
import Derived.WalkKit
import Derived.Deep.RegionHeld
import Derived.Test.YtajfnmohlnkncaaGreatDoorVaultAgreesG06
import Derived.Test.YtajfnmohlnkncaaGreatDoorVaultAgreesG08
import Derived.Test.YtajfnmohlnkncaaGreatDoorVaultAgreesG09
import Derived.Deep.DeepCutAuto
import Derived.Deep.CutBlock
namespace Go.Proofs.YtajfnmohlnkncaaGreatDoor
section
open Go.RowKit Go.Maps Go.Sort
attribute [local go_sem ↓] Go.wp_at_zero Go.wp_at_succ
end
section
open Go.RowKit Go.Maps Go.Sort
end
section
end
section
open Go.RowKit
attribute [local go_sem ↓] Go.wp_at_zero Go.wp_at_succ
end
section
theorem evalP {l : List Value} {ds : List Deferred} {t : Nat} {v : Value} (h : l.getD t undef = v) : Act.eval ⟨l.toArray, ds⟩ (.tmp t) = v := by
 rw [← h]
 simp [Act.eval]
theorem fg0 {a : Value} {l : List Value} : (a :: l).getD 0 undef = a := rfl
theorem fg1 {a0 : Value} {l : List Value} {n : Nat} {v : Value} (h : l.getD n undef = v) : (a0 :: l).getD (n + 1) undef = v := h
theorem fg8 {a0 a1 a2 a3 a4 a5 a6 a7 : Value} {l : List Value} {n : Nat} {v : Value} (h : l.getD n undef = v) : (a0 :: a1 :: a2 :: a3 :: a4 :: a5 :: a6 :: a7 :: l).getD (n + 8) undef = v := h
theorem execV {P : Program} {o : Oper} {a : Act} {w : World} {r : Result Next} (h : ∀ ρ : Operand → Value, (∀ v, ρ (.const v) = v) → (∀ g, ρ (.global g) = .pointer (some ⟨g, 0, none⟩)) → (∀ f, ρ (.func f) = .func (.func f) #[] #[]) → (∀ t, ρ (.tmp t) = a.eval (.tmp t)) → (execOp ρ o).run P w = r) : (execOp a.eval o).run P w = r :=
 h a.eval (fun _ => rfl) (fun _ => rfl) (fun _ => rfl) (fun _ => rfl)
theorem wantedP {c : Prop} [Decidable c] {x y : Prop} (h : c) (hx : x) : if c then x else y := by rw [if_pos h]; exact hx
/-! ### a region's order, decided once -/
section
variable {P : Program} {ops : Array Oper} {Q : Exit → Act → World → Prop} {md : Region.Mode} {S : World → Prop}
def maskOf : List Nat → Nat
 | [] => 0
 | a :: l => 2 ^ a ||| maskOf l
theorem mask_bit (l : List Nat) (k : Nat) : (maskOf l).testBit k = decide (k ∈ l) := by
 induction l with
 | nil => simp [maskOf]
 | cons a l ih =>
  unfold maskOf
  rw [Nat.testBit_or, ih, Nat.testBit_two_pow, Bool.eq_iff_iff]
  simp only [Bool.or_eq_true, decide_eq_true_eq, List.mem_cons]
  constructor
  · rintro (h | h)
    · exact .inl h.symm
    · exact .inr h
  · rintro (h | h)
    · exact .inl h.symm
    · exact .inr h
structure Tri where
 dst : Nat
 look : Nat
 wait : Nat
def triOf (md : Region.Mode) (ops : Array Oper) (o : Oper) : Tri :=
 ⟨maskOf o.dst.toList, maskOf (o.looksAt ops), maskOf ((o.after.toList.filter (Region.binds md)).map (·.on))⟩
def tabOf (md : Region.Mode) (ops : Array Oper) : List Tri := ops.toList.map (triOf md ops)
def apartT (x y : Tri) : Bool := x.dst &&& y.look == 0 && (x.dst &&& y.dst == 0 && y.dst &&& x.look == 0)
def allFrom (p : Nat → Tri → Bool) : Nat → List Tri → Bool
 | _, [] => true
 | k, x :: l => p k x && allFrom p (k + 1) l
theorem allFrom_at {p : Nat → Tri → Bool} : ∀ {l : List Tri} {k : Nat}, allFrom p k l = true → ∀ j x, l[j]? = some x → p (k + j) x = true
 | [], _, _, j, x, hx => by simp at hx
 | y :: l, k, h, j, x, hx => by
  unfold allFrom at h
  rw [Bool.and_eq_true] at h
  cases j with
  | zero => simp at hx; subst hx; exact h.1
  | succ j =>
   rw [List.getElem?_cons_succ] at hx
   have := allFrom_at h.2 j x hx
   rw [show k + (j + 1) = k + 1 + j from by omega]
   exact this
def chkT (T : List Tri) (n : Nat) : List (Nat × Bool) → Nat → Bool
 | [], M => M == 2 ^ n - 1
 | (i, b) :: r, M =>
  match T[i]? with
  | none => false
  | some x => (!M.testBit i && x.wait &&& M == x.wait) &&
   (allFrom (fun j y => j == i || M.testBit j || (match b with | true => y.wait.testBit i || apartT x y | false => !(y.wait &&& M == y.wait))) 0 T && chkT T n r (M ||| 2 ^ i))
def wpSeq (P : Program) (ops : Array Oper) (Q : Exit → Act → World → Prop) (S : World → Prop) : List (Nat × Bool) → Act → World → Prop
 | [], a, w => Q .normal a w
 | (i, true) :: r, a, w => ∃ o v, ops[i]? = some o ∧ YieldsIf P ops S o v a ∧ S w ∧ wpSeq P ops Q S r (a.put o.dst v) w
 | (i, false) :: r, a, w => wpOp P ops Q i (fun a' w' => S w' ∧ wpSeq P ops Q S r a' w') a w
theorem tab_at {i : Nat} {o : Oper} (h : ops[i]? = some o) : (tabOf md ops)[i]? = some (triOf md ops o) := by
 unfold tabOf
 rw [List.getElem?_map, Array.getElem?_toList, h]
 rfl
theorem land_zero {x y : Nat} (h : (x &&& y == 0) = true) (k : Nat) (h1 : x.testBit k = true) (h2 : y.testBit k = true) : False := by
 have h3 := congrArg (fun z => Nat.testBit z k) (eq_of_beq h)
 simp [Nat.testBit_and, h1, h2] at h3
theorem apart_of {x y : Oper} (h : apartT (triOf md ops x) (triOf md ops y) = true) : x.apart ops y = true := by
 unfold apartT triOf at h
 simp only [Bool.and_eq_true] at h
 obtain ⟨h1, h2, h3⟩ := h
 unfold Oper.apart
 rw [Bool.and_eq_true]
 constructor
 · cases hx : x.dst with
   | none => rfl
   | some d =>
    rw [hx] at h1 h2
    have hb : (maskOf (some d).toList).testBit d = true := by rw [mask_bit]; simp
    dsimp only
    rw [Bool.and_eq_true]
    constructor
    · rw [Bool.not_eq_true', Bool.eq_false_iff]
      intro hc
      refine land_zero h1 d hb ?_
      rw [mask_bit]
      simpa using hc
    · rw [bne_iff_ne]
      intro hc
      refine land_zero h2 d hb ?_
      rw [hc]
      exact hb
 · cases hy : y.dst with
   | none => rfl
   | some d =>
    rw [hy] at h3
    have hb : (maskOf (some d).toList).testBit d = true := by rw [mask_bit]; simp
    dsimp only
    rw [Bool.not_eq_true', Bool.eq_false_iff]
    intro hc
    refine land_zero h3 d hb ?_
    rw [mask_bit]
    simpa using hc
structure Corr (n : Nat) (listed : Array Bool) (M : Nat) : Prop where
 size : listed.size = n
 bit : ∀ j, j < n → listed[j]? = some (M.testBit j)
theorem Corr.set {n : Nat} {listed : Array Bool} {M i : Nat} (h : Corr n listed M) : Corr n (listed.setIfInBounds i true) (M ||| 2 ^ i) := by
 refine ⟨by simpa using h.size, fun j hj => ?_⟩
 rw [Nat.testBit_or, Nat.testBit_two_pow, Array.getElem?_setIfInBounds]
 by_cases e : i = j
 · subst e
   have := h.size
   rw [if_pos rfl, if_pos (by omega)]
   simp
 · rw [if_neg e, h.bit j hj]
   simp [e]
theorem Corr.getT {n : Nat} {listed : Array Bool} {M j : Nat} (h : Corr n listed M) (hj : j < n) (d : Bool) : listed.getD j d = M.testBit j := by
 rw [Array.getD_eq_getD_getElem?, h.bit j hj]
 rfl
theorem Corr.start (n : Nat) : Corr n (Array.replicate n false) 0 := ⟨by simp, fun j hj => by simp [hj]⟩
theorem ready_of {i M : Nat} {o : Oper} {listed : Array Bool} (hC : Corr ops.size listed M) (ho : ops[i]? = some o) (h1 : M.testBit i = false) (h2 : ((triOf md ops o).wait &&& M == (triOf md ops o).wait) = true)
 (hon : ∀ e ∈ o.after, Region.binds md e = true → e.on < ops.size) : i ∈ Region.ready md ops listed := by
 have hi : i < ops.size := (Array.getElem?_eq_some_iff.1 ho).1
 rw [mem_ready]
 refine ⟨by rw [hC.getT hi]; exact h1, o, ho, fun e he hb => ?_⟩
 rw [hC.getT (hon e he hb)]
 have h3 := congrArg (fun z => Nat.testBit z e.on) (eq_of_beq h2)
 have h4 : (triOf md ops o).wait.testBit e.on = true := by
  unfold triOf
  dsimp only
  rw [mask_bit]
  simp only [decide_eq_true_eq, List.mem_map, List.mem_filter]
  exact ⟨e, ⟨by simpa using he, hb⟩, rfl⟩
 simpa [Nat.testBit_and, h4] using h3
theorem wait_of {j M : Nat} {o : Oper} {listed : Array Bool} (hC : Corr ops.size listed M) (ho : ops[j]? = some o) (h : j ∈ Region.ready md ops listed) : M.testBit j = false ∧ ((triOf md ops o).wait &&& M == (triOf md ops o).wait) = true := by
 have hj : j < ops.size := (Array.getElem?_eq_some_iff.1 ho).1
 obtain ⟨h0, o', ho', hall⟩ := mem_ready.1 h
 rw [ho] at ho'
 injection ho' with ho'
 subst ho'
 refine ⟨by rw [← hC.getT hj true]; exact h0, ?_⟩
 rw [beq_iff_eq]
 apply Nat.eq_of_testBit_eq
 intro k
 rw [Nat.testBit_and]
 cases hk : (triOf md ops o).wait.testBit k with
 | false => rfl
 | true =>
  rw [Bool.true_and]
  unfold triOf at hk
  dsimp only at hk
  rw [mask_bit] at hk
  simp only [decide_eq_true_eq, List.mem_map, List.mem_filter] at hk
  obtain ⟨e, ⟨he, hb⟩, rfl⟩ := hk
  have h9 := hall e (by simpa using he) hb
  rcases Nat.lt_or_ge e.on ops.size with hl | hl
  · rw [hC.getT hl] at h9; exact h9
  · rw [Array.getD_eq_getD_getElem?, Array.getElem?_eq_none (by rw [hC.size]; exact hl)] at h9
    cases h9
def onT (n : Nat) (T : List Tri) : Bool := T.all fun x => decide (x.wait < 2 ^ n)
theorem on_of {n : Nat} {o : Oper} {i : Nat} (h : onT n (tabOf md ops) = true) (ho : ops[i]? = some o) : ∀ e ∈ o.after, Region.binds md e = true → e.on < n := fun e he hb => by
 unfold onT at h
 have h1 := List.all_eq_true.1 h _ (List.mem_of_getElem? (tab_at (md := md) ho))
 rw [decide_eq_true_eq] at h1
 have h4 : (triOf md ops o).wait.testBit e.on = true := by
  unfold triOf
  dsimp only
  rw [mask_bit]
  simp only [decide_eq_true_eq, List.mem_map, List.mem_filter]
  exact ⟨e, ⟨by simpa using he, hb⟩, rfl⟩
 have h5 := Nat.ge_two_pow_of_testBit h4
 exact (Nat.pow_lt_pow_iff_right (by decide : 1 < 2)).1 (Nat.lt_of_le_of_lt h5 h1)
theorem seq_sound (hsel : Region.noSelect ops = true) (hon : onT ops.size (tabOf md ops) = true) (hQ : ∀ c a d v w, Q (.panic c) (a.put (some d) v) w → Q (.panic c) a w) :
 ∀ (σ : List (Nat × Bool)) (M : Nat) (listed : Array Bool) (a : Act) (w : World), Corr ops.size listed M → chkT (tabOf md ops) ops.size σ M = true → wpSeq P ops Q S σ a w → wpAnyH P md ops Q S σ.length listed a w
 | [], M, listed, a, w, hC, hk, h => by
  unfold chkT at hk
  refine ⟨?_, h⟩
  rw [List.eq_nil_iff_forall_not_mem]
  intro j hj
  obtain ⟨_, o, ho, _⟩ := mem_ready.1 hj
  have hjn : j < ops.size := (Array.getElem?_eq_some_iff.1 ho).1
  have h1 := (wait_of hC ho hj).1
  rw [eq_of_beq hk, Nat.testBit_two_pow_sub_one] at h1
  simp [hjn] at h1
 | (i, b) :: r, M, listed, a, w, hC, hk, h => by
  unfold chkT at hk
  cases ho : ops[i]? with
  | none =>
   have hT : (tabOf md ops)[i]? = none := by
    unfold tabOf
    rw [List.getElem?_map, Array.getElem?_toList, ho]
    rfl
   rw [hT] at hk
   cases hk
  | some o =>
   rw [tab_at (md := md) ho] at hk
   dsimp only at hk
   simp only [Bool.and_eq_true] at hk
   obtain ⟨⟨h1, h2⟩, h3, h4⟩ := hk
   rw [Bool.not_eq_true'] at h1
   have hrd : i ∈ Region.ready md ops listed := ready_of hC ho h1 h2 (on_of hon ho)
   have hall := allFrom_at h3
   cases b with
   | true =>
    obtain ⟨o', v, ho', hy, hS, hr⟩ := h
    rw [ho] at ho'
    injection ho' with ho'
    subst ho'
    refine wpAnyH_first ho (Region.noSelect_spec hsel) (fun c a w h => by
     cases hd : o.dst with
     | none => rw [hd] at h; exact h
     | some d => rw [hd] at h; exact hQ c a d v w h) r.length listed a w (fun j oj hj hne hun hno => ?_) hrd hy hS (seq_sound hsel hon hQ r _ _ _ _ hC.set h4 hr)
    have h9 := hall j _ (tab_at (md := md) hj)
    have hjn : j < ops.size := (Array.getElem?_eq_some_iff.1 hj).1
    rw [hC.getT hjn] at hun
    simp only [Nat.zero_add, Bool.or_eq_true, beq_iff_eq, hne, hun, Bool.false_eq_true, false_or] at h9
    rcases h9 with h9 | h9
    · exfalso
      unfold triOf at h9
      dsimp only at h9
      rw [mask_bit] at h9
      simp only [decide_eq_true_eq, List.mem_map, List.mem_filter] at h9
      obtain ⟨e, ⟨he, hb⟩, he2⟩ := h9
      exact hno e (by simpa using he) hb he2
    · exact apart_of h9
   | false =>
    refine ⟨fun h0 => (by rw [h0] at hrd; cases hrd), fun j hj => ?_⟩
    obtain ⟨_, oj, hoj, _⟩ := mem_ready.1 hj
    obtain ⟨w1, w2⟩ := wait_of hC hoj hj
    have h9 := hall j _ (tab_at (md := md) hoj)
    simp only [Nat.zero_add, Bool.or_eq_true, beq_iff_eq, w1, w2, Bool.not_true, Bool.false_eq_true, or_false] at h9
    subst h9
    exact wpOp_mono (fun a' w' h' => ⟨h'.1, seq_sound hsel hon hQ r _ _ _ _ hC.set h4 h'.2⟩) h
theorem wp_region_seq {id : Nat} {a : Act} {w : World} (σ : List (Nat × Bool)) (hm : P.follows .mixedOrders = true) (hchk : (Region.noSelect ops && (σ.length == ops.size) && (onT ops.size (tabOf .any ops) && chkT (tabOf .any ops) ops.size σ 0)) = true)
 (hQ : ∀ c a d v w, Q (.panic c) (a.put (some d) v) w → Q (.panic c) a w) (hS : S w.drew) (h : S w.drew → wpSeq P ops Q S σ a w.drew) : (Code.region id ops true).wp P Q a w := by
 simp only [Bool.and_eq_true, beq_iff_eq] at hchk
 obtain ⟨⟨h1, h2⟩, h3, h4⟩ := hchk
 have h5 := seq_sound (md := .any) h1 h3 hQ σ 0 _ a w.drew (Corr.start ops.size) h4 (h hS)
 rw [h2] at h5
 exact wp_region_held hm h5
theorem seq_take {i : Nat} {r : List (Nat × Bool)} {a : Act} {w : World} {oi : Oper} {v : Value} (hi : ops[i]? = some oi) (hy : YieldsIf P ops S oi v a) (hS : S w) (h : wpSeq P ops Q S r (a.put oi.dst v) w) : wpSeq P ops Q S ((i, true) :: r) a w := ⟨oi, v, hi, hy, hS, h⟩
theorem seq_step {i : Nat} {r : List (Nat × Bool)} {a : Act} {w : World} {o : Oper} (ho : ops[i]? = some o)
 (h : ∀ K' : Act → World → Prop, Shut (∀ a w, S w → (S w → wpSeq P ops Q S r a w) → K' a w) → if Region.wanted o (yielded ops a.tmps) = true then Oper.wp P o a w K' Q else K' (a.put o.dst undef) w) : wpSeq P ops Q S ((i, false) :: r) a w :=
 wpOp_step ho (fun K' hK => h K' (fun a w hS hW => hK a w ⟨hS, hW hS⟩))
theorem seq_done {a : Act} {w : World} (h : Q .normal a w) : wpSeq P ops Q S [] a w := h
theorem wpSeq_put {r : List (Nat × Bool)} {a : Act} {w : World} {d : Tmp} {v : Value} (h : Oper.wp P ⟨some d, .move (.const v), 0, "", #[], none⟩ a w (wpSeq P ops Q S r) (fun _ _ _ => False)) : wpSeq P ops Q S r (a.put (some d) v) w := by
 unfold Oper.wp execOp at h
 exact h
end
end
section
open Go.RowKit
end
section
open Go.RowKit
attribute [local go_sem ↓] Go.wp_at_zero Go.wp_at_succ
theorem step_storeRow {P : Program} {ops : Array Oper} {o : Oper} {a : Act} {w : World} {K : Act → World → Prop} {Q : Exit → Act → World → Prop} {X : Prop} (hgd : Region.wanted o (yielded ops a.tmps) = true) (ty : TypeId) (x y : Operand) (ho : o.op = .store ty x y)
 (g : Nat) (cells : Array Value) (hx : a.eval x = .pointer (some ⟨g, 0, none⟩)) (hy : a.eval y = .agg cells)
 (t : TypeId) (old : Array Value) (hg : Blk w g t old) (hi : (P.info? ty).map (·.size) = some cells.size)
 (hold : old.size = cells.size) (h1 : cells.all (·.oneCell') = true)
 (h : K (a.put o.dst undef) (w.setRow g cells)) : if Region.wanted o (yielded ops a.tmps) = true then Oper.wp P o a w K Q else X := by
 rw [if_pos hgd]
 exact wp_store_row ty x y ho g cells hx hy t old hg hi hold h1 h
theorem yld_load {P : Program} {a : Act} {o : Oper} {w : World} (ty : TypeId) (x : Operand) (ho : o.op = .load ty x) (ad : Addr) (cs : Array Value) (hx : a.eval x = .pointer (some ad)) (hc : ∀ j u, cs[j]? = some u → w.cell? (ad.add j) = some u) (d : TypeDesc) (hu : P.underlying ty = some d) (hd : (match d with | .struct _ | .array _ _ => true | _ => false) = true) (hi : (P.info? ty).map (·.size) = some cs.size) :
 (execOp a.eval o).run P w = .ok (.value (.agg cs)) w := by
 unfold execOp
 simp only [ho, hx, Instr.loadAt, Instr.sureAddr, Sem.run_bind, Sem.run_pure, Result.andThen_ok, run_loadVar_at w ad ty cs hc d hu hd hi]
def sat (s : Sg) (a : Int) : Ce × Bool := if a < s.1 ∨ (s.2.length : Int) ≤ a - s.1 then ((0, []), false) else (s.2.getD (a - s.1).toNat (0, []), true)
end
end Go.Proofs.YtajfnmohlnkncaaGreatDoor
