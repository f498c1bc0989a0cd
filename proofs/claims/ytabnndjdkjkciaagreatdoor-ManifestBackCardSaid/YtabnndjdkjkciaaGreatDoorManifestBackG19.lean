/- WHAT IT HOLDS: a region that draws its order in a large frame: slots are read by unification and written by evaluation. | WHAT IT HOLDS: a digest's cells while it is laid, byte by byte. | WHAT IT HOLDS: the document's Take and Prefix, and lists side by side, walked. | WHAT IT HOLDS: words for the document's digest (rows of words, appends, bytes). | WHAT IT HOLDS: the document's digest: a block's 64 rounds, walked. -/
import Derived.OrdersHeld
import Derived.BigFrame
import Derived.WalkKit
import Derived.Deep.RegionHeld
import Derived.Test.YtabnndjdkjkciaaGreatDoorManifestBackG08
import Derived.Test.YtabnndjdkjkciaaGreatDoorManifestBackG10
import Derived.Test.YtabnndjdkjkciaaGreatDoorManifestBackG13
import Derived.Test.YtabnndjdkjkciaaGreatDoorManifestBackG18
import Derived.Deep.DeepCutAuto
import Derived.Deep.CutBlock
namespace Go.Proofs.YtabnndjdkjkciaaGreatDoor

theorem evalP {l : List Value} {ds : List Deferred} {t : Nat} {v : Value} (h : l.getD t undef = v) : Act.eval ⟨l.toArray, ds⟩ (.tmp t) = v := by
  rw [← h]
  simp [Act.eval]
theorem fg0 {a : Value} {l : List Value} : (a :: l).getD 0 undef = a := rfl
theorem fg1 {a0 : Value} {l : List Value} {n : Nat} {v : Value} (h : l.getD n undef = v) : (a0 :: l).getD (n + 1) undef = v := h
theorem fg8 {a0 a1 a2 a3 a4 a5 a6 a7 : Value} {l : List Value} {n : Nat} {v : Value} (h : l.getD n undef = v) : (a0 :: a1 :: a2 :: a3 :: a4 :: a5 :: a6 :: a7 :: l).getD (n + 8) undef = v := h
theorem fg64 {a0 a1 a2 a3 a4 a5 a6 a7 a8 a9 a10 a11 a12 a13 a14 a15 a16 a17 a18 a19 a20 a21 a22 a23 a24 a25 a26 a27 a28 a29 a30 a31 a32 a33 a34 a35 a36 a37 a38 a39 a40 a41 a42 a43 a44 a45 a46 a47 a48 a49 a50 a51 a52 a53 a54 a55 a56 a57 a58 a59 a60 a61 a62 a63 : Value} {l : List Value} {n : Nat} {v : Value} (h : l.getD n undef = v) : (a0 :: a1 :: a2 :: a3 :: a4 :: a5 :: a6 :: a7 :: a8 :: a9 :: a10 :: a11 :: a12 :: a13 :: a14 :: a15 :: a16 :: a17 :: a18 :: a19 :: a20 :: a21 :: a22 :: a23 :: a24 :: a25 :: a26 :: a27 :: a28 :: a29 :: a30 :: a31 :: a32 :: a33 :: a34 :: a35 :: a36 :: a37 :: a38 :: a39 :: a40 :: a41 :: a42 :: a43 :: a44 :: a45 :: a46 :: a47 :: a48 :: a49 :: a50 :: a51 :: a52 :: a53 :: a54 :: a55 :: a56 :: a57 :: a58 :: a59 :: a60 :: a61 :: a62 :: a63 :: l).getD (n + 64) undef = v := h
theorem execV {P : Program} {o : Oper} {a : Act} {w : World} {r : Result Next} (h : ∀ ρ : Operand → Value, (∀ v, ρ (.const v) = v) → (∀ g, ρ (.global g) = .pointer (some ⟨g, 0, none⟩)) → (∀ f, ρ (.func f) = .func (.func f) #[] #[]) → (∀ t, ρ (.tmp t) = a.eval (.tmp t)) → (execOp ρ o).run P w = r) : (execOp a.eval o).run P w = r :=
  h a.eval (fun _ => rfl) (fun _ => rfl) (fun _ => rfl) (fun _ => rfl)
theorem wantedP {c : Prop} [Decidable c] {x y : Prop} (h : c) (hx : x) : if c then x else y := by rw [if_pos h]; exact hx
/-- the block of a number, out of a function's code -/
def pickB (k : Nat) : Code → Option Code
  | .block l c => if l = k then some (.block l c) else pickB k c
  | .seq a b => match pickB k a with
    | some c => some c
    | none => pickB k b
  | .loop c => pickB k c
  | .scope c => pickB k c
  | .cond _ a b => match pickB k a with
    | some c => some c
    | none => pickB k b
  | _ => none
/-! ### a region's order, decided once -/
section
variable {P : Program} {ops : Array Oper} {Q : Exit → Act → World → Prop} {md : Region.Mode} {S : World → Prop}
def maskOf : List Nat → Nat
  | [] => 0
  | a :: l => 2 ^ a ||| maskOf l
theorem mask_bit (l : List Nat) (k : Nat) : (maskOf l).testBit k = decide (k ∈ l) := by
  induction l with
  | nil => simp [maskOf]
  | cons a l ih =>
    unfold maskOf
    rw [Nat.testBit_or, ih, Nat.testBit_two_pow, Bool.eq_iff_iff]
    simp only [Bool.or_eq_true, decide_eq_true_eq, List.mem_cons]
    constructor
    · rintro (h | h)
      · exact .inl h.symm
      · exact .inr h
    · rintro (h | h)
      · exact .inl h.symm
      · exact .inr h
/-- an operation: what it writes, looks at, waits for, as bits -/
structure Tri where
  dst : Nat
  look : Nat
  wait : Nat
def triOf (md : Region.Mode) (ops : Array Oper) (o : Oper) : Tri :=
  ⟨maskOf o.dst.toList, maskOf (o.looksAt ops), maskOf ((o.after.toList.filter (Region.binds md)).map (·.on))⟩
def tabOf (md : Region.Mode) (ops : Array Oper) : List Tri := ops.toList.map (triOf md ops)
def apartT (x y : Tri) : Bool := x.dst &&& y.look == 0 && (x.dst &&& y.dst == 0 && y.dst &&& x.look == 0)
def allFrom (p : Nat → Tri → Bool) : Nat → List Tri → Bool
  | _, [] => true
  | k, x :: l => p k x && allFrom p (k + 1) l
theorem allFrom_at {p : Nat → Tri → Bool} : ∀ {l : List Tri} {k : Nat}, allFrom p k l = true → ∀ j x, l[j]? = some x → p (k + j) x = true
  | [], _, _, j, x, hx => by simp at hx
  | y :: l, k, h, j, x, hx => by
    unfold allFrom at h
    rw [Bool.and_eq_true] at h
    cases j with
    | zero => simp at hx; subst hx; exact h.1
    | succ j =>
      rw [List.getElem?_cons_succ] at hx
      have := allFrom_at h.2 j x hx
      rw [show k + (j + 1) = k + 1 + j from by omega]
      exact this
def chkT (T : List Tri) (n : Nat) : List (Nat × Bool) → Nat → Bool
  | [], M => M == 2 ^ n - 1
  | (i, b) :: r, M =>
    match T[i]? with
    | none => false
    | some x => (!M.testBit i && x.wait &&& M == x.wait) &&
      (allFrom (fun j y => j == i || M.testBit j || (match b with | true => y.wait.testBit i || apartT x y | false => !(y.wait &&& M == y.wait))) 0 T && chkT T n r (M ||| 2 ^ i))
def wpSeq (P : Program) (ops : Array Oper) (Q : Exit → Act → World → Prop) (S : World → Prop) : List (Nat × Bool) → Act → World → Prop
  | [], a, w => Q .normal a w
  | (i, true) :: r, a, w => ∃ o v, ops[i]? = some o ∧ YieldsIf P ops S o v a ∧ S w ∧ wpSeq P ops Q S r (a.put o.dst v) w
  | (i, false) :: r, a, w => wpOp P ops Q i (fun a' w' => S w' ∧ wpSeq P ops Q S r a' w') a w
theorem tab_at {i : Nat} {o : Oper} (h : ops[i]? = some o) : (tabOf md ops)[i]? = some (triOf md ops o) := by
  unfold tabOf
  rw [List.getElem?_map, Array.getElem?_toList, h]
  rfl
theorem land_zero {x y : Nat} (h : (x &&& y == 0) = true) (k : Nat) (h1 : x.testBit k = true) (h2 : y.testBit k = true) : False := by
  have h3 := congrArg (fun z => Nat.testBit z k) (eq_of_beq h)
  simp [Nat.testBit_and, h1, h2] at h3
theorem apart_of {x y : Oper} (h : apartT (triOf md ops x) (triOf md ops y) = true) : x.apart ops y = true := by
  unfold apartT triOf at h
  simp only [Bool.and_eq_true] at h
  obtain ⟨h1, h2, h3⟩ := h
  unfold Oper.apart
  rw [Bool.and_eq_true]
  constructor
  · cases hx : x.dst with
    | none => rfl
    | some d =>
      rw [hx] at h1 h2
      have hb : (maskOf (some d).toList).testBit d = true := by rw [mask_bit]; simp
      dsimp only
      rw [Bool.and_eq_true]
      constructor
      · rw [Bool.not_eq_true', Bool.eq_false_iff]
        intro hc
        refine land_zero h1 d hb ?_
        rw [mask_bit]
        simpa using hc
      · rw [bne_iff_ne]
        intro hc
        refine land_zero h2 d hb ?_
        rw [hc]
        exact hb
  · cases hy : y.dst with
    | none => rfl
    | some d =>
      rw [hy] at h3
      have hb : (maskOf (some d).toList).testBit d = true := by rw [mask_bit]; simp
      dsimp only
      rw [Bool.not_eq_true', Bool.eq_false_iff]
      intro hc
      refine land_zero h3 d hb ?_
      rw [mask_bit]
      simpa using hc
/-- what has come up, as an array and as bits -/
structure Corr (n : Nat) (listed : Array Bool) (M : Nat) : Prop where
  size : listed.size = n
  bit : ∀ j, j < n → listed[j]? = some (M.testBit j)
theorem Corr.set {n : Nat} {listed : Array Bool} {M i : Nat} (h : Corr n listed M) : Corr n (listed.setIfInBounds i true) (M ||| 2 ^ i) := by
  refine ⟨by simpa using h.size, fun j hj => ?_⟩
  rw [Nat.testBit_or, Nat.testBit_two_pow, Array.getElem?_setIfInBounds]
  by_cases e : i = j
  · subst e
    have := h.size
    rw [if_pos rfl, if_pos (by omega)]
    simp
  · rw [if_neg e, h.bit j hj]
    simp [e]
theorem Corr.getT {n : Nat} {listed : Array Bool} {M j : Nat} (h : Corr n listed M) (hj : j < n) (d : Bool) : listed.getD j d = M.testBit j := by
  rw [Array.getD_eq_getD_getElem?, h.bit j hj]
  rfl
theorem Corr.start (n : Nat) : Corr n (Array.replicate n false) 0 := ⟨by simp, fun j hj => by simp [hj]⟩
theorem ready_of {i M : Nat} {o : Oper} {listed : Array Bool} (hC : Corr ops.size listed M) (ho : ops[i]? = some o) (h1 : M.testBit i = false) (h2 : ((triOf md ops o).wait &&& M == (triOf md ops o).wait) = true)
    (hon : ∀ e ∈ o.after, Region.binds md e = true → e.on < ops.size) : i ∈ Region.ready md ops listed := by
  have hi : i < ops.size := (Array.getElem?_eq_some_iff.1 ho).1
  rw [mem_ready]
  refine ⟨by rw [hC.getT hi]; exact h1, o, ho, fun e he hb => ?_⟩
  rw [hC.getT (hon e he hb)]
  have h3 := congrArg (fun z => Nat.testBit z e.on) (eq_of_beq h2)
  have h4 : (triOf md ops o).wait.testBit e.on = true := by
    unfold triOf
    dsimp only
    rw [mask_bit]
    simp only [decide_eq_true_eq, List.mem_map, List.mem_filter]
    exact ⟨e, ⟨by simpa using he, hb⟩, rfl⟩
  simpa [Nat.testBit_and, h4] using h3
theorem wait_of {j M : Nat} {o : Oper} {listed : Array Bool} (hC : Corr ops.size listed M) (ho : ops[j]? = some o) (h : j ∈ Region.ready md ops listed) : M.testBit j = false ∧ ((triOf md ops o).wait &&& M == (triOf md ops o).wait) = true := by
  have hj : j < ops.size := (Array.getElem?_eq_some_iff.1 ho).1
  obtain ⟨h0, o', ho', hall⟩ := mem_ready.1 h
  rw [ho] at ho'
  injection ho' with ho'
  subst ho'
  refine ⟨by rw [← hC.getT hj true]; exact h0, ?_⟩
  rw [beq_iff_eq]
  apply Nat.eq_of_testBit_eq
  intro k
  rw [Nat.testBit_and]
  cases hk : (triOf md ops o).wait.testBit k with
  | false => rfl
  | true =>
    rw [Bool.true_and]
    unfold triOf at hk
    dsimp only at hk
    rw [mask_bit] at hk
    simp only [decide_eq_true_eq, List.mem_map, List.mem_filter] at hk
    obtain ⟨e, ⟨he, hb⟩, rfl⟩ := hk
    have h9 := hall e (by simpa using he) hb
    rcases Nat.lt_or_ge e.on ops.size with hl | hl
    · rw [hC.getT hl] at h9; exact h9
    · rw [Array.getD_eq_getD_getElem?, Array.getElem?_eq_none (by rw [hC.size]; exact hl)] at h9
      cases h9
/-- what an operation waits for lies in the region -/
def onT (n : Nat) (T : List Tri) : Bool := T.all fun x => decide (x.wait < 2 ^ n)
theorem on_of {n : Nat} {o : Oper} {i : Nat} (h : onT n (tabOf md ops) = true) (ho : ops[i]? = some o) : ∀ e ∈ o.after, Region.binds md e = true → e.on < n := fun e he hb => by
  unfold onT at h
  have h1 := List.all_eq_true.1 h _ (List.mem_of_getElem? (tab_at (md := md) ho))
  rw [decide_eq_true_eq] at h1
  have h4 : (triOf md ops o).wait.testBit e.on = true := by
    unfold triOf
    dsimp only
    rw [mask_bit]
    simp only [decide_eq_true_eq, List.mem_map, List.mem_filter]
    exact ⟨e, ⟨by simpa using he, hb⟩, rfl⟩
  have h5 := Nat.ge_two_pow_of_testBit h4
  exact (Nat.pow_lt_pow_iff_right (by decide : 1 < 2)).1 (Nat.lt_of_le_of_lt h5 h1)
theorem seq_sound (hsel : Region.noSelect ops = true) (hon : onT ops.size (tabOf md ops) = true) (hQ : ∀ c a d v w, Q (.panic c) (a.put (some d) v) w → Q (.panic c) a w) :
    ∀ (σ : List (Nat × Bool)) (M : Nat) (listed : Array Bool) (a : Act) (w : World), Corr ops.size listed M → chkT (tabOf md ops) ops.size σ M = true → wpSeq P ops Q S σ a w → wpAnyH P md ops Q S σ.length listed a w
  | [], M, listed, a, w, hC, hk, h => by
    unfold chkT at hk
    refine ⟨?_, h⟩
    rw [List.eq_nil_iff_forall_not_mem]
    intro j hj
    obtain ⟨_, o, ho, _⟩ := mem_ready.1 hj
    have hjn : j < ops.size := (Array.getElem?_eq_some_iff.1 ho).1
    have h1 := (wait_of hC ho hj).1
    rw [eq_of_beq hk, Nat.testBit_two_pow_sub_one] at h1
    simp [hjn] at h1
  | (i, b) :: r, M, listed, a, w, hC, hk, h => by
    unfold chkT at hk
    cases ho : ops[i]? with
    | none =>
      have hT : (tabOf md ops)[i]? = none := by
        unfold tabOf
        rw [List.getElem?_map, Array.getElem?_toList, ho]
        rfl
      rw [hT] at hk
      cases hk
    | some o =>
      rw [tab_at (md := md) ho] at hk
      dsimp only at hk
      simp only [Bool.and_eq_true] at hk
      obtain ⟨⟨h1, h2⟩, h3, h4⟩ := hk
      rw [Bool.not_eq_true'] at h1
      have hrd : i ∈ Region.ready md ops listed := ready_of hC ho h1 h2 (on_of hon ho)
      have hall := allFrom_at h3
      cases b with
      | true =>
        obtain ⟨o', v, ho', hy, hS, hr⟩ := h
        rw [ho] at ho'
        injection ho' with ho'
        subst ho'
        refine wpAnyH_first ho (Region.noSelect_spec hsel) (fun c a w h => by
          cases hd : o.dst with
          | none => rw [hd] at h; exact h
          | some d => rw [hd] at h; exact hQ c a d v w h) r.length listed a w (fun j oj hj hne hun hno => ?_) hrd hy hS (seq_sound hsel hon hQ r _ _ _ _ hC.set h4 hr)
        have h9 := hall j _ (tab_at (md := md) hj)
        have hjn : j < ops.size := (Array.getElem?_eq_some_iff.1 hj).1
        rw [hC.getT hjn] at hun
        simp only [Nat.zero_add, Bool.or_eq_true, beq_iff_eq, hne, hun, Bool.false_eq_true, false_or] at h9
        rcases h9 with h9 | h9
        · exfalso
          unfold triOf at h9
          dsimp only at h9
          rw [mask_bit] at h9
          simp only [decide_eq_true_eq, List.mem_map, List.mem_filter] at h9
          obtain ⟨e, ⟨he, hb⟩, he2⟩ := h9
          exact hno e (by simpa using he) hb he2
        · exact apart_of h9
      | false =>
        refine ⟨fun h0 => (by rw [h0] at hrd; cases hrd), fun j hj => ?_⟩
        obtain ⟨_, oj, hoj, _⟩ := mem_ready.1 hj
        obtain ⟨w1, w2⟩ := wait_of hC hoj hj
        have h9 := hall j _ (tab_at (md := md) hoj)
        simp only [Nat.zero_add, Bool.or_eq_true, beq_iff_eq, w1, w2, Bool.not_true, Bool.false_eq_true, or_false] at h9
        subst h9
        exact wpOp_mono (fun a' w' h' => ⟨h'.1, seq_sound hsel hon hQ r _ _ _ _ hC.set h4 h'.2⟩) h
theorem wp_region_seq {id : Nat} {a : Act} {w : World} (σ : List (Nat × Bool)) (hm : P.follows .mixedOrders = true) (hchk : (Region.noSelect ops && (σ.length == ops.size) && (onT ops.size (tabOf .any ops) && chkT (tabOf .any ops) ops.size σ 0)) = true)
    (hQ : ∀ c a d v w, Q (.panic c) (a.put (some d) v) w → Q (.panic c) a w) (hS : S w.drew) (h : S w.drew → wpSeq P ops Q S σ a w.drew) : (Code.region id ops true).wp P Q a w := by
  simp only [Bool.and_eq_true, beq_iff_eq] at hchk
  obtain ⟨⟨h1, h2⟩, h3, h4⟩ := hchk
  have h5 := seq_sound (md := .any) h1 h3 hQ σ 0 _ a w.drew (Corr.start ops.size) h4 (h hS)
  rw [h2] at h5
  exact wp_region_held hm h5
theorem seq_take {i : Nat} {r : List (Nat × Bool)} {a : Act} {w : World} {oi : Oper} {v : Value} (hi : ops[i]? = some oi) (hy : YieldsIf P ops S oi v a) (hS : S w) (h : wpSeq P ops Q S r (a.put oi.dst v) w) : wpSeq P ops Q S ((i, true) :: r) a w := ⟨oi, v, hi, hy, hS, h⟩
theorem seq_step {i : Nat} {r : List (Nat × Bool)} {a : Act} {w : World} {o : Oper} (ho : ops[i]? = some o)
    (h : ∀ K' : Act → World → Prop, Shut (∀ a w, S w → (S w → wpSeq P ops Q S r a w) → K' a w) → if Region.wanted o (yielded ops a.tmps) = true then Oper.wp P o a w K' Q else K' (a.put o.dst undef) w) : wpSeq P ops Q S ((i, false) :: r) a w :=
  wpOp_step ho (fun K' hK => h K' (fun a w hS hW => hK a w ⟨hS, hW hS⟩))
theorem seq_done {a : Act} {w : World} (h : Q .normal a w) : wpSeq P ops Q S [] a w := h
theorem wpSeq_put {r : List (Nat × Bool)} {a : Act} {w : World} {d : Tmp} {v : Value} (h : Oper.wp P ⟨some d, .move (.const v), 0, "", #[], none⟩ a w (wpSeq P ops Q S r) (fun _ _ _ => False)) : wpSeq P ops Q S r (a.put (some d) v) w := by
  unfold Oper.wp execOp at h
  exact h
end
end Go.Proofs.YtabnndjdkjkciaaGreatDoor

namespace Go.Proofs.YtabnndjdkjkciaaGreatDoor
open Go.RowKit

/-- a digest's cells while it is laid, byte by byte -/
def dgk (m : List UInt8) (k : Nat) : Array Value := (bvs (m.take k ++ List.replicate (32 - k) 0)).toArray
theorem dgk_zero (m : List UInt8) : dgk m 0 = dga dg0 := by unfold dgk dga dg0; simp
theorem dgk_full (m : List UInt8) (h : m.length = 32) : dgk m 32 = dga ⟨m, h⟩ := by
  unfold dgk dga
  rw [List.take_of_length_le (by omega)]
  simp
theorem dgk_size (m : List UInt8) (k : Nat) (hk : k ≤ 32) (h : m.length = 32) : (dgk m k).size = 32 := by
  unfold dgk
  simp
  omega
theorem dgk_set (m : List UInt8) (k : Nat) (hk : k < 32) (h : m.length = 32) : (dgk m k).setIfInBounds k (bv (m[k]'(by omega))) = dgk m (k + 1) := by
  unfold dgk
  rw [List.setIfInBounds_toArray]
  congr 1
  rw [← List.map_set]
  congr 1
  have hl : (m.take k).length = k := by simp; omega
  rw [List.set_append_right _ _ (by omega), hl, Nat.sub_self, show 32 - k = (32 - (k + 1)) + 1 from by omega, List.replicate_succ, List.set_cons_zero, List.take_succ_eq_append_getElem (by omega), List.append_assoc]
  rfl
end Go.Proofs.YtabnndjdkjkciaaGreatDoor

namespace Go.Proofs.YtabnndjdkjkciaaGreatDoor
open Go.RowKit
attribute [local go_sem ↓] Go.wp_at_zero Go.wp_at_succ

theorem Sl.lt0 {w : World} {size n c : Nat} {A : Option Addr} {xs : List Value} (h : Sl w size A n c xs) (hne : xs ≠ []) : ∀ g, A.map (·.block) = some g → g < w.heap.size := by
  intro g hg
  rcases Nat.lt_or_ge g w.heap.size with h1 | h1
  · exact h1
  · exact absurd hg (Sl.old h h1 hne)

end Go.Proofs.YtabnndjdkjkciaaGreatDoor

namespace Go.Proofs.YtabnndjdkjkciaaGreatDoor
open Go.RowKit
attribute [local go_sem ↓] Go.wp_at_zero Go.wp_at_succ

theorem SlW.at {w : World} {A : Option Addr} {c k : Nat} {l : List W32} (h : SlW w A c l) (hk : k < l.length) : ∃ b o, A = some ⟨b, o, none⟩ ∧ w.cell? ⟨b, o + k, none⟩ = some (wv (l.getD k 0)) := by
  have hat : ∀ j, j < l.length → ∃ ad, A = some ad ∧ w.cell? (ad.add j) = some (wv (l.getD j 0)) := fun j hj => by
    obtain ⟨ad, hA, hc⟩ := Sl.at1 (f := wv) (l := l) h hj
    exact ⟨ad, hA, by rw [hc]; simp [hj]⟩
  obtain ⟨ad, rfl, hz⟩ := hat 0 (by omega)
  obtain ⟨_, e0, h0⟩ := hat k hk
  injection e0 with e0
  subst e0
  obtain ⟨b, o, sp⟩ := ad
  have hsp : sp = none := by
    have h9 := World.cell?_spot hz
    simpa [Addr.add] using h9
  subst hsp
  rw [addr_lit] at h0
  exact ⟨b, o, rfl, h0⟩
theorem SlW.all {w : World} {A : Option Addr} {c : Nat} {l : List W32} (h : SlW w A c l) (hl : 0 < l.length) : ∃ b o, A = some ⟨b, o, none⟩ ∧ ∀ k, k < l.length → w.cell? ⟨b, o + k, none⟩ = some (wv (l.getD k 0)) := by
  obtain ⟨b, o, rfl, -⟩ := h.at hl
  refine ⟨b, o, rfl, fun k hk => ?_⟩
  obtain ⟨b', o', e, hc⟩ := h.at hk
  injection e with e
  injection e with e1 e2
  subst e1 e2
  exact hc
theorem run_append_keep {P : Program} (w : World) (base : Nat) (t ty e : TypeId) (i : TypeInfo) (z : Value) (bytes : Nat) (ht : P.underlying t = some (.slice e)) (hi : P.info? e = some i) (hz : i.zero = some z)
    (hsize : i.size = 1) (hby : i.bytes = bytes) (hzs : z.cells.size = 1) (g n c : Nat) (xs : List Value) (hown : Own w base e 1 (some ⟨g, 0, none⟩) n c xs) (hn : 0 < n)
    (ad : Addr) (c2 : Nat) (u : Value) (hr : Sl w 1 (some ad) 1 c2 [u]) (h1 : u.oneCell' = true) (hbytes : (n + 1) * bytes ≤ 140737488355328) (hmax : n + 1 ≤ maxLen) (hbase : base ≤ w.heap.size) :
    ∃ A' c' w', (Builtin.append_ #[t, t] ty #[.slice (some ⟨g, 0, none⟩) n c, .slice (some ad) 1 c2]).run P w = .ok (.slice A' (n + 1) c') w' ∧ Appd w w' base e 1 (some ⟨g, 0, none⟩) A' (n + 1) c' (xs ++ [u]) ∧ ∀ j v, xs[j]? = some v → w'.cell? ⟨g, j, none⟩ = some v := by
  obtain ⟨A', c', w', hrun, hap⟩ := run_append_rd (P := P) w base t ty e i z 1 bytes ht hi hz hsize hby hzs (by decide) (some ⟨g, 0, none⟩) n c xs hown (some ad) 1 c2 [u] hr (by intro v hv; simp at hv; subst hv; exact h1) hbytes hmax hbase
  refine ⟨A', c', w', hrun, hap, ?_⟩
  have hnews : ∀ j v, [u][j]? = some v → w.cell? (ad.add j) = some v := fun j v hj => by
    obtain ⟨_, hA, hc⟩ := hr.2.2.2.2 j v hj
    injection hA with hA
    subst hA
    exact hc
  obtain ⟨hxl, h2⟩ := hown
  rcases h2 with ⟨_, h0⟩ | ⟨g', cap, cur, hv, hbg, hg, hnc, hcm, hcs, htake⟩
  · omega
  injection hv with hv1 hv2 hv3
  injection hv1 with hv1
  injection hv1 with hv1
  subst hv1 hv3
  have hcur : ∀ j v, xs[j]? = some v → cur[j]? = some v := fun j v hj => by
    have hjl : j < xs.length := (List.getElem?_eq_some_iff.1 hj).1
    rw [← htake, List.getElem?_take, if_pos (by omega)] at hj
    simpa using hj
  have hold : ∀ j v, xs[j]? = some v → w.cell? ((⟨g, 0, none⟩ : Addr).add j) = some v := fun j v hj => by
    rw [addr_lit, Nat.zero_add, cell_of_row w g j cur e (0, 0) hg]
    exact hcur j v hj
  by_cases hroom : n + 1 ≤ c
  · have hr2 := run_append_room (P := P) w t ty e i ht hi g n c cur hg ad 1 c2 [u] (by simp [hsize]) hnews (by intro v hv; simp at hv; subst hv; exact h1) hroom (by rw [hsize, hcs]; simp; omega)
    rw [hrun] at hr2
    injection hr2 with _ hw
    subst hw
    intro j v hj
    have hjl : j < xs.length := (List.getElem?_eq_some_iff.1 hj).1
    rw [cell_of_row _ g j _ e (0, 0) (setRow_heap w g cur _ e (0, 0) hg), hsize, Nat.mul_one]
    rw [List.getElem?_toArray, List.append_assoc, List.getElem?_append_left (by simp; omega), List.getElem?_take, if_pos (by omega)]
    simpa using hcur j v hj
  · have hg2 := run_append_grow (P := P) w t ty e i z ht hi hz ⟨g, 0, none⟩ n c xs (by rw [hsize]; exact hxl) hold ad 1 c2 [u] (by simp [hsize]) hnews (by omega) (by simp only [maxLen] at hmax; omega) (growslice_fits (by omega) (by rw [hby]; exact hbytes))
    rw [hrun] at hg2
    injection hg2 with _ hw
    subst hw
    intro j v hj
    have hlt : g < w.heap.size := (Array.getElem?_eq_some_iff.1 hg).1
    rw [World.cell?_of_block (w := w) (Below.heap_alloc w.drew _ g hlt)]
    have := hold j v hj
    rw [addr_lit, Nat.zero_add] at this
    exact this
theorem step_wordK {w : World} {ops : Array Oper} {o : Oper} {a : Act} {K : Act → World → Prop} {Q : Exit → Act → World → Prop} {E : Prop} (hw : Region.wanted o (yielded ops a.tmps) = true) (s x : Operand)
    (ho : o.op = .call { callee := .builtin .append, args := #[s, x], argTypes := #[139, 139] })
    (base g c : Nat) (l : List W32) (hs : a.eval s = .slice (some ⟨g, 0, none⟩) l.length c) (hown : OwnW w base (some ⟨g, 0, none⟩) c l) (hl0 : 0 < l.length)
    (ad : Addr) (c2 : Nat) (v : W32) (hx : a.eval x = .slice (some ad) 1 c2) (hr : SlW w (some ad) c2 [v]) (hlen : l.length ≤ 1000000) (hbase : base ≤ w.heap.size)
    (h : ∀ A' c' (m : List W32) w', Hid (m = l ++ [v]) → OwnW w' base A' c' m → Below base w w' → (∀ j, j < l.length → w'.cell? ⟨g, j, none⟩ = some (wv (l.getD j 0))) → K (a.put o.dst (.slice A' m.length c')) w') :
    if Region.wanted o (yielded ops a.tmps) = true then Oper.wp Tryz.prog o a w K Q else E := by
  rw [if_pos hw]
  obtain ⟨i0, hi, hz0, hz1, hz2⟩ := info_parts w32_info
  obtain ⟨A', c', w', hrun, hap, hkeep⟩ := run_append_keep (P := Tryz.prog) w base 139 o.type 221 i0 (.int .u32 0) 4 Tryz.underlying139 hi hz0 hz1 hz2 rfl g l.length c (wvs l) hown hl0 ad c2 (wv v) hr rfl (by omega) (by simp only [maxLen]; omega) hbase
  unfold Oper.wp execOp
  simp only [ho, resolve, invoke, builtin, Sem.run_bind, Sem.run_pure, Result.andThen_ok, List.map_toArray, List.map_cons, List.map_nil, hs, hx, hrun]
  have e1 : l.length + 1 = (l ++ [v]).length := by simp
  rw [e1]
  refine h A' c' (l ++ [v]) w' rfl ?_ (hap.below hown hbase) (fun j hj => hkeep j _ (by simp [hj]))
  have := hap.own
  rw [e1] at this
  simpa [OwnW] using this
theorem be4_sum (a b c d : UInt8) : IntKind.u32.wrap (IntKind.u32.wrap (IntKind.u32.wrap (IntKind.u32.wrap (IntKind.u32.wrap (a.toNat : Int) * 16777216) + IntKind.u32.wrap (IntKind.u32.wrap (b.toNat : Int) * 65536)) + IntKind.u32.wrap (IntKind.u32.wrap (c.toNat : Int) * 256)) + IntKind.u32.wrap (d.toNat : Int)) = wn (be4 a b c d) := by
  have h1 := a.toNat_lt
  have h2 := b.toNat_lt
  have h3 := c.toNat_lt
  have h4 := d.toNat_lt
  have hwr : ∀ z : Int, IntKind.u32.wrap z = z % 4294967296 := fun z => rfl
  simp only [hwr]
  unfold wn be4
  rw [BitVec.toNat_ofNat]
  omega
/-- what a round over a block's text holds of memory -/
structure DsI (w W : World) (C E S : Option Addr) (cc d sd : Nat) (ks : List W32) (m : List UInt8) (l : List W32) : Prop where
  mm : Mm w W [(w.heap.size, 42, dga dg0)] []
  c : SlW W C cc ks
  b : SlB W E d m
  s : SlW W S sd l
theorem DsI.call {w W W' : World} {C E S : Option Addr} {cc d sd : Nat} {ks : List W32} {m : List UInt8} {l : List W32} (h : DsI w W C E S cc d sd ks m l) (hb : Below W.heap.size W W') : DsI w W' C E S cc d sd ks m l :=
  ⟨h.mm.call hb, Sl.below h.c hb, Sl.below h.b hb, Sl.below h.s hb⟩
theorem not_wnM (x : W32) : bits .xor .u32 IntKind.u32.max (wn x) = wn (~~~x) := not_wn x
theorem cell_allocW {w : World} {b o : Nat} {v : Value} (h : w.cell? ⟨b, o, none⟩ = some v) (ob : Obj) : (w.alloc ob).cell? ⟨b, o, none⟩ = some v :=
  ((below_new w ob).cell (p := ⟨b, o, none⟩) (World.block_lt_of_cell? _ _ h)).trans h
theorem OwnW.form {w : World} {base c : Nat} {A : Option Addr} {l : List W32} (h : OwnW w base A c l) (hn : 0 < l.length) : ∃ g, A = some ⟨g, 0, none⟩ ∧ base ≤ g ∧ ∀ j, j < l.length → w.cell? ⟨g, j, none⟩ = some (wv (l.getD j 0)) := by
  rcases h.2 with ⟨_, h0⟩ | ⟨g, cap, cur, hv, hbg, hg, _⟩
  · omega
  · injection hv with hv1
    subst hv1
    refine ⟨g, rfl, hbg, fun j hj => ?_⟩
    have h9 := World.ownsRow.cells h (g := g) rfl j (wv (l.getD j 0)) (by simp [hj])
    rw [addr_lit, Nat.zero_add] at h9
    exact h9
theorem step_words {w : World} {ops : Array Oper} {o : Oper} {a : Act} {K : Act → World → Prop} {Q : Exit → Act → World → Prop} {E : Prop} (hw : Region.wanted o (yielded ops a.tmps) = true) (s x : Operand)
    (ho : o.op = .call { callee := .builtin .append, args := #[s, x], argTypes := #[139, 139] })
    (base : Nat) (A : Option Addr) (c : Nat) (l : List W32) (hs : a.eval s = .slice A l.length c) (hown : OwnW w base A c l)
    (A2 : Option Addr) (c2 : Nat) (v : W32) (hx : a.eval x = .slice A2 1 c2) (hr : SlW w A2 c2 [v])
    (hlen : l.length ≤ 1000000) (hbase : base ≤ w.heap.size)
    (h : ∀ A' c' (m : List W32) w', Hid (m = l ++ [v]) → OwnW w' base A' c' m → Below base w w' → K (a.put o.dst (.slice A' m.length c')) w') :
    if Region.wanted o (yielded ops a.tmps) = true then Oper.wp Tryz.prog o a w K Q else E := by
  obtain ⟨i0, hi, hz0, hz1, hz2⟩ := info_parts w32_info
  refine step_append hw s x 139 ho base 221 i0 (.int .u32 0) 1 4 Tryz.underlying139 hi hz0 hz1 hz2 rfl (by decide) A l.length c (wvs l) hs hown A2 1 c2 (wvs [v]) hx hr (one_wvs [v]) (by omega) (by simp only [maxLen]; omega) hbase ?_
  intro A' c' w' hap
  have e1 : l.length + 1 = (l ++ [v]).length := by simp
  rw [e1]
  refine h A' c' (l ++ [v]) w' rfl ?_ (hap.below hown hbase)
  have := hap.own
  rw [e1] at this
  simpa [OwnW] using this
theorem turn2 : Hid (∀ (x : W32) (w : World), Calls Tryz.prog 138 #[wv x, .int .i64 2] w fun e w' => e = .returned (wv (tr x 2)) ∧ w' = w) := (show ∀ (x : W32) (w : World), _ from fun x w => Turn_any x 2 (by decide) (by decide) w)
theorem turn6 : Hid (∀ (x : W32) (w : World), Calls Tryz.prog 138 #[wv x, .int .i64 6] w fun e w' => e = .returned (wv (tr x 6)) ∧ w' = w) := (show ∀ (x : W32) (w : World), _ from fun x w => Turn_any x 6 (by decide) (by decide) w)
theorem turn7 : Hid (∀ (x : W32) (w : World), Calls Tryz.prog 138 #[wv x, .int .i64 7] w fun e w' => e = .returned (wv (tr x 7)) ∧ w' = w) := (show ∀ (x : W32) (w : World), _ from fun x w => Turn_any x 7 (by decide) (by decide) w)
theorem turn11 : Hid (∀ (x : W32) (w : World), Calls Tryz.prog 138 #[wv x, .int .i64 11] w fun e w' => e = .returned (wv (tr x 11)) ∧ w' = w) := (show ∀ (x : W32) (w : World), _ from fun x w => Turn_any x 11 (by decide) (by decide) w)
theorem turn13 : Hid (∀ (x : W32) (w : World), Calls Tryz.prog 138 #[wv x, .int .i64 13] w fun e w' => e = .returned (wv (tr x 13)) ∧ w' = w) := (show ∀ (x : W32) (w : World), _ from fun x w => Turn_any x 13 (by decide) (by decide) w)
theorem turn17 : Hid (∀ (x : W32) (w : World), Calls Tryz.prog 138 #[wv x, .int .i64 17] w fun e w' => e = .returned (wv (tr x 17)) ∧ w' = w) := (show ∀ (x : W32) (w : World), _ from fun x w => Turn_any x 17 (by decide) (by decide) w)
theorem turn18 : Hid (∀ (x : W32) (w : World), Calls Tryz.prog 138 #[wv x, .int .i64 18] w fun e w' => e = .returned (wv (tr x 18)) ∧ w' = w) := (show ∀ (x : W32) (w : World), _ from fun x w => Turn_any x 18 (by decide) (by decide) w)
theorem turn19 : Hid (∀ (x : W32) (w : World), Calls Tryz.prog 138 #[wv x, .int .i64 19] w fun e w' => e = .returned (wv (tr x 19)) ∧ w' = w) := (show ∀ (x : W32) (w : World), _ from fun x w => Turn_any x 19 (by decide) (by decide) w)
theorem turn22 : Hid (∀ (x : W32) (w : World), Calls Tryz.prog 138 #[wv x, .int .i64 22] w fun e w' => e = .returned (wv (tr x 22)) ∧ w' = w) := (show ∀ (x : W32) (w : World), _ from fun x w => Turn_any x 22 (by decide) (by decide) w)
theorem turn25 : Hid (∀ (x : W32) (w : World), Calls Tryz.prog 138 #[wv x, .int .i64 25] w fun e w' => e = .returned (wv (tr x 25)) ∧ w' = w) := (show ∀ (x : W32) (w : World), _ from fun x w => Turn_any x 25 (by decide) (by decide) w)
theorem four_get (s : S8) {a b : Nat} (ha : a < 8) (hb : b < 4) : (s.l.flatMap four).getD (4 * a + b) 0 = (four (s.l.getD a 0)).getD b 0 := by
  have hb' : b = 0 ∨ b = 1 ∨ b = 2 ∨ b = 3 := by omega
  rcases s8_lt ha with rfl | rfl | rfl | rfl | rfl | rfl | rfl | rfl <;> rcases hb' with rfl | rfl | rfl | rfl <;> rfl
theorem four_int (x : W32) {b : Nat} (hb : b < 4) : (((four x).getD b 0).toNat : Int) = wn x / 2 ^ (24 - 8 * b) % 256 := by
  have hb' : b = 0 ∨ b = 1 ∨ b = 2 ∨ b = 3 := by omega
  have hx := x.isLt
  rcases hb' with rfl | rfl | rfl | rfl
  · show ((UInt8.ofNat (x.toNat / 16777216)).toNat : Int) = (x.toNat : Int) / 16777216 % 256
    rw [ofNat_byte]; omega
  · show ((UInt8.ofNat (x.toNat / 65536 % 256)).toNat : Int) = (x.toNat : Int) / 65536 % 256
    rw [ofNat_byte]; omega
  · show ((UInt8.ofNat (x.toNat / 256 % 256)).toNat : Int) = (x.toNat : Int) / 256 % 256
    rw [ofNat_byte]; omega
  · show ((UInt8.ofNat (x.toNat % 256)).toNat : Int) = (x.toNat : Int) / 1 % 256
    rw [ofNat_byte]; omega
theorem four_byte (s : S8) {i a b : Nat} (h : i = 4 * a + b) (ha : a < 8) (hb : b < 4) : (((s.l.flatMap four).getD i 0).toNat : Int) = wn (s.l.getD a 0) / 2 ^ (24 - 8 * b) % 256 := by
  subst h
  rw [four_get s ha hb, four_int _ hb]
theorem getD_get {T : Type} (l : List T) (d : T) {k : Nat} (h : k < l.length) : l.getD k d = l[k] := by simp [List.getD_eq_getElem?_getD, h]
theorem SlW.setB {w : World} {B k i c : Nat} {A : Option Addr} {l : List W32} (h : SlW w A c l) (hBd : ∀ ad, A = some ad → ad.block < B) (hk : B ≤ k) (v : Value) : SlW (w.setCell ⟨k, i, none⟩ v) A c l :=
  ⟨h.1, h.2.1, h.2.2.1, h.2.2.2.1, fun j u hj => by
    obtain ⟨ad, e, hc⟩ := h.2.2.2.2 j u hj
    refine ⟨ad, e, ?_⟩
    have hb : Below k w (w.setCell ⟨k, i, none⟩ v) := Below.setCell (p := ⟨k, i, none⟩) (Below.refl _ _) (Nat.le_refl _) v
    exact (hb.cell (p := ad.add j) (by rw [addr_add_block]; have := hBd ad e; omega)).trans hc⟩
theorem res_dgR {fn : Func} {a : Nat} {tmps : Array Value} {w : World} {g : Nat} {d : Dg} (hres : fn.results = #[.cell a 42]) (ha : tmps.getD a undef = .pointer (some ⟨g, 0, none⟩)) (hB : Blk w g 42 (dga d)) : (results fn tmps).run Tryz.prog w = .ok (.agg (dga d)) w := by
  have h := run_loadVar_at (P := Tryz.prog) w ⟨g, 0, none⟩ 42 (dga d) hB.cells _ Tryz.underlying42 rfl (by rw [dga_size]; kernel_rfl)
  have ha' : tmps[a]?.getD undef = .pointer (some ⟨g, 0, none⟩) := by simpa using ha
  simp [results, hres, asAddr, h, ha']
def cnM (t : List UInt8) (z : Nat) : List UInt8 := t ++ 128 :: List.replicate z 0
theorem shaM_eq (t : List UInt8) : shaM t = cnM t (padZ t.length) ++ be8 (8 * t.length) := by unfold shaM padT cnM; simp
end Go.Proofs.YtabnndjdkjkciaaGreatDoor

namespace Go.Proofs.YtabnndjdkjkciaaGreatDoor
open Go.RowKit
attribute [local go_sem ↓] Go.wp_at_zero Go.wp_at_succ

noncomputable def sumBlk8 : Code := ((Tryz.f66.body.bind (pickB 8)).getD .skip)
set_option maxRecDepth 1000000 in
set_option maxHeartbeats 4000000 in
theorem sumBlk8_any {c0_ c2_ c3_ c4_ c5_ c6_ c7_ c8_ c9_ c10_ c11_ c13_ c14_ c15_ c16_ c26_ c27_ c28_ c29_ c30_ c31_ c32_ c33_ c34_ c35_ c36_ c37_ c38_ c39_ c40_ c41_ c42_ c43_ c44_ c45_ c46_ c47_ c48_ c49_ c50_ c51_ c52_ c53_ c54_ c55_ c56_ c57_ c58_ c59_ c60_ c61_ c62_ c63_ c64_ c65_ c66_ c67_ c68_ c69_ c70_ c71_ c72_ c73_ c74_ c75_ c76_ c77_ c78_ c79_ c80_ c81_ c82_ c83_ c84_ c85_ c86_ c87_ c88_ c89_ c90_ c91_ c92_ c93_ c94_ c95_ c96_ c97_ c98_ c99_ c100_ c101_ c102_ c103_ c104_ c105_ c106_ c107_ c108_ c109_ c110_ c111_ c112_ c113_ c114_ c115_ c116_ c117_ c118_ c119_ c120_ c121_ c122_ c123_ c124_ c125_ c126_ c127_ c128_ c129_ c130_ c131_ c132_ c133_ c134_ c135_ c136_ c137_ c138_ c139_ c140_ c141_ c142_ c143_ c144_ c145_ c146_ c147_ c148_ c149_ c150_ c151_ c152_ c153_ c154_ c155_ c156_ c157_ c158_ c159_ c160_ c161_ c162_ c163_ c164_ c165_ c166_ c167_ c168_ c169_ c170_ c171_ c172_ c173_ c174_ c175_ c176_ c177_ c178_ c179_ c180_ c181_ c182_ c183_ c184_ c185_ c186_ c187_ c188_ c189_ c190_ c191_ c192_ c193_ c194_ c195_ c196_ c197_ c198_ c199_ c200_ c201_ c202_ c203_ c204_ c205_ c206_ c207_ c208_ c209_ c210_ c211_ c212_ c213_ c214_ c215_ c216_ c217_ c218_ c219_ c220_ c221_ c222_ c223_ c224_ c225_ c226_ c227_ c228_ c229_ c230_ c231_ c232_ c233_ c234_ c235_ c236_ c237_ c238_ c239_ c240_ c241_ c242_ c243_ c244_ c245_ c246_ c247_ c248_ c249_ c250_ c251_ c252_ c253_ c254_ c255_ c256_ c257_ c258_ c259_ c260_ c261_ c262_ c263_ c264_ c265_ c266_ c267_ c268_ c269_ c270_ c271_ c272_ c273_ c274_ c275_ c276_ c277_ c278_ c279_ c280_ c281_ c282_ c283_ c284_ c285_ c286_ c287_ c288_ c289_ c290_ c291_ c292_ c293_ c294_ c295_ c296_ c297_ c298_ c299_ c300_ c301_ c302_ c303_ : Value} {C : Option Addr} {cc gw wc : Nat} (ks ws : List W32) (st : S8) (w : World) (hC : SlW w C cc ks) (hW : SlW w (some ⟨gw, 0, none⟩) wc ws) (hks : Hid (ks = shaK)) (hwl : ws.length = 64) (Q0 : Exit → Act → World → Prop) (HQ : Hid (∀ c a d v w, Q0 (.panic c) (a.put (some d) v) w → Q0 (.panic c) a w))
    (HX : Hid (∀ {u26_ u27_ u178_ u179_ u180_ u181_ u182_ u183_ u184_ u185_ u186_ u187_ u188_ u189_ u190_ u191_ u192_ u193_ u194_ u195_ u196_ u197_ u198_ u199_ u200_ u201_ u202_ u203_ u204_ u205_ u206_ u207_ u208_ u209_ u210_ u211_ u212_ u213_ u214_ u215_ u216_ u217_ u218_ u219_ u220_ u221_ u222_ u223_ u224_ u225_ u226_ u227_ u228_ u229_ u230_ u231_ u232_ u233_ u234_ u235_ u236_ u237_ u238_ u239_ u240_ u241_ u242_ : Value} (r : S8) (W : World), Hid (r = rnds ws st 64) → Below w.heap.size w W → Q0 .normal ⟨#[c0_, .slice C 64 cc, c2_, c3_, c4_, c5_, c6_, c7_, c8_, c9_, c10_, c11_, .slice (some ⟨gw, 0, none⟩) 64 wc, c13_, c14_, c15_, c16_, wv r.a, wv r.b, wv r.c, wv r.d, wv r.e, wv r.f, wv r.g, wv r.h, .int .i64 64, u26_, u27_, c28_, c29_, c30_, c31_, c32_, c33_, c34_, c35_, c36_, c37_, c38_, c39_, c40_, c41_, c42_, c43_, c44_, c45_, c46_, c47_, c48_, c49_, c50_, c51_, c52_, c53_, c54_, c55_, c56_, c57_, c58_, c59_, c60_, c61_, c62_, c63_, c64_, c65_, c66_, c67_, c68_, c69_, c70_, c71_, c72_, c73_, c74_, c75_, c76_, c77_, c78_, c79_, c80_, c81_, c82_, c83_, c84_, c85_, c86_, c87_, c88_, c89_, c90_, c91_, c92_, c93_, c94_, c95_, c96_, c97_, c98_, c99_, c100_, c101_, c102_, c103_, c104_, c105_, c106_, c107_, c108_, c109_, c110_, c111_, c112_, c113_, c114_, c115_, c116_, c117_, c118_, c119_, c120_, c121_, c122_, c123_, c124_, c125_, c126_, c127_, c128_, c129_, c130_, c131_, c132_, c133_, c134_, c135_, c136_, c137_, c138_, c139_, c140_, c141_, c142_, c143_, c144_, c145_, c146_, c147_, c148_, c149_, c150_, c151_, c152_, c153_, c154_, c155_, c156_, c157_, c158_, c159_, c160_, c161_, c162_, c163_, c164_, c165_, c166_, c167_, c168_, c169_, c170_, c171_, c172_, c173_, c174_, c175_, c176_, c177_, u178_, u179_, u180_, u181_, u182_, u183_, u184_, u185_, u186_, u187_, u188_, u189_, u190_, u191_, u192_, u193_, u194_, u195_, u196_, u197_, u198_, u199_, u200_, u201_, u202_, u203_, u204_, u205_, u206_, u207_, u208_, u209_, u210_, u211_, u212_, u213_, u214_, u215_, u216_, u217_, u218_, u219_, u220_, u221_, u222_, u223_, u224_, u225_, u226_, u227_, u228_, u229_, u230_, u231_, u232_, u233_, u234_, u235_, u236_, u237_, u238_, u239_, u240_, u241_, u242_, c243_, c244_, c245_, c246_, c247_, c248_, c249_, c250_, c251_, c252_, c253_, c254_, c255_, c256_, c257_, c258_, c259_, c260_, c261_, c262_, c263_, c264_, c265_, c266_, c267_, c268_, c269_, c270_, c271_, c272_, c273_, c274_, c275_, c276_, c277_, c278_, c279_, c280_, c281_, c282_, c283_, c284_, c285_, c286_, c287_, c288_, c289_, c290_, c291_, c292_, c293_, c294_, c295_, c296_, c297_, c298_, c299_, c300_, c301_, c302_, c303_], []⟩ W)) :
    Code.wp Tryz.prog sumBlk8 Q0 ⟨#[c0_, .slice C 64 cc, c2_, c3_, c4_, c5_, c6_, c7_, c8_, c9_, c10_, c11_, .slice (some ⟨gw, 0, none⟩) 64 wc, c13_, c14_, c15_, c16_, wv st.a, wv st.b, wv st.c, wv st.d, wv st.e, wv st.f, wv st.g, wv st.h, .int .i64 0, c26_, c27_, c28_, c29_, c30_, c31_, c32_, c33_, c34_, c35_, c36_, c37_, c38_, c39_, c40_, c41_, c42_, c43_, c44_, c45_, c46_, c47_, c48_, c49_, c50_, c51_, c52_, c53_, c54_, c55_, c56_, c57_, c58_, c59_, c60_, c61_, c62_, c63_, c64_, c65_, c66_, c67_, c68_, c69_, c70_, c71_, c72_, c73_, c74_, c75_, c76_, c77_, c78_, c79_, c80_, c81_, c82_, c83_, c84_, c85_, c86_, c87_, c88_, c89_, c90_, c91_, c92_, c93_, c94_, c95_, c96_, c97_, c98_, c99_, c100_, c101_, c102_, c103_, c104_, c105_, c106_, c107_, c108_, c109_, c110_, c111_, c112_, c113_, c114_, c115_, c116_, c117_, c118_, c119_, c120_, c121_, c122_, c123_, c124_, c125_, c126_, c127_, c128_, c129_, c130_, c131_, c132_, c133_, c134_, c135_, c136_, c137_, c138_, c139_, c140_, c141_, c142_, c143_, c144_, c145_, c146_, c147_, c148_, c149_, c150_, c151_, c152_, c153_, c154_, c155_, c156_, c157_, c158_, c159_, c160_, c161_, c162_, c163_, c164_, c165_, c166_, c167_, c168_, c169_, c170_, c171_, c172_, c173_, c174_, c175_, c176_, c177_, c178_, c179_, c180_, c181_, c182_, c183_, c184_, c185_, c186_, c187_, c188_, c189_, c190_, c191_, c192_, c193_, c194_, c195_, c196_, c197_, c198_, c199_, c200_, c201_, c202_, c203_, c204_, c205_, c206_, c207_, c208_, c209_, c210_, c211_, c212_, c213_, c214_, c215_, c216_, c217_, c218_, c219_, c220_, c221_, c222_, c223_, c224_, c225_, c226_, c227_, c228_, c229_, c230_, c231_, c232_, c233_, c234_, c235_, c236_, c237_, c238_, c239_, c240_, c241_, c242_, c243_, c244_, c245_, c246_, c247_, c248_, c249_, c250_, c251_, c252_, c253_, c254_, c255_, c256_, c257_, c258_, c259_, c260_, c261_, c262_, c263_, c264_, c265_, c266_, c267_, c268_, c269_, c270_, c271_, c272_, c273_, c274_, c275_, c276_, c277_, c278_, c279_, c280_, c281_, c282_, c283_, c284_, c285_, c286_, c287_, c288_, c289_, c290_, c291_, c292_, c293_, c294_, c295_, c296_, c297_, c298_, c299_, c300_, c301_, c302_, c303_], []⟩ w := by
  have hkl : ks.length = 64 := by rw [hks.out]; rfl
  have HWL4 := Lib.hid hwl
  have HC0 := Lib.hid hC
  have HW0 := Lib.hid hW
  have hbw := Below.refl w.heap.size w
  clear hwl hC hW
  conv => arg 2; whnf
  go_wp2_with fail
  go_loopw [17, 18, 19, 20, 21, 22, 23, 24, 25] (fun a1 a2 a3 a4 a5 a6 a7 a8 x wr => ∃ (n : Nat) (r : S8), n ≤ 64 ∧ a1 = wv r.a ∧ a2 = wv r.b ∧ a3 = wv r.c ∧ a4 = wv r.d ∧ a5 = wv r.e ∧ a6 = wv r.f ∧ a7 = wv r.g ∧ a8 = wv r.h ∧ x = .int .i64 n ∧ Hid (r = rnds ws st n) ∧ Below w.heap.size w wr) (fun _ _ _ _ _ _ _ _ x _ => 64 - (intOf x).toNat)
  case atStart => exact ⟨0, st, by omega, rfl, rfl, rfl, rfl, rfl, rfl, rfl, rfl, rfl, Lib.hid rfl, hbw⟩
  case round =>
    clear hbw
    obtain ⟨n, r, hn, rfl, rfl, rfl, rfl, rfl, rfl, rfl, rfl, rfl, hr, hbw⟩ := hrel
    by_cases hn64 : n < 64
    · have hnI : (n : Int) < 64 := by omega
      have HBW := Lib.hid hbw
      clear hbw
      go_upto_region 28 with (fail)
      obtain ⟨cb, co, rfl, hcc⟩ := SlW.all (Sl.below HC0.out HBW.out) (by omega)
      have dk : wr.drew.cell? ⟨cb, co + n, none⟩ = some (wv (ks.getD n 0)) := hcc n (by omega)
      obtain ⟨gb', go', e9, hcw⟩ := SlW.all (Sl.below HW0.out HBW.out) (by have := HWL4.out; omega)
      injection e9 with e9
      injection e9 with e9 e8
      subst e9 e8
      have dw : wr.drew.cell? ⟨gw, n, none⟩ = some (wv (ws.getD n 0)) := by have h9 := hcw n (by have := HWL4.out; omega); rw [Nat.zero_add] at h9; exact h9
      have hrn : Hid (rnds ws st (n + 1) = rnd r (ks.getD n 0) (ws.getD n 0)) := (show _ = _ from by rw [hr.out, hks.out]; rfl)
      generalize ks.getD n 0 = kk at *
      generalize ws.getD n 0 = xw at *
      have hst0 : wr.drew.cell? ⟨cb, co + n, none⟩ = some (wv kk) ∧ wr.drew.cell? ⟨gw, n, none⟩ = some (wv xw) := ⟨dk, dw⟩
      clear hcc hcw dk dw
      have R2 := turn2
      have R6 := turn6
      have R11 := turn11
      have R13 := turn13
      have R22 := turn22
      have R25 := turn25
      refine wp_region_seq (S := (fun W => W.cell? ⟨cb, co + n, none⟩ = some (wv kk) ∧ W.cell? ⟨gw, n, none⟩ = some (wv xw))) [(0, true), (1, true), (3, true), (6, true), (10, true), (11, true), (12, true), (13, true), (14, true), (15, true), (16, true), (17, true), (19, true), (20, true), (21, true), (22, true), (24, true), (25, true), (26, true), (27, true), (2, false), (4, false), (5, true), (7, false), (8, true), (9, true), (18, true), (23, true), (28, true), (29, true)] (by kernel_rfl) (by kernel_rfl) (fun c a d v w h => HQ.out c a d v w h) ?_ (fun hHeld => ?_)
      · first | exact hst0 | exact hHeld
      refine seq_take (oi := ⟨some 182, _, _, _, _, _⟩) (v := ?_) rfl (Or.inl ⟨by kernel_rfl, ?_⟩) (by assumption) ?_
      rotate_left
      · (intro wS hSw; (try dsimp only at hSw); have q1 := add_wn; have q2 := xor_wn; have q3 := and_wn; have q4 := not_wnM; obtain ⟨ck, cw⟩ := hSw; refine execV (fun rho hk1 hk2 hk3 hk => ?_); have e24_ := (hk 24).trans (evalP (fg8 (fg8 (fg8 fg0)))); clear hk; go_simp; (try with_reducible rfl))
      (first | (with_reducible refine wpSeq_put ?_; go_big_move) | (try simp only [Act.put, List.setIfInBounds_toArray, List.set_cons_zero, List.set_cons_succ]))
      refine seq_take (oi := ⟨some 183, _, _, _, _, _⟩) (v := ?_) rfl (Or.inl ⟨by kernel_rfl, ?_⟩) (by assumption) ?_
      rotate_left
      · (intro wS hSw; (try dsimp only at hSw); have q1 := add_wn; have q2 := xor_wn; have q3 := and_wn; have q4 := not_wnM; obtain ⟨ck, cw⟩ := hSw; refine execV (fun rho hk1 hk2 hk3 hk => ?_); have e21_ := (hk 21).trans (evalP (fg8 (fg8 (fg1 (fg1 (fg1 (fg1 (fg1 fg0)))))))); clear hk; go_simp; (try with_reducible rfl))
      (first | (with_reducible refine wpSeq_put ?_; go_big_move) | (try simp only [Act.put, List.setIfInBounds_toArray, List.set_cons_zero, List.set_cons_succ]))
      refine seq_take (oi := ⟨some 185, _, _, _, _, _⟩) (v := ?_) rfl (Or.inl ⟨by kernel_rfl, ?_⟩) (by assumption) ?_
      rotate_left
      · (intro wS hSw; (try dsimp only at hSw); have q1 := add_wn; have q2 := xor_wn; have q3 := and_wn; have q4 := not_wnM; obtain ⟨ck, cw⟩ := hSw; refine execV (fun rho hk1 hk2 hk3 hk => ?_); have e21_ := (hk 21).trans (evalP (fg8 (fg8 (fg1 (fg1 (fg1 (fg1 (fg1 fg0)))))))); clear hk; go_simp; (try with_reducible rfl))
      (first | (with_reducible refine wpSeq_put ?_; go_big_move) | (try simp only [Act.put, List.setIfInBounds_toArray, List.set_cons_zero, List.set_cons_succ]))
      refine seq_take (oi := ⟨some 188, _, _, _, _, _⟩) (v := ?_) rfl (Or.inl ⟨by kernel_rfl, ?_⟩) (by assumption) ?_
      rotate_left
      · (intro wS hSw; (try dsimp only at hSw); have q1 := add_wn; have q2 := xor_wn; have q3 := and_wn; have q4 := not_wnM; obtain ⟨ck, cw⟩ := hSw; refine execV (fun rho hk1 hk2 hk3 hk => ?_); have e21_ := (hk 21).trans (evalP (fg8 (fg8 (fg1 (fg1 (fg1 (fg1 (fg1 fg0)))))))); clear hk; go_simp; (try with_reducible rfl))
      (first | (with_reducible refine wpSeq_put ?_; go_big_move) | (try simp only [Act.put, List.setIfInBounds_toArray, List.set_cons_zero, List.set_cons_succ]))
      refine seq_take (oi := ⟨some 192, _, _, _, _, _⟩) (v := ?_) rfl (Or.inl ⟨by kernel_rfl, ?_⟩) (by assumption) ?_
      rotate_left
      · (intro wS hSw; (try dsimp only at hSw); have q1 := add_wn; have q2 := xor_wn; have q3 := and_wn; have q4 := not_wnM; obtain ⟨ck, cw⟩ := hSw; refine execV (fun rho hk1 hk2 hk3 hk => ?_); have e21_ := (hk 21).trans (evalP (fg8 (fg8 (fg1 (fg1 (fg1 (fg1 (fg1 fg0)))))))); clear hk; go_simp; (try with_reducible rfl))
      (first | (with_reducible refine wpSeq_put ?_; go_big_move) | (try simp only [Act.put, List.setIfInBounds_toArray, List.set_cons_zero, List.set_cons_succ]))
      refine seq_take (oi := ⟨some 193, _, _, _, _, _⟩) (v := ?_) rfl (Or.inl ⟨by kernel_rfl, ?_⟩) (by assumption) ?_
      rotate_left
      · (intro wS hSw; (try dsimp only at hSw); have q1 := add_wn; have q2 := xor_wn; have q3 := and_wn; have q4 := not_wnM; obtain ⟨ck, cw⟩ := hSw; refine execV (fun rho hk1 hk2 hk3 hk => ?_); have e22_ := (hk 22).trans (evalP (fg8 (fg8 (fg1 (fg1 (fg1 (fg1 (fg1 (fg1 fg0))))))))); clear hk; go_simp; (try with_reducible rfl))
      (first | (with_reducible refine wpSeq_put ?_; go_big_move) | (try simp only [Act.put, List.setIfInBounds_toArray, List.set_cons_zero, List.set_cons_succ]))
      refine seq_take (oi := ⟨some 194, _, _, _, _, _⟩) (v := ?_) rfl (Or.inl ⟨by kernel_rfl, ?_⟩) (by assumption) ?_
      rotate_left
      · (intro wS hSw; (try dsimp only at hSw); have q1 := add_wn; have q2 := xor_wn; have q3 := and_wn; have q4 := not_wnM; obtain ⟨ck, cw⟩ := hSw; refine execV (fun rho hk1 hk2 hk3 hk => ?_); have e192_ := (hk 192).trans (evalP (fg64 (fg64 (fg64 fg0)))); have e193_ := (hk 193).trans (evalP (fg64 (fg64 (fg64 (fg1 fg0))))); clear hk; go_simp; (try with_reducible rfl))
      (first | (with_reducible refine wpSeq_put ?_; go_big_move) | (try simp only [Act.put, List.setIfInBounds_toArray, List.set_cons_zero, List.set_cons_succ]))
      refine seq_take (oi := ⟨some 195, _, _, _, _, _⟩) (v := ?_) rfl (Or.inl ⟨by kernel_rfl, ?_⟩) (by assumption) ?_
      rotate_left
      · (intro wS hSw; (try dsimp only at hSw); have q1 := add_wn; have q2 := xor_wn; have q3 := and_wn; have q4 := not_wnM; obtain ⟨ck, cw⟩ := hSw; refine execV (fun rho hk1 hk2 hk3 hk => ?_); have e21_ := (hk 21).trans (evalP (fg8 (fg8 (fg1 (fg1 (fg1 (fg1 (fg1 fg0)))))))); clear hk; go_simp; (try with_reducible rfl))
      (first | (with_reducible refine wpSeq_put ?_; go_big_move) | (try simp only [Act.put, List.setIfInBounds_toArray, List.set_cons_zero, List.set_cons_succ]))
      refine seq_take (oi := ⟨some 196, _, _, _, _, _⟩) (v := ?_) rfl (Or.inl ⟨by kernel_rfl, ?_⟩) (by assumption) ?_
      rotate_left
      · (intro wS hSw; (try dsimp only at hSw); have q1 := add_wn; have q2 := xor_wn; have q3 := and_wn; have q4 := not_wnM; obtain ⟨ck, cw⟩ := hSw; refine execV (fun rho hk1 hk2 hk3 hk => ?_); have e195_ := (hk 195).trans (evalP (fg64 (fg64 (fg64 (fg1 (fg1 (fg1 fg0))))))); clear hk; go_simp; (try with_reducible rfl))
      (first | (with_reducible refine wpSeq_put ?_; go_big_move) | (try simp only [Act.put, List.setIfInBounds_toArray, List.set_cons_zero, List.set_cons_succ]))
      refine seq_take (oi := ⟨some 197, _, _, _, _, _⟩) (v := ?_) rfl (Or.inl ⟨by kernel_rfl, ?_⟩) (by assumption) ?_
      rotate_left
      · (intro wS hSw; (try dsimp only at hSw); have q1 := add_wn; have q2 := xor_wn; have q3 := and_wn; have q4 := not_wnM; obtain ⟨ck, cw⟩ := hSw; refine execV (fun rho hk1 hk2 hk3 hk => ?_); have e23_ := (hk 23).trans (evalP (fg8 (fg8 (fg1 (fg1 (fg1 (fg1 (fg1 (fg1 (fg1 fg0)))))))))); clear hk; go_simp; (try with_reducible rfl))
      (first | (with_reducible refine wpSeq_put ?_; go_big_move) | (try simp only [Act.put, List.setIfInBounds_toArray, List.set_cons_zero, List.set_cons_succ]))
      refine seq_take (oi := ⟨some 198, _, _, _, _, _⟩) (v := ?_) rfl (Or.inl ⟨by kernel_rfl, ?_⟩) (by assumption) ?_
      rotate_left
      · (intro wS hSw; (try dsimp only at hSw); have q1 := add_wn; have q2 := xor_wn; have q3 := and_wn; have q4 := not_wnM; obtain ⟨ck, cw⟩ := hSw; refine execV (fun rho hk1 hk2 hk3 hk => ?_); have e196_ := (hk 196).trans (evalP (fg64 (fg64 (fg64 (fg1 (fg1 (fg1 (fg1 fg0)))))))); have e197_ := (hk 197).trans (evalP (fg64 (fg64 (fg64 (fg1 (fg1 (fg1 (fg1 (fg1 fg0))))))))); clear hk; go_simp; (try with_reducible rfl))
      (first | (with_reducible refine wpSeq_put ?_; go_big_move) | (try simp only [Act.put, List.setIfInBounds_toArray, List.set_cons_zero, List.set_cons_succ]))
      refine seq_take (oi := ⟨some 199, _, _, _, _, _⟩) (v := ?_) rfl (Or.inl ⟨by kernel_rfl, ?_⟩) (by assumption) ?_
      rotate_left
      · (intro wS hSw; (try dsimp only at hSw); have q1 := add_wn; have q2 := xor_wn; have q3 := and_wn; have q4 := not_wnM; obtain ⟨ck, cw⟩ := hSw; refine execV (fun rho hk1 hk2 hk3 hk => ?_); have e194_ := (hk 194).trans (evalP (fg64 (fg64 (fg64 (fg1 (fg1 fg0)))))); have e198_ := (hk 198).trans (evalP (fg64 (fg64 (fg64 (fg1 (fg1 (fg1 (fg1 (fg1 (fg1 fg0)))))))))); clear hk; go_simp; (try with_reducible rfl))
      (first | (with_reducible refine wpSeq_put ?_; go_big_move) | (try simp only [Act.put, List.setIfInBounds_toArray, List.set_cons_zero, List.set_cons_succ]))
      refine seq_take (oi := ⟨some 201, _, _, _, _, _⟩) (v := ?_) rfl (Or.inl ⟨by kernel_rfl, ?_⟩) (by assumption) ?_
      rotate_left
      · (intro wS hSw; (try dsimp only at hSw); have q1 := add_wn; have q2 := xor_wn; have q3 := and_wn; have q4 := not_wnM; obtain ⟨ck, cw⟩ := hSw; refine execV (fun rho hk1 hk2 hk3 hk => ?_); have e1_ := (hk 1).trans (evalP (fg1 fg0)); clear hk; go_simp; (try with_reducible rfl))
      (first | (with_reducible refine wpSeq_put ?_; go_big_move) | (try simp only [Act.put, List.setIfInBounds_toArray, List.set_cons_zero, List.set_cons_succ]))
      refine seq_take (oi := ⟨some 202, _, _, _, _, _⟩) (v := ?_) rfl (Or.inl ⟨by kernel_rfl, ?_⟩) (by assumption) ?_
      rotate_left
      · (intro wS hSw; (try dsimp only at hSw); have q1 := add_wn; have q2 := xor_wn; have q3 := and_wn; have q4 := not_wnM; obtain ⟨ck, cw⟩ := hSw; refine execV (fun rho hk1 hk2 hk3 hk => ?_); have e25_ := (hk 25).trans (evalP (fg8 (fg8 (fg8 (fg1 fg0))))); clear hk; go_simp; (try with_reducible rfl))
      (first | (with_reducible refine wpSeq_put ?_; go_big_move) | (try simp only [Act.put, List.setIfInBounds_toArray, List.set_cons_zero, List.set_cons_succ]))
      refine seq_take (oi := ⟨some 203, _, _, _, _, _⟩) (v := ?_) rfl (Or.inl ⟨by kernel_rfl, ?_⟩) (by assumption) ?_
      rotate_left
      · (intro wS hSw; (try dsimp only at hSw); have q1 := add_wn; have q2 := xor_wn; have q3 := and_wn; have q4 := not_wnM; obtain ⟨ck, cw⟩ := hSw; refine execV (fun rho hk1 hk2 hk3 hk => ?_); have e201_ := (hk 201).trans (evalP (fg64 (fg64 (fg64 (fg8 (fg1 fg0)))))); have e202_ := (hk 202).trans (evalP (fg64 (fg64 (fg64 (fg8 (fg1 (fg1 fg0))))))); clear hk; go_simp; (try with_reducible rfl))
      (first | (with_reducible refine wpSeq_put ?_; go_big_move) | (try simp only [Act.put, List.setIfInBounds_toArray, List.set_cons_zero, List.set_cons_succ]))
      refine seq_take (oi := ⟨some 204, _, _, _, _, _⟩) (v := ?_) rfl (Or.inl ⟨by kernel_rfl, ?_⟩) (by assumption) ?_
      rotate_left
      · (intro wS hSw; (try dsimp only at hSw); have q1 := add_wn; have q2 := xor_wn; have q3 := and_wn; have q4 := not_wnM; obtain ⟨ck, cw⟩ := hSw; refine execV (fun rho hk1 hk2 hk3 hk => ?_); have e203_ := (hk 203).trans (evalP (fg64 (fg64 (fg64 (fg8 (fg1 (fg1 (fg1 fg0)))))))); clear hk; go_simp; (try with_reducible rfl))
      (first | (with_reducible refine wpSeq_put ?_; go_big_move) | (try simp only [Act.put, List.setIfInBounds_toArray, List.set_cons_zero, List.set_cons_succ]))
      refine seq_take (oi := ⟨some 206, _, _, _, _, _⟩) (v := ?_) rfl (Or.inl ⟨by kernel_rfl, ?_⟩) (by assumption) ?_
      rotate_left
      · (intro wS hSw; (try dsimp only at hSw); have q1 := add_wn; have q2 := xor_wn; have q3 := and_wn; have q4 := not_wnM; obtain ⟨ck, cw⟩ := hSw; refine execV (fun rho hk1 hk2 hk3 hk => ?_); have e12_ := (hk 12).trans (evalP (fg8 (fg1 (fg1 (fg1 (fg1 fg0)))))); clear hk; go_simp; (try with_reducible rfl))
      (first | (with_reducible refine wpSeq_put ?_; go_big_move) | (try simp only [Act.put, List.setIfInBounds_toArray, List.set_cons_zero, List.set_cons_succ]))
      refine seq_take (oi := ⟨some 207, _, _, _, _, _⟩) (v := ?_) rfl (Or.inl ⟨by kernel_rfl, ?_⟩) (by assumption) ?_
      rotate_left
      · (intro wS hSw; (try dsimp only at hSw); have q1 := add_wn; have q2 := xor_wn; have q3 := and_wn; have q4 := not_wnM; obtain ⟨ck, cw⟩ := hSw; refine execV (fun rho hk1 hk2 hk3 hk => ?_); have e25_ := (hk 25).trans (evalP (fg8 (fg8 (fg8 (fg1 fg0))))); clear hk; go_simp; (try with_reducible rfl))
      (first | (with_reducible refine wpSeq_put ?_; go_big_move) | (try simp only [Act.put, List.setIfInBounds_toArray, List.set_cons_zero, List.set_cons_succ]))
      refine seq_take (oi := ⟨some 208, _, _, _, _, _⟩) (v := ?_) rfl (Or.inl ⟨by kernel_rfl, ?_⟩) (by assumption) ?_
      rotate_left
      · (intro wS hSw; (try dsimp only at hSw); have q1 := add_wn; have q2 := xor_wn; have q3 := and_wn; have q4 := not_wnM; obtain ⟨ck, cw⟩ := hSw; refine execV (fun rho hk1 hk2 hk3 hk => ?_); have e206_ := (hk 206).trans (evalP (fg64 (fg64 (fg64 (fg8 (fg1 (fg1 (fg1 (fg1 (fg1 (fg1 fg0))))))))))); have e207_ := (hk 207).trans (evalP (fg64 (fg64 (fg64 (fg8 (fg1 (fg1 (fg1 (fg1 (fg1 (fg1 (fg1 fg0)))))))))))); clear hk; go_simp; (try with_reducible rfl))
      (first | (with_reducible refine wpSeq_put ?_; go_big_move) | (try simp only [Act.put, List.setIfInBounds_toArray, List.set_cons_zero, List.set_cons_succ]))
      refine seq_take (oi := ⟨some 209, _, _, _, _, _⟩) (v := ?_) rfl (Or.inl ⟨by kernel_rfl, ?_⟩) (by assumption) ?_
      rotate_left
      · (intro wS hSw; (try dsimp only at hSw); have q1 := add_wn; have q2 := xor_wn; have q3 := and_wn; have q4 := not_wnM; obtain ⟨ck, cw⟩ := hSw; refine execV (fun rho hk1 hk2 hk3 hk => ?_); have e208_ := (hk 208).trans (evalP (fg64 (fg64 (fg64 (fg8 (fg8 fg0)))))); clear hk; go_simp; (try with_reducible rfl))
      (first | (with_reducible refine wpSeq_put ?_; go_big_move) | (try simp only [Act.put, List.setIfInBounds_toArray, List.set_cons_zero, List.set_cons_succ]))
      refine seq_step (o := ⟨some 184, _, _, _, _, _⟩) rfl (fun K hK => ?_)
      with_reducible refine wantedP (by kernel_rfl) ?_
      (first | go_big_op | go_simp)
      ((first | with_reducible refine (R6.out _ _).mono ?_ | with_reducible refine (R11.out _ _).mono ?_ | with_reducible refine (R25.out _ _).mono ?_); rintro e w8 ⟨rfl, rfl⟩)
      go_wp2_with fail
      refine hK.out _ _ ?_ (fun hHeld => ?_)
      · ((try dsimp only); (first | exact hst0 | exact hHeld))
      clear hK K
      (first | (with_reducible refine wpSeq_put ?_; go_big_move) | (try simp only [Act.put, List.setIfInBounds_toArray, List.set_cons_zero, List.set_cons_succ]))
      refine seq_step (o := ⟨some 186, _, _, _, _, _⟩) rfl (fun K hK => ?_)
      with_reducible refine wantedP (by kernel_rfl) ?_
      (first | go_big_op | go_simp)
      ((first | with_reducible refine (R6.out _ _).mono ?_ | with_reducible refine (R11.out _ _).mono ?_ | with_reducible refine (R25.out _ _).mono ?_); rintro e w8 ⟨rfl, rfl⟩)
      go_wp2_with fail
      refine hK.out _ _ ?_ (fun hHeld => ?_)
      · ((try dsimp only); (first | exact hst0 | exact hHeld))
      clear hK K
      (first | (with_reducible refine wpSeq_put ?_; go_big_move) | (try simp only [Act.put, List.setIfInBounds_toArray, List.set_cons_zero, List.set_cons_succ]))
      refine seq_take (oi := ⟨some 187, _, _, _, _, _⟩) (v := ?_) rfl (Or.inl ⟨by kernel_rfl, ?_⟩) (by assumption) ?_
      rotate_left
      · (intro wS hSw; (try dsimp only at hSw); have q1 := add_wn; have q2 := xor_wn; have q3 := and_wn; have q4 := not_wnM; obtain ⟨ck, cw⟩ := hSw; refine execV (fun rho hk1 hk2 hk3 hk => ?_); have e184_ := (hk 184).trans (evalP (fg64 (fg64 (fg8 (fg8 (fg8 (fg8 (fg8 (fg8 (fg8 fg0)))))))))); have e186_ := (hk 186).trans (evalP (fg64 (fg64 (fg8 (fg8 (fg8 (fg8 (fg8 (fg8 (fg8 (fg1 (fg1 fg0)))))))))))); clear hk; go_simp; (try with_reducible rfl))
      (first | (with_reducible refine wpSeq_put ?_; go_big_move) | (try simp only [Act.put, List.setIfInBounds_toArray, List.set_cons_zero, List.set_cons_succ]))
      refine seq_step (o := ⟨some 189, _, _, _, _, _⟩) rfl (fun K hK => ?_)
      with_reducible refine wantedP (by kernel_rfl) ?_
      (first | go_big_op | go_simp)
      ((first | with_reducible refine (R6.out _ _).mono ?_ | with_reducible refine (R11.out _ _).mono ?_ | with_reducible refine (R25.out _ _).mono ?_); rintro e w8 ⟨rfl, rfl⟩)
      go_wp2_with fail
      refine hK.out _ _ ?_ (fun hHeld => ?_)
      · ((try dsimp only); (first | exact hst0 | exact hHeld))
      clear hK K
      (first | (with_reducible refine wpSeq_put ?_; go_big_move) | (try simp only [Act.put, List.setIfInBounds_toArray, List.set_cons_zero, List.set_cons_succ]))
      refine seq_take (oi := ⟨some 190, _, _, _, _, _⟩) (v := ?_) rfl (Or.inl ⟨by kernel_rfl, ?_⟩) (by assumption) ?_
      rotate_left
      · (intro wS hSw; (try dsimp only at hSw); have q1 := add_wn; have q2 := xor_wn; have q3 := and_wn; have q4 := not_wnM; obtain ⟨ck, cw⟩ := hSw; refine execV (fun rho hk1 hk2 hk3 hk => ?_); have e187_ := (hk 187).trans (evalP (fg64 (fg64 (fg8 (fg8 (fg8 (fg8 (fg8 (fg8 (fg8 (fg1 (fg1 (fg1 fg0))))))))))))); have e189_ := (hk 189).trans (evalP (fg64 (fg64 (fg8 (fg8 (fg8 (fg8 (fg8 (fg8 (fg8 (fg1 (fg1 (fg1 (fg1 (fg1 fg0))))))))))))))); clear hk; go_simp; (try with_reducible rfl))
      (first | (with_reducible refine wpSeq_put ?_; go_big_move) | (try simp only [Act.put, List.setIfInBounds_toArray, List.set_cons_zero, List.set_cons_succ]))
      refine seq_take (oi := ⟨some 191, _, _, _, _, _⟩) (v := ?_) rfl (Or.inl ⟨by kernel_rfl, ?_⟩) (by assumption) ?_
      rotate_left
      · (intro wS hSw; (try dsimp only at hSw); have q1 := add_wn; have q2 := xor_wn; have q3 := and_wn; have q4 := not_wnM; obtain ⟨ck, cw⟩ := hSw; refine execV (fun rho hk1 hk2 hk3 hk => ?_); have e182_ := (hk 182).trans (evalP (fg64 (fg64 (fg8 (fg8 (fg8 (fg8 (fg8 (fg8 (fg1 (fg1 (fg1 (fg1 (fg1 (fg1 fg0))))))))))))))); have e190_ := (hk 190).trans (evalP (fg64 (fg64 (fg8 (fg8 (fg8 (fg8 (fg8 (fg8 (fg8 (fg1 (fg1 (fg1 (fg1 (fg1 (fg1 fg0)))))))))))))))); clear hk; go_simp; (try with_reducible rfl))
      (first | (with_reducible refine wpSeq_put ?_; go_big_move) | (try simp only [Act.put, List.setIfInBounds_toArray, List.set_cons_zero, List.set_cons_succ]))
      refine seq_take (oi := ⟨some 200, _, _, _, _, _⟩) (v := ?_) rfl (Or.inl ⟨by kernel_rfl, ?_⟩) (by assumption) ?_
      rotate_left
      · (intro wS hSw; (try dsimp only at hSw); have q1 := add_wn; have q2 := xor_wn; have q3 := and_wn; have q4 := not_wnM; obtain ⟨ck, cw⟩ := hSw; refine execV (fun rho hk1 hk2 hk3 hk => ?_); have e191_ := (hk 191).trans (evalP (fg64 (fg64 (fg8 (fg8 (fg8 (fg8 (fg8 (fg8 (fg8 (fg1 (fg1 (fg1 (fg1 (fg1 (fg1 (fg1 fg0))))))))))))))))); have e199_ := (hk 199).trans (evalP (fg64 (fg64 (fg64 (fg1 (fg1 (fg1 (fg1 (fg1 (fg1 (fg1 fg0))))))))))); clear hk; go_simp; (try with_reducible rfl))
      (first | (with_reducible refine wpSeq_put ?_; go_big_move) | (try simp only [Act.put, List.setIfInBounds_toArray, List.set_cons_zero, List.set_cons_succ]))
      refine seq_take (oi := ⟨some 205, _, _, _, _, _⟩) (v := ?_) rfl (Or.inl ⟨by kernel_rfl, ?_⟩) (by assumption) ?_
      rotate_left
      · (intro wS hSw; (try dsimp only at hSw); have q1 := add_wn; have q2 := xor_wn; have q3 := and_wn; have q4 := not_wnM; obtain ⟨ck, cw⟩ := hSw; refine execV (fun rho hk1 hk2 hk3 hk => ?_); have e200_ := (hk 200).trans (evalP (fg64 (fg64 (fg64 (fg8 fg0))))); have e204_ := (hk 204).trans (evalP (fg64 (fg64 (fg64 (fg8 (fg1 (fg1 (fg1 (fg1 fg0))))))))); clear hk; go_simp; (try with_reducible rfl))
      (first | (with_reducible refine wpSeq_put ?_; go_big_move) | (try simp only [Act.put, List.setIfInBounds_toArray, List.set_cons_zero, List.set_cons_succ]))
      refine seq_take (oi := ⟨some 210, _, _, _, _, _⟩) (v := ?_) rfl (Or.inl ⟨by kernel_rfl, ?_⟩) (by assumption) ?_
      rotate_left
      · (intro wS hSw; (try dsimp only at hSw); have q1 := add_wn; have q2 := xor_wn; have q3 := and_wn; have q4 := not_wnM; obtain ⟨ck, cw⟩ := hSw; refine execV (fun rho hk1 hk2 hk3 hk => ?_); have e205_ := (hk 205).trans (evalP (fg64 (fg64 (fg64 (fg8 (fg1 (fg1 (fg1 (fg1 (fg1 fg0)))))))))); have e209_ := (hk 209).trans (evalP (fg64 (fg64 (fg64 (fg8 (fg8 (fg1 fg0))))))); clear hk; go_simp; (try with_reducible rfl))
      (first | (with_reducible refine wpSeq_put ?_; go_big_move) | (try simp only [Act.put, List.setIfInBounds_toArray, List.set_cons_zero, List.set_cons_succ]))
      refine seq_take (oi := ⟨some 26, _, _, _, _, _⟩) (v := ?_) rfl (Or.inl ⟨by kernel_rfl, ?_⟩) (by assumption) ?_
      rotate_left
      · (intro wS hSw; (try dsimp only at hSw); have q1 := add_wn; have q2 := xor_wn; have q3 := and_wn; have q4 := not_wnM; obtain ⟨ck, cw⟩ := hSw; refine execV (fun rho hk1 hk2 hk3 hk => ?_); have e210_ := (hk 210).trans (evalP (fg64 (fg64 (fg64 (fg8 (fg8 (fg1 (fg1 fg0)))))))); clear hk; go_simp; (try with_reducible rfl))
      (first | (with_reducible refine wpSeq_put ?_; go_big_move) | (try simp only [Act.put, List.setIfInBounds_toArray, List.set_cons_zero, List.set_cons_succ]))
      refine seq_done ?_
      obtain ⟨xx, hxx⟩ : ∃ xx, r.h + (tr r.e 6 ^^^ tr r.e 11 ^^^ tr r.e 25) + ((r.e &&& r.f) ^^^ (~~~r.e &&& r.g)) + kk + xw = xx := ⟨_, rfl⟩
      rw [hxx]
      have hrr : Hid (rnds ws st (n + 1) = ⟨xx + ((tr r.a 2 ^^^ tr r.a 13 ^^^ tr r.a 22) + ((r.a &&& r.b) ^^^ (r.a &&& r.c) ^^^ (r.b &&& r.c))), r.a, r.b, r.c, r.d + xx, r.e, r.f, r.g⟩) := (show _ = _ from by rw [hrn.out, ← hxx]; rfl)
      have HDd := Lib.hid (bel_call HBW.out (Below.drew (Below.refl _ _)))
      clear hst0 hHeld hxx hrn HBW R6 R11 R25
      generalize World.drew wr = wd at *
      have q1 := add_wn
      have q2 := xor_wn
      have q3 := and_wn
      go_upto_region 30 with (first | ((first | with_reducible refine (R2.out _ _).mono ?_ | with_reducible refine (R13.out _ _).mono ?_ | with_reducible refine (R22.out _ _).mono ?_); rintro e w8 ⟨rfl, rfl⟩))
      obtain ⟨yy, hyy⟩ : ∃ yy, (tr r.a 2 ^^^ tr r.a 13 ^^^ tr r.a 22) + ((r.a &&& r.b) ^^^ (r.a &&& r.c) ^^^ (r.b &&& r.c)) = yy := ⟨_, rfl⟩
      rw [hyy] at hrr ⊢
      clear hyy q2 q3 R2 R13 R22
      go_wp2_with fail
      refine ⟨⟨n + 1, ⟨xx + yy, r.a, r.b, r.c, r.d + xx, r.e, r.f, r.g⟩, hn64, rfl, rfl, rfl, rfl, rfl, rfl, rfl, rfl, by go_num, (show _ = _ from by rw [hrr.out]), HDd.out⟩, by simp [intOf]; omega⟩
    · obtain rfl : n = 64 := by omega
      have HBW := Lib.hid hbw
      clear hbw
      rw [show ((64 : Nat) : Int) = 64 from rfl]
      go_wp2_with fail
      exact HX.out r _ hr HBW.out
end Go.Proofs.YtabnndjdkjkciaaGreatDoor
