/- WHAT IT HOLDS: a disk whose files all have names, plainly; how much an opened store's disk holds. | WHAT IT HOLDS: what a store's act leaves of a disk that may go down at any step, and of it started anew, plainly. | WHAT IT HOLDS: a store's Put by another name (the segment's templates have one of that name). | WHAT IT HOLDS: a region that draws its order in a large frame: slots are read by unification and written by evaluation. | WHAT IT HOLDS: manifests, plainly (no program): which there are. | WHAT IT HOLDS: words for parts and manifests in memory: structs that hold a whole array; loads and stores of whole rows. -/
import Derived.Test.YtabnndjdkjkciaaGreatDoorCursorKeepsG11
import Derived.Test.YtabnndjdkjkciaaGreatDoorCursorKeepsG12
import Derived.OrdersHeld
import Derived.BigFrame
import Derived.WalkKit
import Derived.Deep.RegionHeld
import Derived.Test.YtabnndjdkjkciaaGreatDoorCursorKeepsG01
import Derived.Test.YtabnndjdkjkciaaGreatDoorCursorKeepsG07
import Derived.Deep.WholeRow
import Derived.ChangeKeysEq
namespace Go.Proofs.YtabnndjdkjkciaaGreatDoor

/-- all files have names, and all changes give such -/
def Nmd {α : Type} (d : Dk α) : Prop := (∀ p ∈ d.sure, named p.1 = true) ∧ ∀ c ∈ d.pend, named c.name = true ∧ (c.kind = 1 → named c.to = true)
section
variable {α : Type} {d : Dk α}
theorem fdo_nm {l : List (Bs × α)} (hl : ∀ p ∈ l, named p.1 = true) {x : Chg α} (h1 : named x.name = true) (h2 : x.kind = 1 → named x.to = true) : ∀ p ∈ fdo l x, named p.1 = true := by
  intro p hp
  rcases Decidable.em (x.kind = 0) with hk | hk
  · rw [fdo_w hk] at hp
    rcases gmem_put.1 hp with e | e
    · rw [e]; exact h1
    · exact hl p e.1
  cases hg : gget x.name l with
  | none => rw [fdo_n hk hg] at hp; exact hl p hp
  | some b =>
    rcases Decidable.em (x.kind = 1) with hk1 | hk1
    · rw [fdo_r hk1 hg] at hp
      rcases gmem_put.1 hp with e | e
      · rw [e]; exact h2 hk1
      · exact hl p (gmem_del.1 e.1).1
    · rw [fdo_d hk hk1 hg] at hp
      exact hl p (gmem_del.1 hp).1
theorem fdos_nm (cs : List (Chg α)) : ∀ {l : List (Bs × α)}, (∀ p ∈ l, named p.1 = true) → (∀ x ∈ cs, named x.name = true ∧ (x.kind = 1 → named x.to = true)) → ∀ p ∈ fdos l cs, named p.1 = true := by
  induction cs with
  | nil => exact fun hl _ => hl
  | cons x r ih =>
    intro l hl hc
    obtain ⟨h1, h2⟩ := hc x (List.mem_cons_self ..)
    exact ih (fdo_nm hl h1 h2) fun y hy => hc y (List.mem_cons_of_mem _ hy)
theorem Nmd.shown (h : Nmd d) : ∀ p ∈ d.shown, named p.1 = true := fdos_nm d.pend h.1 h.2
theorem Nmd.names (h : Nmd d) : ∀ x ∈ names d.shown, named x = true := fun x hx => by
  obtain ⟨p, hp, rfl⟩ := List.mem_map.1 hx
  exact h.shown p hp
theorem Nmd.works (h : Nmd d) : Nmd (dWorks d).1 := by
  obtain ⟨s1, s2, -, -⟩ := dWorks_same d
  unfold Nmd
  rw [s1, s2]
  exact h
theorem Nmd.add (h : Nmd d) {c : Chg α} (h1 : named c.name = true) (h2 : c.kind = 1 → named c.to = true) : Nmd (dAdd d c) := by
  refine ⟨h.1, fun x hx => ?_⟩
  rcases List.mem_append.1 hx with hx | hx
  · exact h.2 x hx
  · obtain rfl : x = c := by simpa using hx
    exact ⟨h1, h2⟩
theorem tru {b : Bool} (h : ¬ b = false) : b = true := by cases b <;> simp_all
theorem Nmd.write (h : Nmd d) (len : α → Nat) (n : Bs) (v : α) : Nmd (dWrite len d n v).1 := by
  unfold dWrite
  split
  · exact h.works
  · split
    · exact h.works
    · rename_i hn
      split
      · exact h.works
      · split
        · exact h.works
        · exact h.works.add (tru hn) fun e => by cases e
theorem Nmd.rename (h : Nmd d) (z : α) (n t : Bs) : Nmd (dRename z d n t).1 := by
  unfold dRename
  split
  · exact h.works
  · split
    · exact h.works
    · rename_i hn
      split
      · exact h.works
      · exact h.works.add (tru fun e => hn (.inl e)) fun _ => tru fun e => hn (.inr e)
theorem Nmd.remove (h : Nmd d) (z : α) (n : Bs) : Nmd (dRemove z d n).1 := by
  unfold dRemove
  split
  · exact h.works
  · split
    · exact h.works
    · rename_i hn
      split
      · exact h.works
      · exact h.works.add (tru hn) fun e => by cases e
theorem Nmd.sync (h : Nmd d) : Nmd (dSync d).1 := by
  unfold dSync
  split
  · exact h.works
  · exact ⟨h.shown, fun x hx => by cases hx⟩
theorem kept_mem2 {keep : List Bool} {cs : List (Chg α)} {x : Chg α} (h : x ∈ kept keep cs) : x ∈ cs := by
  unfold kept at h
  obtain ⟨p, hp, rfl⟩ := List.mem_map.1 h
  exact (List.of_mem_zip (List.mem_filter.1 hp).1).1
theorem Nmd.cut (h : Nmd d) (ks : List Bool) : Nmd (dCut ks d) := ⟨fdos_nm _ h.1 fun x hx => h.2 x (kept_mem2 hx), fun x hx => by cases hx⟩
theorem Nmd.start (h : Nmd d) : Nmd (dStart d) := by
  unfold dStart
  split
  · exact ⟨h.1, fun x hx => by cases hx⟩
  · exact h
theorem Nmd.andThen {r : Dk α × Nat} {f : Dk α → Dk α × Nat} (h : Nmd r.1) (hf : ∀ d, Nmd d → Nmd (f d).1) : Nmd (Go.Proofs.YtabnndjdkjkciaaGreatDoor.andThen r f).1 := by
  unfold Go.Proofs.YtabnndjdkjkciaaGreatDoor.andThen
  split
  · exact h
  · exact hf _ h
theorem Nmd.put (h : Nmd d) (len : α → Nat) (z : α) (n : Bs) (v : α) : Nmd (sPut len z d n v).1 := by
  unfold sPut
  split
  · exact h
  · exact Nmd.andThen (h.write len _ v) fun d h => Nmd.andThen h.sync fun d h => Nmd.andThen (h.rename z _ _) fun d h => h.sync
theorem Nmd.del (h : Nmd d) (z : α) (n : Bs) : Nmd (sDelete z d n).1 := by
  unfold sDelete
  split
  · exact h
  · exact Nmd.andThen (h.remove z _) fun d h => h.sync
/-! ### how much there is -/
theorem andThen_len {r : Dk α × Nat} {f : Dk α → Dk α × Nat} {k m : Nat} (h : r.1.sure.length + r.1.pend.length ≤ k) (hkm : k ≤ m) (hf : ∀ d : Dk α, d.sure.length + d.pend.length ≤ k → (f d).1.sure.length + (f d).1.pend.length ≤ m) : (andThen r f).1.sure.length + (andThen r f).1.pend.length ≤ m := by
  unfold andThen
  split
  · omega
  · exact hf _ h
theorem sPut_len (len : α → Nat) (z : α) (d : Dk α) (n : Bs) (v : α) : (sPut len z d n v).1.sure.length + (sPut len z d n v).1.pend.length ≤ d.sure.length + d.pend.length + 4 := by
  unfold sPut
  split
  · dsimp only; omega
  · exact andThen_len (opd_len (Opd.write len d _ v) (Nat.le_refl _)) (by omega) fun d h => andThen_len (opd_len (Opd.sync d) h) (by omega) fun d h => andThen_len (opd_len (Opd.rename z d _ _) h) (by omega) fun d h => opd_len (Opd.sync d) h
theorem sDelete_len (z : α) (d : Dk α) (n : Bs) : (sDelete z d n).1.sure.length + (sDelete z d n).1.pend.length ≤ d.sure.length + d.pend.length + 2 := by
  unfold sDelete
  split
  · dsimp only; omega
  · exact andThen_len (opd_len (Opd.remove z d _) (Nat.le_refl _)) (by omega) fun d h => opd_len (Opd.sync d) h
end
theorem Fok.andThen {r : Dk Sv × Nat} {f : Dk Sv → Dk Sv × Nat} (h : Fok r.1) (hf : ∀ d, Fok d → Fok (f d).1) : Fok (Go.Proofs.YtabnndjdkjkciaaGreatDoor.andThen r f).1 := by
  unfold Go.Proofs.YtabnndjdkjkciaaGreatDoor.andThen
  split
  · exact h
  · exact hf _ h
theorem Fok.put {d : Dk Sv} (h : Fok d) (n : Bs) (v : Sv) : Fok (sPut svl Sv.nil d n v).1 := by
  unfold sPut
  split
  · exact h
  · exact Fok.andThen (h.opd (Opd.write svl d _ v)) fun d h => Fok.andThen (h.opd (Opd.sync d)) fun d h => Fok.andThen (h.opd (Opd.rename Sv.nil d _ _)) fun d h => h.opd (Opd.sync d)
theorem Fok.del {d : Dk Sv} (h : Fok d) (n : Bs) : Fok (sDelete Sv.nil d n).1 := by
  unfold sDelete
  split
  · exact h
  · exact Fok.andThen (h.opd (Opd.remove Sv.nil d _)) fun d h => h.opd (Opd.sync d)
/-- what an act on a disk leaves -/
def Opn (d : Dk Sv) (r : Dk Sv × Nat) : Prop := Opd d r ∧ (Nmd d → Nmd r.1)
end Go.Proofs.YtabnndjdkjkciaaGreatDoor

namespace Go.Proofs.YtabnndjdkjkciaaGreatDoor
open Go.RowKit Go.Maps Go.Sort

section
variable {α : Type}
theorem andThen_ok (d : Dk α) (f : Dk α → Dk α × Nat) : andThen (d, 0) f = f d := if_neg (by simp)
end
end Go.Proofs.YtabnndjdkjkciaaGreatDoor

namespace Go.Proofs.YtabnndjdkjkciaaGreatDoor

theorem StPut_any : type_of% @SPut_any := @SPut_any
end Go.Proofs.YtabnndjdkjkciaaGreatDoor

namespace Go.Proofs.YtabnndjdkjkciaaGreatDoor

theorem evalP {l : List Value} {ds : List Deferred} {t : Nat} {v : Value} (h : l.getD t undef = v) : Act.eval ⟨l.toArray, ds⟩ (.tmp t) = v := by
  rw [← h]
  simp [Act.eval]
theorem fg0 {a : Value} {l : List Value} : (a :: l).getD 0 undef = a := rfl
theorem fg1 {a0 : Value} {l : List Value} {n : Nat} {v : Value} (h : l.getD n undef = v) : (a0 :: l).getD (n + 1) undef = v := h
theorem fg8 {a0 a1 a2 a3 a4 a5 a6 a7 : Value} {l : List Value} {n : Nat} {v : Value} (h : l.getD n undef = v) : (a0 :: a1 :: a2 :: a3 :: a4 :: a5 :: a6 :: a7 :: l).getD (n + 8) undef = v := h
theorem fg64 {a0 a1 a2 a3 a4 a5 a6 a7 a8 a9 a10 a11 a12 a13 a14 a15 a16 a17 a18 a19 a20 a21 a22 a23 a24 a25 a26 a27 a28 a29 a30 a31 a32 a33 a34 a35 a36 a37 a38 a39 a40 a41 a42 a43 a44 a45 a46 a47 a48 a49 a50 a51 a52 a53 a54 a55 a56 a57 a58 a59 a60 a61 a62 a63 : Value} {l : List Value} {n : Nat} {v : Value} (h : l.getD n undef = v) : (a0 :: a1 :: a2 :: a3 :: a4 :: a5 :: a6 :: a7 :: a8 :: a9 :: a10 :: a11 :: a12 :: a13 :: a14 :: a15 :: a16 :: a17 :: a18 :: a19 :: a20 :: a21 :: a22 :: a23 :: a24 :: a25 :: a26 :: a27 :: a28 :: a29 :: a30 :: a31 :: a32 :: a33 :: a34 :: a35 :: a36 :: a37 :: a38 :: a39 :: a40 :: a41 :: a42 :: a43 :: a44 :: a45 :: a46 :: a47 :: a48 :: a49 :: a50 :: a51 :: a52 :: a53 :: a54 :: a55 :: a56 :: a57 :: a58 :: a59 :: a60 :: a61 :: a62 :: a63 :: l).getD (n + 64) undef = v := h
theorem execV {P : Program} {o : Oper} {a : Act} {w : World} {r : Result Next} (h : ∀ ρ : Operand → Value, (∀ v, ρ (.const v) = v) → (∀ g, ρ (.global g) = .pointer (some ⟨g, 0, none⟩)) → (∀ f, ρ (.func f) = .func (.func f) #[] #[]) → (∀ t, ρ (.tmp t) = a.eval (.tmp t)) → (execOp ρ o).run P w = r) : (execOp a.eval o).run P w = r :=
  h a.eval (fun _ => rfl) (fun _ => rfl) (fun _ => rfl) (fun _ => rfl)
theorem wantedP {c : Prop} [Decidable c] {x y : Prop} (h : c) (hx : x) : if c then x else y := by rw [if_pos h]; exact hx
/-! ### a region's order, decided once -/
section
variable {P : Program} {ops : Array Oper} {Q : Exit → Act → World → Prop} {md : Region.Mode} {S : World → Prop}
def maskOf : List Nat → Nat
  | [] => 0
  | a :: l => 2 ^ a ||| maskOf l
theorem mask_bit (l : List Nat) (k : Nat) : (maskOf l).testBit k = decide (k ∈ l) := by
  induction l with
  | nil => simp [maskOf]
  | cons a l ih =>
    unfold maskOf
    rw [Nat.testBit_or, ih, Nat.testBit_two_pow, Bool.eq_iff_iff]
    simp only [Bool.or_eq_true, decide_eq_true_eq, List.mem_cons]
    constructor
    · rintro (h | h)
      · exact .inl h.symm
      · exact .inr h
    · rintro (h | h)
      · exact .inl h.symm
      · exact .inr h
/-- an operation: what it writes, looks at, waits for, as bits -/
structure Tri where
  dst : Nat
  look : Nat
  wait : Nat
def triOf (md : Region.Mode) (ops : Array Oper) (o : Oper) : Tri :=
  ⟨maskOf o.dst.toList, maskOf (o.looksAt ops), maskOf ((o.after.toList.filter (Region.binds md)).map (·.on))⟩
def tabOf (md : Region.Mode) (ops : Array Oper) : List Tri := ops.toList.map (triOf md ops)
def apartT (x y : Tri) : Bool := x.dst &&& y.look == 0 && (x.dst &&& y.dst == 0 && y.dst &&& x.look == 0)
def allFrom (p : Nat → Tri → Bool) : Nat → List Tri → Bool
  | _, [] => true
  | k, x :: l => p k x && allFrom p (k + 1) l
theorem allFrom_at {p : Nat → Tri → Bool} : ∀ {l : List Tri} {k : Nat}, allFrom p k l = true → ∀ j x, l[j]? = some x → p (k + j) x = true
  | [], _, _, j, x, hx => by simp at hx
  | y :: l, k, h, j, x, hx => by
    unfold allFrom at h
    rw [Bool.and_eq_true] at h
    cases j with
    | zero => simp at hx; subst hx; exact h.1
    | succ j =>
      rw [List.getElem?_cons_succ] at hx
      have := allFrom_at h.2 j x hx
      rw [show k + (j + 1) = k + 1 + j from by omega]
      exact this
def chkT (T : List Tri) (n : Nat) : List (Nat × Bool) → Nat → Bool
  | [], M => M == 2 ^ n - 1
  | (i, b) :: r, M =>
    match T[i]? with
    | none => false
    | some x => (!M.testBit i && x.wait &&& M == x.wait) &&
      (allFrom (fun j y => j == i || M.testBit j || (match b with | true => y.wait.testBit i || apartT x y | false => !(y.wait &&& M == y.wait))) 0 T && chkT T n r (M ||| 2 ^ i))
def wpSeq (P : Program) (ops : Array Oper) (Q : Exit → Act → World → Prop) (S : World → Prop) : List (Nat × Bool) → Act → World → Prop
  | [], a, w => Q .normal a w
  | (i, true) :: r, a, w => ∃ o v, ops[i]? = some o ∧ YieldsIf P ops S o v a ∧ S w ∧ wpSeq P ops Q S r (a.put o.dst v) w
  | (i, false) :: r, a, w => wpOp P ops Q i (fun a' w' => S w' ∧ wpSeq P ops Q S r a' w') a w
theorem tab_at {i : Nat} {o : Oper} (h : ops[i]? = some o) : (tabOf md ops)[i]? = some (triOf md ops o) := by
  unfold tabOf
  rw [List.getElem?_map, Array.getElem?_toList, h]
  rfl
theorem land_zero {x y : Nat} (h : (x &&& y == 0) = true) (k : Nat) (h1 : x.testBit k = true) (h2 : y.testBit k = true) : False := by
  have h3 := congrArg (fun z => Nat.testBit z k) (eq_of_beq h)
  simp [Nat.testBit_and, h1, h2] at h3
theorem apart_of {x y : Oper} (h : apartT (triOf md ops x) (triOf md ops y) = true) : x.apart ops y = true := by
  unfold apartT triOf at h
  simp only [Bool.and_eq_true] at h
  obtain ⟨h1, h2, h3⟩ := h
  unfold Oper.apart
  rw [Bool.and_eq_true]
  constructor
  · cases hx : x.dst with
    | none => rfl
    | some d =>
      rw [hx] at h1 h2
      have hb : (maskOf (some d).toList).testBit d = true := by rw [mask_bit]; simp
      dsimp only
      rw [Bool.and_eq_true]
      constructor
      · rw [Bool.not_eq_true', Bool.eq_false_iff]
        intro hc
        refine land_zero h1 d hb ?_
        rw [mask_bit]
        simpa using hc
      · rw [bne_iff_ne]
        intro hc
        refine land_zero h2 d hb ?_
        rw [hc]
        exact hb
  · cases hy : y.dst with
    | none => rfl
    | some d =>
      rw [hy] at h3
      have hb : (maskOf (some d).toList).testBit d = true := by rw [mask_bit]; simp
      dsimp only
      rw [Bool.not_eq_true', Bool.eq_false_iff]
      intro hc
      refine land_zero h3 d hb ?_
      rw [mask_bit]
      simpa using hc
/-- what has come up, as an array and as bits -/
structure Corr (n : Nat) (listed : Array Bool) (M : Nat) : Prop where
  size : listed.size = n
  bit : ∀ j, j < n → listed[j]? = some (M.testBit j)
theorem Corr.set {n : Nat} {listed : Array Bool} {M i : Nat} (h : Corr n listed M) : Corr n (listed.setIfInBounds i true) (M ||| 2 ^ i) := by
  refine ⟨by simpa using h.size, fun j hj => ?_⟩
  rw [Nat.testBit_or, Nat.testBit_two_pow, Array.getElem?_setIfInBounds]
  by_cases e : i = j
  · subst e
    have := h.size
    rw [if_pos rfl, if_pos (by omega)]
    simp
  · rw [if_neg e, h.bit j hj]
    simp [e]
theorem Corr.getT {n : Nat} {listed : Array Bool} {M j : Nat} (h : Corr n listed M) (hj : j < n) (d : Bool) : listed.getD j d = M.testBit j := by
  rw [Array.getD_eq_getD_getElem?, h.bit j hj]
  rfl
theorem Corr.start (n : Nat) : Corr n (Array.replicate n false) 0 := ⟨by simp, fun j hj => by simp [hj]⟩
theorem ready_of {i M : Nat} {o : Oper} {listed : Array Bool} (hC : Corr ops.size listed M) (ho : ops[i]? = some o) (h1 : M.testBit i = false) (h2 : ((triOf md ops o).wait &&& M == (triOf md ops o).wait) = true)
    (hon : ∀ e ∈ o.after, Region.binds md e = true → e.on < ops.size) : i ∈ Region.ready md ops listed := by
  have hi : i < ops.size := (Array.getElem?_eq_some_iff.1 ho).1
  rw [mem_ready]
  refine ⟨by rw [hC.getT hi]; exact h1, o, ho, fun e he hb => ?_⟩
  rw [hC.getT (hon e he hb)]
  have h3 := congrArg (fun z => Nat.testBit z e.on) (eq_of_beq h2)
  have h4 : (triOf md ops o).wait.testBit e.on = true := by
    unfold triOf
    dsimp only
    rw [mask_bit]
    simp only [decide_eq_true_eq, List.mem_map, List.mem_filter]
    exact ⟨e, ⟨by simpa using he, hb⟩, rfl⟩
  simpa [Nat.testBit_and, h4] using h3
theorem wait_of {j M : Nat} {o : Oper} {listed : Array Bool} (hC : Corr ops.size listed M) (ho : ops[j]? = some o) (h : j ∈ Region.ready md ops listed) : M.testBit j = false ∧ ((triOf md ops o).wait &&& M == (triOf md ops o).wait) = true := by
  have hj : j < ops.size := (Array.getElem?_eq_some_iff.1 ho).1
  obtain ⟨h0, o', ho', hall⟩ := mem_ready.1 h
  rw [ho] at ho'
  injection ho' with ho'
  subst ho'
  refine ⟨by rw [← hC.getT hj true]; exact h0, ?_⟩
  rw [beq_iff_eq]
  apply Nat.eq_of_testBit_eq
  intro k
  rw [Nat.testBit_and]
  cases hk : (triOf md ops o).wait.testBit k with
  | false => rfl
  | true =>
    rw [Bool.true_and]
    unfold triOf at hk
    dsimp only at hk
    rw [mask_bit] at hk
    simp only [decide_eq_true_eq, List.mem_map, List.mem_filter] at hk
    obtain ⟨e, ⟨he, hb⟩, rfl⟩ := hk
    have h9 := hall e (by simpa using he) hb
    rcases Nat.lt_or_ge e.on ops.size with hl | hl
    · rw [hC.getT hl] at h9; exact h9
    · rw [Array.getD_eq_getD_getElem?, Array.getElem?_eq_none (by rw [hC.size]; exact hl)] at h9
      cases h9
/-- what an operation waits for lies in the region -/
def onT (n : Nat) (T : List Tri) : Bool := T.all fun x => decide (x.wait < 2 ^ n)
theorem on_of {n : Nat} {o : Oper} {i : Nat} (h : onT n (tabOf md ops) = true) (ho : ops[i]? = some o) : ∀ e ∈ o.after, Region.binds md e = true → e.on < n := fun e he hb => by
  unfold onT at h
  have h1 := List.all_eq_true.1 h _ (List.mem_of_getElem? (tab_at (md := md) ho))
  rw [decide_eq_true_eq] at h1
  have h4 : (triOf md ops o).wait.testBit e.on = true := by
    unfold triOf
    dsimp only
    rw [mask_bit]
    simp only [decide_eq_true_eq, List.mem_map, List.mem_filter]
    exact ⟨e, ⟨by simpa using he, hb⟩, rfl⟩
  have h5 := Nat.ge_two_pow_of_testBit h4
  exact (Nat.pow_lt_pow_iff_right (by decide : 1 < 2)).1 (Nat.lt_of_le_of_lt h5 h1)
theorem seq_sound (hsel : Region.noSelect ops = true) (hon : onT ops.size (tabOf md ops) = true) (hQ : ∀ c a d v w, Q (.panic c) (a.put (some d) v) w → Q (.panic c) a w) :
    ∀ (σ : List (Nat × Bool)) (M : Nat) (listed : Array Bool) (a : Act) (w : World), Corr ops.size listed M → chkT (tabOf md ops) ops.size σ M = true → wpSeq P ops Q S σ a w → wpAnyH P md ops Q S σ.length listed a w
  | [], M, listed, a, w, hC, hk, h => by
    unfold chkT at hk
    refine ⟨?_, h⟩
    rw [List.eq_nil_iff_forall_not_mem]
    intro j hj
    obtain ⟨_, o, ho, _⟩ := mem_ready.1 hj
    have hjn : j < ops.size := (Array.getElem?_eq_some_iff.1 ho).1
    have h1 := (wait_of hC ho hj).1
    rw [eq_of_beq hk, Nat.testBit_two_pow_sub_one] at h1
    simp [hjn] at h1
  | (i, b) :: r, M, listed, a, w, hC, hk, h => by
    unfold chkT at hk
    cases ho : ops[i]? with
    | none =>
      have hT : (tabOf md ops)[i]? = none := by
        unfold tabOf
        rw [List.getElem?_map, Array.getElem?_toList, ho]
        rfl
      rw [hT] at hk
      cases hk
    | some o =>
      rw [tab_at (md := md) ho] at hk
      dsimp only at hk
      simp only [Bool.and_eq_true] at hk
      obtain ⟨⟨h1, h2⟩, h3, h4⟩ := hk
      rw [Bool.not_eq_true'] at h1
      have hrd : i ∈ Region.ready md ops listed := ready_of hC ho h1 h2 (on_of hon ho)
      have hall := allFrom_at h3
      cases b with
      | true =>
        obtain ⟨o', v, ho', hy, hS, hr⟩ := h
        rw [ho] at ho'
        injection ho' with ho'
        subst ho'
        refine wpAnyH_first ho (Region.noSelect_spec hsel) (fun c a w h => by
          cases hd : o.dst with
          | none => rw [hd] at h; exact h
          | some d => rw [hd] at h; exact hQ c a d v w h) r.length listed a w (fun j oj hj hne hun hno => ?_) hrd hy hS (seq_sound hsel hon hQ r _ _ _ _ hC.set h4 hr)
        have h9 := hall j _ (tab_at (md := md) hj)
        have hjn : j < ops.size := (Array.getElem?_eq_some_iff.1 hj).1
        rw [hC.getT hjn] at hun
        simp only [Nat.zero_add, Bool.or_eq_true, beq_iff_eq, hne, hun, Bool.false_eq_true, false_or] at h9
        rcases h9 with h9 | h9
        · exfalso
          unfold triOf at h9
          dsimp only at h9
          rw [mask_bit] at h9
          simp only [decide_eq_true_eq, List.mem_map, List.mem_filter] at h9
          obtain ⟨e, ⟨he, hb⟩, he2⟩ := h9
          exact hno e (by simpa using he) hb he2
        · exact apart_of h9
      | false =>
        refine ⟨fun h0 => (by rw [h0] at hrd; cases hrd), fun j hj => ?_⟩
        obtain ⟨_, oj, hoj, _⟩ := mem_ready.1 hj
        obtain ⟨w1, w2⟩ := wait_of hC hoj hj
        have h9 := hall j _ (tab_at (md := md) hoj)
        simp only [Nat.zero_add, Bool.or_eq_true, beq_iff_eq, w1, w2, Bool.not_true, Bool.false_eq_true, or_false] at h9
        subst h9
        exact wpOp_mono (fun a' w' h' => ⟨h'.1, seq_sound hsel hon hQ r _ _ _ _ hC.set h4 h'.2⟩) h
theorem wp_region_seq {id : Nat} {a : Act} {w : World} (σ : List (Nat × Bool)) (hm : P.follows .mixedOrders = true) (hchk : (Region.noSelect ops && (σ.length == ops.size) && (onT ops.size (tabOf .any ops) && chkT (tabOf .any ops) ops.size σ 0)) = true)
    (hQ : ∀ c a d v w, Q (.panic c) (a.put (some d) v) w → Q (.panic c) a w) (hS : S w.drew) (h : S w.drew → wpSeq P ops Q S σ a w.drew) : (Code.region id ops true).wp P Q a w := by
  simp only [Bool.and_eq_true, beq_iff_eq] at hchk
  obtain ⟨⟨h1, h2⟩, h3, h4⟩ := hchk
  have h5 := seq_sound (md := .any) h1 h3 hQ σ 0 _ a w.drew (Corr.start ops.size) h4 (h hS)
  rw [h2] at h5
  exact wp_region_held hm h5
theorem seq_take {i : Nat} {r : List (Nat × Bool)} {a : Act} {w : World} {oi : Oper} {v : Value} (hi : ops[i]? = some oi) (hy : YieldsIf P ops S oi v a) (hS : S w) (h : wpSeq P ops Q S r (a.put oi.dst v) w) : wpSeq P ops Q S ((i, true) :: r) a w := ⟨oi, v, hi, hy, hS, h⟩
theorem seq_step {i : Nat} {r : List (Nat × Bool)} {a : Act} {w : World} {o : Oper} (ho : ops[i]? = some o)
    (h : ∀ K' : Act → World → Prop, Shut (∀ a w, S w → (S w → wpSeq P ops Q S r a w) → K' a w) → if Region.wanted o (yielded ops a.tmps) = true then Oper.wp P o a w K' Q else K' (a.put o.dst undef) w) : wpSeq P ops Q S ((i, false) :: r) a w :=
  wpOp_step ho (fun K' hK => h K' (fun a w hS hW => hK a w ⟨hS, hW hS⟩))
theorem seq_done {a : Act} {w : World} (h : Q .normal a w) : wpSeq P ops Q S [] a w := h
theorem wpSeq_put {r : List (Nat × Bool)} {a : Act} {w : World} {d : Tmp} {v : Value} (h : Oper.wp P ⟨some d, .move (.const v), 0, "", #[], none⟩ a w (wpSeq P ops Q S r) (fun _ _ _ => False)) : wpSeq P ops Q S r (a.put (some d) v) w := by
  unfold Oper.wp execOp at h
  exact h
end
end Go.Proofs.YtabnndjdkjkciaaGreatDoor

namespace Go.Proofs.YtabnndjdkjkciaaGreatDoor
open Go.RowKit

/-- a digest -/
abbrev Dg := { l : List UInt8 // l.length = 32 }
def dg0 : Dg := ⟨List.replicate 32 0, by simp⟩
/-- a part: its first address, how many, its size, its digest -/
abbrev Pt5 := Int × Int × Int × Dg
/-- an error's number behind an address; then that of the rest, up to an end -/
def ptchk (p : Pt5) (a : Int) : Nat := if p.2.1 < 1 ∨ 64 < p.2.1 ∨ p.2.2.1 < 1 ∨ 65536 < p.2.2.1 then 1 else if p.1 ≠ a then 2 else 0
def pgo (z : Int) : Int → List Pt5 → Nat
  | a, [] => if a ≠ z then 2 else 0
  | a, p :: r => if ptchk p a ≠ 0 then ptchk p a else pgo z (a + p.2.1) r
/-- a manifest: its number, from, to, its trim, what came ahead, its parts -/
abbrev Mf := Int × Int × Int × Int × Dg × List Pt5
def inb (x m : Int) : Bool := decide (0 ≤ x) && decide (x ≤ m)
def mchk (m : Mf) : Nat :=
  if (!inb m.1 999999 || !inb m.2.1 1048576 || !inb m.2.2.1 1048576 || !inb m.2.2.2.1 1048576) = true then 1
  else if (decide (m.2.2.1 < m.2.1) || (m.1 == 0 && !decide (m.2.2.2.2.1 = dg0))) = true then 2
  else if 1024 < m.2.2.2.2.2.length then 3
  else pgo m.2.2.1 m.2.1 m.2.2.2.2.2
theorem ptchk_ok {p : Pt5} {a : Int} (h : ptchk p a = 0) : 1 ≤ p.2.1 ∧ p.2.1 ≤ 64 ∧ 1 ≤ p.2.2.1 ∧ p.2.2.1 ≤ 65536 ∧ p.1 = a := by
  unfold ptchk at h
  by_cases h1 : p.2.1 < 1 ∨ 64 < p.2.1 ∨ p.2.2.1 < 1 ∨ 65536 < p.2.2.1
  · rw [if_pos h1] at h; cases h
  rw [if_neg h1] at h
  by_cases h2 : p.1 ≠ a
  · rw [if_pos h2] at h; cases h
  exact ⟨by omega, by omega, by omega, by omega, Decidable.byContradiction h2⟩
theorem inb_iff {x m : Int} : inb x m = true ↔ 0 ≤ x ∧ x ≤ m := by unfold inb; simp
theorem mchk_ok {m : Mf} (h : mchk m = 0) : (0 ≤ m.1 ∧ m.1 ≤ 999999) ∧ (0 ≤ m.2.1 ∧ m.2.1 ≤ 1048576) ∧ (0 ≤ m.2.2.1 ∧ m.2.2.1 ≤ 1048576) ∧ (0 ≤ m.2.2.2.1 ∧ m.2.2.2.1 ≤ 1048576) ∧ m.2.1 ≤ m.2.2.1 ∧ (m.1 = 0 → m.2.2.2.2.1 = dg0) ∧ m.2.2.2.2.2.length ≤ 1024 ∧ pgo m.2.2.1 m.2.1 m.2.2.2.2.2 = 0 := by
  unfold mchk at h
  split at h
  · cases h
  rename_i h1
  split at h
  · cases h
  rename_i h2
  split at h
  · cases h
  rename_i h3
  simp only [Bool.or_eq_true, Bool.not_eq_true', not_or, Bool.not_eq_false, inb_iff] at h1
  simp only [Bool.or_eq_true, Bool.and_eq_true, Bool.not_eq_true', decide_eq_true_eq, decide_eq_false_iff_not, beq_iff_eq, not_or, not_and, Decidable.not_not] at h2
  exact ⟨h1.1.1.1, h1.1.1.2, h1.1.2, h1.2, by omega, h2.2, by omega, h⟩
/-- where the parts behind an address end -/
def pend : Int → List Pt5 → Int
  | a, [] => a
  | a, p :: r => pend (a + p.2.1) r
end Go.Proofs.YtabnndjdkjkciaaGreatDoor

namespace Go.Proofs.YtabnndjdkjkciaaGreatDoor
open Go.RowKit

section
variable {P : Program}
theorem run_loadVar_at (w : World) (ad : Addr) (ty : TypeId) (cs : Array Value) (hc : ∀ j u, cs[j]? = some u → w.cell? (ad.add j) = some u) (d : TypeDesc) (hu : P.underlying ty = some d) (hd : (match d with | .struct _ | .array _ _ => true | _ => false) = true) (hi : (P.info? ty).map (·.size) = some cs.size) :
    (loadVar ty ad).run P w = .ok (.agg cs) w := by
  have hl := run_loadCells_list (P := P) w ad cs.toList (fun j u hj => hc j u (by simpa using hj))
  cases hq : P.info? ty with
  | none => simp [hq] at hi
  | some i =>
    have hs : i.size = cs.size := by simpa [hq] using hi
    have hagg : (isAgg ty).run P w = .ok true w := by
      unfold isAgg
      rw [Sem.run_bind, run_underlying hu w]
      cases d <;> simp_all
    simp only [Array.length_toList, Array.toArray_toList] at hl
    simp [loadVar, Sem.run_bind, hagg, sizeOf, typeInfo, hq, hs, hl]
theorem wp_loadA {o : Oper} {a : Act} {w : World} {K : Act → World → Prop} {Q : Exit → Act → World → Prop} (ty : TypeId) (x : Operand) (ho : o.op = .load ty x)
    (ad : Addr) (cs : Array Value) (hx : a.eval x = .pointer (some ad)) (hc : ∀ j u, cs[j]? = some u → w.cell? (ad.add j) = some u) (d : TypeDesc) (hu : P.underlying ty = some d) (hd : (match d with | .struct _ | .array _ _ => true | _ => false) = true) (hi : (P.info? ty).map (·.size) = some cs.size)
    (h : K (a.put o.dst (.agg cs)) w) : o.wp P a w K Q := by
  unfold Oper.wp execOp
  simp only [ho, hx, Instr.loadAt, Instr.sureAddr, Sem.run_bind, Sem.run_pure, Result.andThen_ok, run_loadVar_at w ad ty cs hc d hu hd hi]
  exact h
/-- a whole struct or array out of memory (the operation's guard, if it has one, true) -/
theorem wpl_loadG {ops : Array Oper} {rest : List Oper} {o : Oper} {a : Act} {w : World} {Q : Exit → Act → World → Prop} (hgd : Region.wanted o (yielded ops a.tmps) = true) (ty : TypeId) (x : Operand) (ho : o.op = .load ty x)
    (ad : Addr) (cs : Array Value) (hx : a.eval x = .pointer (some ad)) (hc : ∀ j u, cs[j]? = some u → w.cell? (ad.add j) = some u) (d : TypeDesc) (hu : P.underlying ty = some d) (hd : (match d with | .struct _ | .array _ _ => true | _ => false) = true) (hi : (P.info? ty).map (·.size) = some cs.size)
    (h : wpList P ops Q rest (a.put o.dst (.agg cs)) w) : wpList P ops Q (o :: rest) a w :=
  wpList_step fun _ hK => by
    rw [if_pos hgd]
    exact wp_loadA ty x ho ad cs hx hc d hu hd hi (hK _ _ h)
/-- a whole struct laid into a block of its own that was just made -/
theorem wpl_storeN {ops : Array Oper} {rest : List Oper} {o : Oper} {a : Act} {w : World} {Q : Exit → Act → World → Prop} (hgd : o.guard = none) (ty : TypeId) (x y : Operand) (ho : o.op = .store ty x y)
    (old cells : Array Value) (t : TypeId) (hx : a.eval x = .pointer (some ⟨w.heap.size, 0, none⟩)) (hy : a.eval y = .agg cells) (hi : (P.info? ty).map (·.size) = some cells.size) (hold : old.size = cells.size) (h1 : cells.all (·.oneCell') = true)
    (h : wpList P ops Q rest (a.put o.dst undef) (w.alloc (.cells cells t))) : wpList P ops Q (o :: rest) a (w.alloc (.cells old t)) :=
  wpList_store_row hgd ty x y ho w.heap.size cells hx hy t old (heap_alloc_new w _) hi hold h1 (by rw [World.setRow_alloc_new]; exact h)
end

/-- a part's cells -/
def ptl (p : Pt5) : List Value := .int .i64 p.1 :: .int .i64 p.2.1 :: .int .i64 p.2.2.1 :: bvs p.2.2.2.1
theorem ptl_len (p : Pt5) : (ptl p).length = 35 := by
  have := p.2.2.2.2
  simp [ptl, this]
theorem ptl_one (p : Pt5) : ∀ u ∈ ptl p, u.oneCell' = true := by
  intro u hu
  simp only [ptl, List.mem_cons] at hu
  rcases hu with rfl | rfl | rfl | hu
  · rfl
  · rfl
  · rfl
  · exact one_bvs _ u hu
theorem ptl_all (p : Pt5) : (ptl p).toArray.all (·.oneCell') = true := by
  rw [Array.all_eq_true_iff_forall_mem]
  intro u hu
  exact ptl_one p u (by simpa using hu)
/-- a manifest's cells -/
def mfl (n f t r : Int) (d : Dg) (A : Option Addr) (k c : Nat) : List Value := .int .i64 n :: .int .i64 f :: .int .i64 t :: .int .i64 r :: (bvs d.1 ++ [.slice A k c])
theorem mfl_len (n f t r : Int) (d : Dg) (A : Option Addr) (k c : Nat) : (mfl n f t r d A k c).length = 37 := by
  have := d.2
  simp [mfl, this]
/-- a digest's, a part's, a manifest's cells as an array -/
def dga (d : Dg) : Array Value := (bvs d.1).toArray
def pta (p : Pt5) : Array Value := (ptl p).toArray
def mfa (n f t r : Int) (d : Dg) (A : Option Addr) (k c : Nat) : Array Value := (mfl n f t r d A k c).toArray
theorem dga_size (d : Dg) : (dga d).size = 32 := by have := d.2; simp [dga, this]
theorem pta_size (p : Pt5) : (pta p).size = 35 := by have := ptl_len p; simp [pta, this]
theorem mfa_size (n f t r : Int) (d : Dg) (A : Option Addr) (k c : Nat) : (mfa n f t r d A k c).size = 37 := by have := mfl_len n f t r d A k c; simp [mfa, this]
theorem pta_all (p : Pt5) : (pta p).all (·.oneCell') = true := ptl_all p
/-- parts that can be read -/
def SlP (w : World) (E : Option Addr) (cap : Nat) (ps : List Pt5) : Prop := Sl w 35 E ps.length cap (ps.flatMap ptl)
theorem SlP.below {w w' : World} {E : Option Addr} {cap : Nat} {ps : List Pt5} (h : SlP w E cap ps) (hb : Below w.heap.size w w') : SlP w' E cap ps := Sl.below h hb
theorem SlP.at {w : World} {E : Option Addr} {cap : Nat} {ps : List Pt5} (h : SlP w E cap ps) {k : Nat} (hk : k < ps.length) :
    ∃ ad b o, E = some ad ∧ ad.add (k * 35) = ⟨b, o, none⟩ ∧ ∀ j u, (pta ps[k])[j]? = some u → w.cell? ((⟨b, o, none⟩ : Addr).add j) = some u := by
  obtain ⟨ad, b, o, h1, h2, h3⟩ := Sl.atS (f := ptl) ptl_len (by decide) h hk
  exact ⟨ad, b, o, h1, h2, fun j u hj => by rw [addr_lit]; exact h3 j u (by simpa [pta] using hj)⟩
/-- a manifest's block -/
abbrev BlM (w : World) (g : Nat) (n f t r : Int) (d : Dg) (A : Option Addr) (k c : Nat) : Prop := Blk w g 57 (mfa n f t r d A k c)
theorem Blk.cells {w : World} {g : Nat} {t : TypeId} {cs : Array Value} (h : Blk w g t cs) : ∀ j u, cs[j]? = some u → w.cell? ((⟨g, 0, none⟩ : Addr).add j) = some u := fun j u hj => by
  rw [addr_lit, Nat.zero_add, h.cell]
  exact hj
section
variable {w : World} {g : Nat} {n f t r : Int} {d : Dg} {A : Option Addr} {k c : Nat}
theorem BlM.five (h : BlM w g n f t r d A k c) : w.cell? ⟨g, 0, none⟩ = some (.int .i64 n) ∧ w.cell? ⟨g, 1, none⟩ = some (.int .i64 f) ∧ w.cell? ⟨g, 2, none⟩ = some (.int .i64 t) ∧ w.cell? ⟨g, 3, none⟩ = some (.int .i64 r) ∧ w.cell? ⟨g, 36, none⟩ = some (.slice A k c) := by
  refine ⟨(h.cell 0).trans rfl, (h.cell 1).trans rfl, (h.cell 2).trans rfl, (h.cell 3).trans rfl, (h.cell 36).trans ?_⟩
  have := d.2
  simp [mfa, mfl, this]
theorem BlM.dg (h : BlM w g n f t r d A k c) : ∀ j u, (dga d)[j]? = some u → w.cell? ((⟨g, 4, none⟩ : Addr).add j) = some u := fun j u hj => by
  rw [addr_lit, h.cell]
  replace hj : (bvs d.1)[j]? = some u := by simpa [dga] using hj
  have hj2 : j < (bvs d.1).length := (List.getElem?_eq_some_iff.1 hj).1
  rw [show 4 + j = j + 1 + 1 + 1 + 1 from by omega]
  simp only [mfa, mfl, List.getElem?_toArray, List.getElem?_cons_succ]
  rw [List.getElem?_append_left hj2]
  exact hj
end
abbrev BlP (w : World) (g : Nat) (p : Pt5) : Prop := Blk w g 28 (pta p)
theorem BlP.three {w : World} {g : Nat} {p : Pt5} (h : BlP w g p) : w.cell? ⟨g, 0, none⟩ = some (.int .i64 p.1) ∧ w.cell? ⟨g, 1, none⟩ = some (.int .i64 p.2.1) ∧ w.cell? ⟨g, 2, none⟩ = some (.int .i64 p.2.2.1) :=
  ⟨(h.cell 0).trans rfl, (h.cell 1).trans rfl, (h.cell 2).trans rfl⟩
/-- two digests -/
theorem eqItems_bytes {P : Program} {e : TypeId} (he : P.underlying e = some (.int .u8)) (d : Nat) (xs ys : List UInt8) (w : World) : ∀ is : List Nat, (∀ i ∈ is, i < xs.length ∧ i < ys.length) →
    (Op.eqItems (d + 1) e 1 (bvs xs).toArray (bvs ys).toArray is).run P w = .ok (is.all fun i => decide (xs[i]? = ys[i]?)) w
  | [], _ => by simp [Op.eqItems]
  | i :: is, h => by
    obtain ⟨h1, h2⟩ := h i (.head _)
    have ih := eqItems_bytes he d xs ys w is fun j hj => h j (.tail _ hj)
    have hagg : (isAgg e).run P w = .ok false w := by
      unfold isAgg
      rw [Sem.run_bind, run_underlying he w]
      rfl
    have hx : (part e (bvs xs).toArray (i * 1)).run P w = .ok (bv xs[i]) w := by
      unfold part
      rw [Sem.run_bind, hagg]
      simp [List.getElem?_eq_getElem h1]
    have hy : (part e (bvs ys).toArray (i * 1)).run P w = .ok (bv ys[i]) w := by
      unfold part
      rw [Sem.run_bind, hagg]
      simp [List.getElem?_eq_getElem h2]
    simp only [Op.eqItems, Sem.run_bind, hx, hy, Result.andThen_ok, run_equalIn_int w d e .u8 .u8 _ _ he]
    have hb : ((xs[i].toNat : Int) == (ys[i].toNat : Int)) = decide (xs[i]? = ys[i]?) := by
      rw [List.getElem?_eq_getElem h1, List.getElem?_eq_getElem h2, Bool.eq_iff_iff]
      simp only [beq_iff_eq, decide_eq_true_eq, Option.some.injEq]
      constructor
      · intro h; exact UInt8.toNat_inj.1 (by omega)
      · intro h; rw [h]
    rw [hb]
    cases hq : decide (xs[i]? = ys[i]?)
    · simp [hq]
    · simp [hq, ih]
theorem dg_all (a b : Dg) : ((List.range 32).all fun i => decide (a.1[i]? = b.1[i]?)) = decide (a = b) := by
  rw [Bool.eq_iff_iff]
  simp only [List.all_eq_true, decide_eq_true_eq, List.mem_range]
  constructor
  · intro h
    apply Subtype.ext
    apply List.ext_getElem?
    intro i
    rcases Nat.lt_or_ge i 32 with h1 | h1
    · exact h i h1
    · rw [List.getElem?_eq_none (by rw [a.2]; exact h1), List.getElem?_eq_none (by rw [b.2]; exact h1)]
  · rintro rfl i _
    rfl
theorem eql_dg (a b : Dg) (w : World) : (binOp .eql 26 (.agg (dga a)) (.agg (dga b))).run Tryz.prog w = .ok (.bool (decide (a = b))) w := by
  unfold dga
  rw [run_eql_struct]
  obtain ⟨i, hi⟩ : ∃ i, Tryz.prog.info? 5 = some i := Option.isSome_iff_exists.1 (by kernel_rfl)
  rw [run_equalIn_array (P := Tryz.prog) (w := w) 9999 (t := 26) (e := 5) (n := 32) (i := i) _ _ Tryz.underlying26 hi]
  rw [show Tryz.prog.cellsOf 5 = 1 from by kernel_rfl]
  rw [eqItems_bytes (P := Tryz.prog) Tryz.underlying5 9998 a.1 b.1 w _ (fun i hi => by have := List.mem_range.1 hi; rw [a.2, b.2]; exact ⟨this, this⟩)]
  rw [dg_all]
  rfl
end Go.Proofs.YtabnndjdkjkciaaGreatDoor
