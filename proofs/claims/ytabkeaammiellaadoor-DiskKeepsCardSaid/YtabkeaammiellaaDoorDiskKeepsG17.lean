/- WHAT IT HOLDS: what a disk keeps of files that no change names, plainly; maps beside a disk in memory. -/
import Derived.Test.YtabkeaammiellaaDoorDiskKeepsG09
import Derived.Test.YtabkeaammiellaaDoorDiskKeepsG16
namespace Go.Proofs.YtabkeaammiellaaDoor
open Go.RowKit Go.Maps Go.Sort
attribute [local go_sem ↓] Go.wp_at_zero Go.wp_at_succ

section
variable {α : Type}
theorem dWrite_fre {len : α → Nat} {d : Dk α} (h : Fre d) (n : Bs) (v : α) : (dWrite len d n v).2 = 0 ∧ (dWrite len d n v).1 = dAdd d ⟨0, n, [], v⟩ ∨ (dWrite len d n v).2 ≠ 0 ∧ (dWrite len d n v).1 = d := by
  unfold dWrite
  rw [dWorks_fre h, if_neg (by simp)]
  split
  · exact .inr ⟨by simp, rfl⟩
  · split
    · exact .inr ⟨by simp, rfl⟩
    · split
      · exact .inr ⟨by simp, rfl⟩
      · exact .inl ⟨rfl, rfl⟩
theorem dRename_fre {z : α} {d : Dk α} (h : Fre d) (n t : Bs) : (dRename z d n t).2 = 0 ∧ (dRename z d n t).1 = dAdd d ⟨1, n, t, z⟩ ∨ (dRename z d n t).2 ≠ 0 ∧ (dRename z d n t).1 = d := by
  unfold dRename
  rw [dWorks_fre h, if_neg (by simp)]
  split
  · exact .inr ⟨by simp, rfl⟩
  · split
    · exact .inr ⟨by simp, rfl⟩
    · exact .inl ⟨rfl, rfl⟩
theorem dRemove_fre {z : α} {d : Dk α} (h : Fre d) (n : Bs) : (dRemove z d n).2 = 0 ∧ (dRemove z d n).1 = dAdd d ⟨2, n, [], z⟩ ∨ (dRemove z d n).2 ≠ 0 ∧ (dRemove z d n).1 = d := by
  unfold dRemove
  rw [dWorks_fre h, if_neg (by simp)]
  split
  · exact .inr ⟨by simp, rfl⟩
  · split
    · exact .inr ⟨by simp, rfl⟩
    · exact .inl ⟨rfl, rfl⟩
theorem shown_add (d : Dk α) (c : Chg α) : (dAdd d c).shown = fdo d.shown c := fdos_snoc _ _ _
theorem shown_write (d : Dk α) (n : Bs) (v : α) : (dAdd d ⟨0, n, [], v⟩).shown = gput n v d.shown := by
  rw [shown_add]
  exact fdo_w rfl
/-- a change of other files -/
theorem fdo_off {l : List (Bs × α)} {c : Chg α} {x : Bs} (h1 : x ≠ c.name) (h2 : c.kind = 1 → x ≠ c.to) : gget x (fdo l c) = gget x l := by
  unfold fdo
  split
  · exact gget_put_other _ h1 _
  · split
    · rfl
    · split
      · rename_i h3
        rw [gget_put_other _ (h2 h3), gget_del_other h1]
      · exact gget_del_other h1 _
theorem fdos_off {cs : List (Chg α)} {x : Bs} : ∀ {l : List (Bs × α)}, (∀ c ∈ cs, x ≠ c.name ∧ (c.kind = 1 → x ≠ c.to)) → gget x (fdos l cs) = gget x l := by
  induction cs with
  | nil => exact fun _ => rfl
  | cons c r ih =>
    intro l h
    have h0 := h c (List.mem_cons_self ..)
    have h1 := ih (l := fdo l c) fun y hy => h y (List.mem_cons_of_mem _ hy)
    show gget x (fdos (fdo l c) r) = _
    rw [h1, fdo_off h0.1 h0.2]
/-- all changes are of names that are told -/
def Cov (lt : List (Bs × Unit)) (cs : List (Chg α)) : Prop := ∀ c ∈ cs, (gget c.name lt).isSome = true ∧ (c.kind = 1 → (gget c.to lt).isSome = true)
theorem Cov.nil (lt : List (Bs × Unit)) : Cov lt ([] : List (Chg α)) := fun c hc => by simp at hc
theorem gget_more {lt : List (Bs × Unit)} {x y : Bs} (h : (gget y lt).isSome = true) : (gget y (gput x () lt)).isSome = true := by
  by_cases e : y = x
  · subst e
    rw [gget_put_same]
    rfl
  · rw [gget_put_other _ e]
    exact h
theorem gget_here (lt : List (Bs × Unit)) (x : Bs) : (gget x (gput x () lt)).isSome = true := by rw [gget_put_same]; rfl
theorem Cov.more {lt lt' : List (Bs × Unit)} {cs : List (Chg α)} (h : Cov lt cs) (hl : ∀ y, (gget y lt).isSome = true → (gget y lt').isSome = true) : Cov lt' cs := fun c hc => ⟨hl _ (h c hc).1, fun hk => hl _ ((h c hc).2 hk)⟩
theorem Cov.add {lt : List (Bs × Unit)} {cs : List (Chg α)} {c : Chg α} (h : Cov lt cs) (h1 : (gget c.name lt).isSome = true) (h2 : c.kind = 1 → (gget c.to lt).isSome = true) : Cov lt (cs ++ [c]) := fun y hy => by
  rcases List.mem_append.1 hy with hy | hy
  · exact h y hy
  · rw [List.mem_singleton.1 hy]; exact ⟨h1, h2⟩
theorem Cov.off {lt : List (Bs × Unit)} {cs : List (Chg α)} (h : Cov lt cs) (keep : List Bool) {l : List (Bs × α)} {x : Bs} (hx : gget x lt = none) : gget x (fdos l (kept keep cs)) = gget x l :=
  fdos_off fun c hc => by
    have h1 := h c (kept_mem hc)
    refine ⟨fun e => ?_, fun hk e => ?_⟩
    · rw [← e, hx] at h1
      exact absurd h1.1 (by simp)
    · have h2 := h1.2 hk
      rw [← e, hx] at h2
      exact absurd h2 (by simp)
end
/-! ### maps beside a disk -/
def lS (l : Bs) : Value := .string ⟨l.toArray⟩
def lU (_ : Unit) : Value := .bool true
/-- a map of one's own behind the world w0, none of a disk's blocks -/
def Mp {β : Type} (f : β → Value) (w0 : World) (q : Fp) (w : World) (b : Nat) (l : List (Bs × β)) : Prop := OmF f Tryd.prog 9 w b l ∧ ¬ q.M b ∧ w0.heap.size ≤ b
section
variable {β γ : Type} {f : β → Value} {g : γ → Value} {w0 w w' : World} {q q' : Fp} {d : Dk Sv} {b b2 : Nat} {l : List (Bs × β)} {l2 : List (Bs × γ)}
theorem Mp.act (h : Mp f w0 q w b l) (hF : Frd q w w') (hM : ∀ i, q'.M i → q.M i ∨ w.heap.size ≤ i) : Mp f w0 q' w' b l :=
  ⟨h.1.same (hF.block b h.1.lt h.2.1), fun hq => by
    rcases hM b hq with h3 | h3
    · exact h.2.1 h3
    · have := h.1.lt
      omega, h.2.2⟩
theorem Mp.call (h : Mp f w0 q w b l) (hb : Below w.heap.size w w') : Mp f w0 q w' b l := ⟨h.1.below hb, h.2⟩
theorem Mp.grown (h : Mp f w0 q w b l) (hg : w.grownBy w' (some b2)) (hne : b ≠ b2) : Mp f w0 q w' b l := ⟨h.1.same (hg.block b h.1.lt (fun e => hne (by injection e))), h.2⟩
theorem OmF.noCell (h : OmF f Tryd.prog 9 w b l) {o : Nat} {sp : Option Nat} {v : Value} (hc : w.cell? ⟨b, o, sp⟩ = some v) : False := by
  obtain ⟨es, cl, hb, _⟩ := h
  unfold World.cell? at hc
  dsimp only at hc
  rw [hb] at hc
  simp at hc
theorem Dsk.grownMap (hD : Dsk w q d) (h : Mp f w0 q w b l) (hg : w.grownBy w' (some b)) : Dsk w' q d := hD.frame fun i hi => hg.block i (hD.lt hi) (fun e => by
  injection e with e
  rw [e] at hi
  rcases hi with hi | ⟨s, hs, hne, hA⟩
  · exact h.2.1 hi
  · obtain ⟨A, c, l⟩ := s
    dsimp only at hne hA
    cases A with
    | none => cases hA
    | some ad =>
      injection hA with hA
      obtain ⟨ad', e, hc⟩ := Sl.at1 (f := bv) (l := l) (hD.rd _ hs) (k := 0) (List.length_pos_iff.2 hne)
      injection e with e
      subst e
      have hsp : ad.add 0 = ⟨b, (ad.add 0).off, (ad.add 0).spot⟩ := by
        have h1 : (ad.add 0).block = b := by rw [addr_add_block]; exact hA
        cases h2 : ad.add 0 with
        | mk x y z => rw [h2] at h1; dsimp only at h1 ⊢; rw [h1]
      rw [hsp] at hc
      exact h.1.noCell hc)
theorem Fro.grown (h : Fro w0 w q) (hg : w.grownBy w' (some b)) (hb : w0.heap.size ≤ b) : Fro w0 w' q :=
  ⟨⟨hg.os.trans h.1.os, hg.tape.trans h.1.tape, hg.output.trans h.1.output, Nat.le_trans h.1.size hg.size, fun i hi => (hg.block i (Nat.lt_of_lt_of_le hi h.1.size) (fun e => by injection e; omega)).trans (h.1.block i hi)⟩, h.2⟩
theorem Mp.new (w : World) (hD : Dsk w q d) (hw : w0.heap.size ≤ w.heap.size) : Mp f w0 q (w.alloc (.map #[] 0)) w.heap.size [] := ⟨OmF.new w, fun hq => by have := hD.ltM hq; omega, hw⟩
end
end Go.Proofs.YtabkeaammiellaaDoor
