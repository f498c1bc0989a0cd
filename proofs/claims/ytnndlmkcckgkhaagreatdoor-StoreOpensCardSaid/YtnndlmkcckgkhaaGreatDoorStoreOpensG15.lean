/- WHAT IT HOLDS: what opening a store removes, plainly; entries struck out of a map. | WHAT IT HOLDS: a disk whose files all have names, plainly; how much an opened store's disk holds. | WHAT IT HOLDS: the document's rows of files in memory; found, struck, put: walked. | WHAT IT HOLDS: the document's rows of files: one struck, one put: walked. -/
import Derived.Test.YtnndlmkcckgkhaaGreatDoorStoreOpensG14
import Derived.Test.YtnndlmkcckgkhaaGreatDoorStoreOpensG12
import Derived.Test.YtnndlmkcckgkhaaGreatDoorStoreOpensG13
namespace Go.Proofs.YtnndlmkcckgkhaaGreatDoor
open Go.RowKit Go.Maps Go.Sort
attribute [local go_sem ↓] Go.wp_at_zero Go.wp_at_succ

section
variable {α : Type}
theorem dRemove_there {z : α} {d : Dk α} (h : Fre d) {n : Bs} (hn : named n = true) (hs : (gget n d.shown).isSome = true) : dRemove z d n = (dAdd d ⟨2, n, [], z⟩, 0) := by
  unfold dRemove
  rw [dWorks_fre h, if_neg (by simp), if_neg (by simp [hn]), if_neg (by cases hg : gget n d.shown with | none => rw [hg] at hs; cases hs | some v => simp)]
theorem shown_remove {z : α} {d : Dk α} {n : Bs} (hs : (gget n d.shown).isSome = true) : (dAdd d ⟨2, n, [], z⟩).shown = gdel n d.shown := by
  rw [shown_add]
  cases hg : gget n d.shown with
  | none => rw [hg] at hs; cases hs
  | some v => exact fdo_d (show (2 : Nat) ≠ 0 by decide) (show (2 : Nat) ≠ 1 by decide) hg
theorem sweep_ok {z : α} : ∀ (l : List Bs) (d : Dk α) (b : Bool), Fre d → (∀ n ∈ l, named n = true) → l.Nodup → (∀ n ∈ l, (gget n d.shown).isSome = true) → ∃ d1 b1, sSweep z l d b = (d1, 0, b1) ∧ Fre d1 ∧ (∀ x, gget x d1.shown = if x ∈ l ∧ isBegun x = true then none else gget x d.shown) ∧ d1.sure.length + d1.pend.length ≤ d.sure.length + d.pend.length + l.length
  | [], d, b, h, _, _, _ => ⟨d, b, rfl, h, fun x => by simp, by simp⟩
  | n :: r, d, b, h, hn, hd, hs => by
    obtain ⟨hd1, hd2⟩ := List.nodup_cons.1 hd
    unfold sSweep
    cases hb : isBegun n with
    | false =>
      rw [if_neg (by simp)]
      obtain ⟨d1, b1, e1, e2, e3, e4⟩ := sweep_ok r d b h (fun x hx => hn x (.tail _ hx)) hd2 (fun x hx => hs x (.tail _ hx))
      refine ⟨d1, b1, e1, e2, fun x => ?_, by simp; omega⟩
      rw [e3 x]
      by_cases hx : x = n
      · subst hx
        simp [hb]
      · simp [hx]
    | true =>
      have hr := dRemove_there (z := z) h (hn n (.head _)) (hs n (.head _))
      have hsh := shown_remove (z := z) (hs n (.head _))
      rw [if_pos rfl, hr, if_neg (by simp)]
      obtain ⟨d1, b1, e1, e2, e3, e4⟩ := sweep_ok r (dAdd d ⟨2, n, [], z⟩) true h (fun x hx => hn x (.tail _ hx)) hd2 (fun x hx => by
        rw [hsh, gget_del_other (show x ≠ n from fun e => by subst e; exact hd1 hx)]
        exact hs x (.tail _ hx))
      refine ⟨d1, b1, e1, e2, fun x => ?_, by unfold dAdd at e4; simp at e4 ⊢; omega⟩
      rw [e3 x, hsh]
      by_cases hx : x = n
      · subst hx
        rw [gget_del_same]
        simp [hb]
      · rw [gget_del_other hx]
        simp [hx]
theorem names_nodup {l : List (Bs × α)} (h : Ris l) : (names l).Nodup := by
  unfold names
  rw [List.Nodup, List.pairwise_map]
  exact h.imp fun {a b} hab e => by rw [e, bb_irrefl] at hab; cases hab
theorem mem_names {l : List (Bs × α)} (h : Ris l) {x : Bs} : x ∈ names l ↔ (gget x l).isSome = true := by
  constructor
  · intro hx
    obtain ⟨p, hp, rfl⟩ := List.mem_map.1 hx
    rw [gget_of_mem h (show (p.1, p.2) ∈ l from hp)]
    rfl
  · intro hx
    cases hg : gget x l with
    | none => rw [hg] at hx; cases hx
    | some v => exact List.mem_map.2 ⟨(x, v), gget_mem hg, rfl⟩
/-- what opening leaves of a disk that is up, whose files all have names -/
theorem open_ok {z : α} {d : Dk α} (h : Fre d) (hr : Ris d.sure) (hn : ∀ x ∈ names d.shown, named x = true) : ∃ d1, sOpen z d = (d1, 0) ∧ Fre d1 ∧ (∀ x, gget x d1.shown = if isBegun x = true then none else gget x d.shown) ∧ d1.sure.length + d1.pend.length ≤ 2 * (d.sure.length + d.pend.length) := by
  have hrs : Ris d.shown := hr.fdos d.pend
  have hlen : (names d.shown).length ≤ d.sure.length + d.pend.length := by
    unfold names
    rw [List.length_map]
    exact flen_dos d.sure d.pend
  obtain ⟨d1, b1, e1, e2, e3, e4⟩ := sweep_ok (z := z) (names d.shown) d false h hn (names_nodup hrs) (fun x hx => (mem_names hrs).1 hx)
  have e5 : ∀ x, gget x d1.shown = if isBegun x = true then none else gget x d.shown := fun x => by
    rw [e3 x]
    by_cases hb : isBegun x = true
    · rw [if_pos hb]
      by_cases hx : x ∈ names d.shown
      · rw [if_pos ⟨hx, hb⟩]
      · rw [if_neg (fun h => hx h.1)]
        cases hg : gget x d.shown with
        | none => rfl
        | some v => exact absurd ((mem_names hrs).2 (by rw [hg]; rfl)) hx
    · rw [if_neg hb, if_neg (fun h => hb h.2)]
  unfold sOpen
  rw [if_neg (by rw [h.2]; simp), e1]
  dsimp only
  rw [if_neg (by simp)]
  cases b1 with
  | false => exact ⟨d1, rfl, e2, e5, by omega⟩
  | true =>
    obtain ⟨y1, y2, y3, y4⟩ := dSync_fre e2
    refine ⟨(dSync d1).1, ?_, y4, fun x => ?_, ?_⟩
    · rw [if_pos rfl]
      exact Prod.ext rfl y1
    · rw [← e5 x]
      have : (dSync d1).1.shown = d1.shown := by rw [shown_nil y3, y2]
      rw [this]
    · rw [y2, y3]
      have := flen_dos d1.sure d1.pend
      unfold Dk.shown
      simp
      omega
theorem dWrite_named {len : α → Nat} {d : Dk α} {n : Bs} {v : α} (h : Fre d) (h0 : (dWrite len d n v).2 = 0) : named n = true := by
  unfold dWrite at h0
  rw [dWorks_fre h, if_neg (by simp)] at h0
  cases hn : named n with
  | true => rfl
  | false => rw [if_pos hn] at h0; cases h0
end
theorem begun_head {b : UInt8} {r : Bs} : isBegun (b :: r) = (126 == b) := by
  show ((126 == b) && true) = _
  rw [Bool.and_true]
section
variable {β : Type} {f : β → Value} {P : Program} {K T E : TypeId} {w w' : World} {b n : Nat} {l : List (Bs × β)}
theorem datF_del (f : β → Value) (k : Bs) (l : List (Bs × β)) : (datF f l).del (.string k) = datF f (gdel k l) := by
  unfold datF gdel
  rw [DataW.del_eq]
  unfold ChangeMaps.delKey
  rw [List.filter_map]
  rfl
theorem OmF.drop (h : OmF f P K w b l) (hK : P.underlying K = some .string) (hT : P.underlying T = some (.map K E)) {k : Bs} (hk : k.length ≤ maxLen) (ty : TypeId) :
    ∃ w', (Builtin.delete_ #[T, K] ty #[.map (some b), .string ⟨k.toArray⟩]).run P w = .ok (.tuple #[]) w' ∧ OmF f P K w' b (gdel k l) ∧ w.grownBy w' (some b) := by
  obtain ⟨w', hrun, h1, h2⟩ := World.ownsMap.drop h (string_keyed hK) hT (key := .string ⟨k.toArray⟩) (kl := .string k) (key_str hK hk) ty
  rw [datF_del] at h1
  exact ⟨w', hrun, OmF.of h1, h2.grown⟩
variable {ops : Array Oper} {rest : List Oper} {o : Oper} {a : Act} {Q : Exit → Act → World → Prop}
theorem wpl_dropF (hg : o.guard = none) (m x : Operand) (hop : o.op = Op.call { callee := Callee.builtin Builtin.delete, args := #[m, x], argTypes := #[T, K] }) (hK : P.underlying K = some .string) (hT : P.underlying T = some (.map K E)) (b : Nat) (l : List (Bs × β)) (hm : a.eval m = .map (some b)) (h : OmF f P K w b l)
    (k : Bs) (hk : k.length ≤ maxLen) (hx : a.eval x = .string ⟨k.toArray⟩) (hC : ∀ w', OmF f P K w' b (gdel k l) → w.grownBy w' (some b) → wpList P ops Q rest (a.put o.dst (.tuple #[])) w') : wpList P ops Q (o :: rest) a w := by
  refine wpList_plain hg fun K' hK' => ?_
  obtain ⟨w', hrun, r1, r2⟩ := h.drop hK hT hk o.type
  unfold Oper.wp
  simp [execOp, hop, resolve, invoke, builtin, hm, hx, hrun, Result.andThen]
  exact hK' _ _ (hC w' r1 r2)
end
end Go.Proofs.YtnndlmkcckgkhaaGreatDoor

namespace Go.Proofs.YtnndlmkcckgkhaaGreatDoor

/-- all files have names, and all changes give such -/
def Nmd {α : Type} (d : Dk α) : Prop := (∀ p ∈ d.sure, named p.1 = true) ∧ ∀ c ∈ d.pend, named c.name = true ∧ (c.kind = 1 → named c.to = true)
section
variable {α : Type} {d : Dk α}
theorem fdo_nm {l : List (Bs × α)} (hl : ∀ p ∈ l, named p.1 = true) {x : Chg α} (h1 : named x.name = true) (h2 : x.kind = 1 → named x.to = true) : ∀ p ∈ fdo l x, named p.1 = true := by
  intro p hp
  rcases Decidable.em (x.kind = 0) with hk | hk
  · rw [fdo_w hk] at hp
    rcases gmem_put.1 hp with e | e
    · rw [e]; exact h1
    · exact hl p e.1
  cases hg : gget x.name l with
  | none => rw [fdo_n hk hg] at hp; exact hl p hp
  | some b =>
    rcases Decidable.em (x.kind = 1) with hk1 | hk1
    · rw [fdo_r hk1 hg] at hp
      rcases gmem_put.1 hp with e | e
      · rw [e]; exact h2 hk1
      · exact hl p (gmem_del.1 e.1).1
    · rw [fdo_d hk hk1 hg] at hp
      exact hl p (gmem_del.1 hp).1
theorem fdos_nm (cs : List (Chg α)) : ∀ {l : List (Bs × α)}, (∀ p ∈ l, named p.1 = true) → (∀ x ∈ cs, named x.name = true ∧ (x.kind = 1 → named x.to = true)) → ∀ p ∈ fdos l cs, named p.1 = true := by
  induction cs with
  | nil => exact fun hl _ => hl
  | cons x r ih =>
    intro l hl hc
    obtain ⟨h1, h2⟩ := hc x (List.mem_cons_self ..)
    exact ih (fdo_nm hl h1 h2) fun y hy => hc y (List.mem_cons_of_mem _ hy)
theorem Nmd.shown (h : Nmd d) : ∀ p ∈ d.shown, named p.1 = true := fdos_nm d.pend h.1 h.2
theorem Nmd.names (h : Nmd d) : ∀ x ∈ names d.shown, named x = true := fun x hx => by
  obtain ⟨p, hp, rfl⟩ := List.mem_map.1 hx
  exact h.shown p hp
theorem Nmd.works (h : Nmd d) : Nmd (dWorks d).1 := by
  obtain ⟨s1, s2, -, -⟩ := dWorks_same d
  unfold Nmd
  rw [s1, s2]
  exact h
theorem Nmd.add (h : Nmd d) {c : Chg α} (h1 : named c.name = true) (h2 : c.kind = 1 → named c.to = true) : Nmd (dAdd d c) := by
  refine ⟨h.1, fun x hx => ?_⟩
  rcases List.mem_append.1 hx with hx | hx
  · exact h.2 x hx
  · obtain rfl : x = c := by simpa using hx
    exact ⟨h1, h2⟩
theorem tru {b : Bool} (h : ¬ b = false) : b = true := by cases b <;> simp_all
theorem Nmd.write (h : Nmd d) (len : α → Nat) (n : Bs) (v : α) : Nmd (dWrite len d n v).1 := by
  unfold dWrite
  split
  · exact h.works
  · split
    · exact h.works
    · rename_i hn
      split
      · exact h.works
      · split
        · exact h.works
        · exact h.works.add (tru hn) fun e => by cases e
theorem Nmd.rename (h : Nmd d) (z : α) (n t : Bs) : Nmd (dRename z d n t).1 := by
  unfold dRename
  split
  · exact h.works
  · split
    · exact h.works
    · rename_i hn
      split
      · exact h.works
      · exact h.works.add (tru fun e => hn (.inl e)) fun _ => tru fun e => hn (.inr e)
theorem Nmd.remove (h : Nmd d) (z : α) (n : Bs) : Nmd (dRemove z d n).1 := by
  unfold dRemove
  split
  · exact h.works
  · split
    · exact h.works
    · rename_i hn
      split
      · exact h.works
      · exact h.works.add (tru hn) fun e => by cases e
theorem Nmd.sync (h : Nmd d) : Nmd (dSync d).1 := by
  unfold dSync
  split
  · exact h.works
  · exact ⟨h.shown, fun x hx => by cases hx⟩
theorem kept_mem2 {keep : List Bool} {cs : List (Chg α)} {x : Chg α} (h : x ∈ kept keep cs) : x ∈ cs := by
  unfold kept at h
  obtain ⟨p, hp, rfl⟩ := List.mem_map.1 h
  exact (List.of_mem_zip (List.mem_filter.1 hp).1).1
theorem Nmd.cut (h : Nmd d) (ks : List Bool) : Nmd (dCut ks d) := ⟨fdos_nm _ h.1 fun x hx => h.2 x (kept_mem2 hx), fun x hx => by cases hx⟩
theorem Nmd.start (h : Nmd d) : Nmd (dStart d) := by
  unfold dStart
  split
  · exact ⟨h.1, fun x hx => by cases hx⟩
  · exact h
theorem Nmd.andThen {r : Dk α × Nat} {f : Dk α → Dk α × Nat} (h : Nmd r.1) (hf : ∀ d, Nmd d → Nmd (f d).1) : Nmd (Go.Proofs.YtnndlmkcckgkhaaGreatDoor.andThen r f).1 := by
  unfold Go.Proofs.YtnndlmkcckgkhaaGreatDoor.andThen
  split
  · exact h
  · exact hf _ h
theorem Nmd.put (h : Nmd d) (len : α → Nat) (z : α) (n : Bs) (v : α) : Nmd (sPut len z d n v).1 := by
  unfold sPut
  split
  · exact h
  · exact Nmd.andThen (h.write len _ v) fun d h => Nmd.andThen h.sync fun d h => Nmd.andThen (h.rename z _ _) fun d h => h.sync
theorem Nmd.del (h : Nmd d) (z : α) (n : Bs) : Nmd (sDelete z d n).1 := by
  unfold sDelete
  split
  · exact h
  · exact Nmd.andThen (h.remove z _) fun d h => h.sync
theorem Nmd.sweep {z : α} : ∀ (l : List Bs) {d : Dk α} (b : Bool), Nmd d → Nmd (sSweep z l d b).1
  | [], d, b, h => h
  | n :: r, d, b, h => by
    unfold sSweep
    split
    · split
      · exact h.remove z n
      · exact Nmd.sweep r true (h.remove z n)
    · exact Nmd.sweep r b h
theorem Nmd.open_ (h : Nmd d) (z : α) : Nmd (sOpen z d).1 := by
  unfold sOpen
  split
  · exact h
  · split
    · exact Nmd.sweep _ _ h
    · split
      · exact (Nmd.sweep _ _ h).sync
      · exact Nmd.sweep _ _ h
/-! ### how much there is -/
theorem andThen_len {r : Dk α × Nat} {f : Dk α → Dk α × Nat} {k m : Nat} (h : r.1.sure.length + r.1.pend.length ≤ k) (hkm : k ≤ m) (hf : ∀ d : Dk α, d.sure.length + d.pend.length ≤ k → (f d).1.sure.length + (f d).1.pend.length ≤ m) : (andThen r f).1.sure.length + (andThen r f).1.pend.length ≤ m := by
  unfold andThen
  split
  · omega
  · exact hf _ h
theorem sPut_len (len : α → Nat) (z : α) (d : Dk α) (n : Bs) (v : α) : (sPut len z d n v).1.sure.length + (sPut len z d n v).1.pend.length ≤ d.sure.length + d.pend.length + 4 := by
  unfold sPut
  split
  · dsimp only; omega
  · exact andThen_len (opd_len (Opd.write len d _ v) (Nat.le_refl _)) (by omega) fun d h => andThen_len (opd_len (Opd.sync d) h) (by omega) fun d h => andThen_len (opd_len (Opd.rename z d _ _) h) (by omega) fun d h => opd_len (Opd.sync d) h
theorem sDelete_len (z : α) (d : Dk α) (n : Bs) : (sDelete z d n).1.sure.length + (sDelete z d n).1.pend.length ≤ d.sure.length + d.pend.length + 2 := by
  unfold sDelete
  split
  · dsimp only; omega
  · exact andThen_len (opd_len (Opd.remove z d _) (Nat.le_refl _)) (by omega) fun d h => opd_len (Opd.sync d) h
theorem sSweep_len {z : α} : ∀ (l : List Bs) (d : Dk α) (b : Bool), (sSweep z l d b).1.sure.length + (sSweep z l d b).1.pend.length ≤ d.sure.length + d.pend.length + l.length
  | [], d, b => Nat.le_refl _
  | n :: r, d, b => by
    have h1 := opd_len (Opd.remove z d n) (Nat.le_refl _)
    have h2 := sSweep_len (z := z) r (dRemove z d n).1 true
    have h3 := sSweep_len (z := z) r d b
    unfold sSweep
    split
    · split
      · dsimp only; simp only [List.length_cons]; omega
      · simp only [List.length_cons]; omega
    · simp only [List.length_cons]; omega
theorem gdel_le {l : List (Bs × α)} (k : Bs) : (gdel k l).length ≤ l.length := List.length_filter_le _ _
theorem remove_shown {z : α} (d : Dk α) (n : Bs) : (dRemove z d n).1.shown.length ≤ d.shown.length := by
  obtain ⟨s1, s2, -, -⟩ := dWorks_same d
  have hs : (dWorks d).1.shown = d.shown := by unfold Dk.shown; rw [s1, s2]
  unfold dRemove
  split
  · rw [hs]; exact Nat.le_refl _
  · split
    · dsimp only; rw [hs]; exact Nat.le_refl _
    · split
      · dsimp only; rw [hs]; exact Nat.le_refl _
      · dsimp only
        rw [shown_add, hs]
        cases hg : gget n d.shown with
        | none => rw [fdo_n (show (2 : Nat) ≠ 0 by decide) hg]; exact Nat.le_refl _
        | some v => rw [fdo_d (show (2 : Nat) ≠ 0 by decide) (show (2 : Nat) ≠ 1 by decide) hg]; exact gdel_le n
theorem sSweep_shown {z : α} : ∀ (l : List Bs) (d : Dk α) (b : Bool), (sSweep z l d b).1.shown.length ≤ d.shown.length
  | [], d, b => Nat.le_refl _
  | n :: r, d, b => by
    have h1 := remove_shown (z := z) d n
    have h2 := sSweep_shown (z := z) r (dRemove z d n).1 true
    have h3 := sSweep_shown (z := z) r d b
    unfold sSweep
    split
    · split
      · exact h1
      · omega
    · exact h3
theorem sSweep_same {z : α} : ∀ (l : List Bs) (d : Dk α) (b : Bool), (sSweep z l d b).2.1 = 0 → (sSweep z l d b).2.2 = false → b = false ∧ (sSweep z l d b).1 = d
  | [], d, b, _, h => ⟨h, rfl⟩
  | n :: r, d, b, h0, h => by
    have h2 := sSweep_same (z := z) r (dRemove z d n).1 true
    have h3 := sSweep_same (z := z) r d b
    by_cases hb : isBegun n = true
    · by_cases h9 : (dRemove z d n).2 ≠ 0
      · have e : sSweep z (n :: r) d b = ((dRemove z d n).1, (dRemove z d n).2, b) := by
          conv => lhs; unfold sSweep
          rw [if_pos hb, if_pos h9]
        rw [e] at h0
        exact absurd h0 h9
      · have e : sSweep z (n :: r) d b = sSweep z r (dRemove z d n).1 true := by
          conv => lhs; unfold sSweep
          rw [if_pos hb, if_neg h9]
        rw [e] at h0 h
        exact absurd (h2 h0 h).1 (by simp)
    · have e : sSweep z (n :: r) d b = sSweep z r d b := by
        conv => lhs; unfold sSweep
        rw [if_neg hb]
      rw [e] at h0 h ⊢
      exact h3 h0 h
/-- an opened store's disk has no more than there was -/
theorem sOpen_len {z : α} {d : Dk α} (h : (sOpen z d).2 = 0) : (sOpen z d).1.sure.length + (sOpen z d).1.pend.length ≤ d.sure.length + d.pend.length := by
  have hsh : d.shown.length ≤ d.sure.length + d.pend.length := flen_dos d.sure d.pend
  have h1 := sSweep_shown (z := z) (names d.shown) d false
  have h2 := sSweep_same (z := z) (names d.shown) d false
  unfold sOpen at *
  generalize sSweep z (names d.shown) d false = s at *
  split at h
  · cases h
  · rename_i hd
    rw [if_neg hd]
    split at h
    · rename_i h0
      exact absurd h h0
    · rename_i h0
      rw [if_neg h0]
      have h0' : s.2.1 = 0 := Decidable.byContradiction h0
      cases hb : s.2.2 with
      | false =>
        rw [if_neg (by simp)]
        obtain ⟨-, e⟩ := h2 h0' hb
        dsimp only
        rw [e]
        exact Nat.le_refl _
      | true =>
        rw [hb, if_pos rfl] at h
        rw [if_pos rfl]
        unfold dSync at *
        split at h
        · rename_i h9
          exact absurd h h9
        · rename_i h9
          rw [if_neg h9]
          dsimp only
          simp
          omega
theorem sOpen_len2 (z : α) (d : Dk α) : (sOpen z d).1.sure.length + (sOpen z d).1.pend.length ≤ 2 * (d.sure.length + d.pend.length) + 1 := by
  have hsh : d.shown.length ≤ d.sure.length + d.pend.length := flen_dos d.sure d.pend
  have hn : (names d.shown).length = d.shown.length := List.length_map ..
  have h1 := sSweep_len (z := z) (names d.shown) d false
  unfold sOpen
  generalize sSweep z (names d.shown) d false = s at *
  split
  · dsimp only; omega
  · split
    · dsimp only; omega
    · split
      · have := opd_len (Opd.sync s.1) (Nat.le_refl _)
        omega
      · dsimp only; omega
end
theorem Fok.andThen {r : Dk Sv × Nat} {f : Dk Sv → Dk Sv × Nat} (h : Fok r.1) (hf : ∀ d, Fok d → Fok (f d).1) : Fok (Go.Proofs.YtnndlmkcckgkhaaGreatDoor.andThen r f).1 := by
  unfold Go.Proofs.YtnndlmkcckgkhaaGreatDoor.andThen
  split
  · exact h
  · exact hf _ h
theorem Fok.put {d : Dk Sv} (h : Fok d) (n : Bs) (v : Sv) : Fok (sPut svl Sv.nil d n v).1 := by
  unfold sPut
  split
  · exact h
  · exact Fok.andThen (h.opd (Opd.write svl d _ v)) fun d h => Fok.andThen (h.opd (Opd.sync d)) fun d h => Fok.andThen (h.opd (Opd.rename Sv.nil d _ _)) fun d h => h.opd (Opd.sync d)
theorem Fok.del {d : Dk Sv} (h : Fok d) (n : Bs) : Fok (sDelete Sv.nil d n).1 := by
  unfold sDelete
  split
  · exact h
  · exact Fok.andThen (h.opd (Opd.remove Sv.nil d _)) fun d h => h.opd (Opd.sync d)
theorem Fok.sweep : ∀ (l : List Bs) {d : Dk Sv} (b : Bool), Fok d → Fok (sSweep Sv.nil l d b).1
  | [], d, b, h => h
  | n :: r, d, b, h => by
    unfold sSweep
    split
    · split
      · exact h.opd (Opd.remove Sv.nil d n)
      · exact Fok.sweep r true (h.opd (Opd.remove Sv.nil d n))
    · exact Fok.sweep r b h
theorem Fok.open_ {d : Dk Sv} (h : Fok d) : Fok (sOpen Sv.nil d).1 := by
  unfold sOpen
  split
  · exact h
  · split
    · exact Fok.sweep _ _ h
    · split
      · exact (Fok.sweep _ _ h).opd (Opd.sync _)
      · exact Fok.sweep _ _ h
/-- what an act on a disk leaves -/
def Opn (d : Dk Sv) (r : Dk Sv × Nat) : Prop := Opd d r ∧ (Nmd d → Nmd r.1)
end Go.Proofs.YtnndlmkcckgkhaaGreatDoor

namespace Go.Proofs.YtnndlmkcckgkhaaGreatDoor
open Go.RowKit Go.Maps Go.Sort
attribute [local go_sem ↓] Go.wp_at_zero Go.wp_at_succ

/-- a file of the document's -/
def rfv (p : Bs × Bs) : List Value := [.string ⟨p.1.toArray⟩, .string ⟨p.2.toArray⟩]
theorem rfv_len (p : Bs × Bs) : (rfv p).length = 2 := rfl
def SlR (w : World) (A : Option Addr) (c : Nat) (l : List (Bs × Bs)) : Prop := Sl w 2 A l.length c (l.flatMap rfv)
abbrev OwnR (w : World) (B : Nat) (A : Option Addr) (c : Nat) (l : List (Bs × Bs)) : Prop := Own w B 170 2 A l.length c (l.flatMap rfv)
theorem SlR.below {w w' : World} {A : Option Addr} {c : Nat} {l : List (Bs × Bs)} (h : SlR w A c l) (hb : Below w.heap.size w w') : SlR w' A c l := Sl.below h hb
theorem SlR.len {w : World} {A : Option Addr} {c : Nat} {l : List (Bs × Bs)} (h : SlR w A c l) : l.length ≤ 9223372036854775807 := Nat.le_trans h.2.1 h.2.2.1
theorem SlR.at1 {w : World} {A : Option Addr} {c : Nat} {l : List (Bs × Bs)} (h : SlR w A c l) {k : Nat} (hk : k < l.length) : ∃ ad b o, A = some ad ∧ ad.add (k * 2) = ⟨b, o, none⟩ ∧ w.cell? ⟨b, o, none⟩ = some (.string ⟨l[k].1.toArray⟩) ∧ w.cell? ⟨b, o + 1, none⟩ = some (.string ⟨l[k].2.toArray⟩) := by
  obtain ⟨ad, b, o, hA, had, hcc⟩ := Sl.atS (f := rfv) (size := 2) (fun _ => rfl) (by omega) h hk
  have h0 := hcc 0 _ rfl
  have h1 := hcc 1 _ rfl
  rw [Nat.add_zero] at h0
  exact ⟨ad, b, o, hA, had, h0, h1⟩
theorem rf_info : (Tryz.prog.info? 170).map (fun i => (i.zero, i.size, i.bytes)) = some (some (.agg #[.string ⟨#[]⟩, .string ⟨#[]⟩]), 2, 32) := by kernel_rfl
theorem one_rfv (p : Bs × Bs) : ∀ u ∈ rfv p, u.oneCell' = true := by
  intro u hu
  simp only [rfv, List.mem_cons, List.not_mem_nil, or_false] at hu
  rcases hu with rfl | rfl <;> rfl
theorem lit_rf (w : World) (p : Bs × Bs) : Sl (w.alloc (.cells #[.string ⟨p.1.toArray⟩, .string ⟨p.2.toArray⟩] 170)) 2 (some ⟨w.heap.size, 0, none⟩) 1 1 (rfv p) :=
  ⟨by simp [rfv], by omega, by simp [maxLen], (fun h => by cases h), fun j u hj => ⟨_, rfl, by
    rw [addr_lit, cell_of_row _ _ _ _ 170 (0, 0) (heap_alloc_new w _)]
    simpa [rfv] using hj⟩⟩
/-- append of one file -/
theorem wpl_rf {w : World} {ops : Array Oper} {rest : List Oper} {o : Oper} {a : Act} {Q : Exit → Act → World → Prop} (hgd : o.guard = none) (s x : Operand)
    (ho : o.op = .call { callee := .builtin .append, args := #[s, x], argTypes := #[76, 76] })
    (base : Nat) (A : Option Addr) (c : Nat) (l : List (Bs × Bs)) (hs : a.eval s = .slice A l.length c) (hown : OwnR w base A c l) (hn : l.length ≤ 1000000000000)
    (p : Bs × Bs) (gx : Nat) (hgx : gx = w.heap.size) (hx : a.eval x = .slice (some ⟨gx, 0, none⟩) 1 1) (hbase : base ≤ w.heap.size)
    (h : ∀ A' c' m w', Hid (m = l ++ [p]) → OwnR w' base A' c' m → (w.alloc (.cells #[.string ⟨p.1.toArray⟩, .string ⟨p.2.toArray⟩] 170)).grownBy w' (A.map (·.block)) → (A'.map (·.block) = A.map (·.block) ∨ A'.map (·.block) = some (w.alloc (.cells #[.string ⟨p.1.toArray⟩, .string ⟨p.2.toArray⟩] 170)).heap.size) → wpList Tryz.prog ops Q rest (a.put o.dst (.slice A' m.length c')) w') : wpList Tryz.prog ops Q (o :: rest) a (w.alloc (.cells #[.string ⟨p.1.toArray⟩, .string ⟨p.2.toArray⟩] 170)) := by
  subst hgx
  obtain ⟨i0, hi, hz0, hz1, hz2⟩ := info_parts rf_info
  have hown2 : OwnR (w.alloc (.cells #[.string ⟨p.1.toArray⟩, .string ⟨p.2.toArray⟩] 170)) base A c l := World.ownsRow.alloc hown _
  refine wpl_append hgd s x 76 ho base 170 i0 _ 2 32 Tryz.underlying76 hi hz0 hz1 hz2 rfl (by decide) A l.length c _ hs hown2 _ 1 1 (rfv p) hx (lit_rf w p) (one_rfv p) (by omega) (by unfold maxLen; omega) (by simp; omega) ?_
  intro A' c' w' hap
  have hlen : l.length + 1 = (l ++ [p]).length := by simp
  rw [hlen]
  exact h A' c' (l ++ [p]) w' (show _ = _ from rfl) (by have := hap.own; unfold OwnR; rw [List.flatMap_append]; simpa using this) hap.grown hap.place
/-- a row of one's own has grown -/
theorem bel_grown {w0 w w' : World} {B : Nat} {A : Option Addr} {o : Obj} (h : Below B w0 w) (hlo : B ≤ w.heap.size) (hA : ∀ k, A.map (·.block) = some k → B ≤ k) (hg : (w.alloc o).grownBy w' (A.map (·.block))) (hs : B ≤ w0.heap.size) : Below B w0 w' := by
  have h2 := h.alloc hlo o
  refine ⟨hg.os.trans h2.os, hg.tape.trans h2.tape, hg.output.trans h2.output, Nat.le_trans h2.size hg.size, fun i hi => (hg.block i (Nat.lt_of_lt_of_le hi (Nat.le_trans hs h2.size)) (fun e => ?_)).trans (h2.block i hi)⟩
  have := hA i e.symm
  omega
/-! ### found -/
def rfind (n : Bs) (l : List (Bs × Bs)) : Int := match l.findIdx? (fun p => p.1 == n) with | none => -1 | some k => k
theorem rfind_at {n : Bs} {l : List (Bs × Bs)} {k : Nat} (hk : k < l.length) (he : l[k].1 = n) (hno : ∀ i (hi : i < l.length), i < k → l[i].1 ≠ n) : rfind n l = k := by
  unfold rfind
  rw [List.findIdx?_eq_some_iff_getElem.2 ⟨hk, by simp [he], fun j hj => by simpa using hno j (by omega) hj⟩]
theorem rfind_none {n : Bs} {l : List (Bs × Bs)} (hno : ∀ i (hi : i < l.length), l[i].1 ≠ n) : rfind n l = -1 := by
  unfold rfind
  rw [List.findIdx?_eq_none_iff.2]
  intro x hx
  obtain ⟨i, hi, rfl⟩ := List.getElem_of_mem hx
  simpa using hno i hi
set_option maxRecDepth 100000 in
set_option maxHeartbeats 1000000 in
theorem RFind_any {A : Option Addr} {c : Nat} {l : List (Bs × Bs)} (n : Bs) (w : World) (h : SlR w A c l) : Calls Tryz.prog 150 #[.slice A l.length c, .string ⟨n.toArray⟩] w fun e w' => e = .returned (.int .i64 (rfind n l)) ∧ Below w.heap.size w w' := by
  have hll := h.len
  have H := Lib.hid h
  clear h
  go_enter Tryz.func150, Tryz.ntmps150
  go_wp2_with fail
  go_loopw [5] (fun x wr => ∃ k : Nat, k ≤ l.length ∧ x = .int .i64 k ∧ (∀ i (hi : i < l.length), i < k → l[i].1 ≠ n) ∧ Below w.heap.size w wr) (fun x w => l.length - (intOf x).toNat)
  case atStart => exact ⟨0, Nat.zero_le _, rfl, (fun i _ hi => by omega), Below.refl _ _⟩
  case round =>
    obtain ⟨k, hk, rfl, hno, hb⟩ := hrel
    by_cases hlt : k < l.length
    · obtain ⟨ad, b, o, hA, had, hc0, hc1⟩ := (H.out.below hb).at1 hlt
      have hI : (k : Int) < (l.length : Int) := by omega
      by_cases he : l[k].1 = n
      · have HR := Lib.hid (rfind_at hlt he hno)
        rw [he] at hc0
        have hbe : (n == n) = true := by simp
        subst hA
        clear hno he
        go_wp2_with fail
        go_ret
        exact ⟨by rw [HR.out]; rfl, hb⟩
      · have hbe : (l[k].1 == n) = false := by simpa using he
        have hno2 : ∀ i (hi : i < l.length), i < k + 1 → l[i].1 ≠ n := fun i hi hik => by
          rcases Nat.lt_or_ge i k with h | h
          · exact hno i hi h
          · obtain rfl : i = k := by omega
            exact he
        have HN := Lib.hid hno2
        clear hno hno2 he
        generalize l[k] = x at *
        subst hA
        go_wp2_with fail
        go_roundw
        case rel => exact ⟨k + 1, hlt, by go_num, HN.out, hb⟩
        case measure => simp [intOf]; omega
    · have hI : (l.length : Int) ≤ (k : Int) := by omega
      have HR := Lib.hid (rfind_none (fun i hi => hno i hi (by omega)))
      clear hno
      go_wp2_with fail
      go_ret
      exact ⟨by rw [HR.out]; rfl, hb⟩
end Go.Proofs.YtnndlmkcckgkhaaGreatDoor

namespace Go.Proofs.YtnndlmkcckgkhaaGreatDoor
open Go.RowKit Go.Maps Go.Sort
attribute [local go_sem ↓] Go.wp_at_zero Go.wp_at_succ

theorem less_before : ∀ (a b : Bs), Op.bytesLess a b = bytesBefore a b
  | [], [] => rfl
  | [], _ :: _ => rfl
  | _ :: _, [] => rfl
  | x :: r, y :: s => by
    unfold Op.bytesLess bytesBefore
    rw [less_before r s]
theorem bb_asym {a b : Bs} (h : bytesBefore a b = true) : bytesBefore b a = false := by
  cases h2 : bytesBefore b a
  · rfl
  · have := bb_trans h h2
    rw [bb_irrefl] at this
    cases this
theorem gdel_take {l : List (Bs × Bs)} {n : Bs} {k : Nat} (hk : k < l.length) : gdel n (l.take (k + 1)) = gdel n (l.take k) ++ if l[k].1 = n then [] else [l[k]] := by
  rw [List.take_succ_eq_append_getElem hk]
  unfold gdel
  rw [List.filter_append]
  congr 1
  by_cases h : l[k].1 = n
  · rw [if_pos h]; simp [h]
  · rw [if_neg h]; simp [h]
theorem glen_le (n : Bs) (l : List (Bs × Bs)) (k : Nat) : (gdel n (l.take k)).length ≤ k := by
  have := glen_del n (l.take k)
  rw [List.length_take] at this
  omega
set_option maxRecDepth 100000 in
set_option maxHeartbeats 1000000 in
theorem RWithout_any {A : Option Addr} {c : Nat} {l : List (Bs × Bs)} (n : Bs) (w : World) (h : SlR w A c l) (hl : l.length ≤ 100000000) : Calls Tryz.prog 179 #[.slice A l.length c, .string ⟨n.toArray⟩] w fun e w' => ∃ A' c' m, e = .returned (.slice A' (List.length m) c') ∧ Hid (m = gdel n l) ∧ OwnR w' w.heap.size A' c' m ∧ Below w.heap.size w w' := by
  have H := Lib.hid h
  clear h
  go_enter Tryz.func179, Tryz.ntmps179
  go_wp2_with fail
  go_loopw [6, 5] (fun x y wr => ∃ (k : Nat) (B : Option Addr) (d : Nat) (m : List (Bs × Bs)), k ≤ l.length ∧ x = .int .i64 k ∧ y = .slice B m.length d ∧ Hid (m = gdel n (l.take k)) ∧ OwnR wr w.heap.size B d m ∧ Below w.heap.size w wr) (fun x _ w => l.length - (intOf x).toNat)
  case atStart => exact ⟨0, _, 0, [], Nat.zero_le _, rfl, rfl, Lib.hid rfl, Own.lit 2 (Nat.le_refl _), below_new _ _⟩
  case round =>
    obtain ⟨k, B, d, m, hk, rfl, rfl, hm, ho, hb⟩ := hrel
    have hml : m.length ≤ k := by rw [hm.out]; exact glen_le _ _ _
    by_cases hlt : k < l.length
    · obtain ⟨ad, b, o, hA, had, hc0, hc1⟩ := (H.out.below hb).at1 hlt
      have hI : (k : Int) < (l.length : Int) := by omega
      have HT := Lib.hid (gdel_take (n := n) hlt)
      have hbs := hb.size
      by_cases he : l[k].1 = n
      · have hbe : (n == n) = true := by simp
        rw [if_pos he, List.append_nil] at HT
        rw [he] at hc0
        subst hA
        clear he
        go_wp2_with fail
        go_roundw
        case rel => exact ⟨k + 1, B, d, m, hlt, by go_num, rfl, Lib.hid (by rw [hm.out, HT.out]), ho, hb⟩
        case measure => simp [intOf]; omega
      · have hbe : (l[k].1 == n) = false := by simpa using he
        rw [if_neg he] at HT
        clear he
        generalize l[k] = x at *
        subst hA
        have HB := Lib.hid hb
        clear hb
        go_wp2_with (at_builtin; go_must (refine wpl_rf rfl _ _ rfl w.heap.size B d m rfl ho (by omega) x _ rfl rfl hbs ?_); intro A5 c5 m5 w5 hm5 ho5 hg5 hp5)
        have hb6 := bel_grown HB.out hbs (fun i e => (Own.lt ho i e).1) hg5 (Nat.le_refl _)
        go_roundw
        case rel => exact ⟨k + 1, A5, c5, m5, hlt, by go_num, rfl, Lib.hid (by rw [hm5.out, hm.out, HT.out]), ho5, hb6⟩
        case measure => simp [intOf]; omega
    · have hI : (l.length : Int) ≤ (k : Int) := by omega
      obtain rfl : k = l.length := by omega
      have HM := Lib.hid (show m = gdel n l from by rw [hm.out, List.take_length])
      clear hm
      go_wp2_with fail
      go_ret
      exact ⟨B, d, m, rfl, (show _ = _ from HM.out), ho, hb⟩
/-- one put among others -/
def Wth (f : Bs × Bs) (g m : List (Bs × Bs)) (k : Nat) (put : Bool) : Prop := (put = true → m ++ g.drop k = gins f g) ∧ (put = false → m = g.take k ∧ gins f g = g.take k ++ gins f (g.drop k))
theorem Wth.start (f : Bs × Bs) (g : List (Bs × Bs)) : Wth f g [] 0 false := ⟨fun h => (by cases h), fun _ => ⟨rfl, rfl⟩⟩
theorem Wth.len {f : Bs × Bs} {g m : List (Bs × Bs)} {k : Nat} {put : Bool} (h : Wth f g m k put) : m.length ≤ g.length + 1 := by
  cases put
  · have := (h.2 rfl).1
    rw [this, List.length_take]
    omega
  · have := congrArg List.length (h.1 rfl)
    rw [glen_ins, List.length_append] at this
    omega
theorem Wth.on {f : Bs × Bs} {g m : List (Bs × Bs)} {k : Nat} (h : Wth f g m k true) (hk : k < g.length) : Wth f g (m ++ [g[k]]) (k + 1) true := ⟨fun _ => by
  have := h.1 rfl
  rw [List.drop_eq_getElem_cons hk] at this
  rw [← this]
  simp, fun h => by cases h⟩
theorem Wth.past {f : Bs × Bs} {g m : List (Bs × Bs)} {k : Nat} (h : Wth f g m k false) (hk : k < g.length) (hb : bytesBefore f.1 g[k].1 = false) : Wth f g (m ++ [g[k]]) (k + 1) false := ⟨fun h => (by cases h), fun _ => by
  obtain ⟨h1, h2⟩ := h.2 rfl
  refine ⟨by rw [h1, List.take_succ_eq_append_getElem hk], ?_⟩
  rw [h2, List.drop_eq_getElem_cons hk, List.take_succ_eq_append_getElem hk, gins, if_neg (by rw [hb]; simp), List.append_assoc]
  rfl⟩
theorem Wth.here {f : Bs × Bs} {g m : List (Bs × Bs)} {k : Nat} (h : Wth f g m k false) (hk : k < g.length) (hb : bytesBefore f.1 g[k].1 = true) : Wth f g (m ++ [f] ++ [g[k]]) (k + 1) true := ⟨fun _ => by
  obtain ⟨h1, h2⟩ := h.2 rfl
  rw [h2, List.drop_eq_getElem_cons hk, gins, if_pos hb, h1]
  simp, fun h => by cases h⟩
theorem Wth.end1 {f : Bs × Bs} {g m : List (Bs × Bs)} (h : Wth f g m g.length true) : m = gins f g := by
  have := h.1 rfl
  rwa [List.drop_length, List.append_nil] at this
theorem Wth.end0 {f : Bs × Bs} {g m : List (Bs × Bs)} (h : Wth f g m g.length false) : m ++ [f] = gins f g := by
  obtain ⟨h1, h2⟩ := h.2 rfl
  rw [h2, List.drop_length, h1, List.take_length]
  rfl
/-- while one is put among others -/
structure Wi (w wr : World) (f : Bs × Bs) (A1 : Option Addr) (c1 : Nat) (g : List (Bs × Bs)) (B : Option Addr) (d : Nat) (m : List (Bs × Bs)) : Prop where
  own : OwnR wr (w.heap.size + 1) B d m
  row : SlR wr A1 c1 g
  ap : ∀ k, B.map (·.block) = some k → A1.map (·.block) ≠ some k
  al : ∀ k, A1.map (·.block) = some k → k < wr.heap.size
  bx : Blk wr w.heap.size 170 #[.string ⟨f.1.toArray⟩, .string ⟨f.2.toArray⟩]
  bel : Below w.heap.size w wr
section
variable {w wr w' : World} {f p : Bs × Bs} {A1 B B' : Option Addr} {c1 d d' : Nat} {g m m' : List (Bs × Bs)}
theorem Wi.alloc (h : Wi w wr f A1 c1 g B d m) (o : Obj) : Wi w (wr.alloc o) f A1 c1 g B d m :=
  ⟨World.ownsRow.alloc h.own o, h.row.below (below_new _ _), h.ap, fun k hk => by have := h.al k hk; simp; omega, h.bx.alloc o, h.bel.alloc h.bel.size o⟩
theorem Wi.grow (h : Wi w wr f A1 c1 g B d m) {o : Obj} (ho : OwnR w' (w.heap.size + 1) B' d' m') (hg : (wr.alloc o).grownBy w' (B.map (·.block))) (hp : B'.map (·.block) = B.map (·.block) ∨ B'.map (·.block) = some (wr.alloc o).heap.size) : Wi w w' f A1 c1 g B' d' m' := by
  have h1 := h.alloc o
  refine ⟨ho, ?_, fun k hk => ?_, fun k hk => Nat.lt_of_lt_of_le (h1.al k hk) hg.size, ?_, ?_⟩
  · exact Sl.sameH h1.row fun k hk => hg.block k (h1.al k hk) (fun e => h1.ap k e.symm hk)
  · rcases hp with hp | hp
    · exact h1.ap k (hp ▸ hk)
    · rw [hp] at hk
      injection hk with hk
      intro e
      have := h1.al k e
      omega
  · exact (hg.block _ h1.bx.lt (fun e => by have := (Own.lt h.own _ e.symm).1; omega)).trans h1.bx
  · exact bel_grown h.bel h.bel.size (fun k hk => by have := (Own.lt h.own k hk).1; omega) hg (Nat.le_refl _)
end
set_option maxRecDepth 100000 in
set_option maxHeartbeats 1000000 in
theorem RWith_any {A : Option Addr} {c : Nat} {l : List (Bs × Bs)} (n v : Bs) (w : World) (h : SlR w A c l) (hl : l.length ≤ 100000000) : Calls Tryz.prog 178 #[.slice A l.length c, .agg #[.string ⟨n.toArray⟩, .string ⟨v.toArray⟩]] w fun e w' => ∃ A' c' m, e = .returned (.slice A' (List.length m) c') ∧ Hid (m = gput n v l) ∧ OwnR w' w.heap.size A' c' m ∧ Below w.heap.size w w' := by
  have hW := RWithout_any n ((w.alloc (.cells #[.string ⟨n.toArray⟩, .string ⟨v.toArray⟩] 170)).alloc (.cells #[] 170)) ((h.below (below_new w _)).below (below_new _ _)) hl
  have HW := Lib.hid hW
  have HB0 := Lib.hid ((Blk.new w 170 #[.string ⟨n.toArray⟩, .string ⟨v.toArray⟩]).alloc (.cells #[] 170))
  have HO0 := Lib.hid (Own.lit (w := w.alloc (.cells #[.string ⟨n.toArray⟩, .string ⟨v.toArray⟩] 170)) (e := 170) 2 (Nat.le_refl _))
  have HBl0 := Lib.hid (bel_alloc (below_new w (.cells #[.string ⟨n.toArray⟩, .string ⟨v.toArray⟩] 170)) (.cells #[] 170))
  clear hW h
  obtain ⟨q0, q1⟩ := (show _ ∧ _ from ⟨HB0.out.cell 0, HB0.out.cell 1⟩)
  go_enter Tryz.func178, Tryz.ntmps178
  go_wp2_with fail
  refine HW.out.mono ?_
  rintro e w1 ⟨A1, c1, g, rfl, hg, hog, hb1⟩
  have HG := Lib.hid hg.out
  have HSg := Lib.hid (show SlR w1 A1 c1 g from Own.sl hog)
  have HB1 := Lib.hid (HB0.out.below hb1)
  have HO1 := Lib.hid (Own.below HO0.out hb1)
  have hs0 : ((w.alloc (.cells #[.string ⟨n.toArray⟩, .string ⟨v.toArray⟩] 170)).alloc (.cells #[] 170)).heap.size = w.heap.size + 1 + 1 := by simp
  have hs2 : (w.alloc (.cells #[.string ⟨n.toArray⟩, .string ⟨v.toArray⟩] 170)).heap.size = w.heap.size + 1 := by simp
  have hs1 := hb1.size
  have hgl : g.length ≤ 100000000 := by rw [hg.out]; have := glen_del n l; omega
  have hb2 := HBl0.out.trans (hb1.mono HBl0.out.size)
  have hnn : ∀ p ∈ g, p.1 ≠ n := by rw [hg.out]; exact fun p hp => (gmem_del.1 hp).2
  have HNN := Lib.hid hnn
  rw [hs0] at hs1 hog
  rw [hs2] at HO1
  have hal : ∀ k, A1.map (·.block) = some k → w.heap.size + 2 ≤ k ∧ k < w1.heap.size := fun k hk => Own.lt hog k hk
  have HWi := Lib.hid (show Wi w w1 (n, v) A1 c1 g (some ⟨w.heap.size + 1, 0, none⟩) 0 [] from ⟨HO1.out, HSg.out, fun k hk e => by injection hk with hk; have := (hal k e).1; dsimp only at hk; omega, fun k hk => (hal k hk).2, HB1.out, hb2⟩)
  clear HW hg hb1 HO0 HBl0 q0 q1 hnn HB0 hal hog HO1 HSg HB1 hb2
  go_wp2_with fail
  go_loopw [15, 5, 6] (fun x y z wr => ∃ (k : Nat) (B : Option Addr) (d : Nat) (m : List (Bs × Bs)) (put : Bool), k ≤ g.length ∧ x = .int .i64 k ∧ y = .slice B m.length d ∧ z = .bool put ∧ Hid (Wth (n, v) g m k put) ∧ Wi w wr (n, v) A1 c1 g B d m) (fun x _ _ w => g.length - (intOf x).toNat)
  case atStart => exact ⟨0, _, 0, [], false, Nat.zero_le _, rfl, rfl, rfl, Lib.hid (Wth.start _ _), HWi.out⟩
  case round =>
    obtain ⟨k, B, d, m, put, hk, rfl, rfl, rfl, hw, hi⟩ := hrel
    have hml := hw.out.len
    by_cases hlt : k < g.length
    · obtain ⟨ad, b, o, hA, had, hc0, hc1⟩ := hi.row.at1 hlt
      have hI : (k : Int) < (g.length : Int) := by omega
      have hxn := HNN.out _ (List.getElem_mem hlt)
      have hbx := hi.bx
      have hsz := hi.bx.lt
      cases put with
      | true =>
        have HX := Lib.hid (hw.out.on hlt)
        generalize g[k] = x at *
        subst hA
        have hi2 := hi.alloc (.cells #[.string ⟨x.1.toArray⟩, .string ⟨x.2.toArray⟩] 170)
        have ho2 := hi2.own
        have HI := Lib.hid hi2
        clear hw hi2 hi
        go_wp2_with (at_builtin; go_must (refine wpl_rf rfl _ _ rfl (w.heap.size + 1) B d m rfl ho2 (by omega) x _ (by simp) rfl (by simp; omega) ?_); intro A5 c5 m5 w5 hm5 ho5 hg5 hp5)
        have hi6 := HI.out.grow ho5 hg5 hp5
        have HM := Lib.hid (show Wth (n, v) g m5 (k + 1) true from by rw [hm5.out]; exact HX.out)
        go_roundw
        case rel => exact ⟨k + 1, A5, c5, m5, true, hlt, by go_num, rfl, rfl, HM, hi6⟩
        case measure => simp [intOf]; omega
      | false =>
        cases hbb : bytesBefore n g[k].1 with
        | false =>
          have HX := Lib.hid (hw.out.past hlt hbb)
          have hless : Op.bytesLess g[k].1 n = true := by
            rw [less_before]
            rcases bb_total hxn with h | h
            · exact h
            · rw [hbb] at h; cases h
          generalize g[k] = x at *
          subst hA
          have hi2 := hi.alloc (.cells #[.string ⟨x.1.toArray⟩, .string ⟨x.2.toArray⟩] 170)
          have ho2 := hi2.own
          have HI := Lib.hid hi2
          have hby := (hbx.alloc (.cells #[.string ⟨x.1.toArray⟩, .string ⟨x.2.toArray⟩] 170)).cell 0
          clear hw hi2 hi hbb hxn
          go_wp2_with (at_builtin; go_must (refine wpl_rf rfl _ _ rfl (w.heap.size + 1) B d m rfl ho2 (by omega) x _ (by simp) rfl (by simp; omega) ?_); intro A5 c5 m5 w5 hm5 ho5 hg5 hp5)
          have hi6 := HI.out.grow ho5 hg5 hp5
          have HM := Lib.hid (show Wth (n, v) g m5 (k + 1) false from by rw [hm5.out]; exact HX.out)
          go_roundw
          case rel => exact ⟨k + 1, A5, c5, m5, false, hlt, by go_num, rfl, rfl, HM, hi6⟩
          case measure => simp [intOf]; omega
        | true =>
          have HX := Lib.hid (hw.out.here hlt hbb)
          have hless : Op.bytesLess g[k].1 n = false := by rw [less_before]; exact bb_asym hbb
          have hbe : (g[k].1 == n) = false := by simpa using hxn
          generalize g[k] = x at *
          subst hA
          have hi2 := hi.alloc (.cells #[.string ⟨x.1.toArray⟩, .string ⟨x.2.toArray⟩] 170)
          have ho2 := hi2.own
          have HI := Lib.hid hi2
          have hb3 := hbx.alloc (.cells #[.string ⟨x.1.toArray⟩, .string ⟨x.2.toArray⟩] 170)
          have hby := hb3.cell 0
          have q0 : (wr.alloc (.cells #[.string ⟨x.1.toArray⟩, .string ⟨x.2.toArray⟩] 170)).cell? ⟨w.heap.size, 0, none⟩ = some (.string ⟨n.toArray⟩) := hb3.cell 0
          have q1 : (wr.alloc (.cells #[.string ⟨x.1.toArray⟩, .string ⟨x.2.toArray⟩] 170)).cell? ⟨w.heap.size, 1, none⟩ = some (.string ⟨v.toArray⟩) := hb3.cell 1
          have HC := Lib.hid (Blk.new wr 170 #[.string ⟨x.1.toArray⟩, .string ⟨x.2.toArray⟩])
          have hnB : ∀ k, B.map (·.block) = some k → k ≠ wr.heap.size := fun k hk e => by have := (Own.lt hi.own k hk).2; omega
          clear hw hi2 hi hbb hxn hb3
          go_wp2_with (first | (at_builtin; refine wpl_rf rfl (.tmp 28) (.tmp 30) rfl (w.heap.size + 1) B d m rfl ho2 (by omega) (n, v) _ (by simp) rfl (by simp; omega) ?_; intro A5 c5 m5 w5 hm5 ho5 hg5 hp5; have hi6 := HI.out.grow ho5 hg5 hp5; have hl5 : m5.length ≤ 200000000 := (by rw [hm5.out]; simp; omega); have hC5 : Blk w5 wr.heap.size 170 #[.string ⟨x.1.toArray⟩, .string ⟨x.2.toArray⟩] := (hg5.block _ (HC.out.alloc _).lt (fun e => hnB _ e.symm rfl)).trans (HC.out.alloc _); have z0 := hC5.cell 0; have z1 := hC5.cell 1; have hs6 := hi6.bx.lt) | (at_builtin; refine wpl_rf rfl (.tmp 32) (.tmp 34) rfl (w.heap.size + 1) A5 c5 m5 rfl ho5 (by omega) x _ rfl rfl (by omega) ?_; intro A7 c7 m7 w7 hm7 ho7 hg7 hp7))
          have hi8 := hi6.grow ho7 hg7 hp7
          have HM := Lib.hid (show Wth (n, v) g m7 (k + 1) true from by rw [hm7.out, hm5.out]; exact HX.out)
          go_roundw
          case rel => exact ⟨k + 1, A7, c7, m7, true, hlt, by go_num, rfl, rfl, HM, hi8⟩
          case measure => simp [intOf]; omega
    · have hI : (g.length : Int) ≤ (k : Int) := by omega
      obtain rfl : k = g.length := by omega
      cases put with
      | true =>
        have HM := Lib.hid (show m = gput n v l from by rw [hw.out.end1, HG.out]; rfl)
        have HO := Lib.hid (hi.own.more (Nat.le_succ _))
        have HB := Lib.hid hi.bel
        clear hw hi
        go_wp2_with fail
        go_ret
        exact ⟨B, d, m, rfl, (show _ = _ from HM.out), HO.out, HB.out⟩
      | false =>
        have HX := Lib.hid (show m ++ [(n, v)] = gput n v l from by rw [hw.out.end0, HG.out]; rfl)
        have hbx := hi.bx
        have ho2 := hi.own
        have hsz := hi.bx.lt
        have HI := Lib.hid hi
        have q0 : wr.cell? ⟨w.heap.size, 0, none⟩ = some (.string ⟨n.toArray⟩) := hbx.cell 0
        have q1 : wr.cell? ⟨w.heap.size, 1, none⟩ = some (.string ⟨v.toArray⟩) := hbx.cell 1
        clear hw hi
        go_wp2_with (at_builtin; go_must (refine wpl_rf rfl _ _ rfl (w.heap.size + 1) B d m rfl ho2 (by omega) (n, v) _ rfl rfl (by omega) ?_); intro A5 c5 m5 w5 hm5 ho5 hg5 hp5)
        have hi6 := HI.out.grow ho5 hg5 hp5
        go_ret
        exact ⟨A5, c5, m5, rfl, (show _ = _ from by rw [hm5.out, HX.out]), hi6.own.more (Nat.le_succ _), hi6.bel⟩
end Go.Proofs.YtnndlmkcckgkhaaGreatDoor
