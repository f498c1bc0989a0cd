/- WHAT IT HOLDS: a disk whose files all have names, plainly; how much an opened store's disk holds. | WHAT IT HOLDS: what a store's act leaves of a disk that may go down at any step, and of it started anew, plainly. | WHAT IT HOLDS: a store's Put by another name (the segment's templates have one of that name). | WHAT IT HOLDS: manifests, plainly (no program): which there are. -/
import Derived.Test.YtddmfoldnlafaaaGreatDoorCursorBackG13
import Derived.Test.YtddmfoldnlafaaaGreatDoorCursorBackG16
import Derived.Test.YtddmfoldnlafaaaGreatDoorCursorBackG15
import Derived.Test.YtddmfoldnlafaaaGreatDoorCursorBackG02
namespace Go.Proofs.YtddmfoldnlafaaaGreatDoor

/-- all files have names, and all changes give such -/
def Nmd {α : Type} (d : Dk α) : Prop := (∀ p ∈ d.sure, named p.1 = true) ∧ ∀ c ∈ d.pend, named c.name = true ∧ (c.kind = 1 → named c.to = true)
section
variable {α : Type} {d : Dk α}
theorem fdo_nm {l : List (Bs × α)} (hl : ∀ p ∈ l, named p.1 = true) {x : Chg α} (h1 : named x.name = true) (h2 : x.kind = 1 → named x.to = true) : ∀ p ∈ fdo l x, named p.1 = true := by
  intro p hp
  rcases Decidable.em (x.kind = 0) with hk | hk
  · rw [fdo_w hk] at hp
    rcases gmem_put.1 hp with e | e
    · rw [e]; exact h1
    · exact hl p e.1
  cases hg : gget x.name l with
  | none => rw [fdo_n hk hg] at hp; exact hl p hp
  | some b =>
    rcases Decidable.em (x.kind = 1) with hk1 | hk1
    · rw [fdo_r hk1 hg] at hp
      rcases gmem_put.1 hp with e | e
      · rw [e]; exact h2 hk1
      · exact hl p (gmem_del.1 e.1).1
    · rw [fdo_d hk hk1 hg] at hp
      exact hl p (gmem_del.1 hp).1
theorem fdos_nm (cs : List (Chg α)) : ∀ {l : List (Bs × α)}, (∀ p ∈ l, named p.1 = true) → (∀ x ∈ cs, named x.name = true ∧ (x.kind = 1 → named x.to = true)) → ∀ p ∈ fdos l cs, named p.1 = true := by
  induction cs with
  | nil => exact fun hl _ => hl
  | cons x r ih =>
    intro l hl hc
    obtain ⟨h1, h2⟩ := hc x (List.mem_cons_self ..)
    exact ih (fdo_nm hl h1 h2) fun y hy => hc y (List.mem_cons_of_mem _ hy)
theorem Nmd.shown (h : Nmd d) : ∀ p ∈ d.shown, named p.1 = true := fdos_nm d.pend h.1 h.2
theorem Nmd.names (h : Nmd d) : ∀ x ∈ names d.shown, named x = true := fun x hx => by
  obtain ⟨p, hp, rfl⟩ := List.mem_map.1 hx
  exact h.shown p hp
theorem Nmd.works (h : Nmd d) : Nmd (dWorks d).1 := by
  obtain ⟨s1, s2, -, -⟩ := dWorks_same d
  unfold Nmd
  rw [s1, s2]
  exact h
theorem Nmd.add (h : Nmd d) {c : Chg α} (h1 : named c.name = true) (h2 : c.kind = 1 → named c.to = true) : Nmd (dAdd d c) := by
  refine ⟨h.1, fun x hx => ?_⟩
  rcases List.mem_append.1 hx with hx | hx
  · exact h.2 x hx
  · obtain rfl : x = c := by simpa using hx
    exact ⟨h1, h2⟩
theorem tru {b : Bool} (h : ¬ b = false) : b = true := by cases b <;> simp_all
theorem Nmd.write (h : Nmd d) (len : α → Nat) (n : Bs) (v : α) : Nmd (dWrite len d n v).1 := by
  unfold dWrite
  split
  · exact h.works
  · split
    · exact h.works
    · rename_i hn
      split
      · exact h.works
      · split
        · exact h.works
        · exact h.works.add (tru hn) fun e => by cases e
theorem Nmd.rename (h : Nmd d) (z : α) (n t : Bs) : Nmd (dRename z d n t).1 := by
  unfold dRename
  split
  · exact h.works
  · split
    · exact h.works
    · rename_i hn
      split
      · exact h.works
      · exact h.works.add (tru fun e => hn (.inl e)) fun _ => tru fun e => hn (.inr e)
theorem Nmd.remove (h : Nmd d) (z : α) (n : Bs) : Nmd (dRemove z d n).1 := by
  unfold dRemove
  split
  · exact h.works
  · split
    · exact h.works
    · rename_i hn
      split
      · exact h.works
      · exact h.works.add (tru hn) fun e => by cases e
theorem Nmd.sync (h : Nmd d) : Nmd (dSync d).1 := by
  unfold dSync
  split
  · exact h.works
  · exact ⟨h.shown, fun x hx => by cases hx⟩
theorem kept_mem2 {keep : List Bool} {cs : List (Chg α)} {x : Chg α} (h : x ∈ kept keep cs) : x ∈ cs := by
  unfold kept at h
  obtain ⟨p, hp, rfl⟩ := List.mem_map.1 h
  exact (List.of_mem_zip (List.mem_filter.1 hp).1).1
theorem Nmd.cut (h : Nmd d) (ks : List Bool) : Nmd (dCut ks d) := ⟨fdos_nm _ h.1 fun x hx => h.2 x (kept_mem2 hx), fun x hx => by cases hx⟩
theorem Nmd.start (h : Nmd d) : Nmd (dStart d) := by
  unfold dStart
  split
  · exact ⟨h.1, fun x hx => by cases hx⟩
  · exact h
theorem Nmd.andThen {r : Dk α × Nat} {f : Dk α → Dk α × Nat} (h : Nmd r.1) (hf : ∀ d, Nmd d → Nmd (f d).1) : Nmd (Go.Proofs.YtddmfoldnlafaaaGreatDoor.andThen r f).1 := by
  unfold Go.Proofs.YtddmfoldnlafaaaGreatDoor.andThen
  split
  · exact h
  · exact hf _ h
theorem Nmd.put (h : Nmd d) (len : α → Nat) (z : α) (n : Bs) (v : α) : Nmd (sPut len z d n v).1 := by
  unfold sPut
  split
  · exact h
  · exact Nmd.andThen (h.write len _ v) fun d h => Nmd.andThen h.sync fun d h => Nmd.andThen (h.rename z _ _) fun d h => h.sync
theorem Nmd.del (h : Nmd d) (z : α) (n : Bs) : Nmd (sDelete z d n).1 := by
  unfold sDelete
  split
  · exact h
  · exact Nmd.andThen (h.remove z _) fun d h => h.sync
theorem Nmd.sweep {z : α} : ∀ (l : List Bs) {d : Dk α} (b : Bool), Nmd d → Nmd (sSweep z l d b).1
  | [], d, b, h => h
  | n :: r, d, b, h => by
    unfold sSweep
    split
    · split
      · exact h.remove z n
      · exact Nmd.sweep r true (h.remove z n)
    · exact Nmd.sweep r b h
theorem Nmd.open_ (h : Nmd d) (z : α) : Nmd (sOpen z d).1 := by
  unfold sOpen
  split
  · exact h
  · split
    · exact Nmd.sweep _ _ h
    · split
      · exact (Nmd.sweep _ _ h).sync
      · exact Nmd.sweep _ _ h
/-! ### how much there is -/
theorem andThen_len {r : Dk α × Nat} {f : Dk α → Dk α × Nat} {k m : Nat} (h : r.1.sure.length + r.1.pend.length ≤ k) (hkm : k ≤ m) (hf : ∀ d : Dk α, d.sure.length + d.pend.length ≤ k → (f d).1.sure.length + (f d).1.pend.length ≤ m) : (andThen r f).1.sure.length + (andThen r f).1.pend.length ≤ m := by
  unfold andThen
  split
  · omega
  · exact hf _ h
theorem sPut_len (len : α → Nat) (z : α) (d : Dk α) (n : Bs) (v : α) : (sPut len z d n v).1.sure.length + (sPut len z d n v).1.pend.length ≤ d.sure.length + d.pend.length + 4 := by
  unfold sPut
  split
  · dsimp only; omega
  · exact andThen_len (opd_len (Opd.write len d _ v) (Nat.le_refl _)) (by omega) fun d h => andThen_len (opd_len (Opd.sync d) h) (by omega) fun d h => andThen_len (opd_len (Opd.rename z d _ _) h) (by omega) fun d h => opd_len (Opd.sync d) h
theorem sDelete_len (z : α) (d : Dk α) (n : Bs) : (sDelete z d n).1.sure.length + (sDelete z d n).1.pend.length ≤ d.sure.length + d.pend.length + 2 := by
  unfold sDelete
  split
  · dsimp only; omega
  · exact andThen_len (opd_len (Opd.remove z d _) (Nat.le_refl _)) (by omega) fun d h => opd_len (Opd.sync d) h
theorem sSweep_len {z : α} : ∀ (l : List Bs) (d : Dk α) (b : Bool), (sSweep z l d b).1.sure.length + (sSweep z l d b).1.pend.length ≤ d.sure.length + d.pend.length + l.length
  | [], d, b => Nat.le_refl _
  | n :: r, d, b => by
    have h1 := opd_len (Opd.remove z d n) (Nat.le_refl _)
    have h2 := sSweep_len (z := z) r (dRemove z d n).1 true
    have h3 := sSweep_len (z := z) r d b
    unfold sSweep
    split
    · split
      · dsimp only; simp only [List.length_cons]; omega
      · simp only [List.length_cons]; omega
    · simp only [List.length_cons]; omega
theorem gdel_le {l : List (Bs × α)} (k : Bs) : (gdel k l).length ≤ l.length := List.length_filter_le _ _
theorem remove_shown {z : α} (d : Dk α) (n : Bs) : (dRemove z d n).1.shown.length ≤ d.shown.length := by
  obtain ⟨s1, s2, -, -⟩ := dWorks_same d
  have hs : (dWorks d).1.shown = d.shown := by unfold Dk.shown; rw [s1, s2]
  unfold dRemove
  split
  · rw [hs]; exact Nat.le_refl _
  · split
    · dsimp only; rw [hs]; exact Nat.le_refl _
    · split
      · dsimp only; rw [hs]; exact Nat.le_refl _
      · dsimp only
        rw [shown_add, hs]
        cases hg : gget n d.shown with
        | none => rw [fdo_n (show (2 : Nat) ≠ 0 by decide) hg]; exact Nat.le_refl _
        | some v => rw [fdo_d (show (2 : Nat) ≠ 0 by decide) (show (2 : Nat) ≠ 1 by decide) hg]; exact gdel_le n
theorem sSweep_shown {z : α} : ∀ (l : List Bs) (d : Dk α) (b : Bool), (sSweep z l d b).1.shown.length ≤ d.shown.length
  | [], d, b => Nat.le_refl _
  | n :: r, d, b => by
    have h1 := remove_shown (z := z) d n
    have h2 := sSweep_shown (z := z) r (dRemove z d n).1 true
    have h3 := sSweep_shown (z := z) r d b
    unfold sSweep
    split
    · split
      · exact h1
      · omega
    · exact h3
theorem sSweep_same {z : α} : ∀ (l : List Bs) (d : Dk α) (b : Bool), (sSweep z l d b).2.1 = 0 → (sSweep z l d b).2.2 = false → b = false ∧ (sSweep z l d b).1 = d
  | [], d, b, _, h => ⟨h, rfl⟩
  | n :: r, d, b, h0, h => by
    have h2 := sSweep_same (z := z) r (dRemove z d n).1 true
    have h3 := sSweep_same (z := z) r d b
    by_cases hb : isBegun n = true
    · by_cases h9 : (dRemove z d n).2 ≠ 0
      · have e : sSweep z (n :: r) d b = ((dRemove z d n).1, (dRemove z d n).2, b) := by
          conv => lhs; unfold sSweep
          rw [if_pos hb, if_pos h9]
        rw [e] at h0
        exact absurd h0 h9
      · have e : sSweep z (n :: r) d b = sSweep z r (dRemove z d n).1 true := by
          conv => lhs; unfold sSweep
          rw [if_pos hb, if_neg h9]
        rw [e] at h0 h
        exact absurd (h2 h0 h).1 (by simp)
    · have e : sSweep z (n :: r) d b = sSweep z r d b := by
        conv => lhs; unfold sSweep
        rw [if_neg hb]
      rw [e] at h0 h ⊢
      exact h3 h0 h
/-- an opened store's disk has no more than there was -/
theorem sOpen_len {z : α} {d : Dk α} (h : (sOpen z d).2 = 0) : (sOpen z d).1.sure.length + (sOpen z d).1.pend.length ≤ d.sure.length + d.pend.length := by
  have hsh : d.shown.length ≤ d.sure.length + d.pend.length := flen_dos d.sure d.pend
  have h1 := sSweep_shown (z := z) (names d.shown) d false
  have h2 := sSweep_same (z := z) (names d.shown) d false
  unfold sOpen at *
  generalize sSweep z (names d.shown) d false = s at *
  split at h
  · cases h
  · rename_i hd
    rw [if_neg hd]
    split at h
    · rename_i h0
      exact absurd h h0
    · rename_i h0
      rw [if_neg h0]
      have h0' : s.2.1 = 0 := Decidable.byContradiction h0
      cases hb : s.2.2 with
      | false =>
        rw [if_neg (by simp)]
        obtain ⟨-, e⟩ := h2 h0' hb
        dsimp only
        rw [e]
        exact Nat.le_refl _
      | true =>
        rw [hb, if_pos rfl] at h
        rw [if_pos rfl]
        unfold dSync at *
        split at h
        · rename_i h9
          exact absurd h h9
        · rename_i h9
          rw [if_neg h9]
          dsimp only
          simp
          omega
theorem sOpen_len2 (z : α) (d : Dk α) : (sOpen z d).1.sure.length + (sOpen z d).1.pend.length ≤ 2 * (d.sure.length + d.pend.length) + 1 := by
  have hsh : d.shown.length ≤ d.sure.length + d.pend.length := flen_dos d.sure d.pend
  have hn : (names d.shown).length = d.shown.length := List.length_map ..
  have h1 := sSweep_len (z := z) (names d.shown) d false
  unfold sOpen
  generalize sSweep z (names d.shown) d false = s at *
  split
  · dsimp only; omega
  · split
    · dsimp only; omega
    · split
      · have := opd_len (Opd.sync s.1) (Nat.le_refl _)
        omega
      · dsimp only; omega
end
theorem Fok.andThen {r : Dk Sv × Nat} {f : Dk Sv → Dk Sv × Nat} (h : Fok r.1) (hf : ∀ d, Fok d → Fok (f d).1) : Fok (Go.Proofs.YtddmfoldnlafaaaGreatDoor.andThen r f).1 := by
  unfold Go.Proofs.YtddmfoldnlafaaaGreatDoor.andThen
  split
  · exact h
  · exact hf _ h
theorem Fok.put {d : Dk Sv} (h : Fok d) (n : Bs) (v : Sv) : Fok (sPut svl Sv.nil d n v).1 := by
  unfold sPut
  split
  · exact h
  · exact Fok.andThen (h.opd (Opd.write svl d _ v)) fun d h => Fok.andThen (h.opd (Opd.sync d)) fun d h => Fok.andThen (h.opd (Opd.rename Sv.nil d _ _)) fun d h => h.opd (Opd.sync d)
theorem Fok.del {d : Dk Sv} (h : Fok d) (n : Bs) : Fok (sDelete Sv.nil d n).1 := by
  unfold sDelete
  split
  · exact h
  · exact Fok.andThen (h.opd (Opd.remove Sv.nil d _)) fun d h => h.opd (Opd.sync d)
theorem Fok.sweep : ∀ (l : List Bs) {d : Dk Sv} (b : Bool), Fok d → Fok (sSweep Sv.nil l d b).1
  | [], d, b, h => h
  | n :: r, d, b, h => by
    unfold sSweep
    split
    · split
      · exact h.opd (Opd.remove Sv.nil d n)
      · exact Fok.sweep r true (h.opd (Opd.remove Sv.nil d n))
    · exact Fok.sweep r b h
theorem Fok.open_ {d : Dk Sv} (h : Fok d) : Fok (sOpen Sv.nil d).1 := by
  unfold sOpen
  split
  · exact h
  · split
    · exact Fok.sweep _ _ h
    · split
      · exact (Fok.sweep _ _ h).opd (Opd.sync _)
      · exact Fok.sweep _ _ h
/-- what an act on a disk leaves -/
def Opn (d : Dk Sv) (r : Dk Sv × Nat) : Prop := Opd d r ∧ (Nmd d → Nmd r.1)
end Go.Proofs.YtddmfoldnlafaaaGreatDoor

namespace Go.Proofs.YtddmfoldnlafaaaGreatDoor
open Go.RowKit Go.Maps Go.Sort

section
variable {α : Type}
theorem dWorks_up (room : Int) (S : List (Bs × α)) (p : List (Chg α)) (fuse : Int) : (∃ f, dWorks (⟨room, S, p, fuse, false⟩ : Dk α) = (⟨room, S, p, f, false⟩, 0)) ∨ dWorks (⟨room, S, p, fuse, false⟩ : Dk α) = (⟨room, S, p, fuse, true⟩, 14) := by
  unfold dWorks
  dsimp only
  rw [if_neg (by simp)]
  split
  · exact .inr rfl
  · split
    · exact .inl ⟨_, rfl⟩
    · exact .inl ⟨_, rfl⟩
theorem snamed_named {n : Bs} (h : snamed n = true) : named n = true := by
  unfold snamed at h
  simp only [Bool.and_eq_true] at h
  exact h.1.2
theorem snamed_off {n : Bs} (h : snamed n = true) : 126 ∉ n := by
  unfold snamed at h
  simp only [Bool.and_eq_true] at h
  simpa using h.2
theorem isBegun_begun (n : Bs) : isBegun (begun n) = true := by
  unfold begun
  rw [begun_head]
  decide
theorem snamed_begun {n : Bs} (h : snamed n = true) : isBegun n = false := by
  have h1 := snamed_off h
  have h2 := snamed_named h
  cases n with
  | nil => cases h2
  | cons b r =>
    rw [begun_head]
    have : ¬ (126 : UInt8) = b := fun e => h1 (by rw [e]; simp)
    simpa using this
theorem named_begun {n : Bs} (h : snamed n = true) : named (begun n) = true := by
  have h2 := snamed_named h
  have h3 := snamed_len h
  unfold named begun at *
  simp only [Bool.and_eq_true, decide_eq_true_eq, List.length_cons, List.all_cons] at *
  exact ⟨⟨by omega, by omega⟩, by decide, h2.2⟩
theorem begun_ne {n : Bs} (h : snamed n = true) : n ≠ begun n := fun e => by
  have h1 := snamed_begun h
  rw [e, isBegun_begun] at h1
  cases h1
/-- the changes of a put, as far as they came -/
def putW (n : Bs) (v : α) : Chg α := ⟨0, begun n, [], v⟩
def putR (z : α) (n : Bs) : Chg α := ⟨1, begun n, n, z⟩
/-- what a put leaves of a disk that is up and has nothing pending -/
inductive PutR (z : α) (room : Int) (S : List (Bs × α)) (n : Bs) (v : α) : Dk α × Nat → Prop where
  | done (f : Int) (hs : snamed n = true) : PutR z room S n v (⟨room, fdo (fdo S (putW n v)) (putR z n), [], f, false⟩, 0)
  | left (f : Int) (k : Nat) (h0 : k ≠ 0) (h1 : k ≠ 14) : PutR z room S n v (⟨room, S, [], f, false⟩, k)
  | down0 (f : Int) (hs : snamed n = true) : PutR z room S n v (⟨room, S, [], f, true⟩, 14)
  | down1 (f : Int) (hs : snamed n = true) : PutR z room S n v (⟨room, S, [putW n v], f, true⟩, 14)
  | down2 (f : Int) (hs : snamed n = true) : PutR z room S n v (⟨room, fdo S (putW n v), [], f, true⟩, 14)
  | down3 (f : Int) (hs : snamed n = true) : PutR z room S n v (⟨room, fdo S (putW n v), [putR z n], f, true⟩, 14)
theorem andThen_ok (d : Dk α) (f : Dk α → Dk α × Nat) : andThen (d, 0) f = f d := if_neg (by simp)
theorem andThen_bad (d : Dk α) {k : Nat} (h : k ≠ 0) (f : Dk α → Dk α × Nat) : andThen (d, k) f = (d, k) := if_pos h
theorem sync_up (room : Int) (S : List (Bs × α)) (p : List (Chg α)) (fuse : Int) : (∃ f, dSync (⟨room, S, p, fuse, false⟩ : Dk α) = (⟨room, fdos S p, [], f, false⟩, 0)) ∨ dSync (⟨room, S, p, fuse, false⟩ : Dk α) = (⟨room, S, p, fuse, true⟩, 14) := by
  unfold dSync
  rcases dWorks_up room S p fuse with ⟨f, e⟩ | e
  · rw [e]
    exact .inl ⟨f, if_neg (by simp)⟩
  · rw [e]
    exact .inr (if_pos (by simp))
theorem write_up (len : α → Nat) (room : Int) (S : List (Bs × α)) (fuse : Int) {n : Bs} (v : α) (hn : named n = true) : (∃ f, dWrite len (⟨room, S, [], fuse, false⟩ : Dk α) n v = (⟨room, S, [⟨0, n, [], v⟩], f, false⟩, 0)) ∨ (∃ f k, k ≠ 0 ∧ k ≠ 14 ∧ dWrite len (⟨room, S, [], fuse, false⟩ : Dk α) n v = (⟨room, S, [], f, false⟩, k)) ∨ dWrite len (⟨room, S, [], fuse, false⟩ : Dk α) n v = (⟨room, S, [], fuse, true⟩, 14) := by
  unfold dWrite
  rcases dWorks_up room S [] fuse with ⟨f, e⟩ | e
  · rw [e, if_neg (by simp), if_neg (by simp [hn])]
    split
    · exact .inr (.inl ⟨f, 3, by decide, by decide, rfl⟩)
    split
    · exact .inr (.inl ⟨f, 5, by decide, by decide, rfl⟩)
    · exact .inl ⟨f, rfl⟩
  · rw [e]
    exact .inr (.inr (if_pos (by simp)))
theorem rename_up (z : α) (room : Int) (S : List (Bs × α)) (fuse : Int) {n t : Bs} (hn : named n = true) (ht : named t = true) (hg : (gget n S).isSome = true) : (∃ f, dRename z (⟨room, S, [], fuse, false⟩ : Dk α) n t = (⟨room, S, [⟨1, n, t, z⟩], f, false⟩, 0)) ∨ dRename z (⟨room, S, [], fuse, false⟩ : Dk α) n t = (⟨room, S, [], fuse, true⟩, 14) := by
  have hsh : (⟨room, S, [], fuse, false⟩ : Dk α).shown = S := rfl
  unfold dRename
  rw [hsh]
  rcases dWorks_up room S [] fuse with ⟨f, e⟩ | e
  · rw [e, if_neg (by simp), if_neg (by simp [hn, ht])]
    cases h : gget n S with
    | none => rw [h] at hg; cases hg
    | some u => exact .inl ⟨f, if_neg (by simp)⟩
  · rw [e]
    exact .inr (if_pos (by simp))
theorem remove_up (z : α) (room : Int) (S : List (Bs × α)) (fuse : Int) {n : Bs} (hn : named n = true) : ((gget n S).isSome = true ∧ ∃ f, dRemove z (⟨room, S, [], fuse, false⟩ : Dk α) n = (⟨room, S, [⟨2, n, [], z⟩], f, false⟩, 0)) ∨ (∃ f k, k ≠ 0 ∧ k ≠ 14 ∧ dRemove z (⟨room, S, [], fuse, false⟩ : Dk α) n = (⟨room, S, [], f, false⟩, k)) ∨ dRemove z (⟨room, S, [], fuse, false⟩ : Dk α) n = (⟨room, S, [], fuse, true⟩, 14) := by
  have hsh : (⟨room, S, [], fuse, false⟩ : Dk α).shown = S := rfl
  unfold dRemove
  rw [hsh]
  rcases dWorks_up room S [] fuse with ⟨f, e⟩ | e
  · rw [e, if_neg (by simp), if_neg (by simp [hn])]
    cases h : gget n S with
    | none => exact .inr (.inl ⟨f, 4, by decide, by decide, if_pos (by simp)⟩)
    | some u => exact .inl ⟨rfl, f, if_neg (by simp)⟩
  · rw [e]
    exact .inr (.inr (if_pos (by simp)))
theorem put_r (len : α → Nat) (z : α) (room : Int) (S : List (Bs × α)) (fuse : Int) {n : Bs} (v : α) : PutR z room S n v (sPut len z ⟨room, S, [], fuse, false⟩ n v) := by
  unfold sPut
  cases hs : snamed n with
  | false => rw [if_pos rfl]; exact .left _ _ (by decide) (by decide)
  | true =>
    rw [if_neg (by simp)]
    have hb := named_begun hs
    have hn := snamed_named hs
    rcases write_up len room S fuse v hb with ⟨f, e⟩ | ⟨f, k, h0, h1, e⟩ | e
    · rw [e, andThen_ok]
      rcases sync_up room S [putW n v] f with ⟨f2, e2⟩ | e2
      · unfold putW at e2
        rw [e2, andThen_ok]
        have hg : (gget (begun n) (fdo S (putW n v))).isSome = true := by
          rw [fdo_w rfl]
          show (gget (begun n) (gput (begun n) v S)).isSome = true
          rw [gget_put_same]
          rfl
        rcases rename_up z room (fdo S (putW n v)) f2 hb hn hg with ⟨f3, e3⟩ | e3
        · show PutR z room S n v (andThen (dRename z ⟨room, fdo S (putW n v), [], f2, false⟩ (begun n) n) dSync)
          rw [e3, andThen_ok]
          rcases sync_up room (fdo S (putW n v)) [putR z n] f3 with ⟨f4, e4⟩ | e4
          · unfold putR at e4
            rw [e4]
            exact .done f4 hs
          · unfold putR at e4
            rw [e4]
            exact .down3 f3 hs
        · show PutR z room S n v (andThen (dRename z ⟨room, fdo S (putW n v), [], f2, false⟩ (begun n) n) dSync)
          rw [e3, andThen_bad _ (by decide)]
          exact .down2 f2 hs
      · unfold putW at e2
        rw [e2, andThen_bad _ (by decide)]
        exact .down1 f hs
    · rw [e, andThen_bad _ h0]
      exact .left f k h0 h1
    · rw [e, andThen_bad _ (by decide)]
      exact .down0 fuse hs
inductive DelR (z : α) (room : Int) (S : List (Bs × α)) (n : Bs) : Dk α × Nat → Prop where
  | done (f : Int) (h : (gget n S).isSome = true) (hs : snamed n = true) : DelR z room S n (⟨room, fdo S ⟨2, n, [], z⟩, [], f, false⟩, 0)
  | left (f : Int) (k : Nat) (h0 : k ≠ 0) (h1 : k ≠ 14) : DelR z room S n (⟨room, S, [], f, false⟩, k)
  | down0 (f : Int) (hs : snamed n = true) : DelR z room S n (⟨room, S, [], f, true⟩, 14)
  | down1 (f : Int) (hs : snamed n = true) : DelR z room S n (⟨room, S, [⟨2, n, [], z⟩], f, true⟩, 14)
theorem del_r (z : α) (room : Int) (S : List (Bs × α)) (fuse : Int) {n : Bs} : DelR z room S n (sDelete z ⟨room, S, [], fuse, false⟩ n) := by
  unfold sDelete
  cases hs : snamed n with
  | false => rw [if_pos rfl]; exact .left _ _ (by decide) (by decide)
  | true =>
    rw [if_neg (by simp)]
    rcases remove_up z room S fuse (snamed_named hs) with ⟨hg, f, e⟩ | ⟨f, k, h0, h1, e⟩ | e
    · rw [e, andThen_ok]
      rcases sync_up room S [⟨2, n, [], z⟩] f with ⟨f2, e2⟩ | e2
      · rw [e2]
        exact .done f2 hg hs
      · rw [e2]
        exact .down1 f hs
    · rw [e, andThen_bad _ h0]
      exact .left f k h0 h1
    · rw [e, andThen_bad _ (by decide)]
      exact .down0 fuse hs
theorem Ris.same {l l' : List (Bs × α)} (h : Ris l) (h' : Ris l') (he : ∀ x, gget x l = gget x l') : l = l' :=
  h.ext h' fun p => ⟨fun hp => gget_mem (by rw [← he]; exact gget_of_mem h hp), fun hp => gget_mem (by rw [he]; exact gget_of_mem h' hp)⟩
/-- all names are objects' names -/
def Sna (S : List (Bs × α)) : Prop := ∀ x, snamed x = false → gget x S = none
theorem Sna.begun {S : List (Bs × α)} (h : Sna S) {x : Bs} (hb : isBegun x = true) : gget x S = none := by
  refine h x ?_
  cases hs : snamed x with
  | false => rfl
  | true => rw [snamed_begun hs] at hb; cases hb
theorem Sna.put {S : List (Bs × α)} (h : Sna S) {n : Bs} (hn : snamed n = true) (v : α) : Sna (gput n v S) := fun x hx => by
  rw [gget_put_other v (show x ≠ n from fun e => by rw [e, hn] at hx; cases hx)]
  exact h x hx
theorem Sna.del {S : List (Bs × α)} (h : Sna S) (n : Bs) : Sna (gdel n S) := fun x hx => by
  rcases Decidable.em (x = n) with e | e
  · rw [e]; exact gget_del_same _ _
  · rw [gget_del_other e]
    exact h x hx
theorem gdel_begun {S : List (Bs × α)} (hr : Ris S) (h : Sna S) (n : Bs) (v : α) : gdel (begun n) (gput (begun n) v S) = S :=
  Ris.same ((hr.put _ _).del _) hr fun x => by
    rcases Decidable.em (x = begun n) with e | e
    · rw [e, gget_del_same, h.begun (isBegun_begun n)]
    · rw [gget_del_other e, gget_put_other v e]
theorem fdo_putW (S : List (Bs × α)) (n : Bs) (v : α) : fdo S (putW n v) = gput (begun n) v S := fdo_w (x := putW n v) rfl
theorem put_two {S : List (Bs × α)} (hr : Ris S) (h : Sna S) (z : α) (n : Bs) (v : α) : fdo (fdo S (putW n v)) (putR z n) = gput n v S := by
  rw [fdo_putW]
  rw [fdo_r (x := putR z n) (b := v) rfl (gget_put_same (begun n) v S)]
  show gput n v (gdel (begun n) (gput (begun n) v S)) = _
  rw [gdel_begun hr h]
theorem names_of {S : List (Bs × α)} (h : Sna S) : ∀ x ∈ names S, named x = true := fun x hx => by
  obtain ⟨p, hp, rfl⟩ := List.mem_map.1 hx
  cases hs : snamed p.1 with
  | true => exact snamed_named hs
  | false =>
    have h1 := h _ hs
    rw [gget_none] at h1
    exact absurd rfl (h1 p hp)
/-- a disk started anew and opened: what is swept -/
theorem swept_none {z : α} : ∀ (l : List Bs) (d : Dk α), (sSweep z l d false).2.2 = false → (sSweep z l d false).2.1 = 0 → (sSweep z l d false).1 = d
  | [], d, _, _ => rfl
  | n :: r, d, h1, h2 => by
    unfold sSweep at *
    split at h1
    · rename_i hb
      rw [if_pos hb] at h2 ⊢
      split at h1
      · rename_i hk
        rw [if_pos hk] at h2
        exact absurd h2 hk
      · exact absurd h1 (by rw [swept_true]; simp)
    · rename_i hb
      rw [if_neg hb] at h2 ⊢
      exact swept_none r d h1 h2
where swept_true {z : α} : ∀ (l : List Bs) (d : Dk α), (sSweep z l d true).2.2 = true
  | [], d => rfl
  | n :: r, d => by
    unfold sSweep
    split
    · split
      · rfl
      · exact swept_true r _
    · exact swept_true r d
theorem open_up {z : α} {room : Int} {S1 S : List (Bs × α)} (hr : Ris S1) (hs : Ris S) (hS : Sna S) (hn : ∀ x ∈ names S1, named x = true) (he : ∀ x, isBegun x = false → gget x S1 = gget x S) :
    ∃ d2, sOpen z (⟨room, S1, [], -1, false⟩ : Dk α) = (d2, 0) ∧ Fre d2 ∧ d2.pend = [] ∧ (Ris d2.sure → d2.sure = S) := by
  obtain ⟨d2, h1, h2, h3, h4⟩ := open_ok (z := z) (d := ⟨room, S1, [], -1, false⟩) ⟨rfl, rfl⟩ hr hn
  have hsh : (⟨room, S1, [], -1, false⟩ : Dk α).shown = S1 := rfl
  rw [hsh] at h3
  have hp : d2.pend = [] := by
    unfold sOpen at h1
    rw [if_neg (by simp)] at h1
    split at h1
    · rename_i hk
      have h5 := congrArg Prod.snd h1
      exact absurd h5 hk
    · rename_i hk
      split at h1
      · have h6 := congrArg Prod.fst h1
        dsimp only at h6
        rw [← h6]
        have h7 := congrArg Prod.snd h1
        unfold dSync at h7 ⊢
        split
        · rename_i hw
          rw [if_pos hw] at h7
          exact absurd h7 hw
        · rfl
      · rename_i hb
        have h6 := congrArg Prod.fst h1
        dsimp only at h6
        rw [swept_none _ _ (by simpa using hb) (by simpa using hk)] at h6
        rw [← h6]
  have hsr : d2.shown = d2.sure := shown_nil hp
  refine ⟨d2, h1, h2, hp, fun h0 => Ris.same h0 hs fun x => ?_⟩
  rw [← hsr, h3 x]
  cases hb : isBegun x with
  | true => rw [if_pos rfl, hS.begun hb]
  | false => rw [if_neg (by simp)]; exact he x hb
/-- what an act that turns S into T leaves of a disk that is up and has nothing pending -/
inductive Out (z : α) (S T : List (Bs × α)) (n : Bs) : Dk α × Nat → Prop where
  | done (d : Dk α) (hd : d.down = false) (hp : d.pend = []) (hs : d.sure = T) (hn : snamed n = true) : Out z S T n (d, 0)
  | left (d : Dk α) (hd : d.down = false) (hp : d.pend = []) (hs : d.sure = S) (k : Nat) (h0 : k ≠ 0) (h1 : k ≠ 14) : Out z S T n (d, k)
  | down (d : Dk α) (hd : d.down = true) (hn : snamed n = true) (hl : d.sure.length + d.pend.length ≤ S.length + 2) (h : ∀ ks, ∃ d2, sOpen z (dStart (dCut ks d)) = (d2, 0) ∧ Fre d2 ∧ d2.pend = [] ∧ (Ris d2.sure → d2.sure = S ∨ d2.sure = T)) : Out z S T n (d, 14)
theorem kept_one (ks : List Bool) (c : Chg α) : kept ks [c] = [] ∨ kept ks [c] = [c] := by
  cases ks with
  | nil => exact .inl (kept_none _)
  | cons b r =>
    rw [kept_cons, kept_nil]
    cases b
    · exact .inl rfl
    · exact .inr rfl
theorem cutlen (ks : List Bool) (d : Dk α) : (dCut ks d).sure.length ≤ d.sure.length + d.pend.length := by
  have h1 := flen_dos d.sure (kept ks d.pend)
  have h2 := kept_len ks d.pend
  show (fdos d.sure (kept ks d.pend)).length ≤ _
  omega
theorem start_cut (ks : List Bool) (room : Int) (S : List (Bs × α)) (p : List (Chg α)) (f : Int) : dStart (dCut ks (⟨room, S, p, f, true⟩ : Dk α)) = ⟨room, fdos S (kept ks p), [], -1, false⟩ := by
  unfold dStart dCut
  exact if_pos rfl
theorem off_put {n : Bs} {S : List (Bs × α)} {v : α} {x : Bs} (hb : isBegun x = false) : gget x (gput (begun n) v S) = gget x S :=
  gget_put_other v (fun e => by rw [e, isBegun_begun] at hb; cases hb) S
theorem names_begun {S : List (Bs × α)} (h : Sna S) {n : Bs} (hn : snamed n = true) (v : α) : ∀ x ∈ names (gput (begun n) v S), named x = true := fun x hx => by
  obtain ⟨p, hp, rfl⟩ := List.mem_map.1 hx
  rcases gmem_put.1 hp with rfl | ⟨h1, -⟩
  · exact named_begun hn
  · exact names_of h _ (List.mem_map.2 ⟨p, h1, rfl⟩)
theorem put_out (len : α → Nat) (z : α) {d : Dk α} (hd : d.down = false) (hp : d.pend = []) (hr : Ris d.sure) (h : Sna d.sure) (n : Bs) (v : α) : Out z d.sure (gput n v d.sure) n (sPut len z d n v) := by
  obtain ⟨room, S, p, fuse, dn⟩ := d
  dsimp only at *
  subst hd hp
  have hR := put_r len z room S fuse (n := n) v
  have old : ∀ S1, Ris S1 → (∀ x ∈ names S1, named x = true) → (∀ x, isBegun x = false → gget x S1 = gget x S) → ∃ d2, sOpen z (⟨room, S1, [], -1, false⟩ : Dk α) = (d2, 0) ∧ Fre d2 ∧ d2.pend = [] ∧ (Ris d2.sure → d2.sure = S ∨ d2.sure = gput n v S) := fun S1 h1 h2 h3 => by
    obtain ⟨d2, e1, e2, e3, e4⟩ := open_up (z := z) (room := room) h1 hr h h2 h3
    exact ⟨d2, e1, e2, e3, fun hx => .inl (e4 hx)⟩
  have o0 := old S hr (names_of h) (fun _ _ => rfl)
  have o1 := fun hn : snamed n = true => old (gput (begun n) v S) (hr.put _ _) (names_begun h hn v) (fun x hx => off_put hx)
  generalize sPut len z ⟨room, S, [], fuse, false⟩ n v = r at hR ⊢
  cases hR with
  | done f hn => exact .done _ rfl rfl (put_two hr h z n v) hn
  | left f k h0 h1 => exact .left ⟨room, S, [], f, false⟩ rfl rfl rfl k h0 h1
  | down0 f hn =>
    refine .down _ rfl hn (by simp <;> omega) fun ks => ?_
    rw [start_cut, kept_nil]
    exact o0
  | down1 f hn =>
    refine .down _ rfl hn (by simp <;> omega) fun ks => ?_
    rw [start_cut]
    rcases kept_one ks (putW n v) with e | e
    · rw [e]; exact o0
    · rw [e]
      show ∃ d2, sOpen z (⟨room, fdo S (putW n v), [], -1, false⟩ : Dk α) = (d2, 0) ∧ _
      rw [fdo_putW]
      exact o1 hn
  | down2 f hn =>
    refine .down _ rfl hn (by rw [fdo_putW]; have := glen_put (begun n) v S; simp; omega) fun ks => ?_
    rw [start_cut, kept_nil]
    show ∃ d2, sOpen z (⟨room, fdo S (putW n v), [], -1, false⟩ : Dk α) = (d2, 0) ∧ _
    rw [fdo_putW]
    exact o1 hn
  | down3 f hn =>
    refine .down _ rfl hn (by rw [fdo_putW]; have := glen_put (begun n) v S; simp; omega) fun ks => ?_
    rw [start_cut]
    rcases kept_one ks (putR z n) with e | e
    · rw [e]
      show ∃ d2, sOpen z (⟨room, fdo S (putW n v), [], -1, false⟩ : Dk α) = (d2, 0) ∧ _
      rw [fdo_putW]
      exact o1 hn
    · rw [e]
      show ∃ d2, sOpen z (⟨room, fdo (fdo S (putW n v)) (putR z n), [], -1, false⟩ : Dk α) = (d2, 0) ∧ _
      rw [put_two hr h]
      obtain ⟨d2, e1, e2, e3, e4⟩ := open_up (z := z) (room := room) (hr.put n v) (hr.put n v) (h.put hn v) (names_of (h.put hn v)) (fun _ _ => rfl)
      exact ⟨d2, e1, e2, e3, fun hx => .inr (e4 hx)⟩
theorem fdo_del (z : α) (S : List (Bs × α)) (hr : Ris S) (n : Bs) : fdo S ⟨2, n, [], z⟩ = gdel n S := by
  cases hg : gget n S with
  | none =>
    rw [fdo_n (show (2 : Nat) ≠ 0 by decide) hg]
    refine Ris.same hr (hr.del n) fun x => ?_
    rcases Decidable.em (x = n) with e | e
    · rw [e, hg, gget_del_same]
    · rw [gget_del_other e]
  | some u => exact fdo_d (show (2 : Nat) ≠ 0 by decide) (show (2 : Nat) ≠ 1 by decide) hg
theorem del_out (z : α) {d : Dk α} (hd : d.down = false) (hp : d.pend = []) (hr : Ris d.sure) (h : Sna d.sure) (n : Bs) : Out z d.sure (gdel n d.sure) n (sDelete z d n) := by
  obtain ⟨room, S, p, fuse, dn⟩ := d
  dsimp only at *
  subst hd hp
  have hR := del_r z room S fuse (n := n)
  have o0 : ∃ d2, sOpen z (⟨room, S, [], -1, false⟩ : Dk α) = (d2, 0) ∧ Fre d2 ∧ d2.pend = [] ∧ (Ris d2.sure → d2.sure = S ∨ d2.sure = gdel n S) := by
    obtain ⟨d2, e1, e2, e3, e4⟩ := open_up (z := z) (room := room) hr hr h (names_of h) (fun _ _ => rfl)
    exact ⟨d2, e1, e2, e3, fun hx => .inl (e4 hx)⟩
  generalize sDelete z ⟨room, S, [], fuse, false⟩ n = r at hR ⊢
  cases hR with
  | done f hg hn => exact .done _ rfl rfl (fdo_del z S hr n) hn
  | left f k h0 h1 => exact .left ⟨room, S, [], f, false⟩ rfl rfl rfl k h0 h1
  | down0 f hn =>
    refine .down _ rfl hn (by simp <;> omega) fun ks => ?_
    rw [start_cut, kept_nil]
    exact o0
  | down1 f hn =>
    refine .down _ rfl hn (by simp <;> omega) fun ks => ?_
    rw [start_cut]
    rcases kept_one ks (⟨2, n, [], z⟩ : Chg α) with e | e
    · rw [e]; exact o0
    · rw [e]
      show ∃ d2, sOpen z (⟨room, fdo S ⟨2, n, [], z⟩, [], -1, false⟩ : Dk α) = (d2, 0) ∧ _
      rw [fdo_del z S hr]
      obtain ⟨d2, e1, e2, e3, e4⟩ := open_up (z := z) (room := room) (hr.del n) (hr.del n) (h.del n) (names_of (h.del n)) (fun _ _ => rfl)
      exact ⟨d2, e1, e2, e3, fun hx => .inr (e4 hx)⟩
/-- a name's entry set, or set and struck out: the rows that differ at this name alone -/
theorem upd_some {n : Bs} {b : α} {l L : List (Bs × α)} (hl : Ris l) (hL : Ris L) (h : ∀ x, x ≠ n → gget x l = gget x L) (hb : gget n L = some b) : gput n b l = L :=
  Ris.same (hl.put _ _) hL fun x => by
    rcases Decidable.em (x = n) with e | e
    · rw [e, gget_put_same, hb]
    · rw [gget_put_other _ e, h x e]
theorem upd_none {n : Bs} (b : α) {l L : List (Bs × α)} (hl : Ris l) (hL : Ris L) (h : ∀ x, x ≠ n → gget x l = gget x L) (hb : gget n L = none) : gdel n (gput n b l) = L :=
  Ris.same ((hl.put _ _).del _) hL fun x => by
    rcases Decidable.em (x = n) with e | e
    · rw [e, gget_del_same, hb]
    · rw [gget_del_other e, gget_put_other _ e, h x e]
end
theorem was_put {S T : List (Bs × Sv)} (hS : Ris S) (hT : Ris T) {n : Bs} (he : ∀ x, x ≠ n → gget x S = gget x T) {b : Bs} (hb : (gget n T).map Sv.l = some b) : gput n b (gmap Sv.l S) = gmap Sv.l T :=
  upd_some (hS.map _) (hT.map _) (fun x hx => by rw [gget_map, gget_map, he x hx]) (by rw [gget_map, hb])
theorem was_del {S T : List (Bs × Sv)} (hS : Ris S) (hT : Ris T) {n : Bs} (he : ∀ x, x ≠ n → gget x S = gget x T) (b : Bs) (hb : gget n T = none) : gdel n (gput n b (gmap Sv.l S)) = gmap Sv.l T :=
  upd_none b (hS.map _) (hT.map _) (fun x hx => by rw [gget_map, gget_map, he x hx]) (by rw [gget_map, hb]; rfl)
theorem StM.grownMap {β : Type} {f : β → Value} {w0 w w' : World} {gs b : Nat} {q : Fp} {d : Dk Sv} {l : List (Bs × β)} (h : StM w gs q d) (hM : Mp f w0 q w b l) (hne : gs ≠ b) (hg : w.grownBy w' (some b)) : StM w' gs q d :=
  ⟨h.dsk.grownMap hM hg, (hg.block gs h.blk.lt (fun e => hne (by injection e))).trans h.blk, h.ap⟩
theorem sList_all {S : List (Bs × Sv)} (h : Sna S) : (names S).filter (sPick []) = names S := by
  refine List.filter_eq_self.2 fun x hx => ?_
  obtain ⟨p, hp, rfl⟩ := List.mem_map.1 hx
  have hs : snamed p.1 = true := by
    cases hs : snamed p.1 with
    | true => rfl
    | false =>
      have h1 := h _ hs
      rw [gget_none] at h1
      exact absurd rfl (h1 p hp)
  unfold sPick
  rw [hs]
  cases p.1 <;> rfl
end Go.Proofs.YtddmfoldnlafaaaGreatDoor

namespace Go.Proofs.YtddmfoldnlafaaaGreatDoor

theorem StPut_any : type_of% @SPut_any := @SPut_any
end Go.Proofs.YtddmfoldnlafaaaGreatDoor

namespace Go.Proofs.YtddmfoldnlafaaaGreatDoor
open Go.RowKit

/-- a digest -/
abbrev Dg := { l : List UInt8 // l.length = 32 }
def dg0 : Dg := ⟨List.replicate 32 0, by simp⟩
/-- a part: its first address, how many, its size, its digest -/
abbrev Pt5 := Int × Int × Int × Dg
/-- an error's number behind an address; then that of the rest, up to an end -/
def ptchk (p : Pt5) (a : Int) : Nat := if p.2.1 < 1 ∨ 64 < p.2.1 ∨ p.2.2.1 < 1 ∨ 65536 < p.2.2.1 then 1 else if p.1 ≠ a then 2 else 0
def pgo (z : Int) : Int → List Pt5 → Nat
  | a, [] => if a ≠ z then 2 else 0
  | a, p :: r => if ptchk p a ≠ 0 then ptchk p a else pgo z (a + p.2.1) r
/-- a manifest: its number, from, to, its trim, what came ahead, its parts -/
abbrev Mf := Int × Int × Int × Int × Dg × List Pt5
def inb (x m : Int) : Bool := decide (0 ≤ x) && decide (x ≤ m)
def mchk (m : Mf) : Nat :=
  if (!inb m.1 999999 || !inb m.2.1 1048576 || !inb m.2.2.1 1048576 || !inb m.2.2.2.1 1048576) = true then 1
  else if (decide (m.2.2.1 < m.2.1) || (m.1 == 0 && !decide (m.2.2.2.2.1 = dg0))) = true then 2
  else if 1024 < m.2.2.2.2.2.length then 3
  else pgo m.2.2.1 m.2.1 m.2.2.2.2.2
theorem ptchk_ok {p : Pt5} {a : Int} (h : ptchk p a = 0) : 1 ≤ p.2.1 ∧ p.2.1 ≤ 64 ∧ 1 ≤ p.2.2.1 ∧ p.2.2.1 ≤ 65536 ∧ p.1 = a := by
  unfold ptchk at h
  by_cases h1 : p.2.1 < 1 ∨ 64 < p.2.1 ∨ p.2.2.1 < 1 ∨ 65536 < p.2.2.1
  · rw [if_pos h1] at h; cases h
  rw [if_neg h1] at h
  by_cases h2 : p.1 ≠ a
  · rw [if_pos h2] at h; cases h
  exact ⟨by omega, by omega, by omega, by omega, Decidable.byContradiction h2⟩
theorem inb_iff {x m : Int} : inb x m = true ↔ 0 ≤ x ∧ x ≤ m := by unfold inb; simp
theorem mchk_ok {m : Mf} (h : mchk m = 0) : (0 ≤ m.1 ∧ m.1 ≤ 999999) ∧ (0 ≤ m.2.1 ∧ m.2.1 ≤ 1048576) ∧ (0 ≤ m.2.2.1 ∧ m.2.2.1 ≤ 1048576) ∧ (0 ≤ m.2.2.2.1 ∧ m.2.2.2.1 ≤ 1048576) ∧ m.2.1 ≤ m.2.2.1 ∧ (m.1 = 0 → m.2.2.2.2.1 = dg0) ∧ m.2.2.2.2.2.length ≤ 1024 ∧ pgo m.2.2.1 m.2.1 m.2.2.2.2.2 = 0 := by
  unfold mchk at h
  split at h
  · cases h
  rename_i h1
  split at h
  · cases h
  rename_i h2
  split at h
  · cases h
  rename_i h3
  simp only [Bool.or_eq_true, Bool.not_eq_true', not_or, Bool.not_eq_false, inb_iff] at h1
  simp only [Bool.or_eq_true, Bool.and_eq_true, Bool.not_eq_true', decide_eq_true_eq, decide_eq_false_iff_not, beq_iff_eq, not_or, not_and, Decidable.not_not] at h2
  exact ⟨h1.1.1.1, h1.1.1.2, h1.1.2, h1.2, by omega, h2.2, by omega, h⟩
/-- where the parts behind an address end -/
def pend : Int → List Pt5 → Int
  | a, [] => a
  | a, p :: r => pend (a + p.2.1) r
theorem pgo_end {z : Int} : ∀ {l : List Pt5} {a : Int}, pgo z a l = 0 → pend a l = z ∧ a ≤ z
  | [], a, h => by
    unfold pgo at h
    by_cases h1 : a ≠ z
    · rw [if_pos h1] at h; cases h
    · have : a = z := Decidable.byContradiction h1
      exact ⟨this, by omega⟩
  | p :: r, a, h => by
    unfold pgo at h
    by_cases h1 : ptchk p a ≠ 0
    · rw [if_pos h1] at h; exact absurd h h1
    rw [if_neg h1] at h
    obtain ⟨g1, _⟩ := ptchk_ok (Decidable.byContradiction h1)
    obtain ⟨h2, h3⟩ := pgo_end h
    exact ⟨h2, by omega⟩
/-- an address is in a part -/
def phit (x : Int) (p : Pt5) : Bool := decide (p.1 ≤ x) && decide (x < p.1 + p.2.1)
def pidx (x : Int) : List Pt5 → Int
  | [] => -1
  | p :: r => if phit x p then 0 else if pidx x r < 0 then -1 else pidx x r + 1
theorem phit_iff {x : Int} {p : Pt5} : phit x p = true ↔ p.1 ≤ x ∧ x < p.1 + p.2.1 := by unfold phit; simp
/-- behind an address all parts are later ones -/
theorem pgo_later {z x : Int} : ∀ {l : List Pt5} {a : Int}, pgo z a l = 0 → x < a → ∀ p ∈ l, phit x p = false
  | [], _, _, _ => fun p hp => by cases hp
  | q :: r, a, h, hx => fun p hp => by
    unfold pgo at h
    by_cases h1 : ptchk q a ≠ 0
    · rw [if_pos h1] at h; exact absurd h h1
    rw [if_neg h1] at h
    obtain ⟨g1, _, _, _, g5⟩ := ptchk_ok (Decidable.byContradiction h1)
    rcases List.mem_cons.1 hp with rfl | hp
    · rw [Bool.eq_false_iff]
      intro hh
      obtain ⟨h3, _⟩ := phit_iff.1 hh
      omega
    · exact pgo_later h (by omega) p hp
/-- how many parts an address is in -/
def pcnt (x : Int) (l : List Pt5) : Nat := (l.filter (phit x)).length
theorem pcnt_none {x : Int} {l : List Pt5} (h : ∀ p ∈ l, phit x p = false) : pcnt x l = 0 ∧ pidx x l = -1 := by
  induction l with
  | nil => exact ⟨rfl, rfl⟩
  | cons p r ih =>
    obtain ⟨i1, i2⟩ := ih fun q hq => h q (.tail _ hq)
    have hp := h p (.head _)
    refine ⟨?_, ?_⟩
    · unfold pcnt at i1 ⊢
      rw [List.filter_cons, hp]
      simpa using i1
    · unfold pidx
      rw [hp, i2]
      simp
/-- of right parts an address is in one, if it lies in between, and else in none -/
theorem pgo_one {z x : Int} : ∀ {l : List Pt5} {a : Int}, pgo z a l = 0 → (a ≤ x ∧ x < z → pcnt x l = 1 ∧ 0 ≤ pidx x l) ∧ (¬ (a ≤ x ∧ x < z) → pcnt x l = 0 ∧ pidx x l = -1)
  | [], a, h => by
    obtain ⟨h1, h2⟩ := pgo_end h
    unfold pend at h1
    exact ⟨fun h => by omega, fun _ => ⟨rfl, rfl⟩⟩
  | q :: r, a, h => by
    have h0 := h
    unfold pgo at h
    by_cases h1 : ptchk q a ≠ 0
    · rw [if_pos h1] at h; exact absurd h h1
    rw [if_neg h1] at h
    obtain ⟨g1, _, _, _, g5⟩ := ptchk_ok (Decidable.byContradiction h1)
    obtain ⟨i1, i2⟩ := pgo_one h
    have hend := (pgo_end h).2
    cases hq : phit x q
    · have hnq : ¬ (q.1 ≤ x ∧ x < q.1 + q.2.1) := by rw [← phit_iff, hq]; simp
      have hc : pcnt x (q :: r) = pcnt x r := by unfold pcnt; rw [List.filter_cons, hq]; simp
      have hd : pidx x (q :: r) = if pidx x r < 0 then -1 else pidx x r + 1 := by rw [pidx, hq]; simp
      refine ⟨fun hx => ?_, fun hx => ?_⟩
      · have hx2 : a + q.2.1 ≤ x ∧ x < z := ⟨by omega, hx.2⟩
        obtain ⟨j1, j2⟩ := i1 hx2
        rw [hc, hd, if_neg (by omega)]
        exact ⟨j1, by omega⟩
      · have hx2 : ¬ (a + q.2.1 ≤ x ∧ x < z) := fun hh => hx ⟨by omega, hh.2⟩
        obtain ⟨j1, j2⟩ := i2 hx2
        rw [hc, hd, if_pos (by omega)]
        exact ⟨j1, rfl⟩
    · obtain ⟨k1, k2⟩ := phit_iff.1 hq
      have hlt := pgo_later h (x := x) (by omega)
      obtain ⟨j1, _⟩ := pcnt_none hlt
      refine ⟨fun _ => ⟨?_, ?_⟩, fun hx => absurd (show a ≤ x ∧ x < z from ⟨by omega, by omega⟩) hx⟩
      · unfold pcnt at j1 ⊢
        rw [List.filter_cons, hq]
        simpa using j1
      · rw [pidx, hq]; simp
/-- the part that an address is in is the one that is told -/
theorem pidx_hit {z x : Int} : ∀ {l : List Pt5} {a : Int} {k : Nat} (hk : k < l.length), pgo z a l = 0 → phit x l[k] = true → pidx x l = k
  | q :: r, a, 0, _, _, hh => by
    rw [List.getElem_cons_zero] at hh
    rw [pidx, hh]; simp
  | q :: r, a, k + 1, hk, h, hh => by
    rw [List.getElem_cons_succ] at hh
    unfold pgo at h
    by_cases h1 : ptchk q a ≠ 0
    · rw [if_pos h1] at h; exact absurd h h1
    rw [if_neg h1] at h
    obtain ⟨g1, _, _, _, g5⟩ := ptchk_ok (Decidable.byContradiction h1)
    have ih := pidx_hit (by simpa using hk) h hh
    have hnq : phit x q = false := by
      rw [Bool.eq_false_iff]
      intro hq
      obtain ⟨k1, k2⟩ := phit_iff.1 hq
      have := pgo_later h (x := x) (by omega) _ (List.getElem_mem (by simpa using hk))
      rw [hh] at this
      cases this
    rw [pidx, hnq, ih]
    rw [if_neg (by simp), if_neg (by omega)]
    simp
theorem pidx_ge (x : Int) : ∀ l : List Pt5, -1 ≤ pidx x l ∧ pidx x l < l.length
  | [] => by simp [pidx]
  | p :: r => by
    have := pidx_ge x r
    unfold pidx
    split
    · exact ⟨by omega, by simp only [List.length_cons]; omega⟩
    · split
      · exact ⟨by omega, by simp only [List.length_cons]; omega⟩
      · exact ⟨by omega, by simp only [List.length_cons]; omega⟩
end Go.Proofs.YtddmfoldnlafaaaGreatDoor
