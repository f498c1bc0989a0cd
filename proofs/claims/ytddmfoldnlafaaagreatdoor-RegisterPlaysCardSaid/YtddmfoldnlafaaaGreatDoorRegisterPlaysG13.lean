/- WHAT IT HOLDS: what a disk keeps of files that no change names, plainly; maps beside a disk in memory. | WHAT IT HOLDS: what opening a store removes, plainly; entries struck out of a map. | WHAT IT HOLDS: what a store's act leaves of a disk that may go down at any step, and of it started anew, plainly. | WHAT IT HOLDS: a disk whose files all have names, plainly; how much an opened store's disk holds. | WHAT IT HOLDS: sums of bytes, plainly (no program): bit by bit, by the table, joined by exclusive or, and what they find. | WHAT IT HOLDS: sync.Once of one goroutine: its lock, its two deferred calls, and that Do calls a function once, then never again. -/
import Derived.Test.YtddmfoldnlafaaaGreatDoorRegisterPlaysG12
import Derived.Test.YtddmfoldnlafaaaGreatDoorRegisterPlaysG11
import Derived.Test.YtddmfoldnlafaaaGreatDoorRegisterPlaysG01
import Derived.Laws.BitsAllLaws
import Derived.Test.YtddmfoldnlafaaaGreatDoorRows
import Derived.Tactics
import Derived.Tactics2
import Derived.Defers
import Derived.Laws.Pointers
import Derived.Laws.LoneSync
import Derived.RegionTactic
import Derived.RegionCalls
namespace Go.Proofs.YtddmfoldnlafaaaGreatDoor
open Go.RowKit Go.Maps Go.Sort
attribute [local go_sem ↓] Go.wp_at_zero Go.wp_at_succ

section
variable {α : Type}
theorem shown_add (d : Dk α) (c : Chg α) : (dAdd d c).shown = fdo d.shown c := fdos_snoc _ _ _
theorem shown_write (d : Dk α) (n : Bs) (v : α) : (dAdd d ⟨0, n, [], v⟩).shown = gput n v d.shown := by
  rw [shown_add]
  exact fdo_w rfl
end
/-! ### maps beside a disk -/
section
variable {β γ : Type} {f : β → Value} {g : γ → Value} {w0 w w' : World} {q q' : Fp} {d : Dk Sv} {b b2 : Nat} {l : List (Bs × β)} {l2 : List (Bs × γ)}
end
end Go.Proofs.YtddmfoldnlafaaaGreatDoor

namespace Go.Proofs.YtddmfoldnlafaaaGreatDoor
open Go.RowKit Go.Maps Go.Sort
attribute [local go_sem ↓] Go.wp_at_zero Go.wp_at_succ

section
variable {α : Type}
end
theorem begun_head {b : UInt8} {r : Bs} : isBegun (b :: r) = (126 == b) := by
  show ((126 == b) && true) = _
  rw [Bool.and_true]
section
variable {β : Type} {f : β → Value} {P : Program} {K T E : TypeId} {w w' : World} {b n : Nat} {l : List (Bs × β)}
variable {ops : Array Oper} {rest : List Oper} {o : Oper} {a : Act} {Q : Exit → Act → World → Prop}
end
end Go.Proofs.YtddmfoldnlafaaaGreatDoor

namespace Go.Proofs.YtddmfoldnlafaaaGreatDoor
open Go.RowKit Go.Maps Go.Sort

section
variable {α : Type}
theorem andThen_ok (d : Dk α) (f : Dk α → Dk α × Nat) : andThen (d, 0) f = f d := if_neg (by simp)
end
end Go.Proofs.YtddmfoldnlafaaaGreatDoor

namespace Go.Proofs.YtddmfoldnlafaaaGreatDoor

/-- all files have names, and all changes give such -/
def Nmd {α : Type} (d : Dk α) : Prop := (∀ p ∈ d.sure, named p.1 = true) ∧ ∀ c ∈ d.pend, named c.name = true ∧ (c.kind = 1 → named c.to = true)
section
variable {α : Type} {d : Dk α}
theorem fdo_nm {l : List (Bs × α)} (hl : ∀ p ∈ l, named p.1 = true) {x : Chg α} (h1 : named x.name = true) (h2 : x.kind = 1 → named x.to = true) : ∀ p ∈ fdo l x, named p.1 = true := by
  intro p hp
  rcases Decidable.em (x.kind = 0) with hk | hk
  · rw [fdo_w hk] at hp
    rcases gmem_put.1 hp with e | e
    · rw [e]; exact h1
    · exact hl p e.1
  cases hg : gget x.name l with
  | none => rw [fdo_n hk hg] at hp; exact hl p hp
  | some b =>
    rcases Decidable.em (x.kind = 1) with hk1 | hk1
    · rw [fdo_r hk1 hg] at hp
      rcases gmem_put.1 hp with e | e
      · rw [e]; exact h2 hk1
      · exact hl p (gmem_del.1 e.1).1
    · rw [fdo_d hk hk1 hg] at hp
      exact hl p (gmem_del.1 hp).1
theorem fdos_nm (cs : List (Chg α)) : ∀ {l : List (Bs × α)}, (∀ p ∈ l, named p.1 = true) → (∀ x ∈ cs, named x.name = true ∧ (x.kind = 1 → named x.to = true)) → ∀ p ∈ fdos l cs, named p.1 = true := by
  induction cs with
  | nil => exact fun hl _ => hl
  | cons x r ih =>
    intro l hl hc
    obtain ⟨h1, h2⟩ := hc x (List.mem_cons_self ..)
    exact ih (fdo_nm hl h1 h2) fun y hy => hc y (List.mem_cons_of_mem _ hy)
theorem Nmd.shown (h : Nmd d) : ∀ p ∈ d.shown, named p.1 = true := fdos_nm d.pend h.1 h.2
theorem Nmd.names (h : Nmd d) : ∀ x ∈ names d.shown, named x = true := fun x hx => by
  obtain ⟨p, hp, rfl⟩ := List.mem_map.1 hx
  exact h.shown p hp
theorem Nmd.works (h : Nmd d) : Nmd (dWorks d).1 := by
  obtain ⟨s1, s2, -, -⟩ := dWorks_same d
  unfold Nmd
  rw [s1, s2]
  exact h
theorem Nmd.add (h : Nmd d) {c : Chg α} (h1 : named c.name = true) (h2 : c.kind = 1 → named c.to = true) : Nmd (dAdd d c) := by
  refine ⟨h.1, fun x hx => ?_⟩
  rcases List.mem_append.1 hx with hx | hx
  · exact h.2 x hx
  · obtain rfl : x = c := by simpa using hx
    exact ⟨h1, h2⟩
theorem tru {b : Bool} (h : ¬ b = false) : b = true := by cases b <;> simp_all
theorem Nmd.write (h : Nmd d) (len : α → Nat) (n : Bs) (v : α) : Nmd (dWrite len d n v).1 := by
  unfold dWrite
  split
  · exact h.works
  · split
    · exact h.works
    · rename_i hn
      split
      · exact h.works
      · split
        · exact h.works
        · exact h.works.add (tru hn) fun e => by cases e
theorem Nmd.rename (h : Nmd d) (z : α) (n t : Bs) : Nmd (dRename z d n t).1 := by
  unfold dRename
  split
  · exact h.works
  · split
    · exact h.works
    · rename_i hn
      split
      · exact h.works
      · exact h.works.add (tru fun e => hn (.inl e)) fun _ => tru fun e => hn (.inr e)
theorem Nmd.remove (h : Nmd d) (z : α) (n : Bs) : Nmd (dRemove z d n).1 := by
  unfold dRemove
  split
  · exact h.works
  · split
    · exact h.works
    · rename_i hn
      split
      · exact h.works
      · exact h.works.add (tru hn) fun e => by cases e
theorem Nmd.sync (h : Nmd d) : Nmd (dSync d).1 := by
  unfold dSync
  split
  · exact h.works
  · exact ⟨h.shown, fun x hx => by cases hx⟩
theorem kept_mem2 {keep : List Bool} {cs : List (Chg α)} {x : Chg α} (h : x ∈ kept keep cs) : x ∈ cs := by
  unfold kept at h
  obtain ⟨p, hp, rfl⟩ := List.mem_map.1 h
  exact (List.of_mem_zip (List.mem_filter.1 hp).1).1
theorem Nmd.cut (h : Nmd d) (ks : List Bool) : Nmd (dCut ks d) := ⟨fdos_nm _ h.1 fun x hx => h.2 x (kept_mem2 hx), fun x hx => by cases hx⟩
theorem Nmd.start (h : Nmd d) : Nmd (dStart d) := by
  unfold dStart
  split
  · exact ⟨h.1, fun x hx => by cases hx⟩
  · exact h
theorem Nmd.andThen {r : Dk α × Nat} {f : Dk α → Dk α × Nat} (h : Nmd r.1) (hf : ∀ d, Nmd d → Nmd (f d).1) : Nmd (Go.Proofs.YtddmfoldnlafaaaGreatDoor.andThen r f).1 := by
  unfold Go.Proofs.YtddmfoldnlafaaaGreatDoor.andThen
  split
  · exact h
  · exact hf _ h
theorem Nmd.put (h : Nmd d) (len : α → Nat) (z : α) (n : Bs) (v : α) : Nmd (sPut len z d n v).1 := by
  unfold sPut
  split
  · exact h
  · exact Nmd.andThen (h.write len _ v) fun d h => Nmd.andThen h.sync fun d h => Nmd.andThen (h.rename z _ _) fun d h => h.sync
theorem Nmd.sweep {z : α} : ∀ (l : List Bs) {d : Dk α} (b : Bool), Nmd d → Nmd (sSweep z l d b).1
  | [], d, b, h => h
  | n :: r, d, b, h => by
    unfold sSweep
    split
    · split
      · exact h.remove z n
      · exact Nmd.sweep r true (h.remove z n)
    · exact Nmd.sweep r b h
theorem Nmd.open_ (h : Nmd d) (z : α) : Nmd (sOpen z d).1 := by
  unfold sOpen
  split
  · exact h
  · split
    · exact Nmd.sweep _ _ h
    · split
      · exact (Nmd.sweep _ _ h).sync
      · exact Nmd.sweep _ _ h
/-! ### how much there is -/
theorem andThen_len {r : Dk α × Nat} {f : Dk α → Dk α × Nat} {k m : Nat} (h : r.1.sure.length + r.1.pend.length ≤ k) (hkm : k ≤ m) (hf : ∀ d : Dk α, d.sure.length + d.pend.length ≤ k → (f d).1.sure.length + (f d).1.pend.length ≤ m) : (andThen r f).1.sure.length + (andThen r f).1.pend.length ≤ m := by
  unfold andThen
  split
  · omega
  · exact hf _ h
theorem sPut_len (len : α → Nat) (z : α) (d : Dk α) (n : Bs) (v : α) : (sPut len z d n v).1.sure.length + (sPut len z d n v).1.pend.length ≤ d.sure.length + d.pend.length + 4 := by
  unfold sPut
  split
  · dsimp only; omega
  · exact andThen_len (opd_len (Opd.write len d _ v) (Nat.le_refl _)) (by omega) fun d h => andThen_len (opd_len (Opd.sync d) h) (by omega) fun d h => andThen_len (opd_len (Opd.rename z d _ _) h) (by omega) fun d h => opd_len (Opd.sync d) h
theorem sSweep_len {z : α} : ∀ (l : List Bs) (d : Dk α) (b : Bool), (sSweep z l d b).1.sure.length + (sSweep z l d b).1.pend.length ≤ d.sure.length + d.pend.length + l.length
  | [], d, b => Nat.le_refl _
  | n :: r, d, b => by
    have h1 := opd_len (Opd.remove z d n) (Nat.le_refl _)
    have h2 := sSweep_len (z := z) r (dRemove z d n).1 true
    have h3 := sSweep_len (z := z) r d b
    unfold sSweep
    split
    · split
      · dsimp only; simp only [List.length_cons]; omega
      · simp only [List.length_cons]; omega
    · simp only [List.length_cons]; omega
theorem gdel_le {l : List (Bs × α)} (k : Bs) : (gdel k l).length ≤ l.length := List.length_filter_le _ _
theorem remove_shown {z : α} (d : Dk α) (n : Bs) : (dRemove z d n).1.shown.length ≤ d.shown.length := by
  obtain ⟨s1, s2, -, -⟩ := dWorks_same d
  have hs : (dWorks d).1.shown = d.shown := by unfold Dk.shown; rw [s1, s2]
  unfold dRemove
  split
  · rw [hs]; exact Nat.le_refl _
  · split
    · dsimp only; rw [hs]; exact Nat.le_refl _
    · split
      · dsimp only; rw [hs]; exact Nat.le_refl _
      · dsimp only
        rw [shown_add, hs]
        cases hg : gget n d.shown with
        | none => rw [fdo_n (show (2 : Nat) ≠ 0 by decide) hg]; exact Nat.le_refl _
        | some v => rw [fdo_d (show (2 : Nat) ≠ 0 by decide) (show (2 : Nat) ≠ 1 by decide) hg]; exact gdel_le n
theorem sSweep_shown {z : α} : ∀ (l : List Bs) (d : Dk α) (b : Bool), (sSweep z l d b).1.shown.length ≤ d.shown.length
  | [], d, b => Nat.le_refl _
  | n :: r, d, b => by
    have h1 := remove_shown (z := z) d n
    have h2 := sSweep_shown (z := z) r (dRemove z d n).1 true
    have h3 := sSweep_shown (z := z) r d b
    unfold sSweep
    split
    · split
      · exact h1
      · omega
    · exact h3
theorem sSweep_same {z : α} : ∀ (l : List Bs) (d : Dk α) (b : Bool), (sSweep z l d b).2.1 = 0 → (sSweep z l d b).2.2 = false → b = false ∧ (sSweep z l d b).1 = d
  | [], d, b, _, h => ⟨h, rfl⟩
  | n :: r, d, b, h0, h => by
    have h2 := sSweep_same (z := z) r (dRemove z d n).1 true
    have h3 := sSweep_same (z := z) r d b
    by_cases hb : isBegun n = true
    · by_cases h9 : (dRemove z d n).2 ≠ 0
      · have e : sSweep z (n :: r) d b = ((dRemove z d n).1, (dRemove z d n).2, b) := by
          conv => lhs; unfold sSweep
          rw [if_pos hb, if_pos h9]
        rw [e] at h0
        exact absurd h0 h9
      · have e : sSweep z (n :: r) d b = sSweep z r (dRemove z d n).1 true := by
          conv => lhs; unfold sSweep
          rw [if_pos hb, if_neg h9]
        rw [e] at h0 h
        exact absurd (h2 h0 h).1 (by simp)
    · have e : sSweep z (n :: r) d b = sSweep z r d b := by
        conv => lhs; unfold sSweep
        rw [if_neg hb]
      rw [e] at h0 h ⊢
      exact h3 h0 h
/-- an opened store's disk has no more than there was -/
theorem sOpen_len {z : α} {d : Dk α} (h : (sOpen z d).2 = 0) : (sOpen z d).1.sure.length + (sOpen z d).1.pend.length ≤ d.sure.length + d.pend.length := by
  have hsh : d.shown.length ≤ d.sure.length + d.pend.length := flen_dos d.sure d.pend
  have h1 := sSweep_shown (z := z) (names d.shown) d false
  have h2 := sSweep_same (z := z) (names d.shown) d false
  unfold sOpen at *
  generalize sSweep z (names d.shown) d false = s at *
  split at h
  · cases h
  · rename_i hd
    rw [if_neg hd]
    split at h
    · rename_i h0
      exact absurd h h0
    · rename_i h0
      rw [if_neg h0]
      have h0' : s.2.1 = 0 := Decidable.byContradiction h0
      cases hb : s.2.2 with
      | false =>
        rw [if_neg (by simp)]
        obtain ⟨-, e⟩ := h2 h0' hb
        dsimp only
        rw [e]
        exact Nat.le_refl _
      | true =>
        rw [hb, if_pos rfl] at h
        rw [if_pos rfl]
        unfold dSync at *
        split at h
        · rename_i h9
          exact absurd h h9
        · rename_i h9
          rw [if_neg h9]
          dsimp only
          simp
          omega
theorem sOpen_len2 (z : α) (d : Dk α) : (sOpen z d).1.sure.length + (sOpen z d).1.pend.length ≤ 2 * (d.sure.length + d.pend.length) + 1 := by
  have hsh : d.shown.length ≤ d.sure.length + d.pend.length := flen_dos d.sure d.pend
  have hn : (names d.shown).length = d.shown.length := List.length_map ..
  have h1 := sSweep_len (z := z) (names d.shown) d false
  unfold sOpen
  generalize sSweep z (names d.shown) d false = s at *
  split
  · dsimp only; omega
  · split
    · dsimp only; omega
    · split
      · have := opd_len (Opd.sync s.1) (Nat.le_refl _)
        omega
      · dsimp only; omega
end
theorem Fok.andThen {r : Dk Sv × Nat} {f : Dk Sv → Dk Sv × Nat} (h : Fok r.1) (hf : ∀ d, Fok d → Fok (f d).1) : Fok (Go.Proofs.YtddmfoldnlafaaaGreatDoor.andThen r f).1 := by
  unfold Go.Proofs.YtddmfoldnlafaaaGreatDoor.andThen
  split
  · exact h
  · exact hf _ h
theorem Fok.put {d : Dk Sv} (h : Fok d) (n : Bs) (v : Sv) : Fok (sPut svl Sv.nil d n v).1 := by
  unfold sPut
  split
  · exact h
  · exact Fok.andThen (h.opd (Opd.write svl d _ v)) fun d h => Fok.andThen (h.opd (Opd.sync d)) fun d h => Fok.andThen (h.opd (Opd.rename Sv.nil d _ _)) fun d h => h.opd (Opd.sync d)
theorem Fok.sweep : ∀ (l : List Bs) {d : Dk Sv} (b : Bool), Fok d → Fok (sSweep Sv.nil l d b).1
  | [], d, b, h => h
  | n :: r, d, b, h => by
    unfold sSweep
    split
    · split
      · exact h.opd (Opd.remove Sv.nil d n)
      · exact Fok.sweep r true (h.opd (Opd.remove Sv.nil d n))
    · exact Fok.sweep r b h
theorem Fok.open_ {d : Dk Sv} (h : Fok d) : Fok (sOpen Sv.nil d).1 := by
  unfold sOpen
  split
  · exact h
  · split
    · exact Fok.sweep _ _ h
    · split
      · exact (Fok.sweep _ _ h).opd (Opd.sync _)
      · exact Fok.sweep _ _ h
/-- what an act on a disk leaves -/
def Opn (d : Dk Sv) (r : Dk Sv × Nat) : Prop := Opd d r ∧ (Nmd d → Nmd r.1)
end Go.Proofs.YtddmfoldnlafaaaGreatDoor

namespace Go.Proofs.YtddmfoldnlafaaaGreatDoor
open Go.RowKit

abbrev W32 := BitVec 32
def P32 : W32 := 2197175160#32
/-- one bit -/
def st1 (x : W32) : W32 := (x >>> 1) ^^^ (if x.getLsbD 0 then P32 else 0#32)
/-- that often -/
def stn : Nat → W32 → W32
  | 0, x => x
  | n + 1, x => stn n (st1 x)
def st8 (x : W32) : W32 := stn 8 x
def bw (b : UInt8) : W32 := BitVec.ofNat 32 b.toNat
def crcS (x : W32) (l : List UInt8) : W32 := l.foldl (fun x b => st8 (x ^^^ bw b)) x
/-- the sum of more bytes -/
def extW (s : W32) (l : List UInt8) : W32 := ~~~ crcS (~~~ s) l
def sumW (l : List UInt8) : W32 := extW 0#32 l
def four (x : W32) : List UInt8 := [UInt8.ofNat (x.toNat / 16777216), UInt8.ofNat (x.toNat / 65536 % 256), UInt8.ofNat (x.toNat / 256 % 256), UInt8.ofNat (x.toNat % 256)]

theorem st1_xor (x y : W32) : st1 (x ^^^ y) = st1 x ^^^ st1 y := by
  unfold st1
  apply BitVec.eq_of_getLsbD_eq
  intro i hi
  simp only [BitVec.getLsbD_xor, BitVec.getLsbD_ushiftRight]
  cases x.getLsbD 0 <;> cases y.getLsbD 0 <;> simp [Bool.xor_comm, Bool.xor_left_comm]
theorem stn_xor (n : Nat) : ∀ x y, stn n (x ^^^ y) = stn n x ^^^ stn n y := by
  induction n with
  | zero => intro x y; rfl
  | succ n ih => intro x y; simp only [stn, st1_xor, ih]
theorem st1_shl (y : W32) (h : y.getLsbD 31 = false) : st1 (y <<< 1) = y := by
  unfold st1
  apply BitVec.eq_of_getLsbD_eq
  intro i hi
  simp only [BitVec.getLsbD_xor, BitVec.getLsbD_ushiftRight, BitVec.getLsbD_shiftLeft]
  by_cases h1 : i = 31
  · subst h1
    have h' : y[31] = false := by rw [← BitVec.getLsbD_eq_getElem]; exact h
    simp [h']
  · have : 1 + i < 32 := by omega
    simp [this]
theorem stn_shl (n : Nat) : ∀ (y : W32), y.toNat * 2 ^ n < 2 ^ 32 → stn n (y <<< n) = y := by
  induction n with
  | zero => intro y _; simp [stn]
  | succ n ih =>
    intro y h
    rw [stn, BitVec.shiftLeft_add, st1_shl]
    · refine ih y ?_
      refine Nat.lt_of_le_of_lt ?_ h
      exact Nat.mul_le_mul_left _ (Nat.pow_le_pow_right (by decide) (by omega))
    · rw [BitVec.getLsbD_eq_getElem (by omega), BitVec.getElem_eq_testBit_toNat] <;> try omega
      rw [BitVec.toNat_shiftLeft, Nat.shiftLeft_eq]
      have h2 : y.toNat * 2 ^ n < 2 ^ 31 := by rw [Nat.pow_succ, ← Nat.mul_assoc] at h; omega
      rw [Nat.mod_eq_of_lt (by omega)]
      exact Nat.testBit_lt_two_pow h2

theorem bw_toNat (b : UInt8) : (bw b).toNat = b.toNat := by
  have := b.toNat_lt
  unfold bw
  rw [BitVec.toNat_ofNat]
  omega
theorem by_table (x : W32) (c : UInt8) : st8 (x ^^^ bw c) = st8 (BitVec.ofNat 32 ((x.toNat % 256) ^^^ c.toNat)) ^^^ (x >>> 8) := by
  have hx := x.isLt
  have hy : (x >>> 8).toNat * 2 ^ 8 < 2 ^ 32 := by
    rw [BitVec.toNat_ushiftRight, Nat.shiftRight_eq_div_pow]
    omega
  have h1 : x ^^^ bw c = BitVec.ofNat 32 ((x.toNat % 256) ^^^ c.toNat) ^^^ ((x >>> 8) <<< 8) := by
    apply BitVec.eq_of_getLsbD_eq
    intro i hi
    have hc := c.toNat_lt
    simp only [bw, BitVec.getLsbD_xor, BitVec.getLsbD_ofNat, BitVec.getLsbD_shiftLeft, BitVec.getLsbD_ushiftRight, Nat.testBit_xor, hi, decide_true, Bool.true_and]
    rw [show (256 : Nat) = 2 ^ 8 from rfl, Nat.testBit_mod_two_pow]
    by_cases h : i < 8
    · simp [h, BitVec.testBit_toNat]
    · have h8 : 8 + (i - 8) = i := by omega
      have : c.toNat.testBit i = false := Nat.testBit_lt_two_pow (Nat.lt_of_lt_of_le hc (Nat.pow_le_pow_right (by decide) (by omega : 8 ≤ i)))
      simp [h, h8, this]
  rw [h1]
  unfold st8
  rw [stn_xor, stn_shl 8 _ hy]

/- values -/
/-- a word as a number, behind a name (the walk's simp would look into it) -/
def wn (x : W32) : Int := (x.toNat : Int)
abbrev wv (x : W32) : Value := .int .u32 (wn x)
theorem and_one (x : W32) : bits .and .u32 (wn x) 1 = ((if x.getLsbD 0 then 1 else 0 : Nat) : Int) := by
  unfold wn
  rw [show (1 : Int) = ((1 : Nat) : Int) from rfl, u32_and_nat _ _ x.isLt (by decide), nat_mask1]
  congr 1
  have : x.getLsbD 0 = decide (x.toNat % 2 = 1) := by rw [← BitVec.testBit_toNat, Nat.testBit_zero]
  rw [this]
  by_cases h : x.toNat % 2 = 1
  · simp [h]
  · simp [h]; omega
theorem xor_wn (x y : W32) : bits .xor .u32 (wn x) (wn y) = wn (x ^^^ y) := by
  unfold wn; rw [u32_xor_nat _ _ x.isLt y.isLt, BitVec.toNat_xor]
theorem shr_wn (x : W32) (k : Nat) : wn x / ((2 ^ k : Nat) : Int) = wn (x >>> k) := by
  unfold wn; rw [BitVec.toNat_ushiftRight, Nat.shiftRight_eq_div_pow]; rfl
theorem xor_P (y : W32) : bits .xor .u32 (wn y) 2197175160 = wn (y ^^^ P32) := xor_wn y P32
theorem half_wn (y : W32) : HDiv.hDiv (α := Int) (β := Int) (wn y) (2 : Int) = wn (y >>> 1) := shr_wn y 1
theorem not_wn (x : W32) : bits .xor .u32 4294967295 (wn x) = wn (~~~ x) := by
  have := xor_wn (BitVec.allOnes 32) x
  rw [BitVec.allOnes_xor] at this
  exact this
theorem mod_wn (y : W32) : HMod.hMod (α := Int) (β := Int) (wn y) (256 : Int) = ((y.toNat % 256 : Nat) : Int) := by
  unfold wn; omega
theorem xor_u8 {a b : Nat} (ha : a < 256) (hb : b < 256) : bits .xor .u8 (a : Int) (b : Int) = ((a ^^^ b : Nat) : Int) := u8_xor_nat a b ha hb
theorem shr8_wn (y : W32) : HDiv.hDiv (α := Int) (β := Int) (wn y) (256 : Int) = wn (y >>> 8) := shr_wn y 8
theorem crcS_drop {l : List UInt8} {k : Nat} (hk : k < l.length) (y : W32) : crcS y (l.drop k) = crcS (st8 (y ^^^ bw l[k])) (l.drop (k + 1)) := by
  rw [List.drop_eq_getElem_cons hk]; rfl
theorem wrap_ofNat {k : Nat} (_h : k < 256) : IntKind.u32.wrap (k : Int) = wn (BitVec.ofNat 32 k) := by
  unfold wn; rw [IntKind.wrap_u32, BitVec.toNat_ofNat]; omega
end Go.Proofs.YtddmfoldnlafaaaGreatDoor

namespace Go.Proofs.YtddmfoldnlafaaaGreatDoor
open Go.RowKit

theorem race_disable (w : World) : (callFunc 236 #[]).run Tryz.prog w = .ok (.value (.tuple #[])) w := run_call_mark0 Tryz.func236 (by kernel_rfl) (by kernel_rfl) (by kernel_rfl) .disable (by kernel_rfl) w
theorem race_enable (w : World) : (callFunc 238 #[]).run Tryz.prog w = .ok (.value (.tuple #[])) w := run_call_mark0 Tryz.func238 (by kernel_rfl) (by kernel_rfl) (by kernel_rfl) .enable (by kernel_rfl) w
theorem race_acquire (a : Addr) (w : World) : (callFunc 239 #[.pointer (some a)]).run Tryz.prog w = .ok (.value (.tuple #[])) w := run_call_marked Tryz.func239 (by kernel_rfl) (by kernel_rfl) (by kernel_rfl) .acquire (by kernel_rfl) a w
theorem race_merge (a : Addr) (w : World) : (callFunc 241 #[.pointer (some a)]).run Tryz.prog w = .ok (.value (.tuple #[])) w := run_call_marked Tryz.func241 (by kernel_rfl) (by kernel_rfl) (by kernel_rfl) .releaseMerge (by kernel_rfl) a w

/-- '(*sync/atomic.Bool).Store(true)', entered as a deferred call: the cell holds 1. -/
theorem once_store (a : Addr) (x : Value) (u : FrameMode) (w : World) (hc : w.cell? a = some x) (hz : w.frozen? a = false) :
    CallsD Tryz.prog 229 #[.pointer (some a), .bool true] u w fun e u' w' => u' = u ∧ (e = .returned (.tuple #[]) ∧ w' = w.drew.setCell a (.int .u32 1)) := by
  have hc' : w.drew.cell? a = some x := by go_simp
  have hz' : w.drew.frozen? a = false := by go_simp
  have hst := run_call_store (P := Tryz.prog) Tryz.func234 (by kernel_rfl) (by kernel_rfl) (by kernel_rfl) (by kernel_rfl) (k := .u32) (y := 1) hc' hz'
  go_enter_d Tryz.func229, Tryz.ntmps229
  go_wp2
  go_region_calls
  all_goals (go_end0; exact ⟨rfl, rfl⟩)

set_option maxRecDepth 100000 in
set_option maxHeartbeats 1600000 in
/-- '(*sync.Mutex).Unlock', entered as a deferred call, the lock held and nobody waiting (state 1): state 0. -/
theorem once_unlock (a : Addr) (u : FrameMode) (w : World) (hc : w.cell? a = some (.int .i32 1)) (hz : w.frozen? a = false) :
    CallsD Tryz.prog 228 #[.pointer (some a)] u w fun e u' w' => u' = u ∧ (e = .returned (.tuple #[]) ∧ w' = w.setCell a (.int .i32 0)) := by
  have hd := race_disable
  have he := race_enable
  have hr := race_merge
  have hadd := run_call_add (P := Tryz.prog) Tryz.func242 (by kernel_rfl) (by kernel_rfl) (by kernel_rfl) .i32 (by kernel_rfl) (y := -1) (s := 0) hc hz (by simp [go_sem]; rfl)
  have hcv := run_convert_to_unsafe (P := Tryz.prog) (src := 328) (dst := 332) Tryz.underlying328 Tryz.underlying332 (by kernel_rfl) hc
  go_enter_d Tryz.func228, Tryz.ntmps228
  go_wp2
  go_end0
  go_wp2
  go_end0
  exact ⟨rfl, rfl⟩

set_option maxRecDepth 100000 in
set_option maxHeartbeats 1600000 in
/-- '(*sync.Mutex).Lock', the lock free (state 0): state 1. -/
theorem once_lock (a : Addr) (w : World) (hc : w.cell? a = some (.int .i32 0)) (hz : w.frozen? a = false) :
    Calls Tryz.prog 227 #[.pointer (some a)] w fun e w' => e = .returned (.tuple #[]) ∧ w' = w.setCell a (.int .i32 1) := by
  have hd := race_disable
  have he := race_enable
  have ha := race_acquire
  have hcas := run_call_cas_hit (P := Tryz.prog) Tryz.func237 (by kernel_rfl) (by kernel_rfl) (by kernel_rfl) .i32 (by kernel_rfl) (y := 1) hc hz
  have hc' : (w.setCell a (.int .i32 1)).cell? a = some (.int .i32 1) := World.cell?_setCell_same w a _ hc
  have hcv := run_convert_to_unsafe (P := Tryz.prog) (src := 328) (dst := 332) Tryz.underlying328 Tryz.underlying332 (by kernel_rfl) hc'
  go_enter Tryz.func227, Tryz.ntmps227
  go_wp2
  first | go_end0 | (simp only [Exit.inBlock, Exit.then]; refine bodyPost_ret (results_none rfl _ _ _) rfl ?_) | refine bodyPost_ret (results_none rfl _ _ _) rfl ?_
  go_wp2
  go_end0
  exact ⟨rfl, rfl⟩
end Go.Proofs.YtddmfoldnlafaaaGreatDoor
