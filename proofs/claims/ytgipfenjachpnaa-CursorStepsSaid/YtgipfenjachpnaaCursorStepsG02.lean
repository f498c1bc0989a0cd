/- WHAT IT HOLDS: manifests, plainly (no program): which there are. | WHAT IT HOLDS: cells, plainly (no program): which there are, which may become which. | WHAT IT HOLDS: the bytes of a run of cells, plainly (no program). | WHAT IT HOLDS: the document's bytes of a run, plainly, are the same (no program). | WHAT IT HOLDS: append as a step of a region that draws. | WHAT IT HOLDS: what the functions of the package varint compute, walked. -/
import Derived.Test.YtgipfenjachpnaaCursorStepsG01
import Derived.Deep.RegionHeld3
import Derived.Deep.DrawnRows
import Derived.Deep.DeepCutAuto
import Derived.Test.YtgipfenjachpnaaRows
namespace Go.Proofs.Ytgipfenjachpnaa
open Go.RowKit

/-- a digest -/
abbrev Dg := { l : List UInt8 // l.length = 32 }
def dg0 : Dg := ⟨List.replicate 32 0, by simp⟩
/-- a part: its first address, how many, its size, its digest -/
abbrev Pt5 := Int × Int × Int × Dg
/-- an error's number behind an address; then that of the rest, up to an end -/
def ptchk (p : Pt5) (a : Int) : Nat := if p.2.1 < 1 ∨ 64 < p.2.1 ∨ p.2.2.1 < 1 ∨ 65536 < p.2.2.1 then 1 else if p.1 ≠ a then 2 else 0
def pgo (z : Int) : Int → List Pt5 → Nat
  | a, [] => if a ≠ z then 2 else 0
  | a, p :: r => if ptchk p a ≠ 0 then ptchk p a else pgo z (a + p.2.1) r
/-- a manifest: its number, from, to, its trim, what came ahead, its parts -/
abbrev Mf := Int × Int × Int × Int × Dg × List Pt5
def inb (x m : Int) : Bool := decide (0 ≤ x) && decide (x ≤ m)
def mchk (m : Mf) : Nat :=
  if (!inb m.1 999999 || !inb m.2.1 1048576 || !inb m.2.2.1 1048576 || !inb m.2.2.2.1 1048576) = true then 1
  else if (decide (m.2.2.1 < m.2.1) || (m.1 == 0 && !decide (m.2.2.2.2.1 = dg0))) = true then 2
  else if 1024 < m.2.2.2.2.2.length then 3
  else pgo m.2.2.1 m.2.1 m.2.2.2.2.2
theorem ptchk_ok {p : Pt5} {a : Int} (h : ptchk p a = 0) : 1 ≤ p.2.1 ∧ p.2.1 ≤ 64 ∧ 1 ≤ p.2.2.1 ∧ p.2.2.1 ≤ 65536 ∧ p.1 = a := by
  unfold ptchk at h
  by_cases h1 : p.2.1 < 1 ∨ 64 < p.2.1 ∨ p.2.2.1 < 1 ∨ 65536 < p.2.2.1
  · rw [if_pos h1] at h; cases h
  rw [if_neg h1] at h
  by_cases h2 : p.1 ≠ a
  · rw [if_pos h2] at h; cases h
  exact ⟨by omega, by omega, by omega, by omega, Decidable.byContradiction h2⟩
theorem inb_iff {x m : Int} : inb x m = true ↔ 0 ≤ x ∧ x ≤ m := by unfold inb; simp
theorem mchk_ok {m : Mf} (h : mchk m = 0) : (0 ≤ m.1 ∧ m.1 ≤ 999999) ∧ (0 ≤ m.2.1 ∧ m.2.1 ≤ 1048576) ∧ (0 ≤ m.2.2.1 ∧ m.2.2.1 ≤ 1048576) ∧ (0 ≤ m.2.2.2.1 ∧ m.2.2.2.1 ≤ 1048576) ∧ m.2.1 ≤ m.2.2.1 ∧ (m.1 = 0 → m.2.2.2.2.1 = dg0) ∧ m.2.2.2.2.2.length ≤ 1024 ∧ pgo m.2.2.1 m.2.1 m.2.2.2.2.2 = 0 := by
  unfold mchk at h
  split at h
  · cases h
  rename_i h1
  split at h
  · cases h
  rename_i h2
  split at h
  · cases h
  rename_i h3
  simp only [Bool.or_eq_true, Bool.not_eq_true', not_or, Bool.not_eq_false, inb_iff] at h1
  simp only [Bool.or_eq_true, Bool.and_eq_true, Bool.not_eq_true', decide_eq_true_eq, decide_eq_false_iff_not, beq_iff_eq, not_or, not_and, Decidable.not_not] at h2
  exact ⟨h1.1.1.1, h1.1.1.2, h1.1.2, h1.2, by omega, h2.2, by omega, h⟩
/-- where the parts behind an address end -/
def pend : Int → List Pt5 → Int
  | a, [] => a
  | a, p :: r => pend (a + p.2.1) r
theorem pgo_end {z : Int} : ∀ {l : List Pt5} {a : Int}, pgo z a l = 0 → pend a l = z ∧ a ≤ z
  | [], a, h => by
    unfold pgo at h
    by_cases h1 : a ≠ z
    · rw [if_pos h1] at h; cases h
    · have : a = z := Decidable.byContradiction h1
      exact ⟨this, by omega⟩
  | p :: r, a, h => by
    unfold pgo at h
    by_cases h1 : ptchk p a ≠ 0
    · rw [if_pos h1] at h; exact absurd h h1
    rw [if_neg h1] at h
    obtain ⟨g1, _⟩ := ptchk_ok (Decidable.byContradiction h1)
    obtain ⟨h2, h3⟩ := pgo_end h
    exact ⟨h2, by omega⟩
/-- an address is in a part -/
def phit (x : Int) (p : Pt5) : Bool := decide (p.1 ≤ x) && decide (x < p.1 + p.2.1)
def pidx (x : Int) : List Pt5 → Int
  | [] => -1
  | p :: r => if phit x p then 0 else if pidx x r < 0 then -1 else pidx x r + 1
theorem phit_iff {x : Int} {p : Pt5} : phit x p = true ↔ p.1 ≤ x ∧ x < p.1 + p.2.1 := by unfold phit; simp
/-- behind an address all parts are later ones -/
theorem pgo_later {z x : Int} : ∀ {l : List Pt5} {a : Int}, pgo z a l = 0 → x < a → ∀ p ∈ l, phit x p = false
  | [], _, _, _ => fun p hp => by cases hp
  | q :: r, a, h, hx => fun p hp => by
    unfold pgo at h
    by_cases h1 : ptchk q a ≠ 0
    · rw [if_pos h1] at h; exact absurd h h1
    rw [if_neg h1] at h
    obtain ⟨g1, _, _, _, g5⟩ := ptchk_ok (Decidable.byContradiction h1)
    rcases List.mem_cons.1 hp with rfl | hp
    · rw [Bool.eq_false_iff]
      intro hh
      obtain ⟨h3, _⟩ := phit_iff.1 hh
      omega
    · exact pgo_later h (by omega) p hp
/-- how many parts an address is in -/
def pcnt (x : Int) (l : List Pt5) : Nat := (l.filter (phit x)).length
theorem pcnt_none {x : Int} {l : List Pt5} (h : ∀ p ∈ l, phit x p = false) : pcnt x l = 0 ∧ pidx x l = -1 := by
  induction l with
  | nil => exact ⟨rfl, rfl⟩
  | cons p r ih =>
    obtain ⟨i1, i2⟩ := ih fun q hq => h q (.tail _ hq)
    have hp := h p (.head _)
    refine ⟨?_, ?_⟩
    · unfold pcnt at i1 ⊢
      rw [List.filter_cons, hp]
      simpa using i1
    · unfold pidx
      rw [hp, i2]
      simp
/-- of right parts an address is in one, if it lies in between, and else in none -/
theorem pgo_one {z x : Int} : ∀ {l : List Pt5} {a : Int}, pgo z a l = 0 → (a ≤ x ∧ x < z → pcnt x l = 1 ∧ 0 ≤ pidx x l) ∧ (¬ (a ≤ x ∧ x < z) → pcnt x l = 0 ∧ pidx x l = -1)
  | [], a, h => by
    obtain ⟨h1, h2⟩ := pgo_end h
    unfold pend at h1
    exact ⟨fun h => by omega, fun _ => ⟨rfl, rfl⟩⟩
  | q :: r, a, h => by
    have h0 := h
    unfold pgo at h
    by_cases h1 : ptchk q a ≠ 0
    · rw [if_pos h1] at h; exact absurd h h1
    rw [if_neg h1] at h
    obtain ⟨g1, _, _, _, g5⟩ := ptchk_ok (Decidable.byContradiction h1)
    obtain ⟨i1, i2⟩ := pgo_one h
    have hend := (pgo_end h).2
    cases hq : phit x q
    · have hnq : ¬ (q.1 ≤ x ∧ x < q.1 + q.2.1) := by rw [← phit_iff, hq]; simp
      have hc : pcnt x (q :: r) = pcnt x r := by unfold pcnt; rw [List.filter_cons, hq]; simp
      have hd : pidx x (q :: r) = if pidx x r < 0 then -1 else pidx x r + 1 := by rw [pidx, hq]; simp
      refine ⟨fun hx => ?_, fun hx => ?_⟩
      · have hx2 : a + q.2.1 ≤ x ∧ x < z := ⟨by omega, hx.2⟩
        obtain ⟨j1, j2⟩ := i1 hx2
        rw [hc, hd, if_neg (by omega)]
        exact ⟨j1, by omega⟩
      · have hx2 : ¬ (a + q.2.1 ≤ x ∧ x < z) := fun hh => hx ⟨by omega, hh.2⟩
        obtain ⟨j1, j2⟩ := i2 hx2
        rw [hc, hd, if_pos (by omega)]
        exact ⟨j1, rfl⟩
    · obtain ⟨k1, k2⟩ := phit_iff.1 hq
      have hlt := pgo_later h (x := x) (by omega)
      obtain ⟨j1, _⟩ := pcnt_none hlt
      refine ⟨fun _ => ⟨?_, ?_⟩, fun hx => absurd (show a ≤ x ∧ x < z from ⟨by omega, by omega⟩) hx⟩
      · unfold pcnt at j1 ⊢
        rw [List.filter_cons, hq]
        simpa using j1
      · rw [pidx, hq]; simp
/-- the part that an address is in is the one that is told -/
theorem pidx_hit {z x : Int} : ∀ {l : List Pt5} {a : Int} {k : Nat} (hk : k < l.length), pgo z a l = 0 → phit x l[k] = true → pidx x l = k
  | q :: r, a, 0, _, _, hh => by
    rw [List.getElem_cons_zero] at hh
    rw [pidx, hh]; simp
  | q :: r, a, k + 1, hk, h, hh => by
    rw [List.getElem_cons_succ] at hh
    unfold pgo at h
    by_cases h1 : ptchk q a ≠ 0
    · rw [if_pos h1] at h; exact absurd h h1
    rw [if_neg h1] at h
    obtain ⟨g1, _, _, _, g5⟩ := ptchk_ok (Decidable.byContradiction h1)
    have ih := pidx_hit (by simpa using hk) h hh
    have hnq : phit x q = false := by
      rw [Bool.eq_false_iff]
      intro hq
      obtain ⟨k1, k2⟩ := phit_iff.1 hq
      have := pgo_later h (x := x) (by omega) _ (List.getElem_mem (by simpa using hk))
      rw [hh] at this
      cases this
    rw [pidx, hnq, ih]
    rw [if_neg (by simp), if_neg (by omega)]
    simp
theorem pidx_ge (x : Int) : ∀ l : List Pt5, -1 ≤ pidx x l ∧ pidx x l < l.length
  | [] => by simp [pidx]
  | p :: r => by
    have := pidx_ge x r
    unfold pidx
    split
    · exact ⟨by omega, by simp only [List.length_cons]; omega⟩
    · split
      · exact ⟨by omega, by simp only [List.length_cons]; omega⟩
      · exact ⟨by omega, by simp only [List.length_cons]; omega⟩
end Go.Proofs.Ytgipfenjachpnaa

namespace Go.Proofs.Ytgipfenjachpnaa
open Go.RowKit

/-- a cell: its kind, its bytes -/
abbrev Ce := Int × List UInt8
def cchk (c : Ce) : Nat := if c.1 < 0 ∨ 3 < c.1 then 1 else if 64 < c.2.length then 3 else if 0 < c.2.length ∧ c.1 ≠ 1 then 2 else 0
def same (a b : Ce) : Bool := decide (a = b)
def mayb (a b : Ce) : Bool := decide (cchk a = 0 ∧ cchk b = 0 ∧ (a.1 = 0 ∨ a = b ∨ b.1 = 3))
def later (a b : Ce) : Ce × Bool := if mayb a b then (b, true) else if mayb b a then (a, true) else ((0, []), false)

theorem cchk_cases (c : Ce) : (c.1 < 0 ∧ cchk c = 1) ∨ (0 ≤ c.1 ∧ 3 < c.1 ∧ cchk c = 1) ∨ (0 ≤ c.1 ∧ c.1 ≤ 3 ∧ 64 < c.2.length ∧ cchk c = 3) ∨ (0 ≤ c.1 ∧ c.1 ≤ 3 ∧ c.2.length ≤ 64 ∧ 0 < c.2.length ∧ c.1 ≠ 1 ∧ cchk c = 2) ∨
    (0 ≤ c.1 ∧ c.1 ≤ 3 ∧ c.2.length = 0 ∧ cchk c = 0) ∨ (c.2.length ≤ 64 ∧ 0 < c.2.length ∧ c.1 = 1 ∧ cchk c = 0) := by
  unfold cchk
  by_cases h1 : c.1 < 0
  · exact .inl ⟨h1, by rw [if_pos (Or.inl h1)]⟩
  by_cases h2 : 3 < c.1
  · exact .inr (.inl ⟨by omega, h2, by rw [if_pos (Or.inr h2)]⟩)
  rw [if_neg (by omega)]
  by_cases h3 : 64 < c.2.length
  · exact .inr (.inr (.inl ⟨by omega, by omega, h3, by rw [if_pos h3]⟩))
  rw [if_neg h3]
  by_cases h4 : 0 < c.2.length
  · by_cases h5 : c.1 = 1
    · exact .inr (.inr (.inr (.inr (.inr ⟨by omega, h4, h5, by rw [if_neg (by omega)]⟩))))
    · exact .inr (.inr (.inr (.inl ⟨by omega, by omega, by omega, h4, h5, by rw [if_pos ⟨h4, h5⟩]⟩)))
  · exact .inr (.inr (.inr (.inr (.inl ⟨by omega, by omega, by omega, by rw [if_neg (by omega)]⟩))))
theorem cchk_ok {c : Ce} (h : cchk c = 0) : 0 ≤ c.1 ∧ c.1 ≤ 3 ∧ c.2.length ≤ 64 ∧ (c.1 ≠ 1 → c.2 = []) := by
  rcases cchk_cases c with h1 | h1 | h1 | h1 | h1 | h1
  · omega
  · omega
  · omega
  · omega
  · exact ⟨by omega, by omega, by omega, fun _ => List.eq_nil_of_length_eq_zero h1.2.2.1⟩
  · exact ⟨by omega, by omega, by omega, fun h => absurd h1.2.2.1 h⟩
theorem cchk_no {c : Ce} (h : cchk c ≠ 0) : cchk c = 1 ∨ cchk c = 2 ∨ cchk c = 3 := by
  rcases cchk_cases c with h1 | h1 | h1 | h1 | h1 | h1 <;> omega
theorem mayb_iff {a b : Ce} : mayb a b = true ↔ cchk a = 0 ∧ cchk b = 0 ∧ (a.1 = 0 ∨ a = b ∨ b.1 = 3) := by unfold mayb; exact decide_eq_true_iff
theorem three_eq {a b : Ce} (ha : cchk a = 0) (hb : cchk b = 0) (h : a.1 = b.1) (h1 : a.1 ≠ 1) : a = b := by
  have h2 := (cchk_ok ha).2.2.2 h1
  have h3 := (cchk_ok hb).2.2.2 (by omega)
  exact Prod.ext h (by rw [h2, h3])
theorem mayb_trans {a b c : Ce} (h : mayb a b = true) (k : mayb b c = true) : mayb a c = true := by
  rw [mayb_iff] at *
  obtain ⟨ha, hb, h1⟩ := h
  obtain ⟨_, hc, h2⟩ := k
  refine ⟨ha, hc, ?_⟩
  rcases h1 with h1 | rfl | h1
  · exact .inl h1
  · exact h2
  · rcases h2 with h2 | rfl | h2
    · omega
    · exact .inr (.inr h1)
    · exact .inr (.inr h2)
theorem mayb_anti {a b : Ce} (h : mayb a b = true) (k : mayb b a = true) : a = b := by
  rw [mayb_iff] at *
  obtain ⟨ha, hb, h1⟩ := h
  obtain ⟨_, _, h2⟩ := k
  rcases h1 with h1 | h1 | h1
  · rcases h2 with h2 | h2 | h2
    · exact three_eq ha hb (by omega) (by omega)
    · exact h2.symm
    · omega
  · exact h1
  · rcases h2 with h2 | h2 | h2
    · omega
    · exact h2.symm
    · exact three_eq ha hb (by omega) (by omega)
theorem mayb_refl (a : Ce) : mayb a a = decide (cchk a = 0) := by unfold mayb; simp
theorem later_comm (a b : Ce) : later a b = later b a := by
  unfold later
  cases h : mayb a b <;> cases k : mayb b a <;> simp
  exact (mayb_anti h k).symm
theorem later_yes {a b : Ce} (h : (later a b).2 = true) : mayb a (later a b).1 = true ∧ mayb b (later a b).1 = true ∧ ((later a b).1 = a ∨ (later a b).1 = b) := by
  unfold later at h ⊢
  cases h1 : mayb a b
  · cases h2 : mayb b a
    · rw [h1, h2] at h; simp at h
    · have h3 := (mayb_iff.1 h2).2.1
      simp [mayb_refl, h3, h2]
  · have h3 := (mayb_iff.1 h1).2.1
    simp [mayb_refl, h3, h1]
/-- the document's 'may' -/
def rmay (a b : Ce) : Bool := decide (cchk a = 0 ∧ cchk b = 0 ∧ (a = b ∨ a.1 = 0 ∨ (a.1 = 1 ∨ a.1 = 2) ∧ b.1 = 3))
theorem rmay_eq (a b : Ce) : rmay a b = mayb a b := by
  unfold rmay mayb
  congr 1
  rw [eq_iff_iff]
  constructor
  · rintro ⟨h1, h2, h3⟩
    exact ⟨h1, h2, by rcases h3 with h | h | h <;> simp_all⟩
  · rintro ⟨h1, h2, h3⟩
    refine ⟨h1, h2, ?_⟩
    rcases h3 with h | h | h
    · exact .inr (.inl h)
    · exact .inl h
    · have h4 := cchk_ok h1
      by_cases h5 : a.1 = 0
      · exact .inr (.inl h5)
      by_cases h6 : a.1 = 3
      · exact .inl (three_eq h1 h2 (by omega) (by omega))
      · exact .inr (.inr ⟨by omega, h⟩)
/-- the bytes of a right cell -/
def cbytes (c : Ce) : List UInt8 := if c.1 = 1 then 1 :: (vb c.2.length ++ c.2) else [UInt8.ofNat c.1.toNat]
end Go.Proofs.Ytgipfenjachpnaa

namespace Go.Proofs.Ytgipfenjachpnaa
open Go.RowKit

/-- how many first bytes two texts have in common -/
def cpl : List UInt8 → List UInt8 → Nat
  | x :: a, y :: b => if x = y then cpl a b + 1 else 0
  | _, _ => 0
theorem cpl_le : ∀ a b, cpl a b ≤ a.length ∧ cpl a b ≤ b.length
  | [], b => by simp [cpl]
  | x :: a, [] => by simp [cpl]
  | x :: a, y :: b => by
    have := cpl_le a b
    unfold cpl
    split <;> simp <;> omega
theorem cpl_next : ∀ (a b : List UInt8) (k : Nat), k ≤ a.length → k ≤ b.length → a.take k = b.take k → cpl a b = k + cpl (a.drop k) (b.drop k)
  | a, b, 0, _, _, _ => by simp
  | x :: a, y :: b, k + 1, ha, hb, h => by
    simp only [List.take_succ_cons, List.cons.injEq] at h
    obtain ⟨rfl, h⟩ := h
    have := cpl_next a b k (by simpa using ha) (by simpa using hb) h
    simp only [List.drop_succ_cons]
    rw [cpl, if_pos rfl, this]
    omega
theorem cpl_take : ∀ (a b : List UInt8), a.take (cpl a b) = b.take (cpl a b)
  | [], b => by simp [cpl]
  | x :: a, [] => by simp [cpl]
  | x :: a, y :: b => by
    unfold cpl
    split
    · rename_i h
      subst h
      simp [cpl_take a b]
    · simp
theorem cpl_stop {a b : List UInt8} (h : a = [] ∨ b = [] ∨ a.head? ≠ b.head?) : cpl a b = 0 := by
  rcases a with _ | ⟨x, a⟩
  · simp [cpl]
  · rcases b with _ | ⟨y, b⟩
    · simp [cpl]
    · simp at h
      simp [cpl, h]
theorem cpl_end {a b : List UInt8} {k : Nat} (ha : k ≤ a.length) (hb : k ≤ b.length) (h : a.take k = b.take k) (hs : k = a.length ∨ k = b.length ∨ ∃ (h1 : k < a.length) (h2 : k < b.length), a[k] ≠ b[k]) : cpl a b = k := by
  have hst : List.drop k a = [] ∨ List.drop k b = [] ∨ (List.drop k a).head? ≠ (List.drop k b).head? := by
    rcases hs with rfl | rfl | ⟨h1, h2, h3⟩
    · exact .inl (by simp)
    · exact .inr (.inl (by simp))
    · refine .inr (.inr ?_)
      rw [List.head?_drop, List.head?_drop, List.getElem?_eq_getElem h1, List.getElem?_eq_getElem h2]
      simpa using h3
  rw [cpl_next a b k ha hb h, cpl_stop hst]
  rfl

/-- of kind k, and no data: how many of the first ones -/
def rowGo (k : Int) : List Ce → Nat
  | [] => 0
  | c :: r => if c.1 ≠ 1 ∧ c.1 = k then rowGo k r + 1 else 0
def rowN : List Ce → Nat
  | [] => 0
  | c :: r => rowGo c.1 (c :: r)
theorem rowGo_le (k : Int) : ∀ l, rowGo k l ≤ l.length
  | [] => by simp [rowGo]
  | c :: r => by
    have := rowGo_le k r
    unfold rowGo
    split <;> simp <;> omega
theorem rowN_le (l : List Ce) : rowN l ≤ l.length := by
  cases l
  · simp [rowN]
  · exact rowGo_le _ _
theorem rowGo_end {k : Int} : ∀ {l : List Ce} {n : Nat}, n ≤ l.length → (∀ j (h : j < l.length), j < n → l[j].1 ≠ 1 ∧ l[j].1 = k) → (n = l.length ∨ ∃ h : n < l.length, ¬ (l[n].1 ≠ 1 ∧ l[n].1 = k)) → rowGo k l = n
  | [], n, hn, _, _ => by simp at hn; subst hn; rfl
  | c :: r, 0, _, _, hs => by
    rcases hs with h | ⟨h, hc⟩
    · simp at h
    · simp only [List.getElem_cons_zero] at hc
      unfold rowGo
      rw [if_neg hc]
  | c :: r, n + 1, hn, ha, hs => by
    have h0 := ha 0 (by simp) (by omega)
    simp only [List.getElem_cons_zero] at h0
    unfold rowGo
    rw [if_pos h0, rowGo_end (n := n) (by simpa using hn) (fun j h hj => by have := ha (j + 1) (by simpa using h) (by omega); simp only [List.getElem_cons_succ] at this; exact this)]
    rcases hs with h | ⟨h, hc⟩
    · exact .inl (by simpa using h)
    · exact .inr ⟨by simpa using h, by simp only [List.getElem_cons_succ] at hc; exact hc⟩
/-- the first error -/
def rchk : List Ce → Nat
  | [] => 0
  | c :: r => if cchk c ≠ 0 then cchk c else rchk r
theorem rchk_ok {l : List Ce} (h : ∀ c ∈ l, cchk c = 0) : rchk l = 0 := by
  induction l with
  | nil => rfl
  | cons c r ih =>
    unfold rchk
    rw [if_neg (by simpa using h c (by simp))]
    exact ih fun x hx => h x (by simp [hx])
theorem rchk_at : ∀ {l : List Ce} {k : Nat} (hk : k < l.length), (∀ c ∈ l.take k, cchk c = 0) → cchk l[k] ≠ 0 → rchk l = cchk l[k]
  | c :: r, 0, _, _, h => by
    unfold rchk
    simp only [List.getElem_cons_zero] at h ⊢
    rw [if_pos h]
  | c :: r, k + 1, hk, h, h2 => by
    have h0 := h c (by simp)
    unfold rchk
    rw [if_neg (by simpa using h0)]
    simp only [List.getElem_cons_succ] at h2 ⊢
    exact rchk_at (by simpa using hk) (fun x hx => h x (by simp [hx])) h2

/-- the bytes of a run, without its length, behind the data 'last' -/
def prun (last : List UInt8) : List Ce → List UInt8
  | [] => []
  | c :: r => if 0 < rowN (c :: r) then vb (rowN (c :: r)) ++ vb c.1.toNat ++ prun last ((c :: r).drop (rowN (c :: r)))
    else vb 0 ++ vb c.2.length ++ vb (cpl last c.2) ++ c.2.drop (cpl last c.2) ++ prun c.2 r
  termination_by l => l.length
  decreasing_by
    · simp only [List.length_drop, List.length_cons]; omega
    · simp
theorem prun_row {last : List UInt8} {l : List Ce} (h : 0 < rowN l) : ∃ k : Int, (∃ r d, l = (k, d) :: r) ∧ prun last l = vb (rowN l) ++ vb k.toNat ++ prun last (l.drop (rowN l)) := by
  cases l with
  | nil => simp [rowN] at h
  | cons c r =>
    refine ⟨c.1, ⟨r, c.2, rfl⟩, ?_⟩
    rw [prun, if_pos h]
theorem prun_data {last : List UInt8} {c : Ce} {r : List Ce} (h : rowN (c :: r) = 0) : prun last (c :: r) = vb 0 ++ vb c.2.length ++ vb (cpl last c.2) ++ c.2.drop (cpl last c.2) ++ prun c.2 r := by
  rw [prun, if_neg (by omega)]
theorem rowN_zero {c : Ce} {r : List Ce} : rowN (c :: r) = 0 ↔ c.1 = 1 := by
  unfold rowN rowGo
  by_cases h : c.1 = 1
  · simp [h]
  · simp [h]
end Go.Proofs.Ytgipfenjachpnaa

namespace Go.Proofs.Ytgipfenjachpnaa
open Go.RowKit

theorem cpl_comm : ∀ a b, cpl a b = cpl b a
  | [], [] => rfl
  | [], y :: b => rfl
  | x :: a, [] => rfl
  | x :: a, y :: b => by
    unfold cpl
    by_cases h : x = y
    · subst h; rw [if_pos rfl, if_pos rfl, cpl_comm a b]
    · rw [if_neg h, if_neg (fun e => h e.symm)]
abbrev b1 (n : Nat) : UInt8 := UInt8.ofNat n
/-- cell by cell, the kind of the one ahead known -/
def rgo (prev : Option Int) (last : List UInt8) : List Ce → List UInt8
  | [] => []
  | c :: r => if c.1 = 1 then [0, b1 c.2.length, b1 (cpl c.2 last)] ++ c.2.drop (cpl c.2 last) ++ rgo (some 1) c.2 r
    else if prev = some c.1 then rgo (some c.1) last r else [b1 (rowGo c.1 (c :: r)), b1 c.1.toNat] ++ rgo (some c.1) last r
theorem rgo_skip {k : Int} (hk : k ≠ 1) (last : List UInt8) : ∀ l : List Ce, rgo (some k) last l = rgo (some k) last (l.drop (rowGo k l))
  | [] => by simp
  | c :: r => by
    by_cases h : c.1 = k
    · have h1 : c.1 ≠ 1 := by omega
      rw [rowGo, if_pos ⟨h1, h⟩, List.drop_succ_cons, rgo, if_neg h1, if_pos (by rw [h]), h]
      exact rgo_skip hk last r
    · rw [rowGo, if_neg (fun e => h e.2), List.drop_zero]
theorem rowGo_stop (k : Int) : ∀ (l : List Ce) (c : Ce) (r : List Ce), l.drop (rowGo k l) = c :: r → ¬ (c.1 ≠ 1 ∧ c.1 = k)
  | [], c, r, h => by simp at h
  | x :: l, c, r, h => by
    by_cases hx : x.1 ≠ 1 ∧ x.1 = k
    · rw [rowGo, if_pos hx, List.drop_succ_cons] at h
      exact rowGo_stop k l c r h
    · rw [rowGo, if_neg hx, List.drop_zero] at h
      injection h with h1 h2
      subst h1
      exact hx
theorem rgo_prev {prev : Option Int} (last : List UInt8) {l : List Ce} (h : ∀ c r, l = c :: r → c.1 = 1 ∨ prev ≠ some c.1) : rgo prev last l = rgo none last l := by
  cases l with
  | nil => simp [rgo]
  | cons c r =>
    rw [rgo, rgo]
    by_cases h1 : c.1 = 1
    · rw [if_pos h1, if_pos h1]
    · have h2 := (h c r rfl).resolve_left h1
      rw [if_neg h1, if_neg h1, if_neg h2, if_neg (by simp)]
theorem rgo_prun : ∀ (n : Nat) (l : List Ce) (last : List UInt8), l.length ≤ n → l.length ≤ 64 → (∀ c ∈ l, cchk c = 0) → last.length ≤ 64 → rgo none last l = prun last l
  | _, [], last, _, _, _, _ => by rw [rgo, prun]
  | 0, c :: r, _, h, _, _, _ => by simp at h
  | n + 1, c :: r, last, hn, h64, hok, hl => by
    have hc := cchk_ok (hok c (by simp))
    have hcl := cpl_le last c.2
    simp only [List.length_cons] at hn h64
    by_cases h1 : c.1 = 1
    · rw [rgo, if_pos h1, prun_data (rowN_zero.2 h1), vb_small (by omega), vb_small (n := c.2.length) (by omega), vb_small (n := cpl last c.2) (by omega), cpl_comm c.2 last]
      rw [rgo_prev (prev := some 1) c.2 (fun x r' h => by
        by_cases hx : x.1 = 1
        · exact .inl hx
        · exact .inr (fun e => hx (by injection e with e; omega)))]
      rw [rgo_prun n r c.2 (by omega) (by omega) (fun x hx => hok x (by simp [hx])) (by omega)]
      rfl
    · have hrow : rowN (c :: r) = rowGo c.1 (c :: r) := rfl
      have hpos : 0 < rowN (c :: r) := by
        have := rowN_zero (c := c) (r := r)
        omega
      have hle := rowN_le (c :: r)
      simp only [List.length_cons] at hle
      obtain ⟨k, ⟨r', d, hk⟩, hp⟩ := prun_row (last := last) hpos
      injection hk with hk1 hk2
      have hkc : k = c.1 := by rw [hk1]
      subst hkc
      rw [hp, rgo, if_neg h1, if_neg (by simp), vb_small (n := rowN (c :: r)) (by omega), vb_small (n := c.1.toNat) (by omega), ← hrow]
      have hskip := rgo_skip h1 last r
      have hd : (c :: r).drop (rowN (c :: r)) = r.drop (rowGo c.1 r) := by
        rw [hrow, rowGo, if_pos ⟨h1, rfl⟩, List.drop_succ_cons]
      rw [hskip, hd, rgo_prev (prev := some c.1) last (fun x r' h => by
        have := rowGo_stop c.1 r x r' h
        by_cases hx : x.1 = 1
        · exact .inl hx
        · exact .inr (fun e => this ⟨hx, by injection e with e; exact e.symm⟩))]
      rw [rgo_prun n (r.drop (rowGo c.1 r)) last (by simp; omega) (by simp; omega) (fun x hx => hok x (by simp [List.mem_of_mem_drop hx])) hl]
      rfl
end Go.Proofs.Ytgipfenjachpnaa

namespace Go.Proofs.Ytgipfenjachpnaa
open Go.RowKit

theorem step_append {P : Program} {w : World} {ops : Array Oper} {o : Oper} {a : Act} {K : Act → World → Prop} {Q : Exit → Act → World → Prop} {E : Prop} (hw : Region.wanted o (yielded ops a.tmps) = true) (s x : Operand) (t : TypeId)
    (ho : o.op = .call { callee := .builtin .append, args := #[s, x], argTypes := #[t, t] })
    (base : Nat) (e : TypeId) (i : TypeInfo) (z : Value) (size bytes : Nat) (ht : P.underlying t = some (.slice e)) (hi : P.info? e = some i) (hz : i.zero = some z)
    (hsize : i.size = size) (hby : i.bytes = bytes) (hzs : z.cells.size = size) (hsz : 0 < size)
    (A : Option Addr) (n c : Nat) (xs : List Value) (hs : a.eval s = .slice A n c) (hown : Own w base e size A n c xs)
    (A2 : Option Addr) (m c2 : Nat) (news : List Value) (hx : a.eval x = .slice A2 m c2) (hr : Sl w size A2 m c2 news) (h1 : ∀ u ∈ news, u.oneCell' = true)
    (hbytes : (n + m) * bytes ≤ 140737488355328) (hmax : n + m ≤ maxLen) (hbase : base ≤ w.heap.size)
    (h : ∀ A' c' w', Appd w w' base e size A A' (n + m) c' (xs ++ news) → K (a.put o.dst (.slice A' (n + m) c')) w') :
    if Region.wanted o (yielded ops a.tmps) = true then Oper.wp P o a w K Q else E := by
  rw [if_pos hw]
  obtain ⟨A', c', w', hrun, h2⟩ := run_append_rd (P := P) w base t o.type e i z size bytes ht hi hz hsize hby hzs hsz A n c xs hown A2 m c2 news hr h1 hbytes hmax hbase
  unfold Oper.wp execOp
  simp only [ho, resolve, invoke, builtin, Sem.run_bind, Sem.run_pure, Result.andThen_ok, List.map_toArray, List.map_cons, List.map_nil, hs, hx, hrun]
  exact h A' c' w' h2
/-- append of bytes at a step of a region that draws -/
theorem step_bytes {P : Program} {w : World} {ops : Array Oper} {o : Oper} {a : Act} {K : Act → World → Prop} {Q : Exit → Act → World → Prop} {E : Prop} (t e : TypeId) (ht : P.underlying t = some (.slice e))
    (hinfo : (P.info? e).map (fun i => (i.zero, i.size, i.bytes)) = some (some (.int .u8 0), 1, 1)) (hw : Region.wanted o (yielded ops a.tmps) = true) (s x : Operand)
    (ho : o.op = .call { callee := .builtin .append, args := #[s, x], argTypes := #[t, t] })
    (base : Nat) (A : Option Addr) (c : Nat) (l : List UInt8) (hs : a.eval s = .slice A l.length c) (hown : OwnB w base e A c l)
    (A2 : Option Addr) (c2 n2 : Nat) (l2 : List UInt8) (hn2 : n2 = l2.length) (hx : a.eval x = .slice A2 n2 c2) (hr : SlB w A2 c2 l2)
    (hlen : l.length + l2.length ≤ 140737488355328) (hbase : base ≤ w.heap.size)
    (h : ∀ A' c' (m : List UInt8) w', Hid (m = l ++ l2) → OwnB w' base e A' c' m → Below base w w' → K (a.put o.dst (.slice A' m.length c')) w') :
    if Region.wanted o (yielded ops a.tmps) = true then Oper.wp P o a w K Q else E := by
  subst hn2
  obtain ⟨i0, hi, hz0, hz1, hz2⟩ := info_parts hinfo
  refine step_append hw s x t ho base e i0 (.int .u8 0) 1 1 ht hi hz0 hz1 hz2 rfl (by decide) A l.length c (bvs l) hs hown A2 l2.length c2 (bvs l2) hx hr (one_bvs l2) (by omega) (by simp only [maxLen]; omega) hbase ?_
  intro A' c' w' hap
  rw [← List.length_append]
  refine h A' c' (l ++ l2) w' rfl ?_ (hap.below hown hbase)
  have := hap.own
  simpa [OwnB] using this
/-- append of bytes under a guard that is met -/
theorem wpg_bytes {P : Program} {w : World} {ops : Array Oper} {rest : List Oper} {o : Oper} {a : Act} {Q : Exit → Act → World → Prop} (t e : TypeId) (ht : P.underlying t = some (.slice e))
    (hinfo : (P.info? e).map (fun i => (i.zero, i.size, i.bytes)) = some (some (.int .u8 0), 1, 1)) (hw : Region.wanted o (yielded ops a.tmps) = true) (s x : Operand)
    (ho : o.op = .call { callee := .builtin .append, args := #[s, x], argTypes := #[t, t] })
    (base : Nat) (A : Option Addr) (c : Nat) (l : List UInt8) (hs : a.eval s = .slice A l.length c) (hown : OwnB w base e A c l)
    (A2 : Option Addr) (c2 : Nat) (l2 : List UInt8) (hx : a.eval x = .slice A2 l2.length c2) (hr : SlB w A2 c2 l2)
    (hlen : l.length + l2.length ≤ 140737488355328) (hbase : base ≤ w.heap.size)
    (h : ∀ A' c' (m : List UInt8) w', Hid (m = l ++ l2) → OwnB w' base e A' c' m → Below base w w' → wpList P ops Q rest (a.put o.dst (.slice A' m.length c')) w') : wpList P ops Q (o :: rest) a w :=
  wpList_step fun _ hK => step_bytes t e ht hinfo hw s x ho base A c l hs hown A2 c2 l2.length l2 rfl hx hr hlen hbase fun A' c' m w' h1 h2 h3 => hK _ _ (h A' c' m w' h1 h2 h3)
/-- 'append([]byte{}, x...)' under a guard that is met -/
theorem wpg_fresh {P : Program} {w : World} {ops : Array Oper} {rest : List Oper} {o : Oper} {a : Act} {Q : Exit → Act → World → Prop} (t e : TypeId) (ht : P.underlying t = some (.slice e))
    (hinfo : (P.info? e).map (fun i => (i.zero, i.size, i.bytes)) = some (some (.int .u8 0), 1, 1)) (hw : Region.wanted o (yielded ops a.tmps) = true) (s x : Operand)
    (ho : o.op = .call { callee := .builtin .append, args := #[s, x], argTypes := #[t, t] })
    (hs : a.eval s = .slice (some ⟨w.heap.size, 0, none⟩) 0 0) (A2 : Option Addr) (c2 : Nat) (l2 : List UInt8) (hx : a.eval x = .slice A2 l2.length c2) (hr : SlB w A2 c2 l2) (hlen : l2.length ≤ 140737488355328)
    (h : ∀ A' c' (m : List UInt8) w', Hid (m = l2) → OwnB w' w.heap.size e A' c' m → Below w.heap.size w w' → wpList P ops Q rest (a.put o.dst (.slice A' m.length c')) w') : wpList P ops Q (o :: rest) a (w.alloc (.cells #[] e)) := by
  refine wpg_bytes t e ht hinfo hw s x ho w.heap.size (some ⟨w.heap.size, 0, none⟩) 0 [] hs (Own.lit 1 (Nat.le_refl _)) A2 c2 l2 hx (hr.below (below_new _ _)) (by simpa using hlen) (by simp) ?_
  intro A' c' m w' hm ho' hb
  exact h A' c' m w' hm ho' ((below_new _ _).trans hb)
end Go.Proofs.Ytgipfenjachpnaa

namespace Go.Proofs.Ytgipfenjachpnaa
open Go.RowKit

theorem u8_info : (Try.prog.info? 5).map (fun i => (i.zero, i.size, i.bytes)) = some (some (.int .u8 0), 1, 1) := by kernel_rfl

/-- new bytes -/
def GivesB (w0 : World) (l : List UInt8) (e : Ending) (w' : World) : Prop :=
  ∃ A c m, e = .returned (.slice A m.length c) ∧ Hid (m = l) ∧ OwnB w' w0.heap.size 5 A c m ∧ Below w0.heap.size w0 w'

set_option maxRecDepth 100000 in
set_option maxHeartbeats 400000 in
theorem put_any (A : Option Addr) (c : Nat) (l : List UInt8) (n : Nat) (hn : U64 n) (w : World) (base : Nat) (hbase : base ≤ w.heap.size) (hl : l.length ≤ 1000000000)
   (hown : OwnB w base 5 A c l) :
    Calls Try.prog 101 #[.slice A l.length c, .int .u64 n] w fun e w' => ∃ A' c' m, e = .returned (.slice A' m.length c') ∧ Hid (m = l ++ vb n) ∧ OwnB w' base 5 A' c' m ∧ Below base w w' := by
  go_enter Try.func101, Try.ntmps101
  go_wp2
  go_loopw [0, 1] (fun v x wr => ∃ (k : Nat) (B : Option Addr) (d : Nat) (m : List UInt8), x = .int .u64 k ∧ v = .slice B m.length d ∧ Hid (l ++ vb n = m ++ vb k) ∧ Hid (U64 k) ∧ OwnB wr base 5 B d m ∧ Below base w wr) (fun v x w => (intOf x).toNat)
  case atStart => exact ⟨n, A, c, l, rfl, rfl, rfl, hn, hown, Below.refl _ _⟩
  case round =>
    obtain ⟨k, B, d, m, rfl, rfl, hm, hk, hownr, hbr⟩ := hrel
    have hml : m.length ≤ 1000000010 := by
      have h1 := congrArg List.length hm.out
      have h2 := vb_le10 hn
      simp only [List.length_append] at h1
      omega
    clear hown
    by_cases h128 : 128 ≤ k
    · have hs := Lib.hid (vb_step h128)
      go_wp2_with (at_builtin; go_must (refine wpl_byte 22 5 Try.underlying22 u8_info rfl _ _ rfl base B d m _ (UInt8.ofNat (k % 128 + 128)) (byte_more k) rfl hownr rfl (by omega) (by have := hbr.size; omega) ?_; intro A1 c1 m1 w1 hm1 ho1 _ _ hb1))
      go_roundw
      case rel => exact ⟨k / 128, A1, c1, m1, rfl, rfl, by rw [hm1.out, hm.out, hs.out]; show _ = _; simp, hk.out.div 128, ho1, hbr.trans hb1⟩
      case measure => simp [intOf]; omega
    · have hs := Lib.hid (vb_small (n := k) (by omega))
      go_wp2_with (at_builtin; go_must (refine wpl_byte 22 5 Try.underlying22 u8_info rfl _ _ rfl base B d m _ (UInt8.ofNat k) (byte_last (by omega)) rfl hownr rfl (by omega) (by have := hbr.size; omega) ?_; intro A1 c1 m1 w1 hm1 ho1 _ _ hb1))
      go_ret
      exact ⟨A1, c1, m1, rfl, by rw [hm1.out, hm.out, hs.out]; rfl, ho1, hbr.trans hb1⟩

set_option maxRecDepth 100000 in
set_option maxHeartbeats 400000 in
theorem clone_any (A : Option Addr) (c : Nat) (l : List UInt8) (w : World) (hl : l.length ≤ 1000000000) (hs : SlB w A c l) :
    Calls Try.prog 60 #[.slice A l.length c] w (GivesB w l) := by
  have hq := fun (w : World) (A : Option Addr) (n c : Nat) => Lib.run_eql_slice_nil (P := Try.prog) w 22 5 A n c 0 0 Try.underlying22
  rcases A with _ | ad
  · obtain ⟨rfl, rfl⟩ := hs.of_none
    go_enter Try.func60, Try.ntmps60
    go_wp2
    go_ret
    exact ⟨none, 0, [], rfl, rfl, Own.none_ _ _ _ _, Below.refl _ _⟩
  · go_enter Try.func60, Try.ntmps60
    go_wp2_with (at_builtin; go_must (refine wpl_bytes 22 5 Try.underlying22 u8_info rfl _ _ rfl w.heap.size (some ⟨w.heap.size, 0, none⟩) 0 [] rfl (Own.lit 1 (Nat.le_refl _)) (some ad) c l rfl (hs.below ((Below.refl _ _).alloc (Nat.le_refl _) _)) (by simp; omega) (by simp) ?_; intro A1 c1 m1 w1 hm1 ho1 _ _ hb1))
    go_ret
    exact ⟨A1, c1, m1, rfl, hm1, ho1, ((Below.refl _ _).alloc (Nat.le_refl _) _).trans hb1⟩

theorem u64_info : (Try.prog.info? 118).map (fun i => (i.zero, i.size, i.bytes)) = some (some (.int .u64 0), 1, 8) := by kernel_rfl
abbrev nv (n : Nat) : Value := .int .u64 (n : Int)
/-- numbers of 64 bits that can be read -/
abbrev SlN (w : World) (A : Option Addr) (c : Nat) (l : List Nat) : Prop := Sl w 1 A l.length c (l.map nv)

set_option maxRecDepth 100000 in
set_option maxHeartbeats 400000 in
theorem Put_any (A : Option Addr) (c : Nat) (l : List UInt8) (A2 : Option Addr) (c2 : Nat) (ns : List Nat) (w : World) (hl : l.length ≤ 100000000) (hs : SlB w A c l) (hn : SlN w A2 c2 ns) (hns : ns.length ≤ 1000000) (h64 : ∀ n ∈ ns, U64 n) :
    Calls Try.prog 58 #[.slice A l.length c, .slice A2 ns.length c2] w (GivesB w (l ++ vbs ns)) := by
  have hmax := hn.len_le
  unfold maxLen at hmax
  go_enter Try.func58, Try.ntmps58
  go_wp2_with fail
  refine (clone_any A c l w (by omega) hs).mono ?_
  rintro e w1 ⟨A1, c1, m1, rfl, hm1, ho1, hb1⟩
  have hn1 := hn.below hb1
  have hml : m1.length ≤ 100000000 := by rw [hm1.out]; exact hl
  go_wp2_with fail
  go_loopw [5, 12] (fun v x wr => ∃ (k : Nat) (B : Option Addr) (d : Nat) (m : List UInt8), k ≤ ns.length ∧ x = .int .i64 k ∧ v = .slice B m.length d ∧ Hid (m = l ++ vbs (ns.take k)) ∧ OwnB wr w.heap.size 5 B d m ∧ Below w.heap.size w wr) (fun v x w => ns.length - (intOf x).toNat)
  case atStart => exact ⟨0, A1, c1, m1, Nat.zero_le _, rfl, rfl, by rw [hm1.out]; show _ = _; simp [vbs], ho1, hb1⟩
  case round =>
    obtain ⟨k, B, d, m, hk, rfl, rfl, hm, hor, hbr⟩ := hrel
    by_cases hlt : k < ns.length
    · obtain ⟨ad, rfl, hc⟩ := (hn.below hbr).at1 hlt
      have hml : m.length ≤ 200000000 := by
        have h2 := vbs_le (l := ns.take k) (fun n hn => h64 n (List.mem_of_mem_take hn))
        have h3 := congrArg List.length hm.out
        simp only [List.length_append, List.length_take] at h3 h2
        omega
      go_wp2_with fail
      refine (put_any B d m ns[k] (h64 _ (List.getElem_mem hlt)) _ w.heap.size hbr.size (by omega) hor).mono ?_
      rintro e w2 ⟨A2, c2, m2, rfl, hm2, ho2, hb2⟩
      go_wp2_with fail
      go_roundw
      case rel => exact ⟨k + 1, A2, c2, m2, hlt, by go_num, rfl, by rw [hm2.out, hm.out, vbs_snoc hlt]; show _ = _; simp, ho2, hbr.trans hb2⟩
      case measure => simp [intOf]; omega
    · go_wp2_with fail
      go_ret
      exact ⟨B, d, m, rfl, by rw [hm.out, List.take_of_length_le (by omega)]; rfl, hor, hbr⟩

set_option maxRecDepth 100000 in
set_option maxHeartbeats 400000 in
theorem PutText_any (A : Option Addr) (c : Nat) (l : List UInt8) (A2 : Option Addr) (c2 : Nat) (t : List UInt8) (w : World) (hl : l.length ≤ 10000000) (hs : SlB w A c l) (hn : SlB w A2 c2 t) (hns : t.length ≤ 10000000) :
    Calls Try.prog 59 #[.slice A l.length c, .slice A2 t.length c2] w (GivesB w (l ++ (vb t.length ++ t))) := by
  have hu : U64 t.length := by unfold U64; omega
  go_enter Try.func59, Try.ntmps59
  go_wp2_with fail
  have hs0 := hs.below (below_new w (Obj.cells #[Value.int IntKind.u64 t.length] 118))
  have hn0 := hn.below (below_new w (Obj.cells #[Value.int IntKind.u64 t.length] 118))
  refine (Put_any A c l (some ⟨w.heap.size, 0, none⟩) 1 [t.length] _ (by omega) hs0 (Sl.lits w [nv t.length] 118 (by simp [maxLen])) (by simp) (by simpa using hu)).mono ?_
  rintro e w1 ⟨A1, c1, m1, rfl, hm1, ho1, hb1⟩
  have hb1' := (below_new w (Obj.cells #[Value.int IntKind.u64 t.length] 118)).trans (hb1.mono (size_new _ _))
  have hml : m1.length ≤ 10000010 := by
    rw [hm1.out]
    have := vb_le10 hu
    simp [vbs]
    omega
  go_wp2_with (at_builtin; go_must (refine wpl_bytes 22 5 Try.underlying22 u8_info rfl _ _ rfl w.heap.size A1 c1 m1 rfl (ho1.more (size_new _ _)) A2 c2 t rfl (hn0.below hb1) (by omega) hb1'.size ?_; intro A3 c3 m3 w3 hm3 ho3 _ _ hb3))
  go_ret
  exact ⟨A3, c3, m3, rfl, by rw [hm3.out, hm1.out]; show _ = _; simp [vbs], ho3, hb1'.trans hb3⟩

/-- what Take answers -/
def TakeOut (o : Option (Nat × Nat)) (w : World) (e : Ending) (w' : World) : Prop :=
  w = w' ∧ ((o = none ∧ e = .returned (.tuple #[.int .u64 0, .int .i64 0, .iface 115 (.int .i64 2)])) ∨ ∃ n k : Nat, o = some (n, k) ∧ e = .returned (.tuple #[.int .u64 n, .int .i64 k, .nilIface]))

set_option maxRecDepth 100000 in
set_option maxHeartbeats 1000000 in
theorem Take_any (A : Option Addr) (c : Nat) (l : List UInt8) (w : World) (hs : SlB w A c l) :
    Calls Try.prog 108 #[.slice A l.length c] w (TakeOut (take l) w) := by
  have hc1 := hs.2.1
  have hc2 := hs.2.2.1
  unfold maxLen at hc2
  by_cases hL : 10 < l.length
  all_goals
    go_enter Try.func108, Try.ntmps108
    go_wp2_with fail
    go_loop [3, 5, 15] (fun _ v x => ∃ (k n : Nat), k ≤ l.length ∧ k ≤ 10 ∧ x = .int .i64 k ∧ v = .int .u64 n ∧ Hid (n < 128 ^ k) ∧ Hid (take l = tk k n (l.drop k))) (fun _ v x => l.length - (intOf x).toNat)
    case atStart => exact ⟨0, 0, Nat.zero_le _, by omega, rfl, rfl, (show _ < _ by simp), rfl⟩
    case round =>
      obtain ⟨k, n, hk, hk10, rfl, rfl, hn, ht⟩ := hrel
      by_cases hlt : k < l.length ∧ k < 10
      · obtain ⟨hlt, hlt10⟩ := hlt
        obtain ⟨ad, rfl, hc⟩ := hs.at1 hlt
        have htd := Lib.hid (tk_drop hlt k n)
        generalize l[k] = x at *
        by_cases ha : k = 9 ∧ 1 < x.toNat
        · obtain ⟨hk9, ha⟩ := ha
          have hkb : ((k : Int) == 9) = true := by simp; omega
          have Hk9 := Lib.hid hk9
          clear hk9
          go_wp2_with fail
          go_ret3
          exact ⟨rfl, .inl ⟨by rw [ht.out, htd.out, if_pos (Or.inr ⟨Hk9.out, ha⟩)], rfl⟩⟩
        by_cases hb : 128 ≤ x.toNat
        · have hk9 : ¬ k = 9 := by omega
          go_wp2_with fail
          go_round
          case rel => exact ⟨k + 1, n + x.toNat % 128 * 128 ^ k, by omega, by omega, by go_num, congrArg (Value.int .u64) (or_part x n k hn.out (by omega) (fun h => absurd h hk9)), (show _ < _ from next_lt hn.out), (show _ = _ by rw [ht.out, htd.out, if_neg (by omega), if_pos hb])⟩
          case measure => simp [intOf]; omega
        by_cases hd : x.toNat = 0 ∧ 0 < k
        · obtain ⟨hd0, hdk⟩ := hd
          go_wp2_with fail
          all_goals
            go_ret3
            exact ⟨rfl, .inl ⟨by rw [ht.out, htd.out, if_neg (by omega), if_neg hb, if_pos ⟨hd0, hdk⟩], rfl⟩⟩
        · have hx : x.toNat % 128 = x.toNat := by omega
          have hv := or_part x n k hn.out (by omega) (by omega)
          rw [hx] at hv
          have Hx := Lib.hid hx
          have Hv := Lib.hid hv
          have Hd := Lib.hid hd
          have ht' : Hid (take l = some (n + x.toNat * 128 ^ k, k + 1)) := (show _ = _ by rw [ht.out, htd.out, if_neg (by omega), if_neg hb, if_neg hd])
          clear hx hv hd
          rcases Decidable.em (x.toNat = 0) with h0 | h0
          · have hb0 : ((x.toNat : Int) == 0) = true := by simp; omega
            have hk0 : ¬ (0 < k) := fun h => Hd.out ⟨h0, h⟩
            have H0 := Lib.hid h0
            clear h0
            have hk9 : ((k : Int) == 9) = false := by simp; omega
            go_wp2_with fail
            go_ret3
            refine ⟨rfl, .inr ⟨n + x.toNat * 128 ^ k, k + 1, ht'.out, ?_⟩⟩
            rw [← Hv.out]
            rfl
          · have hb0 : ((x.toNat : Int) == 0) = false := by simp; omega
            go_wp2_with fail
            all_goals
              go_ret3
              refine ⟨rfl, .inr ⟨n + x.toNat * 128 ^ k, k + 1, ht'.out, ?_⟩⟩
              rw [← Hv.out]
              first | rfl | (obtain rfl : k = 9 := (by omega); rfl)
      · first | (have hge : 10 ≤ k := by omega) | (have hge : l.length ≤ k := by omega)
        go_wp2_with fail
        go_ret3
        exact ⟨rfl, .inl ⟨by rw [ht.out]; first | (rw [show k = 10 from by omega]; exact tk_end _ _) | (rw [List.drop_eq_nil_of_le (by omega)]; rfl), rfl⟩⟩

theorem vb300 : vb 300 = [172, 2] := by rw [vb_step (by omega), vb_small (by omega)]; decide
theorem vbs300 : [] ++ vbs [300] = [172, 2] := by simp [vbs, vb300]
theorem take300 : take [172, 2] = some (300, 2) := by decide

theorem take_succ_eq {T : Type} {xs ys : List T} {k : Nat} (h : xs.take k = ys.take k) (hx : k < xs.length) (hy : k < ys.length) : xs.take (k + 1) = ys.take (k + 1) ↔ xs[k] = ys[k] := by
  rw [List.take_succ_eq_append_getElem hx, List.take_succ_eq_append_getElem hy, h]
  exact ⟨fun e => by have := List.append_cancel_left e; simpa using this, fun e => by rw [e]⟩
theorem nv_ne {a b : Nat} (h : a ≠ b) : ((a : Int) != (b : Int)) = true := by simp; omega

end Go.Proofs.Ytgipfenjachpnaa
