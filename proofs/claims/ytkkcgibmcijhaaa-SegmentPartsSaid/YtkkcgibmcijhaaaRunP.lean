/- WHAT IT HOLDS: the bytes of a run of cells, plainly (no program). -/
import Derived.Test.YtkkcgibmcijhaaaCellP
namespace Go.Proofs.Ytkkcgibmcijhaaa
open Go.RowKit

/-- how many first bytes two texts have in common -/
def cpl : List UInt8 → List UInt8 → Nat
  | x :: a, y :: b => if x = y then cpl a b + 1 else 0
  | _, _ => 0
theorem cpl_le : ∀ a b, cpl a b ≤ a.length ∧ cpl a b ≤ b.length
  | [], b => by simp [cpl]
  | x :: a, [] => by simp [cpl]
  | x :: a, y :: b => by
    have := cpl_le a b
    unfold cpl
    split <;> simp <;> omega
theorem cpl_next : ∀ (a b : List UInt8) (k : Nat), k ≤ a.length → k ≤ b.length → a.take k = b.take k → cpl a b = k + cpl (a.drop k) (b.drop k)
  | a, b, 0, _, _, _ => by simp
  | x :: a, y :: b, k + 1, ha, hb, h => by
    simp only [List.take_succ_cons, List.cons.injEq] at h
    obtain ⟨rfl, h⟩ := h
    have := cpl_next a b k (by simpa using ha) (by simpa using hb) h
    simp only [List.drop_succ_cons]
    rw [cpl, if_pos rfl, this]
    omega
theorem cpl_take : ∀ (a b : List UInt8), a.take (cpl a b) = b.take (cpl a b)
  | [], b => by simp [cpl]
  | x :: a, [] => by simp [cpl]
  | x :: a, y :: b => by
    unfold cpl
    split
    · rename_i h
      subst h
      simp [cpl_take a b]
    · simp
theorem cpl_stop {a b : List UInt8} (h : a = [] ∨ b = [] ∨ a.head? ≠ b.head?) : cpl a b = 0 := by
  rcases a with _ | ⟨x, a⟩
  · simp [cpl]
  · rcases b with _ | ⟨y, b⟩
    · simp [cpl]
    · simp at h
      simp [cpl, h]
theorem cpl_end {a b : List UInt8} {k : Nat} (ha : k ≤ a.length) (hb : k ≤ b.length) (h : a.take k = b.take k) (hs : k = a.length ∨ k = b.length ∨ ∃ (h1 : k < a.length) (h2 : k < b.length), a[k] ≠ b[k]) : cpl a b = k := by
  have hst : List.drop k a = [] ∨ List.drop k b = [] ∨ (List.drop k a).head? ≠ (List.drop k b).head? := by
    rcases hs with rfl | rfl | ⟨h1, h2, h3⟩
    · exact .inl (by simp)
    · exact .inr (.inl (by simp))
    · refine .inr (.inr ?_)
      rw [List.head?_drop, List.head?_drop, List.getElem?_eq_getElem h1, List.getElem?_eq_getElem h2]
      simpa using h3
  rw [cpl_next a b k ha hb h, cpl_stop hst]
  rfl

/-- of kind k, and no data: how many of the first ones -/
def rowGo (k : Int) : List Ce → Nat
  | [] => 0
  | c :: r => if c.1 ≠ 1 ∧ c.1 = k then rowGo k r + 1 else 0
def rowN : List Ce → Nat
  | [] => 0
  | c :: r => rowGo c.1 (c :: r)
theorem rowGo_le (k : Int) : ∀ l, rowGo k l ≤ l.length
  | [] => by simp [rowGo]
  | c :: r => by
    have := rowGo_le k r
    unfold rowGo
    split <;> simp <;> omega
theorem rowN_le (l : List Ce) : rowN l ≤ l.length := by
  cases l
  · simp [rowN]
  · exact rowGo_le _ _
theorem rowGo_end {k : Int} : ∀ {l : List Ce} {n : Nat}, n ≤ l.length → (∀ j (h : j < l.length), j < n → l[j].1 ≠ 1 ∧ l[j].1 = k) → (n = l.length ∨ ∃ h : n < l.length, ¬ (l[n].1 ≠ 1 ∧ l[n].1 = k)) → rowGo k l = n
  | [], n, hn, _, _ => by simp at hn; subst hn; rfl
  | c :: r, 0, _, _, hs => by
    rcases hs with h | ⟨h, hc⟩
    · simp at h
    · simp only [List.getElem_cons_zero] at hc
      unfold rowGo
      rw [if_neg hc]
  | c :: r, n + 1, hn, ha, hs => by
    have h0 := ha 0 (by simp) (by omega)
    simp only [List.getElem_cons_zero] at h0
    unfold rowGo
    rw [if_pos h0, rowGo_end (n := n) (by simpa using hn) (fun j h hj => by have := ha (j + 1) (by simpa using h) (by omega); simp only [List.getElem_cons_succ] at this; exact this)]
    rcases hs with h | ⟨h, hc⟩
    · exact .inl (by simpa using h)
    · exact .inr ⟨by simpa using h, by simp only [List.getElem_cons_succ] at hc; exact hc⟩
/-- the first error -/
def rchk : List Ce → Nat
  | [] => 0
  | c :: r => if cchk c ≠ 0 then cchk c else rchk r
theorem rchk_ok {l : List Ce} (h : ∀ c ∈ l, cchk c = 0) : rchk l = 0 := by
  induction l with
  | nil => rfl
  | cons c r ih =>
    unfold rchk
    rw [if_neg (by simpa using h c (by simp))]
    exact ih fun x hx => h x (by simp [hx])
theorem rchk_at : ∀ {l : List Ce} {k : Nat} (hk : k < l.length), (∀ c ∈ l.take k, cchk c = 0) → cchk l[k] ≠ 0 → rchk l = cchk l[k]
  | c :: r, 0, _, _, h => by
    unfold rchk
    simp only [List.getElem_cons_zero] at h ⊢
    rw [if_pos h]
  | c :: r, k + 1, hk, h, h2 => by
    have h0 := h c (by simp)
    unfold rchk
    rw [if_neg (by simpa using h0)]
    simp only [List.getElem_cons_succ] at h2 ⊢
    exact rchk_at (by simpa using hk) (fun x hx => h x (by simp [hx])) h2

/-- the bytes of a run, without its length, behind the data 'last' -/
def prun (last : List UInt8) : List Ce → List UInt8
  | [] => []
  | c :: r => if 0 < rowN (c :: r) then vb (rowN (c :: r)) ++ vb c.1.toNat ++ prun last ((c :: r).drop (rowN (c :: r)))
    else vb 0 ++ vb c.2.length ++ vb (cpl last c.2) ++ c.2.drop (cpl last c.2) ++ prun c.2 r
  termination_by l => l.length
  decreasing_by
    · simp only [List.length_drop, List.length_cons]; omega
    · simp
theorem prun_row {last : List UInt8} {l : List Ce} (h : 0 < rowN l) : ∃ k : Int, (∃ r d, l = (k, d) :: r) ∧ prun last l = vb (rowN l) ++ vb k.toNat ++ prun last (l.drop (rowN l)) := by
  cases l with
  | nil => simp [rowN] at h
  | cons c r =>
    refine ⟨c.1, ⟨r, c.2, rfl⟩, ?_⟩
    rw [prun, if_pos h]
theorem prun_data {last : List UInt8} {c : Ce} {r : List Ce} (h : rowN (c :: r) = 0) : prun last (c :: r) = vb 0 ++ vb c.2.length ++ vb (cpl last c.2) ++ c.2.drop (cpl last c.2) ++ prun c.2 r := by
  rw [prun, if_neg (by omega)]
theorem rowN_zero {c : Ce} {r : List Ce} : rowN (c :: r) = 0 ↔ c.1 = 1 := by
  unfold rowN rowGo
  by_cases h : c.1 = 1
  · simp [h]
  · simp [h]
end Go.Proofs.Ytkkcgibmcijhaaa
