/- WHAT IT HOLDS: the document's bytes of a run, plainly, are the same (no program). -/
import Derived.Test.YtkkcgibmcijhaaaRunP
namespace Go.Proofs.Ytkkcgibmcijhaaa
open Go.RowKit

theorem cpl_comm : ∀ a b, cpl a b = cpl b a
  | [], [] => rfl
  | [], y :: b => rfl
  | x :: a, [] => rfl
  | x :: a, y :: b => by
    unfold cpl
    by_cases h : x = y
    · subst h; rw [if_pos rfl, if_pos rfl, cpl_comm a b]
    · rw [if_neg h, if_neg (fun e => h e.symm)]
abbrev b1 (n : Nat) : UInt8 := UInt8.ofNat n
/-- cell by cell, the kind of the one ahead known -/
def rgo (prev : Option Int) (last : List UInt8) : List Ce → List UInt8
  | [] => []
  | c :: r => if c.1 = 1 then [0, b1 c.2.length, b1 (cpl c.2 last)] ++ c.2.drop (cpl c.2 last) ++ rgo (some 1) c.2 r
    else if prev = some c.1 then rgo (some c.1) last r else [b1 (rowGo c.1 (c :: r)), b1 c.1.toNat] ++ rgo (some c.1) last r
theorem rgo_skip {k : Int} (hk : k ≠ 1) (last : List UInt8) : ∀ l : List Ce, rgo (some k) last l = rgo (some k) last (l.drop (rowGo k l))
  | [] => by simp
  | c :: r => by
    by_cases h : c.1 = k
    · have h1 : c.1 ≠ 1 := by omega
      rw [rowGo, if_pos ⟨h1, h⟩, List.drop_succ_cons, rgo, if_neg h1, if_pos (by rw [h]), h]
      exact rgo_skip hk last r
    · rw [rowGo, if_neg (fun e => h e.2), List.drop_zero]
theorem rowGo_stop (k : Int) : ∀ (l : List Ce) (c : Ce) (r : List Ce), l.drop (rowGo k l) = c :: r → ¬ (c.1 ≠ 1 ∧ c.1 = k)
  | [], c, r, h => by simp at h
  | x :: l, c, r, h => by
    by_cases hx : x.1 ≠ 1 ∧ x.1 = k
    · rw [rowGo, if_pos hx, List.drop_succ_cons] at h
      exact rowGo_stop k l c r h
    · rw [rowGo, if_neg hx, List.drop_zero] at h
      injection h with h1 h2
      subst h1
      exact hx
theorem rgo_prev {prev : Option Int} (last : List UInt8) {l : List Ce} (h : ∀ c r, l = c :: r → c.1 = 1 ∨ prev ≠ some c.1) : rgo prev last l = rgo none last l := by
  cases l with
  | nil => simp [rgo]
  | cons c r =>
    rw [rgo, rgo]
    by_cases h1 : c.1 = 1
    · rw [if_pos h1, if_pos h1]
    · have h2 := (h c r rfl).resolve_left h1
      rw [if_neg h1, if_neg h1, if_neg h2, if_neg (by simp)]
theorem rgo_prun : ∀ (n : Nat) (l : List Ce) (last : List UInt8), l.length ≤ n → l.length ≤ 64 → (∀ c ∈ l, cchk c = 0) → last.length ≤ 64 → rgo none last l = prun last l
  | _, [], last, _, _, _, _ => by rw [rgo, prun]
  | 0, c :: r, _, h, _, _, _ => by simp at h
  | n + 1, c :: r, last, hn, h64, hok, hl => by
    have hc := cchk_ok (hok c (by simp))
    have hcl := cpl_le last c.2
    simp only [List.length_cons] at hn h64
    by_cases h1 : c.1 = 1
    · rw [rgo, if_pos h1, prun_data (rowN_zero.2 h1), vb_small (by omega), vb_small (n := c.2.length) (by omega), vb_small (n := cpl last c.2) (by omega), cpl_comm c.2 last]
      rw [rgo_prev (prev := some 1) c.2 (fun x r' h => by
        by_cases hx : x.1 = 1
        · exact .inl hx
        · exact .inr (fun e => hx (by injection e with e; omega)))]
      rw [rgo_prun n r c.2 (by omega) (by omega) (fun x hx => hok x (by simp [hx])) (by omega)]
      rfl
    · have hrow : rowN (c :: r) = rowGo c.1 (c :: r) := rfl
      have hpos : 0 < rowN (c :: r) := by
        have := rowN_zero (c := c) (r := r)
        omega
      have hle := rowN_le (c :: r)
      simp only [List.length_cons] at hle
      obtain ⟨k, ⟨r', d, hk⟩, hp⟩ := prun_row (last := last) hpos
      injection hk with hk1 hk2
      have hkc : k = c.1 := by rw [hk1]
      subst hkc
      rw [hp, rgo, if_neg h1, if_neg (by simp), vb_small (n := rowN (c :: r)) (by omega), vb_small (n := c.1.toNat) (by omega), ← hrow]
      have hskip := rgo_skip h1 last r
      have hd : (c :: r).drop (rowN (c :: r)) = r.drop (rowGo c.1 r) := by
        rw [hrow, rowGo, if_pos ⟨h1, rfl⟩, List.drop_succ_cons]
      rw [hskip, hd, rgo_prev (prev := some c.1) last (fun x r' h => by
        have := rowGo_stop c.1 r x r' h
        by_cases hx : x.1 = 1
        · exact .inl hx
        · exact .inr (fun e => this ⟨hx, by injection e with e; exact e.symm⟩))]
      rw [rgo_prun n (r.drop (rowGo c.1 r)) last (by simp; omega) (by simp; omega) (fun x hx => hok x (by simp [List.mem_of_mem_drop hx])) hl]
      rfl
end Go.Proofs.Ytkkcgibmcijhaaa
