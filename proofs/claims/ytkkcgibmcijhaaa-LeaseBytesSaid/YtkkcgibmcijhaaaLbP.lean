/- WHAT IT HOLDS: a lease's bytes, plainly (no program). -/
import Derived.Test.YtkkcgibmcijhaaaFrmX
import Derived.Test.YtkkcgibmcijhaaaBackP
import Derived.Test.YtkkcgibmcijhaaaLeaseR
namespace Go.Proofs.Ytkkcgibmcijhaaa
open Go.RowKit

/-- what a frame was taken from is that frame -/
theorem ftake_back {l : List UInt8} (h : (ftake l).2.2 = 0) : (ftake l).1.length ≤ 65536 ∧ l.take (ftake l).2.1 = frm (ftake l).1 := by
  unfold ftake at h ⊢
  split at h
  · simp at h
  · rename_i n k hv
    obtain ⟨hu, hk, htk⟩ := take_some hv
    by_cases h1 : 65536 < n
    · rw [if_pos h1] at h; simp at h
    rw [if_neg h1] at h ⊢
    by_cases h2 : l.length < k + n + 4
    · rw [if_pos h2] at h; simp at h
    rw [if_neg h2] at h ⊢
    by_cases h3 : four (sumW (l.take (k + n))) = (l.drop (k + n)).take 4
    · rw [if_pos h3]
      dsimp only
      have hln : ((l.take (k + n)).drop k).length = n := by simp; omega
      have htx : txb ((l.take (k + n)).drop k) = l.take (k + n) := by
        unfold txb
        rw [hln, ← htk]
        have h5 : (l.take (k + n)).take k = l.take k := by rw [List.take_take, Nat.min_eq_left (by omega)]
        rw [← h5, List.take_append_drop]
      refine ⟨by omega, ?_⟩
      unfold frm
      rw [htx, h3, ← List.take_add]
    · rw [if_neg h3] at h; simp at h
theorem fone_back {l : List UInt8} (h : (fone l).2 = 0) : (fone l).1.length ≤ 65536 ∧ l = frm (fone l).1 := by
  unfold fone at h ⊢
  by_cases h1 : (ftake l).2.2 ≠ 0
  · rw [if_pos h1] at h; exact absurd h h1
  rw [if_neg h1] at h ⊢
  by_cases h2 : (ftake l).2.1 < l.length
  · rw [if_pos h2] at h; simp at h
  rw [if_neg h2]
  have h3 := ftake_back (l := l) (by omega)
  refine ⟨h3.1, ?_⟩
  rw [List.take_of_length_le (by omega)] at h3
  exact h3.2
theorem fone_frm {t : List UInt8} (h : t.length ≤ 65536) : fone (frm t) = (t, 0) := by
  have h1 := ftake_frm t [] h
  rw [List.append_nil] at h1
  unfold fone
  rw [h1, if_neg (by simp), if_neg (by simp)]
theorem rNum_some {s : List UInt8 × Nat} (h : (rNum s).2.2 = 0) : s.2 = 0 ∧ U64 (rNum s).1 ∧ s.1 = vb (rNum s).1 ++ (rNum s).2.1 := by
  unfold rNum at h ⊢
  by_cases h0 : s.2 ≠ 0
  · rw [if_pos h0] at h; exact absurd h h0
  rw [if_neg h0] at h ⊢
  split at h
  · simp at h
  · rename_i n k hv
    obtain ⟨hu, hk, htk⟩ := take_some hv
    exact ⟨by omega, hu, by dsimp only; rw [← htk, List.take_append_drop]⟩
theorem rWithin_vb {n m : Nat} (h : n ≤ m) (hm : m ≤ 4611686018427387904) (r : List UInt8) : rWithin m (vb n ++ r, 0) = (n, (r, 0)) := by
  unfold rWithin
  rw [rNum_vb (by unfold U64; omega), if_neg (by omega)]
theorem rFail_ne (k : Nat) (s : List UInt8 × Nat) (hk : k ≠ 0) : (rFail k s).2 ≠ 0 := by
  unfold rFail
  split
  · exact hk
  · assumption
theorem rWithin_some {m : Nat} {s : List UInt8 × Nat} (h : (rWithin m s).2.2 = 0) : s.2 = 0 ∧ (rWithin m s).1 ≤ m ∧ s.1 = vb (rWithin m s).1 ++ (rWithin m s).2.1 := by
  unfold rWithin at h ⊢
  by_cases h1 : (rNum s).1 > m ∨ (rNum s).1 > 4611686018427387904
  · rw [if_pos h1] at h
    exact absurd h (rFail_ne 1 _ (by decide))
  · rw [if_neg h1] at h ⊢
    have h2 := rNum_some h
    exact ⟨h2.1, by omega, h2.2.2⟩
theorem rEnd_zero {s : List UInt8 × Nat} (h : rEnd s = 0) : s.2 = 0 ∧ s.1 = [] := by
  unfold rEnd at h
  by_cases h1 : s.2 = 0 ∧ 0 < s.1.length
  · rw [if_pos h1] at h; omega
  · rw [if_neg h1] at h
    exact ⟨h, by rcases s with ⟨l, b⟩; cases l with | nil => rfl | cons a r => simp at h1 h; omega⟩
theorem rWithin_le (m : Nat) (s : List UInt8 × Nat) : (rWithin m s).1 ≤ m ∧ (rWithin m s).1 ≤ 4611686018427387904 := by
  unfold rWithin
  split
  · simp
  · omega

/-- a lease's three numbers, off a text -/
def lread (t : List UInt8) : Int × Int × Int × Nat :=
  (((rWithin 2 (t, 0)).1 : Nat), ((rWithin 1099511627776 (rWithin 2 (t, 0)).2).1 : Nat), ((rWithin 1099511627776 (rWithin 1099511627776 (rWithin 2 (t, 0)).2).2).1 : Nat), rEnd (rWithin 1099511627776 (rWithin 1099511627776 (rWithin 2 (t, 0)).2).2).2)
/-- the lease of bytes -/
def ltake (l : List UInt8) : Int × Int × Int × Nat :=
  if (fone l).2 ≠ 0 then (0, 0, 0, (fone l).2)
  else if (lread (fone l).1).2.2.2 ≠ 0 then (0, 0, 0, (lread (fone l).1).2.2.2)
  else if chk (lread (fone l).1).1 (lread (fone l).1).2.1 (lread (fone l).1).2.2.1 ≠ 0 then (0, 0, 0, chk (lread (fone l).1).1 (lread (fone l).1).2.1 (lread (fone l).1).2.2.1)
  else ((lread (fone l).1).1, (lread (fone l).1).2.1, (lread (fone l).1).2.2.1, 0)
def ltxt (o e u : Int) : List UInt8 := vb o.toNat ++ vb e.toNat ++ vb u.toNat
/-- a lease's bytes -/
def lput (o e u : Int) : List UInt8 × Nat := if chk o e u ≠ 0 then ([], chk o e u) else (frm (ltxt o e u), 0)
theorem ltxt_len {o e u : Int} (h : chk o e u = 0) : (ltxt o e u).length ≤ 30 := by
  obtain ⟨a, b, c, _⟩ := chk_ok h
  have h1 := vb_le10 (n := o.toNat) (by omega)
  have h2 := vb_le10 (n := e.toNat) (by omega)
  have h3 := vb_le10 (n := u.toNat) (by omega)
  unfold ltxt
  simp only [List.length_append]
  omega
theorem lread_ltxt {o e u : Int} (h : chk o e u = 0) : lread (ltxt o e u) = (o, e, u, 0) := by
  obtain ⟨a, b, c, _⟩ := chk_ok h
  have h3 : rWithin 1099511627776 (vb u.toNat, 0) = (u.toNat, ([], 0)) := by
    have := rWithin_vb (n := u.toNat) (m := 1099511627776) (by omega) (by omega) []
    rwa [List.append_nil] at this
  unfold lread ltxt
  rw [List.append_assoc, rWithin_vb (n := o.toNat) (by omega) (by omega), rWithin_vb (n := e.toNat) (by omega) (by omega), h3]
  dsimp only
  rw [Int.toNat_of_nonneg (by omega), Int.toNat_of_nonneg (by omega), Int.toNat_of_nonneg (by omega)]
  rfl
theorem ltake_lput {o e u : Int} (h : chk o e u = 0) : ltake (lput o e u).1 = (o, e, u, 0) := by
  have h1 : lput o e u = (frm (ltxt o e u), 0) := by unfold lput; rw [if_neg (by omega)]
  have h2 := fone_frm (t := ltxt o e u) (by have := ltxt_len h; omega)
  have h3 := lread_ltxt h
  unfold ltake
  rw [h1]
  dsimp only
  rw [h2]
  dsimp only
  rw [h3]
  dsimp only
  rw [if_neg (by simp), if_neg (by simp), if_neg (by omega)]
theorem ltake_back {l : List UInt8} (h : (ltake l).2.2.2 = 0) : chk (ltake l).1 (ltake l).2.1 (ltake l).2.2.1 = 0 ∧ lput (ltake l).1 (ltake l).2.1 (ltake l).2.2.1 = (l, 0) := by
  unfold ltake at h ⊢
  by_cases h1 : (fone l).2 ≠ 0
  · rw [if_pos h1] at h; dsimp only at h; exact absurd h h1
  rw [if_neg h1] at h ⊢
  by_cases h2 : (lread (fone l).1).2.2.2 ≠ 0
  · rw [if_pos h2] at h; dsimp only at h; exact absurd h h2
  rw [if_neg h2] at h ⊢
  by_cases h3 : chk (lread (fone l).1).1 (lread (fone l).1).2.1 (lread (fone l).1).2.2.1 ≠ 0
  · rw [if_pos h3] at h; dsimp only at h; exact absurd h h3
  rw [if_neg h3]
  dsimp only
  have h0 : chk (lread (fone l).1).1 (lread (fone l).1).2.1 (lread (fone l).1).2.2.1 = 0 := by omega
  refine ⟨h0, ?_⟩
  have hf := fone_back (l := l) (by omega)
  have ht : ltxt (lread (fone l).1).1 (lread (fone l).1).2.1 (lread (fone l).1).2.2.1 = (fone l).1 := by
    generalize (fone l).1 = t at *
    have h4 : rEnd (rWithin 1099511627776 (rWithin 1099511627776 (rWithin 2 (t, 0)).2).2).2 = 0 := by
      unfold lread at h2
      dsimp only at h2
      omega
    obtain ⟨h5, h6⟩ := rEnd_zero h4
    obtain ⟨h7, _, h8⟩ := rWithin_some h5
    obtain ⟨h9, _, h10⟩ := rWithin_some h7
    obtain ⟨_, _, h11⟩ := rWithin_some h9
    unfold ltxt lread
    dsimp only at h11 ⊢
    rw [h6, List.append_nil] at h8
    rw [h8] at h10
    rw [h10] at h11
    simp only [Int.toNat_natCast]
    rw [List.append_assoc]
    exact h11.symm
  unfold lput
  rw [if_neg h3, ht, ← hf.2]
end Go.Proofs.Ytkkcgibmcijhaaa
