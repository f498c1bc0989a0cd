/- WHAT IT HOLDS: cursor.Take, walked, for all bytes. -/
import Derived.Test.YtabnndjdkjkciaaGreatDoorManifestBackG14
import Derived.Test.YtabnndjdkjkciaaGreatDoorManifestBackG08
namespace Go.Proofs.YtabnndjdkjkciaaGreatDoor
open Go.RowKit
attribute [local go_sem ↓] Go.wp_at_zero Go.wp_at_succ

theorem wpl_lit1 {w : World} {ops : Array Oper} {rest : List Oper} {o : Oper} {a : Act} {Q : Exit → Act → World → Prop} (hgd : Region.wanted o (yielded ops a.tmps) = true) (x : Operand) (ho : o.op = .buildSlice 55 1 #[(0, x)])
    (p : Pt5) (hx : a.eval x = .agg (pta p)) (h : wpList Tryz.prog ops Q rest (a.put o.dst (.slice (some ⟨w.heap.size, 0, none⟩) 1 1)) (w.alloc (.cells (pta p) 28))) : wpList Tryz.prog ops Q (o :: rest) a w :=
  wpList_step fun _ hK => step_lit1 hgd x ho p hx (hK _ _ h)
theorem IsR.set {w : World} {g B k i : Nat} {s : List UInt8 × Nat} (h : IsR w g B s) (hk : k ≠ g) (hB : B ≤ k) (v : Value) : IsR (w.setCell ⟨k, i, none⟩ v) g B s := by
  obtain ⟨A, c, h1, h2, h3⟩ := h
  refine ⟨A, c, h1.far (by dsimp only; omega) v, ⟨h2.1, h2.2.1, h2.2.2.1, h2.2.2.2.1, fun j u hj => ?_⟩, h3⟩
  obtain ⟨ad, hA, hc⟩ := h2.2.2.2.2 j u hj
  have hne : s.1 ≠ [] := by rintro e; rw [e] at hj; simp at hj
  have hlt := h3 hne ad hA
  exact ⟨ad, hA, by rw [← hc]; exact World.cell?_setCell_far _ _ _ _ (by rw [addr_add_block]; dsimp only; omega)⟩
theorem rPart_first (f : Int) (s : List UInt8 × Nat) : (rPart f s).1.1 = f := rfl
theorem rPart_many (f : Int) (s : List UInt8 × Nat) : (rPart f s).1.2.1 = ((rWithin 64 s).1 : Nat) := rfl
theorem rWithin_le (n : Nat) (s : List UInt8 × Nat) : (rWithin n s).1 ≤ n := by
  unfold rWithin
  split
  · exact Nat.zero_le _
  · rename_i h
    omega
theorem pend_snoc : ∀ (l : List Pt5) (a : Int) (p : Pt5), pend a (l ++ [p]) = pend a l + p.2.1
  | [], _, _ => rfl
  | q :: r, a, p => pend_snoc r (a + q.2.1) p
theorem crLoop_bd (s : List UInt8 × Nat) (a : Int) : ∀ k, a ≤ pend a (crLoop k a s).1 ∧ pend a (crLoop k a s).1 ≤ a + 64 * k
  | 0 => by simp [crLoop, pend]
  | k + 1 => by
    have ih := crLoop_bd s a k
    rw [crLoop_succ]
    dsimp only
    rw [pend_snoc, rPart_many]
    have := rWithin_le 64 (crLoop k a s).2
    omega
theorem Number_s {g B : Nat} {s : List UInt8 × Nat} {w : World} (hR : IsR w g B s) :
    Calls Tryz.prog 57 #[.pointer (some ⟨g, 0, none⟩)] w fun e w' => e = .returned (.int .u64 ((rNum s).1 : Nat)) ∧ IsR w' g B (rNum s).2 ∧ Wr w w' g := by obtain ⟨l, b⟩ := s; exact Number_any hR
theorem Fail_s {g B : Nat} {s : List UInt8 × Nat} {w : World} (k : Nat) (hR : IsR w g B s) :
    Calls Tryz.prog 58 #[.pointer (some ⟨g, 0, none⟩), errv k] w fun e w' => e = .returned (.tuple #[]) ∧ IsR w' g B (rFail k s) ∧ Wr w w' g := by obtain ⟨l, b⟩ := s; exact Fail_any k hR
theorem End_s18 {g B : Nat} {s : List UInt8 × Nat} {w : World} (hR : IsR w g B s) : Calls Tryz.prog 60 #[.pointer (some ⟨g, 0, none⟩)] w fun e w' => e = .returned (errv (rEnd s)) ∧ w = w' := by obtain ⟨l, b⟩ := s; exact End_any hR
theorem foneLen (b : List UInt8) : (fone b).1.length ≤ b.length := by
  unfold fone
  split
  · simp
  · split
    · simp
    · unfold ftake
      split
      · simp
      · split
        · simp
        · split
          · simp
          · split
            · simp only [List.length_drop, List.length_take]; omega
            · simp
theorem rFail_fst18 (k : Nat) (s : List UInt8 × Nat) : (rFail k s).1 = s.1 := by unfold rFail; split <;> rfl
theorem crLoop_I : ∀ (k : Nat) (a : Int) (s : List UInt8 × Nat), 0 ≤ a → a + 64 * k ≤ 1000000000 → PtsI (crLoop k a s).1
  | 0, _, _, _, _ => fun p hp => by cases hp
  | k + 1, a, s, h0, h1 => fun p hp => by
    have hl := rWithin_le 64 s
    have hl2 := rWithin_le 65536 (rWithin 64 s).2
    rcases List.mem_cons.1 (show p ∈ (rPart a s).1 :: (crLoop k (a + (rPart a s).1.2.1) (rPart a s).2).1 from hp) with rfl | hp
    · refine ⟨?_, ?_, ?_⟩
      · rw [rPart_first]; unfold I64; omega
      · rw [rPart_many]; unfold I64; omega
      · show I64 (((rWithin 65536 (rWithin 64 s).2).1 : Nat) : Int); unfold I64; omega
    · exact crLoop_I k _ _ (by rw [rPart_many]; omega) (by rw [rPart_many]; omega) p hp
end Go.Proofs.YtabnndjdkjkciaaGreatDoor
