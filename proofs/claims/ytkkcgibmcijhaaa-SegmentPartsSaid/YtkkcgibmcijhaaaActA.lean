/- WHAT IT HOLDS: act, walked. -/
import Derived.Test.YtkkcgibmcijhaaaRefS
namespace Go.Proofs.Ytkkcgibmcijhaaa
open Go.RowKit
attribute [local go_sem ↓] Go.wp_at_zero Go.wp_at_succ

theorem res_rb {fn : Func} {a b : Nat} {tmps : Array Value} {w : World} {g : Nat} {x y : Value} (hres : fn.results = #[.cell a 77, .tmp b]) (ha : tmps.getD a undef = .pointer (some ⟨g, 0, none⟩)) (hB : Blk w g 77 #[x, y]) :
    (results fn tmps).run Try.prog w = .ok (.tuple #[.agg #[x, y], tmps.getD b undef]) w := by
  obtain ⟨b0, b1, _, _⟩ := hB.two
  have ha' : tmps[a]?.getD undef = .pointer (some ⟨g, 0, none⟩) := by simpa using ha
  simp [results, hres, go_sem, b0, b1, ha']
/-- both act: the readers then -/
def ActOut (w : World) (g B C : Nat) (s : List UInt8 × Nat) (e : Ending) (w' : World) : Prop :=
  ∃ s' v, e = .returned (.tuple #[v, .bool true]) ∧ s'.1.length ≤ s.1.length ∧ RV w' C v s' ∧ IsR w' g B s' ∧ Wr w w' g

theorem kk {w : World} {g g' : Nat} {t t' : TypeId} {a b x y z : Value} (h : Blk w g t #[a, b]) (k : Blk w g' t' #[x, y, z]) : w.cell? ⟨g, 0, none⟩ = some a ∧ w.cell? ⟨g, 1, none⟩ = some b ∧ w.cell? ⟨g', 1, none⟩ = some y ∧ w.cell? ⟨g', 2, none⟩ = some z :=
  ⟨h.cell 0, h.cell 1, k.cell 1, k.cell 2⟩
theorem SlN.wr {w w' : World} {g : Nat} {t : TypeId} {x y : Value} {A : Option Addr} {c : Nat} {l : List Nat} (h : SlN w A c l) (hb : Blk w g t #[x, y]) (hx : ∀ n, x ≠ nv n) (hy : ∀ n, y ≠ nv n) (hw : Wr w w' g) : SlN w' A c l := by
  refine ⟨h.1, h.2.1, h.2.2.1, h.2.2.2.1, fun j u hj => ?_⟩
  obtain ⟨ad, hA, hc⟩ := h.2.2.2.2 j u hj
  refine ⟨ad, hA, ?_⟩
  have hlt := World.block_lt_of_cell? w _ hc
  have hne : (ad.add j).block ≠ g := by
    intro e
    have hsp := World.cell?_spot hc
    have hu : ∃ b, u = nv b := by
      simp only [List.getElem?_map, Option.map_eq_some_iff] at hj
      obtain ⟨b, _, hb⟩ := hj
      exact ⟨b, hb.symm⟩
    obtain ⟨b, rfl⟩ := hu
    have he : ad.add j = ⟨g, (ad.add j).off, none⟩ := by
      cases h1 : ad.add j with
      | mk bl of sp => rw [h1] at e hsp; simp at e hsp; subst e; subst hsp; rfl
    rw [he, hb.cell] at hc
    match (ad.add j).off, hc with
    | 0, hc => simp at hc; exact hx b hc
    | 1, hc => simp at hc; exact hy b hc
    | n + 2, hc => simp at hc
  exact (World.cell?_of_block (hw.block _ hlt (fun e => hne (by injection e)))).trans hc
theorem SlN.wrR {w w' : World} {g B : Nat} {s : List UInt8 × Nat} {A : Option Addr} {c : Nat} {l : List Nat} (h : SlN w A c l) (hR : IsR w g B s) (hw : Wr w w' g) : SlN w' A c l := by
  obtain ⟨_, _, hb, _⟩ := hR
  exact SlN.wr h hb (fun n h => by cases h) (fun n h => by cases h' : s.2 <;> (rw [h'] at h; cases h)) hw
theorem rFail_len (k : Nat) (s : List UInt8 × Nat) : (rFail k s).1.length ≤ s.1.length := by unfold rFail; split <;> exact Nat.le_refl _
theorem rWithin_len (n : Nat) (s : List UInt8 × Nat) : (rWithin n s).2.1.length ≤ s.1.length := by
  have := rNum_len s
  unfold rWithin
  split
  · exact Nat.le_trans (rFail_len _ _) this
  · exact this
theorem rFixed_len (n : Int) (s : List UInt8 × Nat) : (rFixed n s).2.1.length ≤ s.1.length := by
  unfold rFixed
  split
  · exact Nat.le_refl _
  · split
    · exact Nat.le_refl _
    · simp
theorem rText_len (n : Int) (s : List UInt8 × Nat) : (rText n s).2.1.length ≤ s.1.length := Nat.le_trans (rFixed_len _ _) (rCount_len _ _)
theorem rNums_len : ∀ (n : Nat) (s : List UInt8 × Nat), (rNums n s).2.1.length ≤ s.1.length
  | 0, s => Nat.le_refl _
  | n + 1, s => by
    have h1 := rNum_len s
    have h2 := rNums_len n (rNum s).2
    unfold rNums
    split
    · exact h1
    · split <;> exact Nat.le_trans h2 h1
theorem rList_len (n : Int) (s : List UInt8 × Nat) : (rList n s).2.1.length ≤ s.1.length := Nat.le_trans (rNums_len _ _) (rCount_len _ _)

def u6 (kind : Int) (k : Int) : Prop := (IntKind.u64.wrap kind).tmod 6 = k

theorem u6_cases (kind : Int) : u6 kind 0 ∨ u6 kind 1 ∨ u6 kind 2 ∨ u6 kind 3 ∨ u6 kind 4 ∨ u6 kind 5 := by
  unfold u6
  rw [IntKind.wrap_u64]
  have h : (0 : Int) ≤ kind % 18446744073709551616 := Int.emod_nonneg _ (by decide)
  rw [Int.tmod_eq_emod_of_nonneg h]
  omega
end Go.Proofs.Ytkkcgibmcijhaaa
