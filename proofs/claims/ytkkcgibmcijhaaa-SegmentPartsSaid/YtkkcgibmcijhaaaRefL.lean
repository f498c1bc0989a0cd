/- WHAT IT HOLDS: the document's ListOf, walked. -/
import Derived.Test.YtkkcgibmcijhaaaRefW
namespace Go.Proofs.Ytkkcgibmcijhaaa
open Go.RowKit

theorem bound_here {w : World} {A : Option Addr} {c B : Nat} {l : List UInt8} (hS : SlB w A c l) (hBd : l ≠ [] → ∀ ad, A = some ad → ad.block < B) : l ≠ [] → ∀ ad, A = some ad → ad.block < min B w.heap.size := by
  intro hn ad hA
  have hl : 0 < l.length := by cases l <;> simp_all
  obtain ⟨ad2, hA2, hc⟩ := hS.at1 (k := 0) hl
  rw [hA] at hA2
  injection hA2 with e
  subst e
  have := World.block_lt_of_cell? w _ hc
  rw [addr_add_block] at this
  have := hBd hn ad hA
  omega
theorem Own.litAt {w : World} {base g : Nat} {e : TypeId} (size : Nat) (hg : g = w.heap.size) (h : base ≤ w.heap.size) : Own (w.alloc (.cells #[] e)) base e size (some ⟨g, 0, none⟩) 0 0 [] := by subst hg; exact Own.lit size h

theorem Blk.apart {w w' : World} {g C : Nat} {t : TypeId} {cs : Array Value} (h : Blk w g t cs) (hg : g < C) (hb : Below C w w') : Blk w' g t cs := (hb.block g hg).trans h
theorem SlB.apart {w w' : World} {A : Option Addr} {c B C : Nat} {l : List UInt8} (h : SlB w A c l) (hBd : l ≠ [] → ∀ ad, A = some ad → ad.block < B) (hBC : B ≤ C) (hb : Below C w w') : SlB w' A c l := by
  refine ⟨h.1, h.2.1, h.2.2.1, h.2.2.2.1, fun j u hj => ?_⟩
  obtain ⟨ad, hA, hc⟩ := h.2.2.2.2 j u hj
  have hne : l ≠ [] := by intro e; rw [e] at hj; simp at hj
  exact ⟨ad, hA, (hb.cell (by rw [addr_add_block]; exact Nat.lt_of_lt_of_le (hBd hne ad hA) hBC)).trans hc⟩

end Go.Proofs.Ytkkcgibmcijhaaa
