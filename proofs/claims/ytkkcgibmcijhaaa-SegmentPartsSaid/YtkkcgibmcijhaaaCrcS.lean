/- WHAT IT HOLDS: the law CrcSums, walked. -/
import Derived.Test.YtkkcgibmcijhaaaCrcZ
import Derived.Test.YtkkcgibmcijhaaaVarQ
import Derived.Lib.SlBytesConst
namespace Go.Proofs.Ytkkcgibmcijhaaa
open Go.RowKit
attribute [local go_sem ↓] Go.wp_at_zero Go.wp_at_succ

theorem sum_digits : wn (sumW [49, 50, 51, 52, 53, 54, 55, 56, 57]) = 3808858755 := by decide +kernel
theorem Own.ne {W : World} {base g n c size : Nat} {e : TypeId} {A : Option Addr} {xs : List Value} (h : Own W base e size A n c xs) (hg : g < base) : A.map (·.block) ≠ some g := by
  intro hA
  have := h.lt g hA
  omega
theorem Mkr.belowB {w w' : World} {g B : Nat} {n : Int} (hM : Mkr w g n) (hg : g < B) (hb : Below B w w') : Mkr w' g n := by
  rcases hM with ⟨cs, hB, r⟩ | ⟨cs, hB, r⟩
  · exact .inl ⟨cs, (hb.block g hg).trans hB, r⟩
  · exact .inr ⟨cs, (hb.block g hg).trans hB, r⟩
/-- a maker at block g, and bytes beside it -/
structure CSt (w : World) (g n : Nat) (ls : List Pt) (W : World) : Prop where
  mkr : Mkr W g n
  bel : Below w.heap.size w W
  sl : ∀ x ∈ ls, SlB W x.1 x.2.1 x.2.2 ∧ (x.2.2 ≠ [] → x.1.map (·.block) ≠ some g)
theorem CSt.at {w W : World} {g n : Nat} {ls : List Pt} (h : CSt w g n ls W) {A : Option Addr} {c : Nat} {l : List UInt8} (hm : (A, c, l) ∈ ls) : SlB W A c l := (h.sl _ hm).1
theorem CSt.ne {w W : World} {g n : Nat} {ls : List Pt} (h : CSt w g n ls W) {A : Option Addr} {c : Nat} {l : List UInt8} (hm : (A, c, l) ∈ ls) : l ≠ [] → A.map (·.block) ≠ some g := (h.sl _ hm).2
theorem CSt.but {w W W' : World} {g n n' : Nat} {ls : List Pt} (h : CSt w g n ls W) (hg : w.heap.size ≤ g) (hM : Mkr W' g n') (hb : But g W W') : CSt w g n' ls W' :=
  ⟨hM, below_of_but hb h.bel hg, fun x hx => ⟨SlB.but (h.sl x hx).1 hb (h.sl x hx).2, (h.sl x hx).2⟩⟩
theorem CSt.below {w W W' : World} {g n : Nat} {ls : List Pt} (h : CSt w g n ls W) (hb : Below W.heap.size W W') : CSt w g n ls W' :=
  ⟨h.mkr.below hb, bel_call h.bel hb, fun x hx => ⟨(h.sl x hx).1.below hb, (h.sl x hx).2⟩⟩
theorem CSt.of {w W : World} {g n : Nat} {ls : List Pt} (h : CSt w g n ls W) {ps : List Pt} (hp : ∀ x ∈ ps, x ∈ ls ∧ x.2.2.length ≤ 1000000000) : ∀ x ∈ ps, SlB W x.1 x.2.1 x.2.2 ∧ (x.2.2 ≠ [] → x.1.map (·.block) ≠ some g) ∧ x.2.2.length ≤ 1000000000 :=
  fun x hx => ⟨(h.sl x (hp x hx).1).1, (h.sl x (hp x hx).1).2, (hp x hx).2⟩
theorem Sum_len (g n : Nat) (A : Option Addr) (c k : Nat) (l : List UInt8) (w : World) (hk : k = l.length) (hM : Mkr w g n) (hn : n < 1000000000) (hs : SlB w A c l) (hA : l ≠ [] → A.map (·.block) ≠ some g) (hl : l.length ≤ 1000000000) :
    Calls Try.prog 152 #[.pointer (some ⟨g, 0, none⟩), .slice A k c] w fun e w' => e = .returned (wv (sumW l)) ∧ Mkr w' g ((n + 1 : Nat) : Int) ∧ But g w w' := by
  subst hk; exact Sum_at g n A c l w hM hn hs hA hl
theorem CSt.drew {w W : World} {g n : Nat} {ls : List Pt} (h : CSt w g n ls W) : CSt w g n ls W.drew := ⟨h.mkr, h.bel.drew, h.sl⟩
theorem Opened_len (g n : Nat) (A : Option Addr) (c k : Nat) (l : List UInt8) (w : World) (hk : k = l.length) (hM : Mkr w g n) (hn : n < 1000000000) (hs : SlB w A c l) (hA : l ≠ [] → A.map (·.block) ≠ some g) (hl : l.length ≤ 100000000) :
    Calls Try.prog 154 #[.pointer (some ⟨g, 0, none⟩), .slice A k c] w (OpensB g n w (opened l)) := by
  subst hk; exact Opened_at g n A c l w hM hn hs hA hl
theorem own_frozen {w : World} {base : Nat} {e : TypeId} {A : Option Addr} {c size n : Nat} {xs : List Value} {g : Nat} (h : Own w base e size A n c xs) (hA : A = some ⟨g, 0, none⟩) (j : Nat) : w.frozen? ⟨g, j, none⟩ = false := by
  rcases h.2 with ⟨hv, hn⟩ | ⟨g', cap, cur, hv, hb, hh, _⟩
  · subst hA; simp at hv
  · subst hA
    simp at hv
    obtain ⟨rfl, rfl⟩ := hv
    simp [World.frozen?, hh]
theorem turn_byte (a : UInt8) (q : Nat) : bits .xor .u8 (a.toNat : Int) (HMod.hMod (α := Int) (β := Int) (HPow.hPow (α := Int) (β := Nat) 2 q) 256) = ((a ^^^ UInt8.ofNat (2 ^ q)).toNat : Int) := by
  have h : HMod.hMod (α := Int) (β := Int) (HPow.hPow (α := Int) (β := Nat) 2 q) 256 = ((UInt8.ofNat (2 ^ q)).toNat : Int) := by
    rw [UInt8.toNat_ofNat', Int.natCast_emod, Int.natCast_pow]; rfl
  rw [h, xor_u8 a.toNat_lt (UInt8.ofNat (2 ^ q)).toNat_lt, UInt8.toNat_xor]
theorem shr_pow (x : W32) (k : Nat) : HDiv.hDiv (α := Int) (β := Int) (wn x) (HPow.hPow (α := Int) (β := Nat) 2 k) = wn (x >>> k) := by
  rw [← shr_wn, Int.natCast_pow]; rfl
theorem len_le_not {n : Nat} {k : Int} (h : (n : Int) ≤ k) : ¬ (k < (n : Int)) := by omega

end Go.Proofs.Ytkkcgibmcijhaaa
