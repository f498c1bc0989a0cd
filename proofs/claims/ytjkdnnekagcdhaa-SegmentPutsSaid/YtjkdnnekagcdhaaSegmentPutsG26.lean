/- WHAT IT HOLDS: frames, plainly (no program). | WHAT IT HOLDS: the law CrcSums, walked. -/
import Derived.Test.YtjkdnnekagcdhaaSegmentPutsG02
import Derived.Test.YtjkdnnekagcdhaaSegmentPutsG22
import Derived.Test.YtjkdnnekagcdhaaSegmentPutsG25
import Derived.Test.YtjkdnnekagcdhaaSegmentPutsG05
import Derived.Lib.SlBytesConst
namespace Go.Proofs.Ytjkdnnekagcdhaa
open Go.RowKit

def txb (t : List UInt8) : List UInt8 := vb t.length ++ t
/-- a text's frame -/
def frm (t : List UInt8) : List UInt8 := txb t ++ four (sumW (txb t))
/-- the text, the frame's bytes, an error's number, of the frame that bytes begin with -/
def ftake (l : List UInt8) : List UInt8 × Nat × Nat :=
  match take l with
  | none => ([], 0, 2)
  | some (n, h) => if 65536 < n then ([], 0, 3) else if l.length < h + n + 4 then ([], 0, 2)
    else if four (sumW (l.take (h + n))) = (l.drop (h + n)).take 4 then ((l.take (h + n)).drop h, h + n + 4, 0) else ([], 0, 11)
theorem frm_len (t : List UInt8) : (frm t).length = (vb t.length).length + t.length + 4 := by
  unfold frm txb; simp [four_len]; omega
theorem opened_take {l : List UInt8} {k : Nat} (h : k + 4 ≤ l.length) : opened (l.take (k + 4)) = if four (sumW (l.take k)) = (l.drop k).take 4 then (l.take k, 0) else ([], 11) := by
  have h1 : (l.take (k + 4)).length = k + 4 := by simp; omega
  unfold opened
  rw [if_neg (by omega), h1, Nat.add_sub_cancel, List.take_take, Nat.min_eq_left (by omega), List.drop_take]
  simp
theorem ftake_frm (t l : List UInt8) (h : t.length ≤ 65536) : ftake (frm t ++ l) = (t, (frm t).length, 0) := by
  have hv : take (frm t ++ l) = some (t.length, (vb t.length).length) := by
    unfold frm txb
    rw [List.append_assoc, List.append_assoc]
    exact take_vb (by unfold U64; omega) _
  have e1 : (frm t ++ l).take ((vb t.length).length + t.length) = txb t := by
    unfold frm
    rw [List.append_assoc, List.take_left' (by unfold txb; simp)]
  have e2 : ((frm t ++ l).drop ((vb t.length).length + t.length)).take 4 = four (sumW (txb t)) := by
    unfold frm
    rw [List.append_assoc, List.drop_left' (by unfold txb; simp), List.take_left' (four_len _)]
  have e3 : (txb t).drop (vb t.length).length = t := by unfold txb; rw [List.drop_left]
  unfold ftake
  rw [hv]
  dsimp only
  rw [if_neg (by omega), if_neg (by rw [List.length_append, frm_len]; omega), e1, e2, if_pos rfl, e3, frm_len]
theorem four_inj {x y : W32} (h : four x = four y) : x = y := by
  have hx := x.isLt
  have hy := y.isLt
  unfold four at h
  simp only [List.cons.injEq, and_true] at h
  obtain ⟨a, b, c, d⟩ := h
  have a := congrArg UInt8.toNat a
  have b := congrArg UInt8.toNat b
  have c := congrArg UInt8.toNat c
  have d := congrArg UInt8.toNat d
  simp only [UInt8.toNat_ofNat'] at a b c d
  apply BitVec.eq_of_toNat_eq
  omega
theorem flip_ne (a : UInt8) {q : Nat} (hq : q < 8) : a ^^^ UInt8.ofNat (2 ^ q) ≠ a := by
  intro h
  have h1 := congrArg UInt8.toNat h
  rw [UInt8.toNat_xor, UInt8.toNat_ofNat'] at h1
  have h2 := congrArg (fun z => a.toNat ^^^ z) h1
  simp only [← Nat.xor_assoc, Nat.xor_self, Nat.zero_xor] at h2
  have h3 : 2 ^ q < 256 := Nat.pow_lt_pow_right (a := 2) (by decide) hq
  have h4 : 0 < 2 ^ q := Nat.two_pow_pos q
  rw [Nat.mod_eq_of_lt h3] at h2
  omega
theorem flip_sum (d : List UInt8) {j q : Nat} (hj : j < d.length) (hq : q < 8) : sumW (d.set j (d[j] ^^^ UInt8.ofNat (2 ^ q))) ≠ sumW d := by
  have h2 : 2 ^ q < 256 := Nat.pow_lt_pow_right (a := 2) (by decide) hq
  refine extW_inj (finds (W := 1) (p := 8 * j + q) (by simp) ?_ (by omega) (by decide) (by decide) ?_ _)
  · rw [leN_set _ _ hj, UInt8.toNat_ofNat', Nat.mod_eq_of_lt h2, Nat.shiftLeft_eq, Nat.shiftLeft_eq, Nat.one_mul, ← Nat.pow_add, Nat.add_comm q]
  · exact Nat.one_lt_two_pow (by omega)
theorem ftake_bad {t d s : List UInt8} (ht : t.length ≤ 65536) (hd : ∃ t', t'.length = t.length ∧ d = vb t.length ++ t') (hs : s.length = 4) (hne : four (sumW d) ≠ s) : ftake (d ++ s) = ([], 0, 11) := by
  obtain ⟨t', htl, rfl⟩ := hd
  have hv : take (vb t.length ++ t' ++ s) = some (t.length, (vb t.length).length) := by
    rw [List.append_assoc]
    exact take_vb (by unfold U64; omega) _
  have e1 : (vb t.length ++ t' ++ s).take ((vb t.length).length + t.length) = vb t.length ++ t' := by rw [List.take_left' (by simp [htl])]
  have e2 : ((vb t.length ++ t' ++ s).drop ((vb t.length).length + t.length)).take 4 = s := by rw [List.drop_left' (by simp [htl]), List.take_of_length_le (by omega)]
  unfold ftake
  rw [hv]
  dsimp only
  rw [if_neg (by omega), if_neg (by simp [htl, hs]; omega), e1, e2, if_neg hne]
/-- a frame of which one bit of its text or its sum is turned -/
theorem flip_frm {t : List UInt8} (ht : t.length ≤ 65536) {j q : Nat} (h1 : (vb t.length).length ≤ j) (h2 : j < (frm t).length) (hq : q < 8) : ftake ((frm t).set j ((frm t)[j] ^^^ UInt8.ofNat (2 ^ q))) = ([], 0, 11) := by
  have hfr : frm t = txb t ++ four (sumW (txb t)) := rfl
  generalize frm t = f at *
  subst hfr
  by_cases hj : j < (txb t).length
  · rw [List.getElem_append_left hj, List.set_append_left _ _ hj]
    refine ftake_bad ht ⟨t.set (j - (vb t.length).length) ((txb t)[j] ^^^ UInt8.ofNat (2 ^ q)), by simp, ?_⟩ (four_len _) (fun e => flip_sum _ hj hq (four_inj e))
    generalize (txb t)[j] ^^^ UInt8.ofNat (2 ^ q) = y
    unfold txb
    rw [List.set_append_right _ _ h1]
  · have hjl : j - (txb t).length < (four (sumW (txb t))).length := by
      rw [List.length_append] at h2
      omega
    rw [List.getElem_append_right (by omega), List.set_append_right _ _ (by omega)]
    refine ftake_bad ht ⟨t, rfl, rfl⟩ (by simp [four_len]) (fun e => ?_)
    have := congrArg (fun l => l[j - (txb t).length]?) e
    simp only [List.getElem?_set_self hjl, List.getElem?_eq_getElem hjl, Option.some.injEq] at this
    exact flip_ne _ hq this.symm
end Go.Proofs.Ytjkdnnekagcdhaa

namespace Go.Proofs.Ytjkdnnekagcdhaa
open Go.RowKit
attribute [local go_sem ↓] Go.wp_at_zero Go.wp_at_succ

theorem sum_digits : wn (sumW [49, 50, 51, 52, 53, 54, 55, 56, 57]) = 3808858755 := by decide +kernel
theorem Own.ne {W : World} {base g n c size : Nat} {e : TypeId} {A : Option Addr} {xs : List Value} (h : Own W base e size A n c xs) (hg : g < base) : A.map (·.block) ≠ some g := by
  intro hA
  have := h.lt g hA
  omega
theorem Mkr.belowB {w w' : World} {g B : Nat} {n : Int} (hM : Mkr w g n) (hg : g < B) (hb : Below B w w') : Mkr w' g n := by
  rcases hM with ⟨cs, hB, r⟩ | ⟨cs, hB, r⟩
  · exact .inl ⟨cs, (hb.block g hg).trans hB, r⟩
  · exact .inr ⟨cs, (hb.block g hg).trans hB, r⟩
/-- a maker at block g, and bytes beside it -/
structure CSt (w : World) (g n : Nat) (ls : List Pt) (W : World) : Prop where
  mkr : Mkr W g n
  bel : Below w.heap.size w W
  sl : ∀ x ∈ ls, SlB W x.1 x.2.1 x.2.2 ∧ (x.2.2 ≠ [] → x.1.map (·.block) ≠ some g)
theorem CSt.at {w W : World} {g n : Nat} {ls : List Pt} (h : CSt w g n ls W) {A : Option Addr} {c : Nat} {l : List UInt8} (hm : (A, c, l) ∈ ls) : SlB W A c l := (h.sl _ hm).1
theorem CSt.ne {w W : World} {g n : Nat} {ls : List Pt} (h : CSt w g n ls W) {A : Option Addr} {c : Nat} {l : List UInt8} (hm : (A, c, l) ∈ ls) : l ≠ [] → A.map (·.block) ≠ some g := (h.sl _ hm).2
theorem CSt.but {w W W' : World} {g n n' : Nat} {ls : List Pt} (h : CSt w g n ls W) (hg : w.heap.size ≤ g) (hM : Mkr W' g n') (hb : But g W W') : CSt w g n' ls W' :=
  ⟨hM, below_of_but hb h.bel hg, fun x hx => ⟨SlB.but (h.sl x hx).1 hb (h.sl x hx).2, (h.sl x hx).2⟩⟩
theorem CSt.below {w W W' : World} {g n : Nat} {ls : List Pt} (h : CSt w g n ls W) (hb : Below W.heap.size W W') : CSt w g n ls W' :=
  ⟨h.mkr.below hb, bel_call h.bel hb, fun x hx => ⟨(h.sl x hx).1.below hb, (h.sl x hx).2⟩⟩
theorem CSt.of {w W : World} {g n : Nat} {ls : List Pt} (h : CSt w g n ls W) {ps : List Pt} (hp : ∀ x ∈ ps, x ∈ ls ∧ x.2.2.length ≤ 1000000000) : ∀ x ∈ ps, SlB W x.1 x.2.1 x.2.2 ∧ (x.2.2 ≠ [] → x.1.map (·.block) ≠ some g) ∧ x.2.2.length ≤ 1000000000 :=
  fun x hx => ⟨(h.sl x (hp x hx).1).1, (h.sl x (hp x hx).1).2, (hp x hx).2⟩
theorem Sum_len (g n : Nat) (A : Option Addr) (c k : Nat) (l : List UInt8) (w : World) (hk : k = l.length) (hM : Mkr w g n) (hn : n < 1000000000) (hs : SlB w A c l) (hA : l ≠ [] → A.map (·.block) ≠ some g) (hl : l.length ≤ 1000000000) :
    Calls Try.prog 144 #[.pointer (some ⟨g, 0, none⟩), .slice A k c] w fun e w' => e = .returned (wv (sumW l)) ∧ Mkr w' g ((n + 1 : Nat) : Int) ∧ But g w w' := by
  subst hk; exact Sum_at g n A c l w hM hn hs hA hl
theorem CSt.drew {w W : World} {g n : Nat} {ls : List Pt} (h : CSt w g n ls W) : CSt w g n ls W.drew := ⟨h.mkr, h.bel.drew, h.sl⟩
theorem Opened_len (g n : Nat) (A : Option Addr) (c k : Nat) (l : List UInt8) (w : World) (hk : k = l.length) (hM : Mkr w g n) (hn : n < 1000000000) (hs : SlB w A c l) (hA : l ≠ [] → A.map (·.block) ≠ some g) (hl : l.length ≤ 100000000) :
    Calls Try.prog 146 #[.pointer (some ⟨g, 0, none⟩), .slice A k c] w (OpensB g n w (opened l)) := by
  subst hk; exact Opened_at g n A c l w hM hn hs hA hl
theorem own_frozen {w : World} {base : Nat} {e : TypeId} {A : Option Addr} {c size n : Nat} {xs : List Value} {g : Nat} (h : Own w base e size A n c xs) (hA : A = some ⟨g, 0, none⟩) (j : Nat) : w.frozen? ⟨g, j, none⟩ = false := by
  rcases h.2 with ⟨hv, hn⟩ | ⟨g', cap, cur, hv, hb, hh, _⟩
  · subst hA; simp at hv
  · subst hA
    simp at hv
    obtain ⟨rfl, rfl⟩ := hv
    simp [World.frozen?, hh]
theorem turn_byte (a : UInt8) (q : Nat) : bits .xor .u8 (a.toNat : Int) (HMod.hMod (α := Int) (β := Int) (HPow.hPow (α := Int) (β := Nat) 2 q) 256) = ((a ^^^ UInt8.ofNat (2 ^ q)).toNat : Int) := by
  have h : HMod.hMod (α := Int) (β := Int) (HPow.hPow (α := Int) (β := Nat) 2 q) 256 = ((UInt8.ofNat (2 ^ q)).toNat : Int) := by
    rw [UInt8.toNat_ofNat', Int.natCast_emod, Int.natCast_pow]; rfl
  rw [h, xor_u8 a.toNat_lt (UInt8.ofNat (2 ^ q)).toNat_lt, UInt8.toNat_xor]
theorem shr_pow (x : W32) (k : Nat) : HDiv.hDiv (α := Int) (β := Int) (wn x) (HPow.hPow (α := Int) (β := Nat) 2 k) = wn (x >>> k) := by
  rw [← shr_wn, Int.natCast_pow]; rfl
theorem len_le_not {n : Nat} {k : Int} (h : (n : Int) ≤ k) : ¬ (k < (n : Int)) := by omega

end Go.Proofs.Ytjkdnnekagcdhaa
