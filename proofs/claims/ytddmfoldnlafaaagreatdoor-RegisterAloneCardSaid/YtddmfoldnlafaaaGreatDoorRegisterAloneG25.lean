/- WHAT IT HOLDS: frames, plainly (no program). | WHAT IT HOLDS: the law CrcSums, walked. | WHAT IT HOLDS: what the package frame computes, walked. | WHAT IT HOLDS: the law CrcParts, walked. | WHAT IT HOLDS: the law CrcFinds, walked. | WHAT IT HOLDS: the law FrameFinds, walked. | WHAT IT HOLDS: frame.Join, and the document's frames, walked. -/
import Derived.Test.YtddmfoldnlafaaaGreatDoorRegisterAloneG02
import Derived.Test.YtddmfoldnlafaaaGreatDoorRegisterAloneG23
import Derived.Test.YtddmfoldnlafaaaGreatDoorRegisterAloneG24
import Derived.Test.YtddmfoldnlafaaaGreatDoorRegisterAloneG07
import Derived.Lib.SlBytesConst
import Derived.Test.YtddmfoldnlafaaaGreatDoorRegisterAloneG08
import Derived.Laws.CopyOwn
namespace Go.Proofs.YtddmfoldnlafaaaGreatDoor
open Go.RowKit

def txb (t : List UInt8) : List UInt8 := vb t.length ++ t
/-- a text's frame -/
def frm (t : List UInt8) : List UInt8 := txb t ++ four (sumW (txb t))
/-- the text, the frame's bytes, an error's number, of the frame that bytes begin with -/
def ftake (l : List UInt8) : List UInt8 × Nat × Nat :=
  match take l with
  | none => ([], 0, 2)
  | some (n, h) => if 65536 < n then ([], 0, 3) else if l.length < h + n + 4 then ([], 0, 2)
    else if four (sumW (l.take (h + n))) = (l.drop (h + n)).take 4 then ((l.take (h + n)).drop h, h + n + 4, 0) else ([], 0, 11)
theorem frm_len (t : List UInt8) : (frm t).length = (vb t.length).length + t.length + 4 := by
  unfold frm txb; simp [four_len]; omega
theorem opened_take {l : List UInt8} {k : Nat} (h : k + 4 ≤ l.length) : opened (l.take (k + 4)) = if four (sumW (l.take k)) = (l.drop k).take 4 then (l.take k, 0) else ([], 11) := by
  have h1 : (l.take (k + 4)).length = k + 4 := by simp; omega
  unfold opened
  rw [if_neg (by omega), h1, Nat.add_sub_cancel, List.take_take, Nat.min_eq_left (by omega), List.drop_take]
  simp
theorem ftake_frm (t l : List UInt8) (h : t.length ≤ 65536) : ftake (frm t ++ l) = (t, (frm t).length, 0) := by
  have hv : take (frm t ++ l) = some (t.length, (vb t.length).length) := by
    unfold frm txb
    rw [List.append_assoc, List.append_assoc]
    exact take_vb (by unfold U64; omega) _
  have e1 : (frm t ++ l).take ((vb t.length).length + t.length) = txb t := by
    unfold frm
    rw [List.append_assoc, List.take_left' (by unfold txb; simp)]
  have e2 : ((frm t ++ l).drop ((vb t.length).length + t.length)).take 4 = four (sumW (txb t)) := by
    unfold frm
    rw [List.append_assoc, List.drop_left' (by unfold txb; simp), List.take_left' (four_len _)]
  have e3 : (txb t).drop (vb t.length).length = t := by unfold txb; rw [List.drop_left]
  unfold ftake
  rw [hv]
  dsimp only
  rw [if_neg (by omega), if_neg (by rw [List.length_append, frm_len]; omega), e1, e2, if_pos rfl, e3, frm_len]
theorem four_inj {x y : W32} (h : four x = four y) : x = y := by
  have hx := x.isLt
  have hy := y.isLt
  unfold four at h
  simp only [List.cons.injEq, and_true] at h
  obtain ⟨a, b, c, d⟩ := h
  have a := congrArg UInt8.toNat a
  have b := congrArg UInt8.toNat b
  have c := congrArg UInt8.toNat c
  have d := congrArg UInt8.toNat d
  simp only [UInt8.toNat_ofNat'] at a b c d
  apply BitVec.eq_of_toNat_eq
  omega
theorem flip_ne (a : UInt8) {q : Nat} (hq : q < 8) : a ^^^ UInt8.ofNat (2 ^ q) ≠ a := by
  intro h
  have h1 := congrArg UInt8.toNat h
  rw [UInt8.toNat_xor, UInt8.toNat_ofNat'] at h1
  have h2 := congrArg (fun z => a.toNat ^^^ z) h1
  simp only [← Nat.xor_assoc, Nat.xor_self, Nat.zero_xor] at h2
  have h3 : 2 ^ q < 256 := Nat.pow_lt_pow_right (a := 2) (by decide) hq
  have h4 : 0 < 2 ^ q := Nat.two_pow_pos q
  rw [Nat.mod_eq_of_lt h3] at h2
  omega
theorem flip_sum (d : List UInt8) {j q : Nat} (hj : j < d.length) (hq : q < 8) : sumW (d.set j (d[j] ^^^ UInt8.ofNat (2 ^ q))) ≠ sumW d := by
  have h2 : 2 ^ q < 256 := Nat.pow_lt_pow_right (a := 2) (by decide) hq
  refine extW_inj (finds (W := 1) (p := 8 * j + q) (by simp) ?_ (by omega) (by decide) (by decide) ?_ _)
  · rw [leN_set _ _ hj, UInt8.toNat_ofNat', Nat.mod_eq_of_lt h2, Nat.shiftLeft_eq, Nat.shiftLeft_eq, Nat.one_mul, ← Nat.pow_add, Nat.add_comm q]
  · exact Nat.one_lt_two_pow (by omega)
theorem ftake_bad {t d s : List UInt8} (ht : t.length ≤ 65536) (hd : ∃ t', t'.length = t.length ∧ d = vb t.length ++ t') (hs : s.length = 4) (hne : four (sumW d) ≠ s) : ftake (d ++ s) = ([], 0, 11) := by
  obtain ⟨t', htl, rfl⟩ := hd
  have hv : take (vb t.length ++ t' ++ s) = some (t.length, (vb t.length).length) := by
    rw [List.append_assoc]
    exact take_vb (by unfold U64; omega) _
  have e1 : (vb t.length ++ t' ++ s).take ((vb t.length).length + t.length) = vb t.length ++ t' := by rw [List.take_left' (by simp [htl])]
  have e2 : ((vb t.length ++ t' ++ s).drop ((vb t.length).length + t.length)).take 4 = s := by rw [List.drop_left' (by simp [htl]), List.take_of_length_le (by omega)]
  unfold ftake
  rw [hv]
  dsimp only
  rw [if_neg (by omega), if_neg (by simp [htl, hs]; omega), e1, e2, if_neg hne]
/-- a frame of which one bit of its text or its sum is turned -/
theorem flip_frm {t : List UInt8} (ht : t.length ≤ 65536) {j q : Nat} (h1 : (vb t.length).length ≤ j) (h2 : j < (frm t).length) (hq : q < 8) : ftake ((frm t).set j ((frm t)[j] ^^^ UInt8.ofNat (2 ^ q))) = ([], 0, 11) := by
  have hfr : frm t = txb t ++ four (sumW (txb t)) := rfl
  generalize frm t = f at *
  subst hfr
  by_cases hj : j < (txb t).length
  · rw [List.getElem_append_left hj, List.set_append_left _ _ hj]
    refine ftake_bad ht ⟨t.set (j - (vb t.length).length) ((txb t)[j] ^^^ UInt8.ofNat (2 ^ q)), by simp, ?_⟩ (four_len _) (fun e => flip_sum _ hj hq (four_inj e))
    generalize (txb t)[j] ^^^ UInt8.ofNat (2 ^ q) = y
    unfold txb
    rw [List.set_append_right _ _ h1]
  · have hjl : j - (txb t).length < (four (sumW (txb t))).length := by
      rw [List.length_append] at h2
      omega
    rw [List.getElem_append_right (by omega), List.set_append_right _ _ (by omega)]
    refine ftake_bad ht ⟨t, rfl, rfl⟩ (by simp [four_len]) (fun e => ?_)
    have := congrArg (fun l => l[j - (txb t).length]?) e
    simp only [List.getElem?_set_self hjl, List.getElem?_eq_getElem hjl, Option.some.injEq] at this
    exact flip_ne _ hq this.symm
end Go.Proofs.YtddmfoldnlafaaaGreatDoor

namespace Go.Proofs.YtddmfoldnlafaaaGreatDoor
open Go.RowKit
attribute [local go_sem ↓] Go.wp_at_zero Go.wp_at_succ

theorem sum_digits : wn (sumW [49, 50, 51, 52, 53, 54, 55, 56, 57]) = 3808858755 := by decide +kernel
theorem Own.ne {W : World} {base g n c size : Nat} {e : TypeId} {A : Option Addr} {xs : List Value} (h : Own W base e size A n c xs) (hg : g < base) : A.map (·.block) ≠ some g := by
  intro hA
  have := h.lt g hA
  omega
theorem Mkr.belowB {w w' : World} {g B : Nat} {n : Int} (hM : Mkr w g n) (hg : g < B) (hb : Below B w w') : Mkr w' g n := by
  rcases hM with ⟨cs, hB, r⟩ | ⟨cs, hB, r⟩
  · exact .inl ⟨cs, (hb.block g hg).trans hB, r⟩
  · exact .inr ⟨cs, (hb.block g hg).trans hB, r⟩
/-- a maker at block g, and bytes beside it -/
structure CSt (w : World) (g n : Nat) (ls : List Pt) (W : World) : Prop where
  mkr : Mkr W g n
  bel : Below w.heap.size w W
  sl : ∀ x ∈ ls, SlB W x.1 x.2.1 x.2.2 ∧ (x.2.2 ≠ [] → x.1.map (·.block) ≠ some g)
theorem CSt.at {w W : World} {g n : Nat} {ls : List Pt} (h : CSt w g n ls W) {A : Option Addr} {c : Nat} {l : List UInt8} (hm : (A, c, l) ∈ ls) : SlB W A c l := (h.sl _ hm).1
theorem CSt.ne {w W : World} {g n : Nat} {ls : List Pt} (h : CSt w g n ls W) {A : Option Addr} {c : Nat} {l : List UInt8} (hm : (A, c, l) ∈ ls) : l ≠ [] → A.map (·.block) ≠ some g := (h.sl _ hm).2
theorem CSt.but {w W W' : World} {g n n' : Nat} {ls : List Pt} (h : CSt w g n ls W) (hg : w.heap.size ≤ g) (hM : Mkr W' g n') (hb : But g W W') : CSt w g n' ls W' :=
  ⟨hM, below_of_but hb h.bel hg, fun x hx => ⟨SlB.but (h.sl x hx).1 hb (h.sl x hx).2, (h.sl x hx).2⟩⟩
theorem CSt.below {w W W' : World} {g n : Nat} {ls : List Pt} (h : CSt w g n ls W) (hb : Below W.heap.size W W') : CSt w g n ls W' :=
  ⟨h.mkr.below hb, bel_call h.bel hb, fun x hx => ⟨(h.sl x hx).1.below hb, (h.sl x hx).2⟩⟩
theorem CSt.of {w W : World} {g n : Nat} {ls : List Pt} (h : CSt w g n ls W) {ps : List Pt} (hp : ∀ x ∈ ps, x ∈ ls ∧ x.2.2.length ≤ 1000000000) : ∀ x ∈ ps, SlB W x.1 x.2.1 x.2.2 ∧ (x.2.2 ≠ [] → x.1.map (·.block) ≠ some g) ∧ x.2.2.length ≤ 1000000000 :=
  fun x hx => ⟨(h.sl x (hp x hx).1).1, (h.sl x (hp x hx).1).2, (hp x hx).2⟩
theorem Sum_len (g n : Nat) (A : Option Addr) (c k : Nat) (l : List UInt8) (w : World) (hk : k = l.length) (hM : Mkr w g n) (hn : n < 1000000000) (hs : SlB w A c l) (hA : l ≠ [] → A.map (·.block) ≠ some g) (hl : l.length ≤ 1000000000) :
    Calls Tryz.prog 159 #[.pointer (some ⟨g, 0, none⟩), .slice A k c] w fun e w' => e = .returned (wv (sumW l)) ∧ Mkr w' g ((n + 1 : Nat) : Int) ∧ But g w w' := by
  subst hk; exact Sum_at g n A c l w hM hn hs hA hl
theorem CSt.drew {w W : World} {g n : Nat} {ls : List Pt} (h : CSt w g n ls W) : CSt w g n ls W.drew := ⟨h.mkr, h.bel.drew, h.sl⟩
theorem Opened_len (g n : Nat) (A : Option Addr) (c k : Nat) (l : List UInt8) (w : World) (hk : k = l.length) (hM : Mkr w g n) (hn : n < 1000000000) (hs : SlB w A c l) (hA : l ≠ [] → A.map (·.block) ≠ some g) (hl : l.length ≤ 100000000) :
    Calls Tryz.prog 160 #[.pointer (some ⟨g, 0, none⟩), .slice A k c] w (OpensB g n w (opened l)) := by
  subst hk; exact Opened_at g n A c l w hM hn hs hA hl
theorem own_frozen {w : World} {base : Nat} {e : TypeId} {A : Option Addr} {c size n : Nat} {xs : List Value} {g : Nat} (h : Own w base e size A n c xs) (hA : A = some ⟨g, 0, none⟩) (j : Nat) : w.frozen? ⟨g, j, none⟩ = false := by
  rcases h.2 with ⟨hv, hn⟩ | ⟨g', cap, cur, hv, hb, hh, _⟩
  · subst hA; simp at hv
  · subst hA
    simp at hv
    obtain ⟨rfl, rfl⟩ := hv
    simp [World.frozen?, hh]
theorem turn_byte (a : UInt8) (q : Nat) : bits .xor .u8 (a.toNat : Int) (HMod.hMod (α := Int) (β := Int) (HPow.hPow (α := Int) (β := Nat) 2 q) 256) = ((a ^^^ UInt8.ofNat (2 ^ q)).toNat : Int) := by
  have h : HMod.hMod (α := Int) (β := Int) (HPow.hPow (α := Int) (β := Nat) 2 q) 256 = ((UInt8.ofNat (2 ^ q)).toNat : Int) := by
    rw [UInt8.toNat_ofNat', Int.natCast_emod, Int.natCast_pow]; rfl
  rw [h, xor_u8 a.toNat_lt (UInt8.ofNat (2 ^ q)).toNat_lt, UInt8.toNat_xor]
theorem shr_pow (x : W32) (k : Nat) : HDiv.hDiv (α := Int) (β := Int) (wn x) (HPow.hPow (α := Int) (β := Nat) 2 k) = wn (x >>> k) := by
  rw [← shr_wn, Int.natCast_pow]; rfl
theorem len_le_not {n : Nat} {k : Int} (h : (n : Int) ≤ k) : ¬ (k < (n : Int)) := by omega

end Go.Proofs.YtddmfoldnlafaaaGreatDoor

namespace Go.Proofs.YtddmfoldnlafaaaGreatDoor
open Go.RowKit
attribute [local go_sem ↓] Go.wp_at_zero Go.wp_at_succ

/-- what Put answers -/
def PutsB (w0 : World) (o : List UInt8 × Nat) (e : Ending) (w' : World) : Prop :=
  ∃ A c m, e = .returned (.tuple #[.slice A (List.length m) c, errv o.2]) ∧ Hid (m = o.1) ∧ OwnB w' w0.heap.size 5 A c m ∧ Below w0.heap.size w0 w'
def fput (l t : List UInt8) : List UInt8 × Nat := if 65536 < t.length then ([], 3) else (l ++ frm t, 0)

set_option maxRecDepth 100000 in
set_option maxHeartbeats 1000000 in
theorem FPut_any (A : Option Addr) (c : Nat) (l : List UInt8) (B : Option Addr) (d : Nat) (t : List UInt8) (w : World) (hl : l.length ≤ 10000000) (hs : SlB w A c l) (ht : SlB w B d t) (htl : t.length ≤ 10000000) :
    Calls Tryz.prog 52 #[.slice A l.length c, .slice B t.length d] w (PutsB w (fput l t)) := by
  by_cases h : 65536 < t.length
  · have ho := Lib.hid (show fput l t = ([], 3) from by unfold fput; rw [if_pos h])
    have hi : (65536 : Int) < (t.length : Int) := by omega
    go_enter Tryz.func52, Tryz.ntmps52
    go_wp2_with fail
    go_ret2
    exact ⟨none, 0, [], by rw [ho.out]; rfl, by rw [ho.out]; rfl, Own.none_ _ _ _ _, Below.refl _ _⟩
  · have ho := Lib.hid (show fput l t = (l ++ frm t, 0) from by unfold fput; rw [if_neg h])
    have hi : ¬ (65536 : Int) < (t.length : Int) := by omega
    have hvl := Lib.hid (vb_le10 (n := t.length) (by omega))
    go_enter Tryz.func52, Tryz.ntmps52
    go_wp2_with fail
    refine (CrcNew_any _).mono ?_
    rintro e w1 ⟨rfl, hM1, hb1⟩
    go_wp2_with fail
    refine (PutText_any none 0 [] B d t w1 (by simp) (Sl.none_ w1 1) (ht.below hb1) htl).mono ?_
    rintro e w2 ⟨A2, c2, m2, rfl, hm2, ho2, hb2⟩
    have hm2' := Lib.hid (show m2 = txb t from hm2.out)
    have hml2 := Lib.hid (show m2.length ≤ 10000010 from by rw [hm2'.out]; unfold txb; rw [List.length_append]; have := hvl.out; omega)
    have hw2 := bel_call hb1 hb2
    go_wp2_with fail
    have hM2 : Mkr w2 w.heap.size ((0 : Nat) : Int) := Mkr.below (.inl hM1) hb2
    have hn2 : m2 ≠ [] → A2.map (·.block) ≠ some w.heap.size := fun _ => Own.ne ho2 hM1.lt
    have hl2 : m2.length ≤ 100000000 := by have := hml2.out; omega
    have hq := Sealed_at w.heap.size 0 A2 c2 m2 w2 hM2 (by omega) ho2.sl hn2 hl2
    with_reducible refine hq.mono ?_
    rintro e w3 ⟨A3, c3, m3, rfl, hm3, ho3, hM3, hB3⟩
    have hm3' := Lib.hid (show m3 = frm t from by rw [hm3.out, hm2'.out]; rfl)
    have hml3 := Lib.hid (show m3.length ≤ 10000014 from by rw [hm3.out, List.length_append, four_len]; have := hml2.out; omega)
    have hw3 := below_of_but hB3 hw2 (Nat.le_refl _)
    have hbn := below_new w3 (.cells #[.slice A l.length c, .slice A3 m3.length c3] 25)
    go_wp2_with fail
    refine (Concat_any (some ⟨w3.heap.size, 0, none⟩) 2 [(A, c, l), (A3, c3, m3)] _ (Sl.lits w3 [pv (A, c, l), pv (A3, c3, m3)] 25 (by simp [maxLen])) ?_ ?_).mono ?_
    · intro q hq
      simp only [List.mem_cons, List.not_mem_nil, or_false] at hq
      rcases hq with rfl | rfl
      · exact (hs.below hw3).below hbn
      · exact ho3.sl.below hbn
    · have := hml3.out; simp [partsOf]; omega
    rintro e w4 ⟨A4, c4, m4, rfl, hm4, ho4, hb4⟩
    go_wp2_with fail
    go_ret2
    refine ⟨A4, c4, m4, by rw [ho.out]; rfl, by rw [ho.out]; show m4 = _; rw [hm4.out, hm3'.out]; simp [partsOf], ho4.more ?_, bel_call (bel_call hw3 hbn) hb4⟩
    exact Nat.le_trans hw3.size hbn.size

/-- bytes, in a block of the call's own, from some place on -/
def OwnO (w : World) (base : Nat) (A : Option Addr) (c : Nat) (m : List UInt8) : Prop :=
  SlB w A c m ∧ (m ≠ [] → ∃ (g off : Nat) (cur : Array Value), A = some ⟨g, off, none⟩ ∧ base ≤ g ∧ w.heap[g]? = some (.cells cur 5 (0, 0)))
/-- what Take answers -/
def TakesF (w0 : World) (o : List UInt8 × Nat × Nat) (e : Ending) (w' : World) : Prop :=
  ∃ A c m, e = .returned (.tuple #[.slice A (List.length m) c, .int .i64 (o.2.1 : Nat), errv o.2.2]) ∧ Hid (m = o.1) ∧ OwnO w' w0.heap.size A c m ∧ Below w0.heap.size w0 w'
theorem OwnO.nil (w : World) (base : Nat) : OwnO w base none 0 [] := ⟨Sl.none_ _ _, fun h => absurd rfl h⟩
theorem OwnO.cut {w : World} {base : Nat} {E : Option Addr} {f k : Nat} {m : List UInt8} (ho : OwnB w base 5 E f m) (hk : k ≤ m.length) : OwnO w base (if f = k then E else E.map (·.add k)) (f - k) (m.drop k) := by
  have hc := Sl.cutB ho.sl hk
  rw [show m.length - k = (m.drop k).length from by simp] at hc
  refine ⟨hc, fun hne => ?_⟩
  have hkl : k < m.length := by
    rcases Nat.lt_or_ge k m.length with h | h
    · exact h
    · exact absurd (List.drop_eq_nil_of_le h) hne
  have hf := ho.sl.2.1
  rw [if_neg (by omega)]
  rcases ho.2 with ⟨_, h0⟩ | ⟨g, cap, cur, hv, hb, hh, _⟩
  · omega
  · injection hv with hE _ _
    subst hE
    exact ⟨g, k, cur, by simp [addr_lit], hb, hh⟩
theorem ftake_none {l : List UInt8} (h : take l = none) : ftake l = ([], 0, 2) := by unfold ftake; rw [h]
theorem ftake_long {l : List UInt8} {n k : Nat} (h : take l = some (n, k)) (hn : 65536 < n) : ftake l = ([], 0, 3) := by unfold ftake; rw [h]; dsimp only; rw [if_pos hn]
theorem ftake_short {l : List UInt8} {n k : Nat} (h : take l = some (n, k)) (hn : ¬ 65536 < n) (hs : l.length < k + n + 4) : ftake l = ([], 0, 2) := by unfold ftake; rw [h]; dsimp only; rw [if_neg hn, if_pos hs]
theorem ftake_some {l : List UInt8} {n k : Nat} (h : take l = some (n, k)) (hn : ¬ 65536 < n) (hs : ¬ l.length < k + n + 4) : ftake l = (if (opened (l.take (k + n + 4))).2 = 0 then ((opened (l.take (k + n + 4))).1.drop k, k + n + 4, 0) else ([], 0, 11)) ∧ ((opened (l.take (k + n + 4))).2 = 0 ∨ (opened (l.take (k + n + 4))).2 = 11) ∧ ((opened (l.take (k + n + 4))).2 = 0 → (opened (l.take (k + n + 4))).1.length = k + n) := by
  unfold ftake; rw [h]; dsimp only; rw [if_neg hn, if_neg hs, opened_take (by omega)]
  by_cases he : four (sumW (l.take (k + n))) = (l.drop (k + n)).take 4
  · rw [if_pos he, if_pos he, if_pos rfl]
    exact ⟨rfl, .inl rfl, fun _ => by simp; omega⟩
  · rw [if_neg he, if_neg he, if_neg (by simp)]
    exact ⟨rfl, .inr rfl, fun h => by simp at h⟩

set_option maxRecDepth 100000 in
set_option maxHeartbeats 2000000 in
theorem FTake_any (A : Option Addr) (c : Nat) (l : List UInt8) (w : World) (hs : SlB w A c l) (hl : l.length ≤ 10000000) :
    Calls Tryz.prog 117 #[.slice A l.length c] w (TakesF w (ftake l)) := by
  have hc1 := hs.2.1
  go_enter Tryz.func117, Tryz.ntmps117
  go_wp2_with fail
  refine (Take_any A c l _ hs).mono ?_
  rintro e w1 ⟨rfl, ⟨ht, rfl⟩ | ⟨n, k, ht, rfl⟩⟩
  · have hf := Lib.hid (ftake_none ht)
    clear ht
    go_wp2_with fail
    go_ret3
    exact ⟨none, 0, [], by rw [hf.out]; rfl, by rw [hf.out]; rfl, OwnO.nil _ _, Below.refl _ _⟩
  · obtain ⟨hu, hkl, _⟩ := take_some ht
    by_cases hn : 65536 < n
    · have hf := Lib.hid (ftake_long ht hn)
      have hni : (65536 : Int) < (n : Int) := by omega
      clear ht
      go_wp2_with fail
      go_ret3
      exact ⟨none, 0, [], by rw [hf.out]; rfl, by rw [hf.out]; rfl, OwnO.nil _ _, Below.refl _ _⟩
    · have hni : ¬ (65536 : Int) < (n : Int) := by omega
      have hw1 : IntKind.u64.wrap ((l.length : Int) - (k : Int)) = ((l.length - k : Nat) : Int) := by rw [IntKind.wrap_u64]; omega
      have hw2 : IntKind.u64.wrap ((n : Int) + 4) = ((n + 4 : Nat) : Int) := by rw [IntKind.wrap_u64]; omega
      by_cases hsh : l.length < k + n + 4
      · have hf := Lib.hid (ftake_short ht hn hsh)
        clear ht
        go_wp2_with fail
        go_ret3
        exact ⟨none, 0, [], by rw [hf.out]; rfl, by rw [hf.out]; rfl, OwnO.nil _ _, Below.refl _ _⟩
      · obtain ⟨hf, hor, hlen⟩ := ftake_some ht hn hsh
        have HF := Lib.hid hf
        have HL := Lib.hid hlen
        have hsi : ¬ (((l.length - k : Nat) : Int) < (n : Int) + 4) := by omega
        obtain ⟨q, hq⟩ : ∃ q, q = k + n + 4 := ⟨_, rfl⟩
        have hqi : (k : Int) + (n : Int) + 4 = (q : Int) := by omega
        have hqc : q ≤ c := by omega
        have hql : q ≤ l.length := by omega
        have hw64 : wrap64 (n : Int) = (n : Int) := by simp only [wrap64]; omega
        rw [← hq] at HF HL hor
        have HQ := Lib.hid hq
        have hT := Sl.takeB hs q
        have htl : (l.take q).length = q := by simp; omega
        clear ht hf hlen hq hw2
        generalize hl1 : l.take q = l1 at *
        clear hl1
        have HTL := Lib.hid htl
        clear htl
        have hT1 : SlB w.drew A c l1 := hT
        go_wp2_with fail
        go_cut [7, 4] (fun s7 s4 wx => ∃ (E : Option Addr) (f : Nat) (m : List UInt8), s7 = .slice E m.length f ∧ s4 = errv (opened l1).2 ∧ Hid (m = (opened l1).1) ∧ OwnB wx w.heap.size 5 E f m ∧ Below w.heap.size w wx)
        case first =>
          refine wp_region_held_drew (S := (fun _ => True)) (by kernel_rfl) ?_ (fun hHeld => ?_)
          · first | done | trivial
          refine wpAnyH_take (i := 1) (oi := ⟨some 39, _, _, _, _, _⟩) (v := ?_) rfl (by kernel_rfl) (by kernel_rfl) (by kernel_rfl) (fun _ _ _ h => h) (Or.inl ⟨by kernel_rfl, ?_⟩) (by assumption) ?_
          rotate_left
          · (intro wS hSw; (try dsimp only at hSw); go_simp; (try with_reducible rfl))
          (try simp only [Act.put, List.setIfInBounds_toArray, List.set_cons_zero, List.set_cons_succ])
          refine wpAnyH_take (i := 2) (oi := ⟨some 40, _, _, _, _, _⟩) (v := ?_) rfl (by kernel_rfl) (by kernel_rfl) (by kernel_rfl) (fun _ _ _ h => h) (Or.inl ⟨by kernel_rfl, ?_⟩) (by assumption) ?_
          rotate_left
          · (intro wS hSw; (try dsimp only at hSw); go_simp; (try with_reducible rfl))
          (try simp only [Act.put, List.setIfInBounds_toArray, List.set_cons_zero, List.set_cons_succ])
          refine wpAnyH_take (i := 3) (oi := ⟨some 41, _, _, _, _, _⟩) (v := ?_) rfl (by kernel_rfl) (by kernel_rfl) (by kernel_rfl) (fun _ _ _ h => h) (Or.inl ⟨by kernel_rfl, ?_⟩) (by assumption) ?_
          rotate_left
          · (intro wS hSw; (try dsimp only at hSw); go_simp; (try with_reducible rfl))
          (try simp only [Act.put, List.setIfInBounds_toArray, List.set_cons_zero, List.set_cons_succ])
          refine wpAnyH_ready (rs := [0]) (by kernel_rfl) (by simp) ?_
          refine AllReadyH.cons (o := ⟨some 38, _, _, _, _, _⟩) rfl (fun K hK => ?_) AllReadyH.nil
          go_simp
          (refine (CrcNew_any _).mono ?_; rintro e w9 ⟨rfl, hM9, hb9⟩; have hM9' : Mkr w9 w.heap.size ((0 : Nat) : Int) := .inl hM9; have hT9 : SlB w9 A c l1 := hT1.below hb9; have hn9 : l1 ≠ [] → A.map (·.block) ≠ some w.heap.size := SlB.old hT1 (Nat.le_refl _))
          go_wp2_with fail
          refine hK.out _ _ ?_ (fun hHeld => ?_)
          · ((try dsimp only); (first | done | trivial))
          clear hK K
          (try simp only [Act.put, List.setIfInBounds_toArray, List.set_cons_zero, List.set_cons_succ])
          refine wpAnyH_ready (rs := [4]) (by kernel_rfl) (by simp) ?_
          refine AllReadyH.cons (o := ⟨some 42, _, _, _, _, _⟩) rfl (fun K hK => ?_) AllReadyH.nil
          go_simp
          ((with_reducible refine (Opened_len w.heap.size 0 A c q l1 w9 HTL.out.symm hM9' (by omega) hT9 hn9 (by rw [HTL.out]; omega)).mono ?_); rintro e w10 ⟨A10, c10, m10, rfl, hm10, ho10, hM10, hB10⟩)
          go_wp2_with fail
          refine hK.out _ _ ?_ (fun hHeld => ?_)
          · ((try dsimp only); (first | done | trivial))
          clear hK K
          (try simp only [Act.put, List.setIfInBounds_toArray, List.set_cons_zero, List.set_cons_succ])
          refine wpAnyH_take (i := 5) (oi := ⟨some 37, _, _, _, _, _⟩) (v := ?_) rfl (by kernel_rfl) (by kernel_rfl) (by kernel_rfl) (fun _ _ _ h => h) (Or.inl ⟨by kernel_rfl, ?_⟩) (by assumption) ?_
          rotate_left
          · (intro wS hSw; (try dsimp only at hSw); go_simp; (try with_reducible rfl))
          (try simp only [Act.put, List.setIfInBounds_toArray, List.set_cons_zero, List.set_cons_succ])
          refine wpAnyH_take (i := 6) (oi := ⟨some 43, _, _, _, _, _⟩) (v := ?_) rfl (by kernel_rfl) (by kernel_rfl) (by kernel_rfl) (fun _ _ _ h => h) (Or.inl ⟨by kernel_rfl, ?_⟩) (by assumption) ?_
          rotate_left
          · (intro wS hSw; (try dsimp only at hSw); go_simp; (try with_reducible rfl))
          (try simp only [Act.put, List.setIfInBounds_toArray, List.set_cons_zero, List.set_cons_succ])
          refine wpAnyH_take (i := 7) (oi := ⟨some 44, _, _, _, _, _⟩) (v := ?_) rfl (by kernel_rfl) (by kernel_rfl) (by kernel_rfl) (fun _ _ _ h => h) (Or.inl ⟨by kernel_rfl, ?_⟩) (by assumption) ?_
          rotate_left
          · (intro wS hSw; (try dsimp only at hSw); go_simp; (try with_reducible rfl))
          (try simp only [Act.put, List.setIfInBounds_toArray, List.set_cons_zero, List.set_cons_succ])
          refine wpAnyH_take (i := 8) (oi := ⟨some 7, _, _, _, _, _⟩) (v := ?_) rfl (by kernel_rfl) (by kernel_rfl) (by kernel_rfl) (fun _ _ _ h => h) (Or.inl ⟨by kernel_rfl, ?_⟩) (by assumption) ?_
          rotate_left
          · (intro wS hSw; (try dsimp only at hSw); go_simp; (try with_reducible rfl))
          (try simp only [Act.put, List.setIfInBounds_toArray, List.set_cons_zero, List.set_cons_succ])
          refine wpAnyH_take (i := 9) (oi := ⟨some 4, _, _, _, _, _⟩) (v := ?_) rfl (by kernel_rfl) (by kernel_rfl) (by kernel_rfl) (fun _ _ _ h => h) (Or.inl ⟨by kernel_rfl, ?_⟩) (by assumption) ?_
          rotate_left
          · (intro wS hSw; (try dsimp only at hSw); go_simp; (try with_reducible rfl))
          (try simp only [Act.put, List.setIfInBounds_toArray, List.set_cons_zero, List.set_cons_succ])
          refine wpAnyH_done (by kernel_rfl) ?_ _
          go_wp2_with fail
          go_meet
          exact ⟨A10, c10, m10, rfl, rfl, hm10, ho10.more hb9.size, below_of_drew (below_of_but hB10 hb9 (Nat.le_refl _))⟩
        case rest =>
          obtain ⟨E, f, m, rfl, rfl, hm, ho, hb⟩ := hcut
          have hfc := ho.sl.2.1
          rcases hor with h0 | h11
          · have hm1 := hm.out
            rw [← hm1] at HF HL
            rw [h0] at HF HL
            have hml := Lib.hid (HL.out rfl)
            have hkm : k ≤ m.length := by rw [hml.out]; omega
            have HF2 := Lib.hid (show ftake l = (m.drop k, q, 0) from by rw [HF.out, if_pos rfl])
            have hcut := OwnO.cut ho hkm
            have hdl : (m.drop k).length = m.length - k := by simp
            rw [h0]
            clear HF HL hm hm1 ho
            generalize m.drop k = m2 at *
            have hev : errv 0 = .nilIface := rfl
            rw [hev]
            by_cases hfk : f = k
            · rw [if_pos hfk] at hcut
              subst hfk
              go_wp2_with fail
              go_ret3
              refine ⟨E, f - f, m2, ?_, by rw [HF2.out]; rfl, hcut, hb⟩
              rw [HF2.out, hdl]
              simp [errv]
              omega
            · rw [if_neg hfk] at hcut
              go_wp2_with fail
              go_ret3
              refine ⟨_, f - k, m2, ?_, by rw [HF2.out]; rfl, hcut, hb⟩
              rw [HF2.out, hdl]
              rfl
          · have HF2 := Lib.hid (show ftake l = ([], 0, 11) from by rw [HF.out, if_neg (by rw [h11]; simp)])
            rw [h11]
            have hev : errv 11 = .iface 79 (.int .i64 11) := rfl
            rw [hev]
            clear HF HL hm ho
            go_wp2_with fail
            go_ret3
            exact ⟨none, 0, [], by rw [HF2.out]; rfl, by rw [HF2.out]; rfl, OwnO.nil _ _, hb⟩
end Go.Proofs.YtddmfoldnlafaaaGreatDoor

namespace Go.Proofs.YtddmfoldnlafaaaGreatDoor
open Go.RowKit
attribute [local go_sem ↓] Go.wp_at_zero Go.wp_at_succ

theorem u64_tmod (a : Int) (n : Nat) : ∃ k : Nat, k ≤ n ∧ (IntKind.u64.wrap a).tmod ((n : Int) + 1) = (k : Int) := by
  have h : 0 ≤ IntKind.u64.wrap a := wrap_u64_nonneg a
  rw [Int.tmod_eq_emod_of_nonneg h]
  have h1 := Int.emod_nonneg (IntKind.u64.wrap a) (show (n : Int) + 1 ≠ 0 by omega)
  have h2 := Int.emod_lt_of_pos (IntKind.u64.wrap a) (show (0 : Int) < (n : Int) + 1 by omega)
  exact ⟨((IntKind.u64.wrap a) % ((n : Int) + 1)).toNat, by omega, by omega⟩
theorem opened_sealed (l : List UInt8) : opened (l ++ four (sumW l)) = (l, 0) := by
  have h4 := four_len (sumW l)
  unfold opened
  have hl : (l ++ four (sumW l)).length - 4 = l.length := by simp [h4]
  rw [if_neg (by rw [List.length_append, h4]; omega), hl, List.take_left, List.drop_left, if_pos rfl]

end Go.Proofs.YtddmfoldnlafaaaGreatDoor

namespace Go.Proofs.YtddmfoldnlafaaaGreatDoor
open Go.RowKit
attribute [local go_sem ↓] Go.wp_at_zero Go.wp_at_succ

theorem u64_tmod_pos (a : Int) (n : Nat) (hn : 0 < n) : ∃ k : Nat, k < n ∧ (IntKind.u64.wrap a).tmod (n : Int) = (k : Int) := by
  obtain ⟨k, hk, he⟩ := u64_tmod a (n - 1)
  refine ⟨k, by omega, ?_⟩
  rw [← he]
  congr 1
  omega
/-- the bits that have been turned so far -/
def wpart (x n8 place i : Nat) : Nat := x % 2 ^ min i (n8 - place)
theorem wpart_out {x n8 place i : Nat} (h : n8 ≤ place + i) : wpart x n8 place (i + 1) = wpart x n8 place i := by
  unfold wpart; rw [Nat.min_eq_right (by omega), Nat.min_eq_right (by omega)]
theorem wpart_off {x n8 place i : Nat} (hp : place + i < n8) (h : x.testBit i = false) : wpart x n8 place (i + 1) = wpart x n8 place i := by
  unfold wpart
  rw [Nat.min_eq_left (by omega), Nat.min_eq_left (by omega)]
  apply Nat.eq_of_testBit_eq
  intro j
  simp only [Nat.testBit_mod_two_pow]
  by_cases hj : j = i
  · subst hj; simp [h]
  · by_cases h1 : j < i
    · simp [h1, show j < i + 1 from by omega]
    · simp [h1, show ¬ j < i + 1 from by omega]
theorem wpart_on {x n8 place i : Nat} (hp : place + i < n8) (h : x.testBit i = true) : wpart x n8 place (i + 1) = wpart x n8 place i ^^^ 2 ^ i := by
  unfold wpart
  rw [Nat.min_eq_left (by omega), Nat.min_eq_left (by omega)]
  apply Nat.eq_of_testBit_eq
  intro j
  simp only [Nat.testBit_mod_two_pow, Nat.testBit_xor, Nat.testBit_two_pow]
  by_cases hj : j = i
  · subst hj; simp [h]
  · by_cases h1 : j < i
    · simp [h1, show j < i + 1 from by omega, show ¬ i = j from by omega]
    · simp [h1, show ¬ j < i + 1 from by omega, show ¬ i = j from by omega]
theorem wpart_on_ne {x n8 place i : Nat} (hp : place + i < n8) (h : x.testBit i = true) : wpart x n8 place (i + 1) ≠ 0 := by
  rw [wpart_on hp h]
  intro he
  have := congrArg (fun y => y.testBit i) he
  simp [Nat.testBit_xor, wpart, Nat.testBit_mod_two_pow, Nat.min_eq_left (show i ≤ n8 - place from by omega)] at this
theorem set_bit {l m : List UInt8} {W place i : Nat} (_hl : m.length = l.length) (h : leN m = leN l ^^^ (W <<< place)) (hp : (place + i) / 8 < m.length) :
    leN (m.set ((place + i) / 8) (m[(place + i) / 8] ^^^ UInt8.ofNat (2 ^ ((place + i) % 8)))) = leN l ^^^ ((W ^^^ 2 ^ i) <<< place) := by
  rw [leN_set _ _ hp, h, Nat.xor_assoc, Nat.shiftLeft_xor_distrib]
  congr 2
  have h8 : (place + i) % 8 < 8 := Nat.mod_lt _ (by decide)
  have h2 : 2 ^ ((place + i) % 8) < 256 := Nat.pow_lt_pow_right (a := 2) (by decide) h8
  rw [UInt8.toNat_ofNat', Nat.mod_eq_of_lt h2, Nat.shiftLeft_eq, Nat.shiftLeft_eq, ← Nat.pow_add, ← Nat.pow_add]
  congr 1
  omega
theorem own_set {w : World} {base : Nat} {e : TypeId} {A : Option Addr} {c j : Nat} {m : List UInt8} {x : UInt8} {g : Nat} (h : OwnB w base e A c m) (hA : A = some ⟨g, 0, none⟩) (_hj : j < m.length) : OwnB (w.setCell ⟨g, j, none⟩ (bv x)) base e A c (m.set j x) := by
  obtain ⟨h1, h2⟩ := h
  rcases h2 with ⟨hv, hn⟩ | ⟨g', cap, cur, hv, hb, hh, hnc, hcm, hcs, ht⟩
  · subst hA; simp at hv
  · subst hA
    simp at hv
    obtain ⟨rfl, rfl⟩ := hv
    have hb2 : bvs (m.set j x) = (bvs m).set j (bv x) := by rw [bvs, bvs, List.map_set]
    refine ⟨by simp, .inr ⟨g, c, cur.setIfInBounds j (bv x), by simp, hb, ?_, by simpa using hnc, hcm, by simpa using hcs, ?_⟩⟩
    · simp [World.setCell, Array.getElem?_modify, hh]
    · rw [Array.toList_setIfInBounds, List.length_set, List.take_set, ht, hb2]

theorem Sl.apartB {w w5 w6 : World} {A : Option Addr} {c g : Nat} {l : List UInt8} (h : SlB w A c l) (hb : But g w w5) (_ : g < w.heap.size) (hb6 : Below w.heap.size w5 w6) (hA : l ≠ [] → A.map (·.block) ≠ some g) : SlB w6 A c l := by
  have h5 := SlB.but h hb hA
  refine ⟨h.1, h.2.1, h.2.2.1, h.2.2.2.1, fun j u hj => ?_⟩
  obtain ⟨ad, hA2, hc⟩ := h5.2.2.2.2 j u hj
  obtain ⟨ad', hA', hc'⟩ := h.2.2.2.2 j u hj
  rw [hA2] at hA'
  injection hA' with e
  subst e
  exact ⟨ad, hA2, (hb6.cell (World.block_lt_of_cell? w _ hc')).trans hc⟩
theorem own_copy {w : World} {base g cap : Nat} {e : TypeId} {cur : List Value} {l m f : List UInt8} (hg : base ≤ g) (hh : w.heap[g]? = some (.cells (splice cur 0 (bvs m)).toArray e (0, 0))) (hn : (l ++ f).length ≤ cap) (hcm : cap ≤ maxLen)
    (hcs : cur.length = cap) (ht : cur.take (l ++ f).length = bvs (l ++ f)) (hlm : m.length = l.length) : OwnB w base e (some ⟨g, 0, none⟩) cap (m ++ f) := by
  have h1 : (m ++ f).length = (l ++ f).length := by simp [hlm]
  have h2 : (bvs m).length = m.length := by simp
  refine ⟨by simp, .inr ⟨g, cap, _, rfl, hg, hh, by rw [h1]; exact hn, hcm, ?_, ?_⟩⟩
  · simp only [List.size_toArray]
    rw [length_splice _ _ _ (by rw [h2, hcs, hlm]; rw [List.length_append] at hn; omega), hcs]
    omega
  · show List.take ((m ++ f).length * 1) (splice cur 0 (bvs m)) = bvs (m ++ f)
    have h3 : bvs (m ++ f) = bvs m ++ bvs f := List.map_append
    have h4 : (cur.drop m.length).take f.length = bvs f := by
      have := congrArg (List.drop l.length) ht
      rw [List.drop_take, List.length_append, Nat.add_sub_cancel_left] at this
      rw [hlm, this]
      show (bvs (l ++ f)).drop l.length = bvs f
      rw [show bvs (l ++ f) = bvs l ++ bvs f from List.map_append, List.drop_left' (by simp)]
    rw [h3, ← h4]
    unfold splice
    rw [List.take_zero, List.nil_append, Nat.zero_add, h2, Nat.mul_one, List.length_append, List.take_append, h2, List.take_of_length_le (by rw [h2]; omega), Nat.add_sub_cancel_left]
theorem opened_other {l m : List UInt8} (h : sumW m ≠ sumW l) : opened (m ++ four (sumW l)) = ([], 11) := by
  have h4 := four_len (sumW l)
  unfold opened
  have hl : (m ++ four (sumW l)).length - 4 = m.length := by simp [h4]
  rw [if_neg (by rw [List.length_append, h4]; omega), hl, List.take_left, List.drop_left, if_neg (fun e => h (four_inj e))]

end Go.Proofs.YtddmfoldnlafaaaGreatDoor

namespace Go.Proofs.YtddmfoldnlafaaaGreatDoor
open Go.RowKit
attribute [local go_sem ↓] Go.wp_at_zero Go.wp_at_succ

theorem frm_nil : frm [] = [0, 82, 125, 83, 81] := by
  unfold frm txb
  rw [show vb ([] : List UInt8).length = [0] from vb_small (by decide)]
  decide +kernel
theorem FTake_len (A : Option Addr) (c k : Nat) (l : List UInt8) (w : World) (hk : k = l.length) (hs : SlB w A c l) (hl : l.length ≤ 10000000) :
    Calls Tryz.prog 117 #[.slice A k c] w (TakesF w (ftake l)) := by subst hk; exact FTake_any A c l w hs hl
end Go.Proofs.YtddmfoldnlafaaaGreatDoor

namespace Go.Proofs.YtddmfoldnlafaaaGreatDoor
open Go.RowKit
attribute [local go_sem ↓] Go.wp_at_zero Go.wp_at_succ

def ptx (ps : List Pt) : List (List UInt8) := ps.map (·.2.2)
theorem ptx_get {ps : List Pt} {k : Nat} (h : k < (ptx ps).length) (h2 : k < ps.length) : (ptx ps)[k] = ps[k].2.2 := List.getElem_map _
def frms (ts : List (List UInt8)) : List UInt8 := ts.flatMap frm
def fjoin (ts : List (List UInt8)) : List UInt8 × Nat := if ts.any (fun t => decide (65536 < t.length)) then ([], 3) else (frms ts, 0)
theorem fjoin_long {ts : List (List UInt8)} {k : Nat} (hk : k < ts.length) (h : 65536 < ts[k].length) : fjoin ts = ([], 3) := by
  unfold fjoin; rw [if_pos]
  exact List.any_eq_true.2 ⟨ts[k], List.getElem_mem hk, decide_eq_true h⟩
theorem fjoin_ok {ts : List (List UInt8)} (h : ∀ t ∈ ts, t.length ≤ 65536) : fjoin ts = (frms ts, 0) := by
  unfold fjoin; rw [if_neg]
  intro he
  obtain ⟨t, ht, hd⟩ := List.any_eq_true.1 he
  have := of_decide_eq_true hd
  have := h t ht
  omega
theorem frms_snoc {ts : List (List UInt8)} {k : Nat} (hk : k < ts.length) : frms (ts.take (k + 1)) = frms (ts.take k) ++ frm ts[k] := by
  unfold frms; rw [List.take_succ_eq_append_getElem hk, List.flatMap_append]; simp
theorem frms_le {ts : List (List UInt8)} (h : ∀ t ∈ ts, t.length ≤ 70000) : (frms ts).length ≤ 70014 * ts.length := by
  induction ts with
  | nil => simp [frms]
  | cons t ts ih =>
    have h1 := h t (by simp)
    have h2 := ih (fun q hq => h q (by simp [hq]))
    have h3 := frm_len t
    have h4 := vb_le10 (n := t.length) (by omega)
    simp only [frms, List.flatMap_cons, List.length_append, List.length_cons] at h2 ⊢
    omega
/-- what Join answers -/
def JoinsB (w0 : World) (o : List UInt8 × Nat) (e : Ending) (w' : World) : Prop :=
  ∃ A c m, e = .returned (.tuple #[.slice A (List.length m) c, errv o.2]) ∧ Hid (m = o.1) ∧ SlB w' A c m ∧ Below w0.heap.size w0 w'

set_option maxRecDepth 100000 in
set_option maxHeartbeats 1000000 in
theorem rFrame_any (A : Option Addr) (c : Nat) (t : List UInt8) (w : World) (hs : SlB w A c t) (ht : t.length ≤ 1000000) :
    Calls Tryz.prog 139 #[.slice A t.length c] w (GivesB w (frm t)) := by
  have hvl := Lib.hid (vb_le10 (n := t.length) (by omega))
  go_enter Tryz.func139, Tryz.ntmps139
  go_wp2_with fail
  refine (rText_any A c t _ hs (by omega)).mono ?_
  rintro e w1 ⟨A1, c1, m1, rfl, hm1, ho1, hb1⟩
  have hm1' := Lib.hid (show m1 = txb t from hm1.out)
  have hl1 := Lib.hid (show m1.length ≤ 1000010 from by rw [hm1'.out]; unfold txb; rw [List.length_append]; have := hvl.out; omega)
  go_wp2_with fail
  refine (rSum_any A1 c1 m1 _ ho1.sl (by have := hl1.out; omega)).mono ?_
  rintro e w2 ⟨rfl, rfl⟩
  go_wp2_with fail
  refine (rFour_any (sumW m1) _).mono ?_
  rintro e w3 ⟨A3, c3, m3, rfl, hm3, hs3, hb3⟩
  have hl3 := Lib.hid (show m3.length = 4 from by rw [hm3.out, four_len])
  go_wp2_with (at_builtin; go_must (refine wpl_bytes 25 5 Tryz.underlying25 u8_info rfl _ _ rfl w.heap.size A1 c1 m1 rfl (ho1.below hb3) A3 c3 m3 rfl hs3 (by have := hl1.out; have := hl3.out; omega) (Nat.le_trans hb1.size hb3.size) ?_; intro A4 c4 m4 w4 hm4 ho4 _ _ hb4))
  go_ret
  exact ⟨A4, c4, m4, rfl, (show m4 = _ from by rw [hm4.out, hm3.out, hm1'.out]; rfl), ho4, (bel_call hb1 hb3).trans hb4⟩
end Go.Proofs.YtddmfoldnlafaaaGreatDoor
