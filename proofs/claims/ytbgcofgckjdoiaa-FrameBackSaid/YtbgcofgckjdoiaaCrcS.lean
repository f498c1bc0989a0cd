/- WHAT IT HOLDS: the law CrcSums, walked. -/
import Derived.Test.YtbgcofgckjdoiaaCrcZ
import Derived.Test.YtbgcofgckjdoiaaVarQ
import Derived.Lib.SlBytesConst
namespace Go.Proofs.Ytbgcofgckjdoiaa
open Go.RowKit
attribute [local go_sem ↓] Go.wp_at_zero Go.wp_at_succ

theorem sum_digits : wn (sumW [49, 50, 51, 52, 53, 54, 55, 56, 57]) = 3808858755 := by decide +kernel
set_option maxRecDepth 100000 in
set_option maxHeartbeats 1000000 in
theorem alive02_any (w : World) : Calls Try.prog 37 #[] w fun e w' => e = .returned (.bool true) ∧ Below w.heap.size w w' := by
  go_enter Try.func37, Try.ntmps37
  go_wp2_with fail
  refine (New_any _).mono ?_
  rintro e w1 ⟨rfl, hM1, hb1⟩
  have hcv := Go.Lib.run_convert_bytes_const (P := Try.prog) w1 40 5 #[.int .u8 49, .int .u8 50, .int .u8 51, .int .u8 52, .int .u8 53, .int .u8 54, .int .u8 55, .int .u8 56, .int .u8 57] 9 9 Try.underlying40 Try.underlying5
  go_wp2_with fail
  have hbn := below_new w1 (.cells #[bv 49, bv 50, bv 51, bv 52, bv 53, bv 54, bv 55, bv 56, bv 57] 5 (9, 10))
  have hsd := sum_digits
  refine (Sum_at w.heap.size 0 (some ⟨w1.heap.size, 0, none⟩) 9 [49, 50, 51, 52, 53, 54, 55, 56, 57] _ (Mkr.below (.inl hM1) hbn) (by omega) (Sl.litsM w1 (bvs [49, 50, 51, 52, 53, 54, 55, 56, 57]) 5 (9, 10) (by simp [maxLen])) (fun _ => by have := hM1.lt; simp; omega) (by simp)).mono ?_
  rintro e w2 ⟨rfl, hM2, hB2⟩
  have hk : ((wn (sumW [49, 50, 51, 52, 53, 54, 55, 56, 57]) : Int) == 3808858755) = true := by rw [hsd]; rfl
  clear hsd
  generalize sumW [49, 50, 51, 52, 53, 54, 55, 56, 57] = x at *
  go_wp2_with fail
  refine (Asked_at w.heap.size _ _ hM2).mono ?_
  rintro e w3 ⟨rfl, rfl⟩
  go_wp2_with fail
  go_ret
  exact ⟨rfl, below_of_but hB2 (bel_call hb1 hbn) (Nat.le_refl _)⟩

theorem Own.ne {W : World} {base g n c size : Nat} {e : TypeId} {A : Option Addr} {xs : List Value} (h : Own W base e size A n c xs) (hg : g < base) : A.map (·.block) ≠ some g := by
  intro hA
  have := h.lt g hA
  omega
theorem Mkr.belowB {w w' : World} {g B : Nat} {n : Int} (hM : Mkr w g n) (hg : g < B) (hb : Below B w w') : Mkr w' g n := by
  rcases hM with ⟨cs, hB, r⟩ | ⟨cs, hB, r⟩
  · exact .inl ⟨cs, (hb.block g hg).trans hB, r⟩
  · exact .inr ⟨cs, (hb.block g hg).trans hB, r⟩
/-- a maker at block g, and bytes beside it -/
structure CSt (w : World) (g n : Nat) (ls : List Pt) (W : World) : Prop where
  mkr : Mkr W g n
  bel : Below w.heap.size w W
  sl : ∀ x ∈ ls, SlB W x.1 x.2.1 x.2.2 ∧ (x.2.2 ≠ [] → x.1.map (·.block) ≠ some g)
theorem CSt.at {w W : World} {g n : Nat} {ls : List Pt} (h : CSt w g n ls W) {A : Option Addr} {c : Nat} {l : List UInt8} (hm : (A, c, l) ∈ ls) : SlB W A c l := (h.sl _ hm).1
theorem CSt.ne {w W : World} {g n : Nat} {ls : List Pt} (h : CSt w g n ls W) {A : Option Addr} {c : Nat} {l : List UInt8} (hm : (A, c, l) ∈ ls) : l ≠ [] → A.map (·.block) ≠ some g := (h.sl _ hm).2
theorem CSt.but {w W W' : World} {g n n' : Nat} {ls : List Pt} (h : CSt w g n ls W) (hg : w.heap.size ≤ g) (hM : Mkr W' g n') (hb : But g W W') : CSt w g n' ls W' :=
  ⟨hM, below_of_but hb h.bel hg, fun x hx => ⟨SlB.but (h.sl x hx).1 hb (h.sl x hx).2, (h.sl x hx).2⟩⟩
theorem CSt.below {w W W' : World} {g n : Nat} {ls : List Pt} (h : CSt w g n ls W) (hb : Below W.heap.size W W') : CSt w g n ls W' :=
  ⟨h.mkr.below hb, bel_call h.bel hb, fun x hx => ⟨(h.sl x hx).1.below hb, (h.sl x hx).2⟩⟩
theorem CSt.of {w W : World} {g n : Nat} {ls : List Pt} (h : CSt w g n ls W) {ps : List Pt} (hp : ∀ x ∈ ps, x ∈ ls ∧ x.2.2.length ≤ 1000000000) : ∀ x ∈ ps, SlB W x.1 x.2.1 x.2.2 ∧ (x.2.2 ≠ [] → x.1.map (·.block) ≠ some g) ∧ x.2.2.length ≤ 1000000000 :=
  fun x hx => ⟨(h.sl x (hp x hx).1).1, (h.sl x (hp x hx).1).2, (hp x hx).2⟩
theorem Sum_len (g n : Nat) (A : Option Addr) (c k : Nat) (l : List UInt8) (w : World) (hk : k = l.length) (hM : Mkr w g n) (hn : n < 1000000000) (hs : SlB w A c l) (hA : l ≠ [] → A.map (·.block) ≠ some g) (hl : l.length ≤ 1000000000) :
    Calls Try.prog 39 #[.pointer (some ⟨g, 0, none⟩), .slice A k c] w fun e w' => e = .returned (wv (sumW l)) ∧ Mkr w' g ((n + 1 : Nat) : Int) ∧ But g w w' := by
  subst hk; exact Sum_at g n A c l w hM hn hs hA hl
theorem CSt.drew {w W : World} {g n : Nat} {ls : List Pt} (h : CSt w g n ls W) : CSt w g n ls W.drew := ⟨h.mkr, h.bel.drew, h.sl⟩
theorem Opened_len (g n : Nat) (A : Option Addr) (c k : Nat) (l : List UInt8) (w : World) (hk : k = l.length) (hM : Mkr w g n) (hn : n < 1000000000) (hs : SlB w A c l) (hA : l ≠ [] → A.map (·.block) ≠ some g) (hl : l.length ≤ 100000000) :
    Calls Try.prog 47 #[.pointer (some ⟨g, 0, none⟩), .slice A k c] w (OpensB g n w (opened l)) := by
  subst hk; exact Opened_at g n A c l w hM hn hs hA hl
theorem own_frozen {w : World} {base : Nat} {e : TypeId} {A : Option Addr} {c size n : Nat} {xs : List Value} {g : Nat} (h : Own w base e size A n c xs) (hA : A = some ⟨g, 0, none⟩) (j : Nat) : w.frozen? ⟨g, j, none⟩ = false := by
  rcases h.2 with ⟨hv, hn⟩ | ⟨g', cap, cur, hv, hb, hh, _⟩
  · subst hA; simp at hv
  · subst hA
    simp at hv
    obtain ⟨rfl, rfl⟩ := hv
    simp [World.frozen?, hh]
theorem turn_byte (a : UInt8) (q : Nat) : bits .xor .u8 (a.toNat : Int) (HMod.hMod (α := Int) (β := Int) (HPow.hPow (α := Int) (β := Nat) 2 q) 256) = ((a ^^^ UInt8.ofNat (2 ^ q)).toNat : Int) := by
  have h : HMod.hMod (α := Int) (β := Int) (HPow.hPow (α := Int) (β := Nat) 2 q) 256 = ((UInt8.ofNat (2 ^ q)).toNat : Int) := by
    rw [UInt8.toNat_ofNat', Int.natCast_emod, Int.natCast_pow]; rfl
  rw [h, xor_u8 a.toNat_lt (UInt8.ofNat (2 ^ q)).toNat_lt, UInt8.toNat_xor]
theorem shr_pow (x : W32) (k : Nat) : HDiv.hDiv (α := Int) (β := Int) (wn x) (HPow.hPow (α := Int) (β := Nat) 2 k) = wn (x >>> k) := by
  rw [← shr_wn, Int.natCast_pow]; rfl
theorem len_le_not {n : Nat} {k : Int} (h : (n : Int) ≤ k) : ¬ (k < (n : Int)) := by omega

set_option maxRecDepth 100000 in
set_option maxHeartbeats 4000000 in
theorem sums_walk {A B : Option Addr} {c d : Nat} {l m : List UInt8} {s : W32} (w : World) (ha : SlB w A c l) (hb : SlB w B d m) (h1 : l.length ≤ 500) (h2 : m.length ≤ 500) :
    Calls Try.prog 6 #[wv s, .slice A l.length c, .slice B m.length d] w fun e w' => e = .returned (.bool true) ∧ Below w.heap.size w w' := by
  have k1 : ¬ (500 < (l.length : Int)) := by omega
  have k2 : ¬ (500 < (m.length : Int)) := by omega
  go_enter Try.func6, Try.ntmps6
  go_wp2_with fail
  refine (alive02_any _).mono ?_
  rintro e w1 ⟨rfl, hb1⟩
  go_wp2_with fail
  refine (New_any _).mono ?_
  rintro e w2 ⟨rfl, hM2, hb2⟩
  have hw2 := bel_call hb1 hb2
  have hgw : w.heap.size ≤ w1.heap.size := hb1.size
  generalize w1.heap.size = g at *
  go_wp2_with (at_builtin; first
    | (refine wpl_bytes 40 5 Try.underlying40 u8_info rfl _ _ rfl w3.heap.size A4 c4 m4 rfl ho4 B d m rfl (hb.below hw4) (by have := hl4.out; omega) hb4.size ?_; intro A5 c5 m5 w5 hm5 ho5 _ _ hb5; have hw5 := bel_call hw3 (hb4.trans hb5))
    | (refine wpl_fresh 40 5 Try.underlying40 u8_info rfl _ _ rfl rfl A c l rfl (ha.below hw3) (by omega) ?_; intro A4 c4 m4 w4 hm4 ho4 hb4; have hw4 := bel_call hw3 hb4; have hl4 := Lib.hid (show m4.length ≤ 500 from by rw [hm4.out]; exact h1))
    | (refine wpl_fresh 40 5 Try.underlying40 u8_info rfl _ _ rfl rfl A c l rfl (ha.below hw2) (by omega) ?_; intro A3 c3 m3 w3 hm3 ho3 hb3; have hw3 := bel_call hw2 hb3))
  obtain rfl : m3 = l := hm3.out
  obtain rfl : m4 = m3 := hm4.out
  have h35 : Below w3.heap.size w3 w5 := hb4.trans hb5
  have h25 : Below w2.heap.size w2 w5 := bel_call hb3 h35
  have hl5 : m5.length ≤ 1000 := by rw [hm5.out, List.length_append]; have := hl4.out; omega
  have hpo : sumW (partsOf [(A3, c3, m4), (none, 0, []), (B, d, m)]) = sumW m5 := by rw [hm5.out]; simp [partsOf]
  have hp2 : sumW (partsOf [(A, c, m4), (B, d, m)]) = sumW m5 := by rw [hm5.out]; simp [partsOf]
  have hp0 : wv (sumW (partsOf [])) = .int .u32 0 := by rw [show sumW (partsOf []) = 0#32 from extW_nil 0#32]; rfl
  have hgl : g < w2.heap.size := hM2.lt
  have hS : CSt w g 0 [(A, c, m4), (B, d, m), (A3, c3, m4), (A5, c5, m5), (none, 0, [])] w5 := by
    refine ⟨Mkr.below (.inl hM2) h25, hw5, fun x hx => ?_⟩
    simp only [List.mem_cons, List.not_mem_nil, or_false] at hx
    rcases hx with rfl | rfl | rfl | rfl | rfl
    · exact ⟨ha.below hw5, SlB.old ha hgw⟩
    · exact ⟨hb.below hw5, SlB.old hb hgw⟩
    · exact ⟨ho3.sl.below h35, fun _ => Own.ne ho3 hgl⟩
    · exact ⟨ho5.sl, fun _ => Own.ne ho5 (Nat.lt_of_lt_of_le hgl hb3.size)⟩
    · exact ⟨Sl.none_ _ _, fun h => absurd rfl h⟩
  clear ha hb ho3 ho4 ho5 hb1 hb2 hb3 hb4 hb5 hw2 hw3 hw4 hw5 h35 h25 hm5 hM2 hl4
  refine (Sum_at g 0 A3 c3 m4 _ hS.mkr (by omega) (hS.at (by simp)) (hS.ne (c := c3) (by simp)) (by omega)).mono ?_
  rintro e w6 ⟨rfl, hM6, hB6⟩
  have hS := hS.but hgw hM6 hB6
  go_wp2_with fail
  refine (rSum_any A c m4 _ (hS.at (by simp)) (by omega)).mono ?_
  rintro e w7 ⟨rfl, rfl⟩
  go_wp2_with fail
  refine (Extend_at g 1 s A3 c3 m4 _ hS.mkr (by omega) (hS.at (by simp)) (hS.ne (c := c3) (by simp)) (by omega)).mono ?_
  rintro e w8 ⟨rfl, hM8, hB8⟩
  have hS := hS.but hgw hM8 hB8
  go_wp2_with fail
  refine (rExtend_any s A c m4 _ (hS.at (by simp)) (by omega)).mono ?_
  rintro e w9 ⟨rfl, rfl⟩
  go_wp2_with fail
  have hS := hS.below (below_new w8 (.cells #[pv (A3, c3, m4), pv (none, 0, []), pv (B, d, m)] 40))
  refine (Of_at g 2 (some ⟨w8.heap.size, 0, none⟩) 3 [(A3, c3, m4), (none, 0, []), (B, d, m)] _ hS.mkr (by omega) (Sl.lits w8 [pv (A3, c3, m4), pv (none, 0, []), pv (B, d, m)] 40 (by simp [maxLen])) ?_ (hS.of ?_)).mono ?_
  · intro _ he; have := hM8.lt; simp at he; omega
  · intro x hx
    simp only [List.mem_cons, List.not_mem_nil, or_false] at hx
    rcases hx with rfl | rfl | rfl
    · exact ⟨by simp, by dsimp only; omega⟩
    · exact ⟨by simp, by simp⟩
    · exact ⟨by simp, by dsimp only; omega⟩
  rintro e w10 ⟨he, hM10, hB10⟩
  rw [hpo] at he
  subst he
  have hS := hS.but hgw hM10 hB10
  go_wp2_with fail
  refine (rSum_any A5 c5 m5 _ (hS.at (by simp)) (by omega)).mono ?_
  rintro e w11 ⟨rfl, rfl⟩
  go_wp2_with fail
  refine (Of_at g 3 none 0 [] _ hS.mkr (by omega) (Sl.none_ _ _) (fun h => absurd rfl h) (fun x hx => by simp at hx)).mono ?_
  rintro e w12 ⟨he, hM12, hB12⟩
  rw [hp0] at he
  subst he
  have hS := hS.but hgw hM12 hB12
  go_wp2_with fail
  refine (Asked_at g _ _ hS.mkr).mono ?_
  rintro e w13 ⟨rfl, rfl⟩
  go_wp2_with fail
  refine (Sum_nil A c m4 _ (hS.at (by simp)) (by omega)).mono ?_
  rintro e w14 ⟨rfl, hb14⟩
  have hS := hS.below hb14
  go_wp2_with fail
  refine (rSum_any A c m4 _ (hS.at (by simp)) (by omega)).mono ?_
  rintro e w15 ⟨rfl, rfl⟩
  go_wp2_with fail
  have hS := hS.below (below_new w14 (.cells #[pv (A, c, m4), pv (B, d, m)] 40))
  refine (Of_nil (some ⟨w14.heap.size, 0, none⟩) 2 [(A, c, m4), (B, d, m)] _ (Sl.lits w14 [pv (A, c, m4), pv (B, d, m)] 40 (by simp [maxLen])) ?_).mono ?_
  · intro x hx
    simp only [List.mem_cons, List.not_mem_nil, or_false] at hx
    rcases hx with rfl | rfl
    · exact ⟨hS.at (by simp), by dsimp only; omega⟩
    · exact ⟨hS.at (by simp), by dsimp only; omega⟩
  rintro e w16 ⟨he, hb16⟩
  rw [hp2] at he
  subst he
  have hS := hS.below hb16
  go_wp2_with fail
  refine (rSum_any A5 c5 m5 _ (hS.at (by simp)) (by omega)).mono ?_
  rintro e w17 ⟨rfl, rfl⟩
  go_wp2_with fail
  refine (Asked_nil _).mono ?_
  rintro e w18 ⟨rfl, rfl⟩
  go_wp2_with fail
  refine (nBytes_any A3 A c3 c m4 m4 _ (hS.at (by simp)) (hS.at (by simp))).mono ?_
  rintro e w19 ⟨rfl, rfl⟩
  have hbq : (m4 == m4) = true := by simp
  go_wp2_with fail
  go_ret
  exact ⟨rfl, hS.bel⟩

theorem sums_early {A B : Option Addr} {c d : Nat} {l m : List UInt8} {s : W32} (w : World) (h : 500 < l.length ∨ 500 < m.length) :
    Calls Try.prog 6 #[wv s, .slice A l.length c, .slice B m.length d] w fun e w' => e = .returned (.bool true) ∧ Below w.heap.size w w' := by
  go_enter Try.func6, Try.ntmps6
  go_wp2_with fail
  refine (alive02_any _).mono ?_
  rintro e w1 ⟨rfl, hb1⟩
  by_cases h1 : (500 : Int) < (l.length : Int)
  · have hd : decide ((500 : Int) < (l.length : Int)) = true := decide_eq_true h1
    go_wp2_with fail
    go_ret
    exact ⟨rfl, hb1⟩
  · have h2 : (500 : Int) < (m.length : Int) := by omega
    have hd : decide ((500 : Int) < (l.length : Int)) = false := decide_eq_false h1
    have hd2 : decide ((500 : Int) < (m.length : Int)) = true := decide_eq_true h2
    go_wp2_with fail
    go_ret
    exact ⟨rfl, hb1⟩
theorem sums_all {A B : Option Addr} {c d : Nat} {l m : List UInt8} {s : W32} (w : World) (ha : SlB w A c l) (hb : SlB w B d m) :
    Calls Try.prog 6 #[wv s, .slice A l.length c, .slice B m.length d] w fun e w' => e = .returned (.bool true) ∧ Below w.heap.size w w' := by
  by_cases h : 500 < l.length ∨ 500 < m.length
  · exact sums_early w h
  · exact sums_walk w ha hb (by omega) (by omega)
end Go.Proofs.Ytbgcofgckjdoiaa
