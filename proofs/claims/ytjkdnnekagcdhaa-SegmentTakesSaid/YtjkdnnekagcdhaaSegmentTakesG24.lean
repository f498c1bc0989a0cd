/- WHAT IT HOLDS: Slice of segments, walked. | WHAT IT HOLDS: the document's Join of segments, walked. | WHAT IT HOLDS: the document's Slice of segments, walked. | WHAT IT HOLDS: sums of bytes, plainly (no program): bit by bit, by the table, joined by exclusive or, and what they find. -/
import Derived.Test.YtjkdnnekagcdhaaSegmentTakesG23
import Derived.Test.YtjkdnnekagcdhaaSegmentTakesG01
import Derived.Laws.BitsAllLaws
namespace Go.Proofs.Ytjkdnnekagcdhaa
open Go.RowKit
attribute [local go_sem ↓] Go.wp_at_zero Go.wp_at_succ

theorem flat_take : ∀ (k : Nat) (l : List CeV), (l.flatMap cf).take (k * 2) = (l.take k).flatMap cf
  | 0, l => by simp
  | k + 1, [] => by simp
  | k + 1, x :: l => by
    have h := flat_take k l
    rw [show (k + 1) * 2 = k * 2 + 1 + 1 from by omega]
    simp only [List.flatMap_cons, List.take_succ_cons, cf]
    simp only [List.cons_append, List.nil_append, List.take_succ_cons]
    rw [h]
theorem SlC.take {w : World} {E : Option Addr} {cap : Nat} {l : List CeV} (h : SlC w E cap l) {k : Nat} (hk : k ≤ l.length) : SlC w E cap (l.take k) := by
  refine ⟨?_, fun x hx => h.2 x (List.mem_of_mem_take hx)⟩
  obtain ⟨h1, h2, h3, h4, h5⟩ := h.1
  rw [← flat_take, show (l.take k).length = k from by simp; omega]
  refine ⟨by rw [List.length_take, h1]; omega, by omega, h3, fun e => by have := h4 e; omega, fun j u hj => ?_⟩
  have hlt := (List.getElem?_eq_some_iff.1 hj).1
  rw [List.length_take] at hlt
  rw [List.getElem?_take_of_lt (by omega)] at hj
  exact h5 j u hj

/-- a boxed segment and the result's block -/
structure KSt (w W : World) (f : Int) (E : Option Addr) (n cap : Nat) : Prop where
  bel : Below w.heap.size w W
  a : Blk W w.heap.size 75 #[.int .i64 f, .slice E n cap]
  r : Blk W (w.heap.size + 1) 75 #[.int .i64 0, .slice none 0 0]
theorem KSt.below {w W W' : World} {f : Int} {E : Option Addr} {n cap : Nat} (h : KSt w W f E n cap) (hb : Below W.heap.size W W') : KSt w W' f E n cap := ⟨bel_call h.bel hb, h.a.below hb, h.r.below hb⟩
set_option maxRecDepth 100000 in
set_option maxHeartbeats 2000000 in
theorem SSlice_any {E : Option Addr} {cap : Nat} (f p q : Int) (cs : List CeV) (w : World) (h : SlC w E cap cs) (hd : ∀ x ∈ cs, x.2.2.2.length ≤ 1000000000) :
    Calls Try.prog 70 #[cv f E cs.length cap, .int .i64 p, .int .i64 q] w (GivesSg w (spart (f, cs.map ceOf) p q)) := by
  have hJ0 : KSt w ((w.alloc (.cells #[.int .i64 f, .slice E cs.length cap] 75)).alloc (.cells #[.int .i64 0, .slice none 0 0] 75)) f E cs.length cap :=
    ⟨bel_alloc (below_new w _) _, (Blk.new w _ _).alloc _, Blk.newAt (by simp) _ _⟩
  obtain ⟨a0, a1, _, _⟩ := hJ0.a.two
  have HD := Lib.hid hd
  have hcap := h.1.2.1
  clear hd
  go_enter Try.func70, Try.ntmps70
  go_wp2_with fail
  refine (SCheck_any f cs _ (h.below hJ0.bel)).mono ?_
  rintro e w1 ⟨rfl, hb1⟩
  have hJ1 := hJ0.below hb1
  clear hJ0 hb1 a0 a1
  rcases errv_cases (schk (f, cs.map ceOf)) with ⟨h0, hev⟩ | ⟨k, hk, hke, hev⟩
  · obtain ⟨hf0, hf1, hn64, hne, _⟩ := schk_ok h0
    simp only [List.length_map] at hn64 hne
    have HS := Lib.hid (show spart (f, cs.map ceOf) p q = if p < f ∨ f + cs.length < q ∨ q < p then ((0, []), 1) else ((p, ((cs.map ceOf).drop (p - f).toNat).take (q - p).toNat), 0) from by
      unfold spart
      rw [if_neg (by rw [h0]; simp)]
      simp only [List.length_map])
    rw [hev]
    clear hev h0
    by_cases c1 : p < f
    · have HJ : Hid (spart (f, cs.map ceOf) p q = ((0, []), 1)) := (show _ = _ from by rw [HS.out, if_pos (.inl c1)])
      obtain ⟨r0, r1, rf0, rf1⟩ := hJ1.r.two
      obtain ⟨a0, a1, _, _⟩ := hJ1.a.two
      go_wp2_with fail
      exact bodyPost_ret (res_sg2 rfl rfl (g := w.heap.size + 1) (hJ1.r.set2 _ _)) rfl ⟨none, 0, [], by rw [HJ.out]; rfl, (show _ = _ from by rw [HJ.out]; rfl), SlC.nil _, bel_set (bel_set hJ1.bel (by dsimp only; omega) _) (by dsimp only; omega) _⟩
    · obtain ⟨a0, a1, _, _⟩ := hJ1.a.two
      go_wp2_with fail
      refine (SEnd_any f E cs.length cap _ hf0 hf1 (by omega)).mono ?_
      rintro e w2 ⟨rfl, hb2⟩
      have hJ2 := hJ1.below hb2
      clear hJ1 hb2 a0 a1
      by_cases c2 : f + (cs.length : Int) < q
      · have HJ : Hid (spart (f, cs.map ceOf) p q = ((0, []), 1)) := (show _ = _ from by rw [HS.out, if_pos (.inr (.inl c2))])
        obtain ⟨r0, r1, rf0, rf1⟩ := hJ2.r.two
        obtain ⟨a0, a1, _, _⟩ := hJ2.a.two
        go_wp2_with fail
        exact bodyPost_ret (res_sg2 rfl rfl (g := w.heap.size + 1) (hJ2.r.set2 _ _)) rfl ⟨none, 0, [], by rw [HJ.out]; rfl, (show _ = _ from by rw [HJ.out]; rfl), SlC.nil _, bel_set (bel_set hJ2.bel (by dsimp only; omega) _) (by dsimp only; omega) _⟩
      · by_cases c3 : q < p
        · have HJ : Hid (spart (f, cs.map ceOf) p q = ((0, []), 1)) := (show _ = _ from by rw [HS.out, if_pos (.inr (.inr c3))])
          obtain ⟨r0, r1, rf0, rf1⟩ := hJ2.r.two
          obtain ⟨a0, a1, _, _⟩ := hJ2.a.two
          go_wp2_with fail
          exact bodyPost_ret (res_sg2 rfl rfl (g := w.heap.size + 1) (hJ2.r.set2 _ _)) rfl ⟨none, 0, [], by rw [HJ.out]; rfl, (show _ = _ from by rw [HJ.out]; rfl), SlC.nil _, bel_set (bel_set hJ2.bel (by dsimp only; omega) _) (by dsimp only; omega) _⟩
        · have HJ : spart (f, cs.map ceOf) p q = ((p, ((cs.map ceOf).drop (p - f).toNat).take (q - p).toNat), 0) := by rw [HS.out, if_neg (by omega)]
          obtain ⟨i, hi⟩ : ∃ i : Nat, p - f = i := ⟨(p - f).toNat, by omega⟩
          obtain ⟨j, hj⟩ : ∃ j : Nat, q - f = j := ⟨(q - f).toNat, by omega⟩
          have hij : i ≤ j := by omega
          have hjn : j ≤ cs.length := by omega
          rw [hi, show (q - p).toNat = j - i from by omega] at HJ
          simp only [Int.toNat_natCast] at HJ
          have HJH := Lib.hid HJ
          obtain ⟨a0, a1, _, _⟩ := hJ2.a.two
          have hjc : j ≤ cap := by omega
          have hic : i ≤ cap := by omega
          clear HJ HS
          by_cases hci : cap = i
          · have hpart := (SlC.cut (SlC.take (h.below hJ2.bel) hjn) (k := i) (by simp; omega))
            have hpl : ((cs.take j).drop i).length = j - i := by simp; omega
            have hcs : ((cs.take j).drop i).map ceOf = ((cs.map ceOf).drop i).take (j - i) := by rw [List.map_drop, List.map_take, List.drop_take]
            have HCS := Lib.hid hcs
            have hdd : ∀ x ∈ (cs.take j).drop i, x.2.2.2.length ≤ 1000000000 := fun x hx => HD.out x (List.mem_of_mem_take (List.mem_of_mem_drop hx))
            clear hcs
            generalize (cs.take j).drop i = ps at *
            rw [if_pos hci] at hpart
            have hp0 : ps = [] := List.eq_nil_of_length_eq_zero (by omega)
            subst hp0
            subst hci
            go_wp2_with fail
            rw [Nat.sub_self] at hpart
            have hco := SCopy_any p [] w2 hpart (by simp) hdd
            have hz2 : w.heap.size + 1 < w2.heap.size := hJ2.r.lt
            refine hco.mono ?_
            rintro e w3 ⟨A3, k3, m3, rfl, hm3, hN3, hb3⟩
            have hJ3 := hJ2.below hb3
            obtain ⟨r0, r1, rf0, rf1⟩ := hJ3.r.two
            clear hJ2 hb3 hpart a0 a1 hpl
            go_wp2_with fail
            exact bodyPost_ret (res_sg2 rfl rfl (g := w.heap.size + 1) (hJ3.r.set2 _ _)) rfl ⟨A3, k3, m3, by rw [HJH.out]; rfl, (show _ = _ from by rw [HJH.out, hm3.out, HCS.out]), ⟨(Own.set2 hN3.1 (by omega) _ _).sl, fun x hx => (Own.set2 (hN3.2 x hx) (by omega) _ _).sl⟩, bel_set (bel_set hJ3.bel (by dsimp only; omega) _) (by dsimp only; omega) _⟩
          · have hpart := (SlC.cut (SlC.take (h.below hJ2.bel) hjn) (k := i) (by simp; omega))
            have hpl : ((cs.take j).drop i).length = j - i := by simp; omega
            have hcs : ((cs.take j).drop i).map ceOf = ((cs.map ceOf).drop i).take (j - i) := by rw [List.map_drop, List.map_take, List.drop_take]
            have HCS := Lib.hid hcs
            have hdd : ∀ x ∈ (cs.take j).drop i, x.2.2.2.length ≤ 1000000000 := fun x hx => HD.out x (List.mem_of_mem_take (List.mem_of_mem_drop hx))
            clear hcs
            generalize (cs.take j).drop i = ps at *
            rw [if_neg hci] at hpart
            go_wp2_with fail
            have hco := SCopy_any p ps w2 hpart (by omega) hdd
            rw [hpl] at hco
            have hz2 : w.heap.size + 1 < w2.heap.size := hJ2.r.lt
            refine hco.mono ?_
            rintro e w3 ⟨A3, k3, m3, rfl, hm3, hN3, hb3⟩
            have hJ3 := hJ2.below hb3
            obtain ⟨r0, r1, rf0, rf1⟩ := hJ3.r.two
            clear hJ2 hb3 hpart a0 a1 hpl
            go_wp2_with fail
            exact bodyPost_ret (res_sg2 rfl rfl (g := w.heap.size + 1) (hJ3.r.set2 _ _)) rfl ⟨A3, k3, m3, by rw [HJH.out]; rfl, (show _ = _ from by rw [HJH.out, hm3.out, HCS.out]), ⟨(Own.set2 hN3.1 (by omega) _ _).sl, fun x hx => (Own.set2 (hN3.2 x hx) (by omega) _ _).sl⟩, bel_set (bel_set hJ3.bel (by dsimp only; omega) _) (by dsimp only; omega) _⟩
  · have HJ : Hid (spart (f, cs.map ceOf) p q = ((0, []), schk (f, cs.map ceOf))) := (show _ = _ from by
      unfold spart
      rw [if_pos (by omega)])
    have HEV := Lib.hid hev
    rw [hev]
    clear hev hke
    obtain ⟨r0, r1, rf0, rf1⟩ := hJ1.r.two
    obtain ⟨a0, a1, _, _⟩ := hJ1.a.two
    go_wp2_with fail
    exact bodyPost_ret (res_sg2 rfl rfl (g := w.heap.size + 1) (hJ1.r.set2 _ _)) rfl ⟨none, 0, [], by rw [HJ.out]; (dsimp only; rw [HEV.out]; rfl), (show _ = _ from by rw [HJ.out]; rfl), SlC.nil _, bel_set (bel_set hJ1.bel (by dsimp only; omega) _) (by dsimp only; omega) _⟩
end Go.Proofs.Ytjkdnnekagcdhaa

namespace Go.Proofs.Ytjkdnnekagcdhaa
open Go.RowKit
attribute [local go_sem ↓] Go.wp_at_zero Go.wp_at_succ

/-- what gives one of the document's segments and a number -/
def RGivesSg (w0 : World) (x : Sg × Nat) (e : Ending) (w' : World) : Prop :=
  ∃ A c m, e = .returned (.tuple #[cv x.1.1 A (List.length m) c, .int .i64 (x.2 : Nat)]) ∧ Hid (m = x.1.2) ∧ Own w' w0.heap.size 29 2 A m.length c (m.flatMap df) ∧ Below w0.heap.size w0 w'
/-- two boxed segments and the result's block -/
structure RJ (w W : World) (f : Int) (E : Option Addr) (n cap : Nat) (fb : Int) (G : Option Addr) (n2 cap2 : Nat) : Prop where
  bel : Below w.heap.size w W
  a : Blk W w.heap.size 77 #[.int .i64 f, .slice E n cap]
  b : Blk W (w.heap.size + 1) 77 #[.int .i64 fb, .slice G n2 cap2]
  r : Blk W (w.heap.size + 1 + 1) 77 #[.int .i64 0, .slice none 0 0]
section
variable {w W W' : World} {f fb : Int} {E G : Option Addr} {n cap n2 cap2 : Nat}
theorem RJ.below (h : RJ w W f E n cap fb G n2 cap2) (hb : Below W.heap.size W W') : RJ w W' f E n cap fb G n2 cap2 := ⟨bel_call h.bel hb, h.a.below hb, h.b.below hb, h.r.below hb⟩
theorem RJ.drew (h : RJ w W f E n cap fb G n2 cap2) : RJ w W.drew f E n cap fb G n2 cap2 := ⟨h.bel.drew, h.a.drew, h.b.drew, h.r.drew⟩
theorem RJ.far (h : RJ w W f E n cap fb G n2 cap2) {g i : Nat} (hg : w.heap.size + 1 + 1 < g) (u : Value) : RJ w (W.setCell ⟨g, i, none⟩ u) f E n cap fb G n2 cap2 :=
  ⟨bel_set h.bel (by show w.heap.size ≤ g; omega) u, h.a.far (by show w.heap.size ≠ g; omega) u, h.b.far (by show w.heap.size + 1 ≠ g; omega) u, h.r.far (by show w.heap.size + 1 + 1 ≠ g; omega) u⟩
theorem RJ.far2 (h : RJ w W f E n cap fb G n2 cap2) {g : Nat} (hg : w.heap.size + 1 + 1 < g) (u v : Value) : RJ w ((W.setCell ⟨g, 0, none⟩ u).setCell ⟨g, 1, none⟩ v) f E n cap fb G n2 cap2 := (h.far hg u).far hg v
theorem RJ.apart (h : RJ w W f E n cap fb G n2 cap2) {B : Nat} (hB : w.heap.size + 1 + 1 < B) (hb : Below B W W') : RJ w W' f E n cap fb G n2 cap2 :=
  ⟨h.bel.trans (hb.mono (by omega)), (hb.block _ (by omega)).trans h.a, (hb.block _ (by omega)).trans h.b, (hb.block _ (by omega)).trans h.r⟩
end
theorem Own.setT2 {w : World} {base g : Nat} {e t : TypeId} {size n c : Nat} {A : Option Addr} {xs : List Value} {cs : Array Value} (h : Own w base e size A n c xs) (hb : Blk w g t cs) (hne : e ≠ t) (u v : Value) : Own ((w.setCell ⟨g, 0, none⟩ u).setCell ⟨g, 1, none⟩ v) base e size A n c xs :=
  h.wrT ((Wr.set_ (Wr.refl (g := g) w) 0 u).set_ 1 v) hb hne
theorem Own.lit0 {w : World} {base : Nat} (size : Nat) (e : TypeId) (hb : base ≤ w.heap.size) : Own (w.alloc (.cells #[] e)) base e size (some ⟨w.heap.size, 0, none⟩) 0 0 [] := Own.lit size hb

end Go.Proofs.Ytjkdnnekagcdhaa

namespace Go.Proofs.Ytjkdnnekagcdhaa
open Go.RowKit
attribute [local go_sem ↓] Go.wp_at_zero Go.wp_at_succ

/-- a boxed segment and the result's block -/
structure RK (w W : World) (f : Int) (E : Option Addr) (n cap : Nat) : Prop where
  bel : Below w.heap.size w W
  a : Blk W w.heap.size 77 #[.int .i64 f, .slice E n cap]
  r : Blk W (w.heap.size + 1) 77 #[.int .i64 0, .slice none 0 0]
section
variable {w W W' : World} {f : Int} {E : Option Addr} {n cap : Nat}
theorem RK.below (h : RK w W f E n cap) (hb : Below W.heap.size W W') : RK w W' f E n cap := ⟨bel_call h.bel hb, h.a.below hb, h.r.below hb⟩
theorem RK.drew (h : RK w W f E n cap) : RK w W.drew f E n cap := ⟨h.bel.drew, h.a.drew, h.r.drew⟩
theorem RK.far (h : RK w W f E n cap) {g i : Nat} (hg : w.heap.size + 1 < g) (u : Value) : RK w (W.setCell ⟨g, i, none⟩ u) f E n cap :=
  ⟨bel_set h.bel (by show w.heap.size ≤ g; omega) u, h.a.far (by show w.heap.size ≠ g; omega) u, h.r.far (by show w.heap.size + 1 ≠ g; omega) u⟩
theorem RK.apart (h : RK w W f E n cap) {B : Nat} (hB : w.heap.size + 1 < B) (hb : Below B W W') : RK w W' f E n cap :=
  ⟨h.bel.trans (hb.mono (by omega)), (hb.block _ (by omega)).trans h.a, (hb.block _ (by omega)).trans h.r⟩
end
end Go.Proofs.Ytjkdnnekagcdhaa

namespace Go.Proofs.Ytjkdnnekagcdhaa
open Go.RowKit

abbrev W32 := BitVec 32
def P32 : W32 := 2197175160#32
/-- one bit -/
def st1 (x : W32) : W32 := (x >>> 1) ^^^ (if x.getLsbD 0 then P32 else 0#32)
/-- that often -/
def stn : Nat → W32 → W32
  | 0, x => x
  | n + 1, x => stn n (st1 x)
def st8 (x : W32) : W32 := stn 8 x
def bw (b : UInt8) : W32 := BitVec.ofNat 32 b.toNat
def crcS (x : W32) (l : List UInt8) : W32 := l.foldl (fun x b => st8 (x ^^^ bw b)) x
/-- the sum of more bytes -/
def extW (s : W32) (l : List UInt8) : W32 := ~~~ crcS (~~~ s) l
def sumW (l : List UInt8) : W32 := extW 0#32 l
def four (x : W32) : List UInt8 := [UInt8.ofNat (x.toNat / 16777216), UInt8.ofNat (x.toNat / 65536 % 256), UInt8.ofNat (x.toNat / 256 % 256), UInt8.ofNat (x.toNat % 256)]

theorem st1_xor (x y : W32) : st1 (x ^^^ y) = st1 x ^^^ st1 y := by
  unfold st1
  apply BitVec.eq_of_getLsbD_eq
  intro i hi
  simp only [BitVec.getLsbD_xor, BitVec.getLsbD_ushiftRight]
  cases x.getLsbD 0 <;> cases y.getLsbD 0 <;> simp [Bool.xor_assoc, Bool.xor_comm, Bool.xor_left_comm]
theorem st1_zero : st1 0#32 = 0#32 := by decide
theorem stn_xor (n : Nat) : ∀ x y, stn n (x ^^^ y) = stn n x ^^^ stn n y := by
  induction n with
  | zero => intro x y; rfl
  | succ n ih => intro x y; simp only [stn, st1_xor, ih]
theorem stn_zero (n : Nat) : stn n 0#32 = 0#32 := by
  induction n with
  | zero => rfl
  | succ n ih => rw [stn, st1_zero, ih]
theorem P32_top : P32.getLsbD 31 = true := by decide
theorem st1_inj {x : W32} (h : st1 x = 0#32) : x = 0#32 := by
  unfold st1 at h
  have h31 := congrArg (fun y => BitVec.getLsbD y 31) h
  simp only [BitVec.getLsbD_xor, BitVec.getLsbD_ushiftRight] at h31
  have h32 : x.getLsbD (1 + 31) = false := BitVec.getLsbD_of_ge _ _ (by omega)
  rw [h32] at h31
  cases h0 : x.getLsbD 0
  · rw [h0] at h
    apply BitVec.eq_of_getLsbD_eq
    intro i hi
    rcases i with _ | i
    · simpa using h0
    · have := congrArg (fun y => BitVec.getLsbD y i) h
      simp only [BitVec.getLsbD_xor, BitVec.getLsbD_ushiftRight] at this
      simpa [Nat.add_comm] using this
  · rw [h0] at h31
    simp only [if_true, P32_top] at h31
    exact absurd h31 (by decide)
theorem stn_inj (n : Nat) : ∀ {x : W32}, stn n x = 0#32 → x = 0#32 := by
  induction n with
  | zero => intro x h; exact h
  | succ n ih => intro x h; exact st1_inj (ih h)

theorem st1_shl (y : W32) (h : y.getLsbD 31 = false) : st1 (y <<< 1) = y := by
  unfold st1
  apply BitVec.eq_of_getLsbD_eq
  intro i hi
  simp only [BitVec.getLsbD_xor, BitVec.getLsbD_ushiftRight, BitVec.getLsbD_shiftLeft]
  by_cases h1 : i = 31
  · subst h1
    have h' : y[31] = false := by rw [← BitVec.getLsbD_eq_getElem]; exact h
    simp [h']
  · have : 1 + i < 32 := by omega
    simp [this]
theorem stn_shl (n : Nat) : ∀ (y : W32), y.toNat * 2 ^ n < 2 ^ 32 → stn n (y <<< n) = y := by
  induction n with
  | zero => intro y _; simp [stn]
  | succ n ih =>
    intro y h
    rw [stn, BitVec.shiftLeft_add, st1_shl]
    · refine ih y ?_
      refine Nat.lt_of_le_of_lt ?_ h
      exact Nat.mul_le_mul_left _ (Nat.pow_le_pow_right (by decide) (by omega))
    · rw [BitVec.getLsbD_eq_getElem (by omega), BitVec.getElem_eq_testBit_toNat] <;> try omega
      rw [BitVec.toNat_shiftLeft, Nat.shiftLeft_eq]
      have h2 : y.toNat * 2 ^ n < 2 ^ 31 := by rw [Nat.pow_succ, ← Nat.mul_assoc] at h; omega
      rw [Nat.mod_eq_of_lt (by omega)]
      exact Nat.testBit_lt_two_pow h2

theorem bw_toNat (b : UInt8) : (bw b).toNat = b.toNat := by
  have := b.toNat_lt
  unfold bw
  rw [BitVec.toNat_ofNat]
  omega
theorem by_table (x : W32) (c : UInt8) : st8 (x ^^^ bw c) = st8 (BitVec.ofNat 32 ((x.toNat % 256) ^^^ c.toNat)) ^^^ (x >>> 8) := by
  have hx := x.isLt
  have hy : (x >>> 8).toNat * 2 ^ 8 < 2 ^ 32 := by
    rw [BitVec.toNat_ushiftRight, Nat.shiftRight_eq_div_pow]
    omega
  have h1 : x ^^^ bw c = BitVec.ofNat 32 ((x.toNat % 256) ^^^ c.toNat) ^^^ ((x >>> 8) <<< 8) := by
    apply BitVec.eq_of_getLsbD_eq
    intro i hi
    have hc := c.toNat_lt
    simp only [bw, BitVec.getLsbD_xor, BitVec.getLsbD_ofNat, BitVec.getLsbD_shiftLeft, BitVec.getLsbD_ushiftRight, Nat.testBit_xor, hi, decide_true, Bool.true_and]
    rw [show (256 : Nat) = 2 ^ 8 from rfl, Nat.testBit_mod_two_pow]
    by_cases h : i < 8
    · simp [h, BitVec.testBit_toNat]
    · have h8 : 8 + (i - 8) = i := by omega
      have : c.toNat.testBit i = false := Nat.testBit_lt_two_pow (Nat.lt_of_lt_of_le hc (Nat.pow_le_pow_right (by decide) (by omega : 8 ≤ i)))
      simp [h, h8, this]
  rw [h1]
  unfold st8
  rw [stn_xor, stn_shl 8 _ hy]

/-- bit by bit, the bits of a number -/
def crcN : Nat → W32 → Nat → W32
  | 0, x, _ => x
  | n + 1, x, D => crcN n (st1 (x ^^^ (if D.testBit 0 then 1#32 else 0#32))) (D >>> 1)
theorem one_xor (a b : Bool) : (if (a ^^ b) then 1#32 else 0#32) = (if a then 1#32 else 0#32) ^^^ (if b then 1#32 else 0#32) := by cases a <;> cases b <;> decide
theorem crcN_xor (n : Nat) : ∀ x y A B, crcN n (x ^^^ y) (A ^^^ B) = crcN n x A ^^^ crcN n y B := by
  induction n with
  | zero => intro x y A B; rfl
  | succ n ih =>
    intro x y A B
    simp only [crcN]
    rw [Nat.testBit_xor, one_xor, Nat.shiftRight_xor_distrib, ← ih, ← st1_xor]
    congr 2
    ac_rfl
theorem crcN_add (k : Nat) : ∀ m x D, crcN (k + m) x D = crcN m (crcN k x D) (D >>> k) := by
  induction k with
  | zero => intro m x D; simp [crcN]
  | succ k ih =>
    intro m x D
    rw [show k + 1 + m = (k + m) + 1 from by omega]
    simp only [crcN]
    rw [ih, ← Nat.shiftRight_add, Nat.add_comm 1 k]
theorem crcN_zero (n : Nat) : ∀ x, crcN n x 0 = stn n x := by
  induction n with
  | zero => intro x; rfl
  | succ n ih => intro x; simp [crcN, stn, ih]
theorem crcN_shl (p m W : Nat) : crcN (p + m) 0#32 (W <<< p) = crcN m 0#32 W := by
  induction p generalizing W with
  | zero => simp
  | succ p ih =>
    rw [show p + 1 + m = (p + m) + 1 from by omega]
    simp only [crcN]
    have h1 : (W <<< (p + 1)).testBit 0 = false := by simp [Nat.testBit_shiftLeft]
    have h2 : (W <<< (p + 1)) >>> 1 = W <<< p := by
      rw [Nat.shiftLeft_eq, Nat.shiftLeft_eq, Nat.shiftRight_eq_div_pow, Nat.pow_succ, ← Nat.mul_assoc, Nat.pow_one, Nat.mul_div_cancel _ (by decide)]
    rw [h1, h2]
    simp only [Bool.false_eq_true, if_false, BitVec.xor_zero, st1_zero]
    exact ih W
theorem half_step (x : W32) {W : Nat} (h : W < 2 ^ 32) : st1 (x ^^^ BitVec.ofNat 32 W) = st1 (x ^^^ (if W.testBit 0 then 1#32 else 0#32)) ^^^ BitVec.ofNat 32 (W >>> 1) := by
  have h1 : BitVec.ofNat 32 W = (if W.testBit 0 then 1#32 else 0#32) ^^^ (BitVec.ofNat 32 (W >>> 1) <<< 1) := by
    apply BitVec.eq_of_getLsbD_eq
    intro i hi
    rw [BitVec.getLsbD_xor, BitVec.getLsbD_ofNat, BitVec.getLsbD_shiftLeft, BitVec.getLsbD_ofNat]
    rcases i with _ | i
    · cases hw : W.testBit 0 <;> simp [hw]
    · have h0 : (if W.testBit 0 then 1#32 else 0#32).getLsbD (i + 1) = false := by
        cases W.testBit 0
        · simp
        · simp [BitVec.getLsbD_one]
      rw [h0]
      have : i < 32 := by omega
      simp [hi, this, Nat.testBit_shiftRight, Nat.add_comm]
  rw [h1, ← BitVec.xor_assoc, st1_xor, st1_shl]
  rw [BitVec.getLsbD_ofNat, Nat.testBit_shiftRight, Nat.testBit_lt_two_pow (by omega : W < 2 ^ (1 + 31))]
  simp
theorem crcN_word (m : Nat) : ∀ x W, W < 2 ^ 32 → W < 2 ^ m → crcN m x W = stn m (x ^^^ BitVec.ofNat 32 W) := by
  induction m with
  | zero =>
    intro x W _ h
    obtain rfl : W = 0 := by omega
    simp [crcN, stn]
  | succ m ih =>
    intro x W h32 hm
    simp only [crcN, stn]
    have hh : W >>> 1 < 2 ^ m := by rw [Nat.shiftRight_eq_div_pow]; rw [Nat.pow_succ] at hm; omega
    have h3 : W >>> 1 < 2 ^ 32 := by rw [Nat.shiftRight_eq_div_pow]; omega
    rw [ih _ _ h3 hh, half_step x h32]

/-- bytes as one number, the first byte lowest -/
def leN : List UInt8 → Nat
  | [] => 0
  | b :: l => b.toNat ^^^ (leN l <<< 8)
theorem crcS_leN (l : List UInt8) : ∀ x, crcS x l = crcN (8 * l.length) x (leN l) := by
  induction l with
  | nil => intro x; rfl
  | cons b l ih =>
    intro x
    have hb := b.toNat_lt
    rw [show crcS x (b :: l) = crcS (st8 (x ^^^ bw b)) l from rfl, ih, List.length_cons, show 8 * (l.length + 1) = 8 + 8 * l.length from by omega, crcN_add]
    have h1 : leN (b :: l) >>> 8 = leN l := by
      rw [leN, Nat.shiftRight_xor_distrib, Nat.shiftLeft_shiftRight, Nat.shiftRight_eq_div_pow, Nat.div_eq_of_lt hb, Nat.zero_xor]
    have h2 : crcN 8 x (leN (b :: l)) = st8 (x ^^^ bw b) := by
      have := crcN_xor 8 x 0#32 b.toNat (leN l <<< 8)
      rw [BitVec.xor_zero] at this
      rw [leN, this, show crcN 8 0#32 (leN l <<< 8) = 0#32 from crcN_shl 8 0 (leN l), BitVec.xor_zero, crcN_word 8 x b.toNat (by omega) hb]
      rfl
    rw [h1, h2]
theorem leN_lt (l : List UInt8) : leN l < 2 ^ (8 * l.length) := by
  induction l with
  | nil => simp [leN]
  | cons b l ih =>
    have hb := b.toNat_lt
    rw [leN, List.length_cons]
    refine Nat.xor_lt_two_pow (Nat.lt_of_lt_of_le hb (Nat.pow_le_pow_right (by decide) (by omega))) ?_
    rw [Nat.shiftLeft_eq, show 8 * (l.length + 1) = 8 * l.length + 8 from by omega, Nat.pow_add]
    exact Nat.mul_lt_mul_of_pos_right ih (by decide)
theorem leN_set (l : List UInt8) : ∀ (j : Nat) (hj : j < l.length) (m : UInt8), leN (l.set j (l[j] ^^^ m)) = leN l ^^^ (m.toNat <<< (8 * j)) := by
  induction l with
  | nil => intro j hj; simp at hj
  | cons b l ih =>
    intro j hj m
    rcases j with _ | j
    · simp only [List.set_cons_zero, List.getElem_cons_zero, leN, UInt8.toNat_xor, Nat.mul_zero, Nat.shiftLeft_zero]
      ac_rfl
    · simp only [List.set_cons_succ, List.getElem_cons_succ, leN]
      rw [ih j (by simpa using hj), Nat.shiftLeft_xor_distrib, ← Nat.shiftLeft_add, show 8 * j + 8 = 8 * (j + 1) from by omega]
      ac_rfl
/-- what stands together is found -/
theorem finds {b c : List UInt8} {W p : Nat} (hl : b.length = c.length) (h : leN c = leN b ^^^ (W <<< p)) (hp : p ≤ 8 * b.length) (h0 : W ≠ 0) (h1 : W < 2 ^ 32) (h2 : W < 2 ^ (8 * b.length - p)) (x : W32) : crcS x c ≠ crcS x b := by
  intro he
  rw [crcS_leN, crcS_leN, ← hl, h] at he
  have h3 := crcN_xor (8 * b.length) x 0#32 (leN b) (W <<< p)
  rw [BitVec.xor_zero] at h3
  rw [h3] at he
  have h4 : crcN (8 * b.length) 0#32 (W <<< p) = 0#32 := by
    have := congrArg (fun z => crcN (8 * b.length) x (leN b) ^^^ z) he
    simpa [← BitVec.xor_assoc] using this
  rw [show 8 * b.length = p + (8 * b.length - p) from by omega, crcN_shl, crcN_word _ _ _ h1 h2] at h4
  have h5 := stn_inj _ h4
  rw [BitVec.zero_xor] at h5
  have h6 := congrArg BitVec.toNat h5
  rw [BitVec.toNat_ofNat, Nat.mod_eq_of_lt h1] at h6
  exact h0 h6
theorem crcS_append (x : W32) (a b : List UInt8) : crcS x (a ++ b) = crcS (crcS x a) b := List.foldl_append
theorem extW_append (s : W32) (a b : List UInt8) : extW s (a ++ b) = extW (extW s a) b := by
  unfold extW
  rw [crcS_append, BitVec.not_not]
theorem extW_nil (s : W32) : extW s [] = s := by
  show ~~~ ~~~ s = s
  rw [BitVec.not_not]
theorem extW_inj {s : W32} {b c : List UInt8} (h : crcS (~~~ s) c ≠ crcS (~~~ s) b) : extW s c ≠ extW s b := by
  unfold extW
  intro he
  exact h (by rw [← BitVec.not_not (b := crcS (~~~ s) c), he, BitVec.not_not])
/-- bytes joined by exclusive or -/
def xor3 : List UInt8 → List UInt8 → List UInt8 → List UInt8
  | a :: l, b :: m, c :: n => (a ^^^ b ^^^ c) :: xor3 l m n
  | _, _, _ => []
theorem bw_xor (a b : UInt8) : bw (a ^^^ b) = bw a ^^^ bw b := by
  apply BitVec.eq_of_toNat_eq
  rw [bw_toNat, BitVec.toNat_xor, bw_toNat, bw_toNat, UInt8.toNat_xor]
theorem crcS_xor3 : ∀ (a b c : List UInt8) (x y z : W32), a.length = b.length → b.length = c.length → crcS (x ^^^ y ^^^ z) (xor3 a b c) = crcS x a ^^^ crcS y b ^^^ crcS z c
  | [], [], [], x, y, z, _, _ => rfl
  | a :: l, b :: m, c :: n, x, y, z, h1, h2 => by
    show crcS (st8 (x ^^^ y ^^^ z ^^^ bw (a ^^^ b ^^^ c))) (xor3 l m n) = crcS (st8 (x ^^^ bw a)) l ^^^ crcS (st8 (y ^^^ bw b)) m ^^^ crcS (st8 (z ^^^ bw c)) n
    rw [← crcS_xor3 l m n _ _ _ (by simpa using h1) (by simpa using h2)]
    unfold st8
    rw [← stn_xor, ← stn_xor, bw_xor, bw_xor]
    congr 2
    ac_rfl
theorem not_xor3 (x y z : W32) : ~~~ (x ^^^ y ^^^ z) = ~~~ x ^^^ ~~~ y ^^^ ~~~ z := by
  apply BitVec.eq_of_getLsbD_eq
  intro i hi
  simp only [BitVec.getLsbD_not, BitVec.getLsbD_xor, hi, decide_true, Bool.true_and]
  cases x.getLsbD i <;> cases y.getLsbD i <;> cases z.getLsbD i <;> rfl
theorem sum_xor3 {a b c : List UInt8} (h1 : a.length = b.length) (h2 : b.length = c.length) : sumW (xor3 a b c) = sumW a ^^^ sumW b ^^^ sumW c := by
  unfold sumW extW
  rw [← not_xor3, ← crcS_xor3 _ _ _ _ _ _ h1 h2]
  congr 2

/- values -/
/-- a word as a number, behind a name (the walk's simp would look into it) -/
def wn (x : W32) : Int := (x.toNat : Int)
abbrev wv (x : W32) : Value := .int .u32 (wn x)
theorem and_one (x : W32) : bits .and .u32 (wn x) 1 = ((if x.getLsbD 0 then 1 else 0 : Nat) : Int) := by
  unfold wn
  rw [show (1 : Int) = ((1 : Nat) : Int) from rfl, u32_and_nat _ _ x.isLt (by decide), nat_mask1]
  congr 1
  have : x.getLsbD 0 = decide (x.toNat % 2 = 1) := by rw [← BitVec.testBit_toNat, Nat.testBit_zero]
  rw [this]
  by_cases h : x.toNat % 2 = 1
  · simp [h]
  · simp [h]; omega
theorem xor_wn (x y : W32) : bits .xor .u32 (wn x) (wn y) = wn (x ^^^ y) := by
  unfold wn; rw [u32_xor_nat _ _ x.isLt y.isLt, BitVec.toNat_xor]
theorem shr_wn (x : W32) (k : Nat) : wn x / ((2 ^ k : Nat) : Int) = wn (x >>> k) := by
  unfold wn; rw [BitVec.toNat_ushiftRight, Nat.shiftRight_eq_div_pow]; rfl
theorem xor_P (y : W32) : bits .xor .u32 (wn y) 2197175160 = wn (y ^^^ P32) := xor_wn y P32
theorem half_wn (y : W32) : HDiv.hDiv (α := Int) (β := Int) (wn y) (2 : Int) = wn (y >>> 1) := shr_wn y 1
theorem not_wn (x : W32) : bits .xor .u32 4294967295 (wn x) = wn (~~~ x) := by
  have := xor_wn (BitVec.allOnes 32) x
  rw [BitVec.allOnes_xor] at this
  exact this
theorem mod_wn (y : W32) : HMod.hMod (α := Int) (β := Int) (wn y) (256 : Int) = ((y.toNat % 256 : Nat) : Int) := by
  unfold wn; omega
theorem xor_u8 {a b : Nat} (ha : a < 256) (hb : b < 256) : bits .xor .u8 (a : Int) (b : Int) = ((a ^^^ b : Nat) : Int) := u8_xor_nat a b ha hb
theorem shr8_wn (y : W32) : HDiv.hDiv (α := Int) (β := Int) (wn y) (256 : Int) = wn (y >>> 8) := shr_wn y 8
theorem crcS_drop {l : List UInt8} {k : Nat} (hk : k < l.length) (y : W32) : crcS y (l.drop k) = crcS (st8 (y ^^^ bw l[k])) (l.drop (k + 1)) := by
  rw [List.drop_eq_getElem_cons hk]; rfl
theorem wrap_ofNat {k : Nat} (h : k < 256) : IntKind.u32.wrap (k : Int) = wn (BitVec.ofNat 32 k) := by
  unfold wn; rw [IntKind.wrap_u32, BitVec.toNat_ofNat]; omega
end Go.Proofs.Ytjkdnnekagcdhaa
