/- WHAT IT HOLDS: Slice of segments, walked. | WHAT IT HOLDS: the document's Join of segments, walked. | WHAT IT HOLDS: the document's Slice of segments, walked. -/
import Derived.Test.YtjkdnnekagcdhaaSegmentPutsG20
namespace Go.Proofs.Ytjkdnnekagcdhaa
open Go.RowKit
attribute [local go_sem ↓] Go.wp_at_zero Go.wp_at_succ

theorem flat_take : ∀ (k : Nat) (l : List CeV), (l.flatMap cf).take (k * 2) = (l.take k).flatMap cf
  | 0, l => by simp
  | k + 1, [] => by simp
  | k + 1, x :: l => by
    have h := flat_take k l
    rw [show (k + 1) * 2 = k * 2 + 1 + 1 from by omega]
    simp only [List.flatMap_cons, List.take_succ_cons, cf]
    simp only [List.cons_append, List.nil_append, List.take_succ_cons]
    rw [h]
theorem SlC.take {w : World} {E : Option Addr} {cap : Nat} {l : List CeV} (h : SlC w E cap l) {k : Nat} (hk : k ≤ l.length) : SlC w E cap (l.take k) := by
  refine ⟨?_, fun x hx => h.2 x (List.mem_of_mem_take hx)⟩
  obtain ⟨h1, h2, h3, h4, h5⟩ := h.1
  rw [← flat_take, show (l.take k).length = k from by simp; omega]
  refine ⟨by rw [List.length_take, h1]; omega, by omega, h3, fun e => by have := h4 e; omega, fun j u hj => ?_⟩
  have hlt := (List.getElem?_eq_some_iff.1 hj).1
  rw [List.length_take] at hlt
  rw [List.getElem?_take_of_lt (by omega)] at hj
  exact h5 j u hj

/-- a boxed segment and the result's block -/
structure KSt (w W : World) (f : Int) (E : Option Addr) (n cap : Nat) : Prop where
  bel : Below w.heap.size w W
  a : Blk W w.heap.size 75 #[.int .i64 f, .slice E n cap]
  r : Blk W (w.heap.size + 1) 75 #[.int .i64 0, .slice none 0 0]
theorem KSt.below {w W W' : World} {f : Int} {E : Option Addr} {n cap : Nat} (h : KSt w W f E n cap) (hb : Below W.heap.size W W') : KSt w W' f E n cap := ⟨bel_call h.bel hb, h.a.below hb, h.r.below hb⟩
set_option maxRecDepth 100000 in
set_option maxHeartbeats 2000000 in
theorem SSlice_any {E : Option Addr} {cap : Nat} (f p q : Int) (cs : List CeV) (w : World) (h : SlC w E cap cs) (hd : ∀ x ∈ cs, x.2.2.2.length ≤ 1000000000) :
    Calls Try.prog 70 #[cv f E cs.length cap, .int .i64 p, .int .i64 q] w (GivesSg w (spart (f, cs.map ceOf) p q)) := by
  have hJ0 : KSt w ((w.alloc (.cells #[.int .i64 f, .slice E cs.length cap] 75)).alloc (.cells #[.int .i64 0, .slice none 0 0] 75)) f E cs.length cap :=
    ⟨bel_alloc (below_new w _) _, (Blk.new w _ _).alloc _, Blk.newAt (by simp) _ _⟩
  obtain ⟨a0, a1, _, _⟩ := hJ0.a.two
  have HD := Lib.hid hd
  have hcap := h.1.2.1
  clear hd
  go_enter Try.func70, Try.ntmps70
  go_wp2_with fail
  refine (SCheck_any f cs _ (h.below hJ0.bel)).mono ?_
  rintro e w1 ⟨rfl, hb1⟩
  have hJ1 := hJ0.below hb1
  clear hJ0 hb1 a0 a1
  rcases errv_cases (schk (f, cs.map ceOf)) with ⟨h0, hev⟩ | ⟨k, hk, hke, hev⟩
  · obtain ⟨hf0, hf1, hn64, hne, _⟩ := schk_ok h0
    simp only [List.length_map] at hn64 hne
    have HS := Lib.hid (show spart (f, cs.map ceOf) p q = if p < f ∨ f + cs.length < q ∨ q < p then ((0, []), 1) else ((p, ((cs.map ceOf).drop (p - f).toNat).take (q - p).toNat), 0) from by
      unfold spart
      rw [if_neg (by rw [h0]; simp)]
      simp only [List.length_map])
    rw [hev]
    clear hev h0
    by_cases c1 : p < f
    · have HJ : Hid (spart (f, cs.map ceOf) p q = ((0, []), 1)) := (show _ = _ from by rw [HS.out, if_pos (.inl c1)])
      obtain ⟨r0, r1, rf0, rf1⟩ := hJ1.r.two
      obtain ⟨a0, a1, _, _⟩ := hJ1.a.two
      go_wp2_with fail
      exact bodyPost_ret (res_sg2 rfl rfl (g := w.heap.size + 1) (hJ1.r.set2 _ _)) rfl ⟨none, 0, [], by rw [HJ.out]; rfl, (show _ = _ from by rw [HJ.out]; rfl), SlC.nil _, bel_set (bel_set hJ1.bel (by dsimp only; omega) _) (by dsimp only; omega) _⟩
    · obtain ⟨a0, a1, _, _⟩ := hJ1.a.two
      go_wp2_with fail
      refine (SEnd_any f E cs.length cap _ hf0 hf1 (by omega)).mono ?_
      rintro e w2 ⟨rfl, hb2⟩
      have hJ2 := hJ1.below hb2
      clear hJ1 hb2 a0 a1
      by_cases c2 : f + (cs.length : Int) < q
      · have HJ : Hid (spart (f, cs.map ceOf) p q = ((0, []), 1)) := (show _ = _ from by rw [HS.out, if_pos (.inr (.inl c2))])
        obtain ⟨r0, r1, rf0, rf1⟩ := hJ2.r.two
        obtain ⟨a0, a1, _, _⟩ := hJ2.a.two
        go_wp2_with fail
        exact bodyPost_ret (res_sg2 rfl rfl (g := w.heap.size + 1) (hJ2.r.set2 _ _)) rfl ⟨none, 0, [], by rw [HJ.out]; rfl, (show _ = _ from by rw [HJ.out]; rfl), SlC.nil _, bel_set (bel_set hJ2.bel (by dsimp only; omega) _) (by dsimp only; omega) _⟩
      · by_cases c3 : q < p
        · have HJ : Hid (spart (f, cs.map ceOf) p q = ((0, []), 1)) := (show _ = _ from by rw [HS.out, if_pos (.inr (.inr c3))])
          obtain ⟨r0, r1, rf0, rf1⟩ := hJ2.r.two
          obtain ⟨a0, a1, _, _⟩ := hJ2.a.two
          go_wp2_with fail
          exact bodyPost_ret (res_sg2 rfl rfl (g := w.heap.size + 1) (hJ2.r.set2 _ _)) rfl ⟨none, 0, [], by rw [HJ.out]; rfl, (show _ = _ from by rw [HJ.out]; rfl), SlC.nil _, bel_set (bel_set hJ2.bel (by dsimp only; omega) _) (by dsimp only; omega) _⟩
        · have HJ : spart (f, cs.map ceOf) p q = ((p, ((cs.map ceOf).drop (p - f).toNat).take (q - p).toNat), 0) := by rw [HS.out, if_neg (by omega)]
          obtain ⟨i, hi⟩ : ∃ i : Nat, p - f = i := ⟨(p - f).toNat, by omega⟩
          obtain ⟨j, hj⟩ : ∃ j : Nat, q - f = j := ⟨(q - f).toNat, by omega⟩
          have hij : i ≤ j := by omega
          have hjn : j ≤ cs.length := by omega
          rw [hi, show (q - p).toNat = j - i from by omega] at HJ
          simp only [Int.toNat_natCast] at HJ
          have HJH := Lib.hid HJ
          obtain ⟨a0, a1, _, _⟩ := hJ2.a.two
          have hjc : j ≤ cap := by omega
          have hic : i ≤ cap := by omega
          clear HJ HS
          by_cases hci : cap = i
          · have hpart := (SlC.cut (SlC.take (h.below hJ2.bel) hjn) (k := i) (by simp; omega))
            have hpl : ((cs.take j).drop i).length = j - i := by simp; omega
            have hcs : ((cs.take j).drop i).map ceOf = ((cs.map ceOf).drop i).take (j - i) := by rw [List.map_drop, List.map_take, List.drop_take]
            have HCS := Lib.hid hcs
            have hdd : ∀ x ∈ (cs.take j).drop i, x.2.2.2.length ≤ 1000000000 := fun x hx => HD.out x (List.mem_of_mem_take (List.mem_of_mem_drop hx))
            clear hcs
            generalize (cs.take j).drop i = ps at *
            rw [if_pos hci] at hpart
            have hp0 : ps = [] := List.eq_nil_of_length_eq_zero (by omega)
            subst hp0
            subst hci
            go_wp2_with fail
            rw [Nat.sub_self] at hpart
            have hco := SCopy_any p [] w2 hpart (by simp) hdd
            have hz2 : w.heap.size + 1 < w2.heap.size := hJ2.r.lt
            refine hco.mono ?_
            rintro e w3 ⟨A3, k3, m3, rfl, hm3, hN3, hb3⟩
            have hJ3 := hJ2.below hb3
            obtain ⟨r0, r1, rf0, rf1⟩ := hJ3.r.two
            clear hJ2 hb3 hpart a0 a1 hpl
            go_wp2_with fail
            exact bodyPost_ret (res_sg2 rfl rfl (g := w.heap.size + 1) (hJ3.r.set2 _ _)) rfl ⟨A3, k3, m3, by rw [HJH.out]; rfl, (show _ = _ from by rw [HJH.out, hm3.out, HCS.out]), ⟨(Own.set2 hN3.1 (by omega) _ _).sl, fun x hx => (Own.set2 (hN3.2 x hx) (by omega) _ _).sl⟩, bel_set (bel_set hJ3.bel (by dsimp only; omega) _) (by dsimp only; omega) _⟩
          · have hpart := (SlC.cut (SlC.take (h.below hJ2.bel) hjn) (k := i) (by simp; omega))
            have hpl : ((cs.take j).drop i).length = j - i := by simp; omega
            have hcs : ((cs.take j).drop i).map ceOf = ((cs.map ceOf).drop i).take (j - i) := by rw [List.map_drop, List.map_take, List.drop_take]
            have HCS := Lib.hid hcs
            have hdd : ∀ x ∈ (cs.take j).drop i, x.2.2.2.length ≤ 1000000000 := fun x hx => HD.out x (List.mem_of_mem_take (List.mem_of_mem_drop hx))
            clear hcs
            generalize (cs.take j).drop i = ps at *
            rw [if_neg hci] at hpart
            go_wp2_with fail
            have hco := SCopy_any p ps w2 hpart (by omega) hdd
            rw [hpl] at hco
            have hz2 : w.heap.size + 1 < w2.heap.size := hJ2.r.lt
            refine hco.mono ?_
            rintro e w3 ⟨A3, k3, m3, rfl, hm3, hN3, hb3⟩
            have hJ3 := hJ2.below hb3
            obtain ⟨r0, r1, rf0, rf1⟩ := hJ3.r.two
            clear hJ2 hb3 hpart a0 a1 hpl
            go_wp2_with fail
            exact bodyPost_ret (res_sg2 rfl rfl (g := w.heap.size + 1) (hJ3.r.set2 _ _)) rfl ⟨A3, k3, m3, by rw [HJH.out]; rfl, (show _ = _ from by rw [HJH.out, hm3.out, HCS.out]), ⟨(Own.set2 hN3.1 (by omega) _ _).sl, fun x hx => (Own.set2 (hN3.2 x hx) (by omega) _ _).sl⟩, bel_set (bel_set hJ3.bel (by dsimp only; omega) _) (by dsimp only; omega) _⟩
  · have HJ : Hid (spart (f, cs.map ceOf) p q = ((0, []), schk (f, cs.map ceOf))) := (show _ = _ from by
      unfold spart
      rw [if_pos (by omega)])
    have HEV := Lib.hid hev
    rw [hev]
    clear hev hke
    obtain ⟨r0, r1, rf0, rf1⟩ := hJ1.r.two
    obtain ⟨a0, a1, _, _⟩ := hJ1.a.two
    go_wp2_with fail
    exact bodyPost_ret (res_sg2 rfl rfl (g := w.heap.size + 1) (hJ1.r.set2 _ _)) rfl ⟨none, 0, [], by rw [HJ.out]; (dsimp only; rw [HEV.out]; rfl), (show _ = _ from by rw [HJ.out]; rfl), SlC.nil _, bel_set (bel_set hJ1.bel (by dsimp only; omega) _) (by dsimp only; omega) _⟩
end Go.Proofs.Ytjkdnnekagcdhaa

namespace Go.Proofs.Ytjkdnnekagcdhaa
open Go.RowKit
attribute [local go_sem ↓] Go.wp_at_zero Go.wp_at_succ

/-- what gives one of the document's segments and a number -/
def RGivesSg (w0 : World) (x : Sg × Nat) (e : Ending) (w' : World) : Prop :=
  ∃ A c m, e = .returned (.tuple #[cv x.1.1 A (List.length m) c, .int .i64 (x.2 : Nat)]) ∧ Hid (m = x.1.2) ∧ Own w' w0.heap.size 29 2 A m.length c (m.flatMap df) ∧ Below w0.heap.size w0 w'
/-- two boxed segments and the result's block -/
structure RJ (w W : World) (f : Int) (E : Option Addr) (n cap : Nat) (fb : Int) (G : Option Addr) (n2 cap2 : Nat) : Prop where
  bel : Below w.heap.size w W
  a : Blk W w.heap.size 77 #[.int .i64 f, .slice E n cap]
  b : Blk W (w.heap.size + 1) 77 #[.int .i64 fb, .slice G n2 cap2]
  r : Blk W (w.heap.size + 1 + 1) 77 #[.int .i64 0, .slice none 0 0]
section
variable {w W W' : World} {f fb : Int} {E G : Option Addr} {n cap n2 cap2 : Nat}
theorem RJ.below (h : RJ w W f E n cap fb G n2 cap2) (hb : Below W.heap.size W W') : RJ w W' f E n cap fb G n2 cap2 := ⟨bel_call h.bel hb, h.a.below hb, h.b.below hb, h.r.below hb⟩
theorem RJ.drew (h : RJ w W f E n cap fb G n2 cap2) : RJ w W.drew f E n cap fb G n2 cap2 := ⟨h.bel.drew, h.a.drew, h.b.drew, h.r.drew⟩
theorem RJ.far (h : RJ w W f E n cap fb G n2 cap2) {g i : Nat} (hg : w.heap.size + 1 + 1 < g) (u : Value) : RJ w (W.setCell ⟨g, i, none⟩ u) f E n cap fb G n2 cap2 :=
  ⟨bel_set h.bel (by show w.heap.size ≤ g; omega) u, h.a.far (by show w.heap.size ≠ g; omega) u, h.b.far (by show w.heap.size + 1 ≠ g; omega) u, h.r.far (by show w.heap.size + 1 + 1 ≠ g; omega) u⟩
theorem RJ.far2 (h : RJ w W f E n cap fb G n2 cap2) {g : Nat} (hg : w.heap.size + 1 + 1 < g) (u v : Value) : RJ w ((W.setCell ⟨g, 0, none⟩ u).setCell ⟨g, 1, none⟩ v) f E n cap fb G n2 cap2 := (h.far hg u).far hg v
theorem RJ.apart (h : RJ w W f E n cap fb G n2 cap2) {B : Nat} (hB : w.heap.size + 1 + 1 < B) (hb : Below B W W') : RJ w W' f E n cap fb G n2 cap2 :=
  ⟨h.bel.trans (hb.mono (by omega)), (hb.block _ (by omega)).trans h.a, (hb.block _ (by omega)).trans h.b, (hb.block _ (by omega)).trans h.r⟩
end
theorem Own.setT2 {w : World} {base g : Nat} {e t : TypeId} {size n c : Nat} {A : Option Addr} {xs : List Value} {cs : Array Value} (h : Own w base e size A n c xs) (hb : Blk w g t cs) (hne : e ≠ t) (u v : Value) : Own ((w.setCell ⟨g, 0, none⟩ u).setCell ⟨g, 1, none⟩ v) base e size A n c xs :=
  h.wrT ((Wr.set_ (Wr.refl (g := g) w) 0 u).set_ 1 v) hb hne
theorem Own.lit0 {w : World} {base : Nat} (size : Nat) (e : TypeId) (hb : base ≤ w.heap.size) : Own (w.alloc (.cells #[] e)) base e size (some ⟨w.heap.size, 0, none⟩) 0 0 [] := Own.lit size hb

end Go.Proofs.Ytjkdnnekagcdhaa

namespace Go.Proofs.Ytjkdnnekagcdhaa
open Go.RowKit
attribute [local go_sem ↓] Go.wp_at_zero Go.wp_at_succ

/-- a boxed segment and the result's block -/
structure RK (w W : World) (f : Int) (E : Option Addr) (n cap : Nat) : Prop where
  bel : Below w.heap.size w W
  a : Blk W w.heap.size 77 #[.int .i64 f, .slice E n cap]
  r : Blk W (w.heap.size + 1) 77 #[.int .i64 0, .slice none 0 0]
section
variable {w W W' : World} {f : Int} {E : Option Addr} {n cap : Nat}
theorem RK.below (h : RK w W f E n cap) (hb : Below W.heap.size W W') : RK w W' f E n cap := ⟨bel_call h.bel hb, h.a.below hb, h.r.below hb⟩
theorem RK.drew (h : RK w W f E n cap) : RK w W.drew f E n cap := ⟨h.bel.drew, h.a.drew, h.r.drew⟩
theorem RK.far (h : RK w W f E n cap) {g i : Nat} (hg : w.heap.size + 1 < g) (u : Value) : RK w (W.setCell ⟨g, i, none⟩ u) f E n cap :=
  ⟨bel_set h.bel (by show w.heap.size ≤ g; omega) u, h.a.far (by show w.heap.size ≠ g; omega) u, h.r.far (by show w.heap.size + 1 ≠ g; omega) u⟩
theorem RK.apart (h : RK w W f E n cap) {B : Nat} (hB : w.heap.size + 1 < B) (hb : Below B W W') : RK w W' f E n cap :=
  ⟨h.bel.trans (hb.mono (by omega)), (hb.block _ (by omega)).trans h.a, (hb.block _ (by omega)).trans h.r⟩
end
end Go.Proofs.Ytjkdnnekagcdhaa
