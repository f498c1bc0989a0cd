/- WHAT IT HOLDS: Slice of segments, walked. -/
import Derived.Test.YtkkcgibmcijhaaaSegJ
namespace Go.Proofs.Ytkkcgibmcijhaaa
open Go.RowKit
attribute [local go_sem ↓] Go.wp_at_zero Go.wp_at_succ

theorem flat_take : ∀ (k : Nat) (l : List CeV), (l.flatMap cf).take (k * 2) = (l.take k).flatMap cf
  | 0, l => by simp
  | k + 1, [] => by simp
  | k + 1, x :: l => by
    have h := flat_take k l
    rw [show (k + 1) * 2 = k * 2 + 1 + 1 from by omega]
    simp only [List.flatMap_cons, List.take_succ_cons, cf]
    simp only [List.cons_append, List.nil_append, List.take_succ_cons]
    rw [h]
theorem SlC.take {w : World} {E : Option Addr} {cap : Nat} {l : List CeV} (h : SlC w E cap l) {k : Nat} (hk : k ≤ l.length) : SlC w E cap (l.take k) := by
  refine ⟨?_, fun x hx => h.2 x (List.mem_of_mem_take hx)⟩
  obtain ⟨h1, h2, h3, h4, h5⟩ := h.1
  rw [← flat_take, show (l.take k).length = k from by simp; omega]
  refine ⟨by rw [List.length_take, h1]; omega, by omega, h3, fun e => by have := h4 e; omega, fun j u hj => ?_⟩
  have hlt := (List.getElem?_eq_some_iff.1 hj).1
  rw [List.length_take] at hlt
  rw [List.getElem?_take_of_lt (by omega)] at hj
  exact h5 j u hj

/-- a boxed segment and the result's block -/
structure KSt (w W : World) (f : Int) (E : Option Addr) (n cap : Nat) : Prop where
  bel : Below w.heap.size w W
  a : Blk W w.heap.size 89 #[.int .i64 f, .slice E n cap]
  r : Blk W (w.heap.size + 1) 89 #[.int .i64 0, .slice none 0 0]
theorem KSt.below {w W W' : World} {f : Int} {E : Option Addr} {n cap : Nat} (h : KSt w W f E n cap) (hb : Below W.heap.size W W') : KSt w W' f E n cap := ⟨bel_call h.bel hb, h.a.below hb, h.r.below hb⟩
set_option maxRecDepth 100000 in
set_option maxHeartbeats 2000000 in
theorem SSlice_any {E : Option Addr} {cap : Nat} (f p q : Int) (cs : List CeV) (w : World) (h : SlC w E cap cs) (hd : ∀ x ∈ cs, x.2.2.2.length ≤ 1000000000) :
    Calls Try.prog 63 #[cv f E cs.length cap, .int .i64 p, .int .i64 q] w (GivesSg w (spart (f, cs.map ceOf) p q)) := by
  have hJ0 : KSt w ((w.alloc (.cells #[.int .i64 f, .slice E cs.length cap] 89)).alloc (.cells #[.int .i64 0, .slice none 0 0] 89)) f E cs.length cap :=
    ⟨bel_alloc (below_new w _) _, (Blk.new w _ _).alloc _, Blk.newAt (by simp) _ _⟩
  obtain ⟨a0, a1, _, _⟩ := hJ0.a.two
  have HD := Lib.hid hd
  have hcap := h.1.2.1
  clear hd
  go_enter Try.func63, Try.ntmps63
  go_wp2_with fail
  refine (SCheck_any f cs _ (h.below hJ0.bel)).mono ?_
  rintro e w1 ⟨rfl, hb1⟩
  have hJ1 := hJ0.below hb1
  clear hJ0 hb1 a0 a1
  rcases errv_cases (schk (f, cs.map ceOf)) with ⟨h0, hev⟩ | ⟨k, hk, hke, hev⟩
  · obtain ⟨hf0, hf1, hn64, hne, _⟩ := schk_ok h0
    simp only [List.length_map] at hn64 hne
    have HS := Lib.hid (show spart (f, cs.map ceOf) p q = if p < f ∨ f + cs.length < q ∨ q < p then ((0, []), 1) else ((p, ((cs.map ceOf).drop (p - f).toNat).take (q - p).toNat), 0) from by
      unfold spart
      rw [if_neg (by rw [h0]; simp)]
      simp only [List.length_map])
    rw [hev]
    clear hev h0
    by_cases c1 : p < f
    · have HJ : Hid (spart (f, cs.map ceOf) p q = ((0, []), 1)) := (show _ = _ from by rw [HS.out, if_pos (.inl c1)])
      obtain ⟨r0, r1, rf0, rf1⟩ := hJ1.r.two
      obtain ⟨a0, a1, _, _⟩ := hJ1.a.two
      go_wp2_with fail
      exact bodyPost_ret (res_sg2 rfl rfl (g := w.heap.size + 1) (hJ1.r.set2 _ _)) rfl ⟨none, 0, [], by rw [HJ.out]; rfl, (show _ = _ from by rw [HJ.out]; rfl), SlC.nil _, bel_set (bel_set hJ1.bel (by dsimp only; omega) _) (by dsimp only; omega) _⟩
    · obtain ⟨a0, a1, _, _⟩ := hJ1.a.two
      go_wp2_with fail
      refine (SEnd_any f E cs.length cap _ hf0 hf1 (by omega)).mono ?_
      rintro e w2 ⟨rfl, hb2⟩
      have hJ2 := hJ1.below hb2
      clear hJ1 hb2 a0 a1
      by_cases c2 : f + (cs.length : Int) < q
      · have HJ : Hid (spart (f, cs.map ceOf) p q = ((0, []), 1)) := (show _ = _ from by rw [HS.out, if_pos (.inr (.inl c2))])
        obtain ⟨r0, r1, rf0, rf1⟩ := hJ2.r.two
        obtain ⟨a0, a1, _, _⟩ := hJ2.a.two
        go_wp2_with fail
        exact bodyPost_ret (res_sg2 rfl rfl (g := w.heap.size + 1) (hJ2.r.set2 _ _)) rfl ⟨none, 0, [], by rw [HJ.out]; rfl, (show _ = _ from by rw [HJ.out]; rfl), SlC.nil _, bel_set (bel_set hJ2.bel (by dsimp only; omega) _) (by dsimp only; omega) _⟩
      · by_cases c3 : q < p
        · have HJ : Hid (spart (f, cs.map ceOf) p q = ((0, []), 1)) := (show _ = _ from by rw [HS.out, if_pos (.inr (.inr c3))])
          obtain ⟨r0, r1, rf0, rf1⟩ := hJ2.r.two
          obtain ⟨a0, a1, _, _⟩ := hJ2.a.two
          go_wp2_with fail
          exact bodyPost_ret (res_sg2 rfl rfl (g := w.heap.size + 1) (hJ2.r.set2 _ _)) rfl ⟨none, 0, [], by rw [HJ.out]; rfl, (show _ = _ from by rw [HJ.out]; rfl), SlC.nil _, bel_set (bel_set hJ2.bel (by dsimp only; omega) _) (by dsimp only; omega) _⟩
        · have HJ : spart (f, cs.map ceOf) p q = ((p, ((cs.map ceOf).drop (p - f).toNat).take (q - p).toNat), 0) := by rw [HS.out, if_neg (by omega)]
          obtain ⟨i, hi⟩ : ∃ i : Nat, p - f = i := ⟨(p - f).toNat, by omega⟩
          obtain ⟨j, hj⟩ : ∃ j : Nat, q - f = j := ⟨(q - f).toNat, by omega⟩
          have hij : i ≤ j := by omega
          have hjn : j ≤ cs.length := by omega
          rw [hi, show (q - p).toNat = j - i from by omega] at HJ
          simp only [Int.toNat_natCast] at HJ
          have HJH := Lib.hid HJ
          obtain ⟨a0, a1, _, _⟩ := hJ2.a.two
          have hjc : j ≤ cap := by omega
          have hic : i ≤ cap := by omega
          clear HJ HS
          by_cases hci : cap = i
          · have hpart := (SlC.cut (SlC.take (h.below hJ2.bel) hjn) (k := i) (by simp; omega))
            have hpl : ((cs.take j).drop i).length = j - i := by simp; omega
            have hcs : ((cs.take j).drop i).map ceOf = ((cs.map ceOf).drop i).take (j - i) := by rw [List.map_drop, List.map_take, List.drop_take]
            have HCS := Lib.hid hcs
            have hdd : ∀ x ∈ (cs.take j).drop i, x.2.2.2.length ≤ 1000000000 := fun x hx => HD.out x (List.mem_of_mem_take (List.mem_of_mem_drop hx))
            clear hcs
            generalize (cs.take j).drop i = ps at *
            rw [if_pos hci] at hpart
            have hp0 : ps = [] := List.eq_nil_of_length_eq_zero (by omega)
            subst hp0
            subst hci
            go_wp2_with fail
            rw [Nat.sub_self] at hpart
            have hco := SCopy_any p [] w2 hpart (by simp) hdd
            have hz2 : w.heap.size + 1 < w2.heap.size := hJ2.r.lt
            refine hco.mono ?_
            rintro e w3 ⟨A3, k3, m3, rfl, hm3, hN3, hb3⟩
            have hJ3 := hJ2.below hb3
            obtain ⟨r0, r1, rf0, rf1⟩ := hJ3.r.two
            clear hJ2 hb3 hpart a0 a1 hpl
            go_wp2_with fail
            exact bodyPost_ret (res_sg2 rfl rfl (g := w.heap.size + 1) (hJ3.r.set2 _ _)) rfl ⟨A3, k3, m3, by rw [HJH.out]; rfl, (show _ = _ from by rw [HJH.out, hm3.out, HCS.out]), ⟨(Own.set2 hN3.1 (by omega) _ _).sl, fun x hx => (Own.set2 (hN3.2 x hx) (by omega) _ _).sl⟩, bel_set (bel_set hJ3.bel (by dsimp only; omega) _) (by dsimp only; omega) _⟩
          · have hpart := (SlC.cut (SlC.take (h.below hJ2.bel) hjn) (k := i) (by simp; omega))
            have hpl : ((cs.take j).drop i).length = j - i := by simp; omega
            have hcs : ((cs.take j).drop i).map ceOf = ((cs.map ceOf).drop i).take (j - i) := by rw [List.map_drop, List.map_take, List.drop_take]
            have HCS := Lib.hid hcs
            have hdd : ∀ x ∈ (cs.take j).drop i, x.2.2.2.length ≤ 1000000000 := fun x hx => HD.out x (List.mem_of_mem_take (List.mem_of_mem_drop hx))
            clear hcs
            generalize (cs.take j).drop i = ps at *
            rw [if_neg hci] at hpart
            go_wp2_with fail
            have hco := SCopy_any p ps w2 hpart (by omega) hdd
            rw [hpl] at hco
            have hz2 : w.heap.size + 1 < w2.heap.size := hJ2.r.lt
            refine hco.mono ?_
            rintro e w3 ⟨A3, k3, m3, rfl, hm3, hN3, hb3⟩
            have hJ3 := hJ2.below hb3
            obtain ⟨r0, r1, rf0, rf1⟩ := hJ3.r.two
            clear hJ2 hb3 hpart a0 a1 hpl
            go_wp2_with fail
            exact bodyPost_ret (res_sg2 rfl rfl (g := w.heap.size + 1) (hJ3.r.set2 _ _)) rfl ⟨A3, k3, m3, by rw [HJH.out]; rfl, (show _ = _ from by rw [HJH.out, hm3.out, HCS.out]), ⟨(Own.set2 hN3.1 (by omega) _ _).sl, fun x hx => (Own.set2 (hN3.2 x hx) (by omega) _ _).sl⟩, bel_set (bel_set hJ3.bel (by dsimp only; omega) _) (by dsimp only; omega) _⟩
  · have HJ : Hid (spart (f, cs.map ceOf) p q = ((0, []), schk (f, cs.map ceOf))) := (show _ = _ from by
      unfold spart
      rw [if_pos (by omega)])
    have HEV := Lib.hid hev
    rw [hev]
    clear hev hke
    obtain ⟨r0, r1, rf0, rf1⟩ := hJ1.r.two
    obtain ⟨a0, a1, _, _⟩ := hJ1.a.two
    go_wp2_with fail
    exact bodyPost_ret (res_sg2 rfl rfl (g := w.heap.size + 1) (hJ1.r.set2 _ _)) rfl ⟨none, 0, [], by rw [HJ.out]; (dsimp only; rw [HEV.out]; rfl), (show _ = _ from by rw [HJ.out]; rfl), SlC.nil _, bel_set (bel_set hJ1.bel (by dsimp only; omega) _) (by dsimp only; omega) _⟩
end Go.Proofs.Ytkkcgibmcijhaaa
