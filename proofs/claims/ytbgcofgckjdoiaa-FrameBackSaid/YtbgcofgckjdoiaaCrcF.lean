/- WHAT IT HOLDS: the law CrcFinds, walked. -/
import Derived.Test.YtbgcofgckjdoiaaCrcD
import Derived.Test.YtbgcofgckjdoiaaFrmP
import Derived.Laws.CopyOwn
namespace Go.Proofs.Ytbgcofgckjdoiaa
open Go.RowKit
attribute [local go_sem ↓] Go.wp_at_zero Go.wp_at_succ

theorem u64_tmod_pos (a : Int) (n : Nat) (hn : 0 < n) : ∃ k : Nat, k < n ∧ (IntKind.u64.wrap a).tmod (n : Int) = (k : Int) := by
  obtain ⟨k, hk, he⟩ := u64_tmod a (n - 1)
  refine ⟨k, by omega, ?_⟩
  rw [← he]
  congr 1
  omega
/-- the bits that have been turned so far -/
def wpart (x n8 place i : Nat) : Nat := x % 2 ^ min i (n8 - place)
theorem wpart_out {x n8 place i : Nat} (h : n8 ≤ place + i) : wpart x n8 place (i + 1) = wpart x n8 place i := by
  unfold wpart; rw [Nat.min_eq_right (by omega), Nat.min_eq_right (by omega)]
theorem wpart_off {x n8 place i : Nat} (hp : place + i < n8) (h : x.testBit i = false) : wpart x n8 place (i + 1) = wpart x n8 place i := by
  unfold wpart
  rw [Nat.min_eq_left (by omega), Nat.min_eq_left (by omega)]
  apply Nat.eq_of_testBit_eq
  intro j
  simp only [Nat.testBit_mod_two_pow]
  by_cases hj : j = i
  · subst hj; simp [h]
  · by_cases h1 : j < i
    · simp [h1, show j < i + 1 from by omega]
    · simp [h1, show ¬ j < i + 1 from by omega]
theorem wpart_on {x n8 place i : Nat} (hp : place + i < n8) (h : x.testBit i = true) : wpart x n8 place (i + 1) = wpart x n8 place i ^^^ 2 ^ i := by
  unfold wpart
  rw [Nat.min_eq_left (by omega), Nat.min_eq_left (by omega)]
  apply Nat.eq_of_testBit_eq
  intro j
  simp only [Nat.testBit_mod_two_pow, Nat.testBit_xor, Nat.testBit_two_pow]
  by_cases hj : j = i
  · subst hj; simp [h]
  · by_cases h1 : j < i
    · simp [h1, show j < i + 1 from by omega, show ¬ i = j from by omega]
    · simp [h1, show ¬ j < i + 1 from by omega, show ¬ i = j from by omega]
theorem wpart_on_ne {x n8 place i : Nat} (hp : place + i < n8) (h : x.testBit i = true) : wpart x n8 place (i + 1) ≠ 0 := by
  rw [wpart_on hp h]
  intro he
  have := congrArg (fun y => y.testBit i) he
  simp [Nat.testBit_xor, Nat.testBit_two_pow, wpart, Nat.testBit_mod_two_pow, Nat.min_eq_left (show i ≤ n8 - place from by omega)] at this
theorem set_bit {l m : List UInt8} {W place i : Nat} (hl : m.length = l.length) (h : leN m = leN l ^^^ (W <<< place)) (hp : (place + i) / 8 < m.length) :
    leN (m.set ((place + i) / 8) (m[(place + i) / 8] ^^^ UInt8.ofNat (2 ^ ((place + i) % 8)))) = leN l ^^^ ((W ^^^ 2 ^ i) <<< place) := by
  rw [leN_set _ _ hp, h, Nat.xor_assoc, Nat.shiftLeft_xor_distrib]
  congr 2
  have h8 : (place + i) % 8 < 8 := Nat.mod_lt _ (by decide)
  have h2 : 2 ^ ((place + i) % 8) < 256 := Nat.pow_lt_pow_right (a := 2) (by decide) h8
  rw [UInt8.toNat_ofNat', Nat.mod_eq_of_lt h2, Nat.shiftLeft_eq, Nat.shiftLeft_eq, ← Nat.pow_add, ← Nat.pow_add]
  congr 1
  omega
theorem own_set {w : World} {base : Nat} {e : TypeId} {A : Option Addr} {c j : Nat} {m : List UInt8} {x : UInt8} {g : Nat} (h : OwnB w base e A c m) (hA : A = some ⟨g, 0, none⟩) (hj : j < m.length) : OwnB (w.setCell ⟨g, j, none⟩ (bv x)) base e A c (m.set j x) := by
  obtain ⟨h1, h2⟩ := h
  rcases h2 with ⟨hv, hn⟩ | ⟨g', cap, cur, hv, hb, hh, hnc, hcm, hcs, ht⟩
  · subst hA; simp at hv
  · subst hA
    simp at hv
    obtain ⟨rfl, rfl⟩ := hv
    have hb2 : bvs (m.set j x) = (bvs m).set j (bv x) := by rw [bvs, bvs, List.map_set]
    refine ⟨by simp, .inr ⟨g, c, cur.setIfInBounds j (bv x), by simp, hb, ?_, by simpa using hnc, hcm, by simpa using hcs, ?_⟩⟩
    · simp [World.setCell, Array.getElem?_modify, hh]
    · rw [Array.toList_setIfInBounds, List.length_set, List.take_set, ht, hb2]

theorem Sl.apartB {w w5 w6 : World} {A : Option Addr} {c g : Nat} {l : List UInt8} (h : SlB w A c l) (hb : But g w w5) (_ : g < w.heap.size) (hb6 : Below w.heap.size w5 w6) (hA : l ≠ [] → A.map (·.block) ≠ some g) : SlB w6 A c l := by
  have h5 := SlB.but h hb hA
  refine ⟨h.1, h.2.1, h.2.2.1, h.2.2.2.1, fun j u hj => ?_⟩
  obtain ⟨ad, hA2, hc⟩ := h5.2.2.2.2 j u hj
  obtain ⟨ad', hA', hc'⟩ := h.2.2.2.2 j u hj
  rw [hA2] at hA'
  injection hA' with e
  subst e
  exact ⟨ad, hA2, (hb6.cell (World.block_lt_of_cell? w _ hc')).trans hc⟩
theorem own_copy {w : World} {base g cap : Nat} {e : TypeId} {cur : List Value} {l m f : List UInt8} (hg : base ≤ g) (hh : w.heap[g]? = some (.cells (splice cur 0 (bvs m)).toArray e (0, 0))) (hn : (l ++ f).length ≤ cap) (hcm : cap ≤ maxLen)
    (hcs : cur.length = cap) (ht : cur.take (l ++ f).length = bvs (l ++ f)) (hlm : m.length = l.length) : OwnB w base e (some ⟨g, 0, none⟩) cap (m ++ f) := by
  have h1 : (m ++ f).length = (l ++ f).length := by simp [hlm]
  have h2 : (bvs m).length = m.length := by simp
  refine ⟨by simp, .inr ⟨g, cap, _, rfl, hg, hh, by rw [h1]; exact hn, hcm, ?_, ?_⟩⟩
  · simp only [List.size_toArray]
    rw [length_splice _ _ _ (by rw [h2, hcs, hlm]; rw [List.length_append] at hn; omega), hcs]
    omega
  · show List.take ((m ++ f).length * 1) (splice cur 0 (bvs m)) = bvs (m ++ f)
    have h3 : bvs (m ++ f) = bvs m ++ bvs f := List.map_append
    have h4 : (cur.drop m.length).take f.length = bvs f := by
      have := congrArg (List.drop l.length) ht
      rw [List.drop_take, List.length_append, Nat.add_sub_cancel_left] at this
      rw [hlm, this]
      show (bvs (l ++ f)).drop l.length = bvs f
      rw [show bvs (l ++ f) = bvs l ++ bvs f from List.map_append, List.drop_left' (by simp)]
    rw [h3, ← h4]
    unfold splice
    rw [List.take_zero, List.nil_append, Nat.zero_add, h2, Nat.mul_one, List.length_append, List.take_append, h2, List.take_of_length_le (by rw [h2]; omega), Nat.add_sub_cancel_left]
theorem opened_other {l m : List UInt8} (h : sumW m ≠ sumW l) : opened (m ++ four (sumW l)) = ([], 11) := by
  have h4 := four_len (sumW l)
  unfold opened
  have hl : (m ++ four (sumW l)).length - 4 = m.length := by simp [h4]
  rw [if_neg (by rw [List.length_append, h4]; omega), hl, List.take_left, List.drop_left, if_neg (fun e => h (four_inj e))]

set_option maxRecDepth 100000 in
set_option maxHeartbeats 4000000 in
theorem finds_walk {A : Option Addr} {c : Nat} {l : List UInt8} {a : Int} {x : W32} (w : World) (ha : SlB w A c l) (h1 : l.length ≤ 500) (h0 : 0 < l.length) (hx : x ≠ 0#32) :
    Calls Try.prog 8 #[.slice A l.length c, .int .i64 a, wv x] w fun e w' => e = .returned (.bool true) ∧ Below w.heap.size w w' := by
  have k1 : ¬ (500 < (l.length : Int)) := by omega
  have k2 : ((l.length : Int) == 0) = false := by rw [beq_eq_false_iff_ne]; omega
  have k3 : (wn x == 0) = false := by
    unfold wn
    simp
    intro he
    exact hx (by apply BitVec.eq_of_toNat_eq; simpa using he)
  obtain ⟨pl, hpl, hka⟩ := u64_tmod_pos a (8 * l.length) (by omega)
  have hw64 : wrap64 (pl : Int) = (pl : Int) := by simp only [wrap64]; omega
  rw [Int.natCast_mul] at hka
  have hka' : (IntKind.u64.wrap a).tmod (8 * (l.length : Int)) = (pl : Int) := hka
  clear hka
  go_enter Try.func8, Try.ntmps8
  go_wp2_with fail
  refine (alive02_any _).mono ?_
  rintro e w1 ⟨rfl, hb1⟩
  go_wp2_with (at_builtin; go_must (refine wpl_fresh 40 5 Try.underlying40 u8_info rfl _ _ rfl rfl A c l rfl (ha.below hb1) (by omega) ?_; intro A3 c3 m3 w3 hm3 ho3 hb3))
  obtain ⟨g3, rfl, hg3, _⟩ := Own.form ho3 (by rw [hm3.out]; exact h0)
  have hml3 : m3.length = l.length := by rw [hm3.out]
  rw [hml3]
  go_loopw [9, 10] (fun v i wr => ∃ (k : Nat) (m : List UInt8), k ≤ 32 ∧ i = .int .i64 k ∧ v = .bool (decide (wpart x.toNat (8 * l.length) pl k ≠ 0)) ∧ Hid (m.length = l.length) ∧ Hid (leN m = leN l ^^^ (wpart x.toNat (8 * l.length) pl k <<< pl)) ∧ OwnB wr w1.heap.size 5 (some ⟨g3, 0, none⟩) c3 m ∧ Below w1.heap.size w1 wr) (fun v i w => 32 - (intOf i).toNat)
  case atStart => exact ⟨0, m3, by omega, rfl, by simp [wpart, Nat.mod_one], hml3, (show _ = _ from by rw [hm3.out]; simp [wpart, Nat.mod_one]), ho3, hb3⟩
  case round =>
    obtain ⟨k, m, hk, rfl, rfl, hml, hle, hor, hbr⟩ := hrel
    by_cases h32 : k < 32
    · cases hbit : x.toNat.testBit k
      · have hq : bits .and .u32 (HDiv.hDiv (α := Int) (β := Int) (wn x) (HPow.hPow (α := Int) (β := Nat) 2 k)) 1 = 0 := by
          rw [shr_pow, and_one, show (x >>> k).getLsbD 0 = false from by rw [BitVec.getLsbD_ushiftRight, ← BitVec.testBit_toNat]; simpa using hbit]
          rfl
        have hwk : wpart x.toNat (8 * l.length) pl (k + 1) = wpart x.toNat (8 * l.length) pl k := by
          by_cases hin : pl + k < 8 * l.length
          · exact wpart_off hin hbit
          · exact wpart_out (by omega)
        have HWK := Lib.hid hwk
        clear ho3 hb3 hka' hw64 hwk hbit
        generalize wpart x.toNat (8 * l.length) pl k = W at *
        go_wp2_with fail
        go_roundw
        case rel => exact ⟨k + 1, m, h32, by go_num, by rw [HWK.out]; try simp, hml, (show _ = _ from by rw [HWK.out]; exact hle.out), hor, hbr⟩
        case measure => (simp [intOf]; try omega)
      · have hq : bits .and .u32 (HDiv.hDiv (α := Int) (β := Int) (wn x) (HPow.hPow (α := Int) (β := Nat) 2 k)) 1 = 1 := by
          rw [shr_pow, and_one, show (x >>> k).getLsbD 0 = true from by rw [BitVec.getLsbD_ushiftRight, ← BitVec.testBit_toNat]; simpa using hbit]
          rfl
        by_cases hin : pl + k < 8 * l.length
        · have hjm : (pl + k) / 8 < m.length := by rw [hml.out]; omega
          have hset := set_bit hml.out hle.out hjm
          rw [← wpart_on hin hbit] at hset
          have hnz := wpart_on_ne hin hbit
          obtain ⟨ad, hA, hcell⟩ := hor.sl.at1 hjm
          injection hA with hA
          subst hA
          rw [addr_lit, Nat.zero_add] at hcell
          have hii : (pl : Int) + (k : Int) < 8 * (l.length : Int) := by omega
          have hfz := own_frozen hor rfl ((pl + k) / 8)
          have HSET := Lib.hid hset
          have HNZ := Lib.hid hnz
          have ho2 := Lib.hid (own_set (x := m[(pl + k) / 8] ^^^ UInt8.ofNat (2 ^ ((pl + k) % 8))) hor rfl hjm)
          clear ho3 hb3 hka' hw64 hbit hset hnz
          go_wp2_with fail
          go_roundw
          case rel =>
            rw [turn_byte]
            exact ⟨k + 1, _, h32, by go_num, by simp [HNZ.out], (show _ = _ from by rw [List.length_set]; exact hml.out), HSET.out, ho2.out, hbr.setCell (p := ⟨g3, (pl + k) / 8, none⟩) hg3 _⟩
          case measure => (simp [intOf]; try omega)
        · have hwk : wpart x.toNat (8 * l.length) pl (k + 1) = wpart x.toNat (8 * l.length) pl k := wpart_out (by omega)
          have HWK := Lib.hid hwk
          have hii : ¬ ((pl : Int) + (k : Int) < 8 * (l.length : Int)) := by omega
          clear ho3 hb3 hka' hw64 hwk hbit
          generalize wpart x.toNat (8 * l.length) pl k = W at *
          go_wp2_with fail
          go_roundw
          case rel => exact ⟨k + 1, m, h32, by go_num, by rw [HWK.out]; try simp, hml, (show _ = _ from by rw [HWK.out]; exact hle.out), hor, hbr⟩
          case measure => (simp [intOf]; try omega)
    · obtain rfl : k = 32 := by omega
      clear hka' hw64 ho3 hb3
      by_cases hz : wpart x.toNat (8 * l.length) pl 32 = 0
      · have hd : decide (wpart x.toNat (8 * l.length) pl 32 ≠ 0) = false := by simp [hz]
        rw [hd]
        go_wp2_with fail
        go_ret
        exact ⟨rfl, bel_call hb1 hbr⟩
      · have hd : decide (wpart x.toNat (8 * l.length) pl 32 ≠ 0) = true := by simp [hz]
        rw [hd]
        have hsum : sumW m ≠ sumW l := by
          have hW2 : wpart x.toNat (8 * l.length) pl 32 < 2 ^ min 32 (8 * l.length - pl) := Nat.mod_lt _ (Nat.two_pow_pos _)
          refine extW_inj (finds hml.out.symm hle.out (by omega) hz ?_ ?_ _)
          · exact Nat.lt_of_lt_of_le hW2 (Nat.pow_le_pow_right (by decide) (Nat.min_le_left _ _))
          · exact Nat.lt_of_lt_of_le hW2 (Nat.pow_le_pow_right (by decide) (Nat.min_le_right _ _))
        have hop := opened_other hsum
        have HOP := Lib.hid hop
        have hne : (wn (sumW m) != wn (sumW l)) = true := by
          rw [bne_iff_ne]
          intro he
          exact hsum (by apply BitVec.eq_of_toNat_eq; unfold wn at he; omega)
        have HNE := Lib.hid hne
        clear hop hne hsum hle hd hz k3 hx
        have hs3 := hor.sl
        go_wp2_with fail
        refine (New_any _).mono ?_
        rintro e w4 ⟨rfl, hM4, hb4⟩
        have hw4 := bel_call (bel_call hb1 hbr) hb4
        have hgw : w.heap.size ≤ wr.heap.size := Nat.le_trans hb1.size hbr.size
        have hne3 : m ≠ [] → (some (⟨g3, 0, none⟩ : Addr)).map (·.block) ≠ some wr.heap.size := SlB.old hs3 (Nat.le_refl _)
        have hs4 := hs3.below hb4
        generalize wr.heap.size = g at *
        have hS : CSt w g 0 [(A, c, l), (some ⟨g3, 0, none⟩, c3, m)] w4 := by
          refine ⟨.inl hM4, hw4, fun q hq => ?_⟩
          simp only [List.mem_cons, List.not_mem_nil, or_false] at hq
          rcases hq with rfl | rfl
          · exact ⟨ha.below hw4, SlB.old ha hgw⟩
          · exact ⟨hs4, hne3⟩
        go_wp2_with fail
        refine (Sealed_at g 0 A c l _ hS.mkr (by omega) (hS.at (by simp)) (hS.ne (c := c) (by simp)) (by omega)).mono ?_
        rintro e w5 ⟨A5, c5, m5, rfl, hm5, ho5, hM5, hB5⟩
        have hS5 := hS.but hgw hM5 hB5
        have hml5 := Lib.hid (show m5.length = l.length + 4 from by rw [hm5.out, List.length_append, four_len])
        rcases ho5.2 with ⟨_, hn0⟩ | ⟨g5, cap, cur, hv, hg5, hh5, hnc, hcm, hcs, ht⟩
        · have := hml5.out; omega
        injection hv with hA5 _ hc5
        subst hA5
        subst hc5
        have hgl : g < w4.heap.size := hM4.lt
        go_wp2_with ((refine wpList_copy_splice rfl _ _ 40 40 rfl 5 Try.underlying40 (by kernel_rfl) (some ⟨g5, 0, none⟩) (some ⟨g3, 0, none⟩) m5.length c5 l.length c3 rfl rfl g5 0 cur.toList 5 hh5 (bvs m) ?_ ?_ ?_ (one_bvs m) w4.heap.size w5 (Below.refl _ _) hg5 ?_; (rw [show Nat.min l.length m5.length = l.length from Nat.min_eq_left (by have := hml5.out; omega), List.length_map]; exact hml.out); (intro _; refine ⟨rfl, _, rfl, fun j v hj => ?_⟩; obtain ⟨ad, he, hc⟩ := (hS5.at (A := some ⟨g3, 0, none⟩) (c := c3) (l := m) (by simp)).2.2.2.2 j v hj; injection he with he; subst he; exact hc); (have := hml5.out; have := hml.out; simp; omega); intro w6 HG6 hb6))
        have ho6 := own_copy (l := l) (f := four (sumW l)) hg5 HG6.out (by rw [← hm5.out]; exact hnc) hcm (by rw [Array.length_toList]; omega) (by rw [← hm5.out]; simpa using ht) hml.out
        have hS6 : CSt w g 1 [(A, c, l), (some ⟨g3, 0, none⟩, c3, m), (some ⟨g5, 0, none⟩, c5, m ++ four (sumW l))] w6 := by
          have hw5 := hS5.bel
          refine ⟨Mkr.belowB hS5.mkr hgl hb6, ?_, fun q hq => ?_⟩
          · exact hw5.trans (hb6.mono (by have := hw4.size; omega))
          · simp only [List.mem_cons, List.not_mem_nil, or_false] at hq
            rcases hq with rfl | rfl | rfl
            · exact ⟨(ha.below hw4).apartB hB5 hgl hb6 (SlB.old ha hgw), SlB.old ha hgw⟩
            · exact ⟨hs4.apartB hB5 hgl hb6 hne3, hne3⟩
            · exact ⟨ho6.sl, fun _ => Own.ne ho6 hgl⟩
        have hl56 : m5.length = (m ++ four (sumW l)).length := by rw [hml5.out, List.length_append, four_len, hml.out]
        refine (Opened_len g 1 (some ⟨g5, 0, none⟩) c5 m5.length (m ++ four (sumW l)) _ hl56 hS6.mkr (by omega) (hS6.at (by simp)) (hS6.ne (c := c5) (by simp)) (by rw [← hl56, hml5.out]; omega)).mono ?_
        rintro e w7 ⟨A7, c7, m7, he, hm7, ho7, hM7, hB7⟩
        rw [HOP.out] at he hm7
        obtain rfl : m7 = [] := hm7.out
        dsimp only at he
        have hE := isn_any 11 11
        generalize errv 11 = ev at *
        subst he
        have hS7 := hS6.but hgw hM7 hB7
        have HML := Lib.hid hml.out
        have HNE2 := HNE.out
        clear hS6 hS5 hS ho6 hs4 hs3 hb6 HG6 hh5 ht ho5 hcs hcm hnc hM4 hM5 hB5 hM7 hB7 ho7 hor hbr hb4 hw4 hml hml5 hl56 hm5 HOP
        go_wp2_with fail
        refine (Sum_len g 2 (some ⟨g3, 0, none⟩) c3 l.length m _ HML.out.symm hS7.mkr (by omega) (hS7.at (by simp)) (hS7.ne (c := c3) (by simp)) (by rw [HML.out]; omega)).mono ?_
        rintro e w8 ⟨rfl, hM8, hB8⟩
        have hS8 := hS7.but hgw hM8 hB8
        go_wp2_with fail
        refine (Sum_at g 3 A c l _ hS8.mkr (by omega) (hS8.at (by simp)) (hS8.ne (c := c) (by simp)) (by omega)).mono ?_
        rintro e w9 ⟨rfl, hM9, hB9⟩
        have hS9 := hS8.but hgw hM9 hB9
        go_wp2_with fail
        refine (hE _).mono ?_
        rintro e w10 ⟨rfl, rfl⟩
        go_wp2_with fail
        go_ret
        exact ⟨rfl, hS9.bel⟩
theorem finds_early {A : Option Addr} {c : Nat} {l : List UInt8} {a : Int} {x : W32} (w : World) (h : 500 < l.length ∨ l.length = 0 ∨ x = 0#32) :
    Calls Try.prog 8 #[.slice A l.length c, .int .i64 a, wv x] w fun e w' => e = .returned (.bool true) ∧ Below w.heap.size w w' := by
  by_cases h1 : 500 < l.length
  · have h2 : (500 : Int) < (l.length : Int) := by omega
    clear h
    go_enter Try.func8, Try.ntmps8
    go_wp2_with fail
    refine (alive02_any _).mono ?_
    rintro e w1 ⟨rfl, hb1⟩
    go_wp2_with fail
    go_ret
    exact ⟨rfl, hb1⟩
  · have h2 : ¬ ((500 : Int) < (l.length : Int)) := by omega
    by_cases h3 : l.length = 0
    · have h4 : ((l.length : Int) == 0) = true := by rw [beq_iff_eq]; omega
      have hd : decide ((500 : Int) < (l.length : Int)) = false := decide_eq_false h2
      clear h
      generalize l.length = n at *
      subst h3
      go_enter Try.func8, Try.ntmps8
      go_wp2_with fail
      refine (alive02_any _).mono ?_
      rintro e w1 ⟨rfl, hb1⟩
      go_wp2_with fail
      go_ret
      exact ⟨rfl, hb1⟩
    · have h4 : ((l.length : Int) == 0) = false := by rw [beq_eq_false_iff_ne]; omega
      obtain rfl : x = 0#32 := (h.resolve_left h1).resolve_left h3
      have h5 : (wn 0#32 == 0) = true := by decide
      have hd : decide ((500 : Int) < (l.length : Int)) = false := decide_eq_false h2
      clear h
      go_enter Try.func8, Try.ntmps8
      go_wp2_with fail
      refine (alive02_any _).mono ?_
      rintro e w1 ⟨rfl, hb1⟩
      go_wp2_with fail
      go_ret
      exact ⟨rfl, hb1⟩
theorem finds_all {A : Option Addr} {c : Nat} {l : List UInt8} {a : Int} {x : W32} (w : World) (ha : SlB w A c l) (_ : I64 a) :
    Calls Try.prog 8 #[.slice A l.length c, .int .i64 a, wv x] w fun e w' => e = .returned (.bool true) ∧ Below w.heap.size w w' := by
  by_cases h : 500 < l.length ∨ l.length = 0 ∨ x = 0#32
  · exact finds_early w h
  · exact finds_walk w ha (by omega) (by omega) (fun e => h (.inr (.inr e)))
end Go.Proofs.Ytbgcofgckjdoiaa
