/- WHAT IT HOLDS: the law FrameTakes, walked. -/
import Derived.Test.YtbgcofgckjdoiaaFrmZ
namespace Go.Proofs.Ytbgcofgckjdoiaa
open Go.RowKit
attribute [local go_sem ↓] Go.wp_at_zero Go.wp_at_succ

theorem ftake_empty {l : List UInt8} (h : (ftake l).2.2 ≠ 0) : (ftake l).1 = [] := by
  unfold ftake at h ⊢
  split at h
  · rfl
  · rename_i n k hv
    by_cases h1 : 65536 < n
    · rw [if_pos h1]
    · rw [if_neg h1] at h ⊢
      by_cases h2 : l.length < k + n + 4
      · rw [if_pos h2]
      · rw [if_neg h2] at h ⊢
        by_cases h3 : four (sumW (l.take (k + n))) = (l.drop (k + n)).take 4
        · rw [if_pos h3] at h; simp at h
        · rw [if_neg h3]
/-- bytes that can be read, each a place, a capacity, its bytes -/
structure BSt (w : World) (ls : List Pt) (W : World) : Prop where
  bel : Below w.heap.size w W
  sl : ∀ x ∈ ls, SlB W x.1 x.2.1 x.2.2
theorem BSt.at {w W : World} {ls : List Pt} (h : BSt w ls W) {A : Option Addr} {c : Nat} {l : List UInt8} (hm : (A, c, l) ∈ ls) : SlB W A c l := h.sl _ hm
theorem BSt.below {w W W' : World} {ls : List Pt} (h : BSt w ls W) (hb : Below W.heap.size W W') : BSt w ls W' := ⟨bel_call h.bel hb, fun x hx => (h.sl x hx).below hb⟩
theorem BSt.add {w W : World} {ls : List Pt} (h : BSt w ls W) {A : Option Addr} {c : Nat} {l : List UInt8} (hs : SlB W A c l) : BSt w ((A, c, l) :: ls) W := ⟨h.bel, fun x hx => by
  rw [List.mem_cons] at hx
  rcases hx with rfl | hx
  · exact hs
  · exact h.sl x hx⟩

/-- a row of bytes that can be written -/
structure Wri (w : World) (g off : Nat) (m : List UInt8) : Prop where
  blk : ∃ cur, w.heap[g]? = some (.cells cur 5)
  at_ : ∀ j (h : j < m.length), w.cell? ⟨g, off + j, none⟩ = some (bv m[j])
theorem Wri.frozen {w : World} {g off : Nat} {m : List UInt8} (h : Wri w g off m) (i : Nat) : w.frozen? ⟨g, i, none⟩ = false := by
  obtain ⟨cur, hc⟩ := h.blk
  simp [World.frozen?, hc]
theorem Wri.set {w : World} {g off : Nat} {m : List UInt8} (h : Wri w g off m) {k : Nat} (hk : k < m.length) (x : UInt8) : Wri (w.setCell ⟨g, off + k, none⟩ (bv x)) g off (m.set k x) := by
  obtain ⟨cur, hc⟩ := h.blk
  refine ⟨⟨cur.setIfInBounds (off + k) (bv x), by simp [World.setCell, Array.getElem?_modify, hc]⟩, fun j hj => ?_⟩
  have hj2 : j < m.length := by simpa using hj
  have h1 := h.at_ j hj2
  rw [cell_of_row w g _ cur 5 (0, 0) hc] at h1
  rw [cell_of_row _ g _ (cur.setIfInBounds (off + k) (bv x)) 5 (0, 0) (by simp [World.setCell, Array.getElem?_modify, hc])]
  rw [Array.getElem?_setIfInBounds, List.getElem_set]
  by_cases e : k = j
  · subst e
    rw [if_pos rfl, if_pos rfl, if_pos (Array.getElem?_eq_some_iff.1 h1).1]
  · rw [if_neg (by omega), if_neg e]; exact h1
/-- all blocks but those between lo and hi stay -/
structure Beside (lo hi : Nat) (W W' : World) : Prop where
  size : W.heap.size ≤ W'.heap.size
  block : ∀ k, k < W.heap.size → (k < lo ∨ hi ≤ k) → W'.heap[k]? = W.heap[k]?
theorem Beside.refl (lo hi : Nat) (W : World) : Beside lo hi W W := ⟨Nat.le_refl _, fun _ _ _ => rfl⟩
theorem Beside.set {lo hi : Nat} {W W' : World} (h : Beside lo hi W W') {g i : Nat} (h1 : lo ≤ g) (h2 : g < hi) (u : Value) : Beside lo hi W (W'.setCell ⟨g, i, none⟩ u) :=
  ⟨by simpa using h.size, fun k hk hs => (Below.heap_setCell W' ⟨g, i, none⟩ u k (by show k ≠ g; omega)).trans (h.block k hk hs)⟩
theorem Beside.sl {lo hi : Nat} {W W' : World} (h : Beside lo hi W W') {size n c : Nat} {A : Option Addr} {xs : List Value} (hs : Sl W size A n c xs) (hA : xs ≠ [] → ∀ g, A.map (·.block) = some g → g < lo ∨ hi ≤ g) : Sl W' size A n c xs := by
  refine ⟨hs.1, hs.2.1, hs.2.2.1, hs.2.2.2.1, fun j u hj => ?_⟩
  obtain ⟨ad, rfl, hc⟩ := hs.2.2.2.2 j u hj
  have hne : xs ≠ [] := by intro e; rw [e] at hj; simp at hj
  refine ⟨ad, rfl, ?_⟩
  have hlt := World.block_lt_of_cell? W _ hc
  have hb := h.block _ hlt (by rw [addr_add_block]; exact hA hne _ rfl)
  rw [← hc]
  unfold World.cell?
  rw [hb]

theorem meas_one {n k : Nat} (h : k < n) : n - (intOf (.int .i64 ((k : Int) + 1))).toNat < n - (intOf (.int .i64 (k : Int))).toNat := by
  have h1 : (intOf (.int .i64 ((k : Int) + 1))).toNat = k + 1 := by show ((k : Int) + 1).toNat = k + 1; omega
  have h2 : (intOf (.int .i64 (k : Int))).toNat = k := by show (k : Int).toNat = k; omega
  rw [h1, h2]
  omega
theorem val_one (k : Nat) : Value.int .i64 ((k : Int) + 1) = .int .i64 ((k + 1 : Nat) : Int) := rfl

set_option maxRecDepth 100000 in
set_option maxHeartbeats 4000000 in
theorem ftakes_walk {A : Option Addr} {c : Nat} {l : List UInt8} (w : World) (ha : SlB w A c l) (h1 : l.length ≤ 1000) :
    Calls Try.prog 13 #[.slice A l.length c] w fun e w' => e = .returned (.bool true) ∧ Below w.heap.size w w' := by
  have k1 : ¬ (1000 < (l.length : Int)) := by omega
  go_enter Try.func13, Try.ntmps13
  go_wp2_with fail
  refine (alive04_any _).mono ?_
  rintro e w1 ⟨rfl, hb1⟩
  go_wp2_with (at_builtin; go_must (refine wpl_fresh 40 5 Try.underlying40 u8_info rfl _ _ rfl rfl A c l rfl (ha.below hb1) (by omega) ?_; intro A2 c2 m2 w2 hm2 ho2 hb2))
  obtain rfl : m2 = l := hm2.out
  have hw2 := bel_call hb1 hb2
  have hS : BSt w [(A2, c2, m2), (A, c, m2)] w2 := ⟨hw2, fun x hx => by
    simp only [List.mem_cons, List.not_mem_nil, or_false] at hx
    rcases hx with rfl | rfl
    · exact ho2.sl
    · exact ha.below hw2⟩
  have hown : ∀ g, A2.map (·.block) = some g → g < w2.heap.size := fun g hg => (ho2.lt g hg).2
  have hgW : w.heap.size ≤ w2.heap.size := hw2.size
  clear ho2 hb1 hb2 hw2
  refine (FTake_any A2 c2 m2 _ (hS.at (by simp)) (by omega)).mono ?_
  rintro e w3 ⟨A3, c3, m3, rfl, hm3, ho3, hb3⟩
  have hS := (hS.below hb3).add ho3.1
  have ht3 := ho3.2
  clear ho3
  go_wp2_with fail
  refine (rFTake_any A c m2 _ (hS.at (by simp)) (by omega)).mono ?_
  rintro e w4 ⟨A4, c4, m4, rfl, hm4, hs4, hb4, hold4⟩
  have hS := (hS.below hb4).add hs4
  have hq34 : (m3 == m4) = true := by rw [hm3.out, hm4.out]; simp
  have HQ := Lib.hid hq34
  clear hq34 hs4 hold4
  have hN := num_any (ftake m2).2.2
  have hone : (fone m2).1 = (if (ftake m2).2.2 = 0 ∧ (ftake m2).2.1 < m2.length then [] else (ftake m2).1) ∧ (fone m2).2 = (if (ftake m2).2.2 = 0 ∧ (ftake m2).2.1 < m2.length then 2 else (ftake m2).2.2) := by
    unfold fone
    by_cases h0 : (ftake m2).2.2 = 0
    · rw [if_neg (by omega)]
      by_cases h2 : (ftake m2).2.1 < m2.length
      · rw [if_pos h2, if_pos ⟨h0, h2⟩, if_pos ⟨h0, h2⟩]; exact ⟨rfl, rfl⟩
      · rw [if_neg h2, if_neg (by omega), if_neg (by omega)]; exact ⟨rfl, h0.symm⟩
    · rw [if_pos h0, if_neg (by omega), if_neg (by omega), ftake_empty h0]; exact ⟨rfl, rfl⟩
  have HONE := Lib.hid hone
  clear hone
  go_wp2_with fail
  refine (nBytes_any A3 A4 c3 c4 m3 m4 _ (hS.at (by simp)) (hS.at (by simp))).mono ?_
  rintro e w5 ⟨rfl, rfl⟩
  rw [HQ.out]
  clear HQ
  have hql : (ftake m2).2.2 = 0 → (ftake m2).2.1 ≤ m2.length := fun h => (ftake_ok h).2
  generalize (ftake m2).2.1 = q at *
  generalize (ftake m2).2.2 = z at *
  go_wp2_with fail
  refine (hN _).mono ?_
  rintro e w6 ⟨rfl, rfl⟩
  go_wp2_with fail
  refine (FOne_any A2 c2 m2 _ (hS.at (by simp)) (by omega)).mono ?_
  rintro e w7 ⟨A7, c7, m7, rfl, hm7, hs7, hb7⟩
  have hS7 := (hS.below hb7).add hs7
  clear hS hs7
  obtain ⟨o1, o2⟩ := HONE.out
  have hm7' : m7 = _ := hm7.out.trans o1
  rw [o2]
  clear HONE o1 o2 hm7
  by_cases hB : z = 0 ∧ q < m2.length
  · rw [if_pos hB] at hm7' ⊢
    subst hm7'
    obtain ⟨hz, hlt⟩ := hB
    subst hz
    have hlt2 : ((q : Int) < (m2.length : Int)) := by omega
    have hN2 := num_any 2
    generalize errv 2 = ev at *
    clear hN
    go_wp2_with fail
    refine (nBytes_any A7 none c7 0 [] [] _ (hS7.at (by simp)) (Sl.none_ _ _)).mono ?_
    rintro e w8 ⟨rfl, rfl⟩
    rw [show (([] : List UInt8) == []) = true from rfl]
    go_wp2_with fail
    refine (hN2 _).mono ?_
    rintro e w9 ⟨rfl, rfl⟩
    clear hN2
    go_wp2_with fail
    refine (FPrefix_any A2 c2 m2 _ (hS7.at (by simp)) (by omega)).mono ?_
    rintro e w10 ⟨A10, c10, p10, rfl, hm10, hs10, ht10, hf10, hb10⟩
    have hS10 := hS7.below hb10
    go_wp2_with fail
    refine (FAll_any A2 c2 m2 _ (hS10.at (by simp)) (by omega)).mono ?_
    rintro e w11 ⟨A11, c11, p11, rfl, hm11, hs11, ht11, hf11, hb11⟩
    have hS11 := hS10.below hb11
    go_wp2_with fail
    refine (rPrefix_any A c m2 _ (hS11.at (by simp)) (by omega)).mono ?_
    rintro e w12 ⟨A12, c12, p12, rfl, hm12, hs12, ht12, hf12, hb12⟩
    have hS12 := hS11.below hb12
    have hb1012 : Below w10.heap.size w10 w12 := bel_call hb11 hb12
    have hd12 := Lib.hid (show decide (ptx p10 = ptx p12) = true from decide_eq_true (by rw [hm10.out, hm12.out]))
    go_wp2_with fail
    refine (lists_any A10 c10 p10 A12 c12 p12 _ (hs10.below hb1012) (fun x hx => (ht10 x hx).1.below hb1012) hs12 (fun x hx => (ht12 x hx).1)).mono ?_
    rintro e w13 ⟨rfl, hb13⟩
    rw [hd12.out]
    have hS13 := hS12.below hb13
    have hg1 : w2.heap.size ≤ w3.heap.size := hb3.size
    have hg2 : w3.heap.size ≤ w10.heap.size := Nat.le_trans hb4.size (Nat.le_trans hb7.size hb10.size)
    have hg3 : w10.heap.size ≤ w11.heap.size := hb11.size
    have hall : Hid (fbad m2 = 0 → ptx p11 = ptx p12) := (show _ → _ from fun h0 => by
      rw [hm11.out, hm12.out, fall]
      by_cases h : (fpre m2).2 = m2.length
      · rw [if_pos h]
      · exact absurd h0 (fbad_ne h).2)
    have hnil : Hid (m2 = [] → p12 = []) := (show _ → _ from fun h0 => by
      have h2 := hm12.out
      rw [h0, fpre_bad (fun h => by have := ftake_ok h; simp at this; omega), ptx, List.map_eq_nil_iff] at h2
      exact h2)
    have hnon : Hid (fbad m2 ≠ 0 → p11.length = 0) := (show _ → _ from fun h0 => by
      have h : ¬ (fpre m2).2 = m2.length := fun h => h0 (by unfold fbad; rw [if_pos h])
      have h2 := hm11.out
      rw [fall, if_neg h, ptx, List.map_eq_nil_iff] at h2
      rw [h2]; rfl)
    have hw13 : Below w.heap.size w w13 := hS13.bel
    have hm3L := Lib.hid (hS13.at (A := A3) (c := c3) (l := m3) (by simp)).len_le
    have b1213 : Below w11.heap.size w11 w13 := bel_call hb12 hb13
    have own13 := hS13.at (A := A2) (c := c2) (l := m2) (by simp)
    have a13 : SlB w13 A c m2 := hS13.at (by simp)
    have hst3 : Hid (m3 ≠ [] → ∃ g off, A3 = some ⟨g, off, none⟩ ∧ w2.heap.size ≤ g ∧ g < w3.heap.size ∧ Wri w13 g off m3) := (show _ → _ from fun hne => by
      obtain ⟨g, off, cur, hA3, hg, hcu⟩ := ht3 hne
      have hb313 : Below w3.heap.size w3 w13 := bel_call (bel_call (bel_call hb4 hb7) (bel_call hb10 hb11)) (bel_call hb12 hb13)
      have hgl : g < w3.heap.size := (Array.getElem?_eq_some_iff.1 hcu).1
      refine ⟨g, off, hA3, hg, hgl, ⟨cur, (hb313.block g hgl).trans hcu⟩, fun j hj => ?_⟩
      obtain ⟨ad, had, hc⟩ := Sl.at1 (f := bv) (hS13.at (A := A3) (c := c3) (l := m3) (by simp)) hj
      rw [hA3] at had
      injection had with had
      subst had
      rw [addr_lit] at hc
      exact hc)
    have r11 := hs11.below b1213
    have r12 := hs12.below hb13
    have x11 := Lib.hid (fun (x : Pt) (hx : x ∈ p11) => ((ht11 x hx).1.below b1213))
    have x11f := Lib.hid (fun (x : Pt) (hx : x ∈ p11) => (ht11 x hx).2)
    have x12 := Lib.hid (fun (x : Pt) (hx : x ∈ p12) => (ht12 x hx).1.below hb13)
    have x12f := Lib.hid (fun (x : Pt) (hx : x ∈ p12) => (ht12 x hx).2)
    have hAlt : Hid (m2 ≠ [] → ∀ g, A.map (·.block) = some g → g < w.heap.size) := (show _ → _ from fun hne => Sl.lt0 ha (by simpa using hne))
    have HOWN := Lib.hid hown
    have HAE := Lib.hid ha.2.2.2.1
    have hNF := num_any (fbad m2)
    generalize errv (fbad m2) = ef at *
    generalize (fpre m2).2 = qf at *
    generalize fbad m2 = nb at *
    clear ht11 ht12 hd12 hm10 hm11 hm12 hs10 ht10 hf10 hS7 hS10 hS11 hS12 hS13 ht3 hs11 hs12 hb1012 hown
    go_wp2_with fail
    refine (hNF _).mono ?_
    rintro e w14 ⟨rfl, rfl⟩
    clear hNF
    go_wp2_with fail
    go_loopw [108] (fun i wr => ∃ (k : Nat) (m' : List UInt8), k ≤ m3.length ∧ i = .int .i64 k ∧ Hid (m'.length = m3.length) ∧ Hid (m3 ≠ [] → ∃ g off, A3 = some ⟨g, off, none⟩ ∧ w2.heap.size ≤ g ∧ g < w3.heap.size ∧ Wri wr g off m') ∧ Beside w2.heap.size w3.heap.size w13 wr ∧ Below w.heap.size w wr) (fun i w => m3.length - (intOf i).toNat)
    case atStart => exact ⟨0, m3, Nat.zero_le _, rfl, rfl, hst3, Beside.refl _ _ _, hw13⟩
    case round =>
      obtain ⟨k, m', hk, rfl, hml, hwr, hbs, hbr⟩ := hrel
      by_cases hlt : k < m3.length
      · obtain ⟨g, off, rfl, hg1', hg2', hW⟩ := hwr.out (by intro e; rw [e] at hlt; simp at hlt)
        have hwk : wrap64 ((k : Int) + 1) = (k : Int) + 1 := by have := hm3L.out; unfold maxLen at this; simp only [wrap64]; omega
        have hk' : k < m'.length := by rw [hml.out]; exact hlt
        have hc := hW.at_ k hk'
        have hfz := hW.frozen (off + k)
        have hset := Lib.hid (hW.set hk' (m'[k] ^^^ 1))
        have hbs' := hbs.set (i := off + k) hg1' hg2' (bv (m'[k] ^^^ 1))
        have hbr' : Below w.heap.size w (wr.setCell ⟨g, off + k, none⟩ (bv (m'[k] ^^^ 1))) := bel_set hbr (by show w.heap.size ≤ g; omega) _
        have hx1 := Lib.hid (show bits .xor .u8 (m'[k].toNat : Int) 1 = ((m'[k] ^^^ 1).toNat : Int) from by
          rw [show (1 : Int) = ((1 : UInt8).toNat : Int) from rfl, xor_u8 m'[k].toNat_lt (1 : UInt8).toNat_lt, UInt8.toNat_xor])
        generalize m'[k] = b0 at *
        clear hW hwr
        go_wp2_with fail
        rw [hx1.out, hwk]
        go_roundw
        case rel => exact ⟨k + 1, m'.set k (b0 ^^^ 1), hlt, val_one k, (show _ = _ from by rw [List.length_set]; exact hml.out), (show _ → _ from fun _ => ⟨g, off, rfl, hg1', hg2', hset.out⟩), hbs', hbr'⟩
        case measure => exact meas_one hlt
      · obtain rfl : k = m3.length := by omega
        have ownR : SlB wr A2 c2 m2 := hbs.sl own13 (fun _ g hg => .inl (HOWN.out g hg))
        have aR : SlB wr A c m2 := hbs.sl a13 (fun hne g hg => .inl (by have := hAlt.out (by simpa using hne) g hg; omega))
        have r11R : SlT wr A11 c11 p11 := hbs.sl r11 (fun _ g hg => .inr (by have := hf11 g hg; omega))
        have r12R : SlT wr A12 c12 p12 := hbs.sl r12 (fun _ g hg => .inr (by have := hf12 g hg; omega))
        have x11R : ∀ x ∈ p11, SlB wr x.1 x.2.1 x.2.2 := fun x hx => hbs.sl (x11.out x hx) (fun hne g hg => .inr (by have := x11f.out x hx (by simpa using hne) g hg; omega))
        have x12R : ∀ x ∈ p12, SlB wr x.1 x.2.1 x.2.2 := fun x hx => hbs.sl (x12.out x hx) (fun hne g hg => by
          rw [x12f.out x hx (by simpa using hne)] at hg
          by_cases h : m2 = []
          · rw [hnil.out h] at hx; simp at hx
          · left; have := hAlt.out h g hg; omega)
        have X11 := Lib.hid x11R
        have X12 := Lib.hid x12R
        clear x11R x12R x11 x12 x11f x12f hAlt HOWN hnil own13 a13 r11 r12 hwr hst3 hml hm2
        by_cases hnb : nb = 0
        · have hdl := Lib.hid (show decide (ptx p11 = ptx p12) = true from decide_eq_true (hall.out hnb))
          subst hnb
          clear hall hnon
          go_wp2_with fail
          refine (lists_any A11 c11 p11 A12 c12 p12 _ r11R X11.out r12R X12.out).mono ?_
          rintro e w15 ⟨rfl, hb15⟩
          rw [hdl.out]
          go_wp2_with fail
          refine (nBytes_any A2 A c2 c m2 m2 _ (ownR.below hb15) (aR.below hb15)).mono ?_
          rintro e w16 ⟨rfl, rfl⟩
          rw [show (m2 == m2) = true from by simp]
          go_wp2_with fail
          go_ret
          exact ⟨rfl, bel_call hbr hb15⟩
        · have hl0 := hnon.out hnb
          have hnbi : ((nb : Int) != 0) = true := by rw [bne_iff_ne]; omega
          have hnbi2 : ((nb : Int) == 0) = false := by rw [beq_eq_false_iff_ne]; omega
          have hl0i : ((p11.length : Int) == 0) = true := by rw [hl0]; rfl
          clear hall hnon hnb hl0 r11R
          go_wp2_with fail
          refine (nBytes_any A2 A c2 c m2 m2 _ ownR aR).mono ?_
          rintro e w16 ⟨rfl, rfl⟩
          rw [show (m2 == m2) = true from by simp]
          go_wp2_with fail
          go_ret
          exact ⟨rfl, hbr⟩
  · rw [if_neg hB] at hm7' ⊢
    have hm4' : m4 = (ftake m2).1 := hm4.out
    have hQ2 := Lib.hid (show (m7 == m4) = true from by rw [hm7', hm4']; simp)
    clear hm7' hm4'
    by_cases hz : z = 0
    · subst hz
      have hlt2 : ¬ ((q : Int) < (m2.length : Int)) := by omega
      have hd : decide ((q : Int) < (m2.length : Int)) = false := decide_eq_false hlt2
      clear hB
      generalize errv 0 = ev at *
      go_wp2_with fail
      refine (nBytes_any A7 A4 c7 c4 m7 m4 _ (hS7.at (by simp)) (hS7.at (by simp))).mono ?_
      rintro e w8 ⟨rfl, rfl⟩
      rw [hQ2.out]
      go_wp2_with fail
      refine (hN _).mono ?_
      rintro e w9 ⟨rfl, rfl⟩
      clear hN
      go_wp2_with fail
      refine (FPrefix_any A2 c2 m2 _ (hS7.at (by simp)) (by omega)).mono ?_
      rintro e w10 ⟨A10, c10, p10, rfl, hm10, hs10, ht10, hf10, hb10⟩
      have hS10 := hS7.below hb10
      go_wp2_with fail
      refine (FAll_any A2 c2 m2 _ (hS10.at (by simp)) (by omega)).mono ?_
      rintro e w11 ⟨A11, c11, p11, rfl, hm11, hs11, ht11, hf11, hb11⟩
      have hS11 := hS10.below hb11
      go_wp2_with fail
      refine (rPrefix_any A c m2 _ (hS11.at (by simp)) (by omega)).mono ?_
      rintro e w12 ⟨A12, c12, p12, rfl, hm12, hs12, ht12, hf12, hb12⟩
      have hS12 := hS11.below hb12
      have hb1012 : Below w10.heap.size w10 w12 := bel_call hb11 hb12
      have hd12 := Lib.hid (show decide (ptx p10 = ptx p12) = true from decide_eq_true (by rw [hm10.out, hm12.out]))
      go_wp2_with fail
      refine (lists_any A10 c10 p10 A12 c12 p12 _ (hs10.below hb1012) (fun x hx => (ht10 x hx).1.below hb1012) hs12 (fun x hx => (ht12 x hx).1)).mono ?_
      rintro e w13 ⟨rfl, hb13⟩
      rw [hd12.out]
      have hS13 := hS12.below hb13
      have hg1 : w2.heap.size ≤ w3.heap.size := hb3.size
      have hg2 : w3.heap.size ≤ w10.heap.size := Nat.le_trans hb4.size (Nat.le_trans hb7.size hb10.size)
      have hg3 : w10.heap.size ≤ w11.heap.size := hb11.size
      have hall : Hid (fbad m2 = 0 → ptx p11 = ptx p12) := (show _ → _ from fun h0 => by
        rw [hm11.out, hm12.out, fall]
        by_cases h : (fpre m2).2 = m2.length
        · rw [if_pos h]
        · exact absurd h0 (fbad_ne h).2)
      have hnil : Hid (m2 = [] → p12 = []) := (show _ → _ from fun h0 => by
        have h2 := hm12.out
        rw [h0, fpre_bad (fun h => by have := ftake_ok h; simp at this; omega), ptx, List.map_eq_nil_iff] at h2
        exact h2)
      have hnon : Hid (fbad m2 ≠ 0 → p11.length = 0) := (show _ → _ from fun h0 => by
        have h : ¬ (fpre m2).2 = m2.length := fun h => h0 (by unfold fbad; rw [if_pos h])
        have h2 := hm11.out
        rw [fall, if_neg h, ptx, List.map_eq_nil_iff] at h2
        rw [h2]; rfl)
      have hw13 : Below w.heap.size w w13 := hS13.bel
      have hm3L := Lib.hid (hS13.at (A := A3) (c := c3) (l := m3) (by simp)).len_le
      have b1213 : Below w11.heap.size w11 w13 := bel_call hb12 hb13
      have own13 := hS13.at (A := A2) (c := c2) (l := m2) (by simp)
      have a13 : SlB w13 A c m2 := hS13.at (by simp)
      have hst3 : Hid (m3 ≠ [] → ∃ g off, A3 = some ⟨g, off, none⟩ ∧ w2.heap.size ≤ g ∧ g < w3.heap.size ∧ Wri w13 g off m3) := (show _ → _ from fun hne => by
        obtain ⟨g, off, cur, hA3, hg, hcu⟩ := ht3 hne
        have hb313 : Below w3.heap.size w3 w13 := bel_call (bel_call (bel_call hb4 hb7) (bel_call hb10 hb11)) (bel_call hb12 hb13)
        have hgl : g < w3.heap.size := (Array.getElem?_eq_some_iff.1 hcu).1
        refine ⟨g, off, hA3, hg, hgl, ⟨cur, (hb313.block g hgl).trans hcu⟩, fun j hj => ?_⟩
        obtain ⟨ad, had, hc⟩ := Sl.at1 (f := bv) (hS13.at (A := A3) (c := c3) (l := m3) (by simp)) hj
        rw [hA3] at had
        injection had with had
        subst had
        rw [addr_lit] at hc
        exact hc)
      have r11 := hs11.below b1213
      have r12 := hs12.below hb13
      have x11 := Lib.hid (fun (x : Pt) (hx : x ∈ p11) => ((ht11 x hx).1.below b1213))
      have x11f := Lib.hid (fun (x : Pt) (hx : x ∈ p11) => (ht11 x hx).2)
      have x12 := Lib.hid (fun (x : Pt) (hx : x ∈ p12) => (ht12 x hx).1.below hb13)
      have x12f := Lib.hid (fun (x : Pt) (hx : x ∈ p12) => (ht12 x hx).2)
      have hAlt : Hid (m2 ≠ [] → ∀ g, A.map (·.block) = some g → g < w.heap.size) := (show _ → _ from fun hne => Sl.lt0 ha (by simpa using hne))
      have HOWN := Lib.hid hown
      have HAE := Lib.hid ha.2.2.2.1
      have hNF := num_any (fbad m2)
      generalize errv (fbad m2) = ef at *
      generalize (fpre m2).2 = qf at *
      generalize fbad m2 = nb at *
      clear ht11 ht12 hd12 hm10 hm11 hm12 hs10 ht10 hf10 hS7 hS10 hS11 hS12 hS13 ht3 hs11 hs12 hb1012 hown
      go_wp2_with fail
      refine (hNF _).mono ?_
      rintro e w14 ⟨rfl, rfl⟩
      clear hNF
      go_wp2_with fail
      go_loopw [108] (fun i wr => ∃ (k : Nat) (m' : List UInt8), k ≤ m3.length ∧ i = .int .i64 k ∧ Hid (m'.length = m3.length) ∧ Hid (m3 ≠ [] → ∃ g off, A3 = some ⟨g, off, none⟩ ∧ w2.heap.size ≤ g ∧ g < w3.heap.size ∧ Wri wr g off m') ∧ Beside w2.heap.size w3.heap.size w13 wr ∧ Below w.heap.size w wr) (fun i w => m3.length - (intOf i).toNat)
      case atStart => exact ⟨0, m3, Nat.zero_le _, rfl, rfl, hst3, Beside.refl _ _ _, hw13⟩
      case round =>
        obtain ⟨k, m', hk, rfl, hml, hwr, hbs, hbr⟩ := hrel
        by_cases hlt : k < m3.length
        · obtain ⟨g, off, rfl, hg1', hg2', hW⟩ := hwr.out (by intro e; rw [e] at hlt; simp at hlt)
          have hwk : wrap64 ((k : Int) + 1) = (k : Int) + 1 := by have := hm3L.out; unfold maxLen at this; simp only [wrap64]; omega
          have hk' : k < m'.length := by rw [hml.out]; exact hlt
          have hc := hW.at_ k hk'
          have hfz := hW.frozen (off + k)
          have hset := Lib.hid (hW.set hk' (m'[k] ^^^ 1))
          have hbs' := hbs.set (i := off + k) hg1' hg2' (bv (m'[k] ^^^ 1))
          have hbr' : Below w.heap.size w (wr.setCell ⟨g, off + k, none⟩ (bv (m'[k] ^^^ 1))) := bel_set hbr (by show w.heap.size ≤ g; omega) _
          have hx1 := Lib.hid (show bits .xor .u8 (m'[k].toNat : Int) 1 = ((m'[k] ^^^ 1).toNat : Int) from by
            rw [show (1 : Int) = ((1 : UInt8).toNat : Int) from rfl, xor_u8 m'[k].toNat_lt (1 : UInt8).toNat_lt, UInt8.toNat_xor])
          generalize m'[k] = b0 at *
          clear hW hwr
          go_wp2_with fail
          rw [hx1.out, hwk]
          go_roundw
          case rel => exact ⟨k + 1, m'.set k (b0 ^^^ 1), hlt, val_one k, (show _ = _ from by rw [List.length_set]; exact hml.out), (show _ → _ from fun _ => ⟨g, off, rfl, hg1', hg2', hset.out⟩), hbs', hbr'⟩
          case measure => exact meas_one hlt
        · obtain rfl : k = m3.length := by omega
          have ownR : SlB wr A2 c2 m2 := hbs.sl own13 (fun _ g hg => .inl (HOWN.out g hg))
          have aR : SlB wr A c m2 := hbs.sl a13 (fun hne g hg => .inl (by have := hAlt.out (by simpa using hne) g hg; omega))
          have r11R : SlT wr A11 c11 p11 := hbs.sl r11 (fun _ g hg => .inr (by have := hf11 g hg; omega))
          have r12R : SlT wr A12 c12 p12 := hbs.sl r12 (fun _ g hg => .inr (by have := hf12 g hg; omega))
          have x11R : ∀ x ∈ p11, SlB wr x.1 x.2.1 x.2.2 := fun x hx => hbs.sl (x11.out x hx) (fun hne g hg => .inr (by have := x11f.out x hx (by simpa using hne) g hg; omega))
          have x12R : ∀ x ∈ p12, SlB wr x.1 x.2.1 x.2.2 := fun x hx => hbs.sl (x12.out x hx) (fun hne g hg => by
            rw [x12f.out x hx (by simpa using hne)] at hg
            by_cases h : m2 = []
            · rw [hnil.out h] at hx; simp at hx
            · left; have := hAlt.out h g hg; omega)
          have X11 := Lib.hid x11R
          have X12 := Lib.hid x12R
          clear x11R x12R x11 x12 x11f x12f hAlt HOWN hnil own13 a13 r11 r12 hwr hst3 hml hm2
          by_cases hnb : nb = 0
          · have hdl := Lib.hid (show decide (ptx p11 = ptx p12) = true from decide_eq_true (hall.out hnb))
            subst hnb
            clear hall hnon
            go_wp2_with fail
            refine (lists_any A11 c11 p11 A12 c12 p12 _ r11R X11.out r12R X12.out).mono ?_
            rintro e w15 ⟨rfl, hb15⟩
            rw [hdl.out]
            go_wp2_with fail
            refine (nBytes_any A2 A c2 c m2 m2 _ (ownR.below hb15) (aR.below hb15)).mono ?_
            rintro e w16 ⟨rfl, rfl⟩
            rw [show (m2 == m2) = true from by simp]
            go_wp2_with fail
            go_ret
            exact ⟨rfl, bel_call hbr hb15⟩
          · have hl0 := hnon.out hnb
            have hnbi : ((nb : Int) != 0) = true := by rw [bne_iff_ne]; omega
            have hnbi2 : ((nb : Int) == 0) = false := by rw [beq_eq_false_iff_ne]; omega
            have hl0i : ((p11.length : Int) == 0) = true := by rw [hl0]; rfl
            clear hall hnon hnb hl0 r11R
            go_wp2_with fail
            refine (nBytes_any A2 A c2 c m2 m2 _ ownR aR).mono ?_
            rintro e w16 ⟨rfl, rfl⟩
            rw [show (m2 == m2) = true from by simp]
            go_wp2_with fail
            go_ret
            exact ⟨rfl, hbr⟩
    · have hzi : ((z : Int) == 0) = false := by rw [beq_eq_false_iff_ne]; omega
      clear hB hz
      generalize errv z = ev at *
      go_wp2_with fail
      refine (nBytes_any A7 A4 c7 c4 m7 m4 _ (hS7.at (by simp)) (hS7.at (by simp))).mono ?_
      rintro e w8 ⟨rfl, rfl⟩
      rw [hQ2.out]
      go_wp2_with fail
      refine (hN _).mono ?_
      rintro e w9 ⟨rfl, rfl⟩
      clear hN
      go_wp2_with fail
      refine (FPrefix_any A2 c2 m2 _ (hS7.at (by simp)) (by omega)).mono ?_
      rintro e w10 ⟨A10, c10, p10, rfl, hm10, hs10, ht10, hf10, hb10⟩
      have hS10 := hS7.below hb10
      go_wp2_with fail
      refine (FAll_any A2 c2 m2 _ (hS10.at (by simp)) (by omega)).mono ?_
      rintro e w11 ⟨A11, c11, p11, rfl, hm11, hs11, ht11, hf11, hb11⟩
      have hS11 := hS10.below hb11
      go_wp2_with fail
      refine (rPrefix_any A c m2 _ (hS11.at (by simp)) (by omega)).mono ?_
      rintro e w12 ⟨A12, c12, p12, rfl, hm12, hs12, ht12, hf12, hb12⟩
      have hS12 := hS11.below hb12
      have hb1012 : Below w10.heap.size w10 w12 := bel_call hb11 hb12
      have hd12 := Lib.hid (show decide (ptx p10 = ptx p12) = true from decide_eq_true (by rw [hm10.out, hm12.out]))
      go_wp2_with fail
      refine (lists_any A10 c10 p10 A12 c12 p12 _ (hs10.below hb1012) (fun x hx => (ht10 x hx).1.below hb1012) hs12 (fun x hx => (ht12 x hx).1)).mono ?_
      rintro e w13 ⟨rfl, hb13⟩
      rw [hd12.out]
      have hS13 := hS12.below hb13
      have hg1 : w2.heap.size ≤ w3.heap.size := hb3.size
      have hg2 : w3.heap.size ≤ w10.heap.size := Nat.le_trans hb4.size (Nat.le_trans hb7.size hb10.size)
      have hg3 : w10.heap.size ≤ w11.heap.size := hb11.size
      have hall : Hid (fbad m2 = 0 → ptx p11 = ptx p12) := (show _ → _ from fun h0 => by
        rw [hm11.out, hm12.out, fall]
        by_cases h : (fpre m2).2 = m2.length
        · rw [if_pos h]
        · exact absurd h0 (fbad_ne h).2)
      have hnil : Hid (m2 = [] → p12 = []) := (show _ → _ from fun h0 => by
        have h2 := hm12.out
        rw [h0, fpre_bad (fun h => by have := ftake_ok h; simp at this; omega), ptx, List.map_eq_nil_iff] at h2
        exact h2)
      have hnon : Hid (fbad m2 ≠ 0 → p11.length = 0) := (show _ → _ from fun h0 => by
        have h : ¬ (fpre m2).2 = m2.length := fun h => h0 (by unfold fbad; rw [if_pos h])
        have h2 := hm11.out
        rw [fall, if_neg h, ptx, List.map_eq_nil_iff] at h2
        rw [h2]; rfl)
      have hw13 : Below w.heap.size w w13 := hS13.bel
      have hm3L := Lib.hid (hS13.at (A := A3) (c := c3) (l := m3) (by simp)).len_le
      have b1213 : Below w11.heap.size w11 w13 := bel_call hb12 hb13
      have own13 := hS13.at (A := A2) (c := c2) (l := m2) (by simp)
      have a13 : SlB w13 A c m2 := hS13.at (by simp)
      have hst3 : Hid (m3 ≠ [] → ∃ g off, A3 = some ⟨g, off, none⟩ ∧ w2.heap.size ≤ g ∧ g < w3.heap.size ∧ Wri w13 g off m3) := (show _ → _ from fun hne => by
        obtain ⟨g, off, cur, hA3, hg, hcu⟩ := ht3 hne
        have hb313 : Below w3.heap.size w3 w13 := bel_call (bel_call (bel_call hb4 hb7) (bel_call hb10 hb11)) (bel_call hb12 hb13)
        have hgl : g < w3.heap.size := (Array.getElem?_eq_some_iff.1 hcu).1
        refine ⟨g, off, hA3, hg, hgl, ⟨cur, (hb313.block g hgl).trans hcu⟩, fun j hj => ?_⟩
        obtain ⟨ad, had, hc⟩ := Sl.at1 (f := bv) (hS13.at (A := A3) (c := c3) (l := m3) (by simp)) hj
        rw [hA3] at had
        injection had with had
        subst had
        rw [addr_lit] at hc
        exact hc)
      have r11 := hs11.below b1213
      have r12 := hs12.below hb13
      have x11 := Lib.hid (fun (x : Pt) (hx : x ∈ p11) => ((ht11 x hx).1.below b1213))
      have x11f := Lib.hid (fun (x : Pt) (hx : x ∈ p11) => (ht11 x hx).2)
      have x12 := Lib.hid (fun (x : Pt) (hx : x ∈ p12) => (ht12 x hx).1.below hb13)
      have x12f := Lib.hid (fun (x : Pt) (hx : x ∈ p12) => (ht12 x hx).2)
      have hAlt : Hid (m2 ≠ [] → ∀ g, A.map (·.block) = some g → g < w.heap.size) := (show _ → _ from fun hne => Sl.lt0 ha (by simpa using hne))
      have HOWN := Lib.hid hown
      have HAE := Lib.hid ha.2.2.2.1
      have hNF := num_any (fbad m2)
      generalize errv (fbad m2) = ef at *
      generalize (fpre m2).2 = qf at *
      generalize fbad m2 = nb at *
      clear ht11 ht12 hd12 hm10 hm11 hm12 hs10 ht10 hf10 hS7 hS10 hS11 hS12 hS13 ht3 hs11 hs12 hb1012 hown
      go_wp2_with fail
      refine (hNF _).mono ?_
      rintro e w14 ⟨rfl, rfl⟩
      clear hNF
      go_wp2_with fail
      go_loopw [108] (fun i wr => ∃ (k : Nat) (m' : List UInt8), k ≤ m3.length ∧ i = .int .i64 k ∧ Hid (m'.length = m3.length) ∧ Hid (m3 ≠ [] → ∃ g off, A3 = some ⟨g, off, none⟩ ∧ w2.heap.size ≤ g ∧ g < w3.heap.size ∧ Wri wr g off m') ∧ Beside w2.heap.size w3.heap.size w13 wr ∧ Below w.heap.size w wr) (fun i w => m3.length - (intOf i).toNat)
      case atStart => exact ⟨0, m3, Nat.zero_le _, rfl, rfl, hst3, Beside.refl _ _ _, hw13⟩
      case round =>
        obtain ⟨k, m', hk, rfl, hml, hwr, hbs, hbr⟩ := hrel
        by_cases hlt : k < m3.length
        · obtain ⟨g, off, rfl, hg1', hg2', hW⟩ := hwr.out (by intro e; rw [e] at hlt; simp at hlt)
          have hwk : wrap64 ((k : Int) + 1) = (k : Int) + 1 := by have := hm3L.out; unfold maxLen at this; simp only [wrap64]; omega
          have hk' : k < m'.length := by rw [hml.out]; exact hlt
          have hc := hW.at_ k hk'
          have hfz := hW.frozen (off + k)
          have hset := Lib.hid (hW.set hk' (m'[k] ^^^ 1))
          have hbs' := hbs.set (i := off + k) hg1' hg2' (bv (m'[k] ^^^ 1))
          have hbr' : Below w.heap.size w (wr.setCell ⟨g, off + k, none⟩ (bv (m'[k] ^^^ 1))) := bel_set hbr (by show w.heap.size ≤ g; omega) _
          have hx1 := Lib.hid (show bits .xor .u8 (m'[k].toNat : Int) 1 = ((m'[k] ^^^ 1).toNat : Int) from by
            rw [show (1 : Int) = ((1 : UInt8).toNat : Int) from rfl, xor_u8 m'[k].toNat_lt (1 : UInt8).toNat_lt, UInt8.toNat_xor])
          generalize m'[k] = b0 at *
          clear hW hwr
          go_wp2_with fail
          rw [hx1.out, hwk]
          go_roundw
          case rel => exact ⟨k + 1, m'.set k (b0 ^^^ 1), hlt, val_one k, (show _ = _ from by rw [List.length_set]; exact hml.out), (show _ → _ from fun _ => ⟨g, off, rfl, hg1', hg2', hset.out⟩), hbs', hbr'⟩
          case measure => exact meas_one hlt
        · obtain rfl : k = m3.length := by omega
          have ownR : SlB wr A2 c2 m2 := hbs.sl own13 (fun _ g hg => .inl (HOWN.out g hg))
          have aR : SlB wr A c m2 := hbs.sl a13 (fun hne g hg => .inl (by have := hAlt.out (by simpa using hne) g hg; omega))
          have r11R : SlT wr A11 c11 p11 := hbs.sl r11 (fun _ g hg => .inr (by have := hf11 g hg; omega))
          have r12R : SlT wr A12 c12 p12 := hbs.sl r12 (fun _ g hg => .inr (by have := hf12 g hg; omega))
          have x11R : ∀ x ∈ p11, SlB wr x.1 x.2.1 x.2.2 := fun x hx => hbs.sl (x11.out x hx) (fun hne g hg => .inr (by have := x11f.out x hx (by simpa using hne) g hg; omega))
          have x12R : ∀ x ∈ p12, SlB wr x.1 x.2.1 x.2.2 := fun x hx => hbs.sl (x12.out x hx) (fun hne g hg => by
            rw [x12f.out x hx (by simpa using hne)] at hg
            by_cases h : m2 = []
            · rw [hnil.out h] at hx; simp at hx
            · left; have := hAlt.out h g hg; omega)
          have X11 := Lib.hid x11R
          have X12 := Lib.hid x12R
          clear x11R x12R x11 x12 x11f x12f hAlt HOWN hnil own13 a13 r11 r12 hwr hst3 hml hm2
          by_cases hnb : nb = 0
          · have hdl := Lib.hid (show decide (ptx p11 = ptx p12) = true from decide_eq_true (hall.out hnb))
            subst hnb
            clear hall hnon
            go_wp2_with fail
            refine (lists_any A11 c11 p11 A12 c12 p12 _ r11R X11.out r12R X12.out).mono ?_
            rintro e w15 ⟨rfl, hb15⟩
            rw [hdl.out]
            go_wp2_with fail
            refine (nBytes_any A2 A c2 c m2 m2 _ (ownR.below hb15) (aR.below hb15)).mono ?_
            rintro e w16 ⟨rfl, rfl⟩
            rw [show (m2 == m2) = true from by simp]
            go_wp2_with fail
            go_ret
            exact ⟨rfl, bel_call hbr hb15⟩
          · have hl0 := hnon.out hnb
            have hnbi : ((nb : Int) != 0) = true := by rw [bne_iff_ne]; omega
            have hnbi2 : ((nb : Int) == 0) = false := by rw [beq_eq_false_iff_ne]; omega
            have hl0i : ((p11.length : Int) == 0) = true := by rw [hl0]; rfl
            clear hall hnon hnb hl0 r11R
            go_wp2_with fail
            refine (nBytes_any A2 A c2 c m2 m2 _ ownR aR).mono ?_
            rintro e w16 ⟨rfl, rfl⟩
            rw [show (m2 == m2) = true from by simp]
            go_wp2_with fail
            go_ret
            exact ⟨rfl, hbr⟩
theorem ftakes_all {A : Option Addr} {c : Nat} {l : List UInt8} (w : World) (ha : SlB w A c l) :
    Calls Try.prog 13 #[.slice A l.length c] w fun e w' => e = .returned (.bool true) ∧ Below w.heap.size w w' := by
  by_cases h : 1000 < l.length
  · have h1 : (1000 : Int) < (l.length : Int) := by omega
    go_enter Try.func13, Try.ntmps13
    go_wp2_with fail
    refine (alive04_any _).mono ?_
    rintro e w1 ⟨rfl, hb1⟩
    go_wp2_with fail
    go_ret
    exact ⟨rfl, hb1⟩
  · exact ftakes_walk w ha (by omega)
end Go.Proofs.Ytbgcofgckjdoiaa
