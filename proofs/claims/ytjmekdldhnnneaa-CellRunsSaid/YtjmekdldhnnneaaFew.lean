/- WHAT IT HOLDS: the law CellFew, walked. -/
import Derived.Test.YtjmekdldhnnneaaRunR
import Derived.Test.YtjmekdldhnnneaaCellO
namespace Go.Proofs.Ytjmekdldhnnneaa
open Go.ChangeShapes Go.WideShapes Go.ChangeAt Go.RowKit
attribute [local go_sem ↓] Go.wp_at_zero Go.wp_at_succ

theorem vb_len1 {n : Nat} (h : n < 128) : (vb n).length = 1 := by rw [vb_small h]; rfl
theorem rowGo_rep {k : Int} (h : k ≠ 1) (d : List UInt8) : ∀ n, rowGo k (List.replicate n (k, d)) = n
  | 0 => rfl
  | n + 1 => by
    rw [List.replicate_succ, rowGo, if_pos ⟨h, rfl⟩, rowGo_rep h d n]
theorem few_other {k : Int} (h : k ≠ 1) (h0 : 0 ≤ k) (h3 : k ≤ 3) {n : Nat} (h1 : 1 ≤ n) (hn : n ≤ 64) : (vb n ++ prun [] (List.replicate n (k, []))).length = 3 := by
  obtain ⟨m, rfl⟩ : ∃ m, n = m + 1 := ⟨n - 1, by omega⟩
  have hr : rowN (List.replicate (m + 1) ((k, []) : Ce)) = m + 1 := by
    have := rowGo_rep h [] (m + 1)
    rw [List.replicate_succ] at this ⊢
    exact this
  obtain ⟨k', ⟨r, d, hk⟩, hp⟩ := prun_row (last := []) (l := List.replicate (m + 1) ((k, []) : Ce)) (by omega)
  rw [List.replicate_succ] at hk
  simp only [List.cons.injEq, Prod.mk.injEq] at hk
  obtain ⟨⟨rfl, _⟩, _⟩ := hk
  rw [hp, hr, List.drop_eq_nil_of_le (by simp)]
  simp only [List.length_append, prun, List.length_nil]
  rw [vb_len1 (by omega), vb_len1 (by omega)]
theorem cpl_self : ∀ d, cpl d d = d.length
  | [] => rfl
  | x :: d => by rw [cpl, if_pos rfl, cpl_self d]; rfl
theorem few_more (d : List UInt8) (hd : d.length ≤ 64) : ∀ n, (prun d (List.replicate n (1, d))).length = 3 * n
  | 0 => by simp [prun]
  | n + 1 => by
    rw [List.replicate_succ, prun_data (rowN_zero.2 rfl)]
    simp only [List.length_append, cpl_self, List.drop_length, List.length_nil]
    rw [vb_len1 (by omega), vb_len1 (by omega), few_more d hd n]
    omega
theorem few_data (d : List UInt8) (hd : d.length ≤ 64) {n : Nat} (h1 : 1 ≤ n) (hn : n ≤ 64) : (vb n ++ prun [] (List.replicate n (1, d))).length = 1 + 3 * n + d.length := by
  obtain ⟨m, rfl⟩ : ∃ m, n = m + 1 := ⟨n - 1, by omega⟩
  rw [List.replicate_succ, prun_data (rowN_zero.2 rfl)]
  have hc : cpl [] d = 0 := by simp [cpl]
  simp only [List.length_append, hc, List.drop_zero]
  rw [vb_len1 (by omega), vb_len1 (by omega), vb_len1 (by omega), few_more d hd m]
  omega
theorem rchk_rep {c : Ce} (h : cchk c = 0) (n : Nat) : rchk (List.replicate n c) = 0 := rchk_ok fun x hx => by rw [List.eq_of_mem_replicate hx]; exact h
theorem map_rep (x : CeV) (n : Nat) : (List.replicate n x).map ceOf = List.replicate n (ceOf x) := by simp

theorem cell_info : (Try.prog.info? 66).map (fun i => (i.zero, i.size, i.bytes)) = some (some (.agg #[.int .i64 0, .slice none 0 0]), 2, 32) := by kernel_rfl
/-- append of one cell, which the walk has laid in a block of its own -/
theorem wpl_cell {w : World} {ops : Array Oper} {rest : List Oper} {o : Oper} {a : Act} {Q : Exit → Act → World → Prop} (hgd : o.guard = none) (s x : Operand)
    (ho : o.op = .call { callee := .builtin .append, args := #[s, x], argTypes := #[68, 68] })
    (base : Nat) (A : Option Addr) (c : Nat) (l : List CeV) (y : CeV) (hs : a.eval s = .slice A l.length c) (hown : Own w base 66 2 A l.length c (l.flatMap cf))
    (hx : a.eval x = .slice (some ⟨w.heap.size, 0, none⟩) 1 1) (hlen : l.length ≤ 1000000000) (hbase : base ≤ w.heap.size)
    (h : ∀ A' c' (m : List CeV) w', Hid (m = l ++ [y]) → Own w' base 66 2 A' m.length c' (m.flatMap cf) → Below base w w' → wpList Try.prog ops Q rest (a.put o.dst (.slice A' m.length c')) w') :
    wpList Try.prog ops Q (o :: rest) a (w.alloc (.cells #[.int .i64 y.1, .slice y.2.1 y.2.2.2.length y.2.2.1] 66)) := by
  obtain ⟨i0, hi, hz0, hz1, hz2⟩ := info_parts cell_info
  have hbl : Below base w (w.alloc (.cells #[.int .i64 y.1, .slice y.2.1 y.2.2.2.length y.2.2.1] 66)) := (Below.refl _ _).alloc hbase _
  refine wpl_append hgd s x 68 ho base 66 i0 _ 2 32 Try.underlying68 hi hz0 hz1 hz2 rfl (by decide) A l.length c (l.flatMap cf) hs (World.ownsRow.alloc hown _) (some ⟨w.heap.size, 0, none⟩) 1 1 (cf y) hx (Sl.litsS w 2 1 (cf y) 66 rfl (by simp [maxLen]))
    (fun u hu => by simp [cf] at hu; rcases hu with rfl | rfl <;> rfl) (by omega) (by simp only [maxLen]; omega) (by simp; omega) ?_
  intro A' c' w' hap
  have hl : l.length + 1 = (l ++ [y]).length := by simp
  rw [hl]
  refine h A' c' (l ++ [y]) w' rfl ?_ (hbl.trans (hap.below (World.ownsRow.alloc hown _) (by simp; omega)))
  have := hap.own
  simpa using this

def u4 (kind : Int) (q : Int) : Prop := (IntKind.u64.wrap kind).tmod 4 = q
theorem u4_cases (kind : Int) : u4 kind 1 ∨ u4 kind 0 ∨ u4 kind 2 ∨ u4 kind 3 := by
  unfold u4
  rw [IntKind.wrap_u64]
  have h : (0 : Int) ≤ kind % 18446744073709551616 := Int.emod_nonneg _ (by decide)
  rw [Int.tmod_eq_emod_of_nonneg h]
  omega
theorem u64m (many : Int) : ∃ mm : Nat, mm ≤ 63 ∧ (IntKind.u64.wrap many).tmod 64 = (mm : Int) := by
  rw [IntKind.wrap_u64]
  have h : (0 : Int) ≤ many % 18446744073709551616 := Int.emod_nonneg _ (by decide)
  rw [Int.tmod_eq_emod_of_nonneg h]
  exact ⟨((many % 18446744073709551616) % 64).toNat, by omega, by omega⟩

set_option maxRecDepth 100000 in
set_option maxHeartbeats 400000 in
theorem few_0 {D : Option Addr} {cd : Nat} {d : List UInt8} (kind many : Int) (w : World) (hk : u4 kind 0) :
    Calls Try.prog 11 #[.int .i64 kind, .int .i64 many, .slice D d.length cd] w fun e w' => e = .returned (.bool true) ∧ Below w.heap.size w w' := by
  unfold u4 at hk
  obtain ⟨mm, hm63, hmm⟩ := u64m many
  have h1m : IntKind.i64.wrap (1 + (mm : Int)) = 1 + (mm : Int) := IntWalk.i64_in _ (by omega)
  go_enter Try.func11, Try.ntmps11
  go_wp2_with fail
  refine (alive05_any _).mono ?_
  rintro e w1 ⟨rfl, hb1⟩
  go_wp2_with fail
  have hB1 := Blk.new w1 66 #[.int .i64 0, .slice none 0 0]
  have hb2 := bel_alloc (bel_alloc hb1 (.cells #[.int .i64 0, .slice none 0 0] 66)) (.cells #[] 66)
  have hz1 := hb1.size
  go_loopw [8, 34] (fun v x wr => ∃ (k : Nat) (A' : Option Addr) (c' : Nat) (l : List CeV), k ≤ mm + 1 ∧ x = .int .i64 k ∧ v = .slice A' l.length c' ∧ Hid (l = List.replicate k (0, none, 0, [])) ∧ l.length = k ∧ Own wr (w1.heap.size + 1) 66 2 A' l.length c' (l.flatMap cf) ∧ Blk wr w1.heap.size 66 #[.int .i64 0, .slice none 0 0] ∧ w1.heap.size < wr.heap.size ∧ Below w.heap.size w wr ∧ Below w1.heap.size w1 wr) (fun v x w => mm + 1 - (intOf x).toNat)
  case atStart => exact ⟨0, _, 0, [], Nat.zero_le _, rfl, rfl, (show _ = _ from rfl), rfl, Own.litAt 2 (by simp) (by simp), hB1.alloc _, by simp; omega, hb2, bel_alloc (below_new _ _) _⟩
  case round =>
    obtain ⟨k, A', c', l, hk, rfl, rfl, hl, hlk, ho, hBr, hz, hbr, hb1r⟩ := hrel
    obtain ⟨b0, b1, bf0, bf1⟩ := hBr.two
    by_cases hlt : k < mm + 1
    · have hbs := hbr.size
      have hlk2 : l.length ≤ 64 := by omega
      clear hlk
      go_wp2_with (at_builtin; go_must (refine wpl_cell rfl _ _ rfl (w1.heap.size + 1) A' c' l (0, none, 0, []) rfl ho rfl (by omega) hz ?_; intro A2 c2 l2 w2 hl2 ho2 hb2))
      go_roundw
      case rel => exact ⟨k + 1, A2, c2, l2, by omega, by go_num, rfl, (show _ = _ by rw [hl2.out, hl.out, List.replicate_succ']), by rw [hl2.out, hl.out]; simp, ho2, hBr.apart (by omega) hb2, Nat.lt_of_lt_of_le hz hb2.size, hbr.trans (hb2.mono (by omega)), hb1r.trans (hb2.mono (by omega))⟩
      case measure => simp [intOf]; omega
    · obtain rfl : k = mm + 1 := by omega
      have hSC : SlC _ A' c' l := ⟨Own.sl ho, fun x hx => by
        rw [hl.out] at hx
        rw [List.eq_of_mem_replicate hx]
        exact Sl.none_ _ _⟩
      have hP := PutRun_any (B := none) (f := 0) (l := []) l _ (Sl.none_ _ _) hSC (by simp)
      have hmap : Hid (l.map ceOf = List.replicate (mm + 1) (ceOf (0, none, 0, []))) := (show _ = _ by rw [hl.out, map_rep])
      rw [hmap.out] at hP
      have HP := Lib.hid hP
      clear hP hlk
      go_wp2_with fail
      refine HP.out.mono ?_
      rintro e w5 ⟨hb5, ⟨A5, c5, m5, _, _, rfl, hm5, ho5⟩ | ⟨bad, hb0, hbe, _⟩⟩
      rotate_left
      · exfalso
        rw [List.length_replicate, if_neg (by omega), rchk_rep (by decide)] at hbe
        exact hb0 hbe
      have hml : m5.length = 3 := by
        rw [hm5.out, List.nil_append, List.length_replicate]
        exact few_other (by decide) (by decide) (by decide) (by omega) (by omega)
      have hB5 := hBr.below hb5
      have hz5 : w1.heap.size < w5.heap.size := hB5.lt
      obtain ⟨b0, b1, bf0, bf1⟩ := hB5.two
      have hbw5 := bel_call hbr hb5
      (obtain ⟨hmlb⟩ : Nonempty (((m5.length : Int) == 3) = true) := ⟨by rw [hml]; rfl⟩)
      go_wp2_with fail
      go_ret
      exact ⟨rfl, hbw5⟩
set_option maxRecDepth 100000 in
set_option maxHeartbeats 400000 in
theorem few_2 {D : Option Addr} {cd : Nat} {d : List UInt8} (kind many : Int) (w : World) (hk : u4 kind 2) :
    Calls Try.prog 11 #[.int .i64 kind, .int .i64 many, .slice D d.length cd] w fun e w' => e = .returned (.bool true) ∧ Below w.heap.size w w' := by
  unfold u4 at hk
  obtain ⟨mm, hm63, hmm⟩ := u64m many
  have h1m : IntKind.i64.wrap (1 + (mm : Int)) = 1 + (mm : Int) := IntWalk.i64_in _ (by omega)
  go_enter Try.func11, Try.ntmps11
  go_wp2_with fail
  refine (alive05_any _).mono ?_
  rintro e w1 ⟨rfl, hb1⟩
  go_wp2_with fail
  have hB1 := Blk.new w1 66 #[.int .i64 2, .slice none 0 0]
  have hb2 := bel_alloc (bel_alloc hb1 (.cells #[.int .i64 2, .slice none 0 0] 66)) (.cells #[] 66)
  have hz1 := hb1.size
  go_loopw [8, 34] (fun v x wr => ∃ (k : Nat) (A' : Option Addr) (c' : Nat) (l : List CeV), k ≤ mm + 1 ∧ x = .int .i64 k ∧ v = .slice A' l.length c' ∧ Hid (l = List.replicate k (2, none, 0, [])) ∧ l.length = k ∧ Own wr (w1.heap.size + 1) 66 2 A' l.length c' (l.flatMap cf) ∧ Blk wr w1.heap.size 66 #[.int .i64 2, .slice none 0 0] ∧ w1.heap.size < wr.heap.size ∧ Below w.heap.size w wr ∧ Below w1.heap.size w1 wr) (fun v x w => mm + 1 - (intOf x).toNat)
  case atStart => exact ⟨0, _, 0, [], Nat.zero_le _, rfl, rfl, (show _ = _ from rfl), rfl, Own.litAt 2 (by simp) (by simp), hB1.alloc _, by simp; omega, hb2, bel_alloc (below_new _ _) _⟩
  case round =>
    obtain ⟨k, A', c', l, hk, rfl, rfl, hl, hlk, ho, hBr, hz, hbr, hb1r⟩ := hrel
    obtain ⟨b0, b1, bf0, bf1⟩ := hBr.two
    by_cases hlt : k < mm + 1
    · have hbs := hbr.size
      have hlk2 : l.length ≤ 64 := by omega
      clear hlk
      go_wp2_with (at_builtin; go_must (refine wpl_cell rfl _ _ rfl (w1.heap.size + 1) A' c' l (2, none, 0, []) rfl ho rfl (by omega) hz ?_; intro A2 c2 l2 w2 hl2 ho2 hb2))
      go_roundw
      case rel => exact ⟨k + 1, A2, c2, l2, by omega, by go_num, rfl, (show _ = _ by rw [hl2.out, hl.out, List.replicate_succ']), by rw [hl2.out, hl.out]; simp, ho2, hBr.apart (by omega) hb2, Nat.lt_of_lt_of_le hz hb2.size, hbr.trans (hb2.mono (by omega)), hb1r.trans (hb2.mono (by omega))⟩
      case measure => simp [intOf]; omega
    · obtain rfl : k = mm + 1 := by omega
      have hSC : SlC _ A' c' l := ⟨Own.sl ho, fun x hx => by
        rw [hl.out] at hx
        rw [List.eq_of_mem_replicate hx]
        exact Sl.none_ _ _⟩
      have hP := PutRun_any (B := none) (f := 0) (l := []) l _ (Sl.none_ _ _) hSC (by simp)
      have hmap : Hid (l.map ceOf = List.replicate (mm + 1) (ceOf (2, none, 0, []))) := (show _ = _ by rw [hl.out, map_rep])
      rw [hmap.out] at hP
      have HP := Lib.hid hP
      clear hP hlk
      go_wp2_with fail
      refine HP.out.mono ?_
      rintro e w5 ⟨hb5, ⟨A5, c5, m5, _, _, rfl, hm5, ho5⟩ | ⟨bad, hb0, hbe, _⟩⟩
      rotate_left
      · exfalso
        rw [List.length_replicate, if_neg (by omega), rchk_rep (by decide)] at hbe
        exact hb0 hbe
      have hml : m5.length = 3 := by
        rw [hm5.out, List.nil_append, List.length_replicate]
        exact few_other (by decide) (by decide) (by decide) (by omega) (by omega)
      have hB5 := hBr.below hb5
      have hz5 : w1.heap.size < w5.heap.size := hB5.lt
      obtain ⟨b0, b1, bf0, bf1⟩ := hB5.two
      have hbw5 := bel_call hbr hb5
      (obtain ⟨hmlb⟩ : Nonempty (((m5.length : Int) == 3) = true) := ⟨by rw [hml]; rfl⟩)
      go_wp2_with fail
      go_ret
      exact ⟨rfl, hbw5⟩
set_option maxRecDepth 100000 in
set_option maxHeartbeats 400000 in
theorem few_3 {D : Option Addr} {cd : Nat} {d : List UInt8} (kind many : Int) (w : World) (hk : u4 kind 3) :
    Calls Try.prog 11 #[.int .i64 kind, .int .i64 many, .slice D d.length cd] w fun e w' => e = .returned (.bool true) ∧ Below w.heap.size w w' := by
  unfold u4 at hk
  obtain ⟨mm, hm63, hmm⟩ := u64m many
  have h1m : IntKind.i64.wrap (1 + (mm : Int)) = 1 + (mm : Int) := IntWalk.i64_in _ (by omega)
  go_enter Try.func11, Try.ntmps11
  go_wp2_with fail
  refine (alive05_any _).mono ?_
  rintro e w1 ⟨rfl, hb1⟩
  go_wp2_with fail
  have hB1 := Blk.new w1 66 #[.int .i64 3, .slice none 0 0]
  have hb2 := bel_alloc (bel_alloc hb1 (.cells #[.int .i64 3, .slice none 0 0] 66)) (.cells #[] 66)
  have hz1 := hb1.size
  go_loopw [8, 34] (fun v x wr => ∃ (k : Nat) (A' : Option Addr) (c' : Nat) (l : List CeV), k ≤ mm + 1 ∧ x = .int .i64 k ∧ v = .slice A' l.length c' ∧ Hid (l = List.replicate k (3, none, 0, [])) ∧ l.length = k ∧ Own wr (w1.heap.size + 1) 66 2 A' l.length c' (l.flatMap cf) ∧ Blk wr w1.heap.size 66 #[.int .i64 3, .slice none 0 0] ∧ w1.heap.size < wr.heap.size ∧ Below w.heap.size w wr ∧ Below w1.heap.size w1 wr) (fun v x w => mm + 1 - (intOf x).toNat)
  case atStart => exact ⟨0, _, 0, [], Nat.zero_le _, rfl, rfl, (show _ = _ from rfl), rfl, Own.litAt 2 (by simp) (by simp), hB1.alloc _, by simp; omega, hb2, bel_alloc (below_new _ _) _⟩
  case round =>
    obtain ⟨k, A', c', l, hk, rfl, rfl, hl, hlk, ho, hBr, hz, hbr, hb1r⟩ := hrel
    obtain ⟨b0, b1, bf0, bf1⟩ := hBr.two
    by_cases hlt : k < mm + 1
    · have hbs := hbr.size
      have hlk2 : l.length ≤ 64 := by omega
      clear hlk
      go_wp2_with (at_builtin; go_must (refine wpl_cell rfl _ _ rfl (w1.heap.size + 1) A' c' l (3, none, 0, []) rfl ho rfl (by omega) hz ?_; intro A2 c2 l2 w2 hl2 ho2 hb2))
      go_roundw
      case rel => exact ⟨k + 1, A2, c2, l2, by omega, by go_num, rfl, (show _ = _ by rw [hl2.out, hl.out, List.replicate_succ']), by rw [hl2.out, hl.out]; simp, ho2, hBr.apart (by omega) hb2, Nat.lt_of_lt_of_le hz hb2.size, hbr.trans (hb2.mono (by omega)), hb1r.trans (hb2.mono (by omega))⟩
      case measure => simp [intOf]; omega
    · obtain rfl : k = mm + 1 := by omega
      have hSC : SlC _ A' c' l := ⟨Own.sl ho, fun x hx => by
        rw [hl.out] at hx
        rw [List.eq_of_mem_replicate hx]
        exact Sl.none_ _ _⟩
      have hP := PutRun_any (B := none) (f := 0) (l := []) l _ (Sl.none_ _ _) hSC (by simp)
      have hmap : Hid (l.map ceOf = List.replicate (mm + 1) (ceOf (3, none, 0, []))) := (show _ = _ by rw [hl.out, map_rep])
      rw [hmap.out] at hP
      have HP := Lib.hid hP
      clear hP hlk
      go_wp2_with fail
      refine HP.out.mono ?_
      rintro e w5 ⟨hb5, ⟨A5, c5, m5, _, _, rfl, hm5, ho5⟩ | ⟨bad, hb0, hbe, _⟩⟩
      rotate_left
      · exfalso
        rw [List.length_replicate, if_neg (by omega), rchk_rep (by decide)] at hbe
        exact hb0 hbe
      have hml : m5.length = 3 := by
        rw [hm5.out, List.nil_append, List.length_replicate]
        exact few_other (by decide) (by decide) (by decide) (by omega) (by omega)
      have hB5 := hBr.below hb5
      have hz5 : w1.heap.size < w5.heap.size := hB5.lt
      obtain ⟨b0, b1, bf0, bf1⟩ := hB5.two
      have hbw5 := bel_call hbr hb5
      (obtain ⟨hmlb⟩ : Nonempty (((m5.length : Int) == 3) = true) := ⟨by rw [hml]; rfl⟩)
      go_wp2_with fail
      go_ret
      exact ⟨rfl, hbw5⟩
set_option maxRecDepth 100000 in
set_option maxHeartbeats 400000 in
theorem few_1 {D : Option Addr} {cd : Nat} {d : List UInt8} (kind many : Int) (w : World) (hd : SlB w D cd d) (hk : u4 kind 1) :
    Calls Try.prog 11 #[.int .i64 kind, .int .i64 many, .slice D d.length cd] w fun e w' => e = .returned (.bool true) ∧ Below w.heap.size w w' := by
  unfold u4 at hk
  obtain ⟨mm, hm63, hmm⟩ := u64m many
  have h1m : IntKind.i64.wrap (1 + (mm : Int)) = 1 + (mm : Int) := IntWalk.i64_in _ (by omega)
  have hmax := hd.2.1
  have hmax2 := hd.2.2.1
  unfold maxLen at hmax2
  obtain ⟨dq, hdq⟩ : ∃ dq : List UInt8, Hid (dq = d.take (min d.length 64)) := ⟨_, rfl⟩
  have hlq : dq.length = min d.length 64 := by rw [hdq.out]; simp
  have hmn : min (d.length : Int) 64 = (dq.length : Int) := by omega
  have hq1 : dq.length ≤ d.length := by omega
  have hq2 : dq.length ≤ 64 := by omega
  have hsq : SlB w D cd dq := by rw [hdq.out]; exact Sl.takeB hd _
  have hck : Hid (cchk (1, dq) = 0) := (show _ = _ by
    rcases cchk_cases (1, dq) with h | h | h | h | h | h
    · simp at h
    · simp at h
    · have := h.2.2.1; dsimp only at this; omega
    · have := h.2.2.2.2.1; simp at this
    · exact h.2.2.2
    · exact h.2.2.2)
  clear hlq
  go_enter Try.func11, Try.ntmps11
  go_wp2_with fail
  refine (alive05_any _).mono ?_
  rintro e w1 ⟨rfl, hb1⟩
  go_wp2_with fail
  have hB1 := Blk.new w1 66 #[.int .i64 1, .slice D dq.length cd]
  have hb2 := bel_alloc (bel_alloc hb1 (.cells #[.int .i64 1, .slice D dq.length cd] 66)) (.cells #[] 66)
  have hz1 := hb1.size
  go_loopw [8, 34] (fun v x wr => ∃ (k : Nat) (A' : Option Addr) (c' : Nat) (l : List CeV), k ≤ mm + 1 ∧ x = .int .i64 k ∧ v = .slice A' l.length c' ∧ Hid (l = List.replicate k (1, D, cd, dq)) ∧ l.length = k ∧ Own wr (w1.heap.size + 1) 66 2 A' l.length c' (l.flatMap cf) ∧ Blk wr w1.heap.size 66 #[.int .i64 1, .slice D dq.length cd] ∧ w1.heap.size < wr.heap.size ∧ Below w.heap.size w wr ∧ Below w1.heap.size w1 wr) (fun v x w => mm + 1 - (intOf x).toNat)
  case atStart => exact ⟨0, _, 0, [], Nat.zero_le _, rfl, rfl, (show _ = _ from rfl), rfl, Own.litAt 2 (by simp) (by simp), hB1.alloc _, by simp; omega, hb2, bel_alloc (below_new _ _) _⟩
  case round =>
    obtain ⟨k, A', c', l, hk, rfl, rfl, hl, hlk, ho, hBr, hz, hbr, hb1r⟩ := hrel
    obtain ⟨b0, b1, bf0, bf1⟩ := hBr.two
    by_cases hlt : k < mm + 1
    · have hbs := hbr.size
      have hlk2 : l.length ≤ 64 := by omega
      clear hlk
      go_wp2_with (at_builtin; go_must (refine wpl_cell rfl _ _ rfl (w1.heap.size + 1) A' c' l (1, D, cd, dq) rfl ho rfl (by omega) hz ?_; intro A2 c2 l2 w2 hl2 ho2 hb2))
      go_roundw
      case rel => exact ⟨k + 1, A2, c2, l2, by omega, by go_num, rfl, (show _ = _ by rw [hl2.out, hl.out, List.replicate_succ']), by rw [hl2.out, hl.out]; simp, ho2, hBr.apart (by omega) hb2, Nat.lt_of_lt_of_le hz hb2.size, hbr.trans (hb2.mono (by omega)), hb1r.trans (hb2.mono (by omega))⟩
      case measure => simp [intOf]; omega
    · obtain rfl : k = mm + 1 := by omega
      have hSC : SlC _ A' c' l := ⟨Own.sl ho, fun x hx => by
        rw [hl.out] at hx
        rw [List.eq_of_mem_replicate hx]
        exact (hsq.below hb1).below hb1r⟩
      have hP := PutRun_any (B := none) (f := 0) (l := []) l _ (Sl.none_ _ _) hSC (by simp)
      have hmap : Hid (l.map ceOf = List.replicate (mm + 1) (ceOf (1, D, cd, dq))) := (show _ = _ by rw [hl.out, map_rep])
      rw [hmap.out] at hP
      have HP := Lib.hid hP
      clear hP hlk
      go_wp2_with fail
      refine HP.out.mono ?_
      rintro e w5 ⟨hb5, ⟨A5, c5, m5, _, _, rfl, hm5, ho5⟩ | ⟨bad, hb0, hbe, _⟩⟩
      rotate_left
      · exfalso
        rw [List.length_replicate, if_neg (by omega), rchk_rep (by exact hck.out)] at hbe
        exact hb0 hbe
      have hml : m5.length = 1 + 3 * (mm + 1) + dq.length := by
        rw [hm5.out, List.nil_append, List.length_replicate]
        exact few_data dq (by omega) (by omega) (by omega)
      have hB5 := hBr.below hb5
      have hz5 : w1.heap.size < w5.heap.size := hB5.lt
      obtain ⟨b0, b1, bf0, bf1⟩ := hB5.two
      have hbw5 := bel_call hbr hb5
      (obtain ⟨hmlb⟩ : Nonempty (((m5.length : Int) == 1 + 3 * (1 + (mm : Int)) + (dq.length : Int)) = true) := ⟨by rw [hml]; simp; omega⟩; clear hml)
      go_wp2_with fail
      go_ret
      exact ⟨rfl, hbw5⟩

theorem few_all {D : Option Addr} {cd : Nat} {d : List UInt8} {kind many : Int} (w : World) (hd : SlB w D cd d) :
    Calls Try.prog 11 #[.int .i64 kind, .int .i64 many, .slice D d.length cd] w fun e w' => e = .returned (.bool true) ∧ Below w.heap.size w w' := by
  rcases u4_cases kind with h | h | h | h
  · exact few_1 kind many w hd h
  · exact few_0 kind many w h
  · exact few_2 kind many w h
  · exact few_3 kind many w h
end Go.Proofs.Ytjmekdldhnnneaa
