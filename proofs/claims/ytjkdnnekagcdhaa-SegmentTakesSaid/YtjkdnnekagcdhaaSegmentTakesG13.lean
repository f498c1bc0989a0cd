/- WHAT IT HOLDS: the law CellOrder, walked. | WHAT IT HOLDS: the law CellFew, walked. | WHAT IT HOLDS: the document's common and Run, and the law's Documents, walked. -/
import Derived.Test.YtjkdnnekagcdhaaSegmentTakesG10
import Derived.Deep.DeepCutAuto
import Derived.Lib.SlBytesConst
import Derived.Test.YtjkdnnekagcdhaaSegmentTakesG12
import Derived.Test.YtjkdnnekagcdhaaSegmentTakesG03
import Derived.Lib.AppendStr
namespace Go.Proofs.Ytjkdnnekagcdhaa
open Go.ChangeShapes Go.WideShapes Go.ChangeAt Go.RowKit
attribute [local go_sem ↓] Go.wp_at_zero Go.wp_at_succ

theorem hole_ok : cchk (2, []) = 0 := by decide
theorem ab_ok : cchk (1, [97, 98]) = 0 := by decide
theorem hole_bytes : [] ++ cbytes (2, []) = [2] := by decide
theorem ab_bytes : [] ++ cbytes (1, [97, 98]) = [1, 2, 97, 98] := by
  simp [cbytes, vb_small]

set_option maxRecDepth 100000 in
set_option maxHeartbeats 1000000 in
theorem alive05_any (w : World) : Calls Try.prog 14 #[] w fun e w' => e = .returned (.bool true) ∧ Below w.heap.size w w' := by
  go_enter Try.func14, Try.ntmps14
  go_wp2_with fail
  refine (CPut_any (A := none) (c := 0) (E := none) (f := 0) (l := []) 2 [] _ (SlB.nil _ _ _ (by simp [maxLen]) (fun _ => rfl)) (SlB.nil _ _ _ (by simp [maxLen]) (fun _ => rfl)) (by simp)).mono ?_
  rintro e w1 ⟨hb1, ⟨A1, c1, m1, _, rfl, hm1, ho1⟩ | ⟨h, _⟩⟩
  rotate_left
  · exact absurd hole_ok h
  obtain rfl : m1 = [2] := hm1.out.trans hole_bytes
  have hcv := Go.Lib.run_convert_bytes_const (P := Try.prog) w1 22 5 #[.int .u8 97, .int .u8 98] 2 2 Try.underlying22 Try.underlying5
  go_wp2_with fail
  refine (CPut_any (A := some ⟨w1.heap.size, 0, none⟩) (c := 2) (E := none) (f := 0) (l := []) 1 [97, 98] _ (SlB.nil _ _ _ (by simp [maxLen]) (fun _ => rfl)) (Sl.litsM w1 [bv 97, bv 98] 5 (2, 3) (by simp [maxLen])) (by simp)).mono ?_
  rintro e w2 ⟨hb2, ⟨A2, c2, m2, _, rfl, hm2, ho2⟩ | ⟨h, _⟩⟩
  rotate_left
  · exact absurd ab_ok h
  obtain rfl : m2 = [1, 2, 97, 98] := hm2.out.trans ab_bytes
  have hs1 := (ho1.sl.below (below_new w1 (.cells #[bv 97, bv 98] 5 (2, 3)))).below hb2
  have hc1 := conv_str (P := Try.prog) 22 9 5 Try.underlying22 Try.underlying5 Try.underlying9 (n := 1) hs1 rfl
  have hc2 := conv_str (P := Try.prog) 22 9 5 Try.underlying22 Try.underlying5 Try.underlying9 (n := 4) ho2.sl rfl
  go_wp2_with fail
  go_ret
  exact ⟨rfl, bel_call (bel_alloc hb1 _) hb2⟩

theorem Sl.litsS (w : World) (size n : Nat) (cs : List Value) (t : TypeId) (hl : cs.length = n * size) (h : n ≤ maxLen) : Sl (w.alloc (.cells cs.toArray t)) size (some ⟨w.heap.size, 0, none⟩) n n cs :=
  ⟨hl, by omega, h, (fun h => by cases h), fun j u hj => ⟨_, rfl, by
    rw [addr_lit, cell_of_row _ _ _ _ t (0, 0) (heap_alloc_new w _)]
    simpa using hj⟩⟩
theorem six {w : World} {g1 g2 g3 : Nat} {t : TypeId} {a b c d e f : Value} (h1 : Blk w g1 t #[a, b]) (h2 : Blk w g2 t #[c, d]) (h3 : Blk w g3 t #[e, f]) :
    w.cell? ⟨g1, 0, none⟩ = some a ∧ w.cell? ⟨g1, 1, none⟩ = some b ∧ w.cell? ⟨g2, 0, none⟩ = some c ∧ w.cell? ⟨g2, 1, none⟩ = some d ∧ w.cell? ⟨g3, 0, none⟩ = some e ∧ w.cell? ⟨g3, 1, none⟩ = some f :=
  ⟨h1.cell 0, h1.cell 1, h2.cell 0, h2.cell 1, h3.cell 0, h3.cell 1⟩

theorem longb_len {l : List Ce} {n : Int} (h : longb l n = false) : ∀ c ∈ l, c.2.length ≤ 100 := by
  unfold longb at h
  rw [Bool.or_eq_false_iff] at h
  intro c hc
  have := List.any_eq_false.1 h.1 c hc
  simpa using this
end Go.Proofs.Ytjkdnnekagcdhaa

namespace Go.Proofs.Ytjkdnnekagcdhaa
open Go.ChangeShapes Go.WideShapes Go.ChangeAt Go.RowKit
attribute [local go_sem ↓] Go.wp_at_zero Go.wp_at_succ

theorem vb_len1 {n : Nat} (h : n < 128) : (vb n).length = 1 := by rw [vb_small h]; rfl
theorem rowGo_rep {k : Int} (h : k ≠ 1) (d : List UInt8) : ∀ n, rowGo k (List.replicate n (k, d)) = n
  | 0 => rfl
  | n + 1 => by
    rw [List.replicate_succ, rowGo, if_pos ⟨h, rfl⟩, rowGo_rep h d n]
theorem few_other {k : Int} (h : k ≠ 1) (h0 : 0 ≤ k) (h3 : k ≤ 3) {n : Nat} (h1 : 1 ≤ n) (hn : n ≤ 64) : (vb n ++ prun [] (List.replicate n (k, []))).length = 3 := by
  obtain ⟨m, rfl⟩ : ∃ m, n = m + 1 := ⟨n - 1, by omega⟩
  have hr : rowN (List.replicate (m + 1) ((k, []) : Ce)) = m + 1 := by
    have := rowGo_rep h [] (m + 1)
    rw [List.replicate_succ] at this ⊢
    exact this
  obtain ⟨k', ⟨r, d, hk⟩, hp⟩ := prun_row (last := []) (l := List.replicate (m + 1) ((k, []) : Ce)) (by omega)
  rw [List.replicate_succ] at hk
  simp only [List.cons.injEq, Prod.mk.injEq] at hk
  obtain ⟨⟨rfl, _⟩, _⟩ := hk
  rw [hp, hr, List.drop_eq_nil_of_le (by simp)]
  simp only [List.length_append, prun, List.length_nil]
  rw [vb_len1 (by omega), vb_len1 (by omega)]
theorem cpl_self : ∀ d, cpl d d = d.length
  | [] => rfl
  | x :: d => by rw [cpl, if_pos rfl, cpl_self d]; rfl
theorem few_more (d : List UInt8) (hd : d.length ≤ 64) : ∀ n, (prun d (List.replicate n (1, d))).length = 3 * n
  | 0 => by simp [prun]
  | n + 1 => by
    rw [List.replicate_succ, prun_data (rowN_zero.2 rfl)]
    simp only [List.length_append, cpl_self, List.drop_length, List.length_nil]
    rw [vb_len1 (by omega), vb_len1 (by omega), few_more d hd n]
    omega
theorem few_data (d : List UInt8) (hd : d.length ≤ 64) {n : Nat} (h1 : 1 ≤ n) (hn : n ≤ 64) : (vb n ++ prun [] (List.replicate n (1, d))).length = 1 + 3 * n + d.length := by
  obtain ⟨m, rfl⟩ : ∃ m, n = m + 1 := ⟨n - 1, by omega⟩
  rw [List.replicate_succ, prun_data (rowN_zero.2 rfl)]
  have hc : cpl [] d = 0 := by simp [cpl]
  simp only [List.length_append, hc, List.drop_zero]
  rw [vb_len1 (by omega), vb_len1 (by omega), vb_len1 (by omega), few_more d hd m]
  omega
theorem rchk_rep {c : Ce} (h : cchk c = 0) (n : Nat) : rchk (List.replicate n c) = 0 := rchk_ok fun x hx => by rw [List.eq_of_mem_replicate hx]; exact h
theorem map_rep (x : CeV) (n : Nat) : (List.replicate n x).map ceOf = List.replicate n (ceOf x) := by simp

theorem cell_info : (Try.prog.info? 24).map (fun i => (i.zero, i.size, i.bytes)) = some (some (.agg #[.int .i64 0, .slice none 0 0]), 2, 32) := by kernel_rfl
/-- append of one cell, which the walk has laid in a block of its own -/
theorem wpl_cell {w : World} {ops : Array Oper} {rest : List Oper} {o : Oper} {a : Act} {Q : Exit → Act → World → Prop} (hgd : o.guard = none) (s x : Operand)
    (ho : o.op = .call { callee := .builtin .append, args := #[s, x], argTypes := #[27, 27] })
    (base : Nat) (A : Option Addr) (c : Nat) (l : List CeV) (y : CeV) (hs : a.eval s = .slice A l.length c) (hown : Own w base 24 2 A l.length c (l.flatMap cf))
    (hx : a.eval x = .slice (some ⟨w.heap.size, 0, none⟩) 1 1) (hlen : l.length ≤ 1000000000) (hbase : base ≤ w.heap.size)
    (h : ∀ A' c' (m : List CeV) w', Hid (m = l ++ [y]) → Own w' base 24 2 A' m.length c' (m.flatMap cf) → Below base w w' → wpList Try.prog ops Q rest (a.put o.dst (.slice A' m.length c')) w') :
    wpList Try.prog ops Q (o :: rest) a (w.alloc (.cells #[.int .i64 y.1, .slice y.2.1 y.2.2.2.length y.2.2.1] 24)) := by
  obtain ⟨i0, hi, hz0, hz1, hz2⟩ := info_parts cell_info
  have hbl : Below base w (w.alloc (.cells #[.int .i64 y.1, .slice y.2.1 y.2.2.2.length y.2.2.1] 24)) := (Below.refl _ _).alloc hbase _
  refine wpl_append hgd s x 27 ho base 24 i0 _ 2 32 Try.underlying27 hi hz0 hz1 hz2 rfl (by decide) A l.length c (l.flatMap cf) hs (World.ownsRow.alloc hown _) (some ⟨w.heap.size, 0, none⟩) 1 1 (cf y) hx (Sl.litsS w 2 1 (cf y) 24 rfl (by simp [maxLen]))
    (fun u hu => by simp [cf] at hu; rcases hu with rfl | rfl <;> rfl) (by omega) (by simp only [maxLen]; omega) (by simp; omega) ?_
  intro A' c' w' hap
  have hl : l.length + 1 = (l ++ [y]).length := by simp
  rw [hl]
  refine h A' c' (l ++ [y]) w' rfl ?_ (hbl.trans (hap.below (World.ownsRow.alloc hown _) (by simp; omega)))
  have := hap.own
  simpa using this

def u4 (kind : Int) (q : Int) : Prop := (IntKind.u64.wrap kind).tmod 4 = q
theorem u4_cases (kind : Int) : u4 kind 1 ∨ u4 kind 0 ∨ u4 kind 2 ∨ u4 kind 3 := by
  unfold u4
  rw [IntKind.wrap_u64]
  have h : (0 : Int) ≤ kind % 18446744073709551616 := Int.emod_nonneg _ (by decide)
  rw [Int.tmod_eq_emod_of_nonneg h]
  omega
theorem u64m (many : Int) : ∃ mm : Nat, mm ≤ 63 ∧ (IntKind.u64.wrap many).tmod 64 = (mm : Int) := by
  rw [IntKind.wrap_u64]
  have h : (0 : Int) ≤ many % 18446744073709551616 := Int.emod_nonneg _ (by decide)
  rw [Int.tmod_eq_emod_of_nonneg h]
  exact ⟨((many % 18446744073709551616) % 64).toNat, by omega, by omega⟩

end Go.Proofs.Ytjkdnnekagcdhaa

namespace Go.Proofs.Ytjkdnnekagcdhaa
open Go.RowKit
attribute [local go_sem ↓] Go.wp_at_zero Go.wp_at_succ

set_option maxRecDepth 100000 in
set_option maxHeartbeats 1000000 in
theorem common_any (xs ys : List UInt8) (w : World) (hm1 : xs.length ≤ 1000000) (hm2 : ys.length ≤ 1000000) :
    Calls Try.prog 101 #[.string ⟨xs.toArray⟩, .string ⟨ys.toArray⟩] w fun e w' => e = .returned (.int .i64 (cpl xs ys : Nat)) ∧ Below w.heap.size w w' := by
  go_enter Try.func101, Try.ntmps101
  go_wp2_with fail
  go_loopw [5] (fun x wr => ∃ k : Nat, k ≤ xs.length ∧ k ≤ ys.length ∧ x = .int .i64 k ∧ Hid (xs.take k = ys.take k) ∧ Below w.heap.size w wr) (fun x w => xs.length - (intOf x).toNat)
  case atStart => exact ⟨0, Nat.zero_le _, Nat.zero_le _, rfl, (show _ = _ by simp), Below.refl _ _⟩
  case round =>
    obtain ⟨k, hk1, hk2, rfl, ht, hbr⟩ := hrel
    by_cases hl1 : k < xs.length
    · by_cases hl2 : k < ys.length
      · have hts := Lib.hid (take_succ_eq ht.out hl1 hl2)
        have hend := Lib.hid (fun h => cpl_end hk1 hk2 ht.out (.inr (.inr ⟨hl1, hl2, h⟩)))
        have hge : decide ((ys.length : Int) ≤ (k : Int)) = false := by simp; omega
        by_cases hxy : xs[k] = ys[k]
        · have hxb : ((((⟨xs.toArray⟩ : ByteArray)[k]'hl1).toNat : Int) != (((⟨ys.toArray⟩ : ByteArray)[k]'hl2).toNat : Int)) = false := by
            show ((xs[k].toNat : Int) != (ys[k].toNat : Int)) = false
            simp [hxy]
          have Hxy := Lib.hid hxy
          clear hxy
          go_wp2_with fail
          go_quiet (fail)
          go_wp2_with fail
          go_roundw
          case rel => exact ⟨k + 1, hl1, hl2, by go_num, hts.out.2 Hxy.out, below_drewN hbr _⟩
          case measure => simp [intOf]; omega
        · have hxb : ((((⟨xs.toArray⟩ : ByteArray)[k]'hl1).toNat : Int) != (((⟨ys.toArray⟩ : ByteArray)[k]'hl2).toNat : Int)) = true := by
            show ((xs[k].toNat : Int) != (ys[k].toNat : Int)) = true
            have := u8_eq_iff (x := xs[k]) (y := ys[k])
            simp only [bne, Bool.not_eq_true', Bool.eq_false_iff]
            exact fun h => hxy (this.1 h)
          have he := Lib.hid (hend.out hxy)
          clear hxy
          go_wp2_with fail
          go_quiet (fail)
          go_wp2_with fail
          go_ret
          exact ⟨by rw [he.out]; rfl, below_drewN hbr _⟩
      · have hge : decide ((ys.length : Int) ≤ (k : Int)) = true := by simp; omega
        have he := Lib.hid (cpl_end hk1 hk2 ht.out (.inr (.inl (by omega))))
        go_wp2_with fail
        go_quiet (fail)
        go_wp2_with fail
        go_ret
        exact ⟨by rw [he.out]; rfl, below_drewN hbr _⟩
    · have he := Lib.hid (cpl_end hk1 hk2 ht.out (.inl (by omega)))
      obtain rfl : k = xs.length := by omega
      go_wp2_with fail
      go_ret
      exact ⟨by rw [he.out]; rfl, hbr⟩

abbrev df (c : Ce) : List Value := [.int .i64 c.1, .string ⟨c.2.toArray⟩]
theorem dcell_info : (Try.prog.info? 29).map (fun i => (i.zero, i.size, i.bytes)) = some (some (.agg #[.int .i64 0, .string ⟨#[]⟩]), 2, 24) := by kernel_rfl
/-- append of one of the document's cells, which the walk has laid in a block of its own -/
theorem wpl_dcell {w : World} {ops : Array Oper} {rest : List Oper} {o : Oper} {a : Act} {Q : Exit → Act → World → Prop} (hgd : o.guard = none) (s x : Operand)
    (ho : o.op = .call { callee := .builtin .append, args := #[s, x], argTypes := #[69, 69] })
    (base : Nat) (A : Option Addr) (c : Nat) (l : List Ce) (y : Ce) (hs : a.eval s = .slice A l.length c) (hown : Own w base 29 2 A l.length c (l.flatMap df))
    (hx : a.eval x = .slice (some ⟨w.heap.size, 0, none⟩) 1 1) (hlen : l.length ≤ 1000000000) (hbase : base ≤ w.heap.size)
    (h : ∀ A' c' (m : List Ce) w', Hid (m = l ++ [y]) → Own w' base 29 2 A' m.length c' (m.flatMap df) → Below base w w' → wpList Try.prog ops Q rest (a.put o.dst (.slice A' m.length c')) w') :
    wpList Try.prog ops Q (o :: rest) a (w.alloc (.cells #[.int .i64 y.1, .string ⟨y.2.toArray⟩] 29)) := by
  obtain ⟨i0, hi, hz0, hz1, hz2⟩ := info_parts dcell_info
  have hbl : Below base w (w.alloc (.cells #[.int .i64 y.1, .string ⟨y.2.toArray⟩] 29)) := (Below.refl _ _).alloc hbase _
  refine wpl_append hgd s x 69 ho base 29 i0 _ 2 24 Try.underlying69 hi hz0 hz1 hz2 rfl (by decide) A l.length c (l.flatMap df) hs (World.ownsRow.alloc hown _) (some ⟨w.heap.size, 0, none⟩) 1 1 (df y) hx (Sl.litsS w 2 1 (df y) 29 rfl (by simp [maxLen]))
    (fun u hu => by simp [df] at hu; rcases hu with rfl | rfl <;> rfl) (by omega) (by simp only [maxLen]; omega) (by simp; omega) ?_
  intro A' c' w' hap
  have hl : l.length + 1 = (l ++ [y]).length := by simp
  rw [hl]
  refine h A' c' (l ++ [y]) w' rfl ?_ (hbl.trans (hap.below (World.ownsRow.alloc hown _) (by simp; omega)))
  have := hap.own
  simpa using this
/-- the document's cells that can be read -/
abbrev SlD (w : World) (E : Option Addr) (cap : Nat) (l : List Ce) : Prop := Sl w 2 E l.length cap (l.flatMap df)

set_option maxRecDepth 100000 in
set_option maxHeartbeats 1000000 in
theorem Documents_own {E : Option Addr} {cap : Nat} (cs : List CeV) (w : World) (h : SlC w E cap cs) (hl : cs.length ≤ 1000000) :
    Calls Try.prog 53 #[.slice E cs.length cap] w fun e w' => ∃ A c m, e = .returned (.slice A (List.length m) c) ∧ Hid (m = cs.map ceOf) ∧ Own w' w.heap.size 29 2 A (List.length m) c (m.flatMap df) ∧ Below w.heap.size w w' := by
  have hmax := h.1.len_le
  unfold maxLen at hmax
  go_enter Try.func53, Try.ntmps53
  go_wp2_with fail
  go_loopw [3, 9] (fun v x wr => ∃ (k : Nat) (A : Option Addr) (c : Nat) (m : List Ce), k ≤ cs.length ∧ x = .int .i64 k ∧ v = .slice A m.length c ∧ Hid (m = (cs.map ceOf).take k) ∧ Own wr w.heap.size 29 2 A m.length c (m.flatMap df) ∧ Below w.heap.size w wr) (fun v x w => cs.length - (intOf x).toNat)
  case atStart => exact ⟨0, _, 0, [], Nat.zero_le _, rfl, rfl, (show _ = _ by simp), Own.lit 2 (Nat.le_refl _), below_new _ _⟩
  case round =>
    obtain ⟨k, A, c, m, hk, rfl, rfl, hm, ho, hbr⟩ := hrel
    by_cases hlt : k < cs.length
    · obtain ⟨ad, b, o, rfl, had, hc0, hc1, hsx⟩ := (h.below hbr).at2 hlt
      have hml : m.length ≤ 1000000 := by rw [hm.out]; simp; omega
      have hnx : Hid ((cs.map ceOf).take (k + 1) = (cs.map ceOf).take k ++ [ceOf cs[k]]) := (show _ = _ by rw [List.take_succ_eq_append_getElem (by simpa using hlt), List.getElem_map])
      generalize cs[k] = x at *
      obtain ⟨kk, Ax, cx, d⟩ := x
      dsimp only [ceOf] at *
      go_wp2_with fail
      refine (Document_any kk d _ (hsx.below (below_new _ _))).mono ?_
      rintro e w2 ⟨rfl, hb2⟩
      have hbr2 := bel_call (bel_alloc hbr _) hb2
      have ho2 : Own w2 w.heap.size 29 2 A m.length c (m.flatMap df) := Own.below (World.ownsRow.alloc ho _) hb2
      go_wp2_with (at_builtin; go_must (refine wpl_dcell rfl _ _ rfl w.heap.size A c m (kk, d) rfl ho2 rfl (by omega) hbr2.size ?_; intro A3 c3 m3 w3 hm3 ho3 hb3))
      go_roundw
      case rel => exact ⟨k + 1, A3, c3, m3, hlt, by go_num, rfl, (show _ = _ by rw [hm3.out, hm.out, hnx.out]), ho3, hbr2.trans hb3⟩
      case measure => simp [intOf]; omega
    · go_wp2_with fail
      go_ret
      exact ⟨A, c, m, rfl, (show _ = _ by rw [hm.out, List.take_of_length_le (by simp; omega)]), ho, hbr⟩
theorem Documents_any {E : Option Addr} {cap : Nat} (cs : List CeV) (w : World) (h : SlC w E cap cs) (hl : cs.length ≤ 1000000) :
    Calls Try.prog 53 #[.slice E cs.length cap] w fun e w' => ∃ A c m, e = .returned (.slice A (List.length m) c) ∧ Hid (m = cs.map ceOf) ∧ SlD w' A c m ∧ Below w.heap.size w w' :=
  (Documents_own cs w h hl).mono fun _ _ ⟨A, c, m, h1, h2, h3, h4⟩ => ⟨A, c, m, h1, h2, Own.sl h3, h4⟩
end Go.Proofs.Ytjkdnnekagcdhaa
