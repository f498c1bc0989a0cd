/- WHAT IT HOLDS: the law CellOrder, walked. | WHAT IT HOLDS: the law CellFew, walked. | WHAT IT HOLDS: the document's common and Run, and the law's Documents, walked. | WHAT IT HOLDS: the document's Run, walked. | WHAT IT HOLDS: arguments that are cells, and slices of cells, opened to the words of Kit. | WHAT IS PROVED: the statement CellRuns: for every input the law returns true. No condition. | WHAT IT HOLDS: segments, plainly (no program). | WHAT IT HOLDS: Check of segments, the program's and the document's, walked. | WHAT IT HOLDS: the document's Check of segments, and both Same, walked. | WHAT IT HOLDS: Same of segments, the program's and the document's, walked. | WHAT IT HOLDS: a segment as the document's, and a segment's copy, walked. -/
import Derived.Test.YtgipfenjachpnaaCursorStepsG07
import Derived.Deep.DeepCutAuto
import Derived.Lib.SlBytesConst
import Derived.Test.YtgipfenjachpnaaCursorStepsG08
import Derived.Test.YtgipfenjachpnaaCursorStepsG02
import Derived.Lib.AppendStr
import Derived.Test.YtgipfenjachpnaaCursorStepsG06
import Derived.BigQuiet
import Derived.Deep.QuietTactic
namespace Go.Proofs.Ytgipfenjachpnaa
open Go.ChangeShapes Go.WideShapes Go.ChangeAt Go.RowKit
attribute [local go_sem ↓] Go.wp_at_zero Go.wp_at_succ

theorem hole_ok : cchk (2, []) = 0 := by decide
theorem ab_ok : cchk (1, [97, 98]) = 0 := by decide
theorem hole_bytes : [] ++ cbytes (2, []) = [2] := by decide
theorem ab_bytes : [] ++ cbytes (1, [97, 98]) = [1, 2, 97, 98] := by
  simp [cbytes, vb_small]

set_option maxRecDepth 100000 in
set_option maxHeartbeats 1000000 in
theorem alive05_any (w : World) : Calls Try.prog 10 #[] w fun e w' => e = .returned (.bool true) ∧ Below w.heap.size w w' := by
  go_enter Try.func10, Try.ntmps10
  go_wp2_with fail
  refine (CPut_any (A := none) (c := 0) (E := none) (f := 0) (l := []) 2 [] _ (SlB.nil _ _ _ (by simp [maxLen]) (fun _ => rfl)) (SlB.nil _ _ _ (by simp [maxLen]) (fun _ => rfl)) (by simp)).mono ?_
  rintro e w1 ⟨hb1, ⟨A1, c1, m1, _, rfl, hm1, ho1⟩ | ⟨h, _⟩⟩
  rotate_left
  · exact absurd hole_ok h
  obtain rfl : m1 = [2] := hm1.out.trans hole_bytes
  have hcv := Go.Lib.run_convert_bytes_const (P := Try.prog) w1 22 5 #[.int .u8 97, .int .u8 98] 2 2 Try.underlying22 Try.underlying5
  go_wp2_with fail
  refine (CPut_any (A := some ⟨w1.heap.size, 0, none⟩) (c := 2) (E := none) (f := 0) (l := []) 1 [97, 98] _ (SlB.nil _ _ _ (by simp [maxLen]) (fun _ => rfl)) (Sl.litsM w1 [bv 97, bv 98] 5 (2, 3) (by simp [maxLen])) (by simp)).mono ?_
  rintro e w2 ⟨hb2, ⟨A2, c2, m2, _, rfl, hm2, ho2⟩ | ⟨h, _⟩⟩
  rotate_left
  · exact absurd ab_ok h
  obtain rfl : m2 = [1, 2, 97, 98] := hm2.out.trans ab_bytes
  have hs1 := (ho1.sl.below (below_new w1 (.cells #[bv 97, bv 98] 5 (2, 3)))).below hb2
  have hc1 := conv_str (P := Try.prog) 22 9 5 Try.underlying22 Try.underlying5 Try.underlying9 (n := 1) hs1 rfl
  have hc2 := conv_str (P := Try.prog) 22 9 5 Try.underlying22 Try.underlying5 Try.underlying9 (n := 4) ho2.sl rfl
  go_wp2_with fail
  go_ret
  exact ⟨rfl, bel_call (bel_alloc hb1 _) hb2⟩

theorem Sl.litsS (w : World) (size n : Nat) (cs : List Value) (t : TypeId) (hl : cs.length = n * size) (h : n ≤ maxLen) : Sl (w.alloc (.cells cs.toArray t)) size (some ⟨w.heap.size, 0, none⟩) n n cs :=
  ⟨hl, by omega, h, (fun h => by cases h), fun j u hj => ⟨_, rfl, by
    rw [addr_lit, cell_of_row _ _ _ _ t (0, 0) (heap_alloc_new w _)]
    simpa using hj⟩⟩
theorem six {w : World} {g1 g2 g3 : Nat} {t : TypeId} {a b c d e f : Value} (h1 : Blk w g1 t #[a, b]) (h2 : Blk w g2 t #[c, d]) (h3 : Blk w g3 t #[e, f]) :
    w.cell? ⟨g1, 0, none⟩ = some a ∧ w.cell? ⟨g1, 1, none⟩ = some b ∧ w.cell? ⟨g2, 0, none⟩ = some c ∧ w.cell? ⟨g2, 1, none⟩ = some d ∧ w.cell? ⟨g3, 0, none⟩ = some e ∧ w.cell? ⟨g3, 1, none⟩ = some f :=
  ⟨h1.cell 0, h1.cell 1, h2.cell 0, h2.cell 1, h3.cell 0, h3.cell 1⟩

theorem longb_len {l : List Ce} {n : Int} (h : longb l n = false) : ∀ c ∈ l, c.2.length ≤ 100 := by
  unfold longb at h
  rw [Bool.or_eq_false_iff] at h
  intro c hc
  have := List.any_eq_false.1 h.1 c hc
  simpa using this
end Go.Proofs.Ytgipfenjachpnaa

namespace Go.Proofs.Ytgipfenjachpnaa
open Go.ChangeShapes Go.WideShapes Go.ChangeAt Go.RowKit
attribute [local go_sem ↓] Go.wp_at_zero Go.wp_at_succ

theorem vb_len1 {n : Nat} (h : n < 128) : (vb n).length = 1 := by rw [vb_small h]; rfl
theorem rowGo_rep {k : Int} (h : k ≠ 1) (d : List UInt8) : ∀ n, rowGo k (List.replicate n (k, d)) = n
  | 0 => rfl
  | n + 1 => by
    rw [List.replicate_succ, rowGo, if_pos ⟨h, rfl⟩, rowGo_rep h d n]
theorem few_other {k : Int} (h : k ≠ 1) (h0 : 0 ≤ k) (h3 : k ≤ 3) {n : Nat} (h1 : 1 ≤ n) (hn : n ≤ 64) : (vb n ++ prun [] (List.replicate n (k, []))).length = 3 := by
  obtain ⟨m, rfl⟩ : ∃ m, n = m + 1 := ⟨n - 1, by omega⟩
  have hr : rowN (List.replicate (m + 1) ((k, []) : Ce)) = m + 1 := by
    have := rowGo_rep h [] (m + 1)
    rw [List.replicate_succ] at this ⊢
    exact this
  obtain ⟨k', ⟨r, d, hk⟩, hp⟩ := prun_row (last := []) (l := List.replicate (m + 1) ((k, []) : Ce)) (by omega)
  rw [List.replicate_succ] at hk
  simp only [List.cons.injEq, Prod.mk.injEq] at hk
  obtain ⟨⟨rfl, _⟩, _⟩ := hk
  rw [hp, hr, List.drop_eq_nil_of_le (by simp)]
  simp only [List.length_append, prun, List.length_nil]
  rw [vb_len1 (by omega), vb_len1 (by omega)]
theorem cpl_self : ∀ d, cpl d d = d.length
  | [] => rfl
  | x :: d => by rw [cpl, if_pos rfl, cpl_self d]; rfl
theorem few_more (d : List UInt8) (hd : d.length ≤ 64) : ∀ n, (prun d (List.replicate n (1, d))).length = 3 * n
  | 0 => by simp [prun]
  | n + 1 => by
    rw [List.replicate_succ, prun_data (rowN_zero.2 rfl)]
    simp only [List.length_append, cpl_self, List.drop_length, List.length_nil]
    rw [vb_len1 (by omega), vb_len1 (by omega), few_more d hd n]
    omega
theorem few_data (d : List UInt8) (hd : d.length ≤ 64) {n : Nat} (h1 : 1 ≤ n) (hn : n ≤ 64) : (vb n ++ prun [] (List.replicate n (1, d))).length = 1 + 3 * n + d.length := by
  obtain ⟨m, rfl⟩ : ∃ m, n = m + 1 := ⟨n - 1, by omega⟩
  rw [List.replicate_succ, prun_data (rowN_zero.2 rfl)]
  have hc : cpl [] d = 0 := by simp [cpl]
  simp only [List.length_append, hc, List.drop_zero]
  rw [vb_len1 (by omega), vb_len1 (by omega), vb_len1 (by omega), few_more d hd m]
  omega
theorem rchk_rep {c : Ce} (h : cchk c = 0) (n : Nat) : rchk (List.replicate n c) = 0 := rchk_ok fun x hx => by rw [List.eq_of_mem_replicate hx]; exact h
theorem map_rep (x : CeV) (n : Nat) : (List.replicate n x).map ceOf = List.replicate n (ceOf x) := by simp

theorem cell_info : (Try.prog.info? 24).map (fun i => (i.zero, i.size, i.bytes)) = some (some (.agg #[.int .i64 0, .slice none 0 0]), 2, 32) := by kernel_rfl
/-- append of one cell, which the walk has laid in a block of its own -/
theorem wpl_cell {w : World} {ops : Array Oper} {rest : List Oper} {o : Oper} {a : Act} {Q : Exit → Act → World → Prop} (hgd : o.guard = none) (s x : Operand)
    (ho : o.op = .call { callee := .builtin .append, args := #[s, x], argTypes := #[27, 27] })
    (base : Nat) (A : Option Addr) (c : Nat) (l : List CeV) (y : CeV) (hs : a.eval s = .slice A l.length c) (hown : Own w base 24 2 A l.length c (l.flatMap cf))
    (hx : a.eval x = .slice (some ⟨w.heap.size, 0, none⟩) 1 1) (hlen : l.length ≤ 1000000000) (hbase : base ≤ w.heap.size)
    (h : ∀ A' c' (m : List CeV) w', Hid (m = l ++ [y]) → Own w' base 24 2 A' m.length c' (m.flatMap cf) → Below base w w' → wpList Try.prog ops Q rest (a.put o.dst (.slice A' m.length c')) w') :
    wpList Try.prog ops Q (o :: rest) a (w.alloc (.cells #[.int .i64 y.1, .slice y.2.1 y.2.2.2.length y.2.2.1] 24)) := by
  obtain ⟨i0, hi, hz0, hz1, hz2⟩ := info_parts cell_info
  have hbl : Below base w (w.alloc (.cells #[.int .i64 y.1, .slice y.2.1 y.2.2.2.length y.2.2.1] 24)) := (Below.refl _ _).alloc hbase _
  refine wpl_append hgd s x 27 ho base 24 i0 _ 2 32 Try.underlying27 hi hz0 hz1 hz2 rfl (by decide) A l.length c (l.flatMap cf) hs (World.ownsRow.alloc hown _) (some ⟨w.heap.size, 0, none⟩) 1 1 (cf y) hx (Sl.litsS w 2 1 (cf y) 24 rfl (by simp [maxLen]))
    (fun u hu => by simp [cf] at hu; rcases hu with rfl | rfl <;> rfl) (by omega) (by simp only [maxLen]; omega) (by simp; omega) ?_
  intro A' c' w' hap
  have hl : l.length + 1 = (l ++ [y]).length := by simp
  rw [hl]
  refine h A' c' (l ++ [y]) w' rfl ?_ (hbl.trans (hap.below (World.ownsRow.alloc hown _) (by simp; omega)))
  have := hap.own
  simpa using this

def u4 (kind : Int) (q : Int) : Prop := (IntKind.u64.wrap kind).tmod 4 = q
theorem u4_cases (kind : Int) : u4 kind 1 ∨ u4 kind 0 ∨ u4 kind 2 ∨ u4 kind 3 := by
  unfold u4
  rw [IntKind.wrap_u64]
  have h : (0 : Int) ≤ kind % 18446744073709551616 := Int.emod_nonneg _ (by decide)
  rw [Int.tmod_eq_emod_of_nonneg h]
  omega
theorem u64m (many : Int) : ∃ mm : Nat, mm ≤ 63 ∧ (IntKind.u64.wrap many).tmod 64 = (mm : Int) := by
  rw [IntKind.wrap_u64]
  have h : (0 : Int) ≤ many % 18446744073709551616 := Int.emod_nonneg _ (by decide)
  rw [Int.tmod_eq_emod_of_nonneg h]
  exact ⟨((many % 18446744073709551616) % 64).toNat, by omega, by omega⟩

end Go.Proofs.Ytgipfenjachpnaa

namespace Go.Proofs.Ytgipfenjachpnaa
open Go.RowKit
attribute [local go_sem ↓] Go.wp_at_zero Go.wp_at_succ

set_option maxRecDepth 100000 in
set_option maxHeartbeats 1000000 in
theorem common_any (xs ys : List UInt8) (w : World) (hm1 : xs.length ≤ 1000000) (_hm2 : ys.length ≤ 1000000) :
    Calls Try.prog 80 #[.string ⟨xs.toArray⟩, .string ⟨ys.toArray⟩] w fun e w' => e = .returned (.int .i64 (cpl xs ys : Nat)) ∧ Below w.heap.size w w' := by
  go_enter Try.func80, Try.ntmps80
  go_wp2_with fail
  go_loopw [5] (fun x wr => ∃ k : Nat, k ≤ xs.length ∧ k ≤ ys.length ∧ x = .int .i64 k ∧ Hid (xs.take k = ys.take k) ∧ Below w.heap.size w wr) (fun x w => xs.length - (intOf x).toNat)
  case atStart => exact ⟨0, Nat.zero_le _, Nat.zero_le _, rfl, (show _ = _ by simp), Below.refl _ _⟩
  case round =>
    obtain ⟨k, hk1, hk2, rfl, ht, hbr⟩ := hrel
    by_cases hl1 : k < xs.length
    · by_cases hl2 : k < ys.length
      · have hts := Lib.hid (take_succ_eq ht.out hl1 hl2)
        have hend := Lib.hid (fun h => cpl_end hk1 hk2 ht.out (.inr (.inr ⟨hl1, hl2, h⟩)))
        have hge : decide ((ys.length : Int) ≤ (k : Int)) = false := by simp; omega
        by_cases hxy : xs[k] = ys[k]
        · have hxb : ((((⟨xs.toArray⟩ : ByteArray)[k]'hl1).toNat : Int) != (((⟨ys.toArray⟩ : ByteArray)[k]'hl2).toNat : Int)) = false := by
            show ((xs[k].toNat : Int) != (ys[k].toNat : Int)) = false
            simp [hxy]
          have Hxy := Lib.hid hxy
          clear hxy
          go_wp2_with fail
          go_quiet (fail)
          go_wp2_with fail
          go_roundw
          case rel => exact ⟨k + 1, hl1, hl2, by go_num, hts.out.2 Hxy.out, below_drewN hbr _⟩
          case measure => simp [intOf]; omega
        · have hxb : ((((⟨xs.toArray⟩ : ByteArray)[k]'hl1).toNat : Int) != (((⟨ys.toArray⟩ : ByteArray)[k]'hl2).toNat : Int)) = true := by
            show ((xs[k].toNat : Int) != (ys[k].toNat : Int)) = true
            have := u8_eq_iff (x := xs[k]) (y := ys[k])
            simp only [bne, Bool.not_eq_true', Bool.eq_false_iff]
            exact fun h => hxy (this.1 h)
          have he := Lib.hid (hend.out hxy)
          clear hxy
          go_wp2_with fail
          go_quiet (fail)
          go_wp2_with fail
          go_ret
          exact ⟨by rw [he.out]; rfl, below_drewN hbr _⟩
      · have hge : decide ((ys.length : Int) ≤ (k : Int)) = true := by simp; omega
        have he := Lib.hid (cpl_end hk1 hk2 ht.out (.inr (.inl (by omega))))
        go_wp2_with fail
        go_quiet (fail)
        go_wp2_with fail
        go_ret
        exact ⟨by rw [he.out]; rfl, below_drewN hbr _⟩
    · have he := Lib.hid (cpl_end hk1 hk2 ht.out (.inl (by omega)))
      obtain rfl : k = xs.length := by omega
      go_wp2_with fail
      go_ret
      exact ⟨by rw [he.out]; rfl, hbr⟩

abbrev df (c : Ce) : List Value := [.int .i64 c.1, .string ⟨c.2.toArray⟩]
theorem dcell_info : (Try.prog.info? 29).map (fun i => (i.zero, i.size, i.bytes)) = some (some (.agg #[.int .i64 0, .string ⟨#[]⟩]), 2, 24) := by kernel_rfl
/-- append of one of the document's cells, which the walk has laid in a block of its own -/
theorem wpl_dcell {w : World} {ops : Array Oper} {rest : List Oper} {o : Oper} {a : Act} {Q : Exit → Act → World → Prop} (hgd : o.guard = none) (s x : Operand)
    (ho : o.op = .call { callee := .builtin .append, args := #[s, x], argTypes := #[69, 69] })
    (base : Nat) (A : Option Addr) (c : Nat) (l : List Ce) (y : Ce) (hs : a.eval s = .slice A l.length c) (hown : Own w base 29 2 A l.length c (l.flatMap df))
    (hx : a.eval x = .slice (some ⟨w.heap.size, 0, none⟩) 1 1) (hlen : l.length ≤ 1000000000) (hbase : base ≤ w.heap.size)
    (h : ∀ A' c' (m : List Ce) w', Hid (m = l ++ [y]) → Own w' base 29 2 A' m.length c' (m.flatMap df) → Below base w w' → wpList Try.prog ops Q rest (a.put o.dst (.slice A' m.length c')) w') :
    wpList Try.prog ops Q (o :: rest) a (w.alloc (.cells #[.int .i64 y.1, .string ⟨y.2.toArray⟩] 29)) := by
  obtain ⟨i0, hi, hz0, hz1, hz2⟩ := info_parts dcell_info
  have hbl : Below base w (w.alloc (.cells #[.int .i64 y.1, .string ⟨y.2.toArray⟩] 29)) := (Below.refl _ _).alloc hbase _
  refine wpl_append hgd s x 69 ho base 29 i0 _ 2 24 Try.underlying69 hi hz0 hz1 hz2 rfl (by decide) A l.length c (l.flatMap df) hs (World.ownsRow.alloc hown _) (some ⟨w.heap.size, 0, none⟩) 1 1 (df y) hx (Sl.litsS w 2 1 (df y) 29 rfl (by simp [maxLen]))
    (fun u hu => by simp [df] at hu; rcases hu with rfl | rfl <;> rfl) (by omega) (by simp only [maxLen]; omega) (by simp; omega) ?_
  intro A' c' w' hap
  have hl : l.length + 1 = (l ++ [y]).length := by simp
  rw [hl]
  refine h A' c' (l ++ [y]) w' rfl ?_ (hbl.trans (hap.below (World.ownsRow.alloc hown _) (by simp; omega)))
  have := hap.own
  simpa using this
/-- the document's cells that can be read -/
abbrev SlD (w : World) (E : Option Addr) (cap : Nat) (l : List Ce) : Prop := Sl w 2 E l.length cap (l.flatMap df)

end Go.Proofs.Ytgipfenjachpnaa

namespace Go.Proofs.Ytgipfenjachpnaa
open Go.RowKit
attribute [local go_sem ↓] Go.wp_at_zero Go.wp_at_succ

theorem ext_drop (d : List UInt8) (s n : Nat) (hn : n = d.length) : (⟨d.toArray⟩ : ByteArray).extract s n = ⟨(d.drop s).toArray⟩ := by
  subst hn
  apply ByteArray.ext
  simp only [ByteArray.data_extract, List.extract_toArray]
  rw [List.extract_eq_take_drop, List.take_of_length_le (by simp)]
/-- append of a string to bytes -/
theorem wpl_str {w : World} {ops : Array Oper} {rest : List Oper} {o : Oper} {a : Act} {Q : Exit → Act → World → Prop} (hgd : o.guard = none) (s x : Operand)
    (ho : o.op = .call { callee := .builtin .append, args := #[s, x], argTypes := #[22, 9] })
    (base : Nat) (A : Option Addr) (c : Nat) (l : List UInt8) (hs : a.eval s = .slice A l.length c) (hown : OwnB w base 5 A c l)
    (sb : ByteArray) (l2 : List UInt8) (hsb : sb = ⟨l2.toArray⟩) (hx : a.eval x = .string sb) (hlen : l.length + l2.length ≤ 1000000000) (hbase : base ≤ w.heap.size)
    (h : ∀ A' c' (m : List UInt8) w', Hid (m = l ++ l2) → OwnB w' base 5 A' c' m → w.grownBy w' (A.map (·.block)) → Below base w w' → wpList Try.prog ops Q rest (a.put o.dst (.slice A' m.length c')) w') : wpList Try.prog ops Q (o :: rest) a w := by
  subst hsb
  obtain ⟨i0, hi, hz0, hz1, hz2⟩ := info_parts u8_info
  have hsz : (⟨l2.toArray⟩ : ByteArray).size = l2.length := rfl
  have hsc : Lib.strCells ⟨l2.toArray⟩ = bvs l2 := rfl
  refine Lib.wpList_append_own_string (P := Try.prog) w hgd s x 22 9 ho base 5 i0 Try.underlying22 Try.underlying9 hi hz0 hz1 hz2 (.slice A l.length c) l.length (bvs l) hs hown ⟨l2.toArray⟩ hx (by rw [hsz]; simp only [maxLen]; omega) (by rw [hsz]; omega) hbase ?_
  intro v' w' hown' hg _
  rw [hsz, hsc] at hown'
  have hb : Below base w w' := (Below.refl _ _).grown hg hbase (fun k hk => by rw [ownBlock_slice] at hk; exact (hown.lt k hk).1)
  have hform : ∃ A' c', v' = .slice A' (l ++ l2).length c' := by
    rw [List.length_append]
    rcases hown'.2 with ⟨rfl, hn⟩ | ⟨g, cap, _, rfl, _⟩
    · exact ⟨none, 0, by rw [hn]⟩
    · exact ⟨_, _, rfl⟩
  obtain ⟨A', c', rfl⟩ := hform
  rw [ownBlock_slice] at hg
  refine h A' c' (l ++ l2) w' rfl ?_ hg hb
  rw [← List.length_append] at hown'
  simpa [OwnB] using hown'

/-- a block of another type is as it was behind an append -/
theorem Blk.append {w w' : World} {g : Nat} {t e : TypeId} {cs : Array Value} {base size n c : Nat} {A : Option Addr} {xs : List Value} (h : Blk w g t cs) (ho : Own w base e size A n c xs) (hg : w.grownBy w' (A.map (·.block))) (hne : e ≠ t) : Blk w' g t cs := by
  refine (hg.block g h.lt (fun he => ?_)).trans h
  rcases ho.2 with ⟨hv, _⟩ | ⟨g', cap, cur, hv, _, hh, _⟩
  · injection hv with hA
    subst hA
    simp at he
  · injection hv with hA
    subst hA
    simp at he
    subst he
    unfold Blk at h
    rw [h] at hh
    injection hh with hh
    injection hh with _ ht
    exact hne ht.symm
def prevK (ds : List Ce) (k : Nat) : Option Int := if k = 0 then none else ds[k - 1]?.map (·.1)
theorem prevK_succ {ds : List Ce} {k : Nat} (h : k < ds.length) : prevK ds (k + 1) = some ds[k].1 := by
  unfold prevK
  rw [if_neg (by omega)]
  simp [List.getElem?_eq_getElem h]
theorem rgo_at {ds : List Ce} {k : Nat} (h : k < ds.length) (prev : Option Int) (last : List UInt8) : rgo prev last (ds.drop k) = if ds[k].1 = 1 then [0, b1 ds[k].2.length, b1 (cpl ds[k].2 last)] ++ ds[k].2.drop (cpl ds[k].2 last) ++ rgo (some 1) ds[k].2 (ds.drop (k + 1))
    else if prev = some ds[k].1 then rgo (some ds[k].1) last (ds.drop (k + 1)) else [b1 (rowGo ds[k].1 (ds.drop k)), b1 ds[k].1.toNat] ++ rgo (some ds[k].1) last (ds.drop (k + 1)) := by
  rw [List.drop_eq_getElem_cons h, rgo]

end Go.Proofs.Ytgipfenjachpnaa

namespace Go.Proofs.Ytgipfenjachpnaa
open Go.ChangeShapes Go.WideShapes Go.ChangeAt Go.RowKit Go.Deep

section
variable {H : Type} {enc : TypeId × Value → H} {P : Program} {w : World} {base b0 : Nat} {held : Bool} {r : Reach} {t e b : TypeId} {v : Value} {d : DataW H} {p : List MemPlace}
theorem bytes_cell {n : Nat} {y : DataW H × List MemPlace} (ht : P.underlying t = some (.slice e)) (he : P.underlying e = some (.int .u8)) (hC : P.cellsOf e = 1) (h : DataW.trod enc P w base (fun _ => true) held n t [v] = some y) :
    ∃ (A : Option Addr) (c : Nat) (l : List UInt8), v = .slice A l.length c ∧ SlB w A c l := by
  rcases open_ints ht he hC h with ⟨hcs, _⟩ | ⟨x, l, c', zs, hcs, _, hl, hm, hz, _, hcell, hwz⟩
  · simp at hcs
    subst hcs
    exact ⟨none, 0, [], rfl, Sl.none_ _ _⟩
  · simp at hcs
    subst hcs
    simp only [if_true] at hz
    have hs := row_reads hl hm hz hcell
    have hw : ∀ z ∈ zs.take l, (Lit.int .u8 z).wf = true := fun z hz => hwz z (List.mem_of_mem_take hz)
    have hm : (zs.take l).map (Value.int .u8) = bvs ((zs.take l).map fun z => UInt8.ofNat z.toNat) := by
      rw [bvs, List.map_map]
      refine List.map_congr_left fun z hz => ?_
      have hb := bounds_u8 (hw z hz)
      simp only [Function.comp, bv, UInt8.toNat_ofNat']
      congr 1
      omega
    rw [hm] at hs
    have hlen : ((zs.take l).map fun z => UInt8.ofNat z.toNat).length = l := by simp; omega
    refine ⟨some x, c', (zs.take l).map fun z => UInt8.ofNat z.toNat, by rw [hlen], ?_⟩
    show Sl w 1 _ (List.map _ _).length c' _
    rw [hlen]
    exact hs
theorem open_cell {f0 f1 : Field} (hs : P.underlying t = some (.struct #[f0, f1])) (h0 : P.underlying f0.type = some (.int .i64)) (h1 : P.underlying f1.type = some (.slice e)) (he : P.underlying e = some (.int .u8))
    (hCe : P.cellsOf e = 1) (hone : oneCellFields P #[f0, f1] = true) (hC : P.cellsOf t = 2) (hv : Value.okWide P w r b0 t v) (h : DataW.Trod enc P w base (fun _ => true) held t v d p) :
    ∃ (k : Int) (A : Option Addr) (c : Nat) (l : List UInt8), v = cv k A l.length c ∧ I64 k ∧ SlB w A c l := by
  obtain ⟨v0, v1, y0, y1, n, rfl, _, _, g0, g1⟩ := Go.Joins.open_agg2 hs hone hC hv h
  obtain ⟨k, rfl, hk⟩ := int_cell h0 g0
  obtain ⟨A, c, l, rfl, hl⟩ := bytes_cell h1 he hCe g1
  exact ⟨k, A, c, l, rfl, hk, hl⟩
theorem open_cells {f0 f1 : Field} (ht : P.underlying t = some (.slice b)) (hs : P.underlying b = some (.struct #[f0, f1])) (h0 : P.underlying f0.type = some (.int .i64)) (h1 : P.underlying f1.type = some (.slice e)) (he : P.underlying e = some (.int .u8))
    (hCe : P.cellsOf e = 1) (hone : oneCellFields P #[f0, f1] = true) (hC : P.cellsOf b = 2) (hv : Value.okWide P w r b0 t v) (h : DataW.Trod enc P w base (fun _ => true) held t v d p) :
    ∃ (A : Option Addr) (c : Nat) (l : List CeV), v = .slice A l.length c ∧ SlC w A c l ∧ ∀ x ∈ l, I64 x.1 := by
  obtain ⟨A, c, l, rfl, hl, hq⟩ := open_structs cf (fun x => I64 x.1 ∧ SlB w x.2.1 x.2.2.1 x.2.2.2) (fun _ => rfl) ht hs hone hC (by
    intro vs hl hf
    obtain ⟨u0, n0, y0, e0, t0⟩ := hf 0 f0 rfl
    obtain ⟨u1, n1, y1, e1, t1⟩ := hf 1 f1 rfl
    obtain ⟨k, rfl, hk⟩ := int_cell h0 t0
    obtain ⟨A, c, l, rfl, hb⟩ := bytes_cell h1 he hCe t1
    match vs, hl with
    | [x0, x1], _ =>
      simp at e0 e1
      exact ⟨(k, A, c, l), by simp [cf, e0, e1], hk, hb⟩) hv h
  exact ⟨A, c, l, rfl, ⟨hl, fun x hx => (hq x hx).2⟩, fun x hx => (hq x hx).1⟩
end
end Go.Proofs.Ytgipfenjachpnaa

namespace Go.Proofs.Ytgipfenjachpnaa
open Go.ChangeShapes Go.WideShapes Go.ChangeAt Go.RowKit
attribute [local go_sem ↓] Go.wp_at_zero Go.wp_at_succ

theorem rchk_snoc (l : List Ce) (c : Ce) : rchk (l ++ [c]) = if rchk l ≠ 0 then rchk l else cchk c := by
  induction l with
  | nil =>
    by_cases h : cchk c = 0
    · simp [rchk, h]
    · simp [rchk, h]
  | cons x l ih =>
    by_cases h : cchk x = 0
    · simp only [List.cons_append, rchk, h, ne_eq, not_true_eq_false, if_false]
      exact ih
    · simp [rchk, h]
def bad64 (n : Nat) (l : List Ce) : Nat := if 64 < n then 3 else rchk l

theorem rchk_zero : ∀ {l : List Ce}, rchk l = 0 → ∀ c ∈ l, cchk c = 0
  | [], _, c, hc => by simp at hc
  | x :: l, h, c, hc => by
    by_cases hx : cchk x = 0
    · have h2 : rchk l = 0 := by simpa [rchk, hx] using h
      rcases List.mem_cons.mp hc with rfl | hc
      · exact hx
      · exact rchk_zero h2 c hc
    · simp [rchk, hx] at h

theorem rgo_len : ∀ (l : List Ce) (prev : Option Int) (last : List UInt8), (∀ c ∈ l, cchk c = 0) → (rgo prev last l).length ≤ 100 * l.length
  | [], _, _, _ => by rw [rgo]; simp
  | c :: r, prev, last, h => by
    have hc := (cchk_ok (h c (by simp))).2.2.1
    have hr := fun prev last => rgo_len r prev last (fun c hc => h c (by simp [hc]))
    rw [rgo]
    simp only [List.length_cons]
    split
    · have := hr (some 1) c.2
      simp
      omega
    · split
      · have := hr (some c.1) last
        omega
      · have := hr (some c.1) last
        simp
        omega

namespace CellRuns
end CellRuns
end Go.Proofs.Ytgipfenjachpnaa

namespace Go.Proofs.Ytgipfenjachpnaa
open Go.RowKit

/-- a segment: its first address, its cells -/
abbrev Sg := Int × List Ce
/-- an error's number -/
def schk (s : Sg) : Nat := if s.1 < 0 ∨ 1048576 < s.1 then 1 else if 64 < s.2.length then 3 else if 1048576 < s.1 + s.2.length then 1 else rchk s.2
def sjoin (a b : Sg) : Sg × Nat := if schk a ≠ 0 then ((0, []), schk a) else if schk b ≠ 0 then ((0, []), schk b) else if b.1 ≠ a.1 + a.2.length then ((0, []), 13)
  else if schk (a.1, a.2 ++ b.2) ≠ 0 then ((0, []), schk (a.1, a.2 ++ b.2)) else ((a.1, a.2 ++ b.2), 0)
def spart (s : Sg) (f t : Int) : Sg × Nat := if schk s ≠ 0 then ((0, []), schk s) else if f < s.1 ∨ s.1 + s.2.length < t ∨ t < f then ((0, []), 1)
  else ((f, (s.2.drop (f - s.1).toNat).take (t - f).toNat), 0)
theorem schk_ok {s : Sg} (h : schk s = 0) : 0 ≤ s.1 ∧ s.1 ≤ 1048576 ∧ s.2.length ≤ 64 ∧ s.1 + s.2.length ≤ 1048576 ∧ rchk s.2 = 0 := by
  unfold schk at h
  by_cases h1 : s.1 < 0 ∨ 1048576 < s.1
  · rw [if_pos h1] at h; simp at h
  rw [if_neg h1] at h
  by_cases h2 : 64 < s.2.length
  · rw [if_pos h2] at h; simp at h
  rw [if_neg h2] at h
  by_cases h3 : 1048576 < s.1 + s.2.length
  · rw [if_pos h3] at h; simp at h
  rw [if_neg h3] at h
  exact ⟨by omega, by omega, by omega, by omega, h⟩
theorem schk_range {s : Sg} (h : s.1 < 0 ∨ 1048576 < s.1) : schk s = 1 := by unfold schk; rw [if_pos h]
theorem schk_long {s : Sg} (h : ¬ (s.1 < 0 ∨ 1048576 < s.1)) (h2 : 64 < s.2.length) : schk s = 3 := by unfold schk; rw [if_neg h, if_pos h2]
theorem schk_far {s : Sg} (h : ¬ (s.1 < 0 ∨ 1048576 < s.1)) (h2 : ¬ 64 < s.2.length) (h3 : 1048576 < s.1 + s.2.length) : schk s = 1 := by unfold schk; rw [if_neg h, if_neg h2, if_pos h3]
theorem schk_cells {s : Sg} (h : ¬ (s.1 < 0 ∨ 1048576 < s.1)) (h2 : ¬ 64 < s.2.length) (h3 : ¬ 1048576 < s.1 + s.2.length) : schk s = rchk s.2 := by unfold schk; rw [if_neg h, if_neg h2, if_neg h3]
theorem rchk_part {l : List Ce} (h : rchk l = 0) (i n : Nat) : rchk ((l.drop i).take n) = 0 := rchk_ok fun c hc => rchk_zero h c (List.mem_of_mem_drop (List.mem_of_mem_take hc))
end Go.Proofs.Ytgipfenjachpnaa

namespace Go.Proofs.Ytgipfenjachpnaa
open Go.RowKit
attribute [local go_sem ↓] Go.wp_at_zero Go.wp_at_succ

set_option maxRecDepth 100000 in
set_option maxHeartbeats 400000 in
theorem SEnd_any (f : Int) (E : Option Addr) (n c : Nat) (w : World) (h0 : 0 ≤ f) (h1 : f ≤ 1048576) (h2 : n ≤ 100000000) :
    Calls Try.prog 124 #[cv f E n c] w fun e w' => e = .returned (.int .i64 (f + (n : Int))) ∧ Below w.heap.size w w' := by
  have hbw := below_new w (.cells #[.int .i64 f, .slice E n c] 101)
  go_enter Try.func124, Try.ntmps124
  go_wp2_with fail
  go_ret
  exact ⟨rfl, hbw⟩

set_option maxRecDepth 100000 in
set_option maxHeartbeats 1000000 in
theorem SCheck_any {E : Option Addr} {cap : Nat} (f : Int) (cs : List CeV) (w : World) (h : SlC w E cap cs) :
    Calls Try.prog 115 #[cv f E cs.length cap] w fun e w' => e = .returned (errv (schk (f, cs.map ceOf))) ∧ Below w.heap.size w w' := by
  have hmax := h.1.len_le
  unfold maxLen at hmax
  have hbw := below_new w (.cells #[.int .i64 f, .slice E cs.length cap] 101)
  have hB := Blk.new w 101 #[.int .i64 f, .slice E cs.length cap]
  by_cases h1 : f < 0
  · have hc := Lib.hid (schk_range (s := (f, cs.map ceOf)) (.inl h1))
    go_enter Try.func115, Try.ntmps115
    go_wp2_with fail
    go_ret
    exact ⟨by rw [hc.out]; rfl, hbw⟩
  by_cases h2 : 1048576 < f
  · have hc := Lib.hid (schk_range (s := (f, cs.map ceOf)) (.inr h2))
    go_enter Try.func115, Try.ntmps115
    go_wp2_with fail
    go_ret
    exact ⟨by rw [hc.out]; rfl, hbw⟩
  have hr : ¬ (f < 0 ∨ 1048576 < f) := by omega
  by_cases h3 : 64 < cs.length
  · have hc := Lib.hid (schk_long (s := (f, cs.map ceOf)) hr (by simpa using h3))
    clear hr
    go_enter Try.func115, Try.ntmps115
    go_wp2_with fail
    go_ret
    exact ⟨by rw [hc.out]; rfl, hbw⟩
  by_cases h4 : 1048576 < f + cs.length
  · have hc := Lib.hid (schk_far (s := (f, cs.map ceOf)) hr (by simpa using h3) (by simpa using h4))
    clear hr
    obtain ⟨a0, a1, _, _⟩ := hB.two
    go_enter Try.func115, Try.ntmps115
    go_wp2_with fail
    refine (SEnd_any f E cs.length cap _ (by omega) (by omega) (by omega)).mono ?_
    rintro e w1 ⟨rfl, hb1⟩
    go_wp2_with fail
    go_ret
    exact ⟨by rw [hc.out]; rfl, bel_call hbw hb1⟩
  have hc := Lib.hid (schk_cells (s := (f, cs.map ceOf)) hr (by simpa using h3) (by simpa using h4))
  clear hr
  obtain ⟨a0, a1, _, _⟩ := hB.two
  go_enter Try.func115, Try.ntmps115
  go_wp2_with fail
  refine (SEnd_any f E cs.length cap _ (by omega) (by omega) (by omega)).mono ?_
  rintro e w1 ⟨rfl, hb1⟩
  have hw1 := bel_call hbw hb1
  have hB1 := hB.below hb1
  obtain ⟨a0, a1, _, _⟩ := hB1.two
  clear hB hbw hb1 hB1
  go_wp2_with fail
  go_loopw [30] (fun x wr => ∃ k : Nat, k ≤ cs.length ∧ x = .int .i64 k ∧ Hid (∀ c ∈ (cs.map ceOf).take k, cchk c = 0) ∧ Below w.heap.size w wr) (fun x w => cs.length - (intOf x).toNat)
  case atStart => exact ⟨0, Nat.zero_le _, rfl, (fun c hc => by simp at hc), hw1⟩
  case round =>
    obtain ⟨k, hk, rfl, hall, hbr⟩ := hrel
    clear a0 a1
    by_cases hlt : k < cs.length
    · obtain ⟨ad, b, o, rfl, had, hc0, hc1, _⟩ := (h.below hbr).at2 hlt
      have hbad := Lib.hid (rchk_at (l := cs.map ceOf) (k := k) (by simpa using hlt) hall.out)
      have hgood : Hid (cchk ((cs.map ceOf)[k]'(by simpa using hlt)) = 0 → ∀ c ∈ (cs.map ceOf).take (k + 1), cchk c = 0) := (show _ → _ from fun h c hc => by
        rw [List.take_succ_eq_append_getElem (by simpa using hlt), List.mem_append] at hc
        rcases hc with hc | hc
        · exact hall.out c hc
        · simp only [List.mem_singleton] at hc
          rw [hc]; exact h)
      rw [List.getElem_map] at hbad hgood
      generalize cs[k] = x at *
      obtain ⟨kk, A, c, d⟩ := x
      dsimp only [ceOf] at *
      have hC := fun W => CCheck_any (A := A) (c := c) kk d W
      rcases errv_cases (cchk (kk, d)) with ⟨h1, e1⟩ | ⟨n1, p1, q1, e1⟩
      · simp only [e1] at hC
        have C1 := Lib.hid hC
        have hg := Lib.hid (hgood.out h1)
        clear hC h1 e1 hgood hbad
        go_wp2_with fail
        refine (C1.out _).mono ?_
        rintro e w4 ⟨rfl, hb4⟩
        have hn4 := bel_call (bel_alloc hbr (.cells #[.int .i64 kk, .slice A d.length c] 24)) hb4
        go_wp2_with fail
        go_roundw
        case rel => exact ⟨k + 1, hlt, by go_num, hg, hn4⟩
        case measure => simp [intOf]; omega
      · simp only [e1] at hC
        have C1 := Lib.hid hC
        have hr : Hid (rchk (cs.map ceOf) = cchk (kk, d)) := Lib.hid (hbad.out (by omega))
        have E1 := Lib.hid e1
        clear hC hbad hgood e1 q1
        go_wp2_with fail
        refine (C1.out _).mono ?_
        rintro e w4 ⟨rfl, hb4⟩
        have hn4 := bel_call (bel_alloc hbr (.cells #[.int .i64 kk, .slice A d.length c] 24)) hb4
        go_wp2_with fail
        go_ret
        exact ⟨by rw [hc.out]; dsimp only; rw [hr.out, E1.out]; rfl, hn4⟩
    · go_wp2_with fail
      go_ret
      have h5 : rchk (cs.map ceOf) = 0 := rchk_ok fun c hc => hall.out c (by rw [List.take_of_length_le (by simp; omega)]; exact hc)
      exact ⟨by rw [hc.out]; dsimp only; rw [h5]; rfl, hbr⟩
end Go.Proofs.Ytgipfenjachpnaa

namespace Go.Proofs.Ytgipfenjachpnaa
open Go.RowKit
attribute [local go_sem ↓] Go.wp_at_zero Go.wp_at_succ

theorem rchk_next {l : List Ce} {k : Nat} (hk : k < l.length) (hall : ∀ c ∈ l.take k, cchk c = 0) (h0 : cchk l[k] = 0) : ∀ c ∈ l.take (k + 1), cchk c = 0 := fun c hc => by
  rw [List.take_succ_eq_append_getElem hk, List.mem_append] at hc
  rcases hc with hc | hc
  · exact hall c hc
  · simp only [List.mem_singleton] at hc
    rw [hc]; exact h0

end Go.Proofs.Ytgipfenjachpnaa

namespace Go.Proofs.Ytgipfenjachpnaa
open Go.RowKit
attribute [local go_sem ↓] Go.wp_at_zero Go.wp_at_succ

def ssame (a b : Sg) : Bool := decide (a = b)
theorem same_iff {a b : Ce} : same a b = true ↔ a = b := by unfold same; exact decide_eq_true_iff
theorem take_ne {xs ys : List Ce} {k : Nat} (hx : k < xs.length) (hy : k < ys.length) (h : xs[k] ≠ ys[k]) : decide (xs = ys) = false := by
  rw [decide_eq_false_iff_not]
  rintro rfl
  exact h rfl
theorem len_ne {xs ys : List Ce} (h : xs.length ≠ ys.length) : decide (xs = ys) = false := by
  rw [decide_eq_false_iff_not]
  rintro rfl
  exact h rfl
set_option maxRecDepth 100000 in
set_option maxHeartbeats 1000000 in
theorem EqualFunc_any {E G : Option Addr} {cap cap2 : Nat} (cs ds : List CeV) (w : World) (h : SlC w E cap cs) (h2 : SlC w G cap2 ds) :
    Calls Try.prog 120 #[.slice E cs.length cap, .slice G ds.length cap2, .func (.func 16) #[] #[]] w fun e w' => e = .returned (.bool (decide (cs.map ceOf = ds.map ceOf))) ∧ Below w.heap.size w w' := by
  have hmax := h.1.len_le
  have hmax2 := h2.1.len_le
  unfold maxLen at hmax hmax2
  by_cases hl : cs.length = ds.length
  · have HL := Lib.hid hl
    have hlb : ((cs.length : Int) != (ds.length : Int)) = false := by simp [hl]
    have hle1 : cs.length ≤ ds.length := by omega
    have hle2 : ds.length ≤ cs.length := by omega
    clear hl
    go_enter Try.func120, Try.ntmps120
    go_wp2_with fail
    go_loopw [17] (fun x wr => ∃ k : Nat, k ≤ cs.length ∧ x = .int .i64 k ∧ Hid ((cs.map ceOf).take k = (ds.map ceOf).take k) ∧ Below w.heap.size w wr) (fun x w => cs.length - (intOf x).toNat)
    case atStart => exact ⟨0, Nat.zero_le _, rfl, (show _ = _ from by simp), Below.refl _ _⟩
    case round =>
      obtain ⟨k, hk, rfl, hall, hbr⟩ := hrel
      by_cases hlt : k < cs.length
      · have hlt2 : k < ds.length := by omega
        obtain ⟨ad, b, o, rfl, had, hc0, hc1, hsx⟩ := (h.below hbr).at2 hlt
        obtain ⟨ad2, b2, o2, rfl, had2, hd0, hd1, hsy⟩ := (h2.below hbr).at2 hlt2
        have hnx := Lib.hid (take_succ_eq hall.out (by simpa using hlt) (by simpa using hlt2))
        have hno := Lib.hid (take_ne (xs := cs.map ceOf) (ys := ds.map ceOf) (k := k) (by simpa using hlt) (by simpa using hlt2))
        rw [List.getElem_map, List.getElem_map] at hnx hno
        generalize cs[k] = x at *
        generalize ds[k] = y at *
        obtain ⟨kk, A, c, d⟩ := x
        obtain ⟨kk2, A2, c2, d2⟩ := y
        dsimp only [ceOf] at *
        have hb2 := bel_alloc (below_new wr (.cells #[.int .i64 kk, .slice A d.length c] 24)) (.cells #[.int .i64 kk2, .slice A2 d2.length c2] 24)
        have hlb2 : b2 < wr.heap.size := World.block_lt_of_cell? wr _ hd0
        have hne2 : b2 ≠ wr.heap.size := by omega
        go_wp2_with fail
        refine (CSame_any kk kk2 d d2 _ (hsx.below hb2) (hsy.below hb2)).mono ?_
        rintro e w4 ⟨rfl, hb4⟩
        have hn4 := bel_call (bel_call hbr hb2) hb4
        cases hs : same (kk, d) (kk2, d2)
        · have he : ((kk, d) : Ce) ≠ (kk2, d2) := by intro he; rw [same_iff.2 he] at hs; cases hs
          have hr := Lib.hid (hno.out he)
          clear he hs hno hnx
          go_wp2_with fail
          go_ret
          exact ⟨by rw [hr.out]; rfl, hn4⟩
        · have hr := Lib.hid (hnx.out.2 (same_iff.1 hs))
          clear hs hno hnx
          go_wp2_with fail
          go_roundw
          case rel => exact ⟨k + 1, hlt, by go_num, hr, hn4⟩
          case measure => simp [intOf]; omega
      · go_wp2_with fail
        go_ret
        have h5 := hall.out
        rw [List.take_of_length_le (by simp; omega), List.take_of_length_le (by simp; omega)] at h5
        exact ⟨by rw [decide_eq_true h5]; rfl, hbr⟩
  · have hlb : ((cs.length : Int) != (ds.length : Int)) = true := by simp; omega
    have hr := Lib.hid (len_ne (xs := cs.map ceOf) (ys := ds.map ceOf) (by simpa using hl))
    clear hl
    go_enter Try.func120, Try.ntmps120
    go_wp2_with fail
    go_ret
    exact ⟨by rw [hr.out]; rfl, Below.refl _ _⟩

theorem ssame_ne {f f2 : Int} {l m : List Ce} (h : f ≠ f2) : ssame (f, l) (f2, m) = false := by
  unfold ssame
  rw [decide_eq_false_iff_not]
  intro he
  exact h (congrArg Prod.fst he)
theorem ssame_eq {f : Int} {l m : List Ce} : ssame (f, l) (f, m) = decide (l = m) := by
  unfold ssame
  rw [decide_eq_decide]
  exact ⟨fun h => congrArg Prod.snd h, fun h => by rw [h]⟩

set_option maxRecDepth 100000 in
set_option maxHeartbeats 1000000 in
theorem SSame_any {E G : Option Addr} {cap cap2 : Nat} (f f2 : Int) (cs ds : List CeV) (w : World) (h : SlC w E cap cs) (h2 : SlC w G cap2 ds) :
    Calls Try.prog 99 #[cv f E cs.length cap, cv f2 G ds.length cap2] w fun e w' => e = .returned (.bool (ssame (f, cs.map ceOf) (f2, ds.map ceOf))) ∧ Below w.heap.size w w' := by
  have hbb := bel_alloc (below_new w (.cells #[.int .i64 f, .slice E cs.length cap] 101)) (.cells #[.int .i64 f2, .slice G ds.length cap2] 101)
  by_cases hf : f = f2
  · subst hf
    have hr := Lib.hid (ssame_eq (f := f) (l := cs.map ceOf) (m := ds.map ceOf))
    go_enter Try.func99, Try.ntmps99
    go_wp2_with fail
    refine (EqualFunc_any cs ds _ (h.below hbb) (h2.below hbb)).mono ?_
    rintro e w2 ⟨rfl, hb2⟩
    go_wp2_with fail
    go_ret
    exact ⟨by rw [hr.out]; rfl, bel_call hbb hb2⟩
  · have hfb : (f == f2) = false := by simpa using hf
    have hr := Lib.hid (ssame_ne (l := cs.map ceOf) (m := ds.map ceOf) hf)
    clear hf
    go_enter Try.func99, Try.ntmps99
    go_wp2_with fail
    go_ret
    exact ⟨by rw [hr.out]; rfl, hbb⟩

end Go.Proofs.Ytgipfenjachpnaa

namespace Go.Proofs.Ytgipfenjachpnaa
open Go.RowKit
attribute [local go_sem ↓] Go.wp_at_zero Go.wp_at_succ

theorem res_sg1 {fn : Func} {a : Nat} {tmps : Array Value} {w : World} {g : Nat} {x y : Value} (hres : fn.results = #[.cell a 101]) (ha : tmps.getD a undef = .pointer (some ⟨g, 0, none⟩)) (hB : Blk w g 101 #[x, y]) :
    (results fn tmps).run Try.prog w = .ok (.agg #[x, y]) w := by
  obtain ⟨b0, b1, _, _⟩ := hB.two
  have ha' : tmps[a]?.getD undef = .pointer (some ⟨g, 0, none⟩) := by simpa using ha
  simp [results, hres, go_sem, b0, b1, ha']
theorem res_sg2 {fn : Func} {a b : Nat} {tmps : Array Value} {w : World} {g : Nat} {x y : Value} (hres : fn.results = #[.cell a 101, .tmp b]) (ha : tmps.getD a undef = .pointer (some ⟨g, 0, none⟩)) (hB : Blk w g 101 #[x, y]) :
    (results fn tmps).run Try.prog w = .ok (.tuple #[.agg #[x, y], tmps.getD b undef]) w := by
  obtain ⟨b0, b1, _, _⟩ := hB.two
  have ha' : tmps[a]?.getD undef = .pointer (some ⟨g, 0, none⟩) := by simpa using ha
  simp [results, hres, go_sem, b0, b1, ha']
theorem Blk.far2 {w : World} {g g' : Nat} {t : TypeId} {cs : Array Value} (h : Blk w g t cs) (hne : g ≠ g') (u v : Value) : Blk ((w.setCell ⟨g', 0, none⟩ u).setCell ⟨g', 1, none⟩ v) g t cs := (h.far hne u).far hne v
theorem Own.set2 {w : World} {base : Nat} {e : TypeId} {size n c : Nat} {A : Option Addr} {xs : List Value} (h : Own w base e size A n c xs) {g : Nat} (hg : g < base) (u v : Value) : Own ((w.setCell ⟨g, 0, none⟩ u).setCell ⟨g, 1, none⟩ v) base e size A n c xs :=
  ownsRow_setCell_below (a := ⟨g, 1, none⟩) (ownsRow_setCell_below (a := ⟨g, 0, none⟩) h hg u) hg v
theorem gen0 {T R : World → Prop} {W : World} (hT : T W) (k : ∀ W, T W → R W) : R W := k W hT

end Go.Proofs.Ytgipfenjachpnaa
