/- WHAT IT HOLDS: the law CellOrder, walked. | WHAT IT HOLDS: the law CellFew, walked. | WHAT IT HOLDS: the document's common and Run, and the law's Documents, walked. | WHAT IT HOLDS: the document's Run, walked. | WHAT IT HOLDS: arguments that are cells, and slices of cells, opened to the words of Kit. | WHAT IS PROVED: the statement CellRuns: for every input the law returns true. No condition. | WHAT IT HOLDS: segments, plainly (no program). -/
import Derived.Test.YtnndlmkcckgkhaaGreatDoorStoreOpensG05
import Derived.Deep.DeepCutAuto
import Derived.Lib.SlBytesConst
import Derived.Test.YtnndlmkcckgkhaaGreatDoorStoreOpensG06
import Derived.Test.YtnndlmkcckgkhaaGreatDoorStoreOpensG03
import Derived.Lib.AppendStr
namespace Go.Proofs.YtnndlmkcckgkhaaGreatDoor
open Go.ChangeShapes Go.WideShapes Go.ChangeAt Go.RowKit
attribute [local go_sem ↓] Go.wp_at_zero Go.wp_at_succ

theorem hole_ok : cchk (2, []) = 0 := by decide
theorem ab_ok : cchk (1, [97, 98]) = 0 := by decide
theorem hole_bytes : [] ++ cbytes (2, []) = [2] := by decide
theorem ab_bytes : [] ++ cbytes (1, [97, 98]) = [1, 2, 97, 98] := by
  simp [cbytes, vb_small]

theorem Sl.litsS (w : World) (size n : Nat) (cs : List Value) (t : TypeId) (hl : cs.length = n * size) (h : n ≤ maxLen) : Sl (w.alloc (.cells cs.toArray t)) size (some ⟨w.heap.size, 0, none⟩) n n cs :=
  ⟨hl, by omega, h, (fun h => by cases h), fun j u hj => ⟨_, rfl, by
    rw [addr_lit, cell_of_row _ _ _ _ t (0, 0) (heap_alloc_new w _)]
    simpa using hj⟩⟩
theorem six {w : World} {g1 g2 g3 : Nat} {t : TypeId} {a b c d e f : Value} (h1 : Blk w g1 t #[a, b]) (h2 : Blk w g2 t #[c, d]) (h3 : Blk w g3 t #[e, f]) :
    w.cell? ⟨g1, 0, none⟩ = some a ∧ w.cell? ⟨g1, 1, none⟩ = some b ∧ w.cell? ⟨g2, 0, none⟩ = some c ∧ w.cell? ⟨g2, 1, none⟩ = some d ∧ w.cell? ⟨g3, 0, none⟩ = some e ∧ w.cell? ⟨g3, 1, none⟩ = some f :=
  ⟨h1.cell 0, h1.cell 1, h2.cell 0, h2.cell 1, h3.cell 0, h3.cell 1⟩

theorem longb_len {l : List Ce} {n : Int} (h : longb l n = false) : ∀ c ∈ l, c.2.length ≤ 100 := by
  unfold longb at h
  rw [Bool.or_eq_false_iff] at h
  intro c hc
  have := List.any_eq_false.1 h.1 c hc
  simpa using this
end Go.Proofs.YtnndlmkcckgkhaaGreatDoor

namespace Go.Proofs.YtnndlmkcckgkhaaGreatDoor
open Go.ChangeShapes Go.WideShapes Go.ChangeAt Go.RowKit
attribute [local go_sem ↓] Go.wp_at_zero Go.wp_at_succ

theorem vb_len1 {n : Nat} (h : n < 128) : (vb n).length = 1 := by rw [vb_small h]; rfl
theorem rowGo_rep {k : Int} (h : k ≠ 1) (d : List UInt8) : ∀ n, rowGo k (List.replicate n (k, d)) = n
  | 0 => rfl
  | n + 1 => by
    rw [List.replicate_succ, rowGo, if_pos ⟨h, rfl⟩, rowGo_rep h d n]
theorem few_other {k : Int} (h : k ≠ 1) (h0 : 0 ≤ k) (h3 : k ≤ 3) {n : Nat} (h1 : 1 ≤ n) (hn : n ≤ 64) : (vb n ++ prun [] (List.replicate n (k, []))).length = 3 := by
  obtain ⟨m, rfl⟩ : ∃ m, n = m + 1 := ⟨n - 1, by omega⟩
  have hr : rowN (List.replicate (m + 1) ((k, []) : Ce)) = m + 1 := by
    have := rowGo_rep h [] (m + 1)
    rw [List.replicate_succ] at this ⊢
    exact this
  obtain ⟨k', ⟨r, d, hk⟩, hp⟩ := prun_row (last := []) (l := List.replicate (m + 1) ((k, []) : Ce)) (by omega)
  rw [List.replicate_succ] at hk
  simp only [List.cons.injEq, Prod.mk.injEq] at hk
  obtain ⟨⟨rfl, _⟩, _⟩ := hk
  rw [hp, hr, List.drop_eq_nil_of_le (by simp)]
  simp only [List.length_append, prun, List.length_nil]
  rw [vb_len1 (by omega), vb_len1 (by omega)]
theorem cpl_self : ∀ d, cpl d d = d.length
  | [] => rfl
  | x :: d => by rw [cpl, if_pos rfl, cpl_self d]; rfl
theorem few_more (d : List UInt8) (hd : d.length ≤ 64) : ∀ n, (prun d (List.replicate n (1, d))).length = 3 * n
  | 0 => by simp [prun]
  | n + 1 => by
    rw [List.replicate_succ, prun_data (rowN_zero.2 rfl)]
    simp only [List.length_append, cpl_self, List.drop_length, List.length_nil]
    rw [vb_len1 (by omega), vb_len1 (by omega), few_more d hd n]
    omega
theorem few_data (d : List UInt8) (hd : d.length ≤ 64) {n : Nat} (h1 : 1 ≤ n) (hn : n ≤ 64) : (vb n ++ prun [] (List.replicate n (1, d))).length = 1 + 3 * n + d.length := by
  obtain ⟨m, rfl⟩ : ∃ m, n = m + 1 := ⟨n - 1, by omega⟩
  rw [List.replicate_succ, prun_data (rowN_zero.2 rfl)]
  have hc : cpl [] d = 0 := by simp [cpl]
  simp only [List.length_append, hc, List.drop_zero]
  rw [vb_len1 (by omega), vb_len1 (by omega), vb_len1 (by omega), few_more d hd m]
  omega
theorem rchk_rep {c : Ce} (h : cchk c = 0) (n : Nat) : rchk (List.replicate n c) = 0 := rchk_ok fun x hx => by rw [List.eq_of_mem_replicate hx]; exact h
theorem map_rep (x : CeV) (n : Nat) : (List.replicate n x).map ceOf = List.replicate n (ceOf x) := by simp

theorem cell_info : (Tryz.prog.info? 109).map (fun i => (i.zero, i.size, i.bytes)) = some (some (.agg #[.int .i64 0, .slice none 0 0]), 2, 32) := by kernel_rfl
/-- append of one cell, which the walk has laid in a block of its own -/
theorem wpl_cell {w : World} {ops : Array Oper} {rest : List Oper} {o : Oper} {a : Act} {Q : Exit → Act → World → Prop} (hgd : o.guard = none) (s x : Operand)
    (ho : o.op = .call { callee := .builtin .append, args := #[s, x], argTypes := #[22, 22] })
    (base : Nat) (A : Option Addr) (c : Nat) (l : List CeV) (y : CeV) (hs : a.eval s = .slice A l.length c) (hown : Own w base 109 2 A l.length c (l.flatMap cf))
    (hx : a.eval x = .slice (some ⟨w.heap.size, 0, none⟩) 1 1) (hlen : l.length ≤ 1000000000) (hbase : base ≤ w.heap.size)
    (h : ∀ A' c' (m : List CeV) w', Hid (m = l ++ [y]) → Own w' base 109 2 A' m.length c' (m.flatMap cf) → Below base w w' → wpList Tryz.prog ops Q rest (a.put o.dst (.slice A' m.length c')) w') :
    wpList Tryz.prog ops Q (o :: rest) a (w.alloc (.cells #[.int .i64 y.1, .slice y.2.1 y.2.2.2.length y.2.2.1] 109)) := by
  obtain ⟨i0, hi, hz0, hz1, hz2⟩ := info_parts cell_info
  have hbl : Below base w (w.alloc (.cells #[.int .i64 y.1, .slice y.2.1 y.2.2.2.length y.2.2.1] 109)) := (Below.refl _ _).alloc hbase _
  refine wpl_append hgd s x 22 ho base 109 i0 _ 2 32 Tryz.underlying22 hi hz0 hz1 hz2 rfl (by decide) A l.length c (l.flatMap cf) hs (World.ownsRow.alloc hown _) (some ⟨w.heap.size, 0, none⟩) 1 1 (cf y) hx (Sl.litsS w 2 1 (cf y) 109 rfl (by simp [maxLen]))
    (fun u hu => by simp [cf] at hu; rcases hu with rfl | rfl <;> rfl) (by omega) (by simp only [maxLen]; omega) (by simp; omega) ?_
  intro A' c' w' hap
  have hl : l.length + 1 = (l ++ [y]).length := by simp
  rw [hl]
  refine h A' c' (l ++ [y]) w' rfl ?_ (hbl.trans (hap.below (World.ownsRow.alloc hown _) (by simp; omega)))
  have := hap.own
  simpa using this

def u4 (kind : Int) (q : Int) : Prop := (IntKind.u64.wrap kind).tmod 4 = q
theorem u4_cases (kind : Int) : u4 kind 1 ∨ u4 kind 0 ∨ u4 kind 2 ∨ u4 kind 3 := by
  unfold u4
  rw [IntKind.wrap_u64]
  have h : (0 : Int) ≤ kind % 18446744073709551616 := Int.emod_nonneg _ (by decide)
  rw [Int.tmod_eq_emod_of_nonneg h]
  omega
theorem u64m (many : Int) : ∃ mm : Nat, mm ≤ 63 ∧ (IntKind.u64.wrap many).tmod 64 = (mm : Int) := by
  rw [IntKind.wrap_u64]
  have h : (0 : Int) ≤ many % 18446744073709551616 := Int.emod_nonneg _ (by decide)
  rw [Int.tmod_eq_emod_of_nonneg h]
  exact ⟨((many % 18446744073709551616) % 64).toNat, by omega, by omega⟩

end Go.Proofs.YtnndlmkcckgkhaaGreatDoor

namespace Go.Proofs.YtnndlmkcckgkhaaGreatDoor
open Go.RowKit
attribute [local go_sem ↓] Go.wp_at_zero Go.wp_at_succ

set_option maxRecDepth 100000 in
set_option maxHeartbeats 1000000 in
theorem common_any (xs ys : List UInt8) (w : World) (hm1 : xs.length ≤ 1000000) (_hm2 : ys.length ≤ 1000000) :
    Calls Tryz.prog 158 #[.string ⟨xs.toArray⟩, .string ⟨ys.toArray⟩] w fun e w' => e = .returned (.int .i64 (cpl xs ys : Nat)) ∧ Below w.heap.size w w' := by
  go_enter Tryz.func158, Tryz.ntmps158
  go_wp2_with fail
  go_loopw [5] (fun x wr => ∃ k : Nat, k ≤ xs.length ∧ k ≤ ys.length ∧ x = .int .i64 k ∧ Hid (xs.take k = ys.take k) ∧ Below w.heap.size w wr) (fun x w => xs.length - (intOf x).toNat)
  case atStart => exact ⟨0, Nat.zero_le _, Nat.zero_le _, rfl, (show _ = _ by simp), Below.refl _ _⟩
  case round =>
    obtain ⟨k, hk1, hk2, rfl, ht, hbr⟩ := hrel
    by_cases hl1 : k < xs.length
    · by_cases hl2 : k < ys.length
      · have hts := Lib.hid (take_succ_eq ht.out hl1 hl2)
        have hend := Lib.hid (fun h => cpl_end hk1 hk2 ht.out (.inr (.inr ⟨hl1, hl2, h⟩)))
        have hge : decide ((ys.length : Int) ≤ (k : Int)) = false := by simp; omega
        by_cases hxy : xs[k] = ys[k]
        · have hxb : ((((⟨xs.toArray⟩ : ByteArray)[k]'hl1).toNat : Int) != (((⟨ys.toArray⟩ : ByteArray)[k]'hl2).toNat : Int)) = false := by
            show ((xs[k].toNat : Int) != (ys[k].toNat : Int)) = false
            simp [hxy]
          have Hxy := Lib.hid hxy
          clear hxy
          go_wp2_with fail
          go_quiet (fail)
          go_wp2_with fail
          go_roundw
          case rel => exact ⟨k + 1, hl1, hl2, by go_num, hts.out.2 Hxy.out, below_drewN hbr _⟩
          case measure => simp [intOf]; omega
        · have hxb : ((((⟨xs.toArray⟩ : ByteArray)[k]'hl1).toNat : Int) != (((⟨ys.toArray⟩ : ByteArray)[k]'hl2).toNat : Int)) = true := by
            show ((xs[k].toNat : Int) != (ys[k].toNat : Int)) = true
            have := u8_eq_iff (x := xs[k]) (y := ys[k])
            simp only [bne, Bool.not_eq_true', Bool.eq_false_iff]
            exact fun h => hxy (this.1 h)
          have he := Lib.hid (hend.out hxy)
          clear hxy
          go_wp2_with fail
          go_quiet (fail)
          go_wp2_with fail
          go_ret
          exact ⟨by rw [he.out]; rfl, below_drewN hbr _⟩
      · have hge : decide ((ys.length : Int) ≤ (k : Int)) = true := by simp; omega
        have he := Lib.hid (cpl_end hk1 hk2 ht.out (.inr (.inl (by omega))))
        go_wp2_with fail
        go_quiet (fail)
        go_wp2_with fail
        go_ret
        exact ⟨by rw [he.out]; rfl, below_drewN hbr _⟩
    · have he := Lib.hid (cpl_end hk1 hk2 ht.out (.inl (by omega)))
      obtain rfl : k = xs.length := by omega
      go_wp2_with fail
      go_ret
      exact ⟨by rw [he.out]; rfl, hbr⟩

abbrev df (c : Ce) : List Value := [.int .i64 c.1, .string ⟨c.2.toArray⟩]
theorem dcell_info : (Tryz.prog.info? 114).map (fun i => (i.zero, i.size, i.bytes)) = some (some (.agg #[.int .i64 0, .string ⟨#[]⟩]), 2, 24) := by kernel_rfl
/-- append of one of the document's cells, which the walk has laid in a block of its own -/
theorem wpl_dcell {w : World} {ops : Array Oper} {rest : List Oper} {o : Oper} {a : Act} {Q : Exit → Act → World → Prop} (hgd : o.guard = none) (s x : Operand)
    (ho : o.op = .call { callee := .builtin .append, args := #[s, x], argTypes := #[32, 32] })
    (base : Nat) (A : Option Addr) (c : Nat) (l : List Ce) (y : Ce) (hs : a.eval s = .slice A l.length c) (hown : Own w base 114 2 A l.length c (l.flatMap df))
    (hx : a.eval x = .slice (some ⟨w.heap.size, 0, none⟩) 1 1) (hlen : l.length ≤ 1000000000) (hbase : base ≤ w.heap.size)
    (h : ∀ A' c' (m : List Ce) w', Hid (m = l ++ [y]) → Own w' base 114 2 A' m.length c' (m.flatMap df) → Below base w w' → wpList Tryz.prog ops Q rest (a.put o.dst (.slice A' m.length c')) w') :
    wpList Tryz.prog ops Q (o :: rest) a (w.alloc (.cells #[.int .i64 y.1, .string ⟨y.2.toArray⟩] 114)) := by
  obtain ⟨i0, hi, hz0, hz1, hz2⟩ := info_parts dcell_info
  have hbl : Below base w (w.alloc (.cells #[.int .i64 y.1, .string ⟨y.2.toArray⟩] 114)) := (Below.refl _ _).alloc hbase _
  refine wpl_append hgd s x 32 ho base 114 i0 _ 2 24 Tryz.underlying32 hi hz0 hz1 hz2 rfl (by decide) A l.length c (l.flatMap df) hs (World.ownsRow.alloc hown _) (some ⟨w.heap.size, 0, none⟩) 1 1 (df y) hx (Sl.litsS w 2 1 (df y) 114 rfl (by simp [maxLen]))
    (fun u hu => by simp [df] at hu; rcases hu with rfl | rfl <;> rfl) (by omega) (by simp only [maxLen]; omega) (by simp; omega) ?_
  intro A' c' w' hap
  have hl : l.length + 1 = (l ++ [y]).length := by simp
  rw [hl]
  refine h A' c' (l ++ [y]) w' rfl ?_ (hbl.trans (hap.below (World.ownsRow.alloc hown _) (by simp; omega)))
  have := hap.own
  simpa using this
/-- the document's cells that can be read -/
abbrev SlD (w : World) (E : Option Addr) (cap : Nat) (l : List Ce) : Prop := Sl w 2 E l.length cap (l.flatMap df)

set_option maxRecDepth 100000 in
set_option maxHeartbeats 1000000 in
theorem Documents_own {E : Option Addr} {cap : Nat} (cs : List CeV) (w : World) (h : SlC w E cap cs) (hl : cs.length ≤ 1000000) :
    Calls Tryz.prog 45 #[.slice E cs.length cap] w fun e w' => ∃ A c m, e = .returned (.slice A (List.length m) c) ∧ Hid (m = cs.map ceOf) ∧ Own w' w.heap.size 114 2 A (List.length m) c (m.flatMap df) ∧ Below w.heap.size w w' := by
  have hmax := h.1.len_le
  unfold maxLen at hmax
  go_enter Tryz.func45, Tryz.ntmps45
  go_wp2_with fail
  go_loopw [3, 9] (fun v x wr => ∃ (k : Nat) (A : Option Addr) (c : Nat) (m : List Ce), k ≤ cs.length ∧ x = .int .i64 k ∧ v = .slice A m.length c ∧ Hid (m = (cs.map ceOf).take k) ∧ Own wr w.heap.size 114 2 A m.length c (m.flatMap df) ∧ Below w.heap.size w wr) (fun v x w => cs.length - (intOf x).toNat)
  case atStart => exact ⟨0, _, 0, [], Nat.zero_le _, rfl, rfl, (show _ = _ by simp), Own.lit 2 (Nat.le_refl _), below_new _ _⟩
  case round =>
    obtain ⟨k, A, c, m, hk, rfl, rfl, hm, ho, hbr⟩ := hrel
    by_cases hlt : k < cs.length
    · obtain ⟨ad, b, o, rfl, had, hc0, hc1, hsx⟩ := (h.below hbr).at2 hlt
      have hml : m.length ≤ 1000000 := by rw [hm.out]; simp; omega
      have hnx : Hid ((cs.map ceOf).take (k + 1) = (cs.map ceOf).take k ++ [ceOf cs[k]]) := (show _ = _ by rw [List.take_succ_eq_append_getElem (by simpa using hlt), List.getElem_map])
      generalize cs[k] = x at *
      obtain ⟨kk, Ax, cx, d⟩ := x
      dsimp only [ceOf] at *
      go_wp2_with fail
      refine (Document_any kk d _ (hsx.below (below_new _ _))).mono ?_
      rintro e w2 ⟨rfl, hb2⟩
      have hbr2 := bel_call (bel_alloc hbr _) hb2
      have ho2 : Own w2 w.heap.size 114 2 A m.length c (m.flatMap df) := Own.below (World.ownsRow.alloc ho _) hb2
      go_wp2_with (at_builtin; go_must (refine wpl_dcell rfl _ _ rfl w.heap.size A c m (kk, d) rfl ho2 rfl (by omega) hbr2.size ?_; intro A3 c3 m3 w3 hm3 ho3 hb3))
      go_roundw
      case rel => exact ⟨k + 1, A3, c3, m3, hlt, by go_num, rfl, (show _ = _ by rw [hm3.out, hm.out, hnx.out]), ho3, hbr2.trans hb3⟩
      case measure => simp [intOf]; omega
    · go_wp2_with fail
      go_ret
      exact ⟨A, c, m, rfl, (show _ = _ by rw [hm.out, List.take_of_length_le (by simp; omega)]), ho, hbr⟩
theorem Documents_any {E : Option Addr} {cap : Nat} (cs : List CeV) (w : World) (h : SlC w E cap cs) (hl : cs.length ≤ 1000000) :
    Calls Tryz.prog 45 #[.slice E cs.length cap] w fun e w' => ∃ A c m, e = .returned (.slice A (List.length m) c) ∧ Hid (m = cs.map ceOf) ∧ SlD w' A c m ∧ Below w.heap.size w w' :=
  (Documents_own cs w h hl).mono fun _ _ ⟨A, c, m, h1, h2, h3, h4⟩ => ⟨A, c, m, h1, h2, Own.sl h3, h4⟩
end Go.Proofs.YtnndlmkcckgkhaaGreatDoor

namespace Go.Proofs.YtnndlmkcckgkhaaGreatDoor
open Go.RowKit
attribute [local go_sem ↓] Go.wp_at_zero Go.wp_at_succ

theorem ext_drop (d : List UInt8) (s n : Nat) (hn : n = d.length) : (⟨d.toArray⟩ : ByteArray).extract s n = ⟨(d.drop s).toArray⟩ := by
  subst hn
  apply ByteArray.ext
  simp only [ByteArray.data_extract, List.extract_toArray]
  rw [List.extract_eq_take_drop, List.take_of_length_le (by simp)]
/-- append of a string to bytes -/
theorem wpl_str {w : World} {ops : Array Oper} {rest : List Oper} {o : Oper} {a : Act} {Q : Exit → Act → World → Prop} (hgd : o.guard = none) (s x : Operand)
    (ho : o.op = .call { callee := .builtin .append, args := #[s, x], argTypes := #[29, 9] })
    (base : Nat) (A : Option Addr) (c : Nat) (l : List UInt8) (hs : a.eval s = .slice A l.length c) (hown : OwnB w base 5 A c l)
    (sb : ByteArray) (l2 : List UInt8) (hsb : sb = ⟨l2.toArray⟩) (hx : a.eval x = .string sb) (hlen : l.length + l2.length ≤ 1000000000) (hbase : base ≤ w.heap.size)
    (h : ∀ A' c' (m : List UInt8) w', Hid (m = l ++ l2) → OwnB w' base 5 A' c' m → w.grownBy w' (A.map (·.block)) → Below base w w' → wpList Tryz.prog ops Q rest (a.put o.dst (.slice A' m.length c')) w') : wpList Tryz.prog ops Q (o :: rest) a w := by
  subst hsb
  obtain ⟨i0, hi, hz0, hz1, hz2⟩ := info_parts u8_info
  have hsz : (⟨l2.toArray⟩ : ByteArray).size = l2.length := rfl
  have hsc : Lib.strCells ⟨l2.toArray⟩ = bvs l2 := rfl
  refine Lib.wpList_append_own_string (P := Tryz.prog) w hgd s x 29 9 ho base 5 i0 Tryz.underlying29 Tryz.underlying9 hi hz0 hz1 hz2 (.slice A l.length c) l.length (bvs l) hs hown ⟨l2.toArray⟩ hx (by rw [hsz]; simp only [maxLen]; omega) (by rw [hsz]; omega) hbase ?_
  intro v' w' hown' hg _
  rw [hsz, hsc] at hown'
  have hb : Below base w w' := (Below.refl _ _).grown hg hbase (fun k hk => by rw [ownBlock_slice] at hk; exact (hown.lt k hk).1)
  have hform : ∃ A' c', v' = .slice A' (l ++ l2).length c' := by
    rw [List.length_append]
    rcases hown'.2 with ⟨rfl, hn⟩ | ⟨g, cap, _, rfl, _⟩
    · exact ⟨none, 0, by rw [hn]⟩
    · exact ⟨_, _, rfl⟩
  obtain ⟨A', c', rfl⟩ := hform
  rw [ownBlock_slice] at hg
  refine h A' c' (l ++ l2) w' rfl ?_ hg hb
  rw [← List.length_append] at hown'
  simpa [OwnB] using hown'

/-- a block of another type is as it was behind an append -/
theorem Blk.append {w w' : World} {g : Nat} {t e : TypeId} {cs : Array Value} {base size n c : Nat} {A : Option Addr} {xs : List Value} (h : Blk w g t cs) (ho : Own w base e size A n c xs) (hg : w.grownBy w' (A.map (·.block))) (hne : e ≠ t) : Blk w' g t cs := by
  refine (hg.block g h.lt (fun he => ?_)).trans h
  rcases ho.2 with ⟨hv, _⟩ | ⟨g', cap, cur, hv, _, hh, _⟩
  · injection hv with hA
    subst hA
    simp at he
  · injection hv with hA
    subst hA
    simp at he
    subst he
    unfold Blk at h
    rw [h] at hh
    injection hh with hh
    injection hh with _ ht
    exact hne ht.symm
def prevK (ds : List Ce) (k : Nat) : Option Int := if k = 0 then none else ds[k - 1]?.map (·.1)
theorem prevK_succ {ds : List Ce} {k : Nat} (h : k < ds.length) : prevK ds (k + 1) = some ds[k].1 := by
  unfold prevK
  rw [if_neg (by omega)]
  simp [List.getElem?_eq_getElem h]
theorem rgo_at {ds : List Ce} {k : Nat} (h : k < ds.length) (prev : Option Int) (last : List UInt8) : rgo prev last (ds.drop k) = if ds[k].1 = 1 then [0, b1 ds[k].2.length, b1 (cpl ds[k].2 last)] ++ ds[k].2.drop (cpl ds[k].2 last) ++ rgo (some 1) ds[k].2 (ds.drop (k + 1))
    else if prev = some ds[k].1 then rgo (some ds[k].1) last (ds.drop (k + 1)) else [b1 (rowGo ds[k].1 (ds.drop k)), b1 ds[k].1.toNat] ++ rgo (some ds[k].1) last (ds.drop (k + 1)) := by
  rw [List.drop_eq_getElem_cons h, rgo]

set_option maxRecDepth 100000 in
set_option maxHeartbeats 4000000 in
theorem rRun_any {E : Option Addr} {cap : Nat} (ds : List Ce) (w : World) (h : SlD w E cap ds) (h64 : ds.length ≤ 64) (hok : Hid (∀ c ∈ ds, cchk c = 0)) :
    Calls Tryz.prog 107 #[.slice E ds.length cap] w (GivesB w (vb ds.length ++ rgo none [] ds)) := by
  have hmax := h.2.1
  have hmax2 := h.2.2.1
  unfold maxLen at hmax2
  have hu : U64 ds.length := by unfold U64; omega
  have hw := wrap_u64_of hu
  go_enter Tryz.func107, Tryz.ntmps107
  go_wp2_with fail
  refine (rBytes_any ds.length hu _).mono ?_
  rintro e w1 ⟨A1, c1, m1, rfl, hm1, ho1, hb1⟩
  have hml1 : m1.length ≤ 10 := by rw [hm1.out]; exact vb_le10 hu
  go_wp2_with fail
  go_loopw [3, 4, 5] (fun s3 s4 s5 wr => ∃ (k : Nat) (A : Option Addr) (c : Nat) (m ld : List UInt8), k ≤ ds.length ∧ s5 = .int .i64 k ∧ s3 = .slice A m.length c ∧ s4 = .string ⟨ld.toArray⟩ ∧ ld.length ≤ 64 ∧ Hid (vb ds.length ++ rgo none [] ds = m ++ rgo (prevK ds k) ld (ds.drop k)) ∧ OwnB wr w.heap.size 5 A c m ∧ m.length ≤ 10 + 200 * k ∧ Below w.heap.size w wr) (fun s3 s4 s5 wr => ds.length - (intOf s5).toNat)
  case atStart => exact ⟨0, A1, c1, m1, [], Nat.zero_le _, rfl, rfl, rfl, by simp, (show _ = _ by rw [hm1.out]; simp [prevK]), ho1, by omega, hb1⟩
  case round =>
    obtain ⟨k, A, c, m, ld, hk, rfl, rfl, rfl, hld, htot, ho, hml, hbr⟩ := hrel
    by_cases hlt : k < ds.length
    · obtain ⟨ad, b, o, rfl, had, hc⟩ := Sl.atS (f := df) (size := 2) (fun _ => rfl) (by omega) (h.below hbr) hlt
      have hc0 := hc 0 _ rfl
      have hc1 := hc 1 _ rfl
      rw [Nat.add_zero] at hc0
      clear hc
      have hat := rgo_at hlt (prevK ds k) ld
      have hps := prevK_succ hlt
      have hck := cchk_ok (hok.out _ (List.getElem_mem hlt))
      have hgk : Hid (ds[k].1 = ds[k].1) := rfl
      generalize hx : ds[k] = x at *
      obtain ⟨kk, d⟩ := x
      dsimp only at *
      have hk0 := hck.1
      have hk3 := hck.2.1
      have hd64 := hck.2.2.1
      clear hck
      have HX := Lib.hid hx
      have HAT := Lib.hid hat
      have HPS := Lib.hid hps
      clear hx hat hps hgk
      rcases Decidable.em (kk = 1) with rfl | h1
      · have hcp := cpl_le d ld
        have hcm := fun W => common_any d ld W (by omega) (by omega)
        have hnx : Hid (vb ds.length ++ rgo none [] ds = (m ++ [0, b1 d.length, b1 (cpl d ld)]) ++ d.drop (cpl d ld) ++ rgo (prevK ds (k + 1)) d (ds.drop (k + 1))) := (show _ = _ by
          rw [htot.out, HAT.out, HPS.out, if_pos rfl]
          simp)
        have HC := Lib.hid hcm
        generalize cpl d ld = s at *
        have hs64 : s ≤ 64 := by omega
        have e1 : ((UInt8.ofNat d.length).toNat : Int) = (d.length : Int) := by simp; omega
        have e2 : ((UInt8.ofNat s).toNat : Int) = (s : Int) := by simp; omega
        have hlit : ∀ W : World, SlB (W.alloc (.cells #[.int .u8 0, .int .u8 (d.length : Int), .int .u8 (s : Int)] 5)) (some ⟨W.heap.size, 0, none⟩) 3 [0, b1 d.length, b1 s] := fun W => by
          have := Sl.lits W [bv 0, bv (b1 d.length), bv (b1 s)] 5 (by simp [maxLen])
          rw [show (#[.int .u8 0, .int .u8 (d.length : Int), .int .u8 (s : Int)] : Array Value) = [bv 0, bv (b1 d.length), bv (b1 s)].toArray from by simp only [bv, b1, e1, e2]; rfl]
          exact this
        have hs1 : (s : Int) ≤ (d.length : Int) := by omega
        have HLIT := Lib.hid hlit
        clear hcm hlit e1 e2
        go_wp2_with fail
        refine (HC.out _).mono ?_
        rintro e w2 ⟨rfl, hb2⟩
        have hB2 := (Blk.new _ 114 #[.int .i64 1, .string ⟨d.toArray⟩]).below hb2
        have hw2 := bel_call (bel_alloc hbr (.cells #[.int .i64 1, .string ⟨d.toArray⟩] 114)) hb2
        have ho2 : OwnB w2 w.heap.size 5 A c m := Own.below (World.ownsRow.alloc ho _) hb2
        have hz2 := hB2.lt
        obtain ⟨a0, a1, _, _⟩ := hB2.two
        go_wp2_with (first
          | (at_builtin; refine wpl_bytes 29 5 Tryz.underlying29 u8_info rfl (.tmp 30) (.tmp 37) rfl w.heap.size A c m rfl (World.ownsRow.alloc ho2 _) (some ⟨w2.heap.size, 0, none⟩) 3 [0, b1 d.length, b1 s] rfl (HLIT.out w2) (by simp; omega) (by have := hw2.size; simp; omega) ?_; intro A3 c3 m3 w3 hm3 ho3 hg3 _ hb3; have hB3 := Blk.append (hB2.alloc (.cells #[.int .u8 0, .int .u8 (d.length : Int), .int .u8 (s : Int)] 5)) (World.ownsRow.alloc ho2 _) hg3 (by decide); have hw3 := (bel_alloc hw2 (.cells #[.int .u8 0, .int .u8 (d.length : Int), .int .u8 (s : Int)] 5)).trans hb3; have hml3 : m3.length ≤ m.length + 3 := (by rw [hm3.out]; simp); obtain ⟨a0, a1, _, _⟩ := hB3.two)
          | (at_builtin; refine wpl_str rfl (.tmp 39) (.tmp 43) rfl w.heap.size A3 c3 m3 rfl ho3 _ (d.drop s) (ext_drop d s _ rfl) rfl (by simp; omega) hw3.size ?_; intro A4 c4 m4 w4 hm4 ho4 hg4 hb4; have hB4 := Blk.append hB3 ho3 hg4 (by decide); have hw4 := hw3.trans hb4; obtain ⟨a0, a1, _, _⟩ := hB4.two))
        go_roundw
        case rel => exact ⟨k + 1, A4, c4, m4, d, hlt, by go_num, rfl, rfl, hd64, (show _ = _ by rw [hm4.out, hm3.out]; exact hnx.out), ho4, by (have := congrArg List.length hm4.out; simp at this; omega), hw4⟩
        case measure => simp [intOf]; omega
      · have hk1b : (kk == 1) = false := by simpa using h1
        rcases Nat.eq_zero_or_pos k with hkz | hkp
        · have hpk : prevK ds k = none := by unfold prevK; rw [if_pos hkz]
          have hnew : Hid (vb ds.length ++ rgo none [] ds = (m ++ [b1 (rowGo kk (ds.drop k)), b1 kk.toNat]) ++ rgo (prevK ds (k + 1)) ld (ds.drop (k + 1))) := (show _ = _ by
            rw [htot.out, HAT.out, HPS.out, if_neg h1, hpk, if_neg (by simp)]
            simp)
          have hgd : decide ((0 : Int) < (k : Int)) = false := by simp; omega
          have hgd2 : decide (0 < k) = false := by simp; omega
          clear hpk hkz
          go_wp2_with fail
          go_quiet (fail)
          go_wp2_with fail
          have hend : ∀ n, n ≤ (ds.drop k).length → (∀ j (h : j < (ds.drop k).length), j < n → (ds.drop k)[j].1 ≠ 1 ∧ (ds.drop k)[j].1 = kk) → (n = (ds.drop k).length ∨ ∃ h : n < (ds.drop k).length, ¬ ((ds.drop k)[n].1 ≠ 1 ∧ (ds.drop k)[n].1 = kk)) → rowGo kk (ds.drop k) = n := fun n a b c => rowGo_end a b c
          have h1h : Hid (kk ≠ 1) := h1
          have HE := Lib.hid hend
          clear hend h1 hc0 hc1
          go_loopw [8] (fun s8 wq => ∃ n : Nat, 1 ≤ n ∧ k + n ≤ ds.length ∧ s8 = .int .i64 n ∧ Hid (∀ j (h : j < (ds.drop k).length), j < n → (ds.drop k)[j].1 ≠ 1 ∧ (ds.drop k)[j].1 = kk) ∧ Blk wq wr.heap.size 114 #[.int .i64 kk, .string ⟨d.toArray⟩] ∧ OwnB wq w.heap.size 5 A c m ∧ Below w.heap.size w wq) (fun s8 wq => ds.length - (intOf s8).toNat)
          case atStart =>
            refine ⟨1, by omega, by omega, rfl, (fun j hj hj1 => ?_), (Blk.new _ _ _).drewN _, World.ownsRow.alloc ho _, below_drewN (bel_alloc hbr _) _⟩
            obtain rfl : j = 0 := by omega
            rw [List.getElem_drop]
            simp only [Nat.add_zero]
            rw [HX.out]
            exact ⟨h1h.out, rfl⟩
          case round =>
            obtain ⟨n, hn1, hkn, rfl, hall, hBq, hoq, hbq⟩ := hrel
            obtain ⟨a0, a1, _, _⟩ := hBq.two
            by_cases hin : k + n < ds.length
            · obtain ⟨ad', b', o', hE, had', hc'⟩ := Sl.atS (f := df) (size := 2) (fun _ => rfl) (by omega) (h.below hbq) hin
              injection hE with hE
              subst hE
              have hc0' := hc' 0 _ rfl
              rw [Nat.add_zero] at hc0'
              clear hc'
              have hst : Hid (¬ ((ds[k + n]'hin).1 ≠ 1 ∧ (ds[k + n]'hin).1 = kk) → rowGo kk (ds.drop k) = n) := (show _ → _ from fun hc => HE.out n (by simp; omega) hall.out (.inr ⟨by simp; omega, by rw [List.getElem_drop]; exact hc⟩))
              have hnx : Hid ((ds[k + n]'hin).1 = kk → ∀ j (h : j < (ds.drop k).length), j < n + 1 → (ds.drop k)[j].1 ≠ 1 ∧ (ds.drop k)[j].1 = kk) := (show _ → _ from fun h2 j hj hjn => by
                by_cases e : j = n
                · subst e
                  rw [List.getElem_drop]
                  exact ⟨by rw [h2]; exact h1h.out, h2⟩
                · exact hall.out j hj (by omega))
              generalize (ds[k + n]'hin).1 = kq at *
              rcases Decidable.em (kq = kk) with rfl | hq
              · have hN := Lib.hid (hnx.out rfl)
                have hw0 : (0 : Int) ≤ (k : Int) + (n : Int) := by omega
                have hwl : (k : Int) + (n : Int) < (ds.length : Int) := by omega
                have hwt : ((k : Int) + (n : Int)).toNat = k + n := by omega
                have hwa : IntKind.i64.wrap ((k : Int) + (n : Int)) = (k : Int) + (n : Int) := IntWalk.i64_in _ (by omega)
                go_wp2_with fail
                go_quiet (fail)
                clear hwa hwt
                go_wp2_with fail
                go_roundw
                case rel => exact ⟨n + 1, by omega, by omega, by go_num, hN.out, hBq.drewN _, hoq, below_drewN hbq _⟩
                case measure => simp [intOf]; omega
              · have hqb : (kq == kk) = false := by simpa using hq
                have hR := Lib.hid (hst.out (fun h => hq h.2))
                clear hq
                have hw0 : (0 : Int) ≤ (k : Int) + (n : Int) := by omega
                have hwl : (k : Int) + (n : Int) < (ds.length : Int) := by omega
                have hwt : ((k : Int) + (n : Int)).toNat = k + n := by omega
                have hn64 : n ≤ 64 := by omega
                have e1 : ((UInt8.ofNat n).toNat : Int) = (n : Int) := by simp; omega
                have e2 : ((UInt8.ofNat kk.toNat).toNat : Int) = kk := by simp; omega
                have hlit : ∀ W : World, SlB (W.alloc (.cells #[.int .u8 (n : Int), .int .u8 kk] 5)) (some ⟨W.heap.size, 0, none⟩) 2 [b1 n, b1 kk.toNat] := fun W => by
                  have := Sl.lits W [bv (b1 n), bv (b1 kk.toNat)] 5 (by simp [maxLen])
                  rw [show (#[.int .u8 (n : Int), .int .u8 kk] : Array Value) = [bv (b1 n), bv (b1 kk.toNat)].toArray from by simp only [bv, b1, e1, e2]]
                  exact this
                have HLIT := Lib.hid hlit
                clear hlit e1 e2
                have hwa : IntKind.i64.wrap ((k : Int) + (n : Int)) = (k : Int) + (n : Int) := IntWalk.i64_in _ (by omega)
                go_wp2_with fail
                go_quiet (fail)
                clear hwa hwt
                have hB5 := hBq.drewN nq
                have hb5 := below_drewN hbq nq
                have ho5 : OwnB (World.drewN _ nq) w.heap.size 5 A c m := hoq
                generalize hwq : World.drewN _ nq = w5 at *
                clear hwq
                obtain ⟨a0, a1, _, _⟩ := hB5.two
                go_wp2_with (at_builtin; go_must (refine wpl_bytes 29 5 Tryz.underlying29 u8_info rfl (.tmp 80) (.tmp 86) rfl w.heap.size A c m rfl (World.ownsRow.alloc ho5 _) (some ⟨w5.heap.size, 0, none⟩) 2 [b1 n, b1 kk.toNat] rfl (HLIT.out w5) (by simp; omega) (by have := hb5.size; simp; omega) ?_; intro A3 c3 m3 w3 hm3 ho3 _ _ hb3))
                have hw3 := (bel_alloc hb5 (.cells #[.int .u8 (n : Int), .int .u8 kk] 5)).trans hb3
                go_roundw
                case rel => exact ⟨k + 1, A3, c3, m3, ld, hlt, by go_num, rfl, rfl, hld, (show _ = _ by rw [hm3.out, hnew.out, hR.out]), ho3, (by have := congrArg List.length hm3.out; simp at this; omega), hw3⟩
                case measure => simp [intOf]; omega
            · have hR := Lib.hid (HE.out n (by simp; omega) hall.out (.inl (by simp; omega)))
              have hwl : decide ((k : Int) + (n : Int) < (ds.length : Int)) = false := by simp; omega
              have hwt : ((k : Int) + (n : Int)).toNat = k + n := by omega
              have hn64 : n ≤ 64 := by omega
              have e1 : ((UInt8.ofNat n).toNat : Int) = (n : Int) := by simp; omega
              have e2 : ((UInt8.ofNat kk.toNat).toNat : Int) = kk := by simp; omega
              have hlit : ∀ W : World, SlB (W.alloc (.cells #[.int .u8 (n : Int), .int .u8 kk] 5)) (some ⟨W.heap.size, 0, none⟩) 2 [b1 n, b1 kk.toNat] := fun W => by
                have := Sl.lits W [bv (b1 n), bv (b1 kk.toNat)] 5 (by simp [maxLen])
                rw [show (#[.int .u8 (n : Int), .int .u8 kk] : Array Value) = [bv (b1 n), bv (b1 kk.toNat)].toArray from by simp only [bv, b1, e1, e2]]
                exact this
              have HLIT := Lib.hid hlit
              clear hlit e1 e2
              have hwa : IntKind.i64.wrap ((k : Int) + (n : Int)) = (k : Int) + (n : Int) := IntWalk.i64_in _ (by omega)
              go_wp2_with fail
              go_quiet (fail)
              clear hwa hwt
              have hB5 := hBq.drewN nq
              have hb5 := below_drewN hbq nq
              have ho5 : OwnB (World.drewN _ nq) w.heap.size 5 A c m := hoq
              generalize hwq : World.drewN _ nq = w5 at *
              clear hwq
              obtain ⟨a0, a1, _, _⟩ := hB5.two
              go_wp2_with (at_builtin; go_must (refine wpl_bytes 29 5 Tryz.underlying29 u8_info rfl (.tmp 80) (.tmp 86) rfl w.heap.size A c m rfl (World.ownsRow.alloc ho5 _) (some ⟨w5.heap.size, 0, none⟩) 2 [b1 n, b1 kk.toNat] rfl (HLIT.out w5) (by simp; omega) (by have := hb5.size; simp; omega) ?_; intro A3 c3 m3 w3 hm3 ho3 _ _ hb3))
              have hw3 := (bel_alloc hb5 (.cells #[.int .u8 (n : Int), .int .u8 kk] 5)).trans hb3
              go_roundw
              case rel => exact ⟨k + 1, A3, c3, m3, ld, hlt, by go_num, rfl, rfl, hld, (show _ = _ by rw [hm3.out, hnew.out, hR.out]), ho3, (by have := congrArg List.length hm3.out; simp at this; omega), hw3⟩
              case measure => simp [intOf]; omega
        · have hkl : k - 1 < ds.length := by omega
          have hgd : decide ((0 : Int) < (k : Int)) = true := by simp; omega
          have hgd2 : decide (0 < k) = true := by simp; omega
          have hgi : (0 : Int) ≤ (k : Int) - 1 := by omega
          have hgj : (k : Int) - 1 < (ds.length : Int) := by omega
          have hpk : prevK ds k = some (ds[k - 1]'hkl).1 := by
            unfold prevK
            rw [if_neg (by omega), List.getElem?_eq_getElem hkl]
            rfl
          obtain ⟨ad', b', o', hE, had', hc'⟩ := Sl.atS (f := df) (size := 2) (fun _ => rfl) (by omega) (h.below hbr) hkl
          injection hE with hE
          subst hE
          have hc0' := hc' 0 _ rfl
          rw [Nat.add_zero] at hc0'
          have hbl' := World.block_lt_of_cell? _ _ hc0'
          have hba' : b' < _ := hbl'
          have hne' := Nat.ne_of_lt hba'
          clear hc'
          generalize (ds[k - 1]'hkl).1 = kp at *
          rcases Decidable.em (kp = kk) with rfl | hkk
          · have hnew : Hid (vb ds.length ++ rgo none [] ds = m ++ rgo (prevK ds (k + 1)) ld (ds.drop (k + 1))) := (show _ = _ by
              rw [htot.out, HAT.out, HPS.out, if_neg h1, hpk, if_pos rfl])
            clear hpk
            have hgt : ((k : Int) - 1).toNat = k - 1 := by omega
            have hgw : IntKind.i64.wrap ((k : Int) - 1) = (k : Int) - 1 := IntWalk.i64_in _ (by omega)
            go_wp2_with fail
            go_quiet (fail)
            clear hgw hgt
            go_wp2_with fail
            go_roundw
            case rel => exact ⟨k + 1, A, c, m, ld, hlt, by go_num, rfl, rfl, hld, hnew, World.ownsRow.alloc ho _, by omega, below_drewN (bel_alloc hbr _) _⟩
            case measure => simp [intOf]; omega
          · have hkb : (kp == kk) = false := by simpa using hkk
            have hnew : Hid (vb ds.length ++ rgo none [] ds = (m ++ [b1 (rowGo kk (ds.drop k)), b1 kk.toNat]) ++ rgo (prevK ds (k + 1)) ld (ds.drop (k + 1))) := (show _ = _ by
              rw [htot.out, HAT.out, HPS.out, if_neg h1, hpk, if_neg (by simpa using hkk)]
              simp)
            clear hpk
            have hgt : ((k : Int) - 1).toNat = k - 1 := by omega
            have hgw : IntKind.i64.wrap ((k : Int) - 1) = (k : Int) - 1 := IntWalk.i64_in _ (by omega)
            go_wp2_with fail
            go_quiet (fail)
            clear hgw hgt
            go_wp2_with fail
            have hend : ∀ n, n ≤ (ds.drop k).length → (∀ j (h : j < (ds.drop k).length), j < n → (ds.drop k)[j].1 ≠ 1 ∧ (ds.drop k)[j].1 = kk) → (n = (ds.drop k).length ∨ ∃ h : n < (ds.drop k).length, ¬ ((ds.drop k)[n].1 ≠ 1 ∧ (ds.drop k)[n].1 = kk)) → rowGo kk (ds.drop k) = n := fun n a b c => rowGo_end a b c
            have h1h : Hid (kk ≠ 1) := h1
            have HE := Lib.hid hend
            clear hend h1 hc0 hc1
            go_loopw [8] (fun s8 wq => ∃ n : Nat, 1 ≤ n ∧ k + n ≤ ds.length ∧ s8 = .int .i64 n ∧ Hid (∀ j (h : j < (ds.drop k).length), j < n → (ds.drop k)[j].1 ≠ 1 ∧ (ds.drop k)[j].1 = kk) ∧ Blk wq wr.heap.size 114 #[.int .i64 kk, .string ⟨d.toArray⟩] ∧ OwnB wq w.heap.size 5 A c m ∧ Below w.heap.size w wq) (fun s8 wq => ds.length - (intOf s8).toNat)
            case atStart =>
              refine ⟨1, by omega, by omega, rfl, (fun j hj hj1 => ?_), (Blk.new _ _ _).drewN _, World.ownsRow.alloc ho _, below_drewN (bel_alloc hbr _) _⟩
              obtain rfl : j = 0 := by omega
              rw [List.getElem_drop]
              simp only [Nat.add_zero]
              rw [HX.out]
              exact ⟨h1h.out, rfl⟩
            case round =>
              obtain ⟨n, hn1, hkn, rfl, hall, hBq, hoq, hbq⟩ := hrel
              obtain ⟨a0, a1, _, _⟩ := hBq.two
              by_cases hin : k + n < ds.length
              · obtain ⟨ad', b', o', hE, had', hc'⟩ := Sl.atS (f := df) (size := 2) (fun _ => rfl) (by omega) (h.below hbq) hin
                injection hE with hE
                subst hE
                have hc0' := hc' 0 _ rfl
                rw [Nat.add_zero] at hc0'
                clear hc'
                have hst : Hid (¬ ((ds[k + n]'hin).1 ≠ 1 ∧ (ds[k + n]'hin).1 = kk) → rowGo kk (ds.drop k) = n) := (show _ → _ from fun hc => HE.out n (by simp; omega) hall.out (.inr ⟨by simp; omega, by rw [List.getElem_drop]; exact hc⟩))
                have hnx : Hid ((ds[k + n]'hin).1 = kk → ∀ j (h : j < (ds.drop k).length), j < n + 1 → (ds.drop k)[j].1 ≠ 1 ∧ (ds.drop k)[j].1 = kk) := (show _ → _ from fun h2 j hj hjn => by
                  by_cases e : j = n
                  · subst e
                    rw [List.getElem_drop]
                    exact ⟨by rw [h2]; exact h1h.out, h2⟩
                  · exact hall.out j hj (by omega))
                generalize (ds[k + n]'hin).1 = kq at *
                rcases Decidable.em (kq = kk) with rfl | hq
                · have hN := Lib.hid (hnx.out rfl)
                  have hw0 : (0 : Int) ≤ (k : Int) + (n : Int) := by omega
                  have hwl : (k : Int) + (n : Int) < (ds.length : Int) := by omega
                  have hwt : ((k : Int) + (n : Int)).toNat = k + n := by omega
                  have hwa : IntKind.i64.wrap ((k : Int) + (n : Int)) = (k : Int) + (n : Int) := IntWalk.i64_in _ (by omega)
                  go_wp2_with fail
                  go_quiet (fail)
                  clear hwa hwt
                  go_wp2_with fail
                  go_roundw
                  case rel => exact ⟨n + 1, by omega, by omega, by go_num, hN.out, hBq.drewN _, hoq, below_drewN hbq _⟩
                  case measure => simp [intOf]; omega
                · have hqb : (kq == kk) = false := by simpa using hq
                  have hR := Lib.hid (hst.out (fun h => hq h.2))
                  clear hq
                  have hw0 : (0 : Int) ≤ (k : Int) + (n : Int) := by omega
                  have hwl : (k : Int) + (n : Int) < (ds.length : Int) := by omega
                  have hwt : ((k : Int) + (n : Int)).toNat = k + n := by omega
                  have hn64 : n ≤ 64 := by omega
                  have e1 : ((UInt8.ofNat n).toNat : Int) = (n : Int) := by simp; omega
                  have e2 : ((UInt8.ofNat kk.toNat).toNat : Int) = kk := by simp; omega
                  have hlit : ∀ W : World, SlB (W.alloc (.cells #[.int .u8 (n : Int), .int .u8 kk] 5)) (some ⟨W.heap.size, 0, none⟩) 2 [b1 n, b1 kk.toNat] := fun W => by
                    have := Sl.lits W [bv (b1 n), bv (b1 kk.toNat)] 5 (by simp [maxLen])
                    rw [show (#[.int .u8 (n : Int), .int .u8 kk] : Array Value) = [bv (b1 n), bv (b1 kk.toNat)].toArray from by simp only [bv, b1, e1, e2]]
                    exact this
                  have HLIT := Lib.hid hlit
                  clear hlit e1 e2
                  have hwa : IntKind.i64.wrap ((k : Int) + (n : Int)) = (k : Int) + (n : Int) := IntWalk.i64_in _ (by omega)
                  go_wp2_with fail
                  go_quiet (fail)
                  clear hwa hwt
                  have hB5 := hBq.drewN nq
                  have hb5 := below_drewN hbq nq
                  have ho5 : OwnB (World.drewN _ nq) w.heap.size 5 A c m := hoq
                  generalize hwq : World.drewN _ nq = w5 at *
                  clear hwq
                  obtain ⟨a0, a1, _, _⟩ := hB5.two
                  go_wp2_with (at_builtin; go_must (refine wpl_bytes 29 5 Tryz.underlying29 u8_info rfl (.tmp 80) (.tmp 86) rfl w.heap.size A c m rfl (World.ownsRow.alloc ho5 _) (some ⟨w5.heap.size, 0, none⟩) 2 [b1 n, b1 kk.toNat] rfl (HLIT.out w5) (by simp; omega) (by have := hb5.size; simp; omega) ?_; intro A3 c3 m3 w3 hm3 ho3 _ _ hb3))
                  have hw3 := (bel_alloc hb5 (.cells #[.int .u8 (n : Int), .int .u8 kk] 5)).trans hb3
                  go_roundw
                  case rel => exact ⟨k + 1, A3, c3, m3, ld, hlt, by go_num, rfl, rfl, hld, (show _ = _ by rw [hm3.out, hnew.out, hR.out]), ho3, (by have := congrArg List.length hm3.out; simp at this; omega), hw3⟩
                  case measure => simp [intOf]; omega
              · have hR := Lib.hid (HE.out n (by simp; omega) hall.out (.inl (by simp; omega)))
                have hwl : decide ((k : Int) + (n : Int) < (ds.length : Int)) = false := by simp; omega
                have hwt : ((k : Int) + (n : Int)).toNat = k + n := by omega
                have hn64 : n ≤ 64 := by omega
                have e1 : ((UInt8.ofNat n).toNat : Int) = (n : Int) := by simp; omega
                have e2 : ((UInt8.ofNat kk.toNat).toNat : Int) = kk := by simp; omega
                have hlit : ∀ W : World, SlB (W.alloc (.cells #[.int .u8 (n : Int), .int .u8 kk] 5)) (some ⟨W.heap.size, 0, none⟩) 2 [b1 n, b1 kk.toNat] := fun W => by
                  have := Sl.lits W [bv (b1 n), bv (b1 kk.toNat)] 5 (by simp [maxLen])
                  rw [show (#[.int .u8 (n : Int), .int .u8 kk] : Array Value) = [bv (b1 n), bv (b1 kk.toNat)].toArray from by simp only [bv, b1, e1, e2]]
                  exact this
                have HLIT := Lib.hid hlit
                clear hlit e1 e2
                have hwa : IntKind.i64.wrap ((k : Int) + (n : Int)) = (k : Int) + (n : Int) := IntWalk.i64_in _ (by omega)
                go_wp2_with fail
                go_quiet (fail)
                clear hwa hwt
                have hB5 := hBq.drewN nq
                have hb5 := below_drewN hbq nq
                have ho5 : OwnB (World.drewN _ nq) w.heap.size 5 A c m := hoq
                generalize hwq : World.drewN _ nq = w5 at *
                clear hwq
                obtain ⟨a0, a1, _, _⟩ := hB5.two
                go_wp2_with (at_builtin; go_must (refine wpl_bytes 29 5 Tryz.underlying29 u8_info rfl (.tmp 80) (.tmp 86) rfl w.heap.size A c m rfl (World.ownsRow.alloc ho5 _) (some ⟨w5.heap.size, 0, none⟩) 2 [b1 n, b1 kk.toNat] rfl (HLIT.out w5) (by simp; omega) (by have := hb5.size; simp; omega) ?_; intro A3 c3 m3 w3 hm3 ho3 _ _ hb3))
                have hw3 := (bel_alloc hb5 (.cells #[.int .u8 (n : Int), .int .u8 kk] 5)).trans hb3
                go_roundw
                case rel => exact ⟨k + 1, A3, c3, m3, ld, hlt, by go_num, rfl, rfl, hld, (show _ = _ by rw [hm3.out, hnew.out, hR.out]), ho3, (by have := congrArg List.length hm3.out; simp at this; omega), hw3⟩
                case measure => simp [intOf]; omega
    · have hfin : Hid (m = vb ds.length ++ rgo none [] ds) := (show _ = _ by
        rw [htot.out, List.drop_eq_nil_of_le (by omega)]
        simp [rgo])
      go_wp2_with fail
      go_ret
      exact ⟨A, c, m, rfl, hfin.out, ho, hbr⟩
end Go.Proofs.YtnndlmkcckgkhaaGreatDoor

namespace Go.Proofs.YtnndlmkcckgkhaaGreatDoor
open Go.ChangeShapes Go.WideShapes Go.ChangeAt Go.RowKit Go.Deep

section
variable {H : Type} {enc : TypeId × Value → H} {P : Program} {w : World} {base b0 : Nat} {held : Bool} {r : Reach} {t e b : TypeId} {v : Value} {d : DataW H} {p : List MemPlace}
theorem bytes_cell {n : Nat} {y : DataW H × List MemPlace} (ht : P.underlying t = some (.slice e)) (he : P.underlying e = some (.int .u8)) (hC : P.cellsOf e = 1) (h : DataW.trod enc P w base (fun _ => true) held n t [v] = some y) :
    ∃ (A : Option Addr) (c : Nat) (l : List UInt8), v = .slice A l.length c ∧ SlB w A c l := by
  rcases open_ints ht he hC h with ⟨hcs, _⟩ | ⟨x, l, c', zs, hcs, _, hl, hm, hz, _, hcell, hwz⟩
  · simp at hcs
    subst hcs
    exact ⟨none, 0, [], rfl, Sl.none_ _ _⟩
  · simp at hcs
    subst hcs
    simp only [if_true] at hz
    have hs := row_reads hl hm hz hcell
    have hw : ∀ z ∈ zs.take l, (Lit.int .u8 z).wf = true := fun z hz => hwz z (List.mem_of_mem_take hz)
    have hm : (zs.take l).map (Value.int .u8) = bvs ((zs.take l).map fun z => UInt8.ofNat z.toNat) := by
      rw [bvs, List.map_map]
      refine List.map_congr_left fun z hz => ?_
      have hb := bounds_u8 (hw z hz)
      simp only [Function.comp, bv, UInt8.toNat_ofNat']
      congr 1
      omega
    rw [hm] at hs
    have hlen : ((zs.take l).map fun z => UInt8.ofNat z.toNat).length = l := by simp; omega
    refine ⟨some x, c', (zs.take l).map fun z => UInt8.ofNat z.toNat, by rw [hlen], ?_⟩
    show Sl w 1 _ (List.map _ _).length c' _
    rw [hlen]
    exact hs
theorem open_cell {f0 f1 : Field} (hs : P.underlying t = some (.struct #[f0, f1])) (h0 : P.underlying f0.type = some (.int .i64)) (h1 : P.underlying f1.type = some (.slice e)) (he : P.underlying e = some (.int .u8))
    (hCe : P.cellsOf e = 1) (hone : oneCellFields P #[f0, f1] = true) (hC : P.cellsOf t = 2) (hv : Value.okWide P w r b0 t v) (h : DataW.Trod enc P w base (fun _ => true) held t v d p) :
    ∃ (k : Int) (A : Option Addr) (c : Nat) (l : List UInt8), v = cv k A l.length c ∧ I64 k ∧ SlB w A c l := by
  obtain ⟨v0, v1, y0, y1, n, rfl, _, _, g0, g1⟩ := Go.Joins.open_agg2 hs hone hC hv h
  obtain ⟨k, rfl, hk⟩ := int_cell h0 g0
  obtain ⟨A, c, l, rfl, hl⟩ := bytes_cell h1 he hCe g1
  exact ⟨k, A, c, l, rfl, hk, hl⟩
theorem open_cells {f0 f1 : Field} (ht : P.underlying t = some (.slice b)) (hs : P.underlying b = some (.struct #[f0, f1])) (h0 : P.underlying f0.type = some (.int .i64)) (h1 : P.underlying f1.type = some (.slice e)) (he : P.underlying e = some (.int .u8))
    (hCe : P.cellsOf e = 1) (hone : oneCellFields P #[f0, f1] = true) (hC : P.cellsOf b = 2) (hv : Value.okWide P w r b0 t v) (h : DataW.Trod enc P w base (fun _ => true) held t v d p) :
    ∃ (A : Option Addr) (c : Nat) (l : List CeV), v = .slice A l.length c ∧ SlC w A c l ∧ ∀ x ∈ l, I64 x.1 := by
  obtain ⟨A, c, l, rfl, hl, hq⟩ := open_structs cf (fun x => I64 x.1 ∧ SlB w x.2.1 x.2.2.1 x.2.2.2) (fun _ => rfl) ht hs hone hC (by
    intro vs hl hf
    obtain ⟨u0, n0, y0, e0, t0⟩ := hf 0 f0 rfl
    obtain ⟨u1, n1, y1, e1, t1⟩ := hf 1 f1 rfl
    obtain ⟨k, rfl, hk⟩ := int_cell h0 t0
    obtain ⟨A, c, l, rfl, hb⟩ := bytes_cell h1 he hCe t1
    match vs, hl with
    | [x0, x1], _ =>
      simp at e0 e1
      exact ⟨(k, A, c, l), by simp [cf, e0, e1], hk, hb⟩) hv h
  exact ⟨A, c, l, rfl, ⟨hl, fun x hx => (hq x hx).2⟩, fun x hx => (hq x hx).1⟩
end
end Go.Proofs.YtnndlmkcckgkhaaGreatDoor

namespace Go.Proofs.YtnndlmkcckgkhaaGreatDoor
open Go.ChangeShapes Go.WideShapes Go.ChangeAt Go.RowKit
attribute [local go_sem ↓] Go.wp_at_zero Go.wp_at_succ

theorem rchk_snoc (l : List Ce) (c : Ce) : rchk (l ++ [c]) = if rchk l ≠ 0 then rchk l else cchk c := by
  induction l with
  | nil =>
    by_cases h : cchk c = 0
    · simp [rchk, h]
    · simp [rchk, h]
  | cons x l ih =>
    by_cases h : cchk x = 0
    · simp only [List.cons_append, rchk, h, ne_eq, not_true_eq_false, if_false]
      exact ih
    · simp [rchk, h]
def bad64 (n : Nat) (l : List Ce) : Nat := if 64 < n then 3 else rchk l

theorem rchk_zero : ∀ {l : List Ce}, rchk l = 0 → ∀ c ∈ l, cchk c = 0
  | [], _, c, hc => by simp at hc
  | x :: l, h, c, hc => by
    by_cases hx : cchk x = 0
    · have h2 : rchk l = 0 := by simpa [rchk, hx] using h
      rcases List.mem_cons.mp hc with rfl | hc
      · exact hx
      · exact rchk_zero h2 c hc
    · simp [rchk, hx] at h

theorem rgo_len : ∀ (l : List Ce) (prev : Option Int) (last : List UInt8), (∀ c ∈ l, cchk c = 0) → (rgo prev last l).length ≤ 100 * l.length
  | [], _, _, _ => by rw [rgo]; simp
  | c :: r, prev, last, h => by
    have hc := (cchk_ok (h c (by simp))).2.2.1
    have hr := fun prev last => rgo_len r prev last (fun c hc => h c (by simp [hc]))
    rw [rgo]
    simp only [List.length_cons]
    split
    · have := hr (some 1) c.2
      simp
      omega
    · split
      · have := hr (some c.1) last
        omega
      · have := hr (some c.1) last
        simp
        omega

namespace CellRuns
end CellRuns
end Go.Proofs.YtnndlmkcckgkhaaGreatDoor

namespace Go.Proofs.YtnndlmkcckgkhaaGreatDoor
open Go.RowKit

/-- a segment: its first address, its cells -/
abbrev Sg := Int × List Ce
/-- an error's number -/
def schk (s : Sg) : Nat := if s.1 < 0 ∨ 1048576 < s.1 then 1 else if 64 < s.2.length then 3 else if 1048576 < s.1 + s.2.length then 1 else rchk s.2
def sjoin (a b : Sg) : Sg × Nat := if schk a ≠ 0 then ((0, []), schk a) else if schk b ≠ 0 then ((0, []), schk b) else if b.1 ≠ a.1 + a.2.length then ((0, []), 13)
  else if schk (a.1, a.2 ++ b.2) ≠ 0 then ((0, []), schk (a.1, a.2 ++ b.2)) else ((a.1, a.2 ++ b.2), 0)
def spart (s : Sg) (f t : Int) : Sg × Nat := if schk s ≠ 0 then ((0, []), schk s) else if f < s.1 ∨ s.1 + s.2.length < t ∨ t < f then ((0, []), 1)
  else ((f, (s.2.drop (f - s.1).toNat).take (t - f).toNat), 0)
theorem schk_ok {s : Sg} (h : schk s = 0) : 0 ≤ s.1 ∧ s.1 ≤ 1048576 ∧ s.2.length ≤ 64 ∧ s.1 + s.2.length ≤ 1048576 ∧ rchk s.2 = 0 := by
  unfold schk at h
  by_cases h1 : s.1 < 0 ∨ 1048576 < s.1
  · rw [if_pos h1] at h; simp at h
  rw [if_neg h1] at h
  by_cases h2 : 64 < s.2.length
  · rw [if_pos h2] at h; simp at h
  rw [if_neg h2] at h
  by_cases h3 : 1048576 < s.1 + s.2.length
  · rw [if_pos h3] at h; simp at h
  rw [if_neg h3] at h
  exact ⟨by omega, by omega, by omega, by omega, h⟩
theorem schk_range {s : Sg} (h : s.1 < 0 ∨ 1048576 < s.1) : schk s = 1 := by unfold schk; rw [if_pos h]
theorem schk_long {s : Sg} (h : ¬ (s.1 < 0 ∨ 1048576 < s.1)) (h2 : 64 < s.2.length) : schk s = 3 := by unfold schk; rw [if_neg h, if_pos h2]
theorem schk_far {s : Sg} (h : ¬ (s.1 < 0 ∨ 1048576 < s.1)) (h2 : ¬ 64 < s.2.length) (h3 : 1048576 < s.1 + s.2.length) : schk s = 1 := by unfold schk; rw [if_neg h, if_neg h2, if_pos h3]
theorem schk_cells {s : Sg} (h : ¬ (s.1 < 0 ∨ 1048576 < s.1)) (h2 : ¬ 64 < s.2.length) (h3 : ¬ 1048576 < s.1 + s.2.length) : schk s = rchk s.2 := by unfold schk; rw [if_neg h, if_neg h2, if_neg h3]
theorem rchk_part {l : List Ce} (h : rchk l = 0) (i n : Nat) : rchk ((l.drop i).take n) = 0 := rchk_ok fun c hc => rchk_zero h c (List.mem_of_mem_drop (List.mem_of_mem_take hc))
end Go.Proofs.YtnndlmkcckgkhaaGreatDoor
