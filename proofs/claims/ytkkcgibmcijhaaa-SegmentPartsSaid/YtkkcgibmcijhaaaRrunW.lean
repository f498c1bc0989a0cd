/- WHAT IT HOLDS: the document's common and Run, and the law's Documents, walked. -/
import Derived.Test.YtkkcgibmcijhaaaRrunP
import Derived.Test.YtkkcgibmcijhaaaRunR
import Derived.Test.YtkkcgibmcijhaaaFew
import Derived.Lib.AppendStr
namespace Go.Proofs.Ytkkcgibmcijhaaa
open Go.RowKit
attribute [local go_sem ↓] Go.wp_at_zero Go.wp_at_succ

set_option maxRecDepth 100000 in
set_option maxHeartbeats 1000000 in
theorem common_any (xs ys : List UInt8) (w : World) (hm1 : xs.length ≤ 1000000) (hm2 : ys.length ≤ 1000000) :
    Calls Try.prog 112 #[.string ⟨xs.toArray⟩, .string ⟨ys.toArray⟩] w fun e w' => e = .returned (.int .i64 (cpl xs ys : Nat)) ∧ Below w.heap.size w w' := by
  go_enter Try.func112, Try.ntmps112
  go_wp2_with fail
  go_loopw [5] (fun x wr => ∃ k : Nat, k ≤ xs.length ∧ k ≤ ys.length ∧ x = .int .i64 k ∧ Hid (xs.take k = ys.take k) ∧ Below w.heap.size w wr) (fun x w => xs.length - (intOf x).toNat)
  case atStart => exact ⟨0, Nat.zero_le _, Nat.zero_le _, rfl, (show _ = _ by simp), Below.refl _ _⟩
  case round =>
    obtain ⟨k, hk1, hk2, rfl, ht, hbr⟩ := hrel
    by_cases hl1 : k < xs.length
    · by_cases hl2 : k < ys.length
      · have hts := Lib.hid (take_succ_eq ht.out hl1 hl2)
        have hend := Lib.hid (fun h => cpl_end hk1 hk2 ht.out (.inr (.inr ⟨hl1, hl2, h⟩)))
        have hge : decide ((ys.length : Int) ≤ (k : Int)) = false := by simp; omega
        by_cases hxy : xs[k] = ys[k]
        · have hxb : ((((⟨xs.toArray⟩ : ByteArray)[k]'hl1).toNat : Int) != (((⟨ys.toArray⟩ : ByteArray)[k]'hl2).toNat : Int)) = false := by
            show ((xs[k].toNat : Int) != (ys[k].toNat : Int)) = false
            simp [hxy]
          have Hxy := Lib.hid hxy
          clear hxy
          go_wp2_with fail
          go_quiet (fail)
          go_wp2_with fail
          go_roundw
          case rel => exact ⟨k + 1, hl1, hl2, by go_num, hts.out.2 Hxy.out, below_drewN hbr _⟩
          case measure => simp [intOf]; omega
        · have hxb : ((((⟨xs.toArray⟩ : ByteArray)[k]'hl1).toNat : Int) != (((⟨ys.toArray⟩ : ByteArray)[k]'hl2).toNat : Int)) = true := by
            show ((xs[k].toNat : Int) != (ys[k].toNat : Int)) = true
            have := u8_eq_iff (x := xs[k]) (y := ys[k])
            simp only [bne, Bool.not_eq_true', Bool.eq_false_iff]
            exact fun h => hxy (this.1 h)
          have he := Lib.hid (hend.out hxy)
          clear hxy
          go_wp2_with fail
          go_quiet (fail)
          go_wp2_with fail
          go_ret
          exact ⟨by rw [he.out]; rfl, below_drewN hbr _⟩
      · have hge : decide ((ys.length : Int) ≤ (k : Int)) = true := by simp; omega
        have he := Lib.hid (cpl_end hk1 hk2 ht.out (.inr (.inl (by omega))))
        go_wp2_with fail
        go_quiet (fail)
        go_wp2_with fail
        go_ret
        exact ⟨by rw [he.out]; rfl, below_drewN hbr _⟩
    · have he := Lib.hid (cpl_end hk1 hk2 ht.out (.inl (by omega)))
      obtain rfl : k = xs.length := by omega
      go_wp2_with fail
      go_ret
      exact ⟨by rw [he.out]; rfl, hbr⟩

abbrev df (c : Ce) : List Value := [.int .i64 c.1, .string ⟨c.2.toArray⟩]
theorem dcell_info : (Try.prog.info? 46).map (fun i => (i.zero, i.size, i.bytes)) = some (some (.agg #[.int .i64 0, .string ⟨#[]⟩]), 2, 24) := by kernel_rfl
/-- append of one of the document's cells, which the walk has laid in a block of its own -/
theorem wpl_dcell {w : World} {ops : Array Oper} {rest : List Oper} {o : Oper} {a : Act} {Q : Exit → Act → World → Prop} (hgd : o.guard = none) (s x : Operand)
    (ho : o.op = .call { callee := .builtin .append, args := #[s, x], argTypes := #[83, 83] })
    (base : Nat) (A : Option Addr) (c : Nat) (l : List Ce) (y : Ce) (hs : a.eval s = .slice A l.length c) (hown : Own w base 46 2 A l.length c (l.flatMap df))
    (hx : a.eval x = .slice (some ⟨w.heap.size, 0, none⟩) 1 1) (hlen : l.length ≤ 1000000000) (hbase : base ≤ w.heap.size)
    (h : ∀ A' c' (m : List Ce) w', Hid (m = l ++ [y]) → Own w' base 46 2 A' m.length c' (m.flatMap df) → Below base w w' → wpList Try.prog ops Q rest (a.put o.dst (.slice A' m.length c')) w') :
    wpList Try.prog ops Q (o :: rest) a (w.alloc (.cells #[.int .i64 y.1, .string ⟨y.2.toArray⟩] 46)) := by
  obtain ⟨i0, hi, hz0, hz1, hz2⟩ := info_parts dcell_info
  have hbl : Below base w (w.alloc (.cells #[.int .i64 y.1, .string ⟨y.2.toArray⟩] 46)) := (Below.refl _ _).alloc hbase _
  refine wpl_append hgd s x 83 ho base 46 i0 _ 2 24 Try.underlying83 hi hz0 hz1 hz2 rfl (by decide) A l.length c (l.flatMap df) hs (World.ownsRow.alloc hown _) (some ⟨w.heap.size, 0, none⟩) 1 1 (df y) hx (Sl.litsS w 2 1 (df y) 46 rfl (by simp [maxLen]))
    (fun u hu => by simp [df] at hu; rcases hu with rfl | rfl <;> rfl) (by omega) (by simp only [maxLen]; omega) (by simp; omega) ?_
  intro A' c' w' hap
  have hl : l.length + 1 = (l ++ [y]).length := by simp
  rw [hl]
  refine h A' c' (l ++ [y]) w' rfl ?_ (hbl.trans (hap.below (World.ownsRow.alloc hown _) (by simp; omega)))
  have := hap.own
  simpa using this
/-- the document's cells that can be read -/
abbrev SlD (w : World) (E : Option Addr) (cap : Nat) (l : List Ce) : Prop := Sl w 2 E l.length cap (l.flatMap df)

set_option maxRecDepth 100000 in
set_option maxHeartbeats 1000000 in
theorem Documents_own {E : Option Addr} {cap : Nat} (cs : List CeV) (w : World) (h : SlC w E cap cs) (hl : cs.length ≤ 1000000) :
    Calls Try.prog 59 #[.slice E cs.length cap] w fun e w' => ∃ A c m, e = .returned (.slice A (List.length m) c) ∧ Hid (m = cs.map ceOf) ∧ Own w' w.heap.size 46 2 A (List.length m) c (m.flatMap df) ∧ Below w.heap.size w w' := by
  have hmax := h.1.len_le
  unfold maxLen at hmax
  go_enter Try.func59, Try.ntmps59
  go_wp2_with fail
  go_loopw [3, 9] (fun v x wr => ∃ (k : Nat) (A : Option Addr) (c : Nat) (m : List Ce), k ≤ cs.length ∧ x = .int .i64 k ∧ v = .slice A m.length c ∧ Hid (m = (cs.map ceOf).take k) ∧ Own wr w.heap.size 46 2 A m.length c (m.flatMap df) ∧ Below w.heap.size w wr) (fun v x w => cs.length - (intOf x).toNat)
  case atStart => exact ⟨0, _, 0, [], Nat.zero_le _, rfl, rfl, (show _ = _ by simp), Own.lit 2 (Nat.le_refl _), below_new _ _⟩
  case round =>
    obtain ⟨k, A, c, m, hk, rfl, rfl, hm, ho, hbr⟩ := hrel
    by_cases hlt : k < cs.length
    · obtain ⟨ad, b, o, rfl, had, hc0, hc1, hsx⟩ := (h.below hbr).at2 hlt
      have hml : m.length ≤ 1000000 := by rw [hm.out]; simp; omega
      have hnx : Hid ((cs.map ceOf).take (k + 1) = (cs.map ceOf).take k ++ [ceOf cs[k]]) := (show _ = _ by rw [List.take_succ_eq_append_getElem (by simpa using hlt), List.getElem_map])
      generalize cs[k] = x at *
      obtain ⟨kk, Ax, cx, d⟩ := x
      dsimp only [ceOf] at *
      go_wp2_with fail
      refine (Document_any kk d _ (hsx.below (below_new _ _))).mono ?_
      rintro e w2 ⟨rfl, hb2⟩
      have hbr2 := bel_call (bel_alloc hbr _) hb2
      have ho2 : Own w2 w.heap.size 46 2 A m.length c (m.flatMap df) := Own.below (World.ownsRow.alloc ho _) hb2
      go_wp2_with (at_builtin; go_must (refine wpl_dcell rfl _ _ rfl w.heap.size A c m (kk, d) rfl ho2 rfl (by omega) hbr2.size ?_; intro A3 c3 m3 w3 hm3 ho3 hb3))
      go_roundw
      case rel => exact ⟨k + 1, A3, c3, m3, hlt, by go_num, rfl, (show _ = _ by rw [hm3.out, hm.out, hnx.out]), ho3, hbr2.trans hb3⟩
      case measure => simp [intOf]; omega
    · go_wp2_with fail
      go_ret
      exact ⟨A, c, m, rfl, (show _ = _ by rw [hm.out, List.take_of_length_le (by simp; omega)]), ho, hbr⟩
theorem Documents_any {E : Option Addr} {cap : Nat} (cs : List CeV) (w : World) (h : SlC w E cap cs) (hl : cs.length ≤ 1000000) :
    Calls Try.prog 59 #[.slice E cs.length cap] w fun e w' => ∃ A c m, e = .returned (.slice A (List.length m) c) ∧ Hid (m = cs.map ceOf) ∧ SlD w' A c m ∧ Below w.heap.size w w' :=
  (Documents_own cs w h hl).mono fun _ _ ⟨A, c, m, h1, h2, h3, h4⟩ => ⟨A, c, m, h1, h2, Own.sl h3, h4⟩
end Go.Proofs.Ytkkcgibmcijhaaa
