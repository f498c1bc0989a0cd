/- WHAT IT HOLDS: the document's common and Run, and the law's Documents, walked. | WHAT IT HOLDS: the document's Run, walked. | WHAT IT HOLDS: arguments that are cells, and slices of cells, opened to the words of Kit. | WHAT IS PROVED: the statement CellRuns: for every input the law returns true. No condition. | WHAT IT HOLDS: segments, plainly (no program). | WHAT IT HOLDS: Check of segments, the program's and the document's, walked. | WHAT IT HOLDS: the document's Check of segments, and both Same, walked. | WHAT IT HOLDS: Same of segments, the program's and the document's, walked. -/
import Derived.Test.YtabnndjdkjkciaaGreatDoorManifestPartsG05
import Derived.Test.YtabnndjdkjkciaaGreatDoorManifestPartsG07
import Derived.Lib.AppendStr
import Derived.Test.YtabnndjdkjkciaaGreatDoorManifestPartsG06
import Derived.BigQuiet
import Derived.Deep.QuietTactic
namespace Go.Proofs.YtabnndjdkjkciaaGreatDoor
open Go.RowKit
attribute [local go_sem ↓] Go.wp_at_zero Go.wp_at_succ

set_option maxRecDepth 100000 in
set_option maxHeartbeats 1000000 in
theorem common_any (xs ys : List UInt8) (w : World) (hm1 : xs.length ≤ 1000000) (_hm2 : ys.length ≤ 1000000) :
    Calls Tryz.prog 168 #[.string ⟨xs.toArray⟩, .string ⟨ys.toArray⟩] w fun e w' => e = .returned (.int .i64 (cpl xs ys : Nat)) ∧ Below w.heap.size w w' := by
  go_enter Tryz.func168, Tryz.ntmps168
  go_wp2_with fail
  go_loopw [5] (fun x wr => ∃ k : Nat, k ≤ xs.length ∧ k ≤ ys.length ∧ x = .int .i64 k ∧ Hid (xs.take k = ys.take k) ∧ Below w.heap.size w wr) (fun x w => xs.length - (intOf x).toNat)
  case atStart => exact ⟨0, Nat.zero_le _, Nat.zero_le _, rfl, (show _ = _ by simp), Below.refl _ _⟩
  case round =>
    obtain ⟨k, hk1, hk2, rfl, ht, hbr⟩ := hrel
    by_cases hl1 : k < xs.length
    · by_cases hl2 : k < ys.length
      · have hts := Lib.hid (take_succ_eq ht.out hl1 hl2)
        have hend := Lib.hid (fun h => cpl_end hk1 hk2 ht.out (.inr (.inr ⟨hl1, hl2, h⟩)))
        have hge : decide ((ys.length : Int) ≤ (k : Int)) = false := by simp; omega
        by_cases hxy : xs[k] = ys[k]
        · have hxb : ((((⟨xs.toArray⟩ : ByteArray)[k]'hl1).toNat : Int) != (((⟨ys.toArray⟩ : ByteArray)[k]'hl2).toNat : Int)) = false := by
            show ((xs[k].toNat : Int) != (ys[k].toNat : Int)) = false
            simp [hxy]
          have Hxy := Lib.hid hxy
          clear hxy
          go_wp2_with fail
          go_quiet (fail)
          go_wp2_with fail
          go_roundw
          case rel => exact ⟨k + 1, hl1, hl2, by go_num, hts.out.2 Hxy.out, below_drewN hbr _⟩
          case measure => simp [intOf]; omega
        · have hxb : ((((⟨xs.toArray⟩ : ByteArray)[k]'hl1).toNat : Int) != (((⟨ys.toArray⟩ : ByteArray)[k]'hl2).toNat : Int)) = true := by
            show ((xs[k].toNat : Int) != (ys[k].toNat : Int)) = true
            have := u8_eq_iff (x := xs[k]) (y := ys[k])
            simp only [bne, Bool.not_eq_true', Bool.eq_false_iff]
            exact fun h => hxy (this.1 h)
          have he := Lib.hid (hend.out hxy)
          clear hxy
          go_wp2_with fail
          go_quiet (fail)
          go_wp2_with fail
          go_ret
          exact ⟨by rw [he.out]; rfl, below_drewN hbr _⟩
      · have hge : decide ((ys.length : Int) ≤ (k : Int)) = true := by simp; omega
        have he := Lib.hid (cpl_end hk1 hk2 ht.out (.inr (.inl (by omega))))
        go_wp2_with fail
        go_quiet (fail)
        go_wp2_with fail
        go_ret
        exact ⟨by rw [he.out]; rfl, below_drewN hbr _⟩
    · have he := Lib.hid (cpl_end hk1 hk2 ht.out (.inl (by omega)))
      obtain rfl : k = xs.length := by omega
      go_wp2_with fail
      go_ret
      exact ⟨by rw [he.out]; rfl, hbr⟩

abbrev df (c : Ce) : List Value := [.int .i64 c.1, .string ⟨c.2.toArray⟩]
theorem dcell_info : (Tryz.prog.info? 117).map (fun i => (i.zero, i.size, i.bytes)) = some (some (.agg #[.int .i64 0, .string ⟨#[]⟩]), 2, 24) := by kernel_rfl
/-- append of one of the document's cells, which the walk has laid in a block of its own -/
theorem wpl_dcell {w : World} {ops : Array Oper} {rest : List Oper} {o : Oper} {a : Act} {Q : Exit → Act → World → Prop} (hgd : o.guard = none) (s x : Operand)
    (ho : o.op = .call { callee := .builtin .append, args := #[s, x], argTypes := #[32, 32] })
    (base : Nat) (A : Option Addr) (c : Nat) (l : List Ce) (y : Ce) (hs : a.eval s = .slice A l.length c) (hown : Own w base 117 2 A l.length c (l.flatMap df))
    (hx : a.eval x = .slice (some ⟨w.heap.size, 0, none⟩) 1 1) (hlen : l.length ≤ 1000000000) (hbase : base ≤ w.heap.size)
    (h : ∀ A' c' (m : List Ce) w', Hid (m = l ++ [y]) → Own w' base 117 2 A' m.length c' (m.flatMap df) → Below base w w' → wpList Tryz.prog ops Q rest (a.put o.dst (.slice A' m.length c')) w') :
    wpList Tryz.prog ops Q (o :: rest) a (w.alloc (.cells #[.int .i64 y.1, .string ⟨y.2.toArray⟩] 117)) := by
  obtain ⟨i0, hi, hz0, hz1, hz2⟩ := info_parts dcell_info
  have hbl : Below base w (w.alloc (.cells #[.int .i64 y.1, .string ⟨y.2.toArray⟩] 117)) := (Below.refl _ _).alloc hbase _
  refine wpl_append hgd s x 32 ho base 117 i0 _ 2 24 Tryz.underlying32 hi hz0 hz1 hz2 rfl (by decide) A l.length c (l.flatMap df) hs (World.ownsRow.alloc hown _) (some ⟨w.heap.size, 0, none⟩) 1 1 (df y) hx (Sl.litsS w 2 1 (df y) 117 rfl (by simp [maxLen]))
    (fun u hu => by simp [df] at hu; rcases hu with rfl | rfl <;> rfl) (by omega) (by simp only [maxLen]; omega) (by simp; omega) ?_
  intro A' c' w' hap
  have hl : l.length + 1 = (l ++ [y]).length := by simp
  rw [hl]
  refine h A' c' (l ++ [y]) w' rfl ?_ (hbl.trans (hap.below (World.ownsRow.alloc hown _) (by simp; omega)))
  have := hap.own
  simpa using this
/-- the document's cells that can be read -/
abbrev SlD (w : World) (E : Option Addr) (cap : Nat) (l : List Ce) : Prop := Sl w 2 E l.length cap (l.flatMap df)

set_option maxRecDepth 100000 in
set_option maxHeartbeats 1000000 in
theorem Documents_own {E : Option Addr} {cap : Nat} (cs : List CeV) (w : World) (h : SlC w E cap cs) (hl : cs.length ≤ 1000000) :
    Calls Tryz.prog 44 #[.slice E cs.length cap] w fun e w' => ∃ A c m, e = .returned (.slice A (List.length m) c) ∧ Hid (m = cs.map ceOf) ∧ Own w' w.heap.size 117 2 A (List.length m) c (m.flatMap df) ∧ Below w.heap.size w w' := by
  have hmax := h.1.len_le
  unfold maxLen at hmax
  go_enter Tryz.func44, Tryz.ntmps44
  go_wp2_with fail
  go_loopw [3, 9] (fun v x wr => ∃ (k : Nat) (A : Option Addr) (c : Nat) (m : List Ce), k ≤ cs.length ∧ x = .int .i64 k ∧ v = .slice A m.length c ∧ Hid (m = (cs.map ceOf).take k) ∧ Own wr w.heap.size 117 2 A m.length c (m.flatMap df) ∧ Below w.heap.size w wr) (fun v x w => cs.length - (intOf x).toNat)
  case atStart => exact ⟨0, _, 0, [], Nat.zero_le _, rfl, rfl, (show _ = _ by simp), Own.lit 2 (Nat.le_refl _), below_new _ _⟩
  case round =>
    obtain ⟨k, A, c, m, hk, rfl, rfl, hm, ho, hbr⟩ := hrel
    by_cases hlt : k < cs.length
    · obtain ⟨ad, b, o, rfl, had, hc0, hc1, hsx⟩ := (h.below hbr).at2 hlt
      have hml : m.length ≤ 1000000 := by rw [hm.out]; simp; omega
      have hnx : Hid ((cs.map ceOf).take (k + 1) = (cs.map ceOf).take k ++ [ceOf cs[k]]) := (show _ = _ by rw [List.take_succ_eq_append_getElem (by simpa using hlt), List.getElem_map])
      generalize cs[k] = x at *
      obtain ⟨kk, Ax, cx, d⟩ := x
      dsimp only [ceOf] at *
      go_wp2_with fail
      refine (Document_any kk d _ (hsx.below (below_new _ _))).mono ?_
      rintro e w2 ⟨rfl, hb2⟩
      have hbr2 := bel_call (bel_alloc hbr _) hb2
      have ho2 : Own w2 w.heap.size 117 2 A m.length c (m.flatMap df) := Own.below (World.ownsRow.alloc ho _) hb2
      go_wp2_with (at_builtin; go_must (refine wpl_dcell rfl _ _ rfl w.heap.size A c m (kk, d) rfl ho2 rfl (by omega) hbr2.size ?_; intro A3 c3 m3 w3 hm3 ho3 hb3))
      go_roundw
      case rel => exact ⟨k + 1, A3, c3, m3, hlt, by go_num, rfl, (show _ = _ by rw [hm3.out, hm.out, hnx.out]), ho3, hbr2.trans hb3⟩
      case measure => simp [intOf]; omega
    · go_wp2_with fail
      go_ret
      exact ⟨A, c, m, rfl, (show _ = _ by rw [hm.out, List.take_of_length_le (by simp; omega)]), ho, hbr⟩
end Go.Proofs.YtabnndjdkjkciaaGreatDoor

namespace Go.Proofs.YtabnndjdkjkciaaGreatDoor
open Go.RowKit
attribute [local go_sem ↓] Go.wp_at_zero Go.wp_at_succ

theorem ext_drop (d : List UInt8) (s n : Nat) (hn : n = d.length) : (⟨d.toArray⟩ : ByteArray).extract s n = ⟨(d.drop s).toArray⟩ := by
  subst hn
  apply ByteArray.ext
  simp only [ByteArray.data_extract, List.extract_toArray]
  rw [List.extract_eq_take_drop, List.take_of_length_le (by simp)]
/-- append of a string to bytes -/
theorem wpl_str {w : World} {ops : Array Oper} {rest : List Oper} {o : Oper} {a : Act} {Q : Exit → Act → World → Prop} (hgd : o.guard = none) (s x : Operand)
    (ho : o.op = .call { callee := .builtin .append, args := #[s, x], argTypes := #[29, 9] })
    (base : Nat) (A : Option Addr) (c : Nat) (l : List UInt8) (hs : a.eval s = .slice A l.length c) (hown : OwnB w base 5 A c l)
    (sb : ByteArray) (l2 : List UInt8) (hsb : sb = ⟨l2.toArray⟩) (hx : a.eval x = .string sb) (hlen : l.length + l2.length ≤ 1000000000) (hbase : base ≤ w.heap.size)
    (h : ∀ A' c' (m : List UInt8) w', Hid (m = l ++ l2) → OwnB w' base 5 A' c' m → w.grownBy w' (A.map (·.block)) → Below base w w' → wpList Tryz.prog ops Q rest (a.put o.dst (.slice A' m.length c')) w') : wpList Tryz.prog ops Q (o :: rest) a w := by
  subst hsb
  obtain ⟨i0, hi, hz0, hz1, hz2⟩ := info_parts u8_info
  have hsz : (⟨l2.toArray⟩ : ByteArray).size = l2.length := rfl
  have hsc : Lib.strCells ⟨l2.toArray⟩ = bvs l2 := rfl
  refine Lib.wpList_append_own_string (P := Tryz.prog) w hgd s x 29 9 ho base 5 i0 Tryz.underlying29 Tryz.underlying9 hi hz0 hz1 hz2 (.slice A l.length c) l.length (bvs l) hs hown ⟨l2.toArray⟩ hx (by rw [hsz]; simp only [maxLen]; omega) (by rw [hsz]; omega) hbase ?_
  intro v' w' hown' hg _
  rw [hsz, hsc] at hown'
  have hb : Below base w w' := (Below.refl _ _).grown hg hbase (fun k hk => by rw [ownBlock_slice] at hk; exact (hown.lt k hk).1)
  have hform : ∃ A' c', v' = .slice A' (l ++ l2).length c' := by
    rw [List.length_append]
    rcases hown'.2 with ⟨rfl, hn⟩ | ⟨g, cap, _, rfl, _⟩
    · exact ⟨none, 0, by rw [hn]⟩
    · exact ⟨_, _, rfl⟩
  obtain ⟨A', c', rfl⟩ := hform
  rw [ownBlock_slice] at hg
  refine h A' c' (l ++ l2) w' rfl ?_ hg hb
  rw [← List.length_append] at hown'
  simpa [OwnB] using hown'

/-- a block of another type is as it was behind an append -/
theorem Blk.append {w w' : World} {g : Nat} {t e : TypeId} {cs : Array Value} {base size n c : Nat} {A : Option Addr} {xs : List Value} (h : Blk w g t cs) (ho : Own w base e size A n c xs) (hg : w.grownBy w' (A.map (·.block))) (hne : e ≠ t) : Blk w' g t cs := by
  refine (hg.block g h.lt (fun he => ?_)).trans h
  rcases ho.2 with ⟨hv, _⟩ | ⟨g', cap, cur, hv, _, hh, _⟩
  · injection hv with hA
    subst hA
    simp at he
  · injection hv with hA
    subst hA
    simp at he
    subst he
    unfold Blk at h
    rw [h] at hh
    injection hh with hh
    injection hh with _ ht
    exact hne ht.symm
def prevK (ds : List Ce) (k : Nat) : Option Int := if k = 0 then none else ds[k - 1]?.map (·.1)
theorem prevK_succ {ds : List Ce} {k : Nat} (h : k < ds.length) : prevK ds (k + 1) = some ds[k].1 := by
  unfold prevK
  rw [if_neg (by omega)]
  simp [List.getElem?_eq_getElem h]
theorem rgo_at {ds : List Ce} {k : Nat} (h : k < ds.length) (prev : Option Int) (last : List UInt8) : rgo prev last (ds.drop k) = if ds[k].1 = 1 then [0, b1 ds[k].2.length, b1 (cpl ds[k].2 last)] ++ ds[k].2.drop (cpl ds[k].2 last) ++ rgo (some 1) ds[k].2 (ds.drop (k + 1))
    else if prev = some ds[k].1 then rgo (some ds[k].1) last (ds.drop (k + 1)) else [b1 (rowGo ds[k].1 (ds.drop k)), b1 ds[k].1.toNat] ++ rgo (some ds[k].1) last (ds.drop (k + 1)) := by
  rw [List.drop_eq_getElem_cons h, rgo]

set_option maxRecDepth 100000 in
set_option maxHeartbeats 4000000 in
theorem rRun_any {E : Option Addr} {cap : Nat} (ds : List Ce) (w : World) (h : SlD w E cap ds) (h64 : ds.length ≤ 64) (hok : Hid (∀ c ∈ ds, cchk c = 0)) :
    Calls Tryz.prog 110 #[.slice E ds.length cap] w (GivesB w (vb ds.length ++ rgo none [] ds)) := by
  have hmax := h.2.1
  have hmax2 := h.2.2.1
  unfold maxLen at hmax2
  have hu : U64 ds.length := by unfold U64; omega
  have hw := wrap_u64_of hu
  go_enter Tryz.func110, Tryz.ntmps110
  go_wp2_with fail
  refine (rBytes_any ds.length hu _).mono ?_
  rintro e w1 ⟨A1, c1, m1, rfl, hm1, ho1, hb1⟩
  have hml1 : m1.length ≤ 10 := by rw [hm1.out]; exact vb_le10 hu
  go_wp2_with fail
  go_loopw [3, 4, 5] (fun s3 s4 s5 wr => ∃ (k : Nat) (A : Option Addr) (c : Nat) (m ld : List UInt8), k ≤ ds.length ∧ s5 = .int .i64 k ∧ s3 = .slice A m.length c ∧ s4 = .string ⟨ld.toArray⟩ ∧ ld.length ≤ 64 ∧ Hid (vb ds.length ++ rgo none [] ds = m ++ rgo (prevK ds k) ld (ds.drop k)) ∧ OwnB wr w.heap.size 5 A c m ∧ m.length ≤ 10 + 200 * k ∧ Below w.heap.size w wr) (fun s3 s4 s5 wr => ds.length - (intOf s5).toNat)
  case atStart => exact ⟨0, A1, c1, m1, [], Nat.zero_le _, rfl, rfl, rfl, by simp, (show _ = _ by rw [hm1.out]; simp [prevK]), ho1, by omega, hb1⟩
  case round =>
    obtain ⟨k, A, c, m, ld, hk, rfl, rfl, rfl, hld, htot, ho, hml, hbr⟩ := hrel
    by_cases hlt : k < ds.length
    · obtain ⟨ad, b, o, rfl, had, hc⟩ := Sl.atS (f := df) (size := 2) (fun _ => rfl) (by omega) (h.below hbr) hlt
      have hc0 := hc 0 _ rfl
      have hc1 := hc 1 _ rfl
      rw [Nat.add_zero] at hc0
      clear hc
      have hat := rgo_at hlt (prevK ds k) ld
      have hps := prevK_succ hlt
      have hck := cchk_ok (hok.out _ (List.getElem_mem hlt))
      have hgk : Hid (ds[k].1 = ds[k].1) := rfl
      generalize hx : ds[k] = x at *
      obtain ⟨kk, d⟩ := x
      dsimp only at *
      have hk0 := hck.1
      have hk3 := hck.2.1
      have hd64 := hck.2.2.1
      clear hck
      have HX := Lib.hid hx
      have HAT := Lib.hid hat
      have HPS := Lib.hid hps
      clear hx hat hps hgk
      rcases Decidable.em (kk = 1) with rfl | h1
      · have hcp := cpl_le d ld
        have hcm := fun W => common_any d ld W (by omega) (by omega)
        have hnx : Hid (vb ds.length ++ rgo none [] ds = (m ++ [0, b1 d.length, b1 (cpl d ld)]) ++ d.drop (cpl d ld) ++ rgo (prevK ds (k + 1)) d (ds.drop (k + 1))) := (show _ = _ by
          rw [htot.out, HAT.out, HPS.out, if_pos rfl]
          simp)
        have HC := Lib.hid hcm
        generalize cpl d ld = s at *
        have hs64 : s ≤ 64 := by omega
        have e1 : ((UInt8.ofNat d.length).toNat : Int) = (d.length : Int) := by simp; omega
        have e2 : ((UInt8.ofNat s).toNat : Int) = (s : Int) := by simp; omega
        have hlit : ∀ W : World, SlB (W.alloc (.cells #[.int .u8 0, .int .u8 (d.length : Int), .int .u8 (s : Int)] 5)) (some ⟨W.heap.size, 0, none⟩) 3 [0, b1 d.length, b1 s] := fun W => by
          have := Sl.lits W [bv 0, bv (b1 d.length), bv (b1 s)] 5 (by simp [maxLen])
          rw [show (#[.int .u8 0, .int .u8 (d.length : Int), .int .u8 (s : Int)] : Array Value) = [bv 0, bv (b1 d.length), bv (b1 s)].toArray from by simp only [bv, b1, e1, e2]; rfl]
          exact this
        have hs1 : (s : Int) ≤ (d.length : Int) := by omega
        have HLIT := Lib.hid hlit
        clear hcm hlit e1 e2
        go_wp2_with fail
        refine (HC.out _).mono ?_
        rintro e w2 ⟨rfl, hb2⟩
        have hB2 := (Blk.new _ 117 #[.int .i64 1, .string ⟨d.toArray⟩]).below hb2
        have hw2 := bel_call (bel_alloc hbr (.cells #[.int .i64 1, .string ⟨d.toArray⟩] 117)) hb2
        have ho2 : OwnB w2 w.heap.size 5 A c m := Own.below (World.ownsRow.alloc ho _) hb2
        have hz2 := hB2.lt
        obtain ⟨a0, a1, _, _⟩ := hB2.two
        go_wp2_with (first
          | (at_builtin; refine wpl_bytes 29 5 Tryz.underlying29 u8_info rfl (.tmp 30) (.tmp 37) rfl w.heap.size A c m rfl (World.ownsRow.alloc ho2 _) (some ⟨w2.heap.size, 0, none⟩) 3 [0, b1 d.length, b1 s] rfl (HLIT.out w2) (by simp; omega) (by have := hw2.size; simp; omega) ?_; intro A3 c3 m3 w3 hm3 ho3 hg3 _ hb3; have hB3 := Blk.append (hB2.alloc (.cells #[.int .u8 0, .int .u8 (d.length : Int), .int .u8 (s : Int)] 5)) (World.ownsRow.alloc ho2 _) hg3 (by decide); have hw3 := (bel_alloc hw2 (.cells #[.int .u8 0, .int .u8 (d.length : Int), .int .u8 (s : Int)] 5)).trans hb3; have hml3 : m3.length ≤ m.length + 3 := (by rw [hm3.out]; simp); obtain ⟨a0, a1, _, _⟩ := hB3.two)
          | (at_builtin; refine wpl_str rfl (.tmp 39) (.tmp 43) rfl w.heap.size A3 c3 m3 rfl ho3 _ (d.drop s) (ext_drop d s _ rfl) rfl (by simp; omega) hw3.size ?_; intro A4 c4 m4 w4 hm4 ho4 hg4 hb4; have hB4 := Blk.append hB3 ho3 hg4 (by decide); have hw4 := hw3.trans hb4; obtain ⟨a0, a1, _, _⟩ := hB4.two))
        go_roundw
        case rel => exact ⟨k + 1, A4, c4, m4, d, hlt, by go_num, rfl, rfl, hd64, (show _ = _ by rw [hm4.out, hm3.out]; exact hnx.out), ho4, by (have := congrArg List.length hm4.out; simp at this; omega), hw4⟩
        case measure => simp [intOf]; omega
      · have hk1b : (kk == 1) = false := by simpa using h1
        rcases Nat.eq_zero_or_pos k with hkz | hkp
        · have hpk : prevK ds k = none := by unfold prevK; rw [if_pos hkz]
          have hnew : Hid (vb ds.length ++ rgo none [] ds = (m ++ [b1 (rowGo kk (ds.drop k)), b1 kk.toNat]) ++ rgo (prevK ds (k + 1)) ld (ds.drop (k + 1))) := (show _ = _ by
            rw [htot.out, HAT.out, HPS.out, if_neg h1, hpk, if_neg (by simp)]
            simp)
          have hgd : decide ((0 : Int) < (k : Int)) = false := by simp; omega
          have hgd2 : decide (0 < k) = false := by simp; omega
          clear hpk hkz
          go_wp2_with fail
          go_quiet (fail)
          go_wp2_with fail
          have hend : ∀ n, n ≤ (ds.drop k).length → (∀ j (h : j < (ds.drop k).length), j < n → (ds.drop k)[j].1 ≠ 1 ∧ (ds.drop k)[j].1 = kk) → (n = (ds.drop k).length ∨ ∃ h : n < (ds.drop k).length, ¬ ((ds.drop k)[n].1 ≠ 1 ∧ (ds.drop k)[n].1 = kk)) → rowGo kk (ds.drop k) = n := fun n a b c => rowGo_end a b c
          have h1h : Hid (kk ≠ 1) := h1
          have HE := Lib.hid hend
          clear hend h1 hc0 hc1
          go_loopw [8] (fun s8 wq => ∃ n : Nat, 1 ≤ n ∧ k + n ≤ ds.length ∧ s8 = .int .i64 n ∧ Hid (∀ j (h : j < (ds.drop k).length), j < n → (ds.drop k)[j].1 ≠ 1 ∧ (ds.drop k)[j].1 = kk) ∧ Blk wq wr.heap.size 117 #[.int .i64 kk, .string ⟨d.toArray⟩] ∧ OwnB wq w.heap.size 5 A c m ∧ Below w.heap.size w wq) (fun s8 wq => ds.length - (intOf s8).toNat)
          case atStart =>
            refine ⟨1, by omega, by omega, rfl, (fun j hj hj1 => ?_), (Blk.new _ _ _).drewN _, World.ownsRow.alloc ho _, below_drewN (bel_alloc hbr _) _⟩
            obtain rfl : j = 0 := by omega
            rw [List.getElem_drop]
            simp only [Nat.add_zero]
            rw [HX.out]
            exact ⟨h1h.out, rfl⟩
          case round =>
            obtain ⟨n, hn1, hkn, rfl, hall, hBq, hoq, hbq⟩ := hrel
            obtain ⟨a0, a1, _, _⟩ := hBq.two
            by_cases hin : k + n < ds.length
            · obtain ⟨ad', b', o', hE, had', hc'⟩ := Sl.atS (f := df) (size := 2) (fun _ => rfl) (by omega) (h.below hbq) hin
              injection hE with hE
              subst hE
              have hc0' := hc' 0 _ rfl
              rw [Nat.add_zero] at hc0'
              clear hc'
              have hst : Hid (¬ ((ds[k + n]'hin).1 ≠ 1 ∧ (ds[k + n]'hin).1 = kk) → rowGo kk (ds.drop k) = n) := (show _ → _ from fun hc => HE.out n (by simp; omega) hall.out (.inr ⟨by simp; omega, by rw [List.getElem_drop]; exact hc⟩))
              have hnx : Hid ((ds[k + n]'hin).1 = kk → ∀ j (h : j < (ds.drop k).length), j < n + 1 → (ds.drop k)[j].1 ≠ 1 ∧ (ds.drop k)[j].1 = kk) := (show _ → _ from fun h2 j hj hjn => by
                by_cases e : j = n
                · subst e
                  rw [List.getElem_drop]
                  exact ⟨by rw [h2]; exact h1h.out, h2⟩
                · exact hall.out j hj (by omega))
              generalize (ds[k + n]'hin).1 = kq at *
              rcases Decidable.em (kq = kk) with rfl | hq
              · have hN := Lib.hid (hnx.out rfl)
                have hw0 : (0 : Int) ≤ (k : Int) + (n : Int) := by omega
                have hwl : (k : Int) + (n : Int) < (ds.length : Int) := by omega
                have hwt : ((k : Int) + (n : Int)).toNat = k + n := by omega
                have hwa : IntKind.i64.wrap ((k : Int) + (n : Int)) = (k : Int) + (n : Int) := IntWalk.i64_in _ (by omega)
                go_wp2_with fail
                go_quiet (fail)
                clear hwa hwt
                go_wp2_with fail
                go_roundw
                case rel => exact ⟨n + 1, by omega, by omega, by go_num, hN.out, hBq.drewN _, hoq, below_drewN hbq _⟩
                case measure => simp [intOf]; omega
              · have hqb : (kq == kk) = false := by simpa using hq
                have hR := Lib.hid (hst.out (fun h => hq h.2))
                clear hq
                have hw0 : (0 : Int) ≤ (k : Int) + (n : Int) := by omega
                have hwl : (k : Int) + (n : Int) < (ds.length : Int) := by omega
                have hwt : ((k : Int) + (n : Int)).toNat = k + n := by omega
                have hn64 : n ≤ 64 := by omega
                have e1 : ((UInt8.ofNat n).toNat : Int) = (n : Int) := by simp; omega
                have e2 : ((UInt8.ofNat kk.toNat).toNat : Int) = kk := by simp; omega
                have hlit : ∀ W : World, SlB (W.alloc (.cells #[.int .u8 (n : Int), .int .u8 kk] 5)) (some ⟨W.heap.size, 0, none⟩) 2 [b1 n, b1 kk.toNat] := fun W => by
                  have := Sl.lits W [bv (b1 n), bv (b1 kk.toNat)] 5 (by simp [maxLen])
                  rw [show (#[.int .u8 (n : Int), .int .u8 kk] : Array Value) = [bv (b1 n), bv (b1 kk.toNat)].toArray from by simp only [bv, b1, e1, e2]]
                  exact this
                have HLIT := Lib.hid hlit
                clear hlit e1 e2
                have hwa : IntKind.i64.wrap ((k : Int) + (n : Int)) = (k : Int) + (n : Int) := IntWalk.i64_in _ (by omega)
                go_wp2_with fail
                go_quiet (fail)
                clear hwa hwt
                have hB5 := hBq.drewN nq
                have hb5 := below_drewN hbq nq
                have ho5 : OwnB (World.drewN _ nq) w.heap.size 5 A c m := hoq
                generalize hwq : World.drewN _ nq = w5 at *
                clear hwq
                obtain ⟨a0, a1, _, _⟩ := hB5.two
                go_wp2_with (at_builtin; go_must (refine wpl_bytes 29 5 Tryz.underlying29 u8_info rfl (.tmp 80) (.tmp 86) rfl w.heap.size A c m rfl (World.ownsRow.alloc ho5 _) (some ⟨w5.heap.size, 0, none⟩) 2 [b1 n, b1 kk.toNat] rfl (HLIT.out w5) (by simp; omega) (by have := hb5.size; simp; omega) ?_; intro A3 c3 m3 w3 hm3 ho3 _ _ hb3))
                have hw3 := (bel_alloc hb5 (.cells #[.int .u8 (n : Int), .int .u8 kk] 5)).trans hb3
                go_roundw
                case rel => exact ⟨k + 1, A3, c3, m3, ld, hlt, by go_num, rfl, rfl, hld, (show _ = _ by rw [hm3.out, hnew.out, hR.out]), ho3, (by have := congrArg List.length hm3.out; simp at this; omega), hw3⟩
                case measure => simp [intOf]; omega
            · have hR := Lib.hid (HE.out n (by simp; omega) hall.out (.inl (by simp; omega)))
              have hwl : decide ((k : Int) + (n : Int) < (ds.length : Int)) = false := by simp; omega
              have hwt : ((k : Int) + (n : Int)).toNat = k + n := by omega
              have hn64 : n ≤ 64 := by omega
              have e1 : ((UInt8.ofNat n).toNat : Int) = (n : Int) := by simp; omega
              have e2 : ((UInt8.ofNat kk.toNat).toNat : Int) = kk := by simp; omega
              have hlit : ∀ W : World, SlB (W.alloc (.cells #[.int .u8 (n : Int), .int .u8 kk] 5)) (some ⟨W.heap.size, 0, none⟩) 2 [b1 n, b1 kk.toNat] := fun W => by
                have := Sl.lits W [bv (b1 n), bv (b1 kk.toNat)] 5 (by simp [maxLen])
                rw [show (#[.int .u8 (n : Int), .int .u8 kk] : Array Value) = [bv (b1 n), bv (b1 kk.toNat)].toArray from by simp only [bv, b1, e1, e2]]
                exact this
              have HLIT := Lib.hid hlit
              clear hlit e1 e2
              have hwa : IntKind.i64.wrap ((k : Int) + (n : Int)) = (k : Int) + (n : Int) := IntWalk.i64_in _ (by omega)
              go_wp2_with fail
              go_quiet (fail)
              clear hwa hwt
              have hB5 := hBq.drewN nq
              have hb5 := below_drewN hbq nq
              have ho5 : OwnB (World.drewN _ nq) w.heap.size 5 A c m := hoq
              generalize hwq : World.drewN _ nq = w5 at *
              clear hwq
              obtain ⟨a0, a1, _, _⟩ := hB5.two
              go_wp2_with (at_builtin; go_must (refine wpl_bytes 29 5 Tryz.underlying29 u8_info rfl (.tmp 80) (.tmp 86) rfl w.heap.size A c m rfl (World.ownsRow.alloc ho5 _) (some ⟨w5.heap.size, 0, none⟩) 2 [b1 n, b1 kk.toNat] rfl (HLIT.out w5) (by simp; omega) (by have := hb5.size; simp; omega) ?_; intro A3 c3 m3 w3 hm3 ho3 _ _ hb3))
              have hw3 := (bel_alloc hb5 (.cells #[.int .u8 (n : Int), .int .u8 kk] 5)).trans hb3
              go_roundw
              case rel => exact ⟨k + 1, A3, c3, m3, ld, hlt, by go_num, rfl, rfl, hld, (show _ = _ by rw [hm3.out, hnew.out, hR.out]), ho3, (by have := congrArg List.length hm3.out; simp at this; omega), hw3⟩
              case measure => simp [intOf]; omega
        · have hkl : k - 1 < ds.length := by omega
          have hgd : decide ((0 : Int) < (k : Int)) = true := by simp; omega
          have hgd2 : decide (0 < k) = true := by simp; omega
          have hgi : (0 : Int) ≤ (k : Int) - 1 := by omega
          have hgj : (k : Int) - 1 < (ds.length : Int) := by omega
          have hpk : prevK ds k = some (ds[k - 1]'hkl).1 := by
            unfold prevK
            rw [if_neg (by omega), List.getElem?_eq_getElem hkl]
            rfl
          obtain ⟨ad', b', o', hE, had', hc'⟩ := Sl.atS (f := df) (size := 2) (fun _ => rfl) (by omega) (h.below hbr) hkl
          injection hE with hE
          subst hE
          have hc0' := hc' 0 _ rfl
          rw [Nat.add_zero] at hc0'
          have hbl' := World.block_lt_of_cell? _ _ hc0'
          have hba' : b' < _ := hbl'
          have hne' := Nat.ne_of_lt hba'
          clear hc'
          generalize (ds[k - 1]'hkl).1 = kp at *
          rcases Decidable.em (kp = kk) with rfl | hkk
          · have hnew : Hid (vb ds.length ++ rgo none [] ds = m ++ rgo (prevK ds (k + 1)) ld (ds.drop (k + 1))) := (show _ = _ by
              rw [htot.out, HAT.out, HPS.out, if_neg h1, hpk, if_pos rfl])
            clear hpk
            have hgt : ((k : Int) - 1).toNat = k - 1 := by omega
            have hgw : IntKind.i64.wrap ((k : Int) - 1) = (k : Int) - 1 := IntWalk.i64_in _ (by omega)
            go_wp2_with fail
            go_quiet (fail)
            clear hgw hgt
            go_wp2_with fail
            go_roundw
            case rel => exact ⟨k + 1, A, c, m, ld, hlt, by go_num, rfl, rfl, hld, hnew, World.ownsRow.alloc ho _, by omega, below_drewN (bel_alloc hbr _) _⟩
            case measure => simp [intOf]; omega
          · have hkb : (kp == kk) = false := by simpa using hkk
            have hnew : Hid (vb ds.length ++ rgo none [] ds = (m ++ [b1 (rowGo kk (ds.drop k)), b1 kk.toNat]) ++ rgo (prevK ds (k + 1)) ld (ds.drop (k + 1))) := (show _ = _ by
              rw [htot.out, HAT.out, HPS.out, if_neg h1, hpk, if_neg (by simpa using hkk)]
              simp)
            clear hpk
            have hgt : ((k : Int) - 1).toNat = k - 1 := by omega
            have hgw : IntKind.i64.wrap ((k : Int) - 1) = (k : Int) - 1 := IntWalk.i64_in _ (by omega)
            go_wp2_with fail
            go_quiet (fail)
            clear hgw hgt
            go_wp2_with fail
            have hend : ∀ n, n ≤ (ds.drop k).length → (∀ j (h : j < (ds.drop k).length), j < n → (ds.drop k)[j].1 ≠ 1 ∧ (ds.drop k)[j].1 = kk) → (n = (ds.drop k).length ∨ ∃ h : n < (ds.drop k).length, ¬ ((ds.drop k)[n].1 ≠ 1 ∧ (ds.drop k)[n].1 = kk)) → rowGo kk (ds.drop k) = n := fun n a b c => rowGo_end a b c
            have h1h : Hid (kk ≠ 1) := h1
            have HE := Lib.hid hend
            clear hend h1 hc0 hc1
            go_loopw [8] (fun s8 wq => ∃ n : Nat, 1 ≤ n ∧ k + n ≤ ds.length ∧ s8 = .int .i64 n ∧ Hid (∀ j (h : j < (ds.drop k).length), j < n → (ds.drop k)[j].1 ≠ 1 ∧ (ds.drop k)[j].1 = kk) ∧ Blk wq wr.heap.size 117 #[.int .i64 kk, .string ⟨d.toArray⟩] ∧ OwnB wq w.heap.size 5 A c m ∧ Below w.heap.size w wq) (fun s8 wq => ds.length - (intOf s8).toNat)
            case atStart =>
              refine ⟨1, by omega, by omega, rfl, (fun j hj hj1 => ?_), (Blk.new _ _ _).drewN _, World.ownsRow.alloc ho _, below_drewN (bel_alloc hbr _) _⟩
              obtain rfl : j = 0 := by omega
              rw [List.getElem_drop]
              simp only [Nat.add_zero]
              rw [HX.out]
              exact ⟨h1h.out, rfl⟩
            case round =>
              obtain ⟨n, hn1, hkn, rfl, hall, hBq, hoq, hbq⟩ := hrel
              obtain ⟨a0, a1, _, _⟩ := hBq.two
              by_cases hin : k + n < ds.length
              · obtain ⟨ad', b', o', hE, had', hc'⟩ := Sl.atS (f := df) (size := 2) (fun _ => rfl) (by omega) (h.below hbq) hin
                injection hE with hE
                subst hE
                have hc0' := hc' 0 _ rfl
                rw [Nat.add_zero] at hc0'
                clear hc'
                have hst : Hid (¬ ((ds[k + n]'hin).1 ≠ 1 ∧ (ds[k + n]'hin).1 = kk) → rowGo kk (ds.drop k) = n) := (show _ → _ from fun hc => HE.out n (by simp; omega) hall.out (.inr ⟨by simp; omega, by rw [List.getElem_drop]; exact hc⟩))
                have hnx : Hid ((ds[k + n]'hin).1 = kk → ∀ j (h : j < (ds.drop k).length), j < n + 1 → (ds.drop k)[j].1 ≠ 1 ∧ (ds.drop k)[j].1 = kk) := (show _ → _ from fun h2 j hj hjn => by
                  by_cases e : j = n
                  · subst e
                    rw [List.getElem_drop]
                    exact ⟨by rw [h2]; exact h1h.out, h2⟩
                  · exact hall.out j hj (by omega))
                generalize (ds[k + n]'hin).1 = kq at *
                rcases Decidable.em (kq = kk) with rfl | hq
                · have hN := Lib.hid (hnx.out rfl)
                  have hw0 : (0 : Int) ≤ (k : Int) + (n : Int) := by omega
                  have hwl : (k : Int) + (n : Int) < (ds.length : Int) := by omega
                  have hwt : ((k : Int) + (n : Int)).toNat = k + n := by omega
                  have hwa : IntKind.i64.wrap ((k : Int) + (n : Int)) = (k : Int) + (n : Int) := IntWalk.i64_in _ (by omega)
                  go_wp2_with fail
                  go_quiet (fail)
                  clear hwa hwt
                  go_wp2_with fail
                  go_roundw
                  case rel => exact ⟨n + 1, by omega, by omega, by go_num, hN.out, hBq.drewN _, hoq, below_drewN hbq _⟩
                  case measure => simp [intOf]; omega
                · have hqb : (kq == kk) = false := by simpa using hq
                  have hR := Lib.hid (hst.out (fun h => hq h.2))
                  clear hq
                  have hw0 : (0 : Int) ≤ (k : Int) + (n : Int) := by omega
                  have hwl : (k : Int) + (n : Int) < (ds.length : Int) := by omega
                  have hwt : ((k : Int) + (n : Int)).toNat = k + n := by omega
                  have hn64 : n ≤ 64 := by omega
                  have e1 : ((UInt8.ofNat n).toNat : Int) = (n : Int) := by simp; omega
                  have e2 : ((UInt8.ofNat kk.toNat).toNat : Int) = kk := by simp; omega
                  have hlit : ∀ W : World, SlB (W.alloc (.cells #[.int .u8 (n : Int), .int .u8 kk] 5)) (some ⟨W.heap.size, 0, none⟩) 2 [b1 n, b1 kk.toNat] := fun W => by
                    have := Sl.lits W [bv (b1 n), bv (b1 kk.toNat)] 5 (by simp [maxLen])
                    rw [show (#[.int .u8 (n : Int), .int .u8 kk] : Array Value) = [bv (b1 n), bv (b1 kk.toNat)].toArray from by simp only [bv, b1, e1, e2]]
                    exact this
                  have HLIT := Lib.hid hlit
                  clear hlit e1 e2
                  have hwa : IntKind.i64.wrap ((k : Int) + (n : Int)) = (k : Int) + (n : Int) := IntWalk.i64_in _ (by omega)
                  go_wp2_with fail
                  go_quiet (fail)
                  clear hwa hwt
                  have hB5 := hBq.drewN nq
                  have hb5 := below_drewN hbq nq
                  have ho5 : OwnB (World.drewN _ nq) w.heap.size 5 A c m := hoq
                  generalize hwq : World.drewN _ nq = w5 at *
                  clear hwq
                  obtain ⟨a0, a1, _, _⟩ := hB5.two
                  go_wp2_with (at_builtin; go_must (refine wpl_bytes 29 5 Tryz.underlying29 u8_info rfl (.tmp 80) (.tmp 86) rfl w.heap.size A c m rfl (World.ownsRow.alloc ho5 _) (some ⟨w5.heap.size, 0, none⟩) 2 [b1 n, b1 kk.toNat] rfl (HLIT.out w5) (by simp; omega) (by have := hb5.size; simp; omega) ?_; intro A3 c3 m3 w3 hm3 ho3 _ _ hb3))
                  have hw3 := (bel_alloc hb5 (.cells #[.int .u8 (n : Int), .int .u8 kk] 5)).trans hb3
                  go_roundw
                  case rel => exact ⟨k + 1, A3, c3, m3, ld, hlt, by go_num, rfl, rfl, hld, (show _ = _ by rw [hm3.out, hnew.out, hR.out]), ho3, (by have := congrArg List.length hm3.out; simp at this; omega), hw3⟩
                  case measure => simp [intOf]; omega
              · have hR := Lib.hid (HE.out n (by simp; omega) hall.out (.inl (by simp; omega)))
                have hwl : decide ((k : Int) + (n : Int) < (ds.length : Int)) = false := by simp; omega
                have hwt : ((k : Int) + (n : Int)).toNat = k + n := by omega
                have hn64 : n ≤ 64 := by omega
                have e1 : ((UInt8.ofNat n).toNat : Int) = (n : Int) := by simp; omega
                have e2 : ((UInt8.ofNat kk.toNat).toNat : Int) = kk := by simp; omega
                have hlit : ∀ W : World, SlB (W.alloc (.cells #[.int .u8 (n : Int), .int .u8 kk] 5)) (some ⟨W.heap.size, 0, none⟩) 2 [b1 n, b1 kk.toNat] := fun W => by
                  have := Sl.lits W [bv (b1 n), bv (b1 kk.toNat)] 5 (by simp [maxLen])
                  rw [show (#[.int .u8 (n : Int), .int .u8 kk] : Array Value) = [bv (b1 n), bv (b1 kk.toNat)].toArray from by simp only [bv, b1, e1, e2]]
                  exact this
                have HLIT := Lib.hid hlit
                clear hlit e1 e2
                have hwa : IntKind.i64.wrap ((k : Int) + (n : Int)) = (k : Int) + (n : Int) := IntWalk.i64_in _ (by omega)
                go_wp2_with fail
                go_quiet (fail)
                clear hwa hwt
                have hB5 := hBq.drewN nq
                have hb5 := below_drewN hbq nq
                have ho5 : OwnB (World.drewN _ nq) w.heap.size 5 A c m := hoq
                generalize hwq : World.drewN _ nq = w5 at *
                clear hwq
                obtain ⟨a0, a1, _, _⟩ := hB5.two
                go_wp2_with (at_builtin; go_must (refine wpl_bytes 29 5 Tryz.underlying29 u8_info rfl (.tmp 80) (.tmp 86) rfl w.heap.size A c m rfl (World.ownsRow.alloc ho5 _) (some ⟨w5.heap.size, 0, none⟩) 2 [b1 n, b1 kk.toNat] rfl (HLIT.out w5) (by simp; omega) (by have := hb5.size; simp; omega) ?_; intro A3 c3 m3 w3 hm3 ho3 _ _ hb3))
                have hw3 := (bel_alloc hb5 (.cells #[.int .u8 (n : Int), .int .u8 kk] 5)).trans hb3
                go_roundw
                case rel => exact ⟨k + 1, A3, c3, m3, ld, hlt, by go_num, rfl, rfl, hld, (show _ = _ by rw [hm3.out, hnew.out, hR.out]), ho3, (by have := congrArg List.length hm3.out; simp at this; omega), hw3⟩
                case measure => simp [intOf]; omega
    · have hfin : Hid (m = vb ds.length ++ rgo none [] ds) := (show _ = _ by
        rw [htot.out, List.drop_eq_nil_of_le (by omega)]
        simp [rgo])
      go_wp2_with fail
      go_ret
      exact ⟨A, c, m, rfl, hfin.out, ho, hbr⟩
end Go.Proofs.YtabnndjdkjkciaaGreatDoor

namespace Go.Proofs.YtabnndjdkjkciaaGreatDoor
open Go.ChangeShapes Go.WideShapes Go.ChangeAt Go.RowKit Go.Deep

section
variable {H : Type} {enc : TypeId × Value → H} {P : Program} {w : World} {base b0 : Nat} {held : Bool} {r : Reach} {t e b : TypeId} {v : Value} {d : DataW H} {p : List MemPlace}
theorem bytes_cell {n : Nat} {y : DataW H × List MemPlace} (ht : P.underlying t = some (.slice e)) (he : P.underlying e = some (.int .u8)) (hC : P.cellsOf e = 1) (h : DataW.trod enc P w base (fun _ => true) held n t [v] = some y) :
    ∃ (A : Option Addr) (c : Nat) (l : List UInt8), v = .slice A l.length c ∧ SlB w A c l := by
  rcases open_ints ht he hC h with ⟨hcs, _⟩ | ⟨x, l, c', zs, hcs, _, hl, hm, hz, _, hcell, hwz⟩
  · simp at hcs
    subst hcs
    exact ⟨none, 0, [], rfl, Sl.none_ _ _⟩
  · simp at hcs
    subst hcs
    simp only [if_true] at hz
    have hs := row_reads hl hm hz hcell
    have hw : ∀ z ∈ zs.take l, (Lit.int .u8 z).wf = true := fun z hz => hwz z (List.mem_of_mem_take hz)
    have hm : (zs.take l).map (Value.int .u8) = bvs ((zs.take l).map fun z => UInt8.ofNat z.toNat) := by
      rw [bvs, List.map_map]
      refine List.map_congr_left fun z hz => ?_
      have hb := bounds_u8 (hw z hz)
      simp only [Function.comp, bv, UInt8.toNat_ofNat']
      congr 1
      omega
    rw [hm] at hs
    have hlen : ((zs.take l).map fun z => UInt8.ofNat z.toNat).length = l := by simp; omega
    refine ⟨some x, c', (zs.take l).map fun z => UInt8.ofNat z.toNat, by rw [hlen], ?_⟩
    show Sl w 1 _ (List.map _ _).length c' _
    rw [hlen]
    exact hs
end
end Go.Proofs.YtabnndjdkjkciaaGreatDoor

namespace Go.Proofs.YtabnndjdkjkciaaGreatDoor
open Go.ChangeShapes Go.WideShapes Go.ChangeAt Go.RowKit
attribute [local go_sem ↓] Go.wp_at_zero Go.wp_at_succ

theorem rchk_zero : ∀ {l : List Ce}, rchk l = 0 → ∀ c ∈ l, cchk c = 0
  | [], _, c, hc => by simp at hc
  | x :: l, h, c, hc => by
    by_cases hx : cchk x = 0
    · have h2 : rchk l = 0 := by simpa [rchk, hx] using h
      rcases List.mem_cons.mp hc with rfl | hc
      · exact hx
      · exact rchk_zero h2 c hc
    · simp [rchk, hx] at h

theorem rgo_len : ∀ (l : List Ce) (prev : Option Int) (last : List UInt8), (∀ c ∈ l, cchk c = 0) → (rgo prev last l).length ≤ 100 * l.length
  | [], _, _, _ => by rw [rgo]; simp
  | c :: r, prev, last, h => by
    have hc := (cchk_ok (h c (by simp))).2.2.1
    have hr := fun prev last => rgo_len r prev last (fun c hc => h c (by simp [hc]))
    rw [rgo]
    simp only [List.length_cons]
    split
    · have := hr (some 1) c.2
      simp
      omega
    · split
      · have := hr (some c.1) last
        omega
      · have := hr (some c.1) last
        simp
        omega

namespace CellRuns
end CellRuns
end Go.Proofs.YtabnndjdkjkciaaGreatDoor

namespace Go.Proofs.YtabnndjdkjkciaaGreatDoor
open Go.RowKit

/-- a segment: its first address, its cells -/
abbrev Sg := Int × List Ce
/-- an error's number -/
def schk (s : Sg) : Nat := if s.1 < 0 ∨ 1048576 < s.1 then 1 else if 64 < s.2.length then 3 else if 1048576 < s.1 + s.2.length then 1 else rchk s.2
theorem schk_ok {s : Sg} (h : schk s = 0) : 0 ≤ s.1 ∧ s.1 ≤ 1048576 ∧ s.2.length ≤ 64 ∧ s.1 + s.2.length ≤ 1048576 ∧ rchk s.2 = 0 := by
  unfold schk at h
  by_cases h1 : s.1 < 0 ∨ 1048576 < s.1
  · rw [if_pos h1] at h; simp at h
  rw [if_neg h1] at h
  by_cases h2 : 64 < s.2.length
  · rw [if_pos h2] at h; simp at h
  rw [if_neg h2] at h
  by_cases h3 : 1048576 < s.1 + s.2.length
  · rw [if_pos h3] at h; simp at h
  rw [if_neg h3] at h
  exact ⟨by omega, by omega, by omega, by omega, h⟩
theorem schk_range {s : Sg} (h : s.1 < 0 ∨ 1048576 < s.1) : schk s = 1 := by unfold schk; rw [if_pos h]
theorem schk_long {s : Sg} (h : ¬ (s.1 < 0 ∨ 1048576 < s.1)) (h2 : 64 < s.2.length) : schk s = 3 := by unfold schk; rw [if_neg h, if_pos h2]
theorem schk_far {s : Sg} (h : ¬ (s.1 < 0 ∨ 1048576 < s.1)) (h2 : ¬ 64 < s.2.length) (h3 : 1048576 < s.1 + s.2.length) : schk s = 1 := by unfold schk; rw [if_neg h, if_neg h2, if_pos h3]
theorem schk_cells {s : Sg} (h : ¬ (s.1 < 0 ∨ 1048576 < s.1)) (h2 : ¬ 64 < s.2.length) (h3 : ¬ 1048576 < s.1 + s.2.length) : schk s = rchk s.2 := by unfold schk; rw [if_neg h, if_neg h2, if_neg h3]
end Go.Proofs.YtabnndjdkjkciaaGreatDoor

namespace Go.Proofs.YtabnndjdkjkciaaGreatDoor
open Go.RowKit
attribute [local go_sem ↓] Go.wp_at_zero Go.wp_at_succ

set_option maxRecDepth 100000 in
set_option maxHeartbeats 400000 in
theorem SEnd_any (f : Int) (E : Option Addr) (n c : Nat) (w : World) (h0 : 0 ≤ f) (h1 : f ≤ 1048576) (h2 : n ≤ 100000000) :
    Calls Tryz.prog 161 #[cv f E n c] w fun e w' => e = .returned (.int .i64 (f + (n : Int))) ∧ Below w.heap.size w w' := by
  have hbw := below_new w (.cells #[.int .i64 f, .slice E n c] 24)
  go_enter Tryz.func161, Tryz.ntmps161
  go_wp2_with fail
  go_ret
  exact ⟨rfl, hbw⟩

set_option maxRecDepth 100000 in
set_option maxHeartbeats 1000000 in
theorem SCheck_any {E : Option Addr} {cap : Nat} (f : Int) (cs : List CeV) (w : World) (h : SlC w E cap cs) :
    Calls Tryz.prog 106 #[cv f E cs.length cap] w fun e w' => e = .returned (errv (schk (f, cs.map ceOf))) ∧ Below w.heap.size w w' := by
  have hmax := h.1.len_le
  unfold maxLen at hmax
  have hbw := below_new w (.cells #[.int .i64 f, .slice E cs.length cap] 24)
  have hB := Blk.new w 24 #[.int .i64 f, .slice E cs.length cap]
  by_cases h1 : f < 0
  · have hc := Lib.hid (schk_range (s := (f, cs.map ceOf)) (.inl h1))
    go_enter Tryz.func106, Tryz.ntmps106
    go_wp2_with fail
    go_ret
    exact ⟨by rw [hc.out]; rfl, hbw⟩
  by_cases h2 : 1048576 < f
  · have hc := Lib.hid (schk_range (s := (f, cs.map ceOf)) (.inr h2))
    go_enter Tryz.func106, Tryz.ntmps106
    go_wp2_with fail
    go_ret
    exact ⟨by rw [hc.out]; rfl, hbw⟩
  have hr : ¬ (f < 0 ∨ 1048576 < f) := by omega
  by_cases h3 : 64 < cs.length
  · have hc := Lib.hid (schk_long (s := (f, cs.map ceOf)) hr (by simpa using h3))
    clear hr
    go_enter Tryz.func106, Tryz.ntmps106
    go_wp2_with fail
    go_ret
    exact ⟨by rw [hc.out]; rfl, hbw⟩
  by_cases h4 : 1048576 < f + cs.length
  · have hc := Lib.hid (schk_far (s := (f, cs.map ceOf)) hr (by simpa using h3) (by simpa using h4))
    clear hr
    obtain ⟨a0, a1, _, _⟩ := hB.two
    go_enter Tryz.func106, Tryz.ntmps106
    go_wp2_with fail
    refine (SEnd_any f E cs.length cap _ (by omega) (by omega) (by omega)).mono ?_
    rintro e w1 ⟨rfl, hb1⟩
    go_wp2_with fail
    go_ret
    exact ⟨by rw [hc.out]; rfl, bel_call hbw hb1⟩
  have hc := Lib.hid (schk_cells (s := (f, cs.map ceOf)) hr (by simpa using h3) (by simpa using h4))
  clear hr
  obtain ⟨a0, a1, _, _⟩ := hB.two
  go_enter Tryz.func106, Tryz.ntmps106
  go_wp2_with fail
  refine (SEnd_any f E cs.length cap _ (by omega) (by omega) (by omega)).mono ?_
  rintro e w1 ⟨rfl, hb1⟩
  have hw1 := bel_call hbw hb1
  have hB1 := hB.below hb1
  obtain ⟨a0, a1, _, _⟩ := hB1.two
  clear hB hbw hb1 hB1
  go_wp2_with fail
  go_loopw [30] (fun x wr => ∃ k : Nat, k ≤ cs.length ∧ x = .int .i64 k ∧ Hid (∀ c ∈ (cs.map ceOf).take k, cchk c = 0) ∧ Below w.heap.size w wr) (fun x w => cs.length - (intOf x).toNat)
  case atStart => exact ⟨0, Nat.zero_le _, rfl, (fun c hc => by simp at hc), hw1⟩
  case round =>
    obtain ⟨k, hk, rfl, hall, hbr⟩ := hrel
    clear a0 a1
    by_cases hlt : k < cs.length
    · obtain ⟨ad, b, o, rfl, had, hc0, hc1, _⟩ := (h.below hbr).at2 hlt
      have hbad := Lib.hid (rchk_at (l := cs.map ceOf) (k := k) (by simpa using hlt) hall.out)
      have hgood : Hid (cchk ((cs.map ceOf)[k]'(by simpa using hlt)) = 0 → ∀ c ∈ (cs.map ceOf).take (k + 1), cchk c = 0) := (show _ → _ from fun h c hc => by
        rw [List.take_succ_eq_append_getElem (by simpa using hlt), List.mem_append] at hc
        rcases hc with hc | hc
        · exact hall.out c hc
        · simp only [List.mem_singleton] at hc
          rw [hc]; exact h)
      rw [List.getElem_map] at hbad hgood
      generalize cs[k] = x at *
      obtain ⟨kk, A, c, d⟩ := x
      dsimp only [ceOf] at *
      have hC := fun W => CCheck_any (A := A) (c := c) kk d W
      rcases errv_cases (cchk (kk, d)) with ⟨h1, e1⟩ | ⟨n1, p1, q1, e1⟩
      · simp only [e1] at hC
        have C1 := Lib.hid hC
        have hg := Lib.hid (hgood.out h1)
        clear hC h1 e1 hgood hbad
        go_wp2_with fail
        refine (C1.out _).mono ?_
        rintro e w4 ⟨rfl, hb4⟩
        have hn4 := bel_call (bel_alloc hbr (.cells #[.int .i64 kk, .slice A d.length c] 112)) hb4
        go_wp2_with fail
        go_roundw
        case rel => exact ⟨k + 1, hlt, by go_num, hg, hn4⟩
        case measure => simp [intOf]; omega
      · simp only [e1] at hC
        have C1 := Lib.hid hC
        have hr : Hid (rchk (cs.map ceOf) = cchk (kk, d)) := Lib.hid (hbad.out (by omega))
        have E1 := Lib.hid e1
        clear hC hbad hgood e1 q1
        go_wp2_with fail
        refine (C1.out _).mono ?_
        rintro e w4 ⟨rfl, hb4⟩
        have hn4 := bel_call (bel_alloc hbr (.cells #[.int .i64 kk, .slice A d.length c] 112)) hb4
        go_wp2_with fail
        go_ret
        exact ⟨by rw [hc.out]; dsimp only; rw [hr.out, E1.out]; rfl, hn4⟩
    · go_wp2_with fail
      go_ret
      have h5 : rchk (cs.map ceOf) = 0 := rchk_ok fun c hc => hall.out c (by rw [List.take_of_length_le (by simp; omega)]; exact hc)
      exact ⟨by rw [hc.out]; dsimp only; rw [h5]; rfl, hbr⟩
end Go.Proofs.YtabnndjdkjkciaaGreatDoor

namespace Go.Proofs.YtabnndjdkjkciaaGreatDoor
open Go.RowKit
attribute [local go_sem ↓] Go.wp_at_zero Go.wp_at_succ

theorem rchk_next {l : List Ce} {k : Nat} (hk : k < l.length) (hall : ∀ c ∈ l.take k, cchk c = 0) (h0 : cchk l[k] = 0) : ∀ c ∈ l.take (k + 1), cchk c = 0 := fun c hc => by
  rw [List.take_succ_eq_append_getElem hk, List.mem_append] at hc
  rcases hc with hc | hc
  · exact hall c hc
  · simp only [List.mem_singleton] at hc
    rw [hc]; exact h0

set_option maxRecDepth 100000 in
set_option maxHeartbeats 1000000 in
theorem rSCheck_any {E : Option Addr} {cap : Nat} (f : Int) (ds : List Ce) (w : World) (h : SlD w E cap ds) :
    Calls Tryz.prog 10 #[cv f E ds.length cap] w fun e w' => e = .returned (.int .i64 (schk (f, ds) : Nat)) ∧ Below w.heap.size w w' := by
  have hmax := h.len_le
  unfold maxLen at hmax
  have hbw := below_new w (.cells #[.int .i64 f, .slice E ds.length cap] 34)
  have hB := Blk.new w 34 #[.int .i64 f, .slice E ds.length cap]
  by_cases h1 : f < 0
  · have hc := Lib.hid (schk_range (s := (f, ds)) (.inl h1))
    go_enter Tryz.func10, Tryz.ntmps10
    go_wp2_with fail
    go_ret
    exact ⟨by rw [hc.out]; rfl, hbw⟩
  by_cases h2 : 1048576 < f
  · have hc := Lib.hid (schk_range (s := (f, ds)) (.inr h2))
    go_enter Tryz.func10, Tryz.ntmps10
    go_wp2_with fail
    go_ret
    exact ⟨by rw [hc.out]; rfl, hbw⟩
  have hr : ¬ (f < 0 ∨ 1048576 < f) := by omega
  by_cases h3 : 64 < ds.length
  · have hc := Lib.hid (schk_long (s := (f, ds)) hr h3)
    clear hr
    go_enter Tryz.func10, Tryz.ntmps10
    go_wp2_with fail
    go_ret
    exact ⟨by rw [hc.out]; rfl, hbw⟩
  by_cases h4 : 1048576 < f + ds.length
  · have hc := Lib.hid (schk_far (s := (f, ds)) hr h3 h4)
    clear hr
    go_enter Tryz.func10, Tryz.ntmps10
    go_wp2_with fail
    go_ret
    exact ⟨by rw [hc.out]; rfl, hbw⟩
  have hc := Lib.hid (schk_cells (s := (f, ds)) hr h3 h4)
  clear hr
  go_enter Tryz.func10, Tryz.ntmps10
  go_wp2_with fail
  go_loopw [3] (fun x wr => ∃ k : Nat, k ≤ ds.length ∧ x = .int .i64 k ∧ Hid (∀ c ∈ ds.take k, cchk c = 0) ∧ Below w.heap.size w wr ∧ Blk wr w.heap.size 34 #[.int .i64 f, .slice E ds.length cap]) (fun x w => ds.length - (intOf x).toNat)
  case atStart => exact ⟨0, Nat.zero_le _, rfl, (fun c hc => by simp at hc), hbw, hB⟩
  case round =>
    obtain ⟨k, hk, rfl, hall, hbr, hBr⟩ := hrel
    obtain ⟨a0, a1, _, _⟩ := hBr.two
    by_cases hlt : k < ds.length
    · obtain ⟨ad, b, o, rfl, had, hcc⟩ := (h.below hbr).atS (f := df) (fun _ => rfl) (by decide) hlt
      have hc0 := hcc 0 _ rfl
      have hc1 := hcc 1 _ rfl
      clear hcc
      have hbad := Lib.hid (rchk_at (l := ds) (k := k) hlt hall.out)
      have hgood := Lib.hid (rchk_next hlt hall.out)
      generalize ds[k] = x at *
      obtain ⟨kk, d⟩ := x
      dsimp only at *
      rw [Nat.add_zero] at hc0
      rcases Nat.eq_zero_or_pos (cchk (kk, d)) with h1 | h1
      · have hg := Lib.hid (hgood.out h1)
        have hz := Lib.hid h1
        clear h1 hgood hbad
        go_wp2_with fail
        refine (rCheck_any kk d _).mono ?_
        rintro e w4 ⟨rfl, hb4⟩
        rw [hz.out]
        have hn4 := bel_call hbr hb4
        have hB4 := hBr.below hb4
        clear a0 a1 hBr hbr hb4 hc0 hc1
        go_wp2_with fail
        go_roundw
        case rel => exact ⟨k + 1, hlt, by go_num, hg, hn4, hB4⟩
        case measure => simp [intOf]; omega
      · have hr : Hid (rchk ds = cchk (kk, d)) := Lib.hid (hbad.out (by omega))
        have hk1 : (((cchk (kk, d) : Nat) : Int) != 0) = true := by simp; omega
        clear hbad hgood
        go_wp2_with fail
        refine (rCheck_any kk d _).mono ?_
        rintro e w4 ⟨rfl, hb4⟩
        have hn4 := bel_call hbr hb4
        generalize cchk (kk, d) = q at *
        go_wp2_with fail
        go_ret
        exact ⟨by rw [hc.out]; dsimp only; rw [hr.out]; rfl, hn4⟩
    · go_wp2_with fail
      go_ret
      have h5 : rchk ds = 0 := rchk_ok fun c hc => hall.out c (by rw [List.take_of_length_le (by omega)]; exact hc)
      exact ⟨by rw [hc.out]; dsimp only; rw [h5]; rfl, hbr⟩
end Go.Proofs.YtabnndjdkjkciaaGreatDoor

namespace Go.Proofs.YtabnndjdkjkciaaGreatDoor
open Go.RowKit
attribute [local go_sem ↓] Go.wp_at_zero Go.wp_at_succ

def ssame (a b : Sg) : Bool := decide (a = b)
theorem same_iff {a b : Ce} : same a b = true ↔ a = b := by unfold same; exact decide_eq_true_iff
theorem take_ne {xs ys : List Ce} {k : Nat} (hx : k < xs.length) (hy : k < ys.length) (h : xs[k] ≠ ys[k]) : decide (xs = ys) = false := by
  rw [decide_eq_false_iff_not]
  rintro rfl
  exact h rfl
theorem len_ne {xs ys : List Ce} (h : xs.length ≠ ys.length) : decide (xs = ys) = false := by
  rw [decide_eq_false_iff_not]
  rintro rfl
  exact h rfl
theorem ssame_ne {f f2 : Int} {l m : List Ce} (h : f ≠ f2) : ssame (f, l) (f2, m) = false := by
  unfold ssame
  rw [decide_eq_false_iff_not]
  intro he
  exact h (congrArg Prod.fst he)
theorem ssame_eq {f : Int} {l m : List Ce} : ssame (f, l) (f, m) = decide (l = m) := by
  unfold ssame
  rw [decide_eq_decide]
  exact ⟨fun h => congrArg Prod.snd h, fun h => by rw [h]⟩

set_option maxRecDepth 100000 in
set_option maxHeartbeats 1000000 in
theorem rSSame_any {E G : Option Addr} {cap cap2 : Nat} (f f2 : Int) (cs ds : List Ce) (w : World) (h : SlD w E cap cs) (h2 : SlD w G cap2 ds) :
    Calls Tryz.prog 17 #[cv f E cs.length cap, cv f2 G ds.length cap2] w fun e w' => e = .returned (.bool (ssame (f, cs) (f2, ds))) ∧ Below w.heap.size w w' := by
  have hmax := h.len_le
  have hmax2 := h2.len_le
  unfold maxLen at hmax hmax2
  have hbb := bel_alloc (below_new w (.cells #[.int .i64 f, .slice E cs.length cap] 34)) (.cells #[.int .i64 f2, .slice G ds.length cap2] 34)
  by_cases hf : f = f2
  · subst hf
    have hsr := Lib.hid (ssame_eq (f := f) (l := cs) (m := ds))
    have hfb : (f != f) = false := by simp
    by_cases hl : cs.length = ds.length
    · have HL := Lib.hid hl
      have hlb : ((cs.length : Int) != (ds.length : Int)) = false := by simp [hl]
      have hle1 : cs.length ≤ ds.length := by omega
      have hle2 : ds.length ≤ cs.length := by omega
      have hB1 := (Blk.new w 34 #[.int .i64 f, .slice E cs.length cap]).alloc (.cells #[.int .i64 f, .slice G ds.length cap2] 34)
      have hB2 := Blk.newAt (w := w.alloc (.cells #[.int .i64 f, .slice E cs.length cap] 34)) (g := w.heap.size + 1) (by simp) 34 #[.int .i64 f, .slice G ds.length cap2]
      clear hl
      go_enter Tryz.func17, Tryz.ntmps17
      go_wp2_with fail
      go_loopw [5] (fun x wr => ∃ k : Nat, k ≤ cs.length ∧ x = .int .i64 k ∧ Hid (cs.take k = ds.take k) ∧ Below w.heap.size w wr ∧ Blk wr w.heap.size 34 #[.int .i64 f, .slice E cs.length cap] ∧ Blk wr (w.heap.size + 1) 34 #[.int .i64 f, .slice G ds.length cap2]) (fun x w => cs.length - (intOf x).toNat)
      case atStart => exact ⟨0, Nat.zero_le _, rfl, (show _ = _ from by simp), hbb, hB1, hB2⟩
      case round =>
        obtain ⟨k, hk, rfl, hall, hbr, hBr1, hBr2⟩ := hrel
        obtain ⟨a0, a1, _, _⟩ := hBr1.two
        obtain ⟨b0, b1, _, _⟩ := hBr2.two
        by_cases hlt : k < cs.length
        · have hlt2 : k < ds.length := by omega
          obtain ⟨ad, b, o, rfl, had, hcc⟩ := (h.below hbr).atS (f := df) (fun _ => rfl) (by decide) hlt
          obtain ⟨ad2, b2, o2, rfl, had2, hdd⟩ := (h2.below hbr).atS (f := df) (fun _ => rfl) (by decide) hlt2
          have hc0 := hcc 0 _ rfl
          have hc1 := hcc 1 _ rfl
          have hd0 := hdd 0 _ rfl
          have hd1 := hdd 1 _ rfl
          clear hcc hdd
          have hnx := Lib.hid (take_succ_eq hall.out hlt hlt2)
          have hno := Lib.hid (take_ne hlt hlt2)
          generalize cs[k] = x at *
          generalize ds[k] = y at *
          obtain ⟨kk, d⟩ := x
          obtain ⟨kk2, d2⟩ := y
          dsimp only at *
          rw [Nat.add_zero] at hc0 hd0
          have hnn := neq_dv kk kk2 d d2
          cases hs : same (kk, d) (kk2, d2)
          · have he : ((kk, d) : Ce) ≠ (kk2, d2) := by intro he; rw [same_iff.2 he] at hs; cases hs
            have hr := Lib.hid (hno.out he)
            rw [hs] at hnn
            clear he hs hno hnx
            go_wp2_with fail
            go_quiet (fail)
            go_wp2_with fail
            go_ret
            exact ⟨by rw [hsr.out, hr.out]; rfl, below_drewN hbr _⟩
          · have hr := Lib.hid (hnx.out.2 (same_iff.1 hs))
            rw [hs] at hnn
            clear hs hno hnx
            go_wp2_with fail
            go_quiet (fail)
            go_wp2_with fail
            go_roundw
            case rel => exact ⟨k + 1, hlt, by go_num, hr, below_drewN hbr _, hBr1.drewN _, hBr2.drewN _⟩
            case measure => simp [intOf]; omega
        · go_wp2_with fail
          go_ret
          have h5 := hall.out
          rw [List.take_of_length_le (by omega), List.take_of_length_le (by omega)] at h5
          exact ⟨by rw [hsr.out, decide_eq_true h5]; rfl, hbr⟩
    · have hlb : ((cs.length : Int) != (ds.length : Int)) = true := by simp; omega
      have hr := Lib.hid (len_ne hl)
      clear hl
      go_enter Tryz.func17, Tryz.ntmps17
      go_wp2_with fail
      go_ret
      exact ⟨by rw [hsr.out, hr.out]; rfl, hbb⟩
  · have hfb : (f != f2) = true := by simpa using hf
    have hr := Lib.hid (ssame_ne (l := cs) (m := ds) hf)
    clear hf
    go_enter Tryz.func17, Tryz.ntmps17
    go_wp2_with fail
    go_ret
    exact ⟨by rw [hr.out]; rfl, hbb⟩
end Go.Proofs.YtabnndjdkjkciaaGreatDoor
