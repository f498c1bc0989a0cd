/- WHAT IT HOLDS: the document's Run, walked. -/
import Derived.Test.YtjkdnnekagcdhaaSegmentTakesG13
namespace Go.Proofs.Ytjkdnnekagcdhaa
open Go.RowKit
attribute [local go_sem ↓] Go.wp_at_zero Go.wp_at_succ

theorem ext_drop (d : List UInt8) (s n : Nat) (hn : n = d.length) : (⟨d.toArray⟩ : ByteArray).extract s n = ⟨(d.drop s).toArray⟩ := by
  subst hn
  apply ByteArray.ext
  simp only [ByteArray.data_extract, List.extract_toArray]
  rw [List.extract_eq_take_drop, List.take_of_length_le (by simp)]
/-- append of a string to bytes -/
theorem wpl_str {w : World} {ops : Array Oper} {rest : List Oper} {o : Oper} {a : Act} {Q : Exit → Act → World → Prop} (hgd : o.guard = none) (s x : Operand)
    (ho : o.op = .call { callee := .builtin .append, args := #[s, x], argTypes := #[22, 9] })
    (base : Nat) (A : Option Addr) (c : Nat) (l : List UInt8) (hs : a.eval s = .slice A l.length c) (hown : OwnB w base 5 A c l)
    (sb : ByteArray) (l2 : List UInt8) (hsb : sb = ⟨l2.toArray⟩) (hx : a.eval x = .string sb) (hlen : l.length + l2.length ≤ 1000000000) (hbase : base ≤ w.heap.size)
    (h : ∀ A' c' (m : List UInt8) w', Hid (m = l ++ l2) → OwnB w' base 5 A' c' m → w.grownBy w' (A.map (·.block)) → Below base w w' → wpList Try.prog ops Q rest (a.put o.dst (.slice A' m.length c')) w') : wpList Try.prog ops Q (o :: rest) a w := by
  subst hsb
  obtain ⟨i0, hi, hz0, hz1, hz2⟩ := info_parts u8_info
  have hsz : (⟨l2.toArray⟩ : ByteArray).size = l2.length := rfl
  have hsc : Lib.strCells ⟨l2.toArray⟩ = bvs l2 := rfl
  refine Lib.wpList_append_own_string (P := Try.prog) w hgd s x 22 9 ho base 5 i0 Try.underlying22 Try.underlying9 hi hz0 hz1 hz2 (.slice A l.length c) l.length (bvs l) hs hown ⟨l2.toArray⟩ hx (by rw [hsz]; simp only [maxLen]; omega) (by rw [hsz]; omega) hbase ?_
  intro v' w' hown' hg _
  rw [hsz, hsc] at hown'
  have hb : Below base w w' := (Below.refl _ _).grown hg hbase (fun k hk => by rw [ownBlock_slice] at hk; exact (hown.lt k hk).1)
  have hform : ∃ A' c', v' = .slice A' (l ++ l2).length c' := by
    rw [List.length_append]
    rcases hown'.2 with ⟨rfl, hn⟩ | ⟨g, cap, _, rfl, _⟩
    · exact ⟨none, 0, by rw [hn]⟩
    · exact ⟨_, _, rfl⟩
  obtain ⟨A', c', rfl⟩ := hform
  rw [ownBlock_slice] at hg
  refine h A' c' (l ++ l2) w' rfl ?_ hg hb
  rw [← List.length_append] at hown'
  simpa [OwnB] using hown'

/-- a block of another type is as it was behind an append -/
theorem Blk.append {w w' : World} {g : Nat} {t e : TypeId} {cs : Array Value} {base size n c : Nat} {A : Option Addr} {xs : List Value} (h : Blk w g t cs) (ho : Own w base e size A n c xs) (hg : w.grownBy w' (A.map (·.block))) (hne : e ≠ t) : Blk w' g t cs := by
  refine (hg.block g h.lt (fun he => ?_)).trans h
  rcases ho.2 with ⟨hv, _⟩ | ⟨g', cap, cur, hv, _, hh, _⟩
  · injection hv with hA
    subst hA
    simp at he
  · injection hv with hA
    subst hA
    simp at he
    subst he
    unfold Blk at h
    rw [h] at hh
    injection hh with hh
    injection hh with _ ht
    exact hne ht.symm
def prevK (ds : List Ce) (k : Nat) : Option Int := if k = 0 then none else ds[k - 1]?.map (·.1)
theorem prevK_succ {ds : List Ce} {k : Nat} (h : k < ds.length) : prevK ds (k + 1) = some ds[k].1 := by
  unfold prevK
  rw [if_neg (by omega)]
  simp [List.getElem?_eq_getElem h]
theorem rgo_at {ds : List Ce} {k : Nat} (h : k < ds.length) (prev : Option Int) (last : List UInt8) : rgo prev last (ds.drop k) = if ds[k].1 = 1 then [0, b1 ds[k].2.length, b1 (cpl ds[k].2 last)] ++ ds[k].2.drop (cpl ds[k].2 last) ++ rgo (some 1) ds[k].2 (ds.drop (k + 1))
    else if prev = some ds[k].1 then rgo (some ds[k].1) last (ds.drop (k + 1)) else [b1 (rowGo ds[k].1 (ds.drop k)), b1 ds[k].1.toNat] ++ rgo (some ds[k].1) last (ds.drop (k + 1)) := by
  rw [List.drop_eq_getElem_cons h, rgo]

set_option maxRecDepth 100000 in
set_option maxHeartbeats 4000000 in
theorem rRun_any {E : Option Addr} {cap : Nat} (ds : List Ce) (w : World) (h : SlD w E cap ds) (h64 : ds.length ≤ 64) (hok : Hid (∀ c ∈ ds, cchk c = 0)) :
    Calls Try.prog 106 #[.slice E ds.length cap] w (GivesB w (vb ds.length ++ rgo none [] ds)) := by
  have hmax := h.2.1
  have hmax2 := h.2.2.1
  unfold maxLen at hmax2
  have hu : U64 ds.length := by unfold U64; omega
  have hw := wrap_u64_of hu
  go_enter Try.func106, Try.ntmps106
  go_wp2_with fail
  refine (rBytes_any ds.length hu _).mono ?_
  rintro e w1 ⟨A1, c1, m1, rfl, hm1, ho1, hb1⟩
  have hml1 : m1.length ≤ 10 := by rw [hm1.out]; exact vb_le10 hu
  go_wp2_with fail
  go_loopw [3, 4, 5] (fun s3 s4 s5 wr => ∃ (k : Nat) (A : Option Addr) (c : Nat) (m ld : List UInt8), k ≤ ds.length ∧ s5 = .int .i64 k ∧ s3 = .slice A m.length c ∧ s4 = .string ⟨ld.toArray⟩ ∧ ld.length ≤ 64 ∧ Hid (vb ds.length ++ rgo none [] ds = m ++ rgo (prevK ds k) ld (ds.drop k)) ∧ OwnB wr w.heap.size 5 A c m ∧ m.length ≤ 10 + 200 * k ∧ Below w.heap.size w wr) (fun s3 s4 s5 wr => ds.length - (intOf s5).toNat)
  case atStart => exact ⟨0, A1, c1, m1, [], Nat.zero_le _, rfl, rfl, rfl, by simp, (show _ = _ by rw [hm1.out]; simp [prevK]), ho1, by omega, hb1⟩
  case round =>
    obtain ⟨k, A, c, m, ld, hk, rfl, rfl, rfl, hld, htot, ho, hml, hbr⟩ := hrel
    by_cases hlt : k < ds.length
    · obtain ⟨ad, b, o, rfl, had, hc⟩ := Sl.atS (f := df) (size := 2) (fun _ => rfl) (by omega) (h.below hbr) hlt
      have hc0 := hc 0 _ rfl
      have hc1 := hc 1 _ rfl
      rw [Nat.add_zero] at hc0
      clear hc
      have hat := rgo_at hlt (prevK ds k) ld
      have hps := prevK_succ hlt
      have hck := cchk_ok (hok.out _ (List.getElem_mem hlt))
      have hgk : Hid (ds[k].1 = ds[k].1) := rfl
      generalize hx : ds[k] = x at *
      obtain ⟨kk, d⟩ := x
      dsimp only at *
      have hk0 := hck.1
      have hk3 := hck.2.1
      have hd64 := hck.2.2.1
      clear hck
      have HX := Lib.hid hx
      have HAT := Lib.hid hat
      have HPS := Lib.hid hps
      clear hx hat hps hgk
      rcases Decidable.em (kk = 1) with rfl | h1
      · have hcp := cpl_le d ld
        have hcm := fun W => common_any d ld W (by omega) (by omega)
        have hnx : Hid (vb ds.length ++ rgo none [] ds = (m ++ [0, b1 d.length, b1 (cpl d ld)]) ++ d.drop (cpl d ld) ++ rgo (prevK ds (k + 1)) d (ds.drop (k + 1))) := (show _ = _ by
          rw [htot.out, HAT.out, HPS.out, if_pos rfl]
          simp)
        have HC := Lib.hid hcm
        generalize cpl d ld = s at *
        have hs64 : s ≤ 64 := by omega
        have e1 : ((UInt8.ofNat d.length).toNat : Int) = (d.length : Int) := by simp; omega
        have e2 : ((UInt8.ofNat s).toNat : Int) = (s : Int) := by simp; omega
        have hlit : ∀ W : World, SlB (W.alloc (.cells #[.int .u8 0, .int .u8 (d.length : Int), .int .u8 (s : Int)] 5)) (some ⟨W.heap.size, 0, none⟩) 3 [0, b1 d.length, b1 s] := fun W => by
          have := Sl.lits W [bv 0, bv (b1 d.length), bv (b1 s)] 5 (by simp [maxLen])
          rw [show (#[.int .u8 0, .int .u8 (d.length : Int), .int .u8 (s : Int)] : Array Value) = [bv 0, bv (b1 d.length), bv (b1 s)].toArray from by simp only [bv, b1, e1, e2]; rfl]
          exact this
        have hs1 : (s : Int) ≤ (d.length : Int) := by omega
        have HLIT := Lib.hid hlit
        clear hcm hlit e1 e2
        go_wp2_with fail
        refine (HC.out _).mono ?_
        rintro e w2 ⟨rfl, hb2⟩
        have hB2 := (Blk.new _ 29 #[.int .i64 1, .string ⟨d.toArray⟩]).below hb2
        have hw2 := bel_call (bel_alloc hbr (.cells #[.int .i64 1, .string ⟨d.toArray⟩] 29)) hb2
        have ho2 : OwnB w2 w.heap.size 5 A c m := Own.below (World.ownsRow.alloc ho _) hb2
        have hz2 := hB2.lt
        obtain ⟨a0, a1, _, _⟩ := hB2.two
        go_wp2_with (first
          | (at_builtin; refine wpl_bytes 22 5 Try.underlying22 u8_info rfl (.tmp 30) (.tmp 37) rfl w.heap.size A c m rfl (World.ownsRow.alloc ho2 _) (some ⟨w2.heap.size, 0, none⟩) 3 [0, b1 d.length, b1 s] rfl (HLIT.out w2) (by simp; omega) (by have := hw2.size; simp; omega) ?_; intro A3 c3 m3 w3 hm3 ho3 hg3 _ hb3; have hB3 := Blk.append (hB2.alloc (.cells #[.int .u8 0, .int .u8 (d.length : Int), .int .u8 (s : Int)] 5)) (World.ownsRow.alloc ho2 _) hg3 (by decide); have hw3 := (bel_alloc hw2 (.cells #[.int .u8 0, .int .u8 (d.length : Int), .int .u8 (s : Int)] 5)).trans hb3; have hml3 : m3.length ≤ m.length + 3 := (by rw [hm3.out]; simp); obtain ⟨a0, a1, _, _⟩ := hB3.two)
          | (at_builtin; refine wpl_str rfl (.tmp 39) (.tmp 43) rfl w.heap.size A3 c3 m3 rfl ho3 _ (d.drop s) (ext_drop d s _ rfl) rfl (by simp; omega) hw3.size ?_; intro A4 c4 m4 w4 hm4 ho4 hg4 hb4; have hB4 := Blk.append hB3 ho3 hg4 (by decide); have hw4 := hw3.trans hb4; obtain ⟨a0, a1, _, _⟩ := hB4.two))
        go_roundw
        case rel => exact ⟨k + 1, A4, c4, m4, d, hlt, by go_num, rfl, rfl, hd64, (show _ = _ by rw [hm4.out, hm3.out]; exact hnx.out), ho4, by (have := congrArg List.length hm4.out; simp at this; omega), hw4⟩
        case measure => simp [intOf]; omega
      · have hk1b : (kk == 1) = false := by simpa using h1
        rcases Nat.eq_zero_or_pos k with hkz | hkp
        · have hpk : prevK ds k = none := by unfold prevK; rw [if_pos hkz]
          have hnew : Hid (vb ds.length ++ rgo none [] ds = (m ++ [b1 (rowGo kk (ds.drop k)), b1 kk.toNat]) ++ rgo (prevK ds (k + 1)) ld (ds.drop (k + 1))) := (show _ = _ by
            rw [htot.out, HAT.out, HPS.out, if_neg h1, hpk, if_neg (by simp)]
            simp)
          have hgd : decide ((0 : Int) < (k : Int)) = false := by simp; omega
          have hgd2 : decide (0 < k) = false := by simp; omega
          clear hpk hkz
          go_wp2_with fail
          go_quiet (fail)
          go_wp2_with fail
          have hend : ∀ n, n ≤ (ds.drop k).length → (∀ j (h : j < (ds.drop k).length), j < n → (ds.drop k)[j].1 ≠ 1 ∧ (ds.drop k)[j].1 = kk) → (n = (ds.drop k).length ∨ ∃ h : n < (ds.drop k).length, ¬ ((ds.drop k)[n].1 ≠ 1 ∧ (ds.drop k)[n].1 = kk)) → rowGo kk (ds.drop k) = n := fun n a b c => rowGo_end a b c
          have h1h : Hid (kk ≠ 1) := h1
          have HE := Lib.hid hend
          clear hend h1 hc0 hc1
          go_loopw [8] (fun s8 wq => ∃ n : Nat, 1 ≤ n ∧ k + n ≤ ds.length ∧ s8 = .int .i64 n ∧ Hid (∀ j (h : j < (ds.drop k).length), j < n → (ds.drop k)[j].1 ≠ 1 ∧ (ds.drop k)[j].1 = kk) ∧ Blk wq wr.heap.size 29 #[.int .i64 kk, .string ⟨d.toArray⟩] ∧ OwnB wq w.heap.size 5 A c m ∧ Below w.heap.size w wq) (fun s8 wq => ds.length - (intOf s8).toNat)
          case atStart =>
            refine ⟨1, by omega, by omega, rfl, (fun j hj hj1 => ?_), (Blk.new _ _ _).drewN _, World.ownsRow.alloc ho _, below_drewN (bel_alloc hbr _) _⟩
            obtain rfl : j = 0 := by omega
            rw [List.getElem_drop]
            simp only [Nat.add_zero]
            rw [HX.out]
            exact ⟨h1h.out, rfl⟩
          case round =>
            obtain ⟨n, hn1, hkn, rfl, hall, hBq, hoq, hbq⟩ := hrel
            obtain ⟨a0, a1, _, _⟩ := hBq.two
            by_cases hin : k + n < ds.length
            · obtain ⟨ad', b', o', hE, had', hc'⟩ := Sl.atS (f := df) (size := 2) (fun _ => rfl) (by omega) (h.below hbq) hin
              injection hE with hE
              subst hE
              have hc0' := hc' 0 _ rfl
              rw [Nat.add_zero] at hc0'
              clear hc'
              have hst : Hid (¬ ((ds[k + n]'hin).1 ≠ 1 ∧ (ds[k + n]'hin).1 = kk) → rowGo kk (ds.drop k) = n) := (show _ → _ from fun hc => HE.out n (by simp; omega) hall.out (.inr ⟨by simp; omega, by rw [List.getElem_drop]; exact hc⟩))
              have hnx : Hid ((ds[k + n]'hin).1 = kk → ∀ j (h : j < (ds.drop k).length), j < n + 1 → (ds.drop k)[j].1 ≠ 1 ∧ (ds.drop k)[j].1 = kk) := (show _ → _ from fun h2 j hj hjn => by
                by_cases e : j = n
                · subst e
                  rw [List.getElem_drop]
                  exact ⟨by rw [h2]; exact h1h.out, h2⟩
                · exact hall.out j hj (by omega))
              generalize (ds[k + n]'hin).1 = kq at *
              rcases Decidable.em (kq = kk) with rfl | hq
              · have hN := Lib.hid (hnx.out rfl)
                have hw0 : (0 : Int) ≤ (k : Int) + (n : Int) := by omega
                have hwl : (k : Int) + (n : Int) < (ds.length : Int) := by omega
                have hwt : ((k : Int) + (n : Int)).toNat = k + n := by omega
                have hwa : IntKind.i64.wrap ((k : Int) + (n : Int)) = (k : Int) + (n : Int) := IntWalk.i64_in _ (by omega)
                go_wp2_with fail
                go_quiet (fail)
                clear hwa hwt
                go_wp2_with fail
                go_roundw
                case rel => exact ⟨n + 1, by omega, by omega, by go_num, hN.out, hBq.drewN _, hoq, below_drewN hbq _⟩
                case measure => simp [intOf]; omega
              · have hqb : (kq == kk) = false := by simpa using hq
                have hR := Lib.hid (hst.out (fun h => hq h.2))
                clear hq
                have hw0 : (0 : Int) ≤ (k : Int) + (n : Int) := by omega
                have hwl : (k : Int) + (n : Int) < (ds.length : Int) := by omega
                have hwt : ((k : Int) + (n : Int)).toNat = k + n := by omega
                have hn64 : n ≤ 64 := by omega
                have e1 : ((UInt8.ofNat n).toNat : Int) = (n : Int) := by simp; omega
                have e2 : ((UInt8.ofNat kk.toNat).toNat : Int) = kk := by simp; omega
                have hlit : ∀ W : World, SlB (W.alloc (.cells #[.int .u8 (n : Int), .int .u8 kk] 5)) (some ⟨W.heap.size, 0, none⟩) 2 [b1 n, b1 kk.toNat] := fun W => by
                  have := Sl.lits W [bv (b1 n), bv (b1 kk.toNat)] 5 (by simp [maxLen])
                  rw [show (#[.int .u8 (n : Int), .int .u8 kk] : Array Value) = [bv (b1 n), bv (b1 kk.toNat)].toArray from by simp only [bv, b1, e1, e2]]
                  exact this
                have HLIT := Lib.hid hlit
                clear hlit e1 e2
                have hwa : IntKind.i64.wrap ((k : Int) + (n : Int)) = (k : Int) + (n : Int) := IntWalk.i64_in _ (by omega)
                go_wp2_with fail
                go_quiet (fail)
                clear hwa hwt
                have hB5 := hBq.drewN nq
                have hb5 := below_drewN hbq nq
                have ho5 : OwnB (World.drewN _ nq) w.heap.size 5 A c m := hoq
                generalize hwq : World.drewN _ nq = w5 at *
                clear hwq
                obtain ⟨a0, a1, _, _⟩ := hB5.two
                go_wp2_with (at_builtin; go_must (refine wpl_bytes 22 5 Try.underlying22 u8_info rfl (.tmp 80) (.tmp 86) rfl w.heap.size A c m rfl (World.ownsRow.alloc ho5 _) (some ⟨w5.heap.size, 0, none⟩) 2 [b1 n, b1 kk.toNat] rfl (HLIT.out w5) (by simp; omega) (by have := hb5.size; simp; omega) ?_; intro A3 c3 m3 w3 hm3 ho3 _ _ hb3))
                have hw3 := (bel_alloc hb5 (.cells #[.int .u8 (n : Int), .int .u8 kk] 5)).trans hb3
                go_roundw
                case rel => exact ⟨k + 1, A3, c3, m3, ld, hlt, by go_num, rfl, rfl, hld, (show _ = _ by rw [hm3.out, hnew.out, hR.out]), ho3, (by have := congrArg List.length hm3.out; simp at this; omega), hw3⟩
                case measure => simp [intOf]; omega
            · have hR := Lib.hid (HE.out n (by simp; omega) hall.out (.inl (by simp; omega)))
              have hwl : decide ((k : Int) + (n : Int) < (ds.length : Int)) = false := by simp; omega
              have hwt : ((k : Int) + (n : Int)).toNat = k + n := by omega
              have hn64 : n ≤ 64 := by omega
              have e1 : ((UInt8.ofNat n).toNat : Int) = (n : Int) := by simp; omega
              have e2 : ((UInt8.ofNat kk.toNat).toNat : Int) = kk := by simp; omega
              have hlit : ∀ W : World, SlB (W.alloc (.cells #[.int .u8 (n : Int), .int .u8 kk] 5)) (some ⟨W.heap.size, 0, none⟩) 2 [b1 n, b1 kk.toNat] := fun W => by
                have := Sl.lits W [bv (b1 n), bv (b1 kk.toNat)] 5 (by simp [maxLen])
                rw [show (#[.int .u8 (n : Int), .int .u8 kk] : Array Value) = [bv (b1 n), bv (b1 kk.toNat)].toArray from by simp only [bv, b1, e1, e2]]
                exact this
              have HLIT := Lib.hid hlit
              clear hlit e1 e2
              have hwa : IntKind.i64.wrap ((k : Int) + (n : Int)) = (k : Int) + (n : Int) := IntWalk.i64_in _ (by omega)
              go_wp2_with fail
              go_quiet (fail)
              clear hwa hwt
              have hB5 := hBq.drewN nq
              have hb5 := below_drewN hbq nq
              have ho5 : OwnB (World.drewN _ nq) w.heap.size 5 A c m := hoq
              generalize hwq : World.drewN _ nq = w5 at *
              clear hwq
              obtain ⟨a0, a1, _, _⟩ := hB5.two
              go_wp2_with (at_builtin; go_must (refine wpl_bytes 22 5 Try.underlying22 u8_info rfl (.tmp 80) (.tmp 86) rfl w.heap.size A c m rfl (World.ownsRow.alloc ho5 _) (some ⟨w5.heap.size, 0, none⟩) 2 [b1 n, b1 kk.toNat] rfl (HLIT.out w5) (by simp; omega) (by have := hb5.size; simp; omega) ?_; intro A3 c3 m3 w3 hm3 ho3 _ _ hb3))
              have hw3 := (bel_alloc hb5 (.cells #[.int .u8 (n : Int), .int .u8 kk] 5)).trans hb3
              go_roundw
              case rel => exact ⟨k + 1, A3, c3, m3, ld, hlt, by go_num, rfl, rfl, hld, (show _ = _ by rw [hm3.out, hnew.out, hR.out]), ho3, (by have := congrArg List.length hm3.out; simp at this; omega), hw3⟩
              case measure => simp [intOf]; omega
        · have hkl : k - 1 < ds.length := by omega
          have hgd : decide ((0 : Int) < (k : Int)) = true := by simp; omega
          have hgd2 : decide (0 < k) = true := by simp; omega
          have hgi : (0 : Int) ≤ (k : Int) - 1 := by omega
          have hgj : (k : Int) - 1 < (ds.length : Int) := by omega
          have hpk : prevK ds k = some (ds[k - 1]'hkl).1 := by
            unfold prevK
            rw [if_neg (by omega), List.getElem?_eq_getElem hkl]
            rfl
          obtain ⟨ad', b', o', hE, had', hc'⟩ := Sl.atS (f := df) (size := 2) (fun _ => rfl) (by omega) (h.below hbr) hkl
          injection hE with hE
          subst hE
          have hc0' := hc' 0 _ rfl
          rw [Nat.add_zero] at hc0'
          have hbl' := World.block_lt_of_cell? _ _ hc0'
          have hba' : b' < _ := hbl'
          have hne' := Nat.ne_of_lt hba'
          clear hc'
          generalize (ds[k - 1]'hkl).1 = kp at *
          rcases Decidable.em (kp = kk) with rfl | hkk
          · have hnew : Hid (vb ds.length ++ rgo none [] ds = m ++ rgo (prevK ds (k + 1)) ld (ds.drop (k + 1))) := (show _ = _ by
              rw [htot.out, HAT.out, HPS.out, if_neg h1, hpk, if_pos rfl])
            clear hpk
            have hgt : ((k : Int) - 1).toNat = k - 1 := by omega
            have hgw : IntKind.i64.wrap ((k : Int) - 1) = (k : Int) - 1 := IntWalk.i64_in _ (by omega)
            go_wp2_with fail
            go_quiet (fail)
            clear hgw hgt
            go_wp2_with fail
            go_roundw
            case rel => exact ⟨k + 1, A, c, m, ld, hlt, by go_num, rfl, rfl, hld, hnew, World.ownsRow.alloc ho _, by omega, below_drewN (bel_alloc hbr _) _⟩
            case measure => simp [intOf]; omega
          · have hkb : (kp == kk) = false := by simpa using hkk
            have hnew : Hid (vb ds.length ++ rgo none [] ds = (m ++ [b1 (rowGo kk (ds.drop k)), b1 kk.toNat]) ++ rgo (prevK ds (k + 1)) ld (ds.drop (k + 1))) := (show _ = _ by
              rw [htot.out, HAT.out, HPS.out, if_neg h1, hpk, if_neg (by simpa using hkk)]
              simp)
            clear hpk
            have hgt : ((k : Int) - 1).toNat = k - 1 := by omega
            have hgw : IntKind.i64.wrap ((k : Int) - 1) = (k : Int) - 1 := IntWalk.i64_in _ (by omega)
            go_wp2_with fail
            go_quiet (fail)
            clear hgw hgt
            go_wp2_with fail
            have hend : ∀ n, n ≤ (ds.drop k).length → (∀ j (h : j < (ds.drop k).length), j < n → (ds.drop k)[j].1 ≠ 1 ∧ (ds.drop k)[j].1 = kk) → (n = (ds.drop k).length ∨ ∃ h : n < (ds.drop k).length, ¬ ((ds.drop k)[n].1 ≠ 1 ∧ (ds.drop k)[n].1 = kk)) → rowGo kk (ds.drop k) = n := fun n a b c => rowGo_end a b c
            have h1h : Hid (kk ≠ 1) := h1
            have HE := Lib.hid hend
            clear hend h1 hc0 hc1
            go_loopw [8] (fun s8 wq => ∃ n : Nat, 1 ≤ n ∧ k + n ≤ ds.length ∧ s8 = .int .i64 n ∧ Hid (∀ j (h : j < (ds.drop k).length), j < n → (ds.drop k)[j].1 ≠ 1 ∧ (ds.drop k)[j].1 = kk) ∧ Blk wq wr.heap.size 29 #[.int .i64 kk, .string ⟨d.toArray⟩] ∧ OwnB wq w.heap.size 5 A c m ∧ Below w.heap.size w wq) (fun s8 wq => ds.length - (intOf s8).toNat)
            case atStart =>
              refine ⟨1, by omega, by omega, rfl, (fun j hj hj1 => ?_), (Blk.new _ _ _).drewN _, World.ownsRow.alloc ho _, below_drewN (bel_alloc hbr _) _⟩
              obtain rfl : j = 0 := by omega
              rw [List.getElem_drop]
              simp only [Nat.add_zero]
              rw [HX.out]
              exact ⟨h1h.out, rfl⟩
            case round =>
              obtain ⟨n, hn1, hkn, rfl, hall, hBq, hoq, hbq⟩ := hrel
              obtain ⟨a0, a1, _, _⟩ := hBq.two
              by_cases hin : k + n < ds.length
              · obtain ⟨ad', b', o', hE, had', hc'⟩ := Sl.atS (f := df) (size := 2) (fun _ => rfl) (by omega) (h.below hbq) hin
                injection hE with hE
                subst hE
                have hc0' := hc' 0 _ rfl
                rw [Nat.add_zero] at hc0'
                clear hc'
                have hst : Hid (¬ ((ds[k + n]'hin).1 ≠ 1 ∧ (ds[k + n]'hin).1 = kk) → rowGo kk (ds.drop k) = n) := (show _ → _ from fun hc => HE.out n (by simp; omega) hall.out (.inr ⟨by simp; omega, by rw [List.getElem_drop]; exact hc⟩))
                have hnx : Hid ((ds[k + n]'hin).1 = kk → ∀ j (h : j < (ds.drop k).length), j < n + 1 → (ds.drop k)[j].1 ≠ 1 ∧ (ds.drop k)[j].1 = kk) := (show _ → _ from fun h2 j hj hjn => by
                  by_cases e : j = n
                  · subst e
                    rw [List.getElem_drop]
                    exact ⟨by rw [h2]; exact h1h.out, h2⟩
                  · exact hall.out j hj (by omega))
                generalize (ds[k + n]'hin).1 = kq at *
                rcases Decidable.em (kq = kk) with rfl | hq
                · have hN := Lib.hid (hnx.out rfl)
                  have hw0 : (0 : Int) ≤ (k : Int) + (n : Int) := by omega
                  have hwl : (k : Int) + (n : Int) < (ds.length : Int) := by omega
                  have hwt : ((k : Int) + (n : Int)).toNat = k + n := by omega
                  have hwa : IntKind.i64.wrap ((k : Int) + (n : Int)) = (k : Int) + (n : Int) := IntWalk.i64_in _ (by omega)
                  go_wp2_with fail
                  go_quiet (fail)
                  clear hwa hwt
                  go_wp2_with fail
                  go_roundw
                  case rel => exact ⟨n + 1, by omega, by omega, by go_num, hN.out, hBq.drewN _, hoq, below_drewN hbq _⟩
                  case measure => simp [intOf]; omega
                · have hqb : (kq == kk) = false := by simpa using hq
                  have hR := Lib.hid (hst.out (fun h => hq h.2))
                  clear hq
                  have hw0 : (0 : Int) ≤ (k : Int) + (n : Int) := by omega
                  have hwl : (k : Int) + (n : Int) < (ds.length : Int) := by omega
                  have hwt : ((k : Int) + (n : Int)).toNat = k + n := by omega
                  have hn64 : n ≤ 64 := by omega
                  have e1 : ((UInt8.ofNat n).toNat : Int) = (n : Int) := by simp; omega
                  have e2 : ((UInt8.ofNat kk.toNat).toNat : Int) = kk := by simp; omega
                  have hlit : ∀ W : World, SlB (W.alloc (.cells #[.int .u8 (n : Int), .int .u8 kk] 5)) (some ⟨W.heap.size, 0, none⟩) 2 [b1 n, b1 kk.toNat] := fun W => by
                    have := Sl.lits W [bv (b1 n), bv (b1 kk.toNat)] 5 (by simp [maxLen])
                    rw [show (#[.int .u8 (n : Int), .int .u8 kk] : Array Value) = [bv (b1 n), bv (b1 kk.toNat)].toArray from by simp only [bv, b1, e1, e2]]
                    exact this
                  have HLIT := Lib.hid hlit
                  clear hlit e1 e2
                  have hwa : IntKind.i64.wrap ((k : Int) + (n : Int)) = (k : Int) + (n : Int) := IntWalk.i64_in _ (by omega)
                  go_wp2_with fail
                  go_quiet (fail)
                  clear hwa hwt
                  have hB5 := hBq.drewN nq
                  have hb5 := below_drewN hbq nq
                  have ho5 : OwnB (World.drewN _ nq) w.heap.size 5 A c m := hoq
                  generalize hwq : World.drewN _ nq = w5 at *
                  clear hwq
                  obtain ⟨a0, a1, _, _⟩ := hB5.two
                  go_wp2_with (at_builtin; go_must (refine wpl_bytes 22 5 Try.underlying22 u8_info rfl (.tmp 80) (.tmp 86) rfl w.heap.size A c m rfl (World.ownsRow.alloc ho5 _) (some ⟨w5.heap.size, 0, none⟩) 2 [b1 n, b1 kk.toNat] rfl (HLIT.out w5) (by simp; omega) (by have := hb5.size; simp; omega) ?_; intro A3 c3 m3 w3 hm3 ho3 _ _ hb3))
                  have hw3 := (bel_alloc hb5 (.cells #[.int .u8 (n : Int), .int .u8 kk] 5)).trans hb3
                  go_roundw
                  case rel => exact ⟨k + 1, A3, c3, m3, ld, hlt, by go_num, rfl, rfl, hld, (show _ = _ by rw [hm3.out, hnew.out, hR.out]), ho3, (by have := congrArg List.length hm3.out; simp at this; omega), hw3⟩
                  case measure => simp [intOf]; omega
              · have hR := Lib.hid (HE.out n (by simp; omega) hall.out (.inl (by simp; omega)))
                have hwl : decide ((k : Int) + (n : Int) < (ds.length : Int)) = false := by simp; omega
                have hwt : ((k : Int) + (n : Int)).toNat = k + n := by omega
                have hn64 : n ≤ 64 := by omega
                have e1 : ((UInt8.ofNat n).toNat : Int) = (n : Int) := by simp; omega
                have e2 : ((UInt8.ofNat kk.toNat).toNat : Int) = kk := by simp; omega
                have hlit : ∀ W : World, SlB (W.alloc (.cells #[.int .u8 (n : Int), .int .u8 kk] 5)) (some ⟨W.heap.size, 0, none⟩) 2 [b1 n, b1 kk.toNat] := fun W => by
                  have := Sl.lits W [bv (b1 n), bv (b1 kk.toNat)] 5 (by simp [maxLen])
                  rw [show (#[.int .u8 (n : Int), .int .u8 kk] : Array Value) = [bv (b1 n), bv (b1 kk.toNat)].toArray from by simp only [bv, b1, e1, e2]]
                  exact this
                have HLIT := Lib.hid hlit
                clear hlit e1 e2
                have hwa : IntKind.i64.wrap ((k : Int) + (n : Int)) = (k : Int) + (n : Int) := IntWalk.i64_in _ (by omega)
                go_wp2_with fail
                go_quiet (fail)
                clear hwa hwt
                have hB5 := hBq.drewN nq
                have hb5 := below_drewN hbq nq
                have ho5 : OwnB (World.drewN _ nq) w.heap.size 5 A c m := hoq
                generalize hwq : World.drewN _ nq = w5 at *
                clear hwq
                obtain ⟨a0, a1, _, _⟩ := hB5.two
                go_wp2_with (at_builtin; go_must (refine wpl_bytes 22 5 Try.underlying22 u8_info rfl (.tmp 80) (.tmp 86) rfl w.heap.size A c m rfl (World.ownsRow.alloc ho5 _) (some ⟨w5.heap.size, 0, none⟩) 2 [b1 n, b1 kk.toNat] rfl (HLIT.out w5) (by simp; omega) (by have := hb5.size; simp; omega) ?_; intro A3 c3 m3 w3 hm3 ho3 _ _ hb3))
                have hw3 := (bel_alloc hb5 (.cells #[.int .u8 (n : Int), .int .u8 kk] 5)).trans hb3
                go_roundw
                case rel => exact ⟨k + 1, A3, c3, m3, ld, hlt, by go_num, rfl, rfl, hld, (show _ = _ by rw [hm3.out, hnew.out, hR.out]), ho3, (by have := congrArg List.length hm3.out; simp at this; omega), hw3⟩
                case measure => simp [intOf]; omega
    · have hfin : Hid (m = vb ds.length ++ rgo none [] ds) := (show _ = _ by
        rw [htot.out, List.drop_eq_nil_of_le (by omega)]
        simp [rgo])
      go_wp2_with fail
      go_ret
      exact ⟨A, c, m, rfl, hfin.out, ho, hbr⟩
end Go.Proofs.Ytjkdnnekagcdhaa
