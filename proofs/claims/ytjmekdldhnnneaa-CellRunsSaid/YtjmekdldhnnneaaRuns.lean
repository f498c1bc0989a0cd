/- WHAT IS PROVED: the statement CellRuns: for every input the law returns true. No condition. -/
import Derived.Test.YtjmekdldhnnneaaRrunX
import Derived.Test.YtjmekdldhnnneaaFrameC
namespace Go.Proofs.Ytjmekdldhnnneaa
open Go.ChangeShapes Go.WideShapes Go.ChangeAt Go.RowKit
attribute [local go_sem ↓] Go.wp_at_zero Go.wp_at_succ

theorem rchk_snoc (l : List Ce) (c : Ce) : rchk (l ++ [c]) = if rchk l ≠ 0 then rchk l else cchk c := by
  induction l with
  | nil =>
    by_cases h : cchk c = 0
    · simp [rchk, h]
    · simp [rchk, h]
  | cons x l ih =>
    by_cases h : cchk x = 0
    · simp only [List.cons_append, rchk, h, ne_eq, not_true_eq_false, if_false]
      exact ih
    · simp [rchk, h]
def bad64 (n : Nat) (l : List Ce) : Nat := if 64 < n then 3 else rchk l

theorem rchk_zero : ∀ {l : List Ce}, rchk l = 0 → ∀ c ∈ l, cchk c = 0
  | [], _, c, hc => by simp at hc
  | x :: l, h, c, hc => by
    by_cases hx : cchk x = 0
    · have h2 : rchk l = 0 := by simpa [rchk, hx] using h
      rcases List.mem_cons.mp hc with rfl | hc
      · exact hx
      · exact rchk_zero h2 c hc
    · simp [rchk, hx] at h

theorem rgo_len : ∀ (l : List Ce) (prev : Option Int) (last : List UInt8), (∀ c ∈ l, cchk c = 0) → (rgo prev last l).length ≤ 100 * l.length
  | [], _, _, _ => by rw [rgo]; simp
  | c :: r, prev, last, h => by
    have hc := (cchk_ok (h c (by simp))).2.2.1
    have hr := fun prev last => rgo_len r prev last (fun c hc => h c (by simp [hc]))
    rw [rgo]
    simp only [List.length_cons]
    split
    · have := hr (some 1) c.2
      simp
      omega
    · split
      · have := hr (some c.1) last
        omega
      · have := hr (some c.1) last
        simp
        omega

theorem runs_early {A E : Option Addr} {c cap : Nat} {b : List UInt8} {cs : List CeV} (w : World) (_ : SlB w A c b) (hc : SlC w E cap cs) (hlong : 100 < b.length ∨ longb (cs.map ceOf) 80 = true) :
    Calls Try.prog 10 #[.slice A b.length c, .slice E cs.length cap] w fun e w' => e = .returned (.bool true) ∧ Below w.heap.size w w' := by
  by_cases h1 : 100 < b.length
  · go_enter Try.func10, Try.ntmps10
    go_wp2_with fail
    refine (alive05_any _).mono ?_
    rintro e w1 ⟨rfl, hb1⟩
    go_wp2_with fail
    go_ret
    exact ⟨rfl, hb1⟩
  · have hl := hlong.resolve_left h1
    have hL := fun W (h : SlC W E cap cs) => Long_any cs 80 W h
    rw [hl] at hL
    have HL := Lib.hid hL
    clear hL hlong hl
    go_enter Try.func10, Try.ntmps10
    go_wp2_with fail
    refine (alive05_any _).mono ?_
    rintro e w1 ⟨rfl, hb1⟩
    go_wp2_with fail
    refine (HL.out _ (hc.below hb1)).mono ?_
    rintro e w2 ⟨rfl, hb2⟩
    go_wp2_with fail
    go_ret
    exact ⟨rfl, bel_call hb1 hb2⟩

set_option maxRecDepth 100000 in
set_option maxHeartbeats 4000000 in
theorem runs_walk {A E : Option Addr} {c cap : Nat} {b : List UInt8} {cs : List CeV} (w : World) (hb : SlB w A c b) (hc : SlC w E cap cs) (h1 : b.length ≤ 100) (hlong : longb (cs.map ceOf) 80 = false) :
    Calls Try.prog 10 #[.slice A b.length c, .slice E cs.length cap] w fun e w' => e = .returned (.bool true) ∧ Below w.heap.size w w' := by
  have h80 : cs.length ≤ 80 := by
    unfold longb at hlong
    rw [Bool.or_eq_false_iff] at hlong
    have := hlong.2
    simp at this
    omega
  have hL := fun W (h : SlC W E cap cs) => Long_any cs 80 W h
  rw [hlong] at hL
  have HL := Lib.hid hL
  clear hL hlong
  go_enter Try.func10, Try.ntmps10
  go_wp2_with fail
  refine (alive05_any _).mono ?_
  rintro e w1 ⟨rfl, hb1⟩
  go_wp2_with fail
  refine (HL.out _ (hc.below hb1)).mono ?_
  rintro e w2 ⟨rfl, hb2⟩
  have hw2 := bel_call hb1 hb2
  go_wp2_with (at_builtin; go_must (refine wpl_fresh 24 5 Try.underlying24 u8_info rfl _ _ rfl rfl A c b rfl (hb.below hw2) (by omega) ?_; intro A3 c3 m3 w3 hm3 ho3 hb3))
  have hm3l : m3.length ≤ 100 := by rw [hm3.out]; exact h1
  have hw3 := bel_call hw2 hb3
  refine (PutRun_any cs _ ho3.sl (hc.below hw3) (by omega)).mono ?_
  rintro e w4 ⟨hb4, hres⟩
  have hw4 := bel_call hw3 hb4
  have hbadr : Hid (∃ (bad : Nat) (P : Option Addr) (cp : Nat) (mp : List UInt8), bad = bad64 cs.length (cs.map ceOf) ∧ e = .returned (.tuple #[.slice P mp.length cp, errv bad]) ∧ SlB w4 P cp mp ∧ (bad ≠ 0 → mp = []) ∧ (bad = 0 → cs.length ≤ 64 ∧ mp = m3 ++ (vb cs.length ++ prun [] (cs.map ceOf)))) := by
    rcases hres with ⟨P, cp, mp, h64, hrk, rfl, hmp, hop⟩ | ⟨bad, hb0, hbe, rfl⟩
    · rw [List.length_map] at h64 hmp
      exact ⟨0, P, cp, mp, by unfold bad64; rw [if_neg (by omega), hrk], rfl, hop.sl, fun h => absurd rfl h, fun _ => ⟨h64, hmp.out⟩⟩
    · rw [List.length_map] at hbe
      exact ⟨bad, none, 0, [], hbe, rfl, Sl.none_ _ _, fun _ => rfl, fun h => absurd h hb0⟩
  obtain ⟨bad, P, cp, mp, hbad, rfl, hsp, hbn, hbz⟩ := hbadr.out
  have HBAD := Lib.hid hbad
  have HBN := Lib.hid hbn
  have HBZ := Lib.hid hbz
  clear hres hbadr hbad hbn hbz
  have hev : ∃ ev, errv bad = ev := ⟨_, rfl⟩
  have hnum := fun W => num_any bad W
  obtain ⟨ev, hev⟩ := hev
  simp only [hev] at hnum
  have HNUM := Lib.hid hnum
  rw [hev]
  clear hnum hev
  go_wp2_with fail
  refine (Documents_any cs _ (hc.below hw4) (by omega)).mono ?_
  rintro e w5 ⟨D, cd, ds, rfl, hds, hsd, hb5⟩
  have hw5 := bel_call hw4 hb5
  have hdl : ds.length = cs.length := by rw [hds.out]; simp
  have hdl80 : ds.length ≤ 80 := by omega
  have HDL := Lib.hid hdl
  clear hdl
  have hb35 := (bel_call hb4 hb5)
  by_cases h64 : 64 < ds.length
  · go_wp2_with fail
    go_loopw [9, 37] (fun v x wr => ∃ k bd : Nat, k ≤ ds.length ∧ x = .int .i64 k ∧ v = .int .i64 (bd : Nat) ∧ Hid (bd = if 64 < ds.length then 3 else rchk (ds.take k)) ∧ Below w5.heap.size w5 wr) (fun v x w => ds.length - (intOf x).toNat)
    case atStart => exact ⟨0, 3, Nat.zero_le _, rfl, rfl, (show _ = _ by first | rw [if_pos (by omega)] | (rw [if_neg (by omega)]; rfl)), Below.refl _ _⟩
    case round =>
      obtain ⟨k, bd, hk, rfl, rfl, hbd, hbr⟩ := hrel
      by_cases hlt : k < ds.length
      · obtain ⟨ad, b', o, rfl, had, hc⟩ := Sl.atS (f := df) (size := 2) (fun _ => rfl) (by omega) (hsd.below hbr) hlt
        have hc0 := hc 0 _ rfl
        have hc1 := hc 1 _ rfl
        rw [Nat.add_zero] at hc0
        clear hc
        have hnx : Hid ((if 64 < ds.length then 3 else rchk (ds.take (k + 1))) = if bd ≠ 0 then bd else cchk ds[k]) := (show _ = _ by
          rw [List.take_succ_eq_append_getElem hlt, rchk_snoc, hbd.out]
          by_cases h : 64 < ds.length
          · simp [h]
          · simp [h])
        generalize ds[k] = x at *
        obtain ⟨kk, d⟩ := x
        dsimp only at *
        rcases Decidable.em (bd = 0) with rfl | hb0
        · exfalso
          have := hbd.out
          rw [if_pos h64] at this
          omega
        · have hbb : ((bd : Int) == 0) = false := by simp; omega
          have hnn : Hid (bd = if 64 < ds.length then 3 else rchk (ds.take (k + 1))) := (show _ = _ by rw [hnx.out, if_pos hb0])
          clear hb0
          go_wp2_with fail
          go_roundw
          case rel => exact ⟨k + 1, bd, hlt, by go_num, rfl, hnn, bel_alloc hbr _⟩
          case measure => simp [intOf]; omega
      · have hend : Hid (bd = bad) := (show _ = _ by
          rw [hbd.out, HBAD.out, List.take_of_length_le (by omega), hds.out]
          unfold bad64
          simp)
        have hend2 := hend.out
        clear hend
        subst hend2
        have hb36 := bel_call hb35 hbr
        have ho6 : OwnB _ _ 5 A3 c3 m3 := Own.below ho3 hb36
        have hb6 := (hb.below hw5).below hbr
        have hq : (m3 == b) = true := by simpa using hm3.out
        have HQ := fun W (h1 : SlB W A3 c3 m3) (h2 : SlB W A c b) => nBytes_any A3 A c3 c m3 b W h1 h2
        have HQ2 := Lib.hid HQ
        clear HQ
        go_wp2_with fail
        refine (HNUM.out _).mono ?_
        rintro e w7 ⟨rfl, rfl⟩
        go_wp2_with fail
        refine (HQ2.out _ ho6.sl hb6).mono ?_
        rintro e w7 ⟨rfl, rfl⟩
        rcases Decidable.em (bd = 0) with hz | hnz
        · obtain ⟨h64, hmp⟩ := HBZ.out hz
          have hd64 : ds.length ≤ 64 := by have := HDL.out; omega
          have hok : Hid (∀ c ∈ ds, cchk c = 0) := (show ∀ c ∈ ds, cchk c = 0 from by
            have h1 := HBAD.out
            unfold bad64 at h1
            rw [hz, if_neg (by omega)] at h1
            rw [hds.out]
            exact rchk_zero h1.symm)
          have HMP : Hid (mp = b ++ (vb ds.length ++ rgo none [] ds)) := (show _ = _ by
            rw [hmp, hm3.out, HDL.out, rgo_prun ds.length ds [] (Nat.le_refl _) hd64 hok.out (by simp), hds.out])
          subst hz
          clear hmp
          have hsp6 := (hsp.below hb5).below hbr
          go_wp2_with (at_builtin; refine wpl_fresh 24 5 Try.underlying24 u8_info rfl (.tmp 62) (.tmp 63) rfl rfl A c b rfl hb6 (by omega) ?_; intro A7 c7 m7 w7 hm7 ho7 hb7)
          refine (rRun_any ds _ ((hsd.below hbr).below hb7) hd64 hok).mono ?_
          rintro e w8 ⟨A8, c8, m8, rfl, hm8, ho8, hb8⟩
          have ho7b : OwnB w8 wr.heap.size 5 A7 c7 m7 := Own.below ho7 hb8
          have hb78 := bel_call hb7 hb8
          have hl8 : m8.length ≤ 10000 := by
            have h1 := rgo_len ds none [] hok.out
            have h2 := vb_le10 (n := ds.length) (by omega)
            rw [hm8.out, List.length_append]
            omega
          have hl7 : m7.length ≤ 100 := by rw [hm7.out]; exact h1
          go_wp2_with (at_builtin; refine wpl_bytes 24 5 Try.underlying24 u8_info rfl (.tmp 64) (.tmp 66) rfl wr.heap.size A7 c7 m7 rfl ho7b A8 c8 m8 rfl ho8.sl (by omega) hb78.size ?_; intro A9 c9 m9 w9 hm9 ho9 _ _ hb9)
          have hq2 : (mp == m9) = true := by
            have h := HMP.out
            rw [← hm8.out, ← hm7.out] at h
            simpa [hm9.out] using h
          have hqq := nBytes_any P A9 cp c9 mp m9 w9 (hsp6.below (hb78.trans hb9)) ho9.sl
          rw [hq2] at hqq
          refine hqq.mono ?_
          rintro e wz ⟨rfl, rfl⟩
          go_wp2_with fail
          go_ret
          exact ⟨rfl, bel_call (bel_call hw5 hbr) (hb78.trans hb9)⟩
        · have hbb : ((bd : Int) != 0) = true := by simp; omega
          obtain rfl := HBN.out hnz
          clear hnz
          go_wp2_with fail
          go_ret
          exact ⟨rfl, bel_call hw5 hbr⟩
  · go_wp2_with fail
    go_loopw [9, 37] (fun v x wr => ∃ k bd : Nat, k ≤ ds.length ∧ x = .int .i64 k ∧ v = .int .i64 (bd : Nat) ∧ Hid (bd = if 64 < ds.length then 3 else rchk (ds.take k)) ∧ Below w5.heap.size w5 wr) (fun v x w => ds.length - (intOf x).toNat)
    case atStart => exact ⟨0, 0, Nat.zero_le _, rfl, rfl, (show _ = _ by first | rw [if_pos (by omega)] | (rw [if_neg (by omega)]; rfl)), Below.refl _ _⟩
    case round =>
      obtain ⟨k, bd, hk, rfl, rfl, hbd, hbr⟩ := hrel
      by_cases hlt : k < ds.length
      · obtain ⟨ad, b', o, rfl, had, hc⟩ := Sl.atS (f := df) (size := 2) (fun _ => rfl) (by omega) (hsd.below hbr) hlt
        have hc0 := hc 0 _ rfl
        have hc1 := hc 1 _ rfl
        rw [Nat.add_zero] at hc0
        clear hc
        have hnx : Hid ((if 64 < ds.length then 3 else rchk (ds.take (k + 1))) = if bd ≠ 0 then bd else cchk ds[k]) := (show _ = _ by
          rw [List.take_succ_eq_append_getElem hlt, rchk_snoc, hbd.out]
          by_cases h : 64 < ds.length
          · simp [h]
          · simp [h])
        generalize ds[k] = x at *
        obtain ⟨kk, d⟩ := x
        dsimp only at *
        rcases Decidable.em (bd = 0) with rfl | hb0
        · go_wp2_with fail
          refine (rCheck_any kk d _).mono ?_
          rintro e w6 ⟨rfl, hb6⟩
          go_wp2_with fail
          go_roundw
          case rel => exact ⟨k + 1, cchk (kk, d), hlt, by go_num, rfl, (show _ = _ by rw [hnx.out]; simp), bel_call (bel_alloc hbr _) hb6⟩
          case measure => simp [intOf]; omega
        · have hbb : ((bd : Int) == 0) = false := by simp; omega
          have hnn : Hid (bd = if 64 < ds.length then 3 else rchk (ds.take (k + 1))) := (show _ = _ by rw [hnx.out, if_pos hb0])
          clear hb0
          go_wp2_with fail
          go_roundw
          case rel => exact ⟨k + 1, bd, hlt, by go_num, rfl, hnn, bel_alloc hbr _⟩
          case measure => simp [intOf]; omega
      · have hend : Hid (bd = bad) := (show _ = _ by
          rw [hbd.out, HBAD.out, List.take_of_length_le (by omega), hds.out]
          unfold bad64
          simp)
        have hend2 := hend.out
        clear hend
        subst hend2
        have hb36 := bel_call hb35 hbr
        have ho6 : OwnB _ _ 5 A3 c3 m3 := Own.below ho3 hb36
        have hb6 := (hb.below hw5).below hbr
        have hq : (m3 == b) = true := by simpa using hm3.out
        have HQ := fun W (h1 : SlB W A3 c3 m3) (h2 : SlB W A c b) => nBytes_any A3 A c3 c m3 b W h1 h2
        have HQ2 := Lib.hid HQ
        clear HQ
        go_wp2_with fail
        refine (HNUM.out _).mono ?_
        rintro e w7 ⟨rfl, rfl⟩
        go_wp2_with fail
        refine (HQ2.out _ ho6.sl hb6).mono ?_
        rintro e w7 ⟨rfl, rfl⟩
        rcases Decidable.em (bd = 0) with hz | hnz
        · obtain ⟨h64, hmp⟩ := HBZ.out hz
          have hd64 : ds.length ≤ 64 := by have := HDL.out; omega
          have hok : Hid (∀ c ∈ ds, cchk c = 0) := (show ∀ c ∈ ds, cchk c = 0 from by
            have h1 := HBAD.out
            unfold bad64 at h1
            rw [hz, if_neg (by omega)] at h1
            rw [hds.out]
            exact rchk_zero h1.symm)
          have HMP : Hid (mp = b ++ (vb ds.length ++ rgo none [] ds)) := (show _ = _ by
            rw [hmp, hm3.out, HDL.out, rgo_prun ds.length ds [] (Nat.le_refl _) hd64 hok.out (by simp), hds.out])
          subst hz
          clear hmp
          have hsp6 := (hsp.below hb5).below hbr
          go_wp2_with (at_builtin; refine wpl_fresh 24 5 Try.underlying24 u8_info rfl (.tmp 62) (.tmp 63) rfl rfl A c b rfl hb6 (by omega) ?_; intro A7 c7 m7 w7 hm7 ho7 hb7)
          refine (rRun_any ds _ ((hsd.below hbr).below hb7) hd64 hok).mono ?_
          rintro e w8 ⟨A8, c8, m8, rfl, hm8, ho8, hb8⟩
          have ho7b : OwnB w8 wr.heap.size 5 A7 c7 m7 := Own.below ho7 hb8
          have hb78 := bel_call hb7 hb8
          have hl8 : m8.length ≤ 10000 := by
            have h1 := rgo_len ds none [] hok.out
            have h2 := vb_le10 (n := ds.length) (by omega)
            rw [hm8.out, List.length_append]
            omega
          have hl7 : m7.length ≤ 100 := by rw [hm7.out]; exact h1
          go_wp2_with (at_builtin; refine wpl_bytes 24 5 Try.underlying24 u8_info rfl (.tmp 64) (.tmp 66) rfl wr.heap.size A7 c7 m7 rfl ho7b A8 c8 m8 rfl ho8.sl (by omega) hb78.size ?_; intro A9 c9 m9 w9 hm9 ho9 _ _ hb9)
          have hq2 : (mp == m9) = true := by
            have h := HMP.out
            rw [← hm8.out, ← hm7.out] at h
            simpa [hm9.out] using h
          have hqq := nBytes_any P A9 cp c9 mp m9 w9 (hsp6.below (hb78.trans hb9)) ho9.sl
          rw [hq2] at hqq
          refine hqq.mono ?_
          rintro e wz ⟨rfl, rfl⟩
          go_wp2_with fail
          go_ret
          exact ⟨rfl, bel_call (bel_call hw5 hbr) (hb78.trans hb9)⟩
        · have hbb : ((bd : Int) != 0) = true := by simp; omega
          obtain rfl := HBN.out hnz
          clear hnz
          go_wp2_with fail
          go_ret
          exact ⟨rfl, bel_call hw5 hbr⟩

theorem runs_all {A E : Option Addr} {c cap : Nat} {b : List UInt8} {cs : List CeV} (w : World) (hb : SlB w A c b) (hc : SlC w E cap cs) (_ : ∀ x ∈ cs, I64 x.1) :
    Calls Try.prog 10 #[.slice A b.length c, .slice E cs.length cap] w fun e w' => e = .returned (.bool true) ∧ Below w.heap.size w w' := by
  by_cases h1 : 100 < b.length
  · exact runs_early w hb hc (.inl h1)
  · by_cases h2 : longb (cs.map ceOf) 80 = true
    · exact runs_early w hb hc (.inr h2)
    · exact runs_walk w hb hc (by omega) (by simpa using h2)
namespace CellRuns
theorem own : ownKnob Try.prog.godebug = none := by kernel_rfl
theorem laidOut : laidOutB Try.prog = true := by kernel_rfl

set_option maxRecDepth 100000 in
theorem lifted (os : Os) (started : os.Started) (H : Type) (enc : TypeId × Value → H) :
    ReturnsInHanded {} Try.checked os 10 .any (Rows.cellRunsSpec.pre6 enc Try.prog Try.f10 Rows.cellRunsRow.domain false) (Rows.cellRunsSpec.post enc Try.prog Try.f10 false true false false) := by
  refine returnsInHanded_of_change (C := Try.checked) own started (by kernel_rfl) Try.func10
    (ChangeSpec.witness6 (enc := enc) (C := Try.checked) false ⟨#[], #[.slice none 0 0, .slice none 0 0], []⟩ 8 (by kernel_rfl) (by kernel_rfl) (by kernel_rfl) (by kernel_rfl)) ?_
  intro W base args ds gs before hval0 hW hcnd _
  have hval : ∀ (j : Nat) t v, Try.f10.params[j]? = some t → args[j]? = some v → Value.okWide Try.prog W .any base t v := hval0
  have hW0 := hW
  obtain ⟨p, q, hA0, hV, rfl, hfz, hnd⟩ := hW
  have hA : DataW.TrodAll enc Try.prog W 0 (fun _ => true) true Try.f10.params.toList args.toList ds p := hA0
  rw [Try.params10] at hA hval
  obtain ⟨v0, vs0, d0, ds0, p0, q0, hargs, rfl, rfl, h0, r0⟩ := trodAll_cons hA
  obtain ⟨v1, vs1, d1, ds1, p1, q1, rfl, rfl, rfl, h1, r1⟩ := trodAll_cons r0
  obtain ⟨rfl, rfl, rfl⟩ := trodAll_nil r1
  obtain rfl : args = #[v0, v1] := by cases args; simp_all
  obtain ⟨rfl, rfl⟩ := trodVars_none hV
  have lt0 : ∀ x ∈ p0, x.block < W.heap.size := by obtain ⟨m, hm⟩ := h0; exact DataW.trod_lt m _ _ _ hm
  have lt1 : ∀ x ∈ p1, x.block < W.heap.size := by obtain ⟨m, hm⟩ := h1; exact DataW.trod_lt m _ _ _ hm
  have k0 := h0
  obtain ⟨A0, c0, l0, rfl, s0⟩ := open_bytes Try.underlying24 Try.underlying5 (by kernel_rfl) (hval 0 24 v0 rfl rfl) h0
  have k1 := h1
  obtain ⟨A1, c1, l1, rfl, s1, u1⟩ := open_cells Try.underlying68 Try.underlying66 Try.underlying3 Try.underlying24 Try.underlying5 (by kernel_rfl) (by kernel_rfl) (by kernel_rfl) (hval 1 68 v1 rfl rfl) h1
  clear hA0 hval0
  refine (runs_all W s0 s1 u1).mono fun e W2 ⟨he, bel⟩ => ?_
  subst he
  exact ⟨_, rfl, _, _, _, [], _, [], hW0, trodAll_mk1 (shut_bool Try.underlying4 _), (trodAll_cons_mk (Below.trod laidOut (by kernel_rfl) (of_decide_eq_true (by kernel_rfl)) k0 bel lt0) (trodAll_cons_mk (Below.trod laidOut (by kernel_rfl) (of_decide_eq_true (by kernel_rfl)) k1 bel lt1) trodAll_mk0)), rfl, bel.frame _, fun h => by cases h⟩

theorem over : Rows.cellRunsRow.holds Try.pinned (OpenSpec.ofChange Rows.cellRunsSpec) :=
  OpenClaim.holds_of_wide 10 Try.f10 rfl rfl rfl rfl rfl rfl rfl ⟨rfl, rfl, rfl, rfl, rfl⟩ rfl rfl rfl rfl rfl (by kernel_rfl) Try.func10 (by kernel_rfl)
    (of_decide_eq_true (by kernel_rfl)) (by unfold Func.isWrapper; first | (rw [if_pos (by decide +kernel)]; kernel_rfl) | (rw [if_neg (by decide +kernel)]; exact ⟨rfl, rfl⟩))
    (fun os started H enc _ => lifted os started H enc)

theorem proved : Rows.CellRunsSaid := over
end CellRuns
end Go.Proofs.Ytjmekdldhnnneaa
