/- WHAT IT HOLDS: the law RegisterStays, walked. -/
import Derived.Test.YtlpniegemklfeaaGreatDoorRegisterStaysG31
import Derived.Test.YtlpniegemklfeaaGreatDoorRegisterStaysG32
import Derived.Deep.CutBlock
import Derived.Deep.DeepCutAuto
namespace Go.Proofs.YtlpniegemklfeaaGreatDoor
open Go.RowKit Go.Maps Go.Sort
attribute [local go_sem ↓] Go.wp_at_zero Go.wp_at_succ

def racta (x : RA) : Array Value := #[.int .i64 x.k, .int .i64 x.o, .int .i64 x.n, .int .i64 x.d.k, .string ⟨x.d.n.toArray⟩, .string ⟨x.d.t.toArray⟩, .slice x.d.A x.d.l.length x.d.c, .int .i64 x.d.f, .slice x.d.B x.d.ks.length x.d.kc, .slice x.B x.ks.length x.kc]
theorem Blk.tenD {w : World} {g : Nat} {t : TypeId} {a0 a1 a2 a3 a4 a5 a6 a7 a8 a9 : Value} (h : Blk w g t #[a0, a1, a2, a3, a4, a5, a6, a7, a8, a9]) : w.cell? ⟨g, 0, none⟩ = some a0 ∧ w.cell? ⟨g, 1, none⟩ = some a1 ∧ w.cell? ⟨g, 2, none⟩ = some a2 ∧ w.cell? ⟨g, 3, none⟩ = some a3 ∧ w.cell? ⟨g, 4, none⟩ = some a4 ∧ w.cell? ⟨g, 5, none⟩ = some a5 ∧ w.cell? ⟨g, 6, none⟩ = some a6 ∧ w.cell? ⟨g, 7, none⟩ = some a7 ∧ w.cell? ⟨g, 8, none⟩ = some a8 ∧ w.cell? ⟨g, 9, none⟩ = some a9 := ⟨h.cell 0, h.cell 1, h.cell 2, h.cell 3, h.cell 4, h.cell 5, h.cell 6, h.cell 7, h.cell 8, h.cell 9⟩
theorem rem24 (k : Int) : ∃ j : Int, (IntKind.u64.wrap k).tmod 4 = j ∧ 0 ≤ j ∧ j < 4 ∧ (IntKind.u64.wrap k).tmod 2 = j % 2 := by
  have h : IntKind.u64.wrap k = k % 18446744073709551616 := rfl
  refine ⟨_, rfl, ?_⟩
  rw [h, Int.tmod_eq_emod_of_nonneg (by omega), Int.tmod_eq_emod_of_nonneg (by omega)]
  have h1 : 0 ≤ k % 18446744073709551616 % 4 := by omega
  have h2 : k % 18446744073709551616 % 4 < 4 := by omega
  exact ⟨h1, h2, by omega⟩
/-- between two calls -/
structure RsS (w W : World) (g tb : Nat) (t0 t1 : Int) (i : Nat) (q : Fp) (gr gs : Nat) (d : Dk Sv) (L : L3r) (n : Int) : Prop where
  g : q.g = g
  m : RgM W gr gs q d t0 t1 L n
  st : Rst d i
  kp : Kept L d.sure
  fro : Fro w W q
  grl : w.heap.size ≤ gr
  tm : Off W q gr tb 22 #[.int .i64 t0, .int .i64 t1]
section
variable {w W W' : World} {g tb i : Nat} {t0 t1 n n' : Int} {q q' : Fp} {gr gr' gs gs' : Nat} {d d' : Dk Sv} {L L' : L3r}
theorem RsS.call (h : RsS w W g tb t0 t1 i q gr gs d L n) (hb : Below W.heap.size W W') : RsS w W' g tb t0 t1 i q gr gs d L n := ⟨h.g, h.m.below hb, h.st, h.kp, h.fro.call hb, h.grl, h.tm.below hb⟩
/-- the register acts -/
theorem RsS.rg (h : RsS w W g tb t0 t1 i q gr gs d L n) (hg : q'.g = q.g) (hR : RgM W' gr gs q' d' t0 t1 L' n') (hF : Frg q gr W W') (hM : ∀ j, q'.M j → q.M j ∨ W.heap.size ≤ j) (hs : Rst d' (i + 1)) (hk : Kept L' d'.sure) : RsS w W' g tb t0 t1 (i + 1) q' gr gs d' L' n' :=
  ⟨hg.trans h.g, hR, hs, hk, h.fro.frg hF hM h.grl, h.grl, h.tm.frg hF hM⟩
/-- the disk acts; what is sure stays -/
theorem RsS.act (h : RsS w W g tb t0 t1 i q gr gs d L n) (hg : q'.g = q.g) (hD : Dsk W' q' d') (hF : Frd q W W') (hM : ∀ j, q'.M j → q.M j ∨ W.heap.size ≤ j) : q'.g = g ∧ RgM W' gr gs q' d' t0 t1 L n ∧ Fro w W' q' ∧ Off W' q' gr tb 22 #[.int .i64 t0, .int .i64 t1] :=
  ⟨hg.trans h.g, h.m.act hg hD hF hM, h.fro.frd hF hM, h.tm.act hF hM⟩
end
set_option maxRecDepth 100000 in
set_option maxHeartbeats 1000000 in
theorem stays_walk {A : Option Addr} {c : Nat} {s : List RA} {t0 t1 : Int} (w : World) (h : SlRA w A c s) (hl : raLong s 40 = false) :
    Calls Tryz.prog 3 #[.agg #[.int .i64 t0, .int .i64 t1], .slice A s.length c] w fun e w' => e = .returned (.bool true) ∧ Below w.heap.size w w' := by
  have hb0 := below_new w (.cells #[.int .i64 t0, .int .i64 t1] 22)
  have hB0 := Blk.new w 22 #[.int .i64 t0, .int .i64 t1]
  have H := Lib.hid h
  have HSh := Lib.hid (raLong_short hl)
  have hs40 : s.length ≤ 40 := by have := (raLong_short hl).1; omega
  have HLg := fun W (hh : SlRA W A c s) => RaLong_any W hh 40
  rw [hl] at HLg
  replace HLg := Lib.hid HLg
  have HB0 := Lib.hid hB0
  have Hb0 := Lib.hid hb0
  clear h hl hb0 hB0
  go_enter Tryz.func3, Tryz.ntmps3
  go_wp2_with fail
  refine (AliveR_any _).mono ?_
  rintro e w1 ⟨rfl, hb1⟩
  have hb1' := bel_call Hb0.out hb1
  have hB1 := HB0.out.below hb1
  go_wp2_with fail
  refine (HLg.out _ (H.out.below hb1')).mono ?_
  rintro e w2 ⟨rfl, hb2⟩
  have hb2' := bel_call hb1' hb2
  have hB2 := hB1.below hb2
  clear hb1 hb2 HLg hb1' hB1 HB0 Hb0
  go_wp2_with fail
  refine (New_any 1048576 w2).mono ?_
  rintro e w3 (⟨h, -⟩ | ⟨-, q, rfl, hD, hM, hb3⟩)
  · omega
  have hB3 := hB2.below hb3
  have HF3 := Lib.hid (show Fro w w3 q from ⟨bel_call hb2' hb3, fun i hi => Nat.le_trans hb2'.size (hM i hi)⟩)
  have hOp := RgOpen_any hD (Fok.dk0 1048576) (by decide) t0 t1
  have hnq : ¬ q.M w.heap.size := fun hq => by
    have h1 := hM _ hq
    have h2 := hB2.lt
    omega
  obtain ⟨m0, m1, -⟩ := Blk.two hB3
  obtain ⟨g, hg⟩ : ∃ g, q.g = g := ⟨_, rfl⟩
  rw [hg] at hOp ⊢
  have HG := Lib.hid hg
  have HOp := Lib.hid hOp
  have HB3 := Lib.hid hB3
  rw [show errv 0 = Value.nilIface from rfl]
  clear hb2' hB2 hb3 hM hD hOp hg hB3
  go_wp2_with fail
  refine HOp.out.mono ?_
  rintro e w4 hOO
  clear HOp m0 m1
  by_cases hbad : rgBad t0 t1
  · obtain ⟨q4, -, -, hF4, hM4, h0⟩ := hOO
    rw [show rgOpen (dk0 1048576) t0 t1 = (dk0 1048576, (0, 0, 0), 1) from if_pos hbad] at h0
    rcases h0 with ⟨h0, -⟩ | ⟨-, rfl⟩
    · cases h0
    have HB := Lib.hid (HF3.out.frd hF4 hM4).1
    rw [show errv ((dk0 1048576, ((0, 0, 0) : L3r), 1) : Dk Sv × L3r × Nat).2.2 = Value.iface 59 (.int .i64 1) from rfl]
    clear hF4 hM4 hbad
    go_wp2_with fail
    go_ret
    exact ⟨rfl, HB.out⟩
  obtain ⟨d4, h41, h42⟩ := open_st (Rst.start 1048576) Ris.nil (Kept.start 1048576) hbad
  have hrs : Ris d4.sure := by
    obtain ⟨q', -, hD', -⟩ := hOO
    rw [h42] at hD'
    exact hD'.ris
  obtain ⟨hre, hst4, hsu4⟩ := h41 hrs
  rw [hre] at hOO
  obtain ⟨q4, gr4, gs4, rfl, hg4, hR4, hF4, hM4, hgr4⟩ := hOO.ok
  have hS4 : RsS w w4 g w.heap.size t0 t1 0 q4 gr4 gs4 d4 (0, 0, 0) 0 := by
    have hlt := HB3.out.lt
    refine ⟨hg4.trans HG.out, hR4, hst4, by rw [hsu4]; exact Kept.start 1048576, HF3.out.frd hF4 hM4, Nat.le_trans HF3.out.1.size hgr4, ⟨(hF4.block _ hlt hnq).trans HB3.out, fun hq => ?_, by omega⟩⟩
    rcases hM4 _ hq with h1 | h1
    · exact hnq h1
    · omega
  have HS4 := Lib.hid hS4
  have Hbad := Lib.hid hbad
  clear hOO hR4 hF4 hM4 hgr4 hg4 hst4 hsu4 hre hrs h41 h42 hnq HB3 HF3 HG hS4 hbad
  go_wp2_with fail
  generalize w.heap.size = tb at *
  go_loopw [45, 7, 8] (fun x y z wr => ∃ (i : Nat) (q : Fp) (gr gs : Nat) (d : Dk Sv) (L : L3r) (n : Int), i ≤ s.length ∧ x = .int .i64 i ∧ y = .pointer (some ⟨gr, 0, none⟩) ∧ z = .nilIface ∧ Hid (RsS w wr g tb t0 t1 i q gr gs d L n)) (fun x _ _ w => s.length - (intOf x).toNat)
  case atStart => exact ⟨0, q4, gr4, gs4, d4, (0, 0, 0), 0, Nat.zero_le _, rfl, rfl, rfl, HS4⟩
  case round =>
    clear HS4
    clear q4 d4
    obtain ⟨i, q, gr, gs, d, L, n, hi, rfl, rfl, rfl, hS0⟩ := hrel
    by_cases hlt : i < s.length
    · have hI : (i : Int) < (s.length : Int) := by omega
      have hS := H.out.below hS0.out.fro.1
      obtain ⟨ad, bk, o, hA, had, hcc⟩ := Sl.atS (f := rac) (size := 10) (fun _ => rfl) (by omega) hS.1 hlt
      have hc0 := hcc 0 _ rfl
      have hc1 := hcc 1 _ rfl
      have hc2 := hcc 2 _ rfl
      have hc3 := hcc 3 _ rfl
      have hc4 := hcc 4 _ rfl
      have hc5 := hcc 5 _ rfl
      have hc6 := hcc 6 _ rfl
      have hc7 := hcc 7 _ rfl
      have hc8 := hcc 8 _ rfl
      have hc9 := hcc 9 _ rfl
      rw [Nat.add_zero] at hc0
      have HKs := Lib.hid (H.out.2 _ (List.getElem_mem hlt)).1
      have hsh := RA.short (HSh.out.2 _ (List.getElem_mem hlt))
      clear hcc hS
      generalize s[i] = x at *
      obtain ⟨s2, -⟩ := hsh
      have hb5 := below_new wr (.cells (racta x) 39)
      have hS5 := hS0.out.call hb5
      have hAc5 := Off.new hS0.out.m.st.dsk hS0.out.m.blk.lt 39 (racta x)
      subst hA
      clear hb5 hS0
      unfold racta at *
      obtain ⟨j, hj, hj0, hj4, hj2⟩ := rem24 x.k
      rcases (show j = 0 ∨ j = 1 ∨ j = 2 ∨ j = 3 by omega) with rfl | rfl | rfl | rfl
      · have hj3 : (IntKind.u64.wrap x.k).tmod 2 = 0 := hj2
        clear hj2
        have HA := Lib.hid (RAcquire_any hS5.m hS5.st.fok (by have := hS5.st.len; rw [hS5.st.pe]; simp; omega) x.o x.n)
        obtain ⟨z0, z1, z2, z3, z4, z5, z6, z7, z8, z9⟩ := hAc5.blk.tenD
        have HS5 := Lib.hid hS5
        have HAc5 := Lib.hid hAc5
        clear hS5 hAc5
        go_wp2_with fail
        refine HA.out.mono ?_
        clear HA z0 z1 z2 z3 z4 z5 z6 z7 z8 z9
        rintro e w6 ⟨ret, k, d6, L6, n6, hA, rfl, q6, hg6, hR6, hF6, hM6⟩
        obtain ⟨hst6, hkp6, hrt⟩ := hA.st HS5.out.st HS5.out.m.st.dsk.ris HS5.out.kp
        have hS6 := HS5.out.rg hg6 hR6 hF6 hM6 hst6 hkp6
        have hAc6 := HAc5.out.frg hF6 hM6
        have HS6 := Lib.hid hS6
        have HAc6 := Lib.hid hAc6
        have hbl := below_new w6 (.cells #[.int .i64 ret.1, .int .i64 ret.2.1, .int .i64 ret.2.2] 43)
        have hBl := Blk.new w6 43 #[.int .i64 ret.1, .int .i64 ret.2.1, .int .i64 ret.2.2]
        have HRt := Lib.hid hrt
        clear hA hst6 hkp6 hrt hS6 hAc6 hg6 hR6 hF6 hM6 HS5 HAc5
        rcases Decidable.em (k = 0) with h0 | h0
        · subst h0
          obtain rfl : L6 = ret := (HRt.out rfl).symm
          rw [show errv 0 = Value.nilIface from rfl]
          go_upto_region 15 with (fail)
          refine gen1 (T := fun W => Below w6.heap.size w6 W ∧ Blk W w6.heap.size 43 #[.int .i64 L6.1, .int .i64 L6.2.1, .int .i64 L6.2.2]) ⟨hbl, hBl⟩ (fun w7 hT => ?_)
          clear hbl hBl
          obtain ⟨hbl, hBl⟩ := hT
          go_cut [74] from 67 to 105 (fun z wz => z = .bool false ∧ Below w6.heap.size w6 wz)
          case first =>
            have hst : Below w6.heap.size w6 w7.drew ∧ Blk w7.drew w6.heap.size 43 #[.int .i64 L6.1, .int .i64 L6.2.1, .int .i64 L6.2.2] := ⟨hbl.drew, hBl.drew⟩
            refine wp_region_held_drew (S := (fun W => Below w6.heap.size w6 W ∧ Blk W w6.heap.size 43 #[.int .i64 L6.1, .int .i64 L6.2.1, .int .i64 L6.2.2])) (by kernel_rfl) ?_ (fun hHeld => ?_)
            · first | with_reducible exact hst | with_reducible exact hHeld | exact ⟨bel_call hHeld.1 hb11, hHeld.2.below hb11⟩
            refine wpAnyH_take (i := 0) (oi := ⟨some 67, _, _, _, _, _⟩) (v := ?_) rfl (by kernel_rfl) (by kernel_rfl) (by kernel_rfl) (fun _ _ _ h => h) (Or.inl ⟨by kernel_rfl, ?_⟩) (by assumption) ?_
            rotate_left
            · (intro wS hSw; (try dsimp only at hSw); obtain ⟨v0, v1, v2, -, -, -⟩ := hSw.2.three; clear hSw; go_simp; (try with_reducible rfl))
            (try simp only [Act.put, List.setIfInBounds_toArray, List.set_cons_zero, List.set_cons_succ])
            refine wpAnyH_take (i := 1) (oi := ⟨some 68, _, _, _, _, _⟩) (v := ?_) rfl (by kernel_rfl) (by kernel_rfl) (by kernel_rfl) (fun _ _ _ h => h) (Or.inl ⟨by kernel_rfl, ?_⟩) (by assumption) ?_
            rotate_left
            · (intro wS hSw; (try dsimp only at hSw); obtain ⟨v0, v1, v2, -, -, -⟩ := hSw.2.three; clear hSw; go_simp; (try with_reducible rfl))
            (try simp only [Act.put, List.setIfInBounds_toArray, List.set_cons_zero, List.set_cons_succ])
            refine wpAnyH_take (i := 2) (oi := ⟨some 69, _, _, _, _, _⟩) (v := ?_) rfl (by kernel_rfl) (by kernel_rfl) (by kernel_rfl) (fun _ _ _ h => h) (Or.inl ⟨by kernel_rfl, ?_⟩) (by assumption) ?_
            rotate_left
            · (intro wS hSw; (try dsimp only at hSw); obtain ⟨v0, v1, v2, -, -, -⟩ := hSw.2.three; clear hSw; go_simp; (try with_reducible rfl))
            (try simp only [Act.put, List.setIfInBounds_toArray, List.set_cons_zero, List.set_cons_succ])
            refine wpAnyH_take (i := 3) (oi := ⟨some 70, _, _, _, _, _⟩) (v := ?_) rfl (by kernel_rfl) (by kernel_rfl) (by kernel_rfl) (fun _ _ _ h => h) (Or.inl ⟨by kernel_rfl, ?_⟩) (by assumption) ?_
            rotate_left
            · (intro wS hSw; (try dsimp only at hSw); obtain ⟨v0, v1, v2, -, -, -⟩ := hSw.2.three; clear hSw; go_simp; (try with_reducible rfl))
            (try simp only [Act.put, List.setIfInBounds_toArray, List.set_cons_zero, List.set_cons_succ])
            refine wpAnyH_take (i := 4) (oi := ⟨some 71, _, _, _, _, _⟩) (v := ?_) rfl (by kernel_rfl) (by kernel_rfl) (by kernel_rfl) (fun _ _ _ h => h) (Or.inl ⟨by kernel_rfl, ?_⟩) (by assumption) ?_
            rotate_left
            · (intro wS hSw; (try dsimp only at hSw); obtain ⟨v0, v1, v2, -, -, -⟩ := hSw.2.three; clear hSw; go_simp; (try with_reducible rfl))
            (try simp only [Act.put, List.setIfInBounds_toArray, List.set_cons_zero, List.set_cons_succ])
            refine wpAnyH_ready (rs := [5]) (by kernel_rfl) (by simp) ?_
            refine AllReadyH.cons (o := ⟨some 72, _, _, _, _, _⟩) rfl (fun K hK => ?_) AllReadyH.nil
            go_simp
            (refine (RLease_any (HS6.out.m.below hHeld.1)).mono ?_; rintro e w11 ⟨rfl, hb11⟩)
            go_wp2_with fail
            refine hK.out _ _ ?_ (fun hHeld => ?_)
            · ((try dsimp only); (first | with_reducible exact hst | with_reducible exact hHeld | exact ⟨bel_call hHeld.1 hb11, hHeld.2.below hb11⟩))
            clear hK K
            (try simp only [Act.put, List.setIfInBounds_toArray, List.set_cons_zero, List.set_cons_succ])
            refine wpAnyH_take (i := 6) (oi := ⟨some 73, _, _, _, _, _⟩) (v := ?_) rfl (by kernel_rfl) (by kernel_rfl) (by kernel_rfl) (fun _ _ _ h => h) (Or.inl ⟨by kernel_rfl, ?_⟩) (by assumption) ?_
            rotate_left
            · (intro wS hSw; (try dsimp only at hSw); obtain ⟨v0, v1, v2, -, -, -⟩ := hSw.2.three; clear hSw; go_simp; (try with_reducible rfl))
            (try simp only [Act.put, List.setIfInBounds_toArray, List.set_cons_zero, List.set_cons_succ])
            refine wpAnyH_take (i := 7) (oi := ⟨some 74, _, _, _, _, _⟩) (v := ?_) rfl (by kernel_rfl) (by kernel_rfl) (by kernel_rfl) (fun _ _ _ h => h) (Or.inl ⟨by kernel_rfl, ?_⟩) (by assumption) ?_
            rotate_left
            · (intro wS hSw; (try dsimp only at hSw); obtain ⟨v0, v1, v2, -, -, -⟩ := hSw.2.three; clear hSw; go_simp; (try with_reducible rfl))
            (try simp only [Act.put, List.setIfInBounds_toArray, List.set_cons_zero, List.set_cons_succ])
            refine wpAnyH_done (by kernel_rfl) ?_ _
            go_wp2_with fail
            go_meet
            exact ⟨by simp, hHeld.1⟩
          obtain ⟨rfl, hb9⟩ := hcut
          have hS6 := HS6.out.call hb9
          have hAc6 := HAc6.out.below hb9
          clear hb9 HS6 HAc6 HRt hbl hBl
          have hLe := Lib.hid (RLease_any hS6.m)
          have HS6 := Lib.hid hS6
          have HAc := Lib.hid hAc6
          clear hS6 hAc6
          go_wp2_with fail
          refine hLe.out.mono ?_
          rintro e w7 ⟨rfl, hb7⟩
          have hb8 := below_new w7 (.cells #[.int .i64 L6.1, .int .i64 L6.2.1, .int .i64 L6.2.2] 43)
          have hS7 := (HS6.out.call hb7).call hb8
          have hWs7 := Off.new (HS6.out.m.st.dsk.below hb7) (HS6.out.call hb7).m.blk.lt 43 #[.int .i64 L6.1, .int .i64 L6.2.1, .int .i64 L6.2.2]
          have hAc7 := (HAc.out.below hb7).below hb8
          obtain ⟨y0, y1, y2, y3, y4, y5, y6, y7, y8, y9⟩ := hAc7.blk.tenD
          clear hAc7 hb7 hLe HS6 HAc
          have hkp := Sl.below HKs.out hS7.fro.1
          have hC := Cut_any hS7.m.st.dsk (by rw [hS7.st.pe]; simp) (by have := hS7.st.len; omega) x.ks hkp (fun hne ad hA => by
            have h1 := SlZ.ltB HKs.out hne hA
            have h2 := hS7.fro.2 q6.bs (.inr (.inl rfl))
            omega)
          rw [hS7.g] at hC
          have HC := Lib.hid hC
          have HS7 := Lib.hid hS7
          have HWs7 := Lib.hid hWs7
          clear hC hS7 hWs7 hkp hb8
          go_wp2_with fail
          refine HC.out.mono ?_
          clear HC
          rintro e w9 ⟨rfl, q7, hg7, hD7, hF7, hM7, -⟩
          obtain ⟨hgg, hR7, hFr7, hTm7⟩ := HS7.out.act hg7 hD7 hF7 hM7
          have hWs8 := HWs7.out.act hF7 hM7
          have hcl := cut_len x.ks d6
          have hl6 := HS7.out.st.len
          have hp6 : d6.pend.length = 0 := by rw [HS7.out.st.pe]; rfl
          have hSt := StartDown_any hD7 (Nat.zero_le _) (by omega) rfl
          rw [hgg] at hSt
          have HSt := Lib.hid hSt
          have HD7 := Lib.hid hD7
          have HR7 := Lib.hid hR7
          have HFr7 := Lib.hid hFr7
          have HTm7 := Lib.hid hTm7
          have HWs8 := Lib.hid hWs8
          have Hgg := Lib.hid hgg
          clear hSt hD7 hR7 hFr7 hTm7 hWs8 hgg hg7 hF7 hM7 y0 y1 y2 y3 y4 y5 y6 y7 y8 y9 HWs7
          go_wp2_with fail
          refine HSt.out.mono ?_
          clear HSt
          rintro e w10 ⟨rfl, q8, hg8', hDs8, hF8, hM8, -⟩
          have hg8 := hg8'.trans Hgg.out
          have hFr8 := HFr7.out.frd hF8 hM8
          have hTm8 := HTm7.out.act hF8 hM8
          have hWs8 := HWs8.out.act hF8 hM8
          obtain ⟨hSt8, hsu8⟩ := HS7.out.st.cut x.ks
          have hKp8 : Kept L6 (dStart (dCut x.ks d6)).sure := by rw [hsu8]; exact HS7.out.kp
          clear HFr7 HTm7 HWs8 hg8' hF8 hM8 HR7 HD7 HS7 hcl hl6 hp6 hsu8 Hgg
          generalize dStart (dCut x.ks d6) = d8 at *
          obtain ⟨d9, h91, h92⟩ := open_st hSt8 hDs8.ris hKp8 Hbad.out
          have hOp := RgOpen_any hDs8 hSt8.fok (by have := hSt8.len; rw [hSt8.pe]; simp; omega) t0 t1
          rw [hg8] at hOp
          have HOp := Lib.hid hOp
          obtain ⟨m0, m1, -⟩ := Blk.two hTm8.blk
          have HW8 := Lib.hid hWs8
          have HTm8 := Lib.hid hTm8
          have HF8 := Lib.hid hFr8
          have Hg8 := Lib.hid hg8
          have HK8 := Lib.hid hKp8
          have H91 := Lib.hid h91
          have H92 := Lib.hid h92
          clear hOp hWs8 hTm8 hFr8 hg8 hDs8 hSt8 hKp8 h91 h92
          go_wp2_with fail
          refine HOp.out.mono ?_
          clear HOp m0 m1
          rintro e w10 hOO
          have hrs : Ris d9.sure := by
            obtain ⟨q', -, hD', -⟩ := hOO
            rw [H92.out] at hD'
            exact hD'.ris
          obtain ⟨hre, hst9, hsu9⟩ := H91.out hrs
          rw [hre] at hOO
          obtain ⟨q9, gr9, gs9, rfl, hg9, hR9, hF9, hM9, hgr9⟩ := hOO.ok
          have hS9 : RsS w w10 g tb t0 t1 (i + 1) q9 gr9 gs9 d9 L6 0 := ⟨hg9.trans Hg8.out, hR9, hst9, by rw [hsu9]; exact HK8.out, HF8.out.frd hF9 hM9, Nat.le_trans HF8.out.1.size hgr9, (HTm8.out.act hF9 hM9).reg (by have := HTm8.out.blk.lt; omega)⟩
          have hW9 := (HW8.out.act hF9 hM9).reg (gr' := gr9) (by have := HW8.out.blk.lt; omega)
          have HS9 := Lib.hid hS9
          clear hOO hrs hre hst9 hsu9 hg9 hF9 hM9 hgr9 HW8 HTm8 HF8 Hg8 HK8 H91 H92 hS9 hR9
          go_upto_region 22 with (fail)
          go_cut [104] from 97 to 105 (fun z wz => z = .bool false ∧ Below w10.heap.size w10 wz)
          case first =>
            have hst : Below w10.heap.size w10 w10.drew := Below.drew (Below.refl _ _)
            refine wp_region_held_drew (S := (fun W => Below w10.heap.size w10 W)) (by kernel_rfl) ?_ (fun hHeld => ?_)
            · first | with_reducible exact hst | with_reducible exact hHeld | exact bel_call hHeld hb11
            refine wpAnyH_take (i := 0) (oi := ⟨some 97, _, _, _, _, _⟩) (v := ?_) rfl (by kernel_rfl) (by kernel_rfl) (by kernel_rfl) (fun _ _ _ h => h) (Or.inl ⟨by kernel_rfl, ?_⟩) (by assumption) ?_
            rotate_left
            · (intro wS hSw; (try dsimp only at hSw); obtain ⟨v0, v1, v2, -, -, -⟩ := (hW9.blk.below hSw).three; clear hSw; go_simp; (try with_reducible rfl))
            (try simp only [Act.put, List.setIfInBounds_toArray, List.set_cons_zero, List.set_cons_succ])
            refine wpAnyH_take (i := 1) (oi := ⟨some 98, _, _, _, _, _⟩) (v := ?_) rfl (by kernel_rfl) (by kernel_rfl) (by kernel_rfl) (fun _ _ _ h => h) (Or.inl ⟨by kernel_rfl, ?_⟩) (by assumption) ?_
            rotate_left
            · (intro wS hSw; (try dsimp only at hSw); obtain ⟨v0, v1, v2, -, -, -⟩ := (hW9.blk.below hSw).three; clear hSw; go_simp; (try with_reducible rfl))
            (try simp only [Act.put, List.setIfInBounds_toArray, List.set_cons_zero, List.set_cons_succ])
            refine wpAnyH_take (i := 2) (oi := ⟨some 99, _, _, _, _, _⟩) (v := ?_) rfl (by kernel_rfl) (by kernel_rfl) (by kernel_rfl) (fun _ _ _ h => h) (Or.inl ⟨by kernel_rfl, ?_⟩) (by assumption) ?_
            rotate_left
            · (intro wS hSw; (try dsimp only at hSw); obtain ⟨v0, v1, v2, -, -, -⟩ := (hW9.blk.below hSw).three; clear hSw; go_simp; (try with_reducible rfl))
            (try simp only [Act.put, List.setIfInBounds_toArray, List.set_cons_zero, List.set_cons_succ])
            refine wpAnyH_take (i := 3) (oi := ⟨some 100, _, _, _, _, _⟩) (v := ?_) rfl (by kernel_rfl) (by kernel_rfl) (by kernel_rfl) (fun _ _ _ h => h) (Or.inl ⟨by kernel_rfl, ?_⟩) (by assumption) ?_
            rotate_left
            · (intro wS hSw; (try dsimp only at hSw); obtain ⟨v0, v1, v2, -, -, -⟩ := (hW9.blk.below hSw).three; clear hSw; go_simp; (try with_reducible rfl))
            (try simp only [Act.put, List.setIfInBounds_toArray, List.set_cons_zero, List.set_cons_succ])
            refine wpAnyH_take (i := 5) (oi := ⟨some 102, _, _, _, _, _⟩) (v := ?_) rfl (by kernel_rfl) (by kernel_rfl) (by kernel_rfl) (fun _ _ _ h => h) (Or.inl ⟨by kernel_rfl, ?_⟩) (by assumption) ?_
            rotate_left
            · (intro wS hSw; (try dsimp only at hSw); obtain ⟨v0, v1, v2, -, -, -⟩ := (hW9.blk.below hSw).three; clear hSw; go_simp; (try with_reducible rfl))
            (try simp only [Act.put, List.setIfInBounds_toArray, List.set_cons_zero, List.set_cons_succ])
            refine wpAnyH_ready (rs := [4]) (by kernel_rfl) (by simp) ?_
            refine AllReadyH.cons (o := ⟨some 101, _, _, _, _, _⟩) rfl (fun K hK => ?_) AllReadyH.nil
            go_simp
            (refine (RLease_any (HS9.out.m.below hHeld)).mono ?_; rintro e w11 ⟨rfl, hb11⟩)
            go_wp2_with fail
            refine hK.out _ _ ?_ (fun hHeld => ?_)
            · ((try dsimp only); (first | with_reducible exact hst | with_reducible exact hHeld | exact bel_call hHeld hb11))
            clear hK K
            (try simp only [Act.put, List.setIfInBounds_toArray, List.set_cons_zero, List.set_cons_succ])
            refine wpAnyH_take (i := 6) (oi := ⟨some 103, _, _, _, _, _⟩) (v := ?_) rfl (by kernel_rfl) (by kernel_rfl) (by kernel_rfl) (fun _ _ _ h => h) (Or.inl ⟨by kernel_rfl, ?_⟩) (by assumption) ?_
            rotate_left
            · (intro wS hSw; (try dsimp only at hSw); obtain ⟨v0, v1, v2, -, -, -⟩ := (hW9.blk.below hSw).three; clear hSw; go_simp; (try with_reducible rfl))
            (try simp only [Act.put, List.setIfInBounds_toArray, List.set_cons_zero, List.set_cons_succ])
            refine wpAnyH_take (i := 7) (oi := ⟨some 104, _, _, _, _, _⟩) (v := ?_) rfl (by kernel_rfl) (by kernel_rfl) (by kernel_rfl) (fun _ _ _ h => h) (Or.inl ⟨by kernel_rfl, ?_⟩) (by assumption) ?_
            rotate_left
            · (intro wS hSw; (try dsimp only at hSw); obtain ⟨v0, v1, v2, -, -, -⟩ := (hW9.blk.below hSw).three; clear hSw; go_simp; (try with_reducible rfl))
            (try simp only [Act.put, List.setIfInBounds_toArray, List.set_cons_zero, List.set_cons_succ])
            refine wpAnyH_done (by kernel_rfl) ?_ _
            go_wp2_with fail
            go_meet
            exact ⟨by simp, hHeld⟩
          obtain ⟨rfl, hb12⟩ := hcut
          have HS10 := Lib.hid (HS9.out.call hb12)
          clear hb12 HS9 hW9
          go_wp2_with fail
          go_roundw
          case rel => exact ⟨i + 1, q9, gr9, gs9, d9, L6, 0, hlt, by go_num, rfl, rfl, HS10⟩
          case measure => simp [intOf]; omega
        · obtain ⟨ev, hev⟩ := errv_ifc h0
          rw [hev]
          clear hev h0
          go_upto_region 15 with (fail)
          refine gen1 (T := fun W => Below w6.heap.size w6 W ∧ Blk W w6.heap.size 43 #[.int .i64 ret.1, .int .i64 ret.2.1, .int .i64 ret.2.2]) ⟨hbl, hBl⟩ (fun w7 hT => ?_)
          clear hbl hBl
          obtain ⟨hbl, hBl⟩ := hT
          go_cut [74] from 67 to 105 (fun z wz => z = .bool false ∧ Below w6.heap.size w6 wz)
          case first =>
            have hst : Below w6.heap.size w6 w7.drew ∧ Blk w7.drew w6.heap.size 43 #[.int .i64 ret.1, .int .i64 ret.2.1, .int .i64 ret.2.2] := ⟨hbl.drew, hBl.drew⟩
            refine wp_region_held_drew (S := (fun W => Below w6.heap.size w6 W ∧ Blk W w6.heap.size 43 #[.int .i64 ret.1, .int .i64 ret.2.1, .int .i64 ret.2.2])) (by kernel_rfl) ?_ (fun hHeld => ?_)
            · first | with_reducible exact hst | with_reducible exact hHeld | exact ⟨bel_call hHeld.1 hb11, hHeld.2.below hb11⟩
            refine wpAnyH_take (i := 0) (oi := ⟨some 67, _, _, _, _, _⟩) (v := ?_) rfl (by kernel_rfl) (by kernel_rfl) (by kernel_rfl) (fun _ _ _ h => h) (Or.inl ⟨by kernel_rfl, ?_⟩) (by assumption) ?_
            rotate_left
            · (intro wS hSw; (try dsimp only at hSw); obtain ⟨v0, v1, v2, -, -, -⟩ := hSw.2.three; clear hSw; go_simp; (try with_reducible rfl))
            (try simp only [Act.put, List.setIfInBounds_toArray, List.set_cons_zero, List.set_cons_succ])
            refine wpAnyH_take (i := 1) (oi := ⟨some 68, _, _, _, _, _⟩) (v := ?_) rfl (by kernel_rfl) (by kernel_rfl) (by kernel_rfl) (fun _ _ _ h => h) (Or.inl ⟨by kernel_rfl, ?_⟩) (by assumption) ?_
            rotate_left
            · (intro wS hSw; (try dsimp only at hSw); obtain ⟨v0, v1, v2, -, -, -⟩ := hSw.2.three; clear hSw; go_simp; (try with_reducible rfl))
            (try simp only [Act.put, List.setIfInBounds_toArray, List.set_cons_zero, List.set_cons_succ])
            refine wpAnyH_take (i := 2) (oi := ⟨some 69, _, _, _, _, _⟩) (v := ?_) rfl (by kernel_rfl) (by kernel_rfl) (by kernel_rfl) (fun _ _ _ h => h) (Or.inl ⟨by kernel_rfl, ?_⟩) (by assumption) ?_
            rotate_left
            · (intro wS hSw; (try dsimp only at hSw); obtain ⟨v0, v1, v2, -, -, -⟩ := hSw.2.three; clear hSw; go_simp; (try with_reducible rfl))
            (try simp only [Act.put, List.setIfInBounds_toArray, List.set_cons_zero, List.set_cons_succ])
            refine wpAnyH_take (i := 3) (oi := ⟨some 70, _, _, _, _, _⟩) (v := undef) rfl (by kernel_rfl) (by kernel_rfl) (by kernel_rfl) (fun _ _ _ h => h) (Or.inr ⟨by kernel_rfl, rfl⟩) (by assumption) ?_
            (try simp only [Act.put, List.setIfInBounds_toArray, List.set_cons_zero, List.set_cons_succ])
            refine wpAnyH_take (i := 4) (oi := ⟨some 71, _, _, _, _, _⟩) (v := undef) rfl (by kernel_rfl) (by kernel_rfl) (by kernel_rfl) (fun _ _ _ h => h) (Or.inr ⟨by kernel_rfl, rfl⟩) (by assumption) ?_
            (try simp only [Act.put, List.setIfInBounds_toArray, List.set_cons_zero, List.set_cons_succ])
            refine wpAnyH_take (i := 5) (oi := ⟨some 72, _, _, _, _, _⟩) (v := undef) rfl (by kernel_rfl) (by kernel_rfl) (by kernel_rfl) (fun _ _ _ h => h) (Or.inr ⟨by kernel_rfl, rfl⟩) (by assumption) ?_
            (try simp only [Act.put, List.setIfInBounds_toArray, List.set_cons_zero, List.set_cons_succ])
            refine wpAnyH_take (i := 6) (oi := ⟨some 73, _, _, _, _, _⟩) (v := undef) rfl (by kernel_rfl) (by kernel_rfl) (by kernel_rfl) (fun _ _ _ h => h) (Or.inr ⟨by kernel_rfl, rfl⟩) (by assumption) ?_
            (try simp only [Act.put, List.setIfInBounds_toArray, List.set_cons_zero, List.set_cons_succ])
            refine wpAnyH_take (i := 7) (oi := ⟨some 74, _, _, _, _, _⟩) (v := ?_) rfl (by kernel_rfl) (by kernel_rfl) (by kernel_rfl) (fun _ _ _ h => h) (Or.inl ⟨by kernel_rfl, ?_⟩) (by assumption) ?_
            rotate_left
            · (intro wS hSw; (try dsimp only at hSw); obtain ⟨v0, v1, v2, -, -, -⟩ := hSw.2.three; clear hSw; go_simp; (try with_reducible rfl))
            (try simp only [Act.put, List.setIfInBounds_toArray, List.set_cons_zero, List.set_cons_succ])
            refine wpAnyH_done (by kernel_rfl) ?_ _
            go_wp2_with fail
            go_meet
            exact ⟨by simp, hHeld.1⟩
          obtain ⟨rfl, hb9⟩ := hcut
          have hS6 := HS6.out.call hb9
          have hAc6 := HAc6.out.below hb9
          clear hb9 HS6 HAc6 HRt hbl hBl
          have hLe := Lib.hid (RLease_any hS6.m)
          have HS6 := Lib.hid hS6
          have HAc := Lib.hid hAc6
          clear hS6 hAc6
          go_wp2_with fail
          refine hLe.out.mono ?_
          rintro e w7 ⟨rfl, hb7⟩
          have hb8 := below_new w7 (.cells #[.int .i64 L6.1, .int .i64 L6.2.1, .int .i64 L6.2.2] 43)
          have hS7 := (HS6.out.call hb7).call hb8
          have hWs7 := Off.new (HS6.out.m.st.dsk.below hb7) (HS6.out.call hb7).m.blk.lt 43 #[.int .i64 L6.1, .int .i64 L6.2.1, .int .i64 L6.2.2]
          have hAc7 := (HAc.out.below hb7).below hb8
          obtain ⟨y0, y1, y2, y3, y4, y5, y6, y7, y8, y9⟩ := hAc7.blk.tenD
          clear hAc7 hb7 hLe HS6 HAc
          have hkp := Sl.below HKs.out hS7.fro.1
          have hC := Cut_any hS7.m.st.dsk (by rw [hS7.st.pe]; simp) (by have := hS7.st.len; omega) x.ks hkp (fun hne ad hA => by
            have h1 := SlZ.ltB HKs.out hne hA
            have h2 := hS7.fro.2 q6.bs (.inr (.inl rfl))
            omega)
          rw [hS7.g] at hC
          have HC := Lib.hid hC
          have HS7 := Lib.hid hS7
          have HWs7 := Lib.hid hWs7
          clear hC hS7 hWs7 hkp hb8
          go_wp2_with fail
          refine HC.out.mono ?_
          clear HC
          rintro e w9 ⟨rfl, q7, hg7, hD7, hF7, hM7, -⟩
          obtain ⟨hgg, hR7, hFr7, hTm7⟩ := HS7.out.act hg7 hD7 hF7 hM7
          have hWs8 := HWs7.out.act hF7 hM7
          have hcl := cut_len x.ks d6
          have hl6 := HS7.out.st.len
          have hp6 : d6.pend.length = 0 := by rw [HS7.out.st.pe]; rfl
          have hSt := StartDown_any hD7 (Nat.zero_le _) (by omega) rfl
          rw [hgg] at hSt
          have HSt := Lib.hid hSt
          have HD7 := Lib.hid hD7
          have HR7 := Lib.hid hR7
          have HFr7 := Lib.hid hFr7
          have HTm7 := Lib.hid hTm7
          have HWs8 := Lib.hid hWs8
          have Hgg := Lib.hid hgg
          clear hSt hD7 hR7 hFr7 hTm7 hWs8 hgg hg7 hF7 hM7 y0 y1 y2 y3 y4 y5 y6 y7 y8 y9 HWs7
          go_wp2_with fail
          refine HSt.out.mono ?_
          clear HSt
          rintro e w10 ⟨rfl, q8, hg8', hDs8, hF8, hM8, -⟩
          have hg8 := hg8'.trans Hgg.out
          have hFr8 := HFr7.out.frd hF8 hM8
          have hTm8 := HTm7.out.act hF8 hM8
          have hWs8 := HWs8.out.act hF8 hM8
          obtain ⟨hSt8, hsu8⟩ := HS7.out.st.cut x.ks
          have hKp8 : Kept L6 (dStart (dCut x.ks d6)).sure := by rw [hsu8]; exact HS7.out.kp
          clear HFr7 HTm7 HWs8 hg8' hF8 hM8 HR7 HD7 HS7 hcl hl6 hp6 hsu8 Hgg
          generalize dStart (dCut x.ks d6) = d8 at *
          obtain ⟨d9, h91, h92⟩ := open_st hSt8 hDs8.ris hKp8 Hbad.out
          have hOp := RgOpen_any hDs8 hSt8.fok (by have := hSt8.len; rw [hSt8.pe]; simp; omega) t0 t1
          rw [hg8] at hOp
          have HOp := Lib.hid hOp
          obtain ⟨m0, m1, -⟩ := Blk.two hTm8.blk
          have HW8 := Lib.hid hWs8
          have HTm8 := Lib.hid hTm8
          have HF8 := Lib.hid hFr8
          have Hg8 := Lib.hid hg8
          have HK8 := Lib.hid hKp8
          have H91 := Lib.hid h91
          have H92 := Lib.hid h92
          clear hOp hWs8 hTm8 hFr8 hg8 hDs8 hSt8 hKp8 h91 h92
          go_wp2_with fail
          refine HOp.out.mono ?_
          clear HOp m0 m1
          rintro e w10 hOO
          have hrs : Ris d9.sure := by
            obtain ⟨q', -, hD', -⟩ := hOO
            rw [H92.out] at hD'
            exact hD'.ris
          obtain ⟨hre, hst9, hsu9⟩ := H91.out hrs
          rw [hre] at hOO
          obtain ⟨q9, gr9, gs9, rfl, hg9, hR9, hF9, hM9, hgr9⟩ := hOO.ok
          have hS9 : RsS w w10 g tb t0 t1 (i + 1) q9 gr9 gs9 d9 L6 0 := ⟨hg9.trans Hg8.out, hR9, hst9, by rw [hsu9]; exact HK8.out, HF8.out.frd hF9 hM9, Nat.le_trans HF8.out.1.size hgr9, (HTm8.out.act hF9 hM9).reg (by have := HTm8.out.blk.lt; omega)⟩
          have hW9 := (HW8.out.act hF9 hM9).reg (gr' := gr9) (by have := HW8.out.blk.lt; omega)
          have HS9 := Lib.hid hS9
          clear hOO hrs hre hst9 hsu9 hg9 hF9 hM9 hgr9 HW8 HTm8 HF8 Hg8 HK8 H91 H92 hS9 hR9
          go_upto_region 22 with (fail)
          go_cut [104] from 97 to 105 (fun z wz => z = .bool false ∧ Below w10.heap.size w10 wz)
          case first =>
            have hst : Below w10.heap.size w10 w10.drew := Below.drew (Below.refl _ _)
            refine wp_region_held_drew (S := (fun W => Below w10.heap.size w10 W)) (by kernel_rfl) ?_ (fun hHeld => ?_)
            · first | with_reducible exact hst | with_reducible exact hHeld | exact bel_call hHeld hb11
            refine wpAnyH_take (i := 0) (oi := ⟨some 97, _, _, _, _, _⟩) (v := ?_) rfl (by kernel_rfl) (by kernel_rfl) (by kernel_rfl) (fun _ _ _ h => h) (Or.inl ⟨by kernel_rfl, ?_⟩) (by assumption) ?_
            rotate_left
            · (intro wS hSw; (try dsimp only at hSw); obtain ⟨v0, v1, v2, -, -, -⟩ := (hW9.blk.below hSw).three; clear hSw; go_simp; (try with_reducible rfl))
            (try simp only [Act.put, List.setIfInBounds_toArray, List.set_cons_zero, List.set_cons_succ])
            refine wpAnyH_take (i := 1) (oi := ⟨some 98, _, _, _, _, _⟩) (v := ?_) rfl (by kernel_rfl) (by kernel_rfl) (by kernel_rfl) (fun _ _ _ h => h) (Or.inl ⟨by kernel_rfl, ?_⟩) (by assumption) ?_
            rotate_left
            · (intro wS hSw; (try dsimp only at hSw); obtain ⟨v0, v1, v2, -, -, -⟩ := (hW9.blk.below hSw).three; clear hSw; go_simp; (try with_reducible rfl))
            (try simp only [Act.put, List.setIfInBounds_toArray, List.set_cons_zero, List.set_cons_succ])
            refine wpAnyH_take (i := 2) (oi := ⟨some 99, _, _, _, _, _⟩) (v := ?_) rfl (by kernel_rfl) (by kernel_rfl) (by kernel_rfl) (fun _ _ _ h => h) (Or.inl ⟨by kernel_rfl, ?_⟩) (by assumption) ?_
            rotate_left
            · (intro wS hSw; (try dsimp only at hSw); obtain ⟨v0, v1, v2, -, -, -⟩ := (hW9.blk.below hSw).three; clear hSw; go_simp; (try with_reducible rfl))
            (try simp only [Act.put, List.setIfInBounds_toArray, List.set_cons_zero, List.set_cons_succ])
            refine wpAnyH_take (i := 3) (oi := ⟨some 100, _, _, _, _, _⟩) (v := ?_) rfl (by kernel_rfl) (by kernel_rfl) (by kernel_rfl) (fun _ _ _ h => h) (Or.inl ⟨by kernel_rfl, ?_⟩) (by assumption) ?_
            rotate_left
            · (intro wS hSw; (try dsimp only at hSw); obtain ⟨v0, v1, v2, -, -, -⟩ := (hW9.blk.below hSw).three; clear hSw; go_simp; (try with_reducible rfl))
            (try simp only [Act.put, List.setIfInBounds_toArray, List.set_cons_zero, List.set_cons_succ])
            refine wpAnyH_take (i := 5) (oi := ⟨some 102, _, _, _, _, _⟩) (v := ?_) rfl (by kernel_rfl) (by kernel_rfl) (by kernel_rfl) (fun _ _ _ h => h) (Or.inl ⟨by kernel_rfl, ?_⟩) (by assumption) ?_
            rotate_left
            · (intro wS hSw; (try dsimp only at hSw); obtain ⟨v0, v1, v2, -, -, -⟩ := (hW9.blk.below hSw).three; clear hSw; go_simp; (try with_reducible rfl))
            (try simp only [Act.put, List.setIfInBounds_toArray, List.set_cons_zero, List.set_cons_succ])
            refine wpAnyH_ready (rs := [4]) (by kernel_rfl) (by simp) ?_
            refine AllReadyH.cons (o := ⟨some 101, _, _, _, _, _⟩) rfl (fun K hK => ?_) AllReadyH.nil
            go_simp
            (refine (RLease_any (HS9.out.m.below hHeld)).mono ?_; rintro e w11 ⟨rfl, hb11⟩)
            go_wp2_with fail
            refine hK.out _ _ ?_ (fun hHeld => ?_)
            · ((try dsimp only); (first | with_reducible exact hst | with_reducible exact hHeld | exact bel_call hHeld hb11))
            clear hK K
            (try simp only [Act.put, List.setIfInBounds_toArray, List.set_cons_zero, List.set_cons_succ])
            refine wpAnyH_take (i := 6) (oi := ⟨some 103, _, _, _, _, _⟩) (v := ?_) rfl (by kernel_rfl) (by kernel_rfl) (by kernel_rfl) (fun _ _ _ h => h) (Or.inl ⟨by kernel_rfl, ?_⟩) (by assumption) ?_
            rotate_left
            · (intro wS hSw; (try dsimp only at hSw); obtain ⟨v0, v1, v2, -, -, -⟩ := (hW9.blk.below hSw).three; clear hSw; go_simp; (try with_reducible rfl))
            (try simp only [Act.put, List.setIfInBounds_toArray, List.set_cons_zero, List.set_cons_succ])
            refine wpAnyH_take (i := 7) (oi := ⟨some 104, _, _, _, _, _⟩) (v := ?_) rfl (by kernel_rfl) (by kernel_rfl) (by kernel_rfl) (fun _ _ _ h => h) (Or.inl ⟨by kernel_rfl, ?_⟩) (by assumption) ?_
            rotate_left
            · (intro wS hSw; (try dsimp only at hSw); obtain ⟨v0, v1, v2, -, -, -⟩ := (hW9.blk.below hSw).three; clear hSw; go_simp; (try with_reducible rfl))
            (try simp only [Act.put, List.setIfInBounds_toArray, List.set_cons_zero, List.set_cons_succ])
            refine wpAnyH_done (by kernel_rfl) ?_ _
            go_wp2_with fail
            go_meet
            exact ⟨by simp, hHeld⟩
          obtain ⟨rfl, hb12⟩ := hcut
          have HS10 := Lib.hid (HS9.out.call hb12)
          clear hb12 HS9 hW9
          go_wp2_with fail
          go_roundw
          case rel => exact ⟨i + 1, q9, gr9, gs9, d9, L6, 0, hlt, by go_num, rfl, rfl, HS10⟩
          case measure => simp [intOf]; omega
      · have hj3 : (IntKind.u64.wrap x.k).tmod 2 = 1 := hj2
        clear hj2
        have HA := Lib.hid (RAcquire_any hS5.m hS5.st.fok (by have := hS5.st.len; rw [hS5.st.pe]; simp; omega) x.o x.n)
        obtain ⟨z0, z1, z2, z3, z4, z5, z6, z7, z8, z9⟩ := hAc5.blk.tenD
        have HS5 := Lib.hid hS5
        have HAc5 := Lib.hid hAc5
        clear hS5 hAc5
        go_wp2_with fail
        refine HA.out.mono ?_
        clear HA z0 z1 z2 z3 z4 z5 z6 z7 z8 z9
        rintro e w6 ⟨ret, k, d6, L6, n6, hA, rfl, q6, hg6, hR6, hF6, hM6⟩
        obtain ⟨hst6, hkp6, hrt⟩ := hA.st HS5.out.st HS5.out.m.st.dsk.ris HS5.out.kp
        have hS6 := HS5.out.rg hg6 hR6 hF6 hM6 hst6 hkp6
        have hAc6 := HAc5.out.frg hF6 hM6
        have HS6 := Lib.hid hS6
        have HAc6 := Lib.hid hAc6
        have hbl := below_new w6 (.cells #[.int .i64 ret.1, .int .i64 ret.2.1, .int .i64 ret.2.2] 43)
        have hBl := Blk.new w6 43 #[.int .i64 ret.1, .int .i64 ret.2.1, .int .i64 ret.2.2]
        have HRt := Lib.hid hrt
        clear hA hst6 hkp6 hrt hS6 hAc6 hg6 hR6 hF6 hM6 HS5 HAc5
        rcases Decidable.em (k = 0) with h0 | h0
        · subst h0
          obtain rfl : L6 = ret := (HRt.out rfl).symm
          rw [show errv 0 = Value.nilIface from rfl]
          go_upto_region 15 with (fail)
          refine gen1 (T := fun W => Below w6.heap.size w6 W ∧ Blk W w6.heap.size 43 #[.int .i64 L6.1, .int .i64 L6.2.1, .int .i64 L6.2.2]) ⟨hbl, hBl⟩ (fun w7 hT => ?_)
          clear hbl hBl
          obtain ⟨hbl, hBl⟩ := hT
          go_cut [74] from 67 to 105 (fun z wz => z = .bool false ∧ Below w6.heap.size w6 wz)
          case first =>
            have hst : Below w6.heap.size w6 w7.drew ∧ Blk w7.drew w6.heap.size 43 #[.int .i64 L6.1, .int .i64 L6.2.1, .int .i64 L6.2.2] := ⟨hbl.drew, hBl.drew⟩
            refine wp_region_held_drew (S := (fun W => Below w6.heap.size w6 W ∧ Blk W w6.heap.size 43 #[.int .i64 L6.1, .int .i64 L6.2.1, .int .i64 L6.2.2])) (by kernel_rfl) ?_ (fun hHeld => ?_)
            · first | with_reducible exact hst | with_reducible exact hHeld | exact ⟨bel_call hHeld.1 hb11, hHeld.2.below hb11⟩
            refine wpAnyH_take (i := 0) (oi := ⟨some 67, _, _, _, _, _⟩) (v := ?_) rfl (by kernel_rfl) (by kernel_rfl) (by kernel_rfl) (fun _ _ _ h => h) (Or.inl ⟨by kernel_rfl, ?_⟩) (by assumption) ?_
            rotate_left
            · (intro wS hSw; (try dsimp only at hSw); obtain ⟨v0, v1, v2, -, -, -⟩ := hSw.2.three; clear hSw; go_simp; (try with_reducible rfl))
            (try simp only [Act.put, List.setIfInBounds_toArray, List.set_cons_zero, List.set_cons_succ])
            refine wpAnyH_take (i := 1) (oi := ⟨some 68, _, _, _, _, _⟩) (v := ?_) rfl (by kernel_rfl) (by kernel_rfl) (by kernel_rfl) (fun _ _ _ h => h) (Or.inl ⟨by kernel_rfl, ?_⟩) (by assumption) ?_
            rotate_left
            · (intro wS hSw; (try dsimp only at hSw); obtain ⟨v0, v1, v2, -, -, -⟩ := hSw.2.three; clear hSw; go_simp; (try with_reducible rfl))
            (try simp only [Act.put, List.setIfInBounds_toArray, List.set_cons_zero, List.set_cons_succ])
            refine wpAnyH_take (i := 2) (oi := ⟨some 69, _, _, _, _, _⟩) (v := ?_) rfl (by kernel_rfl) (by kernel_rfl) (by kernel_rfl) (fun _ _ _ h => h) (Or.inl ⟨by kernel_rfl, ?_⟩) (by assumption) ?_
            rotate_left
            · (intro wS hSw; (try dsimp only at hSw); obtain ⟨v0, v1, v2, -, -, -⟩ := hSw.2.three; clear hSw; go_simp; (try with_reducible rfl))
            (try simp only [Act.put, List.setIfInBounds_toArray, List.set_cons_zero, List.set_cons_succ])
            refine wpAnyH_take (i := 3) (oi := ⟨some 70, _, _, _, _, _⟩) (v := ?_) rfl (by kernel_rfl) (by kernel_rfl) (by kernel_rfl) (fun _ _ _ h => h) (Or.inl ⟨by kernel_rfl, ?_⟩) (by assumption) ?_
            rotate_left
            · (intro wS hSw; (try dsimp only at hSw); obtain ⟨v0, v1, v2, -, -, -⟩ := hSw.2.three; clear hSw; go_simp; (try with_reducible rfl))
            (try simp only [Act.put, List.setIfInBounds_toArray, List.set_cons_zero, List.set_cons_succ])
            refine wpAnyH_take (i := 4) (oi := ⟨some 71, _, _, _, _, _⟩) (v := ?_) rfl (by kernel_rfl) (by kernel_rfl) (by kernel_rfl) (fun _ _ _ h => h) (Or.inl ⟨by kernel_rfl, ?_⟩) (by assumption) ?_
            rotate_left
            · (intro wS hSw; (try dsimp only at hSw); obtain ⟨v0, v1, v2, -, -, -⟩ := hSw.2.three; clear hSw; go_simp; (try with_reducible rfl))
            (try simp only [Act.put, List.setIfInBounds_toArray, List.set_cons_zero, List.set_cons_succ])
            refine wpAnyH_ready (rs := [5]) (by kernel_rfl) (by simp) ?_
            refine AllReadyH.cons (o := ⟨some 72, _, _, _, _, _⟩) rfl (fun K hK => ?_) AllReadyH.nil
            go_simp
            (refine (RLease_any (HS6.out.m.below hHeld.1)).mono ?_; rintro e w11 ⟨rfl, hb11⟩)
            go_wp2_with fail
            refine hK.out _ _ ?_ (fun hHeld => ?_)
            · ((try dsimp only); (first | with_reducible exact hst | with_reducible exact hHeld | exact ⟨bel_call hHeld.1 hb11, hHeld.2.below hb11⟩))
            clear hK K
            (try simp only [Act.put, List.setIfInBounds_toArray, List.set_cons_zero, List.set_cons_succ])
            refine wpAnyH_take (i := 6) (oi := ⟨some 73, _, _, _, _, _⟩) (v := ?_) rfl (by kernel_rfl) (by kernel_rfl) (by kernel_rfl) (fun _ _ _ h => h) (Or.inl ⟨by kernel_rfl, ?_⟩) (by assumption) ?_
            rotate_left
            · (intro wS hSw; (try dsimp only at hSw); obtain ⟨v0, v1, v2, -, -, -⟩ := hSw.2.three; clear hSw; go_simp; (try with_reducible rfl))
            (try simp only [Act.put, List.setIfInBounds_toArray, List.set_cons_zero, List.set_cons_succ])
            refine wpAnyH_take (i := 7) (oi := ⟨some 74, _, _, _, _, _⟩) (v := ?_) rfl (by kernel_rfl) (by kernel_rfl) (by kernel_rfl) (fun _ _ _ h => h) (Or.inl ⟨by kernel_rfl, ?_⟩) (by assumption) ?_
            rotate_left
            · (intro wS hSw; (try dsimp only at hSw); obtain ⟨v0, v1, v2, -, -, -⟩ := hSw.2.three; clear hSw; go_simp; (try with_reducible rfl))
            (try simp only [Act.put, List.setIfInBounds_toArray, List.set_cons_zero, List.set_cons_succ])
            refine wpAnyH_done (by kernel_rfl) ?_ _
            go_wp2_with fail
            go_meet
            exact ⟨by simp, hHeld.1⟩
          obtain ⟨rfl, hb9⟩ := hcut
          have hS6 := HS6.out.call hb9
          have hAc6 := HAc6.out.below hb9
          clear hb9 HS6 HAc6 HRt hbl hBl
          have hLe := Lib.hid (RLease_any hS6.m)
          have HS6 := Lib.hid hS6
          have HAc := Lib.hid hAc6
          clear hS6 hAc6
          go_wp2_with fail
          refine hLe.out.mono ?_
          rintro e w7 ⟨rfl, hb7⟩
          have hb8 := below_new w7 (.cells #[.int .i64 L6.1, .int .i64 L6.2.1, .int .i64 L6.2.2] 43)
          have hS7 := (HS6.out.call hb7).call hb8
          have hWs7 := Off.new (HS6.out.m.st.dsk.below hb7) (HS6.out.call hb7).m.blk.lt 43 #[.int .i64 L6.1, .int .i64 L6.2.1, .int .i64 L6.2.2]
          have hAc7 := (HAc.out.below hb7).below hb8
          obtain ⟨y0, y1, y2, y3, y4, y5, y6, y7, y8, y9⟩ := hAc7.blk.tenD
          clear hAc7 hb7 hLe HS6 HAc
          have hDs8 := hS7.m.st.dsk
          have hSt8 := hS7.st
          have hKp8 := hS7.kp
          have hg8 := hS7.g
          have hFr8 := hS7.fro
          have hTm8 := hS7.tm
          have hWs8 := hWs7
          clear hS7 hWs7 hb8
          obtain ⟨d9, h91, h92⟩ := open_st hSt8 hDs8.ris hKp8 Hbad.out
          have hOp := RgOpen_any hDs8 hSt8.fok (by have := hSt8.len; rw [hSt8.pe]; simp; omega) t0 t1
          rw [hg8] at hOp
          have HOp := Lib.hid hOp
          obtain ⟨m0, m1, -⟩ := Blk.two hTm8.blk
          have HW8 := Lib.hid hWs8
          have HTm8 := Lib.hid hTm8
          have HF8 := Lib.hid hFr8
          have Hg8 := Lib.hid hg8
          have HK8 := Lib.hid hKp8
          have H91 := Lib.hid h91
          have H92 := Lib.hid h92
          clear hOp hWs8 hTm8 hFr8 hg8 hDs8 hSt8 hKp8 h91 h92
          go_wp2_with fail
          refine HOp.out.mono ?_
          clear HOp m0 m1
          rintro e w10 hOO
          have hrs : Ris d9.sure := by
            obtain ⟨q', -, hD', -⟩ := hOO
            rw [H92.out] at hD'
            exact hD'.ris
          obtain ⟨hre, hst9, hsu9⟩ := H91.out hrs
          rw [hre] at hOO
          obtain ⟨q9, gr9, gs9, rfl, hg9, hR9, hF9, hM9, hgr9⟩ := hOO.ok
          have hS9 : RsS w w10 g tb t0 t1 (i + 1) q9 gr9 gs9 d9 L6 0 := ⟨hg9.trans Hg8.out, hR9, hst9, by rw [hsu9]; exact HK8.out, HF8.out.frd hF9 hM9, Nat.le_trans HF8.out.1.size hgr9, (HTm8.out.act hF9 hM9).reg (by have := HTm8.out.blk.lt; omega)⟩
          have hW9 := (HW8.out.act hF9 hM9).reg (gr' := gr9) (by have := HW8.out.blk.lt; omega)
          have HS9 := Lib.hid hS9
          clear hOO hrs hre hst9 hsu9 hg9 hF9 hM9 hgr9 HW8 HTm8 HF8 Hg8 HK8 H91 H92 hS9 hR9
          go_upto_region 22 with (fail)
          go_cut [104] from 97 to 105 (fun z wz => z = .bool false ∧ Below w10.heap.size w10 wz)
          case first =>
            have hst : Below w10.heap.size w10 w10.drew := Below.drew (Below.refl _ _)
            refine wp_region_held_drew (S := (fun W => Below w10.heap.size w10 W)) (by kernel_rfl) ?_ (fun hHeld => ?_)
            · first | with_reducible exact hst | with_reducible exact hHeld | exact bel_call hHeld hb11
            refine wpAnyH_take (i := 0) (oi := ⟨some 97, _, _, _, _, _⟩) (v := ?_) rfl (by kernel_rfl) (by kernel_rfl) (by kernel_rfl) (fun _ _ _ h => h) (Or.inl ⟨by kernel_rfl, ?_⟩) (by assumption) ?_
            rotate_left
            · (intro wS hSw; (try dsimp only at hSw); obtain ⟨v0, v1, v2, -, -, -⟩ := (hW9.blk.below hSw).three; clear hSw; go_simp; (try with_reducible rfl))
            (try simp only [Act.put, List.setIfInBounds_toArray, List.set_cons_zero, List.set_cons_succ])
            refine wpAnyH_take (i := 1) (oi := ⟨some 98, _, _, _, _, _⟩) (v := ?_) rfl (by kernel_rfl) (by kernel_rfl) (by kernel_rfl) (fun _ _ _ h => h) (Or.inl ⟨by kernel_rfl, ?_⟩) (by assumption) ?_
            rotate_left
            · (intro wS hSw; (try dsimp only at hSw); obtain ⟨v0, v1, v2, -, -, -⟩ := (hW9.blk.below hSw).three; clear hSw; go_simp; (try with_reducible rfl))
            (try simp only [Act.put, List.setIfInBounds_toArray, List.set_cons_zero, List.set_cons_succ])
            refine wpAnyH_take (i := 2) (oi := ⟨some 99, _, _, _, _, _⟩) (v := ?_) rfl (by kernel_rfl) (by kernel_rfl) (by kernel_rfl) (fun _ _ _ h => h) (Or.inl ⟨by kernel_rfl, ?_⟩) (by assumption) ?_
            rotate_left
            · (intro wS hSw; (try dsimp only at hSw); obtain ⟨v0, v1, v2, -, -, -⟩ := (hW9.blk.below hSw).three; clear hSw; go_simp; (try with_reducible rfl))
            (try simp only [Act.put, List.setIfInBounds_toArray, List.set_cons_zero, List.set_cons_succ])
            refine wpAnyH_take (i := 3) (oi := ⟨some 100, _, _, _, _, _⟩) (v := ?_) rfl (by kernel_rfl) (by kernel_rfl) (by kernel_rfl) (fun _ _ _ h => h) (Or.inl ⟨by kernel_rfl, ?_⟩) (by assumption) ?_
            rotate_left
            · (intro wS hSw; (try dsimp only at hSw); obtain ⟨v0, v1, v2, -, -, -⟩ := (hW9.blk.below hSw).three; clear hSw; go_simp; (try with_reducible rfl))
            (try simp only [Act.put, List.setIfInBounds_toArray, List.set_cons_zero, List.set_cons_succ])
            refine wpAnyH_take (i := 5) (oi := ⟨some 102, _, _, _, _, _⟩) (v := ?_) rfl (by kernel_rfl) (by kernel_rfl) (by kernel_rfl) (fun _ _ _ h => h) (Or.inl ⟨by kernel_rfl, ?_⟩) (by assumption) ?_
            rotate_left
            · (intro wS hSw; (try dsimp only at hSw); obtain ⟨v0, v1, v2, -, -, -⟩ := (hW9.blk.below hSw).three; clear hSw; go_simp; (try with_reducible rfl))
            (try simp only [Act.put, List.setIfInBounds_toArray, List.set_cons_zero, List.set_cons_succ])
            refine wpAnyH_ready (rs := [4]) (by kernel_rfl) (by simp) ?_
            refine AllReadyH.cons (o := ⟨some 101, _, _, _, _, _⟩) rfl (fun K hK => ?_) AllReadyH.nil
            go_simp
            (refine (RLease_any (HS9.out.m.below hHeld)).mono ?_; rintro e w11 ⟨rfl, hb11⟩)
            go_wp2_with fail
            refine hK.out _ _ ?_ (fun hHeld => ?_)
            · ((try dsimp only); (first | with_reducible exact hst | with_reducible exact hHeld | exact bel_call hHeld hb11))
            clear hK K
            (try simp only [Act.put, List.setIfInBounds_toArray, List.set_cons_zero, List.set_cons_succ])
            refine wpAnyH_take (i := 6) (oi := ⟨some 103, _, _, _, _, _⟩) (v := ?_) rfl (by kernel_rfl) (by kernel_rfl) (by kernel_rfl) (fun _ _ _ h => h) (Or.inl ⟨by kernel_rfl, ?_⟩) (by assumption) ?_
            rotate_left
            · (intro wS hSw; (try dsimp only at hSw); obtain ⟨v0, v1, v2, -, -, -⟩ := (hW9.blk.below hSw).three; clear hSw; go_simp; (try with_reducible rfl))
            (try simp only [Act.put, List.setIfInBounds_toArray, List.set_cons_zero, List.set_cons_succ])
            refine wpAnyH_take (i := 7) (oi := ⟨some 104, _, _, _, _, _⟩) (v := ?_) rfl (by kernel_rfl) (by kernel_rfl) (by kernel_rfl) (fun _ _ _ h => h) (Or.inl ⟨by kernel_rfl, ?_⟩) (by assumption) ?_
            rotate_left
            · (intro wS hSw; (try dsimp only at hSw); obtain ⟨v0, v1, v2, -, -, -⟩ := (hW9.blk.below hSw).three; clear hSw; go_simp; (try with_reducible rfl))
            (try simp only [Act.put, List.setIfInBounds_toArray, List.set_cons_zero, List.set_cons_succ])
            refine wpAnyH_done (by kernel_rfl) ?_ _
            go_wp2_with fail
            go_meet
            exact ⟨by simp, hHeld⟩
          obtain ⟨rfl, hb12⟩ := hcut
          have HS10 := Lib.hid (HS9.out.call hb12)
          clear hb12 HS9 hW9
          go_wp2_with fail
          go_roundw
          case rel => exact ⟨i + 1, q9, gr9, gs9, d9, L6, 0, hlt, by go_num, rfl, rfl, HS10⟩
          case measure => simp [intOf]; omega
        · obtain ⟨ev, hev⟩ := errv_ifc h0
          rw [hev]
          clear hev h0
          go_upto_region 15 with (fail)
          refine gen1 (T := fun W => Below w6.heap.size w6 W ∧ Blk W w6.heap.size 43 #[.int .i64 ret.1, .int .i64 ret.2.1, .int .i64 ret.2.2]) ⟨hbl, hBl⟩ (fun w7 hT => ?_)
          clear hbl hBl
          obtain ⟨hbl, hBl⟩ := hT
          go_cut [74] from 67 to 105 (fun z wz => z = .bool false ∧ Below w6.heap.size w6 wz)
          case first =>
            have hst : Below w6.heap.size w6 w7.drew ∧ Blk w7.drew w6.heap.size 43 #[.int .i64 ret.1, .int .i64 ret.2.1, .int .i64 ret.2.2] := ⟨hbl.drew, hBl.drew⟩
            refine wp_region_held_drew (S := (fun W => Below w6.heap.size w6 W ∧ Blk W w6.heap.size 43 #[.int .i64 ret.1, .int .i64 ret.2.1, .int .i64 ret.2.2])) (by kernel_rfl) ?_ (fun hHeld => ?_)
            · first | with_reducible exact hst | with_reducible exact hHeld | exact ⟨bel_call hHeld.1 hb11, hHeld.2.below hb11⟩
            refine wpAnyH_take (i := 0) (oi := ⟨some 67, _, _, _, _, _⟩) (v := ?_) rfl (by kernel_rfl) (by kernel_rfl) (by kernel_rfl) (fun _ _ _ h => h) (Or.inl ⟨by kernel_rfl, ?_⟩) (by assumption) ?_
            rotate_left
            · (intro wS hSw; (try dsimp only at hSw); obtain ⟨v0, v1, v2, -, -, -⟩ := hSw.2.three; clear hSw; go_simp; (try with_reducible rfl))
            (try simp only [Act.put, List.setIfInBounds_toArray, List.set_cons_zero, List.set_cons_succ])
            refine wpAnyH_take (i := 1) (oi := ⟨some 68, _, _, _, _, _⟩) (v := ?_) rfl (by kernel_rfl) (by kernel_rfl) (by kernel_rfl) (fun _ _ _ h => h) (Or.inl ⟨by kernel_rfl, ?_⟩) (by assumption) ?_
            rotate_left
            · (intro wS hSw; (try dsimp only at hSw); obtain ⟨v0, v1, v2, -, -, -⟩ := hSw.2.three; clear hSw; go_simp; (try with_reducible rfl))
            (try simp only [Act.put, List.setIfInBounds_toArray, List.set_cons_zero, List.set_cons_succ])
            refine wpAnyH_take (i := 2) (oi := ⟨some 69, _, _, _, _, _⟩) (v := ?_) rfl (by kernel_rfl) (by kernel_rfl) (by kernel_rfl) (fun _ _ _ h => h) (Or.inl ⟨by kernel_rfl, ?_⟩) (by assumption) ?_
            rotate_left
            · (intro wS hSw; (try dsimp only at hSw); obtain ⟨v0, v1, v2, -, -, -⟩ := hSw.2.three; clear hSw; go_simp; (try with_reducible rfl))
            (try simp only [Act.put, List.setIfInBounds_toArray, List.set_cons_zero, List.set_cons_succ])
            refine wpAnyH_take (i := 3) (oi := ⟨some 70, _, _, _, _, _⟩) (v := undef) rfl (by kernel_rfl) (by kernel_rfl) (by kernel_rfl) (fun _ _ _ h => h) (Or.inr ⟨by kernel_rfl, rfl⟩) (by assumption) ?_
            (try simp only [Act.put, List.setIfInBounds_toArray, List.set_cons_zero, List.set_cons_succ])
            refine wpAnyH_take (i := 4) (oi := ⟨some 71, _, _, _, _, _⟩) (v := undef) rfl (by kernel_rfl) (by kernel_rfl) (by kernel_rfl) (fun _ _ _ h => h) (Or.inr ⟨by kernel_rfl, rfl⟩) (by assumption) ?_
            (try simp only [Act.put, List.setIfInBounds_toArray, List.set_cons_zero, List.set_cons_succ])
            refine wpAnyH_take (i := 5) (oi := ⟨some 72, _, _, _, _, _⟩) (v := undef) rfl (by kernel_rfl) (by kernel_rfl) (by kernel_rfl) (fun _ _ _ h => h) (Or.inr ⟨by kernel_rfl, rfl⟩) (by assumption) ?_
            (try simp only [Act.put, List.setIfInBounds_toArray, List.set_cons_zero, List.set_cons_succ])
            refine wpAnyH_take (i := 6) (oi := ⟨some 73, _, _, _, _, _⟩) (v := undef) rfl (by kernel_rfl) (by kernel_rfl) (by kernel_rfl) (fun _ _ _ h => h) (Or.inr ⟨by kernel_rfl, rfl⟩) (by assumption) ?_
            (try simp only [Act.put, List.setIfInBounds_toArray, List.set_cons_zero, List.set_cons_succ])
            refine wpAnyH_take (i := 7) (oi := ⟨some 74, _, _, _, _, _⟩) (v := ?_) rfl (by kernel_rfl) (by kernel_rfl) (by kernel_rfl) (fun _ _ _ h => h) (Or.inl ⟨by kernel_rfl, ?_⟩) (by assumption) ?_
            rotate_left
            · (intro wS hSw; (try dsimp only at hSw); obtain ⟨v0, v1, v2, -, -, -⟩ := hSw.2.three; clear hSw; go_simp; (try with_reducible rfl))
            (try simp only [Act.put, List.setIfInBounds_toArray, List.set_cons_zero, List.set_cons_succ])
            refine wpAnyH_done (by kernel_rfl) ?_ _
            go_wp2_with fail
            go_meet
            exact ⟨by simp, hHeld.1⟩
          obtain ⟨rfl, hb9⟩ := hcut
          have hS6 := HS6.out.call hb9
          have hAc6 := HAc6.out.below hb9
          clear hb9 HS6 HAc6 HRt hbl hBl
          have hLe := Lib.hid (RLease_any hS6.m)
          have HS6 := Lib.hid hS6
          have HAc := Lib.hid hAc6
          clear hS6 hAc6
          go_wp2_with fail
          refine hLe.out.mono ?_
          rintro e w7 ⟨rfl, hb7⟩
          have hb8 := below_new w7 (.cells #[.int .i64 L6.1, .int .i64 L6.2.1, .int .i64 L6.2.2] 43)
          have hS7 := (HS6.out.call hb7).call hb8
          have hWs7 := Off.new (HS6.out.m.st.dsk.below hb7) (HS6.out.call hb7).m.blk.lt 43 #[.int .i64 L6.1, .int .i64 L6.2.1, .int .i64 L6.2.2]
          have hAc7 := (HAc.out.below hb7).below hb8
          obtain ⟨y0, y1, y2, y3, y4, y5, y6, y7, y8, y9⟩ := hAc7.blk.tenD
          clear hAc7 hb7 hLe HS6 HAc
          have hDs8 := hS7.m.st.dsk
          have hSt8 := hS7.st
          have hKp8 := hS7.kp
          have hg8 := hS7.g
          have hFr8 := hS7.fro
          have hTm8 := hS7.tm
          have hWs8 := hWs7
          clear hS7 hWs7 hb8
          obtain ⟨d9, h91, h92⟩ := open_st hSt8 hDs8.ris hKp8 Hbad.out
          have hOp := RgOpen_any hDs8 hSt8.fok (by have := hSt8.len; rw [hSt8.pe]; simp; omega) t0 t1
          rw [hg8] at hOp
          have HOp := Lib.hid hOp
          obtain ⟨m0, m1, -⟩ := Blk.two hTm8.blk
          have HW8 := Lib.hid hWs8
          have HTm8 := Lib.hid hTm8
          have HF8 := Lib.hid hFr8
          have Hg8 := Lib.hid hg8
          have HK8 := Lib.hid hKp8
          have H91 := Lib.hid h91
          have H92 := Lib.hid h92
          clear hOp hWs8 hTm8 hFr8 hg8 hDs8 hSt8 hKp8 h91 h92
          go_wp2_with fail
          refine HOp.out.mono ?_
          clear HOp m0 m1
          rintro e w10 hOO
          have hrs : Ris d9.sure := by
            obtain ⟨q', -, hD', -⟩ := hOO
            rw [H92.out] at hD'
            exact hD'.ris
          obtain ⟨hre, hst9, hsu9⟩ := H91.out hrs
          rw [hre] at hOO
          obtain ⟨q9, gr9, gs9, rfl, hg9, hR9, hF9, hM9, hgr9⟩ := hOO.ok
          have hS9 : RsS w w10 g tb t0 t1 (i + 1) q9 gr9 gs9 d9 L6 0 := ⟨hg9.trans Hg8.out, hR9, hst9, by rw [hsu9]; exact HK8.out, HF8.out.frd hF9 hM9, Nat.le_trans HF8.out.1.size hgr9, (HTm8.out.act hF9 hM9).reg (by have := HTm8.out.blk.lt; omega)⟩
          have hW9 := (HW8.out.act hF9 hM9).reg (gr' := gr9) (by have := HW8.out.blk.lt; omega)
          have HS9 := Lib.hid hS9
          clear hOO hrs hre hst9 hsu9 hg9 hF9 hM9 hgr9 HW8 HTm8 HF8 Hg8 HK8 H91 H92 hS9 hR9
          go_upto_region 22 with (fail)
          go_cut [104] from 97 to 105 (fun z wz => z = .bool false ∧ Below w10.heap.size w10 wz)
          case first =>
            have hst : Below w10.heap.size w10 w10.drew := Below.drew (Below.refl _ _)
            refine wp_region_held_drew (S := (fun W => Below w10.heap.size w10 W)) (by kernel_rfl) ?_ (fun hHeld => ?_)
            · first | with_reducible exact hst | with_reducible exact hHeld | exact bel_call hHeld hb11
            refine wpAnyH_take (i := 0) (oi := ⟨some 97, _, _, _, _, _⟩) (v := ?_) rfl (by kernel_rfl) (by kernel_rfl) (by kernel_rfl) (fun _ _ _ h => h) (Or.inl ⟨by kernel_rfl, ?_⟩) (by assumption) ?_
            rotate_left
            · (intro wS hSw; (try dsimp only at hSw); obtain ⟨v0, v1, v2, -, -, -⟩ := (hW9.blk.below hSw).three; clear hSw; go_simp; (try with_reducible rfl))
            (try simp only [Act.put, List.setIfInBounds_toArray, List.set_cons_zero, List.set_cons_succ])
            refine wpAnyH_take (i := 1) (oi := ⟨some 98, _, _, _, _, _⟩) (v := ?_) rfl (by kernel_rfl) (by kernel_rfl) (by kernel_rfl) (fun _ _ _ h => h) (Or.inl ⟨by kernel_rfl, ?_⟩) (by assumption) ?_
            rotate_left
            · (intro wS hSw; (try dsimp only at hSw); obtain ⟨v0, v1, v2, -, -, -⟩ := (hW9.blk.below hSw).three; clear hSw; go_simp; (try with_reducible rfl))
            (try simp only [Act.put, List.setIfInBounds_toArray, List.set_cons_zero, List.set_cons_succ])
            refine wpAnyH_take (i := 2) (oi := ⟨some 99, _, _, _, _, _⟩) (v := ?_) rfl (by kernel_rfl) (by kernel_rfl) (by kernel_rfl) (fun _ _ _ h => h) (Or.inl ⟨by kernel_rfl, ?_⟩) (by assumption) ?_
            rotate_left
            · (intro wS hSw; (try dsimp only at hSw); obtain ⟨v0, v1, v2, -, -, -⟩ := (hW9.blk.below hSw).three; clear hSw; go_simp; (try with_reducible rfl))
            (try simp only [Act.put, List.setIfInBounds_toArray, List.set_cons_zero, List.set_cons_succ])
            refine wpAnyH_take (i := 3) (oi := ⟨some 100, _, _, _, _, _⟩) (v := ?_) rfl (by kernel_rfl) (by kernel_rfl) (by kernel_rfl) (fun _ _ _ h => h) (Or.inl ⟨by kernel_rfl, ?_⟩) (by assumption) ?_
            rotate_left
            · (intro wS hSw; (try dsimp only at hSw); obtain ⟨v0, v1, v2, -, -, -⟩ := (hW9.blk.below hSw).three; clear hSw; go_simp; (try with_reducible rfl))
            (try simp only [Act.put, List.setIfInBounds_toArray, List.set_cons_zero, List.set_cons_succ])
            refine wpAnyH_take (i := 5) (oi := ⟨some 102, _, _, _, _, _⟩) (v := ?_) rfl (by kernel_rfl) (by kernel_rfl) (by kernel_rfl) (fun _ _ _ h => h) (Or.inl ⟨by kernel_rfl, ?_⟩) (by assumption) ?_
            rotate_left
            · (intro wS hSw; (try dsimp only at hSw); obtain ⟨v0, v1, v2, -, -, -⟩ := (hW9.blk.below hSw).three; clear hSw; go_simp; (try with_reducible rfl))
            (try simp only [Act.put, List.setIfInBounds_toArray, List.set_cons_zero, List.set_cons_succ])
            refine wpAnyH_ready (rs := [4]) (by kernel_rfl) (by simp) ?_
            refine AllReadyH.cons (o := ⟨some 101, _, _, _, _, _⟩) rfl (fun K hK => ?_) AllReadyH.nil
            go_simp
            (refine (RLease_any (HS9.out.m.below hHeld)).mono ?_; rintro e w11 ⟨rfl, hb11⟩)
            go_wp2_with fail
            refine hK.out _ _ ?_ (fun hHeld => ?_)
            · ((try dsimp only); (first | with_reducible exact hst | with_reducible exact hHeld | exact bel_call hHeld hb11))
            clear hK K
            (try simp only [Act.put, List.setIfInBounds_toArray, List.set_cons_zero, List.set_cons_succ])
            refine wpAnyH_take (i := 6) (oi := ⟨some 103, _, _, _, _, _⟩) (v := ?_) rfl (by kernel_rfl) (by kernel_rfl) (by kernel_rfl) (fun _ _ _ h => h) (Or.inl ⟨by kernel_rfl, ?_⟩) (by assumption) ?_
            rotate_left
            · (intro wS hSw; (try dsimp only at hSw); obtain ⟨v0, v1, v2, -, -, -⟩ := (hW9.blk.below hSw).three; clear hSw; go_simp; (try with_reducible rfl))
            (try simp only [Act.put, List.setIfInBounds_toArray, List.set_cons_zero, List.set_cons_succ])
            refine wpAnyH_take (i := 7) (oi := ⟨some 104, _, _, _, _, _⟩) (v := ?_) rfl (by kernel_rfl) (by kernel_rfl) (by kernel_rfl) (fun _ _ _ h => h) (Or.inl ⟨by kernel_rfl, ?_⟩) (by assumption) ?_
            rotate_left
            · (intro wS hSw; (try dsimp only at hSw); obtain ⟨v0, v1, v2, -, -, -⟩ := (hW9.blk.below hSw).three; clear hSw; go_simp; (try with_reducible rfl))
            (try simp only [Act.put, List.setIfInBounds_toArray, List.set_cons_zero, List.set_cons_succ])
            refine wpAnyH_done (by kernel_rfl) ?_ _
            go_wp2_with fail
            go_meet
            exact ⟨by simp, hHeld⟩
          obtain ⟨rfl, hb12⟩ := hcut
          have HS10 := Lib.hid (HS9.out.call hb12)
          clear hb12 HS9 hW9
          go_wp2_with fail
          go_roundw
          case rel => exact ⟨i + 1, q9, gr9, gs9, d9, L6, 0, hlt, by go_num, rfl, rfl, HS10⟩
          case measure => simp [intOf]; omega
      · have hj3 : (IntKind.u64.wrap x.k).tmod 2 = 0 := hj2
        clear hj2
        have HA := Lib.hid (RAcquire_any hS5.m hS5.st.fok (by have := hS5.st.len; rw [hS5.st.pe]; simp; omega) x.o x.n)
        obtain ⟨z0, z1, z2, z3, z4, z5, z6, z7, z8, z9⟩ := hAc5.blk.tenD
        have HS5 := Lib.hid hS5
        have HAc5 := Lib.hid hAc5
        clear hS5 hAc5
        go_wp2_with fail
        refine HA.out.mono ?_
        clear HA z0 z1 z2 z3 z4 z5 z6 z7 z8 z9
        rintro e w6 ⟨ret, k, d6, L6, n6, hA, rfl, q6, hg6, hR6, hF6, hM6⟩
        obtain ⟨hst6, hkp6, hrt⟩ := hA.st HS5.out.st HS5.out.m.st.dsk.ris HS5.out.kp
        have hS6 := HS5.out.rg hg6 hR6 hF6 hM6 hst6 hkp6
        have hAc6 := HAc5.out.frg hF6 hM6
        have HS6 := Lib.hid hS6
        have HAc6 := Lib.hid hAc6
        have hbl := below_new w6 (.cells #[.int .i64 ret.1, .int .i64 ret.2.1, .int .i64 ret.2.2] 43)
        have hBl := Blk.new w6 43 #[.int .i64 ret.1, .int .i64 ret.2.1, .int .i64 ret.2.2]
        have HRt := Lib.hid hrt
        clear hA hst6 hkp6 hrt hS6 hAc6 hg6 hR6 hF6 hM6 HS5 HAc5
        rcases Decidable.em (k = 0) with h0 | h0
        · subst h0
          obtain rfl : L6 = ret := (HRt.out rfl).symm
          rw [show errv 0 = Value.nilIface from rfl]
          go_upto_region 15 with (fail)
          refine gen1 (T := fun W => Below w6.heap.size w6 W ∧ Blk W w6.heap.size 43 #[.int .i64 L6.1, .int .i64 L6.2.1, .int .i64 L6.2.2]) ⟨hbl, hBl⟩ (fun w7 hT => ?_)
          clear hbl hBl
          obtain ⟨hbl, hBl⟩ := hT
          go_cut [74] from 67 to 105 (fun z wz => z = .bool false ∧ Below w6.heap.size w6 wz)
          case first =>
            have hst : Below w6.heap.size w6 w7.drew ∧ Blk w7.drew w6.heap.size 43 #[.int .i64 L6.1, .int .i64 L6.2.1, .int .i64 L6.2.2] := ⟨hbl.drew, hBl.drew⟩
            refine wp_region_held_drew (S := (fun W => Below w6.heap.size w6 W ∧ Blk W w6.heap.size 43 #[.int .i64 L6.1, .int .i64 L6.2.1, .int .i64 L6.2.2])) (by kernel_rfl) ?_ (fun hHeld => ?_)
            · first | with_reducible exact hst | with_reducible exact hHeld | exact ⟨bel_call hHeld.1 hb11, hHeld.2.below hb11⟩
            refine wpAnyH_take (i := 0) (oi := ⟨some 67, _, _, _, _, _⟩) (v := ?_) rfl (by kernel_rfl) (by kernel_rfl) (by kernel_rfl) (fun _ _ _ h => h) (Or.inl ⟨by kernel_rfl, ?_⟩) (by assumption) ?_
            rotate_left
            · (intro wS hSw; (try dsimp only at hSw); obtain ⟨v0, v1, v2, -, -, -⟩ := hSw.2.three; clear hSw; go_simp; (try with_reducible rfl))
            (try simp only [Act.put, List.setIfInBounds_toArray, List.set_cons_zero, List.set_cons_succ])
            refine wpAnyH_take (i := 1) (oi := ⟨some 68, _, _, _, _, _⟩) (v := ?_) rfl (by kernel_rfl) (by kernel_rfl) (by kernel_rfl) (fun _ _ _ h => h) (Or.inl ⟨by kernel_rfl, ?_⟩) (by assumption) ?_
            rotate_left
            · (intro wS hSw; (try dsimp only at hSw); obtain ⟨v0, v1, v2, -, -, -⟩ := hSw.2.three; clear hSw; go_simp; (try with_reducible rfl))
            (try simp only [Act.put, List.setIfInBounds_toArray, List.set_cons_zero, List.set_cons_succ])
            refine wpAnyH_take (i := 2) (oi := ⟨some 69, _, _, _, _, _⟩) (v := ?_) rfl (by kernel_rfl) (by kernel_rfl) (by kernel_rfl) (fun _ _ _ h => h) (Or.inl ⟨by kernel_rfl, ?_⟩) (by assumption) ?_
            rotate_left
            · (intro wS hSw; (try dsimp only at hSw); obtain ⟨v0, v1, v2, -, -, -⟩ := hSw.2.three; clear hSw; go_simp; (try with_reducible rfl))
            (try simp only [Act.put, List.setIfInBounds_toArray, List.set_cons_zero, List.set_cons_succ])
            refine wpAnyH_take (i := 3) (oi := ⟨some 70, _, _, _, _, _⟩) (v := ?_) rfl (by kernel_rfl) (by kernel_rfl) (by kernel_rfl) (fun _ _ _ h => h) (Or.inl ⟨by kernel_rfl, ?_⟩) (by assumption) ?_
            rotate_left
            · (intro wS hSw; (try dsimp only at hSw); obtain ⟨v0, v1, v2, -, -, -⟩ := hSw.2.three; clear hSw; go_simp; (try with_reducible rfl))
            (try simp only [Act.put, List.setIfInBounds_toArray, List.set_cons_zero, List.set_cons_succ])
            refine wpAnyH_take (i := 4) (oi := ⟨some 71, _, _, _, _, _⟩) (v := ?_) rfl (by kernel_rfl) (by kernel_rfl) (by kernel_rfl) (fun _ _ _ h => h) (Or.inl ⟨by kernel_rfl, ?_⟩) (by assumption) ?_
            rotate_left
            · (intro wS hSw; (try dsimp only at hSw); obtain ⟨v0, v1, v2, -, -, -⟩ := hSw.2.three; clear hSw; go_simp; (try with_reducible rfl))
            (try simp only [Act.put, List.setIfInBounds_toArray, List.set_cons_zero, List.set_cons_succ])
            refine wpAnyH_ready (rs := [5]) (by kernel_rfl) (by simp) ?_
            refine AllReadyH.cons (o := ⟨some 72, _, _, _, _, _⟩) rfl (fun K hK => ?_) AllReadyH.nil
            go_simp
            (refine (RLease_any (HS6.out.m.below hHeld.1)).mono ?_; rintro e w11 ⟨rfl, hb11⟩)
            go_wp2_with fail
            refine hK.out _ _ ?_ (fun hHeld => ?_)
            · ((try dsimp only); (first | with_reducible exact hst | with_reducible exact hHeld | exact ⟨bel_call hHeld.1 hb11, hHeld.2.below hb11⟩))
            clear hK K
            (try simp only [Act.put, List.setIfInBounds_toArray, List.set_cons_zero, List.set_cons_succ])
            refine wpAnyH_take (i := 6) (oi := ⟨some 73, _, _, _, _, _⟩) (v := ?_) rfl (by kernel_rfl) (by kernel_rfl) (by kernel_rfl) (fun _ _ _ h => h) (Or.inl ⟨by kernel_rfl, ?_⟩) (by assumption) ?_
            rotate_left
            · (intro wS hSw; (try dsimp only at hSw); obtain ⟨v0, v1, v2, -, -, -⟩ := hSw.2.three; clear hSw; go_simp; (try with_reducible rfl))
            (try simp only [Act.put, List.setIfInBounds_toArray, List.set_cons_zero, List.set_cons_succ])
            refine wpAnyH_take (i := 7) (oi := ⟨some 74, _, _, _, _, _⟩) (v := ?_) rfl (by kernel_rfl) (by kernel_rfl) (by kernel_rfl) (fun _ _ _ h => h) (Or.inl ⟨by kernel_rfl, ?_⟩) (by assumption) ?_
            rotate_left
            · (intro wS hSw; (try dsimp only at hSw); obtain ⟨v0, v1, v2, -, -, -⟩ := hSw.2.three; clear hSw; go_simp; (try with_reducible rfl))
            (try simp only [Act.put, List.setIfInBounds_toArray, List.set_cons_zero, List.set_cons_succ])
            refine wpAnyH_done (by kernel_rfl) ?_ _
            go_wp2_with fail
            go_meet
            exact ⟨by simp, hHeld.1⟩
          obtain ⟨rfl, hb9⟩ := hcut
          have hS6 := HS6.out.call hb9
          have hAc6 := HAc6.out.below hb9
          clear hb9 HS6 HAc6 HRt hbl hBl
          have hLe := Lib.hid (RLease_any hS6.m)
          have HS6 := Lib.hid hS6
          have HAc := Lib.hid hAc6
          clear hS6 hAc6
          go_wp2_with fail
          refine hLe.out.mono ?_
          rintro e w7 ⟨rfl, hb7⟩
          have hb8 := below_new w7 (.cells #[.int .i64 L6.1, .int .i64 L6.2.1, .int .i64 L6.2.2] 43)
          have hS7 := (HS6.out.call hb7).call hb8
          have hWs7 := Off.new (HS6.out.m.st.dsk.below hb7) (HS6.out.call hb7).m.blk.lt 43 #[.int .i64 L6.1, .int .i64 L6.2.1, .int .i64 L6.2.2]
          have hAc7 := (HAc.out.below hb7).below hb8
          obtain ⟨y0, y1, y2, y3, y4, y5, y6, y7, y8, y9⟩ := hAc7.blk.tenD
          clear hAc7 hb7 hLe HS6 HAc
          have hkp := Sl.below HKs.out hS7.fro.1
          have hC := Cut_any hS7.m.st.dsk (by rw [hS7.st.pe]; simp) (by have := hS7.st.len; omega) x.ks hkp (fun hne ad hA => by
            have h1 := SlZ.ltB HKs.out hne hA
            have h2 := hS7.fro.2 q6.bs (.inr (.inl rfl))
            omega)
          rw [hS7.g] at hC
          have HC := Lib.hid hC
          have HS7 := Lib.hid hS7
          have HWs7 := Lib.hid hWs7
          clear hC hS7 hWs7 hkp hb8
          go_wp2_with fail
          refine HC.out.mono ?_
          clear HC
          rintro e w9 ⟨rfl, q7, hg7, hD7, hF7, hM7, -⟩
          obtain ⟨hgg, hR7, hFr7, hTm7⟩ := HS7.out.act hg7 hD7 hF7 hM7
          have hWs8 := HWs7.out.act hF7 hM7
          have hcl := cut_len x.ks d6
          have hl6 := HS7.out.st.len
          have hp6 : d6.pend.length = 0 := by rw [HS7.out.st.pe]; rfl
          have hSt := StartDown_any hD7 (Nat.zero_le _) (by omega) rfl
          rw [hgg] at hSt
          have HSt := Lib.hid hSt
          have HD7 := Lib.hid hD7
          have HR7 := Lib.hid hR7
          have HFr7 := Lib.hid hFr7
          have HTm7 := Lib.hid hTm7
          have HWs8 := Lib.hid hWs8
          have Hgg := Lib.hid hgg
          clear hSt hD7 hR7 hFr7 hTm7 hWs8 hgg hg7 hF7 hM7 y0 y1 y2 y3 y4 y5 y6 y7 y8 y9 HWs7
          go_wp2_with fail
          refine HSt.out.mono ?_
          clear HSt
          rintro e w10 ⟨rfl, q8, hg8', hDs8, hF8, hM8, -⟩
          have hg8 := hg8'.trans Hgg.out
          have hFr8 := HFr7.out.frd hF8 hM8
          have hTm8 := HTm7.out.act hF8 hM8
          have hWs8 := HWs8.out.act hF8 hM8
          obtain ⟨hSt8, hsu8⟩ := HS7.out.st.cut x.ks
          have hKp8 : Kept L6 (dStart (dCut x.ks d6)).sure := by rw [hsu8]; exact HS7.out.kp
          clear HFr7 HTm7 HWs8 hg8' hF8 hM8 HR7 HD7 HS7 hcl hl6 hp6 hsu8 Hgg
          generalize dStart (dCut x.ks d6) = d8 at *
          obtain ⟨d9, h91, h92⟩ := open_st hSt8 hDs8.ris hKp8 Hbad.out
          have hOp := RgOpen_any hDs8 hSt8.fok (by have := hSt8.len; rw [hSt8.pe]; simp; omega) t0 t1
          rw [hg8] at hOp
          have HOp := Lib.hid hOp
          obtain ⟨m0, m1, -⟩ := Blk.two hTm8.blk
          have HW8 := Lib.hid hWs8
          have HTm8 := Lib.hid hTm8
          have HF8 := Lib.hid hFr8
          have Hg8 := Lib.hid hg8
          have HK8 := Lib.hid hKp8
          have H91 := Lib.hid h91
          have H92 := Lib.hid h92
          clear hOp hWs8 hTm8 hFr8 hg8 hDs8 hSt8 hKp8 h91 h92
          go_wp2_with fail
          refine HOp.out.mono ?_
          clear HOp m0 m1
          rintro e w10 hOO
          have hrs : Ris d9.sure := by
            obtain ⟨q', -, hD', -⟩ := hOO
            rw [H92.out] at hD'
            exact hD'.ris
          obtain ⟨hre, hst9, hsu9⟩ := H91.out hrs
          rw [hre] at hOO
          obtain ⟨q9, gr9, gs9, rfl, hg9, hR9, hF9, hM9, hgr9⟩ := hOO.ok
          have hS9 : RsS w w10 g tb t0 t1 (i + 1) q9 gr9 gs9 d9 L6 0 := ⟨hg9.trans Hg8.out, hR9, hst9, by rw [hsu9]; exact HK8.out, HF8.out.frd hF9 hM9, Nat.le_trans HF8.out.1.size hgr9, (HTm8.out.act hF9 hM9).reg (by have := HTm8.out.blk.lt; omega)⟩
          have hW9 := (HW8.out.act hF9 hM9).reg (gr' := gr9) (by have := HW8.out.blk.lt; omega)
          have HS9 := Lib.hid hS9
          clear hOO hrs hre hst9 hsu9 hg9 hF9 hM9 hgr9 HW8 HTm8 HF8 Hg8 HK8 H91 H92 hS9 hR9
          go_upto_region 22 with (fail)
          go_cut [104] from 97 to 105 (fun z wz => z = .bool false ∧ Below w10.heap.size w10 wz)
          case first =>
            have hst : Below w10.heap.size w10 w10.drew := Below.drew (Below.refl _ _)
            refine wp_region_held_drew (S := (fun W => Below w10.heap.size w10 W)) (by kernel_rfl) ?_ (fun hHeld => ?_)
            · first | with_reducible exact hst | with_reducible exact hHeld | exact bel_call hHeld hb11
            refine wpAnyH_take (i := 0) (oi := ⟨some 97, _, _, _, _, _⟩) (v := ?_) rfl (by kernel_rfl) (by kernel_rfl) (by kernel_rfl) (fun _ _ _ h => h) (Or.inl ⟨by kernel_rfl, ?_⟩) (by assumption) ?_
            rotate_left
            · (intro wS hSw; (try dsimp only at hSw); obtain ⟨v0, v1, v2, -, -, -⟩ := (hW9.blk.below hSw).three; clear hSw; go_simp; (try with_reducible rfl))
            (try simp only [Act.put, List.setIfInBounds_toArray, List.set_cons_zero, List.set_cons_succ])
            refine wpAnyH_take (i := 1) (oi := ⟨some 98, _, _, _, _, _⟩) (v := ?_) rfl (by kernel_rfl) (by kernel_rfl) (by kernel_rfl) (fun _ _ _ h => h) (Or.inl ⟨by kernel_rfl, ?_⟩) (by assumption) ?_
            rotate_left
            · (intro wS hSw; (try dsimp only at hSw); obtain ⟨v0, v1, v2, -, -, -⟩ := (hW9.blk.below hSw).three; clear hSw; go_simp; (try with_reducible rfl))
            (try simp only [Act.put, List.setIfInBounds_toArray, List.set_cons_zero, List.set_cons_succ])
            refine wpAnyH_take (i := 2) (oi := ⟨some 99, _, _, _, _, _⟩) (v := ?_) rfl (by kernel_rfl) (by kernel_rfl) (by kernel_rfl) (fun _ _ _ h => h) (Or.inl ⟨by kernel_rfl, ?_⟩) (by assumption) ?_
            rotate_left
            · (intro wS hSw; (try dsimp only at hSw); obtain ⟨v0, v1, v2, -, -, -⟩ := (hW9.blk.below hSw).three; clear hSw; go_simp; (try with_reducible rfl))
            (try simp only [Act.put, List.setIfInBounds_toArray, List.set_cons_zero, List.set_cons_succ])
            refine wpAnyH_take (i := 3) (oi := ⟨some 100, _, _, _, _, _⟩) (v := ?_) rfl (by kernel_rfl) (by kernel_rfl) (by kernel_rfl) (fun _ _ _ h => h) (Or.inl ⟨by kernel_rfl, ?_⟩) (by assumption) ?_
            rotate_left
            · (intro wS hSw; (try dsimp only at hSw); obtain ⟨v0, v1, v2, -, -, -⟩ := (hW9.blk.below hSw).three; clear hSw; go_simp; (try with_reducible rfl))
            (try simp only [Act.put, List.setIfInBounds_toArray, List.set_cons_zero, List.set_cons_succ])
            refine wpAnyH_take (i := 5) (oi := ⟨some 102, _, _, _, _, _⟩) (v := ?_) rfl (by kernel_rfl) (by kernel_rfl) (by kernel_rfl) (fun _ _ _ h => h) (Or.inl ⟨by kernel_rfl, ?_⟩) (by assumption) ?_
            rotate_left
            · (intro wS hSw; (try dsimp only at hSw); obtain ⟨v0, v1, v2, -, -, -⟩ := (hW9.blk.below hSw).three; clear hSw; go_simp; (try with_reducible rfl))
            (try simp only [Act.put, List.setIfInBounds_toArray, List.set_cons_zero, List.set_cons_succ])
            refine wpAnyH_ready (rs := [4]) (by kernel_rfl) (by simp) ?_
            refine AllReadyH.cons (o := ⟨some 101, _, _, _, _, _⟩) rfl (fun K hK => ?_) AllReadyH.nil
            go_simp
            (refine (RLease_any (HS9.out.m.below hHeld)).mono ?_; rintro e w11 ⟨rfl, hb11⟩)
            go_wp2_with fail
            refine hK.out _ _ ?_ (fun hHeld => ?_)
            · ((try dsimp only); (first | with_reducible exact hst | with_reducible exact hHeld | exact bel_call hHeld hb11))
            clear hK K
            (try simp only [Act.put, List.setIfInBounds_toArray, List.set_cons_zero, List.set_cons_succ])
            refine wpAnyH_take (i := 6) (oi := ⟨some 103, _, _, _, _, _⟩) (v := ?_) rfl (by kernel_rfl) (by kernel_rfl) (by kernel_rfl) (fun _ _ _ h => h) (Or.inl ⟨by kernel_rfl, ?_⟩) (by assumption) ?_
            rotate_left
            · (intro wS hSw; (try dsimp only at hSw); obtain ⟨v0, v1, v2, -, -, -⟩ := (hW9.blk.below hSw).three; clear hSw; go_simp; (try with_reducible rfl))
            (try simp only [Act.put, List.setIfInBounds_toArray, List.set_cons_zero, List.set_cons_succ])
            refine wpAnyH_take (i := 7) (oi := ⟨some 104, _, _, _, _, _⟩) (v := ?_) rfl (by kernel_rfl) (by kernel_rfl) (by kernel_rfl) (fun _ _ _ h => h) (Or.inl ⟨by kernel_rfl, ?_⟩) (by assumption) ?_
            rotate_left
            · (intro wS hSw; (try dsimp only at hSw); obtain ⟨v0, v1, v2, -, -, -⟩ := (hW9.blk.below hSw).three; clear hSw; go_simp; (try with_reducible rfl))
            (try simp only [Act.put, List.setIfInBounds_toArray, List.set_cons_zero, List.set_cons_succ])
            refine wpAnyH_done (by kernel_rfl) ?_ _
            go_wp2_with fail
            go_meet
            exact ⟨by simp, hHeld⟩
          obtain ⟨rfl, hb12⟩ := hcut
          have HS10 := Lib.hid (HS9.out.call hb12)
          clear hb12 HS9 hW9
          go_wp2_with fail
          go_roundw
          case rel => exact ⟨i + 1, q9, gr9, gs9, d9, L6, 0, hlt, by go_num, rfl, rfl, HS10⟩
          case measure => simp [intOf]; omega
        · obtain ⟨ev, hev⟩ := errv_ifc h0
          rw [hev]
          clear hev h0
          go_upto_region 15 with (fail)
          refine gen1 (T := fun W => Below w6.heap.size w6 W ∧ Blk W w6.heap.size 43 #[.int .i64 ret.1, .int .i64 ret.2.1, .int .i64 ret.2.2]) ⟨hbl, hBl⟩ (fun w7 hT => ?_)
          clear hbl hBl
          obtain ⟨hbl, hBl⟩ := hT
          go_cut [74] from 67 to 105 (fun z wz => z = .bool false ∧ Below w6.heap.size w6 wz)
          case first =>
            have hst : Below w6.heap.size w6 w7.drew ∧ Blk w7.drew w6.heap.size 43 #[.int .i64 ret.1, .int .i64 ret.2.1, .int .i64 ret.2.2] := ⟨hbl.drew, hBl.drew⟩
            refine wp_region_held_drew (S := (fun W => Below w6.heap.size w6 W ∧ Blk W w6.heap.size 43 #[.int .i64 ret.1, .int .i64 ret.2.1, .int .i64 ret.2.2])) (by kernel_rfl) ?_ (fun hHeld => ?_)
            · first | with_reducible exact hst | with_reducible exact hHeld | exact ⟨bel_call hHeld.1 hb11, hHeld.2.below hb11⟩
            refine wpAnyH_take (i := 0) (oi := ⟨some 67, _, _, _, _, _⟩) (v := ?_) rfl (by kernel_rfl) (by kernel_rfl) (by kernel_rfl) (fun _ _ _ h => h) (Or.inl ⟨by kernel_rfl, ?_⟩) (by assumption) ?_
            rotate_left
            · (intro wS hSw; (try dsimp only at hSw); obtain ⟨v0, v1, v2, -, -, -⟩ := hSw.2.three; clear hSw; go_simp; (try with_reducible rfl))
            (try simp only [Act.put, List.setIfInBounds_toArray, List.set_cons_zero, List.set_cons_succ])
            refine wpAnyH_take (i := 1) (oi := ⟨some 68, _, _, _, _, _⟩) (v := ?_) rfl (by kernel_rfl) (by kernel_rfl) (by kernel_rfl) (fun _ _ _ h => h) (Or.inl ⟨by kernel_rfl, ?_⟩) (by assumption) ?_
            rotate_left
            · (intro wS hSw; (try dsimp only at hSw); obtain ⟨v0, v1, v2, -, -, -⟩ := hSw.2.three; clear hSw; go_simp; (try with_reducible rfl))
            (try simp only [Act.put, List.setIfInBounds_toArray, List.set_cons_zero, List.set_cons_succ])
            refine wpAnyH_take (i := 2) (oi := ⟨some 69, _, _, _, _, _⟩) (v := ?_) rfl (by kernel_rfl) (by kernel_rfl) (by kernel_rfl) (fun _ _ _ h => h) (Or.inl ⟨by kernel_rfl, ?_⟩) (by assumption) ?_
            rotate_left
            · (intro wS hSw; (try dsimp only at hSw); obtain ⟨v0, v1, v2, -, -, -⟩ := hSw.2.three; clear hSw; go_simp; (try with_reducible rfl))
            (try simp only [Act.put, List.setIfInBounds_toArray, List.set_cons_zero, List.set_cons_succ])
            refine wpAnyH_take (i := 3) (oi := ⟨some 70, _, _, _, _, _⟩) (v := undef) rfl (by kernel_rfl) (by kernel_rfl) (by kernel_rfl) (fun _ _ _ h => h) (Or.inr ⟨by kernel_rfl, rfl⟩) (by assumption) ?_
            (try simp only [Act.put, List.setIfInBounds_toArray, List.set_cons_zero, List.set_cons_succ])
            refine wpAnyH_take (i := 4) (oi := ⟨some 71, _, _, _, _, _⟩) (v := undef) rfl (by kernel_rfl) (by kernel_rfl) (by kernel_rfl) (fun _ _ _ h => h) (Or.inr ⟨by kernel_rfl, rfl⟩) (by assumption) ?_
            (try simp only [Act.put, List.setIfInBounds_toArray, List.set_cons_zero, List.set_cons_succ])
            refine wpAnyH_take (i := 5) (oi := ⟨some 72, _, _, _, _, _⟩) (v := undef) rfl (by kernel_rfl) (by kernel_rfl) (by kernel_rfl) (fun _ _ _ h => h) (Or.inr ⟨by kernel_rfl, rfl⟩) (by assumption) ?_
            (try simp only [Act.put, List.setIfInBounds_toArray, List.set_cons_zero, List.set_cons_succ])
            refine wpAnyH_take (i := 6) (oi := ⟨some 73, _, _, _, _, _⟩) (v := undef) rfl (by kernel_rfl) (by kernel_rfl) (by kernel_rfl) (fun _ _ _ h => h) (Or.inr ⟨by kernel_rfl, rfl⟩) (by assumption) ?_
            (try simp only [Act.put, List.setIfInBounds_toArray, List.set_cons_zero, List.set_cons_succ])
            refine wpAnyH_take (i := 7) (oi := ⟨some 74, _, _, _, _, _⟩) (v := ?_) rfl (by kernel_rfl) (by kernel_rfl) (by kernel_rfl) (fun _ _ _ h => h) (Or.inl ⟨by kernel_rfl, ?_⟩) (by assumption) ?_
            rotate_left
            · (intro wS hSw; (try dsimp only at hSw); obtain ⟨v0, v1, v2, -, -, -⟩ := hSw.2.three; clear hSw; go_simp; (try with_reducible rfl))
            (try simp only [Act.put, List.setIfInBounds_toArray, List.set_cons_zero, List.set_cons_succ])
            refine wpAnyH_done (by kernel_rfl) ?_ _
            go_wp2_with fail
            go_meet
            exact ⟨by simp, hHeld.1⟩
          obtain ⟨rfl, hb9⟩ := hcut
          have hS6 := HS6.out.call hb9
          have hAc6 := HAc6.out.below hb9
          clear hb9 HS6 HAc6 HRt hbl hBl
          have hLe := Lib.hid (RLease_any hS6.m)
          have HS6 := Lib.hid hS6
          have HAc := Lib.hid hAc6
          clear hS6 hAc6
          go_wp2_with fail
          refine hLe.out.mono ?_
          rintro e w7 ⟨rfl, hb7⟩
          have hb8 := below_new w7 (.cells #[.int .i64 L6.1, .int .i64 L6.2.1, .int .i64 L6.2.2] 43)
          have hS7 := (HS6.out.call hb7).call hb8
          have hWs7 := Off.new (HS6.out.m.st.dsk.below hb7) (HS6.out.call hb7).m.blk.lt 43 #[.int .i64 L6.1, .int .i64 L6.2.1, .int .i64 L6.2.2]
          have hAc7 := (HAc.out.below hb7).below hb8
          obtain ⟨y0, y1, y2, y3, y4, y5, y6, y7, y8, y9⟩ := hAc7.blk.tenD
          clear hAc7 hb7 hLe HS6 HAc
          have hkp := Sl.below HKs.out hS7.fro.1
          have hC := Cut_any hS7.m.st.dsk (by rw [hS7.st.pe]; simp) (by have := hS7.st.len; omega) x.ks hkp (fun hne ad hA => by
            have h1 := SlZ.ltB HKs.out hne hA
            have h2 := hS7.fro.2 q6.bs (.inr (.inl rfl))
            omega)
          rw [hS7.g] at hC
          have HC := Lib.hid hC
          have HS7 := Lib.hid hS7
          have HWs7 := Lib.hid hWs7
          clear hC hS7 hWs7 hkp hb8
          go_wp2_with fail
          refine HC.out.mono ?_
          clear HC
          rintro e w9 ⟨rfl, q7, hg7, hD7, hF7, hM7, -⟩
          obtain ⟨hgg, hR7, hFr7, hTm7⟩ := HS7.out.act hg7 hD7 hF7 hM7
          have hWs8 := HWs7.out.act hF7 hM7
          have hcl := cut_len x.ks d6
          have hl6 := HS7.out.st.len
          have hp6 : d6.pend.length = 0 := by rw [HS7.out.st.pe]; rfl
          have hSt := StartDown_any hD7 (Nat.zero_le _) (by omega) rfl
          rw [hgg] at hSt
          have HSt := Lib.hid hSt
          have HD7 := Lib.hid hD7
          have HR7 := Lib.hid hR7
          have HFr7 := Lib.hid hFr7
          have HTm7 := Lib.hid hTm7
          have HWs8 := Lib.hid hWs8
          have Hgg := Lib.hid hgg
          clear hSt hD7 hR7 hFr7 hTm7 hWs8 hgg hg7 hF7 hM7 y0 y1 y2 y3 y4 y5 y6 y7 y8 y9 HWs7
          go_wp2_with fail
          refine HSt.out.mono ?_
          clear HSt
          rintro e w10 ⟨rfl, q8, hg8', hDs8, hF8, hM8, -⟩
          have hg8 := hg8'.trans Hgg.out
          have hFr8 := HFr7.out.frd hF8 hM8
          have hTm8 := HTm7.out.act hF8 hM8
          have hWs8 := HWs8.out.act hF8 hM8
          obtain ⟨hSt8, hsu8⟩ := HS7.out.st.cut x.ks
          have hKp8 : Kept L6 (dStart (dCut x.ks d6)).sure := by rw [hsu8]; exact HS7.out.kp
          clear HFr7 HTm7 HWs8 hg8' hF8 hM8 HR7 HD7 HS7 hcl hl6 hp6 hsu8 Hgg
          generalize dStart (dCut x.ks d6) = d8 at *
          obtain ⟨d9, h91, h92⟩ := open_st hSt8 hDs8.ris hKp8 Hbad.out
          have hOp := RgOpen_any hDs8 hSt8.fok (by have := hSt8.len; rw [hSt8.pe]; simp; omega) t0 t1
          rw [hg8] at hOp
          have HOp := Lib.hid hOp
          obtain ⟨m0, m1, -⟩ := Blk.two hTm8.blk
          have HW8 := Lib.hid hWs8
          have HTm8 := Lib.hid hTm8
          have HF8 := Lib.hid hFr8
          have Hg8 := Lib.hid hg8
          have HK8 := Lib.hid hKp8
          have H91 := Lib.hid h91
          have H92 := Lib.hid h92
          clear hOp hWs8 hTm8 hFr8 hg8 hDs8 hSt8 hKp8 h91 h92
          go_wp2_with fail
          refine HOp.out.mono ?_
          clear HOp m0 m1
          rintro e w10 hOO
          have hrs : Ris d9.sure := by
            obtain ⟨q', -, hD', -⟩ := hOO
            rw [H92.out] at hD'
            exact hD'.ris
          obtain ⟨hre, hst9, hsu9⟩ := H91.out hrs
          rw [hre] at hOO
          obtain ⟨q9, gr9, gs9, rfl, hg9, hR9, hF9, hM9, hgr9⟩ := hOO.ok
          have hS9 : RsS w w10 g tb t0 t1 (i + 1) q9 gr9 gs9 d9 L6 0 := ⟨hg9.trans Hg8.out, hR9, hst9, by rw [hsu9]; exact HK8.out, HF8.out.frd hF9 hM9, Nat.le_trans HF8.out.1.size hgr9, (HTm8.out.act hF9 hM9).reg (by have := HTm8.out.blk.lt; omega)⟩
          have hW9 := (HW8.out.act hF9 hM9).reg (gr' := gr9) (by have := HW8.out.blk.lt; omega)
          have HS9 := Lib.hid hS9
          clear hOO hrs hre hst9 hsu9 hg9 hF9 hM9 hgr9 HW8 HTm8 HF8 Hg8 HK8 H91 H92 hS9 hR9
          go_upto_region 22 with (fail)
          go_cut [104] from 97 to 105 (fun z wz => z = .bool false ∧ Below w10.heap.size w10 wz)
          case first =>
            have hst : Below w10.heap.size w10 w10.drew := Below.drew (Below.refl _ _)
            refine wp_region_held_drew (S := (fun W => Below w10.heap.size w10 W)) (by kernel_rfl) ?_ (fun hHeld => ?_)
            · first | with_reducible exact hst | with_reducible exact hHeld | exact bel_call hHeld hb11
            refine wpAnyH_take (i := 0) (oi := ⟨some 97, _, _, _, _, _⟩) (v := ?_) rfl (by kernel_rfl) (by kernel_rfl) (by kernel_rfl) (fun _ _ _ h => h) (Or.inl ⟨by kernel_rfl, ?_⟩) (by assumption) ?_
            rotate_left
            · (intro wS hSw; (try dsimp only at hSw); obtain ⟨v0, v1, v2, -, -, -⟩ := (hW9.blk.below hSw).three; clear hSw; go_simp; (try with_reducible rfl))
            (try simp only [Act.put, List.setIfInBounds_toArray, List.set_cons_zero, List.set_cons_succ])
            refine wpAnyH_take (i := 1) (oi := ⟨some 98, _, _, _, _, _⟩) (v := ?_) rfl (by kernel_rfl) (by kernel_rfl) (by kernel_rfl) (fun _ _ _ h => h) (Or.inl ⟨by kernel_rfl, ?_⟩) (by assumption) ?_
            rotate_left
            · (intro wS hSw; (try dsimp only at hSw); obtain ⟨v0, v1, v2, -, -, -⟩ := (hW9.blk.below hSw).three; clear hSw; go_simp; (try with_reducible rfl))
            (try simp only [Act.put, List.setIfInBounds_toArray, List.set_cons_zero, List.set_cons_succ])
            refine wpAnyH_take (i := 2) (oi := ⟨some 99, _, _, _, _, _⟩) (v := ?_) rfl (by kernel_rfl) (by kernel_rfl) (by kernel_rfl) (fun _ _ _ h => h) (Or.inl ⟨by kernel_rfl, ?_⟩) (by assumption) ?_
            rotate_left
            · (intro wS hSw; (try dsimp only at hSw); obtain ⟨v0, v1, v2, -, -, -⟩ := (hW9.blk.below hSw).three; clear hSw; go_simp; (try with_reducible rfl))
            (try simp only [Act.put, List.setIfInBounds_toArray, List.set_cons_zero, List.set_cons_succ])
            refine wpAnyH_take (i := 3) (oi := ⟨some 100, _, _, _, _, _⟩) (v := ?_) rfl (by kernel_rfl) (by kernel_rfl) (by kernel_rfl) (fun _ _ _ h => h) (Or.inl ⟨by kernel_rfl, ?_⟩) (by assumption) ?_
            rotate_left
            · (intro wS hSw; (try dsimp only at hSw); obtain ⟨v0, v1, v2, -, -, -⟩ := (hW9.blk.below hSw).three; clear hSw; go_simp; (try with_reducible rfl))
            (try simp only [Act.put, List.setIfInBounds_toArray, List.set_cons_zero, List.set_cons_succ])
            refine wpAnyH_take (i := 5) (oi := ⟨some 102, _, _, _, _, _⟩) (v := ?_) rfl (by kernel_rfl) (by kernel_rfl) (by kernel_rfl) (fun _ _ _ h => h) (Or.inl ⟨by kernel_rfl, ?_⟩) (by assumption) ?_
            rotate_left
            · (intro wS hSw; (try dsimp only at hSw); obtain ⟨v0, v1, v2, -, -, -⟩ := (hW9.blk.below hSw).three; clear hSw; go_simp; (try with_reducible rfl))
            (try simp only [Act.put, List.setIfInBounds_toArray, List.set_cons_zero, List.set_cons_succ])
            refine wpAnyH_ready (rs := [4]) (by kernel_rfl) (by simp) ?_
            refine AllReadyH.cons (o := ⟨some 101, _, _, _, _, _⟩) rfl (fun K hK => ?_) AllReadyH.nil
            go_simp
            (refine (RLease_any (HS9.out.m.below hHeld)).mono ?_; rintro e w11 ⟨rfl, hb11⟩)
            go_wp2_with fail
            refine hK.out _ _ ?_ (fun hHeld => ?_)
            · ((try dsimp only); (first | with_reducible exact hst | with_reducible exact hHeld | exact bel_call hHeld hb11))
            clear hK K
            (try simp only [Act.put, List.setIfInBounds_toArray, List.set_cons_zero, List.set_cons_succ])
            refine wpAnyH_take (i := 6) (oi := ⟨some 103, _, _, _, _, _⟩) (v := ?_) rfl (by kernel_rfl) (by kernel_rfl) (by kernel_rfl) (fun _ _ _ h => h) (Or.inl ⟨by kernel_rfl, ?_⟩) (by assumption) ?_
            rotate_left
            · (intro wS hSw; (try dsimp only at hSw); obtain ⟨v0, v1, v2, -, -, -⟩ := (hW9.blk.below hSw).three; clear hSw; go_simp; (try with_reducible rfl))
            (try simp only [Act.put, List.setIfInBounds_toArray, List.set_cons_zero, List.set_cons_succ])
            refine wpAnyH_take (i := 7) (oi := ⟨some 104, _, _, _, _, _⟩) (v := ?_) rfl (by kernel_rfl) (by kernel_rfl) (by kernel_rfl) (fun _ _ _ h => h) (Or.inl ⟨by kernel_rfl, ?_⟩) (by assumption) ?_
            rotate_left
            · (intro wS hSw; (try dsimp only at hSw); obtain ⟨v0, v1, v2, -, -, -⟩ := (hW9.blk.below hSw).three; clear hSw; go_simp; (try with_reducible rfl))
            (try simp only [Act.put, List.setIfInBounds_toArray, List.set_cons_zero, List.set_cons_succ])
            refine wpAnyH_done (by kernel_rfl) ?_ _
            go_wp2_with fail
            go_meet
            exact ⟨by simp, hHeld⟩
          obtain ⟨rfl, hb12⟩ := hcut
          have HS10 := Lib.hid (HS9.out.call hb12)
          clear hb12 HS9 hW9
          go_wp2_with fail
          go_roundw
          case rel => exact ⟨i + 1, q9, gr9, gs9, d9, L6, 0, hlt, by go_num, rfl, rfl, HS10⟩
          case measure => simp [intOf]; omega
      · have hj3 : (IntKind.u64.wrap x.k).tmod 2 = 1 := hj2
        clear hj2
        have HA := Lib.hid (RGive_any hS5.m hS5.st.fok (by have := hS5.st.len; rw [hS5.st.pe]; simp; omega) x.o)
        obtain ⟨z0, z1, z2, z3, z4, z5, z6, z7, z8, z9⟩ := hAc5.blk.tenD
        have HS5 := Lib.hid hS5
        have HAc5 := Lib.hid hAc5
        clear hS5 hAc5
        go_wp2_with fail
        refine HA.out.mono ?_
        clear HA z0 z1 z2 z3 z4 z5 z6 z7 z8 z9
        rintro e w6 ⟨k, d6, L6, hA, rfl, q6, hg6, hR6, hF6, hM6⟩
        obtain ⟨hst6, hkp6⟩ := hA.st HS5.out.st HS5.out.m.st.dsk.ris HS5.out.kp
        have hS6 := HS5.out.rg hg6 hR6 hF6 hM6 hst6 hkp6
        have hAc6 := HAc5.out.frg hF6 hM6
        clear hA hst6 hkp6 hg6 hR6 hF6 hM6 HS5 HAc5
        generalize errv k = ev at *
        have hLe := Lib.hid (RLease_any hS6.m)
        have HS6 := Lib.hid hS6
        have HAc := Lib.hid hAc6
        clear hS6 hAc6
        go_wp2_with fail
        refine hLe.out.mono ?_
        rintro e w7 ⟨rfl, hb7⟩
        have hb8 := below_new w7 (.cells #[.int .i64 L6.1, .int .i64 L6.2.1, .int .i64 L6.2.2] 43)
        have hS7 := (HS6.out.call hb7).call hb8
        have hWs7 := Off.new (HS6.out.m.st.dsk.below hb7) (HS6.out.call hb7).m.blk.lt 43 #[.int .i64 L6.1, .int .i64 L6.2.1, .int .i64 L6.2.2]
        have hAc7 := (HAc.out.below hb7).below hb8
        obtain ⟨y0, y1, y2, y3, y4, y5, y6, y7, y8, y9⟩ := hAc7.blk.tenD
        clear hAc7 hb7 hLe HS6 HAc
        have hDs8 := hS7.m.st.dsk
        have hSt8 := hS7.st
        have hKp8 := hS7.kp
        have hg8 := hS7.g
        have hFr8 := hS7.fro
        have hTm8 := hS7.tm
        have hWs8 := hWs7
        clear hS7 hWs7 hb8
        obtain ⟨d9, h91, h92⟩ := open_st hSt8 hDs8.ris hKp8 Hbad.out
        have hOp := RgOpen_any hDs8 hSt8.fok (by have := hSt8.len; rw [hSt8.pe]; simp; omega) t0 t1
        rw [hg8] at hOp
        have HOp := Lib.hid hOp
        obtain ⟨m0, m1, -⟩ := Blk.two hTm8.blk
        have HW8 := Lib.hid hWs8
        have HTm8 := Lib.hid hTm8
        have HF8 := Lib.hid hFr8
        have Hg8 := Lib.hid hg8
        have HK8 := Lib.hid hKp8
        have H91 := Lib.hid h91
        have H92 := Lib.hid h92
        clear hOp hWs8 hTm8 hFr8 hg8 hDs8 hSt8 hKp8 h91 h92
        go_wp2_with fail
        refine HOp.out.mono ?_
        clear HOp m0 m1
        rintro e w10 hOO
        have hrs : Ris d9.sure := by
          obtain ⟨q', -, hD', -⟩ := hOO
          rw [H92.out] at hD'
          exact hD'.ris
        obtain ⟨hre, hst9, hsu9⟩ := H91.out hrs
        rw [hre] at hOO
        obtain ⟨q9, gr9, gs9, rfl, hg9, hR9, hF9, hM9, hgr9⟩ := hOO.ok
        have hS9 : RsS w w10 g tb t0 t1 (i + 1) q9 gr9 gs9 d9 L6 0 := ⟨hg9.trans Hg8.out, hR9, hst9, by rw [hsu9]; exact HK8.out, HF8.out.frd hF9 hM9, Nat.le_trans HF8.out.1.size hgr9, (HTm8.out.act hF9 hM9).reg (by have := HTm8.out.blk.lt; omega)⟩
        have hW9 := (HW8.out.act hF9 hM9).reg (gr' := gr9) (by have := HW8.out.blk.lt; omega)
        have HS9 := Lib.hid hS9
        clear hOO hrs hre hst9 hsu9 hg9 hF9 hM9 hgr9 HW8 HTm8 HF8 Hg8 HK8 H91 H92 hS9 hR9
        go_upto_region 22 with (fail)
        go_cut [104] from 97 to 105 (fun z wz => z = .bool false ∧ Below w10.heap.size w10 wz)
        case first =>
          have hst : Below w10.heap.size w10 w10.drew := Below.drew (Below.refl _ _)
          refine wp_region_held_drew (S := (fun W => Below w10.heap.size w10 W)) (by kernel_rfl) ?_ (fun hHeld => ?_)
          · first | with_reducible exact hst | with_reducible exact hHeld | exact bel_call hHeld hb11
          refine wpAnyH_take (i := 0) (oi := ⟨some 97, _, _, _, _, _⟩) (v := ?_) rfl (by kernel_rfl) (by kernel_rfl) (by kernel_rfl) (fun _ _ _ h => h) (Or.inl ⟨by kernel_rfl, ?_⟩) (by assumption) ?_
          rotate_left
          · (intro wS hSw; (try dsimp only at hSw); obtain ⟨v0, v1, v2, -, -, -⟩ := (hW9.blk.below hSw).three; clear hSw; go_simp; (try with_reducible rfl))
          (try simp only [Act.put, List.setIfInBounds_toArray, List.set_cons_zero, List.set_cons_succ])
          refine wpAnyH_take (i := 1) (oi := ⟨some 98, _, _, _, _, _⟩) (v := ?_) rfl (by kernel_rfl) (by kernel_rfl) (by kernel_rfl) (fun _ _ _ h => h) (Or.inl ⟨by kernel_rfl, ?_⟩) (by assumption) ?_
          rotate_left
          · (intro wS hSw; (try dsimp only at hSw); obtain ⟨v0, v1, v2, -, -, -⟩ := (hW9.blk.below hSw).three; clear hSw; go_simp; (try with_reducible rfl))
          (try simp only [Act.put, List.setIfInBounds_toArray, List.set_cons_zero, List.set_cons_succ])
          refine wpAnyH_take (i := 2) (oi := ⟨some 99, _, _, _, _, _⟩) (v := ?_) rfl (by kernel_rfl) (by kernel_rfl) (by kernel_rfl) (fun _ _ _ h => h) (Or.inl ⟨by kernel_rfl, ?_⟩) (by assumption) ?_
          rotate_left
          · (intro wS hSw; (try dsimp only at hSw); obtain ⟨v0, v1, v2, -, -, -⟩ := (hW9.blk.below hSw).three; clear hSw; go_simp; (try with_reducible rfl))
          (try simp only [Act.put, List.setIfInBounds_toArray, List.set_cons_zero, List.set_cons_succ])
          refine wpAnyH_take (i := 3) (oi := ⟨some 100, _, _, _, _, _⟩) (v := ?_) rfl (by kernel_rfl) (by kernel_rfl) (by kernel_rfl) (fun _ _ _ h => h) (Or.inl ⟨by kernel_rfl, ?_⟩) (by assumption) ?_
          rotate_left
          · (intro wS hSw; (try dsimp only at hSw); obtain ⟨v0, v1, v2, -, -, -⟩ := (hW9.blk.below hSw).three; clear hSw; go_simp; (try with_reducible rfl))
          (try simp only [Act.put, List.setIfInBounds_toArray, List.set_cons_zero, List.set_cons_succ])
          refine wpAnyH_take (i := 5) (oi := ⟨some 102, _, _, _, _, _⟩) (v := ?_) rfl (by kernel_rfl) (by kernel_rfl) (by kernel_rfl) (fun _ _ _ h => h) (Or.inl ⟨by kernel_rfl, ?_⟩) (by assumption) ?_
          rotate_left
          · (intro wS hSw; (try dsimp only at hSw); obtain ⟨v0, v1, v2, -, -, -⟩ := (hW9.blk.below hSw).three; clear hSw; go_simp; (try with_reducible rfl))
          (try simp only [Act.put, List.setIfInBounds_toArray, List.set_cons_zero, List.set_cons_succ])
          refine wpAnyH_ready (rs := [4]) (by kernel_rfl) (by simp) ?_
          refine AllReadyH.cons (o := ⟨some 101, _, _, _, _, _⟩) rfl (fun K hK => ?_) AllReadyH.nil
          go_simp
          (refine (RLease_any (HS9.out.m.below hHeld)).mono ?_; rintro e w11 ⟨rfl, hb11⟩)
          go_wp2_with fail
          refine hK.out _ _ ?_ (fun hHeld => ?_)
          · ((try dsimp only); (first | with_reducible exact hst | with_reducible exact hHeld | exact bel_call hHeld hb11))
          clear hK K
          (try simp only [Act.put, List.setIfInBounds_toArray, List.set_cons_zero, List.set_cons_succ])
          refine wpAnyH_take (i := 6) (oi := ⟨some 103, _, _, _, _, _⟩) (v := ?_) rfl (by kernel_rfl) (by kernel_rfl) (by kernel_rfl) (fun _ _ _ h => h) (Or.inl ⟨by kernel_rfl, ?_⟩) (by assumption) ?_
          rotate_left
          · (intro wS hSw; (try dsimp only at hSw); obtain ⟨v0, v1, v2, -, -, -⟩ := (hW9.blk.below hSw).three; clear hSw; go_simp; (try with_reducible rfl))
          (try simp only [Act.put, List.setIfInBounds_toArray, List.set_cons_zero, List.set_cons_succ])
          refine wpAnyH_take (i := 7) (oi := ⟨some 104, _, _, _, _, _⟩) (v := ?_) rfl (by kernel_rfl) (by kernel_rfl) (by kernel_rfl) (fun _ _ _ h => h) (Or.inl ⟨by kernel_rfl, ?_⟩) (by assumption) ?_
          rotate_left
          · (intro wS hSw; (try dsimp only at hSw); obtain ⟨v0, v1, v2, -, -, -⟩ := (hW9.blk.below hSw).three; clear hSw; go_simp; (try with_reducible rfl))
          (try simp only [Act.put, List.setIfInBounds_toArray, List.set_cons_zero, List.set_cons_succ])
          refine wpAnyH_done (by kernel_rfl) ?_ _
          go_wp2_with fail
          go_meet
          exact ⟨by simp, hHeld⟩
        obtain ⟨rfl, hb12⟩ := hcut
        have HS10 := Lib.hid (HS9.out.call hb12)
        clear hb12 HS9 hW9
        go_wp2_with fail
        go_roundw
        case rel => exact ⟨i + 1, q9, gr9, gs9, d9, L6, 0, hlt, by go_num, rfl, rfl, HS10⟩
        case measure => simp [intOf]; omega
    · have hI : (s.length : Int) ≤ (i : Int) := by omega
      have HB := Lib.hid hS0.out.fro.1
      clear hS0
      go_wp2_with fail
      go_ret
      exact ⟨rfl, HB.out⟩
set_option maxRecDepth 100000 in
set_option maxHeartbeats 1000000 in
theorem stays_all {A : Option Addr} {c : Nat} {s : List RA} {t0 t1 : Int} (w : World) (h : SlRA w A c s) :
    Calls Tryz.prog 3 #[.agg #[.int .i64 t0, .int .i64 t1], .slice A s.length c] w fun e w' => e = .returned (.bool true) ∧ Below w.heap.size w w' := by
  rcases hlg : raLong s 40 with _ | _
  · exact stays_walk w h hlg
  · have hb0 := below_new w (.cells #[.int .i64 t0, .int .i64 t1] 22)
    have H := Lib.hid h
    have HLg := fun W (hh : SlRA W A c s) => RaLong_any W hh 40
    rw [hlg] at HLg
    replace HLg := Lib.hid HLg
    clear h hlg
    go_enter Tryz.func3, Tryz.ntmps3
    go_wp2_with fail
    refine (AliveR_any _).mono ?_
    rintro e w1 ⟨rfl, hb1⟩
    have hb2 := bel_call hb0 hb1
    go_wp2_with fail
    refine (HLg.out _ (H.out.below hb2)).mono ?_
    rintro e w2 ⟨rfl, hb3⟩
    have hb := bel_call hb2 hb3
    go_wp2_with fail
    go_ret
    exact ⟨rfl, hb⟩
end Go.Proofs.YtlpniegemklfeaaGreatDoor
