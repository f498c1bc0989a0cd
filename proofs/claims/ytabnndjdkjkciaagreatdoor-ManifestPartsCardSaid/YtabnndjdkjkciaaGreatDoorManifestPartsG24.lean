/- WHAT IT HOLDS: the document's digest, walked. | WHAT IT HOLDS: the document's digest of a text, walked. -/
import Derived.Test.YtabnndjdkjkciaaGreatDoorManifestPartsG22
import Derived.Test.YtabnndjdkjkciaaGreatDoorManifestPartsG23
namespace Go.Proofs.YtabnndjdkjkciaaGreatDoor
open Go.RowKit
attribute [local go_sem ↓] Go.wp_at_zero Go.wp_at_succ

set_option maxRecDepth 100000 in
set_option maxHeartbeats 4000000 in
theorem rDgSum_any {A C F : Option Addr} {c cc fc : Nat} (t : List UInt8) (ks hs : List W32) (w : World) (h : SlB w A c t) (hC : SlW w C cc ks) (hF : SlW w F fc hs) (hks : Hid (ks = shaK)) (hhs : Hid (hs = shaH.l)) (hl : t.length ≤ 1000000) :
    Calls Tryz.prog 66 #[.slice A t.length c, .slice C ks.length cc, .slice F hs.length fc] w fun e w' => e = .returned (.agg (dga (shaD t))) ∧ Below w.heap.size w w' := by
  have hkl : ks.length = 64 := by rw [hks.out]; rfl
  have hhl : hs.length = 8 := by rw [hhs.out]; rfl
  have hpz : padZ t.length < 64 := by unfold padZ; omega
  have hpm : (t.length + 1 + padZ t.length) % 64 = 56 := by unfold padZ; omega
  have hpk : ∀ k, k < padZ t.length → ¬ (t.length + 1 + k) % 64 = 56 := by unfold padZ; omega
  have hM := Lib.hid (shaM_eq t)
  have HS := Lib.hid (show shaD t = (blks (shaM t) shaH ((shaM t).length / 64)).dg from rfl)
  obtain ⟨z, hz⟩ : ∃ z, padZ t.length = z := ⟨_, rfl⟩
  rw [hz] at hpz hpm hpk hM
  clear hz
  have h0 : Mm w (w.alloc (.cells (dga dg0) 42)) [(w.heap.size, 42, dga dg0)] [] := (Mm.start w).alloc (dga dg0) 42
  rw [hkl, hhl]
  go_enter Tryz.func66, Tryz.ntmps66
  go_upto_region 1 with (fail)
  refine gen1 (T := fun W => Mm w W [(w.heap.size, 42, dga dg0)] []) h0 (fun w0 hM0 => ?_)
  have hw0 : w.heap.size + 1 ≤ w0.heap.size := hM0.b0.lt
  go_upto_region 2 with (at_builtin; go_must (refine wpl_fresh 29 5 Tryz.underlying29 u8_info rfl (.tmp 30) (.tmp 31) rfl rfl A c t rfl (Sl.below h hM0.bel) (by omega) ?_; intro A1 c1 m1 w1 hm1 ho1 hb1))
  have hm1l : Hid (m1.length = t.length) := (show _ = _ from by rw [hm1.out])
  have hoa := Own.more (base' := w.heap.size + 1) (World.ownsRow.alloc ho1 (.cells #[.int .u8 128] 5)) (by omega)
  have hln : m1.length + [(128 : UInt8)].length ≤ 140737488355328 := by have := hm1l.out; simp; omega
  have hz1 : w.heap.size + 1 ≤ (w1.alloc (.cells #[.int .u8 128] 5)).heap.size := by have := hb1.size; simp; omega
  go_upto_region 3 with (at_builtin; go_must (refine wpl_bytes 29 5 Tryz.underlying29 u8_info rfl _ _ rfl (w.heap.size + 1) A1 c1 m1 rfl hoa (some ⟨w1.heap.size, 0, none⟩) 1 [128] rfl Sl.one hln hz1 ?_; intro A2 c2 m2 w2 hm2 ho2 _ _ hb2))
  have hM2 := ((hM0.call hb1).allocO (.cells #[.int .u8 128] 5)).above hb2 (by simp) (by omega)
  have hm2e : Hid (m2 = cnM t 0) := (show _ = _ from by rw [hm2.out, hm1.out]; rfl)
  clear hm1 ho1 hb1 hm1l hoa hln hz1 hm2 hb2 hM0 hw0 h0
  go_wp2_with fail
  go_loopw [7] (fun x wr => ∃ (k : Nat) (E : Option Addr) (d : Nat) (m : List UInt8), k ≤ z ∧ x = .slice E m.length d ∧ Hid (m = cnM t k) ∧ OwnB wr (w.heap.size + 1) 5 E d m ∧ Mm w wr [(w.heap.size, 42, dga dg0)] []) (fun x _ => t.length + 200 - (match x with | .slice _ n _ => n | _ => 0))
  case atStart => exact ⟨0, A2, c2, m2, by omega, rfl, hm2e, ho2, hM2⟩
  case round =>
    clear hm2e ho2 hM2
    obtain ⟨k, E, d, m, hk, rfl, hm, ho, hM3⟩ := hrel
    have hml : Hid (m.length = t.length + 1 + k) := (show _ = _ from by rw [hm.out]; simp [cnM]; omega)
    rcases Nat.lt_or_ge k z with hlt | hge
    · have hzt : ((m.length : Int) % 64 != 56) = true := by
        have h9 := hpk k hlt
        have h8 := hml.out
        have : ¬ (m.length : Int) % 64 = 56 := by omega
        simpa using this
      have hoa := World.ownsRow.alloc ho (.cells #[.int .u8 0] 5)
      have hMa := hM3.allocO (.cells #[.int .u8 0] 5)
      have hln : m.length + [(0 : UInt8)].length ≤ 140737488355328 := by have := hml.out; simp; omega
      have hlo : w.heap.size + 1 ≤ (wr.alloc (.cells #[.int .u8 0] 5)).heap.size := hMa.b0.lt
      go_wp2_with (at_builtin; go_must (refine wpl_bytes 29 5 Tryz.underlying29 u8_info rfl _ _ rfl (w.heap.size + 1) E d m rfl hoa (some ⟨wr.heap.size, 0, none⟩) 1 [0] rfl Sl.one hln hlo ?_; intro E2 d2 m2 w2 hm2 ho2 _ _ hb2))
      have hl2 : m2.length = t.length + 1 + (k + 1) := by rw [hm2.out, List.length_append, hml.out]; rfl
      refine ⟨⟨k + 1, E2, d2, m2, hlt, rfl, (show _ = _ from by rw [hm2.out, hm.out]; unfold cnM; rw [List.replicate_succ']; simp), ho2, hMa.above hb2 (by simp) (by omega)⟩, ?_⟩
      dsimp only
      rw [hl2, hml.out]
      omega
    · obtain rfl : k = z := by omega
      have hzt : ((m.length : Int) % 64 != 56) = false := by
        have h8 := hml.out
        have : (m.length : Int) % 64 = 56 := by omega
        simpa using this
      have hw3 : IntKind.u64.wrap (t.length : Int) = (t.length : Int) := by show (t.length : Int) % 18446744073709551616 = _; omega
      obtain ⟨N, hN⟩ : ∃ N, 8 * t.length = N := ⟨_, rfl⟩
      rw [hN] at hM
      have hw4 : IntKind.u64.wrap ((t.length : Int) * 8) = (N : Int) := by show ((t.length : Int) * 8) % 18446744073709551616 = _; omega
      clear hN
      go_wp2_with fail
      clear hzt hw3 hw4 hpk hpm
      have HM3 := Lib.hid hM3
      have HO := Lib.hid ho
      have HM := Lib.hid hm
      clear hM3 ho hm
      go_loopw [9, 7] (fun y x wr => ∃ (j : Nat) (E : Option Addr) (d : Nat) (m : List UInt8), j ≤ 8 ∧ y = .int .i64 (7 - (j : Int)) ∧ x = .slice E m.length d ∧ m.length = t.length + 1 + k + j ∧ Hid (m = cnM t k ++ (be8 N).take j) ∧ OwnB wr (w.heap.size + 1) 5 E d m ∧ Mm w wr [(w.heap.size, 42, dga dg0)] []) (fun y x wr => t.length + 200 - (match x with | .slice _ n _ => n | _ => 0))
      case atStart => exact ⟨0, E, d, m, by omega, rfl, rfl, hml.out, (show _ = _ from by rw [HM.out]; simp), HO.out, HM3.out⟩
      case round =>
        clear HM HO HM3 hml
        obtain ⟨j, E, d, m, hj, rfl, rfl, hml, hm, ho, hM3⟩ := hrel
        have HML := Lib.hid hml
        clear hml
        rcases Nat.lt_or_ge j 8 with hlt | hge
        · obtain ⟨s, hs⟩ : ∃ s : Nat, 8 * j + s = 56 := ⟨56 - 8 * j, by omega⟩
          have hsw : IntKind.i64.wrap (8 * (7 - (j : Int))) = (s : Int) := by rw [IntKind.wrap_i64]; omega
          have hsu : IntKind.u64.wrap (s : Int) = (s : Int) := by show (s : Int) % 18446744073709551616 = _; omega
          have hsI : 0 ≤ 7 - (j : Int) := by omega
          have hs3 : IntKind.i64.wrap (7 - (j : Int) - 1) = 7 - (j : Int) - 1 := by rw [IntKind.wrap_i64]; omega
          have hat := be8_at N hs
          have hbt : ((N : Int) / 2 ^ min s 64) % 256 = ((be8 N).getD j 0).toNat := by
            rw [hat, ofNat_byte, Nat.min_eq_left (by omega)]
            simp
          have htk := Lib.hid (take_snocD (be8 N) 0 (j := j) (by rw [be8_len]; exact hlt))
          generalize (be8 N).getD j 0 = x at *
          clear hat hs
          have hoa := World.ownsRow.alloc ho (.cells #[bv x] 5)
          have hMa := hM3.allocO (.cells #[bv x] 5)
          have hln : m.length + [x].length ≤ 140737488355328 := by have := HML.out; simp; omega
          have hlo : w.heap.size + 1 ≤ (wr.alloc (.cells #[bv x] 5)).heap.size := hMa.b0.lt
          go_wp2_with (at_builtin; go_must (refine wpl_bytes 29 5 Tryz.underlying29 u8_info rfl _ _ rfl (w.heap.size + 1) E d m rfl hoa (some ⟨wr.heap.size, 0, none⟩) 1 [x] rfl Sl.one hln hlo ?_; intro E2 d2 m2 w2 hm2 ho2 _ _ hb2))
          have hl2 : m2.length = t.length + 1 + k + (j + 1) := by rw [hm2.out, List.length_append, HML.out]; rfl
          refine ⟨⟨j + 1, E2, d2, m2, hlt, congrArg (Value.int .i64) (by omega), rfl, hl2, (show _ = _ from by rw [hm2.out, hm.out, htk.out]; simp), ho2, hMa.above hb2 (by simp) (by omega)⟩, ?_⟩
          dsimp only
          rw [hl2, HML.out]
          omega
        · obtain rfl : j = 8 := by omega
          have hmM : Hid (m = shaM t) := (show _ = _ from by rw [hm.out, hM.out, List.take_of_length_le (by rw [be8_len]; exact Nat.le_refl _)])
          rw [show (7 : Int) - ((8 : Nat) : Int) = -1 from by decide]
          have hF2 : SlW wr F fc hs := Sl.below hF hM3.bel
          have hFa := Sl.below hF2 (below_new wr (.cells #[] 221))
          have hLw : OwnW (wr.alloc (.cells #[] 221)) wr.heap.size (some ⟨wr.heap.size, 0, none⟩) 0 [] := Own.lit 1 (Nat.le_refl _)
          rename World => wh
          clear hm hM HML hF2
          go_wp2_with (at_builtin; go_must (refine wpl_words rfl _ _ rfl wh.heap.size (some ⟨wh.heap.size, 0, none⟩) 0 [] rfl hLw F fc 8 hs hhl.symm rfl hFa (by simp; omega) (by simp) ?_; intro S3 s3 l3 w3 hl3 ho3 _ _ hb3))
          have hb9 := (below_new wh (.cells #[] 221)).trans hb3
          have hD3 : DsI w w3 C E S3 cc d s3 ks m l3 := ⟨hM3.call hb9, Sl.below hC (bel_call hM3.bel hb9), Sl.below (Own.sl ho) hb9, Own.sl ho3⟩
          have hl3e : Hid (l3 = hs) := (show _ = _ from by rw [hl3.out]; rfl)
          have hl38 : l3.length = 8 := by rw [hl3e.out]; exact hhl
          obtain ⟨Q, hQ⟩ : ∃ Q, m.length = 64 * Q := ⟨m.length / 64, by
            have h1 := pad_mod t.length
            have h2 : m.length = t.length + (padT t.length).length := by rw [hmM.out]; simp [shaM]
            omega⟩
          have hQl : Q ≤ 100000 ∧ 1 ≤ Q := by
            have h2 : m.length = t.length + (padT t.length).length := by rw [hmM.out]; simp [shaM]
            rw [padT_len] at h2
            have : padZ t.length < 64 := by unfold padZ; omega
            omega
          have HQ := Lib.hid (show shaD t = (blks m shaH Q).dg from by rw [HS.out, ← hmM.out, hQ, Nat.mul_div_cancel_left _ (by omega)])
          have HM9 := Lib.hid hQ
          rw [hl38]
          clear hb3 hb9 hM3 ho ho3 hl3 hFa hLw hmM HS hQ
          rw [HM9.out]
          go_loopw [11, 10] (fun x y wr => ∃ (q : Nat) (S : Option Addr) (sd : Nat) (l : List W32), q ≤ Q ∧ x = .int .i64 (64 * (q : Int)) ∧ y = .slice S 8 sd ∧ l.length = 8 ∧ Hid (l = (blks m shaH q).l) ∧ DsI w wr C E S cc d sd ks m l) (fun x y wr => 64 * Q - (intOf x).toNat)
          case atStart => exact ⟨0, S3, s3, l3, by omega, rfl, rfl, hl38, (show _ = _ from by rw [hl3e.out, hhs.out]; rfl), hD3⟩
          case round =>
            clear hD3 hl3e hl38
            obtain ⟨q, S, sd, l, hq, rfl, rfl, hl8, hle, hD⟩ := hrel
            by_cases hlt : q < Q
            · have hI : 64 * (q : Int) < 64 * (Q : Int) := by omega
              obtain ⟨st, hst⟩ : ∃ st, blks m shaH q = st := ⟨_, rfl⟩
              have hbk : Hid (blks m shaH (q + 1) = stp st ((m.drop (64 * q)).take 64)) := (show _ = _ from by rw [← hst]; rfl)
              rw [hst] at hle
              have hbl : ((m.drop (64 * q)).take 64).length = 64 := by have := HM9.out; simp; omega
              have hbg : ∀ j, j < 64 → ((m.drop (64 * q)).take 64).getD j 0 = m.getD (64 * q + j) 0 := fun j hj => by
                simp only [List.getD_eq_getElem?_getD]
                rw [List.getElem?_take, if_pos hj, List.getElem?_drop]
              generalize (m.drop (64 * q)).take 64 = bk at *
              have HBG := Lib.hid hbg
              clear hst hbg
              have hLw : OwnW (wr.alloc (.cells #[] 221)) wr.heap.size (some ⟨wr.heap.size, 0, none⟩) 0 [] := Own.lit 1 (Nat.le_refl _)
              have hDa := hD.call (below_new wr (.cells #[] 221))
              obtain ⟨B, hB⟩ : ∃ B, wr.heap.size = B := ⟨_, rfl⟩
              have hBl : B ≤ (wr.alloc (.cells #[] 221)).heap.size := by simp; omega
              have HD := Lib.hid hD
              clear hD
              rename World => wg
              go_upto_region 15 with (fail)
              generalize hWe : wg.alloc (.cells #[] 221) = wg2 at *
              rw [hB] at hLw
              have hEB : ∀ ad, E = some ad → ad.block < B := fun ad hA => by
                have h9 := Sl.lt0 HD.out.b (by have := HM9.out; cases m with | nil => simp at this; omega | cons x r => simp) ad.block (by rw [hA]; rfl)
                rw [hB] at h9
                exact h9
              go_upto_block 6 with (fail)
              refine sumBlk6_any (Q := Q) (q := q) (B := B) m bk _ hDa.b hEB HM9.out hQl.1 hlt HBG.out hLw hBl _ (Lib.hid (fun _ _ _ _ _ h => h)) (Lib.hid ?_)
              clear hLw hEB
              intro gw wc ws wr hws hsw hbw
              have hbgr : Below wg.heap.size wg wr := by rw [hB]; rw [← hWe] at hbw; exact (below_new wg _).trans (by rw [hB]; exact hbw) |> fun h => by rw [hB] at h; exact h
              have hDr := HD.out.call hbgr
              have hwl64 : ws.length = 64 := by rw [hws.out, sch_len]
              obtain ⟨sb, so, rfl, hcs⟩ := SlW.all hDr.s (by omega)
              have c0 := hcs 0 (by omega)
              have c1' := hcs 1 (by omega)
              have c2' := hcs 2 (by omega)
              have c3 := hcs 3 (by omega)
              have c4 := hcs 4 (by omega)
              have c5 := hcs 5 (by omega)
              have c6 := hcs 6 (by omega)
              have c7 := hcs 7 (by omega)
              rw [hle.out] at c0 c1' c2' c3 c4 c5 c6 c7
              simp only [S8.l, List.getD_cons_zero, List.getD_cons_succ, Nat.add_zero] at c0 c1' c2' c3 c4 c5 c6 c7
              have hst2 : Hid (stp st bk = (rnds ws st 64).add st) := (show _ = _ from by unfold stp; rw [hws.out])
              have HDr := Lib.hid hDr
              have HSW := Lib.hid hsw
              have HWL4 := Lib.hid hwl64
              clear hbgr hDr hwl64 hsw hcs hbw hDa hBl HBG
              go_upto_region 24 with (fail)
              go_quiet (fail)
              have hDq := HDr.out.call (below_drewN (Below.refl _ _) nq)
              have hSq := Sl.below HSW.out (below_drewN (Below.refl _ _) nq)
              clear c0 c1' c2' c3 c4 c5 c6 c7 HDr HSW
              generalize World.drewN wr nq = wq at *
              rename World => wq
              go_upto_block 8 with (fail)
              refine sumBlk8_any ks ws st _ hDq.c hSq hks HWL4.out _ (Lib.hid (fun _ _ _ _ _ h => h)) (Lib.hid ?_)
              intro r wr hr hbr
              have hDr := hDq.call hbr
              clear hDq hSq hbr
              obtain ⟨sb', so', e9, hcs⟩ := SlW.all hDr.s (by omega)
              injection e9 with e9
              injection e9 with e9 e8
              subst e9 e8
              have hst0 : (wr.drew.cell? ⟨sb, so, none⟩ = some (wv st.a) ∧ wr.drew.cell? ⟨sb, so + 1, none⟩ = some (wv st.b) ∧ wr.drew.cell? ⟨sb, so + 2, none⟩ = some (wv st.c) ∧ wr.drew.cell? ⟨sb, so + 3, none⟩ = some (wv st.d)) ∧ wr.drew.cell? ⟨sb, so + 4, none⟩ = some (wv st.e) ∧ wr.drew.cell? ⟨sb, so + 5, none⟩ = some (wv st.f) ∧ wr.drew.cell? ⟨sb, so + 6, none⟩ = some (wv st.g) ∧ wr.drew.cell? ⟨sb, so + 7, none⟩ = some (wv st.h) := by
                have c0 := hcs 0 (by omega)
                have c1' := hcs 1 (by omega)
                have c2' := hcs 2 (by omega)
                have c3 := hcs 3 (by omega)
                have c4 := hcs 4 (by omega)
                have c5 := hcs 5 (by omega)
                have c6 := hcs 6 (by omega)
                have c7 := hcs 7 (by omega)
                rw [hle.out] at c0 c1' c2' c3 c4 c5 c6 c7
                simp only [S8.l, List.getD_cons_zero, List.getD_cons_succ, Nat.add_zero] at c0 c1' c2' c3 c4 c5 c6 c7
                exact ⟨⟨c0, c1', c2', c3⟩, c4, c5, c6, c7⟩
              have HDr := Lib.hid hDr
              have HS0 := Lib.hid hst0
              have hl2 : Hid ([st.a + r.a, st.b + r.b, st.c + r.c, st.d + r.d, st.e + r.e, st.f + r.f, st.g + r.g, st.h + r.h] = (blks m shaH (q + 1)).l) := (show _ = _ from by
                rw [hbk.out, hst2.out, ← hr.out]
                simp only [S8.add, S8.l, BitVec.add_comm])
              clear hDr hcs hr hst0
              go_upto_region 38 with (fail)
              have hst0 := HS0.out
              refine wp_region_seq (S := (fun W => (W.cell? ⟨sb, so, none⟩ = some (wv st.a) ∧ W.cell? ⟨sb, so + 1, none⟩ = some (wv st.b) ∧ W.cell? ⟨sb, so + 2, none⟩ = some (wv st.c) ∧ W.cell? ⟨sb, so + 3, none⟩ = some (wv st.d)) ∧ W.cell? ⟨sb, so + 4, none⟩ = some (wv st.e) ∧ W.cell? ⟨sb, so + 5, none⟩ = some (wv st.f) ∧ W.cell? ⟨sb, so + 6, none⟩ = some (wv st.g) ∧ W.cell? ⟨sb, so + 7, none⟩ = some (wv st.h))) [(0, true), (1, true), (2, true), (3, true), (4, true), (5, true), (6, true), (7, true), (8, true), (9, true), (10, true), (11, true), (12, true), (13, true), (14, true), (15, true), (16, true), (17, true), (18, true), (19, true), (20, true), (21, true), (22, true), (23, true), (24, true), (25, true), (26, true), (27, true), (28, true), (29, true), (30, true), (31, true), (32, true), (33, true), (34, true), (35, true), (36, true), (37, true), (38, true), (39, true), (40, false), (41, true)] (by kernel_rfl) (by kernel_rfl) (fun _ _ _ _ _ h => h) ?_ (fun hHeld => ?_)
              · first | with_reducible exact hst0 | with_reducible exact hHeld | exact ⟨⟨cell_allocW hHeld.1.1 _, cell_allocW hHeld.1.2.1 _, cell_allocW hHeld.1.2.2.1 _, cell_allocW hHeld.1.2.2.2 _⟩, cell_allocW hHeld.2.1 _, cell_allocW hHeld.2.2.1 _, cell_allocW hHeld.2.2.2.1 _, cell_allocW hHeld.2.2.2.2 _⟩
              refine seq_take (oi := ⟨some 243, _, _, _, _, _⟩) (v := ?_) rfl (Or.inl ⟨by kernel_rfl, ?_⟩) (by assumption) ?_
              rotate_left
              · (intro wS hSw; (try dsimp only at hSw); have q1 := add_wn; obtain ⟨⟨d0, d1, d2, d3⟩, d4, d5, d6, d7⟩ := hSw; refine execV (fun rho hk1 hk2 hk3 hk => ?_); have e10_ := (hk 10).trans (evalP (fg8 (fg1 (fg1 fg0)))); clear hk; go_simp; (try with_reducible rfl))
              (first | (with_reducible refine wpSeq_put ?_; go_big_move) | (try simp only [Act.put, List.setIfInBounds_toArray, List.set_cons_zero, List.set_cons_succ]))
              refine seq_take (oi := ⟨some 244, _, _, _, _, _⟩) (v := ?_) rfl (Or.inl ⟨by kernel_rfl, ?_⟩) (by assumption) ?_
              rotate_left
              · (intro wS hSw; (try dsimp only at hSw); have q1 := add_wn; obtain ⟨⟨d0, d1, d2, d3⟩, d4, d5, d6, d7⟩ := hSw; refine execV (fun rho hk1 hk2 hk3 hk => ?_); have e243_ := (hk 243).trans (evalP (fg64 (fg64 (fg64 (fg8 (fg8 (fg8 (fg8 (fg8 (fg8 (fg1 (fg1 (fg1 fg0))))))))))))); clear hk; go_simp; (try with_reducible rfl))
              (first | (with_reducible refine wpSeq_put ?_; go_big_move) | (try simp only [Act.put, List.setIfInBounds_toArray, List.set_cons_zero, List.set_cons_succ]))
              refine seq_take (oi := ⟨some 245, _, _, _, _, _⟩) (v := ?_) rfl (Or.inl ⟨by kernel_rfl, ?_⟩) (by assumption) ?_
              rotate_left
              · (intro wS hSw; (try dsimp only at hSw); have q1 := add_wn; obtain ⟨⟨d0, d1, d2, d3⟩, d4, d5, d6, d7⟩ := hSw; refine execV (fun rho hk1 hk2 hk3 hk => ?_); have e244_ := (hk 244).trans (evalP (fg64 (fg64 (fg64 (fg8 (fg8 (fg8 (fg8 (fg8 (fg8 (fg1 (fg1 (fg1 (fg1 fg0)))))))))))))); clear hk; go_simp; (try with_reducible rfl))
              (first | (with_reducible refine wpSeq_put ?_; go_big_move) | (try simp only [Act.put, List.setIfInBounds_toArray, List.set_cons_zero, List.set_cons_succ]))
              refine seq_take (oi := ⟨some 246, _, _, _, _, _⟩) (v := ?_) rfl (Or.inl ⟨by kernel_rfl, ?_⟩) (by assumption) ?_
              rotate_left
              · (intro wS hSw; (try dsimp only at hSw); have q1 := add_wn; obtain ⟨⟨d0, d1, d2, d3⟩, d4, d5, d6, d7⟩ := hSw; refine execV (fun rho hk1 hk2 hk3 hk => ?_); have e17_ := (hk 17).trans (evalP (fg8 (fg8 (fg1 fg0)))); clear hk; go_simp; (try with_reducible rfl))
              (first | (with_reducible refine wpSeq_put ?_; go_big_move) | (try simp only [Act.put, List.setIfInBounds_toArray, List.set_cons_zero, List.set_cons_succ]))
              refine seq_take (oi := ⟨some 247, _, _, _, _, _⟩) (v := ?_) rfl (Or.inl ⟨by kernel_rfl, ?_⟩) (by assumption) ?_
              rotate_left
              · (intro wS hSw; (try dsimp only at hSw); have q1 := add_wn; obtain ⟨⟨d0, d1, d2, d3⟩, d4, d5, d6, d7⟩ := hSw; refine execV (fun rho hk1 hk2 hk3 hk => ?_); have e245_ := (hk 245).trans (evalP (fg64 (fg64 (fg64 (fg8 (fg8 (fg8 (fg8 (fg8 (fg8 (fg1 (fg1 (fg1 (fg1 (fg1 fg0))))))))))))))); have e246_ := (hk 246).trans (evalP (fg64 (fg64 (fg64 (fg8 (fg8 (fg8 (fg8 (fg8 (fg8 (fg1 (fg1 (fg1 (fg1 (fg1 (fg1 fg0)))))))))))))))); clear hk; go_simp; (try with_reducible rfl))
              (first | (with_reducible refine wpSeq_put ?_; go_big_move) | (try simp only [Act.put, List.setIfInBounds_toArray, List.set_cons_zero, List.set_cons_succ]))
              refine seq_take (oi := ⟨some 248, _, _, _, _, _⟩) (v := ?_) rfl (Or.inl ⟨by kernel_rfl, ?_⟩) (by assumption) ?_
              rotate_left
              · (intro wS hSw; (try dsimp only at hSw); have q1 := add_wn; obtain ⟨⟨d0, d1, d2, d3⟩, d4, d5, d6, d7⟩ := hSw; refine execV (fun rho hk1 hk2 hk3 hk => ?_); have e10_ := (hk 10).trans (evalP (fg8 (fg1 (fg1 fg0)))); clear hk; go_simp; (try with_reducible rfl))
              (first | (with_reducible refine wpSeq_put ?_; go_big_move) | (try simp only [Act.put, List.setIfInBounds_toArray, List.set_cons_zero, List.set_cons_succ]))
              refine seq_take (oi := ⟨some 249, _, _, _, _, _⟩) (v := ?_) rfl (Or.inl ⟨by kernel_rfl, ?_⟩) (by assumption) ?_
              rotate_left
              · (intro wS hSw; (try dsimp only at hSw); have q1 := add_wn; obtain ⟨⟨d0, d1, d2, d3⟩, d4, d5, d6, d7⟩ := hSw; refine execV (fun rho hk1 hk2 hk3 hk => ?_); have e248_ := (hk 248).trans (evalP (fg64 (fg64 (fg64 (fg8 (fg8 (fg8 (fg8 (fg8 (fg8 (fg8 fg0))))))))))); clear hk; go_simp; (try with_reducible rfl))
              (first | (with_reducible refine wpSeq_put ?_; go_big_move) | (try simp only [Act.put, List.setIfInBounds_toArray, List.set_cons_zero, List.set_cons_succ]))
              refine seq_take (oi := ⟨some 250, _, _, _, _, _⟩) (v := ?_) rfl (Or.inl ⟨by kernel_rfl, ?_⟩) (by assumption) ?_
              rotate_left
              · (intro wS hSw; (try dsimp only at hSw); have q1 := add_wn; obtain ⟨⟨d0, d1, d2, d3⟩, d4, d5, d6, d7⟩ := hSw; refine execV (fun rho hk1 hk2 hk3 hk => ?_); have e249_ := (hk 249).trans (evalP (fg64 (fg64 (fg64 (fg8 (fg8 (fg8 (fg8 (fg8 (fg8 (fg8 (fg1 fg0)))))))))))); clear hk; go_simp; (try with_reducible rfl))
              (first | (with_reducible refine wpSeq_put ?_; go_big_move) | (try simp only [Act.put, List.setIfInBounds_toArray, List.set_cons_zero, List.set_cons_succ]))
              refine seq_take (oi := ⟨some 251, _, _, _, _, _⟩) (v := ?_) rfl (Or.inl ⟨by kernel_rfl, ?_⟩) (by assumption) ?_
              rotate_left
              · (intro wS hSw; (try dsimp only at hSw); have q1 := add_wn; obtain ⟨⟨d0, d1, d2, d3⟩, d4, d5, d6, d7⟩ := hSw; refine execV (fun rho hk1 hk2 hk3 hk => ?_); have e18_ := (hk 18).trans (evalP (fg8 (fg8 (fg1 (fg1 fg0))))); clear hk; go_simp; (try with_reducible rfl))
              (first | (with_reducible refine wpSeq_put ?_; go_big_move) | (try simp only [Act.put, List.setIfInBounds_toArray, List.set_cons_zero, List.set_cons_succ]))
              refine seq_take (oi := ⟨some 252, _, _, _, _, _⟩) (v := ?_) rfl (Or.inl ⟨by kernel_rfl, ?_⟩) (by assumption) ?_
              rotate_left
              · (intro wS hSw; (try dsimp only at hSw); have q1 := add_wn; obtain ⟨⟨d0, d1, d2, d3⟩, d4, d5, d6, d7⟩ := hSw; refine execV (fun rho hk1 hk2 hk3 hk => ?_); have e250_ := (hk 250).trans (evalP (fg64 (fg64 (fg64 (fg8 (fg8 (fg8 (fg8 (fg8 (fg8 (fg8 (fg1 (fg1 fg0))))))))))))); have e251_ := (hk 251).trans (evalP (fg64 (fg64 (fg64 (fg8 (fg8 (fg8 (fg8 (fg8 (fg8 (fg8 (fg1 (fg1 (fg1 fg0)))))))))))))); clear hk; go_simp; (try with_reducible rfl))
              (first | (with_reducible refine wpSeq_put ?_; go_big_move) | (try simp only [Act.put, List.setIfInBounds_toArray, List.set_cons_zero, List.set_cons_succ]))
              refine seq_take (oi := ⟨some 253, _, _, _, _, _⟩) (v := ?_) rfl (Or.inl ⟨by kernel_rfl, ?_⟩) (by assumption) ?_
              rotate_left
              · (intro wS hSw; (try dsimp only at hSw); have q1 := add_wn; obtain ⟨⟨d0, d1, d2, d3⟩, d4, d5, d6, d7⟩ := hSw; refine execV (fun rho hk1 hk2 hk3 hk => ?_); have e10_ := (hk 10).trans (evalP (fg8 (fg1 (fg1 fg0)))); clear hk; go_simp; (try with_reducible rfl))
              (first | (with_reducible refine wpSeq_put ?_; go_big_move) | (try simp only [Act.put, List.setIfInBounds_toArray, List.set_cons_zero, List.set_cons_succ]))
              refine seq_take (oi := ⟨some 254, _, _, _, _, _⟩) (v := ?_) rfl (Or.inl ⟨by kernel_rfl, ?_⟩) (by assumption) ?_
              rotate_left
              · (intro wS hSw; (try dsimp only at hSw); have q1 := add_wn; obtain ⟨⟨d0, d1, d2, d3⟩, d4, d5, d6, d7⟩ := hSw; refine execV (fun rho hk1 hk2 hk3 hk => ?_); have e253_ := (hk 253).trans (evalP (fg64 (fg64 (fg64 (fg8 (fg8 (fg8 (fg8 (fg8 (fg8 (fg8 (fg1 (fg1 (fg1 (fg1 (fg1 fg0)))))))))))))))); clear hk; go_simp; (try with_reducible rfl))
              (first | (with_reducible refine wpSeq_put ?_; go_big_move) | (try simp only [Act.put, List.setIfInBounds_toArray, List.set_cons_zero, List.set_cons_succ]))
              refine seq_take (oi := ⟨some 255, _, _, _, _, _⟩) (v := ?_) rfl (Or.inl ⟨by kernel_rfl, ?_⟩) (by assumption) ?_
              rotate_left
              · (intro wS hSw; (try dsimp only at hSw); have q1 := add_wn; obtain ⟨⟨d0, d1, d2, d3⟩, d4, d5, d6, d7⟩ := hSw; refine execV (fun rho hk1 hk2 hk3 hk => ?_); have e254_ := (hk 254).trans (evalP (fg64 (fg64 (fg64 (fg8 (fg8 (fg8 (fg8 (fg8 (fg8 (fg8 (fg1 (fg1 (fg1 (fg1 (fg1 (fg1 fg0))))))))))))))))); clear hk; go_simp; (try with_reducible rfl))
              (first | (with_reducible refine wpSeq_put ?_; go_big_move) | (try simp only [Act.put, List.setIfInBounds_toArray, List.set_cons_zero, List.set_cons_succ]))
              refine seq_take (oi := ⟨some 256, _, _, _, _, _⟩) (v := ?_) rfl (Or.inl ⟨by kernel_rfl, ?_⟩) (by assumption) ?_
              rotate_left
              · (intro wS hSw; (try dsimp only at hSw); have q1 := add_wn; obtain ⟨⟨d0, d1, d2, d3⟩, d4, d5, d6, d7⟩ := hSw; refine execV (fun rho hk1 hk2 hk3 hk => ?_); have e19_ := (hk 19).trans (evalP (fg8 (fg8 (fg1 (fg1 (fg1 fg0)))))); clear hk; go_simp; (try with_reducible rfl))
              (first | (with_reducible refine wpSeq_put ?_; go_big_move) | (try simp only [Act.put, List.setIfInBounds_toArray, List.set_cons_zero, List.set_cons_succ]))
              refine seq_take (oi := ⟨some 257, _, _, _, _, _⟩) (v := ?_) rfl (Or.inl ⟨by kernel_rfl, ?_⟩) (by assumption) ?_
              rotate_left
              · (intro wS hSw; (try dsimp only at hSw); have q1 := add_wn; obtain ⟨⟨d0, d1, d2, d3⟩, d4, d5, d6, d7⟩ := hSw; refine execV (fun rho hk1 hk2 hk3 hk => ?_); have e255_ := (hk 255).trans (evalP (fg64 (fg64 (fg64 (fg8 (fg8 (fg8 (fg8 (fg8 (fg8 (fg8 (fg1 (fg1 (fg1 (fg1 (fg1 (fg1 (fg1 fg0)))))))))))))))))); have e256_ := (hk 256).trans (evalP (fg64 (fg64 (fg64 (fg64 fg0))))); clear hk; go_simp; (try with_reducible rfl))
              (first | (with_reducible refine wpSeq_put ?_; go_big_move) | (try simp only [Act.put, List.setIfInBounds_toArray, List.set_cons_zero, List.set_cons_succ]))
              refine seq_take (oi := ⟨some 258, _, _, _, _, _⟩) (v := ?_) rfl (Or.inl ⟨by kernel_rfl, ?_⟩) (by assumption) ?_
              rotate_left
              · (intro wS hSw; (try dsimp only at hSw); have q1 := add_wn; obtain ⟨⟨d0, d1, d2, d3⟩, d4, d5, d6, d7⟩ := hSw; refine execV (fun rho hk1 hk2 hk3 hk => ?_); have e10_ := (hk 10).trans (evalP (fg8 (fg1 (fg1 fg0)))); clear hk; go_simp; (try with_reducible rfl))
              (first | (with_reducible refine wpSeq_put ?_; go_big_move) | (try simp only [Act.put, List.setIfInBounds_toArray, List.set_cons_zero, List.set_cons_succ]))
              refine seq_take (oi := ⟨some 259, _, _, _, _, _⟩) (v := ?_) rfl (Or.inl ⟨by kernel_rfl, ?_⟩) (by assumption) ?_
              rotate_left
              · (intro wS hSw; (try dsimp only at hSw); have q1 := add_wn; obtain ⟨⟨d0, d1, d2, d3⟩, d4, d5, d6, d7⟩ := hSw; refine execV (fun rho hk1 hk2 hk3 hk => ?_); have e258_ := (hk 258).trans (evalP (fg64 (fg64 (fg64 (fg64 (fg1 (fg1 fg0))))))); clear hk; go_simp; (try with_reducible rfl))
              (first | (with_reducible refine wpSeq_put ?_; go_big_move) | (try simp only [Act.put, List.setIfInBounds_toArray, List.set_cons_zero, List.set_cons_succ]))
              refine seq_take (oi := ⟨some 260, _, _, _, _, _⟩) (v := ?_) rfl (Or.inl ⟨by kernel_rfl, ?_⟩) (by assumption) ?_
              rotate_left
              · (intro wS hSw; (try dsimp only at hSw); have q1 := add_wn; obtain ⟨⟨d0, d1, d2, d3⟩, d4, d5, d6, d7⟩ := hSw; refine execV (fun rho hk1 hk2 hk3 hk => ?_); have e259_ := (hk 259).trans (evalP (fg64 (fg64 (fg64 (fg64 (fg1 (fg1 (fg1 fg0)))))))); clear hk; go_simp; (try with_reducible rfl))
              (first | (with_reducible refine wpSeq_put ?_; go_big_move) | (try simp only [Act.put, List.setIfInBounds_toArray, List.set_cons_zero, List.set_cons_succ]))
              refine seq_take (oi := ⟨some 261, _, _, _, _, _⟩) (v := ?_) rfl (Or.inl ⟨by kernel_rfl, ?_⟩) (by assumption) ?_
              rotate_left
              · (intro wS hSw; (try dsimp only at hSw); have q1 := add_wn; obtain ⟨⟨d0, d1, d2, d3⟩, d4, d5, d6, d7⟩ := hSw; refine execV (fun rho hk1 hk2 hk3 hk => ?_); have e20_ := (hk 20).trans (evalP (fg8 (fg8 (fg1 (fg1 (fg1 (fg1 fg0))))))); clear hk; go_simp; (try with_reducible rfl))
              (first | (with_reducible refine wpSeq_put ?_; go_big_move) | (try simp only [Act.put, List.setIfInBounds_toArray, List.set_cons_zero, List.set_cons_succ]))
              refine seq_take (oi := ⟨some 262, _, _, _, _, _⟩) (v := ?_) rfl (Or.inl ⟨by kernel_rfl, ?_⟩) (by assumption) ?_
              rotate_left
              · (intro wS hSw; (try dsimp only at hSw); have q1 := add_wn; obtain ⟨⟨d0, d1, d2, d3⟩, d4, d5, d6, d7⟩ := hSw; refine execV (fun rho hk1 hk2 hk3 hk => ?_); have e260_ := (hk 260).trans (evalP (fg64 (fg64 (fg64 (fg64 (fg1 (fg1 (fg1 (fg1 fg0))))))))); have e261_ := (hk 261).trans (evalP (fg64 (fg64 (fg64 (fg64 (fg1 (fg1 (fg1 (fg1 (fg1 fg0)))))))))); clear hk; go_simp; (try with_reducible rfl))
              (first | (with_reducible refine wpSeq_put ?_; go_big_move) | (try simp only [Act.put, List.setIfInBounds_toArray, List.set_cons_zero, List.set_cons_succ]))
              refine seq_take (oi := ⟨some 263, _, _, _, _, _⟩) (v := ?_) rfl (Or.inl ⟨by kernel_rfl, ?_⟩) (by assumption) ?_
              rotate_left
              · (intro wS hSw; (try dsimp only at hSw); have q1 := add_wn; obtain ⟨⟨d0, d1, d2, d3⟩, d4, d5, d6, d7⟩ := hSw; refine execV (fun rho hk1 hk2 hk3 hk => ?_); have e10_ := (hk 10).trans (evalP (fg8 (fg1 (fg1 fg0)))); clear hk; go_simp; (try with_reducible rfl))
              (first | (with_reducible refine wpSeq_put ?_; go_big_move) | (try simp only [Act.put, List.setIfInBounds_toArray, List.set_cons_zero, List.set_cons_succ]))
              refine seq_take (oi := ⟨some 264, _, _, _, _, _⟩) (v := ?_) rfl (Or.inl ⟨by kernel_rfl, ?_⟩) (by assumption) ?_
              rotate_left
              · (intro wS hSw; (try dsimp only at hSw); have q1 := add_wn; obtain ⟨⟨d0, d1, d2, d3⟩, d4, d5, d6, d7⟩ := hSw; refine execV (fun rho hk1 hk2 hk3 hk => ?_); have e263_ := (hk 263).trans (evalP (fg64 (fg64 (fg64 (fg64 (fg1 (fg1 (fg1 (fg1 (fg1 (fg1 (fg1 fg0)))))))))))); clear hk; go_simp; (try with_reducible rfl))
              (first | (with_reducible refine wpSeq_put ?_; go_big_move) | (try simp only [Act.put, List.setIfInBounds_toArray, List.set_cons_zero, List.set_cons_succ]))
              refine seq_take (oi := ⟨some 265, _, _, _, _, _⟩) (v := ?_) rfl (Or.inl ⟨by kernel_rfl, ?_⟩) (by assumption) ?_
              rotate_left
              · (intro wS hSw; (try dsimp only at hSw); have q1 := add_wn; obtain ⟨⟨d0, d1, d2, d3⟩, d4, d5, d6, d7⟩ := hSw; refine execV (fun rho hk1 hk2 hk3 hk => ?_); have e264_ := (hk 264).trans (evalP (fg64 (fg64 (fg64 (fg64 (fg8 fg0)))))); clear hk; go_simp; (try with_reducible rfl))
              (first | (with_reducible refine wpSeq_put ?_; go_big_move) | (try simp only [Act.put, List.setIfInBounds_toArray, List.set_cons_zero, List.set_cons_succ]))
              refine seq_take (oi := ⟨some 266, _, _, _, _, _⟩) (v := ?_) rfl (Or.inl ⟨by kernel_rfl, ?_⟩) (by assumption) ?_
              rotate_left
              · (intro wS hSw; (try dsimp only at hSw); have q1 := add_wn; obtain ⟨⟨d0, d1, d2, d3⟩, d4, d5, d6, d7⟩ := hSw; refine execV (fun rho hk1 hk2 hk3 hk => ?_); have e21_ := (hk 21).trans (evalP (fg8 (fg8 (fg1 (fg1 (fg1 (fg1 (fg1 fg0)))))))); clear hk; go_simp; (try with_reducible rfl))
              (first | (with_reducible refine wpSeq_put ?_; go_big_move) | (try simp only [Act.put, List.setIfInBounds_toArray, List.set_cons_zero, List.set_cons_succ]))
              refine seq_take (oi := ⟨some 267, _, _, _, _, _⟩) (v := ?_) rfl (Or.inl ⟨by kernel_rfl, ?_⟩) (by assumption) ?_
              rotate_left
              · (intro wS hSw; (try dsimp only at hSw); have q1 := add_wn; obtain ⟨⟨d0, d1, d2, d3⟩, d4, d5, d6, d7⟩ := hSw; refine execV (fun rho hk1 hk2 hk3 hk => ?_); have e265_ := (hk 265).trans (evalP (fg64 (fg64 (fg64 (fg64 (fg8 (fg1 fg0))))))); have e266_ := (hk 266).trans (evalP (fg64 (fg64 (fg64 (fg64 (fg8 (fg1 (fg1 fg0)))))))); clear hk; go_simp; (try with_reducible rfl))
              (first | (with_reducible refine wpSeq_put ?_; go_big_move) | (try simp only [Act.put, List.setIfInBounds_toArray, List.set_cons_zero, List.set_cons_succ]))
              refine seq_take (oi := ⟨some 268, _, _, _, _, _⟩) (v := ?_) rfl (Or.inl ⟨by kernel_rfl, ?_⟩) (by assumption) ?_
              rotate_left
              · (intro wS hSw; (try dsimp only at hSw); have q1 := add_wn; obtain ⟨⟨d0, d1, d2, d3⟩, d4, d5, d6, d7⟩ := hSw; refine execV (fun rho hk1 hk2 hk3 hk => ?_); have e10_ := (hk 10).trans (evalP (fg8 (fg1 (fg1 fg0)))); clear hk; go_simp; (try with_reducible rfl))
              (first | (with_reducible refine wpSeq_put ?_; go_big_move) | (try simp only [Act.put, List.setIfInBounds_toArray, List.set_cons_zero, List.set_cons_succ]))
              refine seq_take (oi := ⟨some 269, _, _, _, _, _⟩) (v := ?_) rfl (Or.inl ⟨by kernel_rfl, ?_⟩) (by assumption) ?_
              rotate_left
              · (intro wS hSw; (try dsimp only at hSw); have q1 := add_wn; obtain ⟨⟨d0, d1, d2, d3⟩, d4, d5, d6, d7⟩ := hSw; refine execV (fun rho hk1 hk2 hk3 hk => ?_); have e268_ := (hk 268).trans (evalP (fg64 (fg64 (fg64 (fg64 (fg8 (fg1 (fg1 (fg1 (fg1 fg0)))))))))); clear hk; go_simp; (try with_reducible rfl))
              (first | (with_reducible refine wpSeq_put ?_; go_big_move) | (try simp only [Act.put, List.setIfInBounds_toArray, List.set_cons_zero, List.set_cons_succ]))
              refine seq_take (oi := ⟨some 270, _, _, _, _, _⟩) (v := ?_) rfl (Or.inl ⟨by kernel_rfl, ?_⟩) (by assumption) ?_
              rotate_left
              · (intro wS hSw; (try dsimp only at hSw); have q1 := add_wn; obtain ⟨⟨d0, d1, d2, d3⟩, d4, d5, d6, d7⟩ := hSw; refine execV (fun rho hk1 hk2 hk3 hk => ?_); have e269_ := (hk 269).trans (evalP (fg64 (fg64 (fg64 (fg64 (fg8 (fg1 (fg1 (fg1 (fg1 (fg1 fg0))))))))))); clear hk; go_simp; (try with_reducible rfl))
              (first | (with_reducible refine wpSeq_put ?_; go_big_move) | (try simp only [Act.put, List.setIfInBounds_toArray, List.set_cons_zero, List.set_cons_succ]))
              refine seq_take (oi := ⟨some 271, _, _, _, _, _⟩) (v := ?_) rfl (Or.inl ⟨by kernel_rfl, ?_⟩) (by assumption) ?_
              rotate_left
              · (intro wS hSw; (try dsimp only at hSw); have q1 := add_wn; obtain ⟨⟨d0, d1, d2, d3⟩, d4, d5, d6, d7⟩ := hSw; refine execV (fun rho hk1 hk2 hk3 hk => ?_); have e22_ := (hk 22).trans (evalP (fg8 (fg8 (fg1 (fg1 (fg1 (fg1 (fg1 (fg1 fg0))))))))); clear hk; go_simp; (try with_reducible rfl))
              (first | (with_reducible refine wpSeq_put ?_; go_big_move) | (try simp only [Act.put, List.setIfInBounds_toArray, List.set_cons_zero, List.set_cons_succ]))
              refine seq_take (oi := ⟨some 272, _, _, _, _, _⟩) (v := ?_) rfl (Or.inl ⟨by kernel_rfl, ?_⟩) (by assumption) ?_
              rotate_left
              · (intro wS hSw; (try dsimp only at hSw); have q1 := add_wn; obtain ⟨⟨d0, d1, d2, d3⟩, d4, d5, d6, d7⟩ := hSw; refine execV (fun rho hk1 hk2 hk3 hk => ?_); have e270_ := (hk 270).trans (evalP (fg64 (fg64 (fg64 (fg64 (fg8 (fg1 (fg1 (fg1 (fg1 (fg1 (fg1 fg0)))))))))))); have e271_ := (hk 271).trans (evalP (fg64 (fg64 (fg64 (fg64 (fg8 (fg1 (fg1 (fg1 (fg1 (fg1 (fg1 (fg1 fg0))))))))))))); clear hk; go_simp; (try with_reducible rfl))
              (first | (with_reducible refine wpSeq_put ?_; go_big_move) | (try simp only [Act.put, List.setIfInBounds_toArray, List.set_cons_zero, List.set_cons_succ]))
              refine seq_take (oi := ⟨some 273, _, _, _, _, _⟩) (v := ?_) rfl (Or.inl ⟨by kernel_rfl, ?_⟩) (by assumption) ?_
              rotate_left
              · (intro wS hSw; (try dsimp only at hSw); have q1 := add_wn; obtain ⟨⟨d0, d1, d2, d3⟩, d4, d5, d6, d7⟩ := hSw; refine execV (fun rho hk1 hk2 hk3 hk => ?_); have e10_ := (hk 10).trans (evalP (fg8 (fg1 (fg1 fg0)))); clear hk; go_simp; (try with_reducible rfl))
              (first | (with_reducible refine wpSeq_put ?_; go_big_move) | (try simp only [Act.put, List.setIfInBounds_toArray, List.set_cons_zero, List.set_cons_succ]))
              refine seq_take (oi := ⟨some 274, _, _, _, _, _⟩) (v := ?_) rfl (Or.inl ⟨by kernel_rfl, ?_⟩) (by assumption) ?_
              rotate_left
              · (intro wS hSw; (try dsimp only at hSw); have q1 := add_wn; obtain ⟨⟨d0, d1, d2, d3⟩, d4, d5, d6, d7⟩ := hSw; refine execV (fun rho hk1 hk2 hk3 hk => ?_); have e273_ := (hk 273).trans (evalP (fg64 (fg64 (fg64 (fg64 (fg8 (fg8 (fg1 fg0)))))))); clear hk; go_simp; (try with_reducible rfl))
              (first | (with_reducible refine wpSeq_put ?_; go_big_move) | (try simp only [Act.put, List.setIfInBounds_toArray, List.set_cons_zero, List.set_cons_succ]))
              refine seq_take (oi := ⟨some 275, _, _, _, _, _⟩) (v := ?_) rfl (Or.inl ⟨by kernel_rfl, ?_⟩) (by assumption) ?_
              rotate_left
              · (intro wS hSw; (try dsimp only at hSw); have q1 := add_wn; obtain ⟨⟨d0, d1, d2, d3⟩, d4, d5, d6, d7⟩ := hSw; refine execV (fun rho hk1 hk2 hk3 hk => ?_); have e274_ := (hk 274).trans (evalP (fg64 (fg64 (fg64 (fg64 (fg8 (fg8 (fg1 (fg1 fg0))))))))); clear hk; go_simp; (try with_reducible rfl))
              (first | (with_reducible refine wpSeq_put ?_; go_big_move) | (try simp only [Act.put, List.setIfInBounds_toArray, List.set_cons_zero, List.set_cons_succ]))
              refine seq_take (oi := ⟨some 276, _, _, _, _, _⟩) (v := ?_) rfl (Or.inl ⟨by kernel_rfl, ?_⟩) (by assumption) ?_
              rotate_left
              · (intro wS hSw; (try dsimp only at hSw); have q1 := add_wn; obtain ⟨⟨d0, d1, d2, d3⟩, d4, d5, d6, d7⟩ := hSw; refine execV (fun rho hk1 hk2 hk3 hk => ?_); have e23_ := (hk 23).trans (evalP (fg8 (fg8 (fg1 (fg1 (fg1 (fg1 (fg1 (fg1 (fg1 fg0)))))))))); clear hk; go_simp; (try with_reducible rfl))
              (first | (with_reducible refine wpSeq_put ?_; go_big_move) | (try simp only [Act.put, List.setIfInBounds_toArray, List.set_cons_zero, List.set_cons_succ]))
              refine seq_take (oi := ⟨some 277, _, _, _, _, _⟩) (v := ?_) rfl (Or.inl ⟨by kernel_rfl, ?_⟩) (by assumption) ?_
              rotate_left
              · (intro wS hSw; (try dsimp only at hSw); have q1 := add_wn; obtain ⟨⟨d0, d1, d2, d3⟩, d4, d5, d6, d7⟩ := hSw; refine execV (fun rho hk1 hk2 hk3 hk => ?_); have e275_ := (hk 275).trans (evalP (fg64 (fg64 (fg64 (fg64 (fg8 (fg8 (fg1 (fg1 (fg1 fg0)))))))))); have e276_ := (hk 276).trans (evalP (fg64 (fg64 (fg64 (fg64 (fg8 (fg8 (fg1 (fg1 (fg1 (fg1 fg0))))))))))); clear hk; go_simp; (try with_reducible rfl))
              (first | (with_reducible refine wpSeq_put ?_; go_big_move) | (try simp only [Act.put, List.setIfInBounds_toArray, List.set_cons_zero, List.set_cons_succ]))
              refine seq_take (oi := ⟨some 278, _, _, _, _, _⟩) (v := ?_) rfl (Or.inl ⟨by kernel_rfl, ?_⟩) (by assumption) ?_
              rotate_left
              · (intro wS hSw; (try dsimp only at hSw); have q1 := add_wn; obtain ⟨⟨d0, d1, d2, d3⟩, d4, d5, d6, d7⟩ := hSw; refine execV (fun rho hk1 hk2 hk3 hk => ?_); have e10_ := (hk 10).trans (evalP (fg8 (fg1 (fg1 fg0)))); clear hk; go_simp; (try with_reducible rfl))
              (first | (with_reducible refine wpSeq_put ?_; go_big_move) | (try simp only [Act.put, List.setIfInBounds_toArray, List.set_cons_zero, List.set_cons_succ]))
              refine seq_take (oi := ⟨some 279, _, _, _, _, _⟩) (v := ?_) rfl (Or.inl ⟨by kernel_rfl, ?_⟩) (by assumption) ?_
              rotate_left
              · (intro wS hSw; (try dsimp only at hSw); have q1 := add_wn; obtain ⟨⟨d0, d1, d2, d3⟩, d4, d5, d6, d7⟩ := hSw; refine execV (fun rho hk1 hk2 hk3 hk => ?_); have e278_ := (hk 278).trans (evalP (fg64 (fg64 (fg64 (fg64 (fg8 (fg8 (fg1 (fg1 (fg1 (fg1 (fg1 (fg1 fg0))))))))))))); clear hk; go_simp; (try with_reducible rfl))
              (first | (with_reducible refine wpSeq_put ?_; go_big_move) | (try simp only [Act.put, List.setIfInBounds_toArray, List.set_cons_zero, List.set_cons_succ]))
              refine seq_take (oi := ⟨some 280, _, _, _, _, _⟩) (v := ?_) rfl (Or.inl ⟨by kernel_rfl, ?_⟩) (by assumption) ?_
              rotate_left
              · (intro wS hSw; (try dsimp only at hSw); have q1 := add_wn; obtain ⟨⟨d0, d1, d2, d3⟩, d4, d5, d6, d7⟩ := hSw; refine execV (fun rho hk1 hk2 hk3 hk => ?_); have e279_ := (hk 279).trans (evalP (fg64 (fg64 (fg64 (fg64 (fg8 (fg8 (fg1 (fg1 (fg1 (fg1 (fg1 (fg1 (fg1 fg0)))))))))))))); clear hk; go_simp; (try with_reducible rfl))
              (first | (with_reducible refine wpSeq_put ?_; go_big_move) | (try simp only [Act.put, List.setIfInBounds_toArray, List.set_cons_zero, List.set_cons_succ]))
              refine seq_take (oi := ⟨some 281, _, _, _, _, _⟩) (v := ?_) rfl (Or.inl ⟨by kernel_rfl, ?_⟩) (by assumption) ?_
              rotate_left
              · (intro wS hSw; (try dsimp only at hSw); have q1 := add_wn; obtain ⟨⟨d0, d1, d2, d3⟩, d4, d5, d6, d7⟩ := hSw; refine execV (fun rho hk1 hk2 hk3 hk => ?_); have e24_ := (hk 24).trans (evalP (fg8 (fg8 (fg8 fg0)))); clear hk; go_simp; (try with_reducible rfl))
              (first | (with_reducible refine wpSeq_put ?_; go_big_move) | (try simp only [Act.put, List.setIfInBounds_toArray, List.set_cons_zero, List.set_cons_succ]))
              refine seq_take (oi := ⟨some 282, _, _, _, _, _⟩) (v := ?_) rfl (Or.inl ⟨by kernel_rfl, ?_⟩) (by assumption) ?_
              rotate_left
              · (intro wS hSw; (try dsimp only at hSw); have q1 := add_wn; obtain ⟨⟨d0, d1, d2, d3⟩, d4, d5, d6, d7⟩ := hSw; refine execV (fun rho hk1 hk2 hk3 hk => ?_); have e280_ := (hk 280).trans (evalP (fg64 (fg64 (fg64 (fg64 (fg8 (fg8 (fg8 fg0)))))))); have e281_ := (hk 281).trans (evalP (fg64 (fg64 (fg64 (fg64 (fg8 (fg8 (fg8 (fg1 fg0))))))))); clear hk; go_simp; (try with_reducible rfl))
              (first | (with_reducible refine wpSeq_put ?_; go_big_move) | (try simp only [Act.put, List.setIfInBounds_toArray, List.set_cons_zero, List.set_cons_succ]))
              refine seq_step (o := ⟨some 283, _, _, _, _, _⟩) rfl (fun K hK => ?_)
              with_reducible refine wantedP (by kernel_rfl) ?_
              (first | go_big_op | go_simp)
              refine hK.out _ _ ?_ (fun hHeld => ?_)
              · ((try dsimp only); (first | with_reducible exact hst0 | with_reducible exact hHeld | exact ⟨⟨cell_allocW hHeld.1.1 _, cell_allocW hHeld.1.2.1 _, cell_allocW hHeld.1.2.2.1 _, cell_allocW hHeld.1.2.2.2 _⟩, cell_allocW hHeld.2.1 _, cell_allocW hHeld.2.2.1 _, cell_allocW hHeld.2.2.2.1 _, cell_allocW hHeld.2.2.2.2 _⟩))
              clear hK K
              (first | (with_reducible refine wpSeq_put ?_; go_big_move) | (try simp only [Act.put, List.setIfInBounds_toArray, List.set_cons_zero, List.set_cons_succ]))
              refine seq_take (oi := ⟨some 10, _, _, _, _, _⟩) (v := ?_) rfl (Or.inl ⟨by kernel_rfl, ?_⟩) (by assumption) ?_
              rotate_left
              · (intro wS hSw; (try dsimp only at hSw); have q1 := add_wn; obtain ⟨⟨d0, d1, d2, d3⟩, d4, d5, d6, d7⟩ := hSw; refine execV (fun rho hk1 hk2 hk3 hk => ?_); have e283_ := (hk 283).trans (evalP (fg64 (fg64 (fg64 (fg64 (fg8 (fg8 (fg8 (fg1 (fg1 (fg1 fg0))))))))))); clear hk; go_simp; (try with_reducible rfl))
              (first | (with_reducible refine wpSeq_put ?_; go_big_move) | (try simp only [Act.put, List.setIfInBounds_toArray, List.set_cons_zero, List.set_cons_succ]))
              refine seq_done ?_
              clear hst0 hHeld HS0
              have hw13 : IntKind.i64.wrap (64 * (q : Int) + 64) = 64 * (q : Int) + 64 := by rw [IntKind.wrap_i64]; omega
              have hb38 : Below wr.heap.size wr ((wr.alloc (.cells #[wv (st.a + r.a), wv (st.b + r.b), wv (st.c + r.c), wv (st.d + r.d), wv (st.e + r.e), wv (st.f + r.f), wv (st.g + r.g), wv (st.h + r.h)] 221)).drew) := (below_new wr _).drew
              have hs38 : SlW ((wr.alloc (.cells #[wv (st.a + r.a), wv (st.b + r.b), wv (st.c + r.c), wv (st.d + r.d), wv (st.e + r.e), wv (st.f + r.f), wv (st.g + r.g), wv (st.h + r.h)] 221)).drew) (some ⟨wr.heap.size, 0, none⟩) 8 [st.a + r.a, st.b + r.b, st.c + r.c, st.d + r.d, st.e + r.e, st.f + r.f, st.g + r.g, st.h + r.h] := Sl.below (Sl.lits wr (wvs [st.a + r.a, st.b + r.b, st.c + r.c, st.d + r.d, st.e + r.e, st.f + r.f, st.g + r.g, st.h + r.h]) 221 (by simp [maxLen])) (Below.drew (Below.refl _ _))
              have hD38 := HDr.out.call hb38
              have HE := Lib.hid (show DsI w _ C E (some ⟨wr.heap.size, 0, none⟩) cc d 8 ks m [st.a + r.a, st.b + r.b, st.c + r.c, st.d + r.d, st.e + r.e, st.f + r.f, st.g + r.g, st.h + r.h] from ⟨hD38.mm, hD38.c, hD38.b, hs38⟩)
              clear hb38 hs38 hD38 HDr
              go_wp2_with fail
              refine ⟨⟨q + 1, some ⟨wr.heap.size, 0, none⟩, 8, _, by omega, congrArg (Value.int .i64) (by omega), rfl, rfl, hl2, HE.out⟩, by simp [intOf]; omega⟩
            · obtain rfl : q = Q := by omega
              obtain ⟨st, hst⟩ : ∃ st, blks m shaH q = st := ⟨_, rfl⟩
              have hQd : Hid (shaD t = st.dg) := (show _ = _ from by rw [HQ.out, hst])
              rw [hst] at hle
              have hdl : (st.l.flatMap four).length = 32 := by simp [S8.l, four]
              have hfull := Lib.hid (show dgk (st.l.flatMap four) 32 = dga (shaD t) from by rw [dgk_full _ hdl, hQd.out]; rfl)
              have hsize := fun k hk => Lib.hid (dgk_size (st.l.flatMap four) k hk hdl)
              have hset := fun k hk => Lib.hid (dgk_set (st.l.flatMap four) k hk hdl)
              have hbyte := Lib.hid (fun (i a b : Nat) (h : i = 4 * a + b) (ha : a < 8) (hb : b < 4) => four_byte st h ha hb)
              have hMx := hD.mm.alloc (dgk (st.l.flatMap four) 0) 42
              have hSx : SlW (wr.alloc (.cells (dgk (st.l.flatMap four) 0) 42)) S sd l := Sl.below hD.s (below_new wr _)
              have hSlt : ∀ ad, S = some ad → ad.block < wr.heap.size := fun ad hA => Sl.lt0 hD.s (by rw [hle.out]; simp [S8.l]) ad.block (by rw [hA]; rfl)
              have hz0 := Lib.hid (dgk_zero (st.l.flatMap four))
              have hds := fun d => Lib.hid (dga_size d)
              have hda := fun d => Lib.hid (dga_all d)
              have HLE := Lib.hid (show l = st.l from hle.out)
              have HDL := Lib.hid hdl
              generalize st.l.flatMap four = L at *
              rw [hz0.out] at hMx hSx
              rename World => wz
              clear hD hle hst hQd HQ
              go_upto_region 40 with (first | (refine wpl_buildDz (by kernel_rfl) rfl ?_) | (refine wpl_storeN rfl 42 _ _ rfl _ (dga dg0) 42 rfl rfl (by rw [(hds dg0).out]; kernel_rfl) (by rw [(hds dg0).out]; rfl) (hda dg0).out ?_))
              refine gen1 (T := fun W => Mm w W [(wz.heap.size, 42, dga dg0), (w.heap.size, 42, dga dg0)] [] ∧ SlW W S sd l) ⟨hMx, hSx⟩ (fun w4 hT => ?_)
              clear hMx hSx
              obtain ⟨hM4, hS4⟩ := hT
              rw [← hz0.out] at hM4
              have hl8' : l.length = 8 := by rw [HLE.out]; rfl
              go_wp2_with fail
              go_loopw [29] (fun x wr => ∃ i : Nat, i ≤ 32 ∧ x = .int .i64 i ∧ Mm w wr [(wz.heap.size, 42, dgk L i), (w.heap.size, 42, dga dg0)] [] ∧ SlW wr S sd l) (fun x _ => 32 - (intOf x).toNat)
              case atStart => exact ⟨0, by omega, rfl, hM4, hS4⟩
              case round =>
                clear hM4 hS4
                obtain ⟨i, hi, rfl, hM4, hS4⟩ := hrel
                rcases Nat.lt_or_ge i 32 with hlt | hge
                · obtain ⟨a, b, hab, ha, hb⟩ : ∃ a b, i = 4 * a + b ∧ a < 8 ∧ b < 4 := ⟨i / 4, i % 4, by omega, by omega, by omega⟩
                  obtain ⟨gs, os, rfl, hcs⟩ := SlW.at hS4 (k := a) (by omega)
                  have hby := hbyte.out i a b hab ha hb
                  rw [← HLE.out] at hby
                  obtain ⟨s, hs⟩ : ∃ s, 24 - 8 * b = s := ⟨_, rfl⟩
                  rw [hs] at hby
                  rw [getD_get L 0 (by rw [HDL.out]; exact hlt)] at hby
                  have hset2 := Lib.hid ((hset i hlt).out)
                  have hfz := hM4.b0.frozen i
                  obtain ⟨v0, hv0⟩ : ∃ v, World.cell? _ ⟨wz.heap.size, i, none⟩ = some v := ⟨_, (hM4.b0.cell i).trans (Array.getElem?_eq_getElem (by rw [(hsize i (by omega)).out]; omega))⟩
                  have hq1 : (i : Int).tdiv 4 = (a : Int) := by rw [Int.tdiv_eq_ediv_of_nonneg (by omega)]; omega
                  have hq2 : (i : Int) / 4 = (a : Int) := by omega
                  have hr1 : (i : Int).tmod 4 = (b : Int) := by rw [Int.tmod_eq_emod_of_nonneg (by omega)]; omega
                  have hr2 : (i : Int) % 4 = (b : Int) := by omega
                  have hw1 : IntKind.i64.wrap (8 * (b : Int)) = 8 * (b : Int) := by rw [IntKind.wrap_i64]; omega
                  have hw2 : IntKind.i64.wrap (24 - 8 * (b : Int)) = (s : Int) := by rw [IntKind.wrap_i64]; omega
                  have hw3 : IntKind.u64.wrap (s : Int) = (s : Int) := by show (s : Int) % 18446744073709551616 = _; omega
                  have ha0 : (a : Int) < 8 := by omega
                  have hi0 : (i : Int) < 32 := by omega
                  have hs0 : (s : Int) < 32 := by omega
                  have hs1 : s < 32 := by omega
                  have hmin : min s 32 = s := by omega
                  generalize l.getD a 0 = xa at *
                  generalize L[i] = bi at *
                  have HM4 := Lib.hid hM4
                  have HS4 := Lib.hid hS4
                  clear hM4 hS4 hbyte hset hsize hab hs
                  go_wp2_with fail
                  rw [← hby]
                  have hMx := HM4.out.set 0 i (bv bi) rfl
                  rw [hset2.out] at hMx
                  exact ⟨⟨i + 1, hlt, by go_num, hMx, SlW.setB HS4.out hSlt (Nat.le_refl _) _⟩, by simp [intOf]; omega⟩
                · obtain rfl : i = 32 := by omega
                  rw [hfull.out] at hM4
                  have hR4 := hM4.b1.row (cs := dga (shaD t))
                  have hb4 := below_setRow hM4.bel (Nat.le_refl _) (dga (shaD t))
                  have HM4 := Lib.hid hM4
                  clear hM4 hS4 hbyte hset hsize hfull
                  rw [show ((32 : Nat) : Int) = 32 from rfl]
                  go_wp2_with (first | (refine wpl_loadG rfl 42 _ rfl ⟨wz.heap.size, 0, none⟩ (dga (shaD t)) rfl HM4.out.b0.cells _ Tryz.underlying42 rfl (by rw [(hds (shaD t)).out]; kernel_rfl) ?_) | (refine wpList_store_row rfl 42 _ _ rfl w.heap.size (dga (shaD t)) rfl rfl 42 (dga dg0) HM4.out.b1 (by rw [(hds (shaD t)).out]; kernel_rfl) (by rw [(hds (shaD t)).out, (hds dg0).out]) (hda (shaD t)).out ?_))
                  exact bodyPost_ret (res_dgR rfl rfl (g := w.heap.size) hR4) rfl ⟨rfl, hb4⟩
end Go.Proofs.YtabnndjdkjkciaaGreatDoor

namespace Go.Proofs.YtabnndjdkjkciaaGreatDoor
open Go.RowKit
attribute [local go_sem ↓] Go.wp_at_zero Go.wp_at_succ

set_option maxRecDepth 100000 in
theorem rOf03_any {A : Option Addr} {c : Nat} (t : List UInt8) (w : World) (h : SlB w A c t) (hl : t.length ≤ 1000000) :
    Calls Tryz.prog 25 #[.slice A t.length c] w fun e w' => e = .returned (.agg (dga (shaD t))) ∧ Below w.heap.size w w' := by
  have hM := (Mm.start w).alloc (dga dg0) 42
  have hds := Lib.hid (dga_size (shaD t))
  have hd0 := Lib.hid (dga_size dg0)
  have hda := Lib.hid (dga_all (shaD t))
  have H := Lib.hid (fun (W : World) (hh : Below w.heap.size w W) (C F : Option Addr) (cc fc : Nat) (ks hs : List W32) (hC : SlW W C cc ks) (hF : SlW W F fc hs) (hks : Hid (ks = shaK)) (hhs : Hid (hs = shaH.l)) => rDgSum_any t ks hs W (Sl.below h hh) hC hF hks hhs hl)
  generalize shaD t = d at *
  go_enter Tryz.func25, Tryz.ntmps25
  go_upto_region 1 with (fail)
  refine gen1 (T := fun W => Mm w W [(w.heap.size, 42, dga dg0)] []) hM (fun w0 hM => ?_)
  go_wp2_with fail
  refine (Tables_any _).mono ?_
  rintro e w1 ⟨A1, c1, m1, B1, d1, r1, rfl, hm, hr, ho, hs, hb⟩
  have hM1 := hM.call hb
  have HR := Lib.hid (H.out w1 hM1.bel _ _ _ _ m1 r1 (Own.sl ho) hs hm hr)
  clear hm hr ho hs hM hb
  go_wp2_with fail
  refine HR.out.mono ?_
  clear HR
  rintro e w2 ⟨rfl, hb2⟩
  have hM2 := hM1.call hb2
  go_wp2_with (refine wpList_store_row rfl 42 _ _ rfl w.heap.size (dga d) rfl rfl 42 (dga dg0) hM2.b0 (by rw [hds.out]; kernel_rfl) (by rw [hd0.out, hds.out]) hda.out ?_)
  exact bodyPost_ret (res_dgR rfl rfl (g := w.heap.size) hM2.b0.row) rfl ⟨rfl, below_setRow hM2.bel (Nat.le_refl _) _⟩
end Go.Proofs.YtabnndjdkjkciaaGreatDoor
