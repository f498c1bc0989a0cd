/- WHAT IT HOLDS: the document's digest, walked. | WHAT IT HOLDS: the document's digest of a text, walked. | WHAT IT HOLDS: the manifest that bytes are, plainly; manifest.Take, walked, for all bytes. -/
import Derived.Test.YtabnndjdkjkciaaGreatDoorManifestBackG19
import Derived.Test.YtabnndjdkjkciaaGreatDoorManifestBackG20
import Derived.Test.YtabnndjdkjkciaaGreatDoorManifestBackG18
namespace Go.Proofs.YtabnndjdkjkciaaGreatDoor
open Go.RowKit
attribute [local go_sem ↓] Go.wp_at_zero Go.wp_at_succ

set_option maxRecDepth 100000 in
set_option maxHeartbeats 4000000 in
theorem rDgSum_any {A C F : Option Addr} {c cc fc : Nat} (t : List UInt8) (ks hs : List W32) (w : World) (h : SlB w A c t) (hC : SlW w C cc ks) (hF : SlW w F fc hs) (hks : Hid (ks = shaK)) (hhs : Hid (hs = shaH.l)) (hl : t.length ≤ 1000000) :
    Calls Tryz.prog 66 #[.slice A t.length c, .slice C ks.length cc, .slice F hs.length fc] w fun e w' => e = .returned (.agg (dga (shaD t))) ∧ Below w.heap.size w w' := by
  have hkl : ks.length = 64 := by rw [hks.out]; rfl
  have hhl : hs.length = 8 := by rw [hhs.out]; rfl
  have hpz : padZ t.length < 64 := by unfold padZ; omega
  have hpm : (t.length + 1 + padZ t.length) % 64 = 56 := by unfold padZ; omega
  have hpk : ∀ k, k < padZ t.length → ¬ (t.length + 1 + k) % 64 = 56 := by unfold padZ; omega
  have hM := Lib.hid (shaM_eq t)
  have HS := Lib.hid (show shaD t = (blks (shaM t) shaH ((shaM t).length / 64)).dg from rfl)
  obtain ⟨z, hz⟩ : ∃ z, padZ t.length = z := ⟨_, rfl⟩
  rw [hz] at hpz hpm hpk hM
  clear hz
  have h0 : Mm w (w.alloc (.cells (dga dg0) 42)) [(w.heap.size, 42, dga dg0)] [] := (Mm.start w).alloc (dga dg0) 42
  rw [hkl, hhl]
  go_enter Tryz.func66, Tryz.ntmps66
  go_upto_region 1 with (fail)
  refine gen1 (T := fun W => Mm w W [(w.heap.size, 42, dga dg0)] []) h0 (fun w0 hM0 => ?_)
  have hw0 : w.heap.size + 1 ≤ w0.heap.size := hM0.b0.lt
  go_upto_region 2 with (at_builtin; go_must (refine wpl_fresh 29 5 Tryz.underlying29 u8_info rfl (.tmp 30) (.tmp 31) rfl rfl A c t rfl (Sl.below h hM0.bel) (by omega) ?_; intro A1 c1 m1 w1 hm1 ho1 hb1))
  have hm1l : Hid (m1.length = t.length) := (show _ = _ from by rw [hm1.out])
  have hoa := Own.more (base' := w.heap.size + 1) (World.ownsRow.alloc ho1 (.cells #[.int .u8 128] 5)) (by omega)
  have hln : m1.length + [(128 : UInt8)].length ≤ 140737488355328 := by have := hm1l.out; simp; omega
  have hz1 : w.heap.size + 1 ≤ (w1.alloc (.cells #[.int .u8 128] 5)).heap.size := by have := hb1.size; simp; omega
  go_upto_region 3 with (at_builtin; go_must (refine wpl_bytes 29 5 Tryz.underlying29 u8_info rfl _ _ rfl (w.heap.size + 1) A1 c1 m1 rfl hoa (some ⟨w1.heap.size, 0, none⟩) 1 [128] rfl Sl.one hln hz1 ?_; intro A2 c2 m2 w2 hm2 ho2 _ _ hb2))
  have hM2 := ((hM0.call hb1).allocO (.cells #[.int .u8 128] 5)).above hb2 (by simp) (by omega)
  have hm2e : Hid (m2 = cnM t 0) := (show _ = _ from by rw [hm2.out, hm1.out]; rfl)
  clear hm1 ho1 hb1 hm1l hoa hln hz1 hm2 hb2 hM0 hw0 h0
  go_wp2_with fail
  go_loopw [7] (fun x wr => ∃ (k : Nat) (E : Option Addr) (d : Nat) (m : List UInt8), k ≤ z ∧ x = .slice E m.length d ∧ Hid (m = cnM t k) ∧ OwnB wr (w.heap.size + 1) 5 E d m ∧ Mm w wr [(w.heap.size, 42, dga dg0)] []) (fun x _ => t.length + 200 - (match x with | .slice _ n _ => n | _ => 0))
  case atStart => exact ⟨0, A2, c2, m2, by omega, rfl, hm2e, ho2, hM2⟩
  case round =>
    clear hm2e ho2 hM2
    obtain ⟨k, E, d, m, hk, rfl, hm, ho, hM3⟩ := hrel
    have hml : Hid (m.length = t.length + 1 + k) := (show _ = _ from by rw [hm.out]; simp [cnM]; omega)
    rcases Nat.lt_or_ge k z with hlt | hge
    · have hzt : ((m.length : Int) % 64 != 56) = true := by
        have h9 := hpk k hlt
        have h8 := hml.out
        have : ¬ (m.length : Int) % 64 = 56 := by omega
        simpa using this
      have hoa := World.ownsRow.alloc ho (.cells #[.int .u8 0] 5)
      have hMa := hM3.allocO (.cells #[.int .u8 0] 5)
      have hln : m.length + [(0 : UInt8)].length ≤ 140737488355328 := by have := hml.out; simp; omega
      have hlo : w.heap.size + 1 ≤ (wr.alloc (.cells #[.int .u8 0] 5)).heap.size := hMa.b0.lt
      go_wp2_with (at_builtin; go_must (refine wpl_bytes 29 5 Tryz.underlying29 u8_info rfl _ _ rfl (w.heap.size + 1) E d m rfl hoa (some ⟨wr.heap.size, 0, none⟩) 1 [0] rfl Sl.one hln hlo ?_; intro E2 d2 m2 w2 hm2 ho2 _ _ hb2))
      have hl2 : m2.length = t.length + 1 + (k + 1) := by rw [hm2.out, List.length_append, hml.out]; rfl
      refine ⟨⟨k + 1, E2, d2, m2, hlt, rfl, (show _ = _ from by rw [hm2.out, hm.out]; unfold cnM; rw [List.replicate_succ']; simp), ho2, hMa.above hb2 (by simp) (by omega)⟩, ?_⟩
      dsimp only
      rw [hl2, hml.out]
      omega
    · obtain rfl : k = z := by omega
      have hzt : ((m.length : Int) % 64 != 56) = false := by
        have h8 := hml.out
        have : (m.length : Int) % 64 = 56 := by omega
        simpa using this
      have hw3 : IntKind.u64.wrap (t.length : Int) = (t.length : Int) := by show (t.length : Int) % 18446744073709551616 = _; omega
      obtain ⟨N, hN⟩ : ∃ N, 8 * t.length = N := ⟨_, rfl⟩
      rw [hN] at hM
      have hw4 : IntKind.u64.wrap ((t.length : Int) * 8) = (N : Int) := by show ((t.length : Int) * 8) % 18446744073709551616 = _; omega
      clear hN
      go_wp2_with fail
      clear hzt hw3 hw4 hpk hpm
      have HM3 := Lib.hid hM3
      have HO := Lib.hid ho
      have HM := Lib.hid hm
      clear hM3 ho hm
      go_loopw [9, 7] (fun y x wr => ∃ (j : Nat) (E : Option Addr) (d : Nat) (m : List UInt8), j ≤ 8 ∧ y = .int .i64 (7 - (j : Int)) ∧ x = .slice E m.length d ∧ m.length = t.length + 1 + k + j ∧ Hid (m = cnM t k ++ (be8 N).take j) ∧ OwnB wr (w.heap.size + 1) 5 E d m ∧ Mm w wr [(w.heap.size, 42, dga dg0)] []) (fun y x wr => t.length + 200 - (match x with | .slice _ n _ => n | _ => 0))
      case atStart => exact ⟨0, E, d, m, by omega, rfl, rfl, hml.out, (show _ = _ from by rw [HM.out]; simp), HO.out, HM3.out⟩
      case round =>
        clear HM HO HM3 hml
        obtain ⟨j, E, d, m, hj, rfl, rfl, hml, hm, ho, hM3⟩ := hrel
        have HML := Lib.hid hml
        clear hml
        rcases Nat.lt_or_ge j 8 with hlt | hge
        · obtain ⟨s, hs⟩ : ∃ s : Nat, 8 * j + s = 56 := ⟨56 - 8 * j, by omega⟩
          have hsw : IntKind.i64.wrap (8 * (7 - (j : Int))) = (s : Int) := by rw [IntKind.wrap_i64]; omega
          have hsu : IntKind.u64.wrap (s : Int) = (s : Int) := by show (s : Int) % 18446744073709551616 = _; omega
          have hsI : 0 ≤ 7 - (j : Int) := by omega
          have hs3 : IntKind.i64.wrap (7 - (j : Int) - 1) = 7 - (j : Int) - 1 := by rw [IntKind.wrap_i64]; omega
          have hat := be8_at N hs
          have hbt : ((N : Int) / 2 ^ min s 64) % 256 = ((be8 N).getD j 0).toNat := by
            rw [hat, ofNat_byte, Nat.min_eq_left (by omega)]
            simp
          have htk := Lib.hid (take_snocD (be8 N) 0 (j := j) (by rw [be8_len]; exact hlt))
          generalize (be8 N).getD j 0 = x at *
          clear hat hs
          have hoa := World.ownsRow.alloc ho (.cells #[bv x] 5)
          have hMa := hM3.allocO (.cells #[bv x] 5)
          have hln : m.length + [x].length ≤ 140737488355328 := by have := HML.out; simp; omega
          have hlo : w.heap.size + 1 ≤ (wr.alloc (.cells #[bv x] 5)).heap.size := hMa.b0.lt
          go_wp2_with (at_builtin; go_must (refine wpl_bytes 29 5 Tryz.underlying29 u8_info rfl _ _ rfl (w.heap.size + 1) E d m rfl hoa (some ⟨wr.heap.size, 0, none⟩) 1 [x] rfl Sl.one hln hlo ?_; intro E2 d2 m2 w2 hm2 ho2 _ _ hb2))
          have hl2 : m2.length = t.length + 1 + k + (j + 1) := by rw [hm2.out, List.length_append, HML.out]; rfl
          refine ⟨⟨j + 1, E2, d2, m2, hlt, congrArg (Value.int .i64) (by omega), rfl, hl2, (show _ = _ from by rw [hm2.out, hm.out, htk.out]; simp), ho2, hMa.above hb2 (by simp) (by omega)⟩, ?_⟩
          dsimp only
          rw [hl2, HML.out]
          omega
        · obtain rfl : j = 8 := by omega
          have hmM : Hid (m = shaM t) := (show _ = _ from by rw [hm.out, hM.out, List.take_of_length_le (by rw [be8_len]; exact Nat.le_refl _)])
          rw [show (7 : Int) - ((8 : Nat) : Int) = -1 from by decide]
          have hF2 : SlW wr F fc hs := Sl.below hF hM3.bel
          have hFa := Sl.below hF2 (below_new wr (.cells #[] 221))
          have hLw : OwnW (wr.alloc (.cells #[] 221)) wr.heap.size (some ⟨wr.heap.size, 0, none⟩) 0 [] := Own.lit 1 (Nat.le_refl _)
          rename World => wh
          clear hm hM HML hF2
          go_wp2_with (at_builtin; go_must (refine wpl_words rfl _ _ rfl wh.heap.size (some ⟨wh.heap.size, 0, none⟩) 0 [] rfl hLw F fc 8 hs hhl.symm rfl hFa (by simp; omega) (by simp) ?_; intro S3 s3 l3 w3 hl3 ho3 _ _ hb3))
          have hb9 := (below_new wh (.cells #[] 221)).trans hb3
          have hD3 : DsI w w3 C E S3 cc d s3 ks m l3 := ⟨hM3.call hb9, Sl.below hC (bel_call hM3.bel hb9), Sl.below (Own.sl ho) hb9, Own.sl ho3⟩
          have hl3e : Hid (l3 = hs) := (show _ = _ from by rw [hl3.out]; rfl)
          have hl38 : l3.length = 8 := by rw [hl3e.out]; exact hhl
          obtain ⟨Q, hQ⟩ : ∃ Q, m.length = 64 * Q := ⟨m.length / 64, by
            have h1 := pad_mod t.length
            have h2 : m.length = t.length + (padT t.length).length := by rw [hmM.out]; simp [shaM]
            omega⟩
          have hQl : Q ≤ 100000 ∧ 1 ≤ Q := by
            have h2 : m.length = t.length + (padT t.length).length := by rw [hmM.out]; simp [shaM]
            rw [padT_len] at h2
            have : padZ t.length < 64 := by unfold padZ; omega
            omega
          have HQ := Lib.hid (show shaD t = (blks m shaH Q).dg from by rw [HS.out, ← hmM.out, hQ, Nat.mul_div_cancel_left _ (by omega)])
          have HM9 := Lib.hid hQ
          rw [hl38]
          clear hb3 hb9 hM3 ho ho3 hl3 hFa hLw hmM HS hQ
          rw [HM9.out]
          go_loopw [11, 10] (fun x y wr => ∃ (q : Nat) (S : Option Addr) (sd : Nat) (l : List W32), q ≤ Q ∧ x = .int .i64 (64 * (q : Int)) ∧ y = .slice S 8 sd ∧ l.length = 8 ∧ Hid (l = (blks m shaH q).l) ∧ DsI w wr C E S cc d sd ks m l) (fun x y wr => 64 * Q - (intOf x).toNat)
          case atStart => exact ⟨0, S3, s3, l3, by omega, rfl, rfl, hl38, (show _ = _ from by rw [hl3e.out, hhs.out]; rfl), hD3⟩
          case round =>
            clear hD3 hl3e hl38
            obtain ⟨q, S, sd, l, hq, rfl, rfl, hl8, hle, hD⟩ := hrel
            by_cases hlt : q < Q
            · have hI : 64 * (q : Int) < 64 * (Q : Int) := by omega
              obtain ⟨st, hst⟩ : ∃ st, blks m shaH q = st := ⟨_, rfl⟩
              have hbk : Hid (blks m shaH (q + 1) = stp st ((m.drop (64 * q)).take 64)) := (show _ = _ from by rw [← hst]; rfl)
              rw [hst] at hle
              have hbl : ((m.drop (64 * q)).take 64).length = 64 := by have := HM9.out; simp; omega
              have hbg : ∀ j, j < 64 → ((m.drop (64 * q)).take 64).getD j 0 = m.getD (64 * q + j) 0 := fun j hj => by
                simp only [List.getD_eq_getElem?_getD]
                rw [List.getElem?_take, if_pos hj, List.getElem?_drop]
              generalize (m.drop (64 * q)).take 64 = bk at *
              have HBG := Lib.hid hbg
              clear hst hbg
              have hLw : OwnW (wr.alloc (.cells #[] 221)) wr.heap.size (some ⟨wr.heap.size, 0, none⟩) 0 [] := Own.lit 1 (Nat.le_refl _)
              have hDa := hD.call (below_new wr (.cells #[] 221))
              obtain ⟨B, hB⟩ : ∃ B, wr.heap.size = B := ⟨_, rfl⟩
              have hBl : B ≤ (wr.alloc (.cells #[] 221)).heap.size := by simp; omega
              have HD := Lib.hid hD
              clear hD
              rename World => wg
              go_upto_region 15 with (fail)
              generalize hWe : wg.alloc (.cells #[] 221) = wg2 at *
              rw [hB] at hLw
              have hEB : ∀ ad, E = some ad → ad.block < B := fun ad hA => by
                have h9 := Sl.lt0 HD.out.b (by have := HM9.out; cases m with | nil => simp at this; omega | cons x r => simp) ad.block (by rw [hA]; rfl)
                rw [hB] at h9
                exact h9
              go_upto_block 6 with (fail)
              refine sumBlk6_any (Q := Q) (q := q) (B := B) m bk _ hDa.b hEB HM9.out hQl.1 hlt HBG.out hLw hBl _ (Lib.hid (fun _ _ _ _ _ h => h)) (Lib.hid ?_)
              clear hLw hEB
              intro gw wc ws wr hws hsw hbw
              have hbgr : Below wg.heap.size wg wr := by rw [hB]; rw [← hWe] at hbw; exact (below_new wg _).trans (by rw [hB]; exact hbw) |> fun h => by rw [hB] at h; exact h
              have hDr := HD.out.call hbgr
              have hwl64 : ws.length = 64 := by rw [hws.out, sch_len]
              obtain ⟨sb, so, rfl, hcs⟩ := SlW.all hDr.s (by omega)
              have c0 := hcs 0 (by omega)
              have c1' := hcs 1 (by omega)
              have c2' := hcs 2 (by omega)
              have c3 := hcs 3 (by omega)
              have c4 := hcs 4 (by omega)
              have c5 := hcs 5 (by omega)
              have c6 := hcs 6 (by omega)
              have c7 := hcs 7 (by omega)
              rw [hle.out] at c0 c1' c2' c3 c4 c5 c6 c7
              simp only [S8.l, List.getD_cons_zero, List.getD_cons_succ, Nat.add_zero] at c0 c1' c2' c3 c4 c5 c6 c7
              have hst2 : Hid (stp st bk = (rnds ws st 64).add st) := (show _ = _ from by unfold stp; rw [hws.out])
              have HDr := Lib.hid hDr
              have HSW := Lib.hid hsw
              have HWL4 := Lib.hid hwl64
              clear hbgr hDr hwl64 hsw hcs hbw hDa hBl HBG
              go_upto_region 24 with (fail)
              go_quiet (fail)
              have hDq := HDr.out.call (below_drewN (Below.refl _ _) nq)
              have hSq := Sl.below HSW.out (below_drewN (Below.refl _ _) nq)
              clear c0 c1' c2' c3 c4 c5 c6 c7 HDr HSW
              generalize World.drewN wr nq = wq at *
              rename World => wq
              go_upto_block 8 with (fail)
              refine sumBlk8_any ks ws st _ hDq.c hSq hks HWL4.out _ (Lib.hid (fun _ _ _ _ _ h => h)) (Lib.hid ?_)
              intro r wr hr hbr
              have hDr := hDq.call hbr
              clear hDq hSq hbr
              obtain ⟨sb', so', e9, hcs⟩ := SlW.all hDr.s (by omega)
              injection e9 with e9
              injection e9 with e9 e8
              subst e9 e8
              have hst0 : (wr.drew.cell? ⟨sb, so, none⟩ = some (wv st.a) ∧ wr.drew.cell? ⟨sb, so + 1, none⟩ = some (wv st.b) ∧ wr.drew.cell? ⟨sb, so + 2, none⟩ = some (wv st.c) ∧ wr.drew.cell? ⟨sb, so + 3, none⟩ = some (wv st.d)) ∧ wr.drew.cell? ⟨sb, so + 4, none⟩ = some (wv st.e) ∧ wr.drew.cell? ⟨sb, so + 5, none⟩ = some (wv st.f) ∧ wr.drew.cell? ⟨sb, so + 6, none⟩ = some (wv st.g) ∧ wr.drew.cell? ⟨sb, so + 7, none⟩ = some (wv st.h) := by
                have c0 := hcs 0 (by omega)
                have c1' := hcs 1 (by omega)
                have c2' := hcs 2 (by omega)
                have c3 := hcs 3 (by omega)
                have c4 := hcs 4 (by omega)
                have c5 := hcs 5 (by omega)
                have c6 := hcs 6 (by omega)
                have c7 := hcs 7 (by omega)
                rw [hle.out] at c0 c1' c2' c3 c4 c5 c6 c7
                simp only [S8.l, List.getD_cons_zero, List.getD_cons_succ, Nat.add_zero] at c0 c1' c2' c3 c4 c5 c6 c7
                exact ⟨⟨c0, c1', c2', c3⟩, c4, c5, c6, c7⟩
              have HDr := Lib.hid hDr
              have HS0 := Lib.hid hst0
              have hl2 : Hid ([st.a + r.a, st.b + r.b, st.c + r.c, st.d + r.d, st.e + r.e, st.f + r.f, st.g + r.g, st.h + r.h] = (blks m shaH (q + 1)).l) := (show _ = _ from by
                rw [hbk.out, hst2.out, ← hr.out]
                simp only [S8.add, S8.l, BitVec.add_comm])
              clear hDr hcs hr hst0
              go_upto_region 38 with (fail)
              have hst0 := HS0.out
              refine wp_region_seq (S := (fun W => (W.cell? ⟨sb, so, none⟩ = some (wv st.a) ∧ W.cell? ⟨sb, so + 1, none⟩ = some (wv st.b) ∧ W.cell? ⟨sb, so + 2, none⟩ = some (wv st.c) ∧ W.cell? ⟨sb, so + 3, none⟩ = some (wv st.d)) ∧ W.cell? ⟨sb, so + 4, none⟩ = some (wv st.e) ∧ W.cell? ⟨sb, so + 5, none⟩ = some (wv st.f) ∧ W.cell? ⟨sb, so + 6, none⟩ = some (wv st.g) ∧ W.cell? ⟨sb, so + 7, none⟩ = some (wv st.h))) [(0, true), (1, true), (2, true), (3, true), (4, true), (5, true), (6, true), (7, true), (8, true), (9, true), (10, true), (11, true), (12, true), (13, true), (14, true), (15, true), (16, true), (17, true), (18, true), (19, true), (20, true), (21, true), (22, true), (23, true), (24, true), (25, true), (26, true), (27, true), (28, true), (29, true), (30, true), (31, true), (32, true), (33, true), (34, true), (35, true), (36, true), (37, true), (38, true), (39, true), (40, false), (41, true)] (by kernel_rfl) (by kernel_rfl) (fun _ _ _ _ _ h => h) ?_ (fun hHeld => ?_)
              · first | with_reducible exact hst0 | with_reducible exact hHeld | exact ⟨⟨cell_allocW hHeld.1.1 _, cell_allocW hHeld.1.2.1 _, cell_allocW hHeld.1.2.2.1 _, cell_allocW hHeld.1.2.2.2 _⟩, cell_allocW hHeld.2.1 _, cell_allocW hHeld.2.2.1 _, cell_allocW hHeld.2.2.2.1 _, cell_allocW hHeld.2.2.2.2 _⟩
              refine seq_take (oi := ⟨some 243, _, _, _, _, _⟩) (v := ?_) rfl (Or.inl ⟨by kernel_rfl, ?_⟩) (by assumption) ?_
              rotate_left
              · (intro wS hSw; (try dsimp only at hSw); have q1 := add_wn; obtain ⟨⟨d0, d1, d2, d3⟩, d4, d5, d6, d7⟩ := hSw; refine execV (fun rho hk1 hk2 hk3 hk => ?_); have e10_ := (hk 10).trans (evalP (fg8 (fg1 (fg1 fg0)))); clear hk; go_simp; (try with_reducible rfl))
              (first | (with_reducible refine wpSeq_put ?_; go_big_move) | (try simp only [Act.put, List.setIfInBounds_toArray, List.set_cons_zero, List.set_cons_succ]))
              refine seq_take (oi := ⟨some 244, _, _, _, _, _⟩) (v := ?_) rfl (Or.inl ⟨by kernel_rfl, ?_⟩) (by assumption) ?_
              rotate_left
              · (intro wS hSw; (try dsimp only at hSw); have q1 := add_wn; obtain ⟨⟨d0, d1, d2, d3⟩, d4, d5, d6, d7⟩ := hSw; refine execV (fun rho hk1 hk2 hk3 hk => ?_); have e243_ := (hk 243).trans (evalP (fg64 (fg64 (fg64 (fg8 (fg8 (fg8 (fg8 (fg8 (fg8 (fg1 (fg1 (fg1 fg0))))))))))))); clear hk; go_simp; (try with_reducible rfl))
              (first | (with_reducible refine wpSeq_put ?_; go_big_move) | (try simp only [Act.put, List.setIfInBounds_toArray, List.set_cons_zero, List.set_cons_succ]))
              refine seq_take (oi := ⟨some 245, _, _, _, _, _⟩) (v := ?_) rfl (Or.inl ⟨by kernel_rfl, ?_⟩) (by assumption) ?_
              rotate_left
              · (intro wS hSw; (try dsimp only at hSw); have q1 := add_wn; obtain ⟨⟨d0, d1, d2, d3⟩, d4, d5, d6, d7⟩ := hSw; refine execV (fun rho hk1 hk2 hk3 hk => ?_); have e244_ := (hk 244).trans (evalP (fg64 (fg64 (fg64 (fg8 (fg8 (fg8 (fg8 (fg8 (fg8 (fg1 (fg1 (fg1 (fg1 fg0)))))))))))))); clear hk; go_simp; (try with_reducible rfl))
              (first | (with_reducible refine wpSeq_put ?_; go_big_move) | (try simp only [Act.put, List.setIfInBounds_toArray, List.set_cons_zero, List.set_cons_succ]))
              refine seq_take (oi := ⟨some 246, _, _, _, _, _⟩) (v := ?_) rfl (Or.inl ⟨by kernel_rfl, ?_⟩) (by assumption) ?_
              rotate_left
              · (intro wS hSw; (try dsimp only at hSw); have q1 := add_wn; obtain ⟨⟨d0, d1, d2, d3⟩, d4, d5, d6, d7⟩ := hSw; refine execV (fun rho hk1 hk2 hk3 hk => ?_); have e17_ := (hk 17).trans (evalP (fg8 (fg8 (fg1 fg0)))); clear hk; go_simp; (try with_reducible rfl))
              (first | (with_reducible refine wpSeq_put ?_; go_big_move) | (try simp only [Act.put, List.setIfInBounds_toArray, List.set_cons_zero, List.set_cons_succ]))
              refine seq_take (oi := ⟨some 247, _, _, _, _, _⟩) (v := ?_) rfl (Or.inl ⟨by kernel_rfl, ?_⟩) (by assumption) ?_
              rotate_left
              · (intro wS hSw; (try dsimp only at hSw); have q1 := add_wn; obtain ⟨⟨d0, d1, d2, d3⟩, d4, d5, d6, d7⟩ := hSw; refine execV (fun rho hk1 hk2 hk3 hk => ?_); have e245_ := (hk 245).trans (evalP (fg64 (fg64 (fg64 (fg8 (fg8 (fg8 (fg8 (fg8 (fg8 (fg1 (fg1 (fg1 (fg1 (fg1 fg0))))))))))))))); have e246_ := (hk 246).trans (evalP (fg64 (fg64 (fg64 (fg8 (fg8 (fg8 (fg8 (fg8 (fg8 (fg1 (fg1 (fg1 (fg1 (fg1 (fg1 fg0)))))))))))))))); clear hk; go_simp; (try with_reducible rfl))
              (first | (with_reducible refine wpSeq_put ?_; go_big_move) | (try simp only [Act.put, List.setIfInBounds_toArray, List.set_cons_zero, List.set_cons_succ]))
              refine seq_take (oi := ⟨some 248, _, _, _, _, _⟩) (v := ?_) rfl (Or.inl ⟨by kernel_rfl, ?_⟩) (by assumption) ?_
              rotate_left
              · (intro wS hSw; (try dsimp only at hSw); have q1 := add_wn; obtain ⟨⟨d0, d1, d2, d3⟩, d4, d5, d6, d7⟩ := hSw; refine execV (fun rho hk1 hk2 hk3 hk => ?_); have e10_ := (hk 10).trans (evalP (fg8 (fg1 (fg1 fg0)))); clear hk; go_simp; (try with_reducible rfl))
              (first | (with_reducible refine wpSeq_put ?_; go_big_move) | (try simp only [Act.put, List.setIfInBounds_toArray, List.set_cons_zero, List.set_cons_succ]))
              refine seq_take (oi := ⟨some 249, _, _, _, _, _⟩) (v := ?_) rfl (Or.inl ⟨by kernel_rfl, ?_⟩) (by assumption) ?_
              rotate_left
              · (intro wS hSw; (try dsimp only at hSw); have q1 := add_wn; obtain ⟨⟨d0, d1, d2, d3⟩, d4, d5, d6, d7⟩ := hSw; refine execV (fun rho hk1 hk2 hk3 hk => ?_); have e248_ := (hk 248).trans (evalP (fg64 (fg64 (fg64 (fg8 (fg8 (fg8 (fg8 (fg8 (fg8 (fg8 fg0))))))))))); clear hk; go_simp; (try with_reducible rfl))
              (first | (with_reducible refine wpSeq_put ?_; go_big_move) | (try simp only [Act.put, List.setIfInBounds_toArray, List.set_cons_zero, List.set_cons_succ]))
              refine seq_take (oi := ⟨some 250, _, _, _, _, _⟩) (v := ?_) rfl (Or.inl ⟨by kernel_rfl, ?_⟩) (by assumption) ?_
              rotate_left
              · (intro wS hSw; (try dsimp only at hSw); have q1 := add_wn; obtain ⟨⟨d0, d1, d2, d3⟩, d4, d5, d6, d7⟩ := hSw; refine execV (fun rho hk1 hk2 hk3 hk => ?_); have e249_ := (hk 249).trans (evalP (fg64 (fg64 (fg64 (fg8 (fg8 (fg8 (fg8 (fg8 (fg8 (fg8 (fg1 fg0)))))))))))); clear hk; go_simp; (try with_reducible rfl))
              (first | (with_reducible refine wpSeq_put ?_; go_big_move) | (try simp only [Act.put, List.setIfInBounds_toArray, List.set_cons_zero, List.set_cons_succ]))
              refine seq_take (oi := ⟨some 251, _, _, _, _, _⟩) (v := ?_) rfl (Or.inl ⟨by kernel_rfl, ?_⟩) (by assumption) ?_
              rotate_left
              · (intro wS hSw; (try dsimp only at hSw); have q1 := add_wn; obtain ⟨⟨d0, d1, d2, d3⟩, d4, d5, d6, d7⟩ := hSw; refine execV (fun rho hk1 hk2 hk3 hk => ?_); have e18_ := (hk 18).trans (evalP (fg8 (fg8 (fg1 (fg1 fg0))))); clear hk; go_simp; (try with_reducible rfl))
              (first | (with_reducible refine wpSeq_put ?_; go_big_move) | (try simp only [Act.put, List.setIfInBounds_toArray, List.set_cons_zero, List.set_cons_succ]))
              refine seq_take (oi := ⟨some 252, _, _, _, _, _⟩) (v := ?_) rfl (Or.inl ⟨by kernel_rfl, ?_⟩) (by assumption) ?_
              rotate_left
              · (intro wS hSw; (try dsimp only at hSw); have q1 := add_wn; obtain ⟨⟨d0, d1, d2, d3⟩, d4, d5, d6, d7⟩ := hSw; refine execV (fun rho hk1 hk2 hk3 hk => ?_); have e250_ := (hk 250).trans (evalP (fg64 (fg64 (fg64 (fg8 (fg8 (fg8 (fg8 (fg8 (fg8 (fg8 (fg1 (fg1 fg0))))))))))))); have e251_ := (hk 251).trans (evalP (fg64 (fg64 (fg64 (fg8 (fg8 (fg8 (fg8 (fg8 (fg8 (fg8 (fg1 (fg1 (fg1 fg0)))))))))))))); clear hk; go_simp; (try with_reducible rfl))
              (first | (with_reducible refine wpSeq_put ?_; go_big_move) | (try simp only [Act.put, List.setIfInBounds_toArray, List.set_cons_zero, List.set_cons_succ]))
              refine seq_take (oi := ⟨some 253, _, _, _, _, _⟩) (v := ?_) rfl (Or.inl ⟨by kernel_rfl, ?_⟩) (by assumption) ?_
              rotate_left
              · (intro wS hSw; (try dsimp only at hSw); have q1 := add_wn; obtain ⟨⟨d0, d1, d2, d3⟩, d4, d5, d6, d7⟩ := hSw; refine execV (fun rho hk1 hk2 hk3 hk => ?_); have e10_ := (hk 10).trans (evalP (fg8 (fg1 (fg1 fg0)))); clear hk; go_simp; (try with_reducible rfl))
              (first | (with_reducible refine wpSeq_put ?_; go_big_move) | (try simp only [Act.put, List.setIfInBounds_toArray, List.set_cons_zero, List.set_cons_succ]))
              refine seq_take (oi := ⟨some 254, _, _, _, _, _⟩) (v := ?_) rfl (Or.inl ⟨by kernel_rfl, ?_⟩) (by assumption) ?_
              rotate_left
              · (intro wS hSw; (try dsimp only at hSw); have q1 := add_wn; obtain ⟨⟨d0, d1, d2, d3⟩, d4, d5, d6, d7⟩ := hSw; refine execV (fun rho hk1 hk2 hk3 hk => ?_); have e253_ := (hk 253).trans (evalP (fg64 (fg64 (fg64 (fg8 (fg8 (fg8 (fg8 (fg8 (fg8 (fg8 (fg1 (fg1 (fg1 (fg1 (fg1 fg0)))))))))))))))); clear hk; go_simp; (try with_reducible rfl))
              (first | (with_reducible refine wpSeq_put ?_; go_big_move) | (try simp only [Act.put, List.setIfInBounds_toArray, List.set_cons_zero, List.set_cons_succ]))
              refine seq_take (oi := ⟨some 255, _, _, _, _, _⟩) (v := ?_) rfl (Or.inl ⟨by kernel_rfl, ?_⟩) (by assumption) ?_
              rotate_left
              · (intro wS hSw; (try dsimp only at hSw); have q1 := add_wn; obtain ⟨⟨d0, d1, d2, d3⟩, d4, d5, d6, d7⟩ := hSw; refine execV (fun rho hk1 hk2 hk3 hk => ?_); have e254_ := (hk 254).trans (evalP (fg64 (fg64 (fg64 (fg8 (fg8 (fg8 (fg8 (fg8 (fg8 (fg8 (fg1 (fg1 (fg1 (fg1 (fg1 (fg1 fg0))))))))))))))))); clear hk; go_simp; (try with_reducible rfl))
              (first | (with_reducible refine wpSeq_put ?_; go_big_move) | (try simp only [Act.put, List.setIfInBounds_toArray, List.set_cons_zero, List.set_cons_succ]))
              refine seq_take (oi := ⟨some 256, _, _, _, _, _⟩) (v := ?_) rfl (Or.inl ⟨by kernel_rfl, ?_⟩) (by assumption) ?_
              rotate_left
              · (intro wS hSw; (try dsimp only at hSw); have q1 := add_wn; obtain ⟨⟨d0, d1, d2, d3⟩, d4, d5, d6, d7⟩ := hSw; refine execV (fun rho hk1 hk2 hk3 hk => ?_); have e19_ := (hk 19).trans (evalP (fg8 (fg8 (fg1 (fg1 (fg1 fg0)))))); clear hk; go_simp; (try with_reducible rfl))
              (first | (with_reducible refine wpSeq_put ?_; go_big_move) | (try simp only [Act.put, List.setIfInBounds_toArray, List.set_cons_zero, List.set_cons_succ]))
              refine seq_take (oi := ⟨some 257, _, _, _, _, _⟩) (v := ?_) rfl (Or.inl ⟨by kernel_rfl, ?_⟩) (by assumption) ?_
              rotate_left
              · (intro wS hSw; (try dsimp only at hSw); have q1 := add_wn; obtain ⟨⟨d0, d1, d2, d3⟩, d4, d5, d6, d7⟩ := hSw; refine execV (fun rho hk1 hk2 hk3 hk => ?_); have e255_ := (hk 255).trans (evalP (fg64 (fg64 (fg64 (fg8 (fg8 (fg8 (fg8 (fg8 (fg8 (fg8 (fg1 (fg1 (fg1 (fg1 (fg1 (fg1 (fg1 fg0)))))))))))))))))); have e256_ := (hk 256).trans (evalP (fg64 (fg64 (fg64 (fg64 fg0))))); clear hk; go_simp; (try with_reducible rfl))
              (first | (with_reducible refine wpSeq_put ?_; go_big_move) | (try simp only [Act.put, List.setIfInBounds_toArray, List.set_cons_zero, List.set_cons_succ]))
              refine seq_take (oi := ⟨some 258, _, _, _, _, _⟩) (v := ?_) rfl (Or.inl ⟨by kernel_rfl, ?_⟩) (by assumption) ?_
              rotate_left
              · (intro wS hSw; (try dsimp only at hSw); have q1 := add_wn; obtain ⟨⟨d0, d1, d2, d3⟩, d4, d5, d6, d7⟩ := hSw; refine execV (fun rho hk1 hk2 hk3 hk => ?_); have e10_ := (hk 10).trans (evalP (fg8 (fg1 (fg1 fg0)))); clear hk; go_simp; (try with_reducible rfl))
              (first | (with_reducible refine wpSeq_put ?_; go_big_move) | (try simp only [Act.put, List.setIfInBounds_toArray, List.set_cons_zero, List.set_cons_succ]))
              refine seq_take (oi := ⟨some 259, _, _, _, _, _⟩) (v := ?_) rfl (Or.inl ⟨by kernel_rfl, ?_⟩) (by assumption) ?_
              rotate_left
              · (intro wS hSw; (try dsimp only at hSw); have q1 := add_wn; obtain ⟨⟨d0, d1, d2, d3⟩, d4, d5, d6, d7⟩ := hSw; refine execV (fun rho hk1 hk2 hk3 hk => ?_); have e258_ := (hk 258).trans (evalP (fg64 (fg64 (fg64 (fg64 (fg1 (fg1 fg0))))))); clear hk; go_simp; (try with_reducible rfl))
              (first | (with_reducible refine wpSeq_put ?_; go_big_move) | (try simp only [Act.put, List.setIfInBounds_toArray, List.set_cons_zero, List.set_cons_succ]))
              refine seq_take (oi := ⟨some 260, _, _, _, _, _⟩) (v := ?_) rfl (Or.inl ⟨by kernel_rfl, ?_⟩) (by assumption) ?_
              rotate_left
              · (intro wS hSw; (try dsimp only at hSw); have q1 := add_wn; obtain ⟨⟨d0, d1, d2, d3⟩, d4, d5, d6, d7⟩ := hSw; refine execV (fun rho hk1 hk2 hk3 hk => ?_); have e259_ := (hk 259).trans (evalP (fg64 (fg64 (fg64 (fg64 (fg1 (fg1 (fg1 fg0)))))))); clear hk; go_simp; (try with_reducible rfl))
              (first | (with_reducible refine wpSeq_put ?_; go_big_move) | (try simp only [Act.put, List.setIfInBounds_toArray, List.set_cons_zero, List.set_cons_succ]))
              refine seq_take (oi := ⟨some 261, _, _, _, _, _⟩) (v := ?_) rfl (Or.inl ⟨by kernel_rfl, ?_⟩) (by assumption) ?_
              rotate_left
              · (intro wS hSw; (try dsimp only at hSw); have q1 := add_wn; obtain ⟨⟨d0, d1, d2, d3⟩, d4, d5, d6, d7⟩ := hSw; refine execV (fun rho hk1 hk2 hk3 hk => ?_); have e20_ := (hk 20).trans (evalP (fg8 (fg8 (fg1 (fg1 (fg1 (fg1 fg0))))))); clear hk; go_simp; (try with_reducible rfl))
              (first | (with_reducible refine wpSeq_put ?_; go_big_move) | (try simp only [Act.put, List.setIfInBounds_toArray, List.set_cons_zero, List.set_cons_succ]))
              refine seq_take (oi := ⟨some 262, _, _, _, _, _⟩) (v := ?_) rfl (Or.inl ⟨by kernel_rfl, ?_⟩) (by assumption) ?_
              rotate_left
              · (intro wS hSw; (try dsimp only at hSw); have q1 := add_wn; obtain ⟨⟨d0, d1, d2, d3⟩, d4, d5, d6, d7⟩ := hSw; refine execV (fun rho hk1 hk2 hk3 hk => ?_); have e260_ := (hk 260).trans (evalP (fg64 (fg64 (fg64 (fg64 (fg1 (fg1 (fg1 (fg1 fg0))))))))); have e261_ := (hk 261).trans (evalP (fg64 (fg64 (fg64 (fg64 (fg1 (fg1 (fg1 (fg1 (fg1 fg0)))))))))); clear hk; go_simp; (try with_reducible rfl))
              (first | (with_reducible refine wpSeq_put ?_; go_big_move) | (try simp only [Act.put, List.setIfInBounds_toArray, List.set_cons_zero, List.set_cons_succ]))
              refine seq_take (oi := ⟨some 263, _, _, _, _, _⟩) (v := ?_) rfl (Or.inl ⟨by kernel_rfl, ?_⟩) (by assumption) ?_
              rotate_left
              · (intro wS hSw; (try dsimp only at hSw); have q1 := add_wn; obtain ⟨⟨d0, d1, d2, d3⟩, d4, d5, d6, d7⟩ := hSw; refine execV (fun rho hk1 hk2 hk3 hk => ?_); have e10_ := (hk 10).trans (evalP (fg8 (fg1 (fg1 fg0)))); clear hk; go_simp; (try with_reducible rfl))
              (first | (with_reducible refine wpSeq_put ?_; go_big_move) | (try simp only [Act.put, List.setIfInBounds_toArray, List.set_cons_zero, List.set_cons_succ]))
              refine seq_take (oi := ⟨some 264, _, _, _, _, _⟩) (v := ?_) rfl (Or.inl ⟨by kernel_rfl, ?_⟩) (by assumption) ?_
              rotate_left
              · (intro wS hSw; (try dsimp only at hSw); have q1 := add_wn; obtain ⟨⟨d0, d1, d2, d3⟩, d4, d5, d6, d7⟩ := hSw; refine execV (fun rho hk1 hk2 hk3 hk => ?_); have e263_ := (hk 263).trans (evalP (fg64 (fg64 (fg64 (fg64 (fg1 (fg1 (fg1 (fg1 (fg1 (fg1 (fg1 fg0)))))))))))); clear hk; go_simp; (try with_reducible rfl))
              (first | (with_reducible refine wpSeq_put ?_; go_big_move) | (try simp only [Act.put, List.setIfInBounds_toArray, List.set_cons_zero, List.set_cons_succ]))
              refine seq_take (oi := ⟨some 265, _, _, _, _, _⟩) (v := ?_) rfl (Or.inl ⟨by kernel_rfl, ?_⟩) (by assumption) ?_
              rotate_left
              · (intro wS hSw; (try dsimp only at hSw); have q1 := add_wn; obtain ⟨⟨d0, d1, d2, d3⟩, d4, d5, d6, d7⟩ := hSw; refine execV (fun rho hk1 hk2 hk3 hk => ?_); have e264_ := (hk 264).trans (evalP (fg64 (fg64 (fg64 (fg64 (fg8 fg0)))))); clear hk; go_simp; (try with_reducible rfl))
              (first | (with_reducible refine wpSeq_put ?_; go_big_move) | (try simp only [Act.put, List.setIfInBounds_toArray, List.set_cons_zero, List.set_cons_succ]))
              refine seq_take (oi := ⟨some 266, _, _, _, _, _⟩) (v := ?_) rfl (Or.inl ⟨by kernel_rfl, ?_⟩) (by assumption) ?_
              rotate_left
              · (intro wS hSw; (try dsimp only at hSw); have q1 := add_wn; obtain ⟨⟨d0, d1, d2, d3⟩, d4, d5, d6, d7⟩ := hSw; refine execV (fun rho hk1 hk2 hk3 hk => ?_); have e21_ := (hk 21).trans (evalP (fg8 (fg8 (fg1 (fg1 (fg1 (fg1 (fg1 fg0)))))))); clear hk; go_simp; (try with_reducible rfl))
              (first | (with_reducible refine wpSeq_put ?_; go_big_move) | (try simp only [Act.put, List.setIfInBounds_toArray, List.set_cons_zero, List.set_cons_succ]))
              refine seq_take (oi := ⟨some 267, _, _, _, _, _⟩) (v := ?_) rfl (Or.inl ⟨by kernel_rfl, ?_⟩) (by assumption) ?_
              rotate_left
              · (intro wS hSw; (try dsimp only at hSw); have q1 := add_wn; obtain ⟨⟨d0, d1, d2, d3⟩, d4, d5, d6, d7⟩ := hSw; refine execV (fun rho hk1 hk2 hk3 hk => ?_); have e265_ := (hk 265).trans (evalP (fg64 (fg64 (fg64 (fg64 (fg8 (fg1 fg0))))))); have e266_ := (hk 266).trans (evalP (fg64 (fg64 (fg64 (fg64 (fg8 (fg1 (fg1 fg0)))))))); clear hk; go_simp; (try with_reducible rfl))
              (first | (with_reducible refine wpSeq_put ?_; go_big_move) | (try simp only [Act.put, List.setIfInBounds_toArray, List.set_cons_zero, List.set_cons_succ]))
              refine seq_take (oi := ⟨some 268, _, _, _, _, _⟩) (v := ?_) rfl (Or.inl ⟨by kernel_rfl, ?_⟩) (by assumption) ?_
              rotate_left
              · (intro wS hSw; (try dsimp only at hSw); have q1 := add_wn; obtain ⟨⟨d0, d1, d2, d3⟩, d4, d5, d6, d7⟩ := hSw; refine execV (fun rho hk1 hk2 hk3 hk => ?_); have e10_ := (hk 10).trans (evalP (fg8 (fg1 (fg1 fg0)))); clear hk; go_simp; (try with_reducible rfl))
              (first | (with_reducible refine wpSeq_put ?_; go_big_move) | (try simp only [Act.put, List.setIfInBounds_toArray, List.set_cons_zero, List.set_cons_succ]))
              refine seq_take (oi := ⟨some 269, _, _, _, _, _⟩) (v := ?_) rfl (Or.inl ⟨by kernel_rfl, ?_⟩) (by assumption) ?_
              rotate_left
              · (intro wS hSw; (try dsimp only at hSw); have q1 := add_wn; obtain ⟨⟨d0, d1, d2, d3⟩, d4, d5, d6, d7⟩ := hSw; refine execV (fun rho hk1 hk2 hk3 hk => ?_); have e268_ := (hk 268).trans (evalP (fg64 (fg64 (fg64 (fg64 (fg8 (fg1 (fg1 (fg1 (fg1 fg0)))))))))); clear hk; go_simp; (try with_reducible rfl))
              (first | (with_reducible refine wpSeq_put ?_; go_big_move) | (try simp only [Act.put, List.setIfInBounds_toArray, List.set_cons_zero, List.set_cons_succ]))
              refine seq_take (oi := ⟨some 270, _, _, _, _, _⟩) (v := ?_) rfl (Or.inl ⟨by kernel_rfl, ?_⟩) (by assumption) ?_
              rotate_left
              · (intro wS hSw; (try dsimp only at hSw); have q1 := add_wn; obtain ⟨⟨d0, d1, d2, d3⟩, d4, d5, d6, d7⟩ := hSw; refine execV (fun rho hk1 hk2 hk3 hk => ?_); have e269_ := (hk 269).trans (evalP (fg64 (fg64 (fg64 (fg64 (fg8 (fg1 (fg1 (fg1 (fg1 (fg1 fg0))))))))))); clear hk; go_simp; (try with_reducible rfl))
              (first | (with_reducible refine wpSeq_put ?_; go_big_move) | (try simp only [Act.put, List.setIfInBounds_toArray, List.set_cons_zero, List.set_cons_succ]))
              refine seq_take (oi := ⟨some 271, _, _, _, _, _⟩) (v := ?_) rfl (Or.inl ⟨by kernel_rfl, ?_⟩) (by assumption) ?_
              rotate_left
              · (intro wS hSw; (try dsimp only at hSw); have q1 := add_wn; obtain ⟨⟨d0, d1, d2, d3⟩, d4, d5, d6, d7⟩ := hSw; refine execV (fun rho hk1 hk2 hk3 hk => ?_); have e22_ := (hk 22).trans (evalP (fg8 (fg8 (fg1 (fg1 (fg1 (fg1 (fg1 (fg1 fg0))))))))); clear hk; go_simp; (try with_reducible rfl))
              (first | (with_reducible refine wpSeq_put ?_; go_big_move) | (try simp only [Act.put, List.setIfInBounds_toArray, List.set_cons_zero, List.set_cons_succ]))
              refine seq_take (oi := ⟨some 272, _, _, _, _, _⟩) (v := ?_) rfl (Or.inl ⟨by kernel_rfl, ?_⟩) (by assumption) ?_
              rotate_left
              · (intro wS hSw; (try dsimp only at hSw); have q1 := add_wn; obtain ⟨⟨d0, d1, d2, d3⟩, d4, d5, d6, d7⟩ := hSw; refine execV (fun rho hk1 hk2 hk3 hk => ?_); have e270_ := (hk 270).trans (evalP (fg64 (fg64 (fg64 (fg64 (fg8 (fg1 (fg1 (fg1 (fg1 (fg1 (fg1 fg0)))))))))))); have e271_ := (hk 271).trans (evalP (fg64 (fg64 (fg64 (fg64 (fg8 (fg1 (fg1 (fg1 (fg1 (fg1 (fg1 (fg1 fg0))))))))))))); clear hk; go_simp; (try with_reducible rfl))
              (first | (with_reducible refine wpSeq_put ?_; go_big_move) | (try simp only [Act.put, List.setIfInBounds_toArray, List.set_cons_zero, List.set_cons_succ]))
              refine seq_take (oi := ⟨some 273, _, _, _, _, _⟩) (v := ?_) rfl (Or.inl ⟨by kernel_rfl, ?_⟩) (by assumption) ?_
              rotate_left
              · (intro wS hSw; (try dsimp only at hSw); have q1 := add_wn; obtain ⟨⟨d0, d1, d2, d3⟩, d4, d5, d6, d7⟩ := hSw; refine execV (fun rho hk1 hk2 hk3 hk => ?_); have e10_ := (hk 10).trans (evalP (fg8 (fg1 (fg1 fg0)))); clear hk; go_simp; (try with_reducible rfl))
              (first | (with_reducible refine wpSeq_put ?_; go_big_move) | (try simp only [Act.put, List.setIfInBounds_toArray, List.set_cons_zero, List.set_cons_succ]))
              refine seq_take (oi := ⟨some 274, _, _, _, _, _⟩) (v := ?_) rfl (Or.inl ⟨by kernel_rfl, ?_⟩) (by assumption) ?_
              rotate_left
              · (intro wS hSw; (try dsimp only at hSw); have q1 := add_wn; obtain ⟨⟨d0, d1, d2, d3⟩, d4, d5, d6, d7⟩ := hSw; refine execV (fun rho hk1 hk2 hk3 hk => ?_); have e273_ := (hk 273).trans (evalP (fg64 (fg64 (fg64 (fg64 (fg8 (fg8 (fg1 fg0)))))))); clear hk; go_simp; (try with_reducible rfl))
              (first | (with_reducible refine wpSeq_put ?_; go_big_move) | (try simp only [Act.put, List.setIfInBounds_toArray, List.set_cons_zero, List.set_cons_succ]))
              refine seq_take (oi := ⟨some 275, _, _, _, _, _⟩) (v := ?_) rfl (Or.inl ⟨by kernel_rfl, ?_⟩) (by assumption) ?_
              rotate_left
              · (intro wS hSw; (try dsimp only at hSw); have q1 := add_wn; obtain ⟨⟨d0, d1, d2, d3⟩, d4, d5, d6, d7⟩ := hSw; refine execV (fun rho hk1 hk2 hk3 hk => ?_); have e274_ := (hk 274).trans (evalP (fg64 (fg64 (fg64 (fg64 (fg8 (fg8 (fg1 (fg1 fg0))))))))); clear hk; go_simp; (try with_reducible rfl))
              (first | (with_reducible refine wpSeq_put ?_; go_big_move) | (try simp only [Act.put, List.setIfInBounds_toArray, List.set_cons_zero, List.set_cons_succ]))
              refine seq_take (oi := ⟨some 276, _, _, _, _, _⟩) (v := ?_) rfl (Or.inl ⟨by kernel_rfl, ?_⟩) (by assumption) ?_
              rotate_left
              · (intro wS hSw; (try dsimp only at hSw); have q1 := add_wn; obtain ⟨⟨d0, d1, d2, d3⟩, d4, d5, d6, d7⟩ := hSw; refine execV (fun rho hk1 hk2 hk3 hk => ?_); have e23_ := (hk 23).trans (evalP (fg8 (fg8 (fg1 (fg1 (fg1 (fg1 (fg1 (fg1 (fg1 fg0)))))))))); clear hk; go_simp; (try with_reducible rfl))
              (first | (with_reducible refine wpSeq_put ?_; go_big_move) | (try simp only [Act.put, List.setIfInBounds_toArray, List.set_cons_zero, List.set_cons_succ]))
              refine seq_take (oi := ⟨some 277, _, _, _, _, _⟩) (v := ?_) rfl (Or.inl ⟨by kernel_rfl, ?_⟩) (by assumption) ?_
              rotate_left
              · (intro wS hSw; (try dsimp only at hSw); have q1 := add_wn; obtain ⟨⟨d0, d1, d2, d3⟩, d4, d5, d6, d7⟩ := hSw; refine execV (fun rho hk1 hk2 hk3 hk => ?_); have e275_ := (hk 275).trans (evalP (fg64 (fg64 (fg64 (fg64 (fg8 (fg8 (fg1 (fg1 (fg1 fg0)))))))))); have e276_ := (hk 276).trans (evalP (fg64 (fg64 (fg64 (fg64 (fg8 (fg8 (fg1 (fg1 (fg1 (fg1 fg0))))))))))); clear hk; go_simp; (try with_reducible rfl))
              (first | (with_reducible refine wpSeq_put ?_; go_big_move) | (try simp only [Act.put, List.setIfInBounds_toArray, List.set_cons_zero, List.set_cons_succ]))
              refine seq_take (oi := ⟨some 278, _, _, _, _, _⟩) (v := ?_) rfl (Or.inl ⟨by kernel_rfl, ?_⟩) (by assumption) ?_
              rotate_left
              · (intro wS hSw; (try dsimp only at hSw); have q1 := add_wn; obtain ⟨⟨d0, d1, d2, d3⟩, d4, d5, d6, d7⟩ := hSw; refine execV (fun rho hk1 hk2 hk3 hk => ?_); have e10_ := (hk 10).trans (evalP (fg8 (fg1 (fg1 fg0)))); clear hk; go_simp; (try with_reducible rfl))
              (first | (with_reducible refine wpSeq_put ?_; go_big_move) | (try simp only [Act.put, List.setIfInBounds_toArray, List.set_cons_zero, List.set_cons_succ]))
              refine seq_take (oi := ⟨some 279, _, _, _, _, _⟩) (v := ?_) rfl (Or.inl ⟨by kernel_rfl, ?_⟩) (by assumption) ?_
              rotate_left
              · (intro wS hSw; (try dsimp only at hSw); have q1 := add_wn; obtain ⟨⟨d0, d1, d2, d3⟩, d4, d5, d6, d7⟩ := hSw; refine execV (fun rho hk1 hk2 hk3 hk => ?_); have e278_ := (hk 278).trans (evalP (fg64 (fg64 (fg64 (fg64 (fg8 (fg8 (fg1 (fg1 (fg1 (fg1 (fg1 (fg1 fg0))))))))))))); clear hk; go_simp; (try with_reducible rfl))
              (first | (with_reducible refine wpSeq_put ?_; go_big_move) | (try simp only [Act.put, List.setIfInBounds_toArray, List.set_cons_zero, List.set_cons_succ]))
              refine seq_take (oi := ⟨some 280, _, _, _, _, _⟩) (v := ?_) rfl (Or.inl ⟨by kernel_rfl, ?_⟩) (by assumption) ?_
              rotate_left
              · (intro wS hSw; (try dsimp only at hSw); have q1 := add_wn; obtain ⟨⟨d0, d1, d2, d3⟩, d4, d5, d6, d7⟩ := hSw; refine execV (fun rho hk1 hk2 hk3 hk => ?_); have e279_ := (hk 279).trans (evalP (fg64 (fg64 (fg64 (fg64 (fg8 (fg8 (fg1 (fg1 (fg1 (fg1 (fg1 (fg1 (fg1 fg0)))))))))))))); clear hk; go_simp; (try with_reducible rfl))
              (first | (with_reducible refine wpSeq_put ?_; go_big_move) | (try simp only [Act.put, List.setIfInBounds_toArray, List.set_cons_zero, List.set_cons_succ]))
              refine seq_take (oi := ⟨some 281, _, _, _, _, _⟩) (v := ?_) rfl (Or.inl ⟨by kernel_rfl, ?_⟩) (by assumption) ?_
              rotate_left
              · (intro wS hSw; (try dsimp only at hSw); have q1 := add_wn; obtain ⟨⟨d0, d1, d2, d3⟩, d4, d5, d6, d7⟩ := hSw; refine execV (fun rho hk1 hk2 hk3 hk => ?_); have e24_ := (hk 24).trans (evalP (fg8 (fg8 (fg8 fg0)))); clear hk; go_simp; (try with_reducible rfl))
              (first | (with_reducible refine wpSeq_put ?_; go_big_move) | (try simp only [Act.put, List.setIfInBounds_toArray, List.set_cons_zero, List.set_cons_succ]))
              refine seq_take (oi := ⟨some 282, _, _, _, _, _⟩) (v := ?_) rfl (Or.inl ⟨by kernel_rfl, ?_⟩) (by assumption) ?_
              rotate_left
              · (intro wS hSw; (try dsimp only at hSw); have q1 := add_wn; obtain ⟨⟨d0, d1, d2, d3⟩, d4, d5, d6, d7⟩ := hSw; refine execV (fun rho hk1 hk2 hk3 hk => ?_); have e280_ := (hk 280).trans (evalP (fg64 (fg64 (fg64 (fg64 (fg8 (fg8 (fg8 fg0)))))))); have e281_ := (hk 281).trans (evalP (fg64 (fg64 (fg64 (fg64 (fg8 (fg8 (fg8 (fg1 fg0))))))))); clear hk; go_simp; (try with_reducible rfl))
              (first | (with_reducible refine wpSeq_put ?_; go_big_move) | (try simp only [Act.put, List.setIfInBounds_toArray, List.set_cons_zero, List.set_cons_succ]))
              refine seq_step (o := ⟨some 283, _, _, _, _, _⟩) rfl (fun K hK => ?_)
              with_reducible refine wantedP (by kernel_rfl) ?_
              (first | go_big_op | go_simp)
              refine hK.out _ _ ?_ (fun hHeld => ?_)
              · ((try dsimp only); (first | with_reducible exact hst0 | with_reducible exact hHeld | exact ⟨⟨cell_allocW hHeld.1.1 _, cell_allocW hHeld.1.2.1 _, cell_allocW hHeld.1.2.2.1 _, cell_allocW hHeld.1.2.2.2 _⟩, cell_allocW hHeld.2.1 _, cell_allocW hHeld.2.2.1 _, cell_allocW hHeld.2.2.2.1 _, cell_allocW hHeld.2.2.2.2 _⟩))
              clear hK K
              (first | (with_reducible refine wpSeq_put ?_; go_big_move) | (try simp only [Act.put, List.setIfInBounds_toArray, List.set_cons_zero, List.set_cons_succ]))
              refine seq_take (oi := ⟨some 10, _, _, _, _, _⟩) (v := ?_) rfl (Or.inl ⟨by kernel_rfl, ?_⟩) (by assumption) ?_
              rotate_left
              · (intro wS hSw; (try dsimp only at hSw); have q1 := add_wn; obtain ⟨⟨d0, d1, d2, d3⟩, d4, d5, d6, d7⟩ := hSw; refine execV (fun rho hk1 hk2 hk3 hk => ?_); have e283_ := (hk 283).trans (evalP (fg64 (fg64 (fg64 (fg64 (fg8 (fg8 (fg8 (fg1 (fg1 (fg1 fg0))))))))))); clear hk; go_simp; (try with_reducible rfl))
              (first | (with_reducible refine wpSeq_put ?_; go_big_move) | (try simp only [Act.put, List.setIfInBounds_toArray, List.set_cons_zero, List.set_cons_succ]))
              refine seq_done ?_
              clear hst0 hHeld HS0
              have hw13 : IntKind.i64.wrap (64 * (q : Int) + 64) = 64 * (q : Int) + 64 := by rw [IntKind.wrap_i64]; omega
              have hb38 : Below wr.heap.size wr ((wr.alloc (.cells #[wv (st.a + r.a), wv (st.b + r.b), wv (st.c + r.c), wv (st.d + r.d), wv (st.e + r.e), wv (st.f + r.f), wv (st.g + r.g), wv (st.h + r.h)] 221)).drew) := (below_new wr _).drew
              have hs38 : SlW ((wr.alloc (.cells #[wv (st.a + r.a), wv (st.b + r.b), wv (st.c + r.c), wv (st.d + r.d), wv (st.e + r.e), wv (st.f + r.f), wv (st.g + r.g), wv (st.h + r.h)] 221)).drew) (some ⟨wr.heap.size, 0, none⟩) 8 [st.a + r.a, st.b + r.b, st.c + r.c, st.d + r.d, st.e + r.e, st.f + r.f, st.g + r.g, st.h + r.h] := Sl.below (Sl.lits wr (wvs [st.a + r.a, st.b + r.b, st.c + r.c, st.d + r.d, st.e + r.e, st.f + r.f, st.g + r.g, st.h + r.h]) 221 (by simp [maxLen])) (Below.drew (Below.refl _ _))
              have hD38 := HDr.out.call hb38
              have HE := Lib.hid (show DsI w _ C E (some ⟨wr.heap.size, 0, none⟩) cc d 8 ks m [st.a + r.a, st.b + r.b, st.c + r.c, st.d + r.d, st.e + r.e, st.f + r.f, st.g + r.g, st.h + r.h] from ⟨hD38.mm, hD38.c, hD38.b, hs38⟩)
              clear hb38 hs38 hD38 HDr
              go_wp2_with fail
              refine ⟨⟨q + 1, some ⟨wr.heap.size, 0, none⟩, 8, _, by omega, congrArg (Value.int .i64) (by omega), rfl, rfl, hl2, HE.out⟩, by simp [intOf]; omega⟩
            · obtain rfl : q = Q := by omega
              obtain ⟨st, hst⟩ : ∃ st, blks m shaH q = st := ⟨_, rfl⟩
              have hQd : Hid (shaD t = st.dg) := (show _ = _ from by rw [HQ.out, hst])
              rw [hst] at hle
              have hdl : (st.l.flatMap four).length = 32 := by simp [S8.l, four]
              have hfull := Lib.hid (show dgk (st.l.flatMap four) 32 = dga (shaD t) from by rw [dgk_full _ hdl, hQd.out]; rfl)
              have hsize := fun k hk => Lib.hid (dgk_size (st.l.flatMap four) k hk hdl)
              have hset := fun k hk => Lib.hid (dgk_set (st.l.flatMap four) k hk hdl)
              have hbyte := Lib.hid (fun (i a b : Nat) (h : i = 4 * a + b) (ha : a < 8) (hb : b < 4) => four_byte st h ha hb)
              have hMx := hD.mm.alloc (dgk (st.l.flatMap four) 0) 42
              have hSx : SlW (wr.alloc (.cells (dgk (st.l.flatMap four) 0) 42)) S sd l := Sl.below hD.s (below_new wr _)
              have hSlt : ∀ ad, S = some ad → ad.block < wr.heap.size := fun ad hA => Sl.lt0 hD.s (by rw [hle.out]; simp [S8.l]) ad.block (by rw [hA]; rfl)
              have hz0 := Lib.hid (dgk_zero (st.l.flatMap four))
              have hds := fun d => Lib.hid (dga_size d)
              have hda := fun d => Lib.hid (dga_all d)
              have HLE := Lib.hid (show l = st.l from hle.out)
              have HDL := Lib.hid hdl
              generalize st.l.flatMap four = L at *
              rw [hz0.out] at hMx hSx
              rename World => wz
              clear hD hle hst hQd HQ
              go_upto_region 40 with (first | (refine wpl_buildDz (by kernel_rfl) rfl ?_) | (refine wpl_storeN rfl 42 _ _ rfl _ (dga dg0) 42 rfl rfl (by rw [(hds dg0).out]; kernel_rfl) (by rw [(hds dg0).out]; rfl) (hda dg0).out ?_))
              refine gen1 (T := fun W => Mm w W [(wz.heap.size, 42, dga dg0), (w.heap.size, 42, dga dg0)] [] ∧ SlW W S sd l) ⟨hMx, hSx⟩ (fun w4 hT => ?_)
              clear hMx hSx
              obtain ⟨hM4, hS4⟩ := hT
              rw [← hz0.out] at hM4
              have hl8' : l.length = 8 := by rw [HLE.out]; rfl
              go_wp2_with fail
              go_loopw [29] (fun x wr => ∃ i : Nat, i ≤ 32 ∧ x = .int .i64 i ∧ Mm w wr [(wz.heap.size, 42, dgk L i), (w.heap.size, 42, dga dg0)] [] ∧ SlW wr S sd l) (fun x _ => 32 - (intOf x).toNat)
              case atStart => exact ⟨0, by omega, rfl, hM4, hS4⟩
              case round =>
                clear hM4 hS4
                obtain ⟨i, hi, rfl, hM4, hS4⟩ := hrel
                rcases Nat.lt_or_ge i 32 with hlt | hge
                · obtain ⟨a, b, hab, ha, hb⟩ : ∃ a b, i = 4 * a + b ∧ a < 8 ∧ b < 4 := ⟨i / 4, i % 4, by omega, by omega, by omega⟩
                  obtain ⟨gs, os, rfl, hcs⟩ := SlW.at hS4 (k := a) (by omega)
                  have hby := hbyte.out i a b hab ha hb
                  rw [← HLE.out] at hby
                  obtain ⟨s, hs⟩ : ∃ s, 24 - 8 * b = s := ⟨_, rfl⟩
                  rw [hs] at hby
                  rw [getD_get L 0 (by rw [HDL.out]; exact hlt)] at hby
                  have hset2 := Lib.hid ((hset i hlt).out)
                  have hfz := hM4.b0.frozen i
                  obtain ⟨v0, hv0⟩ : ∃ v, World.cell? _ ⟨wz.heap.size, i, none⟩ = some v := ⟨_, (hM4.b0.cell i).trans (Array.getElem?_eq_getElem (by rw [(hsize i (by omega)).out]; omega))⟩
                  have hq1 : (i : Int).tdiv 4 = (a : Int) := by rw [Int.tdiv_eq_ediv_of_nonneg (by omega)]; omega
                  have hq2 : (i : Int) / 4 = (a : Int) := by omega
                  have hr1 : (i : Int).tmod 4 = (b : Int) := by rw [Int.tmod_eq_emod_of_nonneg (by omega)]; omega
                  have hr2 : (i : Int) % 4 = (b : Int) := by omega
                  have hw1 : IntKind.i64.wrap (8 * (b : Int)) = 8 * (b : Int) := by rw [IntKind.wrap_i64]; omega
                  have hw2 : IntKind.i64.wrap (24 - 8 * (b : Int)) = (s : Int) := by rw [IntKind.wrap_i64]; omega
                  have hw3 : IntKind.u64.wrap (s : Int) = (s : Int) := by show (s : Int) % 18446744073709551616 = _; omega
                  have ha0 : (a : Int) < 8 := by omega
                  have hi0 : (i : Int) < 32 := by omega
                  have hs0 : (s : Int) < 32 := by omega
                  have hs1 : s < 32 := by omega
                  have hmin : min s 32 = s := by omega
                  generalize l.getD a 0 = xa at *
                  generalize L[i] = bi at *
                  have HM4 := Lib.hid hM4
                  have HS4 := Lib.hid hS4
                  clear hM4 hS4 hbyte hset hsize hab hs
                  go_wp2_with fail
                  rw [← hby]
                  have hMx := HM4.out.set 0 i (bv bi) rfl
                  rw [hset2.out] at hMx
                  exact ⟨⟨i + 1, hlt, by go_num, hMx, SlW.setB HS4.out hSlt (Nat.le_refl _) _⟩, by simp [intOf]; omega⟩
                · obtain rfl : i = 32 := by omega
                  rw [hfull.out] at hM4
                  have hR4 := hM4.b1.row (cs := dga (shaD t))
                  have hb4 := below_setRow hM4.bel (Nat.le_refl _) (dga (shaD t))
                  have HM4 := Lib.hid hM4
                  clear hM4 hS4 hbyte hset hsize hfull
                  rw [show ((32 : Nat) : Int) = 32 from rfl]
                  go_wp2_with (first | (refine wpl_loadG rfl 42 _ rfl ⟨wz.heap.size, 0, none⟩ (dga (shaD t)) rfl HM4.out.b0.cells _ Tryz.underlying42 rfl (by rw [(hds (shaD t)).out]; kernel_rfl) ?_) | (refine wpList_store_row rfl 42 _ _ rfl w.heap.size (dga (shaD t)) rfl rfl 42 (dga dg0) HM4.out.b1 (by rw [(hds (shaD t)).out]; kernel_rfl) (by rw [(hds (shaD t)).out, (hds dg0).out]) (hda (shaD t)).out ?_))
                  exact bodyPost_ret (res_dgR rfl rfl (g := w.heap.size) hR4) rfl ⟨rfl, hb4⟩
end Go.Proofs.YtabnndjdkjkciaaGreatDoor

namespace Go.Proofs.YtabnndjdkjkciaaGreatDoor
open Go.RowKit
attribute [local go_sem ↓] Go.wp_at_zero Go.wp_at_succ

set_option maxRecDepth 100000 in
theorem rOf03_any {A : Option Addr} {c : Nat} (t : List UInt8) (w : World) (h : SlB w A c t) (hl : t.length ≤ 1000000) :
    Calls Tryz.prog 25 #[.slice A t.length c] w fun e w' => e = .returned (.agg (dga (shaD t))) ∧ Below w.heap.size w w' := by
  have hM := (Mm.start w).alloc (dga dg0) 42
  have hds := Lib.hid (dga_size (shaD t))
  have hd0 := Lib.hid (dga_size dg0)
  have hda := Lib.hid (dga_all (shaD t))
  have H := Lib.hid (fun (W : World) (hh : Below w.heap.size w W) (C F : Option Addr) (cc fc : Nat) (ks hs : List W32) (hC : SlW W C cc ks) (hF : SlW W F fc hs) (hks : Hid (ks = shaK)) (hhs : Hid (hs = shaH.l)) => rDgSum_any t ks hs W (Sl.below h hh) hC hF hks hhs hl)
  generalize shaD t = d at *
  go_enter Tryz.func25, Tryz.ntmps25
  go_upto_region 1 with (fail)
  refine gen1 (T := fun W => Mm w W [(w.heap.size, 42, dga dg0)] []) hM (fun w0 hM => ?_)
  go_wp2_with fail
  refine (Tables_any _).mono ?_
  rintro e w1 ⟨A1, c1, m1, B1, d1, r1, rfl, hm, hr, ho, hs, hb⟩
  have hM1 := hM.call hb
  have HR := Lib.hid (H.out w1 hM1.bel _ _ _ _ m1 r1 (Own.sl ho) hs hm hr)
  clear hm hr ho hs hM hb
  go_wp2_with fail
  refine HR.out.mono ?_
  clear HR
  rintro e w2 ⟨rfl, hb2⟩
  have hM2 := hM1.call hb2
  go_wp2_with (refine wpList_store_row rfl 42 _ _ rfl w.heap.size (dga d) rfl rfl 42 (dga dg0) hM2.b0 (by rw [hds.out]; kernel_rfl) (by rw [hd0.out, hds.out]) hda.out ?_)
  exact bodyPost_ret (res_dgR rfl rfl (g := w.heap.size) hM2.b0.row) rfl ⟨rfl, below_setRow hM2.bel (Nat.le_refl _) _⟩
end Go.Proofs.YtabnndjdkjkciaaGreatDoor

namespace Go.Proofs.YtabnndjdkjkciaaGreatDoor
open Go.RowKit
attribute [local go_sem ↓] Go.wp_at_zero Go.wp_at_succ

/-- a manifest out of a reader -/
def mfRead (s : List UInt8 × Nat) : Mf × (List UInt8 × Nat) :=
  let r0 := rWithin 999999 s
  let r1 := rWithin 1048576 r0.2
  let r2 := rWithin 1048576 r1.2
  let r3 := rWithin 1048576 r2.2
  let rd := rDg r3.2
  let rn := rNum rd.2
  let s5 := if 1024 < rn.1 then rFail 3 rn.2 else rn.2
  let l := crLoop (min rn.1 1024) (r1.1 : Int) s5
  (((r0.1 : Int), (r1.1 : Int), (r2.1 : Int), (r3.1 : Int), rd.1, l.1), l.2)
def mfz : Mf := (0, 0, 0, 0, dg0, [])
def mfEnd (x : Mf × (List UInt8 × Nat)) : Mf × Nat := if rEnd x.2 ≠ 0 then (mfz, rEnd x.2) else if mchk x.1 ≠ 0 then (mfz, mchk x.1) else (x.1, 0)
/-- the manifest that bytes are; an error's number -/
def mfTake (b : List UInt8) : Mf × Nat := if (fone b).2 ≠ 0 then (mfz, (fone b).2) else mfEnd (mfRead ((fone b).1, 0))
theorem mfRead_eq {s s0 s1 s2 s3 s4 s5 s6 : List UInt8 × Nat} {nu f tt q n : Nat} {d : Dg} (h0 : rWithin 999999 s = (nu, s0)) (h1 : rWithin 1048576 s0 = (f, s1)) (h2 : rWithin 1048576 s1 = (tt, s2)) (h3 : rWithin 1048576 s2 = (q, s3)) (h4 : rDg s3 = (d, s4)) (h5 : rNum s4 = (n, s5)) (h6 : (if 1024 < n then rFail 3 s5 else s5) = s6) :
    mfRead s = (((nu : Int), (f : Int), (tt : Int), (q : Int), d, (crLoop (min n 1024) f s6).1), (crLoop (min n 1024) f s6).2) := by
  unfold mfRead
  simp only [h0, h1, h2, h3, h4, h5, h6]
theorem mfEnd_1 {x : Mf × (List UInt8 × Nat)} (h : rEnd x.2 ≠ 0) : mfEnd x = (mfz, rEnd x.2) := by unfold mfEnd; rw [if_pos h]
theorem mfEnd_2 {x : Mf × (List UInt8 × Nat)} (h : rEnd x.2 = 0) (h2 : mchk x.1 ≠ 0) : mfEnd x = (mfz, mchk x.1) := by unfold mfEnd; rw [if_neg (by omega), if_pos h2]
theorem mfEnd_3 {x : Mf × (List UInt8 × Nat)} (h : rEnd x.2 = 0) (h2 : mchk x.1 = 0) : mfEnd x = (x.1, 0) := by unfold mfEnd; rw [if_neg (by omega), if_neg (by omega)]
theorem rDg_len (s : List UInt8 × Nat) : (rDg s).2.1.length ≤ s.1.length := rFixed_len 32 s
abbrev mza : Array Value := mfa 0 0 0 0 dg0 none 0 0
theorem res_mf2 {fn : Func} {a b : Nat} {tmps : Array Value} {w : World} {g : Nat} {n f t r : Int} {d : Dg} {A : Option Addr} {k c : Nat} (hres : fn.results = #[.cell a 57, .tmp b]) (ha : tmps.getD a undef = .pointer (some ⟨g, 0, none⟩)) (hB : Blk w g 57 (mfa n f t r d A k c)) : (results fn tmps).run Tryz.prog w = .ok (.tuple #[.agg (mfa n f t r d A k c), tmps.getD b undef]) w := by
  have h := run_loadVar_at (P := Tryz.prog) w ⟨g, 0, none⟩ 57 (mfa n f t r d A k c) hB.cells _ Tryz.underlying57 rfl (by rw [mfa_size]; kernel_rfl)
  have ha' : tmps[a]?.getD undef = .pointer (some ⟨g, 0, none⟩) := by simpa using ha
  simp [results, hres, asAddr, h, ha']
theorem built_mz : Tryz.prog.built 57 [] = some mza := by kernel_rfl
theorem wpl_buildMz {ops : Array Oper} {rest : List Oper} {o : Oper} {a : Act} {w : World} {Q : Exit → Act → World → Prop} (hgd : o.guard = none) (ho : o.op = .build 57 #[])
    (h : wpList Tryz.prog ops Q rest (a.put o.dst (.agg mza)) w) : wpList Tryz.prog ops Q (o :: rest) a w := by
  have hl : ((#[] : Array (Nat × Operand)).map fun (i, x) => (i, a.eval x)).toList = [] := by simp
  refine wpList_build hgd 57 _ ho ?_ ?_
  · rw [hl, built_mz]; rfl
  · rw [hl, built_mz]; exact h
theorem built_mM (n f t r : Int) : ∀ d : Dg, Tryz.prog.built 57 [(0, .int .i64 n), (1, .int .i64 f), (2, .int .i64 t), (3, .int .i64 r), (4, .agg (dga d))] = some (mfa n f t r d none 0 0) := by
  refine dg_cases ?_
  intros
  kernel_rfl
theorem wpl_buildMM {ops : Array Oper} {rest : List Oper} {o : Oper} {a : Act} {w : World} {Q : Exit → Act → World → Prop} (hgd : o.guard = none) (x0 x1 x2 x3 x5 : Operand) (ho : o.op = .build 57 #[(0, x0), (1, x1), (2, x2), (3, x3), (4, x5)])
    {n f t r : Int} {d : Dg} (h0 : a.eval x0 = .int .i64 n) (h1 : a.eval x1 = .int .i64 f) (h2 : a.eval x2 = .int .i64 t) (h3 : a.eval x3 = .int .i64 r) (h5 : a.eval x5 = .agg (dga d))
    (h : wpList Tryz.prog ops Q rest (a.put o.dst (.agg (mfa n f t r d none 0 0))) w) : wpList Tryz.prog ops Q (o :: rest) a w := by
  have hl : ((#[(0, x0), (1, x1), (2, x2), (3, x3), (4, x5)] : Array (Nat × Operand)).map fun (i, x) => (i, a.eval x)).toList = [(0, .int .i64 n), (1, .int .i64 f), (2, .int .i64 t), (3, .int .i64 r), (4, .agg (dga d))] := by
    simp [h0, h1, h2, h3, h5]
  refine wpList_build hgd 57 _ ho ?_ ?_
  · rw [hl, built_mM]; rfl
  · rw [hl, built_mM]; exact h
/-- a manifest, and an error's number -/
def GivesMf (w0 : World) (r : Mf × Nat) (e : Ending) (w' : World) : Prop :=
  ∃ A c m, e = .returned (.tuple #[.agg (mfa r.1.1 r.1.2.1 r.1.2.2.1 r.1.2.2.2.1 r.1.2.2.2.2.1 A (List.length m) c), errv r.2]) ∧ Hid (m = r.1.2.2.2.2.2) ∧ OwnP w' w0.heap.size A c m ∧ Below w0.heap.size w0 w'
set_option maxRecDepth 100000 in
set_option maxHeartbeats 2000000 in
theorem MTake_any (A : Option Addr) (c : Nat) (b : List UInt8) (w : World) (hs : SlB w A c b) (hl : b.length ≤ 1000000) :
    Calls Tryz.prog 19 #[.slice A b.length c] w (GivesMf w (mfTake b)) := by
  have hM := (Mm.start w).alloc mza 57
  have hfl := foneLen b
  have hzw : (w.alloc (.cells mza 57)).heap.size = w.heap.size + 1 := by simp
  go_enter Tryz.func19, Tryz.ntmps19
  go_upto_region 1 with (fail)
  refine gen1 (T := fun W => Mm w W [(w.heap.size, 57, mza)] []) hM (fun w0 hM => ?_)
  clear hzw
  go_wp2_with fail
  refine (FOne_any A c b _ (hs.below hM.bel) (by omega)).mono ?_
  rintro e w1 ⟨A1, c1, m1, rfl, hm1, hs1, hb1⟩
  replace hM := hM.call hb1
  clear hb1
  rcases errv_cases (fone b).2 with ⟨h0, hev⟩ | ⟨k, hk, hke, hev⟩
  · have HT0 := Lib.hid (show mfTake b = mfEnd (mfRead (m1, 0)) from by unfold mfTake; rw [if_neg (by omega), hm1.out])
    have hm1l : m1.length ≤ 1000000 := by rw [hm1.out]; omega
    rw [hev]
    clear hev h0 hfl hm1
    go_wp2_with fail
    refine (RNew_any A1 c1 m1 _ hs1).mono ?_
    rintro e w2 ⟨g, rfl, hg, hR, hb2⟩
    have hM2 := hM.callAdd hb2 (a := some g) (fun k hk => by injection hk with hk; subst hk; exact ⟨hg, hR.lt⟩)
    have hB0 : w.heap.size < w1.heap.size := hM.b0.lt
    have hB2 := hb2.size
    obtain ⟨nu, s0, h0⟩ : ∃ n s, rWithin 999999 (m1, 0) = (n, s) := ⟨_, _, rfl⟩
    obtain ⟨f, s1, h1⟩ : ∃ n s, rWithin 1048576 s0 = (n, s) := ⟨_, _, rfl⟩
    obtain ⟨tt, s2, h2⟩ : ∃ n s, rWithin 1048576 s1 = (n, s) := ⟨_, _, rfl⟩
    obtain ⟨q, s3, h3⟩ : ∃ n s, rWithin 1048576 s2 = (n, s) := ⟨_, _, rfl⟩
    obtain ⟨d, s4, h4⟩ : ∃ n s, rDg s3 = (n, s) := ⟨_, _, rfl⟩
    obtain ⟨n, s5, h5⟩ : ∃ n s, rNum s4 = (n, s) := ⟨_, _, rfl⟩
    obtain ⟨s6, h6⟩ : ∃ s, (if 1024 < n then rFail 3 s5 else s5) = s := ⟨_, rfl⟩
    have hfb : f ≤ 1048576 := by have := rWithin_le 1048576 s0; rw [h1] at this; exact this
    have HC := Lib.hid (mfRead_eq h0 h1 h2 h3 h4 h5 h6)
    have hl3 : s3.1.length ≤ 1000000 := by
      have l0 := rWithin_len 999999 (m1, 0)
      have l1 := rWithin_len 1048576 s0
      have l2 := rWithin_len 1048576 s1
      have l3 := rWithin_len 1048576 s2
      rw [h0] at l0
      rw [h1] at l1
      rw [h2] at l2
      rw [h3] at l3
      dsimp only at l0 l1 l2 l3
      omega
    have hs6l : s6.1.length ≤ 1000000 := by
      have l4 := rDg_len s3
      have l5 := rNum_len s4
      rw [h4] at l4
      rw [h5] at l5
      dsimp only at l4 l5
      rw [← h6]
      split
      · rw [rFail_fst18]; omega
      · omega
    have H0 := Lib.hid h0
    have H1 := Lib.hid h1
    have H2 := Lib.hid h2
    have H3 := Lib.hid h3
    have H4 := Lib.hid h4
    have H5 := Lib.hid h5
    have H6 := Lib.hid h6
    clear h0 h1 h2 h3 h4 h5 h6 hM hb2 hs1
    generalize w1.heap.size = B at *
    have hgg : g < w2.heap.size := hR.lt
    go_wp2_with fail
    refine (Within_eq H0.out hR).mono ?_
    rintro e wa ⟨rfl, hRa, hra⟩
    have hM := hM2.wr hra (List.mem_cons_self ..) (by omega)
    clear hM2 hR hra
    go_wp2_with fail
    refine (Within_eq H1.out hRa).mono ?_
    rintro e wb ⟨rfl, hRb, hrb⟩
    replace hM := hM.wr hrb (List.mem_cons_self ..) (by omega)
    clear hRa hrb
    go_wp2_with fail
    refine (Within_eq H2.out hRb).mono ?_
    rintro e wa ⟨rfl, hRa, hra⟩
    replace hM := hM.wr hra (List.mem_cons_self ..) (by omega)
    clear hRb hra
    go_wp2_with fail
    refine (Within_eq H3.out hRa).mono ?_
    rintro e wb ⟨rfl, hRb, hrb⟩
    replace hM := hM.wr hrb (List.mem_cons_self ..) (by omega)
    have hwb : B ≤ wb.heap.size := by have := (hM.far g (List.mem_cons_self ..)).1; omega
    clear hRa hrb
    go_wp2_with fail
    refine (MDig_eq H4.out hRb hwb (by omega)).mono ?_
    rintro e wc ⟨rfl, hRc, hrc⟩
    replace hM := hM.wr hrc (List.mem_cons_self ..) (by omega)
    have hgc0 : g < wc.heap.size := hRc.lt
    clear hRb hrc hwb
    have hmz0 := Lib.hid (mfa_size nu f tt q d none 0 0)
    have hmb0 := Lib.hid (mfa_all nu f tt q d none 0 0)
    go_upto_region 6 with (first | (refine wpl_buildMM rfl _ _ _ _ _ rfl (n := nu) (f := f) (t := tt) (r := q) (d := d) rfl rfl rfl rfl rfl ?_) | (refine wpl_storeN rfl 57 _ _ rfl _ (mfa nu f tt q d none 0 0) 57 rfl rfl (by rw [hmz0.out]; kernel_rfl) (by rw [hmz0.out]; rfl) hmb0.out ?_))
    have hMx := hM.alloc (mfa nu f tt q d none 0 0) 57
    have hRx := hRc.alloc (.cells (mfa nu f tt q d none 0 0) 57)
    have hBx : B ≤ wc.heap.size := by omega
    generalize wc.heap.size = gc at *
    refine gen1 (T := fun W => Mm w W [(gc, 57, mfa nu f tt q d none 0 0), (w.heap.size, 57, mza)] [some g] ∧ IsR W g B s4) ⟨hMx, hRx⟩ (fun w3 hT => ?_)
    clear hMx hRx hM hRc hmz0 hmb0
    obtain ⟨hM, hR⟩ := hT
    go_wp2_with fail
    refine (Number_s hR).mono ?_
    rintro e w3 ⟨rfl, hR3, hr3⟩
    rw [H5.out] at hR3 ⊢
    dsimp only at hR3 ⊢
    replace hM := hM.wr hr3 (List.mem_cons_self ..) (by omega)
    have hs6 := H6.out
    clear hR hr3 H0 H1 H2 H3 H4 H5 H6
    go_upto_if 38 with (fail)
    go_cut [] (fun wz => Mm w wz [(gc, 57, mfa nu f tt q d none 0 0), (w.heap.size, 57, mza)] [some g] ∧ IsR wz g B s6)
    case first =>
      rcases Decidable.em (1024 < n) with h | h
      · have hI : (1024 : Int) < (n : Int) := by omega
        rw [if_pos h] at hs6
        subst hs6
        clear h
        go_wp2_with fail
        refine (Fail_s 3 hR3).mono ?_
        rintro e w5 ⟨rfl, hR5, hr5⟩
        go_wp2_with fail
        go_meet
        exact ⟨hM.wr hr5 (List.mem_cons_self ..) (by omega), hR5⟩
      · have hI : (n : Int) ≤ (1024 : Int) := by omega
        rw [if_neg h] at hs6
        subst hs6
        clear h
        go_wp2_with fail
        go_meet
        exact ⟨hM, hR3⟩
    case rest =>
      clear hM hR3 hs6
      obtain ⟨hM, hR⟩ := hcut
      obtain ⟨c0, c1', c2, c3, c4⟩ := Blm.five hM.b0
      obtain ⟨N, hN⟩ : ∃ N : Nat, min n 1024 = N := ⟨_, rfl⟩
      have hNi : min (n : Int) 1024 = (N : Int) := by omega
      have hN2 : N ≤ 1024 := by omega
      rw [hN] at HC
      clear hN
      go_upto_region 10 with (fail)
      go_cut [45, 46] (fun x y wz => x = .int .u64 (N : Nat) ∧ y = .int .u64 0 ∧ wz = wc)
      case first =>
        go_wp2_with fail
        all_goals
          go_meet
          exact ⟨by first | (congr 1; omega) | congr 1, rfl, rfl⟩
      case rest =>
        obtain ⟨rfl, rfl, rfl⟩ := hcut
        clear hNi
        go_wp2_with fail
        go_loopw [46, 9] (fun x y wr => ∃ (k : Nat) (E : Option Addr) (cE : Nat) (m : List Pt5), k ≤ N ∧ x = .int .u64 (k : Nat) ∧ y = .int .i64 (pend (f : Nat) m) ∧ Hid (m = (crLoop k (f : Nat) s6).1) ∧ Mm w wr [(gc, 57, mfa nu f tt q d E m.length cE), (w.heap.size, 57, mza)] [E.map (·.block), some g] ∧ IsR wr g B (crLoop k (f : Nat) s6).2 ∧ OwnP wr (gc + 1) E cE m) (fun x y wr => N - (intOf x).toNat)
        case atStart => exact ⟨0, none, 0, [], Nat.zero_le _, rfl, rfl, (show _ = _ from rfl), hM.add (by simp), hR, Own.none_ _ _ _ _⟩
        case round =>
          obtain ⟨k, E, cE, m, hk, rfl, rfl, hm, hMr, hRr, hOr⟩ := hrel
          have hml : Hid (m.length = k) := (show _ = _ from by rw [hm.out, crLoop_len])
          clear hM hR
          rcases Nat.lt_or_ge k N with hlt | hge
          · have hkI : (k : Int) < (N : Int) := by omega
            have hsl := crLoop_left k (f : Int) s6
            have hbd := crLoop_bd s6 (f : Int) k
            have hbd2 := crLoop_bd s6 (f : Int) (k + 1)
            have hsuc := crLoop_succ k (f : Int) s6
            rw [hsuc] at hbd2
            dsimp only at hbd2
            rw [pend_snoc] at hbd2
            rw [← hm.out] at hbd hbd2 hsuc
            have HSU := Lib.hid hsuc
            clear hsuc c0 c1' c2 c3 c4
            have hbsz : gc < wr.heap.size := hMr.b0.lt
            go_wp2_with fail
            refine (MPart_any (pend (f : Int) m) hRr (by omega) (by omega)).mono ?_
            rintro e w7 ⟨rfl, hR7, hr7⟩
            replace hMr := hMr.wr hr7 (by simp) (by omega)
            replace hOr := Own.wr hOr (by omega) hr7
            obtain ⟨p, s8, hp⟩ : ∃ p s, rPart (pend (f : Int) m) (crLoop k (f : Int) s6).2 = (p, s) := ⟨_, _, rfl⟩
            rw [hp] at hR7 ⊢
            have hsu2 := HSU.out
            rw [hp] at hsu2 hbd2
            dsimp only at hR7 hsu2 hbd2 ⊢
            have HS := Lib.hid hsu2
            have hps := Lib.hid (pta_size p)
            have hpa := Lib.hid (pta_all p)
            have hwrp : wrap64 (pend (f : Int) m + p.2.1) = pend (f : Int) m + p.2.1 := by simp only [wrap64]; omega
            have hwrp2 : IntKind.i64.wrap (pend (f : Int) m + p.2.1) = pend (f : Int) m + p.2.1 := by rw [IntKind.wrap_i64]; omega
            have hsz7 := hr7.size
            clear hsu2 HSU hp hRr hr7 hsl hm
            have hM8 := hMr.alloc (pta p) 28
            have hR8 := hR7.alloc (.cells (pta p) 28)
            have hO8 := World.ownsRow.alloc hOr (.cells (pta p) 28)
            go_upto_region 13 with (refine wpl_storeN rfl 28 _ _ rfl _ (pta p) 28 rfl rfl (by rw [hps.out]; kernel_rfl) (by rw [hps.out]; rfl) hpa.out ?_)
            generalize hWe : w7.alloc (.cells (pta p) 28) = w8 at *
            clear hWe
            have hgp : gc < w7.heap.size := hMr.b0.lt
            generalize w7.heap.size = gp at *
            clear hMr hR7 hOr
            obtain ⟨x0, x1, x2⟩ := BlP.three hM8.b0
            obtain ⟨c0, c1', c2, c3, c4⟩ := Blm.five hM8.b1
            have cf4 := hM8.b1.frozen 36
            go_upto_region 14 with (fail)
            have hL9 := litP w8 p
            have hO9 := World.ownsRow.alloc hO8 (.cells (pta p) 28)
            have hM9 := hM8.allocO (.cells (pta p) 28)
            have hR9 := hR8.alloc (.cells (pta p) 28)
            have hgc8 : gc + 1 ≤ w8.heap.size := by have := hM8.b1.lt; omega
            go_wp2_with (first | (refine wpl_loadG rfl 28 _ rfl ⟨gp, 0, none⟩ (pta p) rfl hM8.b0.cells _ Tryz.underlying28 rfl (by rw [hps.out]; kernel_rfl) ?_) | (refine wpl_lit1 rfl _ rfl p rfl ?_) | (at_builtin; refine wpl_parts rfl _ _ rfl (gc + 1) E cE m rfl hO9 (some ⟨w8.heap.size, 0, none⟩) 1 1 [p] rfl rfl hL9 (by rw [hml.out]; simp; omega) (by simp; omega) ?_; intro A10 c10 m10 w10 hm10 hO10 hg10 hb10; have hB10 : Blk w10 gc 57 _ := (hb10.block gc (Nat.lt_succ_self _)).trans hM9.b1; have df4 := hB10.frozen 36; obtain ⟨d0, d1, d2, d3, d4⟩ := Blm.five hB10))
            have hM10 := (hM9.sub (List.sublist_cons_self _ _)).base hb10 (by simp; omega) (by omega) (a := A10.map (·.block)) (fun k hk => hO10.lt k hk) (G' := [some g]) (by simp)
            have hM11 := hM10.set 0 36 (.slice A10 m10.length c10) rfl
            rw [mfa_set] at hM11
            have hR11 := (hR9.apart (C := gc + 1) (by omega) (by omega) hb10).set (k := gc) (i := 36) (by omega) (by omega) (.slice A10 m10.length c10)
            have hO11 := Own.set1 hO10 (g := gc) (i := 36) (Nat.lt_succ_self _) (.slice A10 m10.length c10)
            go_roundw
            case rel => exact ⟨k + 1, A10, c10, m10, hlt, by go_num, by rw [hm10.out, pend_snoc], (show _ = _ from by rw [hm10.out, HS.out]), hM11, by rw [HS.out]; exact hR11, hO11⟩
            case measure => simp [intOf]; omega
          · obtain rfl : k = N := by omega
            have HT1 : Hid (mfTake b = mfEnd (((nu : Int), (f : Int), (tt : Int), (q : Int), d, m), (crLoop k (f : Int) s6).2)) := (show _ = _ from by rw [HT0.out, HC.out, hm.out])
            have hmI : PtsI m := by rw [hm.out]; exact crLoop_I k _ _ (by omega) (by omega)
            have HMI := Lib.hid hmI
            generalize (crLoop k (f : Int) s6).2 = sF at *
            clear HT0 HC hm hmI c0 c1' c2 c3 c4
            have hE := End_s18 hRr
            have hmz := Lib.hid (mfa_size nu f tt q d E m.length cE)
            have hmb := Lib.hid (mfa_all nu f tt q d E m.length cE)
            go_wp2_with fail
            rcases errv_cases (rEnd sF) with ⟨h0, hev⟩ | ⟨k, hk, hke, hev⟩
            · rw [hev] at hE
              have HE := Lib.hid hE
              have HN0 := Lib.hid h0
              clear hE hev h0
              refine HE.out.mono ?_
              rintro e w7 ⟨rfl, rfl⟩
              go_wp2_with (refine wpl_loadG rfl 57 _ rfl ⟨gc, 0, none⟩ (mfa nu f tt q d E m.length cE) rfl hMr.b0.cells _ Tryz.underlying57 rfl (by rw [hmz.out]; kernel_rfl) ?_)
              refine (MCheck_any nu f tt q d m _ (Own.sl hOr) HMI.out).mono ?_
              rintro e w8 ⟨rfl, hb8⟩
              replace hMr := hMr.call hb8
              have hO8 := Own.below hOr hb8
              clear hb8 hRr hOr HE
              rcases errv_cases (mchk ((nu : Int), (f : Int), (tt : Int), (q : Int), d, m)) with ⟨h0, hev⟩ | ⟨k, hk, hke, hev⟩
              · have HT := Lib.hid (show mfTake b = (((nu : Int), (f : Int), (tt : Int), (q : Int), d, m), 0) from by rw [HT1.out]; exact mfEnd_3 HN0.out h0)
                rw [hev]
                clear hev h0
                go_wp2_with (first | (refine wpl_loadG rfl 57 _ rfl ⟨gc, 0, none⟩ (mfa nu f tt q d E m.length cE) rfl hMr.b0.cells _ Tryz.underlying57 rfl (by rw [hmz.out]; kernel_rfl) ?_) | (refine wpList_store_row rfl 57 _ _ rfl w.heap.size (mfa nu f tt q d E m.length cE) rfl rfl 57 mza hMr.b1 (by rw [hmz.out]; kernel_rfl) (by rw [hmz.out, mfa_size]) hmb.out ?_))
                exact bodyPost_ret (res_mf2 rfl rfl (g := w.heap.size) hMr.b1.row) rfl ⟨E, cE, m, by rw [HT.out]; rfl, (show _ = _ from by rw [HT.out]), (Own.wr hO8 (g := w.heap.size) (by omega) (Wr.row _)).more (by omega), below_setRow hMr.bel (Nat.le_refl _) _⟩
              · have HT := Lib.hid (show mfTake b = (mfz, mchk ((nu : Int), (f : Int), (tt : Int), (q : Int), d, m)) from by rw [HT1.out]; exact mfEnd_2 HN0.out (by dsimp only; omega))
                have HEV := Lib.hid hev
                rw [hev]
                have hRes := hMr.b1
                have hw := hMr.bel
                clear hev hke hMr hO8
                go_wp2_with (first | (refine wpl_buildMz rfl rfl ?_) | (refine wpList_store_row rfl 57 _ _ rfl w.heap.size mza rfl rfl 57 mza hRes (by rw [mfa_size]; kernel_rfl) rfl (mfa_all _ _ _ _ _ _ _ _) ?_))
                exact bodyPost_ret (res_mf2 rfl rfl (g := w.heap.size) hRes.row) rfl ⟨none, 0, [], by rw [HT.out]; dsimp only [mfz]; rw [HEV.out]; rfl, (show _ = _ from by rw [HT.out]; rfl), Own.none_ _ _ _ _, below_setRow hw (Nat.le_refl _) _⟩
            · have HT := Lib.hid (show mfTake b = (mfz, rEnd sF) from by rw [HT1.out]; exact mfEnd_1 (by dsimp only; omega))
              have HEV := Lib.hid hev
              rw [hev] at hE
              have HE := Lib.hid hE
              clear hev hke hE
              refine HE.out.mono ?_
              rintro e w7 ⟨rfl, rfl⟩
              have hRes := hMr.b1
              have hw := hMr.bel
              clear hMr hOr
              go_wp2_with (first | (refine wpl_buildMz rfl rfl ?_) | (refine wpList_store_row rfl 57 _ _ rfl w.heap.size mza rfl rfl 57 mza hRes (by rw [mfa_size]; kernel_rfl) rfl (mfa_all _ _ _ _ _ _ _ _) ?_))
              exact bodyPost_ret (res_mf2 rfl rfl (g := w.heap.size) hRes.row) rfl ⟨none, 0, [], by rw [HT.out]; dsimp only [mfz]; rw [HEV.out]; rfl, (show _ = _ from by rw [HT.out]; rfl), Own.none_ _ _ _ _, below_setRow hw (Nat.le_refl _) _⟩
  · have HT := Lib.hid (show mfTake b = (mfz, (fone b).2) from by unfold mfTake; rw [if_pos (by omega)])
    have HEV := Lib.hid hev
    rw [hev]
    have hRes := hM.b0
    have hw := hM.bel
    clear hev hke hfl
    go_wp2_with (first | (refine wpl_buildMz rfl rfl ?_) | (refine wpList_store_row rfl 57 _ _ rfl w.heap.size mza rfl rfl 57 mza hRes (by rw [mfa_size]; kernel_rfl) rfl (mfa_all _ _ _ _ _ _ _ _) ?_))
    exact bodyPost_ret (res_mf2 rfl rfl (g := w.heap.size) hRes.row) rfl ⟨none, 0, [], by rw [HT.out]; dsimp only [mfz]; rw [HEV.out]; rfl, (show _ = _ from by rw [HT.out]; rfl), Own.none_ _ _ _ _, below_setRow hw (Nat.le_refl _) _⟩
end Go.Proofs.YtabnndjdkjkciaaGreatDoor
