/- WHAT IT HOLDS: cell.Take, and cells held against the document's, walked. | WHAT IT HOLDS: cells that are the document's, walked. | WHAT IT HOLDS: the ways through a round of taking a run, plainly. -/
import Derived.Test.YtgipfenjachpnaaCellTakesG11
import Derived.Test.YtgipfenjachpnaaCellTakesG08
import Derived.Test.YtgipfenjachpnaaCellTakesG04
namespace Go.Proofs.Ytgipfenjachpnaa
open Go.RowKit
attribute [local go_sem ↓] Go.wp_at_zero Go.wp_at_succ

/-- a cell out of a reader -/
def rCellRaw (s : Rs) : Ce × Rs := if (rWithin 3 s).1 = 1 then ((1, (rText 64 (rWithin 3 s).2).1), (rText 64 (rWithin 3 s).2).2) else ((((rWithin 3 s).1 : Int), []), (rWithin 3 s).2)
def rCell (s : Rs) : Ce × Rs := if (rCellRaw s).2.2 ≠ 0 then ((0, []), (rCellRaw s).2) else rCellRaw s
def GivesCellR (w0 : World) (g B : Nat) (r : Ce × Rs) (e : Ending) (w' : World) : Prop :=
  ∃ A c m, e = .returned (cv r.1.1 A (List.length m) c) ∧ Hid (m = r.1.2) ∧ OwnB w' w0.heap.size 5 A c m ∧ IsR w' g B r.2 ∧ Wr w0 w' g
theorem Text_s {g B : Nat} {s : Rs} {w : World} (most : Int) (hm : -9223372036854775808 ≤ most ∧ most ≤ 9223372036854775807) (hl : s.1.length ≤ 1000000000) (hR : IsR w g B s) : Calls Try.prog 69 #[.pointer (some ⟨g, 0, none⟩), .int .i64 most] w (GivesR w g B (rText most s)) := by obtain ⟨l, b⟩ := s; exact Text_any most hm hl hR
set_option maxRecDepth 100000 in
set_option maxHeartbeats 2000000 in
theorem CTake_any {w : World} {g B : Nat} {s : Rs} (hR0 : IsR w g B s) (hB : B ≤ w.heap.size) (hl : s.1.length ≤ 1000000000) :
    Calls Try.prog 29 #[.pointer (some ⟨g, 0, none⟩)] w (GivesCellR w g B (rCell s)) := by
  have hg := hR0.lt
  have hRes := Blk.new w 24 #[.int .i64 0, .slice none 0 0]
  have hw0 : Wr w (w.alloc (.cells #[.int .i64 0, .slice none 0 0] 24)) g := (Wr.refl _ _).alloc _
  have hR1 := hR0.below (below_new w (.cells #[.int .i64 0, .slice none 0 0] 24))
  go_enter Try.func29, Try.ntmps29
  go_wp2_with fail
  refine (Within_any 3 hR1).mono ?_
  rintro e w2 ⟨rfl, hR2, hr2⟩
  have hk3 := rWithin_le 3 s
  have hl2 := rWithin_len 3 s
  have hraw : rCellRaw s = if (rWithin 3 s).1 = 1 then ((1, (rText 64 (rWithin 3 s).2).1), (rText 64 (rWithin 3 s).2).2) else ((((rWithin 3 s).1 : Int), []), (rWithin 3 s).2) := rfl
  generalize rWithin 3 s = p at *
  obtain ⟨k, s2⟩ := p
  dsimp only at *
  replace hRes := hRes.wr hr2 (by omega)
  have hw2 := hw0.trans hr2
  have hlt := hRes.lt
  clear hw0 hR1 hr2
  go_upto_region 2 with (fail)
  have hbx := below_new w2 (.cells #[.int .i64 (k : Nat), .slice none 0 0] 24)
  have hX3 := Blk.new w2 24 #[.int .i64 (k : Nat), .slice none 0 0]
  have hR3 := hR2.below hbx
  replace hRes := hRes.below hbx
  have hw3 := hw2.call hbx
  have hgx : w.heap.size < w2.heap.size := hlt
  clear hR2 hw2 hbx hlt
  generalize hWe : w2.alloc (.cells #[.int .i64 (k : Nat), .slice none 0 0] 24) = w3 at *
  clear hWe
  have hlt3 : w2.heap.size < w3.heap.size := hX3.lt
  generalize hge : w2.heap.size = gx at *
  clear hge
  obtain ⟨x0, x1, xf0, xf1⟩ := hX3.two
  by_cases hk1 : k = 1
  · have hkb : ((k : Int) == 1) = true := by rw [hk1]; rfl
    rw [if_pos hk1] at hraw
    go_wp2_with fail
    refine (Text_s 64 (by omega) (by omega) hR3).mono ?_
    rintro e w4 ⟨A4, c4, m4, rfl, hm4, hO4, hR4, hr4⟩
    obtain ⟨d, s4, hd4⟩ : ∃ d s, rText 64 s2 = (d, s) := ⟨_, _, rfl⟩
    rw [hd4] at hraw hR4 hm4
    dsimp only at hraw hR4 hm4
    have hX4 := hX3.wr hr4 (by omega)
    replace hRes := hRes.wr hr4 (by omega)
    have hw4 := hw3.trans hr4
    have hsz4 := hr4.size
    clear hR3 hw3 hX3 hr4 x0 x1 xf0 xf1 hd4
    obtain ⟨x0, x1, xf0, xf1⟩ := hX4.two
    go_upto_region 4 with (fail)
    have hbs : Below gx w4 (w4.setCell ⟨gx, 1, none⟩ (.slice A4 m4.length c4)) := Below.setCell (p := ⟨gx, 1, none⟩) (Below.refl _ _) (Nat.le_refl _) _
    have hX : Blk (w4.setCell ⟨gx, 1, none⟩ (.slice A4 m4.length c4)) gx 24 #[.int .i64 (k : Nat), .slice A4 m4.length c4] := by simpa using hX4.set_ 1 (.slice A4 m4.length c4)
    have hR := hR4.apart (C := gx) (by omega) (by omega) hbs
    replace hRes := hRes.far (p := ⟨gx, 1, none⟩) (by dsimp only; omega) (.slice A4 m4.length c4)
    have hw := hw4.callB hw4.size (hbs.mono (by omega))
    have hO : OwnB (w4.setCell ⟨gx, 1, none⟩ (.slice A4 m4.length c4)) w.heap.size 5 A4 c4 m4 := (hO4.setOther (Own.offBlk hO4 hX4 (by decide)) 1 _).more (by omega)
    have hki : (k : Int) = 1 := by omega
    have HRAW : Hid (rCellRaw s = (((k : Int), m4), s4)) := (show _ = _ from by rw [hraw, hki, hm4.out])
    clear hbs hX4 hR4 hw4 hO4 hm4 hraw hk1 hki x0 x1 xf0 xf1
    generalize hWe : w4.setCell ⟨gx, 1, none⟩ (.slice A4 m4.length c4) = w5 at *
    clear hWe
    -- the result's block stands behind the call's start: (k : Int), bytes m4, reader s4 in block g
    have hE := Err_s hR
    rcases errv_cases (s4).2 with ⟨h0, hev⟩ | ⟨q, hq, hq2, hev⟩
    · have HT := Lib.hid (show rCell s = (((k : Int), m4), s4) from by unfold rCell; rw [HRAW.out, if_neg (by simpa using h0)])
      rw [hev] at hE
      have HE := Lib.hid hE
      clear hE hev h0
      go_wp2_with fail
      refine HE.out.mono ?_
      rintro e w9 ⟨rfl, rfl⟩
      obtain ⟨r0, r1, rf0, rf1⟩ := hRes.two
      obtain ⟨x0, x1, xf0, xf1⟩ := hX.two
      go_wp2_with fail
      exact bodyPost_ret (res_c1 rfl rfl (g := w.heap.size) (hRes.set2 _ _)) rfl ⟨A4, c4, m4, by rw [HT.out] <;> rfl, (show _ = _ from by rw [HT.out]), ((hO.setOther (Own.offBlk hO hRes (by decide)) _ _).setOther (Own.offBlk hO hRes (by decide)) _ _), by rw [HT.out]; exact hR.apart (C := w.heap.size) hg (by omega) ((Below.setCell (p := ⟨w.heap.size, 1, none⟩) (Below.setCell (p := ⟨w.heap.size, 0, none⟩) (Below.refl _ _) (Nat.le_refl _) _) (Nat.le_refl _) _)), hw.trans (Wr.callB (Wr.refl _ _) (Nat.le_refl _) (Below.refl _ _)) |>.callB hw.size ((Below.setCell (p := ⟨w.heap.size, 1, none⟩) (Below.setCell (p := ⟨w.heap.size, 0, none⟩) (Below.refl _ _) (Nat.le_refl _) _) (Nat.le_refl _) _))⟩
    · have HT := Lib.hid (show rCell s = ((0, []), s4) from by unfold rCell; rw [HRAW.out, if_pos (by dsimp only; omega)])
      rw [hev] at hE
      have HE := Lib.hid hE
      clear hE hev hq2
      go_wp2_with fail
      refine HE.out.mono ?_
      rintro e w9 ⟨rfl, rfl⟩
      obtain ⟨r0, r1, rf0, rf1⟩ := hRes.two
      go_wp2_with fail
      exact bodyPost_ret (res_c1 rfl rfl (g := w.heap.size) (hRes.set2 _ _)) rfl ⟨none, 0, [], by rw [HT.out] <;> rfl, (show _ = _ from by rw [HT.out]), Own.none_ _ _ _ _, by rw [HT.out]; exact hR.apart (C := w.heap.size) hg (by omega) ((Below.setCell (p := ⟨w.heap.size, 1, none⟩) (Below.setCell (p := ⟨w.heap.size, 0, none⟩) (Below.refl _ _) (Nat.le_refl _) _) (Nat.le_refl _) _)), hw.callB hw.size ((Below.setCell (p := ⟨w.heap.size, 1, none⟩) (Below.setCell (p := ⟨w.heap.size, 0, none⟩) (Below.refl _ _) (Nat.le_refl _) _) (Nat.le_refl _) _))⟩
  · have hkb : ((k : Int) == 1) = false := by rw [beq_eq_false_iff_ne]; omega
    rw [if_neg hk1] at hraw
    have HRAW : Hid (rCellRaw s = (((k : Int), []), s2)) := (show _ = _ from hraw)
    have hX := hX3
    have hR := hR3
    have hw := hw3
    have hO : OwnB w3 w.heap.size 5 none 0 [] := Own.none_ _ _ _ _
    clear hX3 hR3 hw3 hraw hk1
    go_wp2_with fail
    -- the result's block stands behind the call's start: (k : Int), bytes ([] : List UInt8), reader s2 in block g
    have hE := Err_s hR
    rcases errv_cases (s2).2 with ⟨h0, hev⟩ | ⟨q, hq, hq2, hev⟩
    · have HT := Lib.hid (show rCell s = (((k : Int), ([] : List UInt8)), s2) from by unfold rCell; rw [HRAW.out, if_neg (by simpa using h0)])
      rw [hev] at hE
      have HE := Lib.hid hE
      clear hE hev h0
      go_wp2_with fail
      refine HE.out.mono ?_
      rintro e w9 ⟨rfl, rfl⟩
      obtain ⟨r0, r1, rf0, rf1⟩ := hRes.two
      obtain ⟨x0, x1, xf0, xf1⟩ := hX.two
      go_wp2_with fail
      exact bodyPost_ret (res_c1 rfl rfl (g := w.heap.size) (hRes.set2 _ _)) rfl ⟨none, 0, ([] : List UInt8), by rw [HT.out] <;> rfl, (show _ = _ from by rw [HT.out]), ((hO.setOther (Own.offBlk hO hRes (by decide)) _ _).setOther (Own.offBlk hO hRes (by decide)) _ _), by rw [HT.out]; exact hR.apart (C := w.heap.size) hg (by omega) ((Below.setCell (p := ⟨w.heap.size, 1, none⟩) (Below.setCell (p := ⟨w.heap.size, 0, none⟩) (Below.refl _ _) (Nat.le_refl _) _) (Nat.le_refl _) _)), hw.trans (Wr.callB (Wr.refl _ _) (Nat.le_refl _) (Below.refl _ _)) |>.callB hw.size ((Below.setCell (p := ⟨w.heap.size, 1, none⟩) (Below.setCell (p := ⟨w.heap.size, 0, none⟩) (Below.refl _ _) (Nat.le_refl _) _) (Nat.le_refl _) _))⟩
    · have HT := Lib.hid (show rCell s = ((0, []), s2) from by unfold rCell; rw [HRAW.out, if_pos (by dsimp only; omega)])
      rw [hev] at hE
      have HE := Lib.hid hE
      clear hE hev hq2
      go_wp2_with fail
      refine HE.out.mono ?_
      rintro e w9 ⟨rfl, rfl⟩
      obtain ⟨r0, r1, rf0, rf1⟩ := hRes.two
      go_wp2_with fail
      exact bodyPost_ret (res_c1 rfl rfl (g := w.heap.size) (hRes.set2 _ _)) rfl ⟨none, 0, [], by rw [HT.out] <;> rfl, (show _ = _ from by rw [HT.out]), Own.none_ _ _ _ _, by rw [HT.out]; exact hR.apart (C := w.heap.size) hg (by omega) ((Below.setCell (p := ⟨w.heap.size, 1, none⟩) (Below.setCell (p := ⟨w.heap.size, 0, none⟩) (Below.refl _ _) (Nat.le_refl _) _) (Nat.le_refl _) _)), hw.callB hw.size ((Below.setCell (p := ⟨w.heap.size, 1, none⟩) (Below.setCell (p := ⟨w.heap.size, 0, none⟩) (Below.refl _ _) (Nat.le_refl _) _) (Nat.le_refl _) _))⟩
end Go.Proofs.Ytgipfenjachpnaa

namespace Go.Proofs.Ytgipfenjachpnaa
open Go.RowKit
attribute [local go_sem ↓] Go.wp_at_zero Go.wp_at_succ

set_option maxRecDepth 100000 in
set_option maxHeartbeats 2000000 in
theorem Are_true {E G : Option Addr} {cap cap2 : Nat} (cs : List CeV) (ds : List Ce) (w : World) (h : SlC w E cap cs) (h2 : SlD w G cap2 ds) (he : cs.map ceOf = ds) (hl0 : cs.length ≤ 1000000) :
    Calls Try.prog 36 #[.slice E cs.length cap, .slice G ds.length cap2] w fun e w' => e = .returned (.bool true) ∧ Below w.heap.size w w' := by
  have hlen : ds.length = cs.length := by rw [← he]; simp
  have HE := Lib.hid he
  have hlb : ((cs.length : Int) != (ds.length : Int)) = false := by simp [hlen]
  have hdl : ds.length ≤ 1000000 := by omega
  have HLEN := Lib.hid hlen
  clear he hlen
  go_enter Try.func36, Try.ntmps36
  go_wp2_with fail
  go_loopw [13] (fun x wr => ∃ k : Nat, k ≤ cs.length ∧ x = .int .i64 k ∧ Below w.heap.size w wr) (fun x w => cs.length - (intOf x).toNat)
  case atStart => exact ⟨0, Nat.zero_le _, rfl, Below.refl _ _⟩
  case round =>
    obtain ⟨k, hk, rfl, hbr⟩ := hrel
    by_cases hlt : k < cs.length
    · have hlt2 : k < ds.length := by rw [HLEN.out]; exact hlt
      obtain ⟨ad, b, o, rfl, had, hc0, hc1, hsx⟩ := (h.below hbr).at2 hlt
      obtain ⟨ad2, b2, o2, rfl, had2, hdd⟩ := (h2.below hbr).atS (f := df) (fun _ => rfl) (by decide) hlt2
      have hx : Hid (ds[k] = ceOf cs[k]) := (show _ = _ from by
        have := HE.out
        subst this
        simp)
      rw [hx.out] at hdd
      clear hx
      generalize cs[k] = x at *
      obtain ⟨kk, A, c, d⟩ := x
      dsimp only [ceOf] at *
      have hd0 := hdd 0 _ rfl
      have hd1 := hdd 1 _ rfl
      rw [Nat.add_zero] at hd0
      have hb1 := World.block_lt_of_cell? _ _ hc0
      have hb2 := World.block_lt_of_cell? _ _ hd0
      have hcW : Hid (∀ W, Below wr.heap.size wr W → W.cell? ⟨b, o, none⟩ = some (.int .i64 kk) ∧ W.cell? ⟨b, o + 1, none⟩ = some (.slice A d.length c) ∧ W.cell? ⟨b2, o2, none⟩ = some (.int .i64 kk) ∧ W.cell? ⟨b2, o2 + 1, none⟩ = some (.string ⟨d.toArray⟩)) :=
        (show ∀ W, Below wr.heap.size wr W → _ from fun W hW => ⟨(hW.cell (p := ⟨b, o, none⟩) hb1).trans hc0, (hW.cell (p := ⟨b, o + 1, none⟩) hb1).trans hc1, (hW.cell (p := ⟨b2, o2, none⟩) hb2).trans hd0, (hW.cell (p := ⟨b2, o2 + 1, none⟩) hb2).trans hd1⟩)
      clear hdd hc0 hc1 hd0 hd1 hb1 hb2
      have hnn := neq_dv kk kk d d
      rw [show same (kk, d) (kk, d) = true from same_iff.2 rfl] at hnn
      have hst : Below wr.heap.size wr wr.drew := (Below.refl _ _).drew
      have hk0 : (0 : Int) ≤ (k : Int) := by omega
      have hk1 : (k : Int) < (cs.length : Int) := by omega
      have hk2 : (k : Int) < (ds.length : Int) := by omega
      go_upto_region 6 with (fail)
      refine wp_region_held_drew (S := (fun W => Below wr.heap.size wr W)) (by kernel_rfl) ?_ (fun hHeld => ?_)
      · exact hst
      refine gen0 (T := fun W => ((fun W => Below wr.heap.size wr W)) W ∧ True) ?_ (fun wq1 hT => ?_)
      · exact ⟨by (first | exact hst | exact hHeld | exact bel_call hHeld hb8), trivial⟩
      (try clear f0 f1 f2 f3 f4 f5 f6 f7 f8 f9 f10 f11)
      obtain ⟨hHeld, -⟩ := hT
      refine wpAnyH_take (i := 0) (oi := ⟨some 16, _, _, _, _, _⟩) (v := ?_) rfl (by kernel_rfl) (by kernel_rfl) (by kernel_rfl) (fun _ _ _ h => h) (Or.inl ⟨by kernel_rfl, ?_⟩) (by assumption) ?_
      rotate_left
      · (intro wS hSw; (try dsimp only at hSw); obtain ⟨r0, r1, r2, r3⟩ := hcW.out _ hSw; clear hSw; go_simp; (try with_reducible rfl))
      (try simp only [Act.put, List.setIfInBounds_toArray, List.set_cons_zero, List.set_cons_succ])
      refine wpAnyH_take (i := 1) (oi := ⟨some 17, _, _, _, _, _⟩) (v := ?_) rfl (by kernel_rfl) (by kernel_rfl) (by kernel_rfl) (fun _ _ _ h => h) (Or.inl ⟨by kernel_rfl, ?_⟩) (by assumption) ?_
      rotate_left
      · (intro wS hSw; (try dsimp only at hSw); obtain ⟨r0, r1, r2, r3⟩ := hcW.out _ hSw; clear hSw; go_simp; (try with_reducible rfl))
      (try simp only [Act.put, List.setIfInBounds_toArray, List.set_cons_zero, List.set_cons_succ])
      refine wpAnyH_take (i := 2) (oi := ⟨some 18, _, _, _, _, _⟩) (v := ?_) rfl (by kernel_rfl) (by kernel_rfl) (by kernel_rfl) (fun _ _ _ h => h) (Or.inl ⟨by kernel_rfl, ?_⟩) (by assumption) ?_
      rotate_left
      · (intro wS hSw; (try dsimp only at hSw); obtain ⟨r0, r1, r2, r3⟩ := hcW.out _ hSw; clear hSw; go_simp; (try with_reducible rfl))
      (try simp only [Act.put, List.setIfInBounds_toArray, List.set_cons_zero, List.set_cons_succ])
      refine wpAnyH_take (i := 3) (oi := ⟨some 19, _, _, _, _, _⟩) (v := ?_) rfl (by kernel_rfl) (by kernel_rfl) (by kernel_rfl) (fun _ _ _ h => h) (Or.inl ⟨by kernel_rfl, ?_⟩) (by assumption) ?_
      rotate_left
      · (intro wS hSw; (try dsimp only at hSw); obtain ⟨r0, r1, r2, r3⟩ := hcW.out _ hSw; clear hSw; go_simp; (try with_reducible rfl))
      (try simp only [Act.put, List.setIfInBounds_toArray, List.set_cons_zero, List.set_cons_succ])
      refine wpAnyH_take (i := 5) (oi := ⟨some 21, _, _, _, _, _⟩) (v := ?_) rfl (by kernel_rfl) (by kernel_rfl) (by kernel_rfl) (fun _ _ _ h => h) (Or.inl ⟨by kernel_rfl, ?_⟩) (by assumption) ?_
      rotate_left
      · (intro wS hSw; (try dsimp only at hSw); obtain ⟨r0, r1, r2, r3⟩ := hcW.out _ hSw; clear hSw; go_simp; (try with_reducible rfl))
      (try simp only [Act.put, List.setIfInBounds_toArray, List.set_cons_zero, List.set_cons_succ])
      refine wpAnyH_take (i := 6) (oi := ⟨some 22, _, _, _, _, _⟩) (v := ?_) rfl (by kernel_rfl) (by kernel_rfl) (by kernel_rfl) (fun _ _ _ h => h) (Or.inl ⟨by kernel_rfl, ?_⟩) (by assumption) ?_
      rotate_left
      · (intro wS hSw; (try dsimp only at hSw); obtain ⟨r0, r1, r2, r3⟩ := hcW.out _ hSw; clear hSw; go_simp; (try with_reducible rfl))
      (try simp only [Act.put, List.setIfInBounds_toArray, List.set_cons_zero, List.set_cons_succ])
      refine wpAnyH_take (i := 7) (oi := ⟨some 23, _, _, _, _, _⟩) (v := ?_) rfl (by kernel_rfl) (by kernel_rfl) (by kernel_rfl) (fun _ _ _ h => h) (Or.inl ⟨by kernel_rfl, ?_⟩) (by assumption) ?_
      rotate_left
      · (intro wS hSw; (try dsimp only at hSw); obtain ⟨r0, r1, r2, r3⟩ := hcW.out _ hSw; clear hSw; go_simp; (try with_reducible rfl))
      (try simp only [Act.put, List.setIfInBounds_toArray, List.set_cons_zero, List.set_cons_succ])
      refine wpAnyH_take (i := 8) (oi := ⟨some 24, _, _, _, _, _⟩) (v := ?_) rfl (by kernel_rfl) (by kernel_rfl) (by kernel_rfl) (fun _ _ _ h => h) (Or.inl ⟨by kernel_rfl, ?_⟩) (by assumption) ?_
      rotate_left
      · (intro wS hSw; (try dsimp only at hSw); obtain ⟨r0, r1, r2, r3⟩ := hcW.out _ hSw; clear hSw; go_simp; (try with_reducible rfl))
      (try simp only [Act.put, List.setIfInBounds_toArray, List.set_cons_zero, List.set_cons_succ])
      refine wpAnyH_ready (rs := [4]) (by kernel_rfl) (by simp) ?_
      refine AllReadyH.cons (o := ⟨some 20, _, _, _, _, _⟩) rfl (fun K hK => ?_) AllReadyH.nil
      go_simp
      (refine (Document_any kk d _ (hsx.below hHeld)).mono ?_; rintro e w8 ⟨rfl, hb8⟩)
      go_wp2_with fail
      refine hK.out _ _ ?_ (fun _ => ?_)
      · ((try dsimp only); (first | exact hst | exact hHeld | exact bel_call hHeld hb8))
      clear hK K
      (try simp only [Act.put, List.setIfInBounds_toArray, List.set_cons_zero, List.set_cons_succ])
      refine gen0 (T := fun W => ((fun W => Below wr.heap.size wr W)) W ∧ True) ?_ (fun wq2 hT => ?_)
      · exact ⟨by (first | exact hst | exact hHeld | exact bel_call hHeld hb8), trivial⟩
      (try clear f0 f1 f2 f3 f4 f5 f6 f7 f8 f9 f10 f11)
      obtain ⟨hHeld, -⟩ := hT
      refine wpAnyH_take (i := 9) (oi := ⟨some 25, _, _, _, _, _⟩) (v := ?_) rfl (by kernel_rfl) (by kernel_rfl) (by kernel_rfl) (fun _ _ _ h => h) (Or.inl ⟨by kernel_rfl, ?_⟩) (by assumption) ?_
      rotate_left
      · (intro wS hSw; (try dsimp only at hSw); obtain ⟨r0, r1, r2, r3⟩ := hcW.out _ hSw; clear hSw; go_simp; (try with_reducible rfl))
      (try simp only [Act.put, List.setIfInBounds_toArray, List.set_cons_zero, List.set_cons_succ])
      refine wpAnyH_done (by kernel_rfl) ?_ _
      go_wp2_with fail
      go_roundw
      case rel => exact ⟨k + 1, hlt, by go_num, bel_call hbr hHeld⟩
      case measure => simp [intOf]; omega
    · go_wp2_with fail
      go_ret
      exact ⟨rfl, hbr⟩
end Go.Proofs.Ytgipfenjachpnaa

namespace Go.Proofs.Ytgipfenjachpnaa
open Go.RowKit

/-- a round that fails is the end -/
theorem tr_bad {s : Rs} {t t' : Tk} (hE : tkEnd (tkNew s) = tkEnd t) (h0 : 1 ≤ t.left) (hs : t.s.2 = 0) (ht : tkStep t = t') (hb : t'.s.2 ≠ 0) : takeRun s = ([], t'.s) := by
  have h1 := tkEnd_step (t := t) (by omega) hs
  rw [ht, tkEnd_stop (.inr hb)] at h1
  unfold takeRun
  rw [hE, h1, if_pos hb]
theorem tr_done {s : Rs} {t : Tk} (hE : tkEnd (tkNew s) = tkEnd t) (h0 : t.left = 0) (hs : t.s.2 = 0) : takeRun s = (t.out, t.s) := by
  unfold takeRun
  rw [hE, tkEnd_stop (.inl h0), if_neg (by simpa using hs)]
theorem rFail_s2 {k : Nat} {s : Rs} (h : s.2 ≠ 0) : rFail k s = s := rFail_of h
section
variable {t : Tk} {many : Nat} {s1 : Rs} (h1 : rNum t.s = (many, s1))
include h1
theorem st_bad (hb : s1.2 ≠ 0) : tkStep t = { t with s := s1 } := by
  unfold tkStep
  rw [h1, if_pos hb]
theorem st_row (hb : s1.2 = 0) (hm : 0 < many) : tkStep t = tkRow many { t with s := s1 } := by
  unfold tkStep
  rw [h1, if_neg (by simpa using hb), if_pos hm]
theorem st_data (hb : s1.2 = 0) (hm : many = 0) : tkStep t = tkData { t with s := s1 } := by
  unfold tkStep
  rw [h1, if_neg (by simpa using hb), if_neg (by dsimp only; omega)]
theorem st_far (hb : s1.2 = 0) (hm : 0 < many) (hl : t.left < many) : (tkStep t).s = rFail 2 s1 := by
  rw [st_row h1 hb hm]
  have h2 : rWithin 3 (rFail 2 s1) = (0, rFail 2 s1) := rWithin_of (rFail_bad (by decide))
  obtain ⟨c1, c2, c3⟩ := tkRow_cases many { t with s := s1 } (if_pos hl) h2
  by_cases hk : 0 = 1 ∨ 0 = t.kind
  · rw [c1 hk]; exact rFail_of (rFail_bad (by decide))
  · rw [c3 hk (rFail_bad (by decide))]
theorem st_rowbad (hb : s1.2 = 0) (hm : 0 < many) (hl : many ≤ t.left) {k : Nat} {s2 : Rs} (h2 : rWithin 3 s1 = (k, s2)) (hc : s2.2 ≠ 0 ∨ k = 1 ∨ k = t.kind) : (tkStep t).s = rFail 2 s2 := by
  rw [st_row h1 hb hm]
  obtain ⟨c1, c2, c3⟩ := tkRow_cases many { t with s := s1 } (if_neg (by dsimp only; omega)) h2
  by_cases hk : k = 1 ∨ k = t.kind
  · rw [c1 hk]
  · have hb2 : s2.2 ≠ 0 := by
      rcases hc with h | h
      · exact h
      · exact absurd h hk
    rw [c3 hk hb2, rFail_of hb2]
theorem st_rowok (hb : s1.2 = 0) (hm : 0 < many) (hl : many ≤ t.left) {k : Nat} {s2 : Rs} (h2 : rWithin 3 s1 = (k, s2)) (hc : s2.2 = 0) (hk : ¬ (k = 1 ∨ k = t.kind)) : tkStep t = ⟨s2, t.out ++ List.replicate many ((k : Int), []), t.left - many, t.last, k⟩ := by
  rw [st_row h1 hb hm]
  obtain ⟨c1, c2, c3⟩ := tkRow_cases many { t with s := s1 } (if_neg (by dsimp only; omega)) h2
  exact c2 hk hc
variable {n : Nat} {s2 : Rs} (h2 : rNum s1 = (n, s2))
include h2
theorem st_long (hb : s1.2 = 0) (hm : many = 0) (hc : s2.2 ≠ 0 ∨ 64 < n) : (tkStep t).s = rFail 3 s2 := by
  rw [st_data h1 hb hm]
  have hz : s2.2 ≠ 0 → n = 0 := by
    intro h
    unfold rNum at h2
    split at h2
    · injection h2 with h2 _; exact h2.symm
    · split at h2
      · injection h2 with h2 _; exact h2.symm
      · injection h2 with _ h2; rw [← h2] at h; exact absurd rfl h
  by_cases hn : 64 < n
  · have h3 : rNum (rFail 3 s2) = (0, rFail 3 s2) := rNum_of (rFail_bad (by decide))
    obtain ⟨c1, -⟩ := tkData_cases { t with s := s1 } h2 (if_pos hn) h3 (if_neg (Nat.not_lt_zero _))
    rw [c1 (rFail_bad (by decide))]
  · have hb2 : s2.2 ≠ 0 := by
      rcases hc with h | h
      · exact h
      · exact absurd h hn
    have h3 : rNum s2 = (0, s2) := rNum_of hb2
    obtain ⟨c1, -⟩ := tkData_cases { t with s := s1 } h2 (if_neg hn) h3 (if_neg (Nat.not_lt_zero _))
    rw [c1 hb2, rFail_of hb2]
variable (hb : s1.2 = 0) (hm : many = 0) (hn : n ≤ 64) {k : Nat} {s3 : Rs} (h3 : rNum s2 = (k, s3))
include hb hm hn h3
theorem st_share (hc : s3.2 ≠ 0 ∨ n < k ∨ t.last.length < k) : (tkStep t).s = rFail 2 s3 := by
  rw [st_data h1 hb hm]
  by_cases hk : min n t.last.length < k
  · obtain ⟨c1, -⟩ := tkData_cases { t with s := s1 } h2 (if_neg (by omega)) h3 (if_pos hk)
    rw [c1 (rFail_bad (by decide))]
  · have hb3 : s3.2 ≠ 0 := by
      rcases hc with h | h | h
      · exact h
      · omega
      · omega
    obtain ⟨c1, -⟩ := tkData_cases { t with s := s1 } h2 (if_neg (by omega)) h3 (if_neg hk)
    rw [c1 hb3, rFail_of hb3]
variable (hk : k ≤ n) (hk2 : k ≤ t.last.length) (h30 : s3.2 = 0) {f : List UInt8} {s5 : Rs} (h5 : rFixed ((n - k : Nat) : Int) s3 = (f, s5))
include hk hk2 h30 h5
theorem st_fixbad (h50 : s5.2 ≠ 0) : (tkStep t).s = s5 := by
  rw [st_data h1 hb hm]
  obtain ⟨-, c2⟩ := tkData_cases { t with s := s1 } h2 (if_neg (by omega)) h3 (if_neg (by dsimp only; omega))
  rw [c2 h30 f s5 h5 _ rfl s5 (if_neg (by intro h; exact h50 h.1))]
theorem st_textbad (h50 : s5.2 = 0) {x : List UInt8} (hx : x = t.last.take k ++ f) (hc : cpl t.last x ≠ k) : (tkStep t).s = rFail 2 s5 := by
  rw [st_data h1 hb hm]
  obtain ⟨-, c2⟩ := tkData_cases { t with s := s1 } h2 (if_neg (by omega)) h3 (if_neg (by dsimp only; omega))
  rw [c2 h30 f s5 h5 x hx (rFail 2 s5) (if_pos ⟨h50, hc⟩)]
theorem st_textok (_h50 : s5.2 = 0) {x : List UInt8} (hx : x = t.last.take k ++ f) (hc : cpl t.last x = k) : tkStep t = ⟨s5, t.out ++ [(1, x)], t.left - 1, x, 1⟩ := by
  rw [st_data h1 hb hm]
  obtain ⟨-, c2⟩ := tkData_cases { t with s := s1 } h2 (if_neg (by omega)) h3 (if_neg (by dsimp only; omega))
  exact c2 h30 f s5 h5 x hx s5 (if_neg (by intro h; exact h.2 hc))
end
end Go.Proofs.Ytgipfenjachpnaa
