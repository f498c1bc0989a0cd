/- WHAT IT HOLDS: vault.Get. | WHAT IT HOLDS: a run that was put is taken as it was, and what is taken has just those bytes, plainly (no program). | WHAT IT HOLDS: a segment that was put is taken as it was, what is taken has just those bytes, and a segment is its parts, joined; plainly (no program). | WHAT IT HOLDS: what a segment's part was made of, plainly (no program). | WHAT IT HOLDS: what a vault reads depends on what is needed alone; what a disk with a chain opens to; which address which part has (no program). | WHAT IT HOLDS: a backup of segments, one for each manifest: what adding, committing and coming again make of it, and what is read of it, plainly (no program). -/
import Derived.Test.YtajfnmohlnkncaaGreatDoorVaultNilG01
import Derived.Test.YtajfnmohlnkncaaGreatDoorVaultNilG24
import Derived.Test.YtajfnmohlnkncaaGreatDoorVaultNilG20
import Derived.Test.YtajfnmohlnkncaaGreatDoorVaultNilG23
import Derived.Test.YtajfnmohlnkncaaGreatDoorVaultNilG04
import Derived.Test.YtajfnmohlnkncaaGreatDoorVaultNilG12
import Derived.Test.YtajfnmohlnkncaaGreatDoorVaultNilG21
import Derived.Test.YtajfnmohlnkncaaGreatDoorVaultNilG19
namespace Go.Proofs.YtajfnmohlnkncaaGreatDoor
open Go.RowKit Go.Shelf

theorem Dsk.short {w : World} {q : Fp} {d : Dk Sv} (h : Dsk w q d) (n : Bs) : (sGetL Sv.l d n).1.length ≤ 65536 := by
  unfold sGetL sGet dRead
  by_cases h1 : snamed n = false
  · rw [if_pos h1]
    simp
  · rw [if_neg h1]
    by_cases h2 : d.down = true
    · rw [if_pos h2]
      simp
    · rw [if_neg h2]
      cases hg : gget n d.shown with
      | none => simp
      | some v =>
        have h3 := h.len _ (h.shown_mem _ (gget_mem hg)).2
        simpa using h3
set_option maxRecDepth 100000 in
set_option maxHeartbeats 2000000 in
theorem VGet_any {w : World} {gv gs : Nat} {q : Fp} {d : Dk Sv} {l : List MfV} {E : Option Addr} {cap : Nat} (h : VtM w gv gs q d l E cap) (hG : Shg w) (number place : Int) (hl : l.length ≤ 100) (hps : ∀ x ∈ l, x.1.2.2.2.2.2.length ≤ 100) :
    Calls Tryz.prog 18 #[.pointer (some ⟨gv, 0, none⟩), .int .i64 number, .int .i64 place] w (GivesSgN w (vget Sv.l ⟨d, mvs l⟩ number place)) := by
  have hM := (Mm.start w).alloc #[.int .i64 0, .slice none 0 0] 43
  have HP := Lib.hid (fun W (hh : Below w.heap.size w W) => VPart_any (h.below hh) number place)
  have HV := Lib.hid (show vget Sv.l ⟨d, mvs l⟩ number place = (match vpart (mvs l) number place with
    | none => ((0, []), 1)
    | some p => if (sGetL Sv.l d (label number.toNat place.toNat)).2 ≠ 0 then ((0, []), (sGetL Sv.l d (label number.toNat place.toNat)).2) else mholds p (sGetL Sv.l d (label number.toNat place.toNat)).1) from rfl)
  have hpz := Lib.hid (pta_size ptz)
  have HS := Lib.hid (fun W (hh : Below w.heap.size w W) => (h.below hh).two)
  have HSt := Lib.hid (fun W (hh : Below w.heap.size w W) => (h.st.below hh))
  have hsh := h.st.dsk.short (label number.toNat place.toNat)
  rcases hv : vpart (mvs l) number place with _ | p
  · rw [hv] at HP HV
    have HT := HV
    dsimp only at HT
    have HEV := Lib.hid (show errv 1 = Value.iface 60 (.int .i64 1) from rfl)
    clear hv HV HS HSt h hsh
    go_enter Tryz.func18, Tryz.ntmps18
    go_upto_region 1 with (fail)
    refine gen1 (T := fun W => Mm w W [(w.heap.size, 43, #[.int .i64 0, .slice none 0 0])] []) hM (fun w1 hM => ?_)
    go_wp2_with fail
    refine (HP.out _ hM.bel).mono ?_
    rintro e w2 ⟨rfl, hb2⟩
    have hM2 := hM.call hb2
    clear hM hb2 HP
    rw [show vpE none = 1 from rfl, HEV.out, show (none : Option Pt5).getD ptz = ptz from rfl]
    go_upto_region 2 with ((refine wpl_storeN rfl 37 _ _ rfl _ (pta ptz) 37 rfl rfl (by rw [hpz.out]; kernel_rfl) (by rw [hpz.out]; rfl) (pta_all _) ?_))
    refine gen1 (T := fun W => Mm w W [(w2.heap.size, 37, pta ptz), (w.heap.size, 43, #[.int .i64 0, .slice none 0 0])] []) (hM2.alloc _ _) (fun w3 hM => ?_)
    clear hM2
    obtain ⟨r0, r1, rf0, rf1⟩ := hM.b1.two
    go_wp2_with fail
    exact bodyPost_ret (res_sg2 rfl rfl (g := w.heap.size) (hM.b1.set2 _ _)) rfl ⟨none, 0, [], by rw [HT.out]; first | rfl | (dsimp only; rw [HEV.out]; rfl), (show _ = _ from by rw [HT.out] <;> rfl), NewS.nil _ _, bel_set (bel_set hM.bel (by dsimp only; omega) _) (by dsimp only; omega) _⟩
  · obtain ⟨n, k, rfl, rfl, hn, hk⟩ : ∃ n k : Nat, number = (n : Int) ∧ place = (k : Int) ∧ n < 100 ∧ k < 100 := by
      unfold vpart at hv
      by_cases h3 : number < 0 ∨ ((mvs l).length : Int) ≤ number ∨ place < 0
      · rw [if_pos h3] at hv
        cases hv
      · rw [if_neg h3] at hv
        rw [mvs_len] at h3
        rw [List.getElem?_eq_getElem (by rw [mvs_len]; omega)] at hv
        simp only [Option.bind_some] at hv
        obtain ⟨hk, -⟩ := List.getElem?_eq_some_iff.1 hv
        have hx := hps (l[number.toNat]'(by omega)) (List.getElem_mem _)
        simp only [mvs, List.getElem_map] at hk
        exact ⟨number.toNat, place.toNat, by omega, by omega, by omega, by omega⟩
    rw [Int.toNat_natCast, Int.toNat_natCast] at HV hsh
    rw [hv] at HP HV
    dsimp only at HV
    have hpp := Lib.hid (pta_size p)
    have hpa := Lib.hid (pta_all p)
    have hlab : (label n k).length ≤ 9223372036854775807 := by rw [label_len (by omega) (by omega)]; decide
    have HL := Lib.hid (fun W => Label_any n k W hn hk)
    have HGt := Lib.hid (fun W (hh : Below w.heap.size w W) => SGet_any (h.st.below hh) (label n k) hlab)
    have HG := Lib.hid (fun W (hh : Below w.heap.size w W) => hG.below hh)
    have hgb := Lib.hid (show ((sGet d (label n k)).1.map Sv.l).getD [] = (sGetL Sv.l d (label n k)).1 from rfl)
    have hgn := Lib.hid (show (sGet d (label n k)).2 = (sGetL Sv.l d (label n k)).2 from rfl)
    rw [hgb.out, hgn.out] at HGt
    generalize sGetL Sv.l d (label n k) = r at *
    obtain ⟨rb, rn⟩ := r
    generalize label n k = lb at *
    dsimp only at HGt HV hsh
    clear hgb hgn hv h hl hps hn hk hlab HSt
    go_enter Tryz.func18, Tryz.ntmps18
    go_upto_region 1 with (fail)
    refine gen1 (T := fun W => Mm w W [(w.heap.size, 43, #[.int .i64 0, .slice none 0 0])] []) hM (fun w1 hM => ?_)
    go_wp2_with fail
    refine (HP.out _ hM.bel).mono ?_
    rintro e w2 ⟨rfl, hb2⟩
    have hM2 := hM.call hb2
    clear hM hb2 HP
    rw [show vpE (some p) = 0 from rfl, show errv 0 = Value.nilIface from rfl, show (some p).getD ptz = p from rfl]
    go_upto_region 4 with ((refine wpl_storeN rfl 37 _ _ rfl _ (pta p) 37 rfl rfl (by rw [hpp.out]; kernel_rfl) (by rw [hpp.out]; rfl) hpa.out ?_))
    refine gen1 (T := fun W => Mm w W [(w2.heap.size, 37, pta p), (w.heap.size, 43, #[.int .i64 0, .slice none 0 0])] []) (hM2.alloc _ _) (fun w3 hM => ?_)
    generalize w2.heap.size = g8 at *
    clear hM2
    have hMd := hM.drew
    clear hM
    refine wp_region_seq (S := (fun W => Mm w W [(g8, 37, pta p), (w.heap.size, 43, #[.int .i64 0, .slice none 0 0])] [])) [(0, true), (1, true), (2, true), (3, true), (4, true), (5, true), (6, false), (7, false), (8, true), (9, true), (10, true), (11, true), (12, true)] (by kernel_rfl) (by kernel_rfl) (fun _ _ _ _ _ h => h) ?_ (fun hHeld => ?_)
    · first | with_reducible exact hMd | with_reducible exact hHeld
    refine gen0 (T := fun W => ((fun W => Mm w W [(g8, 37, pta p), (w.heap.size, 43, #[.int .i64 0, .slice none 0 0])] [])) W ∧ Below w.heap.size w W ∧ True) ?_ (fun wq1 hT => ?_)
    · exact ⟨by (with_reducible exact hMd), by (with_reducible exact hMd.bel), trivial⟩
    (try clear f0 f1 f2 f3 f4 f5 f6 f7 f8 f9 f10 f11)
    obtain ⟨hHeld, f0, -⟩ := hT
    refine seq_take (oi := ⟨some 23, _, _, _, _, _⟩) (v := ?_) rfl (Or.inl ⟨by kernel_rfl, ?_⟩) (by assumption) ?_
    rotate_left
    · (intro wS hSw; (try dsimp only at hSw); obtain ⟨a0, a1⟩ := HS.out _ hSw.bel; clear hSw; refine execV (fun rho hk1 hk2 hk3 hk => ?_); have e0_ := (hk 0).trans (evalP fg0); clear hk; go_simp; (try with_reducible rfl))
    ((with_reducible refine wpSeq_put ?_; go_big_move))
    refine seq_take (oi := ⟨some 24, _, _, _, _, _⟩) (v := ?_) rfl (Or.inl ⟨by kernel_rfl, ?_⟩) (by assumption) ?_
    rotate_left
    · (intro wS hSw; (try dsimp only at hSw); obtain ⟨a0, a1⟩ := HS.out _ hSw.bel; clear hSw; refine execV (fun rho hk1 hk2 hk3 hk => ?_); have e23_ := (hk 23).trans (evalP (fg8 (fg8 (fg1 (fg1 (fg1 (fg1 (fg1 (fg1 (fg1 fg0)))))))))); clear hk; go_simp; (try with_reducible rfl))
    ((with_reducible refine wpSeq_put ?_; go_big_move))
    refine seq_take (oi := ⟨some 25, _, _, _, _, _⟩) (v := ?_) rfl (Or.inl ⟨by kernel_rfl, ?_⟩) (by assumption) ?_
    rotate_left
    · (intro wS hSw; (try dsimp only at hSw); obtain ⟨a0, a1⟩ := HS.out _ hSw.bel; clear hSw; refine execV (fun rho hk1 hk2 hk3 hk => ?_); have e24_ := (hk 24).trans (evalP (fg8 (fg8 (fg8 fg0)))); clear hk; go_simp; (try with_reducible rfl))
    ((with_reducible refine wpSeq_put ?_; go_big_move))
    refine seq_take (oi := ⟨some 26, _, _, _, _, _⟩) (v := ?_) rfl (Or.inl ⟨by kernel_rfl, ?_⟩) (by assumption) ?_
    rotate_left
    · (intro wS hSw; (try dsimp only at hSw); obtain ⟨a0, a1⟩ := HS.out _ hSw.bel; clear hSw; refine execV (fun rho hk1 hk2 hk3 hk => ?_); have e25_ := (hk 25).trans (evalP (fg8 (fg8 (fg8 (fg1 fg0))))); clear hk; go_simp; (try with_reducible rfl))
    ((with_reducible refine wpSeq_put ?_; go_big_move))
    refine seq_take (oi := ⟨some 27, _, _, _, _, _⟩) (v := ?_) rfl (Or.inl ⟨by kernel_rfl, ?_⟩) (by assumption) ?_
    rotate_left
    · (intro wS hSw; (try dsimp only at hSw); obtain ⟨a0, a1⟩ := HS.out _ hSw.bel; clear hSw; refine execV (fun rho hk1 hk2 hk3 hk => ?_); have e1_ := (hk 1).trans (evalP (fg1 fg0)); clear hk; go_simp; (try with_reducible rfl))
    ((with_reducible refine wpSeq_put ?_; go_big_move))
    refine seq_take (oi := ⟨some 28, _, _, _, _, _⟩) (v := ?_) rfl (Or.inl ⟨by kernel_rfl, ?_⟩) (by assumption) ?_
    rotate_left
    · (intro wS hSw; (try dsimp only at hSw); obtain ⟨a0, a1⟩ := HS.out _ hSw.bel; clear hSw; refine execV (fun rho hk1 hk2 hk3 hk => ?_); have e2_ := (hk 2).trans (evalP (fg1 (fg1 fg0))); clear hk; go_simp; (try with_reducible rfl))
    ((with_reducible refine wpSeq_put ?_; go_big_move))
    refine seq_step (o := ⟨some 29, _, _, _, _, _⟩) rfl (fun K hK => ?_)
    with_reducible refine wantedP (by kernel_rfl) ?_
    (go_big_op)
    (refine (HL.out _).mono ?_; rintro e w12 ⟨rfl, hb9⟩)
    go_wp2_with fail
    refine hK.out _ _ ?_ (fun _ => ?_)
    · ((try dsimp only); (with_reducible exact hHeld.call hb9))
    clear hK K
    ((try simp only [Act.put, pS0, pS1, pS2]))
    refine gen0 (T := fun W => ((fun W => Mm w W [(g8, 37, pta p), (w.heap.size, 43, #[.int .i64 0, .slice none 0 0])] [])) W ∧ Below w.heap.size w W ∧ True) ?_ (fun wq2 hT => ?_)
    · exact ⟨by (with_reducible exact hHeld.call hb9), by (exact bel_call f0 hb9), trivial⟩
    (try clear f0 f1 f2 f3 f4 f5 f6 f7 f8 f9 f10 f11)
    obtain ⟨hHeld, f0, -⟩ := hT
    refine seq_step (o := ⟨some 30, _, _, _, _, _⟩) rfl (fun K hK => ?_)
    with_reducible refine wantedP (by kernel_rfl) ?_
    (go_big_op)
    (refine (HGt.out _ f0).mono ?_; rintro e w12 ⟨A9, c9, m9, rfl, hm9, ho9, hb9⟩)
    go_wp2_with fail
    refine hK.out _ _ ?_ (fun _ => ?_)
    · ((try dsimp only); (with_reducible exact hHeld.call hb9))
    clear hK K
    ((try simp only [Act.put, pS0, pS1, pS2]))
    refine gen0 (T := fun W => ((fun W => Mm w W [(g8, 37, pta p), (w.heap.size, 43, #[.int .i64 0, .slice none 0 0])] [])) W ∧ Below w.heap.size w W ∧ SlB W A9 c9 m9 ∧ True) ?_ (fun wq3 hT => ?_)
    · exact ⟨by (with_reducible exact hHeld.call hb9), by (exact bel_call f0 hb9), by (exact ho9.sl), trivial⟩
    (try clear f0 f1 f2 f3 f4 f5 f6 f7 f8 f9 f10 f11)
    obtain ⟨hHeld, f0, f1, -⟩ := hT
    refine seq_take (oi := ⟨some 22, _, _, _, _, _⟩) (v := ?_) rfl (Or.inl ⟨by kernel_rfl, ?_⟩) (by assumption) ?_
    rotate_left
    · (intro wS hSw; (try dsimp only at hSw); obtain ⟨a0, a1⟩ := HS.out _ hSw.bel; clear hSw; refine execV (fun rho hk1 hk2 hk3 hk => ?_); have e30_ := (hk 30).trans (evalP (fg8 (fg8 (fg8 (fg1 (fg1 (fg1 (fg1 (fg1 (fg1 fg0)))))))))); clear hk; go_simp; (try with_reducible rfl))
    ((with_reducible refine wpSeq_put ?_; go_big_move))
    refine seq_take (oi := ⟨some 31, _, _, _, _, _⟩) (v := ?_) rfl (Or.inl ⟨by kernel_rfl, ?_⟩) (by assumption) ?_
    rotate_left
    · (intro wS hSw; (try dsimp only at hSw); obtain ⟨a0, a1⟩ := HS.out _ hSw.bel; clear hSw; refine execV (fun rho hk1 hk2 hk3 hk => ?_); have e22_ := (hk 22).trans (evalP (fg8 (fg8 (fg1 (fg1 (fg1 (fg1 (fg1 (fg1 fg0))))))))); clear hk; go_simp; (try with_reducible rfl))
    ((with_reducible refine wpSeq_put ?_; go_big_move))
    refine seq_take (oi := ⟨some 32, _, _, _, _, _⟩) (v := ?_) rfl (Or.inl ⟨by kernel_rfl, ?_⟩) (by assumption) ?_
    rotate_left
    · (intro wS hSw; (try dsimp only at hSw); obtain ⟨a0, a1⟩ := HS.out _ hSw.bel; clear hSw; refine execV (fun rho hk1 hk2 hk3 hk => ?_); have e22_ := (hk 22).trans (evalP (fg8 (fg8 (fg1 (fg1 (fg1 (fg1 (fg1 (fg1 fg0))))))))); clear hk; go_simp; (try with_reducible rfl))
    ((with_reducible refine wpSeq_put ?_; go_big_move))
    refine seq_take (oi := ⟨some 10, _, _, _, _, _⟩) (v := ?_) rfl (Or.inl ⟨by kernel_rfl, ?_⟩) (by assumption) ?_
    rotate_left
    · (intro wS hSw; (try dsimp only at hSw); obtain ⟨a0, a1⟩ := HS.out _ hSw.bel; clear hSw; refine execV (fun rho hk1 hk2 hk3 hk => ?_); have e31_ := (hk 31).trans (evalP (fg8 (fg8 (fg8 (fg1 (fg1 (fg1 (fg1 (fg1 (fg1 (fg1 fg0))))))))))); clear hk; go_simp; (try with_reducible rfl))
    ((with_reducible refine wpSeq_put ?_; go_big_move))
    refine seq_take (oi := ⟨some 9, _, _, _, _, _⟩) (v := ?_) rfl (Or.inl ⟨by kernel_rfl, ?_⟩) (by assumption) ?_
    rotate_left
    · (intro wS hSw; (try dsimp only at hSw); obtain ⟨a0, a1⟩ := HS.out _ hSw.bel; clear hSw; refine execV (fun rho hk1 hk2 hk3 hk => ?_); have e32_ := (hk 32).trans (evalP (fg8 (fg8 (fg8 (fg8 fg0))))); clear hk; go_simp; (try with_reducible rfl))
    ((with_reducible refine wpSeq_put ?_; go_big_move))
    refine seq_done ?_
    have hM := hHeld
    clear hHeld hMd HL HGt HS
    rcases errv_cases rn with ⟨h0, hev⟩ | ⟨ke, hk1, hke, hev⟩
    rotate_left
    · have HT := Lib.hid (show vget Sv.l ⟨d, mvs l⟩ n k = ((0, []), rn) from by rw [HV.out, if_pos (by omega)])
      have HEV := Lib.hid hev
      rw [hev]
      clear hev hke HV
      obtain ⟨r0, r1, rf0, rf1⟩ := hM.b1.two
      go_wp2_with fail
      exact bodyPost_ret (res_sg2 rfl rfl (g := w.heap.size) (hM.b1.set2 _ _)) rfl ⟨none, 0, [], by rw [HT.out]; first | rfl | (dsimp only; rw [HEV.out]; rfl), (show _ = _ from by rw [HT.out] <;> rfl), NewS.nil _ _, bel_set (bel_set hM.bel (by dsimp only; omega) _) (by dsimp only; omega) _⟩
    · have HT := Lib.hid (show vget Sv.l ⟨d, mvs l⟩ n k = mholds p rb from by rw [HV.out, if_neg (by omega)])
      rw [hev]
      have HH := Lib.hid (MHolds_any (A := A9) (c := c9) p m9 _ (HG.out _ hM.bel) (by with_reducible assumption) (by rw [hm9.out]; omega))
      clear hev HV HG
      go_wp2_with (refine wpl_loadG rfl 37 _ rfl ⟨g8, 0, none⟩ (pta p) rfl hM.b0.cells _ Tryz.underlying37 rfl (by rw [hpp.out]; kernel_rfl) ?_)
      refine HH.out.mono ?_
      rintro e w5 ⟨A5, c5, m5, rfl, hm5, hN5, hb5⟩
      have hlo := hM.bel.size
      have hlt := hM.b1.lt
      have hM5 := hM.call hb5
      clear HH hM
      obtain ⟨r0, r1, rf0, rf1⟩ := hM5.b1.two
      rw [hm9.out] at hm5 ⊢
      generalize mholds p rb = x at *
      obtain ⟨⟨x0, x1⟩, x2⟩ := x
      dsimp only at hm5 ⊢
      go_wp2_with fail
      exact bodyPost_ret (res_sg2 rfl rfl (g := w.heap.size) (hM5.b1.set2 _ _)) rfl ⟨A5, c5, m5, by rw [HT.out]; rfl, (show _ = _ from by rw [HT.out]; exact hm5.out), NewS.more ((hN5.setLow (g := w.heap.size) hlt 0 _).setLow (g := w.heap.size) hlt 1 _) (by omega), bel_set (bel_set hM5.bel (by dsimp only; omega) _) (by dsimp only; omega) _⟩
end Go.Proofs.YtajfnmohlnkncaaGreatDoor

namespace Go.Proofs.YtajfnmohlnkncaaGreatDoor
open Go.RowKit

theorem rowGo_take {k : Int} : ∀ {l : List Ce}, (∀ c ∈ l, cchk c = 0) → l.take (rowGo k l) = List.replicate (rowGo k l) (k, [])
  | [], _ => rfl
  | c :: r, h => by
    unfold rowGo
    by_cases hc : c.1 ≠ 1 ∧ c.1 = k
    · rw [if_pos hc, List.take_succ_cons, List.replicate_succ, rowGo_take fun x hx => h x (by simp [hx])]
      have h2 := (cchk_ok (h c (by simp))).2.2.2 hc.1
      obtain ⟨c1, c2⟩ := c
      dsimp only at hc h2
      rw [h2, hc.2]
    · rw [if_neg hc]; rfl
theorem rowGo_next {k : Int} : ∀ {l : List Ce} {c : Ce} {r : List Ce}, l.drop (rowGo k l) = c :: r → ¬ (c.1 ≠ 1 ∧ c.1 = k)
  | [], c, r, h => by simp [rowGo] at h
  | x :: l, c, r, h => by
    unfold rowGo at h
    by_cases hc : x.1 ≠ 1 ∧ x.1 = k
    · rw [if_pos hc, List.drop_succ_cons] at h
      exact rowGo_next h
    · rw [if_neg hc] at h
      simp only [List.drop_zero, List.cons.injEq] at h
      rw [← h.1]; exact hc
theorem rowGo_repB {k : Int} {cs : List Ce} (hk : k ≠ 1) (h : ∀ c r, cs = c :: r → ¬ (c.1 ≠ 1 ∧ c.1 = k)) : ∀ n, rowGo k (List.replicate n (k, []) ++ cs) = n
  | 0 => by
    cases cs with
    | nil => rfl
    | cons c r => simp only [List.replicate_zero, List.nil_append, rowGo]; rw [if_neg (h c r rfl)]
  | n + 1 => by
    rw [List.replicate_succ, List.cons_append, rowGo, if_pos ⟨hk, rfl⟩, rowGo_repB hk h n]
/-- the row ahead is not of the next one's kind -/
def Kd (kind : Nat) (cs : List Ce) : Prop := ∀ c r, cs = c :: r → c.1 ≠ 1 → c.1 ≠ (kind : Int)
theorem rWithin_vbT {k m : Nat} (h : U64 k) (hk : k ≤ m) (hk2 : k ≤ 4611686018427387904) (r : List UInt8) : rWithin m (vb k ++ r, 0) = (k, (r, 0)) := by
  unfold rWithin
  rw [rNum_vb h, if_neg (by simp only [gt_iff_lt]; omega)]
theorem u64_of {n : Nat} (h : n ≤ 1000000) : U64 n := by unfold U64; omega
theorem tk_put : ∀ (N : Nat) (cs : List Ce) (t : Tk) (rest : List UInt8), cs.length ≤ N → (∀ c ∈ cs, cchk c = 0) → cs.length ≤ 64 → t.last.length ≤ 64 → t.left = cs.length → t.s = (prun t.last cs ++ rest, 0) → Kd t.kind cs → (tkEnd t).out = t.out ++ cs ∧ (tkEnd t).s = (rest, 0)
  | N, [], t, rest, _, _, _, _, hl, hs, _ => by
    rw [tkEnd_stop (.inl (by simpa using hl)), hs]
    simp [prun]
  | 0, c :: r, _, _, hN, _, _, _, _, _, _ => by simp at hN
  | N + 1, c :: r, t, rest, hN, hok, h64, hlast, hl, hs, hK => by
    have hs0 : t.s.2 = 0 := by rw [hs]
    have hc := hok c (by simp)
    obtain ⟨k0, k3, hc64, hcd⟩ := cchk_ok hc
    rw [tkEnd_step (by rw [hl]; simp) hs0]
    simp only [List.length_cons] at hN h64
    by_cases hd : c.1 = 1
    · have hz := rowN_zero (c := c) (r := r) |>.2 hd
      rw [prun_data hz] at hs
      simp only [List.append_assoc] at hs
      have hcp := cpl_le t.last c.2
      have e1 : rNum t.s = (0, (vb c.2.length ++ (vb (cpl t.last c.2) ++ (c.2.drop (cpl t.last c.2) ++ (prun c.2 r ++ rest))), 0)) := by rw [hs, rNum_vb (u64_of (by omega))]
      have e2 : rNum (vb c.2.length ++ (vb (cpl t.last c.2) ++ (c.2.drop (cpl t.last c.2) ++ (prun c.2 r ++ rest))), 0) = (c.2.length, (vb (cpl t.last c.2) ++ (c.2.drop (cpl t.last c.2) ++ (prun c.2 r ++ rest)), 0)) := rNum_vb (u64_of (by omega)) _
      have e3 : rNum (vb (cpl t.last c.2) ++ (c.2.drop (cpl t.last c.2) ++ (prun c.2 r ++ rest)), 0) = (cpl t.last c.2, (c.2.drop (cpl t.last c.2) ++ (prun c.2 r ++ rest), 0)) := rNum_vb (u64_of (by omega)) _
      have e5 : rFixed ((c.2.length - cpl t.last c.2 : Nat) : Int) (c.2.drop (cpl t.last c.2) ++ (prun c.2 r ++ rest), 0) = (c.2.drop (cpl t.last c.2), (prun c.2 r ++ rest, 0)) := by
        have := rFixed_all (c.2.drop (cpl t.last c.2)) (prun c.2 r ++ rest)
        rw [List.length_drop] at this
        exact this
      have hx : c.2 = t.last.take (cpl t.last c.2) ++ c.2.drop (cpl t.last c.2) := by rw [cpl_take, List.take_append_drop]
      have hst := st_textok e1 e2 rfl rfl (by omega) e3 (by omega) (by omega) rfl e5 rfl hx rfl
      rw [hst]
      have ih := tk_put N r ⟨(prun c.2 r ++ rest, 0), t.out ++ [(1, c.2)], t.left - 1, c.2, 1⟩ rest (by omega) (fun x hx => hok x (by simp [hx])) (by omega) (by dsimp only; omega) (by dsimp only; rw [hl]; simp) rfl (fun c' r' _ h1 h2 => h1 (by simpa using h2))
      rw [ih.1, ih.2]
      refine ⟨?_, rfl⟩
      dsimp only
      rw [List.append_assoc, List.singleton_append, show ((1 : Int), c.2) = c from by rw [← hd]]
    · obtain ⟨n, hn⟩ : ∃ n, rowN (c :: r) = n := ⟨_, rfl⟩
      have hn0 : 0 < n := by
        rw [← hn]
        exact Nat.pos_of_ne_zero fun h => hd (rowN_zero.1 h)
      have hnl : n ≤ r.length + 1 := by rw [← hn]; exact rowN_le (c :: r)
      obtain ⟨k, hk⟩ : ∃ k : Nat, c.1 = k := ⟨c.1.toNat, by omega⟩
      have hp : prun t.last (c :: r) = vb n ++ vb k ++ prun t.last ((c :: r).drop n) := by
        rw [prun, if_pos (by omega), hn, hk]; rfl
      rw [hp] at hs
      simp only [List.append_assoc] at hs
      have e1 : rNum t.s = (n, (vb k ++ (prun t.last ((c :: r).drop n) ++ rest), 0)) := by rw [hs, rNum_vb (u64_of (by omega))]
      have e2 : rWithin 3 (vb k ++ (prun t.last ((c :: r).drop n) ++ rest), 0) = (k, (prun t.last ((c :: r).drop n) ++ rest, 0)) := rWithin_vbT (u64_of (by omega)) (by omega) (by omega) _
      have hkk : ¬ (k = 1 ∨ k = t.kind) := by
        have := hK c r rfl hd
        omega
      have hst := st_rowok e1 rfl hn0 (by rw [hl]; simpa using hnl) e2 rfl hkk
      rw [hst]
      have hgo : rowGo c.1 (c :: r) = n := hn
      have ht := rowGo_take (k := c.1) hok
      rw [hgo] at ht
      have hnx : ∀ c' r', (c :: r).drop n = c' :: r' → ¬ (c'.1 ≠ 1 ∧ c'.1 = c.1) := fun c' r' h => by rw [← hgo] at h; exact rowGo_next h
      have hdl : ((c :: r).drop n).length = r.length + 1 - n := by simp
      have ih := tk_put N ((c :: r).drop n) ⟨(prun t.last ((c :: r).drop n) ++ rest, 0), t.out ++ List.replicate n ((k : Int), []), t.left - n, t.last, k⟩ rest (by omega) (fun x hx => hok x (List.mem_of_mem_drop hx)) (by omega) hlast (by dsimp only; rw [hl, hdl]; simp) rfl (fun c' r' h h1 h2 => hnx c' r' h ⟨h1, by rw [hk]; exact h2⟩)
      rw [ih.1, ih.2]
      refine ⟨?_, rfl⟩
      dsimp only
      rw [List.append_assoc, ← hk, ← ht, List.take_append_drop]
theorem takeRun_put {cs : List Ce} (hok : ∀ c ∈ cs, cchk c = 0) (h64 : cs.length ≤ 64) (rest : List UInt8) : takeRun (vb cs.length ++ (prun [] cs ++ rest), 0) = (cs, (rest, 0)) := by
  have e1 := rNum_vb (n := cs.length) (u64_of (by omega)) (prun [] cs ++ rest)
  have hn : tkNew (vb cs.length ++ (prun [] cs ++ rest), 0) = ⟨(prun [] cs ++ rest, 0), [], cs.length, [], 1⟩ := by
    unfold tkNew
    rw [e1]
    dsimp only
    rw [if_neg (by omega), Nat.min_eq_left h64]
  have h := tk_put cs.length cs ⟨(prun [] cs ++ rest, 0), [], cs.length, [], 1⟩ rest (Nat.le_refl _) hok h64 (by simp) rfl rfl (fun c r _ h1 h2 => h1 (by simpa using h2))
  unfold takeRun
  rw [hn, h.1, h.2]
  simp
theorem rNum_someB {s s1 : Rs} {n : Nat} (h : rNum s = (n, s1)) (h0 : s1.2 = 0) : s.2 = 0 ∧ U64 n ∧ s.1 = vb n ++ s1.1 := by
  unfold rNum at h
  by_cases hb : s.2 = 0
  · rw [if_neg (by simpa using hb)] at h
    cases ht : take s.1 with
    | none => rw [ht] at h; dsimp only at h; injection h with _ h; rw [← h] at h0; exact absurd h0 (Nat.succ_ne_zero 1)
    | some p =>
      obtain ⟨v, e⟩ := p
      rw [ht] at h
      dsimp only at h
      injection h with h1 h2
      obtain ⟨hu, he, hte⟩ := take_some ht
      subst h1
      rw [← h2]
      dsimp only
      exact ⟨hb, hu, by rw [← hte, List.take_append_drop]⟩
  · rw [if_pos hb] at h
    injection h with _ h
    rw [← h] at h0
    exact absurd h0 hb
theorem rWithin_someB {m : Nat} {s s1 : Rs} {n : Nat} (h : rWithin m s = (n, s1)) (h0 : s1.2 = 0) : s.2 = 0 ∧ n ≤ m ∧ s.1 = vb n ++ s1.1 := by
  unfold rWithin at h
  split at h
  · injection h with _ h
    rw [← h] at h0
    exact absurd h0 (rFail_bad (by decide))
  · rename_i hc
    rw [h] at hc
    obtain ⟨h1, h2, h3⟩ := rNum_someB h h0
    dsimp only at hc
    exact ⟨h1, by omega, h3⟩
theorem rFixed_someB {n : Nat} {s s1 : Rs} {f : List UInt8} (h : rFixed (n : Int) s = (f, s1)) (h0 : s1.2 = 0) : s.2 = 0 ∧ f.length = n ∧ s.1 = f ++ s1.1 := by
  unfold rFixed at h
  split at h
  · rename_i hb
    injection h with _ h
    rw [← h] at h0
    exact absurd h0 hb
  · rename_i hb
    split at h
    · injection h with _ h
      rw [← h] at h0
      exact absurd h0 (Nat.succ_ne_zero 1)
    · rename_i hc
      injection h with h1 h2
      rw [← h1, ← h2]
      dsimp only
      simp only [gt_iff_lt, not_or] at hc
      exact ⟨by simpa using hb, by simp only [List.length_take, Int.toNat_natCast]; omega, by rw [List.take_append_drop]⟩
theorem tk_back : ∀ (N : Nat) (t : Tk), t.left ≤ N → TkOk t → t.s.2 = 0 → (tkEnd t).s.2 = 0 → ∃ cs, (tkEnd t).out = t.out ++ cs ∧ t.s.1 = prun t.last cs ++ (tkEnd t).s.1 ∧ cs.length = t.left ∧ (∀ c ∈ cs, cchk c = 0) ∧ Kd t.kind cs
  | N, t, hN, hO, hs0, hE0 => by
    rcases Nat.eq_zero_or_pos t.left with h0 | h0
    · rw [tkEnd_stop (.inl h0)]
      exact ⟨[], by simp, by simp [prun], by simp [h0], fun c hc => by simp at hc, fun c r h => by cases h⟩
    · match N, hN with
      | 0, hN => omega
      | N + 1, hN =>
      have hes := tkEnd_step (t := t) (by omega) hs0
      have hst0 : (tkStep t).s.2 = 0 := by
        rcases Decidable.em ((tkStep t).s.2 = 0) with h | h
        · exact h
        · rw [hes, tkEnd_stop (.inr h)] at hE0; exact absurd hE0 h
      have hok := tkStep_ok hO h0 hst0
      have hlt := tkStep_left t
      have ih := tk_back N (tkStep t) (by rcases hlt with h | h; exact absurd hst0 h; omega) hok hst0 (by rw [← hes]; exact hE0)
      rw [← hes] at ih
      obtain ⟨cs, h1, h2, h3, h4, h5⟩ := ih
      obtain ⟨many, s1, e1⟩ : ∃ n s, rNum t.s = (n, s) := ⟨_, _, rfl⟩
      have hs1 : s1.2 = 0 := by
        rcases Decidable.em (s1.2 = 0) with h | h
        · exact h
        · rw [st_bad e1 h] at hst0; exact absurd hst0 h
      obtain ⟨_, hum, hl1⟩ := rNum_someB e1 hs1
      rcases Nat.eq_zero_or_pos many with hm | hm
      · obtain ⟨n, s2, e2⟩ : ∃ n s, rNum s1 = (n, s) := ⟨_, _, rfl⟩
        have hc2 : s2.2 = 0 ∧ n ≤ 64 := by
          rcases Decidable.em (s2.2 ≠ 0 ∨ 64 < n) with h | h
          · have := st_long e1 e2 hs1 hm h
            rw [this] at hst0
            exact absurd hst0 (rFail_bad (by decide))
          · exact ⟨Decidable.byContradiction fun h' => h (.inl h'), Nat.le_of_not_lt fun h' => h (.inr h')⟩
        obtain ⟨hs2, hn⟩ := hc2
        obtain ⟨_, hun, hl2⟩ := rNum_someB e2 hs2
        obtain ⟨k, s3, e3⟩ : ∃ n s, rNum s2 = (n, s) := ⟨_, _, rfl⟩
        have hc3 : ¬ (s3.2 ≠ 0 ∨ n < k ∨ t.last.length < k) := fun h => by
          have := st_share e1 e2 hs1 hm hn e3 h
          rw [this] at hst0
          exact absurd hst0 (rFail_bad (by decide))
        have hs3 : s3.2 = 0 := Decidable.byContradiction fun h => hc3 (.inl h)
        have hk1 : k ≤ n := Nat.le_of_not_lt fun h => hc3 (.inr (.inl h))
        have hk2 : k ≤ t.last.length := Nat.le_of_not_lt fun h => hc3 (.inr (.inr h))
        obtain ⟨_, huk, hl3⟩ := rNum_someB e3 hs3
        obtain ⟨f, s5, e5⟩ : ∃ f s, rFixed ((n - k : Nat) : Int) s3 = (f, s) := ⟨_, _, rfl⟩
        have hs5 : s5.2 = 0 := by
          rcases Decidable.em (s5.2 = 0) with h | h
          · exact h
          · rw [st_fixbad e1 e2 hs1 hm hn e3 hk1 hk2 hs3 e5 h] at hst0; exact absurd hst0 h
        obtain ⟨_, hfl, hl5⟩ := rFixed_someB e5 hs5
        have hcp : cpl t.last (t.last.take k ++ f) = k := by
          rcases Decidable.em (cpl t.last (t.last.take k ++ f) = k) with h | h
          · exact h
          · rw [st_textbad e1 e2 hs1 hm hn e3 hk1 hk2 hs3 e5 hs5 rfl h] at hst0
            exact absurd hst0 (rFail_bad (by decide))
        have hst := st_textok e1 e2 hs1 hm hn e3 hk1 hk2 hs3 e5 hs5 rfl hcp
        rw [hst] at h1 h2 h3 h5
        dsimp only at h1 h2 h3 h5
        have hxl : (t.last.take k ++ f).length = n := by rw [List.length_append, List.length_take, hfl]; omega
        have hxd : (t.last.take k ++ f).drop k = f := List.drop_left' (by rw [List.length_take]; omega)
        refine ⟨(1, t.last.take k ++ f) :: cs, by rw [h1, List.append_assoc]; rfl, ?_, by simp only [List.length_cons]; omega, fun c hc => ?_, fun c r he hc => ?_⟩
        · rw [prun_data (rowN_zero.2 rfl), hcp, hxl]
          dsimp only
          rw [hxd, hl1, hm, hl2, hl3, hl5, h2]
          simp only [List.append_assoc]
        · rcases List.mem_cons.1 hc with rfl | hc
          · rcases cchk_cases (1, t.last.take k ++ f) with h | h | h | h | h | h <;> first | exact h.2.2.2 | (exfalso; dsimp only at h; omega)
          · exact h4 c hc
        · injection he with he _
          rw [← he] at hc
          exact absurd rfl hc
      · have hfar : many ≤ t.left := by
          rcases Nat.lt_or_ge t.left many with h | h
          · rw [st_far e1 hs1 hm h] at hst0; exact absurd hst0 (rFail_bad (by decide))
          · exact h
        obtain ⟨k, s2, e2⟩ : ∃ n s, rWithin 3 s1 = (n, s) := ⟨_, _, rfl⟩
        have hc2 : ¬ (s2.2 ≠ 0 ∨ k = 1 ∨ k = t.kind) := fun h => by
          rw [st_rowbad e1 hs1 hm hfar e2 h] at hst0
          exact absurd hst0 (rFail_bad (by decide))
        have hs2 : s2.2 = 0 := Decidable.byContradiction fun h => hc2 (.inl h)
        have hkk : ¬ (k = 1 ∨ k = t.kind) := fun h => hc2 (.inr h)
        obtain ⟨_, hk3, hl2⟩ := rWithin_someB e2 hs2
        have hst := st_rowok e1 hs1 hm hfar e2 hs2 hkk
        rw [hst] at h1 h2 h3 h5
        dsimp only at h1 h2 h3 h5
        have hk1 : (k : Int) ≠ 1 := by omega
        have hgo := rowGo_repB (k := (k : Int)) (cs := cs) hk1 (fun c r he hc => h5 c r he hc.1 hc.2) many
        obtain ⟨q, hq⟩ : ∃ q, many = q + 1 := ⟨many - 1, by omega⟩
        have hrn : rowN (List.replicate many ((k : Int), []) ++ cs) = many := by
          rw [hq, List.replicate_succ, List.cons_append] at hgo ⊢
          exact hgo
        refine ⟨List.replicate many ((k : Int), []) ++ cs, by rw [h1, List.append_assoc], ?_, by rw [List.length_append, List.length_replicate]; omega, fun c hc => ?_, fun c r he hc => ?_⟩
        · obtain ⟨kz, ⟨rz, dz, hz⟩, hp⟩ := prun_row (last := t.last) (l := List.replicate many ((k : Int), []) ++ cs) (by rw [hrn]; exact hm)
          have hkz : kz = (k : Int) := by
            rw [hq, List.replicate_succ, List.cons_append] at hz
            injection hz with hz _
            injection hz with hz _
            exact hz.symm
          rw [hp, hrn, hkz, List.drop_left' (by simp), hl1, hl2, h2]
          simp only [List.append_assoc, Int.toNat_natCast]
        · rcases List.mem_append.1 hc with hc | hc
          · rw [List.eq_of_mem_replicate hc]
            rcases cchk_cases ((k : Int), []) with h | h | h | h | h | h <;> first | exact h.2.2.2 | (exfalso; simp at h; done) | (exfalso; simp at h; omega)
          · exact h4 c hc
        · rw [hq, List.replicate_succ, List.cons_append] at he
          injection he with he _
          rw [← he]
          dsimp only
          omega
theorem takeRun_back {l : List UInt8} {cs : List Ce} {s' : Rs} (hl : l.length ≤ 1000000000) (h : takeRun (l, 0) = (cs, s')) (h0 : s'.2 = 0) : l = vb cs.length ++ (prun [] cs ++ s'.1) ∧ (∀ c ∈ cs, cchk c = 0) ∧ cs.length ≤ 64 := by
  obtain ⟨n, s1, e1⟩ : ∃ n s, rNum (l, 0) = (n, s) := ⟨_, _, rfl⟩
  have hc : s1.2 = 0 ∧ n ≤ 64 := by
    rcases Decidable.em (s1.2 ≠ 0 ∨ 64 < n) with hx | hx
    · rw [tr_start e1 hx] at h
      injection h with _ h
      rw [← h] at h0
      exact absurd h0 (rFail_bad (by decide))
    · exact ⟨Decidable.byContradiction fun h' => hx (.inl h'), Nat.le_of_not_lt fun h' => hx (.inr h')⟩
  obtain ⟨hs1, hn⟩ := hc
  obtain ⟨_, _, hl1⟩ := rNum_someB e1 hs1
  have hsl := rNum_len (l, 0)
  rw [e1] at hsl
  dsimp only at hl1 hsl
  have hnew : tkNew (l, 0) = ⟨s1, [], n, [], 1⟩ := by
    unfold tkNew
    rw [e1]
    dsimp only
    rw [if_neg (by omega), Nat.min_eq_left hn]
  unfold takeRun at h
  rw [hnew] at h
  by_cases hb : (tkEnd ⟨s1, [], n, [], 1⟩).s.2 ≠ 0
  · rw [if_pos hb] at h
    injection h with _ h
    rw [h] at hb
    exact absurd h0 hb
  · rw [if_neg hb] at h
    injection h with h1 h2
    obtain ⟨cs', b1, b2, b3, b4, _⟩ := tk_back n ⟨s1, [], n, [], 1⟩ (Nat.le_refl _) ⟨by dsimp only [List.length_nil]; omega, by dsimp only; omega, by dsimp only [List.length_nil]; omega, by dsimp only; omega⟩ hs1 (Decidable.byContradiction fun h' => hb h')
    dsimp only at b1 b2 b3
    rw [List.nil_append] at b1
    rw [b1] at h1
    subst h1
    rw [h2] at b2
    exact ⟨by rw [hl1, b2, b3], b4, by omega⟩
end Go.Proofs.YtajfnmohlnkncaaGreatDoor

namespace Go.Proofs.YtajfnmohlnkncaaGreatDoor
open Go.RowKit

theorem stxt_short {s : Sg} (h : schk s = 0) : (stxt s).length ≤ 65536 := Nat.le_trans (stxt_len h) (by decide)
theorem sput_ok {s : Sg} (h : schk s = 0) : sput s = (frm (stxt s), 0) := by
  unfold sput fput
  have := stxt_short h
  rw [if_neg (by rw [h]; simp), if_neg (by omega)]
  rfl
theorem sgTake_put {s : Sg} (h : schk s = 0) : sgTake (sput s).1 = (s, 0) := by
  obtain ⟨h0, h1, h2, h3, h4⟩ := schk_ok h
  obtain ⟨n, hn⟩ : ∃ n : Nat, s.1 = n := ⟨s.1.toNat, by omega⟩
  rw [sput_ok h]
  unfold sgTake
  rw [fone_frm (stxt_short h), if_neg (by simp)]
  have e1 : rWithin 1048576 (stxt s, 0) = (n, (vb s.2.length ++ (prun [] s.2 ++ []), 0)) := by
    unfold stxt
    rw [hn, Int.toNat_natCast, List.append_nil]
    exact rWithin_vbT (by unfold U64; omega) (by omega) (by omega) _
  have e2 := takeRun_put (rchk_zero h4) h2 []
  have e3 : sgRead (stxt s, 0) = (s, ([], 0)) := by
    unfold sgRead
    rw [e1]
    dsimp only
    rw [e2]
    obtain ⟨s1, s2⟩ := s
    dsimp only at hn ⊢
    rw [hn]
  rw [show ((stxt s, (0 : Nat)).1, 0) = (stxt s, 0) from rfl, e3]
  unfold sgEnd
  rw [if_neg (by simp [rEnd]), if_neg (by rw [h]; simp)]
theorem rEnd_zeroQ {s : Rs} (h : rEnd s = 0) : s = ([], 0) := by
  obtain ⟨l, b⟩ := s
  unfold rEnd at h
  split at h
  · exact absurd h (by decide)
  · rename_i hc
    dsimp only at hc h
    subst h
    cases l with
    | nil => rfl
    | cons x r => exact absurd ⟨rfl, by simp⟩ hc
theorem sgTake_back {b : List UInt8} {s : Sg} (_hl : b.length ≤ 1000000) (h : sgTake b = (s, 0)) : schk s = 0 ∧ sput s = (b, 0) := by
  unfold sgTake at h
  by_cases hf : (fone b).2 ≠ 0
  · rw [if_pos hf] at h
    injection h with _ h
    exact absurd h hf
  · rw [if_neg hf] at h
    obtain ⟨hb1, hb2⟩ := fone_back (Decidable.byContradiction hf)
    have hfl := fone_len b
    generalize (fone b).1 = t at *
    unfold sgEnd at h
    by_cases he : rEnd (sgRead (t, 0)).2 ≠ 0
    · rw [if_pos he] at h
      injection h with _ h
      exact absurd h he
    · rw [if_neg he] at h
      by_cases hc : schk (sgRead (t, 0)).1 ≠ 0
      · rw [if_pos hc] at h
        injection h with _ h
        exact absurd h hc
      · rw [if_neg hc] at h
        injection h with h _
        have hc0 : schk s = 0 := by rw [← h]; exact Decidable.byContradiction hc
        have he0 := rEnd_zeroQ (Decidable.byContradiction he)
        obtain ⟨f, s3, e1⟩ : ∃ f s, rWithin 1048576 (t, 0) = (f, s) := ⟨_, _, rfl⟩
        obtain ⟨cs, s5, e2⟩ : ∃ r s, takeRun s3 = (r, s) := ⟨_, _, rfl⟩
        have hsr : sgRead (t, 0) = (((f : Int), cs), s5) := by unfold sgRead; rw [e1]; dsimp only; rw [e2]
        rw [hsr] at he0 h
        dsimp only at he0 h
        subst he0
        have hs3 : s3.2 = 0 := by
          rcases Decidable.em (s3.2 = 0) with h' | h'
          · exact h'
          · have hz : takeRun s3 = ([], rFail 3 s3) := tr_start (rNum_of h') (.inl h')
            rw [e2] at hz
            injection hz with _ hz
            rw [rFail_of h'] at hz
            rw [← hz] at h'
            exact absurd rfl h'
        obtain ⟨_, _, hl1⟩ := rWithin_someB e1 hs3
        obtain ⟨l3, b3⟩ := s3
        dsimp only at hs3 hl1
        subst hs3
        have hl3 : l3.length ≤ 1000000000 := by
          have := congrArg List.length hl1
          rw [List.length_append] at this
          omega
        obtain ⟨hl2, _, _⟩ := takeRun_back hl3 e2 rfl
        refine ⟨hc0, ?_⟩
        rw [sput_ok hc0]
        have hst : stxt s = t := by
          rw [← h]
          unfold stxt
          dsimp only
          rw [Int.toNat_natCast, hl1, hl2]
          simp
        rw [hst, ← hb2]
end Go.Proofs.YtajfnmohlnkncaaGreatDoor

namespace Go.Proofs.YtajfnmohlnkncaaGreatDoor

theorem mof_zero {s : Sg} {px : Pt5} {yl : List UInt8} (h : mof s = (px, yl, 0)) : schk s = 0 ∧ px = (s.1, (s.2.length : Int), (yl.length : Int), shaD yl) ∧ yl = frm (stxt s) := by
  by_cases h1 : schk s = 0
  · by_cases h2 : s.2.length = 0
    · rw [mof_none h1 h2] at h
      injection h with _ h
      injection h with _ h
      cases h
    · rw [mof_ok h1 h2] at h
      injection h with h3 h
      injection h with h4 _
      subst h4
      exact ⟨h1, h3.symm, rfl⟩
  · rw [mof_bad h1] at h
    injection h with _ h
    injection h with _ h
    exact absurd h h1
theorem sgTake_frm {s : Sg} (h : schk s = 0) : sgTake (frm (stxt s)) = (s, 0) := by
  have h1 := sgTake_put h
  rw [sput_okO h] at h1
  exact h1
end Go.Proofs.YtajfnmohlnkncaaGreatDoor

namespace Go.Proofs.YtajfnmohlnkncaaGreatDoor

section
variable {α : Type}
/-- a disk that is up, has nothing pending, and its objects in order -/
structure Upd (d : Dk α) : Prop where
  up : d.down = false
  pn : d.pend = []
  rs : Ris d.sure
  na : Sna d.sure
theorem Upd.get {d : Dk α} (h : Upd d) {n : Bs} (hn : snamed n = true) : sGet d n = match gget n d.sure with | none => (none, 4) | some v => (some v, 0) := by
  unfold sGet dRead
  rw [if_neg (by rw [hn]; decide), if_neg (by rw [h.up]; decide), shown_nil h.pn]
  cases gget n d.sure <;> rfl
theorem Upd.some {dec : α → Bs} {d : Dk α} (h : Upd d) {n : Bs} (hn : snamed n = true) {x : α} (hx : gget n d.sure = some x) : sGetL dec d n = (dec x, 0) := by
  unfold sGetL
  rw [h.get hn, hx]
  rfl
theorem Upd.none {dec : α → Bs} {d : Dk α} (h : Upd d) {n : Bs} (hn : snamed n = true) (hx : gget n d.sure = none) : sGetL dec d n = ([], 4) := by
  unfold sGetL
  rw [h.get hn, hx]
  rfl
end
/-! ### parts and addresses -/
theorem pidx_at {x : Int} : ∀ {l : List Pt5} {k : Nat}, pidx x l = (k : Int) → ∃ h : k < l.length, phit x l[k] = true
  | [], k, h => by
    unfold pidx at h
    omega
  | p :: r, k, h => by
    unfold pidx at h
    by_cases h1 : phit x p = true
    · rw [if_pos h1] at h
      obtain rfl : k = 0 := by omega
      exact ⟨Nat.zero_lt_succ _, h1⟩
    · rw [if_neg h1] at h
      by_cases h2 : pidx x r < 0
      · rw [if_pos h2] at h
        omega
      · rw [if_neg h2] at h
        obtain ⟨j, rfl⟩ : ∃ j, k = j + 1 := ⟨k - 1, by omega⟩
        obtain ⟨h3, h4⟩ := pidx_at (x := x) (l := r) (k := j) (by omega)
        exact ⟨by simpa using h3, by simpa using h4⟩
/-- what is found is a part that has the address -/
theorem cfind_part {x : Int} {l : List Mf} {n k : Nat} (h : cfind x 0 l = some (n, k)) : ∃ (hn : n < l.length) (hk : k < (l[n]).2.2.2.2.2.length), phit x ((l[n]).2.2.2.2.2[k]) = true ∧ vpart l n k = some ((l[n]).2.2.2.2.2[k]) := by
  obtain ⟨-, h1, h2⟩ := cfind_some h
  simp only [Nat.sub_zero] at h1 h2
  obtain ⟨h3, h4⟩ := pidx_at h2
  refine ⟨h1, h3, h4, ?_⟩
  unfold vpart
  rw [if_neg (by omega)]
  simp [h1, h3]
/-- a manifest has an address -/
def mhit (x : Int) (m : Mf) : Bool := decide (m.2.1 ≤ x) && decide (x < m.2.2.1)
theorem mhit_iff {x : Int} {m : Mf} : mhit x m = true ↔ m.2.1 ≤ x ∧ x < m.2.2.1 := by unfold mhit; simp
theorem mhit_pidx {x : Int} {m : Mf} (h : mchk m = 0) : 0 ≤ pidx x m.2.2.2.2.2 ↔ mhit x m = true := by
  obtain ⟨h1, h2⟩ := pgo_one (x := x) (mchk_ok h).2.2.2.2.2.2.2
  rw [mhit_iff]
  by_cases h3 : m.2.1 ≤ x ∧ x < m.2.2.1
  · exact ⟨fun _ => h3, fun _ => (h1 h3).2⟩
  · have h5 := (h2 h3).2
    exact ⟨fun h4 => (by omega), fun h4 => absurd h4 h3⟩
theorem cfind_none {x : Int} : ∀ {l : List Mf} {i : Nat}, (∀ m ∈ l, mchk m = 0) → (cfind x i l = none ↔ ∀ m ∈ l, mhit x m = false)
  | [], _, _ => ⟨fun _ _ h => (List.not_mem_nil h).elim, fun _ => rfl⟩
  | m :: r, i, h => by
    unfold cfind
    have hm := mhit_pidx (x := x) (h m List.mem_cons_self)
    by_cases h1 : 0 ≤ pidx x m.2.2.2.2.2
    · rw [if_pos h1]
      refine ⟨fun h => (by cases h), fun h2 => ?_⟩
      have h3 := h2 m List.mem_cons_self
      rw [hm.1 h1] at h3
      cases h3
    · rw [if_neg h1, cfind_none fun q hq => h q (List.mem_cons_of_mem _ hq)]
      have h4 : mhit x m = false := by
        cases h5 : mhit x m
        · rfl
        · exact absurd (hm.2 h5) h1
      refine ⟨fun h2 q hq => ?_, fun h2 q hq => h2 q (List.mem_cons_of_mem _ hq)⟩
      rcases List.mem_cons.1 hq with rfl | hq
      · exact h4
      · exact h2 q hq
theorem ckl_all {l : List Mf} (h : (ckl l).2 = 0) : ∀ m ∈ l, mchk m = 0 := fun m hm => by
  obtain ⟨k, hk, rfl⟩ := List.getElem_of_mem hm
  exact (ckl_ok h k hk).1
theorem cend_at {l : List Mf} (h : l ≠ []) : cend l = (l[l.length - 1]'(by have := List.length_pos_iff.2 h; omega)).2.2.1 := by
  unfold cend
  rw [List.getLast?_eq_some_getLast h, List.getLast_eq_getElem]
/-- each address of a chain is a manifest's -/
theorem chain_cover {l : List Mf} (h : (ckl l).2 = 0) (x : Int) (h0 : cbegin l ≤ x) : ∀ k (hk : k < l.length), x < (l[k]).2.2.1 → ∃ j, ∃ hj : j < l.length, mhit x l[j] = true
  | 0, hk, hx => ⟨0, hk, mhit_iff.2 ⟨by
      cases l with
      | nil => exact absurd hk (Nat.not_lt_zero _)
      | cons q r => exact h0, hx⟩⟩
  | k + 1, hk, hx => by
    by_cases h1 : (l[k]).2.2.1 ≤ x
    · exact ⟨k + 1, hk, mhit_iff.2 ⟨by rw [(ckl_next h k hk).1]; exact h1, hx⟩⟩
    · exact chain_cover h x h0 k (by omega) (by omega)
theorem chain_in {l : List Mf} (h : (ckl l).2 = 0) {x : Int} (h0 : cbegin l ≤ x) (hx : x < cend l) (hl : l ≠ []) : ∃ n k, cfind x 0 l = some (n, k) := by
  rw [cend_at hl] at hx
  obtain ⟨j, hj, h1⟩ := chain_cover h x h0 (l.length - 1) (by have := List.length_pos_iff.2 hl; omega) hx
  cases h2 : cfind x 0 l with
  | none =>
    have h3 := (cfind_none (ckl_all h)).1 h2 _ (List.getElem_mem hj)
    rw [h1] at h3
    cases h3
  | some r => exact ⟨r.1, r.2, rfl⟩
section
variable {α : Type}
/-- a disk with a chain -/
structure Gv (dec : α → Bs) (d : Dk α) (l : List Mf) : Prop extends Upd d where
  ck : (ckl l).2 = 0
  tt : ∀ n (h : n < l.length), ∃ x, gget (title n) d.sure = some x ∧ dec x = mfput l[n]
  tn : ∀ n, l.length ≤ n → gget (title n) d.sure = none
theorem Gv.mfo {dec : α → Bs} {d : Dk α} {l : List Mf} (h : Gv dec d l) (n : Nat) (hn : n < l.length) : mfTake (mfput l[n]) = (l[n], 0) := by
  have h1 := (ckl_ok h.ck n hn).1
  unfold mfput
  rw [if_pos h1, mfTake_put h1]
theorem Gv.few {dec : α → Bs} {d : Dk α} {l : List Mf} (h : Gv dec d l) : l.length ≤ 1000000 := by
  rcases Nat.eq_zero_or_pos l.length with h0 | h0
  · omega
  · have h1 := (mchk_ok (ckl_ok h.ck (l.length - 1) (by omega)).1).1
    rw [ckl_num h.ck (l.length - 1) (by omega)] at h1
    omega
theorem Gv.go {dec : α → Bs} {d : Dk α} {l : List Mf} (h : Gv dec d l) (hf : l.length < 1000000) : ∀ (k j : Nat), j ≤ l.length → l.length - j < k → vgo dec d k (l.take j) = (l, 0)
  | 0, j, hj, hk => absurd hk (Nat.not_lt_zero _)
  | k + 1, j, hj, hk => by
    have hlen : (l.take j).length = j := by simp [hj]
    unfold vgo
    rw [hlen]
    by_cases h1 : j = l.length
    · subst h1
      rw [h.toUpd.none (title_named hf) (h.tn _ (Nat.le_refl _)), if_pos rfl]
      simp
    · have hjl : j < l.length := by omega
      obtain ⟨x, hx, hd⟩ := h.tt j hjl
      rw [h.toUpd.some (title_named (by omega)) hx, hd, h.mfo j hjl, if_neg (by simp), if_neg (by simp), if_neg (by simp)]
      dsimp only
      rw [← List.take_succ_eq_append_getElem hjl]
      exact Gv.go h hf k (j + 1) hjl (by omega)
theorem titles_few : ∀ (k : Nat) (S : List (Bs × α)), (∀ n, n < k → (gget (title n) S).isSome = true) → k ≤ S.length
  | 0, _, _ => Nat.zero_le _
  | k + 1, S, h => by
    have h1 := titles_few k (gdel (title k) S) fun n hn => by
      rw [gget_del_other (fun e => by have := title_inj e; omega)]
      exact h n (by omega)
    have h2 := h k (by omega)
    obtain ⟨x, hx⟩ := Option.isSome_iff_exists.1 h2
    have h3 : (gdel (title k) S).length < S.length := by
      unfold gdel
      exact List.length_filter_lt_length_iff_exists.2 ⟨_, gget_mem hx, by simp⟩
    omega
/-- the disk opens to the chain -/
theorem Gv.opens {dec : α → Bs} {z : α} {d d0 : Dk α} {l : List Mf} (h : Gv dec d l) (hf : l.length < 1000000) (ho : sOpen z d0 = (d, 0)) : vopen z dec d0 = (⟨d, l⟩, 0) := by
  have h1 : l.length ≤ d.sure.length := titles_few _ d.sure fun n hn => by
    obtain ⟨x, hx, _⟩ := h.tt n hn
    rw [hx]
    rfl
  have h2 := h.go hf (d.shown.length + 1) 0 (Nat.zero_le _) (by rw [shown_nil h.pn]; omega)
  rw [List.take_zero] at h2
  unfold vopen
  rw [ho]
  dsimp only
  rw [if_neg (by simp), h2]
  unfold vend
  rw [if_neg (by simp), if_neg (by rw [h.ck]; simp)]
end
end Go.Proofs.YtajfnmohlnkncaaGreatDoor

namespace Go.Proofs.YtajfnmohlnkncaaGreatDoor
open Go.RowKit

section
variable {α : Type}
theorem Upd.fre {d : Dk α} (hd : d.down = false) (hp : d.pend = []) {S : List (Bs × α)} (hs : d.sure = S) (hr : Ris S) (h : Sna S) : Upd d := ⟨hd, hp, by rw [hs]; exact hr, by rw [hs]; exact h⟩
theorem Gv.move {dec : α → Bs} {d d' : Dk α} {l : List Mf} (h : Gv dec d l) (h' : Upd d') (he : ∀ n, gget (title n) d'.sure = gget (title n) d.sure) : Gv dec d' l :=
  ⟨h', h.ck, fun n hn => by rw [he]; exact h.tt n hn, fun n hn => by rw [he]; exact h.tn n hn⟩
theorem Gv.snoc {dec : α → Bs} {d d' : Dk α} {l : List Mf} {m : Mf} {x : α} (h : Gv dec d l) (h' : Upd d') (hc : (ckl (l ++ [m])).2 = 0) (hs : d'.sure = gput (title l.length) x d.sure) (hx : dec x = mfput m) : Gv dec d' (l ++ [m]) :=
  ⟨h', hc, fun n hn => by
    rw [hs]
    by_cases h1 : n = l.length
    · subst h1
      rw [gget_put_same]
      exact ⟨x, rfl, by rw [hx]; simp⟩
    · have h2 : n < l.length := by simp at hn; omega
      rw [gget_put_other _ (fun e => h1 (title_inj e))]
      obtain ⟨y, h3, h4⟩ := h.tt n h2
      exact ⟨y, h3, by rw [h4, List.getElem_append_left h2]⟩, fun n hn => by
    simp at hn
    rw [hs, gget_put_other _ (fun e => by have := title_inj e; omega)]
    exact h.tn n (by omega)⟩
/-! ### parts -/
theorem mholds_ok {p : Pt5} {b : List UInt8} {s : Sg} (h : mholds p b = (s, 0)) : s.1 = p.1 ∧ (s.2.length : Int) = p.2.1 := by
  by_cases h1 : (b.length : Int) = p.2.2.1
  · by_cases h2 : shaD b = p.2.2.2
    · by_cases h3 : (sgTake b).2 = 0
      · by_cases h4 : (sgTake b).1.1 = p.1
        · by_cases h5 : ((sgTake b).1.2.length : Int) = p.2.1
          · rw [mholds_6 h1 h2 h3 h4 h5] at h
            injection h with h _
            subst h
            exact ⟨h4, h5⟩
          · rw [mholds_5 h1 h2 h3 h4 h5] at h
            injection h with _ h
            cases h
        · rw [mholds_4 h1 h2 h3 h4] at h
          injection h with _ h
          cases h
      · rw [mholds_3 h1 h2 h3] at h
        injection h with _ h
        exact absurd h h3
    · rw [mholds_2 h1 h2] at h
      injection h with _ h
      cases h
  · rw [mholds_1 h1] at h
    injection h with _ h
    cases h
theorem mof_held {s : Sg} {p : Pt5} {b : List UInt8} (h : mof s = (p, b, 0)) : mholds p b = (s, 0) ∧ p.1 = s.1 ∧ p.2.1 = s.2.length ∧ 1 ≤ s.2.length ∧ s.2.length ≤ 64 ∧ 0 ≤ s.1 ∧ s.1 + s.2.length ≤ 1048576 ∧ p.2.2.1 = b.length := by
  have h0 : s.2.length ≠ 0 := fun e => by
    by_cases h1 : schk s = 0
    · rw [mof_none h1 e] at h
      injection h with _ h
      injection h with _ h
      cases h
    · rw [mof_bad h1] at h
      injection h with _ h
      injection h with _ h
      exact h1 h
  obtain ⟨h1, rfl, rfl⟩ := mof_zero h
  obtain ⟨g1, g2, g3, g4, g5⟩ := schk_ok h1
  have h2 := sgTake_frm h1
  refine ⟨?_, rfl, rfl, by omega, g3, g1, g4, rfl⟩
  rw [mholds_6 rfl rfl (by rw [h2]) (by rw [h2]) (by rw [h2]), h2]
theorem mof_size {s : Sg} {p : Pt5} {b : List UInt8} (h : mof s = (p, b, 0)) : 1 ≤ b.length ∧ b.length ≤ 10000 := by
  obtain ⟨h1, -, rfl⟩ := mof_zero h
  have h2 := stxt_len h1
  have h3 := frm_len (stxt s)
  have h4 := vb_le10 (n := (stxt s).length) (by omega)
  omega
/-- a backup of segments, one for each manifest, from an address on -/
structure Kv (dec : α → Bs) (f0 : Int) (d : Dk α) (l : List Mf) (done : List Ce) : Prop extends Gv dec d l where
  be : l ≠ [] → cbegin l = f0
  en : l ≠ [] → cend l = f0 + done.length
  ne : l = [] → done = []
  hs : ∀ n (h : n < l.length), ∃ p x cs, (l[n]).2.2.2.2.2 = [p] ∧ gget (label n 0) d.sure = some x ∧ mholds p (dec x) = ((p.1, cs), 0) ∧ 1 ≤ cs.length ∧ f0 ≤ p.1 ∧ ∀ j (hj : j < cs.length), done[(p.1 - f0).toNat + j]? = some cs[j]
theorem Kv.move {f0 : Int} {dec : α → Bs} {d d' : Dk α} {l : List Mf} {done : List Ce} (h : Kv dec f0 d l done) (h' : Upd d') (he : ∀ n, gget (title n) d'.sure = gget (title n) d.sure) (hl : ∀ n, n < l.length → gget (label n 0) d'.sure = gget (label n 0) d.sure) : Kv dec f0 d' l done :=
  ⟨h.toGv.move h' he, h.be, h.en, h.ne, fun n hn => by rw [hl n hn]; exact h.hs n hn⟩
/-- the segment is there -/
theorem Kv.added {f0 : Int} {dec : α → Bs} {d d' : Dk α} {l : List Mf} {done : List Ce} (h : Kv dec f0 d l done) (hf : l.length < 1000000) (h1 : d'.down = false) (h2 : d'.pend = []) {x : α} (he : d'.sure = gput (label l.length 0) x d.sure) : Kv dec f0 d' l done ∧ gget (label l.length 0) d'.sure = some x :=
  ⟨h.move (Upd.fre h1 h2 he (h.rs.put _ _) (h.na.put (label_named hf (by omega)) _))
    (fun n => by rw [he, gget_put_other _ (fun e => title_label _ _ _ e)])
    (fun n hn => by rw [he, gget_put_other _ (fun e => by have := (label_inj e).1; omega)]), by rw [he, gget_put_same]⟩
/-- the manifest that follows is right -/
theorem Kv.next {f0 : Int} {dec : α → Bs} {d : Dk α} {l : List Mf} {done : List Ce} (h : Kv dec f0 d l done) (hf : l.length < 1000000) {t : Int} (ht0 : cmark l ≤ t) (ht : 0 ≤ t ∧ t ≤ 1048576) {s : Sg} {p : Pt5} {b : List UInt8} (hm : mof s = (p, b, 0)) (hs : s.1 = f0 + done.length) :
    cnext l (f0 + done.length) t [p] = (((l.length : Int), f0 + done.length, f0 + done.length + s.2.length, t, chead l, [p]), 0) := by
  obtain ⟨-, g1, g2, g3, g4, g5, g6, g7⟩ := mof_held hm
  obtain ⟨g8, g9⟩ := mof_size hm
  have hw : wsum (f0 + done.length) [p] = f0 + done.length + s.2.length := by
    simp only [wsum]
    rw [g2]
    unfold wrap64
    omega
  have hM : cnextM l (f0 + done.length) t [p] = ((l.length : Int), f0 + done.length, f0 + done.length + s.2.length, t, chead l, [p]) := by
    unfold cnextM
    rw [hw]
  have hk : mchk (cnextM l (f0 + done.length) t [p]) = 0 := by
    rw [hM]
    unfold mchk
    dsimp only
    rw [if_neg (by simp [inb]; omega)]
    rw [if_neg (by
      simp only [Bool.or_eq_true, Bool.and_eq_true, decide_eq_true_eq, Bool.not_eq_true', decide_eq_false_iff_not, beq_iff_eq, not_or, not_and, Decidable.not_not]
      refine ⟨by omega, fun h0 => ?_⟩
      have h3 : l = [] := List.length_eq_zero_iff.1 (by omega)
      subst h3
      rfl)]
    rw [if_neg (by simp)]
    unfold pgo
    rw [show ptchk p (f0 + done.length) = 0 from by
      unfold ptchk
      rw [if_neg (by omega), if_neg (by rw [g1, hs]; simp)], if_neg (by simp)]
    unfold pgo
    rw [g2, if_neg (by simp)]
  unfold cnext
  rw [if_neg (by rw [h.ck]; simp), if_neg (fun hx => by have := h.en hx.1; omega), if_neg (by rw [hk]; simp), hM]
theorem Kv.commits {f0 : Int} {dec : α → Bs} {enc : Bs → α} {len : α → Nat} {z : α} {d : Dk α} {l : List Mf} {done : List Ce} (h : Kv dec f0 d l done) (hf : l.length < 1000000) {t : Int} (ht0 : cmark l ≤ t) (ht : 0 ≤ t ∧ t ≤ 1048576) {s : Sg} {p : Pt5} {b : List UInt8} (hm : mof s = (p, b, 0)) (hs : s.1 = f0 + done.length) {x : α} (hx : gget (label l.length 0) d.sure = some x) (hxb : dec x = b) :
    vcommit len z dec enc ⟨d, l⟩ (cnext l (f0 + done.length) t [p]).1 = (if (sPut len z d (title l.length) (enc (mfput (cnext l (f0 + done.length) t [p]).1))).2 ≠ 0 then (⟨(sPut len z d (title l.length) (enc (mfput (cnext l (f0 + done.length) t [p]).1))).1, l⟩, (sPut len z d (title l.length) (enc (mfput (cnext l (f0 + done.length) t [p]).1))).2)
      else (⟨(sPut len z d (title l.length) (enc (mfput (cnext l (f0 + done.length) t [p]).1))).1, l ++ [(cnext l (f0 + done.length) t [p]).1]⟩, 0)) := by
  have h1 := h.next hf ht0 ht hm hs
  obtain ⟨h2, h3, h4, h5⟩ := cnext_ok (l := l) (f := f0 + done.length) (t := t) (ps := [p]) (by rw [h1])
  rw [← h3] at h4 h5
  unfold vcommit
  dsimp only
  rw [if_neg (by rw [h5]; simp)]
  have h6 : (cnext l (f0 + done.length) t [p]).1.1.toNat = l.length := by rw [h1]; simp
  have h7 : (cnext l (f0 + done.length) t [p]).1.2.2.2.2.2 = [p] := by rw [h1]
  rw [h6, h7]
  have h8 : vheld dec d l.length 0 [p] = 0 := by
    unfold vheld
    rw [h.toUpd.some (label_named hf (by omega)) hx, hxb, (mof_held hm).1]
    simp [vheld]
  rw [if_neg (by rw [h8]; simp)]
/-- the manifest is there -/
theorem Kv.committed {f0 : Int} {dec : α → Bs} {enc : Bs → α} {d d' : Dk α} {l : List Mf} {done : List Ce} (h : Kv dec f0 d l done) (hf : l.length < 1000000) (hde : ∀ b, dec (enc b) = b) {t : Int} (ht0 : cmark l ≤ t) (ht : 0 ≤ t ∧ t ≤ 1048576) {s : Sg} {p : Pt5} {b : List UInt8} (hm : mof s = (p, b, 0)) (hs : s.1 = f0 + done.length) {x : α} (hx : gget (label l.length 0) d.sure = some x) (hxb : dec x = b)
    (h1 : d'.down = false) (h2 : d'.pend = []) (he : d'.sure = gput (title l.length) (enc (mfput (cnext l (f0 + done.length) t [p]).1)) d.sure) : Kv dec f0 d' (l ++ [(cnext l (f0 + done.length) t [p]).1]) (done ++ s.2) := by
  have hN := h.next hf ht0 ht hm hs
  obtain ⟨-, h3, h4, h5⟩ := cnext_ok (l := l) (f := f0 + done.length) (t := t) (ps := [p]) (by rw [hN])
  rw [← h3] at h4 h5
  obtain ⟨k1, k2, k3, k4, k5, k6, k7, k8⟩ := mof_held hm
  have hU : Upd d' := Upd.fre h1 h2 he (h.rs.put _ _) (h.na.put (title_named hf) _)
  refine ⟨h.toGv.snoc hU h5 he (hde _), fun _ => ?_, fun _ => ?_, fun e => absurd e (by simp), fun n hn => ?_⟩
  · rw [hN]
    cases l with
    | nil =>
      have := h.ne rfl
      subst this
      simp only [List.nil_append, cbegin, List.length_nil]
      omega
    | cons q r => exact h.be (by simp)
  · unfold cend
    rw [List.getLast?_concat, hN]
    simp only [List.length_append]
    omega
  · rw [he, gget_put_other _ (fun e => title_label _ _ _ e.symm)]
    by_cases h6 : n = l.length
    · subst h6
      refine ⟨p, x, s.2, by simp [hN], hx, by rw [hxb, k1, k2], k4, by omega, fun j hj => ?_⟩
      rw [k2, hs, show (f0 + (done.length : Int) - f0).toNat = done.length from by omega, List.getElem?_append_right (by omega)]
      simp [hj]
    · have h7 : n < l.length := by simp at hn; omega
      obtain ⟨p1, x, cs, g1, g2, g3, g4, g5, g6⟩ := h.hs n h7
      refine ⟨p1, x, cs, by rw [List.getElem_append_left h7]; exact g1, g2, g3, g4, g5, fun j hj => ?_⟩
      have g7 := g6 j hj
      rw [List.getElem?_append_left ?_]
      · exact g7
      · exact (List.getElem?_eq_some_iff.1 g7).1
/-- what is got of it -/
theorem Kv.get {f0 : Int} {dec : α → Bs} {d : Dk α} {l : List Mf} {done : List Ce} (h : Kv dec f0 d l done) {a : Int} {n k : Nat} (hc : cfind a 0 l = some (n, k)) :
    ∃ (p : Pt5) (cs : List Ce), vget dec ⟨d, l⟩ n k = ((p.1, cs), 0) ∧ p.1 ≤ a ∧ f0 ≤ p.1 ∧ a < p.1 + cs.length ∧ ∀ j (hj : j < cs.length), done[(p.1 - f0).toNat + j]? = some cs[j] := by
  obtain ⟨hn, hk, h1, h2⟩ := cfind_part hc
  obtain ⟨p, x, cs, g1, g2, g3, g4, g5, g6⟩ := h.hs n hn
  have hk0 : k = 0 := by rw [g1] at hk; simpa using hk
  subst hk0
  simp only [g1, List.getElem_cons_zero] at h1 h2
  refine ⟨p, cs, ?_, (phit_iff.1 h1).1, g5, by have := (mholds_ok g3).2; dsimp only at this; have := (phit_iff.1 h1).2; omega, g6⟩
  unfold vget
  dsimp only
  rw [h2]
  dsimp only
  have hf := h.toGv.few
  rw [Int.toNat_natCast, show ((0 : Nat) : Int).toNat = 0 from rfl, h.toUpd.some (label_named (by omega) (by omega)) g2, if_neg (by simp), g3]
/-- what is read of it -/
theorem Kv.read {f0 : Int} {dec : α → Bs} {d : Dk α} {l : List Mf} {done : List Ce} (h : Kv dec f0 d l done) (a : Nat) (ha : a < done.length) (hm : cmark l ≤ f0 + a) : vread dec ⟨d, l⟩ (f0 + a) = (done[a], 0) := by
  have hl : l ≠ [] := fun e => by
    have := h.ne e
    rw [this] at ha
    exact absurd ha (Nat.not_lt_zero _)
  obtain ⟨n, k, hc⟩ := chain_in (x := f0 + a) h.ck (by rw [h.be hl]; omega) (by rw [h.en hl]; omega) hl
  obtain ⟨p, cs, h1, h2, h3, h4, h5⟩ := h.get hc
  unfold vread
  dsimp only
  rw [hc]
  dsimp only
  rw [if_neg (by omega), h1, if_neg (by simp)]
  dsimp only
  have h6 := h5 (f0 + (a : Int) - p.1).toNat (by omega)
  have h7 : (p.1 - f0).toNat + (f0 + (a : Int) - p.1).toNat = a := by omega
  rw [h7, List.getElem?_eq_getElem ha] at h6
  injection h6 with h6
  rw [List.getD_eq_getElem?_getD, List.getElem?_eq_getElem (by omega), h6]
  rfl
end
end Go.Proofs.YtajfnmohlnkncaaGreatDoor
