/- WHAT IT HOLDS: chain.Next. | WHAT IT HOLDS: a fixed fact: what is committed is read. | WHAT IT HOLDS: arguments that are segments, arrays, opened to the words of Kit. | WHAT IT HOLDS: arguments that are acts of a store, opened to the words of Kit. -/
import Derived.Test.YtajfnmohlnkncaaGreatDoorVaultAgreesG01
import Derived.Test.YtajfnmohlnkncaaGreatDoorVaultAgreesG25
import Derived.Test.YtajfnmohlnkncaaGreatDoorVaultAgreesG08
import Derived.Test.YtajfnmohlnkncaaGreatDoorVaultAgreesG19
import Derived.Test.YtajfnmohlnkncaaGreatDoorVaultAgreesG18
import Derived.Test.YtajfnmohlnkncaaGreatDoorVaultAgreesG06
import Derived.Test.YtajfnmohlnkncaaGreatDoorVaultAgreesG28
import Derived.Test.YtajfnmohlnkncaaGreatDoorVaultAgreesG09
import Derived.Test.YtajfnmohlnkncaaGreatDoorVaultAgreesG04
import Derived.Test.YtajfnmohlnkncaaGreatDoorVaultAgreesG05
import Derived.Test.YtajfnmohlnkncaaGreatDoorVaultAgreesG16
namespace Go.Proofs.YtajfnmohlnkncaaGreatDoor
section
open Go.RowKit Go.Shelf
theorem mvhead_chead {l : List MfV} (h : (ckl (mvs l)).2 = 0) : mvhead l = (chead (mvs l), 0) := by
 rcases Nat.eq_zero_or_pos l.length with h0 | h0
 · obtain rfl : l = [] := List.length_eq_zero_iff.1 h0
   rfl
 · have hml : (mvlast l).1 ∈ mvs l := by rw [mvlast_at h0]; exact List.mem_map.2 ⟨_, List.getElem_mem _, rfl⟩
   obtain ⟨k, hk, he⟩ := List.getElem_of_mem hml
   have hc := (ckl_ok h k hk).1
   rw [he] at hc
   rw [mvhead_ok h0 hc]
   unfold chead
   rw [mvs_at l h0]
theorem built_mf6 (n f t r : Int) (A : Option Addr) (k c : Nat) : ∀ d : Dg, Tryz.prog.built 46 [(0, .int .i64 n), (1, .int .i64 f), (2, .int .i64 t), (3, .int .i64 r), (4, .agg (dga d)), (5, .slice A k c)] = some (mfa n f t r d A k c) := by
 refine dg_cases ?_
 intros
 kernel_rfl
theorem yld_build6 {P : Program} {a : Act} {o : Oper} {w : World} (ty : TypeId) {i0 i1 i2 i3 i4 i5 : Nat} {x0 x1 x2 x3 x4 x5 : Operand} {v0 v1 v2 v3 v4 v5 : Value} {cs : Array Value} (ho : o.op = .build ty #[(i0, x0), (i1, x1), (i2, x2), (i3, x3), (i4, x4), (i5, x5)])
 (h0 : a.eval x0 = v0) (h1 : a.eval x1 = v1) (h2 : a.eval x2 = v2) (h3 : a.eval x3 = v3) (h4 : a.eval x4 = v4) (h5 : a.eval x5 = v5) (hb : P.built ty [(i0, v0), (i1, v1), (i2, v2), (i3, v3), (i4, v4), (i5, v5)] = some cs) : (execOp a.eval o).run P w = .ok (.value (.agg cs)) w := by
 have hl : ((#[(i0, x0), (i1, x1), (i2, x2), (i3, x3), (i4, x4), (i5, x5)] : Array (Nat × Operand)).map fun (i, x) => (i, a.eval x)).toList = [(i0, v0), (i1, v1), (i2, v2), (i3, v3), (i4, v4), (i5, v5)] := by simp [h0, h1, h2, h3, h4, h5]
 unfold execOp
 simp only [ho, Sem.run_bind, run_build w ty ((#[(i0, x0), (i1, x1), (i2, x2), (i3, x3), (i4, x4), (i5, x5)] : Array (Nat × Operand)).map fun (i, x) => (i, a.eval x)) cs (by rw [hl]; exact hb), Result.andThen_ok]
 rfl
set_option maxRecDepth 100000 in
set_option maxHeartbeats 2000000 in
theorem ChNext_any {E A : Option Addr} {cap c : Nat} (l : List MfV) (f t : Int) (ps : List Pt5) (w : World) (hG : Shg w) (h : SlM w E cap l) (hp : SlP w A c ps) (hI : PtsI ps) (hl : ps.length ≤ 1000000) :
 Calls Tryz.prog 12 #[.slice E l.length cap, .int .i64 f, .int .i64 t, .slice A ps.length c] w (GivesMf w (cnext (mvs l) f t ps)) := by
 have hM := (Mm.start w).alloc mza 46
 have hds := fun d => Lib.hid (dga_size d)
 have hda := fun d => Lib.hid (dga_all d)
 have hmax := h.1.2.1
 have hmax2 := h.1.2.2.1
 unfold maxLen at hmax2
 have HC := Lib.hid (fun W (hh : Below w.heap.size w W) => ChCheck_any l W (hG.below hh) (h.below hh))
 have HE := Lib.hid (fun W (hh : Below w.heap.size w W) => ChEnd_any l W (h.below hh))
 have HK := Lib.hid (fun W (hh : Below w.heap.size w W) => ChMark_any l W (h.below hh))
 have HV := Lib.hid (show cnext (mvs l) f t ps = (if (ckl (mvs l)).2 ≠ 0 then (mfz, (ckl (mvs l)).2) else if mvs l ≠ [] ∧ (f ≠ cend (mvs l) ∨ t < cmark (mvs l)) then (mfz, 12) else if mchk (cnextM (mvs l) f t ps) ≠ 0 then (mfz, mchk (cnextM (mvs l) f t ps)) else (cnextM (mvs l) f t ps, 0)) from rfl)
 have hnil : mvs l ≠ [] ↔ 0 < l.length := by rw [← mvs_len, List.length_pos_iff]
 have HHd := Lib.hid (fun (hk : (ckl (mvs l)).2 = 0) W (hh : Below w.heap.size w W) => by have h9 := ChHead_any l W (hG.below hh) (h.below hh); rw [mvhead_chead hk] at h9; exact h9)
 have HCl := Lib.hid (fun W (hh : Below w.heap.size w W) => PtClone_any ps W (hp.below hh) hl)
 have HMC := Lib.hid (fun n f t r d W (A9 : Option Addr) (c9 : Nat) (hs : SlP W A9 c9 ps) => MCheck_any (A := A9) (c := c9) n f t r d ps W hs hI)
 have hcM := Lib.hid (show cnextM (mvs l) f t ps = ((l.length : Int), f, wsum f ps, t, chead (mvs l), ps) from by unfold cnextM; rw [mvs_len])
 generalize (ckl (mvs l)).1 = k1 at *
 generalize (ckl (mvs l)).2 = k2 at *
 generalize cend (mvs l) = en at *
 generalize cmark (mvs l) = mk at *
 generalize chead (mvs l) = hd at *
 clear h hG
 go_enter Tryz.func12, Tryz.ntmps12
 go_upto_region 1 with (fail)
 refine gen1 (T := fun W => Mm w W [(w.heap.size, 46, mza)] []) hM (fun w0 hM => ?_)
 go_wp2_with fail
 refine (HC.out _ hM.bel).mono ?_
 rintro e w1 ⟨rfl, hb1⟩
 replace hM := hM.call hb1
 clear hb1 HC
 rcases errv_cases k2 with ⟨h0, hev⟩ | ⟨ke, hk1, hke, hev⟩
 rotate_left
 · have HT := Lib.hid (by have h9 := HV.out; rw [if_pos (show k2 ≠ 0 by omega)] at h9; exact h9)
   have HEV := Lib.hid hev
   rw [hev]
   clear hev HV hke
   go_wp2_with (first | (refine wpl_buildMz rfl rfl ?_) | (refine wpList_store_row rfl 46 _ _ rfl w.heap.size mza rfl rfl 46 mza hM.b0 (by rw [mfa_size]; kernel_rfl) rfl (mfa_all _ _ _ _ _ _ _ _) ?_))
   exact bodyPost_ret (res_mf2 rfl rfl (g := w.heap.size) hM.b0.row) rfl ⟨none, 0, [], by rw [HT.out]; first | rfl | (dsimp only [mfz]; rw [HEV.out]; rfl), (show _ = _ from by rw [HT.out]; rfl), Own.none_ _ _ _ _, below_setRow hM.bel (Nat.le_refl _) _⟩
 have HV := Lib.hid (by have h9 := HV.out; rw [if_neg (show ¬ k2 ≠ 0 by omega)] at h9; exact h9)
 have HH := Lib.hid (HHd.out h0)
 simp only [show errv 0 = Value.nilIface from rfl] at HH
 rw [hev]
 clear hev HHd
 by_cases hl0 : 0 < l.length
 · have hlb : ((l.length : Int) > 0) := by omega
   by_cases hfe : f = en
   · have hfb : (f != en) = false := by simp [hfe]
     have HFE := Lib.hid hfe
     clear hfe
     by_cases htm : t < mk
     · have HT := Lib.hid (by have h9 := HV.out; rw [if_pos ⟨hnil.2 hl0, .inr htm⟩] at h9; exact h9)
       have HEV := Lib.hid (show errv 12 = Value.iface 60 (.int .i64 12) from rfl)
       clear HV HH
       go_wp2_with fail
       refine (HE.out _ hM.bel).mono ?_
       rintro e w2 ⟨rfl, hb2⟩
       replace hM := hM.call hb2
       clear hb2
       go_wp2_with fail
       refine (HK.out _ hM.bel).mono ?_
       rintro e w3 ⟨rfl, hb3⟩
       replace hM := hM.call hb3
       clear hb3
       go_wp2_with (first | (refine wpl_buildMz rfl rfl ?_) | (refine wpList_store_row rfl 46 _ _ rfl w.heap.size mza rfl rfl 46 mza hM.b0 (by rw [mfa_size]; kernel_rfl) rfl (mfa_all _ _ _ _ _ _ _ _) ?_))
       exact bodyPost_ret (res_mf2 rfl rfl (g := w.heap.size) hM.b0.row) rfl ⟨none, 0, [], by rw [HT.out]; first | rfl | (dsimp only [mfz]; rw [HEV.out]; rfl), (show _ = _ from by rw [HT.out]; rfl), Own.none_ _ _ _ _, below_setRow hM.bel (Nat.le_refl _) _⟩
     · have HV2 := Lib.hid (by have h9 := HV.out; rw [if_neg (fun hx => hx.2.elim (fun h => h HFE.out) htm)] at h9; exact h9)
       clear HV
       go_wp2_with fail
       refine (HE.out _ hM.bel).mono ?_
       rintro e w2 ⟨rfl, hb2⟩
       replace hM := hM.call hb2
       clear hb2
       go_wp2_with fail
       refine (HK.out _ hM.bel).mono ?_
       rintro e w3 ⟨rfl, hb3⟩
       replace hM := hM.call hb3
       clear hb3
       go_wp2_with fail
       refine (HH.out _ hM.bel).mono ?_
       rintro e w5 ⟨rfl, hb5⟩
       have hM5 := hM.call hb5
       clear hM hb5 HH
       dsimp only
       go_upto_region 9 with (refine wpl_storeN rfl 35 _ _ rfl _ (dga hd) 35 rfl rfl (by rw [(hds hd).out]; kernel_rfl) (by rw [(hds hd).out]; rfl) (hda hd).out ?_)
       refine gen1 (T := fun W => Mm w W [(w5.heap.size, 35, dga hd), (w.heap.size, 46, mza)] []) (hM5.alloc _ _) (fun w6 hM => ?_)
       generalize w5.heap.size = g5 at *
       clear hM5
       have hMd := hM.drew
       clear hM
       go_cut [14] (fun y wz => ∃ g14 A' c' m', y = .pointer (some ⟨g14, 0, none⟩) ∧ Hid (m' = ps) ∧ Mm w wz [(g14, 46, mfa (l.length : Int) f f t hd A' (List.length m') c'), (g5, 35, dga hd), (w.heap.size, 46, mza)] [] ∧ OwnP wz w.heap.size A' c' m')
       case first =>
        refine wp_region_held_drew (S := (fun W => Mm w W [(g5, 35, dga hd), (w.heap.size, 46, mza)] [])) (by kernel_rfl) ?_ (fun hHeld => ?_)
        · first | with_reducible exact hMd | with_reducible exact hHeld
        refine gen0 (T := fun W => ((fun W => Mm w W [(g5, 35, dga hd), (w.heap.size, 46, mza)] [])) W ∧ True) ?_ (fun wq1 hT => ?_)
        · exact ⟨by (with_reducible exact hMd), trivial⟩
        (try clear f0 f1 f2 f3 f4 f5 f6 f7 f8 f9 f10 f11)
        obtain ⟨hHeld, -⟩ := hT
        refine wTk (i := 0) (oi := ⟨some 53, _, _, _, _, _⟩) (v := ?_) rfl ⟨by kernel_rfl, ?_⟩ (by assumption) ?_
        rotate_left
        · (intro wS hSw; (try dsimp only at hSw); go_simp; (try with_reducible rfl))
        (try simp only [Act.put, pS0, pS1, pS2])
        refine wTk (i := 1) (oi := ⟨some 54, _, _, _, _, _⟩) (v := ?_) rfl ⟨by kernel_rfl, ?_⟩ (by assumption) ?_
        rotate_left
        · (intro wS hSw; (try dsimp only at hSw); go_simp; (try with_reducible rfl))
        (try simp only [Act.put, pS0, pS1, pS2])
        refine wTk (i := 2) (oi := ⟨some 55, _, _, _, _, _⟩) (v := ?_) rfl ⟨by kernel_rfl, ?_⟩ (by assumption) ?_
        rotate_left
        · (intro wS hSw; (try dsimp only at hSw); go_simp; (try with_reducible rfl))
        (try simp only [Act.put, pS0, pS1, pS2])
        refine wTk (i := 3) (oi := ⟨some 56, _, _, _, _, _⟩) (v := ?_) rfl ⟨by kernel_rfl, ?_⟩ (by assumption) ?_
        rotate_left
        · (intro wS hSw; (try dsimp only at hSw); go_simp; (try with_reducible rfl))
        (try simp only [Act.put, pS0, pS1, pS2])
        refine wTk (i := 4) (oi := ⟨some 57, _, _, _, _, _⟩) (v := ?_) rfl ⟨by kernel_rfl, ?_⟩ (by assumption) ?_
        rotate_left
        · (intro wS hSw; (try dsimp only at hSw); go_simp; (try with_reducible rfl))
        (try simp only [Act.put, pS0, pS1, pS2])
        refine wTk (i := 5) (oi := ⟨some 58, _, _, _, _, _⟩) (v := ?_) rfl ⟨by kernel_rfl, ?_⟩ (by assumption) ?_
        rotate_left
        · (intro wS hSw; (try dsimp only at hSw); (refine yld_load 35 (.tmp 12) ?_ ⟨g5, 0, none⟩ (dga hd) ?_ hSw.b0.cells _ Tryz.underlying35 rfl (by rw [(hds hd).out]; kernel_rfl) <;> rfl))
        (try simp only [Act.put, pS0, pS1, pS2])
        refine wTk (i := 6) (oi := ⟨some 59, _, _, _, _, _⟩) (v := ?_) rfl ⟨by kernel_rfl, ?_⟩ (by assumption) ?_
        rotate_left
        · (intro wS hSw; (try dsimp only at hSw); go_simp; (try with_reducible rfl))
        (try simp only [Act.put, pS0, pS1, pS2])
        refine wpAnyH_ready (rs := [7, 9]) (by kernel_rfl) (by simp) ?_
        refine AllReadyH.cons (o := ⟨some 60, _, _, _, _, _⟩) rfl (fun K hK => ?_) ?_
        · go_simp
          (refine (HCl.out _ hHeld.bel).mono ?_; rintro e w12 ⟨A9, c9, m9, rfl, hm9, ho9, hb9⟩)
          go_wp2_with fail
          refine hK.out _ _ ?_ (fun _ => ?_)
          · ((try dsimp only); (with_reducible exact hHeld.call hb9))
          clear hK K
          (try simp only [Act.put, pS0, pS1, pS2])
          refine gen0 (T := fun W => ((fun W => Mm w W [(g5, 35, dga hd), (w.heap.size, 46, mza)] [])) W ∧ OwnP W w.heap.size A9 c9 m9 ∧ True) ?_ (fun wq2 hT => ?_)
          · exact ⟨by (with_reducible exact hHeld.call hb9), by (exact Own.more ho9 hHeld.bel.size), trivial⟩
          (try clear f0 f1 f2 f3 f4 f5 f6 f7 f8 f9 f10 f11)
          obtain ⟨hHeld, f0, -⟩ := hT
          refine wTk (i := 8) (oi := ⟨some 61, _, _, _, _, _⟩) (v := ?_) rfl ⟨by kernel_rfl, ?_⟩ (by assumption) ?_
          rotate_left
          · (intro wS hSw; (try dsimp only at hSw); (refine yld_build6 46 (x0 := .tmp 54) (x1 := .tmp 55) (x2 := .tmp 56) (x3 := .tmp 57) (x4 := .tmp 58) (x5 := .tmp 60) ?_ ?_ ?_ ?_ ?_ ?_ ?_ (built_mf6 (l.length : Int) f f t A9 m9.length c9 hd) <;> rfl))
          (try simp only [Act.put, pS0, pS1, pS2])
          refine wR1 (i := 9) (o := ⟨some 14, _, _, _, _, _⟩) rfl (fun K hK => ?_)
          (go_simp)
          refine hK.out _ _ ?_ (fun _ => ?_)
          · ((try dsimp only); (exact (hHeld.alloc _ _).sub (by simp)))
          clear hK K
          (try simp only [Act.put, pS0, pS1, pS2])
          refine gen0 (T := fun W => ((fun W => Mm w W [(g5, 35, dga hd), (w.heap.size, 46, mza)] [])) W ∧ OwnP W w.heap.size A9 c9 m9 ∧ (Blk W wq2.heap.size 46 mza ∧ w.heap.size < wq2.heap.size ∧ g5 < wq2.heap.size) ∧ True) ?_ (fun wq3 hT => ?_)
          · exact ⟨by (exact (hHeld.alloc _ _).sub (by simp)), by (exact Own.below f0 (below_new _ _)), by (exact ⟨Blk.new _ _ _, hHeld.b1.lt, hHeld.b0.lt⟩), trivial⟩
          (try clear f0 f1 f2 f3 f4 f5 f6 f7 f8 f9 f10 f11)
          obtain ⟨hHeld, f0, f1, -⟩ := hT
          refine wR1 (i := 10) (o := ⟨none, _, _, _, _, _⟩) rfl (fun K hK => ?_)
          ((refine step_storeRow (by kernel_rfl) 46 _ _ rfl _ (mfa (l.length : Int) f f t hd A9 m9.length c9) rfl rfl 46 mza f1.1 (by rw [mfa_size]; kernel_rfl) (by rw [mfa_size, mfa_size]) (mfa_all _ _ _ _ _ _ _ _) ?_))
          refine hK.out _ _ ?_ (fun _ => ?_)
          · ((try dsimp only); (exact hHeld.off (Wr.row _) (by have := f1.2; simp; omega) (by have := f1.2; omega)))
          clear hK K
          (try simp only [Act.put, pS0, pS1, pS2])
          refine gen0 (T := fun W => ((fun W => Mm w W [(g5, 35, dga hd), (w.heap.size, 46, mza)] [])) W ∧ OwnP W w.heap.size A9 c9 m9 ∧ (Blk W wq2.heap.size 46 (mfa (l.length : Int) f f t hd A9 m9.length c9) ∧ w.heap.size < wq2.heap.size ∧ g5 < wq2.heap.size) ∧ True) ?_ (fun wq4 hT => ?_)
          · exact ⟨by (exact hHeld.off (Wr.row _) (by have := f1.2; simp; omega) (by have := f1.2; omega)), by (exact Own.wrT f0 (Wr.row _) f1.1 (by decide)), by (exact ⟨Blk.row f1.1, f1.2⟩), trivial⟩
          (try clear f0 f1 f2 f3 f4 f5 f6 f7 f8 f9 f10 f11)
          obtain ⟨hHeld, f0, f1, -⟩ := hT
          refine wpAnyH_done (by kernel_rfl) ?_ _
          (go_wp2_with fail; go_meet; exact ⟨_, A9, c9, m9, rfl, hm9, hHeld.cons f1.1 (by have := f1.2; omega) (by have := f1.2; simp; omega) (by simp), f0⟩)
        refine AllReadyH.cons (o := ⟨some 14, _, _, _, _, _⟩) rfl (fun K hK => ?_) ?_
        · (go_simp)
          refine hK.out _ _ ?_ (fun _ => ?_)
          · ((try dsimp only); (exact (hHeld.alloc _ _).sub (by simp)))
          clear hK K
          (try simp only [Act.put, pS0, pS1, pS2])
          refine gen0 (T := fun W => ((fun W => Mm w W [(g5, 35, dga hd), (w.heap.size, 46, mza)] [])) W ∧ (Blk W wq1.heap.size 46 mza ∧ w.heap.size < wq1.heap.size ∧ g5 < wq1.heap.size) ∧ True) ?_ (fun wq5 hT => ?_)
          · exact ⟨by (exact (hHeld.alloc _ _).sub (by simp)), by (exact ⟨Blk.new _ _ _, hHeld.b1.lt, hHeld.b0.lt⟩), trivial⟩
          (try clear f0 f1 f2 f3 f4 f5 f6 f7 f8 f9 f10 f11)
          obtain ⟨hHeld, f0, -⟩ := hT
          refine wR1 (i := 7) (o := ⟨some 60, _, _, _, _, _⟩) rfl (fun K hK => ?_)
          go_simp
          (refine (HCl.out _ hHeld.bel).mono ?_; rintro e w12 ⟨A9, c9, m9, rfl, hm9, ho9, hb9⟩)
          go_wp2_with fail
          refine hK.out _ _ ?_ (fun _ => ?_)
          · ((try dsimp only); (with_reducible exact hHeld.call hb9))
          clear hK K
          (try simp only [Act.put, pS0, pS1, pS2])
          refine gen0 (T := fun W => ((fun W => Mm w W [(g5, 35, dga hd), (w.heap.size, 46, mza)] [])) W ∧ OwnP W w.heap.size A9 c9 m9 ∧ (Blk W wq1.heap.size 46 mza ∧ w.heap.size < wq1.heap.size ∧ g5 < wq1.heap.size) ∧ True) ?_ (fun wq6 hT => ?_)
          · exact ⟨by (with_reducible exact hHeld.call hb9), by (exact Own.more ho9 hHeld.bel.size), by (exact ⟨Blk.below f0.1 hb9, f0.2⟩), trivial⟩
          (try clear f0 f1 f2 f3 f4 f5 f6 f7 f8 f9 f10 f11)
          obtain ⟨hHeld, f0, f1, -⟩ := hT
          refine wTk (i := 8) (oi := ⟨some 61, _, _, _, _, _⟩) (v := ?_) rfl ⟨by kernel_rfl, ?_⟩ (by assumption) ?_
          rotate_left
          · (intro wS hSw; (try dsimp only at hSw); (refine yld_build6 46 (x0 := .tmp 54) (x1 := .tmp 55) (x2 := .tmp 56) (x3 := .tmp 57) (x4 := .tmp 58) (x5 := .tmp 60) ?_ ?_ ?_ ?_ ?_ ?_ ?_ (built_mf6 (l.length : Int) f f t A9 m9.length c9 hd) <;> rfl))
          (try simp only [Act.put, pS0, pS1, pS2])
          refine wR1 (i := 10) (o := ⟨none, _, _, _, _, _⟩) rfl (fun K hK => ?_)
          ((refine step_storeRow (by kernel_rfl) 46 _ _ rfl _ (mfa (l.length : Int) f f t hd A9 m9.length c9) rfl rfl 46 mza f1.1 (by rw [mfa_size]; kernel_rfl) (by rw [mfa_size, mfa_size]) (mfa_all _ _ _ _ _ _ _ _) ?_))
          refine hK.out _ _ ?_ (fun _ => ?_)
          · ((try dsimp only); (exact hHeld.off (Wr.row _) (by have := f1.2; simp; omega) (by have := f1.2; omega)))
          clear hK K
          (try simp only [Act.put, pS0, pS1, pS2])
          refine gen0 (T := fun W => ((fun W => Mm w W [(g5, 35, dga hd), (w.heap.size, 46, mza)] [])) W ∧ OwnP W w.heap.size A9 c9 m9 ∧ (Blk W wq1.heap.size 46 (mfa (l.length : Int) f f t hd A9 m9.length c9) ∧ w.heap.size < wq1.heap.size ∧ g5 < wq1.heap.size) ∧ True) ?_ (fun wq7 hT => ?_)
          · exact ⟨by (exact hHeld.off (Wr.row _) (by have := f1.2; simp; omega) (by have := f1.2; omega)), by (exact Own.wrT f0 (Wr.row _) f1.1 (by decide)), by (exact ⟨Blk.row f1.1, f1.2⟩), trivial⟩
          (try clear f0 f1 f2 f3 f4 f5 f6 f7 f8 f9 f10 f11)
          obtain ⟨hHeld, f0, f1, -⟩ := hT
          refine wpAnyH_done (by kernel_rfl) ?_ _
          (go_wp2_with fail; go_meet; exact ⟨_, A9, c9, m9, rfl, hm9, hHeld.cons f1.1 (by have := f1.2; omega) (by have := f1.2; simp; omega) (by simp), f0⟩)
        exact AllReadyH.nil
       case rest =>
        obtain ⟨g14, A9, c9, m9, rfl, hm9, hM0, hO⟩ := hcut
        obtain rfl : m9 = ps := hm9.out
        clear hm9
        go_wp2_with fail
        go_loopw [64] (fun y wr => ∃ (k : Nat) (x9 : Int), k ≤ m9.length ∧ y = .int .i64 k ∧ Hid (wsum x9 (m9.drop k) = wsum f m9) ∧ Mm w wr [(g14, 46, mfa (l.length : Int) f x9 t hd A9 m9.length c9), (w.heap.size, 46, mza)] [] ∧ OwnP wr w.heap.size A9 c9 m9) (fun y w => m9.length - (intOf y).toNat)
        case atStart => exact ⟨0, f, Nat.zero_le _, rfl, (show _ = _ from rfl), hM0.sub (by simp), hO⟩
        case round =>
         obtain ⟨k, x9, hk, rfl, hsum, hMr, hOr⟩ := hrel
         by_cases hlt : k < m9.length
         · obtain ⟨ad, b, o, rfl, had, hcc⟩ := (hp.below hMr.bel).at hlt
           have hst : Hid (wsum (wrap64 (x9 + m9[k].2.1)) (m9.drop (k + 1)) = wsum f m9) := (show _ = _ from by rw [← hsum.out, List.drop_eq_getElem_cons hlt]; rfl)
           generalize m9[k] = p at *
           have hpp := Lib.hid (pta_size p)
           have hpa := Lib.hid (pta_all p)
           have HCC := Lib.hid hcc
           clear hcc hsum hM0 hO
           go_upto_region 13 with (first | (refine wpl_loadG rfl 37 _ rfl ⟨b, o, none⟩ (pta p) rfl HCC.out _ Tryz.underlying37 rfl (by rw [hpp.out]; kernel_rfl) ?_) | (refine wpl_storeN rfl 37 _ _ rfl _ (pta p) 37 rfl rfl (by rw [hpp.out]; kernel_rfl) (by rw [hpp.out]; rfl) hpa.out ?_))
           refine gen1 (T := fun W => Mm w W [(wr.heap.size, 37, pta p), (g14, 46, mfa (l.length : Int) f x9 t hd A9 m9.length c9), (w.heap.size, 46, mza)] [] ∧ OwnP W w.heap.size A9 c9 m9) ⟨hMr.alloc _ _, Own.below hOr (below_new _ _)⟩ (fun w7 hT => ?_)
           clear hMr hOr
           obtain ⟨hM7, hO7⟩ := hT
           generalize wr.heap.size = g7 at *
           obtain ⟨a0, a1, a2, a3, a4⟩ := BlM.five hM7.b1
           obtain ⟨e0, e1, e2⟩ := BlP.three hM7.b0
           have hfz := hM7.b1.frozen 2
           go_wp2_with fail
           go_roundw
           case rel => exact ⟨k + 1, wrap64 (x9 + p.2.1), hlt, by go_num, hst, (hM7.set 1 2 _ rfl).sub (List.sublist_cons_self _ _), Own.setT hO7 hM7.b1 (by decide) _⟩
           case measure => simp [intOf]; omega
         · obtain rfl : k = m9.length := by omega
           rw [List.drop_length] at hsum
           have HX := Lib.hid (show cnextM (mvs l) f t m9 = ((l.length : Int), f, x9, t, hd, m9) from by rw [hcM.out, ← hsum.out]; rfl)
           have HMC2 := Lib.hid (fun W => HMC.out (l.length : Int) f x9 t hd W A9 c9)
           have HW := Lib.hid HV2.out
           rw [HX.out] at HW
           clear HV2 hM0 hO hcM
           generalize mchk ((l.length : Int), f, x9, t, hd, m9) = bad at *
           go_wp2_with (refine wpl_loadG rfl 46 _ rfl ⟨g14, 0, none⟩ (mfa (l.length : Int) f x9 t hd A9 m9.length c9) rfl hMr.b0.cells _ Tryz.underlying46 rfl (by rw [mfa_size]; kernel_rfl) ?_)
           refine (HMC2.out _ hOr.sl).mono ?_
           rintro e w8 ⟨rfl, hb8⟩
           have hM := hMr.call hb8
           have hO8 := Own.below hOr hb8
           clear hMr hOr hb8 HMC2 HMC
           rcases errv_cases bad with ⟨h0, hev⟩ | ⟨ke, hk1, hke, hev⟩
           rotate_left
           · have HT := Lib.hid (by have h9 := HW.out; rw [if_pos (show bad ≠ 0 by omega)] at h9; exact h9)
             have HEV := Lib.hid hev
             rw [hev]
             clear hev HW hke
             go_wp2_with (first | (refine wpl_buildMz rfl rfl ?_) | (refine wpList_store_row rfl 46 _ _ rfl w.heap.size mza rfl rfl 46 mza hM.b1 (by rw [mfa_size]; kernel_rfl) rfl (mfa_all _ _ _ _ _ _ _ _) ?_))
             exact bodyPost_ret (res_mf2 rfl rfl (g := w.heap.size) hM.b1.row) rfl ⟨none, 0, [], by rw [HT.out]; first | rfl | (dsimp only [mfz]; rw [HEV.out]; rfl), (show _ = _ from by rw [HT.out]; rfl), Own.none_ _ _ _ _, below_setRow hM.bel (Nat.le_refl _) _⟩
           · have HT := Lib.hid (by have h9 := HW.out; rw [if_neg (show ¬ bad ≠ 0 by omega)] at h9; exact h9)
             rw [hev]
             clear hev HW
             go_wp2_with (first | (refine wpl_loadG rfl 46 _ rfl ⟨g14, 0, none⟩ (mfa (l.length : Int) f x9 t hd A9 m9.length c9) rfl hM.b0.cells _ Tryz.underlying46 rfl (by rw [mfa_size]; kernel_rfl) ?_) | (refine wpList_store_row rfl 46 _ _ rfl w.heap.size (mfa (l.length : Int) f x9 t hd A9 m9.length c9) rfl rfl 46 mza hM.b1 (by rw [mfa_size]; kernel_rfl) (by rw [mfa_size, mfa_size]) (mfa_all _ _ _ _ _ _ _ _) ?_))
             exact bodyPost_ret (res_mf2 rfl rfl (g := w.heap.size) hM.b1.row) rfl ⟨A9, c9, m9, by rw [HT.out]; rfl, (show _ = _ from by rw [HT.out]), Own.wrT hO8 (Wr.row _) hM.b1 (by decide), below_setRow hM.bel (Nat.le_refl _) _⟩
   · have hfb : (f != en) = true := by simpa using hfe
     have HT := Lib.hid (by have h9 := HV.out; rw [if_pos ⟨hnil.2 hl0, .inl hfe⟩] at h9; exact h9)
     have HEV := Lib.hid (show errv 12 = Value.iface 60 (.int .i64 12) from rfl)
     clear HV HH
     go_wp2_with fail
     refine (HE.out _ hM.bel).mono ?_
     rintro e w2 ⟨rfl, hb2⟩
     replace hM := hM.call hb2
     clear hb2
     go_wp2_with (first | (refine wpl_buildMz rfl rfl ?_) | (refine wpList_store_row rfl 46 _ _ rfl w.heap.size mza rfl rfl 46 mza hM.b0 (by rw [mfa_size]; kernel_rfl) rfl (mfa_all _ _ _ _ _ _ _ _) ?_))
     exact bodyPost_ret (res_mf2 rfl rfl (g := w.heap.size) hM.b0.row) rfl ⟨none, 0, [], by rw [HT.out]; first | rfl | (dsimp only [mfz]; rw [HEV.out]; rfl), (show _ = _ from by rw [HT.out]; rfl), Own.none_ _ _ _ _, below_setRow hM.bel (Nat.le_refl _) _⟩
 · have HV2 := Lib.hid (by have h9 := HV.out; rw [if_neg (fun hx => hl0 (hnil.1 hx.1))] at h9; exact h9)
   clear HV
   go_wp2_with fail
   refine (HH.out _ hM.bel).mono ?_
   rintro e w5 ⟨rfl, hb5⟩
   have hM5 := hM.call hb5
   clear hM hb5 HH
   dsimp only
   go_upto_region 9 with (refine wpl_storeN rfl 35 _ _ rfl _ (dga hd) 35 rfl rfl (by rw [(hds hd).out]; kernel_rfl) (by rw [(hds hd).out]; rfl) (hda hd).out ?_)
   refine gen1 (T := fun W => Mm w W [(w5.heap.size, 35, dga hd), (w.heap.size, 46, mza)] []) (hM5.alloc _ _) (fun w6 hM => ?_)
   generalize w5.heap.size = g5 at *
   clear hM5
   have hMd := hM.drew
   clear hM
   go_cut [14] (fun y wz => ∃ g14 A' c' m', y = .pointer (some ⟨g14, 0, none⟩) ∧ Hid (m' = ps) ∧ Mm w wz [(g14, 46, mfa (l.length : Int) f f t hd A' (List.length m') c'), (g5, 35, dga hd), (w.heap.size, 46, mza)] [] ∧ OwnP wz w.heap.size A' c' m')
   case first =>
    refine wp_region_held_drew (S := (fun W => Mm w W [(g5, 35, dga hd), (w.heap.size, 46, mza)] [])) (by kernel_rfl) ?_ (fun hHeld => ?_)
    · first | with_reducible exact hMd | with_reducible exact hHeld
    refine gen0 (T := fun W => ((fun W => Mm w W [(g5, 35, dga hd), (w.heap.size, 46, mza)] [])) W ∧ True) ?_ (fun wq1 hT => ?_)
    · exact ⟨by (with_reducible exact hMd), trivial⟩
    (try clear f0 f1 f2 f3 f4 f5 f6 f7 f8 f9 f10 f11)
    obtain ⟨hHeld, -⟩ := hT
    refine wTk (i := 0) (oi := ⟨some 53, _, _, _, _, _⟩) (v := ?_) rfl ⟨by kernel_rfl, ?_⟩ (by assumption) ?_
    rotate_left
    · (intro wS hSw; (try dsimp only at hSw); go_simp; (try with_reducible rfl))
    (try simp only [Act.put, pS0, pS1, pS2])
    refine wTk (i := 1) (oi := ⟨some 54, _, _, _, _, _⟩) (v := ?_) rfl ⟨by kernel_rfl, ?_⟩ (by assumption) ?_
    rotate_left
    · (intro wS hSw; (try dsimp only at hSw); go_simp; (try with_reducible rfl))
    (try simp only [Act.put, pS0, pS1, pS2])
    refine wTk (i := 2) (oi := ⟨some 55, _, _, _, _, _⟩) (v := ?_) rfl ⟨by kernel_rfl, ?_⟩ (by assumption) ?_
    rotate_left
    · (intro wS hSw; (try dsimp only at hSw); go_simp; (try with_reducible rfl))
    (try simp only [Act.put, pS0, pS1, pS2])
    refine wTk (i := 3) (oi := ⟨some 56, _, _, _, _, _⟩) (v := ?_) rfl ⟨by kernel_rfl, ?_⟩ (by assumption) ?_
    rotate_left
    · (intro wS hSw; (try dsimp only at hSw); go_simp; (try with_reducible rfl))
    (try simp only [Act.put, pS0, pS1, pS2])
    refine wTk (i := 4) (oi := ⟨some 57, _, _, _, _, _⟩) (v := ?_) rfl ⟨by kernel_rfl, ?_⟩ (by assumption) ?_
    rotate_left
    · (intro wS hSw; (try dsimp only at hSw); go_simp; (try with_reducible rfl))
    (try simp only [Act.put, pS0, pS1, pS2])
    refine wTk (i := 5) (oi := ⟨some 58, _, _, _, _, _⟩) (v := ?_) rfl ⟨by kernel_rfl, ?_⟩ (by assumption) ?_
    rotate_left
    · (intro wS hSw; (try dsimp only at hSw); (refine yld_load 35 (.tmp 12) ?_ ⟨g5, 0, none⟩ (dga hd) ?_ hSw.b0.cells _ Tryz.underlying35 rfl (by rw [(hds hd).out]; kernel_rfl) <;> rfl))
    (try simp only [Act.put, pS0, pS1, pS2])
    refine wTk (i := 6) (oi := ⟨some 59, _, _, _, _, _⟩) (v := ?_) rfl ⟨by kernel_rfl, ?_⟩ (by assumption) ?_
    rotate_left
    · (intro wS hSw; (try dsimp only at hSw); go_simp; (try with_reducible rfl))
    (try simp only [Act.put, pS0, pS1, pS2])
    refine wpAnyH_ready (rs := [7, 9]) (by kernel_rfl) (by simp) ?_
    refine AllReadyH.cons (o := ⟨some 60, _, _, _, _, _⟩) rfl (fun K hK => ?_) ?_
    · go_simp
      (refine (HCl.out _ hHeld.bel).mono ?_; rintro e w12 ⟨A9, c9, m9, rfl, hm9, ho9, hb9⟩)
      go_wp2_with fail
      refine hK.out _ _ ?_ (fun _ => ?_)
      · ((try dsimp only); (with_reducible exact hHeld.call hb9))
      clear hK K
      (try simp only [Act.put, pS0, pS1, pS2])
      refine gen0 (T := fun W => ((fun W => Mm w W [(g5, 35, dga hd), (w.heap.size, 46, mza)] [])) W ∧ OwnP W w.heap.size A9 c9 m9 ∧ True) ?_ (fun wq2 hT => ?_)
      · exact ⟨by (with_reducible exact hHeld.call hb9), by (exact Own.more ho9 hHeld.bel.size), trivial⟩
      (try clear f0 f1 f2 f3 f4 f5 f6 f7 f8 f9 f10 f11)
      obtain ⟨hHeld, f0, -⟩ := hT
      refine wTk (i := 8) (oi := ⟨some 61, _, _, _, _, _⟩) (v := ?_) rfl ⟨by kernel_rfl, ?_⟩ (by assumption) ?_
      rotate_left
      · (intro wS hSw; (try dsimp only at hSw); (refine yld_build6 46 (x0 := .tmp 54) (x1 := .tmp 55) (x2 := .tmp 56) (x3 := .tmp 57) (x4 := .tmp 58) (x5 := .tmp 60) ?_ ?_ ?_ ?_ ?_ ?_ ?_ (built_mf6 (l.length : Int) f f t A9 m9.length c9 hd) <;> rfl))
      (try simp only [Act.put, pS0, pS1, pS2])
      refine wR1 (i := 9) (o := ⟨some 14, _, _, _, _, _⟩) rfl (fun K hK => ?_)
      (go_simp)
      refine hK.out _ _ ?_ (fun _ => ?_)
      · ((try dsimp only); (exact (hHeld.alloc _ _).sub (by simp)))
      clear hK K
      (try simp only [Act.put, pS0, pS1, pS2])
      refine gen0 (T := fun W => ((fun W => Mm w W [(g5, 35, dga hd), (w.heap.size, 46, mza)] [])) W ∧ OwnP W w.heap.size A9 c9 m9 ∧ (Blk W wq2.heap.size 46 mza ∧ w.heap.size < wq2.heap.size ∧ g5 < wq2.heap.size) ∧ True) ?_ (fun wq3 hT => ?_)
      · exact ⟨by (exact (hHeld.alloc _ _).sub (by simp)), by (exact Own.below f0 (below_new _ _)), by (exact ⟨Blk.new _ _ _, hHeld.b1.lt, hHeld.b0.lt⟩), trivial⟩
      (try clear f0 f1 f2 f3 f4 f5 f6 f7 f8 f9 f10 f11)
      obtain ⟨hHeld, f0, f1, -⟩ := hT
      refine wR1 (i := 10) (o := ⟨none, _, _, _, _, _⟩) rfl (fun K hK => ?_)
      ((refine step_storeRow (by kernel_rfl) 46 _ _ rfl _ (mfa (l.length : Int) f f t hd A9 m9.length c9) rfl rfl 46 mza f1.1 (by rw [mfa_size]; kernel_rfl) (by rw [mfa_size, mfa_size]) (mfa_all _ _ _ _ _ _ _ _) ?_))
      refine hK.out _ _ ?_ (fun _ => ?_)
      · ((try dsimp only); (exact hHeld.off (Wr.row _) (by have := f1.2; simp; omega) (by have := f1.2; omega)))
      clear hK K
      (try simp only [Act.put, pS0, pS1, pS2])
      refine gen0 (T := fun W => ((fun W => Mm w W [(g5, 35, dga hd), (w.heap.size, 46, mza)] [])) W ∧ OwnP W w.heap.size A9 c9 m9 ∧ (Blk W wq2.heap.size 46 (mfa (l.length : Int) f f t hd A9 m9.length c9) ∧ w.heap.size < wq2.heap.size ∧ g5 < wq2.heap.size) ∧ True) ?_ (fun wq4 hT => ?_)
      · exact ⟨by (exact hHeld.off (Wr.row _) (by have := f1.2; simp; omega) (by have := f1.2; omega)), by (exact Own.wrT f0 (Wr.row _) f1.1 (by decide)), by (exact ⟨Blk.row f1.1, f1.2⟩), trivial⟩
      (try clear f0 f1 f2 f3 f4 f5 f6 f7 f8 f9 f10 f11)
      obtain ⟨hHeld, f0, f1, -⟩ := hT
      refine wpAnyH_done (by kernel_rfl) ?_ _
      (go_wp2_with fail; go_meet; exact ⟨_, A9, c9, m9, rfl, hm9, hHeld.cons f1.1 (by have := f1.2; omega) (by have := f1.2; simp; omega) (by simp), f0⟩)
    refine AllReadyH.cons (o := ⟨some 14, _, _, _, _, _⟩) rfl (fun K hK => ?_) ?_
    · (go_simp)
      refine hK.out _ _ ?_ (fun _ => ?_)
      · ((try dsimp only); (exact (hHeld.alloc _ _).sub (by simp)))
      clear hK K
      (try simp only [Act.put, pS0, pS1, pS2])
      refine gen0 (T := fun W => ((fun W => Mm w W [(g5, 35, dga hd), (w.heap.size, 46, mza)] [])) W ∧ (Blk W wq1.heap.size 46 mza ∧ w.heap.size < wq1.heap.size ∧ g5 < wq1.heap.size) ∧ True) ?_ (fun wq5 hT => ?_)
      · exact ⟨by (exact (hHeld.alloc _ _).sub (by simp)), by (exact ⟨Blk.new _ _ _, hHeld.b1.lt, hHeld.b0.lt⟩), trivial⟩
      (try clear f0 f1 f2 f3 f4 f5 f6 f7 f8 f9 f10 f11)
      obtain ⟨hHeld, f0, -⟩ := hT
      refine wR1 (i := 7) (o := ⟨some 60, _, _, _, _, _⟩) rfl (fun K hK => ?_)
      go_simp
      (refine (HCl.out _ hHeld.bel).mono ?_; rintro e w12 ⟨A9, c9, m9, rfl, hm9, ho9, hb9⟩)
      go_wp2_with fail
      refine hK.out _ _ ?_ (fun _ => ?_)
      · ((try dsimp only); (with_reducible exact hHeld.call hb9))
      clear hK K
      (try simp only [Act.put, pS0, pS1, pS2])
      refine gen0 (T := fun W => ((fun W => Mm w W [(g5, 35, dga hd), (w.heap.size, 46, mza)] [])) W ∧ OwnP W w.heap.size A9 c9 m9 ∧ (Blk W wq1.heap.size 46 mza ∧ w.heap.size < wq1.heap.size ∧ g5 < wq1.heap.size) ∧ True) ?_ (fun wq6 hT => ?_)
      · exact ⟨by (with_reducible exact hHeld.call hb9), by (exact Own.more ho9 hHeld.bel.size), by (exact ⟨Blk.below f0.1 hb9, f0.2⟩), trivial⟩
      (try clear f0 f1 f2 f3 f4 f5 f6 f7 f8 f9 f10 f11)
      obtain ⟨hHeld, f0, f1, -⟩ := hT
      refine wTk (i := 8) (oi := ⟨some 61, _, _, _, _, _⟩) (v := ?_) rfl ⟨by kernel_rfl, ?_⟩ (by assumption) ?_
      rotate_left
      · (intro wS hSw; (try dsimp only at hSw); (refine yld_build6 46 (x0 := .tmp 54) (x1 := .tmp 55) (x2 := .tmp 56) (x3 := .tmp 57) (x4 := .tmp 58) (x5 := .tmp 60) ?_ ?_ ?_ ?_ ?_ ?_ ?_ (built_mf6 (l.length : Int) f f t A9 m9.length c9 hd) <;> rfl))
      (try simp only [Act.put, pS0, pS1, pS2])
      refine wR1 (i := 10) (o := ⟨none, _, _, _, _, _⟩) rfl (fun K hK => ?_)
      ((refine step_storeRow (by kernel_rfl) 46 _ _ rfl _ (mfa (l.length : Int) f f t hd A9 m9.length c9) rfl rfl 46 mza f1.1 (by rw [mfa_size]; kernel_rfl) (by rw [mfa_size, mfa_size]) (mfa_all _ _ _ _ _ _ _ _) ?_))
      refine hK.out _ _ ?_ (fun _ => ?_)
      · ((try dsimp only); (exact hHeld.off (Wr.row _) (by have := f1.2; simp; omega) (by have := f1.2; omega)))
      clear hK K
      (try simp only [Act.put, pS0, pS1, pS2])
      refine gen0 (T := fun W => ((fun W => Mm w W [(g5, 35, dga hd), (w.heap.size, 46, mza)] [])) W ∧ OwnP W w.heap.size A9 c9 m9 ∧ (Blk W wq1.heap.size 46 (mfa (l.length : Int) f f t hd A9 m9.length c9) ∧ w.heap.size < wq1.heap.size ∧ g5 < wq1.heap.size) ∧ True) ?_ (fun wq7 hT => ?_)
      · exact ⟨by (exact hHeld.off (Wr.row _) (by have := f1.2; simp; omega) (by have := f1.2; omega)), by (exact Own.wrT f0 (Wr.row _) f1.1 (by decide)), by (exact ⟨Blk.row f1.1, f1.2⟩), trivial⟩
      (try clear f0 f1 f2 f3 f4 f5 f6 f7 f8 f9 f10 f11)
      obtain ⟨hHeld, f0, f1, -⟩ := hT
      refine wpAnyH_done (by kernel_rfl) ?_ _
      (go_wp2_with fail; go_meet; exact ⟨_, A9, c9, m9, rfl, hm9, hHeld.cons f1.1 (by have := f1.2; omega) (by have := f1.2; simp; omega) (by simp), f0⟩)
    exact AllReadyH.nil
   case rest =>
    obtain ⟨g14, A9, c9, m9, rfl, hm9, hM0, hO⟩ := hcut
    obtain rfl : m9 = ps := hm9.out
    clear hm9
    go_wp2_with fail
    go_loopw [64] (fun y wr => ∃ (k : Nat) (x9 : Int), k ≤ m9.length ∧ y = .int .i64 k ∧ Hid (wsum x9 (m9.drop k) = wsum f m9) ∧ Mm w wr [(g14, 46, mfa (l.length : Int) f x9 t hd A9 m9.length c9), (w.heap.size, 46, mza)] [] ∧ OwnP wr w.heap.size A9 c9 m9) (fun y w => m9.length - (intOf y).toNat)
    case atStart => exact ⟨0, f, Nat.zero_le _, rfl, (show _ = _ from rfl), hM0.sub (by simp), hO⟩
    case round =>
     obtain ⟨k, x9, hk, rfl, hsum, hMr, hOr⟩ := hrel
     by_cases hlt : k < m9.length
     · obtain ⟨ad, b, o, rfl, had, hcc⟩ := (hp.below hMr.bel).at hlt
       have hst : Hid (wsum (wrap64 (x9 + m9[k].2.1)) (m9.drop (k + 1)) = wsum f m9) := (show _ = _ from by rw [← hsum.out, List.drop_eq_getElem_cons hlt]; rfl)
       generalize m9[k] = p at *
       have hpp := Lib.hid (pta_size p)
       have hpa := Lib.hid (pta_all p)
       have HCC := Lib.hid hcc
       clear hcc hsum hM0 hO
       go_upto_region 13 with (first | (refine wpl_loadG rfl 37 _ rfl ⟨b, o, none⟩ (pta p) rfl HCC.out _ Tryz.underlying37 rfl (by rw [hpp.out]; kernel_rfl) ?_) | (refine wpl_storeN rfl 37 _ _ rfl _ (pta p) 37 rfl rfl (by rw [hpp.out]; kernel_rfl) (by rw [hpp.out]; rfl) hpa.out ?_))
       refine gen1 (T := fun W => Mm w W [(wr.heap.size, 37, pta p), (g14, 46, mfa (l.length : Int) f x9 t hd A9 m9.length c9), (w.heap.size, 46, mza)] [] ∧ OwnP W w.heap.size A9 c9 m9) ⟨hMr.alloc _ _, Own.below hOr (below_new _ _)⟩ (fun w7 hT => ?_)
       clear hMr hOr
       obtain ⟨hM7, hO7⟩ := hT
       generalize wr.heap.size = g7 at *
       obtain ⟨a0, a1, a2, a3, a4⟩ := BlM.five hM7.b1
       obtain ⟨e0, e1, e2⟩ := BlP.three hM7.b0
       have hfz := hM7.b1.frozen 2
       go_wp2_with fail
       go_roundw
       case rel => exact ⟨k + 1, wrap64 (x9 + p.2.1), hlt, by go_num, hst, (hM7.set 1 2 _ rfl).sub (List.sublist_cons_self _ _), Own.setT hO7 hM7.b1 (by decide) _⟩
       case measure => simp [intOf]; omega
     · obtain rfl : k = m9.length := by omega
       rw [List.drop_length] at hsum
       have HX := Lib.hid (show cnextM (mvs l) f t m9 = ((l.length : Int), f, x9, t, hd, m9) from by rw [hcM.out, ← hsum.out]; rfl)
       have HMC2 := Lib.hid (fun W => HMC.out (l.length : Int) f x9 t hd W A9 c9)
       have HW := Lib.hid HV2.out
       rw [HX.out] at HW
       clear HV2 hM0 hO hcM
       generalize mchk ((l.length : Int), f, x9, t, hd, m9) = bad at *
       go_wp2_with (refine wpl_loadG rfl 46 _ rfl ⟨g14, 0, none⟩ (mfa (l.length : Int) f x9 t hd A9 m9.length c9) rfl hMr.b0.cells _ Tryz.underlying46 rfl (by rw [mfa_size]; kernel_rfl) ?_)
       refine (HMC2.out _ hOr.sl).mono ?_
       rintro e w8 ⟨rfl, hb8⟩
       have hM := hMr.call hb8
       have hO8 := Own.below hOr hb8
       clear hMr hOr hb8 HMC2 HMC
       rcases errv_cases bad with ⟨h0, hev⟩ | ⟨ke, hk1, hke, hev⟩
       rotate_left
       · have HT := Lib.hid (by have h9 := HW.out; rw [if_pos (show bad ≠ 0 by omega)] at h9; exact h9)
         have HEV := Lib.hid hev
         rw [hev]
         clear hev HW hke
         go_wp2_with (first | (refine wpl_buildMz rfl rfl ?_) | (refine wpList_store_row rfl 46 _ _ rfl w.heap.size mza rfl rfl 46 mza hM.b1 (by rw [mfa_size]; kernel_rfl) rfl (mfa_all _ _ _ _ _ _ _ _) ?_))
         exact bodyPost_ret (res_mf2 rfl rfl (g := w.heap.size) hM.b1.row) rfl ⟨none, 0, [], by rw [HT.out]; first | rfl | (dsimp only [mfz]; rw [HEV.out]; rfl), (show _ = _ from by rw [HT.out]; rfl), Own.none_ _ _ _ _, below_setRow hM.bel (Nat.le_refl _) _⟩
       · have HT := Lib.hid (by have h9 := HW.out; rw [if_neg (show ¬ bad ≠ 0 by omega)] at h9; exact h9)
         rw [hev]
         clear hev HW
         go_wp2_with (first | (refine wpl_loadG rfl 46 _ rfl ⟨g14, 0, none⟩ (mfa (l.length : Int) f x9 t hd A9 m9.length c9) rfl hM.b0.cells _ Tryz.underlying46 rfl (by rw [mfa_size]; kernel_rfl) ?_) | (refine wpList_store_row rfl 46 _ _ rfl w.heap.size (mfa (l.length : Int) f x9 t hd A9 m9.length c9) rfl rfl 46 mza hM.b1 (by rw [mfa_size]; kernel_rfl) (by rw [mfa_size, mfa_size]) (mfa_all _ _ _ _ _ _ _ _) ?_))
         exact bodyPost_ret (res_mf2 rfl rfl (g := w.heap.size) hM.b1.row) rfl ⟨A9, c9, m9, by rw [HT.out]; rfl, (show _ = _ from by rw [HT.out]), Own.wrT hO8 (Wr.row _) hM.b1 (by decide), below_setRow hM.bel (Nat.le_refl _) _⟩
end
section
open Go.RowKit Go.Shelf
attribute [local go_sem ↓] Go.wp_at_zero Go.wp_at_succ
theorem mof_I {s : Sg} {p : Pt5} {b : List UInt8} (h : mof s = (p, b, 0)) : PtsI [p] := fun x hx => by
 rw [List.mem_singleton.1 hx]
 obtain ⟨-, h1, h2, h3, h4, h5, h6, h7⟩ := mof_held h
 have h8 := mof_size h
 unfold I64
 exact ⟨by omega, by omega, by omega⟩
theorem Kv.few {α : Type} {f0 : Int} {dec : α → Bs} {d : Dk α} {l : List Mf} {done : List Ce} (h : Kv dec f0 d l done) (hl : l.length ≤ 99) : Few l :=
 Few.of h.ck hl fun m hm => by
  obtain ⟨n, hn, rfl⟩ := List.getElem_of_mem hm
  obtain ⟨p, x, cs, e, -⟩ := h.hs n hn
  rw [e]
  simp
theorem vadd_part {d : Dk Sv} {l : List Mf} {number place : Int} {s : Sg} {enc : Bs → Sv} (h : (vadd svl Sv.nil enc ⟨d, l⟩ number place s).2.2 = 0) : (vadd svl Sv.nil enc ⟨d, l⟩ number place s).1 = (mof s).1 := by
 unfold vadd at h ⊢
 split
 · rename_i h1; rw [if_pos h1] at h; cases h
 rename_i h1
 rw [if_neg h1] at h
 split
 · rename_i h2; rw [if_pos h2] at h; exact absurd h h2
 rename_i h2
 rw [if_neg h2] at h
 split
 · rename_i h3; rw [if_pos h3] at h; exact absurd h h3
 · rfl
theorem Kv.adds {f0 : Int} {d : Dk Sv} {l : List Mf} {done cs : List Ce} {i : Nat} (h : Kv Sv.l f0 d l done) (hR : Rm svl d (2 * i) (70000 * i)) (hi : i ≤ 12) (hf : l.length < 1000000) (A : Option Addr) (c : Nat) {t : Int} (ht0 : cmark l ≤ t) (ht : 0 ≤ t ∧ t ≤ 1048576) (hm : (mof (f0 + done.length, cs)).2.2 = 0) :
 ∃ d1, vadd svl Sv.nil (fun x => ⟨A, c, x⟩) ⟨d, l⟩ l.length 0 (f0 + done.length, cs) = ((mof (f0 + done.length, cs)).1, ⟨d1, l⟩, 0) ∧ (cnext l (f0 + done.length) t [(mof (f0 + done.length, cs)).1]).2 = 0 ∧
  ∀ (A2 : Option Addr) (c2 : Nat), ∃ d2, vcommit svl Sv.nil Sv.l (fun x => ⟨A2, c2, x⟩) ⟨d1, l⟩ (cnext l (f0 + done.length) t [(mof (f0 + done.length, cs)).1]).1 = (⟨d2, l ++ [(cnext l (f0 + done.length) t [(mof (f0 + done.length, cs)).1]).1]⟩, 0) ∧ Kv Sv.l f0 d2 (l ++ [(cnext l (f0 + done.length) t [(mof (f0 + done.length, cs)).1]).1]) (done ++ cs) ∧ Rm svl d2 (2 * (i + 1)) (70000 * (i + 1)) ∧ cmark (l ++ [(cnext l (f0 + done.length) t [(mof (f0 + done.length, cs)).1]).1]) = t := by
 have key := fun (A2 : Option Addr) (c2 : Nat) => h.step (enc := fun x => ⟨A, c, x⟩) (enc2 := fun x => ⟨A2, c2, x⟩) (z := Sv.nil) (cs := cs) hR hi hf (fun _ => rfl) (fun _ => rfl) (fun _ => rfl) (fun _ => rfl) ht0 ht
 have k0 := (key none 0).resolve_left fun h1 => h1.1 hm
 obtain ⟨p, d1, -, e1, e2, -⟩ := k0
 have hp : p = (mof (f0 + done.length, cs)).1 := by
  have := vadd_part (d := d) (l := l) (number := l.length) (place := 0) (s := (f0 + done.length, cs)) (enc := fun x => ⟨A, c, x⟩) (by rw [e1])
  rw [e1] at this
  exact this
 subst hp
 refine ⟨d1, e1, e2, fun A2 c2 => ?_⟩
 obtain ⟨p2, d3, d2, f1, f2, f3, f4, f5, f6⟩ := (key A2 c2).resolve_left fun h1 => h1.1 hm
 rw [e1] at f1
 injection f1 with f1 f7
 injection f7 with f7 f8
 injection f7 with f7 f9
 subst f1
 subst f7
 exact ⟨d2, f3, f4, f5, f6⟩
theorem Rm.nil (room : Int) (h : 1000000 ≤ room) : Rm svl (dk0 room : Dk Sv) (2 * 0) (70000 * 0) := ⟨⟨rfl, rfl⟩, h, Nat.le_refl _, Nat.le_refl _⟩
theorem Mo.none (w : World) : Mo w w (fun _ => False) [] [] := ⟨Mm.start w, fun _ hi => hi.elim, (fun x hx => by cases hx), (fun g hg => by cases hg)⟩
theorem SlM.none (w : World) : SlM w none 0 [] := ⟨Sl.none_ _ _, fun x hx => by cases hx⟩
set_option maxRecDepth 100000 in
set_option maxHeartbeats 4000000 in
theorem Alive17_any (w : World) (hG : Shg w) : Calls Tryz.prog 6 #[] w fun e w' => e = .returned (.bool true) ∧ Below w.heap.size w w' := by
 have HGw := Lib.hid (fun W (hh : Below w.heap.size w W) => hG.below hh)
 have HN := Lib.hid (LNew 1048576 (by decide) (fun _ => False) w)
 have hM0 := Mo.none w
 have hmo : (mof ((2 : Int), [((2 : Int), ([] : List UInt8))])).2.2 = 0 := by rw [mof_ok (by decide) (by decide)]
 have HK := Lib.hid (fun A c => (Kv.nil (f0 := 2) (dec := Sv.l) 1048576).adds (cs := [((2 : Int), ([] : List UInt8))]) (Rm.nil 1048576 (by decide)) (by decide) (by decide) A c (t := 0) (by decide) (by decide) hmo)
 have HP : Hid (PtsI [(mof ((2 : Int), [((2 : Int), ([] : List UInt8))])).1]) := mof_I (b := (mof ((2 : Int), [((2 : Int), ([] : List UInt8))])).2.1) (Prod.ext rfl (Prod.ext rfl hmo))
 rw [show (2 : Int) + (([] : List Ce).length : Nat) = 2 from rfl, show (([] : List Mf).length : Int) = 0 from rfl] at HK
 generalize (mof ((2 : Int), [((2 : Int), ([] : List UInt8))])).1 = p at *
 have hps := Lib.hid (pta_size p)
 have hpa := Lib.hid (pta_all p)
 clear hmo
 go_enter Tryz.func6, Tryz.ntmps6
 go_wp2_with fail
 refine HN.out.mono ?_
 rintro e w1 ⟨g, rfl, hb1, hD1⟩
 have hM1 := hM0.act (Va.of_below (S := fun _ => False) hb1)
 generalize grow (fun _ => False) w w1 = S1 at *
 have HO := Lib.hid (LOpen hD1 hM1.kin hM1.mm.bel hG (Fok.dk0 _) (by decide))
 have hvo := (Kv.nil (f0 := 2) (dec := Sv.l) 1048576).opens (z := Sv.nil) (d0 := dk0 1048576) (by decide) rfl
 rw [hvo] at HO
 clear hvo hM0 hD1 hb1 HN hG
 go_wp2_with fail
 refine HO.out.mono ?_
 rintro e w2 ⟨hva, hor⟩
 rcases hor with ⟨-, gv, rfl, hV2⟩ | ⟨h0, -⟩
 rotate_left
 · exact absurd rfl h0
 have hM2 := hM1.act hva
 generalize grow S1 w1 w2 = S2 at *
 (try dsimp only at hV2)
 have hC : SlC (w2.alloc (.cells #[.int .i64 2, .slice none 0 0] 54)) (some ⟨w2.heap.size, 0, none⟩) 1 [(2, none, 0, [])] := ⟨Sl.litsS w2 2 1 (cf (2, none, 0, [])) 54 rfl (by simp [maxLen]), fun x hx => by rw [List.mem_singleton.1 hx]; exact Sl.none_ _ _⟩
 have hM3 := hM2.allocO (.cells #[.int .i64 2, .slice none 0 0] 54)
 have hV3 := hV2.below (below_new w2 (.cells #[.int .i64 2, .slice none 0 0] 54))
 have HA := Lib.hid (LAdd hV3 (HGw.out _ hM3.mm.bel) (Fok.dk0 _) (by decide) 0 0 2 [(2, none, 0, [])] hC (by decide) (by decide))
 rw [show ([((2 : Int), (none : Option Addr), 0, ([] : List UInt8))] : List CeV).map ceOf = [((2 : Int), ([] : List UInt8))] from rfl] at HA
 clear hM1 hva hM2 hV2 hV3 HO hC
 go_wp2_with fail
 refine HA.out.mono ?_
 rintro e w4 ⟨A4, c4, rfl, hva, hV4⟩
 obtain ⟨d4, e1, e2, e3⟩ := HK.out A4 c4
 have hfk := vadd_fok (d := dk0 1048576) (l := []) (number := 0) (place := 0) (s := ((2 : Int), [((2 : Int), ([] : List UInt8))])) (enc := fun x => ⟨A4, c4, x⟩) (Fok.dk0 _)
 have hgr := vadd_grow (d := dk0 1048576) (l := []) (number := 0) (place := 0) (s := ((2 : Int), [((2 : Int), ([] : List UInt8))])) (enc := fun x => ⟨A4, c4, x⟩)
 rw [e1] at hV4 hfk hgr ⊢
 (try dsimp only at hV4 hfk hgr ⊢)
 have hg2 : d4.sure.length + d4.pend.length ≤ 900 := Nat.le_trans hgr (by decide)
 have hM4 := hM3.act hva
 have E3 := Lib.hid e3
 have hcn := cnext_ok e2
 obtain ⟨x, hx⟩ : ∃ x, cnext [] 2 0 [p] = (x, 0) := ⟨_, Prod.ext rfl e2⟩
 rw [hx] at E3
 have hxp : x.2.2.2.2.2 = [p] := by
  have h9 := hcn.2.1
  rw [hx] at h9
  dsimp only at h9
  rw [h9]
  rfl
 have hxm : mchk x = 0 := by
  have h9 := hcn.2.2.1
  rw [← hcn.2.1, hx] at h9
  exact h9
 have Hx := Lib.hid hx
 have Hxp := Lib.hid hxp
 have HxI := Lib.hid (mchk_MfI2 hxm)
 generalize grow S2 _ w4 = S4 at *
 clear e1 e2 e3 hcn hx hxp hxm hgr HK HA hva hM3
 rw [show errv 0 = Value.nilIface from rfl]
 go_upto_region 6 with (first | (refine wpl_storeN rfl 37 _ _ rfl _ (pta p) 37 rfl rfl (by rw [hps.out]; kernel_rfl) (by rw [hps.out]; rfl) hpa.out ?_))
 refine gen1 (T := fun W => Mo w W S4 [(w4.heap.size, 37, pta p)] [] ∧ Vs W S4 g gv d4 []) ⟨hM4.alloc _ _, hV4.below (below_new _ _)⟩ (fun w5 hT => ?_)
 generalize w4.heap.size = g5 at *
 clear hM4 hV4
 obtain ⟨hM5, hV5⟩ := hT
 have hL := litP w5 p
 have hM6 := hM5.allocO (.cells (pta p) 37)
 have hV6 := hV5.below (below_new w5 (.cells (pta p) 37))
 have HNx := Lib.hid (ChNext_any (E := none) (cap := 0) [] 2 0 [p] _ (HGw.out _ hM6.mm.bel) (SlM.none _) hL HP.out (by simp))
 rw [show mvs [] = [] from rfl, Hx.out] at HNx
 clear hV5 hL
 go_wp2_with (first | (refine wpl_loadG rfl 37 _ rfl ⟨g5, 0, none⟩ (pta p) rfl hM5.b0.cells _ Tryz.underlying37 rfl (by rw [hps.out]; kernel_rfl) ?_) | (refine wpl_lit1 rfl _ rfl p rfl ?_))
 refine HNx.out.mono ?_
 rintro e w7 ⟨A7, c7, m7, rfl, hm7, ho7, hb7⟩
 obtain rfl : m7 = x.2.2.2.2.2 := hm7.out
 have hM7 := hM6.call hb7
 have hV7 := hV6.below hb7
 clear hM5 hM6 hV6 hb7 hm7 HNx
 (try dsimp only)
 rw [show errv 0 = Value.nilIface from rfl]
 have hmz := Lib.hid (mfa_size x.1 x.2.1 x.2.2.1 x.2.2.2.1 x.2.2.2.2.1 A7 x.2.2.2.2.2.length c7)
 have hmy := Lib.hid (mfa_all x.1 x.2.1 x.2.2.1 x.2.2.2.1 x.2.2.2.2.1 A7 x.2.2.2.2.2.length c7)
 go_upto_region 7 with (first | (refine wpl_storeN rfl 46 _ _ rfl _ (mfa x.1 x.2.1 x.2.2.1 x.2.2.2.1 x.2.2.2.2.1 A7 x.2.2.2.2.2.length c7) 46 rfl rfl (by rw [hmz.out]; kernel_rfl) (by rw [hmz.out]; rfl) hmy.out ?_))
 refine gen1 (T := fun W => Mo w W S4 [(w7.heap.size, 46, mfa x.1 x.2.1 x.2.2.1 x.2.2.2.1 x.2.2.2.2.1 A7 x.2.2.2.2.2.length c7)] [] ∧ Vs W S4 g gv d4 [] ∧ SlP W A7 c7 x.2.2.2.2.2) ⟨(hM7.alloc _ _).sub (by simp), hV7.below (below_new _ _), Sl.below ho7.sl (below_new _ _)⟩ (fun w8 hT => ?_)
 generalize w7.heap.size = g8 at *
 clear hM7 hV7 ho7
 obtain ⟨hM8, hV8, hs8⟩ := hT
 have HCm := Lib.hid (LCommit hV8 (HGw.out _ hM8.mm.bel) hfk hg2 (by decide) (A := A7) (c := c7) x hs8 HxI.out (by rw [Hxp.out]; simp))
 clear hV8
 go_wp2_with (refine wpl_loadG rfl 46 _ rfl ⟨g8, 0, none⟩ (mfa x.1 x.2.1 x.2.2.1 x.2.2.2.1 x.2.2.2.2.1 A7 x.2.2.2.2.2.length c7) rfl hM8.b0.cells _ Tryz.underlying46 rfl (by rw [hmz.out]; kernel_rfl) ?_)
 refine HCm.out.mono ?_
 rintro e w9 ⟨A9, c9, rfl, hva, hV9⟩
 obtain ⟨d9, e4, hK9, -, hmk9⟩ := E3.out A9 c9
 (try dsimp only at e4 hK9 hmk9)
 rw [e4] at hV9 ⊢
 (try dsimp only at hV9 ⊢)
 have hM9 := hM8.act hva
 generalize grow S4 w8 w9 = S9 at *
 rw [show errv 0 = Value.nilIface from rfl]
 have hFw := hK9.few (by simp)
 have HRd := Lib.hid (LRead hV9 (HGw.out _ hM9.mm.bel) hFw 2 (by unfold I64; omega))
 have hrd := hK9.read 0 (by decide) (by rw [hmk9]; decide)
 have HRe := Lib.hid (show vread Sv.l ⟨d9, [] ++ [x]⟩ 2 = ((2, []), 0) from hrd)
 rw [HRe.out] at HRd
 have HV9 := Lib.hid hV9
 have HFw := Lib.hid hFw
 clear hV9 e4 hmk9 hrd HRe hM8 hva HCm hs8 hFw hK9
 go_wp2_with fail
 refine HRd.out.mono ?_
 rintro e w10 ⟨A10, c10, m10, rfl, hm10, ho10, hb10⟩
 have hM10 := hM9.call hb10
 have hV10 := HV9.out.below hb10
 clear hM9 HV9 HRd ho10
 (try dsimp only)
 rw [show errv 0 = Value.nilIface from rfl]
 go_upto_region 10 with (fail)
 refine gen1 (T := fun W => Mo w W S9 [(w10.heap.size, 54, #[.int .i64 2, .slice A10 m10.length c10])] [] ∧ Vs W S9 g gv d9 ([] ++ [x])) ⟨(hM10.alloc _ _).sub (by simp), hV10.below (below_new _ _)⟩ (fun w11 hT => ?_)
 generalize w10.heap.size = g11 at *
 clear hM10 hV10 hb10 hm10
 obtain ⟨hM11, hV11⟩ := hT
 have HCh := Lib.hid (LChain hV11 HFw.out)
 obtain ⟨z0, z1, -, -⟩ := hM11.b0.two
 have HM := Lib.hid hM11
 clear hV11 hM11
 go_wp2_with fail
 refine HCh.out.mono ?_
 rintro e w12 ⟨A12, c12, m12, rfl, hm12, ho12, hb12⟩
 have hl12 : m12.length = 1 := by
  have h9 := congrArg List.length hm12.out
  rw [mvs_len] at h9
  simpa using h9
 have hbe : (((m12.length : Nat) : Int) == 1) = true := by simp [hl12]
 clear hl12
 go_wp2_with fail
 go_ret
 exact ⟨rfl, (HM.out.call hb12).mm.bel⟩
end
section
open Go.ChangeShapes Go.WideShapes Go.ChangeAt Go.RowKit Go.Deep
theorem open_structsF {H : Type} {enc : TypeId × Value → H} {P : Program} {w : World} {base : Nat} {held : Bool} {t e : TypeId} {v : Value} {fs : Array Field}
 {T : Type} (f : T → List Value) (Q : T → Prop) (hfl : ∀ x, (f x).length = fs.size)
 (ht : P.underlying t = some (.slice e)) (he : P.underlying e = some (.struct fs)) (hone : oneCellFields P fs = true) (hC : P.cellsOf e = fs.size)
 (hel : ∀ vs : List Value, vs.length = fs.size → (∀ (j : Nat) (fd : Field), fs[j]? = some fd → ∃ (u : Value) (n : Nat) (y : DataW H × List MemPlace), vs[j]? = some u ∧ DataW.trod enc P w base (fun _ => true) held n fd.type [u] = some y) → ∃ x : T, f x = vs ∧ Q x)
 {fuel : Nat} {yy : DataW H × List MemPlace} (hf : DataW.trod enc P w base (fun _ => true) held fuel t [v] = some yy) :
 ∃ (A : Option Addr) (c : Nat) (l : List T), v = .slice A l.length c ∧ Sl w fs.size A l.length c (l.flatMap f) ∧ ∀ x ∈ l, Q x := by
 rcases open_slice_fields ht he hone hC hf with ⟨hcs, _⟩ | ⟨a, n, c, m, D, Pl, hcs, _, hl, hm, hmm, _, hi⟩
 · simp at hcs
   subst hcs
   exact ⟨none, 0, [], rfl, by simpa using Sl.none_ w fs.size, fun x hx => by simp at hx⟩
 · simp at hcs
   subst hcs
   simp only [if_true] at hmm
   subst hmm
   have hx : ∀ i, i < n → ∃ x : T, Q x ∧ ∀ j u, (f x)[j]? = some u → w.cell? (a.add (i * fs.size + j)) = some u := by
    intro i hin
    obtain ⟨ys, nn, _, _, _, hfd⟩ := hi i (by omega)
    have hc : ∀ j, j < fs.size → ∃ u : Value, w.cell? (a.add (i * fs.size + j)) = some u ∧ ∃ y : DataW H × List MemPlace, DataW.trod enc P w base (fun _ => true) held nn (fs[j]!).type [u] = some y := by
     intro j hj
     obtain ⟨u, y, h1, _, h3⟩ := hfd j fs[j] (by simp [hj])
     exact ⟨u, h1, y, by simpa [hj] using h3⟩
    obtain ⟨vs, hvl, hvr⟩ := list_choice (fun j u => w.cell? (a.add (i * fs.size + j)) = some u ∧ ∃ y : DataW H × List MemPlace, DataW.trod enc P w base (fun _ => true) held nn (fs[j]!).type [u] = some y) fs.size hc
    obtain ⟨x, hxe, hxq⟩ := hel vs hvl fun j fd hj => by
     have hjl : j < fs.size := (Array.getElem?_eq_some_iff.1 hj).1
     obtain ⟨_, y, hy⟩ := hvr j (by omega)
     have hfe : fs[j]! = fd := by
      have := (Array.getElem?_eq_some_iff.1 hj).2
      simp [hjl, this]
     rw [hfe] at hy
     exact ⟨vs[j], nn, y, List.getElem?_eq_getElem (by omega), hy⟩
    refine ⟨x, hxq, fun j u hj => ?_⟩
    rw [hxe] at hj
    obtain ⟨hjl, hju⟩ := List.getElem?_eq_some_iff.1 hj
    rw [← hju]
    exact (hvr j hjl).1
   obtain ⟨l, hll, hlr⟩ := list_choice _ n hx
   refine ⟨some a, _, l, by rw [hll], ⟨flat_len hfl l, by omega, hm, (fun h => by cases h), fun j u hj => ⟨a, rfl, ?_⟩⟩, fun x hx => ?_⟩
   · rcases Nat.eq_zero_or_pos fs.size with h0 | h0
     · have := (List.getElem?_eq_some_iff.1 hj).1
       rw [flat_len hfl, h0] at this
       omega
     · have hjl := (List.getElem?_eq_some_iff.1 hj).1
       rw [flat_len hfl] at hjl
       have hk : j / fs.size < l.length := by rw [Nat.div_lt_iff_lt_mul h0]; exact hjl
       have hr : j % fs.size < fs.size := Nat.mod_lt _ h0
       have he := flat_get hfl l (j / fs.size) (j % fs.size) hk hr
       have hj2 : j / fs.size * fs.size + j % fs.size = j := by rw [Nat.mul_comm]; exact Nat.div_add_mod _ _
       rw [hj2, hj] at he
       have := (hlr _ hk).2 _ _ he.symm
       rwa [hj2] at this
   · obtain ⟨i, hi, rfl⟩ := List.getElem_of_mem hx
     exact (hlr i hi).1
section
variable {H : Type} {enc : TypeId × Value → H} {P : Program} {w : World} {base b0 : Nat} {held : Bool} {r : Reach} {t e b u : TypeId} {v : Value} {d : DataW H} {p : List MemPlace}
end
section
variable {H : Type} {enc : TypeId × Value → H} {P : Program} {w : World} {base b0 : Nat} {held : Bool} {r : Reach} {t e b z u : TypeId} {v : Value} {d : DataW H} {p : List MemPlace}
theorem open_sliceH {T : Type} (f : T → List Value) (Q : T → Prop) {k : Nat} (hfl : ∀ x, (f x).length = k) (hk : 0 < k) (ht : P.underlying t = some (.slice e)) (hC : P.cellsOf e = k)
 (hel : ∀ (cs' : List Value) (n : Nat) (y : DataW H × List MemPlace), DataW.trod enc P w base (fun _ => true) held n e cs' = some y → ∃ x : T, f x = cs' ∧ Q x)
 {fuel : Nat} {yy : DataW H × List MemPlace} (hf : DataW.trod enc P w base (fun _ => true) held fuel t [v] = some yy) :
 ∃ (A : Option Addr) (c : Nat) (l : List T), v = .slice A l.length c ∧ Sl w k A l.length c (l.flatMap f) ∧ ∀ x ∈ l, Q x := by
 rcases open_slice ht hf with ⟨hcs, _⟩ | ⟨a, n, c, m, nn, D, Pl, hcs, _, hl, hm, hmm, _, hi⟩
 · simp at hcs
   subst hcs
   exact ⟨none, 0, [], rfl, by simpa using Sl.none_ w k, fun x hx => by simp at hx⟩
 · simp at hcs
   subst hcs
   simp only [if_true] at hmm
   subst hmm
   have hx : ∀ i, i < n → ∃ x : T, Q x ∧ ∀ j u, (f x)[j]? = some u → w.cell? (a.add (i * k + j)) = some u := by
    intro i hin
    obtain ⟨cs', hc, ht'⟩ := hi i (by omega)
    rw [hC] at hc
    obtain ⟨_, hcl, hat⟩ := World.cells?_some hc
    obtain ⟨x, hxe, hxq⟩ := hel cs' nn _ ht'
    refine ⟨x, hxq, fun j u hj => ?_⟩
    have hjk : j < k := by rw [← hfl x]; exact (List.getElem?_eq_some_iff.1 hj).1
    rw [hxe] at hj
    rw [← Go.Deep.add_add, hat j hjk, hj]
   obtain ⟨l, hll, hlr⟩ := list_choice _ n hx
   refine ⟨some a, _, l, by rw [hll], ⟨flat_len hfl l, by omega, hm, (fun h => by cases h), fun j u hj => ⟨a, rfl, ?_⟩⟩, fun x hx => ?_⟩
   · have hjl := (List.getElem?_eq_some_iff.1 hj).1
     rw [flat_len hfl] at hjl
     have hkk : j / k < l.length := by rw [Nat.div_lt_iff_lt_mul hk]; exact hjl
     have hr : j % k < k := Nat.mod_lt _ hk
     have he := flat_get hfl l (j / k) (j % k) hkk hr
     have hj2 : j / k * k + j % k = j := by rw [Nat.mul_comm]; exact Nat.div_add_mod _ _
     rw [hj2, hj] at he
     have := (hlr _ hkk).2 _ _ he.symm
     rwa [hj2] at this
   · obtain ⟨i, hi, rfl⟩ := List.getElem_of_mem hx
     exact (hlr i hi).1
end
end
end Go.Proofs.YtajfnmohlnkncaaGreatDoor
