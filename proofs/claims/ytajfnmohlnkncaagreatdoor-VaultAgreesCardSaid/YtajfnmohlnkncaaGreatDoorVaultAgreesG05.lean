/- WHAT IT HOLDS: PutRun of the package cell, walked. | WHAT IT HOLDS: the law CellOrder, walked. | WHAT IT HOLDS: the law CellFew, walked. | WHAT IT HOLDS: the document's common and Run, and the law's Documents, walked. | WHAT IT HOLDS: the document's Run, walked. | WHAT IT HOLDS: arguments that are cells, and slices of cells, opened to the words of Kit. | WHAT IS PROVED: the statement CellRuns: for every input the law returns true. No condition. | WHAT IT HOLDS: segments, plainly (no program). -/
import Derived.Test.YtajfnmohlnkncaaGreatDoorVaultAgreesG04
import Derived.Deep.DeepCutAuto
import Derived.Lib.SlBytesConst
import Derived.Test.YtajfnmohlnkncaaGreatDoorVaultAgreesG01
import Derived.Lib.AppendStr
namespace Go.Proofs.YtajfnmohlnkncaaGreatDoor
section
open Go.RowKit
attribute [local go_sem ↓] Go.wp_at_zero Go.wp_at_succ
theorem Sl.cutS {w : World} {size n c : Nat} {A : Option Addr} {xs : List Value} (h : Sl w size A n c xs) {k : Nat} (hk : k ≤ n) : Sl w size (if c = k then A else A.map (·.add (k * size))) (n - k) (c - k) (xs.drop (k * size)) := by
 obtain ⟨h1, h2, h3, h4, h5⟩ := h
 refine ⟨by rw [List.length_drop, h1, Nat.sub_mul], by omega, by omega, fun e => ?_, fun j u hj => ?_⟩
 · split at e
   · have := h4 e; omega
   · cases A with
     | none => have := h4 rfl; omega
     | some a => simp at e
 · rw [List.getElem?_drop] at hj
   obtain ⟨ad, rfl, hc⟩ := h5 _ u hj
   have hl : k * size + j < n * size := by have := (List.getElem?_eq_some_iff.1 hj).1; omega
   have hkn : k < n := by
    rcases Nat.lt_or_ge k n with h | h
    · exact h
    · have := Nat.mul_le_mul_right size h
      omega
   rw [if_neg (by omega)]
   exact ⟨ad.add (k * size), rfl, by rw [addr_add_add]; exact hc⟩
theorem flat_drop : ∀ (k : Nat) (l : List CeV), (l.flatMap cf).drop (k * 2) = (l.drop k).flatMap cf
 | 0, l => by simp
 | k + 1, [] => by simp
 | k + 1, x :: l => by
  have h := flat_drop k l
  rw [show (k + 1) * 2 = k * 2 + 1 + 1 from by omega]
  simp only [List.flatMap_cons, List.drop_succ_cons]
  exact h
def lenOf : Value → Nat
 | .slice _ n _ => n
 | _ => 0
theorem SlC.cut {w : World} {E : Option Addr} {cap : Nat} {l : List CeV} (h : SlC w E cap l) {k : Nat} (hk : k ≤ l.length) : SlC w (if cap = k then E else E.map (·.add (k * 2))) (cap - k) (l.drop k) := by
 refine ⟨?_, fun x hx => h.2 x (List.mem_of_mem_drop hx)⟩
 have := Sl.cutS h.1 hk
 rw [flat_drop, ← List.length_drop] at this
 exact this
def RunOut (w0 : World) (l : List UInt8) (run : List Ce) (e : Ending) (w' : World) : Prop :=
 Below w0.heap.size w0 w' ∧ ((∃ A c m, run.length ≤ 64 ∧ rchk run = 0 ∧ e = .returned (.tuple #[.slice A (List.length m) c, .nilIface]) ∧ Hid (m = l ++ (vb run.length ++ prun [] run)) ∧ OwnB w' w0.heap.size 5 A c m) ∨
  (∃ bad : Nat, bad ≠ 0 ∧ bad = (if 64 < run.length then 3 else rchk run) ∧ e = .returned (.tuple #[.slice none 0 0, errv bad])))
set_option maxRecDepth 100000 in
set_option maxHeartbeats 4000000 in
theorem PutRun_any {E B : Option Addr} {cap f : Nat} {l : List UInt8} (cs : List CeV) (w : World) (hs : SlB w B f l) (h : SlC w E cap cs) (hl : l.length ≤ 1000000) :
 Calls Tryz.prog 108 #[.slice B l.length f, .slice E cs.length cap] w (RunOut w l (cs.map ceOf)) := by
 have hmax := h.1.len_le
 unfold maxLen at hmax
 by_cases hlong : 64 < cs.length
 · have hif : Hid ((3 : Nat) = if 64 < (cs.map ceOf).length then 3 else rchk (cs.map ceOf)) := (show _ = _ by rw [if_pos (by simpa using hlong)])
   go_enter Tryz.func108, Tryz.ntmps108
   go_wp2_with fail
   go_ret2
   exact ⟨Below.refl _ _, .inr ⟨3, by decide, hif.out, rfl⟩⟩
 · have h64 : cs.length ≤ 64 := by omega
   go_enter Tryz.func108, Tryz.ntmps108
   go_wp2_with fail
   go_loopw [20] (fun x wr => ∃ k : Nat, k ≤ cs.length ∧ x = .int .i64 k ∧ Hid (∀ c ∈ (cs.map ceOf).take k, cchk c = 0) ∧ Below w.heap.size w wr) (fun x w => cs.length - (intOf x).toNat)
   case atStart => exact ⟨0, Nat.zero_le _, rfl, (fun c hc => by simp at hc), Below.refl _ _⟩
   case round =>
    obtain ⟨k, hk, rfl, hall, hbr⟩ := hrel
    by_cases hlt : k < cs.length
    · obtain ⟨ad, b, o, rfl, had, hc0, hc1, _⟩ := (h.below hbr).at2 hlt
      have hbad := Lib.hid (rchk_at (l := cs.map ceOf) (k := k) (by simpa using hlt) hall.out)
      have hgood : Hid (cchk ((cs.map ceOf)[k]'(by simpa using hlt)) = 0 → ∀ c ∈ (cs.map ceOf).take (k + 1), cchk c = 0) := (show _ → _ from fun h c hc => by
       rw [List.take_succ_eq_append_getElem (by simpa using hlt), List.mem_append] at hc
       rcases hc with hc | hc
       · exact hall.out c hc
       · simp only [List.mem_singleton] at hc
         rw [hc]; exact h)
      rw [List.getElem_map] at hbad hgood
      generalize cs[k] = x at *
      obtain ⟨kk, A, c, d⟩ := x
      dsimp only [ceOf] at *
      have hC := fun W => CCheck_any (A := A) (c := c) kk d W
      rcases errv_cases (cchk (kk, d)) with ⟨h1, e1⟩ | ⟨n1, p1, q1, e1⟩
      · simp only [e1] at hC
        have C1 := Lib.hid hC
        have hg := Lib.hid (hgood.out h1)
        clear hC h1 e1
        go_wp2_with fail
        refine (C1.out _).mono ?_
        rintro e w1 ⟨rfl, hb1⟩
        go_wp2_with fail
        go_roundw
        case rel => exact ⟨k + 1, hlt, by go_num, hg.out, bel_call (bel_alloc hbr _) hb1⟩
        case measure => simp [intOf]; omega
      · have hne : cchk (kk, d) ≠ 0 := by omega
        have hif : Hid (cchk (kk, d) = if 64 < (cs.map ceOf).length then 3 else rchk (cs.map ceOf)) := (show _ = _ by rw [if_neg (by simpa using hlong), hbad.out hne])
        have hnh := Lib.hid hne
        have he : Hid (errv (cchk (kk, d)) = .iface 60 (.int .i64 n1)) := e1
        simp only [e1] at hC
        have C1 := Lib.hid hC
        clear hC q1 e1 hne
        go_wp2_with fail
        refine (C1.out _).mono ?_
        rintro e w1 ⟨rfl, hb1⟩
        go_wp2_with fail
        go_ret2
        exact ⟨bel_call (bel_alloc hbr _) hb1, .inr ⟨cchk (kk, d), hnh.out, hif.out, by rw [he.out]; rfl⟩⟩
    · have hok : Hid (∀ c ∈ cs.map ceOf, cchk c = 0) := (show ∀ c ∈ cs.map ceOf, _ from fun c hc => hall.out c (by rw [List.take_of_length_le (by simp; omega)]; exact hc))
      have hu : U64 cs.length := by unfold U64; omega
      have hw := wrap_u64_of hu
      clear hall
      go_wp2_with fail
      refine (Put_any B f l _ 1 [cs.length] _ (by omega) ((hs.below hbr).below (below_new _ _)) (Sl.lits _ [nv cs.length] 138 (by simp [maxLen])) (by simp) (by intro n hn; simp at hn; subst hn; exact hu)).mono ?_
      rintro e w2 ⟨A2, c2, m2, rfl, hm2, ho2, hb2⟩
      have hw2 := bel_call (bel_alloc hbr (.cells #[.int .u64 (cs.length : Int)] 138)) hb2
      have hml2 : m2.length ≤ l.length + 10 := by
       rw [hm2.out]
       have := vb_le10 hu
       simp [vbs]
       omega
      go_wp2_with fail
      go_loopw [1, 9, 10] (fun s1 s9 s10 wq => ∃ (rest : List CeV) (E1 : Option Addr) (cap1 : Nat) (A1 : Option Addr) (c1 : Nat) (m : List UInt8) (L : Option Addr) (cL : Nat) (ld : List UInt8), s1 = .slice E1 rest.length cap1 ∧ s9 = .slice A1 m.length c1 ∧ s10 = .slice L ld.length cL ∧
       SlC wq E1 cap1 rest ∧ OwnB wq w.heap.size 5 A1 c1 m ∧ SlB wq L cL ld ∧ Hid (l ++ (vb cs.length ++ prun [] (cs.map ceOf)) = m ++ prun ld (rest.map ceOf)) ∧ Hid (∀ c ∈ rest.map ceOf, cchk c = 0) ∧ rest.length ≤ 64 ∧ ld.length ≤ 64 ∧ m.length + 200 * rest.length ≤ l.length + 10 + 200 * cs.length ∧ Below w.heap.size w wq) (fun s1 s9 s10 wq => lenOf s1)
      case atStart => exact ⟨cs, E, cap, A2, c2, m2, none, 0, [], rfl, rfl, rfl, h.below hw2, ho2.more (by have := hbr.size; simp; omega), Sl.none_ _ _, (show _ = _ by rw [hm2.out]; simp [vbs]), hok, h64, by simp, by omega, hw2⟩
      case round =>
       obtain ⟨rest, E1, cap1, A1, c1, m, L, cL, ld, rfl, rfl, rfl, hC1, ho1, hL1, htot, hok1, hr64, hld, hmb, hbq⟩ := hrel
       rcases rest with _ | ⟨x0, rest⟩
       · have hfin : Hid (m = l ++ (vb (cs.map ceOf).length ++ prun [] (cs.map ceOf))) := (show _ = _ by
          have := htot.out
          rw [List.length_map, this]
          simp [prun])
         have hrk : Hid (rchk (cs.map ceOf) = 0) := rchk_ok hok.out
         go_wp2_with fail
         go_ret2
         exact ⟨hbq, .inl ⟨A1, c1, m, by simpa using h64, hrk.out, rfl, hfin.out, ho1⟩⟩
       · obtain ⟨kk, Ax, cx, d⟩ := x0
         have hpos : 0 < ((kk, Ax, cx, d) :: rest).length := by simp
         obtain ⟨ad0, b0, o0, rfl, had0, _, _, hsd0⟩ := hC1.at2 (k := 0) hpos
         obtain rfl : ad0 = ⟨b0, o0, none⟩ := by simpa [Addr.add] using had0
         clear had0
         have hck : cchk (kk, d) = 0 := hok1.out _ (by simp)
         have hk0 : 0 ≤ kk := (cchk_ok hck).1
         have hk3 : kk ≤ 3 := (cchk_ok hck).2.1
         have hd64 : d.length ≤ 64 := (cchk_ok hck).2.2.1
         clear hck
         have hrow := row_any _ _ hC1
         have hrl := rowN_le (((kk, Ax, cx, d) :: rest).map ceOf)
         rw [List.length_map] at hrl
         rcases Decidable.em (kk = 1) with rfl | hk1
         · have hr0 : rowN (((1, Ax, cx, d) :: rest).map ceOf) = 0 := (rowN_zero (c := (1, d)) (r := rest.map ceOf)).2 rfl
           have hpr := prun_data (last := ld) hr0
           rw [hr0] at hrow
           have hcp := cpl_le ld d
           have hal := fun W a b => alike_any L Ax cL cx ld d W a b
           have hnext : Hid (l ++ (vb cs.length ++ prun [] (cs.map ceOf)) = (m ++ vbs [0, d.length, cpl ld d]) ++ d.drop (cpl ld d) ++ prun d (rest.map ceOf)) := (show _ = _ by
            rw [htot.out]
            simp only [List.map_cons, ceOf] at hpr ⊢
            rw [hpr]
            simp [vbs])
           have hrest : Hid (∀ c ∈ rest.map ceOf, cchk c = 0) := (show ∀ _, _ from fun c hc => hok1.out c (by simp only [List.map_cons, List.mem_cons]; exact .inr hc))
           have HR := Lib.hid hrow
           have HA := Lib.hid hal
           generalize cpl ld d = s at *
           clear hpr hrow hal hr0 htot hok1 hrl hk0 hk3
           have hlc : (((1 : Int), Ax, cx, d) :: rest).length = rest.length + 1 := rfl
           have hcut := hC1.cut (k := 1) (by rw [hlc]; omega)
           have hcl := hC1.1.2.1
           have hcx1 := hC1.1.2.2.1
           unfold maxLen at hcx1
           have hdr : (((1 : Int), Ax, cx, d) :: rest).drop 1 = rest := rfl
           rw [hdr] at hcut
           have hs1 : (s : Int) ≤ (d.length : Int) := by omega
           have hdc := hsd0.2.1
           have hdx := hsd0.2.2.1
           unfold maxLen at hdx
           have hs2 : (s : Int) ≤ (cx : Int) := by simp at hdc; omega
           have hs0 : (0 : Int) ≤ (s : Int) := by omega
           have hu : U64 d.length := by unfold U64; omega
           have hu2 : U64 s := by unfold U64; omega
           have hwn := wrap_u64_of hu
           have hwk := wrap_u64_of hu2
           go_wp2_with fail
           refine HR.out.mono ?_
           rintro e w3 ⟨rfl, hb3⟩
           have hC3 := hC1.below hb3
           have hb03 := bel_call hbq hb3
           obtain ⟨ad0, b, o, hE, had0, _, hc1, hsd3⟩ := hC3.at2 (k := 0) hpos
           injection hE with hE
           subst hE
           rw [addr_lit] at had0
           injection had0 with e1 e2
           subst e1
           simp only [Nat.zero_mul, Nat.add_zero] at e2
           subst e2
           simp only [List.getElem_cons_zero] at hc1 hsd3
           go_wp2_with fail
           refine (HA.out _ (hL1.below hb3) hsd3).mono ?_
           rintro e w4 ⟨rfl, hb4⟩
           have hb04 := bel_call hb03 hb4
           have ho4 := (ho1.below hb3).below hb4
           have hL4 := (hsd3.below hb4)
           have hC4 := hC3.below hb4
           have hdcut := Sl.cutB (hsd3.below hb4) (k := s) (by omega)
           have hdl : (d.drop s).length = d.length - s := by simp
           have HDL := Lib.hid hdl
           rw [← hdl] at hdcut
           have hres : rest.length ≤ 64 := by rw [hlc] at hr64; omega
           have hmb' : m.length + 200 * rest.length + 200 ≤ l.length + 10 + 200 * cs.length := by rw [hlc] at hmb; omega
           have h1le : (1 : Int) ≤ (rest.length : Int) + 1 := by omega
           clear hdl hr64 hmb
           by_cases hcs : cx = s <;> by_cases hcap : cap1 = 1
           · rw [if_pos hcs, show cx - s = 0 from by omega] at hdcut
             rw [if_pos hcap, show cap1 - 1 = 0 from by omega] at hcut
             go_wp2_with fail
             refine wp_region_held_drew (S := (fun W => True)) (by kernel_rfl) ?_ (fun hHeld => ?_)
             · (try trivial)
             refine wTk (i := 0) (oi := ⟨some 63, _, _, _, _, _⟩) (v := ?_) rfl ⟨by kernel_rfl, ?_⟩ (by assumption) ?_
             rotate_left
             · (intro wS hSw; (try dsimp only at hSw); go_simp; (try with_reducible rfl))
             (try simp only [Act.put, pS0, pS1, pS2])
             refine wTk (i := 1) (oi := ⟨some 64, _, _, _, _, _⟩) (v := ?_) rfl ⟨by kernel_rfl, ?_⟩ (by assumption) ?_
             rotate_left
             · (intro wS hSw; (try dsimp only at hSw); go_simp; (try with_reducible rfl))
             (try simp only [Act.put, pS0, pS1, pS2])
             refine wTk (i := 2) (oi := ⟨some 65, _, _, _, _, _⟩) (v := ?_) rfl ⟨by kernel_rfl, ?_⟩ (by assumption) ?_
             rotate_left
             · (intro wS hSw; (try dsimp only at hSw); go_simp; (try with_reducible rfl))
             (try simp only [Act.put, pS0, pS1, pS2])
             refine wTk (i := 3) (oi := ⟨some 66, _, _, _, _, _⟩) (v := ?_) rfl ⟨by kernel_rfl, ?_⟩ (by assumption) ?_
             rotate_left
             · (intro wS hSw; (try dsimp only at hSw); go_simp; (try with_reducible rfl))
             (try simp only [Act.put, pS0, pS1, pS2])
             refine wTk (i := 4) (oi := ⟨some 67, _, _, _, _, _⟩) (v := ?_) rfl ⟨by kernel_rfl, ?_⟩ (by assumption) ?_
             rotate_left
             · (intro wS hSw; (try dsimp only at hSw); go_simp; (try with_reducible rfl))
             (try simp only [Act.put, pS0, pS1, pS2])
             refine wTk (i := 5) (oi := ⟨some 68, _, _, _, _, _⟩) (v := ?_) rfl ⟨by kernel_rfl, ?_⟩ (by assumption) ?_
             rotate_left
             · (intro wS hSw; (try dsimp only at hSw); go_simp; (try with_reducible rfl))
             (try simp only [Act.put, pS0, pS1, pS2])
             refine wTk (i := 8) (oi := ⟨some 71, _, _, _, _, _⟩) (v := ?_) rfl ⟨by kernel_rfl, ?_⟩ (by assumption) ?_
             rotate_left
             · (intro wS hSw; (try dsimp only at hSw); go_simp; (try with_reducible rfl))
             (try simp only [Act.put, pS0, pS1, pS2])
             refine wTk (i := 9) (oi := ⟨some 72, _, _, _, _, _⟩) (v := ?_) rfl ⟨by kernel_rfl, ?_⟩ (by assumption) ?_
             rotate_left
             · (intro wS hSw; (try dsimp only at hSw); go_simp; (try with_reducible rfl))
             (try simp only [Act.put, pS0, pS1, pS2])
             refine wTk (i := 10) (oi := ⟨some 73, _, _, _, _, _⟩) (v := ?_) rfl ⟨by kernel_rfl, ?_⟩ (by assumption) ?_
             rotate_left
             · (intro wS hSw; (try dsimp only at hSw); go_simp; (try with_reducible rfl))
             (try simp only [Act.put, pS0, pS1, pS2])
             refine wR1 (i := 6) (o := ⟨some 69, _, _, _, _, _⟩) rfl (fun K hK => ?_)
             go_simp
             refine hK.out _ _ ?_ (fun hHeld => ?_)
             · ((try dsimp only); ((try trivial)))
             clear hK K
             (try simp only [Act.put, pS0, pS1, pS2])
             refine wR1 (i := 7) (o := ⟨some 70, _, _, _, _, _⟩) rfl (fun K hK => ?_)
             go_simp
             (refine (Put_any A1 c1 m (some ⟨w4.heap.size, 0, none⟩) 3 [0, d.length, s] _ (by omega) ?_ ?_ (by simp) ?_).mono ?_; exact (ho4.below (below_new w4 (.cells #[.int .u64 0, .int .u64 (d.length : Int), .int .u64 (s : Int)] 138))).sl; exact Sl.lits w4 [nv 0, nv d.length, nv s] 138 (by simp [maxLen]); (intro z hz; simp at hz; rcases hz with rfl | rfl | rfl; (unfold U64; omega); exact hu; exact hu2); rintro e w5 ⟨A5, c5, m5, rfl, hm5, ho5, hb5⟩; have hml5 : m5.length ≤ m.length + 30 := (by have h1 := vb_le10 hu; have h2 := vb_le10 hu2; have h3 : (vb 0).length ≤ 10 := vb_le10 (by omega); rw [hm5.out]; simp [vbs]; omega))
             go_wp2_with fail
             refine hK.out _ _ ?_ (fun hHeld => ?_)
             · ((try dsimp only); ((try trivial)))
             clear hK K
             (try simp only [Act.put, pS0, pS1, pS2])
             refine wR1 (i := 11) (o := ⟨some 74, _, _, _, _, _⟩) rfl (fun K hK => ?_)
             (refine step_bytes 52 5 Tryz.underlying52 u8_info (by kernel_rfl) (.tmp 70) (.tmp 73) rfl (w4.heap.size + 1) A5 c5 m5 rfl ?_ (Ax) (0) (d.length - s) (d.drop s) ?_ ?_ ?_ ?_ ?_ ?_; exact Own.more ho5 (by simp); exact HDL.out.symm; rfl; exact (hdcut.below (below_new w4 (.cells #[.int .u64 0, .int .u64 (d.length : Int), .int .u64 (s : Int)] 138)).drew).below hb5; (rw [HDL.out]; omega); (have := hb5.size; simp at this; omega); intro A6 c6 m6 w6 hm6 ho6 hb6)
             refine hK.out _ _ ?_ (fun hHeld => ?_)
             · ((try dsimp only); ((try trivial)))
             clear hK K
             (try simp only [Act.put, pS0, pS1, pS2])
             refine wTk (i := 12) (oi := ⟨some 9, _, _, _, _, _⟩) (v := ?_) rfl ⟨by kernel_rfl, ?_⟩ (by assumption) ?_
             rotate_left
             · (intro wS hSw; (try dsimp only at hSw); go_simp; (try with_reducible rfl))
             (try simp only [Act.put, pS0, pS1, pS2])
             refine wpAnyH_done (by kernel_rfl) ?_ _
             go_wp2_with fail
             refine wp_region_held_drew (S := (fun W => True)) (by kernel_rfl) ?_ (fun hHeld => ?_)
             · (try trivial)
             refine wTk (i := 0) (oi := ⟨some 75, _, _, _, _, _⟩) (v := ?_) rfl ⟨by kernel_rfl, ?_⟩ (by assumption) ?_
             rotate_left
             · (intro wS hSw; (try dsimp only at hSw); go_simp; (try with_reducible rfl))
             (try simp only [Act.put, pS0, pS1, pS2])
             refine wTk (i := 1) (oi := ⟨some 76, _, _, _, _, _⟩) (v := ?_) rfl ⟨by kernel_rfl, ?_⟩ (by assumption) ?_
             rotate_left
             · (intro wS hSw; (try dsimp only at hSw); go_simp; (try with_reducible rfl))
             (try simp only [Act.put, pS0, pS1, pS2])
             refine wTk (i := 2) (oi := ⟨some 77, _, _, _, _, _⟩) (v := ?_) rfl ⟨by kernel_rfl, ?_⟩ (by assumption) ?_
             rotate_left
             · (intro wS hSw; (try dsimp only at hSw); go_simp; (try with_reducible rfl))
             (try simp only [Act.put, pS0, pS1, pS2])
             refine wTk (i := 3) (oi := ⟨some 10, _, _, _, _, _⟩) (v := ?_) rfl ⟨by kernel_rfl, ?_⟩ (by assumption) ?_
             rotate_left
             · (intro wS hSw; (try dsimp only at hSw); go_simp; (try with_reducible rfl))
             (try simp only [Act.put, pS0, pS1, pS2])
             refine wTk (i := 4) (oi := ⟨some 1, _, _, _, _, _⟩) (v := ?_) rfl ⟨by kernel_rfl, ?_⟩ (by assumption) ?_
             rotate_left
             · (intro wS hSw; (try dsimp only at hSw); go_simp; (try with_reducible rfl))
             (try simp only [Act.put, pS0, pS1, pS2])
             refine wpAnyH_done (by kernel_rfl) ?_ _
             go_wp2_with fail
             have hX4 := ((bel_call (below_new w4 (.cells #[.int .u64 0, .int .u64 (d.length : Int), .int .u64 (s : Int)] 138)).drew hb5).trans (hb6.mono (by omega))).drew
             have hb06 := bel_call hb04 hX4
             have hL6 := hL4.below hX4
             have hcut6 := ((hcut.below hb3).below hb4).below hX4
             have ho6 := Own.more (base' := w.heap.size) ho6 (by have := hb04.size; omega)
             have hHT : Hid (l ++ (vb cs.length ++ prun [] (cs.map ceOf)) = m6 ++ prun d (rest.map ceOf)) := (show _ = _ by rw [hm6.out, hm5.out]; exact hnext.out)
             have hbnd : m6.length + 200 * rest.length ≤ l.length + 10 + 200 * cs.length := by
              have h1 := congrArg List.length hm6.out
              rw [List.length_append, HDL.out] at h1
              omega
             go_roundw
             case rel => exact ⟨rest, _, 0, A6, c6, m6, Ax, cx, d, rfl, rfl, by rw [hcs], hcut6, ho6, hL6, hHT, hrest, hres, hd64, hbnd, hb06⟩
             case measure => simp [lenOf]
           · rw [if_pos hcs, show cx - s = 0 from by omega] at hdcut
             rw [if_neg hcap] at hcut
             simp only [Option.map_some, addr_lit, Nat.one_mul] at hcut
             go_wp2_with fail
             refine wp_region_held_drew (S := (fun W => True)) (by kernel_rfl) ?_ (fun hHeld => ?_)
             · (try trivial)
             refine wTk (i := 0) (oi := ⟨some 63, _, _, _, _, _⟩) (v := ?_) rfl ⟨by kernel_rfl, ?_⟩ (by assumption) ?_
             rotate_left
             · (intro wS hSw; (try dsimp only at hSw); go_simp; (try with_reducible rfl))
             (try simp only [Act.put, pS0, pS1, pS2])
             refine wTk (i := 1) (oi := ⟨some 64, _, _, _, _, _⟩) (v := ?_) rfl ⟨by kernel_rfl, ?_⟩ (by assumption) ?_
             rotate_left
             · (intro wS hSw; (try dsimp only at hSw); go_simp; (try with_reducible rfl))
             (try simp only [Act.put, pS0, pS1, pS2])
             refine wTk (i := 2) (oi := ⟨some 65, _, _, _, _, _⟩) (v := ?_) rfl ⟨by kernel_rfl, ?_⟩ (by assumption) ?_
             rotate_left
             · (intro wS hSw; (try dsimp only at hSw); go_simp; (try with_reducible rfl))
             (try simp only [Act.put, pS0, pS1, pS2])
             refine wTk (i := 3) (oi := ⟨some 66, _, _, _, _, _⟩) (v := ?_) rfl ⟨by kernel_rfl, ?_⟩ (by assumption) ?_
             rotate_left
             · (intro wS hSw; (try dsimp only at hSw); go_simp; (try with_reducible rfl))
             (try simp only [Act.put, pS0, pS1, pS2])
             refine wTk (i := 4) (oi := ⟨some 67, _, _, _, _, _⟩) (v := ?_) rfl ⟨by kernel_rfl, ?_⟩ (by assumption) ?_
             rotate_left
             · (intro wS hSw; (try dsimp only at hSw); go_simp; (try with_reducible rfl))
             (try simp only [Act.put, pS0, pS1, pS2])
             refine wTk (i := 5) (oi := ⟨some 68, _, _, _, _, _⟩) (v := ?_) rfl ⟨by kernel_rfl, ?_⟩ (by assumption) ?_
             rotate_left
             · (intro wS hSw; (try dsimp only at hSw); go_simp; (try with_reducible rfl))
             (try simp only [Act.put, pS0, pS1, pS2])
             refine wTk (i := 8) (oi := ⟨some 71, _, _, _, _, _⟩) (v := ?_) rfl ⟨by kernel_rfl, ?_⟩ (by assumption) ?_
             rotate_left
             · (intro wS hSw; (try dsimp only at hSw); go_simp; (try with_reducible rfl))
             (try simp only [Act.put, pS0, pS1, pS2])
             refine wTk (i := 9) (oi := ⟨some 72, _, _, _, _, _⟩) (v := ?_) rfl ⟨by kernel_rfl, ?_⟩ (by assumption) ?_
             rotate_left
             · (intro wS hSw; (try dsimp only at hSw); go_simp; (try with_reducible rfl))
             (try simp only [Act.put, pS0, pS1, pS2])
             refine wTk (i := 10) (oi := ⟨some 73, _, _, _, _, _⟩) (v := ?_) rfl ⟨by kernel_rfl, ?_⟩ (by assumption) ?_
             rotate_left
             · (intro wS hSw; (try dsimp only at hSw); go_simp; (try with_reducible rfl))
             (try simp only [Act.put, pS0, pS1, pS2])
             refine wR1 (i := 6) (o := ⟨some 69, _, _, _, _, _⟩) rfl (fun K hK => ?_)
             go_simp
             refine hK.out _ _ ?_ (fun hHeld => ?_)
             · ((try dsimp only); ((try trivial)))
             clear hK K
             (try simp only [Act.put, pS0, pS1, pS2])
             refine wR1 (i := 7) (o := ⟨some 70, _, _, _, _, _⟩) rfl (fun K hK => ?_)
             go_simp
             (refine (Put_any A1 c1 m (some ⟨w4.heap.size, 0, none⟩) 3 [0, d.length, s] _ (by omega) ?_ ?_ (by simp) ?_).mono ?_; exact (ho4.below (below_new w4 (.cells #[.int .u64 0, .int .u64 (d.length : Int), .int .u64 (s : Int)] 138))).sl; exact Sl.lits w4 [nv 0, nv d.length, nv s] 138 (by simp [maxLen]); (intro z hz; simp at hz; rcases hz with rfl | rfl | rfl; (unfold U64; omega); exact hu; exact hu2); rintro e w5 ⟨A5, c5, m5, rfl, hm5, ho5, hb5⟩; have hml5 : m5.length ≤ m.length + 30 := (by have h1 := vb_le10 hu; have h2 := vb_le10 hu2; have h3 : (vb 0).length ≤ 10 := vb_le10 (by omega); rw [hm5.out]; simp [vbs]; omega))
             go_wp2_with fail
             refine hK.out _ _ ?_ (fun hHeld => ?_)
             · ((try dsimp only); ((try trivial)))
             clear hK K
             (try simp only [Act.put, pS0, pS1, pS2])
             refine wR1 (i := 11) (o := ⟨some 74, _, _, _, _, _⟩) rfl (fun K hK => ?_)
             (refine step_bytes 52 5 Tryz.underlying52 u8_info (by kernel_rfl) (.tmp 70) (.tmp 73) rfl (w4.heap.size + 1) A5 c5 m5 rfl ?_ (Ax) (0) (d.length - s) (d.drop s) ?_ ?_ ?_ ?_ ?_ ?_; exact Own.more ho5 (by simp); exact HDL.out.symm; rfl; exact (hdcut.below (below_new w4 (.cells #[.int .u64 0, .int .u64 (d.length : Int), .int .u64 (s : Int)] 138)).drew).below hb5; (rw [HDL.out]; omega); (have := hb5.size; simp at this; omega); intro A6 c6 m6 w6 hm6 ho6 hb6)
             refine hK.out _ _ ?_ (fun hHeld => ?_)
             · ((try dsimp only); ((try trivial)))
             clear hK K
             (try simp only [Act.put, pS0, pS1, pS2])
             refine wTk (i := 12) (oi := ⟨some 9, _, _, _, _, _⟩) (v := ?_) rfl ⟨by kernel_rfl, ?_⟩ (by assumption) ?_
             rotate_left
             · (intro wS hSw; (try dsimp only at hSw); go_simp; (try with_reducible rfl))
             (try simp only [Act.put, pS0, pS1, pS2])
             refine wpAnyH_done (by kernel_rfl) ?_ _
             go_wp2_with fail
             refine wp_region_held_drew (S := (fun W => True)) (by kernel_rfl) ?_ (fun hHeld => ?_)
             · (try trivial)
             refine wTk (i := 0) (oi := ⟨some 75, _, _, _, _, _⟩) (v := ?_) rfl ⟨by kernel_rfl, ?_⟩ (by assumption) ?_
             rotate_left
             · (intro wS hSw; (try dsimp only at hSw); go_simp; (try with_reducible rfl))
             (try simp only [Act.put, pS0, pS1, pS2])
             refine wTk (i := 1) (oi := ⟨some 76, _, _, _, _, _⟩) (v := ?_) rfl ⟨by kernel_rfl, ?_⟩ (by assumption) ?_
             rotate_left
             · (intro wS hSw; (try dsimp only at hSw); go_simp; (try with_reducible rfl))
             (try simp only [Act.put, pS0, pS1, pS2])
             refine wTk (i := 2) (oi := ⟨some 77, _, _, _, _, _⟩) (v := ?_) rfl ⟨by kernel_rfl, ?_⟩ (by assumption) ?_
             rotate_left
             · (intro wS hSw; (try dsimp only at hSw); go_simp; (try with_reducible rfl))
             (try simp only [Act.put, pS0, pS1, pS2])
             refine wTk (i := 3) (oi := ⟨some 10, _, _, _, _, _⟩) (v := ?_) rfl ⟨by kernel_rfl, ?_⟩ (by assumption) ?_
             rotate_left
             · (intro wS hSw; (try dsimp only at hSw); go_simp; (try with_reducible rfl))
             (try simp only [Act.put, pS0, pS1, pS2])
             refine wTk (i := 4) (oi := ⟨some 1, _, _, _, _, _⟩) (v := ?_) rfl ⟨by kernel_rfl, ?_⟩ (by assumption) ?_
             rotate_left
             · (intro wS hSw; (try dsimp only at hSw); go_simp; (try with_reducible rfl))
             (try simp only [Act.put, pS0, pS1, pS2])
             refine wpAnyH_done (by kernel_rfl) ?_ _
             go_wp2_with fail
             have hX4 := ((bel_call (below_new w4 (.cells #[.int .u64 0, .int .u64 (d.length : Int), .int .u64 (s : Int)] 138)).drew hb5).trans (hb6.mono (by omega))).drew
             have hb06 := bel_call hb04 hX4
             have hL6 := hL4.below hX4
             have hcut6 := ((hcut.below hb3).below hb4).below hX4
             have ho6 := Own.more (base' := w.heap.size) ho6 (by have := hb04.size; omega)
             have hHT : Hid (l ++ (vb cs.length ++ prun [] (cs.map ceOf)) = m6 ++ prun d (rest.map ceOf)) := (show _ = _ by rw [hm6.out, hm5.out]; exact hnext.out)
             have hbnd : m6.length + 200 * rest.length ≤ l.length + 10 + 200 * cs.length := by
              have h1 := congrArg List.length hm6.out
              rw [List.length_append, HDL.out] at h1
              omega
             go_roundw
             case rel => exact ⟨rest, _, cap1 - 1, A6, c6, m6, Ax, cx, d, rfl, rfl, by rw [hcs], hcut6, ho6, hL6, hHT, hrest, hres, hd64, hbnd, hb06⟩
             case measure => simp [lenOf]
           · rw [if_neg hcs] at hdcut
             rw [if_pos hcap, show cap1 - 1 = 0 from by omega] at hcut
             go_wp2_with fail
             refine wp_region_held_drew (S := (fun W => True)) (by kernel_rfl) ?_ (fun hHeld => ?_)
             · (try trivial)
             refine wTk (i := 0) (oi := ⟨some 63, _, _, _, _, _⟩) (v := ?_) rfl ⟨by kernel_rfl, ?_⟩ (by assumption) ?_
             rotate_left
             · (intro wS hSw; (try dsimp only at hSw); go_simp; (try with_reducible rfl))
             (try simp only [Act.put, pS0, pS1, pS2])
             refine wTk (i := 1) (oi := ⟨some 64, _, _, _, _, _⟩) (v := ?_) rfl ⟨by kernel_rfl, ?_⟩ (by assumption) ?_
             rotate_left
             · (intro wS hSw; (try dsimp only at hSw); go_simp; (try with_reducible rfl))
             (try simp only [Act.put, pS0, pS1, pS2])
             refine wTk (i := 2) (oi := ⟨some 65, _, _, _, _, _⟩) (v := ?_) rfl ⟨by kernel_rfl, ?_⟩ (by assumption) ?_
             rotate_left
             · (intro wS hSw; (try dsimp only at hSw); go_simp; (try with_reducible rfl))
             (try simp only [Act.put, pS0, pS1, pS2])
             refine wTk (i := 3) (oi := ⟨some 66, _, _, _, _, _⟩) (v := ?_) rfl ⟨by kernel_rfl, ?_⟩ (by assumption) ?_
             rotate_left
             · (intro wS hSw; (try dsimp only at hSw); go_simp; (try with_reducible rfl))
             (try simp only [Act.put, pS0, pS1, pS2])
             refine wTk (i := 4) (oi := ⟨some 67, _, _, _, _, _⟩) (v := ?_) rfl ⟨by kernel_rfl, ?_⟩ (by assumption) ?_
             rotate_left
             · (intro wS hSw; (try dsimp only at hSw); go_simp; (try with_reducible rfl))
             (try simp only [Act.put, pS0, pS1, pS2])
             refine wTk (i := 5) (oi := ⟨some 68, _, _, _, _, _⟩) (v := ?_) rfl ⟨by kernel_rfl, ?_⟩ (by assumption) ?_
             rotate_left
             · (intro wS hSw; (try dsimp only at hSw); go_simp; (try with_reducible rfl))
             (try simp only [Act.put, pS0, pS1, pS2])
             refine wTk (i := 8) (oi := ⟨some 71, _, _, _, _, _⟩) (v := ?_) rfl ⟨by kernel_rfl, ?_⟩ (by assumption) ?_
             rotate_left
             · (intro wS hSw; (try dsimp only at hSw); go_simp; (try with_reducible rfl))
             (try simp only [Act.put, pS0, pS1, pS2])
             refine wTk (i := 9) (oi := ⟨some 72, _, _, _, _, _⟩) (v := ?_) rfl ⟨by kernel_rfl, ?_⟩ (by assumption) ?_
             rotate_left
             · (intro wS hSw; (try dsimp only at hSw); go_simp; (try with_reducible rfl))
             (try simp only [Act.put, pS0, pS1, pS2])
             refine wTk (i := 10) (oi := ⟨some 73, _, _, _, _, _⟩) (v := ?_) rfl ⟨by kernel_rfl, ?_⟩ (by assumption) ?_
             rotate_left
             · (intro wS hSw; (try dsimp only at hSw); go_simp; (try with_reducible rfl))
             (try simp only [Act.put, pS0, pS1, pS2])
             refine wR1 (i := 6) (o := ⟨some 69, _, _, _, _, _⟩) rfl (fun K hK => ?_)
             go_simp
             refine hK.out _ _ ?_ (fun hHeld => ?_)
             · ((try dsimp only); ((try trivial)))
             clear hK K
             (try simp only [Act.put, pS0, pS1, pS2])
             refine wR1 (i := 7) (o := ⟨some 70, _, _, _, _, _⟩) rfl (fun K hK => ?_)
             go_simp
             (refine (Put_any A1 c1 m (some ⟨w4.heap.size, 0, none⟩) 3 [0, d.length, s] _ (by omega) ?_ ?_ (by simp) ?_).mono ?_; exact (ho4.below (below_new w4 (.cells #[.int .u64 0, .int .u64 (d.length : Int), .int .u64 (s : Int)] 138))).sl; exact Sl.lits w4 [nv 0, nv d.length, nv s] 138 (by simp [maxLen]); (intro z hz; simp at hz; rcases hz with rfl | rfl | rfl; (unfold U64; omega); exact hu; exact hu2); rintro e w5 ⟨A5, c5, m5, rfl, hm5, ho5, hb5⟩; have hml5 : m5.length ≤ m.length + 30 := (by have h1 := vb_le10 hu; have h2 := vb_le10 hu2; have h3 : (vb 0).length ≤ 10 := vb_le10 (by omega); rw [hm5.out]; simp [vbs]; omega))
             go_wp2_with fail
             refine hK.out _ _ ?_ (fun hHeld => ?_)
             · ((try dsimp only); ((try trivial)))
             clear hK K
             (try simp only [Act.put, pS0, pS1, pS2])
             refine wR1 (i := 11) (o := ⟨some 74, _, _, _, _, _⟩) rfl (fun K hK => ?_)
             (refine step_bytes 52 5 Tryz.underlying52 u8_info (by kernel_rfl) (.tmp 70) (.tmp 73) rfl (w4.heap.size + 1) A5 c5 m5 rfl ?_ (Option.map (fun x => x.add s) Ax) (cx - s) (d.length - s) (d.drop s) ?_ ?_ ?_ ?_ ?_ ?_; exact Own.more ho5 (by simp); exact HDL.out.symm; rfl; exact (hdcut.below (below_new w4 (.cells #[.int .u64 0, .int .u64 (d.length : Int), .int .u64 (s : Int)] 138)).drew).below hb5; (rw [HDL.out]; omega); (have := hb5.size; simp at this; omega); intro A6 c6 m6 w6 hm6 ho6 hb6)
             refine hK.out _ _ ?_ (fun hHeld => ?_)
             · ((try dsimp only); ((try trivial)))
             clear hK K
             (try simp only [Act.put, pS0, pS1, pS2])
             refine wTk (i := 12) (oi := ⟨some 9, _, _, _, _, _⟩) (v := ?_) rfl ⟨by kernel_rfl, ?_⟩ (by assumption) ?_
             rotate_left
             · (intro wS hSw; (try dsimp only at hSw); go_simp; (try with_reducible rfl))
             (try simp only [Act.put, pS0, pS1, pS2])
             refine wpAnyH_done (by kernel_rfl) ?_ _
             go_wp2_with fail
             refine wp_region_held_drew (S := (fun W => True)) (by kernel_rfl) ?_ (fun hHeld => ?_)
             · (try trivial)
             refine wTk (i := 0) (oi := ⟨some 75, _, _, _, _, _⟩) (v := ?_) rfl ⟨by kernel_rfl, ?_⟩ (by assumption) ?_
             rotate_left
             · (intro wS hSw; (try dsimp only at hSw); go_simp; (try with_reducible rfl))
             (try simp only [Act.put, pS0, pS1, pS2])
             refine wTk (i := 1) (oi := ⟨some 76, _, _, _, _, _⟩) (v := ?_) rfl ⟨by kernel_rfl, ?_⟩ (by assumption) ?_
             rotate_left
             · (intro wS hSw; (try dsimp only at hSw); go_simp; (try with_reducible rfl))
             (try simp only [Act.put, pS0, pS1, pS2])
             refine wTk (i := 2) (oi := ⟨some 77, _, _, _, _, _⟩) (v := ?_) rfl ⟨by kernel_rfl, ?_⟩ (by assumption) ?_
             rotate_left
             · (intro wS hSw; (try dsimp only at hSw); go_simp; (try with_reducible rfl))
             (try simp only [Act.put, pS0, pS1, pS2])
             refine wTk (i := 3) (oi := ⟨some 10, _, _, _, _, _⟩) (v := ?_) rfl ⟨by kernel_rfl, ?_⟩ (by assumption) ?_
             rotate_left
             · (intro wS hSw; (try dsimp only at hSw); go_simp; (try with_reducible rfl))
             (try simp only [Act.put, pS0, pS1, pS2])
             refine wTk (i := 4) (oi := ⟨some 1, _, _, _, _, _⟩) (v := ?_) rfl ⟨by kernel_rfl, ?_⟩ (by assumption) ?_
             rotate_left
             · (intro wS hSw; (try dsimp only at hSw); go_simp; (try with_reducible rfl))
             (try simp only [Act.put, pS0, pS1, pS2])
             refine wpAnyH_done (by kernel_rfl) ?_ _
             go_wp2_with fail
             have hX4 := ((bel_call (below_new w4 (.cells #[.int .u64 0, .int .u64 (d.length : Int), .int .u64 (s : Int)] 138)).drew hb5).trans (hb6.mono (by omega))).drew
             have hb06 := bel_call hb04 hX4
             have hL6 := hL4.below hX4
             have hcut6 := ((hcut.below hb3).below hb4).below hX4
             have ho6 := Own.more (base' := w.heap.size) ho6 (by have := hb04.size; omega)
             have hHT : Hid (l ++ (vb cs.length ++ prun [] (cs.map ceOf)) = m6 ++ prun d (rest.map ceOf)) := (show _ = _ by rw [hm6.out, hm5.out]; exact hnext.out)
             have hbnd : m6.length + 200 * rest.length ≤ l.length + 10 + 200 * cs.length := by
              have h1 := congrArg List.length hm6.out
              rw [List.length_append, HDL.out] at h1
              omega
             go_roundw
             case rel => exact ⟨rest, _, 0, A6, c6, m6, Ax, cx, d, rfl, rfl, rfl, hcut6, ho6, hL6, hHT, hrest, hres, hd64, hbnd, hb06⟩
             case measure => simp [lenOf]
           · rw [if_neg hcs] at hdcut
             rw [if_neg hcap] at hcut
             simp only [Option.map_some, addr_lit, Nat.one_mul] at hcut
             go_wp2_with fail
             refine wp_region_held_drew (S := (fun W => True)) (by kernel_rfl) ?_ (fun hHeld => ?_)
             · (try trivial)
             refine wTk (i := 0) (oi := ⟨some 63, _, _, _, _, _⟩) (v := ?_) rfl ⟨by kernel_rfl, ?_⟩ (by assumption) ?_
             rotate_left
             · (intro wS hSw; (try dsimp only at hSw); go_simp; (try with_reducible rfl))
             (try simp only [Act.put, pS0, pS1, pS2])
             refine wTk (i := 1) (oi := ⟨some 64, _, _, _, _, _⟩) (v := ?_) rfl ⟨by kernel_rfl, ?_⟩ (by assumption) ?_
             rotate_left
             · (intro wS hSw; (try dsimp only at hSw); go_simp; (try with_reducible rfl))
             (try simp only [Act.put, pS0, pS1, pS2])
             refine wTk (i := 2) (oi := ⟨some 65, _, _, _, _, _⟩) (v := ?_) rfl ⟨by kernel_rfl, ?_⟩ (by assumption) ?_
             rotate_left
             · (intro wS hSw; (try dsimp only at hSw); go_simp; (try with_reducible rfl))
             (try simp only [Act.put, pS0, pS1, pS2])
             refine wTk (i := 3) (oi := ⟨some 66, _, _, _, _, _⟩) (v := ?_) rfl ⟨by kernel_rfl, ?_⟩ (by assumption) ?_
             rotate_left
             · (intro wS hSw; (try dsimp only at hSw); go_simp; (try with_reducible rfl))
             (try simp only [Act.put, pS0, pS1, pS2])
             refine wTk (i := 4) (oi := ⟨some 67, _, _, _, _, _⟩) (v := ?_) rfl ⟨by kernel_rfl, ?_⟩ (by assumption) ?_
             rotate_left
             · (intro wS hSw; (try dsimp only at hSw); go_simp; (try with_reducible rfl))
             (try simp only [Act.put, pS0, pS1, pS2])
             refine wTk (i := 5) (oi := ⟨some 68, _, _, _, _, _⟩) (v := ?_) rfl ⟨by kernel_rfl, ?_⟩ (by assumption) ?_
             rotate_left
             · (intro wS hSw; (try dsimp only at hSw); go_simp; (try with_reducible rfl))
             (try simp only [Act.put, pS0, pS1, pS2])
             refine wTk (i := 8) (oi := ⟨some 71, _, _, _, _, _⟩) (v := ?_) rfl ⟨by kernel_rfl, ?_⟩ (by assumption) ?_
             rotate_left
             · (intro wS hSw; (try dsimp only at hSw); go_simp; (try with_reducible rfl))
             (try simp only [Act.put, pS0, pS1, pS2])
             refine wTk (i := 9) (oi := ⟨some 72, _, _, _, _, _⟩) (v := ?_) rfl ⟨by kernel_rfl, ?_⟩ (by assumption) ?_
             rotate_left
             · (intro wS hSw; (try dsimp only at hSw); go_simp; (try with_reducible rfl))
             (try simp only [Act.put, pS0, pS1, pS2])
             refine wTk (i := 10) (oi := ⟨some 73, _, _, _, _, _⟩) (v := ?_) rfl ⟨by kernel_rfl, ?_⟩ (by assumption) ?_
             rotate_left
             · (intro wS hSw; (try dsimp only at hSw); go_simp; (try with_reducible rfl))
             (try simp only [Act.put, pS0, pS1, pS2])
             refine wR1 (i := 6) (o := ⟨some 69, _, _, _, _, _⟩) rfl (fun K hK => ?_)
             go_simp
             refine hK.out _ _ ?_ (fun hHeld => ?_)
             · ((try dsimp only); ((try trivial)))
             clear hK K
             (try simp only [Act.put, pS0, pS1, pS2])
             refine wR1 (i := 7) (o := ⟨some 70, _, _, _, _, _⟩) rfl (fun K hK => ?_)
             go_simp
             (refine (Put_any A1 c1 m (some ⟨w4.heap.size, 0, none⟩) 3 [0, d.length, s] _ (by omega) ?_ ?_ (by simp) ?_).mono ?_; exact (ho4.below (below_new w4 (.cells #[.int .u64 0, .int .u64 (d.length : Int), .int .u64 (s : Int)] 138))).sl; exact Sl.lits w4 [nv 0, nv d.length, nv s] 138 (by simp [maxLen]); (intro z hz; simp at hz; rcases hz with rfl | rfl | rfl; (unfold U64; omega); exact hu; exact hu2); rintro e w5 ⟨A5, c5, m5, rfl, hm5, ho5, hb5⟩; have hml5 : m5.length ≤ m.length + 30 := (by have h1 := vb_le10 hu; have h2 := vb_le10 hu2; have h3 : (vb 0).length ≤ 10 := vb_le10 (by omega); rw [hm5.out]; simp [vbs]; omega))
             go_wp2_with fail
             refine hK.out _ _ ?_ (fun hHeld => ?_)
             · ((try dsimp only); ((try trivial)))
             clear hK K
             (try simp only [Act.put, pS0, pS1, pS2])
             refine wR1 (i := 11) (o := ⟨some 74, _, _, _, _, _⟩) rfl (fun K hK => ?_)
             (refine step_bytes 52 5 Tryz.underlying52 u8_info (by kernel_rfl) (.tmp 70) (.tmp 73) rfl (w4.heap.size + 1) A5 c5 m5 rfl ?_ (Option.map (fun x => x.add s) Ax) (cx - s) (d.length - s) (d.drop s) ?_ ?_ ?_ ?_ ?_ ?_; exact Own.more ho5 (by simp); exact HDL.out.symm; rfl; exact (hdcut.below (below_new w4 (.cells #[.int .u64 0, .int .u64 (d.length : Int), .int .u64 (s : Int)] 138)).drew).below hb5; (rw [HDL.out]; omega); (have := hb5.size; simp at this; omega); intro A6 c6 m6 w6 hm6 ho6 hb6)
             refine hK.out _ _ ?_ (fun hHeld => ?_)
             · ((try dsimp only); ((try trivial)))
             clear hK K
             (try simp only [Act.put, pS0, pS1, pS2])
             refine wTk (i := 12) (oi := ⟨some 9, _, _, _, _, _⟩) (v := ?_) rfl ⟨by kernel_rfl, ?_⟩ (by assumption) ?_
             rotate_left
             · (intro wS hSw; (try dsimp only at hSw); go_simp; (try with_reducible rfl))
             (try simp only [Act.put, pS0, pS1, pS2])
             refine wpAnyH_done (by kernel_rfl) ?_ _
             go_wp2_with fail
             refine wp_region_held_drew (S := (fun W => True)) (by kernel_rfl) ?_ (fun hHeld => ?_)
             · (try trivial)
             refine wTk (i := 0) (oi := ⟨some 75, _, _, _, _, _⟩) (v := ?_) rfl ⟨by kernel_rfl, ?_⟩ (by assumption) ?_
             rotate_left
             · (intro wS hSw; (try dsimp only at hSw); go_simp; (try with_reducible rfl))
             (try simp only [Act.put, pS0, pS1, pS2])
             refine wTk (i := 1) (oi := ⟨some 76, _, _, _, _, _⟩) (v := ?_) rfl ⟨by kernel_rfl, ?_⟩ (by assumption) ?_
             rotate_left
             · (intro wS hSw; (try dsimp only at hSw); go_simp; (try with_reducible rfl))
             (try simp only [Act.put, pS0, pS1, pS2])
             refine wTk (i := 2) (oi := ⟨some 77, _, _, _, _, _⟩) (v := ?_) rfl ⟨by kernel_rfl, ?_⟩ (by assumption) ?_
             rotate_left
             · (intro wS hSw; (try dsimp only at hSw); go_simp; (try with_reducible rfl))
             (try simp only [Act.put, pS0, pS1, pS2])
             refine wTk (i := 3) (oi := ⟨some 10, _, _, _, _, _⟩) (v := ?_) rfl ⟨by kernel_rfl, ?_⟩ (by assumption) ?_
             rotate_left
             · (intro wS hSw; (try dsimp only at hSw); go_simp; (try with_reducible rfl))
             (try simp only [Act.put, pS0, pS1, pS2])
             refine wTk (i := 4) (oi := ⟨some 1, _, _, _, _, _⟩) (v := ?_) rfl ⟨by kernel_rfl, ?_⟩ (by assumption) ?_
             rotate_left
             · (intro wS hSw; (try dsimp only at hSw); go_simp; (try with_reducible rfl))
             (try simp only [Act.put, pS0, pS1, pS2])
             refine wpAnyH_done (by kernel_rfl) ?_ _
             go_wp2_with fail
             have hX4 := ((bel_call (below_new w4 (.cells #[.int .u64 0, .int .u64 (d.length : Int), .int .u64 (s : Int)] 138)).drew hb5).trans (hb6.mono (by omega))).drew
             have hb06 := bel_call hb04 hX4
             have hL6 := hL4.below hX4
             have hcut6 := ((hcut.below hb3).below hb4).below hX4
             have ho6 := Own.more (base' := w.heap.size) ho6 (by have := hb04.size; omega)
             have hHT : Hid (l ++ (vb cs.length ++ prun [] (cs.map ceOf)) = m6 ++ prun d (rest.map ceOf)) := (show _ = _ by rw [hm6.out, hm5.out]; exact hnext.out)
             have hbnd : m6.length + 200 * rest.length ≤ l.length + 10 + 200 * cs.length := by
              have h1 := congrArg List.length hm6.out
              rw [List.length_append, HDL.out] at h1
              omega
             go_roundw
             case rel => exact ⟨rest, _, cap1 - 1, A6, c6, m6, Ax, cx, d, rfl, rfl, rfl, hcut6, ho6, hL6, hHT, hrest, hres, hd64, hbnd, hb06⟩
             case measure => simp [lenOf]
         · have hrp : 0 < rowN (((kk, Ax, cx, d) :: rest).map ceOf) := by
            have := (rowN_zero (c := (kk, d)) (r := rest.map ceOf))
            simp only [List.map_cons, ceOf] at this ⊢
            omega
           have hpr := prun_row (last := ld) hrp
           have hdrop := fun k => (List.map_drop (f := ceOf) (i := k) (l := (kk, Ax, cx, d) :: rest))
           have hnext : Hid (l ++ (vb cs.length ++ prun [] (cs.map ceOf)) = m ++ vbs [rowN (((kk, Ax, cx, d) :: rest).map ceOf), kk.toNat] ++ prun ld ((((kk, Ax, cx, d) :: rest).drop (rowN (((kk, Ax, cx, d) :: rest).map ceOf))).map ceOf)) := (show _ = _ by
            obtain ⟨k, ⟨r, dd, hkr⟩, hpr⟩ := hpr
            simp only [List.map_cons, ceOf, List.cons.injEq, Prod.mk.injEq] at hkr
            obtain ⟨⟨rfl, _⟩, _⟩ := hkr
            rw [htot.out, hpr, List.map_drop]
            simp [vbs])
           have hrest : Hid (∀ n, ∀ c ∈ (((kk, Ax, cx, d) :: rest).drop n).map ceOf, cchk c = 0) := (show ∀ _, _ from fun n c hc => hok1.out c (by
            rw [List.map_drop] at hc
            exact List.mem_of_mem_drop hc))
           have HR := Lib.hid hrow
           obtain ⟨kn, rfl⟩ : ∃ kn : Nat, kk = (kn : Int) := ⟨kk.toNat, by omega⟩
           have hkn : kn ≤ 3 := by omega
           rw [Int.toNat_natCast] at hnext
           generalize rowN ((((kn : Int), Ax, cx, d) :: rest).map ceOf) = n at *
           clear hpr hdrop hrow hk1 htot hok1
           generalize hll : ((kn : Int), Ax, cx, d) :: rest = ll at *
           have hl0 : 0 < ll.length := by rw [← hll]; simp
           have hlk : (ll[0]'hl0).1 = (kn : Int) := by subst hll; rfl
           have HLL := Lib.hid hll
           have HLK := Lib.hid hlk
           clear hll hlk
           have hu : U64 n := by unfold U64; omega
           have hu2 : U64 kn := by unfold U64; omega
           have hwn := wrap_u64_of hu
           have hwk := wrap_u64_of hu2
           have hnn : n ≤ 64 := by omega
           go_wp2_with fail
           refine HR.out.mono ?_
           rintro e w3 ⟨rfl, hb3⟩
           have hC3 := hC1.below hb3
           have hb03 := bel_call hbq hb3
           obtain ⟨ad0, b, o, hE, had0, hc0, _, _⟩ := hC3.at2 (k := 0) hl0
           injection hE with hE
           subst hE
           rw [addr_lit] at had0
           injection had0 with e1 e2
           subst e1
           simp only [Nat.zero_mul, Nat.add_zero] at e2
           subst e2
           rw [HLK.out] at hc0
           go_wp2_with fail
           refine (Put_any A1 c1 m (some ⟨w3.heap.size, 0, none⟩) 2 [n, kn] _ (by omega) ((ho1.sl.below hb3).below (below_new _ _)) (Sl.lits w3 [nv n, nv kn] 138 (by simp [maxLen])) (by simp) (by intro z hz; simp at hz; rcases hz with rfl | rfl; exact hu; exact hu2)).mono ?_
           rintro e w4 ⟨A4, c4, m4, rfl, hm4, ho4, hb4⟩
           have hb04 := bel_call (bel_alloc hb03 (.cells #[.int .u64 (n : Int), .int .u64 (kn : Int)] 138)) hb4
           have hC4 := (hC3.below (below_new w3 (.cells #[.int .u64 (n : Int), .int .u64 (kn : Int)] 138))).below hb4
           have hL4 := ((hL1.below hb3).below (below_new w3 (.cells #[.int .u64 (n : Int), .int .u64 (kn : Int)] 138))).below hb4
           have hml4 : m4.length ≤ m.length + 20 := by
            have := vb_le10 hu
            have := vb_le10 hu2
            rw [hm4.out]
            simp [vbs]
            omega
           have ho4' := ho4.more (base' := w.heap.size) (by have := hb03.size; simp; omega)
           have hcut := hC4.cut (k := n) hrl
           have hln : (ll.drop n).length = ll.length - n := by simp
           have hcl := hC4.1.2.1
           have hcx := hC4.1.2.2.1
           unfold maxLen at hcx
           have hHT : Hid (l ++ (vb cs.length ++ prun [] (cs.map ceOf)) = m4 ++ prun ld ((ll.drop n).map ceOf)) := (show _ = _ by rw [hm4.out]; exact hnext.out)
           have HLN := Lib.hid hln
           have HO := hrest.out n
           have HO := Lib.hid HO
           have hll64 : (ll.drop n).length ≤ 64 := by rw [hln]; omega
           have hbnd : m4.length + 200 * (ll.drop n).length ≤ l.length + 10 + 200 * cs.length := by rw [hln]; omega
           by_cases hcap : cap1 = n
           · rw [if_pos hcap] at hcut
             have hc0' : cap1 - n = 0 := by omega
             rw [hc0'] at hcut
             clear hln hc0'
             go_wp2_with fail
             go_roundw
             case rel => exact ⟨ll.drop n, _, 0, A4, c4, m4, L, cL, ld, by rw [HLN.out], rfl, rfl, hcut, ho4', hL4, hHT, HO.out, hll64, hld, hbnd, hb04⟩
             case measure => simp only [lenOf]; omega
           · rw [if_neg hcap] at hcut
             simp only [Option.map_some, addr_lit] at hcut
             clear hln
             go_wp2_with fail
             go_roundw
             case rel => exact ⟨ll.drop n, _, cap1 - n, A4, c4, m4, L, cL, ld, by rw [HLN.out], rfl, rfl, hcut, ho4', hL4, hHT, HO.out, hll64, hld, hbnd, hb04⟩
             case measure => simp only [lenOf]; omega
end
section
open Go.ChangeShapes Go.WideShapes Go.ChangeAt Go.RowKit
attribute [local go_sem ↓] Go.wp_at_zero Go.wp_at_succ
theorem Sl.litsS (w : World) (size n : Nat) (cs : List Value) (t : TypeId) (hl : cs.length = n * size) (h : n ≤ maxLen) : Sl (w.alloc (.cells cs.toArray t)) size (some ⟨w.heap.size, 0, none⟩) n n cs :=
 ⟨hl, by omega, h, (fun h => by cases h), fun j u hj => ⟨_, rfl, by
  rw [addr_lit, cell_of_row _ _ _ _ t (0, 0) (heap_alloc_new w _)]
  simpa using hj⟩⟩
theorem six {w : World} {g1 g2 g3 : Nat} {t : TypeId} {a b c d e f : Value} (h1 : Blk w g1 t #[a, b]) (h2 : Blk w g2 t #[c, d]) (h3 : Blk w g3 t #[e, f]) :
 w.cell? ⟨g1, 0, none⟩ = some a ∧ w.cell? ⟨g1, 1, none⟩ = some b ∧ w.cell? ⟨g2, 0, none⟩ = some c ∧ w.cell? ⟨g2, 1, none⟩ = some d ∧ w.cell? ⟨g3, 0, none⟩ = some e ∧ w.cell? ⟨g3, 1, none⟩ = some f :=
 ⟨h1.cell 0, h1.cell 1, h2.cell 0, h2.cell 1, h3.cell 0, h3.cell 1⟩
theorem cell_info : (Tryz.prog.info? 54).map (fun i => (i.zero, i.size, i.bytes)) = some (some (.agg #[.int .i64 0, .slice none 0 0]), 2, 32) := by kernel_rfl
end
section
open Go.RowKit
attribute [local go_sem ↓] Go.wp_at_zero Go.wp_at_succ
end
section
open Go.ChangeShapes Go.WideShapes Go.ChangeAt Go.RowKit Go.Deep
section
variable {H : Type} {enc : TypeId × Value → H} {P : Program} {w : World} {base b0 : Nat} {held : Bool} {r : Reach} {t e b : TypeId} {v : Value} {d : DataW H} {p : List MemPlace}
theorem bytes_cell {n : Nat} {y : DataW H × List MemPlace} (ht : P.underlying t = some (.slice e)) (he : P.underlying e = some (.int .u8)) (hC : P.cellsOf e = 1) (h : DataW.trod enc P w base (fun _ => true) held n t [v] = some y) :
 ∃ (A : Option Addr) (c : Nat) (l : List UInt8), v = .slice A l.length c ∧ SlB w A c l := by
 rcases open_ints ht he hC h with ⟨hcs, _⟩ | ⟨x, l, c', zs, hcs, _, hl, hm, hz, _, hcell, hwz⟩
 · simp at hcs
   subst hcs
   exact ⟨none, 0, [], rfl, Sl.none_ _ _⟩
 · simp at hcs
   subst hcs
   simp only [if_true] at hz
   have hs := row_reads hl hm hz hcell
   have hw : ∀ z ∈ zs.take l, (Lit.int .u8 z).wf = true := fun z hz => hwz z (List.mem_of_mem_take hz)
   have hm : (zs.take l).map (Value.int .u8) = bvs ((zs.take l).map fun z => UInt8.ofNat z.toNat) := by
    rw [bvs, List.map_map]
    refine List.map_congr_left fun z hz => ?_
    have hb := bounds_u8 (hw z hz)
    simp only [Function.comp, bv, UInt8.toNat_ofNat']
    congr 1
    omega
   rw [hm] at hs
   have hlen : ((zs.take l).map fun z => UInt8.ofNat z.toNat).length = l := by simp; omega
   refine ⟨some x, c', (zs.take l).map fun z => UInt8.ofNat z.toNat, by rw [hlen], ?_⟩
   show Sl w 1 _ (List.map _ _).length c' _
   rw [hlen]
   exact hs
end
end
section
open Go.ChangeShapes Go.WideShapes Go.ChangeAt Go.RowKit
attribute [local go_sem ↓] Go.wp_at_zero Go.wp_at_succ
theorem rchk_zero : ∀ {l : List Ce}, rchk l = 0 → ∀ c ∈ l, cchk c = 0
 | [], _, c, hc => by simp at hc
 | x :: l, h, c, hc => by
  by_cases hx : cchk x = 0
  · have h2 : rchk l = 0 := by simpa [rchk, hx] using h
    rcases List.mem_cons.mp hc with rfl | hc
    · exact hx
    · exact rchk_zero h2 c hc
  · simp [rchk, hx] at h
theorem rgo_len : ∀ (l : List Ce) (prev : Option Int) (last : List UInt8), (∀ c ∈ l, cchk c = 0) → (rgo prev last l).length ≤ 100 * l.length
 | [], _, _, _ => by rw [rgo]; simp
 | c :: r, prev, last, h => by
  have hc := (cchk_ok (h c (by simp))).2.2.1
  have hr := fun prev last => rgo_len r prev last (fun c hc => h c (by simp [hc]))
  rw [rgo]
  simp only [List.length_cons]
  split
  · have := hr (some 1) c.2
    simp
    omega
  · split
    · have := hr (some c.1) last
      omega
    · have := hr (some c.1) last
      simp
      omega
namespace CellRuns
end CellRuns
end
section
open Go.RowKit
abbrev Sg := Int × List Ce
def schk (s : Sg) : Nat := if s.1 < 0 ∨ 1048576 < s.1 then 1 else if 64 < s.2.length then 3 else if 1048576 < s.1 + s.2.length then 1 else rchk s.2
theorem schk_ok {s : Sg} (h : schk s = 0) : 0 ≤ s.1 ∧ s.1 ≤ 1048576 ∧ s.2.length ≤ 64 ∧ s.1 + s.2.length ≤ 1048576 ∧ rchk s.2 = 0 := by
 unfold schk at h
 by_cases h1 : s.1 < 0 ∨ 1048576 < s.1
 · rw [if_pos h1] at h; simp at h
 rw [if_neg h1] at h
 by_cases h2 : 64 < s.2.length
 · rw [if_pos h2] at h; simp at h
 rw [if_neg h2] at h
 by_cases h3 : 1048576 < s.1 + s.2.length
 · rw [if_pos h3] at h; simp at h
 rw [if_neg h3] at h
 exact ⟨by omega, by omega, by omega, by omega, h⟩
theorem schk_range {s : Sg} (h : s.1 < 0 ∨ 1048576 < s.1) : schk s = 1 := by unfold schk; rw [if_pos h]
theorem schk_long {s : Sg} (h : ¬ (s.1 < 0 ∨ 1048576 < s.1)) (h2 : 64 < s.2.length) : schk s = 3 := by unfold schk; rw [if_neg h, if_pos h2]
theorem schk_far {s : Sg} (h : ¬ (s.1 < 0 ∨ 1048576 < s.1)) (h2 : ¬ 64 < s.2.length) (h3 : 1048576 < s.1 + s.2.length) : schk s = 1 := by unfold schk; rw [if_neg h, if_neg h2, if_pos h3]
theorem schk_cells {s : Sg} (h : ¬ (s.1 < 0 ∨ 1048576 < s.1)) (h2 : ¬ 64 < s.2.length) (h3 : ¬ 1048576 < s.1 + s.2.length) : schk s = rchk s.2 := by unfold schk; rw [if_neg h, if_neg h2, if_neg h3]
end
end Go.Proofs.YtajfnmohlnkncaaGreatDoor
