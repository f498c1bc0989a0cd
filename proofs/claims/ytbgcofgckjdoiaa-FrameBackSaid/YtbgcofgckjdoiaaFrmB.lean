/- WHAT IT HOLDS: the law FrameBack, plainly and walked. -/
import Derived.Test.YtbgcofgckjdoiaaFrmT
namespace Go.Proofs.Ytbgcofgckjdoiaa
open Go.RowKit
attribute [local go_sem ↓] Go.wp_at_zero Go.wp_at_succ

/-- how many frames of the texts are whole among the first k bytes -/
def wh : Nat → List (List UInt8) → Nat
  | _, [] => 0
  | k, t :: r => if (frm t).length ≤ k then 1 + wh (k - (frm t).length) r else 0
theorem ftake_cut {t : List UInt8} (ht : t.length ≤ 65536) {k : Nat} (hk : k < (frm t).length) : (ftake ((frm t).take k)).2.2 ≠ 0 := by
  intro h
  have hl : ((frm t).take k).length = k := by simp; omega
  have hs : (frm t).take k ++ (frm t).drop k = frm t := List.take_append_drop _ _
  generalize (frm t).take k = l at *
  unfold ftake at h
  split at h
  · simp at h
  · rename_i n e hv
    obtain ⟨hu, he, hte⟩ := take_some hv
    have hsp : vb n ++ (l.drop e ++ (frm t).drop k) = vb t.length ++ (t ++ four (sumW (txb t))) := by
      rw [← List.append_assoc, ← hte, List.take_append_drop, hs]
      unfold frm txb
      rw [List.append_assoc]
    obtain ⟨rfl, -⟩ := vb_append_inj hu (by unfold U64; omega) hsp
    have hel := take_len hv
    have hfl := frm_len t
    rw [if_neg (by omega), if_pos (by omega)] at h
    simp at h
theorem frms_cons (t : List UInt8) (r : List (List UInt8)) : frms (t :: r) = frm t ++ frms r := by unfold frms; rw [List.flatMap_cons]
theorem fpre_frms {ts : List (List UInt8)} (h : ∀ t ∈ ts, t.length ≤ 65536) (k : Nat) : fpre ((frms ts).take k) = (ts.take (wh k ts), (frms (ts.take (wh k ts))).length) := by
  induction ts generalizing k with
  | nil => rw [show (frms []).take k = [] from by simp [frms], fpre_bad (fun h => by have := ftake_ok h; simp at this; omega)]; simp [frms, wh]
  | cons t r ih =>
    have ht := h t (by simp)
    rw [frms_cons]
    by_cases hk : (frm t).length ≤ k
    · have e1 : (frm t ++ frms r).take k = frm t ++ (frms r).take (k - (frm t).length) := by rw [List.take_append, List.take_of_length_le hk]
      have hf := ftake_frm t ((frms r).take (k - (frm t).length)) ht
      have h0 : (ftake (frm t ++ (frms r).take (k - (frm t).length))).2.2 = 0 := by rw [hf]
      rw [e1, fpre_ok h0, hf]
      dsimp only
      rw [List.drop_left, ih (fun q hq => h q (by simp [hq]))]
      rw [show wh k (t :: r) = 1 + wh (k - (frm t).length) r from by rw [wh, if_pos hk], Nat.add_comm 1, List.take_succ_cons, frms_cons, List.length_append]
    · have e1 : (frm t ++ frms r).take k = (frm t).take k := by rw [List.take_append_of_le_length (by omega)]
      rw [e1, fpre_bad (ftake_cut ht (by omega)), show wh k (t :: r) = 0 from by rw [wh, if_neg hk]]
      simp [frms]
theorem wh_all (ts : List (List UInt8)) {k : Nat} (h : (frms ts).length ≤ k) : wh k ts = ts.length := by
  induction ts generalizing k with
  | nil => rfl
  | cons t r ih =>
    rw [frms_cons, List.length_append] at h
    rw [wh, if_pos (by omega), ih (by omega), List.length_cons, Nat.add_comm]
theorem fpre_whole {ts : List (List UInt8)} (h : ∀ t ∈ ts, t.length ≤ 65536) : fpre (frms ts) = (ts, (frms ts).length) := by
  have := fpre_frms h (frms ts).length
  rwa [List.take_of_length_le (Nat.le_refl _), wh_all ts (Nat.le_refl _), List.take_of_length_le (Nat.le_refl _)] at this
theorem fall_whole {ts : List (List UInt8)} (h : ∀ t ∈ ts, t.length ≤ 65536) : fall (frms ts) = ts ∧ fbad (frms ts) = 0 := by
  unfold fall fbad
  rw [fpre_whole h]
  exact ⟨if_pos rfl, if_pos rfl⟩
theorem wh_step {ts : List (List UInt8)} {n k : Nat} (hn : n < ts.length) (h : wh k ts = n + wh (k - (frms (ts.take n)).length) (ts.drop n)) (hle : (frms (ts.take n)).length + (frm ts[n]).length ≤ k) :
    wh k ts = n + 1 + wh (k - (frms (ts.take (n + 1))).length) (ts.drop (n + 1)) := by
  rw [h, List.drop_eq_getElem_cons hn, wh, if_pos (by omega), frms_snoc hn, List.length_append, Nat.sub_sub]
  omega
theorem wh_stop {ts : List (List UInt8)} {n k : Nat} (h : wh k ts = n + wh (k - (frms (ts.take n)).length) (ts.drop n)) (hs : ts.length ≤ n ∨ ∃ hn : n < ts.length, k < (frms (ts.take n)).length + (frm ts[n]).length) (hle : (frms (ts.take n)).length ≤ k) : wh k ts = n := by
  rw [h]
  rcases hs with hs | ⟨hn, hs⟩
  · rw [List.drop_of_length_le hs]; rfl
  · rw [List.drop_eq_getElem_cons hn, wh, if_neg (by omega)]; rfl
theorem FPrefix_len (A : Option Addr) (c k : Nat) (l : List UInt8) (w : World) (hk : k = l.length) (hs : SlB w A c l) (hl : l.length ≤ 1000000) :
    Calls Try.prog 57 #[.slice A k c] w (PreB w (fpre l)) := by subst hk; exact FPrefix_any A c l w hs hl
theorem lists_len (A : Option Addr) (c : Nat) (ps : List Pt) (B : Option Addr) (d k : Nat) (qs : List Pt) (w : World) (hk : k = qs.length) (hA : SlT w A c ps) (ha : ∀ x ∈ ps, SlB w x.1 x.2.1 x.2.2) (hB : SlT w B d qs) (hb : ∀ x ∈ qs, SlB w x.1 x.2.1 x.2.2) :
    Calls Try.prog 60 #[.slice A ps.length c, .slice B k d] w fun e w' => e = .returned (.bool (decide (ptx ps = ptx qs))) ∧ Below w.heap.size w w' := by
  subst hk; exact lists_any A c ps B d qs w hA ha hB hb
theorem ptx_take (ps : List Pt) (n : Nat) : ptx (ps.take n) = (ptx ps).take n := by unfold ptx; rw [List.map_take]

set_option maxRecDepth 100000 in
set_option maxHeartbeats 4000000 in
theorem fback_walk {A : Option Addr} {c : Nat} {ps : List Pt} {a : Int} (w : World) (hA : SlT w A c ps) (ha : ∀ x ∈ ps, SlB w x.1 x.2.1 x.2.2) (h1 : ps.length ≤ 20) :
    Calls Try.prog 15 #[.slice A ps.length c, .int .i64 a] w fun e w' => e = .returned (.bool true) ∧ Below w.heap.size w w' := by
  have k1 : ¬ (20 < (ps.length : Int)) := by omega
  have HA0 := Lib.hid ha
  clear ha
  go_enter Try.func15, Try.ntmps15
  go_wp2_with fail
  refine (alive04_any _).mono ?_
  rintro e w1 ⟨rfl, hb1⟩
  go_wp2_with fail
  have hA1 := hA.below hb1
  have HA := Lib.hid (fun (x : Pt) (hx : x ∈ ps) => (HA0.out x hx).below hb1)
  go_loopw [25] (fun i wr => ∃ k : Nat, k ≤ ps.length ∧ i = .int .i64 k ∧ Hid (∀ t ∈ (ptx ps).take k, t.length ≤ 300) ∧ w1 = wr) (fun i w => ps.length - (intOf i).toNat)
  case atStart => exact ⟨0, Nat.zero_le _, rfl, (fun t ht => by simp at ht), rfl⟩
  case round =>
    obtain ⟨k, hk, rfl, hsm, rfl⟩ := hrel
    by_cases hlt : k < ps.length
    · obtain ⟨ad, rfl, hc⟩ := hA1.at1 hlt
      have q1 := HA.out ps[k] (List.getElem_mem hlt)
      have hk2 : k < (ptx ps).length := by unfold ptx; simpa using hlt
      have hpk := ptx_get hk2 hlt
      have hnx : Hid (ps[k].2.2.length ≤ 300 → ∀ t ∈ (ptx ps).take (k + 1), t.length ≤ 300) := (show _ → _ from fun hq t ht => by
        rw [List.take_succ_eq_append_getElem hk2, List.mem_append] at ht
        rcases ht with ht | ht
        · exact hsm.out t ht
        · simp only [List.mem_singleton] at ht
          rw [ht, hpk]; exact hq)
      clear hpk
      generalize ps[k] = x at *
      obtain ⟨xa, xc, xl⟩ := x
      dsimp only at q1 hc hnx
      by_cases hx : 300 < xl.length
      · have hxi : (300 : Int) < (xl.length : Int) := by omega
        go_wp2_with fail
        go_ret
        exact ⟨rfl, hb1⟩
      · have hxi : ¬ (300 : Int) < (xl.length : Int) := by omega
        go_wp2_with fail
        go_roundw
        case rel => exact ⟨k + 1, hlt, by go_num, hnx.out (by omega), by trivial⟩
        case measure => simp [intOf]; omega
    · obtain rfl : k = ps.length := by omega
      have hall : ∀ t ∈ ptx ps, t.length ≤ 300 := by
        have := hsm.out
        rwa [List.take_of_length_le (by unfold ptx; simp)] at this
      have hpa : ∀ x ∈ ps, x.2.2.length ≤ 300 := fun x hx => hall _ (by unfold ptx; exact List.mem_map.2 ⟨x, hx, rfl⟩)
      have hall2 : ∀ t ∈ ptx ps, t.length ≤ 65536 := fun t ht => Nat.le_trans (hall t ht) (by omega)
      have hj := Lib.hid (fjoin_ok hall2)
      have hfw := Lib.hid (fall_whole hall2)
      have hfp := Lib.hid (fun k => fpre_frms hall2 k)
      have hfl : Hid ((frms (ptx ps)).length ≤ 10000) := (show _ ≤ _ from by
        have h2 := frms_le' hall
        have h3 : (ptx ps).length = ps.length := by unfold ptx; simp
        omega)
      have HPA := Lib.hid hpa
      have h3a := Lib.hid (fun (x : Pt) (hx : x ∈ ps) => (⟨HA.out x hx, Nat.le_trans (HPA.out x hx) (by omega)⟩ : SlB w1 x.1 x.2.1 x.2.2 ∧ x.2.2.length ≤ 70000))
      clear hall hpa hall2 hsm
      have hev : errv 0 = .nilIface := rfl
      go_wp2_with fail
      refine (FJoin_any A c ps _ hA1 h3a.out (by omega)).mono ?_
      rintro e w4 ⟨A4, c4, m4, he, hm4, hs4, hb4⟩
      rw [hj.out] at he hm4
      dsimp only at he
      rw [hev] at he
      subst he
      obtain rfl : m4 = frms (ptx ps) := hm4.out
      clear hj h3a hm4
      have HTS : Hid ((ptx ps).length = ps.length) := (show _ = _ from by unfold ptx; simp)
      obtain ⟨ts, hts⟩ : ∃ ts, ts = ptx ps := ⟨_, rfl⟩
      rw [← hts] at hfw hfp hfl HTS hs4 ⊢
      have HTD := Lib.hid hts
      obtain ⟨f, hf⟩ : ∃ f, f = frms ts := ⟨_, rfl⟩
      rw [← hf] at hfw hfp hfl hs4 ⊢
      have HF := Lib.hid hf
      clear hts hf
      go_wp2_with fail
      refine (FAll_any A4 c4 f _ hs4 (by have := hfl.out; omega)).mono ?_
      rintro e w5 ⟨A5, c5, p5, he, hm5, hs5, ht5, hf5, hb5⟩
      have hm5' : Hid (ptx p5 = ts) := (show _ = _ from by rw [hm5.out, hfw.out.1])
      rw [hfw.out.2, hev] at he
      subst he
      clear hm5 hfw
      have hw5 : Below w1.heap.size w1 w5 := bel_call hb4 hb5
      have hd5 := Lib.hid (show decide (ptx p5 = ptx ps) = true from decide_eq_true (by rw [hm5'.out, HTD.out]))
      go_wp2_with fail
      refine (lists_any A5 c5 p5 A c ps _ hs5 (fun x hx => (ht5 x hx).1) (hA1.below hw5) (fun x hx => (HA.out x hx).below hw5)).mono ?_
      rintro e w6 ⟨rfl, hb6⟩
      rw [hd5.out]
      have hw6 : Below w1.heap.size w1 w6 := bel_call hw5 hb6
      obtain ⟨k, hk, hka⟩ := u64_tmod a f.length
      have hw64 : wrap64 (k : Int) = (k : Int) := by have := hfl.out; simp only [wrap64]; omega
      have hkc : k ≤ c4 := Nat.le_trans hk hs4.2.1
      have hs6 := Sl.takeB (((hs4.below hb5).below hb6)) k
      have hkl : k = (f.take k).length := by simp; omega
      have hpf := hfp.out k
      have hple : Hid ((f.take k).length ≤ 1000000) := (show _ ≤ _ from by rw [← hkl]; have := hfl.out; omega)
      have HKL := Lib.hid hkl
      have hwu : IntKind.u64.wrap ((f.length : Int) + 1) = (f.length : Int) + 1 := by
        have := hfl.out
        have := wrap_u64_of (k := f.length + 1) (by unfold U64; omega)
        simpa using this
      have hwl : wrap64 ((f.length : Int) + 1) = (f.length : Int) + 1 := by have := hfl.out; simp only [wrap64]; omega
      clear hkl hd5 hfp ht5 hs5 hs4
      generalize f.take k = r at *
      go_wp2_with fail
      rw [hw64]
      have HPF := Lib.hid hpf
      refine (FPrefix_len A4 c4 k r _ HKL.out hs6 hple.out).mono ?_
      rintro e w7 ⟨A7, c7, p7, rfl, hm7, hs7, ht7', hf7, hb7⟩
      have ht7 := Lib.hid ht7'
      clear hpf ht7' hs6 hple hb5 hb6 hw5 hkc HKL
      have hpf := HPF
      clear HPF
      have hkf : Hid (k ≤ 10000) := (show _ ≤ _ from Nat.le_trans hk hfl.out)
      go_wp2_with fail
      go_loopw [14, 15, 72] (fun s14 s15 i wr => ∃ n : Nat, n ≤ ps.length ∧ i = .int .i64 n ∧ s14 = .int .i64 n ∧ s15 = .int .i64 ((frms (ts.take n)).length : Nat) ∧ Hid ((frms (ts.take n)).length ≤ k) ∧ Hid (wh k ts = n + wh (k - (frms (ts.take n)).length) (ts.drop n)) ∧ w7 = wr) (fun s14 s15 i w => ps.length - (intOf i).toNat)
      case atStart => exact ⟨0, Nat.zero_le _, rfl, rfl, rfl, (show _ ≤ _ from by simp [frms]), (show _ = _ from by simp [frms]), rfl⟩
      case round =>
        obtain ⟨n, hn, rfl, rfl, rfl, hle, hwh, rfl⟩ := hrel
        by_cases hlt2 : n < ps.length
        · obtain ⟨ad, rfl, hc⟩ := ((hA1.below hw6).below hb7).at1 hlt2
          have q1 := HA.out ps[n] (List.getElem_mem hlt2)
          have q2 := HPA.out ps[n] (List.getElem_mem hlt2)
          have hk2 : n < ts.length := by rw [HTS.out]; exact hlt2
          have hpk : ts[n] = ps[n].2.2 := by
            have := ptx_get (ps := ps) (k := n) (by rw [← HTD.out]; exact hk2) hlt2
            simpa [HTD.out] using this
          have HSTEP := Lib.hid (fun h => wh_step hk2 hwh.out h)
          have HSN := Lib.hid (congrArg List.length (frms_snoc hk2))
          have HSTOP := Lib.hid (fun (h : k < (frms (ts.take n)).length + (frm ts[n]).length) => (.inr ⟨hk2, h⟩ : ts.length ≤ n ∨ ∃ hn : n < ts.length, k < (frms (ts.take n)).length + (frm ts[n]).length))
          rw [List.length_append] at HSN
          rw [hpk] at HSTEP HSN HSTOP
          clear hpk
          have hxl : ps[n].2.2.length ≤ 300 := q2
          have HQ := Lib.hid (show Value.slice ps[n].1 ps[n].2.2.length ps[n].2.1 = pv ps[n] from rfl)
          generalize hx : ps[n] = x at *
          obtain ⟨xa, xc, xl⟩ := x
          dsimp only at q1 hc q2 hxl HSTEP HSN HSTOP
          have hkp := hkf.out
          have hlep := hle.out
          have hFp : Hid ((frm xl).length ≤ 400) := (show _ ≤ _ from by
            have := vb_le10 (n := xl.length) (by omega)
            rw [frm_len]; omega)
          by_cases hbk : k < (frms (ts.take n)).length + (frm xl).length
          · have hS := Lib.hid (HSTOP.out hbk)
            clear HSTEP HSN HSTOP
            have hbki : (k : Int) < ((frms (ts.take n)).length : Int) + ((frm xl).length : Int) := by omega
            clear hbk
            go_wp2_with fail
            refine (FSize_any xa xc xl _ (by omega)).mono ?_
            rintro e w8 ⟨rfl, rfl⟩
            obtain ⟨F, hF⟩ : ∃ F, F = (frm xl).length := ⟨_, rfl⟩
            rw [← hF] at hbki hFp ⊢
            clear hF
            have hFp' := hFp.out
            have hwa : wrap64 (((frms (ts.take n)).length : Int) + (F : Int)) = ((frms (ts.take n)).length : Int) + (F : Int) := by simp only [wrap64]; omega
            clear hx hlt2 hlep
            have hwn := Lib.hid (wh_stop hwh.out hS.out hle.out)
            have hd7 := Lib.hid (show decide (ptx p7 = ptx (ps.take n)) = true from decide_eq_true (by rw [hm7.out, hpf.out, hwn.out, ptx_take, HTD.out]))
            have hend : Hid ((fpre r).2 = (frms (ts.take n)).length) := (show _ = _ from by rw [hpf.out, hwn.out])
            have hnc : n ≤ c := Nat.le_trans hn hA1.2.1
            have hAw := (hA1.below hw6).below hb7
            have hT : SlT w7 (some ad) c (ps.take n) := by
              have h := Sl.take hAw hn
              show Sl w7 1 (some ad) (ps.take n).length c _
              rw [show (ps.take n).length = n from by simp; omega, List.map_take]
              exact h
            have hnl : n = (ps.take n).length := by simp; omega
            have HNL := Lib.hid hnl
            have HTX := Lib.hid (fun (x : Pt) (hx : x ∈ ps.take n) => ((HA.out x (List.mem_of_mem_take hx)).below hw6).below hb7)
            rw [hend.out]
            generalize (frms (ts.take n)).length = S at *
            clear hwn hend hwh hnl hAw hA1 hka hwu hwl hw64
            generalize ps.take n = pn at *
            go_wp2_with fail
            refine (lists_len A7 c7 p7 (some ad) c n pn _ HNL.out hs7 (fun x hx => (ht7.out x hx).1) hT HTX.out).mono ?_
            rintro e w8 ⟨rfl, hb8⟩
            rw [hd7.out]
            go_wp2_with fail
            go_ret
            exact ⟨rfl, bel_call (bel_call hb1 (bel_call hw6 hb7)) hb8⟩
          · have hS := HSTEP.out (by omega)
            have hbki : ¬ (k : Int) < ((frms (ts.take n)).length : Int) + ((frm xl).length : Int) := by omega
            have hnext : Hid ((frms (ts.take (n + 1))).length ≤ k) := (show _ ≤ _ from by rw [HSN.out]; omega)
            clear hbk HSTEP HSTOP
            have HS := Lib.hid hS
            clear hS
            go_wp2_with fail
            refine (FSize_any xa xc xl _ (by omega)).mono ?_
            rintro e w8 ⟨rfl, rfl⟩
            obtain ⟨F, hF⟩ : ∃ F, F = (frm xl).length := ⟨_, rfl⟩
            rw [← hF] at hbki hFp HSN ⊢
            have HFE := Lib.hid hF
            clear hF
            have hFp' := hFp.out
            generalize (frms (ts.take n)).length = S0 at *
            have hwa : wrap64 ((S0 : Int) + (F : Int)) = (S0 : Int) + (F : Int) := by simp only [wrap64]; omega
            have hwn1 : wrap64 ((n : Int) + 1) = (n : Int) + 1 := by simp only [wrap64]; omega
            clear hx hwu hwl hka hw64
            go_wp2_with fail
            refine (FSize_any xa xc xl _ (by omega)).mono ?_
            rintro e w9 ⟨rfl, rfl⟩
            rw [← HFE.out]
            go_wp2_with fail
            go_roundw
            case rel => exact ⟨n + 1, hlt2, val_one n, val_one n, by rw [HSN.out]; rfl, hnext, HS, by trivial⟩
            case measure => exact meas_one hlt2
        · have hlt2i : ¬ ((n : Int) < (ps.length : Int)) := by omega
          have hst : ts.length ≤ n := by rw [HTS.out]; omega
          clear hlt2
          have hwn := Lib.hid (wh_stop hwh.out (.inl hst) hle.out)
          have hd7 := Lib.hid (show decide (ptx p7 = ptx (ps.take n)) = true from decide_eq_true (by rw [hm7.out, hpf.out, hwn.out, ptx_take, HTD.out]))
          have hend : Hid ((fpre r).2 = (frms (ts.take n)).length) := (show _ = _ from by rw [hpf.out, hwn.out])
          have hnc : n ≤ c := Nat.le_trans hn hA1.2.1
          have hAw := (hA1.below hw6).below hb7
          have hT : SlT w7 A c (ps.take n) := by
            have h := Sl.take hAw hn
            show Sl w7 1 A (ps.take n).length c _
            rw [show (ps.take n).length = n from by simp; omega, List.map_take]
            exact h
          have hnl : n = (ps.take n).length := by simp; omega
          have HNL := Lib.hid hnl
          have HTX := Lib.hid (fun (x : Pt) (hx : x ∈ ps.take n) => ((HA.out x (List.mem_of_mem_take hx)).below hw6).below hb7)
          rw [hend.out]
          generalize (frms (ts.take n)).length = S at *
          clear hwn hend hwh hnl hAw hA1 hka hwu hwl hw64
          generalize ps.take n = pn at *
          go_wp2_with fail
          refine (lists_len A7 c7 p7 A c n pn _ HNL.out hs7 (fun x hx => (ht7.out x hx).1) hT HTX.out).mono ?_
          rintro e w8 ⟨rfl, hb8⟩
          rw [hd7.out]
          go_wp2_with fail
          go_ret
          exact ⟨rfl, bel_call (bel_call hb1 (bel_call hw6 hb7)) hb8⟩
theorem fback_all {A : Option Addr} {c : Nat} {ps : List Pt} {a : Int} (w : World) (hA : SlT w A c ps) (ha : ∀ x ∈ ps, SlB w x.1 x.2.1 x.2.2) (_ : I64 a) :
    Calls Try.prog 15 #[.slice A ps.length c, .int .i64 a] w fun e w' => e = .returned (.bool true) ∧ Below w.heap.size w w' := by
  by_cases h : 20 < ps.length
  · have k1 : (20 : Int) < (ps.length : Int) := by omega
    go_enter Try.func15, Try.ntmps15
    go_wp2_with fail
    refine (alive04_any _).mono ?_
    rintro e w1 ⟨rfl, hb1⟩
    go_wp2_with fail
    go_ret
    exact ⟨rfl, hb1⟩
  · exact fback_walk w hA ha (by omega)
end Go.Proofs.Ytbgcofgckjdoiaa
