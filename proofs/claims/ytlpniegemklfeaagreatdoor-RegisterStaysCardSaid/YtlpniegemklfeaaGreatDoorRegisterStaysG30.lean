/- WHAT IT HOLDS: a register's lease kept, acquired, given up, told: walked. -/
import Derived.Test.YtlpniegemklfeaaGreatDoorRegisterStaysG29
namespace Go.Proofs.YtlpniegemklfeaaGreatDoor
open Go.RowKit Go.Maps Go.Sort
attribute [local go_sem ↓] Go.wp_at_zero Go.wp_at_succ

section
variable {w w' : World} {gr gs : Nat} {q : Fp} {d d' : Dk Sv} {sp bo n : Int} {L : L3r}
theorem RgG.still (h : RgM w gr gs q d sp bo L n) (hb : Below w.heap.size w w') : RgG w gr gs q sp bo d L n w' := ⟨q, rfl, h.below hb, Frg.of_below gr hb, fun _ hi => .inl hi⟩
end
theorem lput_err (x : L3r) : (lput x.1 x.2.1 x.2.2).2 = lck x := by
  unfold lput lck
  split
  · rfl
  · rename_i h
    exact (Decidable.byContradiction h : chk x.1 x.2.1 x.2.2 = 0).symm
theorem lpt_len {x : L3r} (h : lck x = 0) : (lpt x).length ≤ 200 := by
  unfold lpt lput
  rw [if_neg (by unfold lck at h; omega)]
  have h1 := ltxt_len h
  show (frm (ltxt x.1 x.2.1 x.2.2)).length ≤ 200
  rw [frm_len]
  have h2 := vb_le10 (n := (ltxt x.1 x.2.1 x.2.2).length) (by omega)
  omega
set_option maxRecDepth 100000 in
set_option maxHeartbeats 1000000 in
theorem RKeep_any {w : World} {gr gs : Nat} {q : Fp} {d : Dk Sv} {sp bo n : Int} {L : L3r} (h : RgM w gr gs q d sp bo L n) (hf : Fok d) (hl : d.sure.length + d.pend.length ≤ 900) (x : L3r) :
    Calls Tryz.prog 29 #[.pointer (some ⟨gr, 0, none⟩), lv x.1 x.2.1 x.2.2] w fun e w' => ∃ A c, e = .returned (errv (rgKeep d x A c).2) ∧ RgG w gr gs q sp bo (rgKeep d x A c).1 (if (rgKeep d x A c).2 = 0 then x else L) n w' := by
  obtain ⟨xo, xe, xu⟩ := x
  have hb0 := below_new w (.cells #[.int .i64 xo, .int .i64 xe, .int .i64 xu] 43)
  have hB0 := Blk.new w 43 #[.int .i64 xo, .int .i64 xe, .int .i64 xu]
  have HP := Lib.hid (LPut_any xo xe xu (w.alloc (.cells #[.int .i64 xo, .int .i64 xe, .int .i64 xu] 43)))
  have hle := lput_err (xo, xe, xu)
  dsimp only at hle
  unfold PutsB at HP
  rw [hle] at HP
  have hm0 := h.below hb0
  have H0 := Lib.hid hm0
  have HB0 := Lib.hid hB0
  have Hb0 := Lib.hid hb0
  have Hg := Lib.hid h.blk.lt
  have Hqg := Lib.hid h.st.dsk.blk.lt
  have HNq := Lib.hid (show ¬ q.M w.heap.size from fun hq => by have := h.st.dsk.ltM hq; omega)
  have HF := Lib.hid hf
  have hpt : (lput xo xe xu).1 = lpt (xo, xe, xu) := rfl
  rw [hpt] at HP
  obtain ⟨b0, b1, b2, -, -, -⟩ := hB0.three
  clear h hb0 hB0 hm0 hle hpt hf
  go_enter Tryz.func29, Tryz.ntmps29
  go_wp2_with fail
  refine HP.out.mono ?_
  clear HP
  rintro e w1 ⟨A, c, m, rfl, hm, ho, hb1⟩
  have hR1 := H0.out.below hb1
  have hb1' := bel_call Hb0.out hb1
  have hB1 := HB0.out.below hb1
  rcases Decidable.em (lck (xo, xe, xu) = 0) with hc | hc
  rotate_left
  · obtain ⟨ev, hev⟩ := errv_ifc hc
    have HO := Lib.hid (show ∃ A c, Ending.returned (errv (lck (xo, xe, xu))) = .returned (errv (rgKeep d (xo, xe, xu) A c).2) ∧ RgG w gr gs q sp bo (rgKeep d (xo, xe, xu) A c).1 (if (rgKeep d (xo, xe, xu) A c).2 = 0 then (xo, xe, xu) else L) n w1 from ⟨none, 0, by
      have e1 : rgKeep d (xo, xe, xu) none 0 = (d, lck (xo, xe, xu)) := if_pos hc
      rw [e1]
      dsimp only
      rw [if_neg hc]
      exact ⟨rfl, q, rfl, hR1, Frg.of_below gr hb1', fun i hi => .inl hi⟩⟩)
    rw [hev] at HO ⊢
    clear hev hc hR1 hb1 hb1' hm ho hB1 H0 HB0 Hb0
    go_wp2_with fail
    go_ret
    exact HO.out
  have hml : m.length ≤ 200 := by rw [hm.out]; exact lpt_len hc
  have hlt := Own.lt ho
  have HPut := Lib.hid (SPut_any hR1.st HF.out hl lname (by decide) m (Own.sl ho) (fun hne ad hA e => by
    have h1 := (hlt ad.block (by rw [hA]; rfl)).1
    have h2 := Hqg.out
    simp at h1
    omega) (by omega))
  obtain rfl := hm.out
  rw [hc, show errv 0 = Value.nilIface from rfl]
  unfold lname at HPut
  obtain ⟨x0, x1, x2, x3, x4, x5, x6⟩ := hR1.blk.sevC
  have HR1 := Lib.hid hR1
  have HB1 := Lib.hid hB1
  have Hb1 := Lib.hid hb1'
  clear hm ho hb1 hb1' hR1 hB1 H0 HB0 Hb0 hlt b0 b1 b2
  go_wp2_with fail
  refine HPut.out.mono ?_
  clear HPut
  rintro e w2 ⟨A2, c2, rfl, q2, hg2, hD2, hF2, hM2, -⟩
  have hE : ∀ r, sPut svl Sv.nil d [108, 101, 97, 115, 101] ⟨A2, c2, lpt (xo, xe, xu)⟩ = r → rgKeep d (xo, xe, xu) A2 c2 = r := fun r hr => by rw [← hr]; exact if_neg (by rw [hc]; simp)
  have hR2 := HR1.out.act hg2 hD2 hF2 hM2
  have hne : w.heap.size ≠ gr := by have := Hg.out; omega
  have hBx : Blk w2 w.heap.size 43 #[.int .i64 xo, .int .i64 xe, .int .i64 xu] := (hF2.block _ HB1.out.lt HNq.out).trans HB1.out
  generalize sPut svl Sv.nil d [108, 101, 97, 115, 101] ⟨A2, c2, lpt (xo, xe, xu)⟩ = r at *
  obtain ⟨d2, k2⟩ := r
  dsimp only at hR2 ⊢
  have hE2 := hE _ rfl
  have HF2 := Lib.hid ((Frg.of_below (q := q) gr Hb1.out).trans (Frg.of gr hF2) (fun i hi => .inl hi))
  have HM2 := Lib.hid (show ∀ i, q2.M i → q.M i ∨ w.heap.size ≤ i from fun i hi => by
    rcases hM2 i hi with h1 | h1
    · exact .inl h1
    · have := Hb1.out.size; exact .inr (by omega))
  have HE := Lib.hid hE2
  have Hg2 := Lib.hid hg2
  rcases Decidable.em (k2 = 0) with h0 | h0
  rotate_left
  · obtain ⟨ev, hev⟩ := errv_ifc h0
    have HO := Lib.hid (show ∃ A c, Ending.returned (errv k2) = .returned (errv (rgKeep d (xo, xe, xu) A c).2) ∧ RgG w gr gs q sp bo (rgKeep d (xo, xe, xu) A c).1 (if (rgKeep d (xo, xe, xu) A c).2 = 0 then (xo, xe, xu) else L) n w2 from ⟨A2, c2, by
      rw [HE.out]
      dsimp only
      rw [if_neg h0]
      exact ⟨rfl, q2, Hg2.out, hR2, HF2.out, HM2.out⟩⟩)
    rw [hev] at HO ⊢
    clear hev h0 hR2 hBx HF2 HM2 hF2 hM2 hD2 hg2 hE hE2 HE x0 x1 x2 x3 x4 x5 x6 HR1 HB1 Hb1
    go_wp2_with fail
    go_ret
    exact HO.out
  subst h0
  obtain ⟨y0, y1, y2, y3, y4, y5, y6⟩ := hR2.blk.sevC
  have yf3 := hR2.blk.frozen 3
  have yf4 := hR2.blk.frozen 4
  have yf5 := hR2.blk.frozen 5
  obtain ⟨z0, z1, z2, -, -, -⟩ := hBx.three
  have HR3 := Lib.hid (hR2.set (L' := (xo, xe, xu)) (m := n) ((((Wr.refl _ _).set_ 3 (.int .i64 xo)).set_ 4 (.int .i64 xe)).set_ 5 (.int .i64 xu)) (((hR2.blk.set_ 3 (.int .i64 xo)).set_ 4 (.int .i64 xe)).set_ 5 (.int .i64 xu)))
  have HF3 := Lib.hid (HF2.out.wr ((((Wr.refl _ _).set_ 3 (.int .i64 xo)).set_ 4 (.int .i64 xe)).set_ 5 (.int .i64 xu)))
  rw [show errv 0 = Value.nilIface from rfl]
  clear hR2 hBx HF2 hF2 hM2 hD2 hg2 hE hE2 x0 x1 x2 x3 x4 x5 x6 HR1 HB1 Hb1
  go_wp2_with fail
  go_ret
  exact ⟨A2, c2, by
    rw [HE.out]
    dsimp only
    rw [if_pos rfl]
    exact ⟨rfl, q2, Hg2.out, HR3.out, HF3.out, HM2.out⟩⟩
theorem res_lease1 {fn : Func} {a : Nat} {tmps : Array Value} {w : World} {g : Nat} {x y z : Value} (hres : fn.results = #[.cell a 43]) (ha : tmps.getD a undef = .pointer (some ⟨g, 0, none⟩)) (hB : Blk w g 43 #[x, y, z]) :
    (results fn tmps).run Tryz.prog w = .ok (.agg #[x, y, z]) w := by
  obtain ⟨b0, b1, b2, -, -, -⟩ := hB.three
  have ha' : tmps[a]?.getD undef = .pointer (some ⟨g, 0, none⟩) := by simpa using ha
  simp [results, hres, go_sem, b0, b1, b2, ha']
set_option maxRecDepth 100000 in
set_option maxHeartbeats 1000000 in
theorem RLease_any {w : World} {gr gs : Nat} {q : Fp} {d : Dk Sv} {sp bo n : Int} {L : L3r} (h : RgM w gr gs q d sp bo L n) :
    Calls Tryz.prog 12 #[.pointer (some ⟨gr, 0, none⟩)] w fun e w' => e = .returned (lv L.1 L.2.1 L.2.2) ∧ Below w.heap.size w w' := by
  have hb := below_new w (.cells #[.int .i64 L.1, .int .i64 L.2.1, .int .i64 L.2.2] 43)
  have hB := Blk.new w 43 #[.int .i64 L.1, .int .i64 L.2.1, .int .i64 L.2.2]
  obtain ⟨x0, x1, x2, x3, x4, x5, x6⟩ := (h.blk.below (below_new w (.cells #[.int .i64 0, .int .i64 0, .int .i64 0] 43))).sevC
  go_enter Tryz.func12, Tryz.ntmps12
  go_wp2_with fail
  exact bodyPost_ret (res_lease1 rfl rfl (g := w.heap.size) hB) rfl ⟨rfl, hb⟩
set_option maxRecDepth 100000 in
set_option maxHeartbeats 1000000 in
theorem RGive_any {w : World} {gr gs : Nat} {q : Fp} {d : Dk Sv} {sp bo n : Int} {L : L3r} (h : RgM w gr gs q d sp bo L n) (hf : Fok d) (hl : d.sure.length + d.pend.length ≤ 900) (o : Int) :
    Calls Tryz.prog 10 #[.pointer (some ⟨gr, 0, none⟩), .int .i64 o] w fun e w' => ∃ k d' L', GivO d L o k d' L' ∧ e = .returned (errv k) ∧ RgG w gr gs q sp bo d' L' n w' := by
  have HG := Lib.hid (Give_any L.1 L.2.1 L.2.2 o w)
  unfold Leased at HG
  have hno := @GivO.no d L o
  have hto := @GivO.gave d L o
  unfold giveL at hno hto
  generalize give L.1 L.2.1 L.2.2 o = t at *
  obtain ⟨t1, t2, t3, t4⟩ := t
  dsimp only at HG hno hto
  obtain ⟨x0, x1, x2, x3, x4, x5, x6⟩ := h.blk.sevC
  have H := Lib.hid h
  have HNo := Lib.hid hno
  have HTo := Lib.hid hto
  clear h hno hto
  go_enter Tryz.func10, Tryz.ntmps10
  go_wp2_with fail
  refine HG.out.mono ?_
  rintro e w1 ⟨rfl, hb1⟩
  have hb2 := bel_alloc hb1 (.cells #[.int .i64 t1, .int .i64 t2, .int .i64 t3] 43)
  have HR2 := Lib.hid (H.out.below hb2)
  have HB2 := Lib.hid (Blk.new w1 43 #[.int .i64 t1, .int .i64 t2, .int .i64 t3])
  have Hb2 := Lib.hid hb2
  clear HG hb1 hb2 x0 x1 x2 x3 x4 x5 x6
  rcases Decidable.em (t4 = 0) with h0 | h0
  rotate_left
  · obtain ⟨ev, hev⟩ := errv_ifc h0
    have HO := Lib.hid (show ∃ k d' L', GivO d L o k d' L' ∧ Ending.returned (errv t4) = .returned (errv k) ∧ RgG w gr gs q sp bo d' L' n (w1.alloc (.cells #[.int .i64 t1, .int .i64 t2, .int .i64 t3] 43)) from ⟨t4, d, L, HNo.out h0, rfl, RgG.still H.out Hb2.out⟩)
    rw [hev] at HO ⊢
    clear hev h0
    go_wp2_with fail
    go_ret
    exact HO.out
  subst h0
  have HK := Lib.hid (RKeep_any HR2.out hf hl (t1, t2, t3))
  rw [show errv 0 = Value.nilIface from rfl]
  go_wp2_with fail
  refine HK.out.mono ?_
  clear HK
  rintro e w3 ⟨A, c, rfl, q3, hg3, hR3, hF3, hM3⟩
  have HG3 := Lib.hid (HTo.out A c (by first | rfl | trivial))
  have HF3 := Lib.hid ((Frg.of_below (q := q) gr Hb2.out).trans hF3 (fun i hi => .inl hi))
  have HM3 := Lib.hid (show ∀ i, q3.M i → q.M i ∨ w.heap.size ≤ i from fun i hi => by
    rcases hM3 i hi with h1 | h1
    · exact .inl h1
    · have := Hb2.out.size; exact .inr (by omega))
  have HR3 := Lib.hid hR3
  have Hg3 := Lib.hid hg3
  clear hR3 hF3 hM3 hg3 HR2 HB2 Hb2
  generalize rgKeep d (t1, t2, t3) A c = r at *
  obtain ⟨d3, k3⟩ := r
  dsimp only at HR3 HG3 ⊢
  go_wp2_with fail
  go_ret
  exact ⟨k3, d3, _, HG3.out, rfl, q3, Hg3.out, HR3.out, HF3.out, HM3.out⟩
end Go.Proofs.YtlpniegemklfeaaGreatDoor
