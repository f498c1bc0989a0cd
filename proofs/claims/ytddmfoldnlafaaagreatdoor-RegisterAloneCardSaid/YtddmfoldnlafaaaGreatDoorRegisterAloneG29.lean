/- WHAT IT HOLDS: a register opened; its lease kept, acquired, given up: walked. | WHAT IT HOLDS: a register's lease kept, acquired, given up, told: walked. | WHAT IT HOLDS: the memory of the law LeaseAlone, and what a round leaves. -/
import Derived.Test.YtddmfoldnlafaaaGreatDoorRegisterAloneG28
import Derived.Test.YtddmfoldnlafaaaGreatDoorRegisterAloneG20
import Derived.Laws.LoneSync
import Derived.LaidEql
import Derived.Test.YtddmfoldnlafaaaGreatDoorRegisterAloneG05
import Derived.Test.YtddmfoldnlafaaaGreatDoorRegisterAloneG07
import Derived.Test.YtddmfoldnlafaaaGreatDoorRegisterAloneG11
import Derived.Test.YtddmfoldnlafaaaGreatDoorRegisterAloneG23
import Derived.Test.YtddmfoldnlafaaaGreatDoorRegisterAloneG08
import Derived.Maps.OwnSet
import Derived.Carry
import Derived.Maps.OwnOps
import Derived.RegionTactic
import Derived.BigRegion
import Derived.Deep.CutBlock
import Derived.Test.YtddmfoldnlafaaaGreatDoorRegisterAloneG24
namespace Go.Proofs.YtddmfoldnlafaaaGreatDoor
open Go.RowKit Go.Maps Go.Sort
attribute [local go_sem ↓] Go.wp_at_zero Go.wp_at_succ

theorem errno_comp : ∃ i, Tryz.prog.info? 79 = some i ∧ i.comparable = true := by
  have h : (Tryz.prog.info? 79).map (fun i => i.comparable) = some true := by kernel_rfl
  cases hq : Tryz.prog.info? 79 with
  | none => rw [hq] at h; cases h
  | some i => rw [hq] at h; exact ⟨i, rfl, by injection h⟩
theorem errv_is4 (n : Nat) (W : World) : (binOp .eql 29 (errv n) (.iface 79 (.int .i64 4))).run Tryz.prog W = .ok (.bool (decide (n = 4))) W := by
  rcases errv_cases n with ⟨h0, he⟩ | ⟨k, hk, hke, he⟩
  · subst h0
    rw [he]
    exact run_eql_iface_nil_left W _ _ Tryz.underlying29
  · have h2 : decide (n = 4) = (k == 4) := by
      rw [Bool.eq_iff_iff, decide_eq_true_iff, beq_iff_eq]
      omega
    obtain ⟨i, hi, hc⟩ := errno_comp
    have h : ∀ d : Nat, (Op.equalIn (d + 2) 29 (.iface 79 (.int .i64 k)) (.iface 79 (.int .i64 4))).run Tryz.prog W = .ok (k == 4) W := fun d => by
      simp [Op.equalIn, run_underlying Tryz.underlying29, run_underlying Tryz.underlying79, typeInfo, hi, hc]
    rw [he, h2]
    simp only [binOp]
    simp [Op.equal, Op.maxDepth, h 9998]
theorem errv_g4 (n : Nat) (x y : Operand) (W : World) : (eqGuard .eql 29 x y (errv n) (.iface 79 (.int .i64 4))).run Tryz.prog W = .ok () W := by
  rcases errv_cases n with ⟨h0, he⟩ | ⟨k, hk, hke, he⟩
  · rw [he]
    go_simp
  · rw [he]
    go_simp
theorem Blk.sevC {w : World} {g : Nat} {t : TypeId} {a0 a1 a2 a3 a4 a5 a6 : Value} (h : Blk w g t #[a0, a1, a2, a3, a4, a5, a6]) : w.cell? ⟨g, 0, none⟩ = some a0 ∧ w.cell? ⟨g, 1, none⟩ = some a1 ∧ w.cell? ⟨g, 2, none⟩ = some a2 ∧ w.cell? ⟨g, 3, none⟩ = some a3 ∧ w.cell? ⟨g, 4, none⟩ = some a4 ∧ w.cell? ⟨g, 5, none⟩ = some a5 ∧ w.cell? ⟨g, 6, none⟩ = some a6 := ⟨h.cell 0, h.cell 1, h.cell 2, h.cell 3, h.cell 4, h.cell 5, h.cell 6⟩
theorem sGet_len {w : World} {q : Fp} {d : Dk Sv} (h : Dsk w q d) (n : Bs) : (((sGet d n).1.map Sv.l).getD []).length ≤ 65536 := by
  unfold sGet
  split
  · simp
  · unfold dRead
    split
    · simp
    · cases hg : gget n d.shown with
      | none => simp
      | some v => exact h.len v (h.shown_mem (n, v) (gget_mem hg)).2
theorem rgRead_eq (d : Dk Sv) : rgRead d = if (sGet d lname).2 = 4 then ((0, 0, 0), 0)
  else if (sGet d lname).2 ≠ 0 then ((0, 0, 0), (sGet d lname).2)
  else (((ltake (((sGet d lname).1.map Sv.l).getD [])).1, (ltake (((sGet d lname).1.map Sv.l).getD [])).2.1, (ltake (((sGet d lname).1.map Sv.l).getD [])).2.2.1), (ltake (((sGet d lname).1.map Sv.l).getD [])).2.2.2) := rfl
set_option maxRecDepth 100000 in
set_option maxHeartbeats 1000000 in
theorem RgOpen_any {w : World} {q : Fp} {d : Dk Sv} (h : Dsk w q d) (hf : Fok d) (hl : d.sure.length + d.pend.length ≤ 400) (sp bo : Int) :
    Calls Tryz.prog 21 #[.pointer (some ⟨q.g, 0, none⟩), .int .i64 sp, .int .i64 bo] w fun e w' => RgO w q sp bo (rgOpen d sp bo) e w' := by
  by_cases h1 : sp < 1
  · have HX := Lib.hid (show rgOpen d sp bo = (d, (0, 0, 0), 1) from by unfold rgOpen; rw [if_pos (by unfold rgBad; omega)])
    have HD := Lib.hid h
    clear h hf hl
    go_enter Tryz.func21, Tryz.ntmps21
    go_wp2_with fail
    go_ret2
    exact ⟨q, rfl, by rw [HX.out]; exact HD.out, Frd.of_below (Below.refl _ _), fun i hi => .inl hi, .inr ⟨by rw [HX.out]; exact Nat.one_ne_zero, by rw [HX.out]; rfl⟩⟩
  by_cases h2 : 1099511627776 < sp
  · have HX := Lib.hid (show rgOpen d sp bo = (d, (0, 0, 0), 1) from by unfold rgOpen; rw [if_pos (by unfold rgBad; omega)])
    have HD := Lib.hid h
    clear h hf hl
    go_enter Tryz.func21, Tryz.ntmps21
    go_wp2_with fail
    go_ret2
    exact ⟨q, rfl, by rw [HX.out]; exact HD.out, Frd.of_below (Below.refl _ _), fun i hi => .inl hi, .inr ⟨by rw [HX.out]; exact Nat.one_ne_zero, by rw [HX.out]; rfl⟩⟩
  by_cases h3 : bo < 0
  · have HX := Lib.hid (show rgOpen d sp bo = (d, (0, 0, 0), 1) from by unfold rgOpen; rw [if_pos (by unfold rgBad; omega)])
    have HD := Lib.hid h
    clear h hf hl
    go_enter Tryz.func21, Tryz.ntmps21
    go_wp2_with fail
    go_ret2
    exact ⟨q, rfl, by rw [HX.out]; exact HD.out, Frd.of_below (Below.refl _ _), fun i hi => .inl hi, .inr ⟨by rw [HX.out]; exact Nat.one_ne_zero, by rw [HX.out]; rfl⟩⟩
  by_cases h4 : 1099511627776 < bo
  · have HX := Lib.hid (show rgOpen d sp bo = (d, (0, 0, 0), 1) from by unfold rgOpen; rw [if_pos (by unfold rgBad; omega)])
    have HD := Lib.hid h
    clear h hf hl
    go_enter Tryz.func21, Tryz.ntmps21
    go_wp2_with fail
    go_ret2
    exact ⟨q, rfl, by rw [HX.out]; exact HD.out, Frd.of_below (Below.refl _ _), fun i hi => .inl hi, .inr ⟨by rw [HX.out]; exact Nat.one_ne_zero, by rw [HX.out]; rfl⟩⟩
  have i1 : 1 ≤ sp := by omega
  have i2 : sp ≤ 1099511627776 := by omega
  have i3 : 0 ≤ bo := by omega
  have i4 : bo ≤ 1099511627776 := by omega
  have HX := Lib.hid (show rgOpen d sp bo = if (sOpen Sv.nil d).2 ≠ 0 then ((sOpen Sv.nil d).1, (0, 0, 0), (sOpen Sv.nil d).2) else ((sOpen Sv.nil d).1, rgRead (sOpen Sv.nil d).1) from by unfold rgOpen; rw [if_neg (by unfold rgBad; omega)])
  have HOp := Lib.hid (SOpen_any h hf hl)
  clear h hf hl
  generalize hgq : q.g = g0 at *
  have HGq := Lib.hid hgq
  clear hgq
  go_enter Tryz.func21, Tryz.ntmps21
  go_wp2_with fail
  refine HOp.out.mono ?_
  rintro e w1 ⟨q1, hg1, hD1, hF1, hM1, -, h0⟩
  clear HOp
  generalize sOpen Sv.nil d = r at *
  obtain ⟨d1, n1⟩ := r
  dsimp only at hD1 h0
  try dsimp only at HX
  rcases h0 with ⟨rfl, gs, rfl, hS1, hgs1⟩ | ⟨h0, rfl⟩
  rotate_left
  · obtain ⟨ev, hev⟩ := errv_ifc h0
    have HXX := Lib.hid (HX.out.trans (if_pos h0))
    have HO := Lib.hid (show RgO w q sp bo (rgOpen d sp bo) (.returned (.tuple #[.pointer none, errv n1])) w1 from ⟨q1, hg1, by rw [HXX.out]; exact hD1, hF1, hM1, .inr ⟨by rw [HXX.out]; exact h0, by rw [HXX.out]⟩⟩)
    rw [hev] at HO ⊢
    clear hev h0 HX HXX hD1 hF1 hM1
    go_wp2_with fail
    go_ret2
    exact HO.out
  replace HX := Lib.hid (HX.out.trans (if_neg (by simp)))
  try dsimp only at HX
  have hS1g := hS1.blk.lt
  have hb2 := below_new w1 (.cells (rga gs sp bo (0, 0, 0) 0) 153)
  have hRg : RgM (w1.alloc (.cells (rga gs sp bo (0, 0, 0) 0) 153)) w1.heap.size gs q1 d1 sp bo (0, 0, 0) 0 := ⟨hS1.below hb2, Blk.new _ _ _, fun hq => by have := hS1.dsk.ltM hq; omega, by omega⟩
  have HG := Lib.hid (SGet_any hRg.st lname (by decide))
  have hsz := sGet_len hS1.dsk lname
  have HRg := Lib.hid hRg
  have HF2 := Lib.hid (hF1.trans (Frd.of_below (q := q1) hb2) hM1)
  have HM1 := Lib.hid hM1
  have Hg1 := Lib.hid (hg1.trans HGq.out)
  have Hws := Lib.hid hF1.size
  have Hgs := Lib.hid hgs1
  have HR := Lib.hid (rgRead_eq d1)
  clear hD1 hF1 hM1 hg1 hgs1 hS1 hRg hb2 hS1g
  generalize sGet d1 lname = r2 at *
  obtain ⟨v, k⟩ := r2
  dsimp only at HG HR hsz
  generalize (v.map Sv.l).getD [] = tl at *
  have he4 := errv_is4 k
  have hg4 := errv_g4 k
  unfold lname at HG
  go_wp2_with fail
  refine HG.out.mono ?_
  rintro e w2 ⟨A, c, m, rfl, hm, ho, hb3⟩
  obtain rfl := hm.out
  have HRg2 := Lib.hid (HRg.out.below hb3)
  have HF3 := Lib.hid (HF2.out.trans (Frd.of_below (q := q1) hb3) HM1.out)
  have HSb := Lib.hid (show SlB w2 A c m from Own.sl ho)
  clear HG hm ho hb3 HRg HF2
  by_cases hk4 : k = 4
  · subst hk4
    have HXX := Lib.hid (show rgOpen d sp bo = (d1, (0, 0, 0), 0) from by rw [HX.out, HR.out, if_pos rfl])
    have HO := Lib.hid (show RgO w q sp bo (rgOpen d sp bo) (.returned (.tuple #[.pointer (some ⟨w1.heap.size, 0, none⟩), .nilIface])) w2 from ⟨q1, Hg1.out.trans HGq.out.symm, by rw [HXX.out]; exact HRg2.out.st.dsk, HF3.out, fun i hi => HM1.out i hi, .inl ⟨by rw [HXX.out], w1.heap.size, gs, rfl, by rw [HXX.out]; exact HRg2.out, Hws.out, Hgs.out⟩⟩)
    have hd4 : decide (4 = 4) = true := rfl
    rw [hd4] at he4
    generalize errv 4 = ev at *
    clear hd4 HRg2 HF3 HX HXX HR
    go_wp2_with fail
    go_ret2
    exact HO.out
  have hd4 : decide (k = 4) = false := decide_eq_false hk4
  rw [hd4] at he4
  rw [if_neg hk4] at HR
  clear hd4
  rcases Decidable.em (k = 0) with h0 | h0
  rotate_left
  · obtain ⟨ev, hev⟩ := errv_ifc h0
    have HXX := Lib.hid (show rgOpen d sp bo = (d1, (0, 0, 0), k) from by rw [HX.out, HR.out, if_pos h0])
    have HO := Lib.hid (show RgO w q sp bo (rgOpen d sp bo) (.returned (.tuple #[.pointer none, errv k])) w2 from ⟨q1, Hg1.out.trans HGq.out.symm, by rw [HXX.out]; exact HRg2.out.st.dsk, HF3.out, fun i hi => HM1.out i hi, .inr ⟨by rw [HXX.out]; exact h0, by rw [HXX.out]⟩⟩)
    rw [hev] at HO he4 hg4 ⊢
    clear hev HRg2 HF3 HX HXX HR h0 hk4
    go_wp2_with fail
    go_ret2
    exact HO.out
  subst h0
  rw [if_neg (by simp)] at HR
  have HT := Lib.hid (LTake_any A c m w2 HSb.out (by omega))
  unfold Leased at HT
  generalize ltake m = t at *
  obtain ⟨t1, t2, t3, t4⟩ := t
  dsimp only at HR HT
  have HXX := Lib.hid (show rgOpen d sp bo = (d1, (t1, t2, t3), t4) from by rw [HX.out, HR.out])
  rw [show errv 0 = Value.nilIface from rfl] at he4 hg4 ⊢
  clear HX HR hk4
  go_wp2_with fail
  refine HT.out.mono ?_
  rintro e w3 ⟨rfl, hb4⟩
  have hRg3 := HRg2.out.below hb4
  have HF4 := Lib.hid ((Frg.of w1.heap.size HF3.out).trans (Frg.of_below (q := q1) w1.heap.size hb4) HM1.out)
  obtain ⟨x0, x1, x2, x3, x4, x5, x6⟩ := hRg3.blk.sevC
  have xf3 := hRg3.blk.frozen 3
  have xf4 := hRg3.blk.frozen 4
  have xf5 := hRg3.blk.frozen 5
  have HRg4 := Lib.hid (hRg3.set (L' := (t1, t2, t3)) (m := 0) ((((Wr.refl _ _).set_ 3 (.int .i64 t1)).set_ 4 (.int .i64 t2)).set_ 5 (.int .i64 t3)) (((hRg3.blk.set_ 3 (.int .i64 t1)).set_ 4 (.int .i64 t2)).set_ 5 (.int .i64 t3)))
  have HF5 := Lib.hid (HF4.out.wr ((((Wr.refl _ _).set_ 3 (.int .i64 t1)).set_ 4 (.int .i64 t2)).set_ 5 (.int .i64 t3)))
  clear hb4 hRg3 HRg2 HF3 HF4 HT he4 hg4
  go_upto_region 13 with (fail)
  refine gen1 (T := fun W => RgM W w1.heap.size gs q1 d1 sp bo (t1, t2, t3) 0 ∧ Frg q w1.heap.size w W) ⟨HRg4.out, HF5.out⟩ (fun w5 hT => ?_)
  obtain ⟨hR5, hF5⟩ := hT
  have hFd : Frd q w w5 := ⟨hF5.os, hF5.tape, hF5.output, hF5.size, fun i hi hn => hF5.block i hi hn (by have := Hws.out; omega)⟩
  clear x0 x1 x2 x3 x4 x5 x6 xf3 xf4 xf5 HRg4 HF5 hF5
  rcases Decidable.em (t4 = 0) with h0 | h0
  · subst h0
    have HO := Lib.hid (show RgO w q sp bo (rgOpen d sp bo) (.returned (.tuple #[.pointer (some ⟨w1.heap.size, 0, none⟩), .nilIface])) w5 from ⟨q1, Hg1.out.trans HGq.out.symm, by rw [HXX.out]; exact hR5.st.dsk, hFd, fun i hi => HM1.out i hi, .inl ⟨by rw [HXX.out], w1.heap.size, gs, rfl, by rw [HXX.out]; exact hR5, Hws.out, Hgs.out⟩⟩)
    rw [show errv 0 = Value.nilIface from rfl]
    clear hR5 hFd HXX
    go_wp2_with fail
    go_ret2
    exact HO.out
  · obtain ⟨ev, hev⟩ := errv_ifc h0
    have HO := Lib.hid (show RgO w q sp bo (rgOpen d sp bo) (.returned (.tuple #[.pointer none, errv t4])) w5 from ⟨q1, Hg1.out.trans HGq.out.symm, by rw [HXX.out]; exact hR5.st.dsk, hFd, fun i hi => HM1.out i hi, .inr ⟨by rw [HXX.out]; exact h0, by rw [HXX.out]⟩⟩)
    rw [hev] at HO ⊢
    clear hev hR5 hFd HXX h0
    go_wp2_with fail
    go_ret2
    exact HO.out
end Go.Proofs.YtddmfoldnlafaaaGreatDoor

namespace Go.Proofs.YtddmfoldnlafaaaGreatDoor
open Go.RowKit Go.Maps Go.Sort
attribute [local go_sem ↓] Go.wp_at_zero Go.wp_at_succ

section
variable {w w' : World} {gr gs : Nat} {q : Fp} {d d' : Dk Sv} {sp bo n : Int} {L : L3r}
theorem RgG.still (h : RgM w gr gs q d sp bo L n) (hb : Below w.heap.size w w') : RgG w gr gs q sp bo d L n w' := ⟨q, rfl, h.below hb, Frg.of_below gr hb, fun _ hi => .inl hi⟩
end
theorem lput_err (x : L3r) : (lput x.1 x.2.1 x.2.2).2 = lck x := by
  unfold lput lck
  split
  · rfl
  · rename_i h
    exact (Decidable.byContradiction h : chk x.1 x.2.1 x.2.2 = 0).symm
theorem lpt_len {x : L3r} (h : lck x = 0) : (lpt x).length ≤ 200 := by
  unfold lpt lput
  rw [if_neg (by unfold lck at h; omega)]
  have h1 := ltxt_len h
  show (frm (ltxt x.1 x.2.1 x.2.2)).length ≤ 200
  rw [frm_len]
  have h2 := vb_le10 (n := (ltxt x.1 x.2.1 x.2.2).length) (by omega)
  omega
set_option maxRecDepth 100000 in
set_option maxHeartbeats 1000000 in
theorem RKeep_any {w : World} {gr gs : Nat} {q : Fp} {d : Dk Sv} {sp bo n : Int} {L : L3r} (h : RgM w gr gs q d sp bo L n) (hf : Fok d) (hl : d.sure.length + d.pend.length ≤ 900) (x : L3r) :
    Calls Tryz.prog 67 #[.pointer (some ⟨gr, 0, none⟩), lv x.1 x.2.1 x.2.2] w fun e w' => ∃ A c, e = .returned (errv (rgKeep d x A c).2) ∧ RgG w gr gs q sp bo (rgKeep d x A c).1 (if (rgKeep d x A c).2 = 0 then x else L) n w' := by
  obtain ⟨xo, xe, xu⟩ := x
  have hb0 := below_new w (.cells #[.int .i64 xo, .int .i64 xe, .int .i64 xu] 56)
  have hB0 := Blk.new w 56 #[.int .i64 xo, .int .i64 xe, .int .i64 xu]
  have HP := Lib.hid (LPut_any xo xe xu (w.alloc (.cells #[.int .i64 xo, .int .i64 xe, .int .i64 xu] 56)))
  have hle := lput_err (xo, xe, xu)
  dsimp only at hle
  unfold PutsB at HP
  rw [hle] at HP
  have hm0 := h.below hb0
  have H0 := Lib.hid hm0
  have HB0 := Lib.hid hB0
  have Hb0 := Lib.hid hb0
  have Hg := Lib.hid h.blk.lt
  have Hqg := Lib.hid h.st.dsk.blk.lt
  have HNq := Lib.hid (show ¬ q.M w.heap.size from fun hq => by have := h.st.dsk.ltM hq; omega)
  have HF := Lib.hid hf
  have hpt : (lput xo xe xu).1 = lpt (xo, xe, xu) := rfl
  rw [hpt] at HP
  obtain ⟨b0, b1, b2, -, -, -⟩ := hB0.three
  clear h hb0 hB0 hm0 hle hpt hf
  go_enter Tryz.func67, Tryz.ntmps67
  go_wp2_with fail
  refine HP.out.mono ?_
  clear HP
  rintro e w1 ⟨A, c, m, rfl, hm, ho, hb1⟩
  have hR1 := H0.out.below hb1
  have hb1' := bel_call Hb0.out hb1
  have hB1 := HB0.out.below hb1
  rcases Decidable.em (lck (xo, xe, xu) = 0) with hc | hc
  rotate_left
  · obtain ⟨ev, hev⟩ := errv_ifc hc
    have HO := Lib.hid (show ∃ A c, Ending.returned (errv (lck (xo, xe, xu))) = .returned (errv (rgKeep d (xo, xe, xu) A c).2) ∧ RgG w gr gs q sp bo (rgKeep d (xo, xe, xu) A c).1 (if (rgKeep d (xo, xe, xu) A c).2 = 0 then (xo, xe, xu) else L) n w1 from ⟨none, 0, by
      have e1 : rgKeep d (xo, xe, xu) none 0 = (d, lck (xo, xe, xu)) := if_pos hc
      rw [e1]
      dsimp only
      rw [if_neg hc]
      exact ⟨rfl, q, rfl, hR1, Frg.of_below gr hb1', fun i hi => .inl hi⟩⟩)
    rw [hev] at HO ⊢
    clear hev hc hR1 hb1 hb1' hm ho hB1 H0 HB0 Hb0
    go_wp2_with fail
    go_ret
    exact HO.out
  have hml : m.length ≤ 200 := by rw [hm.out]; exact lpt_len hc
  have hlt := Own.lt ho
  have HPut := Lib.hid (SPut_any hR1.st HF.out hl lname (by decide) m (Own.sl ho) (fun hne ad hA e => by
    have h1 := (hlt ad.block (by rw [hA]; rfl)).1
    have h2 := Hqg.out
    simp at h1
    omega) (by omega))
  obtain rfl := hm.out
  rw [hc, show errv 0 = Value.nilIface from rfl]
  unfold lname at HPut
  obtain ⟨x0, x1, x2, x3, x4, x5, x6⟩ := hR1.blk.sevC
  have HR1 := Lib.hid hR1
  have HB1 := Lib.hid hB1
  have Hb1 := Lib.hid hb1'
  clear hm ho hb1 hb1' hR1 hB1 H0 HB0 Hb0 hlt b0 b1 b2
  go_wp2_with fail
  refine HPut.out.mono ?_
  clear HPut
  rintro e w2 ⟨A2, c2, rfl, q2, hg2, hD2, hF2, hM2, -⟩
  have hE : ∀ r, sPut svl Sv.nil d [108, 101, 97, 115, 101] ⟨A2, c2, lpt (xo, xe, xu)⟩ = r → rgKeep d (xo, xe, xu) A2 c2 = r := fun r hr => by rw [← hr]; exact if_neg (by rw [hc]; simp)
  have hR2 := HR1.out.act hg2 hD2 hF2 hM2
  have hne : w.heap.size ≠ gr := by have := Hg.out; omega
  have hBx : Blk w2 w.heap.size 56 #[.int .i64 xo, .int .i64 xe, .int .i64 xu] := (hF2.block _ HB1.out.lt HNq.out).trans HB1.out
  generalize sPut svl Sv.nil d [108, 101, 97, 115, 101] ⟨A2, c2, lpt (xo, xe, xu)⟩ = r at *
  obtain ⟨d2, k2⟩ := r
  dsimp only at hR2 ⊢
  have hE2 := hE _ rfl
  have HF2 := Lib.hid ((Frg.of_below (q := q) gr Hb1.out).trans (Frg.of gr hF2) (fun i hi => .inl hi))
  have HM2 := Lib.hid (show ∀ i, q2.M i → q.M i ∨ w.heap.size ≤ i from fun i hi => by
    rcases hM2 i hi with h1 | h1
    · exact .inl h1
    · have := Hb1.out.size; exact .inr (by omega))
  have HE := Lib.hid hE2
  have Hg2 := Lib.hid hg2
  rcases Decidable.em (k2 = 0) with h0 | h0
  rotate_left
  · obtain ⟨ev, hev⟩ := errv_ifc h0
    have HO := Lib.hid (show ∃ A c, Ending.returned (errv k2) = .returned (errv (rgKeep d (xo, xe, xu) A c).2) ∧ RgG w gr gs q sp bo (rgKeep d (xo, xe, xu) A c).1 (if (rgKeep d (xo, xe, xu) A c).2 = 0 then (xo, xe, xu) else L) n w2 from ⟨A2, c2, by
      rw [HE.out]
      dsimp only
      rw [if_neg h0]
      exact ⟨rfl, q2, Hg2.out, hR2, HF2.out, HM2.out⟩⟩)
    rw [hev] at HO ⊢
    clear hev h0 hR2 hBx HF2 HM2 hF2 hM2 hD2 hg2 hE hE2 HE x0 x1 x2 x3 x4 x5 x6 HR1 HB1 Hb1
    go_wp2_with fail
    go_ret
    exact HO.out
  subst h0
  obtain ⟨y0, y1, y2, y3, y4, y5, y6⟩ := hR2.blk.sevC
  have yf3 := hR2.blk.frozen 3
  have yf4 := hR2.blk.frozen 4
  have yf5 := hR2.blk.frozen 5
  obtain ⟨z0, z1, z2, -, -, -⟩ := hBx.three
  have HR3 := Lib.hid (hR2.set (L' := (xo, xe, xu)) (m := n) ((((Wr.refl _ _).set_ 3 (.int .i64 xo)).set_ 4 (.int .i64 xe)).set_ 5 (.int .i64 xu)) (((hR2.blk.set_ 3 (.int .i64 xo)).set_ 4 (.int .i64 xe)).set_ 5 (.int .i64 xu)))
  have HF3 := Lib.hid (HF2.out.wr ((((Wr.refl _ _).set_ 3 (.int .i64 xo)).set_ 4 (.int .i64 xe)).set_ 5 (.int .i64 xu)))
  rw [show errv 0 = Value.nilIface from rfl]
  clear hR2 hBx HF2 hF2 hM2 hD2 hg2 hE hE2 x0 x1 x2 x3 x4 x5 x6 HR1 HB1 Hb1
  go_wp2_with fail
  go_ret
  exact ⟨A2, c2, by
    rw [HE.out]
    dsimp only
    rw [if_pos rfl]
    exact ⟨rfl, q2, Hg2.out, HR3.out, HF3.out, HM2.out⟩⟩
theorem res_lease1 {fn : Func} {a : Nat} {tmps : Array Value} {w : World} {g : Nat} {x y z : Value} (hres : fn.results = #[.cell a 56]) (ha : tmps.getD a undef = .pointer (some ⟨g, 0, none⟩)) (hB : Blk w g 56 #[x, y, z]) :
    (results fn tmps).run Tryz.prog w = .ok (.agg #[x, y, z]) w := by
  obtain ⟨b0, b1, b2, -, -, -⟩ := hB.three
  have ha' : tmps[a]?.getD undef = .pointer (some ⟨g, 0, none⟩) := by simpa using ha
  simp [results, hres, go_sem, b0, b1, b2, ha']
set_option maxRecDepth 100000 in
set_option maxHeartbeats 1000000 in
theorem RLease_any {w : World} {gr gs : Nat} {q : Fp} {d : Dk Sv} {sp bo n : Int} {L : L3r} (h : RgM w gr gs q d sp bo L n) :
    Calls Tryz.prog 40 #[.pointer (some ⟨gr, 0, none⟩)] w fun e w' => e = .returned (lv L.1 L.2.1 L.2.2) ∧ Below w.heap.size w w' := by
  have hb := below_new w (.cells #[.int .i64 L.1, .int .i64 L.2.1, .int .i64 L.2.2] 56)
  have hB := Blk.new w 56 #[.int .i64 L.1, .int .i64 L.2.1, .int .i64 L.2.2]
  obtain ⟨x0, x1, x2, x3, x4, x5, x6⟩ := (h.blk.below (below_new w (.cells #[.int .i64 0, .int .i64 0, .int .i64 0] 56))).sevC
  go_enter Tryz.func40, Tryz.ntmps40
  go_wp2_with fail
  exact bodyPost_ret (res_lease1 rfl rfl (g := w.heap.size) hB) rfl ⟨rfl, hb⟩
set_option maxRecDepth 100000 in
set_option maxHeartbeats 1000000 in
theorem RGive_any {w : World} {gr gs : Nat} {q : Fp} {d : Dk Sv} {sp bo n : Int} {L : L3r} (h : RgM w gr gs q d sp bo L n) (hf : Fok d) (hl : d.sure.length + d.pend.length ≤ 900) (o : Int) :
    Calls Tryz.prog 22 #[.pointer (some ⟨gr, 0, none⟩), .int .i64 o] w fun e w' => ∃ k d' L', GivO d L o k d' L' ∧ e = .returned (errv k) ∧ RgG w gr gs q sp bo d' L' n w' := by
  have HG := Lib.hid (Give_any L.1 L.2.1 L.2.2 o w)
  unfold Leased at HG
  have hno := @GivO.no d L o
  have hto := @GivO.gave d L o
  unfold giveL at hno hto
  generalize give L.1 L.2.1 L.2.2 o = t at *
  obtain ⟨t1, t2, t3, t4⟩ := t
  dsimp only at HG hno hto
  obtain ⟨x0, x1, x2, x3, x4, x5, x6⟩ := h.blk.sevC
  have H := Lib.hid h
  have HNo := Lib.hid hno
  have HTo := Lib.hid hto
  clear h hno hto
  go_enter Tryz.func22, Tryz.ntmps22
  go_wp2_with fail
  refine HG.out.mono ?_
  rintro e w1 ⟨rfl, hb1⟩
  have hb2 := bel_alloc hb1 (.cells #[.int .i64 t1, .int .i64 t2, .int .i64 t3] 56)
  have HR2 := Lib.hid (H.out.below hb2)
  have HB2 := Lib.hid (Blk.new w1 56 #[.int .i64 t1, .int .i64 t2, .int .i64 t3])
  have Hb2 := Lib.hid hb2
  clear HG hb1 hb2 x0 x1 x2 x3 x4 x5 x6
  rcases Decidable.em (t4 = 0) with h0 | h0
  rotate_left
  · obtain ⟨ev, hev⟩ := errv_ifc h0
    have HO := Lib.hid (show ∃ k d' L', GivO d L o k d' L' ∧ Ending.returned (errv t4) = .returned (errv k) ∧ RgG w gr gs q sp bo d' L' n (w1.alloc (.cells #[.int .i64 t1, .int .i64 t2, .int .i64 t3] 56)) from ⟨t4, d, L, HNo.out h0, rfl, RgG.still H.out Hb2.out⟩)
    rw [hev] at HO ⊢
    clear hev h0
    go_wp2_with fail
    go_ret
    exact HO.out
  subst h0
  have HK := Lib.hid (RKeep_any HR2.out hf hl (t1, t2, t3))
  rw [show errv 0 = Value.nilIface from rfl]
  go_wp2_with fail
  refine HK.out.mono ?_
  clear HK
  rintro e w3 ⟨A, c, rfl, q3, hg3, hR3, hF3, hM3⟩
  have HG3 := Lib.hid (HTo.out A c (by first | rfl | trivial))
  have HF3 := Lib.hid ((Frg.of_below (q := q) gr Hb2.out).trans hF3 (fun i hi => .inl hi))
  have HM3 := Lib.hid (show ∀ i, q3.M i → q.M i ∨ w.heap.size ≤ i from fun i hi => by
    rcases hM3 i hi with h1 | h1
    · exact .inl h1
    · have := Hb2.out.size; exact .inr (by omega))
  have HR3 := Lib.hid hR3
  have Hg3 := Lib.hid hg3
  clear hR3 hF3 hM3 hg3 HR2 HB2 Hb2
  generalize rgKeep d (t1, t2, t3) A c = r at *
  obtain ⟨d3, k3⟩ := r
  dsimp only at HR3 HG3 ⊢
  go_wp2_with fail
  go_ret
  exact ⟨k3, d3, _, HG3.out, rfl, q3, Hg3.out, HR3.out, HF3.out, HM3.out⟩
end Go.Proofs.YtddmfoldnlafaaaGreatDoor

namespace Go.Proofs.YtddmfoldnlafaaaGreatDoor
open Go.RowKit
attribute [local go_sem ↓] Go.wp_at_zero Go.wp_at_succ

/-- an ask -/
abbrev af (a : Int × Int × Int × Int) : List Value := [iv a.1, iv a.2.1, iv a.2.2.1, iv a.2.2.2]
/-- the walk's memory: from block g on the lease, what both remember, the clocks, the map -/
structure ASt (w W : World) (g n : Nat) (l k1 k2 : L3) (n1 n2 : Int) (D : DataW Unit) : Prop where
  bel : Below w.heap.size w W
  ge : w.heap.size ≤ g
  bl : Blk W g 56 #[iv l.1, iv l.2.1, iv l.2.2]
  bk : Blk W (g + 1) 57 #[iv 0, iv 0, iv 0, iv k1.1, iv k1.2.1, iv k1.2.2, iv k2.1, iv k2.2.1, iv k2.2.2]
  bn : Blk W (g + 1 + 1) 58 #[iv 0, iv n1, iv n2]
  mp : W.ownsMap Tryz.prog 3 (plainElem Tryz.prog 3) (g + 1 + 1 + 1) n D
theorem ASt.lt {w W : World} {g n : Nat} {l k1 k2 : L3} {n1 n2 : Int} {D : DataW Unit} (h : ASt w W g n l k1 k2 n1 n2 D) : g + 1 + 1 + 1 < W.heap.size := h.mp.lt
theorem ASt.below {w W W' : World} {g n : Nat} {l k1 k2 : L3} {n1 n2 : Int} {D : DataW Unit} (h : ASt w W g n l k1 k2 n1 n2 D) (hb : Below W.heap.size W W') : ASt w W' g n l k1 k2 n1 n2 D :=
  ⟨bel_call h.bel hb, h.ge, h.bl.below hb, h.bk.below hb, h.bn.below hb, h.mp.kept (row := none) ⟨hb.os, hb.tape, hb.output, hb.size, fun k hk _ => hb.block k hk⟩ (by simp)⟩
/-- the same, and the lease as it was before the ask, in block gw -/
structure WSt (w W : World) (g n : Nat) (l k1 k2 : L3) (n1 n2 : Int) (D : DataW Unit) (gw : Nat) (lw : L3) : Prop where
  st : ASt w W g n l k1 k2 n1 n2 D
  bw : Blk W gw 56 #[iv lw.1, iv lw.2.1, iv lw.2.2]
  gt : g + 1 + 1 + 1 < gw
section
variable {w W W' : World} {g n gw : Nat} {l k1 k2 lw : L3} {n1 n2 : Int} {D : DataW Unit}
theorem WSt.below (h : WSt w W g n l k1 k2 n1 n2 D gw lw) (hb : Below W.heap.size W W') : WSt w W' g n l k1 k2 n1 n2 D gw lw := ⟨h.st.below hb, h.bw.below hb, h.gt⟩
theorem WSt.alloc (h : WSt w W g n l k1 k2 n1 n2 D gw lw) (o : Obj) : WSt w (W.alloc o) g n l k1 k2 n1 n2 D gw lw := h.below (below_new W o)
theorem WSt.drew (h : WSt w W g n l k1 k2 n1 n2 D gw lw) : WSt w W.drew g n l k1 k2 n1 n2 D gw lw := ⟨⟨⟨h.st.bel.os, h.st.bel.tape, h.st.bel.output, h.st.bel.size, h.st.bel.block⟩, h.st.ge, h.st.bl, h.st.bk, h.st.bn, h.st.mp⟩, h.bw, h.gt⟩
theorem WSt.far (h : WSt w W g n l k1 k2 n1 n2 D gw lw) {b i : Nat} (hb : gw < b) (u : Value) : WSt w (W.setCell ⟨b, i, none⟩ u) g n l k1 k2 n1 n2 D gw lw := by
  have := h.gt
  have := h.st.ge
  exact ⟨⟨bel_set h.st.bel (by show w.heap.size ≤ b; omega) u, h.st.ge, h.st.bl.far (by show g ≠ b; omega) u, h.st.bk.far (by show g + 1 ≠ b; omega) u, h.st.bn.far (by show g + 1 + 1 ≠ b; omega) u, h.st.mp.setCell (by show g + 1 + 1 + 1 ≠ b; omega) u⟩, h.bw.far (by show gw ≠ b; omega) u, h.gt⟩
theorem WSt.far3 (h : WSt w W g n l k1 k2 n1 n2 D gw lw) {b : Nat} (hb : gw < b) (u v x : Value) : WSt w (((W.setCell ⟨b, 0, none⟩ u).setCell ⟨b, 1, none⟩ v).setCell ⟨b, 2, none⟩ x) g n l k1 k2 n1 n2 D gw lw := ((h.far hb u).far hb v).far hb x
/-- a lease is stored into the lease's own block -/
theorem WSt.own (h : WSt w W g n l k1 k2 n1 n2 D gw lw) (x : L3) : WSt w (((W.setCell ⟨g, 0, none⟩ (iv x.1)).setCell ⟨g, 1, none⟩ (iv x.2.1)).setCell ⟨g, 2, none⟩ (iv x.2.2)) g n x k1 k2 n1 n2 D gw lw := by
  have h1 := h.gt
  have h2 := h.st.ge
  have f1 : g + 1 ≠ g := by omega
  have f2 : g + 1 + 1 ≠ g := by omega
  have f3 : g + 1 + 1 + 1 ≠ g := by omega
  have f4 : gw ≠ g := by omega
  exact ⟨⟨bel_set (bel_set (bel_set h.st.bel h2 _) h2 _) h2 _, h2, h.st.bl.set3 _ _ _, ((h.st.bk.far f1 _).far f1 _).far f1 _, ((h.st.bn.far f2 _).far f2 _).far f2 _, ((h.st.mp.setCell f3 _).setCell f3 _).setCell f3 _⟩, ((h.bw.far f4 _).far f4 _).far f4 _, h1⟩
theorem WSt.mem1 (h : WSt w W g n l k1 k2 n1 n2 D gw lw) (x : L3) : WSt w (((W.setCell ⟨g + 1, 3, none⟩ (iv x.1)).setCell ⟨g + 1, 4, none⟩ (iv x.2.1)).setCell ⟨g + 1, 5, none⟩ (iv x.2.2)) g n l x k2 n1 n2 D gw lw := by
  have h1 := h.gt
  have h2 := h.st.ge
  have f1 : g ≠ g + 1 := by omega
  have f2 : g + 1 + 1 ≠ g + 1 := by omega
  have f3 : g + 1 + 1 + 1 ≠ g + 1 := by omega
  have f4 : gw ≠ g + 1 := by omega
  have h3 : w.heap.size ≤ g + 1 := by omega
  exact ⟨⟨bel_set (bel_set (bel_set h.st.bel h3 _) h3 _) h3 _, h2, ((h.st.bl.far f1 _).far f1 _).far f1 _, ((h.st.bk.set_ 3 _).set_ 4 _).set_ 5 _, ((h.st.bn.far f2 _).far f2 _).far f2 _, ((h.st.mp.setCell f3 _).setCell f3 _).setCell f3 _⟩, ((h.bw.far f4 _).far f4 _).far f4 _, h1⟩
theorem WSt.mem2 (h : WSt w W g n l k1 k2 n1 n2 D gw lw) (x : L3) : WSt w (((W.setCell ⟨g + 1, 6, none⟩ (iv x.1)).setCell ⟨g + 1, 7, none⟩ (iv x.2.1)).setCell ⟨g + 1, 8, none⟩ (iv x.2.2)) g n l k1 x n1 n2 D gw lw := by
  have h1 := h.gt
  have h2 := h.st.ge
  have f1 : g ≠ g + 1 := by omega
  have f2 : g + 1 + 1 ≠ g + 1 := by omega
  have f3 : g + 1 + 1 + 1 ≠ g + 1 := by omega
  have f4 : gw ≠ g + 1 := by omega
  have h3 : w.heap.size ≤ g + 1 := by omega
  exact ⟨⟨bel_set (bel_set (bel_set h.st.bel h3 _) h3 _) h3 _, h2, ((h.st.bl.far f1 _).far f1 _).far f1 _, ((h.st.bk.set_ 6 _).set_ 7 _).set_ 8 _, ((h.st.bn.far f2 _).far f2 _).far f2 _, ((h.st.mp.setCell f3 _).setCell f3 _).setCell f3 _⟩, ((h.bw.far f4 _).far f4 _).far f4 _, h1⟩
theorem WSt.clk1 (h : WSt w W g n l k1 k2 n1 n2 D gw lw) (v : Int) : WSt w (W.setCell ⟨g + 1 + 1, 1, none⟩ (iv v)) g n l k1 k2 v n2 D gw lw := by
  have h1 := h.gt
  have h2 := h.st.ge
  exact ⟨⟨bel_set h.st.bel (by show w.heap.size ≤ g + 1 + 1; omega) _, h2, h.st.bl.far (by show g ≠ g + 1 + 1; omega) _, h.st.bk.far (by show g + 1 ≠ g + 1 + 1; omega) _, h.st.bn.set_ 1 _, h.st.mp.setCell (by show g + 1 + 1 + 1 ≠ g + 1 + 1; omega) _⟩, h.bw.far (by show gw ≠ g + 1 + 1; omega) _, h1⟩
theorem WSt.clk2 (h : WSt w W g n l k1 k2 n1 n2 D gw lw) (v : Int) : WSt w (W.setCell ⟨g + 1 + 1, 2, none⟩ (iv v)) g n l k1 k2 n1 v D gw lw := by
  have h1 := h.gt
  have h2 := h.st.ge
  exact ⟨⟨bel_set h.st.bel (by show w.heap.size ≤ g + 1 + 1; omega) _, h2, h.st.bl.far (by show g ≠ g + 1 + 1; omega) _, h.st.bk.far (by show g + 1 ≠ g + 1 + 1; omega) _, h.st.bn.set_ 2 _, h.st.mp.setCell (by show g + 1 + 1 + 1 ≠ g + 1 + 1; omega) _⟩, h.bw.far (by show gw ≠ g + 1 + 1; omega) _, h1⟩
end
theorem ASt.put {w W W' : World} {g n : Nat} {l k1 k2 : L3} {n1 n2 : Int} {D D' : DataW Unit} (h : ASt w W g n l k1 k2 n1 n2 D) (hm : W'.ownsMap Tryz.prog 3 (plainElem Tryz.prog 3) (g + 1 + 1 + 1) (n + 1) D') (hg : W.grownBy W' (some (g + 1 + 1 + 1))) : ASt w W' g (n + 1) l k1 k2 n1 n2 D' := by
  have h2 := h.ge
  have hl := h.lt
  refine ⟨below_of_but hg h.bel (by omega), h2, (hg.block g (by omega) (by simp; omega)).trans h.bl, (hg.block (g + 1) (by omega) (by simp)).trans h.bk, (hg.block (g + 1 + 1) (by omega) (by simp)).trans h.bn, hm⟩
theorem wf_i64 {a : Int} (h0 : 0 ≤ a) (h1 : a ≤ 1099511627776) : (Lit.int .i64 a).wf = true := by
  simp [Lit.wf, IntKind.min, IntKind.max, IntKind.signed, IntKind.bits]; omega
theorem lawI : Maps.Keyed Tryz.prog 3 := Maps.int_keyed Tryz.underlying3
theorem zeroI (w : World) : (zeroValue 3).run Tryz.prog w = .ok (.int .i64 0) w := by kernel_rfl
theorem al_meas {n k : Nat} (h : k < n) : n - (intOf (.int .i64 ((k : Int) + 1))).toNat < n - (intOf (.int .i64 (k : Int))).toNat := by
  have h1 : (intOf (.int .i64 ((k : Int) + 1))).toNat = k + 1 := by show ((k : Int) + 1).toNat = k + 1; omega
  have h2 : (intOf (.int .i64 (k : Int))).toNat = k := by show (k : Int).toNat = k; omega
  rw [h1, h2]
  omega
def ARel (w : World) (bound : Int) (m g : Nat) (x : Value) (wr : World) : Prop :=
  ∃ (i n : Nat) (l k1 k2 : L3) (n1 n2 : Int) (D : DataW Unit), i ≤ m ∧ n ≤ i ∧ x = .int .i64 i ∧ ASt w wr g n l k1 k2 n1 n2 D ∧ Hid (LInv bound i l k1 k2 n1 n2) ∧ Hid (EInv D l)
theorem u64_rem (a m : Int) (hm : 0 < m) : ∃ k : Int, 0 ≤ k ∧ k < m ∧ (IntKind.u64.wrap a).tmod m = k := by
  rw [Int.tmod_eq_emod_of_nonneg (wrap_u64_nonneg a)]
  exact ⟨_, Int.emod_nonneg _ (by omega), Int.emod_lt_of_pos _ hm, rfl⟩

theorem al_rel {w W : World} {bound : Int} {m g i n' : Nat} {l k1 k2 : L3} {n1 n2 : Int} {D : DataW Unit} (hlt : i < m) (hn : n' ≤ i + 1)
    (hS : ASt w W g n' l k1 k2 n1 n2 D) (hL : Hid (LInv bound (i + 1) l k1 k2 n1 n2)) (hE : Hid (EInv D l)) :
    ARel w bound m g (.int .i64 ((i : Int) + 1)) W ∧ m - (intOf (.int .i64 ((i : Int) + 1))).toNat < m - (intOf (.int .i64 (i : Int))).toNat :=
  ⟨⟨i + 1, n', l, k1, k2, n1, n2, D, hlt, hn, by rfl, hS, hL, hE⟩, al_meas hlt⟩
end Go.Proofs.YtddmfoldnlafaaaGreatDoor
