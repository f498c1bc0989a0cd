/- WHAT IT HOLDS: the fixed fact of the cursor's laws, joined. | WHAT IT HOLDS: a cursor saved and loaded: walked. | WHAT IT HOLDS: the law CursorBack, walked. -/
import Derived.Test.YtddmfoldnlafaaaGreatDoorCursorBackG24
import Derived.Test.YtddmfoldnlafaaaGreatDoorCursorBackG28
import Derived.Test.YtddmfoldnlafaaaGreatDoorCursorBackG29
import Derived.Test.YtddmfoldnlafaaaGreatDoorCursorBackG30
import Derived.Test.YtddmfoldnlafaaaGreatDoorCursorBackG15
import Derived.Test.YtddmfoldnlafaaaGreatDoorCursorBackG17
import Derived.Test.YtddmfoldnlafaaaGreatDoorCursorBackG16
import Derived.LaidEql
import Derived.Test.YtddmfoldnlafaaaGreatDoorCursorBackG13
import Derived.Deep.CutBlock
import Derived.Deep.DeepCutAuto
namespace Go.Proofs.YtddmfoldnlafaaaGreatDoor
open Go.RowKit
attribute [local go_sem ↓] Go.wp_at_zero Go.wp_at_succ

theorem frm_c1 {m : List UInt8} (h : m = frm ctx0) : ∃ q : List UInt8, q.length = 4 ∧ m = 5 :: 0 :: 0 :: 0 :: 0 :: 0 :: q := by
  rw [frm_c0] at h
  have h4 := four_len (sumW (txb ctx0))
  generalize four (sumW (txb ctx0)) = q at *
  exact ⟨q, h4, by rw [h]; rfl⟩
set_option maxRecDepth 100000 in
set_option maxHeartbeats 1000000 in
theorem alive18_any (w : World) : Calls Tryz.prog 7 #[] w fun e w' => e = .returned (.bool true) ∧ Below w.heap.size w w' := by
  go_enter Tryz.func7, Tryz.ntmps7
  go_wp2_with fail
  refine (CPut0_any _).mono ?_
  rintro e w1 ⟨A1, c1, m1, rfl, hm1, hs1, hb1⟩
  have HT := Lib.hid (fun W (h : SlB W A1 c1 m1) => CTake0_any A1 c1 m1 W h hm1.out)
  obtain ⟨q, hq, hm1c⟩ : ∃ q : List UInt8, q.length = 4 ∧ m1 = 5 :: 0 :: 0 :: 0 :: 0 :: 0 :: q := frm_c1 hm1.out
  clear hm1
  have h42 : m1.length = 10 := by rw [hm1c]; simp [hq]
  have H5 : Hid (m1[0]? = some 5) := Lib.hid (by rw [hm1c]; rfl)
  have H42 := Lib.hid h42
  clear hm1c hq h42
  go_wp2_with fail
  refine (HT.out _ hs1).mono ?_
  rintro e w2 ⟨rfl, hb2⟩
  have hs2 := Sl.below hs1 hb2
  have hw2 := bel_call hb1 hb2
  have h42 := H42.out
  have hv0 : m1[0]'(by omega) = 5 := by
    have h5 := H5.out
    rw [List.getElem?_eq_getElem (by omega)] at h5
    exact Option.some.inj h5
  obtain ⟨ad, hA, hc0⟩ := Sl.at1 (f := bv) (l := m1) hs2 (k := 0) (by omega)
  subst hA
  rw [hv0] at hc0
  have hc0b : w2.cell? ad = some (.int .u8 5) := by
    have h0 : ad.add 0 = ad := by simp [Addr.add]
    rw [h0] at hc0
    exact hc0
  have hsp := World.cell?_spot hc0b
  obtain ⟨ab, ao, asp⟩ := ad
  dsimp only at hsp
  subst hsp
  have hcap : 10 ≤ c1 := by have := hs1.2.1; omega
  have hC := Blk.new w2 24 #[.int .i64 0, .int .i64 0, .int .i64 0, .int .i64 0, .slice none 0 0]
  have hc0c : (w2.alloc (.cells #[.int .i64 0, .int .i64 0, .int .i64 0, .int .i64 0, .slice none 0 0] 24)).cell? ⟨ab, ao, none⟩ = some (.int .u8 5) := by
    rw [World.cell?_alloc_some _ _ _ (by rw [hc0b]; rfl)]
    exact hc0b
  have hw3 := bel_alloc hw2 (.cells #[.int .i64 0, .int .i64 0, .int .i64 0, .int .i64 0, .slice none 0 0] 24)
  obtain ⟨q0, q1, q2, q3, q4, -⟩ := Blk.five hC
  rw [h42]
  clear hv0 hc0 hc0b HT H42 H5 h42
  go_wp2_with fail
  refine (CrDone_any 0 0 0 0 none 0 0 _).mono ?_
  rintro e w4 ⟨rfl, hb4⟩
  rw [show ((0 : Int) == 0) = true from rfl]
  go_wp2_with fail
  go_ret
  exact ⟨rfl, bel_call hw3 hb4⟩
end Go.Proofs.YtddmfoldnlafaaaGreatDoor

namespace Go.Proofs.YtddmfoldnlafaaaGreatDoor
open Go.RowKit Go.Maps Go.Sort
attribute [local go_sem ↓] Go.wp_at_zero Go.wp_at_succ

theorem errno_compC : ∃ i, Tryz.prog.info? 79 = some i ∧ i.comparable = true := by
  have h : (Tryz.prog.info? 79).map (fun i => i.comparable) = some true := by kernel_rfl
  cases hq : Tryz.prog.info? 79 with
  | none => rw [hq] at h; cases h
  | some i => rw [hq] at h; exact ⟨i, rfl, by injection h⟩
theorem errv_is4C (n : Nat) (W : World) : (binOp .eql 29 (errv n) (.iface 79 (.int .i64 4))).run Tryz.prog W = .ok (.bool (decide (n = 4))) W := by
  rcases errv_cases n with ⟨h0, he⟩ | ⟨k, hk, hke, he⟩
  · subst h0
    rw [he]
    exact run_eql_iface_nil_left W _ _ Tryz.underlying29
  · have h2 : decide (n = 4) = (k == 4) := by
      rw [Bool.eq_iff_iff, decide_eq_true_iff, beq_iff_eq]
      omega
    obtain ⟨i, hi, hc⟩ := errno_compC
    have h : ∀ d : Nat, (Op.equalIn (d + 2) 29 (.iface 79 (.int .i64 k)) (.iface 79 (.int .i64 4))).run Tryz.prog W = .ok (k == 4) W := fun d => by
      simp [Op.equalIn, run_underlying Tryz.underlying29, run_underlying Tryz.underlying79, typeInfo, hi, hc]
    rw [he, h2]
    simp only [binOp]
    simp [Op.equal, Op.maxDepth, h 9998]
theorem errv_g4C (n : Nat) (x y : Operand) (W : World) : (eqGuard .eql 29 x y (errv n) (.iface 79 (.int .i64 4))).run Tryz.prog W = .ok () W := by
  rcases errv_cases n with ⟨h0, he⟩ | ⟨k, hk, hke, he⟩
  · rw [he]
    go_simp
  · rw [he]
    go_simp
theorem sGet_lenC {w : World} {q : Fp} {d : Dk Sv} (h : Dsk w q d) (n : Bs) : (((sGet d n).1.map Sv.l).getD []).length ≤ 65536 := by
  unfold sGet
  split
  · simp
  · unfold dRead
    split
    · simp
    · cases hg : gget n d.shown with
      | none => simp
      | some v => exact h.len v (h.shown_mem (n, v) (gget_mem hg)).2
theorem res_cr3 {fn : Func} {a b c : Nat} {tmps : Array Value} {w : World} {g : Nat} {x y z u v : Value} (hres : fn.results = #[.cell a 24, .tmp b, .tmp c]) (ha : tmps.getD a undef = .pointer (some ⟨g, 0, none⟩)) (hB : Blk w g 24 #[x, y, z, u, v]) :
    (results fn tmps).run Tryz.prog w = .ok (.tuple #[.agg #[x, y, z, u, v], tmps.getD b undef, tmps.getD c undef]) w := by
  obtain ⟨b0, b1, b2, b3, b4, -⟩ := Blk.five hB
  have ha' : tmps[a]?.getD undef = .pointer (some ⟨g, 0, none⟩) := by simpa using ha
  simp [results, hres, go_sem, b0, b1, b2, b3, b4, ha']
set_option maxRecDepth 100000 in
set_option maxHeartbeats 2000000 in
theorem CrSave_any {w : World} {gs : Nat} {q0 : Fp} {d : Dk Sv} (hS : StM w gs q0 d) (hf : Fok d) (hl : d.sure.length + d.pend.length ≤ 900) (n : Bs) (hn : n.length ≤ 100000000) {A : Option Addr} {c : Nat} (f nx t q : Int) (ps : List Pt5) (h : SlP w A c ps) (hI : PtsI ps) (h0 : crchk (f, nx, t, q, ps) = 0) :
    Calls Tryz.prog 14 #[.pointer (some ⟨gs, 0, none⟩), .string ⟨n.toArray⟩, crv f nx t q A ps.length c] w fun e w' => ∃ A' c', e = .returned (errv (sPut svl Sv.nil d n ⟨A', c', frm (crtxt (f, nx, t, q, ps))⟩).2) ∧ Dgo w q0 d (sPut svl Sv.nil d n ⟨A', c', frm (crtxt (f, nx, t, q, ps))⟩).1 w' := by
  have hB := Blk.new w 24 #[.int .i64 f, .int .i64 nx, .int .i64 t, .int .i64 q, .slice A ps.length c]
  have hbw := below_new w (.cells #[.int .i64 f, .int .i64 nx, .int .i64 t, .int .i64 q, .slice A ps.length c] 24)
  have HP := Lib.hid (CrPut_any f nx t q ps _ (h.below hbw) hI)
  have HL := Lib.hid (crtxt_len h0)
  unfold GivesCrb at HP
  have hcp : crput (f, nx, t, q, ps) = frm (crtxt (f, nx, t, q, ps)) := if_pos h0
  rw [h0, show errv 0 = Value.nilIface from rfl, hcp] at HP
  obtain ⟨a0, a1, a2, a3, a4, -⟩ := Blk.five hB
  have HS := Lib.hid hS
  have HF := Lib.hid hf
  have hfl : (frm (crtxt (f, nx, t, q, ps))).length ≤ 100000000 := by
    have := HL.out
    unfold frm txb
    have l1 := vb_le10 (n := (crtxt (f, nx, t, q, ps)).length) (by omega)
    simp only [List.length_append, four_len]
    omega
  clear hS hf h hI h0 hB hcp
  generalize frm (crtxt (f, nx, t, q, ps)) = l at *
  go_enter Tryz.func14, Tryz.ntmps14
  go_wp2_with fail
  refine HP.out.mono ?_
  clear HP
  rintro e w1 ⟨A1, c1, m1, rfl, hm, ho, hb1⟩
  obtain rfl := hm.out
  have hb := bel_call hbw hb1
  have hst1 := HS.out.below hb
  have hlt := HS.out.dsk.ltM (i := q0.g) (.inl rfl)
  have hWr := StPut_any hst1 HF.out hl n hn m1 (Own.sl ho) (fun hne ad hA e => by
    have h1 := (Own.lt ho ad.block (by rw [hA]; rfl)).1
    have h2 := hbw.size
    omega) hfl
  have HWr := Lib.hid hWr
  have Hb := Lib.hid hb
  clear hWr ho hb hb1 hst1 hm a0 a1 a2 a3 a4 hbw
  go_wp2_with fail
  refine HWr.out.mono ?_
  clear HWr
  rintro e w2 ⟨A', c', rfl, q2, hg2, hD2, hF2, hM2, hT2⟩
  have HO := Lib.hid (show ∃ A' c', Ending.returned (errv (sPut svl Sv.nil d n ⟨A', c', m1⟩).2) = .returned (errv (sPut svl Sv.nil d n ⟨A', c', m1⟩).2) ∧ Dgo w q0 d (sPut svl Sv.nil d n ⟨A', c', m1⟩).1 w2 from ⟨A', c', rfl, q2, hg2, hD2, (Frd.of_below Hb.out).trans hF2 (fun i hi => .inl hi), fun i hi => (hM2 i hi).imp id (fun h => Nat.le_trans Hb.out.size h), fun i hi => (hT2 i hi).imp id (fun h => Nat.le_trans Hb.out.size h)⟩)
  have HO2 := Lib.hid (show Dgo w q0 d (sPut svl Sv.nil d n ⟨A', c', m1⟩).1 w2 from ⟨q2, hg2, hD2, (Frd.of_below Hb.out).trans hF2 (fun i hi => .inl hi), fun i hi => (hM2 i hi).imp id (fun h => Nat.le_trans Hb.out.size h), fun i hi => (hT2 i hi).imp id (fun h => Nat.le_trans Hb.out.size h)⟩)
  clear hg2 hD2 hF2 hM2 hT2 HO
  generalize hr : sPut svl Sv.nil d n ⟨A', c', m1⟩ = r at *
  have HR := Lib.hid hr
  clear hr
  obtain ⟨d2, k2⟩ := r
  dsimp only at HO2 ⊢
  generalize hev : errv k2 = ev at *
  have HE := Lib.hid hev
  clear hev
  go_wp2_with fail
  go_ret
  exact ⟨A', c', by rw [HR.out, HE.out]; rfl, by rw [HR.out]; exact HO2.out⟩
/-- what loading gives -/
def crLoad (r : Option Sv × Nat) : Cur × Bool × Nat := if r.2 = 4 then ((0, 0, 0, 0, []), false, 0) else if r.2 ≠ 0 then ((0, 0, 0, 0, []), false, r.2) else ((crTake ((r.1.map Sv.l).getD [])).1, (crTake ((r.1.map Sv.l).getD [])).2 == 0, (crTake ((r.1.map Sv.l).getD [])).2)
set_option maxRecDepth 100000 in
set_option maxHeartbeats 2000000 in
theorem CrLoad_any {w : World} {gs : Nat} {q0 : Fp} {d : Dk Sv} (hS : StM w gs q0 d) (n : Bs) (hn : n.length ≤ 100000000) :
    Calls Tryz.prog 17 #[.pointer (some ⟨gs, 0, none⟩), .string ⟨n.toArray⟩] w fun e w' => ∃ A c m, e = .returned (.tuple #[crv (crLoad (sGet d n)).1.1 (crLoad (sGet d n)).1.2.1 (crLoad (sGet d n)).1.2.2.1 (crLoad (sGet d n)).1.2.2.2.1 A (List.length m) c, .bool (crLoad (sGet d n)).2.1, errv (crLoad (sGet d n)).2.2]) ∧ Hid (m = (crLoad (sGet d n)).1.2.2.2.2) ∧ OwnP w' w.heap.size A c m ∧ Below w.heap.size w w' := by
  have hb0 := below_new w (.cells crz 24)
  have hB0 := Blk.new w 24 crz
  have HG := Lib.hid (SGet_any (hS.below hb0) n hn)
  have hsz := sGet_lenC hS.dsk n
  clear hS
  generalize sGet d n = r at *
  obtain ⟨v, k⟩ := r
  dsimp only at HG hsz
  have he4 := errv_is4C k
  have hg4 := errv_g4C k
  have HCr := Lib.hid (show crLoad (v, k) = if k = 4 then ((0, 0, 0, 0, []), false, 0) else if k ≠ 0 then ((0, 0, 0, 0, []), false, k) else ((crTake ((v.map Sv.l).getD [])).1, (crTake ((v.map Sv.l).getD [])).2 == 0, (crTake ((v.map Sv.l).getD [])).2) from rfl)
  generalize crLoad (v, k) = cl at *
  generalize (v.map Sv.l).getD [] = tl at *
  go_enter Tryz.func17, Tryz.ntmps17
  go_wp2_with fail
  refine HG.out.mono ?_
  rintro e w1 ⟨A1, c1, m1, rfl, hm, ho, hb1'⟩
  obtain rfl := hm.out
  have hb1 := bel_call hb0 hb1'
  have hB2 := Blk.below hB0 hb1'
  have hs1 := Own.sl ho
  clear HG hm ho hb1' hb0 hB0
  by_cases hk4 : k = 4
  · have HK := Lib.hid (HCr.out.trans (if_pos hk4))
    subst hk4
    have hd4 : decide (4 = 4) = true := rfl
    rw [hd4] at he4
    generalize errv 4 = ev at *
    clear hd4 HCr hs1
    obtain ⟨b0, b1, b2, b3, b4, bf0, bf1, bf2, bf3, bf4⟩ := hB2.five
    have HBz := Lib.hid (hB2.set5 (.int .i64 0) (.int .i64 0) (.int .i64 0) (.int .i64 0) (.slice none 0 0))
    have hbz := bel_set5 hb1 (g := w.heap.size) (Nat.le_refl _) (.int .i64 0) (.int .i64 0) (.int .i64 0) (.int .i64 0) (.slice none 0 0)
    have Hbz := Lib.hid hbz
    clear hB2 hb1 hbz
    go_wp2_with fail
    exact bodyPost_ret (res_cr3 rfl rfl (g := w.heap.size) HBz.out) rfl ⟨none, 0, [], by rw [HK.out]; exact rfl, (show _ = _ from by rw [HK.out]), Own.none_ _ _ _ _, Hbz.out⟩
  have hd4 : decide (k = 4) = false := decide_eq_false hk4
  rw [hd4] at he4
  replace HCr := Lib.hid (HCr.out.trans (if_neg hk4))
  clear hd4 hk4
  by_cases h0 : k = 0
  rotate_left
  · have HK := Lib.hid (HCr.out.trans (if_pos h0))
    obtain ⟨ev, hev⟩ : ∃ ev : Int, errv k = .iface 79 (.int .i64 ev) := by
      rcases errv_cases k with ⟨h1, -⟩ | ⟨k', -, -, h1⟩
      · exact absurd h1 h0
      · exact ⟨k', h1⟩
    have HE := Lib.hid hev
    rw [hev] at he4 hg4 ⊢
    clear hev h0 HCr hs1
    obtain ⟨b0, b1, b2, b3, b4, bf0, bf1, bf2, bf3, bf4⟩ := hB2.five
    have HBz := Lib.hid (hB2.set5 (.int .i64 0) (.int .i64 0) (.int .i64 0) (.int .i64 0) (.slice none 0 0))
    have hbz := bel_set5 hb1 (g := w.heap.size) (Nat.le_refl _) (.int .i64 0) (.int .i64 0) (.int .i64 0) (.int .i64 0) (.slice none 0 0)
    have Hbz := Lib.hid hbz
    clear hB2 hb1 hbz
    go_wp2_with fail
    exact bodyPost_ret (res_cr3 rfl rfl (g := w.heap.size) HBz.out) rfl ⟨none, 0, [], by rw [HK.out]; exact (by rw [HE.out]; rfl), (show _ = _ from by rw [HK.out]), Own.none_ _ _ _ _, Hbz.out⟩
  subst h0
  have HK := Lib.hid (HCr.out.trans (if_neg (by simp)))
  have HT := Lib.hid (CTake_any A1 c1 m1 w1 hs1 (by omega))
  unfold GivesCr at HT
  generalize crTake m1 = t at *
  obtain ⟨⟨x1, x2, x3, x4, x5⟩, k2⟩ := t
  dsimp only at HT HK
  rw [show errv 0 = Value.nilIface from rfl] at he4 hg4 ⊢
  clear HCr hs1
  go_wp2_with fail
  refine HT.out.mono ?_
  clear HT he4 hg4
  rintro e w2 ⟨A2, c2, m2, rfl, hm2, ho2, hb2⟩
  have hb3 := bel_call hb1 hb2
  have hB3 := Blk.below hB2 hb2
  have hb4 := below_new w2 (.cells #[.int .i64 x1, .int .i64 x2, .int .i64 x3, .int .i64 x4, .slice A2 m2.length c2] 24)
  have hB9 := Blk.new w2 24 #[.int .i64 x1, .int .i64 x2, .int .i64 x3, .int .i64 x4, .slice A2 m2.length c2]
  have hB4 := Blk.below hB3 hb4
  have ho4 := Own.below ho2 hb4
  have hb5 := bel_call hb3 hb4
  have hlt9 : w.heap.size < w2.heap.size := hB3.lt
  have hlo1 : w.heap.size + 1 ≤ w1.heap.size := hB2.lt
  clear hb1 hB2 hb2 hb3 hB3 hb4 ho2
  go_upto_region 7 with (fail)
  refine gen1 (T := fun W => Blk W w.heap.size 24 crz ∧ Blk W w2.heap.size 24 #[.int .i64 x1, .int .i64 x2, .int .i64 x3, .int .i64 x4, .slice A2 m2.length c2] ∧ OwnP W w1.heap.size A2 c2 m2 ∧ Below w.heap.size w W) ⟨hB4, hB9, ho4, hb5⟩ (fun w3 hT => ?_)
  clear hB4 hB9 ho4 hb5
  obtain ⟨hB4, hB9, ho4, hb5⟩ := hT
  generalize w2.heap.size = g9 at *
  have hisn : ∀ W, (binOp .eql 29 (errv k2) .nilIface).run Tryz.prog W = .ok (.bool (k2 == 0)) W := fun W => by
    rcases errv_cases k2 with ⟨h0, he⟩ | ⟨k, hk, hke, he⟩
    · subst h0
      rw [he]
      go_simp
    · rw [he]
      have h2 : (k2 == 0) = false := by rw [beq_eq_false_iff_ne]; omega
      rw [h2]
      go_simp
  have hisg : ∀ (x : Operand) W, (eqGuard .eql 29 x (.const .nilIface) (errv k2) .nilIface).run Tryz.prog W = .ok () W := fun x W => by
    rcases errv_cases k2 with ⟨h0, he⟩ | ⟨k, hk, hke, he⟩
    · rw [he]
      go_simp
    · rw [he]
      go_simp
  have HOut := Lib.hid (show OwnP (World.drew (((((w3.setCell ⟨w.heap.size, 0, none⟩ (.int .i64 x1)).setCell ⟨w.heap.size, 1, none⟩ (.int .i64 x2)).setCell ⟨w.heap.size, 2, none⟩ (.int .i64 x3)).setCell ⟨w.heap.size, 3, none⟩ (.int .i64 x4)).setCell ⟨w.heap.size, 4, none⟩ (.slice A2 m2.length c2))) w.heap.size A2 c2 m2 from World.ownsRow.drew (Own.more (Own.set5 ho4 (g := w.heap.size) (by omega) _ _ _ _ _) (by omega)))
  have HBel := Lib.hid (show Below w.heap.size w (World.drew (((((w3.setCell ⟨w.heap.size, 0, none⟩ (.int .i64 x1)).setCell ⟨w.heap.size, 1, none⟩ (.int .i64 x2)).setCell ⟨w.heap.size, 2, none⟩ (.int .i64 x3)).setCell ⟨w.heap.size, 3, none⟩ (.int .i64 x4)).setCell ⟨w.heap.size, 4, none⟩ (.slice A2 m2.length c2))) from (bel_set5 hb5 (Nat.le_refl _) _ _ _ _ _).drew)
  have HBr := Lib.hid (show Blk (World.drew (((((w3.setCell ⟨w.heap.size, 0, none⟩ (.int .i64 x1)).setCell ⟨w.heap.size, 1, none⟩ (.int .i64 x2)).setCell ⟨w.heap.size, 2, none⟩ (.int .i64 x3)).setCell ⟨w.heap.size, 3, none⟩ (.int .i64 x4)).setCell ⟨w.heap.size, 4, none⟩ (.slice A2 m2.length c2))) w.heap.size 24 _ from (hB4.set5 _ _ _ _ _).drew)
  have hst0 : Blk (World.drew w3) g9 24 #[.int .i64 x1, .int .i64 x2, .int .i64 x3, .int .i64 x4, .slice A2 m2.length c2] := hB9.drew
  have hst9 : Blk (World.drew (((((w3.setCell ⟨w.heap.size, 0, none⟩ (.int .i64 x1)).setCell ⟨w.heap.size, 1, none⟩ (.int .i64 x2)).setCell ⟨w.heap.size, 2, none⟩ (.int .i64 x3)).setCell ⟨w.heap.size, 3, none⟩ (.int .i64 x4)).setCell ⟨w.heap.size, 4, none⟩ (.slice A2 m2.length c2))) g9 24 #[.int .i64 x1, .int .i64 x2, .int .i64 x3, .int .i64 x4, .slice A2 m2.length c2] := (hB9.wr (wr5 w3 w.heap.size _ _ _ _ _) (by omega)).drew
  obtain ⟨b0, b1, b2, b3, b4, bf0, bf1, bf2, bf3, bf4⟩ := hB4.five
  obtain ⟨e0, e1, e2, e3, e4, ef0, ef1, ef2, ef3, ef4⟩ := hB4.drew.five
  clear hB4 hB9 ho4 hb5
  obtain ⟨ev, hev2⟩ : ∃ ev, errv k2 = ev := ⟨_, rfl⟩
  rw [hev2]
  simp only [hev2] at hisn hisg
  have HE2 := Lib.hid hev2
  clear hev2
  refine wp_region_held_drew (S := (fun W => Blk W g9 24 #[.int .i64 x1, .int .i64 x2, .int .i64 x3, .int .i64 x4, .slice A2 m2.length c2])) (by kernel_rfl) ?_ (fun hHeld => ?_)
  · first | with_reducible exact hst0 | with_reducible exact hHeld | with_reducible exact hst9
  refine wpAnyH_take (i := 0) (oi := ⟨some 35, _, _, _, _, _⟩) (v := ?_) rfl (by kernel_rfl) (by kernel_rfl) (by kernel_rfl) (fun _ _ _ h => h) (Or.inl ⟨by kernel_rfl, ?_⟩) (by assumption) ?_
  rotate_left
  · (intro wS hSw; (try dsimp only at hSw); obtain ⟨z0, z1, z2, z3, z4, -⟩ := hSw.five; clear hSw; go_simp; (try with_reducible rfl))
  (try simp only [Act.put, List.setIfInBounds_toArray, List.set_cons_zero, List.set_cons_succ])
  refine wpAnyH_take (i := 1) (oi := ⟨some 36, _, _, _, _, _⟩) (v := ?_) rfl (by kernel_rfl) (by kernel_rfl) (by kernel_rfl) (fun _ _ _ h => h) (Or.inl ⟨by kernel_rfl, ?_⟩) (by assumption) ?_
  rotate_left
  · (intro wS hSw; (try dsimp only at hSw); obtain ⟨z0, z1, z2, z3, z4, -⟩ := hSw.five; clear hSw; go_simp; (try with_reducible rfl))
  (try simp only [Act.put, List.setIfInBounds_toArray, List.set_cons_zero, List.set_cons_succ])
  refine wpAnyH_take (i := 2) (oi := ⟨some 37, _, _, _, _, _⟩) (v := ?_) rfl (by kernel_rfl) (by kernel_rfl) (by kernel_rfl) (fun _ _ _ h => h) (Or.inl ⟨by kernel_rfl, ?_⟩) (by assumption) ?_
  rotate_left
  · (intro wS hSw; (try dsimp only at hSw); obtain ⟨z0, z1, z2, z3, z4, -⟩ := hSw.five; clear hSw; go_simp; (try with_reducible rfl))
  (try simp only [Act.put, List.setIfInBounds_toArray, List.set_cons_zero, List.set_cons_succ])
  refine wpAnyH_take (i := 3) (oi := ⟨some 38, _, _, _, _, _⟩) (v := ?_) rfl (by kernel_rfl) (by kernel_rfl) (by kernel_rfl) (fun _ _ _ h => h) (Or.inl ⟨by kernel_rfl, ?_⟩) (by assumption) ?_
  rotate_left
  · (intro wS hSw; (try dsimp only at hSw); obtain ⟨z0, z1, z2, z3, z4, -⟩ := hSw.five; clear hSw; go_simp; (try with_reducible rfl))
  (try simp only [Act.put, List.setIfInBounds_toArray, List.set_cons_zero, List.set_cons_succ])
  refine wpAnyH_ready (rs := [4]) (by kernel_rfl) (by simp) ?_
  refine AllReadyH.cons (o := ⟨none, _, _, _, _, _⟩) rfl (fun K hK => ?_) AllReadyH.nil
  go_simp
  refine hK.out _ _ ?_ (fun hHeld => ?_)
  · ((try dsimp only); (first | with_reducible exact hst0 | with_reducible exact hHeld | with_reducible exact hst9))
  clear hK K
  (try simp only [Act.put, List.setIfInBounds_toArray, List.set_cons_zero, List.set_cons_succ])
  refine wpAnyH_take (i := 5) (oi := ⟨some 5, _, _, _, _, _⟩) (v := ?_) rfl (by kernel_rfl) (by kernel_rfl) (by kernel_rfl) (fun _ _ _ h => h) (Or.inl ⟨by kernel_rfl, ?_⟩) (by assumption) ?_
  rotate_left
  · (intro wS hSw; (try dsimp only at hSw); obtain ⟨z0, z1, z2, z3, z4, -⟩ := hSw.five; clear hSw; go_simp; (try with_reducible rfl))
  (try simp only [Act.put, List.setIfInBounds_toArray, List.set_cons_zero, List.set_cons_succ])
  refine wpAnyH_take (i := 6) (oi := ⟨some 6, _, _, _, _, _⟩) (v := ?_) rfl (by kernel_rfl) (by kernel_rfl) (by kernel_rfl) (fun _ _ _ h => h) (Or.inl ⟨by kernel_rfl, ?_⟩) (by assumption) ?_
  rotate_left
  · (intro wS hSw; (try dsimp only at hSw); obtain ⟨z0, z1, z2, z3, z4, -⟩ := hSw.five; clear hSw; go_simp; (try with_reducible rfl))
  (try simp only [Act.put, List.setIfInBounds_toArray, List.set_cons_zero, List.set_cons_succ])
  refine wpAnyH_done (by kernel_rfl) ?_ _
  clear b0 b1 b2 b3 b4 bf0 bf1 bf2 bf3 bf4 e0 e1 e2 e3 e4 ef0 ef1 ef2 ef3 ef4
  go_wp2_with fail
  exact bodyPost_ret (res_cr3 rfl rfl (g := w.heap.size) HBr.out) rfl ⟨A2, c2, m2, by rw [HK.out]; dsimp only; rw [HE2.out]; rfl, (show _ = _ from by rw [HK.out]; exact hm2.out), HOut.out, HBel.out⟩
end Go.Proofs.YtddmfoldnlafaaaGreatDoor

namespace Go.Proofs.YtddmfoldnlafaaaGreatDoor
open Go.RowKit Go.Maps Go.Sort
attribute [local go_sem ↓] Go.wp_at_zero Go.wp_at_succ

theorem u64_remC (a m : Int) (hm : 0 < m) : ∃ k : Int, 0 ≤ k ∧ k < m ∧ (IntKind.u64.wrap a).tmod m = k := by
  rw [Int.tmod_eq_emod_of_nonneg (wrap_u64_nonneg a)]
  exact ⟨_, Int.emod_nonneg _ (by omega), Int.emod_lt_of_pos _ hm, rfl⟩
theorem errv_nilC (n : Nat) (W : World) : (binOp .eql 29 (errv n) .nilIface).run Tryz.prog W = .ok (.bool (n == 0)) W := by
  rcases errv_cases n with ⟨h0, he⟩ | ⟨k, hk, hke, he⟩
  · subst h0
    rw [he]
    go_simp
  · rw [he]
    have h2 : (n == 0) = false := by rw [beq_eq_false_iff_ne]; omega
    rw [h2]
    go_simp
theorem errv_nilneC (n : Nat) (W : World) : (binOp .neq 29 (errv n) .nilIface).run Tryz.prog W = .ok (.bool (!(n == 0))) W := by
  rcases errv_cases n with ⟨h0, he⟩ | ⟨k, hk, hke, he⟩
  · subst h0
    rw [he]
    go_simp
  · rw [he]
    have h2 : (n == 0) = false := by rw [beq_eq_false_iff_ne]; omega
    rw [h2]
    go_simp
theorem errv_nilgneC (n : Nat) (x : Operand) (W : World) : (eqGuard .neq 29 x (.const .nilIface) (errv n) .nilIface).run Tryz.prog W = .ok () W := by
  rcases errv_cases n with ⟨h0, he⟩ | ⟨k, hk, hke, he⟩
  · rw [he]
    go_simp
  · rw [he]
    go_simp
theorem errv_nilgC (n : Nat) (x : Operand) (W : World) : (eqGuard .eql 29 x (.const .nilIface) (errv n) .nilIface).run Tryz.prog W = .ok () W := by
  rcases errv_cases n with ⟨h0, he⟩ | ⟨k, hk, hke, he⟩
  · rw [he]
    go_simp
  · rw [he]
    go_simp
/-- a block that a disk's acts leave alone -/
structure OffC (W : World) (q : Fp) (B : Nat) (t : TypeId) (cs : Array Value) : Prop where
  blk : Blk W B t cs
  nm : ¬ q.M B
section
variable {W W' : World} {q q' : Fp} {B : Nat} {t : TypeId} {cs : Array Value}
theorem OffC.below (h : OffC W q B t cs) (hb : Below W.heap.size W W') : OffC W' q B t cs := ⟨h.blk.below hb, h.nm⟩
theorem OffC.act (h : OffC W q B t cs) (hF : Frd q W W') (hM : ∀ i, q'.M i → q.M i ∨ W.heap.size ≤ i) : OffC W' q' B t cs := ⟨(hF.block B h.blk.lt h.nm).trans h.blk, fun hq => by
  rcases hM B hq with h1 | h1
  · exact h.nm h1
  · have := h.blk.lt
    omega⟩
end
theorem pgo_I {z : Int} : ∀ {l : List Pt5} {a : Int}, pgo z a l = 0 → 0 ≤ a → z ≤ 1048576 → PtsI l
  | [], _, _, _, _ => fun p hp => by cases hp
  | p :: r, a, h, h0, hz => by
    unfold pgo at h
    by_cases h1 : ptchk p a ≠ 0
    · rw [if_pos h1] at h; exact absurd h h1
    rw [if_neg h1] at h
    obtain ⟨g1, g2, g3, g4, g5⟩ := ptchk_ok (Decidable.byContradiction h1)
    have ih := pgo_I h (by omega) hz
    have he := (pgo_end h).2
    intro x hx
    rcases List.mem_cons.1 hx with rfl | hx
    · exact ⟨by unfold I64; omega, by unfold I64; omega, by unfold I64; omega⟩
    · exact ih x hx
theorem crchk_I {x : Cur} (h : crchk x = 0) : PtsI x.2.2.2.2 := by
  obtain ⟨h1, h2, h3, h4, h5, h6⟩ := crchk_ok h
  exact pgo_I h6 h1.1 h2.2
theorem crTake_bad {b : List UInt8} (h : (crTake b).2 ≠ 0) : (crTake b).1 = (0, 0, 0, 0, []) := by
  unfold crTake at h ⊢
  by_cases hf : (fone b).2 ≠ 0
  · rw [if_pos hf]
  rw [if_neg hf] at h ⊢
  unfold crEnd at h ⊢
  by_cases he : rEnd (crRead ((fone b).1, 0)).2 ≠ 0
  · rw [if_pos he]
  rw [if_neg he] at h ⊢
  by_cases hc : crchk (crRead ((fone b).1, 0)).1 ≠ 0
  · rw [if_pos hc]
  rw [if_neg hc] at h
  exact absurd rfl h
def cname : Bs := [99]
theorem cname_ok : snamed cname = true := by kernel_rfl
/-- a file put onto an empty disk with a fuse, the power gone, and come again: there, or not -/
theorem save_open (z : Int) (v : Sv) : ∃ d6, sOpen Sv.nil (dStart (dCut [] (sPut svl Sv.nil { dk0 1048576 with fuse := z } cname v).1)) = (d6, 0) ∧ Fre d6 ∧ d6.pend = [] ∧ (Ris d6.sure → d6.sure = [(cname, v)] ∨ (d6.sure = [] ∧ (sPut svl Sv.nil { dk0 1048576 with fuse := z } cname v).2 ≠ 0)) := by
  have hp := put_out svl Sv.nil (d := { dk0 1048576 with fuse := z }) rfl rfl Ris.nil (fun _ _ => rfl) cname v
  have hT : gput cname v ({ dk0 1048576 with fuse := z } : Dk Sv).sure = [(cname, v)] := rfl
  rw [hT] at hp
  have hRT : Ris [(cname, v)] := by
    have := (Ris.nil : Ris ([] : List (Bs × Sv))).put cname v
    exact this
  have hST : Sna [(cname, v)] := by
    have := Sna.put (S := ([] : List (Bs × Sv))) (fun _ _ => rfl) cname_ok v
    exact this
  have hS0 : ({ dk0 1048576 with fuse := z } : Dk Sv).sure = [] := rfl
  rw [hS0] at hp
  generalize sPut svl Sv.nil { dk0 1048576 with fuse := z } cname v = r at *
  have e : kept [] ([] : List (Chg Sv)) = [] := by unfold kept; simp
  have key : ∀ (d : Dk Sv) (S : List (Bs × Sv)), d.down = false → d.pend = [] → d.sure = S → Ris S → Sna S → ∃ d6, sOpen Sv.nil (dStart (dCut [] d)) = (d6, 0) ∧ Fre d6 ∧ d6.pend = [] ∧ (Ris d6.sure → d6.sure = S) := fun d S h1 h2 h3 hr hs => by
    obtain ⟨room, S', p, fuse, dn⟩ := d
    dsimp only at h1 h2 h3
    subst h1 h2 h3
    have e2 : dStart (dCut [] (⟨room, S', [], fuse, false⟩ : Dk Sv)) = ⟨room, S', [], -1, false⟩ := by
      unfold dCut dStart
      rw [e]
      rfl
    rw [e2]
    exact open_up (z := Sv.nil) (room := room) hr hr hs (names_of hs) (fun _ _ => rfl)
  cases hp with
  | done d hd hp hs hn =>
    obtain ⟨d6, h1, h2, h3, h4⟩ := key d _ hd hp hs hRT hST
    exact ⟨d6, h1, h2, h3, fun hr => .inl (h4 hr)⟩
  | left d hd hp hs k h0 h1 =>
    obtain ⟨d6, h1, h2, h3, h4⟩ := key d _ hd hp hs Ris.nil (fun _ _ => rfl)
    exact ⟨d6, h1, h2, h3, fun hr => .inr ⟨h4 hr, h0⟩⟩
  | down d hd hn hl h =>
    obtain ⟨d6, h1, h2, h3, h4⟩ := h []
    refine ⟨d6, h1, h2, h3, fun hr => ?_⟩
    rcases h4 hr with h5 | h5
    · exact .inr ⟨h5, by simp⟩
    · exact .inl h5
theorem load_there {d : Dk Sv} {v : Sv} {x : Cur} (hf : Fre d) (hp : d.pend = []) (hs : d.sure = [(cname, v)]) (hv : v.l = frm (crtxt x)) (hx : crchk x = 0) : crLoad (sGet d cname) = (x, true, 0) := by
  have hg : sGet d cname = (some v, 0) := by
    unfold sGet
    rw [if_neg (by rw [cname_ok]; simp)]
    unfold dRead
    rw [if_neg (by rw [hf.2]; simp)]
    have : d.shown = [(cname, v)] := by unfold Dk.shown; rw [hp, hs]; rfl
    rw [this]
    rfl
  rw [hg]
  unfold crLoad
  rw [if_neg (by simp), if_neg (by simp)]
  show ((crTake v.l).1, (crTake v.l).2 == 0, (crTake v.l).2) = _
  rw [hv, crTake_put hx]
  rfl
theorem load_none {d : Dk Sv} (hf : Fre d) (hp : d.pend = []) (hs : d.sure = []) : crLoad (sGet d cname) = ((0, 0, 0, 0, []), false, 0) := by
  have hg : sGet d cname = (none, 4) := by
    unfold sGet
    rw [if_neg (by rw [cname_ok]; simp)]
    unfold dRead
    rw [if_neg (by rw [hf.2]; simp)]
    have : d.shown = [] := by unfold Dk.shown; rw [hp, hs]; rfl
    rw [this]
    rfl
  rw [hg]
  exact if_pos rfl
end Go.Proofs.YtddmfoldnlafaaaGreatDoor
