/- WHAT IT HOLDS: the fixed fact of the cursor's laws, joined. | WHAT IT HOLDS: a cursor saved and loaded: walked. | WHAT IT HOLDS: the law CursorBack, walked. | WHAT IT HOLDS: the document's parts, walked: compared, appended, made of the program's. -/
import Derived.Test.YtabnndjdkjkciaaGreatDoorCursorKeepsG19
import Derived.Test.YtabnndjdkjkciaaGreatDoorCursorKeepsG21
import Derived.Test.YtabnndjdkjkciaaGreatDoorCursorKeepsG22
import Derived.Test.YtabnndjdkjkciaaGreatDoorCursorKeepsG23
import Derived.Test.YtabnndjdkjkciaaGreatDoorCursorKeepsG12
import Derived.Test.YtabnndjdkjkciaaGreatDoorCursorKeepsG13
import Derived.LaidEql
import Derived.Test.YtabnndjdkjkciaaGreatDoorCursorKeepsG10
import Derived.Test.YtabnndjdkjkciaaGreatDoorCursorKeepsG11
import Derived.Deep.CutBlock
import Derived.Deep.DeepCutAuto
namespace Go.Proofs.YtabnndjdkjkciaaGreatDoor
open Go.RowKit
attribute [local go_sem ↓] Go.wp_at_zero Go.wp_at_succ

theorem frm_c1 {m : List UInt8} (h : m = frm ctx0) : ∃ q : List UInt8, q.length = 4 ∧ m = 5 :: 0 :: 0 :: 0 :: 0 :: 0 :: q := by
  rw [frm_c0] at h
  have h4 := four_len (sumW (txb ctx0))
  generalize four (sumW (txb ctx0)) = q at *
  exact ⟨q, h4, by rw [h]; rfl⟩
set_option maxRecDepth 100000 in
set_option maxHeartbeats 1000000 in
theorem alive18_any (w : World) : Calls Tryz.prog 26 #[] w fun e w' => e = .returned (.bool true) ∧ Below w.heap.size w w' := by
  go_enter Tryz.func26, Tryz.ntmps26
  go_wp2_with fail
  refine (CPut0_any _).mono ?_
  rintro e w1 ⟨A1, c1, m1, rfl, hm1, hs1, hb1⟩
  have HT := Lib.hid (fun W (h : SlB W A1 c1 m1) => CTake0_any A1 c1 m1 W h hm1.out)
  obtain ⟨q, hq, hm1c⟩ : ∃ q : List UInt8, q.length = 4 ∧ m1 = 5 :: 0 :: 0 :: 0 :: 0 :: 0 :: q := frm_c1 hm1.out
  clear hm1
  have h42 : m1.length = 10 := by rw [hm1c]; simp [hq]
  have H5 : Hid (m1[0]? = some 5) := Lib.hid (by rw [hm1c]; rfl)
  have H42 := Lib.hid h42
  clear hm1c hq h42
  go_wp2_with fail
  refine (HT.out _ hs1).mono ?_
  rintro e w2 ⟨rfl, hb2⟩
  have hs2 := Sl.below hs1 hb2
  have hw2 := bel_call hb1 hb2
  have h42 := H42.out
  have hv0 : m1[0]'(by omega) = 5 := by
    have h5 := H5.out
    rw [List.getElem?_eq_getElem (by omega)] at h5
    exact Option.some.inj h5
  obtain ⟨ad, hA, hc0⟩ := Sl.at1 (f := bv) (l := m1) hs2 (k := 0) (by omega)
  subst hA
  rw [hv0] at hc0
  have hc0b : w2.cell? ad = some (.int .u8 5) := by
    have h0 : ad.add 0 = ad := by simp [Addr.add]
    rw [h0] at hc0
    exact hc0
  have hsp := World.cell?_spot hc0b
  obtain ⟨ab, ao, asp⟩ := ad
  dsimp only at hsp
  subst hsp
  have hcap : 10 ≤ c1 := by have := hs1.2.1; omega
  have hC := Blk.new w2 72 #[.int .i64 0, .int .i64 0, .int .i64 0, .int .i64 0, .slice none 0 0]
  have hc0c : (w2.alloc (.cells #[.int .i64 0, .int .i64 0, .int .i64 0, .int .i64 0, .slice none 0 0] 72)).cell? ⟨ab, ao, none⟩ = some (.int .u8 5) := by
    rw [World.cell?_alloc_some _ _ _ (by rw [hc0b]; rfl)]
    exact hc0b
  have hw3 := bel_alloc hw2 (.cells #[.int .i64 0, .int .i64 0, .int .i64 0, .int .i64 0, .slice none 0 0] 72)
  obtain ⟨q0, q1, q2, q3, q4, -⟩ := Blk.five hC
  rw [h42]
  clear hv0 hc0 hc0b HT H42 H5 h42
  go_wp2_with fail
  refine (CrDone_any 0 0 0 0 none 0 0 _).mono ?_
  rintro e w4 ⟨rfl, hb4⟩
  rw [show ((0 : Int) == 0) = true from rfl]
  go_wp2_with fail
  go_ret
  exact ⟨rfl, bel_call hw3 hb4⟩
end Go.Proofs.YtabnndjdkjkciaaGreatDoor

namespace Go.Proofs.YtabnndjdkjkciaaGreatDoor
open Go.RowKit Go.Maps Go.Sort
attribute [local go_sem ↓] Go.wp_at_zero Go.wp_at_succ

theorem errno_compC : ∃ i, Tryz.prog.info? 68 = some i ∧ i.comparable = true := by
  have h : (Tryz.prog.info? 68).map (fun i => i.comparable) = some true := by kernel_rfl
  cases hq : Tryz.prog.info? 68 with
  | none => rw [hq] at h; cases h
  | some i => rw [hq] at h; exact ⟨i, rfl, by injection h⟩
theorem errv_is4C (n : Nat) (W : World) : (binOp .eql 37 (errv n) (.iface 68 (.int .i64 4))).run Tryz.prog W = .ok (.bool (decide (n = 4))) W := by
  rcases errv_cases n with ⟨h0, he⟩ | ⟨k, hk, hke, he⟩
  · subst h0
    rw [he]
    exact run_eql_iface_nil_left W _ _ Tryz.underlying37
  · have h2 : decide (n = 4) = (k == 4) := by
      rw [Bool.eq_iff_iff, decide_eq_true_iff, beq_iff_eq]
      omega
    obtain ⟨i, hi, hc⟩ := errno_compC
    have h : ∀ d : Nat, (Op.equalIn (d + 2) 37 (.iface 68 (.int .i64 k)) (.iface 68 (.int .i64 4))).run Tryz.prog W = .ok (k == 4) W := fun d => by
      simp [Op.equalIn, run_underlying Tryz.underlying37, run_underlying Tryz.underlying68, typeInfo, hi, hc]
    rw [he, h2]
    simp only [binOp]
    simp [Op.equal, Op.maxDepth, h 9998]
theorem errv_g4C (n : Nat) (x y : Operand) (W : World) : (eqGuard .eql 37 x y (errv n) (.iface 68 (.int .i64 4))).run Tryz.prog W = .ok () W := by
  rcases errv_cases n with ⟨h0, he⟩ | ⟨k, hk, hke, he⟩
  · rw [he]
    go_simp
  · rw [he]
    go_simp
theorem sGet_lenC {w : World} {q : Fp} {d : Dk Sv} (h : Dsk w q d) (n : Bs) : (((sGet d n).1.map Sv.l).getD []).length ≤ 65536 := by
  unfold sGet
  split
  · simp
  · unfold dRead
    split
    · simp
    · cases hg : gget n d.shown with
      | none => simp
      | some v => exact h.len v (h.shown_mem (n, v) (gget_mem hg)).2
theorem res_cr3 {fn : Func} {a b c : Nat} {tmps : Array Value} {w : World} {g : Nat} {x y z u v : Value} (hres : fn.results = #[.cell a 72, .tmp b, .tmp c]) (ha : tmps.getD a undef = .pointer (some ⟨g, 0, none⟩)) (hB : Blk w g 72 #[x, y, z, u, v]) :
    (results fn tmps).run Tryz.prog w = .ok (.tuple #[.agg #[x, y, z, u, v], tmps.getD b undef, tmps.getD c undef]) w := by
  obtain ⟨b0, b1, b2, b3, b4, -⟩ := Blk.five hB
  have ha' : tmps[a]?.getD undef = .pointer (some ⟨g, 0, none⟩) := by simpa using ha
  simp [results, hres, go_sem, b0, b1, b2, b3, b4, ha']
set_option maxRecDepth 100000 in
set_option maxHeartbeats 2000000 in
theorem CrSave_any {w : World} {gs : Nat} {q0 : Fp} {d : Dk Sv} (hS : StM w gs q0 d) (hf : Fok d) (hl : d.sure.length + d.pend.length ≤ 900) (n : Bs) (hn : n.length ≤ 9223372036854775807) {A : Option Addr} {c : Nat} (f nx t q : Int) (ps : List Pt5) (h : SlP w A c ps) (hI : PtsI ps) (h0 : crchk (f, nx, t, q, ps) = 0) :
    Calls Tryz.prog 32 #[.pointer (some ⟨gs, 0, none⟩), .string ⟨n.toArray⟩, crv f nx t q A ps.length c] w fun e w' => ∃ A' c', e = .returned (errv (sPut svl Sv.nil d n ⟨A', c', frm (crtxt (f, nx, t, q, ps))⟩).2) ∧ Dgo w q0 d (sPut svl Sv.nil d n ⟨A', c', frm (crtxt (f, nx, t, q, ps))⟩).1 w' := by
  have hB := Blk.new w 72 #[.int .i64 f, .int .i64 nx, .int .i64 t, .int .i64 q, .slice A ps.length c]
  have hbw := below_new w (.cells #[.int .i64 f, .int .i64 nx, .int .i64 t, .int .i64 q, .slice A ps.length c] 72)
  have HP := Lib.hid (CrPut_any f nx t q ps _ (h.below hbw) hI)
  have HL := Lib.hid (crtxt_len h0)
  unfold GivesCrb at HP
  have hcp : crput (f, nx, t, q, ps) = frm (crtxt (f, nx, t, q, ps)) := if_pos h0
  rw [h0, show errv 0 = Value.nilIface from rfl, hcp] at HP
  obtain ⟨a0, a1, a2, a3, a4, -⟩ := Blk.five hB
  have HS := Lib.hid hS
  have HF := Lib.hid hf
  have hfl : (frm (crtxt (f, nx, t, q, ps))).length ≤ 100000000 := by
    have := HL.out
    unfold frm txb
    have l1 := vb_le10 (n := (crtxt (f, nx, t, q, ps)).length) (by omega)
    simp only [List.length_append, four_len]
    omega
  clear hS hf h hI h0 hB hcp
  generalize frm (crtxt (f, nx, t, q, ps)) = l at *
  go_enter Tryz.func32, Tryz.ntmps32
  go_wp2_with fail
  refine HP.out.mono ?_
  clear HP
  rintro e w1 ⟨A1, c1, m1, rfl, hm, ho, hb1⟩
  obtain rfl := hm.out
  have hb := bel_call hbw hb1
  have hst1 := HS.out.below hb
  have hlt := HS.out.dsk.ltM (i := q0.g) (.inl rfl)
  have hWr := StPut_any hst1 HF.out hl n hn m1 (Own.sl ho) (fun hne ad hA e => by
    have h1 := (Own.lt ho ad.block (by rw [hA]; rfl)).1
    have h2 := hbw.size
    omega) hfl
  have HWr := Lib.hid hWr
  have Hb := Lib.hid hb
  clear hWr ho hb hb1 hst1 hm a0 a1 a2 a3 a4 hbw
  go_wp2_with fail
  refine HWr.out.mono ?_
  clear HWr
  rintro e w2 ⟨A', c', rfl, q2, hg2, hD2, hF2, hM2, hT2⟩
  have HO := Lib.hid (show ∃ A' c', Ending.returned (errv (sPut svl Sv.nil d n ⟨A', c', m1⟩).2) = .returned (errv (sPut svl Sv.nil d n ⟨A', c', m1⟩).2) ∧ Dgo w q0 d (sPut svl Sv.nil d n ⟨A', c', m1⟩).1 w2 from ⟨A', c', rfl, q2, hg2, hD2, (Frd.of_below Hb.out).trans hF2 (fun i hi => .inl hi), fun i hi => (hM2 i hi).imp id (fun h => Nat.le_trans Hb.out.size h), fun i hi => (hT2 i hi).imp id (fun h => Nat.le_trans Hb.out.size h)⟩)
  have HO2 := Lib.hid (show Dgo w q0 d (sPut svl Sv.nil d n ⟨A', c', m1⟩).1 w2 from ⟨q2, hg2, hD2, (Frd.of_below Hb.out).trans hF2 (fun i hi => .inl hi), fun i hi => (hM2 i hi).imp id (fun h => Nat.le_trans Hb.out.size h), fun i hi => (hT2 i hi).imp id (fun h => Nat.le_trans Hb.out.size h)⟩)
  clear hg2 hD2 hF2 hM2 hT2 HO
  generalize hr : sPut svl Sv.nil d n ⟨A', c', m1⟩ = r at *
  have HR := Lib.hid hr
  clear hr
  obtain ⟨d2, k2⟩ := r
  dsimp only at HO2 ⊢
  generalize hev : errv k2 = ev at *
  have HE := Lib.hid hev
  clear hev
  go_wp2_with fail
  go_ret
  exact ⟨A', c', by rw [HR.out, HE.out]; rfl, by rw [HR.out]; exact HO2.out⟩
/-- what loading gives -/
def crLoad (r : Option Sv × Nat) : Cur × Bool × Nat := if r.2 = 4 then ((0, 0, 0, 0, []), false, 0) else if r.2 ≠ 0 then ((0, 0, 0, 0, []), false, r.2) else ((crTake ((r.1.map Sv.l).getD [])).1, (crTake ((r.1.map Sv.l).getD [])).2 == 0, (crTake ((r.1.map Sv.l).getD [])).2)
set_option maxRecDepth 100000 in
set_option maxHeartbeats 2000000 in
theorem CrLoad_any {w : World} {gs : Nat} {q0 : Fp} {d : Dk Sv} (hS : StM w gs q0 d) (n : Bs) (hn : n.length ≤ 9223372036854775807) :
    Calls Tryz.prog 30 #[.pointer (some ⟨gs, 0, none⟩), .string ⟨n.toArray⟩] w fun e w' => ∃ A c m, e = .returned (.tuple #[crv (crLoad (sGet d n)).1.1 (crLoad (sGet d n)).1.2.1 (crLoad (sGet d n)).1.2.2.1 (crLoad (sGet d n)).1.2.2.2.1 A (List.length m) c, .bool (crLoad (sGet d n)).2.1, errv (crLoad (sGet d n)).2.2]) ∧ Hid (m = (crLoad (sGet d n)).1.2.2.2.2) ∧ OwnP w' w.heap.size A c m ∧ Below w.heap.size w w' := by
  have hb0 := below_new w (.cells crz 72)
  have hB0 := Blk.new w 72 crz
  have HG := Lib.hid (SGet_any (hS.below hb0) n hn)
  have hsz := sGet_lenC hS.dsk n
  clear hS
  generalize sGet d n = r at *
  obtain ⟨v, k⟩ := r
  dsimp only at HG hsz
  have he4 := errv_is4C k
  have hg4 := errv_g4C k
  have HCr := Lib.hid (show crLoad (v, k) = if k = 4 then ((0, 0, 0, 0, []), false, 0) else if k ≠ 0 then ((0, 0, 0, 0, []), false, k) else ((crTake ((v.map Sv.l).getD [])).1, (crTake ((v.map Sv.l).getD [])).2 == 0, (crTake ((v.map Sv.l).getD [])).2) from rfl)
  generalize crLoad (v, k) = cl at *
  generalize (v.map Sv.l).getD [] = tl at *
  go_enter Tryz.func30, Tryz.ntmps30
  go_wp2_with fail
  refine HG.out.mono ?_
  rintro e w1 ⟨A1, c1, m1, rfl, hm, ho, hb1'⟩
  obtain rfl := hm.out
  have hb1 := bel_call hb0 hb1'
  have hB2 := Blk.below hB0 hb1'
  have hs1 := Own.sl ho
  clear HG hm ho hb1' hb0 hB0
  by_cases hk4 : k = 4
  · have HK := Lib.hid (HCr.out.trans (if_pos hk4))
    subst hk4
    have hd4 : decide (4 = 4) = true := rfl
    rw [hd4] at he4
    generalize errv 4 = ev at *
    clear hd4 HCr hs1
    obtain ⟨b0, b1, b2, b3, b4, bf0, bf1, bf2, bf3, bf4⟩ := hB2.five
    have HBz := Lib.hid (hB2.set5 (.int .i64 0) (.int .i64 0) (.int .i64 0) (.int .i64 0) (.slice none 0 0))
    have hbz := bel_set5 hb1 (g := w.heap.size) (Nat.le_refl _) (.int .i64 0) (.int .i64 0) (.int .i64 0) (.int .i64 0) (.slice none 0 0)
    have Hbz := Lib.hid hbz
    clear hB2 hb1 hbz
    go_wp2_with fail
    exact bodyPost_ret (res_cr3 rfl rfl (g := w.heap.size) HBz.out) rfl ⟨none, 0, [], by rw [HK.out]; exact rfl, (show _ = _ from by rw [HK.out]), Own.none_ _ _ _ _, Hbz.out⟩
  have hd4 : decide (k = 4) = false := decide_eq_false hk4
  rw [hd4] at he4
  replace HCr := Lib.hid (HCr.out.trans (if_neg hk4))
  clear hd4 hk4
  by_cases h0 : k = 0
  rotate_left
  · have HK := Lib.hid (HCr.out.trans (if_pos h0))
    obtain ⟨ev, hev⟩ : ∃ ev : Int, errv k = .iface 68 (.int .i64 ev) := by
      rcases errv_cases k with ⟨h1, -⟩ | ⟨k', -, -, h1⟩
      · exact absurd h1 h0
      · exact ⟨k', h1⟩
    have HE := Lib.hid hev
    rw [hev] at he4 hg4 ⊢
    clear hev h0 HCr hs1
    obtain ⟨b0, b1, b2, b3, b4, bf0, bf1, bf2, bf3, bf4⟩ := hB2.five
    have HBz := Lib.hid (hB2.set5 (.int .i64 0) (.int .i64 0) (.int .i64 0) (.int .i64 0) (.slice none 0 0))
    have hbz := bel_set5 hb1 (g := w.heap.size) (Nat.le_refl _) (.int .i64 0) (.int .i64 0) (.int .i64 0) (.int .i64 0) (.slice none 0 0)
    have Hbz := Lib.hid hbz
    clear hB2 hb1 hbz
    go_wp2_with fail
    exact bodyPost_ret (res_cr3 rfl rfl (g := w.heap.size) HBz.out) rfl ⟨none, 0, [], by rw [HK.out]; exact (by rw [HE.out]; rfl), (show _ = _ from by rw [HK.out]), Own.none_ _ _ _ _, Hbz.out⟩
  subst h0
  have HK := Lib.hid (HCr.out.trans (if_neg (by simp)))
  have HT := Lib.hid (CTake_any A1 c1 m1 w1 hs1 (by omega))
  unfold GivesCr at HT
  generalize crTake m1 = t at *
  obtain ⟨⟨x1, x2, x3, x4, x5⟩, k2⟩ := t
  dsimp only at HT HK
  rw [show errv 0 = Value.nilIface from rfl] at he4 hg4 ⊢
  clear HCr hs1
  go_wp2_with fail
  refine HT.out.mono ?_
  clear HT he4 hg4
  rintro e w2 ⟨A2, c2, m2, rfl, hm2, ho2, hb2⟩
  have hb3 := bel_call hb1 hb2
  have hB3 := Blk.below hB2 hb2
  have hb4 := below_new w2 (.cells #[.int .i64 x1, .int .i64 x2, .int .i64 x3, .int .i64 x4, .slice A2 m2.length c2] 72)
  have hB9 := Blk.new w2 72 #[.int .i64 x1, .int .i64 x2, .int .i64 x3, .int .i64 x4, .slice A2 m2.length c2]
  have hB4 := Blk.below hB3 hb4
  have ho4 := Own.below ho2 hb4
  have hb5 := bel_call hb3 hb4
  have hlt9 : w.heap.size < w2.heap.size := hB3.lt
  have hlo1 : w.heap.size + 1 ≤ w1.heap.size := hB2.lt
  clear hb1 hB2 hb2 hb3 hB3 hb4 ho2
  go_upto_region 7 with (fail)
  refine gen1 (T := fun W => Blk W w.heap.size 72 crz ∧ Blk W w2.heap.size 72 #[.int .i64 x1, .int .i64 x2, .int .i64 x3, .int .i64 x4, .slice A2 m2.length c2] ∧ OwnP W w1.heap.size A2 c2 m2 ∧ Below w.heap.size w W) ⟨hB4, hB9, ho4, hb5⟩ (fun w3 hT => ?_)
  clear hB4 hB9 ho4 hb5
  obtain ⟨hB4, hB9, ho4, hb5⟩ := hT
  generalize w2.heap.size = g9 at *
  have hisn : ∀ W, (binOp .eql 37 (errv k2) .nilIface).run Tryz.prog W = .ok (.bool (k2 == 0)) W := fun W => by
    rcases errv_cases k2 with ⟨h0, he⟩ | ⟨k, hk, hke, he⟩
    · subst h0
      rw [he]
      go_simp
    · rw [he]
      have h2 : (k2 == 0) = false := by rw [beq_eq_false_iff_ne]; omega
      rw [h2]
      go_simp
  have hisg : ∀ (x : Operand) W, (eqGuard .eql 37 x (.const .nilIface) (errv k2) .nilIface).run Tryz.prog W = .ok () W := fun x W => by
    rcases errv_cases k2 with ⟨h0, he⟩ | ⟨k, hk, hke, he⟩
    · rw [he]
      go_simp
    · rw [he]
      go_simp
  have HOut := Lib.hid (show OwnP (World.drew (((((w3.setCell ⟨w.heap.size, 0, none⟩ (.int .i64 x1)).setCell ⟨w.heap.size, 1, none⟩ (.int .i64 x2)).setCell ⟨w.heap.size, 2, none⟩ (.int .i64 x3)).setCell ⟨w.heap.size, 3, none⟩ (.int .i64 x4)).setCell ⟨w.heap.size, 4, none⟩ (.slice A2 m2.length c2))) w.heap.size A2 c2 m2 from World.ownsRow.drew (Own.more (Own.set5 ho4 (g := w.heap.size) (by omega) _ _ _ _ _) (by omega)))
  have HBel := Lib.hid (show Below w.heap.size w (World.drew (((((w3.setCell ⟨w.heap.size, 0, none⟩ (.int .i64 x1)).setCell ⟨w.heap.size, 1, none⟩ (.int .i64 x2)).setCell ⟨w.heap.size, 2, none⟩ (.int .i64 x3)).setCell ⟨w.heap.size, 3, none⟩ (.int .i64 x4)).setCell ⟨w.heap.size, 4, none⟩ (.slice A2 m2.length c2))) from (bel_set5 hb5 (Nat.le_refl _) _ _ _ _ _).drew)
  have HBr := Lib.hid (show Blk (World.drew (((((w3.setCell ⟨w.heap.size, 0, none⟩ (.int .i64 x1)).setCell ⟨w.heap.size, 1, none⟩ (.int .i64 x2)).setCell ⟨w.heap.size, 2, none⟩ (.int .i64 x3)).setCell ⟨w.heap.size, 3, none⟩ (.int .i64 x4)).setCell ⟨w.heap.size, 4, none⟩ (.slice A2 m2.length c2))) w.heap.size 72 _ from (hB4.set5 _ _ _ _ _).drew)
  have hst0 : Blk (World.drew w3) g9 72 #[.int .i64 x1, .int .i64 x2, .int .i64 x3, .int .i64 x4, .slice A2 m2.length c2] := hB9.drew
  have hst9 : Blk (World.drew (((((w3.setCell ⟨w.heap.size, 0, none⟩ (.int .i64 x1)).setCell ⟨w.heap.size, 1, none⟩ (.int .i64 x2)).setCell ⟨w.heap.size, 2, none⟩ (.int .i64 x3)).setCell ⟨w.heap.size, 3, none⟩ (.int .i64 x4)).setCell ⟨w.heap.size, 4, none⟩ (.slice A2 m2.length c2))) g9 72 #[.int .i64 x1, .int .i64 x2, .int .i64 x3, .int .i64 x4, .slice A2 m2.length c2] := (hB9.wr (wr5 w3 w.heap.size _ _ _ _ _) (by omega)).drew
  obtain ⟨b0, b1, b2, b3, b4, bf0, bf1, bf2, bf3, bf4⟩ := hB4.five
  obtain ⟨e0, e1, e2, e3, e4, ef0, ef1, ef2, ef3, ef4⟩ := hB4.drew.five
  clear hB4 hB9 ho4 hb5
  obtain ⟨ev, hev2⟩ : ∃ ev, errv k2 = ev := ⟨_, rfl⟩
  rw [hev2]
  simp only [hev2] at hisn hisg
  have HE2 := Lib.hid hev2
  clear hev2
  refine wp_region_held_drew (S := (fun W => Blk W g9 72 #[.int .i64 x1, .int .i64 x2, .int .i64 x3, .int .i64 x4, .slice A2 m2.length c2])) (by kernel_rfl) ?_ (fun hHeld => ?_)
  · first | with_reducible exact hst0 | with_reducible exact hHeld | with_reducible exact hst9
  refine wpAnyH_take (i := 0) (oi := ⟨some 35, _, _, _, _, _⟩) (v := ?_) rfl (by kernel_rfl) (by kernel_rfl) (by kernel_rfl) (fun _ _ _ h => h) (Or.inl ⟨by kernel_rfl, ?_⟩) (by assumption) ?_
  rotate_left
  · (intro wS hSw; (try dsimp only at hSw); obtain ⟨z0, z1, z2, z3, z4, -⟩ := hSw.five; clear hSw; go_simp; (try with_reducible rfl))
  (try simp only [Act.put, List.setIfInBounds_toArray, List.set_cons_zero, List.set_cons_succ])
  refine wpAnyH_take (i := 1) (oi := ⟨some 36, _, _, _, _, _⟩) (v := ?_) rfl (by kernel_rfl) (by kernel_rfl) (by kernel_rfl) (fun _ _ _ h => h) (Or.inl ⟨by kernel_rfl, ?_⟩) (by assumption) ?_
  rotate_left
  · (intro wS hSw; (try dsimp only at hSw); obtain ⟨z0, z1, z2, z3, z4, -⟩ := hSw.five; clear hSw; go_simp; (try with_reducible rfl))
  (try simp only [Act.put, List.setIfInBounds_toArray, List.set_cons_zero, List.set_cons_succ])
  refine wpAnyH_take (i := 2) (oi := ⟨some 37, _, _, _, _, _⟩) (v := ?_) rfl (by kernel_rfl) (by kernel_rfl) (by kernel_rfl) (fun _ _ _ h => h) (Or.inl ⟨by kernel_rfl, ?_⟩) (by assumption) ?_
  rotate_left
  · (intro wS hSw; (try dsimp only at hSw); obtain ⟨z0, z1, z2, z3, z4, -⟩ := hSw.five; clear hSw; go_simp; (try with_reducible rfl))
  (try simp only [Act.put, List.setIfInBounds_toArray, List.set_cons_zero, List.set_cons_succ])
  refine wpAnyH_take (i := 3) (oi := ⟨some 38, _, _, _, _, _⟩) (v := ?_) rfl (by kernel_rfl) (by kernel_rfl) (by kernel_rfl) (fun _ _ _ h => h) (Or.inl ⟨by kernel_rfl, ?_⟩) (by assumption) ?_
  rotate_left
  · (intro wS hSw; (try dsimp only at hSw); obtain ⟨z0, z1, z2, z3, z4, -⟩ := hSw.five; clear hSw; go_simp; (try with_reducible rfl))
  (try simp only [Act.put, List.setIfInBounds_toArray, List.set_cons_zero, List.set_cons_succ])
  refine wpAnyH_ready (rs := [4]) (by kernel_rfl) (by simp) ?_
  refine AllReadyH.cons (o := ⟨none, _, _, _, _, _⟩) rfl (fun K hK => ?_) AllReadyH.nil
  go_simp
  refine hK.out _ _ ?_ (fun hHeld => ?_)
  · ((try dsimp only); (first | with_reducible exact hst0 | with_reducible exact hHeld | with_reducible exact hst9))
  clear hK K
  (try simp only [Act.put, List.setIfInBounds_toArray, List.set_cons_zero, List.set_cons_succ])
  refine wpAnyH_take (i := 5) (oi := ⟨some 5, _, _, _, _, _⟩) (v := ?_) rfl (by kernel_rfl) (by kernel_rfl) (by kernel_rfl) (fun _ _ _ h => h) (Or.inl ⟨by kernel_rfl, ?_⟩) (by assumption) ?_
  rotate_left
  · (intro wS hSw; (try dsimp only at hSw); obtain ⟨z0, z1, z2, z3, z4, -⟩ := hSw.five; clear hSw; go_simp; (try with_reducible rfl))
  (try simp only [Act.put, List.setIfInBounds_toArray, List.set_cons_zero, List.set_cons_succ])
  refine wpAnyH_take (i := 6) (oi := ⟨some 6, _, _, _, _, _⟩) (v := ?_) rfl (by kernel_rfl) (by kernel_rfl) (by kernel_rfl) (fun _ _ _ h => h) (Or.inl ⟨by kernel_rfl, ?_⟩) (by assumption) ?_
  rotate_left
  · (intro wS hSw; (try dsimp only at hSw); obtain ⟨z0, z1, z2, z3, z4, -⟩ := hSw.five; clear hSw; go_simp; (try with_reducible rfl))
  (try simp only [Act.put, List.setIfInBounds_toArray, List.set_cons_zero, List.set_cons_succ])
  refine wpAnyH_done (by kernel_rfl) ?_ _
  clear b0 b1 b2 b3 b4 bf0 bf1 bf2 bf3 bf4 e0 e1 e2 e3 e4 ef0 ef1 ef2 ef3 ef4
  go_wp2_with fail
  exact bodyPost_ret (res_cr3 rfl rfl (g := w.heap.size) HBr.out) rfl ⟨A2, c2, m2, by rw [HK.out]; dsimp only; rw [HE2.out]; rfl, (show _ = _ from by rw [HK.out]; exact hm2.out), HOut.out, HBel.out⟩
end Go.Proofs.YtabnndjdkjkciaaGreatDoor

namespace Go.Proofs.YtabnndjdkjkciaaGreatDoor
open Go.RowKit Go.Maps Go.Sort
attribute [local go_sem ↓] Go.wp_at_zero Go.wp_at_succ

section
variable {W W' : World} {q q' : Fp} {B : Nat} {t : TypeId} {cs : Array Value}
end
end Go.Proofs.YtabnndjdkjkciaaGreatDoor

namespace Go.Proofs.YtabnndjdkjkciaaGreatDoor
open Go.RowKit
attribute [local go_sem ↓] Go.wp_at_zero Go.wp_at_succ

theorem dg_cases {Q : Dg → Prop} (h : ∀ b0 b1 b2 b3 b4 b5 b6 b7 b8 b9 b10 b11 b12 b13 b14 b15 b16 b17 b18 b19 b20 b21 b22 b23 b24 b25 b26 b27 b28 b29 b30 b31 : UInt8, Q ⟨[b0, b1, b2, b3, b4, b5, b6, b7, b8, b9, b10, b11, b12, b13, b14, b15, b16, b17, b18, b19, b20, b21, b22, b23, b24, b25, b26, b27, b28, b29, b30, b31], rfl⟩) : ∀ d, Q d := by
  rintro ⟨l, hl⟩
  match l, hl with
  | [b0, b1, b2, b3, b4, b5, b6, b7, b8, b9, b10, b11, b12, b13, b14, b15, b16, b17, b18, b19, b20, b21, b22, b23, b24, b25, b26, b27, b28, b29, b30, b31], _ => exact h b0 b1 b2 b3 b4 b5 b6 b7 b8 b9 b10 b11 b12 b13 b14 b15 b16 b17 b18 b19 b20 b21 b22 b23 b24 b25 b26 b27 b28 b29 b30 b31
theorem part_dgR (p : Pt5) (w : World) : (part 42 (pta p) 3).run Tryz.prog w = .ok (.agg (dga p.2.2.2)) w := by
  have hd := p.2.2.2.2
  have he : (pta p).extract 3 (3 + 32) = dga p.2.2.2 := by
    apply Array.ext'
    simp [pta, ptl, dga]
    exact List.take_of_length_le (by simp [hd])
  unfold part
  rw [Sem.run_bind, Tryz.isAgg42]
  simp only [Result.andThen_ok, if_true, Sem.run_bind, Tryz.sizeOf42, Sem.run_pure]
  rw [he]
theorem equalIn_dgR (a b : Dg) (n : Nat) (w : World) : (Op.equalIn (n + 2) 42 (.agg (dga a)) (.agg (dga b))).run Tryz.prog w = .ok (decide (a = b)) w := by
  unfold dga
  obtain ⟨i, hi⟩ : ∃ i, Tryz.prog.info? 5 = some i := Option.isSome_iff_exists.1 (by kernel_rfl)
  rw [run_equalIn_array (P := Tryz.prog) (w := w) (n + 1) (t := 42) (e := 5) (n := 32) (i := i) _ _ Tryz.underlying42 hi]
  rw [show Tryz.prog.cellsOf 5 = 1 from by kernel_rfl]
  rw [eqItems_bytes (P := Tryz.prog) Tryz.underlying5 n a.1 b.1 w _ (fun i hi => by have := List.mem_range.1 hi; rw [a.2, b.2]; exact ⟨this, this⟩)]
  rw [dg_all]
theorem neq_dgR (a b : Dg) (w : World) : (binOp .neq 42 (.agg (dga a)) (.agg (dga b))).run Tryz.prog w = .ok (.bool (!decide (a = b))) w := by
  have h : (Op.equalIn 10000 42 (.agg (dga a)) (.agg (dga b))).run Tryz.prog w = .ok (decide (a = b)) w := equalIn_dgR a b 9998 w
  rw [run_neq_struct, h]
  rfl
theorem eqFields_ptR (n : Nat) (p p' : Pt5) (w : World) (f0 f1 f2 f3 : Field) (n0 : f0.name ≠ "_") (n1 : f1.name ≠ "_") (n2 : f2.name ≠ "_") (n3 : f3.name ≠ "_") (t0 : f0.type = 3) (t1 : f1.type = 3) (t2 : f2.type = 3) (t3 : f3.type = 42) (o0 : f0.offset = 0) (o1 : f1.offset = 1) (o2 : f2.offset = 2) (o3 : f3.offset = 3) :
    (Op.eqFields (n + 2) (pta p) (pta p') [f0, f1, f2, f3]).run Tryz.prog w = .ok (decide (p = p')) w := by
  obtain ⟨p1, p2, p3, p4⟩ := p
  obtain ⟨q1, q2, q3, q4⟩ := p'
  rw [← bool_pt]
  refine eqF_cons _ _ _ _ _ _ n0 t0 o0 (part_pt0 _ w) (part_pt0 _ w) (equalIn_int' (n + 1) _ _ w) ?_
  refine eqF_cons _ _ _ _ _ _ n1 t1 o1 (part_pt1 _ w) (part_pt1 _ w) (equalIn_int' (n + 1) _ _ w) ?_
  refine eqF_cons _ _ _ _ _ _ n2 t2 o2 (part_pt2 _ w) (part_pt2 _ w) (equalIn_int' (n + 1) _ _ w) ?_
  refine eqF_cons _ _ _ _ _ _ n3 t3 o3 (part_dgR _ w) (part_dgR _ w) (equalIn_dgR _ _ n w) ?_
  simp only [Op.eqFields, Sem.run_pure]
theorem fields_ptR : ∃ f0 f1 f2 f3 : Field, (Tryz.prog.fieldsOf 44).toList = [f0, f1, f2, f3] ∧ f0.name ≠ "_" ∧ f1.name ≠ "_" ∧ f2.name ≠ "_" ∧ f3.name ≠ "_" ∧ f0.type = 3 ∧ f1.type = 3 ∧ f2.type = 3 ∧ f3.type = 42 ∧ f0.offset = 0 ∧ f1.offset = 1 ∧ f2.offset = 2 ∧ f3.offset = 3 := by
  simp only [Program.fieldsOf, Tryz.underlying44, List.toList_toArray]
  exact ⟨_, _, _, _, rfl, by decide, by decide, by decide, by decide, rfl, rfl, rfl, rfl, rfl, rfl, rfl, rfl⟩
theorem equalIn_ptR (p p' : Pt5) (w : World) : (Op.equalIn 10000 44 (.agg (pta p)) (.agg (pta p'))).run Tryz.prog w = .ok (decide (p = p')) w := by
  obtain ⟨f0, f1, f2, f3, hf, n0, n1, n2, n3, t0, t1, t2, t3, o0, o1, o2, o3⟩ := fields_ptR
  rw [run_equalIn_struct w 9999 44 _ _ (by kernel_rfl) (by kernel_rfl), hf]
  exact eqFields_ptR 9997 p p' w f0 f1 f2 f3 n0 n1 n2 n3 t0 t1 t2 t3 o0 o1 o2 o3
theorem neq_ptR (p p' : Pt5) (w : World) : (binOp .neq 44 (.agg (pta p)) (.agg (pta p'))).run Tryz.prog w = .ok (.bool (!decide (p = p'))) w := by
  rw [run_neq_struct, equalIn_ptR]
  rfl
theorem pt_infoR : (Tryz.prog.info? 44).map (fun i => (i.zero, i.size, i.bytes)) = some (some (.agg (pta (0, 0, 0, dg0))), 35, 56) := by kernel_rfl
abbrev OwnPr (w : World) (base : Nat) (A : Option Addr) (c : Nat) (ps : List Pt5) : Prop := Own w base 44 35 A ps.length c (ps.flatMap ptl)
theorem step_partsR {w : World} {ops : Array Oper} {o : Oper} {a : Act} {K : Act → World → Prop} {Q : Exit → Act → World → Prop} {X : Prop} (hw : Region.wanted o (yielded ops a.tmps) = true) (s x : Operand)
    (ho : o.op = .call { callee := .builtin .append, args := #[s, x], argTypes := #[77, 77] })
    (base : Nat) (A : Option Addr) (c : Nat) (l : List Pt5) (hs : a.eval s = .slice A l.length c) (hown : OwnPr w base A c l)
    (A2 : Option Addr) (c2 n2 : Nat) (l2 : List Pt5) (hn2 : n2 = l2.length) (hx : a.eval x = .slice A2 n2 c2) (hr : SlP w A2 c2 l2) (hlen : l.length + l2.length ≤ 1000000000) (hbase : base ≤ w.heap.size)
    (h : ∀ A' c' (m : List Pt5) w', Hid (m = l ++ l2) → OwnPr w' base A' c' m → w.grownBy w' (A.map (·.block)) → Below base w w' → K (a.put o.dst (.slice A' m.length c')) w') :
    if Region.wanted o (yielded ops a.tmps) = true then Oper.wp Tryz.prog o a w K Q else X := by
  subst hn2
  obtain ⟨i0, hi, hz0, hz1, hz2⟩ := info_parts pt_infoR
  refine step_append hw s x 77 ho base 44 i0 _ 35 56 Tryz.underlying77 hi hz0 hz1 hz2 (by rw [show (Value.agg (pta (0, 0, 0, dg0))).cells.size = (pta (0, 0, 0, dg0)).size from rfl, pta_size]) (by decide) A l.length c (l.flatMap ptl) hs hown A2 l2.length c2 (l2.flatMap ptl) hx hr (one_ptl l2) (by omega) (by simp only [maxLen]; omega) hbase ?_
  intro A' c' w' hap
  rw [← List.length_append]
  refine h A' c' (l ++ l2) w' rfl ?_ hap.grown (hap.below hown hbase)
  show Own w' base 44 35 A' (l ++ l2).length c' ((l ++ l2).flatMap ptl)
  rw [List.length_append, List.flatMap_append]
  exact hap.own
theorem wpl_partsR {w : World} {ops : Array Oper} {rest : List Oper} {o : Oper} {a : Act} {Q : Exit → Act → World → Prop} (hw : Region.wanted o (yielded ops a.tmps) = true) (s x : Operand)
    (ho : o.op = .call { callee := .builtin .append, args := #[s, x], argTypes := #[77, 77] })
    (base : Nat) (A : Option Addr) (c : Nat) (l : List Pt5) (hs : a.eval s = .slice A l.length c) (hown : OwnPr w base A c l)
    (A2 : Option Addr) (c2 n2 : Nat) (l2 : List Pt5) (hn2 : n2 = l2.length) (hx : a.eval x = .slice A2 n2 c2) (hr : SlP w A2 c2 l2) (hlen : l.length + l2.length ≤ 1000000000) (hbase : base ≤ w.heap.size)
    (h : ∀ A' c' (m : List Pt5) w', Hid (m = l ++ l2) → OwnPr w' base A' c' m → w.grownBy w' (A.map (·.block)) → Below base w w' → wpList Tryz.prog ops Q rest (a.put o.dst (.slice A' m.length c')) w') : wpList Tryz.prog ops Q (o :: rest) a w :=
  wpList_step fun _ hK => step_partsR hw s x ho base A c l hs hown A2 c2 n2 l2 hn2 hx hr hlen hbase fun A' c' m w' h1 h2 h3 h4 => hK _ _ (h A' c' m w' h1 h2 h3 h4)
theorem step_loadR {w : World} {ops : Array Oper} {o : Oper} {a : Act} {K : Act → World → Prop} {Q : Exit → Act → World → Prop} {X : Prop} (hgd : Region.wanted o (yielded ops a.tmps) = true) (x : Operand) (ho : o.op = .load 44 x)
    (ad : Addr) (p : Pt5) (hx : a.eval x = .pointer (some ad)) (hc : ∀ j u, (pta p)[j]? = some u → w.cell? (ad.add j) = some u)
    (h : K (a.put o.dst (.agg (pta p))) w) : if Region.wanted o (yielded ops a.tmps) = true then Oper.wp Tryz.prog o a w K Q else X := by
  rw [if_pos hgd]
  exact wp_loadA 44 x ho ad (pta p) hx hc _ Tryz.underlying44 rfl (by rw [pta_size]; kernel_rfl) h
theorem step_litR {w : World} {ops : Array Oper} {o : Oper} {a : Act} {K : Act → World → Prop} {Q : Exit → Act → World → Prop} {X : Prop} (hgd : Region.wanted o (yielded ops a.tmps) = true) (x : Operand) (ho : o.op = .buildSlice 77 1 #[(0, x)])
    (p : Pt5) (hx : a.eval x = .agg (pta p)) (h : K (a.put o.dst (.slice (some ⟨w.heap.size, 0, none⟩) 1 1)) (w.alloc (.cells (pta p) 44))) : if Region.wanted o (yielded ops a.tmps) = true then Oper.wp Tryz.prog o a w K Q else X := by
  rw [if_pos hgd]
  obtain ⟨i0, hi, hz0, hz1, hz2⟩ := info_parts pt_infoR
  refine wp_buildSlice 77 44 1 _ ho (pta p) i0 _ Tryz.underlying77 hi hz0 (by rw [hz1]; decide) (by rw [hz1]; decide) ?_ h
  rw [hz1]
  have hl : ((#[(0, x)] : Array (Nat × Operand)).map fun (i, x) => (i, a.eval x)).toList = ([Value.agg (pta p)].zipIdx 0).map fun x => (x.2, x.1) := by simp [hx]
  have hps := pta_size p
  rw [hl, Go.Great.fill_whole (s := 35) (by decide) [Value.agg (pta p)] _ (by intro v hv; rw [List.mem_singleton.1 hv]; exact hps) (by simp)]
  simp [Value.cells]
theorem litR (W : World) (p : Pt5) : SlP (W.alloc (.cells (pta p) 44)) (some ⟨W.heap.size, 0, none⟩) 1 [p] := by
  have h := Sl.litsS W 35 1 (ptl p) 44 (by rw [ptl_len]) (by simp [maxLen])
  show Sl _ 35 _ 1 1 ([p].flatMap ptl)
  simpa [pta] using h
theorem wpl_litR {w : World} {ops : Array Oper} {rest : List Oper} {o : Oper} {a : Act} {Q : Exit → Act → World → Prop} (hgd : Region.wanted o (yielded ops a.tmps) = true) (x : Operand) (ho : o.op = .buildSlice 77 1 #[(0, x)])
    (p : Pt5) (hx : a.eval x = .agg (pta p)) (h : wpList Tryz.prog ops Q rest (a.put o.dst (.slice (some ⟨w.heap.size, 0, none⟩) 1 1)) (w.alloc (.cells (pta p) 44))) : wpList Tryz.prog ops Q (o :: rest) a w :=
  wpList_step fun _ hK => step_litR hgd x ho p hx (hK _ _ h)
theorem built_ptR (f x y : Int) : ∀ d : Dg, Tryz.prog.built 44 [(0, .int .i64 f), (1, .int .i64 x), (2, .int .i64 y), (3, .agg (dga d))] = some (pta (f, x, y, d)) := by
  refine dg_cases ?_
  intros
  kernel_rfl
theorem wpl_buildPR {w : World} {ops : Array Oper} {rest : List Oper} {o : Oper} {a : Act} {Q : Exit → Act → World → Prop} (hgd : o.guard = none) (x0 x1 x2 x3 : Operand) (ho : o.op = .build 44 #[(0, x0), (1, x1), (2, x2), (3, x3)])
    {f x y : Int} {d : Dg} (h0 : a.eval x0 = .int .i64 f) (h1 : a.eval x1 = .int .i64 x) (h2 : a.eval x2 = .int .i64 y) (h3 : a.eval x3 = .agg (dga d))
    (h : wpList Tryz.prog ops Q rest (a.put o.dst (.agg (pta (f, x, y, d)))) w) : wpList Tryz.prog ops Q (o :: rest) a w := by
  have hl : ((#[(0, x0), (1, x1), (2, x2), (3, x3)] : Array (Nat × Operand)).map fun (i, x) => (i, a.eval x)).toList = [(0, .int .i64 f), (1, .int .i64 x), (2, .int .i64 y), (3, .agg (dga d))] := by
    simp [h0, h1, h2, h3]
  refine wpList_build hgd 44 _ ho ?_ ?_
  · rw [hl, built_ptR]; rfl
  · rw [hl, built_ptR]; exact h
theorem BlP.dg {w : World} {g : Nat} {t : TypeId} {p : Pt5} (h : Blk w g t (pta p)) : ∀ j u, (dga p.2.2.2)[j]? = some u → w.cell? ((⟨g, 3, none⟩ : Addr).add j) = some u := fun j u hj => by
  rw [addr_lit, h.cell]
  replace hj : (bvs p.2.2.2.1)[j]? = some u := by simpa [dga] using hj
  rw [show 3 + j = j + 1 + 1 + 1 from by omega]
  simp only [pta, ptl, List.getElem?_toArray, List.getElem?_cons_succ]
  exact hj
theorem res_ptR {fn : Func} {a : Nat} {tmps : Array Value} {w : World} {g : Nat} {p : Pt5} (hres : fn.results = #[.cell a 44]) (ha : tmps.getD a undef = .pointer (some ⟨g, 0, none⟩)) (hB : Blk w g 44 (pta p)) : (results fn tmps).run Tryz.prog w = .ok (.agg (pta p)) w := by
  have h := run_loadVar_at (P := Tryz.prog) w ⟨g, 0, none⟩ 44 (pta p) hB.cells _ Tryz.underlying44 rfl (by rw [pta_size]; kernel_rfl)
  have ha' : tmps[a]?.getD undef = .pointer (some ⟨g, 0, none⟩) := by simpa using ha
  simp [results, hres, asAddr, h, ha']
set_option maxRecDepth 100000 in
set_option maxHeartbeats 1000000 in
theorem PartOf_any (p : Pt5) (w : World) : Calls Tryz.prog 13 #[.agg (pta p)] w fun e w' => e = .returned (.agg (pta p)) ∧ Below w.heap.size w w' := by
  have hM := ((Mm.start w).alloc (pta p) 28).alloc (pta (0, 0, 0, dg0)) 44
  rw [show (w.alloc (.cells (pta p) 28)).heap.size = w.heap.size + 1 from by simp] at hM
  have hds := Lib.hid (dga_size p.2.2.2)
  have hps := Lib.hid (pta_size p)
  have hp0 := Lib.hid (pta_size (0, 0, 0, dg0))
  have hpa := Lib.hid (pta_all p)
  go_enter Tryz.func13, Tryz.ntmps13
  go_upto_region 1 with (fail)
  refine gen1 (T := fun W => Mm w W [(w.heap.size + 1, 44, pta (0, 0, 0, dg0)), (w.heap.size, 28, pta p)] []) hM (fun w0 hM => ?_)
  obtain ⟨x0, x1, x2⟩ := BlP.three hM.b1
  have hd := Lib.hid (BlP.dg hM.b1)
  go_wp2_with (first | (refine wpl_loadG rfl 26 _ rfl ⟨w.heap.size, 3, none⟩ (dga p.2.2.2) rfl hd.out _ Tryz.underlying26 rfl (by rw [hds.out]; kernel_rfl) ?_) | (refine wpl_buildPR rfl _ _ _ _ rfl (f := p.1) (x := p.2.1) (y := p.2.2.1) (d := p.2.2.2) rfl rfl rfl rfl ?_) | (refine wpList_store_row rfl 44 _ _ rfl (w.heap.size + 1) (pta p) rfl rfl 44 _ hM.b0 (by rw [hps.out]; kernel_rfl) (by rw [hps.out, hp0.out]) hpa.out ?_))
  exact bodyPost_ret (res_ptR rfl rfl (g := w.heap.size + 1) hM.b0.row) rfl ⟨rfl, below_setRow hM.bel (by omega) _⟩
end Go.Proofs.YtabnndjdkjkciaaGreatDoor
