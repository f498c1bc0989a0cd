/- WHAT IT HOLDS: a segment's part and its bytes: manifest.Of and the document's, walked. | WHAT IT HOLDS: slices.Repeat of one cell, walked. | WHAT IT HOLDS: what taking a run of cells answers, plainly (no program). -/
import Derived.Test.YtajfnmohlnkncaaGreatDoorVaultAgreesG18
import Derived.Test.YtajfnmohlnkncaaGreatDoorVaultAgreesG09
import Derived.Test.YtajfnmohlnkncaaGreatDoorShelf
import Derived.Test.YtajfnmohlnkncaaGreatDoorShelfM
import Derived.Deep.OwnRows
import Derived.Test.YtajfnmohlnkncaaGreatDoorVaultAgreesG04
import Derived.Test.YtajfnmohlnkncaaGreatDoorVaultAgreesG01
namespace Go.Proofs.YtajfnmohlnkncaaGreatDoor
section
open Go.RowKit
attribute [local go_sem ↓] Go.wp_at_zero Go.wp_at_succ
def ptz : Pt5 := (0, 0, 0, dg0)
theorem sput_okO {s : Sg} (h : schk s = 0) : sput s = (frm (stxt s), 0) := by
 have := stxt_len h
 unfold sput fput
 rw [if_neg (by omega), if_neg (by omega)]
 rfl
theorem sput_badO {s : Sg} (h : schk s ≠ 0) : sput s = ([], schk s) := by unfold sput; rw [if_pos h]
def mof (s : Sg) : Pt5 × List UInt8 × Nat :=
 if schk s ≠ 0 then (ptz, [], schk s) else if s.2.length = 0 then (ptz, [], 2) else ((s.1, (s.2.length : Int), ((frm (stxt s)).length : Int), shaD (frm (stxt s))), frm (stxt s), 0)
theorem mof_bad {s : Sg} (h : schk s ≠ 0) : mof s = (ptz, [], schk s) := by unfold mof; rw [if_pos h]
theorem mof_none {s : Sg} (h : schk s = 0) (h2 : s.2.length = 0) : mof s = (ptz, [], 2) := by unfold mof; rw [if_neg (by omega), if_pos h2]
theorem mof_ok {s : Sg} (h : schk s = 0) (h2 : s.2.length ≠ 0) : mof s = ((s.1, (s.2.length : Int), ((frm (stxt s)).length : Int), shaD (frm (stxt s))), frm (stxt s), 0) := by unfold mof; rw [if_neg (by omega), if_neg h2]
theorem built_ptz : Tryz.prog.built 37 [] = some (pta ptz) := by kernel_rfl
theorem wpl_buildPz {ops : Array Oper} {rest : List Oper} {o : Oper} {a : Act} {w : World} {Q : Exit → Act → World → Prop} (hgd : o.guard = none) (ho : o.op = .build 37 #[])
 (h : wpList Tryz.prog ops Q rest (a.put o.dst (.agg (pta ptz))) w) : wpList Tryz.prog ops Q (o :: rest) a w := by
 have hl : ((#[] : Array (Nat × Operand)).map fun (i, x) => (i, a.eval x)).toList = [] := by simp
 refine wpList_build hgd 37 _ ho ?_ ?_
 · rw [hl, built_ptz]; rfl
 · rw [hl, built_ptz]; exact h
theorem yld_build4 {P : Program} {a : Act} {o : Oper} {w : World} (ty : TypeId) {i0 i1 i2 i3 : Nat} {x0 x1 x2 x3 : Operand} {v0 v1 v2 v3 : Value} {cs : Array Value} (ho : o.op = .build ty #[(i0, x0), (i1, x1), (i2, x2), (i3, x3)])
 (h0 : a.eval x0 = v0) (h1 : a.eval x1 = v1) (h2 : a.eval x2 = v2) (h3 : a.eval x3 = v3) (hb : P.built ty [(i0, v0), (i1, v1), (i2, v2), (i3, v3)] = some cs) : (execOp a.eval o).run P w = .ok (.value (.agg cs)) w := by
 have hl : ((#[(i0, x0), (i1, x1), (i2, x2), (i3, x3)] : Array (Nat × Operand)).map fun (i, x) => (i, a.eval x)).toList = [(i0, v0), (i1, v1), (i2, v2), (i3, v3)] := by simp [h0, h1, h2, h3]
 unfold execOp
 simp only [ho, Sem.run_bind, run_build w ty ((#[(i0, x0), (i1, x1), (i2, x2), (i3, x3)] : Array (Nat × Operand)).map fun (i, x) => (i, a.eval x)) cs (by rw [hl]; exact hb), Result.andThen_ok]
 rfl
theorem res_pt3 {fn : Func} {a b c : Nat} {tmps : Array Value} {w : World} {g : Nat} {p : Pt5} (hres : fn.results = #[.cell a 37, .tmp b, .tmp c]) (ha : tmps.getD a undef = .pointer (some ⟨g, 0, none⟩)) (hB : Blk w g 37 (pta p)) :
 (results fn tmps).run Tryz.prog w = .ok (.tuple #[.agg (pta p), tmps.getD b undef, tmps.getD c undef]) w := by
 have h := run_loadVar_at (P := Tryz.prog) w ⟨g, 0, none⟩ 37 (pta p) hB.cells _ Tryz.underlying37 rfl (by rw [pta_size]; kernel_rfl)
 have ha' : tmps[a]?.getD undef = .pointer (some ⟨g, 0, none⟩) := by simpa using ha
 simp [results, hres, asAddr, h, ha']
theorem Own.rowLow {w : World} {base g : Nat} {e : TypeId} {size n c : Nat} {A : Option Addr} {xs : List Value} (h : Own w base e size A n c xs) (hg : g < base) (cs : Array Value) : Own (w.setRow g cs) base e size A n c xs := by
 obtain ⟨h1, h2⟩ := h
 refine ⟨h1, ?_⟩
 rcases h2 with h2 | ⟨g', cap, cur, hv, hbb, hh, r⟩
 · exact Or.inl h2
 · exact Or.inr ⟨g', cap, cur, hv, hbb, (setRow_other w g g' cs (by omega)).trans hh, r⟩
def GivesPt (w0 : World) (r : Pt5 × List UInt8 × Nat) (e : Ending) (w' : World) : Prop :=
 ∃ A c m, e = .returned (.tuple #[.agg (pta r.1), .slice A (List.length m) c, errv r.2.2]) ∧ Hid (m = r.2.1) ∧ OwnB w' w0.heap.size 5 A c m ∧ Below w0.heap.size w0 w'
set_option maxRecDepth 100000 in
set_option maxHeartbeats 1000000 in
theorem MOf_any {E : Option Addr} {cap : Nat} (f : Int) (cs : List CeV) (w : World) (hG : Shg w) (h : SlC w E cap cs) :
 Calls Tryz.prog 34 #[cv f E cs.length cap] w (GivesPt w (mof (f, cs.map ceOf))) := by
 have hM := ((Mm.start w).alloc #[.int .i64 f, .slice E cs.length cap] 43).alloc (pta ptz) 37
 rw [show (w.alloc (.cells #[.int .i64 f, .slice E cs.length cap] 43)).heap.size = w.heap.size + 1 from by simp] at hM
 have hpz := Lib.hid (pta_size ptz)
 have hpa := Lib.hid (pta_all ptz)
 go_enter Tryz.func34, Tryz.ntmps34
 go_upto_region 1 with (fail)
 refine gen1 (T := fun W => Mm w W [(w.heap.size + 1, 37, pta ptz), (w.heap.size, 43, #[.int .i64 f, .slice E cs.length cap])] []) hM (fun w1 hM => ?_)
 obtain ⟨a0, a1, -, -⟩ := hM.b1.two
 have hz1 : w.heap.size + 2 ≤ w1.heap.size := hM.b0.lt
 have hP := SgPut_any f cs w1 (h.below hM.bel)
 by_cases hk : schk (f, cs.map ceOf) = 0
 · rw [sput_okO hk] at hP
   have HP := Lib.hid hP
   clear hP
   go_wp2_with fail
   refine HP.out.mono ?_
   clear HP
   rintro e w2 ⟨A1, c1, m1, rfl, hm1, ho1, hb1⟩
   dsimp only at hm1
   have hM2 := hM.call hb1
   have hm1l : m1.length ≤ 7100 := by
    have h1 := stxt_len hk
    have h2 := frm_len (stxt (f, cs.map ceOf))
    have h3 := vb_le10 (n := (stxt (f, cs.map ceOf)).length) (by omega)
    rw [hm1.out]
    omega
   rw [show errv 0 = Value.nilIface from rfl]
   clear a0 a1 hM
   obtain ⟨a0, a1, -, -⟩ := hM2.b1.two
   by_cases hn : cs.length = 0
   · have HT := Lib.hid (mof_none hk (by simpa using hn))
     have HEV := Lib.hid (show errv 2 = errv 2 from rfl)
     have hn0 : (cs.length : Int) = 0 := by omega
     clear hk hm1 ho1
     go_wp2_with (first | (refine wpl_buildPz rfl rfl ?_) | (refine wpList_store_row rfl 37 _ _ rfl (w.heap.size + 1) (pta ptz) rfl rfl 37 (pta ptz) hM2.b0 (by rw [hpz.out]; kernel_rfl) rfl hpa.out ?_))
     exact bodyPost_ret (res_pt3 rfl rfl (g := w.heap.size + 1) hM2.b0.row) rfl ⟨none, 0, [], by rw [HT.out]; first | rfl | (dsimp only; rw [HEV.out]; rfl), (show _ = _ from by rw [HT.out]), Own.none_ _ _ _ _, below_setRow hM2.bel (by omega) _⟩
   · have HT := Lib.hid (mof_ok hk (by simpa using hn))
     have hn0 : ((cs.length : Int) == 0) = false := by rw [beq_eq_false_iff_ne]; omega
     have hn1 : ¬ (cs.length : Int) = 0 := by omega
     have HS := Lib.hid (fun W (hh : Below w2.heap.size w2 W) => Sum_any m1 W (hG.below (bel_call hM2.bel hh)) (Sl.below (Own.sl ho1) hh) (by omega))
     obtain ⟨d, hd⟩ : ∃ d, shaD m1 = d := ⟨_, rfl⟩
     rw [hd] at HS
     have HD := Lib.hid hd
     have HO := Lib.hid (show OwnB w2.drew w1.heap.size 5 A1 c1 m1 from Own.below ho1 (Below.drew (Below.refl _ _)))
     have hps := Lib.hid (pta_size (f, (cs.length : Int), (m1.length : Int), d))
     clear hk hn hd ho1
     go_upto_region 6 with (fail)
     have hMd := (hM2.sub (L' := [(w.heap.size, 43, #[.int .i64 f, .slice E cs.length cap])]) (by simp)).drew
     have hb0 := hM2.b0.drew
     have hlo : w.heap.size + 1 < w1.heap.size := by omega
     clear a0 a1
     refine wp_region_held_drew (S := (fun W => Mm w W [(w.heap.size, 43, #[.int .i64 f, .slice E cs.length cap])] [])) (by kernel_rfl) ?_ (fun hHeld => ?_)
     · exact hMd
     refine gen0 (T := fun W => ((fun W => Mm w W [(w.heap.size, 43, #[.int .i64 f, .slice E cs.length cap])] [])) W ∧ Blk W (w.heap.size + 1) 37 (pta ptz) ∧ OwnB W w1.heap.size 5 A1 c1 m1 ∧ Below w2.heap.size w2 W ∧ True) ?_ (fun wq1 hT => ?_)
     · exact ⟨by (with_reducible exact hMd), by (with_reducible assumption), by (with_reducible exact HO.out), by (exact Below.drew (Below.refl _ _)), trivial⟩
     (try clear f0 f1 f2 f3 f4 f5 f6 f7 f8 f9 f10 f11)
     obtain ⟨hHeld, f0, f1, f2, -⟩ := hT
     refine wTk (i := 0) (oi := ⟨some 24, _, _, _, _, _⟩) (v := ?_) rfl ⟨by kernel_rfl, ?_⟩ (by assumption) ?_
     rotate_left
     · (intro wS hSw; (try dsimp only at hSw); obtain ⟨a0, a1, -, -⟩ := hSw.b0.two; clear hSw; go_simp; (try with_reducible rfl))
     (try simp only [Act.put, pS0, pS1, pS2])
     refine wTk (i := 1) (oi := ⟨some 25, _, _, _, _, _⟩) (v := ?_) rfl ⟨by kernel_rfl, ?_⟩ (by assumption) ?_
     rotate_left
     · (intro wS hSw; (try dsimp only at hSw); obtain ⟨a0, a1, -, -⟩ := hSw.b0.two; clear hSw; go_simp; (try with_reducible rfl))
     (try simp only [Act.put, pS0, pS1, pS2])
     refine wTk (i := 2) (oi := ⟨some 26, _, _, _, _, _⟩) (v := ?_) rfl ⟨by kernel_rfl, ?_⟩ (by assumption) ?_
     rotate_left
     · (intro wS hSw; (try dsimp only at hSw); obtain ⟨a0, a1, -, -⟩ := hSw.b0.two; clear hSw; go_simp; (try with_reducible rfl))
     (try simp only [Act.put, pS0, pS1, pS2])
     refine wTk (i := 3) (oi := ⟨some 27, _, _, _, _, _⟩) (v := ?_) rfl ⟨by kernel_rfl, ?_⟩ (by assumption) ?_
     rotate_left
     · (intro wS hSw; (try dsimp only at hSw); obtain ⟨a0, a1, -, -⟩ := hSw.b0.two; clear hSw; go_simp; (try with_reducible rfl))
     (try simp only [Act.put, pS0, pS1, pS2])
     refine wTk (i := 4) (oi := ⟨some 28, _, _, _, _, _⟩) (v := ?_) rfl ⟨by kernel_rfl, ?_⟩ (by assumption) ?_
     rotate_left
     · (intro wS hSw; (try dsimp only at hSw); obtain ⟨a0, a1, -, -⟩ := hSw.b0.two; clear hSw; go_simp; (try with_reducible rfl))
     (try simp only [Act.put, pS0, pS1, pS2])
     refine wTk (i := 5) (oi := ⟨some 29, _, _, _, _, _⟩) (v := ?_) rfl ⟨by kernel_rfl, ?_⟩ (by assumption) ?_
     rotate_left
     · (intro wS hSw; (try dsimp only at hSw); obtain ⟨a0, a1, -, -⟩ := hSw.b0.two; clear hSw; go_simp; (try with_reducible rfl))
     (try simp only [Act.put, pS0, pS1, pS2])
     refine wTk (i := 6) (oi := ⟨some 30, _, _, _, _, _⟩) (v := ?_) rfl ⟨by kernel_rfl, ?_⟩ (by assumption) ?_
     rotate_left
     · (intro wS hSw; (try dsimp only at hSw); obtain ⟨a0, a1, -, -⟩ := hSw.b0.two; clear hSw; go_simp; (try with_reducible rfl))
     (try simp only [Act.put, pS0, pS1, pS2])
     refine wTk (i := 7) (oi := ⟨some 31, _, _, _, _, _⟩) (v := ?_) rfl ⟨by kernel_rfl, ?_⟩ (by assumption) ?_
     rotate_left
     · (intro wS hSw; (try dsimp only at hSw); obtain ⟨a0, a1, -, -⟩ := hSw.b0.two; clear hSw; go_simp; (try with_reducible rfl))
     (try simp only [Act.put, pS0, pS1, pS2])
     refine wTk (i := 10) (oi := ⟨some 34, _, _, _, _, _⟩) (v := ?_) rfl ⟨by kernel_rfl, ?_⟩ (by assumption) ?_
     rotate_left
     · (intro wS hSw; (try dsimp only at hSw); obtain ⟨a0, a1, -, -⟩ := hSw.b0.two; clear hSw; go_simp; (try with_reducible rfl))
     (try simp only [Act.put, pS0, pS1, pS2])
     refine wR1 (i := 8) (o := ⟨some 32, _, _, _, _, _⟩) rfl (fun K hK => ?_)
     go_simp
     (refine (HS.out _ f2).mono ?_; rintro e w9 ⟨rfl, hb9⟩)
     go_wp2_with fail
     refine hK.out _ _ ?_ (fun _ => ?_)
     · ((try dsimp only); (with_reducible exact hHeld.call hb9))
     clear hK K
     (try simp only [Act.put, pS0, pS1, pS2])
     refine gen0 (T := fun W => ((fun W => Mm w W [(w.heap.size, 43, #[.int .i64 f, .slice E cs.length cap])] [])) W ∧ Blk W (w.heap.size + 1) 37 (pta ptz) ∧ OwnB W w1.heap.size 5 A1 c1 m1 ∧ True) ?_ (fun wq2 hT => ?_)
     · exact ⟨by (with_reducible exact hHeld.call hb9), by (exact Blk.below f0 hb9), by (exact Own.below f1 hb9), trivial⟩
     (try clear f0 f1 f2 f3 f4 f5 f6 f7 f8 f9 f10 f11)
     obtain ⟨hHeld, f0, f1, -⟩ := hT
     refine wTk (i := 9) (oi := ⟨some 33, _, _, _, _, _⟩) (v := ?_) rfl ⟨by kernel_rfl, ?_⟩ (by assumption) ?_
     rotate_left
     · (intro wS hSw; (try dsimp only at hSw); (refine yld_build4 37 (x0 := .tmp 25) (x1 := .tmp 28) (x2 := .tmp 30) (x3 := .tmp 32) ?_ ?_ ?_ ?_ ?_ (built_ptM f (cs.length : Int) (m1.length : Int) d) <;> rfl))
     (try simp only [Act.put, pS0, pS1, pS2])
     refine wR1 (i := 11) (o := ⟨none, _, _, _, _, _⟩) rfl (fun K hK => ?_)
     ((refine step_storeP (by kernel_rfl) _ _ rfl (w.heap.size + 1) ptz (f, (cs.length : Int), (m1.length : Int), d) rfl rfl f0 ?_))
     refine hK.out _ _ ?_ (fun _ => ?_)
     · ((try dsimp only); (with_reducible exact hHeld.off (Wr.row _) (by simp) (by omega)))
     clear hK K
     (try simp only [Act.put, pS0, pS1, pS2])
     refine gen0 (T := fun W => ((fun W => Mm w W [(w.heap.size, 43, #[.int .i64 f, .slice E cs.length cap])] [])) W ∧ Blk W (w.heap.size + 1) 37 (pta (f, (cs.length : Int), (m1.length : Int), d)) ∧ OwnB W w1.heap.size 5 A1 c1 m1 ∧ True) ?_ (fun wq3 hT => ?_)
     · exact ⟨by (with_reducible exact hHeld.off (Wr.row _) (by simp) (by omega)), by (with_reducible exact Blk.row f0), by (with_reducible exact Own.rowLow f1 hlo _), trivial⟩
     (try clear f0 f1 f2 f3 f4 f5 f6 f7 f8 f9 f10 f11)
     obtain ⟨hHeld, f0, f1, -⟩ := hT
     refine wTk (i := 12) (oi := ⟨some 3, _, _, _, _, _⟩) (v := ?_) rfl ⟨by kernel_rfl, ?_⟩ (by assumption) ?_
     rotate_left
     · (intro wS hSw; (try dsimp only at hSw); obtain ⟨a0, a1, -, -⟩ := hSw.b0.two; clear hSw; go_simp; (try with_reducible rfl))
     (try simp only [Act.put, pS0, pS1, pS2])
     refine wTk (i := 13) (oi := ⟨some 4, _, _, _, _, _⟩) (v := ?_) rfl ⟨by kernel_rfl, ?_⟩ (by assumption) ?_
     rotate_left
     · (intro wS hSw; (try dsimp only at hSw); obtain ⟨a0, a1, -, -⟩ := hSw.b0.two; clear hSw; go_simp; (try with_reducible rfl))
     (try simp only [Act.put, pS0, pS1, pS2])
     refine wpAnyH_done (by kernel_rfl) ?_ _
     go_wp2_with fail
     exact bodyPost_ret (res_pt3 rfl rfl (g := w.heap.size + 1) f0) rfl ⟨A1, c1, m1, by rw [HT.out]; dsimp only; rw [← hm1.out, HD.out]; simp only [List.length_map]; rfl, (show _ = _ from by rw [HT.out]; exact hm1.out), Own.more f1 (by omega), hHeld.bel⟩
 · rw [sput_badO hk] at hP
   have HP := Lib.hid hP
   clear hP
   go_wp2_with fail
   refine HP.out.mono ?_
   clear HP
   rintro e w2 ⟨A1, c1, m1, rfl, hm1, ho1, hb1⟩
   dsimp only
   have hM2 := hM.call hb1
   have HT := Lib.hid (mof_bad hk)
   rcases errv_cases (schk (f, cs.map ceOf)) with ⟨h0, _⟩ | ⟨k, hk1, hke, hev⟩
   · exact absurd h0 hk
   rw [hev]
   have HEV := Lib.hid hev
   clear hev hke hk
   go_wp2_with (first | (refine wpl_buildPz rfl rfl ?_) | (refine wpList_store_row rfl 37 _ _ rfl (w.heap.size + 1) (pta ptz) rfl rfl 37 (pta ptz) hM2.b0 (by rw [hpz.out]; kernel_rfl) rfl hpa.out ?_))
   exact bodyPost_ret (res_pt3 rfl rfl (g := w.heap.size + 1) hM2.b0.row) rfl ⟨none, 0, [], by rw [HT.out]; first | rfl | (dsimp only; rw [HEV.out]; rfl), (show _ = _ from by rw [HT.out]), Own.none_ _ _ _ _, below_setRow hM2.bel (by omega) _⟩
theorem make_cells (n : Nat) (hn : n ≤ 1000000) (w : World) : ∃ Z : List Value, Z.length = n * 2 ∧ (Instr.makeSlice 32 (.int .i64 (n : Int)) (.int .i64 (n : Int))).run Tryz.prog w = .ok (.slice (some ⟨w.heap.size, 0, none⟩) n n) (w.alloc (.cells Z.toArray 54)) := by
 obtain ⟨i0, hi, hz0, hz1, hz2⟩ := info_parts cell_info
 have hr := run_make (P := Tryz.prog) w 32 54 i0 _ Tryz.underlying32 hi hz0 .i64 .i64 n n (by omega) (Int.le_refl _) (by rw [hz2]; omega) (by omega)
 simp only [Int.toNat_natCast] at hr
 exact ⟨(madeCells (Value.agg #[Value.int IntKind.i64 0, Value.slice none 0 0]).cells (n * i0.size)).toList, by rw [Array.length_toList, size_madeCells, hz1], by rw [hr]⟩
theorem rep_flat {T : Type} {f : T → List Value} (x : T) (m q : Nat) : (List.replicate (m + q) x).flatMap f = (List.replicate m x).flatMap f ++ (List.replicate q x).flatMap f := by
 rw [← List.replicate_append_replicate, List.flatMap_append]
theorem rep_grow {x : CeV} {cur : List Value} {m q : Nat} (hc : (List.replicate m x).flatMap cf = cur.take (m * 2)) (_hm : m * 2 ≤ cur.length) : (splice cur (m * 2) ((List.replicate q x).flatMap cf)).take ((m + q) * 2) = (List.replicate (m + q) x).flatMap cf := by
 have hl : ∀ k, ((List.replicate k x).flatMap cf).length = k * 2 := fun k => by rw [flat_len (f := cf) (s := 2) (fun _ => rfl)]; simp
 unfold splice
 rw [← hc, rep_flat, ← List.append_assoc, List.take_left' (by rw [List.length_append, hl, hl]; omega)]
theorem rep_src {x : CeV} {cur : List Value} {m q : Nat} (hq : q ≤ m) (hc : (List.replicate m x).flatMap cf = cur.take (m * 2)) {j : Nat} {v : Value} (h : ((List.replicate q x).flatMap cf)[j]? = some v) : cur[j]? = some v := by
 obtain ⟨r, rfl⟩ : ∃ r, m = q + r := ⟨m - q, by omega⟩
 have hj := (List.getElem?_eq_some_iff.1 h).1
 rw [flat_len (f := cf) (s := 2) (fun _ => rfl)] at hj
 have h2 : ((List.replicate (q + r) x).flatMap cf)[j]? = (cur.take ((q + r) * 2))[j]? := by rw [hc]
 rw [rep_flat, List.getElem?_append_left (by rw [flat_len (f := cf) (s := 2) (fun _ => rfl)]; exact hj), h, List.getElem?_take_of_lt (by simp at hj; omega)] at h2
 exact h2.symm
set_option maxRecDepth 100000 in
set_option maxHeartbeats 2000000 in
theorem Repeat_any {A : Option Addr} {c : Nat} (k : Int) (n : Nat) (w : World) (h : Sl w 2 A 1 c (cf (k, none, 0, []))) (h0 : 1 ≤ n) (h1 : n ≤ 64) :
 Calls Tryz.prog 163 #[.slice A 1 c, .int .i64 n] w fun e w' => ∃ B d, e = .returned (.slice B n d) ∧ Own w' w.heap.size 54 2 B n d ((List.replicate n ((k, none, 0, []) : CeV)).flatMap cf) ∧ Below w.heap.size w w' := by
 have hm := fun W => Tryz.bits_Mul 1 n (by omega) (by omega) W
 rw [show 1 * n / 18446744073709551616 = 0 from by rw [Nat.one_mul]; exact Nat.div_eq_of_lt (by omega), show 1 * n % 18446744073709551616 = n from by rw [Nat.one_mul]; exact Nat.mod_eq_of_lt (by omega)] at hm
 have HM := Lib.hid hm
 clear hm
 obtain ⟨Z, hZ, hmk⟩ := make_cells n (by omega) w
 have HZ := Lib.hid hZ
 clear hZ
 obtain ⟨ad, rfl, hcell⟩ : ∃ ad, A = some ad ∧ ∀ j v, (cf (k, none, 0, []))[j]? = some v → w.cell? (ad.add j) = some v := by
  obtain ⟨ad, hA, _⟩ := h.2.2.2.2 0 _ rfl
  refine ⟨ad, hA, fun j v hj => ?_⟩
  obtain ⟨ad2, hA2, hc⟩ := h.2.2.2.2 j v hj
  rw [hA] at hA2
  injection hA2 with hA2
  rw [hA2]
  exact hc
 have HC := Lib.hid hcell
 have hlt := World.block_lt_of_cell? w _ (hcell 0 _ rfl)
 clear hcell h
 go_enter Tryz.func163, Tryz.ntmps163
 go_wp2_with fail
 refine (HM.out _).mono ?_
 rintro e w1 ⟨rfl, rfl⟩
 have hg0 := heap_alloc_new w1 (.cells Z.toArray 54)
 have hbx := below_new w1 (.cells Z.toArray 54)
 obtain ⟨w2, hrun, hg2, hb2⟩ : ∃ w2, (Builtin.copy_ #[32, 32] 3 #[Value.slice (some { block := w1.heap.size, off := 0 }) n n, Value.slice (some ad) 1 c]).run Tryz.prog (w1.alloc (Obj.cells Z.toArray 54)) = .ok (.int .i64 1) w2 ∧ Hid (w2.heap[w1.heap.size]? = some (.cells (splice Z 0 (cf (k, none, 0, []))).toArray 54 (0, 0))) ∧ Below w1.heap.size w1 w2 := by
  have hr := run_copy_rowK (P := Tryz.prog) (w1.alloc (Obj.cells Z.toArray 54)) 32 32 3 54 2 w1.heap.size 0 n n ad 1 c Z.toArray 54 (cf (k, none, 0, [])) Tryz.underlying32 (by kernel_rfl) hg0 (by rw [show Nat.min 1 n = 1 from Nat.min_eq_left h0]; rfl) (fun j v hj => (hbx.cell (by rw [addr_add_block]; rw [addr_add_block] at hlt; exact hlt)).trans (HC.out j v hj)) (by simp only [List.size_toArray]; rw [HZ.out]; show 0 + 2 ≤ n * 2; omega) (by intro v hv; simp at hv; rcases hv with rfl | rfl <;> rfl)
  refine ⟨_, hr.trans ?_, (show _ = _ from setRow_heap _ _ _ _ _ _ hg0), below_setRow hbx (Nat.le_refl _) _⟩
  rw [show Nat.min 1 n = 1 from Nat.min_eq_left h0]
  simp [splice, goInt]
 clear hg0 hbx
 go_wp2_with fail
 clear hrun hmk
 go_loopw [8] (fun s8 wr => ∃ (m : Nat) (cur : List Value), 1 ≤ m ∧ m ≤ n ∧ s8 = .int .i64 m ∧ Hid (cur.length = n * 2) ∧ Hid ((List.replicate m ((k, none, 0, []) : CeV)).flatMap cf = cur.take (m * 2)) ∧ Hid (wr.heap[w1.heap.size]? = some (.cells cur.toArray 54 (0, 0))) ∧ Below w1.heap.size w1 wr) (fun s8 wr => n - (intOf s8).toNat)
 case atStart =>
  refine ⟨1, _, Nat.le_refl _, h0, rfl, (show _ = _ from ?_), (show _ = _ from ?_), hg2, hb2⟩
  · rw [length_splice _ _ _ (by rw [HZ.out]; show 0 + 2 ≤ n * 2; omega), HZ.out]
  · simp [splice]
 case round =>
  obtain ⟨m, cur, hm1, hmn, rfl, hcl, hct, hgr, hbr⟩ := hrel
  by_cases hlt : m < n
  · obtain ⟨q, hq⟩ : ∃ q, Nat.min m (n - m) = q := ⟨_, rfl⟩
    have hq1 : 1 ≤ q := by rw [← hq]; exact Nat.le_min.2 ⟨hm1, by omega⟩
    have hq2 : q ≤ m := by rw [← hq]; exact Nat.min_le_left _ _
    have hq3 : m + q ≤ n := by have : q ≤ n - m := by rw [← hq]; exact Nat.min_le_right _ _
                               omega
    have hne : ¬ n = m := by omega
    have HQ := Lib.hid hq
    clear hq
    have hwq : IntKind.i64.wrap ((m : Int) + (q : Int)) = ((m + q : Nat) : Int) := by rw [IntKind.wrap_i64]; omega
    have had := addr_lit w1.heap.size 0 (m * 2)
    rw [Nat.zero_add] at had
    have hk0 : (0 : Int) ≤ (m : Int) := by omega
    have hk1 : (m : Int) ≤ (n : Int) := by omega
    go_upto_region 9 with (fail)
    have hst : Below w1.heap.size w1 wr.drew := hbr.drew
    refine wp_region_held_drew (S := (fun W => Below w1.heap.size w1 W)) (by kernel_rfl) ?_ (fun hHeld => ?_)
    · exact hst
    refine gen0 (T := fun W => ((fun W => Below w1.heap.size w1 W)) W ∧ W.heap[w1.heap.size]? = some (.cells cur.toArray 54 (0, 0)) ∧ True) ?_ (fun wq1 hT => ?_)
    · exact ⟨by (exact hst), by (exact hgr.out), trivial⟩
    (try clear f0 f1 f2 f3 f4 f5 f6 f7 f8 f9 f10 f11)
    obtain ⟨hHeld, f0, -⟩ := hT
    refine wTk (i := 0) (oi := ⟨some 38, _, _, _, _, _⟩) (v := ?_) rfl ⟨by kernel_rfl, ?_⟩ (by assumption) ?_
    rotate_left
    · (intro wS hSw; (try dsimp only at hSw); go_simp; (try with_reducible rfl))
    (try simp only [Act.put, pS0, pS1, pS2])
    refine wTk (i := 1) (oi := ⟨some 39, _, _, _, _, _⟩) (v := ?_) rfl ⟨by kernel_rfl, ?_⟩ (by assumption) ?_
    rotate_left
    · (intro wS hSw; (try dsimp only at hSw); go_simp; (try with_reducible rfl))
    (try simp only [Act.put, pS0, pS1, pS2])
    refine wTk (i := 2) (oi := ⟨some 40, _, _, _, _, _⟩) (v := ?_) rfl ⟨by kernel_rfl, ?_⟩ (by assumption) ?_
    rotate_left
    · (intro wS hSw; (try dsimp only at hSw); go_simp; (try with_reducible rfl))
    (try simp only [Act.put, pS0, pS1, pS2])
    refine wTk (i := 3) (oi := ⟨some 41, _, _, _, _, _⟩) (v := ?_) rfl ⟨by kernel_rfl, ?_⟩ (by assumption) ?_
    rotate_left
    · (intro wS hSw; (try dsimp only at hSw); go_simp; (try with_reducible rfl))
    (try simp only [Act.put, pS0, pS1, pS2])
    refine wTk (i := 4) (oi := ⟨some 42, _, _, _, _, _⟩) (v := ?_) rfl ⟨by kernel_rfl, ?_⟩ (by assumption) ?_
    rotate_left
    · (intro wS hSw; (try dsimp only at hSw); go_simp; (try with_reducible rfl))
    (try simp only [Act.put, pS0, pS1, pS2])
    refine wTk (i := 5) (oi := ⟨some 43, _, _, _, _, _⟩) (v := ?_) rfl ⟨by kernel_rfl, ?_⟩ (by assumption) ?_
    rotate_left
    · (intro wS hSw; (try dsimp only at hSw); go_simp; (try with_reducible rfl))
    (try simp only [Act.put, pS0, pS1, pS2])
    refine wTk (i := 6) (oi := ⟨some 44, _, _, _, _, _⟩) (v := ?_) rfl ⟨by kernel_rfl, ?_⟩ (by assumption) ?_
    rotate_left
    · (intro wS hSw; (try dsimp only at hSw); go_simp; (try with_reducible rfl))
    (try simp only [Act.put, pS0, pS1, pS2])
    refine wR1 (i := 7) (o := ⟨some 45, _, _, _, _, _⟩) rfl (fun K hK => ?_)
    refine step_copyK rfl (.tmp 41) (.tmp 44) 32 32 rfl 54 2 Tryz.underlying32 (by kernel_rfl) w1.heap.size (m * 2) (n - m) (n - m) ⟨w1.heap.size, 0, none⟩ m n rfl rfl cur 54 f0 ((List.replicate q ((k, none, 0, []) : CeV)).flatMap cf) q HQ.out (by rw [flat_len (f := cf) (s := 2) (fun _ => rfl)]; simp) ?_ ?_ ?_ w1.heap.size w1 hHeld (Nat.le_refl _) ?_; (intro j v hj; rw [addr_lit, Nat.zero_add, cell_of_row _ _ _ _ _ _ f0]; simpa using rep_src hq2 hct.out hj); (rw [flat_len (f := cf) (s := 2) (fun _ => rfl), hcl.out]; simp; omega); (exact one_cf _); intro w3 hg3 hb3
    refine hK.out _ _ ?_ (fun _ => ?_)
    · ((try dsimp only); (exact hb3))
    clear hK K
    (try simp only [Act.put, pS0, pS1, pS2])
    refine gen0 (T := fun W => ((fun W => Below w1.heap.size w1 W)) W ∧ Hid (W.heap[w1.heap.size]? = some (.cells (splice cur (m * 2) ((List.replicate q ((k, none, 0, []) : CeV)).flatMap cf)).toArray 54 (0, 0))) ∧ True) ?_ (fun wq2 hT => ?_)
    · exact ⟨by (exact hb3), by (exact hg3), trivial⟩
    (try clear f0 f1 f2 f3 f4 f5 f6 f7 f8 f9 f10 f11)
    obtain ⟨hHeld, f0, -⟩ := hT
    refine wTk (i := 8) (oi := ⟨some 46, _, _, _, _, _⟩) (v := ?_) rfl ⟨by kernel_rfl, ?_⟩ (by assumption) ?_
    rotate_left
    · (intro wS hSw; (try dsimp only at hSw); go_simp; (try with_reducible rfl))
    (try simp only [Act.put, pS0, pS1, pS2])
    refine wTk (i := 9) (oi := ⟨some 8, _, _, _, _, _⟩) (v := ?_) rfl ⟨by kernel_rfl, ?_⟩ (by assumption) ?_
    rotate_left
    · (intro wS hSw; (try dsimp only at hSw); go_simp; (try with_reducible rfl))
    (try simp only [Act.put, pS0, pS1, pS2])
    refine wpAnyH_done (by kernel_rfl) ?_ _
    have hlr : ((List.replicate q ((k, none, 0, []) : CeV)).flatMap cf).length = q * 2 := by rw [flat_len (f := cf) (s := 2) (fun _ => rfl)]; simp
    go_wp2_with fail
    go_roundw
    case rel => exact ⟨m + q, _, by omega, hq3, rfl, (show _ = _ from by rw [length_splice _ _ _ (by rw [hlr, hcl.out]; omega), hcl.out]), (show _ = _ from (rep_grow hct.out (by rw [hcl.out]; omega)).symm), f0, hHeld⟩
    case measure => simp [intOf]; omega
  · have hmn2 : m = n := by omega
    subst hmn2
    go_wp2_with fail
    go_ret
    have hct2 := hct.out
    rw [List.take_of_length_le (by rw [hcl.out]; exact Nat.le_refl _)] at hct2
    exact ⟨_, _, rfl, ⟨by rw [hct2, hcl.out], .inr ⟨w1.heap.size, m, cur.toArray, rfl, Nat.le_refl _, hgr.out, Nat.le_refl _, by unfold maxLen; omega, by simp only [List.size_toArray]; exact hcl.out, by rw [hct2]; exact List.take_of_length_le (by rw [hcl.out]; exact Nat.le_refl _)⟩⟩, hbr⟩
end
section
open Go.RowKit
abbrev Rs := List UInt8 × Nat
structure Tk where
 s : Rs
 out : List Ce
 left : Nat
 last : List UInt8
 kind : Nat
def tkRow (n : Nat) (t : Tk) : Tk :=
 let s1 := if t.left < n then rFail 2 t.s else t.s
 let k := (rWithin 3 s1).1
 let s2 := (rWithin 3 s1).2
 let s3 := if k = 1 ∨ k = t.kind then rFail 2 s2 else s2
 if s3.2 = 0 then ⟨s3, t.out ++ List.replicate n ((k : Int), []), t.left - n, t.last, k⟩ else { t with s := s3 }
def tkData (t : Tk) : Tk :=
 let n := (rNum t.s).1
 let s2 := if 64 < n then rFail 3 (rNum t.s).2 else (rNum t.s).2
 let k := (rNum s2).1
 let s4 := if min n t.last.length < k then rFail 2 (rNum s2).2 else (rNum s2).2
 if s4.2 ≠ 0 then { t with s := s4 } else
  let x := t.last.take k ++ (rFixed ((n - k : Nat) : Int) s4).1
  let s5 := (rFixed ((n - k : Nat) : Int) s4).2
  let s6 := if s5.2 = 0 ∧ cpl t.last x ≠ k then rFail 2 s5 else s5
  ⟨s6, t.out ++ [(1, x)], t.left - 1, x, 1⟩
def tkStep (t : Tk) : Tk :=
 if (rNum t.s).2.2 ≠ 0 then { t with s := (rNum t.s).2 }
 else if 0 < (rNum t.s).1 then tkRow (rNum t.s).1 { t with s := (rNum t.s).2 } else tkData { t with s := (rNum t.s).2 }
def tkGo : Nat → Tk → Tk
 | 0, t => t
 | n + 1, t => if t.left = 0 ∨ t.s.2 ≠ 0 then t else tkGo n (tkStep t)
def tkEnd (t : Tk) : Tk := tkGo (t.left + 1) t
def tkNew (s : Rs) : Tk := ⟨if 64 < (rNum s).1 then rFail 3 (rNum s).2 else (rNum s).2, [], min (rNum s).1 64, [], 1⟩
def takeRun (s : Rs) : List Ce × Rs := if (tkEnd (tkNew s)).s.2 ≠ 0 then ([], (tkEnd (tkNew s)).s) else ((tkEnd (tkNew s)).out, (tkEnd (tkNew s)).s)
theorem rFail_bad {k : Nat} {s : Rs} (hk : k ≠ 0) : (rFail k s).2 ≠ 0 := by
 unfold rFail
 split
 · exact hk
 · assumption
theorem rFail_of {k : Nat} {s : Rs} (h : s.2 ≠ 0) : rFail k s = s := by unfold rFail; rw [if_neg h]
theorem rNum_of {s : Rs} (h : s.2 ≠ 0) : rNum s = (0, s) := by unfold rNum; rw [if_pos h]
theorem rWithin_of {m : Nat} {s : Rs} (h : s.2 ≠ 0) : rWithin m s = (0, s) := by
 unfold rWithin
 rw [rNum_of h, if_neg (by simp)]
theorem tk_or {s : Rs} {x y : Tk} {n : Nat} (hx : x.left = n) (hy : y.s = s) : (if s.2 = 0 then x else y).s.2 ≠ 0 ∨ (if s.2 = 0 then x else y).left = n := by
 by_cases h : s.2 = 0
 · rw [if_pos h]; exact .inr hx
 · rw [if_neg h, hy]; exact .inl h
theorem tk_or2 {s : Rs} {x y : Tk} {n : Nat} (hx : x.left = n) (hy : y.s = s) : (if s.2 ≠ 0 then y else x).s.2 ≠ 0 ∨ (if s.2 ≠ 0 then y else x).left = n := by
 by_cases h : s.2 = 0
 · rw [if_neg (by simpa using h)]; exact .inr hx
 · rw [if_pos h, hy]; exact .inl h
theorem tkRow_left (n : Nat) (t : Tk) : (tkRow n t).s.2 ≠ 0 ∨ (tkRow n t).left = t.left - n := by
 unfold tkRow
 exact tk_or rfl rfl
theorem tkData_left (t : Tk) : (tkData t).s.2 ≠ 0 ∨ (tkData t).left = t.left - 1 := by
 unfold tkData
 exact tk_or2 rfl rfl
theorem tkStep_left (t : Tk) : (tkStep t).s.2 ≠ 0 ∨ (tkStep t).left ≤ t.left - 1 := by
 unfold tkStep
 split
 · rename_i h; exact .inl h
 · split
   · rename_i h
     rcases tkRow_left (rNum t.s).1 { t with s := (rNum t.s).2 } with h1 | h1
     · exact .inl h1
     · right; rw [h1]; dsimp only; omega
   · rcases tkData_left { t with s := (rNum t.s).2 } with h1 | h1
     · exact .inl h1
     · right; rw [h1]; exact Nat.le_refl _
theorem tkGo_stop {t : Tk} (h : t.left = 0 ∨ t.s.2 ≠ 0) : ∀ n, tkGo n t = t
 | 0 => rfl
 | n + 1 => by rw [tkGo, if_pos h]
theorem tkGo_more : ∀ (n m : Nat) (t : Tk), t.left < n → t.left < m → tkGo n t = tkGo m t
 | n + 1, m + 1, t, hn, hm => by
  rw [tkGo, tkGo]
  by_cases h : t.left = 0 ∨ t.s.2 ≠ 0
  · rw [if_pos h, if_pos h]
  · rw [if_neg h, if_neg h]
    rcases tkStep_left t with h1 | h1
    · rw [tkGo_stop (.inr h1), tkGo_stop (.inr h1)]
    · exact tkGo_more n m _ (by omega) (by omega)
theorem tkEnd_stop {t : Tk} (h : t.left = 0 ∨ t.s.2 ≠ 0) : tkEnd t = t := tkGo_stop h _
theorem tkEnd_step {t : Tk} (h : t.left ≠ 0) (h2 : t.s.2 = 0) : tkEnd t = tkEnd (tkStep t) := by
 unfold tkEnd
 rw [tkGo, if_neg (by simp [h, h2])]
 rcases tkStep_left t with h1 | h1
 · rw [tkGo_stop (.inr h1), tkGo_stop (.inr h1)]
 · exact tkGo_more _ _ _ (by omega) (by omega)
end
end Go.Proofs.YtajfnmohlnkncaaGreatDoor
