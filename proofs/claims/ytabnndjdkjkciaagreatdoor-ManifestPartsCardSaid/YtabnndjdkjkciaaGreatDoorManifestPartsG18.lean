/- WHAT IT HOLDS: two parts, two slices of parts, two cursors, compared. | WHAT IT HOLDS: the document's parts, walked: compared, appended, made of the program's. -/
import Derived.Test.YtabnndjdkjkciaaGreatDoorManifestPartsG11
import Derived.Test.YtabnndjdkjkciaaGreatDoorManifestPartsG17
namespace Go.Proofs.YtabnndjdkjkciaaGreatDoor
open Go.RowKit
attribute [local go_sem ↓] Go.wp_at_zero Go.wp_at_succ

theorem part_int (xs : Array Value) (i : Nat) (v : Value) (h : xs[i]? = some v) (w : World) : (part 3 xs i).run Tryz.prog w = .ok v w := by
  unfold part
  rw [Sem.run_bind, Tryz.isAgg3]
  simp [h]
theorem part_dg (p : Pt5) (w : World) : (part 26 (pta p) 3).run Tryz.prog w = .ok (.agg (dga p.2.2.2)) w := by
  have hd := p.2.2.2.2
  have he : (pta p).extract 3 (3 + 32) = dga p.2.2.2 := by
    apply Array.ext'
    simp [pta, ptl, dga]
    exact List.take_of_length_le (by simp [hd])
  unfold part
  rw [Sem.run_bind, Tryz.isAgg26]
  simp only [Result.andThen_ok, if_true, Sem.run_bind, Tryz.sizeOf26, Sem.run_pure]
  rw [he]
theorem equalIn_dg (a b : Dg) (n : Nat) (w : World) : (Op.equalIn (n + 2) 26 (.agg (dga a)) (.agg (dga b))).run Tryz.prog w = .ok (decide (a = b)) w := by
  unfold dga
  obtain ⟨i, hi⟩ : ∃ i, Tryz.prog.info? 5 = some i := Option.isSome_iff_exists.1 (by kernel_rfl)
  rw [run_equalIn_array (P := Tryz.prog) (w := w) (n + 1) (t := 26) (e := 5) (n := 32) (i := i) _ _ Tryz.underlying26 hi]
  rw [show Tryz.prog.cellsOf 5 = 1 from by kernel_rfl]
  rw [eqItems_bytes (P := Tryz.prog) Tryz.underlying5 n a.1 b.1 w _ (fun i hi => by have := List.mem_range.1 hi; rw [a.2, b.2]; exact ⟨this, this⟩)]
  rw [dg_all]
theorem equalIn_int' (n : Nat) (a b : Int) (w : World) : (Op.equalIn (n + 1) 3 (.int .i64 a) (.int .i64 b)).run Tryz.prog w = .ok (a == b) w := run_equalIn_int w n 3 .i64 .i64 a b Tryz.underlying3
theorem part_pt0 (q : Pt5) (w : World) : (part 3 (pta q) 0).run Tryz.prog w = .ok (.int .i64 q.1) w := part_int _ 0 _ (by simp [pta, ptl]) w
theorem part_pt1 (q : Pt5) (w : World) : (part 3 (pta q) 1).run Tryz.prog w = .ok (.int .i64 q.2.1) w := part_int _ 1 _ (by simp [pta, ptl]) w
theorem part_pt2 (q : Pt5) (w : World) : (part 3 (pta q) 2).run Tryz.prog w = .ok (.int .i64 q.2.2.1) w := part_int _ 2 _ (by simp [pta, ptl]) w
theorem eqF_cons (n : Nat) (xs ys : Array Value) (fl : Field) (fs : List Field) (w : World) {x y : Value} {b c : Bool} {T : TypeId} {k : Nat} (hn : fl.name ≠ "_") (ht : fl.type = T) (hk : fl.offset = k) (ha : (part T xs k).run Tryz.prog w = .ok x w) (hb : (part T ys k).run Tryz.prog w = .ok y w)
    (he : (Op.equalIn n T x y).run Tryz.prog w = .ok b w) (hr : (Op.eqFields n xs ys fs).run Tryz.prog w = .ok c w) : (Op.eqFields n xs ys (fl :: fs)).run Tryz.prog w = .ok (b && c) w := by
  subst ht hk
  simp only [Op.eqFields, hn, ne_eq, not_false_eq_true, if_true, Sem.run_bind, ha, hb, he, Result.andThen_ok]
  cases b
  · rfl
  · exact hr
theorem bool_pt (p1 p2 p3 q1 q2 q3 : Int) (p4 q4 : Dg) : ((p1 == q1) && ((p2 == q2) && ((p3 == q3) && (decide (p4 = q4) && true)))) = decide ((p1, p2, p3, p4) = (q1, q2, q3, q4)) := by
  rw [Bool.eq_iff_iff]
  simp only [Bool.and_eq_true, beq_iff_eq, decide_eq_true_eq, Prod.mk.injEq, and_true]
theorem eqFields_pt (n : Nat) (p p' : Pt5) (w : World) (f0 f1 f2 f3 : Field) (n0 : f0.name ≠ "_") (n1 : f1.name ≠ "_") (n2 : f2.name ≠ "_") (n3 : f3.name ≠ "_") (t0 : f0.type = 3) (t1 : f1.type = 3) (t2 : f2.type = 3) (t3 : f3.type = 26) (o0 : f0.offset = 0) (o1 : f1.offset = 1) (o2 : f2.offset = 2) (o3 : f3.offset = 3) :
    (Op.eqFields (n + 2) (pta p) (pta p') [f0, f1, f2, f3]).run Tryz.prog w = .ok (decide (p = p')) w := by
  obtain ⟨p1, p2, p3, p4⟩ := p
  obtain ⟨q1, q2, q3, q4⟩ := p'
  rw [← bool_pt]
  refine eqF_cons _ _ _ _ _ _ n0 t0 o0 (part_pt0 _ w) (part_pt0 _ w) (equalIn_int' (n + 1) _ _ w) ?_
  refine eqF_cons _ _ _ _ _ _ n1 t1 o1 (part_pt1 _ w) (part_pt1 _ w) (equalIn_int' (n + 1) _ _ w) ?_
  refine eqF_cons _ _ _ _ _ _ n2 t2 o2 (part_pt2 _ w) (part_pt2 _ w) (equalIn_int' (n + 1) _ _ w) ?_
  refine eqF_cons _ _ _ _ _ _ n3 t3 o3 (part_dg _ w) (part_dg _ w) (equalIn_dg _ _ n w) ?_
  simp only [Op.eqFields, Sem.run_pure]
theorem fields_pt : ∃ f0 f1 f2 f3 : Field, (Tryz.prog.fieldsOf 28).toList = [f0, f1, f2, f3] ∧ f0.name ≠ "_" ∧ f1.name ≠ "_" ∧ f2.name ≠ "_" ∧ f3.name ≠ "_" ∧ f0.type = 3 ∧ f1.type = 3 ∧ f2.type = 3 ∧ f3.type = 26 ∧ f0.offset = 0 ∧ f1.offset = 1 ∧ f2.offset = 2 ∧ f3.offset = 3 := by
  simp only [Program.fieldsOf, Tryz.underlying28, List.toList_toArray]
  exact ⟨_, _, _, _, rfl, by decide, by decide, by decide, by decide, rfl, rfl, rfl, rfl, rfl, rfl, rfl, rfl⟩
theorem equalIn_pt (p p' : Pt5) (w : World) : (Op.equalIn 10000 28 (.agg (pta p)) (.agg (pta p'))).run Tryz.prog w = .ok (decide (p = p')) w := by
  obtain ⟨f0, f1, f2, f3, hf, n0, n1, n2, n3, t0, t1, t2, t3, o0, o1, o2, o3⟩ := fields_pt
  rw [run_equalIn_struct w 9999 28 _ _ (by kernel_rfl) (by kernel_rfl), hf]
  exact eqFields_pt 9997 p p' w f0 f1 f2 f3 n0 n1 n2 n3 t0 t1 t2 t3 o0 o1 o2 o3
theorem neq_pt (p p' : Pt5) (w : World) : (binOp .neq 28 (.agg (pta p)) (.agg (pta p'))).run Tryz.prog w = .ok (.bool (!decide (p = p'))) w := by
  rw [run_neq_struct, equalIn_pt]
  rfl
end Go.Proofs.YtabnndjdkjkciaaGreatDoor

namespace Go.Proofs.YtabnndjdkjkciaaGreatDoor
open Go.RowKit
attribute [local go_sem ↓] Go.wp_at_zero Go.wp_at_succ

theorem dg_cases {Q : Dg → Prop} (h : ∀ b0 b1 b2 b3 b4 b5 b6 b7 b8 b9 b10 b11 b12 b13 b14 b15 b16 b17 b18 b19 b20 b21 b22 b23 b24 b25 b26 b27 b28 b29 b30 b31 : UInt8, Q ⟨[b0, b1, b2, b3, b4, b5, b6, b7, b8, b9, b10, b11, b12, b13, b14, b15, b16, b17, b18, b19, b20, b21, b22, b23, b24, b25, b26, b27, b28, b29, b30, b31], rfl⟩) : ∀ d, Q d := by
  rintro ⟨l, hl⟩
  match l, hl with
  | [b0, b1, b2, b3, b4, b5, b6, b7, b8, b9, b10, b11, b12, b13, b14, b15, b16, b17, b18, b19, b20, b21, b22, b23, b24, b25, b26, b27, b28, b29, b30, b31], _ => exact h b0 b1 b2 b3 b4 b5 b6 b7 b8 b9 b10 b11 b12 b13 b14 b15 b16 b17 b18 b19 b20 b21 b22 b23 b24 b25 b26 b27 b28 b29 b30 b31
theorem part_dgR (p : Pt5) (w : World) : (part 42 (pta p) 3).run Tryz.prog w = .ok (.agg (dga p.2.2.2)) w := by
  have hd := p.2.2.2.2
  have he : (pta p).extract 3 (3 + 32) = dga p.2.2.2 := by
    apply Array.ext'
    simp [pta, ptl, dga]
    exact List.take_of_length_le (by simp [hd])
  unfold part
  rw [Sem.run_bind, Tryz.isAgg42]
  simp only [Result.andThen_ok, if_true, Sem.run_bind, Tryz.sizeOf42, Sem.run_pure]
  rw [he]
theorem equalIn_dgR (a b : Dg) (n : Nat) (w : World) : (Op.equalIn (n + 2) 42 (.agg (dga a)) (.agg (dga b))).run Tryz.prog w = .ok (decide (a = b)) w := by
  unfold dga
  obtain ⟨i, hi⟩ : ∃ i, Tryz.prog.info? 5 = some i := Option.isSome_iff_exists.1 (by kernel_rfl)
  rw [run_equalIn_array (P := Tryz.prog) (w := w) (n + 1) (t := 42) (e := 5) (n := 32) (i := i) _ _ Tryz.underlying42 hi]
  rw [show Tryz.prog.cellsOf 5 = 1 from by kernel_rfl]
  rw [eqItems_bytes (P := Tryz.prog) Tryz.underlying5 n a.1 b.1 w _ (fun i hi => by have := List.mem_range.1 hi; rw [a.2, b.2]; exact ⟨this, this⟩)]
  rw [dg_all]
theorem neq_dgR (a b : Dg) (w : World) : (binOp .neq 42 (.agg (dga a)) (.agg (dga b))).run Tryz.prog w = .ok (.bool (!decide (a = b))) w := by
  have h : (Op.equalIn 10000 42 (.agg (dga a)) (.agg (dga b))).run Tryz.prog w = .ok (decide (a = b)) w := equalIn_dgR a b 9998 w
  rw [run_neq_struct, h]
  rfl
theorem eqFields_ptR (n : Nat) (p p' : Pt5) (w : World) (f0 f1 f2 f3 : Field) (n0 : f0.name ≠ "_") (n1 : f1.name ≠ "_") (n2 : f2.name ≠ "_") (n3 : f3.name ≠ "_") (t0 : f0.type = 3) (t1 : f1.type = 3) (t2 : f2.type = 3) (t3 : f3.type = 42) (o0 : f0.offset = 0) (o1 : f1.offset = 1) (o2 : f2.offset = 2) (o3 : f3.offset = 3) :
    (Op.eqFields (n + 2) (pta p) (pta p') [f0, f1, f2, f3]).run Tryz.prog w = .ok (decide (p = p')) w := by
  obtain ⟨p1, p2, p3, p4⟩ := p
  obtain ⟨q1, q2, q3, q4⟩ := p'
  rw [← bool_pt]
  refine eqF_cons _ _ _ _ _ _ n0 t0 o0 (part_pt0 _ w) (part_pt0 _ w) (equalIn_int' (n + 1) _ _ w) ?_
  refine eqF_cons _ _ _ _ _ _ n1 t1 o1 (part_pt1 _ w) (part_pt1 _ w) (equalIn_int' (n + 1) _ _ w) ?_
  refine eqF_cons _ _ _ _ _ _ n2 t2 o2 (part_pt2 _ w) (part_pt2 _ w) (equalIn_int' (n + 1) _ _ w) ?_
  refine eqF_cons _ _ _ _ _ _ n3 t3 o3 (part_dgR _ w) (part_dgR _ w) (equalIn_dgR _ _ n w) ?_
  simp only [Op.eqFields, Sem.run_pure]
theorem fields_ptR : ∃ f0 f1 f2 f3 : Field, (Tryz.prog.fieldsOf 44).toList = [f0, f1, f2, f3] ∧ f0.name ≠ "_" ∧ f1.name ≠ "_" ∧ f2.name ≠ "_" ∧ f3.name ≠ "_" ∧ f0.type = 3 ∧ f1.type = 3 ∧ f2.type = 3 ∧ f3.type = 42 ∧ f0.offset = 0 ∧ f1.offset = 1 ∧ f2.offset = 2 ∧ f3.offset = 3 := by
  simp only [Program.fieldsOf, Tryz.underlying44, List.toList_toArray]
  exact ⟨_, _, _, _, rfl, by decide, by decide, by decide, by decide, rfl, rfl, rfl, rfl, rfl, rfl, rfl, rfl⟩
theorem equalIn_ptR (p p' : Pt5) (w : World) : (Op.equalIn 10000 44 (.agg (pta p)) (.agg (pta p'))).run Tryz.prog w = .ok (decide (p = p')) w := by
  obtain ⟨f0, f1, f2, f3, hf, n0, n1, n2, n3, t0, t1, t2, t3, o0, o1, o2, o3⟩ := fields_ptR
  rw [run_equalIn_struct w 9999 44 _ _ (by kernel_rfl) (by kernel_rfl), hf]
  exact eqFields_ptR 9997 p p' w f0 f1 f2 f3 n0 n1 n2 n3 t0 t1 t2 t3 o0 o1 o2 o3
theorem neq_ptR (p p' : Pt5) (w : World) : (binOp .neq 44 (.agg (pta p)) (.agg (pta p'))).run Tryz.prog w = .ok (.bool (!decide (p = p'))) w := by
  rw [run_neq_struct, equalIn_ptR]
  rfl
theorem pt_infoR : (Tryz.prog.info? 44).map (fun i => (i.zero, i.size, i.bytes)) = some (some (.agg (pta (0, 0, 0, dg0))), 35, 56) := by kernel_rfl
theorem step_litR {w : World} {ops : Array Oper} {o : Oper} {a : Act} {K : Act → World → Prop} {Q : Exit → Act → World → Prop} {X : Prop} (hgd : Region.wanted o (yielded ops a.tmps) = true) (x : Operand) (ho : o.op = .buildSlice 77 1 #[(0, x)])
    (p : Pt5) (hx : a.eval x = .agg (pta p)) (h : K (a.put o.dst (.slice (some ⟨w.heap.size, 0, none⟩) 1 1)) (w.alloc (.cells (pta p) 44))) : if Region.wanted o (yielded ops a.tmps) = true then Oper.wp Tryz.prog o a w K Q else X := by
  rw [if_pos hgd]
  obtain ⟨i0, hi, hz0, hz1, hz2⟩ := info_parts pt_infoR
  refine wp_buildSlice 77 44 1 _ ho (pta p) i0 _ Tryz.underlying77 hi hz0 (by rw [hz1]; decide) (by rw [hz1]; decide) ?_ h
  rw [hz1]
  have hl : ((#[(0, x)] : Array (Nat × Operand)).map fun (i, x) => (i, a.eval x)).toList = ([Value.agg (pta p)].zipIdx 0).map fun x => (x.2, x.1) := by simp [hx]
  have hps := pta_size p
  rw [hl, Go.Great.fill_whole (s := 35) (by decide) [Value.agg (pta p)] _ (by intro v hv; rw [List.mem_singleton.1 hv]; exact hps) (by simp)]
  simp [Value.cells]
theorem built_ptR (f x y : Int) : ∀ d : Dg, Tryz.prog.built 44 [(0, .int .i64 f), (1, .int .i64 x), (2, .int .i64 y), (3, .agg (dga d))] = some (pta (f, x, y, d)) := by
  refine dg_cases ?_
  intros
  kernel_rfl
theorem wpl_buildPR {w : World} {ops : Array Oper} {rest : List Oper} {o : Oper} {a : Act} {Q : Exit → Act → World → Prop} (hgd : o.guard = none) (x0 x1 x2 x3 : Operand) (ho : o.op = .build 44 #[(0, x0), (1, x1), (2, x2), (3, x3)])
    {f x y : Int} {d : Dg} (h0 : a.eval x0 = .int .i64 f) (h1 : a.eval x1 = .int .i64 x) (h2 : a.eval x2 = .int .i64 y) (h3 : a.eval x3 = .agg (dga d))
    (h : wpList Tryz.prog ops Q rest (a.put o.dst (.agg (pta (f, x, y, d)))) w) : wpList Tryz.prog ops Q (o :: rest) a w := by
  have hl : ((#[(0, x0), (1, x1), (2, x2), (3, x3)] : Array (Nat × Operand)).map fun (i, x) => (i, a.eval x)).toList = [(0, .int .i64 f), (1, .int .i64 x), (2, .int .i64 y), (3, .agg (dga d))] := by
    simp [h0, h1, h2, h3]
  refine wpList_build hgd 44 _ ho ?_ ?_
  · rw [hl, built_ptR]; rfl
  · rw [hl, built_ptR]; exact h
theorem BlP.dg {w : World} {g : Nat} {t : TypeId} {p : Pt5} (h : Blk w g t (pta p)) : ∀ j u, (dga p.2.2.2)[j]? = some u → w.cell? ((⟨g, 3, none⟩ : Addr).add j) = some u := fun j u hj => by
  rw [addr_lit, h.cell]
  replace hj : (bvs p.2.2.2.1)[j]? = some u := by simpa [dga] using hj
  rw [show 3 + j = j + 1 + 1 + 1 from by omega]
  simp only [pta, ptl, List.getElem?_toArray, List.getElem?_cons_succ]
  exact hj
theorem res_ptR {fn : Func} {a : Nat} {tmps : Array Value} {w : World} {g : Nat} {p : Pt5} (hres : fn.results = #[.cell a 44]) (ha : tmps.getD a undef = .pointer (some ⟨g, 0, none⟩)) (hB : Blk w g 44 (pta p)) : (results fn tmps).run Tryz.prog w = .ok (.agg (pta p)) w := by
  have h := run_loadVar_at (P := Tryz.prog) w ⟨g, 0, none⟩ 44 (pta p) hB.cells _ Tryz.underlying44 rfl (by rw [pta_size]; kernel_rfl)
  have ha' : tmps[a]?.getD undef = .pointer (some ⟨g, 0, none⟩) := by simpa using ha
  simp [results, hres, asAddr, h, ha']
set_option maxRecDepth 100000 in
set_option maxHeartbeats 1000000 in
theorem PartOf_any (p : Pt5) (w : World) : Calls Tryz.prog 13 #[.agg (pta p)] w fun e w' => e = .returned (.agg (pta p)) ∧ Below w.heap.size w w' := by
  have hM := ((Mm.start w).alloc (pta p) 28).alloc (pta (0, 0, 0, dg0)) 44
  rw [show (w.alloc (.cells (pta p) 28)).heap.size = w.heap.size + 1 from by simp] at hM
  have hds := Lib.hid (dga_size p.2.2.2)
  have hps := Lib.hid (pta_size p)
  have hp0 := Lib.hid (pta_size (0, 0, 0, dg0))
  have hpa := Lib.hid (pta_all p)
  go_enter Tryz.func13, Tryz.ntmps13
  go_upto_region 1 with (fail)
  refine gen1 (T := fun W => Mm w W [(w.heap.size + 1, 44, pta (0, 0, 0, dg0)), (w.heap.size, 28, pta p)] []) hM (fun w0 hM => ?_)
  obtain ⟨x0, x1, x2⟩ := BlP.three hM.b1
  have hd := Lib.hid (BlP.dg hM.b1)
  go_wp2_with (first | (refine wpl_loadG rfl 26 _ rfl ⟨w.heap.size, 3, none⟩ (dga p.2.2.2) rfl hd.out _ Tryz.underlying26 rfl (by rw [hds.out]; kernel_rfl) ?_) | (refine wpl_buildPR rfl _ _ _ _ rfl (f := p.1) (x := p.2.1) (y := p.2.2.1) (d := p.2.2.2) rfl rfl rfl rfl ?_) | (refine wpList_store_row rfl 44 _ _ rfl (w.heap.size + 1) (pta p) rfl rfl 44 _ hM.b0 (by rw [hps.out]; kernel_rfl) (by rw [hps.out, hp0.out]) hpa.out ?_))
  exact bodyPost_ret (res_ptR rfl rfl (g := w.heap.size + 1) hM.b0.row) rfl ⟨rfl, below_setRow hM.bel (by omega) _⟩
end Go.Proofs.YtabnndjdkjkciaaGreatDoor
