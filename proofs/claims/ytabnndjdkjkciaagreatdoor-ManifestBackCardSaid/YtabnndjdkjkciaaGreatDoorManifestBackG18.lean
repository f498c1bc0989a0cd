/- WHAT IT HOLDS: which manifests there are, by the document, walked. | WHAT IT HOLDS: digests and parts out of a reader, as package manifest takes them, walked; a store into the midst of a block. | WHAT IT HOLDS: sha.Of of one part, sha.Sum: walked. -/
import Derived.Test.YtabnndjdkjkciaaGreatDoorManifestBackG17
import Derived.Test.YtabnndjdkjkciaaGreatDoorManifestBackG14
namespace Go.Proofs.YtabnndjdkjkciaaGreatDoor
open Go.RowKit
attribute [local go_sem ↓] Go.wp_at_zero Go.wp_at_succ

theorem Bl3 {w : World} {g : Nat} {T : TypeId} {p : Pt5} (h : Blk w g T (pta p)) : w.cell? ⟨g, 0, none⟩ = some (.int .i64 p.1) ∧ w.cell? ⟨g, 1, none⟩ = some (.int .i64 p.2.1) ∧ w.cell? ⟨g, 2, none⟩ = some (.int .i64 p.2.2.1) :=
  ⟨(h.cell 0).trans rfl, (h.cell 1).trans rfl, (h.cell 2).trans rfl⟩
set_option maxRecDepth 100000 in
theorem built_dgz : Tryz.prog.built 42 [] = some (dga dg0) := by kernel_rfl
theorem wpl_buildDz {w : World} {ops : Array Oper} {rest : List Oper} {o : Oper} {a : Act} {Q : Exit → Act → World → Prop} (hgd : Region.wanted o (yielded ops a.tmps) = true) (ho : o.op = .build 42 #[])
    (h : wpList Tryz.prog ops Q rest (a.put o.dst (.agg (dga dg0))) w) : wpList Tryz.prog ops Q (o :: rest) a w :=
  wpList_step fun _ hK => by
    rw [if_pos hgd]
    have hl : ((#[] : Array (Nat × Operand)).map fun (i, x) => (i, a.eval x)).toList = [] := by simp
    refine wp_build 42 #[] ho ?_ ?_
    · rw [hl, built_dgz]; simp
    · rw [hl, built_dgz]; exact hK _ _ h
end Go.Proofs.YtabnndjdkjkciaaGreatDoor

namespace Go.Proofs.YtabnndjdkjkciaaGreatDoor
open Go.RowKit
attribute [local go_sem ↓] Go.wp_at_zero Go.wp_at_succ

section
variable {P : Program}
theorem run_storeVar_at (w : World) (g off : Nat) (t ty : TypeId) (old cells : Array Value) (hg : w.heap[g]? = some (.cells old t (0, 0))) (hi : (P.info? ty).map (·.size) = some cells.size) (hfit : off + cells.size ≤ old.size) (h1 : cells.all (·.oneCell') = true) :
    (storeVar ty ⟨g, off, none⟩ (.agg cells)).run P w = .ok () (w.setRow g (splice old.toList off cells.toList).toArray) := by
  have := run_storeCells_at P g off t cells.toList 0 old w hg (by simp; omega) (fun v hv => (Array.all_eq_true_iff_forall_mem.1 h1) v (by simpa using hv))
  cases hq : P.info? ty with
  | none => simp [hq] at hi
  | some i =>
    have hs : cells.size = i.size := by simp [hq] at hi; omega
    simp only [Nat.add_zero] at this
    simp [storeVar, sizeOf, typeInfo, hq, Value.cells, hs, this, splice]
end
theorem dga_all (d : Dg) : (dga d).all (·.oneCell') = true := by
  rw [Array.all_eq_true_iff_forall_mem]
  intro u hu
  exact one_bvs _ u (by simpa [dga] using hu)
set_option maxRecDepth 100000 in
/-- a digest's bytes, or none, copied into a digest -/
theorem step_copyD0 {ops : Array Oper} {o : Oper} {a : Act} {w : World} {K : Act → World → Prop} {Q : Exit → Act → World → Prop} {E : Prop} (hgd : o.guard = none) (d s : Operand)
    (ho : o.op = .call { callee := .builtin .copy, args := #[d, s], argTypes := #[29, 29] }) (gc : Nat) (hB : Blk w gc 26 (dga dg0)) (hd : a.eval d = .slice (some ⟨gc, 0, none⟩) 32 32)
    (A : Option Addr) (c : Nat) (m : List UInt8) (hs : a.eval s = .slice A m.length c) (hS : SlB w A c m) (hm : m.length = 0 ∨ m.length = 32)
    (h : ∀ w' v, Blk w' gc 26 (dga (if h : m.length = 32 then ⟨m, h⟩ else dg0)) → Below gc w w' → K (a.put o.dst v) w') :
    if Region.wanted o (yielded ops a.tmps) = true then Oper.wp Tryz.prog o a w K Q else E := by
  have hu8 : (Tryz.prog.info? 5).map (·.size) = some 1 := by kernel_rfl
  have h0l : (bvs dg0.1).length = 32 := by have := dg0.2; simp [this]
  cases A with
  | none =>
    have h0 := hS.2.2.2.1 rfl
    have h1 := hS.2.1
    have hl : m.length = 0 := by omega
    have hw : Region.wanted o (yielded ops a.tmps) = true := by simp [Region.wanted, hgd]
    rw [if_pos hw]
    rw [hl] at hs
    have hrun := run_copy_none (P := Tryz.prog) w 29 29 o.type 5 1 (some ⟨gc, 0, none⟩) 32 32 c Tryz.underlying29 hu8
    unfold Oper.wp
    simp [execOp, ho, resolve, invoke, builtin, hd, hs, hrun, Result.andThen]
    refine h _ _ ?_ (Below.refl _ _)
    rw [dif_neg (by omega)]
    exact hB
  | some ad =>
    have hsrc : ∀ j v, (bvs m)[j]? = some v → w.cell? (ad.add j) = some v := fun j v hj => by
      obtain ⟨ad', hA, hc⟩ := hS.2.2.2.2 j v hj
      injection hA with hA
      subst hA
      exact hc
    rcases hm with hm | hm
    · have hn : m = [] := List.eq_nil_of_length_eq_zero hm
      refine step_copyK (E := E) hgd d s 29 29 ho 5 1 Tryz.underlying29 hu8 gc 0 32 32 ad m.length c hd hs (bvs dg0.1) 26 hB [] 0 (by simp [hm]) rfl (by simp) (by simp) (by simp) gc w (Below.refl _ _) (Nat.le_refl _) ?_
      intro w' hw' hb'
      refine h _ _ ?_ hb'
      rw [dif_neg (by omega)]
      have := hw'.out
      rw [splice_nil] at this
      exact this
    · refine step_copyK (E := E) hgd d s 29 29 ho 5 1 Tryz.underlying29 hu8 gc 0 32 32 ad m.length c hd hs (bvs dg0.1) 26 hB (bvs m) 32 (by simp [hm]) (by simp [hm]) hsrc (by rw [h0l]; simp [hm]) (one_bvs m) gc w (Below.refl _ _) (Nat.le_refl _) ?_
      intro w' hw' hb'
      refine h _ _ ?_ hb'
      rw [dif_pos hm]
      have := hw'.out
      rw [show splice (bvs dg0.1) 0 (bvs m) = bvs m from by unfold splice; rw [List.take_zero, List.drop_eq_nil_of_le (by rw [h0l]; simp [hm])]; simp] at this
      exact this
theorem res_dg {fn : Func} {a : Nat} {tmps : Array Value} {w : World} {g : Nat} {d : Dg} (hres : fn.results = #[.cell a 26]) (ha : tmps.getD a undef = .pointer (some ⟨g, 0, none⟩)) (hB : Blk w g 26 (dga d)) : (results fn tmps).run Tryz.prog w = .ok (.agg (dga d)) w := by
  have h := run_loadVar_at (P := Tryz.prog) w ⟨g, 0, none⟩ 26 (dga d) hB.cells _ Tryz.underlying26 rfl (by rw [dga_size]; kernel_rfl)
  have ha' : tmps[a]?.getD undef = .pointer (some ⟨g, 0, none⟩) := by simpa using ha
  simp [results, hres, asAddr, h, ha']
theorem IsR.row2 {w : World} {g B gc : Nat} {s : List UInt8 × Nat} (h : IsR w g B s) (h1 : g < gc) (h2 : B ≤ gc) (cs : Array Value) : IsR (w.setRow gc cs) g B s := IsR.row h h1 h2 cs
set_option maxRecDepth 100000 in
set_option maxHeartbeats 1000000 in
theorem MDig_any {w : World} {g B : Nat} {s : List UInt8 × Nat} (hR : IsR w g B s) (hB : B ≤ w.heap.size) (hl : s.1.length ≤ 1000000000) : Calls Tryz.prog 56 #[.pointer (some ⟨g, 0, none⟩)] w fun e w' => e = .returned (.agg (dga (rDg s).1)) ∧ IsR w' g B (rDg s).2 ∧ Wr w w' g := by
  have hg := hR.lt
  have hst0 : Wr w ((w.alloc (.cells (dga dg0) 26)).alloc (.cells (dga dg0) 26)) g ∧ Blk ((w.alloc (.cells (dga dg0) 26)).alloc (.cells (dga dg0) 26)) w.heap.size 26 (dga dg0) := ⟨((Wr.refl _ _).alloc _).alloc _, (Blk.new w _ _).alloc _⟩
  have hL0 : Blk ((w.alloc (.cells (dga dg0) 26)).alloc (.cells (dga dg0) 26)) (w.heap.size + 1) 26 (dga dg0) := Blk.newAt (by simp) _ _
  have hR0 := (hR.alloc (.cells (dga dg0) 26)).alloc (.cells (dga dg0) 26)
  have hds := Lib.hid (dga_size (rDg s).1)
  have hd0 := Lib.hid (dga_size dg0)
  have hda := Lib.hid (dga_all (rDg s).1)
  go_enter Tryz.func56, Tryz.ntmps56
  go_upto_region 2 with (fail)
  refine gen1 (T := fun W => ((Wr w W g ∧ Blk W w.heap.size 26 (dga dg0)) ∧ Blk W (w.heap.size + 1) 26 (dga dg0)) ∧ IsR W g B s) ⟨⟨hst0, hL0⟩, hR0⟩ (fun w0 hT => ?_)
  clear hst0 hL0 hR0
  obtain ⟨⟨hst, hL⟩, hR0⟩ := hT
  have hstd : Wr w w0.drew g ∧ Blk w0.drew w.heap.size 26 (dga dg0) := ⟨hst.1.drew, hst.2.drew⟩
  have hLd := hL.drew
  have hRd := hR0.drew
  have hlt := hL.lt
  clear hst hL hR0
  refine wp_region_held_drew (S := (fun W => Wr w W g ∧ Blk W w.heap.size 26 (dga dg0))) (by kernel_rfl) ?_ (fun hHeld => ?_)
  · exact hstd
  refine gen0 (T := fun W => ((fun W => Wr w W g ∧ Blk W w.heap.size 26 (dga dg0))) W ∧ IsR W g B s ∧ Blk W (w.heap.size + 1) 26 (dga dg0) ∧ True) ?_ (fun wq1 hT => ?_)
  · exact ⟨by (first | with_reducible exact hstd | with_reducible exact hHeld | with_reducible exact ⟨hHeld.1.trans hr9, hHeld.2.wr hr9 (by omega)⟩ | exact ⟨⟨hb10.os.trans hHeld.1.os, hb10.tape.trans hHeld.1.tape, hb10.output.trans hHeld.1.output, Nat.le_trans hHeld.1.size hb10.size, fun i hi hn => (hb10.block i (by omega)).trans (hHeld.1.block i hi hn)⟩, (hb10.block _ (by omega)).trans hHeld.2⟩), by (first | with_reducible assumption | with_reducible exact hRd | with_reducible exact hLd | with_reducible exact hR9 | with_reducible exact Blk.wr (by with_reducible assumption) hr9 (by omega) | exact ho9.sl | exact IsR.apart (by with_reducible assumption) (C := w.heap.size + 1) (by omega) (by omega) hb10 | exact (by rw [← rDg_eq hm9.out]; exact hB10)), by (first | with_reducible assumption | with_reducible exact hRd | with_reducible exact hLd | with_reducible exact hR9 | with_reducible exact Blk.wr (by with_reducible assumption) hr9 (by omega) | exact ho9.sl | exact IsR.apart (by with_reducible assumption) (C := w.heap.size + 1) (by omega) (by omega) hb10 | exact (by rw [← rDg_eq hm9.out]; exact hB10)), trivial⟩
  (try clear f0 f1 f2 f3 f4 f5 f6 f7 f8 f9 f10 f11)
  obtain ⟨hHeld, f0, f1, -⟩ := hT
  refine wpAnyH_take (i := 0) (oi := ⟨some 4, _, _, _, _, _⟩) (v := ?_) rfl (by kernel_rfl) (by kernel_rfl) (by kernel_rfl) (fun _ _ _ h => h) (Or.inl ⟨by kernel_rfl, ?_⟩) (by assumption) ?_
  rotate_left
  · (intro wS hSw; (try dsimp only at hSw); clear hSw; go_simp; (try with_reducible rfl))
  (try simp only [Act.put, List.setIfInBounds_toArray, List.set_cons_zero, List.set_cons_succ])
  refine wpAnyH_take (i := 1) (oi := ⟨some 5, _, _, _, _, _⟩) (v := ?_) rfl (by kernel_rfl) (by kernel_rfl) (by kernel_rfl) (fun _ _ _ h => h) (Or.inl ⟨by kernel_rfl, ?_⟩) (by assumption) ?_
  rotate_left
  · (intro wS hSw; (try dsimp only at hSw); clear hSw; go_simp; (try with_reducible rfl))
  (try simp only [Act.put, List.setIfInBounds_toArray, List.set_cons_zero, List.set_cons_succ])
  refine wpAnyH_ready (rs := [2]) (by kernel_rfl) (by simp) ?_
  refine AllReadyH.cons (o := ⟨some 6, _, _, _, _, _⟩) rfl (fun K hK => ?_) AllReadyH.nil
  go_simp
  (refine (Fixed_s 32 hl f0).mono ?_; rintro e w9 ⟨A9, c9, m9, rfl, hm9, ho9, hR9, hr9⟩)
  go_wp2_with fail
  refine hK.out _ _ ?_ (fun _ => ?_)
  · ((try dsimp only); (first | with_reducible exact hstd | with_reducible exact hHeld | with_reducible exact ⟨hHeld.1.trans hr9, hHeld.2.wr hr9 (by omega)⟩ | exact ⟨⟨hb10.os.trans hHeld.1.os, hb10.tape.trans hHeld.1.tape, hb10.output.trans hHeld.1.output, Nat.le_trans hHeld.1.size hb10.size, fun i hi hn => (hb10.block i (by omega)).trans (hHeld.1.block i hi hn)⟩, (hb10.block _ (by omega)).trans hHeld.2⟩))
  clear hK K
  (try simp only [Act.put, List.setIfInBounds_toArray, List.set_cons_zero, List.set_cons_succ])
  refine gen0 (T := fun W => ((fun W => Wr w W g ∧ Blk W w.heap.size 26 (dga dg0))) W ∧ IsR W g B (rFixed 32 s).2 ∧ Blk W (w.heap.size + 1) 26 (dga dg0) ∧ SlB W A9 c9 m9 ∧ True) ?_ (fun wq2 hT => ?_)
  · exact ⟨by (first | with_reducible exact hstd | with_reducible exact hHeld | with_reducible exact ⟨hHeld.1.trans hr9, hHeld.2.wr hr9 (by omega)⟩ | exact ⟨⟨hb10.os.trans hHeld.1.os, hb10.tape.trans hHeld.1.tape, hb10.output.trans hHeld.1.output, Nat.le_trans hHeld.1.size hb10.size, fun i hi hn => (hb10.block i (by omega)).trans (hHeld.1.block i hi hn)⟩, (hb10.block _ (by omega)).trans hHeld.2⟩), by (first | with_reducible assumption | with_reducible exact hRd | with_reducible exact hLd | with_reducible exact hR9 | with_reducible exact Blk.wr (by with_reducible assumption) hr9 (by omega) | exact ho9.sl | exact IsR.apart (by with_reducible assumption) (C := w.heap.size + 1) (by omega) (by omega) hb10 | exact (by rw [← rDg_eq hm9.out]; exact hB10)), by (first | with_reducible assumption | with_reducible exact hRd | with_reducible exact hLd | with_reducible exact hR9 | with_reducible exact Blk.wr (by with_reducible assumption) hr9 (by omega) | exact ho9.sl | exact IsR.apart (by with_reducible assumption) (C := w.heap.size + 1) (by omega) (by omega) hb10 | exact (by rw [← rDg_eq hm9.out]; exact hB10)), by (first | with_reducible assumption | with_reducible exact hRd | with_reducible exact hLd | with_reducible exact hR9 | with_reducible exact Blk.wr (by with_reducible assumption) hr9 (by omega) | exact ho9.sl | exact IsR.apart (by with_reducible assumption) (C := w.heap.size + 1) (by omega) (by omega) hb10 | exact (by rw [← rDg_eq hm9.out]; exact hB10)), trivial⟩
  (try clear f0 f1 f2 f3 f4 f5 f6 f7 f8 f9 f10 f11)
  obtain ⟨hHeld, f0, f1, f2, -⟩ := hT
  refine wpAnyH_ready (rs := [3]) (by kernel_rfl) (by simp) ?_
  refine AllReadyH.cons (o := ⟨some 7, _, _, _, _, _⟩) rfl (fun K hK => ?_) AllReadyH.nil
  (first | (refine step_copyD0 rfl (.tmp 4) (.tmp 6) rfl (w.heap.size + 1) (by with_reducible assumption) rfl A9 c9 m9 rfl (by with_reducible assumption) (by rw [hm9.out]; exact rFixed32 s) ?_; intro w10 v10 hB10 hb10) | go_simp)
  refine hK.out _ _ ?_ (fun _ => ?_)
  · ((try dsimp only); (first | with_reducible exact hstd | with_reducible exact hHeld | with_reducible exact ⟨hHeld.1.trans hr9, hHeld.2.wr hr9 (by omega)⟩ | exact ⟨⟨hb10.os.trans hHeld.1.os, hb10.tape.trans hHeld.1.tape, hb10.output.trans hHeld.1.output, Nat.le_trans hHeld.1.size hb10.size, fun i hi hn => (hb10.block i (by omega)).trans (hHeld.1.block i hi hn)⟩, (hb10.block _ (by omega)).trans hHeld.2⟩))
  clear hK K
  (try simp only [Act.put, List.setIfInBounds_toArray, List.set_cons_zero, List.set_cons_succ])
  refine gen0 (T := fun W => ((fun W => Wr w W g ∧ Blk W w.heap.size 26 (dga dg0))) W ∧ IsR W g B (rFixed 32 s).2 ∧ Blk W (w.heap.size + 1) 26 (dga (rDg s).1) ∧ True) ?_ (fun wq3 hT => ?_)
  · exact ⟨by (first | with_reducible exact hstd | with_reducible exact hHeld | with_reducible exact ⟨hHeld.1.trans hr9, hHeld.2.wr hr9 (by omega)⟩ | exact ⟨⟨hb10.os.trans hHeld.1.os, hb10.tape.trans hHeld.1.tape, hb10.output.trans hHeld.1.output, Nat.le_trans hHeld.1.size hb10.size, fun i hi hn => (hb10.block i (by omega)).trans (hHeld.1.block i hi hn)⟩, (hb10.block _ (by omega)).trans hHeld.2⟩), by (first | with_reducible assumption | with_reducible exact hRd | with_reducible exact hLd | with_reducible exact hR9 | with_reducible exact Blk.wr (by with_reducible assumption) hr9 (by omega) | exact ho9.sl | exact IsR.apart (by with_reducible assumption) (C := w.heap.size + 1) (by omega) (by omega) hb10 | exact (by rw [← rDg_eq hm9.out]; exact hB10)), by (first | with_reducible assumption | with_reducible exact hRd | with_reducible exact hLd | with_reducible exact hR9 | with_reducible exact Blk.wr (by with_reducible assumption) hr9 (by omega) | exact ho9.sl | exact IsR.apart (by with_reducible assumption) (C := w.heap.size + 1) (by omega) (by omega) hb10 | exact (by rw [← rDg_eq hm9.out]; exact hB10)), trivial⟩
  (try clear f0 f1 f2 f3 f4 f5 f6 f7 f8 f9 f10 f11)
  obtain ⟨hHeld, f0, f1, -⟩ := hT
  refine wpAnyH_done (by kernel_rfl) ?_ _
  have hq := f1.cells
  go_wp2_with (first | (refine wpl_loadG rfl 26 _ rfl ⟨w.heap.size + 1, 0, none⟩ (dga (rDg s).1) rfl hq _ Tryz.underlying26 rfl (by rw [hds.out]; kernel_rfl) ?_) | (refine wpList_store_row rfl 26 _ _ rfl w.heap.size (dga (rDg s).1) rfl rfl 26 _ hHeld.2 (by rw [hds.out]; kernel_rfl) (by rw [hds.out, hd0.out]) hda.out ?_))
  exact bodyPost_ret (res_dg rfl rfl (g := w.heap.size) hHeld.2.row) rfl ⟨rfl, IsR.row2 f0 (by omega) hB _, ⟨hHeld.1.os, hHeld.1.tape, hHeld.1.output, by simpa using hHeld.1.size, fun i hi hn => (setRow_other _ _ i _ (by omega)).trans (hHeld.1.block i hi hn)⟩⟩
theorem built_ptM (f x y : Int) : ∀ d : Dg, Tryz.prog.built 28 [(0, .int .i64 f), (1, .int .i64 x), (2, .int .i64 y), (3, .agg (dga d))] = some (pta (f, x, y, d)) := by
  refine dg_cases ?_
  intros
  kernel_rfl
theorem wpl_buildPM {w : World} {ops : Array Oper} {rest : List Oper} {o : Oper} {a : Act} {Q : Exit → Act → World → Prop} (hgd : o.guard = none) (x0 x1 x2 x3 : Operand) (ho : o.op = .build 28 #[(0, x0), (1, x1), (2, x2), (3, x3)])
    {f x y : Int} {d : Dg} (h0 : a.eval x0 = .int .i64 f) (h1 : a.eval x1 = .int .i64 x) (h2 : a.eval x2 = .int .i64 y) (h3 : a.eval x3 = .agg (dga d))
    (h : wpList Tryz.prog ops Q rest (a.put o.dst (.agg (pta (f, x, y, d)))) w) : wpList Tryz.prog ops Q (o :: rest) a w := by
  have hl : ((#[(0, x0), (1, x1), (2, x2), (3, x3)] : Array (Nat × Operand)).map fun (i, x) => (i, a.eval x)).toList = [(0, .int .i64 f), (1, .int .i64 x), (2, .int .i64 y), (3, .agg (dga d))] := by
    simp [h0, h1, h2, h3]
  refine wpList_build hgd 28 _ ho ?_ ?_
  · rw [hl, built_ptM]; rfl
  · rw [hl, built_ptM]; exact h
theorem MDig_eq {w : World} {g B : Nat} {s s' : List UInt8 × Nat} {d : Dg} (he : rDg s = (d, s')) (hR : IsR w g B s) (hB : B ≤ w.heap.size) (hl : s.1.length ≤ 1000000000) : Calls Tryz.prog 56 #[.pointer (some ⟨g, 0, none⟩)] w fun e w' => e = .returned (.agg (dga d)) ∧ IsR w' g B s' ∧ Wr w w' g := by
  have h := MDig_any hR hB hl
  rw [he] at h
  exact h
theorem Within_eq {g B n most : Nat} {s s' : List UInt8 × Nat} {w : World} (he : rWithin most s = (n, s')) (hR : IsR w g B s) :
    Calls Tryz.prog 55 #[.pointer (some ⟨g, 0, none⟩), .int .u64 most] w fun e w' => e = .returned (.int .i64 (n : Nat)) ∧ IsR w' g B s' ∧ Wr w w' g := by
  have h := Within_any most hR
  rw [he] at h
  exact h
set_option maxRecDepth 100000 in
set_option maxHeartbeats 1000000 in
theorem MPart_any {w : World} {g B : Nat} {s : List UInt8 × Nat} (f : Int) (hR : IsR w g B s) (hB : B ≤ w.heap.size) (hl : s.1.length ≤ 1000000000) : Calls Tryz.prog 59 #[.pointer (some ⟨g, 0, none⟩), .int .i64 f] w fun e w' => e = .returned (.agg (pta (rPart f s).1)) ∧ IsR w' g B (rPart f s).2 ∧ Wr w w' g := by
  have hg := hR.lt
  obtain ⟨y1, s6, h6⟩ : ∃ n s', rWithin 64 s = (n, s') := ⟨_, _, rfl⟩
  obtain ⟨y2, s7, h7⟩ : ∃ n s', rWithin 65536 s6 = (n, s') := ⟨_, _, rfl⟩
  obtain ⟨d, s8, h8⟩ : ∃ n s', rDg s7 = (n, s') := ⟨_, _, rfl⟩
  have hrp : rPart f s = ((f, (y1 : Int), (y2 : Int), d), s8) := by
    unfold rPart
    simp only [h6, h7, h8]
  have hl7 : s7.1.length ≤ 1000000000 := by
    have l1 := rWithin_len 64 s
    have l2 := rWithin_len 65536 s6
    rw [h6] at l1
    rw [h7] at l2
    dsimp only at l1 l2
    omega
  rw [hrp]
  have H6 := Lib.hid h6
  have H7 := Lib.hid h7
  have H8 := Lib.hid h8
  clear h6 h7 h8 hrp
  have hst0 : Wr w (w.alloc (.cells (pta (0, 0, 0, dg0)) 28)) g ∧ Blk (w.alloc (.cells (pta (0, 0, 0, dg0)) 28)) w.heap.size 28 (pta (0, 0, 0, dg0)) := ⟨(Wr.refl _ _).alloc _, Blk.new w _ _⟩
  have hR0 := hR.alloc (.cells (pta (0, 0, 0, dg0)) 28)
  have hz0 : (w.alloc (.cells (pta (0, 0, 0, dg0)) 28)).heap.size = w.heap.size + 1 := by simp
  go_enter Tryz.func59, Tryz.ntmps59
  go_upto_region 1 with (fail)
  refine gen1 (T := fun W => ((Wr w W g ∧ Blk W w.heap.size 28 (pta (0, 0, 0, dg0)))) ∧ IsR W g B s) ⟨hst0, hR0⟩ (fun w0 hT => ?_)
  clear hst0 hR0 hR
  obtain ⟨⟨hw, hP⟩, hR⟩ := hT
  go_wp2_with fail
  refine (Within_eq H6.out hR).mono ?_
  rintro e w1 ⟨rfl, hR1, hr1⟩
  replace hw := hw.trans hr1
  replace hP := hP.wr hr1 (by omega)
  clear hR hr1
  go_wp2_with fail
  refine (Within_eq H7.out hR1).mono ?_
  rintro e w2 ⟨rfl, hR2, hr2⟩
  replace hw := hw.trans hr2
  replace hP := hP.wr hr2 (by omega)
  clear hR1 hr2
  go_wp2_with fail
  refine (MDig_eq H8.out hR2 (Nat.le_trans hB hw.size) hl7).mono ?_
  rintro e w3 ⟨rfl, hR3, hr3⟩
  replace hw := hw.trans hr3
  replace hP := hP.wr hr3 (by omega)
  clear hR2 hr3
  have hps := Lib.hid (pta_size (f, (y1 : Int), (y2 : Int), d))
  have hp0 := Lib.hid (pta_size (0, 0, 0, dg0))
  have hpa := Lib.hid (pta_all (f, (y1 : Int), (y2 : Int), d))
  go_wp2_with (first | (refine wpl_buildPM rfl _ _ _ _ rfl (f := f) (x := y1) (y := y2) (d := d) rfl rfl rfl rfl ?_) | (refine wpList_store_row rfl 28 _ _ rfl w.heap.size (pta (f, (y1 : Int), (y2 : Int), d)) rfl rfl 28 _ hP (by rw [hps.out]; kernel_rfl) (by rw [hps.out, hp0.out]) hpa.out ?_))
  exact bodyPost_ret (res_pt rfl rfl (g := w.heap.size) hP.row) rfl ⟨rfl, IsR.row2 hR3 (by omega) hB _, ⟨hw.os, hw.tape, hw.output, by simpa using hw.size, fun i hi hn => (setRow_other _ _ i _ (by omega)).trans (hw.block i hi hn)⟩⟩
end Go.Proofs.YtabnndjdkjkciaaGreatDoor

namespace Go.Proofs.YtabnndjdkjkciaaGreatDoor
open Go.RowKit Go.Shelf
attribute [local go_sem ↓] Go.wp_at_zero Go.wp_at_succ
attribute [local go_sem] Oper.semAt_some

theorem Shg.row {w : World} (h : Shg w) : ∀ j u, (s8a shaH)[j]? = some u → w.cell? ((⟨0, 0, none⟩ : Addr).add j) = some u := fun j u hj => by
  have hj8 : j < 8 := by
    have := (Array.getElem?_eq_some_iff.1 hj).1
    rw [s8a_size] at this
    exact this
  rw [addr_lit, Nat.zero_add, h.f j hj8, ← hj, s8a_at _ hj8]
section
variable {F : Fence} {n : Nat} {P : Program} {ops : Array Oper} {rest : List Oper} {o : Oper} {a : Act} {w : World} {Q : Exit → Act → World → Prop}
theorem wplIn_loadG (hgd : o.guard = none) (ty : TypeId) (x : Operand) (ho : o.op = .load ty x)
    (ad : Addr) (cs : Array Value) (hx : a.eval x = .pointer (some ad)) (hc : ∀ j u, cs[j]? = some u → w.cell? (ad.add j) = some u) (d : TypeDesc) (hu : P.underlying ty = some d) (hd : (match d with | .struct _ | .array _ _ => true | _ => false) = true) (hi : (P.info? ty).map (·.size) = some cs.size)
    (h : wpListIn F n P ops Q rest (a.put o.dst (.agg cs)) w) : wpListIn F n P ops Q (o :: rest) a w :=
  wpListIn_plain hgd fun K hK => by
    unfold Oper.wpIn
    refine ⟨by simp [Oper.about, ho], ?_⟩
    rw [Oper.semAt_plain F _ _ (by rw [ho]; intro c hc'; cases hc')]
    unfold execOp
    simp only [ho, hx, Instr.loadAt, Instr.sureAddr, Sem.run_bind, Sem.run_pure, Result.andThen_ok, run_loadVar_at w ad ty cs hc d hu hd hi]
    exact hK _ _ h
theorem wplIn_storeRow (hgd : o.guard = none) (ty : TypeId) (x y : Operand) (ho : o.op = .store ty x y)
    (g : Nat) (cells : Array Value) (hx : a.eval x = .pointer (some ⟨g, 0, none⟩)) (hy : a.eval y = .agg cells)
    (t : TypeId) (old : Array Value) (hg : Blk w g t old) (hi : (P.info? ty).map (·.size) = some cells.size) (hold : old.size = cells.size) (h1 : cells.all (·.oneCell') = true)
    (h : wpListIn F n P ops Q rest (a.put o.dst undef) (w.setRow g cells)) : wpListIn F n P ops Q (o :: rest) a w :=
  wpListIn_plain hgd fun K hK => by
    have hs : (splice old.toList 0 cells.toList).toArray = cells := by
      unfold splice
      rw [List.take_zero, List.drop_eq_nil_of_le (by simp; omega)]
      simp
    have hr := run_storeVar_at (P := P) w g 0 t ty old cells hg hi (by omega) h1
    rw [hs] at hr
    unfold Oper.wpIn
    refine ⟨by simp [Oper.about, ho], ?_⟩
    rw [Oper.semAt_plain F _ _ (by rw [ho]; intro c hc'; cases hc')]
    unfold execOp
    simp only [ho, hx, hy, Instr.storeAt, Instr.sureAddr, Sem.run_bind, Sem.run_pure, Result.andThen_ok, hr]
    exact hK _ _ h
end
/-- a text's block by its number -/
def blkN (m : List UInt8) (k : Nat) : List UInt8 := (m.drop (64 * k)).take 64
def foldB (m : List UInt8) (K : Nat) (pre : List Nat) : S8 := pre.foldl (fun s x => stp s (blkN m (min x (K - 1)))) shaH
theorem foldB_snoc (m : List UInt8) (K : Nat) (pre : List Nat) (x : Nat) : foldB m K (pre ++ [x]) = stp (foldB m K pre) (blkN m (min x (K - 1))) := by simp [foldB]
theorem foldB_all (m : List UInt8) (K : Nat) : ∀ n, n ≤ K → foldB m K (List.range n) = blks m shaH n
  | 0, _ => rfl
  | n + 1, h => by
    rw [List.range_succ, foldB_snoc, foldB_all m K n (by omega), show min n (K - 1) = n from by omega]
    rfl
theorem SlB.part {W : World} {b o c k n : Nat} {m : List UInt8} (h : SlB W (some ⟨b, o, none⟩) c m) (hk : k + n ≤ m.length) : SlB W (some ⟨b, o + k, none⟩) n ((m.drop k).take n) := by
  have hl : ((m.drop k).take n).length = n := by simp; omega
  refine ⟨by simp, by omega, by have h1 := h.2.1; have h2 := h.2.2.1; omega, (fun h => by cases h), fun j u hj => ⟨_, rfl, ?_⟩⟩
  have hj2 : j < n := by
    have h9 := (List.getElem?_eq_some_iff.1 hj).1
    rw [List.length_map, hl] at h9
    exact h9
  have he : (bvs m)[k + j]? = some u := by
    rw [← hj, List.getElem?_map, List.getElem?_map, List.getElem?_take, if_pos hj2, List.getElem?_drop]
  obtain ⟨ad, hA, hc⟩ := h.2.2.2.2 (k + j) u he
  injection hA with hA
  subst hA
  rw [addr_lit] at hc ⊢
  rw [Nat.add_assoc]
  exact hc
theorem Kg.of_below {n g : Nat} {A B : World} (h : Below A.heap.size A B) (hn : n ≤ A.heap.size) : Kg n g A B := ⟨h.size, fun k h1 _ => h.block k (by omega)⟩
theorem Kg.row (n g : Nat) (A : World) (cs : Array Value) : Kg n g A (A.setRow g cs) := ⟨by simp, fun k _ h2 => setRow_other A g k cs h2⟩
theorem SlB.offR {W : World} {b o c g : Nat} {m : List UInt8} (h : SlB W (some ⟨b, o, none⟩) c m) (hne : b ≠ g) (cs : Array Value) : SlB (W.setRow g cs) (some ⟨b, o, none⟩) c m :=
  ⟨h.1, h.2.1, h.2.2.1, h.2.2.2.1, fun j u hj => by
    obtain ⟨ad, hA, hc⟩ := h.2.2.2.2 j u hj
    injection hA with hA
    subst hA
    refine ⟨_, rfl, ?_⟩
    rw [← hc]
    exact World.cell?_of_block (setRow_other W g _ cs (by rw [addr_add_block]; exact hne))⟩
theorem KeepsOthers.stepRow {W W5 : World} {g : Nat} {t : TypeId} {cs : Array Value} (hB : Blk W g t cs) (hb : Below W.heap.size W W5) (c2 : Array Value) : KeepsOthers W (W5.setRow g c2) :=
  ⟨by have := hb.size; simpa using this, fun k o hk ho => by
    have hlt := (Array.getElem?_eq_some_iff.1 hk).1
    rw [setRow_other W5 g k c2 (fun e => by subst e; rw [show W.heap[k]? = _ from hB] at hk; injection hk with hk; subst hk; cases ho), hb.block k hlt]
    exact hk⟩
/-- a digest's cells while it is laid -/
def dgp (l : List UInt8) (k : Nat) : List Value := bvs (l.take k ++ List.replicate (32 - k) 0)
theorem dgp_zero (l : List UInt8) : (dgp l 0).toArray = dga dg0 := by unfold dgp dga dg0; simp
theorem dgp_full (l : List UInt8) (h : l.length = 32) : (dgp l 32).toArray = dga ⟨l, h⟩ := by
  unfold dgp dga
  rw [List.take_of_length_le (by omega)]
  simp
theorem dgp_len (l : List UInt8) {k : Nat} (h : l.length = 32) (hk : k ≤ 32) : (dgp l k).length = 32 := by unfold dgp; simp; omega
theorem dgp_step (l : List UInt8) {k : Nat} (h : l.length = 32) (hk : k + 4 ≤ 32) : splice (dgp l k) k (bvs ((l.drop k).take 4)) = dgp l (k + 4) := by
  unfold splice dgp
  rw [← List.map_take, ← List.map_drop, ← List.map_append, ← List.map_append]
  congr 1
  have h1 : (l.take k).length = k := by simp; omega
  have h2 : ((l.drop k).take 4).length = 4 := by simp; omega
  have e1 : (l.take k ++ List.replicate (32 - k) (0 : UInt8)).take k = l.take k := List.take_left' h1
  have e2 : (l.take k ++ List.replicate (32 - k) (0 : UInt8)).drop (k + 4) = List.replicate (32 - (k + 4)) 0 := by
    rw [show 32 - k = 4 + (32 - (k + 4)) from by omega, ← List.replicate_append_replicate, ← List.append_assoc]
    exact List.drop_left' (by simp; omega)
  rw [List.length_map, h2, e1, e2, List.take_add]
  simp
theorem four_part (s : S8) {i : Nat} (h : i < 8) : ((s.l.flatMap four).drop (4 * i)).take 4 = four (s.l.getD i 0) := by
  rcases s8_lt h with rfl | rfl | rfl | rfl | rfl | rfl | rfl | rfl <;> rfl
theorem four_wn (x : W32) : ∃ b0 b1 b2 b3 : UInt8, four x = [b0, b1, b2, b3] ∧ IntKind.u8.wrap (wn x / 16777216) = (b0.toNat : Int) ∧ IntKind.u8.wrap (wn x / 65536) = (b1.toNat : Int) ∧ IntKind.u8.wrap (wn x / 256) = (b2.toNat : Int) ∧ IntKind.u8.wrap (wn x) = (b3.toNat : Int) := by
  refine ⟨_, _, _, _, rfl, ?_, ?_, ?_, ?_⟩
  all_goals
    rw [ofNat_byte]
    have := x.isLt
    show _ % 256 = _
    unfold wn
    omega
/-- while a loop over parts goes on: the state, what is read, what lies below -/
structure OfI (w : World) (g b o c K N : Nat) (m : List UInt8) (pre : List Nat) (W : World) : Prop where
  blk : Blk W g 222 (s8a (foldB m K pre))
  sl : SlB W (some ⟨b, o, none⟩) c m
  res : Blk W w.heap.size 26 (dga dg0)
  bel : Below w.heap.size w W
  big : N ≤ W.heap.size
theorem SlB.grownC {W W' : World} {row : Option Nat} {A : Option Addr} {c : Nat} {m : List UInt8} (h : SlB W A c m) (hg : W.grownBy W' row) (hr : ∀ r, row = some r → ∃ o : Obj, W.heap[r]? = some o ∧ o.isCells = false) : SlB W' A c m :=
  ⟨h.1, h.2.1, h.2.2.1, h.2.2.2.1, fun j u hj => by
    obtain ⟨ad, hA, hc⟩ := h.2.2.2.2 j u hj
    exact ⟨ad, hA, cell_kept hc hg hr⟩⟩
theorem OfI.from {w : World} {g b o c K N : Nat} {m : List UInt8} {B : Nat} (hB : w.heap.size ≤ B) : OwnFrom B (OfI w g b o c K N m) := by
  intro s W W' row hs hg hr
  exact ⟨(grownBy_keeps_cells hg (fun r e => (hr r e).2) hs.blk rfl).trans hs.blk, hs.sl.grownC hg (fun r e => (hr r e).2), (grownBy_keeps_cells hg (fun r e => (hr r e).2) hs.res rfl).trans hs.res,
    hs.bel.grown hg hs.bel.size (fun k e => Nat.le_trans hB (hr k e).1), Nat.le_trans hs.big hg.size⟩
set_option maxRecDepth 100000 in
set_option maxHeartbeats 2000000 in
theorem Of_any {A : Option Addr} {c gp : Nat} (t : List UInt8) (w : World) (hG : Shg w) (h : SlB w A c t) (hl : t.length ≤ 1000000) (hp : w.cell? ⟨gp, 0, none⟩ = some (.slice A t.length c)) :
    Calls Tryz.prog 62 #[.slice (some ⟨gp, 0, none⟩) 1 1] w fun e w' => e = .returned (.agg (dga (shaD t))) ∧ Below w.heap.size w w' := by
  have hM := (Mm.start w).alloc (dga dg0) 26
  have hsz0 : (w.alloc (.cells (dga dg0) 26)).heap.size = w.heap.size + 1 := by simp
  have hs8 := Lib.hid (s8a_size shaH)
  have hsa := Lib.hid (s8a_all shaH)
  refine (callsIn_wide (n := 8)).1 ?_
  refine callsIn_of_wp_marks Tryz.func62 rfl trivial ?_ rfl
  simp only [Tryz.ntmps62, List.size_toArray, List.length_cons, List.length_nil, Nat.reduceAdd, Nat.reduceSub, Array.replicate_succ, Array.replicate_zero, List.push_toArray, List.append_toArray, List.nil_append, List.cons_append]
  refine wpIn_wide.2 ?_
  go_upto_region 1 with (fail)
  refine gen1 (T := fun W => Mm w W [(w.heap.size, 26, dga dg0)] []) hM (fun w0 hM => ?_)
  have hM1 := hM.alloc (s8a shaH) 222
  have hlo := hM.bel.size
  have hz1 := hM.b0.lt
  have hrow := (hG.below hM.bel).row
  go_upto_region 2 with (first | (refine wpl_loadG rfl 222 _ rfl ⟨0, 0, none⟩ (s8a shaH) rfl hrow _ Tryz.underlying222 rfl (by rw [hs8.out]; kernel_rfl) ?_) | (refine wpl_storeN rfl 222 _ _ rfl _ (s8a shaH) 222 rfl rfl (by rw [hs8.out]; kernel_rfl) (by rw [hs8.out]; rfl) hsa.out ?_))
  generalize hWe : w0.alloc (.cells (s8a shaH) 222) = w1 at *
  clear hWe hrow
  obtain ⟨g, hg⟩ : ∃ g, w0.heap.size = g := ⟨_, rfl⟩
  rw [hg] at hM1 hz1 hlo ⊢
  clear hM hg
  have hgl := hM1.b0.lt
  go_upto_region 4 with (fail)
  go_wp2_with fail
  go_loopw [15, 4, 5] (fun x y z wr => ∃ (i : Nat) (E : Option Addr) (d : Nat) (r : List UInt8), i ≤ 1 ∧ x = .int .i64 i ∧ y = .slice E r.length d ∧ z = .int .i64 r.length ∧ Hid (r = if i = 0 then [] else t) ∧ OwnB wr (g + 1) 5 E d r ∧ Mm w wr [(g, 222, s8a shaH), (w.heap.size, 26, dga dg0)] []) (fun x _ _ wr => 1 - (intOf x).toNat)
  case atStart => exact ⟨0, none, 0, [], by omega, rfl, rfl, rfl, Lib.hid rfl, Own.none_ _ _ _ _, hM1⟩
  case round =>
    clear hM1 hgl
    obtain ⟨i, E, d, r, hi, rfl, rfl, rfl, hr, ho, hM⟩ := hrel
    rcases Nat.lt_or_ge i 1 with hlt | hge
    · obtain rfl : i = 0 := by omega
      have hr0 : r = [] := by rw [hr.out]; rfl
      subst hr0
      clear hr
      have hpc := (hM.bel.cell (p := ⟨gp, 0, none⟩) (World.block_lt_of_cell? _ _ hp)).trans hp
      have hw1 : IntKind.i64.wrap (0 + (t.length : Int)) = (t.length : Int) := by rw [IntKind.wrap_i64]; omega
      have hgl := hM.b0.lt
      have hln : ([] : List UInt8).length + t.length ≤ 140737488355328 := by simp; omega
      rw [show ((0 : Nat) : Int) = 0 from rfl]
      go_wp2_with (at_builtin; go_must (refine wpl_bytes 29 5 Tryz.underlying29 u8_info rfl _ _ rfl (g + 1) E d [] rfl ho A c t rfl (Sl.below h hM.bel) hln hgl ?_; intro E2 d2 r2 w2 hr2 ho2 _ _ hb2))
      refine ⟨⟨1, E2, d2, r2, by omega, rfl, rfl, by rw [hr2.out]; rfl, (show _ = _ from by rw [hr2.out]; rfl), ho2, hM.above hb2 (by simp; omega) (by omega)⟩, by simp [intOf]⟩
    · obtain rfl : i = 1 := by omega
      have hr1 : r = t := hr.out
      subst hr1
      clear hr
      rw [show ((1 : Nat) : Int) = 1 from rfl]
      have hgl := hM.b0.lt
      have hP := Lib.hid (Pad_any r.length (by omega) wr)
      go_wp2_with fail
      refine hP.out.mono ?_
      clear hP
      rintro e w2 ⟨A2, c2, m2, rfl, hm2, ho2, hb2⟩
      have hM2 := hM.call hb2
      have hor := Own.below ho hb2
      have hgl2 : g + 1 ≤ w2.heap.size := hM2.b0.lt
      have hm2l : m2.length = 9 + padZ r.length := by rw [hm2.out, padT_len]
      have hpz : padZ r.length < 64 := by unfold padZ; omega
      have hln : r.length + m2.length ≤ 140737488355328 := by omega
      have HM2 := Lib.hid hM2
      clear hM hM2 ho hb2 hgl hm2l hpz
      go_wp2_with (at_builtin; go_must (refine wpl_bytes 29 5 Tryz.underlying29 u8_info rfl _ _ rfl (g + 1) E d r rfl hor A2 c2 m2 rfl (Own.sl ho2) hln hgl2 ?_; intro A3 c3 m3 w3 hm3 ho3 _ _ hb3))
      have hM3 := HM2.out.above hb3 (by simp; omega) (by omega)
      have hm3e : Hid (m3 = shaM r) := (show _ = _ from by rw [hm3.out, hm2.out]; rfl)
      clear hm3 hm2 hor ho2 hb3 hgl2 hln HM2
      obtain ⟨K, hK⟩ : ∃ K, m3.length = 64 * K := ⟨m3.length / 64, by
        have h1 := pad_mod r.length
        have h2 : m3.length = r.length + (padT r.length).length := by rw [hm3e.out]; simp [shaM]
        omega⟩
      have hK1 : K ≤ 100000000 ∧ 1 ≤ K := by
        have h2 : m3.length = r.length + (padT r.length).length := by rw [hm3e.out]; simp [shaM]
        rw [padT_len] at h2
        have : padZ r.length < 64 := by unfold padZ; omega
        omega
      have hs3 : SlB w3 A3 c3 m3 := Own.sl ho3
      obtain ⟨b, o, rfl, -⟩ := SlB.at4 (k := 0) hs3 (by omega)
      have hb9 := ho3.lt b rfl
      have hc9 := hs3.2.1
      rw [hK] at hc9 ⊢
      have HC := Lib.hid (Chunk_any (some ⟨b, o, none⟩) (64 * K) c3 w3)
      refine HC.out.mono ?_
      rintro e w4 ⟨rfl, rfl⟩
      clear HC
      have hM4 := (hM3.allocO (.cells #[.slice (some ⟨b, o, none⟩) (64 * K) c3] 29)).allocO (.cells #[.int .i64 64] 3)
      have hs4 : SlB ((w3.alloc (.cells #[.slice (some ⟨b, o, none⟩) (64 * K) c3] 29)).alloc (.cells #[.int .i64 64] 3)) (some ⟨b, o, none⟩) c3 m3 := Sl.below hs3 (bel_alloc (below_new _ _) _)
      have hx1 := ((Blk.new w3 29 #[.slice (some ⟨b, o, none⟩) (64 * K) c3]).alloc (.cells #[.int .i64 64] 3)).cell 0
      have hx2 := (Blk.newAt (w := w3.alloc (.cells #[.slice (some ⟨b, o, none⟩) (64 * K) c3] 29)) (g := w3.heap.size + 1) (by simp) 3 #[.int .i64 64]).cell 0
      have hz4 : ((w3.alloc (.cells #[.slice (some ⟨b, o, none⟩) (64 * K) c3] 29)).alloc (.cells #[.int .i64 64] 3)).heap.size = w3.heap.size + 2 := by simp
      have hg3 := hM3.b0.lt
      have hbl : ((w3.alloc (.cells #[.slice (some ⟨b, o, none⟩) (64 * K) c3] 29)).alloc (.cells #[.int .i64 64] 3)).heap.size = w3.heap.size + 2 := by simp
      generalize (w3.alloc (.cells #[.slice (some ⟨b, o, none⟩) (64 * K) c3] 29)).alloc (.cells #[.int .i64 64] 3) = w4 at *
      obtain ⟨gb, hgb⟩ : ∃ gb, w3.heap.size = gb := ⟨_, rfl⟩
      rw [hgb] at hz4 hx1 hx2 hg3 hb9 ⊢
      clear hM3 hs3 ho3
      have h00 : OfI w g b o c3 K (gb + 2) m3 [] w4 := ⟨hM4.b0, hs4, hM4.b1, hM4.bel, by omega⟩
      have hs8s := fun s => Lib.hid (s8a_size s)
      have hsas := fun s => Lib.hid (s8a_all s)
      go_wp2_with fail
      refine (wpIn_wide (n := 8)).1 ?_
      refine wpIn_rangeFunc_ownF (F := Fence.wide) (n := 8) rfl (by omega) (gf := 178) (lb := #[.pointer (some ⟨gb, 0, none⟩), .pointer (some ⟨gb + 1, 0, none⟩)]) rfl trivial (enters_of Tryz.func178 (by kernel_rfl) rfl)
        (Chunk_stops (8 - 1) (by omega) gb (gb + 2) g b o K c3 hK1.1 hc9 (by omega) (by omega) w4 (by omega) hx1 hx2) (fun h k => h.trans k) (Kg.put (by omega)) (Below.refl _ _) (fun _ => rfl)
        (OfI w g b o c3 K (gb + 2) m3) (fun _ _ _ => False) (OfI.from (by omega)) (fun _ _ _ _ _ hs _ _ => hs) h00 ?a1 ?assign ?body ?done ?stop
      case assign =>
        intro l x W K hK
        gi_wp2
        exact hK
      case body =>
        intro l pre x W hI hlen
        obtain ⟨y, hy⟩ : ∃ y, min x (K - 1) = y := ⟨_, rfl⟩
        have hyK : y < K := by omega
        have hps : SlB W (some ⟨b, o + 64 * y, none⟩) 64 (blkN m3 y) := SlB.part hI.sl (by omega)
        have hpl : (blkN m3 y).length = 64 := by unfold blkN; simp; omega
        have hfs := Lib.hid (foldB_snoc m3 K pre x)
        rw [hy] at hfs ⊢
        have hB := hI.blk
        have hSt := Step_any (foldB m3 K pre) (blkN m3 y) W hps hpl (hG.below hI.bel)
        rw [hpl] at hSt
        generalize blkN m3 y = bk at *
        generalize foldB m3 K pre = s at *
        have HSt := Lib.hid hSt
        have HI := Lib.hid hI
        have hn1 : 1 ≤ 8 - 1 - 1 := by decide
        clear hSt hI hps hpl
        unfold chkS
        gi_wp2_with (first | (refine wplIn_loadG rfl 222 _ rfl ⟨g, 0, none⟩ (s8a s) rfl hB.cells _ Tryz.underlying222 rfl (by rw [(hs8s s).out]; kernel_rfl) ?_) | (refine ⟨trivial, ?_⟩; gi_at_call 133; refine (CallsIn.inRound l (callsIn_wide.2 HSt.out)).mono ?_; rintro e W5 ⟨rfl, hb5⟩; have hB5 := hB.below hb5) | (refine wplIn_storeRow rfl 222 _ _ rfl g (s8a (stp s bk)) rfl rfl 222 (s8a s) hB5 (by rw [(hs8s _).out]; kernel_rfl) (by rw [(hs8s _).out, (hs8s _).out]) (hsas _).out ?_))
        exact ⟨KeepsOthers.stepRow hB hb5 _, (Kg.of_below hb5 (by have := HI.out.big; omega)).trans (Kg.row _ _ _ _),
          ⟨by rw [hfs.out]; exact hB5.row, SlB.offR (Sl.below HI.out.sl hb5) (by omega) _, (HI.out.res.below hb5).rowFar (by omega) _, below_setRow (HI.out.bel.trans (hb5.mono HI.out.bel.size)) (by omega) _, by have h1 := HI.out.big; have h2 := hb5.size; simp; omega⟩⟩
      case done =>
        intro D xs W hD hxs hI hKD
        have hfa : Hid (foldB m3 K xs = shaS r) := (show _ = _ from by
          rw [hxs, foldB_all m3 K K (Nat.le_refl _)]
          unfold shaS
          rw [← hm3e.out, hK, Nat.mul_div_cancel_left _ (by omega)])
        have hB := hI.blk
        have hRes := hI.res
        have hbel := hI.bel
        have hgW := hI.blk.lt
        clear hI hxs
        generalize foldB m3 K xs = s at *
        dsimp only
        have hBd := Blk.new W 26 (dga dg0)
        have hD1 := (Array.getElem?_eq_some_iff.1 hKD).1
        have hBa := hB.alloc (.cells (dga dg0) 26)
        have hRa := hRes.alloc (.cells (dga dg0) 26)
        have hKa : (W.alloc (.cells (dga dg0) 26)).heap[D]? = some (.deferred (some [])) := (Below.heap_alloc _ _ _ hD1).trans hKD
        have hba := bel_alloc hbel (.cells (dga dg0) 26)
        go_upto_region 14 with (fail)
        refine gen1 (T := fun W2 => (Blk W2 g 222 (s8a s) ∧ Blk W2 w.heap.size 26 (dga dg0) ∧ Blk W2 W.heap.size 26 (dga dg0)) ∧ W2.heap[D]? = some (.deferred (some [])) ∧ Below w.heap.size w W2) ⟨⟨hBa, hRa, hBd⟩, hKa, hba⟩ (fun W2 hT => ?_)
        obtain ⟨⟨hB, hRes, hBd⟩, hKD, hbel⟩ := hT
        clear hBa hRa hKa hba
        generalize hgd : W.heap.size = gd at *
        have hfl : (s.l.flatMap four).length = 32 := s.dg.2
        have hsd : Hid (shaD r = s.dg) := (show _ = _ from by unfold shaD; rw [← hfa.out])
        clear hgd hfa
        rw [← dgp_zero (s.l.flatMap four)] at hBd
        go_wp2_with (refine wpl_loadG rfl 222 _ rfl ⟨g, 0, none⟩ (s8a s) rfl hB.cells _ Tryz.underlying222 rfl (by rw [(hs8s s).out]; kernel_rfl) ?_)
        go_loopw [37] (fun x wr => ∃ i : Nat, i ≤ 8 ∧ x = .int .i64 i ∧ Blk wr gd 26 (dgp (s.l.flatMap four) (4 * i)).toArray ∧ Blk wr w.heap.size 26 (dga dg0) ∧ wr.heap[D]? = some (.deferred (some [])) ∧ Below w.heap.size w wr) (fun x _ => 8 - (intOf x).toNat)
        case atStart => exact ⟨0, by omega, rfl, hBd, hRes, hKD, hbel⟩
        case round =>
          clear hB hRes hBd hKD hbel
          obtain ⟨i, hi, rfl, hBd, hRes, hKD, hbel⟩ := hrel
          by_cases hlt : i < 8
          · have hiI : (i : Int) < 8 := by omega
            have hix : ∀ V : World, (Instr.index 222 (.agg (s8a s)) (.int .i64 i)).run Tryz.prog V = .ok (wv (s.l.getD i 0)) V := fun V => ix_word 222 221 Tryz.underlying222 Tryz.underlying221 (by kernel_rfl) _ _ (s8a_at s hlt) hlt V
            have hfp := four_part s hlt
            generalize s.l.getD i 0 = x at *
            obtain ⟨b0, b1, b2, b3, hf4, q0, q1, q2, q3⟩ := four_wn x
            rw [hf4] at hfp
            have HFP := Lib.hid hfp
            have hw4 : IntKind.i64.wrap (4 * (i : Int)) = ((4 * i : Nat) : Int) := by rw [IntKind.wrap_i64]; omega
            have hb1 : 4 * (i : Int) ≤ 32 := by omega
            have hb2 : 0 ≤ 4 * (i : Int) := by omega
            clear hf4 hfp
            have hu8 : (Tryz.prog.info? 5).map (·.size) = some 1 := by kernel_rfl
            have hBd2 := hBd.alloc (.cells #[bv b0, bv b1, bv b2, bv b3] 5)
            have hKl := (Array.getElem?_eq_some_iff.1 hKD).1
            have hgl := hBd.lt
            have hK2 : (wr.alloc (.cells #[bv b0, bv b1, bv b2, bv b3] 5)).heap[D]? = some (.deferred (some [])) := (Below.heap_alloc _ _ _ hKl).trans hKD
            have hbe2 := bel_alloc hbel (.cells #[bv b0, bv b1, bv b2, bv b3] 5)
            have hre2 := hRes.alloc (.cells #[bv b0, bv b1, bv b2, bv b3] 5)
            have hsrc : ∀ j v, (bvs [b0, b1, b2, b3])[j]? = some v → (wr.alloc (.cells #[bv b0, bv b1, bv b2, bv b3] 5)).cell? ((⟨wr.heap.size, 0, none⟩ : Addr).add j) = some v := fun j v hj => (Blk.new wr 5 #[bv b0, bv b1, bv b2, bv b3]).cells j v (by rw [← hj, List.getElem?_toArray]; rfl)
            have hmn : Nat.min 4 (32 - 4 * i) = 4 := by show min 4 (32 - 4 * i) = 4; omega
            have hln := dgp_len (s.l.flatMap four) (k := 4 * i) hfl (by omega)
            have hds := dgp_step (s.l.flatMap four) (k := 4 * i) hfl (by omega)
            rw [HFP.out] at hds
            have HDS := Lib.hid hds
            clear hds hw4
            go_wp2_with (refine wpl_copyK rfl _ _ 29 29 rfl 5 1 Tryz.underlying29 hu8 gd (4 * i) (32 - 4 * i) (32 - 4 * i) ⟨wr.heap.size, 0, none⟩ 4 4 rfl rfl (dgp (s.l.flatMap four) (4 * i)) 26 hBd2 (bvs [b0, b1, b2, b3]) (by rw [hmn]; rfl) hsrc (by rw [hln]; simp; omega) (one_bvs _) gd _ (Below.refl _ _) (Nat.le_refl _) ?_; intro w6 hw6 hb6)
            have hw6b := hw6.out
            rw [HDS.out] at hw6b
            have HW6 := Lib.hid hw6b
            clear hw6b hw6
            have hD2 : D < gd := by omega
            have hK6 := (hb6.block D hD2).trans hK2
            have hR6 := (hb6.block w.heap.size (by omega)).trans hre2
            have hB6 := hbe2.trans (hb6.mono (show w.heap.size ≤ gd by omega))
            clear hK2 hre2 hbe2 hb6 hBd2 hsrc hKD hRes hbel
            go_roundw
            case rel => exact ⟨i + 1, hlt, by go_num, HW6.out, hR6, hK6, hB6⟩
            case measure => simp [intOf]; omega
          · obtain rfl : i = 8 := by omega
            rw [show ((8 : Nat) : Int) = 8 from rfl]
            rw [show 4 * 8 = 32 from rfl, dgp_full _ hfl] at hBd
            have hds := Lib.hid (dga_size s.dg)
            have hda := Lib.hid (dga_all s.dg)
            have hd0 := Lib.hid (dga_size dg0)
            change Blk wr gd 26 (dga s.dg) at hBd
            have hrl := hRes.lt
            have hKR := (setRow_other wr w.heap.size D (dga s.dg) (by omega)).trans hKD
            have hRR := hRes.row (cs := dga s.dg)
            have hbR := below_setRow hbel (Nat.le_refl _) (dga s.dg)
            go_wp2_with (first | (refine wpl_loadG rfl 26 _ rfl ⟨gd, 0, none⟩ (dga s.dg) rfl hBd.cells _ Tryz.underlying26 rfl (by rw [hds.out]; kernel_rfl) ?_) | (refine wpList_store_row rfl 26 _ _ rfl w.heap.size (dga s.dg) rfl rfl 26 (dga dg0) hRes (by rw [hds.out]; kernel_rfl) (by rw [hd0.out, hds.out]) hda.out ?_))
            refine ⟨by simp, .inl ⟨_, _, rfl, run_takeDeferred hKR, ?_⟩⟩
            have hRP : Blk ((wr.setRow w.heap.size (dga s.dg)).putObj D (.deferred none)) w.heap.size 26 (dga s.dg) := (World.putObj_heap_other (by omega)).trans hRR
            refine ⟨_, res_dg rfl rfl hRP, ?_, ?_⟩
            · rw [hsd.out]
            · exact hbR.trans ((Below.refl w.heap.size _).grown (grownBy_putObj' _ D _) (by have := hbR.size; omega) (fun k e => by cases e; omega))
      case stop =>
        intro D c pre W _ _ h _
        exact h.elim
theorem Shg.alloc {w : World} (h : Shg w) (o : Obj) : Shg (w.alloc o) := h.below (below_new w o)
set_option maxRecDepth 100000 in
set_option maxHeartbeats 1000000 in
theorem Sum_any {A : Option Addr} {c : Nat} (t : List UInt8) (w : World) (hG : Shg w) (h : SlB w A c t) (hl : t.length ≤ 1000000) :
    Calls Tryz.prog 22 #[.slice A t.length c] w fun e w' => e = .returned (.agg (dga (shaD t))) ∧ Below w.heap.size w w' := by
  have hM := ((Mm.start w).alloc (dga dg0) 26).alloc #[.slice A t.length c] 29
  rw [show (w.alloc (.cells (dga dg0) 26)).heap.size = w.heap.size + 1 from by simp] at hM
  have hG2 := (hG.alloc (.cells (dga dg0) 26)).alloc (.cells #[.slice A t.length c] 29)
  have hs2 : SlB ((w.alloc (.cells (dga dg0) 26)).alloc (.cells #[.slice A t.length c] 29)) A c t := Sl.below h hM.bel
  have HO := Lib.hid (Of_any t _ hG2 hs2 hl (hM.b0.cell 0))
  have hds := Lib.hid (dga_size (shaD t))
  have hda := Lib.hid (dga_all (shaD t))
  have hd0 := Lib.hid (dga_size dg0)
  generalize shaD t = d at *
  have HM := Lib.hid hM
  clear hM hG2 hs2
  go_enter Tryz.func22, Tryz.ntmps22
  go_wp2_with fail
  refine HO.out.mono ?_
  rintro e w1 ⟨rfl, hb1⟩
  have hM1 := HM.out.call hb1
  clear HO HM hb1
  go_wp2_with (refine wpList_store_row rfl 26 _ _ rfl w.heap.size (dga d) rfl rfl 26 (dga dg0) hM1.b1 (by rw [hds.out]; kernel_rfl) (by rw [hd0.out, hds.out]) hda.out ?_)
  exact bodyPost_ret (res_dg rfl rfl (g := w.heap.size) hM1.b1.row) rfl ⟨rfl, below_setRow hM1.bel (Nat.le_refl _) _⟩
end Go.Proofs.YtabnndjdkjkciaaGreatDoor
