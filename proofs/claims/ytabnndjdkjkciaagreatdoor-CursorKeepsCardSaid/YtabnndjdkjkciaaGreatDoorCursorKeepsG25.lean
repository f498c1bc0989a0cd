/- WHAT IT HOLDS: a manifest as the document's, walked. -/
import Derived.Test.YtabnndjdkjkciaaGreatDoorCursorKeepsG24
namespace Go.Proofs.YtabnndjdkjkciaaGreatDoor
open Go.RowKit
attribute [local go_sem ↓] Go.wp_at_zero Go.wp_at_succ

theorem mfa_set (n f t r : Int) (A A' : Option Addr) (k c k' c' : Nat) : ∀ d : Dg, (mfa n f t r d A k c).setIfInBounds 36 (.slice A' k' c') = mfa n f t r d A' k' c' := by
  refine dg_cases ?_
  intros
  rfl
theorem built_mR (n f t r : Int) : ∀ d : Dg, Tryz.prog.built 149 [(0, .int .i64 n), (1, .int .i64 f), (2, .int .i64 t), (3, .int .i64 r), (4, .agg (dga d))] = some (mfa n f t r d none 0 0) := by
  refine dg_cases ?_
  intros
  kernel_rfl
theorem wpl_buildMR {ops : Array Oper} {rest : List Oper} {o : Oper} {a : Act} {w : World} {Q : Exit → Act → World → Prop} (hgd : o.guard = none) (x0 x1 x2 x3 x5 : Operand) (ho : o.op = .build 149 #[(0, x0), (1, x1), (2, x2), (3, x3), (4, x5)])
    {n f t r : Int} {d : Dg} (h0 : a.eval x0 = .int .i64 n) (h1 : a.eval x1 = .int .i64 f) (h2 : a.eval x2 = .int .i64 t) (h3 : a.eval x3 = .int .i64 r) (h5 : a.eval x5 = .agg (dga d))
    (h : wpList Tryz.prog ops Q rest (a.put o.dst (.agg (mfa n f t r d none 0 0))) w) : wpList Tryz.prog ops Q (o :: rest) a w := by
  have hl : ((#[(0, x0), (1, x1), (2, x2), (3, x3), (4, x5)] : Array (Nat × Operand)).map fun (i, x) => (i, a.eval x)).toList = [(0, .int .i64 n), (1, .int .i64 f), (2, .int .i64 t), (3, .int .i64 r), (4, .agg (dga d))] := by
    simp [h0, h1, h2, h3, h5]
  refine wpList_build hgd 149 _ ho ?_ ?_
  · rw [hl, built_mR]; rfl
  · rw [hl, built_mR]; exact h
section
variable {w : World} {g : Nat} {T : TypeId} {n f t r : Int} {d : Dg} {A : Option Addr} {k c : Nat}
theorem Blm.five (h : Blk w g T (mfa n f t r d A k c)) : w.cell? ⟨g, 0, none⟩ = some (.int .i64 n) ∧ w.cell? ⟨g, 1, none⟩ = some (.int .i64 f) ∧ w.cell? ⟨g, 2, none⟩ = some (.int .i64 t) ∧ w.cell? ⟨g, 3, none⟩ = some (.int .i64 r) ∧ w.cell? ⟨g, 36, none⟩ = some (.slice A k c) := by
  refine ⟨(h.cell 0).trans rfl, (h.cell 1).trans rfl, (h.cell 2).trans rfl, (h.cell 3).trans rfl, (h.cell 36).trans ?_⟩
  have := d.2
  simp [mfa, mfl, this]
theorem Blm.dg (h : Blk w g T (mfa n f t r d A k c)) : ∀ j u, (dga d)[j]? = some u → w.cell? ((⟨g, 4, none⟩ : Addr).add j) = some u := fun j u hj => by
  rw [addr_lit, h.cell]
  replace hj : (bvs d.1)[j]? = some u := by simpa [dga] using hj
  have hj2 : j < (bvs d.1).length := (List.getElem?_eq_some_iff.1 hj).1
  rw [show 4 + j = j + 1 + 1 + 1 + 1 from by omega]
  simp only [mfa, mfl, List.getElem?_toArray, List.getElem?_cons_succ]
  rw [List.getElem?_append_left hj2]
  exact hj
theorem Blm.set (h : Blk w g T (mfa n f t r d A k c)) (A' : Option Addr) (k' c' : Nat) : Blk (w.setCell ⟨g, 36, none⟩ (.slice A' k' c')) g T (mfa n f t r d A' k' c') := by
  have := h.set_ 36 (.slice A' k' c')
  rw [mfa_set] at this
  exact this
end
theorem res_mR {fn : Func} {a : Nat} {tmps : Array Value} {w : World} {g : Nat} {n f t r : Int} {d : Dg} {A : Option Addr} {k c : Nat} (hres : fn.results = #[.cell a 149]) (ha : tmps.getD a undef = .pointer (some ⟨g, 0, none⟩)) (hB : Blk w g 149 (mfa n f t r d A k c)) : (results fn tmps).run Tryz.prog w = .ok (.agg (mfa n f t r d A k c)) w := by
  have h := run_loadVar_at (P := Tryz.prog) w ⟨g, 0, none⟩ 149 (mfa n f t r d A k c) hB.cells _ Tryz.underlying149 rfl (by rw [mfa_size]; kernel_rfl)
  have ha' : tmps[a]?.getD undef = .pointer (some ⟨g, 0, none⟩) := by simpa using ha
  simp [results, hres, asAddr, h, ha']
/-- a manifest as the document's -/
def GivesMR (w0 : World) (n f t r : Int) (d : Dg) (ps : List Pt5) (e : Ending) (w' : World) : Prop := ∃ A c m, e = .returned (.agg (mfa n f t r d A (List.length m) c)) ∧ Hid (m = ps) ∧ OwnPr w' w0.heap.size A c m ∧ Below w0.heap.size w0 w'
theorem take_snoc {l : List Pt5} {k : Nat} (hk : k < l.length) : l.take (k + 1) = l.take k ++ [l[k]] := List.take_succ_eq_append_getElem hk
set_option maxRecDepth 100000 in
set_option maxHeartbeats 4000000 in
theorem Doc15_any {E : Option Addr} {cap : Nat} (n f t r : Int) (d : Dg) (ps : List Pt5) (w : World) (h : SlP w E cap ps) (hl : ps.length ≤ 1000000) :
    Calls Tryz.prog 71 #[.agg (mfa n f t r d E ps.length cap)] w (GivesMR w n f t r d ps) := by
  have hM := ((Mm.start w).alloc (mfa n f t r d E ps.length cap) 57).alloc (mfa 0 0 0 0 dg0 none 0 0) 149
  rw [show (w.alloc (.cells (mfa n f t r d E ps.length cap) 57)).heap.size = w.heap.size + 1 from by simp] at hM
  have hz : ((w.alloc (.cells (mfa n f t r d E ps.length cap) 57)).alloc (.cells (mfa 0 0 0 0 dg0 none 0 0) 149)).heap.size = w.heap.size + 2 := by simp
  have hds := Lib.hid (dga_size d)
  have hms := fun A k c => Lib.hid (mfa_size n f t r d A k c)
  have hma := fun A k c => Lib.hid (mfa_all n f t r d A k c)
  have hm0 := Lib.hid (mfa_size 0 0 0 0 dg0 none 0 0)
  go_enter Tryz.func71, Tryz.ntmps71
  go_upto_region 1 with (fail)
  refine gen1 (T := fun W => Mm w W [(w.heap.size + 1, 149, mfa 0 0 0 0 dg0 none 0 0), (w.heap.size, 57, mfa n f t r d E ps.length cap)] [] ∧ W.heap.size = w.heap.size + 2) ⟨hM, hz⟩ (fun w0 hT => ?_)
  obtain ⟨hM, hz⟩ := hT
  obtain ⟨a0, a1, a2, a3, a4⟩ := Blm.five hM.b1
  have hd := Lib.hid (Blm.dg hM.b1)
  have hM2 := hM.alloc (mfa n f t r d none 0 0) 149
  rw [hz] at hM2
  go_upto_region 2 with (first | (refine wpl_loadG rfl 26 _ rfl ⟨w.heap.size, 4, none⟩ (dga d) rfl hd.out _ Tryz.underlying26 rfl (by rw [hds.out]; kernel_rfl) ?_) | (refine wpl_buildMR rfl _ _ _ _ _ rfl (n := n) (f := f) (t := t) (r := r) (d := d) rfl rfl rfl rfl rfl ?_) | (refine wpl_storeNg (g := w.heap.size + 2) hz.symm rfl 149 _ _ rfl _ (mfa n f t r d none 0 0) 149 rfl rfl (by rw [(hms none 0 0).out]; kernel_rfl) (by rw [(hms none 0 0).out]; rfl) (hma none 0 0).out ?_))
  clear hM hz hd a0 a1 a2 a3 a4
  refine gen1 (T := fun W => Mm w W [(w.heap.size + 2, 149, mfa n f t r d none 0 0), (w.heap.size + 1, 149, mfa 0 0 0 0 dg0 none 0 0), (w.heap.size, 57, mfa n f t r d E ps.length cap)] []) hM2 (fun w2 hM => ?_)
  clear hM2
  obtain ⟨a0, a1, a2, a3, a4⟩ := Blm.five hM.b2
  go_wp2_with fail
  go_loopw [20] (fun x wr => ∃ (k : Nat) (A : Option Addr) (c : Nat) (m : List Pt5), k ≤ ps.length ∧ x = .int .i64 (k : Nat) ∧ Hid (m = ps.take k) ∧ Mm w wr [(w.heap.size + 2, 149, mfa n f t r d A m.length c), (w.heap.size + 1, 149, mfa 0 0 0 0 dg0 none 0 0), (w.heap.size, 57, mfa n f t r d E ps.length cap)] [A.map (·.block)] ∧ OwnPr wr (w.heap.size + 3) A c m) (fun x wr => ps.length - (intOf x).toNat)
  case atStart => exact ⟨0, none, 0, [], Nat.zero_le _, rfl, (show _ = _ from rfl), hM.add (by simp), Own.none_ _ _ _ _⟩
  case round =>
    obtain ⟨k, A, c, m, hk, rfl, hm, hMr, hOr⟩ := hrel
    clear hM a0 a1 a2 a3 a4
    rcases Nat.lt_or_ge k ps.length with hlt | hge
    · have hkI : (k : Int) < (ps.length : Int) := by omega
      obtain ⟨ad, b, o, rfl, had, hcc⟩ := (h.below hMr.bel).at hlt
      have hts := Lib.hid (take_snoc hlt)
      generalize ps[k] = p at *
      have hps := Lib.hid (pta_size p)
      have hpa := Lib.hid (pta_all p)
      have HCC := Lib.hid hcc
      clear hcc
      have hMx := hMr.alloc (pta p) 28
      have hOx := World.ownsRow.alloc hOr (.cells (pta p) 28)
      have hlx := hMr.b0.lt
      go_upto_region 5 with (first | (refine wpl_loadG rfl 28 _ rfl ⟨b, o, none⟩ (pta p) rfl HCC.out _ Tryz.underlying28 rfl (by rw [hps.out]; kernel_rfl) ?_) | (refine wpl_storeN rfl 28 _ _ rfl _ (pta p) 28 rfl rfl (by rw [hps.out]; kernel_rfl) (by rw [hps.out]; rfl) hpa.out ?_))
      have hst : Mm w (wr.alloc (.cells (pta p) 28)).drew [(w.heap.size + 1, 149, mfa 0 0 0 0 dg0 none 0 0), (w.heap.size, 57, mfa n f t r d (some ad) ps.length cap)] [] := ((hMx.sub (by simp)).subG (by simp)).drew
      have hXd := hMx.b0.drew
      have hDd := hMx.b1.drew
      have hOd : OwnPr (wr.alloc (.cells (pta p) 28)).drew (w.heap.size + 3) A c m := hOx
      clear hMx hOx hMr hOr
      have hkm : Hid (m.length ≤ 1000000) := (show _ ≤ _ from by rw [hm.out, List.length_take]; omega)
      generalize wr.heap.size = gx at *
      refine wp_region_held_drew (S := (fun W => Mm w W [(w.heap.size + 1, 149, mfa 0 0 0 0 dg0 none 0 0), (w.heap.size, 57, mfa n f t r d (some ad) ps.length cap)] [])) (by kernel_rfl) ?_ (fun hHeld => ?_)
      · exact hst
      refine gen0 (T := fun W => ((fun W => Mm w W [(w.heap.size + 1, 149, mfa 0 0 0 0 dg0 none 0 0), (w.heap.size, 57, mfa n f t r d (some ad) ps.length cap)] [])) W ∧ Blk W gx 28 (pta p) ∧ Blk W (w.heap.size + 2) 149 (mfa n f t r d A m.length c) ∧ OwnPr W (w.heap.size + 3) A c m ∧ True) ?_ (fun wq1 hT => ?_)
      · exact ⟨by (with_reducible exact hst), by (with_reducible assumption), by (with_reducible assumption), by (with_reducible assumption), trivial⟩
      (try clear f0 f1 f2 f3 f4 f5 f6 f7 f8 f9 f10 f11)
      obtain ⟨hHeld, f0, f1, f2, -⟩ := hT
      refine wpAnyH_take (i := 0) (oi := ⟨some 24, _, _, _, _, _⟩) (v := ?_) rfl (by kernel_rfl) (by kernel_rfl) (by kernel_rfl) (fun _ _ _ h => h) (Or.inl ⟨by kernel_rfl, ?_⟩) (by assumption) ?_
      rotate_left
      · (intro wS hSw; (try dsimp only at hSw); clear hSw; go_simp; (try with_reducible rfl))
      (try simp only [Act.put, List.setIfInBounds_toArray, List.set_cons_zero, List.set_cons_succ])
      refine wpAnyH_ready (rs := [1, 2]) (by kernel_rfl) (by simp) ?_
      refine AllReadyH.cons (o := ⟨some 25, _, _, _, _, _⟩) rfl (fun K hK => ?_) ?_
      · ((have hq : Blk _ (w.heap.size + 2) 149 _ := (by with_reducible assumption); obtain ⟨s0, s1, s2, s3, s4⟩ := Blm.five hq; have sf := hq.frozen 36; go_simp))
        refine hK.out _ _ ?_ (fun _ => ?_)
        · ((try dsimp only); (with_reducible exact hHeld))
        clear hK K
        (try simp only [Act.put, List.setIfInBounds_toArray, List.set_cons_zero, List.set_cons_succ])
        refine gen0 (T := fun W => ((fun W => Mm w W [(w.heap.size + 1, 149, mfa 0 0 0 0 dg0 none 0 0), (w.heap.size, 57, mfa n f t r d (some ad) ps.length cap)] [])) W ∧ Blk W gx 28 (pta p) ∧ Blk W (w.heap.size + 2) 149 (mfa n f t r d A m.length c) ∧ OwnPr W (w.heap.size + 3) A c m ∧ True) ?_ (fun wq2 hT => ?_)
        · exact ⟨by (with_reducible exact hHeld), by (with_reducible assumption), by (with_reducible assumption), by (with_reducible assumption), trivial⟩
        (try clear f0 f1 f2 f3 f4 f5 f6 f7 f8 f9 f10 f11)
        obtain ⟨hHeld, f0, f1, f2, -⟩ := hT
        refine wpAnyH_ready (rs := [2]) (by kernel_rfl) (by simp) ?_
        refine AllReadyH.cons (o := ⟨some 26, _, _, _, _, _⟩) rfl (fun K hK => ?_) AllReadyH.nil
        ((refine step_loadP (by kernel_rfl) _ rfl ⟨gx, 0, none⟩ p rfl (Blk.cells (by with_reducible assumption)) ?_))
        refine hK.out _ _ ?_ (fun _ => ?_)
        · ((try dsimp only); (with_reducible exact hHeld))
        clear hK K
        (try simp only [Act.put, List.setIfInBounds_toArray, List.set_cons_zero, List.set_cons_succ])
        refine gen0 (T := fun W => ((fun W => Mm w W [(w.heap.size + 1, 149, mfa 0 0 0 0 dg0 none 0 0), (w.heap.size, 57, mfa n f t r d (some ad) ps.length cap)] [])) W ∧ Blk W gx 28 (pta p) ∧ Blk W (w.heap.size + 2) 149 (mfa n f t r d A m.length c) ∧ OwnPr W (w.heap.size + 3) A c m ∧ True) ?_ (fun wq3 hT => ?_)
        · exact ⟨by (with_reducible exact hHeld), by (with_reducible assumption), by (with_reducible assumption), by (with_reducible assumption), trivial⟩
        (try clear f0 f1 f2 f3 f4 f5 f6 f7 f8 f9 f10 f11)
        obtain ⟨hHeld, f0, f1, f2, -⟩ := hT
        refine wpAnyH_ready (rs := [3]) (by kernel_rfl) (by simp) ?_
        refine AllReadyH.cons (o := ⟨some 27, _, _, _, _, _⟩) rfl (fun K hK => ?_) AllReadyH.nil
        go_simp
        (refine (PartOf_any p _).mono ?_; rintro e w5 ⟨rfl, hb5⟩)
        go_wp2_with fail
        refine hK.out _ _ ?_ (fun _ => ?_)
        · ((try dsimp only); (with_reducible exact hHeld.call hb5))
        clear hK K
        (try simp only [Act.put, List.setIfInBounds_toArray, List.set_cons_zero, List.set_cons_succ])
        refine gen0 (T := fun W => ((fun W => Mm w W [(w.heap.size + 1, 149, mfa 0 0 0 0 dg0 none 0 0), (w.heap.size, 57, mfa n f t r d (some ad) ps.length cap)] [])) W ∧ Blk W (w.heap.size + 2) 149 (mfa n f t r d A m.length c) ∧ OwnPr W (w.heap.size + 3) A c m ∧ True) ?_ (fun wq4 hT => ?_)
        · exact ⟨by (with_reducible exact hHeld.call hb5), by (with_reducible exact Blk.below (by with_reducible assumption) hb5), by (with_reducible exact Own.below (by with_reducible assumption) hb5), trivial⟩
        (try clear f0 f1 f2 f3 f4 f5 f6 f7 f8 f9 f10 f11)
        obtain ⟨hHeld, f0, f1, -⟩ := hT
        refine wpAnyH_ready (rs := [4]) (by kernel_rfl) (by simp) ?_
        refine AllReadyH.cons (o := ⟨some 28, _, _, _, _, _⟩) rfl (fun K hK => ?_) AllReadyH.nil
        ((refine step_litR (by kernel_rfl) _ rfl p rfl ?_))
        refine hK.out _ _ ?_ (fun _ => ?_)
        · ((try dsimp only); (with_reducible exact hHeld.allocO _))
        clear hK K
        (try simp only [Act.put, List.setIfInBounds_toArray, List.set_cons_zero, List.set_cons_succ])
        refine gen0 (T := fun W => ((fun W => Mm w W [(w.heap.size + 1, 149, mfa 0 0 0 0 dg0 none 0 0), (w.heap.size, 57, mfa n f t r d (some ad) ps.length cap)] [])) W ∧ Blk W (w.heap.size + 2) 149 (mfa n f t r d A m.length c) ∧ OwnPr W (w.heap.size + 3) A c m ∧ SlP W (some ⟨wq4.heap.size, 0, none⟩) 1 [p] ∧ w.heap.size + 3 ≤ W.heap.size ∧ True) ?_ (fun wq5 hT => ?_)
        · exact ⟨by (with_reducible exact hHeld.allocO _), by (with_reducible exact Blk.alloc (by with_reducible assumption) _), by (with_reducible exact World.ownsRow.alloc (by with_reducible assumption) _), by (exact litR _ p), by ((have hq : Blk _ (w.heap.size + 2) 149 _ := (by with_reducible assumption); have := hq.lt; simp; omega)), trivial⟩
        (try clear f0 f1 f2 f3 f4 f5 f6 f7 f8 f9 f10 f11)
        obtain ⟨hHeld, f0, f1, f2, f3, -⟩ := hT
        refine wpAnyH_ready (rs := [5]) (by kernel_rfl) (by simp) ?_
        refine AllReadyH.cons (o := ⟨some 29, _, _, _, _, _⟩) rfl (fun K hK => ?_) AllReadyH.nil
        (refine step_partsR (by kernel_rfl) (.tmp 25) (.tmp 28) rfl (w.heap.size + 3) A c m rfl (by with_reducible assumption) (some ⟨_, 0, none⟩) 1 1 [p] rfl rfl (by with_reducible assumption) (by have := hkm.out; simp; omega) (by with_reducible assumption) ?_; intro A6 c6 m6 w6 hm6 ho6 hg6 hb6)
        refine hK.out _ _ ?_ (fun _ => ?_)
        · ((try dsimp only); (with_reducible exact hHeld.above hb6 (by simp) (by omega)))
        clear hK K
        (try simp only [Act.put, List.setIfInBounds_toArray, List.set_cons_zero, List.set_cons_succ])
        refine gen0 (T := fun W => ((fun W => Mm w W [(w.heap.size + 1, 149, mfa 0 0 0 0 dg0 none 0 0), (w.heap.size, 57, mfa n f t r d (some ad) ps.length cap)] [])) W ∧ Blk W (w.heap.size + 2) 149 (mfa n f t r d A m.length c) ∧ w.heap.size + 3 ≤ W.heap.size ∧ OwnPr W (w.heap.size + 3) A6 c6 m6 ∧ True) ?_ (fun wq6 hT => ?_)
        · exact ⟨by (with_reducible exact hHeld.above hb6 (by simp) (by omega)), by (exact (hb6.block (w.heap.size + 2) (by omega)).trans (show Blk _ (w.heap.size + 2) 149 (mfa n f t r d A m.length c) from by with_reducible assumption)), by ((have := hb6.size; omega)), by (with_reducible assumption), trivial⟩
        (try clear f0 f1 f2 f3 f4 f5 f6 f7 f8 f9 f10 f11)
        obtain ⟨hHeld, f0, f1, f2, -⟩ := hT
        refine wpAnyH_take (i := 6) (oi := ⟨some 30, _, _, _, _, _⟩) (v := ?_) rfl (by kernel_rfl) (by kernel_rfl) (by kernel_rfl) (fun _ _ _ h => h) (Or.inl ⟨by kernel_rfl, ?_⟩) (by assumption) ?_
        rotate_left
        · (intro wS hSw; (try dsimp only at hSw); clear hSw; go_simp; (try with_reducible rfl))
        (try simp only [Act.put, List.setIfInBounds_toArray, List.set_cons_zero, List.set_cons_succ])
        refine wpAnyH_ready (rs := [7]) (by kernel_rfl) (by simp) ?_
        refine AllReadyH.cons (o := ⟨none, _, _, _, _, _⟩) rfl (fun K hK => ?_) AllReadyH.nil
        ((have hq : Blk _ (w.heap.size + 2) 149 _ := (by with_reducible assumption); obtain ⟨s0, s1, s2, s3, s4⟩ := Blm.five hq; have sf := hq.frozen 36; go_simp))
        refine hK.out _ _ ?_ (fun _ => ?_)
        · ((try dsimp only); (with_reducible exact hHeld.off (wr1 _ _ _ _) (by simp) (by omega)))
        clear hK K
        (try simp only [Act.put, List.setIfInBounds_toArray, List.set_cons_zero, List.set_cons_succ])
        refine gen0 (T := fun W => ((fun W => Mm w W [(w.heap.size + 1, 149, mfa 0 0 0 0 dg0 none 0 0), (w.heap.size, 57, mfa n f t r d (some ad) ps.length cap)] [])) W ∧ w.heap.size + 3 ≤ W.heap.size ∧ OwnPr W (w.heap.size + 3) A6 c6 m6 ∧ Blk W (w.heap.size + 2) 149 (mfa n f t r d A6 m6.length c6) ∧ True) ?_ (fun wq7 hT => ?_)
        · exact ⟨by (with_reducible exact hHeld.off (wr1 _ _ _ _) (by simp) (by omega)), by ((have hq : Blk _ (w.heap.size + 2) 149 _ := (by with_reducible assumption); have := hq.lt; simp; omega)), by (with_reducible exact Own.set1 (by with_reducible assumption) (by omega) _), by (exact Blm.set (by with_reducible assumption) _ _ _), trivial⟩
        (try clear f0 f1 f2 f3 f4 f5 f6 f7 f8 f9 f10 f11)
        obtain ⟨hHeld, f0, f1, f2, -⟩ := hT
        refine wpAnyH_done (by kernel_rfl) ?_ _
        (go_wp2_with fail; go_roundw; (case rel => exact ⟨k + 1, A6, c6, m6, hlt, by go_num, (show _ = _ from by rw [hm6.out, hm.out, hts.out]), (hHeld.cons (g := w.heap.size + 2) (by with_reducible assumption) (by omega) (by simp) (by simp)).add (fun k hk => ⟨(Own.lt (by with_reducible assumption) k hk).2, by have h3 := (Own.lt (base := w.heap.size + 3) (by with_reducible assumption) k hk).1; simp; omega⟩), (by with_reducible assumption)⟩); (case measure => simp [intOf]; omega))
      refine AllReadyH.cons (o := ⟨some 26, _, _, _, _, _⟩) rfl (fun K hK => ?_) ?_
      · ((refine step_loadP (by kernel_rfl) _ rfl ⟨gx, 0, none⟩ p rfl (Blk.cells (by with_reducible assumption)) ?_))
        refine hK.out _ _ ?_ (fun _ => ?_)
        · ((try dsimp only); (with_reducible exact hHeld))
        clear hK K
        (try simp only [Act.put, List.setIfInBounds_toArray, List.set_cons_zero, List.set_cons_succ])
        refine gen0 (T := fun W => ((fun W => Mm w W [(w.heap.size + 1, 149, mfa 0 0 0 0 dg0 none 0 0), (w.heap.size, 57, mfa n f t r d (some ad) ps.length cap)] [])) W ∧ Blk W gx 28 (pta p) ∧ Blk W (w.heap.size + 2) 149 (mfa n f t r d A m.length c) ∧ OwnPr W (w.heap.size + 3) A c m ∧ True) ?_ (fun wq8 hT => ?_)
        · exact ⟨by (with_reducible exact hHeld), by (with_reducible assumption), by (with_reducible assumption), by (with_reducible assumption), trivial⟩
        (try clear f0 f1 f2 f3 f4 f5 f6 f7 f8 f9 f10 f11)
        obtain ⟨hHeld, f0, f1, f2, -⟩ := hT
        refine wpAnyH_ready (rs := [1, 3]) (by kernel_rfl) (by simp) ?_
        refine AllReadyH.cons (o := ⟨some 25, _, _, _, _, _⟩) rfl (fun K hK => ?_) ?_
        · ((have hq : Blk _ (w.heap.size + 2) 149 _ := (by with_reducible assumption); obtain ⟨s0, s1, s2, s3, s4⟩ := Blm.five hq; have sf := hq.frozen 36; go_simp))
          refine hK.out _ _ ?_ (fun _ => ?_)
          · ((try dsimp only); (with_reducible exact hHeld))
          clear hK K
          (try simp only [Act.put, List.setIfInBounds_toArray, List.set_cons_zero, List.set_cons_succ])
          refine gen0 (T := fun W => ((fun W => Mm w W [(w.heap.size + 1, 149, mfa 0 0 0 0 dg0 none 0 0), (w.heap.size, 57, mfa n f t r d (some ad) ps.length cap)] [])) W ∧ Blk W gx 28 (pta p) ∧ Blk W (w.heap.size + 2) 149 (mfa n f t r d A m.length c) ∧ OwnPr W (w.heap.size + 3) A c m ∧ True) ?_ (fun wq9 hT => ?_)
          · exact ⟨by (with_reducible exact hHeld), by (with_reducible assumption), by (with_reducible assumption), by (with_reducible assumption), trivial⟩
          (try clear f0 f1 f2 f3 f4 f5 f6 f7 f8 f9 f10 f11)
          obtain ⟨hHeld, f0, f1, f2, -⟩ := hT
          refine wpAnyH_ready (rs := [3]) (by kernel_rfl) (by simp) ?_
          refine AllReadyH.cons (o := ⟨some 27, _, _, _, _, _⟩) rfl (fun K hK => ?_) AllReadyH.nil
          go_simp
          (refine (PartOf_any p _).mono ?_; rintro e w5 ⟨rfl, hb5⟩)
          go_wp2_with fail
          refine hK.out _ _ ?_ (fun _ => ?_)
          · ((try dsimp only); (with_reducible exact hHeld.call hb5))
          clear hK K
          (try simp only [Act.put, List.setIfInBounds_toArray, List.set_cons_zero, List.set_cons_succ])
          refine gen0 (T := fun W => ((fun W => Mm w W [(w.heap.size + 1, 149, mfa 0 0 0 0 dg0 none 0 0), (w.heap.size, 57, mfa n f t r d (some ad) ps.length cap)] [])) W ∧ Blk W (w.heap.size + 2) 149 (mfa n f t r d A m.length c) ∧ OwnPr W (w.heap.size + 3) A c m ∧ True) ?_ (fun wq10 hT => ?_)
          · exact ⟨by (with_reducible exact hHeld.call hb5), by (with_reducible exact Blk.below (by with_reducible assumption) hb5), by (with_reducible exact Own.below (by with_reducible assumption) hb5), trivial⟩
          (try clear f0 f1 f2 f3 f4 f5 f6 f7 f8 f9 f10 f11)
          obtain ⟨hHeld, f0, f1, -⟩ := hT
          refine wpAnyH_ready (rs := [4]) (by kernel_rfl) (by simp) ?_
          refine AllReadyH.cons (o := ⟨some 28, _, _, _, _, _⟩) rfl (fun K hK => ?_) AllReadyH.nil
          ((refine step_litR (by kernel_rfl) _ rfl p rfl ?_))
          refine hK.out _ _ ?_ (fun _ => ?_)
          · ((try dsimp only); (with_reducible exact hHeld.allocO _))
          clear hK K
          (try simp only [Act.put, List.setIfInBounds_toArray, List.set_cons_zero, List.set_cons_succ])
          refine gen0 (T := fun W => ((fun W => Mm w W [(w.heap.size + 1, 149, mfa 0 0 0 0 dg0 none 0 0), (w.heap.size, 57, mfa n f t r d (some ad) ps.length cap)] [])) W ∧ Blk W (w.heap.size + 2) 149 (mfa n f t r d A m.length c) ∧ OwnPr W (w.heap.size + 3) A c m ∧ SlP W (some ⟨wq10.heap.size, 0, none⟩) 1 [p] ∧ w.heap.size + 3 ≤ W.heap.size ∧ True) ?_ (fun wq11 hT => ?_)
          · exact ⟨by (with_reducible exact hHeld.allocO _), by (with_reducible exact Blk.alloc (by with_reducible assumption) _), by (with_reducible exact World.ownsRow.alloc (by with_reducible assumption) _), by (exact litR _ p), by ((have hq : Blk _ (w.heap.size + 2) 149 _ := (by with_reducible assumption); have := hq.lt; simp; omega)), trivial⟩
          (try clear f0 f1 f2 f3 f4 f5 f6 f7 f8 f9 f10 f11)
          obtain ⟨hHeld, f0, f1, f2, f3, -⟩ := hT
          refine wpAnyH_ready (rs := [5]) (by kernel_rfl) (by simp) ?_
          refine AllReadyH.cons (o := ⟨some 29, _, _, _, _, _⟩) rfl (fun K hK => ?_) AllReadyH.nil
          (refine step_partsR (by kernel_rfl) (.tmp 25) (.tmp 28) rfl (w.heap.size + 3) A c m rfl (by with_reducible assumption) (some ⟨_, 0, none⟩) 1 1 [p] rfl rfl (by with_reducible assumption) (by have := hkm.out; simp; omega) (by with_reducible assumption) ?_; intro A6 c6 m6 w6 hm6 ho6 hg6 hb6)
          refine hK.out _ _ ?_ (fun _ => ?_)
          · ((try dsimp only); (with_reducible exact hHeld.above hb6 (by simp) (by omega)))
          clear hK K
          (try simp only [Act.put, List.setIfInBounds_toArray, List.set_cons_zero, List.set_cons_succ])
          refine gen0 (T := fun W => ((fun W => Mm w W [(w.heap.size + 1, 149, mfa 0 0 0 0 dg0 none 0 0), (w.heap.size, 57, mfa n f t r d (some ad) ps.length cap)] [])) W ∧ Blk W (w.heap.size + 2) 149 (mfa n f t r d A m.length c) ∧ w.heap.size + 3 ≤ W.heap.size ∧ OwnPr W (w.heap.size + 3) A6 c6 m6 ∧ True) ?_ (fun wq12 hT => ?_)
          · exact ⟨by (with_reducible exact hHeld.above hb6 (by simp) (by omega)), by (exact (hb6.block (w.heap.size + 2) (by omega)).trans (show Blk _ (w.heap.size + 2) 149 (mfa n f t r d A m.length c) from by with_reducible assumption)), by ((have := hb6.size; omega)), by (with_reducible assumption), trivial⟩
          (try clear f0 f1 f2 f3 f4 f5 f6 f7 f8 f9 f10 f11)
          obtain ⟨hHeld, f0, f1, f2, -⟩ := hT
          refine wpAnyH_take (i := 6) (oi := ⟨some 30, _, _, _, _, _⟩) (v := ?_) rfl (by kernel_rfl) (by kernel_rfl) (by kernel_rfl) (fun _ _ _ h => h) (Or.inl ⟨by kernel_rfl, ?_⟩) (by assumption) ?_
          rotate_left
          · (intro wS hSw; (try dsimp only at hSw); clear hSw; go_simp; (try with_reducible rfl))
          (try simp only [Act.put, List.setIfInBounds_toArray, List.set_cons_zero, List.set_cons_succ])
          refine wpAnyH_ready (rs := [7]) (by kernel_rfl) (by simp) ?_
          refine AllReadyH.cons (o := ⟨none, _, _, _, _, _⟩) rfl (fun K hK => ?_) AllReadyH.nil
          ((have hq : Blk _ (w.heap.size + 2) 149 _ := (by with_reducible assumption); obtain ⟨s0, s1, s2, s3, s4⟩ := Blm.five hq; have sf := hq.frozen 36; go_simp))
          refine hK.out _ _ ?_ (fun _ => ?_)
          · ((try dsimp only); (with_reducible exact hHeld.off (wr1 _ _ _ _) (by simp) (by omega)))
          clear hK K
          (try simp only [Act.put, List.setIfInBounds_toArray, List.set_cons_zero, List.set_cons_succ])
          refine gen0 (T := fun W => ((fun W => Mm w W [(w.heap.size + 1, 149, mfa 0 0 0 0 dg0 none 0 0), (w.heap.size, 57, mfa n f t r d (some ad) ps.length cap)] [])) W ∧ w.heap.size + 3 ≤ W.heap.size ∧ OwnPr W (w.heap.size + 3) A6 c6 m6 ∧ Blk W (w.heap.size + 2) 149 (mfa n f t r d A6 m6.length c6) ∧ True) ?_ (fun wq13 hT => ?_)
          · exact ⟨by (with_reducible exact hHeld.off (wr1 _ _ _ _) (by simp) (by omega)), by ((have hq : Blk _ (w.heap.size + 2) 149 _ := (by with_reducible assumption); have := hq.lt; simp; omega)), by (with_reducible exact Own.set1 (by with_reducible assumption) (by omega) _), by (exact Blm.set (by with_reducible assumption) _ _ _), trivial⟩
          (try clear f0 f1 f2 f3 f4 f5 f6 f7 f8 f9 f10 f11)
          obtain ⟨hHeld, f0, f1, f2, -⟩ := hT
          refine wpAnyH_done (by kernel_rfl) ?_ _
          (go_wp2_with fail; go_roundw; (case rel => exact ⟨k + 1, A6, c6, m6, hlt, by go_num, (show _ = _ from by rw [hm6.out, hm.out, hts.out]), (hHeld.cons (g := w.heap.size + 2) (by with_reducible assumption) (by omega) (by simp) (by simp)).add (fun k hk => ⟨(Own.lt (by with_reducible assumption) k hk).2, by have h3 := (Own.lt (base := w.heap.size + 3) (by with_reducible assumption) k hk).1; simp; omega⟩), (by with_reducible assumption)⟩); (case measure => simp [intOf]; omega))
        refine AllReadyH.cons (o := ⟨some 27, _, _, _, _, _⟩) rfl (fun K hK => ?_) ?_
        · go_simp
          (refine (PartOf_any p _).mono ?_; rintro e w5 ⟨rfl, hb5⟩)
          go_wp2_with fail
          refine hK.out _ _ ?_ (fun _ => ?_)
          · ((try dsimp only); (with_reducible exact hHeld.call hb5))
          clear hK K
          (try simp only [Act.put, List.setIfInBounds_toArray, List.set_cons_zero, List.set_cons_succ])
          refine gen0 (T := fun W => ((fun W => Mm w W [(w.heap.size + 1, 149, mfa 0 0 0 0 dg0 none 0 0), (w.heap.size, 57, mfa n f t r d (some ad) ps.length cap)] [])) W ∧ Blk W (w.heap.size + 2) 149 (mfa n f t r d A m.length c) ∧ OwnPr W (w.heap.size + 3) A c m ∧ True) ?_ (fun wq14 hT => ?_)
          · exact ⟨by (with_reducible exact hHeld.call hb5), by (with_reducible exact Blk.below (by with_reducible assumption) hb5), by (with_reducible exact Own.below (by with_reducible assumption) hb5), trivial⟩
          (try clear f0 f1 f2 f3 f4 f5 f6 f7 f8 f9 f10 f11)
          obtain ⟨hHeld, f0, f1, -⟩ := hT
          refine wpAnyH_ready (rs := [1, 4]) (by kernel_rfl) (by simp) ?_
          refine AllReadyH.cons (o := ⟨some 25, _, _, _, _, _⟩) rfl (fun K hK => ?_) ?_
          · ((have hq : Blk _ (w.heap.size + 2) 149 _ := (by with_reducible assumption); obtain ⟨s0, s1, s2, s3, s4⟩ := Blm.five hq; have sf := hq.frozen 36; go_simp))
            refine hK.out _ _ ?_ (fun _ => ?_)
            · ((try dsimp only); (with_reducible exact hHeld))
            clear hK K
            (try simp only [Act.put, List.setIfInBounds_toArray, List.set_cons_zero, List.set_cons_succ])
            refine gen0 (T := fun W => ((fun W => Mm w W [(w.heap.size + 1, 149, mfa 0 0 0 0 dg0 none 0 0), (w.heap.size, 57, mfa n f t r d (some ad) ps.length cap)] [])) W ∧ Blk W (w.heap.size + 2) 149 (mfa n f t r d A m.length c) ∧ OwnPr W (w.heap.size + 3) A c m ∧ True) ?_ (fun wq15 hT => ?_)
            · exact ⟨by (with_reducible exact hHeld), by (with_reducible assumption), by (with_reducible assumption), trivial⟩
            (try clear f0 f1 f2 f3 f4 f5 f6 f7 f8 f9 f10 f11)
            obtain ⟨hHeld, f0, f1, -⟩ := hT
            refine wpAnyH_ready (rs := [4]) (by kernel_rfl) (by simp) ?_
            refine AllReadyH.cons (o := ⟨some 28, _, _, _, _, _⟩) rfl (fun K hK => ?_) AllReadyH.nil
            ((refine step_litR (by kernel_rfl) _ rfl p rfl ?_))
            refine hK.out _ _ ?_ (fun _ => ?_)
            · ((try dsimp only); (with_reducible exact hHeld.allocO _))
            clear hK K
            (try simp only [Act.put, List.setIfInBounds_toArray, List.set_cons_zero, List.set_cons_succ])
            refine gen0 (T := fun W => ((fun W => Mm w W [(w.heap.size + 1, 149, mfa 0 0 0 0 dg0 none 0 0), (w.heap.size, 57, mfa n f t r d (some ad) ps.length cap)] [])) W ∧ Blk W (w.heap.size + 2) 149 (mfa n f t r d A m.length c) ∧ OwnPr W (w.heap.size + 3) A c m ∧ SlP W (some ⟨wq15.heap.size, 0, none⟩) 1 [p] ∧ w.heap.size + 3 ≤ W.heap.size ∧ True) ?_ (fun wq16 hT => ?_)
            · exact ⟨by (with_reducible exact hHeld.allocO _), by (with_reducible exact Blk.alloc (by with_reducible assumption) _), by (with_reducible exact World.ownsRow.alloc (by with_reducible assumption) _), by (exact litR _ p), by ((have hq : Blk _ (w.heap.size + 2) 149 _ := (by with_reducible assumption); have := hq.lt; simp; omega)), trivial⟩
            (try clear f0 f1 f2 f3 f4 f5 f6 f7 f8 f9 f10 f11)
            obtain ⟨hHeld, f0, f1, f2, f3, -⟩ := hT
            refine wpAnyH_ready (rs := [5]) (by kernel_rfl) (by simp) ?_
            refine AllReadyH.cons (o := ⟨some 29, _, _, _, _, _⟩) rfl (fun K hK => ?_) AllReadyH.nil
            (refine step_partsR (by kernel_rfl) (.tmp 25) (.tmp 28) rfl (w.heap.size + 3) A c m rfl (by with_reducible assumption) (some ⟨_, 0, none⟩) 1 1 [p] rfl rfl (by with_reducible assumption) (by have := hkm.out; simp; omega) (by with_reducible assumption) ?_; intro A6 c6 m6 w6 hm6 ho6 hg6 hb6)
            refine hK.out _ _ ?_ (fun _ => ?_)
            · ((try dsimp only); (with_reducible exact hHeld.above hb6 (by simp) (by omega)))
            clear hK K
            (try simp only [Act.put, List.setIfInBounds_toArray, List.set_cons_zero, List.set_cons_succ])
            refine gen0 (T := fun W => ((fun W => Mm w W [(w.heap.size + 1, 149, mfa 0 0 0 0 dg0 none 0 0), (w.heap.size, 57, mfa n f t r d (some ad) ps.length cap)] [])) W ∧ Blk W (w.heap.size + 2) 149 (mfa n f t r d A m.length c) ∧ w.heap.size + 3 ≤ W.heap.size ∧ OwnPr W (w.heap.size + 3) A6 c6 m6 ∧ True) ?_ (fun wq17 hT => ?_)
            · exact ⟨by (with_reducible exact hHeld.above hb6 (by simp) (by omega)), by (exact (hb6.block (w.heap.size + 2) (by omega)).trans (show Blk _ (w.heap.size + 2) 149 (mfa n f t r d A m.length c) from by with_reducible assumption)), by ((have := hb6.size; omega)), by (with_reducible assumption), trivial⟩
            (try clear f0 f1 f2 f3 f4 f5 f6 f7 f8 f9 f10 f11)
            obtain ⟨hHeld, f0, f1, f2, -⟩ := hT
            refine wpAnyH_take (i := 6) (oi := ⟨some 30, _, _, _, _, _⟩) (v := ?_) rfl (by kernel_rfl) (by kernel_rfl) (by kernel_rfl) (fun _ _ _ h => h) (Or.inl ⟨by kernel_rfl, ?_⟩) (by assumption) ?_
            rotate_left
            · (intro wS hSw; (try dsimp only at hSw); clear hSw; go_simp; (try with_reducible rfl))
            (try simp only [Act.put, List.setIfInBounds_toArray, List.set_cons_zero, List.set_cons_succ])
            refine wpAnyH_ready (rs := [7]) (by kernel_rfl) (by simp) ?_
            refine AllReadyH.cons (o := ⟨none, _, _, _, _, _⟩) rfl (fun K hK => ?_) AllReadyH.nil
            ((have hq : Blk _ (w.heap.size + 2) 149 _ := (by with_reducible assumption); obtain ⟨s0, s1, s2, s3, s4⟩ := Blm.five hq; have sf := hq.frozen 36; go_simp))
            refine hK.out _ _ ?_ (fun _ => ?_)
            · ((try dsimp only); (with_reducible exact hHeld.off (wr1 _ _ _ _) (by simp) (by omega)))
            clear hK K
            (try simp only [Act.put, List.setIfInBounds_toArray, List.set_cons_zero, List.set_cons_succ])
            refine gen0 (T := fun W => ((fun W => Mm w W [(w.heap.size + 1, 149, mfa 0 0 0 0 dg0 none 0 0), (w.heap.size, 57, mfa n f t r d (some ad) ps.length cap)] [])) W ∧ w.heap.size + 3 ≤ W.heap.size ∧ OwnPr W (w.heap.size + 3) A6 c6 m6 ∧ Blk W (w.heap.size + 2) 149 (mfa n f t r d A6 m6.length c6) ∧ True) ?_ (fun wq18 hT => ?_)
            · exact ⟨by (with_reducible exact hHeld.off (wr1 _ _ _ _) (by simp) (by omega)), by ((have hq : Blk _ (w.heap.size + 2) 149 _ := (by with_reducible assumption); have := hq.lt; simp; omega)), by (with_reducible exact Own.set1 (by with_reducible assumption) (by omega) _), by (exact Blm.set (by with_reducible assumption) _ _ _), trivial⟩
            (try clear f0 f1 f2 f3 f4 f5 f6 f7 f8 f9 f10 f11)
            obtain ⟨hHeld, f0, f1, f2, -⟩ := hT
            refine wpAnyH_done (by kernel_rfl) ?_ _
            (go_wp2_with fail; go_roundw; (case rel => exact ⟨k + 1, A6, c6, m6, hlt, by go_num, (show _ = _ from by rw [hm6.out, hm.out, hts.out]), (hHeld.cons (g := w.heap.size + 2) (by with_reducible assumption) (by omega) (by simp) (by simp)).add (fun k hk => ⟨(Own.lt (by with_reducible assumption) k hk).2, by have h3 := (Own.lt (base := w.heap.size + 3) (by with_reducible assumption) k hk).1; simp; omega⟩), (by with_reducible assumption)⟩); (case measure => simp [intOf]; omega))
          refine AllReadyH.cons (o := ⟨some 28, _, _, _, _, _⟩) rfl (fun K hK => ?_) ?_
          · ((refine step_litR (by kernel_rfl) _ rfl p rfl ?_))
            refine hK.out _ _ ?_ (fun _ => ?_)
            · ((try dsimp only); (with_reducible exact hHeld.allocO _))
            clear hK K
            (try simp only [Act.put, List.setIfInBounds_toArray, List.set_cons_zero, List.set_cons_succ])
            refine gen0 (T := fun W => ((fun W => Mm w W [(w.heap.size + 1, 149, mfa 0 0 0 0 dg0 none 0 0), (w.heap.size, 57, mfa n f t r d (some ad) ps.length cap)] [])) W ∧ Blk W (w.heap.size + 2) 149 (mfa n f t r d A m.length c) ∧ OwnPr W (w.heap.size + 3) A c m ∧ SlP W (some ⟨wq14.heap.size, 0, none⟩) 1 [p] ∧ w.heap.size + 3 ≤ W.heap.size ∧ True) ?_ (fun wq19 hT => ?_)
            · exact ⟨by (with_reducible exact hHeld.allocO _), by (with_reducible exact Blk.alloc (by with_reducible assumption) _), by (with_reducible exact World.ownsRow.alloc (by with_reducible assumption) _), by (exact litR _ p), by ((have hq : Blk _ (w.heap.size + 2) 149 _ := (by with_reducible assumption); have := hq.lt; simp; omega)), trivial⟩
            (try clear f0 f1 f2 f3 f4 f5 f6 f7 f8 f9 f10 f11)
            obtain ⟨hHeld, f0, f1, f2, f3, -⟩ := hT
            refine wpAnyH_ready (rs := [1]) (by kernel_rfl) (by simp) ?_
            refine AllReadyH.cons (o := ⟨some 25, _, _, _, _, _⟩) rfl (fun K hK => ?_) AllReadyH.nil
            ((have hq : Blk _ (w.heap.size + 2) 149 _ := (by with_reducible assumption); obtain ⟨s0, s1, s2, s3, s4⟩ := Blm.five hq; have sf := hq.frozen 36; go_simp))
            refine hK.out _ _ ?_ (fun _ => ?_)
            · ((try dsimp only); (with_reducible exact hHeld))
            clear hK K
            (try simp only [Act.put, List.setIfInBounds_toArray, List.set_cons_zero, List.set_cons_succ])
            refine gen0 (T := fun W => ((fun W => Mm w W [(w.heap.size + 1, 149, mfa 0 0 0 0 dg0 none 0 0), (w.heap.size, 57, mfa n f t r d (some ad) ps.length cap)] [])) W ∧ Blk W (w.heap.size + 2) 149 (mfa n f t r d A m.length c) ∧ OwnPr W (w.heap.size + 3) A c m ∧ SlP W (some ⟨wq14.heap.size, 0, none⟩) 1 [p] ∧ w.heap.size + 3 ≤ W.heap.size ∧ True) ?_ (fun wq20 hT => ?_)
            · exact ⟨by (with_reducible exact hHeld), by (with_reducible assumption), by (with_reducible assumption), by (with_reducible assumption), by (with_reducible assumption), trivial⟩
            (try clear f0 f1 f2 f3 f4 f5 f6 f7 f8 f9 f10 f11)
            obtain ⟨hHeld, f0, f1, f2, f3, -⟩ := hT
            refine wpAnyH_ready (rs := [5]) (by kernel_rfl) (by simp) ?_
            refine AllReadyH.cons (o := ⟨some 29, _, _, _, _, _⟩) rfl (fun K hK => ?_) AllReadyH.nil
            (refine step_partsR (by kernel_rfl) (.tmp 25) (.tmp 28) rfl (w.heap.size + 3) A c m rfl (by with_reducible assumption) (some ⟨_, 0, none⟩) 1 1 [p] rfl rfl (by with_reducible assumption) (by have := hkm.out; simp; omega) (by with_reducible assumption) ?_; intro A6 c6 m6 w6 hm6 ho6 hg6 hb6)
            refine hK.out _ _ ?_ (fun _ => ?_)
            · ((try dsimp only); (with_reducible exact hHeld.above hb6 (by simp) (by omega)))
            clear hK K
            (try simp only [Act.put, List.setIfInBounds_toArray, List.set_cons_zero, List.set_cons_succ])
            refine gen0 (T := fun W => ((fun W => Mm w W [(w.heap.size + 1, 149, mfa 0 0 0 0 dg0 none 0 0), (w.heap.size, 57, mfa n f t r d (some ad) ps.length cap)] [])) W ∧ Blk W (w.heap.size + 2) 149 (mfa n f t r d A m.length c) ∧ w.heap.size + 3 ≤ W.heap.size ∧ OwnPr W (w.heap.size + 3) A6 c6 m6 ∧ True) ?_ (fun wq21 hT => ?_)
            · exact ⟨by (with_reducible exact hHeld.above hb6 (by simp) (by omega)), by (exact (hb6.block (w.heap.size + 2) (by omega)).trans (show Blk _ (w.heap.size + 2) 149 (mfa n f t r d A m.length c) from by with_reducible assumption)), by ((have := hb6.size; omega)), by (with_reducible assumption), trivial⟩
            (try clear f0 f1 f2 f3 f4 f5 f6 f7 f8 f9 f10 f11)
            obtain ⟨hHeld, f0, f1, f2, -⟩ := hT
            refine wpAnyH_take (i := 6) (oi := ⟨some 30, _, _, _, _, _⟩) (v := ?_) rfl (by kernel_rfl) (by kernel_rfl) (by kernel_rfl) (fun _ _ _ h => h) (Or.inl ⟨by kernel_rfl, ?_⟩) (by assumption) ?_
            rotate_left
            · (intro wS hSw; (try dsimp only at hSw); clear hSw; go_simp; (try with_reducible rfl))
            (try simp only [Act.put, List.setIfInBounds_toArray, List.set_cons_zero, List.set_cons_succ])
            refine wpAnyH_ready (rs := [7]) (by kernel_rfl) (by simp) ?_
            refine AllReadyH.cons (o := ⟨none, _, _, _, _, _⟩) rfl (fun K hK => ?_) AllReadyH.nil
            ((have hq : Blk _ (w.heap.size + 2) 149 _ := (by with_reducible assumption); obtain ⟨s0, s1, s2, s3, s4⟩ := Blm.five hq; have sf := hq.frozen 36; go_simp))
            refine hK.out _ _ ?_ (fun _ => ?_)
            · ((try dsimp only); (with_reducible exact hHeld.off (wr1 _ _ _ _) (by simp) (by omega)))
            clear hK K
            (try simp only [Act.put, List.setIfInBounds_toArray, List.set_cons_zero, List.set_cons_succ])
            refine gen0 (T := fun W => ((fun W => Mm w W [(w.heap.size + 1, 149, mfa 0 0 0 0 dg0 none 0 0), (w.heap.size, 57, mfa n f t r d (some ad) ps.length cap)] [])) W ∧ w.heap.size + 3 ≤ W.heap.size ∧ OwnPr W (w.heap.size + 3) A6 c6 m6 ∧ Blk W (w.heap.size + 2) 149 (mfa n f t r d A6 m6.length c6) ∧ True) ?_ (fun wq22 hT => ?_)
            · exact ⟨by (with_reducible exact hHeld.off (wr1 _ _ _ _) (by simp) (by omega)), by ((have hq : Blk _ (w.heap.size + 2) 149 _ := (by with_reducible assumption); have := hq.lt; simp; omega)), by (with_reducible exact Own.set1 (by with_reducible assumption) (by omega) _), by (exact Blm.set (by with_reducible assumption) _ _ _), trivial⟩
            (try clear f0 f1 f2 f3 f4 f5 f6 f7 f8 f9 f10 f11)
            obtain ⟨hHeld, f0, f1, f2, -⟩ := hT
            refine wpAnyH_done (by kernel_rfl) ?_ _
            (go_wp2_with fail; go_roundw; (case rel => exact ⟨k + 1, A6, c6, m6, hlt, by go_num, (show _ = _ from by rw [hm6.out, hm.out, hts.out]), (hHeld.cons (g := w.heap.size + 2) (by with_reducible assumption) (by omega) (by simp) (by simp)).add (fun k hk => ⟨(Own.lt (by with_reducible assumption) k hk).2, by have h3 := (Own.lt (base := w.heap.size + 3) (by with_reducible assumption) k hk).1; simp; omega⟩), (by with_reducible assumption)⟩); (case measure => simp [intOf]; omega))
          exact AllReadyH.nil
        exact AllReadyH.nil
      exact AllReadyH.nil
    · obtain rfl : k = ps.length := by omega
      have hmp := hm.out
      rw [List.take_of_length_le (Nat.le_refl _)] at hmp
      have HMP := Lib.hid hmp
      have hmz := Lib.hid (mfa_size n f t r d A m.length c)
      have hmb := Lib.hid (mfa_all n f t r d A m.length c)
      clear hm hmp
      go_wp2_with (first | (refine wpl_loadG rfl 149 _ rfl ⟨w.heap.size + 2, 0, none⟩ (mfa n f t r d A m.length c) rfl hMr.b0.cells _ Tryz.underlying149 rfl (by rw [hmz.out]; kernel_rfl) ?_) | (refine wpList_store_row rfl 149 _ _ rfl (w.heap.size + 1) (mfa n f t r d A m.length c) rfl rfl 149 _ hMr.b1 (by rw [hmz.out]; kernel_rfl) (by rw [hmz.out, hm0.out]) hmb.out ?_))
      exact bodyPost_ret (res_mR rfl rfl (g := w.heap.size + 1) hMr.b1.row) rfl ⟨A, c, m, rfl, HMP.out ▸ rfl, Own.more (Own.wr hOr (g := w.heap.size + 1) (by omega) (Wr.row _)) (by omega), below_setRow hMr.bel (by omega) _⟩
end Go.Proofs.YtabnndjdkjkciaaGreatDoor
