/- WHAT IT HOLDS: parts appended, cloned; Step, walked. -/
import Derived.Test.YtgipfenjachpnaaCursorStepsG14
import Derived.Great.BuildSlice
namespace Go.Proofs.Ytgipfenjachpnaa
open Go.RowKit
attribute [local go_sem ↓] Go.wp_at_zero Go.wp_at_succ

theorem pt_info : (Try.prog.info? 57).map (fun i => (i.zero, i.size, i.bytes)) = some (some (.agg (pta (0, 0, 0, dg0))), 35, 56) := by kernel_rfl
theorem one_ptl (l : List Pt5) : ∀ u ∈ l.flatMap ptl, u.oneCell' = true := by
  intro u hu
  simp only [List.mem_flatMap] at hu
  obtain ⟨x, _, hx⟩ := hu
  exact ptl_one x u hx
abbrev OwnP (w : World) (base : Nat) (A : Option Addr) (c : Nat) (ps : List Pt5) : Prop := Own w base 57 35 A ps.length c (ps.flatMap ptl)
theorem step_parts {w : World} {ops : Array Oper} {o : Oper} {a : Act} {K : Act → World → Prop} {Q : Exit → Act → World → Prop} {X : Prop} (hw : Region.wanted o (yielded ops a.tmps) = true) (s x : Operand)
    (ho : o.op = .call { callee := .builtin .append, args := #[s, x], argTypes := #[50, 50] })
    (base : Nat) (A : Option Addr) (c : Nat) (l : List Pt5) (hs : a.eval s = .slice A l.length c) (hown : OwnP w base A c l)
    (A2 : Option Addr) (c2 n2 : Nat) (l2 : List Pt5) (hn2 : n2 = l2.length) (hx : a.eval x = .slice A2 n2 c2) (hr : SlP w A2 c2 l2) (hlen : l.length + l2.length ≤ 1000000000) (hbase : base ≤ w.heap.size)
    (h : ∀ A' c' (m : List Pt5) w', Hid (m = l ++ l2) → OwnP w' base A' c' m → w.grownBy w' (A.map (·.block)) → Below base w w' → K (a.put o.dst (.slice A' m.length c')) w') :
    if Region.wanted o (yielded ops a.tmps) = true then Oper.wp Try.prog o a w K Q else X := by
  subst hn2
  obtain ⟨i0, hi, hz0, hz1, hz2⟩ := info_parts pt_info
  refine step_append hw s x 50 ho base 57 i0 _ 35 56 Try.underlying50 hi hz0 hz1 hz2 (by rw [show (Value.agg (pta (0, 0, 0, dg0))).cells.size = (pta (0, 0, 0, dg0)).size from rfl, pta_size]) (by decide) A l.length c (l.flatMap ptl) hs hown A2 l2.length c2 (l2.flatMap ptl) hx hr (one_ptl l2) (by omega) (by simp only [maxLen]; omega) hbase ?_
  intro A' c' w' hap
  rw [← List.length_append]
  refine h A' c' (l ++ l2) w' rfl ?_ hap.grown (hap.below hown hbase)
  show Own w' base 57 35 A' (l ++ l2).length c' ((l ++ l2).flatMap ptl)
  rw [List.length_append, List.flatMap_append]
  exact hap.own
theorem wpl_parts {w : World} {ops : Array Oper} {rest : List Oper} {o : Oper} {a : Act} {Q : Exit → Act → World → Prop} (hw : Region.wanted o (yielded ops a.tmps) = true) (s x : Operand)
    (ho : o.op = .call { callee := .builtin .append, args := #[s, x], argTypes := #[50, 50] })
    (base : Nat) (A : Option Addr) (c : Nat) (l : List Pt5) (hs : a.eval s = .slice A l.length c) (hown : OwnP w base A c l)
    (A2 : Option Addr) (c2 n2 : Nat) (l2 : List Pt5) (hn2 : n2 = l2.length) (hx : a.eval x = .slice A2 n2 c2) (hr : SlP w A2 c2 l2) (hlen : l.length + l2.length ≤ 1000000000) (hbase : base ≤ w.heap.size)
    (h : ∀ A' c' (m : List Pt5) w', Hid (m = l ++ l2) → OwnP w' base A' c' m → w.grownBy w' (A.map (·.block)) → Below base w w' → wpList Try.prog ops Q rest (a.put o.dst (.slice A' m.length c')) w') : wpList Try.prog ops Q (o :: rest) a w :=
  wpList_step fun _ hK => step_parts hw s x ho base A c l hs hown A2 c2 n2 l2 hn2 hx hr hlen hbase fun A' c' m w' h1 h2 h3 h4 => hK _ _ (h A' c' m w' h1 h2 h3 h4)
/-- new parts -/
def GivesPs (w0 : World) (ps : List Pt5) (e : Ending) (w' : World) : Prop := ∃ A c m, e = .returned (.slice A (List.length m) c) ∧ Hid (m = ps) ∧ OwnP w' w0.heap.size A c m ∧ Below w0.heap.size w0 w'
set_option maxRecDepth 100000 in
set_option maxHeartbeats 1000000 in
theorem PtClone_any {E : Option Addr} {cap : Nat} (ps : List Pt5) (w : World) (h : SlP w E cap ps) (hl : ps.length ≤ 1000000) :
    Calls Try.prog 94 #[.slice E ps.length cap] w (GivesPs w ps) := by
  have hq := fun (w : World) (A : Option Addr) (n c : Nat) => Lib.run_eql_slice_nil (P := Try.prog) w 50 57 A n c 0 0 Try.underlying50
  cases E with
  | none =>
    have h0 := h.2.2.2.1 rfl
    have h1 : ps = [] := List.eq_nil_of_length_eq_zero (by have := h.2.1; omega)
    subst h0
    subst h1
    go_enter Try.func94, Try.ntmps94
    go_wp2_with fail
    go_ret
    exact ⟨none, 0, [], rfl, (show _ = _ from rfl), Own.none_ _ _ _ _, Below.refl _ _⟩
  | some ad =>
    go_enter Try.func94, Try.ntmps94
    go_wp2_with (at_builtin; go_must (refine wpl_parts rfl (.tmp 5) (.tmp 6) rfl w.heap.size (some ⟨w.heap.size, 0, none⟩) 0 [] rfl (Own.lit 35 (Nat.le_refl _)) (some ad) cap ps.length ps rfl rfl (h.below (below_new _ _)) (by simp; omega) (by simp) ?_; intro A3 c3 m3 w3 hm3 ho3 _ hb3))
    go_ret
    exact ⟨A3, c3, m3, rfl, (show _ = _ from by rw [hm3.out]; rfl), ho3, (below_new _ _).trans hb3⟩
theorem step_loadP {w : World} {ops : Array Oper} {o : Oper} {a : Act} {K : Act → World → Prop} {Q : Exit → Act → World → Prop} {X : Prop} (hgd : Region.wanted o (yielded ops a.tmps) = true) (x : Operand) (ho : o.op = .load 57 x)
    (ad : Addr) (p : Pt5) (hx : a.eval x = .pointer (some ad)) (hc : ∀ j u, (pta p)[j]? = some u → w.cell? (ad.add j) = some u)
    (h : K (a.put o.dst (.agg (pta p))) w) : if Region.wanted o (yielded ops a.tmps) = true then Oper.wp Try.prog o a w K Q else X := by
  rw [if_pos hgd]
  exact wp_loadA 57 x ho ad (pta p) hx hc _ Try.underlying57 rfl (by rw [pta_size]; kernel_rfl) h
/-- a slice literal of one part -/
theorem step_lit1 {w : World} {ops : Array Oper} {o : Oper} {a : Act} {K : Act → World → Prop} {Q : Exit → Act → World → Prop} {X : Prop} (hgd : Region.wanted o (yielded ops a.tmps) = true) (x : Operand) (ho : o.op = .buildSlice 50 1 #[(0, x)])
    (p : Pt5) (hx : a.eval x = .agg (pta p)) (h : K (a.put o.dst (.slice (some ⟨w.heap.size, 0, none⟩) 1 1)) (w.alloc (.cells (pta p) 57))) : if Region.wanted o (yielded ops a.tmps) = true then Oper.wp Try.prog o a w K Q else X := by
  rw [if_pos hgd]
  obtain ⟨i0, hi, hz0, hz1, hz2⟩ := info_parts pt_info
  refine wp_buildSlice 50 57 1 _ ho (pta p) i0 _ Try.underlying50 hi hz0 (by rw [hz1]; decide) (by rw [hz1]; decide) ?_ h
  rw [hz1]
  have hl : ((#[(0, x)] : Array (Nat × Operand)).map fun (i, x) => (i, a.eval x)).toList = ([Value.agg (pta p)].zipIdx 0).map fun x => (x.2, x.1) := by simp [hx]
  have hps := pta_size p
  rw [hl, Go.Great.fill_whole (s := 35) (by decide) [Value.agg (pta p)] _ (by intro v hv; rw [List.mem_singleton.1 hv]; exact hps) (by simp)]
  simp [Value.cells]
theorem litP (W : World) (p : Pt5) : SlP (W.alloc (.cells (pta p) 57)) (some ⟨W.heap.size, 0, none⟩) 1 [p] := by
  have h := Sl.litsS W 35 1 (ptl p) 57 (by rw [ptl_len]) (by simp [maxLen])
  show Sl _ 35 _ 1 1 ([p].flatMap ptl)
  simpa [pta] using h
theorem res_cr2 {fn : Func} {a b : Nat} {tmps : Array Value} {w : World} {g : Nat} {x y z u v : Value} (hres : fn.results = #[.cell a 87, .tmp b]) (ha : tmps.getD a undef = .pointer (some ⟨g, 0, none⟩)) (hB : Blk w g 87 #[x, y, z, u, v]) :
    (results fn tmps).run Try.prog w = .ok (.tuple #[.agg #[x, y, z, u, v], tmps.getD b undef]) w := by
  obtain ⟨b0, b1, b2, b3, b4, -⟩ := Blk.five hB
  have ha' : tmps[a]?.getD undef = .pointer (some ⟨g, 0, none⟩) := by simpa using ha
  simp [results, hres, go_sem, b0, b1, b2, b3, b4, ha']
theorem Blk.set5 {w : World} {g : Nat} {t : TypeId} {a b c d e : Value} (h : Blk w g t #[a, b, c, d, e]) (x y z u v : Value) : Blk (((((w.setCell ⟨g, 0, none⟩ x).setCell ⟨g, 1, none⟩ y).setCell ⟨g, 2, none⟩ z).setCell ⟨g, 3, none⟩ u).setCell ⟨g, 4, none⟩ v) g t #[x, y, z, u, v] :=
  ((((h.set_ 0 x).set_ 1 y).set_ 2 z).set_ 3 u).set_ 4 v
theorem Own.set5 {w : World} {base : Nat} {e : TypeId} {size n c : Nat} {A : Option Addr} {xs : List Value} (h : Own w base e size A n c xs) {g : Nat} (hg : g < base) (x y z u v : Value) : Own (((((w.setCell ⟨g, 0, none⟩ x).setCell ⟨g, 1, none⟩ y).setCell ⟨g, 2, none⟩ z).setCell ⟨g, 3, none⟩ u).setCell ⟨g, 4, none⟩ v) base e size A n c xs :=
  Own.set1 (Own.set1 (Own.set1 (Own.set1 (Own.set1 h hg _) hg _) hg _) hg _) hg _
theorem bel_set5 {w w' : World} {g : Nat} (h : Below w.heap.size w w') (hg : w.heap.size ≤ g) (x y z u v : Value) : Below w.heap.size w (((((w'.setCell ⟨g, 0, none⟩ x).setCell ⟨g, 1, none⟩ y).setCell ⟨g, 2, none⟩ z).setCell ⟨g, 3, none⟩ u).setCell ⟨g, 4, none⟩ v) := bel_set (bel_set (bel_set (bel_set (bel_set h hg _) hg _) hg _) hg _) hg _
/-- a cursor and a part, the result's block -/
structure StC (w W : World) (f nx t q : Int) (A : Option Addr) (k c : Nat) (p : Pt5) : Prop where
  bel : Below w.heap.size w W
  pt : Blk W (w.heap.size + 1) 57 (pta p)
  res : Blk W (w.heap.size + 1 + 1) 87 #[.int .i64 0, .int .i64 0, .int .i64 0, .int .i64 0, .slice none 0 0]
section
variable {w W W' : World} {f nx t q : Int} {A : Option Addr} {k c : Nat} {p : Pt5}
theorem StC.below (h : StC w W f nx t q A k c p) (hb : Below W.heap.size W W') : StC w W' f nx t q A k c p := ⟨bel_call h.bel hb, h.pt.below hb, h.res.below hb⟩
theorem StC.drew (h : StC w W f nx t q A k c p) : StC w W.drew f nx t q A k c p := ⟨h.bel.drew, h.pt.drew, h.res.drew⟩
theorem StC.alloc (h : StC w W f nx t q A k c p) (o : Obj) : StC w (W.alloc o) f nx t q A k c p := ⟨bel_alloc h.bel o, h.pt.alloc o, h.res.alloc o⟩
theorem StC.apart (h : StC w W f nx t q A k c p) {B : Nat} (hB : w.heap.size + 1 + 1 < B) (hb : Below B W W') : StC w W' f nx t q A k c p :=
  ⟨h.bel.trans (hb.mono (by omega)), (hb.block _ (by omega)).trans h.pt, (hb.block _ hB).trans h.res⟩
theorem StC.set0 (h : StC w W f nx t q A k c p) (i : Nat) (u : Value) : StC w (W.setCell ⟨w.heap.size, i, none⟩ u) f nx t q A k c p :=
  ⟨bel_set h.bel (Nat.le_refl _) u, h.pt.far (by dsimp only; omega) u, h.res.far (by dsimp only; omega) u⟩
end
set_option maxRecDepth 100000 in
set_option maxHeartbeats 4000000 in
theorem CrStep_any {A : Option Addr} {c : Nat} (f nx t q : Int) (ps : List Pt5) (p : Pt5) (w : World) (h : SlP w A c ps) (hI : PtsI (ps ++ [p])) (hl : ps.length ≤ 1000) (h0 : crchk (f, nx, t, q, ps) = 0) (h1 : crchk (f, nx + p.2.1, t, q, ps ++ [p]) = 0) (hn0 : 0 ≤ nx) (hn1 : nx ≤ 1048576) (hm0 : 0 ≤ p.2.1) (hm1 : p.2.1 ≤ 64) :
    Calls Try.prog 48 #[crv f nx t q A ps.length c, .agg (pta p)] w fun e w' => ∃ A' c' m, e = .returned (.tuple #[crv f (nx + p.2.1) t q A' (List.length m) c', .nilIface]) ∧ Hid (m = ps ++ [p]) ∧ OwnP w' w.heap.size A' c' m ∧ Below w.heap.size w w' := by
  have hC0 := ((Blk.new w 87 #[.int .i64 f, .int .i64 nx, .int .i64 t, .int .i64 q, .slice A ps.length c]).alloc (.cells (pta p) 57)).alloc (.cells #[.int .i64 0, .int .i64 0, .int .i64 0, .int .i64 0, .slice none 0 0] 87)
  have hP0 := (Blk.newAt (w := w.alloc (.cells #[.int .i64 f, .int .i64 nx, .int .i64 t, .int .i64 q, .slice A ps.length c] 87)) (g := w.heap.size + 1) (by simp) 57 (pta p)).alloc (.cells #[.int .i64 0, .int .i64 0, .int .i64 0, .int .i64 0, .slice none 0 0] 87)
  have hR0 := Blk.newAt (w := (w.alloc (.cells #[.int .i64 f, .int .i64 nx, .int .i64 t, .int .i64 q, .slice A ps.length c] 87)).alloc (.cells (pta p) 57)) (g := w.heap.size + 1 + 1) (by simp) 87 #[.int .i64 0, .int .i64 0, .int .i64 0, .int .i64 0, .slice none 0 0]
  have hbw := bel_alloc (bel_alloc (below_new w (.cells #[.int .i64 f, .int .i64 nx, .int .i64 t, .int .i64 q, .slice A ps.length c] 87)) (.cells (pta p) 57)) (.cells #[.int .i64 0, .int .i64 0, .int .i64 0, .int .i64 0, .slice none 0 0] 87)
  have hCC := CrCheck_any f nx t q ps _ (h.below hbw) (fun x hx => hI x (List.mem_append_left _ hx))
  rw [h0] at hCC
  have HC := Lib.hid hCC
  have hps := Lib.hid (pta_size p)
  obtain ⟨a0, a1, a2, a3, a4, -⟩ := Blk.five hC0
  clear hCC h0
  have hwa : wrap64 (nx + p.2.1) = nx + p.2.1 := by simp only [wrap64]; omega
  have hwa2 : IntKind.i64.wrap (nx + p.2.1) = nx + p.2.1 := by rw [IntKind.wrap_i64]; omega
  have HH1 := Lib.hid h1
  go_enter Try.func48, Try.ntmps48
  go_wp2_with fail
  refine HC.out.mono ?_
  rintro e w1 ⟨rfl, hb1⟩
  rw [show errv 0 = .nilIface from rfl]
  have hC := hC0.below hb1
  have hJ : StC w w1 f nx t q A ps.length c p := ⟨bel_call hbw hb1, hP0.below hb1, hR0.below hb1⟩
  clear hC0 hP0 hR0 hbw hb1 HC a0 a1 a2 a3 a4
  go_upto_region 4 with (fail)
  have hst := hJ.drew
  have hCd := Blk.drew hC
  clear hJ hC
  go_cut [] (fun wz => ∃ A5 c5 m5, Hid (m5 = ps ++ [p]) ∧ StC w wz f nx t q A ps.length c p ∧ Blk wz w.heap.size 87 #[.int .i64 f, .int .i64 nx, .int .i64 t, .int .i64 q, .slice A5 (List.length m5) c5] ∧ OwnP wz (w.heap.size + 1 + 1 + 1) A5 c5 m5)
  case first =>
    refine wp_region_held_drew (S := (fun W => StC w W f nx t q A ps.length c p)) (by kernel_rfl) ?_ (fun hHeld => ?_)
    · exact hst
    refine gen0 (T := fun W => ((fun W => StC w W f nx t q A ps.length c p)) W ∧ Blk W w.heap.size 87 #[.int .i64 f, .int .i64 nx, .int .i64 t, .int .i64 q, .slice A ps.length c] ∧ True) ?_ (fun wq1 hT => ?_)
    · exact ⟨by (first | with_reducible exact hst | with_reducible exact hHeld | with_reducible exact hHeld.below hb5 | with_reducible exact hHeld.alloc _ | with_reducible exact hHeld.apart (Nat.lt_succ_self _) hb6 | with_reducible exact hHeld.set0 _ _), by (first | with_reducible assumption | with_reducible exact hCd | with_reducible exact f0.below hb5 | with_reducible exact f0.alloc _ | with_reducible exact World.ownsRow.alloc f1 _ | with_reducible exact Own.set1 f0 (by omega) _ | with_reducible exact Own.set1 f1 (by omega) _ | exact litP _ p | exact (hb6.block w.heap.size (by omega)).trans f0 | exact ho6 | exact SlP.below f1 hb5 | exact Own.more ho5 (Blk.lt hHeld.res) | exact f0.set_ 4 _), trivial⟩
    (try clear f0 f1 f2 f3 f4 f5 f6 f7 f8 f9 f10 f11)
    obtain ⟨hHeld, f0, -⟩ := hT
    refine wpAnyH_take (i := 0) (oi := ⟨some 14, _, _, _, _, _⟩) (v := ?_) rfl (by kernel_rfl) (by kernel_rfl) (by kernel_rfl) (fun _ _ _ h => h) (Or.inl ⟨by kernel_rfl, ?_⟩) (by assumption) ?_
    rotate_left
    · (intro wS hSw; (try dsimp only at hSw); clear hSw; go_simp; (try with_reducible rfl))
    (try simp only [Act.put, List.setIfInBounds_toArray, List.set_cons_zero, List.set_cons_succ])
    refine wpAnyH_ready (rs := [1, 3]) (by kernel_rfl) (by simp) ?_
    refine AllReadyH.cons (o := ⟨some 15, _, _, _, _, _⟩) rfl (fun K hK => ?_) ?_
    · (first | (refine step_loadP (by kernel_rfl) _ rfl ⟨w.heap.size + 1, 0, none⟩ p rfl hHeld.pt.cells ?_) | (refine step_lit1 (by kernel_rfl) _ rfl p rfl ?_) | (obtain ⟨s0, s1, s2, s3, s4, sf0, sf1, sf2, sf3, sf4⟩ := f0.five; go_simp))
      refine hK.out _ _ ?_ (fun _ => ?_)
      · ((try dsimp only); (first | with_reducible exact hst | with_reducible exact hHeld | with_reducible exact hHeld.below hb5 | with_reducible exact hHeld.alloc _ | with_reducible exact hHeld.apart (Nat.lt_succ_self _) hb6 | with_reducible exact hHeld.set0 _ _))
      clear hK K
      (try simp only [Act.put, List.setIfInBounds_toArray, List.set_cons_zero, List.set_cons_succ])
      refine gen0 (T := fun W => ((fun W => StC w W f nx t q A ps.length c p)) W ∧ Blk W w.heap.size 87 #[.int .i64 f, .int .i64 nx, .int .i64 t, .int .i64 q, .slice A ps.length c] ∧ True) ?_ (fun wq2 hT => ?_)
      · exact ⟨by (first | with_reducible exact hst | with_reducible exact hHeld | with_reducible exact hHeld.below hb5 | with_reducible exact hHeld.alloc _ | with_reducible exact hHeld.apart (Nat.lt_succ_self _) hb6 | with_reducible exact hHeld.set0 _ _), by (first | with_reducible assumption | with_reducible exact hCd | with_reducible exact f0.below hb5 | with_reducible exact f0.alloc _ | with_reducible exact World.ownsRow.alloc f1 _ | with_reducible exact Own.set1 f0 (by omega) _ | with_reducible exact Own.set1 f1 (by omega) _ | exact litP _ p | exact (hb6.block w.heap.size (by omega)).trans f0 | exact ho6 | exact SlP.below f1 hb5 | exact Own.more ho5 (Blk.lt hHeld.res) | exact f0.set_ 4 _), trivial⟩
      (try clear f0 f1 f2 f3 f4 f5 f6 f7 f8 f9 f10 f11)
      obtain ⟨hHeld, f0, -⟩ := hT
      refine wpAnyH_ready (rs := [2, 3]) (by kernel_rfl) (by simp) ?_
      refine AllReadyH.cons (o := ⟨some 16, _, _, _, _, _⟩) rfl (fun K hK => ?_) ?_
      · go_simp
        (refine (PtClone_any ps _ (h.below hHeld.bel) (by omega)).mono ?_; rintro e w5 ⟨A5, c5, m5, rfl, hm5, ho5, hb5⟩)
        go_wp2_with fail
        refine hK.out _ _ ?_ (fun _ => ?_)
        · ((try dsimp only); (first | with_reducible exact hst | with_reducible exact hHeld | with_reducible exact hHeld.below hb5 | with_reducible exact hHeld.alloc _ | with_reducible exact hHeld.apart (Nat.lt_succ_self _) hb6 | with_reducible exact hHeld.set0 _ _))
        clear hK K
        (try simp only [Act.put, List.setIfInBounds_toArray, List.set_cons_zero, List.set_cons_succ])
        refine gen0 (T := fun W => ((fun W => StC w W f nx t q A ps.length c p)) W ∧ Blk W w.heap.size 87 #[.int .i64 f, .int .i64 nx, .int .i64 t, .int .i64 q, .slice A ps.length c] ∧ OwnP W (w.heap.size + 1 + 1 + 1) A5 c5 m5 ∧ True) ?_ (fun wq3 hT => ?_)
        · exact ⟨by (first | with_reducible exact hst | with_reducible exact hHeld | with_reducible exact hHeld.below hb5 | with_reducible exact hHeld.alloc _ | with_reducible exact hHeld.apart (Nat.lt_succ_self _) hb6 | with_reducible exact hHeld.set0 _ _), by (first | with_reducible assumption | with_reducible exact hCd | with_reducible exact f0.below hb5 | with_reducible exact f0.alloc _ | with_reducible exact World.ownsRow.alloc f1 _ | with_reducible exact Own.set1 f0 (by omega) _ | with_reducible exact Own.set1 f1 (by omega) _ | exact litP _ p | exact (hb6.block w.heap.size (by omega)).trans f0 | exact ho6 | exact SlP.below f1 hb5 | exact Own.more ho5 (Blk.lt hHeld.res) | exact f0.set_ 4 _), by (first | with_reducible assumption | with_reducible exact hCd | with_reducible exact f0.below hb5 | with_reducible exact f0.alloc _ | with_reducible exact World.ownsRow.alloc f1 _ | with_reducible exact Own.set1 f0 (by omega) _ | with_reducible exact Own.set1 f1 (by omega) _ | exact litP _ p | exact (hb6.block w.heap.size (by omega)).trans f0 | exact ho6 | exact SlP.below f1 hb5 | exact Own.more ho5 (Blk.lt hHeld.res) | exact f0.set_ 4 _), trivial⟩
        (try clear f0 f1 f2 f3 f4 f5 f6 f7 f8 f9 f10 f11)
        obtain ⟨hHeld, f0, f1, -⟩ := hT
        refine wpAnyH_ready (rs := [3]) (by kernel_rfl) (by simp) ?_
        refine AllReadyH.cons (o := ⟨some 17, _, _, _, _, _⟩) rfl (fun K hK => ?_) AllReadyH.nil
        (first | (refine step_loadP (by kernel_rfl) _ rfl ⟨w.heap.size + 1, 0, none⟩ p rfl hHeld.pt.cells ?_) | (refine step_lit1 (by kernel_rfl) _ rfl p rfl ?_) | (obtain ⟨s0, s1, s2, s3, s4, sf0, sf1, sf2, sf3, sf4⟩ := f0.five; go_simp))
        refine hK.out _ _ ?_ (fun _ => ?_)
        · ((try dsimp only); (first | with_reducible exact hst | with_reducible exact hHeld | with_reducible exact hHeld.below hb5 | with_reducible exact hHeld.alloc _ | with_reducible exact hHeld.apart (Nat.lt_succ_self _) hb6 | with_reducible exact hHeld.set0 _ _))
        clear hK K
        (try simp only [Act.put, List.setIfInBounds_toArray, List.set_cons_zero, List.set_cons_succ])
        refine gen0 (T := fun W => ((fun W => StC w W f nx t q A ps.length c p)) W ∧ Blk W w.heap.size 87 #[.int .i64 f, .int .i64 nx, .int .i64 t, .int .i64 q, .slice A ps.length c] ∧ OwnP W (w.heap.size + 1 + 1 + 1) A5 c5 m5 ∧ True) ?_ (fun wq4 hT => ?_)
        · exact ⟨by (first | with_reducible exact hst | with_reducible exact hHeld | with_reducible exact hHeld.below hb5 | with_reducible exact hHeld.alloc _ | with_reducible exact hHeld.apart (Nat.lt_succ_self _) hb6 | with_reducible exact hHeld.set0 _ _), by (first | with_reducible assumption | with_reducible exact hCd | with_reducible exact f0.below hb5 | with_reducible exact f0.alloc _ | with_reducible exact World.ownsRow.alloc f1 _ | with_reducible exact Own.set1 f0 (by omega) _ | with_reducible exact Own.set1 f1 (by omega) _ | exact litP _ p | exact (hb6.block w.heap.size (by omega)).trans f0 | exact ho6 | exact SlP.below f1 hb5 | exact Own.more ho5 (Blk.lt hHeld.res) | exact f0.set_ 4 _), by (first | with_reducible assumption | with_reducible exact hCd | with_reducible exact f0.below hb5 | with_reducible exact f0.alloc _ | with_reducible exact World.ownsRow.alloc f1 _ | with_reducible exact Own.set1 f0 (by omega) _ | with_reducible exact Own.set1 f1 (by omega) _ | exact litP _ p | exact (hb6.block w.heap.size (by omega)).trans f0 | exact ho6 | exact SlP.below f1 hb5 | exact Own.more ho5 (Blk.lt hHeld.res) | exact f0.set_ 4 _), trivial⟩
        (try clear f0 f1 f2 f3 f4 f5 f6 f7 f8 f9 f10 f11)
        obtain ⟨hHeld, f0, f1, -⟩ := hT
        refine wpAnyH_ready (rs := [4]) (by kernel_rfl) (by simp) ?_
        refine AllReadyH.cons (o := ⟨some 18, _, _, _, _, _⟩) rfl (fun K hK => ?_) AllReadyH.nil
        (first | (refine step_loadP (by kernel_rfl) _ rfl ⟨w.heap.size + 1, 0, none⟩ p rfl hHeld.pt.cells ?_) | (refine step_lit1 (by kernel_rfl) _ rfl p rfl ?_) | (obtain ⟨s0, s1, s2, s3, s4, sf0, sf1, sf2, sf3, sf4⟩ := f0.five; go_simp))
        refine hK.out _ _ ?_ (fun _ => ?_)
        · ((try dsimp only); (first | with_reducible exact hst | with_reducible exact hHeld | with_reducible exact hHeld.below hb5 | with_reducible exact hHeld.alloc _ | with_reducible exact hHeld.apart (Nat.lt_succ_self _) hb6 | with_reducible exact hHeld.set0 _ _))
        clear hK K
        (try simp only [Act.put, List.setIfInBounds_toArray, List.set_cons_zero, List.set_cons_succ])
        refine gen0 (T := fun W => ((fun W => StC w W f nx t q A ps.length c p)) W ∧ Blk W w.heap.size 87 #[.int .i64 f, .int .i64 nx, .int .i64 t, .int .i64 q, .slice A ps.length c] ∧ OwnP W (w.heap.size + 1 + 1 + 1) A5 c5 m5 ∧ SlP W (some ⟨wq4.heap.size, 0, none⟩) 1 [p] ∧ True) ?_ (fun wq5 hT => ?_)
        · exact ⟨by (first | with_reducible exact hst | with_reducible exact hHeld | with_reducible exact hHeld.below hb5 | with_reducible exact hHeld.alloc _ | with_reducible exact hHeld.apart (Nat.lt_succ_self _) hb6 | with_reducible exact hHeld.set0 _ _), by (first | with_reducible assumption | with_reducible exact hCd | with_reducible exact f0.below hb5 | with_reducible exact f0.alloc _ | with_reducible exact World.ownsRow.alloc f1 _ | with_reducible exact Own.set1 f0 (by omega) _ | with_reducible exact Own.set1 f1 (by omega) _ | exact litP _ p | exact (hb6.block w.heap.size (by omega)).trans f0 | exact ho6 | exact SlP.below f1 hb5 | exact Own.more ho5 (Blk.lt hHeld.res) | exact f0.set_ 4 _), by (first | with_reducible assumption | with_reducible exact hCd | with_reducible exact f0.below hb5 | with_reducible exact f0.alloc _ | with_reducible exact World.ownsRow.alloc f1 _ | with_reducible exact Own.set1 f0 (by omega) _ | with_reducible exact Own.set1 f1 (by omega) _ | exact litP _ p | exact (hb6.block w.heap.size (by omega)).trans f0 | exact ho6 | exact SlP.below f1 hb5 | exact Own.more ho5 (Blk.lt hHeld.res) | exact f0.set_ 4 _), by (first | with_reducible assumption | with_reducible exact hCd | with_reducible exact f0.below hb5 | with_reducible exact f0.alloc _ | with_reducible exact World.ownsRow.alloc f1 _ | with_reducible exact Own.set1 f0 (by omega) _ | with_reducible exact Own.set1 f1 (by omega) _ | exact litP _ p | exact (hb6.block w.heap.size (by omega)).trans f0 | exact ho6 | exact SlP.below f1 hb5 | exact Own.more ho5 (Blk.lt hHeld.res) | exact f0.set_ 4 _), trivial⟩
        (try clear f0 f1 f2 f3 f4 f5 f6 f7 f8 f9 f10 f11)
        obtain ⟨hHeld, f0, f1, f2, -⟩ := hT
        refine wpAnyH_ready (rs := [5]) (by kernel_rfl) (by simp) ?_
        refine AllReadyH.cons (o := ⟨some 19, _, _, _, _, _⟩) rfl (fun K hK => ?_) AllReadyH.nil
        (refine step_parts (by kernel_rfl) (.tmp 16) (.tmp 18) rfl (w.heap.size + 1 + 1 + 1) A5 c5 m5 rfl f1 (some ⟨_, 0, none⟩) 1 1 [p] rfl rfl f2 (by rw [hm5.out]; simp; omega) (Blk.lt hHeld.res) ?_; intro A6 c6 m6 w6 hm6 ho6 hg6 hb6)
        refine hK.out _ _ ?_ (fun _ => ?_)
        · ((try dsimp only); (first | with_reducible exact hst | with_reducible exact hHeld | with_reducible exact hHeld.below hb5 | with_reducible exact hHeld.alloc _ | with_reducible exact hHeld.apart (Nat.lt_succ_self _) hb6 | with_reducible exact hHeld.set0 _ _))
        clear hK K
        (try simp only [Act.put, List.setIfInBounds_toArray, List.set_cons_zero, List.set_cons_succ])
        refine gen0 (T := fun W => ((fun W => StC w W f nx t q A ps.length c p)) W ∧ Blk W w.heap.size 87 #[.int .i64 f, .int .i64 nx, .int .i64 t, .int .i64 q, .slice A ps.length c] ∧ OwnP W (w.heap.size + 1 + 1 + 1) A6 c6 m6 ∧ True) ?_ (fun wq6 hT => ?_)
        · exact ⟨by (first | with_reducible exact hst | with_reducible exact hHeld | with_reducible exact hHeld.below hb5 | with_reducible exact hHeld.alloc _ | with_reducible exact hHeld.apart (Nat.lt_succ_self _) hb6 | with_reducible exact hHeld.set0 _ _), by (first | with_reducible assumption | with_reducible exact hCd | with_reducible exact f0.below hb5 | with_reducible exact f0.alloc _ | with_reducible exact World.ownsRow.alloc f1 _ | with_reducible exact Own.set1 f0 (by omega) _ | with_reducible exact Own.set1 f1 (by omega) _ | exact litP _ p | exact (hb6.block w.heap.size (by omega)).trans f0 | exact ho6 | exact SlP.below f1 hb5 | exact Own.more ho5 (Blk.lt hHeld.res) | exact f0.set_ 4 _), by (first | with_reducible assumption | with_reducible exact hCd | with_reducible exact f0.below hb5 | with_reducible exact f0.alloc _ | with_reducible exact World.ownsRow.alloc f1 _ | with_reducible exact Own.set1 f0 (by omega) _ | with_reducible exact Own.set1 f1 (by omega) _ | exact litP _ p | exact (hb6.block w.heap.size (by omega)).trans f0 | exact ho6 | exact SlP.below f1 hb5 | exact Own.more ho5 (Blk.lt hHeld.res) | exact f0.set_ 4 _), trivial⟩
        (try clear f0 f1 f2 f3 f4 f5 f6 f7 f8 f9 f10 f11)
        obtain ⟨hHeld, f0, f1, -⟩ := hT
        refine wpAnyH_take (i := 6) (oi := ⟨some 20, _, _, _, _, _⟩) (v := ?_) rfl (by kernel_rfl) (by kernel_rfl) (by kernel_rfl) (fun _ _ _ h => h) (Or.inl ⟨by kernel_rfl, ?_⟩) (by assumption) ?_
        rotate_left
        · (intro wS hSw; (try dsimp only at hSw); clear hSw; go_simp; (try with_reducible rfl))
        (try simp only [Act.put, List.setIfInBounds_toArray, List.set_cons_zero, List.set_cons_succ])
        refine wpAnyH_ready (rs := [7]) (by kernel_rfl) (by simp) ?_
        refine AllReadyH.cons (o := ⟨none, _, _, _, _, _⟩) rfl (fun K hK => ?_) AllReadyH.nil
        (first | (refine step_loadP (by kernel_rfl) _ rfl ⟨w.heap.size + 1, 0, none⟩ p rfl hHeld.pt.cells ?_) | (refine step_lit1 (by kernel_rfl) _ rfl p rfl ?_) | (obtain ⟨s0, s1, s2, s3, s4, sf0, sf1, sf2, sf3, sf4⟩ := f0.five; go_simp))
        refine hK.out _ _ ?_ (fun _ => ?_)
        · ((try dsimp only); (first | with_reducible exact hst | with_reducible exact hHeld | with_reducible exact hHeld.below hb5 | with_reducible exact hHeld.alloc _ | with_reducible exact hHeld.apart (Nat.lt_succ_self _) hb6 | with_reducible exact hHeld.set0 _ _))
        clear hK K
        (try simp only [Act.put, List.setIfInBounds_toArray, List.set_cons_zero, List.set_cons_succ])
        refine gen0 (T := fun W => ((fun W => StC w W f nx t q A ps.length c p)) W ∧ OwnP W (w.heap.size + 1 + 1 + 1) A6 c6 m6 ∧ Blk W w.heap.size 87 #[.int .i64 f, .int .i64 nx, .int .i64 t, .int .i64 q, .slice A6 m6.length c6] ∧ True) ?_ (fun wq7 hT => ?_)
        · exact ⟨by (first | with_reducible exact hst | with_reducible exact hHeld | with_reducible exact hHeld.below hb5 | with_reducible exact hHeld.alloc _ | with_reducible exact hHeld.apart (Nat.lt_succ_self _) hb6 | with_reducible exact hHeld.set0 _ _), by (first | with_reducible assumption | with_reducible exact hCd | with_reducible exact f0.below hb5 | with_reducible exact f0.alloc _ | with_reducible exact World.ownsRow.alloc f1 _ | with_reducible exact Own.set1 f0 (by omega) _ | with_reducible exact Own.set1 f1 (by omega) _ | exact litP _ p | exact (hb6.block w.heap.size (by omega)).trans f0 | exact ho6 | exact SlP.below f1 hb5 | exact Own.more ho5 (Blk.lt hHeld.res) | exact f0.set_ 4 _), by (first | with_reducible assumption | with_reducible exact hCd | with_reducible exact f0.below hb5 | with_reducible exact f0.alloc _ | with_reducible exact World.ownsRow.alloc f1 _ | with_reducible exact Own.set1 f0 (by omega) _ | with_reducible exact Own.set1 f1 (by omega) _ | exact litP _ p | exact (hb6.block w.heap.size (by omega)).trans f0 | exact ho6 | exact SlP.below f1 hb5 | exact Own.more ho5 (Blk.lt hHeld.res) | exact f0.set_ 4 _), trivial⟩
        (try clear f0 f1 f2 f3 f4 f5 f6 f7 f8 f9 f10 f11)
        obtain ⟨hHeld, f0, f1, -⟩ := hT
        refine wpAnyH_done (by kernel_rfl) ?_ _
        (go_wp2_with fail; go_meet; exact ⟨A6, c6, m6, (show _ = _ from by rw [hm6.out, hm5.out]), hHeld, f1, f0⟩)
      refine AllReadyH.cons (o := ⟨some 17, _, _, _, _, _⟩) rfl (fun K hK => ?_) ?_
      · (first | (refine step_loadP (by kernel_rfl) _ rfl ⟨w.heap.size + 1, 0, none⟩ p rfl hHeld.pt.cells ?_) | (refine step_lit1 (by kernel_rfl) _ rfl p rfl ?_) | (obtain ⟨s0, s1, s2, s3, s4, sf0, sf1, sf2, sf3, sf4⟩ := f0.five; go_simp))
        refine hK.out _ _ ?_ (fun _ => ?_)
        · ((try dsimp only); (first | with_reducible exact hst | with_reducible exact hHeld | with_reducible exact hHeld.below hb5 | with_reducible exact hHeld.alloc _ | with_reducible exact hHeld.apart (Nat.lt_succ_self _) hb6 | with_reducible exact hHeld.set0 _ _))
        clear hK K
        (try simp only [Act.put, List.setIfInBounds_toArray, List.set_cons_zero, List.set_cons_succ])
        refine gen0 (T := fun W => ((fun W => StC w W f nx t q A ps.length c p)) W ∧ Blk W w.heap.size 87 #[.int .i64 f, .int .i64 nx, .int .i64 t, .int .i64 q, .slice A ps.length c] ∧ True) ?_ (fun wq8 hT => ?_)
        · exact ⟨by (first | with_reducible exact hst | with_reducible exact hHeld | with_reducible exact hHeld.below hb5 | with_reducible exact hHeld.alloc _ | with_reducible exact hHeld.apart (Nat.lt_succ_self _) hb6 | with_reducible exact hHeld.set0 _ _), by (first | with_reducible assumption | with_reducible exact hCd | with_reducible exact f0.below hb5 | with_reducible exact f0.alloc _ | with_reducible exact World.ownsRow.alloc f1 _ | with_reducible exact Own.set1 f0 (by omega) _ | with_reducible exact Own.set1 f1 (by omega) _ | exact litP _ p | exact (hb6.block w.heap.size (by omega)).trans f0 | exact ho6 | exact SlP.below f1 hb5 | exact Own.more ho5 (Blk.lt hHeld.res) | exact f0.set_ 4 _), trivial⟩
        (try clear f0 f1 f2 f3 f4 f5 f6 f7 f8 f9 f10 f11)
        obtain ⟨hHeld, f0, -⟩ := hT
        refine wpAnyH_ready (rs := [2, 4]) (by kernel_rfl) (by simp) ?_
        refine AllReadyH.cons (o := ⟨some 16, _, _, _, _, _⟩) rfl (fun K hK => ?_) ?_
        · go_simp
          (refine (PtClone_any ps _ (h.below hHeld.bel) (by omega)).mono ?_; rintro e w5 ⟨A5, c5, m5, rfl, hm5, ho5, hb5⟩)
          go_wp2_with fail
          refine hK.out _ _ ?_ (fun _ => ?_)
          · ((try dsimp only); (first | with_reducible exact hst | with_reducible exact hHeld | with_reducible exact hHeld.below hb5 | with_reducible exact hHeld.alloc _ | with_reducible exact hHeld.apart (Nat.lt_succ_self _) hb6 | with_reducible exact hHeld.set0 _ _))
          clear hK K
          (try simp only [Act.put, List.setIfInBounds_toArray, List.set_cons_zero, List.set_cons_succ])
          refine gen0 (T := fun W => ((fun W => StC w W f nx t q A ps.length c p)) W ∧ Blk W w.heap.size 87 #[.int .i64 f, .int .i64 nx, .int .i64 t, .int .i64 q, .slice A ps.length c] ∧ OwnP W (w.heap.size + 1 + 1 + 1) A5 c5 m5 ∧ True) ?_ (fun wq9 hT => ?_)
          · exact ⟨by (first | with_reducible exact hst | with_reducible exact hHeld | with_reducible exact hHeld.below hb5 | with_reducible exact hHeld.alloc _ | with_reducible exact hHeld.apart (Nat.lt_succ_self _) hb6 | with_reducible exact hHeld.set0 _ _), by (first | with_reducible assumption | with_reducible exact hCd | with_reducible exact f0.below hb5 | with_reducible exact f0.alloc _ | with_reducible exact World.ownsRow.alloc f1 _ | with_reducible exact Own.set1 f0 (by omega) _ | with_reducible exact Own.set1 f1 (by omega) _ | exact litP _ p | exact (hb6.block w.heap.size (by omega)).trans f0 | exact ho6 | exact SlP.below f1 hb5 | exact Own.more ho5 (Blk.lt hHeld.res) | exact f0.set_ 4 _), by (first | with_reducible assumption | with_reducible exact hCd | with_reducible exact f0.below hb5 | with_reducible exact f0.alloc _ | with_reducible exact World.ownsRow.alloc f1 _ | with_reducible exact Own.set1 f0 (by omega) _ | with_reducible exact Own.set1 f1 (by omega) _ | exact litP _ p | exact (hb6.block w.heap.size (by omega)).trans f0 | exact ho6 | exact SlP.below f1 hb5 | exact Own.more ho5 (Blk.lt hHeld.res) | exact f0.set_ 4 _), trivial⟩
          (try clear f0 f1 f2 f3 f4 f5 f6 f7 f8 f9 f10 f11)
          obtain ⟨hHeld, f0, f1, -⟩ := hT
          refine wpAnyH_ready (rs := [4]) (by kernel_rfl) (by simp) ?_
          refine AllReadyH.cons (o := ⟨some 18, _, _, _, _, _⟩) rfl (fun K hK => ?_) AllReadyH.nil
          (first | (refine step_loadP (by kernel_rfl) _ rfl ⟨w.heap.size + 1, 0, none⟩ p rfl hHeld.pt.cells ?_) | (refine step_lit1 (by kernel_rfl) _ rfl p rfl ?_) | (obtain ⟨s0, s1, s2, s3, s4, sf0, sf1, sf2, sf3, sf4⟩ := f0.five; go_simp))
          refine hK.out _ _ ?_ (fun _ => ?_)
          · ((try dsimp only); (first | with_reducible exact hst | with_reducible exact hHeld | with_reducible exact hHeld.below hb5 | with_reducible exact hHeld.alloc _ | with_reducible exact hHeld.apart (Nat.lt_succ_self _) hb6 | with_reducible exact hHeld.set0 _ _))
          clear hK K
          (try simp only [Act.put, List.setIfInBounds_toArray, List.set_cons_zero, List.set_cons_succ])
          refine gen0 (T := fun W => ((fun W => StC w W f nx t q A ps.length c p)) W ∧ Blk W w.heap.size 87 #[.int .i64 f, .int .i64 nx, .int .i64 t, .int .i64 q, .slice A ps.length c] ∧ OwnP W (w.heap.size + 1 + 1 + 1) A5 c5 m5 ∧ SlP W (some ⟨wq9.heap.size, 0, none⟩) 1 [p] ∧ True) ?_ (fun wq10 hT => ?_)
          · exact ⟨by (first | with_reducible exact hst | with_reducible exact hHeld | with_reducible exact hHeld.below hb5 | with_reducible exact hHeld.alloc _ | with_reducible exact hHeld.apart (Nat.lt_succ_self _) hb6 | with_reducible exact hHeld.set0 _ _), by (first | with_reducible assumption | with_reducible exact hCd | with_reducible exact f0.below hb5 | with_reducible exact f0.alloc _ | with_reducible exact World.ownsRow.alloc f1 _ | with_reducible exact Own.set1 f0 (by omega) _ | with_reducible exact Own.set1 f1 (by omega) _ | exact litP _ p | exact (hb6.block w.heap.size (by omega)).trans f0 | exact ho6 | exact SlP.below f1 hb5 | exact Own.more ho5 (Blk.lt hHeld.res) | exact f0.set_ 4 _), by (first | with_reducible assumption | with_reducible exact hCd | with_reducible exact f0.below hb5 | with_reducible exact f0.alloc _ | with_reducible exact World.ownsRow.alloc f1 _ | with_reducible exact Own.set1 f0 (by omega) _ | with_reducible exact Own.set1 f1 (by omega) _ | exact litP _ p | exact (hb6.block w.heap.size (by omega)).trans f0 | exact ho6 | exact SlP.below f1 hb5 | exact Own.more ho5 (Blk.lt hHeld.res) | exact f0.set_ 4 _), by (first | with_reducible assumption | with_reducible exact hCd | with_reducible exact f0.below hb5 | with_reducible exact f0.alloc _ | with_reducible exact World.ownsRow.alloc f1 _ | with_reducible exact Own.set1 f0 (by omega) _ | with_reducible exact Own.set1 f1 (by omega) _ | exact litP _ p | exact (hb6.block w.heap.size (by omega)).trans f0 | exact ho6 | exact SlP.below f1 hb5 | exact Own.more ho5 (Blk.lt hHeld.res) | exact f0.set_ 4 _), trivial⟩
          (try clear f0 f1 f2 f3 f4 f5 f6 f7 f8 f9 f10 f11)
          obtain ⟨hHeld, f0, f1, f2, -⟩ := hT
          refine wpAnyH_ready (rs := [5]) (by kernel_rfl) (by simp) ?_
          refine AllReadyH.cons (o := ⟨some 19, _, _, _, _, _⟩) rfl (fun K hK => ?_) AllReadyH.nil
          (refine step_parts (by kernel_rfl) (.tmp 16) (.tmp 18) rfl (w.heap.size + 1 + 1 + 1) A5 c5 m5 rfl f1 (some ⟨_, 0, none⟩) 1 1 [p] rfl rfl f2 (by rw [hm5.out]; simp; omega) (Blk.lt hHeld.res) ?_; intro A6 c6 m6 w6 hm6 ho6 hg6 hb6)
          refine hK.out _ _ ?_ (fun _ => ?_)
          · ((try dsimp only); (first | with_reducible exact hst | with_reducible exact hHeld | with_reducible exact hHeld.below hb5 | with_reducible exact hHeld.alloc _ | with_reducible exact hHeld.apart (Nat.lt_succ_self _) hb6 | with_reducible exact hHeld.set0 _ _))
          clear hK K
          (try simp only [Act.put, List.setIfInBounds_toArray, List.set_cons_zero, List.set_cons_succ])
          refine gen0 (T := fun W => ((fun W => StC w W f nx t q A ps.length c p)) W ∧ Blk W w.heap.size 87 #[.int .i64 f, .int .i64 nx, .int .i64 t, .int .i64 q, .slice A ps.length c] ∧ OwnP W (w.heap.size + 1 + 1 + 1) A6 c6 m6 ∧ True) ?_ (fun wq11 hT => ?_)
          · exact ⟨by (first | with_reducible exact hst | with_reducible exact hHeld | with_reducible exact hHeld.below hb5 | with_reducible exact hHeld.alloc _ | with_reducible exact hHeld.apart (Nat.lt_succ_self _) hb6 | with_reducible exact hHeld.set0 _ _), by (first | with_reducible assumption | with_reducible exact hCd | with_reducible exact f0.below hb5 | with_reducible exact f0.alloc _ | with_reducible exact World.ownsRow.alloc f1 _ | with_reducible exact Own.set1 f0 (by omega) _ | with_reducible exact Own.set1 f1 (by omega) _ | exact litP _ p | exact (hb6.block w.heap.size (by omega)).trans f0 | exact ho6 | exact SlP.below f1 hb5 | exact Own.more ho5 (Blk.lt hHeld.res) | exact f0.set_ 4 _), by (first | with_reducible assumption | with_reducible exact hCd | with_reducible exact f0.below hb5 | with_reducible exact f0.alloc _ | with_reducible exact World.ownsRow.alloc f1 _ | with_reducible exact Own.set1 f0 (by omega) _ | with_reducible exact Own.set1 f1 (by omega) _ | exact litP _ p | exact (hb6.block w.heap.size (by omega)).trans f0 | exact ho6 | exact SlP.below f1 hb5 | exact Own.more ho5 (Blk.lt hHeld.res) | exact f0.set_ 4 _), trivial⟩
          (try clear f0 f1 f2 f3 f4 f5 f6 f7 f8 f9 f10 f11)
          obtain ⟨hHeld, f0, f1, -⟩ := hT
          refine wpAnyH_take (i := 6) (oi := ⟨some 20, _, _, _, _, _⟩) (v := ?_) rfl (by kernel_rfl) (by kernel_rfl) (by kernel_rfl) (fun _ _ _ h => h) (Or.inl ⟨by kernel_rfl, ?_⟩) (by assumption) ?_
          rotate_left
          · (intro wS hSw; (try dsimp only at hSw); clear hSw; go_simp; (try with_reducible rfl))
          (try simp only [Act.put, List.setIfInBounds_toArray, List.set_cons_zero, List.set_cons_succ])
          refine wpAnyH_ready (rs := [7]) (by kernel_rfl) (by simp) ?_
          refine AllReadyH.cons (o := ⟨none, _, _, _, _, _⟩) rfl (fun K hK => ?_) AllReadyH.nil
          (first | (refine step_loadP (by kernel_rfl) _ rfl ⟨w.heap.size + 1, 0, none⟩ p rfl hHeld.pt.cells ?_) | (refine step_lit1 (by kernel_rfl) _ rfl p rfl ?_) | (obtain ⟨s0, s1, s2, s3, s4, sf0, sf1, sf2, sf3, sf4⟩ := f0.five; go_simp))
          refine hK.out _ _ ?_ (fun _ => ?_)
          · ((try dsimp only); (first | with_reducible exact hst | with_reducible exact hHeld | with_reducible exact hHeld.below hb5 | with_reducible exact hHeld.alloc _ | with_reducible exact hHeld.apart (Nat.lt_succ_self _) hb6 | with_reducible exact hHeld.set0 _ _))
          clear hK K
          (try simp only [Act.put, List.setIfInBounds_toArray, List.set_cons_zero, List.set_cons_succ])
          refine gen0 (T := fun W => ((fun W => StC w W f nx t q A ps.length c p)) W ∧ OwnP W (w.heap.size + 1 + 1 + 1) A6 c6 m6 ∧ Blk W w.heap.size 87 #[.int .i64 f, .int .i64 nx, .int .i64 t, .int .i64 q, .slice A6 m6.length c6] ∧ True) ?_ (fun wq12 hT => ?_)
          · exact ⟨by (first | with_reducible exact hst | with_reducible exact hHeld | with_reducible exact hHeld.below hb5 | with_reducible exact hHeld.alloc _ | with_reducible exact hHeld.apart (Nat.lt_succ_self _) hb6 | with_reducible exact hHeld.set0 _ _), by (first | with_reducible assumption | with_reducible exact hCd | with_reducible exact f0.below hb5 | with_reducible exact f0.alloc _ | with_reducible exact World.ownsRow.alloc f1 _ | with_reducible exact Own.set1 f0 (by omega) _ | with_reducible exact Own.set1 f1 (by omega) _ | exact litP _ p | exact (hb6.block w.heap.size (by omega)).trans f0 | exact ho6 | exact SlP.below f1 hb5 | exact Own.more ho5 (Blk.lt hHeld.res) | exact f0.set_ 4 _), by (first | with_reducible assumption | with_reducible exact hCd | with_reducible exact f0.below hb5 | with_reducible exact f0.alloc _ | with_reducible exact World.ownsRow.alloc f1 _ | with_reducible exact Own.set1 f0 (by omega) _ | with_reducible exact Own.set1 f1 (by omega) _ | exact litP _ p | exact (hb6.block w.heap.size (by omega)).trans f0 | exact ho6 | exact SlP.below f1 hb5 | exact Own.more ho5 (Blk.lt hHeld.res) | exact f0.set_ 4 _), trivial⟩
          (try clear f0 f1 f2 f3 f4 f5 f6 f7 f8 f9 f10 f11)
          obtain ⟨hHeld, f0, f1, -⟩ := hT
          refine wpAnyH_done (by kernel_rfl) ?_ _
          (go_wp2_with fail; go_meet; exact ⟨A6, c6, m6, (show _ = _ from by rw [hm6.out, hm5.out]), hHeld, f1, f0⟩)
        refine AllReadyH.cons (o := ⟨some 18, _, _, _, _, _⟩) rfl (fun K hK => ?_) ?_
        · (first | (refine step_loadP (by kernel_rfl) _ rfl ⟨w.heap.size + 1, 0, none⟩ p rfl hHeld.pt.cells ?_) | (refine step_lit1 (by kernel_rfl) _ rfl p rfl ?_) | (obtain ⟨s0, s1, s2, s3, s4, sf0, sf1, sf2, sf3, sf4⟩ := f0.five; go_simp))
          refine hK.out _ _ ?_ (fun _ => ?_)
          · ((try dsimp only); (first | with_reducible exact hst | with_reducible exact hHeld | with_reducible exact hHeld.below hb5 | with_reducible exact hHeld.alloc _ | with_reducible exact hHeld.apart (Nat.lt_succ_self _) hb6 | with_reducible exact hHeld.set0 _ _))
          clear hK K
          (try simp only [Act.put, List.setIfInBounds_toArray, List.set_cons_zero, List.set_cons_succ])
          refine gen0 (T := fun W => ((fun W => StC w W f nx t q A ps.length c p)) W ∧ Blk W w.heap.size 87 #[.int .i64 f, .int .i64 nx, .int .i64 t, .int .i64 q, .slice A ps.length c] ∧ SlP W (some ⟨wq8.heap.size, 0, none⟩) 1 [p] ∧ True) ?_ (fun wq13 hT => ?_)
          · exact ⟨by (first | with_reducible exact hst | with_reducible exact hHeld | with_reducible exact hHeld.below hb5 | with_reducible exact hHeld.alloc _ | with_reducible exact hHeld.apart (Nat.lt_succ_self _) hb6 | with_reducible exact hHeld.set0 _ _), by (first | with_reducible assumption | with_reducible exact hCd | with_reducible exact f0.below hb5 | with_reducible exact f0.alloc _ | with_reducible exact World.ownsRow.alloc f1 _ | with_reducible exact Own.set1 f0 (by omega) _ | with_reducible exact Own.set1 f1 (by omega) _ | exact litP _ p | exact (hb6.block w.heap.size (by omega)).trans f0 | exact ho6 | exact SlP.below f1 hb5 | exact Own.more ho5 (Blk.lt hHeld.res) | exact f0.set_ 4 _), by (first | with_reducible assumption | with_reducible exact hCd | with_reducible exact f0.below hb5 | with_reducible exact f0.alloc _ | with_reducible exact World.ownsRow.alloc f1 _ | with_reducible exact Own.set1 f0 (by omega) _ | with_reducible exact Own.set1 f1 (by omega) _ | exact litP _ p | exact (hb6.block w.heap.size (by omega)).trans f0 | exact ho6 | exact SlP.below f1 hb5 | exact Own.more ho5 (Blk.lt hHeld.res) | exact f0.set_ 4 _), trivial⟩
          (try clear f0 f1 f2 f3 f4 f5 f6 f7 f8 f9 f10 f11)
          obtain ⟨hHeld, f0, f1, -⟩ := hT
          refine wpAnyH_ready (rs := [2]) (by kernel_rfl) (by simp) ?_
          refine AllReadyH.cons (o := ⟨some 16, _, _, _, _, _⟩) rfl (fun K hK => ?_) AllReadyH.nil
          go_simp
          (refine (PtClone_any ps _ (h.below hHeld.bel) (by omega)).mono ?_; rintro e w5 ⟨A5, c5, m5, rfl, hm5, ho5, hb5⟩)
          go_wp2_with fail
          refine hK.out _ _ ?_ (fun _ => ?_)
          · ((try dsimp only); (first | with_reducible exact hst | with_reducible exact hHeld | with_reducible exact hHeld.below hb5 | with_reducible exact hHeld.alloc _ | with_reducible exact hHeld.apart (Nat.lt_succ_self _) hb6 | with_reducible exact hHeld.set0 _ _))
          clear hK K
          (try simp only [Act.put, List.setIfInBounds_toArray, List.set_cons_zero, List.set_cons_succ])
          refine gen0 (T := fun W => ((fun W => StC w W f nx t q A ps.length c p)) W ∧ Blk W w.heap.size 87 #[.int .i64 f, .int .i64 nx, .int .i64 t, .int .i64 q, .slice A ps.length c] ∧ OwnP W (w.heap.size + 1 + 1 + 1) A5 c5 m5 ∧ SlP W (some ⟨wq8.heap.size, 0, none⟩) 1 [p] ∧ True) ?_ (fun wq14 hT => ?_)
          · exact ⟨by (first | with_reducible exact hst | with_reducible exact hHeld | with_reducible exact hHeld.below hb5 | with_reducible exact hHeld.alloc _ | with_reducible exact hHeld.apart (Nat.lt_succ_self _) hb6 | with_reducible exact hHeld.set0 _ _), by (first | with_reducible assumption | with_reducible exact hCd | with_reducible exact f0.below hb5 | with_reducible exact f0.alloc _ | with_reducible exact World.ownsRow.alloc f1 _ | with_reducible exact Own.set1 f0 (by omega) _ | with_reducible exact Own.set1 f1 (by omega) _ | exact litP _ p | exact (hb6.block w.heap.size (by omega)).trans f0 | exact ho6 | exact SlP.below f1 hb5 | exact Own.more ho5 (Blk.lt hHeld.res) | exact f0.set_ 4 _), by (first | with_reducible assumption | with_reducible exact hCd | with_reducible exact f0.below hb5 | with_reducible exact f0.alloc _ | with_reducible exact World.ownsRow.alloc f1 _ | with_reducible exact Own.set1 f0 (by omega) _ | with_reducible exact Own.set1 f1 (by omega) _ | exact litP _ p | exact (hb6.block w.heap.size (by omega)).trans f0 | exact ho6 | exact SlP.below f1 hb5 | exact Own.more ho5 (Blk.lt hHeld.res) | exact f0.set_ 4 _), by (first | with_reducible assumption | with_reducible exact hCd | with_reducible exact f0.below hb5 | with_reducible exact f0.alloc _ | with_reducible exact World.ownsRow.alloc f1 _ | with_reducible exact Own.set1 f0 (by omega) _ | with_reducible exact Own.set1 f1 (by omega) _ | exact litP _ p | exact (hb6.block w.heap.size (by omega)).trans f0 | exact ho6 | exact SlP.below f1 hb5 | exact Own.more ho5 (Blk.lt hHeld.res) | exact f0.set_ 4 _), trivial⟩
          (try clear f0 f1 f2 f3 f4 f5 f6 f7 f8 f9 f10 f11)
          obtain ⟨hHeld, f0, f1, f2, -⟩ := hT
          refine wpAnyH_ready (rs := [5]) (by kernel_rfl) (by simp) ?_
          refine AllReadyH.cons (o := ⟨some 19, _, _, _, _, _⟩) rfl (fun K hK => ?_) AllReadyH.nil
          (refine step_parts (by kernel_rfl) (.tmp 16) (.tmp 18) rfl (w.heap.size + 1 + 1 + 1) A5 c5 m5 rfl f1 (some ⟨_, 0, none⟩) 1 1 [p] rfl rfl f2 (by rw [hm5.out]; simp; omega) (Blk.lt hHeld.res) ?_; intro A6 c6 m6 w6 hm6 ho6 hg6 hb6)
          refine hK.out _ _ ?_ (fun _ => ?_)
          · ((try dsimp only); (first | with_reducible exact hst | with_reducible exact hHeld | with_reducible exact hHeld.below hb5 | with_reducible exact hHeld.alloc _ | with_reducible exact hHeld.apart (Nat.lt_succ_self _) hb6 | with_reducible exact hHeld.set0 _ _))
          clear hK K
          (try simp only [Act.put, List.setIfInBounds_toArray, List.set_cons_zero, List.set_cons_succ])
          refine gen0 (T := fun W => ((fun W => StC w W f nx t q A ps.length c p)) W ∧ Blk W w.heap.size 87 #[.int .i64 f, .int .i64 nx, .int .i64 t, .int .i64 q, .slice A ps.length c] ∧ OwnP W (w.heap.size + 1 + 1 + 1) A6 c6 m6 ∧ True) ?_ (fun wq15 hT => ?_)
          · exact ⟨by (first | with_reducible exact hst | with_reducible exact hHeld | with_reducible exact hHeld.below hb5 | with_reducible exact hHeld.alloc _ | with_reducible exact hHeld.apart (Nat.lt_succ_self _) hb6 | with_reducible exact hHeld.set0 _ _), by (first | with_reducible assumption | with_reducible exact hCd | with_reducible exact f0.below hb5 | with_reducible exact f0.alloc _ | with_reducible exact World.ownsRow.alloc f1 _ | with_reducible exact Own.set1 f0 (by omega) _ | with_reducible exact Own.set1 f1 (by omega) _ | exact litP _ p | exact (hb6.block w.heap.size (by omega)).trans f0 | exact ho6 | exact SlP.below f1 hb5 | exact Own.more ho5 (Blk.lt hHeld.res) | exact f0.set_ 4 _), by (first | with_reducible assumption | with_reducible exact hCd | with_reducible exact f0.below hb5 | with_reducible exact f0.alloc _ | with_reducible exact World.ownsRow.alloc f1 _ | with_reducible exact Own.set1 f0 (by omega) _ | with_reducible exact Own.set1 f1 (by omega) _ | exact litP _ p | exact (hb6.block w.heap.size (by omega)).trans f0 | exact ho6 | exact SlP.below f1 hb5 | exact Own.more ho5 (Blk.lt hHeld.res) | exact f0.set_ 4 _), trivial⟩
          (try clear f0 f1 f2 f3 f4 f5 f6 f7 f8 f9 f10 f11)
          obtain ⟨hHeld, f0, f1, -⟩ := hT
          refine wpAnyH_take (i := 6) (oi := ⟨some 20, _, _, _, _, _⟩) (v := ?_) rfl (by kernel_rfl) (by kernel_rfl) (by kernel_rfl) (fun _ _ _ h => h) (Or.inl ⟨by kernel_rfl, ?_⟩) (by assumption) ?_
          rotate_left
          · (intro wS hSw; (try dsimp only at hSw); clear hSw; go_simp; (try with_reducible rfl))
          (try simp only [Act.put, List.setIfInBounds_toArray, List.set_cons_zero, List.set_cons_succ])
          refine wpAnyH_ready (rs := [7]) (by kernel_rfl) (by simp) ?_
          refine AllReadyH.cons (o := ⟨none, _, _, _, _, _⟩) rfl (fun K hK => ?_) AllReadyH.nil
          (first | (refine step_loadP (by kernel_rfl) _ rfl ⟨w.heap.size + 1, 0, none⟩ p rfl hHeld.pt.cells ?_) | (refine step_lit1 (by kernel_rfl) _ rfl p rfl ?_) | (obtain ⟨s0, s1, s2, s3, s4, sf0, sf1, sf2, sf3, sf4⟩ := f0.five; go_simp))
          refine hK.out _ _ ?_ (fun _ => ?_)
          · ((try dsimp only); (first | with_reducible exact hst | with_reducible exact hHeld | with_reducible exact hHeld.below hb5 | with_reducible exact hHeld.alloc _ | with_reducible exact hHeld.apart (Nat.lt_succ_self _) hb6 | with_reducible exact hHeld.set0 _ _))
          clear hK K
          (try simp only [Act.put, List.setIfInBounds_toArray, List.set_cons_zero, List.set_cons_succ])
          refine gen0 (T := fun W => ((fun W => StC w W f nx t q A ps.length c p)) W ∧ OwnP W (w.heap.size + 1 + 1 + 1) A6 c6 m6 ∧ Blk W w.heap.size 87 #[.int .i64 f, .int .i64 nx, .int .i64 t, .int .i64 q, .slice A6 m6.length c6] ∧ True) ?_ (fun wq16 hT => ?_)
          · exact ⟨by (first | with_reducible exact hst | with_reducible exact hHeld | with_reducible exact hHeld.below hb5 | with_reducible exact hHeld.alloc _ | with_reducible exact hHeld.apart (Nat.lt_succ_self _) hb6 | with_reducible exact hHeld.set0 _ _), by (first | with_reducible assumption | with_reducible exact hCd | with_reducible exact f0.below hb5 | with_reducible exact f0.alloc _ | with_reducible exact World.ownsRow.alloc f1 _ | with_reducible exact Own.set1 f0 (by omega) _ | with_reducible exact Own.set1 f1 (by omega) _ | exact litP _ p | exact (hb6.block w.heap.size (by omega)).trans f0 | exact ho6 | exact SlP.below f1 hb5 | exact Own.more ho5 (Blk.lt hHeld.res) | exact f0.set_ 4 _), by (first | with_reducible assumption | with_reducible exact hCd | with_reducible exact f0.below hb5 | with_reducible exact f0.alloc _ | with_reducible exact World.ownsRow.alloc f1 _ | with_reducible exact Own.set1 f0 (by omega) _ | with_reducible exact Own.set1 f1 (by omega) _ | exact litP _ p | exact (hb6.block w.heap.size (by omega)).trans f0 | exact ho6 | exact SlP.below f1 hb5 | exact Own.more ho5 (Blk.lt hHeld.res) | exact f0.set_ 4 _), trivial⟩
          (try clear f0 f1 f2 f3 f4 f5 f6 f7 f8 f9 f10 f11)
          obtain ⟨hHeld, f0, f1, -⟩ := hT
          refine wpAnyH_done (by kernel_rfl) ?_ _
          (go_wp2_with fail; go_meet; exact ⟨A6, c6, m6, (show _ = _ from by rw [hm6.out, hm5.out]), hHeld, f1, f0⟩)
        exact AllReadyH.nil
      exact AllReadyH.nil
    refine AllReadyH.cons (o := ⟨some 17, _, _, _, _, _⟩) rfl (fun K hK => ?_) ?_
    · (first | (refine step_loadP (by kernel_rfl) _ rfl ⟨w.heap.size + 1, 0, none⟩ p rfl hHeld.pt.cells ?_) | (refine step_lit1 (by kernel_rfl) _ rfl p rfl ?_) | (obtain ⟨s0, s1, s2, s3, s4, sf0, sf1, sf2, sf3, sf4⟩ := f0.five; go_simp))
      refine hK.out _ _ ?_ (fun _ => ?_)
      · ((try dsimp only); (first | with_reducible exact hst | with_reducible exact hHeld | with_reducible exact hHeld.below hb5 | with_reducible exact hHeld.alloc _ | with_reducible exact hHeld.apart (Nat.lt_succ_self _) hb6 | with_reducible exact hHeld.set0 _ _))
      clear hK K
      (try simp only [Act.put, List.setIfInBounds_toArray, List.set_cons_zero, List.set_cons_succ])
      refine gen0 (T := fun W => ((fun W => StC w W f nx t q A ps.length c p)) W ∧ Blk W w.heap.size 87 #[.int .i64 f, .int .i64 nx, .int .i64 t, .int .i64 q, .slice A ps.length c] ∧ True) ?_ (fun wq17 hT => ?_)
      · exact ⟨by (first | with_reducible exact hst | with_reducible exact hHeld | with_reducible exact hHeld.below hb5 | with_reducible exact hHeld.alloc _ | with_reducible exact hHeld.apart (Nat.lt_succ_self _) hb6 | with_reducible exact hHeld.set0 _ _), by (first | with_reducible assumption | with_reducible exact hCd | with_reducible exact f0.below hb5 | with_reducible exact f0.alloc _ | with_reducible exact World.ownsRow.alloc f1 _ | with_reducible exact Own.set1 f0 (by omega) _ | with_reducible exact Own.set1 f1 (by omega) _ | exact litP _ p | exact (hb6.block w.heap.size (by omega)).trans f0 | exact ho6 | exact SlP.below f1 hb5 | exact Own.more ho5 (Blk.lt hHeld.res) | exact f0.set_ 4 _), trivial⟩
      (try clear f0 f1 f2 f3 f4 f5 f6 f7 f8 f9 f10 f11)
      obtain ⟨hHeld, f0, -⟩ := hT
      refine wpAnyH_ready (rs := [1, 4]) (by kernel_rfl) (by simp) ?_
      refine AllReadyH.cons (o := ⟨some 15, _, _, _, _, _⟩) rfl (fun K hK => ?_) ?_
      · (first | (refine step_loadP (by kernel_rfl) _ rfl ⟨w.heap.size + 1, 0, none⟩ p rfl hHeld.pt.cells ?_) | (refine step_lit1 (by kernel_rfl) _ rfl p rfl ?_) | (obtain ⟨s0, s1, s2, s3, s4, sf0, sf1, sf2, sf3, sf4⟩ := f0.five; go_simp))
        refine hK.out _ _ ?_ (fun _ => ?_)
        · ((try dsimp only); (first | with_reducible exact hst | with_reducible exact hHeld | with_reducible exact hHeld.below hb5 | with_reducible exact hHeld.alloc _ | with_reducible exact hHeld.apart (Nat.lt_succ_self _) hb6 | with_reducible exact hHeld.set0 _ _))
        clear hK K
        (try simp only [Act.put, List.setIfInBounds_toArray, List.set_cons_zero, List.set_cons_succ])
        refine gen0 (T := fun W => ((fun W => StC w W f nx t q A ps.length c p)) W ∧ Blk W w.heap.size 87 #[.int .i64 f, .int .i64 nx, .int .i64 t, .int .i64 q, .slice A ps.length c] ∧ True) ?_ (fun wq18 hT => ?_)
        · exact ⟨by (first | with_reducible exact hst | with_reducible exact hHeld | with_reducible exact hHeld.below hb5 | with_reducible exact hHeld.alloc _ | with_reducible exact hHeld.apart (Nat.lt_succ_self _) hb6 | with_reducible exact hHeld.set0 _ _), by (first | with_reducible assumption | with_reducible exact hCd | with_reducible exact f0.below hb5 | with_reducible exact f0.alloc _ | with_reducible exact World.ownsRow.alloc f1 _ | with_reducible exact Own.set1 f0 (by omega) _ | with_reducible exact Own.set1 f1 (by omega) _ | exact litP _ p | exact (hb6.block w.heap.size (by omega)).trans f0 | exact ho6 | exact SlP.below f1 hb5 | exact Own.more ho5 (Blk.lt hHeld.res) | exact f0.set_ 4 _), trivial⟩
        (try clear f0 f1 f2 f3 f4 f5 f6 f7 f8 f9 f10 f11)
        obtain ⟨hHeld, f0, -⟩ := hT
        refine wpAnyH_ready (rs := [2, 4]) (by kernel_rfl) (by simp) ?_
        refine AllReadyH.cons (o := ⟨some 16, _, _, _, _, _⟩) rfl (fun K hK => ?_) ?_
        · go_simp
          (refine (PtClone_any ps _ (h.below hHeld.bel) (by omega)).mono ?_; rintro e w5 ⟨A5, c5, m5, rfl, hm5, ho5, hb5⟩)
          go_wp2_with fail
          refine hK.out _ _ ?_ (fun _ => ?_)
          · ((try dsimp only); (first | with_reducible exact hst | with_reducible exact hHeld | with_reducible exact hHeld.below hb5 | with_reducible exact hHeld.alloc _ | with_reducible exact hHeld.apart (Nat.lt_succ_self _) hb6 | with_reducible exact hHeld.set0 _ _))
          clear hK K
          (try simp only [Act.put, List.setIfInBounds_toArray, List.set_cons_zero, List.set_cons_succ])
          refine gen0 (T := fun W => ((fun W => StC w W f nx t q A ps.length c p)) W ∧ Blk W w.heap.size 87 #[.int .i64 f, .int .i64 nx, .int .i64 t, .int .i64 q, .slice A ps.length c] ∧ OwnP W (w.heap.size + 1 + 1 + 1) A5 c5 m5 ∧ True) ?_ (fun wq19 hT => ?_)
          · exact ⟨by (first | with_reducible exact hst | with_reducible exact hHeld | with_reducible exact hHeld.below hb5 | with_reducible exact hHeld.alloc _ | with_reducible exact hHeld.apart (Nat.lt_succ_self _) hb6 | with_reducible exact hHeld.set0 _ _), by (first | with_reducible assumption | with_reducible exact hCd | with_reducible exact f0.below hb5 | with_reducible exact f0.alloc _ | with_reducible exact World.ownsRow.alloc f1 _ | with_reducible exact Own.set1 f0 (by omega) _ | with_reducible exact Own.set1 f1 (by omega) _ | exact litP _ p | exact (hb6.block w.heap.size (by omega)).trans f0 | exact ho6 | exact SlP.below f1 hb5 | exact Own.more ho5 (Blk.lt hHeld.res) | exact f0.set_ 4 _), by (first | with_reducible assumption | with_reducible exact hCd | with_reducible exact f0.below hb5 | with_reducible exact f0.alloc _ | with_reducible exact World.ownsRow.alloc f1 _ | with_reducible exact Own.set1 f0 (by omega) _ | with_reducible exact Own.set1 f1 (by omega) _ | exact litP _ p | exact (hb6.block w.heap.size (by omega)).trans f0 | exact ho6 | exact SlP.below f1 hb5 | exact Own.more ho5 (Blk.lt hHeld.res) | exact f0.set_ 4 _), trivial⟩
          (try clear f0 f1 f2 f3 f4 f5 f6 f7 f8 f9 f10 f11)
          obtain ⟨hHeld, f0, f1, -⟩ := hT
          refine wpAnyH_ready (rs := [4]) (by kernel_rfl) (by simp) ?_
          refine AllReadyH.cons (o := ⟨some 18, _, _, _, _, _⟩) rfl (fun K hK => ?_) AllReadyH.nil
          (first | (refine step_loadP (by kernel_rfl) _ rfl ⟨w.heap.size + 1, 0, none⟩ p rfl hHeld.pt.cells ?_) | (refine step_lit1 (by kernel_rfl) _ rfl p rfl ?_) | (obtain ⟨s0, s1, s2, s3, s4, sf0, sf1, sf2, sf3, sf4⟩ := f0.five; go_simp))
          refine hK.out _ _ ?_ (fun _ => ?_)
          · ((try dsimp only); (first | with_reducible exact hst | with_reducible exact hHeld | with_reducible exact hHeld.below hb5 | with_reducible exact hHeld.alloc _ | with_reducible exact hHeld.apart (Nat.lt_succ_self _) hb6 | with_reducible exact hHeld.set0 _ _))
          clear hK K
          (try simp only [Act.put, List.setIfInBounds_toArray, List.set_cons_zero, List.set_cons_succ])
          refine gen0 (T := fun W => ((fun W => StC w W f nx t q A ps.length c p)) W ∧ Blk W w.heap.size 87 #[.int .i64 f, .int .i64 nx, .int .i64 t, .int .i64 q, .slice A ps.length c] ∧ OwnP W (w.heap.size + 1 + 1 + 1) A5 c5 m5 ∧ SlP W (some ⟨wq19.heap.size, 0, none⟩) 1 [p] ∧ True) ?_ (fun wq20 hT => ?_)
          · exact ⟨by (first | with_reducible exact hst | with_reducible exact hHeld | with_reducible exact hHeld.below hb5 | with_reducible exact hHeld.alloc _ | with_reducible exact hHeld.apart (Nat.lt_succ_self _) hb6 | with_reducible exact hHeld.set0 _ _), by (first | with_reducible assumption | with_reducible exact hCd | with_reducible exact f0.below hb5 | with_reducible exact f0.alloc _ | with_reducible exact World.ownsRow.alloc f1 _ | with_reducible exact Own.set1 f0 (by omega) _ | with_reducible exact Own.set1 f1 (by omega) _ | exact litP _ p | exact (hb6.block w.heap.size (by omega)).trans f0 | exact ho6 | exact SlP.below f1 hb5 | exact Own.more ho5 (Blk.lt hHeld.res) | exact f0.set_ 4 _), by (first | with_reducible assumption | with_reducible exact hCd | with_reducible exact f0.below hb5 | with_reducible exact f0.alloc _ | with_reducible exact World.ownsRow.alloc f1 _ | with_reducible exact Own.set1 f0 (by omega) _ | with_reducible exact Own.set1 f1 (by omega) _ | exact litP _ p | exact (hb6.block w.heap.size (by omega)).trans f0 | exact ho6 | exact SlP.below f1 hb5 | exact Own.more ho5 (Blk.lt hHeld.res) | exact f0.set_ 4 _), by (first | with_reducible assumption | with_reducible exact hCd | with_reducible exact f0.below hb5 | with_reducible exact f0.alloc _ | with_reducible exact World.ownsRow.alloc f1 _ | with_reducible exact Own.set1 f0 (by omega) _ | with_reducible exact Own.set1 f1 (by omega) _ | exact litP _ p | exact (hb6.block w.heap.size (by omega)).trans f0 | exact ho6 | exact SlP.below f1 hb5 | exact Own.more ho5 (Blk.lt hHeld.res) | exact f0.set_ 4 _), trivial⟩
          (try clear f0 f1 f2 f3 f4 f5 f6 f7 f8 f9 f10 f11)
          obtain ⟨hHeld, f0, f1, f2, -⟩ := hT
          refine wpAnyH_ready (rs := [5]) (by kernel_rfl) (by simp) ?_
          refine AllReadyH.cons (o := ⟨some 19, _, _, _, _, _⟩) rfl (fun K hK => ?_) AllReadyH.nil
          (refine step_parts (by kernel_rfl) (.tmp 16) (.tmp 18) rfl (w.heap.size + 1 + 1 + 1) A5 c5 m5 rfl f1 (some ⟨_, 0, none⟩) 1 1 [p] rfl rfl f2 (by rw [hm5.out]; simp; omega) (Blk.lt hHeld.res) ?_; intro A6 c6 m6 w6 hm6 ho6 hg6 hb6)
          refine hK.out _ _ ?_ (fun _ => ?_)
          · ((try dsimp only); (first | with_reducible exact hst | with_reducible exact hHeld | with_reducible exact hHeld.below hb5 | with_reducible exact hHeld.alloc _ | with_reducible exact hHeld.apart (Nat.lt_succ_self _) hb6 | with_reducible exact hHeld.set0 _ _))
          clear hK K
          (try simp only [Act.put, List.setIfInBounds_toArray, List.set_cons_zero, List.set_cons_succ])
          refine gen0 (T := fun W => ((fun W => StC w W f nx t q A ps.length c p)) W ∧ Blk W w.heap.size 87 #[.int .i64 f, .int .i64 nx, .int .i64 t, .int .i64 q, .slice A ps.length c] ∧ OwnP W (w.heap.size + 1 + 1 + 1) A6 c6 m6 ∧ True) ?_ (fun wq21 hT => ?_)
          · exact ⟨by (first | with_reducible exact hst | with_reducible exact hHeld | with_reducible exact hHeld.below hb5 | with_reducible exact hHeld.alloc _ | with_reducible exact hHeld.apart (Nat.lt_succ_self _) hb6 | with_reducible exact hHeld.set0 _ _), by (first | with_reducible assumption | with_reducible exact hCd | with_reducible exact f0.below hb5 | with_reducible exact f0.alloc _ | with_reducible exact World.ownsRow.alloc f1 _ | with_reducible exact Own.set1 f0 (by omega) _ | with_reducible exact Own.set1 f1 (by omega) _ | exact litP _ p | exact (hb6.block w.heap.size (by omega)).trans f0 | exact ho6 | exact SlP.below f1 hb5 | exact Own.more ho5 (Blk.lt hHeld.res) | exact f0.set_ 4 _), by (first | with_reducible assumption | with_reducible exact hCd | with_reducible exact f0.below hb5 | with_reducible exact f0.alloc _ | with_reducible exact World.ownsRow.alloc f1 _ | with_reducible exact Own.set1 f0 (by omega) _ | with_reducible exact Own.set1 f1 (by omega) _ | exact litP _ p | exact (hb6.block w.heap.size (by omega)).trans f0 | exact ho6 | exact SlP.below f1 hb5 | exact Own.more ho5 (Blk.lt hHeld.res) | exact f0.set_ 4 _), trivial⟩
          (try clear f0 f1 f2 f3 f4 f5 f6 f7 f8 f9 f10 f11)
          obtain ⟨hHeld, f0, f1, -⟩ := hT
          refine wpAnyH_take (i := 6) (oi := ⟨some 20, _, _, _, _, _⟩) (v := ?_) rfl (by kernel_rfl) (by kernel_rfl) (by kernel_rfl) (fun _ _ _ h => h) (Or.inl ⟨by kernel_rfl, ?_⟩) (by assumption) ?_
          rotate_left
          · (intro wS hSw; (try dsimp only at hSw); clear hSw; go_simp; (try with_reducible rfl))
          (try simp only [Act.put, List.setIfInBounds_toArray, List.set_cons_zero, List.set_cons_succ])
          refine wpAnyH_ready (rs := [7]) (by kernel_rfl) (by simp) ?_
          refine AllReadyH.cons (o := ⟨none, _, _, _, _, _⟩) rfl (fun K hK => ?_) AllReadyH.nil
          (first | (refine step_loadP (by kernel_rfl) _ rfl ⟨w.heap.size + 1, 0, none⟩ p rfl hHeld.pt.cells ?_) | (refine step_lit1 (by kernel_rfl) _ rfl p rfl ?_) | (obtain ⟨s0, s1, s2, s3, s4, sf0, sf1, sf2, sf3, sf4⟩ := f0.five; go_simp))
          refine hK.out _ _ ?_ (fun _ => ?_)
          · ((try dsimp only); (first | with_reducible exact hst | with_reducible exact hHeld | with_reducible exact hHeld.below hb5 | with_reducible exact hHeld.alloc _ | with_reducible exact hHeld.apart (Nat.lt_succ_self _) hb6 | with_reducible exact hHeld.set0 _ _))
          clear hK K
          (try simp only [Act.put, List.setIfInBounds_toArray, List.set_cons_zero, List.set_cons_succ])
          refine gen0 (T := fun W => ((fun W => StC w W f nx t q A ps.length c p)) W ∧ OwnP W (w.heap.size + 1 + 1 + 1) A6 c6 m6 ∧ Blk W w.heap.size 87 #[.int .i64 f, .int .i64 nx, .int .i64 t, .int .i64 q, .slice A6 m6.length c6] ∧ True) ?_ (fun wq22 hT => ?_)
          · exact ⟨by (first | with_reducible exact hst | with_reducible exact hHeld | with_reducible exact hHeld.below hb5 | with_reducible exact hHeld.alloc _ | with_reducible exact hHeld.apart (Nat.lt_succ_self _) hb6 | with_reducible exact hHeld.set0 _ _), by (first | with_reducible assumption | with_reducible exact hCd | with_reducible exact f0.below hb5 | with_reducible exact f0.alloc _ | with_reducible exact World.ownsRow.alloc f1 _ | with_reducible exact Own.set1 f0 (by omega) _ | with_reducible exact Own.set1 f1 (by omega) _ | exact litP _ p | exact (hb6.block w.heap.size (by omega)).trans f0 | exact ho6 | exact SlP.below f1 hb5 | exact Own.more ho5 (Blk.lt hHeld.res) | exact f0.set_ 4 _), by (first | with_reducible assumption | with_reducible exact hCd | with_reducible exact f0.below hb5 | with_reducible exact f0.alloc _ | with_reducible exact World.ownsRow.alloc f1 _ | with_reducible exact Own.set1 f0 (by omega) _ | with_reducible exact Own.set1 f1 (by omega) _ | exact litP _ p | exact (hb6.block w.heap.size (by omega)).trans f0 | exact ho6 | exact SlP.below f1 hb5 | exact Own.more ho5 (Blk.lt hHeld.res) | exact f0.set_ 4 _), trivial⟩
          (try clear f0 f1 f2 f3 f4 f5 f6 f7 f8 f9 f10 f11)
          obtain ⟨hHeld, f0, f1, -⟩ := hT
          refine wpAnyH_done (by kernel_rfl) ?_ _
          (go_wp2_with fail; go_meet; exact ⟨A6, c6, m6, (show _ = _ from by rw [hm6.out, hm5.out]), hHeld, f1, f0⟩)
        refine AllReadyH.cons (o := ⟨some 18, _, _, _, _, _⟩) rfl (fun K hK => ?_) ?_
        · (first | (refine step_loadP (by kernel_rfl) _ rfl ⟨w.heap.size + 1, 0, none⟩ p rfl hHeld.pt.cells ?_) | (refine step_lit1 (by kernel_rfl) _ rfl p rfl ?_) | (obtain ⟨s0, s1, s2, s3, s4, sf0, sf1, sf2, sf3, sf4⟩ := f0.five; go_simp))
          refine hK.out _ _ ?_ (fun _ => ?_)
          · ((try dsimp only); (first | with_reducible exact hst | with_reducible exact hHeld | with_reducible exact hHeld.below hb5 | with_reducible exact hHeld.alloc _ | with_reducible exact hHeld.apart (Nat.lt_succ_self _) hb6 | with_reducible exact hHeld.set0 _ _))
          clear hK K
          (try simp only [Act.put, List.setIfInBounds_toArray, List.set_cons_zero, List.set_cons_succ])
          refine gen0 (T := fun W => ((fun W => StC w W f nx t q A ps.length c p)) W ∧ Blk W w.heap.size 87 #[.int .i64 f, .int .i64 nx, .int .i64 t, .int .i64 q, .slice A ps.length c] ∧ SlP W (some ⟨wq18.heap.size, 0, none⟩) 1 [p] ∧ True) ?_ (fun wq23 hT => ?_)
          · exact ⟨by (first | with_reducible exact hst | with_reducible exact hHeld | with_reducible exact hHeld.below hb5 | with_reducible exact hHeld.alloc _ | with_reducible exact hHeld.apart (Nat.lt_succ_self _) hb6 | with_reducible exact hHeld.set0 _ _), by (first | with_reducible assumption | with_reducible exact hCd | with_reducible exact f0.below hb5 | with_reducible exact f0.alloc _ | with_reducible exact World.ownsRow.alloc f1 _ | with_reducible exact Own.set1 f0 (by omega) _ | with_reducible exact Own.set1 f1 (by omega) _ | exact litP _ p | exact (hb6.block w.heap.size (by omega)).trans f0 | exact ho6 | exact SlP.below f1 hb5 | exact Own.more ho5 (Blk.lt hHeld.res) | exact f0.set_ 4 _), by (first | with_reducible assumption | with_reducible exact hCd | with_reducible exact f0.below hb5 | with_reducible exact f0.alloc _ | with_reducible exact World.ownsRow.alloc f1 _ | with_reducible exact Own.set1 f0 (by omega) _ | with_reducible exact Own.set1 f1 (by omega) _ | exact litP _ p | exact (hb6.block w.heap.size (by omega)).trans f0 | exact ho6 | exact SlP.below f1 hb5 | exact Own.more ho5 (Blk.lt hHeld.res) | exact f0.set_ 4 _), trivial⟩
          (try clear f0 f1 f2 f3 f4 f5 f6 f7 f8 f9 f10 f11)
          obtain ⟨hHeld, f0, f1, -⟩ := hT
          refine wpAnyH_ready (rs := [2]) (by kernel_rfl) (by simp) ?_
          refine AllReadyH.cons (o := ⟨some 16, _, _, _, _, _⟩) rfl (fun K hK => ?_) AllReadyH.nil
          go_simp
          (refine (PtClone_any ps _ (h.below hHeld.bel) (by omega)).mono ?_; rintro e w5 ⟨A5, c5, m5, rfl, hm5, ho5, hb5⟩)
          go_wp2_with fail
          refine hK.out _ _ ?_ (fun _ => ?_)
          · ((try dsimp only); (first | with_reducible exact hst | with_reducible exact hHeld | with_reducible exact hHeld.below hb5 | with_reducible exact hHeld.alloc _ | with_reducible exact hHeld.apart (Nat.lt_succ_self _) hb6 | with_reducible exact hHeld.set0 _ _))
          clear hK K
          (try simp only [Act.put, List.setIfInBounds_toArray, List.set_cons_zero, List.set_cons_succ])
          refine gen0 (T := fun W => ((fun W => StC w W f nx t q A ps.length c p)) W ∧ Blk W w.heap.size 87 #[.int .i64 f, .int .i64 nx, .int .i64 t, .int .i64 q, .slice A ps.length c] ∧ OwnP W (w.heap.size + 1 + 1 + 1) A5 c5 m5 ∧ SlP W (some ⟨wq18.heap.size, 0, none⟩) 1 [p] ∧ True) ?_ (fun wq24 hT => ?_)
          · exact ⟨by (first | with_reducible exact hst | with_reducible exact hHeld | with_reducible exact hHeld.below hb5 | with_reducible exact hHeld.alloc _ | with_reducible exact hHeld.apart (Nat.lt_succ_self _) hb6 | with_reducible exact hHeld.set0 _ _), by (first | with_reducible assumption | with_reducible exact hCd | with_reducible exact f0.below hb5 | with_reducible exact f0.alloc _ | with_reducible exact World.ownsRow.alloc f1 _ | with_reducible exact Own.set1 f0 (by omega) _ | with_reducible exact Own.set1 f1 (by omega) _ | exact litP _ p | exact (hb6.block w.heap.size (by omega)).trans f0 | exact ho6 | exact SlP.below f1 hb5 | exact Own.more ho5 (Blk.lt hHeld.res) | exact f0.set_ 4 _), by (first | with_reducible assumption | with_reducible exact hCd | with_reducible exact f0.below hb5 | with_reducible exact f0.alloc _ | with_reducible exact World.ownsRow.alloc f1 _ | with_reducible exact Own.set1 f0 (by omega) _ | with_reducible exact Own.set1 f1 (by omega) _ | exact litP _ p | exact (hb6.block w.heap.size (by omega)).trans f0 | exact ho6 | exact SlP.below f1 hb5 | exact Own.more ho5 (Blk.lt hHeld.res) | exact f0.set_ 4 _), by (first | with_reducible assumption | with_reducible exact hCd | with_reducible exact f0.below hb5 | with_reducible exact f0.alloc _ | with_reducible exact World.ownsRow.alloc f1 _ | with_reducible exact Own.set1 f0 (by omega) _ | with_reducible exact Own.set1 f1 (by omega) _ | exact litP _ p | exact (hb6.block w.heap.size (by omega)).trans f0 | exact ho6 | exact SlP.below f1 hb5 | exact Own.more ho5 (Blk.lt hHeld.res) | exact f0.set_ 4 _), trivial⟩
          (try clear f0 f1 f2 f3 f4 f5 f6 f7 f8 f9 f10 f11)
          obtain ⟨hHeld, f0, f1, f2, -⟩ := hT
          refine wpAnyH_ready (rs := [5]) (by kernel_rfl) (by simp) ?_
          refine AllReadyH.cons (o := ⟨some 19, _, _, _, _, _⟩) rfl (fun K hK => ?_) AllReadyH.nil
          (refine step_parts (by kernel_rfl) (.tmp 16) (.tmp 18) rfl (w.heap.size + 1 + 1 + 1) A5 c5 m5 rfl f1 (some ⟨_, 0, none⟩) 1 1 [p] rfl rfl f2 (by rw [hm5.out]; simp; omega) (Blk.lt hHeld.res) ?_; intro A6 c6 m6 w6 hm6 ho6 hg6 hb6)
          refine hK.out _ _ ?_ (fun _ => ?_)
          · ((try dsimp only); (first | with_reducible exact hst | with_reducible exact hHeld | with_reducible exact hHeld.below hb5 | with_reducible exact hHeld.alloc _ | with_reducible exact hHeld.apart (Nat.lt_succ_self _) hb6 | with_reducible exact hHeld.set0 _ _))
          clear hK K
          (try simp only [Act.put, List.setIfInBounds_toArray, List.set_cons_zero, List.set_cons_succ])
          refine gen0 (T := fun W => ((fun W => StC w W f nx t q A ps.length c p)) W ∧ Blk W w.heap.size 87 #[.int .i64 f, .int .i64 nx, .int .i64 t, .int .i64 q, .slice A ps.length c] ∧ OwnP W (w.heap.size + 1 + 1 + 1) A6 c6 m6 ∧ True) ?_ (fun wq25 hT => ?_)
          · exact ⟨by (first | with_reducible exact hst | with_reducible exact hHeld | with_reducible exact hHeld.below hb5 | with_reducible exact hHeld.alloc _ | with_reducible exact hHeld.apart (Nat.lt_succ_self _) hb6 | with_reducible exact hHeld.set0 _ _), by (first | with_reducible assumption | with_reducible exact hCd | with_reducible exact f0.below hb5 | with_reducible exact f0.alloc _ | with_reducible exact World.ownsRow.alloc f1 _ | with_reducible exact Own.set1 f0 (by omega) _ | with_reducible exact Own.set1 f1 (by omega) _ | exact litP _ p | exact (hb6.block w.heap.size (by omega)).trans f0 | exact ho6 | exact SlP.below f1 hb5 | exact Own.more ho5 (Blk.lt hHeld.res) | exact f0.set_ 4 _), by (first | with_reducible assumption | with_reducible exact hCd | with_reducible exact f0.below hb5 | with_reducible exact f0.alloc _ | with_reducible exact World.ownsRow.alloc f1 _ | with_reducible exact Own.set1 f0 (by omega) _ | with_reducible exact Own.set1 f1 (by omega) _ | exact litP _ p | exact (hb6.block w.heap.size (by omega)).trans f0 | exact ho6 | exact SlP.below f1 hb5 | exact Own.more ho5 (Blk.lt hHeld.res) | exact f0.set_ 4 _), trivial⟩
          (try clear f0 f1 f2 f3 f4 f5 f6 f7 f8 f9 f10 f11)
          obtain ⟨hHeld, f0, f1, -⟩ := hT
          refine wpAnyH_take (i := 6) (oi := ⟨some 20, _, _, _, _, _⟩) (v := ?_) rfl (by kernel_rfl) (by kernel_rfl) (by kernel_rfl) (fun _ _ _ h => h) (Or.inl ⟨by kernel_rfl, ?_⟩) (by assumption) ?_
          rotate_left
          · (intro wS hSw; (try dsimp only at hSw); clear hSw; go_simp; (try with_reducible rfl))
          (try simp only [Act.put, List.setIfInBounds_toArray, List.set_cons_zero, List.set_cons_succ])
          refine wpAnyH_ready (rs := [7]) (by kernel_rfl) (by simp) ?_
          refine AllReadyH.cons (o := ⟨none, _, _, _, _, _⟩) rfl (fun K hK => ?_) AllReadyH.nil
          (first | (refine step_loadP (by kernel_rfl) _ rfl ⟨w.heap.size + 1, 0, none⟩ p rfl hHeld.pt.cells ?_) | (refine step_lit1 (by kernel_rfl) _ rfl p rfl ?_) | (obtain ⟨s0, s1, s2, s3, s4, sf0, sf1, sf2, sf3, sf4⟩ := f0.five; go_simp))
          refine hK.out _ _ ?_ (fun _ => ?_)
          · ((try dsimp only); (first | with_reducible exact hst | with_reducible exact hHeld | with_reducible exact hHeld.below hb5 | with_reducible exact hHeld.alloc _ | with_reducible exact hHeld.apart (Nat.lt_succ_self _) hb6 | with_reducible exact hHeld.set0 _ _))
          clear hK K
          (try simp only [Act.put, List.setIfInBounds_toArray, List.set_cons_zero, List.set_cons_succ])
          refine gen0 (T := fun W => ((fun W => StC w W f nx t q A ps.length c p)) W ∧ OwnP W (w.heap.size + 1 + 1 + 1) A6 c6 m6 ∧ Blk W w.heap.size 87 #[.int .i64 f, .int .i64 nx, .int .i64 t, .int .i64 q, .slice A6 m6.length c6] ∧ True) ?_ (fun wq26 hT => ?_)
          · exact ⟨by (first | with_reducible exact hst | with_reducible exact hHeld | with_reducible exact hHeld.below hb5 | with_reducible exact hHeld.alloc _ | with_reducible exact hHeld.apart (Nat.lt_succ_self _) hb6 | with_reducible exact hHeld.set0 _ _), by (first | with_reducible assumption | with_reducible exact hCd | with_reducible exact f0.below hb5 | with_reducible exact f0.alloc _ | with_reducible exact World.ownsRow.alloc f1 _ | with_reducible exact Own.set1 f0 (by omega) _ | with_reducible exact Own.set1 f1 (by omega) _ | exact litP _ p | exact (hb6.block w.heap.size (by omega)).trans f0 | exact ho6 | exact SlP.below f1 hb5 | exact Own.more ho5 (Blk.lt hHeld.res) | exact f0.set_ 4 _), by (first | with_reducible assumption | with_reducible exact hCd | with_reducible exact f0.below hb5 | with_reducible exact f0.alloc _ | with_reducible exact World.ownsRow.alloc f1 _ | with_reducible exact Own.set1 f0 (by omega) _ | with_reducible exact Own.set1 f1 (by omega) _ | exact litP _ p | exact (hb6.block w.heap.size (by omega)).trans f0 | exact ho6 | exact SlP.below f1 hb5 | exact Own.more ho5 (Blk.lt hHeld.res) | exact f0.set_ 4 _), trivial⟩
          (try clear f0 f1 f2 f3 f4 f5 f6 f7 f8 f9 f10 f11)
          obtain ⟨hHeld, f0, f1, -⟩ := hT
          refine wpAnyH_done (by kernel_rfl) ?_ _
          (go_wp2_with fail; go_meet; exact ⟨A6, c6, m6, (show _ = _ from by rw [hm6.out, hm5.out]), hHeld, f1, f0⟩)
        exact AllReadyH.nil
      refine AllReadyH.cons (o := ⟨some 18, _, _, _, _, _⟩) rfl (fun K hK => ?_) ?_
      · (first | (refine step_loadP (by kernel_rfl) _ rfl ⟨w.heap.size + 1, 0, none⟩ p rfl hHeld.pt.cells ?_) | (refine step_lit1 (by kernel_rfl) _ rfl p rfl ?_) | (obtain ⟨s0, s1, s2, s3, s4, sf0, sf1, sf2, sf3, sf4⟩ := f0.five; go_simp))
        refine hK.out _ _ ?_ (fun _ => ?_)
        · ((try dsimp only); (first | with_reducible exact hst | with_reducible exact hHeld | with_reducible exact hHeld.below hb5 | with_reducible exact hHeld.alloc _ | with_reducible exact hHeld.apart (Nat.lt_succ_self _) hb6 | with_reducible exact hHeld.set0 _ _))
        clear hK K
        (try simp only [Act.put, List.setIfInBounds_toArray, List.set_cons_zero, List.set_cons_succ])
        refine gen0 (T := fun W => ((fun W => StC w W f nx t q A ps.length c p)) W ∧ Blk W w.heap.size 87 #[.int .i64 f, .int .i64 nx, .int .i64 t, .int .i64 q, .slice A ps.length c] ∧ SlP W (some ⟨wq17.heap.size, 0, none⟩) 1 [p] ∧ True) ?_ (fun wq27 hT => ?_)
        · exact ⟨by (first | with_reducible exact hst | with_reducible exact hHeld | with_reducible exact hHeld.below hb5 | with_reducible exact hHeld.alloc _ | with_reducible exact hHeld.apart (Nat.lt_succ_self _) hb6 | with_reducible exact hHeld.set0 _ _), by (first | with_reducible assumption | with_reducible exact hCd | with_reducible exact f0.below hb5 | with_reducible exact f0.alloc _ | with_reducible exact World.ownsRow.alloc f1 _ | with_reducible exact Own.set1 f0 (by omega) _ | with_reducible exact Own.set1 f1 (by omega) _ | exact litP _ p | exact (hb6.block w.heap.size (by omega)).trans f0 | exact ho6 | exact SlP.below f1 hb5 | exact Own.more ho5 (Blk.lt hHeld.res) | exact f0.set_ 4 _), by (first | with_reducible assumption | with_reducible exact hCd | with_reducible exact f0.below hb5 | with_reducible exact f0.alloc _ | with_reducible exact World.ownsRow.alloc f1 _ | with_reducible exact Own.set1 f0 (by omega) _ | with_reducible exact Own.set1 f1 (by omega) _ | exact litP _ p | exact (hb6.block w.heap.size (by omega)).trans f0 | exact ho6 | exact SlP.below f1 hb5 | exact Own.more ho5 (Blk.lt hHeld.res) | exact f0.set_ 4 _), trivial⟩
        (try clear f0 f1 f2 f3 f4 f5 f6 f7 f8 f9 f10 f11)
        obtain ⟨hHeld, f0, f1, -⟩ := hT
        refine wpAnyH_ready (rs := [1]) (by kernel_rfl) (by simp) ?_
        refine AllReadyH.cons (o := ⟨some 15, _, _, _, _, _⟩) rfl (fun K hK => ?_) AllReadyH.nil
        (first | (refine step_loadP (by kernel_rfl) _ rfl ⟨w.heap.size + 1, 0, none⟩ p rfl hHeld.pt.cells ?_) | (refine step_lit1 (by kernel_rfl) _ rfl p rfl ?_) | (obtain ⟨s0, s1, s2, s3, s4, sf0, sf1, sf2, sf3, sf4⟩ := f0.five; go_simp))
        refine hK.out _ _ ?_ (fun _ => ?_)
        · ((try dsimp only); (first | with_reducible exact hst | with_reducible exact hHeld | with_reducible exact hHeld.below hb5 | with_reducible exact hHeld.alloc _ | with_reducible exact hHeld.apart (Nat.lt_succ_self _) hb6 | with_reducible exact hHeld.set0 _ _))
        clear hK K
        (try simp only [Act.put, List.setIfInBounds_toArray, List.set_cons_zero, List.set_cons_succ])
        refine gen0 (T := fun W => ((fun W => StC w W f nx t q A ps.length c p)) W ∧ Blk W w.heap.size 87 #[.int .i64 f, .int .i64 nx, .int .i64 t, .int .i64 q, .slice A ps.length c] ∧ SlP W (some ⟨wq17.heap.size, 0, none⟩) 1 [p] ∧ True) ?_ (fun wq28 hT => ?_)
        · exact ⟨by (first | with_reducible exact hst | with_reducible exact hHeld | with_reducible exact hHeld.below hb5 | with_reducible exact hHeld.alloc _ | with_reducible exact hHeld.apart (Nat.lt_succ_self _) hb6 | with_reducible exact hHeld.set0 _ _), by (first | with_reducible assumption | with_reducible exact hCd | with_reducible exact f0.below hb5 | with_reducible exact f0.alloc _ | with_reducible exact World.ownsRow.alloc f1 _ | with_reducible exact Own.set1 f0 (by omega) _ | with_reducible exact Own.set1 f1 (by omega) _ | exact litP _ p | exact (hb6.block w.heap.size (by omega)).trans f0 | exact ho6 | exact SlP.below f1 hb5 | exact Own.more ho5 (Blk.lt hHeld.res) | exact f0.set_ 4 _), by (first | with_reducible assumption | with_reducible exact hCd | with_reducible exact f0.below hb5 | with_reducible exact f0.alloc _ | with_reducible exact World.ownsRow.alloc f1 _ | with_reducible exact Own.set1 f0 (by omega) _ | with_reducible exact Own.set1 f1 (by omega) _ | exact litP _ p | exact (hb6.block w.heap.size (by omega)).trans f0 | exact ho6 | exact SlP.below f1 hb5 | exact Own.more ho5 (Blk.lt hHeld.res) | exact f0.set_ 4 _), trivial⟩
        (try clear f0 f1 f2 f3 f4 f5 f6 f7 f8 f9 f10 f11)
        obtain ⟨hHeld, f0, f1, -⟩ := hT
        refine wpAnyH_ready (rs := [2]) (by kernel_rfl) (by simp) ?_
        refine AllReadyH.cons (o := ⟨some 16, _, _, _, _, _⟩) rfl (fun K hK => ?_) AllReadyH.nil
        go_simp
        (refine (PtClone_any ps _ (h.below hHeld.bel) (by omega)).mono ?_; rintro e w5 ⟨A5, c5, m5, rfl, hm5, ho5, hb5⟩)
        go_wp2_with fail
        refine hK.out _ _ ?_ (fun _ => ?_)
        · ((try dsimp only); (first | with_reducible exact hst | with_reducible exact hHeld | with_reducible exact hHeld.below hb5 | with_reducible exact hHeld.alloc _ | with_reducible exact hHeld.apart (Nat.lt_succ_self _) hb6 | with_reducible exact hHeld.set0 _ _))
        clear hK K
        (try simp only [Act.put, List.setIfInBounds_toArray, List.set_cons_zero, List.set_cons_succ])
        refine gen0 (T := fun W => ((fun W => StC w W f nx t q A ps.length c p)) W ∧ Blk W w.heap.size 87 #[.int .i64 f, .int .i64 nx, .int .i64 t, .int .i64 q, .slice A ps.length c] ∧ OwnP W (w.heap.size + 1 + 1 + 1) A5 c5 m5 ∧ SlP W (some ⟨wq17.heap.size, 0, none⟩) 1 [p] ∧ True) ?_ (fun wq29 hT => ?_)
        · exact ⟨by (first | with_reducible exact hst | with_reducible exact hHeld | with_reducible exact hHeld.below hb5 | with_reducible exact hHeld.alloc _ | with_reducible exact hHeld.apart (Nat.lt_succ_self _) hb6 | with_reducible exact hHeld.set0 _ _), by (first | with_reducible assumption | with_reducible exact hCd | with_reducible exact f0.below hb5 | with_reducible exact f0.alloc _ | with_reducible exact World.ownsRow.alloc f1 _ | with_reducible exact Own.set1 f0 (by omega) _ | with_reducible exact Own.set1 f1 (by omega) _ | exact litP _ p | exact (hb6.block w.heap.size (by omega)).trans f0 | exact ho6 | exact SlP.below f1 hb5 | exact Own.more ho5 (Blk.lt hHeld.res) | exact f0.set_ 4 _), by (first | with_reducible assumption | with_reducible exact hCd | with_reducible exact f0.below hb5 | with_reducible exact f0.alloc _ | with_reducible exact World.ownsRow.alloc f1 _ | with_reducible exact Own.set1 f0 (by omega) _ | with_reducible exact Own.set1 f1 (by omega) _ | exact litP _ p | exact (hb6.block w.heap.size (by omega)).trans f0 | exact ho6 | exact SlP.below f1 hb5 | exact Own.more ho5 (Blk.lt hHeld.res) | exact f0.set_ 4 _), by (first | with_reducible assumption | with_reducible exact hCd | with_reducible exact f0.below hb5 | with_reducible exact f0.alloc _ | with_reducible exact World.ownsRow.alloc f1 _ | with_reducible exact Own.set1 f0 (by omega) _ | with_reducible exact Own.set1 f1 (by omega) _ | exact litP _ p | exact (hb6.block w.heap.size (by omega)).trans f0 | exact ho6 | exact SlP.below f1 hb5 | exact Own.more ho5 (Blk.lt hHeld.res) | exact f0.set_ 4 _), trivial⟩
        (try clear f0 f1 f2 f3 f4 f5 f6 f7 f8 f9 f10 f11)
        obtain ⟨hHeld, f0, f1, f2, -⟩ := hT
        refine wpAnyH_ready (rs := [5]) (by kernel_rfl) (by simp) ?_
        refine AllReadyH.cons (o := ⟨some 19, _, _, _, _, _⟩) rfl (fun K hK => ?_) AllReadyH.nil
        (refine step_parts (by kernel_rfl) (.tmp 16) (.tmp 18) rfl (w.heap.size + 1 + 1 + 1) A5 c5 m5 rfl f1 (some ⟨_, 0, none⟩) 1 1 [p] rfl rfl f2 (by rw [hm5.out]; simp; omega) (Blk.lt hHeld.res) ?_; intro A6 c6 m6 w6 hm6 ho6 hg6 hb6)
        refine hK.out _ _ ?_ (fun _ => ?_)
        · ((try dsimp only); (first | with_reducible exact hst | with_reducible exact hHeld | with_reducible exact hHeld.below hb5 | with_reducible exact hHeld.alloc _ | with_reducible exact hHeld.apart (Nat.lt_succ_self _) hb6 | with_reducible exact hHeld.set0 _ _))
        clear hK K
        (try simp only [Act.put, List.setIfInBounds_toArray, List.set_cons_zero, List.set_cons_succ])
        refine gen0 (T := fun W => ((fun W => StC w W f nx t q A ps.length c p)) W ∧ Blk W w.heap.size 87 #[.int .i64 f, .int .i64 nx, .int .i64 t, .int .i64 q, .slice A ps.length c] ∧ OwnP W (w.heap.size + 1 + 1 + 1) A6 c6 m6 ∧ True) ?_ (fun wq30 hT => ?_)
        · exact ⟨by (first | with_reducible exact hst | with_reducible exact hHeld | with_reducible exact hHeld.below hb5 | with_reducible exact hHeld.alloc _ | with_reducible exact hHeld.apart (Nat.lt_succ_self _) hb6 | with_reducible exact hHeld.set0 _ _), by (first | with_reducible assumption | with_reducible exact hCd | with_reducible exact f0.below hb5 | with_reducible exact f0.alloc _ | with_reducible exact World.ownsRow.alloc f1 _ | with_reducible exact Own.set1 f0 (by omega) _ | with_reducible exact Own.set1 f1 (by omega) _ | exact litP _ p | exact (hb6.block w.heap.size (by omega)).trans f0 | exact ho6 | exact SlP.below f1 hb5 | exact Own.more ho5 (Blk.lt hHeld.res) | exact f0.set_ 4 _), by (first | with_reducible assumption | with_reducible exact hCd | with_reducible exact f0.below hb5 | with_reducible exact f0.alloc _ | with_reducible exact World.ownsRow.alloc f1 _ | with_reducible exact Own.set1 f0 (by omega) _ | with_reducible exact Own.set1 f1 (by omega) _ | exact litP _ p | exact (hb6.block w.heap.size (by omega)).trans f0 | exact ho6 | exact SlP.below f1 hb5 | exact Own.more ho5 (Blk.lt hHeld.res) | exact f0.set_ 4 _), trivial⟩
        (try clear f0 f1 f2 f3 f4 f5 f6 f7 f8 f9 f10 f11)
        obtain ⟨hHeld, f0, f1, -⟩ := hT
        refine wpAnyH_take (i := 6) (oi := ⟨some 20, _, _, _, _, _⟩) (v := ?_) rfl (by kernel_rfl) (by kernel_rfl) (by kernel_rfl) (fun _ _ _ h => h) (Or.inl ⟨by kernel_rfl, ?_⟩) (by assumption) ?_
        rotate_left
        · (intro wS hSw; (try dsimp only at hSw); clear hSw; go_simp; (try with_reducible rfl))
        (try simp only [Act.put, List.setIfInBounds_toArray, List.set_cons_zero, List.set_cons_succ])
        refine wpAnyH_ready (rs := [7]) (by kernel_rfl) (by simp) ?_
        refine AllReadyH.cons (o := ⟨none, _, _, _, _, _⟩) rfl (fun K hK => ?_) AllReadyH.nil
        (first | (refine step_loadP (by kernel_rfl) _ rfl ⟨w.heap.size + 1, 0, none⟩ p rfl hHeld.pt.cells ?_) | (refine step_lit1 (by kernel_rfl) _ rfl p rfl ?_) | (obtain ⟨s0, s1, s2, s3, s4, sf0, sf1, sf2, sf3, sf4⟩ := f0.five; go_simp))
        refine hK.out _ _ ?_ (fun _ => ?_)
        · ((try dsimp only); (first | with_reducible exact hst | with_reducible exact hHeld | with_reducible exact hHeld.below hb5 | with_reducible exact hHeld.alloc _ | with_reducible exact hHeld.apart (Nat.lt_succ_self _) hb6 | with_reducible exact hHeld.set0 _ _))
        clear hK K
        (try simp only [Act.put, List.setIfInBounds_toArray, List.set_cons_zero, List.set_cons_succ])
        refine gen0 (T := fun W => ((fun W => StC w W f nx t q A ps.length c p)) W ∧ OwnP W (w.heap.size + 1 + 1 + 1) A6 c6 m6 ∧ Blk W w.heap.size 87 #[.int .i64 f, .int .i64 nx, .int .i64 t, .int .i64 q, .slice A6 m6.length c6] ∧ True) ?_ (fun wq31 hT => ?_)
        · exact ⟨by (first | with_reducible exact hst | with_reducible exact hHeld | with_reducible exact hHeld.below hb5 | with_reducible exact hHeld.alloc _ | with_reducible exact hHeld.apart (Nat.lt_succ_self _) hb6 | with_reducible exact hHeld.set0 _ _), by (first | with_reducible assumption | with_reducible exact hCd | with_reducible exact f0.below hb5 | with_reducible exact f0.alloc _ | with_reducible exact World.ownsRow.alloc f1 _ | with_reducible exact Own.set1 f0 (by omega) _ | with_reducible exact Own.set1 f1 (by omega) _ | exact litP _ p | exact (hb6.block w.heap.size (by omega)).trans f0 | exact ho6 | exact SlP.below f1 hb5 | exact Own.more ho5 (Blk.lt hHeld.res) | exact f0.set_ 4 _), by (first | with_reducible assumption | with_reducible exact hCd | with_reducible exact f0.below hb5 | with_reducible exact f0.alloc _ | with_reducible exact World.ownsRow.alloc f1 _ | with_reducible exact Own.set1 f0 (by omega) _ | with_reducible exact Own.set1 f1 (by omega) _ | exact litP _ p | exact (hb6.block w.heap.size (by omega)).trans f0 | exact ho6 | exact SlP.below f1 hb5 | exact Own.more ho5 (Blk.lt hHeld.res) | exact f0.set_ 4 _), trivial⟩
        (try clear f0 f1 f2 f3 f4 f5 f6 f7 f8 f9 f10 f11)
        obtain ⟨hHeld, f0, f1, -⟩ := hT
        refine wpAnyH_done (by kernel_rfl) ?_ _
        (go_wp2_with fail; go_meet; exact ⟨A6, c6, m6, (show _ = _ from by rw [hm6.out, hm5.out]), hHeld, f1, f0⟩)
      exact AllReadyH.nil
    exact AllReadyH.nil
  case rest =>
    obtain ⟨A5, c5, m5, hm5, hJ, hC, hO⟩ := hcut
    clear hst hCd
    obtain ⟨a0, a1, a2, a3, a4, f0, f1, f2, f3, f4⟩ := Blk.five hC
    obtain ⟨x0, x1, x2⟩ := BlP.three hJ.pt
    go_upto_region 6 with (fail)
    have hC2 : Blk (wc.setCell ⟨w.heap.size, 1, none⟩ (.int .i64 (nx + p.2.1))) w.heap.size 87 #[.int .i64 f, .int .i64 (nx + p.2.1), .int .i64 t, .int .i64 q, .slice A5 m5.length c5] := hC.set_ 1 _
    have hJ2 := hJ.set0 1 (.int .i64 (nx + p.2.1))
    have hO2 : OwnP _ (w.heap.size + 1 + 1 + 1) A5 c5 m5 := Own.set1 hO (g := w.heap.size) (i := 1) (by omega) (.int .i64 (nx + p.2.1))
    clear hC hJ hO a0 a1 a2 a3 a4 f0 f1 f2 f3 f4 x0 x1 x2
    generalize hWe : wc.setCell ⟨w.heap.size, 1, none⟩ (.int .i64 (nx + p.2.1)) = w6 at *
    clear hWe
    have hCC := CrCheck_any f (nx + p.2.1) t q m5 w6 (Own.sl hO2) (by rw [hm5.out]; exact hI)
    have h1' : crchk (f, nx + p.2.1, t, q, m5) = 0 := by rw [hm5.out]; exact h1
    rw [h1'] at hCC
    have HC := Lib.hid hCC
    clear hCC h1'
    obtain ⟨a0, a1, a2, a3, a4, -⟩ := Blk.five hC2
    go_wp2_with fail
    refine HC.out.mono ?_
    rintro e w7 ⟨rfl, hb7⟩
    rw [show errv 0 = .nilIface from rfl]
    replace hC2 := hC2.below hb7
    replace hJ2 := hJ2.below hb7
    replace hO2 := Own.below hO2 hb7
    clear hb7 a0 a1 a2 a3 a4
    obtain ⟨a0, a1, a2, a3, a4, -⟩ := Blk.five hC2
    obtain ⟨r0, r1, r2, r3, r4, f0, f1, f2, f3, f4⟩ := Blk.five hJ2.res
    have hsz := hJ2.bel.size
    go_wp2_with fail
    exact bodyPost_ret (res_cr2 rfl rfl (g := w.heap.size + 1 + 1) (hJ2.res.set5 _ _ _ _ _)) rfl ⟨A5, c5, m5, rfl, hm5, (Own.set5 hO2 (by omega) _ _ _ _ _).more (by omega), bel_set5 hJ2.bel (by omega) _ _ _ _ _⟩
end Go.Proofs.Ytgipfenjachpnaa
