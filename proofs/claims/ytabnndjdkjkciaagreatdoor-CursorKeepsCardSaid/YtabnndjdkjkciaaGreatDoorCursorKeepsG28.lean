/- WHAT IT HOLDS: the document's disk: made, an operation counted, a change added: walked. -/
import Derived.Test.YtabnndjdkjkciaaGreatDoorCursorKeepsG27
import Derived.Test.YtabnndjdkjkciaaGreatDoorCursorKeepsG08
namespace Go.Proofs.YtabnndjdkjkciaaGreatDoor
open Go.RowKit Go.Maps Go.Sort
attribute [local go_sem ↓] Go.wp_at_zero Go.wp_at_succ

theorem res_k1 {fn : Func} {a : Nat} {tmps : Array Value} {w : World} {g : Nat} {x y z u v : Value} (hres : fn.results = #[.cell a 91]) (ha : tmps.getD a undef = .pointer (some ⟨g, 0, none⟩)) (hB : Blk w g 91 #[x, y, z, u, v]) :
    (results fn tmps).run Tryz.prog w = .ok (.agg #[x, y, z, u, v]) w := by
  obtain ⟨b0, b1, b2, b3, b4, -⟩ := Blk.fiveC hB
  have ha' : tmps[a]?.getD undef = .pointer (some ⟨g, 0, none⟩) := by simpa using ha
  simp [results, hres, go_sem, b0, b1, b2, b3, b4, ha']
theorem res_k2 {fn : Func} {a b : Nat} {tmps : Array Value} {w : World} {g : Nat} {x y z u v : Value} (hres : fn.results = #[.cell a 91, .tmp b]) (ha : tmps.getD a undef = .pointer (some ⟨g, 0, none⟩)) (hB : Blk w g 91 #[x, y, z, u, v]) :
    (results fn tmps).run Tryz.prog w = .ok (.tuple #[.agg #[x, y, z, u, v], tmps.getD b undef]) w := by
  obtain ⟨b0, b1, b2, b3, b4, -⟩ := Blk.fiveC hB
  have ha' : tmps[a]?.getD undef = .pointer (some ⟨g, 0, none⟩) := by simpa using ha
  simp [results, hres, go_sem, b0, b1, b2, b3, b4, ha']
theorem Blk.st5 {w : World} {g : Nat} {t : TypeId} {a b c d e : Value} (h : Blk w g t #[a, b, c, d, e]) (x y z u v : Value) : Blk (((((w.setCell ⟨g, 0, none⟩ x).setCell ⟨g, 1, none⟩ y).setCell ⟨g, 2, none⟩ z).setCell ⟨g, 3, none⟩ u).setCell ⟨g, 4, none⟩ v) g t #[x, y, z, u, v] :=
  ((((h.set_ 0 x).set_ 1 y).set_ 2 z).set_ 3 u).set_ 4 v
theorem bel_st5 {w w' : World} {g : Nat} (h : Below w.heap.size w w') (hg : w.heap.size ≤ g) (x y z u v : Value) : Below w.heap.size w (((((w'.setCell ⟨g, 0, none⟩ x).setCell ⟨g, 1, none⟩ y).setCell ⟨g, 2, none⟩ z).setCell ⟨g, 3, none⟩ u).setCell ⟨g, 4, none⟩ v) := bel_set (bel_set (bel_set (bel_set (bel_set h hg _) hg _) hg _) hg _) hg _
/-- the zero disk -/
abbrev rdz : Array Value := #[.int .i64 0, .slice none 0 0, .slice none 0 0, .int .i64 0, .bool false]
def dk0R (r : Int) : Dk Bs := ⟨r, [], [], -1, false⟩
/-- what making the document's disk gives -/
def NewK (r : Int) (e : Ending) : Prop := ((r < 0 ∨ 1073741824 < r) ∧ e = .returned (.tuple #[.agg rdz, .int .i64 1])) ∨ ((0 ≤ r ∧ r ≤ 1073741824) ∧ e = .returned (.tuple #[.agg (rda (dk0R r) none 0 none 0), .int .i64 0]))
set_option maxRecDepth 100000 in
set_option maxHeartbeats 1000000 in
theorem KNew_any (r : Int) (w : World) : Calls Tryz.prog 34 #[.int .i64 r] w fun e w' => NewK r e ∧ Below w.heap.size w w' := by
  have hB := Blk.new w 91 rdz
  have hb := below_new w (.cells rdz 91)
  have hB2 := Blk.new w 91 (rda (dk0R r) none 0 none 0)
  have hb2 := below_new w (.cells (rda (dk0R r) none 0 none 0) 91)
  by_cases h0 : r < 0
  · go_enter Tryz.func34, Tryz.ntmps34
    go_wp2_with fail
    exact bodyPost_ret (res_k2 rfl rfl (g := w.heap.size) hB) rfl ⟨Or.inl ⟨Or.inl h0, rfl⟩, hb⟩
  by_cases h1 : 1073741824 < r
  · go_enter Tryz.func34, Tryz.ntmps34
    go_wp2_with fail
    exact bodyPost_ret (res_k2 rfl rfl (g := w.heap.size) hB) rfl ⟨Or.inl ⟨Or.inr h1, rfl⟩, hb⟩
  · have h2 : r ≤ 1073741824 := by omega
    go_enter Tryz.func34, Tryz.ntmps34
    go_wp2_with fail
    exact bodyPost_ret (res_k2 rfl rfl (g := w.heap.size) hB2) rfl ⟨Or.inr ⟨⟨by omega, h2⟩, rfl⟩, hb2⟩
set_option maxRecDepth 100000 in
set_option maxHeartbeats 1000000 in
theorem RWorks_any {A B : Option Addr} {c k : Nat} (d : Dk Bs) (w : World) (hf : d.fuse ≤ 9223372036854775807) : Calls Tryz.prog 151 #[.agg (rda d A c B k)] w fun e w' => e = .returned (.tuple #[.agg (rda (dWorks d).1 A c B k), .int .i64 ((dWorks d).2 : Nat)]) ∧ Below w.heap.size w w' := by
  obtain ⟨room, sure, pend, fuse, down⟩ := d
  dsimp only at hf
  unfold rda
  dsimp only
  cases down with
  | true =>
    have HW := Lib.hid (show dWorks (⟨room, sure, pend, fuse, true⟩ : Dk Bs) = (⟨room, sure, pend, fuse, true⟩, 14) from rfl)
    go_enter Tryz.func151, Tryz.ntmps151
    go_wp2_with fail
    exact bodyPost_ret (res_k2 rfl rfl (g := w.heap.size + 1) (Blk.newAt (by simp) _ _)) rfl ⟨by rw [HW.out]; rfl, bel_alloc (below_new _ _) _⟩
  | false =>
    rcases Decidable.em (fuse = 0) with h0 | h0
    · subst h0
      have HW := Lib.hid (show dWorks (⟨room, sure, pend, 0, false⟩ : Dk Bs) = (⟨room, sure, pend, 0, true⟩, 14) from rfl)
      go_enter Tryz.func151, Tryz.ntmps151
      go_wp2_with fail
      exact bodyPost_ret (res_k2 rfl rfl (g := w.heap.size + 1) (Blk.newAt (by simp) _ _)) rfl ⟨by rw [HW.out]; rfl, bel_alloc (below_new _ _) _⟩
    · have hb : (fuse == 0) = false := by simpa using h0
      rcases Decidable.em (0 < fuse) with h1 | h1
      · have HW := Lib.hid (show dWorks (⟨room, sure, pend, fuse, false⟩ : Dk Bs) = (⟨room, sure, pend, fuse - 1, false⟩, 0) from by unfold dWorks; simp [h0, h1])
        have hwr : wrap64 (fuse - 1) = fuse - 1 := by simp only [wrap64]; omega
        have hwr2 : IntKind.i64.wrap (fuse - 1) = fuse - 1 := by rw [IntKind.wrap_i64]; omega
        clear h0 hf
        go_enter Tryz.func151, Tryz.ntmps151
        go_wp2_with fail
        exact bodyPost_ret (res_k2 rfl rfl (g := w.heap.size + 1) (Blk.newAt (by simp) _ _)) rfl ⟨by rw [HW.out]; rfl, bel_alloc (below_new _ _) _⟩
      · have HW := Lib.hid (show dWorks (⟨room, sure, pend, fuse, false⟩ : Dk Bs) = (⟨room, sure, pend, fuse, false⟩, 0) from by unfold dWorks; simp [h0, h1])
        clear h0 hf
        go_enter Tryz.func151, Tryz.ntmps151
        go_wp2_with fail
        exact bodyPost_ret (res_k2 rfl rfl (g := w.heap.size + 1) (Blk.newAt (by simp) _ _)) rfl ⟨by rw [HW.out]; rfl, bel_alloc (below_new _ _) _⟩
set_option maxRecDepth 100000 in
set_option maxHeartbeats 1000000 in
theorem KStart_any {A B : Option Addr} {c k : Nat} (d : Dk Bs) (w : World) : Calls Tryz.prog 91 #[.agg (rda d A c B k)] w fun e w' => ∃ B' k', e = .returned (.agg (rda (dStart d) A c B' k')) ∧ (d.down = true ∧ B' = none ∧ k' = 0 ∨ d.down = false ∧ B' = B ∧ k' = k) ∧ Below w.heap.size w w' := by
  obtain ⟨room, sure, pend, fuse, down⟩ := d
  unfold rda
  dsimp only
  cases down with
  | true =>
    have HW := Lib.hid (show dStart (⟨room, sure, pend, fuse, true⟩ : Dk Bs) = ⟨room, sure, [], -1, false⟩ from rfl)
    go_enter Tryz.func91, Tryz.ntmps91
    go_wp2_with fail
    exact bodyPost_ret (res_k1 rfl rfl (g := w.heap.size + 1) (Blk.newAt (by simp) _ _)) rfl ⟨none, 0, by rw [HW.out]; rfl, by simp, bel_alloc (below_new _ _) _⟩
  | false =>
    have HW := Lib.hid (show dStart (⟨room, sure, pend, fuse, false⟩ : Dk Bs) = ⟨room, sure, pend, -1, false⟩ from rfl)
    go_enter Tryz.func91, Tryz.ntmps91
    go_wp2_with fail
    exact bodyPost_ret (res_k1 rfl rfl (g := w.heap.size + 1) (Blk.newAt (by simp) _ _)) rfl ⟨B, k, by rw [HW.out], by simp, bel_alloc (below_new _ _) _⟩
theorem ck_info : (Tryz.prog.info? 248).map (fun i => (i.zero, i.size, i.bytes)) = some (some (.agg #[.int .i64 0, .string ⟨#[]⟩, .string ⟨#[]⟩, .string ⟨#[]⟩]), 4, 56) := by kernel_rfl
theorem one_rcl (x : Chg Bs) : ∀ u ∈ rcl x, u.oneCell' = true := by
  intro u hu
  simp only [rcl, List.mem_cons, List.not_mem_nil, or_false] at hu
  rcases hu with rfl | rfl | rfl | rfl <;> rfl
theorem one_rcls (l : List (Chg Bs)) : ∀ u ∈ l.flatMap rcl, u.oneCell' = true := by
  intro u hu
  obtain ⟨x, hx, hu⟩ := List.mem_flatMap.1 hu
  exact one_rcl x u hu
theorem lit_rc (w : World) (x : Chg Bs) : Sl (w.alloc (.cells (rca x) 248)) 4 (some ⟨w.heap.size, 0, none⟩) 1 1 (rcl x) :=
  ⟨by simp [rcl], by omega, by simp [maxLen], (fun h => by cases h), fun j u hj => ⟨_, rfl, by
    rw [addr_lit, cell_of_row _ _ _ _ 248 (0, 0) (heap_alloc_new w _)]
    simpa [rcl, rca] using hj⟩⟩
/-- append of changes -/
theorem step_ck {w : World} {ops : Array Oper} {o : Oper} {a : Act} {K : Act → World → Prop} {Q : Exit → Act → World → Prop} {E : Prop} (hw : Region.wanted o (yielded ops a.tmps) = true) (s x : Operand)
    (ho : o.op = .call { callee := .builtin .append, args := #[s, x], argTypes := #[89, 89] })
    (B : Nat) (A : Option Addr) (n c : Nat) (xs : List Value) (hs : a.eval s = .slice A n c) (hown : Own w B 248 4 A n c xs)
    (A2 : Option Addr) (m c2 : Nat) (news : List Value) (hx : a.eval x = .slice A2 m c2) (hr : Sl w 4 A2 m c2 news) (h1 : ∀ u ∈ news, u.oneCell' = true) (hn : n + m ≤ 100000000) (hB : B ≤ w.heap.size)
    (h : ∀ A' c' w', Own w' B 248 4 A' (n + m) c' (xs ++ news) → w.grownBy w' (A.map (·.block)) → Below B w w' → K (a.put o.dst (.slice A' (n + m) c')) w') :
    if Region.wanted o (yielded ops a.tmps) = true then Oper.wp Tryz.prog o a w K Q else E := by
  obtain ⟨i0, hi, hz0, hz1, hz2⟩ := info_parts ck_info
  refine step_append hw s x 89 ho B 248 i0 _ 4 56 Tryz.underlying89 hi hz0 hz1 hz2 rfl (by decide) A n c xs hs hown A2 m c2 news hx hr h1 (by omega) (by unfold maxLen; omega) hB ?_
  intro A' c' w' hap
  refine h A' c' w' hap.own hap.grown ⟨hap.grown.os, hap.grown.tape, hap.grown.output, hap.grown.size, fun i hi => hap.grown.block i (Nat.lt_of_lt_of_le hi hB) (fun e => ?_)⟩
  have := (Own.lt hown i e.symm).1
  omega
/-- the changes' cell set -/
theorem Blk.rkSet {w : World} {g : Nat} {d : Dk Bs} {A B : Option Addr} {c k : Nat} (h : Blk w g 91 (rda d A c B k)) (x : Chg Bs) (B' : Option Addr) (k' : Nat) : Blk (w.setCell ⟨g, 2, none⟩ (.slice B' (d.pend.length + 1) k')) g 91 (rda (dAdd d x) A c B' k') := by
  have h2 := h.set_ 2 (.slice B' (d.pend.length + 1) k')
  have e : rda (dAdd d x) A c B' k' = #[.int .i64 d.room, .slice A d.sure.length c, .slice B' (d.pend.length + 1) k', .int .i64 d.fuse, .bool d.down] := by simp [rda, dAdd]
  rw [e]
  exact h2
theorem lit_lt {w : World} {g size : Nat} {xs : List Value} (h : Sl w size (some ⟨g, 0, none⟩) 1 1 xs) (hx : 0 < xs.length) : g < w.heap.size := by
  obtain ⟨ad, e, hc⟩ := h.2.2.2.2.at hx
  injection e with e
  subst e
  have := World.block_lt_of_cell? _ _ hc
  rwa [addr_add_block] at this
theorem Own.st5 {w : World} {base : Nat} {e : TypeId} {size n c : Nat} {A : Option Addr} {xs : List Value} (h : Own w base e size A n c xs) {g : Nat} (hg : g < base) (x y z u v : Value) : Own (((((w.setCell ⟨g, 0, none⟩ x).setCell ⟨g, 1, none⟩ y).setCell ⟨g, 2, none⟩ z).setCell ⟨g, 3, none⟩ u).setCell ⟨g, 4, none⟩ v) base e size A n c xs := by
  have hne : A.map (·.block) ≠ some g := fun e => by have := (Own.lt h g e).1; omega
  exact ((((h.setOther hne _ _).setOther hne _ _).setOther hne _ _).setOther hne _ _).setOther hne _ _
theorem addK_sl {w : World} {B : Nat} {A : Option Addr} {c : Nat} {d : Dk Bs} {x : Chg Bs} (h : Own w B 248 4 A (d.pend.length + 1) c (d.pend.flatMap rcl ++ rcl x)) : SlK w A c (dAdd d x).pend := by
  have e1 : (dAdd d x).pend.length = d.pend.length + 1 := by simp [dAdd]
  have e2 : (dAdd d x).pend.flatMap rcl = d.pend.flatMap rcl ++ rcl x := by simp [dAdd]
  unfold SlK
  rw [e1, e2]
  exact Own.sl h
theorem own_at {w : World} {B g size n c : Nat} {e : TypeId} {xs : List Value} (h : Own w B e size (some ⟨g, 0, none⟩) n c xs) : B ≤ g ∧ g < w.heap.size := Own.lt h g rfl
theorem lit_kept {w w' : World} {g g0 size : Nat} {xs : List Value} (h : Sl w size (some ⟨g, 0, none⟩) 1 1 xs) (hx : 0 < xs.length) (hg : w.grownBy w' (some g0)) (hne : g0 ≠ g) : Sl w' size (some ⟨g, 0, none⟩) 1 1 xs :=
  Sl.sameH h fun k hk => by
    obtain rfl : g = k := by injection hk
    exact hg.block _ (lit_lt h hx) (fun e => hne (by injection e with e; exact e.symm))
theorem rcl_pos (x : Chg Bs) : 0 < (rcl x).length := by simp [rcl]
set_option maxRecDepth 100000 in
set_option maxHeartbeats 1000000 in
theorem RAdd_any {T : Nat → Prop} {A B : Option Addr} {c k : Nat} (d : Dk Bs) (x : Chg Bs) (w : World) (hT : ∀ k, w.heap.size ≤ k → T k) (h : SlK w B k d.pend) (hn : d.pend.length ≤ 1000000) :
    Calls Tryz.prog 154 #[.agg (rda d A c B k), .agg (rca x)] w fun e w' => ∃ B' k', e = .returned (.agg (rda (dAdd d x) A c B' k')) ∧ SlK w' B' k' (dAdd d x).pend ∧ Okb T w' B' ∧ Below w.heap.size w w' := by
  have hM := (((Mm.start w).allocO (.cells (rda d A c B k) 91)).alloc (rca x) 248).alloc rdz 91
  have hB := ((Blk.new w 91 (rda d A c B k)).alloc (.cells (rca x) 248)).alloc (.cells rdz 91)
  have hs1 : (w.alloc (.cells (rda d A c B k) 91)).heap.size = w.heap.size + 1 := by simp
  have hs2 : ((w.alloc (.cells (rda d A c B k) 91)).alloc (.cells (rca x) 248)).heap.size = w.heap.size + 2 := by simp
  rw [hs1, hs2] at hM
  have hz : w.heap.size + 3 ≤ (((w.alloc (.cells (rda d A c B k) 91)).alloc (.cells (rca x) 248)).alloc (.cells rdz 91)).heap.size := by simp
  have HM := Lib.hid hM
  have HB := Lib.hid hB
  have HZ := Lib.hid hz
  have HK := Lib.hid h
  clear hM hB hz h
  go_enter Tryz.func154, Tryz.ntmps154
  go_upto_region 1 with (fail)
  refine gen1 (T := fun W => (Mm w W [(w.heap.size + 2, 91, rdz), (w.heap.size + 1, 248, rca x)] [] ∧ w.heap.size + 3 ≤ W.heap.size) ∧ Blk W w.heap.size 91 (rda d A c B k)) ⟨⟨HM.out, HZ.out⟩, HB.out⟩ (fun w5 hT5 => ?_)
  obtain ⟨hst, hB0⟩ := hT5
  replace hst : Mm w w5.drew [(w.heap.size + 2, 91, rdz), (w.heap.size + 1, 248, rca x)] [] ∧ w.heap.size + 3 ≤ w5.drew.heap.size := ⟨hst.1.drew, hst.2⟩
  replace hB0 : Blk w5.drew w.heap.size 91 (rda d A c B k) := hB0.drew
  clear HM HB HZ hs1 hs2
  refine wp_region_held_drew (S := (fun W => Mm w W [(w.heap.size + 2, 91, rdz), (w.heap.size + 1, 248, rca x)] [] ∧ w.heap.size + 3 ≤ W.heap.size)) (by kernel_rfl) ?_ (fun hHeld => ?_)
  · exact hst
  refine gen0 (T := fun W => ((fun W => Mm w W [(w.heap.size + 2, 91, rdz), (w.heap.size + 1, 248, rca x)] [] ∧ w.heap.size + 3 ≤ W.heap.size)) W ∧ Blk W w.heap.size 91 (rda d A c B k) ∧ True) ?_ (fun wq1 hT => ?_)
  · exact ⟨by (with_reducible exact hst), by (with_reducible assumption), trivial⟩
  (try clear f0 f1 f2 f3 f4 f5 f6 f7 f8 f9 f10 f11)
  obtain ⟨hHeld, f0, -⟩ := hT
  refine wpAnyH_take (i := 1) (oi := ⟨some 6, _, _, _, _, _⟩) (v := ?_) rfl (by kernel_rfl) (by kernel_rfl) (by kernel_rfl) (fun _ _ _ h => h) (Or.inl ⟨by kernel_rfl, ?_⟩) (by assumption) ?_
  rotate_left
  · (intro wS hSw; (try dsimp only at hSw); obtain ⟨y0, y1, y2, y3⟩ := hSw.1.b1.fourC; clear hSw; go_simp; (try with_reducible rfl))
  (try simp only [Act.put, List.setIfInBounds_toArray, List.set_cons_zero, List.set_cons_succ])
  refine wpAnyH_take (i := 4) (oi := ⟨some 9, _, _, _, _, _⟩) (v := ?_) rfl (by kernel_rfl) (by kernel_rfl) (by kernel_rfl) (fun _ _ _ h => h) (Or.inl ⟨by kernel_rfl, ?_⟩) (by assumption) ?_
  rotate_left
  · (intro wS hSw; (try dsimp only at hSw); obtain ⟨y0, y1, y2, y3⟩ := hSw.1.b1.fourC; clear hSw; go_simp; (try with_reducible rfl))
  (try simp only [Act.put, List.setIfInBounds_toArray, List.set_cons_zero, List.set_cons_succ])
  refine wpAnyH_ready (rs := [0, 2, 5]) (by kernel_rfl) (by simp) ?_
  refine AllReadyH.cons (o := ⟨some 5, _, _, _, _, _⟩) rfl (fun K hK => ?_) ?_
  · ((obtain ⟨s0, s1, s2, s3, s4, sf0, sf1, sf2, sf3, sf4⟩ := f0.fiveC)); go_simp
    refine hK.out _ _ ?_ (fun _ => ?_)
    · ((try dsimp only); (exact ⟨hHeld.1.allocO _, by have := hHeld.2; simp; omega⟩))
    clear hK K
    (try simp only [Act.put, List.setIfInBounds_toArray, List.set_cons_zero, List.set_cons_succ])
    refine gen0 (T := fun W => ((fun W => Mm w W [(w.heap.size + 2, 91, rdz), (w.heap.size + 1, 248, rca x)] [] ∧ w.heap.size + 3 ≤ W.heap.size)) W ∧ Blk W w.heap.size 91 (rda d A c B k) ∧ Own W (w.heap.size + 3) 248 4 (some ⟨wq1.heap.size, 0, none⟩) 0 0 [] ∧ True) ?_ (fun wq2 hT => ?_)
    · exact ⟨by (exact ⟨hHeld.1.allocO _, by have := hHeld.2; simp; omega⟩), by (exact f0.alloc _), by (exact Own.lit 4 hHeld.2), trivial⟩
    (try clear f0 f1 f2 f3 f4 f5 f6 f7 f8 f9 f10 f11)
    obtain ⟨hHeld, f0, f1, -⟩ := hT
    refine wpAnyH_ready (rs := [2, 5]) (by kernel_rfl) (by simp) ?_
    refine AllReadyH.cons (o := ⟨some 7, _, _, _, _, _⟩) rfl (fun K hK => ?_) ?_
    · ((obtain ⟨s0, s1, s2, s3, s4, sf0, sf1, sf2, sf3, sf4⟩ := f0.fiveC)); go_simp
      refine hK.out _ _ ?_ (fun _ => ?_)
      · ((try dsimp only); (with_reducible exact hHeld))
      clear hK K
      (try simp only [Act.put, List.setIfInBounds_toArray, List.set_cons_zero, List.set_cons_succ])
      refine gen0 (T := fun W => ((fun W => Mm w W [(w.heap.size + 2, 91, rdz), (w.heap.size + 1, 248, rca x)] [] ∧ w.heap.size + 3 ≤ W.heap.size)) W ∧ Blk W w.heap.size 91 (rda d A c B k) ∧ Own W (w.heap.size + 3) 248 4 (some ⟨wq1.heap.size, 0, none⟩) 0 0 [] ∧ True) ?_ (fun wq3 hT => ?_)
      · exact ⟨by (with_reducible exact hHeld), by (with_reducible assumption), by (with_reducible assumption), trivial⟩
      (try clear f0 f1 f2 f3 f4 f5 f6 f7 f8 f9 f10 f11)
      obtain ⟨hHeld, f0, f1, -⟩ := hT
      refine wpAnyH_ready (rs := [3, 5]) (by kernel_rfl) (by simp) ?_
      refine AllReadyH.cons (o := ⟨some 8, _, _, _, _, _⟩) rfl (fun K hK => ?_) ?_
      · ((refine step_ck (by kernel_rfl) (.tmp 5) (.tmp 7) rfl (w.heap.size + 3) _ 0 0 [] rfl f1 _ _ _ _ rfl (HK.out.below hHeld.1.bel) (one_rcls _) (by omega) hHeld.2 ?_; rw [Nat.zero_add]; intro A3 c3 w3 ho3 hg3 hb3; rw [List.nil_append] at ho3))
        refine hK.out _ _ ?_ (fun _ => ?_)
        · ((try dsimp only); (exact ⟨hHeld.1.above hb3 (by simp) (by omega), Nat.le_trans hHeld.2 hb3.size⟩))
        clear hK K
        (try simp only [Act.put, List.setIfInBounds_toArray, List.set_cons_zero, List.set_cons_succ])
        refine gen0 (T := fun W => ((fun W => Mm w W [(w.heap.size + 2, 91, rdz), (w.heap.size + 1, 248, rca x)] [] ∧ w.heap.size + 3 ≤ W.heap.size)) W ∧ Blk W w.heap.size 91 (rda d A c B k) ∧ Own W (w.heap.size + 3) 248 4 A3 d.pend.length c3 (d.pend.flatMap rcl) ∧ True) ?_ (fun wq4 hT => ?_)
        · exact ⟨by (exact ⟨hHeld.1.above hb3 (by simp) (by omega), Nat.le_trans hHeld.2 hb3.size⟩), by (exact (hb3.block _ (by omega)).trans f0), by (with_reducible assumption), trivial⟩
        (try clear f0 f1 f2 f3 f4 f5 f6 f7 f8 f9 f10 f11)
        obtain ⟨hHeld, f0, f1, -⟩ := hT
        refine wpAnyH_ready (rs := [5]) (by kernel_rfl) (by simp) ?_
        refine AllReadyH.cons (o := ⟨some 10, _, _, _, _, _⟩) rfl (fun K hK => ?_) AllReadyH.nil
        ((obtain ⟨s0, s1, s2, s3, s4, sf0, sf1, sf2, sf3, sf4⟩ := f0.fiveC)); go_simp
        refine hK.out _ _ ?_ (fun _ => ?_)
        · ((try dsimp only); (exact ⟨hHeld.1.allocO _, by have := hHeld.2; simp; omega⟩))
        clear hK K
        (try simp only [Act.put, List.setIfInBounds_toArray, List.set_cons_zero, List.set_cons_succ])
        refine gen0 (T := fun W => ((fun W => Mm w W [(w.heap.size + 2, 91, rdz), (w.heap.size + 1, 248, rca x)] [] ∧ w.heap.size + 3 ≤ W.heap.size)) W ∧ Blk W w.heap.size 91 (rda d A c B k) ∧ Own W (w.heap.size + 3) 248 4 A3 d.pend.length c3 (d.pend.flatMap rcl) ∧ Sl W 4 (some ⟨wq4.heap.size, 0, none⟩) 1 1 (rcl x) ∧ True) ?_ (fun wq5 hT => ?_)
        · exact ⟨by (exact ⟨hHeld.1.allocO _, by have := hHeld.2; simp; omega⟩), by (exact f0.alloc _), by (exact World.ownsRow.alloc f1 _), by (exact lit_rc _ _), trivial⟩
        (try clear f0 f1 f2 f3 f4 f5 f6 f7 f8 f9 f10 f11)
        obtain ⟨hHeld, f0, f1, f2, -⟩ := hT
        refine wpAnyH_ready (rs := [6]) (by kernel_rfl) (by simp) ?_
        refine AllReadyH.cons (o := ⟨some 11, _, _, _, _, _⟩) rfl (fun K hK => ?_) AllReadyH.nil
        ((refine step_ck (by kernel_rfl) (.tmp 8) (.tmp 10) rfl (w.heap.size + 3) A3 _ c3 _ rfl f1 _ 1 1 _ rfl f2 (one_rcl x) (by omega) hHeld.2 ?_; intro A6 c6 w6 ho6 hg6 hb6))
        refine hK.out _ _ ?_ (fun _ => ?_)
        · ((try dsimp only); (exact ⟨hHeld.1.above hb6 (by simp) (by omega), Nat.le_trans hHeld.2 hb6.size⟩))
        clear hK K
        (try simp only [Act.put, List.setIfInBounds_toArray, List.set_cons_zero, List.set_cons_succ])
        refine gen0 (T := fun W => ((fun W => Mm w W [(w.heap.size + 2, 91, rdz), (w.heap.size + 1, 248, rca x)] [] ∧ w.heap.size + 3 ≤ W.heap.size)) W ∧ Blk W w.heap.size 91 (rda d A c B k) ∧ Own W (w.heap.size + 3) 248 4 A6 (d.pend.length + 1) c6 (d.pend.flatMap rcl ++ rcl x) ∧ True) ?_ (fun wq6 hT => ?_)
        · exact ⟨by (exact ⟨hHeld.1.above hb6 (by simp) (by omega), Nat.le_trans hHeld.2 hb6.size⟩), by (exact (hb6.block _ (by omega)).trans f0), by (with_reducible assumption), trivial⟩
        (try clear f0 f1 f2 f3 f4 f5 f6 f7 f8 f9 f10 f11)
        obtain ⟨hHeld, f0, f1, -⟩ := hT
        refine wpAnyH_take (i := 7) (oi := ⟨some 12, _, _, _, _, _⟩) (v := ?_) rfl (by kernel_rfl) (by kernel_rfl) (by kernel_rfl) (fun _ _ _ h => h) (Or.inl ⟨by kernel_rfl, ?_⟩) (by assumption) ?_
        rotate_left
        · (intro wS hSw; (try dsimp only at hSw); obtain ⟨y0, y1, y2, y3⟩ := hSw.1.b1.fourC; clear hSw; go_simp; (try with_reducible rfl))
        (try simp only [Act.put, List.setIfInBounds_toArray, List.set_cons_zero, List.set_cons_succ])
        refine wpAnyH_ready (rs := [8]) (by kernel_rfl) (by simp) ?_
        refine AllReadyH.cons (o := ⟨none, _, _, _, _, _⟩) rfl (fun K hK => ?_) AllReadyH.nil
        ((obtain ⟨s0, s1, s2, s3, s4, sf0, sf1, sf2, sf3, sf4⟩ := f0.fiveC)); go_simp
        refine hK.out _ _ ?_ (fun _ => ?_)
        · ((try dsimp only); (exact ⟨hHeld.1.off ((Wr.refl _ _).set_ 2 _) (by simp) (Nat.le_refl _), by simpa using hHeld.2⟩))
        clear hK K
        (try simp only [Act.put, List.setIfInBounds_toArray, List.set_cons_zero, List.set_cons_succ])
        refine gen0 (T := fun W => ((fun W => Mm w W [(w.heap.size + 2, 91, rdz), (w.heap.size + 1, 248, rca x)] [] ∧ w.heap.size + 3 ≤ W.heap.size)) W ∧ Own W (w.heap.size + 3) 248 4 A6 (d.pend.length + 1) c6 (d.pend.flatMap rcl ++ rcl x) ∧ Blk W w.heap.size 91 (rda (dAdd d x) A c A6 c6) ∧ True) ?_ (fun wq7 hT => ?_)
        · exact ⟨by (exact ⟨hHeld.1.off ((Wr.refl _ _).set_ 2 _) (by simp) (Nat.le_refl _), by simpa using hHeld.2⟩), by (exact f1.setOther (fun e => (by have := (Own.lt f1 _ e).1; omega)) _ _), by (exact f0.rkSet x _ _), trivial⟩
        (try clear f0 f1 f2 f3 f4 f5 f6 f7 f8 f9 f10 f11)
        obtain ⟨hHeld, f0, f1, -⟩ := hT
        refine wpAnyH_done (by kernel_rfl) ?_ _
        (obtain ⟨z0, z1, z2, z3, z4, -⟩ := f1.fiveC; have hres := hHeld.1.b0; obtain ⟨r0, r1, r2, r3, r4, rf0, rf1, rf2, rf3, rf4⟩ := hres.fiveC; go_wp2_with fail; exact bodyPost_ret (res_k1 rfl rfl (g := w.heap.size + 2) (hres.st5 _ _ _ _ _)) rfl ⟨A6, c6, rfl, addK_sl (f0.st5 (g := w.heap.size + 2) (by omega) _ _ _ _ _), fun j hj => ⟨hT j (by have := (Own.lt f0 j hj).1; omega), by have := (Own.lt f0 j hj).2; simpa using this⟩, bel_st5 hHeld.1.bel (by omega) _ _ _ _ _⟩)
      refine AllReadyH.cons (o := ⟨some 10, _, _, _, _, _⟩) rfl (fun K hK => ?_) ?_
      · ((obtain ⟨s0, s1, s2, s3, s4, sf0, sf1, sf2, sf3, sf4⟩ := f0.fiveC)); go_simp
        refine hK.out _ _ ?_ (fun _ => ?_)
        · ((try dsimp only); (exact ⟨hHeld.1.allocO _, by have := hHeld.2; simp; omega⟩))
        clear hK K
        (try simp only [Act.put, List.setIfInBounds_toArray, List.set_cons_zero, List.set_cons_succ])
        refine gen0 (T := fun W => ((fun W => Mm w W [(w.heap.size + 2, 91, rdz), (w.heap.size + 1, 248, rca x)] [] ∧ w.heap.size + 3 ≤ W.heap.size)) W ∧ Blk W w.heap.size 91 (rda d A c B k) ∧ Own W (w.heap.size + 3) 248 4 (some ⟨wq1.heap.size, 0, none⟩) 0 0 [] ∧ Sl W 4 (some ⟨wq3.heap.size, 0, none⟩) 1 1 (rcl x) ∧ wq1.heap.size ≠ wq3.heap.size ∧ True) ?_ (fun wq8 hT => ?_)
        · exact ⟨by (exact ⟨hHeld.1.allocO _, by have := hHeld.2; simp; omega⟩), by (exact f0.alloc _), by (exact World.ownsRow.alloc f1 _), by (exact lit_rc _ _), by (exact fun e => (by have := (own_at f1).2; omega)), trivial⟩
        (try clear f0 f1 f2 f3 f4 f5 f6 f7 f8 f9 f10 f11)
        obtain ⟨hHeld, f0, f1, f2, f3, -⟩ := hT
        refine wpAnyH_ready (rs := [3]) (by kernel_rfl) (by simp) ?_
        refine AllReadyH.cons (o := ⟨some 8, _, _, _, _, _⟩) rfl (fun K hK => ?_) AllReadyH.nil
        ((refine step_ck (by kernel_rfl) (.tmp 5) (.tmp 7) rfl (w.heap.size + 3) _ 0 0 [] rfl f1 _ _ _ _ rfl (HK.out.below hHeld.1.bel) (one_rcls _) (by omega) hHeld.2 ?_; rw [Nat.zero_add]; intro A3 c3 w3 ho3 hg3 hb3; rw [List.nil_append] at ho3))
        refine hK.out _ _ ?_ (fun _ => ?_)
        · ((try dsimp only); (exact ⟨hHeld.1.above hb3 (by simp) (by omega), Nat.le_trans hHeld.2 hb3.size⟩))
        clear hK K
        (try simp only [Act.put, List.setIfInBounds_toArray, List.set_cons_zero, List.set_cons_succ])
        refine gen0 (T := fun W => ((fun W => Mm w W [(w.heap.size + 2, 91, rdz), (w.heap.size + 1, 248, rca x)] [] ∧ w.heap.size + 3 ≤ W.heap.size)) W ∧ Blk W w.heap.size 91 (rda d A c B k) ∧ Own W (w.heap.size + 3) 248 4 A3 d.pend.length c3 (d.pend.flatMap rcl) ∧ Sl W 4 (some ⟨wq3.heap.size, 0, none⟩) 1 1 (rcl x) ∧ True) ?_ (fun wq9 hT => ?_)
        · exact ⟨by (exact ⟨hHeld.1.above hb3 (by simp) (by omega), Nat.le_trans hHeld.2 hb3.size⟩), by (exact (hb3.block _ (by omega)).trans f0), by (with_reducible assumption), by (exact lit_kept f2 (rcl_pos x) hg3 f3), trivial⟩
        (try clear f0 f1 f2 f3 f4 f5 f6 f7 f8 f9 f10 f11)
        obtain ⟨hHeld, f0, f1, f2, -⟩ := hT
        refine wpAnyH_ready (rs := [6]) (by kernel_rfl) (by simp) ?_
        refine AllReadyH.cons (o := ⟨some 11, _, _, _, _, _⟩) rfl (fun K hK => ?_) AllReadyH.nil
        ((refine step_ck (by kernel_rfl) (.tmp 8) (.tmp 10) rfl (w.heap.size + 3) A3 _ c3 _ rfl f1 _ 1 1 _ rfl f2 (one_rcl x) (by omega) hHeld.2 ?_; intro A6 c6 w6 ho6 hg6 hb6))
        refine hK.out _ _ ?_ (fun _ => ?_)
        · ((try dsimp only); (exact ⟨hHeld.1.above hb6 (by simp) (by omega), Nat.le_trans hHeld.2 hb6.size⟩))
        clear hK K
        (try simp only [Act.put, List.setIfInBounds_toArray, List.set_cons_zero, List.set_cons_succ])
        refine gen0 (T := fun W => ((fun W => Mm w W [(w.heap.size + 2, 91, rdz), (w.heap.size + 1, 248, rca x)] [] ∧ w.heap.size + 3 ≤ W.heap.size)) W ∧ Blk W w.heap.size 91 (rda d A c B k) ∧ Own W (w.heap.size + 3) 248 4 A6 (d.pend.length + 1) c6 (d.pend.flatMap rcl ++ rcl x) ∧ True) ?_ (fun wq10 hT => ?_)
        · exact ⟨by (exact ⟨hHeld.1.above hb6 (by simp) (by omega), Nat.le_trans hHeld.2 hb6.size⟩), by (exact (hb6.block _ (by omega)).trans f0), by (with_reducible assumption), trivial⟩
        (try clear f0 f1 f2 f3 f4 f5 f6 f7 f8 f9 f10 f11)
        obtain ⟨hHeld, f0, f1, -⟩ := hT
        refine wpAnyH_take (i := 7) (oi := ⟨some 12, _, _, _, _, _⟩) (v := ?_) rfl (by kernel_rfl) (by kernel_rfl) (by kernel_rfl) (fun _ _ _ h => h) (Or.inl ⟨by kernel_rfl, ?_⟩) (by assumption) ?_
        rotate_left
        · (intro wS hSw; (try dsimp only at hSw); obtain ⟨y0, y1, y2, y3⟩ := hSw.1.b1.fourC; clear hSw; go_simp; (try with_reducible rfl))
        (try simp only [Act.put, List.setIfInBounds_toArray, List.set_cons_zero, List.set_cons_succ])
        refine wpAnyH_ready (rs := [8]) (by kernel_rfl) (by simp) ?_
        refine AllReadyH.cons (o := ⟨none, _, _, _, _, _⟩) rfl (fun K hK => ?_) AllReadyH.nil
        ((obtain ⟨s0, s1, s2, s3, s4, sf0, sf1, sf2, sf3, sf4⟩ := f0.fiveC)); go_simp
        refine hK.out _ _ ?_ (fun _ => ?_)
        · ((try dsimp only); (exact ⟨hHeld.1.off ((Wr.refl _ _).set_ 2 _) (by simp) (Nat.le_refl _), by simpa using hHeld.2⟩))
        clear hK K
        (try simp only [Act.put, List.setIfInBounds_toArray, List.set_cons_zero, List.set_cons_succ])
        refine gen0 (T := fun W => ((fun W => Mm w W [(w.heap.size + 2, 91, rdz), (w.heap.size + 1, 248, rca x)] [] ∧ w.heap.size + 3 ≤ W.heap.size)) W ∧ Own W (w.heap.size + 3) 248 4 A6 (d.pend.length + 1) c6 (d.pend.flatMap rcl ++ rcl x) ∧ Blk W w.heap.size 91 (rda (dAdd d x) A c A6 c6) ∧ True) ?_ (fun wq11 hT => ?_)
        · exact ⟨by (exact ⟨hHeld.1.off ((Wr.refl _ _).set_ 2 _) (by simp) (Nat.le_refl _), by simpa using hHeld.2⟩), by (exact f1.setOther (fun e => (by have := (Own.lt f1 _ e).1; omega)) _ _), by (exact f0.rkSet x _ _), trivial⟩
        (try clear f0 f1 f2 f3 f4 f5 f6 f7 f8 f9 f10 f11)
        obtain ⟨hHeld, f0, f1, -⟩ := hT
        refine wpAnyH_done (by kernel_rfl) ?_ _
        (obtain ⟨z0, z1, z2, z3, z4, -⟩ := f1.fiveC; have hres := hHeld.1.b0; obtain ⟨r0, r1, r2, r3, r4, rf0, rf1, rf2, rf3, rf4⟩ := hres.fiveC; go_wp2_with fail; exact bodyPost_ret (res_k1 rfl rfl (g := w.heap.size + 2) (hres.st5 _ _ _ _ _)) rfl ⟨A6, c6, rfl, addK_sl (f0.st5 (g := w.heap.size + 2) (by omega) _ _ _ _ _), fun j hj => ⟨hT j (by have := (Own.lt f0 j hj).1; omega), by have := (Own.lt f0 j hj).2; simpa using this⟩, bel_st5 hHeld.1.bel (by omega) _ _ _ _ _⟩)
      exact AllReadyH.nil
    refine AllReadyH.cons (o := ⟨some 10, _, _, _, _, _⟩) rfl (fun K hK => ?_) ?_
    · ((obtain ⟨s0, s1, s2, s3, s4, sf0, sf1, sf2, sf3, sf4⟩ := f0.fiveC)); go_simp
      refine hK.out _ _ ?_ (fun _ => ?_)
      · ((try dsimp only); (exact ⟨hHeld.1.allocO _, by have := hHeld.2; simp; omega⟩))
      clear hK K
      (try simp only [Act.put, List.setIfInBounds_toArray, List.set_cons_zero, List.set_cons_succ])
      refine gen0 (T := fun W => ((fun W => Mm w W [(w.heap.size + 2, 91, rdz), (w.heap.size + 1, 248, rca x)] [] ∧ w.heap.size + 3 ≤ W.heap.size)) W ∧ Blk W w.heap.size 91 (rda d A c B k) ∧ Own W (w.heap.size + 3) 248 4 (some ⟨wq1.heap.size, 0, none⟩) 0 0 [] ∧ Sl W 4 (some ⟨wq2.heap.size, 0, none⟩) 1 1 (rcl x) ∧ wq1.heap.size ≠ wq2.heap.size ∧ True) ?_ (fun wq12 hT => ?_)
      · exact ⟨by (exact ⟨hHeld.1.allocO _, by have := hHeld.2; simp; omega⟩), by (exact f0.alloc _), by (exact World.ownsRow.alloc f1 _), by (exact lit_rc _ _), by (exact fun e => (by have := (own_at f1).2; omega)), trivial⟩
      (try clear f0 f1 f2 f3 f4 f5 f6 f7 f8 f9 f10 f11)
      obtain ⟨hHeld, f0, f1, f2, f3, -⟩ := hT
      refine wpAnyH_ready (rs := [2]) (by kernel_rfl) (by simp) ?_
      refine AllReadyH.cons (o := ⟨some 7, _, _, _, _, _⟩) rfl (fun K hK => ?_) AllReadyH.nil
      ((obtain ⟨s0, s1, s2, s3, s4, sf0, sf1, sf2, sf3, sf4⟩ := f0.fiveC)); go_simp
      refine hK.out _ _ ?_ (fun _ => ?_)
      · ((try dsimp only); (with_reducible exact hHeld))
      clear hK K
      (try simp only [Act.put, List.setIfInBounds_toArray, List.set_cons_zero, List.set_cons_succ])
      refine gen0 (T := fun W => ((fun W => Mm w W [(w.heap.size + 2, 91, rdz), (w.heap.size + 1, 248, rca x)] [] ∧ w.heap.size + 3 ≤ W.heap.size)) W ∧ Blk W w.heap.size 91 (rda d A c B k) ∧ Own W (w.heap.size + 3) 248 4 (some ⟨wq1.heap.size, 0, none⟩) 0 0 [] ∧ Sl W 4 (some ⟨wq2.heap.size, 0, none⟩) 1 1 (rcl x) ∧ wq1.heap.size ≠ wq2.heap.size ∧ True) ?_ (fun wq13 hT => ?_)
      · exact ⟨by (with_reducible exact hHeld), by (with_reducible assumption), by (with_reducible assumption), by (with_reducible assumption), by (with_reducible assumption), trivial⟩
      (try clear f0 f1 f2 f3 f4 f5 f6 f7 f8 f9 f10 f11)
      obtain ⟨hHeld, f0, f1, f2, f3, -⟩ := hT
      refine wpAnyH_ready (rs := [3]) (by kernel_rfl) (by simp) ?_
      refine AllReadyH.cons (o := ⟨some 8, _, _, _, _, _⟩) rfl (fun K hK => ?_) AllReadyH.nil
      ((refine step_ck (by kernel_rfl) (.tmp 5) (.tmp 7) rfl (w.heap.size + 3) _ 0 0 [] rfl f1 _ _ _ _ rfl (HK.out.below hHeld.1.bel) (one_rcls _) (by omega) hHeld.2 ?_; rw [Nat.zero_add]; intro A3 c3 w3 ho3 hg3 hb3; rw [List.nil_append] at ho3))
      refine hK.out _ _ ?_ (fun _ => ?_)
      · ((try dsimp only); (exact ⟨hHeld.1.above hb3 (by simp) (by omega), Nat.le_trans hHeld.2 hb3.size⟩))
      clear hK K
      (try simp only [Act.put, List.setIfInBounds_toArray, List.set_cons_zero, List.set_cons_succ])
      refine gen0 (T := fun W => ((fun W => Mm w W [(w.heap.size + 2, 91, rdz), (w.heap.size + 1, 248, rca x)] [] ∧ w.heap.size + 3 ≤ W.heap.size)) W ∧ Blk W w.heap.size 91 (rda d A c B k) ∧ Own W (w.heap.size + 3) 248 4 A3 d.pend.length c3 (d.pend.flatMap rcl) ∧ Sl W 4 (some ⟨wq2.heap.size, 0, none⟩) 1 1 (rcl x) ∧ True) ?_ (fun wq14 hT => ?_)
      · exact ⟨by (exact ⟨hHeld.1.above hb3 (by simp) (by omega), Nat.le_trans hHeld.2 hb3.size⟩), by (exact (hb3.block _ (by omega)).trans f0), by (with_reducible assumption), by (exact lit_kept f2 (rcl_pos x) hg3 f3), trivial⟩
      (try clear f0 f1 f2 f3 f4 f5 f6 f7 f8 f9 f10 f11)
      obtain ⟨hHeld, f0, f1, f2, -⟩ := hT
      refine wpAnyH_ready (rs := [6]) (by kernel_rfl) (by simp) ?_
      refine AllReadyH.cons (o := ⟨some 11, _, _, _, _, _⟩) rfl (fun K hK => ?_) AllReadyH.nil
      ((refine step_ck (by kernel_rfl) (.tmp 8) (.tmp 10) rfl (w.heap.size + 3) A3 _ c3 _ rfl f1 _ 1 1 _ rfl f2 (one_rcl x) (by omega) hHeld.2 ?_; intro A6 c6 w6 ho6 hg6 hb6))
      refine hK.out _ _ ?_ (fun _ => ?_)
      · ((try dsimp only); (exact ⟨hHeld.1.above hb6 (by simp) (by omega), Nat.le_trans hHeld.2 hb6.size⟩))
      clear hK K
      (try simp only [Act.put, List.setIfInBounds_toArray, List.set_cons_zero, List.set_cons_succ])
      refine gen0 (T := fun W => ((fun W => Mm w W [(w.heap.size + 2, 91, rdz), (w.heap.size + 1, 248, rca x)] [] ∧ w.heap.size + 3 ≤ W.heap.size)) W ∧ Blk W w.heap.size 91 (rda d A c B k) ∧ Own W (w.heap.size + 3) 248 4 A6 (d.pend.length + 1) c6 (d.pend.flatMap rcl ++ rcl x) ∧ True) ?_ (fun wq15 hT => ?_)
      · exact ⟨by (exact ⟨hHeld.1.above hb6 (by simp) (by omega), Nat.le_trans hHeld.2 hb6.size⟩), by (exact (hb6.block _ (by omega)).trans f0), by (with_reducible assumption), trivial⟩
      (try clear f0 f1 f2 f3 f4 f5 f6 f7 f8 f9 f10 f11)
      obtain ⟨hHeld, f0, f1, -⟩ := hT
      refine wpAnyH_take (i := 7) (oi := ⟨some 12, _, _, _, _, _⟩) (v := ?_) rfl (by kernel_rfl) (by kernel_rfl) (by kernel_rfl) (fun _ _ _ h => h) (Or.inl ⟨by kernel_rfl, ?_⟩) (by assumption) ?_
      rotate_left
      · (intro wS hSw; (try dsimp only at hSw); obtain ⟨y0, y1, y2, y3⟩ := hSw.1.b1.fourC; clear hSw; go_simp; (try with_reducible rfl))
      (try simp only [Act.put, List.setIfInBounds_toArray, List.set_cons_zero, List.set_cons_succ])
      refine wpAnyH_ready (rs := [8]) (by kernel_rfl) (by simp) ?_
      refine AllReadyH.cons (o := ⟨none, _, _, _, _, _⟩) rfl (fun K hK => ?_) AllReadyH.nil
      ((obtain ⟨s0, s1, s2, s3, s4, sf0, sf1, sf2, sf3, sf4⟩ := f0.fiveC)); go_simp
      refine hK.out _ _ ?_ (fun _ => ?_)
      · ((try dsimp only); (exact ⟨hHeld.1.off ((Wr.refl _ _).set_ 2 _) (by simp) (Nat.le_refl _), by simpa using hHeld.2⟩))
      clear hK K
      (try simp only [Act.put, List.setIfInBounds_toArray, List.set_cons_zero, List.set_cons_succ])
      refine gen0 (T := fun W => ((fun W => Mm w W [(w.heap.size + 2, 91, rdz), (w.heap.size + 1, 248, rca x)] [] ∧ w.heap.size + 3 ≤ W.heap.size)) W ∧ Own W (w.heap.size + 3) 248 4 A6 (d.pend.length + 1) c6 (d.pend.flatMap rcl ++ rcl x) ∧ Blk W w.heap.size 91 (rda (dAdd d x) A c A6 c6) ∧ True) ?_ (fun wq16 hT => ?_)
      · exact ⟨by (exact ⟨hHeld.1.off ((Wr.refl _ _).set_ 2 _) (by simp) (Nat.le_refl _), by simpa using hHeld.2⟩), by (exact f1.setOther (fun e => (by have := (Own.lt f1 _ e).1; omega)) _ _), by (exact f0.rkSet x _ _), trivial⟩
      (try clear f0 f1 f2 f3 f4 f5 f6 f7 f8 f9 f10 f11)
      obtain ⟨hHeld, f0, f1, -⟩ := hT
      refine wpAnyH_done (by kernel_rfl) ?_ _
      (obtain ⟨z0, z1, z2, z3, z4, -⟩ := f1.fiveC; have hres := hHeld.1.b0; obtain ⟨r0, r1, r2, r3, r4, rf0, rf1, rf2, rf3, rf4⟩ := hres.fiveC; go_wp2_with fail; exact bodyPost_ret (res_k1 rfl rfl (g := w.heap.size + 2) (hres.st5 _ _ _ _ _)) rfl ⟨A6, c6, rfl, addK_sl (f0.st5 (g := w.heap.size + 2) (by omega) _ _ _ _ _), fun j hj => ⟨hT j (by have := (Own.lt f0 j hj).1; omega), by have := (Own.lt f0 j hj).2; simpa using this⟩, bel_st5 hHeld.1.bel (by omega) _ _ _ _ _⟩)
    exact AllReadyH.nil
  refine AllReadyH.cons (o := ⟨some 7, _, _, _, _, _⟩) rfl (fun K hK => ?_) ?_
  · ((obtain ⟨s0, s1, s2, s3, s4, sf0, sf1, sf2, sf3, sf4⟩ := f0.fiveC)); go_simp
    refine hK.out _ _ ?_ (fun _ => ?_)
    · ((try dsimp only); (with_reducible exact hHeld))
    clear hK K
    (try simp only [Act.put, List.setIfInBounds_toArray, List.set_cons_zero, List.set_cons_succ])
    refine gen0 (T := fun W => ((fun W => Mm w W [(w.heap.size + 2, 91, rdz), (w.heap.size + 1, 248, rca x)] [] ∧ w.heap.size + 3 ≤ W.heap.size)) W ∧ Blk W w.heap.size 91 (rda d A c B k) ∧ True) ?_ (fun wq17 hT => ?_)
    · exact ⟨by (with_reducible exact hHeld), by (with_reducible assumption), trivial⟩
    (try clear f0 f1 f2 f3 f4 f5 f6 f7 f8 f9 f10 f11)
    obtain ⟨hHeld, f0, -⟩ := hT
    refine wpAnyH_ready (rs := [0, 5]) (by kernel_rfl) (by simp) ?_
    refine AllReadyH.cons (o := ⟨some 5, _, _, _, _, _⟩) rfl (fun K hK => ?_) ?_
    · ((obtain ⟨s0, s1, s2, s3, s4, sf0, sf1, sf2, sf3, sf4⟩ := f0.fiveC)); go_simp
      refine hK.out _ _ ?_ (fun _ => ?_)
      · ((try dsimp only); (exact ⟨hHeld.1.allocO _, by have := hHeld.2; simp; omega⟩))
      clear hK K
      (try simp only [Act.put, List.setIfInBounds_toArray, List.set_cons_zero, List.set_cons_succ])
      refine gen0 (T := fun W => ((fun W => Mm w W [(w.heap.size + 2, 91, rdz), (w.heap.size + 1, 248, rca x)] [] ∧ w.heap.size + 3 ≤ W.heap.size)) W ∧ Blk W w.heap.size 91 (rda d A c B k) ∧ Own W (w.heap.size + 3) 248 4 (some ⟨wq17.heap.size, 0, none⟩) 0 0 [] ∧ True) ?_ (fun wq18 hT => ?_)
      · exact ⟨by (exact ⟨hHeld.1.allocO _, by have := hHeld.2; simp; omega⟩), by (exact f0.alloc _), by (exact Own.lit 4 hHeld.2), trivial⟩
      (try clear f0 f1 f2 f3 f4 f5 f6 f7 f8 f9 f10 f11)
      obtain ⟨hHeld, f0, f1, -⟩ := hT
      refine wpAnyH_ready (rs := [3, 5]) (by kernel_rfl) (by simp) ?_
      refine AllReadyH.cons (o := ⟨some 8, _, _, _, _, _⟩) rfl (fun K hK => ?_) ?_
      · ((refine step_ck (by kernel_rfl) (.tmp 5) (.tmp 7) rfl (w.heap.size + 3) _ 0 0 [] rfl f1 _ _ _ _ rfl (HK.out.below hHeld.1.bel) (one_rcls _) (by omega) hHeld.2 ?_; rw [Nat.zero_add]; intro A3 c3 w3 ho3 hg3 hb3; rw [List.nil_append] at ho3))
        refine hK.out _ _ ?_ (fun _ => ?_)
        · ((try dsimp only); (exact ⟨hHeld.1.above hb3 (by simp) (by omega), Nat.le_trans hHeld.2 hb3.size⟩))
        clear hK K
        (try simp only [Act.put, List.setIfInBounds_toArray, List.set_cons_zero, List.set_cons_succ])
        refine gen0 (T := fun W => ((fun W => Mm w W [(w.heap.size + 2, 91, rdz), (w.heap.size + 1, 248, rca x)] [] ∧ w.heap.size + 3 ≤ W.heap.size)) W ∧ Blk W w.heap.size 91 (rda d A c B k) ∧ Own W (w.heap.size + 3) 248 4 A3 d.pend.length c3 (d.pend.flatMap rcl) ∧ True) ?_ (fun wq19 hT => ?_)
        · exact ⟨by (exact ⟨hHeld.1.above hb3 (by simp) (by omega), Nat.le_trans hHeld.2 hb3.size⟩), by (exact (hb3.block _ (by omega)).trans f0), by (with_reducible assumption), trivial⟩
        (try clear f0 f1 f2 f3 f4 f5 f6 f7 f8 f9 f10 f11)
        obtain ⟨hHeld, f0, f1, -⟩ := hT
        refine wpAnyH_ready (rs := [5]) (by kernel_rfl) (by simp) ?_
        refine AllReadyH.cons (o := ⟨some 10, _, _, _, _, _⟩) rfl (fun K hK => ?_) AllReadyH.nil
        ((obtain ⟨s0, s1, s2, s3, s4, sf0, sf1, sf2, sf3, sf4⟩ := f0.fiveC)); go_simp
        refine hK.out _ _ ?_ (fun _ => ?_)
        · ((try dsimp only); (exact ⟨hHeld.1.allocO _, by have := hHeld.2; simp; omega⟩))
        clear hK K
        (try simp only [Act.put, List.setIfInBounds_toArray, List.set_cons_zero, List.set_cons_succ])
        refine gen0 (T := fun W => ((fun W => Mm w W [(w.heap.size + 2, 91, rdz), (w.heap.size + 1, 248, rca x)] [] ∧ w.heap.size + 3 ≤ W.heap.size)) W ∧ Blk W w.heap.size 91 (rda d A c B k) ∧ Own W (w.heap.size + 3) 248 4 A3 d.pend.length c3 (d.pend.flatMap rcl) ∧ Sl W 4 (some ⟨wq19.heap.size, 0, none⟩) 1 1 (rcl x) ∧ True) ?_ (fun wq20 hT => ?_)
        · exact ⟨by (exact ⟨hHeld.1.allocO _, by have := hHeld.2; simp; omega⟩), by (exact f0.alloc _), by (exact World.ownsRow.alloc f1 _), by (exact lit_rc _ _), trivial⟩
        (try clear f0 f1 f2 f3 f4 f5 f6 f7 f8 f9 f10 f11)
        obtain ⟨hHeld, f0, f1, f2, -⟩ := hT
        refine wpAnyH_ready (rs := [6]) (by kernel_rfl) (by simp) ?_
        refine AllReadyH.cons (o := ⟨some 11, _, _, _, _, _⟩) rfl (fun K hK => ?_) AllReadyH.nil
        ((refine step_ck (by kernel_rfl) (.tmp 8) (.tmp 10) rfl (w.heap.size + 3) A3 _ c3 _ rfl f1 _ 1 1 _ rfl f2 (one_rcl x) (by omega) hHeld.2 ?_; intro A6 c6 w6 ho6 hg6 hb6))
        refine hK.out _ _ ?_ (fun _ => ?_)
        · ((try dsimp only); (exact ⟨hHeld.1.above hb6 (by simp) (by omega), Nat.le_trans hHeld.2 hb6.size⟩))
        clear hK K
        (try simp only [Act.put, List.setIfInBounds_toArray, List.set_cons_zero, List.set_cons_succ])
        refine gen0 (T := fun W => ((fun W => Mm w W [(w.heap.size + 2, 91, rdz), (w.heap.size + 1, 248, rca x)] [] ∧ w.heap.size + 3 ≤ W.heap.size)) W ∧ Blk W w.heap.size 91 (rda d A c B k) ∧ Own W (w.heap.size + 3) 248 4 A6 (d.pend.length + 1) c6 (d.pend.flatMap rcl ++ rcl x) ∧ True) ?_ (fun wq21 hT => ?_)
        · exact ⟨by (exact ⟨hHeld.1.above hb6 (by simp) (by omega), Nat.le_trans hHeld.2 hb6.size⟩), by (exact (hb6.block _ (by omega)).trans f0), by (with_reducible assumption), trivial⟩
        (try clear f0 f1 f2 f3 f4 f5 f6 f7 f8 f9 f10 f11)
        obtain ⟨hHeld, f0, f1, -⟩ := hT
        refine wpAnyH_take (i := 7) (oi := ⟨some 12, _, _, _, _, _⟩) (v := ?_) rfl (by kernel_rfl) (by kernel_rfl) (by kernel_rfl) (fun _ _ _ h => h) (Or.inl ⟨by kernel_rfl, ?_⟩) (by assumption) ?_
        rotate_left
        · (intro wS hSw; (try dsimp only at hSw); obtain ⟨y0, y1, y2, y3⟩ := hSw.1.b1.fourC; clear hSw; go_simp; (try with_reducible rfl))
        (try simp only [Act.put, List.setIfInBounds_toArray, List.set_cons_zero, List.set_cons_succ])
        refine wpAnyH_ready (rs := [8]) (by kernel_rfl) (by simp) ?_
        refine AllReadyH.cons (o := ⟨none, _, _, _, _, _⟩) rfl (fun K hK => ?_) AllReadyH.nil
        ((obtain ⟨s0, s1, s2, s3, s4, sf0, sf1, sf2, sf3, sf4⟩ := f0.fiveC)); go_simp
        refine hK.out _ _ ?_ (fun _ => ?_)
        · ((try dsimp only); (exact ⟨hHeld.1.off ((Wr.refl _ _).set_ 2 _) (by simp) (Nat.le_refl _), by simpa using hHeld.2⟩))
        clear hK K
        (try simp only [Act.put, List.setIfInBounds_toArray, List.set_cons_zero, List.set_cons_succ])
        refine gen0 (T := fun W => ((fun W => Mm w W [(w.heap.size + 2, 91, rdz), (w.heap.size + 1, 248, rca x)] [] ∧ w.heap.size + 3 ≤ W.heap.size)) W ∧ Own W (w.heap.size + 3) 248 4 A6 (d.pend.length + 1) c6 (d.pend.flatMap rcl ++ rcl x) ∧ Blk W w.heap.size 91 (rda (dAdd d x) A c A6 c6) ∧ True) ?_ (fun wq22 hT => ?_)
        · exact ⟨by (exact ⟨hHeld.1.off ((Wr.refl _ _).set_ 2 _) (by simp) (Nat.le_refl _), by simpa using hHeld.2⟩), by (exact f1.setOther (fun e => (by have := (Own.lt f1 _ e).1; omega)) _ _), by (exact f0.rkSet x _ _), trivial⟩
        (try clear f0 f1 f2 f3 f4 f5 f6 f7 f8 f9 f10 f11)
        obtain ⟨hHeld, f0, f1, -⟩ := hT
        refine wpAnyH_done (by kernel_rfl) ?_ _
        (obtain ⟨z0, z1, z2, z3, z4, -⟩ := f1.fiveC; have hres := hHeld.1.b0; obtain ⟨r0, r1, r2, r3, r4, rf0, rf1, rf2, rf3, rf4⟩ := hres.fiveC; go_wp2_with fail; exact bodyPost_ret (res_k1 rfl rfl (g := w.heap.size + 2) (hres.st5 _ _ _ _ _)) rfl ⟨A6, c6, rfl, addK_sl (f0.st5 (g := w.heap.size + 2) (by omega) _ _ _ _ _), fun j hj => ⟨hT j (by have := (Own.lt f0 j hj).1; omega), by have := (Own.lt f0 j hj).2; simpa using this⟩, bel_st5 hHeld.1.bel (by omega) _ _ _ _ _⟩)
      refine AllReadyH.cons (o := ⟨some 10, _, _, _, _, _⟩) rfl (fun K hK => ?_) ?_
      · ((obtain ⟨s0, s1, s2, s3, s4, sf0, sf1, sf2, sf3, sf4⟩ := f0.fiveC)); go_simp
        refine hK.out _ _ ?_ (fun _ => ?_)
        · ((try dsimp only); (exact ⟨hHeld.1.allocO _, by have := hHeld.2; simp; omega⟩))
        clear hK K
        (try simp only [Act.put, List.setIfInBounds_toArray, List.set_cons_zero, List.set_cons_succ])
        refine gen0 (T := fun W => ((fun W => Mm w W [(w.heap.size + 2, 91, rdz), (w.heap.size + 1, 248, rca x)] [] ∧ w.heap.size + 3 ≤ W.heap.size)) W ∧ Blk W w.heap.size 91 (rda d A c B k) ∧ Own W (w.heap.size + 3) 248 4 (some ⟨wq17.heap.size, 0, none⟩) 0 0 [] ∧ Sl W 4 (some ⟨wq18.heap.size, 0, none⟩) 1 1 (rcl x) ∧ wq17.heap.size ≠ wq18.heap.size ∧ True) ?_ (fun wq23 hT => ?_)
        · exact ⟨by (exact ⟨hHeld.1.allocO _, by have := hHeld.2; simp; omega⟩), by (exact f0.alloc _), by (exact World.ownsRow.alloc f1 _), by (exact lit_rc _ _), by (exact fun e => (by have := (own_at f1).2; omega)), trivial⟩
        (try clear f0 f1 f2 f3 f4 f5 f6 f7 f8 f9 f10 f11)
        obtain ⟨hHeld, f0, f1, f2, f3, -⟩ := hT
        refine wpAnyH_ready (rs := [3]) (by kernel_rfl) (by simp) ?_
        refine AllReadyH.cons (o := ⟨some 8, _, _, _, _, _⟩) rfl (fun K hK => ?_) AllReadyH.nil
        ((refine step_ck (by kernel_rfl) (.tmp 5) (.tmp 7) rfl (w.heap.size + 3) _ 0 0 [] rfl f1 _ _ _ _ rfl (HK.out.below hHeld.1.bel) (one_rcls _) (by omega) hHeld.2 ?_; rw [Nat.zero_add]; intro A3 c3 w3 ho3 hg3 hb3; rw [List.nil_append] at ho3))
        refine hK.out _ _ ?_ (fun _ => ?_)
        · ((try dsimp only); (exact ⟨hHeld.1.above hb3 (by simp) (by omega), Nat.le_trans hHeld.2 hb3.size⟩))
        clear hK K
        (try simp only [Act.put, List.setIfInBounds_toArray, List.set_cons_zero, List.set_cons_succ])
        refine gen0 (T := fun W => ((fun W => Mm w W [(w.heap.size + 2, 91, rdz), (w.heap.size + 1, 248, rca x)] [] ∧ w.heap.size + 3 ≤ W.heap.size)) W ∧ Blk W w.heap.size 91 (rda d A c B k) ∧ Own W (w.heap.size + 3) 248 4 A3 d.pend.length c3 (d.pend.flatMap rcl) ∧ Sl W 4 (some ⟨wq18.heap.size, 0, none⟩) 1 1 (rcl x) ∧ True) ?_ (fun wq24 hT => ?_)
        · exact ⟨by (exact ⟨hHeld.1.above hb3 (by simp) (by omega), Nat.le_trans hHeld.2 hb3.size⟩), by (exact (hb3.block _ (by omega)).trans f0), by (with_reducible assumption), by (exact lit_kept f2 (rcl_pos x) hg3 f3), trivial⟩
        (try clear f0 f1 f2 f3 f4 f5 f6 f7 f8 f9 f10 f11)
        obtain ⟨hHeld, f0, f1, f2, -⟩ := hT
        refine wpAnyH_ready (rs := [6]) (by kernel_rfl) (by simp) ?_
        refine AllReadyH.cons (o := ⟨some 11, _, _, _, _, _⟩) rfl (fun K hK => ?_) AllReadyH.nil
        ((refine step_ck (by kernel_rfl) (.tmp 8) (.tmp 10) rfl (w.heap.size + 3) A3 _ c3 _ rfl f1 _ 1 1 _ rfl f2 (one_rcl x) (by omega) hHeld.2 ?_; intro A6 c6 w6 ho6 hg6 hb6))
        refine hK.out _ _ ?_ (fun _ => ?_)
        · ((try dsimp only); (exact ⟨hHeld.1.above hb6 (by simp) (by omega), Nat.le_trans hHeld.2 hb6.size⟩))
        clear hK K
        (try simp only [Act.put, List.setIfInBounds_toArray, List.set_cons_zero, List.set_cons_succ])
        refine gen0 (T := fun W => ((fun W => Mm w W [(w.heap.size + 2, 91, rdz), (w.heap.size + 1, 248, rca x)] [] ∧ w.heap.size + 3 ≤ W.heap.size)) W ∧ Blk W w.heap.size 91 (rda d A c B k) ∧ Own W (w.heap.size + 3) 248 4 A6 (d.pend.length + 1) c6 (d.pend.flatMap rcl ++ rcl x) ∧ True) ?_ (fun wq25 hT => ?_)
        · exact ⟨by (exact ⟨hHeld.1.above hb6 (by simp) (by omega), Nat.le_trans hHeld.2 hb6.size⟩), by (exact (hb6.block _ (by omega)).trans f0), by (with_reducible assumption), trivial⟩
        (try clear f0 f1 f2 f3 f4 f5 f6 f7 f8 f9 f10 f11)
        obtain ⟨hHeld, f0, f1, -⟩ := hT
        refine wpAnyH_take (i := 7) (oi := ⟨some 12, _, _, _, _, _⟩) (v := ?_) rfl (by kernel_rfl) (by kernel_rfl) (by kernel_rfl) (fun _ _ _ h => h) (Or.inl ⟨by kernel_rfl, ?_⟩) (by assumption) ?_
        rotate_left
        · (intro wS hSw; (try dsimp only at hSw); obtain ⟨y0, y1, y2, y3⟩ := hSw.1.b1.fourC; clear hSw; go_simp; (try with_reducible rfl))
        (try simp only [Act.put, List.setIfInBounds_toArray, List.set_cons_zero, List.set_cons_succ])
        refine wpAnyH_ready (rs := [8]) (by kernel_rfl) (by simp) ?_
        refine AllReadyH.cons (o := ⟨none, _, _, _, _, _⟩) rfl (fun K hK => ?_) AllReadyH.nil
        ((obtain ⟨s0, s1, s2, s3, s4, sf0, sf1, sf2, sf3, sf4⟩ := f0.fiveC)); go_simp
        refine hK.out _ _ ?_ (fun _ => ?_)
        · ((try dsimp only); (exact ⟨hHeld.1.off ((Wr.refl _ _).set_ 2 _) (by simp) (Nat.le_refl _), by simpa using hHeld.2⟩))
        clear hK K
        (try simp only [Act.put, List.setIfInBounds_toArray, List.set_cons_zero, List.set_cons_succ])
        refine gen0 (T := fun W => ((fun W => Mm w W [(w.heap.size + 2, 91, rdz), (w.heap.size + 1, 248, rca x)] [] ∧ w.heap.size + 3 ≤ W.heap.size)) W ∧ Own W (w.heap.size + 3) 248 4 A6 (d.pend.length + 1) c6 (d.pend.flatMap rcl ++ rcl x) ∧ Blk W w.heap.size 91 (rda (dAdd d x) A c A6 c6) ∧ True) ?_ (fun wq26 hT => ?_)
        · exact ⟨by (exact ⟨hHeld.1.off ((Wr.refl _ _).set_ 2 _) (by simp) (Nat.le_refl _), by simpa using hHeld.2⟩), by (exact f1.setOther (fun e => (by have := (Own.lt f1 _ e).1; omega)) _ _), by (exact f0.rkSet x _ _), trivial⟩
        (try clear f0 f1 f2 f3 f4 f5 f6 f7 f8 f9 f10 f11)
        obtain ⟨hHeld, f0, f1, -⟩ := hT
        refine wpAnyH_done (by kernel_rfl) ?_ _
        (obtain ⟨z0, z1, z2, z3, z4, -⟩ := f1.fiveC; have hres := hHeld.1.b0; obtain ⟨r0, r1, r2, r3, r4, rf0, rf1, rf2, rf3, rf4⟩ := hres.fiveC; go_wp2_with fail; exact bodyPost_ret (res_k1 rfl rfl (g := w.heap.size + 2) (hres.st5 _ _ _ _ _)) rfl ⟨A6, c6, rfl, addK_sl (f0.st5 (g := w.heap.size + 2) (by omega) _ _ _ _ _), fun j hj => ⟨hT j (by have := (Own.lt f0 j hj).1; omega), by have := (Own.lt f0 j hj).2; simpa using this⟩, bel_st5 hHeld.1.bel (by omega) _ _ _ _ _⟩)
      exact AllReadyH.nil
    refine AllReadyH.cons (o := ⟨some 10, _, _, _, _, _⟩) rfl (fun K hK => ?_) ?_
    · ((obtain ⟨s0, s1, s2, s3, s4, sf0, sf1, sf2, sf3, sf4⟩ := f0.fiveC)); go_simp
      refine hK.out _ _ ?_ (fun _ => ?_)
      · ((try dsimp only); (exact ⟨hHeld.1.allocO _, by have := hHeld.2; simp; omega⟩))
      clear hK K
      (try simp only [Act.put, List.setIfInBounds_toArray, List.set_cons_zero, List.set_cons_succ])
      refine gen0 (T := fun W => ((fun W => Mm w W [(w.heap.size + 2, 91, rdz), (w.heap.size + 1, 248, rca x)] [] ∧ w.heap.size + 3 ≤ W.heap.size)) W ∧ Blk W w.heap.size 91 (rda d A c B k) ∧ Sl W 4 (some ⟨wq17.heap.size, 0, none⟩) 1 1 (rcl x) ∧ True) ?_ (fun wq27 hT => ?_)
      · exact ⟨by (exact ⟨hHeld.1.allocO _, by have := hHeld.2; simp; omega⟩), by (exact f0.alloc _), by (exact lit_rc _ _), trivial⟩
      (try clear f0 f1 f2 f3 f4 f5 f6 f7 f8 f9 f10 f11)
      obtain ⟨hHeld, f0, f1, -⟩ := hT
      refine wpAnyH_ready (rs := [0]) (by kernel_rfl) (by simp) ?_
      refine AllReadyH.cons (o := ⟨some 5, _, _, _, _, _⟩) rfl (fun K hK => ?_) AllReadyH.nil
      ((obtain ⟨s0, s1, s2, s3, s4, sf0, sf1, sf2, sf3, sf4⟩ := f0.fiveC)); go_simp
      refine hK.out _ _ ?_ (fun _ => ?_)
      · ((try dsimp only); (exact ⟨hHeld.1.allocO _, by have := hHeld.2; simp; omega⟩))
      clear hK K
      (try simp only [Act.put, List.setIfInBounds_toArray, List.set_cons_zero, List.set_cons_succ])
      refine gen0 (T := fun W => ((fun W => Mm w W [(w.heap.size + 2, 91, rdz), (w.heap.size + 1, 248, rca x)] [] ∧ w.heap.size + 3 ≤ W.heap.size)) W ∧ Blk W w.heap.size 91 (rda d A c B k) ∧ Own W (w.heap.size + 3) 248 4 (some ⟨wq27.heap.size, 0, none⟩) 0 0 [] ∧ Sl W 4 (some ⟨wq17.heap.size, 0, none⟩) 1 1 (rcl x) ∧ wq27.heap.size ≠ wq17.heap.size ∧ True) ?_ (fun wq28 hT => ?_)
      · exact ⟨by (exact ⟨hHeld.1.allocO _, by have := hHeld.2; simp; omega⟩), by (exact f0.alloc _), by (exact Own.lit 4 hHeld.2), by (exact Sl.below f1 (below_new _ _)), by (exact fun e => (by have := lit_lt f1 (rcl_pos x); omega)), trivial⟩
      (try clear f0 f1 f2 f3 f4 f5 f6 f7 f8 f9 f10 f11)
      obtain ⟨hHeld, f0, f1, f2, f3, -⟩ := hT
      refine wpAnyH_ready (rs := [3]) (by kernel_rfl) (by simp) ?_
      refine AllReadyH.cons (o := ⟨some 8, _, _, _, _, _⟩) rfl (fun K hK => ?_) AllReadyH.nil
      ((refine step_ck (by kernel_rfl) (.tmp 5) (.tmp 7) rfl (w.heap.size + 3) _ 0 0 [] rfl f1 _ _ _ _ rfl (HK.out.below hHeld.1.bel) (one_rcls _) (by omega) hHeld.2 ?_; rw [Nat.zero_add]; intro A3 c3 w3 ho3 hg3 hb3; rw [List.nil_append] at ho3))
      refine hK.out _ _ ?_ (fun _ => ?_)
      · ((try dsimp only); (exact ⟨hHeld.1.above hb3 (by simp) (by omega), Nat.le_trans hHeld.2 hb3.size⟩))
      clear hK K
      (try simp only [Act.put, List.setIfInBounds_toArray, List.set_cons_zero, List.set_cons_succ])
      refine gen0 (T := fun W => ((fun W => Mm w W [(w.heap.size + 2, 91, rdz), (w.heap.size + 1, 248, rca x)] [] ∧ w.heap.size + 3 ≤ W.heap.size)) W ∧ Blk W w.heap.size 91 (rda d A c B k) ∧ Own W (w.heap.size + 3) 248 4 A3 d.pend.length c3 (d.pend.flatMap rcl) ∧ Sl W 4 (some ⟨wq17.heap.size, 0, none⟩) 1 1 (rcl x) ∧ True) ?_ (fun wq29 hT => ?_)
      · exact ⟨by (exact ⟨hHeld.1.above hb3 (by simp) (by omega), Nat.le_trans hHeld.2 hb3.size⟩), by (exact (hb3.block _ (by omega)).trans f0), by (with_reducible assumption), by (exact lit_kept f2 (rcl_pos x) hg3 f3), trivial⟩
      (try clear f0 f1 f2 f3 f4 f5 f6 f7 f8 f9 f10 f11)
      obtain ⟨hHeld, f0, f1, f2, -⟩ := hT
      refine wpAnyH_ready (rs := [6]) (by kernel_rfl) (by simp) ?_
      refine AllReadyH.cons (o := ⟨some 11, _, _, _, _, _⟩) rfl (fun K hK => ?_) AllReadyH.nil
      ((refine step_ck (by kernel_rfl) (.tmp 8) (.tmp 10) rfl (w.heap.size + 3) A3 _ c3 _ rfl f1 _ 1 1 _ rfl f2 (one_rcl x) (by omega) hHeld.2 ?_; intro A6 c6 w6 ho6 hg6 hb6))
      refine hK.out _ _ ?_ (fun _ => ?_)
      · ((try dsimp only); (exact ⟨hHeld.1.above hb6 (by simp) (by omega), Nat.le_trans hHeld.2 hb6.size⟩))
      clear hK K
      (try simp only [Act.put, List.setIfInBounds_toArray, List.set_cons_zero, List.set_cons_succ])
      refine gen0 (T := fun W => ((fun W => Mm w W [(w.heap.size + 2, 91, rdz), (w.heap.size + 1, 248, rca x)] [] ∧ w.heap.size + 3 ≤ W.heap.size)) W ∧ Blk W w.heap.size 91 (rda d A c B k) ∧ Own W (w.heap.size + 3) 248 4 A6 (d.pend.length + 1) c6 (d.pend.flatMap rcl ++ rcl x) ∧ True) ?_ (fun wq30 hT => ?_)
      · exact ⟨by (exact ⟨hHeld.1.above hb6 (by simp) (by omega), Nat.le_trans hHeld.2 hb6.size⟩), by (exact (hb6.block _ (by omega)).trans f0), by (with_reducible assumption), trivial⟩
      (try clear f0 f1 f2 f3 f4 f5 f6 f7 f8 f9 f10 f11)
      obtain ⟨hHeld, f0, f1, -⟩ := hT
      refine wpAnyH_take (i := 7) (oi := ⟨some 12, _, _, _, _, _⟩) (v := ?_) rfl (by kernel_rfl) (by kernel_rfl) (by kernel_rfl) (fun _ _ _ h => h) (Or.inl ⟨by kernel_rfl, ?_⟩) (by assumption) ?_
      rotate_left
      · (intro wS hSw; (try dsimp only at hSw); obtain ⟨y0, y1, y2, y3⟩ := hSw.1.b1.fourC; clear hSw; go_simp; (try with_reducible rfl))
      (try simp only [Act.put, List.setIfInBounds_toArray, List.set_cons_zero, List.set_cons_succ])
      refine wpAnyH_ready (rs := [8]) (by kernel_rfl) (by simp) ?_
      refine AllReadyH.cons (o := ⟨none, _, _, _, _, _⟩) rfl (fun K hK => ?_) AllReadyH.nil
      ((obtain ⟨s0, s1, s2, s3, s4, sf0, sf1, sf2, sf3, sf4⟩ := f0.fiveC)); go_simp
      refine hK.out _ _ ?_ (fun _ => ?_)
      · ((try dsimp only); (exact ⟨hHeld.1.off ((Wr.refl _ _).set_ 2 _) (by simp) (Nat.le_refl _), by simpa using hHeld.2⟩))
      clear hK K
      (try simp only [Act.put, List.setIfInBounds_toArray, List.set_cons_zero, List.set_cons_succ])
      refine gen0 (T := fun W => ((fun W => Mm w W [(w.heap.size + 2, 91, rdz), (w.heap.size + 1, 248, rca x)] [] ∧ w.heap.size + 3 ≤ W.heap.size)) W ∧ Own W (w.heap.size + 3) 248 4 A6 (d.pend.length + 1) c6 (d.pend.flatMap rcl ++ rcl x) ∧ Blk W w.heap.size 91 (rda (dAdd d x) A c A6 c6) ∧ True) ?_ (fun wq31 hT => ?_)
      · exact ⟨by (exact ⟨hHeld.1.off ((Wr.refl _ _).set_ 2 _) (by simp) (Nat.le_refl _), by simpa using hHeld.2⟩), by (exact f1.setOther (fun e => (by have := (Own.lt f1 _ e).1; omega)) _ _), by (exact f0.rkSet x _ _), trivial⟩
      (try clear f0 f1 f2 f3 f4 f5 f6 f7 f8 f9 f10 f11)
      obtain ⟨hHeld, f0, f1, -⟩ := hT
      refine wpAnyH_done (by kernel_rfl) ?_ _
      (obtain ⟨z0, z1, z2, z3, z4, -⟩ := f1.fiveC; have hres := hHeld.1.b0; obtain ⟨r0, r1, r2, r3, r4, rf0, rf1, rf2, rf3, rf4⟩ := hres.fiveC; go_wp2_with fail; exact bodyPost_ret (res_k1 rfl rfl (g := w.heap.size + 2) (hres.st5 _ _ _ _ _)) rfl ⟨A6, c6, rfl, addK_sl (f0.st5 (g := w.heap.size + 2) (by omega) _ _ _ _ _), fun j hj => ⟨hT j (by have := (Own.lt f0 j hj).1; omega), by have := (Own.lt f0 j hj).2; simpa using this⟩, bel_st5 hHeld.1.bel (by omega) _ _ _ _ _⟩)
    exact AllReadyH.nil
  refine AllReadyH.cons (o := ⟨some 10, _, _, _, _, _⟩) rfl (fun K hK => ?_) ?_
  · ((obtain ⟨s0, s1, s2, s3, s4, sf0, sf1, sf2, sf3, sf4⟩ := f0.fiveC)); go_simp
    refine hK.out _ _ ?_ (fun _ => ?_)
    · ((try dsimp only); (exact ⟨hHeld.1.allocO _, by have := hHeld.2; simp; omega⟩))
    clear hK K
    (try simp only [Act.put, List.setIfInBounds_toArray, List.set_cons_zero, List.set_cons_succ])
    refine gen0 (T := fun W => ((fun W => Mm w W [(w.heap.size + 2, 91, rdz), (w.heap.size + 1, 248, rca x)] [] ∧ w.heap.size + 3 ≤ W.heap.size)) W ∧ Blk W w.heap.size 91 (rda d A c B k) ∧ Sl W 4 (some ⟨wq1.heap.size, 0, none⟩) 1 1 (rcl x) ∧ True) ?_ (fun wq32 hT => ?_)
    · exact ⟨by (exact ⟨hHeld.1.allocO _, by have := hHeld.2; simp; omega⟩), by (exact f0.alloc _), by (exact lit_rc _ _), trivial⟩
    (try clear f0 f1 f2 f3 f4 f5 f6 f7 f8 f9 f10 f11)
    obtain ⟨hHeld, f0, f1, -⟩ := hT
    refine wpAnyH_ready (rs := [0, 2]) (by kernel_rfl) (by simp) ?_
    refine AllReadyH.cons (o := ⟨some 5, _, _, _, _, _⟩) rfl (fun K hK => ?_) ?_
    · ((obtain ⟨s0, s1, s2, s3, s4, sf0, sf1, sf2, sf3, sf4⟩ := f0.fiveC)); go_simp
      refine hK.out _ _ ?_ (fun _ => ?_)
      · ((try dsimp only); (exact ⟨hHeld.1.allocO _, by have := hHeld.2; simp; omega⟩))
      clear hK K
      (try simp only [Act.put, List.setIfInBounds_toArray, List.set_cons_zero, List.set_cons_succ])
      refine gen0 (T := fun W => ((fun W => Mm w W [(w.heap.size + 2, 91, rdz), (w.heap.size + 1, 248, rca x)] [] ∧ w.heap.size + 3 ≤ W.heap.size)) W ∧ Blk W w.heap.size 91 (rda d A c B k) ∧ Own W (w.heap.size + 3) 248 4 (some ⟨wq32.heap.size, 0, none⟩) 0 0 [] ∧ Sl W 4 (some ⟨wq1.heap.size, 0, none⟩) 1 1 (rcl x) ∧ wq32.heap.size ≠ wq1.heap.size ∧ True) ?_ (fun wq33 hT => ?_)
      · exact ⟨by (exact ⟨hHeld.1.allocO _, by have := hHeld.2; simp; omega⟩), by (exact f0.alloc _), by (exact Own.lit 4 hHeld.2), by (exact Sl.below f1 (below_new _ _)), by (exact fun e => (by have := lit_lt f1 (rcl_pos x); omega)), trivial⟩
      (try clear f0 f1 f2 f3 f4 f5 f6 f7 f8 f9 f10 f11)
      obtain ⟨hHeld, f0, f1, f2, f3, -⟩ := hT
      refine wpAnyH_ready (rs := [2]) (by kernel_rfl) (by simp) ?_
      refine AllReadyH.cons (o := ⟨some 7, _, _, _, _, _⟩) rfl (fun K hK => ?_) AllReadyH.nil
      ((obtain ⟨s0, s1, s2, s3, s4, sf0, sf1, sf2, sf3, sf4⟩ := f0.fiveC)); go_simp
      refine hK.out _ _ ?_ (fun _ => ?_)
      · ((try dsimp only); (with_reducible exact hHeld))
      clear hK K
      (try simp only [Act.put, List.setIfInBounds_toArray, List.set_cons_zero, List.set_cons_succ])
      refine gen0 (T := fun W => ((fun W => Mm w W [(w.heap.size + 2, 91, rdz), (w.heap.size + 1, 248, rca x)] [] ∧ w.heap.size + 3 ≤ W.heap.size)) W ∧ Blk W w.heap.size 91 (rda d A c B k) ∧ Own W (w.heap.size + 3) 248 4 (some ⟨wq32.heap.size, 0, none⟩) 0 0 [] ∧ Sl W 4 (some ⟨wq1.heap.size, 0, none⟩) 1 1 (rcl x) ∧ wq32.heap.size ≠ wq1.heap.size ∧ True) ?_ (fun wq34 hT => ?_)
      · exact ⟨by (with_reducible exact hHeld), by (with_reducible assumption), by (with_reducible assumption), by (with_reducible assumption), by (with_reducible assumption), trivial⟩
      (try clear f0 f1 f2 f3 f4 f5 f6 f7 f8 f9 f10 f11)
      obtain ⟨hHeld, f0, f1, f2, f3, -⟩ := hT
      refine wpAnyH_ready (rs := [3]) (by kernel_rfl) (by simp) ?_
      refine AllReadyH.cons (o := ⟨some 8, _, _, _, _, _⟩) rfl (fun K hK => ?_) AllReadyH.nil
      ((refine step_ck (by kernel_rfl) (.tmp 5) (.tmp 7) rfl (w.heap.size + 3) _ 0 0 [] rfl f1 _ _ _ _ rfl (HK.out.below hHeld.1.bel) (one_rcls _) (by omega) hHeld.2 ?_; rw [Nat.zero_add]; intro A3 c3 w3 ho3 hg3 hb3; rw [List.nil_append] at ho3))
      refine hK.out _ _ ?_ (fun _ => ?_)
      · ((try dsimp only); (exact ⟨hHeld.1.above hb3 (by simp) (by omega), Nat.le_trans hHeld.2 hb3.size⟩))
      clear hK K
      (try simp only [Act.put, List.setIfInBounds_toArray, List.set_cons_zero, List.set_cons_succ])
      refine gen0 (T := fun W => ((fun W => Mm w W [(w.heap.size + 2, 91, rdz), (w.heap.size + 1, 248, rca x)] [] ∧ w.heap.size + 3 ≤ W.heap.size)) W ∧ Blk W w.heap.size 91 (rda d A c B k) ∧ Own W (w.heap.size + 3) 248 4 A3 d.pend.length c3 (d.pend.flatMap rcl) ∧ Sl W 4 (some ⟨wq1.heap.size, 0, none⟩) 1 1 (rcl x) ∧ True) ?_ (fun wq35 hT => ?_)
      · exact ⟨by (exact ⟨hHeld.1.above hb3 (by simp) (by omega), Nat.le_trans hHeld.2 hb3.size⟩), by (exact (hb3.block _ (by omega)).trans f0), by (with_reducible assumption), by (exact lit_kept f2 (rcl_pos x) hg3 f3), trivial⟩
      (try clear f0 f1 f2 f3 f4 f5 f6 f7 f8 f9 f10 f11)
      obtain ⟨hHeld, f0, f1, f2, -⟩ := hT
      refine wpAnyH_ready (rs := [6]) (by kernel_rfl) (by simp) ?_
      refine AllReadyH.cons (o := ⟨some 11, _, _, _, _, _⟩) rfl (fun K hK => ?_) AllReadyH.nil
      ((refine step_ck (by kernel_rfl) (.tmp 8) (.tmp 10) rfl (w.heap.size + 3) A3 _ c3 _ rfl f1 _ 1 1 _ rfl f2 (one_rcl x) (by omega) hHeld.2 ?_; intro A6 c6 w6 ho6 hg6 hb6))
      refine hK.out _ _ ?_ (fun _ => ?_)
      · ((try dsimp only); (exact ⟨hHeld.1.above hb6 (by simp) (by omega), Nat.le_trans hHeld.2 hb6.size⟩))
      clear hK K
      (try simp only [Act.put, List.setIfInBounds_toArray, List.set_cons_zero, List.set_cons_succ])
      refine gen0 (T := fun W => ((fun W => Mm w W [(w.heap.size + 2, 91, rdz), (w.heap.size + 1, 248, rca x)] [] ∧ w.heap.size + 3 ≤ W.heap.size)) W ∧ Blk W w.heap.size 91 (rda d A c B k) ∧ Own W (w.heap.size + 3) 248 4 A6 (d.pend.length + 1) c6 (d.pend.flatMap rcl ++ rcl x) ∧ True) ?_ (fun wq36 hT => ?_)
      · exact ⟨by (exact ⟨hHeld.1.above hb6 (by simp) (by omega), Nat.le_trans hHeld.2 hb6.size⟩), by (exact (hb6.block _ (by omega)).trans f0), by (with_reducible assumption), trivial⟩
      (try clear f0 f1 f2 f3 f4 f5 f6 f7 f8 f9 f10 f11)
      obtain ⟨hHeld, f0, f1, -⟩ := hT
      refine wpAnyH_take (i := 7) (oi := ⟨some 12, _, _, _, _, _⟩) (v := ?_) rfl (by kernel_rfl) (by kernel_rfl) (by kernel_rfl) (fun _ _ _ h => h) (Or.inl ⟨by kernel_rfl, ?_⟩) (by assumption) ?_
      rotate_left
      · (intro wS hSw; (try dsimp only at hSw); obtain ⟨y0, y1, y2, y3⟩ := hSw.1.b1.fourC; clear hSw; go_simp; (try with_reducible rfl))
      (try simp only [Act.put, List.setIfInBounds_toArray, List.set_cons_zero, List.set_cons_succ])
      refine wpAnyH_ready (rs := [8]) (by kernel_rfl) (by simp) ?_
      refine AllReadyH.cons (o := ⟨none, _, _, _, _, _⟩) rfl (fun K hK => ?_) AllReadyH.nil
      ((obtain ⟨s0, s1, s2, s3, s4, sf0, sf1, sf2, sf3, sf4⟩ := f0.fiveC)); go_simp
      refine hK.out _ _ ?_ (fun _ => ?_)
      · ((try dsimp only); (exact ⟨hHeld.1.off ((Wr.refl _ _).set_ 2 _) (by simp) (Nat.le_refl _), by simpa using hHeld.2⟩))
      clear hK K
      (try simp only [Act.put, List.setIfInBounds_toArray, List.set_cons_zero, List.set_cons_succ])
      refine gen0 (T := fun W => ((fun W => Mm w W [(w.heap.size + 2, 91, rdz), (w.heap.size + 1, 248, rca x)] [] ∧ w.heap.size + 3 ≤ W.heap.size)) W ∧ Own W (w.heap.size + 3) 248 4 A6 (d.pend.length + 1) c6 (d.pend.flatMap rcl ++ rcl x) ∧ Blk W w.heap.size 91 (rda (dAdd d x) A c A6 c6) ∧ True) ?_ (fun wq37 hT => ?_)
      · exact ⟨by (exact ⟨hHeld.1.off ((Wr.refl _ _).set_ 2 _) (by simp) (Nat.le_refl _), by simpa using hHeld.2⟩), by (exact f1.setOther (fun e => (by have := (Own.lt f1 _ e).1; omega)) _ _), by (exact f0.rkSet x _ _), trivial⟩
      (try clear f0 f1 f2 f3 f4 f5 f6 f7 f8 f9 f10 f11)
      obtain ⟨hHeld, f0, f1, -⟩ := hT
      refine wpAnyH_done (by kernel_rfl) ?_ _
      (obtain ⟨z0, z1, z2, z3, z4, -⟩ := f1.fiveC; have hres := hHeld.1.b0; obtain ⟨r0, r1, r2, r3, r4, rf0, rf1, rf2, rf3, rf4⟩ := hres.fiveC; go_wp2_with fail; exact bodyPost_ret (res_k1 rfl rfl (g := w.heap.size + 2) (hres.st5 _ _ _ _ _)) rfl ⟨A6, c6, rfl, addK_sl (f0.st5 (g := w.heap.size + 2) (by omega) _ _ _ _ _), fun j hj => ⟨hT j (by have := (Own.lt f0 j hj).1; omega), by have := (Own.lt f0 j hj).2; simpa using this⟩, bel_st5 hHeld.1.bel (by omega) _ _ _ _ _⟩)
    refine AllReadyH.cons (o := ⟨some 7, _, _, _, _, _⟩) rfl (fun K hK => ?_) ?_
    · ((obtain ⟨s0, s1, s2, s3, s4, sf0, sf1, sf2, sf3, sf4⟩ := f0.fiveC)); go_simp
      refine hK.out _ _ ?_ (fun _ => ?_)
      · ((try dsimp only); (with_reducible exact hHeld))
      clear hK K
      (try simp only [Act.put, List.setIfInBounds_toArray, List.set_cons_zero, List.set_cons_succ])
      refine gen0 (T := fun W => ((fun W => Mm w W [(w.heap.size + 2, 91, rdz), (w.heap.size + 1, 248, rca x)] [] ∧ w.heap.size + 3 ≤ W.heap.size)) W ∧ Blk W w.heap.size 91 (rda d A c B k) ∧ Sl W 4 (some ⟨wq1.heap.size, 0, none⟩) 1 1 (rcl x) ∧ True) ?_ (fun wq38 hT => ?_)
      · exact ⟨by (with_reducible exact hHeld), by (with_reducible assumption), by (with_reducible assumption), trivial⟩
      (try clear f0 f1 f2 f3 f4 f5 f6 f7 f8 f9 f10 f11)
      obtain ⟨hHeld, f0, f1, -⟩ := hT
      refine wpAnyH_ready (rs := [0]) (by kernel_rfl) (by simp) ?_
      refine AllReadyH.cons (o := ⟨some 5, _, _, _, _, _⟩) rfl (fun K hK => ?_) AllReadyH.nil
      ((obtain ⟨s0, s1, s2, s3, s4, sf0, sf1, sf2, sf3, sf4⟩ := f0.fiveC)); go_simp
      refine hK.out _ _ ?_ (fun _ => ?_)
      · ((try dsimp only); (exact ⟨hHeld.1.allocO _, by have := hHeld.2; simp; omega⟩))
      clear hK K
      (try simp only [Act.put, List.setIfInBounds_toArray, List.set_cons_zero, List.set_cons_succ])
      refine gen0 (T := fun W => ((fun W => Mm w W [(w.heap.size + 2, 91, rdz), (w.heap.size + 1, 248, rca x)] [] ∧ w.heap.size + 3 ≤ W.heap.size)) W ∧ Blk W w.heap.size 91 (rda d A c B k) ∧ Own W (w.heap.size + 3) 248 4 (some ⟨wq38.heap.size, 0, none⟩) 0 0 [] ∧ Sl W 4 (some ⟨wq1.heap.size, 0, none⟩) 1 1 (rcl x) ∧ wq38.heap.size ≠ wq1.heap.size ∧ True) ?_ (fun wq39 hT => ?_)
      · exact ⟨by (exact ⟨hHeld.1.allocO _, by have := hHeld.2; simp; omega⟩), by (exact f0.alloc _), by (exact Own.lit 4 hHeld.2), by (exact Sl.below f1 (below_new _ _)), by (exact fun e => (by have := lit_lt f1 (rcl_pos x); omega)), trivial⟩
      (try clear f0 f1 f2 f3 f4 f5 f6 f7 f8 f9 f10 f11)
      obtain ⟨hHeld, f0, f1, f2, f3, -⟩ := hT
      refine wpAnyH_ready (rs := [3]) (by kernel_rfl) (by simp) ?_
      refine AllReadyH.cons (o := ⟨some 8, _, _, _, _, _⟩) rfl (fun K hK => ?_) AllReadyH.nil
      ((refine step_ck (by kernel_rfl) (.tmp 5) (.tmp 7) rfl (w.heap.size + 3) _ 0 0 [] rfl f1 _ _ _ _ rfl (HK.out.below hHeld.1.bel) (one_rcls _) (by omega) hHeld.2 ?_; rw [Nat.zero_add]; intro A3 c3 w3 ho3 hg3 hb3; rw [List.nil_append] at ho3))
      refine hK.out _ _ ?_ (fun _ => ?_)
      · ((try dsimp only); (exact ⟨hHeld.1.above hb3 (by simp) (by omega), Nat.le_trans hHeld.2 hb3.size⟩))
      clear hK K
      (try simp only [Act.put, List.setIfInBounds_toArray, List.set_cons_zero, List.set_cons_succ])
      refine gen0 (T := fun W => ((fun W => Mm w W [(w.heap.size + 2, 91, rdz), (w.heap.size + 1, 248, rca x)] [] ∧ w.heap.size + 3 ≤ W.heap.size)) W ∧ Blk W w.heap.size 91 (rda d A c B k) ∧ Own W (w.heap.size + 3) 248 4 A3 d.pend.length c3 (d.pend.flatMap rcl) ∧ Sl W 4 (some ⟨wq1.heap.size, 0, none⟩) 1 1 (rcl x) ∧ True) ?_ (fun wq40 hT => ?_)
      · exact ⟨by (exact ⟨hHeld.1.above hb3 (by simp) (by omega), Nat.le_trans hHeld.2 hb3.size⟩), by (exact (hb3.block _ (by omega)).trans f0), by (with_reducible assumption), by (exact lit_kept f2 (rcl_pos x) hg3 f3), trivial⟩
      (try clear f0 f1 f2 f3 f4 f5 f6 f7 f8 f9 f10 f11)
      obtain ⟨hHeld, f0, f1, f2, -⟩ := hT
      refine wpAnyH_ready (rs := [6]) (by kernel_rfl) (by simp) ?_
      refine AllReadyH.cons (o := ⟨some 11, _, _, _, _, _⟩) rfl (fun K hK => ?_) AllReadyH.nil
      ((refine step_ck (by kernel_rfl) (.tmp 8) (.tmp 10) rfl (w.heap.size + 3) A3 _ c3 _ rfl f1 _ 1 1 _ rfl f2 (one_rcl x) (by omega) hHeld.2 ?_; intro A6 c6 w6 ho6 hg6 hb6))
      refine hK.out _ _ ?_ (fun _ => ?_)
      · ((try dsimp only); (exact ⟨hHeld.1.above hb6 (by simp) (by omega), Nat.le_trans hHeld.2 hb6.size⟩))
      clear hK K
      (try simp only [Act.put, List.setIfInBounds_toArray, List.set_cons_zero, List.set_cons_succ])
      refine gen0 (T := fun W => ((fun W => Mm w W [(w.heap.size + 2, 91, rdz), (w.heap.size + 1, 248, rca x)] [] ∧ w.heap.size + 3 ≤ W.heap.size)) W ∧ Blk W w.heap.size 91 (rda d A c B k) ∧ Own W (w.heap.size + 3) 248 4 A6 (d.pend.length + 1) c6 (d.pend.flatMap rcl ++ rcl x) ∧ True) ?_ (fun wq41 hT => ?_)
      · exact ⟨by (exact ⟨hHeld.1.above hb6 (by simp) (by omega), Nat.le_trans hHeld.2 hb6.size⟩), by (exact (hb6.block _ (by omega)).trans f0), by (with_reducible assumption), trivial⟩
      (try clear f0 f1 f2 f3 f4 f5 f6 f7 f8 f9 f10 f11)
      obtain ⟨hHeld, f0, f1, -⟩ := hT
      refine wpAnyH_take (i := 7) (oi := ⟨some 12, _, _, _, _, _⟩) (v := ?_) rfl (by kernel_rfl) (by kernel_rfl) (by kernel_rfl) (fun _ _ _ h => h) (Or.inl ⟨by kernel_rfl, ?_⟩) (by assumption) ?_
      rotate_left
      · (intro wS hSw; (try dsimp only at hSw); obtain ⟨y0, y1, y2, y3⟩ := hSw.1.b1.fourC; clear hSw; go_simp; (try with_reducible rfl))
      (try simp only [Act.put, List.setIfInBounds_toArray, List.set_cons_zero, List.set_cons_succ])
      refine wpAnyH_ready (rs := [8]) (by kernel_rfl) (by simp) ?_
      refine AllReadyH.cons (o := ⟨none, _, _, _, _, _⟩) rfl (fun K hK => ?_) AllReadyH.nil
      ((obtain ⟨s0, s1, s2, s3, s4, sf0, sf1, sf2, sf3, sf4⟩ := f0.fiveC)); go_simp
      refine hK.out _ _ ?_ (fun _ => ?_)
      · ((try dsimp only); (exact ⟨hHeld.1.off ((Wr.refl _ _).set_ 2 _) (by simp) (Nat.le_refl _), by simpa using hHeld.2⟩))
      clear hK K
      (try simp only [Act.put, List.setIfInBounds_toArray, List.set_cons_zero, List.set_cons_succ])
      refine gen0 (T := fun W => ((fun W => Mm w W [(w.heap.size + 2, 91, rdz), (w.heap.size + 1, 248, rca x)] [] ∧ w.heap.size + 3 ≤ W.heap.size)) W ∧ Own W (w.heap.size + 3) 248 4 A6 (d.pend.length + 1) c6 (d.pend.flatMap rcl ++ rcl x) ∧ Blk W w.heap.size 91 (rda (dAdd d x) A c A6 c6) ∧ True) ?_ (fun wq42 hT => ?_)
      · exact ⟨by (exact ⟨hHeld.1.off ((Wr.refl _ _).set_ 2 _) (by simp) (Nat.le_refl _), by simpa using hHeld.2⟩), by (exact f1.setOther (fun e => (by have := (Own.lt f1 _ e).1; omega)) _ _), by (exact f0.rkSet x _ _), trivial⟩
      (try clear f0 f1 f2 f3 f4 f5 f6 f7 f8 f9 f10 f11)
      obtain ⟨hHeld, f0, f1, -⟩ := hT
      refine wpAnyH_done (by kernel_rfl) ?_ _
      (obtain ⟨z0, z1, z2, z3, z4, -⟩ := f1.fiveC; have hres := hHeld.1.b0; obtain ⟨r0, r1, r2, r3, r4, rf0, rf1, rf2, rf3, rf4⟩ := hres.fiveC; go_wp2_with fail; exact bodyPost_ret (res_k1 rfl rfl (g := w.heap.size + 2) (hres.st5 _ _ _ _ _)) rfl ⟨A6, c6, rfl, addK_sl (f0.st5 (g := w.heap.size + 2) (by omega) _ _ _ _ _), fun j hj => ⟨hT j (by have := (Own.lt f0 j hj).1; omega), by have := (Own.lt f0 j hj).2; simpa using this⟩, bel_st5 hHeld.1.bel (by omega) _ _ _ _ _⟩)
    exact AllReadyH.nil
  exact AllReadyH.nil

end Go.Proofs.YtabnndjdkjkciaaGreatDoor
