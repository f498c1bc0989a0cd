/- WHAT IT HOLDS: the cursor's taker, walked: an address. A part's steps. | WHAT IT HOLDS: the cursor that bytes are, plainly (no program). | WHAT IT HOLDS: a cursor's bytes, put and taken, plainly (no program). -/
import Derived.Test.YtabnndjdkjkciaaGreatDoorCursorKeepsG19
import Derived.Test.YtabnndjdkjkciaaGreatDoorCursorKeepsG05
import Derived.Test.YtabnndjdkjkciaaGreatDoorCursorKeepsG18
namespace Go.Proofs.YtabnndjdkjkciaaGreatDoor
open Go.RowKit
attribute [local go_sem ↓] Go.wp_at_zero Go.wp_at_succ

set_option maxRecDepth 100000 in
set_option maxHeartbeats 400000 in
theorem TkAddr_any {w : World} {g B : Nat} {s : List UInt8 × Nat} (hR : IsR w g B s) : Calls Tryz.prog 140 #[.agg #[.pointer (some ⟨g, 0, none⟩)]] w fun e w' => e = .returned (.int .i64 ((rWithin 1048576 s).1 : Nat)) ∧ IsR w' g B (rWithin 1048576 s).2 ∧ Wr w w' g := by
  have hR1 := hR.below (below_new w (.cells #[.pointer (some ⟨g, 0, none⟩)] 232))
  have hw1 : Wr w (w.alloc (.cells #[.pointer (some ⟨g, 0, none⟩)] 232)) g := (Wr.refl _ _).alloc _
  go_enter Tryz.func140, Tryz.ntmps140
  go_wp2_with fail
  refine (Within_any 1048576 hR1).mono ?_
  rintro e w2 ⟨rfl, hR2, hr2⟩
  go_wp2_with fail
  go_ret
  exact ⟨rfl, hR2, hw1.trans hr2⟩
/-- a part that is stored into a block of its own -/
theorem step_storeP {ops : Array Oper} {o : Oper} {a : Act} {w : World} {K : Act → World → Prop} {Q : Exit → Act → World → Prop} {X : Prop} (hgd : Region.wanted o (yielded ops a.tmps) = true) (x y : Operand) (ho : o.op = .store 28 x y)
    (g : Nat) (old p : Pt5) (hx : a.eval x = .pointer (some ⟨g, 0, none⟩)) (hy : a.eval y = .agg (pta p)) (hB : Blk w g 28 (pta old))
    (h : K (a.put o.dst undef) (w.setRow g (pta p))) : if Region.wanted o (yielded ops a.tmps) = true then Oper.wp Tryz.prog o a w K Q else X := by
  rw [if_pos hgd]
  exact wp_store_row 28 x y ho g (pta p) hx hy 28 (pta old) hB (by rw [pta_size]; kernel_rfl) (by rw [pta_size, pta_size]) (pta_all p) h
theorem Blk.row {w : World} {g : Nat} {t : TypeId} {old cs : Array Value} (h : Blk w g t old) : Blk (w.setRow g cs) g t cs := setRow_heap w g old cs t (0, 0) h
theorem Blk.rowFar {w : World} {g k : Nat} {t : TypeId} {cs : Array Value} (h : Blk w k t cs) (hk : k ≠ g) (c2 : Array Value) : Blk (w.setRow g c2) k t cs := (setRow_other w g k c2 hk).trans h
theorem IsR.row {w : World} {g B gc : Nat} {s : List UInt8 × Nat} (h : IsR w g B s) (h1 : g < gc) (h2 : B ≤ gc) (cs : Array Value) : IsR (w.setRow gc cs) g B s := h.apart (C := gc) h1 h2 (below_setRow (Below.refl _ _) (Nat.le_refl gc) cs)
theorem part_splice (a x y : Int) (m : List UInt8) (hm : m.length = 32) : splice (ptl (a, x, y, dg0)) 3 (bvs m) = ptl (a, x, y, ⟨m, hm⟩) := by
  have hd := dg0.2
  simp [splice, ptl, hm]
  omega
/-- the taker's and the result's block, while a part is taken -/
structure TkP (w W : World) (g : Nat) : Prop where
  wr : Wr w W g
  tk : Blk W w.heap.size 232 #[.pointer (some ⟨g, 0, none⟩)]
  res : Blk W (w.heap.size + 1) 28 (pta (0, 0, 0, dg0))
  lt : g < w.heap.size
structure GpC (w W : World) (gc : Nat) (p : Pt5) : Prop where
  blk : Blk W gc 28 (pta p)
  lt : w.heap.size + 1 < gc
section
variable {w W W' : World} {g gc B : Nat} {p : Pt5}
theorem TkP.drew (h : TkP w W g) : TkP w W.drew g := ⟨h.wr.drew, h.tk.drew, h.res.drew, h.lt⟩
theorem TkP.alloc (h : TkP w W g) (o : Obj) : TkP w (W.alloc o) g := ⟨h.wr.alloc o, h.tk.alloc o, h.res.alloc o, h.lt⟩
theorem TkP.read (h : TkP w W g) (hr : Wr W W' g) : TkP w W' g :=
  have := h.lt
  ⟨h.wr.trans hr, h.tk.wr hr (by omega), h.res.wr hr (by omega), h.lt⟩
theorem TkP.row (h : TkP w W g) (hg : w.heap.size + 1 < gc) (cs : Array Value) : TkP w (W.setRow gc cs) g :=
  ⟨⟨h.wr.os, h.wr.tape, h.wr.output, by simpa using h.wr.size, fun i hi hn => (setRow_other W gc i cs (by omega)).trans (h.wr.block i hi hn)⟩, h.tk.rowFar (by omega) cs, h.res.rowFar (by omega) cs, h.lt⟩
theorem TkP.apart (h : TkP w W g) (hg : w.heap.size + 1 < gc) (hb : Below gc W W') : TkP w W' g :=
  ⟨⟨hb.os.trans h.wr.os, hb.tape.trans h.wr.tape, hb.output.trans h.wr.output, Nat.le_trans h.wr.size hb.size, fun i hi hn => (hb.block i (by omega)).trans (h.wr.block i hi hn)⟩, (hb.block _ (by omega)).trans h.tk, (hb.block _ hg).trans h.res, h.lt⟩
theorem GpC.read (h : GpC w W gc p) (hT : TkP w W g) (hr : Wr W W' g) : GpC w W' gc p :=
  have := h.lt
  have := hT.lt
  ⟨h.blk.wr hr (by omega), h.lt⟩
theorem GpC.new (h : TkP w W g) : GpC w (W.alloc (.cells (pta (0, 0, 0, dg0)) 28)) W.heap.size (0, 0, 0, dg0) := ⟨Blk.new _ _ _, h.res.lt⟩
theorem GpC.row (h : GpC w W gc p) (q : Pt5) : GpC w (W.setRow gc (pta q)) gc q := ⟨h.blk.row, h.lt⟩
end
theorem run_copy_none {P : Program} (w : World) (dT sT ty elem : TypeId) (k : Nat) (d : Option Addr) (dLen dCap sCap : Nat) (hu : P.underlying dT = some (.slice elem)) (hs : (P.info? elem).map (·.size) = some k) :
    (Builtin.copy_ #[dT, sT] ty #[.slice d dLen dCap, .slice none 0 sCap]).run P w = .ok (goInt 0) w := by
  cases hq : P.info? elem with
  | none => simp [hq] at hs
  | some i => cases d <;> simp [Builtin.copy_, run_underlying hu, Builtin.lenOf, Builtin.firstCells, sizeOf, typeInfo, hq, loadCells, storeCells]
theorem splice_nil (l : List Value) (k : Nat) : splice l k [] = l := by simp [splice]
set_option maxRecDepth 100000 in
/-- a digest's bytes, or none, copied into a part -/
theorem step_copyD {ops : Array Oper} {o : Oper} {a : Act} {w : World} {K : Act → World → Prop} {Q : Exit → Act → World → Prop} {E : Prop} (hgd : o.guard = none) (d s : Operand)
    (ho : o.op = .call { callee := .builtin .copy, args := #[d, s], argTypes := #[29, 29] }) (gc : Nat) (f x y : Int) (hB : Blk w gc 28 (pta (f, x, y, dg0))) (hd : a.eval d = .slice (some ⟨gc, 3, none⟩) 32 32)
    (A : Option Addr) (c : Nat) (m : List UInt8) (hs : a.eval s = .slice A m.length c) (hS : SlB w A c m) (hm : m.length = 0 ∨ m.length = 32)
    (h : ∀ w' v, Blk w' gc 28 (pta (f, x, y, if h : m.length = 32 then ⟨m, h⟩ else dg0)) → Below gc w w' → K (a.put o.dst v) w') :
    if Region.wanted o (yielded ops a.tmps) = true then Oper.wp Tryz.prog o a w K Q else E := by
  have hu8 : (Tryz.prog.info? 5).map (·.size) = some 1 := by kernel_rfl
  cases A with
  | none =>
    have h0 := hS.2.2.2.1 rfl
    have h1 := hS.2.1
    have hl : m.length = 0 := by omega
    have hw : Region.wanted o (yielded ops a.tmps) = true := by simp [Region.wanted, hgd]
    rw [if_pos hw]
    rw [hl] at hs
    have hrun := run_copy_none (P := Tryz.prog) w 29 29 o.type 5 1 (some ⟨gc, 3, none⟩) 32 32 c Tryz.underlying29 hu8
    unfold Oper.wp
    simp [execOp, ho, resolve, invoke, builtin, hd, hs, hrun, Result.andThen]
    refine h _ _ ?_ (Below.refl _ _)
    rw [dif_neg (by omega)]
    exact hB
  | some ad =>
    have hsrc : ∀ j v, (bvs m)[j]? = some v → w.cell? (ad.add j) = some v := fun j v hj => by
      obtain ⟨ad', hA, hc⟩ := hS.2.2.2.2 j v hj
      injection hA with hA
      subst hA
      exact hc
    rcases hm with hm | hm
    · have hn : m = [] := List.eq_nil_of_length_eq_zero hm
      refine step_copyK (E := E) hgd d s 29 29 ho 5 1 Tryz.underlying29 hu8 gc 3 32 32 ad m.length c hd hs (ptl (f, x, y, dg0)) 28 hB [] 0 (by simp [hm]) rfl (by simp) (by simp [ptl_len]) (by simp) gc w (Below.refl _ _) (Nat.le_refl _) ?_
      intro w' hw' hb'
      refine h _ _ ?_ hb'
      rw [dif_neg (by omega)]
      have := hw'.out
      rw [splice_nil] at this
      exact this
    · refine step_copyK (E := E) hgd d s 29 29 ho 5 1 Tryz.underlying29 hu8 gc 3 32 32 ad m.length c hd hs (ptl (f, x, y, dg0)) 28 hB (bvs m) 32 (by simp [hm]) (by simp [hm]) hsrc (by simp [ptl_len, hm]) (one_bvs m) gc w (Below.refl _ _) (Nat.le_refl _) ?_
      intro w' hw' hb'
      refine h _ _ ?_ hb'
      rw [dif_pos hm]
      have := hw'.out
      rw [part_splice f x y m hm] at this
      exact this
/-- a part out of a reader -/
def rDg (s : List UInt8 × Nat) : Dg × (List UInt8 × Nat) := (if h : (rFixed 32 s).1.length = 32 then ⟨(rFixed 32 s).1, h⟩ else dg0, (rFixed 32 s).2)
def rPart (f : Int) (s : List UInt8 × Nat) : Pt5 × (List UInt8 × Nat) := ((f, ((rWithin 64 s).1 : Nat), ((rWithin 65536 (rWithin 64 s).2).1 : Nat), (rDg (rWithin 65536 (rWithin 64 s).2).2).1), (rDg (rWithin 65536 (rWithin 64 s).2).2).2)
theorem rDg_eq {m : List UInt8} {s : List UInt8 × Nat} (h : m = (rFixed 32 s).1) : (if h : m.length = 32 then (⟨m, h⟩ : Dg) else dg0) = (rDg s).1 := by subst h; rfl
theorem rFixed32 (s : List UInt8 × Nat) : (rFixed 32 s).1.length = 0 ∨ (rFixed 32 s).1.length = 32 := by
  unfold rFixed
  split
  · exact .inl rfl
  · split
    · exact .inl rfl
    · right
      simp only [List.length_take]
      omega
theorem Fixed_s {g B : Nat} {s : List UInt8 × Nat} {w : World} (many : Int) (hl : s.1.length ≤ 1000000000) (hR : IsR w g B s) : Calls Tryz.prog 126 #[.pointer (some ⟨g, 0, none⟩), .int .i64 many] w (GivesR w g B (rFixed many s)) := by obtain ⟨l, b⟩ := s; exact Fixed_any many hl hR
theorem res_pt {fn : Func} {a : Nat} {tmps : Array Value} {w : World} {g : Nat} {p : Pt5} (hres : fn.results = #[.cell a 28]) (ha : tmps.getD a undef = .pointer (some ⟨g, 0, none⟩)) (hB : Blk w g 28 (pta p)) : (results fn tmps).run Tryz.prog w = .ok (.agg (pta p)) w := by
  have h := run_loadVar_at (P := Tryz.prog) w ⟨g, 0, none⟩ 28 (pta p) hB.cells _ Tryz.underlying28 rfl (by rw [pta_size]; kernel_rfl)
  have ha' : tmps[a]?.getD undef = .pointer (some ⟨g, 0, none⟩) := by simpa using ha
  simp [results, hres, asAddr, h, ha']
set_option maxRecDepth 100000 in
set_option maxHeartbeats 2000000 in
theorem TkPart_any {w : World} {g B : Nat} {s : List UInt8 × Nat} (f : Int) (hR : IsR w g B s) (hB : B ≤ w.heap.size) (hl : s.1.length ≤ 1000000000) : Calls Tryz.prog 141 #[.agg #[.pointer (some ⟨g, 0, none⟩)], .int .i64 f] w fun e w' => e = .returned (.agg (pta (rPart f s).1)) ∧ IsR w' g B (rPart f s).2 ∧ Wr w w' g := by
  have hg := hR.lt
  have hT : TkP w ((w.alloc (.cells #[.pointer (some ⟨g, 0, none⟩)] 232)).alloc (.cells (pta (0, 0, 0, dg0)) 28)) g := ⟨((Wr.refl _ _).alloc _).alloc _, (Blk.new w _ _).alloc _, Blk.newAt (by simp) _ _, hg⟩
  have hR1 := (hR.alloc (.cells #[.pointer (some ⟨g, 0, none⟩)] 232)).alloc (.cells (pta (0, 0, 0, dg0)) 28)
  have hst := hT.drew
  have hR1d := hR1.drew
  clear hT hR1
  go_enter Tryz.func141, Tryz.ntmps141
  go_upto_region 1 with (fail)
  go_cut [5] (fun s5 wz => ∃ gc, s5 = .pointer (some ⟨gc, 0, none⟩) ∧ TkP w wz g ∧ IsR wz g B (rWithin 65536 (rWithin 64 s).2).2 ∧ GpC w wz gc (f, ((rWithin 64 s).1 : Nat), ((rWithin 65536 (rWithin 64 s).2).1 : Nat), dg0))
  case first =>
    refine wp_region_held_drew (S := (fun W => TkP w W g)) (by kernel_rfl) ?_ (fun hHeld => ?_)
    · exact hst
    refine gen0 (T := fun W => ((fun W => TkP w W g)) W ∧ IsR W g B s ∧ True) ?_ (fun wq1 hT => ?_)
    · exact ⟨by (with_reducible exact hHeld), by (exact hR1d), trivial⟩
    (try clear f0 f1 f2 f3 f4 f5 f6 f7 f8 f9 f10 f11)
    obtain ⟨hHeld, f0, -⟩ := hT
    refine wpAnyH_take (i := 0) (oi := ⟨some 6, _, _, _, _, _⟩) (v := ?_) rfl (by kernel_rfl) (by kernel_rfl) (by kernel_rfl) (fun _ _ _ h => h) (Or.inl ⟨by kernel_rfl, ?_⟩) (by assumption) ?_
    rotate_left
    · (intro wS hSw; (try dsimp only at hSw); have q0 := hSw.tk.cell 0; clear hSw; go_simp; (try with_reducible rfl))
    (try simp only [Act.put, List.setIfInBounds_toArray, List.set_cons_zero, List.set_cons_succ])
    refine wpAnyH_take (i := 1) (oi := ⟨some 7, _, _, _, _, _⟩) (v := ?_) rfl (by kernel_rfl) (by kernel_rfl) (by kernel_rfl) (fun _ _ _ h => h) (Or.inl ⟨by kernel_rfl, ?_⟩) (by assumption) ?_
    rotate_left
    · (intro wS hSw; (try dsimp only at hSw); have q0 := hSw.tk.cell 0; clear hSw; go_simp; (try with_reducible rfl))
    (try simp only [Act.put, List.setIfInBounds_toArray, List.set_cons_zero, List.set_cons_succ])
    refine wpAnyH_take (i := 2) (oi := ⟨some 8, _, _, _, _, _⟩) (v := ?_) rfl (by kernel_rfl) (by kernel_rfl) (by kernel_rfl) (fun _ _ _ h => h) (Or.inl ⟨by kernel_rfl, ?_⟩) (by assumption) ?_
    rotate_left
    · (intro wS hSw; (try dsimp only at hSw); have q0 := hSw.tk.cell 0; clear hSw; go_simp; (try with_reducible rfl))
    (try simp only [Act.put, List.setIfInBounds_toArray, List.set_cons_zero, List.set_cons_succ])
    refine wpAnyH_take (i := 4) (oi := ⟨some 10, _, _, _, _, _⟩) (v := ?_) rfl (by kernel_rfl) (by kernel_rfl) (by kernel_rfl) (fun _ _ _ h => h) (Or.inl ⟨by kernel_rfl, ?_⟩) (by assumption) ?_
    rotate_left
    · (intro wS hSw; (try dsimp only at hSw); have q0 := hSw.tk.cell 0; clear hSw; go_simp; (try with_reducible rfl))
    (try simp only [Act.put, List.setIfInBounds_toArray, List.set_cons_zero, List.set_cons_succ])
    refine wpAnyH_take (i := 5) (oi := ⟨some 11, _, _, _, _, _⟩) (v := ?_) rfl (by kernel_rfl) (by kernel_rfl) (by kernel_rfl) (fun _ _ _ h => h) (Or.inl ⟨by kernel_rfl, ?_⟩) (by assumption) ?_
    rotate_left
    · (intro wS hSw; (try dsimp only at hSw); have q0 := hSw.tk.cell 0; clear hSw; go_simp; (try with_reducible rfl))
    (try simp only [Act.put, List.setIfInBounds_toArray, List.set_cons_zero, List.set_cons_succ])
    refine wpAnyH_ready (rs := [3, 8]) (by kernel_rfl) (by simp) ?_
    refine AllReadyH.cons (o := ⟨some 9, _, _, _, _, _⟩) rfl (fun K hK => ?_) ?_
    · go_simp
      (refine (Within_any _ f0).mono ?_; rintro e w9 ⟨rfl, hR9, hr9⟩)
      go_wp2_with fail
      refine hK.out _ _ ?_ (fun _ => ?_)
      · ((try dsimp only); (with_reducible exact hHeld.read hr9))
      clear hK K
      (try simp only [Act.put, List.setIfInBounds_toArray, List.set_cons_zero, List.set_cons_succ])
      refine gen0 (T := fun W => ((fun W => TkP w W g)) W ∧ IsR W g B (rWithin 64 s).2 ∧ True) ?_ (fun wq2 hT => ?_)
      · exact ⟨by (with_reducible exact hHeld.read hr9), by (with_reducible assumption), trivial⟩
      (try clear f0 f1 f2 f3 f4 f5 f6 f7 f8 f9 f10 f11)
      obtain ⟨hHeld, f0, -⟩ := hT
      refine wpAnyH_ready (rs := [6, 8]) (by kernel_rfl) (by simp) ?_
      refine AllReadyH.cons (o := ⟨some 12, _, _, _, _, _⟩) rfl (fun K hK => ?_) ?_
      · go_simp
        (refine (Within_any _ f0).mono ?_; rintro e w9 ⟨rfl, hR9, hr9⟩)
        go_wp2_with fail
        refine hK.out _ _ ?_ (fun _ => ?_)
        · ((try dsimp only); (with_reducible exact hHeld.read hr9))
        clear hK K
        (try simp only [Act.put, List.setIfInBounds_toArray, List.set_cons_zero, List.set_cons_succ])
        refine gen0 (T := fun W => ((fun W => TkP w W g)) W ∧ IsR W g B (rWithin 65536 (rWithin 64 s).2).2 ∧ True) ?_ (fun wq3 hT => ?_)
        · exact ⟨by (with_reducible exact hHeld.read hr9), by (with_reducible assumption), trivial⟩
        (try clear f0 f1 f2 f3 f4 f5 f6 f7 f8 f9 f10 f11)
        obtain ⟨hHeld, f0, -⟩ := hT
        refine wpAnyH_take (i := 7) (oi := ⟨some 13, _, _, _, _, _⟩) (v := ?_) rfl (by kernel_rfl) (by kernel_rfl) (by kernel_rfl) (fun _ _ _ h => h) (Or.inl ⟨by kernel_rfl, ?_⟩) (by assumption) ?_
        rotate_left
        · (intro wS hSw; (try dsimp only at hSw); have q0 := hSw.tk.cell 0; clear hSw; go_simp; (try with_reducible rfl))
        (try simp only [Act.put, List.setIfInBounds_toArray, List.set_cons_zero, List.set_cons_succ])
        refine wpAnyH_ready (rs := [8]) (by kernel_rfl) (by simp) ?_
        refine AllReadyH.cons (o := ⟨some 5, _, _, _, _, _⟩) rfl (fun K hK => ?_) AllReadyH.nil
        (go_simp)
        refine hK.out _ _ ?_ (fun _ => ?_)
        · ((try dsimp only); (with_reducible exact hHeld.alloc _))
        clear hK K
        (try simp only [Act.put, List.setIfInBounds_toArray, List.set_cons_zero, List.set_cons_succ])
        refine gen0 (T := fun W => ((fun W => TkP w W g)) W ∧ IsR W g B (rWithin 65536 (rWithin 64 s).2).2 ∧ GpC w W wq3.heap.size (0, 0, 0, dg0) ∧ True) ?_ (fun wq4 hT => ?_)
        · exact ⟨by (with_reducible exact hHeld.alloc _), by (with_reducible exact f0.alloc _), by (exact GpC.new hHeld), trivial⟩
        (try clear f0 f1 f2 f3 f4 f5 f6 f7 f8 f9 f10 f11)
        obtain ⟨hHeld, f0, f1, -⟩ := hT
        refine wpAnyH_ready (rs := [9]) (by kernel_rfl) (by simp) ?_
        refine AllReadyH.cons (o := ⟨none, _, _, _, _, _⟩) rfl (fun K hK => ?_) AllReadyH.nil
        ((refine step_storeP (by kernel_rfl) _ _ rfl _ (0, 0, 0, dg0) (f, ((rWithin 64 s).1 : Nat), ((rWithin 65536 (rWithin 64 s).2).1 : Nat), dg0) rfl rfl f1.blk ?_))
        refine hK.out _ _ ?_ (fun _ => ?_)
        · ((try dsimp only); (exact hHeld.row f1.lt _))
        clear hK K
        (try simp only [Act.put, List.setIfInBounds_toArray, List.set_cons_zero, List.set_cons_succ])
        refine gen0 (T := fun W => ((fun W => TkP w W g)) W ∧ IsR W g B (rWithin 65536 (rWithin 64 s).2).2 ∧ GpC w W wq3.heap.size (f, ((rWithin 64 s).1 : Nat), ((rWithin 65536 (rWithin 64 s).2).1 : Nat), dg0) ∧ True) ?_ (fun wq5 hT => ?_)
        · exact ⟨by (exact hHeld.row f1.lt _), by (exact f0.row (Nat.lt_trans (Nat.lt_trans hHeld.lt (Nat.lt_succ_self _)) f1.lt) (Nat.le_trans hB (Nat.le_of_lt (Nat.lt_trans (Nat.lt_succ_self _) f1.lt))) _), by (exact f1.row _), trivial⟩
        (try clear f0 f1 f2 f3 f4 f5 f6 f7 f8 f9 f10 f11)
        obtain ⟨hHeld, f0, f1, -⟩ := hT
        refine wpAnyH_done (by kernel_rfl) ?_ _
        (go_wp2_with fail; go_meet; exact ⟨_, rfl, hHeld, f0, f1⟩)
      refine AllReadyH.cons (o := ⟨some 5, _, _, _, _, _⟩) rfl (fun K hK => ?_) ?_
      · (go_simp)
        refine hK.out _ _ ?_ (fun _ => ?_)
        · ((try dsimp only); (with_reducible exact hHeld.alloc _))
        clear hK K
        (try simp only [Act.put, List.setIfInBounds_toArray, List.set_cons_zero, List.set_cons_succ])
        refine gen0 (T := fun W => ((fun W => TkP w W g)) W ∧ IsR W g B (rWithin 64 s).2 ∧ GpC w W wq2.heap.size (0, 0, 0, dg0) ∧ True) ?_ (fun wq6 hT => ?_)
        · exact ⟨by (with_reducible exact hHeld.alloc _), by (with_reducible exact f0.alloc _), by (exact GpC.new hHeld), trivial⟩
        (try clear f0 f1 f2 f3 f4 f5 f6 f7 f8 f9 f10 f11)
        obtain ⟨hHeld, f0, f1, -⟩ := hT
        refine wpAnyH_ready (rs := [6]) (by kernel_rfl) (by simp) ?_
        refine AllReadyH.cons (o := ⟨some 12, _, _, _, _, _⟩) rfl (fun K hK => ?_) AllReadyH.nil
        go_simp
        (refine (Within_any _ f0).mono ?_; rintro e w9 ⟨rfl, hR9, hr9⟩)
        go_wp2_with fail
        refine hK.out _ _ ?_ (fun _ => ?_)
        · ((try dsimp only); (with_reducible exact hHeld.read hr9))
        clear hK K
        (try simp only [Act.put, List.setIfInBounds_toArray, List.set_cons_zero, List.set_cons_succ])
        refine gen0 (T := fun W => ((fun W => TkP w W g)) W ∧ IsR W g B (rWithin 65536 (rWithin 64 s).2).2 ∧ GpC w W wq2.heap.size (0, 0, 0, dg0) ∧ True) ?_ (fun wq7 hT => ?_)
        · exact ⟨by (with_reducible exact hHeld.read hr9), by (with_reducible assumption), by (with_reducible exact f1.read hHeld hr9), trivial⟩
        (try clear f0 f1 f2 f3 f4 f5 f6 f7 f8 f9 f10 f11)
        obtain ⟨hHeld, f0, f1, -⟩ := hT
        refine wpAnyH_take (i := 7) (oi := ⟨some 13, _, _, _, _, _⟩) (v := ?_) rfl (by kernel_rfl) (by kernel_rfl) (by kernel_rfl) (fun _ _ _ h => h) (Or.inl ⟨by kernel_rfl, ?_⟩) (by assumption) ?_
        rotate_left
        · (intro wS hSw; (try dsimp only at hSw); have q0 := hSw.tk.cell 0; clear hSw; go_simp; (try with_reducible rfl))
        (try simp only [Act.put, List.setIfInBounds_toArray, List.set_cons_zero, List.set_cons_succ])
        refine wpAnyH_ready (rs := [9]) (by kernel_rfl) (by simp) ?_
        refine AllReadyH.cons (o := ⟨none, _, _, _, _, _⟩) rfl (fun K hK => ?_) AllReadyH.nil
        ((refine step_storeP (by kernel_rfl) _ _ rfl _ (0, 0, 0, dg0) (f, ((rWithin 64 s).1 : Nat), ((rWithin 65536 (rWithin 64 s).2).1 : Nat), dg0) rfl rfl f1.blk ?_))
        refine hK.out _ _ ?_ (fun _ => ?_)
        · ((try dsimp only); (exact hHeld.row f1.lt _))
        clear hK K
        (try simp only [Act.put, List.setIfInBounds_toArray, List.set_cons_zero, List.set_cons_succ])
        refine gen0 (T := fun W => ((fun W => TkP w W g)) W ∧ IsR W g B (rWithin 65536 (rWithin 64 s).2).2 ∧ GpC w W wq2.heap.size (f, ((rWithin 64 s).1 : Nat), ((rWithin 65536 (rWithin 64 s).2).1 : Nat), dg0) ∧ True) ?_ (fun wq8 hT => ?_)
        · exact ⟨by (exact hHeld.row f1.lt _), by (exact f0.row (Nat.lt_trans (Nat.lt_trans hHeld.lt (Nat.lt_succ_self _)) f1.lt) (Nat.le_trans hB (Nat.le_of_lt (Nat.lt_trans (Nat.lt_succ_self _) f1.lt))) _), by (exact f1.row _), trivial⟩
        (try clear f0 f1 f2 f3 f4 f5 f6 f7 f8 f9 f10 f11)
        obtain ⟨hHeld, f0, f1, -⟩ := hT
        refine wpAnyH_done (by kernel_rfl) ?_ _
        (go_wp2_with fail; go_meet; exact ⟨_, rfl, hHeld, f0, f1⟩)
      exact AllReadyH.nil
    refine AllReadyH.cons (o := ⟨some 5, _, _, _, _, _⟩) rfl (fun K hK => ?_) ?_
    · (go_simp)
      refine hK.out _ _ ?_ (fun _ => ?_)
      · ((try dsimp only); (with_reducible exact hHeld.alloc _))
      clear hK K
      (try simp only [Act.put, List.setIfInBounds_toArray, List.set_cons_zero, List.set_cons_succ])
      refine gen0 (T := fun W => ((fun W => TkP w W g)) W ∧ IsR W g B s ∧ GpC w W wq1.heap.size (0, 0, 0, dg0) ∧ True) ?_ (fun wq9 hT => ?_)
      · exact ⟨by (with_reducible exact hHeld.alloc _), by (with_reducible exact f0.alloc _), by (exact GpC.new hHeld), trivial⟩
      (try clear f0 f1 f2 f3 f4 f5 f6 f7 f8 f9 f10 f11)
      obtain ⟨hHeld, f0, f1, -⟩ := hT
      refine wpAnyH_ready (rs := [3]) (by kernel_rfl) (by simp) ?_
      refine AllReadyH.cons (o := ⟨some 9, _, _, _, _, _⟩) rfl (fun K hK => ?_) AllReadyH.nil
      go_simp
      (refine (Within_any _ f0).mono ?_; rintro e w9 ⟨rfl, hR9, hr9⟩)
      go_wp2_with fail
      refine hK.out _ _ ?_ (fun _ => ?_)
      · ((try dsimp only); (with_reducible exact hHeld.read hr9))
      clear hK K
      (try simp only [Act.put, List.setIfInBounds_toArray, List.set_cons_zero, List.set_cons_succ])
      refine gen0 (T := fun W => ((fun W => TkP w W g)) W ∧ IsR W g B (rWithin 64 s).2 ∧ GpC w W wq1.heap.size (0, 0, 0, dg0) ∧ True) ?_ (fun wq10 hT => ?_)
      · exact ⟨by (with_reducible exact hHeld.read hr9), by (with_reducible assumption), by (with_reducible exact f1.read hHeld hr9), trivial⟩
      (try clear f0 f1 f2 f3 f4 f5 f6 f7 f8 f9 f10 f11)
      obtain ⟨hHeld, f0, f1, -⟩ := hT
      refine wpAnyH_ready (rs := [6]) (by kernel_rfl) (by simp) ?_
      refine AllReadyH.cons (o := ⟨some 12, _, _, _, _, _⟩) rfl (fun K hK => ?_) AllReadyH.nil
      go_simp
      (refine (Within_any _ f0).mono ?_; rintro e w9 ⟨rfl, hR9, hr9⟩)
      go_wp2_with fail
      refine hK.out _ _ ?_ (fun _ => ?_)
      · ((try dsimp only); (with_reducible exact hHeld.read hr9))
      clear hK K
      (try simp only [Act.put, List.setIfInBounds_toArray, List.set_cons_zero, List.set_cons_succ])
      refine gen0 (T := fun W => ((fun W => TkP w W g)) W ∧ IsR W g B (rWithin 65536 (rWithin 64 s).2).2 ∧ GpC w W wq1.heap.size (0, 0, 0, dg0) ∧ True) ?_ (fun wq11 hT => ?_)
      · exact ⟨by (with_reducible exact hHeld.read hr9), by (with_reducible assumption), by (with_reducible exact f1.read hHeld hr9), trivial⟩
      (try clear f0 f1 f2 f3 f4 f5 f6 f7 f8 f9 f10 f11)
      obtain ⟨hHeld, f0, f1, -⟩ := hT
      refine wpAnyH_take (i := 7) (oi := ⟨some 13, _, _, _, _, _⟩) (v := ?_) rfl (by kernel_rfl) (by kernel_rfl) (by kernel_rfl) (fun _ _ _ h => h) (Or.inl ⟨by kernel_rfl, ?_⟩) (by assumption) ?_
      rotate_left
      · (intro wS hSw; (try dsimp only at hSw); have q0 := hSw.tk.cell 0; clear hSw; go_simp; (try with_reducible rfl))
      (try simp only [Act.put, List.setIfInBounds_toArray, List.set_cons_zero, List.set_cons_succ])
      refine wpAnyH_ready (rs := [9]) (by kernel_rfl) (by simp) ?_
      refine AllReadyH.cons (o := ⟨none, _, _, _, _, _⟩) rfl (fun K hK => ?_) AllReadyH.nil
      ((refine step_storeP (by kernel_rfl) _ _ rfl _ (0, 0, 0, dg0) (f, ((rWithin 64 s).1 : Nat), ((rWithin 65536 (rWithin 64 s).2).1 : Nat), dg0) rfl rfl f1.blk ?_))
      refine hK.out _ _ ?_ (fun _ => ?_)
      · ((try dsimp only); (exact hHeld.row f1.lt _))
      clear hK K
      (try simp only [Act.put, List.setIfInBounds_toArray, List.set_cons_zero, List.set_cons_succ])
      refine gen0 (T := fun W => ((fun W => TkP w W g)) W ∧ IsR W g B (rWithin 65536 (rWithin 64 s).2).2 ∧ GpC w W wq1.heap.size (f, ((rWithin 64 s).1 : Nat), ((rWithin 65536 (rWithin 64 s).2).1 : Nat), dg0) ∧ True) ?_ (fun wq12 hT => ?_)
      · exact ⟨by (exact hHeld.row f1.lt _), by (exact f0.row (Nat.lt_trans (Nat.lt_trans hHeld.lt (Nat.lt_succ_self _)) f1.lt) (Nat.le_trans hB (Nat.le_of_lt (Nat.lt_trans (Nat.lt_succ_self _) f1.lt))) _), by (exact f1.row _), trivial⟩
      (try clear f0 f1 f2 f3 f4 f5 f6 f7 f8 f9 f10 f11)
      obtain ⟨hHeld, f0, f1, -⟩ := hT
      refine wpAnyH_done (by kernel_rfl) ?_ _
      (go_wp2_with fail; go_meet; exact ⟨_, rfl, hHeld, f0, f1⟩)
    exact AllReadyH.nil
  case rest =>
    obtain ⟨gc, rfl, hT, hR, hG⟩ := hcut
    clear hst hR1d
    have l1 := rWithin_len 64 s
    have l2 := rWithin_len 65536 (rWithin 64 s).2
    have HP : Hid (rPart f s = ((f, (((rWithin 64 s).1 : Nat) : Int), (((rWithin 65536 (rWithin 64 s).2).1 : Nat) : Int), (rDg (rWithin 65536 (rWithin 64 s).2).2).1), (rDg (rWithin 65536 (rWithin 64 s).2).2).2)) := (show _ = _ from rfl)
    generalize (rWithin 65536 (rWithin 64 s).2) = q2 at *
    generalize (rWithin 64 s) = q1 at *
    obtain ⟨x, s1⟩ := q1
    obtain ⟨y, s2⟩ := q2
    dsimp only at *
    have hl2 : s2.1.length ≤ 1000000000 := by omega
    clear l1 l2 hl
    go_upto_region 2 with (fail)
    have hst := hT.drew
    have hRd := hR.drew
    have hGd : GpC w wc.drew gc (f, (x : Nat), (y : Nat), dg0) := ⟨hG.blk.drew, hG.lt⟩
    clear hT hR hG
    go_cut [] (fun wz => TkP w wz g ∧ IsR wz g B (rDg s2).2 ∧ GpC w wz gc (f, (x : Nat), (y : Nat), (rDg s2).1))
    case first =>
      refine wp_region_held_drew (S := (fun W => TkP w W g)) (by kernel_rfl) ?_ (fun hHeld => ?_)
      · exact hst
      refine gen0 (T := fun W => ((fun W => TkP w W g)) W ∧ IsR W g B s2 ∧ GpC w W gc (f, (x : Nat), (y : Nat), dg0) ∧ True) ?_ (fun wq1 hT => ?_)
      · exact ⟨by (with_reducible exact hst), by (with_reducible assumption), by (with_reducible assumption), trivial⟩
      (try clear f0 f1 f2 f3 f4 f5 f6 f7 f8 f9 f10 f11)
      obtain ⟨hHeld, f0, f1, -⟩ := hT
      refine wpAnyH_take (i := 0) (oi := ⟨some 14, _, _, _, _, _⟩) (v := ?_) rfl (by kernel_rfl) (by kernel_rfl) (by kernel_rfl) (fun _ _ _ h => h) (Or.inl ⟨by kernel_rfl, ?_⟩) (by assumption) ?_
      rotate_left
      · (intro wS hSw; (try dsimp only at hSw); have q0 := hSw.tk.cell 0; clear hSw; go_simp; (try with_reducible rfl))
      (try simp only [Act.put, List.setIfInBounds_toArray, List.set_cons_zero, List.set_cons_succ])
      refine wpAnyH_take (i := 1) (oi := ⟨some 15, _, _, _, _, _⟩) (v := ?_) rfl (by kernel_rfl) (by kernel_rfl) (by kernel_rfl) (fun _ _ _ h => h) (Or.inl ⟨by kernel_rfl, ?_⟩) (by assumption) ?_
      rotate_left
      · (intro wS hSw; (try dsimp only at hSw); have q0 := hSw.tk.cell 0; clear hSw; go_simp; (try with_reducible rfl))
      (try simp only [Act.put, List.setIfInBounds_toArray, List.set_cons_zero, List.set_cons_succ])
      refine wpAnyH_take (i := 2) (oi := ⟨some 16, _, _, _, _, _⟩) (v := ?_) rfl (by kernel_rfl) (by kernel_rfl) (by kernel_rfl) (fun _ _ _ h => h) (Or.inl ⟨by kernel_rfl, ?_⟩) (by assumption) ?_
      rotate_left
      · (intro wS hSw; (try dsimp only at hSw); have q0 := hSw.tk.cell 0; clear hSw; go_simp; (try with_reducible rfl))
      (try simp only [Act.put, List.setIfInBounds_toArray, List.set_cons_zero, List.set_cons_succ])
      refine wpAnyH_take (i := 3) (oi := ⟨some 17, _, _, _, _, _⟩) (v := ?_) rfl (by kernel_rfl) (by kernel_rfl) (by kernel_rfl) (fun _ _ _ h => h) (Or.inl ⟨by kernel_rfl, ?_⟩) (by assumption) ?_
      rotate_left
      · (intro wS hSw; (try dsimp only at hSw); have q0 := hSw.tk.cell 0; clear hSw; go_simp; (try with_reducible rfl))
      (try simp only [Act.put, List.setIfInBounds_toArray, List.set_cons_zero, List.set_cons_succ])
      refine wpAnyH_ready (rs := [4]) (by kernel_rfl) (by simp) ?_
      refine AllReadyH.cons (o := ⟨some 18, _, _, _, _, _⟩) rfl (fun K hK => ?_) AllReadyH.nil
      go_simp
      (refine (Fixed_s 32 hl2 f0).mono ?_; rintro e w9 ⟨A9, c9, m9, rfl, hm9, ho9, hR9, hr9⟩)
      go_wp2_with fail
      refine hK.out _ _ ?_ (fun _ => ?_)
      · ((try dsimp only); (with_reducible exact hHeld.read hr9))
      clear hK K
      (try simp only [Act.put, List.setIfInBounds_toArray, List.set_cons_zero, List.set_cons_succ])
      refine gen0 (T := fun W => ((fun W => TkP w W g)) W ∧ IsR W g B (rFixed 32 s2).2 ∧ GpC w W gc (f, (x : Nat), (y : Nat), dg0) ∧ SlB W A9 c9 m9 ∧ True) ?_ (fun wq2 hT => ?_)
      · exact ⟨by (with_reducible exact hHeld.read hr9), by (with_reducible assumption), by (with_reducible exact f1.read hHeld hr9), by (exact ho9.sl), trivial⟩
      (try clear f0 f1 f2 f3 f4 f5 f6 f7 f8 f9 f10 f11)
      obtain ⟨hHeld, f0, f1, f2, -⟩ := hT
      refine wpAnyH_ready (rs := [5]) (by kernel_rfl) (by simp) ?_
      refine AllReadyH.cons (o := ⟨some 19, _, _, _, _, _⟩) rfl (fun K hK => ?_) AllReadyH.nil
      (refine step_copyD rfl (.tmp 15) (.tmp 18) rfl gc f x y f1.blk rfl A9 c9 m9 rfl f2 (by rw [hm9.out]; exact rFixed32 s2) ?_; intro w10 v10 hB10 hb10)
      refine hK.out _ _ ?_ (fun _ => ?_)
      · ((try dsimp only); (exact hHeld.apart f1.lt hb10))
      clear hK K
      (try simp only [Act.put, List.setIfInBounds_toArray, List.set_cons_zero, List.set_cons_succ])
      refine gen0 (T := fun W => ((fun W => TkP w W g)) W ∧ IsR W g B (rFixed 32 s2).2 ∧ GpC w W gc (f, (x : Nat), (y : Nat), (rDg s2).1) ∧ True) ?_ (fun wq3 hT => ?_)
      · exact ⟨by (exact hHeld.apart f1.lt hb10), by (exact f0.apart (C := gc) (Nat.lt_trans (Nat.lt_trans hHeld.lt (Nat.lt_succ_self _)) f1.lt) (Nat.le_trans hB (Nat.le_of_lt (Nat.lt_trans (Nat.lt_succ_self _) f1.lt))) hb10), by (exact ⟨by rw [← rDg_eq hm9.out]; exact hB10, f1.lt⟩), trivial⟩
      (try clear f0 f1 f2 f3 f4 f5 f6 f7 f8 f9 f10 f11)
      obtain ⟨hHeld, f0, f1, -⟩ := hT
      refine wpAnyH_done (by kernel_rfl) ?_ _
      go_wp2_with fail
      go_meet
      exact ⟨hHeld, f0, f1⟩
    case rest =>
      obtain ⟨hT, hR, hG⟩ := hcut
      have hgc := hG.lt
      have hps := Lib.hid (pta_size (f, (x : Nat), (y : Nat), (rDg s2).1))
      have hp0 := Lib.hid (pta_size (0, 0, 0, dg0))
      have hpa := Lib.hid (pta_all (f, (x : Nat), (y : Nat), (rDg s2).1))
      go_wp2_with (first | (refine wpl_loadG rfl 28 _ rfl ⟨gc, 0, none⟩ (pta (f, (x : Nat), (y : Nat), (rDg s2).1)) rfl hG.blk.cells _ Tryz.underlying28 rfl (by rw [hps.out]; kernel_rfl) ?_) | (refine wpList_store_row rfl 28 _ _ rfl (w.heap.size + 1) (pta (f, (x : Nat), (y : Nat), (rDg s2).1)) rfl rfl 28 _ hT.res (by rw [hps.out]; kernel_rfl) (by rw [hps.out, hp0.out]) hpa.out ?_))
      exact bodyPost_ret (res_pt rfl rfl (g := w.heap.size + 1) hT.res.row) rfl ⟨by rw [HP.out], by rw [HP.out]; exact hR.row (by omega) (by omega) _, ⟨hT.wr.os, hT.wr.tape, hT.wr.output, by simpa using hT.wr.size, fun i hi hn => (setRow_other wc _ i _ (by omega)).trans (hT.wr.block i hi hn)⟩⟩
end Go.Proofs.YtabnndjdkjkciaaGreatDoor

namespace Go.Proofs.YtabnndjdkjkciaaGreatDoor
open Go.RowKit

/-- so many parts out of a reader, the first at an address -/
def crLoop : Nat → Int → List UInt8 × Nat → List Pt5 × (List UInt8 × Nat)
  | 0, _, s => ([], s)
  | n + 1, a, s => ((rPart a s).1 :: (crLoop n (a + (rPart a s).1.2.1) (rPart a s).2).1, (crLoop n (a + (rPart a s).1.2.1) (rPart a s).2).2)
theorem crLoop_succ : ∀ (k : Nat) (a : Int) (s : List UInt8 × Nat), crLoop (k + 1) a s = ((crLoop k a s).1 ++ [(rPart (pend a (crLoop k a s).1) (crLoop k a s).2).1], (rPart (pend a (crLoop k a s).1) (crLoop k a s).2).2)
  | 0, a, s => by simp [crLoop, pend]
  | k + 1, a, s => by
    have ih := crLoop_succ k (a + (rPart a s).1.2.1) (rPart a s).2
    have h1 : crLoop (k + 1 + 1) a s = ((rPart a s).1 :: (crLoop (k + 1) (a + (rPart a s).1.2.1) (rPart a s).2).1, (crLoop (k + 1) (a + (rPart a s).1.2.1) (rPart a s).2).2) := rfl
    have h2 : crLoop (k + 1) a s = ((rPart a s).1 :: (crLoop k (a + (rPart a s).1.2.1) (rPart a s).2).1, (crLoop k (a + (rPart a s).1.2.1) (rPart a s).2).2) := rfl
    rw [h1, ih, h2]
    rfl
theorem crLoop_len : ∀ (k : Nat) (a : Int) (s : List UInt8 × Nat), (crLoop k a s).1.length = k
  | 0, _, _ => rfl
  | k + 1, a, s => by
    have ih := crLoop_len k (a + (rPart a s).1.2.1) (rPart a s).2
    show ((rPart a s).1 :: (crLoop k (a + (rPart a s).1.2.1) (rPart a s).2).1).length = k + 1
    rw [List.length_cons, ih]
theorem rPart_len (a : Int) (s : List UInt8 × Nat) : (rPart a s).2.1.length ≤ s.1.length := by
  have h1 := rWithin_len 64 s
  have h2 := rWithin_len 65536 (rWithin 64 s).2
  have h3 := rFixed_len 32 (rWithin 65536 (rWithin 64 s).2).2
  exact Nat.le_trans h3 (Nat.le_trans h2 h1)
theorem crLoop_left : ∀ (k : Nat) (a : Int) (s : List UInt8 × Nat), (crLoop k a s).2.1.length ≤ s.1.length
  | 0, _, _ => Nat.le_refl _
  | k + 1, a, s => Nat.le_trans (crLoop_left k (a + (rPart a s).1.2.1) (rPart a s).2) (rPart_len a s)
/-- a cursor out of a reader -/
def crRead (s : List UInt8 × Nat) : Cur × (List UInt8 × Nat) :=
  let r1 := rWithin 1048576 s
  let r2 := rWithin 1048576 r1.2
  let r3 := rWithin 1048576 r2.2
  let r4 := rWithin 1048576 r3.2
  let rn := rNum r4.2
  let s5 := if 1024 < rn.1 then rFail 3 rn.2 else rn.2
  let l := crLoop (min rn.1 1024) (r1.1 : Int) s5
  (((r1.1 : Int), (r2.1 : Int), (r3.1 : Int), (r4.1 : Int), l.1), l.2)
def crEnd (x : Cur × (List UInt8 × Nat)) : Cur × Nat := if rEnd x.2 ≠ 0 then ((0, 0, 0, 0, []), rEnd x.2) else if crchk x.1 ≠ 0 then ((0, 0, 0, 0, []), crchk x.1) else (x.1, 0)
/-- the cursor that bytes are; an error's number -/
def crTake (b : List UInt8) : Cur × Nat := if (fone b).2 ≠ 0 then ((0, 0, 0, 0, []), (fone b).2) else crEnd (crRead ((fone b).1, 0))
end Go.Proofs.YtabnndjdkjkciaaGreatDoor

namespace Go.Proofs.YtabnndjdkjkciaaGreatDoor
open Go.RowKit

def ptb (p : Pt5) : List UInt8 := vb p.2.1.toNat ++ (vb p.2.2.1.toNat ++ p.2.2.2.1)
def crtxt (x : Cur) : List UInt8 := vb x.1.toNat ++ (vb x.2.1.toNat ++ (vb x.2.2.1.toNat ++ (vb x.2.2.2.1.toNat ++ (vb x.2.2.2.2.length ++ x.2.2.2.2.flatMap ptb))))
theorem crchk_ok {x : Cur} (h : crchk x = 0) : (0 ≤ x.1 ∧ x.1 ≤ 1048576) ∧ (0 ≤ x.2.1 ∧ x.2.1 ≤ 1048576) ∧ (0 ≤ x.2.2.1 ∧ x.2.2.1 ≤ 1048576) ∧ (0 ≤ x.2.2.2.1 ∧ x.2.2.2.1 ≤ 1048576) ∧ x.2.2.2.2.length ≤ 1024 ∧ pgo x.2.1 x.1 x.2.2.2.2 = 0 := by
  unfold crchk at h
  by_cases h1 : mchk (1, x.1, x.2.1, x.2.2.2.1, dg0, x.2.2.2.2) ≠ 0
  · rw [if_pos h1] at h; exact absurd h h1
  rw [if_neg h1] at h
  by_cases h2 : x.2.2.1 < 0 ∨ 1048576 < x.2.2.1
  · rw [if_pos h2] at h; cases h
  obtain ⟨-, g2, g3, g4, g5, -, g7, g8⟩ := mchk_ok (Decidable.byContradiction h1)
  exact ⟨g2, g3, by omega, g4, g7, g8⟩
theorem ptb_len {z : Int} : ∀ {l : List Pt5} {a : Int}, pgo z a l = 0 → (l.flatMap ptb).length ≤ 52 * l.length
  | [], _, _ => Nat.le_refl _
  | p :: l, a, h => by
    unfold pgo at h
    by_cases h1 : ptchk p a ≠ 0
    · rw [if_pos h1] at h; exact absurd h h1
    rw [if_neg h1] at h
    obtain ⟨g1, g2, g3, g4, -⟩ := ptchk_ok (Decidable.byContradiction h1)
    have ih := ptb_len h
    have l1 := vb_le10 (n := p.2.1.toNat) (by omega)
    have l2 := vb_le10 (n := p.2.2.1.toNat) (by omega)
    have l3 := p.2.2.2.2
    rw [List.flatMap_cons, List.length_append, List.length_cons]
    unfold ptb at ih ⊢
    simp only [List.length_append]
    omega
theorem crtxt_len {x : Cur} (h : crchk x = 0) : (crtxt x).length ≤ 53300 := by
  obtain ⟨h1, h2, h3, h4, h5, h6⟩ := crchk_ok h
  have l1 := vb_le10 (n := x.1.toNat) (by omega)
  have l2 := vb_le10 (n := x.2.1.toNat) (by omega)
  have l3 := vb_le10 (n := x.2.2.1.toNat) (by omega)
  have l4 := vb_le10 (n := x.2.2.2.1.toNat) (by omega)
  have l5 := vb_le10 (n := x.2.2.2.2.length) (by omega)
  have l6 := ptb_len h6
  unfold crtxt
  simp only [List.length_append]
  omega
end Go.Proofs.YtabnndjdkjkciaaGreatDoor
