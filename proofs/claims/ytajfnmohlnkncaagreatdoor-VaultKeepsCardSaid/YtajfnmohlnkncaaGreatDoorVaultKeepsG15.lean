/- WHAT IT HOLDS: a change added to a disk, walked. | WHAT IT HOLDS: a file struck from a disk, walked. | WHAT IT HOLDS: a disk made sure, walked. -/
import Derived.Test.YtajfnmohlnkncaaGreatDoorVaultKeepsG14
import Derived.Test.YtajfnmohlnkncaaGreatDoorVaultKeepsG01
namespace Go.Proofs.YtajfnmohlnkncaaGreatDoor
section
open Go.RowKit Go.Maps Go.Sort
attribute [local go_sem ↓] Go.wp_at_zero Go.wp_at_succ
theorem ch_info : (Tryz.prog.info? 119).map (fun i => (i.zero, i.size, i.bytes)) = some (some (.agg #[.int .i64 0, .string ⟨#[]⟩, .string ⟨#[]⟩, .slice none 0 0]), 4, 64) := by kernel_rfl
theorem one_chl (x : Chg Sv) : ∀ u ∈ chl x, u.oneCell' = true := by
 intro u hu
 simp only [chl, Sv.v, List.mem_cons, List.not_mem_nil, or_false] at hu
 rcases hu with rfl | rfl | rfl | rfl <;> rfl
theorem lit_ch (w : World) (x : Chg Sv) : Sl (w.alloc (.cells (cha x) 119)) 4 (some ⟨w.heap.size, 0, none⟩) 1 1 (chl x) :=
 ⟨by simp [chl], by omega, by simp [maxLen], (fun h => by cases h), fun j u hj => ⟨_, rfl, by
  rw [addr_lit, cell_of_row _ _ _ _ 119 (0, 0) (heap_alloc_new w _)]
  simpa [chl] using hj⟩⟩
theorem step_chg {w : World} {ops : Array Oper} {o : Oper} {a : Act} {K : Act → World → Prop} {Q : Exit → Act → World → Prop} {E : Prop} (hw : Region.wanted o (yielded ops a.tmps) = true) (s x : Operand)
 (ho : o.op = .call { callee := .builtin .append, args := #[s, x], argTypes := #[88, 88] })
 (A : Option Addr) (n c : Nat) (xs : List Value) (hs : a.eval s = .slice A n c) (hown : Own w 0 119 4 A n c xs) (hn : n ≤ 100000000)
 (A2 : Option Addr) (y : Chg Sv) (hx : a.eval x = .slice A2 1 1) (hr : Sl w 4 A2 1 1 (chl y))
 (h : ∀ A' c' w', Own w' 0 119 4 A' (n + 1) c' (xs ++ chl y) → w.grownBy w' (A.map (·.block)) → (A'.map (·.block) = A.map (·.block) ∨ A'.map (·.block) = some w.heap.size) → K (a.put o.dst (.slice A' (n + 1) c')) w') :
 if Region.wanted o (yielded ops a.tmps) = true then Oper.wp Tryz.prog o a w K Q else E := by
 obtain ⟨i0, hi, hz0, hz1, hz2⟩ := info_parts ch_info
 refine step_append hw s x 88 ho 0 119 i0 _ 4 64 Tryz.underlying88 hi hz0 hz1 hz2 rfl (by decide) A n c xs hs hown A2 1 1 (chl y) hx hr (one_chl y) (by omega) (by unfold maxLen; omega) (Nat.zero_le _) ?_
 intro A' c' w' hap
 exact h A' c' w' hap.own hap.grown hap.place
structure AdC (w W : World) (q : Fp) (d : Dk Sv) (x : Chg Sv) : Prop where
 bx : Blk W w.heap.size 119 (cha x)
 fr : Frd q w W
 s : OmD W q.bs d.sure
 m : OmD W q.bm d.shown
 k0 : ∀ i, q.M i → i < w.heap.size
 k1 : q.bs ≠ q.g ∧ q.bm ≠ q.g
 k2 : ∀ k, q.A.map (·.block) = some k → k ≠ q.g ∧ k ≠ q.bs ∧ k ≠ q.bm
section
variable {w W W' : World} {q : Fp} {d : Dk Sv} {x : Chg Sv}
theorem Frd.wr2 {k : Option Nat} (h : Frd q w W) (hb : W.grownBy W' k) (hk : ∀ j, k = some j → q.M j ∨ w.heap.size ≤ j) : Frd q w W' :=
 ⟨hb.os.trans h.os, hb.tape.trans h.tape, hb.output.trans h.output, Nat.le_trans h.size hb.size, fun i hi hn => (hb.block i (Nat.lt_of_lt_of_le hi h.size) (fun e => by
  rcases hk i e.symm with h1 | h1
  · exact hn h1
  · omega)).trans (h.block i hi hn)⟩
theorem AdC.drew (h : AdC w W q d x) : AdC w W.drew q d x := ⟨h.bx.drew, ⟨h.fr.os, h.fr.tape, h.fr.output, h.fr.size, h.fr.block⟩, h.s, h.m, h.k0, h.k1, h.k2⟩
theorem AdC.grown {k : Option Nat} (h : AdC w W q d x) (hb : W.grownBy W' k) (hk : ∀ j, k = some j → q.M j ∧ j ≠ q.bs ∧ j ≠ q.bm) : AdC w W' q d x where
 bx := (hb.block _ h.bx.lt (fun e => by have := h.k0 _ (hk _ e.symm).1; omega)).trans h.bx
 fr := h.fr.wr2 hb fun j e => .inl (hk j e).1
 s := Om.same h.s (hb.block _ h.s.lt (fun e => (hk _ e.symm).2.1 rfl))
 m := Om.same h.m (hb.block _ h.m.lt (fun e => (hk _ e.symm).2.2 rfl))
 k0 := h.k0
 k1 := h.k1
 k2 := h.k2
theorem AdC.alloc (h : AdC w W q d x) (o : Obj) : AdC w (W.alloc o) q d x := h.grown (k := none) (let k := below_new W o; ⟨k.os, k.tape, k.output, k.size, fun i hi _ => k.block i hi⟩) (fun j e => by cases e)
theorem AdC.place {A : Option Addr} (h : AdC w W q d x) (hp : A.map (·.block) = q.A.map (·.block) ∨ A.map (·.block) = some W.heap.size) : (∀ k, A.map (·.block) = some k → k ≠ q.g) ∧ (A.map (·.block) = q.A.map (·.block) ∨ ∃ k, A.map (·.block) = some k ∧ w.heap.size ≤ k) := by
 have hs := h.fr.size
 have hg := h.k0 q.g (.inl rfl)
 rcases hp with hp | hp
 · exact ⟨fun k e => (h.k2 k (by rw [← hp]; exact e)).1, .inl hp⟩
 · exact ⟨fun k e => by rw [hp] at e; injection e with e; omega, .inr ⟨_, hp, hs⟩⟩
theorem Blk.dk3 (h : Blk W q.g 90 (dka q d)) : W.cell? ⟨q.g, 2, none⟩ = some (.map (some q.bm)) ∧ W.cell? ⟨q.g, 3, none⟩ = some (.slice q.A d.pend.length q.c) ∧ W.frozen? ⟨q.g, 3, none⟩ = false := ⟨h.cell 2, h.cell 3, h.frozen 3⟩
theorem AdC.setG (h : AdC w W q d x) (i : Nat) (u : Value) : AdC w (W.setCell ⟨q.g, i, none⟩ u) q d x :=
 h.grown (k := some q.g) ((Wr.refl _ _).set_ i u) (fun j e => by injection e with e; subst e; exact ⟨.inl rfl, h.k1.1.symm, h.k1.2.symm⟩)
theorem Own.setG {A : Option Addr} {n c g i : Nat} {xs : List Value} (h : Own W 0 119 4 A n c xs) (hk : ∀ k, A.map (·.block) = some k → k ≠ g) (u : Value) : Own (W.setCell ⟨g, i, none⟩ u) 0 119 4 A n c xs :=
 World.ownsRow.kept h ((Wr.refl _ _).set_ i u) (.inr fun e => hk _ (by rw [← ownBlock_slice]; exact e) rfl)
theorem Blk.dkAdd (h : Blk W q.g 90 (dka q d)) (x : Chg Sv) (A : Option Addr) (c : Nat) : Blk (W.setCell ⟨q.g, 3, none⟩ (.slice A (d.pend.length + 1) c)) q.g 90 (dka ⟨q.g, q.bs, q.bm, A, c⟩ (dAdd d x)) := by
 have h2 := h.set_ 3 (.slice A (d.pend.length + 1) c)
 have e : dka ⟨q.g, q.bs, q.bm, A, c⟩ (dAdd d x) = #[.int .i64 d.room, .map (some q.bs), .map (some q.bm), .slice A (d.pend.length + 1) c, .int .i64 d.fuse, .bool d.down] := by simp [dka, dAdd]
 rw [e]
 exact h2
end
def AddG (w w' : World) (q : Fp) (d : Dk Sv) (x : Chg Sv) : Prop := ∃ A c, Blk w' q.g 90 (dka ⟨q.g, q.bs, q.bm, A, c⟩ (dAdd d x)) ∧ OmD w' q.bs d.sure ∧ OmD w' q.bm (fdo d.shown x) ∧ Own w' 0 119 4 A (d.pend.length + 1) c (d.pend.flatMap chl ++ chl x) ∧
 (A.map (·.block) = q.A.map (·.block) ∨ ∃ k, A.map (·.block) = some k ∧ w.heap.size ≤ k) ∧ Frd q w w'
theorem AddG.of {w W w' : World} {q : Fp} {d : Dk Sv} {x : Chg Sv} {A : Option Addr} {c : Nat} (hA : AdC w W q d x) (hB : Blk W q.g 90 (dka ⟨q.g, q.bs, q.bm, A, c⟩ (dAdd d x)))
 (hO : Own W 0 119 4 A (d.pend.length + 1) c (d.pend.flatMap chl ++ chl x)) (hp : A.map (·.block) = q.A.map (·.block) ∨ ∃ k, A.map (·.block) = some k ∧ w.heap.size ≤ k) (hne : q.bs ≠ q.bm) (hm : OmD w' q.bm (fdo d.shown x)) (hw : Wr W w' q.bm) : AddG w w' q d x := by
 have h0 := hA.k0 q.bm (.inr (.inr (.inl rfl)))
 refine ⟨A, c, hB.wr hw (fun e => hA.k1.2 e.symm), OmD.wr hA.s hw hne, hm, ?_, hp, hA.fr.wr2 hw fun j e => by injection e with e; subst e; exact .inl (.inr (.inr (.inl rfl)))⟩
 refine World.ownsRow.kept hO hw (.inr fun e => ?_)
 rw [ownBlock_slice] at e
 rcases hp with hp | ⟨k, hk, hs⟩
 · exact (hA.k2 _ (hp.symm.trans e)).2.2 rfl
 · rw [e] at hk
   injection hk with hk
   omega
set_option maxRecDepth 100000 in
set_option maxHeartbeats 1000000 in
theorem Add_any {w : World} {q : Fp} {d : Dk Sv} {x : Chg Sv} (h : Dsk w q d) (hn : d.pend.length ≤ 1000000) (hL : d.shown.length ≤ 100000000) (h1 : x.name.length ≤ 24) (h2 : x.to.length ≤ 24) :
 Calls Tryz.prog 98 #[.pointer (some ⟨q.g, 0, none⟩), .agg (cha x)] w fun e w' => e = .returned (.tuple #[]) ∧ AddG w w' q d x := by
 have hne := h.ne
 have hst : AdC w (w.alloc (.cells (cha x) 119)).drew q d x := by
  have hbx := below_new w (.cells (cha x) 119)
  exact ⟨(Blk.new w _ _).drew, Frd.of_below ⟨hbx.os, hbx.tape, hbx.output, hbx.size, hbx.block⟩, Om.same h.sure (hbx.block _ h.sure.lt), Om.same h.shown (hbx.block _ h.shown.lt), fun i => h.ltM, h.neg, fun k => h.negA⟩
 have hB0 : Blk (w.alloc (.cells (cha x) 119)).drew q.g 90 (dka q d) := (h.blk.alloc _).drew
 have hO0 : Own (w.alloc (.cells (cha x) 119)).drew 0 119 4 q.A d.pend.length q.c (d.pend.flatMap chl) := World.ownsRow.drew (World.ownsRow.alloc h.pend _)
 clear h
 go_enter Tryz.func98, Tryz.ntmps98
 go_upto_region 1 with (fail)
 go_cut [] (fun wz => ∃ A c, AdC w wz q d x ∧ Blk wz q.g 90 (dka ⟨q.g, q.bs, q.bm, A, c⟩ (dAdd d x)) ∧ Own wz 0 119 4 A (d.pend.length + 1) c (d.pend.flatMap chl ++ chl x) ∧ (A.map (·.block) = q.A.map (·.block) ∨ ∃ k, A.map (·.block) = some k ∧ w.heap.size ≤ k))
 case first =>
  refine wp_region_held_drew (S := (fun W => AdC w W q d x)) (by kernel_rfl) ?_ (fun hHeld => ?_)
  · exact hst
  refine gen0 (T := fun W => ((fun W => AdC w W q d x)) W ∧ Blk W q.g 90 (dka q d) ∧ Own W 0 119 4 q.A d.pend.length q.c (d.pend.flatMap chl) ∧ True) ?_ (fun wq1 hT => ?_)
  · exact ⟨by (with_reducible exact hst), by (with_reducible assumption), by (with_reducible assumption), trivial⟩
  (try clear f0 f1 f2 f3 f4 f5 f6 f7 f8 f9 f10 f11)
  obtain ⟨hHeld, f0, f1, -⟩ := hT
  refine wTk (i := 0) (oi := ⟨some 4, _, _, _, _, _⟩) (v := ?_) rfl ⟨by kernel_rfl, ?_⟩ (by assumption) ?_
  rotate_left
  · (intro wS hSw; (try dsimp only at hSw); obtain ⟨q0, q1, q2, q3⟩ := hSw.bx.fourC; clear hSw; go_simp; (try with_reducible rfl))
  (try simp only [Act.put, pS0, pS1, pS2])
  refine wTk (i := 1) (oi := ⟨some 5, _, _, _, _, _⟩) (v := ?_) rfl ⟨by kernel_rfl, ?_⟩ (by assumption) ?_
  rotate_left
  · (intro wS hSw; (try dsimp only at hSw); obtain ⟨q0, q1, q2, q3⟩ := hSw.bx.fourC; clear hSw; go_simp; (try with_reducible rfl))
  (try simp only [Act.put, pS0, pS1, pS2])
  refine wTk (i := 2) (oi := ⟨some 6, _, _, _, _, _⟩) (v := ?_) rfl ⟨by kernel_rfl, ?_⟩ (by assumption) ?_
  rotate_left
  · (intro wS hSw; (try dsimp only at hSw); obtain ⟨q0, q1, q2, q3⟩ := hSw.bx.fourC; clear hSw; go_simp; (try with_reducible rfl))
  (try simp only [Act.put, pS0, pS1, pS2])
  refine wTk (i := 3) (oi := ⟨some 7, _, _, _, _, _⟩) (v := ?_) rfl ⟨by kernel_rfl, ?_⟩ (by assumption) ?_
  rotate_left
  · (intro wS hSw; (try dsimp only at hSw); obtain ⟨q0, q1, q2, q3⟩ := hSw.bx.fourC; clear hSw; go_simp; (try with_reducible rfl))
  (try simp only [Act.put, pS0, pS1, pS2])
  refine wTk (i := 5) (oi := ⟨some 9, _, _, _, _, _⟩) (v := ?_) rfl ⟨by kernel_rfl, ?_⟩ (by assumption) ?_
  rotate_left
  · (intro wS hSw; (try dsimp only at hSw); obtain ⟨q0, q1, q2, q3⟩ := hSw.bx.fourC; clear hSw; go_simp; (try with_reducible rfl))
  (try simp only [Act.put, pS0, pS1, pS2])
  refine wpAnyH_ready (rs := [4, 6]) (by kernel_rfl) (by simp) ?_
  refine AllReadyH.cons (o := ⟨some 8, _, _, _, _, _⟩) rfl (fun K hK => ?_) ?_
  · ((obtain ⟨s2, s3, sf3⟩ := f0.dk3)); go_simp
    refine hK.out _ _ ?_ (fun _ => ?_)
    · ((try dsimp only); (with_reducible exact hHeld))
    clear hK K
    (try simp only [Act.put, pS0, pS1, pS2])
    refine gen0 (T := fun W => ((fun W => AdC w W q d x)) W ∧ Blk W q.g 90 (dka q d) ∧ Own W 0 119 4 q.A d.pend.length q.c (d.pend.flatMap chl) ∧ True) ?_ (fun wq2 hT => ?_)
    · exact ⟨by (with_reducible exact hHeld), by (with_reducible assumption), by (with_reducible assumption), trivial⟩
    (try clear f0 f1 f2 f3 f4 f5 f6 f7 f8 f9 f10 f11)
    obtain ⟨hHeld, f0, f1, -⟩ := hT
    refine wR1 (i := 6) (o := ⟨some 10, _, _, _, _, _⟩) rfl (fun K hK => ?_)
    ((obtain ⟨s2, s3, sf3⟩ := f0.dk3)); go_simp
    refine hK.out _ _ ?_ (fun _ => ?_)
    · ((try dsimp only); (with_reducible exact hHeld.alloc _))
    clear hK K
    (try simp only [Act.put, pS0, pS1, pS2])
    refine gen0 (T := fun W => ((fun W => AdC w W q d x)) W ∧ Blk W q.g 90 (dka q d) ∧ Own W 0 119 4 q.A d.pend.length q.c (d.pend.flatMap chl) ∧ Sl W 4 (some ⟨wq2.heap.size, 0, none⟩) 1 1 (chl x) ∧ True) ?_ (fun wq3 hT => ?_)
    · exact ⟨by (with_reducible exact hHeld.alloc _), by (with_reducible exact f0.alloc _), by (with_reducible exact World.ownsRow.alloc f1 _), by (with_reducible exact lit_ch _ _), trivial⟩
    (try clear f0 f1 f2 f3 f4 f5 f6 f7 f8 f9 f10 f11)
    obtain ⟨hHeld, f0, f1, f2, -⟩ := hT
    refine wR1 (i := 7) (o := ⟨some 11, _, _, _, _, _⟩) rfl (fun K hK => ?_)
    (refine step_chg (by kernel_rfl) (.tmp 8) (.tmp 10) rfl q.A d.pend.length q.c _ rfl f1 (by omega) _ x rfl f2 ?_; intro A7 c7 w7 ho7 hg7 hp7; have hk7 := hHeld.place hp7)
    refine hK.out _ _ ?_ (fun _ => ?_)
    · ((try dsimp only); (exact hHeld.grown hg7 (fun k e => ⟨.inr (.inr (.inr e)), (hHeld.k2 k e).2⟩)))
    clear hK K
    (try simp only [Act.put, pS0, pS1, pS2])
    refine gen0 (T := fun W => ((fun W => AdC w W q d x)) W ∧ Blk W q.g 90 (dka q d) ∧ Own W 0 119 4 A7 (d.pend.length + 1) c7 (d.pend.flatMap chl ++ chl x) ∧ True) ?_ (fun wq4 hT => ?_)
    · exact ⟨by (exact hHeld.grown hg7 (fun k e => ⟨.inr (.inr (.inr e)), (hHeld.k2 k e).2⟩)), by (exact (hg7.block _ f0.lt (fun e => (hHeld.k2 _ e.symm).1 rfl)).trans f0), by (with_reducible assumption), trivial⟩
    (try clear f0 f1 f2 f3 f4 f5 f6 f7 f8 f9 f10 f11)
    obtain ⟨hHeld, f0, f1, -⟩ := hT
    refine wTk (i := 8) (oi := ⟨some 12, _, _, _, _, _⟩) (v := ?_) rfl ⟨by kernel_rfl, ?_⟩ (by assumption) ?_
    rotate_left
    · (intro wS hSw; (try dsimp only at hSw); obtain ⟨q0, q1, q2, q3⟩ := hSw.bx.fourC; clear hSw; go_simp; (try with_reducible rfl))
    (try simp only [Act.put, pS0, pS1, pS2])
    refine wTk (i := 9) (oi := ⟨some 13, _, _, _, _, _⟩) (v := ?_) rfl ⟨by kernel_rfl, ?_⟩ (by assumption) ?_
    rotate_left
    · (intro wS hSw; (try dsimp only at hSw); obtain ⟨q0, q1, q2, q3⟩ := hSw.bx.fourC; clear hSw; go_simp; (try with_reducible rfl))
    (try simp only [Act.put, pS0, pS1, pS2])
    refine wR1 (i := 10) (o := ⟨none, _, _, _, _, _⟩) rfl (fun K hK => ?_)
    obtain ⟨s2, s3, sf3⟩ := f0.dk3
    ((obtain ⟨s2, s3, sf3⟩ := f0.dk3)); go_simp
    refine hK.out _ _ ?_ (fun _ => ?_)
    · ((try dsimp only); (with_reducible exact hHeld.setG _ _))
    clear hK K
    (try simp only [Act.put, pS0, pS1, pS2])
    refine gen0 (T := fun W => ((fun W => AdC w W q d x)) W ∧ Own W 0 119 4 A7 (d.pend.length + 1) c7 (d.pend.flatMap chl ++ chl x) ∧ Blk W q.g 90 (dka ⟨q.g, q.bs, q.bm, A7, c7⟩ (dAdd d x)) ∧ True) ?_ (fun wq5 hT => ?_)
    · exact ⟨by (with_reducible exact hHeld.setG _ _), by (exact f1.setG hk7.1 _), by (exact f0.dkAdd x _ _), trivial⟩
    (try clear f0 f1 f2 f3 f4 f5 f6 f7 f8 f9 f10 f11)
    obtain ⟨hHeld, f0, f1, -⟩ := hT
    refine wpAnyH_done (by kernel_rfl) ?_ _
    (go_wp2_with fail; go_meet; exact ⟨_, _, hHeld, f1, f0, hk7.2⟩)
  refine AllReadyH.cons (o := ⟨some 10, _, _, _, _, _⟩) rfl (fun K hK => ?_) ?_
  · ((obtain ⟨s2, s3, sf3⟩ := f0.dk3)); go_simp
    refine hK.out _ _ ?_ (fun _ => ?_)
    · ((try dsimp only); (with_reducible exact hHeld.alloc _))
    clear hK K
    (try simp only [Act.put, pS0, pS1, pS2])
    refine gen0 (T := fun W => ((fun W => AdC w W q d x)) W ∧ Blk W q.g 90 (dka q d) ∧ Own W 0 119 4 q.A d.pend.length q.c (d.pend.flatMap chl) ∧ Sl W 4 (some ⟨wq1.heap.size, 0, none⟩) 1 1 (chl x) ∧ True) ?_ (fun wq6 hT => ?_)
    · exact ⟨by (with_reducible exact hHeld.alloc _), by (with_reducible exact f0.alloc _), by (with_reducible exact World.ownsRow.alloc f1 _), by (with_reducible exact lit_ch _ _), trivial⟩
    (try clear f0 f1 f2 f3 f4 f5 f6 f7 f8 f9 f10 f11)
    obtain ⟨hHeld, f0, f1, f2, -⟩ := hT
    refine wR1 (i := 4) (o := ⟨some 8, _, _, _, _, _⟩) rfl (fun K hK => ?_)
    ((obtain ⟨s2, s3, sf3⟩ := f0.dk3)); go_simp
    refine hK.out _ _ ?_ (fun _ => ?_)
    · ((try dsimp only); (with_reducible exact hHeld))
    clear hK K
    (try simp only [Act.put, pS0, pS1, pS2])
    refine gen0 (T := fun W => ((fun W => AdC w W q d x)) W ∧ Blk W q.g 90 (dka q d) ∧ Own W 0 119 4 q.A d.pend.length q.c (d.pend.flatMap chl) ∧ Sl W 4 (some ⟨wq1.heap.size, 0, none⟩) 1 1 (chl x) ∧ True) ?_ (fun wq7 hT => ?_)
    · exact ⟨by (with_reducible exact hHeld), by (with_reducible assumption), by (with_reducible assumption), by (with_reducible assumption), trivial⟩
    (try clear f0 f1 f2 f3 f4 f5 f6 f7 f8 f9 f10 f11)
    obtain ⟨hHeld, f0, f1, f2, -⟩ := hT
    refine wR1 (i := 7) (o := ⟨some 11, _, _, _, _, _⟩) rfl (fun K hK => ?_)
    (refine step_chg (by kernel_rfl) (.tmp 8) (.tmp 10) rfl q.A d.pend.length q.c _ rfl f1 (by omega) _ x rfl f2 ?_; intro A7 c7 w7 ho7 hg7 hp7; have hk7 := hHeld.place hp7)
    refine hK.out _ _ ?_ (fun _ => ?_)
    · ((try dsimp only); (exact hHeld.grown hg7 (fun k e => ⟨.inr (.inr (.inr e)), (hHeld.k2 k e).2⟩)))
    clear hK K
    (try simp only [Act.put, pS0, pS1, pS2])
    refine gen0 (T := fun W => ((fun W => AdC w W q d x)) W ∧ Blk W q.g 90 (dka q d) ∧ Own W 0 119 4 A7 (d.pend.length + 1) c7 (d.pend.flatMap chl ++ chl x) ∧ True) ?_ (fun wq8 hT => ?_)
    · exact ⟨by (exact hHeld.grown hg7 (fun k e => ⟨.inr (.inr (.inr e)), (hHeld.k2 k e).2⟩)), by (exact (hg7.block _ f0.lt (fun e => (hHeld.k2 _ e.symm).1 rfl)).trans f0), by (with_reducible assumption), trivial⟩
    (try clear f0 f1 f2 f3 f4 f5 f6 f7 f8 f9 f10 f11)
    obtain ⟨hHeld, f0, f1, -⟩ := hT
    refine wTk (i := 8) (oi := ⟨some 12, _, _, _, _, _⟩) (v := ?_) rfl ⟨by kernel_rfl, ?_⟩ (by assumption) ?_
    rotate_left
    · (intro wS hSw; (try dsimp only at hSw); obtain ⟨q0, q1, q2, q3⟩ := hSw.bx.fourC; clear hSw; go_simp; (try with_reducible rfl))
    (try simp only [Act.put, pS0, pS1, pS2])
    refine wTk (i := 9) (oi := ⟨some 13, _, _, _, _, _⟩) (v := ?_) rfl ⟨by kernel_rfl, ?_⟩ (by assumption) ?_
    rotate_left
    · (intro wS hSw; (try dsimp only at hSw); obtain ⟨q0, q1, q2, q3⟩ := hSw.bx.fourC; clear hSw; go_simp; (try with_reducible rfl))
    (try simp only [Act.put, pS0, pS1, pS2])
    refine wR1 (i := 10) (o := ⟨none, _, _, _, _, _⟩) rfl (fun K hK => ?_)
    obtain ⟨s2, s3, sf3⟩ := f0.dk3
    ((obtain ⟨s2, s3, sf3⟩ := f0.dk3)); go_simp
    refine hK.out _ _ ?_ (fun _ => ?_)
    · ((try dsimp only); (with_reducible exact hHeld.setG _ _))
    clear hK K
    (try simp only [Act.put, pS0, pS1, pS2])
    refine gen0 (T := fun W => ((fun W => AdC w W q d x)) W ∧ Own W 0 119 4 A7 (d.pend.length + 1) c7 (d.pend.flatMap chl ++ chl x) ∧ Blk W q.g 90 (dka ⟨q.g, q.bs, q.bm, A7, c7⟩ (dAdd d x)) ∧ True) ?_ (fun wq9 hT => ?_)
    · exact ⟨by (with_reducible exact hHeld.setG _ _), by (exact f1.setG hk7.1 _), by (exact f0.dkAdd x _ _), trivial⟩
    (try clear f0 f1 f2 f3 f4 f5 f6 f7 f8 f9 f10 f11)
    obtain ⟨hHeld, f0, f1, -⟩ := hT
    refine wpAnyH_done (by kernel_rfl) ?_ _
    (go_wp2_with fail; go_meet; exact ⟨_, _, hHeld, f1, f0, hk7.2⟩)
  exact AllReadyH.nil
 case rest =>
  obtain ⟨A, c, hA, hB, hO, hp⟩ := hcut
  go_upto_region 2 with (fail)
  have hst2 := hA.drew
  have hBd := hB.drew
  have hOd := World.ownsRow.drew hO
  clear hst hB0 hO0 hA hB hO
  have hk1 : w.heap.size ≠ q.bm := by
   have := hst2.k0 q.bm (.inr (.inr (.inl rfl)))
   omega
  have hk2 : q.g ≠ q.bm := fun e => hst2.k1.2 e.symm
  refine wp_region_held_drew (S := (fun W => Blk W w.heap.size 119 (cha x) ∧ Blk W q.g 90 (dka ⟨q.g, q.bs, q.bm, A, c⟩ (dAdd d x)))) (by kernel_rfl) ?_ (fun hHeld => ?_)
  · exact ⟨hst2.bx, hBd⟩
  refine gen0 (T := fun W => ((fun W => Blk W w.heap.size 119 (cha x) ∧ Blk W q.g 90 (dka ⟨q.g, q.bs, q.bm, A, c⟩ (dAdd d x)))) W ∧ AdC w W q d x ∧ Own W 0 119 4 A (d.pend.length + 1) c (d.pend.flatMap chl ++ chl x) ∧ True) ?_ (fun wq1 hT => ?_)
  · exact ⟨by (with_reducible exact ⟨hst2.bx, hBd⟩), by (with_reducible assumption), by (with_reducible assumption), trivial⟩
  (try clear f0 f1 f2 f3 f4 f5 f6 f7 f8 f9 f10 f11)
  obtain ⟨hHeld, f0, f1, -⟩ := hT
  refine wTk (i := 0) (oi := ⟨some 14, _, _, _, _, _⟩) (v := ?_) rfl ⟨by kernel_rfl, ?_⟩ (by assumption) ?_
  rotate_left
  · (intro wS hSw; (try dsimp only at hSw); obtain ⟨q0, q1, q2, q3⟩ := hSw.1.fourC; obtain ⟨s2, _, _⟩ := Blk.dk3 (q := ⟨q.g, q.bs, q.bm, A, c⟩) hSw.2; clear hSw; go_simp; (try with_reducible rfl))
  (try simp only [Act.put, pS0, pS1, pS2])
  refine wTk (i := 1) (oi := ⟨some 15, _, _, _, _, _⟩) (v := ?_) rfl ⟨by kernel_rfl, ?_⟩ (by assumption) ?_
  rotate_left
  · (intro wS hSw; (try dsimp only at hSw); obtain ⟨q0, q1, q2, q3⟩ := hSw.1.fourC; obtain ⟨s2, _, _⟩ := Blk.dk3 (q := ⟨q.g, q.bs, q.bm, A, c⟩) hSw.2; clear hSw; go_simp; (try with_reducible rfl))
  (try simp only [Act.put, pS0, pS1, pS2])
  refine wTk (i := 2) (oi := ⟨some 16, _, _, _, _, _⟩) (v := ?_) rfl ⟨by kernel_rfl, ?_⟩ (by assumption) ?_
  rotate_left
  · (intro wS hSw; (try dsimp only at hSw); obtain ⟨q0, q1, q2, q3⟩ := hSw.1.fourC; obtain ⟨s2, _, _⟩ := Blk.dk3 (q := ⟨q.g, q.bs, q.bm, A, c⟩) hSw.2; clear hSw; go_simp; (try with_reducible rfl))
  (try simp only [Act.put, pS0, pS1, pS2])
  refine wTk (i := 3) (oi := ⟨some 17, _, _, _, _, _⟩) (v := ?_) rfl ⟨by kernel_rfl, ?_⟩ (by assumption) ?_
  rotate_left
  · (intro wS hSw; (try dsimp only at hSw); obtain ⟨q0, q1, q2, q3⟩ := hSw.1.fourC; obtain ⟨s2, _, _⟩ := Blk.dk3 (q := ⟨q.g, q.bs, q.bm, A, c⟩) hSw.2; clear hSw; go_simp; (try with_reducible rfl))
  (try simp only [Act.put, pS0, pS1, pS2])
  refine wTk (i := 4) (oi := ⟨some 18, _, _, _, _, _⟩) (v := ?_) rfl ⟨by kernel_rfl, ?_⟩ (by assumption) ?_
  rotate_left
  · (intro wS hSw; (try dsimp only at hSw); obtain ⟨q0, q1, q2, q3⟩ := hSw.1.fourC; obtain ⟨s2, _, _⟩ := Blk.dk3 (q := ⟨q.g, q.bs, q.bm, A, c⟩) hSw.2; clear hSw; go_simp; (try with_reducible rfl))
  (try simp only [Act.put, pS0, pS1, pS2])
  refine wR1 (i := 5) (o := ⟨some 19, _, _, _, _, _⟩) rfl (fun K hK => ?_)
  go_simp
  (refine (Do_any x f0.m hL (by omega) (by omega)).mono ?_; rintro e w5 ⟨rfl, hO5, hw5⟩)
  go_wp2_with fail
  refine hK.out _ _ ?_ (fun _ => ?_)
  · ((try dsimp only); (exact ⟨hHeld.1.wr hw5 hk1, hHeld.2.wr hw5 hk2⟩))
  clear hK K
  (try simp only [Act.put, pS0, pS1, pS2])
  refine gen0 (T := fun W => ((fun W => Blk W w.heap.size 119 (cha x) ∧ Blk W q.g 90 (dka ⟨q.g, q.bs, q.bm, A, c⟩ (dAdd d x)))) W ∧ AddG w W q d x ∧ True) ?_ (fun wq2 hT => ?_)
  · exact ⟨by (exact ⟨hHeld.1.wr hw5 hk1, hHeld.2.wr hw5 hk2⟩), by (exact AddG.of f0 hHeld.2 f1 hp hne hO5 hw5), trivial⟩
  (try clear f0 f1 f2 f3 f4 f5 f6 f7 f8 f9 f10 f11)
  obtain ⟨hHeld, f0, -⟩ := hT
  refine wpAnyH_done (by kernel_rfl) ?_ _
  go_wp2_with fail
  go_end0
  exact ⟨rfl, f0⟩
theorem Dsk.add {w w' : World} {q : Fp} {d : Dk Sv} {x : Chg Sv} (h : Dsk w q d) (h1 : x.name.length ≤ 24) (h2 : x.to.length ≤ 24) (hx : SlB w x.val.A x.val.c x.val.l) (hxa : x.val.l ≠ [] → ∀ ad, x.val.A = some ad → ¬ q.M ad.block) (hxl : x.val.l.length ≤ 65536) (hG : AddG w w' q d x) :
 ∃ q', q'.g = q.g ∧ Dsk w' q' (dAdd d x) ∧ Frd q w w' ∧ (∀ i, q'.M i → q.M i ∨ w.heap.size ≤ i) ∧ ∀ i, Tc q' (dAdd d x) i → Tc q d i ∨ w.heap.size ≤ i ∨ x.val.l ≠ [] ∧ x.val.A.map (·.block) = some i := by
 obtain ⟨A, c, hB, hs, hm, hO, hp, hF⟩ := hG
 have hsv : ∀ s ∈ svs (dAdd d x), s ∈ svs d ∨ s = x.val := by
  intro s hs
  simp only [svs, dAdd, List.mem_append, List.mem_map, List.mem_singleton] at hs ⊢
  rcases hs with hs | ⟨y, hy | hy, rfl⟩
  · exact .inl (.inl hs)
  · exact .inl (.inr ⟨y, hy, rfl⟩)
  · exact .inr (by rw [hy])
 have hM : ∀ i, Fp.M ⟨q.g, q.bs, q.bm, A, c⟩ i → q.M i ∨ w.heap.size ≤ i := by
  rintro i (e | e | e | e)
  · exact .inl (.inl e)
  · exact .inl (.inr (.inl e))
  · exact .inl (.inr (.inr (.inl e)))
  · dsimp only at e
    rcases hp with hp | ⟨k, hk, hz⟩
    · exact .inl (.inr (.inr (.inr (hp.symm.trans e))))
    · rw [e] at hk
      injection hk with hk
      exact .inr (by omega)
 have hR : ∀ s ∈ svs (dAdd d x), SlB w s.A s.c s.l ∧ (s.l ≠ [] → ∀ ad, s.A = some ad → ¬ q.M ad.block) := by
  intro s hs
  rcases hsv s hs with hs | rfl
  · exact ⟨h.rd s hs, h.ap s hs⟩
  · exact ⟨hx, hxa⟩
 have hlt : ∀ s ∈ svs (dAdd d x), s.l ≠ [] → ∀ ad, s.A = some ad → ad.block < w.heap.size := by
  intro s hs hne ad hA
  obtain ⟨ad', e, hc⟩ := Sl.at1 (f := bv) (l := s.l) (hR s hs).1 (k := 0) (List.length_pos_iff.2 hne)
  rw [hA] at e
  injection e with e
  subst e
  have := World.block_lt_of_cell? _ _ hc
  rwa [addr_add_block] at this
 refine ⟨⟨q.g, q.bs, q.bm, A, c⟩, rfl, ⟨hB, hs, ?_, ?_, h.ne, ?_, ?_, h.ris, ?_, ?_⟩, hF, hM, ?_⟩
 · have : (dAdd d x).shown = fdo d.shown x := fdos_snoc _ _ _
   rw [this]
   exact hm
 · have e1 : (dAdd d x).pend.length = d.pend.length + 1 := by simp [dAdd]
   have e2 : (dAdd d x).pend.flatMap chl = d.pend.flatMap chl ++ chl x := by simp [dAdd]
   rw [e1, e2]
   exact hO
 · intro s hs
   exact SlB.sameB (hR s hs).1 fun hne ad hA => hF.block _ (hlt s hs hne ad hA) ((hR s hs).2 hne ad hA)
 · intro s hs hne ad hA hm
   rcases hM _ hm with hm | hm
   · exact (hR s hs).2 hne ad hA hm
   · have := hlt s hs hne ad hA
     omega
 · intro s hs
   rcases hsv s hs with hs | rfl
   · exact h.len s hs
   · exact hxl
 · refine ⟨h.nm.1, fun y hy => ?_⟩
   simp only [dAdd, List.mem_append, List.mem_singleton] at hy
   rcases hy with hy | rfl
   · exact h.nm.2 y hy
   · exact ⟨h1, h2⟩
 · rintro i (hi | ⟨s, hs, hne, hA⟩)
   · rcases hM i hi with hi | hi
     · exact .inl (.inl hi)
     · exact .inr (.inl hi)
   · rcases hsv s hs with hs | rfl
     · exact .inl (.inr ⟨s, hs, hne, hA⟩)
     · exact .inr (.inr ⟨hne, hA⟩)
theorem dWorks_same {α : Type} (d : Dk α) : (dWorks d).1.sure = d.sure ∧ (dWorks d).1.pend = d.pend ∧ (dWorks d).1.room = d.room ∧ ((dWorks d).2 = 0 ∨ (dWorks d).2 = 14) := by
 unfold dWorks
 split
 · exact ⟨rfl, rfl, rfl, .inr rfl⟩
 split
 · exact ⟨rfl, rfl, rfl, .inr rfl⟩
 split
 · exact ⟨rfl, rfl, rfl, .inl rfl⟩
 · exact ⟨rfl, rfl, rfl, .inl rfl⟩
section
variable {w w1 w2 : World} {q q1 : Fp} {d d1 d2 : Dk Sv}
theorem Dgo.of (h : Dsk w1 q d1) (hF : Frd q w w1) (h1 : d1.sure = d.sure) (h2 : d1.pend = d.pend) : Dgo w q d d1 w1 := ⟨q, rfl, h, hF, fun _ hi => .inl hi, fun _ hi => .inl (hi.same h1 h2)⟩
theorem Dgo.next (hF : Frd q w w1) (h1 : d1.sure = d.sure) (h2 : d1.pend = d.pend) (h : Dgo w1 q d1 d2 w2) : Dgo w q d d2 w2 := by
 obtain ⟨q2, hg, hD, hF2, hM, hT⟩ := h
 have hs := hF.size
 refine ⟨q2, hg, hD, hF.trans hF2 fun i hi => .inl hi, fun i hi => ?_, fun i hi => ?_⟩
 · rcases hM i hi with hi | hi
   · exact .inl hi
   · exact .inr (by omega)
 · rcases hT i hi with hi | hi
   · exact .inl (hi.same h1 h2)
   · exact .inr (by omega)
end
theorem SlB.nilv (w : World) : SlB w Sv.nil.A Sv.nil.c Sv.nil.l := Sl.none_ _ _
theorem Dgo.add {w w' : World} {q : Fp} {d : Dk Sv} {k : Nat} {n t : Bs} (h : Dsk w q d) (h1 : n.length ≤ 24) (h2 : t.length ≤ 24) (hG : AddG w w' q d ⟨k, n, t, Sv.nil⟩) : Dgo w q d (dAdd d ⟨k, n, t, Sv.nil⟩) w' := by
 obtain ⟨q2, hg, hD, hF, hM, hT⟩ := h.add h1 h2 (SlB.nilv w) (fun e => absurd rfl e) (by simp [Sv.nil]) hG
 refine ⟨q2, hg, hD, hF, hM, fun i hi => ?_⟩
 rcases hT i hi with hi | hi | ⟨hi, _⟩
 · exact .inl hi
 · exact .inr hi
 · exact absurd rfl hi
theorem named_len {s : Bs} (h : named s = true) : s.length ≤ 24 := by
 unfold named at h
 simp at h
 omega
set_option maxRecDepth 100000 in
set_option maxHeartbeats 1000000 in
theorem Remove_any {w : World} {q : Fp} {d : Dk Sv} (h : Dsk w q d) (hf : -1 ≤ d.fuse ∧ d.fuse ≤ 9223372036854775807) (hp : d.pend.length ≤ 1000000) (hL : d.shown.length ≤ 100000000) (n : Bs) (hn : n.length ≤ 100000000) :
 Calls Tryz.prog 61 #[.pointer (some ⟨q.g, 0, none⟩), .string ⟨n.toArray⟩] w fun e w' => e = .returned (errv (dRemove Sv.nil d n).2) ∧ Dgo w q d (dRemove Sv.nil d n).1 w' := by
 have hW := Works_any h hf
 obtain ⟨s1, s2, s3, s4⟩ := dWorks_same d
 have hR : dRemove Sv.nil d n = if (dWorks d).2 ≠ 0 then dWorks d else if named n = false then ((dWorks d).1, 2) else if (gget n d.shown).isNone = true then ((dWorks d).1, 4) else (dAdd (dWorks d).1 ⟨2, n, [], Sv.nil⟩, 0) := rfl
 generalize dWorks d = dw at *
 obtain ⟨d1, k⟩ := dw
 dsimp only at *
 have hsh : d1.shown = d.shown := by unfold Dk.shown; rw [s1, s2]
 clear h hf
 rcases s4 with rfl | rfl
 · rw [if_neg (by simp)] at hR
   rw [show errv 0 = Value.nilIface from rfl] at hW
   have HW := Lib.hid hW
   clear hW
   go_enter Tryz.func61, Tryz.ntmps61
   go_wp2_with fail
   refine HW.out.mono ?_
   rintro e w1 ⟨rfl, hD1, hw1⟩
   have hF1 : Frd q w w1 := Frd.of_wr (.inl rfl) hw1
   go_wp2_with fail
   refine (Named_any n w1 (by omega)).mono ?_
   rintro e w2 ⟨rfl, hb2⟩
   have hD2 := hD1.below hb2
   have hF2 : Frd q w w2 := hF1.trans (Frd.of_below (q := q) hb2) fun i hi => .inl hi
   cases hnm : named n
   · have HR := Lib.hid (show dRemove Sv.nil d n = (d1, 2) from by rw [hR, if_pos hnm])
     clear hR hnm
     go_wp2_with fail
     go_ret
     exact ⟨by rw [HR.out]; rfl, by rw [HR.out]; exact Dgo.of hD2 hF2 s1 s2⟩
   · rw [if_neg (by simp [hnm])] at hR
     have hlk := hD2.shown.look (T := 87) (E := 52) Tryz.underlying9 Tryz.underlying87 (zero_bs _) (k := n) (by unfold maxLen; omega)
     rw [hsh] at hlk
     obtain ⟨a0, a1, a2, -⟩ := hD2.six
     cases hgt : gget n d.shown with
     | none =>
      rw [hgt] at hlk
      have HR := Lib.hid (show dRemove Sv.nil d n = (d1, 4) from by rw [hR, hgt]; rfl)
      clear hR hgt
      go_wp2_with fail
      go_ret
      exact ⟨by rw [HR.out]; rfl, by rw [HR.out]; exact Dgo.of hD2 hF2 s1 s2⟩
     | some u =>
      rw [hgt] at hlk
      dsimp only [Option.map_some, Option.getD_some, Option.isSome_some] at hlk
      have HR := Lib.hid (show dRemove Sv.nil d n = (dAdd d1 ⟨2, n, [], Sv.nil⟩, 0) from by rw [hR, hgt]; rfl)
      clear hR hgt
      go_wp2_with fail
      refine (Add_any (x := ⟨2, n, [], Sv.nil⟩) hD2 (by rw [s2]; omega) (by rw [hsh]; omega) (named_len hnm) (by simp)).mono ?_
      rintro e w3 ⟨rfl, hG⟩
      have hE := (Dgo.add hD2 (named_len hnm) (by simp) hG).next hF2 s1 s2
      clear hlk a0 a1 a2
      go_wp2_with fail
      go_ret
      exact ⟨by rw [HR.out]; rfl, by rw [HR.out]; exact hE⟩
 · have HR := Lib.hid (show dRemove Sv.nil d n = (d1, 14) from by rw [hR, if_pos (by simp)])
   rw [show errv 14 = Value.iface 60 (.int .i64 14) from rfl] at hW
   have HW := Lib.hid hW
   clear hW hR
   go_enter Tryz.func61, Tryz.ntmps61
   go_wp2_with fail
   refine HW.out.mono ?_
   rintro e w1 ⟨rfl, hD1, hw1⟩
   go_wp2_with fail
   go_ret
   exact ⟨by rw [HR.out]; rfl, by rw [HR.out]; exact Dgo.of hD1 (Frd.of_wr (.inl rfl) hw1) s1 s2⟩
section
variable {α : Type} {N : Bs → Prop} {V : α → Prop} {l : List (Bs × α)}
theorem fdo_all (hl : ∀ p ∈ l, N p.1 ∧ V p.2) {x : Chg α} (h1 : N x.name) (h2 : N x.to) (h3 : V x.val) : ∀ p ∈ fdo l x, N p.1 ∧ V p.2 := by
 intro p hp
 rcases Decidable.em (x.kind = 0) with hk | hk
 · rw [fdo_w hk] at hp
   rcases gmem_put.1 hp with e | e
   · rw [e]; exact ⟨h1, h3⟩
   · exact hl p e.1
 cases hg : gget x.name l with
 | none => rw [fdo_n hk hg] at hp; exact hl p hp
 | some b =>
  rcases Decidable.em (x.kind = 1) with hk1 | hk1
  · rw [fdo_r hk1 hg] at hp
    rcases gmem_put.1 hp with e | e
    · rw [e]; exact ⟨h2, (hl _ (gget_mem hg)).2⟩
    · exact hl p (gmem_del.1 e.1).1
  · rw [fdo_d hk hk1 hg] at hp
    exact hl p (gmem_del.1 hp).1
theorem fdos_all (cs : List (Chg α)) : ∀ {l : List (Bs × α)}, (∀ p ∈ l, N p.1 ∧ V p.2) → (∀ x ∈ cs, N x.name ∧ N x.to ∧ V x.val) → ∀ p ∈ fdos l cs, N p.1 ∧ V p.2 := by
 induction cs with
 | nil => exact fun hl _ => hl
 | cons x r ih =>
  intro l hl hc
  obtain ⟨h1, h2, h3⟩ := hc x (List.mem_cons_self ..)
  exact ih (fdo_all hl h1 h2 h3) fun y hy => hc y (List.mem_cons_of_mem _ hy)
end
theorem Dsk.shown_mem {w : World} {q : Fp} {d : Dk Sv} (h : Dsk w q d) : ∀ p ∈ d.shown, p.1.length ≤ 24 ∧ p.2 ∈ svs d := by
 refine fdos_all d.pend (N := fun s => s.length ≤ 24) (V := fun s => s ∈ svs d) (fun p hp => ⟨h.nm.1 p hp, ?_⟩) fun x hx => ⟨(h.nm.2 x hx).1, (h.nm.2 x hx).2, ?_⟩
 · exact List.mem_append.2 (.inl (List.mem_map_of_mem hp))
 · exact List.mem_append.2 (.inr (List.mem_map_of_mem (f := fun y : Chg Sv => y.val) hx))
theorem Dsk.synced {w : World} {q : Fp} {d : Dk Sv} (h : Dsk w q d) {es : Array MapEntry} {clock : Nat} (hb : w.heap[q.bm]? = some (.map es clock)) :
 Dgo w q d { d with sure := d.shown, pend := [] } (((w.alloc (.map es clock)).setCell ⟨q.g, 1, none⟩ (.map (some w.heap.size))).setCell ⟨q.g, 3, none⟩ (.slice none 0 0)) := by
 have hw : Wr w (((w.alloc (.map es clock)).setCell ⟨q.g, 1, none⟩ (.map (some w.heap.size))).setCell ⟨q.g, 3, none⟩ (.slice none 0 0)) q.g := (((Wr.refl _ _).alloc _).set_ 1 _).set_ 3 _
 have hw2 : Wr (w.alloc (.map es clock)) (((w.alloc (.map es clock)).setCell ⟨q.g, 1, none⟩ (.map (some w.heap.size))).setCell ⟨q.g, 3, none⟩ (.slice none 0 0)) q.g := ((Wr.refl _ _).set_ 1 _).set_ 3 _
 have hBlk := ((h.blk.alloc (.map es clock)).set_ 1 (.map (some w.heap.size))).set_ 3 (.slice none 0 0)
 have hg := h.blk.lt
 have hs : OmD (w.alloc (.map es clock)) w.heap.size d.shown := by
  obtain ⟨es2, clock2, hb2, r⟩ := h.shown
  rw [hb] at hb2
  injection hb2 with hb2
  injection hb2 with e1 e2
  subst e1
  subst e2
  exact ⟨es, clock, heap_alloc_new w _, r⟩
 have hsv : ∀ s ∈ svs ({ d with sure := d.shown, pend := [] } : Dk Sv), s ∈ svs d := by
  intro s hs
  simp only [svs, List.map_nil, List.append_nil, List.mem_map] at hs
  obtain ⟨p, hp, rfl⟩ := hs
  exact (h.shown_mem p hp).2
 generalize (((w.alloc (.map es clock)).setCell ⟨q.g, 1, none⟩ (.map (some w.heap.size))).setCell ⟨q.g, 3, none⟩ (.slice none 0 0)) = w' at *
 have hM : ∀ i, Fp.M ⟨q.g, w.heap.size, q.bm, none, 0⟩ i → q.M i ∨ w.heap.size ≤ i := by
  rintro i (e | e | e | e)
  · exact .inl (.inl e)
  · exact .inr (by dsimp only at e; omega)
  · exact .inl (.inr (.inr (.inl e)))
  · cases e
 refine ⟨⟨q.g, w.heap.size, q.bm, none, 0⟩, rfl, ⟨hBlk, ?_, ?_, Own.none_ _ _ _ _, ?_, ?_, ?_, h.ris.fdos _, ?_, ?_⟩, Frd.of_wr (.inl rfl) hw, hM, ?_⟩
 · exact OmD.wr hs hw2 (by dsimp only; omega)
 · exact OmD.wr h.shown hw h.neg.2
 · have := h.shown.lt
   dsimp only
   omega
 · intro s hs
   refine SlB.sameB (h.rd s (hsv s hs)) fun hne ad hA => hw.block _ ?_ fun e => h.ap s (hsv s hs) hne ad hA (.inl (by injection e))
   exact h.lt (.inr ⟨s, hsv s hs, hne, by rw [hA]; rfl⟩)
 · intro s hs hne ad hA hm
   rcases hM _ hm with hm | hm
   · exact h.ap s (hsv s hs) hne ad hA hm
   · have h5 : ad.block < w.heap.size := h.lt (.inr ⟨s, hsv s hs, hne, by rw [hA]; rfl⟩)
     omega
 · exact fun s hs => h.len s (hsv s hs)
 · exact ⟨fun p hp => (h.shown_mem p hp).1, fun x hx => by simp at hx⟩
 · rintro i (hi | ⟨s, hs, hne, hA⟩)
   · rcases hM i hi with hi | hi
     · exact .inl (.inl hi)
     · exact .inr hi
   · exact .inl (.inr ⟨s, hsv s hs, hne, hA⟩)
set_option maxRecDepth 100000 in
set_option maxHeartbeats 1000000 in
theorem Sync_any {w : World} {q : Fp} {d : Dk Sv} (h : Dsk w q d) (hf : -1 ≤ d.fuse ∧ d.fuse ≤ 9223372036854775807) :
 Calls Tryz.prog 62 #[.pointer (some ⟨q.g, 0, none⟩)] w fun e w' => e = .returned (errv (dSync d).2) ∧ Dgo w q d (dSync d).1 w' := by
 have hW := Works_any h hf
 obtain ⟨s1, s2, s3, s4⟩ := dWorks_same d
 have hR : dSync d = if (dWorks d).2 ≠ 0 then dWorks d else ({ (dWorks d).1 with sure := d.shown, pend := [] }, 0) := rfl
 generalize dWorks d = dw at *
 obtain ⟨d1, k⟩ := dw
 dsimp only at *
 have hsh : d1.shown = d.shown := by unfold Dk.shown; rw [s1, s2]
 clear h hf
 rcases s4 with rfl | rfl
 · rw [if_neg (by simp), ← hsh] at hR
   rw [show errv 0 = Value.nilIface from rfl] at hW
   have HW := Lib.hid hW
   have HR := Lib.hid hR
   clear hW hR
   go_enter Tryz.func62, Tryz.ntmps62
   go_wp2_with fail
   refine HW.out.mono ?_
   rintro e w1 ⟨rfl, hD1, hw1⟩
   have hF1 : Frd q w w1 := Frd.of_wr (.inl rfl) hw1
   obtain ⟨a0, a1, a2, a3, a4, a5, af1, af2, af3, af4, af5⟩ := hD1.six
   obtain ⟨es, clock, hb, -⟩ := hD1.shown
   have hE := (hD1.synced hb).next hF1 s1 s2
   go_wp2_with fail
   refine (Tryz.maps_Clone_any q.bm es clock w1 hb).mono ?_
   rintro e w2 ⟨rfl, rfl⟩
   have hB2 := hD1.blk.alloc (.map es clock)
   have g1 : (w1.alloc (.map es clock)).frozen? ⟨q.g, 1, none⟩ = false := hB2.frozen 1
   have b1 : (w1.alloc (.map es clock)).cell? ⟨q.g, 1, none⟩ = some (.map (some q.bs)) := hB2.cell 1
   have g3 : ((w1.alloc (.map es clock)).setCell ⟨q.g, 1, none⟩ (.map (some w1.heap.size))).frozen? ⟨q.g, 3, none⟩ = false := (hB2.set_ 1 _).frozen 3
   have b3 : ((w1.alloc (.map es clock)).setCell ⟨q.g, 1, none⟩ (.map (some w1.heap.size))).cell? ⟨q.g, 3, none⟩ = some (.slice q.A d1.pend.length q.c) := (hB2.set_ 1 _).cell 3
   clear a0 a1 a2 a3 a4 a5 af1 af2 af3 af4 af5 hB2
   go_wp2_with fail
   go_ret
   exact ⟨by rw [HR.out]; rfl, by rw [HR.out]; exact hE⟩
 · have HR := Lib.hid (show dSync d = (d1, 14) from by rw [hR, if_pos (by simp)])
   rw [show errv 14 = Value.iface 60 (.int .i64 14) from rfl] at hW
   have HW := Lib.hid hW
   clear hW hR
   go_enter Tryz.func62, Tryz.ntmps62
   go_wp2_with fail
   refine HW.out.mono ?_
   rintro e w1 ⟨rfl, hD1, hw1⟩
   go_wp2_with fail
   go_ret
   exact ⟨by rw [HR.out]; rfl, by rw [HR.out]; exact Dgo.of hD1 (Frd.of_wr (.inl rfl) hw1) s1 s2⟩
end
end Go.Proofs.YtajfnmohlnkncaaGreatDoor
