/- WHAT IT HOLDS: an act done to a disk and to the document's: walked. | WHAT IT HOLDS: the document's store: which texts are names; objects deleted, put, read: walked. -/
import Derived.Test.YtabnndjdkjkciaaGreatDoorCursorKeepsG30
import Derived.Test.YtabnndjdkjkciaaGreatDoorCursorKeepsG13
import Derived.Test.YtabnndjdkjkciaaGreatDoorCursorKeepsG07
import Derived.Deep.CutBlock
import Derived.Deep.DeepCutAuto
import Derived.Test.YtabnndjdkjkciaaGreatDoorCursorKeepsG29
import Derived.Test.YtabnndjdkjkciaaGreatDoorCursorKeepsG11
namespace Go.Proofs.YtabnndjdkjkciaaGreatDoor
open Go.RowKit Go.Maps Go.Sort
attribute [local go_sem ↓] Go.wp_at_zero Go.wp_at_succ

def acta (x : DA) : Array Value := #[.int .i64 x.k, .string ⟨x.n.toArray⟩, .string ⟨x.t.toArray⟩, .slice x.A x.l.length x.c, .int .i64 x.f, .slice x.B x.ks.length x.kc]
theorem Own.sameH {w w' : World} {B size n c : Nat} {e : TypeId} {A : Option Addr} {xs : List Value} (h : Own w B e size A n c xs) (hs : ∀ k, A.map (·.block) = some k → w'.heap[k]? = w.heap[k]?) : Own w' B e size A n c xs := by
  obtain ⟨h1, h2⟩ := h
  refine ⟨h1, ?_⟩
  rcases h2 with h2 | ⟨g, cap, cur, hv, hg, hh, r⟩
  · exact .inl h2
  · have hA : A = some ⟨g, 0, none⟩ := by injection hv
    exact .inr ⟨g, cap, cur, hv, hg, (hs g (by rw [hA]; rfl)).trans hh, r⟩
theorem Blk.six {w : World} {g : Nat} {t : TypeId} {a b c d e f : Value} (h : Blk w g t #[a, b, c, d, e, f]) : w.cell? ⟨g, 0, none⟩ = some a ∧ w.cell? ⟨g, 1, none⟩ = some b ∧ w.cell? ⟨g, 2, none⟩ = some c ∧ w.cell? ⟨g, 3, none⟩ = some d ∧ w.cell? ⟨g, 4, none⟩ = some e ∧ w.cell? ⟨g, 5, none⟩ = some f := ⟨h.cell 0, h.cell 1, h.cell 2, h.cell 3, h.cell 4, h.cell 5⟩
theorem SlZ.sameB {w w' : World} {B : Option Addr} {kc : Nat} {ks : List Bool} (h : SlZ w B kc ks) (hs : ks ≠ [] → ∀ ad, B = some ad → w'.heap[ad.block]? = w.heap[ad.block]?) : SlZ w' B kc ks :=
  ⟨h.1, h.2.1, h.2.2.1, h.2.2.2.1, fun j u hj => by
    obtain ⟨ad, hA, hc⟩ := h.2.2.2.2 j u hj
    have hne : ks ≠ [] := by rintro e; rw [e] at hj; simp at hj
    refine ⟨ad, hA, ?_⟩
    rw [← hc]
    unfold World.cell?
    rw [addr_add_block, hs hne ad hA]⟩
/-- blocks apart from a disk's and from a call's own -/
def Xt (P : Nat → Prop) (w : World) (q : Fp) (O : Option Addr) (i : Nat) : Prop := (¬ q.M i ∧ P i) ∧ i ≠ w.heap.size ∧ i ≠ w.heap.size + 2 ∧ O.map (·.block) ≠ some i
/-- while an act is done -/
structure DoS (P : Nat → Prop) (w W : World) (q0 q : Fp) (d : Dk Sv) (O : Option Addr) (co : Nat) (own : Bs) (m : Dk Bs) (A : Option Addr) (c : Nat) (B : Option Addr) (k : Nat) (x : DA) : Prop where
  dsk : Dsk W q d
  g : q.g = q0.g
  fr : Frd q0 w W
  M : ∀ i, q.M i → q0.M i ∨ w.heap.size ≤ i
  b0 : Blk W w.heap.size 91 (rda m A c B k)
  b1 : Blk W (w.heap.size + 1) 100 (acta x)
  b2 : Blk W (w.heap.size + 2) 91 rdz
  own : OwnB W (w.heap.size + 3) 5 O co own
  ap : ∀ i, Tc q d i → i ≠ w.heap.size ∧ i ≠ w.heap.size + 1 ∧ i ≠ w.heap.size + 2 ∧ O.map (·.block) ≠ some i
  R : Rdk (Xt P w q O) W m A c B k
  up0 : ∀ i, w.heap.size ≤ i → P i
section
variable {P : Nat → Prop} {w W W' : World} {q0 q q' : Fp} {d d' : Dk Sv} {O : Option Addr} {co : Nat} {own : Bs} {m m' : Dk Bs} {A A' B B' : Option Addr} {c c' k k' : Nat} {x : DA}
theorem DoS.call (h : DoS P w W q0 q d O co own m A c B k x) (hb : Below W.heap.size W W') : DoS P w W' q0 q d O co own m A c B k x :=
  ⟨h.dsk.below hb, h.g, ⟨hb.os.trans h.fr.os, hb.tape.trans h.fr.tape, hb.output.trans h.fr.output, Nat.le_trans h.fr.size hb.size, fun i hi hn => (hb.block i (Nat.lt_of_lt_of_le hi h.fr.size)).trans (h.fr.block i hi hn)⟩, h.M, h.b0.below hb, h.b1.below hb, h.b2.below hb, Own.below h.own hb, h.ap, h.R.below hb, h.up0⟩
theorem DoS.up (h : DoS P w W q0 q d O co own m A c B k x) : ∀ i, W.heap.size ≤ i → Xt P w q O i := fun i hi => by
  refine ⟨⟨fun hq => ?_, h.up0 i (Nat.le_trans h.fr.size hi)⟩, ?_, ?_, fun e => ?_⟩
  · have := h.dsk.ltM hq
    omega
  · have := h.b0.lt
    omega
  · have := h.b2.lt
    omega
  · have := (Own.lt h.own i e).2
    omega
theorem Rdk.sameH {T T' : Nat → Prop} {W W' : World} {m : Dk Bs} {A B : Option Addr} {c k : Nat} (h : Rdk T W m A c B k) (hT : ∀ i, i < W.heap.size → T i → T' i) (hs : W.heap.size ≤ W'.heap.size) (hb : ∀ i, i < W.heap.size → T i → W'.heap[i]? = W.heap[i]?) : Rdk T' W' m A c B k :=
  ⟨Sl.sameH h.s fun i hi => hb i (h.sa i hi).2 (h.sa i hi).1, fun i hi => ⟨hT i (h.sa i hi).2 (h.sa i hi).1, by have := (h.sa i hi).2; omega⟩, Sl.sameH h.p fun i hi => hb i (h.pa i hi).2 (h.pa i hi).1, fun i hi => ⟨hT i (h.pa i hi).2 (h.pa i hi).1, by have := (h.pa i hi).2; omega⟩⟩
/-- the disk acts -/
theorem DoS.act (h : DoS P w W q0 q d O co own m A c B k x) (hG : Dgo W q d d' W') : ∃ q', DoS P w W' q0 q' d' O co own m A c B k x := by
  obtain ⟨q', hg, hD, hF, hM, hTc⟩ := hG
  have hn : ∀ {i}, i < W.heap.size → ¬ q.M i → ¬ q'.M i := fun {i} hi hq h2 => by
    rcases hM i h2 with h3 | h3
    · exact hq h3
    · omega
  have hq : ∀ {i}, (i = w.heap.size ∨ i = w.heap.size + 1 ∨ i = w.heap.size + 2 ∨ O.map (·.block) = some i) → ¬ q.M i := fun {i} hi hm => by
    obtain ⟨h1, h2, h3, h4⟩ := h.ap i (.inl hm)
    rcases hi with hi | hi | hi | hi
    · exact h1 hi
    · exact h2 hi
    · exact h3 hi
    · exact h4 hi
  refine ⟨q', hD, hg.trans h.g, h.fr.trans hF h.M, fun i hi => ?_, (hF.block _ h.b0.lt (hq (.inl rfl))).trans h.b0, (hF.block _ h.b1.lt (hq (.inr (.inl rfl)))).trans h.b1, (hF.block _ h.b2.lt (hq (.inr (.inr (.inl rfl))))).trans h.b2, ?_, fun i hi => ?_, ?_, h.up0⟩
  · rcases hM i hi with h1 | h1
    · exact h.M i h1
    · have := h.fr.size
      exact .inr (by omega)
  · exact Own.sameH h.own fun i hi => hF.block i (Own.lt h.own i hi).2 (hq (.inr (.inr (.inr hi))))
  · rcases hTc i hi with h1 | h1
    · exact h.ap i h1
    · have h2 := h.b0.lt
      have h3 := h.b1.lt
      have h4 := h.b2.lt
      refine ⟨by omega, by omega, by omega, fun e => ?_⟩
      have := (Own.lt h.own i e).2
      omega
  · exact h.R.sameH (fun i hi ht => ⟨⟨hn hi ht.1.1, ht.1.2⟩, ht.2⟩) hF.size fun i hi ht => hF.block i hi ht.1.1
/-- the document's disk is set -/
theorem DoS.refW (h : DoS P w W q0 q d O co own m A c B k x) (hw : Wr W W' w.heap.size) (hB : Blk W' w.heap.size 91 (rda m' A' c' B' k')) (hR : Rdk (Xt P w q O) W m' A' c' B' k') : DoS P w W' q0 q d O co own m' A' c' B' k' x := by
  have hne : ∀ i, i < W.heap.size → i ≠ w.heap.size → W'.heap[i]? = W.heap[i]? := fun i hi hne => hw.block i hi (fun e => hne (by injection e))
  refine ⟨?_, h.g, ⟨hw.os.trans h.fr.os, hw.tape.trans h.fr.tape, hw.output.trans h.fr.output, Nat.le_trans h.fr.size hw.size, fun i hi hn => (hne i (Nat.lt_of_lt_of_le hi h.fr.size) (by omega)).trans (h.fr.block i hi hn)⟩, h.M, hB, h.b1.wr hw (by omega), h.b2.wr hw (by omega), ?_, h.ap, ?_, h.up0⟩
  · refine h.dsk.frame fun i hi => hne i (h.dsk.lt hi) fun e => ?_
    subst e
    exact (h.ap _ hi).1 rfl
  · exact Own.sameH h.own fun i hi => hne i (Own.lt h.own i hi).2 (by have := (Own.lt h.own i hi).1; omega)
  · exact hR.sameH (fun _ _ ht => ht) hw.size fun i hi ht => hne i hi ht.2.1
theorem DoS.ref (h : DoS P w W q0 q d O co own m A c B k x) (hR : Rdk (Xt P w q O) W m' A' c' B' k') : DoS P w (((((W.setCell ⟨w.heap.size, 0, none⟩ (.int .i64 m'.room)).setCell ⟨w.heap.size, 1, none⟩ (.slice A' m'.sure.length c')).setCell ⟨w.heap.size, 2, none⟩ (.slice B' m'.pend.length k')).setCell ⟨w.heap.size, 3, none⟩ (.int .i64 m'.fuse)).setCell ⟨w.heap.size, 4, none⟩ (.bool m'.down)) q0 q d O co own m' A' c' B' k' x :=
  h.refW ((((((Wr.refl _ _).set_ 0 _).set_ 1 _).set_ 2 _).set_ 3 _).set_ 4 _) (h.b0.st5 _ _ _ _ _) hR
/-- the result is laid -/
theorem DoS.out (h : DoS P w W q0 q d O co own m A c B k x) (hw : Wr W W' (w.heap.size + 2)) : Dsk W' q d ∧ Frd q0 w W' ∧ Rdk (fun i => ¬ q.M i ∧ P i) W' m A c B k := by
  have hne : ∀ i, i < W.heap.size → i ≠ w.heap.size + 2 → W'.heap[i]? = W.heap[i]? := fun i hi hne => hw.block i hi (fun e => hne (by injection e))
  exact ⟨h.dsk.frame fun i hi => hne i (h.dsk.lt hi) (h.ap i hi).2.2.1, ⟨hw.os.trans h.fr.os, hw.tape.trans h.fr.tape, hw.output.trans h.fr.output, Nat.le_trans h.fr.size hw.size, fun i hi hn => (hne i (Nat.lt_of_lt_of_le hi h.fr.size) (by omega)).trans (h.fr.block i hi hn)⟩, h.R.sameH (fun _ _ ht => ht.1) hw.size fun i hi ht => hne i hi ht.2.2.1⟩
/-- a cell of the row of one's own is set -/
theorem DoS.put (h : DoS P w W q0 q d O co own m A c B k x) {j : Nat} (hj : j < own.length) (v : UInt8) : ∃ g, O = some ⟨g, 0, none⟩ ∧ W.cell? ⟨g, j, none⟩ = some (bv own[j]) ∧ W.frozen? ⟨g, j, none⟩ = false ∧ DoS P w (W.setCell ⟨g, j, none⟩ (bv v)) q0 q d O co (own.set j v) m A c B k x := by
  obtain ⟨g, cur, hA, hb, -, -, -⟩ := Own.row h.own (by rw [List.length_map]; omega)
  have hO := h.own
  rw [hA] at hO
  have hj2 : j < (bvs own).length := by rw [List.length_map]; exact hj
  have hw : Wr W (W.setCell ⟨g, j, none⟩ (bv v)) g := (Wr.refl _ _).set_ j _
  have hne : ∀ i, i < W.heap.size → i ≠ g → (W.setCell ⟨g, j, none⟩ (bv v)).heap[i]? = W.heap[i]? := fun i hi hne => hw.block i hi (fun e => hne (by injection e))
  have hgO : O.map (·.block) = some g := by rw [hA]; rfl
  refine ⟨g, hA, ?_, hO.frz j, ⟨?_, h.g, ⟨hw.os.trans h.fr.os, hw.tape.trans h.fr.tape, hw.output.trans h.fr.output, Nat.le_trans h.fr.size hw.size, fun i hi hn => (hne i (Nat.lt_of_lt_of_le hi h.fr.size) (by omega)).trans (h.fr.block i hi hn)⟩, h.M, (hne _ h.b0.lt (by omega)).trans h.b0, (hne _ h.b1.lt (by omega)).trans h.b1, (hne _ h.b2.lt (by omega)).trans h.b2, ?_, h.ap, ?_, h.up0⟩⟩
  · have := hO.cellAt hj2
    rw [List.getElem_map] at this
    exact this
  · exact h.dsk.frame fun i hi => hne i (h.dsk.lt hi) fun e => (h.ap i hi).2.2.2 (by rw [hgO, e])
  · have := hO.setAt hj2 (bv v)
    show Own _ _ _ 1 O (own.set j v).length co (bvs (own.set j v))
    rw [List.length_set, bvs, List.map_set, hA]
    exact this
  · exact h.R.sameH (fun _ _ ht => ht) hw.size fun i hi ht => hne i hi fun e => ht.2.2.2 (by rw [hgO, e])
end
theorem wpl_freshG {P : Program} {w : World} {ops : Array Oper} {rest : List Oper} {o : Oper} {a : Act} {Q : Exit → Act → World → Prop} (gx : Nat) (hgx : gx = w.heap.size) (t e : TypeId) (ht : P.underlying t = some (.slice e))
    (hinfo : (P.info? e).map (fun i => (i.zero, i.size, i.bytes)) = some (some (.int .u8 0), 1, 1)) (hgd : o.guard = none) (s x : Operand)
    (ho : o.op = .call { callee := .builtin .append, args := #[s, x], argTypes := #[t, t] })
    (hs : a.eval s = .slice (some ⟨gx, 0, none⟩) 0 0) (A2 : Option Addr) (c2 : Nat) (l2 : List UInt8) (hx : a.eval x = .slice A2 l2.length c2) (hr : SlB w A2 c2 l2) (hlen : l2.length ≤ 140737488355328)
    (h : ∀ A' c' (m : List UInt8) w', Hid (m = l2) → OwnB w' w.heap.size e A' c' m → Below w.heap.size w w' → wpList P ops Q rest (a.put o.dst (.slice A' m.length c')) w') : wpList P ops Q (o :: rest) a (w.alloc (.cells #[] e)) := by
  subst hgx
  exact wpl_fresh t e ht hinfo hgd s x ho hs A2 c2 l2 hx hr hlen h
theorem kind10 (k : Int) : (IntKind.u64.wrap k).tmod 10 = 0 ∨ (IntKind.u64.wrap k).tmod 10 = 1 ∨ (IntKind.u64.wrap k).tmod 10 = 2 ∨ (IntKind.u64.wrap k).tmod 10 = 3 ∨ (IntKind.u64.wrap k).tmod 10 = 4 ∨ (IntKind.u64.wrap k).tmod 10 = 5 ∨ (IntKind.u64.wrap k).tmod 10 = 6 ∨ (IntKind.u64.wrap k).tmod 10 = 7 ∨ (IntKind.u64.wrap k).tmod 10 = 8 ∨ (IntKind.u64.wrap k).tmod 10 = 9 := by
  have h : IntKind.u64.wrap k = k % 18446744073709551616 := rfl
  rw [h, Int.tmod_eq_emod_of_nonneg (by omega)]
  omega
theorem xorb (a b : UInt8) : bits .xor .u8 (a.toNat : Int) (b.toNat : Int) = ((a ^^^ b).toNat : Int) := by
  rw [u8_xor_nat _ _ a.toNat_lt b.toNat_lt, UInt8.toNat_xor]
theorem Blk.rfSet {w : World} {g : Nat} {m : Dk Bs} {A B : Option Addr} {c k : Nat} (h : Blk w g 91 (rda m A c B k)) (n : Int) : Blk (w.setCell ⟨g, 3, none⟩ (.int .i64 n)) g 91 (rda { m with fuse := n } A c B k) := by
  have h2 := h.set_ 3 (.int .i64 n)
  have e : rda { m with fuse := n } A c B k = #[.int .i64 m.room, .slice A m.sure.length c, .slice B m.pend.length k, .int .i64 n, .bool m.down] := by simp [rda]
  rw [e]
  exact h2
/-- what an act leaves -/
def DoG (P : Nat → Prop) (w : World) (q0 : Fp) (d : Dk Sv) (e : Ending) (w' : World) : Prop := ∃ (q : Fp) (d' : Dk Sv) (A : Option Addr) (c : Nat) (B : Option Addr) (k : Nat), e = .returned (.tuple #[.agg (rda (d'.map Sv.l) A c B k), .bool true]) ∧ q.g = q0.g ∧ Dsk w' q d' ∧ Fok d' ∧ Frd q0 w w' ∧ (∀ i, q.M i → q0.M i ∨ w.heap.size ≤ i) ∧ Rdk (fun i => ¬ q.M i ∧ P i) w' (d'.map Sv.l) A c B k ∧ d'.sure.length + d'.pend.length ≤ d.sure.length + d.pend.length + 1 ∧ (Nmd d → Nmd d')
set_option maxRecDepth 100000 in
set_option maxHeartbeats 1000000 in
theorem DoA_any {P : Nat → Prop} {w : World} {q0 : Fp} {d : Dk Sv} {A B : Option Addr} {c k L : Nat} (x : DA) (h : Dsk w q0 d) (hf : Fok d) (hR : Rdk (fun i => ¬ q0.M i ∧ P i) w (d.map Sv.l) A c B k) (hP : ∀ i, w.heap.size ≤ i → P i) (hok : SlB w x.A x.c x.l ∧ SlZ w x.B x.kc x.ks) (hx1 : x.l ≠ [] → ∀ ad, x.A = some ad → ad.block < L) (hx2 : x.ks ≠ [] → ∀ ad, x.B = some ad → ad.block < L) (hL : ∀ i, q0.M i → L ≤ i) (hLw : L ≤ w.heap.size) (hfx : x.f ≤ 9223372036854775807) (hsh : x.long = false) (hl : d.sure.length + d.pend.length ≤ 400) :
    Calls Tryz.prog 38 #[.pointer (some ⟨q0.g, 0, none⟩), .agg (rda (d.map Sv.l) A c B k), .agg (acta x)] w fun e w' => DoG P w q0 d e w' := by
  have hs0 : (((w.alloc (.cells (rda (d.map Sv.l) A c B k) 91)).alloc (.cells (acta x) 100)).alloc (.cells rdz 91)).heap.size = w.heap.size + 3 := by simp
  have hb1 := bel_alloc (bel_alloc (below_new w (.cells (rda (d.map Sv.l) A c B k) 91)) (.cells (acta x) 100)) (.cells rdz 91)
  have hB0 := ((Blk.new w 91 (rda (d.map Sv.l) A c B k)).alloc (.cells (acta x) 100)).alloc (.cells rdz 91)
  have hB1 := (Blk.newAt (w := w.alloc (.cells (rda (d.map Sv.l) A c B k) 91)) (g := w.heap.size + 1) (by simp) 100 (acta x)).alloc (.cells rdz 91)
  have hB2 := Blk.newAt (w := (w.alloc (.cells (rda (d.map Sv.l) A c B k) 91)).alloc (.cells (acta x) 100)) (g := w.heap.size + 2) (by simp) 91 rdz
  obtain ⟨y0, y1, y2, y3, y4, y5⟩ := (hB1.alloc (.cells #[] 5)).six
  have hsl := Sl.below hok.1 hb1
  have hshs := DA.short hsh
  have HW0 := Lib.hid hb1
  have HB0 := Lib.hid hB0
  have HB1 := Lib.hid hB1
  have HB2 := Lib.hid hB2
  have HD := Lib.hid h
  have HR := Lib.hid hR
  have HZ := Lib.hid hs0
  clear hb1 hB0 hB1 hB2 hs0
  go_enter Tryz.func38, Tryz.ntmps38
  go_upto_region 3 with (at_builtin; go_must (refine wpl_freshG (w.heap.size + 1 + 1 + 1) (by simp) 29 5 Tryz.underlying29 (by kernel_rfl) rfl _ _ rfl rfl x.A x.c x.l rfl hsl (by omega) ?_); intro O co own w4 hown ho4 hb4)
  rw [HZ.out] at ho4
  have hb5 := HW0.out.trans (hb4.mono HW0.out.size)
  have hS : DoS P w w4 q0 q0 d O co own (d.map Sv.l) A c B k x := by
    have hO : ∀ i, O.map (·.block) = some i → w.heap.size + 3 ≤ i := fun i hi => (Own.lt ho4 i hi).1
    refine ⟨HD.out.below hb5, rfl, Frd.of_below hb5, fun i hi => .inl hi, HB0.out.below hb4, HB1.out.below hb4, HB2.out.below hb4, ho4, fun i hi => ?_, ?_, hP⟩
    · have := HD.out.lt hi
      exact ⟨by omega, by omega, by omega, fun e => by have := hO i e; omega⟩
    · have hX : ∀ {E : Option Addr}, Okb (fun i => ¬ q0.M i ∧ P i) w E → Okb (Xt P w q0 O) w4 E := fun h i hi => by
        obtain ⟨h1, h2⟩ := h i hi
        have := hb5.size
        exact ⟨⟨h1, by omega, by omega, fun e => by have := hO i e; omega⟩, by omega⟩
      exact ⟨HR.out.s.below hb5, hX HR.out.sa, HR.out.p.below hb5, hX HR.out.pa⟩
  have HS := Lib.hid hS
  have HF := Lib.hid hf
  have HOk := Lib.hid hok
  have HX1 := Lib.hid hx1
  have HX2 := Lib.hid hx2
  have HL := Lib.hid hL
  have HOwn := Lib.hid hown.out
  have HFx := Lib.hid hfx
  have HSx := Lib.hid (show ∀ W, Frd q0 w W → SlB W x.A x.c x.l from fun W hF => SlB.sameB hok.1 fun hne ad hA => hF.block _ (by have := hx1 hne ad hA; omega) (fun hq => by have := hx1 hne ad hA; have := hL _ hq; omega))
  have HSz := Lib.hid (show ∀ W, Frd q0 w W → SlZ W x.B x.kc x.ks from fun W hF => SlZ.sameB hok.2 fun hne ad hA => hF.block _ (by have := hx2 hne ad hA; omega) (fun hq => by have := hx2 hne ad hA; have := hL _ hq; omega))
  clear y0 y1 y2 y3 y4 y5
  obtain ⟨y0, y1, y2, y3, y4, y5⟩ := hS.b1.six
  obtain ⟨r0, r1, r2, r3, r4, -⟩ := hS.b0.fiveC
  clear hS HW0 HB0 HB1 HB2 HD HR HZ hf hok hx1 hx2 hL ho4 hb4 hb5 hown hsl h hR
  rw [show w.heap.size + 1 + 1 = w.heap.size + 2 from rfl]
  go_upto_block 0 with (fail)
  have hkd := kind10 x.k
  generalize (IntKind.u64.wrap x.k).tmod 10 = kk at hkd ⊢
  go_cut [9] (fun v wz => v = .bool true ∧ ∃ (q : Fp) (d' : Dk Sv) (A' : Option Addr) (c' : Nat) (B' : Option Addr) (k' : Nat), DoS P w wz q0 q d' O co own (d'.map Sv.l) A' c' B' k' x ∧ Fok d' ∧ d'.sure.length + d'.pend.length ≤ d.sure.length + d.pend.length + 1 ∧ (Nmd d → Nmd d'))
  case first =>
    rcases hkd with rfl | rfl | rfl | rfl | rfl | rfl | rfl | rfl | rfl | rfl
    · obtain ⟨s1, s2, s3, s4, s5⟩ := hshs
      obtain ⟨p1, p2, p3, -⟩ := HS.out.dsk.fits (k := 400) hl (by omega)
      have HK := Lib.hid (KWrite_any (T := Xt P w q0 O) (d.map Sv.l) x.n x.l w4 HS.out.up HS.out.R (by rw [len_mapD]; omega) HF.out.2 (by omega) (by omega) HS.out.dsk.ris.mapD (by rw [shown_map, fused_map]; exact p3))
      have HMp := Lib.hid (show ∀ A' c', dWrite bln (d.map Sv.l) x.n x.l = ((dWrite svl d x.n ⟨A', c', own⟩).1.map Sv.l, (dWrite svl d x.n ⟨A', c', own⟩).2) from fun A' c' => by rw [← dWrite_map]; dsimp only; rw [HOwn.out])
      generalize dWrite bln (d.map Sv.l) x.n x.l = rm at *
      have v1 := conv_str (P := Tryz.prog) 29 9 5 Tryz.underlying29 Tryz.underlying5 Tryz.underlying9 (HSx.out w4 HS.out.fr) rfl
      go_wp2_with fail
      refine HK.out.mono ?_
      rintro e w5 ⟨A5, c5, B5, k5, rfl, hR5, hb5⟩
      have hS5 := HS.out.call hb5
      have hS6 := hS5.ref hR5
      obtain ⟨x0, x1, x2, x3, x4, xf0, xf1, xf2, xf3, xf4⟩ := hS5.b0.fiveC
      clear HK hR5 hb5 hS5 HS y0 y1 y2 y3 y4 y5 r0 r1 r2 r3 r4
      unfold rda
      go_upto_region 9 with (fail)
      refine gen1 (T := fun W => DoS P w W q0 q0 d O co own rm.1 A5 c5 B5 k5 x) hS6 (fun w6 hS7 => ?_)
      clear hS6 x0 x1 x2 x3 x4 xf0 xf1 xf2 xf3 xf4 w5
      obtain ⟨y0, y1, y2, y3, y4, y5⟩ := hS7.b1.six
      have HS := Lib.hid hS7
      have HWr := Lib.hid (Write_any HS.out.dsk HF.out p1 p2 p3 x.n (by omega) own (Own.sl HS.out.own) (fun hne ad hA e => (HS.out.ap q0.g (.inl (.inl rfl))).2.2.2 (by rw [hA, ← e]; rfl)) (by rw [HOwn.out]; omega))
      go_wp2_with fail
      refine HWr.out.mono ?_
      clear HWr
      rintro e w7 ⟨A7, c7, rfl, hG⟩
      have HE := Lib.hid (HMp.out A7 c7)
      generalize hrr : dWrite svl d x.n ⟨A7, c7, own⟩ = r8 at *
      have hop : Opn d r8 := by rw [← hrr]; exact ⟨Opd.write svl d x.n ⟨A7, c7, own⟩, fun h => h.write svl _ _⟩
      clear hrr HMp
      obtain ⟨q8, hS8⟩ := HS.out.act hG
      clear hG HS hS7 y0 y1 y2 y3 y4 y5
      obtain ⟨d8, n8⟩ := r8
      obtain rfl : rm = (d8.map Sv.l, n8) := HE.out
      have hfk := HF.out.opd hop.1
      have hln := And.intro hop.1.2.2.2 hop.2
      dsimp only at hS8 hfk hln
      have HN8 := Lib.hid (fun W => num_any n8 W)
      have HS8 := Lib.hid hS8
      have HFk := Lib.hid hfk
      have HLn := Lib.hid hln
      have hbe : ((n8 : Int) == (n8 : Int)) = true := by simp
      clear hS8 hop hfk hln HE
      generalize errv n8 = ev at *
      go_wp2_with fail
      refine (HN8.out _).mono ?_
      rintro e w9 ⟨rfl, rfl⟩
      go_wp2_with fail
      go_meet
      exact ⟨rfl, q8, d8, A5, c5, B5, k5, HS8.out, HFk.out, HLn.out⟩
    · obtain ⟨s1, s2, s3, s4, s5⟩ := hshs
      obtain ⟨p1, p2, p3, -⟩ := HS.out.dsk.fits (k := 400) hl (by omega)
      have HK := Lib.hid (KWrite_any (T := Xt P w q0 O) (d.map Sv.l) x.n x.l w4 HS.out.up HS.out.R (by rw [len_mapD]; omega) HF.out.2 (by omega) (by omega) HS.out.dsk.ris.mapD (by rw [shown_map, fused_map]; exact p3))
      have HMp := Lib.hid (show ∀ A' c', dWrite bln (d.map Sv.l) x.n x.l = ((dWrite svl d x.n ⟨A', c', own⟩).1.map Sv.l, (dWrite svl d x.n ⟨A', c', own⟩).2) from fun A' c' => by rw [← dWrite_map]; dsimp only; rw [HOwn.out])
      generalize dWrite bln (d.map Sv.l) x.n x.l = rm at *
      have v1 := conv_str (P := Tryz.prog) 29 9 5 Tryz.underlying29 Tryz.underlying5 Tryz.underlying9 (HSx.out w4 HS.out.fr) rfl
      go_wp2_with fail
      refine HK.out.mono ?_
      rintro e w5 ⟨A5, c5, B5, k5, rfl, hR5, hb5⟩
      have hS5 := HS.out.call hb5
      have hS6 := hS5.ref hR5
      obtain ⟨x0, x1, x2, x3, x4, xf0, xf1, xf2, xf3, xf4⟩ := hS5.b0.fiveC
      clear HK hR5 hb5 hS5 HS y0 y1 y2 y3 y4 y5 r0 r1 r2 r3 r4
      unfold rda
      go_upto_region 9 with (fail)
      refine gen1 (T := fun W => DoS P w W q0 q0 d O co own rm.1 A5 c5 B5 k5 x) hS6 (fun w6 hS7 => ?_)
      clear hS6 x0 x1 x2 x3 x4 xf0 xf1 xf2 xf3 xf4 w5
      obtain ⟨y0, y1, y2, y3, y4, y5⟩ := hS7.b1.six
      have HS := Lib.hid hS7
      have HWr := Lib.hid (Write_any HS.out.dsk HF.out p1 p2 p3 x.n (by omega) own (Own.sl HS.out.own) (fun hne ad hA e => (HS.out.ap q0.g (.inl (.inl rfl))).2.2.2 (by rw [hA, ← e]; rfl)) (by rw [HOwn.out]; omega))
      go_wp2_with fail
      refine HWr.out.mono ?_
      clear HWr
      rintro e w7 ⟨A7, c7, rfl, hG⟩
      have HE := Lib.hid (HMp.out A7 c7)
      generalize hrr : dWrite svl d x.n ⟨A7, c7, own⟩ = r8 at *
      have hop : Opn d r8 := by rw [← hrr]; exact ⟨Opd.write svl d x.n ⟨A7, c7, own⟩, fun h => h.write svl _ _⟩
      clear hrr HMp
      obtain ⟨q8, hS8⟩ := HS.out.act hG
      clear hG HS hS7 y0 y1 y2 y3 y4 y5
      obtain ⟨d8, n8⟩ := r8
      obtain rfl : rm = (d8.map Sv.l, n8) := HE.out
      have hfk := HF.out.opd hop.1
      have hln := And.intro hop.1.2.2.2 hop.2
      dsimp only at hS8 hfk hln
      have HN8 := Lib.hid (fun W => num_any n8 W)
      have HS8 := Lib.hid hS8
      have HFk := Lib.hid hfk
      have HLn := Lib.hid hln
      have hbe : ((n8 : Int) == (n8 : Int)) = true := by simp
      clear hS8 hop hfk hln HE
      generalize errv n8 = ev at *
      go_wp2_with fail
      refine (HN8.out _).mono ?_
      rintro e w9 ⟨rfl, rfl⟩
      go_wp2_with fail
      go_meet
      exact ⟨rfl, q8, d8, A5, c5, B5, k5, HS8.out, HFk.out, HLn.out⟩
    · obtain ⟨s1, s2, s3, s4, s5⟩ := hshs
      obtain ⟨p1, p2, p3, -⟩ := HS.out.dsk.fits (k := 400) hl (by omega)
      have HK := Lib.hid (KRename_any (T := Xt P w q0 O) (d.map Sv.l) x.n x.t w4 HS.out.up HS.out.R (by rw [len_mapD]; omega) HF.out.2 (by omega) (by omega))
      have HMp := Lib.hid (dRename_map d x.n x.t)
      generalize dRename ([] : Bs) (d.map Sv.l) x.n x.t = rm at *
      go_wp2_with fail
      refine HK.out.mono ?_
      rintro e w5 ⟨A5, c5, B5, k5, rfl, hR5, hb5⟩
      have hS5 := HS.out.call hb5
      have hS6 := hS5.ref hR5
      obtain ⟨x0, x1, x2, x3, x4, xf0, xf1, xf2, xf3, xf4⟩ := hS5.b0.fiveC
      clear HK hR5 hb5 hS5 HS y0 y1 y2 y3 y4 y5 r0 r1 r2 r3 r4
      unfold rda
      go_upto_region 12 with (fail)
      refine gen1 (T := fun W => DoS P w W q0 q0 d O co own rm.1 A5 c5 B5 k5 x) hS6 (fun w6 hS7 => ?_)
      clear hS6 x0 x1 x2 x3 x4 xf0 xf1 xf2 xf3 xf4 w5
      obtain ⟨y0, y1, y2, y3, y4, y5⟩ := hS7.b1.six
      have HS := Lib.hid hS7
      have HWr := Lib.hid (Rename_any HS.out.dsk HF.out p1 p2 x.n x.t (by omega) (by omega))
      go_wp2_with fail
      refine HWr.out.mono ?_
      clear HWr
      rintro e w7 ⟨rfl, hG⟩
      have HE := Lib.hid HMp.out
      have hop : Opn d (dRename Sv.nil d x.n x.t) := ⟨Opd.rename Sv.nil d x.n x.t, fun h => h.rename _ _ _⟩
      generalize dRename Sv.nil d x.n x.t = r8 at *
      clear HMp
      obtain ⟨q8, hS8⟩ := HS.out.act hG
      clear hG HS hS7 y0 y1 y2 y3 y4 y5
      obtain ⟨d8, n8⟩ := r8
      obtain rfl : rm = (d8.map Sv.l, n8) := HE.out
      have hfk := HF.out.opd hop.1
      have hln := And.intro hop.1.2.2.2 hop.2
      dsimp only at hS8 hfk hln
      have HN8 := Lib.hid (fun W => num_any n8 W)
      have HS8 := Lib.hid hS8
      have HFk := Lib.hid hfk
      have HLn := Lib.hid hln
      have hbe : ((n8 : Int) == (n8 : Int)) = true := by simp
      clear hS8 hop hfk hln HE
      generalize errv n8 = ev at *
      go_wp2_with fail
      refine (HN8.out _).mono ?_
      rintro e w9 ⟨rfl, rfl⟩
      go_wp2_with fail
      go_meet
      exact ⟨rfl, q8, d8, A5, c5, B5, k5, HS8.out, HFk.out, HLn.out⟩
    · obtain ⟨s1, s2, s3, s4, s5⟩ := hshs
      obtain ⟨p1, p2, p3, -⟩ := HS.out.dsk.fits (k := 400) hl (by omega)
      have HK := Lib.hid (KRemove_any (T := Xt P w q0 O) (d.map Sv.l) x.n w4 HS.out.up HS.out.R (by rw [len_mapD]; omega) HF.out.2 (by omega))
      have HMp := Lib.hid (dRemove_map d x.n)
      generalize dRemove ([] : Bs) (d.map Sv.l) x.n = rm at *
      go_wp2_with fail
      refine HK.out.mono ?_
      rintro e w5 ⟨A5, c5, B5, k5, rfl, hR5, hb5⟩
      have hS5 := HS.out.call hb5
      have hS6 := hS5.ref hR5
      obtain ⟨x0, x1, x2, x3, x4, xf0, xf1, xf2, xf3, xf4⟩ := hS5.b0.fiveC
      clear HK hR5 hb5 hS5 HS y0 y1 y2 y3 y4 y5 r0 r1 r2 r3 r4
      unfold rda
      go_upto_region 15 with (fail)
      refine gen1 (T := fun W => DoS P w W q0 q0 d O co own rm.1 A5 c5 B5 k5 x) hS6 (fun w6 hS7 => ?_)
      clear hS6 x0 x1 x2 x3 x4 xf0 xf1 xf2 xf3 xf4 w5
      obtain ⟨y0, y1, y2, y3, y4, y5⟩ := hS7.b1.six
      have HS := Lib.hid hS7
      have HWr := Lib.hid (Remove_any HS.out.dsk HF.out p1 p2 x.n (by omega))
      go_wp2_with fail
      refine HWr.out.mono ?_
      clear HWr
      rintro e w7 ⟨rfl, hG⟩
      have HE := Lib.hid HMp.out
      have hop : Opn d (dRemove Sv.nil d x.n) := ⟨Opd.remove Sv.nil d x.n, fun h => h.remove _ _⟩
      generalize dRemove Sv.nil d x.n = r8 at *
      clear HMp
      obtain ⟨q8, hS8⟩ := HS.out.act hG
      clear hG HS hS7 y0 y1 y2 y3 y4 y5
      obtain ⟨d8, n8⟩ := r8
      obtain rfl : rm = (d8.map Sv.l, n8) := HE.out
      have hfk := HF.out.opd hop.1
      have hln := And.intro hop.1.2.2.2 hop.2
      dsimp only at hS8 hfk hln
      have HN8 := Lib.hid (fun W => num_any n8 W)
      have HS8 := Lib.hid hS8
      have HFk := Lib.hid hfk
      have HLn := Lib.hid hln
      have hbe : ((n8 : Int) == (n8 : Int)) = true := by simp
      clear hS8 hop hfk hln HE
      generalize errv n8 = ev at *
      go_wp2_with fail
      refine (HN8.out _).mono ?_
      rintro e w9 ⟨rfl, rfl⟩
      go_wp2_with fail
      go_meet
      exact ⟨rfl, q8, d8, A5, c5, B5, k5, HS8.out, HFk.out, HLn.out⟩
    · obtain ⟨s1, s2, s3, s4, s5⟩ := hshs
      obtain ⟨p1, p2, p3, -⟩ := HS.out.dsk.fits (k := 400) hl (by omega)
      have HK := Lib.hid (KSync_any (T := Xt P w q0 O) (d.map Sv.l) w4 HS.out.up HS.out.R (by rw [len_mapD]; omega) HF.out.2)
      have HMp := Lib.hid (dSync_map d)
      generalize dSync (d.map Sv.l) = rm at *
      go_wp2_with fail
      refine HK.out.mono ?_
      rintro e w5 ⟨A5, c5, B5, k5, rfl, hR5, hb5⟩
      have hS5 := HS.out.call hb5
      have hS6 := hS5.ref hR5
      obtain ⟨x0, x1, x2, x3, x4, xf0, xf1, xf2, xf3, xf4⟩ := hS5.b0.fiveC
      clear HK hR5 hb5 hS5 HS y0 y1 y2 y3 y4 y5 r0 r1 r2 r3 r4
      unfold rda
      go_upto_region 18 with (fail)
      refine gen1 (T := fun W => DoS P w W q0 q0 d O co own rm.1 A5 c5 B5 k5 x) hS6 (fun w6 hS7 => ?_)
      clear hS6 x0 x1 x2 x3 x4 xf0 xf1 xf2 xf3 xf4 w5
      obtain ⟨y0, y1, y2, y3, y4, y5⟩ := hS7.b1.six
      have HS := Lib.hid hS7
      have HWr := Lib.hid (Sync_any HS.out.dsk HF.out)
      go_wp2_with fail
      refine HWr.out.mono ?_
      clear HWr
      rintro e w7 ⟨rfl, hG⟩
      have HE := Lib.hid HMp.out
      have hop : Opn d (dSync d) := ⟨Opd.sync d, fun h => h.sync⟩
      generalize dSync d = r8 at *
      clear HMp
      obtain ⟨q8, hS8⟩ := HS.out.act hG
      clear hG HS hS7 y0 y1 y2 y3 y4 y5
      obtain ⟨d8, n8⟩ := r8
      obtain rfl : rm = (d8.map Sv.l, n8) := HE.out
      have hfk := HF.out.opd hop.1
      have hln := And.intro hop.1.2.2.2 hop.2
      dsimp only at hS8 hfk hln
      have HN8 := Lib.hid (fun W => num_any n8 W)
      have HS8 := Lib.hid hS8
      have HFk := Lib.hid hfk
      have HLn := Lib.hid hln
      have hbe : ((n8 : Int) == (n8 : Int)) = true := by simp
      clear hS8 hop hfk hln HE
      generalize errv n8 = ev at *
      go_wp2_with fail
      refine (HN8.out _).mono ?_
      rintro e w9 ⟨rfl, rfl⟩
      go_wp2_with fail
      go_meet
      exact ⟨rfl, q8, d8, A5, c5, B5, k5, HS8.out, HFk.out, HLn.out⟩
    · obtain ⟨s1, s2, s3, s4, s5⟩ := hshs
      obtain ⟨p1, p2, p3, -⟩ := HS.out.dsk.fits (k := 400) hl (by omega)
      have HK := Lib.hid (KRead_any (T := Xt P w q0 O) (d.map Sv.l) x.n w4 HS.out.up HS.out.R (by rw [len_mapD]; omega))
      have HMp := Lib.hid (rRead_map d x.n)
      generalize rRead (d.map Sv.l) x.n = rm at *
      go_wp2_with fail
      refine HK.out.mono ?_
      clear HK
      rintro e w6 ⟨rfl, hb6⟩
      have hS7 := HS.out.call hb6
      clear HS y0 y1 y2 y3 y4 y5 r0 r1 r2 r3 r4
      obtain ⟨y0, y1, y2, y3, y4, y5⟩ := hS7.b1.six
      have HWr := Lib.hid (Read_any hS7.dsk x.n (by omega))
      have HS := Lib.hid hS7
      generalize dRead d x.n = rr at *
      obtain ⟨r1', r2'⟩ := rr
      dsimp only at HMp HWr
      generalize hrl : (r1'.map Sv.l).getD [] = rl at *
      obtain rfl : rm = (rl, r2') := HMp.out
      clear HMp hb6 hS7
      go_wp2_with fail
      refine HWr.out.mono ?_
      clear HWr
      rintro e w7 ⟨A7, c7, m7, rfl, hm7, ho7, hb7⟩
      obtain rfl := hm7.out
      have HN8 := Lib.hid (fun W => num_any r2' W)
      have hbe : ((r2' : Int) == (r2' : Int)) = true := by simp
      have hbm : (m7 == m7) = true := by simp
      have v1 := conv_str (P := Tryz.prog) 29 9 5 Tryz.underlying29 Tryz.underlying5 Tryz.underlying9 (Own.sl ho7) rfl
      have hm7l : m7.length ≤ 9223372036854775807 := Sl.len_le (Own.sl ho7)
      have HO7 := Lib.hid ho7
      have HB7 := Lib.hid hb7
      clear ho7 hb7 y0 y1 y2 y3 y4 y5 hm7
      generalize errv r2' = ev at *
      go_wp2_with fail
      refine (HN8.out _).mono ?_
      rintro e w9 ⟨rfl, rfl⟩
      go_wp2_with fail
      go_loopw [127] (fun v wr => ∃ (i : Nat) (l : Bs), i ≤ m7.length ∧ v = .int .i64 i ∧ OwnB wr w6.heap.size 5 A7 c7 l ∧ l.length = m7.length ∧ Below w6.heap.size w6 wr) (fun v w => m7.length - (intOf v).toNat)
      case atStart => exact ⟨0, m7, Nat.zero_le _, rfl, HO7.out, rfl, HB7.out⟩
      case round =>
        obtain ⟨i, l, hi, rfl, hol, hll, hbr⟩ := hrel
        by_cases hlt : i < m7.length
        · have hI : (i : Int) < (m7.length : Int) := by omega
          have hlt2 : i < l.length := by omega
          have hlt3 : i < (bvs l).length := by rw [List.length_map]; exact hlt2
          obtain ⟨g, cur, hA, hgb, -, -, -⟩ := Own.row hol (by rw [List.length_map]; omega)
          have hol2 := hol
          rw [hA] at hol2
          have hc := hol2.cellAt hlt3
          rw [List.getElem_map] at hc
          have hfz := hol2.frz i
          have had : (⟨g, 0, none⟩ : Addr).add i = ⟨g, i, none⟩ := by rw [addr_lit, Nat.zero_add]
          have hst := hol2.setAt hlt3 (bv (l[i] ^^^ 1))
          have hno : OwnB (wr.setCell ⟨g, i, none⟩ (bv (l[i] ^^^ 1))) w6.heap.size 5 A7 c7 (l.set i (l[i] ^^^ 1)) := by
            show Own _ _ _ 1 A7 (l.set i (l[i] ^^^ 1)).length c7 (bvs (l.set i (l[i] ^^^ 1)))
            rw [List.length_set, bvs, List.map_set, hA]
            exact hst
          have e1 := xorb l[i] 1
          have HNO := Lib.hid hno
          have hbw := bel_set hbr (p := ⟨g, i, none⟩) hgb (bv (l[i] ^^^ 1))
          have HBW := Lib.hid hbw
          clear hst hno hol hol2 hbw
          rw [show ((1 : UInt8).toNat : Int) = 1 from rfl] at e1
          generalize l[i] = y at *
          generalize y ^^^ 1 = z at *
          subst hA
          go_wp2_with fail
          go_roundw
          case rel => exact ⟨i + 1, l.set i z, hlt, by go_num, HNO.out, by rw [List.length_set]; exact hll, HBW.out⟩
          case measure => simp [intOf]; omega
        · have hI : (m7.length : Int) ≤ (i : Int) := by omega
          have HS9 := Lib.hid (HS.out.call hbr)
          clear hbr hol
          go_wp2_with fail
          go_meet
          exact ⟨rfl, q0, d, A, c, B, k, HS9.out, HF.out, Nat.le_succ _, fun h => h⟩
    · obtain ⟨s1, s2, s3, s4, s5⟩ := hshs
      obtain ⟨p1, p2, p3, -⟩ := HS.out.dsk.fits (k := 400) hl (by omega)
      rcases Int.lt_or_le x.f 0 with hn | hn
      · have HFu := Lib.hid (Fuse_any HS.out.dsk x.f)
        have hq : dFuse d x.f = (d, 1) := if_pos hn
        rw [hq, show errv 1 = Value.iface 68 (.int .i64 1) from rfl] at HFu
        have hIs := fun W => isn_any 1 1 W
        rw [show errv 1 = Value.iface 68 (.int .i64 1) from rfl, show (((1 : Nat) : Int) == 1) = true from rfl] at hIs
        have HIs := Lib.hid hIs
        clear hIs hq
        go_wp2_with fail
        refine HFu.out.mono ?_
        rintro e w6 ⟨rfl, hD6, hw6⟩
        obtain ⟨q8, hS8⟩ := HS.out.act (Dgo.of hD6 (Frd.of_wr (.inl rfl) hw6) rfl rfl)
        clear HFu HS y0 y1 y2 y3 y4 y5 r0 r1 r2 r3 r4 hD6 hw6
        obtain ⟨y0, y1, y2, y3, y4, y5⟩ := hS8.b1.six
        have HS8 := Lib.hid hS8
        clear hS8
        go_wp2_with fail
        refine (HIs.out _).mono ?_
        rintro e w9 ⟨rfl, rfl⟩
        go_wp2_with fail
        go_meet
        exact ⟨rfl, q8, d, A, c, B, k, HS8.out, HF.out, Nat.le_succ _, fun h => h⟩
      · have HFu := Lib.hid (Fuse_any HS.out.dsk x.f)
        have hq : dFuse d x.f = ({ d with fuse := x.f }, 0) := if_neg (by omega)
        rw [hq, show errv 0 = Value.nilIface from rfl] at HFu
        have hn2 : ¬ x.f < 0 := by omega
        clear hq
        go_wp2_with fail
        refine HFu.out.mono ?_
        rintro e w6 ⟨rfl, hD6, hw6⟩
        obtain ⟨q8, hS8⟩ := HS.out.act (Dgo.of hD6 (Frd.of_wr (.inl rfl) hw6) rfl rfl)
        clear HFu HS y0 y1 y2 y3 y4 y5 r0 r1 r2 r3 r4 hD6 hw6
        obtain ⟨y0, y1, y2, y3, y4, y5⟩ := hS8.b1.six
        have hst : Blk w6.drew (w.heap.size + 1) 100 (acta x) := hS8.b1.drew
        have xf3 : w6.frozen? ⟨w.heap.size, 3, none⟩ = false := hS8.b0.frozen 3
        obtain ⟨-, -, -, x3, -⟩ := hS8.b0.fiveC
        have hst6 := hS8.b1
        have HS9 := Lib.hid (hS8.refW (W' := (w6.setCell ⟨w.heap.size, 3, none⟩ (.int .i64 x.f)).drew) (((Wr.refl _ _).set_ 3 _).drew) (hS8.b0.rfSet x.f).drew (m' := { d.map Sv.l with fuse := x.f }) ⟨hS8.R.s, hS8.R.sa, hS8.R.p, hS8.R.pa⟩)
        have HFk := Lib.hid (show Fok { d with fuse := x.f } from ⟨by dsimp only; omega, by dsimp only; exact HFx.out⟩)
        clear hS8
        go_upto_region 32 with (fail)
        refine wp_region_held_drew (S := (fun W => Blk W (w.heap.size + 1) 100 (acta x))) (by kernel_rfl) ?_ (fun hHeld => ?_)
        · first | with_reducible exact hst | with_reducible exact hHeld | exact (hst6.far (by dsimp only; omega) _).drew
        refine wpAnyH_take (i := 0) (oi := ⟨some 148, _, _, _, _, _⟩) (v := ?_) rfl (by kernel_rfl) (by kernel_rfl) (by kernel_rfl) (fun _ _ _ h => h) (Or.inl ⟨by kernel_rfl, ?_⟩) (by assumption) ?_
        rotate_left
        · (intro wS hSw; (try dsimp only at hSw); obtain ⟨z0, z1, z2, z3, z4, z5⟩ := hSw.six; clear hSw; go_simp; (try with_reducible rfl))
        (try simp only [Act.put, List.setIfInBounds_toArray, List.set_cons_zero, List.set_cons_succ])
        refine wpAnyH_take (i := 1) (oi := ⟨some 149, _, _, _, _, _⟩) (v := ?_) rfl (by kernel_rfl) (by kernel_rfl) (by kernel_rfl) (fun _ _ _ h => h) (Or.inl ⟨by kernel_rfl, ?_⟩) (by assumption) ?_
        rotate_left
        · (intro wS hSw; (try dsimp only at hSw); obtain ⟨z0, z1, z2, z3, z4, z5⟩ := hSw.six; clear hSw; go_simp; (try with_reducible rfl))
        (try simp only [Act.put, List.setIfInBounds_toArray, List.set_cons_zero, List.set_cons_succ])
        refine wpAnyH_take (i := 2) (oi := ⟨some 150, _, _, _, _, _⟩) (v := ?_) rfl (by kernel_rfl) (by kernel_rfl) (by kernel_rfl) (fun _ _ _ h => h) (Or.inl ⟨by kernel_rfl, ?_⟩) (by assumption) ?_
        rotate_left
        · (intro wS hSw; (try dsimp only at hSw); obtain ⟨z0, z1, z2, z3, z4, z5⟩ := hSw.six; clear hSw; go_simp; (try with_reducible rfl))
        (try simp only [Act.put, List.setIfInBounds_toArray, List.set_cons_zero, List.set_cons_succ])
        refine wpAnyH_take (i := 3) (oi := ⟨some 151, _, _, _, _, _⟩) (v := ?_) rfl (by kernel_rfl) (by kernel_rfl) (by kernel_rfl) (fun _ _ _ h => h) (Or.inl ⟨by kernel_rfl, ?_⟩) (by assumption) ?_
        rotate_left
        · (intro wS hSw; (try dsimp only at hSw); obtain ⟨z0, z1, z2, z3, z4, z5⟩ := hSw.six; clear hSw; go_simp; (try with_reducible rfl))
        (try simp only [Act.put, List.setIfInBounds_toArray, List.set_cons_zero, List.set_cons_succ])
        refine wpAnyH_take (i := 4) (oi := ⟨some 152, _, _, _, _, _⟩) (v := ?_) rfl (by kernel_rfl) (by kernel_rfl) (by kernel_rfl) (fun _ _ _ h => h) (Or.inl ⟨by kernel_rfl, ?_⟩) (by assumption) ?_
        rotate_left
        · (intro wS hSw; (try dsimp only at hSw); obtain ⟨z0, z1, z2, z3, z4, z5⟩ := hSw.six; clear hSw; go_simp; (try with_reducible rfl))
        (try simp only [Act.put, List.setIfInBounds_toArray, List.set_cons_zero, List.set_cons_succ])
        refine wpAnyH_ready (rs := [5]) (by kernel_rfl) (by simp) ?_
        refine AllReadyH.cons (o := ⟨none, _, _, _, _, _⟩) rfl (fun K hK => ?_) AllReadyH.nil
        go_simp
        refine hK.out _ _ ?_ (fun hHeld => ?_)
        · ((try dsimp only); (first | with_reducible exact hst | with_reducible exact hHeld | exact (hst6.far (by dsimp only; omega) _).drew))
        clear hK K
        (try simp only [Act.put, List.setIfInBounds_toArray, List.set_cons_zero, List.set_cons_succ])
        refine wpAnyH_take (i := 6) (oi := ⟨some 9, _, _, _, _, _⟩) (v := ?_) rfl (by kernel_rfl) (by kernel_rfl) (by kernel_rfl) (fun _ _ _ h => h) (Or.inl ⟨by kernel_rfl, ?_⟩) (by assumption) ?_
        rotate_left
        · (intro wS hSw; (try dsimp only at hSw); obtain ⟨z0, z1, z2, z3, z4, z5⟩ := hSw.six; clear hSw; go_simp; (try with_reducible rfl))
        (try simp only [Act.put, List.setIfInBounds_toArray, List.set_cons_zero, List.set_cons_succ])
        refine wpAnyH_done (by kernel_rfl) ?_ _
        clear hHeld hst hst6
        go_wp2_with fail
        go_meet
        exact ⟨rfl, q8, { d with fuse := x.f }, A, c, B, k, HS9.out, HFk.out, Nat.le_succ _, fun h => h⟩
    · obtain ⟨s1, s2, s3, s4, s5⟩ := hshs
      obtain ⟨p1, p2, p3, -⟩ := HS.out.dsk.fits (k := 400) hl (by omega)
      have HK := Lib.hid (KCut_any (T := Xt P w q0 O) (d.map Sv.l) x.ks w4 HS.out.up HS.out.R (HSz.out w4 HS.out.fr) (by rw [len_mapD]; omega) (by omega))
      rw [dCut_map] at HK
      go_wp2_with fail
      refine HK.out.mono ?_
      rintro e w5 ⟨A5, c5, B5, k5, rfl, hR5, hb5⟩
      have hS5 := HS.out.call hb5
      have hS6 := hS5.ref hR5
      obtain ⟨x0, x1, x2, x3, x4, xf0, xf1, xf2, xf3, xf4⟩ := hS5.b0.fiveC
      clear HK hR5 hb5 hS5 HS y0 y1 y2 y3 y4 y5 r0 r1 r2 r3 r4
      unfold rda
      go_upto_region 35 with (fail)
      refine gen1 (T := fun W => DoS P w W q0 q0 d O co own ((dCut x.ks d).map Sv.l) A5 c5 B5 k5 x) hS6 (fun w6 hS7 => ?_)
      clear hS6 x0 x1 x2 x3 x4 xf0 xf1 xf2 xf3 xf4 w5
      obtain ⟨y0, y1, y2, y3, y4, y5⟩ := hS7.b1.six
      have HC := Lib.hid (Cut_any hS7.dsk p1 (by omega) x.ks (HSz.out w6 hS7.fr) (fun hne ad hA e => by
        have h1 := HX2.out hne ad hA
        have h2 := HL.out q0.bs (.inr (.inl rfl))
        omega))
      have HS := Lib.hid hS7
      clear hS7
      go_wp2_with fail
      refine HC.out.mono ?_
      clear HC
      rintro e w7 ⟨rfl, hG⟩
      obtain ⟨q8, hS8⟩ := HS.out.act hG
      have HFk := Lib.hid (show Fok (dCut x.ks d) from HF.out)
      have HLn := Lib.hid (And.intro (Nat.le_trans (cut_len x.ks d) (Nat.le_succ _)) (fun h : Nmd d => h.cut x.ks))
      have HS8 := Lib.hid hS8
      clear hS8 hG HS y0 y1 y2 y3 y4 y5
      generalize dCut x.ks d = d8 at *
      go_wp2_with fail
      go_meet
      exact ⟨rfl, q8, d8, A5, c5, B5, k5, HS8.out, HFk.out, HLn.out⟩
    · obtain ⟨s1, s2, s3, s4, s5⟩ := hshs
      obtain ⟨p1, p2, p3, -⟩ := HS.out.dsk.fits (k := 400) hl (by omega)
      have HK := Lib.hid (KStart_any (A := A) (B := B) (c := c) (k := k) (d.map Sv.l) w4)
      rw [dStart_map] at HK
      go_wp2_with fail
      refine HK.out.mono ?_
      rintro e w5 ⟨B5, k5, rfl, hc5, hb5⟩
      have hS5 := HS.out.call hb5
      have hR5 : Rdk (Xt P w q0 O) w5 ((dStart d).map Sv.l) A c B5 k5 := by
        have h0 := hS5.R
        have e1 : ((dStart d).map Sv.l).sure = (d.map Sv.l).sure := by unfold dStart; split <;> rfl
        refine ⟨by rw [e1]; exact h0.s, h0.sa, ?_, ?_⟩
        · rcases hc5 with ⟨hd, rfl, rfl⟩ | ⟨hd, rfl, rfl⟩
          · have : ((dStart d).map Sv.l).pend = [] := by unfold dStart; rw [if_pos (show d.down = true from hd)]; rfl
            rw [this]
            exact Sl.none_ _ _
          · have : ((dStart d).map Sv.l).pend = (d.map Sv.l).pend := by unfold dStart; rw [if_neg (by rw [show d.down = false from hd]; simp)]; rfl
            rw [this]
            exact h0.p
        · rcases hc5 with ⟨hd, rfl, rfl⟩ | ⟨hd, rfl, rfl⟩
          · exact fun i hi => by cases hi
          · exact h0.pa
      have hS6 := hS5.ref hR5
      obtain ⟨x0, x1, x2, x3, x4, xf0, xf1, xf2, xf3, xf4⟩ := hS5.b0.fiveC
      clear HK hR5 hb5 hS5 HS y0 y1 y2 y3 y4 y5 r0 r1 r2 r3 r4
      unfold rda
      go_upto_region 5 with (fail)
      refine gen1 (T := fun W => DoS P w W q0 q0 d O co own ((dStart d).map Sv.l) A c B5 k5 x) hS6 (fun w6 hS7 => ?_)
      clear hS6 x0 x1 x2 x3 x4 xf0 xf1 xf2 xf3 xf4 w5
      have HC := Lib.hid (show Calls Tryz.prog 92 #[.pointer (some ⟨q0.g, 0, none⟩)] w6 fun e w' => e = .returned (.tuple #[]) ∧ Dgo w6 q0 d (dStart d) w' from by
        cases hd : d.down with
        | true => exact StartDown_any hS7.dsk p1 (by omega) hd
        | false => exact StartUp_any hS7.dsk hd)
      have HS := Lib.hid hS7
      clear hS7
      go_wp2_with fail
      refine HC.out.mono ?_
      clear HC
      rintro e w7 ⟨rfl, hG⟩
      obtain ⟨q8, hS8⟩ := HS.out.act hG
      have HFk := Lib.hid (start_fok d)
      have HLn := Lib.hid (And.intro (Nat.le_trans (start_len d) (Nat.le_succ _)) (fun h : Nmd d => h.start))
      have HS8 := Lib.hid hS8
      clear hS8 hG HS hc5
      generalize dStart d = d8 at *
      go_wp2_with fail
      go_meet
      exact ⟨rfl, q8, d8, A, c, B5, k5, HS8.out, HFk.out, HLn.out⟩
    · obtain ⟨s1, s2, s3, s4, s5⟩ := hshs
      obtain ⟨p1, p2, p3, -⟩ := HS.out.dsk.fits (k := 400) hl (by omega)
      have HK := Lib.hid (KStart_any (A := A) (B := B) (c := c) (k := k) (d.map Sv.l) w4)
      rw [dStart_map] at HK
      go_wp2_with fail
      refine HK.out.mono ?_
      rintro e w5 ⟨B5, k5, rfl, hc5, hb5⟩
      have hS5 := HS.out.call hb5
      have hR5 : Rdk (Xt P w q0 O) w5 ((dStart d).map Sv.l) A c B5 k5 := by
        have h0 := hS5.R
        have e1 : ((dStart d).map Sv.l).sure = (d.map Sv.l).sure := by unfold dStart; split <;> rfl
        refine ⟨by rw [e1]; exact h0.s, h0.sa, ?_, ?_⟩
        · rcases hc5 with ⟨hd, rfl, rfl⟩ | ⟨hd, rfl, rfl⟩
          · have : ((dStart d).map Sv.l).pend = [] := by unfold dStart; rw [if_pos (show d.down = true from hd)]; rfl
            rw [this]
            exact Sl.none_ _ _
          · have : ((dStart d).map Sv.l).pend = (d.map Sv.l).pend := by unfold dStart; rw [if_neg (by rw [show d.down = false from hd]; simp)]; rfl
            rw [this]
            exact h0.p
        · rcases hc5 with ⟨hd, rfl, rfl⟩ | ⟨hd, rfl, rfl⟩
          · exact fun i hi => by cases hi
          · exact h0.pa
      have hS6 := hS5.ref hR5
      obtain ⟨x0, x1, x2, x3, x4, xf0, xf1, xf2, xf3, xf4⟩ := hS5.b0.fiveC
      clear HK hR5 hb5 hS5 HS y0 y1 y2 y3 y4 y5 r0 r1 r2 r3 r4
      unfold rda
      go_upto_region 5 with (fail)
      refine gen1 (T := fun W => DoS P w W q0 q0 d O co own ((dStart d).map Sv.l) A c B5 k5 x) hS6 (fun w6 hS7 => ?_)
      clear hS6 x0 x1 x2 x3 x4 xf0 xf1 xf2 xf3 xf4 w5
      have HC := Lib.hid (show Calls Tryz.prog 92 #[.pointer (some ⟨q0.g, 0, none⟩)] w6 fun e w' => e = .returned (.tuple #[]) ∧ Dgo w6 q0 d (dStart d) w' from by
        cases hd : d.down with
        | true => exact StartDown_any hS7.dsk p1 (by omega) hd
        | false => exact StartUp_any hS7.dsk hd)
      have HS := Lib.hid hS7
      clear hS7
      go_wp2_with fail
      refine HC.out.mono ?_
      clear HC
      rintro e w7 ⟨rfl, hG⟩
      obtain ⟨q8, hS8⟩ := HS.out.act hG
      have HFk := Lib.hid (start_fok d)
      have HLn := Lib.hid (And.intro (Nat.le_trans (start_len d) (Nat.le_succ _)) (fun h : Nmd d => h.start))
      have HS8 := Lib.hid hS8
      clear hS8 hG HS hc5
      generalize dStart d = d8 at *
      go_wp2_with fail
      go_meet
      exact ⟨rfl, q8, d8, A, c, B5, k5, HS8.out, HFk.out, HLn.out⟩
  case rest =>
    obtain ⟨rfl, q, d8, A8, c8, B8, k8, hS8, hFk8, hLn8⟩ := hcut
    have HS8 := Lib.hid hS8
    have HFk := Lib.hid hFk8
    have HLn := Lib.hid hLn8
    clear HS HF y0 y1 y2 y3 y4 y5 r0 r1 r2 r3 r4 hS8 hFk8 hLn8
    have hol : own.length ≤ 9223372036854775807 := Sl.len_le (Own.sl HS8.out.own)
    go_wp2_with fail
    go_loopw [165] (fun v wr => ∃ (i : Nat) (l : Bs), i ≤ own.length ∧ v = .int .i64 i ∧ DoS P w wr q0 q d8 O co l (d8.map Sv.l) A8 c8 B8 k8 x ∧ l.length = own.length ∧ Hid (l.drop i = own.drop i)) (fun v w => own.length - (intOf v).toNat)
    case atStart => exact ⟨0, own, Nat.zero_le _, rfl, HS8.out, rfl, Lib.hid rfl⟩
    case round =>
      clear HS8
      obtain ⟨i, l, hi, rfl, hS, hll, hdr⟩ := hrel
      by_cases hlt : i < own.length
      · have hI : (i : Int) < (own.length : Int) := by omega
        have hlt2 : i < l.length := by omega
        have hl3 : i < x.l.length := by rw [← HOwn.out]; exact hlt
        have hlo : l[i] = x.l[i] := by
          have h1 := hdr.out
          rw [List.drop_eq_getElem_cons hlt2, List.drop_eq_getElem_cons hlt] at h1
          injection h1 with h1 _
          rw [h1]
          have h2 := HOwn.out
          subst h2
          rfl
        have HDr := Lib.hid (show l.drop (i + 1) = own.drop (i + 1) from by
          have h1 := hdr.out
          rw [List.drop_eq_getElem_cons hlt2, List.drop_eq_getElem_cons hlt] at h1
          injection h1)
        obtain ⟨g, hO, hc, hfz, hS2⟩ := hS.put hlt2 (l[i] ^^^ 255)
        obtain ⟨ad2, hA2, hc2⟩ := Sl.at1 (f := bv) (l := x.l) (HSx.out wr hS.fr) (k := i) hl3
        have hsp2 : ad2.add i = ⟨(ad2.add i).block, (ad2.add i).off, none⟩ := by
          have := World.cell?_spot hc2
          cases h3 : ad2.add i with
          | mk bl of sp => rw [h3] at this; simp at this; subst this; rfl
        generalize (ad2.add i).block = b2 at *
        generalize (ad2.add i).off = o2 at *
        rw [hsp2] at hc2
        have had : (⟨g, 0, none⟩ : Addr).add i = ⟨g, i, none⟩ := by rw [addr_lit, Nat.zero_add]
        obtain ⟨y0, y1, y2, y3, y4, y5⟩ := hS.b1.six
        have e1 := xorb l[i] 255
        rw [show ((255 : UInt8).toNat : Int) = 255 from rfl] at e1
        rw [← hlo] at hc2
        have hS2' : ∀ n, DoS P w ((wr.drewN n).setCell ⟨g, i, none⟩ (bv (l[i] ^^^ 255))) q0 q d8 O co (l.set i (l[i] ^^^ 255)) (d8.map Sv.l) A8 c8 B8 k8 x := fun n => by
          obtain ⟨g', hO', -, -, h⟩ := (hS.call (below_drewN (Below.refl _ _) n)).put hlt2 (l[i] ^^^ 255)
          rw [hO] at hO'
          injection hO' with hO'
          injection hO' with hO'
          subst hO'
          exact h
        have HS2 := Lib.hid hS2'
        have HLl := Lib.hid hll
        have hi3 : (i : Int) < (x.l.length : Int) := by omega
        clear hS2 hS2' hS hlo hdr hll
        generalize l[i] = y at *
        generalize y ^^^ 255 = z at *
        have hbe : ((y.toNat : Int) != (y.toNat : Int)) = false := by simp
        subst hO
        rw [hA2] at y3
        clear hA2
        go_wp2_with fail
        go_quiet (fail)
        go_wp2_with fail
        go_roundw
        case rel => exact ⟨i + 1, l.set i z, hlt, by go_num, HS2.out _, by rw [List.length_set]; exact HLl.out, Lib.hid (by rw [List.drop_set_of_lt (by omega)]; exact HDr.out)⟩
        case measure => simp [intOf]; omega
      · have hI : (own.length : Int) ≤ (i : Int) := by omega
        have hSh := Shows_any (w := wr.drew) (T := Xt P w q O) (d := d8) (A := A8) (B := B8) (c := c8) (k := k8) (hS.dsk.frame (w' := wr.drew) fun i _ => rfl) ⟨hS.R.s, hS.R.sa, hS.R.p, hS.R.pa⟩ (by have := HLn.out.1; omega)
        rw [hS.g] at hSh
        have HSh := Lib.hid hSh
        have hst : DoS P w wr.drew q0 q d8 O co l (d8.map Sv.l) A8 c8 B8 k8 x := hS.call (Below.drew (Below.refl _ _))
        clear hSh hS hdr
        go_upto_region 43 with (fail)
        have hst0 := hst.b0
        have hne2 : w.heap.size ≠ w.heap.size + 2 := by omega
        refine wp_region_held_drew (S := (fun W => Blk W w.heap.size 91 (rda (d8.map Sv.l) A8 c8 B8 k8))) (by kernel_rfl) ?_ (fun hHeld => ?_)
        · first | with_reducible exact hst0 | with_reducible exact hHeld | exact hHeld.below hb7 | exact ((((hHeld.far hne2 _).far hne2 _).far hne2 _).far hne2 _).far hne2 _
        refine wpAnyH_take (i := 0) (oi := ⟨some 186, _, _, _, _, _⟩) (v := ?_) rfl (by kernel_rfl) (by kernel_rfl) (by kernel_rfl) (fun _ _ _ h => h) (Or.inl ⟨by kernel_rfl, ?_⟩) (by assumption) ?_
        rotate_left
        · (intro wS hSw; (try dsimp only at hSw); obtain ⟨z0, z1, z2, z3, z4, -⟩ := hSw.fiveC; clear hSw; go_simp; (try with_reducible rfl))
        (try simp only [Act.put, List.setIfInBounds_toArray, List.set_cons_zero, List.set_cons_succ])
        refine wpAnyH_take (i := 1) (oi := ⟨some 187, _, _, _, _, _⟩) (v := ?_) rfl (by kernel_rfl) (by kernel_rfl) (by kernel_rfl) (fun _ _ _ h => h) (Or.inl ⟨by kernel_rfl, ?_⟩) (by assumption) ?_
        rotate_left
        · (intro wS hSw; (try dsimp only at hSw); obtain ⟨z0, z1, z2, z3, z4, -⟩ := hSw.fiveC; clear hSw; go_simp; (try with_reducible rfl))
        (try simp only [Act.put, List.setIfInBounds_toArray, List.set_cons_zero, List.set_cons_succ])
        refine wpAnyH_take (i := 2) (oi := ⟨some 188, _, _, _, _, _⟩) (v := ?_) rfl (by kernel_rfl) (by kernel_rfl) (by kernel_rfl) (fun _ _ _ h => h) (Or.inl ⟨by kernel_rfl, ?_⟩) (by assumption) ?_
        rotate_left
        · (intro wS hSw; (try dsimp only at hSw); obtain ⟨z0, z1, z2, z3, z4, -⟩ := hSw.fiveC; clear hSw; go_simp; (try with_reducible rfl))
        (try simp only [Act.put, List.setIfInBounds_toArray, List.set_cons_zero, List.set_cons_succ])
        refine wpAnyH_take (i := 3) (oi := ⟨some 189, _, _, _, _, _⟩) (v := ?_) rfl (by kernel_rfl) (by kernel_rfl) (by kernel_rfl) (fun _ _ _ h => h) (Or.inl ⟨by kernel_rfl, ?_⟩) (by assumption) ?_
        rotate_left
        · (intro wS hSw; (try dsimp only at hSw); obtain ⟨z0, z1, z2, z3, z4, -⟩ := hSw.fiveC; clear hSw; go_simp; (try with_reducible rfl))
        (try simp only [Act.put, List.setIfInBounds_toArray, List.set_cons_zero, List.set_cons_succ])
        refine wpAnyH_take (i := 4) (oi := ⟨some 190, _, _, _, _, _⟩) (v := ?_) rfl (by kernel_rfl) (by kernel_rfl) (by kernel_rfl) (fun _ _ _ h => h) (Or.inl ⟨by kernel_rfl, ?_⟩) (by assumption) ?_
        rotate_left
        · (intro wS hSw; (try dsimp only at hSw); obtain ⟨z0, z1, z2, z3, z4, -⟩ := hSw.fiveC; clear hSw; go_simp; (try with_reducible rfl))
        (try simp only [Act.put, List.setIfInBounds_toArray, List.set_cons_zero, List.set_cons_succ])
        refine wpAnyH_ready (rs := [5]) (by kernel_rfl) (by simp) ?_
        refine AllReadyH.cons (o := ⟨some 191, _, _, _, _, _⟩) rfl (fun K hK => ?_) AllReadyH.nil
        go_simp
        (refine HSh.out.mono ?_; rintro e w7 ⟨rfl, hb7⟩; have hS7 := hst.call hb7; obtain ⟨x0, x1, x2, x3, x4, xf0, xf1, xf2, xf3, xf4⟩ := hS7.b2.fiveC)
        go_wp2_with fail
        refine hK.out _ _ ?_ (fun hHeld => ?_)
        · ((try dsimp only); (first | with_reducible exact hst0 | with_reducible exact hHeld | exact hHeld.below hb7 | exact ((((hHeld.far hne2 _).far hne2 _).far hne2 _).far hne2 _).far hne2 _))
        clear hK K
        (try simp only [Act.put, List.setIfInBounds_toArray, List.set_cons_zero, List.set_cons_succ])
        refine wpAnyH_take (i := 6) (oi := ⟨some 192, _, _, _, _, _⟩) (v := ?_) rfl (by kernel_rfl) (by kernel_rfl) (by kernel_rfl) (fun _ _ _ h => h) (Or.inl ⟨by kernel_rfl, ?_⟩) (by assumption) ?_
        rotate_left
        · (intro wS hSw; (try dsimp only at hSw); obtain ⟨z0, z1, z2, z3, z4, -⟩ := hSw.fiveC; clear hSw; go_simp; (try with_reducible rfl))
        (try simp only [Act.put, List.setIfInBounds_toArray, List.set_cons_zero, List.set_cons_succ])
        refine wpAnyH_ready (rs := [7]) (by kernel_rfl) (by simp) ?_
        refine AllReadyH.cons (o := ⟨none, _, _, _, _, _⟩) rfl (fun K hK => ?_) AllReadyH.nil
        go_simp
        refine hK.out _ _ ?_ (fun hHeld => ?_)
        · ((try dsimp only); (first | with_reducible exact hst0 | with_reducible exact hHeld | exact hHeld.below hb7 | exact ((((hHeld.far hne2 _).far hne2 _).far hne2 _).far hne2 _).far hne2 _))
        clear hK K
        (try simp only [Act.put, List.setIfInBounds_toArray, List.set_cons_zero, List.set_cons_succ])
        refine wpAnyH_take (i := 8) (oi := ⟨some 7, _, _, _, _, _⟩) (v := ?_) rfl (by kernel_rfl) (by kernel_rfl) (by kernel_rfl) (fun _ _ _ h => h) (Or.inl ⟨by kernel_rfl, ?_⟩) (by assumption) ?_
        rotate_left
        · (intro wS hSw; (try dsimp only at hSw); obtain ⟨z0, z1, z2, z3, z4, -⟩ := hSw.fiveC; clear hSw; go_simp; (try with_reducible rfl))
        (try simp only [Act.put, List.setIfInBounds_toArray, List.set_cons_zero, List.set_cons_succ])
        refine wpAnyH_done (by kernel_rfl) ?_ _
        have hw9 : Wr w7 (((((w7.setCell ⟨w.heap.size + 2, 0, none⟩ (.int .i64 (d8.map Sv.l).room)).setCell ⟨w.heap.size + 2, 1, none⟩ (.slice A8 (d8.map Sv.l).sure.length c8)).setCell ⟨w.heap.size + 2, 2, none⟩ (.slice B8 (d8.map Sv.l).pend.length k8)).setCell ⟨w.heap.size + 2, 3, none⟩ (.int .i64 (d8.map Sv.l).fuse)).setCell ⟨w.heap.size + 2, 4, none⟩ (.bool (d8.map Sv.l).down)) (w.heap.size + 2) := (((((Wr.refl _ _).set_ 0 _).set_ 1 _).set_ 2 _).set_ 3 _).set_ 4 _
        obtain ⟨o1, o2, o3⟩ := hS7.out hw9
        have HO := Lib.hid (show DoG P w q0 d (.returned (.tuple #[.agg (rda (d8.map Sv.l) A8 c8 B8 k8), .bool true])) _ from ⟨q, d8, A8, c8, B8, k8, rfl, hS7.g, o1, HFk.out, o2, hS7.M, o3, HLn.out⟩)
        clear o1 o2 o3 hw9
        go_wp2_with fail
        exact bodyPost_ret (res_k2 rfl rfl (g := w.heap.size + 2) (hS7.b2.st5 _ _ _ _ _)) rfl HO.out
end Go.Proofs.YtabnndjdkjkciaaGreatDoor

namespace Go.Proofs.YtabnndjdkjkciaaGreatDoor
open Go.RowKit Go.Maps Go.Sort
attribute [local go_sem ↓] Go.wp_at_zero Go.wp_at_succ

theorem snamed_l20 {n : Bs} (h : snamed n = true) : n.length ≤ 20 := by
  unfold snamed at h
  simp only [Bool.and_eq_true, decide_eq_true_eq] at h
  exact h.1.1
set_option maxRecDepth 100000 in
set_option maxHeartbeats 1000000 in
theorem KSNamed_any (s : Bs) (w : World) (hl : s.length ≤ 9223372036854775807) : Calls Tryz.prog 158 #[.string ⟨s.toArray⟩] w fun e w' => e = .returned (.bool (snamed s)) ∧ Below w.heap.size w w' := by
  have hsz : (ByteArray.size ⟨s.toArray⟩) = s.length := by simp [ByteArray.size]
  have HN := Lib.hid (fun W => RNamed_any s W hl)
  go_enter Tryz.func158, Tryz.ntmps158
  go_wp2_with fail
  go_loopw [3] (fun x wr => ∃ k : Nat, k ≤ s.length ∧ x = .int .i64 k ∧ (∀ i (hi : i < s.length), i < k → s[i] ≠ 126) ∧ Below w.heap.size w wr) (fun x w => s.length - (intOf x).toNat)
  case atStart => exact ⟨0, Nat.zero_le _, rfl, (fun i _ hi => by omega), Below.refl _ _⟩
  case round =>
    obtain ⟨k, hk, rfl, hno, hb⟩ := hrel
    by_cases hlt : k < s.length
    · have hkI : (k : Int) < (s.length : Int) := by omega
      have hix : ∀ W : World, (Instr.index 9 (.string ⟨s.toArray⟩) (.int .i64 k)).run Tryz.prog W = .ok (.int .u8 (s[k].toNat : Int)) W := fun W => ix_str s hlt W
      obtain ⟨c0, hc0⟩ : ∃ c, s[k] = c := ⟨_, rfl⟩
      rw [hc0] at hix
      have he := Lib.hid hc0
      by_cases h1 : c0 = 126
      · subst h1
        have HS := Lib.hid (show snamed s = false from by
          have : (126 : UInt8) ∈ s := he.out ▸ List.getElem_mem hlt
          unfold snamed
          rw [decide_eq_true this]
          simp)
        clear hc0 hno
        rw [show ((126 : UInt8).toNat : Int) = 126 from rfl] at hix
        go_wp2_with fail
        go_ret
        exact ⟨by rw [HS.out]; rfl, hb⟩
      · have hx : ¬ (c0.toNat : Int) = 126 := fun e => h1 (UInt8.toNat_inj.1 (by show c0.toNat = 126; omega))
        have H1 := Lib.hid h1
        have b1 : ((c0.toNat : Int) == 126) = false := by simpa using hx
        generalize (c0.toNat : Int) = x at *
        clear hc0 h1
        go_wp2_with fail
        go_roundw
        case rel => exact ⟨k + 1, hlt, by go_num, (fun i hi hik => by
          rcases Nat.lt_or_ge i k with h | h
          · exact hno i hi h
          · obtain rfl : i = k := by omega
            rw [he.out]
            exact H1.out), hb⟩
        case measure => simp [intOf]; omega
    · have hkI : (s.length : Int) ≤ (k : Int) := by omega
      have hnm : 126 ∉ s := fun hm => by
        obtain ⟨i, hi, e⟩ := List.getElem_of_mem hm
        exact hno i hi (by omega) e
      have hd : decide ((126 : UInt8) ∈ s) = false := decide_eq_false hnm
      clear hno hnm
      rcases Nat.lt_or_ge 20 s.length with h | h
      · have hI : (20 : Int) < (s.length : Int) := by omega
        have HS := Lib.hid (show snamed s = false from by unfold snamed; rw [decide_eq_false (by omega)]; rfl)
        clear hd
        go_wp2_with fail
        go_ret
        exact ⟨by rw [HS.out]; rfl, hb⟩
      have hI : (s.length : Int) ≤ 20 := by omega
      have HS := Lib.hid (show snamed s = named s from by unfold snamed; rw [decide_eq_true (show s.length ≤ 20 by omega), hd]; simp)
      clear hd
      go_wp2_with fail
      refine (HN.out _).mono ?_
      rintro e w5 ⟨rfl, hb5⟩
      have hb6 := bel_call hb hb5
      go_wp2_with fail
      go_ret
      exact ⟨by rw [HS.out]; rfl, hb6⟩
/-- while the document's store acts: its disk lies in the first block, the result in the second one -/
structure KSt (T : Nat → Prop) (w W : World) (d : Dk Bs) (A : Option Addr) (c : Nat) (B : Option Addr) (k : Nat) : Prop where
  mm : Mm w W [(w.heap.size + 1, 91, rdz), (w.heap.size, 91, rda d A c B k)] []
  R : Rdk (T2 T w.heap.size) W d A c B k
  up : ∀ j, w.heap.size ≤ j → T j
section
variable {T : Nat → Prop} {w W W' : World} {d d' : Dk Bs} {A A' B B' : Option Addr} {c c' k k' : Nat}
theorem KSt.up2 (h : KSt T w W d A c B k) : ∀ j, W.heap.size ≤ j → T2 T w.heap.size j := T2.up h.up h.mm
theorem KSt.call (h : KSt T w W d A c B k) (hb : Below W.heap.size W W') : KSt T w W' d A c B k := ⟨h.mm.call hb, h.R.below hb, h.up⟩
/-- the disk is laid anew -/
theorem KSt.next (h : KSt T w W d A c B k) (hR : Rdk (T2 T w.heap.size) W' d' A' c' B' k') (hb : Below W.heap.size W W') : KSt T w (((((W'.setCell ⟨w.heap.size, 0, none⟩ (.int .i64 d'.room)).setCell ⟨w.heap.size, 1, none⟩ (.slice A' d'.sure.length c')).setCell ⟨w.heap.size, 2, none⟩ (.slice B' d'.pend.length k')).setCell ⟨w.heap.size, 3, none⟩ (.int .i64 d'.fuse)).setCell ⟨w.heap.size, 4, none⟩ (.bool d'.down)) d' A' c' B' k' := by
  refine ⟨(h.mm.call hb).st5 1 rfl _ _ _ _ _, ?_, h.up⟩
  have hw : Wr W' (((((W'.setCell ⟨w.heap.size, 0, none⟩ (.int .i64 d'.room)).setCell ⟨w.heap.size, 1, none⟩ (.slice A' d'.sure.length c')).setCell ⟨w.heap.size, 2, none⟩ (.slice B' d'.pend.length k')).setCell ⟨w.heap.size, 3, none⟩ (.int .i64 d'.fuse)).setCell ⟨w.heap.size, 4, none⟩ (.bool d'.down)) w.heap.size := (((((Wr.refl _ _).set_ 0 _).set_ 1 _).set_ 2 _).set_ 3 _).set_ 4 _
  exact hR.sameH (fun _ _ ht => ht) hw.size fun j hj ht => hw.block j hj fun e => ht.2.1 (by injection e)
/-- the result is laid -/
theorem KSt.out (h : KSt T w W d A c B k) : Rdk T (((((W.setCell ⟨w.heap.size + 1, 0, none⟩ (.int .i64 d.room)).setCell ⟨w.heap.size + 1, 1, none⟩ (.slice A d.sure.length c)).setCell ⟨w.heap.size + 1, 2, none⟩ (.slice B d.pend.length k)).setCell ⟨w.heap.size + 1, 3, none⟩ (.int .i64 d.fuse)).setCell ⟨w.heap.size + 1, 4, none⟩ (.bool d.down)) d A c B k ∧ Below w.heap.size w (((((W.setCell ⟨w.heap.size + 1, 0, none⟩ (.int .i64 d.room)).setCell ⟨w.heap.size + 1, 1, none⟩ (.slice A d.sure.length c)).setCell ⟨w.heap.size + 1, 2, none⟩ (.slice B d.pend.length k)).setCell ⟨w.heap.size + 1, 3, none⟩ (.int .i64 d.fuse)).setCell ⟨w.heap.size + 1, 4, none⟩ (.bool d.down)) :=
  ⟨h.R.sam ((Sam.refl w.heap.size W).st5 (.inr rfl) _ _ _ _ _), bel_st5 h.mm.bel (by omega) _ _ _ _ _⟩
theorem KSt.begin (hT : ∀ j, w.heap.size ≤ j → T j) (h : Rdk T w d A c B k) : KSt T w ((w.alloc (.cells (rda d A c B k) 91)).alloc (.cells rdz 91)) d A c B k := by
  have hM := ((Mm.start w).alloc (rda d A c B k) 91).alloc rdz 91
  rw [show (w.alloc (.cells (rda d A c B k) 91)).heap.size = w.heap.size + 1 by simp] at hM
  exact ⟨hM, h.t2 hM.bel, hT⟩
end
theorem opd_fu {α : Type} {d : Dk α} {r : Dk α × Nat} (h : Opd d r) {M : Int} (hf : d.fuse ≤ M) : r.1.fuse ≤ M := by
  rw [h.2.1]
  unfold dWorks
  split
  · exact hf
  · split
    · exact hf
    · split
      · dsimp only; omega
      · exact hf
set_option maxRecDepth 100000 in
set_option maxHeartbeats 1000000 in
theorem KSDelete_any {T : Nat → Prop} {A B : Option Addr} {c k : Nat} (d : Dk Bs) (n : Bs) (w : World) (hT : ∀ k, w.heap.size ≤ k → T k) (h : Rdk T w d A c B k) (hl : d.sure.length + d.pend.length ≤ 400) (hf : d.fuse ≤ 9223372036854775807) (hn : n.length ≤ 9223372036854775807) :
    Calls Tryz.prog 93 #[.agg (rda d A c B k), .string ⟨n.toArray⟩] w fun e w' => GvK T w w' e (sDelete ([] : Bs) d n) := by
  have HN := Lib.hid (fun W => KSNamed_any n W hn)
  have hS0 := KSt.begin hT h
  obtain ⟨r0, r1, r2, r3, r4, rf0, rf1, rf2, rf3, rf4⟩ := (hS0).mm.b0.fiveC
  obtain ⟨b0, b1, b2, b3, b4, bf0, bf1, bf2, bf3, bf4⟩ := (hS0).mm.b1.fiveC
  have HS0 := Lib.hid hS0
  clear h hT hS0
  unfold rda
  go_enter Tryz.func93, Tryz.ntmps93
  go_wp2_with fail
  refine (HN.out _).mono ?_
  rintro e w1 ⟨rfl, hb1⟩
  have hS := HS0.out.call hb1
  clear r0 r1 r2 r3 r4 rf0 rf1 rf2 rf3 rf4 b0 b1 b2 b3 b4 bf0 bf1 bf2 bf3 bf4
  clear HS0 hb1
  obtain ⟨r0, r1, r2, r3, r4, rf0, rf1, rf2, rf3, rf4⟩ := (hS).mm.b0.fiveC
  obtain ⟨b0, b1, b2, b3, b4, bf0, bf1, bf2, bf3, bf4⟩ := (hS).mm.b1.fiveC
  cases hs : snamed n with
  | false =>
    have HX := Lib.hid (show sDelete ([] : Bs) d n = (d, 2) from by unfold sDelete; rw [if_pos hs])
    have HS1 := Lib.hid hS
    clear hS
    have HO := Lib.hid (HS1.out).out
    have HB := Lib.hid (HS1.out).mm.b0
    go_wp2_with fail
    exact bodyPost_ret (res_k2 rfl rfl (g := w.heap.size + 1) (HB.out.st5 _ _ _ _ _)) rfl (by rw [HX.out]; exact ⟨_, _, _, _, rfl, HO.out.1, HO.out.2⟩)
  | true =>
    have HXX := Lib.hid (show sDelete ([] : Bs) d n = andThen (dRemove ([] : Bs) d n) dSync from by unfold sDelete; rw [if_neg (by simp [hs])])
    have HR := Lib.hid (KRemove_any (T := T2 T w.heap.size) d n w1 hS.up2 hS.R (by omega) hf (by have := snamed_l20 hs; omega))
    have hop := Opd.remove ([] : Bs) d n
    generalize dRemove ([] : Bs) d n = r at *
    go_wp2_with fail
    refine HR.out.mono ?_
    clear HR
    rintro e w2 ⟨A2, c2, B2, k2, rfl, hR2, hb2⟩
    obtain ⟨d1, n1⟩ := r
    have hf1 := opd_fu hop hf
    have hl1 := opd_len hop hl
    dsimp only at hf1 hl1 hR2 ⊢
    have HS2 := Lib.hid (hS.next hR2 hb2)
    clear r0 r1 r2 r3 r4 rf0 rf1 rf2 rf3 rf4 b0 b1 b2 b3 b4 bf0 bf1 bf2 bf3 bf4
    have hS2 := hS.call hb2
    clear hR2 hb2 hS hop
    obtain ⟨r0, r1, r2, r3, r4, rf0, rf1, rf2, rf3, rf4⟩ := (hS2).mm.b0.fiveC
    obtain ⟨b0, b1, b2, b3, b4, bf0, bf1, bf2, bf3, bf4⟩ := (hS2).mm.b1.fiveC
    unfold rda
    clear hS2
    go_upto_region 4 with (fail)
    refine gen1 (T := fun W => KSt T w W d1 A2 c2 B2 k2) HS2.out (fun w3 hS3 => ?_)
    clear r0 r1 r2 r3 r4 rf0 rf1 rf2 rf3 rf4 b0 b1 b2 b3 b4 bf0 bf1 bf2 bf3 bf4
    clear HS2 w2
    obtain ⟨r0, r1, r2, r3, r4, rf0, rf1, rf2, rf3, rf4⟩ := (hS3).mm.b0.fiveC
    obtain ⟨b0, b1, b2, b3, b4, bf0, bf1, bf2, bf3, bf4⟩ := (hS3).mm.b1.fiveC
    rcases Decidable.em (n1 = 0) with h0 | h0
    rotate_left
    · have HX := Lib.hid (HXX.out.trans (if_pos h0))
      have h1 : ¬ (n1 : Int) = 0 := by omega
      have hz : ((n1 : Int) == 0) = false := by simpa using h1
      have HS3 := Lib.hid hS3
      clear hS3 HXX h0 h1
      have HO := Lib.hid (HS3.out).out
      have HB := Lib.hid (HS3.out).mm.b0
      go_wp2_with fail
      exact bodyPost_ret (res_k2 rfl rfl (g := w.heap.size + 1) (HB.out.st5 _ _ _ _ _)) rfl (by rw [HX.out]; exact ⟨_, _, _, _, rfl, HO.out.1, HO.out.2⟩)
    subst h0
    replace HXX := Lib.hid (HXX.out.trans (if_neg (by simp)))
    dsimp only at HXX
    have HR := Lib.hid (KSync_any (T := T2 T w.heap.size) d1 w3 hS3.up2 hS3.R (by omega) hf1)
    have hop := Opd.sync d1
    generalize dSync d1 = r at *
    replace hS := hS3
    replace hf := hf1
    replace hl := hl1
    clear hS3 hf1 hl1
    go_wp2_with fail
    refine HR.out.mono ?_
    clear HR
    rintro e w2 ⟨A2, c2, B2, k2, rfl, hR2, hb2⟩
    obtain ⟨d1, n1⟩ := r
    dsimp only at hR2 ⊢
    have HS2 := Lib.hid (hS.next hR2 hb2)
    clear r0 r1 r2 r3 r4 rf0 rf1 rf2 rf3 rf4 b0 b1 b2 b3 b4 bf0 bf1 bf2 bf3 bf4
    have hS2 := hS.call hb2
    clear hR2 hb2 hS hop
    obtain ⟨r0, r1, r2, r3, r4, rf0, rf1, rf2, rf3, rf4⟩ := (hS2).mm.b0.fiveC
    obtain ⟨b0, b1, b2, b3, b4, bf0, bf1, bf2, bf3, bf4⟩ := (hS2).mm.b1.fiveC
    unfold rda
    clear hS2
    go_upto_region 6 with (fail)
    refine gen1 (T := fun W => KSt T w W d1 A2 c2 B2 k2) HS2.out (fun w3 hS3 => ?_)
    clear r0 r1 r2 r3 r4 rf0 rf1 rf2 rf3 rf4 b0 b1 b2 b3 b4 bf0 bf1 bf2 bf3 bf4
    clear HS2 w2
    obtain ⟨r0, r1, r2, r3, r4, rf0, rf1, rf2, rf3, rf4⟩ := (hS3).mm.b0.fiveC
    obtain ⟨b0, b1, b2, b3, b4, bf0, bf1, bf2, bf3, bf4⟩ := (hS3).mm.b1.fiveC
    have HX := HXX
    have HS3 := Lib.hid hS3
    clear hS3 HXX
    have HO := Lib.hid (HS3.out).out
    have HB := Lib.hid (HS3.out).mm.b0
    go_wp2_with fail
    exact bodyPost_ret (res_k2 rfl rfl (g := w.heap.size + 1) (HB.out.st5 _ _ _ _ _)) rfl (by rw [HX.out]; exact ⟨_, _, _, _, rfl, HO.out.1, HO.out.2⟩)
set_option maxRecDepth 100000 in
set_option maxHeartbeats 1000000 in
theorem KSPut_any {T : Nat → Prop} {A B : Option Addr} {c k : Nat} (d : Dk Bs) (n v : Bs) (w : World) (hT : ∀ k, w.heap.size ≤ k → T k) (h : Rdk T w d A c B k) (hl : d.sure.length + d.pend.length ≤ 400) (hf : d.fuse ≤ 9223372036854775807) (hn : n.length ≤ 9223372036854775807) (hv : v.length ≤ 4611686018427387904) (hr : Ris d.sure) (hu : fused bln d.shown ≤ 1000000000000) :
    Calls Tryz.prog 94 #[.agg (rda d A c B k), .string ⟨n.toArray⟩, .string ⟨v.toArray⟩] w fun e w' => GvK T w w' e (sPut bln ([] : Bs) d n v) := by
  have HN := Lib.hid (fun W => KSNamed_any n W (by omega))
  have hS0 := KSt.begin hT h
  obtain ⟨r0, r1, r2, r3, r4, rf0, rf1, rf2, rf3, rf4⟩ := (hS0).mm.b0.fiveC
  obtain ⟨b0, b1, b2, b3, b4, bf0, bf1, bf2, bf3, bf4⟩ := (hS0).mm.b1.fiveC
  have HS0 := Lib.hid hS0
  clear h hT hS0
  unfold rda
  have hcat := cat_begun n
  have hbl : (begun n).length ≤ n.length + 1 := by unfold begun; simp
  have hsz : (ByteArray.size ⟨n.toArray⟩) = n.length := by simp [ByteArray.size]
  have hsz1 : (ByteArray.size ⟨#[126]⟩) = 1 := rfl
  have HXX := Lib.hid (fun (hs : snamed n = true) => (show sPut bln ([] : Bs) d n v = andThen (dWrite bln d (begun n) v) fun d => andThen (dSync d) fun d => andThen (dRename ([] : Bs) d (begun n) n) dSync from by unfold sPut; rw [if_neg (by simp [hs])]))
  generalize hbn : begun n = bn at *
  clear hbn
  go_enter Tryz.func94, Tryz.ntmps94
  go_wp2_with fail
  refine (HN.out _).mono ?_
  rintro e w1 ⟨rfl, hb1⟩
  have hS := HS0.out.call hb1
  clear r0 r1 r2 r3 r4 rf0 rf1 rf2 rf3 rf4 b0 b1 b2 b3 b4 bf0 bf1 bf2 bf3 bf4
  clear HS0 hb1
  obtain ⟨r0, r1, r2, r3, r4, rf0, rf1, rf2, rf3, rf4⟩ := (hS).mm.b0.fiveC
  obtain ⟨b0, b1, b2, b3, b4, bf0, bf1, bf2, bf3, bf4⟩ := (hS).mm.b1.fiveC
  cases hs : snamed n with
  | false =>
    have HX := Lib.hid (show sPut bln ([] : Bs) d n v = (d, 2) from by unfold sPut; rw [if_pos hs])
    have HS1 := Lib.hid hS
    clear hS
    have HO := Lib.hid (HS1.out).out
    have HB := Lib.hid (HS1.out).mm.b0
    go_wp2_with fail
    exact bodyPost_ret (res_k2 rfl rfl (g := w.heap.size + 1) (HB.out.st5 _ _ _ _ _)) rfl (by rw [HX.out]; exact ⟨_, _, _, _, rfl, HO.out.1, HO.out.2⟩)
  | true =>
    replace HXX := Lib.hid (HXX.out hs)
    have hn20 := snamed_l20 hs
    have HR := Lib.hid (KWrite_any (T := T2 T w.heap.size) d bn v w1 hS.up2 hS.R (by omega) hf (by omega) hv hr hu)
    have hop := Opd.write bln d bn v
    generalize dWrite bln d bn v = r at *
    go_wp2_with fail
    refine HR.out.mono ?_
    clear HR
    rintro e w2 ⟨A2, c2, B2, k2, rfl, hR2, hb2⟩
    obtain ⟨d1, n1⟩ := r
    have hf1 := opd_fu hop hf
    have hl1 := opd_len hop hl
    dsimp only at hf1 hl1 hR2 ⊢
    have HS2 := Lib.hid (hS.next hR2 hb2)
    clear r0 r1 r2 r3 r4 rf0 rf1 rf2 rf3 rf4 b0 b1 b2 b3 b4 bf0 bf1 bf2 bf3 bf4
    have hS2 := hS.call hb2
    clear hR2 hb2 hS hop
    obtain ⟨r0, r1, r2, r3, r4, rf0, rf1, rf2, rf3, rf4⟩ := (hS2).mm.b0.fiveC
    obtain ⟨b0, b1, b2, b3, b4, bf0, bf1, bf2, bf3, bf4⟩ := (hS2).mm.b1.fiveC
    unfold rda
    clear hS2
    go_upto_region 4 with (fail)
    refine gen1 (T := fun W => KSt T w W d1 A2 c2 B2 k2) HS2.out (fun w3 hS3 => ?_)
    clear r0 r1 r2 r3 r4 rf0 rf1 rf2 rf3 rf4 b0 b1 b2 b3 b4 bf0 bf1 bf2 bf3 bf4
    clear HS2 w2
    obtain ⟨r0, r1, r2, r3, r4, rf0, rf1, rf2, rf3, rf4⟩ := (hS3).mm.b0.fiveC
    obtain ⟨b0, b1, b2, b3, b4, bf0, bf1, bf2, bf3, bf4⟩ := (hS3).mm.b1.fiveC
    rcases Decidable.em (n1 = 0) with h0 | h0
    rotate_left
    · have HX := Lib.hid (HXX.out.trans (if_pos h0))
      have h1 : ¬ (n1 : Int) = 0 := by omega
      have hz : ((n1 : Int) == 0) = false := by simpa using h1
      have HS3 := Lib.hid hS3
      clear hS3 HXX h0 h1
      have HO := Lib.hid (HS3.out).out
      have HB := Lib.hid (HS3.out).mm.b0
      go_wp2_with fail
      exact bodyPost_ret (res_k2 rfl rfl (g := w.heap.size + 1) (HB.out.st5 _ _ _ _ _)) rfl (by rw [HX.out]; exact ⟨_, _, _, _, rfl, HO.out.1, HO.out.2⟩)
    subst h0
    replace HXX := Lib.hid (HXX.out.trans (if_neg (by simp)))
    dsimp only at HXX
    have HR := Lib.hid (KSync_any (T := T2 T w.heap.size) d1 w3 hS3.up2 hS3.R (by omega) hf1)
    have hop := Opd.sync d1
    generalize dSync d1 = r at *
    replace hS := hS3
    replace hf := hf1
    replace hl := hl1
    clear hS3 hf1 hl1
    go_wp2_with fail
    refine HR.out.mono ?_
    clear HR
    rintro e w2 ⟨A2, c2, B2, k2, rfl, hR2, hb2⟩
    obtain ⟨d1, n1⟩ := r
    have hf1 := opd_fu hop hf
    have hl1 := opd_len hop hl
    dsimp only at hf1 hl1 hR2 ⊢
    have HS2 := Lib.hid (hS.next hR2 hb2)
    clear r0 r1 r2 r3 r4 rf0 rf1 rf2 rf3 rf4 b0 b1 b2 b3 b4 bf0 bf1 bf2 bf3 bf4
    have hS2 := hS.call hb2
    clear hR2 hb2 hS hop
    obtain ⟨r0, r1, r2, r3, r4, rf0, rf1, rf2, rf3, rf4⟩ := (hS2).mm.b0.fiveC
    obtain ⟨b0, b1, b2, b3, b4, bf0, bf1, bf2, bf3, bf4⟩ := (hS2).mm.b1.fiveC
    unfold rda
    clear hS2
    go_upto_region 6 with (fail)
    refine gen1 (T := fun W => KSt T w W d1 A2 c2 B2 k2) HS2.out (fun w3 hS3 => ?_)
    clear r0 r1 r2 r3 r4 rf0 rf1 rf2 rf3 rf4 b0 b1 b2 b3 b4 bf0 bf1 bf2 bf3 bf4
    clear HS2 w2
    obtain ⟨r0, r1, r2, r3, r4, rf0, rf1, rf2, rf3, rf4⟩ := (hS3).mm.b0.fiveC
    obtain ⟨b0, b1, b2, b3, b4, bf0, bf1, bf2, bf3, bf4⟩ := (hS3).mm.b1.fiveC
    rcases Decidable.em (n1 = 0) with h0 | h0
    rotate_left
    · have HX := Lib.hid (HXX.out.trans (if_pos h0))
      have h1 : ¬ (n1 : Int) = 0 := by omega
      have hz : ((n1 : Int) == 0) = false := by simpa using h1
      have HS3 := Lib.hid hS3
      clear hS3 HXX h0 h1
      have HO := Lib.hid (HS3.out).out
      have HB := Lib.hid (HS3.out).mm.b0
      go_wp2_with fail
      exact bodyPost_ret (res_k2 rfl rfl (g := w.heap.size + 1) (HB.out.st5 _ _ _ _ _)) rfl (by rw [HX.out]; exact ⟨_, _, _, _, rfl, HO.out.1, HO.out.2⟩)
    subst h0
    replace HXX := Lib.hid (HXX.out.trans (if_neg (by simp)))
    dsimp only at HXX
    have HR := Lib.hid (KRename_any (T := T2 T w.heap.size) d1 bn n w3 hS3.up2 hS3.R (by omega) hf1 (by omega) (by omega))
    have hop := Opd.rename ([] : Bs) d1 bn n
    generalize dRename ([] : Bs) d1 bn n = r at *
    replace hS := hS3
    replace hf := hf1
    replace hl := hl1
    clear hS3 hf1 hl1
    go_wp2_with fail
    refine HR.out.mono ?_
    clear HR
    rintro e w2 ⟨A2, c2, B2, k2, rfl, hR2, hb2⟩
    obtain ⟨d1, n1⟩ := r
    have hf1 := opd_fu hop hf
    have hl1 := opd_len hop hl
    dsimp only at hf1 hl1 hR2 ⊢
    have HS2 := Lib.hid (hS.next hR2 hb2)
    clear r0 r1 r2 r3 r4 rf0 rf1 rf2 rf3 rf4 b0 b1 b2 b3 b4 bf0 bf1 bf2 bf3 bf4
    have hS2 := hS.call hb2
    clear hR2 hb2 hS hop
    obtain ⟨r0, r1, r2, r3, r4, rf0, rf1, rf2, rf3, rf4⟩ := (hS2).mm.b0.fiveC
    obtain ⟨b0, b1, b2, b3, b4, bf0, bf1, bf2, bf3, bf4⟩ := (hS2).mm.b1.fiveC
    unfold rda
    clear hS2
    go_upto_region 8 with (fail)
    refine gen1 (T := fun W => KSt T w W d1 A2 c2 B2 k2) HS2.out (fun w3 hS3 => ?_)
    clear r0 r1 r2 r3 r4 rf0 rf1 rf2 rf3 rf4 b0 b1 b2 b3 b4 bf0 bf1 bf2 bf3 bf4
    clear HS2 w2
    obtain ⟨r0, r1, r2, r3, r4, rf0, rf1, rf2, rf3, rf4⟩ := (hS3).mm.b0.fiveC
    obtain ⟨b0, b1, b2, b3, b4, bf0, bf1, bf2, bf3, bf4⟩ := (hS3).mm.b1.fiveC
    rcases Decidable.em (n1 = 0) with h0 | h0
    rotate_left
    · have HX := Lib.hid (HXX.out.trans (if_pos h0))
      have h1 : ¬ (n1 : Int) = 0 := by omega
      have hz : ((n1 : Int) == 0) = false := by simpa using h1
      have HS3 := Lib.hid hS3
      clear hS3 HXX h0 h1
      have HO := Lib.hid (HS3.out).out
      have HB := Lib.hid (HS3.out).mm.b0
      go_wp2_with fail
      exact bodyPost_ret (res_k2 rfl rfl (g := w.heap.size + 1) (HB.out.st5 _ _ _ _ _)) rfl (by rw [HX.out]; exact ⟨_, _, _, _, rfl, HO.out.1, HO.out.2⟩)
    subst h0
    replace HXX := Lib.hid (HXX.out.trans (if_neg (by simp)))
    dsimp only at HXX
    have HR := Lib.hid (KSync_any (T := T2 T w.heap.size) d1 w3 hS3.up2 hS3.R (by omega) hf1)
    have hop := Opd.sync d1
    generalize dSync d1 = r at *
    replace hS := hS3
    replace hf := hf1
    replace hl := hl1
    clear hS3 hf1 hl1
    go_wp2_with fail
    refine HR.out.mono ?_
    clear HR
    rintro e w2 ⟨A2, c2, B2, k2, rfl, hR2, hb2⟩
    obtain ⟨d1, n1⟩ := r
    dsimp only at hR2 ⊢
    have HS2 := Lib.hid (hS.next hR2 hb2)
    clear r0 r1 r2 r3 r4 rf0 rf1 rf2 rf3 rf4 b0 b1 b2 b3 b4 bf0 bf1 bf2 bf3 bf4
    have hS2 := hS.call hb2
    clear hR2 hb2 hS hop
    obtain ⟨r0, r1, r2, r3, r4, rf0, rf1, rf2, rf3, rf4⟩ := (hS2).mm.b0.fiveC
    obtain ⟨b0, b1, b2, b3, b4, bf0, bf1, bf2, bf3, bf4⟩ := (hS2).mm.b1.fiveC
    unfold rda
    clear hS2
    go_upto_region 10 with (fail)
    refine gen1 (T := fun W => KSt T w W d1 A2 c2 B2 k2) HS2.out (fun w3 hS3 => ?_)
    clear r0 r1 r2 r3 r4 rf0 rf1 rf2 rf3 rf4 b0 b1 b2 b3 b4 bf0 bf1 bf2 bf3 bf4
    clear HS2 w2
    obtain ⟨r0, r1, r2, r3, r4, rf0, rf1, rf2, rf3, rf4⟩ := (hS3).mm.b0.fiveC
    obtain ⟨b0, b1, b2, b3, b4, bf0, bf1, bf2, bf3, bf4⟩ := (hS3).mm.b1.fiveC
    have HX := HXX
    have HS3 := Lib.hid hS3
    clear hS3 HXX
    have HO := Lib.hid (HS3.out).out
    have HB := Lib.hid (HS3.out).mm.b0
    go_wp2_with fail
    exact bodyPost_ret (res_k2 rfl rfl (g := w.heap.size + 1) (HB.out.st5 _ _ _ _ _)) rfl (by rw [HX.out]; exact ⟨_, _, _, _, rfl, HO.out.1, HO.out.2⟩)
def sGetK (d : Dk Bs) (n : Bs) : Bs × Nat := if snamed n = false then ([], 2) else rRead d n
set_option maxRecDepth 100000 in
set_option maxHeartbeats 1000000 in
theorem KSGet_any {T : Nat → Prop} {A B : Option Addr} {c k : Nat} (d : Dk Bs) (n : Bs) (w : World) (hT : ∀ k, w.heap.size ≤ k → T k) (h : Rdk T w d A c B k) (hl : d.sure.length + d.pend.length ≤ 100000) (hn : n.length ≤ 9223372036854775807) :
    Calls Tryz.prog 96 #[.agg (rda d A c B k), .string ⟨n.toArray⟩] w fun e w' => e = .returned (.tuple #[.string ⟨(sGetK d n).1.toArray⟩, .int .i64 ((sGetK d n).2 : Nat)]) ∧ Below w.heap.size w w' := by
  have HN := Lib.hid (fun W => KSNamed_any n W hn)
  have hb0 := below_new w (.cells (rda d A c B k) 91)
  have hB := Blk.new w 91 (rda d A c B k)
  have HB := Lib.hid hB
  have HR := Lib.hid h
  have HT := Lib.hid hT
  clear h hB hT
  go_enter Tryz.func96, Tryz.ntmps96
  go_wp2_with fail
  refine (HN.out _).mono ?_
  rintro e w1 ⟨rfl, hb1⟩
  have hb2 := bel_call hb0 hb1
  cases hs : snamed n with
  | false =>
    have HX := Lib.hid (show sGetK d n = ([], 2) from by unfold sGetK; rw [if_pos hs])
    go_wp2_with fail
    go_ret2
    exact ⟨by rw [HX.out]; rfl, hb2⟩
  | true =>
    have HX := Lib.hid (show sGetK d n = rRead d n from by unfold sGetK; rw [if_neg (by simp [hs])])
    have HK := Lib.hid (KRead_any (T := T) d n w1 (fun j hj => HT.out j (by have := hb2.size; omega)) ((HR.out.below hb0).below hb1) hl)
    obtain ⟨r0, r1, r2, r3, r4, -⟩ := (HB.out.below hb1).fiveC
    go_wp2_with fail
    refine HK.out.mono ?_
    rintro e w3 ⟨rfl, hb3⟩
    have hb4 := bel_call hb2 hb3
    go_wp2_with fail
    go_ret2
    exact ⟨by rw [HX.out]; rfl, hb4⟩
end Go.Proofs.YtabnndjdkjkciaaGreatDoor
