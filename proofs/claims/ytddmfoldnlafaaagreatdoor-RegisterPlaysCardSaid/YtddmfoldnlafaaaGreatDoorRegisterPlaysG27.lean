/- WHAT IT HOLDS: what is granted, or left behind by giving up, is a lease, plainly. | WHAT IT HOLDS: the document's register: a lease given up: walked. | WHAT IT HOLDS: the document's register: a lease acquired: walked. | WHAT IT HOLDS: the document's register answers as the register, plainly. | WHAT IT HOLDS: a register's disk and its grants told: walked. | WHAT IT HOLDS: the law DiskPlays, walked. | WHAT IT HOLDS: while an act on a store and the document's is done: what lies where. -/
import Derived.Test.YtddmfoldnlafaaaGreatDoorRegisterPlaysG06
import Derived.Test.YtddmfoldnlafaaaGreatDoorRegisterPlaysG16
import Derived.Test.YtddmfoldnlafaaaGreatDoorRegisterPlaysG26
import Derived.Test.YtddmfoldnlafaaaGreatDoorRegisterPlaysG17
import Derived.Test.YtddmfoldnlafaaaGreatDoorRegisterPlaysG22
import Derived.Test.YtddmfoldnlafaaaGreatDoorRegisterPlaysG25
import Derived.Test.YtddmfoldnlafaaaGreatDoorRegisterPlaysG24
namespace Go.Proofs.YtddmfoldnlafaaaGreatDoor
open Go.RowKit Go.Maps Go.Sort

theorem lck_give {L : L3r} {o : Int} (h : (giveL L o).2 = 0) : lck (giveL L o).1 = 0 := by
  obtain ⟨lo, le, lu⟩ := L
  obtain ⟨h1, -, h3, -⟩ := give_ok h
  unfold giveL lck
  dsimp only at h1 ⊢
  rw [h1]
  obtain ⟨⟨r1, r2⟩, ⟨r3, r4⟩, ⟨r5, r6⟩, _⟩ := chk_ok h3
  dsimp only
  simp [chk, *]
  exact inb_list ⟨r3, r4⟩ ⟨by omega, by omega⟩
theorem lck_grant {L : L3r} {o now sp bo : Int} (h : (grantL L o now sp bo).2 = 0) : lck (grantL L o now sp bo).1 = 0 := by
  obtain ⟨lo, le, lu⟩ := L
  have hc : chk lo le lu = 0 := by
    by_cases hc : chk lo le lu = 0
    · exact hc
    · exfalso
      unfold grantL grant at h
      rw [if_pos hc] at h
      exact hc h
  exact (grant_cases hc h).2.1
end Go.Proofs.YtddmfoldnlafaaaGreatDoor

namespace Go.Proofs.YtddmfoldnlafaaaGreatDoor
open Go.RowKit Go.Maps Go.Sort
attribute [local go_sem ↓] Go.wp_at_zero Go.wp_at_succ

/-- what giving up leaves of the document's register: disk, lease, an error's number -/
def gvB (d : Dk Bs) (L : L3r) (o : Int) : Dk Bs × L3r × Nat :=
  if (giveL L o).2 ≠ 0 then (d, L, (giveL L o).2)
  else ((sPut bln ([] : Bs) d lname (lpt (giveL L o).1)).1, if (sPut bln ([] : Bs) d lname (lpt (giveL L o).1)).2 = 0 then (giveL L o).1 else L, (sPut bln ([] : Bs) d lname (lpt (giveL L o).1)).2)
/-- an act on the document's register: its own copy and the result -/
structure KRg (T : Nat → Prop) (w W : World) (d : Dk Bs) (A : Option Addr) (c : Nat) (B : Option Addr) (k : Nat) (R9 : Array Value) : Prop where
  mm : Mm w W [(w.heap.size + 1, 104, rrz), (w.heap.size, 104, R9)] []
  R : Rdk (T2 T w.heap.size) W d A c B k
  up : ∀ j, w.heap.size ≤ j → T j
section
variable {T : Nat → Prop} {w W W' : World} {d d' : Dk Bs} {A B A' B' : Option Addr} {c k c' k' g : Nat} {R9 : Array Value} {sp bo n : Int} {L : L3r}
theorem KRg.begin (hT : ∀ j, w.heap.size ≤ j → T j) (h : Rdk T w d A c B k) (R9 : Array Value) : KRg T w ((w.alloc (.cells R9 104)).alloc (.cells rrz 104)) d A c B k R9 := by
  have hM := ((Mm.start w).alloc R9 104).alloc rrz 104
  rw [show (w.alloc (.cells R9 104)).heap.size = w.heap.size + 1 by simp] at hM
  exact ⟨hM, h.t2 hM.bel, hT⟩
theorem KRg.call (h : KRg T w W d A c B k R9) (hb : Below W.heap.size W W') : KRg T w W' d A c B k R9 := ⟨h.mm.call hb, h.R.below hb, h.up⟩
theorem KRg.up2 (h : KRg T w W d A c B k R9) : ∀ j, W.heap.size ≤ j → T2 T w.heap.size j := T2.up h.up h.mm
theorem KRg.out (h : KRg T w W d A c B k R9) (hR : Rdk (T2 T w.heap.size) W d' A' c' B' k') (hw : Wr W W' (w.heap.size + 1)) : Rdk T W' d' A' c' B' k' ∧ Below w.heap.size w W' :=
  ⟨hR.sameH (fun _ _ ht => ht.1) hw.size fun j hj ht => hw.block j hj fun e => ht.2.2 (by injection e), h.mm.bel.trans (hw.below h.mm.bel.size (by omega))⟩
end
set_option maxRecDepth 100000 in
set_option maxHeartbeats 1000000 in
theorem R29Give_any {T : Nat → Prop} {A B : Option Addr} {c k : Nat} (d : Dk Bs) (sp bo n : Int) (L : L3r) (o : Int) (w : World) (hT : ∀ k, w.heap.size ≤ k → T k) (h : Rdk T w d A c B k) (hl : d.sure.length + d.pend.length ≤ 400) (hf : d.fuse ≤ 9223372036854775807) (hr : Ris d.sure) (hu : fused bln d.shown ≤ 1000000000000) :
    Calls Tryz.prog 101 #[.agg (rrg d A c B k sp bo L n), .int .i64 o] w fun e w' => GvR T w w' e (gvB d L o).1 sp bo (gvB d L o).2.1 n (gvB d L o).2.2 := by
  have hS := KRg.begin hT h (rrg d A c B k sp bo L n)
  have HK := Lib.hid (fun (x : L3r) (T : Nat → Prop) (W : World) (hT : ∀ j, W.heap.size ≤ j → T j) (h : Rdk T W d A c B k) (hx : lck x = 0) => R29Keep_any d sp bo n L x W hT h hl hf hr hu hx)
  have HG := Lib.hid (fun W => rLGive_any L.1 L.2.1 L.2.2 o W)
  have hgv : gvB d L o = if (giveL L o).2 ≠ 0 then (d, L, (giveL L o).2) else ((sPut bln ([] : Bs) d lname (lpt (giveL L o).1)).1, if (sPut bln ([] : Bs) d lname (lpt (giveL L o).1)).2 = 0 then (giveL L o).1 else L, (sPut bln ([] : Bs) d lname (lpt (giveL L o).1)).2) := rfl
  have hck : (giveL L o).2 = 0 → lck (giveL L o).1 = 0 := lck_give
  have HGv := Lib.hid hgv
  generalize gvB d L o = gv at *
  unfold giveL at HGv hck
  generalize give L.1 L.2.1 L.2.2 o = q at *
  obtain ⟨x1, x2, x3, k1⟩ := q
  dsimp only at HGv hck
  have HC := Lib.hid hck
  clear hgv hck hl hf hr hu hT h
  unfold rrg at hS
  obtain ⟨a0, a1, a2, a3, a4, a5, a6, a7, a8, a9, a10⟩ := (hS).mm.b1.elev
  obtain ⟨r0, r1, r2, r3, r4, r5, r6, r7, r8, r9, r10⟩ := (hS).mm.b0.elev
  obtain ⟨rf0, rf1, rf2, rf3, rf4, rf5, rf6, rf7, rf8, rf9, rf10⟩ := (hS).mm.b0.frz
  have HS := Lib.hid hS
  clear hS
  go_enter Tryz.func101, Tryz.ntmps101
  unfold rrg
  go_wp2_with fail
  refine (HG.out _).mono ?_
  rintro e w1 ⟨rfl, hb1⟩
  dsimp only at hb1 ⊢
  have HS1 := Lib.hid (HS.out.call hb1)
  clear HS hb1 HG
  clear a0 a1 a2 a3 a4 a5 a6 a7 a8 a9 a10 r0 r1 r2 r3 r4 r5 r6 r7 r8 r9 r10 rf0 rf1 rf2 rf3 rf4 rf5 rf6 rf7 rf8 rf9 rf10
  go_upto_region 2 with (fail)
  refine gen1 (T := fun W => KRg T w W d A c B k _ ∧ Blk W w1.heap.size 102 #[.int .i64 x1, .int .i64 x2, .int .i64 x3]) ⟨HS1.out.call (below_new _ _), Blk.new _ _ _⟩ (fun w2 hT => ?_)
  obtain ⟨hS, hBl⟩ := hT
  obtain ⟨a0, a1, a2, a3, a4, a5, a6, a7, a8, a9, a10⟩ := (hS).mm.b1.elev
  obtain ⟨r0, r1, r2, r3, r4, r5, r6, r7, r8, r9, r10⟩ := (hS).mm.b0.elev
  obtain ⟨rf0, rf1, rf2, rf3, rf4, rf5, rf6, rf7, rf8, rf9, rf10⟩ := (hS).mm.b0.frz
  obtain ⟨l0, l1, l2, -, -, -⟩ := hBl.three
  have HS := Lib.hid hS
  generalize w1.heap.size = g6 at *
  clear hS hBl HS1
  by_cases h0 : k1 = 0
  rotate_left
  · have HI := Lib.hid (show gv = (d, L, k1) from HGv.out.trans (if_pos h0))
    have hz : ((k1 : Int) != 0) = true := by simpa using h0
    clear h0 HC HK HGv
    go_wp2_with fail
    have HO := HS.out.out HS.out.R (wr_setR _ (w.heap.size + 1) d A c B k sp bo L n)
    have HB := HS.out.mm.b0.setR d A c B k sp bo L n
    unfold setR at HO HB
    unfold rrg at HB
    try dsimp only at HO HB
    exact bodyPost_ret (res_rr rfl rfl (g := w.heap.size + 1) HB) rfl (by rw [HI.out]; exact ⟨A, c, B, k, rfl, HO.1, HO.2⟩)
  subst h0
  have hx := HC.out rfl
  have HI := Lib.hid (HGv.out.trans (if_neg (by simp)))
  have HK2 := Lib.hid (HK.out (x1, x2, x3) _ _ HS.out.up2 HS.out.R hx)
  clear HK HC hx HGv
  dsimp only at HK2
  generalize sPut bln ([] : Bs) d lname (lpt (x1, x2, x3)) = r at *
  obtain ⟨d2, n2⟩ := r
  dsimp only at HK2 HI
  generalize (if n2 = 0 then ((x1, x2, x3) : L3r) else L) = L2 at *
  go_wp2_with fail
  refine HK2.out.mono ?_
  rintro e w3 ⟨A2, c2, B2, k2, rfl, hR3, hb3⟩
  have hS := HS.out.call hb3
  clear HK2 HS hb3 l0 l1 l2
  clear a0 a1 a2 a3 a4 a5 a6 a7 a8 a9 a10 r0 r1 r2 r3 r4 r5 r6 r7 r8 r9 r10 rf0 rf1 rf2 rf3 rf4 rf5 rf6 rf7 rf8 rf9 rf10
  obtain ⟨a0, a1, a2, a3, a4, a5, a6, a7, a8, a9, a10⟩ := (hS).mm.b1.elev
  obtain ⟨r0, r1, r2, r3, r4, r5, r6, r7, r8, r9, r10⟩ := (hS).mm.b0.elev
  obtain ⟨rf0, rf1, rf2, rf3, rf4, rf5, rf6, rf7, rf8, rf9, rf10⟩ := (hS).mm.b0.frz
  have HS := Lib.hid hS
  have HR := Lib.hid hR3
  clear hS hR3
  unfold rrg
  go_wp2_with fail
  have HO := HS.out.out HR.out (wr_setR _ (w.heap.size + 1) d2 A2 c2 B2 k2 sp bo L2 n)
  have HB := HS.out.mm.b0.setR d2 A2 c2 B2 k2 sp bo L2 n
  unfold setR at HO HB
  unfold rrg at HB
  try dsimp only at HO HB
  exact bodyPost_ret (res_rr rfl rfl (g := w.heap.size + 1) HB) rfl (by rw [HI.out]; exact ⟨A2, c2, B2, k2, rfl, HO.1, HO.2⟩)
end Go.Proofs.YtddmfoldnlafaaaGreatDoor

namespace Go.Proofs.YtddmfoldnlafaaaGreatDoor
open Go.RowKit Go.Maps Go.Sort
attribute [local go_sem ↓] Go.wp_at_zero Go.wp_at_succ

/-- what acquiring gives of the document's register: the lease told; disk, lease, grants; an error's number -/
def acB (d : Dk Bs) (L : L3r) (n sp bo o now : Int) : L3r × Dk Bs × L3r × Int × Nat :=
  if (grantL L o now sp bo).2 ≠ 0 then ((0, 0, 0), d, L, n, (grantL L o now sp bo).2)
  else if (sPut bln ([] : Bs) d lname (lpt (grantL L o now sp bo).1)).2 ≠ 0 then ((0, 0, 0), (sPut bln ([] : Bs) d lname (lpt (grantL L o now sp bo).1)).1, L, n, (sPut bln ([] : Bs) d lname (lpt (grantL L o now sp bo).1)).2)
  else ((grantL L o now sp bo).1, (sPut bln ([] : Bs) d lname (lpt (grantL L o now sp bo).1)).1, (grantL L o now sp bo).1, wrap64 (n + 1), 0)
def AcR (T : Nat → Prop) (w w' : World) (e : Ending) (x : L3r) (d : Dk Bs) (sp bo : Int) (L : L3r) (n : Int) (bad : Nat) : Prop := ∃ A c B k, e = .returned (.tuple #[lv x.1 x.2.1 x.2.2, .agg (rrg d A c B k sp bo L n), .int .i64 (bad : Nat)]) ∧ Rdk T w' d A c B k ∧ Below w.heap.size w w'
/-- acquiring: the register's own copy, the results -/
structure KRa (T : Nat → Prop) (w W : World) (g1 g2 : Nat) (d : Dk Bs) (A : Option Addr) (c : Nat) (B : Option Addr) (k : Nat) (x : L3r) (R9 R7 : Array Value) : Prop where
  e1 : g1 = w.heap.size + 1
  e2 : g2 = w.heap.size + 1 + 1
  mm : Mm w W [(g2, 104, R7), (g1, 102, #[.int .i64 x.1, .int .i64 x.2.1, .int .i64 x.2.2]), (w.heap.size, 104, R9)] []
  R : Rdk (T4 T w.heap.size) W d A c B k
  up : ∀ j, w.heap.size ≤ j → T j
section
variable {T : Nat → Prop} {w W W' : World} {d d' : Dk Bs} {A B A' B' : Option Addr} {c k c' k' g g1 g2 : Nat} {R9 R7 : Array Value} {sp bo n : Int} {L x : L3r}
theorem KRk.toA (h : KRk T w W d A c B k x R9) : KRa T w W (w.heap.size + 1) (w.heap.size + 1 + 1) d A c B k x R9 rrz := ⟨rfl, rfl, h.mm, h.R, h.up⟩
theorem KRa.call (h : KRa T w W g1 g2 d A c B k x R9 R7) (hb : Below W.heap.size W W') : KRa T w W' g1 g2 d A c B k x R9 R7 := ⟨h.e1, h.e2, h.mm.call hb, h.R.below hb, h.up⟩
theorem KRa.up4 (h : KRa T w W g1 g2 d A c B k x R9 R7) : ∀ j, W.heap.size ≤ j → T4 T w.heap.size j := fun j hj => by
  have h0 := h.mm.b0.lt
  have e1 := h.e1
  have e2 := h.e2
  have h1 := h.mm.b1.lt
  have h2 := h.mm.b2.lt
  exact ⟨h.up j (by omega), by omega, by omega, by omega⟩
theorem KRa.s (h : KRa T w W g1 g2 d A c B k x R9 R7) : Blk W w.heap.size 104 R9 ∧ Below w.heap.size w W := ⟨h.mm.b2, h.mm.bel⟩
theorem KRa.lease (h : KRa T w W g1 g2 d A c B k x R9 R7) (a b e : Int) : KRa T w (((W.setCell ⟨g1, 0, none⟩ (.int .i64 a)).setCell ⟨g1, 1, none⟩ (.int .i64 b)).setCell ⟨g1, 2, none⟩ (.int .i64 e)) g1 g2 d A c B k (a, b, e) R9 R7 := by
  have hw : Wr W (((W.setCell ⟨g1, 0, none⟩ (.int .i64 a)).setCell ⟨g1, 1, none⟩ (.int .i64 b)).setCell ⟨g1, 2, none⟩ (.int .i64 e)) g1 := (((Wr.refl _ _).set_ 0 _).set_ 1 _).set_ 2 _
  exact ⟨h.e1, h.e2, h.mm.turn 1 rfl (((h.mm.b1.set_ 0 _).set_ 1 _).set_ 2 _) hw, h.R.sameH (fun _ _ ht => ht) hw.size fun j hj ht => hw.block j hj fun e => ht.2.2.1 (by injection e with e; have := h.e1; omega), h.up⟩
theorem KRa.res (h : KRa T w W g1 g2 d A c B k x R9 rrz) : KRa T w (setR W g2 d A c B k sp bo L n) g1 g2 d A c B k x R9 (rrg d A c B k sp bo L n) := by
  have hw := wr_setR W g2 d A c B k sp bo L n
  exact ⟨h.e1, h.e2, h.mm.turn 0 rfl (h.mm.b0.setR d A c B k sp bo L n) hw, h.R.sameH (fun _ _ ht => ht) hw.size fun j hj ht => hw.block j hj fun e => ht.2.2.2 (by injection e with e; have := h.e2; omega), h.up⟩
theorem KRa.reg {sp' bo' n' : Int} {L' : L3r} (h : KRa T w W g1 g2 d A c B k x (rrg d A c B k sp bo L n) R7) (hR : Rdk (T4 T w.heap.size) W d' A' c' B' k') : KRa T w (setR W w.heap.size d' A' c' B' k' sp' bo' L' n') g1 g2 d' A' c' B' k' x (rrg d' A' c' B' k' sp' bo' L' n') R7 := by
  have hw := wr_setR W w.heap.size d' A' c' B' k' sp' bo' L' n'
  have hb : Blk W w.heap.size 104 (rrg d A c B k sp bo L n) := h.mm.b2
  unfold rrg at hb
  exact ⟨h.e1, h.e2, h.mm.turn 2 rfl (hb.setR d' A' c' B' k' sp' bo' L' n') hw, hR.sameH (fun _ _ ht => ht) hw.size fun j hj ht => hw.block j hj fun e => ht.2.1 (by injection e), h.up⟩
theorem KRa.inc (h : KRa T w W g1 g2 d A c B k x (rrg d A c B k sp bo L n) R7) (m : Int) : KRa T w (W.setCell ⟨w.heap.size, 10, none⟩ (.int .i64 m)) g1 g2 d A c B k x (rrg d A c B k sp bo L m) R7 := by
  have hw : Wr W (W.setCell ⟨w.heap.size, 10, none⟩ (.int .i64 m)) w.heap.size := (Wr.refl _ _).set_ 10 _
  exact ⟨h.e1, h.e2, h.mm.turn 2 rfl (Blk.cast (h.mm.b2.set_ 10 _) (by kernel_rfl)) hw, h.R.sameH (fun _ _ ht => ht) hw.size fun j hj ht => hw.block j hj fun e => ht.2.1 (by injection e), h.up⟩
theorem KRa.fin (h : KRa T w W g1 g2 d A c B k x R9 R7) : Rdk T W d A c B k ∧ Below w.heap.size w W := ⟨h.R.weak fun _ _ ht => ht.1, h.mm.bel⟩
end
theorem res_lr3 {fn : Func} {a b m : Nat} {tmps : Array Value} {w : World} {g g2 : Nat} {x y z a0 a1 a2 a3 a4 a5 a6 a7 a8 a9 a10 : Value} (hres : fn.results = #[.cell a 102, .cell b 104, .tmp m]) (ha : tmps.getD a undef = .pointer (some ⟨g, 0, none⟩)) (hb : tmps.getD b undef = .pointer (some ⟨g2, 0, none⟩)) (hA : Blk w g 102 #[x, y, z]) (hB : Blk w g2 104 #[a0, a1, a2, a3, a4, a5, a6, a7, a8, a9, a10]) :
    (results fn tmps).run Tryz.prog w = .ok (.tuple #[.agg #[x, y, z], .agg #[a0, a1, a2, a3, a4, a5, a6, a7, a8, a9, a10], tmps.getD m undef]) w := by
  obtain ⟨b0, b1, b2, b3, b4, b5, b6, b7, b8, b9, b10⟩ := Blk.elev hB
  obtain ⟨x0, x1, x2, -, -, -⟩ := hA.three
  have ha' : tmps[a]?.getD undef = .pointer (some ⟨g, 0, none⟩) := by simpa using ha
  have hb' : tmps[b]?.getD undef = .pointer (some ⟨g2, 0, none⟩) := by simpa using hb
  simp [results, hres, go_sem, b0, b1, b2, b3, b4, b5, b6, b7, b8, b9, b10, x0, x1, x2, ha', hb']
set_option maxRecDepth 100000 in
set_option maxHeartbeats 1000000 in
theorem R29Acquire_any {T : Nat → Prop} {A B : Option Addr} {c k : Nat} (d : Dk Bs) (sp bo n : Int) (L : L3r) (o now : Int) (w : World) (hT : ∀ k, w.heap.size ≤ k → T k) (h : Rdk T w d A c B k) (hl : d.sure.length + d.pend.length ≤ 400) (hf : d.fuse ≤ 9223372036854775807) (hr : Ris d.sure) (hu : fused bln d.shown ≤ 1000000000000) :
    Calls Tryz.prog 102 #[.agg (rrg d A c B k sp bo L n), .int .i64 o, .int .i64 now] w fun e w' => AcR T w w' e (acB d L n sp bo o now).1 (acB d L n sp bo o now).2.1 sp bo (acB d L n sp bo o now).2.2.1 (acB d L n sp bo o now).2.2.2.1 (acB d L n sp bo o now).2.2.2.2 := by
  have hS := (KRk.begin hT h (rrg d A c B k sp bo L n) (0, 0, 0)).toA
  have HK := Lib.hid (fun (x : L3r) (T : Nat → Prop) (W : World) (hT : ∀ j, W.heap.size ≤ j → T j) (h : Rdk T W d A c B k) (hx : lck x = 0) => R29Keep_any d sp bo n L x W hT h hl hf hr hu hx)
  have HG := Lib.hid (fun W => rLGrant_any L.1 L.2.1 L.2.2 o now sp bo W)
  have hac : acB d L n sp bo o now = if (grantL L o now sp bo).2 ≠ 0 then ((0, 0, 0), d, L, n, (grantL L o now sp bo).2) else if (sPut bln ([] : Bs) d lname (lpt (grantL L o now sp bo).1)).2 ≠ 0 then ((0, 0, 0), (sPut bln ([] : Bs) d lname (lpt (grantL L o now sp bo).1)).1, L, n, (sPut bln ([] : Bs) d lname (lpt (grantL L o now sp bo).1)).2) else ((grantL L o now sp bo).1, (sPut bln ([] : Bs) d lname (lpt (grantL L o now sp bo).1)).1, (grantL L o now sp bo).1, wrap64 (n + 1), 0) := rfl
  have hck : (grantL L o now sp bo).2 = 0 → lck (grantL L o now sp bo).1 = 0 := lck_grant
  have HAc := Lib.hid hac
  generalize acB d L n sp bo o now = ac at *
  unfold grantL at HAc hck
  generalize grant L.1 L.2.1 L.2.2 o now sp bo = q at *
  obtain ⟨x1, x2, x3, k1⟩ := q
  dsimp only at HAc hck
  have HC := Lib.hid hck
  clear hac hck hl hf hr hu hT h
  unfold rrg at hS
  obtain ⟨a0, a1, a2, a3, a4, a5, a6, a7, a8, a9, a10⟩ := (hS).mm.b2.elev
  obtain ⟨af0, af1, af2, af3, af4, af5, af6, af7, af8, af9, af10⟩ := (hS).mm.b2.frz
  have HS := Lib.hid hS
  clear hS
  go_enter Tryz.func102, Tryz.ntmps102
  unfold rrg
  go_wp2_with fail
  refine (HG.out _).mono ?_
  rintro e w1 ⟨rfl, hb1⟩
  dsimp only at hb1 ⊢
  have HS1 := Lib.hid (HS.out.call hb1)
  clear HS hb1 HG
  clear a0 a1 a2 a3 a4 a5 a6 a7 a8 a9 a10 af0 af1 af2 af3 af4 af5 af6 af7 af8 af9 af10
  go_upto_region 2 with (fail)
  refine gen1 (T := fun W => KRa T w W (w.heap.size + 1) (w.heap.size + 1 + 1) d A c B k (0, 0, 0) _ rrz ∧ Blk W w1.heap.size 102 #[.int .i64 x1, .int .i64 x2, .int .i64 x3] ∧ w.heap.size + 1 + 1 < w1.heap.size) ⟨HS1.out.call (below_new _ _), Blk.new _ _ _, HS1.out.mm.b0.lt⟩ (fun w2 hT => ?_)
  obtain ⟨hS, hBl, hlt⟩ := hT
  clear HS1
  generalize w1.heap.size = g6 at *
  generalize w.heap.size + 1 + 1 = g2 at *
  generalize w.heap.size + 1 = g1 at *
  by_cases h0 : k1 = 0
  rotate_left
  · have HI := Lib.hid (show ac = ((0, 0, 0), d, L, n, k1) from HAc.out.trans (if_pos h0))
    have hz : ((k1 : Int) != 0) = true := by simpa using h0
    have hz2 : ((k1 : Int) == 0) = false := by simpa using h0
    have HS := Lib.hid hS
    clear h0 HC HK HAc hS hBl hlt
    go_upto_region 5 with (fail)
    have hd : KRa T w w2.drew g1 g2 d A c B k (0, 0, 0) (rrg d A c B k sp bo L n) rrz := HS.out.call (Below.drew (Below.refl _ _))
    have hst := hd.s
    refine wp_region_held_drew (S := (fun W => Blk W w.heap.size 104 (rrg d A c B k sp bo L n) ∧ Below w.heap.size w W)) (by kernel_rfl) ?_ (fun hHeld => ?_)
    · exact hst
    refine gen0 (T := fun W => ((fun W => Blk W w.heap.size 104 (rrg d A c B k sp bo L n) ∧ Below w.heap.size w W)) W ∧ KRa T w W g1 g2 d A c B k (0, 0, 0) (rrg d A c B k sp bo L n) rrz ∧ True) ?_ (fun wq1 hT => ?_)
    · exact ⟨by (with_reducible exact hst), by (with_reducible exact hd), trivial⟩
    (try clear f0 f1 f2 f3 f4 f5 f6 f7 f8 f9 f10 f11)
    obtain ⟨hHeld, f0, -⟩ := hT
    refine wpAnyH_take (i := 0) (oi := ⟨some 33, _, _, _, _, _⟩) (v := ?_) rfl (by kernel_rfl) (by kernel_rfl) (by kernel_rfl) (fun _ _ _ h => h) (Or.inl ⟨by kernel_rfl, ?_⟩) (by assumption) ?_
    rotate_left
    · (intro wS hSw; (try dsimp only at hSw); obtain ⟨a0, a1, a2, a3, a4, a5, a6, a7, a8, a9, a10⟩ := Blk.elev hSw.1; clear hSw; go_simp; (try with_reducible rfl))
    (try simp only [Act.put, List.setIfInBounds_toArray, List.set_cons_zero, List.set_cons_succ])
    refine wpAnyH_take (i := 1) (oi := ⟨some 34, _, _, _, _, _⟩) (v := ?_) rfl (by kernel_rfl) (by kernel_rfl) (by kernel_rfl) (fun _ _ _ h => h) (Or.inl ⟨by kernel_rfl, ?_⟩) (by assumption) ?_
    rotate_left
    · (intro wS hSw; (try dsimp only at hSw); obtain ⟨a0, a1, a2, a3, a4, a5, a6, a7, a8, a9, a10⟩ := Blk.elev hSw.1; clear hSw; go_simp; (try with_reducible rfl))
    (try simp only [Act.put, List.setIfInBounds_toArray, List.set_cons_zero, List.set_cons_succ])
    refine wpAnyH_take (i := 2) (oi := ⟨some 35, _, _, _, _, _⟩) (v := ?_) rfl (by kernel_rfl) (by kernel_rfl) (by kernel_rfl) (fun _ _ _ h => h) (Or.inl ⟨by kernel_rfl, ?_⟩) (by assumption) ?_
    rotate_left
    · (intro wS hSw; (try dsimp only at hSw); obtain ⟨a0, a1, a2, a3, a4, a5, a6, a7, a8, a9, a10⟩ := Blk.elev hSw.1; clear hSw; go_simp; (try with_reducible rfl))
    (try simp only [Act.put, List.setIfInBounds_toArray, List.set_cons_zero, List.set_cons_succ])
    refine wpAnyH_ready (rs := [3]) (by kernel_rfl) (by simp) ?_
    refine AllReadyH.cons (o := ⟨none, _, _, _, _, _⟩) rfl (fun K hK => ?_) AllReadyH.nil
    obtain ⟨s0, s1, s2, s3, s4, s5⟩ := f0.mm.b1.three; (try dsimp only at s0 s1 s2); obtain ⟨t0, t1, t2, t3, t4, t5, t6, t7, t8, t9, t10⟩ := f0.mm.b0.elev; obtain ⟨v0, v1, v2, v3, v4, v5, v6, v7, v8, v9, v10⟩ := f0.mm.b0.frz; ((have hP : (3 : Nat) = 3 := rfl; have hG := KRa.lease f0 0 0 0)); (try dsimp only at hG)
    go_simp
    refine hK.out _ _ ?_ (fun _ => ?_)
    · ((try dsimp only); (with_reducible exact KRa.s hG))
    clear hK K
    (try simp only [Act.put, List.setIfInBounds_toArray, List.set_cons_zero, List.set_cons_succ])
    refine gen0 (T := fun W => ((fun W => Blk W w.heap.size 104 (rrg d A c B k sp bo L n) ∧ Below w.heap.size w W)) W ∧ KRa T w W g1 g2 d A c B k (0, 0, 0) (rrg d A c B k sp bo L n) rrz ∧ True) ?_ (fun wq2 hT => ?_)
    · exact ⟨by (with_reducible exact KRa.s hG), by (with_reducible assumption), trivial⟩
    (try clear f0 f1 f2 f3 f4 f5 f6 f7 f8 f9 f10 f11)
    obtain ⟨hHeld, f0, -⟩ := hT
    refine wpAnyH_ready (rs := [4]) (by kernel_rfl) (by simp) ?_
    refine AllReadyH.cons (o := ⟨none, _, _, _, _, _⟩) rfl (fun K hK => ?_) AllReadyH.nil
    obtain ⟨s0, s1, s2, s3, s4, s5⟩ := f0.mm.b1.three; (try dsimp only at s0 s1 s2); obtain ⟨t0, t1, t2, t3, t4, t5, t6, t7, t8, t9, t10⟩ := f0.mm.b0.elev; obtain ⟨v0, v1, v2, v3, v4, v5, v6, v7, v8, v9, v10⟩ := f0.mm.b0.frz; ((have hG := KRa.res (sp := sp) (bo := bo) (n := n) (L := L) f0; unfold setR at hG)); (try dsimp only at hG)
    go_simp
    refine hK.out _ _ ?_ (fun _ => ?_)
    · ((try dsimp only); (with_reducible exact KRa.s hG))
    clear hK K
    (try simp only [Act.put, List.setIfInBounds_toArray, List.set_cons_zero, List.set_cons_succ])
    refine gen0 (T := fun W => ((fun W => Blk W w.heap.size 104 (rrg d A c B k sp bo L n) ∧ Below w.heap.size w W)) W ∧ KRa T w W g1 g2 d A c B k (0, 0, 0) (rrg d A c B k sp bo L n) (rrg d A c B k sp bo L n) ∧ True) ?_ (fun wq3 hT => ?_)
    · exact ⟨by (with_reducible exact KRa.s hG), by (with_reducible assumption), trivial⟩
    (try clear f0 f1 f2 f3 f4 f5 f6 f7 f8 f9 f10 f11)
    obtain ⟨hHeld, f0, -⟩ := hT
    refine wpAnyH_take (i := 5) (oi := ⟨some 8, _, _, _, _, _⟩) (v := ?_) rfl (by kernel_rfl) (by kernel_rfl) (by kernel_rfl) (fun _ _ _ h => h) (Or.inl ⟨by kernel_rfl, ?_⟩) (by assumption) ?_
    rotate_left
    · (intro wS hSw; (try dsimp only at hSw); obtain ⟨a0, a1, a2, a3, a4, a5, a6, a7, a8, a9, a10⟩ := Blk.elev hSw.1; clear hSw; go_simp; (try with_reducible rfl))
    (try simp only [Act.put, List.setIfInBounds_toArray, List.set_cons_zero, List.set_cons_succ])
    refine wpAnyH_done (by kernel_rfl) ?_ _
    have hb7 := f0.mm.b0
    have hb6 := f0.mm.b1
    unfold rrg at hb7
    go_wp2_with fail
    exact bodyPost_ret (res_lr3 rfl rfl rfl hb6 hb7) rfl (by rw [HI.out]; exact ⟨A, c, B, k, rfl, f0.fin.1, f0.fin.2⟩)
  subst h0
  have hx := HC.out rfl
  replace HAc := Lib.hid (HAc.out.trans (if_neg (by simp)))
  have HK2 := Lib.hid (HK.out (x1, x2, x3) _ _ hS.up4 hS.R hx)
  clear HK HC hx
  dsimp only at HK2
  generalize sPut bln ([] : Bs) d lname (lpt (x1, x2, x3)) = r at *
  obtain ⟨d2, n2⟩ := r
  dsimp only at HK2 HAc
  generalize hL2 : (if n2 = 0 then ((x1, x2, x3) : L3r) else L) = L2 at *
  have HL2 := Lib.hid hL2
  clear hL2
  obtain ⟨a0, a1, a2, a3, a4, a5, a6, a7, a8, a9, a10⟩ := (hS).mm.b2.elev
  obtain ⟨af0, af1, af2, af3, af4, af5, af6, af7, af8, af9, af10⟩ := (hS).mm.b2.frz
  obtain ⟨l0, l1, l2, -, -, -⟩ := hBl.three
  have HS := Lib.hid hS
  have HBl := Lib.hid hBl
  clear hS hBl
  go_wp2_with fail
  refine HK2.out.mono ?_
  rintro e w3 ⟨A2, c2, B2, k2, rfl, hR3, hb3⟩
  have hS := HS.out.call hb3
  have hBl := HBl.out.below hb3
  have HSr := Lib.hid (KRa.reg (sp := sp) (bo := bo) (L := L) (n := n) (sp' := sp) (bo' := bo) (L' := L2) (n' := n) hS hR3)
  have hne : g6 ≠ w.heap.size := by have := HS.out.e2; omega
  have HBr := Lib.hid (hBl.wr (wr_setR w3 w.heap.size d2 A2 c2 B2 k2 sp bo L2 n) hne)
  unfold setR at HSr HBr
  clear HK2 HS HBl hb3 hR3 l0 l1 l2
  clear a0 a1 a2 a3 a4 a5 a6 a7 a8 a9 a10 af0 af1 af2 af3 af4 af5 af6 af7 af8 af9 af10
  obtain ⟨a0, a1, a2, a3, a4, a5, a6, a7, a8, a9, a10⟩ := (hS).mm.b2.elev
  obtain ⟨af0, af1, af2, af3, af4, af5, af6, af7, af8, af9, af10⟩ := (hS).mm.b2.frz
  clear hS hBl
  unfold rrg
  go_upto_region 4 with (fail)
  refine gen1 (T := fun W => KRa T w W g1 g2 d2 A2 c2 B2 k2 (0, 0, 0) (rrg d2 A2 c2 B2 k2 sp bo L2 n) rrz ∧ Blk W g6 102 #[.int .i64 x1, .int .i64 x2, .int .i64 x3]) ⟨HSr.out, HBr.out⟩ (fun w2 hT => ?_)
  clear HSr HBr
  clear a0 a1 a2 a3 a4 a5 a6 a7 a8 a9 a10 af0 af1 af2 af3 af4 af5 af6 af7 af8 af9 af10
  obtain ⟨hS, hBl⟩ := hT
  by_cases h0 : n2 = 0
  rotate_left
  · have HI := Lib.hid (HAc.out.trans (if_pos h0))
    have hz : ((n2 : Int) != 0) = true := by simpa using h0
    have hLL : L = L2 := (HL2.out.symm.trans (if_neg h0)).symm
    subst hLL
    have HS := Lib.hid hS
    clear h0 HAc hS hBl hlt HL2 hne
    go_upto_region 5 with (fail)
    have hd : KRa T w w2.drew g1 g2 d2 A2 c2 B2 k2 (0, 0, 0) (rrg d2 A2 c2 B2 k2 sp bo L n) rrz := HS.out.call (Below.drew (Below.refl _ _))
    have hst := hd.s
    refine wp_region_held_drew (S := (fun W => Blk W w.heap.size 104 (rrg d2 A2 c2 B2 k2 sp bo L n) ∧ Below w.heap.size w W)) (by kernel_rfl) ?_ (fun hHeld => ?_)
    · exact hst
    refine gen0 (T := fun W => ((fun W => Blk W w.heap.size 104 (rrg d2 A2 c2 B2 k2 sp bo L n) ∧ Below w.heap.size w W)) W ∧ KRa T w W g1 g2 d2 A2 c2 B2 k2 (0, 0, 0) (rrg d2 A2 c2 B2 k2 sp bo L n) rrz ∧ True) ?_ (fun wq1 hT => ?_)
    · exact ⟨by (with_reducible exact hst), by (with_reducible exact hd), trivial⟩
    (try clear f0 f1 f2 f3 f4 f5 f6 f7 f8 f9 f10 f11)
    obtain ⟨hHeld, f0, -⟩ := hT
    refine wpAnyH_take (i := 0) (oi := ⟨some 33, _, _, _, _, _⟩) (v := ?_) rfl (by kernel_rfl) (by kernel_rfl) (by kernel_rfl) (fun _ _ _ h => h) (Or.inl ⟨by kernel_rfl, ?_⟩) (by assumption) ?_
    rotate_left
    · (intro wS hSw; (try dsimp only at hSw); obtain ⟨a0, a1, a2, a3, a4, a5, a6, a7, a8, a9, a10⟩ := Blk.elev hSw.1; clear hSw; go_simp; (try with_reducible rfl))
    (try simp only [Act.put, List.setIfInBounds_toArray, List.set_cons_zero, List.set_cons_succ])
    refine wpAnyH_take (i := 1) (oi := ⟨some 34, _, _, _, _, _⟩) (v := ?_) rfl (by kernel_rfl) (by kernel_rfl) (by kernel_rfl) (fun _ _ _ h => h) (Or.inl ⟨by kernel_rfl, ?_⟩) (by assumption) ?_
    rotate_left
    · (intro wS hSw; (try dsimp only at hSw); obtain ⟨a0, a1, a2, a3, a4, a5, a6, a7, a8, a9, a10⟩ := Blk.elev hSw.1; clear hSw; go_simp; (try with_reducible rfl))
    (try simp only [Act.put, List.setIfInBounds_toArray, List.set_cons_zero, List.set_cons_succ])
    refine wpAnyH_take (i := 2) (oi := ⟨some 35, _, _, _, _, _⟩) (v := ?_) rfl (by kernel_rfl) (by kernel_rfl) (by kernel_rfl) (fun _ _ _ h => h) (Or.inl ⟨by kernel_rfl, ?_⟩) (by assumption) ?_
    rotate_left
    · (intro wS hSw; (try dsimp only at hSw); obtain ⟨a0, a1, a2, a3, a4, a5, a6, a7, a8, a9, a10⟩ := Blk.elev hSw.1; clear hSw; go_simp; (try with_reducible rfl))
    (try simp only [Act.put, List.setIfInBounds_toArray, List.set_cons_zero, List.set_cons_succ])
    refine wpAnyH_ready (rs := [3]) (by kernel_rfl) (by simp) ?_
    refine AllReadyH.cons (o := ⟨none, _, _, _, _, _⟩) rfl (fun K hK => ?_) AllReadyH.nil
    obtain ⟨s0, s1, s2, s3, s4, s5⟩ := f0.mm.b1.three; (try dsimp only at s0 s1 s2); obtain ⟨t0, t1, t2, t3, t4, t5, t6, t7, t8, t9, t10⟩ := f0.mm.b0.elev; obtain ⟨v0, v1, v2, v3, v4, v5, v6, v7, v8, v9, v10⟩ := f0.mm.b0.frz; ((have hP : (3 : Nat) = 3 := rfl; have hG := KRa.lease f0 0 0 0)); (try dsimp only at hG)
    go_simp
    refine hK.out _ _ ?_ (fun _ => ?_)
    · ((try dsimp only); (with_reducible exact KRa.s hG))
    clear hK K
    (try simp only [Act.put, List.setIfInBounds_toArray, List.set_cons_zero, List.set_cons_succ])
    refine gen0 (T := fun W => ((fun W => Blk W w.heap.size 104 (rrg d2 A2 c2 B2 k2 sp bo L n) ∧ Below w.heap.size w W)) W ∧ KRa T w W g1 g2 d2 A2 c2 B2 k2 (0, 0, 0) (rrg d2 A2 c2 B2 k2 sp bo L n) rrz ∧ True) ?_ (fun wq2 hT => ?_)
    · exact ⟨by (with_reducible exact KRa.s hG), by (with_reducible assumption), trivial⟩
    (try clear f0 f1 f2 f3 f4 f5 f6 f7 f8 f9 f10 f11)
    obtain ⟨hHeld, f0, -⟩ := hT
    refine wpAnyH_ready (rs := [4]) (by kernel_rfl) (by simp) ?_
    refine AllReadyH.cons (o := ⟨none, _, _, _, _, _⟩) rfl (fun K hK => ?_) AllReadyH.nil
    obtain ⟨s0, s1, s2, s3, s4, s5⟩ := f0.mm.b1.three; (try dsimp only at s0 s1 s2); obtain ⟨t0, t1, t2, t3, t4, t5, t6, t7, t8, t9, t10⟩ := f0.mm.b0.elev; obtain ⟨v0, v1, v2, v3, v4, v5, v6, v7, v8, v9, v10⟩ := f0.mm.b0.frz; ((have hG := KRa.res (sp := sp) (bo := bo) (n := n) (L := L) f0; unfold setR at hG)); (try dsimp only at hG)
    go_simp
    refine hK.out _ _ ?_ (fun _ => ?_)
    · ((try dsimp only); (with_reducible exact KRa.s hG))
    clear hK K
    (try simp only [Act.put, List.setIfInBounds_toArray, List.set_cons_zero, List.set_cons_succ])
    refine gen0 (T := fun W => ((fun W => Blk W w.heap.size 104 (rrg d2 A2 c2 B2 k2 sp bo L n) ∧ Below w.heap.size w W)) W ∧ KRa T w W g1 g2 d2 A2 c2 B2 k2 (0, 0, 0) (rrg d2 A2 c2 B2 k2 sp bo L n) (rrg d2 A2 c2 B2 k2 sp bo L n) ∧ True) ?_ (fun wq3 hT => ?_)
    · exact ⟨by (with_reducible exact KRa.s hG), by (with_reducible assumption), trivial⟩
    (try clear f0 f1 f2 f3 f4 f5 f6 f7 f8 f9 f10 f11)
    obtain ⟨hHeld, f0, -⟩ := hT
    refine wpAnyH_take (i := 5) (oi := ⟨some 8, _, _, _, _, _⟩) (v := ?_) rfl (by kernel_rfl) (by kernel_rfl) (by kernel_rfl) (fun _ _ _ h => h) (Or.inl ⟨by kernel_rfl, ?_⟩) (by assumption) ?_
    rotate_left
    · (intro wS hSw; (try dsimp only at hSw); obtain ⟨a0, a1, a2, a3, a4, a5, a6, a7, a8, a9, a10⟩ := Blk.elev hSw.1; clear hSw; go_simp; (try with_reducible rfl))
    (try simp only [Act.put, List.setIfInBounds_toArray, List.set_cons_zero, List.set_cons_succ])
    refine wpAnyH_done (by kernel_rfl) ?_ _
    have hb7 := f0.mm.b0
    have hb6 := f0.mm.b1
    unfold rrg at hb7
    go_wp2_with fail
    exact bodyPost_ret (res_lr3 rfl rfl rfl hb6 hb7) rfl (by rw [HI.out]; exact ⟨A2, c2, B2, k2, rfl, f0.fin.1, f0.fin.2⟩)
  subst h0
  have HI := Lib.hid (HAc.out.trans (if_neg (by simp)))
  have hLL : ((x1, x2, x3) : L3r) = L2 := (HL2.out.symm.trans (if_pos rfl)).symm
  subst hLL
  have hn1 : g1 ≠ g6 := by have := hS.e1; have := hS.e2; omega
  have hn2 : g2 ≠ g6 := by have := hS.e2; omega
  have HSi := Lib.hid (KRa.inc (sp := sp) (bo := bo) (L := (x1, x2, x3)) (n := n) hS (wrap64 (n + 1)))
  have HBi := Lib.hid (hBl.wr ((Wr.refl w2 w.heap.size).set_ 10 (.int .i64 (wrap64 (n + 1)))) hne)
  obtain ⟨a0, a1, a2, a3, a4, a5, a6, a7, a8, a9, a10⟩ := (hS).mm.b2.elev
  obtain ⟨af0, af1, af2, af3, af4, af5, af6, af7, af8, af9, af10⟩ := (hS).mm.b2.frz
  clear hS hBl HAc HL2 hlt hne
  go_upto_region 7 with (fail)
  refine gen1 (T := fun W => KRa T w W g1 g2 d2 A2 c2 B2 k2 (0, 0, 0) (rrg d2 A2 c2 B2 k2 sp bo (x1, x2, x3) (wrap64 (n + 1))) rrz ∧ Blk W g6 102 #[.int .i64 x1, .int .i64 x2, .int .i64 x3]) ⟨HSi.out, HBi.out⟩ (fun w4 hT => ?_)
  clear HSi HBi
  clear a0 a1 a2 a3 a4 a5 a6 a7 a8 a9 a10 af0 af1 af2 af3 af4 af5 af6 af7 af8 af9 af10
  generalize wrap64 (n + 1) = n3 at *
  obtain ⟨hS, hBl⟩ := hT
  have hd : KRa T w w4.drew g1 g2 d2 A2 c2 B2 k2 (0, 0, 0) (rrg d2 A2 c2 B2 k2 sp bo (x1, x2, x3) n3) rrz := hS.call (Below.drew (Below.refl _ _))
  have hst : Blk w4.drew g6 102 #[.int .i64 x1, .int .i64 x2, .int .i64 x3] ∧ Blk w4.drew w.heap.size 104 (rrg d2 A2 c2 B2 k2 sp bo (x1, x2, x3) n3) ∧ Below w.heap.size w w4.drew := ⟨hBl.drew, hd.s⟩
  clear hS hBl
  refine wp_region_held_drew (S := (fun W => Blk W g6 102 #[.int .i64 x1, .int .i64 x2, .int .i64 x3] ∧ Blk W w.heap.size 104 (rrg d2 A2 c2 B2 k2 sp bo (x1, x2, x3) n3) ∧ Below w.heap.size w W)) (by kernel_rfl) ?_ (fun hHeld => ?_)
  · exact hst
  refine gen0 (T := fun W => ((fun W => Blk W g6 102 #[.int .i64 x1, .int .i64 x2, .int .i64 x3] ∧ Blk W w.heap.size 104 (rrg d2 A2 c2 B2 k2 sp bo (x1, x2, x3) n3) ∧ Below w.heap.size w W)) W ∧ KRa T w W g1 g2 d2 A2 c2 B2 k2 (0, 0, 0) (rrg d2 A2 c2 B2 k2 sp bo (x1, x2, x3) n3) rrz ∧ True) ?_ (fun wq1 hT => ?_)
  · exact ⟨by (with_reducible exact hst), by (with_reducible exact hd), trivial⟩
  (try clear f0 f1 f2 f3 f4 f5 f6 f7 f8 f9 f10 f11)
  obtain ⟨hHeld, f0, -⟩ := hT
  refine wpAnyH_take (i := 0) (oi := ⟨some 40, _, _, _, _, _⟩) (v := ?_) rfl (by kernel_rfl) (by kernel_rfl) (by kernel_rfl) (fun _ _ _ h => h) (Or.inl ⟨by kernel_rfl, ?_⟩) (by assumption) ?_
  rotate_left
  · (intro wS hSw; (try dsimp only at hSw); obtain ⟨a0, a1, a2, a3, a4, a5, a6, a7, a8, a9, a10⟩ := Blk.elev hSw.2.1; obtain ⟨l0, l1, l2, -, -, -⟩ := hSw.1.three; clear hSw; go_simp; (try with_reducible rfl))
  (try simp only [Act.put, List.setIfInBounds_toArray, List.set_cons_zero, List.set_cons_succ])
  refine wpAnyH_take (i := 1) (oi := ⟨some 41, _, _, _, _, _⟩) (v := ?_) rfl (by kernel_rfl) (by kernel_rfl) (by kernel_rfl) (fun _ _ _ h => h) (Or.inl ⟨by kernel_rfl, ?_⟩) (by assumption) ?_
  rotate_left
  · (intro wS hSw; (try dsimp only at hSw); obtain ⟨a0, a1, a2, a3, a4, a5, a6, a7, a8, a9, a10⟩ := Blk.elev hSw.2.1; obtain ⟨l0, l1, l2, -, -, -⟩ := hSw.1.three; clear hSw; go_simp; (try with_reducible rfl))
  (try simp only [Act.put, List.setIfInBounds_toArray, List.set_cons_zero, List.set_cons_succ])
  refine wpAnyH_ready (rs := [2]) (by kernel_rfl) (by simp) ?_
  refine AllReadyH.cons (o := ⟨none, _, _, _, _, _⟩) rfl (fun K hK => ?_) AllReadyH.nil
  obtain ⟨s0, s1, s2, s3, s4, s5⟩ := f0.mm.b1.three; (try dsimp only at s0 s1 s2); obtain ⟨t0, t1, t2, t3, t4, t5, t6, t7, t8, t9, t10⟩ := f0.mm.b0.elev; obtain ⟨v0, v1, v2, v3, v4, v5, v6, v7, v8, v9, v10⟩ := f0.mm.b0.frz; ((have hP : (2 : Nat) = 2 := rfl; have hG := KRa.lease f0 x1 x2 x3; have hH := hHeld.1.wr ((((Wr.refl _ g1).set_ 0 (.int .i64 x1)).set_ 1 (.int .i64 x2)).set_ 2 (.int .i64 x3)) hn1.symm)); (try dsimp only at hG hH)
  go_simp
  refine hK.out _ _ ?_ (fun _ => ?_)
  · ((try dsimp only); (with_reducible exact ⟨hH, KRa.s hG⟩))
  clear hK K
  (try simp only [Act.put, List.setIfInBounds_toArray, List.set_cons_zero, List.set_cons_succ])
  refine gen0 (T := fun W => ((fun W => Blk W g6 102 #[.int .i64 x1, .int .i64 x2, .int .i64 x3] ∧ Blk W w.heap.size 104 (rrg d2 A2 c2 B2 k2 sp bo (x1, x2, x3) n3) ∧ Below w.heap.size w W)) W ∧ KRa T w W g1 g2 d2 A2 c2 B2 k2 (x1, x2, x3) (rrg d2 A2 c2 B2 k2 sp bo (x1, x2, x3) n3) rrz ∧ True) ?_ (fun wq2 hT => ?_)
  · exact ⟨by (with_reducible exact ⟨hH, KRa.s hG⟩), by (with_reducible assumption), trivial⟩
  (try clear f0 f1 f2 f3 f4 f5 f6 f7 f8 f9 f10 f11)
  obtain ⟨hHeld, f0, -⟩ := hT
  refine wpAnyH_ready (rs := [3]) (by kernel_rfl) (by simp) ?_
  refine AllReadyH.cons (o := ⟨none, _, _, _, _, _⟩) rfl (fun K hK => ?_) AllReadyH.nil
  obtain ⟨s0, s1, s2, s3, s4, s5⟩ := f0.mm.b1.three; (try dsimp only at s0 s1 s2); obtain ⟨t0, t1, t2, t3, t4, t5, t6, t7, t8, t9, t10⟩ := f0.mm.b0.elev; obtain ⟨v0, v1, v2, v3, v4, v5, v6, v7, v8, v9, v10⟩ := f0.mm.b0.frz; ((have hG := KRa.res (sp := sp) (bo := bo) (n := n3) (L := (x1, x2, x3)) f0; have hH := hHeld.1.wr (wr_setR _ g2 d2 A2 c2 B2 k2 sp bo (x1, x2, x3) n3) hn2.symm; unfold setR at hG hH)); (try dsimp only at hG hH)
  go_simp
  refine hK.out _ _ ?_ (fun _ => ?_)
  · ((try dsimp only); (with_reducible exact ⟨hH, KRa.s hG⟩))
  clear hK K
  (try simp only [Act.put, List.setIfInBounds_toArray, List.set_cons_zero, List.set_cons_succ])
  refine gen0 (T := fun W => ((fun W => Blk W g6 102 #[.int .i64 x1, .int .i64 x2, .int .i64 x3] ∧ Blk W w.heap.size 104 (rrg d2 A2 c2 B2 k2 sp bo (x1, x2, x3) n3) ∧ Below w.heap.size w W)) W ∧ KRa T w W g1 g2 d2 A2 c2 B2 k2 (x1, x2, x3) (rrg d2 A2 c2 B2 k2 sp bo (x1, x2, x3) n3) (rrg d2 A2 c2 B2 k2 sp bo (x1, x2, x3) n3) ∧ True) ?_ (fun wq3 hT => ?_)
  · exact ⟨by (with_reducible exact ⟨hH, KRa.s hG⟩), by (with_reducible assumption), trivial⟩
  (try clear f0 f1 f2 f3 f4 f5 f6 f7 f8 f9 f10 f11)
  obtain ⟨hHeld, f0, -⟩ := hT
  refine wpAnyH_take (i := 4) (oi := ⟨some 8, _, _, _, _, _⟩) (v := ?_) rfl (by kernel_rfl) (by kernel_rfl) (by kernel_rfl) (fun _ _ _ h => h) (Or.inl ⟨by kernel_rfl, ?_⟩) (by assumption) ?_
  rotate_left
  · (intro wS hSw; (try dsimp only at hSw); obtain ⟨a0, a1, a2, a3, a4, a5, a6, a7, a8, a9, a10⟩ := Blk.elev hSw.2.1; obtain ⟨l0, l1, l2, -, -, -⟩ := hSw.1.three; clear hSw; go_simp; (try with_reducible rfl))
  (try simp only [Act.put, List.setIfInBounds_toArray, List.set_cons_zero, List.set_cons_succ])
  refine wpAnyH_done (by kernel_rfl) ?_ _
  have hb7 := f0.mm.b0
  have hb6 := f0.mm.b1
  unfold rrg at hb7
  go_wp2_with fail
  exact bodyPost_ret (res_lr3 rfl rfl rfl hb6 hb7) rfl (by rw [HI.out]; exact ⟨A2, c2, B2, k2, rfl, f0.fin.1, f0.fin.2⟩)
end Go.Proofs.YtddmfoldnlafaaaGreatDoor

namespace Go.Proofs.YtddmfoldnlafaaaGreatDoor
open Go.RowKit Go.Maps Go.Sort

theorem rgKeep_map {d : Dk Sv} {x : L3r} {A : Option Addr} {c : Nat} (h : lck x = 0) : sPut bln ([] : Bs) (d.map Sv.l) lname (lpt x) = ((rgKeep d x A c).1.map Sv.l, (rgKeep d x A c).2) := by
  have h1 : rgKeep d x A c = sPut svl Sv.nil d lname ⟨A, c, lpt x⟩ := if_neg (by rw [h]; simp)
  rw [h1]
  exact sPut_map d lname ⟨A, c, lpt x⟩
theorem gvB_of {d d' : Dk Sv} {L L' : L3r} {o : Int} {k : Nat} (h : GivO d L o k d' L') : gvB (d.map Sv.l) L o = (d'.map Sv.l, L', k) := by
  cases h with
  | no h => exact if_pos h
  | gave A c h =>
    have h1 : gvB (d.map Sv.l) L o = ((sPut bln ([] : Bs) (d.map Sv.l) lname (lpt (giveL L o).1)).1, if (sPut bln ([] : Bs) (d.map Sv.l) lname (lpt (giveL L o).1)).2 = 0 then (giveL L o).1 else L, (sPut bln ([] : Bs) (d.map Sv.l) lname (lpt (giveL L o).1)).2) := if_neg (by rw [h]; simp)
    rw [h1, rgKeep_map (A := A) (c := c) (lck_give h)]
theorem acB_of {d d' : Dk Sv} {L L' ret : L3r} {n n' sp bo o now : Int} {k : Nat} (h : AcqO d L n sp bo o now ret k d' L' n') : acB (d.map Sv.l) L n sp bo o now = (ret, d'.map Sv.l, L', n', k) := by
  cases h with
  | no h => exact if_pos h
  | bad A c h h2 =>
    unfold acB
    rw [if_neg (by rw [h]; simp), rgKeep_map (A := A) (c := c) (lck_grant h)]
    exact if_pos h2
  | ok A c h h2 =>
    unfold acB
    rw [if_neg (by rw [h]; simp), rgKeep_map (A := A) (c := c) (lck_grant h)]
    exact if_neg (by dsimp only; rw [h2]; simp)
theorem sGetK_mapR (d : Dk Sv) (n : Bs) : sGetK (d.map Sv.l) n = (((sGet d n).1.map Sv.l).getD [], (sGet d n).2) := by
  unfold sGetK sGet
  by_cases h : snamed n = false
  · rw [if_pos h, if_pos h]
    rfl
  · rw [if_neg h, if_neg h]
    exact rRead_map d n
theorem rgOpenB_of (d : Dk Sv) (sp bo : Int) : rgOpenB (d.map Sv.l) sp bo = ((rgOpen d sp bo).1.map Sv.l, (rgOpen d sp bo).2.1, (rgOpen d sp bo).2.2) := by
  unfold rgOpenB rgOpen
  by_cases h1 : rgBad sp bo
  · rw [if_pos h1, if_pos h1]
  rw [if_neg h1, if_neg h1, sOpen_map]
  dsimp only
  by_cases h2 : (sOpen Sv.nil d).2 ≠ 0
  · rw [if_pos h2, if_pos h2]
  rw [if_neg h2, if_neg h2]
  have h3 : rgReadB ((sOpen Sv.nil d).1.map Sv.l) = rgRead (sOpen Sv.nil d).1 := by
    rw [rgReadB_eq, sGetK_mapR]
    rfl
  rw [h3]
end Go.Proofs.YtddmfoldnlafaaaGreatDoor

namespace Go.Proofs.YtddmfoldnlafaaaGreatDoor
open Go.RowKit Go.Maps Go.Sort
attribute [local go_sem ↓] Go.wp_at_zero Go.wp_at_succ

theorem RgLoad_any {g : Nat} {n : Int} (w : World) (hc : w.cell? ⟨g, 6, none⟩ = some (.int .i64 n)) :
    Calls Tryz.prog 98 #[.pointer (some ⟨g, 6, none⟩)] w fun e w' => e = .returned (.int .i64 n) ∧ w' = w := by
  have hd := run_call_load (P := Tryz.prog) (f := 145) Tryz.func145 (by kernel_rfl) (by kernel_rfl) (by kernel_rfl) .i64 (by kernel_rfl) hc
  go_enter Tryz.func98, Tryz.ntmps98
  go_wp2_with fail
  go_ret
  exact ⟨rfl, rfl⟩
theorem SDiskR_any {w : World} {gs : Nat} {q : Fp} {d : Dk Sv} (h : StM w gs q d) : Calls Tryz.prog 99 #[.pointer (some ⟨gs, 0, none⟩)] w fun e w' => e = .returned (.pointer (some ⟨q.g, 0, none⟩)) ∧ w' = w := by
  have hc := h.cl
  go_enter Tryz.func99, Tryz.ntmps99
  go_wp2_with fail
  go_ret
  exact ⟨rfl, rfl⟩
section
variable {w : World} {gr gs : Nat} {q : Fp} {d : Dk Sv} {sp bo n : Int} {L : L3r}
theorem RDisk_any (h : RgM w gr gs q d sp bo L n) : Calls Tryz.prog 42 #[.pointer (some ⟨gr, 0, none⟩)] w fun e w' => e = .returned (.pointer (some ⟨q.g, 0, none⟩)) ∧ w' = w := by
  have HD := Lib.hid (SDiskR_any h.st)
  obtain ⟨x0, -⟩ := h.blk.sevC
  clear h
  go_enter Tryz.func42, Tryz.ntmps42
  go_wp2_with fail
  refine HD.out.mono ?_
  rintro e w1 ⟨rfl, rfl⟩
  go_wp2_with fail
  go_ret
  exact ⟨rfl, rfl⟩
theorem RGrants_any (h : RgM w gr gs q d sp bo L n) : Calls Tryz.prog 41 #[.pointer (some ⟨gr, 0, none⟩)] w fun e w' => e = .returned (.int .i64 n) ∧ w' = w := by
  obtain ⟨x0, x1, x2, x3, x4, x5, x6⟩ := h.blk.sevC
  have HD := Lib.hid (RgLoad_any w x6)
  clear h
  go_enter Tryz.func41, Tryz.ntmps41
  go_wp2_with fail
  refine HD.out.mono ?_
  rintro e w1 ⟨rfl, rfl⟩
  go_wp2_with fail
  go_ret
  exact ⟨rfl, rfl⟩
theorem RDisk_nil (w : World) : Calls Tryz.prog 42 #[.pointer none] w fun e w' => e = .returned (.pointer none) ∧ w' = w := by
  go_enter Tryz.func42, Tryz.ntmps42
  go_wp2_with fail
  go_ret
  exact ⟨rfl, rfl⟩
theorem RGrants_nil (w : World) : Calls Tryz.prog 41 #[.pointer none] w fun e w' => e = .returned (.int .i64 0) ∧ w' = w := by
  go_enter Tryz.func41, Tryz.ntmps41
  go_wp2_with fail
  go_ret
  exact ⟨rfl, rfl⟩
end
end Go.Proofs.YtddmfoldnlafaaaGreatDoor

namespace Go.Proofs.YtddmfoldnlafaaaGreatDoor
open Go.RowKit Go.Maps Go.Sort
attribute [local go_sem ↓] Go.wp_at_zero Go.wp_at_succ

section
variable {w W W' : World} {g b i : Nat} {q : Fp} {d : Dk Sv} {A B : Option Addr} {c k : Nat}
end
end Go.Proofs.YtddmfoldnlafaaaGreatDoor

namespace Go.Proofs.YtddmfoldnlafaaaGreatDoor
open Go.RowKit Go.Maps Go.Sort
attribute [local go_sem ↓] Go.wp_at_zero Go.wp_at_succ

section
variable {P : Nat → Prop} {w W W' : World} {q0 q q' : Fp} {gs gs' : Nat} {d d' : Dk Sv} {O : Option Addr} {co : Nat} {own : Bs} {m m' : Dk Bs} {A A' B B' : Option Addr} {c c' k k' : Nat} {x : SA}
end
theorem Nmd.mapD {d : Dk Sv} (h : Nmd d) : Nmd (d.map Sv.l) := by
  refine ⟨fun p hp => ?_, fun c hc => ?_⟩
  · obtain ⟨p0, h0, rfl⟩ := List.mem_map.1 hp
    exact h.1 p0 h0
  · obtain ⟨c0, h0, rfl⟩ := List.mem_map.1 hc
    exact h.2 c0 h0
theorem kind8 (k : Int) : (IntKind.u64.wrap k).tmod 8 = 0 ∨ (IntKind.u64.wrap k).tmod 8 = 1 ∨ (IntKind.u64.wrap k).tmod 8 = 2 ∨ (IntKind.u64.wrap k).tmod 8 = 3 ∨ (IntKind.u64.wrap k).tmod 8 = 4 ∨ (IntKind.u64.wrap k).tmod 8 = 5 ∨ (IntKind.u64.wrap k).tmod 8 = 6 ∨ (IntKind.u64.wrap k).tmod 8 = 7 := by
  have h : IntKind.u64.wrap k = k % 18446744073709551616 := rfl
  rw [h, Int.tmod_eq_emod_of_nonneg (by omega)]
  omega
end Go.Proofs.YtddmfoldnlafaaaGreatDoor
