/- WHAT IT HOLDS: the memory of the law RegisterAlone. | WHAT IT HOLDS: a register's lease acquired: walked. -/
import Derived.Test.YtddmfoldnlafaaaGreatDoorRegisterAloneG28
import Derived.Test.YtddmfoldnlafaaaGreatDoorRegisterAloneG29
import Derived.Test.YtddmfoldnlafaaaGreatDoorRegisterAloneG17
namespace Go.Proofs.YtddmfoldnlafaaaGreatDoor
open Go.RowKit Go.Maps Go.Sort

theorem Blk.castV {w : World} {g : Nat} {t : TypeId} {cs cs' : Array Value} (h : Blk w g t cs) (e : cs = cs') : Blk w g t cs' := e ▸ h
/-- what is remembered, as cells -/
abbrev knc (k1 k2 : L3r) : Array Value := #[iv 0, iv 0, iv 0, iv k1.1, iv k1.2.1, iv k1.2.2, iv k2.1, iv k2.2.1, iv k2.2.2]
theorem knc_nob {k1 k2 : L3r} (o : Nat) (x : UInt8) : (knc k1 k2)[o]? ≠ some (bv x) := by
  intro h
  unfold knc at h
  match o with
  | 0 => simp at h
  | 1 => simp at h
  | 2 => simp at h
  | 3 => simp at h
  | 4 => simp at h
  | 5 => simp at h
  | 6 => simp at h
  | 7 => simp at h
  | 8 => simp at h
  | k + 9 => simp at h
theorem map_same {w w' : World} {b n : Nat} {D : DataW Unit} (h : w.ownsMap Tryz.prog 3 (plainElem Tryz.prog 3) b n D) (he : w'.heap[b]? = w.heap[b]?) : w'.ownsMap Tryz.prog 3 (plainElem Tryz.prog 3) b n D := by
  obtain ⟨es, clock, hb, F⟩ := h
  exact ⟨es, clock, he.trans hb, F⟩
/-- no value lies in a map's block -/
theorem Dsk.offM {w : World} {q : Fp} {d : Dk Sv} {b n : Nat} {D : DataW Unit} (h : Dsk w q d) (hM : w.ownsMap Tryz.prog 3 (plainElem Tryz.prog 3) b n D) : ∀ s ∈ svs d, s.l ≠ [] → ∀ ad, s.A = some ad → ad.block ≠ b := by
  intro s hs hne ad hA e
  obtain ⟨es, clock, hb, F⟩ := hM
  have hS := h.rd s hs
  obtain ⟨ad2, hA2, hc⟩ := Sl.at1 (f := bv) (l := s.l) hS (k := 0) (List.length_pos_iff.2 hne)
  rw [hA] at hA2
  injection hA2 with hA2
  subst hA2
  have hbl : (ad.add 0).block = b := by rw [addr_add_block]; exact e
  unfold World.cell? at hc
  rw [hbl, hb] at hc
  cases hc
/-- the register, and beside it what both remember, their clocks, the owners of epochs -/
structure AgS (w W : World) (g tb b : Nat) (t0 t1 : Int) (q : Fp) (gr gs : Nat) (d : Dk Sv) (L : L3r) (n : Int) (k1 k2 : L3r) (n1 n2 : Int) (D : DataW Unit) (cnt : Nat) : Prop where
  g : q.g = g
  m : RgM W gr gs q d t0 t1 L n
  fk : Fok d
  fro : Fro w W q
  grl : w.heap.size ≤ gr
  tm : Off W q gr tb 48 #[.int .i64 t0, .int .i64 t1]
  bk : Off W q gr b 57 (knc k1 k2)
  bn : Off W q gr (b + 1) 58 #[iv 0, iv n1, iv n2]
  mp : W.ownsMap Tryz.prog 3 (plainElem Tryz.prog 3) (b + 1 + 1) cnt D
  mo : ¬ q.M (b + 1 + 1) ∧ b + 1 + 1 ≠ gr
  lo : w.heap.size ≤ b ∧ tb < b ∧ gs ≠ b ∧ gs ≠ b + 1 ∧ gs ≠ b + 1 + 1
section
variable {w W W' : World} {g tb b : Nat} {t0 t1 : Int} {q q' : Fp} {gr gs gr' gs' : Nat} {d d' : Dk Sv} {L L' : L3r} {n n' : Int} {k1 k2 x1 x2 : L3r} {n1 n2 m1 m2 : Int} {D D' : DataW Unit} {cnt : Nat}
theorem AgS.call (h : AgS w W g tb b t0 t1 q gr gs d L n k1 k2 n1 n2 D cnt) (hb : Below W.heap.size W W') : AgS w W' g tb b t0 t1 q gr gs d L n k1 k2 n1 n2 D cnt :=
  ⟨h.g, h.m.below hb, h.fk, h.fro.call hb, h.grl, h.tm.below hb, h.bk.below hb, h.bn.below hb, map_same h.mp (hb.block _ h.mp.lt), h.mo, h.lo⟩
/-- the register acts -/
theorem AgS.rg (h : AgS w W g tb b t0 t1 q gr gs d L n k1 k2 n1 n2 D cnt) (hf : Fok d') (hg : q'.g = q.g) (hR : RgM W' gr gs q' d' t0 t1 L' n') (hF : Frg q gr W W') (hM : ∀ j, q'.M j → q.M j ∨ W.heap.size ≤ j) : AgS w W' g tb b t0 t1 q' gr gs d' L' n' k1 k2 n1 n2 D cnt := by
  have hlt := h.mp.lt
  refine ⟨hg.trans h.g, hR, hf, h.fro.frg hF hM h.grl, h.grl, h.tm.frg hF hM, h.bk.frg hF hM, h.bn.frg hF hM, map_same h.mp (hF.block _ hlt h.mo.1 h.mo.2), ⟨fun hq => ?_, h.mo.2⟩, h.lo⟩
  rcases hM _ hq with h1 | h1
  · exact h.mo.1 h1
  · omega
/-- the disk acts -/
theorem AgS.act (h : AgS w W g tb b t0 t1 q gr gs d L n k1 k2 n1 n2 D cnt) (hf : Fok d') (hg : q'.g = q.g) (hD : Dsk W' q' d') (hF : Frd q W W') (hM : ∀ j, q'.M j → q.M j ∨ W.heap.size ≤ j) : AgS w W' g tb b t0 t1 q' gr gs d' L n k1 k2 n1 n2 D cnt :=
  h.rg hf hg (h.m.act hg hD hF hM) (Frg.of gr hF) hM
/-- another register on the same disk -/
theorem AgS.reg (h : AgS w W g tb b t0 t1 q gr gs d L n k1 k2 n1 n2 D cnt) (hR : RgM W gr' gs' q d t0 t1 L' n') (h1 : b + 1 + 1 < gr') (h2 : b + 1 + 1 < gs') : AgS w W g tb b t0 t1 q gr' gs' d L' n' k1 k2 n1 n2 D cnt := by
  obtain ⟨l1, l2, l3, l4, l5⟩ := h.lo
  exact ⟨h.g, hR, h.fk, h.fro, by omega, h.tm.reg (by omega), h.bk.reg (by omega), h.bn.reg (by omega), h.mp, ⟨h.mo.1, by omega⟩, ⟨l1, l2, by omega, by omega, by omega⟩⟩
/-- what is remembered is set -/
theorem AgS.known (h : AgS w W g tb b t0 t1 q gr gs d L n k1 k2 n1 n2 D cnt) (hw : Wr W W' b) (hB : Blk W' b 57 (knc x1 x2)) : AgS w W' g tb b t0 t1 q gr gs d L n x1 x2 n1 n2 D cnt := by
  obtain ⟨l1, l2, l3, l4, l5⟩ := h.lo
  exact ⟨h.g, h.m.other h.bk.blk knc_nob h.bk.nm h.bk.ng (fun e => l3 e.symm) hw, h.fk, ⟨h.fro.1.trans (hw.below h.fro.1.size l1), h.fro.2⟩, h.grl, ⟨h.tm.blk.wr hw (by omega), h.tm.nm, h.tm.ng⟩, ⟨hB, h.bk.nm, h.bk.ng⟩, ⟨h.bn.blk.wr hw (by omega), h.bn.nm, h.bn.ng⟩, map_same h.mp (hw.block _ h.mp.lt (fun e => by injection e with e; omega)), h.mo, h.lo⟩
theorem AgS.known1 (h : AgS w W g tb b t0 t1 q gr gs d L n k1 k2 n1 n2 D cnt) (x : L3r) : AgS w (((W.setCell ⟨b, 3, none⟩ (iv x.1)).setCell ⟨b, 4, none⟩ (iv x.2.1)).setCell ⟨b, 5, none⟩ (iv x.2.2)) g tb b t0 t1 q gr gs d L n x k2 n1 n2 D cnt :=
  h.known ((((Wr.refl _ _).set_ 3 _).set_ 4 _).set_ 5 _) (Blk.castV (((h.bk.blk.set_ 3 _).set_ 4 _).set_ 5 _) (by kernel_rfl))

theorem AgS.known2 (h : AgS w W g tb b t0 t1 q gr gs d L n k1 k2 n1 n2 D cnt) (x : L3r) : AgS w (((W.setCell ⟨b, 6, none⟩ (iv x.1)).setCell ⟨b, 7, none⟩ (iv x.2.1)).setCell ⟨b, 8, none⟩ (iv x.2.2)) g tb b t0 t1 q gr gs d L n k1 x n1 n2 D cnt :=
  h.known ((((Wr.refl _ _).set_ 6 _).set_ 7 _).set_ 8 _) (Blk.castV (((h.bk.blk.set_ 6 _).set_ 7 _).set_ 8 _) (by kernel_rfl))
theorem n3_nob {a b c : Int} (o : Nat) (x : UInt8) : (#[iv a, iv b, iv c] : Array Value)[o]? ≠ some (bv x) := lease_nob o x
/-- the clocks are set -/
theorem AgS.clock (h : AgS w W g tb b t0 t1 q gr gs d L n k1 k2 n1 n2 D cnt) (hw : Wr W W' (b + 1)) (hB : Blk W' (b + 1) 58 #[iv 0, iv m1, iv m2]) : AgS w W' g tb b t0 t1 q gr gs d L n k1 k2 m1 m2 D cnt := by
  obtain ⟨l1, l2, l3, l4, l5⟩ := h.lo
  exact ⟨h.g, h.m.other h.bn.blk n3_nob h.bn.nm h.bn.ng (fun e => l4 e.symm) hw, h.fk, ⟨h.fro.1.trans (hw.below h.fro.1.size (by omega)), h.fro.2⟩, h.grl, ⟨h.tm.blk.wr hw (by omega), h.tm.nm, h.tm.ng⟩, ⟨h.bk.blk.wr hw (by omega), h.bk.nm, h.bk.ng⟩, ⟨hB, h.bn.nm, h.bn.ng⟩, map_same h.mp (hw.block _ h.mp.lt (fun e => by injection e with e; omega)), h.mo, h.lo⟩
theorem AgS.clk1 (h : AgS w W g tb b t0 t1 q gr gs d L n k1 k2 n1 n2 D cnt) (v : Int) : AgS w (W.setCell ⟨b + 1, 1, none⟩ (iv v)) g tb b t0 t1 q gr gs d L n k1 k2 v n2 D cnt := h.clock ((Wr.refl _ _).set_ 1 _) (h.bn.blk.set_ 1 _)
theorem AgS.clk2 (h : AgS w W g tb b t0 t1 q gr gs d L n k1 k2 n1 n2 D cnt) (v : Int) : AgS w (W.setCell ⟨b + 1, 2, none⟩ (iv v)) g tb b t0 t1 q gr gs d L n k1 k2 n1 v D cnt := h.clock ((Wr.refl _ _).set_ 2 _) (h.bn.blk.set_ 2 _)
/-- an epoch's owner is set -/
theorem AgS.put (h : AgS w W g tb b t0 t1 q gr gs d L n k1 k2 n1 n2 D cnt) (hm : W'.ownsMap Tryz.prog 3 (plainElem Tryz.prog 3) (b + 1 + 1) (cnt + 1) D') (hw : W.grownBy W' (some (b + 1 + 1))) : AgS w W' g tb b t0 t1 q gr gs d L n k1 k2 n1 n2 D' (cnt + 1) := by
  obtain ⟨l1, l2, l3, l4, l5⟩ := h.lo
  have hw' : Wr W W' (b + 1 + 1) := hw
  have hD : Dsk W' q d := h.m.st.dsk.frame fun j hj => hw'.block j (h.m.st.dsk.lt hj) fun e => by
    injection e with e
    rw [e] at hj
    rcases hj with hj | ⟨s, hs, hne, hA⟩
    · exact h.mo.1 hj
    · cases hsA : s.A with
      | none => rw [hsA] at hA; cases hA
      | some ad =>
        rw [hsA] at hA
        injection hA with hA
        exact h.m.st.dsk.offM h.mp s hs hne ad hsA hA
  exact ⟨h.g, ⟨⟨hD, h.m.st.blk.wr hw' l5, h.m.st.ap⟩, h.m.blk.wr hw' (fun e => h.mo.2 e.symm), h.m.ap, h.m.ne⟩, h.fk, ⟨h.fro.1.trans (hw'.below h.fro.1.size (by omega)), h.fro.2⟩, h.grl, ⟨h.tm.blk.wr hw' (by omega), h.tm.nm, h.tm.ng⟩, ⟨h.bk.blk.wr hw' (by omega), h.bk.nm, h.bk.ng⟩, ⟨h.bn.blk.wr hw' (by omega), h.bn.nm, h.bn.ng⟩, hm, h.mo, h.lo⟩
end
theorem kindR (k : Int) : (IntKind.u64.wrap k).tmod 8 = 0 ∨ (IntKind.u64.wrap k).tmod 8 = 1 ∨ (IntKind.u64.wrap k).tmod 8 = 2 ∨ (IntKind.u64.wrap k).tmod 8 = 3 ∨ (IntKind.u64.wrap k).tmod 8 = 4 ∨ (IntKind.u64.wrap k).tmod 8 = 5 ∨ (IntKind.u64.wrap k).tmod 8 = 6 ∨ (IntKind.u64.wrap k).tmod 8 = 7 := by
  have h : IntKind.u64.wrap k = k % 18446744073709551616 := rfl
  rw [h, Int.tmod_eq_emod_of_nonneg (by omega)]
  omega
/-- what is so of a lease that the register may have -/
def PI (k1 k2 : L3r) (n1 n2 : Int) (D : DataW Unit) (l : L3r) : Prop := CInv k1 k2 n1 n2 l ∧ EInv D l
theorem keep_fok {d : Dk Sv} (x : L3r) (A : Option Addr) (c : Nat) (hf : Fok d) : Fok (rgKeep d x A c).1 := by
  unfold rgKeep
  split
  · exact hf
  · exact hf.put lname _
theorem GivO.fok {d d' : Dk Sv} {L L' : L3r} {o : Int} {k : Nat} (h : GivO d L o k d' L') (hf : Fok d) : Fok d' := by
  cases h with
  | no h => exact hf
  | gave A c h => exact keep_fok _ A c hf
theorem AcqO.fok {d d' : Dk Sv} {L L' ret : L3r} {n n' sp bo o now : Int} {k : Nat} (h : AcqO d L n sp bo o now ret k d' L' n') (hf : Fok d) : Fok d' := by
  cases h with
  | no h => exact hf
  | bad A c h hk => exact keep_fok _ A c hf
  | ok A c h hk => exact keep_fok _ A c hf
/-- the clocks between two acts -/
structure Clk (bo : Int) (i : Nat) (n1 n2 : Int) : Prop where
  p1 : 0 ≤ n1 ∧ n1 ≤ i * 1073741824
  p2 : 0 ≤ n2 ∧ n2 ≤ i * 1073741824
  near : n1 - n2 ≤ bo ∧ n2 - n1 ≤ bo
theorem Clk.more {bo : Int} {i : Nat} {n1 n2 : Int} (h : Clk bo i n1 n2) : Clk bo (i + 1) n1 n2 := by
  obtain ⟨a, b, c⟩ := h
  exact ⟨by omega, by omega, c⟩
theorem Clk.step1 {bo : Int} {i : Nat} {n1 n2 a : Int} (h : Clk bo i n1 n2) (h0 : 0 ≤ a) (h1 : a < 1073741824) (hb : 0 ≤ bo) : Clk bo (i + 1) (n1 + a) (max n2 (n1 + a - bo)) := by
  obtain ⟨a, b, c⟩ := h
  exact ⟨by omega, by omega, by omega⟩
theorem Clk.step2 {bo : Int} {i : Nat} {n1 n2 a : Int} (h : Clk bo i n1 n2) (h0 : 0 ≤ a) (h1 : a < 1073741824) (hb : 0 ≤ bo) : Clk bo (i + 1) (max n1 (n2 + a - bo)) (n2 + a) := by
  obtain ⟨a, b, c⟩ := h
  exact ⟨by omega, by omega, by omega⟩
end Go.Proofs.YtddmfoldnlafaaaGreatDoor

namespace Go.Proofs.YtddmfoldnlafaaaGreatDoor
open Go.RowKit Go.Maps Go.Sort
attribute [local go_sem ↓] Go.wp_at_zero Go.wp_at_succ

set_option maxRecDepth 100000 in
set_option maxHeartbeats 1000000 in
theorem RgAdd_any {g : Nat} {n : Int} (w : World) (hc : w.cell? ⟨g, 6, none⟩ = some (.int .i64 n)) (hz : w.frozen? ⟨g, 6, none⟩ = false) :
    Calls Tryz.prog 69 #[.pointer (some ⟨g, 6, none⟩), .int .i64 1] w fun e w' => e = .returned (.int .i64 (wrap64 (n + 1))) ∧ w' = w.setCell ⟨g, 6, none⟩ (.int .i64 (wrap64 (n + 1))) := by
  have hs : (Op.intArith .add .i64 n 1).run Tryz.prog w = .ok (.int .i64 (wrap64 (n + 1))) w := by simp [go_sem]; simp only [IntKind.wrap_i64, wrap64]
  have hd := run_call_add (P := Tryz.prog) (f := 129) Tryz.func129 (by kernel_rfl) (by kernel_rfl) (by kernel_rfl) .i64 (by kernel_rfl) hc hz hs
  go_enter Tryz.func69, Tryz.ntmps69
  go_wp2_with fail
  go_ret
  exact ⟨rfl, rfl⟩
set_option maxRecDepth 100000 in
set_option maxHeartbeats 1000000 in
theorem RAcquire_any {w : World} {gr gs : Nat} {q : Fp} {d : Dk Sv} {sp bo n : Int} {L : L3r} (h : RgM w gr gs q d sp bo L n) (hf : Fok d) (hl : d.sure.length + d.pend.length ≤ 900) (o now : Int) :
    Calls Tryz.prog 23 #[.pointer (some ⟨gr, 0, none⟩), .int .i64 o, .int .i64 now] w fun e w' => ∃ ret k d' L' n', AcqO d L n sp bo o now ret k d' L' n' ∧ e = .returned (.tuple #[lv ret.1 ret.2.1 ret.2.2, errv k]) ∧ RgG w gr gs q sp bo d' L' n' w' := by
  have hGr := fun W => Grant_any L.1 L.2.1 L.2.2 o now sp bo W
  unfold Leased at hGr
  have hno := @AcqO.no d L n sp bo o now
  have hbad := @AcqO.bad d L n sp bo o now
  have hok := @AcqO.ok d L n sp bo o now
  unfold grantL at hno hbad hok
  generalize grant L.1 L.2.1 L.2.2 o now sp bo = t at *
  obtain ⟨t1, t2, t3, t4⟩ := t
  dsimp only at hGr hno hbad hok
  have HGr := Lib.hid hGr
  have HNo := Lib.hid hno
  have HBad := Lib.hid hbad
  have HOk := Lib.hid hok
  have H := Lib.hid h
  have hb0 := below_new w (.cells #[.int .i64 0, .int .i64 0, .int .i64 0] 56)
  have hB0 := Blk.new w 56 #[.int .i64 0, .int .i64 0, .int .i64 0]
  have hm0 := h.below hb0
  have hs0 : (w.alloc (.cells #[.int .i64 0, .int .i64 0, .int .i64 0] 56)).heap.size = w.heap.size + 1 := by simp
  have Hgr := Lib.hid h.blk.lt
  clear h hno hbad hok hGr
  go_enter Tryz.func23, Tryz.ntmps23
  go_upto_region 3 with (fail)
  refine gen1 (T := fun W => RgM W gr gs q d sp bo L n ∧ Blk W w.heap.size 56 #[.int .i64 0, .int .i64 0, .int .i64 0] ∧ Below w.heap.size w W ∧ W.heap.size = w.heap.size + 1) ⟨hm0, hB0, hb0, hs0⟩ (fun w0 hT => ?_)
  clear hm0 hB0 hb0 hs0
  obtain ⟨hm0, hB0, hb0, hs0⟩ := hT
  go_cut [8, 9] (fun y z wz => ∃ g : Nat, y = .pointer (some ⟨g, 0, none⟩) ∧ z = errv t4 ∧ w0.heap.size ≤ g ∧ Blk wz g 56 #[.int .i64 t1, .int .i64 t2, .int .i64 t3] ∧ Below w0.heap.size w0 wz)
  case first =>
    have hst : Below w0.heap.size w0 w0.drew := Below.drew (Below.refl _ _)
    refine wp_region_held_drew (S := (fun W => Below w0.heap.size w0 W)) (by kernel_rfl) ?_ (fun hHeld => ?_)
    · exact hst
    refine gen0 (T := fun W => ((fun W => Below w0.heap.size w0 W)) W ∧ True) ?_ (fun wq1 hT => ?_)
    · exact ⟨by (first | with_reducible exact hst | with_reducible exact hHeld | exact bel_call hHeld hb9 | exact bel_alloc hHeld _ | exact bel_set (bel_set (bel_set hHeld (by assumption) _) (by assumption) _) (by assumption) _), trivial⟩
    (try clear f0 f1 f2 f3 f4 f5 f6 f7 f8 f9 f10 f11)
    obtain ⟨hHeld, -⟩ := hT
    refine wpAnyH_take (i := 0) (oi := ⟨some 16, _, _, _, _, _⟩) (v := ?_) rfl (by kernel_rfl) (by kernel_rfl) (by kernel_rfl) (fun _ _ _ h => h) (Or.inl ⟨by kernel_rfl, ?_⟩) (by assumption) ?_
    rotate_left
    · (intro wS hSw; (try dsimp only at hSw); obtain ⟨x0, x1, x2, x3, x4, x5, x6⟩ := (hm0.below hSw).blk.sevC; clear hSw; go_simp; (try with_reducible rfl))
    (try simp only [Act.put, List.setIfInBounds_toArray, List.set_cons_zero, List.set_cons_succ])
    refine wpAnyH_take (i := 1) (oi := ⟨some 17, _, _, _, _, _⟩) (v := ?_) rfl (by kernel_rfl) (by kernel_rfl) (by kernel_rfl) (fun _ _ _ h => h) (Or.inl ⟨by kernel_rfl, ?_⟩) (by assumption) ?_
    rotate_left
    · (intro wS hSw; (try dsimp only at hSw); obtain ⟨x0, x1, x2, x3, x4, x5, x6⟩ := (hm0.below hSw).blk.sevC; clear hSw; go_simp; (try with_reducible rfl))
    (try simp only [Act.put, List.setIfInBounds_toArray, List.set_cons_zero, List.set_cons_succ])
    refine wpAnyH_take (i := 2) (oi := ⟨some 18, _, _, _, _, _⟩) (v := ?_) rfl (by kernel_rfl) (by kernel_rfl) (by kernel_rfl) (fun _ _ _ h => h) (Or.inl ⟨by kernel_rfl, ?_⟩) (by assumption) ?_
    rotate_left
    · (intro wS hSw; (try dsimp only at hSw); obtain ⟨x0, x1, x2, x3, x4, x5, x6⟩ := (hm0.below hSw).blk.sevC; clear hSw; go_simp; (try with_reducible rfl))
    (try simp only [Act.put, List.setIfInBounds_toArray, List.set_cons_zero, List.set_cons_succ])
    refine wpAnyH_take (i := 3) (oi := ⟨some 19, _, _, _, _, _⟩) (v := ?_) rfl (by kernel_rfl) (by kernel_rfl) (by kernel_rfl) (fun _ _ _ h => h) (Or.inl ⟨by kernel_rfl, ?_⟩) (by assumption) ?_
    rotate_left
    · (intro wS hSw; (try dsimp only at hSw); obtain ⟨x0, x1, x2, x3, x4, x5, x6⟩ := (hm0.below hSw).blk.sevC; clear hSw; go_simp; (try with_reducible rfl))
    (try simp only [Act.put, List.setIfInBounds_toArray, List.set_cons_zero, List.set_cons_succ])
    refine wpAnyH_take (i := 4) (oi := ⟨some 20, _, _, _, _, _⟩) (v := ?_) rfl (by kernel_rfl) (by kernel_rfl) (by kernel_rfl) (fun _ _ _ h => h) (Or.inl ⟨by kernel_rfl, ?_⟩) (by assumption) ?_
    rotate_left
    · (intro wS hSw; (try dsimp only at hSw); obtain ⟨x0, x1, x2, x3, x4, x5, x6⟩ := (hm0.below hSw).blk.sevC; clear hSw; go_simp; (try with_reducible rfl))
    (try simp only [Act.put, List.setIfInBounds_toArray, List.set_cons_zero, List.set_cons_succ])
    refine wpAnyH_take (i := 5) (oi := ⟨some 21, _, _, _, _, _⟩) (v := ?_) rfl (by kernel_rfl) (by kernel_rfl) (by kernel_rfl) (fun _ _ _ h => h) (Or.inl ⟨by kernel_rfl, ?_⟩) (by assumption) ?_
    rotate_left
    · (intro wS hSw; (try dsimp only at hSw); obtain ⟨x0, x1, x2, x3, x4, x5, x6⟩ := (hm0.below hSw).blk.sevC; clear hSw; go_simp; (try with_reducible rfl))
    (try simp only [Act.put, List.setIfInBounds_toArray, List.set_cons_zero, List.set_cons_succ])
    refine wpAnyH_take (i := 6) (oi := ⟨some 22, _, _, _, _, _⟩) (v := ?_) rfl (by kernel_rfl) (by kernel_rfl) (by kernel_rfl) (fun _ _ _ h => h) (Or.inl ⟨by kernel_rfl, ?_⟩) (by assumption) ?_
    rotate_left
    · (intro wS hSw; (try dsimp only at hSw); obtain ⟨x0, x1, x2, x3, x4, x5, x6⟩ := (hm0.below hSw).blk.sevC; clear hSw; go_simp; (try with_reducible rfl))
    (try simp only [Act.put, List.setIfInBounds_toArray, List.set_cons_zero, List.set_cons_succ])
    refine wpAnyH_take (i := 7) (oi := ⟨some 23, _, _, _, _, _⟩) (v := ?_) rfl (by kernel_rfl) (by kernel_rfl) (by kernel_rfl) (fun _ _ _ h => h) (Or.inl ⟨by kernel_rfl, ?_⟩) (by assumption) ?_
    rotate_left
    · (intro wS hSw; (try dsimp only at hSw); obtain ⟨x0, x1, x2, x3, x4, x5, x6⟩ := (hm0.below hSw).blk.sevC; clear hSw; go_simp; (try with_reducible rfl))
    (try simp only [Act.put, List.setIfInBounds_toArray, List.set_cons_zero, List.set_cons_succ])
    refine wpAnyH_take (i := 8) (oi := ⟨some 24, _, _, _, _, _⟩) (v := ?_) rfl (by kernel_rfl) (by kernel_rfl) (by kernel_rfl) (fun _ _ _ h => h) (Or.inl ⟨by kernel_rfl, ?_⟩) (by assumption) ?_
    rotate_left
    · (intro wS hSw; (try dsimp only at hSw); obtain ⟨x0, x1, x2, x3, x4, x5, x6⟩ := (hm0.below hSw).blk.sevC; clear hSw; go_simp; (try with_reducible rfl))
    (try simp only [Act.put, List.setIfInBounds_toArray, List.set_cons_zero, List.set_cons_succ])
    refine wpAnyH_take (i := 9) (oi := ⟨some 25, _, _, _, _, _⟩) (v := ?_) rfl (by kernel_rfl) (by kernel_rfl) (by kernel_rfl) (fun _ _ _ h => h) (Or.inl ⟨by kernel_rfl, ?_⟩) (by assumption) ?_
    rotate_left
    · (intro wS hSw; (try dsimp only at hSw); obtain ⟨x0, x1, x2, x3, x4, x5, x6⟩ := (hm0.below hSw).blk.sevC; clear hSw; go_simp; (try with_reducible rfl))
    (try simp only [Act.put, List.setIfInBounds_toArray, List.set_cons_zero, List.set_cons_succ])
    refine wpAnyH_take (i := 10) (oi := ⟨some 26, _, _, _, _, _⟩) (v := ?_) rfl (by kernel_rfl) (by kernel_rfl) (by kernel_rfl) (fun _ _ _ h => h) (Or.inl ⟨by kernel_rfl, ?_⟩) (by assumption) ?_
    rotate_left
    · (intro wS hSw; (try dsimp only at hSw); obtain ⟨x0, x1, x2, x3, x4, x5, x6⟩ := (hm0.below hSw).blk.sevC; clear hSw; go_simp; (try with_reducible rfl))
    (try simp only [Act.put, List.setIfInBounds_toArray, List.set_cons_zero, List.set_cons_succ])
    refine wpAnyH_take (i := 11) (oi := ⟨some 27, _, _, _, _, _⟩) (v := ?_) rfl (by kernel_rfl) (by kernel_rfl) (by kernel_rfl) (fun _ _ _ h => h) (Or.inl ⟨by kernel_rfl, ?_⟩) (by assumption) ?_
    rotate_left
    · (intro wS hSw; (try dsimp only at hSw); obtain ⟨x0, x1, x2, x3, x4, x5, x6⟩ := (hm0.below hSw).blk.sevC; clear hSw; go_simp; (try with_reducible rfl))
    (try simp only [Act.put, List.setIfInBounds_toArray, List.set_cons_zero, List.set_cons_succ])
    refine wpAnyH_take (i := 12) (oi := ⟨some 28, _, _, _, _, _⟩) (v := ?_) rfl (by kernel_rfl) (by kernel_rfl) (by kernel_rfl) (fun _ _ _ h => h) (Or.inl ⟨by kernel_rfl, ?_⟩) (by assumption) ?_
    rotate_left
    · (intro wS hSw; (try dsimp only at hSw); obtain ⟨x0, x1, x2, x3, x4, x5, x6⟩ := (hm0.below hSw).blk.sevC; clear hSw; go_simp; (try with_reducible rfl))
    (try simp only [Act.put, List.setIfInBounds_toArray, List.set_cons_zero, List.set_cons_succ])
    refine wpAnyH_take (i := 13) (oi := ⟨some 29, _, _, _, _, _⟩) (v := ?_) rfl (by kernel_rfl) (by kernel_rfl) (by kernel_rfl) (fun _ _ _ h => h) (Or.inl ⟨by kernel_rfl, ?_⟩) (by assumption) ?_
    rotate_left
    · (intro wS hSw; (try dsimp only at hSw); obtain ⟨x0, x1, x2, x3, x4, x5, x6⟩ := (hm0.below hSw).blk.sevC; clear hSw; go_simp; (try with_reducible rfl))
    (try simp only [Act.put, List.setIfInBounds_toArray, List.set_cons_zero, List.set_cons_succ])
    refine wpAnyH_ready (rs := [14, 18]) (by kernel_rfl) (by simp) ?_
    refine AllReadyH.cons (o := ⟨some 30, _, _, _, _, _⟩) rfl (fun K hK => ?_) ?_
    · go_simp
      (refine (HGr.out _).mono ?_; rintro e w9 ⟨rfl, hb9⟩)
      go_wp2_with fail
      refine hK.out _ _ ?_ (fun _ => ?_)
      · ((try dsimp only); (first | with_reducible exact hst | with_reducible exact hHeld | exact bel_call hHeld hb9 | exact bel_alloc hHeld _ | exact bel_set (bel_set (bel_set hHeld (by assumption) _) (by assumption) _) (by assumption) _))
      clear hK K
      (try simp only [Act.put, List.setIfInBounds_toArray, List.set_cons_zero, List.set_cons_succ])
      refine gen0 (T := fun W => ((fun W => Below w0.heap.size w0 W)) W ∧ True) ?_ (fun wq2 hT => ?_)
      · exact ⟨by (first | with_reducible exact hst | with_reducible exact hHeld | exact bel_call hHeld hb9 | exact bel_alloc hHeld _ | exact bel_set (bel_set (bel_set hHeld (by assumption) _) (by assumption) _) (by assumption) _), trivial⟩
      (try clear f0 f1 f2 f3 f4 f5 f6 f7 f8 f9 f10 f11)
      obtain ⟨hHeld, -⟩ := hT
      refine wpAnyH_take (i := 15) (oi := ⟨some 15, _, _, _, _, _⟩) (v := ?_) rfl (by kernel_rfl) (by kernel_rfl) (by kernel_rfl) (fun _ _ _ h => h) (Or.inl ⟨by kernel_rfl, ?_⟩) (by assumption) ?_
      rotate_left
      · (intro wS hSw; (try dsimp only at hSw); obtain ⟨x0, x1, x2, x3, x4, x5, x6⟩ := (hm0.below hSw).blk.sevC; clear hSw; go_simp; (try with_reducible rfl))
      (try simp only [Act.put, List.setIfInBounds_toArray, List.set_cons_zero, List.set_cons_succ])
      refine wpAnyH_take (i := 16) (oi := ⟨some 31, _, _, _, _, _⟩) (v := ?_) rfl (by kernel_rfl) (by kernel_rfl) (by kernel_rfl) (fun _ _ _ h => h) (Or.inl ⟨by kernel_rfl, ?_⟩) (by assumption) ?_
      rotate_left
      · (intro wS hSw; (try dsimp only at hSw); obtain ⟨x0, x1, x2, x3, x4, x5, x6⟩ := (hm0.below hSw).blk.sevC; clear hSw; go_simp; (try with_reducible rfl))
      (try simp only [Act.put, List.setIfInBounds_toArray, List.set_cons_zero, List.set_cons_succ])
      refine wpAnyH_take (i := 17) (oi := ⟨some 32, _, _, _, _, _⟩) (v := ?_) rfl (by kernel_rfl) (by kernel_rfl) (by kernel_rfl) (fun _ _ _ h => h) (Or.inl ⟨by kernel_rfl, ?_⟩) (by assumption) ?_
      rotate_left
      · (intro wS hSw; (try dsimp only at hSw); obtain ⟨x0, x1, x2, x3, x4, x5, x6⟩ := (hm0.below hSw).blk.sevC; clear hSw; go_simp; (try with_reducible rfl))
      (try simp only [Act.put, List.setIfInBounds_toArray, List.set_cons_zero, List.set_cons_succ])
      refine wpAnyH_ready (rs := [18]) (by kernel_rfl) (by simp) ?_
      refine AllReadyH.cons (o := ⟨some 8, _, _, _, _, _⟩) rfl (fun K hK => ?_) AllReadyH.nil
      go_simp
      refine hK.out _ _ ?_ (fun _ => ?_)
      · ((try dsimp only); (first | with_reducible exact hst | with_reducible exact hHeld | exact bel_call hHeld hb9 | exact bel_alloc hHeld _ | exact bel_set (bel_set (bel_set hHeld (by assumption) _) (by assumption) _) (by assumption) _))
      clear hK K
      (try simp only [Act.put, List.setIfInBounds_toArray, List.set_cons_zero, List.set_cons_succ])
      refine gen0 (T := fun W => ((fun W => Below w0.heap.size w0 W)) W ∧ Blk W wq2.heap.size 56 #[.int .i64 0, .int .i64 0, .int .i64 0] ∧ w0.heap.size ≤ wq2.heap.size ∧ True) ?_ (fun wq3 hT => ?_)
      · exact ⟨by (first | with_reducible exact hst | with_reducible exact hHeld | exact bel_call hHeld hb9 | exact bel_alloc hHeld _ | exact bel_set (bel_set (bel_set hHeld (by assumption) _) (by assumption) _) (by assumption) _), by (first | with_reducible assumption | with_reducible exact Blk.new _ _ _ | exact ((f0.set_ 0 _).set_ 1 _).set_ 2 _ | exact f0.below hb9 | exact hHeld.size), by (first | with_reducible assumption | with_reducible exact Blk.new _ _ _ | exact ((f0.set_ 0 _).set_ 1 _).set_ 2 _ | exact f0.below hb9 | exact hHeld.size), trivial⟩
      (try clear f0 f1 f2 f3 f4 f5 f6 f7 f8 f9 f10 f11)
      obtain ⟨hHeld, f0, f1, -⟩ := hT
      refine wpAnyH_ready (rs := [19]) (by kernel_rfl) (by simp) ?_
      refine AllReadyH.cons (o := ⟨none, _, _, _, _, _⟩) rfl (fun K hK => ?_) AllReadyH.nil
      obtain ⟨s0, s1, s2, s3, s4, s5⟩ := f0.three
      go_simp
      refine hK.out _ _ ?_ (fun _ => ?_)
      · ((try dsimp only); (first | with_reducible exact hst | with_reducible exact hHeld | exact bel_call hHeld hb9 | exact bel_alloc hHeld _ | exact bel_set (bel_set (bel_set hHeld (by assumption) _) (by assumption) _) (by assumption) _))
      clear hK K
      (try simp only [Act.put, List.setIfInBounds_toArray, List.set_cons_zero, List.set_cons_succ])
      refine gen0 (T := fun W => ((fun W => Below w0.heap.size w0 W)) W ∧ w0.heap.size ≤ wq2.heap.size ∧ Blk W wq2.heap.size 56 #[.int .i64 t1, .int .i64 t2, .int .i64 t3] ∧ True) ?_ (fun wq4 hT => ?_)
      · exact ⟨by (first | with_reducible exact hst | with_reducible exact hHeld | exact bel_call hHeld hb9 | exact bel_alloc hHeld _ | exact bel_set (bel_set (bel_set hHeld (by assumption) _) (by assumption) _) (by assumption) _), by (first | with_reducible assumption | with_reducible exact Blk.new _ _ _ | exact ((f0.set_ 0 _).set_ 1 _).set_ 2 _ | exact f0.below hb9 | exact hHeld.size), by (first | with_reducible assumption | with_reducible exact Blk.new _ _ _ | exact ((f0.set_ 0 _).set_ 1 _).set_ 2 _ | exact f0.below hb9 | exact hHeld.size), trivial⟩
      (try clear f0 f1 f2 f3 f4 f5 f6 f7 f8 f9 f10 f11)
      obtain ⟨hHeld, f0, f1, -⟩ := hT
      refine wpAnyH_take (i := 20) (oi := ⟨some 9, _, _, _, _, _⟩) (v := ?_) rfl (by kernel_rfl) (by kernel_rfl) (by kernel_rfl) (fun _ _ _ h => h) (Or.inl ⟨by kernel_rfl, ?_⟩) (by assumption) ?_
      rotate_left
      · (intro wS hSw; (try dsimp only at hSw); obtain ⟨x0, x1, x2, x3, x4, x5, x6⟩ := (hm0.below hSw).blk.sevC; clear hSw; go_simp; (try with_reducible rfl))
      (try simp only [Act.put, List.setIfInBounds_toArray, List.set_cons_zero, List.set_cons_succ])
      refine wpAnyH_done (by kernel_rfl) ?_ _
      (go_wp2_with fail; go_meet; exact ⟨_, rfl, rfl, f0, f1, hHeld⟩)
    refine AllReadyH.cons (o := ⟨some 8, _, _, _, _, _⟩) rfl (fun K hK => ?_) ?_
    · go_simp
      refine hK.out _ _ ?_ (fun _ => ?_)
      · ((try dsimp only); (first | with_reducible exact hst | with_reducible exact hHeld | exact bel_call hHeld hb9 | exact bel_alloc hHeld _ | exact bel_set (bel_set (bel_set hHeld (by assumption) _) (by assumption) _) (by assumption) _))
      clear hK K
      (try simp only [Act.put, List.setIfInBounds_toArray, List.set_cons_zero, List.set_cons_succ])
      refine gen0 (T := fun W => ((fun W => Below w0.heap.size w0 W)) W ∧ Blk W wq1.heap.size 56 #[.int .i64 0, .int .i64 0, .int .i64 0] ∧ w0.heap.size ≤ wq1.heap.size ∧ True) ?_ (fun wq5 hT => ?_)
      · exact ⟨by (first | with_reducible exact hst | with_reducible exact hHeld | exact bel_call hHeld hb9 | exact bel_alloc hHeld _ | exact bel_set (bel_set (bel_set hHeld (by assumption) _) (by assumption) _) (by assumption) _), by (first | with_reducible assumption | with_reducible exact Blk.new _ _ _ | exact ((f0.set_ 0 _).set_ 1 _).set_ 2 _ | exact f0.below hb9 | exact hHeld.size), by (first | with_reducible assumption | with_reducible exact Blk.new _ _ _ | exact ((f0.set_ 0 _).set_ 1 _).set_ 2 _ | exact f0.below hb9 | exact hHeld.size), trivial⟩
      (try clear f0 f1 f2 f3 f4 f5 f6 f7 f8 f9 f10 f11)
      obtain ⟨hHeld, f0, f1, -⟩ := hT
      refine wpAnyH_ready (rs := [14]) (by kernel_rfl) (by simp) ?_
      refine AllReadyH.cons (o := ⟨some 30, _, _, _, _, _⟩) rfl (fun K hK => ?_) AllReadyH.nil
      go_simp
      (refine (HGr.out _).mono ?_; rintro e w9 ⟨rfl, hb9⟩)
      go_wp2_with fail
      refine hK.out _ _ ?_ (fun _ => ?_)
      · ((try dsimp only); (first | with_reducible exact hst | with_reducible exact hHeld | exact bel_call hHeld hb9 | exact bel_alloc hHeld _ | exact bel_set (bel_set (bel_set hHeld (by assumption) _) (by assumption) _) (by assumption) _))
      clear hK K
      (try simp only [Act.put, List.setIfInBounds_toArray, List.set_cons_zero, List.set_cons_succ])
      refine gen0 (T := fun W => ((fun W => Below w0.heap.size w0 W)) W ∧ Blk W wq1.heap.size 56 #[.int .i64 0, .int .i64 0, .int .i64 0] ∧ w0.heap.size ≤ wq1.heap.size ∧ True) ?_ (fun wq6 hT => ?_)
      · exact ⟨by (first | with_reducible exact hst | with_reducible exact hHeld | exact bel_call hHeld hb9 | exact bel_alloc hHeld _ | exact bel_set (bel_set (bel_set hHeld (by assumption) _) (by assumption) _) (by assumption) _), by (first | with_reducible assumption | with_reducible exact Blk.new _ _ _ | exact ((f0.set_ 0 _).set_ 1 _).set_ 2 _ | exact f0.below hb9 | exact hHeld.size), by (first | with_reducible assumption | with_reducible exact Blk.new _ _ _ | exact ((f0.set_ 0 _).set_ 1 _).set_ 2 _ | exact f0.below hb9 | exact hHeld.size), trivial⟩
      (try clear f0 f1 f2 f3 f4 f5 f6 f7 f8 f9 f10 f11)
      obtain ⟨hHeld, f0, f1, -⟩ := hT
      refine wpAnyH_take (i := 15) (oi := ⟨some 15, _, _, _, _, _⟩) (v := ?_) rfl (by kernel_rfl) (by kernel_rfl) (by kernel_rfl) (fun _ _ _ h => h) (Or.inl ⟨by kernel_rfl, ?_⟩) (by assumption) ?_
      rotate_left
      · (intro wS hSw; (try dsimp only at hSw); obtain ⟨x0, x1, x2, x3, x4, x5, x6⟩ := (hm0.below hSw).blk.sevC; clear hSw; go_simp; (try with_reducible rfl))
      (try simp only [Act.put, List.setIfInBounds_toArray, List.set_cons_zero, List.set_cons_succ])
      refine wpAnyH_take (i := 16) (oi := ⟨some 31, _, _, _, _, _⟩) (v := ?_) rfl (by kernel_rfl) (by kernel_rfl) (by kernel_rfl) (fun _ _ _ h => h) (Or.inl ⟨by kernel_rfl, ?_⟩) (by assumption) ?_
      rotate_left
      · (intro wS hSw; (try dsimp only at hSw); obtain ⟨x0, x1, x2, x3, x4, x5, x6⟩ := (hm0.below hSw).blk.sevC; clear hSw; go_simp; (try with_reducible rfl))
      (try simp only [Act.put, List.setIfInBounds_toArray, List.set_cons_zero, List.set_cons_succ])
      refine wpAnyH_take (i := 17) (oi := ⟨some 32, _, _, _, _, _⟩) (v := ?_) rfl (by kernel_rfl) (by kernel_rfl) (by kernel_rfl) (fun _ _ _ h => h) (Or.inl ⟨by kernel_rfl, ?_⟩) (by assumption) ?_
      rotate_left
      · (intro wS hSw; (try dsimp only at hSw); obtain ⟨x0, x1, x2, x3, x4, x5, x6⟩ := (hm0.below hSw).blk.sevC; clear hSw; go_simp; (try with_reducible rfl))
      (try simp only [Act.put, List.setIfInBounds_toArray, List.set_cons_zero, List.set_cons_succ])
      refine wpAnyH_ready (rs := [19]) (by kernel_rfl) (by simp) ?_
      refine AllReadyH.cons (o := ⟨none, _, _, _, _, _⟩) rfl (fun K hK => ?_) AllReadyH.nil
      obtain ⟨s0, s1, s2, s3, s4, s5⟩ := f0.three
      go_simp
      refine hK.out _ _ ?_ (fun _ => ?_)
      · ((try dsimp only); (first | with_reducible exact hst | with_reducible exact hHeld | exact bel_call hHeld hb9 | exact bel_alloc hHeld _ | exact bel_set (bel_set (bel_set hHeld (by assumption) _) (by assumption) _) (by assumption) _))
      clear hK K
      (try simp only [Act.put, List.setIfInBounds_toArray, List.set_cons_zero, List.set_cons_succ])
      refine gen0 (T := fun W => ((fun W => Below w0.heap.size w0 W)) W ∧ w0.heap.size ≤ wq1.heap.size ∧ Blk W wq1.heap.size 56 #[.int .i64 t1, .int .i64 t2, .int .i64 t3] ∧ True) ?_ (fun wq7 hT => ?_)
      · exact ⟨by (first | with_reducible exact hst | with_reducible exact hHeld | exact bel_call hHeld hb9 | exact bel_alloc hHeld _ | exact bel_set (bel_set (bel_set hHeld (by assumption) _) (by assumption) _) (by assumption) _), by (first | with_reducible assumption | with_reducible exact Blk.new _ _ _ | exact ((f0.set_ 0 _).set_ 1 _).set_ 2 _ | exact f0.below hb9 | exact hHeld.size), by (first | with_reducible assumption | with_reducible exact Blk.new _ _ _ | exact ((f0.set_ 0 _).set_ 1 _).set_ 2 _ | exact f0.below hb9 | exact hHeld.size), trivial⟩
      (try clear f0 f1 f2 f3 f4 f5 f6 f7 f8 f9 f10 f11)
      obtain ⟨hHeld, f0, f1, -⟩ := hT
      refine wpAnyH_take (i := 20) (oi := ⟨some 9, _, _, _, _, _⟩) (v := ?_) rfl (by kernel_rfl) (by kernel_rfl) (by kernel_rfl) (fun _ _ _ h => h) (Or.inl ⟨by kernel_rfl, ?_⟩) (by assumption) ?_
      rotate_left
      · (intro wS hSw; (try dsimp only at hSw); obtain ⟨x0, x1, x2, x3, x4, x5, x6⟩ := (hm0.below hSw).blk.sevC; clear hSw; go_simp; (try with_reducible rfl))
      (try simp only [Act.put, List.setIfInBounds_toArray, List.set_cons_zero, List.set_cons_succ])
      refine wpAnyH_done (by kernel_rfl) ?_ _
      (go_wp2_with fail; go_meet; exact ⟨_, rfl, rfl, f0, f1, hHeld⟩)
    exact AllReadyH.nil
  case rest =>
    obtain ⟨g, rfl, rfl, hlo, hBl, hHeld⟩ := hcut
    have hm1 := hm0.below hHeld
    have hB1 := hB0.below hHeld
    have hb1 := hb0.trans (hHeld.mono hb0.size)
    have hgne : w.heap.size ≠ g := by omega
    have hgne2 : gr ≠ g := by have := Hgr.out; omega
    clear hm0 hB0 hb0 hHeld
    rcases Decidable.em (t4 = 0) with h0 | h0
    rotate_left
    · obtain ⟨ev, hev⟩ := errv_ifc h0
      obtain ⟨b0, b1, b2, bf0, bf1, bf2⟩ := hB1.three
      have hB2 := ((hB1.set_ 0 (.int .i64 0)).set_ 1 (.int .i64 0)).set_ 2 (.int .i64 0)
      have hb2 := bel_set (bel_set (bel_set hb1 (p := ⟨w.heap.size, 0, none⟩) (Nat.le_refl _) (.int .i64 0)) (p := ⟨w.heap.size, 1, none⟩) (Nat.le_refl _) (.int .i64 0)) (p := ⟨w.heap.size, 2, none⟩) (Nat.le_refl _) (.int .i64 0)
      have HE := Lib.hid hev
      have HA := Lib.hid (HNo.out h0)
      have HB2 := Lib.hid hB2
      have HRR := Lib.hid (RgG.still H.out hb2)
      rw [hev]
      clear hev h0 hB1 hB2 hb1 hb2 hm1 hBl
      go_wp2_with fail
      exact bodyPost_ret (res_lease rfl rfl (g := w.heap.size) HB2.out) rfl ⟨(0, 0, 0), t4, d, L, n, HA.out, by rw [HE.out]; rfl, HRR.out⟩
    subst h0
    have HK := Lib.hid (RKeep_any hm1 hf hl (t1, t2, t3))
    obtain ⟨c0, c1, c2, -, -, -⟩ := hBl.three
    rw [show errv 0 = Value.nilIface from rfl]
    have Hb1 := Lib.hid hb1
    have HB1 := Lib.hid hB1
    have HBl := Lib.hid hBl
    have HM1 := Lib.hid hm1
    have hqn : ∀ i, w.heap.size ≤ i → ¬ q.M i := fun i hi hq => by have := H.out.st.dsk.ltM hq; omega
    have Hqn := Lib.hid hqn
    clear hb1 hB1 hBl hm1 hqn
    go_wp2_with fail
    refine HK.out.mono ?_
    clear HK
    rintro e w3 ⟨A, c, rfl, q3, hg3, hR3, hF3, hM3⟩
    have hB3 : Blk w3 w.heap.size 56 #[.int .i64 0, .int .i64 0, .int .i64 0] := (hF3.block _ HB1.out.lt (Hqn.out _ (Nat.le_refl _)) (by have := Hgr.out; omega)).trans HB1.out
    have hBl3 : Blk w3 g 56 #[.int .i64 t1, .int .i64 t2, .int .i64 t3] := (hF3.block _ HBl.out.lt (Hqn.out _ (by omega)) (fun e => hgne2 e.symm)).trans HBl.out
    have HF3 := Lib.hid ((Frg.of_below (q := q) gr Hb1.out).trans hF3 (fun i hi => .inl hi))
    have HM3 := Lib.hid (show ∀ i, q3.M i → q.M i ∨ w.heap.size ≤ i from fun i hi => by
      rcases hM3 i hi with h1 | h1
      · exact .inl h1
      · have := Hb1.out.size; exact .inr (by omega))
    have Hg3 := Lib.hid hg3
    have hbad := HBad.out A c (by first | rfl | trivial)
    have hok := HOk.out A c (by first | rfl | trivial)
    have Hq3 := Lib.hid (show ¬ q3.M w.heap.size from fun hq => by
      rcases hM3 _ hq with h1 | h1
      · exact Hqn.out _ (Nat.le_refl _) h1
      · have := HB1.out.lt; omega)
    have Hgs := Lib.hid H.out.st.blk.lt
    clear hF3 hM3 hg3 HB1 HBl Hb1 HM1 c0 c1 c2 HBad HOk HNo
    generalize rgKeep d (t1, t2, t3) A c = r at *
    obtain ⟨d3, k3⟩ := r
    dsimp only at hR3 hbad hok ⊢
    rcases Decidable.em (k3 = 0) with h0 | h0
    rotate_left
    · obtain ⟨ev, hev⟩ := errv_ifc h0
      rw [if_neg h0] at hR3
      obtain ⟨b0, b1, b2, bf0, bf1, bf2⟩ := hB3.three
      have hB4 := ((hB3.set_ 0 (.int .i64 0)).set_ 1 (.int .i64 0)).set_ 2 (.int .i64 0)
      have hw : Wr w3 (((w3.setCell ⟨w.heap.size, 0, none⟩ (.int .i64 0)).setCell ⟨w.heap.size, 1, none⟩ (.int .i64 0)).setCell ⟨w.heap.size, 2, none⟩ (.int .i64 0)) w.heap.size := (((Wr.refl _ _).set_ 0 _).set_ 1 _).set_ 2 _
      have HR4 := Lib.hid (hR3.other hB3 lease_nob Hq3.out (by have := Hgr.out; omega) (by have := Hgs.out; omega) hw)
      have HF4 := Lib.hid (HF3.out.more hw (Nat.le_refl _))
      have HE := Lib.hid hev
      have HA := Lib.hid (hbad h0)
      have HB4 := Lib.hid hB4
      rw [hev]
      clear hev h0 hbad hok hB4 hw hB3 hBl3 hR3
      go_wp2_with fail
      exact bodyPost_ret (res_lease rfl rfl (g := w.heap.size) HB4.out) rfl ⟨(0, 0, 0), k3, d3, L, n, HA.out, by rw [HE.out]; rfl, q3, Hg3.out, HR4.out, HF4.out, HM3.out⟩
    · subst h0
      rw [if_pos rfl] at hR3
      have HA := Lib.hid (hok (by first | rfl | trivial))
      have hc6 := hR3.blk.cell 6
      have hz6 := hR3.blk.frozen 6
      have HAdd := Lib.hid (RgAdd_any w3 hc6 hz6)
      have hw4 : Wr w3 (w3.setCell ⟨gr, 6, none⟩ (.int .i64 (wrap64 (n + 1)))) gr := (Wr.refl _ _).set_ 6 _
      have hR4 := hR3.set (L' := (t1, t2, t3)) (m := wrap64 (n + 1)) hw4 (hR3.blk.set_ 6 (.int .i64 (wrap64 (n + 1))))
      have hB4 := hB3.wr hw4 (by have := Hgr.out; omega)
      have hBl4 := hBl3.wr hw4 (fun e => hgne2 e.symm)
      have HF4 := Lib.hid (HF3.out.wr hw4)
      rw [show errv 0 = Value.nilIface from rfl]
      have HR4 := Lib.hid hR4
      have HB4 := Lib.hid hB4
      have HBl4 := Lib.hid hBl4
      clear hbad hok hw4 hR4 hB4 hBl4 hB3 hBl3 hR3 hc6 hz6
      go_wp2_with fail
      refine HAdd.out.mono ?_
      rintro e w4 ⟨rfl, rfl⟩
      go_upto_region 10 with (fail)
      refine gen1 (T := fun W => RgM W gr gs q3 d3 sp bo (t1, t2, t3) (wrap64 (n + 1)) ∧ Blk W w.heap.size 56 #[.int .i64 0, .int .i64 0, .int .i64 0] ∧ Blk W g 56 #[.int .i64 t1, .int .i64 t2, .int .i64 t3] ∧ Frg q gr w W) ⟨HR4.out, HB4.out, HBl4.out, HF4.out⟩ (fun w5 hT => ?_)
      obtain ⟨hR5, hB5, hBl5, hF5⟩ := hT
      obtain ⟨b0, b1, b2, bf0, bf1, bf2⟩ := hB5.three
      obtain ⟨c0, c1, c2, -, -, -⟩ := hBl5.three
      have hw : Wr w5 (((w5.setCell ⟨w.heap.size, 0, none⟩ (.int .i64 t1)).setCell ⟨w.heap.size, 1, none⟩ (.int .i64 t2)).setCell ⟨w.heap.size, 2, none⟩ (.int .i64 t3)) w.heap.size := (((Wr.refl _ _).set_ 0 _).set_ 1 _).set_ 2 _
      have HB6 := Lib.hid (((hB5.set_ 0 (.int .i64 t1)).set_ 1 (.int .i64 t2)).set_ 2 (.int .i64 t3))
      have HR6 := Lib.hid (hR5.other hB5 lease_nob Hq3.out (by have := Hgr.out; omega) (by have := Hgs.out; omega) hw)
      have HF6 := Lib.hid (hF5.more hw (Nat.le_refl _))
      clear hR5 hB5 hBl5 hF5 hw HR4 HB4 HBl4 HF4 HAdd
      go_wp2_with fail
      exact bodyPost_ret (res_lease rfl rfl (g := w.heap.size) HB6.out) rfl ⟨(t1, t2, t3), 0, d3, (t1, t2, t3), wrap64 (n + 1), HA.out, rfl, q3, Hg3.out, HR6.out, HF6.out, HM3.out⟩
end Go.Proofs.YtddmfoldnlafaaaGreatDoor
