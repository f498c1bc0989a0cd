/- WHAT IT HOLDS: an act on a register and on the document's done: walked. -/
import Derived.Test.YtddmfoldnlafaaaGreatDoorRegisterPlaysG28
import Derived.Test.YtddmfoldnlafaaaGreatDoorRegisterPlaysG17
import Derived.Deep.CutBlock
import Derived.Deep.DeepCutAuto
namespace Go.Proofs.YtddmfoldnlafaaaGreatDoor
open Go.RowKit Go.Maps Go.Sort
attribute [local go_sem ↓] Go.wp_at_zero Go.wp_at_succ

set_option maxRecDepth 100000 in
set_option maxHeartbeats 20000000 in
theorem RaAct_gve {P : Nat → Prop} {w : World} {q0 : Fp} {gr gs : Nat} {d : Dk Sv} {A B : Option Addr} {c k Lb : Nat} {sp bo n : Int} {L : L3r} (x : RA) (h : RgM w gr gs q0 d sp bo L n) (hf : Fok d) (hn : Nmd d) (hR : Rdk (Yo P q0 (some (gr, gs))) w (d.map Sv.l) A c B k) (hP : ∀ i, w.heap.size ≤ i → P i) (hok : SlZ w x.B x.kc x.ks ∧ SlB w x.d.A x.d.c x.d.l ∧ SlZ w x.d.B x.d.kc x.d.ks) (hx2 : x.ks ≠ [] → ∀ ad, x.B = some ad → ad.block < Lb) (hx3 : x.d.l ≠ [] → ∀ ad, x.d.A = some ad → ad.block < Lb) (hx4 : x.d.ks ≠ [] → ∀ ad, x.d.B = some ad → ad.block < Lb) (hL : ∀ i, q0.M i → Lb ≤ i) (hLg : Lb ≤ gr) (hfx : x.d.f ≤ 9223372036854775807) (hsh : x.long = false) (hl : d.sure.length + d.pend.length ≤ 160) (hb : ¬ rgBad sp bo) (hk : (IntKind.u64.wrap x.k).tmod 8 = 3) :
    Calls Tryz.prog 44 #[.pointer (some ⟨gr, 0, none⟩), .agg (rrg (d.map Sv.l) A c B k sp bo L n), .agg (racta x)] w fun e w' => RaG P w q0 gr gs d sp bo e w' := by
  have hb1 := bel_alloc (bel_alloc (below_new w (.cells (rrg (d.map Sv.l) A c B k sp bo L n) 104)) (.cells (racta x) 64)) (.cells rrz 104)
  have hB0 := ((Blk.new w 104 (rrg (d.map Sv.l) A c B k sp bo L n)).alloc (.cells (racta x) 64)).alloc (.cells rrz 104)
  have hB1 := (Blk.newAt (w := w.alloc (.cells (rrg (d.map Sv.l) A c B k sp bo L n) 104)) (g := w.heap.size + 1) (by simp) 64 (racta x)).alloc (.cells rrz 104)
  have hB2 := Blk.newAt (w := (w.alloc (.cells (rrg (d.map Sv.l) A c B k sp bo L n) 104)).alloc (.cells (racta x) 64)) (g := w.heap.size + 2) (by simp) 104 rrz
  have hS0 : RaS P w (((w.alloc (.cells (rrg (d.map Sv.l) A c B k sp bo L n) 104)).alloc (.cells (racta x) 64)).alloc (.cells rrz 104)) q0 gr q0 gs d sp bo n L (d.map Sv.l) A c B k L n x := by
    have hg := h.blk.lt
    have hg2 := h.st.blk.lt
    have hq : ∀ i, w.heap.size ≤ i → ¬ q0.M i := fun i hi hm => by
      have := h.st.dsk.ltM hm
      omega
    refine ⟨h.below hb1, rfl, Frg.of_below gr hb1, fun i hi => .inl hi, hB0, hB1, hB2, ⟨hq _ (by omega), hq _ (by omega), hq _ (by omega)⟩, ⟨hg, hg2⟩, ?_, fun i hi => hP i (Nat.le_trans hb1.size hi)⟩
    exact hR.sameH (fun i hi ht => ⟨ht.1, ht.2.1 _ rfl, ht.2.2, by omega, by omega⟩) hb1.size fun i hi _ => hb1.block i hi
  have hshs := RA.short hsh
  obtain ⟨p1, p2, p3, -⟩ := hS0.mm.st.dsk.fits (k := 400) (by omega) (by omega)
  have hno : ∀ W, Frg q0 gr w W → ∀ i, i < Lb → W.heap[i]? = w.heap[i]? := fun W hF i hi => hF.block i (by have := h.blk.lt; omega) (fun hq => by have := hL _ hq; omega) (by omega)
  have hLq : ∀ i, q0.M i → i < w.heap.size := fun i hi => h.st.dsk.ltM hi
  have HSz := Lib.hid (show ∀ W, Frg q0 gr w W → SlZ W x.B x.kc x.ks from fun W hF => SlZ.sameB hok.1 fun hne ad hA => hno W hF _ (hx2 hne ad hA))
  have HSdx := Lib.hid (show ∀ W, Frg q0 gr w W → SlB W x.d.A x.d.c x.d.l from fun W hF => SlB.sameB hok.2.1 fun hne ad hA => hno W hF _ (hx3 hne ad hA))
  have HSdz := Lib.hid (show ∀ W, Frg q0 gr w W → SlZ W x.d.B x.d.kc x.d.ks from fun W hF => SlZ.sameB hok.2.2 fun hne ad hA => hno W hF _ (hx4 hne ad hA))
  have HX := Lib.hid (And.intro hx2 (And.intro hx3 hx4))
  have HL := Lib.hid (And.intro hL hLg)
  have HFx := Lib.hid hfx
  have HF := Lib.hid hf
  have HNm := Lib.hid hn
  have HBd := Lib.hid hb
  have HS0 := Lib.hid hS0
  obtain ⟨s1, s2⟩ := hshs
  clear hb1 hB0 hB1 hB2 hS0 h hf hn hR hP hok hx2 hx3 hx4 hL hLg hfx hsh hno hb
  unfold rrg at HS0
  go_enter Tryz.func44, Tryz.ntmps44
  try unfold rrg
  go_upto_region 2 with (fail)
  refine gen1 (T := fun W => RaS P w W q0 gr q0 gs d sp bo n L (d.map Sv.l) A c B k L n x) HS0.out (fun w4 hS => ?_)
  clear HS0
  rw [show w.heap.size + 1 + 1 = w.heap.size + 2 from rfl]
  obtain ⟨z0, z1, z2, z3, z4, z5, z6, z7, z8, z9, z10⟩ := (hS).b0.elev
  obtain ⟨zf0, zf1, zf2, zf3, zf4, zf5, zf6, zf7, zf8, zf9, zf10⟩ := (hS).b0.frz
  obtain ⟨y0, y1, y2, y3, y4, y5, y6, y7, y8, y9⟩ := (hS).b1.tenD
  have HS := Lib.hid hS
  clear hS
  go_upto_block 0 with (fail)
  have hkd := kind8 x.k
  generalize hkk : (IntKind.u64.wrap x.k).tmod 8 = kk at hkd ⊢
  go_cut [9] (fun v wz => v = .bool true ∧ ∃ (q : Fp) (d' : Dk Sv) (n' : Int) (L' : L3r) (A' : Option Addr) (c' : Nat) (B' : Option Addr) (k' : Nat), RaS P w wz q0 gr q gs d' sp bo n' L' (d'.map Sv.l) A' c' B' k' L' n' x ∧ Fok d' ∧ Nmd d' ∧ d'.sure.length + d'.pend.length ≤ d.sure.length + d.pend.length + 4)
  case first =>
    obtain rfl : kk = 3 := hkk.symm.trans hk
    clear hkk hkd hk
    have hK := R29Give_any (T := Yr P w q0 gr) (d.map Sv.l) sp bo n L x.o w4 HS.out.up HS.out.R (by rw [len_mapD]; omega) HF.out.2 HS.out.mm.st.dsk.ris.mapD (by rw [shown_map, fused_map]; exact p3)
    have HMp := Lib.hid (fun (k : Nat) (d' : Dk Sv) (L' : L3r) (h : GivO d L x.o k d' L') => gvB_of h)
    unfold GvR at hK
    generalize gvB (d.map Sv.l) L x.o = rm at *
    obtain ⟨rm1, rm2, rm3⟩ := rm
    dsimp only at hK
    have HK := Lib.hid hK
    clear hK
    unfold rrg at HK
    go_wp2_with fail
    refine HK.out.mono ?_
    clear HK
    rintro e w5 ⟨A5, c5, B5, k5, rfl, hR5, hb5⟩
    have hS5 := HS.out.call hb5
    have hS6 := hS5.ref hR5 rm2 n
    unfold setR at hS6
    have HS6 := Lib.hid hS6
    clear z0 z1 z2 z3 z4 z5 z6 z7 z8 z9 z10 zf0 zf1 zf2 zf3 zf4 zf5 zf6 zf7 zf8 zf9 zf10 y0 y1 y2 y3 y4 y5 y6 y7 y8 y9
    obtain ⟨z0, z1, z2, z3, z4, z5, z6, z7, z8, z9, z10⟩ := (hS5).b0.elev
    obtain ⟨zf0, zf1, zf2, zf3, zf4, zf5, zf6, zf7, zf8, zf9, zf10⟩ := (hS5).b0.frz
    obtain ⟨y0, y1, y2, y3, y4, y5, y6, y7, y8, y9⟩ := (hS5).b1.tenD
    clear hR5 hb5 hS5 HS hS6
    try unfold rrg
    go_upto_region 8 with (fail)
    refine gen1 (T := fun W => RaS P w W q0 gr q0 gs d sp bo n L rm1 A5 c5 B5 k5 rm2 n x) HS6.out (fun w6 hS7 => ?_)
    clear z0 z1 z2 z3 z4 z5 z6 z7 z8 z9 z10 zf0 zf1 zf2 zf3 zf4 zf5 zf6 zf7 zf8 zf9 zf10 y0 y1 y2 y3 y4 y5 y6 y7 y8 y9
    clear HS6 w5
    obtain ⟨z0, z1, z2, z3, z4, z5, z6, z7, z8, z9, z10⟩ := (hS7).b0.elev
    obtain ⟨zf0, zf1, zf2, zf3, zf4, zf5, zf6, zf7, zf8, zf9, zf10⟩ := (hS7).b0.frz
    obtain ⟨y0, y1, y2, y3, y4, y5, y6, y7, y8, y9⟩ := (hS7).b1.tenD
    have HWr := Lib.hid (RGive_any hS7.mm HF.out (by omega) x.o)
    have HS := Lib.hid hS7
    clear hS7
    go_wp2_with fail
    refine HWr.out.mono ?_
    clear HWr
    rintro e w7 ⟨k8, d8, L8, hG8, rfl, q8, hg8, hR8, hF8, hM8⟩
    have hE := HMp.out k8 d8 L8 hG8
    injection hE with e1 hE
    injection hE with e2 e3
    subst e1
    have e2 := e2.symm
    have e3 := e3.symm
    subst e2 e3
    have HS8 := Lib.hid (HS.out.rg hg8 hR8 hF8 hM8)
    obtain ⟨hf8, hn8, hl8⟩ := hG8.keeps HF.out HNm.out
    have HKp := Lib.hid (And.intro hf8 (And.intro hn8 hl8))
    have HN8 := Lib.hid (fun W => num_any k8 W)
    have hbe : ((k8 : Int) == (k8 : Int)) = true := by simp
    clear z0 z1 z2 z3 z4 z5 z6 z7 z8 z9 z10 zf0 zf1 zf2 zf3 zf4 zf5 zf6 zf7 zf8 zf9 zf10 y0 y1 y2 y3 y4 y5 y6 y7 y8 y9
    clear hG8 hg8 hR8 hF8 hM8 HS hf8 hn8 hl8 HMp
    generalize errv k8 = ev at *
    go_wp2_with fail
    refine (HN8.out _).mono ?_
    rintro e w9 ⟨rfl, rfl⟩
    go_wp2_with fail
    go_meet
    exact ⟨rfl, q8, d8, n, L8, A5, c5, B5, k5, HS8.out, HKp.out.1, HKp.out.2.1, HKp.out.2.2⟩
  case rest =>
    obtain ⟨rfl, q8, d8, n8, L8, A8, c8, B8, k8, hS8, hf8, hn8, hl8⟩ := hcut
    have HK8 := Lib.hid (And.intro hf8 (And.intro hn8 hl8))
    have hl9 : d8.sure.length + d8.pend.length ≤ 1000 := by omega
    have hst := hS8.call (Below.drew (Below.refl _ _))
    have HLe := Lib.hid (RLease_any hst.mm)
    have HSt := Lib.hid hst
    have hst0 : Blk (World.drew wc) w.heap.size 104 (rrg (d8.map Sv.l) A8 c8 B8 k8 sp bo L8 n8) := hst.b0
    unfold rrg at hst0
    have hne2 : w.heap.size ≠ w.heap.size + 2 := by omega
    clear z0 z1 z2 z3 z4 z5 z6 z7 z8 z9 z10 zf0 zf1 zf2 zf3 zf4 zf5 zf6 zf7 zf8 zf9 zf10 y0 y1 y2 y3 y4 y5 y6 y7 y8 y9
    clear hS8 hf8 hn8 hl8 hst HS hkk hkd
    go_upto_region 22 with (fail)
    refine wp_region_held_drew (S := (fun W => Blk W w.heap.size 104 #[.int .i64 (d8.map Sv.l).room, .slice A8 (d8.map Sv.l).sure.length c8, .slice B8 (d8.map Sv.l).pend.length k8, .int .i64 (d8.map Sv.l).fuse, .bool (d8.map Sv.l).down, .int .i64 sp, .int .i64 bo, .int .i64 L8.1, .int .i64 L8.2.1, .int .i64 L8.2.2, .int .i64 n8])) (by kernel_rfl) ?_ (fun hHeld => ?_)
    · first | with_reducible exact hst0 | with_reducible exact hHeld | exact hHeld.below hb9 | exact hHeld.below hb10 | exact Blk.wr hHeld (wr_setR w10 (w.heap.size + 2) (d8.map Sv.l) A8 c8 B8 k8 sp bo L8 n8) hne2
    refine wpAnyH_take (i := 0) (oi := ⟨some 125, _, _, _, _, _⟩) (v := ?_) rfl (by kernel_rfl) (by kernel_rfl) (by kernel_rfl) (fun _ _ _ h => h) (Or.inl ⟨by kernel_rfl, ?_⟩) (by assumption) ?_
    rotate_left
    · (intro wS hSw; (try dsimp only at hSw); obtain ⟨z0, z1, z2, z3, z4, z5, z6, z7, z8, z9, z10⟩ := hSw.elev; clear hSw; go_simp; (try with_reducible rfl))
    (try simp only [Act.put, List.setIfInBounds_toArray, List.set_cons_zero, List.set_cons_succ])
    refine wpAnyH_take (i := 1) (oi := ⟨some 126, _, _, _, _, _⟩) (v := ?_) rfl (by kernel_rfl) (by kernel_rfl) (by kernel_rfl) (fun _ _ _ h => h) (Or.inl ⟨by kernel_rfl, ?_⟩) (by assumption) ?_
    rotate_left
    · (intro wS hSw; (try dsimp only at hSw); obtain ⟨z0, z1, z2, z3, z4, z5, z6, z7, z8, z9, z10⟩ := hSw.elev; clear hSw; go_simp; (try with_reducible rfl))
    (try simp only [Act.put, List.setIfInBounds_toArray, List.set_cons_zero, List.set_cons_succ])
    refine wpAnyH_take (i := 2) (oi := ⟨some 127, _, _, _, _, _⟩) (v := ?_) rfl (by kernel_rfl) (by kernel_rfl) (by kernel_rfl) (fun _ _ _ h => h) (Or.inl ⟨by kernel_rfl, ?_⟩) (by assumption) ?_
    rotate_left
    · (intro wS hSw; (try dsimp only at hSw); obtain ⟨z0, z1, z2, z3, z4, z5, z6, z7, z8, z9, z10⟩ := hSw.elev; clear hSw; go_simp; (try with_reducible rfl))
    (try simp only [Act.put, List.setIfInBounds_toArray, List.set_cons_zero, List.set_cons_succ])
    refine wpAnyH_take (i := 3) (oi := ⟨some 128, _, _, _, _, _⟩) (v := ?_) rfl (by kernel_rfl) (by kernel_rfl) (by kernel_rfl) (fun _ _ _ h => h) (Or.inl ⟨by kernel_rfl, ?_⟩) (by assumption) ?_
    rotate_left
    · (intro wS hSw; (try dsimp only at hSw); obtain ⟨z0, z1, z2, z3, z4, z5, z6, z7, z8, z9, z10⟩ := hSw.elev; clear hSw; go_simp; (try with_reducible rfl))
    (try simp only [Act.put, List.setIfInBounds_toArray, List.set_cons_zero, List.set_cons_succ])
    refine wpAnyH_take (i := 4) (oi := ⟨some 129, _, _, _, _, _⟩) (v := ?_) rfl (by kernel_rfl) (by kernel_rfl) (by kernel_rfl) (fun _ _ _ h => h) (Or.inl ⟨by kernel_rfl, ?_⟩) (by assumption) ?_
    rotate_left
    · (intro wS hSw; (try dsimp only at hSw); obtain ⟨z0, z1, z2, z3, z4, z5, z6, z7, z8, z9, z10⟩ := hSw.elev; clear hSw; go_simp; (try with_reducible rfl))
    (try simp only [Act.put, List.setIfInBounds_toArray, List.set_cons_zero, List.set_cons_succ])
    refine wpAnyH_take (i := 6) (oi := ⟨some 131, _, _, _, _, _⟩) (v := ?_) rfl (by kernel_rfl) (by kernel_rfl) (by kernel_rfl) (fun _ _ _ h => h) (Or.inl ⟨by kernel_rfl, ?_⟩) (by assumption) ?_
    rotate_left
    · (intro wS hSw; (try dsimp only at hSw); obtain ⟨z0, z1, z2, z3, z4, z5, z6, z7, z8, z9, z10⟩ := hSw.elev; clear hSw; go_simp; (try with_reducible rfl))
    (try simp only [Act.put, List.setIfInBounds_toArray, List.set_cons_zero, List.set_cons_succ])
    refine wpAnyH_take (i := 7) (oi := ⟨some 132, _, _, _, _, _⟩) (v := ?_) rfl (by kernel_rfl) (by kernel_rfl) (by kernel_rfl) (fun _ _ _ h => h) (Or.inl ⟨by kernel_rfl, ?_⟩) (by assumption) ?_
    rotate_left
    · (intro wS hSw; (try dsimp only at hSw); obtain ⟨z0, z1, z2, z3, z4, z5, z6, z7, z8, z9, z10⟩ := hSw.elev; clear hSw; go_simp; (try with_reducible rfl))
    (try simp only [Act.put, List.setIfInBounds_toArray, List.set_cons_zero, List.set_cons_succ])
    refine wpAnyH_ready (rs := [5]) (by kernel_rfl) (by simp) ?_
    refine AllReadyH.cons (o := ⟨some 130, _, _, _, _, _⟩) rfl (fun K hK => ?_) AllReadyH.nil
    go_simp
    (refine HLe.out.mono ?_; rintro e w9 ⟨rfl, hb9⟩; have HS9 := Lib.hid (HSt.out.call hb9))
    go_wp2_with fail
    refine hK.out _ _ ?_ (fun hHeld => ?_)
    · ((try dsimp only); (exact hHeld.below hb9))
    clear hK K
    (try simp only [Act.put, List.setIfInBounds_toArray, List.set_cons_zero, List.set_cons_succ])
    refine wpAnyH_take (i := 8) (oi := ⟨some 133, _, _, _, _, _⟩) (v := ?_) rfl (by kernel_rfl) (by kernel_rfl) (by kernel_rfl) (fun _ _ _ h => h) (Or.inl ⟨by kernel_rfl, ?_⟩) (by assumption) ?_
    rotate_left
    · (intro wS hSw; (try dsimp only at hSw); obtain ⟨z0, z1, z2, z3, z4, z5, z6, z7, z8, z9, z10⟩ := hSw.elev; clear hSw; go_simp; (try with_reducible rfl))
    (try simp only [Act.put, List.setIfInBounds_toArray, List.set_cons_zero, List.set_cons_succ])
    refine wpAnyH_take (i := 9) (oi := ⟨some 134, _, _, _, _, _⟩) (v := ?_) rfl (by kernel_rfl) (by kernel_rfl) (by kernel_rfl) (fun _ _ _ h => h) (Or.inl ⟨by kernel_rfl, ?_⟩) (by assumption) ?_
    rotate_left
    · (intro wS hSw; (try dsimp only at hSw); obtain ⟨z0, z1, z2, z3, z4, z5, z6, z7, z8, z9, z10⟩ := hSw.elev; clear hSw; go_simp; (try with_reducible rfl))
    (try simp only [Act.put, List.setIfInBounds_toArray, List.set_cons_zero, List.set_cons_succ])
    refine wpAnyH_take (i := 10) (oi := ⟨some 135, _, _, _, _, _⟩) (v := ?_) rfl (by kernel_rfl) (by kernel_rfl) (by kernel_rfl) (fun _ _ _ h => h) (Or.inl ⟨by kernel_rfl, ?_⟩) (by assumption) ?_
    rotate_left
    · (intro wS hSw; (try dsimp only at hSw); obtain ⟨z0, z1, z2, z3, z4, z5, z6, z7, z8, z9, z10⟩ := hSw.elev; clear hSw; go_simp; (try with_reducible rfl))
    (try simp only [Act.put, List.setIfInBounds_toArray, List.set_cons_zero, List.set_cons_succ])
    refine wpAnyH_take (i := 11) (oi := ⟨some 136, _, _, _, _, _⟩) (v := ?_) rfl (by kernel_rfl) (by kernel_rfl) (by kernel_rfl) (fun _ _ _ h => h) (Or.inl ⟨by kernel_rfl, ?_⟩) (by assumption) ?_
    rotate_left
    · (intro wS hSw; (try dsimp only at hSw); obtain ⟨z0, z1, z2, z3, z4, z5, z6, z7, z8, z9, z10⟩ := hSw.elev; clear hSw; go_simp; (try with_reducible rfl))
    (try simp only [Act.put, List.setIfInBounds_toArray, List.set_cons_zero, List.set_cons_succ])
    refine wpAnyH_take (i := 13) (oi := ⟨some 138, _, _, _, _, _⟩) (v := ?_) rfl (by kernel_rfl) (by kernel_rfl) (by kernel_rfl) (fun _ _ _ h => h) (Or.inl ⟨by kernel_rfl, ?_⟩) (by assumption) ?_
    rotate_left
    · (intro wS hSw; (try dsimp only at hSw); obtain ⟨z0, z1, z2, z3, z4, z5, z6, z7, z8, z9, z10⟩ := hSw.elev; clear hSw; go_simp; (try with_reducible rfl))
    (try simp only [Act.put, List.setIfInBounds_toArray, List.set_cons_zero, List.set_cons_succ])
    refine wpAnyH_take (i := 14) (oi := ⟨some 139, _, _, _, _, _⟩) (v := ?_) rfl (by kernel_rfl) (by kernel_rfl) (by kernel_rfl) (fun _ _ _ h => h) (Or.inl ⟨by kernel_rfl, ?_⟩) (by assumption) ?_
    rotate_left
    · (intro wS hSw; (try dsimp only at hSw); obtain ⟨z0, z1, z2, z3, z4, z5, z6, z7, z8, z9, z10⟩ := hSw.elev; clear hSw; go_simp; (try with_reducible rfl))
    (try simp only [Act.put, List.setIfInBounds_toArray, List.set_cons_zero, List.set_cons_succ])
    refine wpAnyH_ready (rs := [12]) (by kernel_rfl) (by simp) ?_
    refine AllReadyH.cons (o := ⟨some 137, _, _, _, _, _⟩) rfl (fun K hK => ?_) AllReadyH.nil
    go_simp
    (refine (RGrants_any HS9.out.mm).mono ?_; rintro e w9' ⟨rfl, rfl⟩)
    go_wp2_with fail
    refine hK.out _ _ ?_ (fun hHeld => ?_)
    · ((try dsimp only); (with_reducible exact hHeld))
    clear hK K
    (try simp only [Act.put, List.setIfInBounds_toArray, List.set_cons_zero, List.set_cons_succ])
    refine wpAnyH_take (i := 15) (oi := ⟨some 140, _, _, _, _, _⟩) (v := ?_) rfl (by kernel_rfl) (by kernel_rfl) (by kernel_rfl) (fun _ _ _ h => h) (Or.inl ⟨by kernel_rfl, ?_⟩) (by assumption) ?_
    rotate_left
    · (intro wS hSw; (try dsimp only at hSw); obtain ⟨z0, z1, z2, z3, z4, z5, z6, z7, z8, z9, z10⟩ := hSw.elev; clear hSw; go_simp; (try with_reducible rfl))
    (try simp only [Act.put, List.setIfInBounds_toArray, List.set_cons_zero, List.set_cons_succ])
    refine wpAnyH_take (i := 16) (oi := ⟨some 141, _, _, _, _, _⟩) (v := ?_) rfl (by kernel_rfl) (by kernel_rfl) (by kernel_rfl) (fun _ _ _ h => h) (Or.inl ⟨by kernel_rfl, ?_⟩) (by assumption) ?_
    rotate_left
    · (intro wS hSw; (try dsimp only at hSw); obtain ⟨z0, z1, z2, z3, z4, z5, z6, z7, z8, z9, z10⟩ := hSw.elev; clear hSw; go_simp; (try with_reducible rfl))
    (try simp only [Act.put, List.setIfInBounds_toArray, List.set_cons_zero, List.set_cons_succ])
    refine wpAnyH_take (i := 17) (oi := ⟨some 142, _, _, _, _, _⟩) (v := ?_) rfl (by kernel_rfl) (by kernel_rfl) (by kernel_rfl) (fun _ _ _ h => h) (Or.inl ⟨by kernel_rfl, ?_⟩) (by assumption) ?_
    rotate_left
    · (intro wS hSw; (try dsimp only at hSw); obtain ⟨z0, z1, z2, z3, z4, z5, z6, z7, z8, z9, z10⟩ := hSw.elev; clear hSw; go_simp; (try with_reducible rfl))
    (try simp only [Act.put, List.setIfInBounds_toArray, List.set_cons_zero, List.set_cons_succ])
    refine wpAnyH_take (i := 18) (oi := ⟨some 143, _, _, _, _, _⟩) (v := ?_) rfl (by kernel_rfl) (by kernel_rfl) (by kernel_rfl) (fun _ _ _ h => h) (Or.inl ⟨by kernel_rfl, ?_⟩) (by assumption) ?_
    rotate_left
    · (intro wS hSw; (try dsimp only at hSw); obtain ⟨z0, z1, z2, z3, z4, z5, z6, z7, z8, z9, z10⟩ := hSw.elev; clear hSw; go_simp; (try with_reducible rfl))
    (try simp only [Act.put, List.setIfInBounds_toArray, List.set_cons_zero, List.set_cons_succ])
    refine wpAnyH_take (i := 20) (oi := ⟨some 145, _, _, _, _, _⟩) (v := ?_) rfl (by kernel_rfl) (by kernel_rfl) (by kernel_rfl) (fun _ _ _ h => h) (Or.inl ⟨by kernel_rfl, ?_⟩) (by assumption) ?_
    rotate_left
    · (intro wS hSw; (try dsimp only at hSw); obtain ⟨z0, z1, z2, z3, z4, z5, z6, z7, z8, z9, z10⟩ := hSw.elev; clear hSw; go_simp; (try with_reducible rfl))
    (try simp only [Act.put, List.setIfInBounds_toArray, List.set_cons_zero, List.set_cons_succ])
    refine wpAnyH_take (i := 21) (oi := ⟨some 146, _, _, _, _, _⟩) (v := ?_) rfl (by kernel_rfl) (by kernel_rfl) (by kernel_rfl) (fun _ _ _ h => h) (Or.inl ⟨by kernel_rfl, ?_⟩) (by assumption) ?_
    rotate_left
    · (intro wS hSw; (try dsimp only at hSw); obtain ⟨z0, z1, z2, z3, z4, z5, z6, z7, z8, z9, z10⟩ := hSw.elev; clear hSw; go_simp; (try with_reducible rfl))
    (try simp only [Act.put, List.setIfInBounds_toArray, List.set_cons_zero, List.set_cons_succ])
    refine wpAnyH_ready (rs := [19]) (by kernel_rfl) (by simp) ?_
    refine AllReadyH.cons (o := ⟨some 144, _, _, _, _, _⟩) rfl (fun K hK => ?_) AllReadyH.nil
    go_simp
    (refine (RDisk_any HS9.out.mm).mono ?_; rintro e w9' ⟨rfl, rfl⟩)
    go_wp2_with fail
    refine hK.out _ _ ?_ (fun hHeld => ?_)
    · ((try dsimp only); (with_reducible exact hHeld))
    clear hK K
    (try simp only [Act.put, List.setIfInBounds_toArray, List.set_cons_zero, List.set_cons_succ])
    refine wpAnyH_ready (rs := [22]) (by kernel_rfl) (by simp) ?_
    refine AllReadyH.cons (o := ⟨some 147, _, _, _, _, _⟩) rfl (fun K hK => ?_) AllReadyH.nil
    go_simp
    (have hSh := Shows_any HS9.out.mm.st.dsk HS9.out.R hl9; unfold rda at hSh; refine hSh.mono ?_; rintro e w10 ⟨rfl, hb10⟩; have hS10 := HS9.out.call hb10; clear hSh; obtain ⟨x0, x1, x2, x3, x4, x5, x6, x7, x8, x9, x10⟩ := hS10.b2.elev; obtain ⟨xf0, xf1, xf2, xf3, xf4, xf5, xf6, xf7, xf8, xf9, xf10⟩ := hS10.b2.frz)
    go_wp2_with fail
    refine hK.out _ _ ?_ (fun hHeld => ?_)
    · ((try dsimp only); (exact hHeld.below hb10))
    clear hK K
    (try simp only [Act.put, List.setIfInBounds_toArray, List.set_cons_zero, List.set_cons_succ])
    refine wpAnyH_take (i := 23) (oi := ⟨some 148, _, _, _, _, _⟩) (v := ?_) rfl (by kernel_rfl) (by kernel_rfl) (by kernel_rfl) (fun _ _ _ h => h) (Or.inl ⟨by kernel_rfl, ?_⟩) (by assumption) ?_
    rotate_left
    · (intro wS hSw; (try dsimp only at hSw); obtain ⟨z0, z1, z2, z3, z4, z5, z6, z7, z8, z9, z10⟩ := hSw.elev; clear hSw; go_simp; (try with_reducible rfl))
    (try simp only [Act.put, List.setIfInBounds_toArray, List.set_cons_zero, List.set_cons_succ])
    refine wpAnyH_take (i := 24) (oi := ⟨some 6, _, _, _, _, _⟩) (v := ?_) rfl (by kernel_rfl) (by kernel_rfl) (by kernel_rfl) (fun _ _ _ h => h) (Or.inl ⟨by kernel_rfl, ?_⟩) (by assumption) ?_
    rotate_left
    · (intro wS hSw; (try dsimp only at hSw); obtain ⟨z0, z1, z2, z3, z4, z5, z6, z7, z8, z9, z10⟩ := hSw.elev; clear hSw; go_simp; (try with_reducible rfl))
    (try simp only [Act.put, List.setIfInBounds_toArray, List.set_cons_zero, List.set_cons_succ])
    refine wpAnyH_ready (rs := [25]) (by kernel_rfl) (by simp) ?_
    refine AllReadyH.cons (o := ⟨none, _, _, _, _, _⟩) rfl (fun K hK => ?_) AllReadyH.nil
    go_simp
    refine hK.out _ _ ?_ (fun hHeld => ?_)
    · ((try dsimp only); (exact Blk.wr hHeld (wr_setR w10 (w.heap.size + 2) (d8.map Sv.l) A8 c8 B8 k8 sp bo L8 n8) hne2))
    clear hK K
    (try simp only [Act.put, List.setIfInBounds_toArray, List.set_cons_zero, List.set_cons_succ])
    refine wpAnyH_take (i := 26) (oi := ⟨some 8, _, _, _, _, _⟩) (v := ?_) rfl (by kernel_rfl) (by kernel_rfl) (by kernel_rfl) (fun _ _ _ h => h) (Or.inl ⟨by kernel_rfl, ?_⟩) (by assumption) ?_
    rotate_left
    · (intro wS hSw; (try dsimp only at hSw); obtain ⟨z0, z1, z2, z3, z4, z5, z6, z7, z8, z9, z10⟩ := hSw.elev; clear hSw; go_simp; (try with_reducible rfl))
    (try simp only [Act.put, List.setIfInBounds_toArray, List.set_cons_zero, List.set_cons_succ])
    refine wpAnyH_done (by kernel_rfl) ?_ _
    obtain ⟨o1, o2, o3⟩ := hS10.out (wr_setR w10 (w.heap.size + 2) (d8.map Sv.l) A8 c8 B8 k8 sp bo L8 n8)
    have hBB := hS10.b2.setR (d8.map Sv.l) A8 c8 B8 k8 sp bo L8 n8
    have HO := Lib.hid (show RaG P w q0 gr gs d sp bo (.returned (.tuple #[ptrO (some (gr, gs)), .agg (rrg (d8.map Sv.l) A8 c8 B8 k8 sp bo L8 n8), .bool true])) _ from ⟨q8, some (gr, gs), d8, A8, c8, B8, k8, sp, bo, n8, L8, rfl, hS10.g, o1.st.dsk, o2, hS10.M, fun p hp => by injection hp with hp; subst hp; exact ⟨rfl, rfl, HK8.out.1, HK8.out.2.1, HK8.out.2.2, o1, o3, .inl rfl, .inl rfl⟩⟩)
    unfold setR at HO hBB
    unfold rrg at HO hBB
    dsimp only [ptrO] at HO
    have HB9 := Lib.hid hBB
    clear o1 o2 o3 hBB x0 x1 x2 x3 x4 x5 x6 x7 x8 x9 x10 xf0 xf1 xf2 xf3 xf4 xf5 xf6 xf7 xf8 xf9 xf10 hS10 HS9 HSt HLe
    go_wp2_with fail
    exact bodyPost_ret (res_o3 rfl rfl (g := w.heap.size + 2) HB9.out) rfl HO.out
end Go.Proofs.YtddmfoldnlafaaaGreatDoor
