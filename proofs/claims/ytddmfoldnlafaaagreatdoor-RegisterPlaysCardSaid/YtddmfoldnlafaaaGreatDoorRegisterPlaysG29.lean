/- WHAT IT HOLDS: an act on a register and on the document's done: walked. -/
import Derived.Test.YtddmfoldnlafaaaGreatDoorRegisterPlaysG28
import Derived.Test.YtddmfoldnlafaaaGreatDoorRegisterPlaysG17
import Derived.Deep.CutBlock
import Derived.Deep.DeepCutAuto
namespace Go.Proofs.YtddmfoldnlafaaaGreatDoor
open Go.RowKit Go.Maps Go.Sort
attribute [local go_sem ↓] Go.wp_at_zero Go.wp_at_succ

set_option maxRecDepth 100000 in
set_option maxHeartbeats 20000000 in
theorem RaAct_acq {P : Nat → Prop} {w : World} {q0 : Fp} {gr gs : Nat} {d : Dk Sv} {A B : Option Addr} {c k Lb : Nat} {sp bo n : Int} {L : L3r} (x : RA) (h : RgM w gr gs q0 d sp bo L n) (hf : Fok d) (hn : Nmd d) (hR : Rdk (Yo P q0 (some (gr, gs))) w (d.map Sv.l) A c B k) (hP : ∀ i, w.heap.size ≤ i → P i) (hok : SlZ w x.B x.kc x.ks ∧ SlB w x.d.A x.d.c x.d.l ∧ SlZ w x.d.B x.d.kc x.d.ks) (hx2 : x.ks ≠ [] → ∀ ad, x.B = some ad → ad.block < Lb) (hx3 : x.d.l ≠ [] → ∀ ad, x.d.A = some ad → ad.block < Lb) (hx4 : x.d.ks ≠ [] → ∀ ad, x.d.B = some ad → ad.block < Lb) (hL : ∀ i, q0.M i → Lb ≤ i) (hLg : Lb ≤ gr) (hfx : x.d.f ≤ 9223372036854775807) (hsh : x.long = false) (hl : d.sure.length + d.pend.length ≤ 160) (hb : ¬ rgBad sp bo) (hk : 0 ≤ (IntKind.u64.wrap x.k).tmod 8 ∧ (IntKind.u64.wrap x.k).tmod 8 ≤ 2) :
    Calls Tryz.prog 44 #[.pointer (some ⟨gr, 0, none⟩), .agg (rrg (d.map Sv.l) A c B k sp bo L n), .agg (racta x)] w fun e w' => RaG P w q0 gr gs d sp bo e w' := by
  have hb1 := bel_alloc (bel_alloc (below_new w (.cells (rrg (d.map Sv.l) A c B k sp bo L n) 104)) (.cells (racta x) 64)) (.cells rrz 104)
  have hB0 := ((Blk.new w 104 (rrg (d.map Sv.l) A c B k sp bo L n)).alloc (.cells (racta x) 64)).alloc (.cells rrz 104)
  have hB1 := (Blk.newAt (w := w.alloc (.cells (rrg (d.map Sv.l) A c B k sp bo L n) 104)) (g := w.heap.size + 1) (by simp) 64 (racta x)).alloc (.cells rrz 104)
  have hB2 := Blk.newAt (w := (w.alloc (.cells (rrg (d.map Sv.l) A c B k sp bo L n) 104)).alloc (.cells (racta x) 64)) (g := w.heap.size + 2) (by simp) 104 rrz
  have hS0 : RaS P w (((w.alloc (.cells (rrg (d.map Sv.l) A c B k sp bo L n) 104)).alloc (.cells (racta x) 64)).alloc (.cells rrz 104)) q0 gr q0 gs d sp bo n L (d.map Sv.l) A c B k L n x := by
    have hg := h.blk.lt
    have hg2 := h.st.blk.lt
    have hq : ∀ i, w.heap.size ≤ i → ¬ q0.M i := fun i hi hm => by
      have := h.st.dsk.ltM hm
      omega
    refine ⟨h.below hb1, rfl, Frg.of_below gr hb1, fun i hi => .inl hi, hB0, hB1, hB2, ⟨hq _ (by omega), hq _ (by omega), hq _ (by omega)⟩, ⟨hg, hg2⟩, ?_, fun i hi => hP i (Nat.le_trans hb1.size hi)⟩
    exact hR.sameH (fun i hi ht => ⟨ht.1, ht.2.1 _ rfl, ht.2.2, by omega, by omega⟩) hb1.size fun i hi _ => hb1.block i hi
  have hshs := RA.short hsh
  obtain ⟨p1, p2, p3, -⟩ := hS0.mm.st.dsk.fits (k := 400) (by omega) (by omega)
  have hno : ∀ W, Frg q0 gr w W → ∀ i, i < Lb → W.heap[i]? = w.heap[i]? := fun W hF i hi => hF.block i (by have := h.blk.lt; omega) (fun hq => by have := hL _ hq; omega) (by omega)
  have hLq : ∀ i, q0.M i → i < w.heap.size := fun i hi => h.st.dsk.ltM hi
  have HSz := Lib.hid (show ∀ W, Frg q0 gr w W → SlZ W x.B x.kc x.ks from fun W hF => SlZ.sameB hok.1 fun hne ad hA => hno W hF _ (hx2 hne ad hA))
  have HSdx := Lib.hid (show ∀ W, Frg q0 gr w W → SlB W x.d.A x.d.c x.d.l from fun W hF => SlB.sameB hok.2.1 fun hne ad hA => hno W hF _ (hx3 hne ad hA))
  have HSdz := Lib.hid (show ∀ W, Frg q0 gr w W → SlZ W x.d.B x.d.kc x.d.ks from fun W hF => SlZ.sameB hok.2.2 fun hne ad hA => hno W hF _ (hx4 hne ad hA))
  have HX := Lib.hid (And.intro hx2 (And.intro hx3 hx4))
  have HL := Lib.hid (And.intro hL hLg)
  have HFx := Lib.hid hfx
  have HF := Lib.hid hf
  have HNm := Lib.hid hn
  have HBd := Lib.hid hb
  have HS0 := Lib.hid hS0
  obtain ⟨s1, s2⟩ := hshs
  clear hb1 hB0 hB1 hB2 hS0 h hf hn hR hP hok hx2 hx3 hx4 hL hLg hfx hsh hno hb
  unfold rrg at HS0
  go_enter Tryz.func44, Tryz.ntmps44
  try unfold rrg
  go_upto_region 2 with (fail)
  refine gen1 (T := fun W => RaS P w W q0 gr q0 gs d sp bo n L (d.map Sv.l) A c B k L n x) HS0.out (fun w4 hS => ?_)
  clear HS0
  rw [show w.heap.size + 1 + 1 = w.heap.size + 2 from rfl]
  obtain ⟨z0, z1, z2, z3, z4, z5, z6, z7, z8, z9, z10⟩ := (hS).b0.elev
  obtain ⟨zf0, zf1, zf2, zf3, zf4, zf5, zf6, zf7, zf8, zf9, zf10⟩ := (hS).b0.frz
  obtain ⟨y0, y1, y2, y3, y4, y5, y6, y7, y8, y9⟩ := (hS).b1.tenD
  have HS := Lib.hid hS
  clear hS
  go_upto_block 0 with (fail)
  have hkd := kind8 x.k
  generalize hkk : (IntKind.u64.wrap x.k).tmod 8 = kk at hkd ⊢
  go_cut [9] (fun v wz => v = .bool true ∧ ∃ (q : Fp) (d' : Dk Sv) (n' : Int) (L' : L3r) (A' : Option Addr) (c' : Nat) (B' : Option Addr) (k' : Nat), RaS P w wz q0 gr q gs d' sp bo n' L' (d'.map Sv.l) A' c' B' k' L' n' x ∧ Fok d' ∧ Nmd d' ∧ d'.sure.length + d'.pend.length ≤ d.sure.length + d.pend.length + 4)
  case first =>
    rw [hkk] at hk
    obtain ⟨hq0, hq1⟩ := hk
    have q3 : (kk == 3) = false := by rw [beq_eq_false_iff_ne]; omega
    have q4 : (kk == 4) = false := by rw [beq_eq_false_iff_ne]; omega
    have q5 : (kk == 5) = false := by rw [beq_eq_false_iff_ne]; omega
    have q6 : (kk == 6) = false := by rw [beq_eq_false_iff_ne]; omega
    have q7 : (kk == 7) = false := by rw [beq_eq_false_iff_ne]; omega
    clear hkd hkk
    have hK := R29Acquire_any (T := Yr P w q0 gr) (d.map Sv.l) sp bo n L x.o x.n w4 HS.out.up HS.out.R (by rw [len_mapD]; omega) HF.out.2 HS.out.mm.st.dsk.ris.mapD (by rw [shown_map, fused_map]; exact p3)
    have HMp := Lib.hid (fun (ret : L3r) (k : Nat) (d' : Dk Sv) (L' : L3r) (n' : Int) (h : AcqO d L n sp bo x.o x.n ret k d' L' n') => acB_of h)
    unfold AcR at hK
    generalize acB (d.map Sv.l) L n sp bo x.o x.n = rm at *
    obtain ⟨rm1, rm2, rm3, rm4, rm5⟩ := rm
    dsimp only at hK
    have HK := Lib.hid hK
    clear hK
    unfold rrg at HK
    go_wp2_with fail
    refine HK.out.mono ?_
    clear HK
    rintro e w5 ⟨A5, c5, B5, k5, rfl, hR5, hb5⟩
    have hb6 := bel_alloc (below_new w5 (.cells #[.int .i64 rm1.1, .int .i64 rm1.2.1, .int .i64 rm1.2.2] 102)) (.cells (rrg rm2 A5 c5 B5 k5 sp bo rm3 rm4) 104)
    have hB16 := (Blk.new w5 102 #[.int .i64 rm1.1, .int .i64 rm1.2.1, .int .i64 rm1.2.2]).alloc (.cells (rrg rm2 A5 c5 B5 k5 sp bo rm3 rm4) 104)
    have hB17 := Blk.newAt (w := w5.alloc (.cells #[.int .i64 rm1.1, .int .i64 rm1.2.1, .int .i64 rm1.2.2] 102)) (g := w5.heap.size + 1) (by simp) 104 (rrg rm2 A5 c5 B5 k5 sp bo rm3 rm4)
    have HS6 := Lib.hid ((HS.out.call hb5).call hb6)
    have HR6 := Lib.hid (hR5.below hb6)
    have hsz5 := (HS.out.call hb5).b2.lt
    clear z0 z1 z2 z3 z4 z5 z6 z7 z8 z9 z10 zf0 zf1 zf2 zf3 zf4 zf5 zf6 zf7 zf8 zf9 zf10 y0 y1 y2 y3 y4 y5 y6 y7 y8 y9
    unfold rrg at HS6 HR6 hB16 hB17
    have HB16 := Lib.hid hB16
    have HB17 := Lib.hid hB17
    clear hR5 hb5 HS hb6 hB16 hB17
    try unfold rrg
    go_upto_region 4 with (fail)
    refine gen1 (T := fun W => RaS P w W q0 gr q0 gs d sp bo n L (d.map Sv.l) A c B k L n x ∧ Rdk (Yr P w q0 gr) W rm2 A5 c5 B5 k5 ∧ Blk W w5.heap.size 102 #[.int .i64 rm1.1, .int .i64 rm1.2.1, .int .i64 rm1.2.2] ∧ Blk W (w5.heap.size + 1) 104 (rrg rm2 A5 c5 B5 k5 sp bo rm3 rm4)) ⟨HS6.out, HR6.out, HB16.out, HB17.out⟩ (fun w6 hT => ?_)
    obtain ⟨hS6, hR6, hB16, hB17⟩ := hT
    clear HS6 HR6 HB16 HB17
    generalize w5.heap.size = g16 at *
    obtain ⟨z0, z1, z2, z3, z4, z5, z6, z7, z8, z9, z10⟩ := (hS6).b0.elev
    obtain ⟨zf0, zf1, zf2, zf3, zf4, zf5, zf6, zf7, zf8, zf9, zf10⟩ := (hS6).b0.frz
    obtain ⟨y0, y1, y2, y3, y4, y5, y6, y7, y8, y9⟩ := (hS6).b1.tenD
    have HWr := Lib.hid (RAcquire_any hS6.mm HF.out (by omega) x.o x.n)
    have hO16 : Off w6 q0 gr g16 102 #[.int .i64 rm1.1, .int .i64 rm1.2.1, .int .i64 rm1.2.2] := ⟨hB16, fun hq => by have := hLq _ hq; omega, by have := hS6.gn; omega⟩
    have hO17 : Off w6 q0 gr (g16 + 1) 104 (rrg rm2 A5 c5 B5 k5 sp bo rm3 rm4) := ⟨hB17, fun hq => by have := hLq _ hq; omega, by have := hS6.gn; omega⟩
    have HS := Lib.hid hS6
    have HR6 := Lib.hid hR6
    have HO16 := Lib.hid hO16
    have HO17 := Lib.hid hO17
    clear hS6 hR6 hB16 hB17 hO16 hO17
    go_wp2_with fail
    refine HWr.out.mono ?_
    clear HWr
    rintro e w7 ⟨ret, k8, d8, L8, n8, hG8, rfl, q8, hg8, hR8, hF8, hM8⟩
    have hE := HMp.out ret k8 d8 L8 n8 hG8
    injection hE with e1 hE
    injection hE with e2 hE
    injection hE with e3 hE
    injection hE with e4 e5
    subst e2
    have e1 := e1.symm
    have e3 := e3.symm
    have e4 := e4.symm
    have e5 := e5.symm
    subst e1 e3 e4 e5
    have hS8 := HS.out.rg hg8 hR8 hF8 hM8
    have hR9 := HR6.out.frg hF8 hM8
    have hO16 := HO16.out.frg hF8 hM8
    have hO17 := HO17.out.frg hF8 hM8
    obtain ⟨hf8, hn8, hl8⟩ := hG8.keeps HF.out HNm.out
    have HKp := Lib.hid (And.intro hf8 (And.intro hn8 hl8))
    have hb9 := below_new w7 (.cells #[.int .i64 ret.1, .int .i64 ret.2.1, .int .i64 ret.2.2] 56)
    have hB19 := Blk.new w7 56 #[.int .i64 ret.1, .int .i64 ret.2.1, .int .i64 ret.2.2]
    have HS9 := Lib.hid (hS8.call hb9)
    have HR9 := Lib.hid (hR9.below hb9)
    have HO16' := Lib.hid (hO16.blk.below hb9)
    have HO17' := Lib.hid (hO17.blk.below hb9)
    have HB19 := Lib.hid hB19
    have HN8 := Lib.hid (fun W => num_any k8 W)
    have hbe : ((k8 : Int) == (k8 : Int)) = true := by simp
    clear z0 z1 z2 z3 z4 z5 z6 z7 z8 z9 z10 zf0 zf1 zf2 zf3 zf4 zf5 zf6 zf7 zf8 zf9 zf10 y0 y1 y2 y3 y4 y5 y6 y7 y8 y9
    clear hG8 hg8 hR8 hF8 hM8 HS hf8 hn8 hl8 HMp hS8 hR9 hO16 hO17 hb9 hB19 HO16 HO17 HR6
    generalize errv k8 = ev at *
    go_upto_region 5 with (fail)
    refine gen1 (T := fun W => RaS P w W q0 gr q8 gs d8 sp bo n8 L8 (d.map Sv.l) A c B k L n x ∧ Rdk (Yr P w q8 gr) W (d8.map Sv.l) A5 c5 B5 k5 ∧ Blk W g16 102 #[.int .i64 ret.1, .int .i64 ret.2.1, .int .i64 ret.2.2] ∧ Blk W (g16 + 1) 104 (rrg (d8.map Sv.l) A5 c5 B5 k5 sp bo L8 n8) ∧ Blk W w7.heap.size 56 #[.int .i64 ret.1, .int .i64 ret.2.1, .int .i64 ret.2.2]) ⟨HS9.out, HR9.out, HO16'.out, HO17'.out, HB19.out⟩ (fun w8 hT => ?_)
    obtain ⟨hS9, hR9, hB16, hB17, hB19⟩ := hT
    clear HS9 HR9 HO16' HO17' HB19
    have hne19 : w7.heap.size ≠ w.heap.size := fun e => by
      have h1 := hB19
      rw [e] at h1
      have h2 := h1.symm.trans hS9.b0
      injection h2 with h2
      injection h2 with h2 h3
      exact absurd h3 (by decide)
    generalize w7.heap.size = g19 at *
    have hst : RaS P w (World.drew w8) q0 gr q8 gs d8 sp bo n8 L8 (d.map Sv.l) A c B k L n x := hS9.call (Below.drew (Below.refl _ _))
    obtain ⟨z0, z1, z2, z3, z4, z5, z6, z7, z8, z9, z10⟩ := (hS9).b0.elev
    obtain ⟨zf0, zf1, zf2, zf3, zf4, zf5, zf6, zf7, zf8, zf9, zf10⟩ := (hS9).b0.frz
    obtain ⟨y0, y1, y2, y3, y4, y5, y6, y7, y8, y9⟩ := (hS9).b1.tenD
    obtain ⟨e0, e1, e2, e3, e4, e5, e6, e7, e8, e9, e10⟩ := (hst).b0.elev
    obtain ⟨ef0, ef1, ef2, ef3, ef4, ef5, ef6, ef7, ef8, ef9, ef10⟩ := (hst).b0.frz
    have hst0 : Blk (World.drew w8) (g16 + 1) 104 (rrg (d8.map Sv.l) A5 c5 B5 k5 sp bo L8 n8) ∧ Blk (World.drew w8) g19 56 #[.int .i64 ret.1, .int .i64 ret.2.1, .int .i64 ret.2.2] ∧ Blk (World.drew w8) g16 102 #[.int .i64 ret.1, .int .i64 ret.2.1, .int .i64 ret.2.2] := ⟨hB17.drew, hB19.drew, hB16.drew⟩
    have HS10 := Lib.hid (show RaS P w (World.drew (setR w8 w.heap.size (d8.map Sv.l) A5 c5 B5 k5 sp bo L8 n8)) q0 gr q8 gs d8 sp bo n8 L8 (d8.map Sv.l) A5 c5 B5 k5 L8 n8 x from (hS9.ref hR9 L8 n8).call (Below.drew (Below.refl _ _)))
    have hne17 : g16 + 1 ≠ w.heap.size := by omega
    have hne16 : g16 ≠ w.heap.size := by omega
    have hw9 := wr_setR w8 w.heap.size (d8.map Sv.l) A5 c5 B5 k5 sp bo L8 n8
    have hst9 : Blk (World.drew (setR w8 w.heap.size (d8.map Sv.l) A5 c5 B5 k5 sp bo L8 n8)) (g16 + 1) 104 (rrg (d8.map Sv.l) A5 c5 B5 k5 sp bo L8 n8) ∧ Blk (World.drew (setR w8 w.heap.size (d8.map Sv.l) A5 c5 B5 k5 sp bo L8 n8)) g19 56 #[.int .i64 ret.1, .int .i64 ret.2.1, .int .i64 ret.2.2] ∧ Blk (World.drew (setR w8 w.heap.size (d8.map Sv.l) A5 c5 B5 k5 sp bo L8 n8)) g16 102 #[.int .i64 ret.1, .int .i64 ret.2.1, .int .i64 ret.2.2] := ⟨(hB17.wr hw9 hne17).drew, (hB19.wr hw9 hne19).drew, (hB16.wr hw9 hne16).drew⟩
    unfold rrg at hst0 hst9
    unfold setR at HS10 hst9
    clear hS9 hR9 hB16 hB17 hB19 hst hw9
    refine wp_region_held_drew (S := (fun W => Blk W (g16 + 1) 104 #[.int .i64 (d8.map Sv.l).room, .slice A5 (d8.map Sv.l).sure.length c5, .slice B5 (d8.map Sv.l).pend.length k5, .int .i64 (d8.map Sv.l).fuse, .bool (d8.map Sv.l).down, .int .i64 sp, .int .i64 bo, .int .i64 L8.1, .int .i64 L8.2.1, .int .i64 L8.2.2, .int .i64 n8] ∧ Blk W g19 56 #[.int .i64 ret.1, .int .i64 ret.2.1, .int .i64 ret.2.2] ∧ Blk W g16 102 #[.int .i64 ret.1, .int .i64 ret.2.1, .int .i64 ret.2.2])) (by kernel_rfl) ?_ (fun hHeld => ?_)
    · first | with_reducible exact hst0 | with_reducible exact hHeld | with_reducible exact hst9
    refine wpAnyH_take (i := 0) (oi := ⟨some 44, _, _, _, _, _⟩) (v := ?_) rfl (by kernel_rfl) (by kernel_rfl) (by kernel_rfl) (fun _ _ _ h => h) (Or.inl ⟨by kernel_rfl, ?_⟩) (by assumption) ?_
    rotate_left
    · (intro wS hSw; (try dsimp only at hSw); obtain ⟨r0, r1, r2, r3, r4, r5, r6, r7, r8, r9, r10⟩ := hSw.1.elev; obtain ⟨v0, v1, v2, -, -, -⟩ := hSw.2.1.three; obtain ⟨t0, t1, t2, -, -, -⟩ := hSw.2.2.three; clear hSw; go_simp; (try with_reducible rfl))
    (try simp only [Act.put, List.setIfInBounds_toArray, List.set_cons_zero, List.set_cons_succ])
    refine wpAnyH_take (i := 1) (oi := ⟨some 45, _, _, _, _, _⟩) (v := ?_) rfl (by kernel_rfl) (by kernel_rfl) (by kernel_rfl) (fun _ _ _ h => h) (Or.inl ⟨by kernel_rfl, ?_⟩) (by assumption) ?_
    rotate_left
    · (intro wS hSw; (try dsimp only at hSw); obtain ⟨r0, r1, r2, r3, r4, r5, r6, r7, r8, r9, r10⟩ := hSw.1.elev; obtain ⟨v0, v1, v2, -, -, -⟩ := hSw.2.1.three; obtain ⟨t0, t1, t2, -, -, -⟩ := hSw.2.2.three; clear hSw; go_simp; (try with_reducible rfl))
    (try simp only [Act.put, List.setIfInBounds_toArray, List.set_cons_zero, List.set_cons_succ])
    refine wpAnyH_take (i := 2) (oi := ⟨some 46, _, _, _, _, _⟩) (v := ?_) rfl (by kernel_rfl) (by kernel_rfl) (by kernel_rfl) (fun _ _ _ h => h) (Or.inl ⟨by kernel_rfl, ?_⟩) (by assumption) ?_
    rotate_left
    · (intro wS hSw; (try dsimp only at hSw); obtain ⟨r0, r1, r2, r3, r4, r5, r6, r7, r8, r9, r10⟩ := hSw.1.elev; obtain ⟨v0, v1, v2, -, -, -⟩ := hSw.2.1.three; obtain ⟨t0, t1, t2, -, -, -⟩ := hSw.2.2.three; clear hSw; go_simp; (try with_reducible rfl))
    (try simp only [Act.put, List.setIfInBounds_toArray, List.set_cons_zero, List.set_cons_succ])
    refine wpAnyH_take (i := 3) (oi := ⟨some 47, _, _, _, _, _⟩) (v := ?_) rfl (by kernel_rfl) (by kernel_rfl) (by kernel_rfl) (fun _ _ _ h => h) (Or.inl ⟨by kernel_rfl, ?_⟩) (by assumption) ?_
    rotate_left
    · (intro wS hSw; (try dsimp only at hSw); obtain ⟨r0, r1, r2, r3, r4, r5, r6, r7, r8, r9, r10⟩ := hSw.1.elev; obtain ⟨v0, v1, v2, -, -, -⟩ := hSw.2.1.three; obtain ⟨t0, t1, t2, -, -, -⟩ := hSw.2.2.three; clear hSw; go_simp; (try with_reducible rfl))
    (try simp only [Act.put, List.setIfInBounds_toArray, List.set_cons_zero, List.set_cons_succ])
    refine wpAnyH_take (i := 4) (oi := ⟨some 48, _, _, _, _, _⟩) (v := ?_) rfl (by kernel_rfl) (by kernel_rfl) (by kernel_rfl) (fun _ _ _ h => h) (Or.inl ⟨by kernel_rfl, ?_⟩) (by assumption) ?_
    rotate_left
    · (intro wS hSw; (try dsimp only at hSw); obtain ⟨r0, r1, r2, r3, r4, r5, r6, r7, r8, r9, r10⟩ := hSw.1.elev; obtain ⟨v0, v1, v2, -, -, -⟩ := hSw.2.1.three; obtain ⟨t0, t1, t2, -, -, -⟩ := hSw.2.2.three; clear hSw; go_simp; (try with_reducible rfl))
    (try simp only [Act.put, List.setIfInBounds_toArray, List.set_cons_zero, List.set_cons_succ])
    refine wpAnyH_take (i := 5) (oi := ⟨some 49, _, _, _, _, _⟩) (v := ?_) rfl (by kernel_rfl) (by kernel_rfl) (by kernel_rfl) (fun _ _ _ h => h) (Or.inl ⟨by kernel_rfl, ?_⟩) (by assumption) ?_
    rotate_left
    · (intro wS hSw; (try dsimp only at hSw); obtain ⟨r0, r1, r2, r3, r4, r5, r6, r7, r8, r9, r10⟩ := hSw.1.elev; obtain ⟨v0, v1, v2, -, -, -⟩ := hSw.2.1.three; obtain ⟨t0, t1, t2, -, -, -⟩ := hSw.2.2.three; clear hSw; go_simp; (try with_reducible rfl))
    (try simp only [Act.put, List.setIfInBounds_toArray, List.set_cons_zero, List.set_cons_succ])
    refine wpAnyH_take (i := 7) (oi := ⟨some 51, _, _, _, _, _⟩) (v := ?_) rfl (by kernel_rfl) (by kernel_rfl) (by kernel_rfl) (fun _ _ _ h => h) (Or.inl ⟨by kernel_rfl, ?_⟩) (by assumption) ?_
    rotate_left
    · (intro wS hSw; (try dsimp only at hSw); obtain ⟨r0, r1, r2, r3, r4, r5, r6, r7, r8, r9, r10⟩ := hSw.1.elev; obtain ⟨v0, v1, v2, -, -, -⟩ := hSw.2.1.three; obtain ⟨t0, t1, t2, -, -, -⟩ := hSw.2.2.three; clear hSw; go_simp; (try with_reducible rfl))
    (try simp only [Act.put, List.setIfInBounds_toArray, List.set_cons_zero, List.set_cons_succ])
    refine wpAnyH_ready (rs := [6]) (by kernel_rfl) (by simp) ?_
    refine AllReadyH.cons (o := ⟨some 50, _, _, _, _, _⟩) rfl (fun K hK => ?_) AllReadyH.nil
    go_simp
    (refine (HN8.out _).mono ?_; rintro e w9 ⟨rfl, rfl⟩)
    go_wp2_with fail
    refine hK.out _ _ ?_ (fun hHeld => ?_)
    · ((try dsimp only); (with_reducible exact hst0))
    clear hK K
    (try simp only [Act.put, List.setIfInBounds_toArray, List.set_cons_zero, List.set_cons_succ])
    refine wpAnyH_take (i := 8) (oi := ⟨some 52, _, _, _, _, _⟩) (v := ?_) rfl (by kernel_rfl) (by kernel_rfl) (by kernel_rfl) (fun _ _ _ h => h) (Or.inl ⟨by kernel_rfl, ?_⟩) (by assumption) ?_
    rotate_left
    · (intro wS hSw; (try dsimp only at hSw); obtain ⟨r0, r1, r2, r3, r4, r5, r6, r7, r8, r9, r10⟩ := hSw.1.elev; obtain ⟨v0, v1, v2, -, -, -⟩ := hSw.2.1.three; obtain ⟨t0, t1, t2, -, -, -⟩ := hSw.2.2.three; clear hSw; go_simp; (try with_reducible rfl))
    (try simp only [Act.put, List.setIfInBounds_toArray, List.set_cons_zero, List.set_cons_succ])
    refine wpAnyH_take (i := 9) (oi := ⟨some 53, _, _, _, _, _⟩) (v := ?_) rfl (by kernel_rfl) (by kernel_rfl) (by kernel_rfl) (fun _ _ _ h => h) (Or.inl ⟨by kernel_rfl, ?_⟩) (by assumption) ?_
    rotate_left
    · (intro wS hSw; (try dsimp only at hSw); obtain ⟨r0, r1, r2, r3, r4, r5, r6, r7, r8, r9, r10⟩ := hSw.1.elev; obtain ⟨v0, v1, v2, -, -, -⟩ := hSw.2.1.three; obtain ⟨t0, t1, t2, -, -, -⟩ := hSw.2.2.three; clear hSw; go_simp; (try with_reducible rfl))
    (try simp only [Act.put, List.setIfInBounds_toArray, List.set_cons_zero, List.set_cons_succ])
    refine wpAnyH_ready (rs := [10]) (by kernel_rfl) (by simp) ?_
    refine AllReadyH.cons (o := ⟨none, _, _, _, _, _⟩) rfl (fun K hK => ?_) AllReadyH.nil
    go_simp
    refine hK.out _ _ ?_ (fun hHeld => ?_)
    · ((try dsimp only); (with_reducible exact hst9))
    clear hK K
    (try simp only [Act.put, List.setIfInBounds_toArray, List.set_cons_zero, List.set_cons_succ])
    refine wpAnyH_take (i := 11) (oi := ⟨some 9, _, _, _, _, _⟩) (v := ?_) rfl (by kernel_rfl) (by kernel_rfl) (by kernel_rfl) (fun _ _ _ h => h) (Or.inl ⟨by kernel_rfl, ?_⟩) (by assumption) ?_
    rotate_left
    · (intro wS hSw; (try dsimp only at hSw); obtain ⟨r0, r1, r2, r3, r4, r5, r6, r7, r8, r9, r10⟩ := hSw.1.elev; obtain ⟨v0, v1, v2, -, -, -⟩ := hSw.2.1.three; obtain ⟨t0, t1, t2, -, -, -⟩ := hSw.2.2.three; clear hSw; go_simp; (try with_reducible rfl))
    (try simp only [Act.put, List.setIfInBounds_toArray, List.set_cons_zero, List.set_cons_succ])
    refine wpAnyH_done (by kernel_rfl) ?_ _
    clear z0 z1 z2 z3 z4 z5 z6 z7 z8 z9 z10 zf0 zf1 zf2 zf3 zf4 zf5 zf6 zf7 zf8 zf9 zf10 y0 y1 y2 y3 y4 y5 y6 y7 y8 y9
    clear e0 e1 e2 e3 e4 e5 e6 e7 e8 e9 e10 ef0 ef1 ef2 ef3 ef4 ef5 ef6 ef7 ef8 ef9 ef10
    go_wp2_with fail
    go_meet
    exact ⟨rfl, q8, d8, n8, L8, A5, c5, B5, k5, HS10.out, HKp.out.1, HKp.out.2.1, HKp.out.2.2⟩
  case rest =>
    obtain ⟨rfl, q8, d8, n8, L8, A8, c8, B8, k8, hS8, hf8, hn8, hl8⟩ := hcut
    have HK8 := Lib.hid (And.intro hf8 (And.intro hn8 hl8))
    have hl9 : d8.sure.length + d8.pend.length ≤ 1000 := by omega
    have hst := hS8.call (Below.drew (Below.refl _ _))
    have HLe := Lib.hid (RLease_any hst.mm)
    have HSt := Lib.hid hst
    have hst0 : Blk (World.drew wc) w.heap.size 104 (rrg (d8.map Sv.l) A8 c8 B8 k8 sp bo L8 n8) := hst.b0
    unfold rrg at hst0
    have hne2 : w.heap.size ≠ w.heap.size + 2 := by omega
    clear z0 z1 z2 z3 z4 z5 z6 z7 z8 z9 z10 zf0 zf1 zf2 zf3 zf4 zf5 zf6 zf7 zf8 zf9 zf10 y0 y1 y2 y3 y4 y5 y6 y7 y8 y9
    clear hS8 hf8 hn8 hl8 hst HS hkk hkd
    go_upto_region 22 with (fail)
    refine wp_region_held_drew (S := (fun W => Blk W w.heap.size 104 #[.int .i64 (d8.map Sv.l).room, .slice A8 (d8.map Sv.l).sure.length c8, .slice B8 (d8.map Sv.l).pend.length k8, .int .i64 (d8.map Sv.l).fuse, .bool (d8.map Sv.l).down, .int .i64 sp, .int .i64 bo, .int .i64 L8.1, .int .i64 L8.2.1, .int .i64 L8.2.2, .int .i64 n8])) (by kernel_rfl) ?_ (fun hHeld => ?_)
    · first | with_reducible exact hst0 | with_reducible exact hHeld | exact hHeld.below hb9 | exact hHeld.below hb10 | exact Blk.wr hHeld (wr_setR w10 (w.heap.size + 2) (d8.map Sv.l) A8 c8 B8 k8 sp bo L8 n8) hne2
    refine wpAnyH_take (i := 0) (oi := ⟨some 125, _, _, _, _, _⟩) (v := ?_) rfl (by kernel_rfl) (by kernel_rfl) (by kernel_rfl) (fun _ _ _ h => h) (Or.inl ⟨by kernel_rfl, ?_⟩) (by assumption) ?_
    rotate_left
    · (intro wS hSw; (try dsimp only at hSw); obtain ⟨z0, z1, z2, z3, z4, z5, z6, z7, z8, z9, z10⟩ := hSw.elev; clear hSw; go_simp; (try with_reducible rfl))
    (try simp only [Act.put, List.setIfInBounds_toArray, List.set_cons_zero, List.set_cons_succ])
    refine wpAnyH_take (i := 1) (oi := ⟨some 126, _, _, _, _, _⟩) (v := ?_) rfl (by kernel_rfl) (by kernel_rfl) (by kernel_rfl) (fun _ _ _ h => h) (Or.inl ⟨by kernel_rfl, ?_⟩) (by assumption) ?_
    rotate_left
    · (intro wS hSw; (try dsimp only at hSw); obtain ⟨z0, z1, z2, z3, z4, z5, z6, z7, z8, z9, z10⟩ := hSw.elev; clear hSw; go_simp; (try with_reducible rfl))
    (try simp only [Act.put, List.setIfInBounds_toArray, List.set_cons_zero, List.set_cons_succ])
    refine wpAnyH_take (i := 2) (oi := ⟨some 127, _, _, _, _, _⟩) (v := ?_) rfl (by kernel_rfl) (by kernel_rfl) (by kernel_rfl) (fun _ _ _ h => h) (Or.inl ⟨by kernel_rfl, ?_⟩) (by assumption) ?_
    rotate_left
    · (intro wS hSw; (try dsimp only at hSw); obtain ⟨z0, z1, z2, z3, z4, z5, z6, z7, z8, z9, z10⟩ := hSw.elev; clear hSw; go_simp; (try with_reducible rfl))
    (try simp only [Act.put, List.setIfInBounds_toArray, List.set_cons_zero, List.set_cons_succ])
    refine wpAnyH_take (i := 3) (oi := ⟨some 128, _, _, _, _, _⟩) (v := ?_) rfl (by kernel_rfl) (by kernel_rfl) (by kernel_rfl) (fun _ _ _ h => h) (Or.inl ⟨by kernel_rfl, ?_⟩) (by assumption) ?_
    rotate_left
    · (intro wS hSw; (try dsimp only at hSw); obtain ⟨z0, z1, z2, z3, z4, z5, z6, z7, z8, z9, z10⟩ := hSw.elev; clear hSw; go_simp; (try with_reducible rfl))
    (try simp only [Act.put, List.setIfInBounds_toArray, List.set_cons_zero, List.set_cons_succ])
    refine wpAnyH_take (i := 4) (oi := ⟨some 129, _, _, _, _, _⟩) (v := ?_) rfl (by kernel_rfl) (by kernel_rfl) (by kernel_rfl) (fun _ _ _ h => h) (Or.inl ⟨by kernel_rfl, ?_⟩) (by assumption) ?_
    rotate_left
    · (intro wS hSw; (try dsimp only at hSw); obtain ⟨z0, z1, z2, z3, z4, z5, z6, z7, z8, z9, z10⟩ := hSw.elev; clear hSw; go_simp; (try with_reducible rfl))
    (try simp only [Act.put, List.setIfInBounds_toArray, List.set_cons_zero, List.set_cons_succ])
    refine wpAnyH_take (i := 6) (oi := ⟨some 131, _, _, _, _, _⟩) (v := ?_) rfl (by kernel_rfl) (by kernel_rfl) (by kernel_rfl) (fun _ _ _ h => h) (Or.inl ⟨by kernel_rfl, ?_⟩) (by assumption) ?_
    rotate_left
    · (intro wS hSw; (try dsimp only at hSw); obtain ⟨z0, z1, z2, z3, z4, z5, z6, z7, z8, z9, z10⟩ := hSw.elev; clear hSw; go_simp; (try with_reducible rfl))
    (try simp only [Act.put, List.setIfInBounds_toArray, List.set_cons_zero, List.set_cons_succ])
    refine wpAnyH_take (i := 7) (oi := ⟨some 132, _, _, _, _, _⟩) (v := ?_) rfl (by kernel_rfl) (by kernel_rfl) (by kernel_rfl) (fun _ _ _ h => h) (Or.inl ⟨by kernel_rfl, ?_⟩) (by assumption) ?_
    rotate_left
    · (intro wS hSw; (try dsimp only at hSw); obtain ⟨z0, z1, z2, z3, z4, z5, z6, z7, z8, z9, z10⟩ := hSw.elev; clear hSw; go_simp; (try with_reducible rfl))
    (try simp only [Act.put, List.setIfInBounds_toArray, List.set_cons_zero, List.set_cons_succ])
    refine wpAnyH_ready (rs := [5]) (by kernel_rfl) (by simp) ?_
    refine AllReadyH.cons (o := ⟨some 130, _, _, _, _, _⟩) rfl (fun K hK => ?_) AllReadyH.nil
    go_simp
    (refine HLe.out.mono ?_; rintro e w9 ⟨rfl, hb9⟩; have HS9 := Lib.hid (HSt.out.call hb9))
    go_wp2_with fail
    refine hK.out _ _ ?_ (fun hHeld => ?_)
    · ((try dsimp only); (exact hHeld.below hb9))
    clear hK K
    (try simp only [Act.put, List.setIfInBounds_toArray, List.set_cons_zero, List.set_cons_succ])
    refine wpAnyH_take (i := 8) (oi := ⟨some 133, _, _, _, _, _⟩) (v := ?_) rfl (by kernel_rfl) (by kernel_rfl) (by kernel_rfl) (fun _ _ _ h => h) (Or.inl ⟨by kernel_rfl, ?_⟩) (by assumption) ?_
    rotate_left
    · (intro wS hSw; (try dsimp only at hSw); obtain ⟨z0, z1, z2, z3, z4, z5, z6, z7, z8, z9, z10⟩ := hSw.elev; clear hSw; go_simp; (try with_reducible rfl))
    (try simp only [Act.put, List.setIfInBounds_toArray, List.set_cons_zero, List.set_cons_succ])
    refine wpAnyH_take (i := 9) (oi := ⟨some 134, _, _, _, _, _⟩) (v := ?_) rfl (by kernel_rfl) (by kernel_rfl) (by kernel_rfl) (fun _ _ _ h => h) (Or.inl ⟨by kernel_rfl, ?_⟩) (by assumption) ?_
    rotate_left
    · (intro wS hSw; (try dsimp only at hSw); obtain ⟨z0, z1, z2, z3, z4, z5, z6, z7, z8, z9, z10⟩ := hSw.elev; clear hSw; go_simp; (try with_reducible rfl))
    (try simp only [Act.put, List.setIfInBounds_toArray, List.set_cons_zero, List.set_cons_succ])
    refine wpAnyH_take (i := 10) (oi := ⟨some 135, _, _, _, _, _⟩) (v := ?_) rfl (by kernel_rfl) (by kernel_rfl) (by kernel_rfl) (fun _ _ _ h => h) (Or.inl ⟨by kernel_rfl, ?_⟩) (by assumption) ?_
    rotate_left
    · (intro wS hSw; (try dsimp only at hSw); obtain ⟨z0, z1, z2, z3, z4, z5, z6, z7, z8, z9, z10⟩ := hSw.elev; clear hSw; go_simp; (try with_reducible rfl))
    (try simp only [Act.put, List.setIfInBounds_toArray, List.set_cons_zero, List.set_cons_succ])
    refine wpAnyH_take (i := 11) (oi := ⟨some 136, _, _, _, _, _⟩) (v := ?_) rfl (by kernel_rfl) (by kernel_rfl) (by kernel_rfl) (fun _ _ _ h => h) (Or.inl ⟨by kernel_rfl, ?_⟩) (by assumption) ?_
    rotate_left
    · (intro wS hSw; (try dsimp only at hSw); obtain ⟨z0, z1, z2, z3, z4, z5, z6, z7, z8, z9, z10⟩ := hSw.elev; clear hSw; go_simp; (try with_reducible rfl))
    (try simp only [Act.put, List.setIfInBounds_toArray, List.set_cons_zero, List.set_cons_succ])
    refine wpAnyH_take (i := 13) (oi := ⟨some 138, _, _, _, _, _⟩) (v := ?_) rfl (by kernel_rfl) (by kernel_rfl) (by kernel_rfl) (fun _ _ _ h => h) (Or.inl ⟨by kernel_rfl, ?_⟩) (by assumption) ?_
    rotate_left
    · (intro wS hSw; (try dsimp only at hSw); obtain ⟨z0, z1, z2, z3, z4, z5, z6, z7, z8, z9, z10⟩ := hSw.elev; clear hSw; go_simp; (try with_reducible rfl))
    (try simp only [Act.put, List.setIfInBounds_toArray, List.set_cons_zero, List.set_cons_succ])
    refine wpAnyH_take (i := 14) (oi := ⟨some 139, _, _, _, _, _⟩) (v := ?_) rfl (by kernel_rfl) (by kernel_rfl) (by kernel_rfl) (fun _ _ _ h => h) (Or.inl ⟨by kernel_rfl, ?_⟩) (by assumption) ?_
    rotate_left
    · (intro wS hSw; (try dsimp only at hSw); obtain ⟨z0, z1, z2, z3, z4, z5, z6, z7, z8, z9, z10⟩ := hSw.elev; clear hSw; go_simp; (try with_reducible rfl))
    (try simp only [Act.put, List.setIfInBounds_toArray, List.set_cons_zero, List.set_cons_succ])
    refine wpAnyH_ready (rs := [12]) (by kernel_rfl) (by simp) ?_
    refine AllReadyH.cons (o := ⟨some 137, _, _, _, _, _⟩) rfl (fun K hK => ?_) AllReadyH.nil
    go_simp
    (refine (RGrants_any HS9.out.mm).mono ?_; rintro e w9' ⟨rfl, rfl⟩)
    go_wp2_with fail
    refine hK.out _ _ ?_ (fun hHeld => ?_)
    · ((try dsimp only); (with_reducible exact hHeld))
    clear hK K
    (try simp only [Act.put, List.setIfInBounds_toArray, List.set_cons_zero, List.set_cons_succ])
    refine wpAnyH_take (i := 15) (oi := ⟨some 140, _, _, _, _, _⟩) (v := ?_) rfl (by kernel_rfl) (by kernel_rfl) (by kernel_rfl) (fun _ _ _ h => h) (Or.inl ⟨by kernel_rfl, ?_⟩) (by assumption) ?_
    rotate_left
    · (intro wS hSw; (try dsimp only at hSw); obtain ⟨z0, z1, z2, z3, z4, z5, z6, z7, z8, z9, z10⟩ := hSw.elev; clear hSw; go_simp; (try with_reducible rfl))
    (try simp only [Act.put, List.setIfInBounds_toArray, List.set_cons_zero, List.set_cons_succ])
    refine wpAnyH_take (i := 16) (oi := ⟨some 141, _, _, _, _, _⟩) (v := ?_) rfl (by kernel_rfl) (by kernel_rfl) (by kernel_rfl) (fun _ _ _ h => h) (Or.inl ⟨by kernel_rfl, ?_⟩) (by assumption) ?_
    rotate_left
    · (intro wS hSw; (try dsimp only at hSw); obtain ⟨z0, z1, z2, z3, z4, z5, z6, z7, z8, z9, z10⟩ := hSw.elev; clear hSw; go_simp; (try with_reducible rfl))
    (try simp only [Act.put, List.setIfInBounds_toArray, List.set_cons_zero, List.set_cons_succ])
    refine wpAnyH_take (i := 17) (oi := ⟨some 142, _, _, _, _, _⟩) (v := ?_) rfl (by kernel_rfl) (by kernel_rfl) (by kernel_rfl) (fun _ _ _ h => h) (Or.inl ⟨by kernel_rfl, ?_⟩) (by assumption) ?_
    rotate_left
    · (intro wS hSw; (try dsimp only at hSw); obtain ⟨z0, z1, z2, z3, z4, z5, z6, z7, z8, z9, z10⟩ := hSw.elev; clear hSw; go_simp; (try with_reducible rfl))
    (try simp only [Act.put, List.setIfInBounds_toArray, List.set_cons_zero, List.set_cons_succ])
    refine wpAnyH_take (i := 18) (oi := ⟨some 143, _, _, _, _, _⟩) (v := ?_) rfl (by kernel_rfl) (by kernel_rfl) (by kernel_rfl) (fun _ _ _ h => h) (Or.inl ⟨by kernel_rfl, ?_⟩) (by assumption) ?_
    rotate_left
    · (intro wS hSw; (try dsimp only at hSw); obtain ⟨z0, z1, z2, z3, z4, z5, z6, z7, z8, z9, z10⟩ := hSw.elev; clear hSw; go_simp; (try with_reducible rfl))
    (try simp only [Act.put, List.setIfInBounds_toArray, List.set_cons_zero, List.set_cons_succ])
    refine wpAnyH_take (i := 20) (oi := ⟨some 145, _, _, _, _, _⟩) (v := ?_) rfl (by kernel_rfl) (by kernel_rfl) (by kernel_rfl) (fun _ _ _ h => h) (Or.inl ⟨by kernel_rfl, ?_⟩) (by assumption) ?_
    rotate_left
    · (intro wS hSw; (try dsimp only at hSw); obtain ⟨z0, z1, z2, z3, z4, z5, z6, z7, z8, z9, z10⟩ := hSw.elev; clear hSw; go_simp; (try with_reducible rfl))
    (try simp only [Act.put, List.setIfInBounds_toArray, List.set_cons_zero, List.set_cons_succ])
    refine wpAnyH_take (i := 21) (oi := ⟨some 146, _, _, _, _, _⟩) (v := ?_) rfl (by kernel_rfl) (by kernel_rfl) (by kernel_rfl) (fun _ _ _ h => h) (Or.inl ⟨by kernel_rfl, ?_⟩) (by assumption) ?_
    rotate_left
    · (intro wS hSw; (try dsimp only at hSw); obtain ⟨z0, z1, z2, z3, z4, z5, z6, z7, z8, z9, z10⟩ := hSw.elev; clear hSw; go_simp; (try with_reducible rfl))
    (try simp only [Act.put, List.setIfInBounds_toArray, List.set_cons_zero, List.set_cons_succ])
    refine wpAnyH_ready (rs := [19]) (by kernel_rfl) (by simp) ?_
    refine AllReadyH.cons (o := ⟨some 144, _, _, _, _, _⟩) rfl (fun K hK => ?_) AllReadyH.nil
    go_simp
    (refine (RDisk_any HS9.out.mm).mono ?_; rintro e w9' ⟨rfl, rfl⟩)
    go_wp2_with fail
    refine hK.out _ _ ?_ (fun hHeld => ?_)
    · ((try dsimp only); (with_reducible exact hHeld))
    clear hK K
    (try simp only [Act.put, List.setIfInBounds_toArray, List.set_cons_zero, List.set_cons_succ])
    refine wpAnyH_ready (rs := [22]) (by kernel_rfl) (by simp) ?_
    refine AllReadyH.cons (o := ⟨some 147, _, _, _, _, _⟩) rfl (fun K hK => ?_) AllReadyH.nil
    go_simp
    (have hSh := Shows_any HS9.out.mm.st.dsk HS9.out.R hl9; unfold rda at hSh; refine hSh.mono ?_; rintro e w10 ⟨rfl, hb10⟩; have hS10 := HS9.out.call hb10; clear hSh; obtain ⟨x0, x1, x2, x3, x4, x5, x6, x7, x8, x9, x10⟩ := hS10.b2.elev; obtain ⟨xf0, xf1, xf2, xf3, xf4, xf5, xf6, xf7, xf8, xf9, xf10⟩ := hS10.b2.frz)
    go_wp2_with fail
    refine hK.out _ _ ?_ (fun hHeld => ?_)
    · ((try dsimp only); (exact hHeld.below hb10))
    clear hK K
    (try simp only [Act.put, List.setIfInBounds_toArray, List.set_cons_zero, List.set_cons_succ])
    refine wpAnyH_take (i := 23) (oi := ⟨some 148, _, _, _, _, _⟩) (v := ?_) rfl (by kernel_rfl) (by kernel_rfl) (by kernel_rfl) (fun _ _ _ h => h) (Or.inl ⟨by kernel_rfl, ?_⟩) (by assumption) ?_
    rotate_left
    · (intro wS hSw; (try dsimp only at hSw); obtain ⟨z0, z1, z2, z3, z4, z5, z6, z7, z8, z9, z10⟩ := hSw.elev; clear hSw; go_simp; (try with_reducible rfl))
    (try simp only [Act.put, List.setIfInBounds_toArray, List.set_cons_zero, List.set_cons_succ])
    refine wpAnyH_take (i := 24) (oi := ⟨some 6, _, _, _, _, _⟩) (v := ?_) rfl (by kernel_rfl) (by kernel_rfl) (by kernel_rfl) (fun _ _ _ h => h) (Or.inl ⟨by kernel_rfl, ?_⟩) (by assumption) ?_
    rotate_left
    · (intro wS hSw; (try dsimp only at hSw); obtain ⟨z0, z1, z2, z3, z4, z5, z6, z7, z8, z9, z10⟩ := hSw.elev; clear hSw; go_simp; (try with_reducible rfl))
    (try simp only [Act.put, List.setIfInBounds_toArray, List.set_cons_zero, List.set_cons_succ])
    refine wpAnyH_ready (rs := [25]) (by kernel_rfl) (by simp) ?_
    refine AllReadyH.cons (o := ⟨none, _, _, _, _, _⟩) rfl (fun K hK => ?_) AllReadyH.nil
    go_simp
    refine hK.out _ _ ?_ (fun hHeld => ?_)
    · ((try dsimp only); (exact Blk.wr hHeld (wr_setR w10 (w.heap.size + 2) (d8.map Sv.l) A8 c8 B8 k8 sp bo L8 n8) hne2))
    clear hK K
    (try simp only [Act.put, List.setIfInBounds_toArray, List.set_cons_zero, List.set_cons_succ])
    refine wpAnyH_take (i := 26) (oi := ⟨some 8, _, _, _, _, _⟩) (v := ?_) rfl (by kernel_rfl) (by kernel_rfl) (by kernel_rfl) (fun _ _ _ h => h) (Or.inl ⟨by kernel_rfl, ?_⟩) (by assumption) ?_
    rotate_left
    · (intro wS hSw; (try dsimp only at hSw); obtain ⟨z0, z1, z2, z3, z4, z5, z6, z7, z8, z9, z10⟩ := hSw.elev; clear hSw; go_simp; (try with_reducible rfl))
    (try simp only [Act.put, List.setIfInBounds_toArray, List.set_cons_zero, List.set_cons_succ])
    refine wpAnyH_done (by kernel_rfl) ?_ _
    obtain ⟨o1, o2, o3⟩ := hS10.out (wr_setR w10 (w.heap.size + 2) (d8.map Sv.l) A8 c8 B8 k8 sp bo L8 n8)
    have hBB := hS10.b2.setR (d8.map Sv.l) A8 c8 B8 k8 sp bo L8 n8
    have HO := Lib.hid (show RaG P w q0 gr gs d sp bo (.returned (.tuple #[ptrO (some (gr, gs)), .agg (rrg (d8.map Sv.l) A8 c8 B8 k8 sp bo L8 n8), .bool true])) _ from ⟨q8, some (gr, gs), d8, A8, c8, B8, k8, sp, bo, n8, L8, rfl, hS10.g, o1.st.dsk, o2, hS10.M, fun p hp => by injection hp with hp; subst hp; exact ⟨rfl, rfl, HK8.out.1, HK8.out.2.1, HK8.out.2.2, o1, o3, .inl rfl, .inl rfl⟩⟩)
    unfold setR at HO hBB
    unfold rrg at HO hBB
    dsimp only [ptrO] at HO
    have HB9 := Lib.hid hBB
    clear o1 o2 o3 hBB x0 x1 x2 x3 x4 x5 x6 x7 x8 x9 x10 xf0 xf1 xf2 xf3 xf4 xf5 xf6 xf7 xf8 xf9 xf10 hS10 HS9 HSt HLe
    go_wp2_with fail
    exact bodyPost_ret (res_o3 rfl rfl (g := w.heap.size + 2) HB9.out) rfl HO.out
end Go.Proofs.YtddmfoldnlafaaaGreatDoor
