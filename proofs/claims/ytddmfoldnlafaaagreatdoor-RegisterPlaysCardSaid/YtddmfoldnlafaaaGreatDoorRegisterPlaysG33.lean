/- WHAT IT HOLDS: an act on a register and on the document's done: walked. -/
import Derived.Test.YtddmfoldnlafaaaGreatDoorRegisterPlaysG28
import Derived.Test.YtddmfoldnlafaaaGreatDoorRegisterPlaysG17
import Derived.Deep.CutBlock
import Derived.Deep.DeepCutAuto
namespace Go.Proofs.YtddmfoldnlafaaaGreatDoor
open Go.RowKit Go.Maps Go.Sort
attribute [local go_sem ↓] Go.wp_at_zero Go.wp_at_succ

set_option maxRecDepth 100000 in
set_option maxHeartbeats 20000000 in
theorem RaAct_trn7 {P : Nat → Prop} {w : World} {q0 : Fp} {gr gs : Nat} {d : Dk Sv} {A B : Option Addr} {c k Lb : Nat} {sp bo n : Int} {L : L3r} (x : RA) (h : RgM w gr gs q0 d sp bo L n) (hf : Fok d) (hn : Nmd d) (hR : Rdk (Yo P q0 (some (gr, gs))) w (d.map Sv.l) A c B k) (hP : ∀ i, w.heap.size ≤ i → P i) (hok : SlZ w x.B x.kc x.ks ∧ SlB w x.d.A x.d.c x.d.l ∧ SlZ w x.d.B x.d.kc x.d.ks) (hx2 : x.ks ≠ [] → ∀ ad, x.B = some ad → ad.block < Lb) (hx3 : x.d.l ≠ [] → ∀ ad, x.d.A = some ad → ad.block < Lb) (hx4 : x.d.ks ≠ [] → ∀ ad, x.d.B = some ad → ad.block < Lb) (hL : ∀ i, q0.M i → Lb ≤ i) (hLg : Lb ≤ gr) (hfx : x.d.f ≤ 9223372036854775807) (hsh : x.long = false) (hl : d.sure.length + d.pend.length ≤ 160) (hb : ¬ rgBad sp bo) (hk : (IntKind.u64.wrap x.k).tmod 8 = 7) :
    Calls Tryz.prog 44 #[.pointer (some ⟨gr, 0, none⟩), .agg (rrg (d.map Sv.l) A c B k sp bo L n), .agg (racta x)] w fun e w' => RaG P w q0 gr gs d sp bo e w' := by
  have hb1 := bel_alloc (bel_alloc (below_new w (.cells (rrg (d.map Sv.l) A c B k sp bo L n) 104)) (.cells (racta x) 64)) (.cells rrz 104)
  have hB0 := ((Blk.new w 104 (rrg (d.map Sv.l) A c B k sp bo L n)).alloc (.cells (racta x) 64)).alloc (.cells rrz 104)
  have hB1 := (Blk.newAt (w := w.alloc (.cells (rrg (d.map Sv.l) A c B k sp bo L n) 104)) (g := w.heap.size + 1) (by simp) 64 (racta x)).alloc (.cells rrz 104)
  have hB2 := Blk.newAt (w := (w.alloc (.cells (rrg (d.map Sv.l) A c B k sp bo L n) 104)).alloc (.cells (racta x) 64)) (g := w.heap.size + 2) (by simp) 104 rrz
  have hS0 : RaS P w (((w.alloc (.cells (rrg (d.map Sv.l) A c B k sp bo L n) 104)).alloc (.cells (racta x) 64)).alloc (.cells rrz 104)) q0 gr q0 gs d sp bo n L (d.map Sv.l) A c B k L n x := by
    have hg := h.blk.lt
    have hg2 := h.st.blk.lt
    have hq : ∀ i, w.heap.size ≤ i → ¬ q0.M i := fun i hi hm => by
      have := h.st.dsk.ltM hm
      omega
    refine ⟨h.below hb1, rfl, Frg.of_below gr hb1, fun i hi => .inl hi, hB0, hB1, hB2, ⟨hq _ (by omega), hq _ (by omega), hq _ (by omega)⟩, ⟨hg, hg2⟩, ?_, fun i hi => hP i (Nat.le_trans hb1.size hi)⟩
    exact hR.sameH (fun i hi ht => ⟨ht.1, ht.2.1 _ rfl, ht.2.2, by omega, by omega⟩) hb1.size fun i hi _ => hb1.block i hi
  have hshs := RA.short hsh
  obtain ⟨p1, p2, p3, -⟩ := hS0.mm.st.dsk.fits (k := 400) (by omega) (by omega)
  have hno : ∀ W, Frg q0 gr w W → ∀ i, i < Lb → W.heap[i]? = w.heap[i]? := fun W hF i hi => hF.block i (by have := h.blk.lt; omega) (fun hq => by have := hL _ hq; omega) (by omega)
  have hLq : ∀ i, q0.M i → i < w.heap.size := fun i hi => h.st.dsk.ltM hi
  have HSz := Lib.hid (show ∀ W, Frg q0 gr w W → SlZ W x.B x.kc x.ks from fun W hF => SlZ.sameB hok.1 fun hne ad hA => hno W hF _ (hx2 hne ad hA))
  have HSdx := Lib.hid (show ∀ W, Frg q0 gr w W → SlB W x.d.A x.d.c x.d.l from fun W hF => SlB.sameB hok.2.1 fun hne ad hA => hno W hF _ (hx3 hne ad hA))
  have HSdz := Lib.hid (show ∀ W, Frg q0 gr w W → SlZ W x.d.B x.d.kc x.d.ks from fun W hF => SlZ.sameB hok.2.2 fun hne ad hA => hno W hF _ (hx4 hne ad hA))
  have HX := Lib.hid (And.intro hx2 (And.intro hx3 hx4))
  have HL := Lib.hid (And.intro hL hLg)
  have HFx := Lib.hid hfx
  have HF := Lib.hid hf
  have HNm := Lib.hid hn
  have HBd := Lib.hid hb
  have HS0 := Lib.hid hS0
  obtain ⟨s1, s2⟩ := hshs
  clear hb1 hB0 hB1 hB2 hS0 h hf hn hR hP hok hx2 hx3 hx4 hL hLg hfx hsh hno hb
  unfold rrg at HS0
  go_enter Tryz.func44, Tryz.ntmps44
  try unfold rrg
  go_upto_region 2 with (fail)
  refine gen1 (T := fun W => RaS P w W q0 gr q0 gs d sp bo n L (d.map Sv.l) A c B k L n x) HS0.out (fun w4 hS => ?_)
  clear HS0
  rw [show w.heap.size + 1 + 1 = w.heap.size + 2 from rfl]
  obtain ⟨z0, z1, z2, z3, z4, z5, z6, z7, z8, z9, z10⟩ := (hS).b0.elev
  obtain ⟨zf0, zf1, zf2, zf3, zf4, zf5, zf6, zf7, zf8, zf9, zf10⟩ := (hS).b0.frz
  obtain ⟨y0, y1, y2, y3, y4, y5, y6, y7, y8, y9⟩ := (hS).b1.tenD
  have HS := Lib.hid hS
  clear hS
  go_upto_block 0 with (fail)
  have hkd := kind8 x.k
  generalize hkk : (IntKind.u64.wrap x.k).tmod 8 = kk at hkd ⊢
  go_cut [9] (fun v wz => v = .bool true ∧ ∃ (q : Fp) (d' : Dk Sv) (n' : Int) (L' : L3r) (A' : Option Addr) (c' : Nat) (B' : Option Addr) (k' : Nat), RaS P w wz q0 gr q gs d' sp bo n' L' (d'.map Sv.l) A' c' B' k' L' n' x ∧ Fok d' ∧ Nmd d' ∧ d'.sure.length + d'.pend.length ≤ d.sure.length + d.pend.length + 4)
  case first =>
    obtain rfl : kk = 7 := hkk.symm.trans hk
    clear hkd hk
    go_upto_region 15 with (fail)
    go_cut [11, 12] (fun a b wz => a = .pointer (some ⟨q0.g, 0, none⟩) ∧ ∃ g : Nat, b = .pointer (some ⟨g, 0, none⟩) ∧ w4.heap.size ≤ g ∧ Blk wz g 85 (rda (d.map Sv.l) A c B k) ∧ Below w4.heap.size w4 wz)
    case first =>
      have hst : Below w4.heap.size w4 w4.drew := Below.drew (Below.refl _ _)
      refine wp_region_held_drew (S := (fun W => Below w4.heap.size w4 W)) (by kernel_rfl) ?_ (fun hHeld => ?_)
      · exact hst
      refine gen0 (T := fun W => ((fun W => Below w4.heap.size w4 W)) W ∧ True) ?_ (fun wq1 hT => ?_)
      · exact ⟨by (with_reducible exact hst), trivial⟩
      (try clear f0 f1 f2 f3 f4 f5 f6 f7 f8 f9 f10 f11)
      obtain ⟨hHeld, -⟩ := hT
      refine wpAnyH_take (i := 0) (oi := ⟨some 90, _, _, _, _, _⟩) (v := ?_) rfl (by kernel_rfl) (by kernel_rfl) (by kernel_rfl) (fun _ _ _ h => h) (Or.inl ⟨by kernel_rfl, ?_⟩) (by assumption) ?_
      rotate_left
      · (intro wS hSw; (try dsimp only at hSw); obtain ⟨z0, z1, z2, z3, z4, z5, z6, z7, z8, z9, z10⟩ := (HS.out.call hSw).b0.elev; clear hSw; go_simp; (try with_reducible rfl))
      (try simp only [Act.put, List.setIfInBounds_toArray, List.set_cons_zero, List.set_cons_succ])
      refine wpAnyH_take (i := 2) (oi := ⟨some 92, _, _, _, _, _⟩) (v := ?_) rfl (by kernel_rfl) (by kernel_rfl) (by kernel_rfl) (fun _ _ _ h => h) (Or.inl ⟨by kernel_rfl, ?_⟩) (by assumption) ?_
      rotate_left
      · (intro wS hSw; (try dsimp only at hSw); obtain ⟨z0, z1, z2, z3, z4, z5, z6, z7, z8, z9, z10⟩ := (HS.out.call hSw).b0.elev; clear hSw; go_simp; (try with_reducible rfl))
      (try simp only [Act.put, List.setIfInBounds_toArray, List.set_cons_zero, List.set_cons_succ])
      refine wpAnyH_take (i := 3) (oi := ⟨some 93, _, _, _, _, _⟩) (v := ?_) rfl (by kernel_rfl) (by kernel_rfl) (by kernel_rfl) (fun _ _ _ h => h) (Or.inl ⟨by kernel_rfl, ?_⟩) (by assumption) ?_
      rotate_left
      · (intro wS hSw; (try dsimp only at hSw); obtain ⟨z0, z1, z2, z3, z4, z5, z6, z7, z8, z9, z10⟩ := (HS.out.call hSw).b0.elev; clear hSw; go_simp; (try with_reducible rfl))
      (try simp only [Act.put, List.setIfInBounds_toArray, List.set_cons_zero, List.set_cons_succ])
      refine wpAnyH_ready (rs := [1, 4]) (by kernel_rfl) (by simp) ?_
      refine AllReadyH.cons (o := ⟨some 91, _, _, _, _, _⟩) rfl (fun K hK => ?_) ?_
      · go_simp
        (refine (RDisk_any (HS.out.call hHeld).mm).mono ?_; rintro e w9 ⟨rfl, rfl⟩)
        go_wp2_with fail
        refine hK.out _ _ ?_ (fun _ => ?_)
        · ((try dsimp only); (with_reducible exact hHeld))
        clear hK K
        (try simp only [Act.put, List.setIfInBounds_toArray, List.set_cons_zero, List.set_cons_succ])
        refine gen0 (T := fun W => ((fun W => Below w4.heap.size w4 W)) W ∧ True) ?_ (fun wq2 hT => ?_)
        · exact ⟨by (with_reducible exact hHeld), trivial⟩
        (try clear f0 f1 f2 f3 f4 f5 f6 f7 f8 f9 f10 f11)
        obtain ⟨hHeld, -⟩ := hT
        refine wpAnyH_ready (rs := [4]) (by kernel_rfl) (by simp) ?_
        refine AllReadyH.cons (o := ⟨some 12, _, _, _, _, _⟩) rfl (fun K hK => ?_) AllReadyH.nil
        go_simp
        refine hK.out _ _ ?_ (fun _ => ?_)
        · ((try dsimp only); (exact bel_alloc hHeld _))
        clear hK K
        (try simp only [Act.put, List.setIfInBounds_toArray, List.set_cons_zero, List.set_cons_succ])
        refine gen0 (T := fun W => ((fun W => Below w4.heap.size w4 W)) W ∧ Blk W wq2.heap.size 85 rdz ∧ w4.heap.size ≤ wq2.heap.size ∧ True) ?_ (fun wq3 hT => ?_)
        · exact ⟨by (exact bel_alloc hHeld _), by (with_reducible exact Blk.new _ _ _), by (exact hHeld.size), trivial⟩
        (try clear f0 f1 f2 f3 f4 f5 f6 f7 f8 f9 f10 f11)
        obtain ⟨hHeld, f0, f1, -⟩ := hT
        refine wpAnyH_take (i := 5) (oi := ⟨some 11, _, _, _, _, _⟩) (v := ?_) rfl (by kernel_rfl) (by kernel_rfl) (by kernel_rfl) (fun _ _ _ h => h) (Or.inl ⟨by kernel_rfl, ?_⟩) (by assumption) ?_
        rotate_left
        · (intro wS hSw; (try dsimp only at hSw); obtain ⟨z0, z1, z2, z3, z4, z5, z6, z7, z8, z9, z10⟩ := (HS.out.call hSw).b0.elev; clear hSw; go_simp; (try with_reducible rfl))
        (try simp only [Act.put, List.setIfInBounds_toArray, List.set_cons_zero, List.set_cons_succ])
        refine wpAnyH_ready (rs := [6]) (by kernel_rfl) (by simp) ?_
        refine AllReadyH.cons (o := ⟨none, _, _, _, _, _⟩) rfl (fun K hK => ?_) AllReadyH.nil
        obtain ⟨u0, u1, u2, u3, u4, uf0, uf1, uf2, uf3, uf4⟩ := f0.fiveC
        go_simp
        refine hK.out _ _ ?_ (fun _ => ?_)
        · ((try dsimp only); (exact bel_set (bel_set (bel_set (bel_set (bel_set hHeld (by assumption) _) (by assumption) _) (by assumption) _) (by assumption) _) (by assumption) _))
        clear hK K
        (try simp only [Act.put, List.setIfInBounds_toArray, List.set_cons_zero, List.set_cons_succ])
        refine gen0 (T := fun W => ((fun W => Below w4.heap.size w4 W)) W ∧ w4.heap.size ≤ wq2.heap.size ∧ Blk W wq2.heap.size 85 (rda (d.map Sv.l) A c B k) ∧ True) ?_ (fun wq4 hT => ?_)
        · exact ⟨by (exact bel_set (bel_set (bel_set (bel_set (bel_set hHeld (by assumption) _) (by assumption) _) (by assumption) _) (by assumption) _) (by assumption) _), by (with_reducible assumption), by (exact f0.st5 _ _ _ _ _), trivial⟩
        (try clear f0 f1 f2 f3 f4 f5 f6 f7 f8 f9 f10 f11)
        obtain ⟨hHeld, f0, f1, -⟩ := hT
        refine wpAnyH_done (by kernel_rfl) ?_ _
        (go_wp2_with fail; go_meet; exact ⟨rfl, _, rfl, f0, f1, hHeld⟩)
      refine AllReadyH.cons (o := ⟨some 12, _, _, _, _, _⟩) rfl (fun K hK => ?_) ?_
      · go_simp
        refine hK.out _ _ ?_ (fun _ => ?_)
        · ((try dsimp only); (exact bel_alloc hHeld _))
        clear hK K
        (try simp only [Act.put, List.setIfInBounds_toArray, List.set_cons_zero, List.set_cons_succ])
        refine gen0 (T := fun W => ((fun W => Below w4.heap.size w4 W)) W ∧ Blk W wq1.heap.size 85 rdz ∧ w4.heap.size ≤ wq1.heap.size ∧ True) ?_ (fun wq5 hT => ?_)
        · exact ⟨by (exact bel_alloc hHeld _), by (with_reducible exact Blk.new _ _ _), by (exact hHeld.size), trivial⟩
        (try clear f0 f1 f2 f3 f4 f5 f6 f7 f8 f9 f10 f11)
        obtain ⟨hHeld, f0, f1, -⟩ := hT
        refine wpAnyH_ready (rs := [1]) (by kernel_rfl) (by simp) ?_
        refine AllReadyH.cons (o := ⟨some 91, _, _, _, _, _⟩) rfl (fun K hK => ?_) AllReadyH.nil
        go_simp
        (refine (RDisk_any (HS.out.call hHeld).mm).mono ?_; rintro e w9 ⟨rfl, rfl⟩)
        go_wp2_with fail
        refine hK.out _ _ ?_ (fun _ => ?_)
        · ((try dsimp only); (with_reducible exact hHeld))
        clear hK K
        (try simp only [Act.put, List.setIfInBounds_toArray, List.set_cons_zero, List.set_cons_succ])
        refine gen0 (T := fun W => ((fun W => Below w4.heap.size w4 W)) W ∧ Blk W wq1.heap.size 85 rdz ∧ w4.heap.size ≤ wq1.heap.size ∧ True) ?_ (fun wq6 hT => ?_)
        · exact ⟨by (with_reducible exact hHeld), by (with_reducible assumption), by (with_reducible assumption), trivial⟩
        (try clear f0 f1 f2 f3 f4 f5 f6 f7 f8 f9 f10 f11)
        obtain ⟨hHeld, f0, f1, -⟩ := hT
        refine wpAnyH_take (i := 5) (oi := ⟨some 11, _, _, _, _, _⟩) (v := ?_) rfl (by kernel_rfl) (by kernel_rfl) (by kernel_rfl) (fun _ _ _ h => h) (Or.inl ⟨by kernel_rfl, ?_⟩) (by assumption) ?_
        rotate_left
        · (intro wS hSw; (try dsimp only at hSw); obtain ⟨z0, z1, z2, z3, z4, z5, z6, z7, z8, z9, z10⟩ := (HS.out.call hSw).b0.elev; clear hSw; go_simp; (try with_reducible rfl))
        (try simp only [Act.put, List.setIfInBounds_toArray, List.set_cons_zero, List.set_cons_succ])
        refine wpAnyH_ready (rs := [6]) (by kernel_rfl) (by simp) ?_
        refine AllReadyH.cons (o := ⟨none, _, _, _, _, _⟩) rfl (fun K hK => ?_) AllReadyH.nil
        obtain ⟨u0, u1, u2, u3, u4, uf0, uf1, uf2, uf3, uf4⟩ := f0.fiveC
        go_simp
        refine hK.out _ _ ?_ (fun _ => ?_)
        · ((try dsimp only); (exact bel_set (bel_set (bel_set (bel_set (bel_set hHeld (by assumption) _) (by assumption) _) (by assumption) _) (by assumption) _) (by assumption) _))
        clear hK K
        (try simp only [Act.put, List.setIfInBounds_toArray, List.set_cons_zero, List.set_cons_succ])
        refine gen0 (T := fun W => ((fun W => Below w4.heap.size w4 W)) W ∧ w4.heap.size ≤ wq1.heap.size ∧ Blk W wq1.heap.size 85 (rda (d.map Sv.l) A c B k) ∧ True) ?_ (fun wq7 hT => ?_)
        · exact ⟨by (exact bel_set (bel_set (bel_set (bel_set (bel_set hHeld (by assumption) _) (by assumption) _) (by assumption) _) (by assumption) _) (by assumption) _), by (with_reducible assumption), by (exact f0.st5 _ _ _ _ _), trivial⟩
        (try clear f0 f1 f2 f3 f4 f5 f6 f7 f8 f9 f10 f11)
        obtain ⟨hHeld, f0, f1, -⟩ := hT
        refine wpAnyH_done (by kernel_rfl) ?_ _
        (go_wp2_with fail; go_meet; exact ⟨rfl, _, rfl, f0, f1, hHeld⟩)
      exact AllReadyH.nil
    obtain ⟨rfl, g, rfl, hlo, hBg, hHeld⟩ := hcut
    have hl0 := HS.out.b2.lt
    have hS6 : RaS (fun i => P i ∧ i ≠ g) w wc q0 gr q0 gs d sp bo n L (d.map Sv.l) A c B k L n x := (HS.out.call hHeld).own (b := g) hBg.lt (HS.out.R.sameH (fun i hi ht => ⟨ht.1, ht.2.1, ⟨ht.2.2.1, by omega⟩, ht.2.2.2⟩) hHeld.size fun i hi _ => hHeld.block i hi)
    have hOg : Off wc q0 gr g 85 (rda (d.map Sv.l) A c B k) := ⟨hBg, fun hq => by have := HS.out.mm.st.dsk.ltM hq; omega, by have := HS.out.mm.blk.lt; omega⟩
    have hg3 : w.heap.size + 3 ≤ g := by omega
    clear z0 z1 z2 z3 z4 z5 z6 z7 z8 z9 z10 zf0 zf1 zf2 zf3 zf4 zf5 zf6 zf7 zf8 zf9 zf10 y0 y1 y2 y3 y4 y5 y6 y7 y8 y9
    clear hHeld hBg HS hlo hl0
    have hS9 := hS6
    have hO9 := hOg
    have hR9 := hS6.R
    have HF1 := HF
    have HN1 := HNm
    have HLn1 := Lib.hid (Nat.le_add_right (d.sure.length + d.pend.length) 4)
    clear hS6 hOg
    have hOp := OpensR_any (t0 := sp) (t1 := bo) (P := fun i => P i ∧ i ≠ w.heap.size + 2) hS9.mm.st.dsk HF1.out HN1.out (hR9.weak (fun i _ ht => ⟨ht.1, ht.2.2.1.1, ht.2.2.2.2⟩)) (fun i hi => ⟨(hS9.up0 i hi).1, by have := hS9.b2.lt; omega⟩) (by omega)
    rw [hS9.g] at hOp
    unfold rda at hOp
    have HOp := Lib.hid hOp
    obtain ⟨z0, z1, z2, z3, z4, z5, z6, z7, z8, z9, z10⟩ := (hS9).b0.elev
    obtain ⟨zf0, zf1, zf2, zf3, zf4, zf5, zf6, zf7, zf8, zf9, zf10⟩ := (hS9).b0.frz
    obtain ⟨y0, y1, y2, y3, y4, y5, y6, y7, y8, y9⟩ := (hS9).b1.tenD
    obtain ⟨u0, u1, u2, u3, u4, -⟩ := hO9.blk.fiveC
    have HS9 := Lib.hid hS9
    clear hOp hS9 hR9 hO9
    go_wp2_with fail
    refine HOp.out.mono ?_
    clear HOp u0 u1 u2 u3 u4
    clear z0 z1 z2 z3 z4 z5 z6 z7 z8 z9 z10 zf0 zf1 zf2 zf3 zf4 zf5 zf6 zf7 zf8 zf9 zf10 y0 y1 y2 y3 y4 y5 y6 y7 y8 y9
    rintro e w10 ⟨q10, o, A10, c10, B10, k10, rfl, hg10, hD10, hF10, hM10, hR10, ho10⟩
    have hb11 := below_new w10 (.cells (rrg ((rgOpen d sp bo).1.map Sv.l) A10 c10 B10 k10 (spanB sp bo sp) (spanB sp bo bo) (rgOpen d sp bo).2.1 0) 104)
    have hB11 := Blk.new w10 104 (rrg ((rgOpen d sp bo).1.map Sv.l) A10 c10 B10 k10 (spanB sp bo sp) (spanB sp bo bo) (rgOpen d sp bo).2.1 0)
    have HEnd := Lib.hid (fun (w2 : World) (hb : Below w10.heap.size w10 w2) => HS9.out.opened (P0 := P) (d := d) (fun i h => h) HF1.out HN1.out HLn1.out hg10 hD10 hF10 hM10 hR10 ho10 hb)
    have hlt10 : w.heap.size + 2 < w10.heap.size := by have := HS9.out.b2.lt; have := hF10.size; omega
    clear hg10 hD10 hF10 hM10 hR10 ho10 HS9
    generalize spanB sp bo sp = v0 at *
    generalize spanB sp bo bo = v1 at *
    generalize rgOpen d sp bo = ro at *
    obtain ⟨d2, L2, n2⟩ := ro
    dsimp only at HEnd hB11 hb11 ⊢
    generalize ptrO o = po at *
    unfold rrg at hB11 hb11
    have Hb11 := Lib.hid hb11
    have HB11 := Lib.hid hB11
    clear hb11 hB11
    try unfold rrg
    go_upto_region 21 with (fail)
    refine gen1 (T := fun W => Below w10.heap.size w10 W ∧ Blk W w10.heap.size 104 _) ⟨Hb11.out, HB11.out⟩ (fun w12 hT => ?_)
    obtain ⟨hb12, hB12⟩ := hT
    clear Hb11 HB11
    generalize w10.heap.size = g14 at *
    obtain ⟨hB3, HFin⟩ := HEnd.out w12 hb12
    have hB2 : Blk (World.drew w12) (w.heap.size + 2) 104 rrz := hB3.drew
    have hst0 : Blk (World.drew w12) g14 104 _ := hB12.drew
    have hne2 : g14 ≠ w.heap.size + 2 := by omega
    have hw9 := wr_setR w12 (w.heap.size + 2) (d2.map Sv.l) A10 c10 B10 k10 v0 v1 L2 0
    have hst9 : Blk (World.drew (setR w12 (w.heap.size + 2) (d2.map Sv.l) A10 c10 B10 k10 v0 v1 L2 0)) g14 104 _ := (hB12.wr hw9 hne2).drew
    obtain ⟨x0, x1, x2, x3, x4, x5, x6, x7, x8, x9, x10⟩ := hB2.elev
    obtain ⟨xf0, xf1, xf2, xf3, xf4, xf5, xf6, xf7, xf8, xf9, xf10⟩ := hB2.frz
    obtain ⟨e0, e1, e2, e3, e4, e5, e6, e7, e8, e9, e10⟩ := hB3.elev
    obtain ⟨ef0, ef1, ef2, ef3, ef4, ef5, ef6, ef7, ef8, ef9, ef10⟩ := hB3.frz
    have HHF := Lib.hid (HFin _ hw9.drew)
    have HBF := Lib.hid (show Blk (World.drew (setR w12 (w.heap.size + 2) (d2.map Sv.l) A10 c10 B10 k10 v0 v1 L2 0)) (w.heap.size + 2) 104 (rrg (d2.map Sv.l) A10 c10 B10 k10 v0 v1 L2 0) from (hB3.setR (d2.map Sv.l) A10 c10 B10 k10 v0 v1 L2 0).drew)
    unfold setR at hst9 HHF HBF
    unfold rrg at HHF HBF
    clear hB2 hB3 HFin HEnd hb12 hB12 hw9
    refine wp_region_held_drew (S := (fun W => Blk W g14 104 #[.int .i64 (d2.map Sv.l).room, .slice A10 (d2.map Sv.l).sure.length c10, .slice B10 (d2.map Sv.l).pend.length k10, .int .i64 (d2.map Sv.l).fuse, .bool (d2.map Sv.l).down, .int .i64 v0, .int .i64 v1, .int .i64 L2.1, .int .i64 L2.2.1, .int .i64 L2.2.2, .int .i64 0])) (by kernel_rfl) ?_ (fun hHeld => ?_)
    · first | with_reducible exact hst0 | with_reducible exact hHeld | with_reducible exact hst9
    refine wpAnyH_take (i := 0) (oi := ⟨some 122, _, _, _, _, _⟩) (v := ?_) rfl (by kernel_rfl) (by kernel_rfl) (by kernel_rfl) (fun _ _ _ h => h) (Or.inl ⟨by kernel_rfl, ?_⟩) (by assumption) ?_
    rotate_left
    · (intro wS hSw; (try dsimp only at hSw); obtain ⟨z0, z1, z2, z3, z4, z5, z6, z7, z8, z9, z10⟩ := hSw.elev; clear hSw; go_simp; (try with_reducible rfl))
    (try simp only [Act.put, List.setIfInBounds_toArray, List.set_cons_zero, List.set_cons_succ])
    refine wpAnyH_take (i := 1) (oi := ⟨some 123, _, _, _, _, _⟩) (v := ?_) rfl (by kernel_rfl) (by kernel_rfl) (by kernel_rfl) (fun _ _ _ h => h) (Or.inl ⟨by kernel_rfl, ?_⟩) (by assumption) ?_
    rotate_left
    · (intro wS hSw; (try dsimp only at hSw); obtain ⟨z0, z1, z2, z3, z4, z5, z6, z7, z8, z9, z10⟩ := hSw.elev; clear hSw; go_simp; (try with_reducible rfl))
    (try simp only [Act.put, List.setIfInBounds_toArray, List.set_cons_zero, List.set_cons_succ])
    refine wpAnyH_take (i := 2) (oi := ⟨some 124, _, _, _, _, _⟩) (v := ?_) rfl (by kernel_rfl) (by kernel_rfl) (by kernel_rfl) (fun _ _ _ h => h) (Or.inl ⟨by kernel_rfl, ?_⟩) (by assumption) ?_
    rotate_left
    · (intro wS hSw; (try dsimp only at hSw); obtain ⟨z0, z1, z2, z3, z4, z5, z6, z7, z8, z9, z10⟩ := hSw.elev; clear hSw; go_simp; (try with_reducible rfl))
    (try simp only [Act.put, List.setIfInBounds_toArray, List.set_cons_zero, List.set_cons_succ])
    refine wpAnyH_take (i := 3) (oi := ⟨some 6, _, _, _, _, _⟩) (v := ?_) rfl (by kernel_rfl) (by kernel_rfl) (by kernel_rfl) (fun _ _ _ h => h) (Or.inl ⟨by kernel_rfl, ?_⟩) (by assumption) ?_
    rotate_left
    · (intro wS hSw; (try dsimp only at hSw); obtain ⟨z0, z1, z2, z3, z4, z5, z6, z7, z8, z9, z10⟩ := hSw.elev; clear hSw; go_simp; (try with_reducible rfl))
    (try simp only [Act.put, List.setIfInBounds_toArray, List.set_cons_zero, List.set_cons_succ])
    refine wpAnyH_ready (rs := [4]) (by kernel_rfl) (by simp) ?_
    refine AllReadyH.cons (o := ⟨none, _, _, _, _, _⟩) rfl (fun K hK => ?_) AllReadyH.nil
    go_simp
    refine hK.out _ _ ?_ (fun hHeld => ?_)
    · ((try dsimp only); (with_reducible exact hst9))
    clear hK K
    (try simp only [Act.put, List.setIfInBounds_toArray, List.set_cons_zero, List.set_cons_succ])
    refine wpAnyH_take (i := 5) (oi := ⟨some 8, _, _, _, _, _⟩) (v := ?_) rfl (by kernel_rfl) (by kernel_rfl) (by kernel_rfl) (fun _ _ _ h => h) (Or.inl ⟨by kernel_rfl, ?_⟩) (by assumption) ?_
    rotate_left
    · (intro wS hSw; (try dsimp only at hSw); obtain ⟨z0, z1, z2, z3, z4, z5, z6, z7, z8, z9, z10⟩ := hSw.elev; clear hSw; go_simp; (try with_reducible rfl))
    (try simp only [Act.put, List.setIfInBounds_toArray, List.set_cons_zero, List.set_cons_succ])
    refine wpAnyH_done (by kernel_rfl) ?_ _
    clear x0 x1 x2 x3 x4 x5 x6 x7 x8 x9 x10 xf0 xf1 xf2 xf3 xf4 xf5 xf6 xf7 xf8 xf9 xf10
    clear e0 e1 e2 e3 e4 e5 e6 e7 e8 e9 e10 ef0 ef1 ef2 ef3 ef4 ef5 ef6 ef7 ef8 ef9 ef10
    go_wp2_with fail
    exact bodyPost_ret (res_o3 rfl rfl (g := w.heap.size + 2) HBF.out) rfl HHF.out
  case rest =>
    obtain ⟨rfl, q8, d8, n8, L8, A8, c8, B8, k8, hS8, hf8, hn8, hl8⟩ := hcut
    have HK8 := Lib.hid (And.intro hf8 (And.intro hn8 hl8))
    have hl9 : d8.sure.length + d8.pend.length ≤ 1000 := by omega
    have hst := hS8.call (Below.drew (Below.refl _ _))
    have HLe := Lib.hid (RLease_any hst.mm)
    have HSt := Lib.hid hst
    have hst0 : Blk (World.drew wc) w.heap.size 104 (rrg (d8.map Sv.l) A8 c8 B8 k8 sp bo L8 n8) := hst.b0
    unfold rrg at hst0
    have hne2 : w.heap.size ≠ w.heap.size + 2 := by omega
    clear z0 z1 z2 z3 z4 z5 z6 z7 z8 z9 z10 zf0 zf1 zf2 zf3 zf4 zf5 zf6 zf7 zf8 zf9 zf10 y0 y1 y2 y3 y4 y5 y6 y7 y8 y9
    clear hS8 hf8 hn8 hl8 hst HS hkk hkd
    go_upto_region 22 with (fail)
    refine wp_region_held_drew (S := (fun W => Blk W w.heap.size 104 #[.int .i64 (d8.map Sv.l).room, .slice A8 (d8.map Sv.l).sure.length c8, .slice B8 (d8.map Sv.l).pend.length k8, .int .i64 (d8.map Sv.l).fuse, .bool (d8.map Sv.l).down, .int .i64 sp, .int .i64 bo, .int .i64 L8.1, .int .i64 L8.2.1, .int .i64 L8.2.2, .int .i64 n8])) (by kernel_rfl) ?_ (fun hHeld => ?_)
    · first | with_reducible exact hst0 | with_reducible exact hHeld | exact hHeld.below hb9 | exact hHeld.below hb10 | exact Blk.wr hHeld (wr_setR w10 (w.heap.size + 2) (d8.map Sv.l) A8 c8 B8 k8 sp bo L8 n8) hne2
    refine wpAnyH_take (i := 0) (oi := ⟨some 125, _, _, _, _, _⟩) (v := ?_) rfl (by kernel_rfl) (by kernel_rfl) (by kernel_rfl) (fun _ _ _ h => h) (Or.inl ⟨by kernel_rfl, ?_⟩) (by assumption) ?_
    rotate_left
    · (intro wS hSw; (try dsimp only at hSw); obtain ⟨z0, z1, z2, z3, z4, z5, z6, z7, z8, z9, z10⟩ := hSw.elev; clear hSw; go_simp; (try with_reducible rfl))
    (try simp only [Act.put, List.setIfInBounds_toArray, List.set_cons_zero, List.set_cons_succ])
    refine wpAnyH_take (i := 1) (oi := ⟨some 126, _, _, _, _, _⟩) (v := ?_) rfl (by kernel_rfl) (by kernel_rfl) (by kernel_rfl) (fun _ _ _ h => h) (Or.inl ⟨by kernel_rfl, ?_⟩) (by assumption) ?_
    rotate_left
    · (intro wS hSw; (try dsimp only at hSw); obtain ⟨z0, z1, z2, z3, z4, z5, z6, z7, z8, z9, z10⟩ := hSw.elev; clear hSw; go_simp; (try with_reducible rfl))
    (try simp only [Act.put, List.setIfInBounds_toArray, List.set_cons_zero, List.set_cons_succ])
    refine wpAnyH_take (i := 2) (oi := ⟨some 127, _, _, _, _, _⟩) (v := ?_) rfl (by kernel_rfl) (by kernel_rfl) (by kernel_rfl) (fun _ _ _ h => h) (Or.inl ⟨by kernel_rfl, ?_⟩) (by assumption) ?_
    rotate_left
    · (intro wS hSw; (try dsimp only at hSw); obtain ⟨z0, z1, z2, z3, z4, z5, z6, z7, z8, z9, z10⟩ := hSw.elev; clear hSw; go_simp; (try with_reducible rfl))
    (try simp only [Act.put, List.setIfInBounds_toArray, List.set_cons_zero, List.set_cons_succ])
    refine wpAnyH_take (i := 3) (oi := ⟨some 128, _, _, _, _, _⟩) (v := ?_) rfl (by kernel_rfl) (by kernel_rfl) (by kernel_rfl) (fun _ _ _ h => h) (Or.inl ⟨by kernel_rfl, ?_⟩) (by assumption) ?_
    rotate_left
    · (intro wS hSw; (try dsimp only at hSw); obtain ⟨z0, z1, z2, z3, z4, z5, z6, z7, z8, z9, z10⟩ := hSw.elev; clear hSw; go_simp; (try with_reducible rfl))
    (try simp only [Act.put, List.setIfInBounds_toArray, List.set_cons_zero, List.set_cons_succ])
    refine wpAnyH_take (i := 4) (oi := ⟨some 129, _, _, _, _, _⟩) (v := ?_) rfl (by kernel_rfl) (by kernel_rfl) (by kernel_rfl) (fun _ _ _ h => h) (Or.inl ⟨by kernel_rfl, ?_⟩) (by assumption) ?_
    rotate_left
    · (intro wS hSw; (try dsimp only at hSw); obtain ⟨z0, z1, z2, z3, z4, z5, z6, z7, z8, z9, z10⟩ := hSw.elev; clear hSw; go_simp; (try with_reducible rfl))
    (try simp only [Act.put, List.setIfInBounds_toArray, List.set_cons_zero, List.set_cons_succ])
    refine wpAnyH_take (i := 6) (oi := ⟨some 131, _, _, _, _, _⟩) (v := ?_) rfl (by kernel_rfl) (by kernel_rfl) (by kernel_rfl) (fun _ _ _ h => h) (Or.inl ⟨by kernel_rfl, ?_⟩) (by assumption) ?_
    rotate_left
    · (intro wS hSw; (try dsimp only at hSw); obtain ⟨z0, z1, z2, z3, z4, z5, z6, z7, z8, z9, z10⟩ := hSw.elev; clear hSw; go_simp; (try with_reducible rfl))
    (try simp only [Act.put, List.setIfInBounds_toArray, List.set_cons_zero, List.set_cons_succ])
    refine wpAnyH_take (i := 7) (oi := ⟨some 132, _, _, _, _, _⟩) (v := ?_) rfl (by kernel_rfl) (by kernel_rfl) (by kernel_rfl) (fun _ _ _ h => h) (Or.inl ⟨by kernel_rfl, ?_⟩) (by assumption) ?_
    rotate_left
    · (intro wS hSw; (try dsimp only at hSw); obtain ⟨z0, z1, z2, z3, z4, z5, z6, z7, z8, z9, z10⟩ := hSw.elev; clear hSw; go_simp; (try with_reducible rfl))
    (try simp only [Act.put, List.setIfInBounds_toArray, List.set_cons_zero, List.set_cons_succ])
    refine wpAnyH_ready (rs := [5]) (by kernel_rfl) (by simp) ?_
    refine AllReadyH.cons (o := ⟨some 130, _, _, _, _, _⟩) rfl (fun K hK => ?_) AllReadyH.nil
    go_simp
    (refine HLe.out.mono ?_; rintro e w9 ⟨rfl, hb9⟩; have HS9 := Lib.hid (HSt.out.call hb9))
    go_wp2_with fail
    refine hK.out _ _ ?_ (fun hHeld => ?_)
    · ((try dsimp only); (exact hHeld.below hb9))
    clear hK K
    (try simp only [Act.put, List.setIfInBounds_toArray, List.set_cons_zero, List.set_cons_succ])
    refine wpAnyH_take (i := 8) (oi := ⟨some 133, _, _, _, _, _⟩) (v := ?_) rfl (by kernel_rfl) (by kernel_rfl) (by kernel_rfl) (fun _ _ _ h => h) (Or.inl ⟨by kernel_rfl, ?_⟩) (by assumption) ?_
    rotate_left
    · (intro wS hSw; (try dsimp only at hSw); obtain ⟨z0, z1, z2, z3, z4, z5, z6, z7, z8, z9, z10⟩ := hSw.elev; clear hSw; go_simp; (try with_reducible rfl))
    (try simp only [Act.put, List.setIfInBounds_toArray, List.set_cons_zero, List.set_cons_succ])
    refine wpAnyH_take (i := 9) (oi := ⟨some 134, _, _, _, _, _⟩) (v := ?_) rfl (by kernel_rfl) (by kernel_rfl) (by kernel_rfl) (fun _ _ _ h => h) (Or.inl ⟨by kernel_rfl, ?_⟩) (by assumption) ?_
    rotate_left
    · (intro wS hSw; (try dsimp only at hSw); obtain ⟨z0, z1, z2, z3, z4, z5, z6, z7, z8, z9, z10⟩ := hSw.elev; clear hSw; go_simp; (try with_reducible rfl))
    (try simp only [Act.put, List.setIfInBounds_toArray, List.set_cons_zero, List.set_cons_succ])
    refine wpAnyH_take (i := 10) (oi := ⟨some 135, _, _, _, _, _⟩) (v := ?_) rfl (by kernel_rfl) (by kernel_rfl) (by kernel_rfl) (fun _ _ _ h => h) (Or.inl ⟨by kernel_rfl, ?_⟩) (by assumption) ?_
    rotate_left
    · (intro wS hSw; (try dsimp only at hSw); obtain ⟨z0, z1, z2, z3, z4, z5, z6, z7, z8, z9, z10⟩ := hSw.elev; clear hSw; go_simp; (try with_reducible rfl))
    (try simp only [Act.put, List.setIfInBounds_toArray, List.set_cons_zero, List.set_cons_succ])
    refine wpAnyH_take (i := 11) (oi := ⟨some 136, _, _, _, _, _⟩) (v := ?_) rfl (by kernel_rfl) (by kernel_rfl) (by kernel_rfl) (fun _ _ _ h => h) (Or.inl ⟨by kernel_rfl, ?_⟩) (by assumption) ?_
    rotate_left
    · (intro wS hSw; (try dsimp only at hSw); obtain ⟨z0, z1, z2, z3, z4, z5, z6, z7, z8, z9, z10⟩ := hSw.elev; clear hSw; go_simp; (try with_reducible rfl))
    (try simp only [Act.put, List.setIfInBounds_toArray, List.set_cons_zero, List.set_cons_succ])
    refine wpAnyH_take (i := 13) (oi := ⟨some 138, _, _, _, _, _⟩) (v := ?_) rfl (by kernel_rfl) (by kernel_rfl) (by kernel_rfl) (fun _ _ _ h => h) (Or.inl ⟨by kernel_rfl, ?_⟩) (by assumption) ?_
    rotate_left
    · (intro wS hSw; (try dsimp only at hSw); obtain ⟨z0, z1, z2, z3, z4, z5, z6, z7, z8, z9, z10⟩ := hSw.elev; clear hSw; go_simp; (try with_reducible rfl))
    (try simp only [Act.put, List.setIfInBounds_toArray, List.set_cons_zero, List.set_cons_succ])
    refine wpAnyH_take (i := 14) (oi := ⟨some 139, _, _, _, _, _⟩) (v := ?_) rfl (by kernel_rfl) (by kernel_rfl) (by kernel_rfl) (fun _ _ _ h => h) (Or.inl ⟨by kernel_rfl, ?_⟩) (by assumption) ?_
    rotate_left
    · (intro wS hSw; (try dsimp only at hSw); obtain ⟨z0, z1, z2, z3, z4, z5, z6, z7, z8, z9, z10⟩ := hSw.elev; clear hSw; go_simp; (try with_reducible rfl))
    (try simp only [Act.put, List.setIfInBounds_toArray, List.set_cons_zero, List.set_cons_succ])
    refine wpAnyH_ready (rs := [12]) (by kernel_rfl) (by simp) ?_
    refine AllReadyH.cons (o := ⟨some 137, _, _, _, _, _⟩) rfl (fun K hK => ?_) AllReadyH.nil
    go_simp
    (refine (RGrants_any HS9.out.mm).mono ?_; rintro e w9' ⟨rfl, rfl⟩)
    go_wp2_with fail
    refine hK.out _ _ ?_ (fun hHeld => ?_)
    · ((try dsimp only); (with_reducible exact hHeld))
    clear hK K
    (try simp only [Act.put, List.setIfInBounds_toArray, List.set_cons_zero, List.set_cons_succ])
    refine wpAnyH_take (i := 15) (oi := ⟨some 140, _, _, _, _, _⟩) (v := ?_) rfl (by kernel_rfl) (by kernel_rfl) (by kernel_rfl) (fun _ _ _ h => h) (Or.inl ⟨by kernel_rfl, ?_⟩) (by assumption) ?_
    rotate_left
    · (intro wS hSw; (try dsimp only at hSw); obtain ⟨z0, z1, z2, z3, z4, z5, z6, z7, z8, z9, z10⟩ := hSw.elev; clear hSw; go_simp; (try with_reducible rfl))
    (try simp only [Act.put, List.setIfInBounds_toArray, List.set_cons_zero, List.set_cons_succ])
    refine wpAnyH_take (i := 16) (oi := ⟨some 141, _, _, _, _, _⟩) (v := ?_) rfl (by kernel_rfl) (by kernel_rfl) (by kernel_rfl) (fun _ _ _ h => h) (Or.inl ⟨by kernel_rfl, ?_⟩) (by assumption) ?_
    rotate_left
    · (intro wS hSw; (try dsimp only at hSw); obtain ⟨z0, z1, z2, z3, z4, z5, z6, z7, z8, z9, z10⟩ := hSw.elev; clear hSw; go_simp; (try with_reducible rfl))
    (try simp only [Act.put, List.setIfInBounds_toArray, List.set_cons_zero, List.set_cons_succ])
    refine wpAnyH_take (i := 17) (oi := ⟨some 142, _, _, _, _, _⟩) (v := ?_) rfl (by kernel_rfl) (by kernel_rfl) (by kernel_rfl) (fun _ _ _ h => h) (Or.inl ⟨by kernel_rfl, ?_⟩) (by assumption) ?_
    rotate_left
    · (intro wS hSw; (try dsimp only at hSw); obtain ⟨z0, z1, z2, z3, z4, z5, z6, z7, z8, z9, z10⟩ := hSw.elev; clear hSw; go_simp; (try with_reducible rfl))
    (try simp only [Act.put, List.setIfInBounds_toArray, List.set_cons_zero, List.set_cons_succ])
    refine wpAnyH_take (i := 18) (oi := ⟨some 143, _, _, _, _, _⟩) (v := ?_) rfl (by kernel_rfl) (by kernel_rfl) (by kernel_rfl) (fun _ _ _ h => h) (Or.inl ⟨by kernel_rfl, ?_⟩) (by assumption) ?_
    rotate_left
    · (intro wS hSw; (try dsimp only at hSw); obtain ⟨z0, z1, z2, z3, z4, z5, z6, z7, z8, z9, z10⟩ := hSw.elev; clear hSw; go_simp; (try with_reducible rfl))
    (try simp only [Act.put, List.setIfInBounds_toArray, List.set_cons_zero, List.set_cons_succ])
    refine wpAnyH_take (i := 20) (oi := ⟨some 145, _, _, _, _, _⟩) (v := ?_) rfl (by kernel_rfl) (by kernel_rfl) (by kernel_rfl) (fun _ _ _ h => h) (Or.inl ⟨by kernel_rfl, ?_⟩) (by assumption) ?_
    rotate_left
    · (intro wS hSw; (try dsimp only at hSw); obtain ⟨z0, z1, z2, z3, z4, z5, z6, z7, z8, z9, z10⟩ := hSw.elev; clear hSw; go_simp; (try with_reducible rfl))
    (try simp only [Act.put, List.setIfInBounds_toArray, List.set_cons_zero, List.set_cons_succ])
    refine wpAnyH_take (i := 21) (oi := ⟨some 146, _, _, _, _, _⟩) (v := ?_) rfl (by kernel_rfl) (by kernel_rfl) (by kernel_rfl) (fun _ _ _ h => h) (Or.inl ⟨by kernel_rfl, ?_⟩) (by assumption) ?_
    rotate_left
    · (intro wS hSw; (try dsimp only at hSw); obtain ⟨z0, z1, z2, z3, z4, z5, z6, z7, z8, z9, z10⟩ := hSw.elev; clear hSw; go_simp; (try with_reducible rfl))
    (try simp only [Act.put, List.setIfInBounds_toArray, List.set_cons_zero, List.set_cons_succ])
    refine wpAnyH_ready (rs := [19]) (by kernel_rfl) (by simp) ?_
    refine AllReadyH.cons (o := ⟨some 144, _, _, _, _, _⟩) rfl (fun K hK => ?_) AllReadyH.nil
    go_simp
    (refine (RDisk_any HS9.out.mm).mono ?_; rintro e w9' ⟨rfl, rfl⟩)
    go_wp2_with fail
    refine hK.out _ _ ?_ (fun hHeld => ?_)
    · ((try dsimp only); (with_reducible exact hHeld))
    clear hK K
    (try simp only [Act.put, List.setIfInBounds_toArray, List.set_cons_zero, List.set_cons_succ])
    refine wpAnyH_ready (rs := [22]) (by kernel_rfl) (by simp) ?_
    refine AllReadyH.cons (o := ⟨some 147, _, _, _, _, _⟩) rfl (fun K hK => ?_) AllReadyH.nil
    go_simp
    (have hSh := Shows_any HS9.out.mm.st.dsk HS9.out.R hl9; unfold rda at hSh; refine hSh.mono ?_; rintro e w10 ⟨rfl, hb10⟩; have hS10 := HS9.out.call hb10; clear hSh; obtain ⟨x0, x1, x2, x3, x4, x5, x6, x7, x8, x9, x10⟩ := hS10.b2.elev; obtain ⟨xf0, xf1, xf2, xf3, xf4, xf5, xf6, xf7, xf8, xf9, xf10⟩ := hS10.b2.frz)
    go_wp2_with fail
    refine hK.out _ _ ?_ (fun hHeld => ?_)
    · ((try dsimp only); (exact hHeld.below hb10))
    clear hK K
    (try simp only [Act.put, List.setIfInBounds_toArray, List.set_cons_zero, List.set_cons_succ])
    refine wpAnyH_take (i := 23) (oi := ⟨some 148, _, _, _, _, _⟩) (v := ?_) rfl (by kernel_rfl) (by kernel_rfl) (by kernel_rfl) (fun _ _ _ h => h) (Or.inl ⟨by kernel_rfl, ?_⟩) (by assumption) ?_
    rotate_left
    · (intro wS hSw; (try dsimp only at hSw); obtain ⟨z0, z1, z2, z3, z4, z5, z6, z7, z8, z9, z10⟩ := hSw.elev; clear hSw; go_simp; (try with_reducible rfl))
    (try simp only [Act.put, List.setIfInBounds_toArray, List.set_cons_zero, List.set_cons_succ])
    refine wpAnyH_take (i := 24) (oi := ⟨some 6, _, _, _, _, _⟩) (v := ?_) rfl (by kernel_rfl) (by kernel_rfl) (by kernel_rfl) (fun _ _ _ h => h) (Or.inl ⟨by kernel_rfl, ?_⟩) (by assumption) ?_
    rotate_left
    · (intro wS hSw; (try dsimp only at hSw); obtain ⟨z0, z1, z2, z3, z4, z5, z6, z7, z8, z9, z10⟩ := hSw.elev; clear hSw; go_simp; (try with_reducible rfl))
    (try simp only [Act.put, List.setIfInBounds_toArray, List.set_cons_zero, List.set_cons_succ])
    refine wpAnyH_ready (rs := [25]) (by kernel_rfl) (by simp) ?_
    refine AllReadyH.cons (o := ⟨none, _, _, _, _, _⟩) rfl (fun K hK => ?_) AllReadyH.nil
    go_simp
    refine hK.out _ _ ?_ (fun hHeld => ?_)
    · ((try dsimp only); (exact Blk.wr hHeld (wr_setR w10 (w.heap.size + 2) (d8.map Sv.l) A8 c8 B8 k8 sp bo L8 n8) hne2))
    clear hK K
    (try simp only [Act.put, List.setIfInBounds_toArray, List.set_cons_zero, List.set_cons_succ])
    refine wpAnyH_take (i := 26) (oi := ⟨some 8, _, _, _, _, _⟩) (v := ?_) rfl (by kernel_rfl) (by kernel_rfl) (by kernel_rfl) (fun _ _ _ h => h) (Or.inl ⟨by kernel_rfl, ?_⟩) (by assumption) ?_
    rotate_left
    · (intro wS hSw; (try dsimp only at hSw); obtain ⟨z0, z1, z2, z3, z4, z5, z6, z7, z8, z9, z10⟩ := hSw.elev; clear hSw; go_simp; (try with_reducible rfl))
    (try simp only [Act.put, List.setIfInBounds_toArray, List.set_cons_zero, List.set_cons_succ])
    refine wpAnyH_done (by kernel_rfl) ?_ _
    obtain ⟨o1, o2, o3⟩ := hS10.out (wr_setR w10 (w.heap.size + 2) (d8.map Sv.l) A8 c8 B8 k8 sp bo L8 n8)
    have hBB := hS10.b2.setR (d8.map Sv.l) A8 c8 B8 k8 sp bo L8 n8
    have HO := Lib.hid (show RaG P w q0 gr gs d sp bo (.returned (.tuple #[ptrO (some (gr, gs)), .agg (rrg (d8.map Sv.l) A8 c8 B8 k8 sp bo L8 n8), .bool true])) _ from ⟨q8, some (gr, gs), d8, A8, c8, B8, k8, sp, bo, n8, L8, rfl, hS10.g, o1.st.dsk, o2, hS10.M, fun p hp => by injection hp with hp; subst hp; exact ⟨rfl, rfl, HK8.out.1, HK8.out.2.1, HK8.out.2.2, o1, o3, .inl rfl, .inl rfl⟩⟩)
    unfold setR at HO hBB
    unfold rrg at HO hBB
    dsimp only [ptrO] at HO
    have HB9 := Lib.hid hBB
    clear o1 o2 o3 hBB x0 x1 x2 x3 x4 x5 x6 x7 x8 x9 x10 xf0 xf1 xf2 xf3 xf4 xf5 xf6 xf7 xf8 xf9 xf10 hS10 HS9 HSt HLe
    go_wp2_with fail
    exact bodyPost_ret (res_o3 rfl rfl (g := w.heap.size + 2) HB9.out) rfl HO.out
end Go.Proofs.YtddmfoldnlafaaaGreatDoor
