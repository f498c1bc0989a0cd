/- WHAT IT HOLDS: vault.Commit. -/
import Derived.Test.YtajfnmohlnkncaaGreatDoorVaultAgreesG01
import Derived.Test.YtajfnmohlnkncaaGreatDoorVaultAgreesG24
import Derived.Test.YtajfnmohlnkncaaGreatDoorVaultAgreesG25
import Derived.Test.YtajfnmohlnkncaaGreatDoorVaultAgreesG13
import Derived.Deep.DeepCutAuto
namespace Go.Proofs.YtajfnmohlnkncaaGreatDoor
open Go.RowKit Go.Shelf
attribute [local go_sem ↓] Go.wp_at_zero Go.wp_at_succ
theorem VtM.commit {w wq W : World} {gv gs : Nat} {q : Fp} {d d' : Dk Sv} {l m : List MfV} {E A : Option Addr} {cap c : Nat} (h0 : VtM w gv gs q d l E cap) (hb : Below w.heap.size w wq) (hD : Dgo wq q d d' W) (row : OwnM wq (w.heap.size + 1) A c m)
 (hm : ∀ x ∈ m, x ∈ l ∨ (OwnP wq (w.heap.size + 1) x.2.1 x.2.2 x.1.2.2.2.2.2 ∧ MfI x.1)) : Vgx w gv gs q d d' l E m (W.setCell ⟨gv, 1, none⟩ (.slice A m.length c)) := by
 obtain ⟨q', hg, hV, hF, hM, hT⟩ := (h0.below hb).dgo hD
 have hw : Wr W (W.setCell ⟨gv, 1, none⟩ (.slice A m.length c)) gv := (Wr.refl _ _).set_ 1 _
 have hgv : gv < w.heap.size := h0.bl.lt
 have hs := hb.size
 have hs2 := hF.size
 have hs3 := hw.size
 have hoff : ∀ k, w.heap.size + 1 ≤ k → k < wq.heap.size → ¬ q.M k := fun k h1 h2 h3 => by have := h0.st.dsk.ltM h3; omega
 have hoff' : ∀ k, w.heap.size + 1 ≤ k → k < wq.heap.size → ¬ q'.M k := fun k h1 h2 h3 => by
  rcases hM k h3 with h4 | h4
  · exact hoff k h1 h2 h4
  · omega
 have hk : ∀ k, w.heap.size + 1 ≤ k → k < wq.heap.size → (W.setCell ⟨gv, 1, none⟩ (.slice A m.length c)).heap[k]? = wq.heap[k]? := fun k h1 h2 =>
  (hw.block k (by omega) (fun e => by injection e with e; omega)).trans (hF.block k h2 (hoff k h1 h2))
 have hrow := Own.lt row
 refine ⟨q', A, c, hg, ⟨⟨hV.st.dsk.frame fun j hj => hw.block j (hV.st.dsk.lt hj) (fun e => by injection e with e; exact hV.tc (e ▸ hj)), (hw.block gs hV.st.blk.lt (fun e => by injection e with e; exact hV.ng.1 e)).trans hV.st.blk, hV.st.ap⟩, hV.bl.set_ 1 _, ⟨(Own.sameH row fun k h1 => hk k (hrow k h1).1 (hrow k h1).2).sl, fun x hx => ?_⟩, hV.av, fun k h1 => ⟨by have := (hrow k h1).2; omega, hoff' k (hrow k h1).1 (hrow k h1).2⟩, fun x hx k h1 => ?_, hV.tc, ⟨hV.ng.1, fun k h1 => by have := (hrow k h1).1; omega, fun x hx k h1 => ?_⟩⟩,
  ⟨hw.os.trans (hF.os.trans hb.os), hw.tape.trans (hF.tape.trans hb.tape), hw.output.trans (hF.output.trans hb.output), by omega, fun i hi hn hne => (hw.block i (by omega) (fun e => by injection e with e; exact hne e)).trans ((hF.block i (by omega) hn).trans (hb.block i hi))⟩, fun i hi => ?_⟩
 · rcases hm x hx with h1 | ⟨h1, h2⟩
   · refine ⟨Sl.sameH (hV.sl.2 x h1).1 fun k h2 => hw.block k (hV.ap x h1 k h2).1 (fun e => by injection e with e; exact hV.ng.2.2 x h1 k h2 e), (hV.sl.2 x h1).2⟩
   · exact ⟨(Own.sameH h1 fun k h3 => hk k (Own.lt h1 k h3).1 (Own.lt h1 k h3).2).sl, h2⟩
 · rcases hm x hx with h2 | ⟨h2, -⟩
   · exact ⟨by have := (hV.ap x h2 k h1).1; omega, (hV.ap x h2 k h1).2⟩
   · have h3 := Own.lt h2 k h1
     exact ⟨by omega, hoff' k h3.1 h3.2⟩
 · rcases hm x hx with h2 | ⟨h2, -⟩
   · exact hV.ng.2.2 x h2 k h1
   · have h3 := Own.lt h2 k h1
     omega
 · rcases hi with hi | hi | hi | hi | ⟨x, hx, hi⟩
   · rcases hT i hi with h1 | h1
     · exact .inl (.inl h1)
     · exact .inr (by omega)
   · exact .inl (.inr (.inl hi))
   · exact .inl (.inr (.inr (.inl hi)))
   · have := (hrow i hi).1
     exact .inr (by omega)
   · rcases hm x hx with h2 | ⟨h2, -⟩
     · exact .inl (.inr (.inr (.inr (.inr ⟨x, h2, hi⟩))))
     · have := (Own.lt h2 i hi).1
       exact .inr (by omega)
def GivesCom (w : World) (gv gs : Nat) (q : Fp) (d : Dk Sv) (l : List MfV) (E : Option Addr) (x : Mf) (e : Ending) (w' : World) : Prop :=
 ∃ A' c' lv, e = .returned (errv (vcommit svl Sv.nil Sv.l (fun b => ⟨A', c', b⟩) ⟨d, mvs l⟩ x).2) ∧ Hid (mvs lv = (vcommit svl Sv.nil Sv.l (fun b => ⟨A', c', b⟩) ⟨d, mvs l⟩ x).1.l) ∧ Vgx w gv gs q d (vcommit svl Sv.nil Sv.l (fun b => ⟨A', c', b⟩) ⟨d, mvs l⟩ x).1.d l E lv w'
structure CoS (w W : World) (x : MfV) (A : Option Addr) (c : Nat) (m : List MfV) : Prop where
 mm : Mm w W [(w.heap.size, 46, mva x)] []
 row : OwnM W (w.heap.size + 1) A c m
 ps : OwnP W (w.heap.size + 1) x.2.1 x.2.2 x.1.2.2.2.2.2
theorem CoS.below {w W W' : World} {x : MfV} {A : Option Addr} {c : Nat} {m : List MfV} (h : CoS w W x A c m) (hb : Below W.heap.size W W') : CoS w W' x A c m := ⟨h.mm.call hb, Own.below h.row hb, Own.below h.ps hb⟩
theorem CoS.drew {w W : World} {x : MfV} {A : Option Addr} {c : Nat} {m : List MfV} (h : CoS w W x A c m) : CoS w W.drew x A c m := ⟨h.mm.drew, World.ownsRow.drew h.row, World.ownsRow.drew h.ps⟩
def CoP (w : World) (x : MfV) (A : Option Addr) (c : Nat) (m : List MfV) (q : Fp) (d d' : Dk Sv) (W : World) : Prop := ∃ wq, CoS w wq x A c m ∧ Dgo wq q d d' W
set_option maxRecDepth 100000 in
set_option maxHeartbeats 4000000 in
theorem VCommit_any {w : World} {gv gs : Nat} {q : Fp} {d : Dk Sv} {l : List MfV} {E : Option Addr} {cap : Nat} (h : VtM w gv gs q d l E cap) (hG : Shg w) (hfo : Fok d) (hd9 : d.sure.length + d.pend.length ≤ 900) (hl9 : l.length ≤ 98) {A : Option Addr} {c : Nat} (n f t r : Int) (dg : Dg) (ps : List Pt5) (hsp : SlP w A c ps) (hI : MfI (n, f, t, r, dg, ps)) (hps : ps.length ≤ 99) :
 Calls Tryz.prog 14 #[.pointer (some ⟨gv, 0, none⟩), .agg (mfa n f t r dg A ps.length c)] w (GivesCom w gv gs q d l E (n, f, t, r, dg, ps)) := by
 have hM := (Mm.start w).alloc (mfa n f t r dg A ps.length c) 46
 have HS := Lib.hid (fun W (hh : Below w.heap.size w W) => (h.below hh).two)
 have H0 := Lib.hid h
 have HG := Lib.hid (fun W (hh : Below w.heap.size w W) => hG.below hh)
 have HC := Lib.hid (fun W (hh : Below w.heap.size w W) => MCopy_any n f t r dg ps W (hsp.below hh) (by omega))
 have HCl := Lib.hid (fun W (hh : Below w.heap.size w W) => MsClone_any l W (h.below hh).sl (by omega))
 have HI := Lib.hid hI
 have HV := Lib.hid (fun (enc : Bs → Sv) => (show vcommit svl Sv.nil Sv.l enc ⟨d, mvs l⟩ (n, f, t, r, dg, ps) = (if (ckl (mvs l ++ [(n, f, t, r, dg, ps)])).2 ≠ 0 then (⟨d, mvs l⟩, (ckl (mvs l ++ [(n, f, t, r, dg, ps)])).2)
  else if vheld Sv.l d n.toNat 0 ps ≠ 0 then (⟨d, mvs l⟩, vheld Sv.l d n.toNat 0 ps)
  else if (sPut svl Sv.nil d (title n.toNat) (enc (mfput (n, f, t, r, dg, ps)))).2 ≠ 0 then (⟨(sPut svl Sv.nil d (title n.toNat) (enc (mfput (n, f, t, r, dg, ps)))).1, mvs l⟩, (sPut svl Sv.nil d (title n.toNat) (enc (mfput (n, f, t, r, dg, ps)))).2)
  else (⟨(sPut svl Sv.nil d (title n.toNat) (enc (mfput (n, f, t, r, dg, ps)))).1, mvs l ++ [(n, f, t, r, dg, ps)]⟩, 0)) from rfl))
 clear h hG hsp hI
 go_enter Tryz.func14, Tryz.ntmps14
 go_upto_region 1 with (fail)
 refine gen1 (T := fun W => Mm w W [(w.heap.size, 46, mfa n f t r dg A ps.length c)] []) hM (fun w1 hM => ?_)
 go_wp2_with (refine wpl_loadG rfl 46 _ rfl ⟨w.heap.size, 0, none⟩ (mfa n f t r dg A ps.length c) rfl hM.b0.cells _ Tryz.underlying46 rfl (by rw [mfa_size]; kernel_rfl) ?_)
 refine (HC.out _ hM.bel).mono ?_
 rintro e w2 ⟨A2, c2, m2, rfl, hm2, ho2, hb2⟩
 have hM2 := hM.call hb2
 have hO2 := Own.more (base' := w.heap.size + 1) ho2 hM.b0.lt
 obtain rfl : ps = m2 := hm2.out.symm
 clear hM hb2 ho2 HC hm2
 go_upto_region 4 with (refine wpList_store_row rfl 46 _ _ rfl w.heap.size (mfa n f t r dg A2 ps.length c2) rfl rfl 46 (mfa n f t r dg A ps.length c) hM2.b0 (by rw [mfa_size]; kernel_rfl) (by rw [mfa_size, mfa_size]) (mfa_all _ _ _ _ _ _ _ _) ?_)
 refine gen1 (T := fun W => Mm w W [(w.heap.size, 46, mfa n f t r dg A2 ps.length c2)] [] ∧ OwnP W (w.heap.size + 1) A2 c2 ps) ⟨hM2.row 0 rfl hM2.b0.row, Own.wrT hO2 (Wr.row _) hM2.b0 (by decide)⟩ (fun w3 hT => ?_)
 clear hM2 hO2
 obtain ⟨hM, hOp⟩ := hT
 have hMd := hM.drew
 have hOd : OwnP (World.drew w3) (w.heap.size + 1) A2 c2 ps := World.ownsRow.drew hOp
 clear hM hOp
 have hmz := Lib.hid (mfa_size n f t r dg A2 ps.length c2)
 rw [show ∀ a : Act, a.put none undef = a from fun _ => rfl]
 go_cut [5] (fun z wz => ∃ A6 c6 m6, z = .slice A6 (List.length m6) c6 ∧ Hid (m6 = l ++ [((n, f, t, r, dg, ps), A2, c2)]) ∧ CoS w wz ((n, f, t, r, dg, ps), A2, c2) A6 c6 m6)
 case first =>
  refine wp_region_held_drew (S := (fun W => Mm w W [(w.heap.size, 46, mfa n f t r dg A2 ps.length c2)] [])) (by kernel_rfl) ?_ (fun hHeld => ?_)
  · first | with_reducible exact hMd | with_reducible exact hHeld
  refine gen0 (T := fun W => ((fun W => Mm w W [(w.heap.size, 46, mfa n f t r dg A2 ps.length c2)] [])) W ∧ OwnP W (w.heap.size + 1) A2 c2 ps ∧ True) ?_ (fun wq1 hT => ?_)
  · exact ⟨by (with_reducible exact hMd), by (with_reducible assumption), trivial⟩
  (try clear f0 f1 f2 f3 f4 f5 f6 f7 f8 f9 f10 f11)
  obtain ⟨hHeld, f0, -⟩ := hT
  refine wTk (i := 0) (oi := ⟨some 17, _, _, _, _, _⟩) (v := ?_) rfl ⟨by kernel_rfl, ?_⟩ (by assumption) ?_
  rotate_left
  · (intro wS hSw; (try dsimp only at hSw); obtain ⟨a0, a1⟩ := HS.out _ hSw.bel; clear hSw; go_simp; (try with_reducible rfl))
  (try simp only [Act.put, pS0, pS1, pS2])
  refine wTk (i := 1) (oi := ⟨some 18, _, _, _, _, _⟩) (v := ?_) rfl ⟨by kernel_rfl, ?_⟩ (by assumption) ?_
  rotate_left
  · (intro wS hSw; (try dsimp only at hSw); obtain ⟨a0, a1⟩ := HS.out _ hSw.bel; clear hSw; go_simp; (try with_reducible rfl))
  (try simp only [Act.put, pS0, pS1, pS2])
  refine wTk (i := 2) (oi := ⟨some 19, _, _, _, _, _⟩) (v := ?_) rfl ⟨by kernel_rfl, ?_⟩ (by assumption) ?_
  rotate_left
  · (intro wS hSw; (try dsimp only at hSw); obtain ⟨a0, a1⟩ := HS.out _ hSw.bel; clear hSw; go_simp; (try with_reducible rfl))
  (try simp only [Act.put, pS0, pS1, pS2])
  refine wTk (i := 3) (oi := ⟨some 20, _, _, _, _, _⟩) (v := ?_) rfl ⟨by kernel_rfl, ?_⟩ (by assumption) ?_
  rotate_left
  · (intro wS hSw; (try dsimp only at hSw); obtain ⟨a0, a1⟩ := HS.out _ hSw.bel; clear hSw; go_simp; (try with_reducible rfl))
  (try simp only [Act.put, pS0, pS1, pS2])
  refine wTk (i := 5) (oi := ⟨some 22, _, _, _, _, _⟩) (v := ?_) rfl ⟨by kernel_rfl, ?_⟩ (by assumption) ?_
  rotate_left
  · (intro wS hSw; (try dsimp only at hSw); (refine yld_load 46 (.tmp 3) ?_ ⟨w.heap.size, 0, none⟩ (mfa n f t r dg A2 ps.length c2) ?_ hSw.b0.cells _ Tryz.underlying46 rfl (by rw [hmz.out]; kernel_rfl) <;> rfl))
  (try simp only [Act.put, pS0, pS1, pS2])
  refine wpAnyH_ready (rs := [4, 6]) (by kernel_rfl) (by simp) ?_
  refine AllReadyH.cons (o := ⟨some 21, _, _, _, _, _⟩) rfl (fun K hK => ?_) ?_
  · go_simp
    (refine (HCl.out _ hHeld.bel).mono ?_; rintro e w5 ⟨A5, c5, m5, rfl, hm5, ho5, hb5⟩)
    go_wp2_with fail
    refine hK.out _ _ ?_ (fun _ => ?_)
    · ((try dsimp only); (with_reducible exact hHeld.call hb5))
    clear hK K
    (try simp only [Act.put, pS0, pS1, pS2])
    refine gen0 (T := fun W => ((fun W => Mm w W [(w.heap.size, 46, mfa n f t r dg A2 ps.length c2)] [])) W ∧ OwnP W (w.heap.size + 1) A2 c2 ps ∧ OwnM W (w.heap.size + 1) A5 c5 m5 ∧ True) ?_ (fun wq2 hT => ?_)
    · exact ⟨by (with_reducible exact hHeld.call hb5), by (with_reducible exact Own.below f0 hb5), by (exact Own.more ho5 (Blk.lt (Mm.b0 hHeld))), trivial⟩
    (try clear f0 f1 f2 f3 f4 f5 f6 f7 f8 f9 f10 f11)
    obtain ⟨hHeld, f0, f1, -⟩ := hT
    refine wR1 (i := 6) (o := ⟨some 23, _, _, _, _, _⟩) rfl (fun K hK => ?_)
    ((refine step_litM (by kernel_rfl) _ rfl ((n, f, t, r, dg, ps), A2, c2) rfl ?_))
    refine hK.out _ _ ?_ (fun _ => ?_)
    · ((try dsimp only); (with_reducible exact hHeld.allocO _))
    clear hK K
    (try simp only [Act.put, pS0, pS1, pS2])
    refine gen0 (T := fun W => ((fun W => Mm w W [(w.heap.size, 46, mfa n f t r dg A2 ps.length c2)] [])) W ∧ OwnP W (w.heap.size + 1) A2 c2 ps ∧ OwnM W (w.heap.size + 1) A5 c5 m5 ∧ Sl W 37 (some ⟨wq2.heap.size, 0, none⟩) 1 1 ([((n, f, t, r, dg, ps), A2, c2)].flatMap mvl) ∧ True) ?_ (fun wq3 hT => ?_)
    · exact ⟨by (with_reducible exact hHeld.allocO _), by (with_reducible exact World.ownsRow.alloc f0 _), by (with_reducible exact World.ownsRow.alloc f1 _), by (with_reducible exact litM _ _), trivial⟩
    (try clear f0 f1 f2 f3 f4 f5 f6 f7 f8 f9 f10 f11)
    obtain ⟨hHeld, f0, f1, f2, -⟩ := hT
    refine wR1 (i := 7) (o := ⟨some 24, _, _, _, _, _⟩) rfl (fun K hK => ?_)
    (refine step_mans (by kernel_rfl) (.tmp 21) (.tmp 23) rfl (w.heap.size + 1) A5 c5 m5 rfl f1 (some ⟨_, 0, none⟩) 1 1 [((n, f, t, r, dg, ps), A2, c2)] rfl rfl f2 (by rw [hm5.out]; simp; omega) (Blk.lt (Mm.b0 hHeld)) ?_; intro A6 c6 m6 w6 hm6 ho6 hg6 hb6)
    refine hK.out _ _ ?_ (fun _ => ?_)
    · ((try dsimp only); (exact hHeld.above hb6 (fun x hx => by rw [List.mem_singleton.1 hx]; exact Nat.lt_succ_self _) (Nat.le_succ _)))
    clear hK K
    (try simp only [Act.put, pS0, pS1, pS2])
    refine gen0 (T := fun W => ((fun W => Mm w W [(w.heap.size, 46, mfa n f t r dg A2 ps.length c2)] [])) W ∧ OwnP W (w.heap.size + 1) A2 c2 ps ∧ OwnM W (w.heap.size + 1) A6 c6 m6 ∧ True) ?_ (fun wq4 hT => ?_)
    · exact ⟨by (exact hHeld.above hb6 (fun x hx => by rw [List.mem_singleton.1 hx]; exact Nat.lt_succ_self _) (Nat.le_succ _)), by (exact Own.other f0 f1 hg6 (by decide)), by (with_reducible assumption), trivial⟩
    (try clear f0 f1 f2 f3 f4 f5 f6 f7 f8 f9 f10 f11)
    obtain ⟨hHeld, f0, f1, -⟩ := hT
    refine wTk (i := 8) (oi := ⟨some 5, _, _, _, _, _⟩) (v := ?_) rfl ⟨by kernel_rfl, ?_⟩ (by assumption) ?_
    rotate_left
    · (intro wS hSw; (try dsimp only at hSw); obtain ⟨a0, a1⟩ := HS.out _ hSw.bel; clear hSw; go_simp; (try with_reducible rfl))
    (try simp only [Act.put, pS0, pS1, pS2])
    refine wpAnyH_done (by kernel_rfl) ?_ _
    (go_wp2_with fail; go_meet; exact ⟨A6, c6, m6, by simp, (show _ = _ from by rw [hm6.out, hm5.out]), ⟨hHeld, f1, f0⟩⟩)
  refine AllReadyH.cons (o := ⟨some 23, _, _, _, _, _⟩) rfl (fun K hK => ?_) ?_
  · ((refine step_litM (by kernel_rfl) _ rfl ((n, f, t, r, dg, ps), A2, c2) rfl ?_))
    refine hK.out _ _ ?_ (fun _ => ?_)
    · ((try dsimp only); (with_reducible exact hHeld.allocO _))
    clear hK K
    (try simp only [Act.put, pS0, pS1, pS2])
    refine gen0 (T := fun W => ((fun W => Mm w W [(w.heap.size, 46, mfa n f t r dg A2 ps.length c2)] [])) W ∧ OwnP W (w.heap.size + 1) A2 c2 ps ∧ Sl W 37 (some ⟨wq1.heap.size, 0, none⟩) 1 1 ([((n, f, t, r, dg, ps), A2, c2)].flatMap mvl) ∧ True) ?_ (fun wq5 hT => ?_)
    · exact ⟨by (with_reducible exact hHeld.allocO _), by (with_reducible exact World.ownsRow.alloc f0 _), by (with_reducible exact litM _ _), trivial⟩
    (try clear f0 f1 f2 f3 f4 f5 f6 f7 f8 f9 f10 f11)
    obtain ⟨hHeld, f0, f1, -⟩ := hT
    refine wR1 (i := 4) (o := ⟨some 21, _, _, _, _, _⟩) rfl (fun K hK => ?_)
    go_simp
    (refine (HCl.out _ hHeld.bel).mono ?_; rintro e w5 ⟨A5, c5, m5, rfl, hm5, ho5, hb5⟩)
    go_wp2_with fail
    refine hK.out _ _ ?_ (fun _ => ?_)
    · ((try dsimp only); (with_reducible exact hHeld.call hb5))
    clear hK K
    (try simp only [Act.put, pS0, pS1, pS2])
    refine gen0 (T := fun W => ((fun W => Mm w W [(w.heap.size, 46, mfa n f t r dg A2 ps.length c2)] [])) W ∧ OwnP W (w.heap.size + 1) A2 c2 ps ∧ OwnM W (w.heap.size + 1) A5 c5 m5 ∧ Sl W 37 (some ⟨wq1.heap.size, 0, none⟩) 1 1 ([((n, f, t, r, dg, ps), A2, c2)].flatMap mvl) ∧ True) ?_ (fun wq6 hT => ?_)
    · exact ⟨by (with_reducible exact hHeld.call hb5), by (with_reducible exact Own.below f0 hb5), by (exact Own.more ho5 (Blk.lt (Mm.b0 hHeld))), by (with_reducible exact Sl.below f1 hb5), trivial⟩
    (try clear f0 f1 f2 f3 f4 f5 f6 f7 f8 f9 f10 f11)
    obtain ⟨hHeld, f0, f1, f2, -⟩ := hT
    refine wR1 (i := 7) (o := ⟨some 24, _, _, _, _, _⟩) rfl (fun K hK => ?_)
    (refine step_mans (by kernel_rfl) (.tmp 21) (.tmp 23) rfl (w.heap.size + 1) A5 c5 m5 rfl f1 (some ⟨_, 0, none⟩) 1 1 [((n, f, t, r, dg, ps), A2, c2)] rfl rfl f2 (by rw [hm5.out]; simp; omega) (Blk.lt (Mm.b0 hHeld)) ?_; intro A6 c6 m6 w6 hm6 ho6 hg6 hb6)
    refine hK.out _ _ ?_ (fun _ => ?_)
    · ((try dsimp only); (exact hHeld.above hb6 (fun x hx => by rw [List.mem_singleton.1 hx]; exact Nat.lt_succ_self _) (Nat.le_succ _)))
    clear hK K
    (try simp only [Act.put, pS0, pS1, pS2])
    refine gen0 (T := fun W => ((fun W => Mm w W [(w.heap.size, 46, mfa n f t r dg A2 ps.length c2)] [])) W ∧ OwnP W (w.heap.size + 1) A2 c2 ps ∧ OwnM W (w.heap.size + 1) A6 c6 m6 ∧ True) ?_ (fun wq7 hT => ?_)
    · exact ⟨by (exact hHeld.above hb6 (fun x hx => by rw [List.mem_singleton.1 hx]; exact Nat.lt_succ_self _) (Nat.le_succ _)), by (exact Own.other f0 f1 hg6 (by decide)), by (with_reducible assumption), trivial⟩
    (try clear f0 f1 f2 f3 f4 f5 f6 f7 f8 f9 f10 f11)
    obtain ⟨hHeld, f0, f1, -⟩ := hT
    refine wTk (i := 8) (oi := ⟨some 5, _, _, _, _, _⟩) (v := ?_) rfl ⟨by kernel_rfl, ?_⟩ (by assumption) ?_
    rotate_left
    · (intro wS hSw; (try dsimp only at hSw); obtain ⟨a0, a1⟩ := HS.out _ hSw.bel; clear hSw; go_simp; (try with_reducible rfl))
    (try simp only [Act.put, pS0, pS1, pS2])
    refine wpAnyH_done (by kernel_rfl) ?_ _
    (go_wp2_with fail; go_meet; exact ⟨A6, c6, m6, by simp, (show _ = _ from by rw [hm6.out, hm5.out]), ⟨hHeld, f1, f0⟩⟩)
  exact AllReadyH.nil
 case rest =>
  obtain ⟨A6, c6, m6, rfl, hm6, hCo⟩ := hcut
  clear hMd hOd HCl
  have hsl : SlM wc A6 c6 m6 := ⟨hCo.row.sl, fun x hx => by
   rw [hm6.out, List.mem_append] at hx
   rcases hx with hx | hx
   · exact (H0.out.below hCo.mm.bel).sl.2 x hx
   · rw [List.mem_singleton.1 hx]
     exact ⟨hCo.ps.sl, HI.out⟩⟩
  have hmv : mvs m6 = mvs l ++ [(n, f, t, r, dg, ps)] := by rw [hm6.out]; simp [mvs]
  have hCk := ChCheck_any m6 wc (HG.out _ hCo.mm.bel) hsl
  rw [hmv] at hCk
  have HCk := Lib.hid hCk
  have HMv := Lib.hid hmv
  have hln : (mvs l).length < (mvs l ++ [(n, f, t, r, dg, ps)]).length := by simp
  have HOk := Lib.hid (fun (h0 : (ckl (mvs l ++ [(n, f, t, r, dg, ps)])).2 = 0) => (show n = (l.length : Int) ∧ mchk (n, f, t, r, dg, ps) = 0 from by
   have e1 := ckl_num h0 _ hln
   have e2 := (ckl_ok h0 _ hln).1
   simp only [List.getElem_concat_length] at e1 e2
   rw [mvs_len] at e1
   exact ⟨e1, e2⟩))
  clear hCk hmv hsl hln
  generalize ckl (mvs l ++ [(n, f, t, r, dg, ps)]) = ck at *
  obtain ⟨k1, k2⟩ := ck
  dsimp only at HV HOk
  go_wp2_with fail
  refine HCk.out.mono ?_
  rintro e w5 ⟨rfl, hb5⟩
  have hCo5 := hCo.below hb5
  clear hCo hb5 HCk
  dsimp only
  rcases errv_cases k2 with ⟨h2, hev⟩ | ⟨ke, hk1, hke, hev⟩
  rotate_left
  · have HT := Lib.hid (fun enc => (HV.out enc).trans (if_pos (by omega)))
    have HEV := Lib.hid hev
    rw [hev]
    clear hev hke HV HOk
    go_wp2_with fail
    go_ret
    exact ⟨none, 0, l, by rw [HT.out]; dsimp only; rw [HEV.out]; rfl, (show _ = _ from by rw [HT.out]), by rw [HT.out]; exact (H0.out.still hCo5.mm.bel).vgx⟩
  obtain ⟨hnl, hmc⟩ := HOk.out h2
  subst hnl
  have HV2 := Lib.hid (fun enc => (HV.out enc).trans (if_neg (by omega)))
  rw [Int.toNat_natCast] at HV2
  rw [hev]
  clear hev HV HOk h2
  have HH := Lib.hid (VHeld_any (H0.out.below hCo5.mm.bel) (HG.out _ hCo5.mm.bel) (A := A2) (c := c2) l.length f t r dg ps hCo5.ps.sl (by omega) (by omega))
  generalize vheld Sv.l d l.length 0 ps = hk at *
  go_wp2_with (refine wpl_loadG rfl 46 _ rfl ⟨w.heap.size, 0, none⟩ (mfa l.length f t r dg A2 ps.length c2) rfl hCo5.mm.b0.cells _ Tryz.underlying46 rfl (by rw [hmz.out]; kernel_rfl) ?_)
  refine HH.out.mono ?_
  rintro e w6 ⟨rfl, hb6⟩
  have hCo6 := hCo5.below hb6
  clear hCo5 hb6 HH
  rcases errv_cases hk with ⟨h2, hev⟩ | ⟨ke, hk1, hke, hev⟩
  rotate_left
  · have HT := Lib.hid (fun enc => (HV2.out enc).trans (if_pos (by omega)))
    have HEV := Lib.hid hev
    rw [hev]
    clear hev hke HV2
    go_wp2_with fail
    go_ret
    exact ⟨none, 0, l, by rw [HT.out]; dsimp only; rw [HEV.out]; rfl, (show _ = _ from by rw [HT.out]), by rw [HT.out]; exact (H0.out.still hCo6.mm.bel).vgx⟩
  have HV3 := Lib.hid (fun enc => (HV2.out enc).trans (if_neg (by omega)))
  rw [hev]
  clear hev HV2 h2
  have hP := MPut_any (A := A2) (c := c2) l.length f t r dg ps w6 hCo6.ps.sl HI.out.2.2.2.2
  unfold GivesMfb at hP
  rw [hmc, show errv 0 = Value.nilIface from rfl] at hP
  have HP := Lib.hid hP
  have hpl := mfput_len ((l.length : Int), f, t, r, dg, ps)
  clear hP hmc
  generalize mfput ((l.length : Int), f, t, r, dg, ps) = pb at *
  go_wp2_with (refine wpl_loadG rfl 46 _ rfl ⟨w.heap.size, 0, none⟩ (mfa l.length f t r dg A2 ps.length c2) rfl hCo6.mm.b0.cells _ Tryz.underlying46 rfl (by rw [hmz.out]; kernel_rfl) ?_)
  refine HP.out.mono ?_
  rintro e w7 ⟨A7, c7, m7, rfl, hm7, ho7, hb7⟩
  have hCo7 := hCo6.below hb7
  have hlo := hCo6.mm.bel.size
  obtain rfl : pb = m7 := hm7.out.symm
  have hfr : pb ≠ [] → ∀ ad, A7 = some ad → ad.block ≠ q.g := fun _ ad hA e => by
   have h1 := (Own.lt ho7 ad.block (by rw [hA]; rfl)).1
   have h2 := H0.out.st.dsk.ltM (i := q.g) (.inl rfl)
   omega
  have hsb := ho7.sl
  clear hCo6 hb7 HP hm7 ho7
  go_upto_region 14 with (fail)
  have hn1 : ¬ q.M w.heap.size := fun h1 => by have := H0.out.st.dsk.ltM h1; omega
  have hav : ¬ q.M gv := H0.out.av
  have hCd := hCo7.drew
  have hsd : SlB (World.drew w7) A7 c7 pb := hsb
  have hst : Blk (World.drew w7) gv 94 #[.pointer (some ⟨gs, 0, none⟩), .slice E l.length cap] ∧ Blk (World.drew w7) w.heap.size 46 (mfa l.length f t r dg A2 ps.length c2) := ⟨(H0.out.below hCd.mm.bel).bl, hCd.mm.b0⟩
  have HL := Lib.hid (fun W => Title_any l.length W (by omega))
  have hlab : (title l.length).length ≤ 9223372036854775807 := by rw [title_len (by omega)]; decide
  have HPut := Lib.hid (fun W (hh : Below w.heap.size w W) (hs : SlB W A7 c7 pb) => SPut_any (H0.out.below hh).st hfo hd9 (title l.length) hlab pb hs hfr (by omega))
  generalize title l.length = lb at *
  clear hCo7 hsb hlab
  refine wp_region_seq (S := (fun W => Blk W gv 94 #[.pointer (some ⟨gs, 0, none⟩), .slice E l.length cap] ∧ Blk W w.heap.size 46 (mfa l.length f t r dg A2 ps.length c2))) [(0, true), (1, true), (2, true), (3, true), (4, true), (5, true), (7, true), (6, false), (8, false), (9, true)] (by kernel_rfl) (by kernel_rfl) (fun _ _ _ _ _ h => h) ?_ (fun hHeld => ?_)
  · first | with_reducible exact hst | with_reducible exact hHeld
  refine gen0 (T := fun W => ((fun W => Blk W gv 94 #[.pointer (some ⟨gs, 0, none⟩), .slice E l.length cap] ∧ Blk W w.heap.size 46 (mfa l.length f t r dg A2 ps.length c2))) W ∧ CoS w W (((l.length : Int), f, t, r, dg, ps), A2, c2) A6 c6 m6 ∧ SlB W A7 c7 pb ∧ True) ?_ (fun wq1 hT => ?_)
  · exact ⟨by (with_reducible exact hst), by (with_reducible assumption), by (with_reducible assumption), trivial⟩
  (try clear f0 f1 f2 f3 f4 f5 f6 f7 f8 f9 f10 f11)
  obtain ⟨hHeld, f0, f1, -⟩ := hT
  refine seq_take (oi := ⟨some 47, _, _, _, _, _⟩) (v := ?_) rfl (Or.inl ⟨by kernel_rfl, ?_⟩) (by assumption) ?_
  rotate_left
  · (intro wS hSw; (try dsimp only at hSw); have a0 := hSw.1.cell 0; have a1 := hSw.1.cell 1; obtain ⟨b0, b1, b2, b3, b4⟩ := BlM.five hSw.2; clear hSw; refine execV (fun rho hk1 hk2 hk3 hk => ?_); have e0_ := (hk 0).trans (evalP fg0); clear hk; go_simp; (try with_reducible rfl))
  ((with_reducible refine wpSeq_put ?_; go_big_move))
  refine seq_take (oi := ⟨some 48, _, _, _, _, _⟩) (v := ?_) rfl (Or.inl ⟨by kernel_rfl, ?_⟩) (by assumption) ?_
  rotate_left
  · (intro wS hSw; (try dsimp only at hSw); have a0 := hSw.1.cell 0; have a1 := hSw.1.cell 1; obtain ⟨b0, b1, b2, b3, b4⟩ := BlM.five hSw.2; clear hSw; refine execV (fun rho hk1 hk2 hk3 hk => ?_); have e47_ := (hk 47).trans (evalP (fg8 (fg8 (fg8 (fg8 (fg8 (fg1 (fg1 (fg1 (fg1 (fg1 (fg1 (fg1 fg0))))))))))))); clear hk; go_simp; (try with_reducible rfl))
  ((with_reducible refine wpSeq_put ?_; go_big_move))
  refine seq_take (oi := ⟨some 49, _, _, _, _, _⟩) (v := ?_) rfl (Or.inl ⟨by kernel_rfl, ?_⟩) (by assumption) ?_
  rotate_left
  · (intro wS hSw; (try dsimp only at hSw); have a0 := hSw.1.cell 0; have a1 := hSw.1.cell 1; obtain ⟨b0, b1, b2, b3, b4⟩ := BlM.five hSw.2; clear hSw; refine execV (fun rho hk1 hk2 hk3 hk => ?_); have e48_ := (hk 48).trans (evalP (fg8 (fg8 (fg8 (fg8 (fg8 (fg8 fg0))))))); clear hk; go_simp; (try with_reducible rfl))
  ((with_reducible refine wpSeq_put ?_; go_big_move))
  refine seq_take (oi := ⟨some 50, _, _, _, _, _⟩) (v := ?_) rfl (Or.inl ⟨by kernel_rfl, ?_⟩) (by assumption) ?_
  rotate_left
  · (intro wS hSw; (try dsimp only at hSw); have a0 := hSw.1.cell 0; have a1 := hSw.1.cell 1; obtain ⟨b0, b1, b2, b3, b4⟩ := BlM.five hSw.2; clear hSw; refine execV (fun rho hk1 hk2 hk3 hk => ?_); have e49_ := (hk 49).trans (evalP (fg8 (fg8 (fg8 (fg8 (fg8 (fg8 (fg1 fg0)))))))); clear hk; go_simp; (try with_reducible rfl))
  ((with_reducible refine wpSeq_put ?_; go_big_move))
  refine seq_take (oi := ⟨some 51, _, _, _, _, _⟩) (v := ?_) rfl (Or.inl ⟨by kernel_rfl, ?_⟩) (by assumption) ?_
  rotate_left
  · (intro wS hSw; (try dsimp only at hSw); have a0 := hSw.1.cell 0; have a1 := hSw.1.cell 1; obtain ⟨b0, b1, b2, b3, b4⟩ := BlM.five hSw.2; clear hSw; refine execV (fun rho hk1 hk2 hk3 hk => ?_); have e3_ := (hk 3).trans (evalP (fg1 (fg1 (fg1 fg0)))); clear hk; go_simp; (try with_reducible rfl))
  ((with_reducible refine wpSeq_put ?_; go_big_move))
  refine seq_take (oi := ⟨some 52, _, _, _, _, _⟩) (v := ?_) rfl (Or.inl ⟨by kernel_rfl, ?_⟩) (by assumption) ?_
  rotate_left
  · (intro wS hSw; (try dsimp only at hSw); have a0 := hSw.1.cell 0; have a1 := hSw.1.cell 1; obtain ⟨b0, b1, b2, b3, b4⟩ := BlM.five hSw.2; clear hSw; refine execV (fun rho hk1 hk2 hk3 hk => ?_); have e51_ := (hk 51).trans (evalP (fg8 (fg8 (fg8 (fg8 (fg8 (fg8 (fg1 (fg1 (fg1 fg0)))))))))); clear hk; go_simp; (try with_reducible rfl))
  ((with_reducible refine wpSeq_put ?_; go_big_move))
  refine seq_take (oi := ⟨some 54, _, _, _, _, _⟩) (v := ?_) rfl (Or.inl ⟨by kernel_rfl, ?_⟩) (by assumption) ?_
  rotate_left
  · (intro wS hSw; (try dsimp only at hSw); have a0 := hSw.1.cell 0; have a1 := hSw.1.cell 1; obtain ⟨b0, b1, b2, b3, b4⟩ := BlM.five hSw.2; clear hSw; refine execV (fun rho hk1 hk2 hk3 hk => ?_); have e9_ := (hk 9).trans (evalP (fg8 (fg1 fg0))); clear hk; go_simp; (try with_reducible rfl))
  ((with_reducible refine wpSeq_put ?_; go_big_move))
  refine seq_step (o := ⟨some 53, _, _, _, _, _⟩) rfl (fun K hK => ?_)
  with_reducible refine wantedP (by kernel_rfl) ?_
  (go_big_op)
  (refine (HL.out _).mono ?_; rintro e w12 ⟨rfl, hb9⟩)
  go_wp2_with fail
  refine hK.out _ _ ?_ (fun _ => ?_)
  · ((try dsimp only); (exact ⟨Blk.below hHeld.1 hb9, Blk.below hHeld.2 hb9⟩))
  clear hK K
  ((try simp only [Act.put, pS0, pS1, pS2]))
  refine gen0 (T := fun W => ((fun W => Blk W gv 94 #[.pointer (some ⟨gs, 0, none⟩), .slice E l.length cap] ∧ Blk W w.heap.size 46 (mfa l.length f t r dg A2 ps.length c2))) W ∧ CoS w W (((l.length : Int), f, t, r, dg, ps), A2, c2) A6 c6 m6 ∧ SlB W A7 c7 pb ∧ True) ?_ (fun wq2 hT => ?_)
  · exact ⟨by (exact ⟨Blk.below hHeld.1 hb9, Blk.below hHeld.2 hb9⟩), by (with_reducible exact f0.below hb9), by (with_reducible exact Sl.below f1 hb9), trivial⟩
  (try clear f0 f1 f2 f3 f4 f5 f6 f7 f8 f9 f10 f11)
  obtain ⟨hHeld, f0, f1, -⟩ := hT
  refine seq_step (o := ⟨some 55, _, _, _, _, _⟩) rfl (fun K hK => ?_)
  with_reducible refine wantedP (by kernel_rfl) ?_
  (go_big_op)
  (refine (HPut.out _ f0.mm.bel f1).mono ?_; rintro e w12 ⟨A9, c9, rfl, hD9⟩)
  go_wp2_with fail
  refine hK.out _ _ ?_ (fun _ => ?_)
  · ((try dsimp only); (exact ⟨Dgo.blk hD9 hHeld.1 hav, Dgo.blk hD9 hHeld.2 hn1⟩))
  clear hK K
  ((try simp only [Act.put, pS0, pS1, pS2]))
  refine gen0 (T := fun W => ((fun W => Blk W gv 94 #[.pointer (some ⟨gs, 0, none⟩), .slice E l.length cap] ∧ Blk W w.heap.size 46 (mfa l.length f t r dg A2 ps.length c2))) W ∧ CoP w (((l.length : Int), f, t, r, dg, ps), A2, c2) A6 c6 m6 q d (sPut svl Sv.nil d lb ⟨A9, c9, pb⟩).1 W ∧ True) ?_ (fun wq3 hT => ?_)
  · exact ⟨by (exact ⟨Dgo.blk hD9 hHeld.1 hav, Dgo.blk hD9 hHeld.2 hn1⟩), by (exact ⟨_, f0, hD9⟩), trivial⟩
  (try clear f0 f1 f2 f3 f4 f5 f6 f7 f8 f9 f10 f11)
  obtain ⟨hHeld, f0, -⟩ := hT
  refine seq_take (oi := ⟨some 11, _, _, _, _, _⟩) (v := ?_) rfl (Or.inl ⟨by kernel_rfl, ?_⟩) (by assumption) ?_
  rotate_left
  · (intro wS hSw; (try dsimp only at hSw); have a0 := hSw.1.cell 0; have a1 := hSw.1.cell 1; obtain ⟨b0, b1, b2, b3, b4⟩ := BlM.five hSw.2; clear hSw; refine execV (fun rho hk1 hk2 hk3 hk => ?_); have e55_ := (hk 55).trans (evalP (fg8 (fg8 (fg8 (fg8 (fg8 (fg8 (fg1 (fg1 (fg1 (fg1 (fg1 (fg1 (fg1 fg0)))))))))))))); clear hk; go_simp; (try with_reducible rfl))
  ((with_reducible refine wpSeq_put ?_; go_big_move))
  refine seq_done ?_
  have hX := HV3.out (fun b => ⟨A9, c9, b⟩)
  (try dsimp only at hX)
  have HPp := Lib.hid f0
  obtain ⟨hv1, -⟩ := hHeld
  clear HV3 hCd hsd hst HPut HL f0
  generalize sPut svl Sv.nil d lb ⟨A9, c9, pb⟩ = rr at *
  obtain ⟨d9, k9⟩ := rr
  (try dsimp only at hX HPp)
  (try dsimp only)
  rcases errv_cases k9 with ⟨h9, hev⟩ | ⟨ke, hk1, hke, hev⟩
  rotate_left
  · rw [if_pos (show k9 ≠ 0 by omega)] at hX
    have HT := Lib.hid hX
    have HEV := Lib.hid hev
    rw [hev]
    clear hev hX hke
    go_wp2_with fail
    go_ret
    exact ⟨A9, c9, l, by rw [HT.out]; dsimp only; rw [HEV.out]; rfl, (show _ = _ from by rw [HT.out]), by
     rw [HT.out]
     obtain ⟨wq, hC, hD⟩ := HPp.out
     exact (Vgo.below hC.mm.bel ((H0.out.below hC.mm.bel).dgo hD)).vgx⟩
  · rw [if_neg (show ¬ k9 ≠ 0 by omega)] at hX
    have HT := Lib.hid hX
    rw [hev]
    clear hev hX
    obtain ⟨v0, v1, vf0, vf1⟩ := hv1.two
    go_wp2_with fail
    go_ret
    exact ⟨A9, c9, m6, by rw [HT.out]; rfl, (show _ = _ from by rw [HT.out]; exact HMv.out), by
     rw [HT.out]
     obtain ⟨wq, hC, hD⟩ := HPp.out
     exact H0.out.commit hC.mm.bel hD hC.row fun x hx => by
      rw [hm6.out, List.mem_append] at hx
      rcases hx with hx | hx
      · exact .inl hx
      · rw [List.mem_singleton.1 hx]
        exact .inr ⟨hC.ps, HI.out⟩⟩
end Go.Proofs.YtajfnmohlnkncaaGreatDoor
