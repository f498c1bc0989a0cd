/- WHAT IT HOLDS: the law RegisterPlays, walked. -/
import Derived.Test.YtddmfoldnlafaaaGreatDoorRegisterPlaysG34
import Derived.Test.YtddmfoldnlafaaaGreatDoorRegisterPlaysG17
import Derived.Test.YtddmfoldnlafaaaGreatDoorRegisterPlaysG10
import Derived.Test.YtddmfoldnlafaaaGreatDoorRegisterPlaysG19
import Derived.Deep.CutBlock
import Derived.Deep.DeepCutAuto
namespace Go.Proofs.YtddmfoldnlafaaaGreatDoor
open Go.RowKit Go.Maps Go.Sort
attribute [local go_sem ↓] Go.wp_at_zero Go.wp_at_succ

/-- while a register and the document's are played on: the document's lies in a block of its own -/
structure RpS (w W : World) (g b : Nat) (i : Nat) (q : Fp) (gr gs : Nat) (d : Dk Sv) (sp bo n : Int) (L : L3r) (A : Option Addr) (c : Nat) (B : Option Addr) (k : Nat) : Prop where
  g : q.g = g
  m : RgM W gr gs q d sp bo L n
  fk : Fok d
  nm : Nmd d
  fro : Fro w W q
  grl : w.heap.size ≤ gr
  blk : Blk W b 104 (rrg (d.map Sv.l) A c B k sp bo L n)
  blo : w.heap.size ≤ b
  gb : gr ≠ b ∧ gs ≠ b
  R : Rdk (Yo (fun j => j ≠ b) q (some (gr, gs))) W (d.map Sv.l) A c B k
  ap : ¬ q.M b
  sz : d.sure.length + d.pend.length ≤ 4 * i
section
variable {w W W' : World} {g b i : Nat} {q : Fp} {gr gs : Nat} {d : Dk Sv} {sp bo n : Int} {L : L3r} {A B : Option Addr} {c k : Nat}
theorem RpS.call (h : RpS w W g b i q gr gs d sp bo n L A c B k) (hb : Below W.heap.size W W') : RpS w W' g b i q gr gs d sp bo n L A c B k :=
  ⟨h.g, h.m.below hb, h.fk, h.nm, h.fro.call hb, h.grl, h.blk.below hb, h.blo, h.gb, h.R.below hb, h.ap, h.sz⟩
/-- the document's register is laid into its block: the law goes on, or ends -/
theorem RpS.next (h : RpS w W g b i q gr gs d sp bo n L A c B k) {q' : Fp} {p : Nat × Nat} {d' : Dk Sv} {n' : Int} {L' : L3r} {A' B' : Option Addr} {c' k' : Nat} (hg : q'.g = q.g) (hF : Frg q gr W W') (hM : ∀ j, q'.M j → q.M j ∨ W.heap.size ≤ j) (hf : Fok d') (hn : Nmd d') (hl : d'.sure.length + d'.pend.length ≤ d.sure.length + d.pend.length + 4) (hS : RgM W' p.1 p.2 q' d' sp bo L' n') (hR : Rdk (Yo (fun j => j ≠ b) q' (some p)) W' (d'.map Sv.l) A' c' B' k') (h1 : p.1 = gr ∨ W.heap.size ≤ p.1) (h2 : p.2 = gs ∨ W.heap.size ≤ p.2) :
    ∀ W2, Wr W' W2 b → Blk W2 b 104 (rrg (d'.map Sv.l) A' c' B' k' sp bo L' n') → RpS w W2 g b (i + 1) q' p.1 p.2 d' sp bo n' L' A' c' B' k' := by
  have hlt := h.blk.lt
  have hgl := h.m.blk.lt
  obtain ⟨g1, g2⟩ := h.gb
  have hap : ¬ q'.M b := fun hq => by
    rcases hM b hq with h1 | h1
    · exact h.ap h1
    · omega
  have hp1 : p.1 ≠ b := by omega
  have hp2 : p.2 ≠ b := by omega
  have hB : Blk W' b 104 (rrg (d.map Sv.l) A c B k sp bo L n) := (hF.block b hlt h.ap (by omega)).trans h.blk
  intro W2 hw hB2
  have hfr := h.fro.frg hF hM h.grl
  have hsz := h.fro.1.size
  refine ⟨hg.trans h.g, hS.other hB rrg_nob hap (by omega) (by omega) hw, hf, hn, ⟨hfr.1.trans (hw.below hfr.1.size h.blo), hfr.2⟩, ?_, hB2, h.blo, ⟨hp1, hp2⟩, hR.sameH (fun _ _ ht => ht) hw.size fun j hj ht => hw.block j hj (fun e => ht.2.2 (by injection e)), hap, by have := h.sz; omega⟩
  have := h.grl
  omega
theorem RpS.stop (h : RpS w W g b i q gr gs d sp bo n L A c B k) {q' : Fp} (hF : Frg q gr W W') (hM : ∀ j, q'.M j → q.M j ∨ W.heap.size ≤ j) : Blk W' b 104 (rrg (d.map Sv.l) A c B k sp bo L n) ∧ ∀ W2, Wr W' W2 b → Below w.heap.size w W2 := by
  have hlt := h.blk.lt
  obtain ⟨g1, g2⟩ := h.gb
  refine ⟨(hF.block b hlt h.ap (by omega)).trans h.blk, fun W2 hw => ?_⟩
  have hfr := h.fro.frg hF hM h.grl
  exact hfr.1.trans (hw.below hfr.1.size h.blo)
end
set_option maxRecDepth 100000 in
set_option maxHeartbeats 1000000 in
theorem rplays_walk {A : Option Addr} {c : Nat} {s : List RA} {r t0 t1 : Int} (w : World) (_hr : I64 r) (h : SlRA w A c s) (hl : raLong s 40 = false) :
    Calls Tryz.prog 6 #[.int .i64 r, .agg #[.int .i64 t0, .int .i64 t1], .slice A s.length c] w fun e w' => e = .returned (.bool true) ∧ Below w.heap.size w w' := by
  have hb0 := below_new w (.cells #[.int .i64 t0, .int .i64 t1] 48)
  have hB0 := Blk.new w 48 #[.int .i64 t0, .int .i64 t1]
  have H := Lib.hid h
  have HSh := Lib.hid (raLong_short hl)
  have hs40 : s.length ≤ 40 := by have := (raLong_short hl).1; omega
  have HLg := fun W (hh : SlRA W A c s) => RaLong_any W hh 40
  rw [hl] at HLg
  replace HLg := Lib.hid HLg
  have HB0 := Lib.hid hB0
  have Hb0 := Lib.hid hb0
  have HIs := fun W => isn_any 4 4 W
  rw [show errv 4 = Value.iface 79 (.int .i64 4) from rfl, show (((4 : Nat) : Int) == 4) = true from rfl] at HIs
  replace HIs := Lib.hid HIs
  clear h hl hb0 hB0
  go_enter Tryz.func6, Tryz.ntmps6
  go_wp2_with fail
  refine (AliveR_any _).mono ?_
  rintro e w1 ⟨rfl, hb1⟩
  have hb1' := bel_call Hb0.out hb1
  have hB1 := HB0.out.below hb1
  go_wp2_with fail
  refine (HLg.out _ (H.out.below hb1')).mono ?_
  rintro e w2 ⟨rfl, hb2⟩
  have hb2' := bel_call hb1' hb2
  have hB2 := hB1.below hb2
  clear hb1 hb2 HLg hb1' hB1 HB0 Hb0
  go_wp2_with fail
  refine (NAcquire_any 1 1 _).mono ?_
  rintro e w3 ⟨rfl, hb3⟩
  have hb4 := below_new w3 (.cells #[.int .i64 0, .int .i64 0, .int .i64 0] 56)
  have hL4 := Blk.new w3 56 #[.int .i64 0, .int .i64 0, .int .i64 0]
  have hb3' := bel_call (bel_call hb2' hb3) hb4
  have hB3 := (hB2.below hb3).below hb4
  clear hb2' hB2 hb3 hb4
  go_upto_region 7 with (fail)
  refine gen1 (T := fun W => Below w.heap.size w W ∧ Blk W w.heap.size 48 #[.int .i64 t0, .int .i64 t1] ∧ Blk W w3.heap.size 56 #[.int .i64 0, .int .i64 0, .int .i64 0]) ⟨hb3', hB3, hL4⟩ (fun w4 hT => ?_)
  clear hb3' hB3 hL4
  obtain ⟨hb4, hB4, hL4⟩ := hT
  go_cut [56] (fun z wz => z = .bool false ∧ Below w4.heap.size w4 wz)
  case first =>
    have hst : Below w4.heap.size w4 w4.drew ∧ Blk w4.drew w3.heap.size 56 #[.int .i64 0, .int .i64 0, .int .i64 0] := ⟨Below.drew (Below.refl _ _), hL4.drew⟩
    refine wp_region_held_drew (S := (fun W => Below w4.heap.size w4 W ∧ Blk W w3.heap.size 56 #[.int .i64 0, .int .i64 0, .int .i64 0])) (by kernel_rfl) ?_ (fun hHeld => ?_)
    · first | with_reducible exact hst | with_reducible exact hHeld | exact ⟨bel_call hHeld.1 hb11, hHeld.2.below hb11⟩
    refine wpAnyH_take (i := 0) (oi := ⟨some 27, _, _, _, _, _⟩) (v := ?_) rfl (by kernel_rfl) (by kernel_rfl) (by kernel_rfl) (fun _ _ _ h => h) (Or.inl ⟨by kernel_rfl, ?_⟩) (by assumption) ?_
    rotate_left
    · (intro wS hSw; (try dsimp only at hSw); obtain ⟨v0, v1, v2, -, -, -⟩ := hSw.2.three; clear hSw; go_simp; (try with_reducible rfl))
    (try simp only [Act.put, List.setIfInBounds_toArray, List.set_cons_zero, List.set_cons_succ])
    refine wpAnyH_take (i := 1) (oi := ⟨some 28, _, _, _, _, _⟩) (v := ?_) rfl (by kernel_rfl) (by kernel_rfl) (by kernel_rfl) (fun _ _ _ h => h) (Or.inl ⟨by kernel_rfl, ?_⟩) (by assumption) ?_
    rotate_left
    · (intro wS hSw; (try dsimp only at hSw); obtain ⟨v0, v1, v2, -, -, -⟩ := hSw.2.three; clear hSw; go_simp; (try with_reducible rfl))
    (try simp only [Act.put, List.setIfInBounds_toArray, List.set_cons_zero, List.set_cons_succ])
    refine wpAnyH_take (i := 2) (oi := ⟨some 29, _, _, _, _, _⟩) (v := ?_) rfl (by kernel_rfl) (by kernel_rfl) (by kernel_rfl) (fun _ _ _ h => h) (Or.inl ⟨by kernel_rfl, ?_⟩) (by assumption) ?_
    rotate_left
    · (intro wS hSw; (try dsimp only at hSw); obtain ⟨v0, v1, v2, -, -, -⟩ := hSw.2.three; clear hSw; go_simp; (try with_reducible rfl))
    (try simp only [Act.put, List.setIfInBounds_toArray, List.set_cons_zero, List.set_cons_succ])
    refine wpAnyH_take (i := 3) (oi := ⟨some 30, _, _, _, _, _⟩) (v := ?_) rfl (by kernel_rfl) (by kernel_rfl) (by kernel_rfl) (fun _ _ _ h => h) (Or.inl ⟨by kernel_rfl, ?_⟩) (by assumption) ?_
    rotate_left
    · (intro wS hSw; (try dsimp only at hSw); obtain ⟨v0, v1, v2, -, -, -⟩ := hSw.2.three; clear hSw; go_simp; (try with_reducible rfl))
    (try simp only [Act.put, List.setIfInBounds_toArray, List.set_cons_zero, List.set_cons_succ])
    refine wpAnyH_take (i := 4) (oi := ⟨some 31, _, _, _, _, _⟩) (v := ?_) rfl (by kernel_rfl) (by kernel_rfl) (by kernel_rfl) (fun _ _ _ h => h) (Or.inl ⟨by kernel_rfl, ?_⟩) (by assumption) ?_
    rotate_left
    · (intro wS hSw; (try dsimp only at hSw); obtain ⟨v0, v1, v2, -, -, -⟩ := hSw.2.three; clear hSw; go_simp; (try with_reducible rfl))
    (try simp only [Act.put, List.setIfInBounds_toArray, List.set_cons_zero, List.set_cons_succ])
    refine wpAnyH_take (i := 6) (oi := ⟨some 33, _, _, _, _, _⟩) (v := ?_) rfl (by kernel_rfl) (by kernel_rfl) (by kernel_rfl) (fun _ _ _ h => h) (Or.inl ⟨by kernel_rfl, ?_⟩) (by assumption) ?_
    rotate_left
    · (intro wS hSw; (try dsimp only at hSw); obtain ⟨v0, v1, v2, -, -, -⟩ := hSw.2.three; clear hSw; go_simp; (try with_reducible rfl))
    (try simp only [Act.put, List.setIfInBounds_toArray, List.set_cons_zero, List.set_cons_succ])
    refine wpAnyH_ready (rs := [5]) (by kernel_rfl) (by simp) ?_
    refine AllReadyH.cons (o := ⟨some 32, _, _, _, _, _⟩) rfl (fun K hK => ?_) AllReadyH.nil
    go_simp
    (refine (NLease_any _).mono ?_; rintro e w11 ⟨rfl, hb11⟩)
    go_wp2_with fail
    refine hK.out _ _ ?_ (fun hHeld => ?_)
    · ((try dsimp only); (exact ⟨bel_call hHeld.1 hb11, hHeld.2.below hb11⟩))
    clear hK K
    (try simp only [Act.put, List.setIfInBounds_toArray, List.set_cons_zero, List.set_cons_succ])
    refine wpAnyH_take (i := 7) (oi := ⟨some 34, _, _, _, _, _⟩) (v := ?_) rfl (by kernel_rfl) (by kernel_rfl) (by kernel_rfl) (fun _ _ _ h => h) (Or.inl ⟨by kernel_rfl, ?_⟩) (by assumption) ?_
    rotate_left
    · (intro wS hSw; (try dsimp only at hSw); obtain ⟨v0, v1, v2, -, -, -⟩ := hSw.2.three; clear hSw; go_simp; (try with_reducible rfl))
    (try simp only [Act.put, List.setIfInBounds_toArray, List.set_cons_zero, List.set_cons_succ])
    refine wpAnyH_take (i := 8) (oi := ⟨some 35, _, _, _, _, _⟩) (v := ?_) rfl (by kernel_rfl) (by kernel_rfl) (by kernel_rfl) (fun _ _ _ h => h) (Or.inl ⟨by kernel_rfl, ?_⟩) (by assumption) ?_
    rotate_left
    · (intro wS hSw; (try dsimp only at hSw); obtain ⟨v0, v1, v2, -, -, -⟩ := hSw.2.three; clear hSw; go_simp; (try with_reducible rfl))
    (try simp only [Act.put, List.setIfInBounds_toArray, List.set_cons_zero, List.set_cons_succ])
    refine wpAnyH_take (i := 9) (oi := ⟨some 36, _, _, _, _, _⟩) (v := ?_) rfl (by kernel_rfl) (by kernel_rfl) (by kernel_rfl) (fun _ _ _ h => h) (Or.inl ⟨by kernel_rfl, ?_⟩) (by assumption) ?_
    rotate_left
    · (intro wS hSw; (try dsimp only at hSw); obtain ⟨v0, v1, v2, -, -, -⟩ := hSw.2.three; clear hSw; go_simp; (try with_reducible rfl))
    (try simp only [Act.put, List.setIfInBounds_toArray, List.set_cons_zero, List.set_cons_succ])
    refine wpAnyH_take (i := 10) (oi := ⟨some 37, _, _, _, _, _⟩) (v := ?_) rfl (by kernel_rfl) (by kernel_rfl) (by kernel_rfl) (fun _ _ _ h => h) (Or.inl ⟨by kernel_rfl, ?_⟩) (by assumption) ?_
    rotate_left
    · (intro wS hSw; (try dsimp only at hSw); obtain ⟨v0, v1, v2, -, -, -⟩ := hSw.2.three; clear hSw; go_simp; (try with_reducible rfl))
    (try simp only [Act.put, List.setIfInBounds_toArray, List.set_cons_zero, List.set_cons_succ])
    refine wpAnyH_ready (rs := [11]) (by kernel_rfl) (by simp) ?_
    refine AllReadyH.cons (o := ⟨some 38, _, _, _, _, _⟩) rfl (fun K hK => ?_) AllReadyH.nil
    go_simp
    (refine (RGrants_nil _).mono ?_; rintro e w12 ⟨rfl, rfl⟩)
    go_wp2_with fail
    refine hK.out _ _ ?_ (fun hHeld => ?_)
    · ((try dsimp only); (with_reducible exact hHeld))
    clear hK K
    (try simp only [Act.put, List.setIfInBounds_toArray, List.set_cons_zero, List.set_cons_succ])
    refine wpAnyH_take (i := 12) (oi := ⟨some 39, _, _, _, _, _⟩) (v := ?_) rfl (by kernel_rfl) (by kernel_rfl) (by kernel_rfl) (fun _ _ _ h => h) (Or.inl ⟨by kernel_rfl, ?_⟩) (by assumption) ?_
    rotate_left
    · (intro wS hSw; (try dsimp only at hSw); obtain ⟨v0, v1, v2, -, -, -⟩ := hSw.2.three; clear hSw; go_simp; (try with_reducible rfl))
    (try simp only [Act.put, List.setIfInBounds_toArray, List.set_cons_zero, List.set_cons_succ])
    refine wpAnyH_take (i := 13) (oi := ⟨some 40, _, _, _, _, _⟩) (v := ?_) rfl (by kernel_rfl) (by kernel_rfl) (by kernel_rfl) (fun _ _ _ h => h) (Or.inl ⟨by kernel_rfl, ?_⟩) (by assumption) ?_
    rotate_left
    · (intro wS hSw; (try dsimp only at hSw); obtain ⟨v0, v1, v2, -, -, -⟩ := hSw.2.three; clear hSw; go_simp; (try with_reducible rfl))
    (try simp only [Act.put, List.setIfInBounds_toArray, List.set_cons_zero, List.set_cons_succ])
    refine wpAnyH_take (i := 14) (oi := ⟨some 41, _, _, _, _, _⟩) (v := ?_) rfl (by kernel_rfl) (by kernel_rfl) (by kernel_rfl) (fun _ _ _ h => h) (Or.inl ⟨by kernel_rfl, ?_⟩) (by assumption) ?_
    rotate_left
    · (intro wS hSw; (try dsimp only at hSw); obtain ⟨v0, v1, v2, -, -, -⟩ := hSw.2.three; clear hSw; go_simp; (try with_reducible rfl))
    (try simp only [Act.put, List.setIfInBounds_toArray, List.set_cons_zero, List.set_cons_succ])
    refine wpAnyH_take (i := 15) (oi := ⟨some 42, _, _, _, _, _⟩) (v := ?_) rfl (by kernel_rfl) (by kernel_rfl) (by kernel_rfl) (fun _ _ _ h => h) (Or.inl ⟨by kernel_rfl, ?_⟩) (by assumption) ?_
    rotate_left
    · (intro wS hSw; (try dsimp only at hSw); obtain ⟨v0, v1, v2, -, -, -⟩ := hSw.2.three; clear hSw; go_simp; (try with_reducible rfl))
    (try simp only [Act.put, List.setIfInBounds_toArray, List.set_cons_zero, List.set_cons_succ])
    refine wpAnyH_ready (rs := [16]) (by kernel_rfl) (by simp) ?_
    refine AllReadyH.cons (o := ⟨some 43, _, _, _, _, _⟩) rfl (fun K hK => ?_) AllReadyH.nil
    go_simp
    (refine (RDisk_nil _).mono ?_; rintro e w12 ⟨rfl, rfl⟩)
    go_wp2_with fail
    refine hK.out _ _ ?_ (fun hHeld => ?_)
    · ((try dsimp only); (with_reducible exact hHeld))
    clear hK K
    (try simp only [Act.put, List.setIfInBounds_toArray, List.set_cons_zero, List.set_cons_succ])
    refine wpAnyH_take (i := 17) (oi := ⟨some 44, _, _, _, _, _⟩) (v := ?_) rfl (by kernel_rfl) (by kernel_rfl) (by kernel_rfl) (fun _ _ _ h => h) (Or.inl ⟨by kernel_rfl, ?_⟩) (by assumption) ?_
    rotate_left
    · (intro wS hSw; (try dsimp only at hSw); obtain ⟨v0, v1, v2, -, -, -⟩ := hSw.2.three; clear hSw; go_simp; (try with_reducible rfl))
    (try simp only [Act.put, List.setIfInBounds_toArray, List.set_cons_zero, List.set_cons_succ])
    refine wpAnyH_take (i := 18) (oi := ⟨some 45, _, _, _, _, _⟩) (v := ?_) rfl (by kernel_rfl) (by kernel_rfl) (by kernel_rfl) (fun _ _ _ h => h) (Or.inl ⟨by kernel_rfl, ?_⟩) (by assumption) ?_
    rotate_left
    · (intro wS hSw; (try dsimp only at hSw); obtain ⟨v0, v1, v2, -, -, -⟩ := hSw.2.three; clear hSw; go_simp; (try with_reducible rfl))
    (try simp only [Act.put, List.setIfInBounds_toArray, List.set_cons_zero, List.set_cons_succ])
    refine wpAnyH_take (i := 19) (oi := ⟨some 46, _, _, _, _, _⟩) (v := ?_) rfl (by kernel_rfl) (by kernel_rfl) (by kernel_rfl) (fun _ _ _ h => h) (Or.inl ⟨by kernel_rfl, ?_⟩) (by assumption) ?_
    rotate_left
    · (intro wS hSw; (try dsimp only at hSw); obtain ⟨v0, v1, v2, -, -, -⟩ := hSw.2.three; clear hSw; go_simp; (try with_reducible rfl))
    (try simp only [Act.put, List.setIfInBounds_toArray, List.set_cons_zero, List.set_cons_succ])
    refine wpAnyH_take (i := 20) (oi := ⟨some 47, _, _, _, _, _⟩) (v := ?_) rfl (by kernel_rfl) (by kernel_rfl) (by kernel_rfl) (fun _ _ _ h => h) (Or.inl ⟨by kernel_rfl, ?_⟩) (by assumption) ?_
    rotate_left
    · (intro wS hSw; (try dsimp only at hSw); obtain ⟨v0, v1, v2, -, -, -⟩ := hSw.2.three; clear hSw; go_simp; (try with_reducible rfl))
    (try simp only [Act.put, List.setIfInBounds_toArray, List.set_cons_zero, List.set_cons_succ])
    refine wpAnyH_ready (rs := [21]) (by kernel_rfl) (by simp) ?_
    refine AllReadyH.cons (o := ⟨some 48, _, _, _, _, _⟩) rfl (fun K hK => ?_) AllReadyH.nil
    go_simp
    (refine (HIs.out _).mono ?_; rintro e w12 ⟨rfl, rfl⟩)
    go_wp2_with fail
    refine hK.out _ _ ?_ (fun hHeld => ?_)
    · ((try dsimp only); (with_reducible exact hHeld))
    clear hK K
    (try simp only [Act.put, List.setIfInBounds_toArray, List.set_cons_zero, List.set_cons_succ])
    refine wpAnyH_take (i := 22) (oi := ⟨some 49, _, _, _, _, _⟩) (v := ?_) rfl (by kernel_rfl) (by kernel_rfl) (by kernel_rfl) (fun _ _ _ h => h) (Or.inl ⟨by kernel_rfl, ?_⟩) (by assumption) ?_
    rotate_left
    · (intro wS hSw; (try dsimp only at hSw); obtain ⟨v0, v1, v2, -, -, -⟩ := hSw.2.three; clear hSw; go_simp; (try with_reducible rfl))
    (try simp only [Act.put, List.setIfInBounds_toArray, List.set_cons_zero, List.set_cons_succ])
    refine wpAnyH_take (i := 23) (oi := ⟨some 50, _, _, _, _, _⟩) (v := ?_) rfl (by kernel_rfl) (by kernel_rfl) (by kernel_rfl) (fun _ _ _ h => h) (Or.inl ⟨by kernel_rfl, ?_⟩) (by assumption) ?_
    rotate_left
    · (intro wS hSw; (try dsimp only at hSw); obtain ⟨v0, v1, v2, -, -, -⟩ := hSw.2.three; clear hSw; go_simp; (try with_reducible rfl))
    (try simp only [Act.put, List.setIfInBounds_toArray, List.set_cons_zero, List.set_cons_succ])
    refine wpAnyH_take (i := 24) (oi := ⟨some 51, _, _, _, _, _⟩) (v := ?_) rfl (by kernel_rfl) (by kernel_rfl) (by kernel_rfl) (fun _ _ _ h => h) (Or.inl ⟨by kernel_rfl, ?_⟩) (by assumption) ?_
    rotate_left
    · (intro wS hSw; (try dsimp only at hSw); obtain ⟨v0, v1, v2, -, -, -⟩ := hSw.2.three; clear hSw; go_simp; (try with_reducible rfl))
    (try simp only [Act.put, List.setIfInBounds_toArray, List.set_cons_zero, List.set_cons_succ])
    refine wpAnyH_take (i := 25) (oi := ⟨some 52, _, _, _, _, _⟩) (v := ?_) rfl (by kernel_rfl) (by kernel_rfl) (by kernel_rfl) (fun _ _ _ h => h) (Or.inl ⟨by kernel_rfl, ?_⟩) (by assumption) ?_
    rotate_left
    · (intro wS hSw; (try dsimp only at hSw); obtain ⟨v0, v1, v2, -, -, -⟩ := hSw.2.three; clear hSw; go_simp; (try with_reducible rfl))
    (try simp only [Act.put, List.setIfInBounds_toArray, List.set_cons_zero, List.set_cons_succ])
    refine wpAnyH_ready (rs := [26]) (by kernel_rfl) (by simp) ?_
    refine AllReadyH.cons (o := ⟨some 53, _, _, _, _, _⟩) rfl (fun K hK => ?_) AllReadyH.nil
    go_simp
    (refine (NGive_any _ _).mono ?_; rintro e w12 ⟨rfl, rfl⟩)
    go_wp2_with fail
    refine hK.out _ _ ?_ (fun hHeld => ?_)
    · ((try dsimp only); (with_reducible exact hHeld))
    clear hK K
    (try simp only [Act.put, List.setIfInBounds_toArray, List.set_cons_zero, List.set_cons_succ])
    refine wpAnyH_ready (rs := [27]) (by kernel_rfl) (by simp) ?_
    refine AllReadyH.cons (o := ⟨some 54, _, _, _, _, _⟩) rfl (fun K hK => ?_) AllReadyH.nil
    go_simp
    (refine (HIs.out _).mono ?_; rintro e w12 ⟨rfl, rfl⟩)
    go_wp2_with fail
    refine hK.out _ _ ?_ (fun hHeld => ?_)
    · ((try dsimp only); (with_reducible exact hHeld))
    clear hK K
    (try simp only [Act.put, List.setIfInBounds_toArray, List.set_cons_zero, List.set_cons_succ])
    refine wpAnyH_take (i := 28) (oi := ⟨some 55, _, _, _, _, _⟩) (v := ?_) rfl (by kernel_rfl) (by kernel_rfl) (by kernel_rfl) (fun _ _ _ h => h) (Or.inl ⟨by kernel_rfl, ?_⟩) (by assumption) ?_
    rotate_left
    · (intro wS hSw; (try dsimp only at hSw); obtain ⟨v0, v1, v2, -, -, -⟩ := hSw.2.three; clear hSw; go_simp; (try with_reducible rfl))
    (try simp only [Act.put, List.setIfInBounds_toArray, List.set_cons_zero, List.set_cons_succ])
    refine wpAnyH_take (i := 29) (oi := ⟨some 56, _, _, _, _, _⟩) (v := ?_) rfl (by kernel_rfl) (by kernel_rfl) (by kernel_rfl) (fun _ _ _ h => h) (Or.inl ⟨by kernel_rfl, ?_⟩) (by assumption) ?_
    rotate_left
    · (intro wS hSw; (try dsimp only at hSw); obtain ⟨v0, v1, v2, -, -, -⟩ := hSw.2.three; clear hSw; go_simp; (try with_reducible rfl))
    (try simp only [Act.put, List.setIfInBounds_toArray, List.set_cons_zero, List.set_cons_succ])
    refine wpAnyH_done (by kernel_rfl) ?_ _
    go_wp2_with fail
    go_meet
    exact ⟨rfl, hHeld.1⟩
  obtain ⟨rfl, hb5⟩ := hcut
  have hb6 := bel_call hb4 hb5
  have hB6 := hB4.below hb5
  clear hb4 hB4 hL4 hb5 HIs
  go_wp2_with fail
  refine (New_any r _).mono ?_
  rintro e w5 (⟨hro, rfl, hb3⟩ | ⟨hro, q, rfl, hD, hM, hb3⟩)
  · have hN := KNew_any r w5
    have HN := Lib.hid (show Calls Tryz.prog 31 #[.int .i64 r] w5 fun e w' => e = .returned (.tuple #[.agg rdz, .int .i64 1]) ∧ Below w5.heap.size w5 w' from hN.mono fun e w' ⟨h1, h2⟩ => ⟨by rcases h1 with ⟨-, h1⟩ | ⟨h0, -⟩; exact h1; omega, h2⟩)
    have HNm := Lib.hid (fun W => num_any 1 W)
    rw [show errv 1 = Value.iface 79 (.int .i64 1) from rfl] at HNm ⊢
    have hbb := bel_call hb6 hb3
    clear hN hb6 hb3 hro hB6
    go_wp2_with fail
    refine HN.out.mono ?_
    rintro e w6 ⟨rfl, hb7⟩
    have hb5 := bel_call hbb hb7
    go_wp2_with fail
    refine (HNm.out _).mono ?_
    rintro e w7 ⟨rfl, rfl⟩
    have HB := Lib.hid (bel_alloc hb5 (.cells rdz 85))
    go_wp2_with fail
    go_ret
    exact ⟨rfl, HB.out⟩
  · have hN := KNew_any r w5
    have HN := Lib.hid (show Calls Tryz.prog 31 #[.int .i64 r] w5 fun e w' => e = .returned (.tuple #[.agg (rda (dk0R r) none 0 none 0), .int .i64 0]) ∧ Below w5.heap.size w5 w' from hN.mono fun e w' ⟨h1, h2⟩ => ⟨by rcases h1 with ⟨h0, -⟩ | ⟨-, h1⟩; omega; exact h1, h2⟩)
    rw [show errv 0 = Value.nilIface from rfl]
    have HF := Lib.hid (show Fro w w5 q from ⟨bel_call hb6 hb3, fun i hi => Nat.le_trans hb6.size (hM i hi)⟩)
    have HD := Lib.hid hD
    have HB5 := Lib.hid (hB6.below hb3)
    clear hN hb6 hb3 hM hD hro hB6
    go_wp2_with fail
    refine HN.out.mono ?_
    rintro e w6 ⟨rfl, hb4⟩
    have hbn := bel_alloc hb4 (.cells (rda (dk0R r) none 0 none 0) 85)
    have HF5 := Lib.hid (HF.out.call hbn)
    have hD5 := HD.out.below hbn
    have hB5 := HB5.out.below hbn
    obtain ⟨r0, r1, r2, r3, r4, -⟩ := (Blk.new w6 85 (rda (dk0R r) none 0 none 0)).fiveC
    obtain ⟨m0, m1, -⟩ := Blk.two hB5
    have HOp := Lib.hid (OpensR_any (P := fun _ => True) (A := none) (B := none) (c := 0) (k := 0) (t0 := t0) (t1 := t1) hD5 (Fok.dk0 r) ⟨(fun p hp => by cases hp), fun p hp => by cases hp⟩ ⟨Sl.none_ _ _, (fun j hj => by cases hj), Sl.none_ _ _, (fun j hj => by cases hj)⟩ (fun _ _ => trivial) (by show 0 + 0 ≤ 400; omega))
    have Hbad0 := Lib.hid (show (rgOpen (dk0 r) t0 t1).1.sure.length + (rgOpen (dk0 r) t0 t1).1.pend.length = 0 from by
      have := sOpen_len (z := Sv.nil) (d := dk0 r) rfl
      unfold rgOpen
      split
      · rfl
      · split
        · rfl
        · rfl)
    have Hkp := Lib.hid (fun (hb : ¬ rgBad t0 t1) (h0 : (rgOpen (dk0 r) t0 t1).2.2 = 0) => rgOpen_keeps hb h0 (Fok.dk0 r) ⟨(fun p hp => by cases hp), fun p hp => by cases hp⟩)
    obtain ⟨g, hg⟩ : ∃ g, q.g = g := ⟨_, rfl⟩
    rw [hg] at HOp ⊢
    have HG := Lib.hid hg
    clear HN HD hb4 hbn hD5 hB5 HF hg
    have hlo6 := HF5.out.1.size
    unfold rda at HOp m0 m1 r0 r1 r2 r3 r4 hlo6 ⊢
    go_wp2_with fail
    refine HOp.out.mono ?_
    clear HOp m0 m1 r0 r1 r2 r3 r4
    rintro e w7 ⟨q7, o, A7, c7, B7, k7, rfl, hg7, hD7, hF7, hM7, hR7, ho7⟩
    have hlo7 : w.heap.size ≤ w7.heap.size := Nat.le_trans HF5.out.1.size hF7.size
    have hb8 := below_new w7 (.cells (rrg ((rgOpen (dk0 r) t0 t1).1.map Sv.l) A7 c7 B7 k7 (spanB t0 t1 t0) (spanB t0 t1 t1) (rgOpen (dk0 r) t0 t1).2.1 0) 104)
    have hB8 := Blk.new w7 104 (rrg ((rgOpen (dk0 r) t0 t1).1.map Sv.l) A7 c7 B7 k7 (spanB t0 t1 t0) (spanB t0 t1 t1) (rgOpen (dk0 r) t0 t1).2.1 0)
    have hfro := HF5.out.frd hF7 hM7
    have HFro8 := Lib.hid (hfro.call hb8).1
    cases o with
    | none =>
      dsimp only [ptrO]
      clear hg7 hD7 hF7 hM7 hR7 ho7 hb8 hB8 hfro HF5 HB5 Hkp Hbad0 HG
      generalize rgOpen (dk0 r) t0 t1 = ro at *
      unfold rrg at HFro8 ⊢
      go_wp2_with fail
      go_ret
      exact ⟨rfl, HFro8.out⟩
    | some p =>
      dsimp only [ptrO]
      obtain ⟨hnb, h0, hRg, hp1, hp2⟩ := ho7 p rfl
      obtain ⟨kf, kn, kl⟩ := Hkp.out hnb h0
      have hP : RpS w (w7.alloc (.cells (rrg ((rgOpen (dk0 r) t0 t1).1.map Sv.l) A7 c7 B7 k7 (spanB t0 t1 t0) (spanB t0 t1 t1) (rgOpen (dk0 r) t0 t1).2.1 0) 104)) g w7.heap.size 0 q7 p.1 p.2 (rgOpen (dk0 r) t0 t1).1 t0 t1 0 (rgOpen (dk0 r) t0 t1).2.1 A7 c7 B7 k7 := by
        rw [show spanB t0 t1 t0 = t0 from if_neg hnb, show spanB t0 t1 t1 = t1 from if_neg hnb] at *
        have l1 := hRg.blk.lt
        have l2 := hRg.st.blk.lt
        exact ⟨hg7.trans HG.out, hRg.below hb8, kf, kn, hfro.call hb8, by omega, hB8, hlo7, ⟨by omega, by omega⟩, hR7.sameH (fun i hi ht => ⟨ht.1, ht.2.1, by omega⟩) hb8.size fun i hi _ => hb8.block i hi, fun hq => by have := hD7.ltM hq; omega, Nat.le_of_eq Hbad0.out⟩
      have HP := Lib.hid hP
      have Hnb := Lib.hid hnb
      clear hP hg7 hD7 hF7 hM7 hR7 ho7 hb8 hB8 hfro HF5 HB5 Hkp Hbad0 HG HFro8 hnb h0 hRg hp1 hp2 kf kn kl
      generalize rgOpen (dk0 r) t0 t1 = ro at *
      obtain ⟨d2, L2, n2⟩ := ro
      dsimp only at HP ⊢
      generalize spanB t0 t1 t0 = v0 at *
      generalize spanB t0 t1 t1 = v1 at *
      unfold rrg at HP ⊢
      obtain ⟨p1, p2⟩ := p
      dsimp only at HP ⊢
      go_upto_region 16 with (fail)
      refine gen1 (T := fun W => RpS w W g w7.heap.size 0 q7 p1 p2 d2 t0 t1 0 L2 A7 c7 B7 k7) HP.out (fun w8 hP8 => ?_)
      have HP8 := Lib.hid hP8
      clear HP hP8
      generalize w7.heap.size = b at *
      go_wp2_with fail
      go_loopw [90, 13] (fun x y wr => ∃ (i : Nat) (q : Fp) (gr gs : Nat) (d : Dk Sv) (L : L3r) (n : Int) (E : Option Addr) (m : Nat) (B : Option Addr) (k : Nat), i ≤ s.length ∧ x = .int .i64 i ∧ y = .pointer (some ⟨gr, 0, none⟩) ∧ Hid (RpS w wr g b i q gr gs d t0 t1 n L E m B k)) (fun x _ w => s.length - (intOf x).toNat)
      case atStart => exact ⟨0, q7, p1, p2, d2, L2, 0, A7, c7, B7, k7, Nat.zero_le _, rfl, rfl, HP8⟩
      case round =>
        clear HP8
        clear q7 q
        obtain ⟨i, q, gr, gs, d, L, n, E, m, B, k, hi, rfl, rfl, hP⟩ := hrel
        by_cases hlt : i < s.length
        · have hI : (i : Int) < (s.length : Int) := by omega
          have hS := H.out.below hP.out.fro.1
          obtain ⟨ad, bk, o, hA, had, hcc⟩ := Sl.atS (f := rac) (size := 10) (fun _ => rfl) (by omega) hS.1 hlt
          have hc0 := hcc 0 _ rfl
          have hc1 := hcc 1 _ rfl
          have hc2 := hcc 2 _ rfl
          have hc3 := hcc 3 _ rfl
          have hc4 := hcc 4 _ rfl
          have hc5 := hcc 5 _ rfl
          have hc6 := hcc 6 _ rfl
          have hc7 := hcc 7 _ rfl
          have hc8 := hcc 8 _ rfl
          have hc9 := hcc 9 _ rfl
          rw [Nat.add_zero] at hc0
          have hok := hS.2 _ (List.getElem_mem hlt)
          have hok0 := H.out.2 _ (List.getElem_mem hlt)
          have hsh := HSh.out.2 _ (List.getElem_mem hlt)
          clear hcc hS
          generalize s[i] = x at *
          have hb5 := below_new wr (.cells (racta x) 64)
          have hP5 := hP.out.call hb5
          have HDo := Lib.hid (RaAct_any (P := fun j => j ≠ b) (Lb := w.heap.size) x hP5.m hP5.fk hP5.nm hP5.R (fun j hj => by have := hP5.blk.lt; omega) ⟨Sl.below hok.1 hb5, Sl.below hok.2.1.1 hb5, Sl.below hok.2.1.2.1 hb5⟩ (fun hne ad hA => SlZ.ltB hok0.1 hne hA) (fun hne ad hA => SlB.ltB hok0.2.1.1 hne hA) (fun hne ad hA => SlZ.ltB hok0.2.1.2.1 hne hA) hP5.fro.2 hP5.grl (by have := hok.2.1.2.2.2.1; unfold I64 at this; omega) hsh (by have := hP5.sz; omega) Hnb.out)
          have hBx := Blk.new wr 64 (racta x)
          obtain ⟨y0, y1, y2, y3, y4, y5, y6, y7, y8, y9⟩ := hBx.tenD
          obtain ⟨r0, r1, r2, r3, r4, r5, r6, r7, r8, r9, r10⟩ := hP5.blk.elev
          have HP5 := Lib.hid hP5
          subst hA
          clear hok hok0 hsh hb5 hP hP5 hBx
          unfold racta at *
          unfold rrg at HDo
          go_wp2_with fail
          refine HDo.out.mono ?_
          clear HDo y0 y1 y2 y3 y4 y5 y6 y7 y8 y9 r0 r1 r2 r3 r4 r5 r6 r7 r8 r9 r10 hc0 hc1 hc2 hc3 hc4 hc5 hc6 hc7 hc8 hc9
          rintro e w6 ⟨q6, o, d6, A6, c6, B6, k6, sp6, bo6, n6, L6, rfl, hg6, hD6, hF6, hM6, ho6⟩
          obtain ⟨hB6, hE6⟩ := HP5.out.stop hF6 hM6
          obtain ⟨r0, r1, r2, r3, r4, r5, r6, r7, r8, r9, r10⟩ := hB6.elev
          obtain ⟨rf0, rf1, rf2, rf3, rf4, rf5, rf6, rf7, rf8, rf9, rf10⟩ := hB6.frz
          cases o with
          | none =>
            have HE := Lib.hid (hE6 _ (wr_setR w6 b (d6.map Sv.l) A6 c6 B6 k6 sp6 bo6 L6 n6))
            unfold setR at HE
            dsimp only [ptrO]
            clear hg6 hD6 hF6 hM6 ho6 hB6 hE6 HP5
            unfold rrg
            go_wp2_with fail
            go_ret
            exact ⟨rfl, HE.out⟩
          | some p =>
            obtain ⟨p1, p2⟩ := p
            dsimp only [ptrO]
            obtain ⟨rfl, rfl, kf, kn, kl, kg, kr, k1, k2⟩ := ho6 _ rfl
            have hN := HP5.out.next hg6 hF6 hM6 kf kn kl kg kr k1 k2 _ (wr_setR w6 b (d6.map Sv.l) A6 c6 B6 k6 sp6 bo6 L6 n6) (by unfold rrg at hB6; exact hB6.setR (d6.map Sv.l) A6 c6 B6 k6 sp6 bo6 L6 n6)
            unfold setR at hN
            have HN := Lib.hid hN
            clear hg6 hD6 hF6 hM6 ho6 hB6 hE6 HP5 kf kn kl kg kr k1 k2 hN
            unfold rrg
            go_upto_region 20 with (fail)
            refine gen1 (T := fun W => RpS w W g b (i + 1) q6 p1 p2 d6 sp6 bo6 n6 L6 A6 c6 B6 k6) HN.out (fun w8 hP8 => ?_)
            have HP8 := Lib.hid hP8
            clear r0 r1 r2 r3 r4 r5 r6 r7 r8 r9 r10 rf0 rf1 rf2 rf3 rf4 rf5 rf6 rf7 rf8 rf9 rf10 HN hP8
            go_wp2_with fail
            go_roundw
            case rel => exact ⟨i + 1, q6, p1, p2, d6, L6, n6, A6, c6, B6, k6, hlt, by go_num, rfl, HP8⟩
            case measure => simp [intOf]; omega
        · have hI : (s.length : Int) ≤ (i : Int) := by omega
          have HB := Lib.hid hP.out.fro.1
          clear hP
          go_wp2_with fail
          go_ret
          exact ⟨rfl, HB.out⟩
set_option maxRecDepth 100000 in
set_option maxHeartbeats 1000000 in
theorem rplays_all {A : Option Addr} {c : Nat} {s : List RA} {r t0 t1 : Int} (w : World) (hr : I64 r) (h : SlRA w A c s) :
    Calls Tryz.prog 6 #[.int .i64 r, .agg #[.int .i64 t0, .int .i64 t1], .slice A s.length c] w fun e w' => e = .returned (.bool true) ∧ Below w.heap.size w w' := by
  rcases hlg : raLong s 40 with _ | _
  · exact rplays_walk w hr h hlg
  · have hb0 := below_new w (.cells #[.int .i64 t0, .int .i64 t1] 48)
    have H := Lib.hid h
    have HLg := fun W (hh : SlRA W A c s) => RaLong_any W hh 40
    rw [hlg] at HLg
    replace HLg := Lib.hid HLg
    clear h hlg
    go_enter Tryz.func6, Tryz.ntmps6
    go_wp2_with fail
    refine (AliveR_any _).mono ?_
    rintro e w1 ⟨rfl, hb1⟩
    have hb2 := bel_call hb0 hb1
    go_wp2_with fail
    refine (HLg.out _ (H.out.below hb2)).mono ?_
    rintro e w2 ⟨rfl, hb3⟩
    have hb := bel_call hb2 hb3
    go_wp2_with fail
    go_ret
    exact ⟨rfl, hb⟩
end Go.Proofs.YtddmfoldnlafaaaGreatDoor
