/- WHAT IT HOLDS: the law StorePlays, walked. -/
import Derived.Test.YtnndlmkcckgkhaaGreatDoorStorePlaysG25
import Derived.Test.YtnndlmkcckgkhaaGreatDoorStorePlaysG14
namespace Go.Proofs.YtnndlmkcckgkhaaGreatDoor
open Go.RowKit Go.Maps Go.Sort
attribute [local go_sem ↓] Go.wp_at_zero Go.wp_at_succ

/-- while a store and the document's are played on: the document's disk lies in a block of its own -/
structure PsS (w W : World) (g b : Nat) (i : Nat) (q : Fp) (gs : Nat) (d : Dk Sv) (A : Option Addr) (c : Nat) (B : Option Addr) (k : Nat) : Prop where
  g : q.g = g
  st : StM W gs q d
  fk : Fok d
  nm : Nmd d
  fro : Fro w W q
  blk : Blk W b 79 (rda (d.map Sv.l) A c B k)
  blo : w.heap.size ≤ b
  gb : gs ≠ b
  R : Rdk (fun j => ¬ q.M j ∧ j ≠ b) W (d.map Sv.l) A c B k
  ap : ¬ q.M b
  sz : d.sure.length + d.pend.length ≤ 4 * i
section
variable {w W W' : World} {g b i : Nat} {q : Fp} {gs : Nat} {d : Dk Sv} {A B : Option Addr} {c k : Nat}
theorem PsS.call (h : PsS w W g b i q gs d A c B k) (hb : Below W.heap.size W W') : PsS w W' g b i q gs d A c B k :=
  ⟨h.g, h.st.below hb, h.fk, h.nm, h.fro.call hb, h.blk.below hb, h.blo, h.gb, h.R.below hb, h.ap, h.sz⟩
/-- the document's disk, as it is then, is laid into its block -/
theorem PsS.next (h : PsS w W g b i q gs d A c B k) {q' : Fp} {d' : Dk Sv} {gs' : Nat} {A' B' : Option Addr} {c' k' : Nat} (hg : q'.g = q.g) (hS : StM W' gs' q' d') (hf : Fok d') (hn : Nmd d') (hF : Frd q W W') (hM : ∀ j, q'.M j → q.M j ∨ W.heap.size ≤ j) (hR : Rdk (fun j => ¬ q'.M j ∧ j ≠ b) W' (d'.map Sv.l) A' c' B' k') (hl : d'.sure.length + d'.pend.length ≤ d.sure.length + d.pend.length + 4) (hgs : gs' = gs ∨ W.heap.size ≤ gs') :
    Blk W' b 79 (rda (d.map Sv.l) A c B k) ∧ ∀ W1, Below W'.heap.size W' W1 → ∀ W2, Wr W1 W2 b → Blk W2 b 79 (rda (d'.map Sv.l) A' c' B' k') → PsS w W2 g b (i + 1) q' gs' d' A' c' B' k' := by
  have hlt := h.blk.lt
  have hap : ¬ q'.M b := fun hq => by
    rcases hM b hq with h1 | h1
    · exact h.ap h1
    · omega
  have hgb : gs' ≠ b := by
    rcases hgs with rfl | h1
    · exact h.gb
    · omega
  have hB : Blk W' b 79 (rda (d.map Sv.l) A c B k) := (hF.block b hlt h.ap).trans h.blk
  refine ⟨hB, fun W1 hb1 W2 hw hB2 => ?_⟩
  have hS1 := hS.below hb1
  have hBB := hB.below hb1
  have hR1 := hR.below hb1
  have hne : ∀ j, j < W1.heap.size → j ≠ b → W2.heap[j]? = W1.heap[j]? := fun j hj hne => hw.block j hj fun e => hne (by injection e)
  refine ⟨hg.trans h.g, ⟨hS1.dsk.apart hBB hap hne, hS1.blk.wr hw hgb, hS1.ap⟩, hf, hn, ?_, hB2, h.blo, hgb, ?_, hap, by have := h.sz; omega⟩
  · have h1 := (h.fro.frd hF hM).call hb1
    have h2 := h.blo
    exact ⟨h1.1.trans (hw.below h1.1.size h2), h1.2⟩
  · exact hR1.sameH (fun _ _ ht => ht) hw.size fun j hj ht => hne j hj ht.2
end
set_option maxRecDepth 100000 in
set_option maxHeartbeats 1000000 in
theorem splays_walk {A : Option Addr} {c : Nat} {s : List SA} {r : Int} (w : World) (_hr : I64 r) (h : SlSA w A c s) (hl : sLong s 40 = false) :
    Calls Tryz.prog 5 #[.int .i64 r, .slice A s.length c] w fun e w' => e = .returned (.bool true) ∧ Below w.heap.size w w' := by
  have H := Lib.hid h
  have HSh := Lib.hid (sLong_short hl)
  have hs40 : s.length ≤ 40 := by have := (sLong_short hl).1; omega
  have HLg := fun W (hh : SlSA W A c s) => SLong_any W hh 40
  rw [hl] at HLg
  replace HLg := Lib.hid HLg
  clear h hl
  go_enter Tryz.func5, Tryz.ntmps5
  go_wp2_with fail
  refine (AliveS_any _).mono ?_
  rintro e w1 ⟨rfl, hb1⟩
  go_wp2_with fail
  refine (HLg.out _ (H.out.below hb1)).mono ?_
  rintro e w2 ⟨rfl, hb2⟩
  have hb := bel_call hb1 hb2
  clear hb1 hb2 HLg
  go_wp2_with fail
  refine (New_any r w2).mono ?_
  rintro e w3 (⟨hro, rfl, hb3⟩ | ⟨hro, q, rfl, hD, hM, hb3⟩)
  · have hN := KNew_any r w3
    have HN := Lib.hid (show Calls Tryz.prog 30 #[.int .i64 r] w3 fun e w' => e = .returned (.tuple #[.agg rdz, .int .i64 1]) ∧ Below w3.heap.size w3 w' from hN.mono fun e w' ⟨h1, h2⟩ => ⟨by rcases h1 with ⟨-, h1⟩ | ⟨h0, -⟩; exact h1; omega, h2⟩)
    have HNm := Lib.hid (fun W => num_any 1 W)
    rw [show errv 1 = Value.iface 68 (.int .i64 1) from rfl] at HNm ⊢
    have hbb := bel_call hb hb3
    clear hN hb hb3 hro
    go_wp2_with fail
    refine HN.out.mono ?_
    rintro e w4 ⟨rfl, hb4⟩
    have hb5 := bel_call hbb hb4
    go_wp2_with fail
    refine (HNm.out _).mono ?_
    rintro e w5 ⟨rfl, rfl⟩
    have HB := Lib.hid (bel_alloc hb5 (.cells rdz 79))
    go_wp2_with fail
    go_ret
    exact ⟨rfl, HB.out⟩
  · have hN := KNew_any r w3
    have HN := Lib.hid (show Calls Tryz.prog 30 #[.int .i64 r] w3 fun e w' => e = .returned (.tuple #[.agg (rda (dk0R r) none 0 none 0), .int .i64 0]) ∧ Below w3.heap.size w3 w' from hN.mono fun e w' ⟨h1, h2⟩ => ⟨by rcases h1 with ⟨h0, -⟩ | ⟨-, h1⟩; omega; exact h1, h2⟩)
    rw [show errv 0 = Value.nilIface from rfl]
    have HF := Lib.hid (show Fro w w3 q from ⟨bel_call hb hb3, fun i hi => Nat.le_trans hb.size (hM i hi)⟩)
    have HD := Lib.hid hD
    clear hN hb hb3 hM hD hro
    go_wp2_with fail
    refine HN.out.mono ?_
    rintro e w4 ⟨rfl, hb4⟩
    have hbn := bel_alloc hb4 (.cells (rda (dk0R r) none 0 none 0) 79)
    have hB4 := Blk.new w4 79 (rda (dk0R r) none 0 none 0)
    have hap4 : ¬ q.M w4.heap.size := fun hq => by have := (HD.out.below hb4).ltM hq; omega
    have hblo : w.heap.size ≤ w4.heap.size := (HF.out.call hb4).1.size
    have HF5 := Lib.hid (HF.out.call hbn)
    have hD5 := HD.out.below hbn
    have hOp := SOpen_any hD5 (Fok.dk0 r) (by show 0 + 0 ≤ 400; omega)
    have HOp := Lib.hid hOp
    have HN0 := Lib.hid (show sOpen Sv.nil (dk0 r) = (dk0 r, 0) from rfl)
    have HB4 := Lib.hid hB4
    clear HN HD hb4 hbn hB4 hOp HF hD5
    obtain ⟨g, hg⟩ : ∃ g, q.g = g := ⟨_, rfl⟩
    rw [hg] at HOp ⊢
    have HG := Lib.hid hg
    clear hg
    unfold rda
    go_wp2_with fail
    refine HOp.out.mono ?_
    rintro e w6 hOO
    obtain ⟨q6, gs, rfl, hg6, hF6, hM6, hS6, hgs6⟩ := hOO.ok HN0.out
    clear HOp hOO
    have hP : PsS w w6 g w4.heap.size 0 q6 gs (dk0 r) none 0 none 0 := by
      have hb6 : ¬ q6.M w4.heap.size := fun hq => by
        rcases hM6 _ hq with h1 | h1
        · exact hap4 h1
        · have := HB4.out.lt; omega
      exact ⟨hg6.trans HG.out, hS6, Fok.dk0 r, ⟨(fun p hp => by cases hp), fun p hp => by cases hp⟩, HF5.out.frd hF6 hM6, (hF6.block _ HB4.out.lt hap4).trans HB4.out, hblo, (fun e => by have := HB4.out.lt; omega), ⟨Sl.none_ _ _, (fun j hj => by cases hj), Sl.none_ _ _, (fun j hj => by cases hj)⟩, hb6, Nat.le_refl _⟩
    have HDk := Lib.hid (SDisk_any hS6)
    rw [hg6, HG.out] at HDk
    have HP := Lib.hid hP
    clear hP hS6 hM6 hF6 hg6 hgs6 HB4 HN0 HF5 hap4 hblo HG
    go_wp2_with fail
    refine HDk.out.mono ?_
    rintro e w7 ⟨rfl, rfl⟩
    clear HDk
    have hpn := ptr_neq g
    have hpg := ptr_guard g
    go_wp2_with fail
    clear hpn hpg
    generalize w4.heap.size = b at *
    go_loopw [59, 9] (fun x y wr => ∃ (i : Nat) (q : Fp) (gs : Nat) (d : Dk Sv) (E : Option Addr) (n : Nat) (B : Option Addr) (k : Nat), i ≤ s.length ∧ x = .int .i64 i ∧ y = .pointer (some ⟨gs, 0, none⟩) ∧ PsS w wr g b i q gs d E n B k) (fun x _ w => s.length - (intOf x).toNat)
    case atStart => exact ⟨0, q6, gs, dk0 r, none, 0, none, 0, Nat.zero_le _, rfl, rfl, HP.out⟩
    case round =>
      clear HP
      clear q6 q
      obtain ⟨i, q, gt, d, E, n, B, k, hi, rfl, rfl, hP⟩ := hrel
      by_cases hlt : i < s.length
      · have hS := H.out.below hP.fro.1
        obtain ⟨ad, bk, o, hA, had, hcc⟩ := Sl.atS (f := sac) (size := 10) (fun _ => rfl) (by omega) hS.1 hlt
        have hc0 := hcc 0 _ rfl
        have hc1 := hcc 1 _ rfl
        have hc2 := hcc 2 _ rfl
        have hc3 := hcc 3 _ rfl
        have hc4 := hcc 4 _ rfl
        have hc5 := hcc 5 _ rfl
        have hc6 := hcc 6 _ rfl
        have hc7 := hcc 7 _ rfl
        have hc8 := hcc 8 _ rfl
        have hc9 := hcc 9 _ rfl
        rw [Nat.add_zero] at hc0
        have hok := hS.2 _ (List.getElem_mem hlt)
        have hok0 := H.out.2 _ (List.getElem_mem hlt)
        have hsh := HSh.out.2 _ (List.getElem_mem hlt)
        clear hcc hS
        generalize s[i] = x at *
        have hb5 := below_new wr (.cells (sacta x) 90)
        have hP5 := hP.call hb5
        have HDo := Lib.hid (SDo_any (P := fun j => j ≠ b) (L := w.heap.size) x hP5.st hP5.fk hP5.nm hP5.R (fun j hj => by have := hP5.blk.lt; omega) ⟨Sl.below hok.1 hb5, Sl.below hok.2.1 hb5, Sl.below hok.2.2.1.1 hb5, Sl.below hok.2.2.1.2.1 hb5⟩ (fun hne ad hA => SlB.ltB hok0.1 hne hA) (fun hne ad hA => SlZ.ltB hok0.2.1 hne hA) (fun hne ad hA => SlB.ltB hok0.2.2.1.1 hne hA) (fun hne ad hA => SlZ.ltB hok0.2.2.1.2.1 hne hA) hP5.fro.2 hP5.fro.1.size (by have := hok.2.2.1.2.2.2.1; unfold I64 at this; omega) hsh (by have := hP5.sz; omega))
        have hBx := Blk.new wr 90 (sacta x)
        obtain ⟨y0, y1, y2, y3, y4, y5, y6, y7, y8, y9⟩ := hBx.tenC
        obtain ⟨r0, r1, r2, r3, r4, -⟩ := hP5.blk.fiveC
        have HP5 := Lib.hid hP5
        subst hA
        clear hok hok0 hsh hb5 hP hP5 hBx
        unfold sacta at *
        go_wp2_with fail
        refine HDo.out.mono ?_
        clear HDo y0 y1 y2 y3 y4 y5 y6 y7 y8 y9 r0 r1 r2 r3 r4
        rintro e w6 ⟨q6, d6, gs6, A6, c6, B6, k6, rfl, hg6, hS6, hf6, hn6, hF6, hM6, hR6, hl6, hgs6⟩
        have hP6 := HP5.out.next hg6 hS6 hf6 hn6 hF6 hM6 hR6 hl6 hgs6
        obtain ⟨hB6, hN6⟩ := hP6
        obtain ⟨r0, r1, r2, r3, r4, rf0, rf1, rf2, rf3, rf4⟩ := hB6.fiveC
        have HN6 := Lib.hid hN6
        have HB6 := Lib.hid hB6
        have hbl := hB6.lt
        clear hN6 hB6 hS6 hf6 hn6 hF6 hM6 hR6 hl6 hgs6 HP5
        unfold rda
        go_upto_region 16 with (fail)
        have hbn := below_new w6 (.cells (rda (d6.map Sv.l) A6 c6 B6 k6) 79)
        refine gen1 (T := fun W => Blk W w6.heap.size 79 (rda (d6.map Sv.l) A6 c6 B6 k6) ∧ Blk W b 79 (rda (d.map Sv.l) E n B k) ∧ Hid (∀ W2, Wr W W2 b → Blk W2 b 79 (rda (d6.map Sv.l) A6 c6 B6 k6) → PsS w W2 g b (i + 1) q6 gs6 d6 A6 c6 B6 k6)) ⟨Blk.new _ _ _, HB6.out.below hbn, Lib.hid (HN6.out _ hbn)⟩ (fun w9 hT => ?_)
        obtain ⟨hb9, hB9, HN9⟩ := hT
        clear r0 r1 r2 r3 r4 rf0 rf1 rf2 rf3 rf4 HN6 HB6 hbn hc0 hc1 hc2 hc3 hc4 hc5 hc6 hc7 hc8 hc9
        go_cut [9] from 60 to 75 (fun z wz => z = .pointer (some ⟨gs6, 0, none⟩) ∧ PsS w wz g b (i + 1) q6 gs6 d6 A6 c6 B6 k6)
        case first =>
          have hst : Blk (World.drew w9) w6.heap.size 79 (rda (d6.map Sv.l) A6 c6 B6 k6) := hb9.drew
          obtain ⟨x0, x1, x2, x3, x4, xf0, xf1, xf2, xf3, xf4⟩ := hB9.fiveC
          have hne : w6.heap.size ≠ b := by omega
          refine wp_region_held_drew (S := (fun W => Blk W w6.heap.size 79 (rda (d6.map Sv.l) A6 c6 B6 k6))) (by kernel_rfl) ?_ (fun hHeld => ?_)
          · first | with_reducible exact hst | with_reducible exact hHeld | exact ((((hHeld.far hne _).far hne _).far hne _).far hne _).far hne _
          refine wpAnyH_take (i := 0) (oi := ⟨some 71, _, _, _, _, _⟩) (v := ?_) rfl (by kernel_rfl) (by kernel_rfl) (by kernel_rfl) (fun _ _ _ h => h) (Or.inl ⟨by kernel_rfl, ?_⟩) (by assumption) ?_
          rotate_left
          · (intro wS hSw; (try dsimp only at hSw); obtain ⟨z0, z1, z2, z3, z4, -⟩ := hSw.fiveC; clear hSw; go_simp; (try with_reducible rfl))
          (try simp only [Act.put, List.setIfInBounds_toArray, List.set_cons_zero, List.set_cons_succ])
          refine wpAnyH_take (i := 1) (oi := ⟨some 72, _, _, _, _, _⟩) (v := ?_) rfl (by kernel_rfl) (by kernel_rfl) (by kernel_rfl) (fun _ _ _ h => h) (Or.inl ⟨by kernel_rfl, ?_⟩) (by assumption) ?_
          rotate_left
          · (intro wS hSw; (try dsimp only at hSw); obtain ⟨z0, z1, z2, z3, z4, -⟩ := hSw.fiveC; clear hSw; go_simp; (try with_reducible rfl))
          (try simp only [Act.put, List.setIfInBounds_toArray, List.set_cons_zero, List.set_cons_succ])
          refine wpAnyH_take (i := 2) (oi := ⟨some 9, _, _, _, _, _⟩) (v := ?_) rfl (by kernel_rfl) (by kernel_rfl) (by kernel_rfl) (fun _ _ _ h => h) (Or.inl ⟨by kernel_rfl, ?_⟩) (by assumption) ?_
          rotate_left
          · (intro wS hSw; (try dsimp only at hSw); obtain ⟨z0, z1, z2, z3, z4, -⟩ := hSw.fiveC; clear hSw; go_simp; (try with_reducible rfl))
          (try simp only [Act.put, List.setIfInBounds_toArray, List.set_cons_zero, List.set_cons_succ])
          refine wpAnyH_ready (rs := [3]) (by kernel_rfl) (by simp) ?_
          refine AllReadyH.cons (o := ⟨none, _, _, _, _, _⟩) rfl (fun K hK => ?_) AllReadyH.nil
          go_simp
          refine hK.out _ _ ?_ (fun hHeld => ?_)
          · ((try dsimp only); (first | with_reducible exact hst | with_reducible exact hHeld | exact ((((hHeld.far hne _).far hne _).far hne _).far hne _).far hne _))
          clear hK K
          (try simp only [Act.put, List.setIfInBounds_toArray, List.set_cons_zero, List.set_cons_succ])
          refine wpAnyH_done (by kernel_rfl) ?_ _
          go_wp2_with fail
          go_meet
          exact ⟨rfl, HN9.out _ (((((((Wr.refl _ _).set_ 0 _).set_ 1 _).set_ 2 _).set_ 3 _).set_ 4 _).drew) (hB9.st5 _ _ _ _ _).drew⟩
        obtain ⟨rfl, hP9⟩ := hcut
        go_wp2_with fail
        go_roundw
        case rel => exact ⟨i + 1, q6, gs6, d6, A6, c6, B6, k6, hlt, by go_num, rfl, hP9⟩
        case measure => simp [intOf]; omega
      · have hI : (s.length : Int) ≤ (i : Int) := by omega
        have HB := Lib.hid hP.fro.1
        clear hP
        go_wp2_with fail
        go_ret
        exact ⟨rfl, HB.out⟩
set_option maxRecDepth 100000 in
set_option maxHeartbeats 1000000 in
theorem splays_all {A : Option Addr} {c : Nat} {s : List SA} {r : Int} (w : World) (hr : I64 r) (h : SlSA w A c s) :
    Calls Tryz.prog 5 #[.int .i64 r, .slice A s.length c] w fun e w' => e = .returned (.bool true) ∧ Below w.heap.size w w' := by
  rcases hlg : sLong s 40 with _ | _
  · exact splays_walk w hr h hlg
  · have H := Lib.hid h
    have HLg := fun W (hh : SlSA W A c s) => SLong_any W hh 40
    rw [hlg] at HLg
    replace HLg := Lib.hid HLg
    clear h hlg
    go_enter Tryz.func5, Tryz.ntmps5
    go_wp2_with fail
    refine (AliveS_any _).mono ?_
    rintro e w1 ⟨rfl, hb1⟩
    go_wp2_with fail
    refine (HLg.out _ (H.out.below hb1)).mono ?_
    rintro e w2 ⟨rfl, hb2⟩
    have hb := bel_call hb1 hb2
    go_wp2_with fail
    go_ret
    exact ⟨rfl, hb⟩
end Go.Proofs.YtnndlmkcckgkhaaGreatDoor
