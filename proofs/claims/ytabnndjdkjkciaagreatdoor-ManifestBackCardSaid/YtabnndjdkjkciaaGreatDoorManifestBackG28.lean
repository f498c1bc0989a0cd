/- WHAT IT HOLDS: taking segments, the program's and the document's, walked; the law SegmentTakes, walked. | WHAT IT HOLDS: the document's taking of segments, walked. | WHAT IT HOLDS: the segment of bytes that a part tells of: manifest.Holds and the document's, walked. | WHAT IT HOLDS: the law SegmentTakes, walked. -/
import Derived.Test.YtabnndjdkjkciaaGreatDoorManifestBackG27
import Derived.Test.YtabnndjdkjkciaaGreatDoorManifestBackG23
import Derived.Test.YtabnndjdkjkciaaGreatDoorManifestBackG07
import Derived.Test.YtabnndjdkjkciaaGreatDoorManifestBackG08
import Derived.Test.YtabnndjdkjkciaaGreatDoorManifestBackG24
namespace Go.Proofs.YtabnndjdkjkciaaGreatDoor
open Go.RowKit
attribute [local go_sem ↓] Go.wp_at_zero Go.wp_at_succ

/-- the segment that bytes are; an error's number -/
def sgEnd (x : Sg × Rs) : Sg × Nat := if rEnd x.2 ≠ 0 then ((0, []), rEnd x.2) else if schk x.1 ≠ 0 then ((0, []), schk x.1) else (x.1, 0)
def sgRead (s : Rs) : Sg × Rs := ((((rWithin 1048576 s).1 : Int), (takeRun (rWithin 1048576 s).2).1), (takeRun (rWithin 1048576 s).2).2)
def sgTake (b : List UInt8) : Sg × Nat := if (fone b).2 ≠ 0 then ((0, []), (fone b).2) else sgEnd (sgRead ((fone b).1, 0))
theorem End_s {g B : Nat} {s : Rs} {w : World} (hR : IsR w g B s) : Calls Tryz.prog 60 #[.pointer (some ⟨g, 0, none⟩)] w fun e w' => e = .returned (errv (rEnd s)) ∧ w = w' := by obtain ⟨l, b⟩ := s; exact End_any hR
theorem NewS.setLow {w : World} {base g c : Nat} {A : Option Addr} {m : List CeV} (h : NewS w base A c m) (hg : g < base) (i : Nat) (u : Value) : NewS (w.setCell ⟨g, i, none⟩ u) base A c m := ⟨Own.set1 h.1 hg _, fun x hx => Own.set1 (h.2 x hx) hg _⟩
theorem fone_len (b : List UInt8) : (fone b).1.length ≤ b.length := by
  unfold fone
  split
  · simp
  · split
    · simp
    · unfold ftake
      split
      · simp
      · split
        · simp
        · split
          · simp
          · split
            · simp only [List.length_drop, List.length_take]; omega
            · simp
set_option maxRecDepth 100000 in
set_option maxHeartbeats 4000000 in
theorem STake_any (A : Option Addr) (c : Nat) (b : List UInt8) (w : World) (hs : SlB w A c b) (hl : b.length ≤ 1000000) :
    Calls Tryz.prog 48 #[.slice A b.length c] w (GivesSgN w (sgTake b)) := by
  have hRes := Blk.new w 24 #[.int .i64 0, .slice none 0 0]
  have hw := below_new w (.cells #[.int .i64 0, .slice none 0 0] 24)
  have hfl := fone_len b
  go_enter Tryz.func48, Tryz.ntmps48
  go_wp2_with fail
  refine (FOne_any A c b _ (hs.below hw) (by omega)).mono ?_
  rintro e w1 ⟨A1, c1, m1, rfl, hm1, hs1, hb1⟩
  replace hRes := hRes.below hb1
  replace hw := bel_call hw hb1
  clear hb1
  rcases errv_cases (fone b).2 with ⟨h0, hev⟩ | ⟨k, hk, hke, hev⟩
  · have HT0 := Lib.hid (show sgTake b = sgEnd (sgRead ((fone b).1, 0)) from by unfold sgTake; rw [if_neg (by omega)])
    rw [hev]
    have hm1l : m1.length ≤ 1000000 := by rw [hm1.out]; omega
    clear hev h0 hfl
    go_wp2_with fail
    refine (RNew_any A1 c1 m1 _ hs1).mono ?_
    rintro e w2 ⟨g, rfl, hg, hR, hb2⟩
    have hwl : w.heap.size < w1.heap.size := hRes.lt
    replace hRes := hRes.below hb2
    replace hw := bel_call hw hb2
    have hgl := hR.lt
    have HT1 : Hid (sgTake b = sgEnd (sgRead (m1, 0))) := (show _ = _ from by rw [HT0.out, hm1.out])
    clear HT0 hs1 hb2
    have hR' : IsR w2 g w1.heap.size (m1, 0) := hR
    clear hR
    go_wp2_with fail
    refine (Within_any 1048576 hR').mono ?_
    rintro e w3 ⟨rfl, hR3, hr3⟩
    have hb3 : Below w.heap.size w2 w3 := hr3.below hw.size (by omega)
    replace hRes := hRes.wr hr3 (by omega)
    replace hw := hw.trans hb3
    have hgl3 := hR3.lt
    obtain ⟨f, s3, hf3⟩ : ∃ f s, rWithin 1048576 (m1, 0) = (f, s) := ⟨_, _, rfl⟩
    have hs3l := rWithin_len 1048576 (m1, 0)
    rw [hf3] at hR3 hs3l ⊢
    dsimp only at hR3 hs3l ⊢
    have HF3 := Lib.hid hf3
    have hb31 : w1.heap.size ≤ w3.heap.size := by have := hr3.size; omega
    clear hf3 hR' hr3 hb3 hgl
    go_upto_region 6 with (fail)
    have hbx := below_new w3 (.cells #[.int .i64 (f : Nat), .slice none 0 0] 24)
    have hS4 := Blk.new w3 24 #[.int .i64 (f : Nat), .slice none 0 0]
    have hR4 := hR3.below hbx
    replace hRes := hRes.below hbx
    replace hw := bel_call hw hbx
    have hW4 : w3.heap.size < (w3.alloc (.cells #[.int .i64 (f : Nat), .slice none 0 0] 24)).heap.size := by simp
    clear hR3 hbx
    generalize hWe : w3.alloc (.cells #[.int .i64 (f : Nat), .slice none 0 0] 24) = w4 at *
    clear hWe
    generalize hg7e : w3.heap.size = g7 at *
    clear hg7e
    go_wp2_with fail
    refine (TakeRun_any hR4 (by omega) (by omega)).mono ?_
    rintro e w5 ⟨A5, c5, m5, rfl, hm5, hN5, hR5, hr5⟩
    have hb5 : Below w.heap.size w4 w5 := hr5.below hw.size (by omega)
    replace hRes := hRes.wr hr5 (by omega)
    have hS5 := hS4.wr hr5 (by omega)
    replace hw := hw.trans hb5
    have h45 := hr5.size
    clear hR4 hr5 hb5 hS4
    obtain ⟨x0, x1, xf0, xf1⟩ := hS5.two
    go_upto_region 7 with (fail)
    have hS6 := hS5.set_ 1 (.slice A5 m5.length c5)
    have hR6 := hR5.apart (C := g7) (by omega) (by omega) (Below.setCell (p := ⟨g7, 1, none⟩) (Below.refl _ _) (Nat.le_refl _) (.slice A5 m5.length c5))
    replace hRes := hRes.far (p := ⟨g7, 1, none⟩) (by dsimp only; omega) (.slice A5 m5.length c5)
    replace hw := bel_set hw (p := ⟨g7, 1, none⟩) (by dsimp only; omega) (.slice A5 m5.length c5)
    have hN6 := hN5.setLow (g := g7) (by omega) 1 (.slice A5 m5.length c5)
    have hsz6 : (w5.setCell ⟨g7, 1, none⟩ (.slice A5 m5.length c5)).heap.size = w5.heap.size := by simp
    clear hS5 hR5 hN5 x0 x1 xf0 xf1
    generalize hWe : w5.setCell ⟨g7, 1, none⟩ (.slice A5 m5.length c5) = w6 at *
    clear hWe
    have hS6' : Blk w6 g7 24 #[.int .i64 (f : Nat), .slice A5 m5.length c5] := by simpa using hS6
    clear hS6
    have hE := End_s hR6
    obtain ⟨rn, s5, ht5⟩ : ∃ r s, takeRun s3 = (r, s) := ⟨_, _, rfl⟩
    rw [ht5] at hE hm5
    dsimp only at hE hm5
    have hsr : sgRead (m1, 0) = (((f : Int), rn), s5) := by unfold sgRead; rw [HF3.out]; dsimp only; rw [ht5]
    have HT2 : Hid (sgTake b = sgEnd (((f : Int), rn), s5)) := (show _ = _ from by rw [HT1.out, hsr])
    clear HT1 HF3 ht5 hsr hR6
    go_wp2_with fail
    rcases errv_cases (rEnd s5) with ⟨h0, hev⟩ | ⟨k, hk, hke, hev⟩
    · rw [hev] at hE
      have HE := Lib.hid hE
      have HN0 := Lib.hid h0
      clear hE hev h0
      refine HE.out.mono ?_
      rintro e w7 ⟨rfl, rfl⟩
      obtain ⟨x0, x1, xf0, xf1⟩ := hS6'.two
      go_wp2_with fail
      refine (SCheck_any (f : Nat) m5 _ hN6.slc).mono ?_
      rintro e w8 ⟨rfl, hb8⟩
      replace hRes := hRes.below hb8
      replace hw := bel_call hw hb8
      replace hS6' := hS6'.below hb8
      replace hN6 := hN6.below hb8
      clear hb8 x0 x1 xf0 xf1
      rw [hm5.out]
      rcases errv_cases (schk ((f : Int), rn)) with ⟨h0, hev⟩ | ⟨k, hk, hke, hev⟩
      · have HT := Lib.hid (show sgTake b = (((f : Int), rn), 0) from by rw [HT2.out]; unfold sgEnd; rw [if_neg (by rw [HN0.out]; simp), if_neg (by rw [h0]; simp)])
        rw [hev]
        clear hev h0
        obtain ⟨x0, x1, xf0, xf1⟩ := hS6'.two
        obtain ⟨r0, r1, rf0, rf1⟩ := hRes.two
        go_wp2_with fail
        exact bodyPost_ret (res_sg2 rfl rfl (g := w.heap.size) (hRes.set2 _ _)) rfl ⟨A5, c5, m5, by rw [HT.out]; rfl, (show _ = _ from by rw [HT.out, hm5.out]), NewS.more ((hN6.setLow (g := w.heap.size) (by omega) 0 _).setLow (g := w.heap.size) (by omega) 1 _) (by omega), bel_set (bel_set hw (Nat.le_refl _) _) (Nat.le_refl _) _⟩
      · have HT := Lib.hid (show sgTake b = ((0, []), schk ((f : Int), rn)) from by rw [HT2.out]; unfold sgEnd; rw [if_neg (by rw [HN0.out]; simp), if_pos (by dsimp only; omega)])
        have HEV := Lib.hid hev
        rw [hev]
        clear hev hke
        obtain ⟨r0, r1, rf0, rf1⟩ := hRes.two
        go_wp2_with fail
        exact bodyPost_ret (res_sg2 rfl rfl (g := w.heap.size) (hRes.set2 _ _)) rfl ⟨none, 0, [], by rw [HT.out]; dsimp only; rw [HEV.out]; rfl, (show _ = _ from by rw [HT.out]; rfl), NewS.nil _ _, bel_set (bel_set hw (Nat.le_refl _) _) (Nat.le_refl _) _⟩
    · have HT := Lib.hid (show sgTake b = ((0, []), rEnd s5) from by rw [HT2.out]; unfold sgEnd; rw [if_pos (by dsimp only; omega)])
      have HEV := Lib.hid hev
      rw [hev] at hE
      have HE := Lib.hid hE
      clear hev hke hE
      refine HE.out.mono ?_
      rintro e w7 ⟨rfl, rfl⟩
      obtain ⟨r0, r1, rf0, rf1⟩ := hRes.two
      go_wp2_with fail
      exact bodyPost_ret (res_sg2 rfl rfl (g := w.heap.size) (hRes.set2 _ _)) rfl ⟨none, 0, [], by rw [HT.out]; dsimp only; rw [HEV.out]; rfl, (show _ = _ from by rw [HT.out]; rfl), NewS.nil _ _, bel_set (bel_set hw (Nat.le_refl _) _) (Nat.le_refl _) _⟩
  · have HT := Lib.hid (show sgTake b = ((0, []), (fone b).2) from by unfold sgTake; rw [if_pos (by omega)])
    have HEV := Lib.hid hev
    rw [hev]
    clear hev hke hfl
    obtain ⟨r0, r1, rf0, rf1⟩ := hRes.two
    go_wp2_with fail
    exact bodyPost_ret (res_sg2 rfl rfl (g := w.heap.size) (hRes.set2 _ _)) rfl ⟨none, 0, [], by rw [HT.out]; dsimp only; rw [HEV.out]; rfl, (show _ = _ from by rw [HT.out]; rfl), NewS.nil _ _, bel_set (bel_set hw (Nat.le_refl _) _) (Nat.le_refl _) _⟩
end Go.Proofs.YtabnndjdkjkciaaGreatDoor

namespace Go.Proofs.YtabnndjdkjkciaaGreatDoor
open Go.RowKit
attribute [local go_sem ↓] Go.wp_at_zero Go.wp_at_succ

end Go.Proofs.YtabnndjdkjkciaaGreatDoor

namespace Go.Proofs.YtabnndjdkjkciaaGreatDoor
open Go.RowKit
attribute [local go_sem ↓] Go.wp_at_zero Go.wp_at_succ

theorem BlT.dg {w : World} {g : Nat} {T : TypeId} {p : Pt5} (h : Blk w g T (pta p)) : ∀ j u, (dga p.2.2.2)[j]? = some u → w.cell? ((⟨g, 3, none⟩ : Addr).add j) = some u := fun j u hj => by
  rw [addr_lit, h.cell]
  replace hj : (bvs p.2.2.2.1)[j]? = some u := by simpa [dga] using hj
  rw [show 3 + j = j + 1 + 1 + 1 from by omega]
  simp only [pta, ptl, List.getElem?_toArray, List.getElem?_cons_succ]
  exact hj
theorem neq_dg (a b : Dg) (w : World) : (binOp .neq 26 (.agg (dga a)) (.agg (dga b))).run Tryz.prog w = .ok (.bool (!decide (a = b))) w := by
  have h : (Op.equalIn 10000 26 (.agg (dga a)) (.agg (dga b))).run Tryz.prog w = .ok (decide (a = b)) w := equalIn_dg a b 9998 w
  rw [run_neq_struct, h]
  rfl
/-- the segment of bytes that a part tells of; an error's number -/
def mholds (p : Pt5) (b : List UInt8) : Sg × Nat :=
  if (b.length : Int) ≠ p.2.2.1 then ((0, []), 11) else if shaD b ≠ p.2.2.2 then ((0, []), 11) else if (sgTake b).2 ≠ 0 then ((0, []), (sgTake b).2)
  else if (sgTake b).1.1 ≠ p.1 then ((0, []), 2) else if ((sgTake b).1.2.length : Int) ≠ p.2.1 then ((0, []), 2) else ((sgTake b).1, 0)
theorem mholds_1 {p : Pt5} {b : List UInt8} (h : (b.length : Int) ≠ p.2.2.1) : mholds p b = ((0, []), 11) := by unfold mholds; rw [if_pos h]
theorem mholds_2 {p : Pt5} {b : List UInt8} (h : (b.length : Int) = p.2.2.1) (h2 : shaD b ≠ p.2.2.2) : mholds p b = ((0, []), 11) := by unfold mholds; rw [if_neg (by simpa using h), if_pos h2]
theorem mholds_3 {p : Pt5} {b : List UInt8} (h : (b.length : Int) = p.2.2.1) (h2 : shaD b = p.2.2.2) (h3 : (sgTake b).2 ≠ 0) : mholds p b = ((0, []), (sgTake b).2) := by unfold mholds; rw [if_neg (by simpa using h), if_neg (by simpa using h2), if_pos h3]
theorem mholds_4 {p : Pt5} {b : List UInt8} (h : (b.length : Int) = p.2.2.1) (h2 : shaD b = p.2.2.2) (h3 : (sgTake b).2 = 0) (h4 : (sgTake b).1.1 ≠ p.1) : mholds p b = ((0, []), 2) := by unfold mholds; rw [if_neg (by simpa using h), if_neg (by simpa using h2), if_neg (by omega), if_pos h4]
theorem mholds_5 {p : Pt5} {b : List UInt8} (h : (b.length : Int) = p.2.2.1) (h2 : shaD b = p.2.2.2) (h3 : (sgTake b).2 = 0) (h4 : (sgTake b).1.1 = p.1) (h5 : ((sgTake b).1.2.length : Int) ≠ p.2.1) : mholds p b = ((0, []), 2) := by
  unfold mholds; rw [if_neg (by simpa using h), if_neg (by simpa using h2), if_neg (by omega), if_neg (by simpa using h4), if_pos h5]
theorem mholds_6 {p : Pt5} {b : List UInt8} (h : (b.length : Int) = p.2.2.1) (h2 : shaD b = p.2.2.2) (h3 : (sgTake b).2 = 0) (h4 : (sgTake b).1.1 = p.1) (h5 : ((sgTake b).1.2.length : Int) = p.2.1) : mholds p b = ((sgTake b).1, 0) := by
  unfold mholds; rw [if_neg (by simpa using h), if_neg (by simpa using h2), if_neg (by omega), if_neg (by simpa using h4), if_neg (by simpa using h5)]
set_option maxRecDepth 100000 in
set_option maxHeartbeats 2000000 in
theorem MHolds_any {A : Option Addr} {c : Nat} (p : Pt5) (b : List UInt8) (w : World) (hG : Shg w) (hs : SlB w A c b) (hl : b.length ≤ 1000000) :
    Calls Tryz.prog 15 #[.agg (pta p), .slice A b.length c] w (GivesSgN w (mholds p b)) := by
  have hM := ((Mm.start w).alloc (pta p) 28).alloc #[.int .i64 0, .slice none 0 0] 24
  rw [show (w.alloc (.cells (pta p) 28)).heap.size = w.heap.size + 1 from by simp] at hM
  have hds := Lib.hid (dga_size p.2.2.2)
  have HS := Lib.hid (fun W (hh : Below w.heap.size w W) => Sum_any b W (hG.below hh) (Sl.below hs hh) hl)
  have HTk := Lib.hid (fun W (hh : Below w.heap.size w W) => STake_any A c b W (Sl.below hs hh) hl)
  have H1 := Lib.hid (fun h => mholds_1 (p := p) (b := b) h)
  have H2 := Lib.hid (fun h h2 => mholds_2 (p := p) (b := b) h h2)
  have H3 := Lib.hid (fun h h2 h3 => mholds_3 (p := p) (b := b) h h2 h3)
  have H4 := Lib.hid (fun h h2 h3 h4 => mholds_4 (p := p) (b := b) h h2 h3 h4)
  have H5 := Lib.hid (fun h h2 h3 h4 h5 => mholds_5 (p := p) (b := b) h h2 h3 h4 h5)
  have H6 := Lib.hid (fun h h2 h3 h4 h5 => mholds_6 (p := p) (b := b) h h2 h3 h4 h5)
  go_enter Tryz.func15, Tryz.ntmps15
  go_upto_region 1 with (fail)
  refine gen1 (T := fun W => Mm w W [(w.heap.size + 1, 24, #[.int .i64 0, .slice none 0 0]), (w.heap.size, 28, pta p)] []) hM (fun w1 hM => ?_)
  have hMd := hM.drew
  by_cases h1 : (b.length : Int) = p.2.2.1
  rotate_left
  · have hz : ((b.length : Int) != p.2.2.1) = true := by simpa using h1
    have HT := Lib.hid (H1.out h1)
    clear hM h1 H1 H2 H3 H4 H5 H6 HS HTk
    refine wp_region_held_drew (S := (fun W => Mm w W [(w.heap.size + 1, 24, #[.int .i64 0, .slice none 0 0]), (w.heap.size, 28, pta p)] [])) (by kernel_rfl) ?_ (fun hHeld => ?_)
    · first | with_reducible exact hMd | with_reducible exact hHeld
    refine wpAnyH_take (i := 0) (oi := ⟨some 8, _, _, _, _, _⟩) (v := ?_) rfl (by kernel_rfl) (by kernel_rfl) (by kernel_rfl) (fun _ _ _ h => h) (Or.inl ⟨by kernel_rfl, ?_⟩) (by assumption) ?_
    rotate_left
    · (intro wS hSw; (try dsimp only at hSw); obtain ⟨x0, x1, x2⟩ := Bl3 hSw.b1; clear hSw; go_simp; (try with_reducible rfl))
    (try simp only [Act.put, List.setIfInBounds_toArray, List.set_cons_zero, List.set_cons_succ])
    refine wpAnyH_take (i := 1) (oi := ⟨some 9, _, _, _, _, _⟩) (v := ?_) rfl (by kernel_rfl) (by kernel_rfl) (by kernel_rfl) (fun _ _ _ h => h) (Or.inl ⟨by kernel_rfl, ?_⟩) (by assumption) ?_
    rotate_left
    · (intro wS hSw; (try dsimp only at hSw); obtain ⟨x0, x1, x2⟩ := Bl3 hSw.b1; clear hSw; go_simp; (try with_reducible rfl))
    (try simp only [Act.put, List.setIfInBounds_toArray, List.set_cons_zero, List.set_cons_succ])
    refine wpAnyH_take (i := 2) (oi := ⟨some 10, _, _, _, _, _⟩) (v := ?_) rfl (by kernel_rfl) (by kernel_rfl) (by kernel_rfl) (fun _ _ _ h => h) (Or.inl ⟨by kernel_rfl, ?_⟩) (by assumption) ?_
    rotate_left
    · (intro wS hSw; (try dsimp only at hSw); obtain ⟨x0, x1, x2⟩ := Bl3 hSw.b1; clear hSw; go_simp; (try with_reducible rfl))
    (try simp only [Act.put, List.setIfInBounds_toArray, List.set_cons_zero, List.set_cons_succ])
    refine wpAnyH_take (i := 3) (oi := ⟨some 11, _, _, _, _, _⟩) (v := ?_) rfl (by kernel_rfl) (by kernel_rfl) (by kernel_rfl) (fun _ _ _ h => h) (Or.inl ⟨by kernel_rfl, ?_⟩) (by assumption) ?_
    rotate_left
    · (intro wS hSw; (try dsimp only at hSw); obtain ⟨x0, x1, x2⟩ := Bl3 hSw.b1; clear hSw; go_simp; (try with_reducible rfl))
    (try simp only [Act.put, List.setIfInBounds_toArray, List.set_cons_zero, List.set_cons_succ])
    refine wpAnyH_take (i := 4) (oi := ⟨some 12, _, _, _, _, _⟩) (v := ?_) rfl (by kernel_rfl) (by kernel_rfl) (by kernel_rfl) (fun _ _ _ h => h) (Or.inl ⟨by kernel_rfl, ?_⟩) (by assumption) ?_
    rotate_left
    · (intro wS hSw; (try dsimp only at hSw); obtain ⟨x0, x1, x2⟩ := Bl3 hSw.b1; clear hSw; go_simp; (try with_reducible rfl))
    (try simp only [Act.put, List.setIfInBounds_toArray, List.set_cons_zero, List.set_cons_succ])
    refine wpAnyH_take (i := 5) (oi := ⟨some 13, _, _, _, _, _⟩) (v := ?_) rfl (by kernel_rfl) (by kernel_rfl) (by kernel_rfl) (fun _ _ _ h => h) (Or.inl ⟨by kernel_rfl, ?_⟩) (by assumption) ?_
    rotate_left
    · (intro wS hSw; (try dsimp only at hSw); obtain ⟨x0, x1, x2⟩ := Bl3 hSw.b1; clear hSw; go_simp; (try with_reducible rfl))
    (try simp only [Act.put, List.setIfInBounds_toArray, List.set_cons_zero, List.set_cons_succ])
    refine wpAnyH_take (i := 6) (oi := ⟨some 14, _, _, _, _, _⟩) (v := undef) rfl (by kernel_rfl) (by kernel_rfl) (by kernel_rfl) (fun _ _ _ h => h) (Or.inr ⟨by kernel_rfl, rfl⟩) (by assumption) ?_
    (try simp only [Act.put, List.setIfInBounds_toArray, List.set_cons_zero, List.set_cons_succ])
    refine wpAnyH_take (i := 7) (oi := ⟨some 15, _, _, _, _, _⟩) (v := undef) rfl (by kernel_rfl) (by kernel_rfl) (by kernel_rfl) (fun _ _ _ h => h) (Or.inr ⟨by kernel_rfl, rfl⟩) (by assumption) ?_
    (try simp only [Act.put, List.setIfInBounds_toArray, List.set_cons_zero, List.set_cons_succ])
    refine wpAnyH_take (i := 8) (oi := ⟨some 16, _, _, _, _, _⟩) (v := undef) rfl (by kernel_rfl) (by kernel_rfl) (by kernel_rfl) (fun _ _ _ h => h) (Or.inr ⟨by kernel_rfl, rfl⟩) (by assumption) ?_
    (try simp only [Act.put, List.setIfInBounds_toArray, List.set_cons_zero, List.set_cons_succ])
    refine wpAnyH_take (i := 9) (oi := ⟨some 17, _, _, _, _, _⟩) (v := undef) rfl (by kernel_rfl) (by kernel_rfl) (by kernel_rfl) (fun _ _ _ h => h) (Or.inr ⟨by kernel_rfl, rfl⟩) (by assumption) ?_
    (try simp only [Act.put, List.setIfInBounds_toArray, List.set_cons_zero, List.set_cons_succ])
    refine wpAnyH_take (i := 10) (oi := ⟨some 18, _, _, _, _, _⟩) (v := undef) rfl (by kernel_rfl) (by kernel_rfl) (by kernel_rfl) (fun _ _ _ h => h) (Or.inr ⟨by kernel_rfl, rfl⟩) (by assumption) ?_
    (try simp only [Act.put, List.setIfInBounds_toArray, List.set_cons_zero, List.set_cons_succ])
    refine wpAnyH_take (i := 11) (oi := ⟨some 19, _, _, _, _, _⟩) (v := ?_) rfl (by kernel_rfl) (by kernel_rfl) (by kernel_rfl) (fun _ _ _ h => h) (Or.inl ⟨by kernel_rfl, ?_⟩) (by assumption) ?_
    rotate_left
    · (intro wS hSw; (try dsimp only at hSw); obtain ⟨x0, x1, x2⟩ := Bl3 hSw.b1; clear hSw; go_simp; (try with_reducible rfl))
    (try simp only [Act.put, List.setIfInBounds_toArray, List.set_cons_zero, List.set_cons_succ])
    refine wpAnyH_done (by kernel_rfl) ?_ _
    have hM := hMd
    clear hMd
    generalize World.drew w1 = wd at *
    obtain ⟨r0, r1, rf0, rf1⟩ := hM.b0.two
    go_wp2_with fail
    exact bodyPost_ret (res_sg2 rfl rfl (g := w.heap.size + 1) (hM.b0.set2 _ _)) rfl ⟨none, 0, [], by rw [HT.out]; first | rfl | (dsimp only; rw [HEV.out]; rfl), (show _ = _ from by rw [HT.out] <;> rfl), NewS.nil _ _, bel_set (bel_set hM.bel (by dsimp only; omega) _) (by dsimp only; omega) _⟩
  have hz : ((b.length : Int) != p.2.2.1) = false := by simpa using h1
  obtain ⟨d, hd⟩ : ∃ d, shaD b = d := ⟨_, rfl⟩
  rw [hd] at HS H2 H3 H4 H5 H6
  by_cases h2 : d = p.2.2.2
  rotate_left
  · have hn := fun W => neq_dg d p.2.2.2 W
    rw [decide_eq_false h2, Bool.not_false] at hn
    have HT := Lib.hid (H2.out h1 h2)
    clear hM h1 h2 H1 H2 H3 H4 H5 H6 hd HTk
    refine wp_region_held_drew (S := (fun W => Mm w W [(w.heap.size + 1, 24, #[.int .i64 0, .slice none 0 0]), (w.heap.size, 28, pta p)] [])) (by kernel_rfl) ?_ (fun hHeld => ?_)
    · first | with_reducible exact hMd | with_reducible exact hHeld | exact hHeld.call hb9
    refine wpAnyH_take (i := 0) (oi := ⟨some 8, _, _, _, _, _⟩) (v := ?_) rfl (by kernel_rfl) (by kernel_rfl) (by kernel_rfl) (fun _ _ _ h => h) (Or.inl ⟨by kernel_rfl, ?_⟩) (by assumption) ?_
    rotate_left
    · (intro wS hSw; (try dsimp only at hSw); obtain ⟨x0, x1, x2⟩ := Bl3 hSw.b1; clear hSw; go_simp; (try with_reducible rfl))
    (try simp only [Act.put, List.setIfInBounds_toArray, List.set_cons_zero, List.set_cons_succ])
    refine wpAnyH_take (i := 1) (oi := ⟨some 9, _, _, _, _, _⟩) (v := ?_) rfl (by kernel_rfl) (by kernel_rfl) (by kernel_rfl) (fun _ _ _ h => h) (Or.inl ⟨by kernel_rfl, ?_⟩) (by assumption) ?_
    rotate_left
    · (intro wS hSw; (try dsimp only at hSw); obtain ⟨x0, x1, x2⟩ := Bl3 hSw.b1; clear hSw; go_simp; (try with_reducible rfl))
    (try simp only [Act.put, List.setIfInBounds_toArray, List.set_cons_zero, List.set_cons_succ])
    refine wpAnyH_take (i := 2) (oi := ⟨some 10, _, _, _, _, _⟩) (v := ?_) rfl (by kernel_rfl) (by kernel_rfl) (by kernel_rfl) (fun _ _ _ h => h) (Or.inl ⟨by kernel_rfl, ?_⟩) (by assumption) ?_
    rotate_left
    · (intro wS hSw; (try dsimp only at hSw); obtain ⟨x0, x1, x2⟩ := Bl3 hSw.b1; clear hSw; go_simp; (try with_reducible rfl))
    (try simp only [Act.put, List.setIfInBounds_toArray, List.set_cons_zero, List.set_cons_succ])
    refine wpAnyH_take (i := 3) (oi := ⟨some 11, _, _, _, _, _⟩) (v := ?_) rfl (by kernel_rfl) (by kernel_rfl) (by kernel_rfl) (fun _ _ _ h => h) (Or.inl ⟨by kernel_rfl, ?_⟩) (by assumption) ?_
    rotate_left
    · (intro wS hSw; (try dsimp only at hSw); obtain ⟨x0, x1, x2⟩ := Bl3 hSw.b1; clear hSw; go_simp; (try with_reducible rfl))
    (try simp only [Act.put, List.setIfInBounds_toArray, List.set_cons_zero, List.set_cons_succ])
    refine wpAnyH_take (i := 4) (oi := ⟨some 12, _, _, _, _, _⟩) (v := ?_) rfl (by kernel_rfl) (by kernel_rfl) (by kernel_rfl) (fun _ _ _ h => h) (Or.inl ⟨by kernel_rfl, ?_⟩) (by assumption) ?_
    rotate_left
    · (intro wS hSw; (try dsimp only at hSw); obtain ⟨x0, x1, x2⟩ := Bl3 hSw.b1; clear hSw; go_simp; (try with_reducible rfl))
    (try simp only [Act.put, List.setIfInBounds_toArray, List.set_cons_zero, List.set_cons_succ])
    refine wpAnyH_take (i := 5) (oi := ⟨some 13, _, _, _, _, _⟩) (v := ?_) rfl (by kernel_rfl) (by kernel_rfl) (by kernel_rfl) (fun _ _ _ h => h) (Or.inl ⟨by kernel_rfl, ?_⟩) (by assumption) ?_
    rotate_left
    · (intro wS hSw; (try dsimp only at hSw); obtain ⟨x0, x1, x2⟩ := Bl3 hSw.b1; clear hSw; go_simp; (try with_reducible rfl))
    (try simp only [Act.put, List.setIfInBounds_toArray, List.set_cons_zero, List.set_cons_succ])
    refine wpAnyH_take (i := 6) (oi := ⟨some 14, _, _, _, _, _⟩) (v := ?_) rfl (by kernel_rfl) (by kernel_rfl) (by kernel_rfl) (fun _ _ _ h => h) (Or.inl ⟨by kernel_rfl, ?_⟩) (by assumption) ?_
    rotate_left
    · (intro wS hSw; (try dsimp only at hSw); obtain ⟨x0, x1, x2⟩ := Bl3 hSw.b1; clear hSw; go_simp; (try with_reducible rfl))
    (try simp only [Act.put, List.setIfInBounds_toArray, List.set_cons_zero, List.set_cons_succ])
    refine wpAnyH_take (i := 8) (oi := ⟨some 16, _, _, _, _, _⟩) (v := ?_) rfl (by kernel_rfl) (by kernel_rfl) (by kernel_rfl) (fun _ _ _ h => h) (Or.inl ⟨by kernel_rfl, ?_⟩) (by assumption) ?_
    rotate_left
    · (intro wS hSw; (try dsimp only at hSw); obtain ⟨x0, x1, x2⟩ := Bl3 hSw.b1; clear hSw; go_simp; (try with_reducible rfl))
    (try simp only [Act.put, List.setIfInBounds_toArray, List.set_cons_zero, List.set_cons_succ])
    refine wpAnyH_take (i := 9) (oi := ⟨some 17, _, _, _, _, _⟩) (v := ?_) rfl (by kernel_rfl) (by kernel_rfl) (by kernel_rfl) (fun _ _ _ h => h) (Or.inl ⟨by kernel_rfl, ?_⟩) (by assumption) ?_
    rotate_left
    · (intro wS hSw; (try dsimp only at hSw); (refine yld_load 26 (.tmp 16) ?_ ⟨w.heap.size, 3, none⟩ (dga p.2.2.2) ?_ (BlT.dg hSw.b1) _ Tryz.underlying26 rfl (by rw [hds.out]; kernel_rfl) <;> rfl))
    (try simp only [Act.put, List.setIfInBounds_toArray, List.set_cons_zero, List.set_cons_succ])
    refine wpAnyH_ready (rs := [7]) (by kernel_rfl) (by simp) ?_
    refine AllReadyH.cons (o := ⟨some 15, _, _, _, _, _⟩) rfl (fun K hK => ?_) AllReadyH.nil
    go_simp
    (refine (HS.out _ hHeld.bel).mono ?_; rintro e w9 ⟨rfl, hb9⟩)
    go_wp2_with fail
    refine hK.out _ _ ?_ (fun hHeld => ?_)
    · ((try dsimp only); (first | with_reducible exact hMd | with_reducible exact hHeld | exact hHeld.call hb9))
    clear hK K
    (try simp only [Act.put, List.setIfInBounds_toArray, List.set_cons_zero, List.set_cons_succ])
    refine wpAnyH_take (i := 10) (oi := ⟨some 18, _, _, _, _, _⟩) (v := ?_) rfl (by kernel_rfl) (by kernel_rfl) (by kernel_rfl) (fun _ _ _ h => h) (Or.inl ⟨by kernel_rfl, ?_⟩) (by assumption) ?_
    rotate_left
    · (intro wS hSw; (try dsimp only at hSw); obtain ⟨x0, x1, x2⟩ := Bl3 hSw.b1; clear hSw; go_simp; (try with_reducible rfl))
    (try simp only [Act.put, List.setIfInBounds_toArray, List.set_cons_zero, List.set_cons_succ])
    refine wpAnyH_take (i := 11) (oi := ⟨some 19, _, _, _, _, _⟩) (v := ?_) rfl (by kernel_rfl) (by kernel_rfl) (by kernel_rfl) (fun _ _ _ h => h) (Or.inl ⟨by kernel_rfl, ?_⟩) (by assumption) ?_
    rotate_left
    · (intro wS hSw; (try dsimp only at hSw); obtain ⟨x0, x1, x2⟩ := Bl3 hSw.b1; clear hSw; go_simp; (try with_reducible rfl))
    (try simp only [Act.put, List.setIfInBounds_toArray, List.set_cons_zero, List.set_cons_succ])
    refine wpAnyH_done (by kernel_rfl) ?_ _
    have hM := hHeld
    clear hHeld
    obtain ⟨r0, r1, rf0, rf1⟩ := hM.b0.two
    go_wp2_with fail
    exact bodyPost_ret (res_sg2 rfl rfl (g := w.heap.size + 1) (hM.b0.set2 _ _)) rfl ⟨none, 0, [], by rw [HT.out]; first | rfl | (dsimp only; rw [HEV.out]; rfl), (show _ = _ from by rw [HT.out] <;> rfl), NewS.nil _ _, bel_set (bel_set hM.bel (by dsimp only; omega) _) (by dsimp only; omega) _⟩
  have hn := fun W => neq_dg d p.2.2.2 W
  rw [decide_eq_true h2, Bool.not_true] at hn
  have HH := Lib.hid (And.intro h1 h2)
  clear hM h1 h2 H1 H2 hd
  refine wp_region_held_drew (S := (fun W => Mm w W [(w.heap.size + 1, 24, #[.int .i64 0, .slice none 0 0]), (w.heap.size, 28, pta p)] [])) (by kernel_rfl) ?_ (fun hHeld => ?_)
  · first | with_reducible exact hMd | with_reducible exact hHeld | exact hHeld.call hb9
  refine wpAnyH_take (i := 0) (oi := ⟨some 8, _, _, _, _, _⟩) (v := ?_) rfl (by kernel_rfl) (by kernel_rfl) (by kernel_rfl) (fun _ _ _ h => h) (Or.inl ⟨by kernel_rfl, ?_⟩) (by assumption) ?_
  rotate_left
  · (intro wS hSw; (try dsimp only at hSw); obtain ⟨x0, x1, x2⟩ := Bl3 hSw.b1; clear hSw; go_simp; (try with_reducible rfl))
  (try simp only [Act.put, List.setIfInBounds_toArray, List.set_cons_zero, List.set_cons_succ])
  refine wpAnyH_take (i := 1) (oi := ⟨some 9, _, _, _, _, _⟩) (v := ?_) rfl (by kernel_rfl) (by kernel_rfl) (by kernel_rfl) (fun _ _ _ h => h) (Or.inl ⟨by kernel_rfl, ?_⟩) (by assumption) ?_
  rotate_left
  · (intro wS hSw; (try dsimp only at hSw); obtain ⟨x0, x1, x2⟩ := Bl3 hSw.b1; clear hSw; go_simp; (try with_reducible rfl))
  (try simp only [Act.put, List.setIfInBounds_toArray, List.set_cons_zero, List.set_cons_succ])
  refine wpAnyH_take (i := 2) (oi := ⟨some 10, _, _, _, _, _⟩) (v := ?_) rfl (by kernel_rfl) (by kernel_rfl) (by kernel_rfl) (fun _ _ _ h => h) (Or.inl ⟨by kernel_rfl, ?_⟩) (by assumption) ?_
  rotate_left
  · (intro wS hSw; (try dsimp only at hSw); obtain ⟨x0, x1, x2⟩ := Bl3 hSw.b1; clear hSw; go_simp; (try with_reducible rfl))
  (try simp only [Act.put, List.setIfInBounds_toArray, List.set_cons_zero, List.set_cons_succ])
  refine wpAnyH_take (i := 3) (oi := ⟨some 11, _, _, _, _, _⟩) (v := ?_) rfl (by kernel_rfl) (by kernel_rfl) (by kernel_rfl) (fun _ _ _ h => h) (Or.inl ⟨by kernel_rfl, ?_⟩) (by assumption) ?_
  rotate_left
  · (intro wS hSw; (try dsimp only at hSw); obtain ⟨x0, x1, x2⟩ := Bl3 hSw.b1; clear hSw; go_simp; (try with_reducible rfl))
  (try simp only [Act.put, List.setIfInBounds_toArray, List.set_cons_zero, List.set_cons_succ])
  refine wpAnyH_take (i := 4) (oi := ⟨some 12, _, _, _, _, _⟩) (v := ?_) rfl (by kernel_rfl) (by kernel_rfl) (by kernel_rfl) (fun _ _ _ h => h) (Or.inl ⟨by kernel_rfl, ?_⟩) (by assumption) ?_
  rotate_left
  · (intro wS hSw; (try dsimp only at hSw); obtain ⟨x0, x1, x2⟩ := Bl3 hSw.b1; clear hSw; go_simp; (try with_reducible rfl))
  (try simp only [Act.put, List.setIfInBounds_toArray, List.set_cons_zero, List.set_cons_succ])
  refine wpAnyH_take (i := 5) (oi := ⟨some 13, _, _, _, _, _⟩) (v := ?_) rfl (by kernel_rfl) (by kernel_rfl) (by kernel_rfl) (fun _ _ _ h => h) (Or.inl ⟨by kernel_rfl, ?_⟩) (by assumption) ?_
  rotate_left
  · (intro wS hSw; (try dsimp only at hSw); obtain ⟨x0, x1, x2⟩ := Bl3 hSw.b1; clear hSw; go_simp; (try with_reducible rfl))
  (try simp only [Act.put, List.setIfInBounds_toArray, List.set_cons_zero, List.set_cons_succ])
  refine wpAnyH_take (i := 6) (oi := ⟨some 14, _, _, _, _, _⟩) (v := ?_) rfl (by kernel_rfl) (by kernel_rfl) (by kernel_rfl) (fun _ _ _ h => h) (Or.inl ⟨by kernel_rfl, ?_⟩) (by assumption) ?_
  rotate_left
  · (intro wS hSw; (try dsimp only at hSw); obtain ⟨x0, x1, x2⟩ := Bl3 hSw.b1; clear hSw; go_simp; (try with_reducible rfl))
  (try simp only [Act.put, List.setIfInBounds_toArray, List.set_cons_zero, List.set_cons_succ])
  refine wpAnyH_take (i := 8) (oi := ⟨some 16, _, _, _, _, _⟩) (v := ?_) rfl (by kernel_rfl) (by kernel_rfl) (by kernel_rfl) (fun _ _ _ h => h) (Or.inl ⟨by kernel_rfl, ?_⟩) (by assumption) ?_
  rotate_left
  · (intro wS hSw; (try dsimp only at hSw); obtain ⟨x0, x1, x2⟩ := Bl3 hSw.b1; clear hSw; go_simp; (try with_reducible rfl))
  (try simp only [Act.put, List.setIfInBounds_toArray, List.set_cons_zero, List.set_cons_succ])
  refine wpAnyH_take (i := 9) (oi := ⟨some 17, _, _, _, _, _⟩) (v := ?_) rfl (by kernel_rfl) (by kernel_rfl) (by kernel_rfl) (fun _ _ _ h => h) (Or.inl ⟨by kernel_rfl, ?_⟩) (by assumption) ?_
  rotate_left
  · (intro wS hSw; (try dsimp only at hSw); (refine yld_load 26 (.tmp 16) ?_ ⟨w.heap.size, 3, none⟩ (dga p.2.2.2) ?_ (BlT.dg hSw.b1) _ Tryz.underlying26 rfl (by rw [hds.out]; kernel_rfl) <;> rfl))
  (try simp only [Act.put, List.setIfInBounds_toArray, List.set_cons_zero, List.set_cons_succ])
  refine wpAnyH_ready (rs := [7]) (by kernel_rfl) (by simp) ?_
  refine AllReadyH.cons (o := ⟨some 15, _, _, _, _, _⟩) rfl (fun K hK => ?_) AllReadyH.nil
  go_simp
  (refine (HS.out _ hHeld.bel).mono ?_; rintro e w9 ⟨rfl, hb9⟩)
  go_wp2_with fail
  refine hK.out _ _ ?_ (fun hHeld => ?_)
  · ((try dsimp only); (first | with_reducible exact hMd | with_reducible exact hHeld | exact hHeld.call hb9))
  clear hK K
  (try simp only [Act.put, List.setIfInBounds_toArray, List.set_cons_zero, List.set_cons_succ])
  refine wpAnyH_take (i := 10) (oi := ⟨some 18, _, _, _, _, _⟩) (v := ?_) rfl (by kernel_rfl) (by kernel_rfl) (by kernel_rfl) (fun _ _ _ h => h) (Or.inl ⟨by kernel_rfl, ?_⟩) (by assumption) ?_
  rotate_left
  · (intro wS hSw; (try dsimp only at hSw); obtain ⟨x0, x1, x2⟩ := Bl3 hSw.b1; clear hSw; go_simp; (try with_reducible rfl))
  (try simp only [Act.put, List.setIfInBounds_toArray, List.set_cons_zero, List.set_cons_succ])
  refine wpAnyH_take (i := 11) (oi := ⟨some 19, _, _, _, _, _⟩) (v := ?_) rfl (by kernel_rfl) (by kernel_rfl) (by kernel_rfl) (fun _ _ _ h => h) (Or.inl ⟨by kernel_rfl, ?_⟩) (by assumption) ?_
  rotate_left
  · (intro wS hSw; (try dsimp only at hSw); obtain ⟨x0, x1, x2⟩ := Bl3 hSw.b1; clear hSw; go_simp; (try with_reducible rfl))
  (try simp only [Act.put, List.setIfInBounds_toArray, List.set_cons_zero, List.set_cons_succ])
  refine wpAnyH_done (by kernel_rfl) ?_ _
  have hM := hHeld
  clear hHeld hMd hn hz HS
  go_wp2_with fail
  refine (HTk.out _ hM.bel).mono ?_
  rintro e w2 ⟨A3, c3, m3, rfl, hm3, hN3, hb2⟩
  have hM2 := hM.call hb2
  have hlo := hM.b0.lt
  generalize sgTake b = x at *
  obtain ⟨⟨f3, cs3⟩, bad3⟩ := x
  dsimp only at *
  have hml : Hid (m3.length = cs3.length) := (show _ = _ from by
    have h9 := congrArg List.length hm3.out
    simpa using h9)
  go_upto_region 4 with (fail)
  refine gen1 (T := fun W => Mm w W [(w2.heap.size, 24, #[.int .i64 f3, .slice A3 m3.length c3]), (w.heap.size + 1, 24, #[.int .i64 0, .slice none 0 0]), (w.heap.size, 28, pta p)] [] ∧ ∃ B, w.heap.size + 1 < B ∧ NewS W B A3 c3 m3) ⟨hM2.alloc _ _, _, hlo, hN3.below (below_new _ _)⟩ (fun w4 hT => ?_)
  clear hM hM2 hN3 hb2 hlo
  obtain ⟨hM, B, hlo, hN⟩ := hT
  rcases errv_cases bad3 with ⟨h0, hev⟩ | ⟨k, hk, hke, hev⟩
  rotate_left
  · have HT := Lib.hid (H3.out HH.out.1 HH.out.2 (by omega))
    have HEV := Lib.hid hev
    rw [hev]
    clear hev hke
    clear H3 H4 H5 H6 hN
    obtain ⟨r0, r1, rf0, rf1⟩ := hM.b1.two
    go_wp2_with fail
    exact bodyPost_ret (res_sg2 rfl rfl (g := w.heap.size + 1) (hM.b1.set2 _ _)) rfl ⟨none, 0, [], by rw [HT.out]; first | rfl | (dsimp only; rw [HEV.out]; rfl), (show _ = _ from by rw [HT.out] <;> rfl), NewS.nil _ _, bel_set (bel_set hM.bel (by dsimp only; omega) _) (by dsimp only; omega) _⟩
  obtain ⟨x0, x1, x2⟩ := Bl3 hM.b2
  obtain ⟨s0, s1, -, -⟩ := hM.b0.two
  rw [hev]
  clear hev
  by_cases h4 : f3 = p.1
  rotate_left
  · have hz4 : (f3 != p.1) = true := by simpa using h4
    have HT := Lib.hid (H4.out HH.out.1 HH.out.2 h0 h4)
    clear H3 H4 H5 H6 hN h4
    obtain ⟨r0, r1, rf0, rf1⟩ := hM.b1.two
    go_wp2_with fail
    exact bodyPost_ret (res_sg2 rfl rfl (g := w.heap.size + 1) (hM.b1.set2 _ _)) rfl ⟨none, 0, [], by rw [HT.out]; first | rfl | (dsimp only; rw [HEV.out]; rfl), (show _ = _ from by rw [HT.out] <;> rfl), NewS.nil _ _, bel_set (bel_set hM.bel (by dsimp only; omega) _) (by dsimp only; omega) _⟩
  have hz4 : (f3 != p.1) = false := by simpa using h4
  by_cases h5 : (cs3.length : Int) = p.2.1
  rotate_left
  · have hz5 : ((m3.length : Int) != p.2.1) = true := by rw [hml.out]; simpa using h5
    have HT := Lib.hid (H5.out HH.out.1 HH.out.2 h0 h4 h5)
    clear H3 H4 H5 H6 hN h4 h5 hml
    obtain ⟨r0, r1, rf0, rf1⟩ := hM.b1.two
    go_wp2_with fail
    exact bodyPost_ret (res_sg2 rfl rfl (g := w.heap.size + 1) (hM.b1.set2 _ _)) rfl ⟨none, 0, [], by rw [HT.out]; first | rfl | (dsimp only; rw [HEV.out]; rfl), (show _ = _ from by rw [HT.out] <;> rfl), NewS.nil _ _, bel_set (bel_set hM.bel (by dsimp only; omega) _) (by dsimp only; omega) _⟩
  have hz5 : ((m3.length : Int) != p.2.1) = false := by rw [hml.out]; simpa using h5
  have HT := Lib.hid (H6.out HH.out.1 HH.out.2 h0 h4 h5)
  clear H3 H4 H5 H6 h4 h5 hml
  obtain ⟨r0, r1, rf0, rf1⟩ := hM.b1.two
  go_wp2_with fail
  exact bodyPost_ret (res_sg2 rfl rfl (g := w.heap.size + 1) (hM.b1.set2 _ _)) rfl ⟨A3, c3, m3, by rw [HT.out]; rfl, (show _ = _ from by rw [HT.out]; exact hm3.out), NewS.more ((hN.setLow (g := w.heap.size + 1) (by omega) 0 _).setLow (g := w.heap.size + 1) (by omega) 1 _) (by omega), bel_set (bel_set hM.bel (by dsimp only; omega) _) (by dsimp only; omega) _⟩
end Go.Proofs.YtabnndjdkjkciaaGreatDoor

namespace Go.Proofs.YtabnndjdkjkciaaGreatDoor
open Go.RowKit
attribute [local go_sem ↓] Go.wp_at_zero Go.wp_at_succ

end Go.Proofs.YtabnndjdkjkciaaGreatDoor
