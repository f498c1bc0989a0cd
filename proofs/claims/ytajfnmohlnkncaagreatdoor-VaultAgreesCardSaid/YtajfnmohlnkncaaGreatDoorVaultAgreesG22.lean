/- WHAT IT HOLDS: the segment of bytes that a part tells of: manifest.Holds and the document's, walked. | WHAT IT HOLDS: a vault, plainly: what is done to a disk and a chain (no program). | WHAT IT HOLDS: a vault in memory: its block, its store, its manifests apart from the disk; Store, needed, part. | WHAT IT HOLDS: vault.part. | WHAT IT HOLDS: vault.figures, title, label (of numbers below 100). | WHAT IT HOLDS: vault.Get. -/
import Derived.Test.YtajfnmohlnkncaaGreatDoorVaultAgreesG01
import Derived.Test.YtajfnmohlnkncaaGreatDoorVaultAgreesG19
import Derived.Test.YtajfnmohlnkncaaGreatDoorVaultAgreesG21
import Derived.Test.YtajfnmohlnkncaaGreatDoorVaultAgreesG17
import Derived.Test.YtajfnmohlnkncaaGreatDoorVaultAgreesG10
import Derived.Test.YtajfnmohlnkncaaGreatDoorVaultAgreesG18
import Derived.Test.YtajfnmohlnkncaaGreatDoorVaultAgreesG13
import Derived.Test.YtajfnmohlnkncaaGreatDoorVaultAgreesG16
import Derived.Test.YtajfnmohlnkncaaGreatDoorShelfV
import Derived.Test.YtajfnmohlnkncaaGreatDoorVaultAgreesG08
namespace Go.Proofs.YtajfnmohlnkncaaGreatDoor
section
open Go.RowKit
attribute [local go_sem ↓] Go.wp_at_zero Go.wp_at_succ
theorem BlT.dg {w : World} {g : Nat} {T : TypeId} {p : Pt5} (h : Blk w g T (pta p)) : ∀ j u, (dga p.2.2.2)[j]? = some u → w.cell? ((⟨g, 3, none⟩ : Addr).add j) = some u := fun j u hj => by
 rw [addr_lit, h.cell]
 replace hj : (bvs p.2.2.2.1)[j]? = some u := by simpa [dga] using hj
 rw [show 3 + j = j + 1 + 1 + 1 from by omega]
 simp only [pta, ptl, List.getElem?_toArray, List.getElem?_cons_succ]
 exact hj
theorem neq_dg (a b : Dg) (w : World) : (binOp .neq 35 (.agg (dga a)) (.agg (dga b))).run Tryz.prog w = .ok (.bool (!decide (a = b))) w := by
 have h : (Op.equalIn 10000 35 (.agg (dga a)) (.agg (dga b))).run Tryz.prog w = .ok (decide (a = b)) w := equalIn_dg a b 9998 w
 rw [run_neq_struct, h]
 rfl
def mholds (p : Pt5) (b : List UInt8) : Sg × Nat :=
 if (b.length : Int) ≠ p.2.2.1 then ((0, []), 11) else if shaD b ≠ p.2.2.2 then ((0, []), 11) else if (sgTake b).2 ≠ 0 then ((0, []), (sgTake b).2)
 else if (sgTake b).1.1 ≠ p.1 then ((0, []), 2) else if ((sgTake b).1.2.length : Int) ≠ p.2.1 then ((0, []), 2) else ((sgTake b).1, 0)
theorem mholds_1 {p : Pt5} {b : List UInt8} (h : (b.length : Int) ≠ p.2.2.1) : mholds p b = ((0, []), 11) := by unfold mholds; rw [if_pos h]
theorem mholds_2 {p : Pt5} {b : List UInt8} (h : (b.length : Int) = p.2.2.1) (h2 : shaD b ≠ p.2.2.2) : mholds p b = ((0, []), 11) := by unfold mholds; rw [if_neg (by simpa using h), if_pos h2]
theorem mholds_3 {p : Pt5} {b : List UInt8} (h : (b.length : Int) = p.2.2.1) (h2 : shaD b = p.2.2.2) (h3 : (sgTake b).2 ≠ 0) : mholds p b = ((0, []), (sgTake b).2) := by unfold mholds; rw [if_neg (by simpa using h), if_neg (by simpa using h2), if_pos h3]
theorem mholds_4 {p : Pt5} {b : List UInt8} (h : (b.length : Int) = p.2.2.1) (h2 : shaD b = p.2.2.2) (h3 : (sgTake b).2 = 0) (h4 : (sgTake b).1.1 ≠ p.1) : mholds p b = ((0, []), 2) := by unfold mholds; rw [if_neg (by simpa using h), if_neg (by simpa using h2), if_neg (by omega), if_pos h4]
theorem mholds_5 {p : Pt5} {b : List UInt8} (h : (b.length : Int) = p.2.2.1) (h2 : shaD b = p.2.2.2) (h3 : (sgTake b).2 = 0) (h4 : (sgTake b).1.1 = p.1) (h5 : ((sgTake b).1.2.length : Int) ≠ p.2.1) : mholds p b = ((0, []), 2) := by
 unfold mholds; rw [if_neg (by simpa using h), if_neg (by simpa using h2), if_neg (by omega), if_neg (by simpa using h4), if_pos h5]
theorem mholds_6 {p : Pt5} {b : List UInt8} (h : (b.length : Int) = p.2.2.1) (h2 : shaD b = p.2.2.2) (h3 : (sgTake b).2 = 0) (h4 : (sgTake b).1.1 = p.1) (h5 : ((sgTake b).1.2.length : Int) = p.2.1) : mholds p b = ((sgTake b).1, 0) := by
 unfold mholds; rw [if_neg (by simpa using h), if_neg (by simpa using h2), if_neg (by omega), if_neg (by simpa using h4), if_neg (by simpa using h5)]
set_option maxRecDepth 100000 in
set_option maxHeartbeats 2000000 in
theorem MHolds_any {A : Option Addr} {c : Nat} (p : Pt5) (b : List UInt8) (w : World) (hG : Shg w) (hs : SlB w A c b) (hl : b.length ≤ 1000000) :
 Calls Tryz.prog 49 #[.agg (pta p), .slice A b.length c] w (GivesSgN w (mholds p b)) := by
 have hM := ((Mm.start w).alloc (pta p) 37).alloc #[.int .i64 0, .slice none 0 0] 43
 rw [show (w.alloc (.cells (pta p) 37)).heap.size = w.heap.size + 1 from by simp] at hM
 have hds := Lib.hid (dga_size p.2.2.2)
 have HS := Lib.hid (fun W (hh : Below w.heap.size w W) => Sum_any b W (hG.below hh) (Sl.below hs hh) hl)
 have HTk := Lib.hid (fun W (hh : Below w.heap.size w W) => STake_any A c b W (Sl.below hs hh) hl)
 have H1 := Lib.hid (fun h => mholds_1 (p := p) (b := b) h)
 have H2 := Lib.hid (fun h h2 => mholds_2 (p := p) (b := b) h h2)
 have H3 := Lib.hid (fun h h2 h3 => mholds_3 (p := p) (b := b) h h2 h3)
 have H4 := Lib.hid (fun h h2 h3 h4 => mholds_4 (p := p) (b := b) h h2 h3 h4)
 have H5 := Lib.hid (fun h h2 h3 h4 h5 => mholds_5 (p := p) (b := b) h h2 h3 h4 h5)
 have H6 := Lib.hid (fun h h2 h3 h4 h5 => mholds_6 (p := p) (b := b) h h2 h3 h4 h5)
 go_enter Tryz.func49, Tryz.ntmps49
 go_upto_region 1 with (fail)
 refine gen1 (T := fun W => Mm w W [(w.heap.size + 1, 43, #[.int .i64 0, .slice none 0 0]), (w.heap.size, 37, pta p)] []) hM (fun w1 hM => ?_)
 have hMd := hM.drew
 by_cases h1 : (b.length : Int) = p.2.2.1
 rotate_left
 · have hz : ((b.length : Int) != p.2.2.1) = true := by simpa using h1
   have HT := Lib.hid (H1.out h1)
   clear hM h1 H1 H2 H3 H4 H5 H6 HS HTk
   refine wp_region_held_drew (S := (fun W => Mm w W [(w.heap.size + 1, 43, #[.int .i64 0, .slice none 0 0]), (w.heap.size, 37, pta p)] [])) (by kernel_rfl) ?_ (fun hHeld => ?_)
   · first | with_reducible exact hMd | with_reducible exact hHeld
   refine wTk (i := 0) (oi := ⟨some 8, _, _, _, _, _⟩) (v := ?_) rfl ⟨by kernel_rfl, ?_⟩ (by assumption) ?_
   rotate_left
   · (intro wS hSw; (try dsimp only at hSw); obtain ⟨x0, x1, x2⟩ := Bl3 hSw.b1; clear hSw; go_simp; (try with_reducible rfl))
   (try simp only [Act.put, pS0, pS1, pS2])
   refine wTk (i := 1) (oi := ⟨some 9, _, _, _, _, _⟩) (v := ?_) rfl ⟨by kernel_rfl, ?_⟩ (by assumption) ?_
   rotate_left
   · (intro wS hSw; (try dsimp only at hSw); obtain ⟨x0, x1, x2⟩ := Bl3 hSw.b1; clear hSw; go_simp; (try with_reducible rfl))
   (try simp only [Act.put, pS0, pS1, pS2])
   refine wTk (i := 2) (oi := ⟨some 10, _, _, _, _, _⟩) (v := ?_) rfl ⟨by kernel_rfl, ?_⟩ (by assumption) ?_
   rotate_left
   · (intro wS hSw; (try dsimp only at hSw); obtain ⟨x0, x1, x2⟩ := Bl3 hSw.b1; clear hSw; go_simp; (try with_reducible rfl))
   (try simp only [Act.put, pS0, pS1, pS2])
   refine wTk (i := 3) (oi := ⟨some 11, _, _, _, _, _⟩) (v := ?_) rfl ⟨by kernel_rfl, ?_⟩ (by assumption) ?_
   rotate_left
   · (intro wS hSw; (try dsimp only at hSw); obtain ⟨x0, x1, x2⟩ := Bl3 hSw.b1; clear hSw; go_simp; (try with_reducible rfl))
   (try simp only [Act.put, pS0, pS1, pS2])
   refine wTk (i := 4) (oi := ⟨some 12, _, _, _, _, _⟩) (v := ?_) rfl ⟨by kernel_rfl, ?_⟩ (by assumption) ?_
   rotate_left
   · (intro wS hSw; (try dsimp only at hSw); obtain ⟨x0, x1, x2⟩ := Bl3 hSw.b1; clear hSw; go_simp; (try with_reducible rfl))
   (try simp only [Act.put, pS0, pS1, pS2])
   refine wTk (i := 5) (oi := ⟨some 13, _, _, _, _, _⟩) (v := ?_) rfl ⟨by kernel_rfl, ?_⟩ (by assumption) ?_
   rotate_left
   · (intro wS hSw; (try dsimp only at hSw); obtain ⟨x0, x1, x2⟩ := Bl3 hSw.b1; clear hSw; go_simp; (try with_reducible rfl))
   (try simp only [Act.put, pS0, pS1, pS2])
   refine wpAnyH_take (i := 6) (oi := ⟨some 14, _, _, _, _, _⟩) (v := undef) rfl (by kernel_rfl) (by kernel_rfl) (by kernel_rfl) (fun _ _ _ h => h) (Or.inr ⟨by kernel_rfl, rfl⟩) (by assumption) ?_
   (try simp only [Act.put, pS0, pS1, pS2])
   refine wpAnyH_take (i := 7) (oi := ⟨some 15, _, _, _, _, _⟩) (v := undef) rfl (by kernel_rfl) (by kernel_rfl) (by kernel_rfl) (fun _ _ _ h => h) (Or.inr ⟨by kernel_rfl, rfl⟩) (by assumption) ?_
   (try simp only [Act.put, pS0, pS1, pS2])
   refine wpAnyH_take (i := 8) (oi := ⟨some 16, _, _, _, _, _⟩) (v := undef) rfl (by kernel_rfl) (by kernel_rfl) (by kernel_rfl) (fun _ _ _ h => h) (Or.inr ⟨by kernel_rfl, rfl⟩) (by assumption) ?_
   (try simp only [Act.put, pS0, pS1, pS2])
   refine wpAnyH_take (i := 9) (oi := ⟨some 17, _, _, _, _, _⟩) (v := undef) rfl (by kernel_rfl) (by kernel_rfl) (by kernel_rfl) (fun _ _ _ h => h) (Or.inr ⟨by kernel_rfl, rfl⟩) (by assumption) ?_
   (try simp only [Act.put, pS0, pS1, pS2])
   refine wpAnyH_take (i := 10) (oi := ⟨some 18, _, _, _, _, _⟩) (v := undef) rfl (by kernel_rfl) (by kernel_rfl) (by kernel_rfl) (fun _ _ _ h => h) (Or.inr ⟨by kernel_rfl, rfl⟩) (by assumption) ?_
   (try simp only [Act.put, pS0, pS1, pS2])
   refine wTk (i := 11) (oi := ⟨some 19, _, _, _, _, _⟩) (v := ?_) rfl ⟨by kernel_rfl, ?_⟩ (by assumption) ?_
   rotate_left
   · (intro wS hSw; (try dsimp only at hSw); obtain ⟨x0, x1, x2⟩ := Bl3 hSw.b1; clear hSw; go_simp; (try with_reducible rfl))
   (try simp only [Act.put, pS0, pS1, pS2])
   refine wpAnyH_done (by kernel_rfl) ?_ _
   have hM := hMd
   clear hMd
   generalize World.drew w1 = wd at *
   obtain ⟨r0, r1, rf0, rf1⟩ := hM.b0.two
   go_wp2_with fail
   exact bodyPost_ret (res_sg2 rfl rfl (g := w.heap.size + 1) (hM.b0.set2 _ _)) rfl ⟨none, 0, [], by rw [HT.out]; first | rfl | (dsimp only; rw [HEV.out]; rfl), (show _ = _ from by rw [HT.out] <;> rfl), NewS.nil _ _, bel_set (bel_set hM.bel (by dsimp only; omega) _) (by dsimp only; omega) _⟩
 have hz : ((b.length : Int) != p.2.2.1) = false := by simpa using h1
 obtain ⟨d, hd⟩ : ∃ d, shaD b = d := ⟨_, rfl⟩
 rw [hd] at HS H2 H3 H4 H5 H6
 by_cases h2 : d = p.2.2.2
 rotate_left
 · have hn := fun W => neq_dg d p.2.2.2 W
   rw [decide_eq_false h2, Bool.not_false] at hn
   have HT := Lib.hid (H2.out h1 h2)
   clear hM h1 h2 H1 H2 H3 H4 H5 H6 hd HTk
   refine wp_region_held_drew (S := (fun W => Mm w W [(w.heap.size + 1, 43, #[.int .i64 0, .slice none 0 0]), (w.heap.size, 37, pta p)] [])) (by kernel_rfl) ?_ (fun hHeld => ?_)
   · first | with_reducible exact hMd | with_reducible exact hHeld | exact hHeld.call hb9
   refine wTk (i := 0) (oi := ⟨some 8, _, _, _, _, _⟩) (v := ?_) rfl ⟨by kernel_rfl, ?_⟩ (by assumption) ?_
   rotate_left
   · (intro wS hSw; (try dsimp only at hSw); obtain ⟨x0, x1, x2⟩ := Bl3 hSw.b1; clear hSw; go_simp; (try with_reducible rfl))
   (try simp only [Act.put, pS0, pS1, pS2])
   refine wTk (i := 1) (oi := ⟨some 9, _, _, _, _, _⟩) (v := ?_) rfl ⟨by kernel_rfl, ?_⟩ (by assumption) ?_
   rotate_left
   · (intro wS hSw; (try dsimp only at hSw); obtain ⟨x0, x1, x2⟩ := Bl3 hSw.b1; clear hSw; go_simp; (try with_reducible rfl))
   (try simp only [Act.put, pS0, pS1, pS2])
   refine wTk (i := 2) (oi := ⟨some 10, _, _, _, _, _⟩) (v := ?_) rfl ⟨by kernel_rfl, ?_⟩ (by assumption) ?_
   rotate_left
   · (intro wS hSw; (try dsimp only at hSw); obtain ⟨x0, x1, x2⟩ := Bl3 hSw.b1; clear hSw; go_simp; (try with_reducible rfl))
   (try simp only [Act.put, pS0, pS1, pS2])
   refine wTk (i := 3) (oi := ⟨some 11, _, _, _, _, _⟩) (v := ?_) rfl ⟨by kernel_rfl, ?_⟩ (by assumption) ?_
   rotate_left
   · (intro wS hSw; (try dsimp only at hSw); obtain ⟨x0, x1, x2⟩ := Bl3 hSw.b1; clear hSw; go_simp; (try with_reducible rfl))
   (try simp only [Act.put, pS0, pS1, pS2])
   refine wTk (i := 4) (oi := ⟨some 12, _, _, _, _, _⟩) (v := ?_) rfl ⟨by kernel_rfl, ?_⟩ (by assumption) ?_
   rotate_left
   · (intro wS hSw; (try dsimp only at hSw); obtain ⟨x0, x1, x2⟩ := Bl3 hSw.b1; clear hSw; go_simp; (try with_reducible rfl))
   (try simp only [Act.put, pS0, pS1, pS2])
   refine wTk (i := 5) (oi := ⟨some 13, _, _, _, _, _⟩) (v := ?_) rfl ⟨by kernel_rfl, ?_⟩ (by assumption) ?_
   rotate_left
   · (intro wS hSw; (try dsimp only at hSw); obtain ⟨x0, x1, x2⟩ := Bl3 hSw.b1; clear hSw; go_simp; (try with_reducible rfl))
   (try simp only [Act.put, pS0, pS1, pS2])
   refine wTk (i := 6) (oi := ⟨some 14, _, _, _, _, _⟩) (v := ?_) rfl ⟨by kernel_rfl, ?_⟩ (by assumption) ?_
   rotate_left
   · (intro wS hSw; (try dsimp only at hSw); obtain ⟨x0, x1, x2⟩ := Bl3 hSw.b1; clear hSw; go_simp; (try with_reducible rfl))
   (try simp only [Act.put, pS0, pS1, pS2])
   refine wTk (i := 8) (oi := ⟨some 16, _, _, _, _, _⟩) (v := ?_) rfl ⟨by kernel_rfl, ?_⟩ (by assumption) ?_
   rotate_left
   · (intro wS hSw; (try dsimp only at hSw); obtain ⟨x0, x1, x2⟩ := Bl3 hSw.b1; clear hSw; go_simp; (try with_reducible rfl))
   (try simp only [Act.put, pS0, pS1, pS2])
   refine wTk (i := 9) (oi := ⟨some 17, _, _, _, _, _⟩) (v := ?_) rfl ⟨by kernel_rfl, ?_⟩ (by assumption) ?_
   rotate_left
   · (intro wS hSw; (try dsimp only at hSw); (refine yld_load 35 (.tmp 16) ?_ ⟨w.heap.size, 3, none⟩ (dga p.2.2.2) ?_ (BlT.dg hSw.b1) _ Tryz.underlying35 rfl (by rw [hds.out]; kernel_rfl) <;> rfl))
   (try simp only [Act.put, pS0, pS1, pS2])
   refine wR1 (i := 7) (o := ⟨some 15, _, _, _, _, _⟩) rfl (fun K hK => ?_)
   go_simp
   (refine (HS.out _ hHeld.bel).mono ?_; rintro e w9 ⟨rfl, hb9⟩)
   go_wp2_with fail
   refine hK.out _ _ ?_ (fun hHeld => ?_)
   · ((try dsimp only); (exact hHeld.call hb9))
   clear hK K
   (try simp only [Act.put, pS0, pS1, pS2])
   refine wTk (i := 10) (oi := ⟨some 18, _, _, _, _, _⟩) (v := ?_) rfl ⟨by kernel_rfl, ?_⟩ (by assumption) ?_
   rotate_left
   · (intro wS hSw; (try dsimp only at hSw); obtain ⟨x0, x1, x2⟩ := Bl3 hSw.b1; clear hSw; go_simp; (try with_reducible rfl))
   (try simp only [Act.put, pS0, pS1, pS2])
   refine wTk (i := 11) (oi := ⟨some 19, _, _, _, _, _⟩) (v := ?_) rfl ⟨by kernel_rfl, ?_⟩ (by assumption) ?_
   rotate_left
   · (intro wS hSw; (try dsimp only at hSw); obtain ⟨x0, x1, x2⟩ := Bl3 hSw.b1; clear hSw; go_simp; (try with_reducible rfl))
   (try simp only [Act.put, pS0, pS1, pS2])
   refine wpAnyH_done (by kernel_rfl) ?_ _
   have hM := hHeld
   clear hHeld
   obtain ⟨r0, r1, rf0, rf1⟩ := hM.b0.two
   go_wp2_with fail
   exact bodyPost_ret (res_sg2 rfl rfl (g := w.heap.size + 1) (hM.b0.set2 _ _)) rfl ⟨none, 0, [], by rw [HT.out]; first | rfl | (dsimp only; rw [HEV.out]; rfl), (show _ = _ from by rw [HT.out] <;> rfl), NewS.nil _ _, bel_set (bel_set hM.bel (by dsimp only; omega) _) (by dsimp only; omega) _⟩
 have hn := fun W => neq_dg d p.2.2.2 W
 rw [decide_eq_true h2, Bool.not_true] at hn
 have HH := Lib.hid (And.intro h1 h2)
 clear hM h1 h2 H1 H2 hd
 refine wp_region_held_drew (S := (fun W => Mm w W [(w.heap.size + 1, 43, #[.int .i64 0, .slice none 0 0]), (w.heap.size, 37, pta p)] [])) (by kernel_rfl) ?_ (fun hHeld => ?_)
 · first | with_reducible exact hMd | with_reducible exact hHeld | exact hHeld.call hb9
 refine wTk (i := 0) (oi := ⟨some 8, _, _, _, _, _⟩) (v := ?_) rfl ⟨by kernel_rfl, ?_⟩ (by assumption) ?_
 rotate_left
 · (intro wS hSw; (try dsimp only at hSw); obtain ⟨x0, x1, x2⟩ := Bl3 hSw.b1; clear hSw; go_simp; (try with_reducible rfl))
 (try simp only [Act.put, pS0, pS1, pS2])
 refine wTk (i := 1) (oi := ⟨some 9, _, _, _, _, _⟩) (v := ?_) rfl ⟨by kernel_rfl, ?_⟩ (by assumption) ?_
 rotate_left
 · (intro wS hSw; (try dsimp only at hSw); obtain ⟨x0, x1, x2⟩ := Bl3 hSw.b1; clear hSw; go_simp; (try with_reducible rfl))
 (try simp only [Act.put, pS0, pS1, pS2])
 refine wTk (i := 2) (oi := ⟨some 10, _, _, _, _, _⟩) (v := ?_) rfl ⟨by kernel_rfl, ?_⟩ (by assumption) ?_
 rotate_left
 · (intro wS hSw; (try dsimp only at hSw); obtain ⟨x0, x1, x2⟩ := Bl3 hSw.b1; clear hSw; go_simp; (try with_reducible rfl))
 (try simp only [Act.put, pS0, pS1, pS2])
 refine wTk (i := 3) (oi := ⟨some 11, _, _, _, _, _⟩) (v := ?_) rfl ⟨by kernel_rfl, ?_⟩ (by assumption) ?_
 rotate_left
 · (intro wS hSw; (try dsimp only at hSw); obtain ⟨x0, x1, x2⟩ := Bl3 hSw.b1; clear hSw; go_simp; (try with_reducible rfl))
 (try simp only [Act.put, pS0, pS1, pS2])
 refine wTk (i := 4) (oi := ⟨some 12, _, _, _, _, _⟩) (v := ?_) rfl ⟨by kernel_rfl, ?_⟩ (by assumption) ?_
 rotate_left
 · (intro wS hSw; (try dsimp only at hSw); obtain ⟨x0, x1, x2⟩ := Bl3 hSw.b1; clear hSw; go_simp; (try with_reducible rfl))
 (try simp only [Act.put, pS0, pS1, pS2])
 refine wTk (i := 5) (oi := ⟨some 13, _, _, _, _, _⟩) (v := ?_) rfl ⟨by kernel_rfl, ?_⟩ (by assumption) ?_
 rotate_left
 · (intro wS hSw; (try dsimp only at hSw); obtain ⟨x0, x1, x2⟩ := Bl3 hSw.b1; clear hSw; go_simp; (try with_reducible rfl))
 (try simp only [Act.put, pS0, pS1, pS2])
 refine wTk (i := 6) (oi := ⟨some 14, _, _, _, _, _⟩) (v := ?_) rfl ⟨by kernel_rfl, ?_⟩ (by assumption) ?_
 rotate_left
 · (intro wS hSw; (try dsimp only at hSw); obtain ⟨x0, x1, x2⟩ := Bl3 hSw.b1; clear hSw; go_simp; (try with_reducible rfl))
 (try simp only [Act.put, pS0, pS1, pS2])
 refine wTk (i := 8) (oi := ⟨some 16, _, _, _, _, _⟩) (v := ?_) rfl ⟨by kernel_rfl, ?_⟩ (by assumption) ?_
 rotate_left
 · (intro wS hSw; (try dsimp only at hSw); obtain ⟨x0, x1, x2⟩ := Bl3 hSw.b1; clear hSw; go_simp; (try with_reducible rfl))
 (try simp only [Act.put, pS0, pS1, pS2])
 refine wTk (i := 9) (oi := ⟨some 17, _, _, _, _, _⟩) (v := ?_) rfl ⟨by kernel_rfl, ?_⟩ (by assumption) ?_
 rotate_left
 · (intro wS hSw; (try dsimp only at hSw); (refine yld_load 35 (.tmp 16) ?_ ⟨w.heap.size, 3, none⟩ (dga p.2.2.2) ?_ (BlT.dg hSw.b1) _ Tryz.underlying35 rfl (by rw [hds.out]; kernel_rfl) <;> rfl))
 (try simp only [Act.put, pS0, pS1, pS2])
 refine wR1 (i := 7) (o := ⟨some 15, _, _, _, _, _⟩) rfl (fun K hK => ?_)
 go_simp
 (refine (HS.out _ hHeld.bel).mono ?_; rintro e w9 ⟨rfl, hb9⟩)
 go_wp2_with fail
 refine hK.out _ _ ?_ (fun hHeld => ?_)
 · ((try dsimp only); (exact hHeld.call hb9))
 clear hK K
 (try simp only [Act.put, pS0, pS1, pS2])
 refine wTk (i := 10) (oi := ⟨some 18, _, _, _, _, _⟩) (v := ?_) rfl ⟨by kernel_rfl, ?_⟩ (by assumption) ?_
 rotate_left
 · (intro wS hSw; (try dsimp only at hSw); obtain ⟨x0, x1, x2⟩ := Bl3 hSw.b1; clear hSw; go_simp; (try with_reducible rfl))
 (try simp only [Act.put, pS0, pS1, pS2])
 refine wTk (i := 11) (oi := ⟨some 19, _, _, _, _, _⟩) (v := ?_) rfl ⟨by kernel_rfl, ?_⟩ (by assumption) ?_
 rotate_left
 · (intro wS hSw; (try dsimp only at hSw); obtain ⟨x0, x1, x2⟩ := Bl3 hSw.b1; clear hSw; go_simp; (try with_reducible rfl))
 (try simp only [Act.put, pS0, pS1, pS2])
 refine wpAnyH_done (by kernel_rfl) ?_ _
 have hM := hHeld
 clear hHeld hMd hn hz HS
 go_wp2_with fail
 refine (HTk.out _ hM.bel).mono ?_
 rintro e w2 ⟨A3, c3, m3, rfl, hm3, hN3, hb2⟩
 have hM2 := hM.call hb2
 have hlo := hM.b0.lt
 generalize sgTake b = x at *
 obtain ⟨⟨f3, cs3⟩, bad3⟩ := x
 dsimp only at *
 have hml : Hid (m3.length = cs3.length) := (show _ = _ from by
  have h9 := congrArg List.length hm3.out
  simpa using h9)
 go_upto_region 4 with (fail)
 refine gen1 (T := fun W => Mm w W [(w2.heap.size, 43, #[.int .i64 f3, .slice A3 m3.length c3]), (w.heap.size + 1, 43, #[.int .i64 0, .slice none 0 0]), (w.heap.size, 37, pta p)] [] ∧ ∃ B, w.heap.size + 1 < B ∧ NewS W B A3 c3 m3) ⟨hM2.alloc _ _, _, hlo, hN3.below (below_new _ _)⟩ (fun w4 hT => ?_)
 clear hM hM2 hN3 hb2 hlo
 obtain ⟨hM, B, hlo, hN⟩ := hT
 rcases errv_cases bad3 with ⟨h0, hev⟩ | ⟨k, hk, hke, hev⟩
 rotate_left
 · have HT := Lib.hid (H3.out HH.out.1 HH.out.2 (by omega))
   have HEV := Lib.hid hev
   rw [hev]
   clear hev hke
   clear H3 H4 H5 H6 hN
   obtain ⟨r0, r1, rf0, rf1⟩ := hM.b1.two
   go_wp2_with fail
   exact bodyPost_ret (res_sg2 rfl rfl (g := w.heap.size + 1) (hM.b1.set2 _ _)) rfl ⟨none, 0, [], by rw [HT.out]; first | rfl | (dsimp only; rw [HEV.out]; rfl), (show _ = _ from by rw [HT.out] <;> rfl), NewS.nil _ _, bel_set (bel_set hM.bel (by dsimp only; omega) _) (by dsimp only; omega) _⟩
 obtain ⟨x0, x1, x2⟩ := Bl3 hM.b2
 obtain ⟨s0, s1, -, -⟩ := hM.b0.two
 rw [hev]
 clear hev
 by_cases h4 : f3 = p.1
 rotate_left
 · have hz4 : (f3 != p.1) = true := by simpa using h4
   have HT := Lib.hid (H4.out HH.out.1 HH.out.2 h0 h4)
   clear H3 H4 H5 H6 hN h4
   obtain ⟨r0, r1, rf0, rf1⟩ := hM.b1.two
   go_wp2_with fail
   exact bodyPost_ret (res_sg2 rfl rfl (g := w.heap.size + 1) (hM.b1.set2 _ _)) rfl ⟨none, 0, [], by rw [HT.out]; first | rfl | (dsimp only; rw [HEV.out]; rfl), (show _ = _ from by rw [HT.out] <;> rfl), NewS.nil _ _, bel_set (bel_set hM.bel (by dsimp only; omega) _) (by dsimp only; omega) _⟩
 have hz4 : (f3 != p.1) = false := by simpa using h4
 by_cases h5 : (cs3.length : Int) = p.2.1
 rotate_left
 · have hz5 : ((m3.length : Int) != p.2.1) = true := by rw [hml.out]; simpa using h5
   have HT := Lib.hid (H5.out HH.out.1 HH.out.2 h0 h4 h5)
   clear H3 H4 H5 H6 hN h4 h5 hml
   obtain ⟨r0, r1, rf0, rf1⟩ := hM.b1.two
   go_wp2_with fail
   exact bodyPost_ret (res_sg2 rfl rfl (g := w.heap.size + 1) (hM.b1.set2 _ _)) rfl ⟨none, 0, [], by rw [HT.out]; first | rfl | (dsimp only; rw [HEV.out]; rfl), (show _ = _ from by rw [HT.out] <;> rfl), NewS.nil _ _, bel_set (bel_set hM.bel (by dsimp only; omega) _) (by dsimp only; omega) _⟩
 have hz5 : ((m3.length : Int) != p.2.1) = false := by rw [hml.out]; simpa using h5
 have HT := Lib.hid (H6.out HH.out.1 HH.out.2 h0 h4 h5)
 clear H3 H4 H5 H6 h4 h5 hml
 obtain ⟨r0, r1, rf0, rf1⟩ := hM.b1.two
 go_wp2_with fail
 exact bodyPost_ret (res_sg2 rfl rfl (g := w.heap.size + 1) (hM.b1.set2 _ _)) rfl ⟨A3, c3, m3, by rw [HT.out]; rfl, (show _ = _ from by rw [HT.out]; exact hm3.out), NewS.more ((hN.setLow (g := w.heap.size + 1) (by omega) 0 _).setLow (g := w.heap.size + 1) (by omega) 1 _) (by omega), bel_set (bel_set hM.bel (by dsimp only; omega) _) (by dsimp only; omega) _⟩
end
section
structure Vt (α : Type) where
 d : Dk α
 l : List Mf
section
variable {α : Type}
def sGetL (dec : α → Bs) (d : Dk α) (n : Bs) : Bs × Nat := (((sGet d n).1.map dec).getD [], (sGet d n).2)
def vgo (dec : α → Bs) (d : Dk α) : Nat → List Mf → List Mf × Nat
 | 0, l => (l, 0)
 | k + 1, l =>
  if (sGetL dec d (title l.length)).2 = 4 then (l, 0)
  else if (sGetL dec d (title l.length)).2 ≠ 0 then ([], (sGetL dec d (title l.length)).2)
  else if (mfTake (sGetL dec d (title l.length)).1).2 ≠ 0 then ([], (mfTake (sGetL dec d (title l.length)).1).2)
  else vgo dec d k (l ++ [(mfTake (sGetL dec d (title l.length)).1).1])
def vend (g : List Mf × Nat) : List Mf × Nat := if g.2 ≠ 0 then ([], g.2) else if (ckl g.1).2 ≠ 0 then ([], (ckl g.1).2) else (g.1, 0)
def vopen (z : α) (dec : α → Bs) (d : Dk α) : Vt α × Nat :=
 if (sOpen z d).2 ≠ 0 then (⟨(sOpen z d).1, []⟩, (sOpen z d).2)
 else (⟨(sOpen z d).1, (vend (vgo dec (sOpen z d).1 ((sOpen z d).1.shown.length + 1) [])).1⟩, (vend (vgo dec (sOpen z d).1 ((sOpen z d).1.shown.length + 1) [])).2)
def vadd (len : α → Nat) (z : α) (enc : Bs → α) (v : Vt α) (number place : Int) (s : Sg) : Pt5 × Vt α × Nat :=
 if number ≠ v.l.length ∨ place < 0 ∨ 1023 < place then (ptz, v, 1)
 else if (mof s).2.2 ≠ 0 then (ptz, v, (mof s).2.2)
 else if (sPut len z v.d (label number.toNat place.toNat) (enc (mof s).2.1)).2 ≠ 0 then (ptz, ⟨(sPut len z v.d (label number.toNat place.toNat) (enc (mof s).2.1)).1, v.l⟩, (sPut len z v.d (label number.toNat place.toNat) (enc (mof s).2.1)).2)
 else ((mof s).1, ⟨(sPut len z v.d (label number.toNat place.toNat) (enc (mof s).2.1)).1, v.l⟩, 0)
def vheld (dec : α → Bs) (d : Dk α) (num : Nat) : Nat → List Pt5 → Nat
 | _, [] => 0
 | i, p :: r => if (sGetL dec d (label num i)).2 ≠ 0 then (sGetL dec d (label num i)).2 else if (mholds p (sGetL dec d (label num i)).1).2 ≠ 0 then 11 else vheld dec d num (i + 1) r
def vcommit (len : α → Nat) (z : α) (dec : α → Bs) (enc : Bs → α) (v : Vt α) (m : Mf) : Vt α × Nat :=
 if (ckl (v.l ++ [m])).2 ≠ 0 then (v, (ckl (v.l ++ [m])).2)
 else if vheld dec v.d m.1.toNat 0 m.2.2.2.2.2 ≠ 0 then (v, vheld dec v.d m.1.toNat 0 m.2.2.2.2.2)
 else if (sPut len z v.d (title m.1.toNat) (enc (mfput m))).2 ≠ 0 then (⟨(sPut len z v.d (title m.1.toNat) (enc (mfput m))).1, v.l⟩, (sPut len z v.d (title m.1.toNat) (enc (mfput m))).2)
 else (⟨(sPut len z v.d (title m.1.toNat) (enc (mfput m))).1, v.l ++ [m]⟩, 0)
def vpart (l : List Mf) (number place : Int) : Option Pt5 :=
 if number < 0 ∨ (l.length : Int) ≤ number ∨ place < 0 then none else (l[number.toNat]?).bind fun m => m.2.2.2.2.2[place.toNat]?
def vget (dec : α → Bs) (v : Vt α) (number place : Int) : Sg × Nat :=
 match vpart v.l number place with
 | none => ((0, []), 1)
 | some p => if (sGetL dec v.d (label number.toNat place.toNat)).2 ≠ 0 then ((0, []), (sGetL dec v.d (label number.toNat place.toNat)).2) else mholds p (sGetL dec v.d (label number.toNat place.toNat)).1
def vread (dec : α → Bs) (v : Vt α) (a : Int) : Ce × Nat :=
 match cfind a 0 v.l with
 | none => ((0, []), 4)
 | some (n, k) =>
  if a < cmark v.l then ((3, []), 0)
  else if (vget dec v n k).2 ≠ 0 then ((0, []), (vget dec v n k).2)
  else ((vget dec v n k).1.2.getD (a - (vget dec v n k).1.1).toNat (0, []), 0)
end
/-! ### the program's vault as the document's -/
end
section
open Go.RowKit Go.Shelf
def Far (w : World) (q : Fp) (A : Option Addr) : Prop := ∀ k, A.map (·.block) = some k → k < w.heap.size ∧ ¬ q.M k
structure VtM (w : World) (gv gs : Nat) (q : Fp) (d : Dk Sv) (l : List MfV) (E : Option Addr) (cap : Nat) : Prop where
 st : StM w gs q d
 bl : Blk w gv 94 #[.pointer (some ⟨gs, 0, none⟩), .slice E l.length cap]
 sl : SlM w E cap l
 av : ¬ q.M gv
 al : Far w q E
 ap : ∀ x ∈ l, Far w q x.2.1
 tc : ¬ Tc q d gv
 ng : gs ≠ gv ∧ (∀ k, E.map (·.block) = some k → k ≠ gv) ∧ ∀ x ∈ l, ∀ k, x.2.1.map (·.block) = some k → k ≠ gv
theorem Far.below {w w' : World} {q : Fp} {A : Option Addr} (h : Far w q A) (hs : w.heap.size ≤ w'.heap.size) : Far w' q A := fun k hk => ⟨Nat.lt_of_lt_of_le (h k hk).1 hs, (h k hk).2⟩
theorem Far.turn {w w' : World} {q q' : Fp} {A : Option Addr} (h : Far w q A) (hs : w.heap.size ≤ w'.heap.size) (hM : ∀ i, q'.M i → q.M i ∨ w.heap.size ≤ i) : Far w' q' A := fun k hk => ⟨Nat.lt_of_lt_of_le (h k hk).1 hs, fun h2 => by
 rcases hM k h2 with h3 | h3
 · exact (h k hk).2 h3
 · have := (h k hk).1
   omega⟩
theorem VtM.below {w w' : World} {gv gs : Nat} {q : Fp} {d : Dk Sv} {l : List MfV} {E : Option Addr} {cap : Nat} (h : VtM w gv gs q d l E cap) (hb : Below w.heap.size w w') : VtM w' gv gs q d l E cap :=
 ⟨h.st.below hb, h.bl.below hb, h.sl.below hb, h.av, h.al.below hb.size, fun x hx => (h.ap x hx).below hb.size, h.tc, h.ng⟩
theorem VtM.turn {w w' : World} {gv gs : Nat} {q q' : Fp} {d d' : Dk Sv} {l : List MfV} {E : Option Addr} {cap : Nat} (h : VtM w gv gs q d l E cap) (hg : q'.g = q.g) (hD : Dsk w' q' d') (hF : Frd q w w') (hM : ∀ i, q'.M i → q.M i ∨ w.heap.size ≤ i) (hT : ∀ i, Tc q' d' i → Tc q d i ∨ w.heap.size ≤ i) : VtM w' gv gs q' d' l E cap := by
 have hgv : gv < w.heap.size := h.bl.lt
 refine ⟨h.st.act hg hD hF hM, (hF.block gv hgv h.av).trans h.bl, ⟨Sl.sameH h.sl.1 fun k hk => hF.block k (h.al k hk).1 (h.al k hk).2, fun x hx => ⟨Sl.sameH (h.sl.2 x hx).1 fun k hk => hF.block k (h.ap x hx k hk).1 (h.ap x hx k hk).2, (h.sl.2 x hx).2⟩⟩, fun hq => ?_, h.al.turn hF.size hM, fun x hx => (h.ap x hx).turn hF.size hM, fun ht => ?_, h.ng⟩
 · rcases hM gv hq with h1 | h1
   · exact h.av h1
   · omega
 · rcases hT gv ht with h1 | h1
   · exact h.tc h1
   · omega
def Vgo (w : World) (gv gs : Nat) (q : Fp) (d d' : Dk Sv) (l : List MfV) (E : Option Addr) (cap : Nat) (w' : World) : Prop := ∃ q', q'.g = q.g ∧ VtM w' gv gs q' d' l E cap ∧ Frd q w w' ∧ (∀ i, q'.M i → q.M i ∨ w.heap.size ≤ i) ∧ ∀ i, Tc q' d' i → Tc q d i ∨ w.heap.size ≤ i
theorem VtM.dgo {w w' : World} {gv gs : Nat} {q : Fp} {d d' : Dk Sv} {l : List MfV} {E : Option Addr} {cap : Nat} (h : VtM w gv gs q d l E cap) (hD : Dgo w q d d' w') : Vgo w gv gs q d d' l E cap w' := by
 obtain ⟨q', hg, hD, hF, hM, hT⟩ := hD
 exact ⟨q', hg, h.turn hg hD hF hM hT, hF, hM, hT⟩
theorem VtM.still {w w' : World} {gv gs : Nat} {q : Fp} {d : Dk Sv} {l : List MfV} {E : Option Addr} {cap : Nat} (h : VtM w gv gs q d l E cap) (hb : Below w.heap.size w w') : Vgo w gv gs q d d l E cap w' := ⟨q, rfl, h.below hb, Frd.of_below hb, fun _ hi => .inl hi, fun _ hi => .inl hi⟩
theorem VtM.own {w w' W : World} {gv gs : Nat} {q q' : Fp} {d d' : Dk Sv} {l : List MfV} {E : Option Addr} {cap b : Nat} (h0 : VtM w gv gs q d l E cap) (h : VtM w' gv gs q' d' l E cap) (hb : w.heap.size ≤ b) (hs : w'.heap.size ≤ W.heap.size) (ht : ¬ Tc q' d' b) (hw : ∀ i, i < w'.heap.size → i ≠ b → W.heap[i]? = w'.heap[i]?) : VtM W gv gs q' d' l E cap := by
 have e1 : gv < w.heap.size := h0.bl.lt
 have e2 : gs < w.heap.size := h0.st.blk.lt
 refine ⟨⟨h.st.dsk.frame fun j hj => hw j (h.st.dsk.lt hj) fun e => ht (by rw [← e]; exact hj), (hw gs h.st.blk.lt (by omega)).trans h.st.blk, h.st.ap⟩, (hw gv h.bl.lt (by omega)).trans h.bl, ⟨Sl.sameH h.sl.1 fun k hk => hw k (h.al k hk).1 (by have := (h0.al k hk).1; omega), fun x hx => ⟨Sl.sameH (h.sl.2 x hx).1 fun k hk => hw k (h.ap x hx k hk).1 (by have := (h0.ap x hx k hk).1; omega), (h.sl.2 x hx).2⟩⟩, h.av, h.al.below hs, fun x hx => (h.ap x hx).below hs, h.tc, h.ng⟩
theorem VtM.two {w : World} {gv gs : Nat} {q : Fp} {d : Dk Sv} {l : List MfV} {E : Option Addr} {cap : Nat} (h : VtM w gv gs q d l E cap) : w.cell? ⟨gv, 0, none⟩ = some (.pointer (some ⟨gs, 0, none⟩)) ∧ w.cell? ⟨gv, 1, none⟩ = some (.slice E l.length cap) := ⟨h.bl.cell 0, h.bl.cell 1⟩
theorem res_ptV {fn : Func} {a b : Nat} {tmps : Array Value} {w : World} {g : Nat} {p : Pt5} (hres : fn.results = #[.cell a 37, .tmp b]) (ha : tmps.getD a undef = .pointer (some ⟨g, 0, none⟩)) (hB : Blk w g 37 (pta p)) :
 (results fn tmps).run Tryz.prog w = .ok (.tuple #[.agg (pta p), tmps.getD b undef]) w := by
 have h := run_loadVar_at (P := Tryz.prog) w ⟨g, 0, none⟩ 37 (pta p) hB.cells _ Tryz.underlying37 rfl (by rw [pta_size]; kernel_rfl)
 have ha' : tmps[a]?.getD undef = .pointer (some ⟨g, 0, none⟩) := by simpa using ha
 simp [results, hres, asAddr, h, ha']
def vpE (r : Option Pt5) : Nat := match r with
 | none => 1
 | some _ => 0
theorem mva_five (x : MfV) : (mva x)[36]? = some (.slice x.2.1 x.1.2.2.2.2.2.length x.2.2) := by
 have := x.1.2.2.2.2.1.2
 simp [mva, mfa, mfl, this]
set_option maxRecDepth 100000 in
set_option maxHeartbeats 1000000 in
theorem VPart_any {w : World} {gv gs : Nat} {q : Fp} {d : Dk Sv} {l : List MfV} {E : Option Addr} {cap : Nat} (h : VtM w gv gs q d l E cap) (number place : Int) :
 Calls Tryz.prog 48 #[.pointer (some ⟨gv, 0, none⟩), .int .i64 number, .int .i64 place] w fun e w' => e = .returned (.tuple #[.agg (pta ((vpart (mvs l) number place).getD ptz)), errv (vpE (vpart (mvs l) number place))]) ∧ Below w.heap.size w w' := by
 have hM := (Mm.start w).alloc (pta ptz) 37
 have hmax := h.sl.1.2.1
 have hmax2 := h.sl.1.2.2.1
 unfold maxLen at hmax2
 have HS := Lib.hid (fun W (hh : Below w.heap.size w W) => (h.below hh).two)
 have HL := Lib.hid (fun W (hh : Below w.heap.size w W) => (h.sl.below hh))
 have HV := Lib.hid (show vpart (mvs l) number place = if number < 0 ∨ ((mvs l).length : Int) ≤ number ∨ place < 0 then none else ((mvs l)[number.toNat]?).bind fun m => m.2.2.2.2.2[place.toNat]? from rfl)
 rw [mvs_len] at HV
 clear h
 by_cases c1 : number < 0
 · have HN : Hid (vpart (mvs l) number place = none) := (show _ = _ from by rw [HV.out, if_pos (.inl c1)])
   clear HV
   go_enter Tryz.func48, Tryz.ntmps48
   go_upto_region 1 with (fail)
   refine gen1 (T := fun W => Mm w W [(w.heap.size, 37, pta ptz)] []) hM (fun w1 hM => ?_)
   go_wp2_with (first | (refine wpl_buildPz rfl rfl ?_) | (refine wpList_store_row rfl 37 _ _ rfl w.heap.size (pta ptz) rfl rfl 37 (pta ptz) hM.b0 (by rw [pta_size]; kernel_rfl) rfl (pta_all _) ?_))
   exact bodyPost_ret (res_ptV rfl rfl (g := w.heap.size) hM.b0.row) rfl ⟨by rw [HN.out]; rfl, below_setRow hM.bel (Nat.le_refl _) _⟩
 by_cases c2 : (l.length : Int) ≤ number
 · have HN : Hid (vpart (mvs l) number place = none) := (show _ = _ from by rw [HV.out, if_pos (.inr (.inl c2))])
   clear HV
   go_enter Tryz.func48, Tryz.ntmps48
   go_upto_region 1 with (fail)
   refine gen1 (T := fun W => Mm w W [(w.heap.size, 37, pta ptz)] []) hM (fun w1 hM => ?_)
   obtain ⟨a0, a1⟩ := HS.out _ hM.bel
   go_wp2_with (first | (refine wpl_buildPz rfl rfl ?_) | (refine wpList_store_row rfl 37 _ _ rfl w.heap.size (pta ptz) rfl rfl 37 (pta ptz) hM.b0 (by rw [pta_size]; kernel_rfl) rfl (pta_all _) ?_))
   exact bodyPost_ret (res_ptV rfl rfl (g := w.heap.size) hM.b0.row) rfl ⟨by rw [HN.out]; rfl, below_setRow hM.bel (Nat.le_refl _) _⟩
 by_cases c3 : place < 0
 · have HN : Hid (vpart (mvs l) number place = none) := (show _ = _ from by rw [HV.out, if_pos (.inr (.inr c3))])
   clear HV
   go_enter Tryz.func48, Tryz.ntmps48
   go_upto_region 1 with (fail)
   refine gen1 (T := fun W => Mm w W [(w.heap.size, 37, pta ptz)] []) hM (fun w1 hM => ?_)
   obtain ⟨a0, a1⟩ := HS.out _ hM.bel
   go_wp2_with (first | (refine wpl_buildPz rfl rfl ?_) | (refine wpList_store_row rfl 37 _ _ rfl w.heap.size (pta ptz) rfl rfl 37 (pta ptz) hM.b0 (by rw [pta_size]; kernel_rfl) rfl (pta_all _) ?_))
   exact bodyPost_ret (res_ptV rfl rfl (g := w.heap.size) hM.b0.row) rfl ⟨by rw [HN.out]; rfl, below_setRow hM.bel (Nat.le_refl _) _⟩
 obtain ⟨n, rfl⟩ : ∃ n : Nat, number = (n : Int) := ⟨number.toNat, by omega⟩
 obtain ⟨k, rfl⟩ : ∃ k : Nat, place = (k : Int) := ⟨place.toNat, by omega⟩
 have hn : n < l.length := by omega
 have hgn : (mvs l)[n]? = some l[n].1 := by unfold mvs; rw [List.getElem?_map, List.getElem?_eq_getElem hn]; rfl
 have hat := fun (W : World) (hW : Below w.heap.size w W) => (HL.out W hW).at hn
 have hsp := fun (W : World) (hW : Below w.heap.size w W) => ((HL.out W hW).2 _ (List.getElem_mem hn)).1
 rw [if_neg (by omega), Int.toNat_natCast, Int.toNat_natCast, hgn] at HV
 simp only [Option.bind_some] at HV
 generalize l[n] = x at *
 have h36 := mva_five x
 have hmx := (hsp w (Below.refl _ _)).2.1
 have hmx2 := (hsp w (Below.refl _ _)).2.2.1
 unfold maxLen at hmx2
 clear HL hgn
 by_cases c4 : (x.1.2.2.2.2.2.length : Int) ≤ (k : Int)
 · have HN : Hid (vpart (mvs l) (n : Int) (k : Int) = none) := (show _ = _ from by rw [HV.out, List.getElem?_eq_none (by omega)])
   clear HV hsp
   go_enter Tryz.func48, Tryz.ntmps48
   go_upto_region 1 with (fail)
   refine gen1 (T := fun W => Mm w W [(w.heap.size, 37, pta ptz)] []) hM (fun w1 hM => ?_)
   obtain ⟨a0, a1⟩ := HS.out _ hM.bel
   obtain ⟨ad, b, o, rfl, had, hcc⟩ := hat w1 hM.bel
   have hc5 := hcc 36 _ h36
   rw [addr_lit] at hc5
   clear hcc hat
   go_wp2_with (first | (refine wpl_buildPz rfl rfl ?_) | (refine wpList_store_row rfl 37 _ _ rfl w.heap.size (pta ptz) rfl rfl 37 (pta ptz) hM.b0 (by rw [pta_size]; kernel_rfl) rfl (pta_all _) ?_))
   exact bodyPost_ret (res_ptV rfl rfl (g := w.heap.size) hM.b0.row) rfl ⟨by rw [HN.out]; rfl, below_setRow hM.bel (Nat.le_refl _) _⟩
 · have hk : k < x.1.2.2.2.2.2.length := by omega
   have HN : Hid (vpart (mvs l) (n : Int) (k : Int) = some x.1.2.2.2.2.2[k]) := (show _ = _ from by rw [HV.out, List.getElem?_eq_getElem hk])
   have hpt := fun (W : World) (hW : Below w.heap.size w W) => (hsp W hW).at hk
   generalize x.1.2.2.2.2.2[k] = p at *
   have hpp := Lib.hid (pta_size p)
   have hpa := Lib.hid (pta_all p)
   clear HV hsp
   go_enter Tryz.func48, Tryz.ntmps48
   go_upto_region 1 with (fail)
   refine gen1 (T := fun W => Mm w W [(w.heap.size, 37, pta ptz)] []) hM (fun w1 hM => ?_)
   obtain ⟨a0, a1⟩ := HS.out _ hM.bel
   obtain ⟨ad, b, o, rfl, had, hcc⟩ := hat w1 hM.bel
   obtain ⟨ad2, b2, o2, hA2, had2, hcc2⟩ := hpt w1 hM.bel
   have hc5 := hcc 36 _ h36
   rw [addr_lit, hA2] at hc5
   have HC2 := Lib.hid hcc2
   clear hcc hat hcc2 hpt
   go_wp2_with (first | (refine wpl_loadG rfl 37 _ rfl ⟨b2, o2, none⟩ (pta p) rfl HC2.out _ Tryz.underlying37 rfl (by rw [hpp.out]; kernel_rfl) ?_) | (refine wpList_store_row rfl 37 _ _ rfl w.heap.size (pta p) rfl rfl 37 (pta ptz) hM.b0 (by rw [hpp.out]; kernel_rfl) (by rw [pta_size, hpp.out]) hpa.out ?_))
   exact bodyPost_ret (res_ptV rfl rfl (g := w.heap.size) hM.b0.row) rfl ⟨by rw [HN.out]; rfl, below_setRow hM.bel (Nat.le_refl _) _⟩
end
section
open Go.RowKit Go.Shelf Go.Lib
theorem itoa_small (w : World) {n : Nat} (h : n < 100) : Calls Tryz.prog 99 #[.int .i64 n] w fun e w' => e = .returned (.string ⟨(decDigits n).toArray⟩) ∧ w' = w := Tryz.strconv_Itoa_small n h w
theorem str_app (a b : List UInt8) : ((⟨a.toArray⟩ : ByteArray) ++ (⟨b.toArray⟩ : ByteArray)) = ⟨(a ++ b).toArray⟩ := by
 apply ByteArray.ext
 rw [ByteArray.data_append]
 simp
theorem repeatL_one (c : Nat) : Lib.repeatL [48] c = List.replicate c 48 := by
 induction c with
 | zero => rfl
 | succ c ih => rw [Lib.repeatL, ih, List.replicate_succ]; rfl
theorem repeat_zeros (c : Nat) (hc : c ≤ 1000) (w : World) : Calls Tryz.prog 100 #[.string ⟨#[48]⟩, .int .i64 c] w fun e w' => e = .returned (.string ⟨(List.replicate c (48 : UInt8)).toArray⟩) ∧ Below w.heap.size w w' := by
 have h := Tryz.strings_Repeat ⟨#[48]⟩ c w (by omega) (by show 1 * c ≤ _; omega)
 rw [show (⟨#[48]⟩ : ByteArray).data.toList = [48] from rfl, repeatL_one] at h
 exact h
set_option maxRecDepth 100000 in
set_option maxHeartbeats 1000000 in
theorem Figures_any (n k : Nat) (w : World) (h : n < 100) (hk : k ≤ 100) : Calls Tryz.prog 65 #[.int .i64 n, .int .i64 k] w fun e w' => e = .returned (.string ⟨(figs n k).toArray⟩) ∧ Below w.heap.size w w' := by
 have hl := dd_len 1 n (by omega)
 have HI := Lib.hid (fun W => itoa_small W h)
 have HF := Lib.hid (show figs n k = List.replicate (k - (decDigits n).length) 48 ++ decDigits n from rfl)
 generalize decDigits n = s at *
 have HR := Lib.hid (fun W => repeat_zeros (k - s.length) (by omega) W)
 have hmx : Hid (max ((k : Int) - (s.length : Int)) 0 = ((k - s.length : Nat) : Int)) := (show _ = _ from by omega)
 clear h
 go_enter Tryz.func65, Tryz.ntmps65
 go_wp2_with fail
 refine (HI.out _).mono ?_
 rintro e w1 ⟨rfl, rfl⟩
 clear HI
 go_wp2_with fail
 rw [hmx.out]
 refine (HR.out _).mono ?_
 rintro e w2 ⟨rfl, hb2⟩
 have hz : (List.replicate (k - s.length) (48 : UInt8)).length ≤ 100 := by simp; omega
 generalize List.replicate (k - s.length) (48 : UInt8) = z at *
 clear HR hmx
 go_wp2_with fail
 go_ret
 exact ⟨by rw [HF.out, ← str_app]; rfl, hb2⟩
set_option maxRecDepth 100000 in
set_option maxHeartbeats 1000000 in
theorem Title_any (n : Nat) (w : World) (h : n < 100) : Calls Tryz.prog 31 #[.int .i64 n] w fun e w' => e = .returned (.string ⟨(title n).toArray⟩) ∧ Below w.heap.size w w' := by
 have HC := Lib.hid (fun W => Figures_any n 6 W h (by decide))
 have HF := Lib.hid (show title n = 109 :: figs n 6 from rfl)
 have hl : (figs n 6).length = 6 := figs_len (w := 5) (by omega)
 generalize figs n 6 = s at *
 clear h
 go_enter Tryz.func31, Tryz.ntmps31
 go_wp2_with fail
 refine (HC.out _).mono ?_
 rintro e w1 ⟨rfl, hb1⟩
 go_wp2_with fail
 go_ret
 exact ⟨by rw [HF.out, show (109 :: s) = [109] ++ s from rfl, ← str_app]; rfl, hb1⟩
set_option maxRecDepth 100000 in
set_option maxHeartbeats 1000000 in
theorem Label_any (n p : Nat) (w : World) (h : n < 100) (hp : p < 100) : Calls Tryz.prog 36 #[.int .i64 n, .int .i64 p] w fun e w' => e = .returned (.string ⟨(label n p).toArray⟩) ∧ Below w.heap.size w w' := by
 have HC := Lib.hid (fun W => Figures_any n 6 W h (by decide))
 have HD := Lib.hid (fun W => Figures_any p 4 W hp (by decide))
 have HF := Lib.hid (show label n p = 112 :: (figs n 6 ++ 45 :: figs p 4) from rfl)
 have hl : (figs n 6).length = 6 := figs_len (w := 5) (by omega)
 have hl4 : (figs p 4).length = 4 := figs_len (w := 3) (by omega)
 generalize figs n 6 = s at *
 generalize figs p 4 = t at *
 clear h hp
 go_enter Tryz.func36, Tryz.ntmps36
 go_wp2_with fail
 refine (HC.out _).mono ?_
 rintro e w1 ⟨rfl, hb1⟩
 clear HC
 go_wp2_with fail
 refine (HD.out _).mono ?_
 rintro e w2 ⟨rfl, hb2⟩
 clear HD
 go_wp2_with fail
 go_ret
 exact ⟨by rw [HF.out, show (112 :: (s ++ 45 :: t)) = ([112] ++ s ++ [45]) ++ t from by simp, ← str_app, ← str_app, ← str_app]; rfl, bel_call hb1 hb2⟩
end
section
open Go.RowKit Go.Shelf
theorem Dsk.short {w : World} {q : Fp} {d : Dk Sv} (h : Dsk w q d) (n : Bs) : (sGetL Sv.l d n).1.length ≤ 65536 := by
 unfold sGetL sGet dRead
 by_cases h1 : snamed n = false
 · rw [if_pos h1]
   simp
 · rw [if_neg h1]
   by_cases h2 : d.down = true
   · rw [if_pos h2]
     simp
   · rw [if_neg h2]
     cases hg : gget n d.shown with
     | none => simp
     | some v =>
      have h3 := h.len _ (h.shown_mem _ (gget_mem hg)).2
      simpa using h3
set_option maxRecDepth 100000 in
set_option maxHeartbeats 2000000 in
theorem VGet_any {w : World} {gv gs : Nat} {q : Fp} {d : Dk Sv} {l : List MfV} {E : Option Addr} {cap : Nat} (h : VtM w gv gs q d l E cap) (hG : Shg w) (number place : Int) (hl : l.length ≤ 100) (hps : ∀ x ∈ l, x.1.2.2.2.2.2.length ≤ 100) :
 Calls Tryz.prog 18 #[.pointer (some ⟨gv, 0, none⟩), .int .i64 number, .int .i64 place] w (GivesSgN w (vget Sv.l ⟨d, mvs l⟩ number place)) := by
 have hM := (Mm.start w).alloc #[.int .i64 0, .slice none 0 0] 43
 have HP := Lib.hid (fun W (hh : Below w.heap.size w W) => VPart_any (h.below hh) number place)
 have HV := Lib.hid (show vget Sv.l ⟨d, mvs l⟩ number place = (match vpart (mvs l) number place with
  | none => ((0, []), 1)
  | some p => if (sGetL Sv.l d (label number.toNat place.toNat)).2 ≠ 0 then ((0, []), (sGetL Sv.l d (label number.toNat place.toNat)).2) else mholds p (sGetL Sv.l d (label number.toNat place.toNat)).1) from rfl)
 have hpz := Lib.hid (pta_size ptz)
 have HS := Lib.hid (fun W (hh : Below w.heap.size w W) => (h.below hh).two)
 have HSt := Lib.hid (fun W (hh : Below w.heap.size w W) => (h.st.below hh))
 have hsh := h.st.dsk.short (label number.toNat place.toNat)
 rcases hv : vpart (mvs l) number place with _ | p
 · rw [hv] at HP HV
   have HT := HV
   dsimp only at HT
   have HEV := Lib.hid (show errv 1 = Value.iface 60 (.int .i64 1) from rfl)
   clear hv HV HS HSt h hsh
   go_enter Tryz.func18, Tryz.ntmps18
   go_upto_region 1 with (fail)
   refine gen1 (T := fun W => Mm w W [(w.heap.size, 43, #[.int .i64 0, .slice none 0 0])] []) hM (fun w1 hM => ?_)
   go_wp2_with fail
   refine (HP.out _ hM.bel).mono ?_
   rintro e w2 ⟨rfl, hb2⟩
   have hM2 := hM.call hb2
   clear hM hb2 HP
   rw [show vpE none = 1 from rfl, HEV.out, show (none : Option Pt5).getD ptz = ptz from rfl]
   go_upto_region 2 with ((refine wpl_storeN rfl 37 _ _ rfl _ (pta ptz) 37 rfl rfl (by rw [hpz.out]; kernel_rfl) (by rw [hpz.out]; rfl) (pta_all _) ?_))
   refine gen1 (T := fun W => Mm w W [(w2.heap.size, 37, pta ptz), (w.heap.size, 43, #[.int .i64 0, .slice none 0 0])] []) (hM2.alloc _ _) (fun w3 hM => ?_)
   clear hM2
   obtain ⟨r0, r1, rf0, rf1⟩ := hM.b1.two
   go_wp2_with fail
   exact bodyPost_ret (res_sg2 rfl rfl (g := w.heap.size) (hM.b1.set2 _ _)) rfl ⟨none, 0, [], by rw [HT.out]; first | rfl | (dsimp only; rw [HEV.out]; rfl), (show _ = _ from by rw [HT.out] <;> rfl), NewS.nil _ _, bel_set (bel_set hM.bel (by dsimp only; omega) _) (by dsimp only; omega) _⟩
 · obtain ⟨n, k, rfl, rfl, hn, hk⟩ : ∃ n k : Nat, number = (n : Int) ∧ place = (k : Int) ∧ n < 100 ∧ k < 100 := by
    unfold vpart at hv
    by_cases h3 : number < 0 ∨ ((mvs l).length : Int) ≤ number ∨ place < 0
    · rw [if_pos h3] at hv
      cases hv
    · rw [if_neg h3] at hv
      rw [mvs_len] at h3
      rw [List.getElem?_eq_getElem (by rw [mvs_len]; omega)] at hv
      simp only [Option.bind_some] at hv
      obtain ⟨hk, -⟩ := List.getElem?_eq_some_iff.1 hv
      have hx := hps (l[number.toNat]'(by omega)) (List.getElem_mem _)
      simp only [mvs, List.getElem_map] at hk
      exact ⟨number.toNat, place.toNat, by omega, by omega, by omega, by omega⟩
   rw [Int.toNat_natCast, Int.toNat_natCast] at HV hsh
   rw [hv] at HP HV
   dsimp only at HV
   have hpp := Lib.hid (pta_size p)
   have hpa := Lib.hid (pta_all p)
   have hlab : (label n k).length ≤ 9223372036854775807 := by rw [label_len (by omega) (by omega)]; decide
   have HL := Lib.hid (fun W => Label_any n k W hn hk)
   have HGt := Lib.hid (fun W (hh : Below w.heap.size w W) => SGet_any (h.st.below hh) (label n k) hlab)
   have HG := Lib.hid (fun W (hh : Below w.heap.size w W) => hG.below hh)
   have hgb := Lib.hid (show ((sGet d (label n k)).1.map Sv.l).getD [] = (sGetL Sv.l d (label n k)).1 from rfl)
   have hgn := Lib.hid (show (sGet d (label n k)).2 = (sGetL Sv.l d (label n k)).2 from rfl)
   rw [hgb.out, hgn.out] at HGt
   generalize sGetL Sv.l d (label n k) = r at *
   obtain ⟨rb, rn⟩ := r
   generalize label n k = lb at *
   dsimp only at HGt HV hsh
   clear hgb hgn hv h hl hps hn hk hlab HSt
   go_enter Tryz.func18, Tryz.ntmps18
   go_upto_region 1 with (fail)
   refine gen1 (T := fun W => Mm w W [(w.heap.size, 43, #[.int .i64 0, .slice none 0 0])] []) hM (fun w1 hM => ?_)
   go_wp2_with fail
   refine (HP.out _ hM.bel).mono ?_
   rintro e w2 ⟨rfl, hb2⟩
   have hM2 := hM.call hb2
   clear hM hb2 HP
   rw [show vpE (some p) = 0 from rfl, show errv 0 = Value.nilIface from rfl, show (some p).getD ptz = p from rfl]
   go_upto_region 4 with ((refine wpl_storeN rfl 37 _ _ rfl _ (pta p) 37 rfl rfl (by rw [hpp.out]; kernel_rfl) (by rw [hpp.out]; rfl) hpa.out ?_))
   refine gen1 (T := fun W => Mm w W [(w2.heap.size, 37, pta p), (w.heap.size, 43, #[.int .i64 0, .slice none 0 0])] []) (hM2.alloc _ _) (fun w3 hM => ?_)
   generalize w2.heap.size = g8 at *
   clear hM2
   have hMd := hM.drew
   clear hM
   refine wp_region_seq (S := (fun W => Mm w W [(g8, 37, pta p), (w.heap.size, 43, #[.int .i64 0, .slice none 0 0])] [])) [(0, true), (1, true), (2, true), (3, true), (4, true), (5, true), (6, false), (7, false), (8, true), (9, true), (10, true), (11, true), (12, true)] (by kernel_rfl) (by kernel_rfl) (fun _ _ _ _ _ h => h) ?_ (fun hHeld => ?_)
   · first | with_reducible exact hMd | with_reducible exact hHeld
   refine gen0 (T := fun W => ((fun W => Mm w W [(g8, 37, pta p), (w.heap.size, 43, #[.int .i64 0, .slice none 0 0])] [])) W ∧ Below w.heap.size w W ∧ True) ?_ (fun wq1 hT => ?_)
   · exact ⟨by (with_reducible exact hMd), by (with_reducible exact hMd.bel), trivial⟩
   (try clear f0 f1 f2 f3 f4 f5 f6 f7 f8 f9 f10 f11)
   obtain ⟨hHeld, f0, -⟩ := hT
   refine seq_take (oi := ⟨some 23, _, _, _, _, _⟩) (v := ?_) rfl (Or.inl ⟨by kernel_rfl, ?_⟩) (by assumption) ?_
   rotate_left
   · (intro wS hSw; (try dsimp only at hSw); obtain ⟨a0, a1⟩ := HS.out _ hSw.bel; clear hSw; refine execV (fun rho hk1 hk2 hk3 hk => ?_); have e0_ := (hk 0).trans (evalP fg0); clear hk; go_simp; (try with_reducible rfl))
   ((with_reducible refine wpSeq_put ?_; go_big_move))
   refine seq_take (oi := ⟨some 24, _, _, _, _, _⟩) (v := ?_) rfl (Or.inl ⟨by kernel_rfl, ?_⟩) (by assumption) ?_
   rotate_left
   · (intro wS hSw; (try dsimp only at hSw); obtain ⟨a0, a1⟩ := HS.out _ hSw.bel; clear hSw; refine execV (fun rho hk1 hk2 hk3 hk => ?_); have e23_ := (hk 23).trans (evalP (fg8 (fg8 (fg1 (fg1 (fg1 (fg1 (fg1 (fg1 (fg1 fg0)))))))))); clear hk; go_simp; (try with_reducible rfl))
   ((with_reducible refine wpSeq_put ?_; go_big_move))
   refine seq_take (oi := ⟨some 25, _, _, _, _, _⟩) (v := ?_) rfl (Or.inl ⟨by kernel_rfl, ?_⟩) (by assumption) ?_
   rotate_left
   · (intro wS hSw; (try dsimp only at hSw); obtain ⟨a0, a1⟩ := HS.out _ hSw.bel; clear hSw; refine execV (fun rho hk1 hk2 hk3 hk => ?_); have e24_ := (hk 24).trans (evalP (fg8 (fg8 (fg8 fg0)))); clear hk; go_simp; (try with_reducible rfl))
   ((with_reducible refine wpSeq_put ?_; go_big_move))
   refine seq_take (oi := ⟨some 26, _, _, _, _, _⟩) (v := ?_) rfl (Or.inl ⟨by kernel_rfl, ?_⟩) (by assumption) ?_
   rotate_left
   · (intro wS hSw; (try dsimp only at hSw); obtain ⟨a0, a1⟩ := HS.out _ hSw.bel; clear hSw; refine execV (fun rho hk1 hk2 hk3 hk => ?_); have e25_ := (hk 25).trans (evalP (fg8 (fg8 (fg8 (fg1 fg0))))); clear hk; go_simp; (try with_reducible rfl))
   ((with_reducible refine wpSeq_put ?_; go_big_move))
   refine seq_take (oi := ⟨some 27, _, _, _, _, _⟩) (v := ?_) rfl (Or.inl ⟨by kernel_rfl, ?_⟩) (by assumption) ?_
   rotate_left
   · (intro wS hSw; (try dsimp only at hSw); obtain ⟨a0, a1⟩ := HS.out _ hSw.bel; clear hSw; refine execV (fun rho hk1 hk2 hk3 hk => ?_); have e1_ := (hk 1).trans (evalP (fg1 fg0)); clear hk; go_simp; (try with_reducible rfl))
   ((with_reducible refine wpSeq_put ?_; go_big_move))
   refine seq_take (oi := ⟨some 28, _, _, _, _, _⟩) (v := ?_) rfl (Or.inl ⟨by kernel_rfl, ?_⟩) (by assumption) ?_
   rotate_left
   · (intro wS hSw; (try dsimp only at hSw); obtain ⟨a0, a1⟩ := HS.out _ hSw.bel; clear hSw; refine execV (fun rho hk1 hk2 hk3 hk => ?_); have e2_ := (hk 2).trans (evalP (fg1 (fg1 fg0))); clear hk; go_simp; (try with_reducible rfl))
   ((with_reducible refine wpSeq_put ?_; go_big_move))
   refine seq_step (o := ⟨some 29, _, _, _, _, _⟩) rfl (fun K hK => ?_)
   with_reducible refine wantedP (by kernel_rfl) ?_
   (go_big_op)
   (refine (HL.out _).mono ?_; rintro e w12 ⟨rfl, hb9⟩)
   go_wp2_with fail
   refine hK.out _ _ ?_ (fun _ => ?_)
   · ((try dsimp only); (with_reducible exact hHeld.call hb9))
   clear hK K
   ((try simp only [Act.put, pS0, pS1, pS2]))
   refine gen0 (T := fun W => ((fun W => Mm w W [(g8, 37, pta p), (w.heap.size, 43, #[.int .i64 0, .slice none 0 0])] [])) W ∧ Below w.heap.size w W ∧ True) ?_ (fun wq2 hT => ?_)
   · exact ⟨by (with_reducible exact hHeld.call hb9), by (exact bel_call f0 hb9), trivial⟩
   (try clear f0 f1 f2 f3 f4 f5 f6 f7 f8 f9 f10 f11)
   obtain ⟨hHeld, f0, -⟩ := hT
   refine seq_step (o := ⟨some 30, _, _, _, _, _⟩) rfl (fun K hK => ?_)
   with_reducible refine wantedP (by kernel_rfl) ?_
   (go_big_op)
   (refine (HGt.out _ f0).mono ?_; rintro e w12 ⟨A9, c9, m9, rfl, hm9, ho9, hb9⟩)
   go_wp2_with fail
   refine hK.out _ _ ?_ (fun _ => ?_)
   · ((try dsimp only); (with_reducible exact hHeld.call hb9))
   clear hK K
   ((try simp only [Act.put, pS0, pS1, pS2]))
   refine gen0 (T := fun W => ((fun W => Mm w W [(g8, 37, pta p), (w.heap.size, 43, #[.int .i64 0, .slice none 0 0])] [])) W ∧ Below w.heap.size w W ∧ SlB W A9 c9 m9 ∧ True) ?_ (fun wq3 hT => ?_)
   · exact ⟨by (with_reducible exact hHeld.call hb9), by (exact bel_call f0 hb9), by (exact ho9.sl), trivial⟩
   (try clear f0 f1 f2 f3 f4 f5 f6 f7 f8 f9 f10 f11)
   obtain ⟨hHeld, f0, f1, -⟩ := hT
   refine seq_take (oi := ⟨some 22, _, _, _, _, _⟩) (v := ?_) rfl (Or.inl ⟨by kernel_rfl, ?_⟩) (by assumption) ?_
   rotate_left
   · (intro wS hSw; (try dsimp only at hSw); obtain ⟨a0, a1⟩ := HS.out _ hSw.bel; clear hSw; refine execV (fun rho hk1 hk2 hk3 hk => ?_); have e30_ := (hk 30).trans (evalP (fg8 (fg8 (fg8 (fg1 (fg1 (fg1 (fg1 (fg1 (fg1 fg0)))))))))); clear hk; go_simp; (try with_reducible rfl))
   ((with_reducible refine wpSeq_put ?_; go_big_move))
   refine seq_take (oi := ⟨some 31, _, _, _, _, _⟩) (v := ?_) rfl (Or.inl ⟨by kernel_rfl, ?_⟩) (by assumption) ?_
   rotate_left
   · (intro wS hSw; (try dsimp only at hSw); obtain ⟨a0, a1⟩ := HS.out _ hSw.bel; clear hSw; refine execV (fun rho hk1 hk2 hk3 hk => ?_); have e22_ := (hk 22).trans (evalP (fg8 (fg8 (fg1 (fg1 (fg1 (fg1 (fg1 (fg1 fg0))))))))); clear hk; go_simp; (try with_reducible rfl))
   ((with_reducible refine wpSeq_put ?_; go_big_move))
   refine seq_take (oi := ⟨some 32, _, _, _, _, _⟩) (v := ?_) rfl (Or.inl ⟨by kernel_rfl, ?_⟩) (by assumption) ?_
   rotate_left
   · (intro wS hSw; (try dsimp only at hSw); obtain ⟨a0, a1⟩ := HS.out _ hSw.bel; clear hSw; refine execV (fun rho hk1 hk2 hk3 hk => ?_); have e22_ := (hk 22).trans (evalP (fg8 (fg8 (fg1 (fg1 (fg1 (fg1 (fg1 (fg1 fg0))))))))); clear hk; go_simp; (try with_reducible rfl))
   ((with_reducible refine wpSeq_put ?_; go_big_move))
   refine seq_take (oi := ⟨some 10, _, _, _, _, _⟩) (v := ?_) rfl (Or.inl ⟨by kernel_rfl, ?_⟩) (by assumption) ?_
   rotate_left
   · (intro wS hSw; (try dsimp only at hSw); obtain ⟨a0, a1⟩ := HS.out _ hSw.bel; clear hSw; refine execV (fun rho hk1 hk2 hk3 hk => ?_); have e31_ := (hk 31).trans (evalP (fg8 (fg8 (fg8 (fg1 (fg1 (fg1 (fg1 (fg1 (fg1 (fg1 fg0))))))))))); clear hk; go_simp; (try with_reducible rfl))
   ((with_reducible refine wpSeq_put ?_; go_big_move))
   refine seq_take (oi := ⟨some 9, _, _, _, _, _⟩) (v := ?_) rfl (Or.inl ⟨by kernel_rfl, ?_⟩) (by assumption) ?_
   rotate_left
   · (intro wS hSw; (try dsimp only at hSw); obtain ⟨a0, a1⟩ := HS.out _ hSw.bel; clear hSw; refine execV (fun rho hk1 hk2 hk3 hk => ?_); have e32_ := (hk 32).trans (evalP (fg8 (fg8 (fg8 (fg8 fg0))))); clear hk; go_simp; (try with_reducible rfl))
   ((with_reducible refine wpSeq_put ?_; go_big_move))
   refine seq_done ?_
   have hM := hHeld
   clear hHeld hMd HL HGt HS
   rcases errv_cases rn with ⟨h0, hev⟩ | ⟨ke, hk1, hke, hev⟩
   rotate_left
   · have HT := Lib.hid (show vget Sv.l ⟨d, mvs l⟩ n k = ((0, []), rn) from by rw [HV.out, if_pos (by omega)])
     have HEV := Lib.hid hev
     rw [hev]
     clear hev hke HV
     obtain ⟨r0, r1, rf0, rf1⟩ := hM.b1.two
     go_wp2_with fail
     exact bodyPost_ret (res_sg2 rfl rfl (g := w.heap.size) (hM.b1.set2 _ _)) rfl ⟨none, 0, [], by rw [HT.out]; first | rfl | (dsimp only; rw [HEV.out]; rfl), (show _ = _ from by rw [HT.out] <;> rfl), NewS.nil _ _, bel_set (bel_set hM.bel (by dsimp only; omega) _) (by dsimp only; omega) _⟩
   · have HT := Lib.hid (show vget Sv.l ⟨d, mvs l⟩ n k = mholds p rb from by rw [HV.out, if_neg (by omega)])
     rw [hev]
     have HH := Lib.hid (MHolds_any (A := A9) (c := c9) p m9 _ (HG.out _ hM.bel) (by with_reducible assumption) (by rw [hm9.out]; omega))
     clear hev HV HG
     go_wp2_with (refine wpl_loadG rfl 37 _ rfl ⟨g8, 0, none⟩ (pta p) rfl hM.b0.cells _ Tryz.underlying37 rfl (by rw [hpp.out]; kernel_rfl) ?_)
     refine HH.out.mono ?_
     rintro e w5 ⟨A5, c5, m5, rfl, hm5, hN5, hb5⟩
     have hlo := hM.bel.size
     have hlt := hM.b1.lt
     have hM5 := hM.call hb5
     clear HH hM
     obtain ⟨r0, r1, rf0, rf1⟩ := hM5.b1.two
     rw [hm9.out] at hm5 ⊢
     generalize mholds p rb = x at *
     obtain ⟨⟨x0, x1⟩, x2⟩ := x
     dsimp only at hm5 ⊢
     go_wp2_with fail
     exact bodyPost_ret (res_sg2 rfl rfl (g := w.heap.size) (hM5.b1.set2 _ _)) rfl ⟨A5, c5, m5, by rw [HT.out]; rfl, (show _ = _ from by rw [HT.out]; exact hm5.out), NewS.more ((hN5.setLow (g := w.heap.size) hlt 0 _).setLow (g := w.heap.size) hlt 1 _) (by omega), bel_set (bel_set hM5.bel (by dsimp only; omega) _) (by dsimp only; omega) _⟩
end
end Go.Proofs.YtajfnmohlnkncaaGreatDoor
