/- WHAT IT HOLDS: the document's Take of cursors, walked. | WHAT IT HOLDS: the document's Take of manifests, walked. | WHAT IT HOLDS: Same of manifests, the program's and the document's, walked. | WHAT IT HOLDS: the document's Same of manifests, walked. | WHAT IT HOLDS: lists of texts side by side; frame.All, walked. | WHAT IT HOLDS: the law FrameTakes, walked. | WHAT IT HOLDS: the document's Put of segments, and a segment's cell, walked. -/
import Derived.Test.YtabnndjdkjkciaaGreatDoorManifestPartsG25
import Derived.Test.YtabnndjdkjkciaaGreatDoorManifestPartsG21
import Derived.Test.YtabnndjdkjkciaaGreatDoorManifestPartsG10
namespace Go.Proofs.YtabnndjdkjkciaaGreatDoor
open Go.RowKit
attribute [local go_sem ↓] Go.wp_at_zero Go.wp_at_succ

end Go.Proofs.YtabnndjdkjkciaaGreatDoor

namespace Go.Proofs.YtabnndjdkjkciaaGreatDoor
open Go.RowKit
attribute [local go_sem ↓] Go.wp_at_zero Go.wp_at_succ

end Go.Proofs.YtabnndjdkjkciaaGreatDoor

namespace Go.Proofs.YtabnndjdkjkciaaGreatDoor
open Go.RowKit
attribute [local go_sem ↓] Go.wp_at_zero Go.wp_at_succ

theorem yld_load {P : Program} {a : Act} {o : Oper} {w : World} (ty : TypeId) (x : Operand) (ho : o.op = .load ty x) (ad : Addr) (cs : Array Value) (hx : a.eval x = .pointer (some ad)) (hc : ∀ j u, cs[j]? = some u → w.cell? (ad.add j) = some u) (d : TypeDesc) (hu : P.underlying ty = some d) (hd : (match d with | .struct _ | .array _ _ => true | _ => false) = true) (hi : (P.info? ty).map (·.size) = some cs.size) :
    (execOp a.eval o).run P w = .ok (.value (.agg cs)) w := by
  unfold execOp
  simp only [ho, hx, Instr.loadAt, Instr.sureAddr, Sem.run_bind, Sem.run_pure, Result.andThen_ok, run_loadVar_at w ad ty cs hc d hu hd hi]
end Go.Proofs.YtabnndjdkjkciaaGreatDoor

namespace Go.Proofs.YtabnndjdkjkciaaGreatDoor
open Go.RowKit
attribute [local go_sem ↓] Go.wp_at_zero Go.wp_at_succ
end Go.Proofs.YtabnndjdkjkciaaGreatDoor

namespace Go.Proofs.YtabnndjdkjkciaaGreatDoor
open Go.RowKit
attribute [local go_sem ↓] Go.wp_at_zero Go.wp_at_succ

end Go.Proofs.YtabnndjdkjkciaaGreatDoor

namespace Go.Proofs.YtabnndjdkjkciaaGreatDoor
open Go.RowKit
attribute [local go_sem ↓] Go.wp_at_zero Go.wp_at_succ

end Go.Proofs.YtabnndjdkjkciaaGreatDoor

namespace Go.Proofs.YtabnndjdkjkciaaGreatDoor
open Go.RowKit
attribute [local go_sem ↓] Go.wp_at_zero Go.wp_at_succ

set_option maxRecDepth 100000 in
set_option maxHeartbeats 2000000 in
theorem rSPut_any {E : Option Addr} {cap : Nat} (f : Int) (ds : List Ce) (w : World) (h : SlD w E cap ds) (h0 : schk (f, ds) = 0) :
    Calls Tryz.prog 47 #[cv f E ds.length cap] w (GivesB w (frm (stxt (f, ds)))) := by
  obtain ⟨hf0, hf1, hn64, hne, hr0⟩ := schk_ok h0
  dsimp only at hf0 hf1 hn64 hne hr0
  obtain ⟨n, rfl⟩ : ∃ n : Nat, f = n := ⟨f.toNat, by omega⟩
  have hun : U64 n := by unfold U64; omega
  have hwn := wrap_u64_of hun
  have hok : Hid (∀ c ∈ ds, cchk c = 0) := (show ∀ c ∈ ds, _ from rchk_zero hr0)
  have htx : Hid (stxt ((n : Int), ds) = vb n ++ (vb ds.length ++ rgo none [] ds)) := (show _ = _ from by
    unfold stxt
    rw [rgo_prun 64 ds [] hn64 hn64 hok.out (by simp)]
    rfl)
  have HLEN := Lib.hid (stxt_len h0)
  have hB := Blk.new w 34 #[.int .i64 (n : Int), .slice E ds.length cap]
  have hbw := below_new w (.cells #[.int .i64 (n : Int), .slice E ds.length cap] 34)
  clear hr0 hne h0
  go_enter Tryz.func47, Tryz.ntmps47
  go_upto_region 1 with (fail)
  have hst : Blk (w.alloc (.cells #[.int .i64 (n : Int), .slice E ds.length cap] 34)).drew w.heap.size 34 #[.int .i64 (n : Int), .slice E ds.length cap] ∧ Below w.heap.size w (w.alloc (.cells #[.int .i64 (n : Int), .slice E ds.length cap] 34)).drew := ⟨hB.drew, hbw.drew⟩
  clear hB hbw
  refine wp_region_held_drew (S := (fun W => Blk W w.heap.size 34 #[.int .i64 (n : Int), .slice E ds.length cap] ∧ Below w.heap.size w W)) (by kernel_rfl) ?_ (fun hHeld => ?_)
  · exact hst
  refine gen0 (T := fun W => ((fun W => Blk W w.heap.size 34 #[.int .i64 (n : Int), .slice E ds.length cap] ∧ Below w.heap.size w W)) W ∧ True) ?_ (fun wq1 hT => ?_)
  · exact ⟨by (first | exact hst | exact ⟨hHeld.1.below hb2, bel_call hHeld.2 hb2⟩ | exact ⟨hHeld.1.below hb3, bel_call hHeld.2 hb3⟩ | exact ⟨(hb4.block w.heap.size (Nat.lt_succ_self _)).trans hHeld.1, hHeld.2.trans (hb4.mono (Nat.le_succ _))⟩ | exact ⟨hHeld.1.below hb5, bel_call hHeld.2 hb5⟩), trivial⟩
  (try clear f0 f1 f2 f3 f4 f5 f6 f7 f8 f9 f10 f11)
  obtain ⟨hHeld, -⟩ := hT
  refine wpAnyH_take (i := 0) (oi := ⟨some 3, _, _, _, _, _⟩) (v := ?_) rfl (by kernel_rfl) (by kernel_rfl) (by kernel_rfl) (fun _ _ _ h => h) (Or.inl ⟨by kernel_rfl, ?_⟩) (by assumption) ?_
  rotate_left
  · (intro wS hSw; (try dsimp only at hSw); obtain ⟨q0, q1, _, _⟩ := hSw.1.two; clear hSw; go_simp; (try with_reducible rfl))
  (try simp only [Act.put, List.setIfInBounds_toArray, List.set_cons_zero, List.set_cons_succ])
  refine wpAnyH_take (i := 1) (oi := ⟨some 4, _, _, _, _, _⟩) (v := ?_) rfl (by kernel_rfl) (by kernel_rfl) (by kernel_rfl) (fun _ _ _ h => h) (Or.inl ⟨by kernel_rfl, ?_⟩) (by assumption) ?_
  rotate_left
  · (intro wS hSw; (try dsimp only at hSw); obtain ⟨q0, q1, _, _⟩ := hSw.1.two; clear hSw; go_simp; (try with_reducible rfl))
  (try simp only [Act.put, List.setIfInBounds_toArray, List.set_cons_zero, List.set_cons_succ])
  refine wpAnyH_take (i := 2) (oi := ⟨some 5, _, _, _, _, _⟩) (v := ?_) rfl (by kernel_rfl) (by kernel_rfl) (by kernel_rfl) (fun _ _ _ h => h) (Or.inl ⟨by kernel_rfl, ?_⟩) (by assumption) ?_
  rotate_left
  · (intro wS hSw; (try dsimp only at hSw); obtain ⟨q0, q1, _, _⟩ := hSw.1.two; clear hSw; go_simp; (try with_reducible rfl))
  (try simp only [Act.put, List.setIfInBounds_toArray, List.set_cons_zero, List.set_cons_succ])
  refine wpAnyH_take (i := 4) (oi := ⟨some 7, _, _, _, _, _⟩) (v := ?_) rfl (by kernel_rfl) (by kernel_rfl) (by kernel_rfl) (fun _ _ _ h => h) (Or.inl ⟨by kernel_rfl, ?_⟩) (by assumption) ?_
  rotate_left
  · (intro wS hSw; (try dsimp only at hSw); obtain ⟨q0, q1, _, _⟩ := hSw.1.two; clear hSw; go_simp; (try with_reducible rfl))
  (try simp only [Act.put, List.setIfInBounds_toArray, List.set_cons_zero, List.set_cons_succ])
  refine wpAnyH_take (i := 5) (oi := ⟨some 8, _, _, _, _, _⟩) (v := ?_) rfl (by kernel_rfl) (by kernel_rfl) (by kernel_rfl) (fun _ _ _ h => h) (Or.inl ⟨by kernel_rfl, ?_⟩) (by assumption) ?_
  rotate_left
  · (intro wS hSw; (try dsimp only at hSw); obtain ⟨q0, q1, _, _⟩ := hSw.1.two; clear hSw; go_simp; (try with_reducible rfl))
  (try simp only [Act.put, List.setIfInBounds_toArray, List.set_cons_zero, List.set_cons_succ])
  refine wpAnyH_ready (rs := [3]) (by kernel_rfl) (by simp) ?_
  refine AllReadyH.cons (o := ⟨some 6, _, _, _, _, _⟩) rfl (fun K hK => ?_) AllReadyH.nil
  go_simp
  (refine (rBytes_any n hun _).mono ?_; rintro e w2 ⟨A2, c2, m2, rfl, hm2, ho2, hb2⟩; have hml2 : m2.length ≤ 10 := (by rw [hm2.out]; exact vb_le10 hun))
  go_wp2_with fail
  refine hK.out _ _ ?_ (fun _ => ?_)
  · ((try dsimp only); (first | exact hst | exact ⟨hHeld.1.below hb2, bel_call hHeld.2 hb2⟩ | exact ⟨hHeld.1.below hb3, bel_call hHeld.2 hb3⟩ | exact ⟨(hb4.block w.heap.size (Nat.lt_succ_self _)).trans hHeld.1, hHeld.2.trans (hb4.mono (Nat.le_succ _))⟩ | exact ⟨hHeld.1.below hb5, bel_call hHeld.2 hb5⟩))
  clear hK K
  (try simp only [Act.put, List.setIfInBounds_toArray, List.set_cons_zero, List.set_cons_succ])
  refine gen0 (T := fun W => ((fun W => Blk W w.heap.size 34 #[.int .i64 (n : Int), .slice E ds.length cap] ∧ Below w.heap.size w W)) W ∧ OwnB W (w.heap.size + 1) 5 A2 c2 m2 ∧ True) ?_ (fun wq2 hT => ?_)
  · exact ⟨by (first | exact hst | exact ⟨hHeld.1.below hb2, bel_call hHeld.2 hb2⟩ | exact ⟨hHeld.1.below hb3, bel_call hHeld.2 hb3⟩ | exact ⟨(hb4.block w.heap.size (Nat.lt_succ_self _)).trans hHeld.1, hHeld.2.trans (hb4.mono (Nat.le_succ _))⟩ | exact ⟨hHeld.1.below hb5, bel_call hHeld.2 hb5⟩), by (first | assumption | exact ho2.more hHeld.1.lt | exact Own.below f0 hb3 | exact ho3.sl | exact ho4.sl | exact ho5.more hHeld.2.size), trivial⟩
  (try clear f0 f1 f2 f3 f4 f5 f6 f7 f8 f9 f10 f11)
  obtain ⟨hHeld, f0, -⟩ := hT
  refine wpAnyH_ready (rs := [6]) (by kernel_rfl) (by simp) ?_
  refine AllReadyH.cons (o := ⟨some 9, _, _, _, _, _⟩) rfl (fun K hK => ?_) AllReadyH.nil
  go_simp
  (refine (rRun_any ds _ (Sl.below h hHeld.2) (by omega) hok).mono ?_; rintro e w3 ⟨A3, c3, m3, rfl, hm3, ho3, hb3⟩; have htl : m2.length + m3.length ≤ 7000 := (by have := HLEN.out; rw [htx.out, ← hm2.out, ← hm3.out] at this; simpa using this))
  go_wp2_with fail
  refine hK.out _ _ ?_ (fun _ => ?_)
  · ((try dsimp only); (first | exact hst | exact ⟨hHeld.1.below hb2, bel_call hHeld.2 hb2⟩ | exact ⟨hHeld.1.below hb3, bel_call hHeld.2 hb3⟩ | exact ⟨(hb4.block w.heap.size (Nat.lt_succ_self _)).trans hHeld.1, hHeld.2.trans (hb4.mono (Nat.le_succ _))⟩ | exact ⟨hHeld.1.below hb5, bel_call hHeld.2 hb5⟩))
  clear hK K
  (try simp only [Act.put, List.setIfInBounds_toArray, List.set_cons_zero, List.set_cons_succ])
  refine gen0 (T := fun W => ((fun W => Blk W w.heap.size 34 #[.int .i64 (n : Int), .slice E ds.length cap] ∧ Below w.heap.size w W)) W ∧ OwnB W (w.heap.size + 1) 5 A2 c2 m2 ∧ SlB W A3 c3 m3 ∧ True) ?_ (fun wq3 hT => ?_)
  · exact ⟨by (first | exact hst | exact ⟨hHeld.1.below hb2, bel_call hHeld.2 hb2⟩ | exact ⟨hHeld.1.below hb3, bel_call hHeld.2 hb3⟩ | exact ⟨(hb4.block w.heap.size (Nat.lt_succ_self _)).trans hHeld.1, hHeld.2.trans (hb4.mono (Nat.le_succ _))⟩ | exact ⟨hHeld.1.below hb5, bel_call hHeld.2 hb5⟩), by (first | assumption | exact ho2.more hHeld.1.lt | exact Own.below f0 hb3 | exact ho3.sl | exact ho4.sl | exact ho5.more hHeld.2.size), by (first | assumption | exact ho2.more hHeld.1.lt | exact Own.below f0 hb3 | exact ho3.sl | exact ho4.sl | exact ho5.more hHeld.2.size), trivial⟩
  (try clear f0 f1 f2 f3 f4 f5 f6 f7 f8 f9 f10 f11)
  obtain ⟨hHeld, f0, f1, -⟩ := hT
  refine wpAnyH_ready (rs := [7]) (by kernel_rfl) (by simp) ?_
  refine AllReadyH.cons (o := ⟨some 10, _, _, _, _, _⟩) rfl (fun K hK => ?_) AllReadyH.nil
  (refine step_bytes 29 5 Tryz.underlying29 u8_info (by kernel_rfl) (.tmp 6) (.tmp 9) rfl (w.heap.size + 1) A2 c2 m2 rfl f0 A3 c3 m3.length m3 rfl rfl f1 (by omega) hHeld.1.lt ?_; intro A4 c4 m4 w4 hm4 ho4 hb4)
  refine hK.out _ _ ?_ (fun _ => ?_)
  · ((try dsimp only); (first | exact hst | exact ⟨hHeld.1.below hb2, bel_call hHeld.2 hb2⟩ | exact ⟨hHeld.1.below hb3, bel_call hHeld.2 hb3⟩ | exact ⟨(hb4.block w.heap.size (Nat.lt_succ_self _)).trans hHeld.1, hHeld.2.trans (hb4.mono (Nat.le_succ _))⟩ | exact ⟨hHeld.1.below hb5, bel_call hHeld.2 hb5⟩))
  clear hK K
  (try simp only [Act.put, List.setIfInBounds_toArray, List.set_cons_zero, List.set_cons_succ])
  refine gen0 (T := fun W => ((fun W => Blk W w.heap.size 34 #[.int .i64 (n : Int), .slice E ds.length cap] ∧ Below w.heap.size w W)) W ∧ SlB W A4 c4 m4 ∧ True) ?_ (fun wq4 hT => ?_)
  · exact ⟨by (first | exact hst | exact ⟨hHeld.1.below hb2, bel_call hHeld.2 hb2⟩ | exact ⟨hHeld.1.below hb3, bel_call hHeld.2 hb3⟩ | exact ⟨(hb4.block w.heap.size (Nat.lt_succ_self _)).trans hHeld.1, hHeld.2.trans (hb4.mono (Nat.le_succ _))⟩ | exact ⟨hHeld.1.below hb5, bel_call hHeld.2 hb5⟩), by (first | assumption | exact ho2.more hHeld.1.lt | exact Own.below f0 hb3 | exact ho3.sl | exact ho4.sl | exact ho5.more hHeld.2.size), trivial⟩
  (try clear f0 f1 f2 f3 f4 f5 f6 f7 f8 f9 f10 f11)
  obtain ⟨hHeld, f0, -⟩ := hT
  refine wpAnyH_ready (rs := [8]) (by kernel_rfl) (by simp) ?_
  refine AllReadyH.cons (o := ⟨some 11, _, _, _, _, _⟩) rfl (fun K hK => ?_) AllReadyH.nil
  go_simp
  (refine (rFrame_any A4 c4 m4 _ f0 (by rw [hm4.out, List.length_append]; omega)).mono ?_; rintro e w5 ⟨A5, c5, m5, rfl, hm5, ho5, hb5⟩)
  go_wp2_with fail
  refine hK.out _ _ ?_ (fun _ => ?_)
  · ((try dsimp only); (first | exact hst | exact ⟨hHeld.1.below hb2, bel_call hHeld.2 hb2⟩ | exact ⟨hHeld.1.below hb3, bel_call hHeld.2 hb3⟩ | exact ⟨(hb4.block w.heap.size (Nat.lt_succ_self _)).trans hHeld.1, hHeld.2.trans (hb4.mono (Nat.le_succ _))⟩ | exact ⟨hHeld.1.below hb5, bel_call hHeld.2 hb5⟩))
  clear hK K
  (try simp only [Act.put, List.setIfInBounds_toArray, List.set_cons_zero, List.set_cons_succ])
  refine gen0 (T := fun W => ((fun W => Blk W w.heap.size 34 #[.int .i64 (n : Int), .slice E ds.length cap] ∧ Below w.heap.size w W)) W ∧ OwnB W w.heap.size 5 A5 c5 m5 ∧ True) ?_ (fun wq5 hT => ?_)
  · exact ⟨by (first | exact hst | exact ⟨hHeld.1.below hb2, bel_call hHeld.2 hb2⟩ | exact ⟨hHeld.1.below hb3, bel_call hHeld.2 hb3⟩ | exact ⟨(hb4.block w.heap.size (Nat.lt_succ_self _)).trans hHeld.1, hHeld.2.trans (hb4.mono (Nat.le_succ _))⟩ | exact ⟨hHeld.1.below hb5, bel_call hHeld.2 hb5⟩), by (first | assumption | exact ho2.more hHeld.1.lt | exact Own.below f0 hb3 | exact ho3.sl | exact ho4.sl | exact ho5.more hHeld.2.size), trivial⟩
  (try clear f0 f1 f2 f3 f4 f5 f6 f7 f8 f9 f10 f11)
  obtain ⟨hHeld, f0, -⟩ := hT
  refine wpAnyH_take (i := 9) (oi := ⟨some 2, _, _, _, _, _⟩) (v := ?_) rfl (by kernel_rfl) (by kernel_rfl) (by kernel_rfl) (fun _ _ _ h => h) (Or.inl ⟨by kernel_rfl, ?_⟩) (by assumption) ?_
  rotate_left
  · (intro wS hSw; (try dsimp only at hSw); obtain ⟨q0, q1, _, _⟩ := hSw.1.two; clear hSw; go_simp; (try with_reducible rfl))
  (try simp only [Act.put, List.setIfInBounds_toArray, List.set_cons_zero, List.set_cons_succ])
  refine wpAnyH_done (by kernel_rfl) ?_ _
  go_wp2_with fail
  go_ret
  exact ⟨A5, c5, m5, rfl, (show _ = _ from by rw [hm5.out, hm4.out, hm2.out, hm3.out, htx.out]), f0, hHeld.2⟩
end Go.Proofs.YtabnndjdkjkciaaGreatDoor
