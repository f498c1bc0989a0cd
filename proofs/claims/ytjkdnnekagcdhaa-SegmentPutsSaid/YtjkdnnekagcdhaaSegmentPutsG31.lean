/- WHAT IT HOLDS: the document's Put of segments, and a segment's cell, walked. | WHAT IT HOLDS: what it says that cells are not too long, plainly. | WHAT IT HOLDS: a row of the call's own, written in place; rows of other types beside it. -/
import Derived.Test.YtjkdnnekagcdhaaSegmentPutsG28
import Derived.Test.YtjkdnnekagcdhaaSegmentPutsG30
import Derived.Test.YtjkdnnekagcdhaaSegmentPutsG19
namespace Go.Proofs.Ytjkdnnekagcdhaa
open Go.RowKit
attribute [local go_sem ↓] Go.wp_at_zero Go.wp_at_succ

def sat (s : Sg) (a : Int) : Ce × Bool := if a < s.1 ∨ (s.2.length : Int) ≤ a - s.1 then ((0, []), false) else (s.2.getD (a - s.1).toNat (0, []), true)
/-- the cell of a segment, and whether there is one -/
def GivesAt (w0 : World) (x : Ce × Bool) (e : Ending) (w' : World) : Prop :=
  ∃ A c m, e = .returned (.tuple #[cv x.1.1 A (List.length m) c, .bool x.2]) ∧ Hid (m = x.1.2) ∧ SlB w' A c m ∧ Below w0.heap.size w0 w'
set_option maxRecDepth 100000 in
set_option maxHeartbeats 2000000 in
theorem SAt_any {E : Option Addr} {cap : Nat} (f a : Int) (cs : List CeV) (w : World) (h : SlC w E cap cs) (hl : cs.length ≤ 1000) (hd : ∀ x ∈ cs, x.2.2.2.length ≤ 1000000000) (hf : I64 f) (ha : I64 a) :
    Calls Try.prog 47 #[cv f E cs.length cap, .int .i64 a] w (GivesAt w (sat (f, cs.map ceOf) a)) := by
  have hB0 := (Blk.new w 75 #[.int .i64 f, .slice E cs.length cap]).alloc (.cells #[.int .i64 0, .slice none 0 0] 24)
  have hB1 := Blk.newAt (w := w.alloc (.cells #[.int .i64 f, .slice E cs.length cap] 75)) (g := w.heap.size + 1) (by simp) 24 #[.int .i64 0, .slice none 0 0]
  have hbw := bel_alloc (below_new w (.cells #[.int .i64 f, .slice E cs.length cap] 75)) (.cells #[.int .i64 0, .slice none 0 0] 24)
  unfold I64 at ha hf
  obtain ⟨hf0, hf1⟩ := hf
  obtain ⟨ha0, ha1⟩ := ha
  obtain ⟨a0, a1, _, _⟩ := hB0.two
  obtain ⟨b0, b1, bf0, bf1⟩ := hB1.two
  by_cases c1 : a < f
  · have HS := Lib.hid (show sat (f, cs.map ceOf) a = ((0, []), false) from by unfold sat; rw [if_pos (.inl c1)])
    go_enter Try.func47, Try.ntmps47
    go_wp2_with fail
    exact bodyPost_ret (res_c2 rfl rfl (g := w.heap.size + 1) hB1) rfl ⟨none, 0, [], by rw [HS.out]; rfl, (show _ = _ from by rw [HS.out]), Sl.none_ _ _, hbw⟩
  by_cases c2 : (cs.length : Int) ≤ a - f
  · have HS := Lib.hid (show sat (f, cs.map ceOf) a = ((0, []), false) from by unfold sat; rw [if_pos (.inr (by simpa using c2))])
    by_cases c3 : a - f ≤ 9223372036854775807
    · go_enter Try.func47, Try.ntmps47
      go_wp2_with fail
      exact bodyPost_ret (res_c2 rfl rfl (g := w.heap.size + 1) hB1) rfl ⟨none, 0, [], by rw [HS.out]; rfl, (show _ = _ from by rw [HS.out]), Sl.none_ _ _, hbw⟩
    · obtain ⟨z, hz⟩ : ∃ z : Int, wrap64 (a - f) = z := ⟨_, rfl⟩
      have hz0 : z < 0 := by rw [← hz]; simp only [wrap64]; omega
      have hz1 : z < (cs.length : Int) := by omega
      go_enter Try.func47, Try.ntmps47
      go_wp2_with fail
      exact bodyPost_ret (res_c2 rfl rfl (g := w.heap.size + 1) hB1) rfl ⟨none, 0, [], by rw [HS.out]; rfl, (show _ = _ from by rw [HS.out]), Sl.none_ _ _, hbw⟩
  obtain ⟨i, hi⟩ : ∃ i : Nat, a = f + i := ⟨(a - f).toNat, by omega⟩
  subst hi
  have hlt : i < cs.length := by omega
  have HS := Lib.hid (show sat (f, cs.map ceOf) (f + i) = (ceOf cs[i], true) from by
    unfold sat
    rw [if_neg (by simp only [List.length_map]; omega)]
    have e1 : (f + (i : Int) - f).toNat = i := by omega
    dsimp only
    rw [e1, List.getD_eq_getElem?_getD, List.getElem?_map, List.getElem?_eq_getElem hlt]
    rfl)
  obtain ⟨ad, b, o, rfl, had, hc0, hc1, hsx⟩ := (h.below hbw).at2 hlt
  have hdl := hd _ (List.getElem_mem hlt)
  generalize cs[i] = x at *
  obtain ⟨kk, A, c, d⟩ := x
  dsimp only [ceOf] at *
  clear hd
  have hfi : f + (i : Int) - f = (i : Int) := by omega
  go_enter Try.func47, Try.ntmps47
  go_wp2_with fail
  refine (CCopy_any kk d _ hsx hdl).mono ?_
  rintro e w2 ⟨A2, c2, m2, rfl, hm2, ho2, hb2⟩
  have hw2 := bel_call hbw hb2
  have hB2 := hB1.below hb2
  obtain ⟨b0, b1, bf0, bf1⟩ := hB2.two
  clear hB0 hB1 hbw hb2
  go_wp2_with fail
  exact bodyPost_ret (res_c2 rfl rfl (g := w.heap.size + 1) (hB2.set2 _ _)) rfl ⟨A2, c2, m2, by rw [HS.out]; rfl, (show _ = _ from by rw [HS.out, hm2.out]), (Own.set2 (Own.more (base' := w.heap.size + 1 + 1) ho2 (by simp)) (by omega) _ _).sl, bel_set (bel_set hw2 (by dsimp only; omega) _) (by dsimp only; omega) _⟩

set_option maxRecDepth 100000 in
set_option maxHeartbeats 2000000 in
theorem rSPut_any {E : Option Addr} {cap : Nat} (f : Int) (ds : List Ce) (w : World) (h : SlD w E cap ds) (h0 : schk (f, ds) = 0) :
    Calls Try.prog 51 #[cv f E ds.length cap] w (GivesB w (frm (stxt (f, ds)))) := by
  obtain ⟨hf0, hf1, hn64, hne, hr0⟩ := schk_ok h0
  dsimp only at hf0 hf1 hn64 hne hr0
  obtain ⟨n, rfl⟩ : ∃ n : Nat, f = n := ⟨f.toNat, by omega⟩
  have hun : U64 n := by unfold U64; omega
  have hwn := wrap_u64_of hun
  have hok : Hid (∀ c ∈ ds, cchk c = 0) := (show ∀ c ∈ ds, _ from rchk_zero hr0)
  have htx : Hid (stxt ((n : Int), ds) = vb n ++ (vb ds.length ++ rgo none [] ds)) := (show _ = _ from by
    unfold stxt
    rw [rgo_prun 64 ds [] hn64 hn64 hok.out (by simp)]
    rfl)
  have HLEN := Lib.hid (stxt_len h0)
  have hB := Blk.new w 77 #[.int .i64 (n : Int), .slice E ds.length cap]
  have hbw := below_new w (.cells #[.int .i64 (n : Int), .slice E ds.length cap] 77)
  clear hr0 hne h0
  go_enter Try.func51, Try.ntmps51
  go_upto_region 1 with (fail)
  have hst : Blk (w.alloc (.cells #[.int .i64 (n : Int), .slice E ds.length cap] 77)).drew w.heap.size 77 #[.int .i64 (n : Int), .slice E ds.length cap] ∧ Below w.heap.size w (w.alloc (.cells #[.int .i64 (n : Int), .slice E ds.length cap] 77)).drew := ⟨hB.drew, hbw.drew⟩
  clear hB hbw
  refine wp_region_held_drew (S := (fun W => Blk W w.heap.size 77 #[.int .i64 (n : Int), .slice E ds.length cap] ∧ Below w.heap.size w W)) (by kernel_rfl) ?_ (fun hHeld => ?_)
  · exact hst
  refine gen0 (T := fun W => ((fun W => Blk W w.heap.size 77 #[.int .i64 (n : Int), .slice E ds.length cap] ∧ Below w.heap.size w W)) W ∧ True) ?_ (fun wq1 hT => ?_)
  · exact ⟨by (first | exact hst | exact ⟨hHeld.1.below hb2, bel_call hHeld.2 hb2⟩ | exact ⟨hHeld.1.below hb3, bel_call hHeld.2 hb3⟩ | exact ⟨(hb4.block w.heap.size (Nat.lt_succ_self _)).trans hHeld.1, hHeld.2.trans (hb4.mono (Nat.le_succ _))⟩ | exact ⟨hHeld.1.below hb5, bel_call hHeld.2 hb5⟩), trivial⟩
  (try clear f0 f1 f2 f3 f4 f5 f6 f7 f8 f9 f10 f11)
  obtain ⟨hHeld, -⟩ := hT
  refine wpAnyH_take (i := 0) (oi := ⟨some 3, _, _, _, _, _⟩) (v := ?_) rfl (by kernel_rfl) (by kernel_rfl) (by kernel_rfl) (fun _ _ _ h => h) (Or.inl ⟨by kernel_rfl, ?_⟩) (by assumption) ?_
  rotate_left
  · (intro wS hSw; (try dsimp only at hSw); obtain ⟨q0, q1, _, _⟩ := hSw.1.two; clear hSw; go_simp; (try with_reducible rfl))
  (try simp only [Act.put, List.setIfInBounds_toArray, List.set_cons_zero, List.set_cons_succ])
  refine wpAnyH_take (i := 1) (oi := ⟨some 4, _, _, _, _, _⟩) (v := ?_) rfl (by kernel_rfl) (by kernel_rfl) (by kernel_rfl) (fun _ _ _ h => h) (Or.inl ⟨by kernel_rfl, ?_⟩) (by assumption) ?_
  rotate_left
  · (intro wS hSw; (try dsimp only at hSw); obtain ⟨q0, q1, _, _⟩ := hSw.1.two; clear hSw; go_simp; (try with_reducible rfl))
  (try simp only [Act.put, List.setIfInBounds_toArray, List.set_cons_zero, List.set_cons_succ])
  refine wpAnyH_take (i := 2) (oi := ⟨some 5, _, _, _, _, _⟩) (v := ?_) rfl (by kernel_rfl) (by kernel_rfl) (by kernel_rfl) (fun _ _ _ h => h) (Or.inl ⟨by kernel_rfl, ?_⟩) (by assumption) ?_
  rotate_left
  · (intro wS hSw; (try dsimp only at hSw); obtain ⟨q0, q1, _, _⟩ := hSw.1.two; clear hSw; go_simp; (try with_reducible rfl))
  (try simp only [Act.put, List.setIfInBounds_toArray, List.set_cons_zero, List.set_cons_succ])
  refine wpAnyH_take (i := 4) (oi := ⟨some 7, _, _, _, _, _⟩) (v := ?_) rfl (by kernel_rfl) (by kernel_rfl) (by kernel_rfl) (fun _ _ _ h => h) (Or.inl ⟨by kernel_rfl, ?_⟩) (by assumption) ?_
  rotate_left
  · (intro wS hSw; (try dsimp only at hSw); obtain ⟨q0, q1, _, _⟩ := hSw.1.two; clear hSw; go_simp; (try with_reducible rfl))
  (try simp only [Act.put, List.setIfInBounds_toArray, List.set_cons_zero, List.set_cons_succ])
  refine wpAnyH_take (i := 5) (oi := ⟨some 8, _, _, _, _, _⟩) (v := ?_) rfl (by kernel_rfl) (by kernel_rfl) (by kernel_rfl) (fun _ _ _ h => h) (Or.inl ⟨by kernel_rfl, ?_⟩) (by assumption) ?_
  rotate_left
  · (intro wS hSw; (try dsimp only at hSw); obtain ⟨q0, q1, _, _⟩ := hSw.1.two; clear hSw; go_simp; (try with_reducible rfl))
  (try simp only [Act.put, List.setIfInBounds_toArray, List.set_cons_zero, List.set_cons_succ])
  refine wpAnyH_ready (rs := [3]) (by kernel_rfl) (by simp) ?_
  refine AllReadyH.cons (o := ⟨some 6, _, _, _, _, _⟩) rfl (fun K hK => ?_) AllReadyH.nil
  go_simp
  (refine (rBytes_any n hun _).mono ?_; rintro e w2 ⟨A2, c2, m2, rfl, hm2, ho2, hb2⟩; have hml2 : m2.length ≤ 10 := (by rw [hm2.out]; exact vb_le10 hun))
  go_wp2_with fail
  refine hK.out _ _ ?_ (fun _ => ?_)
  · ((try dsimp only); (first | exact hst | exact ⟨hHeld.1.below hb2, bel_call hHeld.2 hb2⟩ | exact ⟨hHeld.1.below hb3, bel_call hHeld.2 hb3⟩ | exact ⟨(hb4.block w.heap.size (Nat.lt_succ_self _)).trans hHeld.1, hHeld.2.trans (hb4.mono (Nat.le_succ _))⟩ | exact ⟨hHeld.1.below hb5, bel_call hHeld.2 hb5⟩))
  clear hK K
  (try simp only [Act.put, List.setIfInBounds_toArray, List.set_cons_zero, List.set_cons_succ])
  refine gen0 (T := fun W => ((fun W => Blk W w.heap.size 77 #[.int .i64 (n : Int), .slice E ds.length cap] ∧ Below w.heap.size w W)) W ∧ OwnB W (w.heap.size + 1) 5 A2 c2 m2 ∧ True) ?_ (fun wq2 hT => ?_)
  · exact ⟨by (first | exact hst | exact ⟨hHeld.1.below hb2, bel_call hHeld.2 hb2⟩ | exact ⟨hHeld.1.below hb3, bel_call hHeld.2 hb3⟩ | exact ⟨(hb4.block w.heap.size (Nat.lt_succ_self _)).trans hHeld.1, hHeld.2.trans (hb4.mono (Nat.le_succ _))⟩ | exact ⟨hHeld.1.below hb5, bel_call hHeld.2 hb5⟩), by (first | assumption | exact ho2.more hHeld.1.lt | exact Own.below f0 hb3 | exact ho3.sl | exact ho4.sl | exact ho5.more hHeld.2.size), trivial⟩
  (try clear f0 f1 f2 f3 f4 f5 f6 f7 f8 f9 f10 f11)
  obtain ⟨hHeld, f0, -⟩ := hT
  refine wpAnyH_ready (rs := [6]) (by kernel_rfl) (by simp) ?_
  refine AllReadyH.cons (o := ⟨some 9, _, _, _, _, _⟩) rfl (fun K hK => ?_) AllReadyH.nil
  go_simp
  (refine (rRun_any ds _ (Sl.below h hHeld.2) (by omega) hok).mono ?_; rintro e w3 ⟨A3, c3, m3, rfl, hm3, ho3, hb3⟩; have htl : m2.length + m3.length ≤ 7000 := (by have := HLEN.out; rw [htx.out, ← hm2.out, ← hm3.out] at this; simpa using this))
  go_wp2_with fail
  refine hK.out _ _ ?_ (fun _ => ?_)
  · ((try dsimp only); (first | exact hst | exact ⟨hHeld.1.below hb2, bel_call hHeld.2 hb2⟩ | exact ⟨hHeld.1.below hb3, bel_call hHeld.2 hb3⟩ | exact ⟨(hb4.block w.heap.size (Nat.lt_succ_self _)).trans hHeld.1, hHeld.2.trans (hb4.mono (Nat.le_succ _))⟩ | exact ⟨hHeld.1.below hb5, bel_call hHeld.2 hb5⟩))
  clear hK K
  (try simp only [Act.put, List.setIfInBounds_toArray, List.set_cons_zero, List.set_cons_succ])
  refine gen0 (T := fun W => ((fun W => Blk W w.heap.size 77 #[.int .i64 (n : Int), .slice E ds.length cap] ∧ Below w.heap.size w W)) W ∧ OwnB W (w.heap.size + 1) 5 A2 c2 m2 ∧ SlB W A3 c3 m3 ∧ True) ?_ (fun wq3 hT => ?_)
  · exact ⟨by (first | exact hst | exact ⟨hHeld.1.below hb2, bel_call hHeld.2 hb2⟩ | exact ⟨hHeld.1.below hb3, bel_call hHeld.2 hb3⟩ | exact ⟨(hb4.block w.heap.size (Nat.lt_succ_self _)).trans hHeld.1, hHeld.2.trans (hb4.mono (Nat.le_succ _))⟩ | exact ⟨hHeld.1.below hb5, bel_call hHeld.2 hb5⟩), by (first | assumption | exact ho2.more hHeld.1.lt | exact Own.below f0 hb3 | exact ho3.sl | exact ho4.sl | exact ho5.more hHeld.2.size), by (first | assumption | exact ho2.more hHeld.1.lt | exact Own.below f0 hb3 | exact ho3.sl | exact ho4.sl | exact ho5.more hHeld.2.size), trivial⟩
  (try clear f0 f1 f2 f3 f4 f5 f6 f7 f8 f9 f10 f11)
  obtain ⟨hHeld, f0, f1, -⟩ := hT
  refine wpAnyH_ready (rs := [7]) (by kernel_rfl) (by simp) ?_
  refine AllReadyH.cons (o := ⟨some 10, _, _, _, _, _⟩) rfl (fun K hK => ?_) AllReadyH.nil
  (refine step_bytes 22 5 Try.underlying22 u8_info (by kernel_rfl) (.tmp 6) (.tmp 9) rfl (w.heap.size + 1) A2 c2 m2 rfl f0 A3 c3 m3.length m3 rfl rfl f1 (by omega) hHeld.1.lt ?_; intro A4 c4 m4 w4 hm4 ho4 hb4)
  refine hK.out _ _ ?_ (fun _ => ?_)
  · ((try dsimp only); (first | exact hst | exact ⟨hHeld.1.below hb2, bel_call hHeld.2 hb2⟩ | exact ⟨hHeld.1.below hb3, bel_call hHeld.2 hb3⟩ | exact ⟨(hb4.block w.heap.size (Nat.lt_succ_self _)).trans hHeld.1, hHeld.2.trans (hb4.mono (Nat.le_succ _))⟩ | exact ⟨hHeld.1.below hb5, bel_call hHeld.2 hb5⟩))
  clear hK K
  (try simp only [Act.put, List.setIfInBounds_toArray, List.set_cons_zero, List.set_cons_succ])
  refine gen0 (T := fun W => ((fun W => Blk W w.heap.size 77 #[.int .i64 (n : Int), .slice E ds.length cap] ∧ Below w.heap.size w W)) W ∧ SlB W A4 c4 m4 ∧ True) ?_ (fun wq4 hT => ?_)
  · exact ⟨by (first | exact hst | exact ⟨hHeld.1.below hb2, bel_call hHeld.2 hb2⟩ | exact ⟨hHeld.1.below hb3, bel_call hHeld.2 hb3⟩ | exact ⟨(hb4.block w.heap.size (Nat.lt_succ_self _)).trans hHeld.1, hHeld.2.trans (hb4.mono (Nat.le_succ _))⟩ | exact ⟨hHeld.1.below hb5, bel_call hHeld.2 hb5⟩), by (first | assumption | exact ho2.more hHeld.1.lt | exact Own.below f0 hb3 | exact ho3.sl | exact ho4.sl | exact ho5.more hHeld.2.size), trivial⟩
  (try clear f0 f1 f2 f3 f4 f5 f6 f7 f8 f9 f10 f11)
  obtain ⟨hHeld, f0, -⟩ := hT
  refine wpAnyH_ready (rs := [8]) (by kernel_rfl) (by simp) ?_
  refine AllReadyH.cons (o := ⟨some 11, _, _, _, _, _⟩) rfl (fun K hK => ?_) AllReadyH.nil
  go_simp
  (refine (rFrame_any A4 c4 m4 _ f0 (by rw [hm4.out, List.length_append]; omega)).mono ?_; rintro e w5 ⟨A5, c5, m5, rfl, hm5, ho5, hb5⟩)
  go_wp2_with fail
  refine hK.out _ _ ?_ (fun _ => ?_)
  · ((try dsimp only); (first | exact hst | exact ⟨hHeld.1.below hb2, bel_call hHeld.2 hb2⟩ | exact ⟨hHeld.1.below hb3, bel_call hHeld.2 hb3⟩ | exact ⟨(hb4.block w.heap.size (Nat.lt_succ_self _)).trans hHeld.1, hHeld.2.trans (hb4.mono (Nat.le_succ _))⟩ | exact ⟨hHeld.1.below hb5, bel_call hHeld.2 hb5⟩))
  clear hK K
  (try simp only [Act.put, List.setIfInBounds_toArray, List.set_cons_zero, List.set_cons_succ])
  refine gen0 (T := fun W => ((fun W => Blk W w.heap.size 77 #[.int .i64 (n : Int), .slice E ds.length cap] ∧ Below w.heap.size w W)) W ∧ OwnB W w.heap.size 5 A5 c5 m5 ∧ True) ?_ (fun wq5 hT => ?_)
  · exact ⟨by (first | exact hst | exact ⟨hHeld.1.below hb2, bel_call hHeld.2 hb2⟩ | exact ⟨hHeld.1.below hb3, bel_call hHeld.2 hb3⟩ | exact ⟨(hb4.block w.heap.size (Nat.lt_succ_self _)).trans hHeld.1, hHeld.2.trans (hb4.mono (Nat.le_succ _))⟩ | exact ⟨hHeld.1.below hb5, bel_call hHeld.2 hb5⟩), by (first | assumption | exact ho2.more hHeld.1.lt | exact Own.below f0 hb3 | exact ho3.sl | exact ho4.sl | exact ho5.more hHeld.2.size), trivial⟩
  (try clear f0 f1 f2 f3 f4 f5 f6 f7 f8 f9 f10 f11)
  obtain ⟨hHeld, f0, -⟩ := hT
  refine wpAnyH_take (i := 9) (oi := ⟨some 2, _, _, _, _, _⟩) (v := ?_) rfl (by kernel_rfl) (by kernel_rfl) (by kernel_rfl) (fun _ _ _ h => h) (Or.inl ⟨by kernel_rfl, ?_⟩) (by assumption) ?_
  rotate_left
  · (intro wS hSw; (try dsimp only at hSw); obtain ⟨q0, q1, _, _⟩ := hSw.1.two; clear hSw; go_simp; (try with_reducible rfl))
  (try simp only [Act.put, List.setIfInBounds_toArray, List.set_cons_zero, List.set_cons_succ])
  refine wpAnyH_done (by kernel_rfl) ?_ _
  go_wp2_with fail
  go_ret
  exact ⟨A5, c5, m5, rfl, (show _ = _ from by rw [hm5.out, hm4.out, hm2.out, hm3.out, htx.out]), f0, hHeld.2⟩
end Go.Proofs.Ytjkdnnekagcdhaa

namespace Go.Proofs.Ytjkdnnekagcdhaa
theorem longb_all {l : List CeV} {n : Int} (h : longb (l.map ceOf) n = false) (hn : n ≤ 1000) : (∀ x ∈ l, x.2.2.2.length ≤ 1000000000) ∧ l.length ≤ 1000 := by
  unfold longb at h
  simp only [Bool.or_eq_false_iff, decide_eq_false_iff_not, List.any_eq_false] at h
  refine ⟨fun x hx => ?_, ?_⟩
  · have := h.1 (ceOf x) (List.mem_map_of_mem hx)
    simp at this
    omega
  · have := h.2
    simp at this
    omega
end Go.Proofs.Ytjkdnnekagcdhaa

namespace Go.Proofs.Ytjkdnnekagcdhaa
open Go.RowKit

section
variable {w : World} {base base' : Nat} {e e' : TypeId} {size size' n n' c c' : Nat} {A B : Option Addr} {xs ys : List Value}
/-- where a row of one's own lies -/
theorem Own.row (h : Own w base e size A n c xs) (hn : 0 < xs.length) : ∃ g cur, A = some ⟨g, 0, none⟩ ∧ base ≤ g ∧ w.heap[g]? = some (.cells cur e (0, 0)) ∧ cur.size = c * size ∧ cur.toList.take (n * size) = xs := by
  obtain ⟨h1, h2⟩ := h
  rcases h2 with ⟨_, h0⟩ | ⟨g, cap, cur, hv, hb, hh, _, _, hs, ht⟩
  · rw [h0, Nat.zero_mul] at h1; omega
  · injection hv with hA _ hc
    subst hc
    exact ⟨g, cur, hA, hb, hh, hs, ht⟩
theorem Own.cellAt {g : Nat} (h : Own w base e size (some ⟨g, 0, none⟩) n c xs) {j : Nat} (hj : j < xs.length) : w.cell? ⟨g, j, none⟩ = some xs[j] := by
  obtain ⟨ad, hA, hc⟩ := h.sl.2.2.2.2 j _ (List.getElem?_eq_getElem hj)
  injection hA with hA
  subst hA
  rw [addr_lit] at hc
  simpa using hc
theorem Own.frz {g : Nat} (h : Own w base e size (some ⟨g, 0, none⟩) n c xs) (j : Nat) : w.frozen? ⟨g, j, none⟩ = false := by
  obtain ⟨_, h2⟩ := h
  rcases h2 with ⟨hv, _⟩ | ⟨g2, cap, cur, hv, _, hh, _⟩
  · injection hv with hA; cases hA
  · injection hv with hA
    injection hA with hA
    injection hA with hA
    subst hA
    simp [World.frozen?, hh]
theorem Own.setAt {g : Nat} (h : Own w base e size (some ⟨g, 0, none⟩) n c xs) {j : Nat} (hj : j < xs.length) (u : Value) : Own (w.setCell ⟨g, j, none⟩ u) base e size (some ⟨g, 0, none⟩) n c (xs.set j u) := by
  obtain ⟨h1, h2⟩ := h
  refine ⟨by simpa using h1, ?_⟩
  rcases h2 with ⟨hv, _⟩ | ⟨g2, cap, cur, hv, hb, hh, hnc, hcm, hs, ht⟩
  · injection hv with hA; cases hA
  · injection hv with hA hn hc
    injection hA with hA
    injection hA with hA
    subst hA
    refine .inr ⟨g, cap, cur.setIfInBounds j u, by rw [hc], hb, heap_setCell_same w g j cur e u hh, hnc, hcm, by simpa using hs, ?_⟩
    rw [Array.toList_setIfInBounds, List.take_set, ht]
theorem Own.apart (h : Own w base e size A n c xs) (k : Own w base' e' size' B n' c' ys) (hne : e ≠ e') : ∀ g, A.map (·.block) = some g → B.map (·.block) ≠ some g := by
  intro g hg hg2
  rcases h.2 with ⟨hv, _⟩ | ⟨g1, _, cur, hv, _, hh, _⟩
  · injection hv with hA; subst hA; simp at hg
  · injection hv with hA
    subst hA
    simp at hg
    subst hg
    rcases k.2 with ⟨hv2, _⟩ | ⟨g2, _, cur2, hv2, _, hh2, _⟩
    · injection hv2 with hB; subst hB; simp at hg2
    · injection hv2 with hB
      subst hB
      simp at hg2
      subst hg2
      rw [hh] at hh2
      injection hh2 with hh2
      injection hh2 with _ ht
      exact hne ht
theorem Own.setOther (h : Own w base e size A n c xs) {g : Nat} (hg : A.map (·.block) ≠ some g) (i : Nat) (u : Value) : Own (w.setCell ⟨g, i, none⟩ u) base e size A n c xs :=
  ownsRow_setCell_other h (a := ⟨g, i, none⟩) (by rw [ownBlock_slice]; exact hg) u
end
/-- the cells of a list of pairs: one cell turned -/
theorem flat_set {T : Type} {f : T → List Value} {s : Nat} (hf : ∀ x, (f x).length = s) : ∀ (l : List T) (k j : Nat) (y : T) (u : Value), (hk : k < l.length) → j < s → f y = (f l[k]).set j u → (l.set k y).flatMap f = (l.flatMap f).set (k * s + j) u
  | x :: l, 0, j, y, u, _, hj, hy => by
    simp only [List.set_cons_zero, List.flatMap_cons, List.getElem_cons_zero, Nat.zero_mul, Nat.zero_add] at hy ⊢
    rw [hy, List.set_append_left _ _ (by rw [hf]; exact hj)]
  | x :: l, k + 1, j, y, u, hk, hj, hy => by
    simp only [List.set_cons_succ, List.flatMap_cons, List.getElem_cons_succ] at hy ⊢
    rw [flat_set hf l k j y u (by simpa using hk) hj hy, List.set_append_right _ _ (by rw [hf, Nat.succ_mul]; omega), hf]
    congr 2
    rw [Nat.succ_mul]; omega
theorem wrap_succ_ne (k : Int) : wrap64 (k + 1) ≠ k := by
  simp only [wrap64]
  omega
end Go.Proofs.Ytjkdnnekagcdhaa
