/- WHAT IT HOLDS: the document's Put of segments, and a segment's cell, walked. | WHAT IT HOLDS: what it says that cells are not too long, plainly. | WHAT IT HOLDS: taking segments, the program's and the document's, walked; the law SegmentTakes, walked. | WHAT IT HOLDS: the law CellBack, plainly and walked. -/
import Derived.Test.YtjkdnnekagcdhaaCellBackG20
import Derived.Test.YtjkdnnekagcdhaaCellBackG15
import Derived.Test.YtjkdnnekagcdhaaCellBackG11
import Derived.Test.YtjkdnnekagcdhaaCellBackG14
import Derived.Test.YtjkdnnekagcdhaaCellBackG08
import Derived.Test.YtjkdnnekagcdhaaCellBackG16
namespace Go.Proofs.Ytjkdnnekagcdhaa
open Go.RowKit
attribute [local go_sem ↓] Go.wp_at_zero Go.wp_at_succ

def sat (s : Sg) (a : Int) : Ce × Bool := if a < s.1 ∨ (s.2.length : Int) ≤ a - s.1 then ((0, []), false) else (s.2.getD (a - s.1).toNat (0, []), true)
/-- the cell of a segment, and whether there is one -/
def GivesAt (w0 : World) (x : Ce × Bool) (e : Ending) (w' : World) : Prop :=
  ∃ A c m, e = .returned (.tuple #[cv x.1.1 A (List.length m) c, .bool x.2]) ∧ Hid (m = x.1.2) ∧ SlB w' A c m ∧ Below w0.heap.size w0 w'
set_option maxRecDepth 100000 in
set_option maxHeartbeats 2000000 in
theorem SAt_any {E : Option Addr} {cap : Nat} (f a : Int) (cs : List CeV) (w : World) (h : SlC w E cap cs) (hl : cs.length ≤ 1000) (hd : ∀ x ∈ cs, x.2.2.2.length ≤ 1000000000) (hf : I64 f) (ha : I64 a) :
    Calls Try.prog 47 #[cv f E cs.length cap, .int .i64 a] w (GivesAt w (sat (f, cs.map ceOf) a)) := by
  have hB0 := (Blk.new w 75 #[.int .i64 f, .slice E cs.length cap]).alloc (.cells #[.int .i64 0, .slice none 0 0] 24)
  have hB1 := Blk.newAt (w := w.alloc (.cells #[.int .i64 f, .slice E cs.length cap] 75)) (g := w.heap.size + 1) (by simp) 24 #[.int .i64 0, .slice none 0 0]
  have hbw := bel_alloc (below_new w (.cells #[.int .i64 f, .slice E cs.length cap] 75)) (.cells #[.int .i64 0, .slice none 0 0] 24)
  unfold I64 at ha hf
  obtain ⟨hf0, hf1⟩ := hf
  obtain ⟨ha0, ha1⟩ := ha
  obtain ⟨a0, a1, _, _⟩ := hB0.two
  obtain ⟨b0, b1, bf0, bf1⟩ := hB1.two
  by_cases c1 : a < f
  · have HS := Lib.hid (show sat (f, cs.map ceOf) a = ((0, []), false) from by unfold sat; rw [if_pos (.inl c1)])
    go_enter Try.func47, Try.ntmps47
    go_wp2_with fail
    exact bodyPost_ret (res_c2 rfl rfl (g := w.heap.size + 1) hB1) rfl ⟨none, 0, [], by rw [HS.out]; rfl, (show _ = _ from by rw [HS.out]), Sl.none_ _ _, hbw⟩
  by_cases c2 : (cs.length : Int) ≤ a - f
  · have HS := Lib.hid (show sat (f, cs.map ceOf) a = ((0, []), false) from by unfold sat; rw [if_pos (.inr (by simpa using c2))])
    by_cases c3 : a - f ≤ 9223372036854775807
    · go_enter Try.func47, Try.ntmps47
      go_wp2_with fail
      exact bodyPost_ret (res_c2 rfl rfl (g := w.heap.size + 1) hB1) rfl ⟨none, 0, [], by rw [HS.out]; rfl, (show _ = _ from by rw [HS.out]), Sl.none_ _ _, hbw⟩
    · obtain ⟨z, hz⟩ : ∃ z : Int, wrap64 (a - f) = z := ⟨_, rfl⟩
      have hz0 : z < 0 := by rw [← hz]; simp only [wrap64]; omega
      have hz1 : z < (cs.length : Int) := by omega
      go_enter Try.func47, Try.ntmps47
      go_wp2_with fail
      exact bodyPost_ret (res_c2 rfl rfl (g := w.heap.size + 1) hB1) rfl ⟨none, 0, [], by rw [HS.out]; rfl, (show _ = _ from by rw [HS.out]), Sl.none_ _ _, hbw⟩
  obtain ⟨i, hi⟩ : ∃ i : Nat, a = f + i := ⟨(a - f).toNat, by omega⟩
  subst hi
  have hlt : i < cs.length := by omega
  have HS := Lib.hid (show sat (f, cs.map ceOf) (f + i) = (ceOf cs[i], true) from by
    unfold sat
    rw [if_neg (by simp only [List.length_map]; omega)]
    have e1 : (f + (i : Int) - f).toNat = i := by omega
    dsimp only
    rw [e1, List.getD_eq_getElem?_getD, List.getElem?_map, List.getElem?_eq_getElem hlt]
    rfl)
  obtain ⟨ad, b, o, rfl, had, hc0, hc1, hsx⟩ := (h.below hbw).at2 hlt
  have hdl := hd _ (List.getElem_mem hlt)
  generalize cs[i] = x at *
  obtain ⟨kk, A, c, d⟩ := x
  dsimp only [ceOf] at *
  clear hd
  have hfi : f + (i : Int) - f = (i : Int) := by omega
  go_enter Try.func47, Try.ntmps47
  go_wp2_with fail
  refine (CCopy_any kk d _ hsx hdl).mono ?_
  rintro e w2 ⟨A2, c2, m2, rfl, hm2, ho2, hb2⟩
  have hw2 := bel_call hbw hb2
  have hB2 := hB1.below hb2
  obtain ⟨b0, b1, bf0, bf1⟩ := hB2.two
  clear hB0 hB1 hbw hb2
  go_wp2_with fail
  exact bodyPost_ret (res_c2 rfl rfl (g := w.heap.size + 1) (hB2.set2 _ _)) rfl ⟨A2, c2, m2, by rw [HS.out]; rfl, (show _ = _ from by rw [HS.out, hm2.out]), (Own.set2 (Own.more (base' := w.heap.size + 1 + 1) ho2 (by simp)) (by omega) _ _).sl, bel_set (bel_set hw2 (by dsimp only; omega) _) (by dsimp only; omega) _⟩

set_option maxRecDepth 100000 in
set_option maxHeartbeats 2000000 in
theorem rSPut_any {E : Option Addr} {cap : Nat} (f : Int) (ds : List Ce) (w : World) (h : SlD w E cap ds) (h0 : schk (f, ds) = 0) :
    Calls Try.prog 51 #[cv f E ds.length cap] w (GivesB w (frm (stxt (f, ds)))) := by
  obtain ⟨hf0, hf1, hn64, hne, hr0⟩ := schk_ok h0
  dsimp only at hf0 hf1 hn64 hne hr0
  obtain ⟨n, rfl⟩ : ∃ n : Nat, f = n := ⟨f.toNat, by omega⟩
  have hun : U64 n := by unfold U64; omega
  have hwn := wrap_u64_of hun
  have hok : Hid (∀ c ∈ ds, cchk c = 0) := (show ∀ c ∈ ds, _ from rchk_zero hr0)
  have htx : Hid (stxt ((n : Int), ds) = vb n ++ (vb ds.length ++ rgo none [] ds)) := (show _ = _ from by
    unfold stxt
    rw [rgo_prun 64 ds [] hn64 hn64 hok.out (by simp)]
    rfl)
  have HLEN := Lib.hid (stxt_len h0)
  have hB := Blk.new w 77 #[.int .i64 (n : Int), .slice E ds.length cap]
  have hbw := below_new w (.cells #[.int .i64 (n : Int), .slice E ds.length cap] 77)
  clear hr0 hne h0
  go_enter Try.func51, Try.ntmps51
  go_upto_region 1 with (fail)
  have hst : Blk (w.alloc (.cells #[.int .i64 (n : Int), .slice E ds.length cap] 77)).drew w.heap.size 77 #[.int .i64 (n : Int), .slice E ds.length cap] ∧ Below w.heap.size w (w.alloc (.cells #[.int .i64 (n : Int), .slice E ds.length cap] 77)).drew := ⟨hB.drew, hbw.drew⟩
  clear hB hbw
  refine wp_region_held_drew (S := (fun W => Blk W w.heap.size 77 #[.int .i64 (n : Int), .slice E ds.length cap] ∧ Below w.heap.size w W)) (by kernel_rfl) ?_ (fun hHeld => ?_)
  · exact hst
  refine gen0 (T := fun W => ((fun W => Blk W w.heap.size 77 #[.int .i64 (n : Int), .slice E ds.length cap] ∧ Below w.heap.size w W)) W ∧ True) ?_ (fun wq1 hT => ?_)
  · exact ⟨by (first | exact hst | exact ⟨hHeld.1.below hb2, bel_call hHeld.2 hb2⟩ | exact ⟨hHeld.1.below hb3, bel_call hHeld.2 hb3⟩ | exact ⟨(hb4.block w.heap.size (Nat.lt_succ_self _)).trans hHeld.1, hHeld.2.trans (hb4.mono (Nat.le_succ _))⟩ | exact ⟨hHeld.1.below hb5, bel_call hHeld.2 hb5⟩), trivial⟩
  (try clear f0 f1 f2 f3 f4 f5 f6 f7 f8 f9 f10 f11)
  obtain ⟨hHeld, -⟩ := hT
  refine wpAnyH_take (i := 0) (oi := ⟨some 3, _, _, _, _, _⟩) (v := ?_) rfl (by kernel_rfl) (by kernel_rfl) (by kernel_rfl) (fun _ _ _ h => h) (Or.inl ⟨by kernel_rfl, ?_⟩) (by assumption) ?_
  rotate_left
  · (intro wS hSw; (try dsimp only at hSw); obtain ⟨q0, q1, _, _⟩ := hSw.1.two; clear hSw; go_simp; (try with_reducible rfl))
  (try simp only [Act.put, List.setIfInBounds_toArray, List.set_cons_zero, List.set_cons_succ])
  refine wpAnyH_take (i := 1) (oi := ⟨some 4, _, _, _, _, _⟩) (v := ?_) rfl (by kernel_rfl) (by kernel_rfl) (by kernel_rfl) (fun _ _ _ h => h) (Or.inl ⟨by kernel_rfl, ?_⟩) (by assumption) ?_
  rotate_left
  · (intro wS hSw; (try dsimp only at hSw); obtain ⟨q0, q1, _, _⟩ := hSw.1.two; clear hSw; go_simp; (try with_reducible rfl))
  (try simp only [Act.put, List.setIfInBounds_toArray, List.set_cons_zero, List.set_cons_succ])
  refine wpAnyH_take (i := 2) (oi := ⟨some 5, _, _, _, _, _⟩) (v := ?_) rfl (by kernel_rfl) (by kernel_rfl) (by kernel_rfl) (fun _ _ _ h => h) (Or.inl ⟨by kernel_rfl, ?_⟩) (by assumption) ?_
  rotate_left
  · (intro wS hSw; (try dsimp only at hSw); obtain ⟨q0, q1, _, _⟩ := hSw.1.two; clear hSw; go_simp; (try with_reducible rfl))
  (try simp only [Act.put, List.setIfInBounds_toArray, List.set_cons_zero, List.set_cons_succ])
  refine wpAnyH_take (i := 4) (oi := ⟨some 7, _, _, _, _, _⟩) (v := ?_) rfl (by kernel_rfl) (by kernel_rfl) (by kernel_rfl) (fun _ _ _ h => h) (Or.inl ⟨by kernel_rfl, ?_⟩) (by assumption) ?_
  rotate_left
  · (intro wS hSw; (try dsimp only at hSw); obtain ⟨q0, q1, _, _⟩ := hSw.1.two; clear hSw; go_simp; (try with_reducible rfl))
  (try simp only [Act.put, List.setIfInBounds_toArray, List.set_cons_zero, List.set_cons_succ])
  refine wpAnyH_take (i := 5) (oi := ⟨some 8, _, _, _, _, _⟩) (v := ?_) rfl (by kernel_rfl) (by kernel_rfl) (by kernel_rfl) (fun _ _ _ h => h) (Or.inl ⟨by kernel_rfl, ?_⟩) (by assumption) ?_
  rotate_left
  · (intro wS hSw; (try dsimp only at hSw); obtain ⟨q0, q1, _, _⟩ := hSw.1.two; clear hSw; go_simp; (try with_reducible rfl))
  (try simp only [Act.put, List.setIfInBounds_toArray, List.set_cons_zero, List.set_cons_succ])
  refine wpAnyH_ready (rs := [3]) (by kernel_rfl) (by simp) ?_
  refine AllReadyH.cons (o := ⟨some 6, _, _, _, _, _⟩) rfl (fun K hK => ?_) AllReadyH.nil
  go_simp
  (refine (rBytes_any n hun _).mono ?_; rintro e w2 ⟨A2, c2, m2, rfl, hm2, ho2, hb2⟩; have hml2 : m2.length ≤ 10 := (by rw [hm2.out]; exact vb_le10 hun))
  go_wp2_with fail
  refine hK.out _ _ ?_ (fun _ => ?_)
  · ((try dsimp only); (first | exact hst | exact ⟨hHeld.1.below hb2, bel_call hHeld.2 hb2⟩ | exact ⟨hHeld.1.below hb3, bel_call hHeld.2 hb3⟩ | exact ⟨(hb4.block w.heap.size (Nat.lt_succ_self _)).trans hHeld.1, hHeld.2.trans (hb4.mono (Nat.le_succ _))⟩ | exact ⟨hHeld.1.below hb5, bel_call hHeld.2 hb5⟩))
  clear hK K
  (try simp only [Act.put, List.setIfInBounds_toArray, List.set_cons_zero, List.set_cons_succ])
  refine gen0 (T := fun W => ((fun W => Blk W w.heap.size 77 #[.int .i64 (n : Int), .slice E ds.length cap] ∧ Below w.heap.size w W)) W ∧ OwnB W (w.heap.size + 1) 5 A2 c2 m2 ∧ True) ?_ (fun wq2 hT => ?_)
  · exact ⟨by (first | exact hst | exact ⟨hHeld.1.below hb2, bel_call hHeld.2 hb2⟩ | exact ⟨hHeld.1.below hb3, bel_call hHeld.2 hb3⟩ | exact ⟨(hb4.block w.heap.size (Nat.lt_succ_self _)).trans hHeld.1, hHeld.2.trans (hb4.mono (Nat.le_succ _))⟩ | exact ⟨hHeld.1.below hb5, bel_call hHeld.2 hb5⟩), by (first | assumption | exact ho2.more hHeld.1.lt | exact Own.below f0 hb3 | exact ho3.sl | exact ho4.sl | exact ho5.more hHeld.2.size), trivial⟩
  (try clear f0 f1 f2 f3 f4 f5 f6 f7 f8 f9 f10 f11)
  obtain ⟨hHeld, f0, -⟩ := hT
  refine wpAnyH_ready (rs := [6]) (by kernel_rfl) (by simp) ?_
  refine AllReadyH.cons (o := ⟨some 9, _, _, _, _, _⟩) rfl (fun K hK => ?_) AllReadyH.nil
  go_simp
  (refine (rRun_any ds _ (Sl.below h hHeld.2) (by omega) hok).mono ?_; rintro e w3 ⟨A3, c3, m3, rfl, hm3, ho3, hb3⟩; have htl : m2.length + m3.length ≤ 7000 := (by have := HLEN.out; rw [htx.out, ← hm2.out, ← hm3.out] at this; simpa using this))
  go_wp2_with fail
  refine hK.out _ _ ?_ (fun _ => ?_)
  · ((try dsimp only); (first | exact hst | exact ⟨hHeld.1.below hb2, bel_call hHeld.2 hb2⟩ | exact ⟨hHeld.1.below hb3, bel_call hHeld.2 hb3⟩ | exact ⟨(hb4.block w.heap.size (Nat.lt_succ_self _)).trans hHeld.1, hHeld.2.trans (hb4.mono (Nat.le_succ _))⟩ | exact ⟨hHeld.1.below hb5, bel_call hHeld.2 hb5⟩))
  clear hK K
  (try simp only [Act.put, List.setIfInBounds_toArray, List.set_cons_zero, List.set_cons_succ])
  refine gen0 (T := fun W => ((fun W => Blk W w.heap.size 77 #[.int .i64 (n : Int), .slice E ds.length cap] ∧ Below w.heap.size w W)) W ∧ OwnB W (w.heap.size + 1) 5 A2 c2 m2 ∧ SlB W A3 c3 m3 ∧ True) ?_ (fun wq3 hT => ?_)
  · exact ⟨by (first | exact hst | exact ⟨hHeld.1.below hb2, bel_call hHeld.2 hb2⟩ | exact ⟨hHeld.1.below hb3, bel_call hHeld.2 hb3⟩ | exact ⟨(hb4.block w.heap.size (Nat.lt_succ_self _)).trans hHeld.1, hHeld.2.trans (hb4.mono (Nat.le_succ _))⟩ | exact ⟨hHeld.1.below hb5, bel_call hHeld.2 hb5⟩), by (first | assumption | exact ho2.more hHeld.1.lt | exact Own.below f0 hb3 | exact ho3.sl | exact ho4.sl | exact ho5.more hHeld.2.size), by (first | assumption | exact ho2.more hHeld.1.lt | exact Own.below f0 hb3 | exact ho3.sl | exact ho4.sl | exact ho5.more hHeld.2.size), trivial⟩
  (try clear f0 f1 f2 f3 f4 f5 f6 f7 f8 f9 f10 f11)
  obtain ⟨hHeld, f0, f1, -⟩ := hT
  refine wpAnyH_ready (rs := [7]) (by kernel_rfl) (by simp) ?_
  refine AllReadyH.cons (o := ⟨some 10, _, _, _, _, _⟩) rfl (fun K hK => ?_) AllReadyH.nil
  (refine step_bytes 22 5 Try.underlying22 u8_info (by kernel_rfl) (.tmp 6) (.tmp 9) rfl (w.heap.size + 1) A2 c2 m2 rfl f0 A3 c3 m3.length m3 rfl rfl f1 (by omega) hHeld.1.lt ?_; intro A4 c4 m4 w4 hm4 ho4 hb4)
  refine hK.out _ _ ?_ (fun _ => ?_)
  · ((try dsimp only); (first | exact hst | exact ⟨hHeld.1.below hb2, bel_call hHeld.2 hb2⟩ | exact ⟨hHeld.1.below hb3, bel_call hHeld.2 hb3⟩ | exact ⟨(hb4.block w.heap.size (Nat.lt_succ_self _)).trans hHeld.1, hHeld.2.trans (hb4.mono (Nat.le_succ _))⟩ | exact ⟨hHeld.1.below hb5, bel_call hHeld.2 hb5⟩))
  clear hK K
  (try simp only [Act.put, List.setIfInBounds_toArray, List.set_cons_zero, List.set_cons_succ])
  refine gen0 (T := fun W => ((fun W => Blk W w.heap.size 77 #[.int .i64 (n : Int), .slice E ds.length cap] ∧ Below w.heap.size w W)) W ∧ SlB W A4 c4 m4 ∧ True) ?_ (fun wq4 hT => ?_)
  · exact ⟨by (first | exact hst | exact ⟨hHeld.1.below hb2, bel_call hHeld.2 hb2⟩ | exact ⟨hHeld.1.below hb3, bel_call hHeld.2 hb3⟩ | exact ⟨(hb4.block w.heap.size (Nat.lt_succ_self _)).trans hHeld.1, hHeld.2.trans (hb4.mono (Nat.le_succ _))⟩ | exact ⟨hHeld.1.below hb5, bel_call hHeld.2 hb5⟩), by (first | assumption | exact ho2.more hHeld.1.lt | exact Own.below f0 hb3 | exact ho3.sl | exact ho4.sl | exact ho5.more hHeld.2.size), trivial⟩
  (try clear f0 f1 f2 f3 f4 f5 f6 f7 f8 f9 f10 f11)
  obtain ⟨hHeld, f0, -⟩ := hT
  refine wpAnyH_ready (rs := [8]) (by kernel_rfl) (by simp) ?_
  refine AllReadyH.cons (o := ⟨some 11, _, _, _, _, _⟩) rfl (fun K hK => ?_) AllReadyH.nil
  go_simp
  (refine (rFrame_any A4 c4 m4 _ f0 (by rw [hm4.out, List.length_append]; omega)).mono ?_; rintro e w5 ⟨A5, c5, m5, rfl, hm5, ho5, hb5⟩)
  go_wp2_with fail
  refine hK.out _ _ ?_ (fun _ => ?_)
  · ((try dsimp only); (first | exact hst | exact ⟨hHeld.1.below hb2, bel_call hHeld.2 hb2⟩ | exact ⟨hHeld.1.below hb3, bel_call hHeld.2 hb3⟩ | exact ⟨(hb4.block w.heap.size (Nat.lt_succ_self _)).trans hHeld.1, hHeld.2.trans (hb4.mono (Nat.le_succ _))⟩ | exact ⟨hHeld.1.below hb5, bel_call hHeld.2 hb5⟩))
  clear hK K
  (try simp only [Act.put, List.setIfInBounds_toArray, List.set_cons_zero, List.set_cons_succ])
  refine gen0 (T := fun W => ((fun W => Blk W w.heap.size 77 #[.int .i64 (n : Int), .slice E ds.length cap] ∧ Below w.heap.size w W)) W ∧ OwnB W w.heap.size 5 A5 c5 m5 ∧ True) ?_ (fun wq5 hT => ?_)
  · exact ⟨by (first | exact hst | exact ⟨hHeld.1.below hb2, bel_call hHeld.2 hb2⟩ | exact ⟨hHeld.1.below hb3, bel_call hHeld.2 hb3⟩ | exact ⟨(hb4.block w.heap.size (Nat.lt_succ_self _)).trans hHeld.1, hHeld.2.trans (hb4.mono (Nat.le_succ _))⟩ | exact ⟨hHeld.1.below hb5, bel_call hHeld.2 hb5⟩), by (first | assumption | exact ho2.more hHeld.1.lt | exact Own.below f0 hb3 | exact ho3.sl | exact ho4.sl | exact ho5.more hHeld.2.size), trivial⟩
  (try clear f0 f1 f2 f3 f4 f5 f6 f7 f8 f9 f10 f11)
  obtain ⟨hHeld, f0, -⟩ := hT
  refine wpAnyH_take (i := 9) (oi := ⟨some 2, _, _, _, _, _⟩) (v := ?_) rfl (by kernel_rfl) (by kernel_rfl) (by kernel_rfl) (fun _ _ _ h => h) (Or.inl ⟨by kernel_rfl, ?_⟩) (by assumption) ?_
  rotate_left
  · (intro wS hSw; (try dsimp only at hSw); obtain ⟨q0, q1, _, _⟩ := hSw.1.two; clear hSw; go_simp; (try with_reducible rfl))
  (try simp only [Act.put, List.setIfInBounds_toArray, List.set_cons_zero, List.set_cons_succ])
  refine wpAnyH_done (by kernel_rfl) ?_ _
  go_wp2_with fail
  go_ret
  exact ⟨A5, c5, m5, rfl, (show _ = _ from by rw [hm5.out, hm4.out, hm2.out, hm3.out, htx.out]), f0, hHeld.2⟩
end Go.Proofs.Ytjkdnnekagcdhaa

namespace Go.Proofs.Ytjkdnnekagcdhaa
theorem longb_all {l : List CeV} {n : Int} (h : longb (l.map ceOf) n = false) (hn : n ≤ 1000) : (∀ x ∈ l, x.2.2.2.length ≤ 1000000000) ∧ l.length ≤ 1000 := by
  unfold longb at h
  simp only [Bool.or_eq_false_iff, decide_eq_false_iff_not, List.any_eq_false] at h
  refine ⟨fun x hx => ?_, ?_⟩
  · have := h.1 (ceOf x) (List.mem_map_of_mem hx)
    simp at this
    omega
  · have := h.2
    simp at this
    omega
end Go.Proofs.Ytjkdnnekagcdhaa

namespace Go.Proofs.Ytjkdnnekagcdhaa
open Go.RowKit
attribute [local go_sem ↓] Go.wp_at_zero Go.wp_at_succ

/-- the segment that bytes are; an error's number -/
def sgEnd (x : Sg × Rs) : Sg × Nat := if rEnd x.2 ≠ 0 then ((0, []), rEnd x.2) else if schk x.1 ≠ 0 then ((0, []), schk x.1) else (x.1, 0)
def sgRead (s : Rs) : Sg × Rs := ((((rWithin 1048576 s).1 : Int), (takeRun (rWithin 1048576 s).2).1), (takeRun (rWithin 1048576 s).2).2)
def sgTake (b : List UInt8) : Sg × Nat := if (fone b).2 ≠ 0 then ((0, []), (fone b).2) else sgEnd (sgRead ((fone b).1, 0))
theorem End_s {g B : Nat} {s : Rs} {w : World} (hR : IsR w g B s) : Calls Try.prog 36 #[.pointer (some ⟨g, 0, none⟩)] w fun e w' => e = .returned (errv (rEnd s)) ∧ w = w' := by obtain ⟨l, b⟩ := s; exact End_any hR
theorem NewS.setLow {w : World} {base g c : Nat} {A : Option Addr} {m : List CeV} (h : NewS w base A c m) (hg : g < base) (i : Nat) (u : Value) : NewS (w.setCell ⟨g, i, none⟩ u) base A c m := ⟨Own.set1 h.1 hg _, fun x hx => Own.set1 (h.2 x hx) hg _⟩
theorem fone_len (b : List UInt8) : (fone b).1.length ≤ b.length := by
  unfold fone
  split
  · simp
  · split
    · simp
    · unfold ftake
      split
      · simp
      · split
        · simp
        · split
          · simp
          · split
            · simp only [List.length_drop, List.length_take]; omega
            · simp
set_option maxRecDepth 100000 in
set_option maxHeartbeats 4000000 in
theorem STake_any (A : Option Addr) (c : Nat) (b : List UInt8) (w : World) (hs : SlB w A c b) (hl : b.length ≤ 1000000) :
    Calls Try.prog 68 #[.slice A b.length c] w (GivesSgN w (sgTake b)) := by
  have hRes := Blk.new w 75 #[.int .i64 0, .slice none 0 0]
  have hw := below_new w (.cells #[.int .i64 0, .slice none 0 0] 75)
  have hfl := fone_len b
  go_enter Try.func68, Try.ntmps68
  go_wp2_with fail
  refine (FOne_any A c b _ (hs.below hw) (by omega)).mono ?_
  rintro e w1 ⟨A1, c1, m1, rfl, hm1, hs1, hb1⟩
  replace hRes := hRes.below hb1
  replace hw := bel_call hw hb1
  clear hb1
  rcases errv_cases (fone b).2 with ⟨h0, hev⟩ | ⟨k, hk, hke, hev⟩
  · have HT0 := Lib.hid (show sgTake b = sgEnd (sgRead ((fone b).1, 0)) from by unfold sgTake; rw [if_neg (by omega)])
    rw [hev]
    have hm1l : m1.length ≤ 1000000 := by rw [hm1.out]; omega
    clear hev h0 hfl
    go_wp2_with fail
    refine (RNew_any A1 c1 m1 _ hs1).mono ?_
    rintro e w2 ⟨g, rfl, hg, hR, hb2⟩
    have hwl : w.heap.size < w1.heap.size := hRes.lt
    replace hRes := hRes.below hb2
    replace hw := bel_call hw hb2
    have hgl := hR.lt
    have HT1 : Hid (sgTake b = sgEnd (sgRead (m1, 0))) := (show _ = _ from by rw [HT0.out, hm1.out])
    clear HT0 hs1 hb2
    have hR' : IsR w2 g w1.heap.size (m1, 0) := hR
    clear hR
    go_wp2_with fail
    refine (Within_any 1048576 hR').mono ?_
    rintro e w3 ⟨rfl, hR3, hr3⟩
    have hb3 : Below w.heap.size w2 w3 := hr3.below hw.size (by omega)
    replace hRes := hRes.wr hr3 (by omega)
    replace hw := hw.trans hb3
    have hgl3 := hR3.lt
    obtain ⟨f, s3, hf3⟩ : ∃ f s, rWithin 1048576 (m1, 0) = (f, s) := ⟨_, _, rfl⟩
    have hs3l := rWithin_len 1048576 (m1, 0)
    rw [hf3] at hR3 hs3l ⊢
    dsimp only at hR3 hs3l ⊢
    have HF3 := Lib.hid hf3
    have hb31 : w1.heap.size ≤ w3.heap.size := by have := hr3.size; omega
    clear hf3 hR' hr3 hb3 hgl
    go_upto_region 6 with (fail)
    have hbx := below_new w3 (.cells #[.int .i64 (f : Nat), .slice none 0 0] 75)
    have hS4 := Blk.new w3 75 #[.int .i64 (f : Nat), .slice none 0 0]
    have hR4 := hR3.below hbx
    replace hRes := hRes.below hbx
    replace hw := bel_call hw hbx
    have hW4 : w3.heap.size < (w3.alloc (.cells #[.int .i64 (f : Nat), .slice none 0 0] 75)).heap.size := by simp
    clear hR3 hbx
    generalize hWe : w3.alloc (.cells #[.int .i64 (f : Nat), .slice none 0 0] 75) = w4 at *
    clear hWe
    generalize hg7e : w3.heap.size = g7 at *
    clear hg7e
    go_wp2_with fail
    refine (TakeRun_any hR4 (by omega) (by omega)).mono ?_
    rintro e w5 ⟨A5, c5, m5, rfl, hm5, hN5, hR5, hr5⟩
    have hb5 : Below w.heap.size w4 w5 := hr5.below hw.size (by omega)
    replace hRes := hRes.wr hr5 (by omega)
    have hS5 := hS4.wr hr5 (by omega)
    replace hw := hw.trans hb5
    have h45 := hr5.size
    clear hR4 hr5 hb5 hS4
    obtain ⟨x0, x1, xf0, xf1⟩ := hS5.two
    go_upto_region 7 with (fail)
    have hS6 := hS5.set_ 1 (.slice A5 m5.length c5)
    have hR6 := hR5.apart (C := g7) (by omega) (by omega) (Below.setCell (p := ⟨g7, 1, none⟩) (Below.refl _ _) (Nat.le_refl _) (.slice A5 m5.length c5))
    replace hRes := hRes.far (p := ⟨g7, 1, none⟩) (by dsimp only; omega) (.slice A5 m5.length c5)
    replace hw := bel_set hw (p := ⟨g7, 1, none⟩) (by dsimp only; omega) (.slice A5 m5.length c5)
    have hN6 := hN5.setLow (g := g7) (by omega) 1 (.slice A5 m5.length c5)
    have hsz6 : (w5.setCell ⟨g7, 1, none⟩ (.slice A5 m5.length c5)).heap.size = w5.heap.size := by simp
    clear hS5 hR5 hN5 x0 x1 xf0 xf1
    generalize hWe : w5.setCell ⟨g7, 1, none⟩ (.slice A5 m5.length c5) = w6 at *
    clear hWe
    have hS6' : Blk w6 g7 75 #[.int .i64 (f : Nat), .slice A5 m5.length c5] := by simpa using hS6
    clear hS6
    have hE := End_s hR6
    obtain ⟨rn, s5, ht5⟩ : ∃ r s, takeRun s3 = (r, s) := ⟨_, _, rfl⟩
    rw [ht5] at hE hm5
    dsimp only at hE hm5
    have hsr : sgRead (m1, 0) = (((f : Int), rn), s5) := by unfold sgRead; rw [HF3.out]; dsimp only; rw [ht5]
    have HT2 : Hid (sgTake b = sgEnd (((f : Int), rn), s5)) := (show _ = _ from by rw [HT1.out, hsr])
    clear HT1 HF3 ht5 hsr hR6
    go_wp2_with fail
    rcases errv_cases (rEnd s5) with ⟨h0, hev⟩ | ⟨k, hk, hke, hev⟩
    · rw [hev] at hE
      have HE := Lib.hid hE
      have HN0 := Lib.hid h0
      clear hE hev h0
      refine HE.out.mono ?_
      rintro e w7 ⟨rfl, rfl⟩
      obtain ⟨x0, x1, xf0, xf1⟩ := hS6'.two
      go_wp2_with fail
      refine (SCheck_any (f : Nat) m5 _ hN6.slc).mono ?_
      rintro e w8 ⟨rfl, hb8⟩
      replace hRes := hRes.below hb8
      replace hw := bel_call hw hb8
      replace hS6' := hS6'.below hb8
      replace hN6 := hN6.below hb8
      clear hb8 x0 x1 xf0 xf1
      rw [hm5.out]
      rcases errv_cases (schk ((f : Int), rn)) with ⟨h0, hev⟩ | ⟨k, hk, hke, hev⟩
      · have HT := Lib.hid (show sgTake b = (((f : Int), rn), 0) from by rw [HT2.out]; unfold sgEnd; rw [if_neg (by rw [HN0.out]; simp), if_neg (by rw [h0]; simp)])
        rw [hev]
        clear hev h0
        obtain ⟨x0, x1, xf0, xf1⟩ := hS6'.two
        obtain ⟨r0, r1, rf0, rf1⟩ := hRes.two
        go_wp2_with fail
        exact bodyPost_ret (res_sg2 rfl rfl (g := w.heap.size) (hRes.set2 _ _)) rfl ⟨A5, c5, m5, by rw [HT.out]; rfl, (show _ = _ from by rw [HT.out, hm5.out]), NewS.more ((hN6.setLow (g := w.heap.size) (by omega) 0 _).setLow (g := w.heap.size) (by omega) 1 _) (by omega), bel_set (bel_set hw (Nat.le_refl _) _) (Nat.le_refl _) _⟩
      · have HT := Lib.hid (show sgTake b = ((0, []), schk ((f : Int), rn)) from by rw [HT2.out]; unfold sgEnd; rw [if_neg (by rw [HN0.out]; simp), if_pos (by dsimp only; omega)])
        have HEV := Lib.hid hev
        rw [hev]
        clear hev hke
        obtain ⟨r0, r1, rf0, rf1⟩ := hRes.two
        go_wp2_with fail
        exact bodyPost_ret (res_sg2 rfl rfl (g := w.heap.size) (hRes.set2 _ _)) rfl ⟨none, 0, [], by rw [HT.out]; dsimp only; rw [HEV.out]; rfl, (show _ = _ from by rw [HT.out]; rfl), NewS.nil _ _, bel_set (bel_set hw (Nat.le_refl _) _) (Nat.le_refl _) _⟩
    · have HT := Lib.hid (show sgTake b = ((0, []), rEnd s5) from by rw [HT2.out]; unfold sgEnd; rw [if_pos (by dsimp only; omega)])
      have HEV := Lib.hid hev
      rw [hev] at hE
      have HE := Lib.hid hE
      clear hev hke hE
      refine HE.out.mono ?_
      rintro e w7 ⟨rfl, rfl⟩
      obtain ⟨r0, r1, rf0, rf1⟩ := hRes.two
      go_wp2_with fail
      exact bodyPost_ret (res_sg2 rfl rfl (g := w.heap.size) (hRes.set2 _ _)) rfl ⟨none, 0, [], by rw [HT.out]; dsimp only; rw [HEV.out]; rfl, (show _ = _ from by rw [HT.out]; rfl), NewS.nil _ _, bel_set (bel_set hw (Nat.le_refl _) _) (Nat.le_refl _) _⟩
  · have HT := Lib.hid (show sgTake b = ((0, []), (fone b).2) from by unfold sgTake; rw [if_pos (by omega)])
    have HEV := Lib.hid hev
    rw [hev]
    clear hev hke hfl
    obtain ⟨r0, r1, rf0, rf1⟩ := hRes.two
    go_wp2_with fail
    exact bodyPost_ret (res_sg2 rfl rfl (g := w.heap.size) (hRes.set2 _ _)) rfl ⟨none, 0, [], by rw [HT.out]; dsimp only; rw [HEV.out]; rfl, (show _ = _ from by rw [HT.out]; rfl), NewS.nil _ _, bel_set (bel_set hw (Nat.le_refl _) _) (Nat.le_refl _) _⟩
end Go.Proofs.Ytjkdnnekagcdhaa

namespace Go.Proofs.Ytjkdnnekagcdhaa
open Go.RowKit
attribute [local go_sem ↓] Go.wp_at_zero Go.wp_at_succ

theorem rCell_put {c : Ce} (h : cchk c = 0) (rest : List UInt8) : rCell (cbytes c ++ rest, 0) = (c, (rest, 0)) := by
  obtain ⟨h0, h3, h64, hd⟩ := cchk_ok h
  obtain ⟨k, d⟩ := c
  dsimp only at *
  obtain ⟨n, rfl⟩ : ∃ n : Nat, k = n := ⟨k.toNat, by omega⟩
  by_cases h1 : (n : Int) = 1
  · have hn : n = 1 := by omega
    subst hn
    have e1 : rWithin 3 (cbytes (((1 : Nat) : Int), d) ++ rest, 0) = (1, (vb d.length ++ (d ++ rest), 0)) := by
      have := rWithin_vb (k := 1) (m := 3) (by unfold U64; omega) (by omega) (by omega) (vb d.length ++ (d ++ rest))
      rw [← this]
      have hcb : cbytes (((1 : Nat) : Int), d) = 1 :: (vb d.length ++ d) := by simp [cbytes]
      rw [hcb, show vb 1 = [1] from vb_small (by omega)]
      simp
    have e2 : rText 64 (vb d.length ++ (d ++ rest), 0) = (d, (rest, 0)) := rText_tb (by unfold U64; omega) (by omega) rest
    have e3 : rCellRaw (cbytes (((1 : Nat) : Int), d) ++ rest, 0) = ((1, d), (rest, 0)) := by
      unfold rCellRaw
      rw [e1]
      dsimp only
      rw [if_pos rfl, e2]
    unfold rCell
    rw [e3, if_neg (by simp)]
    rfl
  · have hd0 := hd h1
    subst hd0
    have e1 : rWithin 3 (cbytes ((n : Int), []) ++ rest, 0) = (n, (rest, 0)) := by
      have := rWithin_vb (k := n) (m := 3) (by unfold U64; omega) (by omega) (by omega) rest
      rw [← this]
      have hcb : cbytes ((n : Int), []) = [UInt8.ofNat n] := by unfold cbytes; rw [if_neg h1, Int.toNat_natCast]
      rw [hcb, vb_small (by omega)]
    have e3 : rCellRaw (cbytes ((n : Int), []) ++ rest, 0) = (((n : Int), []), (rest, 0)) := by
      unfold rCellRaw
      rw [e1]
      dsimp only
      rw [if_neg (by omega)]
    unfold rCell
    rw [e3, if_neg (by simp)]
def rput (cs : List Ce) : List UInt8 × Nat := if 64 < cs.length then ([], 3) else if rchk cs ≠ 0 then ([], rchk cs) else (vb cs.length ++ prun [] cs, 0)
theorem PutRun_u {E : Option Addr} {cap : Nat} (cs : List CeV) (w : World) (h : SlC w E cap cs) : Calls Try.prog 52 #[.slice none 0 0, .slice E cs.length cap] w (PutsB w (rput (cs.map ceOf))) := by
  refine (PutRun_any (B := none) (f := 0) (l := []) cs w (Sl.none_ _ _) h (by simp)).mono ?_
  rintro e w3 ⟨hb3, ⟨A3, c3, m3, hl3, hr3, rfl, hm3, ho3⟩ | ⟨bad, hbad, hbe, rfl⟩⟩
  · have he : rput (cs.map ceOf) = (vb (cs.map ceOf).length ++ prun [] (cs.map ceOf), 0) := by
      unfold rput
      rw [if_neg (by omega), if_neg (by rw [hr3]; simp)]
    exact ⟨A3, c3, m3, by rw [he]; rfl, (show _ = _ from by rw [he, hm3.out]; simp), ho3, hb3⟩
  · have he : rput (cs.map ceOf) = ([], bad) := by
      unfold rput
      by_cases hl : 64 < (cs.map ceOf).length
      · rw [if_pos hl] at hbe ⊢; rw [hbe]
      · rw [if_neg hl] at hbe ⊢; rw [if_pos (by rw [← hbe]; exact hbad), hbe]
    exact ⟨none, 0, [], by rw [he]; rfl, (show _ = _ from by rw [he]), Own.none_ _ _ _ _, hb3⟩
theorem rput_ok {cs : List Ce} (h : (rput cs).2 = 0) : cs.length ≤ 64 ∧ rchk cs = 0 ∧ (rput cs).1 = vb cs.length ++ prun [] cs := by
  unfold rput at h ⊢
  by_cases h1 : 64 < cs.length
  · rw [if_pos h1] at h; exact absurd h (Nat.succ_ne_zero 2)
  · rw [if_neg h1] at h ⊢
    by_cases h2 : rchk cs ≠ 0
    · rw [if_pos h2] at h; exact absurd h h2
    · rw [if_neg h2]
      exact ⟨by omega, Decidable.byContradiction h2, rfl⟩
def cput (c : Ce) : List UInt8 × Nat := if cchk c ≠ 0 then ([], cchk c) else (cbytes c, 0)
theorem CPut_u {A : Option Addr} {c : Nat} (k : Int) (d : List UInt8) (w : World) (ha : SlB w A c d) : Calls Try.prog 25 #[.slice none 0 0, cv k A d.length c] w (PutsB w (cput (k, d))) := by
  refine (CPut_any (A := A) (E := none) (c := c) (f := 0) (l := []) k d w (Sl.none_ _ _) ha (by simp)).mono ?_
  rintro e w3 ⟨hb3, ⟨A3, c3, m3, h0, rfl, hm3, ho3⟩ | ⟨hbad, rfl⟩⟩
  · have he : cput (k, d) = (cbytes (k, d), 0) := by unfold cput; rw [if_neg (by rw [h0]; simp)]
    exact ⟨A3, c3, m3, by rw [he]; rfl, (show _ = _ from by rw [he, hm3.out]; simp), ho3, hb3⟩
  · have he : cput (k, d) = ([], cchk (k, d)) := by unfold cput; rw [if_pos hbad]
    exact ⟨none, 0, [], by rw [he]; rfl, (show _ = _ from by rw [he]), Own.none_ _ _ _ _, hb3⟩
set_option maxRecDepth 100000 in
theorem errv_eql (n : Nat) (W : World) : (binOp .eql 35 (errv n) .nilIface).run Try.prog W = .ok (.bool (decide (n = 0))) W := by
  rcases errv_cases n with ⟨h0, he⟩ | ⟨k, hk, hke, he⟩
  · subst h0
    rw [he]
    go_simp
  · rw [he, show decide (n = 0) = false from by simp; omega]
    go_simp
set_option maxRecDepth 100000 in
theorem errv_guard (n : Nat) (x : Operand) (W : World) : (eqGuard .eql 35 x (.const .nilIface) (errv n) .nilIface).run Try.prog W = .ok () W := by
  rcases errv_cases n with ⟨h0, he⟩ | ⟨k, hk, hke, he⟩
  · rw [he]
    go_simp
  · rw [he]
    go_simp
theorem End_nilv {g B : Nat} {w : World} (hR : IsR w g B ([], 0)) : Calls Try.prog 36 #[.pointer (some ⟨g, 0, none⟩)] w fun e w' => e = .returned .nilIface ∧ w = w' := End_s hR
theorem Left_s {g B : Nat} {s : Rs} {w : World} (hR : IsR w g B s) : Calls Try.prog 54 #[.pointer (some ⟨g, 0, none⟩)] w fun e w' => e = .returned (.int .i64 (rLeft s : Nat)) ∧ w = w' := by obtain ⟨l, b⟩ := s; exact Left_any hR
theorem takeRun_nil {s : Rs} (h : (takeRun s).2.2 ≠ 0) : (takeRun s).1 = [] := by
  unfold takeRun at h ⊢
  by_cases hb : (tkEnd (tkNew s)).s.2 ≠ 0
  · rw [if_pos hb]
  · rw [if_neg hb] at h; exact absurd h hb
set_option maxRecDepth 100000 in
set_option maxHeartbeats 1000000 in
theorem cback_early1 {E A : Option Addr} {cap c : Nat} {cs : List CeV} {b : List UInt8} (w : World) (h : SlC w E cap cs) (hlong : longb (cs.map ceOf) 80 = true) :
    Calls Try.prog 7 #[.slice E cs.length cap, .slice A b.length c] w fun e w' => e = .returned (.bool true) ∧ Below w.heap.size w w' := by
  go_enter Try.func7, Try.ntmps7
  go_wp2_with fail
  refine (alive05_any _).mono ?_
  rintro e w1 ⟨rfl, hb1⟩
  go_wp2_with fail
  refine (Long_any cs 80 _ (h.below hb1)).mono ?_
  rintro e w2 ⟨rfl, hb2⟩
  rw [hlong]
  have hw := bel_call hb1 hb2
  clear hb1 hb2
  go_wp2_with fail
  go_ret
  exact ⟨rfl, hw⟩
set_option maxRecDepth 100000 in
set_option maxHeartbeats 1000000 in
theorem cback_early2 {E A : Option Addr} {cap c : Nat} {cs : List CeV} {b : List UInt8} (w : World) (h : SlC w E cap cs) (hb : SlB w A c b) (hlong : longb (cs.map ceOf) 80 = false) (hl : 3000 < b.length) :
    Calls Try.prog 7 #[.slice E cs.length cap, .slice A b.length c] w fun e w' => e = .returned (.bool true) ∧ Below w.heap.size w w' := by
  have hm := hb.len_le
  unfold maxLen at hm
  have hlI : (3000 : Int) < (b.length : Int) := by omega
  go_enter Try.func7, Try.ntmps7
  go_wp2_with fail
  refine (alive05_any _).mono ?_
  rintro e w1 ⟨rfl, hb1⟩
  go_wp2_with fail
  refine (Long_any cs 80 _ (h.below hb1)).mono ?_
  rintro e w2 ⟨rfl, hb2⟩
  rw [hlong]
  have hw := bel_call hb1 hb2
  clear hb1 hb2
  go_wp2_with fail
  go_ret
  exact ⟨rfl, hw⟩
set_option maxRecDepth 100000 in
set_option maxHeartbeats 4000000 in
theorem cback_walk {E A : Option Addr} {cap c : Nat} {cs : List CeV} {b : List UInt8} (w : World) (h : SlC w E cap cs) (hb : SlB w A c b) (hlong : longb (cs.map ceOf) 80 = false) (hl : b.length ≤ 3000) :
    Calls Try.prog 7 #[.slice E cs.length cap, .slice A b.length c] w fun e w' => e = .returned (.bool true) ∧ Below w.heap.size w w' := by
  have hlI : (b.length : Int) ≤ 3000 := by omega
  obtain ⟨hd1, hl1⟩ := longb_all hlong (by decide)
  have HD1 := Lib.hid hd1
  clear hd1
  go_enter Try.func7, Try.ntmps7
  go_wp2_with fail
  refine (alive05_any _).mono ?_
  rintro e w1 ⟨rfl, hb1⟩
  go_wp2_with fail
  refine (Long_any cs 80 _ (h.below hb1)).mono ?_
  rintro e w2 ⟨rfl, hb2⟩
  rw [hlong]
  have hw := bel_call hb1 hb2
  clear hb1 hb2
  clear hlong
  go_wp2_with fail
  refine (PutRun_u cs _ (h.below hw)).mono ?_
  rintro e w3 ⟨A3, c3, m3, rfl, hm3, ho3, hb3⟩
  replace hw := bel_call hw hb3
  clear hb3
  obtain ⟨bad, hbad⟩ : ∃ n, (rput (cs.map ceOf)).2 = n := ⟨_, rfl⟩
  rw [hbad]
  have HBAD := Lib.hid hbad
  obtain ⟨dz, hdz⟩ : ∃ dz, dz = decide (bad = 0) := ⟨_, rfl⟩
  have hq := errv_eql bad
  rw [← hdz] at hq
  have hq2 := errv_guard bad
  have HDZ := Lib.hid hdz
  clear hdz
  clear hbad
  go_upto_if 33 with (fail)
  clear hq hq2
  go_cut [] (fun wz => Below w.heap.size w wz)
  case first =>
    cases dz
    case true =>
      have h0 : bad = 0 := of_decide_eq_true HDZ.out.symm
      obtain ⟨h64, hr0, hr1⟩ := rput_ok (HBAD.out.trans h0)
      have hm3' : m3 = vb (cs.map ceOf).length ++ (prun [] (cs.map ceOf) ++ []) := by rw [hm3.out, hr1]; simp
      have htk := takeRun_put (rchk_zero hr0) h64 []
      rw [← hm3'] at htk
      have hml : m3.length ≤ 1000000 := by
        rw [hm3', List.length_append, List.append_nil]
        have h6 := vb_le10 (n := (cs.map ceOf).length) (by omega)
        have h8 := rgo_len (cs.map ceOf) none [] (rchk_zero hr0)
        rw [rgo_prun 64 (cs.map ceOf) [] h64 h64 (rchk_zero hr0) (by simp)] at h8
        omega
      have HTK := Lib.hid htk
      clear htk hm3' hr0 hr1 h64 h0
      go_wp2_with fail
      refine (RNew_any A3 c3 m3 _ ho3.sl).mono ?_
      rintro e w4 ⟨g, rfl, hg, hR, hb4⟩
      have hw4 := bel_call hw hb4
      have hws := hw.size
      clear hb4
      go_wp2_with fail
      refine (TakeRun_any hR (by have := hR.lt; omega) (by dsimp only; omega)).mono ?_
      rintro e w5 ⟨A5, c5, m5, rfl, hm5, hN5, hR5, hr5⟩
      rw [HTK.out] at hm5 hR5
      dsimp only at hm5 hR5
      have hw5 := hw4.trans (hr5.below (B := w.heap.size) hw4.size (by omega))
      have hE := End_s hR5
      rw [show rEnd ([], 0) = 0 from rfl, show errv 0 = .nilIface from rfl] at hE
      have HE := Lib.hid hE
      have hm5l : m5.length ≤ 1000 := by
        have := congrArg List.length hm5.out
        simp only [List.length_map] at this
        omega
      clear hE hr5 hw4 hR hR5
      go_wp2_with fail
      refine HE.out.mono ?_
      rintro e w6 ⟨rfl, rfl⟩
      go_wp2_with fail
      refine (Documents_any cs _ (h.below hw5) (by omega)).mono ?_
      rintro e w7 ⟨A7, c7, m7, rfl, hm7, hs7, hb7⟩
      go_wp2_with fail
      refine (Are_true m5 m7 _ (hN5.slc.below hb7) hs7 (by rw [hm5.out, hm7.out]) (by omega)).mono ?_
      rintro e w8 ⟨rfl, hb8⟩
      go_wp2_with fail
      go_meet
      exact bel_call (bel_call hw5 hb7) hb8
    case false =>
      go_wp2_with fail
      go_meet
      exact hw
  case rest =>
    clear hm3 HBAD ho3 hw
    have hw := hcut
    clear hcut
    go_wp2_with fail
    go_loopw [50] (fun x wr => ∃ k : Nat, k ≤ cs.length ∧ x = .int .i64 k ∧ Below w.heap.size w wr) (fun x w => cs.length - (intOf x).toNat)
    case atStart => exact ⟨0, Nat.zero_le _, rfl, hw⟩
    case round =>
      obtain ⟨k, hk, rfl, hbr⟩ := hrel
      clear hw
      by_cases hlt : k < cs.length
      · obtain ⟨ad, bb, o, rfl, had, hc0, hc1, hsx⟩ := (h.below hbr).at2 hlt
        have hdl := HD1.out _ (List.getElem_mem hlt)
        generalize cs[k] = x at *
        obtain ⟨kk, Ac, cc, d⟩ := x
        dsimp only at *
        have hk0 : (0 : Int) ≤ (k : Int) := by omega
        go_upto_region 14 with (fail)
        have hbx := below_new wr (.cells #[.int .i64 kk, .slice Ac d.length cc] 24)
        have hX := Blk.new wr 24 #[.int .i64 kk, .slice Ac d.length cc]
        have hs4 := hsx.below hbx
        have hw4 := bel_call hbr hbx
        clear hbx hbr hc0 hc1 hsx
        generalize hWe : wr.alloc (.cells #[.int .i64 kk, .slice Ac d.length cc] 24) = w4 at *
        clear hWe
        generalize hge : wr.heap.size = gx at *
        clear hge
        obtain ⟨x0, x1, xf0, xf1⟩ := hX.two
        go_wp2_with fail
        refine (CPut_u kk d _ hs4).mono ?_
        rintro e w5 ⟨A5, c5, m5, rfl, hm5, ho5, hb5⟩
        replace hX := hX.below hb5
        have hs5 := hs4.below hb5
        have hw5 := bel_call hw4 hb5
        clear hs4 hw4 hb5 x0 x1 xf0 xf1
        go_wp2_with fail
        refine (RNew_any A5 c5 m5 _ ho5.sl).mono ?_
        rintro e w6 ⟨g, rfl, hg, hR, hb6⟩
        have hgx := hX.lt
        replace hX := hX.below hb6
        have hs6 := hs5.below hb6
        have hw6 := bel_call hw5 hb6
        have hwz := hw5.size
        clear hs5 hw5 hb6
        have hge2 : gx ≠ g := by omega
        have hst : Wr w6 w6.drew g := (Wr.refl _ _).drew
        have hbelow : Hid (∀ W, Wr w6 W g → Below w.heap.size w W) := (show ∀ W, _ → _ from fun W hW => hw6.trans (hW.below (B := w.heap.size) hw6.size (by omega)))
        go_upto_region 16 with (fail)
        rcases errv_cases (cput (kk, d)).2 with ⟨h0, hev⟩ | ⟨q, hq, hq2, hev⟩
        · have hck : cchk (kk, d) = 0 := by
            unfold cput at h0
            by_cases hc : cchk (kk, d) = 0
            · exact hc
            · rw [if_pos hc] at h0; exact h0
          have hm5' : m5 = cbytes (kk, d) ++ [] := by
            rw [hm5.out]
            unfold cput
            rw [if_neg (by rw [hck]; simp), List.append_nil]
          have htk : rCell (m5, 0) = ((kk, d), ([], 0)) := by rw [hm5', rCell_put hck]
          have hd64 := (cchk_ok hck).2.2.1
          dsimp only at hd64
          have hm5l : m5.length ≤ 1000 := by
            rw [hm5', List.append_nil]
            unfold cbytes
            split
            · have := vb_le10 (n := d.length) (by omega)
              simp only [List.length_cons, List.length_append]
              omega
            · simp
          have HTK := Lib.hid htk
          have hRl : w5.heap.size ≤ w6.heap.size := by have := hR.lt; omega
          rw [hev]
          clear hev h0 htk hm5' hck
          refine wp_region_held_drew (S := (fun W => Wr w6 W g)) (by kernel_rfl) ?_ (fun hHeld => ?_)
          · exact hst
          refine gen0 (T := fun W => ((fun W => Wr w6 W g)) W ∧ IsR W g w5.heap.size (m5, 0) ∧ True) ?_ (fun wq1 hT => ?_)
          · exact ⟨by (first | exact hst | exact hHeld | exact hHeld.trans hr7 | exact hHeld.call hb8), by (first | assumption | exact hR | exact ho7.more hHeld.size | exact hR7 | exact f0.below hb8 | exact f1.below hb8), trivial⟩
          (try clear f0 f1 f2 f3 f4 f5 f6 f7 f8 f9 f10 f11)
          obtain ⟨hHeld, f0, -⟩ := hT
          refine wpAnyH_take (i := 0) (oi := ⟨some 61, _, _, _, _, _⟩) (v := ?_) rfl (by kernel_rfl) (by kernel_rfl) (by kernel_rfl) (fun _ _ _ h => h) (Or.inl ⟨by kernel_rfl, ?_⟩) (by assumption) ?_
          rotate_left
          · (intro wS hSw; (try dsimp only at hSw); obtain ⟨x0, x1, _, _⟩ := (hX.wr hSw hge2).two; clear hSw; go_simp; (try with_reducible rfl))
          (try simp only [Act.put, List.setIfInBounds_toArray, List.set_cons_zero, List.set_cons_succ])
          refine wpAnyH_take (i := 1) (oi := ⟨some 62, _, _, _, _, _⟩) (v := ?_) rfl (by kernel_rfl) (by kernel_rfl) (by kernel_rfl) (fun _ _ _ h => h) (Or.inl ⟨by kernel_rfl, ?_⟩) (by assumption) ?_
          rotate_left
          · (intro wS hSw; (try dsimp only at hSw); obtain ⟨x0, x1, _, _⟩ := (hX.wr hSw hge2).two; clear hSw; go_simp; (try with_reducible rfl))
          (try simp only [Act.put, List.setIfInBounds_toArray, List.set_cons_zero, List.set_cons_succ])
          refine wpAnyH_take (i := 2) (oi := ⟨some 63, _, _, _, _, _⟩) (v := ?_) rfl (by kernel_rfl) (by kernel_rfl) (by kernel_rfl) (fun _ _ _ h => h) (Or.inl ⟨by kernel_rfl, ?_⟩) (by assumption) ?_
          rotate_left
          · (intro wS hSw; (try dsimp only at hSw); obtain ⟨x0, x1, _, _⟩ := (hX.wr hSw hge2).two; clear hSw; go_simp; (try with_reducible rfl))
          (try simp only [Act.put, List.setIfInBounds_toArray, List.set_cons_zero, List.set_cons_succ])
          refine wpAnyH_take (i := 3) (oi := ⟨some 64, _, _, _, _, _⟩) (v := ?_) rfl (by kernel_rfl) (by kernel_rfl) (by kernel_rfl) (fun _ _ _ h => h) (Or.inl ⟨by kernel_rfl, ?_⟩) (by assumption) ?_
          rotate_left
          · (intro wS hSw; (try dsimp only at hSw); obtain ⟨x0, x1, _, _⟩ := (hX.wr hSw hge2).two; clear hSw; go_simp; (try with_reducible rfl))
          (try simp only [Act.put, List.setIfInBounds_toArray, List.set_cons_zero, List.set_cons_succ])
          refine wpAnyH_take (i := 5) (oi := ⟨some 66, _, _, _, _, _⟩) (v := ?_) rfl (by kernel_rfl) (by kernel_rfl) (by kernel_rfl) (fun _ _ _ h => h) (Or.inl ⟨by kernel_rfl, ?_⟩) (by assumption) ?_
          rotate_left
          · (intro wS hSw; (try dsimp only at hSw); obtain ⟨x0, x1, _, _⟩ := (hX.wr hSw hge2).two; clear hSw; go_simp; (try with_reducible rfl))
          (try simp only [Act.put, List.setIfInBounds_toArray, List.set_cons_zero, List.set_cons_succ])
          refine wpAnyH_ready (rs := [4]) (by kernel_rfl) (by simp) ?_
          refine AllReadyH.cons (o := ⟨some 65, _, _, _, _, _⟩) rfl (fun K hK => ?_) AllReadyH.nil
          go_simp
          (refine (CTake_any f0 (Nat.le_trans hRl hHeld.size) (by dsimp only; omega)).mono ?_; rw [HTK.out]; rintro e w7 ⟨A7, c7, m7, rfl, hm7, ho7, hR7, hr7⟩; dsimp only at hm7 hR7)
          go_wp2_with fail
          refine hK.out _ _ ?_ (fun _ => ?_)
          · ((try dsimp only); (first | exact hst | exact hHeld | exact hHeld.trans hr7 | exact hHeld.call hb8))
          clear hK K
          (try simp only [Act.put, List.setIfInBounds_toArray, List.set_cons_zero, List.set_cons_succ])
          refine gen0 (T := fun W => ((fun W => Wr w6 W g)) W ∧ OwnB W w6.heap.size 5 A7 c7 m7 ∧ IsR W g w5.heap.size ([], 0) ∧ True) ?_ (fun wq2 hT => ?_)
          · exact ⟨by (first | exact hst | exact hHeld | exact hHeld.trans hr7 | exact hHeld.call hb8), by (first | assumption | exact hR | exact ho7.more hHeld.size | exact hR7 | exact f0.below hb8 | exact f1.below hb8), by (first | assumption | exact hR | exact ho7.more hHeld.size | exact hR7 | exact f0.below hb8 | exact f1.below hb8), trivial⟩
          (try clear f0 f1 f2 f3 f4 f5 f6 f7 f8 f9 f10 f11)
          obtain ⟨hHeld, f0, f1, -⟩ := hT
          refine wpAnyH_ready (rs := [6]) (by kernel_rfl) (by simp) ?_
          refine AllReadyH.cons (o := ⟨some 67, _, _, _, _, _⟩) rfl (fun K hK => ?_) AllReadyH.nil
          go_simp
          (refine (CSame_any kk kk m7 d _ f0.sl (SlB.wrR hs6 hR hHeld)).mono ?_; rintro e w8 ⟨rfl, hb8⟩; rw [show same (kk, m7) (kk, d) = true from by rw [hm7.out]; exact same_iff.2 rfl])
          go_wp2_with fail
          refine hK.out _ _ ?_ (fun _ => ?_)
          · ((try dsimp only); (first | exact hst | exact hHeld | exact hHeld.trans hr7 | exact hHeld.call hb8))
          clear hK K
          (try simp only [Act.put, List.setIfInBounds_toArray, List.set_cons_zero, List.set_cons_succ])
          refine gen0 (T := fun W => ((fun W => Wr w6 W g)) W ∧ IsR W g w5.heap.size ([], 0) ∧ True) ?_ (fun wq3 hT => ?_)
          · exact ⟨by (first | exact hst | exact hHeld | exact hHeld.trans hr7 | exact hHeld.call hb8), by (first | assumption | exact hR | exact ho7.more hHeld.size | exact hR7 | exact f0.below hb8 | exact f1.below hb8), trivial⟩
          (try clear f0 f1 f2 f3 f4 f5 f6 f7 f8 f9 f10 f11)
          obtain ⟨hHeld, f0, -⟩ := hT
          refine wpAnyH_take (i := 7) (oi := ⟨some 68, _, _, _, _, _⟩) (v := ?_) rfl (by kernel_rfl) (by kernel_rfl) (by kernel_rfl) (fun _ _ _ h => h) (Or.inl ⟨by kernel_rfl, ?_⟩) (by assumption) ?_
          rotate_left
          · (intro wS hSw; (try dsimp only at hSw); obtain ⟨x0, x1, _, _⟩ := (hX.wr hSw hge2).two; clear hSw; go_simp; (try with_reducible rfl))
          (try simp only [Act.put, List.setIfInBounds_toArray, List.set_cons_zero, List.set_cons_succ])
          refine wpAnyH_take (i := 8) (oi := ⟨some 69, _, _, _, _, _⟩) (v := ?_) rfl (by kernel_rfl) (by kernel_rfl) (by kernel_rfl) (fun _ _ _ h => h) (Or.inl ⟨by kernel_rfl, ?_⟩) (by assumption) ?_
          rotate_left
          · (intro wS hSw; (try dsimp only at hSw); obtain ⟨x0, x1, _, _⟩ := (hX.wr hSw hge2).two; clear hSw; go_simp; (try with_reducible rfl))
          (try simp only [Act.put, List.setIfInBounds_toArray, List.set_cons_zero, List.set_cons_succ])
          refine wpAnyH_take (i := 9) (oi := ⟨some 70, _, _, _, _, _⟩) (v := ?_) rfl (by kernel_rfl) (by kernel_rfl) (by kernel_rfl) (fun _ _ _ h => h) (Or.inl ⟨by kernel_rfl, ?_⟩) (by assumption) ?_
          rotate_left
          · (intro wS hSw; (try dsimp only at hSw); obtain ⟨x0, x1, _, _⟩ := (hX.wr hSw hge2).two; clear hSw; go_simp; (try with_reducible rfl))
          (try simp only [Act.put, List.setIfInBounds_toArray, List.set_cons_zero, List.set_cons_succ])
          refine wpAnyH_ready (rs := [10]) (by kernel_rfl) (by simp) ?_
          refine AllReadyH.cons (o := ⟨some 71, _, _, _, _, _⟩) rfl (fun K hK => ?_) AllReadyH.nil
          go_simp
          (refine (End_nilv f0).mono ?_; rintro e w9 ⟨rfl, rfl⟩)
          go_wp2_with fail
          refine hK.out _ _ ?_ (fun _ => ?_)
          · ((try dsimp only); (first | exact hst | exact hHeld | exact hHeld.trans hr7 | exact hHeld.call hb8))
          clear hK K
          (try simp only [Act.put, List.setIfInBounds_toArray, List.set_cons_zero, List.set_cons_succ])
          refine gen0 (T := fun W => ((fun W => Wr w6 W g)) W ∧ IsR W g w5.heap.size ([], 0) ∧ True) ?_ (fun wq4 hT => ?_)
          · exact ⟨by (first | exact hst | exact hHeld | exact hHeld.trans hr7 | exact hHeld.call hb8), by (first | assumption | exact hR | exact ho7.more hHeld.size | exact hR7 | exact f0.below hb8 | exact f1.below hb8), trivial⟩
          (try clear f0 f1 f2 f3 f4 f5 f6 f7 f8 f9 f10 f11)
          obtain ⟨hHeld, f0, -⟩ := hT
          refine wpAnyH_take (i := 11) (oi := ⟨some 72, _, _, _, _, _⟩) (v := ?_) rfl (by kernel_rfl) (by kernel_rfl) (by kernel_rfl) (fun _ _ _ h => h) (Or.inl ⟨by kernel_rfl, ?_⟩) (by assumption) ?_
          rotate_left
          · (intro wS hSw; (try dsimp only at hSw); obtain ⟨x0, x1, _, _⟩ := (hX.wr hSw hge2).two; clear hSw; go_simp; (try with_reducible rfl))
          (try simp only [Act.put, List.setIfInBounds_toArray, List.set_cons_zero, List.set_cons_succ])
          refine wpAnyH_take (i := 12) (oi := ⟨some 73, _, _, _, _, _⟩) (v := ?_) rfl (by kernel_rfl) (by kernel_rfl) (by kernel_rfl) (fun _ _ _ h => h) (Or.inl ⟨by kernel_rfl, ?_⟩) (by assumption) ?_
          rotate_left
          · (intro wS hSw; (try dsimp only at hSw); obtain ⟨x0, x1, _, _⟩ := (hX.wr hSw hge2).two; clear hSw; go_simp; (try with_reducible rfl))
          (try simp only [Act.put, List.setIfInBounds_toArray, List.set_cons_zero, List.set_cons_succ])
          refine wpAnyH_take (i := 13) (oi := ⟨some 74, _, _, _, _, _⟩) (v := ?_) rfl (by kernel_rfl) (by kernel_rfl) (by kernel_rfl) (fun _ _ _ h => h) (Or.inl ⟨by kernel_rfl, ?_⟩) (by assumption) ?_
          rotate_left
          · (intro wS hSw; (try dsimp only at hSw); obtain ⟨x0, x1, _, _⟩ := (hX.wr hSw hge2).two; clear hSw; go_simp; (try with_reducible rfl))
          (try simp only [Act.put, List.setIfInBounds_toArray, List.set_cons_zero, List.set_cons_succ])
          refine wpAnyH_done (by kernel_rfl) ?_ _
          go_wp2_with fail
          go_roundw
          case rel => exact ⟨k + 1, hlt, by go_num, hbelow.out _ hHeld⟩
          case measure => simp [intOf]; omega
        · rw [hev]
          clear hev hq2
          refine wp_region_held_drew (S := (fun W => Wr w6 W g)) (by kernel_rfl) ?_ (fun hHeld => ?_)
          · exact hst
          refine gen0 (T := fun W => ((fun W => Wr w6 W g)) W ∧ True) ?_ (fun wq1 hT => ?_)
          · exact ⟨by (first | exact hst | exact hHeld), trivial⟩
          (try clear f0 f1 f2 f3 f4 f5 f6 f7 f8 f9 f10 f11)
          obtain ⟨hHeld, -⟩ := hT
          refine wpAnyH_take (i := 0) (oi := ⟨some 61, _, _, _, _, _⟩) (v := ?_) rfl (by kernel_rfl) (by kernel_rfl) (by kernel_rfl) (fun _ _ _ h => h) (Or.inl ⟨by kernel_rfl, ?_⟩) (by assumption) ?_
          rotate_left
          · (intro wS hSw; (try dsimp only at hSw); clear hSw; go_simp; (try with_reducible rfl))
          (try simp only [Act.put, List.setIfInBounds_toArray, List.set_cons_zero, List.set_cons_succ])
          refine wpAnyH_take (i := 1) (oi := ⟨some 62, _, _, _, _, _⟩) (v := ?_) rfl (by kernel_rfl) (by kernel_rfl) (by kernel_rfl) (fun _ _ _ h => h) (Or.inl ⟨by kernel_rfl, ?_⟩) (by assumption) ?_
          rotate_left
          · (intro wS hSw; (try dsimp only at hSw); clear hSw; go_simp; (try with_reducible rfl))
          (try simp only [Act.put, List.setIfInBounds_toArray, List.set_cons_zero, List.set_cons_succ])
          refine wpAnyH_take (i := 2) (oi := ⟨some 63, _, _, _, _, _⟩) (v := ?_) rfl (by kernel_rfl) (by kernel_rfl) (by kernel_rfl) (fun _ _ _ h => h) (Or.inl ⟨by kernel_rfl, ?_⟩) (by assumption) ?_
          rotate_left
          · (intro wS hSw; (try dsimp only at hSw); clear hSw; go_simp; (try with_reducible rfl))
          (try simp only [Act.put, List.setIfInBounds_toArray, List.set_cons_zero, List.set_cons_succ])
          refine wpAnyH_take (i := 3) (oi := ⟨some 64, _, _, _, _, _⟩) (v := undef) rfl (by kernel_rfl) (by kernel_rfl) (by kernel_rfl) (fun _ _ _ h => h) (Or.inr ⟨by kernel_rfl, rfl⟩) (by assumption) ?_
          (try simp only [Act.put, List.setIfInBounds_toArray, List.set_cons_zero, List.set_cons_succ])
          refine wpAnyH_take (i := 4) (oi := ⟨some 65, _, _, _, _, _⟩) (v := undef) rfl (by kernel_rfl) (by kernel_rfl) (by kernel_rfl) (fun _ _ _ h => h) (Or.inr ⟨by kernel_rfl, rfl⟩) (by assumption) ?_
          (try simp only [Act.put, List.setIfInBounds_toArray, List.set_cons_zero, List.set_cons_succ])
          refine wpAnyH_take (i := 5) (oi := ⟨some 66, _, _, _, _, _⟩) (v := undef) rfl (by kernel_rfl) (by kernel_rfl) (by kernel_rfl) (fun _ _ _ h => h) (Or.inr ⟨by kernel_rfl, rfl⟩) (by assumption) ?_
          (try simp only [Act.put, List.setIfInBounds_toArray, List.set_cons_zero, List.set_cons_succ])
          refine wpAnyH_take (i := 6) (oi := ⟨some 67, _, _, _, _, _⟩) (v := undef) rfl (by kernel_rfl) (by kernel_rfl) (by kernel_rfl) (fun _ _ _ h => h) (Or.inr ⟨by kernel_rfl, rfl⟩) (by assumption) ?_
          (try simp only [Act.put, List.setIfInBounds_toArray, List.set_cons_zero, List.set_cons_succ])
          refine wpAnyH_take (i := 7) (oi := ⟨some 68, _, _, _, _, _⟩) (v := undef) rfl (by kernel_rfl) (by kernel_rfl) (by kernel_rfl) (fun _ _ _ h => h) (Or.inr ⟨by kernel_rfl, rfl⟩) (by assumption) ?_
          (try simp only [Act.put, List.setIfInBounds_toArray, List.set_cons_zero, List.set_cons_succ])
          refine wpAnyH_take (i := 8) (oi := ⟨some 69, _, _, _, _, _⟩) (v := undef) rfl (by kernel_rfl) (by kernel_rfl) (by kernel_rfl) (fun _ _ _ h => h) (Or.inr ⟨by kernel_rfl, rfl⟩) (by assumption) ?_
          (try simp only [Act.put, List.setIfInBounds_toArray, List.set_cons_zero, List.set_cons_succ])
          refine wpAnyH_take (i := 9) (oi := ⟨some 70, _, _, _, _, _⟩) (v := undef) rfl (by kernel_rfl) (by kernel_rfl) (by kernel_rfl) (fun _ _ _ h => h) (Or.inr ⟨by kernel_rfl, rfl⟩) (by assumption) ?_
          (try simp only [Act.put, List.setIfInBounds_toArray, List.set_cons_zero, List.set_cons_succ])
          refine wpAnyH_take (i := 10) (oi := ⟨some 71, _, _, _, _, _⟩) (v := undef) rfl (by kernel_rfl) (by kernel_rfl) (by kernel_rfl) (fun _ _ _ h => h) (Or.inr ⟨by kernel_rfl, rfl⟩) (by assumption) ?_
          (try simp only [Act.put, List.setIfInBounds_toArray, List.set_cons_zero, List.set_cons_succ])
          refine wpAnyH_take (i := 11) (oi := ⟨some 72, _, _, _, _, _⟩) (v := undef) rfl (by kernel_rfl) (by kernel_rfl) (by kernel_rfl) (fun _ _ _ h => h) (Or.inr ⟨by kernel_rfl, rfl⟩) (by assumption) ?_
          (try simp only [Act.put, List.setIfInBounds_toArray, List.set_cons_zero, List.set_cons_succ])
          refine wpAnyH_take (i := 12) (oi := ⟨some 73, _, _, _, _, _⟩) (v := undef) rfl (by kernel_rfl) (by kernel_rfl) (by kernel_rfl) (fun _ _ _ h => h) (Or.inr ⟨by kernel_rfl, rfl⟩) (by assumption) ?_
          (try simp only [Act.put, List.setIfInBounds_toArray, List.set_cons_zero, List.set_cons_succ])
          refine wpAnyH_take (i := 13) (oi := ⟨some 74, _, _, _, _, _⟩) (v := ?_) rfl (by kernel_rfl) (by kernel_rfl) (by kernel_rfl) (fun _ _ _ h => h) (Or.inl ⟨by kernel_rfl, ?_⟩) (by assumption) ?_
          rotate_left
          · (intro wS hSw; (try dsimp only at hSw); clear hSw; go_simp; (try with_reducible rfl))
          (try simp only [Act.put, List.setIfInBounds_toArray, List.set_cons_zero, List.set_cons_succ])
          refine wpAnyH_done (by kernel_rfl) ?_ _
          go_wp2_with fail
          go_roundw
          case rel => exact ⟨k + 1, hlt, by go_num, hbelow.out _ hHeld⟩
          case measure => simp [intOf]; omega
      · go_wp2_with fail
        refine (RNew_any A c b _ (hb.below hbr)).mono ?_
        rintro e w4 ⟨g, rfl, hg, hR, hb4⟩
        have hw4 := bel_call hbr hb4
        have hws := hbr.size
        clear hb4 hlt hbr
        go_wp2_with fail
        refine (TakeRun_any hR (by have := hR.lt; omega) (by dsimp only; omega)).mono ?_
        rintro e w5 ⟨A5, c5, m5, rfl, hm5, hN5, hR5, hr5⟩
        have hw5 := hw4.trans (hr5.below (B := w.heap.size) hw4.size (by omega))
        obtain ⟨ls, s5, hls⟩ : ∃ l s, takeRun (b, 0) = (l, s) := ⟨_, _, rfl⟩
        rw [hls] at hm5 hR5
        dsimp only at hm5 hR5
        have hE := Err_s hR5
        have HLS := Lib.hid hls
        clear hr5 hw4 hR hls
        go_wp2_with fail
        rcases errv_cases s5.2 with ⟨h0, hev⟩ | ⟨q, hq, hq2, hev⟩
        · obtain ⟨hbe, hok, h64⟩ := takeRun_back (l := b) (by omega) HLS.out h0
          have hrp : rput ls = (vb ls.length ++ prun [] ls, 0) := by
            unfold rput
            rw [if_neg (by omega), if_neg (by rw [rchk_ok hok]; simp)]
          rw [hev] at hE
          have HE := Lib.hid hE
          have hbl : b.length = (vb ls.length ++ prun [] ls).length + s5.1.length := by
            rw [← List.length_append, List.append_assoc, ← hbe]
          have hbt : b.take (vb ls.length ++ prun [] ls).length = vb ls.length ++ prun [] ls := by
            have : b = (vb ls.length ++ prun [] ls) ++ s5.1 := by rw [List.append_assoc]; exact hbe
            rw [this, List.take_left]
          have HRP := Lib.hid hrp
          generalize vb ls.length ++ prun [] ls = tx at *
          have HBT := Lib.hid hbt
          have hLf := Left_s hR5
          rw [show rLeft s5 = s5.1.length from by unfold rLeft; rw [if_pos h0]] at hLf
          have HLF := Lib.hid (fun (W : World) (hW : Below w5.heap.size w5 W) => Left_s (hR5.below hW))
          have hrl : rLeft s5 = s5.1.length := by unfold rLeft; rw [if_pos h0]
          rw [hrl] at HLF
          have hsub : (b.length : Int) - (s5.1.length : Int) = (tx.length : Int) := by omega
          have hc1 := hb.2.1
          have hmx := hb.len_le
          unfold maxLen at hmx
          clear hbe hE hev h0 hbt hrp hLf hrl
          refine HE.out.mono ?_
          rintro e w6 ⟨rfl, rfl⟩
          go_wp2_with fail
          refine (PutRun_u m5 _ hN5.slc).mono ?_
          rintro e w7 ⟨A7, c7, m7, rfl, hm7, ho7, hb7⟩
          rw [hm5.out, HRP.out] at hm7 ⊢
          dsimp only at hm7 ⊢
          rw [show errv 0 = .nilIface from rfl]
          go_wp2_with fail
          refine (HLF.out _ hb7).mono ?_
          rintro e w8 ⟨rfl, rfl⟩
          go_wp2_with fail
          have hbT : SlB w7 A c tx := by
            have := Sl.takeB (hb.below (bel_call hw5 hb7)) tx.length
            rw [HBT.out] at this
            exact this
          have heq : (m7 == tx) = true := by rw [hm7.out]; simp
          have HEQ := Lib.hid heq
          clear heq
          refine (nBytes_any A7 A c7 c m7 tx _ ho7.sl hbT).mono ?_
          rintro e w9 ⟨rfl, rfl⟩
          rw [HEQ.out]
          go_wp2_with fail
          go_ret
          exact ⟨rfl, bel_call hw5 hb7⟩
        · have hnil : ls = [] := by
            have := takeRun_nil (s := (b, 0)) (by rw [HLS.out]; dsimp only; omega)
            rw [HLS.out] at this
            exact this
          have hl0 : ((m5.length : Int) == 0) = true := by
            have := congrArg List.length hm5.out
            rw [hnil] at this
            simp at this
            rw [this]; rfl
          rw [hev] at hE
          have HE := Lib.hid hE
          clear hE hev hq2 hnil
          refine HE.out.mono ?_
          rintro e w6 ⟨rfl, rfl⟩
          go_wp2_with fail
          go_ret
          exact ⟨rfl, hw5⟩
theorem cback_all {E A : Option Addr} {cap c : Nat} {cs : List CeV} {b : List UInt8} (w : World) (h : SlC w E cap cs) (_ : ∀ x ∈ cs, I64 x.1) (hb : SlB w A c b) :
    Calls Try.prog 7 #[.slice E cs.length cap, .slice A b.length c] w fun e w' => e = .returned (.bool true) ∧ Below w.heap.size w w' := by
  cases hl : longb (cs.map ceOf) 80
  · rcases Nat.lt_or_ge 3000 b.length with hl2 | hl2
    · exact cback_early2 w h hb hl hl2
    · exact cback_walk w h hb hl hl2
  · exact cback_early1 w h hl
end Go.Proofs.Ytjkdnnekagcdhaa
