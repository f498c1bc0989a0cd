/- WHAT IT HOLDS: the document's Slice of segments, walked. | WHAT IT HOLDS: Put of segments, and the law's fixed fact, walked. | WHAT IT HOLDS: the document's Take and Prefix, and lists side by side, walked. | WHAT IT HOLDS: lists of texts side by side; frame.All, walked. | WHAT IT HOLDS: the law FrameTakes, walked. | WHAT IT HOLDS: the document's Put of segments, and a segment's cell, walked. | WHAT IT HOLDS: what it says that cells are not too long, plainly. -/
import Derived.Test.YtjkdnnekagcdhaaSegmentBackG18
import Derived.Test.YtjkdnnekagcdhaaSegmentBackG17
namespace Go.Proofs.Ytjkdnnekagcdhaa
open Go.RowKit
attribute [local go_sem ↓] Go.wp_at_zero Go.wp_at_succ

/-- a boxed segment and the result's block -/
structure RK (w W : World) (f : Int) (E : Option Addr) (n cap : Nat) : Prop where
  bel : Below w.heap.size w W
  a : Blk W w.heap.size 77 #[.int .i64 f, .slice E n cap]
  r : Blk W (w.heap.size + 1) 77 #[.int .i64 0, .slice none 0 0]
section
variable {w W W' : World} {f : Int} {E : Option Addr} {n cap : Nat}
theorem RK.below (h : RK w W f E n cap) (hb : Below W.heap.size W W') : RK w W' f E n cap := ⟨bel_call h.bel hb, h.a.below hb, h.r.below hb⟩
theorem RK.drew (h : RK w W f E n cap) : RK w W.drew f E n cap := ⟨h.bel.drew, h.a.drew, h.r.drew⟩
theorem RK.far (h : RK w W f E n cap) {g i : Nat} (hg : w.heap.size + 1 < g) (u : Value) : RK w (W.setCell ⟨g, i, none⟩ u) f E n cap :=
  ⟨bel_set h.bel (by show w.heap.size ≤ g; omega) u, h.a.far (by show w.heap.size ≠ g; omega) u, h.r.far (by show w.heap.size + 1 ≠ g; omega) u⟩
theorem RK.apart (h : RK w W f E n cap) {B : Nat} (hB : w.heap.size + 1 < B) (hb : Below B W W') : RK w W' f E n cap :=
  ⟨h.bel.trans (hb.mono (by omega)), (hb.block _ (by omega)).trans h.a, (hb.block _ (by omega)).trans h.r⟩
end
end Go.Proofs.Ytjkdnnekagcdhaa

namespace Go.Proofs.Ytjkdnnekagcdhaa
open Go.RowKit
attribute [local go_sem ↓] Go.wp_at_zero Go.wp_at_succ

theorem PutRun_ok {E B : Option Addr} {cap b : Nat} {l : List UInt8} (cs : List CeV) (w : World) (hs : SlB w B b l) (h : SlC w E cap cs) (hl : l.length ≤ 1000000) (h1 : cs.length ≤ 64) (h2 : rchk (cs.map ceOf) = 0) :
    Calls Try.prog 52 #[.slice B l.length b, .slice E cs.length cap] w fun e w' => ∃ A c m, e = .returned (.tuple #[.slice A (List.length m) c, .nilIface]) ∧ Hid (m = l ++ (vb cs.length ++ prun [] (cs.map ceOf))) ∧ OwnB w' w.heap.size 5 A c m ∧ Below w.heap.size w w' := by
  refine (PutRun_any cs w hs h hl).mono ?_
  rintro e w3 ⟨hb3, ⟨A3, c3, m3, hl3, hr3, rfl, hm3, ho3⟩ | ⟨bad, hbad, hbe, rfl⟩⟩
  · exact ⟨A3, c3, m3, rfl, (show _ = _ from by rw [hm3.out]; simp), ho3, hb3⟩
  · rw [if_neg (by simp; omega), h2] at hbe
    exact absurd hbe hbad
def stxt (s : Sg) : List UInt8 := vb s.1.toNat ++ (vb s.2.length ++ prun [] s.2)
theorem stxt_len {s : Sg} (h : schk s = 0) : (stxt s).length ≤ 7000 := by
  obtain ⟨h0, h1, h2, h3, h4⟩ := schk_ok h
  have h5 := rchk_zero h4
  have h6 := vb_le10 (n := s.1.toNat) (by omega)
  have h7 := vb_le10 (n := s.2.length) (by omega)
  have h8 := rgo_len s.2 none [] h5
  rw [rgo_prun 64 s.2 [] h2 h2 h5 (by simp)] at h8
  unfold stxt
  simp only [List.length_append]
  omega
def sput (s : Sg) : List UInt8 × Nat := if schk s ≠ 0 then ([], schk s) else fput [] (stxt s)
set_option maxRecDepth 100000 in
set_option maxHeartbeats 2000000 in
theorem SPut_any {E : Option Addr} {cap : Nat} (f : Int) (cs : List CeV) (w : World) (h : SlC w E cap cs) :
    Calls Try.prog 44 #[cv f E cs.length cap] w (PutsB w (sput (f, cs.map ceOf))) := by
  have hB := Blk.new w 75 #[.int .i64 f, .slice E cs.length cap]
  have hbw := below_new w (.cells #[.int .i64 f, .slice E cs.length cap] 75)
  obtain ⟨a0, a1, _, _⟩ := hB.two
  go_enter Try.func44, Try.ntmps44
  go_wp2_with fail
  refine (SCheck_any f cs _ (h.below hbw)).mono ?_
  rintro e w1 ⟨rfl, hb1⟩
  have hB1 := hB.below hb1
  have hw1 := bel_call hbw hb1
  clear hB hbw hb1 a0 a1
  rcases errv_cases (schk (f, cs.map ceOf)) with ⟨h0, hev⟩ | ⟨k, hk, hke, hev⟩
  · obtain ⟨hf0, hf1, hn64, hne, hr0⟩ := schk_ok h0
    dsimp only at hf0 hf1 hn64 hne hr0
    have HLEN := Lib.hid (stxt_len h0)
    have HS := Lib.hid (show sput (f, cs.map ceOf) = fput [] (stxt (f, cs.map ceOf)) from by unfold sput; rw [if_neg (by rw [h0]; simp)])
    rw [hev]
    clear hev h0
    obtain ⟨n, rfl⟩ : ∃ n : Nat, f = n := ⟨f.toNat, by omega⟩
    have hun : U64 n := by unfold U64; omega
    have hwn := wrap_u64_of hun
    have hPR := Lib.hid (fun (B : Option Addr) (b : Nat) (l : List UInt8) (W : World) (hs : SlB W B b l) (hh : SlC W E cap cs) (hl : l.length ≤ 1000000) => PutRun_ok cs W hs hh hl (by simpa using hn64) hr0)
    clear hr0 hne hn64
    go_upto_region 4 with (fail)
    have hst : Blk w1.drew w.heap.size 75 #[.int .i64 (n : Int), .slice E cs.length cap] ∧ Below w.heap.size w w1.drew := ⟨hB1.drew, hw1.drew⟩
    clear hB1 hw1
    refine wp_region_held_drew (S := (fun W => Blk W w.heap.size 75 #[.int .i64 (n : Int), .slice E cs.length cap] ∧ Below w.heap.size w W)) (by kernel_rfl) ?_ (fun hHeld => ?_)
    · exact hst
    refine gen0 (T := fun W => ((fun W => Blk W w.heap.size 75 #[.int .i64 (n : Int), .slice E cs.length cap] ∧ Below w.heap.size w W)) W ∧ True) ?_ (fun wq1 hT => ?_)
    · exact ⟨by (first | exact hst | exact ⟨hHeld.1.below hb2, bel_call hHeld.2 hb2⟩ | exact ⟨hHeld.1.below hb3, bel_call hHeld.2 hb3⟩ | exact ⟨hHeld.1.alloc _, bel_alloc hHeld.2 _⟩), trivial⟩
    (try clear f0 f1 f2 f3 f4 f5 f6 f7 f8 f9 f10 f11)
    obtain ⟨hHeld, -⟩ := hT
    refine wpAnyH_take (i := 0) (oi := ⟨some 13, _, _, _, _, _⟩) (v := ?_) rfl (by kernel_rfl) (by kernel_rfl) (by kernel_rfl) (fun _ _ _ h => h) (Or.inl ⟨by kernel_rfl, ?_⟩) (by assumption) ?_
    rotate_left
    · (intro wS hSw; (try dsimp only at hSw); obtain ⟨q0, q1, _, _⟩ := hSw.1.two; clear hSw; go_simp; (try with_reducible rfl))
    (try simp only [Act.put, List.setIfInBounds_toArray, List.set_cons_zero, List.set_cons_succ])
    refine wpAnyH_take (i := 1) (oi := ⟨some 14, _, _, _, _, _⟩) (v := ?_) rfl (by kernel_rfl) (by kernel_rfl) (by kernel_rfl) (fun _ _ _ h => h) (Or.inl ⟨by kernel_rfl, ?_⟩) (by assumption) ?_
    rotate_left
    · (intro wS hSw; (try dsimp only at hSw); obtain ⟨q0, q1, _, _⟩ := hSw.1.two; clear hSw; go_simp; (try with_reducible rfl))
    (try simp only [Act.put, List.setIfInBounds_toArray, List.set_cons_zero, List.set_cons_succ])
    refine wpAnyH_take (i := 2) (oi := ⟨some 15, _, _, _, _, _⟩) (v := ?_) rfl (by kernel_rfl) (by kernel_rfl) (by kernel_rfl) (fun _ _ _ h => h) (Or.inl ⟨by kernel_rfl, ?_⟩) (by assumption) ?_
    rotate_left
    · (intro wS hSw; (try dsimp only at hSw); obtain ⟨q0, q1, _, _⟩ := hSw.1.two; clear hSw; go_simp; (try with_reducible rfl))
    (try simp only [Act.put, List.setIfInBounds_toArray, List.set_cons_zero, List.set_cons_succ])
    refine wpAnyH_take (i := 5) (oi := ⟨some 18, _, _, _, _, _⟩) (v := ?_) rfl (by kernel_rfl) (by kernel_rfl) (by kernel_rfl) (fun _ _ _ h => h) (Or.inl ⟨by kernel_rfl, ?_⟩) (by assumption) ?_
    rotate_left
    · (intro wS hSw; (try dsimp only at hSw); obtain ⟨q0, q1, _, _⟩ := hSw.1.two; clear hSw; go_simp; (try with_reducible rfl))
    (try simp only [Act.put, List.setIfInBounds_toArray, List.set_cons_zero, List.set_cons_succ])
    refine wpAnyH_take (i := 6) (oi := ⟨some 19, _, _, _, _, _⟩) (v := ?_) rfl (by kernel_rfl) (by kernel_rfl) (by kernel_rfl) (fun _ _ _ h => h) (Or.inl ⟨by kernel_rfl, ?_⟩) (by assumption) ?_
    rotate_left
    · (intro wS hSw; (try dsimp only at hSw); obtain ⟨q0, q1, _, _⟩ := hSw.1.two; clear hSw; go_simp; (try with_reducible rfl))
    (try simp only [Act.put, List.setIfInBounds_toArray, List.set_cons_zero, List.set_cons_succ])
    refine wpAnyH_ready (rs := [3]) (by kernel_rfl) (by simp) ?_
    refine AllReadyH.cons (o := ⟨some 16, _, _, _, _, _⟩) rfl (fun K hK => ?_) AllReadyH.nil
    go_simp
    refine hK.out _ _ ?_ (fun _ => ?_)
    · ((try dsimp only); (first | exact hst | exact ⟨hHeld.1.below hb2, bel_call hHeld.2 hb2⟩ | exact ⟨hHeld.1.below hb3, bel_call hHeld.2 hb3⟩ | exact ⟨hHeld.1.alloc _, bel_alloc hHeld.2 _⟩))
    clear hK K
    (try simp only [Act.put, List.setIfInBounds_toArray, List.set_cons_zero, List.set_cons_succ])
    refine gen0 (T := fun W => ((fun W => Blk W w.heap.size 75 #[.int .i64 (n : Int), .slice E cs.length cap] ∧ Below w.heap.size w W)) W ∧ SlN W (some ⟨wq1.heap.size, 0, none⟩) 1 [n] ∧ True) ?_ (fun wq2 hT => ?_)
    · exact ⟨by (first | exact hst | exact ⟨hHeld.1.below hb2, bel_call hHeld.2 hb2⟩ | exact ⟨hHeld.1.below hb3, bel_call hHeld.2 hb3⟩ | exact ⟨hHeld.1.alloc _, bel_alloc hHeld.2 _⟩), by (first | assumption | exact Sl.lits _ [nv n] 143 (by simp [maxLen]) | exact ho2.sl | exact ho3.more hHeld.2.size), trivial⟩
    (try clear f0 f1 f2 f3 f4 f5 f6 f7 f8 f9 f10 f11)
    obtain ⟨hHeld, f0, -⟩ := hT
    refine wpAnyH_ready (rs := [4]) (by kernel_rfl) (by simp) ?_
    refine AllReadyH.cons (o := ⟨some 17, _, _, _, _, _⟩) rfl (fun K hK => ?_) AllReadyH.nil
    go_simp
    (refine (Put_any none 0 [] _ 1 [n] _ (by simp) (Sl.none_ _ _) f0 (by simp) (by intro z hz; simp at hz; subst hz; exact hun)).mono ?_; rintro e w2 ⟨A2, c2, m2, rfl, hm2, ho2, hb2⟩; have hml2 : m2.length ≤ 10 := (by rw [hm2.out]; simp [vbs]; exact vb_le10 hun))
    go_wp2_with fail
    refine hK.out _ _ ?_ (fun _ => ?_)
    · ((try dsimp only); (first | exact hst | exact ⟨hHeld.1.below hb2, bel_call hHeld.2 hb2⟩ | exact ⟨hHeld.1.below hb3, bel_call hHeld.2 hb3⟩ | exact ⟨hHeld.1.alloc _, bel_alloc hHeld.2 _⟩))
    clear hK K
    (try simp only [Act.put, List.setIfInBounds_toArray, List.set_cons_zero, List.set_cons_succ])
    refine gen0 (T := fun W => ((fun W => Blk W w.heap.size 75 #[.int .i64 (n : Int), .slice E cs.length cap] ∧ Below w.heap.size w W)) W ∧ SlB W A2 c2 m2 ∧ True) ?_ (fun wq3 hT => ?_)
    · exact ⟨by (first | exact hst | exact ⟨hHeld.1.below hb2, bel_call hHeld.2 hb2⟩ | exact ⟨hHeld.1.below hb3, bel_call hHeld.2 hb3⟩ | exact ⟨hHeld.1.alloc _, bel_alloc hHeld.2 _⟩), by (first | assumption | exact Sl.lits _ [nv n] 143 (by simp [maxLen]) | exact ho2.sl | exact ho3.more hHeld.2.size), trivial⟩
    (try clear f0 f1 f2 f3 f4 f5 f6 f7 f8 f9 f10 f11)
    obtain ⟨hHeld, f0, -⟩ := hT
    refine wpAnyH_ready (rs := [7]) (by kernel_rfl) (by simp) ?_
    refine AllReadyH.cons (o := ⟨some 20, _, _, _, _, _⟩) rfl (fun K hK => ?_) AllReadyH.nil
    go_simp
    (refine (hPR.out A2 c2 m2 _ f0 (h.below hHeld.2) (by omega)).mono ?_; rintro e w3 ⟨A3, c3, m3, rfl, hm3, ho3, hb3⟩)
    go_wp2_with fail
    refine hK.out _ _ ?_ (fun _ => ?_)
    · ((try dsimp only); (first | exact hst | exact ⟨hHeld.1.below hb2, bel_call hHeld.2 hb2⟩ | exact ⟨hHeld.1.below hb3, bel_call hHeld.2 hb3⟩ | exact ⟨hHeld.1.alloc _, bel_alloc hHeld.2 _⟩))
    clear hK K
    (try simp only [Act.put, List.setIfInBounds_toArray, List.set_cons_zero, List.set_cons_succ])
    refine gen0 (T := fun W => ((fun W => Blk W w.heap.size 75 #[.int .i64 (n : Int), .slice E cs.length cap] ∧ Below w.heap.size w W)) W ∧ OwnB W w.heap.size 5 A3 c3 m3 ∧ True) ?_ (fun wq4 hT => ?_)
    · exact ⟨by (first | exact hst | exact ⟨hHeld.1.below hb2, bel_call hHeld.2 hb2⟩ | exact ⟨hHeld.1.below hb3, bel_call hHeld.2 hb3⟩ | exact ⟨hHeld.1.alloc _, bel_alloc hHeld.2 _⟩), by (first | assumption | exact Sl.lits _ [nv n] 143 (by simp [maxLen]) | exact ho2.sl | exact ho3.more hHeld.2.size), trivial⟩
    (try clear f0 f1 f2 f3 f4 f5 f6 f7 f8 f9 f10 f11)
    obtain ⟨hHeld, f0, -⟩ := hT
    refine wpAnyH_take (i := 8) (oi := ⟨some 12, _, _, _, _, _⟩) (v := ?_) rfl (by kernel_rfl) (by kernel_rfl) (by kernel_rfl) (fun _ _ _ h => h) (Or.inl ⟨by kernel_rfl, ?_⟩) (by assumption) ?_
    rotate_left
    · (intro wS hSw; (try dsimp only at hSw); obtain ⟨q0, q1, _, _⟩ := hSw.1.two; clear hSw; go_simp; (try with_reducible rfl))
    (try simp only [Act.put, List.setIfInBounds_toArray, List.set_cons_zero, List.set_cons_succ])
    refine wpAnyH_take (i := 9) (oi := ⟨some 21, _, _, _, _, _⟩) (v := ?_) rfl (by kernel_rfl) (by kernel_rfl) (by kernel_rfl) (fun _ _ _ h => h) (Or.inl ⟨by kernel_rfl, ?_⟩) (by assumption) ?_
    rotate_left
    · (intro wS hSw; (try dsimp only at hSw); obtain ⟨q0, q1, _, _⟩ := hSw.1.two; clear hSw; go_simp; (try with_reducible rfl))
    (try simp only [Act.put, List.setIfInBounds_toArray, List.set_cons_zero, List.set_cons_succ])
    refine wpAnyH_take (i := 10) (oi := ⟨some 22, _, _, _, _, _⟩) (v := ?_) rfl (by kernel_rfl) (by kernel_rfl) (by kernel_rfl) (fun _ _ _ h => h) (Or.inl ⟨by kernel_rfl, ?_⟩) (by assumption) ?_
    rotate_left
    · (intro wS hSw; (try dsimp only at hSw); obtain ⟨q0, q1, _, _⟩ := hSw.1.two; clear hSw; go_simp; (try with_reducible rfl))
    (try simp only [Act.put, List.setIfInBounds_toArray, List.set_cons_zero, List.set_cons_succ])
    refine wpAnyH_take (i := 11) (oi := ⟨some 5, _, _, _, _, _⟩) (v := ?_) rfl (by kernel_rfl) (by kernel_rfl) (by kernel_rfl) (fun _ _ _ h => h) (Or.inl ⟨by kernel_rfl, ?_⟩) (by assumption) ?_
    rotate_left
    · (intro wS hSw; (try dsimp only at hSw); obtain ⟨q0, q1, _, _⟩ := hSw.1.two; clear hSw; go_simp; (try with_reducible rfl))
    (try simp only [Act.put, List.setIfInBounds_toArray, List.set_cons_zero, List.set_cons_succ])
    refine wpAnyH_take (i := 12) (oi := ⟨some 6, _, _, _, _, _⟩) (v := ?_) rfl (by kernel_rfl) (by kernel_rfl) (by kernel_rfl) (fun _ _ _ h => h) (Or.inl ⟨by kernel_rfl, ?_⟩) (by assumption) ?_
    rotate_left
    · (intro wS hSw; (try dsimp only at hSw); obtain ⟨q0, q1, _, _⟩ := hSw.1.two; clear hSw; go_simp; (try with_reducible rfl))
    (try simp only [Act.put, List.setIfInBounds_toArray, List.set_cons_zero, List.set_cons_succ])
    refine wpAnyH_done (by kernel_rfl) ?_ _
    have htx : m3 = stxt ((n : Int), cs.map ceOf) := by rw [hm3.out, hm2.out]; unfold stxt; simp [vbs]
    have HT := Lib.hid htx
    have hml3 : m3.length ≤ 7000 := by rw [htx]; exact HLEN.out
    obtain ⟨hBq, hwq⟩ := hHeld
    clear htx hst hBq
    go_wp2_with fail
    refine (FPut_any none 0 [] A3 c3 m3 _ (by simp) (Sl.none_ _ _) f0.sl (by omega)).mono ?_
    rintro e w4 ⟨A4, c4, m4, rfl, hm4, ho4, hb4⟩
    go_wp2_with fail
    go_ret2
    exact ⟨A4, c4, m4, by rw [HS.out, ← HT.out]; rfl, (show _ = _ from by rw [hm4.out, HS.out, HT.out]), ho4.more hwq.size, bel_call hwq hb4⟩
  · have HJ : Hid (sput (f, cs.map ceOf) = ([], schk (f, cs.map ceOf))) := (show _ = _ from by
      unfold sput
      rw [if_pos (by omega)])
    have HEV := Lib.hid hev
    rw [hev]
    clear hev hke
    go_wp2_with fail
    go_ret2
    exact ⟨none, 0, [], by rw [HJ.out]; dsimp only; rw [HEV.out]; rfl, (show _ = _ from by rw [HJ.out]), Own.none_ _ _ _ _, hw1⟩

theorem a14_ok : schk (3, [(2, [])]) = 0 := by decide
theorem a14_txt : stxt (3, [(2, [])]) = [3, 1, 1, 2] := by simp [stxt, prun, rowN, rowGo, vb_small]
set_option maxRecDepth 100000 in
set_option maxHeartbeats 1000000 in
theorem alive14_any (w : World) : Calls Try.prog 41 #[] w fun e w' => e = .returned (.bool true) ∧ Below w.heap.size w w' := by
  have hC : SlC (w.alloc (.cells #[.int .i64 2, .slice none 0 0] 24)) (some ⟨w.heap.size, 0, none⟩) 1 [(2, none, 0, [])] := ⟨Sl.litsS w 2 1 (cf (2, none, 0, [])) 24 rfl (by simp [maxLen]), fun x hx => by rw [List.mem_singleton.1 hx]; exact Sl.none_ _ _⟩
  have hbn := below_new w (.cells #[.int .i64 2, .slice none 0 0] 24)
  go_enter Try.func41, Try.ntmps41
  go_wp2_with fail
  refine (SPut_any 3 [(2, none, 0, [])] _ hC).mono ?_
  rintro e w1 ⟨A1, c1, m1, he, hm1, ho1, hb1⟩
  have hp : sput (3, List.map ceOf [(2, none, 0, [])]) = ([4, 3, 1, 1, 2] ++ four (sumW (txb [3, 1, 1, 2])), 0) := by
    show sput (3, [(2, [])]) = _
    unfold sput
    rw [if_neg (by rw [a14_ok]; simp), a14_txt]
    unfold fput
    rw [if_neg (by simp)]
    have h4 : txb [3, 1, 1, 2] = [4, 3, 1, 1, 2] := by simp [txb, vb_small]
    unfold frm
    rw [h4]
    rfl
  rw [hp] at he hm1
  have h9 : m1.length = 9 := by rw [hm1.out]; simp [four_len]
  have h5 : m1.take 5 = [4, 3, 1, 1, 2] := by rw [hm1.out]; rfl
  have hev : errv 0 = .nilIface := rfl
  dsimp only at he
  rw [hev, h9] at he
  subst he
  have hsl := Sl.takeB ho1.sl 5
  rw [h5] at hsl
  have hc9 : 9 ≤ c1 := by have := ho1.sl.2.1; omega
  have hcv := conv_str (P := Try.prog) 22 9 5 Try.underlying22 Try.underlying5 Try.underlying9 (n := 5) hsl rfl
  clear h9 h5 hm1 hp hev
  go_wp2_with fail
  go_ret
  exact ⟨rfl, bel_call hbn hb1⟩
end Go.Proofs.Ytjkdnnekagcdhaa

namespace Go.Proofs.Ytjkdnnekagcdhaa
open Go.RowKit
attribute [local go_sem ↓] Go.wp_at_zero Go.wp_at_succ

theorem list_beq' (l m : List UInt8) : (l == m) = decide (l = m) := by
  by_cases h : l = m
  · subst h; simp
  · simp [h]
/-- what the document's Take answers -/
def RTakesF (w0 : World) (A0 : Option Addr) (o : List UInt8 × Nat × Nat) (e : Ending) (w' : World) : Prop :=
  ∃ A c m, e = .returned (.tuple #[.slice A (List.length m) c, .int .i64 (o.2.1 : Nat), .int .i64 (o.2.2 : Nat)]) ∧ Hid (m = o.1) ∧ SlB w' A c m ∧ Below w0.heap.size w0 w' ∧ (m ≠ [] → A.map (·.block) = A0.map (·.block))
theorem Sl.lt0 {w : World} {size n c : Nat} {A : Option Addr} {xs : List Value} (h : Sl w size A n c xs) (hne : xs ≠ []) : ∀ g, A.map (·.block) = some g → g < w.heap.size := by
  intro g hg
  rcases Nat.lt_or_ge g w.heap.size with h1 | h1
  · exact h1
  · exact absurd hg (Sl.old h h1 hne)

theorem shift_block (A : Option Addr) (k : Nat) : (Option.map (fun x => x.add k) A).map (·.block) = A.map (·.block) := by cases A <;> simp [addr_add_block]
set_option maxRecDepth 100000 in
set_option maxHeartbeats 2000000 in
theorem rFTake_any (A : Option Addr) (c : Nat) (l : List UInt8) (w : World) (hs : SlB w A c l) (hl : l.length ≤ 10000000) :
    Calls Try.prog 113 #[.slice A l.length c] w (RTakesF w A (ftake l)) := by
  have hc1 := hs.2.1
  go_enter Try.func113, Try.ntmps113
  go_wp2_with fail
  refine (rTake_any A c l _ hs).mono ?_
  rintro e w1 ⟨hb1, ⟨ht, rfl⟩ | ⟨n, k, ht, rfl⟩⟩
  · have hf := Lib.hid (ftake_none ht)
    clear ht
    go_wp2_with fail
    go_ret3
    exact ⟨none, 0, [], by rw [hf.out]; rfl, by rw [hf.out]; rfl, Sl.none_ _ _, hb1, fun h => absurd rfl h⟩
  · obtain ⟨hu, hkl, _⟩ := take_some ht
    by_cases hn : 65536 < n
    · have hf := Lib.hid (ftake_long ht hn)
      have hni : (65536 : Int) < (n : Int) := by omega
      clear ht
      go_wp2_with fail
      go_ret3
      exact ⟨none, 0, [], by rw [hf.out]; rfl, by rw [hf.out]; rfl, Sl.none_ _ _, hb1, fun h => absurd rfl h⟩
    · have hni : ¬ (65536 : Int) < (n : Int) := by omega
      have hw64 : wrap64 (n : Int) = (n : Int) := by simp only [wrap64]; omega
      obtain ⟨q, hq⟩ : ∃ q, q = k + n := ⟨_, rfl⟩
      have hqi : (k : Int) + (n : Int) = (q : Int) := by omega
      by_cases hsh : l.length < k + n + 4
      · have hf := Lib.hid (ftake_short ht hn hsh)
        have hqs : (l.length : Int) < (q : Int) + 4 := by omega
        clear ht hq
        go_wp2_with fail
        go_ret3
        exact ⟨none, 0, [], by rw [hf.out]; rfl, by rw [hf.out]; rfl, Sl.none_ _ _, hb1, fun h => absurd rfl h⟩
      · have hqs : ¬ (l.length : Int) < (q : Int) + 4 := by omega
        have hkq : k ≤ q := by omega
        have hql : q + 4 ≤ l.length := by omega
        have hf : ftake l = if four (sumW (l.take q)) = (l.drop q).take 4 then ((l.take q).drop k, q + 4, 0) else ([], 0, 11) := by
          unfold ftake; rw [ht]; dsimp only; rw [if_neg hn, if_neg hsh, hq]
        have HF := Lib.hid hf
        clear ht hq hsh hf
        have hs1 := hs.below hb1
        have hqc : ¬ (c = q) := by omega
        have hkc : ¬ (c = k) := by omega
        have hq1 : q ≤ c := by omega
        have hq2 : q + 4 ≤ c := by omega
        have hT := Sl.takeB hs1 q
        have hD := Sl.take (Sl.cutB hs1 (k := q) (by omega)) (k := 4) (by omega)
        rw [if_neg hqc, show (bvs (l.drop q)).take 4 = bvs ((l.drop q).take 4) from by simp [bvs, List.map_take, List.map_drop]] at hD
        have hl2 : ((l.drop q).take 4).length = 4 := by simp; omega
        have htl : (l.take q).length = q := by simp; omega
        have hX := Sl.cutB hT (k := k) (by omega)
        have hX0 := Sl.cutB (Sl.takeB hs q) (k := k) (by omega)
        rw [if_neg hkc, htl, show q - k = ((l.take q).drop k).length from by rw [List.length_drop, htl]] at hX hX0
        have hxl := Lib.hid (show ((l.take q).drop k).length = q - k from by rw [List.length_drop, htl])
        generalize (l.take q).drop k = xt at *
        generalize hg2 : (l.drop q).take 4 = l2 at *
        generalize hg1 : l.take q = l1 at *
        clear hg1 hg2 hs1
        rw [← hl2] at hD
        subst htl
        have H4 := Lib.hid hl2
        obtain ⟨p4, hp4⟩ : ∃ p4, p4 = l1.length + 4 := ⟨_, rfl⟩
        have hwq : IntKind.i64.wrap ((l1.length : Int) + 4) = (p4 : Int) := by rw [IntKind.wrap_i64]; omega
        have hpc : p4 ≤ c := by omega
        have hlp : l1.length ≤ p4 := by omega
        have hps : p4 - l1.length = 4 := by omega
        have HP4 := Lib.hid hp4
        clear hp4
        clear hl2
        go_wp2_with fail
        go_cut [41] (fun s41 wx => s41 = .bool (!decide (four (sumW l1) = l2)) ∧ Below w1.heap.size w1 wx)
        case first =>
          have hT' : SlB w1.drew A c l1 := hT
          refine wp_region_held_drew (S := (fun W => SlB W (Option.map (fun x => x.add l1.length) A) (c - l1.length) l2)) (by kernel_rfl) ?_ (fun hHeld => ?_)
          · first | exact hD | exact hD2
          refine wpAnyH_take (i := 0) (oi := ⟨some 29, _, _, _, _, _⟩) (v := ?_) rfl (by kernel_rfl) (by kernel_rfl) (by kernel_rfl) (fun _ _ _ h => h) (Or.inl ⟨by kernel_rfl, ?_⟩) (by assumption) ?_
          rotate_left
          · (intro wS hSw; (try dsimp only at hSw); have hcv := conv_str (P := Try.prog) 22 9 5 Try.underlying22 Try.underlying5 Try.underlying9 (n := 4) hSw H4.out.symm; go_simp; (try with_reducible rfl))
          (try simp only [Act.put, List.setIfInBounds_toArray, List.set_cons_zero, List.set_cons_succ])
          refine wpAnyH_take (i := 1) (oi := ⟨some 30, _, _, _, _, _⟩) (v := ?_) rfl (by kernel_rfl) (by kernel_rfl) (by kernel_rfl) (fun _ _ _ h => h) (Or.inl ⟨by kernel_rfl, ?_⟩) (by assumption) ?_
          rotate_left
          · (intro wS hSw; (try dsimp only at hSw); have hcv := conv_str (P := Try.prog) 22 9 5 Try.underlying22 Try.underlying5 Try.underlying9 (n := 4) hSw H4.out.symm; go_simp; (try with_reducible rfl))
          (try simp only [Act.put, List.setIfInBounds_toArray, List.set_cons_zero, List.set_cons_succ])
          refine wpAnyH_take (i := 2) (oi := ⟨some 31, _, _, _, _, _⟩) (v := ?_) rfl (by kernel_rfl) (by kernel_rfl) (by kernel_rfl) (fun _ _ _ h => h) (Or.inl ⟨by kernel_rfl, ?_⟩) (by assumption) ?_
          rotate_left
          · (intro wS hSw; (try dsimp only at hSw); have hcv := conv_str (P := Try.prog) 22 9 5 Try.underlying22 Try.underlying5 Try.underlying9 (n := 4) hSw H4.out.symm; go_simp; (try with_reducible rfl))
          (try simp only [Act.put, List.setIfInBounds_toArray, List.set_cons_zero, List.set_cons_succ])
          refine wpAnyH_take (i := 6) (oi := ⟨some 35, _, _, _, _, _⟩) (v := ?_) rfl (by kernel_rfl) (by kernel_rfl) (by kernel_rfl) (fun _ _ _ h => h) (Or.inl ⟨by kernel_rfl, ?_⟩) (by assumption) ?_
          rotate_left
          · (intro wS hSw; (try dsimp only at hSw); have hcv := conv_str (P := Try.prog) 22 9 5 Try.underlying22 Try.underlying5 Try.underlying9 (n := 4) hSw H4.out.symm; go_simp; (try with_reducible rfl))
          (try simp only [Act.put, List.setIfInBounds_toArray, List.set_cons_zero, List.set_cons_succ])
          refine wpAnyH_take (i := 7) (oi := ⟨some 36, _, _, _, _, _⟩) (v := ?_) rfl (by kernel_rfl) (by kernel_rfl) (by kernel_rfl) (fun _ _ _ h => h) (Or.inl ⟨by kernel_rfl, ?_⟩) (by assumption) ?_
          rotate_left
          · (intro wS hSw; (try dsimp only at hSw); have hcv := conv_str (P := Try.prog) 22 9 5 Try.underlying22 Try.underlying5 Try.underlying9 (n := 4) hSw H4.out.symm; go_simp; (try with_reducible rfl))
          (try simp only [Act.put, List.setIfInBounds_toArray, List.set_cons_zero, List.set_cons_succ])
          refine wpAnyH_take (i := 8) (oi := ⟨some 37, _, _, _, _, _⟩) (v := ?_) rfl (by kernel_rfl) (by kernel_rfl) (by kernel_rfl) (fun _ _ _ h => h) (Or.inl ⟨by kernel_rfl, ?_⟩) (by assumption) ?_
          rotate_left
          · (intro wS hSw; (try dsimp only at hSw); have hcv := conv_str (P := Try.prog) 22 9 5 Try.underlying22 Try.underlying5 Try.underlying9 (n := 4) hSw H4.out.symm; go_simp; (try with_reducible rfl))
          (try simp only [Act.put, List.setIfInBounds_toArray, List.set_cons_zero, List.set_cons_succ])
          refine wpAnyH_take (i := 9) (oi := ⟨some 38, _, _, _, _, _⟩) (v := ?_) rfl (by kernel_rfl) (by kernel_rfl) (by kernel_rfl) (fun _ _ _ h => h) (Or.inl ⟨by kernel_rfl, ?_⟩) (by assumption) ?_
          rotate_left
          · (intro wS hSw; (try dsimp only at hSw); have hcv := conv_str (P := Try.prog) 22 9 5 Try.underlying22 Try.underlying5 Try.underlying9 (n := 4) hSw H4.out.symm; go_simp; (try with_reducible rfl))
          (try simp only [Act.put, List.setIfInBounds_toArray, List.set_cons_zero, List.set_cons_succ])
          refine wpAnyH_take (i := 10) (oi := ⟨some 39, _, _, _, _, _⟩) (v := ?_) rfl (by kernel_rfl) (by kernel_rfl) (by kernel_rfl) (fun _ _ _ h => h) (Or.inl ⟨by kernel_rfl, ?_⟩) (by assumption) ?_
          rotate_left
          · (intro wS hSw; (try dsimp only at hSw); have hcv := conv_str (P := Try.prog) 22 9 5 Try.underlying22 Try.underlying5 Try.underlying9 (n := 4) hSw H4.out.symm; go_simp; (try with_reducible rfl))
          (try simp only [Act.put, List.setIfInBounds_toArray, List.set_cons_zero, List.set_cons_succ])
          refine wpAnyH_take (i := 11) (oi := ⟨some 40, _, _, _, _, _⟩) (v := ?_) rfl (by kernel_rfl) (by kernel_rfl) (by kernel_rfl) (fun _ _ _ h => h) (Or.inl ⟨by kernel_rfl, ?_⟩) (by assumption) ?_
          rotate_left
          · (intro wS hSw; (try dsimp only at hSw); have hcv := conv_str (P := Try.prog) 22 9 5 Try.underlying22 Try.underlying5 Try.underlying9 (n := 4) hSw H4.out.symm; go_simp; (try with_reducible rfl))
          (try simp only [Act.put, List.setIfInBounds_toArray, List.set_cons_zero, List.set_cons_succ])
          refine wpAnyH_ready (rs := [3]) (by kernel_rfl) (by simp) ?_
          refine AllReadyH.cons (o := ⟨some 32, _, _, _, _, _⟩) rfl (fun K hK => ?_) AllReadyH.nil
          go_simp
          (refine (rSum_any A c l1 _ hT' (by omega)).mono ?_; rintro e w13 ⟨rfl, rfl⟩)
          go_wp2_with fail
          refine hK.out _ _ ?_ (fun hHeld => ?_)
          · ((try dsimp only); (first | exact hD | exact hD2))
          clear hK K
          (try simp only [Act.put, List.setIfInBounds_toArray, List.set_cons_zero, List.set_cons_succ])
          refine wpAnyH_ready (rs := [4]) (by kernel_rfl) (by simp) ?_
          refine AllReadyH.cons (o := ⟨some 33, _, _, _, _, _⟩) rfl (fun K hK => ?_) AllReadyH.nil
          go_simp
          (refine (rFour_any (sumW l1) _).mono ?_; rintro e w14 ⟨A14, c14, m14, rfl, hm14, hs14, hb14⟩; have hD2 := Sl.below hD (below_of_drew hb14); have hcv := conv_str (P := Try.prog) 22 9 5 Try.underlying22 Try.underlying5 Try.underlying9 hs14 rfl)
          go_wp2_with fail
          refine hK.out _ _ ?_ (fun hHeld => ?_)
          · ((try dsimp only); (first | exact hD | exact hD2))
          clear hK K
          (try simp only [Act.put, List.setIfInBounds_toArray, List.set_cons_zero, List.set_cons_succ])
          refine wpAnyH_ready (rs := [5]) (by kernel_rfl) (by simp) ?_
          refine AllReadyH.cons (o := ⟨some 34, _, _, _, _, _⟩) rfl (fun K hK => ?_) AllReadyH.nil
          go_simp
          refine hK.out _ _ ?_ (fun hHeld => ?_)
          · ((try dsimp only); (first | exact hD | exact hD2))
          clear hK K
          (try simp only [Act.put, List.setIfInBounds_toArray, List.set_cons_zero, List.set_cons_succ])
          refine wpAnyH_take (i := 12) (oi := ⟨some 41, _, _, _, _, _⟩) (v := ?_) rfl (by kernel_rfl) (by kernel_rfl) (by kernel_rfl) (fun _ _ _ h => h) (Or.inl ⟨by kernel_rfl, ?_⟩) (by assumption) ?_
          rotate_left
          · (intro wS hSw; (try dsimp only at hSw); have hcv := conv_str (P := Try.prog) 22 9 5 Try.underlying22 Try.underlying5 Try.underlying9 (n := 4) hSw H4.out.symm; go_simp; (try with_reducible rfl))
          (try simp only [Act.put, List.setIfInBounds_toArray, List.set_cons_zero, List.set_cons_succ])
          refine wpAnyH_done (by kernel_rfl) ?_ _
          go_wp2_with fail
          go_meet
          refine ⟨?_, below_of_drew hb14⟩
          rw [← hm14.out]
          exact congrArg Value.bool (congrArg not (list_beq' m14 l2))
        case rest =>
          obtain ⟨rfl, hbc⟩ := hcut
          have hw := bel_call hb1 hbc
          have hXc := hX.below hbc
          have hlt : xt ≠ [] → (Option.map (fun x => x.add k) A).map (·.block) = A.map (·.block) := fun _ => shift_block A k
          clear hT hD hX hX0 hbc
          by_cases he : four (sumW l1) = l2
          · have hd : decide (four (sumW l1) = l2) = true := decide_eq_true he
            have hov := Lib.hid (show ftake l = (xt, p4, 0) from by rw [HF.out, if_pos he, HP4.out])
            rw [hd]
            clear HF he hd
            go_wp2_with fail
            go_ret3
            refine ⟨_, c - k, xt, ?_, by rw [hov.out]; rfl, hXc, hw, hlt⟩
            rw [hov.out, hxl.out]
            rfl
          · have hd : decide (four (sumW l1) = l2) = false := decide_eq_false he
            have hov := Lib.hid (show ftake l = ([], 0, 11) from by rw [HF.out, if_neg he])
            rw [hd]
            clear HF he hd
            go_wp2_with fail
            go_ret3
            exact ⟨none, 0, [], by rw [hov.out]; rfl, by rw [hov.out]; rfl, Sl.none_ _ _, hw, fun h => absurd rfl h⟩
/-- what the document's Prefix answers -/
def RPreB (w0 : World) (A0 : Option Addr) (o : List (List UInt8) × Nat) (bad : Nat) (e : Ending) (w' : World) : Prop :=
  ∃ A c ps, e = .returned (.tuple #[.slice A (List.length ps) c, .int .i64 (o.2 : Nat), .int .i64 (bad : Nat)]) ∧ Hid (ptx ps = o.1) ∧ SlT w' A c ps ∧ (∀ x ∈ ps, SlB w' x.1 x.2.1 x.2.2 ∧ (x.2.2 ≠ [] → x.1.map (·.block) = A0.map (·.block))) ∧ From w0.heap.size (A.map (·.block)) ∧ Below w0.heap.size w0 w'
/-- the number of what follows the frames: 0: nothing does -/
def fbad (l : List UInt8) : Nat := if (fpre l).2 = l.length then 0 else (ftake (l.drop (fpre l).2)).2.2

theorem fpre_nil : fpre [] = ([], 0) := fpre_bad (by rw [ftake_none (by rfl)]; simp)
theorem fpre_end (n : Nat) : ∀ l : List UInt8, l.length ≤ n → (fpre l).2 ≤ l.length ∧ (ftake (l.drop (fpre l).2)).2.2 ≠ 0 := by
  induction n with
  | zero =>
    intro l hl
    have : l = [] := List.eq_nil_of_length_eq_zero (by omega)
    subst this
    rw [fpre_nil, List.drop_nil, ftake_none (by rfl)]
    simp
  | succ n ih =>
    intro l hl
    by_cases h : (ftake l).2.2 = 0
    · obtain ⟨h1, h2⟩ := ftake_ok h
      rw [fpre_ok h]
      obtain ⟨i1, i2⟩ := ih (l.drop (ftake l).2.1) (by simp; omega)
      rw [List.drop_drop] at i2
      simp only [List.length_drop] at i1
      exact ⟨by dsimp only; omega, i2⟩
    · rw [fpre_bad h]
      exact ⟨by simp, by simpa using h⟩
end Go.Proofs.Ytjkdnnekagcdhaa

namespace Go.Proofs.Ytjkdnnekagcdhaa
open Go.RowKit
attribute [local go_sem ↓] Go.wp_at_zero Go.wp_at_succ

def fall (l : List UInt8) : List (List UInt8) := if (fpre l).2 = l.length then (fpre l).1 else []
/-- what All answers -/
def AllsB (w0 : World) (o : List (List UInt8)) (bad : Nat) (e : Ending) (w' : World) : Prop :=
  ∃ A c ps, e = .returned (.tuple #[.slice A (List.length ps) c, errv bad]) ∧ Hid (ptx ps = o) ∧ SlT w' A c ps ∧ (∀ x ∈ ps, SlB w' x.1 x.2.1 x.2.2 ∧ (x.2.2 ≠ [] → From w0.heap.size (x.1.map (·.block)))) ∧ From w0.heap.size (A.map (·.block)) ∧ Below w0.heap.size w0 w'
theorem fbad_ne {l : List UInt8} (h : (fpre l).2 ≠ l.length) : fbad l = (ftake (l.drop (fpre l).2)).2.2 ∧ fbad l ≠ 0 := by
  have h1 : fbad l = (ftake (l.drop (fpre l).2)).2.2 := by unfold fbad; rw [if_neg h]
  exact ⟨h1, by rw [h1]; exact (fpre_end _ l (Nat.le_refl _)).2⟩
end Go.Proofs.Ytjkdnnekagcdhaa

namespace Go.Proofs.Ytjkdnnekagcdhaa
open Go.RowKit
attribute [local go_sem ↓] Go.wp_at_zero Go.wp_at_succ

theorem ftake_empty {l : List UInt8} (h : (ftake l).2.2 ≠ 0) : (ftake l).1 = [] := by
  unfold ftake at h ⊢
  split at h
  · rfl
  · rename_i n k hv
    by_cases h1 : 65536 < n
    · rw [if_pos h1]
    · rw [if_neg h1] at h ⊢
      by_cases h2 : l.length < k + n + 4
      · rw [if_pos h2]
      · rw [if_neg h2] at h ⊢
        by_cases h3 : four (sumW (l.take (k + n))) = (l.drop (k + n)).take 4
        · rw [if_pos h3] at h; simp at h
        · rw [if_neg h3]
/-- bytes that can be read, each a place, a capacity, its bytes -/
structure BSt (w : World) (ls : List Pt) (W : World) : Prop where
  bel : Below w.heap.size w W
  sl : ∀ x ∈ ls, SlB W x.1 x.2.1 x.2.2
theorem BSt.at {w W : World} {ls : List Pt} (h : BSt w ls W) {A : Option Addr} {c : Nat} {l : List UInt8} (hm : (A, c, l) ∈ ls) : SlB W A c l := h.sl _ hm
theorem BSt.below {w W W' : World} {ls : List Pt} (h : BSt w ls W) (hb : Below W.heap.size W W') : BSt w ls W' := ⟨bel_call h.bel hb, fun x hx => (h.sl x hx).below hb⟩
theorem BSt.add {w W : World} {ls : List Pt} (h : BSt w ls W) {A : Option Addr} {c : Nat} {l : List UInt8} (hs : SlB W A c l) : BSt w ((A, c, l) :: ls) W := ⟨h.bel, fun x hx => by
  rw [List.mem_cons] at hx
  rcases hx with rfl | hx
  · exact hs
  · exact h.sl x hx⟩

/-- a row of bytes that can be written -/
structure Wri (w : World) (g off : Nat) (m : List UInt8) : Prop where
  blk : ∃ cur, w.heap[g]? = some (.cells cur 5)
  at_ : ∀ j (h : j < m.length), w.cell? ⟨g, off + j, none⟩ = some (bv m[j])
theorem Wri.frozen {w : World} {g off : Nat} {m : List UInt8} (h : Wri w g off m) (i : Nat) : w.frozen? ⟨g, i, none⟩ = false := by
  obtain ⟨cur, hc⟩ := h.blk
  simp [World.frozen?, hc]
theorem Wri.set {w : World} {g off : Nat} {m : List UInt8} (h : Wri w g off m) {k : Nat} (hk : k < m.length) (x : UInt8) : Wri (w.setCell ⟨g, off + k, none⟩ (bv x)) g off (m.set k x) := by
  obtain ⟨cur, hc⟩ := h.blk
  refine ⟨⟨cur.setIfInBounds (off + k) (bv x), by simp [World.setCell, Array.getElem?_modify, hc]⟩, fun j hj => ?_⟩
  have hj2 : j < m.length := by simpa using hj
  have h1 := h.at_ j hj2
  rw [cell_of_row w g _ cur 5 (0, 0) hc] at h1
  rw [cell_of_row _ g _ (cur.setIfInBounds (off + k) (bv x)) 5 (0, 0) (by simp [World.setCell, Array.getElem?_modify, hc])]
  rw [Array.getElem?_setIfInBounds, List.getElem_set]
  by_cases e : k = j
  · subst e
    rw [if_pos rfl, if_pos rfl, if_pos (Array.getElem?_eq_some_iff.1 h1).1]
  · rw [if_neg (by omega), if_neg e]; exact h1
/-- all blocks but those between lo and hi stay -/
structure Beside (lo hi : Nat) (W W' : World) : Prop where
  size : W.heap.size ≤ W'.heap.size
  block : ∀ k, k < W.heap.size → (k < lo ∨ hi ≤ k) → W'.heap[k]? = W.heap[k]?
theorem Beside.refl (lo hi : Nat) (W : World) : Beside lo hi W W := ⟨Nat.le_refl _, fun _ _ _ => rfl⟩
theorem Beside.set {lo hi : Nat} {W W' : World} (h : Beside lo hi W W') {g i : Nat} (h1 : lo ≤ g) (h2 : g < hi) (u : Value) : Beside lo hi W (W'.setCell ⟨g, i, none⟩ u) :=
  ⟨by simpa using h.size, fun k hk hs => (Below.heap_setCell W' ⟨g, i, none⟩ u k (by show k ≠ g; omega)).trans (h.block k hk hs)⟩
theorem Beside.sl {lo hi : Nat} {W W' : World} (h : Beside lo hi W W') {size n c : Nat} {A : Option Addr} {xs : List Value} (hs : Sl W size A n c xs) (hA : xs ≠ [] → ∀ g, A.map (·.block) = some g → g < lo ∨ hi ≤ g) : Sl W' size A n c xs := by
  refine ⟨hs.1, hs.2.1, hs.2.2.1, hs.2.2.2.1, fun j u hj => ?_⟩
  obtain ⟨ad, rfl, hc⟩ := hs.2.2.2.2 j u hj
  have hne : xs ≠ [] := by intro e; rw [e] at hj; simp at hj
  refine ⟨ad, rfl, ?_⟩
  have hlt := World.block_lt_of_cell? W _ hc
  have hb := h.block _ hlt (by rw [addr_add_block]; exact hA hne _ rfl)
  rw [← hc]
  unfold World.cell?
  rw [hb]

theorem meas_one {n k : Nat} (h : k < n) : n - (intOf (.int .i64 ((k : Int) + 1))).toNat < n - (intOf (.int .i64 (k : Int))).toNat := by
  have h1 : (intOf (.int .i64 ((k : Int) + 1))).toNat = k + 1 := by show ((k : Int) + 1).toNat = k + 1; omega
  have h2 : (intOf (.int .i64 (k : Int))).toNat = k := by show (k : Int).toNat = k; omega
  rw [h1, h2]
  omega
theorem val_one (k : Nat) : Value.int .i64 ((k : Int) + 1) = .int .i64 ((k + 1 : Nat) : Int) := rfl

end Go.Proofs.Ytjkdnnekagcdhaa

namespace Go.Proofs.Ytjkdnnekagcdhaa
open Go.RowKit
attribute [local go_sem ↓] Go.wp_at_zero Go.wp_at_succ

def sat (s : Sg) (a : Int) : Ce × Bool := if a < s.1 ∨ (s.2.length : Int) ≤ a - s.1 then ((0, []), false) else (s.2.getD (a - s.1).toNat (0, []), true)
/-- the cell of a segment, and whether there is one -/
def GivesAt (w0 : World) (x : Ce × Bool) (e : Ending) (w' : World) : Prop :=
  ∃ A c m, e = .returned (.tuple #[cv x.1.1 A (List.length m) c, .bool x.2]) ∧ Hid (m = x.1.2) ∧ SlB w' A c m ∧ Below w0.heap.size w0 w'
set_option maxRecDepth 100000 in
set_option maxHeartbeats 2000000 in
theorem SAt_any {E : Option Addr} {cap : Nat} (f a : Int) (cs : List CeV) (w : World) (h : SlC w E cap cs) (hl : cs.length ≤ 1000) (hd : ∀ x ∈ cs, x.2.2.2.length ≤ 1000000000) (hf : I64 f) (ha : I64 a) :
    Calls Try.prog 47 #[cv f E cs.length cap, .int .i64 a] w (GivesAt w (sat (f, cs.map ceOf) a)) := by
  have hB0 := (Blk.new w 75 #[.int .i64 f, .slice E cs.length cap]).alloc (.cells #[.int .i64 0, .slice none 0 0] 24)
  have hB1 := Blk.newAt (w := w.alloc (.cells #[.int .i64 f, .slice E cs.length cap] 75)) (g := w.heap.size + 1) (by simp) 24 #[.int .i64 0, .slice none 0 0]
  have hbw := bel_alloc (below_new w (.cells #[.int .i64 f, .slice E cs.length cap] 75)) (.cells #[.int .i64 0, .slice none 0 0] 24)
  unfold I64 at ha hf
  obtain ⟨hf0, hf1⟩ := hf
  obtain ⟨ha0, ha1⟩ := ha
  obtain ⟨a0, a1, _, _⟩ := hB0.two
  obtain ⟨b0, b1, bf0, bf1⟩ := hB1.two
  by_cases c1 : a < f
  · have HS := Lib.hid (show sat (f, cs.map ceOf) a = ((0, []), false) from by unfold sat; rw [if_pos (.inl c1)])
    go_enter Try.func47, Try.ntmps47
    go_wp2_with fail
    exact bodyPost_ret (res_c2 rfl rfl (g := w.heap.size + 1) hB1) rfl ⟨none, 0, [], by rw [HS.out]; rfl, (show _ = _ from by rw [HS.out]), Sl.none_ _ _, hbw⟩
  by_cases c2 : (cs.length : Int) ≤ a - f
  · have HS := Lib.hid (show sat (f, cs.map ceOf) a = ((0, []), false) from by unfold sat; rw [if_pos (.inr (by simpa using c2))])
    by_cases c3 : a - f ≤ 9223372036854775807
    · go_enter Try.func47, Try.ntmps47
      go_wp2_with fail
      exact bodyPost_ret (res_c2 rfl rfl (g := w.heap.size + 1) hB1) rfl ⟨none, 0, [], by rw [HS.out]; rfl, (show _ = _ from by rw [HS.out]), Sl.none_ _ _, hbw⟩
    · obtain ⟨z, hz⟩ : ∃ z : Int, wrap64 (a - f) = z := ⟨_, rfl⟩
      have hz0 : z < 0 := by rw [← hz]; simp only [wrap64]; omega
      have hz1 : z < (cs.length : Int) := by omega
      go_enter Try.func47, Try.ntmps47
      go_wp2_with fail
      exact bodyPost_ret (res_c2 rfl rfl (g := w.heap.size + 1) hB1) rfl ⟨none, 0, [], by rw [HS.out]; rfl, (show _ = _ from by rw [HS.out]), Sl.none_ _ _, hbw⟩
  obtain ⟨i, hi⟩ : ∃ i : Nat, a = f + i := ⟨(a - f).toNat, by omega⟩
  subst hi
  have hlt : i < cs.length := by omega
  have HS := Lib.hid (show sat (f, cs.map ceOf) (f + i) = (ceOf cs[i], true) from by
    unfold sat
    rw [if_neg (by simp only [List.length_map]; omega)]
    have e1 : (f + (i : Int) - f).toNat = i := by omega
    dsimp only
    rw [e1, List.getD_eq_getElem?_getD, List.getElem?_map, List.getElem?_eq_getElem hlt]
    rfl)
  obtain ⟨ad, b, o, rfl, had, hc0, hc1, hsx⟩ := (h.below hbw).at2 hlt
  have hdl := hd _ (List.getElem_mem hlt)
  generalize cs[i] = x at *
  obtain ⟨kk, A, c, d⟩ := x
  dsimp only [ceOf] at *
  clear hd
  have hfi : f + (i : Int) - f = (i : Int) := by omega
  go_enter Try.func47, Try.ntmps47
  go_wp2_with fail
  refine (CCopy_any kk d _ hsx hdl).mono ?_
  rintro e w2 ⟨A2, c2, m2, rfl, hm2, ho2, hb2⟩
  have hw2 := bel_call hbw hb2
  have hB2 := hB1.below hb2
  obtain ⟨b0, b1, bf0, bf1⟩ := hB2.two
  clear hB0 hB1 hbw hb2
  go_wp2_with fail
  exact bodyPost_ret (res_c2 rfl rfl (g := w.heap.size + 1) (hB2.set2 _ _)) rfl ⟨A2, c2, m2, by rw [HS.out]; rfl, (show _ = _ from by rw [HS.out, hm2.out]), (Own.set2 (Own.more (base' := w.heap.size + 1 + 1) ho2 (by simp)) (by omega) _ _).sl, bel_set (bel_set hw2 (by dsimp only; omega) _) (by dsimp only; omega) _⟩

set_option maxRecDepth 100000 in
set_option maxHeartbeats 2000000 in
theorem rSPut_any {E : Option Addr} {cap : Nat} (f : Int) (ds : List Ce) (w : World) (h : SlD w E cap ds) (h0 : schk (f, ds) = 0) :
    Calls Try.prog 51 #[cv f E ds.length cap] w (GivesB w (frm (stxt (f, ds)))) := by
  obtain ⟨hf0, hf1, hn64, hne, hr0⟩ := schk_ok h0
  dsimp only at hf0 hf1 hn64 hne hr0
  obtain ⟨n, rfl⟩ : ∃ n : Nat, f = n := ⟨f.toNat, by omega⟩
  have hun : U64 n := by unfold U64; omega
  have hwn := wrap_u64_of hun
  have hok : Hid (∀ c ∈ ds, cchk c = 0) := (show ∀ c ∈ ds, _ from rchk_zero hr0)
  have htx : Hid (stxt ((n : Int), ds) = vb n ++ (vb ds.length ++ rgo none [] ds)) := (show _ = _ from by
    unfold stxt
    rw [rgo_prun 64 ds [] hn64 hn64 hok.out (by simp)]
    rfl)
  have HLEN := Lib.hid (stxt_len h0)
  have hB := Blk.new w 77 #[.int .i64 (n : Int), .slice E ds.length cap]
  have hbw := below_new w (.cells #[.int .i64 (n : Int), .slice E ds.length cap] 77)
  clear hr0 hne h0
  go_enter Try.func51, Try.ntmps51
  go_upto_region 1 with (fail)
  have hst : Blk (w.alloc (.cells #[.int .i64 (n : Int), .slice E ds.length cap] 77)).drew w.heap.size 77 #[.int .i64 (n : Int), .slice E ds.length cap] ∧ Below w.heap.size w (w.alloc (.cells #[.int .i64 (n : Int), .slice E ds.length cap] 77)).drew := ⟨hB.drew, hbw.drew⟩
  clear hB hbw
  refine wp_region_held_drew (S := (fun W => Blk W w.heap.size 77 #[.int .i64 (n : Int), .slice E ds.length cap] ∧ Below w.heap.size w W)) (by kernel_rfl) ?_ (fun hHeld => ?_)
  · exact hst
  refine gen0 (T := fun W => ((fun W => Blk W w.heap.size 77 #[.int .i64 (n : Int), .slice E ds.length cap] ∧ Below w.heap.size w W)) W ∧ True) ?_ (fun wq1 hT => ?_)
  · exact ⟨by (first | exact hst | exact ⟨hHeld.1.below hb2, bel_call hHeld.2 hb2⟩ | exact ⟨hHeld.1.below hb3, bel_call hHeld.2 hb3⟩ | exact ⟨(hb4.block w.heap.size (Nat.lt_succ_self _)).trans hHeld.1, hHeld.2.trans (hb4.mono (Nat.le_succ _))⟩ | exact ⟨hHeld.1.below hb5, bel_call hHeld.2 hb5⟩), trivial⟩
  (try clear f0 f1 f2 f3 f4 f5 f6 f7 f8 f9 f10 f11)
  obtain ⟨hHeld, -⟩ := hT
  refine wpAnyH_take (i := 0) (oi := ⟨some 3, _, _, _, _, _⟩) (v := ?_) rfl (by kernel_rfl) (by kernel_rfl) (by kernel_rfl) (fun _ _ _ h => h) (Or.inl ⟨by kernel_rfl, ?_⟩) (by assumption) ?_
  rotate_left
  · (intro wS hSw; (try dsimp only at hSw); obtain ⟨q0, q1, _, _⟩ := hSw.1.two; clear hSw; go_simp; (try with_reducible rfl))
  (try simp only [Act.put, List.setIfInBounds_toArray, List.set_cons_zero, List.set_cons_succ])
  refine wpAnyH_take (i := 1) (oi := ⟨some 4, _, _, _, _, _⟩) (v := ?_) rfl (by kernel_rfl) (by kernel_rfl) (by kernel_rfl) (fun _ _ _ h => h) (Or.inl ⟨by kernel_rfl, ?_⟩) (by assumption) ?_
  rotate_left
  · (intro wS hSw; (try dsimp only at hSw); obtain ⟨q0, q1, _, _⟩ := hSw.1.two; clear hSw; go_simp; (try with_reducible rfl))
  (try simp only [Act.put, List.setIfInBounds_toArray, List.set_cons_zero, List.set_cons_succ])
  refine wpAnyH_take (i := 2) (oi := ⟨some 5, _, _, _, _, _⟩) (v := ?_) rfl (by kernel_rfl) (by kernel_rfl) (by kernel_rfl) (fun _ _ _ h => h) (Or.inl ⟨by kernel_rfl, ?_⟩) (by assumption) ?_
  rotate_left
  · (intro wS hSw; (try dsimp only at hSw); obtain ⟨q0, q1, _, _⟩ := hSw.1.two; clear hSw; go_simp; (try with_reducible rfl))
  (try simp only [Act.put, List.setIfInBounds_toArray, List.set_cons_zero, List.set_cons_succ])
  refine wpAnyH_take (i := 4) (oi := ⟨some 7, _, _, _, _, _⟩) (v := ?_) rfl (by kernel_rfl) (by kernel_rfl) (by kernel_rfl) (fun _ _ _ h => h) (Or.inl ⟨by kernel_rfl, ?_⟩) (by assumption) ?_
  rotate_left
  · (intro wS hSw; (try dsimp only at hSw); obtain ⟨q0, q1, _, _⟩ := hSw.1.two; clear hSw; go_simp; (try with_reducible rfl))
  (try simp only [Act.put, List.setIfInBounds_toArray, List.set_cons_zero, List.set_cons_succ])
  refine wpAnyH_take (i := 5) (oi := ⟨some 8, _, _, _, _, _⟩) (v := ?_) rfl (by kernel_rfl) (by kernel_rfl) (by kernel_rfl) (fun _ _ _ h => h) (Or.inl ⟨by kernel_rfl, ?_⟩) (by assumption) ?_
  rotate_left
  · (intro wS hSw; (try dsimp only at hSw); obtain ⟨q0, q1, _, _⟩ := hSw.1.two; clear hSw; go_simp; (try with_reducible rfl))
  (try simp only [Act.put, List.setIfInBounds_toArray, List.set_cons_zero, List.set_cons_succ])
  refine wpAnyH_ready (rs := [3]) (by kernel_rfl) (by simp) ?_
  refine AllReadyH.cons (o := ⟨some 6, _, _, _, _, _⟩) rfl (fun K hK => ?_) AllReadyH.nil
  go_simp
  (refine (rBytes_any n hun _).mono ?_; rintro e w2 ⟨A2, c2, m2, rfl, hm2, ho2, hb2⟩; have hml2 : m2.length ≤ 10 := (by rw [hm2.out]; exact vb_le10 hun))
  go_wp2_with fail
  refine hK.out _ _ ?_ (fun _ => ?_)
  · ((try dsimp only); (first | exact hst | exact ⟨hHeld.1.below hb2, bel_call hHeld.2 hb2⟩ | exact ⟨hHeld.1.below hb3, bel_call hHeld.2 hb3⟩ | exact ⟨(hb4.block w.heap.size (Nat.lt_succ_self _)).trans hHeld.1, hHeld.2.trans (hb4.mono (Nat.le_succ _))⟩ | exact ⟨hHeld.1.below hb5, bel_call hHeld.2 hb5⟩))
  clear hK K
  (try simp only [Act.put, List.setIfInBounds_toArray, List.set_cons_zero, List.set_cons_succ])
  refine gen0 (T := fun W => ((fun W => Blk W w.heap.size 77 #[.int .i64 (n : Int), .slice E ds.length cap] ∧ Below w.heap.size w W)) W ∧ OwnB W (w.heap.size + 1) 5 A2 c2 m2 ∧ True) ?_ (fun wq2 hT => ?_)
  · exact ⟨by (first | exact hst | exact ⟨hHeld.1.below hb2, bel_call hHeld.2 hb2⟩ | exact ⟨hHeld.1.below hb3, bel_call hHeld.2 hb3⟩ | exact ⟨(hb4.block w.heap.size (Nat.lt_succ_self _)).trans hHeld.1, hHeld.2.trans (hb4.mono (Nat.le_succ _))⟩ | exact ⟨hHeld.1.below hb5, bel_call hHeld.2 hb5⟩), by (first | assumption | exact ho2.more hHeld.1.lt | exact Own.below f0 hb3 | exact ho3.sl | exact ho4.sl | exact ho5.more hHeld.2.size), trivial⟩
  (try clear f0 f1 f2 f3 f4 f5 f6 f7 f8 f9 f10 f11)
  obtain ⟨hHeld, f0, -⟩ := hT
  refine wpAnyH_ready (rs := [6]) (by kernel_rfl) (by simp) ?_
  refine AllReadyH.cons (o := ⟨some 9, _, _, _, _, _⟩) rfl (fun K hK => ?_) AllReadyH.nil
  go_simp
  (refine (rRun_any ds _ (Sl.below h hHeld.2) (by omega) hok).mono ?_; rintro e w3 ⟨A3, c3, m3, rfl, hm3, ho3, hb3⟩; have htl : m2.length + m3.length ≤ 7000 := (by have := HLEN.out; rw [htx.out, ← hm2.out, ← hm3.out] at this; simpa using this))
  go_wp2_with fail
  refine hK.out _ _ ?_ (fun _ => ?_)
  · ((try dsimp only); (first | exact hst | exact ⟨hHeld.1.below hb2, bel_call hHeld.2 hb2⟩ | exact ⟨hHeld.1.below hb3, bel_call hHeld.2 hb3⟩ | exact ⟨(hb4.block w.heap.size (Nat.lt_succ_self _)).trans hHeld.1, hHeld.2.trans (hb4.mono (Nat.le_succ _))⟩ | exact ⟨hHeld.1.below hb5, bel_call hHeld.2 hb5⟩))
  clear hK K
  (try simp only [Act.put, List.setIfInBounds_toArray, List.set_cons_zero, List.set_cons_succ])
  refine gen0 (T := fun W => ((fun W => Blk W w.heap.size 77 #[.int .i64 (n : Int), .slice E ds.length cap] ∧ Below w.heap.size w W)) W ∧ OwnB W (w.heap.size + 1) 5 A2 c2 m2 ∧ SlB W A3 c3 m3 ∧ True) ?_ (fun wq3 hT => ?_)
  · exact ⟨by (first | exact hst | exact ⟨hHeld.1.below hb2, bel_call hHeld.2 hb2⟩ | exact ⟨hHeld.1.below hb3, bel_call hHeld.2 hb3⟩ | exact ⟨(hb4.block w.heap.size (Nat.lt_succ_self _)).trans hHeld.1, hHeld.2.trans (hb4.mono (Nat.le_succ _))⟩ | exact ⟨hHeld.1.below hb5, bel_call hHeld.2 hb5⟩), by (first | assumption | exact ho2.more hHeld.1.lt | exact Own.below f0 hb3 | exact ho3.sl | exact ho4.sl | exact ho5.more hHeld.2.size), by (first | assumption | exact ho2.more hHeld.1.lt | exact Own.below f0 hb3 | exact ho3.sl | exact ho4.sl | exact ho5.more hHeld.2.size), trivial⟩
  (try clear f0 f1 f2 f3 f4 f5 f6 f7 f8 f9 f10 f11)
  obtain ⟨hHeld, f0, f1, -⟩ := hT
  refine wpAnyH_ready (rs := [7]) (by kernel_rfl) (by simp) ?_
  refine AllReadyH.cons (o := ⟨some 10, _, _, _, _, _⟩) rfl (fun K hK => ?_) AllReadyH.nil
  (refine step_bytes 22 5 Try.underlying22 u8_info (by kernel_rfl) (.tmp 6) (.tmp 9) rfl (w.heap.size + 1) A2 c2 m2 rfl f0 A3 c3 m3.length m3 rfl rfl f1 (by omega) hHeld.1.lt ?_; intro A4 c4 m4 w4 hm4 ho4 hb4)
  refine hK.out _ _ ?_ (fun _ => ?_)
  · ((try dsimp only); (first | exact hst | exact ⟨hHeld.1.below hb2, bel_call hHeld.2 hb2⟩ | exact ⟨hHeld.1.below hb3, bel_call hHeld.2 hb3⟩ | exact ⟨(hb4.block w.heap.size (Nat.lt_succ_self _)).trans hHeld.1, hHeld.2.trans (hb4.mono (Nat.le_succ _))⟩ | exact ⟨hHeld.1.below hb5, bel_call hHeld.2 hb5⟩))
  clear hK K
  (try simp only [Act.put, List.setIfInBounds_toArray, List.set_cons_zero, List.set_cons_succ])
  refine gen0 (T := fun W => ((fun W => Blk W w.heap.size 77 #[.int .i64 (n : Int), .slice E ds.length cap] ∧ Below w.heap.size w W)) W ∧ SlB W A4 c4 m4 ∧ True) ?_ (fun wq4 hT => ?_)
  · exact ⟨by (first | exact hst | exact ⟨hHeld.1.below hb2, bel_call hHeld.2 hb2⟩ | exact ⟨hHeld.1.below hb3, bel_call hHeld.2 hb3⟩ | exact ⟨(hb4.block w.heap.size (Nat.lt_succ_self _)).trans hHeld.1, hHeld.2.trans (hb4.mono (Nat.le_succ _))⟩ | exact ⟨hHeld.1.below hb5, bel_call hHeld.2 hb5⟩), by (first | assumption | exact ho2.more hHeld.1.lt | exact Own.below f0 hb3 | exact ho3.sl | exact ho4.sl | exact ho5.more hHeld.2.size), trivial⟩
  (try clear f0 f1 f2 f3 f4 f5 f6 f7 f8 f9 f10 f11)
  obtain ⟨hHeld, f0, -⟩ := hT
  refine wpAnyH_ready (rs := [8]) (by kernel_rfl) (by simp) ?_
  refine AllReadyH.cons (o := ⟨some 11, _, _, _, _, _⟩) rfl (fun K hK => ?_) AllReadyH.nil
  go_simp
  (refine (rFrame_any A4 c4 m4 _ f0 (by rw [hm4.out, List.length_append]; omega)).mono ?_; rintro e w5 ⟨A5, c5, m5, rfl, hm5, ho5, hb5⟩)
  go_wp2_with fail
  refine hK.out _ _ ?_ (fun _ => ?_)
  · ((try dsimp only); (first | exact hst | exact ⟨hHeld.1.below hb2, bel_call hHeld.2 hb2⟩ | exact ⟨hHeld.1.below hb3, bel_call hHeld.2 hb3⟩ | exact ⟨(hb4.block w.heap.size (Nat.lt_succ_self _)).trans hHeld.1, hHeld.2.trans (hb4.mono (Nat.le_succ _))⟩ | exact ⟨hHeld.1.below hb5, bel_call hHeld.2 hb5⟩))
  clear hK K
  (try simp only [Act.put, List.setIfInBounds_toArray, List.set_cons_zero, List.set_cons_succ])
  refine gen0 (T := fun W => ((fun W => Blk W w.heap.size 77 #[.int .i64 (n : Int), .slice E ds.length cap] ∧ Below w.heap.size w W)) W ∧ OwnB W w.heap.size 5 A5 c5 m5 ∧ True) ?_ (fun wq5 hT => ?_)
  · exact ⟨by (first | exact hst | exact ⟨hHeld.1.below hb2, bel_call hHeld.2 hb2⟩ | exact ⟨hHeld.1.below hb3, bel_call hHeld.2 hb3⟩ | exact ⟨(hb4.block w.heap.size (Nat.lt_succ_self _)).trans hHeld.1, hHeld.2.trans (hb4.mono (Nat.le_succ _))⟩ | exact ⟨hHeld.1.below hb5, bel_call hHeld.2 hb5⟩), by (first | assumption | exact ho2.more hHeld.1.lt | exact Own.below f0 hb3 | exact ho3.sl | exact ho4.sl | exact ho5.more hHeld.2.size), trivial⟩
  (try clear f0 f1 f2 f3 f4 f5 f6 f7 f8 f9 f10 f11)
  obtain ⟨hHeld, f0, -⟩ := hT
  refine wpAnyH_take (i := 9) (oi := ⟨some 2, _, _, _, _, _⟩) (v := ?_) rfl (by kernel_rfl) (by kernel_rfl) (by kernel_rfl) (fun _ _ _ h => h) (Or.inl ⟨by kernel_rfl, ?_⟩) (by assumption) ?_
  rotate_left
  · (intro wS hSw; (try dsimp only at hSw); obtain ⟨q0, q1, _, _⟩ := hSw.1.two; clear hSw; go_simp; (try with_reducible rfl))
  (try simp only [Act.put, List.setIfInBounds_toArray, List.set_cons_zero, List.set_cons_succ])
  refine wpAnyH_done (by kernel_rfl) ?_ _
  go_wp2_with fail
  go_ret
  exact ⟨A5, c5, m5, rfl, (show _ = _ from by rw [hm5.out, hm4.out, hm2.out, hm3.out, htx.out]), f0, hHeld.2⟩
end Go.Proofs.Ytjkdnnekagcdhaa

namespace Go.Proofs.Ytjkdnnekagcdhaa
theorem longb_all {l : List CeV} {n : Int} (h : longb (l.map ceOf) n = false) (hn : n ≤ 1000) : (∀ x ∈ l, x.2.2.2.length ≤ 1000000000) ∧ l.length ≤ 1000 := by
  unfold longb at h
  simp only [Bool.or_eq_false_iff, decide_eq_false_iff_not, List.any_eq_false] at h
  refine ⟨fun x hx => ?_, ?_⟩
  · have := h.1 (ceOf x) (List.mem_map_of_mem hx)
    simp at this
    omega
  · have := h.2
    simp at this
    omega
end Go.Proofs.Ytjkdnnekagcdhaa
