/- WHAT IT HOLDS: Put of segments, and the law's fixed fact, walked. | WHAT IT HOLDS: the law CrcParts, walked. | WHAT IT HOLDS: the law CrcFinds, walked. | WHAT IT HOLDS: the law FrameFinds, walked. | WHAT IT HOLDS: frame.Join, and the document's frames, walked. -/
import Derived.Test.YtjkdnnekagcdhaaSegmentTakesG24
import Derived.Test.YtjkdnnekagcdhaaSegmentTakesG28
import Derived.Test.YtjkdnnekagcdhaaSegmentTakesG27
import Derived.Test.YtjkdnnekagcdhaaSegmentTakesG03
import Derived.Laws.CopyOwn
namespace Go.Proofs.Ytjkdnnekagcdhaa
open Go.RowKit
attribute [local go_sem ↓] Go.wp_at_zero Go.wp_at_succ

theorem PutRun_ok {E B : Option Addr} {cap b : Nat} {l : List UInt8} (cs : List CeV) (w : World) (hs : SlB w B b l) (h : SlC w E cap cs) (hl : l.length ≤ 1000000) (h1 : cs.length ≤ 64) (h2 : rchk (cs.map ceOf) = 0) :
    Calls Try.prog 52 #[.slice B l.length b, .slice E cs.length cap] w fun e w' => ∃ A c m, e = .returned (.tuple #[.slice A (List.length m) c, .nilIface]) ∧ Hid (m = l ++ (vb cs.length ++ prun [] (cs.map ceOf))) ∧ OwnB w' w.heap.size 5 A c m ∧ Below w.heap.size w w' := by
  refine (PutRun_any cs w hs h hl).mono ?_
  rintro e w3 ⟨hb3, ⟨A3, c3, m3, hl3, hr3, rfl, hm3, ho3⟩ | ⟨bad, hbad, hbe, rfl⟩⟩
  · exact ⟨A3, c3, m3, rfl, (show _ = _ from by rw [hm3.out]; simp), ho3, hb3⟩
  · rw [if_neg (by simp; omega), h2] at hbe
    exact absurd hbe hbad
def stxt (s : Sg) : List UInt8 := vb s.1.toNat ++ (vb s.2.length ++ prun [] s.2)
theorem stxt_len {s : Sg} (h : schk s = 0) : (stxt s).length ≤ 7000 := by
  obtain ⟨h0, h1, h2, h3, h4⟩ := schk_ok h
  have h5 := rchk_zero h4
  have h6 := vb_le10 (n := s.1.toNat) (by omega)
  have h7 := vb_le10 (n := s.2.length) (by omega)
  have h8 := rgo_len s.2 none [] h5
  rw [rgo_prun 64 s.2 [] h2 h2 h5 (by simp)] at h8
  unfold stxt
  simp only [List.length_append]
  omega
def sput (s : Sg) : List UInt8 × Nat := if schk s ≠ 0 then ([], schk s) else fput [] (stxt s)
set_option maxRecDepth 100000 in
set_option maxHeartbeats 2000000 in
theorem SPut_any {E : Option Addr} {cap : Nat} (f : Int) (cs : List CeV) (w : World) (h : SlC w E cap cs) :
    Calls Try.prog 44 #[cv f E cs.length cap] w (PutsB w (sput (f, cs.map ceOf))) := by
  have hB := Blk.new w 75 #[.int .i64 f, .slice E cs.length cap]
  have hbw := below_new w (.cells #[.int .i64 f, .slice E cs.length cap] 75)
  obtain ⟨a0, a1, _, _⟩ := hB.two
  go_enter Try.func44, Try.ntmps44
  go_wp2_with fail
  refine (SCheck_any f cs _ (h.below hbw)).mono ?_
  rintro e w1 ⟨rfl, hb1⟩
  have hB1 := hB.below hb1
  have hw1 := bel_call hbw hb1
  clear hB hbw hb1 a0 a1
  rcases errv_cases (schk (f, cs.map ceOf)) with ⟨h0, hev⟩ | ⟨k, hk, hke, hev⟩
  · obtain ⟨hf0, hf1, hn64, hne, hr0⟩ := schk_ok h0
    dsimp only at hf0 hf1 hn64 hne hr0
    have HLEN := Lib.hid (stxt_len h0)
    have HS := Lib.hid (show sput (f, cs.map ceOf) = fput [] (stxt (f, cs.map ceOf)) from by unfold sput; rw [if_neg (by rw [h0]; simp)])
    rw [hev]
    clear hev h0
    obtain ⟨n, rfl⟩ : ∃ n : Nat, f = n := ⟨f.toNat, by omega⟩
    have hun : U64 n := by unfold U64; omega
    have hwn := wrap_u64_of hun
    have hPR := Lib.hid (fun (B : Option Addr) (b : Nat) (l : List UInt8) (W : World) (hs : SlB W B b l) (hh : SlC W E cap cs) (hl : l.length ≤ 1000000) => PutRun_ok cs W hs hh hl (by simpa using hn64) hr0)
    clear hr0 hne hn64
    go_upto_region 4 with (fail)
    have hst : Blk w1.drew w.heap.size 75 #[.int .i64 (n : Int), .slice E cs.length cap] ∧ Below w.heap.size w w1.drew := ⟨hB1.drew, hw1.drew⟩
    clear hB1 hw1
    refine wp_region_held_drew (S := (fun W => Blk W w.heap.size 75 #[.int .i64 (n : Int), .slice E cs.length cap] ∧ Below w.heap.size w W)) (by kernel_rfl) ?_ (fun hHeld => ?_)
    · exact hst
    refine gen0 (T := fun W => ((fun W => Blk W w.heap.size 75 #[.int .i64 (n : Int), .slice E cs.length cap] ∧ Below w.heap.size w W)) W ∧ True) ?_ (fun wq1 hT => ?_)
    · exact ⟨by (first | exact hst | exact ⟨hHeld.1.below hb2, bel_call hHeld.2 hb2⟩ | exact ⟨hHeld.1.below hb3, bel_call hHeld.2 hb3⟩ | exact ⟨hHeld.1.alloc _, bel_alloc hHeld.2 _⟩), trivial⟩
    (try clear f0 f1 f2 f3 f4 f5 f6 f7 f8 f9 f10 f11)
    obtain ⟨hHeld, -⟩ := hT
    refine wpAnyH_take (i := 0) (oi := ⟨some 13, _, _, _, _, _⟩) (v := ?_) rfl (by kernel_rfl) (by kernel_rfl) (by kernel_rfl) (fun _ _ _ h => h) (Or.inl ⟨by kernel_rfl, ?_⟩) (by assumption) ?_
    rotate_left
    · (intro wS hSw; (try dsimp only at hSw); obtain ⟨q0, q1, _, _⟩ := hSw.1.two; clear hSw; go_simp; (try with_reducible rfl))
    (try simp only [Act.put, List.setIfInBounds_toArray, List.set_cons_zero, List.set_cons_succ])
    refine wpAnyH_take (i := 1) (oi := ⟨some 14, _, _, _, _, _⟩) (v := ?_) rfl (by kernel_rfl) (by kernel_rfl) (by kernel_rfl) (fun _ _ _ h => h) (Or.inl ⟨by kernel_rfl, ?_⟩) (by assumption) ?_
    rotate_left
    · (intro wS hSw; (try dsimp only at hSw); obtain ⟨q0, q1, _, _⟩ := hSw.1.two; clear hSw; go_simp; (try with_reducible rfl))
    (try simp only [Act.put, List.setIfInBounds_toArray, List.set_cons_zero, List.set_cons_succ])
    refine wpAnyH_take (i := 2) (oi := ⟨some 15, _, _, _, _, _⟩) (v := ?_) rfl (by kernel_rfl) (by kernel_rfl) (by kernel_rfl) (fun _ _ _ h => h) (Or.inl ⟨by kernel_rfl, ?_⟩) (by assumption) ?_
    rotate_left
    · (intro wS hSw; (try dsimp only at hSw); obtain ⟨q0, q1, _, _⟩ := hSw.1.two; clear hSw; go_simp; (try with_reducible rfl))
    (try simp only [Act.put, List.setIfInBounds_toArray, List.set_cons_zero, List.set_cons_succ])
    refine wpAnyH_take (i := 5) (oi := ⟨some 18, _, _, _, _, _⟩) (v := ?_) rfl (by kernel_rfl) (by kernel_rfl) (by kernel_rfl) (fun _ _ _ h => h) (Or.inl ⟨by kernel_rfl, ?_⟩) (by assumption) ?_
    rotate_left
    · (intro wS hSw; (try dsimp only at hSw); obtain ⟨q0, q1, _, _⟩ := hSw.1.two; clear hSw; go_simp; (try with_reducible rfl))
    (try simp only [Act.put, List.setIfInBounds_toArray, List.set_cons_zero, List.set_cons_succ])
    refine wpAnyH_take (i := 6) (oi := ⟨some 19, _, _, _, _, _⟩) (v := ?_) rfl (by kernel_rfl) (by kernel_rfl) (by kernel_rfl) (fun _ _ _ h => h) (Or.inl ⟨by kernel_rfl, ?_⟩) (by assumption) ?_
    rotate_left
    · (intro wS hSw; (try dsimp only at hSw); obtain ⟨q0, q1, _, _⟩ := hSw.1.two; clear hSw; go_simp; (try with_reducible rfl))
    (try simp only [Act.put, List.setIfInBounds_toArray, List.set_cons_zero, List.set_cons_succ])
    refine wpAnyH_ready (rs := [3]) (by kernel_rfl) (by simp) ?_
    refine AllReadyH.cons (o := ⟨some 16, _, _, _, _, _⟩) rfl (fun K hK => ?_) AllReadyH.nil
    go_simp
    refine hK.out _ _ ?_ (fun _ => ?_)
    · ((try dsimp only); (first | exact hst | exact ⟨hHeld.1.below hb2, bel_call hHeld.2 hb2⟩ | exact ⟨hHeld.1.below hb3, bel_call hHeld.2 hb3⟩ | exact ⟨hHeld.1.alloc _, bel_alloc hHeld.2 _⟩))
    clear hK K
    (try simp only [Act.put, List.setIfInBounds_toArray, List.set_cons_zero, List.set_cons_succ])
    refine gen0 (T := fun W => ((fun W => Blk W w.heap.size 75 #[.int .i64 (n : Int), .slice E cs.length cap] ∧ Below w.heap.size w W)) W ∧ SlN W (some ⟨wq1.heap.size, 0, none⟩) 1 [n] ∧ True) ?_ (fun wq2 hT => ?_)
    · exact ⟨by (first | exact hst | exact ⟨hHeld.1.below hb2, bel_call hHeld.2 hb2⟩ | exact ⟨hHeld.1.below hb3, bel_call hHeld.2 hb3⟩ | exact ⟨hHeld.1.alloc _, bel_alloc hHeld.2 _⟩), by (first | assumption | exact Sl.lits _ [nv n] 143 (by simp [maxLen]) | exact ho2.sl | exact ho3.more hHeld.2.size), trivial⟩
    (try clear f0 f1 f2 f3 f4 f5 f6 f7 f8 f9 f10 f11)
    obtain ⟨hHeld, f0, -⟩ := hT
    refine wpAnyH_ready (rs := [4]) (by kernel_rfl) (by simp) ?_
    refine AllReadyH.cons (o := ⟨some 17, _, _, _, _, _⟩) rfl (fun K hK => ?_) AllReadyH.nil
    go_simp
    (refine (Put_any none 0 [] _ 1 [n] _ (by simp) (Sl.none_ _ _) f0 (by simp) (by intro z hz; simp at hz; subst hz; exact hun)).mono ?_; rintro e w2 ⟨A2, c2, m2, rfl, hm2, ho2, hb2⟩; have hml2 : m2.length ≤ 10 := (by rw [hm2.out]; simp [vbs]; exact vb_le10 hun))
    go_wp2_with fail
    refine hK.out _ _ ?_ (fun _ => ?_)
    · ((try dsimp only); (first | exact hst | exact ⟨hHeld.1.below hb2, bel_call hHeld.2 hb2⟩ | exact ⟨hHeld.1.below hb3, bel_call hHeld.2 hb3⟩ | exact ⟨hHeld.1.alloc _, bel_alloc hHeld.2 _⟩))
    clear hK K
    (try simp only [Act.put, List.setIfInBounds_toArray, List.set_cons_zero, List.set_cons_succ])
    refine gen0 (T := fun W => ((fun W => Blk W w.heap.size 75 #[.int .i64 (n : Int), .slice E cs.length cap] ∧ Below w.heap.size w W)) W ∧ SlB W A2 c2 m2 ∧ True) ?_ (fun wq3 hT => ?_)
    · exact ⟨by (first | exact hst | exact ⟨hHeld.1.below hb2, bel_call hHeld.2 hb2⟩ | exact ⟨hHeld.1.below hb3, bel_call hHeld.2 hb3⟩ | exact ⟨hHeld.1.alloc _, bel_alloc hHeld.2 _⟩), by (first | assumption | exact Sl.lits _ [nv n] 143 (by simp [maxLen]) | exact ho2.sl | exact ho3.more hHeld.2.size), trivial⟩
    (try clear f0 f1 f2 f3 f4 f5 f6 f7 f8 f9 f10 f11)
    obtain ⟨hHeld, f0, -⟩ := hT
    refine wpAnyH_ready (rs := [7]) (by kernel_rfl) (by simp) ?_
    refine AllReadyH.cons (o := ⟨some 20, _, _, _, _, _⟩) rfl (fun K hK => ?_) AllReadyH.nil
    go_simp
    (refine (hPR.out A2 c2 m2 _ f0 (h.below hHeld.2) (by omega)).mono ?_; rintro e w3 ⟨A3, c3, m3, rfl, hm3, ho3, hb3⟩)
    go_wp2_with fail
    refine hK.out _ _ ?_ (fun _ => ?_)
    · ((try dsimp only); (first | exact hst | exact ⟨hHeld.1.below hb2, bel_call hHeld.2 hb2⟩ | exact ⟨hHeld.1.below hb3, bel_call hHeld.2 hb3⟩ | exact ⟨hHeld.1.alloc _, bel_alloc hHeld.2 _⟩))
    clear hK K
    (try simp only [Act.put, List.setIfInBounds_toArray, List.set_cons_zero, List.set_cons_succ])
    refine gen0 (T := fun W => ((fun W => Blk W w.heap.size 75 #[.int .i64 (n : Int), .slice E cs.length cap] ∧ Below w.heap.size w W)) W ∧ OwnB W w.heap.size 5 A3 c3 m3 ∧ True) ?_ (fun wq4 hT => ?_)
    · exact ⟨by (first | exact hst | exact ⟨hHeld.1.below hb2, bel_call hHeld.2 hb2⟩ | exact ⟨hHeld.1.below hb3, bel_call hHeld.2 hb3⟩ | exact ⟨hHeld.1.alloc _, bel_alloc hHeld.2 _⟩), by (first | assumption | exact Sl.lits _ [nv n] 143 (by simp [maxLen]) | exact ho2.sl | exact ho3.more hHeld.2.size), trivial⟩
    (try clear f0 f1 f2 f3 f4 f5 f6 f7 f8 f9 f10 f11)
    obtain ⟨hHeld, f0, -⟩ := hT
    refine wpAnyH_take (i := 8) (oi := ⟨some 12, _, _, _, _, _⟩) (v := ?_) rfl (by kernel_rfl) (by kernel_rfl) (by kernel_rfl) (fun _ _ _ h => h) (Or.inl ⟨by kernel_rfl, ?_⟩) (by assumption) ?_
    rotate_left
    · (intro wS hSw; (try dsimp only at hSw); obtain ⟨q0, q1, _, _⟩ := hSw.1.two; clear hSw; go_simp; (try with_reducible rfl))
    (try simp only [Act.put, List.setIfInBounds_toArray, List.set_cons_zero, List.set_cons_succ])
    refine wpAnyH_take (i := 9) (oi := ⟨some 21, _, _, _, _, _⟩) (v := ?_) rfl (by kernel_rfl) (by kernel_rfl) (by kernel_rfl) (fun _ _ _ h => h) (Or.inl ⟨by kernel_rfl, ?_⟩) (by assumption) ?_
    rotate_left
    · (intro wS hSw; (try dsimp only at hSw); obtain ⟨q0, q1, _, _⟩ := hSw.1.two; clear hSw; go_simp; (try with_reducible rfl))
    (try simp only [Act.put, List.setIfInBounds_toArray, List.set_cons_zero, List.set_cons_succ])
    refine wpAnyH_take (i := 10) (oi := ⟨some 22, _, _, _, _, _⟩) (v := ?_) rfl (by kernel_rfl) (by kernel_rfl) (by kernel_rfl) (fun _ _ _ h => h) (Or.inl ⟨by kernel_rfl, ?_⟩) (by assumption) ?_
    rotate_left
    · (intro wS hSw; (try dsimp only at hSw); obtain ⟨q0, q1, _, _⟩ := hSw.1.two; clear hSw; go_simp; (try with_reducible rfl))
    (try simp only [Act.put, List.setIfInBounds_toArray, List.set_cons_zero, List.set_cons_succ])
    refine wpAnyH_take (i := 11) (oi := ⟨some 5, _, _, _, _, _⟩) (v := ?_) rfl (by kernel_rfl) (by kernel_rfl) (by kernel_rfl) (fun _ _ _ h => h) (Or.inl ⟨by kernel_rfl, ?_⟩) (by assumption) ?_
    rotate_left
    · (intro wS hSw; (try dsimp only at hSw); obtain ⟨q0, q1, _, _⟩ := hSw.1.two; clear hSw; go_simp; (try with_reducible rfl))
    (try simp only [Act.put, List.setIfInBounds_toArray, List.set_cons_zero, List.set_cons_succ])
    refine wpAnyH_take (i := 12) (oi := ⟨some 6, _, _, _, _, _⟩) (v := ?_) rfl (by kernel_rfl) (by kernel_rfl) (by kernel_rfl) (fun _ _ _ h => h) (Or.inl ⟨by kernel_rfl, ?_⟩) (by assumption) ?_
    rotate_left
    · (intro wS hSw; (try dsimp only at hSw); obtain ⟨q0, q1, _, _⟩ := hSw.1.two; clear hSw; go_simp; (try with_reducible rfl))
    (try simp only [Act.put, List.setIfInBounds_toArray, List.set_cons_zero, List.set_cons_succ])
    refine wpAnyH_done (by kernel_rfl) ?_ _
    have htx : m3 = stxt ((n : Int), cs.map ceOf) := by rw [hm3.out, hm2.out]; unfold stxt; simp [vbs]
    have HT := Lib.hid htx
    have hml3 : m3.length ≤ 7000 := by rw [htx]; exact HLEN.out
    obtain ⟨hBq, hwq⟩ := hHeld
    clear htx hst hBq
    go_wp2_with fail
    refine (FPut_any none 0 [] A3 c3 m3 _ (by simp) (Sl.none_ _ _) f0.sl (by omega)).mono ?_
    rintro e w4 ⟨A4, c4, m4, rfl, hm4, ho4, hb4⟩
    go_wp2_with fail
    go_ret2
    exact ⟨A4, c4, m4, by rw [HS.out, ← HT.out]; rfl, (show _ = _ from by rw [hm4.out, HS.out, HT.out]), ho4.more hwq.size, bel_call hwq hb4⟩
  · have HJ : Hid (sput (f, cs.map ceOf) = ([], schk (f, cs.map ceOf))) := (show _ = _ from by
      unfold sput
      rw [if_pos (by omega)])
    have HEV := Lib.hid hev
    rw [hev]
    clear hev hke
    go_wp2_with fail
    go_ret2
    exact ⟨none, 0, [], by rw [HJ.out]; dsimp only; rw [HEV.out]; rfl, (show _ = _ from by rw [HJ.out]), Own.none_ _ _ _ _, hw1⟩

theorem a14_ok : schk (3, [(2, [])]) = 0 := by decide
theorem a14_txt : stxt (3, [(2, [])]) = [3, 1, 1, 2] := by simp [stxt, prun, rowN, rowGo, vb_small]
set_option maxRecDepth 100000 in
set_option maxHeartbeats 1000000 in
theorem alive14_any (w : World) : Calls Try.prog 41 #[] w fun e w' => e = .returned (.bool true) ∧ Below w.heap.size w w' := by
  have hC : SlC (w.alloc (.cells #[.int .i64 2, .slice none 0 0] 24)) (some ⟨w.heap.size, 0, none⟩) 1 [(2, none, 0, [])] := ⟨Sl.litsS w 2 1 (cf (2, none, 0, [])) 24 rfl (by simp [maxLen]), fun x hx => by rw [List.mem_singleton.1 hx]; exact Sl.none_ _ _⟩
  have hbn := below_new w (.cells #[.int .i64 2, .slice none 0 0] 24)
  go_enter Try.func41, Try.ntmps41
  go_wp2_with fail
  refine (SPut_any 3 [(2, none, 0, [])] _ hC).mono ?_
  rintro e w1 ⟨A1, c1, m1, he, hm1, ho1, hb1⟩
  have hp : sput (3, List.map ceOf [(2, none, 0, [])]) = ([4, 3, 1, 1, 2] ++ four (sumW (txb [3, 1, 1, 2])), 0) := by
    show sput (3, [(2, [])]) = _
    unfold sput
    rw [if_neg (by rw [a14_ok]; simp), a14_txt]
    unfold fput
    rw [if_neg (by simp)]
    have h4 : txb [3, 1, 1, 2] = [4, 3, 1, 1, 2] := by simp [txb, vb_small]
    unfold frm
    rw [h4]
    rfl
  rw [hp] at he hm1
  have h9 : m1.length = 9 := by rw [hm1.out]; simp [four_len]
  have h5 : m1.take 5 = [4, 3, 1, 1, 2] := by rw [hm1.out]; rfl
  have hev : errv 0 = .nilIface := rfl
  dsimp only at he
  rw [hev, h9] at he
  subst he
  have hsl := Sl.takeB ho1.sl 5
  rw [h5] at hsl
  have hc9 : 9 ≤ c1 := by have := ho1.sl.2.1; omega
  have hcv := conv_str (P := Try.prog) 22 9 5 Try.underlying22 Try.underlying5 Try.underlying9 (n := 5) hsl rfl
  clear h9 h5 hm1 hp hev
  go_wp2_with fail
  go_ret
  exact ⟨rfl, bel_call hbn hb1⟩
end Go.Proofs.Ytjkdnnekagcdhaa

namespace Go.Proofs.Ytjkdnnekagcdhaa
open Go.RowKit
attribute [local go_sem ↓] Go.wp_at_zero Go.wp_at_succ

theorem u64_tmod (a : Int) (n : Nat) : ∃ k : Nat, k ≤ n ∧ (IntKind.u64.wrap a).tmod ((n : Int) + 1) = (k : Int) := by
  have h : 0 ≤ IntKind.u64.wrap a := wrap_u64_nonneg a
  rw [Int.tmod_eq_emod_of_nonneg h]
  have h1 := Int.emod_nonneg (IntKind.u64.wrap a) (show (n : Int) + 1 ≠ 0 by omega)
  have h2 := Int.emod_lt_of_pos (IntKind.u64.wrap a) (show (0 : Int) < (n : Int) + 1 by omega)
  exact ⟨((IntKind.u64.wrap a) % ((n : Int) + 1)).toNat, by omega, by omega⟩
theorem opened_sealed (l : List UInt8) : opened (l ++ four (sumW l)) = (l, 0) := by
  have h4 := four_len (sumW l)
  unfold opened
  have hl : (l ++ four (sumW l)).length - 4 = l.length := by simp [h4]
  rw [if_neg (by rw [List.length_append, h4]; omega), hl, List.take_left, List.drop_left, if_pos rfl]

end Go.Proofs.Ytjkdnnekagcdhaa

namespace Go.Proofs.Ytjkdnnekagcdhaa
open Go.RowKit
attribute [local go_sem ↓] Go.wp_at_zero Go.wp_at_succ

theorem u64_tmod_pos (a : Int) (n : Nat) (hn : 0 < n) : ∃ k : Nat, k < n ∧ (IntKind.u64.wrap a).tmod (n : Int) = (k : Int) := by
  obtain ⟨k, hk, he⟩ := u64_tmod a (n - 1)
  refine ⟨k, by omega, ?_⟩
  rw [← he]
  congr 1
  omega
/-- the bits that have been turned so far -/
def wpart (x n8 place i : Nat) : Nat := x % 2 ^ min i (n8 - place)
theorem wpart_out {x n8 place i : Nat} (h : n8 ≤ place + i) : wpart x n8 place (i + 1) = wpart x n8 place i := by
  unfold wpart; rw [Nat.min_eq_right (by omega), Nat.min_eq_right (by omega)]
theorem wpart_off {x n8 place i : Nat} (hp : place + i < n8) (h : x.testBit i = false) : wpart x n8 place (i + 1) = wpart x n8 place i := by
  unfold wpart
  rw [Nat.min_eq_left (by omega), Nat.min_eq_left (by omega)]
  apply Nat.eq_of_testBit_eq
  intro j
  simp only [Nat.testBit_mod_two_pow]
  by_cases hj : j = i
  · subst hj; simp [h]
  · by_cases h1 : j < i
    · simp [h1, show j < i + 1 from by omega]
    · simp [h1, show ¬ j < i + 1 from by omega]
theorem wpart_on {x n8 place i : Nat} (hp : place + i < n8) (h : x.testBit i = true) : wpart x n8 place (i + 1) = wpart x n8 place i ^^^ 2 ^ i := by
  unfold wpart
  rw [Nat.min_eq_left (by omega), Nat.min_eq_left (by omega)]
  apply Nat.eq_of_testBit_eq
  intro j
  simp only [Nat.testBit_mod_two_pow, Nat.testBit_xor, Nat.testBit_two_pow]
  by_cases hj : j = i
  · subst hj; simp [h]
  · by_cases h1 : j < i
    · simp [h1, show j < i + 1 from by omega, show ¬ i = j from by omega]
    · simp [h1, show ¬ j < i + 1 from by omega, show ¬ i = j from by omega]
theorem wpart_on_ne {x n8 place i : Nat} (hp : place + i < n8) (h : x.testBit i = true) : wpart x n8 place (i + 1) ≠ 0 := by
  rw [wpart_on hp h]
  intro he
  have := congrArg (fun y => y.testBit i) he
  simp [Nat.testBit_xor, Nat.testBit_two_pow, wpart, Nat.testBit_mod_two_pow, Nat.min_eq_left (show i ≤ n8 - place from by omega)] at this
theorem set_bit {l m : List UInt8} {W place i : Nat} (hl : m.length = l.length) (h : leN m = leN l ^^^ (W <<< place)) (hp : (place + i) / 8 < m.length) :
    leN (m.set ((place + i) / 8) (m[(place + i) / 8] ^^^ UInt8.ofNat (2 ^ ((place + i) % 8)))) = leN l ^^^ ((W ^^^ 2 ^ i) <<< place) := by
  rw [leN_set _ _ hp, h, Nat.xor_assoc, Nat.shiftLeft_xor_distrib]
  congr 2
  have h8 : (place + i) % 8 < 8 := Nat.mod_lt _ (by decide)
  have h2 : 2 ^ ((place + i) % 8) < 256 := Nat.pow_lt_pow_right (a := 2) (by decide) h8
  rw [UInt8.toNat_ofNat', Nat.mod_eq_of_lt h2, Nat.shiftLeft_eq, Nat.shiftLeft_eq, ← Nat.pow_add, ← Nat.pow_add]
  congr 1
  omega
theorem own_set {w : World} {base : Nat} {e : TypeId} {A : Option Addr} {c j : Nat} {m : List UInt8} {x : UInt8} {g : Nat} (h : OwnB w base e A c m) (hA : A = some ⟨g, 0, none⟩) (hj : j < m.length) : OwnB (w.setCell ⟨g, j, none⟩ (bv x)) base e A c (m.set j x) := by
  obtain ⟨h1, h2⟩ := h
  rcases h2 with ⟨hv, hn⟩ | ⟨g', cap, cur, hv, hb, hh, hnc, hcm, hcs, ht⟩
  · subst hA; simp at hv
  · subst hA
    simp at hv
    obtain ⟨rfl, rfl⟩ := hv
    have hb2 : bvs (m.set j x) = (bvs m).set j (bv x) := by rw [bvs, bvs, List.map_set]
    refine ⟨by simp, .inr ⟨g, c, cur.setIfInBounds j (bv x), by simp, hb, ?_, by simpa using hnc, hcm, by simpa using hcs, ?_⟩⟩
    · simp [World.setCell, Array.getElem?_modify, hh]
    · rw [Array.toList_setIfInBounds, List.length_set, List.take_set, ht, hb2]

theorem Sl.apartB {w w5 w6 : World} {A : Option Addr} {c g : Nat} {l : List UInt8} (h : SlB w A c l) (hb : But g w w5) (_ : g < w.heap.size) (hb6 : Below w.heap.size w5 w6) (hA : l ≠ [] → A.map (·.block) ≠ some g) : SlB w6 A c l := by
  have h5 := SlB.but h hb hA
  refine ⟨h.1, h.2.1, h.2.2.1, h.2.2.2.1, fun j u hj => ?_⟩
  obtain ⟨ad, hA2, hc⟩ := h5.2.2.2.2 j u hj
  obtain ⟨ad', hA', hc'⟩ := h.2.2.2.2 j u hj
  rw [hA2] at hA'
  injection hA' with e
  subst e
  exact ⟨ad, hA2, (hb6.cell (World.block_lt_of_cell? w _ hc')).trans hc⟩
theorem own_copy {w : World} {base g cap : Nat} {e : TypeId} {cur : List Value} {l m f : List UInt8} (hg : base ≤ g) (hh : w.heap[g]? = some (.cells (splice cur 0 (bvs m)).toArray e (0, 0))) (hn : (l ++ f).length ≤ cap) (hcm : cap ≤ maxLen)
    (hcs : cur.length = cap) (ht : cur.take (l ++ f).length = bvs (l ++ f)) (hlm : m.length = l.length) : OwnB w base e (some ⟨g, 0, none⟩) cap (m ++ f) := by
  have h1 : (m ++ f).length = (l ++ f).length := by simp [hlm]
  have h2 : (bvs m).length = m.length := by simp
  refine ⟨by simp, .inr ⟨g, cap, _, rfl, hg, hh, by rw [h1]; exact hn, hcm, ?_, ?_⟩⟩
  · simp only [List.size_toArray]
    rw [length_splice _ _ _ (by rw [h2, hcs, hlm]; rw [List.length_append] at hn; omega), hcs]
    omega
  · show List.take ((m ++ f).length * 1) (splice cur 0 (bvs m)) = bvs (m ++ f)
    have h3 : bvs (m ++ f) = bvs m ++ bvs f := List.map_append
    have h4 : (cur.drop m.length).take f.length = bvs f := by
      have := congrArg (List.drop l.length) ht
      rw [List.drop_take, List.length_append, Nat.add_sub_cancel_left] at this
      rw [hlm, this]
      show (bvs (l ++ f)).drop l.length = bvs f
      rw [show bvs (l ++ f) = bvs l ++ bvs f from List.map_append, List.drop_left' (by simp)]
    rw [h3, ← h4]
    unfold splice
    rw [List.take_zero, List.nil_append, Nat.zero_add, h2, Nat.mul_one, List.length_append, List.take_append, h2, List.take_of_length_le (by rw [h2]; omega), Nat.add_sub_cancel_left]
theorem opened_other {l m : List UInt8} (h : sumW m ≠ sumW l) : opened (m ++ four (sumW l)) = ([], 11) := by
  have h4 := four_len (sumW l)
  unfold opened
  have hl : (m ++ four (sumW l)).length - 4 = m.length := by simp [h4]
  rw [if_neg (by rw [List.length_append, h4]; omega), hl, List.take_left, List.drop_left, if_neg (fun e => h (four_inj e))]

end Go.Proofs.Ytjkdnnekagcdhaa

namespace Go.Proofs.Ytjkdnnekagcdhaa
open Go.RowKit
attribute [local go_sem ↓] Go.wp_at_zero Go.wp_at_succ

theorem frm_nil : frm [] = [0, 82, 125, 83, 81] := by
  unfold frm txb
  rw [show vb ([] : List UInt8).length = [0] from vb_small (by decide)]
  decide +kernel
theorem FTake_len (A : Option Addr) (c k : Nat) (l : List UInt8) (w : World) (hk : k = l.length) (hs : SlB w A c l) (hl : l.length ≤ 10000000) :
    Calls Try.prog 140 #[.slice A k c] w (TakesF w (ftake l)) := by subst hk; exact FTake_any A c l w hs hl
end Go.Proofs.Ytjkdnnekagcdhaa

namespace Go.Proofs.Ytjkdnnekagcdhaa
open Go.RowKit
attribute [local go_sem ↓] Go.wp_at_zero Go.wp_at_succ

def ptx (ps : List Pt) : List (List UInt8) := ps.map (·.2.2)
theorem ptx_get {ps : List Pt} {k : Nat} (h : k < (ptx ps).length) (h2 : k < ps.length) : (ptx ps)[k] = ps[k].2.2 := List.getElem_map _
def frms (ts : List (List UInt8)) : List UInt8 := ts.flatMap frm
def fjoin (ts : List (List UInt8)) : List UInt8 × Nat := if ts.any (fun t => decide (65536 < t.length)) then ([], 3) else (frms ts, 0)
theorem fjoin_long {ts : List (List UInt8)} {k : Nat} (hk : k < ts.length) (h : 65536 < ts[k].length) : fjoin ts = ([], 3) := by
  unfold fjoin; rw [if_pos]
  exact List.any_eq_true.2 ⟨ts[k], List.getElem_mem hk, decide_eq_true h⟩
theorem fjoin_ok {ts : List (List UInt8)} (h : ∀ t ∈ ts, t.length ≤ 65536) : fjoin ts = (frms ts, 0) := by
  unfold fjoin; rw [if_neg]
  intro he
  obtain ⟨t, ht, hd⟩ := List.any_eq_true.1 he
  have := of_decide_eq_true hd
  have := h t ht
  omega
theorem frms_snoc {ts : List (List UInt8)} {k : Nat} (hk : k < ts.length) : frms (ts.take (k + 1)) = frms (ts.take k) ++ frm ts[k] := by
  unfold frms; rw [List.take_succ_eq_append_getElem hk, List.flatMap_append]; simp
theorem frms_le {ts : List (List UInt8)} (h : ∀ t ∈ ts, t.length ≤ 70000) : (frms ts).length ≤ 70014 * ts.length := by
  induction ts with
  | nil => simp [frms]
  | cons t ts ih =>
    have h1 := h t (by simp)
    have h2 := ih (fun q hq => h q (by simp [hq]))
    have h3 := frm_len t
    have h4 := vb_le10 (n := t.length) (by omega)
    simp only [frms, List.flatMap_cons, List.length_append, List.length_cons] at h2 ⊢
    omega
/-- what Join answers -/
def JoinsB (w0 : World) (o : List UInt8 × Nat) (e : Ending) (w' : World) : Prop :=
  ∃ A c m, e = .returned (.tuple #[.slice A (List.length m) c, errv o.2]) ∧ Hid (m = o.1) ∧ SlB w' A c m ∧ Below w0.heap.size w0 w'

set_option maxRecDepth 100000 in
set_option maxHeartbeats 1000000 in
theorem rFrame_any (A : Option Addr) (c : Nat) (t : List UInt8) (w : World) (hs : SlB w A c t) (ht : t.length ≤ 1000000) :
    Calls Try.prog 104 #[.slice A t.length c] w (GivesB w (frm t)) := by
  have hvl := Lib.hid (vb_le10 (n := t.length) (by omega))
  go_enter Try.func104, Try.ntmps104
  go_wp2_with fail
  refine (rText_any A c t _ hs (by omega)).mono ?_
  rintro e w1 ⟨A1, c1, m1, rfl, hm1, ho1, hb1⟩
  have hm1' := Lib.hid (show m1 = txb t from hm1.out)
  have hl1 := Lib.hid (show m1.length ≤ 1000010 from by rw [hm1'.out]; unfold txb; rw [List.length_append]; have := hvl.out; omega)
  go_wp2_with fail
  refine (rSum_any A1 c1 m1 _ ho1.sl (by have := hl1.out; omega)).mono ?_
  rintro e w2 ⟨rfl, rfl⟩
  go_wp2_with fail
  refine (rFour_any (sumW m1) _).mono ?_
  rintro e w3 ⟨A3, c3, m3, rfl, hm3, hs3, hb3⟩
  have hl3 := Lib.hid (show m3.length = 4 from by rw [hm3.out, four_len])
  go_wp2_with (at_builtin; go_must (refine wpl_bytes 22 5 Try.underlying22 u8_info rfl _ _ rfl w.heap.size A1 c1 m1 rfl (ho1.below hb3) A3 c3 m3 rfl hs3 (by have := hl1.out; have := hl3.out; omega) (Nat.le_trans hb1.size hb3.size) ?_; intro A4 c4 m4 w4 hm4 ho4 _ _ hb4))
  go_ret
  exact ⟨A4, c4, m4, rfl, (show m4 = _ from by rw [hm4.out, hm3.out, hm1'.out]; rfl), ho4, (bel_call hb1 hb3).trans hb4⟩
end Go.Proofs.Ytjkdnnekagcdhaa
