/- WHAT IT HOLDS: Put of segments, and the law's fixed fact, walked. | WHAT IT HOLDS: the law CrcParts, walked. | WHAT IT HOLDS: the law CrcFinds, walked. | WHAT IT HOLDS: the law FrameFinds, walked. | WHAT IT HOLDS: frame.Join, and the document's frames, walked. | WHAT IT HOLDS: the law FrameJoins, walked. | WHAT IT HOLDS: frame.One, Prefix, All, walked. | WHAT IT HOLDS: the document's Take and Prefix, and lists side by side, walked. | WHAT IT HOLDS: lists of texts side by side; frame.All, walked. | WHAT IT HOLDS: the law FrameTakes, walked. -/
import Derived.Test.YtjkdnnekagcdhaaCellBackG18
import Derived.Test.YtjkdnnekagcdhaaCellBackG19
import Derived.Test.YtjkdnnekagcdhaaCellBackG02
import Derived.Laws.CopyOwn
namespace Go.Proofs.Ytjkdnnekagcdhaa
open Go.RowKit
attribute [local go_sem ↓] Go.wp_at_zero Go.wp_at_succ

theorem PutRun_ok {E B : Option Addr} {cap b : Nat} {l : List UInt8} (cs : List CeV) (w : World) (hs : SlB w B b l) (h : SlC w E cap cs) (hl : l.length ≤ 1000000) (h1 : cs.length ≤ 64) (h2 : rchk (cs.map ceOf) = 0) :
    Calls Try.prog 52 #[.slice B l.length b, .slice E cs.length cap] w fun e w' => ∃ A c m, e = .returned (.tuple #[.slice A (List.length m) c, .nilIface]) ∧ Hid (m = l ++ (vb cs.length ++ prun [] (cs.map ceOf))) ∧ OwnB w' w.heap.size 5 A c m ∧ Below w.heap.size w w' := by
  refine (PutRun_any cs w hs h hl).mono ?_
  rintro e w3 ⟨hb3, ⟨A3, c3, m3, hl3, hr3, rfl, hm3, ho3⟩ | ⟨bad, hbad, hbe, rfl⟩⟩
  · exact ⟨A3, c3, m3, rfl, (show _ = _ from by rw [hm3.out]; simp), ho3, hb3⟩
  · rw [if_neg (by simp; omega), h2] at hbe
    exact absurd hbe hbad
def stxt (s : Sg) : List UInt8 := vb s.1.toNat ++ (vb s.2.length ++ prun [] s.2)
theorem stxt_len {s : Sg} (h : schk s = 0) : (stxt s).length ≤ 7000 := by
  obtain ⟨h0, h1, h2, h3, h4⟩ := schk_ok h
  have h5 := rchk_zero h4
  have h6 := vb_le10 (n := s.1.toNat) (by omega)
  have h7 := vb_le10 (n := s.2.length) (by omega)
  have h8 := rgo_len s.2 none [] h5
  rw [rgo_prun 64 s.2 [] h2 h2 h5 (by simp)] at h8
  unfold stxt
  simp only [List.length_append]
  omega
def sput (s : Sg) : List UInt8 × Nat := if schk s ≠ 0 then ([], schk s) else fput [] (stxt s)
set_option maxRecDepth 100000 in
set_option maxHeartbeats 2000000 in
theorem SPut_any {E : Option Addr} {cap : Nat} (f : Int) (cs : List CeV) (w : World) (h : SlC w E cap cs) :
    Calls Try.prog 44 #[cv f E cs.length cap] w (PutsB w (sput (f, cs.map ceOf))) := by
  have hB := Blk.new w 75 #[.int .i64 f, .slice E cs.length cap]
  have hbw := below_new w (.cells #[.int .i64 f, .slice E cs.length cap] 75)
  obtain ⟨a0, a1, _, _⟩ := hB.two
  go_enter Try.func44, Try.ntmps44
  go_wp2_with fail
  refine (SCheck_any f cs _ (h.below hbw)).mono ?_
  rintro e w1 ⟨rfl, hb1⟩
  have hB1 := hB.below hb1
  have hw1 := bel_call hbw hb1
  clear hB hbw hb1 a0 a1
  rcases errv_cases (schk (f, cs.map ceOf)) with ⟨h0, hev⟩ | ⟨k, hk, hke, hev⟩
  · obtain ⟨hf0, hf1, hn64, hne, hr0⟩ := schk_ok h0
    dsimp only at hf0 hf1 hn64 hne hr0
    have HLEN := Lib.hid (stxt_len h0)
    have HS := Lib.hid (show sput (f, cs.map ceOf) = fput [] (stxt (f, cs.map ceOf)) from by unfold sput; rw [if_neg (by rw [h0]; simp)])
    rw [hev]
    clear hev h0
    obtain ⟨n, rfl⟩ : ∃ n : Nat, f = n := ⟨f.toNat, by omega⟩
    have hun : U64 n := by unfold U64; omega
    have hwn := wrap_u64_of hun
    have hPR := Lib.hid (fun (B : Option Addr) (b : Nat) (l : List UInt8) (W : World) (hs : SlB W B b l) (hh : SlC W E cap cs) (hl : l.length ≤ 1000000) => PutRun_ok cs W hs hh hl (by simpa using hn64) hr0)
    clear hr0 hne hn64
    go_upto_region 4 with (fail)
    have hst : Blk w1.drew w.heap.size 75 #[.int .i64 (n : Int), .slice E cs.length cap] ∧ Below w.heap.size w w1.drew := ⟨hB1.drew, hw1.drew⟩
    clear hB1 hw1
    refine wp_region_held_drew (S := (fun W => Blk W w.heap.size 75 #[.int .i64 (n : Int), .slice E cs.length cap] ∧ Below w.heap.size w W)) (by kernel_rfl) ?_ (fun hHeld => ?_)
    · exact hst
    refine gen0 (T := fun W => ((fun W => Blk W w.heap.size 75 #[.int .i64 (n : Int), .slice E cs.length cap] ∧ Below w.heap.size w W)) W ∧ True) ?_ (fun wq1 hT => ?_)
    · exact ⟨by (first | exact hst | exact ⟨hHeld.1.below hb2, bel_call hHeld.2 hb2⟩ | exact ⟨hHeld.1.below hb3, bel_call hHeld.2 hb3⟩ | exact ⟨hHeld.1.alloc _, bel_alloc hHeld.2 _⟩), trivial⟩
    (try clear f0 f1 f2 f3 f4 f5 f6 f7 f8 f9 f10 f11)
    obtain ⟨hHeld, -⟩ := hT
    refine wpAnyH_take (i := 0) (oi := ⟨some 13, _, _, _, _, _⟩) (v := ?_) rfl (by kernel_rfl) (by kernel_rfl) (by kernel_rfl) (fun _ _ _ h => h) (Or.inl ⟨by kernel_rfl, ?_⟩) (by assumption) ?_
    rotate_left
    · (intro wS hSw; (try dsimp only at hSw); obtain ⟨q0, q1, _, _⟩ := hSw.1.two; clear hSw; go_simp; (try with_reducible rfl))
    (try simp only [Act.put, List.setIfInBounds_toArray, List.set_cons_zero, List.set_cons_succ])
    refine wpAnyH_take (i := 1) (oi := ⟨some 14, _, _, _, _, _⟩) (v := ?_) rfl (by kernel_rfl) (by kernel_rfl) (by kernel_rfl) (fun _ _ _ h => h) (Or.inl ⟨by kernel_rfl, ?_⟩) (by assumption) ?_
    rotate_left
    · (intro wS hSw; (try dsimp only at hSw); obtain ⟨q0, q1, _, _⟩ := hSw.1.two; clear hSw; go_simp; (try with_reducible rfl))
    (try simp only [Act.put, List.setIfInBounds_toArray, List.set_cons_zero, List.set_cons_succ])
    refine wpAnyH_take (i := 2) (oi := ⟨some 15, _, _, _, _, _⟩) (v := ?_) rfl (by kernel_rfl) (by kernel_rfl) (by kernel_rfl) (fun _ _ _ h => h) (Or.inl ⟨by kernel_rfl, ?_⟩) (by assumption) ?_
    rotate_left
    · (intro wS hSw; (try dsimp only at hSw); obtain ⟨q0, q1, _, _⟩ := hSw.1.two; clear hSw; go_simp; (try with_reducible rfl))
    (try simp only [Act.put, List.setIfInBounds_toArray, List.set_cons_zero, List.set_cons_succ])
    refine wpAnyH_take (i := 5) (oi := ⟨some 18, _, _, _, _, _⟩) (v := ?_) rfl (by kernel_rfl) (by kernel_rfl) (by kernel_rfl) (fun _ _ _ h => h) (Or.inl ⟨by kernel_rfl, ?_⟩) (by assumption) ?_
    rotate_left
    · (intro wS hSw; (try dsimp only at hSw); obtain ⟨q0, q1, _, _⟩ := hSw.1.two; clear hSw; go_simp; (try with_reducible rfl))
    (try simp only [Act.put, List.setIfInBounds_toArray, List.set_cons_zero, List.set_cons_succ])
    refine wpAnyH_take (i := 6) (oi := ⟨some 19, _, _, _, _, _⟩) (v := ?_) rfl (by kernel_rfl) (by kernel_rfl) (by kernel_rfl) (fun _ _ _ h => h) (Or.inl ⟨by kernel_rfl, ?_⟩) (by assumption) ?_
    rotate_left
    · (intro wS hSw; (try dsimp only at hSw); obtain ⟨q0, q1, _, _⟩ := hSw.1.two; clear hSw; go_simp; (try with_reducible rfl))
    (try simp only [Act.put, List.setIfInBounds_toArray, List.set_cons_zero, List.set_cons_succ])
    refine wpAnyH_ready (rs := [3]) (by kernel_rfl) (by simp) ?_
    refine AllReadyH.cons (o := ⟨some 16, _, _, _, _, _⟩) rfl (fun K hK => ?_) AllReadyH.nil
    go_simp
    refine hK.out _ _ ?_ (fun _ => ?_)
    · ((try dsimp only); (first | exact hst | exact ⟨hHeld.1.below hb2, bel_call hHeld.2 hb2⟩ | exact ⟨hHeld.1.below hb3, bel_call hHeld.2 hb3⟩ | exact ⟨hHeld.1.alloc _, bel_alloc hHeld.2 _⟩))
    clear hK K
    (try simp only [Act.put, List.setIfInBounds_toArray, List.set_cons_zero, List.set_cons_succ])
    refine gen0 (T := fun W => ((fun W => Blk W w.heap.size 75 #[.int .i64 (n : Int), .slice E cs.length cap] ∧ Below w.heap.size w W)) W ∧ SlN W (some ⟨wq1.heap.size, 0, none⟩) 1 [n] ∧ True) ?_ (fun wq2 hT => ?_)
    · exact ⟨by (first | exact hst | exact ⟨hHeld.1.below hb2, bel_call hHeld.2 hb2⟩ | exact ⟨hHeld.1.below hb3, bel_call hHeld.2 hb3⟩ | exact ⟨hHeld.1.alloc _, bel_alloc hHeld.2 _⟩), by (first | assumption | exact Sl.lits _ [nv n] 143 (by simp [maxLen]) | exact ho2.sl | exact ho3.more hHeld.2.size), trivial⟩
    (try clear f0 f1 f2 f3 f4 f5 f6 f7 f8 f9 f10 f11)
    obtain ⟨hHeld, f0, -⟩ := hT
    refine wpAnyH_ready (rs := [4]) (by kernel_rfl) (by simp) ?_
    refine AllReadyH.cons (o := ⟨some 17, _, _, _, _, _⟩) rfl (fun K hK => ?_) AllReadyH.nil
    go_simp
    (refine (Put_any none 0 [] _ 1 [n] _ (by simp) (Sl.none_ _ _) f0 (by simp) (by intro z hz; simp at hz; subst hz; exact hun)).mono ?_; rintro e w2 ⟨A2, c2, m2, rfl, hm2, ho2, hb2⟩; have hml2 : m2.length ≤ 10 := (by rw [hm2.out]; simp [vbs]; exact vb_le10 hun))
    go_wp2_with fail
    refine hK.out _ _ ?_ (fun _ => ?_)
    · ((try dsimp only); (first | exact hst | exact ⟨hHeld.1.below hb2, bel_call hHeld.2 hb2⟩ | exact ⟨hHeld.1.below hb3, bel_call hHeld.2 hb3⟩ | exact ⟨hHeld.1.alloc _, bel_alloc hHeld.2 _⟩))
    clear hK K
    (try simp only [Act.put, List.setIfInBounds_toArray, List.set_cons_zero, List.set_cons_succ])
    refine gen0 (T := fun W => ((fun W => Blk W w.heap.size 75 #[.int .i64 (n : Int), .slice E cs.length cap] ∧ Below w.heap.size w W)) W ∧ SlB W A2 c2 m2 ∧ True) ?_ (fun wq3 hT => ?_)
    · exact ⟨by (first | exact hst | exact ⟨hHeld.1.below hb2, bel_call hHeld.2 hb2⟩ | exact ⟨hHeld.1.below hb3, bel_call hHeld.2 hb3⟩ | exact ⟨hHeld.1.alloc _, bel_alloc hHeld.2 _⟩), by (first | assumption | exact Sl.lits _ [nv n] 143 (by simp [maxLen]) | exact ho2.sl | exact ho3.more hHeld.2.size), trivial⟩
    (try clear f0 f1 f2 f3 f4 f5 f6 f7 f8 f9 f10 f11)
    obtain ⟨hHeld, f0, -⟩ := hT
    refine wpAnyH_ready (rs := [7]) (by kernel_rfl) (by simp) ?_
    refine AllReadyH.cons (o := ⟨some 20, _, _, _, _, _⟩) rfl (fun K hK => ?_) AllReadyH.nil
    go_simp
    (refine (hPR.out A2 c2 m2 _ f0 (h.below hHeld.2) (by omega)).mono ?_; rintro e w3 ⟨A3, c3, m3, rfl, hm3, ho3, hb3⟩)
    go_wp2_with fail
    refine hK.out _ _ ?_ (fun _ => ?_)
    · ((try dsimp only); (first | exact hst | exact ⟨hHeld.1.below hb2, bel_call hHeld.2 hb2⟩ | exact ⟨hHeld.1.below hb3, bel_call hHeld.2 hb3⟩ | exact ⟨hHeld.1.alloc _, bel_alloc hHeld.2 _⟩))
    clear hK K
    (try simp only [Act.put, List.setIfInBounds_toArray, List.set_cons_zero, List.set_cons_succ])
    refine gen0 (T := fun W => ((fun W => Blk W w.heap.size 75 #[.int .i64 (n : Int), .slice E cs.length cap] ∧ Below w.heap.size w W)) W ∧ OwnB W w.heap.size 5 A3 c3 m3 ∧ True) ?_ (fun wq4 hT => ?_)
    · exact ⟨by (first | exact hst | exact ⟨hHeld.1.below hb2, bel_call hHeld.2 hb2⟩ | exact ⟨hHeld.1.below hb3, bel_call hHeld.2 hb3⟩ | exact ⟨hHeld.1.alloc _, bel_alloc hHeld.2 _⟩), by (first | assumption | exact Sl.lits _ [nv n] 143 (by simp [maxLen]) | exact ho2.sl | exact ho3.more hHeld.2.size), trivial⟩
    (try clear f0 f1 f2 f3 f4 f5 f6 f7 f8 f9 f10 f11)
    obtain ⟨hHeld, f0, -⟩ := hT
    refine wpAnyH_take (i := 8) (oi := ⟨some 12, _, _, _, _, _⟩) (v := ?_) rfl (by kernel_rfl) (by kernel_rfl) (by kernel_rfl) (fun _ _ _ h => h) (Or.inl ⟨by kernel_rfl, ?_⟩) (by assumption) ?_
    rotate_left
    · (intro wS hSw; (try dsimp only at hSw); obtain ⟨q0, q1, _, _⟩ := hSw.1.two; clear hSw; go_simp; (try with_reducible rfl))
    (try simp only [Act.put, List.setIfInBounds_toArray, List.set_cons_zero, List.set_cons_succ])
    refine wpAnyH_take (i := 9) (oi := ⟨some 21, _, _, _, _, _⟩) (v := ?_) rfl (by kernel_rfl) (by kernel_rfl) (by kernel_rfl) (fun _ _ _ h => h) (Or.inl ⟨by kernel_rfl, ?_⟩) (by assumption) ?_
    rotate_left
    · (intro wS hSw; (try dsimp only at hSw); obtain ⟨q0, q1, _, _⟩ := hSw.1.two; clear hSw; go_simp; (try with_reducible rfl))
    (try simp only [Act.put, List.setIfInBounds_toArray, List.set_cons_zero, List.set_cons_succ])
    refine wpAnyH_take (i := 10) (oi := ⟨some 22, _, _, _, _, _⟩) (v := ?_) rfl (by kernel_rfl) (by kernel_rfl) (by kernel_rfl) (fun _ _ _ h => h) (Or.inl ⟨by kernel_rfl, ?_⟩) (by assumption) ?_
    rotate_left
    · (intro wS hSw; (try dsimp only at hSw); obtain ⟨q0, q1, _, _⟩ := hSw.1.two; clear hSw; go_simp; (try with_reducible rfl))
    (try simp only [Act.put, List.setIfInBounds_toArray, List.set_cons_zero, List.set_cons_succ])
    refine wpAnyH_take (i := 11) (oi := ⟨some 5, _, _, _, _, _⟩) (v := ?_) rfl (by kernel_rfl) (by kernel_rfl) (by kernel_rfl) (fun _ _ _ h => h) (Or.inl ⟨by kernel_rfl, ?_⟩) (by assumption) ?_
    rotate_left
    · (intro wS hSw; (try dsimp only at hSw); obtain ⟨q0, q1, _, _⟩ := hSw.1.two; clear hSw; go_simp; (try with_reducible rfl))
    (try simp only [Act.put, List.setIfInBounds_toArray, List.set_cons_zero, List.set_cons_succ])
    refine wpAnyH_take (i := 12) (oi := ⟨some 6, _, _, _, _, _⟩) (v := ?_) rfl (by kernel_rfl) (by kernel_rfl) (by kernel_rfl) (fun _ _ _ h => h) (Or.inl ⟨by kernel_rfl, ?_⟩) (by assumption) ?_
    rotate_left
    · (intro wS hSw; (try dsimp only at hSw); obtain ⟨q0, q1, _, _⟩ := hSw.1.two; clear hSw; go_simp; (try with_reducible rfl))
    (try simp only [Act.put, List.setIfInBounds_toArray, List.set_cons_zero, List.set_cons_succ])
    refine wpAnyH_done (by kernel_rfl) ?_ _
    have htx : m3 = stxt ((n : Int), cs.map ceOf) := by rw [hm3.out, hm2.out]; unfold stxt; simp [vbs]
    have HT := Lib.hid htx
    have hml3 : m3.length ≤ 7000 := by rw [htx]; exact HLEN.out
    obtain ⟨hBq, hwq⟩ := hHeld
    clear htx hst hBq
    go_wp2_with fail
    refine (FPut_any none 0 [] A3 c3 m3 _ (by simp) (Sl.none_ _ _) f0.sl (by omega)).mono ?_
    rintro e w4 ⟨A4, c4, m4, rfl, hm4, ho4, hb4⟩
    go_wp2_with fail
    go_ret2
    exact ⟨A4, c4, m4, by rw [HS.out, ← HT.out]; rfl, (show _ = _ from by rw [hm4.out, HS.out, HT.out]), ho4.more hwq.size, bel_call hwq hb4⟩
  · have HJ : Hid (sput (f, cs.map ceOf) = ([], schk (f, cs.map ceOf))) := (show _ = _ from by
      unfold sput
      rw [if_pos (by omega)])
    have HEV := Lib.hid hev
    rw [hev]
    clear hev hke
    go_wp2_with fail
    go_ret2
    exact ⟨none, 0, [], by rw [HJ.out]; dsimp only; rw [HEV.out]; rfl, (show _ = _ from by rw [HJ.out]), Own.none_ _ _ _ _, hw1⟩

theorem a14_ok : schk (3, [(2, [])]) = 0 := by decide
theorem a14_txt : stxt (3, [(2, [])]) = [3, 1, 1, 2] := by simp [stxt, prun, rowN, rowGo, vb_small]
set_option maxRecDepth 100000 in
set_option maxHeartbeats 1000000 in
theorem alive14_any (w : World) : Calls Try.prog 41 #[] w fun e w' => e = .returned (.bool true) ∧ Below w.heap.size w w' := by
  have hC : SlC (w.alloc (.cells #[.int .i64 2, .slice none 0 0] 24)) (some ⟨w.heap.size, 0, none⟩) 1 [(2, none, 0, [])] := ⟨Sl.litsS w 2 1 (cf (2, none, 0, [])) 24 rfl (by simp [maxLen]), fun x hx => by rw [List.mem_singleton.1 hx]; exact Sl.none_ _ _⟩
  have hbn := below_new w (.cells #[.int .i64 2, .slice none 0 0] 24)
  go_enter Try.func41, Try.ntmps41
  go_wp2_with fail
  refine (SPut_any 3 [(2, none, 0, [])] _ hC).mono ?_
  rintro e w1 ⟨A1, c1, m1, he, hm1, ho1, hb1⟩
  have hp : sput (3, List.map ceOf [(2, none, 0, [])]) = ([4, 3, 1, 1, 2] ++ four (sumW (txb [3, 1, 1, 2])), 0) := by
    show sput (3, [(2, [])]) = _
    unfold sput
    rw [if_neg (by rw [a14_ok]; simp), a14_txt]
    unfold fput
    rw [if_neg (by simp)]
    have h4 : txb [3, 1, 1, 2] = [4, 3, 1, 1, 2] := by simp [txb, vb_small]
    unfold frm
    rw [h4]
    rfl
  rw [hp] at he hm1
  have h9 : m1.length = 9 := by rw [hm1.out]; simp [four_len]
  have h5 : m1.take 5 = [4, 3, 1, 1, 2] := by rw [hm1.out]; rfl
  have hev : errv 0 = .nilIface := rfl
  dsimp only at he
  rw [hev, h9] at he
  subst he
  have hsl := Sl.takeB ho1.sl 5
  rw [h5] at hsl
  have hc9 : 9 ≤ c1 := by have := ho1.sl.2.1; omega
  have hcv := conv_str (P := Try.prog) 22 9 5 Try.underlying22 Try.underlying5 Try.underlying9 (n := 5) hsl rfl
  clear h9 h5 hm1 hp hev
  go_wp2_with fail
  go_ret
  exact ⟨rfl, bel_call hbn hb1⟩
end Go.Proofs.Ytjkdnnekagcdhaa

namespace Go.Proofs.Ytjkdnnekagcdhaa
open Go.RowKit
attribute [local go_sem ↓] Go.wp_at_zero Go.wp_at_succ

theorem u64_tmod (a : Int) (n : Nat) : ∃ k : Nat, k ≤ n ∧ (IntKind.u64.wrap a).tmod ((n : Int) + 1) = (k : Int) := by
  have h : 0 ≤ IntKind.u64.wrap a := wrap_u64_nonneg a
  rw [Int.tmod_eq_emod_of_nonneg h]
  have h1 := Int.emod_nonneg (IntKind.u64.wrap a) (show (n : Int) + 1 ≠ 0 by omega)
  have h2 := Int.emod_lt_of_pos (IntKind.u64.wrap a) (show (0 : Int) < (n : Int) + 1 by omega)
  exact ⟨((IntKind.u64.wrap a) % ((n : Int) + 1)).toNat, by omega, by omega⟩
theorem opened_sealed (l : List UInt8) : opened (l ++ four (sumW l)) = (l, 0) := by
  have h4 := four_len (sumW l)
  unfold opened
  have hl : (l ++ four (sumW l)).length - 4 = l.length := by simp [h4]
  rw [if_neg (by rw [List.length_append, h4]; omega), hl, List.take_left, List.drop_left, if_pos rfl]

end Go.Proofs.Ytjkdnnekagcdhaa

namespace Go.Proofs.Ytjkdnnekagcdhaa
open Go.RowKit
attribute [local go_sem ↓] Go.wp_at_zero Go.wp_at_succ

theorem u64_tmod_pos (a : Int) (n : Nat) (hn : 0 < n) : ∃ k : Nat, k < n ∧ (IntKind.u64.wrap a).tmod (n : Int) = (k : Int) := by
  obtain ⟨k, hk, he⟩ := u64_tmod a (n - 1)
  refine ⟨k, by omega, ?_⟩
  rw [← he]
  congr 1
  omega
/-- the bits that have been turned so far -/
def wpart (x n8 place i : Nat) : Nat := x % 2 ^ min i (n8 - place)
theorem wpart_out {x n8 place i : Nat} (h : n8 ≤ place + i) : wpart x n8 place (i + 1) = wpart x n8 place i := by
  unfold wpart; rw [Nat.min_eq_right (by omega), Nat.min_eq_right (by omega)]
theorem wpart_off {x n8 place i : Nat} (hp : place + i < n8) (h : x.testBit i = false) : wpart x n8 place (i + 1) = wpart x n8 place i := by
  unfold wpart
  rw [Nat.min_eq_left (by omega), Nat.min_eq_left (by omega)]
  apply Nat.eq_of_testBit_eq
  intro j
  simp only [Nat.testBit_mod_two_pow]
  by_cases hj : j = i
  · subst hj; simp [h]
  · by_cases h1 : j < i
    · simp [h1, show j < i + 1 from by omega]
    · simp [h1, show ¬ j < i + 1 from by omega]
theorem wpart_on {x n8 place i : Nat} (hp : place + i < n8) (h : x.testBit i = true) : wpart x n8 place (i + 1) = wpart x n8 place i ^^^ 2 ^ i := by
  unfold wpart
  rw [Nat.min_eq_left (by omega), Nat.min_eq_left (by omega)]
  apply Nat.eq_of_testBit_eq
  intro j
  simp only [Nat.testBit_mod_two_pow, Nat.testBit_xor, Nat.testBit_two_pow]
  by_cases hj : j = i
  · subst hj; simp [h]
  · by_cases h1 : j < i
    · simp [h1, show j < i + 1 from by omega, show ¬ i = j from by omega]
    · simp [h1, show ¬ j < i + 1 from by omega, show ¬ i = j from by omega]
theorem wpart_on_ne {x n8 place i : Nat} (hp : place + i < n8) (h : x.testBit i = true) : wpart x n8 place (i + 1) ≠ 0 := by
  rw [wpart_on hp h]
  intro he
  have := congrArg (fun y => y.testBit i) he
  simp [Nat.testBit_xor, Nat.testBit_two_pow, wpart, Nat.testBit_mod_two_pow, Nat.min_eq_left (show i ≤ n8 - place from by omega)] at this
theorem set_bit {l m : List UInt8} {W place i : Nat} (hl : m.length = l.length) (h : leN m = leN l ^^^ (W <<< place)) (hp : (place + i) / 8 < m.length) :
    leN (m.set ((place + i) / 8) (m[(place + i) / 8] ^^^ UInt8.ofNat (2 ^ ((place + i) % 8)))) = leN l ^^^ ((W ^^^ 2 ^ i) <<< place) := by
  rw [leN_set _ _ hp, h, Nat.xor_assoc, Nat.shiftLeft_xor_distrib]
  congr 2
  have h8 : (place + i) % 8 < 8 := Nat.mod_lt _ (by decide)
  have h2 : 2 ^ ((place + i) % 8) < 256 := Nat.pow_lt_pow_right (a := 2) (by decide) h8
  rw [UInt8.toNat_ofNat', Nat.mod_eq_of_lt h2, Nat.shiftLeft_eq, Nat.shiftLeft_eq, ← Nat.pow_add, ← Nat.pow_add]
  congr 1
  omega
theorem own_set {w : World} {base : Nat} {e : TypeId} {A : Option Addr} {c j : Nat} {m : List UInt8} {x : UInt8} {g : Nat} (h : OwnB w base e A c m) (hA : A = some ⟨g, 0, none⟩) (hj : j < m.length) : OwnB (w.setCell ⟨g, j, none⟩ (bv x)) base e A c (m.set j x) := by
  obtain ⟨h1, h2⟩ := h
  rcases h2 with ⟨hv, hn⟩ | ⟨g', cap, cur, hv, hb, hh, hnc, hcm, hcs, ht⟩
  · subst hA; simp at hv
  · subst hA
    simp at hv
    obtain ⟨rfl, rfl⟩ := hv
    have hb2 : bvs (m.set j x) = (bvs m).set j (bv x) := by rw [bvs, bvs, List.map_set]
    refine ⟨by simp, .inr ⟨g, c, cur.setIfInBounds j (bv x), by simp, hb, ?_, by simpa using hnc, hcm, by simpa using hcs, ?_⟩⟩
    · simp [World.setCell, Array.getElem?_modify, hh]
    · rw [Array.toList_setIfInBounds, List.length_set, List.take_set, ht, hb2]

theorem Sl.apartB {w w5 w6 : World} {A : Option Addr} {c g : Nat} {l : List UInt8} (h : SlB w A c l) (hb : But g w w5) (_ : g < w.heap.size) (hb6 : Below w.heap.size w5 w6) (hA : l ≠ [] → A.map (·.block) ≠ some g) : SlB w6 A c l := by
  have h5 := SlB.but h hb hA
  refine ⟨h.1, h.2.1, h.2.2.1, h.2.2.2.1, fun j u hj => ?_⟩
  obtain ⟨ad, hA2, hc⟩ := h5.2.2.2.2 j u hj
  obtain ⟨ad', hA', hc'⟩ := h.2.2.2.2 j u hj
  rw [hA2] at hA'
  injection hA' with e
  subst e
  exact ⟨ad, hA2, (hb6.cell (World.block_lt_of_cell? w _ hc')).trans hc⟩
theorem own_copy {w : World} {base g cap : Nat} {e : TypeId} {cur : List Value} {l m f : List UInt8} (hg : base ≤ g) (hh : w.heap[g]? = some (.cells (splice cur 0 (bvs m)).toArray e (0, 0))) (hn : (l ++ f).length ≤ cap) (hcm : cap ≤ maxLen)
    (hcs : cur.length = cap) (ht : cur.take (l ++ f).length = bvs (l ++ f)) (hlm : m.length = l.length) : OwnB w base e (some ⟨g, 0, none⟩) cap (m ++ f) := by
  have h1 : (m ++ f).length = (l ++ f).length := by simp [hlm]
  have h2 : (bvs m).length = m.length := by simp
  refine ⟨by simp, .inr ⟨g, cap, _, rfl, hg, hh, by rw [h1]; exact hn, hcm, ?_, ?_⟩⟩
  · simp only [List.size_toArray]
    rw [length_splice _ _ _ (by rw [h2, hcs, hlm]; rw [List.length_append] at hn; omega), hcs]
    omega
  · show List.take ((m ++ f).length * 1) (splice cur 0 (bvs m)) = bvs (m ++ f)
    have h3 : bvs (m ++ f) = bvs m ++ bvs f := List.map_append
    have h4 : (cur.drop m.length).take f.length = bvs f := by
      have := congrArg (List.drop l.length) ht
      rw [List.drop_take, List.length_append, Nat.add_sub_cancel_left] at this
      rw [hlm, this]
      show (bvs (l ++ f)).drop l.length = bvs f
      rw [show bvs (l ++ f) = bvs l ++ bvs f from List.map_append, List.drop_left' (by simp)]
    rw [h3, ← h4]
    unfold splice
    rw [List.take_zero, List.nil_append, Nat.zero_add, h2, Nat.mul_one, List.length_append, List.take_append, h2, List.take_of_length_le (by rw [h2]; omega), Nat.add_sub_cancel_left]
theorem opened_other {l m : List UInt8} (h : sumW m ≠ sumW l) : opened (m ++ four (sumW l)) = ([], 11) := by
  have h4 := four_len (sumW l)
  unfold opened
  have hl : (m ++ four (sumW l)).length - 4 = m.length := by simp [h4]
  rw [if_neg (by rw [List.length_append, h4]; omega), hl, List.take_left, List.drop_left, if_neg (fun e => h (four_inj e))]

end Go.Proofs.Ytjkdnnekagcdhaa

namespace Go.Proofs.Ytjkdnnekagcdhaa
open Go.RowKit
attribute [local go_sem ↓] Go.wp_at_zero Go.wp_at_succ

theorem frm_nil : frm [] = [0, 82, 125, 83, 81] := by
  unfold frm txb
  rw [show vb ([] : List UInt8).length = [0] from vb_small (by decide)]
  decide +kernel
theorem FTake_len (A : Option Addr) (c k : Nat) (l : List UInt8) (w : World) (hk : k = l.length) (hs : SlB w A c l) (hl : l.length ≤ 10000000) :
    Calls Try.prog 140 #[.slice A k c] w (TakesF w (ftake l)) := by subst hk; exact FTake_any A c l w hs hl
end Go.Proofs.Ytjkdnnekagcdhaa

namespace Go.Proofs.Ytjkdnnekagcdhaa
open Go.RowKit
attribute [local go_sem ↓] Go.wp_at_zero Go.wp_at_succ

def ptx (ps : List Pt) : List (List UInt8) := ps.map (·.2.2)
theorem ptx_get {ps : List Pt} {k : Nat} (h : k < (ptx ps).length) (h2 : k < ps.length) : (ptx ps)[k] = ps[k].2.2 := List.getElem_map _
def frms (ts : List (List UInt8)) : List UInt8 := ts.flatMap frm
def fjoin (ts : List (List UInt8)) : List UInt8 × Nat := if ts.any (fun t => decide (65536 < t.length)) then ([], 3) else (frms ts, 0)
theorem fjoin_long {ts : List (List UInt8)} {k : Nat} (hk : k < ts.length) (h : 65536 < ts[k].length) : fjoin ts = ([], 3) := by
  unfold fjoin; rw [if_pos]
  exact List.any_eq_true.2 ⟨ts[k], List.getElem_mem hk, decide_eq_true h⟩
theorem fjoin_ok {ts : List (List UInt8)} (h : ∀ t ∈ ts, t.length ≤ 65536) : fjoin ts = (frms ts, 0) := by
  unfold fjoin; rw [if_neg]
  intro he
  obtain ⟨t, ht, hd⟩ := List.any_eq_true.1 he
  have := of_decide_eq_true hd
  have := h t ht
  omega
theorem frms_snoc {ts : List (List UInt8)} {k : Nat} (hk : k < ts.length) : frms (ts.take (k + 1)) = frms (ts.take k) ++ frm ts[k] := by
  unfold frms; rw [List.take_succ_eq_append_getElem hk, List.flatMap_append]; simp
theorem frms_le {ts : List (List UInt8)} (h : ∀ t ∈ ts, t.length ≤ 70000) : (frms ts).length ≤ 70014 * ts.length := by
  induction ts with
  | nil => simp [frms]
  | cons t ts ih =>
    have h1 := h t (by simp)
    have h2 := ih (fun q hq => h q (by simp [hq]))
    have h3 := frm_len t
    have h4 := vb_le10 (n := t.length) (by omega)
    simp only [frms, List.flatMap_cons, List.length_append, List.length_cons] at h2 ⊢
    omega
/-- what Join answers -/
def JoinsB (w0 : World) (o : List UInt8 × Nat) (e : Ending) (w' : World) : Prop :=
  ∃ A c m, e = .returned (.tuple #[.slice A (List.length m) c, errv o.2]) ∧ Hid (m = o.1) ∧ SlB w' A c m ∧ Below w0.heap.size w0 w'

set_option maxRecDepth 100000 in
set_option maxHeartbeats 1000000 in
theorem rFrame_any (A : Option Addr) (c : Nat) (t : List UInt8) (w : World) (hs : SlB w A c t) (ht : t.length ≤ 1000000) :
    Calls Try.prog 104 #[.slice A t.length c] w (GivesB w (frm t)) := by
  have hvl := Lib.hid (vb_le10 (n := t.length) (by omega))
  go_enter Try.func104, Try.ntmps104
  go_wp2_with fail
  refine (rText_any A c t _ hs (by omega)).mono ?_
  rintro e w1 ⟨A1, c1, m1, rfl, hm1, ho1, hb1⟩
  have hm1' := Lib.hid (show m1 = txb t from hm1.out)
  have hl1 := Lib.hid (show m1.length ≤ 1000010 from by rw [hm1'.out]; unfold txb; rw [List.length_append]; have := hvl.out; omega)
  go_wp2_with fail
  refine (rSum_any A1 c1 m1 _ ho1.sl (by have := hl1.out; omega)).mono ?_
  rintro e w2 ⟨rfl, rfl⟩
  go_wp2_with fail
  refine (rFour_any (sumW m1) _).mono ?_
  rintro e w3 ⟨A3, c3, m3, rfl, hm3, hs3, hb3⟩
  have hl3 := Lib.hid (show m3.length = 4 from by rw [hm3.out, four_len])
  go_wp2_with (at_builtin; go_must (refine wpl_bytes 22 5 Try.underlying22 u8_info rfl _ _ rfl w.heap.size A1 c1 m1 rfl (ho1.below hb3) A3 c3 m3 rfl hs3 (by have := hl1.out; have := hl3.out; omega) (Nat.le_trans hb1.size hb3.size) ?_; intro A4 c4 m4 w4 hm4 ho4 _ _ hb4))
  go_ret
  exact ⟨A4, c4, m4, rfl, (show m4 = _ from by rw [hm4.out, hm3.out, hm1'.out]; rfl), ho4, (bel_call hb1 hb3).trans hb4⟩
end Go.Proofs.Ytjkdnnekagcdhaa

namespace Go.Proofs.Ytjkdnnekagcdhaa
open Go.RowKit
attribute [local go_sem ↓] Go.wp_at_zero Go.wp_at_succ

theorem sl_info : (Try.prog.info? 22).map (fun i => (i.zero, i.size, i.bytes)) = some (some (.slice none 0 0), 1, 24) := by kernel_rfl
theorem frms_le' {ts : List (List UInt8)} (h : ∀ t ∈ ts, t.length ≤ 300) : (frms ts).length ≤ 314 * ts.length := by
  induction ts with
  | nil => simp [frms]
  | cons t ts ih =>
    have h1 := h t (by simp)
    have h2 := ih (fun q hq => h q (by simp [hq]))
    have h3 := frm_len t
    have h4 := vb_le10 (n := t.length) (by omega)
    simp only [frms, List.flatMap_cons, List.length_append, List.length_cons] at h2 ⊢
    omega
/-- texts of the call's own -/
abbrev OwnT (w : World) (base : Nat) (A : Option Addr) (c : Nat) (ps : List Pt) : Prop := Own w base 22 1 A ps.length c (ps.map pv)
abbrev SlT (w : World) (A : Option Addr) (c : Nat) (ps : List Pt) : Prop := Sl w 1 A ps.length c (ps.map pv)
theorem one_pv (ps : List Pt) : ∀ u ∈ ps.map pv, u.oneCell' = true := by
  intro u hu
  simp only [List.mem_map] at hu
  obtain ⟨b, _, rfl⟩ := hu
  rfl
/-- append of texts -/
theorem wpl_texts {w : World} {ops : Array Oper} {rest : List Oper} {o : Oper} {a : Act} {Q : Exit → Act → World → Prop} (hgd : o.guard = none) (s x : Operand)
    (ho : o.op = .call { callee := .builtin .append, args := #[s, x], argTypes := #[219, 219] })
    (base : Nat) (A : Option Addr) (c : Nat) (l : List Pt) (hs : a.eval s = .slice A l.length c) (hown : OwnT w base A c l)
    (A2 : Option Addr) (c2 : Nat) (l2 : List Pt) (hx : a.eval x = .slice A2 l2.length c2) (hr : SlT w A2 c2 l2)
    (hlen : l.length + l2.length ≤ 100000) (hbase : base ≤ w.heap.size)
    (h : ∀ A' c' (m : List Pt) w', Hid (m = l ++ l2) → OwnT w' base A' c' m → Below base w w' → wpList Try.prog ops Q rest (a.put o.dst (.slice A' m.length c')) w') : wpList Try.prog ops Q (o :: rest) a w := by
  obtain ⟨i0, hi, hz0, hz1, hz2⟩ := info_parts sl_info
  refine wpl_append hgd s x 219 ho base 22 i0 (.slice none 0 0) 1 24 Try.underlying219 hi hz0 hz1 hz2 rfl (by decide) A l.length c (l.map pv) hs hown A2 l2.length c2 (l2.map pv) hx hr (one_pv l2) (by omega) (by simp only [maxLen]; omega) hbase ?_
  intro A' c' w' hap
  rw [← List.length_append]
  refine h A' c' (l ++ l2) w' rfl ?_ (hap.below hown hbase)
  have := hap.own
  simpa [OwnT] using this

end Go.Proofs.Ytjkdnnekagcdhaa

namespace Go.Proofs.Ytjkdnnekagcdhaa
open Go.RowKit
attribute [local go_sem ↓] Go.wp_at_zero Go.wp_at_succ

theorem ftake_ok {l : List UInt8} (h : (ftake l).2.2 = 0) : 4 ≤ (ftake l).2.1 ∧ (ftake l).2.1 ≤ l.length := by
  unfold ftake at h ⊢
  split at h
  · simp at h
  · rename_i n k _
    by_cases h1 : 65536 < n
    · rw [if_pos h1] at h; simp at h
    · rw [if_neg h1] at h ⊢
      by_cases h2 : l.length < k + n + 4
      · rw [if_pos h2] at h; simp at h
      · rw [if_neg h2] at h ⊢
        by_cases h3 : four (sumW (l.take (k + n))) = (l.drop (k + n)).take 4
        · rw [if_pos h3]; dsimp only; omega
        · rw [if_neg h3] at h; simp at h
/-- the texts of the frames that bytes begin with, and how many bytes these have -/
def fpre (l : List UInt8) : List (List UInt8) × Nat :=
  if h : (ftake l).2.2 = 0 then ((ftake l).1 :: (fpre (l.drop (ftake l).2.1)).1, (ftake l).2.1 + (fpre (l.drop (ftake l).2.1)).2) else ([], 0)
  termination_by l.length
  decreasing_by all_goals (have := ftake_ok h; simp; omega)
theorem fpre_ok {l : List UInt8} (h : (ftake l).2.2 = 0) : fpre l = ((ftake l).1 :: (fpre (l.drop (ftake l).2.1)).1, (ftake l).2.1 + (fpre (l.drop (ftake l).2.1)).2) := by rw [fpre, dif_pos h]
theorem fpre_bad {l : List UInt8} (h : (ftake l).2.2 ≠ 0) : fpre l = ([], 0) := by rw [fpre, dif_neg h]
def fone (l : List UInt8) : List UInt8 × Nat := if (ftake l).2.2 ≠ 0 then ([], (ftake l).2.2) else if (ftake l).2.1 < l.length then ([], 2) else ((ftake l).1, 0)
theorem SlB.grown {w w' : World} {A : Option Addr} {c : Nat} {row : Option Nat} {l : List UInt8} (h : SlB w A c l) (hb : w.grownBy w' row) (hA : l ≠ [] → A.map (·.block) ≠ row) : SlB w' A c l := by
  refine ⟨h.1, h.2.1, h.2.2.1, h.2.2.2.1, fun j u hj => ?_⟩
  obtain ⟨ad, hA2, hc⟩ := h.2.2.2.2 j u hj
  have hne : l ≠ [] := by intro e; rw [e] at hj; simp at hj
  subst hA2
  exact ⟨ad, rfl, hb.cell hc (by rw [addr_add_block]; exact hA hne)⟩

set_option maxRecDepth 100000 in
set_option maxHeartbeats 1000000 in
theorem FOne_any (A : Option Addr) (c : Nat) (l : List UInt8) (w : World) (hs : SlB w A c l) (hl : l.length ≤ 10000000) :
    Calls Try.prog 110 #[.slice A l.length c] w (JoinsB w (fone l)) := by
  go_enter Try.func110, Try.ntmps110
  go_wp2_with fail
  refine (FTake_any A c l _ hs hl).mono ?_
  rintro e w1 ⟨A1, c1, m1, he, hm1, ho1, hb1⟩
  rcases errv_cases (ftake l).2.2 with ⟨h0, hev⟩ | ⟨k, hk, hke, hev⟩
  · rw [hev] at he
    subst he
    by_cases hlt : (ftake l).2.1 < l.length
    · have hf := Lib.hid (show fone l = ([], 2) from by unfold fone; rw [if_neg (by omega), if_pos hlt])
      have hi : (((ftake l).2.1 : Nat) : Int) < (l.length : Int) := by omega
      generalize (ftake l).2.1 = q at *
      clear h0 hm1
      go_wp2_with fail
      go_ret2
      exact ⟨none, 0, [], by rw [hf.out]; rfl, by rw [hf.out]; rfl, Sl.none_ _ _, hb1⟩
    · have hf := Lib.hid (show fone l = ((ftake l).1, 0) from by unfold fone; rw [if_neg (by omega), if_neg hlt])
      have hi : ¬ (((ftake l).2.1 : Nat) : Int) < (l.length : Int) := by omega
      have hm : Hid (m1 = (fone l).1) := (show _ = _ from by rw [hf.out]; exact hm1.out)
      generalize (ftake l).2.1 = q at *
      clear h0 hm1
      go_wp2_with fail
      go_ret2
      exact ⟨A1, c1, m1, by rw [hf.out]; rfl, hm, ho1.1, hb1⟩
  · have hf := Lib.hid (show fone l = ([], (ftake l).2.2) from by unfold fone; rw [if_pos (by omega)])
    have hfe : errv (fone l).2 = .iface 140 (.int .i64 k) := by rw [hf.out]; exact hev
    have HFE := Lib.hid hfe
    rw [hev] at he
    subst he
    generalize (ftake l).2.1 = q at *
    clear hev hfe hm1 hke
    go_wp2_with fail
    go_ret2
    exact ⟨none, 0, [], by rw [HFE.out]; rfl, by rw [hf.out]; rfl, Sl.none_ _ _, hb1⟩

/-- append of texts, and where they then are -/
theorem wpl_texts2 {w : World} {ops : Array Oper} {rest : List Oper} {o : Oper} {a : Act} {Q : Exit → Act → World → Prop} (hgd : o.guard = none) (s x : Operand)
    (ho : o.op = .call { callee := .builtin .append, args := #[s, x], argTypes := #[219, 219] })
    (base : Nat) (A : Option Addr) (c : Nat) (l : List Pt) (hs : a.eval s = .slice A l.length c) (hown : OwnT w base A c l)
    (A2 : Option Addr) (c2 : Nat) (l2 : List Pt) (hx : a.eval x = .slice A2 l2.length c2) (hr : SlT w A2 c2 l2)
    (hlen : l.length + l2.length ≤ 100000000) (hbase : base ≤ w.heap.size)
    (h : ∀ A' c' (m : List Pt) w', Hid (m = l ++ l2) → OwnT w' base A' c' m → w.grownBy w' (A.map (·.block)) → (A'.map (·.block) = A.map (·.block) ∨ A'.map (·.block) = some w.heap.size) → Below base w w' → wpList Try.prog ops Q rest (a.put o.dst (.slice A' m.length c')) w') : wpList Try.prog ops Q (o :: rest) a w := by
  obtain ⟨i0, hi, hz0, hz1, hz2⟩ := info_parts sl_info
  refine wpl_append hgd s x 219 ho base 22 i0 (.slice none 0 0) 1 24 Try.underlying219 hi hz0 hz1 hz2 rfl (by decide) A l.length c (l.map pv) hs hown A2 l2.length c2 (l2.map pv) hx hr (one_pv l2) (by omega) (by simp only [maxLen]; omega) hbase ?_
  intro A' c' w' hap
  rw [← List.length_append]
  refine h A' c' (l ++ l2) w' rfl ?_ hap.grown hap.place (hap.below hown hbase)
  have := hap.own
  simpa [OwnT] using this
/-- each text can be read, and lies beside the row -/
def TX (w : World) (Pb : Option Nat → Prop) (B : Option Addr) (ps : List Pt) : Prop := ∀ x ∈ ps, SlB w x.1 x.2.1 x.2.2 ∧ (x.2.2 ≠ [] → x.1.map (·.block) ≠ B.map (·.block) ∧ Pb (x.1.map (·.block)))
theorem TX.below {w w' : World} {Pb : Option Nat → Prop} {B : Option Addr} {ps : List Pt} (h : TX w Pb B ps) (hb : Below w.heap.size w w') : TX w' Pb B ps := fun x hx => ⟨(h x hx).1.below hb, (h x hx).2⟩
theorem TX.grown {w w' : World} {Pb : Option Nat → Prop} {B B' : Option Addr} {ps : List Pt} (h : TX w Pb B ps) (hb : w.grownBy w' (B.map (·.block))) (hp : B'.map (·.block) = B.map (·.block) ∨ B'.map (·.block) = some w.heap.size) : TX w' Pb B' ps := fun x hx => by
  refine ⟨SlB.grown (h x hx).1 hb (fun hne => ((h x hx).2 hne).1), fun hne => ⟨?_, ((h x hx).2 hne).2⟩⟩
  rcases hp with hp | hp
  · rw [hp]; exact ((h x hx).2 hne).1
  · rw [hp]; exact SlB.old (h x hx).1 (Nat.le_refl _) hne
/-- a block from n on -/
def From (n : Nat) (b : Option Nat) : Prop := ∀ g, b = some g → n ≤ g
/-- what Prefix answers -/
def PreB (w0 : World) (o : List (List UInt8) × Nat) (e : Ending) (w' : World) : Prop :=
  ∃ A c ps, e = .returned (.tuple #[.slice A (List.length ps) c, .int .i64 (o.2 : Nat)]) ∧ Hid (ptx ps = o.1) ∧ SlT w' A c ps ∧ (∀ x ∈ ps, SlB w' x.1 x.2.1 x.2.2 ∧ (x.2.2 ≠ [] → From w0.heap.size (x.1.map (·.block)))) ∧ From w0.heap.size (A.map (·.block)) ∧ Below w0.heap.size w0 w'

theorem meas_step {n a q : Nat} (h : a + q ≤ n) (h4 : 4 ≤ q) : n - (intOf (.int .i64 ((a : Int) + (q : Int)))).toNat < n - (intOf (.int .i64 (a : Int))).toNat := by
  have h1 : (intOf (.int .i64 ((a : Int) + (q : Int)))).toNat = a + q := by show ((a : Int) + (q : Int)).toNat = a + q; omega
  have h2 : (intOf (.int .i64 (a : Int))).toNat = a := by show (a : Int).toNat = a; omega
  rw [h1, h2]
  omega
end Go.Proofs.Ytjkdnnekagcdhaa

namespace Go.Proofs.Ytjkdnnekagcdhaa
open Go.RowKit
attribute [local go_sem ↓] Go.wp_at_zero Go.wp_at_succ

theorem list_beq' (l m : List UInt8) : (l == m) = decide (l = m) := by
  by_cases h : l = m
  · subst h; simp
  · simp [h]
/-- what the document's Take answers -/
def RTakesF (w0 : World) (A0 : Option Addr) (o : List UInt8 × Nat × Nat) (e : Ending) (w' : World) : Prop :=
  ∃ A c m, e = .returned (.tuple #[.slice A (List.length m) c, .int .i64 (o.2.1 : Nat), .int .i64 (o.2.2 : Nat)]) ∧ Hid (m = o.1) ∧ SlB w' A c m ∧ Below w0.heap.size w0 w' ∧ (m ≠ [] → A.map (·.block) = A0.map (·.block))
theorem Sl.lt0 {w : World} {size n c : Nat} {A : Option Addr} {xs : List Value} (h : Sl w size A n c xs) (hne : xs ≠ []) : ∀ g, A.map (·.block) = some g → g < w.heap.size := by
  intro g hg
  rcases Nat.lt_or_ge g w.heap.size with h1 | h1
  · exact h1
  · exact absurd hg (Sl.old h h1 hne)

theorem shift_block (A : Option Addr) (k : Nat) : (Option.map (fun x => x.add k) A).map (·.block) = A.map (·.block) := by cases A <;> simp [addr_add_block]
set_option maxRecDepth 100000 in
set_option maxHeartbeats 2000000 in
theorem rFTake_any (A : Option Addr) (c : Nat) (l : List UInt8) (w : World) (hs : SlB w A c l) (hl : l.length ≤ 10000000) :
    Calls Try.prog 113 #[.slice A l.length c] w (RTakesF w A (ftake l)) := by
  have hc1 := hs.2.1
  go_enter Try.func113, Try.ntmps113
  go_wp2_with fail
  refine (rTake_any A c l _ hs).mono ?_
  rintro e w1 ⟨hb1, ⟨ht, rfl⟩ | ⟨n, k, ht, rfl⟩⟩
  · have hf := Lib.hid (ftake_none ht)
    clear ht
    go_wp2_with fail
    go_ret3
    exact ⟨none, 0, [], by rw [hf.out]; rfl, by rw [hf.out]; rfl, Sl.none_ _ _, hb1, fun h => absurd rfl h⟩
  · obtain ⟨hu, hkl, _⟩ := take_some ht
    by_cases hn : 65536 < n
    · have hf := Lib.hid (ftake_long ht hn)
      have hni : (65536 : Int) < (n : Int) := by omega
      clear ht
      go_wp2_with fail
      go_ret3
      exact ⟨none, 0, [], by rw [hf.out]; rfl, by rw [hf.out]; rfl, Sl.none_ _ _, hb1, fun h => absurd rfl h⟩
    · have hni : ¬ (65536 : Int) < (n : Int) := by omega
      have hw64 : wrap64 (n : Int) = (n : Int) := by simp only [wrap64]; omega
      obtain ⟨q, hq⟩ : ∃ q, q = k + n := ⟨_, rfl⟩
      have hqi : (k : Int) + (n : Int) = (q : Int) := by omega
      by_cases hsh : l.length < k + n + 4
      · have hf := Lib.hid (ftake_short ht hn hsh)
        have hqs : (l.length : Int) < (q : Int) + 4 := by omega
        clear ht hq
        go_wp2_with fail
        go_ret3
        exact ⟨none, 0, [], by rw [hf.out]; rfl, by rw [hf.out]; rfl, Sl.none_ _ _, hb1, fun h => absurd rfl h⟩
      · have hqs : ¬ (l.length : Int) < (q : Int) + 4 := by omega
        have hkq : k ≤ q := by omega
        have hql : q + 4 ≤ l.length := by omega
        have hf : ftake l = if four (sumW (l.take q)) = (l.drop q).take 4 then ((l.take q).drop k, q + 4, 0) else ([], 0, 11) := by
          unfold ftake; rw [ht]; dsimp only; rw [if_neg hn, if_neg hsh, hq]
        have HF := Lib.hid hf
        clear ht hq hsh hf
        have hs1 := hs.below hb1
        have hqc : ¬ (c = q) := by omega
        have hkc : ¬ (c = k) := by omega
        have hq1 : q ≤ c := by omega
        have hq2 : q + 4 ≤ c := by omega
        have hT := Sl.takeB hs1 q
        have hD := Sl.take (Sl.cutB hs1 (k := q) (by omega)) (k := 4) (by omega)
        rw [if_neg hqc, show (bvs (l.drop q)).take 4 = bvs ((l.drop q).take 4) from by simp [bvs, List.map_take, List.map_drop]] at hD
        have hl2 : ((l.drop q).take 4).length = 4 := by simp; omega
        have htl : (l.take q).length = q := by simp; omega
        have hX := Sl.cutB hT (k := k) (by omega)
        have hX0 := Sl.cutB (Sl.takeB hs q) (k := k) (by omega)
        rw [if_neg hkc, htl, show q - k = ((l.take q).drop k).length from by rw [List.length_drop, htl]] at hX hX0
        have hxl := Lib.hid (show ((l.take q).drop k).length = q - k from by rw [List.length_drop, htl])
        generalize (l.take q).drop k = xt at *
        generalize hg2 : (l.drop q).take 4 = l2 at *
        generalize hg1 : l.take q = l1 at *
        clear hg1 hg2 hs1
        rw [← hl2] at hD
        subst htl
        have H4 := Lib.hid hl2
        obtain ⟨p4, hp4⟩ : ∃ p4, p4 = l1.length + 4 := ⟨_, rfl⟩
        have hwq : IntKind.i64.wrap ((l1.length : Int) + 4) = (p4 : Int) := by rw [IntKind.wrap_i64]; omega
        have hpc : p4 ≤ c := by omega
        have hlp : l1.length ≤ p4 := by omega
        have hps : p4 - l1.length = 4 := by omega
        have HP4 := Lib.hid hp4
        clear hp4
        clear hl2
        go_wp2_with fail
        go_cut [41] (fun s41 wx => s41 = .bool (!decide (four (sumW l1) = l2)) ∧ Below w1.heap.size w1 wx)
        case first =>
          have hT' : SlB w1.drew A c l1 := hT
          refine wp_region_held_drew (S := (fun W => SlB W (Option.map (fun x => x.add l1.length) A) (c - l1.length) l2)) (by kernel_rfl) ?_ (fun hHeld => ?_)
          · first | exact hD | exact hD2
          refine wpAnyH_take (i := 0) (oi := ⟨some 29, _, _, _, _, _⟩) (v := ?_) rfl (by kernel_rfl) (by kernel_rfl) (by kernel_rfl) (fun _ _ _ h => h) (Or.inl ⟨by kernel_rfl, ?_⟩) (by assumption) ?_
          rotate_left
          · (intro wS hSw; (try dsimp only at hSw); have hcv := conv_str (P := Try.prog) 22 9 5 Try.underlying22 Try.underlying5 Try.underlying9 (n := 4) hSw H4.out.symm; go_simp; (try with_reducible rfl))
          (try simp only [Act.put, List.setIfInBounds_toArray, List.set_cons_zero, List.set_cons_succ])
          refine wpAnyH_take (i := 1) (oi := ⟨some 30, _, _, _, _, _⟩) (v := ?_) rfl (by kernel_rfl) (by kernel_rfl) (by kernel_rfl) (fun _ _ _ h => h) (Or.inl ⟨by kernel_rfl, ?_⟩) (by assumption) ?_
          rotate_left
          · (intro wS hSw; (try dsimp only at hSw); have hcv := conv_str (P := Try.prog) 22 9 5 Try.underlying22 Try.underlying5 Try.underlying9 (n := 4) hSw H4.out.symm; go_simp; (try with_reducible rfl))
          (try simp only [Act.put, List.setIfInBounds_toArray, List.set_cons_zero, List.set_cons_succ])
          refine wpAnyH_take (i := 2) (oi := ⟨some 31, _, _, _, _, _⟩) (v := ?_) rfl (by kernel_rfl) (by kernel_rfl) (by kernel_rfl) (fun _ _ _ h => h) (Or.inl ⟨by kernel_rfl, ?_⟩) (by assumption) ?_
          rotate_left
          · (intro wS hSw; (try dsimp only at hSw); have hcv := conv_str (P := Try.prog) 22 9 5 Try.underlying22 Try.underlying5 Try.underlying9 (n := 4) hSw H4.out.symm; go_simp; (try with_reducible rfl))
          (try simp only [Act.put, List.setIfInBounds_toArray, List.set_cons_zero, List.set_cons_succ])
          refine wpAnyH_take (i := 6) (oi := ⟨some 35, _, _, _, _, _⟩) (v := ?_) rfl (by kernel_rfl) (by kernel_rfl) (by kernel_rfl) (fun _ _ _ h => h) (Or.inl ⟨by kernel_rfl, ?_⟩) (by assumption) ?_
          rotate_left
          · (intro wS hSw; (try dsimp only at hSw); have hcv := conv_str (P := Try.prog) 22 9 5 Try.underlying22 Try.underlying5 Try.underlying9 (n := 4) hSw H4.out.symm; go_simp; (try with_reducible rfl))
          (try simp only [Act.put, List.setIfInBounds_toArray, List.set_cons_zero, List.set_cons_succ])
          refine wpAnyH_take (i := 7) (oi := ⟨some 36, _, _, _, _, _⟩) (v := ?_) rfl (by kernel_rfl) (by kernel_rfl) (by kernel_rfl) (fun _ _ _ h => h) (Or.inl ⟨by kernel_rfl, ?_⟩) (by assumption) ?_
          rotate_left
          · (intro wS hSw; (try dsimp only at hSw); have hcv := conv_str (P := Try.prog) 22 9 5 Try.underlying22 Try.underlying5 Try.underlying9 (n := 4) hSw H4.out.symm; go_simp; (try with_reducible rfl))
          (try simp only [Act.put, List.setIfInBounds_toArray, List.set_cons_zero, List.set_cons_succ])
          refine wpAnyH_take (i := 8) (oi := ⟨some 37, _, _, _, _, _⟩) (v := ?_) rfl (by kernel_rfl) (by kernel_rfl) (by kernel_rfl) (fun _ _ _ h => h) (Or.inl ⟨by kernel_rfl, ?_⟩) (by assumption) ?_
          rotate_left
          · (intro wS hSw; (try dsimp only at hSw); have hcv := conv_str (P := Try.prog) 22 9 5 Try.underlying22 Try.underlying5 Try.underlying9 (n := 4) hSw H4.out.symm; go_simp; (try with_reducible rfl))
          (try simp only [Act.put, List.setIfInBounds_toArray, List.set_cons_zero, List.set_cons_succ])
          refine wpAnyH_take (i := 9) (oi := ⟨some 38, _, _, _, _, _⟩) (v := ?_) rfl (by kernel_rfl) (by kernel_rfl) (by kernel_rfl) (fun _ _ _ h => h) (Or.inl ⟨by kernel_rfl, ?_⟩) (by assumption) ?_
          rotate_left
          · (intro wS hSw; (try dsimp only at hSw); have hcv := conv_str (P := Try.prog) 22 9 5 Try.underlying22 Try.underlying5 Try.underlying9 (n := 4) hSw H4.out.symm; go_simp; (try with_reducible rfl))
          (try simp only [Act.put, List.setIfInBounds_toArray, List.set_cons_zero, List.set_cons_succ])
          refine wpAnyH_take (i := 10) (oi := ⟨some 39, _, _, _, _, _⟩) (v := ?_) rfl (by kernel_rfl) (by kernel_rfl) (by kernel_rfl) (fun _ _ _ h => h) (Or.inl ⟨by kernel_rfl, ?_⟩) (by assumption) ?_
          rotate_left
          · (intro wS hSw; (try dsimp only at hSw); have hcv := conv_str (P := Try.prog) 22 9 5 Try.underlying22 Try.underlying5 Try.underlying9 (n := 4) hSw H4.out.symm; go_simp; (try with_reducible rfl))
          (try simp only [Act.put, List.setIfInBounds_toArray, List.set_cons_zero, List.set_cons_succ])
          refine wpAnyH_take (i := 11) (oi := ⟨some 40, _, _, _, _, _⟩) (v := ?_) rfl (by kernel_rfl) (by kernel_rfl) (by kernel_rfl) (fun _ _ _ h => h) (Or.inl ⟨by kernel_rfl, ?_⟩) (by assumption) ?_
          rotate_left
          · (intro wS hSw; (try dsimp only at hSw); have hcv := conv_str (P := Try.prog) 22 9 5 Try.underlying22 Try.underlying5 Try.underlying9 (n := 4) hSw H4.out.symm; go_simp; (try with_reducible rfl))
          (try simp only [Act.put, List.setIfInBounds_toArray, List.set_cons_zero, List.set_cons_succ])
          refine wpAnyH_ready (rs := [3]) (by kernel_rfl) (by simp) ?_
          refine AllReadyH.cons (o := ⟨some 32, _, _, _, _, _⟩) rfl (fun K hK => ?_) AllReadyH.nil
          go_simp
          (refine (rSum_any A c l1 _ hT' (by omega)).mono ?_; rintro e w13 ⟨rfl, rfl⟩)
          go_wp2_with fail
          refine hK.out _ _ ?_ (fun hHeld => ?_)
          · ((try dsimp only); (first | exact hD | exact hD2))
          clear hK K
          (try simp only [Act.put, List.setIfInBounds_toArray, List.set_cons_zero, List.set_cons_succ])
          refine wpAnyH_ready (rs := [4]) (by kernel_rfl) (by simp) ?_
          refine AllReadyH.cons (o := ⟨some 33, _, _, _, _, _⟩) rfl (fun K hK => ?_) AllReadyH.nil
          go_simp
          (refine (rFour_any (sumW l1) _).mono ?_; rintro e w14 ⟨A14, c14, m14, rfl, hm14, hs14, hb14⟩; have hD2 := Sl.below hD (below_of_drew hb14); have hcv := conv_str (P := Try.prog) 22 9 5 Try.underlying22 Try.underlying5 Try.underlying9 hs14 rfl)
          go_wp2_with fail
          refine hK.out _ _ ?_ (fun hHeld => ?_)
          · ((try dsimp only); (first | exact hD | exact hD2))
          clear hK K
          (try simp only [Act.put, List.setIfInBounds_toArray, List.set_cons_zero, List.set_cons_succ])
          refine wpAnyH_ready (rs := [5]) (by kernel_rfl) (by simp) ?_
          refine AllReadyH.cons (o := ⟨some 34, _, _, _, _, _⟩) rfl (fun K hK => ?_) AllReadyH.nil
          go_simp
          refine hK.out _ _ ?_ (fun hHeld => ?_)
          · ((try dsimp only); (first | exact hD | exact hD2))
          clear hK K
          (try simp only [Act.put, List.setIfInBounds_toArray, List.set_cons_zero, List.set_cons_succ])
          refine wpAnyH_take (i := 12) (oi := ⟨some 41, _, _, _, _, _⟩) (v := ?_) rfl (by kernel_rfl) (by kernel_rfl) (by kernel_rfl) (fun _ _ _ h => h) (Or.inl ⟨by kernel_rfl, ?_⟩) (by assumption) ?_
          rotate_left
          · (intro wS hSw; (try dsimp only at hSw); have hcv := conv_str (P := Try.prog) 22 9 5 Try.underlying22 Try.underlying5 Try.underlying9 (n := 4) hSw H4.out.symm; go_simp; (try with_reducible rfl))
          (try simp only [Act.put, List.setIfInBounds_toArray, List.set_cons_zero, List.set_cons_succ])
          refine wpAnyH_done (by kernel_rfl) ?_ _
          go_wp2_with fail
          go_meet
          refine ⟨?_, below_of_drew hb14⟩
          rw [← hm14.out]
          exact congrArg Value.bool (congrArg not (list_beq' m14 l2))
        case rest =>
          obtain ⟨rfl, hbc⟩ := hcut
          have hw := bel_call hb1 hbc
          have hXc := hX.below hbc
          have hlt : xt ≠ [] → (Option.map (fun x => x.add k) A).map (·.block) = A.map (·.block) := fun _ => shift_block A k
          clear hT hD hX hX0 hbc
          by_cases he : four (sumW l1) = l2
          · have hd : decide (four (sumW l1) = l2) = true := decide_eq_true he
            have hov := Lib.hid (show ftake l = (xt, p4, 0) from by rw [HF.out, if_pos he, HP4.out])
            rw [hd]
            clear HF he hd
            go_wp2_with fail
            go_ret3
            refine ⟨_, c - k, xt, ?_, by rw [hov.out]; rfl, hXc, hw, hlt⟩
            rw [hov.out, hxl.out]
            rfl
          · have hd : decide (four (sumW l1) = l2) = false := decide_eq_false he
            have hov := Lib.hid (show ftake l = ([], 0, 11) from by rw [HF.out, if_neg he])
            rw [hd]
            clear HF he hd
            go_wp2_with fail
            go_ret3
            exact ⟨none, 0, [], by rw [hov.out]; rfl, by rw [hov.out]; rfl, Sl.none_ _ _, hw, fun h => absurd rfl h⟩
/-- what the document's Prefix answers -/
def RPreB (w0 : World) (A0 : Option Addr) (o : List (List UInt8) × Nat) (bad : Nat) (e : Ending) (w' : World) : Prop :=
  ∃ A c ps, e = .returned (.tuple #[.slice A (List.length ps) c, .int .i64 (o.2 : Nat), .int .i64 (bad : Nat)]) ∧ Hid (ptx ps = o.1) ∧ SlT w' A c ps ∧ (∀ x ∈ ps, SlB w' x.1 x.2.1 x.2.2 ∧ (x.2.2 ≠ [] → x.1.map (·.block) = A0.map (·.block))) ∧ From w0.heap.size (A.map (·.block)) ∧ Below w0.heap.size w0 w'
/-- the number of what follows the frames: 0: nothing does -/
def fbad (l : List UInt8) : Nat := if (fpre l).2 = l.length then 0 else (ftake (l.drop (fpre l).2)).2.2

theorem fpre_nil : fpre [] = ([], 0) := fpre_bad (by rw [ftake_none (by rfl)]; simp)
theorem fpre_end (n : Nat) : ∀ l : List UInt8, l.length ≤ n → (fpre l).2 ≤ l.length ∧ (ftake (l.drop (fpre l).2)).2.2 ≠ 0 := by
  induction n with
  | zero =>
    intro l hl
    have : l = [] := List.eq_nil_of_length_eq_zero (by omega)
    subst this
    rw [fpre_nil, List.drop_nil, ftake_none (by rfl)]
    simp
  | succ n ih =>
    intro l hl
    by_cases h : (ftake l).2.2 = 0
    · obtain ⟨h1, h2⟩ := ftake_ok h
      rw [fpre_ok h]
      obtain ⟨i1, i2⟩ := ih (l.drop (ftake l).2.1) (by simp; omega)
      rw [List.drop_drop] at i2
      simp only [List.length_drop] at i1
      exact ⟨by dsimp only; omega, i2⟩
    · rw [fpre_bad h]
      exact ⟨by simp, by simpa using h⟩
end Go.Proofs.Ytjkdnnekagcdhaa

namespace Go.Proofs.Ytjkdnnekagcdhaa
open Go.RowKit
attribute [local go_sem ↓] Go.wp_at_zero Go.wp_at_succ

def fall (l : List UInt8) : List (List UInt8) := if (fpre l).2 = l.length then (fpre l).1 else []
/-- what All answers -/
def AllsB (w0 : World) (o : List (List UInt8)) (bad : Nat) (e : Ending) (w' : World) : Prop :=
  ∃ A c ps, e = .returned (.tuple #[.slice A (List.length ps) c, errv bad]) ∧ Hid (ptx ps = o) ∧ SlT w' A c ps ∧ (∀ x ∈ ps, SlB w' x.1 x.2.1 x.2.2 ∧ (x.2.2 ≠ [] → From w0.heap.size (x.1.map (·.block)))) ∧ From w0.heap.size (A.map (·.block)) ∧ Below w0.heap.size w0 w'
theorem fbad_ne {l : List UInt8} (h : (fpre l).2 ≠ l.length) : fbad l = (ftake (l.drop (fpre l).2)).2.2 ∧ fbad l ≠ 0 := by
  have h1 : fbad l = (ftake (l.drop (fpre l).2)).2.2 := by unfold fbad; rw [if_neg h]
  exact ⟨h1, by rw [h1]; exact (fpre_end _ l (Nat.le_refl _)).2⟩
end Go.Proofs.Ytjkdnnekagcdhaa

namespace Go.Proofs.Ytjkdnnekagcdhaa
open Go.RowKit
attribute [local go_sem ↓] Go.wp_at_zero Go.wp_at_succ

theorem ftake_empty {l : List UInt8} (h : (ftake l).2.2 ≠ 0) : (ftake l).1 = [] := by
  unfold ftake at h ⊢
  split at h
  · rfl
  · rename_i n k hv
    by_cases h1 : 65536 < n
    · rw [if_pos h1]
    · rw [if_neg h1] at h ⊢
      by_cases h2 : l.length < k + n + 4
      · rw [if_pos h2]
      · rw [if_neg h2] at h ⊢
        by_cases h3 : four (sumW (l.take (k + n))) = (l.drop (k + n)).take 4
        · rw [if_pos h3] at h; simp at h
        · rw [if_neg h3]
/-- bytes that can be read, each a place, a capacity, its bytes -/
structure BSt (w : World) (ls : List Pt) (W : World) : Prop where
  bel : Below w.heap.size w W
  sl : ∀ x ∈ ls, SlB W x.1 x.2.1 x.2.2
theorem BSt.at {w W : World} {ls : List Pt} (h : BSt w ls W) {A : Option Addr} {c : Nat} {l : List UInt8} (hm : (A, c, l) ∈ ls) : SlB W A c l := h.sl _ hm
theorem BSt.below {w W W' : World} {ls : List Pt} (h : BSt w ls W) (hb : Below W.heap.size W W') : BSt w ls W' := ⟨bel_call h.bel hb, fun x hx => (h.sl x hx).below hb⟩
theorem BSt.add {w W : World} {ls : List Pt} (h : BSt w ls W) {A : Option Addr} {c : Nat} {l : List UInt8} (hs : SlB W A c l) : BSt w ((A, c, l) :: ls) W := ⟨h.bel, fun x hx => by
  rw [List.mem_cons] at hx
  rcases hx with rfl | hx
  · exact hs
  · exact h.sl x hx⟩

/-- a row of bytes that can be written -/
structure Wri (w : World) (g off : Nat) (m : List UInt8) : Prop where
  blk : ∃ cur, w.heap[g]? = some (.cells cur 5)
  at_ : ∀ j (h : j < m.length), w.cell? ⟨g, off + j, none⟩ = some (bv m[j])
theorem Wri.frozen {w : World} {g off : Nat} {m : List UInt8} (h : Wri w g off m) (i : Nat) : w.frozen? ⟨g, i, none⟩ = false := by
  obtain ⟨cur, hc⟩ := h.blk
  simp [World.frozen?, hc]
theorem Wri.set {w : World} {g off : Nat} {m : List UInt8} (h : Wri w g off m) {k : Nat} (hk : k < m.length) (x : UInt8) : Wri (w.setCell ⟨g, off + k, none⟩ (bv x)) g off (m.set k x) := by
  obtain ⟨cur, hc⟩ := h.blk
  refine ⟨⟨cur.setIfInBounds (off + k) (bv x), by simp [World.setCell, Array.getElem?_modify, hc]⟩, fun j hj => ?_⟩
  have hj2 : j < m.length := by simpa using hj
  have h1 := h.at_ j hj2
  rw [cell_of_row w g _ cur 5 (0, 0) hc] at h1
  rw [cell_of_row _ g _ (cur.setIfInBounds (off + k) (bv x)) 5 (0, 0) (by simp [World.setCell, Array.getElem?_modify, hc])]
  rw [Array.getElem?_setIfInBounds, List.getElem_set]
  by_cases e : k = j
  · subst e
    rw [if_pos rfl, if_pos rfl, if_pos (Array.getElem?_eq_some_iff.1 h1).1]
  · rw [if_neg (by omega), if_neg e]; exact h1
/-- all blocks but those between lo and hi stay -/
structure Beside (lo hi : Nat) (W W' : World) : Prop where
  size : W.heap.size ≤ W'.heap.size
  block : ∀ k, k < W.heap.size → (k < lo ∨ hi ≤ k) → W'.heap[k]? = W.heap[k]?
theorem Beside.refl (lo hi : Nat) (W : World) : Beside lo hi W W := ⟨Nat.le_refl _, fun _ _ _ => rfl⟩
theorem Beside.set {lo hi : Nat} {W W' : World} (h : Beside lo hi W W') {g i : Nat} (h1 : lo ≤ g) (h2 : g < hi) (u : Value) : Beside lo hi W (W'.setCell ⟨g, i, none⟩ u) :=
  ⟨by simpa using h.size, fun k hk hs => (Below.heap_setCell W' ⟨g, i, none⟩ u k (by show k ≠ g; omega)).trans (h.block k hk hs)⟩
theorem Beside.sl {lo hi : Nat} {W W' : World} (h : Beside lo hi W W') {size n c : Nat} {A : Option Addr} {xs : List Value} (hs : Sl W size A n c xs) (hA : xs ≠ [] → ∀ g, A.map (·.block) = some g → g < lo ∨ hi ≤ g) : Sl W' size A n c xs := by
  refine ⟨hs.1, hs.2.1, hs.2.2.1, hs.2.2.2.1, fun j u hj => ?_⟩
  obtain ⟨ad, rfl, hc⟩ := hs.2.2.2.2 j u hj
  have hne : xs ≠ [] := by intro e; rw [e] at hj; simp at hj
  refine ⟨ad, rfl, ?_⟩
  have hlt := World.block_lt_of_cell? W _ hc
  have hb := h.block _ hlt (by rw [addr_add_block]; exact hA hne _ rfl)
  rw [← hc]
  unfold World.cell?
  rw [hb]

theorem meas_one {n k : Nat} (h : k < n) : n - (intOf (.int .i64 ((k : Int) + 1))).toNat < n - (intOf (.int .i64 (k : Int))).toNat := by
  have h1 : (intOf (.int .i64 ((k : Int) + 1))).toNat = k + 1 := by show ((k : Int) + 1).toNat = k + 1; omega
  have h2 : (intOf (.int .i64 (k : Int))).toNat = k := by show (k : Int).toNat = k; omega
  rw [h1, h2]
  omega
theorem val_one (k : Nat) : Value.int .i64 ((k : Int) + 1) = .int .i64 ((k + 1 : Nat) : Int) := rfl

end Go.Proofs.Ytjkdnnekagcdhaa
