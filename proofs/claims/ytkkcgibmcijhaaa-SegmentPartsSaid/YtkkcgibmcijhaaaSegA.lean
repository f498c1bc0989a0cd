/- WHAT IT HOLDS: Put of segments, and the law's fixed fact, walked. -/
import Derived.Test.YtkkcgibmcijhaaaSegS
import Derived.Test.YtkkcgibmcijhaaaFrmW
namespace Go.Proofs.Ytkkcgibmcijhaaa
open Go.RowKit
attribute [local go_sem ↓] Go.wp_at_zero Go.wp_at_succ

theorem PutRun_ok {E B : Option Addr} {cap b : Nat} {l : List UInt8} (cs : List CeV) (w : World) (hs : SlB w B b l) (h : SlC w E cap cs) (hl : l.length ≤ 1000000) (h1 : cs.length ≤ 64) (h2 : rchk (cs.map ceOf) = 0) :
    Calls Try.prog 58 #[.slice B l.length b, .slice E cs.length cap] w fun e w' => ∃ A c m, e = .returned (.tuple #[.slice A (List.length m) c, .nilIface]) ∧ Hid (m = l ++ (vb cs.length ++ prun [] (cs.map ceOf))) ∧ OwnB w' w.heap.size 5 A c m ∧ Below w.heap.size w w' := by
  refine (PutRun_any cs w hs h hl).mono ?_
  rintro e w3 ⟨hb3, ⟨A3, c3, m3, hl3, hr3, rfl, hm3, ho3⟩ | ⟨bad, hbad, hbe, rfl⟩⟩
  · exact ⟨A3, c3, m3, rfl, (show _ = _ from by rw [hm3.out]; simp), ho3, hb3⟩
  · rw [if_neg (by simp; omega), h2] at hbe
    exact absurd hbe hbad
def stxt (s : Sg) : List UInt8 := vb s.1.toNat ++ (vb s.2.length ++ prun [] s.2)
def sput (s : Sg) : List UInt8 × Nat := if schk s ≠ 0 then ([], schk s) else fput [] (stxt s)
set_option maxRecDepth 100000 in
set_option maxHeartbeats 2000000 in
theorem SPut_any {E : Option Addr} {cap : Nat} (f : Int) (cs : List CeV) (w : World) (h : SlC w E cap cs) (hlen : ∀ m : List UInt8, m = stxt (f, cs.map ceOf) → m.length ≤ 1000000) :
    Calls Try.prog 50 #[cv f E cs.length cap] w (PutsB w (sput (f, cs.map ceOf))) := by
  have hB := Blk.new w 89 #[.int .i64 f, .slice E cs.length cap]
  have hbw := below_new w (.cells #[.int .i64 f, .slice E cs.length cap] 89)
  obtain ⟨a0, a1, _, _⟩ := hB.two
  have HLEN := Lib.hid hlen
  clear hlen
  go_enter Try.func50, Try.ntmps50
  go_wp2_with fail
  refine (SCheck_any f cs _ (h.below hbw)).mono ?_
  rintro e w1 ⟨rfl, hb1⟩
  have hB1 := hB.below hb1
  have hw1 := bel_call hbw hb1
  clear hB hbw hb1 a0 a1
  rcases errv_cases (schk (f, cs.map ceOf)) with ⟨h0, hev⟩ | ⟨k, hk, hke, hev⟩
  · obtain ⟨hf0, hf1, hn64, hne, hr0⟩ := schk_ok h0
    dsimp only at hf0 hf1 hn64 hne hr0
    have HS := Lib.hid (show sput (f, cs.map ceOf) = fput [] (stxt (f, cs.map ceOf)) from by unfold sput; rw [if_neg (by rw [h0]; simp)])
    rw [hev]
    clear hev h0
    obtain ⟨n, rfl⟩ : ∃ n : Nat, f = n := ⟨f.toNat, by omega⟩
    have hun : U64 n := by unfold U64; omega
    have hwn := wrap_u64_of hun
    have hPR := Lib.hid (fun (B : Option Addr) (b : Nat) (l : List UInt8) (W : World) (hs : SlB W B b l) (hh : SlC W E cap cs) (hl : l.length ≤ 1000000) => PutRun_ok cs W hs hh hl (by simpa using hn64) hr0)
    clear hr0 hne hn64
    go_upto_region 4 with (fail)
    have hst : Blk w1.drew w.heap.size 89 #[.int .i64 (n : Int), .slice E cs.length cap] ∧ Below w.heap.size w w1.drew := ⟨hB1.drew, hw1.drew⟩
    clear hB1 hw1
    refine wp_region_held_drew (S := (fun W => Blk W w.heap.size 89 #[.int .i64 (n : Int), .slice E cs.length cap] ∧ Below w.heap.size w W)) (by kernel_rfl) ?_ (fun hHeld => ?_)
    · exact hst
    refine gen0 (T := fun W => ((fun W => Blk W w.heap.size 89 #[.int .i64 (n : Int), .slice E cs.length cap] ∧ Below w.heap.size w W)) W ∧ True) ?_ (fun wq1 hT => ?_)
    · exact ⟨by (first | exact hst | exact ⟨hHeld.1.below hb2, bel_call hHeld.2 hb2⟩ | exact ⟨hHeld.1.below hb3, bel_call hHeld.2 hb3⟩ | exact ⟨hHeld.1.alloc _, bel_alloc hHeld.2 _⟩), trivial⟩
    (try clear f0 f1 f2 f3 f4 f5 f6 f7 f8 f9 f10 f11)
    obtain ⟨hHeld, -⟩ := hT
    refine wpAnyH_take (i := 0) (oi := ⟨some 13, _, _, _, _, _⟩) (v := ?_) rfl (by kernel_rfl) (by kernel_rfl) (by kernel_rfl) (fun _ _ _ h => h) (Or.inl ⟨by kernel_rfl, ?_⟩) (by assumption) ?_
    rotate_left
    · (intro wS hSw; (try dsimp only at hSw); obtain ⟨q0, q1, _, _⟩ := hSw.1.two; clear hSw; go_simp; (try with_reducible rfl))
    (try simp only [Act.put, List.setIfInBounds_toArray, List.set_cons_zero, List.set_cons_succ])
    refine wpAnyH_take (i := 1) (oi := ⟨some 14, _, _, _, _, _⟩) (v := ?_) rfl (by kernel_rfl) (by kernel_rfl) (by kernel_rfl) (fun _ _ _ h => h) (Or.inl ⟨by kernel_rfl, ?_⟩) (by assumption) ?_
    rotate_left
    · (intro wS hSw; (try dsimp only at hSw); obtain ⟨q0, q1, _, _⟩ := hSw.1.two; clear hSw; go_simp; (try with_reducible rfl))
    (try simp only [Act.put, List.setIfInBounds_toArray, List.set_cons_zero, List.set_cons_succ])
    refine wpAnyH_take (i := 2) (oi := ⟨some 15, _, _, _, _, _⟩) (v := ?_) rfl (by kernel_rfl) (by kernel_rfl) (by kernel_rfl) (fun _ _ _ h => h) (Or.inl ⟨by kernel_rfl, ?_⟩) (by assumption) ?_
    rotate_left
    · (intro wS hSw; (try dsimp only at hSw); obtain ⟨q0, q1, _, _⟩ := hSw.1.two; clear hSw; go_simp; (try with_reducible rfl))
    (try simp only [Act.put, List.setIfInBounds_toArray, List.set_cons_zero, List.set_cons_succ])
    refine wpAnyH_take (i := 5) (oi := ⟨some 18, _, _, _, _, _⟩) (v := ?_) rfl (by kernel_rfl) (by kernel_rfl) (by kernel_rfl) (fun _ _ _ h => h) (Or.inl ⟨by kernel_rfl, ?_⟩) (by assumption) ?_
    rotate_left
    · (intro wS hSw; (try dsimp only at hSw); obtain ⟨q0, q1, _, _⟩ := hSw.1.two; clear hSw; go_simp; (try with_reducible rfl))
    (try simp only [Act.put, List.setIfInBounds_toArray, List.set_cons_zero, List.set_cons_succ])
    refine wpAnyH_take (i := 6) (oi := ⟨some 19, _, _, _, _, _⟩) (v := ?_) rfl (by kernel_rfl) (by kernel_rfl) (by kernel_rfl) (fun _ _ _ h => h) (Or.inl ⟨by kernel_rfl, ?_⟩) (by assumption) ?_
    rotate_left
    · (intro wS hSw; (try dsimp only at hSw); obtain ⟨q0, q1, _, _⟩ := hSw.1.two; clear hSw; go_simp; (try with_reducible rfl))
    (try simp only [Act.put, List.setIfInBounds_toArray, List.set_cons_zero, List.set_cons_succ])
    refine wpAnyH_ready (rs := [3]) (by kernel_rfl) (by simp) ?_
    refine AllReadyH.cons (o := ⟨some 16, _, _, _, _, _⟩) rfl (fun K hK => ?_) AllReadyH.nil
    go_simp
    refine hK.out _ _ ?_ (fun _ => ?_)
    · ((try dsimp only); (first | exact hst | exact ⟨hHeld.1.below hb2, bel_call hHeld.2 hb2⟩ | exact ⟨hHeld.1.below hb3, bel_call hHeld.2 hb3⟩ | exact ⟨hHeld.1.alloc _, bel_alloc hHeld.2 _⟩))
    clear hK K
    (try simp only [Act.put, List.setIfInBounds_toArray, List.set_cons_zero, List.set_cons_succ])
    refine gen0 (T := fun W => ((fun W => Blk W w.heap.size 89 #[.int .i64 (n : Int), .slice E cs.length cap] ∧ Below w.heap.size w W)) W ∧ SlN W (some ⟨wq1.heap.size, 0, none⟩) 1 [n] ∧ True) ?_ (fun wq2 hT => ?_)
    · exact ⟨by (first | exact hst | exact ⟨hHeld.1.below hb2, bel_call hHeld.2 hb2⟩ | exact ⟨hHeld.1.below hb3, bel_call hHeld.2 hb3⟩ | exact ⟨hHeld.1.alloc _, bel_alloc hHeld.2 _⟩), by (first | assumption | exact Sl.lits _ [nv n] 159 (by simp [maxLen]) | exact ho2.sl | exact ho3.more hHeld.2.size), trivial⟩
    (try clear f0 f1 f2 f3 f4 f5 f6 f7 f8 f9 f10 f11)
    obtain ⟨hHeld, f0, -⟩ := hT
    refine wpAnyH_ready (rs := [4]) (by kernel_rfl) (by simp) ?_
    refine AllReadyH.cons (o := ⟨some 17, _, _, _, _, _⟩) rfl (fun K hK => ?_) AllReadyH.nil
    go_simp
    (refine (Put_any none 0 [] _ 1 [n] _ (by simp) (Sl.none_ _ _) f0 (by simp) (by intro z hz; simp at hz; subst hz; exact hun)).mono ?_; rintro e w2 ⟨A2, c2, m2, rfl, hm2, ho2, hb2⟩; have hml2 : m2.length ≤ 10 := (by rw [hm2.out]; simp [vbs]; exact vb_le10 hun))
    go_wp2_with fail
    refine hK.out _ _ ?_ (fun _ => ?_)
    · ((try dsimp only); (first | exact hst | exact ⟨hHeld.1.below hb2, bel_call hHeld.2 hb2⟩ | exact ⟨hHeld.1.below hb3, bel_call hHeld.2 hb3⟩ | exact ⟨hHeld.1.alloc _, bel_alloc hHeld.2 _⟩))
    clear hK K
    (try simp only [Act.put, List.setIfInBounds_toArray, List.set_cons_zero, List.set_cons_succ])
    refine gen0 (T := fun W => ((fun W => Blk W w.heap.size 89 #[.int .i64 (n : Int), .slice E cs.length cap] ∧ Below w.heap.size w W)) W ∧ SlB W A2 c2 m2 ∧ True) ?_ (fun wq3 hT => ?_)
    · exact ⟨by (first | exact hst | exact ⟨hHeld.1.below hb2, bel_call hHeld.2 hb2⟩ | exact ⟨hHeld.1.below hb3, bel_call hHeld.2 hb3⟩ | exact ⟨hHeld.1.alloc _, bel_alloc hHeld.2 _⟩), by (first | assumption | exact Sl.lits _ [nv n] 159 (by simp [maxLen]) | exact ho2.sl | exact ho3.more hHeld.2.size), trivial⟩
    (try clear f0 f1 f2 f3 f4 f5 f6 f7 f8 f9 f10 f11)
    obtain ⟨hHeld, f0, -⟩ := hT
    refine wpAnyH_ready (rs := [7]) (by kernel_rfl) (by simp) ?_
    refine AllReadyH.cons (o := ⟨some 20, _, _, _, _, _⟩) rfl (fun K hK => ?_) AllReadyH.nil
    go_simp
    (refine (hPR.out A2 c2 m2 _ f0 (h.below hHeld.2) (by omega)).mono ?_; rintro e w3 ⟨A3, c3, m3, rfl, hm3, ho3, hb3⟩)
    go_wp2_with fail
    refine hK.out _ _ ?_ (fun _ => ?_)
    · ((try dsimp only); (first | exact hst | exact ⟨hHeld.1.below hb2, bel_call hHeld.2 hb2⟩ | exact ⟨hHeld.1.below hb3, bel_call hHeld.2 hb3⟩ | exact ⟨hHeld.1.alloc _, bel_alloc hHeld.2 _⟩))
    clear hK K
    (try simp only [Act.put, List.setIfInBounds_toArray, List.set_cons_zero, List.set_cons_succ])
    refine gen0 (T := fun W => ((fun W => Blk W w.heap.size 89 #[.int .i64 (n : Int), .slice E cs.length cap] ∧ Below w.heap.size w W)) W ∧ OwnB W w.heap.size 5 A3 c3 m3 ∧ True) ?_ (fun wq4 hT => ?_)
    · exact ⟨by (first | exact hst | exact ⟨hHeld.1.below hb2, bel_call hHeld.2 hb2⟩ | exact ⟨hHeld.1.below hb3, bel_call hHeld.2 hb3⟩ | exact ⟨hHeld.1.alloc _, bel_alloc hHeld.2 _⟩), by (first | assumption | exact Sl.lits _ [nv n] 159 (by simp [maxLen]) | exact ho2.sl | exact ho3.more hHeld.2.size), trivial⟩
    (try clear f0 f1 f2 f3 f4 f5 f6 f7 f8 f9 f10 f11)
    obtain ⟨hHeld, f0, -⟩ := hT
    refine wpAnyH_take (i := 8) (oi := ⟨some 12, _, _, _, _, _⟩) (v := ?_) rfl (by kernel_rfl) (by kernel_rfl) (by kernel_rfl) (fun _ _ _ h => h) (Or.inl ⟨by kernel_rfl, ?_⟩) (by assumption) ?_
    rotate_left
    · (intro wS hSw; (try dsimp only at hSw); obtain ⟨q0, q1, _, _⟩ := hSw.1.two; clear hSw; go_simp; (try with_reducible rfl))
    (try simp only [Act.put, List.setIfInBounds_toArray, List.set_cons_zero, List.set_cons_succ])
    refine wpAnyH_take (i := 9) (oi := ⟨some 21, _, _, _, _, _⟩) (v := ?_) rfl (by kernel_rfl) (by kernel_rfl) (by kernel_rfl) (fun _ _ _ h => h) (Or.inl ⟨by kernel_rfl, ?_⟩) (by assumption) ?_
    rotate_left
    · (intro wS hSw; (try dsimp only at hSw); obtain ⟨q0, q1, _, _⟩ := hSw.1.two; clear hSw; go_simp; (try with_reducible rfl))
    (try simp only [Act.put, List.setIfInBounds_toArray, List.set_cons_zero, List.set_cons_succ])
    refine wpAnyH_take (i := 10) (oi := ⟨some 22, _, _, _, _, _⟩) (v := ?_) rfl (by kernel_rfl) (by kernel_rfl) (by kernel_rfl) (fun _ _ _ h => h) (Or.inl ⟨by kernel_rfl, ?_⟩) (by assumption) ?_
    rotate_left
    · (intro wS hSw; (try dsimp only at hSw); obtain ⟨q0, q1, _, _⟩ := hSw.1.two; clear hSw; go_simp; (try with_reducible rfl))
    (try simp only [Act.put, List.setIfInBounds_toArray, List.set_cons_zero, List.set_cons_succ])
    refine wpAnyH_take (i := 11) (oi := ⟨some 5, _, _, _, _, _⟩) (v := ?_) rfl (by kernel_rfl) (by kernel_rfl) (by kernel_rfl) (fun _ _ _ h => h) (Or.inl ⟨by kernel_rfl, ?_⟩) (by assumption) ?_
    rotate_left
    · (intro wS hSw; (try dsimp only at hSw); obtain ⟨q0, q1, _, _⟩ := hSw.1.two; clear hSw; go_simp; (try with_reducible rfl))
    (try simp only [Act.put, List.setIfInBounds_toArray, List.set_cons_zero, List.set_cons_succ])
    refine wpAnyH_take (i := 12) (oi := ⟨some 6, _, _, _, _, _⟩) (v := ?_) rfl (by kernel_rfl) (by kernel_rfl) (by kernel_rfl) (fun _ _ _ h => h) (Or.inl ⟨by kernel_rfl, ?_⟩) (by assumption) ?_
    rotate_left
    · (intro wS hSw; (try dsimp only at hSw); obtain ⟨q0, q1, _, _⟩ := hSw.1.two; clear hSw; go_simp; (try with_reducible rfl))
    (try simp only [Act.put, List.setIfInBounds_toArray, List.set_cons_zero, List.set_cons_succ])
    refine wpAnyH_done (by kernel_rfl) ?_ _
    have htx : m3 = stxt ((n : Int), cs.map ceOf) := by rw [hm3.out, hm2.out]; unfold stxt; simp [vbs]
    have HT := Lib.hid htx
    have hml3 := HLEN.out m3 htx
    obtain ⟨hBq, hwq⟩ := hHeld
    clear htx hst hBq
    go_wp2_with fail
    refine (FPut_any none 0 [] A3 c3 m3 _ (by simp) (Sl.none_ _ _) f0.sl (by omega)).mono ?_
    rintro e w4 ⟨A4, c4, m4, rfl, hm4, ho4, hb4⟩
    go_wp2_with fail
    go_ret2
    exact ⟨A4, c4, m4, by rw [HS.out, ← HT.out]; rfl, (show _ = _ from by rw [hm4.out, HS.out, HT.out]), ho4.more hwq.size, bel_call hwq hb4⟩
  · have HJ : Hid (sput (f, cs.map ceOf) = ([], schk (f, cs.map ceOf))) := (show _ = _ from by
      unfold sput
      rw [if_pos (by omega)])
    have HEV := Lib.hid hev
    rw [hev]
    clear hev hke
    go_wp2_with fail
    go_ret2
    exact ⟨none, 0, [], by rw [HJ.out]; dsimp only; rw [HEV.out]; rfl, (show _ = _ from by rw [HJ.out]), Own.none_ _ _ _ _, hw1⟩

theorem a14_ok : schk (3, [(2, [])]) = 0 := by decide
theorem a14_txt : stxt (3, [(2, [])]) = [3, 1, 1, 2] := by simp [stxt, prun, rowN, rowGo, vb_small]
set_option maxRecDepth 100000 in
set_option maxHeartbeats 1000000 in
theorem alive14_any (w : World) : Calls Try.prog 47 #[] w fun e w' => e = .returned (.bool true) ∧ Below w.heap.size w w' := by
  have hC : SlC (w.alloc (.cells #[.int .i64 2, .slice none 0 0] 42)) (some ⟨w.heap.size, 0, none⟩) 1 [(2, none, 0, [])] := ⟨Sl.litsS w 2 1 (cf (2, none, 0, [])) 42 rfl (by simp [maxLen]), fun x hx => by rw [List.mem_singleton.1 hx]; exact Sl.none_ _ _⟩
  have hbn := below_new w (.cells #[.int .i64 2, .slice none 0 0] 42)
  go_enter Try.func47, Try.ntmps47
  go_wp2_with fail
  refine (SPut_any 3 [(2, none, 0, [])] _ hC (by intro m hm; rw [hm]; show (stxt (3, [(2, [])])).length ≤ _; rw [a14_txt]; simp)).mono ?_
  rintro e w1 ⟨A1, c1, m1, he, hm1, ho1, hb1⟩
  have hp : sput (3, List.map ceOf [(2, none, 0, [])]) = ([4, 3, 1, 1, 2] ++ four (sumW (txb [3, 1, 1, 2])), 0) := by
    show sput (3, [(2, [])]) = _
    unfold sput
    rw [if_neg (by rw [a14_ok]; simp), a14_txt]
    unfold fput
    rw [if_neg (by simp)]
    have h4 : txb [3, 1, 1, 2] = [4, 3, 1, 1, 2] := by simp [txb, vb_small]
    unfold frm
    rw [h4]
    rfl
  rw [hp] at he hm1
  have h9 : m1.length = 9 := by rw [hm1.out]; simp [four_len]
  have h5 : m1.take 5 = [4, 3, 1, 1, 2] := by rw [hm1.out]; rfl
  have hev : errv 0 = .nilIface := rfl
  dsimp only at he
  rw [hev, h9] at he
  subst he
  have hsl := Sl.takeB ho1.sl 5
  rw [h5] at hsl
  have hc9 : 9 ≤ c1 := by have := ho1.sl.2.1; omega
  have hcv := conv_str (P := Try.prog) 40 9 5 Try.underlying40 Try.underlying5 Try.underlying9 (n := 5) hsl rfl
  clear h9 h5 hm1 hp hev
  go_wp2_with fail
  go_ret
  exact ⟨rfl, bel_call hbn hb1⟩
end Go.Proofs.Ytkkcgibmcijhaaa
