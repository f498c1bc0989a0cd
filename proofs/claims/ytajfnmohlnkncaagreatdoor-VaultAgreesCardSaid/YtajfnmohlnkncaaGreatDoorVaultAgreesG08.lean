/- WHAT IT HOLDS: Put of segments, and the law's fixed fact, walked. | WHAT IT HOLDS: the fixed fact of the manifest's laws, walked: the bytes of the empty manifest. | WHAT IT HOLDS: which cursors there are, plainly and walked. | WHAT IT HOLDS: parts appended, cloned; Step, walked. | WHAT IT HOLDS: the law CrcParts, walked. | WHAT IT HOLDS: the law CrcFinds, walked. | WHAT IT HOLDS: the law FrameFinds, walked. | WHAT IT HOLDS: frame.Join, and the document's frames, walked. | WHAT IT HOLDS: the law FrameJoins, walked. | WHAT IT HOLDS: frame.One, Prefix, All, walked. | WHAT IT HOLDS: signed numbers' numbers, plainly (no program). | WHAT IT HOLDS: what is put is taken as it was, of the reader's plain functions (no program). | WHAT IT HOLDS: one frame, put and taken, plainly (no program). | WHAT IT HOLDS: the fixed fact of the cursor's laws, walked: the empty cursor, put and taken back. | WHAT IT HOLDS: a row of the call's own, written in place; rows of other types beside it. -/
import Derived.Test.YtajfnmohlnkncaaGreatDoorVaultAgreesG06
import Derived.Test.YtajfnmohlnkncaaGreatDoorVaultAgreesG07
import Derived.Test.YtajfnmohlnkncaaGreatDoorVaultAgreesG02
import Derived.Great.BuildSlice
import Derived.Test.YtajfnmohlnkncaaGreatDoorVaultAgreesG01
import Derived.Laws.CopyOwn
import Derived.Test.YtajfnmohlnkncaaGreatDoorVaultAgreesG03
import Derived.Lib.Zigzag
import Derived.Test.YtajfnmohlnkncaaGreatDoorVaultAgreesG04
namespace Go.Proofs.YtajfnmohlnkncaaGreatDoor
section
open Go.RowKit
attribute [local go_sem ↓] Go.wp_at_zero Go.wp_at_succ
theorem PutRun_ok {E B : Option Addr} {cap b : Nat} {l : List UInt8} (cs : List CeV) (w : World) (hs : SlB w B b l) (h : SlC w E cap cs) (hl : l.length ≤ 1000000) (h1 : cs.length ≤ 64) (h2 : rchk (cs.map ceOf) = 0) :
 Calls Tryz.prog 108 #[.slice B l.length b, .slice E cs.length cap] w fun e w' => ∃ A c m, e = .returned (.tuple #[.slice A (List.length m) c, .nilIface]) ∧ Hid (m = l ++ (vb cs.length ++ prun [] (cs.map ceOf))) ∧ OwnB w' w.heap.size 5 A c m ∧ Below w.heap.size w w' := by
 refine (PutRun_any cs w hs h hl).mono ?_
 rintro e w3 ⟨hb3, ⟨A3, c3, m3, hl3, hr3, rfl, hm3, ho3⟩ | ⟨bad, hbad, hbe, rfl⟩⟩
 · exact ⟨A3, c3, m3, rfl, (show _ = _ from by rw [hm3.out]; simp), ho3, hb3⟩
 · rw [if_neg (by simp; omega), h2] at hbe
   exact absurd hbe hbad
def stxt (s : Sg) : List UInt8 := vb s.1.toNat ++ (vb s.2.length ++ prun [] s.2)
theorem stxt_len {s : Sg} (h : schk s = 0) : (stxt s).length ≤ 7000 := by
 obtain ⟨h0, h1, h2, h3, h4⟩ := schk_ok h
 have h5 := rchk_zero h4
 have h6 := vb_le10 (n := s.1.toNat) (by omega)
 have h7 := vb_le10 (n := s.2.length) (by omega)
 have h8 := rgo_len s.2 none [] h5
 rw [rgo_prun 64 s.2 [] h2 h2 h5 (by simp)] at h8
 unfold stxt
 simp only [List.length_append]
 omega
def sput (s : Sg) : List UInt8 × Nat := if schk s ≠ 0 then ([], schk s) else fput [] (stxt s)
set_option maxRecDepth 100000 in
set_option maxHeartbeats 2000000 in
theorem SgPut_any {E : Option Addr} {cap : Nat} (f : Int) (cs : List CeV) (w : World) (h : SlC w E cap cs) :
 Calls Tryz.prog 75 #[cv f E cs.length cap] w (PutsB w (sput (f, cs.map ceOf))) := by
 have hB := Blk.new w 43 #[.int .i64 f, .slice E cs.length cap]
 have hbw := below_new w (.cells #[.int .i64 f, .slice E cs.length cap] 43)
 obtain ⟨a0, a1, _, _⟩ := hB.two
 go_enter Tryz.func75, Tryz.ntmps75
 go_wp2_with fail
 refine (SCheck_any f cs _ (h.below hbw)).mono ?_
 rintro e w1 ⟨rfl, hb1⟩
 have hB1 := hB.below hb1
 have hw1 := bel_call hbw hb1
 clear hB hbw hb1 a0 a1
 rcases errv_cases (schk (f, cs.map ceOf)) with ⟨h0, hev⟩ | ⟨k, hk, hke, hev⟩
 · obtain ⟨hf0, hf1, hn64, hne, hr0⟩ := schk_ok h0
   dsimp only at hf0 hf1 hn64 hne hr0
   have HLEN := Lib.hid (stxt_len h0)
   have HS := Lib.hid (show sput (f, cs.map ceOf) = fput [] (stxt (f, cs.map ceOf)) from by unfold sput; rw [if_neg (by rw [h0]; simp)])
   rw [hev]
   clear hev h0
   obtain ⟨n, rfl⟩ : ∃ n : Nat, f = n := ⟨f.toNat, by omega⟩
   have hun : U64 n := by unfold U64; omega
   have hwn := wrap_u64_of hun
   have hPR := Lib.hid (fun (B : Option Addr) (b : Nat) (l : List UInt8) (W : World) (hs : SlB W B b l) (hh : SlC W E cap cs) (hl : l.length ≤ 1000000) => PutRun_ok cs W hs hh hl (by simpa using hn64) hr0)
   clear hr0 hne hn64
   go_upto_region 4 with (fail)
   have hst : Blk w1.drew w.heap.size 43 #[.int .i64 (n : Int), .slice E cs.length cap] ∧ Below w.heap.size w w1.drew := ⟨hB1.drew, hw1.drew⟩
   clear hB1 hw1
   refine wp_region_held_drew (S := (fun W => Blk W w.heap.size 43 #[.int .i64 (n : Int), .slice E cs.length cap] ∧ Below w.heap.size w W)) (by kernel_rfl) ?_ (fun hHeld => ?_)
   · exact hst
   refine gen0 (T := fun W => ((fun W => Blk W w.heap.size 43 #[.int .i64 (n : Int), .slice E cs.length cap] ∧ Below w.heap.size w W)) W ∧ True) ?_ (fun wq1 hT => ?_)
   · exact ⟨by (exact hst), trivial⟩
   (try clear f0 f1 f2 f3 f4 f5 f6 f7 f8 f9 f10 f11)
   obtain ⟨hHeld, -⟩ := hT
   refine wTk (i := 0) (oi := ⟨some 13, _, _, _, _, _⟩) (v := ?_) rfl ⟨by kernel_rfl, ?_⟩ (by assumption) ?_
   rotate_left
   · (intro wS hSw; (try dsimp only at hSw); obtain ⟨q0, q1, _, _⟩ := hSw.1.two; clear hSw; go_simp; (try with_reducible rfl))
   (try simp only [Act.put, pS0, pS1, pS2])
   refine wTk (i := 1) (oi := ⟨some 14, _, _, _, _, _⟩) (v := ?_) rfl ⟨by kernel_rfl, ?_⟩ (by assumption) ?_
   rotate_left
   · (intro wS hSw; (try dsimp only at hSw); obtain ⟨q0, q1, _, _⟩ := hSw.1.two; clear hSw; go_simp; (try with_reducible rfl))
   (try simp only [Act.put, pS0, pS1, pS2])
   refine wTk (i := 2) (oi := ⟨some 15, _, _, _, _, _⟩) (v := ?_) rfl ⟨by kernel_rfl, ?_⟩ (by assumption) ?_
   rotate_left
   · (intro wS hSw; (try dsimp only at hSw); obtain ⟨q0, q1, _, _⟩ := hSw.1.two; clear hSw; go_simp; (try with_reducible rfl))
   (try simp only [Act.put, pS0, pS1, pS2])
   refine wTk (i := 5) (oi := ⟨some 18, _, _, _, _, _⟩) (v := ?_) rfl ⟨by kernel_rfl, ?_⟩ (by assumption) ?_
   rotate_left
   · (intro wS hSw; (try dsimp only at hSw); obtain ⟨q0, q1, _, _⟩ := hSw.1.two; clear hSw; go_simp; (try with_reducible rfl))
   (try simp only [Act.put, pS0, pS1, pS2])
   refine wTk (i := 6) (oi := ⟨some 19, _, _, _, _, _⟩) (v := ?_) rfl ⟨by kernel_rfl, ?_⟩ (by assumption) ?_
   rotate_left
   · (intro wS hSw; (try dsimp only at hSw); obtain ⟨q0, q1, _, _⟩ := hSw.1.two; clear hSw; go_simp; (try with_reducible rfl))
   (try simp only [Act.put, pS0, pS1, pS2])
   refine wR1 (i := 3) (o := ⟨some 16, _, _, _, _, _⟩) rfl (fun K hK => ?_)
   go_simp
   refine hK.out _ _ ?_ (fun _ => ?_)
   · ((try dsimp only); (exact ⟨hHeld.1.alloc _, bel_alloc hHeld.2 _⟩))
   clear hK K
   (try simp only [Act.put, pS0, pS1, pS2])
   refine gen0 (T := fun W => ((fun W => Blk W w.heap.size 43 #[.int .i64 (n : Int), .slice E cs.length cap] ∧ Below w.heap.size w W)) W ∧ SlN W (some ⟨wq1.heap.size, 0, none⟩) 1 [n] ∧ True) ?_ (fun wq2 hT => ?_)
   · exact ⟨by (exact ⟨hHeld.1.alloc _, bel_alloc hHeld.2 _⟩), by (exact Sl.lits _ [nv n] 138 (by simp [maxLen])), trivial⟩
   (try clear f0 f1 f2 f3 f4 f5 f6 f7 f8 f9 f10 f11)
   obtain ⟨hHeld, f0, -⟩ := hT
   refine wR1 (i := 4) (o := ⟨some 17, _, _, _, _, _⟩) rfl (fun K hK => ?_)
   go_simp
   (refine (Put_any none 0 [] _ 1 [n] _ (by simp) (Sl.none_ _ _) f0 (by simp) (by intro z hz; simp at hz; subst hz; exact hun)).mono ?_; rintro e w2 ⟨A2, c2, m2, rfl, hm2, ho2, hb2⟩; have hml2 : m2.length ≤ 10 := (by rw [hm2.out]; simp [vbs]; exact vb_le10 hun))
   go_wp2_with fail
   refine hK.out _ _ ?_ (fun _ => ?_)
   · ((try dsimp only); (exact ⟨hHeld.1.below hb2, bel_call hHeld.2 hb2⟩))
   clear hK K
   (try simp only [Act.put, pS0, pS1, pS2])
   refine gen0 (T := fun W => ((fun W => Blk W w.heap.size 43 #[.int .i64 (n : Int), .slice E cs.length cap] ∧ Below w.heap.size w W)) W ∧ SlB W A2 c2 m2 ∧ True) ?_ (fun wq3 hT => ?_)
   · exact ⟨by (exact ⟨hHeld.1.below hb2, bel_call hHeld.2 hb2⟩), by (exact ho2.sl), trivial⟩
   (try clear f0 f1 f2 f3 f4 f5 f6 f7 f8 f9 f10 f11)
   obtain ⟨hHeld, f0, -⟩ := hT
   refine wR1 (i := 7) (o := ⟨some 20, _, _, _, _, _⟩) rfl (fun K hK => ?_)
   go_simp
   (refine (hPR.out A2 c2 m2 _ f0 (h.below hHeld.2) (by omega)).mono ?_; rintro e w3 ⟨A3, c3, m3, rfl, hm3, ho3, hb3⟩)
   go_wp2_with fail
   refine hK.out _ _ ?_ (fun _ => ?_)
   · ((try dsimp only); (exact ⟨hHeld.1.below hb3, bel_call hHeld.2 hb3⟩))
   clear hK K
   (try simp only [Act.put, pS0, pS1, pS2])
   refine gen0 (T := fun W => ((fun W => Blk W w.heap.size 43 #[.int .i64 (n : Int), .slice E cs.length cap] ∧ Below w.heap.size w W)) W ∧ OwnB W w.heap.size 5 A3 c3 m3 ∧ True) ?_ (fun wq4 hT => ?_)
   · exact ⟨by (exact ⟨hHeld.1.below hb3, bel_call hHeld.2 hb3⟩), by (exact ho3.more hHeld.2.size), trivial⟩
   (try clear f0 f1 f2 f3 f4 f5 f6 f7 f8 f9 f10 f11)
   obtain ⟨hHeld, f0, -⟩ := hT
   refine wTk (i := 8) (oi := ⟨some 12, _, _, _, _, _⟩) (v := ?_) rfl ⟨by kernel_rfl, ?_⟩ (by assumption) ?_
   rotate_left
   · (intro wS hSw; (try dsimp only at hSw); obtain ⟨q0, q1, _, _⟩ := hSw.1.two; clear hSw; go_simp; (try with_reducible rfl))
   (try simp only [Act.put, pS0, pS1, pS2])
   refine wTk (i := 9) (oi := ⟨some 21, _, _, _, _, _⟩) (v := ?_) rfl ⟨by kernel_rfl, ?_⟩ (by assumption) ?_
   rotate_left
   · (intro wS hSw; (try dsimp only at hSw); obtain ⟨q0, q1, _, _⟩ := hSw.1.two; clear hSw; go_simp; (try with_reducible rfl))
   (try simp only [Act.put, pS0, pS1, pS2])
   refine wTk (i := 10) (oi := ⟨some 22, _, _, _, _, _⟩) (v := ?_) rfl ⟨by kernel_rfl, ?_⟩ (by assumption) ?_
   rotate_left
   · (intro wS hSw; (try dsimp only at hSw); obtain ⟨q0, q1, _, _⟩ := hSw.1.two; clear hSw; go_simp; (try with_reducible rfl))
   (try simp only [Act.put, pS0, pS1, pS2])
   refine wTk (i := 11) (oi := ⟨some 5, _, _, _, _, _⟩) (v := ?_) rfl ⟨by kernel_rfl, ?_⟩ (by assumption) ?_
   rotate_left
   · (intro wS hSw; (try dsimp only at hSw); obtain ⟨q0, q1, _, _⟩ := hSw.1.two; clear hSw; go_simp; (try with_reducible rfl))
   (try simp only [Act.put, pS0, pS1, pS2])
   refine wTk (i := 12) (oi := ⟨some 6, _, _, _, _, _⟩) (v := ?_) rfl ⟨by kernel_rfl, ?_⟩ (by assumption) ?_
   rotate_left
   · (intro wS hSw; (try dsimp only at hSw); obtain ⟨q0, q1, _, _⟩ := hSw.1.two; clear hSw; go_simp; (try with_reducible rfl))
   (try simp only [Act.put, pS0, pS1, pS2])
   refine wpAnyH_done (by kernel_rfl) ?_ _
   have htx : m3 = stxt ((n : Int), cs.map ceOf) := by rw [hm3.out, hm2.out]; unfold stxt; simp [vbs]
   have HT := Lib.hid htx
   have hml3 : m3.length ≤ 7000 := by rw [htx]; exact HLEN.out
   obtain ⟨hBq, hwq⟩ := hHeld
   clear htx hst hBq
   go_wp2_with fail
   refine (FPut_any none 0 [] A3 c3 m3 _ (by simp) (Sl.none_ _ _) f0.sl (by omega)).mono ?_
   rintro e w4 ⟨A4, c4, m4, rfl, hm4, ho4, hb4⟩
   go_wp2_with fail
   go_ret2
   exact ⟨A4, c4, m4, by rw [HS.out, ← HT.out]; rfl, (show _ = _ from by rw [hm4.out, HS.out, HT.out]), ho4.more hwq.size, bel_call hwq hb4⟩
 · have HJ : Hid (sput (f, cs.map ceOf) = ([], schk (f, cs.map ceOf))) := (show _ = _ from by
    unfold sput
    rw [if_pos (by omega)])
   have HEV := Lib.hid hev
   rw [hev]
   clear hev hke
   go_wp2_with fail
   go_ret2
   exact ⟨none, 0, [], by rw [HJ.out]; dsimp only; rw [HEV.out]; rfl, (show _ = _ from by rw [HJ.out]), Own.none_ _ _ _ _, hw1⟩
theorem SlB.dg {w : World} {g : Nat} {n f t r : Int} {d : Dg} {A : Option Addr} {k c : Nat} (h : BlM w g n f t r d A k c) : SlB w (some ⟨g, 4, none⟩) 32 d.1 := by
 have hd := d.2
 refine ⟨by simp, by omega, by simp [maxLen], (fun h => by cases h), fun j u hj => ⟨_, rfl, ?_⟩⟩
 exact BlM.dg h j u (by simpa [dga] using hj)
theorem step_bytesG {P : Program} {w : World} {ops : Array Oper} {o : Oper} {a : Act} {K : Act → World → Prop} {Q : Exit → Act → World → Prop} {E : Prop} (t e : TypeId) (ht : P.underlying t = some (.slice e))
 (hinfo : (P.info? e).map (fun i => (i.zero, i.size, i.bytes)) = some (some (.int .u8 0), 1, 1)) (hw : Region.wanted o (yielded ops a.tmps) = true) (s x : Operand)
 (ho : o.op = .call { callee := .builtin .append, args := #[s, x], argTypes := #[t, t] })
 (base : Nat) (A : Option Addr) (c : Nat) (l : List UInt8) (hs : a.eval s = .slice A l.length c) (hown : OwnB w base e A c l)
 (A2 : Option Addr) (c2 n2 : Nat) (l2 : List UInt8) (hn2 : n2 = l2.length) (hx : a.eval x = .slice A2 n2 c2) (hr : SlB w A2 c2 l2)
 (hlen : l.length + l2.length ≤ 140737488355328) (hbase : base ≤ w.heap.size)
 (h : ∀ A' c' (m : List UInt8) w', Hid (m = l ++ l2) → OwnB w' base e A' c' m → w.grownBy w' (A.map (·.block)) → Below base w w' → K (a.put o.dst (.slice A' m.length c')) w') :
 if Region.wanted o (yielded ops a.tmps) = true then Oper.wp P o a w K Q else E := by
 subst hn2
 obtain ⟨i0, hi, hz0, hz1, hz2⟩ := info_parts hinfo
 refine step_append hw s x t ho base e i0 (.int .u8 0) 1 1 ht hi hz0 hz1 hz2 rfl (by decide) A l.length c (bvs l) hs hown A2 l2.length c2 (bvs l2) hx hr (one_bvs l2) (by omega) (by simp only [maxLen]; omega) hbase ?_
 intro A' c' w' hap
 rw [← List.length_append]
 refine h A' c' (l ++ l2) w' rfl ?_ hap.grown (hap.below hown hbase)
 have := hap.own
 simpa [OwnB] using this
theorem lit64 {w W : World} (hb : w.heap.size ≤ W.heap.size) (n : Nat) : Own (W.alloc (.cells #[nv n] 138)) w.heap.size 138 1 (some ⟨W.heap.size, 0, none⟩) 1 1 [nv n] :=
 Own.more (World.ownsRow_lit W #[nv n] 1 (Nat.le_refl _) (by simp [maxLen]) (by simp)) hb
theorem mfa_all (n f t r : Int) (d : Dg) (A : Option Addr) (k c : Nat) : (mfa n f t r d A k c).all (·.oneCell') = true := by
 rw [Array.all_eq_true_iff_forall_mem]
 intro u hu
 simp only [mfa, mfl, List.mem_toArray, List.mem_cons, List.mem_append, List.not_mem_nil, or_false] at hu
 rcases hu with rfl | rfl | rfl | rfl | hu | rfl
 · rfl
 · rfl
 · rfl
 · rfl
 · exact one_bvs _ u hu
 · rfl
theorem pt_info : (Tryz.prog.info? 37).map (fun i => (i.zero, i.size, i.bytes)) = some (some (.agg (pta (0, 0, 0, dg0))), 35, 56) := by kernel_rfl
theorem one_ptl (l : List Pt5) : ∀ u ∈ l.flatMap ptl, u.oneCell' = true := by
 intro u hu
 simp only [List.mem_flatMap] at hu
 obtain ⟨x, _, hx⟩ := hu
 exact ptl_one x u hx
abbrev OwnP (w : World) (base : Nat) (A : Option Addr) (c : Nat) (ps : List Pt5) : Prop := Own w base 37 35 A ps.length c (ps.flatMap ptl)
theorem step_parts {w : World} {ops : Array Oper} {o : Oper} {a : Act} {K : Act → World → Prop} {Q : Exit → Act → World → Prop} {X : Prop} (hw : Region.wanted o (yielded ops a.tmps) = true) (s x : Operand)
 (ho : o.op = .call { callee := .builtin .append, args := #[s, x], argTypes := #[44, 44] })
 (base : Nat) (A : Option Addr) (c : Nat) (l : List Pt5) (hs : a.eval s = .slice A l.length c) (hown : OwnP w base A c l)
 (A2 : Option Addr) (c2 n2 : Nat) (l2 : List Pt5) (hn2 : n2 = l2.length) (hx : a.eval x = .slice A2 n2 c2) (hr : SlP w A2 c2 l2) (hlen : l.length + l2.length ≤ 1000000000) (hbase : base ≤ w.heap.size)
 (h : ∀ A' c' (m : List Pt5) w', Hid (m = l ++ l2) → OwnP w' base A' c' m → w.grownBy w' (A.map (·.block)) → Below base w w' → K (a.put o.dst (.slice A' m.length c')) w') :
 if Region.wanted o (yielded ops a.tmps) = true then Oper.wp Tryz.prog o a w K Q else X := by
 subst hn2
 obtain ⟨i0, hi, hz0, hz1, hz2⟩ := info_parts pt_info
 refine step_append hw s x 44 ho base 37 i0 _ 35 56 Tryz.underlying44 hi hz0 hz1 hz2 (by rw [show (Value.agg (pta (0, 0, 0, dg0))).cells.size = (pta (0, 0, 0, dg0)).size from rfl, pta_size]) (by decide) A l.length c (l.flatMap ptl) hs hown A2 l2.length c2 (l2.flatMap ptl) hx hr (one_ptl l2) (by omega) (by simp only [maxLen]; omega) hbase ?_
 intro A' c' w' hap
 rw [← List.length_append]
 refine h A' c' (l ++ l2) w' rfl ?_ hap.grown (hap.below hown hbase)
 show Own w' base 37 35 A' (l ++ l2).length c' ((l ++ l2).flatMap ptl)
 rw [List.length_append, List.flatMap_append]
 exact hap.own
theorem wpl_parts {w : World} {ops : Array Oper} {rest : List Oper} {o : Oper} {a : Act} {Q : Exit → Act → World → Prop} (hw : Region.wanted o (yielded ops a.tmps) = true) (s x : Operand)
 (ho : o.op = .call { callee := .builtin .append, args := #[s, x], argTypes := #[44, 44] })
 (base : Nat) (A : Option Addr) (c : Nat) (l : List Pt5) (hs : a.eval s = .slice A l.length c) (hown : OwnP w base A c l)
 (A2 : Option Addr) (c2 n2 : Nat) (l2 : List Pt5) (hn2 : n2 = l2.length) (hx : a.eval x = .slice A2 n2 c2) (hr : SlP w A2 c2 l2) (hlen : l.length + l2.length ≤ 1000000000) (hbase : base ≤ w.heap.size)
 (h : ∀ A' c' (m : List Pt5) w', Hid (m = l ++ l2) → OwnP w' base A' c' m → w.grownBy w' (A.map (·.block)) → Below base w w' → wpList Tryz.prog ops Q rest (a.put o.dst (.slice A' m.length c')) w') : wpList Tryz.prog ops Q (o :: rest) a w :=
 wpList_step fun _ hK => step_parts hw s x ho base A c l hs hown A2 c2 n2 l2 hn2 hx hr hlen hbase fun A' c' m w' h1 h2 h3 h4 => hK _ _ (h A' c' m w' h1 h2 h3 h4)
def GivesPs (w0 : World) (ps : List Pt5) (e : Ending) (w' : World) : Prop := ∃ A c m, e = .returned (.slice A (List.length m) c) ∧ Hid (m = ps) ∧ OwnP w' w0.heap.size A c m ∧ Below w0.heap.size w0 w'
set_option maxRecDepth 100000 in
set_option maxHeartbeats 1000000 in
theorem PtClone_any {E : Option Addr} {cap : Nat} (ps : List Pt5) (w : World) (h : SlP w E cap ps) (hl : ps.length ≤ 1000000) :
 Calls Tryz.prog 40 #[.slice E ps.length cap] w (GivesPs w ps) := by
 have hq := fun (w : World) (A : Option Addr) (n c : Nat) => Lib.run_eql_slice_nil (P := Tryz.prog) w 44 37 A n c 0 0 Tryz.underlying44
 cases E with
 | none =>
  have h0 := h.2.2.2.1 rfl
  have h1 : ps = [] := List.eq_nil_of_length_eq_zero (by have := h.2.1; omega)
  subst h0
  subst h1
  go_enter Tryz.func40, Tryz.ntmps40
  go_wp2_with fail
  go_ret
  exact ⟨none, 0, [], rfl, (show _ = _ from rfl), Own.none_ _ _ _ _, Below.refl _ _⟩
 | some ad =>
  go_enter Tryz.func40, Tryz.ntmps40
  go_wp2_with (at_builtin; go_must (refine wpl_parts rfl (.tmp 5) (.tmp 6) rfl w.heap.size (some ⟨w.heap.size, 0, none⟩) 0 [] rfl (Own.lit 35 (Nat.le_refl _)) (some ad) cap ps.length ps rfl rfl (h.below (below_new _ _)) (by simp; omega) (by simp) ?_; intro A3 c3 m3 w3 hm3 ho3 _ hb3))
  go_ret
  exact ⟨A3, c3, m3, rfl, (show _ = _ from by rw [hm3.out]; rfl), ho3, (below_new _ _).trans hb3⟩
theorem step_lit1 {w : World} {ops : Array Oper} {o : Oper} {a : Act} {K : Act → World → Prop} {Q : Exit → Act → World → Prop} {X : Prop} (hgd : Region.wanted o (yielded ops a.tmps) = true) (x : Operand) (ho : o.op = .buildSlice 44 1 #[(0, x)])
 (p : Pt5) (hx : a.eval x = .agg (pta p)) (h : K (a.put o.dst (.slice (some ⟨w.heap.size, 0, none⟩) 1 1)) (w.alloc (.cells (pta p) 37))) : if Region.wanted o (yielded ops a.tmps) = true then Oper.wp Tryz.prog o a w K Q else X := by
 rw [if_pos hgd]
 obtain ⟨i0, hi, hz0, hz1, hz2⟩ := info_parts pt_info
 refine wp_buildSlice 44 37 1 _ ho (pta p) i0 _ Tryz.underlying44 hi hz0 (by rw [hz1]; decide) (by rw [hz1]; decide) ?_ h
 rw [hz1]
 have hl : ((#[(0, x)] : Array (Nat × Operand)).map fun (i, x) => (i, a.eval x)).toList = ([Value.agg (pta p)].zipIdx 0).map fun x => (x.2, x.1) := by simp [hx]
 have hps := pta_size p
 rw [hl, Go.Great.fill_whole (s := 35) (by decide) [Value.agg (pta p)] _ (by intro v hv; rw [List.mem_singleton.1 hv]; exact hps) (by simp)]
 simp [Value.cells]
theorem litP (W : World) (p : Pt5) : SlP (W.alloc (.cells (pta p) 37)) (some ⟨W.heap.size, 0, none⟩) 1 [p] := by
 have h := Sl.litsS W 35 1 (ptl p) 37 (by rw [ptl_len]) (by simp [maxLen])
 show Sl _ 35 _ 1 1 ([p].flatMap ptl)
 simpa [pta] using h
section
variable {w W W' : World} {f nx t q : Int} {A : Option Addr} {k c : Nat} {p : Pt5}
end
def JoinsB (w0 : World) (o : List UInt8 × Nat) (e : Ending) (w' : World) : Prop :=
 ∃ A c m, e = .returned (.tuple #[.slice A (List.length m) c, errv o.2]) ∧ Hid (m = o.1) ∧ SlB w' A c m ∧ Below w0.heap.size w0 w'
def fone (l : List UInt8) : List UInt8 × Nat := if (ftake l).2.2 ≠ 0 then ([], (ftake l).2.2) else if (ftake l).2.1 < l.length then ([], 2) else ((ftake l).1, 0)
set_option maxRecDepth 100000 in
set_option maxHeartbeats 1000000 in
theorem FOne_any (A : Option Addr) (c : Nat) (l : List UInt8) (w : World) (hs : SlB w A c l) (hl : l.length ≤ 10000000) :
 Calls Tryz.prog 66 #[.slice A l.length c] w (JoinsB w (fone l)) := by
 go_enter Tryz.func66, Tryz.ntmps66
 go_wp2_with fail
 refine (FTake_any A c l _ hs hl).mono ?_
 rintro e w1 ⟨A1, c1, m1, he, hm1, ho1, hb1⟩
 rcases errv_cases (ftake l).2.2 with ⟨h0, hev⟩ | ⟨k, hk, hke, hev⟩
 · rw [hev] at he
   subst he
   by_cases hlt : (ftake l).2.1 < l.length
   · have hf := Lib.hid (show fone l = ([], 2) from by unfold fone; rw [if_neg (by omega), if_pos hlt])
     have hi : (((ftake l).2.1 : Nat) : Int) < (l.length : Int) := by omega
     generalize (ftake l).2.1 = q at *
     clear h0 hm1
     go_wp2_with fail
     go_ret2
     exact ⟨none, 0, [], by rw [hf.out]; rfl, by rw [hf.out]; rfl, Sl.none_ _ _, hb1⟩
   · have hf := Lib.hid (show fone l = ((ftake l).1, 0) from by unfold fone; rw [if_neg (by omega), if_neg hlt])
     have hi : ¬ (((ftake l).2.1 : Nat) : Int) < (l.length : Int) := by omega
     have hm : Hid (m1 = (fone l).1) := (show _ = _ from by rw [hf.out]; exact hm1.out)
     generalize (ftake l).2.1 = q at *
     clear h0 hm1
     go_wp2_with fail
     go_ret2
     exact ⟨A1, c1, m1, by rw [hf.out]; rfl, hm, ho1.1, hb1⟩
 · have hf := Lib.hid (show fone l = ([], (ftake l).2.2) from by unfold fone; rw [if_pos (by omega)])
   have hfe : errv (fone l).2 = .iface 60 (.int .i64 k) := by rw [hf.out]; exact hev
   have HFE := Lib.hid hfe
   rw [hev] at he
   subst he
   generalize (ftake l).2.1 = q at *
   clear hev hfe hm1 hke
   go_wp2_with fail
   go_ret2
   exact ⟨none, 0, [], by rw [HFE.out]; rfl, by rw [hf.out]; rfl, Sl.none_ _ _, hb1⟩
end
section
open Go.RowKit
def zb (u : Nat) : Int := if u % 2 = 0 then (u / 2 : Nat) else -((u / 2 : Nat) : Int) - 1
theorem rNum_vb {n : Nat} (h : U64 n) (r : List UInt8) : rNum (vb n ++ r, 0) = (n, (r, 0)) := by
 unfold rNum
 rw [if_neg (by simp)]
 simp only [take_vb h r, List.drop_left]
theorem rFixed_all (t r : List UInt8) : rFixed (t.length : Int) (t ++ r, 0) = (t, (r, 0)) := by
 unfold rFixed
 rw [if_neg (by simp), if_neg (by simp; omega)]
 simp
theorem ftake_back {l : List UInt8} (h : (ftake l).2.2 = 0) : (ftake l).1.length ≤ 65536 ∧ l.take (ftake l).2.1 = frm (ftake l).1 := by
 unfold ftake at h ⊢
 split at h
 · simp at h
 · rename_i n k hv
   obtain ⟨hu, hk, htk⟩ := take_some hv
   by_cases h1 : 65536 < n
   · rw [if_pos h1] at h; simp at h
   rw [if_neg h1] at h ⊢
   by_cases h2 : l.length < k + n + 4
   · rw [if_pos h2] at h; simp at h
   rw [if_neg h2] at h ⊢
   by_cases h3 : four (sumW (l.take (k + n))) = (l.drop (k + n)).take 4
   · rw [if_pos h3]
     dsimp only
     have hln : ((l.take (k + n)).drop k).length = n := by simp; omega
     have htx : txb ((l.take (k + n)).drop k) = l.take (k + n) := by
      unfold txb
      rw [hln, ← htk]
      have h5 : (l.take (k + n)).take k = l.take k := by rw [List.take_take, Nat.min_eq_left (by omega)]
      rw [← h5, List.take_append_drop]
     refine ⟨by omega, ?_⟩
     unfold frm
     rw [htx, h3, ← List.take_add]
   · rw [if_neg h3] at h; simp at h
theorem fone_back {l : List UInt8} (h : (fone l).2 = 0) : (fone l).1.length ≤ 65536 ∧ l = frm (fone l).1 := by
 unfold fone at h ⊢
 by_cases h1 : (ftake l).2.2 ≠ 0
 · rw [if_pos h1] at h; exact absurd h h1
 rw [if_neg h1] at h ⊢
 by_cases h2 : (ftake l).2.1 < l.length
 · rw [if_pos h2] at h; simp at h
 rw [if_neg h2]
 have h3 := ftake_back (l := l) (by omega)
 refine ⟨h3.1, ?_⟩
 rw [List.take_of_length_le (by omega)] at h3
 exact h3.2
theorem fone_frm {t : List UInt8} (h : t.length ≤ 65536) : fone (frm t) = (t, 0) := by
 have h1 := ftake_frm t [] h
 rw [List.append_nil] at h1
 unfold fone
 rw [h1, if_neg (by simp), if_neg (by simp)]
end
section
open Go.RowKit
attribute [local go_sem ↓] Go.wp_at_zero Go.wp_at_succ
section
variable {w W W' : World} {g gt gc B : Nat}
theorem IsR.alloc {s : List UInt8 × Nat} (h : IsR W g B s) (o : Obj) : IsR (W.alloc o) g B s := h.below (below_new _ _)
end
end
section
open Go.RowKit
section
variable {w : World} {base base' : Nat} {e e' : TypeId} {size size' n n' c c' : Nat} {A B : Option Addr} {xs ys : List Value}
theorem Own.setOther (h : Own w base e size A n c xs) {g : Nat} (hg : A.map (·.block) ≠ some g) (i : Nat) (u : Value) : Own (w.setCell ⟨g, i, none⟩ u) base e size A n c xs :=
 ownsRow_setCell_other h (a := ⟨g, i, none⟩) (by rw [ownBlock_slice]; exact hg) u
end
end
end Go.Proofs.YtajfnmohlnkncaaGreatDoor
