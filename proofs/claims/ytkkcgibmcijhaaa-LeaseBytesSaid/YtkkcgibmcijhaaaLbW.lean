/- WHAT IT HOLDS: a lease's Put and Take, and the document's, walked. -/
import Derived.Test.YtkkcgibmcijhaaaLbP
import Derived.Test.YtkkcgibmcijhaaaRefW
import Derived.Test.YtkkcgibmcijhaaaFrmT
namespace Go.Proofs.Ytkkcgibmcijhaaa
open Go.RowKit
attribute [local go_sem ↓] Go.wp_at_zero Go.wp_at_succ

theorem fput_ok {l t : List UInt8} (h : t.length ≤ 65536) : fput l t = (l ++ frm t, 0) := by unfold fput; rw [if_neg (by omega)]

set_option maxRecDepth 100000 in
set_option maxHeartbeats 1000000 in
theorem LPut_any (o e u : Int) (w : World) : Calls Try.prog 65 #[lv o e u] w (PutsB w (lput o e u)) := by
  have hB0 := Blk.new w 25 #[iv o, iv e, iv u]
  have hbw := below_new w (.cells #[iv o, iv e, iv u] 25)
  rcases errv_cases (chk o e u) with ⟨hc, he⟩ | ⟨k, hk, hc, he⟩
  · have hg := Lib.hid (show lput o e u = (frm (ltxt o e u), 0) from by unfold lput; rw [if_neg (by omega)])
    have hr := chk_ok hc
    have hlt := ltxt_len hc
    obtain ⟨⟨r1, r2⟩, ⟨r3, r4⟩, ⟨r5, r6⟩, _⟩ := hr
    obtain ⟨a, rfl⟩ : ∃ n : Nat, o = n := ⟨o.toNat, by omega⟩
    obtain ⟨b, rfl⟩ : ∃ n : Nat, e = n := ⟨e.toNat, by omega⟩
    obtain ⟨c, rfl⟩ : ∃ n : Nat, u = n := ⟨u.toNat, by omega⟩
    have ha := wrap_u64_of (k := a) (by unfold U64; omega)
    have hb := wrap_u64_of (k := b) (by unfold U64; omega)
    have hcc := wrap_u64_of (k := c) (by unfold U64; omega)
    have hall : ∀ n ∈ [a, b, c], U64 n := by
      intro n hn
      simp only [List.mem_cons, List.not_mem_nil, or_false] at hn
      unfold U64
      rcases hn with rfl | rfl | rfl <;> omega
    have HALL := Lib.hid hall
    have htx : Hid (ltxt (a : Int) b c = vbs [a, b, c]) := (show _ = _ from by unfold ltxt vbs; simp)
    have HLT := Lib.hid hlt
    clear hc hall hlt
    go_enter Try.func65, Try.ntmps65
    go_wp2_with fail
    refine (Check_any a b c _).mono ?_
    rintro r w1 ⟨rfl, hb1⟩
    rw [he]
    have hw1 := bel_call hbw hb1
    obtain ⟨a0, a1, a2, _, _, _⟩ := (hB0.below hb1).three
    clear hB0 hbw hb1 he
    go_wp2_with fail
    have hS := Sl.litsAt (w := w1) (g := w1.heap.size) rfl [nv a, nv b, nv c] 159 (by simp [maxLen])
    have hw2 := bel_alloc hw1 (.cells #[nv a, nv b, nv c] 159)
    refine (Put_any none 0 [] (some ⟨w1.heap.size, 0, none⟩) 3 [a, b, c] _ (by simp) (Sl.none_ _ _) hS (by simp) HALL.out).mono ?_
    rintro e w2 ⟨A2, c2, m2, rfl, hm2, ho2, hb2⟩
    have hml : m2.length ≤ 30 := by rw [hm2.out, List.nil_append, ← htx.out]; exact HLT.out
    go_wp2_with fail
    refine (FPut_any none 0 [] A2 c2 m2 _ (by simp) (Sl.none_ _ _) ho2.sl (by omega)).mono ?_
    rintro e w3 ⟨A3, c3, m3, rfl, hm3, ho3, hb3⟩
    have hf := Lib.hid (fput_ok (l := []) (t := m2) (by omega))
    rw [hf.out] at hm3 ⊢
    have hw3 := bel_call (bel_call hw2 hb2) hb3
    go_wp2_with fail
    go_ret2
    exact ⟨A3, c3, m3, by rw [hg.out]; rfl, (show _ = _ from by rw [hg.out, hm3.out, hm2.out, htx.out]; simp), ho3.more (Nat.le_trans (bel_call hw2 hb2).size (Nat.le_refl _)), hw3⟩
  · have hg := Lib.hid (show lput o e u = ([], chk o e u) from by unfold lput; rw [if_pos (by omega)])
    have HC := Lib.hid hc
    clear hc
    go_enter Try.func65, Try.ntmps65
    go_wp2_with fail
    refine (Check_any o e u _).mono ?_
    rintro r w1 ⟨rfl, hb1⟩
    have HE := Lib.hid he
    rw [he]
    clear he
    go_wp2_with fail
    go_ret2
    exact ⟨none, 0, [], by rw [hg.out]; dsimp only; rw [HE.out]; rfl, (show _ = _ from by rw [hg.out]), Own.none_ _ _ _ _, bel_call hbw hb1⟩

theorem wr_new {w w' : World} {g : Nat} (h : Wr w w' g) : w.heap.size ≤ w'.heap.size := h.size

set_option maxRecDepth 100000 in
set_option maxHeartbeats 1000000 in
theorem LTake_any (A : Option Addr) (c : Nat) (l : List UInt8) (w : World) (hs : SlB w A c l) (hl : l.length ≤ 10000000) :
    Calls Try.prog 67 #[.slice A l.length c] w (Leased (ltake l) w) := by
  have hB0 := Blk.new w 25 #[iv 0, iv 0, iv 0]
  have hbw := below_new w (.cells #[iv 0, iv 0, iv 0] 25)
  have hs0 := hs.below hbw
  rcases hf : fone l with ⟨t, bad⟩
  rcases errv_cases bad with ⟨rfl, he⟩ | ⟨k, hk, hke, he⟩
  · rcases h1 : rWithin 2 (t, 0) with ⟨o, s1⟩
    rcases h2 : rWithin 1099511627776 s1 with ⟨e, s2⟩
    rcases h3 : rWithin 1099511627776 s2 with ⟨u, s3⟩
    have hrd : lread t = ((o : Int), (e : Int), (u : Int), rEnd s3) := by unfold lread; rw [h1]; dsimp only; rw [h2]; dsimp only; rw [h3]
    have hlt : ltake l = if rEnd s3 ≠ 0 then (0, 0, 0, rEnd s3) else if chk o e u ≠ 0 then (0, 0, 0, chk o e u) else ((o : Int), (e : Int), (u : Int), 0) := by
      unfold ltake
      rw [hf]
      dsimp only
      rw [if_neg (by simp), hrd]
    have HF := Lib.hid hf
    have H1 := Lib.hid h1
    have H2 := Lib.hid h2
    have H3 := Lib.hid h3
    have HLT := Lib.hid hlt
    clear hf h1 h2 h3 hrd hlt
    go_enter Try.func67, Try.ntmps67
    go_wp2_with fail
    refine (FOne_any A c l _ hs0 hl).mono ?_
    rintro r w1 ⟨A1, c1, m1, rfl, hm1, hs1, hb1⟩
    rw [HF.out] at hm1 ⊢
    dsimp only
    rw [he]
    obtain rfl : m1 = t := hm1.out
    clear he
    have hB1 := hB0.below hb1
    have hw1 := bel_call hbw hb1
    clear hm1 hB0 hb1 hbw
    go_wp2_with fail
    refine (RNew_any A1 c1 m1 _ hs1).mono ?_
    rintro r w2 ⟨g, rfl, hg, hR, hb2⟩
    have hw2 := bel_call hw1 hb2
    have hB2 := hB1.below hb2
    have hne : w.heap.size ≠ g := by have := hB1.lt; omega
    have hwg : w.heap.size ≤ g := Nat.le_trans hw1.size hg
    clear hB1 hw1
    go_wp2_with fail
    refine (Within_any 2 hR).mono ?_
    rintro r w3 ⟨rfl, hR3, hW3⟩
    rw [H1.out] at hR3 ⊢
    dsimp only at hR3
    clear hR
    go_wp2_with fail
    refine (Within_any 1099511627776 hR3).mono ?_
    rintro r w4 ⟨rfl, hR4, hW4⟩
    rw [H2.out] at hR4 ⊢
    dsimp only at hR4
    clear hR3
    go_wp2_with fail
    refine (Within_any 1099511627776 hR4).mono ?_
    rintro r w5 ⟨rfl, hR5, hW5⟩
    rw [H3.out] at hR5 ⊢
    dsimp only at hR5
    clear hR4
    have hW := (hW3.trans hW4).trans hW5
    have hB5 := hB2.wr hW hne
    have hw5 := hw2.trans (hW.below hw2.size hwg)
    go_wp2_with fail
    have hbn := below_new w5 (.cells #[iv o, iv e, iv u] 25)
    have hR6 := hR5.below hbn
    have hB6 := hB5.below hbn
    have hL6 := Blk.new w5 25 #[iv o, iv e, iv u]
    have hw6 := bel_call hw5 hbn
    clear hR5 hB5 hW hW3 hW4 hW5 hb2 hs1 hs0 hw2 hB2 hbn
    refine (End_any hR6).mono ?_
    rintro r w6 ⟨rfl, rfl⟩
    obtain ⟨a0, a1, a2, _, _, _⟩ := hL6.three
    obtain ⟨z0, z1, z2, zf0, zf1, zf2⟩ := hB6.three
    clear hR6
    rcases errv_cases (rEnd s3) with ⟨h0, hev⟩ | ⟨k, hk, hke, hev⟩
    · have HL2 : Hid (ltake l = if chk o e u ≠ 0 then (0, 0, 0, chk o e u) else ((o : Int), (e : Int), (u : Int), 0)) := (show _ = _ from by rw [HLT.out, if_neg (by omega)])
      rw [hev]
      clear hev h0 HLT
      go_wp2_with fail
      refine (Check_any o e u _).mono ?_
      rintro r w7 ⟨rfl, hb7⟩
      have hL7 := hL6.below hb7
      have hB7 := hB6.below hb7
      have hw7 := bel_call hw6 hb7
      obtain ⟨a0, a1, a2, _, _, _⟩ := hL7.three
      obtain ⟨z0, z1, z2, zf0, zf1, zf2⟩ := hB7.three
      clear hL6 hB6 hw6 hb7
      rcases errv_cases (chk o e u) with ⟨h0, hev⟩ | ⟨k, hk, hke, hev⟩
      · have HL3 : Hid (ltake l = ((o : Int), (e : Int), (u : Int), 0)) := (show _ = _ from by rw [HL2.out, if_neg (by omega)])
        rw [hev]
        clear hev h0 HL2
        go_wp2_with fail
        refine bodyPost_ret (res_lease rfl rfl (g := w.heap.size) (hB7.set3 _ _ _)) rfl ⟨by rw [HL3.out]; rfl, below_three hw7 (Nat.le_refl _) _ _ _⟩
      · have HL3 : Hid (ltake l = (0, 0, 0, chk o e u)) := (show _ = _ from by rw [HL2.out, if_pos (by omega)])
        have HEV := Lib.hid hev
        rw [hev]
        clear hev hke HL2
        go_wp2_with fail
        refine bodyPost_ret (res_lease rfl rfl (g := w.heap.size) (hB7.set3 _ _ _)) rfl ⟨by rw [HL3.out]; dsimp only; rw [HEV.out]; rfl, below_three hw7 (Nat.le_refl _) _ _ _⟩
    · have HL3 : Hid (ltake l = (0, 0, 0, rEnd s3)) := (show _ = _ from by rw [HLT.out, if_pos (by omega)])
      have HEV := Lib.hid hev
      rw [hev]
      clear hev hke HLT
      go_wp2_with fail
      refine bodyPost_ret (res_lease rfl rfl (g := w.heap.size) (hB6.set3 _ _ _)) rfl ⟨by rw [HL3.out]; dsimp only; rw [HEV.out]; rfl, below_three hw6 (Nat.le_refl _) _ _ _⟩
  · have HL3 : Hid (ltake l = (0, 0, 0, bad)) := (show _ = _ from by unfold ltake; rw [hf]; dsimp only; rw [if_pos (by omega)])
    have HF := Lib.hid hf
    have HEV := Lib.hid he
    clear hf hke he
    go_enter Try.func67, Try.ntmps67
    go_wp2_with fail
    refine (FOne_any A c l _ hs0 hl).mono ?_
    rintro r w1 ⟨A1, c1, m1, rfl, hm1, hs1, hb1⟩
    rw [HF.out] at hm1 ⊢
    dsimp only
    rw [HEV.out]
    have hB1 := hB0.below hb1
    have hw1 := bel_call hbw hb1
    obtain ⟨z0, z1, z2, zf0, zf1, zf2⟩ := hB1.three
    clear hm1 hB0 hb1 hbw
    go_wp2_with fail
    refine bodyPost_ret (res_lease rfl rfl (g := w.heap.size) (hB1.set3 _ _ _)) rfl ⟨by rw [HL3.out]; dsimp only; rw [HEV.out]; rfl, below_three hw1 (Nat.le_refl _) _ _ _⟩
end Go.Proofs.Ytkkcgibmcijhaaa
