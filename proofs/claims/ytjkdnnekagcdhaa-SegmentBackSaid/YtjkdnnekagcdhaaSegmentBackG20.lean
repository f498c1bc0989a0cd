/- WHAT IT HOLDS: taking segments, the program's and the document's, walked; the law SegmentTakes, walked. | WHAT IT HOLDS: the document's taking of segments, walked. | WHAT IT HOLDS: a segment that was put is taken as it was, what is taken has just those bytes, and a segment is its parts, joined; plainly (no program). -/
import Derived.Test.YtjkdnnekagcdhaaSegmentBackG14
import Derived.Test.YtjkdnnekagcdhaaSegmentBackG19
import Derived.Test.YtjkdnnekagcdhaaSegmentBackG11
import Derived.Test.YtjkdnnekagcdhaaSegmentBackG15
import Derived.Test.YtjkdnnekagcdhaaSegmentBackG17
namespace Go.Proofs.Ytjkdnnekagcdhaa
open Go.RowKit
attribute [local go_sem ↓] Go.wp_at_zero Go.wp_at_succ

/-- the segment that bytes are; an error's number -/
def sgEnd (x : Sg × Rs) : Sg × Nat := if rEnd x.2 ≠ 0 then ((0, []), rEnd x.2) else if schk x.1 ≠ 0 then ((0, []), schk x.1) else (x.1, 0)
def sgRead (s : Rs) : Sg × Rs := ((((rWithin 1048576 s).1 : Int), (takeRun (rWithin 1048576 s).2).1), (takeRun (rWithin 1048576 s).2).2)
def sgTake (b : List UInt8) : Sg × Nat := if (fone b).2 ≠ 0 then ((0, []), (fone b).2) else sgEnd (sgRead ((fone b).1, 0))
theorem End_s {g B : Nat} {s : Rs} {w : World} (hR : IsR w g B s) : Calls Try.prog 36 #[.pointer (some ⟨g, 0, none⟩)] w fun e w' => e = .returned (errv (rEnd s)) ∧ w = w' := by obtain ⟨l, b⟩ := s; exact End_any hR
theorem NewS.setLow {w : World} {base g c : Nat} {A : Option Addr} {m : List CeV} (h : NewS w base A c m) (hg : g < base) (i : Nat) (u : Value) : NewS (w.setCell ⟨g, i, none⟩ u) base A c m := ⟨Own.set1 h.1 hg _, fun x hx => Own.set1 (h.2 x hx) hg _⟩
theorem fone_len (b : List UInt8) : (fone b).1.length ≤ b.length := by
  unfold fone
  split
  · simp
  · split
    · simp
    · unfold ftake
      split
      · simp
      · split
        · simp
        · split
          · simp
          · split
            · simp only [List.length_drop, List.length_take]; omega
            · simp
set_option maxRecDepth 100000 in
set_option maxHeartbeats 4000000 in
theorem STake_any (A : Option Addr) (c : Nat) (b : List UInt8) (w : World) (hs : SlB w A c b) (hl : b.length ≤ 1000000) :
    Calls Try.prog 68 #[.slice A b.length c] w (GivesSgN w (sgTake b)) := by
  have hRes := Blk.new w 75 #[.int .i64 0, .slice none 0 0]
  have hw := below_new w (.cells #[.int .i64 0, .slice none 0 0] 75)
  have hfl := fone_len b
  go_enter Try.func68, Try.ntmps68
  go_wp2_with fail
  refine (FOne_any A c b _ (hs.below hw) (by omega)).mono ?_
  rintro e w1 ⟨A1, c1, m1, rfl, hm1, hs1, hb1⟩
  replace hRes := hRes.below hb1
  replace hw := bel_call hw hb1
  clear hb1
  rcases errv_cases (fone b).2 with ⟨h0, hev⟩ | ⟨k, hk, hke, hev⟩
  · have HT0 := Lib.hid (show sgTake b = sgEnd (sgRead ((fone b).1, 0)) from by unfold sgTake; rw [if_neg (by omega)])
    rw [hev]
    have hm1l : m1.length ≤ 1000000 := by rw [hm1.out]; omega
    clear hev h0 hfl
    go_wp2_with fail
    refine (RNew_any A1 c1 m1 _ hs1).mono ?_
    rintro e w2 ⟨g, rfl, hg, hR, hb2⟩
    have hwl : w.heap.size < w1.heap.size := hRes.lt
    replace hRes := hRes.below hb2
    replace hw := bel_call hw hb2
    have hgl := hR.lt
    have HT1 : Hid (sgTake b = sgEnd (sgRead (m1, 0))) := (show _ = _ from by rw [HT0.out, hm1.out])
    clear HT0 hs1 hb2
    have hR' : IsR w2 g w1.heap.size (m1, 0) := hR
    clear hR
    go_wp2_with fail
    refine (Within_any 1048576 hR').mono ?_
    rintro e w3 ⟨rfl, hR3, hr3⟩
    have hb3 : Below w.heap.size w2 w3 := hr3.below hw.size (by omega)
    replace hRes := hRes.wr hr3 (by omega)
    replace hw := hw.trans hb3
    have hgl3 := hR3.lt
    obtain ⟨f, s3, hf3⟩ : ∃ f s, rWithin 1048576 (m1, 0) = (f, s) := ⟨_, _, rfl⟩
    have hs3l := rWithin_len 1048576 (m1, 0)
    rw [hf3] at hR3 hs3l ⊢
    dsimp only at hR3 hs3l ⊢
    have HF3 := Lib.hid hf3
    have hb31 : w1.heap.size ≤ w3.heap.size := by have := hr3.size; omega
    clear hf3 hR' hr3 hb3 hgl
    go_upto_region 6 with (fail)
    have hbx := below_new w3 (.cells #[.int .i64 (f : Nat), .slice none 0 0] 75)
    have hS4 := Blk.new w3 75 #[.int .i64 (f : Nat), .slice none 0 0]
    have hR4 := hR3.below hbx
    replace hRes := hRes.below hbx
    replace hw := bel_call hw hbx
    have hW4 : w3.heap.size < (w3.alloc (.cells #[.int .i64 (f : Nat), .slice none 0 0] 75)).heap.size := by simp
    clear hR3 hbx
    generalize hWe : w3.alloc (.cells #[.int .i64 (f : Nat), .slice none 0 0] 75) = w4 at *
    clear hWe
    generalize hg7e : w3.heap.size = g7 at *
    clear hg7e
    go_wp2_with fail
    refine (TakeRun_any hR4 (by omega) (by omega)).mono ?_
    rintro e w5 ⟨A5, c5, m5, rfl, hm5, hN5, hR5, hr5⟩
    have hb5 : Below w.heap.size w4 w5 := hr5.below hw.size (by omega)
    replace hRes := hRes.wr hr5 (by omega)
    have hS5 := hS4.wr hr5 (by omega)
    replace hw := hw.trans hb5
    have h45 := hr5.size
    clear hR4 hr5 hb5 hS4
    obtain ⟨x0, x1, xf0, xf1⟩ := hS5.two
    go_upto_region 7 with (fail)
    have hS6 := hS5.set_ 1 (.slice A5 m5.length c5)
    have hR6 := hR5.apart (C := g7) (by omega) (by omega) (Below.setCell (p := ⟨g7, 1, none⟩) (Below.refl _ _) (Nat.le_refl _) (.slice A5 m5.length c5))
    replace hRes := hRes.far (p := ⟨g7, 1, none⟩) (by dsimp only; omega) (.slice A5 m5.length c5)
    replace hw := bel_set hw (p := ⟨g7, 1, none⟩) (by dsimp only; omega) (.slice A5 m5.length c5)
    have hN6 := hN5.setLow (g := g7) (by omega) 1 (.slice A5 m5.length c5)
    have hsz6 : (w5.setCell ⟨g7, 1, none⟩ (.slice A5 m5.length c5)).heap.size = w5.heap.size := by simp
    clear hS5 hR5 hN5 x0 x1 xf0 xf1
    generalize hWe : w5.setCell ⟨g7, 1, none⟩ (.slice A5 m5.length c5) = w6 at *
    clear hWe
    have hS6' : Blk w6 g7 75 #[.int .i64 (f : Nat), .slice A5 m5.length c5] := by simpa using hS6
    clear hS6
    have hE := End_s hR6
    obtain ⟨rn, s5, ht5⟩ : ∃ r s, takeRun s3 = (r, s) := ⟨_, _, rfl⟩
    rw [ht5] at hE hm5
    dsimp only at hE hm5
    have hsr : sgRead (m1, 0) = (((f : Int), rn), s5) := by unfold sgRead; rw [HF3.out]; dsimp only; rw [ht5]
    have HT2 : Hid (sgTake b = sgEnd (((f : Int), rn), s5)) := (show _ = _ from by rw [HT1.out, hsr])
    clear HT1 HF3 ht5 hsr hR6
    go_wp2_with fail
    rcases errv_cases (rEnd s5) with ⟨h0, hev⟩ | ⟨k, hk, hke, hev⟩
    · rw [hev] at hE
      have HE := Lib.hid hE
      have HN0 := Lib.hid h0
      clear hE hev h0
      refine HE.out.mono ?_
      rintro e w7 ⟨rfl, rfl⟩
      obtain ⟨x0, x1, xf0, xf1⟩ := hS6'.two
      go_wp2_with fail
      refine (SCheck_any (f : Nat) m5 _ hN6.slc).mono ?_
      rintro e w8 ⟨rfl, hb8⟩
      replace hRes := hRes.below hb8
      replace hw := bel_call hw hb8
      replace hS6' := hS6'.below hb8
      replace hN6 := hN6.below hb8
      clear hb8 x0 x1 xf0 xf1
      rw [hm5.out]
      rcases errv_cases (schk ((f : Int), rn)) with ⟨h0, hev⟩ | ⟨k, hk, hke, hev⟩
      · have HT := Lib.hid (show sgTake b = (((f : Int), rn), 0) from by rw [HT2.out]; unfold sgEnd; rw [if_neg (by rw [HN0.out]; simp), if_neg (by rw [h0]; simp)])
        rw [hev]
        clear hev h0
        obtain ⟨x0, x1, xf0, xf1⟩ := hS6'.two
        obtain ⟨r0, r1, rf0, rf1⟩ := hRes.two
        go_wp2_with fail
        exact bodyPost_ret (res_sg2 rfl rfl (g := w.heap.size) (hRes.set2 _ _)) rfl ⟨A5, c5, m5, by rw [HT.out]; rfl, (show _ = _ from by rw [HT.out, hm5.out]), NewS.more ((hN6.setLow (g := w.heap.size) (by omega) 0 _).setLow (g := w.heap.size) (by omega) 1 _) (by omega), bel_set (bel_set hw (Nat.le_refl _) _) (Nat.le_refl _) _⟩
      · have HT := Lib.hid (show sgTake b = ((0, []), schk ((f : Int), rn)) from by rw [HT2.out]; unfold sgEnd; rw [if_neg (by rw [HN0.out]; simp), if_pos (by dsimp only; omega)])
        have HEV := Lib.hid hev
        rw [hev]
        clear hev hke
        obtain ⟨r0, r1, rf0, rf1⟩ := hRes.two
        go_wp2_with fail
        exact bodyPost_ret (res_sg2 rfl rfl (g := w.heap.size) (hRes.set2 _ _)) rfl ⟨none, 0, [], by rw [HT.out]; dsimp only; rw [HEV.out]; rfl, (show _ = _ from by rw [HT.out]; rfl), NewS.nil _ _, bel_set (bel_set hw (Nat.le_refl _) _) (Nat.le_refl _) _⟩
    · have HT := Lib.hid (show sgTake b = ((0, []), rEnd s5) from by rw [HT2.out]; unfold sgEnd; rw [if_pos (by dsimp only; omega)])
      have HEV := Lib.hid hev
      rw [hev] at hE
      have HE := Lib.hid hE
      clear hev hke hE
      refine HE.out.mono ?_
      rintro e w7 ⟨rfl, rfl⟩
      obtain ⟨r0, r1, rf0, rf1⟩ := hRes.two
      go_wp2_with fail
      exact bodyPost_ret (res_sg2 rfl rfl (g := w.heap.size) (hRes.set2 _ _)) rfl ⟨none, 0, [], by rw [HT.out]; dsimp only; rw [HEV.out]; rfl, (show _ = _ from by rw [HT.out]; rfl), NewS.nil _ _, bel_set (bel_set hw (Nat.le_refl _) _) (Nat.le_refl _) _⟩
  · have HT := Lib.hid (show sgTake b = ((0, []), (fone b).2) from by unfold sgTake; rw [if_pos (by omega)])
    have HEV := Lib.hid hev
    rw [hev]
    clear hev hke hfl
    obtain ⟨r0, r1, rf0, rf1⟩ := hRes.two
    go_wp2_with fail
    exact bodyPost_ret (res_sg2 rfl rfl (g := w.heap.size) (hRes.set2 _ _)) rfl ⟨none, 0, [], by rw [HT.out]; dsimp only; rw [HEV.out]; rfl, (show _ = _ from by rw [HT.out]; rfl), NewS.nil _ _, bel_set (bel_set hw (Nat.le_refl _) _) (Nat.le_refl _) _⟩
end Go.Proofs.Ytjkdnnekagcdhaa

namespace Go.Proofs.Ytjkdnnekagcdhaa
open Go.RowKit
attribute [local go_sem ↓] Go.wp_at_zero Go.wp_at_succ

theorem rEnd_v {A : Option Addr} {c : Nat} {s : Rs} (w : World) : Calls Try.prog 37 #[rv A s.1.length c s.2] w fun e w' => e = .returned (.int .i64 (rEnd s : Nat)) ∧ Below w.heap.size w w' := by obtain ⟨l, b⟩ := s; exact rEnd_any w
theorem rWithin_v {A : Option Addr} {c : Nat} {s : Rs} (most : Nat) (w : World) (hS : SlB w A c s.1) {B : Nat} (hBd : s.1 ≠ [] → ∀ ad, A = some ad → ad.block < B) : Calls Try.prog 92 #[rv A s.1.length c s.2, .int .u64 most] w (RGives .i64 B (rWithin most s) w) := by obtain ⟨l, b⟩ := s; exact rWithin_any most w hS hBd
set_option maxRecDepth 100000 in
set_option maxHeartbeats 4000000 in
theorem rSTake_any (A : Option Addr) (c : Nat) (b : List UInt8) (w : World) (hs : SlB w A c b) (hl : b.length ≤ 1000000) :
    Calls Try.prog 69 #[.slice A b.length c] w (RGivesSg w (sgTake b)) := by
  have hRes := Blk.new w 77 #[.int .i64 0, .slice none 0 0]
  have hw := below_new w (.cells #[.int .i64 0, .slice none 0 0] 77)
  have hfl := fone_len b
  go_enter Try.func69, Try.ntmps69
  go_wp2_with fail
  refine (rFTake_any A c b _ (hs.below hw) (by omega)).mono ?_
  rintro e w1 ⟨A1, c1, m1, rfl, hm1, hs1, hb1, -⟩
  replace hRes := hRes.below hb1
  replace hw := bel_call hw hb1
  clear hb1
  have hfo : fone b = if (ftake b).2.2 ≠ 0 then ([], (ftake b).2.2) else if (ftake b).2.1 < b.length then ([], 2) else ((ftake b).1, 0) := rfl
  generalize ftake b = fb at *
  obtain ⟨ft, fn, fbad⟩ := fb
  dsimp only at *
  have hA : fbad ≠ 0 → fone b = ([], fbad) := fun h => by rw [hfo, if_pos h]
  have hB : fbad = 0 → fn < b.length → fone b = ([], 2) := fun h h2 => by rw [hfo, if_neg (by omega), if_pos h2]
  have hC : fbad = 0 → ¬ fn < b.length → fone b = (ft, 0) := fun h h2 => by rw [hfo, if_neg (by omega), if_neg h2]
  clear hfo
  rcases Decidable.em (fbad = 0) with h0 | h0
  · have hb1 : ((fbad : Int) == 0) = true := by rw [h0]; rfl
    have hb2 : ((fbad : Int) != 0) = false := by rw [h0]; rfl
    rcases Nat.lt_or_ge fn b.length with hn | hn
    · have HT := Lib.hid (show sgTake b = ((0, []), 2) from by unfold sgTake; rw [hB h0 hn]; rfl)
      have hnI : (fn : Int) < (b.length : Int) := by omega
      clear hA hB hC hfl h0
      obtain ⟨r0, r1, rf0, rf1⟩ := hRes.two
      go_wp2_with fail
      exact bodyPost_ret (res_rg2 rfl rfl (g := w.heap.size) (hRes.set2 _ _)) rfl ⟨none, 0, [], by rw [HT.out]; rfl, (show _ = _ from by rw [HT.out]), Own.none_ _ _ _ _, bel_set (bel_set hw (Nat.le_refl _) _) (Nat.le_refl _) _⟩
    · have HT0 : Hid (sgTake b = sgEnd (sgRead (m1, 0))) := (show _ = _ from by unfold sgTake; rw [hC h0 (by omega), if_neg (by simp), hm1.out])
      have hnI : (b.length : Int) ≤ (fn : Int) := by omega
      have hm1l : m1.length ≤ 1000000 := by
        rw [hC h0 (by omega)] at hfl
        rw [hm1.out]
        dsimp only at hfl
        omega
      have hBd : m1 ≠ [] → ∀ ad, A1 = some ad → ad.block < w1.heap.size := fun hne ad hA => Sl.lt0 hs1 (by cases m1 with | nil => exact absurd rfl hne | cons x r => exact List.cons_ne_nil _ _) ad.block (by rw [hA]; rfl)
      clear hA hB hC hfl h0 hm1
      go_upto_region 7 with (fail)
      have hbx := below_new w1 (.cells #[.int .i64 0, .slice none 0 0] 77)
      have hQ := Blk.new w1 77 #[.int .i64 0, .slice none 0 0]
      have hlt := hRes.lt
      replace hRes := hRes.below hbx
      replace hw := bel_call hw hbx
      have hs2 := Sl.below hs1 hbx
      have hW2 : w1.heap.size < (w1.alloc (.cells #[.int .i64 0, .slice none 0 0] 77)).heap.size := by simp
      clear hs1 hbx
      generalize hWe : w1.alloc (.cells #[.int .i64 0, .slice none 0 0] 77) = w2 at *
      clear hWe
      generalize hge : w1.heap.size = gq at *
      clear hge
      go_wp2_with fail
      refine (rWithin_v (s := (m1, 0)) 1048576 _ hs2 hBd).mono ?_
      obtain ⟨f, s3, hf3⟩ : ∃ f s, rWithin 1048576 (m1, 0) = (f, s) := ⟨_, _, rfl⟩
      have hs3l := rWithin_len 1048576 (m1, 0)
      rw [hf3] at hs3l ⊢
      rintro e w3 ⟨v, rfl, ⟨A3, c3, rfl, hS3, hBd3⟩, hb3⟩
      dsimp only at hS3 hBd3 hs3l
      have HF3 := Lib.hid hf3
      replace hRes := hRes.below hb3
      replace hw := bel_call hw hb3
      replace hQ := hQ.below hb3
      have hgq := hQ.lt
      clear hs2 hBd hf3 hb3
      obtain ⟨q0, q1, qf0, qf1⟩ := hQ.two
      go_upto_region 9 with (fail)
      obtain ⟨w4, hW4⟩ : ∃ w4, w4 = w3.setCell ⟨gq, 0, none⟩ (.int .i64 (f : Nat)) := ⟨_, rfl⟩
      have hsz4 : w4.heap.size = w3.heap.size := by rw [hW4]; simp
      have hQ4 : Blk w4 gq 77 #[.int .i64 (f : Nat), .slice none 0 0] := by rw [hW4]; simpa using hQ.set_ 0 (.int .i64 (f : Nat))
      have hS4 : SlB w4 A3 c3 s3.1 := by rw [hW4]; exact SlB.wr hS3 hQ (inti_ne _) (slice_ne _ _ _) ((Wr.refl _ _).set_ 0 _)
      have hRes4 : Blk w4 w.heap.size 77 #[.int .i64 0, .slice none 0 0] := by rw [hW4]; exact hRes.far (by dsimp only; omega) _
      have hw4 : Below w.heap.size w w4 := by rw [hW4]; exact bel_set hw (by dsimp only; omega) _
      rw [← hW4]
      have hbx := below_new w4 (.cells #[.slice A3 s3.1.length c3, .int .i64 (s3.2 : Nat)] 63)
      have hR5 := Blk.newAt (w := w4) (g := w3.heap.size) hsz4.symm 63 #[.slice A3 s3.1.length c3, .int .i64 (s3.2 : Nat)]
      have hQ5 := hQ4.below hbx
      have hS5 := Sl.below hS4 hbx
      have hRes5 := hRes4.below hbx
      have hw5 := bel_call hw4 hbx
      have hW5 : w3.heap.size < (w4.alloc (.cells #[.slice A3 s3.1.length c3, .int .i64 (s3.2 : Nat)] 63)).heap.size := by simp [hsz4]
      clear hbx hS4 hRes4 hw4 hQ4 hQ hS3 hRes hw hW4 hsz4 q0 q1 qf0 qf1
      generalize hWe : w4.alloc (.cells #[.slice A3 s3.1.length c3, .int .i64 (s3.2 : Nat)] 63) = w5 at *
      clear hWe
      generalize hge : w3.heap.size = gr at *
      clear hge
      obtain ⟨x0, x1, xf0, xf1⟩ := hR5.two
      go_wp2_with fail
      refine (rTakeRun_any (s := s3) _ hS5 hBd3 (by omega) (by omega)).mono ?_
      rintro e w6 ⟨A6, c6, m6, v, rfl, hm6, hO6, ⟨A7, c7, rfl, hS7, hBd7⟩, hb6⟩
      obtain ⟨rn, s5, ht5⟩ : ∃ r s, takeRun s3 = (r, s) := ⟨_, _, rfl⟩
      have hsr : sgRead (m1, 0) = (((f : Int), rn), s5) := by unfold sgRead; rw [HF3.out]; dsimp only; rw [ht5]
      have HT2 : Hid (sgTake b = sgEnd (((f : Int), rn), s5)) := (show _ = _ from by rw [HT0.out, hsr])
      rw [ht5] at hm6 hS7 hBd7 ⊢
      dsimp only at hm6
      clear HT0 HF3 ht5 hsr hS7 hBd7 x0 x1 xf0 xf1
      have hQ6 := hQ5.below hb6
      have hR6 := hR5.below hb6
      have hRes6 := hRes5.below hb6
      have hw6 := bel_call hw5 hb6
      clear hQ5 hR5 hRes5 hw5 hS5 hb6
      obtain ⟨x0, x1, xf0, xf1⟩ := hR6.two
      obtain ⟨q0, q1, qf0, qf1⟩ := hQ6.two
      go_upto_region 10 with (fail)
      have hQ7 : Blk (((w6.setCell ⟨gq, 1, none⟩ (.slice A6 m6.length c6)).setCell ⟨gr, 0, none⟩ (.slice A7 s5.1.length c7)).setCell ⟨gr, 1, none⟩ (.int .i64 (s5.2 : Nat))) gq 77 #[.int .i64 (f : Nat), .slice A6 m6.length c6] := by
        have := ((hQ6.set_ 1 (.slice A6 m6.length c6)).far (p := ⟨gr, 0, none⟩) (by dsimp only; omega) (.slice A7 s5.1.length c7)).far (p := ⟨gr, 1, none⟩) (by dsimp only; omega) (.int .i64 (s5.2 : Nat))
        simpa using this
      have hR7 := (hR6.far (p := ⟨gq, 1, none⟩) (by dsimp only; omega) (.slice A6 m6.length c6)).set2 (.slice A7 s5.1.length c7) (.int .i64 (s5.2 : Nat))
      have hRes7 := ((hRes6.far (p := ⟨gq, 1, none⟩) (by dsimp only; omega) (.slice A6 m6.length c6)).far (p := ⟨gr, 0, none⟩) (by dsimp only; omega) (.slice A7 s5.1.length c7)).far (p := ⟨gr, 1, none⟩) (by dsimp only; omega) (.int .i64 (s5.2 : Nat))
      have hw7 := bel_set (bel_set (bel_set hw6 (p := ⟨gq, 1, none⟩) (by dsimp only; omega) (.slice A6 m6.length c6)) (p := ⟨gr, 0, none⟩) (by dsimp only; omega) (.slice A7 s5.1.length c7)) (p := ⟨gr, 1, none⟩) (by dsimp only; omega) (.int .i64 (s5.2 : Nat))
      have hO7 := Own.set1 (Own.set1 (Own.set1 hO6 (g := gq) (i := 1) (by omega) (.slice A6 m6.length c6)) (g := gr) (i := 0) (by omega) (.slice A7 s5.1.length c7)) (g := gr) (i := 1) (by omega) (.int .i64 (s5.2 : Nat))
      clear hQ6 hR6 hRes6 hw6 hO6 x0 x1 xf0 xf1 q0 q1 qf0 qf1
      generalize hWe : ((w6.setCell ⟨gq, 1, none⟩ (.slice A6 m6.length c6)).setCell ⟨gr, 0, none⟩ (.slice A7 s5.1.length c7)).setCell ⟨gr, 1, none⟩ (.int .i64 (s5.2 : Nat)) = w7 at *
      clear hWe
      obtain ⟨x0, x1, xf0, xf1⟩ := hR7.two
      go_wp2_with fail
      refine (rEnd_v (s := s5) _).mono ?_
      rintro e w8 ⟨rfl, hb8⟩
      have hRes := hRes7.below hb8
      have hw := bel_call hw7 hb8
      have hQ8 := hQ7.below hb8
      have hO8 := Own.below hO7 hb8
      clear hRes7 hw7 hQ7 hO7 hR7 hb8 x0 x1 xf0 xf1
      rcases Decidable.em (rEnd s5 = 0) with h0 | h0
      · have hbb : (((rEnd s5 : Nat) : Int) != 0) = false := by simp [h0]
        have HN0 := Lib.hid h0
        clear h0
        obtain ⟨q0, q1, qf0, qf1⟩ := hQ8.two
        go_wp2_with fail
        refine (rSCheck_any (f : Nat) m6 _ hO8.sl).mono ?_
        rintro e w9 ⟨rfl, hb9⟩
        replace hRes := hRes.below hb9
        replace hw := bel_call hw hb9
        replace hQ8 := hQ8.below hb9
        replace hO8 := Own.below hO8 hb9
        clear hb9 q0 q1 qf0 qf1
        rcases Decidable.em (schk ((f : Int), m6) = 0) with h1 | h1
        · have hbc : (((schk ((f : Int), m6) : Nat) : Int) != 0) = false := by simp [h1]
          have HT := Lib.hid (show sgTake b = (((f : Int), m6), 0) from by rw [HT2.out, ← hm6.out]; unfold sgEnd; rw [if_neg (by rw [HN0.out]; simp), if_neg (by rw [h1]; simp)])
          clear h1
          obtain ⟨q0, q1, qf0, qf1⟩ := hQ8.two
          obtain ⟨r0, r1, rf0, rf1⟩ := hRes.two
          go_wp2_with fail
          exact bodyPost_ret (res_rg2 rfl rfl (g := w.heap.size) (hRes.set2 _ _)) rfl ⟨A6, c6, m6, by rw [HT.out]; rfl, (show _ = _ from by rw [HT.out]), (Own.set2 hO8 (by omega) _ _).more (by omega), bel_set (bel_set hw (Nat.le_refl _) _) (Nat.le_refl _) _⟩
        · have hbc : (((schk ((f : Int), m6) : Nat) : Int) != 0) = true := by simp; omega
          have HT := Lib.hid (show sgTake b = ((0, []), schk ((f : Int), m6)) from by rw [HT2.out, ← hm6.out]; unfold sgEnd; rw [if_neg (by rw [HN0.out]; simp), if_pos (by dsimp only; omega)])
          clear h1
          obtain ⟨r0, r1, rf0, rf1⟩ := hRes.two
          go_wp2_with fail
          exact bodyPost_ret (res_rg2 rfl rfl (g := w.heap.size) (hRes.set2 _ _)) rfl ⟨none, 0, [], by rw [HT.out]; rfl, (show _ = _ from by rw [HT.out]), Own.none_ _ _ _ _, bel_set (bel_set hw (Nat.le_refl _) _) (Nat.le_refl _) _⟩
      · have hbb : (((rEnd s5 : Nat) : Int) != 0) = true := by simp; omega
        have HT := Lib.hid (show sgTake b = ((0, []), rEnd s5) from by rw [HT2.out]; unfold sgEnd; rw [if_pos (by dsimp only; omega)])
        clear h0
        obtain ⟨r0, r1, rf0, rf1⟩ := hRes.two
        go_wp2_with fail
        exact bodyPost_ret (res_rg2 rfl rfl (g := w.heap.size) (hRes.set2 _ _)) rfl ⟨none, 0, [], by rw [HT.out]; rfl, (show _ = _ from by rw [HT.out]), Own.none_ _ _ _ _, bel_set (bel_set hw (Nat.le_refl _) _) (Nat.le_refl _) _⟩
  · have hb1 : ((fbad : Int) == 0) = false := by rw [beq_eq_false_iff_ne]; omega
    have hb2 : ((fbad : Int) != 0) = true := by rw [bne_iff_ne]; omega
    have HT := Lib.hid (show sgTake b = ((0, []), fbad) from by unfold sgTake; rw [hA h0, if_pos h0])
    clear hA hB hC hfl h0
    obtain ⟨r0, r1, rf0, rf1⟩ := hRes.two
    go_wp2_with fail
    exact bodyPost_ret (res_rg2 rfl rfl (g := w.heap.size) (hRes.set2 _ _)) rfl ⟨none, 0, [], by rw [HT.out]; rfl, (show _ = _ from by rw [HT.out]), Own.none_ _ _ _ _, bel_set (bel_set hw (Nat.le_refl _) _) (Nat.le_refl _) _⟩
end Go.Proofs.Ytjkdnnekagcdhaa

namespace Go.Proofs.Ytjkdnnekagcdhaa
open Go.RowKit

theorem stxt_short {s : Sg} (h : schk s = 0) : (stxt s).length ≤ 65536 := Nat.le_trans (stxt_len h) (by decide)
theorem sput_ok {s : Sg} (h : schk s = 0) : sput s = (frm (stxt s), 0) := by
  unfold sput fput
  have := stxt_short h
  rw [if_neg (by rw [h]; simp), if_neg (by omega)]
  rfl
theorem sput_bad {s : Sg} (h : (sput s).2 = 0) : schk s = 0 := by
  unfold sput at h
  by_cases h0 : schk s = 0
  · exact h0
  · rw [if_pos h0] at h
    exact h
theorem sgTake_put {s : Sg} (h : schk s = 0) : sgTake (sput s).1 = (s, 0) := by
  obtain ⟨h0, h1, h2, h3, h4⟩ := schk_ok h
  obtain ⟨n, hn⟩ : ∃ n : Nat, s.1 = n := ⟨s.1.toNat, by omega⟩
  rw [sput_ok h]
  unfold sgTake
  rw [fone_frm (stxt_short h), if_neg (by simp)]
  have e1 : rWithin 1048576 (stxt s, 0) = (n, (vb s.2.length ++ (prun [] s.2 ++ []), 0)) := by
    unfold stxt
    rw [hn, Int.toNat_natCast, List.append_nil]
    exact rWithin_vb (by unfold U64; omega) (by omega) (by omega) _
  have e2 := takeRun_put (rchk_zero h4) h2 []
  have e3 : sgRead (stxt s, 0) = (s, ([], 0)) := by
    unfold sgRead
    rw [e1]
    dsimp only
    rw [e2]
    obtain ⟨s1, s2⟩ := s
    dsimp only at hn ⊢
    rw [hn]
  rw [show ((stxt s, (0 : Nat)).1, 0) = (stxt s, 0) from rfl, e3]
  unfold sgEnd
  rw [if_neg (by simp [rEnd]), if_neg (by rw [h]; simp)]
theorem rEnd_zero {s : Rs} (h : rEnd s = 0) : s = ([], 0) := by
  obtain ⟨l, b⟩ := s
  unfold rEnd at h
  split at h
  · exact absurd h (by decide)
  · rename_i hc
    dsimp only at hc h
    subst h
    cases l with
    | nil => rfl
    | cons x r => exact absurd ⟨rfl, by simp⟩ hc
theorem sgTake_back {b : List UInt8} {s : Sg} (hl : b.length ≤ 1000000) (h : sgTake b = (s, 0)) : schk s = 0 ∧ sput s = (b, 0) := by
  unfold sgTake at h
  by_cases hf : (fone b).2 ≠ 0
  · rw [if_pos hf] at h
    injection h with _ h
    exact absurd h hf
  · rw [if_neg hf] at h
    obtain ⟨hb1, hb2⟩ := fone_back (Decidable.byContradiction hf)
    have hfl := fone_len b
    generalize (fone b).1 = t at *
    unfold sgEnd at h
    by_cases he : rEnd (sgRead (t, 0)).2 ≠ 0
    · rw [if_pos he] at h
      injection h with _ h
      exact absurd h he
    · rw [if_neg he] at h
      by_cases hc : schk (sgRead (t, 0)).1 ≠ 0
      · rw [if_pos hc] at h
        injection h with _ h
        exact absurd h hc
      · rw [if_neg hc] at h
        injection h with h _
        have hc0 : schk s = 0 := by rw [← h]; exact Decidable.byContradiction hc
        have he0 := rEnd_zero (Decidable.byContradiction he)
        obtain ⟨f, s3, e1⟩ : ∃ f s, rWithin 1048576 (t, 0) = (f, s) := ⟨_, _, rfl⟩
        obtain ⟨cs, s5, e2⟩ : ∃ r s, takeRun s3 = (r, s) := ⟨_, _, rfl⟩
        have hsr : sgRead (t, 0) = (((f : Int), cs), s5) := by unfold sgRead; rw [e1]; dsimp only; rw [e2]
        rw [hsr] at he0 h
        dsimp only at he0 h
        subst he0
        have hs3 : s3.2 = 0 := by
          rcases Decidable.em (s3.2 = 0) with h' | h'
          · exact h'
          · have hz : takeRun s3 = ([], rFail 3 s3) := tr_start (rNum_of h') (.inl h')
            rw [e2] at hz
            injection hz with _ hz
            rw [rFail_of h'] at hz
            rw [← hz] at h'
            exact absurd rfl h'
        obtain ⟨_, _, hl1⟩ := rWithin_someB e1 hs3
        obtain ⟨l3, b3⟩ := s3
        dsimp only at hs3 hl1
        subst hs3
        have hl3 : l3.length ≤ 1000000000 := by
          have := congrArg List.length hl1
          rw [List.length_append] at this
          omega
        obtain ⟨hl2, _, _⟩ := takeRun_back hl3 e2 rfl
        refine ⟨hc0, ?_⟩
        rw [sput_ok hc0]
        have hst : stxt s = t := by
          rw [← h]
          unfold stxt
          dsimp only
          rw [Int.toNat_natCast, hl1, hl2]
          simp
        rw [hst, ← hb2]
/-- a segment's parts -/
theorem spart_head {s : Sg} (h : schk s = 0) {m : Nat} (hm : m ≤ s.2.length) : spart s s.1 (s.1 + m) = ((s.1, s.2.take m), 0) := by
  unfold spart
  rw [if_neg (by rw [h]; simp), if_neg (by omega)]
  have e1 : (s.1 - s.1).toNat = 0 := by omega
  have e2 : (s.1 + (m : Int) - s.1).toNat = m := by omega
  rw [e1, e2, List.drop_zero]
theorem spart_tail {s : Sg} (h : schk s = 0) {m : Nat} (hm : m ≤ s.2.length) : spart s (s.1 + m) (s.1 + s.2.length) = ((s.1 + m, s.2.drop m), 0) := by
  unfold spart
  rw [if_neg (by rw [h]; simp), if_neg (by omega)]
  have e1 : (s.1 + (m : Int) - s.1).toNat = m := by omega
  have e2 : (s.1 + (s.2.length : Int) - (s.1 + (m : Int))).toNat = s.2.length - m := by omega
  rw [e1, e2, List.take_of_length_le (by simp)]
theorem schk_cut {s : Sg} (h : schk s = 0) {a m n : Nat} (hm : m + n ≤ s.2.length) (ha : a ≤ m) : schk (s.1 + a, (s.2.drop m).take n) = 0 := by
  obtain ⟨h0, h1, h2, h3, h4⟩ := schk_ok h
  have hl : ((s.2.drop m).take n).length = n := by simp; omega
  rw [schk_cells (by dsimp only; omega) (by dsimp only; omega) (by dsimp only; omega)]
  exact rchk_part h4 m n
theorem sjoin_parts {s : Sg} (h : schk s = 0) {m : Nat} (hm : m ≤ s.2.length) : sjoin (s.1, s.2.take m) (s.1 + m, s.2.drop m) = (s, 0) := by
  have c1 : schk (s.1, s.2.take m) = 0 := by
    have := schk_cut h (a := 0) (m := 0) (n := m) (by omega) (Nat.le_refl _)
    simpa using this
  have c2 : schk (s.1 + m, s.2.drop m) = 0 := by
    have := schk_cut h (a := m) (m := m) (n := s.2.length - m) (by omega) (Nat.le_refl _)
    rw [List.take_of_length_le (by simp)] at this
    exact this
  unfold sjoin
  rw [if_neg (by rw [c1]; simp), if_neg (by rw [c2]; simp), if_neg (by simp; omega)]
  dsimp only
  rw [List.take_append_drop, if_neg (by rw [h]; simp)]
theorem sgTake_len64 (b : List UInt8) : (sgTake b).1.2.length ≤ 64 := by
  unfold sgTake
  split
  · simp
  · unfold sgEnd
    split
    · simp
    · split
      · simp
      · rename_i h
        obtain ⟨_, _, h3, _⟩ := schk_ok (Decidable.byContradiction h)
        exact h3
end Go.Proofs.Ytjkdnnekagcdhaa
