/- WHAT IT HOLDS: act, walked. -/
import Derived.Test.YtjmekdldhnnneaaRefS
namespace Go.Proofs.Ytjmekdldhnnneaa
open Go.RowKit
attribute [local go_sem ↓] Go.wp_at_zero Go.wp_at_succ

theorem res_rb {fn : Func} {a b : Nat} {tmps : Array Value} {w : World} {g : Nat} {x y : Value} (hres : fn.results = #[.cell a 102, .tmp b]) (ha : tmps.getD a undef = .pointer (some ⟨g, 0, none⟩)) (hB : Blk w g 102 #[x, y]) :
    (results fn tmps).run Try.prog w = .ok (.tuple #[.agg #[x, y], tmps.getD b undef]) w := by
  obtain ⟨b0, b1, _, _⟩ := hB.two
  have ha' : tmps[a]?.getD undef = .pointer (some ⟨g, 0, none⟩) := by simpa using ha
  simp [results, hres, go_sem, b0, b1, ha']
/-- both act: the readers then -/
def ActOut (w : World) (g B C : Nat) (s : List UInt8 × Nat) (e : Ending) (w' : World) : Prop :=
  ∃ s' v, e = .returned (.tuple #[v, .bool true]) ∧ s'.1.length ≤ s.1.length ∧ RV w' C v s' ∧ IsR w' g B s' ∧ Wr w w' g

theorem kk {w : World} {g g' : Nat} {t t' : TypeId} {a b x y z : Value} (h : Blk w g t #[a, b]) (k : Blk w g' t' #[x, y, z]) : w.cell? ⟨g, 0, none⟩ = some a ∧ w.cell? ⟨g, 1, none⟩ = some b ∧ w.cell? ⟨g', 1, none⟩ = some y ∧ w.cell? ⟨g', 2, none⟩ = some z :=
  ⟨h.cell 0, h.cell 1, k.cell 1, k.cell 2⟩
theorem SlN.wr {w w' : World} {g : Nat} {t : TypeId} {x y : Value} {A : Option Addr} {c : Nat} {l : List Nat} (h : SlN w A c l) (hb : Blk w g t #[x, y]) (hx : ∀ n, x ≠ nv n) (hy : ∀ n, y ≠ nv n) (hw : Wr w w' g) : SlN w' A c l := by
  refine ⟨h.1, h.2.1, h.2.2.1, h.2.2.2.1, fun j u hj => ?_⟩
  obtain ⟨ad, hA, hc⟩ := h.2.2.2.2 j u hj
  refine ⟨ad, hA, ?_⟩
  have hlt := World.block_lt_of_cell? w _ hc
  have hne : (ad.add j).block ≠ g := by
    intro e
    have hsp := World.cell?_spot hc
    have hu : ∃ b, u = nv b := by
      simp only [List.getElem?_map, Option.map_eq_some_iff] at hj
      obtain ⟨b, _, hb⟩ := hj
      exact ⟨b, hb.symm⟩
    obtain ⟨b, rfl⟩ := hu
    have he : ad.add j = ⟨g, (ad.add j).off, none⟩ := by
      cases h1 : ad.add j with
      | mk bl of sp => rw [h1] at e hsp; simp at e hsp; subst e; subst hsp; rfl
    rw [he, hb.cell] at hc
    match (ad.add j).off, hc with
    | 0, hc => simp at hc; exact hx b hc
    | 1, hc => simp at hc; exact hy b hc
    | n + 2, hc => simp at hc
  exact (World.cell?_of_block (hw.block _ hlt (fun e => hne (by injection e)))).trans hc
theorem SlN.wrR {w w' : World} {g B : Nat} {s : List UInt8 × Nat} {A : Option Addr} {c : Nat} {l : List Nat} (h : SlN w A c l) (hR : IsR w g B s) (hw : Wr w w' g) : SlN w' A c l := by
  obtain ⟨_, _, hb, _⟩ := hR
  exact SlN.wr h hb (fun n h => by cases h) (fun n h => by cases h' : s.2 <;> (rw [h'] at h; cases h)) hw
theorem rFail_len (k : Nat) (s : List UInt8 × Nat) : (rFail k s).1.length ≤ s.1.length := by unfold rFail; split <;> exact Nat.le_refl _
theorem rWithin_len (n : Nat) (s : List UInt8 × Nat) : (rWithin n s).2.1.length ≤ s.1.length := by
  have := rNum_len s
  unfold rWithin
  split
  · exact Nat.le_trans (rFail_len _ _) this
  · exact this
theorem rFixed_len (n : Int) (s : List UInt8 × Nat) : (rFixed n s).2.1.length ≤ s.1.length := by
  unfold rFixed
  split
  · exact Nat.le_refl _
  · split
    · exact Nat.le_refl _
    · simp
theorem rText_len (n : Int) (s : List UInt8 × Nat) : (rText n s).2.1.length ≤ s.1.length := Nat.le_trans (rFixed_len _ _) (rCount_len _ _)
theorem rNums_len : ∀ (n : Nat) (s : List UInt8 × Nat), (rNums n s).2.1.length ≤ s.1.length
  | 0, s => Nat.le_refl _
  | n + 1, s => by
    have h1 := rNum_len s
    have h2 := rNums_len n (rNum s).2
    unfold rNums
    split
    · exact h1
    · split <;> exact Nat.le_trans h2 h1
theorem rList_len (n : Int) (s : List UInt8 × Nat) : (rList n s).2.1.length ≤ s.1.length := Nat.le_trans (rNums_len _ _) (rCount_len _ _)

def u6 (kind : Int) (k : Int) : Prop := (IntKind.u64.wrap kind).tmod 6 = k

set_option maxRecDepth 100000 in
set_option maxHeartbeats 2000000 in
theorem act_0 {g B C bad : Nat} {l : List UInt8} {A : Option Addr} {c : Nat} {w : World} (kind most : Int) (_ : -9223372036854775808 ≤ most ∧ most ≤ 9223372036854775807) (_ : l.length ≤ 1000000) (n : Nat) (hR : IsR w g B (l, bad)) (hS : SlB w A c l) (hBd : l ≠ [] → ∀ ad, A = some ad → ad.block < C) (hB : B ≤ w.heap.size) (hC : C ≤ w.heap.size) (hCg : C ≤ g) (hk : u6 kind 0) :
    Calls Try.prog 64 #[.pointer (some ⟨g, 0, none⟩), rv A l.length c bad, .agg #[.int .i64 kind, .int .u64 n, .int .i64 most]] w (ActOut w g B C (l, bad)) := by
  have hglt := hR.lt
  unfold u6 at hk
  have hT : ∀ k : Int, ((IntKind.u64.wrap kind).tmod 6 == k) = (0 == k) := by rw [hk]; intro k; rfl
  have hlen := rNum_len (l, bad)
  have hP := fun (W : World) (h : SlB W A c l) => rNumber_any (bad := bad) W h hBd
  have hQ := fun (W : World) (h : IsR W g B (l, bad)) => Number_any h
  generalize rNum (l, bad) = r at *
  obtain ⟨n1, l2, bad2⟩ := r
  have HP := Lib.hid hP
  have HQ := Lib.hid hQ
  clear hP hQ hk
  go_enter Try.func64, Try.ntmps64
  go_wp2_with fail
  refine (HP.out _ (hS.below (bel_alloc (bel_alloc (below_new _ _) _) _))).mono ?_
  rintro e w1 ⟨v, rfl, ⟨A2, c2, rfl, hS2, hBd2⟩, hb1⟩
  go_wp2_with fail
  have hw0 := bel_alloc (bel_alloc (below_new w (.cells #[.slice A l.length c, .int .i64 bad] 102)) (.cells #[.int .i64 kind, .int .u64 n, .int .i64 most] 105)) (.cells #[.slice none 0 0, .int .i64 0] 102)
  have hw1 := bel_call hw0 hb1
  have hw2 := bel_alloc hw1 (.cells #[.slice A2 l2.length c2, .int .i64 bad2] 102)
  have hM := ((((Blk.new w 102 #[.slice A l.length c, .int .i64 bad]).alloc (.cells #[.int .i64 kind, .int .u64 n, .int .i64 most] 105)).alloc (.cells #[.slice none 0 0, .int .i64 0] 102)).below hb1).alloc (.cells #[.slice A2 l2.length c2, .int .i64 bad2] 102)
  have hO := ((Blk.newAt (w := (w.alloc (.cells #[.slice A l.length c, .int .i64 bad] 102)).alloc (.cells #[.int .i64 kind, .int .u64 n, .int .i64 most] 105)) (g := w.heap.size + 1 + 1) (by simp) 102 #[.slice none 0 0, .int .i64 0]).below hb1).alloc (.cells #[.slice A2 l2.length c2, .int .i64 bad2] 102)
  have hG := (((Blk.newAt (w := (w.alloc (.cells #[.slice A l.length c, .int .i64 bad] 102))) (g := w.heap.size + 1) (by simp) 105 #[.int .i64 kind, .int .u64 n, .int .i64 most]).alloc (.cells #[.slice none 0 0, .int .i64 0] 102)).below hb1).alloc (.cells #[.slice A2 l2.length c2, .int .i64 bad2] 102)
  have hN := Blk.new w1 102 #[.slice A2 l2.length c2, .int .i64 bad2]
  have hz1 : w.heap.size + 1 + 1 < w1.heap.size := by have := hb1.size; simp at this; omega
  obtain ⟨g0, g1, g2, gf0, gf1, gf2⟩ := hG.three
  have HR := Lib.hid (hR.below hw2)
  have HM := Lib.hid hM
  have HO := Lib.hid hO
  have HN := Lib.hid hN
  have HG := Lib.hid hG
  clear hR hM hO hN hw0 hb1 hw1 hG
  go_region_held3 (fun W => W.cell? ⟨w1.heap.size, 0, none⟩ = some (.slice A2 l2.length c2) ∧ W.cell? ⟨w1.heap.size, 1, none⟩ = some (.int .i64 bad2) ∧ W.cell? ⟨w.heap.size + 1, 1, none⟩ = some (.int .u64 n) ∧ W.cell? ⟨w.heap.size + 1, 2, none⟩ = some (.int .i64 most)) (first | exact hk1 | exact hk0 | exact kk (blk_two_far hN2 (by omega) _ _) (blk_two_far hG2 (by omega) _ _) | go_keep) (first
    | (go_at_call 54; go_must (refine (HQ.out _ ?_).mono ?_; exact HR.out.drew; rintro e w2 ⟨rfl, hR2, hr2⟩); have hN2 := HN.out.drew.wr hr2 (by omega); have hG2 := HG.out.drew.wr hr2 (by omega); have hk0 := kk hN2 hG2; obtain ⟨m0, m1, mf0, mf1⟩ := (HM.out.drew.wr hr2 (by omega)).two))
  go_wp2_with fail
  have hM3 := (HM.out.drew.wr hr2 (by omega)).set2 (.slice A2 l2.length c2) (.int .i64 bad2)
  have hO3 := blk_two_far (HO.out.drew.wr hr2 (by omega)) (g' := w.heap.size) (by omega) (.slice A2 l2.length c2) (.int .i64 bad2)
  have hR3 := hR2.apart (C := w.heap.size) hglt hB (below_two (Below.refl _ _) (Nat.le_refl _) (.slice A2 l2.length c2) (.int .i64 bad2))
  have hr3 := wr_below (Wr.trans ((Wr.of_below hw2).drew) hr2) (Nat.le_refl _) (below_two (Below.refl _ _) (Nat.le_refl w.heap.size) (.slice A2 l2.length c2) (.int .i64 bad2))
  have hS3 := SlB.apart (w := (w1.alloc (.cells #[.slice A2 l2.length c2, .int .i64 bad2] 102)).drew) (hS2.below (below_new w1 (.cells #[.slice A2 l2.length c2, .int .i64 bad2] 102)).drew) hBd2 (Nat.le_refl C) (below_two ((hr2.below (B := C) (by simp; omega) hCg)) (g := w.heap.size) hC (.slice A2 l2.length c2) (.int .i64 bad2))
  generalize (w2.setCell ⟨w.heap.size, 0, none⟩ (.slice A2 l2.length c2)).setCell ⟨w.heap.size, 1, none⟩ (.int .i64 bad2) = w3 at *
  clear hR2 hr2 hN2 hG2 HG hk0 m0 m1 mf0 mf1 HR HM HO HN hw2 hS2 hz1 g0 g1 g2 gf0 gf1 gf2
  obtain ⟨m0, m1, mf0, mf1⟩ := hM3.two
  have HR := Lib.hid hR3
  have HM := Lib.hid hM3
  have HO := Lib.hid hO3
  go_region_held3 (fun W => W.cell? ⟨w.heap.size, 0, none⟩ = some (.slice A2 l2.length c2) ∧ W.cell? ⟨w.heap.size, 1, none⟩ = some (.int .i64 bad2)) (first | exact hk2 | exact (blk_two_far hM4 (by omega) _ _).cells2 | go_keep) (first
    | (go_at_call 63; refine (same_any (g := g) (B := B) (l := l2) (bad := bad2) (A := A2) (c := c2) ?_).mono ?_; exact HR.out.drew; rintro e w4 ⟨rfl, hb4⟩; have hM4 := HM.out.drew.below hb4; have hk2 := hM4.cells2; obtain ⟨o0, o1, of0, of1⟩ := (HO.out.drew.below hb4).two))
  go_wp2_with fail
  have hw4 := (Wr.drew hr3).call hb4
  have hX := below_two (Below.refl (w.heap.size) w4) (g := w.heap.size + 1 + 1) (by omega) (.slice A2 l2.length c2) (.int .i64 bad2)
  have hsz := hw4.size
  refine bodyPost_ret (res_rb rfl rfl (g := w.heap.size + 1 + 1) (x := .slice A2 l2.length c2) (y := .int .i64 bad2) ((HO.out.drew.below hb4).set2 _ _)) rfl ⟨(l2, bad2), rv A2 l2.length c2 bad2, rfl, hlen, ⟨A2, c2, rfl, SlB.apart (w := w3.drew) hS3 hBd2 (Nat.le_refl C) ((hb4.mono (by have := hr3.size; simp; omega)).trans (hX.mono hC)), hBd2⟩, (IsR.below (w := w3.drew) HR.out hb4).apart hglt hB hX, wr_below hw4 (Nat.le_refl _) hX⟩

set_option maxRecDepth 100000 in
set_option maxHeartbeats 2000000 in
theorem act_1 {g B C bad : Nat} {l : List UInt8} {A : Option Addr} {c : Nat} {w : World} (kind most : Int) (_ : -9223372036854775808 ≤ most ∧ most ≤ 9223372036854775807) (_ : l.length ≤ 1000000) (n : Nat) (hR : IsR w g B (l, bad)) (hS : SlB w A c l) (hBd : l ≠ [] → ∀ ad, A = some ad → ad.block < C) (hB : B ≤ w.heap.size) (hC : C ≤ w.heap.size) (hCg : C ≤ g) (hk : u6 kind 1) :
    Calls Try.prog 64 #[.pointer (some ⟨g, 0, none⟩), rv A l.length c bad, .agg #[.int .i64 kind, .int .u64 n, .int .i64 most]] w (ActOut w g B C (l, bad)) := by
  have hglt := hR.lt
  unfold u6 at hk
  have hT : ∀ k : Int, ((IntKind.u64.wrap kind).tmod 6 == k) = (1 == k) := by rw [hk]; intro k; rfl
  have hlen := rWithin_len n (l, bad)
  have hP := fun (W : World) (h : SlB W A c l) => rWithin_any (bad := bad) n W h hBd
  have hQ := fun (W : World) (h : IsR W g B (l, bad)) => Within_any n h
  generalize rWithin n (l, bad) = r at *
  obtain ⟨n1, l2, bad2⟩ := r
  have HP := Lib.hid hP
  have HQ := Lib.hid hQ
  clear hP hQ hk
  go_enter Try.func64, Try.ntmps64
  go_wp2_with fail
  refine (HP.out _ (hS.below (bel_alloc (bel_alloc (below_new _ _) _) _))).mono ?_
  rintro e w1 ⟨v, rfl, ⟨A2, c2, rfl, hS2, hBd2⟩, hb1⟩
  go_wp2_with fail
  have hw0 := bel_alloc (bel_alloc (below_new w (.cells #[.slice A l.length c, .int .i64 bad] 102)) (.cells #[.int .i64 kind, .int .u64 n, .int .i64 most] 105)) (.cells #[.slice none 0 0, .int .i64 0] 102)
  have hw1 := bel_call hw0 hb1
  have hw2 := bel_alloc hw1 (.cells #[.slice A2 l2.length c2, .int .i64 bad2] 102)
  have hM := ((((Blk.new w 102 #[.slice A l.length c, .int .i64 bad]).alloc (.cells #[.int .i64 kind, .int .u64 n, .int .i64 most] 105)).alloc (.cells #[.slice none 0 0, .int .i64 0] 102)).below hb1).alloc (.cells #[.slice A2 l2.length c2, .int .i64 bad2] 102)
  have hO := ((Blk.newAt (w := (w.alloc (.cells #[.slice A l.length c, .int .i64 bad] 102)).alloc (.cells #[.int .i64 kind, .int .u64 n, .int .i64 most] 105)) (g := w.heap.size + 1 + 1) (by simp) 102 #[.slice none 0 0, .int .i64 0]).below hb1).alloc (.cells #[.slice A2 l2.length c2, .int .i64 bad2] 102)
  have hG := (((Blk.newAt (w := (w.alloc (.cells #[.slice A l.length c, .int .i64 bad] 102))) (g := w.heap.size + 1) (by simp) 105 #[.int .i64 kind, .int .u64 n, .int .i64 most]).alloc (.cells #[.slice none 0 0, .int .i64 0] 102)).below hb1).alloc (.cells #[.slice A2 l2.length c2, .int .i64 bad2] 102)
  have hN := Blk.new w1 102 #[.slice A2 l2.length c2, .int .i64 bad2]
  have hz1 : w.heap.size + 1 + 1 < w1.heap.size := by have := hb1.size; simp at this; omega
  obtain ⟨g0, g1, g2, gf0, gf1, gf2⟩ := hG.three
  have HR := Lib.hid (hR.below hw2)
  have HM := Lib.hid hM
  have HO := Lib.hid hO
  have HN := Lib.hid hN
  have HG := Lib.hid hG
  clear hR hM hO hN hw0 hb1 hw1 hG
  go_region_held3 (fun W => W.cell? ⟨w1.heap.size, 0, none⟩ = some (.slice A2 l2.length c2) ∧ W.cell? ⟨w1.heap.size, 1, none⟩ = some (.int .i64 bad2) ∧ W.cell? ⟨w.heap.size + 1, 1, none⟩ = some (.int .u64 n) ∧ W.cell? ⟨w.heap.size + 1, 2, none⟩ = some (.int .i64 most)) (first | exact hk1 | exact hk0 | exact kk (blk_two_far hN2 (by omega) _ _) (blk_two_far hG2 (by omega) _ _) | go_keep) (first
    | (go_at_call 55; go_must (refine (HQ.out _ ?_).mono ?_; exact HR.out.drew; rintro e w2 ⟨rfl, hR2, hr2⟩); have hN2 := HN.out.drew.wr hr2 (by omega); have hG2 := HG.out.drew.wr hr2 (by omega); have hk0 := kk hN2 hG2; obtain ⟨m0, m1, mf0, mf1⟩ := (HM.out.drew.wr hr2 (by omega)).two))
  go_wp2_with fail
  have hM3 := (HM.out.drew.wr hr2 (by omega)).set2 (.slice A2 l2.length c2) (.int .i64 bad2)
  have hO3 := blk_two_far (HO.out.drew.wr hr2 (by omega)) (g' := w.heap.size) (by omega) (.slice A2 l2.length c2) (.int .i64 bad2)
  have hR3 := hR2.apart (C := w.heap.size) hglt hB (below_two (Below.refl _ _) (Nat.le_refl _) (.slice A2 l2.length c2) (.int .i64 bad2))
  have hr3 := wr_below (Wr.trans ((Wr.of_below hw2).drew) hr2) (Nat.le_refl _) (below_two (Below.refl _ _) (Nat.le_refl w.heap.size) (.slice A2 l2.length c2) (.int .i64 bad2))
  have hS3 := SlB.apart (w := (w1.alloc (.cells #[.slice A2 l2.length c2, .int .i64 bad2] 102)).drew) (hS2.below (below_new w1 (.cells #[.slice A2 l2.length c2, .int .i64 bad2] 102)).drew) hBd2 (Nat.le_refl C) (below_two ((hr2.below (B := C) (by simp; omega) hCg)) (g := w.heap.size) hC (.slice A2 l2.length c2) (.int .i64 bad2))
  generalize (w2.setCell ⟨w.heap.size, 0, none⟩ (.slice A2 l2.length c2)).setCell ⟨w.heap.size, 1, none⟩ (.int .i64 bad2) = w3 at *
  clear hR2 hr2 hN2 hG2 HG hk0 m0 m1 mf0 mf1 HR HM HO HN hw2 hS2 hz1 g0 g1 g2 gf0 gf1 gf2
  obtain ⟨m0, m1, mf0, mf1⟩ := hM3.two
  have HR := Lib.hid hR3
  have HM := Lib.hid hM3
  have HO := Lib.hid hO3
  go_region_held3 (fun W => W.cell? ⟨w.heap.size, 0, none⟩ = some (.slice A2 l2.length c2) ∧ W.cell? ⟨w.heap.size, 1, none⟩ = some (.int .i64 bad2)) (first | exact hk2 | exact (blk_two_far hM4 (by omega) _ _).cells2 | go_keep) (first
    | (go_at_call 63; refine (same_any (g := g) (B := B) (l := l2) (bad := bad2) (A := A2) (c := c2) ?_).mono ?_; exact HR.out.drew; rintro e w4 ⟨rfl, hb4⟩; have hM4 := HM.out.drew.below hb4; have hk2 := hM4.cells2; obtain ⟨o0, o1, of0, of1⟩ := (HO.out.drew.below hb4).two))
  go_wp2_with fail
  have hw4 := (Wr.drew hr3).call hb4
  have hX := below_two (Below.refl (w.heap.size) w4) (g := w.heap.size + 1 + 1) (by omega) (.slice A2 l2.length c2) (.int .i64 bad2)
  have hsz := hw4.size
  refine bodyPost_ret (res_rb rfl rfl (g := w.heap.size + 1 + 1) (x := .slice A2 l2.length c2) (y := .int .i64 bad2) ((HO.out.drew.below hb4).set2 _ _)) rfl ⟨(l2, bad2), rv A2 l2.length c2 bad2, rfl, hlen, ⟨A2, c2, rfl, SlB.apart (w := w3.drew) hS3 hBd2 (Nat.le_refl C) ((hb4.mono (by have := hr3.size; simp; omega)).trans (hX.mono hC)), hBd2⟩, (IsR.below (w := w3.drew) HR.out hb4).apart hglt hB hX, wr_below hw4 (Nat.le_refl _) hX⟩


set_option maxRecDepth 100000 in
set_option maxHeartbeats 2000000 in
theorem act_2 {g B C bad : Nat} {l : List UInt8} {A : Option Addr} {c : Nat} {w : World} (kind most : Int) (hm : -9223372036854775808 ≤ most ∧ most ≤ 9223372036854775807) (hl : l.length ≤ 1000000) (n : Nat) (hR : IsR w g B (l, bad)) (hS : SlB w A c l) (hBd : l ≠ [] → ∀ ad, A = some ad → ad.block < C) (hB : B ≤ w.heap.size) (hC : C ≤ w.heap.size) (hCg : C ≤ g) (hk : u6 kind 2) :
    Calls Try.prog 64 #[.pointer (some ⟨g, 0, none⟩), rv A l.length c bad, .agg #[.int .i64 kind, .int .u64 n, .int .i64 most]] w (ActOut w g B C (l, bad)) := by
  have hglt := hR.lt
  unfold u6 at hk
  have hT : ∀ k : Int, ((IntKind.u64.wrap kind).tmod 6 == k) = (2 == k) := by rw [hk]; intro k; rfl
  have hlen := rText_len most (l, bad)
  have hP := fun (W : World) (h : SlB W A c l) => rTextOf_any (bad := bad) most hm W h hBd
  have hQ := fun (W : World) (h : IsR W g B (l, bad)) => Text_any most hm (by omega) h
  generalize hrv : rText most (l, bad) = r at *
  obtain ⟨t1, l2, bad2⟩ := r
  have HP := Lib.hid hP
  have HQ := Lib.hid hQ
  clear hP hQ hk hrv
  go_enter Try.func64, Try.ntmps64
  go_wp2_with fail
  refine (HP.out _ (hS.below (bel_alloc (bel_alloc (below_new _ _) _) _))).mono ?_
  rintro e w1 ⟨A7, c7, m7, v, rfl, hm7, hS7, ⟨A2, c2, rfl, hS2, hBd2⟩, hb1⟩
  go_wp2_with fail
  have hw0 := bel_alloc (bel_alloc (below_new w (.cells #[.slice A l.length c, .int .i64 bad] 102)) (.cells #[.int .i64 kind, .int .u64 n, .int .i64 most] 105)) (.cells #[.slice none 0 0, .int .i64 0] 102)
  have hw1 := bel_call hw0 hb1
  have hw2 := bel_alloc hw1 (.cells #[.slice A2 l2.length c2, .int .i64 bad2] 102)
  have hM := ((((Blk.new w 102 #[.slice A l.length c, .int .i64 bad]).alloc (.cells #[.int .i64 kind, .int .u64 n, .int .i64 most] 105)).alloc (.cells #[.slice none 0 0, .int .i64 0] 102)).below hb1).alloc (.cells #[.slice A2 l2.length c2, .int .i64 bad2] 102)
  have hO := ((Blk.newAt (w := (w.alloc (.cells #[.slice A l.length c, .int .i64 bad] 102)).alloc (.cells #[.int .i64 kind, .int .u64 n, .int .i64 most] 105)) (g := w.heap.size + 1 + 1) (by simp) 102 #[.slice none 0 0, .int .i64 0]).below hb1).alloc (.cells #[.slice A2 l2.length c2, .int .i64 bad2] 102)
  have hG := (((Blk.newAt (w := (w.alloc (.cells #[.slice A l.length c, .int .i64 bad] 102))) (g := w.heap.size + 1) (by simp) 105 #[.int .i64 kind, .int .u64 n, .int .i64 most]).alloc (.cells #[.slice none 0 0, .int .i64 0] 102)).below hb1).alloc (.cells #[.slice A2 l2.length c2, .int .i64 bad2] 102)
  have hN := Blk.new w1 102 #[.slice A2 l2.length c2, .int .i64 bad2]
  have hz1 : w.heap.size + 1 + 1 < w1.heap.size := by have := hb1.size; simp at this; omega
  obtain ⟨g0, g1, g2, gf0, gf1, gf2⟩ := hG.three
  have HR := Lib.hid (hR.below hw2)
  have HM := Lib.hid hM
  have HO := Lib.hid hO
  have HN := Lib.hid hN
  have HG := Lib.hid hG
  clear hR hM hO hN hw0 hb1 hw1 hG
  go_region_held3 (fun W => W.cell? ⟨w1.heap.size, 0, none⟩ = some (.slice A2 l2.length c2) ∧ W.cell? ⟨w1.heap.size, 1, none⟩ = some (.int .i64 bad2) ∧ W.cell? ⟨w.heap.size + 1, 1, none⟩ = some (.int .u64 n) ∧ W.cell? ⟨w.heap.size + 1, 2, none⟩ = some (.int .i64 most)) (first | exact hk1 | exact hk0 | exact kk (blk_two_far hN2 (by omega) _ _) (blk_two_far hG2 (by omega) _ _) | go_keep) (first
    | (go_at_call 56; go_must (refine (HQ.out _ ?_).mono ?_; exact HR.out.drew; rintro e w2 ⟨A8, c8, m8, rfl, hm8, ho8, hR2, hr2⟩; have hS8 := SlB.wrR (w := (w1.alloc (.cells #[.slice A2 l2.length c2, .int .i64 bad2] 102)).drew) (hS7.below (below_new w1 (.cells #[.slice A2 l2.length c2, .int .i64 bad2] 102)).drew) HR.out hr2; have hq : (m8 == m7) = true := (by rw [hm8.out, hm7.out]; simp)); have hN2 := HN.out.drew.wr hr2 (by omega); have hG2 := HG.out.drew.wr hr2 (by omega); have hk0 := kk hN2 hG2; obtain ⟨m0, m1, mf0, mf1⟩ := (HM.out.drew.wr hr2 (by omega)).two)| (go_at_call 32; go_must (refine (nBytes_any _ _ _ _ m8 m7 _ ?_ ?_).mono ?_; exact ho8.sl; exact hS8; rintro e w9 ⟨rfl, rfl⟩)))
  go_wp2_with fail
  have hM3 := (HM.out.drew.wr hr2 (by omega)).set2 (.slice A2 l2.length c2) (.int .i64 bad2)
  have hO3 := blk_two_far (HO.out.drew.wr hr2 (by omega)) (g' := w.heap.size) (by omega) (.slice A2 l2.length c2) (.int .i64 bad2)
  have hR3 := hR2.apart (C := w.heap.size) hglt hB (below_two (Below.refl _ _) (Nat.le_refl _) (.slice A2 l2.length c2) (.int .i64 bad2))
  have hr3 := wr_below (Wr.trans ((Wr.of_below hw2).drew) hr2) (Nat.le_refl _) (below_two (Below.refl _ _) (Nat.le_refl w.heap.size) (.slice A2 l2.length c2) (.int .i64 bad2))
  have hS3 := SlB.apart (w := (w1.alloc (.cells #[.slice A2 l2.length c2, .int .i64 bad2] 102)).drew) (hS2.below (below_new w1 (.cells #[.slice A2 l2.length c2, .int .i64 bad2] 102)).drew) hBd2 (Nat.le_refl C) (below_two ((hr2.below (B := C) (by simp; omega) hCg)) (g := w.heap.size) hC (.slice A2 l2.length c2) (.int .i64 bad2))
  generalize (w2.setCell ⟨w.heap.size, 0, none⟩ (.slice A2 l2.length c2)).setCell ⟨w.heap.size, 1, none⟩ (.int .i64 bad2) = w3 at *
  clear hR2 hr2 hN2 hG2 HG hk0 m0 m1 mf0 mf1 HR HM HO HN hw2 hS2 hz1 g0 g1 g2 gf0 gf1 gf2
  obtain ⟨m0, m1, mf0, mf1⟩ := hM3.two
  have HR := Lib.hid hR3
  have HM := Lib.hid hM3
  have HO := Lib.hid hO3
  go_region_held3 (fun W => W.cell? ⟨w.heap.size, 0, none⟩ = some (.slice A2 l2.length c2) ∧ W.cell? ⟨w.heap.size, 1, none⟩ = some (.int .i64 bad2)) (first | exact hk2 | exact (blk_two_far hM4 (by omega) _ _).cells2 | go_keep) (first
    | (go_at_call 63; refine (same_any (g := g) (B := B) (l := l2) (bad := bad2) (A := A2) (c := c2) ?_).mono ?_; exact HR.out.drew; rintro e w4 ⟨rfl, hb4⟩; have hM4 := HM.out.drew.below hb4; have hk2 := hM4.cells2; obtain ⟨o0, o1, of0, of1⟩ := (HO.out.drew.below hb4).two))
  go_wp2_with fail
  have hw4 := (Wr.drew hr3).call hb4
  have hX := below_two (Below.refl (w.heap.size) w4) (g := w.heap.size + 1 + 1) (by omega) (.slice A2 l2.length c2) (.int .i64 bad2)
  have hsz := hw4.size
  refine bodyPost_ret (res_rb rfl rfl (g := w.heap.size + 1 + 1) (x := .slice A2 l2.length c2) (y := .int .i64 bad2) ((HO.out.drew.below hb4).set2 _ _)) rfl ⟨(l2, bad2), rv A2 l2.length c2 bad2, rfl, hlen, ⟨A2, c2, rfl, SlB.apart (w := w3.drew) hS3 hBd2 (Nat.le_refl C) ((hb4.mono (by have := hr3.size; simp; omega)).trans (hX.mono hC)), hBd2⟩, (IsR.below (w := w3.drew) HR.out hb4).apart hglt hB hX, wr_below hw4 (Nat.le_refl _) hX⟩

set_option maxRecDepth 100000 in
set_option maxHeartbeats 2000000 in
theorem act_4 {g B C bad : Nat} {l : List UInt8} {A : Option Addr} {c : Nat} {w : World} (kind most : Int) (_ : -9223372036854775808 ≤ most ∧ most ≤ 9223372036854775807) (hl : l.length ≤ 1000000) (n : Nat) (hR : IsR w g B (l, bad)) (hS : SlB w A c l) (hBd : l ≠ [] → ∀ ad, A = some ad → ad.block < C) (hB : B ≤ w.heap.size) (hC : C ≤ w.heap.size) (hCg : C ≤ g) (hk : u6 kind 4) :
    Calls Try.prog 64 #[.pointer (some ⟨g, 0, none⟩), rv A l.length c bad, .agg #[.int .i64 kind, .int .u64 n, .int .i64 most]] w (ActOut w g B C (l, bad)) := by
  have hglt := hR.lt
  unfold u6 at hk
  have hT : ∀ k : Int, ((IntKind.u64.wrap kind).tmod 6 == k) = (4 == k) := by rw [hk]; intro k; rfl
  have hlen := rFixed_len most (l, bad)
  have hP := fun (W : World) (h : SlB W A c l) => rFixed_any (bad := bad) most W h hBd
  have hQ := fun (W : World) (h : IsR W g B (l, bad)) => Fixed_any most (by omega) h
  generalize hrv : rFixed most (l, bad) = r at *
  obtain ⟨t1, l2, bad2⟩ := r
  have HP := Lib.hid hP
  have HQ := Lib.hid hQ
  clear hP hQ hk hrv
  go_enter Try.func64, Try.ntmps64
  go_wp2_with fail
  refine (HP.out _ (hS.below (bel_alloc (bel_alloc (below_new _ _) _) _))).mono ?_
  rintro e w1 ⟨A7, c7, m7, v, rfl, hm7, hS7, ⟨A2, c2, rfl, hS2, hBd2⟩, hb1⟩
  go_wp2_with fail
  have hw0 := bel_alloc (bel_alloc (below_new w (.cells #[.slice A l.length c, .int .i64 bad] 102)) (.cells #[.int .i64 kind, .int .u64 n, .int .i64 most] 105)) (.cells #[.slice none 0 0, .int .i64 0] 102)
  have hw1 := bel_call hw0 hb1
  have hw2 := bel_alloc hw1 (.cells #[.slice A2 l2.length c2, .int .i64 bad2] 102)
  have hM := ((((Blk.new w 102 #[.slice A l.length c, .int .i64 bad]).alloc (.cells #[.int .i64 kind, .int .u64 n, .int .i64 most] 105)).alloc (.cells #[.slice none 0 0, .int .i64 0] 102)).below hb1).alloc (.cells #[.slice A2 l2.length c2, .int .i64 bad2] 102)
  have hO := ((Blk.newAt (w := (w.alloc (.cells #[.slice A l.length c, .int .i64 bad] 102)).alloc (.cells #[.int .i64 kind, .int .u64 n, .int .i64 most] 105)) (g := w.heap.size + 1 + 1) (by simp) 102 #[.slice none 0 0, .int .i64 0]).below hb1).alloc (.cells #[.slice A2 l2.length c2, .int .i64 bad2] 102)
  have hG := (((Blk.newAt (w := (w.alloc (.cells #[.slice A l.length c, .int .i64 bad] 102))) (g := w.heap.size + 1) (by simp) 105 #[.int .i64 kind, .int .u64 n, .int .i64 most]).alloc (.cells #[.slice none 0 0, .int .i64 0] 102)).below hb1).alloc (.cells #[.slice A2 l2.length c2, .int .i64 bad2] 102)
  have hN := Blk.new w1 102 #[.slice A2 l2.length c2, .int .i64 bad2]
  have hz1 : w.heap.size + 1 + 1 < w1.heap.size := by have := hb1.size; simp at this; omega
  obtain ⟨g0, g1, g2, gf0, gf1, gf2⟩ := hG.three
  have HR := Lib.hid (hR.below hw2)
  have HM := Lib.hid hM
  have HO := Lib.hid hO
  have HN := Lib.hid hN
  have HG := Lib.hid hG
  clear hR hM hO hN hw0 hb1 hw1 hG
  go_region_held3 (fun W => W.cell? ⟨w1.heap.size, 0, none⟩ = some (.slice A2 l2.length c2) ∧ W.cell? ⟨w1.heap.size, 1, none⟩ = some (.int .i64 bad2) ∧ W.cell? ⟨w.heap.size + 1, 1, none⟩ = some (.int .u64 n) ∧ W.cell? ⟨w.heap.size + 1, 2, none⟩ = some (.int .i64 most)) (first | exact hk1 | exact hk0 | exact kk (blk_two_far hN2 (by omega) _ _) (blk_two_far hG2 (by omega) _ _) | go_keep) (first
    | (go_at_call 58; go_must (refine (HQ.out _ ?_).mono ?_; exact HR.out.drew; rintro e w2 ⟨A8, c8, m8, rfl, hm8, ho8, hR2, hr2⟩; have hS8 := SlB.wrR (w := (w1.alloc (.cells #[.slice A2 l2.length c2, .int .i64 bad2] 102)).drew) (hS7.below (below_new w1 (.cells #[.slice A2 l2.length c2, .int .i64 bad2] 102)).drew) HR.out hr2; have hq : (m8 == m7) = true := (by rw [hm8.out, hm7.out]; simp)); have hN2 := HN.out.drew.wr hr2 (by omega); have hG2 := HG.out.drew.wr hr2 (by omega); have hk0 := kk hN2 hG2; obtain ⟨m0, m1, mf0, mf1⟩ := (HM.out.drew.wr hr2 (by omega)).two)| (go_at_call 32; go_must (refine (nBytes_any _ _ _ _ m8 m7 _ ?_ ?_).mono ?_; exact ho8.sl; exact hS8; rintro e w9 ⟨rfl, rfl⟩)))
  go_wp2_with fail
  have hM3 := (HM.out.drew.wr hr2 (by omega)).set2 (.slice A2 l2.length c2) (.int .i64 bad2)
  have hO3 := blk_two_far (HO.out.drew.wr hr2 (by omega)) (g' := w.heap.size) (by omega) (.slice A2 l2.length c2) (.int .i64 bad2)
  have hR3 := hR2.apart (C := w.heap.size) hglt hB (below_two (Below.refl _ _) (Nat.le_refl _) (.slice A2 l2.length c2) (.int .i64 bad2))
  have hr3 := wr_below (Wr.trans ((Wr.of_below hw2).drew) hr2) (Nat.le_refl _) (below_two (Below.refl _ _) (Nat.le_refl w.heap.size) (.slice A2 l2.length c2) (.int .i64 bad2))
  have hS3 := SlB.apart (w := (w1.alloc (.cells #[.slice A2 l2.length c2, .int .i64 bad2] 102)).drew) (hS2.below (below_new w1 (.cells #[.slice A2 l2.length c2, .int .i64 bad2] 102)).drew) hBd2 (Nat.le_refl C) (below_two ((hr2.below (B := C) (by simp; omega) hCg)) (g := w.heap.size) hC (.slice A2 l2.length c2) (.int .i64 bad2))
  generalize (w2.setCell ⟨w.heap.size, 0, none⟩ (.slice A2 l2.length c2)).setCell ⟨w.heap.size, 1, none⟩ (.int .i64 bad2) = w3 at *
  clear hR2 hr2 hN2 hG2 HG hk0 m0 m1 mf0 mf1 HR HM HO HN hw2 hS2 hz1 g0 g1 g2 gf0 gf1 gf2
  obtain ⟨m0, m1, mf0, mf1⟩ := hM3.two
  have HR := Lib.hid hR3
  have HM := Lib.hid hM3
  have HO := Lib.hid hO3
  go_region_held3 (fun W => W.cell? ⟨w.heap.size, 0, none⟩ = some (.slice A2 l2.length c2) ∧ W.cell? ⟨w.heap.size, 1, none⟩ = some (.int .i64 bad2)) (first | exact hk2 | exact (blk_two_far hM4 (by omega) _ _).cells2 | go_keep) (first
    | (go_at_call 63; refine (same_any (g := g) (B := B) (l := l2) (bad := bad2) (A := A2) (c := c2) ?_).mono ?_; exact HR.out.drew; rintro e w4 ⟨rfl, hb4⟩; have hM4 := HM.out.drew.below hb4; have hk2 := hM4.cells2; obtain ⟨o0, o1, of0, of1⟩ := (HO.out.drew.below hb4).two))
  go_wp2_with fail
  have hw4 := (Wr.drew hr3).call hb4
  have hX := below_two (Below.refl (w.heap.size) w4) (g := w.heap.size + 1 + 1) (by omega) (.slice A2 l2.length c2) (.int .i64 bad2)
  have hsz := hw4.size
  refine bodyPost_ret (res_rb rfl rfl (g := w.heap.size + 1 + 1) (x := .slice A2 l2.length c2) (y := .int .i64 bad2) ((HO.out.drew.below hb4).set2 _ _)) rfl ⟨(l2, bad2), rv A2 l2.length c2 bad2, rfl, hlen, ⟨A2, c2, rfl, SlB.apart (w := w3.drew) hS3 hBd2 (Nat.le_refl C) ((hb4.mono (by have := hr3.size; simp; omega)).trans (hX.mono hC)), hBd2⟩, (IsR.below (w := w3.drew) HR.out hb4).apart hglt hB hX, wr_below hw4 (Nat.le_refl _) hX⟩

set_option maxRecDepth 100000 in
set_option maxHeartbeats 2000000 in
theorem act_3 {g B C bad : Nat} {l : List UInt8} {A : Option Addr} {c : Nat} {w : World} (kind most : Int) (hm : -9223372036854775808 ≤ most ∧ most ≤ 9223372036854775807) (hl : l.length ≤ 1000000) (n : Nat) (hR : IsR w g B (l, bad)) (hS : SlB w A c l) (hBd : l ≠ [] → ∀ ad, A = some ad → ad.block < C) (hB : B ≤ w.heap.size) (hC : C ≤ w.heap.size) (hCg : C ≤ g) (hk : u6 kind 3) :
    Calls Try.prog 64 #[.pointer (some ⟨g, 0, none⟩), rv A l.length c bad, .agg #[.int .i64 kind, .int .u64 n, .int .i64 most]] w (ActOut w g B C (l, bad)) := by
  have hglt := hR.lt
  unfold u6 at hk
  have hT : ∀ k : Int, ((IntKind.u64.wrap kind).tmod 6 == k) = (3 == k) := by rw [hk]; intro k; rfl
  have hlen := rList_len most (l, bad)
  have hP := fun (W : World) (h : SlB W A c l) => rListOf_any (bad := bad) most hm hl W h hBd
  have hQ := fun (W : World) (h : IsR W g B (l, bad)) => List_any most hm hl h
  generalize hrv : rList most (l, bad) = r at *
  obtain ⟨t1, l2, bad2⟩ := r
  have HP := Lib.hid hP
  have HQ := Lib.hid hQ
  clear hP hQ hk hrv
  go_enter Try.func64, Try.ntmps64
  go_wp2_with fail
  refine (HP.out _ (hS.below (bel_alloc (bel_alloc (below_new _ _) _) _))).mono ?_
  rintro e w1 ⟨A7, c7, m7, v, rfl, hm7, hS7, ⟨A2, c2, rfl, hS2, hBd2⟩, hb1⟩
  go_wp2_with fail
  have hw0 := bel_alloc (bel_alloc (below_new w (.cells #[.slice A l.length c, .int .i64 bad] 102)) (.cells #[.int .i64 kind, .int .u64 n, .int .i64 most] 105)) (.cells #[.slice none 0 0, .int .i64 0] 102)
  have hw1 := bel_call hw0 hb1
  have hw2 := bel_alloc hw1 (.cells #[.slice A2 l2.length c2, .int .i64 bad2] 102)
  have hM := ((((Blk.new w 102 #[.slice A l.length c, .int .i64 bad]).alloc (.cells #[.int .i64 kind, .int .u64 n, .int .i64 most] 105)).alloc (.cells #[.slice none 0 0, .int .i64 0] 102)).below hb1).alloc (.cells #[.slice A2 l2.length c2, .int .i64 bad2] 102)
  have hO := ((Blk.newAt (w := (w.alloc (.cells #[.slice A l.length c, .int .i64 bad] 102)).alloc (.cells #[.int .i64 kind, .int .u64 n, .int .i64 most] 105)) (g := w.heap.size + 1 + 1) (by simp) 102 #[.slice none 0 0, .int .i64 0]).below hb1).alloc (.cells #[.slice A2 l2.length c2, .int .i64 bad2] 102)
  have hG := (((Blk.newAt (w := (w.alloc (.cells #[.slice A l.length c, .int .i64 bad] 102))) (g := w.heap.size + 1) (by simp) 105 #[.int .i64 kind, .int .u64 n, .int .i64 most]).alloc (.cells #[.slice none 0 0, .int .i64 0] 102)).below hb1).alloc (.cells #[.slice A2 l2.length c2, .int .i64 bad2] 102)
  have hN := Blk.new w1 102 #[.slice A2 l2.length c2, .int .i64 bad2]
  have hz1 : w.heap.size + 1 + 1 < w1.heap.size := by have := hb1.size; simp at this; omega
  obtain ⟨g0, g1, g2, gf0, gf1, gf2⟩ := hG.three
  have HR := Lib.hid (hR.below hw2)
  have HM := Lib.hid hM
  have HO := Lib.hid hO
  have HN := Lib.hid hN
  have HG := Lib.hid hG
  clear hR hM hO hN hw0 hb1 hw1 hG
  go_region_held3 (fun W => W.cell? ⟨w1.heap.size, 0, none⟩ = some (.slice A2 l2.length c2) ∧ W.cell? ⟨w1.heap.size, 1, none⟩ = some (.int .i64 bad2) ∧ W.cell? ⟨w.heap.size + 1, 1, none⟩ = some (.int .u64 n) ∧ W.cell? ⟨w.heap.size + 1, 2, none⟩ = some (.int .i64 most)) (first | exact hk1 | exact hk0 | exact kk (blk_two_far hN2 (by omega) _ _) (blk_two_far hG2 (by omega) _ _) | go_keep) (first
    | (go_at_call 57; go_must (refine (HQ.out _ ?_).mono ?_; exact HR.out.drew; rintro e w2 ⟨A8, c8, m8, rfl, hm8, ho8, hR2, hr2⟩; have hS8 := SlN.wrR (w := (w1.alloc (.cells #[.slice A2 l2.length c2, .int .i64 bad2] 102)).drew) (hS7.below (below_new w1 (.cells #[.slice A2 l2.length c2, .int .i64 bad2] 102)).drew) HR.out hr2; have hq : decide (m8 = m7) = true := (by rw [hm8.out, hm7.out]; simp)); have hN2 := HN.out.drew.wr hr2 (by omega); have hG2 := HG.out.drew.wr hr2 (by omega); have hk0 := kk hN2 hG2; obtain ⟨m0, m1, mf0, mf1⟩ := (HM.out.drew.wr hr2 (by omega)).two)| (go_at_call 18; go_must (refine (wide_any _ _ _ _ m8 m7 _ ?_ ?_).mono ?_; exact ho8.sl; exact hS8; rintro e w9 ⟨rfl, hb9⟩; have hR2 := hR2.below hb9; have hr2 := hr2.call hb9; have hN2 := hN2.below hb9; have hG2 := hG2.below hb9; have hk1 := kk hN2 hG2; obtain ⟨m0, m1, mf0, mf1⟩ := (HM.out.drew.wr hr2 (by omega)).two)))
  go_wp2_with fail
  have hM3 := (HM.out.drew.wr hr2 (by omega)).set2 (.slice A2 l2.length c2) (.int .i64 bad2)
  have hO3 := blk_two_far (HO.out.drew.wr hr2 (by omega)) (g' := w.heap.size) (by omega) (.slice A2 l2.length c2) (.int .i64 bad2)
  have hR3 := hR2.apart (C := w.heap.size) hglt hB (below_two (Below.refl _ _) (Nat.le_refl _) (.slice A2 l2.length c2) (.int .i64 bad2))
  have hr3 := wr_below (Wr.trans ((Wr.of_below hw2).drew) hr2) (Nat.le_refl _) (below_two (Below.refl _ _) (Nat.le_refl w.heap.size) (.slice A2 l2.length c2) (.int .i64 bad2))
  have hS3 := SlB.apart (w := (w1.alloc (.cells #[.slice A2 l2.length c2, .int .i64 bad2] 102)).drew) (hS2.below (below_new w1 (.cells #[.slice A2 l2.length c2, .int .i64 bad2] 102)).drew) hBd2 (Nat.le_refl C) (below_two ((hr2.below (B := C) (by simp; omega) hCg)) (g := w.heap.size) hC (.slice A2 l2.length c2) (.int .i64 bad2))
  generalize (w9.setCell ⟨w.heap.size, 0, none⟩ (.slice A2 l2.length c2)).setCell ⟨w.heap.size, 1, none⟩ (.int .i64 bad2) = w3 at *
  clear hR2 hr2 hN2 hG2 HG hk0 m0 m1 mf0 mf1 HR HM HO HN hw2 hS2 hz1 g0 g1 g2 gf0 gf1 gf2
  obtain ⟨m0, m1, mf0, mf1⟩ := hM3.two
  have HR := Lib.hid hR3
  have HM := Lib.hid hM3
  have HO := Lib.hid hO3
  go_region_held3 (fun W => W.cell? ⟨w.heap.size, 0, none⟩ = some (.slice A2 l2.length c2) ∧ W.cell? ⟨w.heap.size, 1, none⟩ = some (.int .i64 bad2)) (first | exact hk2 | exact (blk_two_far hM4 (by omega) _ _).cells2 | go_keep) (first
    | (go_at_call 63; refine (same_any (g := g) (B := B) (l := l2) (bad := bad2) (A := A2) (c := c2) ?_).mono ?_; exact HR.out.drew; rintro e w4 ⟨rfl, hb4⟩; have hM4 := HM.out.drew.below hb4; have hk2 := hM4.cells2; obtain ⟨o0, o1, of0, of1⟩ := (HO.out.drew.below hb4).two))
  go_wp2_with fail
  have hw4 := (Wr.drew hr3).call hb4
  have hX := below_two (Below.refl (w.heap.size) w4) (g := w.heap.size + 1 + 1) (by omega) (.slice A2 l2.length c2) (.int .i64 bad2)
  have hsz := hw4.size
  refine bodyPost_ret (res_rb rfl rfl (g := w.heap.size + 1 + 1) (x := .slice A2 l2.length c2) (y := .int .i64 bad2) ((HO.out.drew.below hb4).set2 _ _)) rfl ⟨(l2, bad2), rv A2 l2.length c2 bad2, rfl, hlen, ⟨A2, c2, rfl, SlB.apart (w := w3.drew) hS3 hBd2 (Nat.le_refl C) ((hb4.mono (by have := hr3.size; simp; omega)).trans (hX.mono hC)), hBd2⟩, (IsR.below (w := w3.drew) HR.out hb4).apart hglt hB hX, wr_below hw4 (Nat.le_refl _) hX⟩

set_option maxRecDepth 100000 in
set_option maxHeartbeats 2000000 in
theorem act_5 {g B C bad : Nat} {l : List UInt8} {A : Option Addr} {c : Nat} {w : World} (kind most : Int) (n : Nat) (hR : IsR w g B (l, bad)) (hS : SlB w A c l) (hBd : l ≠ [] → ∀ ad, A = some ad → ad.block < C) (hB : B ≤ w.heap.size) (hC : C ≤ w.heap.size) (hCg : C ≤ g) (hk : u6 kind 5) :
    Calls Try.prog 64 #[.pointer (some ⟨g, 0, none⟩), rv A l.length c bad, .agg #[.int .i64 kind, .int .u64 n, .int .i64 most]] w (ActOut w g B C (l, bad)) := by
  have hglt := hR.lt
  unfold u6 at hk
  have hT : ∀ k : Int, ((IntKind.u64.wrap kind).tmod 6 == k) = (5 == k) := by rw [hk]; intro k; rfl
  have hQ : ∀ W, IsR W g B (l, bad) → Calls Try.prog 53 #[.pointer (some ⟨g, 0, none⟩), .iface 46 (.int .i64 13)] W fun e w' => e = .returned (.tuple #[]) ∧ IsR w' g B (rFail 13 (l, bad)) ∧ Wr W w' g := fun W h => Fail_any 13 h
  have hlen0 : l.length ≤ l.length := Nat.le_refl _
  have hw0 := bel_alloc (bel_alloc (below_new w (.cells #[.slice A l.length c, .int .i64 bad] 102)) (.cells #[.int .i64 kind, .int .u64 n, .int .i64 most] 105)) (.cells #[.slice none 0 0, .int .i64 0] 102)
  have hM := (((Blk.new w 102 #[.slice A l.length c, .int .i64 bad]).alloc (.cells #[.int .i64 kind, .int .u64 n, .int .i64 most] 105)).alloc (.cells #[.slice none 0 0, .int .i64 0] 102))
  have hO := (Blk.newAt (w := (w.alloc (.cells #[.slice A l.length c, .int .i64 bad] 102)).alloc (.cells #[.int .i64 kind, .int .u64 n, .int .i64 most] 105)) (g := w.heap.size + 1 + 1) (by simp) 102 #[.slice none 0 0, .int .i64 0])
  have HR0 := Lib.hid (hR.below hw0)
  have HM0 := Lib.hid hM
  have HO0 := Lib.hid hO
  have HQ := Lib.hid hQ
  have hS0 := hS.apart (C := C) hBd (Nat.le_refl _) (hw0.mono hC)
  rcases Decidable.em (bad = 0) with h0 | h0
  · subst h0
    have HF : Hid (rFail 13 (l, 0) = (l, 13)) := (show _ = _ by simp [rFail])
    have hlen : (l, 13).1.length ≤ (l, 0).1.length := Nat.le_refl _
    clear hQ hk hR hM hO
    go_enter Try.func64, Try.ntmps64
    go_wp2_with fail
    refine (HQ.out _ HR0.out).mono ?_
    rintro e w1 ⟨rfl, hR1, hr1⟩
    rw [HF.out] at hR1
    obtain ⟨m0, m1, mf0, mf1⟩ := (HM0.out.wr hr1 (by omega)).two
    go_wp2_with fail
    have hM3 := (HM0.out.wr hr1 (by omega)).set_ 1 (.int .i64 13)
    have hO3 := (HO0.out.wr hr1 (by omega)).far (p := ⟨w.heap.size, 1, none⟩) (by dsimp only; omega) (.int .i64 13)
    have hX := (Below.refl w.heap.size w1).setCell (p := ⟨w.heap.size, 1, none⟩) (Nat.le_refl _) (.int .i64 13)
    have hR3 := hR1.apart (C := w.heap.size) hglt hB hX
    have hr3 := wr_below (Wr.trans (Wr.of_below hw0) hr1) (Nat.le_refl _) hX
    have hS3 := hS0.apart hBd (Nat.le_refl C) ((hr1.below (B := C) (by simp; omega) hCg).trans (hX.mono hC))
    generalize w1.setCell ⟨w.heap.size, 1, none⟩ (.int .i64 13) = w3 at *
    simp only [List.setIfInBounds_toArray, List.set_cons_succ, List.set_cons_zero] at hM3
    clear hR1 hr1 m0 m1 mf0 mf1 HR0 HM0 HO0 hw0 hX hS0
    obtain ⟨m0, m1, mf0, mf1⟩ := hM3.two
    have HR := Lib.hid hR3
    have HM := Lib.hid hM3
    have HO := Lib.hid hO3
    go_region_held3 (fun W => W.cell? ⟨w.heap.size, 0, none⟩ = some (.slice A l.length c) ∧ W.cell? ⟨w.heap.size, 1, none⟩ = some (.int .i64 13)) (first | exact hk2 | exact (blk_two_far hM4 (by omega) _ _).cells2 | go_keep) (first
      | (go_at_call 63; refine (same_any (g := g) (B := B) (l := l) (bad := 13) (A := A) (c := c) ?_).mono ?_; exact HR.out.drew; rintro e w4 ⟨rfl, hb4⟩; have hM4 := HM.out.drew.below hb4; have hk2 := hM4.cells2; obtain ⟨o0, o1, of0, of1⟩ := (HO.out.drew.below hb4).two))
    go_wp2_with fail
    have hw4 := (Wr.drew hr3).call hb4
    have hX := below_two (Below.refl (w.heap.size) w4) (g := w.heap.size + 1 + 1) (by omega) (.slice A l.length c) (.int .i64 13)
    have hsz := hw4.size
    refine bodyPost_ret (res_rb rfl rfl (g := w.heap.size + 1 + 1) (x := .slice A l.length c) (y := .int .i64 13) ((HO.out.drew.below hb4).set2 _ _)) rfl ⟨(l, 13), rv A l.length c 13, rfl, hlen, ⟨A, c, rfl, SlB.apart (w := w3.drew) hS3 hBd (Nat.le_refl C) ((hb4.mono (by have := hr3.size; simp; omega)).trans (hX.mono hC)), hBd⟩, (IsR.below (w := w3.drew) HR.out hb4).apart hglt hB hX, wr_below hw4 (Nat.le_refl _) hX⟩
  · have hb : ((bad : Int) == 0) = false := by simp; omega
    have HF : Hid (rFail 13 (l, bad) = (l, bad)) := (show _ = _ by simp [rFail, h0])
    have hlen : (l, bad).1.length ≤ (l, bad).1.length := Nat.le_refl _
    clear hQ hk hR hM hO h0
    go_enter Try.func64, Try.ntmps64
    go_wp2_with fail
    refine (HQ.out _ HR0.out).mono ?_
    rintro e w3 ⟨rfl, hR3, hr1⟩
    rw [HF.out] at hR3
    have hM3 := (HM0.out.wr hr1 (by omega))
    have hO3 := (HO0.out.wr hr1 (by omega))
    obtain ⟨m0, m1, mf0, mf1⟩ := hM3.two
    go_wp2_with fail
    have hr3 := (Wr.trans (Wr.of_below hw0) hr1)
    have hS3 := hS0.apart hBd (Nat.le_refl C) ((hr1.below (B := C) (by simp; omega) hCg))
    clear hr1 m0 m1 mf0 mf1 HR0 HM0 HO0 hw0 hS0
    obtain ⟨m0, m1, mf0, mf1⟩ := hM3.two
    have HR := Lib.hid hR3
    have HM := Lib.hid hM3
    have HO := Lib.hid hO3
    go_region_held3 (fun W => W.cell? ⟨w.heap.size, 0, none⟩ = some (.slice A l.length c) ∧ W.cell? ⟨w.heap.size, 1, none⟩ = some (.int .i64 bad)) (first | exact hk2 | exact (blk_two_far hM4 (by omega) _ _).cells2 | go_keep) (first
      | (go_at_call 63; refine (same_any (g := g) (B := B) (l := l) (bad := bad) (A := A) (c := c) ?_).mono ?_; exact HR.out.drew; rintro e w4 ⟨rfl, hb4⟩; have hM4 := HM.out.drew.below hb4; have hk2 := hM4.cells2; obtain ⟨o0, o1, of0, of1⟩ := (HO.out.drew.below hb4).two))
    go_wp2_with fail
    have hw4 := (Wr.drew hr3).call hb4
    have hX := below_two (Below.refl (w.heap.size) w4) (g := w.heap.size + 1 + 1) (by omega) (.slice A l.length c) (.int .i64 bad)
    have hsz := hw4.size
    refine bodyPost_ret (res_rb rfl rfl (g := w.heap.size + 1 + 1) (x := .slice A l.length c) (y := .int .i64 bad) ((HO.out.drew.below hb4).set2 _ _)) rfl ⟨(l, bad), rv A l.length c bad, rfl, hlen, ⟨A, c, rfl, SlB.apart (w := w3.drew) hS3 hBd (Nat.le_refl C) ((hb4.mono (by have := hr3.size; simp; omega)).trans (hX.mono hC)), hBd⟩, (IsR.below (w := w3.drew) HR.out hb4).apart hglt hB hX, wr_below hw4 (Nat.le_refl _) hX⟩

theorem u6_cases (kind : Int) : u6 kind 0 ∨ u6 kind 1 ∨ u6 kind 2 ∨ u6 kind 3 ∨ u6 kind 4 ∨ u6 kind 5 := by
  unfold u6
  rw [IntKind.wrap_u64]
  have h : (0 : Int) ≤ kind % 18446744073709551616 := Int.emod_nonneg _ (by decide)
  rw [Int.tmod_eq_emod_of_nonneg h]
  omega
theorem act_any {g B C bad : Nat} {l : List UInt8} {A : Option Addr} {c : Nat} {w : World} (kind most : Int) (hm : -9223372036854775808 ≤ most ∧ most ≤ 9223372036854775807) (hl : l.length ≤ 1000000) (n : Nat) (hR : IsR w g B (l, bad)) (hS : SlB w A c l) (hBd : l ≠ [] → ∀ ad, A = some ad → ad.block < C) (hB : B ≤ w.heap.size) (hC : C ≤ w.heap.size) (hCg : C ≤ g) :
    Calls Try.prog 64 #[.pointer (some ⟨g, 0, none⟩), rv A l.length c bad, .agg #[.int .i64 kind, .int .u64 n, .int .i64 most]] w (ActOut w g B C (l, bad)) := by
  rcases u6_cases kind with h | h | h | h | h | h
  · exact act_0 kind most hm hl n hR hS hBd hB hC hCg h
  · exact act_1 kind most hm hl n hR hS hBd hB hC hCg h
  · exact act_2 kind most hm hl n hR hS hBd hB hC hCg h
  · exact act_3 kind most hm hl n hR hS hBd hB hC hCg h
  · exact act_4 kind most hm hl n hR hS hBd hB hC hCg h
  · exact act_5 kind most n hR hS hBd hB hC hCg h
end Go.Proofs.Ytjmekdldhnnneaa
