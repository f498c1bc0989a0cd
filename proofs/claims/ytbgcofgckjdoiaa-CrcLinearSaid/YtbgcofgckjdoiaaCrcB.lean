/- WHAT IT HOLDS: the law CrcLinear, walked. -/
import Derived.Test.YtbgcofgckjdoiaaCrcS
import Derived.Test.YtbgcofgckjdoiaaStep
import Derived.Deep.DrawnRows
namespace Go.Proofs.Ytbgcofgckjdoiaa
open Go.RowKit
attribute [local go_sem ↓] Go.wp_at_zero Go.wp_at_succ

theorem xor3_take {a b c : List UInt8} {k : Nat} (ha : k < a.length) (hb : k < b.length) (hc : k < c.length) : xor3 (a.take (k + 1)) (b.take (k + 1)) (c.take (k + 1)) = xor3 (a.take k) (b.take k) (c.take k) ++ [a[k] ^^^ b[k] ^^^ c[k]] := by
  induction k generalizing a b c with
  | zero =>
    cases a <;> cases b <;> cases c <;> first | rfl | (simp at ha; done) | (simp at hb; done) | (simp at hc; done)
  | succ k ih =>
    cases a with
    | nil => simp at ha
    | cons x a =>
      cases b with
      | nil => simp at hb
      | cons y b =>
        cases c with
        | nil => simp at hc
        | cons z c =>
          simp only [List.take_succ_cons, xor3, List.getElem_cons_succ, List.cons_append]
          rw [ih (by simpa using ha) (by simpa using hb) (by simpa using hc)]
theorem xor_byte (a b : UInt8) : bits .xor .u8 (a.toNat : Int) (b.toNat : Int) = ((a ^^^ b).toNat : Int) := by
  rw [xor_u8 a.toNat_lt b.toNat_lt, UInt8.toNat_xor]

theorem Sum_len (g n : Nat) (A : Option Addr) (c k : Nat) (l : List UInt8) (w : World) (hk : k = l.length) (hM : Mkr w g n) (hn : n < 1000000000) (hs : SlB w A c l) (hA : l ≠ [] → A.map (·.block) ≠ some g) (hl : l.length ≤ 1000000000) :
    Calls Try.prog 39 #[.pointer (some ⟨g, 0, none⟩), .slice A k c] w fun e w' => e = .returned (wv (sumW l)) ∧ Mkr w' g ((n + 1 : Nat) : Int) ∧ But g w w' := by
  subst hk; exact Sum_at g n A c l w hM hn hs hA hl
theorem CSt.drew {w W : World} {g n : Nat} {ls : List Pt} (h : CSt w g n ls W) : CSt w g n ls W.drew := ⟨h.mkr, h.bel.drew, h.sl⟩

set_option maxRecDepth 100000 in
set_option maxHeartbeats 4000000 in
theorem linear_walk {A B C : Option Addr} {ca cb cc : Nat} {a b c : List UInt8} (w : World) (ha : SlB w A ca a) (hb : SlB w B cb b) (hc : SlB w C cc c) (n : Nat) (hn : n = min a.length (min b.length c.length)) (h5 : n ≤ 500) :
    Calls Try.prog 5 #[.slice A a.length ca, .slice B b.length cb, .slice C c.length cc] w fun e w' => e = .returned (.bool true) ∧ Below w.heap.size w w' := by
  have hna : n ≤ a.length := by omega
  have hnb : n ≤ b.length := by omega
  have hnc : n ≤ c.length := by omega
  go_enter Try.func5, Try.ntmps5
  go_wp2_with fail
  refine (alive02_any _).mono ?_
  rintro e w1 ⟨rfl, hb1⟩
  go_upto_region 3 with fail
  go_cut [7] (fun s7 wx => s7 = .int .i64 n ∧ wx = w1)
  case first =>
    go_wp2_with fail
    all_goals (go_meet; exact ⟨by congr 1; first | omega | (rename_i q1 q2; split at q1 <;> omega) | (rename_i q1; split at q1 <;> omega), rfl⟩)
  case rest =>
    obtain ⟨rfl, rfl⟩ := hcut
    have h5' : ¬ (500 < (n : Int)) := by omega
    clear hn
    go_wp2_with fail
    have hA1 := ha.below hb1
    have hB1 := hb.below hb1
    have hC1 := hc.below hb1
    go_loopw [8, 9] (fun v i wr => ∃ (k : Nat) (E : Option Addr) (d : Nat) (m : List UInt8), k ≤ n ∧ i = .int .i64 k ∧ v = .slice E m.length d ∧ Hid (m = xor3 (a.take k) (b.take k) (c.take k)) ∧ Hid (m.length = k) ∧ OwnB wr wc.heap.size 5 E d m ∧ Below wc.heap.size wc wr) (fun v i w => n - (intOf i).toNat)
    case atStart => exact ⟨0, _, 0, [], Nat.zero_le _, rfl, rfl, rfl, rfl, Own.lit 1 (Nat.le_refl _), below_new _ _⟩
    case round =>
      obtain ⟨k, E, d, m, hk, rfl, rfl, hm, hml, hor, hbr⟩ := hrel
      by_cases hlt : k < n
      · have la : k < a.length := by omega
        have lb : k < b.length := by omega
        have lc : k < c.length := by omega
        obtain ⟨ad, rfl, ka⟩ := hA1.at1 la
        obtain ⟨bd, rfl, kb⟩ := hB1.at1 lb
        obtain ⟨cd, rfl, kc⟩ := hC1.at1 lc
        have hsn := Lib.hid (xor3_take la lb lc)
        generalize a[k] = x at *
        generalize b[k] = y at *
        generalize c[k] = z at *
        have e1 := xor_byte x y
        have e2 := xor_byte (x ^^^ y) z
        generalize x ^^^ y = p at *
        generalize p ^^^ z = q at *
        have H3 : wr.drew.cell? (ad.add k) = some (bv x) ∧ wr.drew.cell? (bd.add k) = some (bv y) ∧ wr.drew.cell? (cd.add k) = some (bv z) := ⟨keep_of_below hbr _ _ ka, keep_of_below hbr _ _ kb, keep_of_below hbr _ _ kc⟩
        go_wp2_with fail
        refine wp_region_held_drew (S := (fun W => W.cell? (ad.add k) = some (bv x) ∧ W.cell? (bd.add k) = some (bv y) ∧ W.cell? (cd.add k) = some (bv z))) (by kernel_rfl) ?_ (fun hHeld => ?_)
        · first | exact H3 | (obtain ⟨z0, z1, z2⟩ := H3; exact ⟨Lib.cell?_alloc_some _ z0, Lib.cell?_alloc_some _ z1, Lib.cell?_alloc_some _ z2⟩) | exact HK3
        refine wpAnyH_take (i := 0) (oi := ⟨some 28, _, _, _, _, _⟩) (v := ?_) rfl (by kernel_rfl) (by kernel_rfl) (by kernel_rfl) (fun _ _ _ h => h) (Or.inl ⟨by kernel_rfl, ?_⟩) (by assumption) ?_
        rotate_left
        · (intro wS hSw; (try dsimp only at hSw); obtain ⟨q0, q1, q2⟩ := hSw; go_simp; (try with_reducible rfl))
        (try simp only [Act.put, List.setIfInBounds_toArray, List.set_cons_zero, List.set_cons_succ])
        refine wpAnyH_take (i := 1) (oi := ⟨some 29, _, _, _, _, _⟩) (v := ?_) rfl (by kernel_rfl) (by kernel_rfl) (by kernel_rfl) (fun _ _ _ h => h) (Or.inl ⟨by kernel_rfl, ?_⟩) (by assumption) ?_
        rotate_left
        · (intro wS hSw; (try dsimp only at hSw); obtain ⟨q0, q1, q2⟩ := hSw; go_simp; (try with_reducible rfl))
        (try simp only [Act.put, List.setIfInBounds_toArray, List.set_cons_zero, List.set_cons_succ])
        refine wpAnyH_take (i := 2) (oi := ⟨some 30, _, _, _, _, _⟩) (v := ?_) rfl (by kernel_rfl) (by kernel_rfl) (by kernel_rfl) (fun _ _ _ h => h) (Or.inl ⟨by kernel_rfl, ?_⟩) (by assumption) ?_
        rotate_left
        · (intro wS hSw; (try dsimp only at hSw); obtain ⟨q0, q1, q2⟩ := hSw; go_simp; (try with_reducible rfl))
        (try simp only [Act.put, List.setIfInBounds_toArray, List.set_cons_zero, List.set_cons_succ])
        refine wpAnyH_take (i := 3) (oi := ⟨some 31, _, _, _, _, _⟩) (v := ?_) rfl (by kernel_rfl) (by kernel_rfl) (by kernel_rfl) (fun _ _ _ h => h) (Or.inl ⟨by kernel_rfl, ?_⟩) (by assumption) ?_
        rotate_left
        · (intro wS hSw; (try dsimp only at hSw); obtain ⟨q0, q1, q2⟩ := hSw; go_simp; (try with_reducible rfl))
        (try simp only [Act.put, List.setIfInBounds_toArray, List.set_cons_zero, List.set_cons_succ])
        refine wpAnyH_take (i := 4) (oi := ⟨some 32, _, _, _, _, _⟩) (v := ?_) rfl (by kernel_rfl) (by kernel_rfl) (by kernel_rfl) (fun _ _ _ h => h) (Or.inl ⟨by kernel_rfl, ?_⟩) (by assumption) ?_
        rotate_left
        · (intro wS hSw; (try dsimp only at hSw); obtain ⟨q0, q1, q2⟩ := hSw; go_simp; (try with_reducible rfl))
        (try simp only [Act.put, List.setIfInBounds_toArray, List.set_cons_zero, List.set_cons_succ])
        refine wpAnyH_take (i := 5) (oi := ⟨some 33, _, _, _, _, _⟩) (v := ?_) rfl (by kernel_rfl) (by kernel_rfl) (by kernel_rfl) (fun _ _ _ h => h) (Or.inl ⟨by kernel_rfl, ?_⟩) (by assumption) ?_
        rotate_left
        · (intro wS hSw; (try dsimp only at hSw); obtain ⟨q0, q1, q2⟩ := hSw; go_simp; (try with_reducible rfl))
        (try simp only [Act.put, List.setIfInBounds_toArray, List.set_cons_zero, List.set_cons_succ])
        refine wpAnyH_take (i := 6) (oi := ⟨some 34, _, _, _, _, _⟩) (v := ?_) rfl (by kernel_rfl) (by kernel_rfl) (by kernel_rfl) (fun _ _ _ h => h) (Or.inl ⟨by kernel_rfl, ?_⟩) (by assumption) ?_
        rotate_left
        · (intro wS hSw; (try dsimp only at hSw); obtain ⟨q0, q1, q2⟩ := hSw; go_simp; (try with_reducible rfl))
        (try simp only [Act.put, List.setIfInBounds_toArray, List.set_cons_zero, List.set_cons_succ])
        refine wpAnyH_take (i := 7) (oi := ⟨some 35, _, _, _, _, _⟩) (v := ?_) rfl (by kernel_rfl) (by kernel_rfl) (by kernel_rfl) (fun _ _ _ h => h) (Or.inl ⟨by kernel_rfl, ?_⟩) (by assumption) ?_
        rotate_left
        · (intro wS hSw; (try dsimp only at hSw); obtain ⟨q0, q1, q2⟩ := hSw; go_simp; (try with_reducible rfl))
        (try simp only [Act.put, List.setIfInBounds_toArray, List.set_cons_zero, List.set_cons_succ])
        refine wpAnyH_take (i := 8) (oi := ⟨some 36, _, _, _, _, _⟩) (v := ?_) rfl (by kernel_rfl) (by kernel_rfl) (by kernel_rfl) (fun _ _ _ h => h) (Or.inl ⟨by kernel_rfl, ?_⟩) (by assumption) ?_
        rotate_left
        · (intro wS hSw; (try dsimp only at hSw); obtain ⟨q0, q1, q2⟩ := hSw; go_simp; (try with_reducible rfl))
        (try simp only [Act.put, List.setIfInBounds_toArray, List.set_cons_zero, List.set_cons_succ])
        refine wpAnyH_take (i := 9) (oi := ⟨some 37, _, _, _, _, _⟩) (v := ?_) rfl (by kernel_rfl) (by kernel_rfl) (by kernel_rfl) (fun _ _ _ h => h) (Or.inl ⟨by kernel_rfl, ?_⟩) (by assumption) ?_
        rotate_left
        · (intro wS hSw; (try dsimp only at hSw); obtain ⟨q0, q1, q2⟩ := hSw; go_simp; (try with_reducible rfl))
        (try simp only [Act.put, List.setIfInBounds_toArray, List.set_cons_zero, List.set_cons_succ])
        refine wpAnyH_take (i := 10) (oi := ⟨some 38, _, _, _, _, _⟩) (v := ?_) rfl (by kernel_rfl) (by kernel_rfl) (by kernel_rfl) (fun _ _ _ h => h) (Or.inl ⟨by kernel_rfl, ?_⟩) (by assumption) ?_
        rotate_left
        · (intro wS hSw; (try dsimp only at hSw); obtain ⟨q0, q1, q2⟩ := hSw; go_simp; (try with_reducible rfl))
        (try simp only [Act.put, List.setIfInBounds_toArray, List.set_cons_zero, List.set_cons_succ])
        refine wpAnyH_take (i := 11) (oi := ⟨some 39, _, _, _, _, _⟩) (v := ?_) rfl (by kernel_rfl) (by kernel_rfl) (by kernel_rfl) (fun _ _ _ h => h) (Or.inl ⟨by kernel_rfl, ?_⟩) (by assumption) ?_
        rotate_left
        · (intro wS hSw; (try dsimp only at hSw); obtain ⟨q0, q1, q2⟩ := hSw; go_simp; (try with_reducible rfl))
        (try simp only [Act.put, List.setIfInBounds_toArray, List.set_cons_zero, List.set_cons_succ])
        refine wpAnyH_take (i := 12) (oi := ⟨some 40, _, _, _, _, _⟩) (v := ?_) rfl (by kernel_rfl) (by kernel_rfl) (by kernel_rfl) (fun _ _ _ h => h) (Or.inl ⟨by kernel_rfl, ?_⟩) (by assumption) ?_
        rotate_left
        · (intro wS hSw; (try dsimp only at hSw); obtain ⟨q0, q1, q2⟩ := hSw; go_simp; (try with_reducible rfl))
        (try simp only [Act.put, List.setIfInBounds_toArray, List.set_cons_zero, List.set_cons_succ])
        refine wpAnyH_take (i := 13) (oi := ⟨some 41, _, _, _, _, _⟩) (v := ?_) rfl (by kernel_rfl) (by kernel_rfl) (by kernel_rfl) (fun _ _ _ h => h) (Or.inl ⟨by kernel_rfl, ?_⟩) (by assumption) ?_
        rotate_left
        · (intro wS hSw; (try dsimp only at hSw); obtain ⟨q0, q1, q2⟩ := hSw; go_simp; (try with_reducible rfl))
        (try simp only [Act.put, List.setIfInBounds_toArray, List.set_cons_zero, List.set_cons_succ])
        refine wpAnyH_take (i := 14) (oi := ⟨some 42, _, _, _, _, _⟩) (v := ?_) rfl (by kernel_rfl) (by kernel_rfl) (by kernel_rfl) (fun _ _ _ h => h) (Or.inl ⟨by kernel_rfl, ?_⟩) (by assumption) ?_
        rotate_left
        · (intro wS hSw; (try dsimp only at hSw); obtain ⟨q0, q1, q2⟩ := hSw; go_simp; (try with_reducible rfl))
        (try simp only [Act.put, List.setIfInBounds_toArray, List.set_cons_zero, List.set_cons_succ])
        refine wpAnyH_ready (rs := [15]) (by kernel_rfl) (by simp) ?_
        refine AllReadyH.cons (o := ⟨some 43, _, _, _, _, _⟩) rfl (fun K hK => ?_) AllReadyH.nil
        go_simp
        refine hK.out _ _ ?_ (fun hHeld => ?_)
        · ((try dsimp only); (first | exact H3 | (obtain ⟨z0, z1, z2⟩ := H3; exact ⟨Lib.cell?_alloc_some _ z0, Lib.cell?_alloc_some _ z1, Lib.cell?_alloc_some _ z2⟩) | exact HK3))
        clear hK K
        (try simp only [Act.put, List.setIfInBounds_toArray, List.set_cons_zero, List.set_cons_succ])
        refine wpAnyH_ready (rs := [16]) (by kernel_rfl) (by simp) ?_
        refine AllReadyH.cons (o := ⟨some 44, _, _, _, _, _⟩) rfl (fun K hK => ?_) AllReadyH.nil
        (refine step_bytes 40 5 Try.underlying40 u8_info (by kernel_rfl) (.tmp 28) (.tmp 43) rfl wc.heap.size E d m rfl ?_ (some ⟨wr.heap.size, 0, none⟩) 1 1 [q] rfl rfl ?_ ?_ ?_ ?_; exact World.ownsRow.alloc hor _; exact Sl.one; (have := hml.out; simp; omega); (have := hbr.size; simp; omega); intro E2 d2 m2 w2 hm2 ho2 hb2; have hb2' : Below wc.heap.size wc w2 := (bel_alloc hbr.drew _).trans hb2; have HK3 : w2.cell? (ad.add k) = some (bv x) ∧ w2.cell? (bd.add k) = some (bv y) ∧ w2.cell? (cd.add k) = some (bv z) := ⟨keep_of_below hb2' _ _ ka, keep_of_below hb2' _ _ kb, keep_of_below hb2' _ _ kc⟩)
        refine hK.out _ _ ?_ (fun hHeld => ?_)
        · ((try dsimp only); (first | exact H3 | (obtain ⟨z0, z1, z2⟩ := H3; exact ⟨Lib.cell?_alloc_some _ z0, Lib.cell?_alloc_some _ z1, Lib.cell?_alloc_some _ z2⟩) | exact HK3))
        clear hK K
        (try simp only [Act.put, List.setIfInBounds_toArray, List.set_cons_zero, List.set_cons_succ])
        refine wpAnyH_take (i := 17) (oi := ⟨some 8, _, _, _, _, _⟩) (v := ?_) rfl (by kernel_rfl) (by kernel_rfl) (by kernel_rfl) (fun _ _ _ h => h) (Or.inl ⟨by kernel_rfl, ?_⟩) (by assumption) ?_
        rotate_left
        · (intro wS hSw; (try dsimp only at hSw); obtain ⟨q0, q1, q2⟩ := hSw; go_simp; (try with_reducible rfl))
        (try simp only [Act.put, List.setIfInBounds_toArray, List.set_cons_zero, List.set_cons_succ])
        refine wpAnyH_done (by kernel_rfl) ?_ _
        go_wp2_with fail
        go_roundw
        case rel => exact ⟨k + 1, E2, d2, m2, hlt, by go_num, rfl, (show _ = _ from by rw [hm2.out, hsn.out, hm.out]), (show _ = _ from by rw [hm2.out, List.length_append, hml.out]; rfl), ho2, hb2'⟩
        case measure => simp [intOf]; omega
      · obtain rfl : k = n := by omega
        have ho := hor
        go_wp2_with fail
        refine (New_any _).mono ?_
        rintro e w2 ⟨rfl, hM2, hb2⟩
        have hla : (a.take k).length = k := by simp; omega
        have hlb : (b.take k).length = k := by simp; omega
        have hlc : (c.take k).length = k := by simp; omega
        have hfin : sumW m = sumW (a.take k) ^^^ sumW (b.take k) ^^^ sumW (c.take k) := by rw [hm.out]; exact sum_xor3 (by rw [hla, hlb]) (by rw [hlb, hlc])
        have hg1 : wc.heap.size ≤ wr.heap.size := hbr.size
        have hgw : w.heap.size ≤ wr.heap.size := Nat.le_trans hb1.size hg1
        have hw2 : Below w.heap.size w w2 := bel_call (bel_call hb1 hbr) hb2
        have hS : CSt w wr.heap.size 0 [(A, ca, a.take k), (B, cb, b.take k), (C, cc, c.take k), (E, d, m)] w2 := by
          refine ⟨.inl hM2, hw2, fun q hq => ?_⟩
          simp only [List.mem_cons, List.not_mem_nil, or_false] at hq
          rcases hq with rfl | rfl | rfl | rfl
          · exact ⟨Sl.takeB (ha.below hw2) k, SlB.old (Sl.takeB ha k) hgw⟩
          · exact ⟨Sl.takeB (hb.below hw2) k, SlB.old (Sl.takeB hb k) hgw⟩
          · exact ⟨Sl.takeB (hc.below hw2) k, SlB.old (Sl.takeB hc k) hgw⟩
          · exact ⟨ho.sl.below hb2, SlB.old ho.sl (Nat.le_refl _)⟩
        have hca : k ≤ ca := Nat.le_trans hna ha.2.1
        have hcb : k ≤ cb := Nat.le_trans hnb hb.2.1
        have hcc : k ≤ cc := Nat.le_trans hnc hc.2.1
        have x1 := xor_wn (sumW (a.take k)) (sumW (b.take k))
        have x2 := xor_wn (sumW (a.take k) ^^^ sumW (b.take k)) (sumW (c.take k))
        have hcmp : (wn (sumW (a.take k) ^^^ sumW (b.take k) ^^^ sumW (c.take k)) == wn (sumW m)) = true := by rw [hfin]; simp
        have hmk := Lib.hid hml.out
        have HA := Lib.hid hla
        have HB := Lib.hid hlb
        have HC := Lib.hid hlc
        generalize a.take k = l1 at *
        generalize b.take k = l2 at *
        generalize c.take k = l3 at *
        generalize wr.heap.size = g at *
        clear hfin hla hlb hlc hor ho hm hb2 hw2 hM2 hA1 hB1 hC1 ha hb hc hb1 hbr hml
        have hS := hS.drew
        go_wp2_with fail
        refine wp_region_held_drew (S := (fun _ => True)) (by kernel_rfl) ?_ (fun hHeld => ?_)
        · first | done | trivial
        refine wpAnyH_take (i := 0) (oi := ⟨some 46, _, _, _, _, _⟩) (v := ?_) rfl (by kernel_rfl) (by kernel_rfl) (by kernel_rfl) (fun _ _ _ h => h) (Or.inl ⟨by kernel_rfl, ?_⟩) (by assumption) ?_
        rotate_left
        · (intro wS hSw; (try dsimp only at hSw); go_simp; (try with_reducible rfl))
        (try simp only [Act.put, List.setIfInBounds_toArray, List.set_cons_zero, List.set_cons_succ])
        refine wpAnyH_take (i := 1) (oi := ⟨some 47, _, _, _, _, _⟩) (v := ?_) rfl (by kernel_rfl) (by kernel_rfl) (by kernel_rfl) (fun _ _ _ h => h) (Or.inl ⟨by kernel_rfl, ?_⟩) (by assumption) ?_
        rotate_left
        · (intro wS hSw; (try dsimp only at hSw); go_simp; (try with_reducible rfl))
        (try simp only [Act.put, List.setIfInBounds_toArray, List.set_cons_zero, List.set_cons_succ])
        refine wpAnyH_take (i := 2) (oi := ⟨some 48, _, _, _, _, _⟩) (v := ?_) rfl (by kernel_rfl) (by kernel_rfl) (by kernel_rfl) (fun _ _ _ h => h) (Or.inl ⟨by kernel_rfl, ?_⟩) (by assumption) ?_
        rotate_left
        · (intro wS hSw; (try dsimp only at hSw); go_simp; (try with_reducible rfl))
        (try simp only [Act.put, List.setIfInBounds_toArray, List.set_cons_zero, List.set_cons_succ])
        refine wpAnyH_take (i := 3) (oi := ⟨some 49, _, _, _, _, _⟩) (v := ?_) rfl (by kernel_rfl) (by kernel_rfl) (by kernel_rfl) (fun _ _ _ h => h) (Or.inl ⟨by kernel_rfl, ?_⟩) (by assumption) ?_
        rotate_left
        · (intro wS hSw; (try dsimp only at hSw); go_simp; (try with_reducible rfl))
        (try simp only [Act.put, List.setIfInBounds_toArray, List.set_cons_zero, List.set_cons_succ])
        refine wpAnyH_take (i := 5) (oi := ⟨some 51, _, _, _, _, _⟩) (v := ?_) rfl (by kernel_rfl) (by kernel_rfl) (by kernel_rfl) (fun _ _ _ h => h) (Or.inl ⟨by kernel_rfl, ?_⟩) (by assumption) ?_
        rotate_left
        · (intro wS hSw; (try dsimp only at hSw); go_simp; (try with_reducible rfl))
        (try simp only [Act.put, List.setIfInBounds_toArray, List.set_cons_zero, List.set_cons_succ])
        refine wpAnyH_take (i := 6) (oi := ⟨some 52, _, _, _, _, _⟩) (v := ?_) rfl (by kernel_rfl) (by kernel_rfl) (by kernel_rfl) (fun _ _ _ h => h) (Or.inl ⟨by kernel_rfl, ?_⟩) (by assumption) ?_
        rotate_left
        · (intro wS hSw; (try dsimp only at hSw); go_simp; (try with_reducible rfl))
        (try simp only [Act.put, List.setIfInBounds_toArray, List.set_cons_zero, List.set_cons_succ])
        refine wpAnyH_take (i := 7) (oi := ⟨some 53, _, _, _, _, _⟩) (v := ?_) rfl (by kernel_rfl) (by kernel_rfl) (by kernel_rfl) (fun _ _ _ h => h) (Or.inl ⟨by kernel_rfl, ?_⟩) (by assumption) ?_
        rotate_left
        · (intro wS hSw; (try dsimp only at hSw); go_simp; (try with_reducible rfl))
        (try simp only [Act.put, List.setIfInBounds_toArray, List.set_cons_zero, List.set_cons_succ])
        refine wpAnyH_take (i := 8) (oi := ⟨some 54, _, _, _, _, _⟩) (v := ?_) rfl (by kernel_rfl) (by kernel_rfl) (by kernel_rfl) (fun _ _ _ h => h) (Or.inl ⟨by kernel_rfl, ?_⟩) (by assumption) ?_
        rotate_left
        · (intro wS hSw; (try dsimp only at hSw); go_simp; (try with_reducible rfl))
        (try simp only [Act.put, List.setIfInBounds_toArray, List.set_cons_zero, List.set_cons_succ])
        refine wpAnyH_take (i := 11) (oi := ⟨some 57, _, _, _, _, _⟩) (v := ?_) rfl (by kernel_rfl) (by kernel_rfl) (by kernel_rfl) (fun _ _ _ h => h) (Or.inl ⟨by kernel_rfl, ?_⟩) (by assumption) ?_
        rotate_left
        · (intro wS hSw; (try dsimp only at hSw); go_simp; (try with_reducible rfl))
        (try simp only [Act.put, List.setIfInBounds_toArray, List.set_cons_zero, List.set_cons_succ])
        refine wpAnyH_take (i := 12) (oi := ⟨some 58, _, _, _, _, _⟩) (v := ?_) rfl (by kernel_rfl) (by kernel_rfl) (by kernel_rfl) (fun _ _ _ h => h) (Or.inl ⟨by kernel_rfl, ?_⟩) (by assumption) ?_
        rotate_left
        · (intro wS hSw; (try dsimp only at hSw); go_simp; (try with_reducible rfl))
        (try simp only [Act.put, List.setIfInBounds_toArray, List.set_cons_zero, List.set_cons_succ])
        refine wpAnyH_take (i := 13) (oi := ⟨some 59, _, _, _, _, _⟩) (v := ?_) rfl (by kernel_rfl) (by kernel_rfl) (by kernel_rfl) (fun _ _ _ h => h) (Or.inl ⟨by kernel_rfl, ?_⟩) (by assumption) ?_
        rotate_left
        · (intro wS hSw; (try dsimp only at hSw); go_simp; (try with_reducible rfl))
        (try simp only [Act.put, List.setIfInBounds_toArray, List.set_cons_zero, List.set_cons_succ])
        refine wpAnyH_take (i := 14) (oi := ⟨some 60, _, _, _, _, _⟩) (v := ?_) rfl (by kernel_rfl) (by kernel_rfl) (by kernel_rfl) (fun _ _ _ h => h) (Or.inl ⟨by kernel_rfl, ?_⟩) (by assumption) ?_
        rotate_left
        · (intro wS hSw; (try dsimp only at hSw); go_simp; (try with_reducible rfl))
        (try simp only [Act.put, List.setIfInBounds_toArray, List.set_cons_zero, List.set_cons_succ])
        refine wpAnyH_take (i := 17) (oi := ⟨some 63, _, _, _, _, _⟩) (v := ?_) rfl (by kernel_rfl) (by kernel_rfl) (by kernel_rfl) (fun _ _ _ h => h) (Or.inl ⟨by kernel_rfl, ?_⟩) (by assumption) ?_
        rotate_left
        · (intro wS hSw; (try dsimp only at hSw); go_simp; (try with_reducible rfl))
        (try simp only [Act.put, List.setIfInBounds_toArray, List.set_cons_zero, List.set_cons_succ])
        refine wpAnyH_take (i := 18) (oi := ⟨some 64, _, _, _, _, _⟩) (v := ?_) rfl (by kernel_rfl) (by kernel_rfl) (by kernel_rfl) (fun _ _ _ h => h) (Or.inl ⟨by kernel_rfl, ?_⟩) (by assumption) ?_
        rotate_left
        · (intro wS hSw; (try dsimp only at hSw); go_simp; (try with_reducible rfl))
        (try simp only [Act.put, List.setIfInBounds_toArray, List.set_cons_zero, List.set_cons_succ])
        refine wpAnyH_ready (rs := [4]) (by kernel_rfl) (by simp) ?_
        refine AllReadyH.cons (o := ⟨some 50, _, _, _, _, _⟩) rfl (fun K hK => ?_) AllReadyH.nil
        go_simp
        ((first | (with_reducible refine (Sum_len g _ E d m.length m _ rfl hS.mkr (by omega) (hS.at (by simp)) (hS.ne (c := d) (by simp)) (by have := hmk.out; omega)).mono ?_) | (with_reducible refine (Sum_len g _ A ca k l1 _ HA.out.symm hS.mkr (by omega) (hS.at (by simp)) (hS.ne (c := ca) (by simp)) (by have := HA.out; omega)).mono ?_) | (with_reducible refine (Sum_len g _ B cb k l2 _ HB.out.symm hS.mkr (by omega) (hS.at (by simp)) (hS.ne (c := cb) (by simp)) (by have := HB.out; omega)).mono ?_) | (with_reducible refine (Sum_len g _ C cc k l3 _ HC.out.symm hS.mkr (by omega) (hS.at (by simp)) (hS.ne (c := cc) (by simp)) (by have := HC.out; omega)).mono ?_)); rintro e w9 ⟨rfl, hM9, hB9⟩; replace hS := hS.but hgw hM9 hB9)
        go_wp2_with fail
        refine hK.out _ _ ?_ (fun hHeld => ?_)
        · ((try dsimp only); (first | done | trivial))
        clear hK K
        (try simp only [Act.put, List.setIfInBounds_toArray, List.set_cons_zero, List.set_cons_succ])
        refine wpAnyH_ready (rs := [9]) (by kernel_rfl) (by simp) ?_
        refine AllReadyH.cons (o := ⟨some 55, _, _, _, _, _⟩) rfl (fun K hK => ?_) AllReadyH.nil
        go_simp
        ((first | (with_reducible refine (Sum_len g _ E d m.length m _ rfl hS.mkr (by omega) (hS.at (by simp)) (hS.ne (c := d) (by simp)) (by have := hmk.out; omega)).mono ?_) | (with_reducible refine (Sum_len g _ A ca k l1 _ HA.out.symm hS.mkr (by omega) (hS.at (by simp)) (hS.ne (c := ca) (by simp)) (by have := HA.out; omega)).mono ?_) | (with_reducible refine (Sum_len g _ B cb k l2 _ HB.out.symm hS.mkr (by omega) (hS.at (by simp)) (hS.ne (c := cb) (by simp)) (by have := HB.out; omega)).mono ?_) | (with_reducible refine (Sum_len g _ C cc k l3 _ HC.out.symm hS.mkr (by omega) (hS.at (by simp)) (hS.ne (c := cc) (by simp)) (by have := HC.out; omega)).mono ?_)); rintro e w9 ⟨rfl, hM9, hB9⟩; replace hS := hS.but hgw hM9 hB9)
        go_wp2_with fail
        refine hK.out _ _ ?_ (fun hHeld => ?_)
        · ((try dsimp only); (first | done | trivial))
        clear hK K
        (try simp only [Act.put, List.setIfInBounds_toArray, List.set_cons_zero, List.set_cons_succ])
        refine wpAnyH_take (i := 10) (oi := ⟨some 56, _, _, _, _, _⟩) (v := ?_) rfl (by kernel_rfl) (by kernel_rfl) (by kernel_rfl) (fun _ _ _ h => h) (Or.inl ⟨by kernel_rfl, ?_⟩) (by assumption) ?_
        rotate_left
        · (intro wS hSw; (try dsimp only at hSw); go_simp; (try with_reducible rfl))
        (try simp only [Act.put, List.setIfInBounds_toArray, List.set_cons_zero, List.set_cons_succ])
        refine wpAnyH_ready (rs := [15]) (by kernel_rfl) (by simp) ?_
        refine AllReadyH.cons (o := ⟨some 61, _, _, _, _, _⟩) rfl (fun K hK => ?_) AllReadyH.nil
        go_simp
        ((first | (with_reducible refine (Sum_len g _ E d m.length m _ rfl hS.mkr (by omega) (hS.at (by simp)) (hS.ne (c := d) (by simp)) (by have := hmk.out; omega)).mono ?_) | (with_reducible refine (Sum_len g _ A ca k l1 _ HA.out.symm hS.mkr (by omega) (hS.at (by simp)) (hS.ne (c := ca) (by simp)) (by have := HA.out; omega)).mono ?_) | (with_reducible refine (Sum_len g _ B cb k l2 _ HB.out.symm hS.mkr (by omega) (hS.at (by simp)) (hS.ne (c := cb) (by simp)) (by have := HB.out; omega)).mono ?_) | (with_reducible refine (Sum_len g _ C cc k l3 _ HC.out.symm hS.mkr (by omega) (hS.at (by simp)) (hS.ne (c := cc) (by simp)) (by have := HC.out; omega)).mono ?_)); rintro e w9 ⟨rfl, hM9, hB9⟩; replace hS := hS.but hgw hM9 hB9)
        go_wp2_with fail
        refine hK.out _ _ ?_ (fun hHeld => ?_)
        · ((try dsimp only); (first | done | trivial))
        clear hK K
        (try simp only [Act.put, List.setIfInBounds_toArray, List.set_cons_zero, List.set_cons_succ])
        refine wpAnyH_take (i := 16) (oi := ⟨some 62, _, _, _, _, _⟩) (v := ?_) rfl (by kernel_rfl) (by kernel_rfl) (by kernel_rfl) (fun _ _ _ h => h) (Or.inl ⟨by kernel_rfl, ?_⟩) (by assumption) ?_
        rotate_left
        · (intro wS hSw; (try dsimp only at hSw); go_simp; (try with_reducible rfl))
        (try simp only [Act.put, List.setIfInBounds_toArray, List.set_cons_zero, List.set_cons_succ])
        refine wpAnyH_ready (rs := [19]) (by kernel_rfl) (by simp) ?_
        refine AllReadyH.cons (o := ⟨some 65, _, _, _, _, _⟩) rfl (fun K hK => ?_) AllReadyH.nil
        go_simp
        ((first | (with_reducible refine (Sum_len g _ E d m.length m _ rfl hS.mkr (by omega) (hS.at (by simp)) (hS.ne (c := d) (by simp)) (by have := hmk.out; omega)).mono ?_) | (with_reducible refine (Sum_len g _ A ca k l1 _ HA.out.symm hS.mkr (by omega) (hS.at (by simp)) (hS.ne (c := ca) (by simp)) (by have := HA.out; omega)).mono ?_) | (with_reducible refine (Sum_len g _ B cb k l2 _ HB.out.symm hS.mkr (by omega) (hS.at (by simp)) (hS.ne (c := cb) (by simp)) (by have := HB.out; omega)).mono ?_) | (with_reducible refine (Sum_len g _ C cc k l3 _ HC.out.symm hS.mkr (by omega) (hS.at (by simp)) (hS.ne (c := cc) (by simp)) (by have := HC.out; omega)).mono ?_)); rintro e w9 ⟨rfl, hM9, hB9⟩; replace hS := hS.but hgw hM9 hB9)
        go_wp2_with fail
        refine hK.out _ _ ?_ (fun hHeld => ?_)
        · ((try dsimp only); (first | done | trivial))
        clear hK K
        (try simp only [Act.put, List.setIfInBounds_toArray, List.set_cons_zero, List.set_cons_succ])
        refine wpAnyH_take (i := 20) (oi := ⟨some 66, _, _, _, _, _⟩) (v := ?_) rfl (by kernel_rfl) (by kernel_rfl) (by kernel_rfl) (fun _ _ _ h => h) (Or.inl ⟨by kernel_rfl, ?_⟩) (by assumption) ?_
        rotate_left
        · (intro wS hSw; (try dsimp only at hSw); go_simp; (try with_reducible rfl))
        (try simp only [Act.put, List.setIfInBounds_toArray, List.set_cons_zero, List.set_cons_succ])
        refine wpAnyH_take (i := 21) (oi := ⟨some 6, _, _, _, _, _⟩) (v := ?_) rfl (by kernel_rfl) (by kernel_rfl) (by kernel_rfl) (fun _ _ _ h => h) (Or.inl ⟨by kernel_rfl, ?_⟩) (by assumption) ?_
        rotate_left
        · (intro wS hSw; (try dsimp only at hSw); go_simp; (try with_reducible rfl))
        (try simp only [Act.put, List.setIfInBounds_toArray, List.set_cons_zero, List.set_cons_succ])
        refine wpAnyH_done (by kernel_rfl) ?_ _
        go_wp2_with fail
        go_ret
        exact ⟨rfl, hS.bel⟩

theorem linear_early {A B C : Option Addr} {ca cb cc : Nat} {a b c : List UInt8} (w : World) (n : Nat) (hn : n = min a.length (min b.length c.length)) (h5 : 500 < n) :
    Calls Try.prog 5 #[.slice A a.length ca, .slice B b.length cb, .slice C c.length cc] w fun e w' => e = .returned (.bool true) ∧ Below w.heap.size w w' := by
  go_enter Try.func5, Try.ntmps5
  go_wp2_with fail
  refine (alive02_any _).mono ?_
  rintro e w1 ⟨rfl, hb1⟩
  go_upto_region 3 with fail
  go_cut [7] (fun s7 wx => s7 = .int .i64 n ∧ wx = w1)
  case first =>
    go_wp2_with fail
    all_goals (go_meet; exact ⟨by congr 1; first | omega | (rename_i q1 q2; split at q1 <;> omega) | (rename_i q1; split at q1 <;> omega), rfl⟩)
  case rest =>
    obtain ⟨rfl, rfl⟩ := hcut
    have h5' : 500 < (n : Int) := by omega
    clear hn
    go_wp2_with fail
    go_ret
    exact ⟨rfl, hb1⟩
theorem linear_all {A B C : Option Addr} {ca cb cc : Nat} {a b c : List UInt8} (w : World) (ha : SlB w A ca a) (hb : SlB w B cb b) (hc : SlB w C cc c) :
    Calls Try.prog 5 #[.slice A a.length ca, .slice B b.length cb, .slice C c.length cc] w fun e w' => e = .returned (.bool true) ∧ Below w.heap.size w w' := by
  by_cases h : 500 < min a.length (min b.length c.length)
  · exact linear_early w _ rfl h
  · exact linear_walk w ha hb hc _ rfl (by omega)
end Go.Proofs.Ytbgcofgckjdoiaa
