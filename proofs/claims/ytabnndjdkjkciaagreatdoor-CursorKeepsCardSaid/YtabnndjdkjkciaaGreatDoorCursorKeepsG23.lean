/- WHAT IT HOLDS: cursor.Take, walked, for all bytes. -/
import Derived.Test.YtabnndjdkjkciaaGreatDoorCursorKeepsG20
import Derived.Test.YtabnndjdkjkciaaGreatDoorCursorKeepsG08
namespace Go.Proofs.YtabnndjdkjkciaaGreatDoor
open Go.RowKit
attribute [local go_sem ↓] Go.wp_at_zero Go.wp_at_succ

theorem wpl_lit1 {w : World} {ops : Array Oper} {rest : List Oper} {o : Oper} {a : Act} {Q : Exit → Act → World → Prop} (hgd : Region.wanted o (yielded ops a.tmps) = true) (x : Operand) (ho : o.op = .buildSlice 55 1 #[(0, x)])
    (p : Pt5) (hx : a.eval x = .agg (pta p)) (h : wpList Tryz.prog ops Q rest (a.put o.dst (.slice (some ⟨w.heap.size, 0, none⟩) 1 1)) (w.alloc (.cells (pta p) 28))) : wpList Tryz.prog ops Q (o :: rest) a w :=
  wpList_step fun _ hK => step_lit1 hgd x ho p hx (hK _ _ h)
/-- a cursor, and an error's number -/
def GivesCr (w0 : World) (r : Cur × Nat) (e : Ending) (w' : World) : Prop :=
  ∃ A c m, e = .returned (.tuple #[crv r.1.1 r.1.2.1 r.1.2.2.1 r.1.2.2.2.1 A (List.length m) c, errv r.2]) ∧ Hid (m = r.1.2.2.2.2) ∧ OwnP w' w0.heap.size A c m ∧ Below w0.heap.size w0 w'
theorem IsR.set {w : World} {g B k i : Nat} {s : List UInt8 × Nat} (h : IsR w g B s) (hk : k ≠ g) (hB : B ≤ k) (v : Value) : IsR (w.setCell ⟨k, i, none⟩ v) g B s := by
  obtain ⟨A, c, h1, h2, h3⟩ := h
  refine ⟨A, c, h1.far (by dsimp only; omega) v, ⟨h2.1, h2.2.1, h2.2.2.1, h2.2.2.2.1, fun j u hj => ?_⟩, h3⟩
  obtain ⟨ad, hA, hc⟩ := h2.2.2.2.2 j u hj
  have hne : s.1 ≠ [] := by rintro e; rw [e] at hj; simp at hj
  have hlt := h3 hne ad hA
  exact ⟨ad, hA, by rw [← hc]; exact World.cell?_setCell_far _ _ _ _ (by rw [addr_add_block]; dsimp only; omega)⟩
abbrev crz : Array Value := #[.int .i64 0, .int .i64 0, .int .i64 0, .int .i64 0, .slice none 0 0]
theorem rPart_first (f : Int) (s : List UInt8 × Nat) : (rPart f s).1.1 = f := rfl
theorem rPart_many (f : Int) (s : List UInt8 × Nat) : (rPart f s).1.2.1 = ((rWithin 64 s).1 : Nat) := rfl
theorem rWithin_le (n : Nat) (s : List UInt8 × Nat) : (rWithin n s).1 ≤ n := by
  unfold rWithin
  split
  · exact Nat.zero_le _
  · rename_i h
    omega
theorem pend_snoc : ∀ (l : List Pt5) (a : Int) (p : Pt5), pend a (l ++ [p]) = pend a l + p.2.1
  | [], _, _ => rfl
  | q :: r, a, p => pend_snoc r (a + q.2.1) p
theorem crLoop_bd (s : List UInt8 × Nat) (a : Int) : ∀ k, a ≤ pend a (crLoop k a s).1 ∧ pend a (crLoop k a s).1 ≤ a + 64 * k
  | 0 => by simp [crLoop, pend]
  | k + 1 => by
    have ih := crLoop_bd s a k
    rw [crLoop_succ]
    dsimp only
    rw [pend_snoc, rPart_many]
    have := rWithin_le 64 (crLoop k a s).2
    omega
theorem Number_s {g B : Nat} {s : List UInt8 × Nat} {w : World} (hR : IsR w g B s) :
    Calls Tryz.prog 57 #[.pointer (some ⟨g, 0, none⟩)] w fun e w' => e = .returned (.int .u64 ((rNum s).1 : Nat)) ∧ IsR w' g B (rNum s).2 ∧ Wr w w' g := by obtain ⟨l, b⟩ := s; exact Number_any hR
theorem Fail_s {g B : Nat} {s : List UInt8 × Nat} {w : World} (k : Nat) (hR : IsR w g B s) :
    Calls Tryz.prog 58 #[.pointer (some ⟨g, 0, none⟩), errv k] w fun e w' => e = .returned (.tuple #[]) ∧ IsR w' g B (rFail k s) ∧ Wr w w' g := by obtain ⟨l, b⟩ := s; exact Fail_any k hR
theorem TkAddr_eq {w : World} {g B n : Nat} {s s' : List UInt8 × Nat} (he : rWithin 1048576 s = (n, s')) (hR : IsR w g B s) : Calls Tryz.prog 140 #[.agg #[.pointer (some ⟨g, 0, none⟩)]] w fun e w' => e = .returned (.int .i64 (n : Nat)) ∧ IsR w' g B s' ∧ Wr w w' g := by
  have h := TkAddr_any hR
  rw [he] at h
  exact h
theorem End_s18 {g B : Nat} {s : List UInt8 × Nat} {w : World} (hR : IsR w g B s) : Calls Tryz.prog 60 #[.pointer (some ⟨g, 0, none⟩)] w fun e w' => e = .returned (errv (rEnd s)) ∧ w = w' := by obtain ⟨l, b⟩ := s; exact End_any hR
theorem wr5 (W : World) (k : Nat) (x y z u v : Value) : Wr W (((((W.setCell ⟨k, 0, none⟩ x).setCell ⟨k, 1, none⟩ y).setCell ⟨k, 2, none⟩ z).setCell ⟨k, 3, none⟩ u).setCell ⟨k, 4, none⟩ v) k := (((((Wr.refl W k).set_ 0 x).set_ 1 y).set_ 2 z).set_ 3 u).set_ 4 v
theorem foneLen (b : List UInt8) : (fone b).1.length ≤ b.length := by
  unfold fone
  split
  · simp
  · split
    · simp
    · unfold ftake
      split
      · simp
      · split
        · simp
        · split
          · simp
          · split
            · simp only [List.length_drop, List.length_take]; omega
            · simp
theorem crRead_eq {s s1 s2 s3 s4 s5 s6 : List UInt8 × Nat} {f nx tt q n : Nat} (h1 : rWithin 1048576 s = (f, s1)) (h2 : rWithin 1048576 s1 = (nx, s2)) (h3 : rWithin 1048576 s2 = (tt, s3)) (h4 : rWithin 1048576 s3 = (q, s4)) (h5 : rNum s4 = (n, s5)) (h6 : (if 1024 < n then rFail 3 s5 else s5) = s6) :
    crRead s = (((f : Int), (nx : Int), (tt : Int), (q : Int), (crLoop (min n 1024) f s6).1), (crLoop (min n 1024) f s6).2) := by
  unfold crRead
  simp only [h1, h2, h3, h4, h5, h6]
theorem crEnd_1 {x : Cur × (List UInt8 × Nat)} (h : rEnd x.2 ≠ 0) : crEnd x = ((0, 0, 0, 0, []), rEnd x.2) := by unfold crEnd; rw [if_pos h]
theorem crEnd_2 {x : Cur × (List UInt8 × Nat)} (h : rEnd x.2 = 0) (h2 : crchk x.1 ≠ 0) : crEnd x = ((0, 0, 0, 0, []), crchk x.1) := by unfold crEnd; rw [if_neg (by omega), if_pos h2]
theorem crEnd_3 {x : Cur × (List UInt8 × Nat)} (h : rEnd x.2 = 0) (h2 : crchk x.1 = 0) : crEnd x = (x.1, 0) := by unfold crEnd; rw [if_neg (by omega), if_neg (by omega)]
theorem rFail_fst18 (k : Nat) (s : List UInt8 × Nat) : (rFail k s).1 = s.1 := by unfold rFail; split <;> rfl
theorem crLoop_I : ∀ (k : Nat) (a : Int) (s : List UInt8 × Nat), 0 ≤ a → a + 64 * k ≤ 1000000000 → PtsI (crLoop k a s).1
  | 0, _, _, _, _ => fun p hp => by cases hp
  | k + 1, a, s, h0, h1 => fun p hp => by
    have hl := rWithin_le 64 s
    have hl2 := rWithin_le 65536 (rWithin 64 s).2
    rcases List.mem_cons.1 (show p ∈ (rPart a s).1 :: (crLoop k (a + (rPart a s).1.2.1) (rPart a s).2).1 from hp) with rfl | hp
    · refine ⟨?_, ?_, ?_⟩
      · rw [rPart_first]; unfold I64; omega
      · rw [rPart_many]; unfold I64; omega
      · show I64 (((rWithin 65536 (rWithin 64 s).2).1 : Nat) : Int); unfold I64; omega
    · exact crLoop_I k _ _ (by rw [rPart_many]; omega) (by rw [rPart_many]; omega) p hp
theorem wr1 (W : World) (k i : Nat) (x : Value) : Wr W (W.setCell ⟨k, i, none⟩ x) k := (Wr.refl W k).set_ i x
set_option maxRecDepth 100000 in
set_option maxHeartbeats 4000000 in
theorem CTake_any (A : Option Addr) (c : Nat) (b : List UInt8) (w : World) (hs : SlB w A c b) (hl : b.length ≤ 1000000) :
    Calls Tryz.prog 68 #[.slice A b.length c] w (GivesCr w (crTake b)) := by
  have hM := (Mm.start w).alloc crz 72
  have hfl := foneLen b
  go_enter Tryz.func68, Tryz.ntmps68
  go_wp2_with fail
  refine (FOne_any A c b _ (hs.below hM.bel) (by omega)).mono ?_
  rintro e w1 ⟨A1, c1, m1, rfl, hm1, hs1, hb1⟩
  replace hM := hM.call hb1
  clear hb1
  rcases errv_cases (fone b).2 with ⟨h0, hev⟩ | ⟨k, hk, hke, hev⟩
  · have HT0 := Lib.hid (show crTake b = crEnd (crRead (m1, 0)) from by unfold crTake; rw [if_neg (by omega), hm1.out])
    have hm1l : m1.length ≤ 1000000 := by rw [hm1.out]; omega
    rw [hev]
    clear hev h0 hfl hm1
    go_wp2_with fail
    refine (RNew_any A1 c1 m1 _ hs1).mono ?_
    rintro e w2 ⟨g, rfl, hg, hR, hb2⟩
    have hM2 := hM.callAdd hb2 (a := some g) (fun k hk => by injection hk with hk; subst hk; exact ⟨hg, hR.lt⟩)
    have hB0 : w.heap.size < w1.heap.size := hM.b0.lt
    have hB2 := hb2.size
    obtain ⟨f, s1, h1⟩ : ∃ n s, rWithin 1048576 (m1, 0) = (n, s) := ⟨_, _, rfl⟩
    obtain ⟨nx, s2, h2⟩ : ∃ n s, rWithin 1048576 s1 = (n, s) := ⟨_, _, rfl⟩
    obtain ⟨tt, s3, h3⟩ : ∃ n s, rWithin 1048576 s2 = (n, s) := ⟨_, _, rfl⟩
    obtain ⟨q, s4, h4⟩ : ∃ n s, rWithin 1048576 s3 = (n, s) := ⟨_, _, rfl⟩
    have hfb : f ≤ 1048576 := by have := rWithin_le 1048576 (m1, 0); rw [h1] at this; exact this
    have H1 := Lib.hid h1
    have H2 := Lib.hid h2
    have H3 := Lib.hid h3
    have H4 := Lib.hid h4
    clear h1 h2 h3 h4 hM hb2 hs1
    generalize w1.heap.size = B at *
    go_upto_region 5 with (fail)
    have hM3 := (hM2.alloc #[.pointer (some ⟨g, 0, none⟩)] 232).drew
    have hR5 := (hR.alloc (.cells #[.pointer (some ⟨g, 0, none⟩)] 232)).drew
    have hgg : g < w2.heap.size := hR.lt
    clear hR hM2
    generalize w2.heap.size = gt at *
    go_cut [7] (fun s7 wz => ∃ gc, s7 = .pointer (some ⟨gc, 0, none⟩) ∧ Mm w wz [(gt, 232, #[.pointer (some ⟨g, 0, none⟩)]), (w.heap.size, 72, crz)] [some g] ∧ IsR wz g B s4 ∧ Blk wz gc 72 #[.int .i64 (f : Nat), .int .i64 (nx : Nat), .int .i64 (tt : Nat), .int .i64 (q : Nat), .slice none 0 0] ∧ gt < gc)
    case first =>
      --#run
      refine wp_region_held_drew (S := (fun W => Mm w W [(gt, 232, #[.pointer (some ⟨g, 0, none⟩)]), (w.heap.size, 72, crz)] [some g])) (by kernel_rfl) ?_ (fun hHeld => ?_)
      · exact hM3
      refine gen0 (T := fun W => ((fun W => Mm w W [(gt, 232, #[.pointer (some ⟨g, 0, none⟩)]), (w.heap.size, 72, crz)] [some g])) W ∧ IsR W g B (m1, 0) ∧ True) ?_ (fun wq1 hT => ?_)
      · exact ⟨by (with_reducible exact hM3), by (with_reducible assumption), trivial⟩
      (try clear f0 f1 f2 f3 f4 f5 f6 f7 f8 f9 f10 f11)
      obtain ⟨hHeld, f0, -⟩ := hT
      refine wpAnyH_take (i := 0) (oi := ⟨some 25, _, _, _, _, _⟩) (v := ?_) rfl (by kernel_rfl) (by kernel_rfl) (by kernel_rfl) (fun _ _ _ h => h) (Or.inl ⟨by kernel_rfl, ?_⟩) (by assumption) ?_
      rotate_left
      · (intro wS hSw; (try dsimp only at hSw); have q0 := hSw.b0.cell 0; clear hSw; go_simp; (try with_reducible rfl))
      (try simp only [Act.put, List.setIfInBounds_toArray, List.set_cons_zero, List.set_cons_succ])
      refine wpAnyH_take (i := 2) (oi := ⟨some 27, _, _, _, _, _⟩) (v := ?_) rfl (by kernel_rfl) (by kernel_rfl) (by kernel_rfl) (fun _ _ _ h => h) (Or.inl ⟨by kernel_rfl, ?_⟩) (by assumption) ?_
      rotate_left
      · (intro wS hSw; (try dsimp only at hSw); have q0 := hSw.b0.cell 0; clear hSw; go_simp; (try with_reducible rfl))
      (try simp only [Act.put, List.setIfInBounds_toArray, List.set_cons_zero, List.set_cons_succ])
      refine wpAnyH_take (i := 4) (oi := ⟨some 29, _, _, _, _, _⟩) (v := ?_) rfl (by kernel_rfl) (by kernel_rfl) (by kernel_rfl) (fun _ _ _ h => h) (Or.inl ⟨by kernel_rfl, ?_⟩) (by assumption) ?_
      rotate_left
      · (intro wS hSw; (try dsimp only at hSw); have q0 := hSw.b0.cell 0; clear hSw; go_simp; (try with_reducible rfl))
      (try simp only [Act.put, List.setIfInBounds_toArray, List.set_cons_zero, List.set_cons_succ])
      refine wpAnyH_take (i := 6) (oi := ⟨some 31, _, _, _, _, _⟩) (v := ?_) rfl (by kernel_rfl) (by kernel_rfl) (by kernel_rfl) (fun _ _ _ h => h) (Or.inl ⟨by kernel_rfl, ?_⟩) (by assumption) ?_
      rotate_left
      · (intro wS hSw; (try dsimp only at hSw); have q0 := hSw.b0.cell 0; clear hSw; go_simp; (try with_reducible rfl))
      (try simp only [Act.put, List.setIfInBounds_toArray, List.set_cons_zero, List.set_cons_succ])
      refine wpAnyH_ready (rs := [1, 9]) (by kernel_rfl) (by simp) ?_
      refine AllReadyH.cons (o := ⟨some 26, _, _, _, _, _⟩) rfl (fun K hK => ?_) ?_
      · go_simp
        (refine (TkAddr_eq H1.out f0).mono ?_); (rintro e w9 ⟨rfl, hR9, hr9⟩)
        go_wp2_with fail
        refine hK.out _ _ ?_ (fun _ => ?_)
        · ((try dsimp only); (with_reducible exact hHeld.wr hr9 (List.mem_cons_self ..) (by omega)))
        clear hK K
        (try simp only [Act.put, List.setIfInBounds_toArray, List.set_cons_zero, List.set_cons_succ])
        refine gen0 (T := fun W => ((fun W => Mm w W [(gt, 232, #[.pointer (some ⟨g, 0, none⟩)]), (w.heap.size, 72, crz)] [some g])) W ∧ IsR W g B s1 ∧ True) ?_ (fun wq2 hT => ?_)
        · exact ⟨by (with_reducible exact hHeld.wr hr9 (List.mem_cons_self ..) (by omega)), by (with_reducible assumption), trivial⟩
        (try clear f0 f1 f2 f3 f4 f5 f6 f7 f8 f9 f10 f11)
        obtain ⟨hHeld, f0, -⟩ := hT
        refine wpAnyH_ready (rs := [3, 9]) (by kernel_rfl) (by simp) ?_
        refine AllReadyH.cons (o := ⟨some 28, _, _, _, _, _⟩) rfl (fun K hK => ?_) ?_
        · go_simp
          (refine (TkAddr_eq H2.out f0).mono ?_); (rintro e w9 ⟨rfl, hR9, hr9⟩)
          go_wp2_with fail
          refine hK.out _ _ ?_ (fun _ => ?_)
          · ((try dsimp only); (with_reducible exact hHeld.wr hr9 (List.mem_cons_self ..) (by omega)))
          clear hK K
          (try simp only [Act.put, List.setIfInBounds_toArray, List.set_cons_zero, List.set_cons_succ])
          refine gen0 (T := fun W => ((fun W => Mm w W [(gt, 232, #[.pointer (some ⟨g, 0, none⟩)]), (w.heap.size, 72, crz)] [some g])) W ∧ IsR W g B s2 ∧ True) ?_ (fun wq3 hT => ?_)
          · exact ⟨by (with_reducible exact hHeld.wr hr9 (List.mem_cons_self ..) (by omega)), by (with_reducible assumption), trivial⟩
          (try clear f0 f1 f2 f3 f4 f5 f6 f7 f8 f9 f10 f11)
          obtain ⟨hHeld, f0, -⟩ := hT
          refine wpAnyH_ready (rs := [5, 9]) (by kernel_rfl) (by simp) ?_
          refine AllReadyH.cons (o := ⟨some 30, _, _, _, _, _⟩) rfl (fun K hK => ?_) ?_
          · go_simp
            (refine (TkAddr_eq H3.out f0).mono ?_); (rintro e w9 ⟨rfl, hR9, hr9⟩)
            go_wp2_with fail
            refine hK.out _ _ ?_ (fun _ => ?_)
            · ((try dsimp only); (with_reducible exact hHeld.wr hr9 (List.mem_cons_self ..) (by omega)))
            clear hK K
            (try simp only [Act.put, List.setIfInBounds_toArray, List.set_cons_zero, List.set_cons_succ])
            refine gen0 (T := fun W => ((fun W => Mm w W [(gt, 232, #[.pointer (some ⟨g, 0, none⟩)]), (w.heap.size, 72, crz)] [some g])) W ∧ IsR W g B s3 ∧ True) ?_ (fun wq4 hT => ?_)
            · exact ⟨by (with_reducible exact hHeld.wr hr9 (List.mem_cons_self ..) (by omega)), by (with_reducible assumption), trivial⟩
            (try clear f0 f1 f2 f3 f4 f5 f6 f7 f8 f9 f10 f11)
            obtain ⟨hHeld, f0, -⟩ := hT
            refine wpAnyH_ready (rs := [7, 9]) (by kernel_rfl) (by simp) ?_
            refine AllReadyH.cons (o := ⟨some 32, _, _, _, _, _⟩) rfl (fun K hK => ?_) ?_
            · go_simp
              (refine (TkAddr_eq H4.out f0).mono ?_); (rintro e w9 ⟨rfl, hR9, hr9⟩)
              go_wp2_with fail
              refine hK.out _ _ ?_ (fun _ => ?_)
              · ((try dsimp only); (with_reducible exact hHeld.wr hr9 (List.mem_cons_self ..) (by omega)))
              clear hK K
              (try simp only [Act.put, List.setIfInBounds_toArray, List.set_cons_zero, List.set_cons_succ])
              refine gen0 (T := fun W => ((fun W => Mm w W [(gt, 232, #[.pointer (some ⟨g, 0, none⟩)]), (w.heap.size, 72, crz)] [some g])) W ∧ IsR W g B s4 ∧ True) ?_ (fun wq5 hT => ?_)
              · exact ⟨by (with_reducible exact hHeld.wr hr9 (List.mem_cons_self ..) (by omega)), by (with_reducible assumption), trivial⟩
              (try clear f0 f1 f2 f3 f4 f5 f6 f7 f8 f9 f10 f11)
              obtain ⟨hHeld, f0, -⟩ := hT
              refine wpAnyH_take (i := 8) (oi := ⟨some 33, _, _, _, _, _⟩) (v := ?_) rfl (by kernel_rfl) (by kernel_rfl) (by kernel_rfl) (fun _ _ _ h => h) (Or.inl ⟨by kernel_rfl, ?_⟩) (by assumption) ?_
              rotate_left
              · (intro wS hSw; (try dsimp only at hSw); have q0 := hSw.b0.cell 0; clear hSw; go_simp; (try with_reducible rfl))
              (try simp only [Act.put, List.setIfInBounds_toArray, List.set_cons_zero, List.set_cons_succ])
              refine wpAnyH_ready (rs := [9]) (by kernel_rfl) (by simp) ?_
              refine AllReadyH.cons (o := ⟨some 7, _, _, _, _, _⟩) rfl (fun K hK => ?_) AllReadyH.nil
              go_simp
              refine hK.out _ _ ?_ (fun _ => ?_)
              · ((try dsimp only); (with_reducible exact hHeld.allocO _))
              clear hK K
              (try simp only [Act.put, List.setIfInBounds_toArray, List.set_cons_zero, List.set_cons_succ])
              refine gen0 (T := fun W => ((fun W => Mm w W [(gt, 232, #[.pointer (some ⟨g, 0, none⟩)]), (w.heap.size, 72, crz)] [some g])) W ∧ IsR W g B s4 ∧ gt < wq5.heap.size ∧ Blk W wq5.heap.size 72 crz ∧ True) ?_ (fun wq6 hT => ?_)
              · exact ⟨by (with_reducible exact hHeld.allocO _), by (with_reducible exact f0.alloc _), by (with_reducible exact hHeld.b0.lt), by (with_reducible exact Blk.new _ _ _), trivial⟩
              (try clear f0 f1 f2 f3 f4 f5 f6 f7 f8 f9 f10 f11)
              obtain ⟨hHeld, f0, f1, f2, -⟩ := hT
              refine wpAnyH_ready (rs := [10]) (by kernel_rfl) (by simp) ?_
              refine AllReadyH.cons (o := ⟨none, _, _, _, _, _⟩) rfl (fun K hK => ?_) AllReadyH.nil
              obtain ⟨z0, z1, z2, z3, z4, sf0, sf1, sf2, sf3, sf4⟩ := f2.five
              go_simp
              refine hK.out _ _ ?_ (fun _ => ?_)
              · ((try dsimp only); (exact hHeld.off (wr5 _ _ _ _ _ _ _) (by simp; omega) (by omega)))
              clear hK K
              (try simp only [Act.put, List.setIfInBounds_toArray, List.set_cons_zero, List.set_cons_succ])
              refine gen0 (T := fun W => ((fun W => Mm w W [(gt, 232, #[.pointer (some ⟨g, 0, none⟩)]), (w.heap.size, 72, crz)] [some g])) W ∧ IsR W g B s4 ∧ gt < wq5.heap.size ∧ Blk W wq5.heap.size 72 #[.int .i64 (f : Nat), .int .i64 (nx : Nat), .int .i64 (tt : Nat), .int .i64 (q : Nat), .slice none 0 0] ∧ True) ?_ (fun wq7 hT => ?_)
              · exact ⟨by (exact hHeld.off (wr5 _ _ _ _ _ _ _) (by simp; omega) (by omega)), by (exact f0.set5 (Nat.lt_trans hgg f1) (by omega) _ _ _ _ _), by (with_reducible assumption), by (exact Blk.set5 f2 _ _ _ _ _), trivial⟩
              (try clear f0 f1 f2 f3 f4 f5 f6 f7 f8 f9 f10 f11)
              obtain ⟨hHeld, f0, f1, f2, -⟩ := hT
              refine wpAnyH_done (by kernel_rfl) ?_ _
              (go_wp2_with fail; go_meet; exact ⟨_, rfl, hHeld, f0, f2, f1⟩)
            refine AllReadyH.cons (o := ⟨some 7, _, _, _, _, _⟩) rfl (fun K hK => ?_) ?_
            · go_simp
              refine hK.out _ _ ?_ (fun _ => ?_)
              · ((try dsimp only); (with_reducible exact hHeld.allocO _))
              clear hK K
              (try simp only [Act.put, List.setIfInBounds_toArray, List.set_cons_zero, List.set_cons_succ])
              refine gen0 (T := fun W => ((fun W => Mm w W [(gt, 232, #[.pointer (some ⟨g, 0, none⟩)]), (w.heap.size, 72, crz)] [some g])) W ∧ IsR W g B s3 ∧ gt < wq4.heap.size ∧ Blk W wq4.heap.size 72 crz ∧ True) ?_ (fun wq8 hT => ?_)
              · exact ⟨by (with_reducible exact hHeld.allocO _), by (with_reducible exact f0.alloc _), by (with_reducible exact hHeld.b0.lt), by (with_reducible exact Blk.new _ _ _), trivial⟩
              (try clear f0 f1 f2 f3 f4 f5 f6 f7 f8 f9 f10 f11)
              obtain ⟨hHeld, f0, f1, f2, -⟩ := hT
              refine wpAnyH_ready (rs := [7]) (by kernel_rfl) (by simp) ?_
              refine AllReadyH.cons (o := ⟨some 32, _, _, _, _, _⟩) rfl (fun K hK => ?_) AllReadyH.nil
              go_simp
              (refine (TkAddr_eq H4.out f0).mono ?_); (rintro e w9 ⟨rfl, hR9, hr9⟩)
              go_wp2_with fail
              refine hK.out _ _ ?_ (fun _ => ?_)
              · ((try dsimp only); (with_reducible exact hHeld.wr hr9 (List.mem_cons_self ..) (by omega)))
              clear hK K
              (try simp only [Act.put, List.setIfInBounds_toArray, List.set_cons_zero, List.set_cons_succ])
              refine gen0 (T := fun W => ((fun W => Mm w W [(gt, 232, #[.pointer (some ⟨g, 0, none⟩)]), (w.heap.size, 72, crz)] [some g])) W ∧ IsR W g B s4 ∧ gt < wq4.heap.size ∧ Blk W wq4.heap.size 72 crz ∧ True) ?_ (fun wq9 hT => ?_)
              · exact ⟨by (with_reducible exact hHeld.wr hr9 (List.mem_cons_self ..) (by omega)), by (with_reducible assumption), by (with_reducible assumption), by (with_reducible exact f2.wr hr9 (by omega)), trivial⟩
              (try clear f0 f1 f2 f3 f4 f5 f6 f7 f8 f9 f10 f11)
              obtain ⟨hHeld, f0, f1, f2, -⟩ := hT
              refine wpAnyH_take (i := 8) (oi := ⟨some 33, _, _, _, _, _⟩) (v := ?_) rfl (by kernel_rfl) (by kernel_rfl) (by kernel_rfl) (fun _ _ _ h => h) (Or.inl ⟨by kernel_rfl, ?_⟩) (by assumption) ?_
              rotate_left
              · (intro wS hSw; (try dsimp only at hSw); have q0 := hSw.b0.cell 0; clear hSw; go_simp; (try with_reducible rfl))
              (try simp only [Act.put, List.setIfInBounds_toArray, List.set_cons_zero, List.set_cons_succ])
              refine wpAnyH_ready (rs := [10]) (by kernel_rfl) (by simp) ?_
              refine AllReadyH.cons (o := ⟨none, _, _, _, _, _⟩) rfl (fun K hK => ?_) AllReadyH.nil
              obtain ⟨z0, z1, z2, z3, z4, sf0, sf1, sf2, sf3, sf4⟩ := f2.five
              go_simp
              refine hK.out _ _ ?_ (fun _ => ?_)
              · ((try dsimp only); (exact hHeld.off (wr5 _ _ _ _ _ _ _) (by simp; omega) (by omega)))
              clear hK K
              (try simp only [Act.put, List.setIfInBounds_toArray, List.set_cons_zero, List.set_cons_succ])
              refine gen0 (T := fun W => ((fun W => Mm w W [(gt, 232, #[.pointer (some ⟨g, 0, none⟩)]), (w.heap.size, 72, crz)] [some g])) W ∧ IsR W g B s4 ∧ gt < wq4.heap.size ∧ Blk W wq4.heap.size 72 #[.int .i64 (f : Nat), .int .i64 (nx : Nat), .int .i64 (tt : Nat), .int .i64 (q : Nat), .slice none 0 0] ∧ True) ?_ (fun wq10 hT => ?_)
              · exact ⟨by (exact hHeld.off (wr5 _ _ _ _ _ _ _) (by simp; omega) (by omega)), by (exact f0.set5 (Nat.lt_trans hgg f1) (by omega) _ _ _ _ _), by (with_reducible assumption), by (exact Blk.set5 f2 _ _ _ _ _), trivial⟩
              (try clear f0 f1 f2 f3 f4 f5 f6 f7 f8 f9 f10 f11)
              obtain ⟨hHeld, f0, f1, f2, -⟩ := hT
              refine wpAnyH_done (by kernel_rfl) ?_ _
              (go_wp2_with fail; go_meet; exact ⟨_, rfl, hHeld, f0, f2, f1⟩)
            exact AllReadyH.nil
          refine AllReadyH.cons (o := ⟨some 7, _, _, _, _, _⟩) rfl (fun K hK => ?_) ?_
          · go_simp
            refine hK.out _ _ ?_ (fun _ => ?_)
            · ((try dsimp only); (with_reducible exact hHeld.allocO _))
            clear hK K
            (try simp only [Act.put, List.setIfInBounds_toArray, List.set_cons_zero, List.set_cons_succ])
            refine gen0 (T := fun W => ((fun W => Mm w W [(gt, 232, #[.pointer (some ⟨g, 0, none⟩)]), (w.heap.size, 72, crz)] [some g])) W ∧ IsR W g B s2 ∧ gt < wq3.heap.size ∧ Blk W wq3.heap.size 72 crz ∧ True) ?_ (fun wq11 hT => ?_)
            · exact ⟨by (with_reducible exact hHeld.allocO _), by (with_reducible exact f0.alloc _), by (with_reducible exact hHeld.b0.lt), by (with_reducible exact Blk.new _ _ _), trivial⟩
            (try clear f0 f1 f2 f3 f4 f5 f6 f7 f8 f9 f10 f11)
            obtain ⟨hHeld, f0, f1, f2, -⟩ := hT
            refine wpAnyH_ready (rs := [5]) (by kernel_rfl) (by simp) ?_
            refine AllReadyH.cons (o := ⟨some 30, _, _, _, _, _⟩) rfl (fun K hK => ?_) AllReadyH.nil
            go_simp
            (refine (TkAddr_eq H3.out f0).mono ?_); (rintro e w9 ⟨rfl, hR9, hr9⟩)
            go_wp2_with fail
            refine hK.out _ _ ?_ (fun _ => ?_)
            · ((try dsimp only); (with_reducible exact hHeld.wr hr9 (List.mem_cons_self ..) (by omega)))
            clear hK K
            (try simp only [Act.put, List.setIfInBounds_toArray, List.set_cons_zero, List.set_cons_succ])
            refine gen0 (T := fun W => ((fun W => Mm w W [(gt, 232, #[.pointer (some ⟨g, 0, none⟩)]), (w.heap.size, 72, crz)] [some g])) W ∧ IsR W g B s3 ∧ gt < wq3.heap.size ∧ Blk W wq3.heap.size 72 crz ∧ True) ?_ (fun wq12 hT => ?_)
            · exact ⟨by (with_reducible exact hHeld.wr hr9 (List.mem_cons_self ..) (by omega)), by (with_reducible assumption), by (with_reducible assumption), by (with_reducible exact f2.wr hr9 (by omega)), trivial⟩
            (try clear f0 f1 f2 f3 f4 f5 f6 f7 f8 f9 f10 f11)
            obtain ⟨hHeld, f0, f1, f2, -⟩ := hT
            refine wpAnyH_ready (rs := [7]) (by kernel_rfl) (by simp) ?_
            refine AllReadyH.cons (o := ⟨some 32, _, _, _, _, _⟩) rfl (fun K hK => ?_) AllReadyH.nil
            go_simp
            (refine (TkAddr_eq H4.out f0).mono ?_); (rintro e w9 ⟨rfl, hR9, hr9⟩)
            go_wp2_with fail
            refine hK.out _ _ ?_ (fun _ => ?_)
            · ((try dsimp only); (with_reducible exact hHeld.wr hr9 (List.mem_cons_self ..) (by omega)))
            clear hK K
            (try simp only [Act.put, List.setIfInBounds_toArray, List.set_cons_zero, List.set_cons_succ])
            refine gen0 (T := fun W => ((fun W => Mm w W [(gt, 232, #[.pointer (some ⟨g, 0, none⟩)]), (w.heap.size, 72, crz)] [some g])) W ∧ IsR W g B s4 ∧ gt < wq3.heap.size ∧ Blk W wq3.heap.size 72 crz ∧ True) ?_ (fun wq13 hT => ?_)
            · exact ⟨by (with_reducible exact hHeld.wr hr9 (List.mem_cons_self ..) (by omega)), by (with_reducible assumption), by (with_reducible assumption), by (with_reducible exact f2.wr hr9 (by omega)), trivial⟩
            (try clear f0 f1 f2 f3 f4 f5 f6 f7 f8 f9 f10 f11)
            obtain ⟨hHeld, f0, f1, f2, -⟩ := hT
            refine wpAnyH_take (i := 8) (oi := ⟨some 33, _, _, _, _, _⟩) (v := ?_) rfl (by kernel_rfl) (by kernel_rfl) (by kernel_rfl) (fun _ _ _ h => h) (Or.inl ⟨by kernel_rfl, ?_⟩) (by assumption) ?_
            rotate_left
            · (intro wS hSw; (try dsimp only at hSw); have q0 := hSw.b0.cell 0; clear hSw; go_simp; (try with_reducible rfl))
            (try simp only [Act.put, List.setIfInBounds_toArray, List.set_cons_zero, List.set_cons_succ])
            refine wpAnyH_ready (rs := [10]) (by kernel_rfl) (by simp) ?_
            refine AllReadyH.cons (o := ⟨none, _, _, _, _, _⟩) rfl (fun K hK => ?_) AllReadyH.nil
            obtain ⟨z0, z1, z2, z3, z4, sf0, sf1, sf2, sf3, sf4⟩ := f2.five
            go_simp
            refine hK.out _ _ ?_ (fun _ => ?_)
            · ((try dsimp only); (exact hHeld.off (wr5 _ _ _ _ _ _ _) (by simp; omega) (by omega)))
            clear hK K
            (try simp only [Act.put, List.setIfInBounds_toArray, List.set_cons_zero, List.set_cons_succ])
            refine gen0 (T := fun W => ((fun W => Mm w W [(gt, 232, #[.pointer (some ⟨g, 0, none⟩)]), (w.heap.size, 72, crz)] [some g])) W ∧ IsR W g B s4 ∧ gt < wq3.heap.size ∧ Blk W wq3.heap.size 72 #[.int .i64 (f : Nat), .int .i64 (nx : Nat), .int .i64 (tt : Nat), .int .i64 (q : Nat), .slice none 0 0] ∧ True) ?_ (fun wq14 hT => ?_)
            · exact ⟨by (exact hHeld.off (wr5 _ _ _ _ _ _ _) (by simp; omega) (by omega)), by (exact f0.set5 (Nat.lt_trans hgg f1) (by omega) _ _ _ _ _), by (with_reducible assumption), by (exact Blk.set5 f2 _ _ _ _ _), trivial⟩
            (try clear f0 f1 f2 f3 f4 f5 f6 f7 f8 f9 f10 f11)
            obtain ⟨hHeld, f0, f1, f2, -⟩ := hT
            refine wpAnyH_done (by kernel_rfl) ?_ _
            (go_wp2_with fail; go_meet; exact ⟨_, rfl, hHeld, f0, f2, f1⟩)
          exact AllReadyH.nil
        refine AllReadyH.cons (o := ⟨some 7, _, _, _, _, _⟩) rfl (fun K hK => ?_) ?_
        · go_simp
          refine hK.out _ _ ?_ (fun _ => ?_)
          · ((try dsimp only); (with_reducible exact hHeld.allocO _))
          clear hK K
          (try simp only [Act.put, List.setIfInBounds_toArray, List.set_cons_zero, List.set_cons_succ])
          refine gen0 (T := fun W => ((fun W => Mm w W [(gt, 232, #[.pointer (some ⟨g, 0, none⟩)]), (w.heap.size, 72, crz)] [some g])) W ∧ IsR W g B s1 ∧ gt < wq2.heap.size ∧ Blk W wq2.heap.size 72 crz ∧ True) ?_ (fun wq15 hT => ?_)
          · exact ⟨by (with_reducible exact hHeld.allocO _), by (with_reducible exact f0.alloc _), by (with_reducible exact hHeld.b0.lt), by (with_reducible exact Blk.new _ _ _), trivial⟩
          (try clear f0 f1 f2 f3 f4 f5 f6 f7 f8 f9 f10 f11)
          obtain ⟨hHeld, f0, f1, f2, -⟩ := hT
          refine wpAnyH_ready (rs := [3]) (by kernel_rfl) (by simp) ?_
          refine AllReadyH.cons (o := ⟨some 28, _, _, _, _, _⟩) rfl (fun K hK => ?_) AllReadyH.nil
          go_simp
          (refine (TkAddr_eq H2.out f0).mono ?_); (rintro e w9 ⟨rfl, hR9, hr9⟩)
          go_wp2_with fail
          refine hK.out _ _ ?_ (fun _ => ?_)
          · ((try dsimp only); (with_reducible exact hHeld.wr hr9 (List.mem_cons_self ..) (by omega)))
          clear hK K
          (try simp only [Act.put, List.setIfInBounds_toArray, List.set_cons_zero, List.set_cons_succ])
          refine gen0 (T := fun W => ((fun W => Mm w W [(gt, 232, #[.pointer (some ⟨g, 0, none⟩)]), (w.heap.size, 72, crz)] [some g])) W ∧ IsR W g B s2 ∧ gt < wq2.heap.size ∧ Blk W wq2.heap.size 72 crz ∧ True) ?_ (fun wq16 hT => ?_)
          · exact ⟨by (with_reducible exact hHeld.wr hr9 (List.mem_cons_self ..) (by omega)), by (with_reducible assumption), by (with_reducible assumption), by (with_reducible exact f2.wr hr9 (by omega)), trivial⟩
          (try clear f0 f1 f2 f3 f4 f5 f6 f7 f8 f9 f10 f11)
          obtain ⟨hHeld, f0, f1, f2, -⟩ := hT
          refine wpAnyH_ready (rs := [5]) (by kernel_rfl) (by simp) ?_
          refine AllReadyH.cons (o := ⟨some 30, _, _, _, _, _⟩) rfl (fun K hK => ?_) AllReadyH.nil
          go_simp
          (refine (TkAddr_eq H3.out f0).mono ?_); (rintro e w9 ⟨rfl, hR9, hr9⟩)
          go_wp2_with fail
          refine hK.out _ _ ?_ (fun _ => ?_)
          · ((try dsimp only); (with_reducible exact hHeld.wr hr9 (List.mem_cons_self ..) (by omega)))
          clear hK K
          (try simp only [Act.put, List.setIfInBounds_toArray, List.set_cons_zero, List.set_cons_succ])
          refine gen0 (T := fun W => ((fun W => Mm w W [(gt, 232, #[.pointer (some ⟨g, 0, none⟩)]), (w.heap.size, 72, crz)] [some g])) W ∧ IsR W g B s3 ∧ gt < wq2.heap.size ∧ Blk W wq2.heap.size 72 crz ∧ True) ?_ (fun wq17 hT => ?_)
          · exact ⟨by (with_reducible exact hHeld.wr hr9 (List.mem_cons_self ..) (by omega)), by (with_reducible assumption), by (with_reducible assumption), by (with_reducible exact f2.wr hr9 (by omega)), trivial⟩
          (try clear f0 f1 f2 f3 f4 f5 f6 f7 f8 f9 f10 f11)
          obtain ⟨hHeld, f0, f1, f2, -⟩ := hT
          refine wpAnyH_ready (rs := [7]) (by kernel_rfl) (by simp) ?_
          refine AllReadyH.cons (o := ⟨some 32, _, _, _, _, _⟩) rfl (fun K hK => ?_) AllReadyH.nil
          go_simp
          (refine (TkAddr_eq H4.out f0).mono ?_); (rintro e w9 ⟨rfl, hR9, hr9⟩)
          go_wp2_with fail
          refine hK.out _ _ ?_ (fun _ => ?_)
          · ((try dsimp only); (with_reducible exact hHeld.wr hr9 (List.mem_cons_self ..) (by omega)))
          clear hK K
          (try simp only [Act.put, List.setIfInBounds_toArray, List.set_cons_zero, List.set_cons_succ])
          refine gen0 (T := fun W => ((fun W => Mm w W [(gt, 232, #[.pointer (some ⟨g, 0, none⟩)]), (w.heap.size, 72, crz)] [some g])) W ∧ IsR W g B s4 ∧ gt < wq2.heap.size ∧ Blk W wq2.heap.size 72 crz ∧ True) ?_ (fun wq18 hT => ?_)
          · exact ⟨by (with_reducible exact hHeld.wr hr9 (List.mem_cons_self ..) (by omega)), by (with_reducible assumption), by (with_reducible assumption), by (with_reducible exact f2.wr hr9 (by omega)), trivial⟩
          (try clear f0 f1 f2 f3 f4 f5 f6 f7 f8 f9 f10 f11)
          obtain ⟨hHeld, f0, f1, f2, -⟩ := hT
          refine wpAnyH_take (i := 8) (oi := ⟨some 33, _, _, _, _, _⟩) (v := ?_) rfl (by kernel_rfl) (by kernel_rfl) (by kernel_rfl) (fun _ _ _ h => h) (Or.inl ⟨by kernel_rfl, ?_⟩) (by assumption) ?_
          rotate_left
          · (intro wS hSw; (try dsimp only at hSw); have q0 := hSw.b0.cell 0; clear hSw; go_simp; (try with_reducible rfl))
          (try simp only [Act.put, List.setIfInBounds_toArray, List.set_cons_zero, List.set_cons_succ])
          refine wpAnyH_ready (rs := [10]) (by kernel_rfl) (by simp) ?_
          refine AllReadyH.cons (o := ⟨none, _, _, _, _, _⟩) rfl (fun K hK => ?_) AllReadyH.nil
          obtain ⟨z0, z1, z2, z3, z4, sf0, sf1, sf2, sf3, sf4⟩ := f2.five
          go_simp
          refine hK.out _ _ ?_ (fun _ => ?_)
          · ((try dsimp only); (exact hHeld.off (wr5 _ _ _ _ _ _ _) (by simp; omega) (by omega)))
          clear hK K
          (try simp only [Act.put, List.setIfInBounds_toArray, List.set_cons_zero, List.set_cons_succ])
          refine gen0 (T := fun W => ((fun W => Mm w W [(gt, 232, #[.pointer (some ⟨g, 0, none⟩)]), (w.heap.size, 72, crz)] [some g])) W ∧ IsR W g B s4 ∧ gt < wq2.heap.size ∧ Blk W wq2.heap.size 72 #[.int .i64 (f : Nat), .int .i64 (nx : Nat), .int .i64 (tt : Nat), .int .i64 (q : Nat), .slice none 0 0] ∧ True) ?_ (fun wq19 hT => ?_)
          · exact ⟨by (exact hHeld.off (wr5 _ _ _ _ _ _ _) (by simp; omega) (by omega)), by (exact f0.set5 (Nat.lt_trans hgg f1) (by omega) _ _ _ _ _), by (with_reducible assumption), by (exact Blk.set5 f2 _ _ _ _ _), trivial⟩
          (try clear f0 f1 f2 f3 f4 f5 f6 f7 f8 f9 f10 f11)
          obtain ⟨hHeld, f0, f1, f2, -⟩ := hT
          refine wpAnyH_done (by kernel_rfl) ?_ _
          (go_wp2_with fail; go_meet; exact ⟨_, rfl, hHeld, f0, f2, f1⟩)
        exact AllReadyH.nil
      refine AllReadyH.cons (o := ⟨some 7, _, _, _, _, _⟩) rfl (fun K hK => ?_) ?_
      · go_simp
        refine hK.out _ _ ?_ (fun _ => ?_)
        · ((try dsimp only); (with_reducible exact hHeld.allocO _))
        clear hK K
        (try simp only [Act.put, List.setIfInBounds_toArray, List.set_cons_zero, List.set_cons_succ])
        refine gen0 (T := fun W => ((fun W => Mm w W [(gt, 232, #[.pointer (some ⟨g, 0, none⟩)]), (w.heap.size, 72, crz)] [some g])) W ∧ IsR W g B (m1, 0) ∧ gt < wq1.heap.size ∧ Blk W wq1.heap.size 72 crz ∧ True) ?_ (fun wq20 hT => ?_)
        · exact ⟨by (with_reducible exact hHeld.allocO _), by (with_reducible exact f0.alloc _), by (with_reducible exact hHeld.b0.lt), by (with_reducible exact Blk.new _ _ _), trivial⟩
        (try clear f0 f1 f2 f3 f4 f5 f6 f7 f8 f9 f10 f11)
        obtain ⟨hHeld, f0, f1, f2, -⟩ := hT
        refine wpAnyH_ready (rs := [1]) (by kernel_rfl) (by simp) ?_
        refine AllReadyH.cons (o := ⟨some 26, _, _, _, _, _⟩) rfl (fun K hK => ?_) AllReadyH.nil
        go_simp
        (refine (TkAddr_eq H1.out f0).mono ?_); (rintro e w9 ⟨rfl, hR9, hr9⟩)
        go_wp2_with fail
        refine hK.out _ _ ?_ (fun _ => ?_)
        · ((try dsimp only); (with_reducible exact hHeld.wr hr9 (List.mem_cons_self ..) (by omega)))
        clear hK K
        (try simp only [Act.put, List.setIfInBounds_toArray, List.set_cons_zero, List.set_cons_succ])
        refine gen0 (T := fun W => ((fun W => Mm w W [(gt, 232, #[.pointer (some ⟨g, 0, none⟩)]), (w.heap.size, 72, crz)] [some g])) W ∧ IsR W g B s1 ∧ gt < wq1.heap.size ∧ Blk W wq1.heap.size 72 crz ∧ True) ?_ (fun wq21 hT => ?_)
        · exact ⟨by (with_reducible exact hHeld.wr hr9 (List.mem_cons_self ..) (by omega)), by (with_reducible assumption), by (with_reducible assumption), by (with_reducible exact f2.wr hr9 (by omega)), trivial⟩
        (try clear f0 f1 f2 f3 f4 f5 f6 f7 f8 f9 f10 f11)
        obtain ⟨hHeld, f0, f1, f2, -⟩ := hT
        refine wpAnyH_ready (rs := [3]) (by kernel_rfl) (by simp) ?_
        refine AllReadyH.cons (o := ⟨some 28, _, _, _, _, _⟩) rfl (fun K hK => ?_) AllReadyH.nil
        go_simp
        (refine (TkAddr_eq H2.out f0).mono ?_); (rintro e w9 ⟨rfl, hR9, hr9⟩)
        go_wp2_with fail
        refine hK.out _ _ ?_ (fun _ => ?_)
        · ((try dsimp only); (with_reducible exact hHeld.wr hr9 (List.mem_cons_self ..) (by omega)))
        clear hK K
        (try simp only [Act.put, List.setIfInBounds_toArray, List.set_cons_zero, List.set_cons_succ])
        refine gen0 (T := fun W => ((fun W => Mm w W [(gt, 232, #[.pointer (some ⟨g, 0, none⟩)]), (w.heap.size, 72, crz)] [some g])) W ∧ IsR W g B s2 ∧ gt < wq1.heap.size ∧ Blk W wq1.heap.size 72 crz ∧ True) ?_ (fun wq22 hT => ?_)
        · exact ⟨by (with_reducible exact hHeld.wr hr9 (List.mem_cons_self ..) (by omega)), by (with_reducible assumption), by (with_reducible assumption), by (with_reducible exact f2.wr hr9 (by omega)), trivial⟩
        (try clear f0 f1 f2 f3 f4 f5 f6 f7 f8 f9 f10 f11)
        obtain ⟨hHeld, f0, f1, f2, -⟩ := hT
        refine wpAnyH_ready (rs := [5]) (by kernel_rfl) (by simp) ?_
        refine AllReadyH.cons (o := ⟨some 30, _, _, _, _, _⟩) rfl (fun K hK => ?_) AllReadyH.nil
        go_simp
        (refine (TkAddr_eq H3.out f0).mono ?_); (rintro e w9 ⟨rfl, hR9, hr9⟩)
        go_wp2_with fail
        refine hK.out _ _ ?_ (fun _ => ?_)
        · ((try dsimp only); (with_reducible exact hHeld.wr hr9 (List.mem_cons_self ..) (by omega)))
        clear hK K
        (try simp only [Act.put, List.setIfInBounds_toArray, List.set_cons_zero, List.set_cons_succ])
        refine gen0 (T := fun W => ((fun W => Mm w W [(gt, 232, #[.pointer (some ⟨g, 0, none⟩)]), (w.heap.size, 72, crz)] [some g])) W ∧ IsR W g B s3 ∧ gt < wq1.heap.size ∧ Blk W wq1.heap.size 72 crz ∧ True) ?_ (fun wq23 hT => ?_)
        · exact ⟨by (with_reducible exact hHeld.wr hr9 (List.mem_cons_self ..) (by omega)), by (with_reducible assumption), by (with_reducible assumption), by (with_reducible exact f2.wr hr9 (by omega)), trivial⟩
        (try clear f0 f1 f2 f3 f4 f5 f6 f7 f8 f9 f10 f11)
        obtain ⟨hHeld, f0, f1, f2, -⟩ := hT
        refine wpAnyH_ready (rs := [7]) (by kernel_rfl) (by simp) ?_
        refine AllReadyH.cons (o := ⟨some 32, _, _, _, _, _⟩) rfl (fun K hK => ?_) AllReadyH.nil
        go_simp
        (refine (TkAddr_eq H4.out f0).mono ?_); (rintro e w9 ⟨rfl, hR9, hr9⟩)
        go_wp2_with fail
        refine hK.out _ _ ?_ (fun _ => ?_)
        · ((try dsimp only); (with_reducible exact hHeld.wr hr9 (List.mem_cons_self ..) (by omega)))
        clear hK K
        (try simp only [Act.put, List.setIfInBounds_toArray, List.set_cons_zero, List.set_cons_succ])
        refine gen0 (T := fun W => ((fun W => Mm w W [(gt, 232, #[.pointer (some ⟨g, 0, none⟩)]), (w.heap.size, 72, crz)] [some g])) W ∧ IsR W g B s4 ∧ gt < wq1.heap.size ∧ Blk W wq1.heap.size 72 crz ∧ True) ?_ (fun wq24 hT => ?_)
        · exact ⟨by (with_reducible exact hHeld.wr hr9 (List.mem_cons_self ..) (by omega)), by (with_reducible assumption), by (with_reducible assumption), by (with_reducible exact f2.wr hr9 (by omega)), trivial⟩
        (try clear f0 f1 f2 f3 f4 f5 f6 f7 f8 f9 f10 f11)
        obtain ⟨hHeld, f0, f1, f2, -⟩ := hT
        refine wpAnyH_take (i := 8) (oi := ⟨some 33, _, _, _, _, _⟩) (v := ?_) rfl (by kernel_rfl) (by kernel_rfl) (by kernel_rfl) (fun _ _ _ h => h) (Or.inl ⟨by kernel_rfl, ?_⟩) (by assumption) ?_
        rotate_left
        · (intro wS hSw; (try dsimp only at hSw); have q0 := hSw.b0.cell 0; clear hSw; go_simp; (try with_reducible rfl))
        (try simp only [Act.put, List.setIfInBounds_toArray, List.set_cons_zero, List.set_cons_succ])
        refine wpAnyH_ready (rs := [10]) (by kernel_rfl) (by simp) ?_
        refine AllReadyH.cons (o := ⟨none, _, _, _, _, _⟩) rfl (fun K hK => ?_) AllReadyH.nil
        obtain ⟨z0, z1, z2, z3, z4, sf0, sf1, sf2, sf3, sf4⟩ := f2.five
        go_simp
        refine hK.out _ _ ?_ (fun _ => ?_)
        · ((try dsimp only); (exact hHeld.off (wr5 _ _ _ _ _ _ _) (by simp; omega) (by omega)))
        clear hK K
        (try simp only [Act.put, List.setIfInBounds_toArray, List.set_cons_zero, List.set_cons_succ])
        refine gen0 (T := fun W => ((fun W => Mm w W [(gt, 232, #[.pointer (some ⟨g, 0, none⟩)]), (w.heap.size, 72, crz)] [some g])) W ∧ IsR W g B s4 ∧ gt < wq1.heap.size ∧ Blk W wq1.heap.size 72 #[.int .i64 (f : Nat), .int .i64 (nx : Nat), .int .i64 (tt : Nat), .int .i64 (q : Nat), .slice none 0 0] ∧ True) ?_ (fun wq25 hT => ?_)
        · exact ⟨by (exact hHeld.off (wr5 _ _ _ _ _ _ _) (by simp; omega) (by omega)), by (exact f0.set5 (Nat.lt_trans hgg f1) (by omega) _ _ _ _ _), by (with_reducible assumption), by (exact Blk.set5 f2 _ _ _ _ _), trivial⟩
        (try clear f0 f1 f2 f3 f4 f5 f6 f7 f8 f9 f10 f11)
        obtain ⟨hHeld, f0, f1, f2, -⟩ := hT
        refine wpAnyH_done (by kernel_rfl) ?_ _
        (go_wp2_with fail; go_meet; exact ⟨_, rfl, hHeld, f0, f2, f1⟩)
      exact AllReadyH.nil
    case rest =>
      obtain ⟨gc, rfl, hM4, hR4, hG4, hgc⟩ := hcut
      clear hM3 hR5
      have hM := hM4.cons hG4 (by omega) (by simp; omega) (by simp; omega)
      clear hM4 hG4
      have q0 := hM.b1.cell 0
      go_wp2_with fail
      refine (Number_s hR4).mono ?_
      rintro e w3 ⟨rfl, hR3, hr3⟩
      obtain ⟨n, s5, hn5⟩ : ∃ n s, rNum s4 = (n, s) := ⟨_, _, rfl⟩
      have hs5l : s5.1.length ≤ 1000000 := by
        have l1 := rWithin_len 1048576 (m1, 0)
        have l2 := rWithin_len 1048576 s1
        have l3 := rWithin_len 1048576 s2
        have l4 := rWithin_len 1048576 s3
        have l5 := rNum_len s4
        rw [H1.out] at l1
        rw [H2.out] at l2
        rw [H3.out] at l3
        rw [H4.out] at l4
        rw [hn5] at l5
        dsimp only at l1 l2 l3 l4 l5
        omega
      rw [hn5] at hR3 ⊢
      dsimp only at hR3 ⊢
      replace hM := hM.wr hr3 (List.mem_cons_self ..) (by omega)
      obtain ⟨s6, hs6⟩ : ∃ s, (if 1024 < n then rFail 3 s5 else s5) = s := ⟨_, rfl⟩
      have HC := Lib.hid (crRead_eq H1.out H2.out H3.out H4.out hn5 hs6)
      have hs6l : s6.1.length ≤ 1000000 := by
        rw [← hs6]
        split
        · rw [rFail_fst18]; exact hs5l
        · exact hs5l
      clear hR4 hr3 q0 H1 H2 H3 H4 hn5 hs5l
      have q0 := hM.b1.cell 0
      go_upto_if 38 with (fail)
      go_cut [] (fun wz => Mm w wz [(gc, 72, #[.int .i64 (f : Nat), .int .i64 (nx : Nat), .int .i64 (tt : Nat), .int .i64 (q : Nat), .slice none 0 0]), (gt, 232, #[.pointer (some ⟨g, 0, none⟩)]), (w.heap.size, 72, crz)] [some g] ∧ IsR wz g B s6)
      case first =>
        rcases Decidable.em (1024 < n) with h | h
        · have hI : (1024 : Int) < (n : Int) := by omega
          rw [if_pos h] at hs6
          subst hs6
          clear h
          go_wp2_with fail
          refine (Fail_s 3 hR3).mono ?_
          rintro e w5 ⟨rfl, hR5, hr5⟩
          go_wp2_with fail
          go_meet
          exact ⟨hM.wr hr5 (List.mem_cons_self ..) (by omega), hR5⟩
        · have hI : (n : Int) ≤ (1024 : Int) := by omega
          rw [if_neg h] at hs6
          subst hs6
          clear h
          go_wp2_with fail
          go_meet
          exact ⟨hM, hR3⟩
      case rest =>
        clear hM hR3 hs6 q0
        obtain ⟨hM, hR⟩ := hcut
        obtain ⟨c0, c1', c2, c3, c4, -⟩ := Blk.five hM.b0
        obtain ⟨N, hN⟩ : ∃ N : Nat, min n 1024 = N := ⟨_, rfl⟩
        have hNi : min (n : Int) 1024 = (N : Int) := by omega
        have hN2 : N ≤ 1024 := by omega
        rw [hN] at HC
        clear hN
        go_upto_region 10 with (fail)
        go_cut [46, 47] (fun x y wz => x = .int .u64 (N : Nat) ∧ y = .int .u64 0 ∧ wz = wc)
        case first =>
          go_wp2_with fail
          all_goals
            go_meet
            exact ⟨by first | rfl | (congr 1; done) | (congr 1; omega), rfl, rfl⟩
        case rest =>
          obtain ⟨rfl, rfl, rfl⟩ := hcut
          clear hNi
          go_wp2_with fail
          go_loopw [47, 9] (fun x y wr => ∃ (k : Nat) (E : Option Addr) (cE : Nat) (m : List Pt5), k ≤ N ∧ x = .int .u64 (k : Nat) ∧ y = .int .i64 (pend (f : Nat) m) ∧ Hid (m = (crLoop k (f : Nat) s6).1) ∧ Mm w wr [(gc, 72, #[.int .i64 (f : Nat), .int .i64 (nx : Nat), .int .i64 (tt : Nat), .int .i64 (q : Nat), .slice E m.length cE]), (gt, 232, #[.pointer (some ⟨g, 0, none⟩)]), (w.heap.size, 72, crz)] [E.map (·.block), some g] ∧ IsR wr g B (crLoop k (f : Nat) s6).2 ∧ OwnP wr (gc + 1) E cE m) (fun x y wr => N - (intOf x).toNat)
          case atStart => exact ⟨0, none, 0, [], Nat.zero_le _, rfl, rfl, (show _ = _ from rfl), hM.add (by simp), hR, Own.none_ _ _ _ _⟩
          case round =>
            obtain ⟨k, E, cE, m, hk, rfl, rfl, hm, hMr, hRr, hOr⟩ := hrel
            have hml : Hid (m.length = k) := (show _ = _ from by rw [hm.out, crLoop_len])
            clear hM hR
            rcases Nat.lt_or_ge k N with hlt | hge
            · have hkI : (k : Int) < (N : Int) := by omega
              have hsl := crLoop_left k (f : Int) s6
              have hbd := crLoop_bd s6 (f : Int) k
              have hbd2 := crLoop_bd s6 (f : Int) (k + 1)
              have hsuc := crLoop_succ k (f : Int) s6
              rw [hsuc] at hbd2
              dsimp only at hbd2
              rw [pend_snoc] at hbd2
              rw [← hm.out] at hbd hbd2 hsuc
              have HSU := Lib.hid hsuc
              clear hsuc c0 c1' c2 c3 c4
              have q0 := hMr.b1.cell 0
              have hbsz : gc < wr.heap.size := hMr.b0.lt
              go_wp2_with fail
              refine (TkPart_any (pend (f : Int) m) hRr (by omega) (by omega)).mono ?_
              rintro e w7 ⟨rfl, hR7, hr7⟩
              replace hMr := hMr.wr hr7 (by simp) (by omega)
              replace hOr := Own.wr hOr (by omega) hr7
              obtain ⟨p, s8, hp⟩ : ∃ p s, rPart (pend (f : Int) m) (crLoop k (f : Int) s6).2 = (p, s) := ⟨_, _, rfl⟩
              rw [hp] at hR7 ⊢
              have hsu2 := HSU.out
              rw [hp] at hsu2 hbd2
              dsimp only at hR7 hsu2 hbd2 ⊢
              have HS := Lib.hid hsu2
              have hps := Lib.hid (pta_size p)
              have hpa := Lib.hid (pta_all p)
              have hwrp : wrap64 (pend (f : Int) m + p.2.1) = pend (f : Int) m + p.2.1 := by simp only [wrap64]; omega
              have hwrp2 : IntKind.i64.wrap (pend (f : Int) m + p.2.1) = pend (f : Int) m + p.2.1 := by rw [IntKind.wrap_i64]; omega
              have hsz7 := hr7.size
              clear hsu2 HSU hp hRr hr7 q0 hsl hm
              have hM8 := hMr.alloc (pta p) 28
              have hR8 := hR7.alloc (.cells (pta p) 28)
              have hO8 := World.ownsRow.alloc hOr (.cells (pta p) 28)
              go_upto_region 13 with (refine wpl_storeN rfl 28 _ _ rfl _ (pta p) 28 rfl rfl (by rw [hps.out]; kernel_rfl) (by rw [hps.out]; rfl) hpa.out ?_)
              generalize hWe : w7.alloc (.cells (pta p) 28) = w8 at *
              clear hWe
              have hgp : gc < w7.heap.size := hMr.b0.lt
              generalize w7.heap.size = gp at *
              clear hMr hR7 hOr
              obtain ⟨x0, x1, x2⟩ := BlP.three hM8.b0
              obtain ⟨c0, c1', c2, c3, c4, cf0, cf1, cf2, cf3, cf4⟩ := Blk.five hM8.b1
              go_upto_region 14 with (fail)
              have hL9 := litP w8 p
              have hO9 := World.ownsRow.alloc hO8 (.cells (pta p) 28)
              have hM9 := hM8.allocO (.cells (pta p) 28)
              have hR9 := hR8.alloc (.cells (pta p) 28)
              have hgc8 : gc + 1 ≤ w8.heap.size := by have := hM8.b1.lt; omega
              go_wp2_with (first | (refine wpl_loadG rfl 28 _ rfl ⟨gp, 0, none⟩ (pta p) rfl hM8.b0.cells _ Tryz.underlying28 rfl (by rw [hps.out]; kernel_rfl) ?_) | (refine wpl_lit1 rfl _ rfl p rfl ?_) | (at_builtin; refine wpl_parts rfl _ _ rfl (gc + 1) E cE m rfl hO9 (some ⟨w8.heap.size, 0, none⟩) 1 1 [p] rfl rfl hL9 (by rw [hml.out]; simp; omega) (by simp; omega) ?_; intro A10 c10 m10 w10 hm10 hO10 hg10 hb10; have hB10 : Blk w10 gc 72 _ := (hb10.block gc (Nat.lt_succ_self _)).trans hM9.b1; obtain ⟨d0, d1, d2, d3, d4, df0, df1, df2, df3, df4⟩ := Blk.five hB10))
              have hM10 := (hM9.sub (List.sublist_cons_self _ _)).base hb10 (by simp; omega) (by omega) (a := A10.map (·.block)) (fun k hk => hO10.lt k hk) (G' := [some g]) (by simp)
              have hM11 := hM10.set 0 4 (.slice A10 m10.length c10) rfl
              have hR11 := (hR9.apart (C := gc + 1) (by omega) (by omega) hb10).set (k := gc) (i := 4) (by omega) (by omega) (.slice A10 m10.length c10)
              have hO11 := Own.set1 hO10 (g := gc) (i := 4) (Nat.lt_succ_self _) (.slice A10 m10.length c10)
              go_roundw
              case rel => exact ⟨k + 1, A10, c10, m10, hlt, by go_num, by rw [hm10.out, pend_snoc], (show _ = _ from by rw [hm10.out, HS.out]), hM11, by rw [HS.out]; exact hR11, hO11⟩
              case measure => simp [intOf]; omega
            · obtain rfl : k = N := by omega
              have HT1 : Hid (crTake b = crEnd (((f : Int), (nx : Int), (tt : Int), (q : Int), m), (crLoop k (f : Int) s6).2)) := (show _ = _ from by rw [HT0.out, HC.out, hm.out])
              have hmI : PtsI m := by rw [hm.out]; exact crLoop_I k _ _ (by omega) (by omega)
              have HMI := Lib.hid hmI
              generalize (crLoop k (f : Int) s6).2 = sF at *
              clear HT0 HC hm hmI c0 c1' c2 c3 c4
              have q0 := hMr.b1.cell 0
              have hE := End_s18 hRr
              go_wp2_with fail
              rcases errv_cases (rEnd sF) with ⟨h0, hev⟩ | ⟨k, hk, hke, hev⟩
              · rw [hev] at hE
                have HE := Lib.hid hE
                have HN0 := Lib.hid h0
                clear hE hev h0
                refine HE.out.mono ?_
                rintro e w7 ⟨rfl, rfl⟩
                obtain ⟨c0, c1', c2, c3, c4, -⟩ := Blk.five hMr.b0
                go_wp2_with fail
                refine (CrCheck_any f nx tt q m _ (Own.sl hOr) HMI.out).mono ?_
                rintro e w8 ⟨rfl, hb8⟩
                replace hMr := hMr.call hb8
                have hO8 := Own.below hOr hb8
                clear hb8 q0 c0 c1' c2 c3 c4 hRr hOr HE
                rcases errv_cases (crchk ((f : Int), (nx : Int), (tt : Int), (q : Int), m)) with ⟨h0, hev⟩ | ⟨k, hk, hke, hev⟩
                · have HT := Lib.hid (show crTake b = (((f : Int), (nx : Int), (tt : Int), (q : Int), m), 0) from by rw [HT1.out]; exact crEnd_3 HN0.out h0)
                  rw [hev]
                  clear hev h0
                  obtain ⟨c0, c1', c2, c3, c4, -⟩ := Blk.five hMr.b0
                  obtain ⟨r0, r1, r2, r3, r4, rf0, rf1, rf2, rf3, rf4⟩ := hMr.b2.five
                  go_wp2_with fail
                  exact bodyPost_ret (res_cr2 rfl rfl (g := w.heap.size) (hMr.b2.set5 _ _ _ _ _)) rfl ⟨E, cE, m, by rw [HT.out]; rfl, (show _ = _ from by rw [HT.out]), (Own.set5 hO8 (by omega) _ _ _ _ _).more (by omega), bel_set5 hMr.bel (Nat.le_refl _) _ _ _ _ _⟩
                · have HT := Lib.hid (show crTake b = ((0, 0, 0, 0, []), crchk ((f : Int), (nx : Int), (tt : Int), (q : Int), m)) from by rw [HT1.out]; exact crEnd_2 HN0.out (by dsimp only; omega))
                  have HEV := Lib.hid hev
                  rw [hev]
                  have hRes := hMr.b2
                  have hw := hMr.bel
                  clear hev hke hMr hO8
                  obtain ⟨r0, r1, r2, r3, r4, rf0, rf1, rf2, rf3, rf4⟩ := hRes.five
                  go_wp2_with fail
                  exact bodyPost_ret (res_cr2 rfl rfl (g := w.heap.size) (hRes.set5 _ _ _ _ _)) rfl ⟨none, 0, [], by rw [HT.out]; dsimp only; rw [HEV.out]; rfl, (show _ = _ from by rw [HT.out]), Own.none_ _ _ _ _, bel_set5 hw (Nat.le_refl _) _ _ _ _ _⟩
              · have HT := Lib.hid (show crTake b = ((0, 0, 0, 0, []), rEnd sF) from by rw [HT1.out]; exact crEnd_1 (by dsimp only; omega))
                have HEV := Lib.hid hev
                rw [hev] at hE
                have HE := Lib.hid hE
                clear hev hke hE
                refine HE.out.mono ?_
                rintro e w7 ⟨rfl, rfl⟩
                have hRes := hMr.b2
                have hw := hMr.bel
                clear hMr hOr
                obtain ⟨r0, r1, r2, r3, r4, rf0, rf1, rf2, rf3, rf4⟩ := hRes.five
                go_wp2_with fail
                exact bodyPost_ret (res_cr2 rfl rfl (g := w.heap.size) (hRes.set5 _ _ _ _ _)) rfl ⟨none, 0, [], by rw [HT.out]; dsimp only; rw [HEV.out]; rfl, (show _ = _ from by rw [HT.out]), Own.none_ _ _ _ _, bel_set5 hw (Nat.le_refl _) _ _ _ _ _⟩
  · have HT := Lib.hid (show crTake b = ((0, 0, 0, 0, []), (fone b).2) from by unfold crTake; rw [if_pos (by omega)])
    have HEV := Lib.hid hev
    rw [hev]
    have hRes := hM.b0
    have hw := hM.bel
    clear hev hke hfl
    obtain ⟨r0, r1, r2, r3, r4, rf0, rf1, rf2, rf3, rf4⟩ := hRes.five
    go_wp2_with fail
    exact bodyPost_ret (res_cr2 rfl rfl (g := w.heap.size) (hRes.set5 _ _ _ _ _)) rfl ⟨none, 0, [], by rw [HT.out]; dsimp only; rw [HEV.out]; rfl, (show _ = _ from by rw [HT.out]), Own.none_ _ _ _ _, bel_set5 hw (Nat.le_refl _) _ _ _ _ _⟩
end Go.Proofs.YtabnndjdkjkciaaGreatDoor
