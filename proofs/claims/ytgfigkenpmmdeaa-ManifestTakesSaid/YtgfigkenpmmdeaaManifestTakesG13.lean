/- WHAT IT HOLDS: two parts, two slices of parts, two cursors, compared. | WHAT IT HOLDS: the document's parts, walked: compared, appended, made of the program's. -/
import Derived.Test.YtgfigkenpmmdeaaManifestTakesG08
import Derived.Test.YtgfigkenpmmdeaaManifestTakesG12
namespace Go.Proofs.Ytgfigkenpmmdeaa
open Go.RowKit
attribute [local go_sem ↓] Go.wp_at_zero Go.wp_at_succ

theorem part_int (xs : Array Value) (i : Nat) (v : Value) (h : xs[i]? = some v) (w : World) : (part 3 xs i).run Try.prog w = .ok v w := by
  unfold part
  rw [Sem.run_bind, Try.isAgg3]
  simp [h]
theorem part_dg (p : Pt5) (w : World) : (part 24 (pta p) 3).run Try.prog w = .ok (.agg (dga p.2.2.2)) w := by
  have hd := p.2.2.2.2
  have he : (pta p).extract 3 (3 + 32) = dga p.2.2.2 := by
    apply Array.ext'
    simp [pta, ptl, dga]
    exact List.take_of_length_le (by simp [hd])
  unfold part
  rw [Sem.run_bind, Try.isAgg24]
  simp only [Result.andThen_ok, if_true, Sem.run_bind, Try.sizeOf24, Sem.run_pure]
  rw [he]
theorem equalIn_dg (a b : Dg) (n : Nat) (w : World) : (Op.equalIn (n + 2) 24 (.agg (dga a)) (.agg (dga b))).run Try.prog w = .ok (decide (a = b)) w := by
  unfold dga
  obtain ⟨i, hi⟩ : ∃ i, Try.prog.info? 5 = some i := Option.isSome_iff_exists.1 (by kernel_rfl)
  rw [run_equalIn_array (P := Try.prog) (w := w) (n + 1) (t := 24) (e := 5) (n := 32) (i := i) _ _ Try.underlying24 hi]
  rw [show Try.prog.cellsOf 5 = 1 from by kernel_rfl]
  rw [eqItems_bytes (P := Try.prog) Try.underlying5 n a.1 b.1 w _ (fun i hi => by have := List.mem_range.1 hi; rw [a.2, b.2]; exact ⟨this, this⟩)]
  rw [dg_all]
theorem equalIn_int' (n : Nat) (a b : Int) (w : World) : (Op.equalIn (n + 1) 3 (.int .i64 a) (.int .i64 b)).run Try.prog w = .ok (a == b) w := run_equalIn_int w n 3 .i64 .i64 a b Try.underlying3
theorem part_pt0 (q : Pt5) (w : World) : (part 3 (pta q) 0).run Try.prog w = .ok (.int .i64 q.1) w := part_int _ 0 _ (by simp [pta, ptl]) w
theorem part_pt1 (q : Pt5) (w : World) : (part 3 (pta q) 1).run Try.prog w = .ok (.int .i64 q.2.1) w := part_int _ 1 _ (by simp [pta, ptl]) w
theorem part_pt2 (q : Pt5) (w : World) : (part 3 (pta q) 2).run Try.prog w = .ok (.int .i64 q.2.2.1) w := part_int _ 2 _ (by simp [pta, ptl]) w
theorem eqF_cons (n : Nat) (xs ys : Array Value) (fl : Field) (fs : List Field) (w : World) {x y : Value} {b c : Bool} {T : TypeId} {k : Nat} (hn : fl.name ≠ "_") (ht : fl.type = T) (hk : fl.offset = k) (ha : (part T xs k).run Try.prog w = .ok x w) (hb : (part T ys k).run Try.prog w = .ok y w)
    (he : (Op.equalIn n T x y).run Try.prog w = .ok b w) (hr : (Op.eqFields n xs ys fs).run Try.prog w = .ok c w) : (Op.eqFields n xs ys (fl :: fs)).run Try.prog w = .ok (b && c) w := by
  subst ht hk
  simp only [Op.eqFields, hn, ne_eq, not_false_eq_true, if_true, Sem.run_bind, ha, hb, he, Result.andThen_ok]
  cases b
  · rfl
  · exact hr
theorem bool_pt (p1 p2 p3 q1 q2 q3 : Int) (p4 q4 : Dg) : ((p1 == q1) && ((p2 == q2) && ((p3 == q3) && (decide (p4 = q4) && true)))) = decide ((p1, p2, p3, p4) = (q1, q2, q3, q4)) := by
  rw [Bool.eq_iff_iff]
  simp only [Bool.and_eq_true, beq_iff_eq, decide_eq_true_eq, Prod.mk.injEq, and_true]
theorem eqFields_pt (n : Nat) (p p' : Pt5) (w : World) (f0 f1 f2 f3 : Field) (n0 : f0.name ≠ "_") (n1 : f1.name ≠ "_") (n2 : f2.name ≠ "_") (n3 : f3.name ≠ "_") (t0 : f0.type = 3) (t1 : f1.type = 3) (t2 : f2.type = 3) (t3 : f3.type = 24) (o0 : f0.offset = 0) (o1 : f1.offset = 1) (o2 : f2.offset = 2) (o3 : f3.offset = 3) :
    (Op.eqFields (n + 2) (pta p) (pta p') [f0, f1, f2, f3]).run Try.prog w = .ok (decide (p = p')) w := by
  obtain ⟨p1, p2, p3, p4⟩ := p
  obtain ⟨q1, q2, q3, q4⟩ := p'
  rw [← bool_pt]
  refine eqF_cons _ _ _ _ _ _ n0 t0 o0 (part_pt0 _ w) (part_pt0 _ w) (equalIn_int' (n + 1) _ _ w) ?_
  refine eqF_cons _ _ _ _ _ _ n1 t1 o1 (part_pt1 _ w) (part_pt1 _ w) (equalIn_int' (n + 1) _ _ w) ?_
  refine eqF_cons _ _ _ _ _ _ n2 t2 o2 (part_pt2 _ w) (part_pt2 _ w) (equalIn_int' (n + 1) _ _ w) ?_
  refine eqF_cons _ _ _ _ _ _ n3 t3 o3 (part_dg _ w) (part_dg _ w) (equalIn_dg _ _ n w) ?_
  simp only [Op.eqFields, Sem.run_pure]
theorem fields_pt : ∃ f0 f1 f2 f3 : Field, (Try.prog.fieldsOf 68).toList = [f0, f1, f2, f3] ∧ f0.name ≠ "_" ∧ f1.name ≠ "_" ∧ f2.name ≠ "_" ∧ f3.name ≠ "_" ∧ f0.type = 3 ∧ f1.type = 3 ∧ f2.type = 3 ∧ f3.type = 24 ∧ f0.offset = 0 ∧ f1.offset = 1 ∧ f2.offset = 2 ∧ f3.offset = 3 := by
  simp only [Program.fieldsOf, Try.underlying68, List.toList_toArray]
  exact ⟨_, _, _, _, rfl, by decide, by decide, by decide, by decide, rfl, rfl, rfl, rfl, rfl, rfl, rfl, rfl⟩
theorem equalIn_pt (p p' : Pt5) (w : World) : (Op.equalIn 10000 68 (.agg (pta p)) (.agg (pta p'))).run Try.prog w = .ok (decide (p = p')) w := by
  obtain ⟨f0, f1, f2, f3, hf, n0, n1, n2, n3, t0, t1, t2, t3, o0, o1, o2, o3⟩ := fields_pt
  rw [run_equalIn_struct w 9999 68 _ _ (by kernel_rfl) (by kernel_rfl), hf]
  exact eqFields_pt 9997 p p' w f0 f1 f2 f3 n0 n1 n2 n3 t0 t1 t2 t3 o0 o1 o2 o3
theorem neq_pt (p p' : Pt5) (w : World) : (binOp .neq 68 (.agg (pta p)) (.agg (pta p'))).run Try.prog w = .ok (.bool (!decide (p = p'))) w := by
  rw [run_neq_struct, equalIn_pt]
  rfl
theorem eql_pt (p p' : Pt5) (w : World) : (binOp .eql 68 (.agg (pta p)) (.agg (pta p'))).run Try.prog w = .ok (.bool (decide (p = p'))) w := by
  rw [run_eql_struct, equalIn_pt]
  rfl
theorem cells_below {W W' : World} {ad : Addr} {cs : Array Value} (hc : ∀ j u, cs[j]? = some u → W.cell? (ad.add j) = some u) (hb : Below W.heap.size W W') : ∀ j u, cs[j]? = some u → W'.cell? (ad.add j) = some u := fun j u hj =>
  (hb.cell (World.block_lt_of_cell? _ _ (hc j u hj))).trans (hc j u hj)
theorem take_succ_eqP {xs ys : List Pt5} {k : Nat} (h : xs.take k = ys.take k) (hx : k < xs.length) (hy : k < ys.length) (he : xs[k] = ys[k]) : xs.take (k + 1) = ys.take (k + 1) := by
  rw [List.take_succ_eq_append_getElem hx, List.take_succ_eq_append_getElem hy, h, he]
theorem take_neP {xs ys : List Pt5} {k : Nat} (hx : k < xs.length) (hy : k < ys.length) (h : xs[k] ≠ ys[k]) : decide (xs = ys) = false := by
  rw [decide_eq_false_iff_not]
  rintro rfl
  exact h rfl
set_option maxRecDepth 100000 in
set_option maxHeartbeats 1000000 in
theorem PtEqual_any {E G : Option Addr} {cap cap2 : Nat} (ps qs : List Pt5) (w : World) (h : SlP w E cap ps) (h2 : SlP w G cap2 qs) :
    Calls Try.prog 35 #[.slice E ps.length cap, .slice G qs.length cap2] w fun e w' => e = .returned (.bool (decide (ps = qs))) ∧ Below w.heap.size w w' := by
  have hmax := h.len_le
  have hmax2 := h2.len_le
  unfold maxLen at hmax hmax2
  by_cases hl : ps.length = qs.length
  · have HL := Lib.hid hl
    have hlb : ((ps.length : Int) != (qs.length : Int)) = false := by simp [hl]
    have hle1 : ps.length ≤ qs.length := by omega
    have hle2 : qs.length ≤ ps.length := by omega
    clear hl
    go_enter Try.func35, Try.ntmps35
    go_wp2_with fail
    go_loopw [13] (fun x wr => ∃ k : Nat, k ≤ ps.length ∧ x = .int .i64 k ∧ Hid (ps.take k = qs.take k) ∧ Below w.heap.size w wr) (fun x w => ps.length - (intOf x).toNat)
    case atStart => exact ⟨0, Nat.zero_le _, rfl, (show _ = _ from by simp), Below.refl _ _⟩
    case round =>
      obtain ⟨k, hk, rfl, hall, hbr⟩ := hrel
      by_cases hlt : k < ps.length
      · have hlt2 : k < qs.length := by omega
        obtain ⟨ad, b, o, rfl, had, hcc⟩ := (h.below hbr).at hlt
        obtain ⟨ad2, b2, o2, rfl, had2, hdd⟩ := (h2.below hbr).at hlt2
        have hnx := Lib.hid (take_succ_eqP hall.out hlt hlt2)
        have hno := Lib.hid (take_neP hlt hlt2)
        generalize ps[k] = p at *
        generalize qs[k] = p' at *
        have hnn := neq_pt p p'
        obtain ⟨z, hz⟩ : ∃ z, decide (p = p') = z := ⟨_, rfl⟩
        rw [hz] at hnn
        have HZ := Lib.hid hz
        have HC1 := Lib.hid (fun W (hW : Below wr.heap.size wr W) => cells_below hcc hW)
        have HC2 := Lib.hid (fun W (hW : Below wr.heap.size wr W) => cells_below hdd hW)
        have hk0 : 0 ≤ (k : Int) := by omega
        have hk1 : (k : Int) < (ps.length : Int) := by omega
        have hk2 : (k : Int) < (qs.length : Int) := by omega
        clear hcc hdd hz
        go_upto_region 6 with (fail)
        have hst : Below wr.heap.size wr wr.drew := (Below.refl _ _).drew
        go_cut [24] (fun s24 wz => s24 = .bool (!z) ∧ Below wr.heap.size wr wz)
        case first =>
          refine wp_region_held_drew (S := (fun W => Below wr.heap.size wr W)) (by kernel_rfl) ?_ (fun hHeld => ?_)
          · first | exact hst | exact hHeld
          refine wpAnyH_take (i := 0) (oi := ⟨some 16, _, _, _, _, _⟩) (v := ?_) rfl (by kernel_rfl) (by kernel_rfl) (by kernel_rfl) (fun _ _ _ h => h) (Or.inl ⟨by kernel_rfl, ?_⟩) (by assumption) ?_
          rotate_left
          · (intro wS hSw; (try dsimp only at hSw); clear hSw; go_simp; (try with_reducible rfl))
          (try simp only [Act.put, List.setIfInBounds_toArray, List.set_cons_zero, List.set_cons_succ])
          refine wpAnyH_take (i := 1) (oi := ⟨some 17, _, _, _, _, _⟩) (v := ?_) rfl (by kernel_rfl) (by kernel_rfl) (by kernel_rfl) (fun _ _ _ h => h) (Or.inl ⟨by kernel_rfl, ?_⟩) (by assumption) ?_
          rotate_left
          · (intro wS hSw; (try dsimp only at hSw); clear hSw; go_simp; (try with_reducible rfl))
          (try simp only [Act.put, List.setIfInBounds_toArray, List.set_cons_zero, List.set_cons_succ])
          refine wpAnyH_take (i := 2) (oi := ⟨some 18, _, _, _, _, _⟩) (v := ?_) rfl (by kernel_rfl) (by kernel_rfl) (by kernel_rfl) (fun _ _ _ h => h) (Or.inl ⟨by kernel_rfl, ?_⟩) (by assumption) ?_
          rotate_left
          · (intro wS hSw; (try dsimp only at hSw); clear hSw; go_simp; (try with_reducible rfl))
          (try simp only [Act.put, List.setIfInBounds_toArray, List.set_cons_zero, List.set_cons_succ])
          refine wpAnyH_take (i := 4) (oi := ⟨some 20, _, _, _, _, _⟩) (v := ?_) rfl (by kernel_rfl) (by kernel_rfl) (by kernel_rfl) (fun _ _ _ h => h) (Or.inl ⟨by kernel_rfl, ?_⟩) (by assumption) ?_
          rotate_left
          · (intro wS hSw; (try dsimp only at hSw); clear hSw; go_simp; (try with_reducible rfl))
          (try simp only [Act.put, List.setIfInBounds_toArray, List.set_cons_zero, List.set_cons_succ])
          refine wpAnyH_take (i := 5) (oi := ⟨some 21, _, _, _, _, _⟩) (v := ?_) rfl (by kernel_rfl) (by kernel_rfl) (by kernel_rfl) (fun _ _ _ h => h) (Or.inl ⟨by kernel_rfl, ?_⟩) (by assumption) ?_
          rotate_left
          · (intro wS hSw; (try dsimp only at hSw); clear hSw; go_simp; (try with_reducible rfl))
          (try simp only [Act.put, List.setIfInBounds_toArray, List.set_cons_zero, List.set_cons_succ])
          refine wpAnyH_take (i := 6) (oi := ⟨some 22, _, _, _, _, _⟩) (v := ?_) rfl (by kernel_rfl) (by kernel_rfl) (by kernel_rfl) (fun _ _ _ h => h) (Or.inl ⟨by kernel_rfl, ?_⟩) (by assumption) ?_
          rotate_left
          · (intro wS hSw; (try dsimp only at hSw); clear hSw; go_simp; (try with_reducible rfl))
          (try simp only [Act.put, List.setIfInBounds_toArray, List.set_cons_zero, List.set_cons_succ])
          refine wpAnyH_ready (rs := [3, 7]) (by kernel_rfl) (by simp) ?_
          refine AllReadyH.cons (o := ⟨some 19, _, _, _, _, _⟩) rfl (fun K hK => ?_) ?_
          · (first | (refine step_loadP (by kernel_rfl) _ rfl ⟨b, o, none⟩ p rfl (HC1.out _ hHeld) ?_) | (refine step_loadP (by kernel_rfl) _ rfl ⟨b2, o2, none⟩ p' rfl (HC2.out _ hHeld) ?_))
            refine hK.out _ _ ?_ (fun hHeld => ?_)
            · ((try dsimp only); (first | exact hst | exact hHeld))
            clear hK K
            (try simp only [Act.put, List.setIfInBounds_toArray, List.set_cons_zero, List.set_cons_succ])
            refine wpAnyH_ready (rs := [7]) (by kernel_rfl) (by simp) ?_
            refine AllReadyH.cons (o := ⟨some 23, _, _, _, _, _⟩) rfl (fun K hK => ?_) AllReadyH.nil
            (first | (refine step_loadP (by kernel_rfl) _ rfl ⟨b, o, none⟩ p rfl (HC1.out _ hHeld) ?_) | (refine step_loadP (by kernel_rfl) _ rfl ⟨b2, o2, none⟩ p' rfl (HC2.out _ hHeld) ?_))
            refine hK.out _ _ ?_ (fun hHeld => ?_)
            · ((try dsimp only); (first | exact hst | exact hHeld))
            clear hK K
            (try simp only [Act.put, List.setIfInBounds_toArray, List.set_cons_zero, List.set_cons_succ])
            refine wpAnyH_take (i := 8) (oi := ⟨some 24, _, _, _, _, _⟩) (v := ?_) rfl (by kernel_rfl) (by kernel_rfl) (by kernel_rfl) (fun _ _ _ h => h) (Or.inl ⟨by kernel_rfl, ?_⟩) (by assumption) ?_
            rotate_left
            · (intro wS hSw; (try dsimp only at hSw); clear hSw; go_simp; (try with_reducible rfl))
            (try simp only [Act.put, List.setIfInBounds_toArray, List.set_cons_zero, List.set_cons_succ])
            refine wpAnyH_done (by kernel_rfl) ?_ _
            (go_wp2_with fail; go_meet; exact ⟨rfl, hHeld⟩)
          refine AllReadyH.cons (o := ⟨some 23, _, _, _, _, _⟩) rfl (fun K hK => ?_) ?_
          · (first | (refine step_loadP (by kernel_rfl) _ rfl ⟨b, o, none⟩ p rfl (HC1.out _ hHeld) ?_) | (refine step_loadP (by kernel_rfl) _ rfl ⟨b2, o2, none⟩ p' rfl (HC2.out _ hHeld) ?_))
            refine hK.out _ _ ?_ (fun hHeld => ?_)
            · ((try dsimp only); (first | exact hst | exact hHeld))
            clear hK K
            (try simp only [Act.put, List.setIfInBounds_toArray, List.set_cons_zero, List.set_cons_succ])
            refine wpAnyH_ready (rs := [3]) (by kernel_rfl) (by simp) ?_
            refine AllReadyH.cons (o := ⟨some 19, _, _, _, _, _⟩) rfl (fun K hK => ?_) AllReadyH.nil
            (first | (refine step_loadP (by kernel_rfl) _ rfl ⟨b, o, none⟩ p rfl (HC1.out _ hHeld) ?_) | (refine step_loadP (by kernel_rfl) _ rfl ⟨b2, o2, none⟩ p' rfl (HC2.out _ hHeld) ?_))
            refine hK.out _ _ ?_ (fun hHeld => ?_)
            · ((try dsimp only); (first | exact hst | exact hHeld))
            clear hK K
            (try simp only [Act.put, List.setIfInBounds_toArray, List.set_cons_zero, List.set_cons_succ])
            refine wpAnyH_take (i := 8) (oi := ⟨some 24, _, _, _, _, _⟩) (v := ?_) rfl (by kernel_rfl) (by kernel_rfl) (by kernel_rfl) (fun _ _ _ h => h) (Or.inl ⟨by kernel_rfl, ?_⟩) (by assumption) ?_
            rotate_left
            · (intro wS hSw; (try dsimp only at hSw); clear hSw; go_simp; (try with_reducible rfl))
            (try simp only [Act.put, List.setIfInBounds_toArray, List.set_cons_zero, List.set_cons_succ])
            refine wpAnyH_done (by kernel_rfl) ?_ _
            (go_wp2_with fail; go_meet; exact ⟨rfl, hHeld⟩)
          exact AllReadyH.nil
        case rest =>
          obtain ⟨rfl, hb5⟩ := hcut
          have hn5 := bel_call hbr hb5
          cases z
          · have hr := Lib.hid (hno.out (by have := HZ.out; simpa using this))
            clear HZ hno hnx
            go_wp2_with fail
            go_ret
            exact ⟨by rw [hr.out]; rfl, hn5⟩
          · have hr := Lib.hid (hnx.out (by have := HZ.out; simpa using this))
            clear HZ hno hnx
            go_wp2_with fail
            go_roundw
            case rel => exact ⟨k + 1, hlt, by go_num, hr, hn5⟩
            case measure => simp [intOf]; omega
      · have h5 := hall.out
        rw [List.take_of_length_le (by omega), List.take_of_length_le (by omega)] at h5
        have HD := Lib.hid (show decide (ps = qs) = true from decide_eq_true h5)
        clear h5 hall
        go_wp2_with fail
        go_ret
        exact ⟨by rw [HD.out]; rfl, hbr⟩
  · have hlb : ((ps.length : Int) != (qs.length : Int)) = true := by simp; omega
    have hr := Lib.hid (show decide (ps = qs) = false from by rw [decide_eq_false_iff_not]; rintro rfl; exact hl rfl)
    clear hl
    go_enter Try.func35, Try.ntmps35
    go_wp2_with fail
    go_ret
    exact ⟨by rw [hr.out]; rfl, Below.refl _ _⟩
end Go.Proofs.Ytgfigkenpmmdeaa

namespace Go.Proofs.Ytgfigkenpmmdeaa
open Go.RowKit
attribute [local go_sem ↓] Go.wp_at_zero Go.wp_at_succ

theorem dg_cases {Q : Dg → Prop} (h : ∀ b0 b1 b2 b3 b4 b5 b6 b7 b8 b9 b10 b11 b12 b13 b14 b15 b16 b17 b18 b19 b20 b21 b22 b23 b24 b25 b26 b27 b28 b29 b30 b31 : UInt8, Q ⟨[b0, b1, b2, b3, b4, b5, b6, b7, b8, b9, b10, b11, b12, b13, b14, b15, b16, b17, b18, b19, b20, b21, b22, b23, b24, b25, b26, b27, b28, b29, b30, b31], rfl⟩) : ∀ d, Q d := by
  rintro ⟨l, hl⟩
  match l, hl with
  | [b0, b1, b2, b3, b4, b5, b6, b7, b8, b9, b10, b11, b12, b13, b14, b15, b16, b17, b18, b19, b20, b21, b22, b23, b24, b25, b26, b27, b28, b29, b30, b31], _ => exact h b0 b1 b2 b3 b4 b5 b6 b7 b8 b9 b10 b11 b12 b13 b14 b15 b16 b17 b18 b19 b20 b21 b22 b23 b24 b25 b26 b27 b28 b29 b30 b31
theorem eql_dgR (a b : Dg) (w : World) : (binOp .eql 33 (.agg (dga a)) (.agg (dga b))).run Try.prog w = .ok (.bool (decide (a = b))) w := by
  unfold dga
  rw [run_eql_struct]
  obtain ⟨i, hi⟩ : ∃ i, Try.prog.info? 5 = some i := Option.isSome_iff_exists.1 (by kernel_rfl)
  rw [run_equalIn_array (P := Try.prog) (w := w) 9999 (t := 33) (e := 5) (n := 32) (i := i) _ _ Try.underlying33 hi]
  rw [show Try.prog.cellsOf 5 = 1 from by kernel_rfl]
  rw [eqItems_bytes (P := Try.prog) Try.underlying5 9998 a.1 b.1 w _ (fun i hi => by have := List.mem_range.1 hi; rw [a.2, b.2]; exact ⟨this, this⟩)]
  rw [dg_all]
  rfl
theorem part_dgR (p : Pt5) (w : World) : (part 33 (pta p) 3).run Try.prog w = .ok (.agg (dga p.2.2.2)) w := by
  have hd := p.2.2.2.2
  have he : (pta p).extract 3 (3 + 32) = dga p.2.2.2 := by
    apply Array.ext'
    simp [pta, ptl, dga]
    exact List.take_of_length_le (by simp [hd])
  unfold part
  rw [Sem.run_bind, Try.isAgg33]
  simp only [Result.andThen_ok, if_true, Sem.run_bind, Try.sizeOf33, Sem.run_pure]
  rw [he]
theorem equalIn_dgR (a b : Dg) (n : Nat) (w : World) : (Op.equalIn (n + 2) 33 (.agg (dga a)) (.agg (dga b))).run Try.prog w = .ok (decide (a = b)) w := by
  unfold dga
  obtain ⟨i, hi⟩ : ∃ i, Try.prog.info? 5 = some i := Option.isSome_iff_exists.1 (by kernel_rfl)
  rw [run_equalIn_array (P := Try.prog) (w := w) (n + 1) (t := 33) (e := 5) (n := 32) (i := i) _ _ Try.underlying33 hi]
  rw [show Try.prog.cellsOf 5 = 1 from by kernel_rfl]
  rw [eqItems_bytes (P := Try.prog) Try.underlying5 n a.1 b.1 w _ (fun i hi => by have := List.mem_range.1 hi; rw [a.2, b.2]; exact ⟨this, this⟩)]
  rw [dg_all]
theorem neq_dgR (a b : Dg) (w : World) : (binOp .neq 33 (.agg (dga a)) (.agg (dga b))).run Try.prog w = .ok (.bool (!decide (a = b))) w := by
  have h : (Op.equalIn 10000 33 (.agg (dga a)) (.agg (dga b))).run Try.prog w = .ok (decide (a = b)) w := equalIn_dgR a b 9998 w
  rw [run_neq_struct, h]
  rfl
theorem eqFields_ptR (n : Nat) (p p' : Pt5) (w : World) (f0 f1 f2 f3 : Field) (n0 : f0.name ≠ "_") (n1 : f1.name ≠ "_") (n2 : f2.name ≠ "_") (n3 : f3.name ≠ "_") (t0 : f0.type = 3) (t1 : f1.type = 3) (t2 : f2.type = 3) (t3 : f3.type = 33) (o0 : f0.offset = 0) (o1 : f1.offset = 1) (o2 : f2.offset = 2) (o3 : f3.offset = 3) :
    (Op.eqFields (n + 2) (pta p) (pta p') [f0, f1, f2, f3]).run Try.prog w = .ok (decide (p = p')) w := by
  obtain ⟨p1, p2, p3, p4⟩ := p
  obtain ⟨q1, q2, q3, q4⟩ := p'
  rw [← bool_pt]
  refine eqF_cons _ _ _ _ _ _ n0 t0 o0 (part_pt0 _ w) (part_pt0 _ w) (equalIn_int' (n + 1) _ _ w) ?_
  refine eqF_cons _ _ _ _ _ _ n1 t1 o1 (part_pt1 _ w) (part_pt1 _ w) (equalIn_int' (n + 1) _ _ w) ?_
  refine eqF_cons _ _ _ _ _ _ n2 t2 o2 (part_pt2 _ w) (part_pt2 _ w) (equalIn_int' (n + 1) _ _ w) ?_
  refine eqF_cons _ _ _ _ _ _ n3 t3 o3 (part_dgR _ w) (part_dgR _ w) (equalIn_dgR _ _ n w) ?_
  simp only [Op.eqFields, Sem.run_pure]
theorem fields_ptR : ∃ f0 f1 f2 f3 : Field, (Try.prog.fieldsOf 83).toList = [f0, f1, f2, f3] ∧ f0.name ≠ "_" ∧ f1.name ≠ "_" ∧ f2.name ≠ "_" ∧ f3.name ≠ "_" ∧ f0.type = 3 ∧ f1.type = 3 ∧ f2.type = 3 ∧ f3.type = 33 ∧ f0.offset = 0 ∧ f1.offset = 1 ∧ f2.offset = 2 ∧ f3.offset = 3 := by
  simp only [Program.fieldsOf, Try.underlying83, List.toList_toArray]
  exact ⟨_, _, _, _, rfl, by decide, by decide, by decide, by decide, rfl, rfl, rfl, rfl, rfl, rfl, rfl, rfl⟩
theorem equalIn_ptR (p p' : Pt5) (w : World) : (Op.equalIn 10000 83 (.agg (pta p)) (.agg (pta p'))).run Try.prog w = .ok (decide (p = p')) w := by
  obtain ⟨f0, f1, f2, f3, hf, n0, n1, n2, n3, t0, t1, t2, t3, o0, o1, o2, o3⟩ := fields_ptR
  rw [run_equalIn_struct w 9999 83 _ _ (by kernel_rfl) (by kernel_rfl), hf]
  exact eqFields_ptR 9997 p p' w f0 f1 f2 f3 n0 n1 n2 n3 t0 t1 t2 t3 o0 o1 o2 o3
theorem neq_ptR (p p' : Pt5) (w : World) : (binOp .neq 83 (.agg (pta p)) (.agg (pta p'))).run Try.prog w = .ok (.bool (!decide (p = p'))) w := by
  rw [run_neq_struct, equalIn_ptR]
  rfl
theorem eql_ptR (p p' : Pt5) (w : World) : (binOp .eql 83 (.agg (pta p)) (.agg (pta p'))).run Try.prog w = .ok (.bool (decide (p = p'))) w := by
  rw [run_eql_struct, equalIn_ptR]
  rfl
theorem pt_infoR : (Try.prog.info? 83).map (fun i => (i.zero, i.size, i.bytes)) = some (some (.agg (pta (0, 0, 0, dg0))), 35, 56) := by kernel_rfl
abbrev OwnR (w : World) (base : Nat) (A : Option Addr) (c : Nat) (ps : List Pt5) : Prop := Own w base 83 35 A ps.length c (ps.flatMap ptl)
theorem step_partsR {w : World} {ops : Array Oper} {o : Oper} {a : Act} {K : Act → World → Prop} {Q : Exit → Act → World → Prop} {X : Prop} (hw : Region.wanted o (yielded ops a.tmps) = true) (s x : Operand)
    (ho : o.op = .call { callee := .builtin .append, args := #[s, x], argTypes := #[34, 34] })
    (base : Nat) (A : Option Addr) (c : Nat) (l : List Pt5) (hs : a.eval s = .slice A l.length c) (hown : OwnR w base A c l)
    (A2 : Option Addr) (c2 n2 : Nat) (l2 : List Pt5) (hn2 : n2 = l2.length) (hx : a.eval x = .slice A2 n2 c2) (hr : SlP w A2 c2 l2) (hlen : l.length + l2.length ≤ 1000000000) (hbase : base ≤ w.heap.size)
    (h : ∀ A' c' (m : List Pt5) w', Hid (m = l ++ l2) → OwnR w' base A' c' m → w.grownBy w' (A.map (·.block)) → Below base w w' → K (a.put o.dst (.slice A' m.length c')) w') :
    if Region.wanted o (yielded ops a.tmps) = true then Oper.wp Try.prog o a w K Q else X := by
  subst hn2
  obtain ⟨i0, hi, hz0, hz1, hz2⟩ := info_parts pt_infoR
  refine step_append hw s x 34 ho base 83 i0 _ 35 56 Try.underlying34 hi hz0 hz1 hz2 (by rw [show (Value.agg (pta (0, 0, 0, dg0))).cells.size = (pta (0, 0, 0, dg0)).size from rfl, pta_size]) (by decide) A l.length c (l.flatMap ptl) hs hown A2 l2.length c2 (l2.flatMap ptl) hx hr (one_ptl l2) (by omega) (by simp only [maxLen]; omega) hbase ?_
  intro A' c' w' hap
  rw [← List.length_append]
  refine h A' c' (l ++ l2) w' rfl ?_ hap.grown (hap.below hown hbase)
  show Own w' base 83 35 A' (l ++ l2).length c' ((l ++ l2).flatMap ptl)
  rw [List.length_append, List.flatMap_append]
  exact hap.own
theorem wpl_partsR {w : World} {ops : Array Oper} {rest : List Oper} {o : Oper} {a : Act} {Q : Exit → Act → World → Prop} (hw : Region.wanted o (yielded ops a.tmps) = true) (s x : Operand)
    (ho : o.op = .call { callee := .builtin .append, args := #[s, x], argTypes := #[34, 34] })
    (base : Nat) (A : Option Addr) (c : Nat) (l : List Pt5) (hs : a.eval s = .slice A l.length c) (hown : OwnR w base A c l)
    (A2 : Option Addr) (c2 n2 : Nat) (l2 : List Pt5) (hn2 : n2 = l2.length) (hx : a.eval x = .slice A2 n2 c2) (hr : SlP w A2 c2 l2) (hlen : l.length + l2.length ≤ 1000000000) (hbase : base ≤ w.heap.size)
    (h : ∀ A' c' (m : List Pt5) w', Hid (m = l ++ l2) → OwnR w' base A' c' m → w.grownBy w' (A.map (·.block)) → Below base w w' → wpList Try.prog ops Q rest (a.put o.dst (.slice A' m.length c')) w') : wpList Try.prog ops Q (o :: rest) a w :=
  wpList_step fun _ hK => step_partsR hw s x ho base A c l hs hown A2 c2 n2 l2 hn2 hx hr hlen hbase fun A' c' m w' h1 h2 h3 h4 => hK _ _ (h A' c' m w' h1 h2 h3 h4)
theorem step_loadR {w : World} {ops : Array Oper} {o : Oper} {a : Act} {K : Act → World → Prop} {Q : Exit → Act → World → Prop} {X : Prop} (hgd : Region.wanted o (yielded ops a.tmps) = true) (x : Operand) (ho : o.op = .load 83 x)
    (ad : Addr) (p : Pt5) (hx : a.eval x = .pointer (some ad)) (hc : ∀ j u, (pta p)[j]? = some u → w.cell? (ad.add j) = some u)
    (h : K (a.put o.dst (.agg (pta p))) w) : if Region.wanted o (yielded ops a.tmps) = true then Oper.wp Try.prog o a w K Q else X := by
  rw [if_pos hgd]
  exact wp_loadA 83 x ho ad (pta p) hx hc _ Try.underlying83 rfl (by rw [pta_size]; kernel_rfl) h
theorem step_litR {w : World} {ops : Array Oper} {o : Oper} {a : Act} {K : Act → World → Prop} {Q : Exit → Act → World → Prop} {X : Prop} (hgd : Region.wanted o (yielded ops a.tmps) = true) (x : Operand) (ho : o.op = .buildSlice 34 1 #[(0, x)])
    (p : Pt5) (hx : a.eval x = .agg (pta p)) (h : K (a.put o.dst (.slice (some ⟨w.heap.size, 0, none⟩) 1 1)) (w.alloc (.cells (pta p) 83))) : if Region.wanted o (yielded ops a.tmps) = true then Oper.wp Try.prog o a w K Q else X := by
  rw [if_pos hgd]
  obtain ⟨i0, hi, hz0, hz1, hz2⟩ := info_parts pt_infoR
  refine wp_buildSlice 34 83 1 _ ho (pta p) i0 _ Try.underlying34 hi hz0 (by rw [hz1]; decide) (by rw [hz1]; decide) ?_ h
  rw [hz1]
  have hl : ((#[(0, x)] : Array (Nat × Operand)).map fun (i, x) => (i, a.eval x)).toList = ([Value.agg (pta p)].zipIdx 0).map fun x => (x.2, x.1) := by simp [hx]
  have hps := pta_size p
  rw [hl, Go.Great.fill_whole (s := 35) (by decide) [Value.agg (pta p)] _ (by intro v hv; rw [List.mem_singleton.1 hv]; exact hps) (by simp)]
  simp [Value.cells]
theorem litR (W : World) (p : Pt5) : SlP (W.alloc (.cells (pta p) 83)) (some ⟨W.heap.size, 0, none⟩) 1 [p] := by
  have h := Sl.litsS W 35 1 (ptl p) 83 (by rw [ptl_len]) (by simp [maxLen])
  show Sl _ 35 _ 1 1 ([p].flatMap ptl)
  simpa [pta] using h
theorem wpl_litR {w : World} {ops : Array Oper} {rest : List Oper} {o : Oper} {a : Act} {Q : Exit → Act → World → Prop} (hgd : Region.wanted o (yielded ops a.tmps) = true) (x : Operand) (ho : o.op = .buildSlice 34 1 #[(0, x)])
    (p : Pt5) (hx : a.eval x = .agg (pta p)) (h : wpList Try.prog ops Q rest (a.put o.dst (.slice (some ⟨w.heap.size, 0, none⟩) 1 1)) (w.alloc (.cells (pta p) 83))) : wpList Try.prog ops Q (o :: rest) a w :=
  wpList_step fun _ hK => step_litR hgd x ho p hx (hK _ _ h)
theorem built_ptR (f x y : Int) : ∀ d : Dg, Try.prog.built 83 [(0, .int .i64 f), (1, .int .i64 x), (2, .int .i64 y), (3, .agg (dga d))] = some (pta (f, x, y, d)) := by
  refine dg_cases ?_
  intros
  kernel_rfl
theorem wpl_buildPR {w : World} {ops : Array Oper} {rest : List Oper} {o : Oper} {a : Act} {Q : Exit → Act → World → Prop} (hgd : o.guard = none) (x0 x1 x2 x3 : Operand) (ho : o.op = .build 83 #[(0, x0), (1, x1), (2, x2), (3, x3)])
    {f x y : Int} {d : Dg} (h0 : a.eval x0 = .int .i64 f) (h1 : a.eval x1 = .int .i64 x) (h2 : a.eval x2 = .int .i64 y) (h3 : a.eval x3 = .agg (dga d))
    (h : wpList Try.prog ops Q rest (a.put o.dst (.agg (pta (f, x, y, d)))) w) : wpList Try.prog ops Q (o :: rest) a w := by
  have hl : ((#[(0, x0), (1, x1), (2, x2), (3, x3)] : Array (Nat × Operand)).map fun (i, x) => (i, a.eval x)).toList = [(0, .int .i64 f), (1, .int .i64 x), (2, .int .i64 y), (3, .agg (dga d))] := by
    simp [h0, h1, h2, h3]
  refine wpList_build hgd 83 _ ho ?_ ?_
  · rw [hl, built_ptR]; rfl
  · rw [hl, built_ptR]; exact h
theorem BlP.dg {w : World} {g : Nat} {t : TypeId} {p : Pt5} (h : Blk w g t (pta p)) : ∀ j u, (dga p.2.2.2)[j]? = some u → w.cell? ((⟨g, 3, none⟩ : Addr).add j) = some u := fun j u hj => by
  rw [addr_lit, h.cell]
  replace hj : (bvs p.2.2.2.1)[j]? = some u := by simpa [dga] using hj
  rw [show 3 + j = j + 1 + 1 + 1 from by omega]
  simp only [pta, ptl, List.getElem?_toArray, List.getElem?_cons_succ]
  exact hj
theorem res_ptR {fn : Func} {a : Nat} {tmps : Array Value} {w : World} {g : Nat} {p : Pt5} (hres : fn.results = #[.cell a 83]) (ha : tmps.getD a undef = .pointer (some ⟨g, 0, none⟩)) (hB : Blk w g 83 (pta p)) : (results fn tmps).run Try.prog w = .ok (.agg (pta p)) w := by
  have h := run_loadVar_at (P := Try.prog) w ⟨g, 0, none⟩ 83 (pta p) hB.cells _ Try.underlying83 rfl (by rw [pta_size]; kernel_rfl)
  have ha' : tmps[a]?.getD undef = .pointer (some ⟨g, 0, none⟩) := by simpa using ha
  simp [results, hres, asAddr, h, ha']
set_option maxRecDepth 100000 in
set_option maxHeartbeats 1000000 in
theorem PartOf_any (p : Pt5) (w : World) : Calls Try.prog 34 #[.agg (pta p)] w fun e w' => e = .returned (.agg (pta p)) ∧ Below w.heap.size w w' := by
  have hM := ((Mm.start w).alloc (pta p) 68).alloc (pta (0, 0, 0, dg0)) 83
  rw [show (w.alloc (.cells (pta p) 68)).heap.size = w.heap.size + 1 from by simp] at hM
  have hds := Lib.hid (dga_size p.2.2.2)
  have hps := Lib.hid (pta_size p)
  have hp0 := Lib.hid (pta_size (0, 0, 0, dg0))
  have hpa := Lib.hid (pta_all p)
  go_enter Try.func34, Try.ntmps34
  go_upto_region 1 with (fail)
  refine gen1 (T := fun W => Mm w W [(w.heap.size + 1, 83, pta (0, 0, 0, dg0)), (w.heap.size, 68, pta p)] []) hM (fun w0 hM => ?_)
  obtain ⟨x0, x1, x2⟩ := BlP.three hM.b1
  have hd := Lib.hid (BlP.dg hM.b1)
  go_wp2_with (first | (refine wpl_loadG rfl 24 _ rfl ⟨w.heap.size, 3, none⟩ (dga p.2.2.2) rfl hd.out _ Try.underlying24 rfl (by rw [hds.out]; kernel_rfl) ?_) | (refine wpl_buildPR rfl _ _ _ _ rfl (f := p.1) (x := p.2.1) (y := p.2.2.1) (d := p.2.2.2) rfl rfl rfl rfl ?_) | (refine wpList_store_row rfl 83 _ _ rfl (w.heap.size + 1) (pta p) rfl rfl 83 _ hM.b0 (by rw [hps.out]; kernel_rfl) (by rw [hps.out, hp0.out]) hpa.out ?_))
  exact bodyPost_ret (res_ptR rfl rfl (g := w.heap.size + 1) hM.b0.row) rfl ⟨rfl, below_setRow hM.bel (by omega) _⟩
end Go.Proofs.Ytgfigkenpmmdeaa
