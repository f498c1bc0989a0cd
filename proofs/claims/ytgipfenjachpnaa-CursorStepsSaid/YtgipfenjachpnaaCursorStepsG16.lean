/- WHAT IT HOLDS: two parts, two slices of parts, two cursors, compared. | WHAT IT HOLDS: the law CursorSteps, walked. | WHAT IT HOLDS: the law CrcParts, walked. | WHAT IT HOLDS: the law CrcFinds, walked. | WHAT IT HOLDS: the law FrameFinds, walked. | WHAT IT HOLDS: frame.Join, and the document's frames, walked. | WHAT IT HOLDS: the law FrameJoins, walked. -/
import Derived.Test.YtgipfenjachpnaaCursorStepsG15
import Derived.Test.YtgipfenjachpnaaCursorStepsG12
import Derived.Test.YtgipfenjachpnaaCursorStepsG02
import Derived.Laws.CopyOwn
import Derived.Test.YtgipfenjachpnaaCursorStepsG13
namespace Go.Proofs.Ytgipfenjachpnaa
open Go.RowKit
attribute [local go_sem ↓] Go.wp_at_zero Go.wp_at_succ

theorem part_int (xs : Array Value) (i : Nat) (v : Value) (h : xs[i]? = some v) (w : World) : (part 3 xs i).run Try.prog w = .ok v w := by
  unfold part
  rw [Sem.run_bind, Try.isAgg3]
  simp [h]
theorem part_dg (p : Pt5) (w : World) : (part 49 (pta p) 3).run Try.prog w = .ok (.agg (dga p.2.2.2)) w := by
  have hd := p.2.2.2.2
  have he : (pta p).extract 3 (3 + 32) = dga p.2.2.2 := by
    apply Array.ext'
    simp [pta, ptl, dga]
    exact List.take_of_length_le (by simp [hd])
  unfold part
  rw [Sem.run_bind, Try.isAgg49]
  simp only [Result.andThen_ok, if_true, Sem.run_bind, Try.sizeOf49, Sem.run_pure]
  rw [he]
theorem equalIn_dg (a b : Dg) (n : Nat) (w : World) : (Op.equalIn (n + 2) 49 (.agg (dga a)) (.agg (dga b))).run Try.prog w = .ok (decide (a = b)) w := by
  unfold dga
  obtain ⟨i, hi⟩ : ∃ i, Try.prog.info? 5 = some i := Option.isSome_iff_exists.1 (by kernel_rfl)
  rw [run_equalIn_array (P := Try.prog) (w := w) (n + 1) (t := 49) (e := 5) (n := 32) (i := i) _ _ Try.underlying49 hi]
  rw [show Try.prog.cellsOf 5 = 1 from by kernel_rfl]
  rw [eqItems_bytes (P := Try.prog) Try.underlying5 n a.1 b.1 w _ (fun i hi => by have := List.mem_range.1 hi; rw [a.2, b.2]; exact ⟨this, this⟩)]
  rw [dg_all]
theorem equalIn_int' (n : Nat) (a b : Int) (w : World) : (Op.equalIn (n + 1) 3 (.int .i64 a) (.int .i64 b)).run Try.prog w = .ok (a == b) w := run_equalIn_int w n 3 .i64 .i64 a b Try.underlying3
theorem part_pt0 (q : Pt5) (w : World) : (part 3 (pta q) 0).run Try.prog w = .ok (.int .i64 q.1) w := part_int _ 0 _ (by simp [pta, ptl]) w
theorem part_pt1 (q : Pt5) (w : World) : (part 3 (pta q) 1).run Try.prog w = .ok (.int .i64 q.2.1) w := part_int _ 1 _ (by simp [pta, ptl]) w
theorem part_pt2 (q : Pt5) (w : World) : (part 3 (pta q) 2).run Try.prog w = .ok (.int .i64 q.2.2.1) w := part_int _ 2 _ (by simp [pta, ptl]) w
theorem eqF_cons (n : Nat) (xs ys : Array Value) (fl : Field) (fs : List Field) (w : World) {x y : Value} {b c : Bool} {T : TypeId} {k : Nat} (hn : fl.name ≠ "_") (ht : fl.type = T) (hk : fl.offset = k) (ha : (part T xs k).run Try.prog w = .ok x w) (hb : (part T ys k).run Try.prog w = .ok y w)
    (he : (Op.equalIn n T x y).run Try.prog w = .ok b w) (hr : (Op.eqFields n xs ys fs).run Try.prog w = .ok c w) : (Op.eqFields n xs ys (fl :: fs)).run Try.prog w = .ok (b && c) w := by
  subst ht hk
  simp only [Op.eqFields, hn, ne_eq, not_false_eq_true, if_true, Sem.run_bind, ha, hb, he, Result.andThen_ok]
  cases b
  · rfl
  · exact hr
theorem bool_pt (p1 p2 p3 q1 q2 q3 : Int) (p4 q4 : Dg) : ((p1 == q1) && ((p2 == q2) && ((p3 == q3) && (decide (p4 = q4) && true)))) = decide ((p1, p2, p3, p4) = (q1, q2, q3, q4)) := by
  rw [Bool.eq_iff_iff]
  simp only [Bool.and_eq_true, beq_iff_eq, decide_eq_true_eq, Prod.mk.injEq, and_true]
theorem eqFields_pt (n : Nat) (p p' : Pt5) (w : World) (f0 f1 f2 f3 : Field) (n0 : f0.name ≠ "_") (n1 : f1.name ≠ "_") (n2 : f2.name ≠ "_") (n3 : f3.name ≠ "_") (t0 : f0.type = 3) (t1 : f1.type = 3) (t2 : f2.type = 3) (t3 : f3.type = 49) (o0 : f0.offset = 0) (o1 : f1.offset = 1) (o2 : f2.offset = 2) (o3 : f3.offset = 3) :
    (Op.eqFields (n + 2) (pta p) (pta p') [f0, f1, f2, f3]).run Try.prog w = .ok (decide (p = p')) w := by
  obtain ⟨p1, p2, p3, p4⟩ := p
  obtain ⟨q1, q2, q3, q4⟩ := p'
  rw [← bool_pt]
  refine eqF_cons _ _ _ _ _ _ n0 t0 o0 (part_pt0 _ w) (part_pt0 _ w) (equalIn_int' (n + 1) _ _ w) ?_
  refine eqF_cons _ _ _ _ _ _ n1 t1 o1 (part_pt1 _ w) (part_pt1 _ w) (equalIn_int' (n + 1) _ _ w) ?_
  refine eqF_cons _ _ _ _ _ _ n2 t2 o2 (part_pt2 _ w) (part_pt2 _ w) (equalIn_int' (n + 1) _ _ w) ?_
  refine eqF_cons _ _ _ _ _ _ n3 t3 o3 (part_dg _ w) (part_dg _ w) (equalIn_dg _ _ n w) ?_
  simp only [Op.eqFields, Sem.run_pure]
theorem fields_pt : ∃ f0 f1 f2 f3 : Field, (Try.prog.fieldsOf 57).toList = [f0, f1, f2, f3] ∧ f0.name ≠ "_" ∧ f1.name ≠ "_" ∧ f2.name ≠ "_" ∧ f3.name ≠ "_" ∧ f0.type = 3 ∧ f1.type = 3 ∧ f2.type = 3 ∧ f3.type = 49 ∧ f0.offset = 0 ∧ f1.offset = 1 ∧ f2.offset = 2 ∧ f3.offset = 3 := by
  simp only [Program.fieldsOf, Try.underlying57, List.toList_toArray]
  exact ⟨_, _, _, _, rfl, by decide, by decide, by decide, by decide, rfl, rfl, rfl, rfl, rfl, rfl, rfl, rfl⟩
theorem equalIn_pt (p p' : Pt5) (w : World) : (Op.equalIn 10000 57 (.agg (pta p)) (.agg (pta p'))).run Try.prog w = .ok (decide (p = p')) w := by
  obtain ⟨f0, f1, f2, f3, hf, n0, n1, n2, n3, t0, t1, t2, t3, o0, o1, o2, o3⟩ := fields_pt
  rw [run_equalIn_struct w 9999 57 _ _ (by kernel_rfl) (by kernel_rfl), hf]
  exact eqFields_pt 9997 p p' w f0 f1 f2 f3 n0 n1 n2 n3 t0 t1 t2 t3 o0 o1 o2 o3
theorem neq_pt (p p' : Pt5) (w : World) : (binOp .neq 57 (.agg (pta p)) (.agg (pta p'))).run Try.prog w = .ok (.bool (!decide (p = p'))) w := by
  rw [run_neq_struct, equalIn_pt]
  rfl
theorem eql_pt (p p' : Pt5) (w : World) : (binOp .eql 57 (.agg (pta p)) (.agg (pta p'))).run Try.prog w = .ok (.bool (decide (p = p'))) w := by
  rw [run_eql_struct, equalIn_pt]
  rfl
theorem cells_below {W W' : World} {ad : Addr} {cs : Array Value} (hc : ∀ j u, cs[j]? = some u → W.cell? (ad.add j) = some u) (hb : Below W.heap.size W W') : ∀ j u, cs[j]? = some u → W'.cell? (ad.add j) = some u := fun j u hj =>
  (hb.cell (World.block_lt_of_cell? _ _ (hc j u hj))).trans (hc j u hj)
theorem take_succ_eqP {xs ys : List Pt5} {k : Nat} (h : xs.take k = ys.take k) (hx : k < xs.length) (hy : k < ys.length) (he : xs[k] = ys[k]) : xs.take (k + 1) = ys.take (k + 1) := by
  rw [List.take_succ_eq_append_getElem hx, List.take_succ_eq_append_getElem hy, h, he]
theorem take_neP {xs ys : List Pt5} {k : Nat} (hx : k < xs.length) (hy : k < ys.length) (h : xs[k] ≠ ys[k]) : decide (xs = ys) = false := by
  rw [decide_eq_false_iff_not]
  rintro rfl
  exact h rfl
set_option maxRecDepth 100000 in
set_option maxHeartbeats 1000000 in
theorem PtEqual_any {E G : Option Addr} {cap cap2 : Nat} (ps qs : List Pt5) (w : World) (h : SlP w E cap ps) (h2 : SlP w G cap2 qs) :
    Calls Try.prog 88 #[.slice E ps.length cap, .slice G qs.length cap2] w fun e w' => e = .returned (.bool (decide (ps = qs))) ∧ Below w.heap.size w w' := by
  have hmax := h.len_le
  have hmax2 := h2.len_le
  unfold maxLen at hmax hmax2
  by_cases hl : ps.length = qs.length
  · have HL := Lib.hid hl
    have hlb : ((ps.length : Int) != (qs.length : Int)) = false := by simp [hl]
    have hle1 : ps.length ≤ qs.length := by omega
    have hle2 : qs.length ≤ ps.length := by omega
    clear hl
    go_enter Try.func88, Try.ntmps88
    go_wp2_with fail
    go_loopw [13] (fun x wr => ∃ k : Nat, k ≤ ps.length ∧ x = .int .i64 k ∧ Hid (ps.take k = qs.take k) ∧ Below w.heap.size w wr) (fun x w => ps.length - (intOf x).toNat)
    case atStart => exact ⟨0, Nat.zero_le _, rfl, (show _ = _ from by simp), Below.refl _ _⟩
    case round =>
      obtain ⟨k, hk, rfl, hall, hbr⟩ := hrel
      by_cases hlt : k < ps.length
      · have hlt2 : k < qs.length := by omega
        obtain ⟨ad, b, o, rfl, had, hcc⟩ := (h.below hbr).at hlt
        obtain ⟨ad2, b2, o2, rfl, had2, hdd⟩ := (h2.below hbr).at hlt2
        have hnx := Lib.hid (take_succ_eqP hall.out hlt hlt2)
        have hno := Lib.hid (take_neP hlt hlt2)
        generalize ps[k] = p at *
        generalize qs[k] = p' at *
        have hnn := neq_pt p p'
        obtain ⟨z, hz⟩ : ∃ z, decide (p = p') = z := ⟨_, rfl⟩
        rw [hz] at hnn
        have HZ := Lib.hid hz
        have HC1 := Lib.hid (fun W (hW : Below wr.heap.size wr W) => cells_below hcc hW)
        have HC2 := Lib.hid (fun W (hW : Below wr.heap.size wr W) => cells_below hdd hW)
        have hk0 : 0 ≤ (k : Int) := by omega
        have hk1 : (k : Int) < (ps.length : Int) := by omega
        have hk2 : (k : Int) < (qs.length : Int) := by omega
        clear hcc hdd hz
        go_upto_region 6 with (fail)
        have hst : Below wr.heap.size wr wr.drew := (Below.refl _ _).drew
        go_cut [24] (fun s24 wz => s24 = .bool (!z) ∧ Below wr.heap.size wr wz)
        case first =>
          refine wp_region_held_drew (S := (fun W => Below wr.heap.size wr W)) (by kernel_rfl) ?_ (fun hHeld => ?_)
          · first | exact hst | exact hHeld
          refine wpAnyH_take (i := 0) (oi := ⟨some 16, _, _, _, _, _⟩) (v := ?_) rfl (by kernel_rfl) (by kernel_rfl) (by kernel_rfl) (fun _ _ _ h => h) (Or.inl ⟨by kernel_rfl, ?_⟩) (by assumption) ?_
          rotate_left
          · (intro wS hSw; (try dsimp only at hSw); clear hSw; go_simp; (try with_reducible rfl))
          (try simp only [Act.put, List.setIfInBounds_toArray, List.set_cons_zero, List.set_cons_succ])
          refine wpAnyH_take (i := 1) (oi := ⟨some 17, _, _, _, _, _⟩) (v := ?_) rfl (by kernel_rfl) (by kernel_rfl) (by kernel_rfl) (fun _ _ _ h => h) (Or.inl ⟨by kernel_rfl, ?_⟩) (by assumption) ?_
          rotate_left
          · (intro wS hSw; (try dsimp only at hSw); clear hSw; go_simp; (try with_reducible rfl))
          (try simp only [Act.put, List.setIfInBounds_toArray, List.set_cons_zero, List.set_cons_succ])
          refine wpAnyH_take (i := 2) (oi := ⟨some 18, _, _, _, _, _⟩) (v := ?_) rfl (by kernel_rfl) (by kernel_rfl) (by kernel_rfl) (fun _ _ _ h => h) (Or.inl ⟨by kernel_rfl, ?_⟩) (by assumption) ?_
          rotate_left
          · (intro wS hSw; (try dsimp only at hSw); clear hSw; go_simp; (try with_reducible rfl))
          (try simp only [Act.put, List.setIfInBounds_toArray, List.set_cons_zero, List.set_cons_succ])
          refine wpAnyH_take (i := 4) (oi := ⟨some 20, _, _, _, _, _⟩) (v := ?_) rfl (by kernel_rfl) (by kernel_rfl) (by kernel_rfl) (fun _ _ _ h => h) (Or.inl ⟨by kernel_rfl, ?_⟩) (by assumption) ?_
          rotate_left
          · (intro wS hSw; (try dsimp only at hSw); clear hSw; go_simp; (try with_reducible rfl))
          (try simp only [Act.put, List.setIfInBounds_toArray, List.set_cons_zero, List.set_cons_succ])
          refine wpAnyH_take (i := 5) (oi := ⟨some 21, _, _, _, _, _⟩) (v := ?_) rfl (by kernel_rfl) (by kernel_rfl) (by kernel_rfl) (fun _ _ _ h => h) (Or.inl ⟨by kernel_rfl, ?_⟩) (by assumption) ?_
          rotate_left
          · (intro wS hSw; (try dsimp only at hSw); clear hSw; go_simp; (try with_reducible rfl))
          (try simp only [Act.put, List.setIfInBounds_toArray, List.set_cons_zero, List.set_cons_succ])
          refine wpAnyH_take (i := 6) (oi := ⟨some 22, _, _, _, _, _⟩) (v := ?_) rfl (by kernel_rfl) (by kernel_rfl) (by kernel_rfl) (fun _ _ _ h => h) (Or.inl ⟨by kernel_rfl, ?_⟩) (by assumption) ?_
          rotate_left
          · (intro wS hSw; (try dsimp only at hSw); clear hSw; go_simp; (try with_reducible rfl))
          (try simp only [Act.put, List.setIfInBounds_toArray, List.set_cons_zero, List.set_cons_succ])
          refine wpAnyH_ready (rs := [3, 7]) (by kernel_rfl) (by simp) ?_
          refine AllReadyH.cons (o := ⟨some 19, _, _, _, _, _⟩) rfl (fun K hK => ?_) ?_
          · (first | (refine step_loadP (by kernel_rfl) _ rfl ⟨b, o, none⟩ p rfl (HC1.out _ hHeld) ?_) | (refine step_loadP (by kernel_rfl) _ rfl ⟨b2, o2, none⟩ p' rfl (HC2.out _ hHeld) ?_))
            refine hK.out _ _ ?_ (fun hHeld => ?_)
            · ((try dsimp only); (first | exact hst | exact hHeld))
            clear hK K
            (try simp only [Act.put, List.setIfInBounds_toArray, List.set_cons_zero, List.set_cons_succ])
            refine wpAnyH_ready (rs := [7]) (by kernel_rfl) (by simp) ?_
            refine AllReadyH.cons (o := ⟨some 23, _, _, _, _, _⟩) rfl (fun K hK => ?_) AllReadyH.nil
            (first | (refine step_loadP (by kernel_rfl) _ rfl ⟨b, o, none⟩ p rfl (HC1.out _ hHeld) ?_) | (refine step_loadP (by kernel_rfl) _ rfl ⟨b2, o2, none⟩ p' rfl (HC2.out _ hHeld) ?_))
            refine hK.out _ _ ?_ (fun hHeld => ?_)
            · ((try dsimp only); (first | exact hst | exact hHeld))
            clear hK K
            (try simp only [Act.put, List.setIfInBounds_toArray, List.set_cons_zero, List.set_cons_succ])
            refine wpAnyH_take (i := 8) (oi := ⟨some 24, _, _, _, _, _⟩) (v := ?_) rfl (by kernel_rfl) (by kernel_rfl) (by kernel_rfl) (fun _ _ _ h => h) (Or.inl ⟨by kernel_rfl, ?_⟩) (by assumption) ?_
            rotate_left
            · (intro wS hSw; (try dsimp only at hSw); clear hSw; go_simp; (try with_reducible rfl))
            (try simp only [Act.put, List.setIfInBounds_toArray, List.set_cons_zero, List.set_cons_succ])
            refine wpAnyH_done (by kernel_rfl) ?_ _
            (go_wp2_with fail; go_meet; exact ⟨rfl, hHeld⟩)
          refine AllReadyH.cons (o := ⟨some 23, _, _, _, _, _⟩) rfl (fun K hK => ?_) ?_
          · (first | (refine step_loadP (by kernel_rfl) _ rfl ⟨b, o, none⟩ p rfl (HC1.out _ hHeld) ?_) | (refine step_loadP (by kernel_rfl) _ rfl ⟨b2, o2, none⟩ p' rfl (HC2.out _ hHeld) ?_))
            refine hK.out _ _ ?_ (fun hHeld => ?_)
            · ((try dsimp only); (first | exact hst | exact hHeld))
            clear hK K
            (try simp only [Act.put, List.setIfInBounds_toArray, List.set_cons_zero, List.set_cons_succ])
            refine wpAnyH_ready (rs := [3]) (by kernel_rfl) (by simp) ?_
            refine AllReadyH.cons (o := ⟨some 19, _, _, _, _, _⟩) rfl (fun K hK => ?_) AllReadyH.nil
            (first | (refine step_loadP (by kernel_rfl) _ rfl ⟨b, o, none⟩ p rfl (HC1.out _ hHeld) ?_) | (refine step_loadP (by kernel_rfl) _ rfl ⟨b2, o2, none⟩ p' rfl (HC2.out _ hHeld) ?_))
            refine hK.out _ _ ?_ (fun hHeld => ?_)
            · ((try dsimp only); (first | exact hst | exact hHeld))
            clear hK K
            (try simp only [Act.put, List.setIfInBounds_toArray, List.set_cons_zero, List.set_cons_succ])
            refine wpAnyH_take (i := 8) (oi := ⟨some 24, _, _, _, _, _⟩) (v := ?_) rfl (by kernel_rfl) (by kernel_rfl) (by kernel_rfl) (fun _ _ _ h => h) (Or.inl ⟨by kernel_rfl, ?_⟩) (by assumption) ?_
            rotate_left
            · (intro wS hSw; (try dsimp only at hSw); clear hSw; go_simp; (try with_reducible rfl))
            (try simp only [Act.put, List.setIfInBounds_toArray, List.set_cons_zero, List.set_cons_succ])
            refine wpAnyH_done (by kernel_rfl) ?_ _
            (go_wp2_with fail; go_meet; exact ⟨rfl, hHeld⟩)
          exact AllReadyH.nil
        case rest =>
          obtain ⟨rfl, hb5⟩ := hcut
          have hn5 := bel_call hbr hb5
          cases z
          · have hr := Lib.hid (hno.out (by have := HZ.out; simpa using this))
            clear HZ hno hnx
            go_wp2_with fail
            go_ret
            exact ⟨by rw [hr.out]; rfl, hn5⟩
          · have hr := Lib.hid (hnx.out (by have := HZ.out; simpa using this))
            clear HZ hno hnx
            go_wp2_with fail
            go_roundw
            case rel => exact ⟨k + 1, hlt, by go_num, hr, hn5⟩
            case measure => simp [intOf]; omega
      · have h5 := hall.out
        rw [List.take_of_length_le (by omega), List.take_of_length_le (by omega)] at h5
        have HD := Lib.hid (show decide (ps = qs) = true from decide_eq_true h5)
        clear h5 hall
        go_wp2_with fail
        go_ret
        exact ⟨by rw [HD.out]; rfl, hbr⟩
  · have hlb : ((ps.length : Int) != (qs.length : Int)) = true := by simp; omega
    have hr := Lib.hid (show decide (ps = qs) = false from by rw [decide_eq_false_iff_not]; rintro rfl; exact hl rfl)
    clear hl
    go_enter Try.func88, Try.ntmps88
    go_wp2_with fail
    go_ret
    exact ⟨by rw [hr.out]; rfl, Below.refl _ _⟩
set_option maxRecDepth 100000 in
set_option maxHeartbeats 1000000 in
theorem CrSame_true {E G : Option Addr} {cap cap2 : Nat} (f nx t q : Int) (ps qs : List Pt5) (w : World) (h : SlP w E cap ps) (h2 : SlP w G cap2 qs) (he : ps = qs) :
    Calls Try.prog 49 #[crv f nx t q E ps.length cap, crv f nx t q G qs.length cap2] w fun e w' => e = .returned (.bool true) ∧ Below w.heap.size w w' := by
  have hb := bel_alloc (below_new w (.cells #[.int .i64 f, .int .i64 nx, .int .i64 t, .int .i64 q, .slice E ps.length cap] 87)) (.cells #[.int .i64 f, .int .i64 nx, .int .i64 t, .int .i64 q, .slice G qs.length cap2] 87)
  have hD := Lib.hid (show decide (ps = qs) = true from decide_eq_true he)
  clear he
  go_enter Try.func49, Try.ntmps49
  go_wp2_with fail
  refine (PtEqual_any ps qs _ (h.below hb) (h2.below hb)).mono ?_
  rintro e w2 ⟨rfl, hb2⟩
  rw [hD.out]
  go_wp2_with fail
  go_ret
  exact ⟨rfl, bel_call hb hb2⟩
end Go.Proofs.Ytgipfenjachpnaa

namespace Go.Proofs.Ytgipfenjachpnaa
open Go.RowKit
attribute [local go_sem ↓] Go.wp_at_zero Go.wp_at_succ

/-- the first parts are right ones, up to where they end -/
theorem pgo_take {z : Int} : ∀ {l : List Pt5} {a : Int} (k : Nat), pgo z a l = 0 → pgo (pend a (l.take k)) a (l.take k) = 0
  | [], a, k, _ => by rw [List.take_nil]; unfold pend pgo; simp
  | q :: r, a, 0, _ => by rw [List.take_zero]; unfold pend pgo; simp
  | q :: r, a, k + 1, h => by
    rw [List.take_succ_cons]
    unfold pgo at h
    by_cases h1 : ptchk q a ≠ 0
    · rw [if_pos h1] at h; exact absurd h h1
    rw [if_neg h1] at h
    unfold pend pgo
    rw [if_neg h1]
    exact pgo_take k h
/-- the next part -/
theorem pgo_mid {z : Int} : ∀ {l : List Pt5} {a : Int} {k : Nat} (hk : k < l.length), pgo z a l = 0 → l[k].1 = pend a (l.take k) ∧ pend a (l.take (k + 1)) = pend a (l.take k) + l[k].2.1 ∧ 1 ≤ l[k].2.1 ∧ l[k].2.1 ≤ 64 ∧ a ≤ pend a (l.take k) ∧ pend a (l.take k) + l[k].2.1 ≤ z
  | q :: r, a, 0, _, h => by
    unfold pgo at h
    by_cases h1 : ptchk q a ≠ 0
    · rw [if_pos h1] at h; exact absurd h h1
    rw [if_neg h1] at h
    obtain ⟨g1, g2, _, _, g5⟩ := ptchk_ok (Decidable.byContradiction h1)
    have hle := (pgo_end h).2
    simp only [List.getElem_cons_zero, List.take_zero, List.take_succ_cons, pend]
    exact ⟨g5, trivial, g1, g2, Int.le_refl _, hle⟩
  | q :: r, a, k + 1, hk, h => by
    unfold pgo at h
    by_cases h1 : ptchk q a ≠ 0
    · rw [if_pos h1] at h; exact absurd h h1
    rw [if_neg h1] at h
    obtain ⟨g1, g2, _, _, g5⟩ := ptchk_ok (Decidable.byContradiction h1)
    obtain ⟨i1, i2, i3, i4, i5, i6⟩ := pgo_mid (k := k) (by simpa using hk) h
    simp only [List.getElem_cons_succ, List.take_succ_cons, pend]
    exact ⟨i1, i2, i3, i4, by omega, i6⟩
/-- such a cursor is right -/
theorem crz {f nx t q : Int} {l : List Pt5} (h0 : 0 ≤ f) (h1 : f ≤ nx) (h2 : nx ≤ t) (h3 : t ≤ 1048576) (h4 : 0 ≤ q) (h5 : q ≤ 1048576) (h6 : l.length ≤ 1024) (h7 : pgo nx f l = 0) : crchk (f, nx, t, q, l) = 0 := by
  refine crchk_fine (x := (f, nx, t, q, l)) ?_ (by dsimp only; omega) (by dsimp only; omega)
  dsimp only
  rw [mchk_rest (inb_iff.2 ⟨by dsimp only; omega, by dsimp only; omega⟩) (inb_iff.2 ⟨by dsimp only; omega, by dsimp only; omega⟩) (inb_iff.2 ⟨by dsimp only; omega, by dsimp only; omega⟩) (inb_iff.2 ⟨by dsimp only; omega, by dsimp only; omega⟩) (by dsimp only; omega) (fun h => by cases h)]
  dsimp only
  rw [if_neg (by omega), h7]
theorem PtsI.take {l : List Pt5} (h : PtsI l) (k : Nat) : PtsI (l.take k) := fun x hx => h x (List.mem_of_mem_take hx)
theorem Blk.far5 {w : World} {g g' : Nat} {t : TypeId} {cs : Array Value} (h : Blk w g' t cs) (hg : g' ≠ g) (x y z u v : Value) : Blk (((((w.setCell ⟨g, 0, none⟩ x).setCell ⟨g, 1, none⟩ y).setCell ⟨g, 2, none⟩ z).setCell ⟨g, 3, none⟩ u).setCell ⟨g, 4, none⟩ v) g' t cs :=
  ((((h.far (by dsimp only; omega) x).far (by dsimp only; omega) y).far (by dsimp only; omega) z).far (by dsimp only; omega) u).far (by dsimp only; omega) v
set_option maxRecDepth 100000 in
set_option maxHeartbeats 1000000 in
theorem csteps_early {A : Option Addr} {c : Nat} {n f t r : Int} {d : Dg} {ps : List Pt5} (hal : ∀ w, Calls Try.prog 42 #[] w fun e w' => e = .returned (.bool true) ∧ Below w.heap.size w w') (w : World) (h : SlP w A c ps) (hl : 60 < ps.length) :
    Calls Try.prog 8 #[.agg (mfa n f t r d A ps.length c)] w fun e w' => e = .returned (.bool true) ∧ Below w.heap.size w w' := by
  have hmax := h.len_le
  unfold maxLen at hmax
  have hB0 : BlM _ w.heap.size n f t r d A ps.length c := Blk.new w 52 (mfa n f t r d A ps.length c)
  have hbw := below_new w (.cells (mfa n f t r d A ps.length c) 52)
  have hms := Lib.hid (mfa_size n f t r d A ps.length c)
  go_enter Try.func8, Try.ntmps8
  go_wp2_with fail
  refine (hal _).mono ?_
  rintro e w1 ⟨rfl, hb1⟩
  have hB : BlM w1 w.heap.size n f t r d A ps.length c := Blk.below hB0 hb1
  have hw := bel_call hbw hb1
  clear hB0 hbw hb1
  obtain ⟨a0, a1, a2, a3, a4⟩ := BlM.five hB
  have hlI : (60 : Int) < (ps.length : Int) := by omega
  go_wp2_with fail
  go_ret
  exact ⟨rfl, hw⟩
set_option maxRecDepth 100000 in
set_option maxHeartbeats 4000000 in
theorem csteps_walk {A : Option Addr} {c : Nat} {n f t r : Int} {d : Dg} {ps : List Pt5} (hal : ∀ w, Calls Try.prog 42 #[] w fun e w' => e = .returned (.bool true) ∧ Below w.heap.size w w') (w : World) (h : SlP w A c ps) (hI : PtsI ps) (hl : ps.length ≤ 60) :
    Calls Try.prog 8 #[.agg (mfa n f t r d A ps.length c)] w fun e w' => e = .returned (.bool true) ∧ Below w.heap.size w w' := by
  have hmax := h.len_le
  unfold maxLen at hmax
  have hB0 : BlM _ w.heap.size n f t r d A ps.length c := Blk.new w 52 (mfa n f t r d A ps.length c)
  have hbw := below_new w (.cells (mfa n f t r d A ps.length c) 52)
  have hms := Lib.hid (mfa_size n f t r d A ps.length c)
  go_enter Try.func8, Try.ntmps8
  go_wp2_with fail
  refine (hal _).mono ?_
  rintro e w1 ⟨rfl, hb1⟩
  have hB : BlM w1 w.heap.size n f t r d A ps.length c := Blk.below hB0 hb1
  have hw := bel_call hbw hb1
  clear hB0 hbw hb1
  obtain ⟨a0, a1, a2, a3, a4⟩ := BlM.five hB
  have hlI : (ps.length : Int) ≤ 60 := by omega
  have hlB : decide ((60 : Int) < (ps.length : Int)) = false := by rw [decide_eq_false_iff_not]; omega
  have hC := MCheck_any n f t r d ps w1 (h.below hw) hI
  have HMO := Lib.hid (fun h0 => mchk_ok (m := (n, f, t, r, d, ps)) h0)
  generalize mchk (n, f, t, r, d, ps) = bad at *
  rcases errv_cases bad with ⟨h0, hev⟩ | ⟨q, hq, hqe, hev⟩
  · rw [hev] at hC
    have HC := Lib.hid hC
    obtain ⟨-, ⟨hf0, hf1⟩, ⟨ht0, ht1⟩, ⟨hr0, hr1⟩, hft, -, -, hpg⟩ := HMO.out h0
    dsimp only at hf0 hf1 ht0 ht1 hr0 hr1 hft hpg
    have HPG := Lib.hid hpg
    clear hC hev h0 HMO hpg
    go_wp2_with (refine wpl_loadG (by kernel_rfl) 52 _ rfl ⟨w.heap.size, 0, none⟩ (mfa n f t r d A ps.length c) rfl hB.cells _ Try.underlying52 rfl (by rw [hms.out]; kernel_rfl) ?_)
    refine HC.out.mono ?_
    rintro e w2 ⟨rfl, hb2⟩
    have hB2 : BlM w2 w.heap.size n f t r d A ps.length c := Blk.below hB hb2
    replace hw := bel_call hw hb2
    clear HC hb2 hB a0 a1 a2 a3 a4
    obtain ⟨a0, a1, a2, a3, a4⟩ := BlM.five hB2
    have hgl : w.heap.size < w2.heap.size := Blk.lt hB2
    have hC0 := Blk.new w2 87 #[.int .i64 f, .int .i64 f, .int .i64 t, .int .i64 r, .slice none 0 0]
    have hB3 : BlM _ w.heap.size n f t r d A ps.length c := Blk.alloc hB2 (.cells #[.int .i64 f, .int .i64 f, .int .i64 t, .int .i64 r, .slice none 0 0] 87)
    have hw3 := bel_alloc hw (.cells #[.int .i64 f, .int .i64 f, .int .i64 t, .int .i64 r, .slice none 0 0] 87)
    have HO0 : OwnP (w2.alloc (.cells #[.int .i64 f, .int .i64 f, .int .i64 t, .int .i64 r, .slice none 0 0] 87)) (w2.heap.size + 1) none 0 [] := Own.none_ _ _ _ _
    go_wp2_with fail
    go_loopw [31] (fun x wr => ∃ (k : Nat) (nx : Int) (B : Option Addr) (cc : Nat) (m : List Pt5), k ≤ ps.length ∧ x = .int .i64 k ∧ Hid (nx = pend f (ps.take k)) ∧ Hid (m = ps.take k) ∧ Blk wr w2.heap.size 87 #[.int .i64 f, .int .i64 nx, .int .i64 t, .int .i64 r, .slice B m.length cc] ∧ OwnP wr (w2.heap.size + 1) B cc m ∧ Below w.heap.size w wr ∧ BlM wr w.heap.size n f t r d A ps.length c) (fun x w => ps.length - (intOf x).toNat)
    case atStart => exact ⟨0, f, none, 0, [], Nat.zero_le _, rfl, (show _ = _ from rfl), (show _ = _ from rfl), hC0, HO0, hw3, hB3⟩
    case round =>
      obtain ⟨k, nx, B, cc, m, hk, rfl, hnx, hm, hCr, hOr, hbr, hBr⟩ := hrel
      clear hw hw3 hB2 hB3 hC0 HO0 a0 a1 a2 a3 a4
      generalize w2.heap.size = gc at *
      by_cases hlt : k < ps.length
      · obtain ⟨ad, b, o, rfl, had, hcc⟩ := (h.below hbr).at hlt
        have hmid := pgo_mid hlt HPG.out
        have hpt := pgo_take (k + 1) HPG.out
        have hp0 := pgo_take k HPG.out
        have hIk := hI.take (k + 1)
        rw [List.take_succ_eq_append_getElem hlt] at hIk hpt hmid
        have hts := Lib.hid (List.take_succ_eq_append_getElem hlt)
        generalize ps[k] = p at *
        rw [← hnx.out] at hmid hp0
        obtain ⟨m1, m2, m3, m4, m5, m6⟩ := hmid
        have hnx2 := Lib.hid m2
        rw [m2] at hpt
        rw [← hm.out] at hpt hp0 hIk
        have hml : m.length = k := by rw [hm.out, List.length_take]; omega
        have hml2 : (m ++ [p]).length = k + 1 := by simp [hml]
        have z0 := crz (q := r) hf0 m5 (by omega : nx ≤ t) ht1 hr0 hr1 (by omega) hp0
        have z1 := crz (q := r) hf0 (by omega : f ≤ nx + p.2.1) m6 ht1 hr0 hr1 (by omega) hpt
        have hX := Blk.new wr 57 (pta p)
        have hbx := bel_call hbr (below_new wr (.cells (pta p) 57))
        have hBx : BlM _ w.heap.size n f t r d (some ad) ps.length c := Blk.alloc hBr (.cells (pta p) 57)
        have hCx := Blk.alloc hCr (.cells (pta p) 57)
        have hOx := World.ownsRow.alloc hOr (.cells (pta p) 57)
        have hps := Lib.hid (pta_size p)
        have hpa := Lib.hid (pta_all p)
        have HCC := Lib.hid hcc
        have hgw : gc < wr.heap.size := Blk.lt hCr
        have HST := Lib.hid (fun (W : World) (hs : SlP W B cc m) => CrStep_any f nx t r m p W hs hIk (by omega) z0 z1 (by omega) (by omega) (by omega) (by omega))
        have hnt : (nx == t) = false := by rw [beq_eq_false_iff_ne]; omega
        have hlq : ((m.length : Int) != (k : Int)) = false := by simp [hml]
        have hwa : wrap64 (p.1 + p.2.1) = p.1 + p.2.1 := by simp only [wrap64]; omega
        have hwa2 : IntKind.i64.wrap (p.1 + p.2.1) = p.1 + p.2.1 := by rw [IntKind.wrap_i64]; omega
        have hpn : ((nx + p.2.1) != (p.1 + p.2.1)) = false := by simp [m1]
        have hpn2 : p.1 = nx := m1
        have HML := Lib.hid hml
        clear hml
        clear hcc hbr hBr hCr hOr m1 m2 hpt hp0 hIk z0 z1 hml2
        obtain ⟨a0, a1, a2, a3, a4⟩ := BlM.five hBx
        obtain ⟨q0, q1, q2, q3, q4, -⟩ := Blk.five hCx
        go_wp2_with (first | (refine wpl_loadG rfl 57 _ rfl ⟨b, o, none⟩ (pta p) rfl HCC.out _ Try.underlying57 rfl (by rw [hps.out]; kernel_rfl) ?_) | (refine wpl_storeN rfl 57 _ _ rfl _ (pta p) 57 rfl rfl (by rw [hps.out]; kernel_rfl) (by rw [hps.out]; rfl) hpa.out ?_))
        refine (CrDone_any f nx t r B m.length cc _).mono ?_
        rintro e w3 ⟨rfl, hb3⟩
        rw [hnt]
        replace hX := Blk.below hX hb3
        replace hBx := Blk.below hBx hb3
        replace hCx := Blk.below hCx hb3
        replace hOx := Own.below hOx hb3
        replace hbx := bel_call hbx hb3
        have hz3 := hb3.size
        simp only [World.size_alloc] at hz3
        clear hb3 a0 a1 a2 a3 a4 q0 q1 q2 q3 q4
        obtain ⟨q0, q1, q2, q3, q4, -⟩ := Blk.five hCx
        go_wp2_with (refine wpl_loadG (by kernel_rfl) 57 _ rfl ⟨wr.heap.size, 0, none⟩ (pta p) rfl hX.cells _ Try.underlying57 rfl (by rw [hps.out]; kernel_rfl) ?_)
        refine (HST.out _ (Own.sl hOx)).mono ?_
        rintro e w4 ⟨A4, c4, m4, rfl, hm4, ho4, hb4⟩
        have hN := Blk.new w4 87 #[.int .i64 f, .int .i64 (nx + p.2.1), .int .i64 t, .int .i64 r, .slice A4 m4.length c4]
        replace hX := Blk.alloc (Blk.below hX hb4) (.cells #[.int .i64 f, .int .i64 (nx + p.2.1), .int .i64 t, .int .i64 r, .slice A4 m4.length c4] 87)
        replace hBx := Blk.alloc (Blk.below hBx hb4) (.cells #[.int .i64 f, .int .i64 (nx + p.2.1), .int .i64 t, .int .i64 r, .slice A4 m4.length c4] 87)
        replace hCx := Blk.alloc (Blk.below hCx hb4) (.cells #[.int .i64 f, .int .i64 (nx + p.2.1), .int .i64 t, .int .i64 r, .slice A4 m4.length c4] 87)
        replace hOx := World.ownsRow.alloc ho4 (.cells #[.int .i64 f, .int .i64 (nx + p.2.1), .int .i64 t, .int .i64 r, .slice A4 m4.length c4] 87)
        replace hbx := bel_alloc (bel_call hbx hb4) (.cells #[.int .i64 f, .int .i64 (nx + p.2.1), .int .i64 t, .int .i64 r, .slice A4 m4.length c4] 87)
        clear hb4 ho4 q0 q1 q2 q3 q4 hpn2
        obtain ⟨q0, q1, q2, q3, q4, f0, f1, f2, f3, f4⟩ := Blk.five hCx
        obtain ⟨x0, x1, x2⟩ := BlP.three hX
        obtain ⟨y0, y1, y2, y3, y4, -⟩ := Blk.five hN
        go_wp2_with fail
        go_roundw
        case rel => exact ⟨k + 1, nx + p.2.1, A4, c4, m4, hlt, by go_num, (show _ = _ from by rw [hts.out, hnx2.out]), (show _ = _ from by rw [hm4.out, hm.out, hts.out]), hCx.set5 _ _ _ _ _, (Own.set5 hOx (by omega) _ _ _ _ _).more (by omega), bel_set5 hbx (by omega) _ _ _ _ _, Blk.far5 hBx (by omega) _ _ _ _ _⟩
        case measure => simp [intOf]; omega
      · have hme : m = ps := by rw [hm.out, List.take_of_length_le (by omega)]
        have hnt : nx = t := by rw [hnx.out, List.take_of_length_le (by omega)]; exact (pgo_end HPG.out).1
        have HME := Lib.hid hme
        subst hnt
        clear hme hnx hm HPG
        obtain ⟨a0, a1, a2, a3, a4⟩ := BlM.five hBr
        obtain ⟨q0, q1, q2, q3, q4, -⟩ := Blk.five hCr
        go_wp2_with fail
        refine (CrDone_any f nx nx r B m.length cc _).mono ?_
        rintro e w3 ⟨rfl, hb3⟩
        rw [show (nx == nx) = true from by simp]
        replace hBr := Blk.below hBr hb3
        replace hCr := Blk.below hCr hb3
        replace hOr := Own.below hOr hb3
        replace hbr := bel_call hbr hb3
        clear hb3 a0 a1 a2 a3 a4 q0 q1 q2 q3 q4
        obtain ⟨a0, a1, a2, a3, a4⟩ := BlM.five hBr
        obtain ⟨q0, q1, q2, q3, q4, -⟩ := Blk.five hCr
        go_wp2_with fail
        refine (CrSame_true f nx nx r m ps _ (Own.sl hOr) (h.below hbr) HME.out).mono ?_
        rintro e w4 ⟨rfl, hb4⟩
        go_wp2_with fail
        go_ret
        exact ⟨rfl, bel_call hbr hb4⟩
  · rw [hev] at hC
    have HC := Lib.hid hC
    clear hC hev HMO hqe
    go_wp2_with (refine wpl_loadG (by kernel_rfl) 52 _ rfl ⟨w.heap.size, 0, none⟩ (mfa n f t r d A ps.length c) rfl hB.cells _ Try.underlying52 rfl (by rw [hms.out]; kernel_rfl) ?_)
    refine HC.out.mono ?_
    rintro e w2 ⟨rfl, hb2⟩
    go_wp2_with fail
    go_ret
    exact ⟨rfl, bel_call hw hb2⟩
end Go.Proofs.Ytgipfenjachpnaa

namespace Go.Proofs.Ytgipfenjachpnaa
open Go.RowKit
attribute [local go_sem ↓] Go.wp_at_zero Go.wp_at_succ

theorem u64_tmod (a : Int) (n : Nat) : ∃ k : Nat, k ≤ n ∧ (IntKind.u64.wrap a).tmod ((n : Int) + 1) = (k : Int) := by
  have h : 0 ≤ IntKind.u64.wrap a := wrap_u64_nonneg a
  rw [Int.tmod_eq_emod_of_nonneg h]
  have h1 := Int.emod_nonneg (IntKind.u64.wrap a) (show (n : Int) + 1 ≠ 0 by omega)
  have h2 := Int.emod_lt_of_pos (IntKind.u64.wrap a) (show (0 : Int) < (n : Int) + 1 by omega)
  exact ⟨((IntKind.u64.wrap a) % ((n : Int) + 1)).toNat, by omega, by omega⟩
theorem opened_sealed (l : List UInt8) : opened (l ++ four (sumW l)) = (l, 0) := by
  have h4 := four_len (sumW l)
  unfold opened
  have hl : (l ++ four (sumW l)).length - 4 = l.length := by simp [h4]
  rw [if_neg (by rw [List.length_append, h4]; omega), hl, List.take_left, List.drop_left, if_pos rfl]

end Go.Proofs.Ytgipfenjachpnaa

namespace Go.Proofs.Ytgipfenjachpnaa
open Go.RowKit
attribute [local go_sem ↓] Go.wp_at_zero Go.wp_at_succ

theorem u64_tmod_pos (a : Int) (n : Nat) (hn : 0 < n) : ∃ k : Nat, k < n ∧ (IntKind.u64.wrap a).tmod (n : Int) = (k : Int) := by
  obtain ⟨k, hk, he⟩ := u64_tmod a (n - 1)
  refine ⟨k, by omega, ?_⟩
  rw [← he]
  congr 1
  omega
/-- the bits that have been turned so far -/
def wpart (x n8 place i : Nat) : Nat := x % 2 ^ min i (n8 - place)
theorem wpart_out {x n8 place i : Nat} (h : n8 ≤ place + i) : wpart x n8 place (i + 1) = wpart x n8 place i := by
  unfold wpart; rw [Nat.min_eq_right (by omega), Nat.min_eq_right (by omega)]
theorem wpart_off {x n8 place i : Nat} (hp : place + i < n8) (h : x.testBit i = false) : wpart x n8 place (i + 1) = wpart x n8 place i := by
  unfold wpart
  rw [Nat.min_eq_left (by omega), Nat.min_eq_left (by omega)]
  apply Nat.eq_of_testBit_eq
  intro j
  simp only [Nat.testBit_mod_two_pow]
  by_cases hj : j = i
  · subst hj; simp [h]
  · by_cases h1 : j < i
    · simp [h1, show j < i + 1 from by omega]
    · simp [h1, show ¬ j < i + 1 from by omega]
theorem wpart_on {x n8 place i : Nat} (hp : place + i < n8) (h : x.testBit i = true) : wpart x n8 place (i + 1) = wpart x n8 place i ^^^ 2 ^ i := by
  unfold wpart
  rw [Nat.min_eq_left (by omega), Nat.min_eq_left (by omega)]
  apply Nat.eq_of_testBit_eq
  intro j
  simp only [Nat.testBit_mod_two_pow, Nat.testBit_xor, Nat.testBit_two_pow]
  by_cases hj : j = i
  · subst hj; simp [h]
  · by_cases h1 : j < i
    · simp [h1, show j < i + 1 from by omega, show ¬ i = j from by omega]
    · simp [h1, show ¬ j < i + 1 from by omega, show ¬ i = j from by omega]
theorem wpart_on_ne {x n8 place i : Nat} (hp : place + i < n8) (h : x.testBit i = true) : wpart x n8 place (i + 1) ≠ 0 := by
  rw [wpart_on hp h]
  intro he
  have := congrArg (fun y => y.testBit i) he
  simp [Nat.testBit_xor, wpart, Nat.testBit_mod_two_pow, Nat.min_eq_left (show i ≤ n8 - place from by omega)] at this
theorem set_bit {l m : List UInt8} {W place i : Nat} (_hl : m.length = l.length) (h : leN m = leN l ^^^ (W <<< place)) (hp : (place + i) / 8 < m.length) :
    leN (m.set ((place + i) / 8) (m[(place + i) / 8] ^^^ UInt8.ofNat (2 ^ ((place + i) % 8)))) = leN l ^^^ ((W ^^^ 2 ^ i) <<< place) := by
  rw [leN_set _ _ hp, h, Nat.xor_assoc, Nat.shiftLeft_xor_distrib]
  congr 2
  have h8 : (place + i) % 8 < 8 := Nat.mod_lt _ (by decide)
  have h2 : 2 ^ ((place + i) % 8) < 256 := Nat.pow_lt_pow_right (a := 2) (by decide) h8
  rw [UInt8.toNat_ofNat', Nat.mod_eq_of_lt h2, Nat.shiftLeft_eq, Nat.shiftLeft_eq, ← Nat.pow_add, ← Nat.pow_add]
  congr 1
  omega
theorem own_set {w : World} {base : Nat} {e : TypeId} {A : Option Addr} {c j : Nat} {m : List UInt8} {x : UInt8} {g : Nat} (h : OwnB w base e A c m) (hA : A = some ⟨g, 0, none⟩) (_hj : j < m.length) : OwnB (w.setCell ⟨g, j, none⟩ (bv x)) base e A c (m.set j x) := by
  obtain ⟨h1, h2⟩ := h
  rcases h2 with ⟨hv, hn⟩ | ⟨g', cap, cur, hv, hb, hh, hnc, hcm, hcs, ht⟩
  · subst hA; simp at hv
  · subst hA
    simp at hv
    obtain ⟨rfl, rfl⟩ := hv
    have hb2 : bvs (m.set j x) = (bvs m).set j (bv x) := by rw [bvs, bvs, List.map_set]
    refine ⟨by simp, .inr ⟨g, c, cur.setIfInBounds j (bv x), by simp, hb, ?_, by simpa using hnc, hcm, by simpa using hcs, ?_⟩⟩
    · simp [World.setCell, Array.getElem?_modify, hh]
    · rw [Array.toList_setIfInBounds, List.length_set, List.take_set, ht, hb2]

theorem Sl.apartB {w w5 w6 : World} {A : Option Addr} {c g : Nat} {l : List UInt8} (h : SlB w A c l) (hb : But g w w5) (_ : g < w.heap.size) (hb6 : Below w.heap.size w5 w6) (hA : l ≠ [] → A.map (·.block) ≠ some g) : SlB w6 A c l := by
  have h5 := SlB.but h hb hA
  refine ⟨h.1, h.2.1, h.2.2.1, h.2.2.2.1, fun j u hj => ?_⟩
  obtain ⟨ad, hA2, hc⟩ := h5.2.2.2.2 j u hj
  obtain ⟨ad', hA', hc'⟩ := h.2.2.2.2 j u hj
  rw [hA2] at hA'
  injection hA' with e
  subst e
  exact ⟨ad, hA2, (hb6.cell (World.block_lt_of_cell? w _ hc')).trans hc⟩
theorem own_copy {w : World} {base g cap : Nat} {e : TypeId} {cur : List Value} {l m f : List UInt8} (hg : base ≤ g) (hh : w.heap[g]? = some (.cells (splice cur 0 (bvs m)).toArray e (0, 0))) (hn : (l ++ f).length ≤ cap) (hcm : cap ≤ maxLen)
    (hcs : cur.length = cap) (ht : cur.take (l ++ f).length = bvs (l ++ f)) (hlm : m.length = l.length) : OwnB w base e (some ⟨g, 0, none⟩) cap (m ++ f) := by
  have h1 : (m ++ f).length = (l ++ f).length := by simp [hlm]
  have h2 : (bvs m).length = m.length := by simp
  refine ⟨by simp, .inr ⟨g, cap, _, rfl, hg, hh, by rw [h1]; exact hn, hcm, ?_, ?_⟩⟩
  · simp only [List.size_toArray]
    rw [length_splice _ _ _ (by rw [h2, hcs, hlm]; rw [List.length_append] at hn; omega), hcs]
    omega
  · show List.take ((m ++ f).length * 1) (splice cur 0 (bvs m)) = bvs (m ++ f)
    have h3 : bvs (m ++ f) = bvs m ++ bvs f := List.map_append
    have h4 : (cur.drop m.length).take f.length = bvs f := by
      have := congrArg (List.drop l.length) ht
      rw [List.drop_take, List.length_append, Nat.add_sub_cancel_left] at this
      rw [hlm, this]
      show (bvs (l ++ f)).drop l.length = bvs f
      rw [show bvs (l ++ f) = bvs l ++ bvs f from List.map_append, List.drop_left' (by simp)]
    rw [h3, ← h4]
    unfold splice
    rw [List.take_zero, List.nil_append, Nat.zero_add, h2, Nat.mul_one, List.length_append, List.take_append, h2, List.take_of_length_le (by rw [h2]; omega), Nat.add_sub_cancel_left]
theorem opened_other {l m : List UInt8} (h : sumW m ≠ sumW l) : opened (m ++ four (sumW l)) = ([], 11) := by
  have h4 := four_len (sumW l)
  unfold opened
  have hl : (m ++ four (sumW l)).length - 4 = m.length := by simp [h4]
  rw [if_neg (by rw [List.length_append, h4]; omega), hl, List.take_left, List.drop_left, if_neg (fun e => h (four_inj e))]

end Go.Proofs.Ytgipfenjachpnaa

namespace Go.Proofs.Ytgipfenjachpnaa
open Go.RowKit
attribute [local go_sem ↓] Go.wp_at_zero Go.wp_at_succ

theorem frm_nil : frm [] = [0, 82, 125, 83, 81] := by
  unfold frm txb
  rw [show vb ([] : List UInt8).length = [0] from vb_small (by decide)]
  decide +kernel
theorem FTake_len (A : Option Addr) (c k : Nat) (l : List UInt8) (w : World) (hk : k = l.length) (hs : SlB w A c l) (hl : l.length ≤ 10000000) :
    Calls Try.prog 112 #[.slice A k c] w (TakesF w (ftake l)) := by subst hk; exact FTake_any A c l w hs hl
end Go.Proofs.Ytgipfenjachpnaa

namespace Go.Proofs.Ytgipfenjachpnaa
open Go.RowKit
attribute [local go_sem ↓] Go.wp_at_zero Go.wp_at_succ

def ptx (ps : List Pt) : List (List UInt8) := ps.map (·.2.2)
theorem ptx_get {ps : List Pt} {k : Nat} (h : k < (ptx ps).length) (h2 : k < ps.length) : (ptx ps)[k] = ps[k].2.2 := List.getElem_map _
def frms (ts : List (List UInt8)) : List UInt8 := ts.flatMap frm
def fjoin (ts : List (List UInt8)) : List UInt8 × Nat := if ts.any (fun t => decide (65536 < t.length)) then ([], 3) else (frms ts, 0)
theorem fjoin_long {ts : List (List UInt8)} {k : Nat} (hk : k < ts.length) (h : 65536 < ts[k].length) : fjoin ts = ([], 3) := by
  unfold fjoin; rw [if_pos]
  exact List.any_eq_true.2 ⟨ts[k], List.getElem_mem hk, decide_eq_true h⟩
theorem fjoin_ok {ts : List (List UInt8)} (h : ∀ t ∈ ts, t.length ≤ 65536) : fjoin ts = (frms ts, 0) := by
  unfold fjoin; rw [if_neg]
  intro he
  obtain ⟨t, ht, hd⟩ := List.any_eq_true.1 he
  have := of_decide_eq_true hd
  have := h t ht
  omega
theorem frms_snoc {ts : List (List UInt8)} {k : Nat} (hk : k < ts.length) : frms (ts.take (k + 1)) = frms (ts.take k) ++ frm ts[k] := by
  unfold frms; rw [List.take_succ_eq_append_getElem hk, List.flatMap_append]; simp
theorem frms_le {ts : List (List UInt8)} (h : ∀ t ∈ ts, t.length ≤ 70000) : (frms ts).length ≤ 70014 * ts.length := by
  induction ts with
  | nil => simp [frms]
  | cons t ts ih =>
    have h1 := h t (by simp)
    have h2 := ih (fun q hq => h q (by simp [hq]))
    have h3 := frm_len t
    have h4 := vb_le10 (n := t.length) (by omega)
    simp only [frms, List.flatMap_cons, List.length_append, List.length_cons] at h2 ⊢
    omega
/-- what Join answers -/
def JoinsB (w0 : World) (o : List UInt8 × Nat) (e : Ending) (w' : World) : Prop :=
  ∃ A c m, e = .returned (.tuple #[.slice A (List.length m) c, errv o.2]) ∧ Hid (m = o.1) ∧ SlB w' A c m ∧ Below w0.heap.size w0 w'

end Go.Proofs.Ytgipfenjachpnaa

namespace Go.Proofs.Ytgipfenjachpnaa
open Go.RowKit
attribute [local go_sem ↓] Go.wp_at_zero Go.wp_at_succ

theorem sl_info : (Try.prog.info? 22).map (fun i => (i.zero, i.size, i.bytes)) = some (some (.slice none 0 0), 1, 24) := by kernel_rfl
theorem frms_le' {ts : List (List UInt8)} (h : ∀ t ∈ ts, t.length ≤ 300) : (frms ts).length ≤ 314 * ts.length := by
  induction ts with
  | nil => simp [frms]
  | cons t ts ih =>
    have h1 := h t (by simp)
    have h2 := ih (fun q hq => h q (by simp [hq]))
    have h3 := frm_len t
    have h4 := vb_le10 (n := t.length) (by omega)
    simp only [frms, List.flatMap_cons, List.length_append, List.length_cons] at h2 ⊢
    omega
/-- texts of the call's own -/
abbrev OwnT (w : World) (base : Nat) (A : Option Addr) (c : Nat) (ps : List Pt) : Prop := Own w base 22 1 A ps.length c (ps.map pv)
abbrev SlT (w : World) (A : Option Addr) (c : Nat) (ps : List Pt) : Prop := Sl w 1 A ps.length c (ps.map pv)
theorem one_pv (ps : List Pt) : ∀ u ∈ ps.map pv, u.oneCell' = true := by
  intro u hu
  simp only [List.mem_map] at hu
  obtain ⟨b, _, rfl⟩ := hu
  rfl
/-- append of texts -/
theorem wpl_texts {w : World} {ops : Array Oper} {rest : List Oper} {o : Oper} {a : Act} {Q : Exit → Act → World → Prop} (hgd : o.guard = none) (s x : Operand)
    (ho : o.op = .call { callee := .builtin .append, args := #[s, x], argTypes := #[200, 200] })
    (base : Nat) (A : Option Addr) (c : Nat) (l : List Pt) (hs : a.eval s = .slice A l.length c) (hown : OwnT w base A c l)
    (A2 : Option Addr) (c2 : Nat) (l2 : List Pt) (hx : a.eval x = .slice A2 l2.length c2) (hr : SlT w A2 c2 l2)
    (hlen : l.length + l2.length ≤ 100000) (hbase : base ≤ w.heap.size)
    (h : ∀ A' c' (m : List Pt) w', Hid (m = l ++ l2) → OwnT w' base A' c' m → Below base w w' → wpList Try.prog ops Q rest (a.put o.dst (.slice A' m.length c')) w') : wpList Try.prog ops Q (o :: rest) a w := by
  obtain ⟨i0, hi, hz0, hz1, hz2⟩ := info_parts sl_info
  refine wpl_append hgd s x 200 ho base 22 i0 (.slice none 0 0) 1 24 Try.underlying200 hi hz0 hz1 hz2 rfl (by decide) A l.length c (l.map pv) hs hown A2 l2.length c2 (l2.map pv) hx hr (one_pv l2) (by omega) (by simp only [maxLen]; omega) hbase ?_
  intro A' c' w' hap
  rw [← List.length_append]
  refine h A' c' (l ++ l2) w' rfl ?_ (hap.below hown hbase)
  have := hap.own
  simpa [OwnT] using this

end Go.Proofs.Ytgipfenjachpnaa
