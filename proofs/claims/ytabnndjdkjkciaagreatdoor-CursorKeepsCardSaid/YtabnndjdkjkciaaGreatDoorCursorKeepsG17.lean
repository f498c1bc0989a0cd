/- WHAT IT HOLDS: which cursors there are, plainly and walked. -/
import Derived.Test.YtabnndjdkjkciaaGreatDoorCursorKeepsG16
namespace Go.Proofs.YtabnndjdkjkciaaGreatDoor
open Go.RowKit
attribute [local go_sem ↓] Go.wp_at_zero Go.wp_at_succ

/-- a cursor: from, next, to, its trim, its parts -/
abbrev Cur := Int × Int × Int × Int × List Pt5
def crchk (x : Cur) : Nat := if mchk (1, x.1, x.2.1, x.2.2.2.1, dg0, x.2.2.2.2) ≠ 0 then mchk (1, x.1, x.2.1, x.2.2.2.1, dg0, x.2.2.2.2) else if x.2.2.1 < 0 ∨ 1048576 < x.2.2.1 then 1 else if x.2.2.1 < x.2.1 then 2 else 0
abbrev crv (f nx t q : Int) (A : Option Addr) (k c : Nat) : Value := .agg #[.int .i64 f, .int .i64 nx, .int .i64 t, .int .i64 q, .slice A k c]
theorem Blk.five {w : World} {g : Nat} {t : TypeId} {a b c d e : Value} (h : Blk w g t #[a, b, c, d, e]) : w.cell? ⟨g, 0, none⟩ = some a ∧ w.cell? ⟨g, 1, none⟩ = some b ∧ w.cell? ⟨g, 2, none⟩ = some c ∧ w.cell? ⟨g, 3, none⟩ = some d ∧ w.cell? ⟨g, 4, none⟩ = some e ∧
    w.frozen? ⟨g, 0, none⟩ = false ∧ w.frozen? ⟨g, 1, none⟩ = false ∧ w.frozen? ⟨g, 2, none⟩ = false ∧ w.frozen? ⟨g, 3, none⟩ = false ∧ w.frozen? ⟨g, 4, none⟩ = false := ⟨h.cell 0, h.cell 1, h.cell 2, h.cell 3, h.cell 4, h.frozen 0, h.frozen 1, h.frozen 2, h.frozen 3, h.frozen 4⟩
theorem mfa_all (n f t r : Int) (d : Dg) (A : Option Addr) (k c : Nat) : (mfa n f t r d A k c).all (·.oneCell') = true := by
  rw [Array.all_eq_true_iff_forall_mem]
  intro u hu
  simp only [mfa, mfl, List.mem_toArray, List.mem_cons, List.mem_append, List.not_mem_nil, or_false] at hu
  rcases hu with rfl | rfl | rfl | rfl | hu | rfl
  · rfl
  · rfl
  · rfl
  · rfl
  · exact one_bvs _ u hu
  · rfl
theorem crchk_m {x : Cur} (h : mchk (1, x.1, x.2.1, x.2.2.2.1, dg0, x.2.2.2.2) ≠ 0) : crchk x = mchk (1, x.1, x.2.1, x.2.2.2.1, dg0, x.2.2.2.2) := by unfold crchk; rw [if_pos h]
theorem crchk_to {x : Cur} (h : mchk (1, x.1, x.2.1, x.2.2.2.1, dg0, x.2.2.2.2) = 0) (h2 : x.2.2.1 < 0 ∨ 1048576 < x.2.2.1) : crchk x = 1 := by unfold crchk; rw [if_neg (by rw [h]; simp), if_pos h2]
theorem crchk_far {x : Cur} (h : mchk (1, x.1, x.2.1, x.2.2.2.1, dg0, x.2.2.2.2) = 0) (h2 : ¬ (x.2.2.1 < 0 ∨ 1048576 < x.2.2.1)) (h3 : x.2.2.1 < x.2.1) : crchk x = 2 := by unfold crchk; rw [if_neg (by rw [h]; simp), if_neg h2, if_pos h3]
theorem crchk_fine {x : Cur} (h : mchk (1, x.1, x.2.1, x.2.2.2.1, dg0, x.2.2.2.2) = 0) (h2 : ¬ (x.2.2.1 < 0 ∨ 1048576 < x.2.2.1)) (h3 : ¬ x.2.2.1 < x.2.1) : crchk x = 0 := by unfold crchk; rw [if_neg (by rw [h]; simp), if_neg h2, if_neg h3]
theorem wpl_storeNg {P : Program} {ops : Array Oper} {rest : List Oper} {o : Oper} {a : Act} {w : World} {Q : Exit → Act → World → Prop} {g : Nat} (hg : g = w.heap.size) (hgd : o.guard = none) (ty : TypeId) (x y : Operand) (ho : o.op = .store ty x y)
    (old cells : Array Value) (t : TypeId) (hx : a.eval x = .pointer (some ⟨g, 0, none⟩)) (hy : a.eval y = .agg cells) (hi : (P.info? ty).map (·.size) = some cells.size) (hold : old.size = cells.size) (h1 : cells.all (·.oneCell') = true)
    (h : wpList P ops Q rest (a.put o.dst undef) (w.alloc (.cells cells t))) : wpList P ops Q (o :: rest) a (w.alloc (.cells old t)) := by
  subst hg
  exact wpl_storeN hgd ty x y ho old cells t hx hy hi hold h1 h
theorem built_m (n f t r : Int) (A : Option Addr) (k c : Nat) : Tryz.prog.built 57 [(0, .int .i64 n), (1, .int .i64 f), (2, .int .i64 t), (3, .int .i64 r), (5, .slice A k c)] = some (mfa n f t r dg0 A k c) := by kernel_rfl
/-- a manifest that is typed out -/
theorem wpl_buildM {ops : Array Oper} {rest : List Oper} {o : Oper} {a : Act} {w : World} {Q : Exit → Act → World → Prop} (hgd : o.guard = none) (x0 x1 x2 x3 x5 : Operand) (ho : o.op = .build 57 #[(0, x0), (1, x1), (2, x2), (3, x3), (5, x5)])
    {n f t r : Int} {A : Option Addr} {k c : Nat} (h0 : a.eval x0 = .int .i64 n) (h1 : a.eval x1 = .int .i64 f) (h2 : a.eval x2 = .int .i64 t) (h3 : a.eval x3 = .int .i64 r) (h5 : a.eval x5 = .slice A k c)
    (h : wpList Tryz.prog ops Q rest (a.put o.dst (.agg (mfa n f t r dg0 A k c))) w) : wpList Tryz.prog ops Q (o :: rest) a w := by
  have hl : ((#[(0, x0), (1, x1), (2, x2), (3, x3), (5, x5)] : Array (Nat × Operand)).map fun (i, x) => (i, a.eval x)).toList = [(0, .int .i64 n), (1, .int .i64 f), (2, .int .i64 t), (3, .int .i64 r), (5, .slice A k c)] := by
    simp [h0, h1, h2, h3, h5]
  refine wpList_build hgd 57 _ ho ?_ ?_
  · rw [hl, built_m]; rfl
  · rw [hl, built_m]; exact h
set_option maxRecDepth 100000 in
set_option maxHeartbeats 1000000 in
theorem CrCheck_any {A : Option Addr} {c : Nat} (f nx t q : Int) (ps : List Pt5) (w : World) (h : SlP w A c ps) (hI : PtsI ps) :
    Calls Tryz.prog 139 #[crv f nx t q A ps.length c] w fun e w' => e = .returned (errv (crchk (f, nx, t, q, ps))) ∧ Below w.heap.size w w' := by
  have hB := (Blk.new w 72 #[.int .i64 f, .int .i64 nx, .int .i64 t, .int .i64 q, .slice A ps.length c]).alloc (.cells (mfa 1 f nx q dg0 A ps.length c) 57)
  have hM : BlM _ (w.heap.size + 1) 1 f nx q dg0 A ps.length c := Blk.newAt (w := w.alloc (.cells #[.int .i64 f, .int .i64 nx, .int .i64 t, .int .i64 q, .slice A ps.length c] 72)) (g := w.heap.size + 1) (by simp) 57 (mfa 1 f nx q dg0 A ps.length c)
  have hbw := bel_alloc (below_new w (.cells #[.int .i64 f, .int .i64 nx, .int .i64 t, .int .i64 q, .slice A ps.length c] 72)) (.cells (mfa 1 f nx q dg0 A ps.length c) 57)
  have hms := Lib.hid (mfa_size 1 f nx q dg0 A ps.length c)
  have hma := Lib.hid (mfa_all 1 f nx q dg0 A ps.length c)
  have hC := MCheck_any 1 f nx q dg0 ps _ (h.below hbw) hI
  have hc1 := fun h => Lib.hid (crchk_m (x := (f, nx, t, q, ps)) h)
  have hc2 := fun h h2 => Lib.hid (crchk_to (x := (f, nx, t, q, ps)) h h2)
  have hc3 := fun h h2 h3 => Lib.hid (crchk_far (x := (f, nx, t, q, ps)) h h2 h3)
  have hc4 := fun h h2 h3 => Lib.hid (crchk_fine (x := (f, nx, t, q, ps)) h h2 h3)
  dsimp only at hc1 hc2 hc3 hc4
  generalize mchk (1, f, nx, q, dg0, ps) = bad at *
  rcases errv_cases bad with ⟨h0, hev⟩ | ⟨k, hk, hke, hev⟩
  · rw [hev] at hC
    have HC := Lib.hid hC
    have HN := Lib.hid h0
    clear hC hev h0 hc1
    go_enter Tryz.func139, Tryz.ntmps139
    go_wp2_with (first | (refine wpl_buildM rfl _ _ _ _ _ rfl (n := 1) (f := f) (t := nx) (r := q) (A := A) (k := ps.length) (c := c) rfl rfl rfl rfl rfl ?_) | (refine wpl_storeNg (g := w.heap.size + 1) (by simp) rfl 57 _ _ rfl _ (mfa 1 f nx q dg0 A ps.length c) 57 rfl rfl (by rw [hms.out]; kernel_rfl) (by rw [hms.out]; rfl) hma.out ?_) | (refine wpl_loadG rfl 57 _ rfl ⟨w.heap.size + 1, 0, none⟩ (mfa 1 f nx q dg0 A ps.length c) rfl hM.cells _ Tryz.underlying57 rfl (by rw [hms.out]; kernel_rfl) ?_))
    refine HC.out.mono ?_
    rintro e w2 ⟨rfl, hb2⟩
    have hB2 := Blk.below hB hb2
    have hw := bel_call hbw hb2
    obtain ⟨a0, a1, a2, a3, a4, _⟩ := Blk.five hB2
    clear hB hM hbw hb2 HC
    by_cases g1 : t < 0
    · have hr := hc2 HN.out (.inl g1)
      clear hc2 hc3 hc4
      go_wp2_with fail
      go_ret
      exact ⟨by rw [hr.out]; rfl, hw⟩
    by_cases g2 : 1048576 < t
    · have hr := hc2 HN.out (.inr g2)
      clear hc2 hc3 hc4
      go_wp2_with fail
      go_ret
      exact ⟨by rw [hr.out]; rfl, hw⟩
    by_cases g3 : t < nx
    · have hr := hc3 HN.out (by omega) g3
      clear hc2 hc3 hc4
      go_wp2_with fail
      go_ret
      exact ⟨by rw [hr.out]; rfl, hw⟩
    · have hr := hc4 HN.out (by omega) (by omega)
      clear hc2 hc3 hc4
      go_wp2_with fail
      go_ret
      exact ⟨by rw [hr.out]; rfl, hw⟩
  · have hr := hc1 (by omega)
    have HEV := Lib.hid hev
    rw [hev] at hC
    have HC := Lib.hid hC
    clear hC hev hke hc1 hc2 hc3 hc4
    go_enter Tryz.func139, Tryz.ntmps139
    go_wp2_with (first | (refine wpl_buildM rfl _ _ _ _ _ rfl (n := 1) (f := f) (t := nx) (r := q) (A := A) (k := ps.length) (c := c) rfl rfl rfl rfl rfl ?_) | (refine wpl_storeNg (g := w.heap.size + 1) (by simp) rfl 57 _ _ rfl _ (mfa 1 f nx q dg0 A ps.length c) 57 rfl rfl (by rw [hms.out]; kernel_rfl) (by rw [hms.out]; rfl) hma.out ?_) | (refine wpl_loadG rfl 57 _ rfl ⟨w.heap.size + 1, 0, none⟩ (mfa 1 f nx q dg0 A ps.length c) rfl hM.cells _ Tryz.underlying57 rfl (by rw [hms.out]; kernel_rfl) ?_))
    refine HC.out.mono ?_
    rintro e w2 ⟨rfl, hb2⟩
    go_wp2_with fail
    go_ret
    exact ⟨by rw [hr.out, HEV.out]; rfl, bel_call hbw hb2⟩
set_option maxRecDepth 100000 in
set_option maxHeartbeats 400000 in
theorem CrDone_any (f nx t q : Int) (A : Option Addr) (k c : Nat) (w : World) : Calls Tryz.prog 69 #[crv f nx t q A k c] w fun e w' => e = .returned (.bool (nx == t)) ∧ Below w.heap.size w w' := by
  have hbw := below_new w (.cells #[.int .i64 f, .int .i64 nx, .int .i64 t, .int .i64 q, .slice A k c] 72)
  go_enter Tryz.func69, Tryz.ntmps69
  go_wp2_with fail
  go_ret
  exact ⟨rfl, hbw⟩
end Go.Proofs.YtabnndjdkjkciaaGreatDoor
