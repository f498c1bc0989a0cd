/- WHAT IT HOLDS: which manifests there are, by the document, walked. | WHAT IT HOLDS: the document's cursors, walked: Check, Same, a cursor as the document's. | WHAT IT HOLDS: the document's bytes of a cursor: walked. | WHAT IT HOLDS: the document's rows of files in memory; found, struck, put: walked. | WHAT IT HOLDS: the document's rows of files: one struck, one put: walked. -/
import Derived.Test.YtabnndjdkjkciaaGreatDoorCursorKeepsG25
import Derived.Test.YtabnndjdkjkciaaGreatDoorCursorKeepsG21
import Derived.Test.YtabnndjdkjkciaaGreatDoorCursorKeepsG18
import Derived.Test.YtabnndjdkjkciaaGreatDoorCursorKeepsG07
import Derived.Deep.DeepCutAuto
import Derived.Test.YtabnndjdkjkciaaGreatDoorCursorKeepsG11
namespace Go.Proofs.YtabnndjdkjkciaaGreatDoor
open Go.RowKit
attribute [local go_sem ↓] Go.wp_at_zero Go.wp_at_succ

theorem Bl3 {w : World} {g : Nat} {T : TypeId} {p : Pt5} (h : Blk w g T (pta p)) : w.cell? ⟨g, 0, none⟩ = some (.int .i64 p.1) ∧ w.cell? ⟨g, 1, none⟩ = some (.int .i64 p.2.1) ∧ w.cell? ⟨g, 2, none⟩ = some (.int .i64 p.2.2.1) :=
  ⟨(h.cell 0).trans rfl, (h.cell 1).trans rfl, (h.cell 2).trans rfl⟩
theorem rrg_bad {n f t r : Int} {d : Dg} {ps : List Pt5} {k : Nat} {x : Int} (hk : [f, t, r][k]? = some x) (h : x < 0 ∨ 1048576 < x) : mchk (n, f, t, r, d, ps) = 1 := by
  refine mchk_range ?_
  have hx : inb x 1048576 = false := by
    rw [Bool.eq_false_iff]
    intro hh
    have := inb_iff.1 hh
    omega
  dsimp only
  match k, hk with
  | 0, hk => injection hk with hk; subst hk; exact .inr (.inl hx)
  | 1, hk => injection hk with hk; subst hk; exact .inr (.inr (.inl hx))
  | 2, hk => injection hk with hk; subst hk; exact .inr (.inr (.inr hx))
theorem inb_of {x m : Int} (h : ¬ x < 0) (h2 : ¬ m < x) : inb x m = true := inb_iff.2 ⟨by omega, by omega⟩
theorem inb_not {x m : Int} (h : x < 0 ∨ m < x) : inb x m = false := by
  rw [Bool.eq_false_iff]
  intro hh
  have := inb_iff.1 hh
  omega
set_option maxRecDepth 100000 in
theorem built_dgz : Tryz.prog.built 42 [] = some (dga dg0) := by kernel_rfl
theorem wpl_buildDz {w : World} {ops : Array Oper} {rest : List Oper} {o : Oper} {a : Act} {Q : Exit → Act → World → Prop} (hgd : Region.wanted o (yielded ops a.tmps) = true) (ho : o.op = .build 42 #[])
    (h : wpList Tryz.prog ops Q rest (a.put o.dst (.agg (dga dg0))) w) : wpList Tryz.prog ops Q (o :: rest) a w :=
  wpList_step fun _ hK => by
    rw [if_pos hgd]
    have hl : ((#[] : Array (Nat × Operand)).map fun (i, x) => (i, a.eval x)).toList = [] := by simp
    refine wp_build 42 #[] ho ?_ ?_
    · rw [hl, built_dgz]; simp
    · rw [hl, built_dgz]; exact hK _ _ h
theorem ptchk_bad {p : Pt5} {a : Int} (h : p.2.1 < 1 ∨ 64 < p.2.1 ∨ p.2.2.1 < 1 ∨ 65536 < p.2.2.1) : ptchk p a = 1 := by unfold ptchk; rw [if_pos h]
theorem ptchk_form {p : Pt5} {a : Int} (h : ¬ (p.2.1 < 1 ∨ 64 < p.2.1 ∨ p.2.2.1 < 1 ∨ 65536 < p.2.2.1)) (h2 : p.1 ≠ a) : ptchk p a = 2 := by unfold ptchk; rw [if_neg h, if_pos h2]
theorem ptchk_fine {p : Pt5} {a : Int} (h : ¬ (p.2.1 < 1 ∨ 64 < p.2.1 ∨ p.2.2.1 < 1 ∨ 65536 < p.2.2.1)) (h2 : p.1 = a) : ptchk p a = 0 := by unfold ptchk; rw [if_neg h, if_neg (by simpa using h2)]
set_option maxRecDepth 100000 in
set_option maxHeartbeats 4000000 in
theorem rMCheck_any {A : Option Addr} {c : Nat} (n f t r : Int) (d : Dg) (ps : List Pt5) (w : World) (h : SlP w A c ps) (hI : PtsI ps) :
    Calls Tryz.prog 70 #[.agg (mfa n f t r d A ps.length c)] w fun e w' => e = .returned (.int .i64 (mchk (n, f, t, r, d, ps) : Nat)) ∧ Below w.heap.size w w' := by
  have hM := (Mm.start w).alloc (mfa n f t r d A ps.length c) 149
  have hmax := h.len_le
  unfold maxLen at hmax
  obtain ⟨a0, a1, a2, a3, a4⟩ := Blm.five hM.b0
  have hM1 := hM.alloc #[.int .i64 f, .int .i64 t, .int .i64 r] 3
  rw [show (w.alloc (.cells (mfa n f t r d A ps.length c) 149)).heap.size = w.heap.size + 1 from by simp] at hM1
  go_enter Tryz.func70, Tryz.ntmps70
  go_upto_region 2 with (fail)
  refine gen1 (T := fun W => Mm w W [(w.heap.size + 1, 3, #[.int .i64 f, .int .i64 t, .int .i64 r]), (w.heap.size, 149, mfa n f t r d A ps.length c)] []) hM1 (fun w1 hM => ?_)
  clear hM1 a0 a1 a2 a3 a4
  obtain ⟨l0, l1, l2, -⟩ := Blk.three hM.b0
  obtain ⟨a0, a1, a2, a3, a4⟩ := Blm.five hM.b1
  go_wp2_with fail
  go_loopw [16] (fun x wr => ∃ k : Nat, k ≤ 3 ∧ x = .int .i64 (k : Nat) ∧ Hid (∀ (i : Nat) (x : Int), i < k → [f, t, r][i]? = some x → inb x 1048576 = true) ∧ wr = w1) (fun x wr => 3 - (intOf x).toNat)
  case atStart => exact ⟨0, by omega, rfl, (show ∀ _ _, _ from fun i x hi => by omega), rfl⟩
  case round =>
    obtain ⟨k, hk, rfl, hall, rfl⟩ := hrel
    rcases Nat.lt_or_ge k 3 with hlt | hge
    · have hkI : (k : Int) < 3 := by omega
      obtain ⟨x, hx, hcx⟩ : ∃ x : Int, [f, t, r][k]? = some x ∧ wr.cell? ⟨w.heap.size + 1, k, none⟩ = some (.int .i64 x) := by
        match k, hlt with
        | 0, _ => exact ⟨f, rfl, l0⟩
        | 1, _ => exact ⟨t, rfl, l1⟩
        | 2, _ => exact ⟨r, rfl, l2⟩
      have HX := Lib.hid hx
      clear hx
      by_cases h1 : x < 0
      · have HC := Lib.hid (rrg_bad (n := n) (d := d) (ps := ps) HX.out (.inl h1))
        go_wp2_with fail
        go_ret
        exact ⟨by rw [HC.out]; rfl, hM.bel⟩
      by_cases h2 : 1048576 < x
      · have HC := Lib.hid (rrg_bad (n := n) (d := d) (ps := ps) HX.out (.inr h2))
        go_wp2_with fail
        go_ret
        exact ⟨by rw [HC.out]; rfl, hM.bel⟩
      have HB := Lib.hid (inb_of h1 h2)
      go_wp2_with fail
      go_roundw
      case rel =>
        refine ⟨k + 1, hlt, by go_num, (show ∀ _ _, _ from fun i y hi hy => ?_), (by first | rfl | trivial)⟩
        rcases Nat.lt_or_ge i k with hik | hik
        · exact hall.out i y hik hy
        · obtain rfl : i = k := by omega
          rw [HX.out] at hy
          injection hy with hy
          subst hy
          exact HB.out
      case measure => simp [intOf]; omega
    · obtain rfl : k = 3 := by omega
      have HB2 := Lib.hid (hall.out 0 f (by omega) rfl)
      have HB3 := Lib.hid (hall.out 1 t (by omega) rfl)
      have HB4 := Lib.hid (hall.out 2 r (by omega) rfl)
      clear hall
      by_cases h1 : n < 0
      · have HC := Lib.hid (mchk_range (m := (n, f, t, r, d, ps)) (.inl (inb_not (.inl h1))))
        go_wp2_with fail
        go_ret
        exact ⟨by rw [HC.out]; rfl, hM.bel⟩
      by_cases h2 : 999999 < n
      · have HC := Lib.hid (mchk_range (m := (n, f, t, r, d, ps)) (.inl (inb_not (.inr h2))))
        go_wp2_with fail
        go_ret
        exact ⟨by rw [HC.out]; rfl, hM.bel⟩
      have HB1 := Lib.hid (inb_of h1 h2)
      by_cases c1 : t < f
      · have HC := Lib.hid (mchk_form (m := (n, f, t, r, d, ps)) HB1.out HB2.out HB3.out HB4.out (.inl c1))
        go_wp2_with fail
        go_ret
        exact ⟨by rw [HC.out]; rfl, hM.bel⟩
      by_cases c2 : n = 0
      · have hn0 : (n == 0) = true := by simpa using c2
        obtain ⟨zb, hzb⟩ : ∃ b, decide (d = dg0) = b := ⟨_, rfl⟩
        have hnq := fun W => neq_dgR d dg0 W
        rw [hzb] at hnq
        have hdg := Lib.hid (Blm.dg hM.b1)
        have hds := Lib.hid (dga_size d)
        have HZB := Lib.hid hzb
        have HN0 := Lib.hid c2
        clear hzb c2
        cases zb with
        | false =>
          have HC := Lib.hid (mchk_form (m := (n, f, t, r, d, ps)) HB1.out HB2.out HB3.out HB4.out (.inr ⟨HN0.out, HZB.out⟩))
          go_wp2_with (first | (refine wpl_loadG (by kernel_rfl) 42 _ rfl ⟨w.heap.size, 4, none⟩ (dga d) rfl hdg.out _ Tryz.underlying42 rfl (by rw [hds.out]; kernel_rfl) ?_) | (refine wpl_buildDz (by kernel_rfl) rfl ?_))
          go_ret
          exact ⟨by rw [HC.out]; rfl, hM.bel⟩
        | true =>
          have HM := Lib.hid (mchk_rest (m := (n, f, t, r, d, ps)) HB1.out HB2.out HB3.out HB4.out (by dsimp only; omega) (fun _ => HZB.out))
          dsimp only at HM
          clear HN0 HZB
          by_cases hlen : 1024 < ps.length
          · have hlI : (1024 : Int) < (ps.length : Int) := by omega
            have HC := Lib.hid (show mchk (n, f, t, r, d, ps) = 3 from by rw [HM.out, if_pos hlen])
            clear hlen
            go_wp2_with (first | (refine wpl_loadG (by kernel_rfl) 42 _ rfl ⟨w.heap.size, 4, none⟩ (dga d) rfl hdg.out _ Tryz.underlying42 rfl (by rw [hds.out]; kernel_rfl) ?_) | (refine wpl_buildDz (by kernel_rfl) rfl ?_))
            go_ret
            exact ⟨by rw [HC.out]; rfl, hM.bel⟩
          · have hlI : (ps.length : Int) ≤ 1024 := by omega
            have HM2 := Lib.hid (show mchk (n, f, t, r, d, ps) = pgo t f ps from by rw [HM.out, if_neg hlen])
            have hf2 := inb_iff.1 HB2.out
            obtain ⟨hf0, hf1⟩ := hf2
            clear hlen HM
            go_wp2_with (first | (refine wpl_loadG (by kernel_rfl) 42 _ rfl ⟨w.heap.size, 4, none⟩ (dga d) rfl hdg.out _ Tryz.underlying42 rfl (by rw [hds.out]; kernel_rfl) ?_) | (refine wpl_buildDz (by kernel_rfl) rfl ?_))
            go_loopw [60, 5] (fun x y wr => ∃ (k : Nat) (a : Int), k ≤ ps.length ∧ x = .int .i64 k ∧ y = .int .i64 a ∧ Hid (pgo t f ps = pgo t a (ps.drop k)) ∧ f ≤ a ∧ a ≤ f + 64 * k ∧ Mm w wr [(w.heap.size, 149, mfa n f t r d A ps.length c)] []) (fun x y w => ps.length - (intOf x).toNat)
            case atStart => exact ⟨0, f, Nat.zero_le _, rfl, rfl, (show _ = _ from by rw [List.drop_zero]), Int.le_refl _, by omega, hM.sub (List.sublist_cons_self _ _)⟩
            case round =>
              obtain ⟨k, a, hk, rfl, rfl, hp, ha0, ha1, hMr⟩ := hrel
              clear hM a0 a1 a2 a3 a4 l0 l1 l2
              by_cases hlt : k < ps.length
              · obtain ⟨ad, b, o, rfl, had, hcc⟩ := (h.below hMr.bel).at hlt
                have hnx := Lib.hid (fun h0 => (pgo_step (z := t) (a := a) hlt h0))
                have hst := Lib.hid (fun h0 => (pgo_stop (z := t) (a := a) hlt h0))
                have hIp := hI _ (List.getElem_mem hlt)
                generalize ps[k] = p at *
                obtain ⟨_, hI1, hI2⟩ := hIp
                have hps := Lib.hid (pta_size p)
                have hpa := Lib.hid (pta_all p)
                have HCC := Lib.hid hcc
                have hMx := hMr.alloc (pta p) 44
                clear hcc
                go_upto_region 17 with (first | (refine wpl_loadG rfl 44 _ rfl ⟨b, o, none⟩ (pta p) rfl HCC.out _ Tryz.underlying44 rfl (by rw [hps.out]; kernel_rfl) ?_) | (refine wpl_storeN rfl 44 _ _ rfl _ (pta p) 44 rfl rfl (by rw [hps.out]; kernel_rfl) (by rw [hps.out]; rfl) hpa.out ?_))
                obtain ⟨x0, x1, x2⟩ := Bl3 hMx.b0
                clear hps hpa HCC hMr
                by_cases q1 : p.2.1 < 1
                · have HP := Lib.hid (HM2.out.trans (hp.out.trans ((hst.out (by rw [ptchk_bad (.inl q1)]; simp)).trans (ptchk_bad (.inl q1)))))
                  clear hnx hst hp
                  go_wp2_with fail
                  go_ret
                  exact ⟨by rw [HP.out]; rfl, hMx.bel⟩
                by_cases q2 : 64 < p.2.1
                · have HP := Lib.hid (HM2.out.trans (hp.out.trans ((hst.out (by rw [ptchk_bad (.inr (.inl q2))]; simp)).trans (ptchk_bad (.inr (.inl q2))))))
                  clear hnx hst hp
                  go_wp2_with fail
                  go_ret
                  exact ⟨by rw [HP.out]; rfl, hMx.bel⟩
                by_cases q3 : p.2.2.1 < 1
                · have HP := Lib.hid (HM2.out.trans (hp.out.trans ((hst.out (by rw [ptchk_bad (.inr (.inr (.inl q3)))]; simp)).trans (ptchk_bad (.inr (.inr (.inl q3)))))))
                  clear hnx hst hp
                  go_wp2_with fail
                  go_ret
                  exact ⟨by rw [HP.out]; rfl, hMx.bel⟩
                by_cases q4 : 65536 < p.2.2.1
                · have HP := Lib.hid (HM2.out.trans (hp.out.trans ((hst.out (by rw [ptchk_bad (.inr (.inr (.inr q4)))]; simp)).trans (ptchk_bad (.inr (.inr (.inr q4)))))))
                  clear hnx hst hp
                  go_wp2_with fail
                  go_ret
                  exact ⟨by rw [HP.out]; rfl, hMx.bel⟩
                by_cases q5 : p.1 = a
                · have hb : (p.1 != a) = false := by simp [q5]
                  have h0 := ptchk_fine (by omega : ¬ (p.2.1 < 1 ∨ 64 < p.2.1 ∨ p.2.2.1 < 1 ∨ 65536 < p.2.2.1)) q5
                  have HP := Lib.hid (hp.out.trans (hnx.out h0))
                  clear h0 hnx hst hp q5 hI1 hI2
                  have hwa : wrap64 (a + p.2.1) = a + p.2.1 := by simp only [wrap64]; omega
                  have hwa2 : IntKind.i64.wrap (a + p.2.1) = a + p.2.1 := by rw [IntKind.wrap_i64]; omega
                  go_wp2_with fail
                  go_roundw
                  case rel => exact ⟨k + 1, a + p.2.1, hlt, by go_num, rfl, HP, by omega, by omega, hMx.sub (List.sublist_cons_self _ _)⟩
                  case measure => simp [intOf]; omega
                · have hb : (p.1 != a) = true := by simpa using q5
                  have h0 := ptchk_form (by omega : ¬ (p.2.1 < 1 ∨ 64 < p.2.1 ∨ p.2.2.1 < 1 ∨ 65536 < p.2.2.1)) q5
                  have HP := Lib.hid (HM2.out.trans (hp.out.trans ((hst.out (by omega)).trans h0)))
                  clear h0 hnx hst hp q5 hI1 hI2
                  go_wp2_with fail
                  go_ret
                  exact ⟨by rw [HP.out]; rfl, hMx.bel⟩
              · have hkn : ps.drop k = [] := List.drop_eq_nil_of_le (by omega)
                have HP := Lib.hid (show mchk (n, f, t, r, d, ps) = if a ≠ t then 2 else 0 from by rw [HM2.out, hp.out, hkn]; rfl)
                clear hp hkn
                obtain ⟨a0, a1, a2, a3, a4⟩ := Blm.five hMr.b0
                by_cases hat : a = t
                · have hb : (a != t) = false := by simp [hat]
                  have HC := Lib.hid (show mchk (n, f, t, r, d, ps) = 0 from by rw [HP.out, if_neg (by simp [hat])])
                  clear HP hat
                  go_wp2_with fail
                  go_ret
                  exact ⟨by rw [HC.out]; rfl, hMr.bel⟩
                · have hb : (a != t) = true := by simpa using hat
                  have HC := Lib.hid (show mchk (n, f, t, r, d, ps) = 2 from by rw [HP.out, if_pos hat])
                  clear HP hat
                  go_wp2_with fail
                  go_ret
                  exact ⟨by rw [HC.out]; rfl, hMr.bel⟩
      · have hn0 : (n == 0) = false := by simpa using c2
        have HM := Lib.hid (mchk_rest (m := (n, f, t, r, d, ps)) HB1.out HB2.out HB3.out HB4.out (by dsimp only; omega) (fun h0 => absurd h0 c2))
        dsimp only at HM
        clear c2
        by_cases hlen : 1024 < ps.length
        · have hlI : (1024 : Int) < (ps.length : Int) := by omega
          have HC := Lib.hid (show mchk (n, f, t, r, d, ps) = 3 from by rw [HM.out, if_pos hlen])
          clear hlen
          go_wp2_with fail
          go_ret
          exact ⟨by rw [HC.out]; rfl, hM.bel⟩
        · have hlI : (ps.length : Int) ≤ 1024 := by omega
          have HM2 := Lib.hid (show mchk (n, f, t, r, d, ps) = pgo t f ps from by rw [HM.out, if_neg hlen])
          have hf2 := inb_iff.1 HB2.out
          obtain ⟨hf0, hf1⟩ := hf2
          clear hlen HM
          go_wp2_with fail
          go_loopw [60, 5] (fun x y wr => ∃ (k : Nat) (a : Int), k ≤ ps.length ∧ x = .int .i64 k ∧ y = .int .i64 a ∧ Hid (pgo t f ps = pgo t a (ps.drop k)) ∧ f ≤ a ∧ a ≤ f + 64 * k ∧ Mm w wr [(w.heap.size, 149, mfa n f t r d A ps.length c)] []) (fun x y w => ps.length - (intOf x).toNat)
          case atStart => exact ⟨0, f, Nat.zero_le _, rfl, rfl, (show _ = _ from by rw [List.drop_zero]), Int.le_refl _, by omega, hM.sub (List.sublist_cons_self _ _)⟩
          case round =>
            obtain ⟨k, a, hk, rfl, rfl, hp, ha0, ha1, hMr⟩ := hrel
            clear hM a0 a1 a2 a3 a4 l0 l1 l2
            by_cases hlt : k < ps.length
            · obtain ⟨ad, b, o, rfl, had, hcc⟩ := (h.below hMr.bel).at hlt
              have hnx := Lib.hid (fun h0 => (pgo_step (z := t) (a := a) hlt h0))
              have hst := Lib.hid (fun h0 => (pgo_stop (z := t) (a := a) hlt h0))
              have hIp := hI _ (List.getElem_mem hlt)
              generalize ps[k] = p at *
              obtain ⟨_, hI1, hI2⟩ := hIp
              have hps := Lib.hid (pta_size p)
              have hpa := Lib.hid (pta_all p)
              have HCC := Lib.hid hcc
              have hMx := hMr.alloc (pta p) 44
              clear hcc
              go_upto_region 17 with (first | (refine wpl_loadG rfl 44 _ rfl ⟨b, o, none⟩ (pta p) rfl HCC.out _ Tryz.underlying44 rfl (by rw [hps.out]; kernel_rfl) ?_) | (refine wpl_storeN rfl 44 _ _ rfl _ (pta p) 44 rfl rfl (by rw [hps.out]; kernel_rfl) (by rw [hps.out]; rfl) hpa.out ?_))
              obtain ⟨x0, x1, x2⟩ := Bl3 hMx.b0
              clear hps hpa HCC hMr
              by_cases q1 : p.2.1 < 1
              · have HP := Lib.hid (HM2.out.trans (hp.out.trans ((hst.out (by rw [ptchk_bad (.inl q1)]; simp)).trans (ptchk_bad (.inl q1)))))
                clear hnx hst hp
                go_wp2_with fail
                go_ret
                exact ⟨by rw [HP.out]; rfl, hMx.bel⟩
              by_cases q2 : 64 < p.2.1
              · have HP := Lib.hid (HM2.out.trans (hp.out.trans ((hst.out (by rw [ptchk_bad (.inr (.inl q2))]; simp)).trans (ptchk_bad (.inr (.inl q2))))))
                clear hnx hst hp
                go_wp2_with fail
                go_ret
                exact ⟨by rw [HP.out]; rfl, hMx.bel⟩
              by_cases q3 : p.2.2.1 < 1
              · have HP := Lib.hid (HM2.out.trans (hp.out.trans ((hst.out (by rw [ptchk_bad (.inr (.inr (.inl q3)))]; simp)).trans (ptchk_bad (.inr (.inr (.inl q3)))))))
                clear hnx hst hp
                go_wp2_with fail
                go_ret
                exact ⟨by rw [HP.out]; rfl, hMx.bel⟩
              by_cases q4 : 65536 < p.2.2.1
              · have HP := Lib.hid (HM2.out.trans (hp.out.trans ((hst.out (by rw [ptchk_bad (.inr (.inr (.inr q4)))]; simp)).trans (ptchk_bad (.inr (.inr (.inr q4)))))))
                clear hnx hst hp
                go_wp2_with fail
                go_ret
                exact ⟨by rw [HP.out]; rfl, hMx.bel⟩
              by_cases q5 : p.1 = a
              · have hb : (p.1 != a) = false := by simp [q5]
                have h0 := ptchk_fine (by omega : ¬ (p.2.1 < 1 ∨ 64 < p.2.1 ∨ p.2.2.1 < 1 ∨ 65536 < p.2.2.1)) q5
                have HP := Lib.hid (hp.out.trans (hnx.out h0))
                clear h0 hnx hst hp q5 hI1 hI2
                have hwa : wrap64 (a + p.2.1) = a + p.2.1 := by simp only [wrap64]; omega
                have hwa2 : IntKind.i64.wrap (a + p.2.1) = a + p.2.1 := by rw [IntKind.wrap_i64]; omega
                go_wp2_with fail
                go_roundw
                case rel => exact ⟨k + 1, a + p.2.1, hlt, by go_num, rfl, HP, by omega, by omega, hMx.sub (List.sublist_cons_self _ _)⟩
                case measure => simp [intOf]; omega
              · have hb : (p.1 != a) = true := by simpa using q5
                have h0 := ptchk_form (by omega : ¬ (p.2.1 < 1 ∨ 64 < p.2.1 ∨ p.2.2.1 < 1 ∨ 65536 < p.2.2.1)) q5
                have HP := Lib.hid (HM2.out.trans (hp.out.trans ((hst.out (by omega)).trans h0)))
                clear h0 hnx hst hp q5 hI1 hI2
                go_wp2_with fail
                go_ret
                exact ⟨by rw [HP.out]; rfl, hMx.bel⟩
            · have hkn : ps.drop k = [] := List.drop_eq_nil_of_le (by omega)
              have HP := Lib.hid (show mchk (n, f, t, r, d, ps) = if a ≠ t then 2 else 0 from by rw [HM2.out, hp.out, hkn]; rfl)
              clear hp hkn
              obtain ⟨a0, a1, a2, a3, a4⟩ := Blm.five hMr.b0
              by_cases hat : a = t
              · have hb : (a != t) = false := by simp [hat]
                have HC := Lib.hid (show mchk (n, f, t, r, d, ps) = 0 from by rw [HP.out, if_neg (by simp [hat])])
                clear HP hat
                go_wp2_with fail
                go_ret
                exact ⟨by rw [HC.out]; rfl, hMr.bel⟩
              · have hb : (a != t) = true := by simpa using hat
                have HC := Lib.hid (show mchk (n, f, t, r, d, ps) = 2 from by rw [HP.out, if_pos hat])
                clear HP hat
                go_wp2_with fail
                go_ret
                exact ⟨by rw [HC.out]; rfl, hMr.bel⟩
end Go.Proofs.YtabnndjdkjkciaaGreatDoor

namespace Go.Proofs.YtabnndjdkjkciaaGreatDoor
open Go.RowKit
attribute [local go_sem ↓] Go.wp_at_zero Go.wp_at_succ

theorem built_mR5 (n f t r : Int) (A : Option Addr) (k c : Nat) : Tryz.prog.built 149 [(0, .int .i64 n), (1, .int .i64 f), (2, .int .i64 t), (3, .int .i64 r), (5, .slice A k c)] = some (mfa n f t r dg0 A k c) := by kernel_rfl
theorem wpl_buildMR5 {ops : Array Oper} {rest : List Oper} {o : Oper} {a : Act} {w : World} {Q : Exit → Act → World → Prop} (hgd : o.guard = none) (x0 x1 x2 x3 x5 : Operand) (ho : o.op = .build 149 #[(0, x0), (1, x1), (2, x2), (3, x3), (5, x5)])
    {n f t r : Int} {A : Option Addr} {k c : Nat} (h0 : a.eval x0 = .int .i64 n) (h1 : a.eval x1 = .int .i64 f) (h2 : a.eval x2 = .int .i64 t) (h3 : a.eval x3 = .int .i64 r) (h5 : a.eval x5 = .slice A k c)
    (h : wpList Tryz.prog ops Q rest (a.put o.dst (.agg (mfa n f t r dg0 A k c))) w) : wpList Tryz.prog ops Q (o :: rest) a w := by
  have hl : ((#[(0, x0), (1, x1), (2, x2), (3, x3), (5, x5)] : Array (Nat × Operand)).map fun (i, x) => (i, a.eval x)).toList = [(0, .int .i64 n), (1, .int .i64 f), (2, .int .i64 t), (3, .int .i64 r), (5, .slice A k c)] := by
    simp [h0, h1, h2, h3, h5]
  refine wpList_build hgd 149 _ ho ?_ ?_
  · rw [hl, built_mR5]; rfl
  · rw [hl, built_mR5]; exact h
set_option maxRecDepth 100000 in
set_option maxHeartbeats 1000000 in
theorem rCCheck_any {A : Option Addr} {c : Nat} (f nx t q : Int) (ps : List Pt5) (w : World) (h : SlP w A c ps) (hI : PtsI ps) :
    Calls Tryz.prog 28 #[crv f nx t q A ps.length c] w fun e w' => e = .returned (.int .i64 (crchk (f, nx, t, q, ps) : Nat)) ∧ Below w.heap.size w w' := by
  have hM := (Mm.start w).alloc #[.int .i64 f, .int .i64 nx, .int .i64 t, .int .i64 q, .slice A ps.length c] 79
  have hc1 := fun h => Lib.hid (crchk_m (x := (f, nx, t, q, ps)) h)
  have hc2 := fun h h2 => Lib.hid (crchk_to (x := (f, nx, t, q, ps)) h h2)
  have hc3 := fun h h2 h3 => Lib.hid (crchk_far (x := (f, nx, t, q, ps)) h h2 h3)
  have hc4 := fun h h2 h3 => Lib.hid (crchk_fine (x := (f, nx, t, q, ps)) h h2 h3)
  have hC := rMCheck_any 1 f nx q dg0 ps _ (h.below hM.bel) hI
  dsimp only at hc1 hc2 hc3 hc4
  obtain ⟨bad, hbad⟩ : ∃ b, mchk (1, f, nx, q, dg0, ps) = b := ⟨_, rfl⟩
  rw [hbad] at hc1 hc2 hc3 hc4 hC
  have HC := Lib.hid hC
  clear hC hbad
  go_enter Tryz.func28, Tryz.ntmps28
  obtain ⟨a0, a1, a2, a3, a4, -⟩ := Blk.five hM.b0
  go_wp2_with (refine wpl_buildMR5 rfl _ _ _ _ _ rfl (n := 1) (f := f) (t := nx) (r := q) (A := A) (k := ps.length) (c := c) rfl rfl rfl rfl rfl ?_)
  refine HC.out.mono ?_
  rintro e w2 ⟨rfl, hb2⟩
  replace hM := hM.call hb2
  clear hb2 HC a0 a1 a2 a3 a4
  obtain ⟨a0, a1, a2, a3, a4, -⟩ := Blk.five hM.b0
  by_cases h0 : bad = 0
  · have hb : (((bad : Nat) : Int) != 0) = false := by simp [h0]
    have H0 := Lib.hid h0
    clear h0 hc1
    by_cases g1 : t < 0
    · have hr := hc2 H0.out (.inl g1)
      clear hc2 hc3 hc4
      go_wp2_with fail
      go_ret
      exact ⟨by rw [hr.out]; rfl, hM.bel⟩
    by_cases g2 : 1048576 < t
    · have hr := hc2 H0.out (.inr g2)
      clear hc2 hc3 hc4
      go_wp2_with fail
      go_ret
      exact ⟨by rw [hr.out]; rfl, hM.bel⟩
    by_cases g3 : t < nx
    · have hr := hc3 H0.out (by omega) (by omega)
      clear hc2 hc3 hc4
      go_wp2_with fail
      go_ret
      exact ⟨by rw [hr.out]; rfl, hM.bel⟩
    · have hr := hc4 H0.out (by omega) (by omega)
      clear hc2 hc3 hc4
      go_wp2_with fail
      go_ret
      exact ⟨by rw [hr.out]; rfl, hM.bel⟩
  · have hb : (((bad : Nat) : Int) != 0) = true := by simp; omega
    have hr := hc1 h0
    clear hc1 hc2 hc3 hc4 h0
    go_wp2_with fail
    go_ret
    exact ⟨by rw [hr.out]; rfl, hM.bel⟩
theorem res_rc1 {fn : Func} {a : Nat} {tmps : Array Value} {w : World} {g : Nat} {x y z u v : Value} (hres : fn.results = #[.cell a 79]) (ha : tmps.getD a undef = .pointer (some ⟨g, 0, none⟩)) (hB : Blk w g 79 #[x, y, z, u, v]) :
    (results fn tmps).run Tryz.prog w = .ok (.agg #[x, y, z, u, v]) w := by
  obtain ⟨b0, b1, b2, b3, b4, -⟩ := Blk.five hB
  have ha' : tmps[a]?.getD undef = .pointer (some ⟨g, 0, none⟩) := by simpa using ha
  simp [results, hres, go_sem, b0, b1, b2, b3, b4, ha']
theorem res_rc2 {fn : Func} {a b : Nat} {tmps : Array Value} {w : World} {g : Nat} {x y z u v : Value} (hres : fn.results = #[.cell a 79, .tmp b]) (ha : tmps.getD a undef = .pointer (some ⟨g, 0, none⟩)) (hB : Blk w g 79 #[x, y, z, u, v]) :
    (results fn tmps).run Tryz.prog w = .ok (.tuple #[.agg #[x, y, z, u, v], tmps.getD b undef]) w := by
  obtain ⟨b0, b1, b2, b3, b4, -⟩ := Blk.five hB
  have ha' : tmps[a]?.getD undef = .pointer (some ⟨g, 0, none⟩) := by simpa using ha
  simp [results, hres, go_sem, b0, b1, b2, b3, b4, ha']
/-- a cursor as the document's -/
def GivesCd (w0 : World) (x : Cur) (e : Ending) (w' : World) : Prop := ∃ A c m, e = .returned (crv x.1 x.2.1 x.2.2.1 x.2.2.2.1 A (List.length m) c) ∧ Hid (m = x.2.2.2.2) ∧ OwnPr w' w0.heap.size A c m ∧ Below w0.heap.size w0 w'
theorem field_m5 (n f t r : Int) (A : Option Addr) (k c : Nat) (w : World) : ∀ d : Dg, (Instr.field 149 (.agg (mfa n f t r d A k c)) 5).run Tryz.prog w = .ok (.slice A k c) w := by
  refine dg_cases ?_
  intros
  kernel_rfl
theorem built_m5 (A : Option Addr) (k c : Nat) : Tryz.prog.built 57 [(5, .slice A k c)] = some (mfa 0 0 0 0 dg0 A k c) := by kernel_rfl
theorem step_buildM5 {ops : Array Oper} {o : Oper} {a : Act} {w : World} {K : Act → World → Prop} {Q : Exit → Act → World → Prop} {X : Prop} (hgd : Region.wanted o (yielded ops a.tmps) = true) (x : Operand) (ho : o.op = .build 57 #[(5, x)])
    {A : Option Addr} {k c : Nat} (h5 : a.eval x = .slice A k c)
    (h : K (a.put o.dst (.agg (mfa 0 0 0 0 dg0 A k c))) w) : if Region.wanted o (yielded ops a.tmps) = true then Oper.wp Tryz.prog o a w K Q else X := by
  rw [if_pos hgd]
  have hl : ((#[(5, x)] : Array (Nat × Operand)).map fun (i, x) => (i, a.eval x)).toList = [(5, .slice A k c)] := by
    simp [h5]
  refine wp_build 57 _ ho ?_ ?_
  · rw [hl, built_m5]; rfl
  · rw [hl, built_m5]; exact h
set_option maxRecDepth 100000 in
set_option maxHeartbeats 1000000 in
theorem Doc18_any {E : Option Addr} {cap : Nat} (f nx t q : Int) (ps : List Pt5) (w : World) (h : SlP w E cap ps) (hl : ps.length ≤ 1000000) :
    Calls Tryz.prog 29 #[crv f nx t q E ps.length cap] w (GivesCd w (f, nx, t, q, ps)) := by
  have hM := (Mm.start w).alloc #[.int .i64 f, .int .i64 nx, .int .i64 t, .int .i64 q, .slice E ps.length cap] 72
  have hf5 := fun A k c W => field_m5 0 0 0 0 A k c W dg0
  go_enter Tryz.func29, Tryz.ntmps29
  go_upto_region 1 with (fail)
  have hM2 := (hM.allocO (.cells #[.int .i64 0, .int .i64 0, .int .i64 0, .int .i64 0, .slice none 0 0] 79)).drew
  have hD2 := (Blk.newAt (w := w.alloc (.cells #[.int .i64 f, .int .i64 nx, .int .i64 t, .int .i64 q, .slice E ps.length cap] 72)) (g := w.heap.size + 1) (by simp) 79 #[.int .i64 0, .int .i64 0, .int .i64 0, .int .i64 0, .slice none 0 0]).drew
  clear hM
  refine wp_region_held_drew (S := (fun W => Mm w W [(w.heap.size, 72, #[.int .i64 f, .int .i64 nx, .int .i64 t, .int .i64 q, .slice E ps.length cap])] [])) (by kernel_rfl) ?_ (fun hHeld => ?_)
  · exact hM2
  refine gen0 (T := fun W => ((fun W => Mm w W [(w.heap.size, 72, #[.int .i64 f, .int .i64 nx, .int .i64 t, .int .i64 q, .slice E ps.length cap])] [])) W ∧ Blk W (w.heap.size + 1) 79 #[.int .i64 0, .int .i64 0, .int .i64 0, .int .i64 0, .slice none 0 0] ∧ True) ?_ (fun wq1 hT => ?_)
  · exact ⟨by (first | with_reducible exact hM2 | with_reducible exact hHeld | with_reducible exact hHeld.call hb9 | with_reducible exact hHeld.off (wr5 _ _ _ _ _ _ _) (by simp) (by omega)), by (first | with_reducible assumption | with_reducible exact hD2 | with_reducible exact Blk.below (by with_reducible assumption) hb9 | exact Blk.set5 f0 _ _ _ _ _ | with_reducible exact Own.more ho9 (by have := Blk.lt f0; omega) | with_reducible exact Own.set5 f1 (by omega) _ _ _ _ _), trivial⟩
  (try clear f0 f1 f2 f3 f4 f5 f6 f7 f8 f9 f10 f11)
  obtain ⟨hHeld, f0, -⟩ := hT
  refine wpAnyH_take (i := 0) (oi := ⟨some 3, _, _, _, _, _⟩) (v := ?_) rfl (by kernel_rfl) (by kernel_rfl) (by kernel_rfl) (fun _ _ _ h => h) (Or.inl ⟨by kernel_rfl, ?_⟩) (by assumption) ?_
  rotate_left
  · (intro wS hSw; (try dsimp only at hSw); obtain ⟨q0, q1, q2, q3, q4, -⟩ := Blk.five hSw.b0; clear hSw; go_simp; (try with_reducible rfl))
  (try simp only [Act.put, List.setIfInBounds_toArray, List.set_cons_zero, List.set_cons_succ])
  refine wpAnyH_take (i := 1) (oi := ⟨some 4, _, _, _, _, _⟩) (v := ?_) rfl (by kernel_rfl) (by kernel_rfl) (by kernel_rfl) (fun _ _ _ h => h) (Or.inl ⟨by kernel_rfl, ?_⟩) (by assumption) ?_
  rotate_left
  · (intro wS hSw; (try dsimp only at hSw); obtain ⟨q0, q1, q2, q3, q4, -⟩ := Blk.five hSw.b0; clear hSw; go_simp; (try with_reducible rfl))
  (try simp only [Act.put, List.setIfInBounds_toArray, List.set_cons_zero, List.set_cons_succ])
  refine wpAnyH_take (i := 2) (oi := ⟨some 5, _, _, _, _, _⟩) (v := ?_) rfl (by kernel_rfl) (by kernel_rfl) (by kernel_rfl) (fun _ _ _ h => h) (Or.inl ⟨by kernel_rfl, ?_⟩) (by assumption) ?_
  rotate_left
  · (intro wS hSw; (try dsimp only at hSw); obtain ⟨q0, q1, q2, q3, q4, -⟩ := Blk.five hSw.b0; clear hSw; go_simp; (try with_reducible rfl))
  (try simp only [Act.put, List.setIfInBounds_toArray, List.set_cons_zero, List.set_cons_succ])
  refine wpAnyH_take (i := 3) (oi := ⟨some 6, _, _, _, _, _⟩) (v := ?_) rfl (by kernel_rfl) (by kernel_rfl) (by kernel_rfl) (fun _ _ _ h => h) (Or.inl ⟨by kernel_rfl, ?_⟩) (by assumption) ?_
  rotate_left
  · (intro wS hSw; (try dsimp only at hSw); obtain ⟨q0, q1, q2, q3, q4, -⟩ := Blk.five hSw.b0; clear hSw; go_simp; (try with_reducible rfl))
  (try simp only [Act.put, List.setIfInBounds_toArray, List.set_cons_zero, List.set_cons_succ])
  refine wpAnyH_take (i := 4) (oi := ⟨some 7, _, _, _, _, _⟩) (v := ?_) rfl (by kernel_rfl) (by kernel_rfl) (by kernel_rfl) (fun _ _ _ h => h) (Or.inl ⟨by kernel_rfl, ?_⟩) (by assumption) ?_
  rotate_left
  · (intro wS hSw; (try dsimp only at hSw); obtain ⟨q0, q1, q2, q3, q4, -⟩ := Blk.five hSw.b0; clear hSw; go_simp; (try with_reducible rfl))
  (try simp only [Act.put, List.setIfInBounds_toArray, List.set_cons_zero, List.set_cons_succ])
  refine wpAnyH_take (i := 5) (oi := ⟨some 8, _, _, _, _, _⟩) (v := ?_) rfl (by kernel_rfl) (by kernel_rfl) (by kernel_rfl) (fun _ _ _ h => h) (Or.inl ⟨by kernel_rfl, ?_⟩) (by assumption) ?_
  rotate_left
  · (intro wS hSw; (try dsimp only at hSw); obtain ⟨q0, q1, q2, q3, q4, -⟩ := Blk.five hSw.b0; clear hSw; go_simp; (try with_reducible rfl))
  (try simp only [Act.put, List.setIfInBounds_toArray, List.set_cons_zero, List.set_cons_succ])
  refine wpAnyH_take (i := 6) (oi := ⟨some 9, _, _, _, _, _⟩) (v := ?_) rfl (by kernel_rfl) (by kernel_rfl) (by kernel_rfl) (fun _ _ _ h => h) (Or.inl ⟨by kernel_rfl, ?_⟩) (by assumption) ?_
  rotate_left
  · (intro wS hSw; (try dsimp only at hSw); obtain ⟨q0, q1, q2, q3, q4, -⟩ := Blk.five hSw.b0; clear hSw; go_simp; (try with_reducible rfl))
  (try simp only [Act.put, List.setIfInBounds_toArray, List.set_cons_zero, List.set_cons_succ])
  refine wpAnyH_take (i := 7) (oi := ⟨some 10, _, _, _, _, _⟩) (v := ?_) rfl (by kernel_rfl) (by kernel_rfl) (by kernel_rfl) (fun _ _ _ h => h) (Or.inl ⟨by kernel_rfl, ?_⟩) (by assumption) ?_
  rotate_left
  · (intro wS hSw; (try dsimp only at hSw); obtain ⟨q0, q1, q2, q3, q4, -⟩ := Blk.five hSw.b0; clear hSw; go_simp; (try with_reducible rfl))
  (try simp only [Act.put, List.setIfInBounds_toArray, List.set_cons_zero, List.set_cons_succ])
  refine wpAnyH_take (i := 8) (oi := ⟨some 11, _, _, _, _, _⟩) (v := ?_) rfl (by kernel_rfl) (by kernel_rfl) (by kernel_rfl) (fun _ _ _ h => h) (Or.inl ⟨by kernel_rfl, ?_⟩) (by assumption) ?_
  rotate_left
  · (intro wS hSw; (try dsimp only at hSw); obtain ⟨q0, q1, q2, q3, q4, -⟩ := Blk.five hSw.b0; clear hSw; go_simp; (try with_reducible rfl))
  (try simp only [Act.put, List.setIfInBounds_toArray, List.set_cons_zero, List.set_cons_succ])
  refine wpAnyH_take (i := 9) (oi := ⟨some 12, _, _, _, _, _⟩) (v := ?_) rfl (by kernel_rfl) (by kernel_rfl) (by kernel_rfl) (fun _ _ _ h => h) (Or.inl ⟨by kernel_rfl, ?_⟩) (by assumption) ?_
  rotate_left
  · (intro wS hSw; (try dsimp only at hSw); obtain ⟨q0, q1, q2, q3, q4, -⟩ := Blk.five hSw.b0; clear hSw; go_simp; (try with_reducible rfl))
  (try simp only [Act.put, List.setIfInBounds_toArray, List.set_cons_zero, List.set_cons_succ])
  refine wpAnyH_ready (rs := [10]) (by kernel_rfl) (by simp) ?_
  refine AllReadyH.cons (o := ⟨some 13, _, _, _, _, _⟩) rfl (fun K hK => ?_) AllReadyH.nil
  (first | (refine step_buildM5 (by kernel_rfl) _ rfl (A := E) (k := ps.length) (c := cap) rfl ?_) | go_simp)
  refine hK.out _ _ ?_ (fun _ => ?_)
  · ((try dsimp only); (first | with_reducible exact hM2 | with_reducible exact hHeld | with_reducible exact hHeld.call hb9 | with_reducible exact hHeld.off (wr5 _ _ _ _ _ _ _) (by simp) (by omega)))
  clear hK K
  (try simp only [Act.put, List.setIfInBounds_toArray, List.set_cons_zero, List.set_cons_succ])
  refine gen0 (T := fun W => ((fun W => Mm w W [(w.heap.size, 72, #[.int .i64 f, .int .i64 nx, .int .i64 t, .int .i64 q, .slice E ps.length cap])] [])) W ∧ Blk W (w.heap.size + 1) 79 #[.int .i64 0, .int .i64 0, .int .i64 0, .int .i64 0, .slice none 0 0] ∧ True) ?_ (fun wq2 hT => ?_)
  · exact ⟨by (first | with_reducible exact hM2 | with_reducible exact hHeld | with_reducible exact hHeld.call hb9 | with_reducible exact hHeld.off (wr5 _ _ _ _ _ _ _) (by simp) (by omega)), by (first | with_reducible assumption | with_reducible exact hD2 | with_reducible exact Blk.below (by with_reducible assumption) hb9 | exact Blk.set5 f0 _ _ _ _ _ | with_reducible exact Own.more ho9 (by have := Blk.lt f0; omega) | with_reducible exact Own.set5 f1 (by omega) _ _ _ _ _), trivial⟩
  (try clear f0 f1 f2 f3 f4 f5 f6 f7 f8 f9 f10 f11)
  obtain ⟨hHeld, f0, -⟩ := hT
  refine wpAnyH_ready (rs := [11]) (by kernel_rfl) (by simp) ?_
  refine AllReadyH.cons (o := ⟨some 14, _, _, _, _, _⟩) rfl (fun K hK => ?_) AllReadyH.nil
  go_simp
  (refine (Doc15_any 0 0 0 0 dg0 ps _ (h.below hHeld.bel) hl).mono ?_; rintro e w9 ⟨A9, c9, m9, rfl, hm9, ho9, hb9⟩)
  go_wp2_with fail
  refine hK.out _ _ ?_ (fun _ => ?_)
  · ((try dsimp only); (first | with_reducible exact hM2 | with_reducible exact hHeld | with_reducible exact hHeld.call hb9 | with_reducible exact hHeld.off (wr5 _ _ _ _ _ _ _) (by simp) (by omega)))
  clear hK K
  (try simp only [Act.put, List.setIfInBounds_toArray, List.set_cons_zero, List.set_cons_succ])
  refine gen0 (T := fun W => ((fun W => Mm w W [(w.heap.size, 72, #[.int .i64 f, .int .i64 nx, .int .i64 t, .int .i64 q, .slice E ps.length cap])] [])) W ∧ Blk W (w.heap.size + 1) 79 #[.int .i64 0, .int .i64 0, .int .i64 0, .int .i64 0, .slice none 0 0] ∧ OwnPr W (w.heap.size + 2) A9 c9 m9 ∧ True) ?_ (fun wq3 hT => ?_)
  · exact ⟨by (first | with_reducible exact hM2 | with_reducible exact hHeld | with_reducible exact hHeld.call hb9 | with_reducible exact hHeld.off (wr5 _ _ _ _ _ _ _) (by simp) (by omega)), by (first | with_reducible assumption | with_reducible exact hD2 | with_reducible exact Blk.below (by with_reducible assumption) hb9 | exact Blk.set5 f0 _ _ _ _ _ | with_reducible exact Own.more ho9 (by have := Blk.lt f0; omega) | with_reducible exact Own.set5 f1 (by omega) _ _ _ _ _), by (first | with_reducible assumption | with_reducible exact hD2 | with_reducible exact Blk.below (by with_reducible assumption) hb9 | exact Blk.set5 f0 _ _ _ _ _ | with_reducible exact Own.more ho9 (by have := Blk.lt f0; omega) | with_reducible exact Own.set5 f1 (by omega) _ _ _ _ _), trivial⟩
  (try clear f0 f1 f2 f3 f4 f5 f6 f7 f8 f9 f10 f11)
  obtain ⟨hHeld, f0, f1, -⟩ := hT
  refine wpAnyH_take (i := 12) (oi := ⟨some 15, _, _, _, _, _⟩) (v := ?_) rfl (by kernel_rfl) (by kernel_rfl) (by kernel_rfl) (fun _ _ _ h => h) (Or.inl ⟨by kernel_rfl, ?_⟩) (by assumption) ?_
  rotate_left
  · (intro wS hSw; (try dsimp only at hSw); obtain ⟨q0, q1, q2, q3, q4, -⟩ := Blk.five hSw.b0; clear hSw; go_simp; (try with_reducible rfl))
  (try simp only [Act.put, List.setIfInBounds_toArray, List.set_cons_zero, List.set_cons_succ])
  refine wpAnyH_take (i := 13) (oi := ⟨some 16, _, _, _, _, _⟩) (v := ?_) rfl (by kernel_rfl) (by kernel_rfl) (by kernel_rfl) (fun _ _ _ h => h) (Or.inl ⟨by kernel_rfl, ?_⟩) (by assumption) ?_
  rotate_left
  · (intro wS hSw; (try dsimp only at hSw); obtain ⟨q0, q1, q2, q3, q4, -⟩ := Blk.five hSw.b0; clear hSw; go_simp; (try with_reducible rfl))
  (try simp only [Act.put, List.setIfInBounds_toArray, List.set_cons_zero, List.set_cons_succ])
  refine wpAnyH_ready (rs := [14]) (by kernel_rfl) (by simp) ?_
  refine AllReadyH.cons (o := ⟨none, _, _, _, _, _⟩) rfl (fun K hK => ?_) AllReadyH.nil
  obtain ⟨s0, s1, s2, s3, s4, sf0, sf1, sf2, sf3, sf4⟩ := f0.five
  (first | (refine step_buildM5 (by kernel_rfl) _ rfl (A := E) (k := ps.length) (c := cap) rfl ?_) | go_simp)
  refine hK.out _ _ ?_ (fun _ => ?_)
  · ((try dsimp only); (first | with_reducible exact hM2 | with_reducible exact hHeld | with_reducible exact hHeld.call hb9 | with_reducible exact hHeld.off (wr5 _ _ _ _ _ _ _) (by simp) (by omega)))
  clear hK K
  (try simp only [Act.put, List.setIfInBounds_toArray, List.set_cons_zero, List.set_cons_succ])
  refine gen0 (T := fun W => ((fun W => Mm w W [(w.heap.size, 72, #[.int .i64 f, .int .i64 nx, .int .i64 t, .int .i64 q, .slice E ps.length cap])] [])) W ∧ OwnPr W (w.heap.size + 2) A9 c9 m9 ∧ Blk W (w.heap.size + 1) 79 #[.int .i64 f, .int .i64 nx, .int .i64 t, .int .i64 q, .slice A9 m9.length c9] ∧ True) ?_ (fun wq4 hT => ?_)
  · exact ⟨by (first | with_reducible exact hM2 | with_reducible exact hHeld | with_reducible exact hHeld.call hb9 | with_reducible exact hHeld.off (wr5 _ _ _ _ _ _ _) (by simp) (by omega)), by (first | with_reducible assumption | with_reducible exact hD2 | with_reducible exact Blk.below (by with_reducible assumption) hb9 | exact Blk.set5 f0 _ _ _ _ _ | with_reducible exact Own.more ho9 (by have := Blk.lt f0; omega) | with_reducible exact Own.set5 f1 (by omega) _ _ _ _ _), by (first | with_reducible assumption | with_reducible exact hD2 | with_reducible exact Blk.below (by with_reducible assumption) hb9 | exact Blk.set5 f0 _ _ _ _ _ | with_reducible exact Own.more ho9 (by have := Blk.lt f0; omega) | with_reducible exact Own.set5 f1 (by omega) _ _ _ _ _), trivial⟩
  (try clear f0 f1 f2 f3 f4 f5 f6 f7 f8 f9 f10 f11)
  obtain ⟨hHeld, f0, f1, -⟩ := hT
  refine wpAnyH_done (by kernel_rfl) ?_ _
  go_wp2_with fail
  exact bodyPost_ret (res_rc1 rfl rfl (g := w.heap.size + 1) (by with_reducible assumption)) rfl ⟨A9, c9, m9, rfl, hm9, Own.more (base := w.heap.size + 2) (by with_reducible assumption) (by omega), hHeld.bel⟩
end Go.Proofs.YtabnndjdkjkciaaGreatDoor

namespace Go.Proofs.YtabnndjdkjkciaaGreatDoor
open Go.RowKit
attribute [local go_sem ↓] Go.wp_at_zero Go.wp_at_succ

abbrev ivn (n : Nat) : Value := .int .i64 (n : Int)
theorem vbs_take {l : List Nat} {k : Nat} (hk : k < l.length) : vbs (l.take (k + 1)) = vbs (l.take k) ++ vb l[k] := by
  unfold vbs
  rw [List.take_succ_eq_append_getElem hk, List.flatMap_append]
  simp
theorem vbs_len10 {l : List Nat} (h : ∀ n ∈ l, U64 n) : (vbs l).length ≤ 10 * l.length := by
  induction l with
  | nil => simp [vbs]
  | cons a r ih =>
    have h1 := vb_le10 (n := a) (h a (List.mem_cons_self ..))
    have h2 := ih fun n hn => h n (List.mem_cons_of_mem _ hn)
    unfold vbs at h2 ⊢
    rw [List.flatMap_cons, List.length_append, List.length_cons]
    omega
/-- while the document's bytes are made: the cursor's own block, the numbers' row, the bytes -/
structure RpT (w W : World) (f nx t q : Int) (A : Option Addr) (k c : Nat) (ns : List Nat) (gl : Nat) (E : Option Addr) (n : Nat) (m : List UInt8) : Prop where
  bel : Below w.heap.size w W
  blk : Blk W w.heap.size 79 #[.int .i64 f, .int .i64 nx, .int .i64 t, .int .i64 q, .slice A k c]
  row : Own W (w.heap.size + 1) 3 1 (some ⟨gl, 0, none⟩) ns.length ns.length (ns.map ivn)
  own : OwnB W (w.heap.size + 1) 5 E n m
section
variable {w W W' : World} {f nx t q : Int} {A E E' : Option Addr} {k c gl n n' : Nat} {ns : List Nat} {m m' : List UInt8}
theorem RpT.call (h : RpT w W f nx t q A k c ns gl E n m) (hb : Below W.heap.size W W') : RpT w W' f nx t q A k c ns gl E n m :=
  ⟨bel_call h.bel hb, h.blk.below hb, Own.below h.row hb, Own.below h.own hb⟩
theorem RpT.app (h : RpT w W f nx t q A k c ns gl E n m) (ho : OwnB W' (w.heap.size + 1) 5 E' n' m') (hg : W.grownBy W' (E.map (·.block))) (hb : Below (w.heap.size + 1) W W') : RpT w W' f nx t q A k c ns gl E' n' m' :=
  ⟨h.bel.trans (hb.mono (Nat.le_succ _)), (hb.block _ (Nat.lt_succ_self _)).trans h.blk, Own.other h.row h.own hg (by decide), ho⟩
theorem RpT.at (h : RpT w W f nx t q A k c ns gl E n m) {i : Nat} (hi : i < ns.length) : W.cell? ⟨gl, i, none⟩ = some (ivn ns[i]) := by
  have hS : Sl W 1 (some ⟨gl, 0, none⟩) ns.length ns.length (ns.map ivn) := Own.sl h.row
  obtain ⟨ad, hA, hc⟩ := Sl.at1 (f := ivn) hS hi
  injection hA with hA
  subst hA
  rw [addr_lit, Nat.zero_add] at hc
  exact hc
end
set_option maxRecDepth 100000 in
set_option maxHeartbeats 4000000 in
theorem rCPut_any {A : Option Addr} {c : Nat} (f nx t q : Int) (ps : List Pt5) (w : World) (h : SlP w A c ps) (h0 : crchk (f, nx, t, q, ps) = 0) :
    Calls Tryz.prog 95 #[crv f nx t q A ps.length c] w (GivesB w (frm (crtxt (f, nx, t, q, ps)))) := by
  have hB := Blk.new w 79 #[.int .i64 f, .int .i64 nx, .int .i64 t, .int .i64 q, .slice A ps.length c]
  have hbw := below_new w (.cells #[.int .i64 f, .int .i64 nx, .int .i64 t, .int .i64 q, .slice A ps.length c] 79)
  have HL := Lib.hid (crtxt_len h0)
  obtain ⟨k1, k2, k3, k4, k5, k6⟩ := crchk_ok h0
  dsimp only at k1 k2 k3 k4 k5 k6
  have HG := Lib.hid k6
  obtain ⟨nf, hf⟩ : ∃ n : Nat, f = n := ⟨f.toNat, by omega⟩
  obtain ⟨nn, hn⟩ : ∃ n : Nat, nx = n := ⟨nx.toNat, by omega⟩
  obtain ⟨nt, ht⟩ : ∃ n : Nat, t = n := ⟨t.toNat, by omega⟩
  obtain ⟨nq, hq⟩ : ∃ n : Nat, q = n := ⟨q.toNat, by omega⟩
  subst hf hn ht hq
  have hns : ∀ n ∈ [nf, nn, nt, nq, ps.length], U64 n := by intro z hz; simp at hz; unfold U64; rcases hz with rfl | rfl | rfl | rfl | rfl <;> omega
  have HNs := Lib.hid hns
  have Hh := Lib.hid h
  obtain ⟨a0, a1, a2, a3, a4, -⟩ := Blk.five hB
  clear h h0 k6 hns
  go_enter Tryz.func95, Tryz.ntmps95
  have hm2 : (((w.alloc (.cells #[.int .i64 nf, .int .i64 nn, .int .i64 nt, .int .i64 nq, .slice A ps.length c] 79)).alloc (.cells #[] 5)).heap.size = w.heap.size + 1 + 1) := by simp
  have hR0 : RpT w (((w.alloc (.cells #[.int .i64 nf, .int .i64 nn, .int .i64 nt, .int .i64 nq, .slice A ps.length c] 79)).alloc (.cells #[] 5)).alloc (.cells #[.int .i64 nf, .int .i64 nn, .int .i64 nt, .int .i64 nq, .int .i64 (ps.length : Nat)] 3)) nf nn nt nq A ps.length c [nf, nn, nt, nq, ps.length] (w.heap.size + 1 + 1) (some ⟨w.heap.size + 1, 0, none⟩) 0 [] := by
    refine ⟨bel_alloc (bel_alloc hbw _) _, (hB.alloc _).alloc _, ?_, ?_⟩
    · have h1 := World.ownsRow_lit (base := w.heap.size + 1) (e := 3) (size := 1) ((w.alloc (.cells #[.int .i64 nf, .int .i64 nn, .int .i64 nt, .int .i64 nq, .slice A ps.length c] 79)).alloc (.cells #[] 5)) #[ivn nf, ivn nn, ivn nt, ivn nq, ivn ps.length] 5 (by rw [hm2]; omega) (by simp [maxLen]) (by simp)
      rw [hm2] at h1
      exact h1
    · have h1 := World.ownsRow_lit (base := w.heap.size + 1) (e := 5) (size := 1) (w.alloc (.cells #[.int .i64 nf, .int .i64 nn, .int .i64 nt, .int .i64 nq, .slice A ps.length c] 79)) #[] 0 (by simp) (by simp [maxLen]) (by simp)
      rw [show (w.alloc (.cells #[.int .i64 nf, .int .i64 nn, .int .i64 nt, .int .i64 nq, .slice A ps.length c] 79)).heap.size = w.heap.size + 1 by simp] at h1
      exact Own.below (show Own _ _ _ _ _ _ _ _ from h1) (below_new _ _)
  have HR0 := Lib.hid hR0
  clear hR0 hm2
  go_wp2_with fail
  go_loopw [21, 3] (fun x y wr => ∃ (k : Nat) (E : Option Addr) (n : Nat) (m : List UInt8), k ≤ 5 ∧ x = .int .i64 k ∧ y = .slice E m.length n ∧ Hid (m = vbs ([nf, nn, nt, nq, ps.length].take k)) ∧ RpT w wr nf nn nt nq A ps.length c [nf, nn, nt, nq, ps.length] (w.heap.size + 1 + 1) E n m) (fun x _ w => 5 - (intOf x).toNat)
  case atStart => exact ⟨0, some ⟨w.heap.size + 1, 0, none⟩, 0, [], by omega, rfl, rfl, (show _ = _ from rfl), HR0.out⟩
  case round =>
    clear HR0 a0 a1 a2 a3 a4 hB hbw
    obtain ⟨k, E, n, m, hk, rfl, rfl, hm, hR⟩ := hrel
    have hml : m.length ≤ 50 := by
      rw [hm.out]
      have h1 := vbs_len10 (l := [nf, nn, nt, nq, ps.length].take k) (fun n hn => HNs.out n (List.mem_of_mem_take hn))
      have h2 : ([nf, nn, nt, nq, ps.length].take k).length ≤ 5 := by rw [List.length_take]; simp; omega
      omega
    by_cases hlt : k < 5
    · have hI1 : (k : Int) < 5 := by omega
      have hc := hR.at (i := k) (by simp; omega)
      have HT := Lib.hid (vbs_take (l := [nf, nn, nt, nq, ps.length]) (k := k) (by simp; omega))
      have hu : U64 ([nf, nn, nt, nq, ps.length][k]'(by simp; omega)) := HNs.out _ (List.getElem_mem _)
      generalize [nf, nn, nt, nq, ps.length][k]'(by simp; omega) = z at *
      have cz : IntKind.u64.wrap (z : Int) = (z : Int) := wrap_u64_of hu
      have HB := Lib.hid (fun W => rBytes_any z hu W)
      have hvz := vb_le10 hu
      have HR := Lib.hid hR
      clear hR hu
      go_wp2_with fail
      refine (HB.out _).mono ?_
      rintro e w3 ⟨A3, c3, m3, rfl, hm3, ho3, hb3⟩
      have hR3 := HR.out.call hb3
      have hs3 := Own.sl ho3
      have hl3 : m3.length ≤ 10 := by rw [hm3.out]; exact hvz
      have HR3 := Lib.hid hR3
      clear hb3 ho3 HB
      go_wp2_with (at_builtin; go_must (refine wpl_bytes 29 5 Tryz.underlying29 u8_info rfl _ _ rfl (w.heap.size + 1) E n m rfl HR3.out.own A3 c3 m3 rfl hs3 (by omega) (Nat.le_trans (Nat.succ_le_of_lt HR3.out.blk.lt) (Nat.le_refl _)) ?_; intro A4 c4 m4 w4 hm4 ho4 hg4 _ hb4))
      go_roundw
      case rel => exact ⟨k + 1, A4, c4, m4, hlt, by go_num, rfl, (show _ = _ from by rw [hm4.out, hm.out, hm3.out, HT.out]), HR3.out.app ho4 hg4 hb4⟩
      case measure => simp [intOf]; omega
    · have hk5 : k = 5 := by omega
      subst hk5
      have HM0 := Lib.hid (show m = vbs [nf, nn, nt, nq, ps.length] from hm.out)
      clear hm hlt hk
      have HR := Lib.hid hR
      clear hR
      go_wp2_with fail
      go_loopw [6, 3] (fun x y wr => ∃ (k : Nat) (E : Option Addr) (n : Nat) (m : List UInt8), k ≤ ps.length ∧ x = .int .i64 k ∧ y = .slice E m.length n ∧ Hid (m = vbs [nf, nn, nt, nq, ps.length] ++ (ps.take k).flatMap ptb) ∧ RpT w wr nf nn nt nq A ps.length c [nf, nn, nt, nq, ps.length] (w.heap.size + 1 + 1) E n m) (fun x _ w => ps.length - (intOf x).toNat)
      case atStart => exact ⟨0, E, n, m, Nat.zero_le _, rfl, rfl, (show _ = _ from by rw [HM0.out]; simp), HR.out⟩
      case round =>
        clear HR HM0 hml
        obtain ⟨k, E, n, m, hk, rfl, rfl, hm, hR⟩ := hrel
        have hml : m.length ≤ 60000 := by
          rw [hm.out]
          have h1 := ptb_le HG.out k
          have h2 := vbs_len10 (l := [nf, nn, nt, nq, ps.length]) (fun n hn => HNs.out n hn)
          rw [List.length_append]
          simp only [List.length_cons, List.length_nil] at h2
          omega
        by_cases hlt : k < ps.length
        · have hI1 : (k : Int) < (ps.length : Int) := by omega
          obtain ⟨ad, b, o, rfl, had, -⟩ := Hh.out.at hlt
          obtain ⟨⟨g1, g2⟩, g3, g4⟩ := pgo_at hlt HG.out
          have HNx := Lib.hid (ptb_take hlt)
          have HCl := Lib.hid (show ∀ W, Below w.heap.size w W → (∀ j u, (pta ps[k])[j]? = some u → W.cell? ((⟨b, o, none⟩ : Addr).add j) = some u) from fun W hW => by
            obtain ⟨ad2, b2, o2, hA2, had2, hcc⟩ := (Hh.out.below hW).at hlt
            injection hA2 with hA2
            subst hA2
            rw [had] at had2
            injection had2 with e1 e2
            subst e1 e2
            exact hcc)
          generalize ps[k] = p at *
          obtain ⟨nm, hnm⟩ : ∃ n : Nat, p.2.1.toNat = n := ⟨_, rfl⟩
          obtain ⟨nz, hnz⟩ : ∃ n : Nat, p.2.2.1.toNat = n := ⟨_, rfl⟩
          have c6 : IntKind.u64.wrap p.2.1 = (nm : Int) := by
            rw [show p.2.1 = (nm : Int) by omega]
            exact wrap_u64_of (by unfold U64; omega)
          have c7 : IntKind.u64.wrap p.2.2.1 = (nz : Int) := by
            rw [show p.2.2.1 = (nz : Int) by omega]
            exact wrap_u64_of (by unfold U64; omega)
          have u6 : U64 nm := by unfold U64; omega
          have u7 : U64 nz := by unfold U64; omega
          have hv6 := vb_le10 u6
          have hv7 := vb_le10 u7
          have HPb := Lib.hid (show ptb p = vb nm ++ (vb nz ++ p.2.2.2.1) from by unfold ptb; rw [hnm, hnz])
          have HC1 := Lib.hid (show ∀ W, Below w.heap.size w W → W.cell? ⟨b, o + 1, none⟩ = some (.int .i64 p.2.1) ∧ W.cell? ⟨b, o + 2, none⟩ = some (.int .i64 p.2.2.1) from fun W hW => by
            have h1 := HCl.out W hW 1 (.int .i64 p.2.1) (by simp [pta, ptl])
            have h2 := HCl.out W hW 2 (.int .i64 p.2.2.1) (by simp [pta, ptl])
            rw [addr_lit] at h1 h2
            exact ⟨h1, h2⟩)
          have HC3 := Lib.hid (show ∀ W, Below w.heap.size w W → SlB W (some ⟨b, o + 3, none⟩) 32 p.2.2.2.1 from fun W hW => by
            have hd := p.2.2.2.2
            refine ⟨by simp, by omega, by simp [maxLen], (fun h => by cases h), fun j u hj => ⟨_, rfl, ?_⟩⟩
            have h1 := HCl.out W hW (3 + j) u (by
              unfold pta ptl
              rw [show 3 + j = j + 3 by omega]
              simpa using hj)
            rw [addr_lit] at h1 ⊢
            rw [← h1]
            congr 2
            omega)
          have HB1 := Lib.hid (fun W => rBytes_any nm u6 W)
          have HB2 := Lib.hid (fun W => rBytes_any nz u7 W)
          obtain ⟨a0, a1, a2, a3, a4, -⟩ := Blk.five hR.blk
          obtain ⟨q1, q2⟩ := HC1.out wr hR.bel
          have HR := Lib.hid hR
          have hpl := p.2.2.2.2
          have HPl := Lib.hid hpl
          clear hR g1 g2 g3 g4 hnm hnz u6 u7 HCl hpl
          go_wp2_with fail
          refine (HB1.out _).mono ?_
          rintro e w3 ⟨A3, c3, m3, rfl, hm3, ho3, hb3⟩
          have hs3 := Own.sl ho3
          have hl3 : m3.length ≤ 10 := by rw [hm3.out]; exact hv6
          have HR3 := Lib.hid (HR.out.call hb3)
          clear hb3 ho3 HB1 HR a0 a1 a2 a3 a4 q1 q2
          go_wp2_with (at_builtin; go_must (refine wpl_bytes 29 5 Tryz.underlying29 u8_info rfl (.tmp 38) (.tmp 46) rfl (w.heap.size + 1) E n m rfl HR3.out.own A3 c3 m3 rfl hs3 (by omega) (Nat.succ_le_of_lt HR3.out.blk.lt) ?_; intro A4 c4 m4 w4 hm4 ho4 hg4 _ hb4; have hl4 : m4.length ≤ 60010 := (by rw [hm4.out, List.length_append]; omega); have HR4 := Lib.hid (HR3.out.app ho4 hg4 hb4); obtain ⟨a0, a1, a2, a3, a4, -⟩ := Blk.five HR4.out.blk; obtain ⟨q1, q2⟩ := HC1.out w4 HR4.out.bel; clear ho4 hg4 hb4))
          refine (HB2.out _).mono ?_
          rintro e w5 ⟨A5, c5, m5, rfl, hm5, ho5, hb5⟩
          have hs5 := Own.sl ho5
          have hl5 : m5.length ≤ 10 := by rw [hm5.out]; exact hv7
          have HR5 := Lib.hid (HR4.out.call hb5)
          clear hb5 ho5 HB2 HR3 a0 a1 a2 a3 a4 q1 q2 hs3
          go_upto_region 12 with (at_builtin; go_must (refine wpl_bytes 29 5 Tryz.underlying29 u8_info rfl (.tmp 48) (.tmp 56) rfl (w.heap.size + 1) A4 c4 m4 rfl HR5.out.own A5 c5 m5 rfl hs5 (by omega) (Nat.succ_le_of_lt HR5.out.blk.lt) ?_; intro A6 c6' m6 w6 hm6 ho6 hg6 _ hb6; have hl6 : m6.length ≤ 60020 := (by rw [hm6.out, List.length_append]; omega); have HR6 := Lib.hid (HR5.out.app ho6 hg6 hb6); obtain ⟨a0, a1, a2, a3, a4, -⟩ := Blk.five HR6.out.blk; clear ho6 hg6 hb6))
          go_wp2_with (refine wpList_step fun K hK => step_bytesG 29 5 Tryz.underlying29 u8_info rfl (.tmp 58) (.tmp 64) rfl (w.heap.size + 1) A6 c6' m6 rfl HR6.out.own (some ⟨b, o + 3, none⟩) 32 32 p.2.2.2.1 HPl.out.symm rfl (HC3.out w6 HR6.out.bel) (by rw [HPl.out]; omega) (Nat.succ_le_of_lt HR6.out.blk.lt) ?_; intro A8 c8 m8 w8 hm8 ho8 hg8 hb8; refine hK _ _ ?_; have HR8 := Lib.hid (HR6.out.app ho8 hg8 hb8); clear ho8 hg8 hb8)
          refine ⟨⟨k + 1, hlt, by omega, A8, c8, m8, ⟨rfl, rfl, rfl⟩, (show _ = _ from ?_), HR8.out⟩, by simp [intOf]; omega⟩
          rw [hm8.out, hm6.out, hm5.out, hm4.out, hm3.out, hm.out, HNx.out, HPb.out]
          simp [List.append_assoc]
        · have hI1 : (ps.length : Int) ≤ (k : Int) := by omega
          have hcm : crtxt ((nf : Int), (nn : Int), (nt : Int), (nq : Int), ps) = m := by
            rw [hm.out, List.take_of_length_le (by omega)]
            unfold crtxt
            simp [vbs, List.append_assoc]
          have HCm := Lib.hid hcm
          have HFr := Lib.hid (rFrame_any E n m wr (Own.sl hR.own) (by omega))
          obtain ⟨a0, a1, a2, a3, a4, -⟩ := Blk.five hR.blk
          have Hbl := Lib.hid hR.bel
          clear hcm hR
          go_wp2_with fail
          refine HFr.out.mono ?_
          rintro e w6 ⟨A6, c6, m6, rfl, hm6, ho6, hb6⟩
          have HO := Lib.hid (show GivesB w (frm (crtxt ((nf : Int), (nn : Int), (nt : Int), (nq : Int), ps))) (.returned (.slice A6 m6.length c6)) w6 from ⟨A6, c6, m6, rfl, (show _ = _ from by rw [hm6.out, HCm.out]), Own.more ho6 Hbl.out.size, bel_call Hbl.out hb6⟩)
          clear ho6 hb6 hm6
          go_wp2_with fail
          go_ret
          exact HO.out
end Go.Proofs.YtabnndjdkjkciaaGreatDoor

namespace Go.Proofs.YtabnndjdkjkciaaGreatDoor
open Go.RowKit Go.Maps Go.Sort
attribute [local go_sem ↓] Go.wp_at_zero Go.wp_at_succ

/-- a file of the document's -/
def rfv (p : Bs × Bs) : List Value := [.string ⟨p.1.toArray⟩, .string ⟨p.2.toArray⟩]
def SlR (w : World) (A : Option Addr) (c : Nat) (l : List (Bs × Bs)) : Prop := Sl w 2 A l.length c (l.flatMap rfv)
abbrev OwnR (w : World) (B : Nat) (A : Option Addr) (c : Nat) (l : List (Bs × Bs)) : Prop := Own w B 186 2 A l.length c (l.flatMap rfv)
theorem SlR.below {w w' : World} {A : Option Addr} {c : Nat} {l : List (Bs × Bs)} (h : SlR w A c l) (hb : Below w.heap.size w w') : SlR w' A c l := Sl.below h hb
theorem SlR.len {w : World} {A : Option Addr} {c : Nat} {l : List (Bs × Bs)} (h : SlR w A c l) : l.length ≤ 9223372036854775807 := Nat.le_trans h.2.1 h.2.2.1
theorem SlR.at1 {w : World} {A : Option Addr} {c : Nat} {l : List (Bs × Bs)} (h : SlR w A c l) {k : Nat} (hk : k < l.length) : ∃ ad b o, A = some ad ∧ ad.add (k * 2) = ⟨b, o, none⟩ ∧ w.cell? ⟨b, o, none⟩ = some (.string ⟨l[k].1.toArray⟩) ∧ w.cell? ⟨b, o + 1, none⟩ = some (.string ⟨l[k].2.toArray⟩) := by
  obtain ⟨ad, b, o, hA, had, hcc⟩ := Sl.atS (f := rfv) (size := 2) (fun _ => rfl) (by omega) h hk
  have h0 := hcc 0 _ rfl
  have h1 := hcc 1 _ rfl
  rw [Nat.add_zero] at h0
  exact ⟨ad, b, o, hA, had, h0, h1⟩
theorem rf_info : (Tryz.prog.info? 186).map (fun i => (i.zero, i.size, i.bytes)) = some (some (.agg #[.string ⟨#[]⟩, .string ⟨#[]⟩]), 2, 32) := by kernel_rfl
theorem one_rfv (p : Bs × Bs) : ∀ u ∈ rfv p, u.oneCell' = true := by
  intro u hu
  simp only [rfv, List.mem_cons, List.not_mem_nil, or_false] at hu
  rcases hu with rfl | rfl <;> rfl
theorem lit_rf (w : World) (p : Bs × Bs) : Sl (w.alloc (.cells #[.string ⟨p.1.toArray⟩, .string ⟨p.2.toArray⟩] 186)) 2 (some ⟨w.heap.size, 0, none⟩) 1 1 (rfv p) :=
  ⟨by simp [rfv], by omega, by simp [maxLen], (fun h => by cases h), fun j u hj => ⟨_, rfl, by
    rw [addr_lit, cell_of_row _ _ _ _ 186 (0, 0) (heap_alloc_new w _)]
    simpa [rfv] using hj⟩⟩
/-- append of one file -/
theorem wpl_rf {w : World} {ops : Array Oper} {rest : List Oper} {o : Oper} {a : Act} {Q : Exit → Act → World → Prop} (hgd : o.guard = none) (s x : Operand)
    (ho : o.op = .call { callee := .builtin .append, args := #[s, x], argTypes := #[88, 88] })
    (base : Nat) (A : Option Addr) (c : Nat) (l : List (Bs × Bs)) (hs : a.eval s = .slice A l.length c) (hown : OwnR w base A c l) (hn : l.length ≤ 1000000000000)
    (p : Bs × Bs) (gx : Nat) (hgx : gx = w.heap.size) (hx : a.eval x = .slice (some ⟨gx, 0, none⟩) 1 1) (hbase : base ≤ w.heap.size)
    (h : ∀ A' c' m w', Hid (m = l ++ [p]) → OwnR w' base A' c' m → (w.alloc (.cells #[.string ⟨p.1.toArray⟩, .string ⟨p.2.toArray⟩] 186)).grownBy w' (A.map (·.block)) → (A'.map (·.block) = A.map (·.block) ∨ A'.map (·.block) = some (w.alloc (.cells #[.string ⟨p.1.toArray⟩, .string ⟨p.2.toArray⟩] 186)).heap.size) → wpList Tryz.prog ops Q rest (a.put o.dst (.slice A' m.length c')) w') : wpList Tryz.prog ops Q (o :: rest) a (w.alloc (.cells #[.string ⟨p.1.toArray⟩, .string ⟨p.2.toArray⟩] 186)) := by
  subst hgx
  obtain ⟨i0, hi, hz0, hz1, hz2⟩ := info_parts rf_info
  have hown2 : OwnR (w.alloc (.cells #[.string ⟨p.1.toArray⟩, .string ⟨p.2.toArray⟩] 186)) base A c l := World.ownsRow.alloc hown _
  refine wpl_append hgd s x 88 ho base 186 i0 _ 2 32 Tryz.underlying88 hi hz0 hz1 hz2 rfl (by decide) A l.length c _ hs hown2 _ 1 1 (rfv p) hx (lit_rf w p) (one_rfv p) (by omega) (by unfold maxLen; omega) (by simp; omega) ?_
  intro A' c' w' hap
  have hlen : l.length + 1 = (l ++ [p]).length := by simp
  rw [hlen]
  exact h A' c' (l ++ [p]) w' (show _ = _ from rfl) (by have := hap.own; unfold OwnR; rw [List.flatMap_append]; simpa using this) hap.grown hap.place
/-- a row of one's own has grown -/
theorem bel_grown {w0 w w' : World} {B : Nat} {A : Option Addr} {o : Obj} (h : Below B w0 w) (hlo : B ≤ w.heap.size) (hA : ∀ k, A.map (·.block) = some k → B ≤ k) (hg : (w.alloc o).grownBy w' (A.map (·.block))) (hs : B ≤ w0.heap.size) : Below B w0 w' := by
  have h2 := h.alloc hlo o
  refine ⟨hg.os.trans h2.os, hg.tape.trans h2.tape, hg.output.trans h2.output, Nat.le_trans h2.size hg.size, fun i hi => (hg.block i (Nat.lt_of_lt_of_le hi (Nat.le_trans hs h2.size)) (fun e => ?_)).trans (h2.block i hi)⟩
  have := hA i e.symm
  omega
/-! ### found -/
def rfind (n : Bs) (l : List (Bs × Bs)) : Int := match l.findIdx? (fun p => p.1 == n) with | none => -1 | some k => k
theorem rfind_at {n : Bs} {l : List (Bs × Bs)} {k : Nat} (hk : k < l.length) (he : l[k].1 = n) (hno : ∀ i (hi : i < l.length), i < k → l[i].1 ≠ n) : rfind n l = k := by
  unfold rfind
  rw [List.findIdx?_eq_some_iff_getElem.2 ⟨hk, by simp [he], fun j hj => by simpa using hno j (by omega) hj⟩]
theorem rfind_none {n : Bs} {l : List (Bs × Bs)} (hno : ∀ i (hi : i < l.length), l[i].1 ≠ n) : rfind n l = -1 := by
  unfold rfind
  rw [List.findIdx?_eq_none_iff.2]
  intro x hx
  obtain ⟨i, hi, rfl⟩ := List.getElem_of_mem hx
  simpa using hno i hi
set_option maxRecDepth 100000 in
set_option maxHeartbeats 1000000 in
theorem RFind_any {A : Option Addr} {c : Nat} {l : List (Bs × Bs)} (n : Bs) (w : World) (h : SlR w A c l) : Calls Tryz.prog 153 #[.slice A l.length c, .string ⟨n.toArray⟩] w fun e w' => e = .returned (.int .i64 (rfind n l)) ∧ Below w.heap.size w w' := by
  have hll := h.len
  have H := Lib.hid h
  clear h
  go_enter Tryz.func153, Tryz.ntmps153
  go_wp2_with fail
  go_loopw [5] (fun x wr => ∃ k : Nat, k ≤ l.length ∧ x = .int .i64 k ∧ (∀ i (hi : i < l.length), i < k → l[i].1 ≠ n) ∧ Below w.heap.size w wr) (fun x w => l.length - (intOf x).toNat)
  case atStart => exact ⟨0, Nat.zero_le _, rfl, (fun i _ hi => by omega), Below.refl _ _⟩
  case round =>
    obtain ⟨k, hk, rfl, hno, hb⟩ := hrel
    by_cases hlt : k < l.length
    · obtain ⟨ad, b, o, hA, had, hc0, hc1⟩ := (H.out.below hb).at1 hlt
      have hI : (k : Int) < (l.length : Int) := by omega
      by_cases he : l[k].1 = n
      · have HR := Lib.hid (rfind_at hlt he hno)
        rw [he] at hc0
        have hbe : (n == n) = true := by simp
        subst hA
        clear hno he
        go_wp2_with fail
        go_ret
        exact ⟨by rw [HR.out]; rfl, hb⟩
      · have hbe : (l[k].1 == n) = false := by simpa using he
        have hno2 : ∀ i (hi : i < l.length), i < k + 1 → l[i].1 ≠ n := fun i hi hik => by
          rcases Nat.lt_or_ge i k with h | h
          · exact hno i hi h
          · obtain rfl : i = k := by omega
            exact he
        have HN := Lib.hid hno2
        clear hno hno2 he
        generalize l[k] = x at *
        subst hA
        go_wp2_with fail
        go_roundw
        case rel => exact ⟨k + 1, hlt, by go_num, HN.out, hb⟩
        case measure => simp [intOf]; omega
    · have hI : (l.length : Int) ≤ (k : Int) := by omega
      have HR := Lib.hid (rfind_none (fun i hi => hno i hi (by omega)))
      clear hno
      go_wp2_with fail
      go_ret
      exact ⟨by rw [HR.out]; rfl, hb⟩
end Go.Proofs.YtabnndjdkjkciaaGreatDoor

namespace Go.Proofs.YtabnndjdkjkciaaGreatDoor
open Go.RowKit Go.Maps Go.Sort
attribute [local go_sem ↓] Go.wp_at_zero Go.wp_at_succ

theorem less_before : ∀ (a b : Bs), Op.bytesLess a b = bytesBefore a b
  | [], [] => rfl
  | [], _ :: _ => rfl
  | _ :: _, [] => rfl
  | x :: r, y :: s => by
    unfold Op.bytesLess bytesBefore
    rw [less_before r s]
theorem bb_asym {a b : Bs} (h : bytesBefore a b = true) : bytesBefore b a = false := by
  cases h2 : bytesBefore b a
  · rfl
  · have := bb_trans h h2
    rw [bb_irrefl] at this
    cases this
theorem gdel_take {l : List (Bs × Bs)} {n : Bs} {k : Nat} (hk : k < l.length) : gdel n (l.take (k + 1)) = gdel n (l.take k) ++ if l[k].1 = n then [] else [l[k]] := by
  rw [List.take_succ_eq_append_getElem hk]
  unfold gdel
  rw [List.filter_append]
  congr 1
  by_cases h : l[k].1 = n
  · rw [if_pos h]; simp [h]
  · rw [if_neg h]; simp [h]
theorem glen_le (n : Bs) (l : List (Bs × Bs)) (k : Nat) : (gdel n (l.take k)).length ≤ k := by
  have := glen_del n (l.take k)
  rw [List.length_take] at this
  omega
set_option maxRecDepth 100000 in
set_option maxHeartbeats 1000000 in
theorem RWithout_any {A : Option Addr} {c : Nat} {l : List (Bs × Bs)} (n : Bs) (w : World) (h : SlR w A c l) (hl : l.length ≤ 100000000) : Calls Tryz.prog 189 #[.slice A l.length c, .string ⟨n.toArray⟩] w fun e w' => ∃ A' c' m, e = .returned (.slice A' (List.length m) c') ∧ Hid (m = gdel n l) ∧ OwnR w' w.heap.size A' c' m ∧ Below w.heap.size w w' := by
  have H := Lib.hid h
  clear h
  go_enter Tryz.func189, Tryz.ntmps189
  go_wp2_with fail
  go_loopw [6, 5] (fun x y wr => ∃ (k : Nat) (B : Option Addr) (d : Nat) (m : List (Bs × Bs)), k ≤ l.length ∧ x = .int .i64 k ∧ y = .slice B m.length d ∧ Hid (m = gdel n (l.take k)) ∧ OwnR wr w.heap.size B d m ∧ Below w.heap.size w wr) (fun x _ w => l.length - (intOf x).toNat)
  case atStart => exact ⟨0, _, 0, [], Nat.zero_le _, rfl, rfl, Lib.hid rfl, Own.lit 2 (Nat.le_refl _), below_new _ _⟩
  case round =>
    obtain ⟨k, B, d, m, hk, rfl, rfl, hm, ho, hb⟩ := hrel
    have hml : m.length ≤ k := by rw [hm.out]; exact glen_le _ _ _
    by_cases hlt : k < l.length
    · obtain ⟨ad, b, o, hA, had, hc0, hc1⟩ := (H.out.below hb).at1 hlt
      have hI : (k : Int) < (l.length : Int) := by omega
      have HT := Lib.hid (gdel_take (n := n) hlt)
      have hbs := hb.size
      by_cases he : l[k].1 = n
      · have hbe : (n == n) = true := by simp
        rw [if_pos he, List.append_nil] at HT
        rw [he] at hc0
        subst hA
        clear he
        go_wp2_with fail
        go_roundw
        case rel => exact ⟨k + 1, B, d, m, hlt, by go_num, rfl, Lib.hid (by rw [hm.out, HT.out]), ho, hb⟩
        case measure => simp [intOf]; omega
      · have hbe : (l[k].1 == n) = false := by simpa using he
        rw [if_neg he] at HT
        clear he
        generalize l[k] = x at *
        subst hA
        have HB := Lib.hid hb
        clear hb
        go_wp2_with (at_builtin; go_must (refine wpl_rf rfl _ _ rfl w.heap.size B d m rfl ho (by omega) x _ rfl rfl hbs ?_); intro A5 c5 m5 w5 hm5 ho5 hg5 hp5)
        have hb6 := bel_grown HB.out hbs (fun i e => (Own.lt ho i e).1) hg5 (Nat.le_refl _)
        go_roundw
        case rel => exact ⟨k + 1, A5, c5, m5, hlt, by go_num, rfl, Lib.hid (by rw [hm5.out, hm.out, HT.out]), ho5, hb6⟩
        case measure => simp [intOf]; omega
    · have hI : (l.length : Int) ≤ (k : Int) := by omega
      obtain rfl : k = l.length := by omega
      have HM := Lib.hid (show m = gdel n l from by rw [hm.out, List.take_length])
      clear hm
      go_wp2_with fail
      go_ret
      exact ⟨B, d, m, rfl, (show _ = _ from HM.out), ho, hb⟩
/-- one put among others -/
def Wth (f : Bs × Bs) (g m : List (Bs × Bs)) (k : Nat) (put : Bool) : Prop := (put = true → m ++ g.drop k = gins f g) ∧ (put = false → m = g.take k ∧ gins f g = g.take k ++ gins f (g.drop k))
theorem Wth.start (f : Bs × Bs) (g : List (Bs × Bs)) : Wth f g [] 0 false := ⟨fun h => (by cases h), fun _ => ⟨rfl, rfl⟩⟩
theorem Wth.len {f : Bs × Bs} {g m : List (Bs × Bs)} {k : Nat} {put : Bool} (h : Wth f g m k put) : m.length ≤ g.length + 1 := by
  cases put
  · have := (h.2 rfl).1
    rw [this, List.length_take]
    omega
  · have := congrArg List.length (h.1 rfl)
    rw [glen_ins, List.length_append] at this
    omega
theorem Wth.on {f : Bs × Bs} {g m : List (Bs × Bs)} {k : Nat} (h : Wth f g m k true) (hk : k < g.length) : Wth f g (m ++ [g[k]]) (k + 1) true := ⟨fun _ => by
  have := h.1 rfl
  rw [List.drop_eq_getElem_cons hk] at this
  rw [← this]
  simp, fun h => by cases h⟩
theorem Wth.past {f : Bs × Bs} {g m : List (Bs × Bs)} {k : Nat} (h : Wth f g m k false) (hk : k < g.length) (hb : bytesBefore f.1 g[k].1 = false) : Wth f g (m ++ [g[k]]) (k + 1) false := ⟨fun h => (by cases h), fun _ => by
  obtain ⟨h1, h2⟩ := h.2 rfl
  refine ⟨by rw [h1, List.take_succ_eq_append_getElem hk], ?_⟩
  rw [h2, List.drop_eq_getElem_cons hk, List.take_succ_eq_append_getElem hk, gins, if_neg (by rw [hb]; simp), List.append_assoc]
  rfl⟩
theorem Wth.here {f : Bs × Bs} {g m : List (Bs × Bs)} {k : Nat} (h : Wth f g m k false) (hk : k < g.length) (hb : bytesBefore f.1 g[k].1 = true) : Wth f g (m ++ [f] ++ [g[k]]) (k + 1) true := ⟨fun _ => by
  obtain ⟨h1, h2⟩ := h.2 rfl
  rw [h2, List.drop_eq_getElem_cons hk, gins, if_pos hb, h1]
  simp, fun h => by cases h⟩
theorem Wth.end1 {f : Bs × Bs} {g m : List (Bs × Bs)} (h : Wth f g m g.length true) : m = gins f g := by
  have := h.1 rfl
  rwa [List.drop_length, List.append_nil] at this
theorem Wth.end0 {f : Bs × Bs} {g m : List (Bs × Bs)} (h : Wth f g m g.length false) : m ++ [f] = gins f g := by
  obtain ⟨h1, h2⟩ := h.2 rfl
  rw [h2, List.drop_length, h1, List.take_length]
  rfl
/-- while one is put among others -/
structure Wi (w wr : World) (f : Bs × Bs) (A1 : Option Addr) (c1 : Nat) (g : List (Bs × Bs)) (B : Option Addr) (d : Nat) (m : List (Bs × Bs)) : Prop where
  own : OwnR wr (w.heap.size + 1) B d m
  row : SlR wr A1 c1 g
  ap : ∀ k, B.map (·.block) = some k → A1.map (·.block) ≠ some k
  al : ∀ k, A1.map (·.block) = some k → k < wr.heap.size
  bx : Blk wr w.heap.size 186 #[.string ⟨f.1.toArray⟩, .string ⟨f.2.toArray⟩]
  bel : Below w.heap.size w wr
section
variable {w wr w' : World} {f p : Bs × Bs} {A1 B B' : Option Addr} {c1 d d' : Nat} {g m m' : List (Bs × Bs)}
theorem Wi.alloc (h : Wi w wr f A1 c1 g B d m) (o : Obj) : Wi w (wr.alloc o) f A1 c1 g B d m :=
  ⟨World.ownsRow.alloc h.own o, h.row.below (below_new _ _), h.ap, fun k hk => by have := h.al k hk; simp; omega, h.bx.alloc o, h.bel.alloc h.bel.size o⟩
theorem Wi.grow (h : Wi w wr f A1 c1 g B d m) {o : Obj} (ho : OwnR w' (w.heap.size + 1) B' d' m') (hg : (wr.alloc o).grownBy w' (B.map (·.block))) (hp : B'.map (·.block) = B.map (·.block) ∨ B'.map (·.block) = some (wr.alloc o).heap.size) : Wi w w' f A1 c1 g B' d' m' := by
  have h1 := h.alloc o
  refine ⟨ho, ?_, fun k hk => ?_, fun k hk => Nat.lt_of_lt_of_le (h1.al k hk) hg.size, ?_, ?_⟩
  · exact Sl.sameH h1.row fun k hk => hg.block k (h1.al k hk) (fun e => h1.ap k e.symm hk)
  · rcases hp with hp | hp
    · exact h1.ap k (hp ▸ hk)
    · rw [hp] at hk
      injection hk with hk
      intro e
      have := h1.al k e
      omega
  · exact (hg.block _ h1.bx.lt (fun e => by have := (Own.lt h.own _ e.symm).1; omega)).trans h1.bx
  · exact bel_grown h.bel h.bel.size (fun k hk => by have := (Own.lt h.own k hk).1; omega) hg (Nat.le_refl _)
end
set_option maxRecDepth 100000 in
set_option maxHeartbeats 1000000 in
theorem RWith_any {A : Option Addr} {c : Nat} {l : List (Bs × Bs)} (n v : Bs) (w : World) (h : SlR w A c l) (hl : l.length ≤ 100000000) : Calls Tryz.prog 188 #[.slice A l.length c, .agg #[.string ⟨n.toArray⟩, .string ⟨v.toArray⟩]] w fun e w' => ∃ A' c' m, e = .returned (.slice A' (List.length m) c') ∧ Hid (m = gput n v l) ∧ OwnR w' w.heap.size A' c' m ∧ Below w.heap.size w w' := by
  have hW := RWithout_any n ((w.alloc (.cells #[.string ⟨n.toArray⟩, .string ⟨v.toArray⟩] 186)).alloc (.cells #[] 186)) ((h.below (below_new w _)).below (below_new _ _)) hl
  have HW := Lib.hid hW
  have HB0 := Lib.hid ((Blk.new w 186 #[.string ⟨n.toArray⟩, .string ⟨v.toArray⟩]).alloc (.cells #[] 186))
  have HO0 := Lib.hid (Own.lit (w := w.alloc (.cells #[.string ⟨n.toArray⟩, .string ⟨v.toArray⟩] 186)) (e := 186) 2 (Nat.le_refl _))
  have HBl0 := Lib.hid (bel_alloc (below_new w (.cells #[.string ⟨n.toArray⟩, .string ⟨v.toArray⟩] 186)) (.cells #[] 186))
  clear hW h
  obtain ⟨q0, q1⟩ := (show _ ∧ _ from ⟨HB0.out.cell 0, HB0.out.cell 1⟩)
  go_enter Tryz.func188, Tryz.ntmps188
  go_wp2_with fail
  refine HW.out.mono ?_
  rintro e w1 ⟨A1, c1, g, rfl, hg, hog, hb1⟩
  have HG := Lib.hid hg.out
  have HSg := Lib.hid (show SlR w1 A1 c1 g from Own.sl hog)
  have HB1 := Lib.hid (HB0.out.below hb1)
  have HO1 := Lib.hid (Own.below HO0.out hb1)
  have hs0 : ((w.alloc (.cells #[.string ⟨n.toArray⟩, .string ⟨v.toArray⟩] 186)).alloc (.cells #[] 186)).heap.size = w.heap.size + 1 + 1 := by simp
  have hs2 : (w.alloc (.cells #[.string ⟨n.toArray⟩, .string ⟨v.toArray⟩] 186)).heap.size = w.heap.size + 1 := by simp
  have hs1 := hb1.size
  have hgl : g.length ≤ 100000000 := by rw [hg.out]; have := glen_del n l; omega
  have hb2 := HBl0.out.trans (hb1.mono HBl0.out.size)
  have hnn : ∀ p ∈ g, p.1 ≠ n := by rw [hg.out]; exact fun p hp => (gmem_del.1 hp).2
  have HNN := Lib.hid hnn
  rw [hs0] at hs1 hog
  rw [hs2] at HO1
  have hal : ∀ k, A1.map (·.block) = some k → w.heap.size + 2 ≤ k ∧ k < w1.heap.size := fun k hk => Own.lt hog k hk
  have HWi := Lib.hid (show Wi w w1 (n, v) A1 c1 g (some ⟨w.heap.size + 1, 0, none⟩) 0 [] from ⟨HO1.out, HSg.out, fun k hk e => by injection hk with hk; have := (hal k e).1; dsimp only at hk; omega, fun k hk => (hal k hk).2, HB1.out, hb2⟩)
  clear HW hg hb1 HO0 HBl0 q0 q1 hnn HB0 hal hog HO1 HSg HB1 hb2
  go_wp2_with fail
  go_loopw [15, 5, 6] (fun x y z wr => ∃ (k : Nat) (B : Option Addr) (d : Nat) (m : List (Bs × Bs)) (put : Bool), k ≤ g.length ∧ x = .int .i64 k ∧ y = .slice B m.length d ∧ z = .bool put ∧ Hid (Wth (n, v) g m k put) ∧ Wi w wr (n, v) A1 c1 g B d m) (fun x _ _ w => g.length - (intOf x).toNat)
  case atStart => exact ⟨0, _, 0, [], false, Nat.zero_le _, rfl, rfl, rfl, Lib.hid (Wth.start _ _), HWi.out⟩
  case round =>
    obtain ⟨k, B, d, m, put, hk, rfl, rfl, rfl, hw, hi⟩ := hrel
    have hml := hw.out.len
    by_cases hlt : k < g.length
    · obtain ⟨ad, b, o, hA, had, hc0, hc1⟩ := hi.row.at1 hlt
      have hI : (k : Int) < (g.length : Int) := by omega
      have hxn := HNN.out _ (List.getElem_mem hlt)
      have hbx := hi.bx
      have hsz := hi.bx.lt
      cases put with
      | true =>
        have HX := Lib.hid (hw.out.on hlt)
        generalize g[k] = x at *
        subst hA
        have hi2 := hi.alloc (.cells #[.string ⟨x.1.toArray⟩, .string ⟨x.2.toArray⟩] 186)
        have ho2 := hi2.own
        have HI := Lib.hid hi2
        clear hw hi2 hi
        go_wp2_with (at_builtin; go_must (refine wpl_rf rfl _ _ rfl (w.heap.size + 1) B d m rfl ho2 (by omega) x _ (by simp) rfl (by simp; omega) ?_); intro A5 c5 m5 w5 hm5 ho5 hg5 hp5)
        have hi6 := HI.out.grow ho5 hg5 hp5
        have HM := Lib.hid (show Wth (n, v) g m5 (k + 1) true from by rw [hm5.out]; exact HX.out)
        go_roundw
        case rel => exact ⟨k + 1, A5, c5, m5, true, hlt, by go_num, rfl, rfl, HM, hi6⟩
        case measure => simp [intOf]; omega
      | false =>
        cases hbb : bytesBefore n g[k].1 with
        | false =>
          have HX := Lib.hid (hw.out.past hlt hbb)
          have hless : Op.bytesLess g[k].1 n = true := by
            rw [less_before]
            rcases bb_total hxn with h | h
            · exact h
            · rw [hbb] at h; cases h
          generalize g[k] = x at *
          subst hA
          have hi2 := hi.alloc (.cells #[.string ⟨x.1.toArray⟩, .string ⟨x.2.toArray⟩] 186)
          have ho2 := hi2.own
          have HI := Lib.hid hi2
          have hby := (hbx.alloc (.cells #[.string ⟨x.1.toArray⟩, .string ⟨x.2.toArray⟩] 186)).cell 0
          clear hw hi2 hi hbb hxn
          go_wp2_with (at_builtin; go_must (refine wpl_rf rfl _ _ rfl (w.heap.size + 1) B d m rfl ho2 (by omega) x _ (by simp) rfl (by simp; omega) ?_); intro A5 c5 m5 w5 hm5 ho5 hg5 hp5)
          have hi6 := HI.out.grow ho5 hg5 hp5
          have HM := Lib.hid (show Wth (n, v) g m5 (k + 1) false from by rw [hm5.out]; exact HX.out)
          go_roundw
          case rel => exact ⟨k + 1, A5, c5, m5, false, hlt, by go_num, rfl, rfl, HM, hi6⟩
          case measure => simp [intOf]; omega
        | true =>
          have HX := Lib.hid (hw.out.here hlt hbb)
          have hless : Op.bytesLess g[k].1 n = false := by rw [less_before]; exact bb_asym hbb
          have hbe : (g[k].1 == n) = false := by simpa using hxn
          generalize g[k] = x at *
          subst hA
          have hi2 := hi.alloc (.cells #[.string ⟨x.1.toArray⟩, .string ⟨x.2.toArray⟩] 186)
          have ho2 := hi2.own
          have HI := Lib.hid hi2
          have hb3 := hbx.alloc (.cells #[.string ⟨x.1.toArray⟩, .string ⟨x.2.toArray⟩] 186)
          have hby := hb3.cell 0
          have q0 : (wr.alloc (.cells #[.string ⟨x.1.toArray⟩, .string ⟨x.2.toArray⟩] 186)).cell? ⟨w.heap.size, 0, none⟩ = some (.string ⟨n.toArray⟩) := hb3.cell 0
          have q1 : (wr.alloc (.cells #[.string ⟨x.1.toArray⟩, .string ⟨x.2.toArray⟩] 186)).cell? ⟨w.heap.size, 1, none⟩ = some (.string ⟨v.toArray⟩) := hb3.cell 1
          have HC := Lib.hid (Blk.new wr 186 #[.string ⟨x.1.toArray⟩, .string ⟨x.2.toArray⟩])
          have hnB : ∀ k, B.map (·.block) = some k → k ≠ wr.heap.size := fun k hk e => by have := (Own.lt hi.own k hk).2; omega
          clear hw hi2 hi hbb hxn hb3
          go_wp2_with (first | (at_builtin; refine wpl_rf rfl (.tmp 28) (.tmp 30) rfl (w.heap.size + 1) B d m rfl ho2 (by omega) (n, v) _ (by simp) rfl (by simp; omega) ?_; intro A5 c5 m5 w5 hm5 ho5 hg5 hp5; have hi6 := HI.out.grow ho5 hg5 hp5; have hl5 : m5.length ≤ 200000000 := (by rw [hm5.out]; simp; omega); have hC5 : Blk w5 wr.heap.size 186 #[.string ⟨x.1.toArray⟩, .string ⟨x.2.toArray⟩] := (hg5.block _ (HC.out.alloc _).lt (fun e => hnB _ e.symm rfl)).trans (HC.out.alloc _); have z0 := hC5.cell 0; have z1 := hC5.cell 1; have hs6 := hi6.bx.lt) | (at_builtin; refine wpl_rf rfl (.tmp 32) (.tmp 34) rfl (w.heap.size + 1) A5 c5 m5 rfl ho5 (by omega) x _ rfl rfl (by omega) ?_; intro A7 c7 m7 w7 hm7 ho7 hg7 hp7))
          have hi8 := hi6.grow ho7 hg7 hp7
          have HM := Lib.hid (show Wth (n, v) g m7 (k + 1) true from by rw [hm7.out, hm5.out]; exact HX.out)
          go_roundw
          case rel => exact ⟨k + 1, A7, c7, m7, true, hlt, by go_num, rfl, rfl, HM, hi8⟩
          case measure => simp [intOf]; omega
    · have hI : (g.length : Int) ≤ (k : Int) := by omega
      obtain rfl : k = g.length := by omega
      cases put with
      | true =>
        have HM := Lib.hid (show m = gput n v l from by rw [hw.out.end1, HG.out]; rfl)
        have HO := Lib.hid (hi.own.more (Nat.le_succ _))
        have HB := Lib.hid hi.bel
        clear hw hi
        go_wp2_with fail
        go_ret
        exact ⟨B, d, m, rfl, (show _ = _ from HM.out), HO.out, HB.out⟩
      | false =>
        have HX := Lib.hid (show m ++ [(n, v)] = gput n v l from by rw [hw.out.end0, HG.out]; rfl)
        have hbx := hi.bx
        have ho2 := hi.own
        have hsz := hi.bx.lt
        have HI := Lib.hid hi
        have q0 : wr.cell? ⟨w.heap.size, 0, none⟩ = some (.string ⟨n.toArray⟩) := hbx.cell 0
        have q1 : wr.cell? ⟨w.heap.size, 1, none⟩ = some (.string ⟨v.toArray⟩) := hbx.cell 1
        clear hw hi
        go_wp2_with (at_builtin; go_must (refine wpl_rf rfl _ _ rfl (w.heap.size + 1) B d m rfl ho2 (by omega) (n, v) _ rfl rfl (by omega) ?_); intro A5 c5 m5 w5 hm5 ho5 hg5 hp5)
        have hi6 := HI.out.grow ho5 hg5 hp5
        go_ret
        exact ⟨A5, c5, m5, rfl, (show _ = _ from by rw [hm5.out, HX.out]), hi6.own.more (Nat.le_succ _), hi6.bel⟩
end Go.Proofs.YtabnndjdkjkciaaGreatDoor
