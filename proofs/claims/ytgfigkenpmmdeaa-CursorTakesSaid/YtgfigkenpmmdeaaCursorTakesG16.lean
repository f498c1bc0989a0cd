/- WHAT IT HOLDS: which manifests there are, by the document, walked. | WHAT IT HOLDS: the document's cursors, walked: Check, Same, a cursor as the document's. | WHAT IT HOLDS: the document's Same of equal cursors, walked. -/
import Derived.Test.YtgfigkenpmmdeaaCursorTakesG15
namespace Go.Proofs.Ytgfigkenpmmdeaa
open Go.RowKit
attribute [local go_sem ↓] Go.wp_at_zero Go.wp_at_succ

theorem Bl3 {w : World} {g : Nat} {T : TypeId} {p : Pt5} (h : Blk w g T (pta p)) : w.cell? ⟨g, 0, none⟩ = some (.int .i64 p.1) ∧ w.cell? ⟨g, 1, none⟩ = some (.int .i64 p.2.1) ∧ w.cell? ⟨g, 2, none⟩ = some (.int .i64 p.2.2.1) :=
  ⟨(h.cell 0).trans rfl, (h.cell 1).trans rfl, (h.cell 2).trans rfl⟩
theorem rrg_bad {n f t r : Int} {d : Dg} {ps : List Pt5} {k : Nat} {x : Int} (hk : [f, t, r][k]? = some x) (h : x < 0 ∨ 1048576 < x) : mchk (n, f, t, r, d, ps) = 1 := by
  refine mchk_range ?_
  have hx : inb x 1048576 = false := by
    rw [Bool.eq_false_iff]
    intro hh
    have := inb_iff.1 hh
    omega
  dsimp only
  match k, hk with
  | 0, hk => injection hk with hk; subst hk; exact .inr (.inl hx)
  | 1, hk => injection hk with hk; subst hk; exact .inr (.inr (.inl hx))
  | 2, hk => injection hk with hk; subst hk; exact .inr (.inr (.inr hx))
theorem inb_of {x m : Int} (h : ¬ x < 0) (h2 : ¬ m < x) : inb x m = true := inb_iff.2 ⟨by omega, by omega⟩
theorem inb_not {x m : Int} (h : x < 0 ∨ m < x) : inb x m = false := by
  rw [Bool.eq_false_iff]
  intro hh
  have := inb_iff.1 hh
  omega
set_option maxRecDepth 100000 in
theorem built_dgz : Try.prog.built 33 [] = some (dga dg0) := by kernel_rfl
theorem wpl_buildDz {w : World} {ops : Array Oper} {rest : List Oper} {o : Oper} {a : Act} {Q : Exit → Act → World → Prop} (hgd : Region.wanted o (yielded ops a.tmps) = true) (ho : o.op = .build 33 #[])
    (h : wpList Try.prog ops Q rest (a.put o.dst (.agg (dga dg0))) w) : wpList Try.prog ops Q (o :: rest) a w :=
  wpList_step fun _ hK => by
    rw [if_pos hgd]
    have hl : ((#[] : Array (Nat × Operand)).map fun (i, x) => (i, a.eval x)).toList = [] := by simp
    refine wp_build 33 #[] ho ?_ ?_
    · rw [hl, built_dgz]; simp
    · rw [hl, built_dgz]; exact hK _ _ h
theorem ptchk_bad {p : Pt5} {a : Int} (h : p.2.1 < 1 ∨ 64 < p.2.1 ∨ p.2.2.1 < 1 ∨ 65536 < p.2.2.1) : ptchk p a = 1 := by unfold ptchk; rw [if_pos h]
theorem ptchk_form {p : Pt5} {a : Int} (h : ¬ (p.2.1 < 1 ∨ 64 < p.2.1 ∨ p.2.2.1 < 1 ∨ 65536 < p.2.2.1)) (h2 : p.1 ≠ a) : ptchk p a = 2 := by unfold ptchk; rw [if_neg h, if_pos h2]
theorem ptchk_fine {p : Pt5} {a : Int} (h : ¬ (p.2.1 < 1 ∨ 64 < p.2.1 ∨ p.2.2.1 < 1 ∨ 65536 < p.2.2.1)) (h2 : p.1 = a) : ptchk p a = 0 := by unfold ptchk; rw [if_neg h, if_neg (by simpa using h2)]
set_option maxRecDepth 100000 in
set_option maxHeartbeats 4000000 in
theorem rMCheck_any {A : Option Addr} {c : Nat} (n f t r : Int) (d : Dg) (ps : List Pt5) (w : World) (h : SlP w A c ps) (hI : PtsI ps) :
    Calls Try.prog 33 #[.agg (mfa n f t r d A ps.length c)] w fun e w' => e = .returned (.int .i64 (mchk (n, f, t, r, d, ps) : Nat)) ∧ Below w.heap.size w w' := by
  have hM := (Mm.start w).alloc (mfa n f t r d A ps.length c) 36
  have hmax := h.len_le
  unfold maxLen at hmax
  obtain ⟨a0, a1, a2, a3, a4⟩ := Blm.five hM.b0
  have hM1 := hM.alloc #[.int .i64 f, .int .i64 t, .int .i64 r] 3
  rw [show (w.alloc (.cells (mfa n f t r d A ps.length c) 36)).heap.size = w.heap.size + 1 from by simp] at hM1
  go_enter Try.func33, Try.ntmps33
  go_upto_region 2 with (fail)
  refine gen1 (T := fun W => Mm w W [(w.heap.size + 1, 3, #[.int .i64 f, .int .i64 t, .int .i64 r]), (w.heap.size, 36, mfa n f t r d A ps.length c)] []) hM1 (fun w1 hM => ?_)
  clear hM1 a0 a1 a2 a3 a4
  obtain ⟨l0, l1, l2, -⟩ := Blk.three hM.b0
  obtain ⟨a0, a1, a2, a3, a4⟩ := Blm.five hM.b1
  go_wp2_with fail
  go_loopw [16] (fun x wr => ∃ k : Nat, k ≤ 3 ∧ x = .int .i64 (k : Nat) ∧ Hid (∀ (i : Nat) (x : Int), i < k → [f, t, r][i]? = some x → inb x 1048576 = true) ∧ wr = w1) (fun x wr => 3 - (intOf x).toNat)
  case atStart => exact ⟨0, by omega, rfl, (show ∀ _ _, _ from fun i x hi => by omega), rfl⟩
  case round =>
    obtain ⟨k, hk, rfl, hall, rfl⟩ := hrel
    rcases Nat.lt_or_ge k 3 with hlt | hge
    · have hkI : (k : Int) < 3 := by omega
      obtain ⟨x, hx, hcx⟩ : ∃ x : Int, [f, t, r][k]? = some x ∧ wr.cell? ⟨w.heap.size + 1, k, none⟩ = some (.int .i64 x) := by
        match k, hlt with
        | 0, _ => exact ⟨f, rfl, l0⟩
        | 1, _ => exact ⟨t, rfl, l1⟩
        | 2, _ => exact ⟨r, rfl, l2⟩
      have HX := Lib.hid hx
      clear hx
      by_cases h1 : x < 0
      · have HC := Lib.hid (rrg_bad (n := n) (d := d) (ps := ps) HX.out (.inl h1))
        go_wp2_with fail
        go_ret
        exact ⟨by rw [HC.out]; rfl, hM.bel⟩
      by_cases h2 : 1048576 < x
      · have HC := Lib.hid (rrg_bad (n := n) (d := d) (ps := ps) HX.out (.inr h2))
        go_wp2_with fail
        go_ret
        exact ⟨by rw [HC.out]; rfl, hM.bel⟩
      have HB := Lib.hid (inb_of h1 h2)
      go_wp2_with fail
      go_roundw
      case rel =>
        refine ⟨k + 1, hlt, by go_num, (show ∀ _ _, _ from fun i y hi hy => ?_), (by first | rfl | trivial)⟩
        rcases Nat.lt_or_ge i k with hik | hik
        · exact hall.out i y hik hy
        · obtain rfl : i = k := by omega
          rw [HX.out] at hy
          injection hy with hy
          subst hy
          exact HB.out
      case measure => simp [intOf]; omega
    · obtain rfl : k = 3 := by omega
      have HB2 := Lib.hid (hall.out 0 f (by omega) rfl)
      have HB3 := Lib.hid (hall.out 1 t (by omega) rfl)
      have HB4 := Lib.hid (hall.out 2 r (by omega) rfl)
      clear hall
      by_cases h1 : n < 0
      · have HC := Lib.hid (mchk_range (m := (n, f, t, r, d, ps)) (.inl (inb_not (.inl h1))))
        go_wp2_with fail
        go_ret
        exact ⟨by rw [HC.out]; rfl, hM.bel⟩
      by_cases h2 : 999999 < n
      · have HC := Lib.hid (mchk_range (m := (n, f, t, r, d, ps)) (.inl (inb_not (.inr h2))))
        go_wp2_with fail
        go_ret
        exact ⟨by rw [HC.out]; rfl, hM.bel⟩
      have HB1 := Lib.hid (inb_of h1 h2)
      by_cases c1 : t < f
      · have HC := Lib.hid (mchk_form (m := (n, f, t, r, d, ps)) HB1.out HB2.out HB3.out HB4.out (.inl c1))
        go_wp2_with fail
        go_ret
        exact ⟨by rw [HC.out]; rfl, hM.bel⟩
      by_cases c2 : n = 0
      · have hn0 : (n == 0) = true := by simpa using c2
        obtain ⟨zb, hzb⟩ : ∃ b, decide (d = dg0) = b := ⟨_, rfl⟩
        have hnq := fun W => neq_dgR d dg0 W
        rw [hzb] at hnq
        have hdg := Lib.hid (Blm.dg hM.b1)
        have hds := Lib.hid (dga_size d)
        have HZB := Lib.hid hzb
        have HN0 := Lib.hid c2
        clear hzb c2
        cases zb with
        | false =>
          have HC := Lib.hid (mchk_form (m := (n, f, t, r, d, ps)) HB1.out HB2.out HB3.out HB4.out (.inr ⟨HN0.out, HZB.out⟩))
          go_wp2_with (first | (refine wpl_loadG (by kernel_rfl) 33 _ rfl ⟨w.heap.size, 4, none⟩ (dga d) rfl hdg.out _ Try.underlying33 rfl (by rw [hds.out]; kernel_rfl) ?_) | (refine wpl_buildDz (by kernel_rfl) rfl ?_))
          go_ret
          exact ⟨by rw [HC.out]; rfl, hM.bel⟩
        | true =>
          have HM := Lib.hid (mchk_rest (m := (n, f, t, r, d, ps)) HB1.out HB2.out HB3.out HB4.out (by dsimp only; omega) (fun _ => HZB.out))
          dsimp only at HM
          clear HN0 HZB
          by_cases hlen : 1024 < ps.length
          · have hlI : (1024 : Int) < (ps.length : Int) := by omega
            have HC := Lib.hid (show mchk (n, f, t, r, d, ps) = 3 from by rw [HM.out, if_pos hlen])
            clear hlen
            go_wp2_with (first | (refine wpl_loadG (by kernel_rfl) 33 _ rfl ⟨w.heap.size, 4, none⟩ (dga d) rfl hdg.out _ Try.underlying33 rfl (by rw [hds.out]; kernel_rfl) ?_) | (refine wpl_buildDz (by kernel_rfl) rfl ?_))
            go_ret
            exact ⟨by rw [HC.out]; rfl, hM.bel⟩
          · have hlI : (ps.length : Int) ≤ 1024 := by omega
            have HM2 := Lib.hid (show mchk (n, f, t, r, d, ps) = pgo t f ps from by rw [HM.out, if_neg hlen])
            have hf2 := inb_iff.1 HB2.out
            obtain ⟨hf0, hf1⟩ := hf2
            clear hlen HM
            go_wp2_with (first | (refine wpl_loadG (by kernel_rfl) 33 _ rfl ⟨w.heap.size, 4, none⟩ (dga d) rfl hdg.out _ Try.underlying33 rfl (by rw [hds.out]; kernel_rfl) ?_) | (refine wpl_buildDz (by kernel_rfl) rfl ?_))
            go_loopw [60, 5] (fun x y wr => ∃ (k : Nat) (a : Int), k ≤ ps.length ∧ x = .int .i64 k ∧ y = .int .i64 a ∧ Hid (pgo t f ps = pgo t a (ps.drop k)) ∧ f ≤ a ∧ a ≤ f + 64 * k ∧ Mm w wr [(w.heap.size, 36, mfa n f t r d A ps.length c)] []) (fun x y w => ps.length - (intOf x).toNat)
            case atStart => exact ⟨0, f, Nat.zero_le _, rfl, rfl, (show _ = _ from by rw [List.drop_zero]), Int.le_refl _, by omega, hM.sub (List.sublist_cons_self _ _)⟩
            case round =>
              obtain ⟨k, a, hk, rfl, rfl, hp, ha0, ha1, hMr⟩ := hrel
              clear hM a0 a1 a2 a3 a4 l0 l1 l2
              by_cases hlt : k < ps.length
              · obtain ⟨ad, b, o, rfl, had, hcc⟩ := (h.below hMr.bel).at hlt
                have hnx := Lib.hid (fun h0 => (pgo_step (z := t) (a := a) hlt h0))
                have hst := Lib.hid (fun h0 => (pgo_stop (z := t) (a := a) hlt h0))
                have hIp := hI _ (List.getElem_mem hlt)
                generalize ps[k] = p at *
                obtain ⟨_, hI1, hI2⟩ := hIp
                have hps := Lib.hid (pta_size p)
                have hpa := Lib.hid (pta_all p)
                have HCC := Lib.hid hcc
                have hMx := hMr.alloc (pta p) 83
                clear hcc
                go_upto_region 17 with (first | (refine wpl_loadG rfl 83 _ rfl ⟨b, o, none⟩ (pta p) rfl HCC.out _ Try.underlying83 rfl (by rw [hps.out]; kernel_rfl) ?_) | (refine wpl_storeN rfl 83 _ _ rfl _ (pta p) 83 rfl rfl (by rw [hps.out]; kernel_rfl) (by rw [hps.out]; rfl) hpa.out ?_))
                obtain ⟨x0, x1, x2⟩ := Bl3 hMx.b0
                clear hps hpa HCC hMr
                by_cases q1 : p.2.1 < 1
                · have HP := Lib.hid (HM2.out.trans (hp.out.trans ((hst.out (by rw [ptchk_bad (.inl q1)]; simp)).trans (ptchk_bad (.inl q1)))))
                  clear hnx hst hp
                  go_wp2_with fail
                  go_ret
                  exact ⟨by rw [HP.out]; rfl, hMx.bel⟩
                by_cases q2 : 64 < p.2.1
                · have HP := Lib.hid (HM2.out.trans (hp.out.trans ((hst.out (by rw [ptchk_bad (.inr (.inl q2))]; simp)).trans (ptchk_bad (.inr (.inl q2))))))
                  clear hnx hst hp
                  go_wp2_with fail
                  go_ret
                  exact ⟨by rw [HP.out]; rfl, hMx.bel⟩
                by_cases q3 : p.2.2.1 < 1
                · have HP := Lib.hid (HM2.out.trans (hp.out.trans ((hst.out (by rw [ptchk_bad (.inr (.inr (.inl q3)))]; simp)).trans (ptchk_bad (.inr (.inr (.inl q3)))))))
                  clear hnx hst hp
                  go_wp2_with fail
                  go_ret
                  exact ⟨by rw [HP.out]; rfl, hMx.bel⟩
                by_cases q4 : 65536 < p.2.2.1
                · have HP := Lib.hid (HM2.out.trans (hp.out.trans ((hst.out (by rw [ptchk_bad (.inr (.inr (.inr q4)))]; simp)).trans (ptchk_bad (.inr (.inr (.inr q4)))))))
                  clear hnx hst hp
                  go_wp2_with fail
                  go_ret
                  exact ⟨by rw [HP.out]; rfl, hMx.bel⟩
                by_cases q5 : p.1 = a
                · have hb : (p.1 != a) = false := by simp [q5]
                  have h0 := ptchk_fine (by omega : ¬ (p.2.1 < 1 ∨ 64 < p.2.1 ∨ p.2.2.1 < 1 ∨ 65536 < p.2.2.1)) q5
                  have HP := Lib.hid (hp.out.trans (hnx.out h0))
                  clear h0 hnx hst hp q5 hI1 hI2
                  have hwa : wrap64 (a + p.2.1) = a + p.2.1 := by simp only [wrap64]; omega
                  have hwa2 : IntKind.i64.wrap (a + p.2.1) = a + p.2.1 := by rw [IntKind.wrap_i64]; omega
                  go_wp2_with fail
                  go_roundw
                  case rel => exact ⟨k + 1, a + p.2.1, hlt, by go_num, rfl, HP, by omega, by omega, hMx.sub (List.sublist_cons_self _ _)⟩
                  case measure => simp [intOf]; omega
                · have hb : (p.1 != a) = true := by simpa using q5
                  have h0 := ptchk_form (by omega : ¬ (p.2.1 < 1 ∨ 64 < p.2.1 ∨ p.2.2.1 < 1 ∨ 65536 < p.2.2.1)) q5
                  have HP := Lib.hid (HM2.out.trans (hp.out.trans ((hst.out (by omega)).trans h0)))
                  clear h0 hnx hst hp q5 hI1 hI2
                  go_wp2_with fail
                  go_ret
                  exact ⟨by rw [HP.out]; rfl, hMx.bel⟩
              · have hkn : ps.drop k = [] := List.drop_eq_nil_of_le (by omega)
                have HP := Lib.hid (show mchk (n, f, t, r, d, ps) = if a ≠ t then 2 else 0 from by rw [HM2.out, hp.out, hkn]; rfl)
                clear hp hkn
                obtain ⟨a0, a1, a2, a3, a4⟩ := Blm.five hMr.b0
                by_cases hat : a = t
                · have hb : (a != t) = false := by simp [hat]
                  have HC := Lib.hid (show mchk (n, f, t, r, d, ps) = 0 from by rw [HP.out, if_neg (by simp [hat])])
                  clear HP hat
                  go_wp2_with fail
                  go_ret
                  exact ⟨by rw [HC.out]; rfl, hMr.bel⟩
                · have hb : (a != t) = true := by simpa using hat
                  have HC := Lib.hid (show mchk (n, f, t, r, d, ps) = 2 from by rw [HP.out, if_pos hat])
                  clear HP hat
                  go_wp2_with fail
                  go_ret
                  exact ⟨by rw [HC.out]; rfl, hMr.bel⟩
      · have hn0 : (n == 0) = false := by simpa using c2
        have HM := Lib.hid (mchk_rest (m := (n, f, t, r, d, ps)) HB1.out HB2.out HB3.out HB4.out (by dsimp only; omega) (fun h0 => absurd h0 c2))
        dsimp only at HM
        clear c2
        by_cases hlen : 1024 < ps.length
        · have hlI : (1024 : Int) < (ps.length : Int) := by omega
          have HC := Lib.hid (show mchk (n, f, t, r, d, ps) = 3 from by rw [HM.out, if_pos hlen])
          clear hlen
          go_wp2_with fail
          go_ret
          exact ⟨by rw [HC.out]; rfl, hM.bel⟩
        · have hlI : (ps.length : Int) ≤ 1024 := by omega
          have HM2 := Lib.hid (show mchk (n, f, t, r, d, ps) = pgo t f ps from by rw [HM.out, if_neg hlen])
          have hf2 := inb_iff.1 HB2.out
          obtain ⟨hf0, hf1⟩ := hf2
          clear hlen HM
          go_wp2_with fail
          go_loopw [60, 5] (fun x y wr => ∃ (k : Nat) (a : Int), k ≤ ps.length ∧ x = .int .i64 k ∧ y = .int .i64 a ∧ Hid (pgo t f ps = pgo t a (ps.drop k)) ∧ f ≤ a ∧ a ≤ f + 64 * k ∧ Mm w wr [(w.heap.size, 36, mfa n f t r d A ps.length c)] []) (fun x y w => ps.length - (intOf x).toNat)
          case atStart => exact ⟨0, f, Nat.zero_le _, rfl, rfl, (show _ = _ from by rw [List.drop_zero]), Int.le_refl _, by omega, hM.sub (List.sublist_cons_self _ _)⟩
          case round =>
            obtain ⟨k, a, hk, rfl, rfl, hp, ha0, ha1, hMr⟩ := hrel
            clear hM a0 a1 a2 a3 a4 l0 l1 l2
            by_cases hlt : k < ps.length
            · obtain ⟨ad, b, o, rfl, had, hcc⟩ := (h.below hMr.bel).at hlt
              have hnx := Lib.hid (fun h0 => (pgo_step (z := t) (a := a) hlt h0))
              have hst := Lib.hid (fun h0 => (pgo_stop (z := t) (a := a) hlt h0))
              have hIp := hI _ (List.getElem_mem hlt)
              generalize ps[k] = p at *
              obtain ⟨_, hI1, hI2⟩ := hIp
              have hps := Lib.hid (pta_size p)
              have hpa := Lib.hid (pta_all p)
              have HCC := Lib.hid hcc
              have hMx := hMr.alloc (pta p) 83
              clear hcc
              go_upto_region 17 with (first | (refine wpl_loadG rfl 83 _ rfl ⟨b, o, none⟩ (pta p) rfl HCC.out _ Try.underlying83 rfl (by rw [hps.out]; kernel_rfl) ?_) | (refine wpl_storeN rfl 83 _ _ rfl _ (pta p) 83 rfl rfl (by rw [hps.out]; kernel_rfl) (by rw [hps.out]; rfl) hpa.out ?_))
              obtain ⟨x0, x1, x2⟩ := Bl3 hMx.b0
              clear hps hpa HCC hMr
              by_cases q1 : p.2.1 < 1
              · have HP := Lib.hid (HM2.out.trans (hp.out.trans ((hst.out (by rw [ptchk_bad (.inl q1)]; simp)).trans (ptchk_bad (.inl q1)))))
                clear hnx hst hp
                go_wp2_with fail
                go_ret
                exact ⟨by rw [HP.out]; rfl, hMx.bel⟩
              by_cases q2 : 64 < p.2.1
              · have HP := Lib.hid (HM2.out.trans (hp.out.trans ((hst.out (by rw [ptchk_bad (.inr (.inl q2))]; simp)).trans (ptchk_bad (.inr (.inl q2))))))
                clear hnx hst hp
                go_wp2_with fail
                go_ret
                exact ⟨by rw [HP.out]; rfl, hMx.bel⟩
              by_cases q3 : p.2.2.1 < 1
              · have HP := Lib.hid (HM2.out.trans (hp.out.trans ((hst.out (by rw [ptchk_bad (.inr (.inr (.inl q3)))]; simp)).trans (ptchk_bad (.inr (.inr (.inl q3)))))))
                clear hnx hst hp
                go_wp2_with fail
                go_ret
                exact ⟨by rw [HP.out]; rfl, hMx.bel⟩
              by_cases q4 : 65536 < p.2.2.1
              · have HP := Lib.hid (HM2.out.trans (hp.out.trans ((hst.out (by rw [ptchk_bad (.inr (.inr (.inr q4)))]; simp)).trans (ptchk_bad (.inr (.inr (.inr q4)))))))
                clear hnx hst hp
                go_wp2_with fail
                go_ret
                exact ⟨by rw [HP.out]; rfl, hMx.bel⟩
              by_cases q5 : p.1 = a
              · have hb : (p.1 != a) = false := by simp [q5]
                have h0 := ptchk_fine (by omega : ¬ (p.2.1 < 1 ∨ 64 < p.2.1 ∨ p.2.2.1 < 1 ∨ 65536 < p.2.2.1)) q5
                have HP := Lib.hid (hp.out.trans (hnx.out h0))
                clear h0 hnx hst hp q5 hI1 hI2
                have hwa : wrap64 (a + p.2.1) = a + p.2.1 := by simp only [wrap64]; omega
                have hwa2 : IntKind.i64.wrap (a + p.2.1) = a + p.2.1 := by rw [IntKind.wrap_i64]; omega
                go_wp2_with fail
                go_roundw
                case rel => exact ⟨k + 1, a + p.2.1, hlt, by go_num, rfl, HP, by omega, by omega, hMx.sub (List.sublist_cons_self _ _)⟩
                case measure => simp [intOf]; omega
              · have hb : (p.1 != a) = true := by simpa using q5
                have h0 := ptchk_form (by omega : ¬ (p.2.1 < 1 ∨ 64 < p.2.1 ∨ p.2.2.1 < 1 ∨ 65536 < p.2.2.1)) q5
                have HP := Lib.hid (HM2.out.trans (hp.out.trans ((hst.out (by omega)).trans h0)))
                clear h0 hnx hst hp q5 hI1 hI2
                go_wp2_with fail
                go_ret
                exact ⟨by rw [HP.out]; rfl, hMx.bel⟩
            · have hkn : ps.drop k = [] := List.drop_eq_nil_of_le (by omega)
              have HP := Lib.hid (show mchk (n, f, t, r, d, ps) = if a ≠ t then 2 else 0 from by rw [HM2.out, hp.out, hkn]; rfl)
              clear hp hkn
              obtain ⟨a0, a1, a2, a3, a4⟩ := Blm.five hMr.b0
              by_cases hat : a = t
              · have hb : (a != t) = false := by simp [hat]
                have HC := Lib.hid (show mchk (n, f, t, r, d, ps) = 0 from by rw [HP.out, if_neg (by simp [hat])])
                clear HP hat
                go_wp2_with fail
                go_ret
                exact ⟨by rw [HC.out]; rfl, hMr.bel⟩
              · have hb : (a != t) = true := by simpa using hat
                have HC := Lib.hid (show mchk (n, f, t, r, d, ps) = 2 from by rw [HP.out, if_pos hat])
                clear HP hat
                go_wp2_with fail
                go_ret
                exact ⟨by rw [HC.out]; rfl, hMr.bel⟩
end Go.Proofs.Ytgfigkenpmmdeaa

namespace Go.Proofs.Ytgfigkenpmmdeaa
open Go.RowKit
attribute [local go_sem ↓] Go.wp_at_zero Go.wp_at_succ

theorem built_mR5 (n f t r : Int) (A : Option Addr) (k c : Nat) : Try.prog.built 36 [(0, .int .i64 n), (1, .int .i64 f), (2, .int .i64 t), (3, .int .i64 r), (5, .slice A k c)] = some (mfa n f t r dg0 A k c) := by kernel_rfl
theorem wpl_buildMR5 {ops : Array Oper} {rest : List Oper} {o : Oper} {a : Act} {w : World} {Q : Exit → Act → World → Prop} (hgd : o.guard = none) (x0 x1 x2 x3 x5 : Operand) (ho : o.op = .build 36 #[(0, x0), (1, x1), (2, x2), (3, x3), (5, x5)])
    {n f t r : Int} {A : Option Addr} {k c : Nat} (h0 : a.eval x0 = .int .i64 n) (h1 : a.eval x1 = .int .i64 f) (h2 : a.eval x2 = .int .i64 t) (h3 : a.eval x3 = .int .i64 r) (h5 : a.eval x5 = .slice A k c)
    (h : wpList Try.prog ops Q rest (a.put o.dst (.agg (mfa n f t r dg0 A k c))) w) : wpList Try.prog ops Q (o :: rest) a w := by
  have hl : ((#[(0, x0), (1, x1), (2, x2), (3, x3), (5, x5)] : Array (Nat × Operand)).map fun (i, x) => (i, a.eval x)).toList = [(0, .int .i64 n), (1, .int .i64 f), (2, .int .i64 t), (3, .int .i64 r), (5, .slice A k c)] := by
    simp [h0, h1, h2, h3, h5]
  refine wpList_build hgd 36 _ ho ?_ ?_
  · rw [hl, built_mR5]; rfl
  · rw [hl, built_mR5]; exact h
set_option maxRecDepth 100000 in
set_option maxHeartbeats 1000000 in
theorem rCCheck_any {A : Option Addr} {c : Nat} (f nx t q : Int) (ps : List Pt5) (w : World) (h : SlP w A c ps) (hI : PtsI ps) :
    Calls Try.prog 42 #[crv f nx t q A ps.length c] w fun e w' => e = .returned (.int .i64 (crchk (f, nx, t, q, ps) : Nat)) ∧ Below w.heap.size w w' := by
  have hM := (Mm.start w).alloc #[.int .i64 f, .int .i64 nx, .int .i64 t, .int .i64 q, .slice A ps.length c] 50
  have hc1 := fun h => Lib.hid (crchk_m (x := (f, nx, t, q, ps)) h)
  have hc2 := fun h h2 => Lib.hid (crchk_to (x := (f, nx, t, q, ps)) h h2)
  have hc3 := fun h h2 h3 => Lib.hid (crchk_far (x := (f, nx, t, q, ps)) h h2 h3)
  have hc4 := fun h h2 h3 => Lib.hid (crchk_fine (x := (f, nx, t, q, ps)) h h2 h3)
  have hC := rMCheck_any 1 f nx q dg0 ps _ (h.below hM.bel) hI
  dsimp only at hc1 hc2 hc3 hc4
  obtain ⟨bad, hbad⟩ : ∃ b, mchk (1, f, nx, q, dg0, ps) = b := ⟨_, rfl⟩
  rw [hbad] at hc1 hc2 hc3 hc4 hC
  have HC := Lib.hid hC
  clear hC hbad
  go_enter Try.func42, Try.ntmps42
  obtain ⟨a0, a1, a2, a3, a4, -⟩ := Blk.five hM.b0
  go_wp2_with (refine wpl_buildMR5 rfl _ _ _ _ _ rfl (n := 1) (f := f) (t := nx) (r := q) (A := A) (k := ps.length) (c := c) rfl rfl rfl rfl rfl ?_)
  refine HC.out.mono ?_
  rintro e w2 ⟨rfl, hb2⟩
  replace hM := hM.call hb2
  clear hb2 HC a0 a1 a2 a3 a4
  obtain ⟨a0, a1, a2, a3, a4, -⟩ := Blk.five hM.b0
  by_cases h0 : bad = 0
  · have hb : (((bad : Nat) : Int) != 0) = false := by simp [h0]
    have H0 := Lib.hid h0
    clear h0 hc1
    by_cases g1 : t < 0
    · have hr := hc2 H0.out (.inl g1)
      clear hc2 hc3 hc4
      go_wp2_with fail
      go_ret
      exact ⟨by rw [hr.out]; rfl, hM.bel⟩
    by_cases g2 : 1048576 < t
    · have hr := hc2 H0.out (.inr g2)
      clear hc2 hc3 hc4
      go_wp2_with fail
      go_ret
      exact ⟨by rw [hr.out]; rfl, hM.bel⟩
    by_cases g3 : t < nx
    · have hr := hc3 H0.out (by omega) (by omega)
      clear hc2 hc3 hc4
      go_wp2_with fail
      go_ret
      exact ⟨by rw [hr.out]; rfl, hM.bel⟩
    · have hr := hc4 H0.out (by omega) (by omega)
      clear hc2 hc3 hc4
      go_wp2_with fail
      go_ret
      exact ⟨by rw [hr.out]; rfl, hM.bel⟩
  · have hb : (((bad : Nat) : Int) != 0) = true := by simp; omega
    have hr := hc1 h0
    clear hc1 hc2 hc3 hc4 h0
    go_wp2_with fail
    go_ret
    exact ⟨by rw [hr.out]; rfl, hM.bel⟩
theorem res_rc1 {fn : Func} {a : Nat} {tmps : Array Value} {w : World} {g : Nat} {x y z u v : Value} (hres : fn.results = #[.cell a 50]) (ha : tmps.getD a undef = .pointer (some ⟨g, 0, none⟩)) (hB : Blk w g 50 #[x, y, z, u, v]) :
    (results fn tmps).run Try.prog w = .ok (.agg #[x, y, z, u, v]) w := by
  obtain ⟨b0, b1, b2, b3, b4, -⟩ := Blk.five hB
  have ha' : tmps[a]?.getD undef = .pointer (some ⟨g, 0, none⟩) := by simpa using ha
  simp [results, hres, go_sem, b0, b1, b2, b3, b4, ha']
theorem res_rc2 {fn : Func} {a b : Nat} {tmps : Array Value} {w : World} {g : Nat} {x y z u v : Value} (hres : fn.results = #[.cell a 50, .tmp b]) (ha : tmps.getD a undef = .pointer (some ⟨g, 0, none⟩)) (hB : Blk w g 50 #[x, y, z, u, v]) :
    (results fn tmps).run Try.prog w = .ok (.tuple #[.agg #[x, y, z, u, v], tmps.getD b undef]) w := by
  obtain ⟨b0, b1, b2, b3, b4, -⟩ := Blk.five hB
  have ha' : tmps[a]?.getD undef = .pointer (some ⟨g, 0, none⟩) := by simpa using ha
  simp [results, hres, go_sem, b0, b1, b2, b3, b4, ha']
/-- a cursor as the document's -/
def GivesCd (w0 : World) (x : Cur) (e : Ending) (w' : World) : Prop := ∃ A c m, e = .returned (crv x.1 x.2.1 x.2.2.1 x.2.2.2.1 A (List.length m) c) ∧ Hid (m = x.2.2.2.2) ∧ OwnR w' w0.heap.size A c m ∧ Below w0.heap.size w0 w'
theorem field_m5 (n f t r : Int) (A : Option Addr) (k c : Nat) (w : World) : ∀ d : Dg, (Instr.field 36 (.agg (mfa n f t r d A k c)) 5).run Try.prog w = .ok (.slice A k c) w := by
  refine dg_cases ?_
  intros
  kernel_rfl
theorem built_m5 (A : Option Addr) (k c : Nat) : Try.prog.built 27 [(5, .slice A k c)] = some (mfa 0 0 0 0 dg0 A k c) := by kernel_rfl
theorem step_buildM5 {ops : Array Oper} {o : Oper} {a : Act} {w : World} {K : Act → World → Prop} {Q : Exit → Act → World → Prop} {X : Prop} (hgd : Region.wanted o (yielded ops a.tmps) = true) (x : Operand) (ho : o.op = .build 27 #[(5, x)])
    {A : Option Addr} {k c : Nat} (h5 : a.eval x = .slice A k c)
    (h : K (a.put o.dst (.agg (mfa 0 0 0 0 dg0 A k c))) w) : if Region.wanted o (yielded ops a.tmps) = true then Oper.wp Try.prog o a w K Q else X := by
  rw [if_pos hgd]
  have hl : ((#[(5, x)] : Array (Nat × Operand)).map fun (i, x) => (i, a.eval x)).toList = [(5, .slice A k c)] := by
    simp [h5]
  refine wp_build 27 _ ho ?_ ?_
  · rw [hl, built_m5]; rfl
  · rw [hl, built_m5]; exact h
set_option maxRecDepth 100000 in
set_option maxHeartbeats 1000000 in
theorem Doc18_any {E : Option Addr} {cap : Nat} (f nx t q : Int) (ps : List Pt5) (w : World) (h : SlP w E cap ps) (hl : ps.length ≤ 1000000) :
    Calls Try.prog 17 #[crv f nx t q E ps.length cap] w (GivesCd w (f, nx, t, q, ps)) := by
  have hM := (Mm.start w).alloc #[.int .i64 f, .int .i64 nx, .int .i64 t, .int .i64 q, .slice E ps.length cap] 46
  have hf5 := fun A k c W => field_m5 0 0 0 0 A k c W dg0
  go_enter Try.func17, Try.ntmps17
  go_upto_region 1 with (fail)
  have hM2 := (hM.allocO (.cells #[.int .i64 0, .int .i64 0, .int .i64 0, .int .i64 0, .slice none 0 0] 50)).drew
  have hD2 := (Blk.newAt (w := w.alloc (.cells #[.int .i64 f, .int .i64 nx, .int .i64 t, .int .i64 q, .slice E ps.length cap] 46)) (g := w.heap.size + 1) (by simp) 50 #[.int .i64 0, .int .i64 0, .int .i64 0, .int .i64 0, .slice none 0 0]).drew
  clear hM
  refine wp_region_held_drew (S := (fun W => Mm w W [(w.heap.size, 46, #[.int .i64 f, .int .i64 nx, .int .i64 t, .int .i64 q, .slice E ps.length cap])] [])) (by kernel_rfl) ?_ (fun hHeld => ?_)
  · exact hM2
  refine gen0 (T := fun W => ((fun W => Mm w W [(w.heap.size, 46, #[.int .i64 f, .int .i64 nx, .int .i64 t, .int .i64 q, .slice E ps.length cap])] [])) W ∧ Blk W (w.heap.size + 1) 50 #[.int .i64 0, .int .i64 0, .int .i64 0, .int .i64 0, .slice none 0 0] ∧ True) ?_ (fun wq1 hT => ?_)
  · exact ⟨by (first | with_reducible exact hM2 | with_reducible exact hHeld | with_reducible exact hHeld.call hb9 | with_reducible exact hHeld.off (wr5 _ _ _ _ _ _ _) (by simp) (by omega)), by (first | with_reducible assumption | with_reducible exact hD2 | with_reducible exact Blk.below (by with_reducible assumption) hb9 | exact Blk.set5 f0 _ _ _ _ _ | with_reducible exact Own.more ho9 (by have := Blk.lt f0; omega) | with_reducible exact Own.set5 f1 (by omega) _ _ _ _ _), trivial⟩
  (try clear f0 f1 f2 f3 f4 f5 f6 f7 f8 f9 f10 f11)
  obtain ⟨hHeld, f0, -⟩ := hT
  refine wpAnyH_take (i := 0) (oi := ⟨some 3, _, _, _, _, _⟩) (v := ?_) rfl (by kernel_rfl) (by kernel_rfl) (by kernel_rfl) (fun _ _ _ h => h) (Or.inl ⟨by kernel_rfl, ?_⟩) (by assumption) ?_
  rotate_left
  · (intro wS hSw; (try dsimp only at hSw); obtain ⟨q0, q1, q2, q3, q4, -⟩ := Blk.five hSw.b0; clear hSw; go_simp; (try with_reducible rfl))
  (try simp only [Act.put, List.setIfInBounds_toArray, List.set_cons_zero, List.set_cons_succ])
  refine wpAnyH_take (i := 1) (oi := ⟨some 4, _, _, _, _, _⟩) (v := ?_) rfl (by kernel_rfl) (by kernel_rfl) (by kernel_rfl) (fun _ _ _ h => h) (Or.inl ⟨by kernel_rfl, ?_⟩) (by assumption) ?_
  rotate_left
  · (intro wS hSw; (try dsimp only at hSw); obtain ⟨q0, q1, q2, q3, q4, -⟩ := Blk.five hSw.b0; clear hSw; go_simp; (try with_reducible rfl))
  (try simp only [Act.put, List.setIfInBounds_toArray, List.set_cons_zero, List.set_cons_succ])
  refine wpAnyH_take (i := 2) (oi := ⟨some 5, _, _, _, _, _⟩) (v := ?_) rfl (by kernel_rfl) (by kernel_rfl) (by kernel_rfl) (fun _ _ _ h => h) (Or.inl ⟨by kernel_rfl, ?_⟩) (by assumption) ?_
  rotate_left
  · (intro wS hSw; (try dsimp only at hSw); obtain ⟨q0, q1, q2, q3, q4, -⟩ := Blk.five hSw.b0; clear hSw; go_simp; (try with_reducible rfl))
  (try simp only [Act.put, List.setIfInBounds_toArray, List.set_cons_zero, List.set_cons_succ])
  refine wpAnyH_take (i := 3) (oi := ⟨some 6, _, _, _, _, _⟩) (v := ?_) rfl (by kernel_rfl) (by kernel_rfl) (by kernel_rfl) (fun _ _ _ h => h) (Or.inl ⟨by kernel_rfl, ?_⟩) (by assumption) ?_
  rotate_left
  · (intro wS hSw; (try dsimp only at hSw); obtain ⟨q0, q1, q2, q3, q4, -⟩ := Blk.five hSw.b0; clear hSw; go_simp; (try with_reducible rfl))
  (try simp only [Act.put, List.setIfInBounds_toArray, List.set_cons_zero, List.set_cons_succ])
  refine wpAnyH_take (i := 4) (oi := ⟨some 7, _, _, _, _, _⟩) (v := ?_) rfl (by kernel_rfl) (by kernel_rfl) (by kernel_rfl) (fun _ _ _ h => h) (Or.inl ⟨by kernel_rfl, ?_⟩) (by assumption) ?_
  rotate_left
  · (intro wS hSw; (try dsimp only at hSw); obtain ⟨q0, q1, q2, q3, q4, -⟩ := Blk.five hSw.b0; clear hSw; go_simp; (try with_reducible rfl))
  (try simp only [Act.put, List.setIfInBounds_toArray, List.set_cons_zero, List.set_cons_succ])
  refine wpAnyH_take (i := 5) (oi := ⟨some 8, _, _, _, _, _⟩) (v := ?_) rfl (by kernel_rfl) (by kernel_rfl) (by kernel_rfl) (fun _ _ _ h => h) (Or.inl ⟨by kernel_rfl, ?_⟩) (by assumption) ?_
  rotate_left
  · (intro wS hSw; (try dsimp only at hSw); obtain ⟨q0, q1, q2, q3, q4, -⟩ := Blk.five hSw.b0; clear hSw; go_simp; (try with_reducible rfl))
  (try simp only [Act.put, List.setIfInBounds_toArray, List.set_cons_zero, List.set_cons_succ])
  refine wpAnyH_take (i := 6) (oi := ⟨some 9, _, _, _, _, _⟩) (v := ?_) rfl (by kernel_rfl) (by kernel_rfl) (by kernel_rfl) (fun _ _ _ h => h) (Or.inl ⟨by kernel_rfl, ?_⟩) (by assumption) ?_
  rotate_left
  · (intro wS hSw; (try dsimp only at hSw); obtain ⟨q0, q1, q2, q3, q4, -⟩ := Blk.five hSw.b0; clear hSw; go_simp; (try with_reducible rfl))
  (try simp only [Act.put, List.setIfInBounds_toArray, List.set_cons_zero, List.set_cons_succ])
  refine wpAnyH_take (i := 7) (oi := ⟨some 10, _, _, _, _, _⟩) (v := ?_) rfl (by kernel_rfl) (by kernel_rfl) (by kernel_rfl) (fun _ _ _ h => h) (Or.inl ⟨by kernel_rfl, ?_⟩) (by assumption) ?_
  rotate_left
  · (intro wS hSw; (try dsimp only at hSw); obtain ⟨q0, q1, q2, q3, q4, -⟩ := Blk.five hSw.b0; clear hSw; go_simp; (try with_reducible rfl))
  (try simp only [Act.put, List.setIfInBounds_toArray, List.set_cons_zero, List.set_cons_succ])
  refine wpAnyH_take (i := 8) (oi := ⟨some 11, _, _, _, _, _⟩) (v := ?_) rfl (by kernel_rfl) (by kernel_rfl) (by kernel_rfl) (fun _ _ _ h => h) (Or.inl ⟨by kernel_rfl, ?_⟩) (by assumption) ?_
  rotate_left
  · (intro wS hSw; (try dsimp only at hSw); obtain ⟨q0, q1, q2, q3, q4, -⟩ := Blk.five hSw.b0; clear hSw; go_simp; (try with_reducible rfl))
  (try simp only [Act.put, List.setIfInBounds_toArray, List.set_cons_zero, List.set_cons_succ])
  refine wpAnyH_take (i := 9) (oi := ⟨some 12, _, _, _, _, _⟩) (v := ?_) rfl (by kernel_rfl) (by kernel_rfl) (by kernel_rfl) (fun _ _ _ h => h) (Or.inl ⟨by kernel_rfl, ?_⟩) (by assumption) ?_
  rotate_left
  · (intro wS hSw; (try dsimp only at hSw); obtain ⟨q0, q1, q2, q3, q4, -⟩ := Blk.five hSw.b0; clear hSw; go_simp; (try with_reducible rfl))
  (try simp only [Act.put, List.setIfInBounds_toArray, List.set_cons_zero, List.set_cons_succ])
  refine wpAnyH_ready (rs := [10]) (by kernel_rfl) (by simp) ?_
  refine AllReadyH.cons (o := ⟨some 13, _, _, _, _, _⟩) rfl (fun K hK => ?_) AllReadyH.nil
  (first | (refine step_buildM5 (by kernel_rfl) _ rfl (A := E) (k := ps.length) (c := cap) rfl ?_) | go_simp)
  refine hK.out _ _ ?_ (fun _ => ?_)
  · ((try dsimp only); (first | with_reducible exact hM2 | with_reducible exact hHeld | with_reducible exact hHeld.call hb9 | with_reducible exact hHeld.off (wr5 _ _ _ _ _ _ _) (by simp) (by omega)))
  clear hK K
  (try simp only [Act.put, List.setIfInBounds_toArray, List.set_cons_zero, List.set_cons_succ])
  refine gen0 (T := fun W => ((fun W => Mm w W [(w.heap.size, 46, #[.int .i64 f, .int .i64 nx, .int .i64 t, .int .i64 q, .slice E ps.length cap])] [])) W ∧ Blk W (w.heap.size + 1) 50 #[.int .i64 0, .int .i64 0, .int .i64 0, .int .i64 0, .slice none 0 0] ∧ True) ?_ (fun wq2 hT => ?_)
  · exact ⟨by (first | with_reducible exact hM2 | with_reducible exact hHeld | with_reducible exact hHeld.call hb9 | with_reducible exact hHeld.off (wr5 _ _ _ _ _ _ _) (by simp) (by omega)), by (first | with_reducible assumption | with_reducible exact hD2 | with_reducible exact Blk.below (by with_reducible assumption) hb9 | exact Blk.set5 f0 _ _ _ _ _ | with_reducible exact Own.more ho9 (by have := Blk.lt f0; omega) | with_reducible exact Own.set5 f1 (by omega) _ _ _ _ _), trivial⟩
  (try clear f0 f1 f2 f3 f4 f5 f6 f7 f8 f9 f10 f11)
  obtain ⟨hHeld, f0, -⟩ := hT
  refine wpAnyH_ready (rs := [11]) (by kernel_rfl) (by simp) ?_
  refine AllReadyH.cons (o := ⟨some 14, _, _, _, _, _⟩) rfl (fun K hK => ?_) AllReadyH.nil
  go_simp
  (refine (Doc15_any 0 0 0 0 dg0 ps _ (h.below hHeld.bel) hl).mono ?_; rintro e w9 ⟨A9, c9, m9, rfl, hm9, ho9, hb9⟩)
  go_wp2_with fail
  refine hK.out _ _ ?_ (fun _ => ?_)
  · ((try dsimp only); (first | with_reducible exact hM2 | with_reducible exact hHeld | with_reducible exact hHeld.call hb9 | with_reducible exact hHeld.off (wr5 _ _ _ _ _ _ _) (by simp) (by omega)))
  clear hK K
  (try simp only [Act.put, List.setIfInBounds_toArray, List.set_cons_zero, List.set_cons_succ])
  refine gen0 (T := fun W => ((fun W => Mm w W [(w.heap.size, 46, #[.int .i64 f, .int .i64 nx, .int .i64 t, .int .i64 q, .slice E ps.length cap])] [])) W ∧ Blk W (w.heap.size + 1) 50 #[.int .i64 0, .int .i64 0, .int .i64 0, .int .i64 0, .slice none 0 0] ∧ OwnR W (w.heap.size + 2) A9 c9 m9 ∧ True) ?_ (fun wq3 hT => ?_)
  · exact ⟨by (first | with_reducible exact hM2 | with_reducible exact hHeld | with_reducible exact hHeld.call hb9 | with_reducible exact hHeld.off (wr5 _ _ _ _ _ _ _) (by simp) (by omega)), by (first | with_reducible assumption | with_reducible exact hD2 | with_reducible exact Blk.below (by with_reducible assumption) hb9 | exact Blk.set5 f0 _ _ _ _ _ | with_reducible exact Own.more ho9 (by have := Blk.lt f0; omega) | with_reducible exact Own.set5 f1 (by omega) _ _ _ _ _), by (first | with_reducible assumption | with_reducible exact hD2 | with_reducible exact Blk.below (by with_reducible assumption) hb9 | exact Blk.set5 f0 _ _ _ _ _ | with_reducible exact Own.more ho9 (by have := Blk.lt f0; omega) | with_reducible exact Own.set5 f1 (by omega) _ _ _ _ _), trivial⟩
  (try clear f0 f1 f2 f3 f4 f5 f6 f7 f8 f9 f10 f11)
  obtain ⟨hHeld, f0, f1, -⟩ := hT
  refine wpAnyH_take (i := 12) (oi := ⟨some 15, _, _, _, _, _⟩) (v := ?_) rfl (by kernel_rfl) (by kernel_rfl) (by kernel_rfl) (fun _ _ _ h => h) (Or.inl ⟨by kernel_rfl, ?_⟩) (by assumption) ?_
  rotate_left
  · (intro wS hSw; (try dsimp only at hSw); obtain ⟨q0, q1, q2, q3, q4, -⟩ := Blk.five hSw.b0; clear hSw; go_simp; (try with_reducible rfl))
  (try simp only [Act.put, List.setIfInBounds_toArray, List.set_cons_zero, List.set_cons_succ])
  refine wpAnyH_take (i := 13) (oi := ⟨some 16, _, _, _, _, _⟩) (v := ?_) rfl (by kernel_rfl) (by kernel_rfl) (by kernel_rfl) (fun _ _ _ h => h) (Or.inl ⟨by kernel_rfl, ?_⟩) (by assumption) ?_
  rotate_left
  · (intro wS hSw; (try dsimp only at hSw); obtain ⟨q0, q1, q2, q3, q4, -⟩ := Blk.five hSw.b0; clear hSw; go_simp; (try with_reducible rfl))
  (try simp only [Act.put, List.setIfInBounds_toArray, List.set_cons_zero, List.set_cons_succ])
  refine wpAnyH_ready (rs := [14]) (by kernel_rfl) (by simp) ?_
  refine AllReadyH.cons (o := ⟨none, _, _, _, _, _⟩) rfl (fun K hK => ?_) AllReadyH.nil
  obtain ⟨s0, s1, s2, s3, s4, sf0, sf1, sf2, sf3, sf4⟩ := f0.five
  (first | (refine step_buildM5 (by kernel_rfl) _ rfl (A := E) (k := ps.length) (c := cap) rfl ?_) | go_simp)
  refine hK.out _ _ ?_ (fun _ => ?_)
  · ((try dsimp only); (first | with_reducible exact hM2 | with_reducible exact hHeld | with_reducible exact hHeld.call hb9 | with_reducible exact hHeld.off (wr5 _ _ _ _ _ _ _) (by simp) (by omega)))
  clear hK K
  (try simp only [Act.put, List.setIfInBounds_toArray, List.set_cons_zero, List.set_cons_succ])
  refine gen0 (T := fun W => ((fun W => Mm w W [(w.heap.size, 46, #[.int .i64 f, .int .i64 nx, .int .i64 t, .int .i64 q, .slice E ps.length cap])] [])) W ∧ OwnR W (w.heap.size + 2) A9 c9 m9 ∧ Blk W (w.heap.size + 1) 50 #[.int .i64 f, .int .i64 nx, .int .i64 t, .int .i64 q, .slice A9 m9.length c9] ∧ True) ?_ (fun wq4 hT => ?_)
  · exact ⟨by (first | with_reducible exact hM2 | with_reducible exact hHeld | with_reducible exact hHeld.call hb9 | with_reducible exact hHeld.off (wr5 _ _ _ _ _ _ _) (by simp) (by omega)), by (first | with_reducible assumption | with_reducible exact hD2 | with_reducible exact Blk.below (by with_reducible assumption) hb9 | exact Blk.set5 f0 _ _ _ _ _ | with_reducible exact Own.more ho9 (by have := Blk.lt f0; omega) | with_reducible exact Own.set5 f1 (by omega) _ _ _ _ _), by (first | with_reducible assumption | with_reducible exact hD2 | with_reducible exact Blk.below (by with_reducible assumption) hb9 | exact Blk.set5 f0 _ _ _ _ _ | with_reducible exact Own.more ho9 (by have := Blk.lt f0; omega) | with_reducible exact Own.set5 f1 (by omega) _ _ _ _ _), trivial⟩
  (try clear f0 f1 f2 f3 f4 f5 f6 f7 f8 f9 f10 f11)
  obtain ⟨hHeld, f0, f1, -⟩ := hT
  refine wpAnyH_done (by kernel_rfl) ?_ _
  go_wp2_with fail
  exact bodyPost_ret (res_rc1 rfl rfl (g := w.heap.size + 1) (by with_reducible assumption)) rfl ⟨A9, c9, m9, rfl, hm9, Own.more (base := w.heap.size + 2) (by with_reducible assumption) (by omega), hHeld.bel⟩
end Go.Proofs.Ytgfigkenpmmdeaa

namespace Go.Proofs.Ytgfigkenpmmdeaa
open Go.RowKit
attribute [local go_sem ↓] Go.wp_at_zero Go.wp_at_succ

set_option maxRecDepth 100000 in
set_option maxHeartbeats 1000000 in
theorem rCSame_true {E G : Option Addr} {cap cap2 : Nat} (f nx t q : Int) (ps qs : List Pt5) (w : World) (h : SlP w E cap ps) (h2 : SlP w G cap2 qs) (he : qs = ps) :
    Calls Try.prog 16 #[crv f nx t q E ps.length cap, crv f nx t q G qs.length cap2] w fun e w' => e = .returned (.bool true) ∧ Below w.heap.size w w' := by
  subst he
  have hM := ((Mm.start w).alloc #[.int .i64 f, .int .i64 nx, .int .i64 t, .int .i64 q, .slice E qs.length cap] 50).alloc #[.int .i64 f, .int .i64 nx, .int .i64 t, .int .i64 q, .slice G qs.length cap2] 50
  rw [show (w.alloc (.cells #[.int .i64 f, .int .i64 nx, .int .i64 t, .int .i64 q, .slice E qs.length cap] 50)).heap.size = w.heap.size + 1 from by simp] at hM
  have hmax := h.len_le
  unfold maxLen at hmax
  go_enter Try.func16, Try.ntmps16
  go_upto_region 1 with (fail)
  refine gen1 (T := fun W => Mm w W [(w.heap.size + 1, 50, #[.int .i64 f, .int .i64 nx, .int .i64 t, .int .i64 q, .slice G qs.length cap2]), (w.heap.size, 50, #[.int .i64 f, .int .i64 nx, .int .i64 t, .int .i64 q, .slice E qs.length cap])] []) hM (fun w1 hM => ?_)
  obtain ⟨a0, a1, a2, a3, a4, -⟩ := Blk.five hM.b1
  obtain ⟨c0, c1, c2, c3, c4, -⟩ := Blk.five hM.b0
  go_wp2_with fail
  go_loopw [5] (fun x wr => ∃ k : Nat, k ≤ qs.length ∧ x = .int .i64 (k : Nat) ∧ Mm w wr [(w.heap.size + 1, 50, #[.int .i64 f, .int .i64 nx, .int .i64 t, .int .i64 q, .slice G qs.length cap2]), (w.heap.size, 50, #[.int .i64 f, .int .i64 nx, .int .i64 t, .int .i64 q, .slice E qs.length cap])] []) (fun x wr => qs.length - (intOf x).toNat)
  case atStart => exact ⟨0, Nat.zero_le _, rfl, hM⟩
  case round =>
    obtain ⟨k, hk, rfl, hMr⟩ := hrel
    clear hM a0 a1 a2 a3 a4 c0 c1 c2 c3 c4
    obtain ⟨a0, a1, a2, a3, a4, -⟩ := Blk.five hMr.b1
    obtain ⟨c0, c1, c2, c3, c4, -⟩ := Blk.five hMr.b0
    rcases Nat.lt_or_ge k qs.length with hlt | hge
    · have hkI : (k : Int) < (qs.length : Int) := by omega
      have hk0 : 0 ≤ (k : Int) := by omega
      obtain ⟨ad, b, o, rfl, had, hcc⟩ := (h.below hMr.bel).at hlt
      obtain ⟨ad2, b2, o2, rfl, had2, hdd⟩ := (h2.below hMr.bel).at hlt
      generalize qs[k] = p at *
      have hnn := neq_ptR p p
      rw [show (!decide (p = p)) = false from by simp] at hnn
      have HC1 := Lib.hid (fun W (hW : Below wr.heap.size wr W) => cells_below hcc hW)
      have HC2 := Lib.hid (fun W (hW : Below wr.heap.size wr W) => cells_below hdd hW)
      clear hcc hdd
      go_upto_region 6 with (fail)
      have hst : Mm w wr.drew [(w.heap.size + 1, 50, #[.int .i64 f, .int .i64 nx, .int .i64 t, .int .i64 q, .slice (some ad2) qs.length cap2]), (w.heap.size, 50, #[.int .i64 f, .int .i64 nx, .int .i64 t, .int .i64 q, .slice (some ad) qs.length cap])] [] ∧ Below wr.heap.size wr wr.drew := ⟨hMr.drew, (Below.refl _ _).drew⟩
      clear hMr a0 a1 a2 a3 a4 c0 c1 c2 c3 c4
      go_cut [58] (fun s58 wz => s58 = .bool false ∧ Mm w wz [(w.heap.size + 1, 50, #[.int .i64 f, .int .i64 nx, .int .i64 t, .int .i64 q, .slice (some ad2) qs.length cap2]), (w.heap.size, 50, #[.int .i64 f, .int .i64 nx, .int .i64 t, .int .i64 q, .slice (some ad) qs.length cap])] [])
      case first =>
        refine wp_region_held_drew (S := (fun W => Mm w W [(w.heap.size + 1, 50, #[.int .i64 f, .int .i64 nx, .int .i64 t, .int .i64 q, .slice (some ad2) qs.length cap2]), (w.heap.size, 50, #[.int .i64 f, .int .i64 nx, .int .i64 t, .int .i64 q, .slice (some ad) qs.length cap])] [] ∧ Below wr.heap.size wr W)) (by kernel_rfl) ?_ (fun hHeld => ?_)
        · first | exact hst | exact hHeld
        refine wpAnyH_take (i := 0) (oi := ⟨some 48, _, _, _, _, _⟩) (v := ?_) rfl (by kernel_rfl) (by kernel_rfl) (by kernel_rfl) (fun _ _ _ h => h) (Or.inl ⟨by kernel_rfl, ?_⟩) (by assumption) ?_
        rotate_left
        · (intro wS hSw; (try dsimp only at hSw); obtain ⟨a0, a1, a2, a3, a4, -⟩ := Blk.five hSw.1.b1; obtain ⟨c0, c1, c2, c3, c4, -⟩ := Blk.five hSw.1.b0; clear hSw; go_simp; (try with_reducible rfl))
        (try simp only [Act.put, List.setIfInBounds_toArray, List.set_cons_zero, List.set_cons_succ])
        refine wpAnyH_take (i := 1) (oi := ⟨some 49, _, _, _, _, _⟩) (v := ?_) rfl (by kernel_rfl) (by kernel_rfl) (by kernel_rfl) (fun _ _ _ h => h) (Or.inl ⟨by kernel_rfl, ?_⟩) (by assumption) ?_
        rotate_left
        · (intro wS hSw; (try dsimp only at hSw); obtain ⟨a0, a1, a2, a3, a4, -⟩ := Blk.five hSw.1.b1; obtain ⟨c0, c1, c2, c3, c4, -⟩ := Blk.five hSw.1.b0; clear hSw; go_simp; (try with_reducible rfl))
        (try simp only [Act.put, List.setIfInBounds_toArray, List.set_cons_zero, List.set_cons_succ])
        refine wpAnyH_take (i := 2) (oi := ⟨some 50, _, _, _, _, _⟩) (v := ?_) rfl (by kernel_rfl) (by kernel_rfl) (by kernel_rfl) (fun _ _ _ h => h) (Or.inl ⟨by kernel_rfl, ?_⟩) (by assumption) ?_
        rotate_left
        · (intro wS hSw; (try dsimp only at hSw); obtain ⟨a0, a1, a2, a3, a4, -⟩ := Blk.five hSw.1.b1; obtain ⟨c0, c1, c2, c3, c4, -⟩ := Blk.five hSw.1.b0; clear hSw; go_simp; (try with_reducible rfl))
        (try simp only [Act.put, List.setIfInBounds_toArray, List.set_cons_zero, List.set_cons_succ])
        refine wpAnyH_take (i := 3) (oi := ⟨some 51, _, _, _, _, _⟩) (v := ?_) rfl (by kernel_rfl) (by kernel_rfl) (by kernel_rfl) (fun _ _ _ h => h) (Or.inl ⟨by kernel_rfl, ?_⟩) (by assumption) ?_
        rotate_left
        · (intro wS hSw; (try dsimp only at hSw); obtain ⟨a0, a1, a2, a3, a4, -⟩ := Blk.five hSw.1.b1; obtain ⟨c0, c1, c2, c3, c4, -⟩ := Blk.five hSw.1.b0; clear hSw; go_simp; (try with_reducible rfl))
        (try simp only [Act.put, List.setIfInBounds_toArray, List.set_cons_zero, List.set_cons_succ])
        refine wpAnyH_take (i := 5) (oi := ⟨some 53, _, _, _, _, _⟩) (v := ?_) rfl (by kernel_rfl) (by kernel_rfl) (by kernel_rfl) (fun _ _ _ h => h) (Or.inl ⟨by kernel_rfl, ?_⟩) (by assumption) ?_
        rotate_left
        · (intro wS hSw; (try dsimp only at hSw); obtain ⟨a0, a1, a2, a3, a4, -⟩ := Blk.five hSw.1.b1; obtain ⟨c0, c1, c2, c3, c4, -⟩ := Blk.five hSw.1.b0; clear hSw; go_simp; (try with_reducible rfl))
        (try simp only [Act.put, List.setIfInBounds_toArray, List.set_cons_zero, List.set_cons_succ])
        refine wpAnyH_take (i := 6) (oi := ⟨some 54, _, _, _, _, _⟩) (v := ?_) rfl (by kernel_rfl) (by kernel_rfl) (by kernel_rfl) (fun _ _ _ h => h) (Or.inl ⟨by kernel_rfl, ?_⟩) (by assumption) ?_
        rotate_left
        · (intro wS hSw; (try dsimp only at hSw); obtain ⟨a0, a1, a2, a3, a4, -⟩ := Blk.five hSw.1.b1; obtain ⟨c0, c1, c2, c3, c4, -⟩ := Blk.five hSw.1.b0; clear hSw; go_simp; (try with_reducible rfl))
        (try simp only [Act.put, List.setIfInBounds_toArray, List.set_cons_zero, List.set_cons_succ])
        refine wpAnyH_take (i := 7) (oi := ⟨some 55, _, _, _, _, _⟩) (v := ?_) rfl (by kernel_rfl) (by kernel_rfl) (by kernel_rfl) (fun _ _ _ h => h) (Or.inl ⟨by kernel_rfl, ?_⟩) (by assumption) ?_
        rotate_left
        · (intro wS hSw; (try dsimp only at hSw); obtain ⟨a0, a1, a2, a3, a4, -⟩ := Blk.five hSw.1.b1; obtain ⟨c0, c1, c2, c3, c4, -⟩ := Blk.five hSw.1.b0; clear hSw; go_simp; (try with_reducible rfl))
        (try simp only [Act.put, List.setIfInBounds_toArray, List.set_cons_zero, List.set_cons_succ])
        refine wpAnyH_take (i := 8) (oi := ⟨some 56, _, _, _, _, _⟩) (v := ?_) rfl (by kernel_rfl) (by kernel_rfl) (by kernel_rfl) (fun _ _ _ h => h) (Or.inl ⟨by kernel_rfl, ?_⟩) (by assumption) ?_
        rotate_left
        · (intro wS hSw; (try dsimp only at hSw); obtain ⟨a0, a1, a2, a3, a4, -⟩ := Blk.five hSw.1.b1; obtain ⟨c0, c1, c2, c3, c4, -⟩ := Blk.five hSw.1.b0; clear hSw; go_simp; (try with_reducible rfl))
        (try simp only [Act.put, List.setIfInBounds_toArray, List.set_cons_zero, List.set_cons_succ])
        refine wpAnyH_ready (rs := [4, 9]) (by kernel_rfl) (by simp) ?_
        refine AllReadyH.cons (o := ⟨some 52, _, _, _, _, _⟩) rfl (fun K hK => ?_) ?_
        · (first | (refine step_loadR (by kernel_rfl) _ rfl ⟨b, o, none⟩ p rfl (HC1.out _ hHeld.2) ?_) | (refine step_loadR (by kernel_rfl) _ rfl ⟨b2, o2, none⟩ p rfl (HC2.out _ hHeld.2) ?_))
          refine hK.out _ _ ?_ (fun hHeld => ?_)
          · ((try dsimp only); (first | exact hst | exact hHeld))
          clear hK K
          (try simp only [Act.put, List.setIfInBounds_toArray, List.set_cons_zero, List.set_cons_succ])
          refine wpAnyH_ready (rs := [9]) (by kernel_rfl) (by simp) ?_
          refine AllReadyH.cons (o := ⟨some 57, _, _, _, _, _⟩) rfl (fun K hK => ?_) AllReadyH.nil
          (first | (refine step_loadR (by kernel_rfl) _ rfl ⟨b, o, none⟩ p rfl (HC1.out _ hHeld.2) ?_) | (refine step_loadR (by kernel_rfl) _ rfl ⟨b2, o2, none⟩ p rfl (HC2.out _ hHeld.2) ?_))
          refine hK.out _ _ ?_ (fun hHeld => ?_)
          · ((try dsimp only); (first | exact hst | exact hHeld))
          clear hK K
          (try simp only [Act.put, List.setIfInBounds_toArray, List.set_cons_zero, List.set_cons_succ])
          refine wpAnyH_take (i := 10) (oi := ⟨some 58, _, _, _, _, _⟩) (v := ?_) rfl (by kernel_rfl) (by kernel_rfl) (by kernel_rfl) (fun _ _ _ h => h) (Or.inl ⟨by kernel_rfl, ?_⟩) (by assumption) ?_
          rotate_left
          · (intro wS hSw; (try dsimp only at hSw); obtain ⟨a0, a1, a2, a3, a4, -⟩ := Blk.five hSw.1.b1; obtain ⟨c0, c1, c2, c3, c4, -⟩ := Blk.five hSw.1.b0; clear hSw; go_simp; (try with_reducible rfl))
          (try simp only [Act.put, List.setIfInBounds_toArray, List.set_cons_zero, List.set_cons_succ])
          refine wpAnyH_done (by kernel_rfl) ?_ _
          (go_wp2_with fail; go_meet; exact ⟨rfl, hHeld.1⟩)
        refine AllReadyH.cons (o := ⟨some 57, _, _, _, _, _⟩) rfl (fun K hK => ?_) ?_
        · (first | (refine step_loadR (by kernel_rfl) _ rfl ⟨b, o, none⟩ p rfl (HC1.out _ hHeld.2) ?_) | (refine step_loadR (by kernel_rfl) _ rfl ⟨b2, o2, none⟩ p rfl (HC2.out _ hHeld.2) ?_))
          refine hK.out _ _ ?_ (fun hHeld => ?_)
          · ((try dsimp only); (first | exact hst | exact hHeld))
          clear hK K
          (try simp only [Act.put, List.setIfInBounds_toArray, List.set_cons_zero, List.set_cons_succ])
          refine wpAnyH_ready (rs := [4]) (by kernel_rfl) (by simp) ?_
          refine AllReadyH.cons (o := ⟨some 52, _, _, _, _, _⟩) rfl (fun K hK => ?_) AllReadyH.nil
          (first | (refine step_loadR (by kernel_rfl) _ rfl ⟨b, o, none⟩ p rfl (HC1.out _ hHeld.2) ?_) | (refine step_loadR (by kernel_rfl) _ rfl ⟨b2, o2, none⟩ p rfl (HC2.out _ hHeld.2) ?_))
          refine hK.out _ _ ?_ (fun hHeld => ?_)
          · ((try dsimp only); (first | exact hst | exact hHeld))
          clear hK K
          (try simp only [Act.put, List.setIfInBounds_toArray, List.set_cons_zero, List.set_cons_succ])
          refine wpAnyH_take (i := 10) (oi := ⟨some 58, _, _, _, _, _⟩) (v := ?_) rfl (by kernel_rfl) (by kernel_rfl) (by kernel_rfl) (fun _ _ _ h => h) (Or.inl ⟨by kernel_rfl, ?_⟩) (by assumption) ?_
          rotate_left
          · (intro wS hSw; (try dsimp only at hSw); obtain ⟨a0, a1, a2, a3, a4, -⟩ := Blk.five hSw.1.b1; obtain ⟨c0, c1, c2, c3, c4, -⟩ := Blk.five hSw.1.b0; clear hSw; go_simp; (try with_reducible rfl))
          (try simp only [Act.put, List.setIfInBounds_toArray, List.set_cons_zero, List.set_cons_succ])
          refine wpAnyH_done (by kernel_rfl) ?_ _
          (go_wp2_with fail; go_meet; exact ⟨rfl, hHeld.1⟩)
        exact AllReadyH.nil
      case rest =>
        obtain ⟨rfl, hM5⟩ := hcut
        go_wp2_with fail
        go_roundw
        case rel => exact ⟨k + 1, hlt, by go_num, hM5⟩
        case measure => simp [intOf]; omega
    · go_wp2_with fail
      go_ret
      exact ⟨rfl, hMr.bel⟩
end Go.Proofs.Ytgfigkenpmmdeaa
