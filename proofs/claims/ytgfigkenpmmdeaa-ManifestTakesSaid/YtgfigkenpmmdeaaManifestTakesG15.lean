/- WHAT IT HOLDS: which manifests there are, by the document, walked. | WHAT IT HOLDS: digests and parts out of a reader, as package manifest takes them, walked; a store into the midst of a block. -/
import Derived.Test.YtgfigkenpmmdeaaManifestTakesG14
namespace Go.Proofs.Ytgfigkenpmmdeaa
open Go.RowKit
attribute [local go_sem ↓] Go.wp_at_zero Go.wp_at_succ

theorem Bl3 {w : World} {g : Nat} {T : TypeId} {p : Pt5} (h : Blk w g T (pta p)) : w.cell? ⟨g, 0, none⟩ = some (.int .i64 p.1) ∧ w.cell? ⟨g, 1, none⟩ = some (.int .i64 p.2.1) ∧ w.cell? ⟨g, 2, none⟩ = some (.int .i64 p.2.2.1) :=
  ⟨(h.cell 0).trans rfl, (h.cell 1).trans rfl, (h.cell 2).trans rfl⟩
theorem rrg_bad {n f t r : Int} {d : Dg} {ps : List Pt5} {k : Nat} {x : Int} (hk : [f, t, r][k]? = some x) (h : x < 0 ∨ 1048576 < x) : mchk (n, f, t, r, d, ps) = 1 := by
  refine mchk_range ?_
  have hx : inb x 1048576 = false := by
    rw [Bool.eq_false_iff]
    intro hh
    have := inb_iff.1 hh
    omega
  dsimp only
  match k, hk with
  | 0, hk => injection hk with hk; subst hk; exact .inr (.inl hx)
  | 1, hk => injection hk with hk; subst hk; exact .inr (.inr (.inl hx))
  | 2, hk => injection hk with hk; subst hk; exact .inr (.inr (.inr hx))
theorem inb_of {x m : Int} (h : ¬ x < 0) (h2 : ¬ m < x) : inb x m = true := inb_iff.2 ⟨by omega, by omega⟩
theorem inb_not {x m : Int} (h : x < 0 ∨ m < x) : inb x m = false := by
  rw [Bool.eq_false_iff]
  intro hh
  have := inb_iff.1 hh
  omega
set_option maxRecDepth 100000 in
theorem built_dgz : Try.prog.built 33 [] = some (dga dg0) := by kernel_rfl
theorem wpl_buildDz {w : World} {ops : Array Oper} {rest : List Oper} {o : Oper} {a : Act} {Q : Exit → Act → World → Prop} (hgd : Region.wanted o (yielded ops a.tmps) = true) (ho : o.op = .build 33 #[])
    (h : wpList Try.prog ops Q rest (a.put o.dst (.agg (dga dg0))) w) : wpList Try.prog ops Q (o :: rest) a w :=
  wpList_step fun _ hK => by
    rw [if_pos hgd]
    have hl : ((#[] : Array (Nat × Operand)).map fun (i, x) => (i, a.eval x)).toList = [] := by simp
    refine wp_build 33 #[] ho ?_ ?_
    · rw [hl, built_dgz]; simp
    · rw [hl, built_dgz]; exact hK _ _ h
theorem ptchk_bad {p : Pt5} {a : Int} (h : p.2.1 < 1 ∨ 64 < p.2.1 ∨ p.2.2.1 < 1 ∨ 65536 < p.2.2.1) : ptchk p a = 1 := by unfold ptchk; rw [if_pos h]
theorem ptchk_form {p : Pt5} {a : Int} (h : ¬ (p.2.1 < 1 ∨ 64 < p.2.1 ∨ p.2.2.1 < 1 ∨ 65536 < p.2.2.1)) (h2 : p.1 ≠ a) : ptchk p a = 2 := by unfold ptchk; rw [if_neg h, if_pos h2]
theorem ptchk_fine {p : Pt5} {a : Int} (h : ¬ (p.2.1 < 1 ∨ 64 < p.2.1 ∨ p.2.2.1 < 1 ∨ 65536 < p.2.2.1)) (h2 : p.1 = a) : ptchk p a = 0 := by unfold ptchk; rw [if_neg h, if_neg (by simpa using h2)]
set_option maxRecDepth 100000 in
set_option maxHeartbeats 4000000 in
theorem rMCheck_any {A : Option Addr} {c : Nat} (n f t r : Int) (d : Dg) (ps : List Pt5) (w : World) (h : SlP w A c ps) (hI : PtsI ps) :
    Calls Try.prog 33 #[.agg (mfa n f t r d A ps.length c)] w fun e w' => e = .returned (.int .i64 (mchk (n, f, t, r, d, ps) : Nat)) ∧ Below w.heap.size w w' := by
  have hM := (Mm.start w).alloc (mfa n f t r d A ps.length c) 36
  have hmax := h.len_le
  unfold maxLen at hmax
  obtain ⟨a0, a1, a2, a3, a4⟩ := Blm.five hM.b0
  have hM1 := hM.alloc #[.int .i64 f, .int .i64 t, .int .i64 r] 3
  rw [show (w.alloc (.cells (mfa n f t r d A ps.length c) 36)).heap.size = w.heap.size + 1 from by simp] at hM1
  go_enter Try.func33, Try.ntmps33
  go_upto_region 2 with (fail)
  refine gen1 (T := fun W => Mm w W [(w.heap.size + 1, 3, #[.int .i64 f, .int .i64 t, .int .i64 r]), (w.heap.size, 36, mfa n f t r d A ps.length c)] []) hM1 (fun w1 hM => ?_)
  clear hM1 a0 a1 a2 a3 a4
  obtain ⟨l0, l1, l2, -⟩ := Blk.three hM.b0
  obtain ⟨a0, a1, a2, a3, a4⟩ := Blm.five hM.b1
  go_wp2_with fail
  go_loopw [16] (fun x wr => ∃ k : Nat, k ≤ 3 ∧ x = .int .i64 (k : Nat) ∧ Hid (∀ (i : Nat) (x : Int), i < k → [f, t, r][i]? = some x → inb x 1048576 = true) ∧ wr = w1) (fun x wr => 3 - (intOf x).toNat)
  case atStart => exact ⟨0, by omega, rfl, (show ∀ _ _, _ from fun i x hi => by omega), rfl⟩
  case round =>
    obtain ⟨k, hk, rfl, hall, rfl⟩ := hrel
    rcases Nat.lt_or_ge k 3 with hlt | hge
    · have hkI : (k : Int) < 3 := by omega
      obtain ⟨x, hx, hcx⟩ : ∃ x : Int, [f, t, r][k]? = some x ∧ wr.cell? ⟨w.heap.size + 1, k, none⟩ = some (.int .i64 x) := by
        match k, hlt with
        | 0, _ => exact ⟨f, rfl, l0⟩
        | 1, _ => exact ⟨t, rfl, l1⟩
        | 2, _ => exact ⟨r, rfl, l2⟩
      have HX := Lib.hid hx
      clear hx
      by_cases h1 : x < 0
      · have HC := Lib.hid (rrg_bad (n := n) (d := d) (ps := ps) HX.out (.inl h1))
        go_wp2_with fail
        go_ret
        exact ⟨by rw [HC.out]; rfl, hM.bel⟩
      by_cases h2 : 1048576 < x
      · have HC := Lib.hid (rrg_bad (n := n) (d := d) (ps := ps) HX.out (.inr h2))
        go_wp2_with fail
        go_ret
        exact ⟨by rw [HC.out]; rfl, hM.bel⟩
      have HB := Lib.hid (inb_of h1 h2)
      go_wp2_with fail
      go_roundw
      case rel =>
        refine ⟨k + 1, hlt, by go_num, (show ∀ _ _, _ from fun i y hi hy => ?_), (by first | rfl | trivial)⟩
        rcases Nat.lt_or_ge i k with hik | hik
        · exact hall.out i y hik hy
        · obtain rfl : i = k := by omega
          rw [HX.out] at hy
          injection hy with hy
          subst hy
          exact HB.out
      case measure => simp [intOf]; omega
    · obtain rfl : k = 3 := by omega
      have HB2 := Lib.hid (hall.out 0 f (by omega) rfl)
      have HB3 := Lib.hid (hall.out 1 t (by omega) rfl)
      have HB4 := Lib.hid (hall.out 2 r (by omega) rfl)
      clear hall
      by_cases h1 : n < 0
      · have HC := Lib.hid (mchk_range (m := (n, f, t, r, d, ps)) (.inl (inb_not (.inl h1))))
        go_wp2_with fail
        go_ret
        exact ⟨by rw [HC.out]; rfl, hM.bel⟩
      by_cases h2 : 999999 < n
      · have HC := Lib.hid (mchk_range (m := (n, f, t, r, d, ps)) (.inl (inb_not (.inr h2))))
        go_wp2_with fail
        go_ret
        exact ⟨by rw [HC.out]; rfl, hM.bel⟩
      have HB1 := Lib.hid (inb_of h1 h2)
      by_cases c1 : t < f
      · have HC := Lib.hid (mchk_form (m := (n, f, t, r, d, ps)) HB1.out HB2.out HB3.out HB4.out (.inl c1))
        go_wp2_with fail
        go_ret
        exact ⟨by rw [HC.out]; rfl, hM.bel⟩
      by_cases c2 : n = 0
      · have hn0 : (n == 0) = true := by simpa using c2
        obtain ⟨zb, hzb⟩ : ∃ b, decide (d = dg0) = b := ⟨_, rfl⟩
        have hnq := fun W => neq_dgR d dg0 W
        rw [hzb] at hnq
        have hdg := Lib.hid (Blm.dg hM.b1)
        have hds := Lib.hid (dga_size d)
        have HZB := Lib.hid hzb
        have HN0 := Lib.hid c2
        clear hzb c2
        cases zb with
        | false =>
          have HC := Lib.hid (mchk_form (m := (n, f, t, r, d, ps)) HB1.out HB2.out HB3.out HB4.out (.inr ⟨HN0.out, HZB.out⟩))
          go_wp2_with (first | (refine wpl_loadG (by kernel_rfl) 33 _ rfl ⟨w.heap.size, 4, none⟩ (dga d) rfl hdg.out _ Try.underlying33 rfl (by rw [hds.out]; kernel_rfl) ?_) | (refine wpl_buildDz (by kernel_rfl) rfl ?_))
          go_ret
          exact ⟨by rw [HC.out]; rfl, hM.bel⟩
        | true =>
          have HM := Lib.hid (mchk_rest (m := (n, f, t, r, d, ps)) HB1.out HB2.out HB3.out HB4.out (by dsimp only; omega) (fun _ => HZB.out))
          dsimp only at HM
          clear HN0 HZB
          by_cases hlen : 1024 < ps.length
          · have hlI : (1024 : Int) < (ps.length : Int) := by omega
            have HC := Lib.hid (show mchk (n, f, t, r, d, ps) = 3 from by rw [HM.out, if_pos hlen])
            clear hlen
            go_wp2_with (first | (refine wpl_loadG (by kernel_rfl) 33 _ rfl ⟨w.heap.size, 4, none⟩ (dga d) rfl hdg.out _ Try.underlying33 rfl (by rw [hds.out]; kernel_rfl) ?_) | (refine wpl_buildDz (by kernel_rfl) rfl ?_))
            go_ret
            exact ⟨by rw [HC.out]; rfl, hM.bel⟩
          · have hlI : (ps.length : Int) ≤ 1024 := by omega
            have HM2 := Lib.hid (show mchk (n, f, t, r, d, ps) = pgo t f ps from by rw [HM.out, if_neg hlen])
            have hf2 := inb_iff.1 HB2.out
            obtain ⟨hf0, hf1⟩ := hf2
            clear hlen HM
            go_wp2_with (first | (refine wpl_loadG (by kernel_rfl) 33 _ rfl ⟨w.heap.size, 4, none⟩ (dga d) rfl hdg.out _ Try.underlying33 rfl (by rw [hds.out]; kernel_rfl) ?_) | (refine wpl_buildDz (by kernel_rfl) rfl ?_))
            go_loopw [60, 5] (fun x y wr => ∃ (k : Nat) (a : Int), k ≤ ps.length ∧ x = .int .i64 k ∧ y = .int .i64 a ∧ Hid (pgo t f ps = pgo t a (ps.drop k)) ∧ f ≤ a ∧ a ≤ f + 64 * k ∧ Mm w wr [(w.heap.size, 36, mfa n f t r d A ps.length c)] []) (fun x y w => ps.length - (intOf x).toNat)
            case atStart => exact ⟨0, f, Nat.zero_le _, rfl, rfl, (show _ = _ from by rw [List.drop_zero]), Int.le_refl _, by omega, hM.sub (List.sublist_cons_self _ _)⟩
            case round =>
              obtain ⟨k, a, hk, rfl, rfl, hp, ha0, ha1, hMr⟩ := hrel
              clear hM a0 a1 a2 a3 a4 l0 l1 l2
              by_cases hlt : k < ps.length
              · obtain ⟨ad, b, o, rfl, had, hcc⟩ := (h.below hMr.bel).at hlt
                have hnx := Lib.hid (fun h0 => (pgo_step (z := t) (a := a) hlt h0))
                have hst := Lib.hid (fun h0 => (pgo_stop (z := t) (a := a) hlt h0))
                have hIp := hI _ (List.getElem_mem hlt)
                generalize ps[k] = p at *
                obtain ⟨_, hI1, hI2⟩ := hIp
                have hps := Lib.hid (pta_size p)
                have hpa := Lib.hid (pta_all p)
                have HCC := Lib.hid hcc
                have hMx := hMr.alloc (pta p) 83
                clear hcc
                go_upto_region 17 with (first | (refine wpl_loadG rfl 83 _ rfl ⟨b, o, none⟩ (pta p) rfl HCC.out _ Try.underlying83 rfl (by rw [hps.out]; kernel_rfl) ?_) | (refine wpl_storeN rfl 83 _ _ rfl _ (pta p) 83 rfl rfl (by rw [hps.out]; kernel_rfl) (by rw [hps.out]; rfl) hpa.out ?_))
                obtain ⟨x0, x1, x2⟩ := Bl3 hMx.b0
                clear hps hpa HCC hMr
                by_cases q1 : p.2.1 < 1
                · have HP := Lib.hid (HM2.out.trans (hp.out.trans ((hst.out (by rw [ptchk_bad (.inl q1)]; simp)).trans (ptchk_bad (.inl q1)))))
                  clear hnx hst hp
                  go_wp2_with fail
                  go_ret
                  exact ⟨by rw [HP.out]; rfl, hMx.bel⟩
                by_cases q2 : 64 < p.2.1
                · have HP := Lib.hid (HM2.out.trans (hp.out.trans ((hst.out (by rw [ptchk_bad (.inr (.inl q2))]; simp)).trans (ptchk_bad (.inr (.inl q2))))))
                  clear hnx hst hp
                  go_wp2_with fail
                  go_ret
                  exact ⟨by rw [HP.out]; rfl, hMx.bel⟩
                by_cases q3 : p.2.2.1 < 1
                · have HP := Lib.hid (HM2.out.trans (hp.out.trans ((hst.out (by rw [ptchk_bad (.inr (.inr (.inl q3)))]; simp)).trans (ptchk_bad (.inr (.inr (.inl q3)))))))
                  clear hnx hst hp
                  go_wp2_with fail
                  go_ret
                  exact ⟨by rw [HP.out]; rfl, hMx.bel⟩
                by_cases q4 : 65536 < p.2.2.1
                · have HP := Lib.hid (HM2.out.trans (hp.out.trans ((hst.out (by rw [ptchk_bad (.inr (.inr (.inr q4)))]; simp)).trans (ptchk_bad (.inr (.inr (.inr q4)))))))
                  clear hnx hst hp
                  go_wp2_with fail
                  go_ret
                  exact ⟨by rw [HP.out]; rfl, hMx.bel⟩
                by_cases q5 : p.1 = a
                · have hb : (p.1 != a) = false := by simp [q5]
                  have h0 := ptchk_fine (by omega : ¬ (p.2.1 < 1 ∨ 64 < p.2.1 ∨ p.2.2.1 < 1 ∨ 65536 < p.2.2.1)) q5
                  have HP := Lib.hid (hp.out.trans (hnx.out h0))
                  clear h0 hnx hst hp q5 hI1 hI2
                  have hwa : wrap64 (a + p.2.1) = a + p.2.1 := by simp only [wrap64]; omega
                  have hwa2 : IntKind.i64.wrap (a + p.2.1) = a + p.2.1 := by rw [IntKind.wrap_i64]; omega
                  go_wp2_with fail
                  go_roundw
                  case rel => exact ⟨k + 1, a + p.2.1, hlt, by go_num, rfl, HP, by omega, by omega, hMx.sub (List.sublist_cons_self _ _)⟩
                  case measure => simp [intOf]; omega
                · have hb : (p.1 != a) = true := by simpa using q5
                  have h0 := ptchk_form (by omega : ¬ (p.2.1 < 1 ∨ 64 < p.2.1 ∨ p.2.2.1 < 1 ∨ 65536 < p.2.2.1)) q5
                  have HP := Lib.hid (HM2.out.trans (hp.out.trans ((hst.out (by omega)).trans h0)))
                  clear h0 hnx hst hp q5 hI1 hI2
                  go_wp2_with fail
                  go_ret
                  exact ⟨by rw [HP.out]; rfl, hMx.bel⟩
              · have hkn : ps.drop k = [] := List.drop_eq_nil_of_le (by omega)
                have HP := Lib.hid (show mchk (n, f, t, r, d, ps) = if a ≠ t then 2 else 0 from by rw [HM2.out, hp.out, hkn]; rfl)
                clear hp hkn
                obtain ⟨a0, a1, a2, a3, a4⟩ := Blm.five hMr.b0
                by_cases hat : a = t
                · have hb : (a != t) = false := by simp [hat]
                  have HC := Lib.hid (show mchk (n, f, t, r, d, ps) = 0 from by rw [HP.out, if_neg (by simp [hat])])
                  clear HP hat
                  go_wp2_with fail
                  go_ret
                  exact ⟨by rw [HC.out]; rfl, hMr.bel⟩
                · have hb : (a != t) = true := by simpa using hat
                  have HC := Lib.hid (show mchk (n, f, t, r, d, ps) = 2 from by rw [HP.out, if_pos hat])
                  clear HP hat
                  go_wp2_with fail
                  go_ret
                  exact ⟨by rw [HC.out]; rfl, hMr.bel⟩
      · have hn0 : (n == 0) = false := by simpa using c2
        have HM := Lib.hid (mchk_rest (m := (n, f, t, r, d, ps)) HB1.out HB2.out HB3.out HB4.out (by dsimp only; omega) (fun h0 => absurd h0 c2))
        dsimp only at HM
        clear c2
        by_cases hlen : 1024 < ps.length
        · have hlI : (1024 : Int) < (ps.length : Int) := by omega
          have HC := Lib.hid (show mchk (n, f, t, r, d, ps) = 3 from by rw [HM.out, if_pos hlen])
          clear hlen
          go_wp2_with fail
          go_ret
          exact ⟨by rw [HC.out]; rfl, hM.bel⟩
        · have hlI : (ps.length : Int) ≤ 1024 := by omega
          have HM2 := Lib.hid (show mchk (n, f, t, r, d, ps) = pgo t f ps from by rw [HM.out, if_neg hlen])
          have hf2 := inb_iff.1 HB2.out
          obtain ⟨hf0, hf1⟩ := hf2
          clear hlen HM
          go_wp2_with fail
          go_loopw [60, 5] (fun x y wr => ∃ (k : Nat) (a : Int), k ≤ ps.length ∧ x = .int .i64 k ∧ y = .int .i64 a ∧ Hid (pgo t f ps = pgo t a (ps.drop k)) ∧ f ≤ a ∧ a ≤ f + 64 * k ∧ Mm w wr [(w.heap.size, 36, mfa n f t r d A ps.length c)] []) (fun x y w => ps.length - (intOf x).toNat)
          case atStart => exact ⟨0, f, Nat.zero_le _, rfl, rfl, (show _ = _ from by rw [List.drop_zero]), Int.le_refl _, by omega, hM.sub (List.sublist_cons_self _ _)⟩
          case round =>
            obtain ⟨k, a, hk, rfl, rfl, hp, ha0, ha1, hMr⟩ := hrel
            clear hM a0 a1 a2 a3 a4 l0 l1 l2
            by_cases hlt : k < ps.length
            · obtain ⟨ad, b, o, rfl, had, hcc⟩ := (h.below hMr.bel).at hlt
              have hnx := Lib.hid (fun h0 => (pgo_step (z := t) (a := a) hlt h0))
              have hst := Lib.hid (fun h0 => (pgo_stop (z := t) (a := a) hlt h0))
              have hIp := hI _ (List.getElem_mem hlt)
              generalize ps[k] = p at *
              obtain ⟨_, hI1, hI2⟩ := hIp
              have hps := Lib.hid (pta_size p)
              have hpa := Lib.hid (pta_all p)
              have HCC := Lib.hid hcc
              have hMx := hMr.alloc (pta p) 83
              clear hcc
              go_upto_region 17 with (first | (refine wpl_loadG rfl 83 _ rfl ⟨b, o, none⟩ (pta p) rfl HCC.out _ Try.underlying83 rfl (by rw [hps.out]; kernel_rfl) ?_) | (refine wpl_storeN rfl 83 _ _ rfl _ (pta p) 83 rfl rfl (by rw [hps.out]; kernel_rfl) (by rw [hps.out]; rfl) hpa.out ?_))
              obtain ⟨x0, x1, x2⟩ := Bl3 hMx.b0
              clear hps hpa HCC hMr
              by_cases q1 : p.2.1 < 1
              · have HP := Lib.hid (HM2.out.trans (hp.out.trans ((hst.out (by rw [ptchk_bad (.inl q1)]; simp)).trans (ptchk_bad (.inl q1)))))
                clear hnx hst hp
                go_wp2_with fail
                go_ret
                exact ⟨by rw [HP.out]; rfl, hMx.bel⟩
              by_cases q2 : 64 < p.2.1
              · have HP := Lib.hid (HM2.out.trans (hp.out.trans ((hst.out (by rw [ptchk_bad (.inr (.inl q2))]; simp)).trans (ptchk_bad (.inr (.inl q2))))))
                clear hnx hst hp
                go_wp2_with fail
                go_ret
                exact ⟨by rw [HP.out]; rfl, hMx.bel⟩
              by_cases q3 : p.2.2.1 < 1
              · have HP := Lib.hid (HM2.out.trans (hp.out.trans ((hst.out (by rw [ptchk_bad (.inr (.inr (.inl q3)))]; simp)).trans (ptchk_bad (.inr (.inr (.inl q3)))))))
                clear hnx hst hp
                go_wp2_with fail
                go_ret
                exact ⟨by rw [HP.out]; rfl, hMx.bel⟩
              by_cases q4 : 65536 < p.2.2.1
              · have HP := Lib.hid (HM2.out.trans (hp.out.trans ((hst.out (by rw [ptchk_bad (.inr (.inr (.inr q4)))]; simp)).trans (ptchk_bad (.inr (.inr (.inr q4)))))))
                clear hnx hst hp
                go_wp2_with fail
                go_ret
                exact ⟨by rw [HP.out]; rfl, hMx.bel⟩
              by_cases q5 : p.1 = a
              · have hb : (p.1 != a) = false := by simp [q5]
                have h0 := ptchk_fine (by omega : ¬ (p.2.1 < 1 ∨ 64 < p.2.1 ∨ p.2.2.1 < 1 ∨ 65536 < p.2.2.1)) q5
                have HP := Lib.hid (hp.out.trans (hnx.out h0))
                clear h0 hnx hst hp q5 hI1 hI2
                have hwa : wrap64 (a + p.2.1) = a + p.2.1 := by simp only [wrap64]; omega
                have hwa2 : IntKind.i64.wrap (a + p.2.1) = a + p.2.1 := by rw [IntKind.wrap_i64]; omega
                go_wp2_with fail
                go_roundw
                case rel => exact ⟨k + 1, a + p.2.1, hlt, by go_num, rfl, HP, by omega, by omega, hMx.sub (List.sublist_cons_self _ _)⟩
                case measure => simp [intOf]; omega
              · have hb : (p.1 != a) = true := by simpa using q5
                have h0 := ptchk_form (by omega : ¬ (p.2.1 < 1 ∨ 64 < p.2.1 ∨ p.2.2.1 < 1 ∨ 65536 < p.2.2.1)) q5
                have HP := Lib.hid (HM2.out.trans (hp.out.trans ((hst.out (by omega)).trans h0)))
                clear h0 hnx hst hp q5 hI1 hI2
                go_wp2_with fail
                go_ret
                exact ⟨by rw [HP.out]; rfl, hMx.bel⟩
            · have hkn : ps.drop k = [] := List.drop_eq_nil_of_le (by omega)
              have HP := Lib.hid (show mchk (n, f, t, r, d, ps) = if a ≠ t then 2 else 0 from by rw [HM2.out, hp.out, hkn]; rfl)
              clear hp hkn
              obtain ⟨a0, a1, a2, a3, a4⟩ := Blm.five hMr.b0
              by_cases hat : a = t
              · have hb : (a != t) = false := by simp [hat]
                have HC := Lib.hid (show mchk (n, f, t, r, d, ps) = 0 from by rw [HP.out, if_neg (by simp [hat])])
                clear HP hat
                go_wp2_with fail
                go_ret
                exact ⟨by rw [HC.out]; rfl, hMr.bel⟩
              · have hb : (a != t) = true := by simpa using hat
                have HC := Lib.hid (show mchk (n, f, t, r, d, ps) = 2 from by rw [HP.out, if_pos hat])
                clear HP hat
                go_wp2_with fail
                go_ret
                exact ⟨by rw [HC.out]; rfl, hMr.bel⟩
end Go.Proofs.Ytgfigkenpmmdeaa

namespace Go.Proofs.Ytgfigkenpmmdeaa
open Go.RowKit
attribute [local go_sem ↓] Go.wp_at_zero Go.wp_at_succ

section
variable {P : Program}
theorem run_storeVar_at (w : World) (g off : Nat) (t ty : TypeId) (old cells : Array Value) (hg : w.heap[g]? = some (.cells old t (0, 0))) (hi : (P.info? ty).map (·.size) = some cells.size) (hfit : off + cells.size ≤ old.size) (h1 : cells.all (·.oneCell') = true) :
    (storeVar ty ⟨g, off, none⟩ (.agg cells)).run P w = .ok () (w.setRow g (splice old.toList off cells.toList).toArray) := by
  have := run_storeCells_at P g off t cells.toList 0 old w hg (by simp; omega) (fun v hv => (Array.all_eq_true_iff_forall_mem.1 h1) v (by simpa using hv))
  cases hq : P.info? ty with
  | none => simp [hq] at hi
  | some i =>
    have hs : cells.size = i.size := by simp [hq] at hi; omega
    simp only [Nat.add_zero] at this
    simp [storeVar, sizeOf, typeInfo, hq, Value.cells, hs, this, splice]
theorem wpl_storeAt {ops : Array Oper} {rest : List Oper} {o : Oper} {a : Act} {w : World} {Q : Exit → Act → World → Prop} (hgd : o.guard = none) (ty : TypeId) (x y : Operand) (ho : o.op = .store ty x y)
    (g off : Nat) (cells : Array Value) (hx : a.eval x = .pointer (some ⟨g, off, none⟩)) (hy : a.eval y = .agg cells)
    (t : TypeId) (old : Array Value) (hg : w.heap[g]? = some (.cells old t (0, 0))) (hi : (P.info? ty).map (·.size) = some cells.size)
    (hfit : off + cells.size ≤ old.size) (h1 : cells.all (·.oneCell') = true) (new : Array Value) (hnew : (splice old.toList off cells.toList).toArray = new)
    (h : wpList P ops Q rest (a.put o.dst undef) (w.setRow g new)) : wpList P ops Q (o :: rest) a w := by
  subst hnew
  refine wpList_plain hgd fun K hK => ?_
  unfold Oper.wp execOp
  simp only [ho, hx, hy, Instr.storeAt, Instr.sureAddr, Sem.run_bind, Sem.run_pure, Result.andThen_ok, run_storeVar_at w g off t ty old cells hg hi hfit h1]
  exact hK _ _ h
end
theorem dga_all (d : Dg) : (dga d).all (·.oneCell') = true := by
  rw [Array.all_eq_true_iff_forall_mem]
  intro u hu
  exact one_bvs _ u (by simpa [dga] using hu)
set_option maxRecDepth 100000 in
/-- a digest's bytes, or none, copied into a digest -/
theorem step_copyD0 {ops : Array Oper} {o : Oper} {a : Act} {w : World} {K : Act → World → Prop} {Q : Exit → Act → World → Prop} {E : Prop} (hgd : o.guard = none) (d s : Operand)
    (ho : o.op = .call { callee := .builtin .copy, args := #[d, s], argTypes := #[22, 22] }) (gc : Nat) (hB : Blk w gc 24 (dga dg0)) (hd : a.eval d = .slice (some ⟨gc, 0, none⟩) 32 32)
    (A : Option Addr) (c : Nat) (m : List UInt8) (hs : a.eval s = .slice A m.length c) (hS : SlB w A c m) (hm : m.length = 0 ∨ m.length = 32)
    (h : ∀ w' v, Blk w' gc 24 (dga (if h : m.length = 32 then ⟨m, h⟩ else dg0)) → Below gc w w' → K (a.put o.dst v) w') :
    if Region.wanted o (yielded ops a.tmps) = true then Oper.wp Try.prog o a w K Q else E := by
  have hu8 : (Try.prog.info? 5).map (·.size) = some 1 := by kernel_rfl
  have h0l : (bvs dg0.1).length = 32 := by have := dg0.2; simp [this]
  cases A with
  | none =>
    have h0 := hS.2.2.2.1 rfl
    have h1 := hS.2.1
    have hl : m.length = 0 := by omega
    have hw : Region.wanted o (yielded ops a.tmps) = true := by simp [Region.wanted, hgd]
    rw [if_pos hw]
    rw [hl] at hs
    have hrun := run_copy_none (P := Try.prog) w 22 22 o.type 5 1 (some ⟨gc, 0, none⟩) 32 32 c Try.underlying22 hu8
    unfold Oper.wp
    simp [execOp, ho, resolve, invoke, builtin, hd, hs, hrun, Result.andThen]
    refine h _ _ ?_ (Below.refl _ _)
    rw [dif_neg (by omega)]
    exact hB
  | some ad =>
    have hsrc : ∀ j v, (bvs m)[j]? = some v → w.cell? (ad.add j) = some v := fun j v hj => by
      obtain ⟨ad', hA, hc⟩ := hS.2.2.2.2 j v hj
      injection hA with hA
      subst hA
      exact hc
    rcases hm with hm | hm
    · have hn : m = [] := List.eq_nil_of_length_eq_zero hm
      refine step_copyK (E := E) hgd d s 22 22 ho 5 1 Try.underlying22 hu8 gc 0 32 32 ad m.length c hd hs (bvs dg0.1) 24 hB [] 0 (by simp [hm]) rfl (by simp) (by simp) (by simp) gc w (Below.refl _ _) (Nat.le_refl _) ?_
      intro w' hw' hb'
      refine h _ _ ?_ hb'
      rw [dif_neg (by omega)]
      have := hw'.out
      rw [splice_nil] at this
      exact this
    · refine step_copyK (E := E) hgd d s 22 22 ho 5 1 Try.underlying22 hu8 gc 0 32 32 ad m.length c hd hs (bvs dg0.1) 24 hB (bvs m) 32 (by simp [hm]) (by simp [hm]) hsrc (by rw [h0l]; simp [hm]) (one_bvs m) gc w (Below.refl _ _) (Nat.le_refl _) ?_
      intro w' hw' hb'
      refine h _ _ ?_ hb'
      rw [dif_pos hm]
      have := hw'.out
      rw [show splice (bvs dg0.1) 0 (bvs m) = bvs m from by unfold splice; rw [List.take_zero, List.drop_eq_nil_of_le (by rw [h0l]; simp [hm])]; simp] at this
      exact this
theorem res_dg {fn : Func} {a : Nat} {tmps : Array Value} {w : World} {g : Nat} {d : Dg} (hres : fn.results = #[.cell a 24]) (ha : tmps.getD a undef = .pointer (some ⟨g, 0, none⟩)) (hB : Blk w g 24 (dga d)) : (results fn tmps).run Try.prog w = .ok (.agg (dga d)) w := by
  have h := run_loadVar_at (P := Try.prog) w ⟨g, 0, none⟩ 24 (dga d) hB.cells _ Try.underlying24 rfl (by rw [dga_size]; kernel_rfl)
  have ha' : tmps[a]?.getD undef = .pointer (some ⟨g, 0, none⟩) := by simpa using ha
  simp [results, hres, asAddr, h, ha']
theorem IsR.row2 {w : World} {g B gc : Nat} {s : List UInt8 × Nat} (h : IsR w g B s) (h1 : g < gc) (h2 : B ≤ gc) (cs : Array Value) : IsR (w.setRow gc cs) g B s := IsR.row h h1 h2 cs
set_option maxRecDepth 100000 in
set_option maxHeartbeats 1000000 in
theorem MDig_any {w : World} {g B : Nat} {s : List UInt8 × Nat} (hR : IsR w g B s) (hB : B ≤ w.heap.size) (hl : s.1.length ≤ 1000000000) : Calls Try.prog 22 #[.pointer (some ⟨g, 0, none⟩)] w fun e w' => e = .returned (.agg (dga (rDg s).1)) ∧ IsR w' g B (rDg s).2 ∧ Wr w w' g := by
  have hg := hR.lt
  have hst0 : Wr w ((w.alloc (.cells (dga dg0) 24)).alloc (.cells (dga dg0) 24)) g ∧ Blk ((w.alloc (.cells (dga dg0) 24)).alloc (.cells (dga dg0) 24)) w.heap.size 24 (dga dg0) := ⟨((Wr.refl _ _).alloc _).alloc _, (Blk.new w _ _).alloc _⟩
  have hL0 : Blk ((w.alloc (.cells (dga dg0) 24)).alloc (.cells (dga dg0) 24)) (w.heap.size + 1) 24 (dga dg0) := Blk.newAt (by simp) _ _
  have hR0 := (hR.alloc (.cells (dga dg0) 24)).alloc (.cells (dga dg0) 24)
  have hds := Lib.hid (dga_size (rDg s).1)
  have hd0 := Lib.hid (dga_size dg0)
  have hda := Lib.hid (dga_all (rDg s).1)
  go_enter Try.func22, Try.ntmps22
  go_upto_region 2 with (fail)
  refine gen1 (T := fun W => ((Wr w W g ∧ Blk W w.heap.size 24 (dga dg0)) ∧ Blk W (w.heap.size + 1) 24 (dga dg0)) ∧ IsR W g B s) ⟨⟨hst0, hL0⟩, hR0⟩ (fun w0 hT => ?_)
  clear hst0 hL0 hR0
  obtain ⟨⟨hst, hL⟩, hR0⟩ := hT
  have hstd : Wr w w0.drew g ∧ Blk w0.drew w.heap.size 24 (dga dg0) := ⟨hst.1.drew, hst.2.drew⟩
  have hLd := hL.drew
  have hRd := hR0.drew
  have hlt := hL.lt
  clear hst hL hR0
  refine wp_region_held_drew (S := (fun W => Wr w W g ∧ Blk W w.heap.size 24 (dga dg0))) (by kernel_rfl) ?_ (fun hHeld => ?_)
  · exact hstd
  refine gen0 (T := fun W => ((fun W => Wr w W g ∧ Blk W w.heap.size 24 (dga dg0))) W ∧ IsR W g B s ∧ Blk W (w.heap.size + 1) 24 (dga dg0) ∧ True) ?_ (fun wq1 hT => ?_)
  · exact ⟨by (first | with_reducible exact hstd | with_reducible exact hHeld | with_reducible exact ⟨hHeld.1.trans hr9, hHeld.2.wr hr9 (by omega)⟩ | exact ⟨⟨hb10.os.trans hHeld.1.os, hb10.tape.trans hHeld.1.tape, hb10.output.trans hHeld.1.output, Nat.le_trans hHeld.1.size hb10.size, fun i hi hn => (hb10.block i (by omega)).trans (hHeld.1.block i hi hn)⟩, (hb10.block _ (by omega)).trans hHeld.2⟩), by (first | with_reducible assumption | with_reducible exact hRd | with_reducible exact hLd | with_reducible exact hR9 | with_reducible exact Blk.wr (by with_reducible assumption) hr9 (by omega) | exact ho9.sl | exact IsR.apart (by with_reducible assumption) (C := w.heap.size + 1) (by omega) (by omega) hb10 | exact (by rw [← rDg_eq hm9.out]; exact hB10)), by (first | with_reducible assumption | with_reducible exact hRd | with_reducible exact hLd | with_reducible exact hR9 | with_reducible exact Blk.wr (by with_reducible assumption) hr9 (by omega) | exact ho9.sl | exact IsR.apart (by with_reducible assumption) (C := w.heap.size + 1) (by omega) (by omega) hb10 | exact (by rw [← rDg_eq hm9.out]; exact hB10)), trivial⟩
  (try clear f0 f1 f2 f3 f4 f5 f6 f7 f8 f9 f10 f11)
  obtain ⟨hHeld, f0, f1, -⟩ := hT
  refine wpAnyH_take (i := 0) (oi := ⟨some 4, _, _, _, _, _⟩) (v := ?_) rfl (by kernel_rfl) (by kernel_rfl) (by kernel_rfl) (fun _ _ _ h => h) (Or.inl ⟨by kernel_rfl, ?_⟩) (by assumption) ?_
  rotate_left
  · (intro wS hSw; (try dsimp only at hSw); clear hSw; go_simp; (try with_reducible rfl))
  (try simp only [Act.put, List.setIfInBounds_toArray, List.set_cons_zero, List.set_cons_succ])
  refine wpAnyH_take (i := 1) (oi := ⟨some 5, _, _, _, _, _⟩) (v := ?_) rfl (by kernel_rfl) (by kernel_rfl) (by kernel_rfl) (fun _ _ _ h => h) (Or.inl ⟨by kernel_rfl, ?_⟩) (by assumption) ?_
  rotate_left
  · (intro wS hSw; (try dsimp only at hSw); clear hSw; go_simp; (try with_reducible rfl))
  (try simp only [Act.put, List.setIfInBounds_toArray, List.set_cons_zero, List.set_cons_succ])
  refine wpAnyH_ready (rs := [2]) (by kernel_rfl) (by simp) ?_
  refine AllReadyH.cons (o := ⟨some 6, _, _, _, _, _⟩) rfl (fun K hK => ?_) AllReadyH.nil
  go_simp
  (refine (Fixed_s 32 hl f0).mono ?_; rintro e w9 ⟨A9, c9, m9, rfl, hm9, ho9, hR9, hr9⟩)
  go_wp2_with fail
  refine hK.out _ _ ?_ (fun _ => ?_)
  · ((try dsimp only); (first | with_reducible exact hstd | with_reducible exact hHeld | with_reducible exact ⟨hHeld.1.trans hr9, hHeld.2.wr hr9 (by omega)⟩ | exact ⟨⟨hb10.os.trans hHeld.1.os, hb10.tape.trans hHeld.1.tape, hb10.output.trans hHeld.1.output, Nat.le_trans hHeld.1.size hb10.size, fun i hi hn => (hb10.block i (by omega)).trans (hHeld.1.block i hi hn)⟩, (hb10.block _ (by omega)).trans hHeld.2⟩))
  clear hK K
  (try simp only [Act.put, List.setIfInBounds_toArray, List.set_cons_zero, List.set_cons_succ])
  refine gen0 (T := fun W => ((fun W => Wr w W g ∧ Blk W w.heap.size 24 (dga dg0))) W ∧ IsR W g B (rFixed 32 s).2 ∧ Blk W (w.heap.size + 1) 24 (dga dg0) ∧ SlB W A9 c9 m9 ∧ True) ?_ (fun wq2 hT => ?_)
  · exact ⟨by (first | with_reducible exact hstd | with_reducible exact hHeld | with_reducible exact ⟨hHeld.1.trans hr9, hHeld.2.wr hr9 (by omega)⟩ | exact ⟨⟨hb10.os.trans hHeld.1.os, hb10.tape.trans hHeld.1.tape, hb10.output.trans hHeld.1.output, Nat.le_trans hHeld.1.size hb10.size, fun i hi hn => (hb10.block i (by omega)).trans (hHeld.1.block i hi hn)⟩, (hb10.block _ (by omega)).trans hHeld.2⟩), by (first | with_reducible assumption | with_reducible exact hRd | with_reducible exact hLd | with_reducible exact hR9 | with_reducible exact Blk.wr (by with_reducible assumption) hr9 (by omega) | exact ho9.sl | exact IsR.apart (by with_reducible assumption) (C := w.heap.size + 1) (by omega) (by omega) hb10 | exact (by rw [← rDg_eq hm9.out]; exact hB10)), by (first | with_reducible assumption | with_reducible exact hRd | with_reducible exact hLd | with_reducible exact hR9 | with_reducible exact Blk.wr (by with_reducible assumption) hr9 (by omega) | exact ho9.sl | exact IsR.apart (by with_reducible assumption) (C := w.heap.size + 1) (by omega) (by omega) hb10 | exact (by rw [← rDg_eq hm9.out]; exact hB10)), by (first | with_reducible assumption | with_reducible exact hRd | with_reducible exact hLd | with_reducible exact hR9 | with_reducible exact Blk.wr (by with_reducible assumption) hr9 (by omega) | exact ho9.sl | exact IsR.apart (by with_reducible assumption) (C := w.heap.size + 1) (by omega) (by omega) hb10 | exact (by rw [← rDg_eq hm9.out]; exact hB10)), trivial⟩
  (try clear f0 f1 f2 f3 f4 f5 f6 f7 f8 f9 f10 f11)
  obtain ⟨hHeld, f0, f1, f2, -⟩ := hT
  refine wpAnyH_ready (rs := [3]) (by kernel_rfl) (by simp) ?_
  refine AllReadyH.cons (o := ⟨some 7, _, _, _, _, _⟩) rfl (fun K hK => ?_) AllReadyH.nil
  (first | (refine step_copyD0 rfl (.tmp 4) (.tmp 6) rfl (w.heap.size + 1) (by with_reducible assumption) rfl A9 c9 m9 rfl (by with_reducible assumption) (by rw [hm9.out]; exact rFixed32 s) ?_; intro w10 v10 hB10 hb10) | go_simp)
  refine hK.out _ _ ?_ (fun _ => ?_)
  · ((try dsimp only); (first | with_reducible exact hstd | with_reducible exact hHeld | with_reducible exact ⟨hHeld.1.trans hr9, hHeld.2.wr hr9 (by omega)⟩ | exact ⟨⟨hb10.os.trans hHeld.1.os, hb10.tape.trans hHeld.1.tape, hb10.output.trans hHeld.1.output, Nat.le_trans hHeld.1.size hb10.size, fun i hi hn => (hb10.block i (by omega)).trans (hHeld.1.block i hi hn)⟩, (hb10.block _ (by omega)).trans hHeld.2⟩))
  clear hK K
  (try simp only [Act.put, List.setIfInBounds_toArray, List.set_cons_zero, List.set_cons_succ])
  refine gen0 (T := fun W => ((fun W => Wr w W g ∧ Blk W w.heap.size 24 (dga dg0))) W ∧ IsR W g B (rFixed 32 s).2 ∧ Blk W (w.heap.size + 1) 24 (dga (rDg s).1) ∧ True) ?_ (fun wq3 hT => ?_)
  · exact ⟨by (first | with_reducible exact hstd | with_reducible exact hHeld | with_reducible exact ⟨hHeld.1.trans hr9, hHeld.2.wr hr9 (by omega)⟩ | exact ⟨⟨hb10.os.trans hHeld.1.os, hb10.tape.trans hHeld.1.tape, hb10.output.trans hHeld.1.output, Nat.le_trans hHeld.1.size hb10.size, fun i hi hn => (hb10.block i (by omega)).trans (hHeld.1.block i hi hn)⟩, (hb10.block _ (by omega)).trans hHeld.2⟩), by (first | with_reducible assumption | with_reducible exact hRd | with_reducible exact hLd | with_reducible exact hR9 | with_reducible exact Blk.wr (by with_reducible assumption) hr9 (by omega) | exact ho9.sl | exact IsR.apart (by with_reducible assumption) (C := w.heap.size + 1) (by omega) (by omega) hb10 | exact (by rw [← rDg_eq hm9.out]; exact hB10)), by (first | with_reducible assumption | with_reducible exact hRd | with_reducible exact hLd | with_reducible exact hR9 | with_reducible exact Blk.wr (by with_reducible assumption) hr9 (by omega) | exact ho9.sl | exact IsR.apart (by with_reducible assumption) (C := w.heap.size + 1) (by omega) (by omega) hb10 | exact (by rw [← rDg_eq hm9.out]; exact hB10)), trivial⟩
  (try clear f0 f1 f2 f3 f4 f5 f6 f7 f8 f9 f10 f11)
  obtain ⟨hHeld, f0, f1, -⟩ := hT
  refine wpAnyH_done (by kernel_rfl) ?_ _
  have hq := f1.cells
  go_wp2_with (first | (refine wpl_loadG rfl 24 _ rfl ⟨w.heap.size + 1, 0, none⟩ (dga (rDg s).1) rfl hq _ Try.underlying24 rfl (by rw [hds.out]; kernel_rfl) ?_) | (refine wpList_store_row rfl 24 _ _ rfl w.heap.size (dga (rDg s).1) rfl rfl 24 _ hHeld.2 (by rw [hds.out]; kernel_rfl) (by rw [hds.out, hd0.out]) hda.out ?_))
  exact bodyPost_ret (res_dg rfl rfl (g := w.heap.size) hHeld.2.row) rfl ⟨rfl, IsR.row2 f0 (by omega) hB _, ⟨hHeld.1.os, hHeld.1.tape, hHeld.1.output, by simpa using hHeld.1.size, fun i hi hn => (setRow_other _ _ i _ (by omega)).trans (hHeld.1.block i hi hn)⟩⟩
theorem built_ptM (f x y : Int) : ∀ d : Dg, Try.prog.built 68 [(0, .int .i64 f), (1, .int .i64 x), (2, .int .i64 y), (3, .agg (dga d))] = some (pta (f, x, y, d)) := by
  refine dg_cases ?_
  intros
  kernel_rfl
theorem wpl_buildPM {w : World} {ops : Array Oper} {rest : List Oper} {o : Oper} {a : Act} {Q : Exit → Act → World → Prop} (hgd : o.guard = none) (x0 x1 x2 x3 : Operand) (ho : o.op = .build 68 #[(0, x0), (1, x1), (2, x2), (3, x3)])
    {f x y : Int} {d : Dg} (h0 : a.eval x0 = .int .i64 f) (h1 : a.eval x1 = .int .i64 x) (h2 : a.eval x2 = .int .i64 y) (h3 : a.eval x3 = .agg (dga d))
    (h : wpList Try.prog ops Q rest (a.put o.dst (.agg (pta (f, x, y, d)))) w) : wpList Try.prog ops Q (o :: rest) a w := by
  have hl : ((#[(0, x0), (1, x1), (2, x2), (3, x3)] : Array (Nat × Operand)).map fun (i, x) => (i, a.eval x)).toList = [(0, .int .i64 f), (1, .int .i64 x), (2, .int .i64 y), (3, .agg (dga d))] := by
    simp [h0, h1, h2, h3]
  refine wpList_build hgd 68 _ ho ?_ ?_
  · rw [hl, built_ptM]; rfl
  · rw [hl, built_ptM]; exact h
theorem MDig_eq {w : World} {g B : Nat} {s s' : List UInt8 × Nat} {d : Dg} (he : rDg s = (d, s')) (hR : IsR w g B s) (hB : B ≤ w.heap.size) (hl : s.1.length ≤ 1000000000) : Calls Try.prog 22 #[.pointer (some ⟨g, 0, none⟩)] w fun e w' => e = .returned (.agg (dga d)) ∧ IsR w' g B s' ∧ Wr w w' g := by
  have h := MDig_any hR hB hl
  rw [he] at h
  exact h
theorem Within_eq {g B n most : Nat} {s s' : List UInt8 × Nat} {w : World} (he : rWithin most s = (n, s')) (hR : IsR w g B s) :
    Calls Try.prog 21 #[.pointer (some ⟨g, 0, none⟩), .int .u64 most] w fun e w' => e = .returned (.int .i64 (n : Nat)) ∧ IsR w' g B s' ∧ Wr w w' g := by
  have h := Within_any most hR
  rw [he] at h
  exact h
set_option maxRecDepth 100000 in
set_option maxHeartbeats 1000000 in
theorem MPart_any {w : World} {g B : Nat} {s : List UInt8 × Nat} (f : Int) (hR : IsR w g B s) (hB : B ≤ w.heap.size) (hl : s.1.length ≤ 1000000000) : Calls Try.prog 25 #[.pointer (some ⟨g, 0, none⟩), .int .i64 f] w fun e w' => e = .returned (.agg (pta (rPart f s).1)) ∧ IsR w' g B (rPart f s).2 ∧ Wr w w' g := by
  have hg := hR.lt
  obtain ⟨y1, s6, h6⟩ : ∃ n s', rWithin 64 s = (n, s') := ⟨_, _, rfl⟩
  obtain ⟨y2, s7, h7⟩ : ∃ n s', rWithin 65536 s6 = (n, s') := ⟨_, _, rfl⟩
  obtain ⟨d, s8, h8⟩ : ∃ n s', rDg s7 = (n, s') := ⟨_, _, rfl⟩
  have hrp : rPart f s = ((f, (y1 : Int), (y2 : Int), d), s8) := by
    unfold rPart
    simp only [h6, h7, h8]
  have hl7 : s7.1.length ≤ 1000000000 := by
    have l1 := rWithin_len 64 s
    have l2 := rWithin_len 65536 s6
    rw [h6] at l1
    rw [h7] at l2
    dsimp only at l1 l2
    omega
  rw [hrp]
  have H6 := Lib.hid h6
  have H7 := Lib.hid h7
  have H8 := Lib.hid h8
  clear h6 h7 h8 hrp
  have hst0 : Wr w (w.alloc (.cells (pta (0, 0, 0, dg0)) 68)) g ∧ Blk (w.alloc (.cells (pta (0, 0, 0, dg0)) 68)) w.heap.size 68 (pta (0, 0, 0, dg0)) := ⟨(Wr.refl _ _).alloc _, Blk.new w _ _⟩
  have hR0 := hR.alloc (.cells (pta (0, 0, 0, dg0)) 68)
  have hz0 : (w.alloc (.cells (pta (0, 0, 0, dg0)) 68)).heap.size = w.heap.size + 1 := by simp
  go_enter Try.func25, Try.ntmps25
  go_upto_region 1 with (fail)
  refine gen1 (T := fun W => ((Wr w W g ∧ Blk W w.heap.size 68 (pta (0, 0, 0, dg0)))) ∧ IsR W g B s) ⟨hst0, hR0⟩ (fun w0 hT => ?_)
  clear hst0 hR0 hR
  obtain ⟨⟨hw, hP⟩, hR⟩ := hT
  go_wp2_with fail
  refine (Within_eq H6.out hR).mono ?_
  rintro e w1 ⟨rfl, hR1, hr1⟩
  replace hw := hw.trans hr1
  replace hP := hP.wr hr1 (by omega)
  clear hR hr1
  go_wp2_with fail
  refine (Within_eq H7.out hR1).mono ?_
  rintro e w2 ⟨rfl, hR2, hr2⟩
  replace hw := hw.trans hr2
  replace hP := hP.wr hr2 (by omega)
  clear hR1 hr2
  go_wp2_with fail
  refine (MDig_eq H8.out hR2 (Nat.le_trans hB hw.size) hl7).mono ?_
  rintro e w3 ⟨rfl, hR3, hr3⟩
  replace hw := hw.trans hr3
  replace hP := hP.wr hr3 (by omega)
  clear hR2 hr3
  have hps := Lib.hid (pta_size (f, (y1 : Int), (y2 : Int), d))
  have hp0 := Lib.hid (pta_size (0, 0, 0, dg0))
  have hpa := Lib.hid (pta_all (f, (y1 : Int), (y2 : Int), d))
  go_wp2_with (first | (refine wpl_buildPM rfl _ _ _ _ rfl (f := f) (x := y1) (y := y2) (d := d) rfl rfl rfl rfl ?_) | (refine wpList_store_row rfl 68 _ _ rfl w.heap.size (pta (f, (y1 : Int), (y2 : Int), d)) rfl rfl 68 _ hP (by rw [hps.out]; kernel_rfl) (by rw [hps.out, hp0.out]) hpa.out ?_))
  exact bodyPost_ret (res_pt rfl rfl (g := w.heap.size) hP.row) rfl ⟨rfl, IsR.row2 hR3 (by omega) hB _, ⟨hw.os, hw.tape, hw.output, by simpa using hw.size, fun i hi hn => (setRow_other _ _ i _ (by omega)).trans (hw.block i hi hn)⟩⟩
end Go.Proofs.Ytgfigkenpmmdeaa
