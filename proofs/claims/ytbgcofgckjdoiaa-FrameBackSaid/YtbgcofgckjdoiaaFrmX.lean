/- WHAT IT HOLDS: frame.One, Prefix, All, walked. -/
import Derived.Test.YtbgcofgckjdoiaaFrmV
namespace Go.Proofs.Ytbgcofgckjdoiaa
open Go.RowKit
attribute [local go_sem ↓] Go.wp_at_zero Go.wp_at_succ

theorem ftake_ok {l : List UInt8} (h : (ftake l).2.2 = 0) : 4 ≤ (ftake l).2.1 ∧ (ftake l).2.1 ≤ l.length := by
  unfold ftake at h ⊢
  split at h
  · simp at h
  · rename_i n k _
    by_cases h1 : 65536 < n
    · rw [if_pos h1] at h; simp at h
    · rw [if_neg h1] at h ⊢
      by_cases h2 : l.length < k + n + 4
      · rw [if_pos h2] at h; simp at h
      · rw [if_neg h2] at h ⊢
        by_cases h3 : four (sumW (l.take (k + n))) = (l.drop (k + n)).take 4
        · rw [if_pos h3]; dsimp only; omega
        · rw [if_neg h3] at h; simp at h
/-- the texts of the frames that bytes begin with, and how many bytes these have -/
def fpre (l : List UInt8) : List (List UInt8) × Nat :=
  if h : (ftake l).2.2 = 0 then ((ftake l).1 :: (fpre (l.drop (ftake l).2.1)).1, (ftake l).2.1 + (fpre (l.drop (ftake l).2.1)).2) else ([], 0)
  termination_by l.length
  decreasing_by all_goals (have := ftake_ok h; simp; omega)
theorem fpre_ok {l : List UInt8} (h : (ftake l).2.2 = 0) : fpre l = ((ftake l).1 :: (fpre (l.drop (ftake l).2.1)).1, (ftake l).2.1 + (fpre (l.drop (ftake l).2.1)).2) := by rw [fpre, dif_pos h]
theorem fpre_bad {l : List UInt8} (h : (ftake l).2.2 ≠ 0) : fpre l = ([], 0) := by rw [fpre, dif_neg h]
def fone (l : List UInt8) : List UInt8 × Nat := if (ftake l).2.2 ≠ 0 then ([], (ftake l).2.2) else if (ftake l).2.1 < l.length then ([], 2) else ((ftake l).1, 0)
theorem SlB.grown {w w' : World} {A : Option Addr} {c : Nat} {row : Option Nat} {l : List UInt8} (h : SlB w A c l) (hb : w.grownBy w' row) (hA : l ≠ [] → A.map (·.block) ≠ row) : SlB w' A c l := by
  refine ⟨h.1, h.2.1, h.2.2.1, h.2.2.2.1, fun j u hj => ?_⟩
  obtain ⟨ad, hA2, hc⟩ := h.2.2.2.2 j u hj
  have hne : l ≠ [] := by intro e; rw [e] at hj; simp at hj
  subst hA2
  exact ⟨ad, rfl, hb.cell hc (by rw [addr_add_block]; exact hA hne)⟩

set_option maxRecDepth 100000 in
set_option maxHeartbeats 1000000 in
theorem FOne_any (A : Option Addr) (c : Nat) (l : List UInt8) (w : World) (hs : SlB w A c l) (hl : l.length ≤ 10000000) :
    Calls Try.prog 56 #[.slice A l.length c] w (JoinsB w (fone l)) := by
  go_enter Try.func56, Try.ntmps56
  go_wp2_with fail
  refine (FTake_any A c l _ hs hl).mono ?_
  rintro e w1 ⟨A1, c1, m1, he, hm1, ho1, hb1⟩
  rcases errv_cases (ftake l).2.2 with ⟨h0, hev⟩ | ⟨k, hk, hke, hev⟩
  · rw [hev] at he
    subst he
    by_cases hlt : (ftake l).2.1 < l.length
    · have hf := Lib.hid (show fone l = ([], 2) from by unfold fone; rw [if_neg (by omega), if_pos hlt])
      have hi : (((ftake l).2.1 : Nat) : Int) < (l.length : Int) := by omega
      generalize (ftake l).2.1 = q at *
      clear h0 hm1
      go_wp2_with fail
      go_ret2
      exact ⟨none, 0, [], by rw [hf.out]; rfl, by rw [hf.out]; rfl, Sl.none_ _ _, hb1⟩
    · have hf := Lib.hid (show fone l = ((ftake l).1, 0) from by unfold fone; rw [if_neg (by omega), if_neg hlt])
      have hi : ¬ (((ftake l).2.1 : Nat) : Int) < (l.length : Int) := by omega
      have hm : Hid (m1 = (fone l).1) := (show _ = _ from by rw [hf.out]; exact hm1.out)
      generalize (ftake l).2.1 = q at *
      clear h0 hm1
      go_wp2_with fail
      go_ret2
      exact ⟨A1, c1, m1, by rw [hf.out]; rfl, hm, ho1.1, hb1⟩
  · have hf := Lib.hid (show fone l = ([], (ftake l).2.2) from by unfold fone; rw [if_pos (by omega)])
    have hfe : errv (fone l).2 = .iface 76 (.int .i64 k) := by rw [hf.out]; exact hev
    have HFE := Lib.hid hfe
    rw [hev] at he
    subst he
    generalize (ftake l).2.1 = q at *
    clear hev hfe hm1 hke
    go_wp2_with fail
    go_ret2
    exact ⟨none, 0, [], by rw [HFE.out]; rfl, by rw [hf.out]; rfl, Sl.none_ _ _, hb1⟩

/-- append of texts, and where they then are -/
theorem wpl_texts2 {w : World} {ops : Array Oper} {rest : List Oper} {o : Oper} {a : Act} {Q : Exit → Act → World → Prop} (hgd : o.guard = none) (s x : Operand)
    (ho : o.op = .call { callee := .builtin .append, args := #[s, x], argTypes := #[83, 83] })
    (base : Nat) (A : Option Addr) (c : Nat) (l : List Pt) (hs : a.eval s = .slice A l.length c) (hown : OwnT w base A c l)
    (A2 : Option Addr) (c2 : Nat) (l2 : List Pt) (hx : a.eval x = .slice A2 l2.length c2) (hr : SlT w A2 c2 l2)
    (hlen : l.length + l2.length ≤ 100000000) (hbase : base ≤ w.heap.size)
    (h : ∀ A' c' (m : List Pt) w', Hid (m = l ++ l2) → OwnT w' base A' c' m → w.grownBy w' (A.map (·.block)) → (A'.map (·.block) = A.map (·.block) ∨ A'.map (·.block) = some w.heap.size) → Below base w w' → wpList Try.prog ops Q rest (a.put o.dst (.slice A' m.length c')) w') : wpList Try.prog ops Q (o :: rest) a w := by
  obtain ⟨i0, hi, hz0, hz1, hz2⟩ := info_parts sl_info
  refine wpl_append hgd s x 83 ho base 40 i0 (.slice none 0 0) 1 24 Try.underlying83 hi hz0 hz1 hz2 rfl (by decide) A l.length c (l.map pv) hs hown A2 l2.length c2 (l2.map pv) hx hr (one_pv l2) (by omega) (by simp only [maxLen]; omega) hbase ?_
  intro A' c' w' hap
  rw [← List.length_append]
  refine h A' c' (l ++ l2) w' rfl ?_ hap.grown hap.place (hap.below hown hbase)
  have := hap.own
  simpa [OwnT] using this
/-- each text can be read, and lies beside the row -/
def TX (w : World) (Pb : Option Nat → Prop) (B : Option Addr) (ps : List Pt) : Prop := ∀ x ∈ ps, SlB w x.1 x.2.1 x.2.2 ∧ (x.2.2 ≠ [] → x.1.map (·.block) ≠ B.map (·.block) ∧ Pb (x.1.map (·.block)))
theorem TX.below {w w' : World} {Pb : Option Nat → Prop} {B : Option Addr} {ps : List Pt} (h : TX w Pb B ps) (hb : Below w.heap.size w w') : TX w' Pb B ps := fun x hx => ⟨(h x hx).1.below hb, (h x hx).2⟩
theorem TX.grown {w w' : World} {Pb : Option Nat → Prop} {B B' : Option Addr} {ps : List Pt} (h : TX w Pb B ps) (hb : w.grownBy w' (B.map (·.block))) (hp : B'.map (·.block) = B.map (·.block) ∨ B'.map (·.block) = some w.heap.size) : TX w' Pb B' ps := fun x hx => by
  refine ⟨SlB.grown (h x hx).1 hb (fun hne => ((h x hx).2 hne).1), fun hne => ⟨?_, ((h x hx).2 hne).2⟩⟩
  rcases hp with hp | hp
  · rw [hp]; exact ((h x hx).2 hne).1
  · rw [hp]; exact SlB.old (h x hx).1 (Nat.le_refl _) hne
/-- a block from n on -/
def From (n : Nat) (b : Option Nat) : Prop := ∀ g, b = some g → n ≤ g
/-- what Prefix answers -/
def PreB (w0 : World) (o : List (List UInt8) × Nat) (e : Ending) (w' : World) : Prop :=
  ∃ A c ps, e = .returned (.tuple #[.slice A (List.length ps) c, .int .i64 (o.2 : Nat)]) ∧ Hid (ptx ps = o.1) ∧ SlT w' A c ps ∧ (∀ x ∈ ps, SlB w' x.1 x.2.1 x.2.2 ∧ (x.2.2 ≠ [] → From w0.heap.size (x.1.map (·.block)))) ∧ From w0.heap.size (A.map (·.block)) ∧ Below w0.heap.size w0 w'

theorem meas_step {n a q : Nat} (h : a + q ≤ n) (h4 : 4 ≤ q) : n - (intOf (.int .i64 ((a : Int) + (q : Int)))).toNat < n - (intOf (.int .i64 (a : Int))).toNat := by
  have h1 : (intOf (.int .i64 ((a : Int) + (q : Int)))).toNat = a + q := by show ((a : Int) + (q : Int)).toNat = a + q; omega
  have h2 : (intOf (.int .i64 (a : Int))).toNat = a := by show (a : Int).toNat = a; omega
  rw [h1, h2]
  omega
set_option maxRecDepth 100000 in
set_option maxHeartbeats 2000000 in
theorem FPrefix_fn (fpre : List UInt8 → List (List UInt8) × Nat) (fpre_ok : ∀ {l : List UInt8}, (ftake l).2.2 = 0 → fpre l = ((ftake l).1 :: (fpre (l.drop (ftake l).2.1)).1, (ftake l).2.1 + (fpre (l.drop (ftake l).2.1)).2)) (fpre_bad : ∀ {l : List UInt8}, (ftake l).2.2 ≠ 0 → fpre l = ([], 0))
    (A : Option Addr) (c : Nat) (l : List UInt8) (w : World) (hs : SlB w A c l) (hl : l.length ≤ 1000000) :
    Calls Try.prog 57 #[.slice A l.length c] w (PreB w (fpre l)) := by
  have hc1 := hs.2.1
  go_enter Try.func57, Try.ntmps57
  go_wp2_with fail
  go_loopw [4, 5] (fun v i wr => ∃ (a : Nat) (B : Option Addr) (d : Nat) (ps : List Pt), a ≤ l.length ∧ i = .int .i64 a ∧ v = .slice B ps.length d ∧ Hid (ps.length ≤ a) ∧ Hid (fpre l = (ptx ps ++ (fpre (l.drop a)).1, a + (fpre (l.drop a)).2)) ∧ OwnT wr w.heap.size B d ps ∧ TX wr (From w.heap.size) B ps ∧ Below w.heap.size w wr) (fun v i w => l.length - (intOf i).toNat)
  case atStart => exact ⟨0, none, 0, [], Nat.zero_le _, rfl, rfl, Nat.zero_le _, (show _ = _ from by simp [ptx]), Own.none_ _ _ _ _, (fun x hx => by simp at hx), Below.refl _ _⟩
  case round =>
    obtain ⟨a, B, d, ps, ha, rfl, rfl, hpl, hpre, hor, htx, hbr⟩ := hrel
    have hD := Sl.cutB (hs.below hbr) ha
    rw [show l.length - a = (l.drop a).length from by simp] at hD
    have hdl : l.length - a = (l.drop a).length := by simp
    have hll := Lib.hid (show (l.drop a).length ≤ 1000000 from by simp; omega)
    have hdd := Lib.hid (fun k => (List.drop_drop (l := l) (i := k) (j := a)))
    have hac : a ≤ c := by omega
    have hrl := Lib.hid (show (l.drop a).length = l.length - a from hdl.symm)
    generalize l.drop a = r at *
    by_cases hca : c = a
    · rw [if_pos hca] at hD
      subst hca
      rw [Nat.sub_self] at hD
      go_wp2_with fail
      refine (FTake_any A 0 r _ hD (by have := hll.out; omega)).mono ?_
      rintro e w2 ⟨A2, c2, m2, he, hm2, ho2, hb2⟩
      have hw2 := bel_call hbr hb2
      rcases errv_cases (ftake r).2.2 with ⟨h0, hev⟩ | ⟨k, hk, hke, hev⟩
      · rw [hev] at he
        subst he
        obtain ⟨q4, ql⟩ := ftake_ok h0
        have hfo := fpre_ok h0
        have hnext := Lib.hid (show fpre l = (ptx (ps ++ [(A2, c2, m2)]) ++ (fpre (l.drop (c + (ftake r).2.1))).1, c + (ftake r).2.1 + (fpre (l.drop (c + (ftake r).2.1))).2) from by
          rw [hpre.out, hfo, hdd.out]
          have : m2 = (ftake r).1 := hm2.out
          simp [ptx, this, Nat.add_assoc])
        have hqb := Lib.hid (show c + (ftake r).2.1 ≤ l.length from by have := hrl.out; omega)
        have hq4 := Lib.hid q4
        have hbn := below_new w2 (.cells #[pv (A2, c2, m2)] 40)
        have hor2 := Lib.hid ((Own.below hor hb2).below hbn)
        have htx2 : TX (w2.alloc (.cells #[pv (A2, c2, m2)] 40)) (From w.heap.size) B (ps ++ [(A2, c2, m2)]) := by
          intro x hx
          rw [List.mem_append] at hx
          rcases hx with hx | hx
          · exact ((htx.below hb2).below hbn) x hx
          · simp only [List.mem_singleton] at hx
            subst hx
            refine ⟨ho2.1.below hbn, fun hne => ?_⟩
            obtain ⟨g, off, cur, rfl, hg, _⟩ := ho2.2 hne
            refine ⟨fun hA => ?_, fun g' hg' => ?_⟩
            · have := hor.lt g hA.symm
              omega
            · have hg2 : g = g' := by simpa using hg'
              have := hbr.size
              omega
        have HTX := Lib.hid htx2
        generalize (ftake r).2.1 = q at *
        have haq : wrap64 ((c : Int) + (q : Int)) = (c : Int) + (q : Int) := by have := hqb.out; simp only [wrap64]; omega
        clear hm2 hfo hpre hD hb2 hev h0 htx2 htx hor ho2 q4 ql
        go_wp2_with (at_builtin; (refine wpl_texts2 rfl _ _ rfl w.heap.size B d ps rfl hor2.out (some ⟨w2.heap.size, 0, none⟩) 1 [(A2, c2, m2)] rfl Sl.one (by have := hpl.out; simp; omega) (bel_alloc hw2 _).size ?_; intro A3 c3 p3 w3 hm3 ho3 hg3 hp3 hb3))
        go_roundw
        case rel =>
          have hm3' : p3 = ps ++ [(A2, c2, m2)] := hm3.out
          have hb3' : Below w.heap.size w w3 := (bel_alloc hw2 _).trans hb3
          refine ⟨c + q, A3, c3, p3, hqb.out, by go_num, rfl, ?_, by rw [hm3']; exact hnext, ho3, by rw [hm3']; exact TX.grown HTX.out hg3 hp3, hb3'⟩
          show p3.length ≤ _
          rw [hm3', List.length_append]
          have := hpl.out
          have := hq4.out
          simp; omega
        case measure => (rw [haq]; exact meas_step hqb.out hq4.out)
      · have hfo := fpre_bad (l := r) (by omega)
        have hfin := Lib.hid (show fpre l = (ptx ps, c) from by rw [hpre.out, hfo]; simp)
        rw [hev] at he
        subst he
        have hro := hor.sl.below hb2
        have hrf : From w.heap.size (B.map (·.block)) := fun g hg => (hor.lt g hg).1
        have hrt := (htx.below hb2)
        generalize (ftake r).2.1 = q at *
        clear hm2 hfo hpre hD hb2 hev htx hor ho2 hke
        go_wp2_with fail
        go_ret2
        exact ⟨B, d, ps, by rw [hfin.out]; rfl, by rw [hfin.out]; rfl, hro, fun x hx => ⟨(hrt x hx).1, fun hne => ((hrt x hx).2 hne).2⟩, hrf, hw2⟩
    · rw [if_neg hca] at hD
      go_wp2_with fail
      refine (FTake_any (Option.map (fun x => x.add a) A) (c - a) r _ hD (by have := hll.out; omega)).mono ?_
      rintro e w2 ⟨A2, c2, m2, he, hm2, ho2, hb2⟩
      have hw2 := bel_call hbr hb2
      rcases errv_cases (ftake r).2.2 with ⟨h0, hev⟩ | ⟨k, hk, hke, hev⟩
      · rw [hev] at he
        subst he
        obtain ⟨q4, ql⟩ := ftake_ok h0
        have hfo := fpre_ok h0
        have hnext := Lib.hid (show fpre l = (ptx (ps ++ [(A2, c2, m2)]) ++ (fpre (l.drop (a + (ftake r).2.1))).1, a + (ftake r).2.1 + (fpre (l.drop (a + (ftake r).2.1))).2) from by
          rw [hpre.out, hfo, hdd.out]
          have : m2 = (ftake r).1 := hm2.out
          simp [ptx, this, Nat.add_assoc])
        have hqb := Lib.hid (show a + (ftake r).2.1 ≤ l.length from by have := hrl.out; omega)
        have hq4 := Lib.hid q4
        have hbn := below_new w2 (.cells #[pv (A2, c2, m2)] 40)
        have hor2 := Lib.hid ((Own.below hor hb2).below hbn)
        have htx2 : TX (w2.alloc (.cells #[pv (A2, c2, m2)] 40)) (From w.heap.size) B (ps ++ [(A2, c2, m2)]) := by
          intro x hx
          rw [List.mem_append] at hx
          rcases hx with hx | hx
          · exact ((htx.below hb2).below hbn) x hx
          · simp only [List.mem_singleton] at hx
            subst hx
            refine ⟨ho2.1.below hbn, fun hne => ?_⟩
            obtain ⟨g, off, cur, rfl, hg, _⟩ := ho2.2 hne
            refine ⟨fun hA => ?_, fun g' hg' => ?_⟩
            · have := hor.lt g hA.symm
              omega
            · have hg2 : g = g' := by simpa using hg'
              have := hbr.size
              omega
        have HTX := Lib.hid htx2
        generalize (ftake r).2.1 = q at *
        have haq : wrap64 ((a : Int) + (q : Int)) = (a : Int) + (q : Int) := by have := hqb.out; simp only [wrap64]; omega
        clear hm2 hfo hpre hD hb2 hev h0 htx2 htx hor ho2 q4 ql
        go_wp2_with (at_builtin; (refine wpl_texts2 rfl _ _ rfl w.heap.size B d ps rfl hor2.out (some ⟨w2.heap.size, 0, none⟩) 1 [(A2, c2, m2)] rfl Sl.one (by have := hpl.out; simp; omega) (bel_alloc hw2 _).size ?_; intro A3 c3 p3 w3 hm3 ho3 hg3 hp3 hb3))
        go_roundw
        case rel =>
          have hm3' : p3 = ps ++ [(A2, c2, m2)] := hm3.out
          have hb3' : Below w.heap.size w w3 := (bel_alloc hw2 _).trans hb3
          refine ⟨a + q, A3, c3, p3, hqb.out, by go_num, rfl, ?_, by rw [hm3']; exact hnext, ho3, by rw [hm3']; exact TX.grown HTX.out hg3 hp3, hb3'⟩
          show p3.length ≤ _
          rw [hm3', List.length_append]
          have := hpl.out
          have := hq4.out
          simp; omega
        case measure => (rw [haq]; exact meas_step hqb.out hq4.out)
      · have hfo := fpre_bad (l := r) (by omega)
        have hfin := Lib.hid (show fpre l = (ptx ps, a) from by rw [hpre.out, hfo]; simp)
        rw [hev] at he
        subst he
        have hro := hor.sl.below hb2
        have hrf : From w.heap.size (B.map (·.block)) := fun g hg => (hor.lt g hg).1
        have hrt := (htx.below hb2)
        generalize (ftake r).2.1 = q at *
        clear hm2 hfo hpre hD hb2 hev htx hor ho2 hke
        go_wp2_with fail
        go_ret2
        exact ⟨B, d, ps, by rw [hfin.out]; rfl, by rw [hfin.out]; rfl, hro, fun x hx => ⟨(hrt x hx).1, fun hne => ((hrt x hx).2 hne).2⟩, hrf, hw2⟩
theorem FPrefix_any (A : Option Addr) (c : Nat) (l : List UInt8) (w : World) (hs : SlB w A c l) (hl : l.length ≤ 1000000) :
    Calls Try.prog 57 #[.slice A l.length c] w (PreB w (fpre l)) := FPrefix_fn fpre fpre_ok fpre_bad A c l w hs hl
end Go.Proofs.Ytbgcofgckjdoiaa
