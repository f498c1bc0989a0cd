/- WHAT IT HOLDS: frame.Join, and the document's frames, walked. | WHAT IT HOLDS: the law FrameJoins, walked. | WHAT IT HOLDS: frame.One, Prefix, All, walked. | WHAT IT HOLDS: the document's Take and Prefix, and lists side by side, walked. | WHAT IT HOLDS: lists of texts side by side; frame.All, walked. | WHAT IT HOLDS: the law FrameTakes, walked. | WHAT IT HOLDS: the document's Put of segments, and a segment's cell, walked. | WHAT IT HOLDS: what it says that cells are not too long, plainly. | WHAT IT HOLDS: taking segments, the program's and the document's, walked; the law SegmentTakes, walked. | WHAT IT HOLDS: the document's taking of segments, walked. -/
import Derived.Test.YtgipfenjachpnaaCellTakesG15
import Derived.Test.YtgipfenjachpnaaCellTakesG13
import Derived.Test.YtgipfenjachpnaaCellTakesG08
namespace Go.Proofs.Ytgipfenjachpnaa
open Go.RowKit
attribute [local go_sem ↓] Go.wp_at_zero Go.wp_at_succ

def ptx (ps : List Pt) : List (List UInt8) := ps.map (·.2.2)
theorem ptx_get {ps : List Pt} {k : Nat} (h : k < (ptx ps).length) (h2 : k < ps.length) : (ptx ps)[k] = ps[k].2.2 := List.getElem_map _
def frms (ts : List (List UInt8)) : List UInt8 := ts.flatMap frm
def fjoin (ts : List (List UInt8)) : List UInt8 × Nat := if ts.any (fun t => decide (65536 < t.length)) then ([], 3) else (frms ts, 0)
theorem fjoin_long {ts : List (List UInt8)} {k : Nat} (hk : k < ts.length) (h : 65536 < ts[k].length) : fjoin ts = ([], 3) := by
  unfold fjoin; rw [if_pos]
  exact List.any_eq_true.2 ⟨ts[k], List.getElem_mem hk, decide_eq_true h⟩
theorem fjoin_ok {ts : List (List UInt8)} (h : ∀ t ∈ ts, t.length ≤ 65536) : fjoin ts = (frms ts, 0) := by
  unfold fjoin; rw [if_neg]
  intro he
  obtain ⟨t, ht, hd⟩ := List.any_eq_true.1 he
  have := of_decide_eq_true hd
  have := h t ht
  omega
theorem frms_snoc {ts : List (List UInt8)} {k : Nat} (hk : k < ts.length) : frms (ts.take (k + 1)) = frms (ts.take k) ++ frm ts[k] := by
  unfold frms; rw [List.take_succ_eq_append_getElem hk, List.flatMap_append]; simp
theorem frms_le {ts : List (List UInt8)} (h : ∀ t ∈ ts, t.length ≤ 70000) : (frms ts).length ≤ 70014 * ts.length := by
  induction ts with
  | nil => simp [frms]
  | cons t ts ih =>
    have h1 := h t (by simp)
    have h2 := ih (fun q hq => h q (by simp [hq]))
    have h3 := frm_len t
    have h4 := vb_le10 (n := t.length) (by omega)
    simp only [frms, List.flatMap_cons, List.length_append, List.length_cons] at h2 ⊢
    omega
/-- what Join answers -/
def JoinsB (w0 : World) (o : List UInt8 × Nat) (e : Ending) (w' : World) : Prop :=
  ∃ A c m, e = .returned (.tuple #[.slice A (List.length m) c, errv o.2]) ∧ Hid (m = o.1) ∧ SlB w' A c m ∧ Below w0.heap.size w0 w'

end Go.Proofs.Ytgipfenjachpnaa

namespace Go.Proofs.Ytgipfenjachpnaa
open Go.RowKit
attribute [local go_sem ↓] Go.wp_at_zero Go.wp_at_succ

theorem sl_info : (Try.prog.info? 22).map (fun i => (i.zero, i.size, i.bytes)) = some (some (.slice none 0 0), 1, 24) := by kernel_rfl
theorem frms_le' {ts : List (List UInt8)} (h : ∀ t ∈ ts, t.length ≤ 300) : (frms ts).length ≤ 314 * ts.length := by
  induction ts with
  | nil => simp [frms]
  | cons t ts ih =>
    have h1 := h t (by simp)
    have h2 := ih (fun q hq => h q (by simp [hq]))
    have h3 := frm_len t
    have h4 := vb_le10 (n := t.length) (by omega)
    simp only [frms, List.flatMap_cons, List.length_append, List.length_cons] at h2 ⊢
    omega
/-- texts of the call's own -/
abbrev OwnT (w : World) (base : Nat) (A : Option Addr) (c : Nat) (ps : List Pt) : Prop := Own w base 22 1 A ps.length c (ps.map pv)
abbrev SlT (w : World) (A : Option Addr) (c : Nat) (ps : List Pt) : Prop := Sl w 1 A ps.length c (ps.map pv)
theorem one_pv (ps : List Pt) : ∀ u ∈ ps.map pv, u.oneCell' = true := by
  intro u hu
  simp only [List.mem_map] at hu
  obtain ⟨b, _, rfl⟩ := hu
  rfl
/-- append of texts -/
theorem wpl_texts {w : World} {ops : Array Oper} {rest : List Oper} {o : Oper} {a : Act} {Q : Exit → Act → World → Prop} (hgd : o.guard = none) (s x : Operand)
    (ho : o.op = .call { callee := .builtin .append, args := #[s, x], argTypes := #[200, 200] })
    (base : Nat) (A : Option Addr) (c : Nat) (l : List Pt) (hs : a.eval s = .slice A l.length c) (hown : OwnT w base A c l)
    (A2 : Option Addr) (c2 : Nat) (l2 : List Pt) (hx : a.eval x = .slice A2 l2.length c2) (hr : SlT w A2 c2 l2)
    (hlen : l.length + l2.length ≤ 100000) (hbase : base ≤ w.heap.size)
    (h : ∀ A' c' (m : List Pt) w', Hid (m = l ++ l2) → OwnT w' base A' c' m → Below base w w' → wpList Try.prog ops Q rest (a.put o.dst (.slice A' m.length c')) w') : wpList Try.prog ops Q (o :: rest) a w := by
  obtain ⟨i0, hi, hz0, hz1, hz2⟩ := info_parts sl_info
  refine wpl_append hgd s x 200 ho base 22 i0 (.slice none 0 0) 1 24 Try.underlying200 hi hz0 hz1 hz2 rfl (by decide) A l.length c (l.map pv) hs hown A2 l2.length c2 (l2.map pv) hx hr (one_pv l2) (by omega) (by simp only [maxLen]; omega) hbase ?_
  intro A' c' w' hap
  rw [← List.length_append]
  refine h A' c' (l ++ l2) w' rfl ?_ (hap.below hown hbase)
  have := hap.own
  simpa [OwnT] using this

end Go.Proofs.Ytgipfenjachpnaa

namespace Go.Proofs.Ytgipfenjachpnaa
open Go.RowKit
attribute [local go_sem ↓] Go.wp_at_zero Go.wp_at_succ

theorem ftake_ok {l : List UInt8} (h : (ftake l).2.2 = 0) : 4 ≤ (ftake l).2.1 ∧ (ftake l).2.1 ≤ l.length := by
  unfold ftake at h ⊢
  split at h
  · simp at h
  · rename_i n k _
    by_cases h1 : 65536 < n
    · rw [if_pos h1] at h; simp at h
    · rw [if_neg h1] at h ⊢
      by_cases h2 : l.length < k + n + 4
      · rw [if_pos h2] at h; simp at h
      · rw [if_neg h2] at h ⊢
        by_cases h3 : four (sumW (l.take (k + n))) = (l.drop (k + n)).take 4
        · rw [if_pos h3]; dsimp only; omega
        · rw [if_neg h3] at h; simp at h
/-- the texts of the frames that bytes begin with, and how many bytes these have -/
def fpre (l : List UInt8) : List (List UInt8) × Nat :=
  if _h : (ftake l).2.2 = 0 then ((ftake l).1 :: (fpre (l.drop (ftake l).2.1)).1, (ftake l).2.1 + (fpre (l.drop (ftake l).2.1)).2) else ([], 0)
  termination_by l.length
  decreasing_by all_goals (have := ftake_ok _h; simp; omega)
theorem fpre_ok {l : List UInt8} (h : (ftake l).2.2 = 0) : fpre l = ((ftake l).1 :: (fpre (l.drop (ftake l).2.1)).1, (ftake l).2.1 + (fpre (l.drop (ftake l).2.1)).2) := by rw [fpre, dif_pos h]
theorem fpre_bad {l : List UInt8} (h : (ftake l).2.2 ≠ 0) : fpre l = ([], 0) := by rw [fpre, dif_neg h]
def fone (l : List UInt8) : List UInt8 × Nat := if (ftake l).2.2 ≠ 0 then ([], (ftake l).2.2) else if (ftake l).2.1 < l.length then ([], 2) else ((ftake l).1, 0)
theorem SlB.grown {w w' : World} {A : Option Addr} {c : Nat} {row : Option Nat} {l : List UInt8} (h : SlB w A c l) (hb : w.grownBy w' row) (hA : l ≠ [] → A.map (·.block) ≠ row) : SlB w' A c l := by
  refine ⟨h.1, h.2.1, h.2.2.1, h.2.2.2.1, fun j u hj => ?_⟩
  obtain ⟨ad, hA2, hc⟩ := h.2.2.2.2 j u hj
  have hne : l ≠ [] := by intro e; rw [e] at hj; simp at hj
  subst hA2
  exact ⟨ad, rfl, hb.cell hc (by rw [addr_add_block]; exact hA hne)⟩

set_option maxRecDepth 100000 in
set_option maxHeartbeats 1000000 in
theorem FOne_any (A : Option Addr) (c : Nat) (l : List UInt8) (w : World) (hs : SlB w A c l) (hl : l.length ≤ 10000000) :
    Calls Try.prog 81 #[.slice A l.length c] w (JoinsB w (fone l)) := by
  go_enter Try.func81, Try.ntmps81
  go_wp2_with fail
  refine (FTake_any A c l _ hs hl).mono ?_
  rintro e w1 ⟨A1, c1, m1, he, hm1, ho1, hb1⟩
  rcases errv_cases (ftake l).2.2 with ⟨h0, hev⟩ | ⟨k, hk, hke, hev⟩
  · rw [hev] at he
    subst he
    by_cases hlt : (ftake l).2.1 < l.length
    · have hf := Lib.hid (show fone l = ([], 2) from by unfold fone; rw [if_neg (by omega), if_pos hlt])
      have hi : (((ftake l).2.1 : Nat) : Int) < (l.length : Int) := by omega
      generalize (ftake l).2.1 = q at *
      clear h0 hm1
      go_wp2_with fail
      go_ret2
      exact ⟨none, 0, [], by rw [hf.out]; rfl, by rw [hf.out]; rfl, Sl.none_ _ _, hb1⟩
    · have hf := Lib.hid (show fone l = ((ftake l).1, 0) from by unfold fone; rw [if_neg (by omega), if_neg hlt])
      have hi : ¬ (((ftake l).2.1 : Nat) : Int) < (l.length : Int) := by omega
      have hm : Hid (m1 = (fone l).1) := (show _ = _ from by rw [hf.out]; exact hm1.out)
      generalize (ftake l).2.1 = q at *
      clear h0 hm1
      go_wp2_with fail
      go_ret2
      exact ⟨A1, c1, m1, by rw [hf.out]; rfl, hm, ho1.1, hb1⟩
  · have hf := Lib.hid (show fone l = ([], (ftake l).2.2) from by unfold fone; rw [if_pos (by omega)])
    have hfe : errv (fone l).2 = .iface 115 (.int .i64 k) := by rw [hf.out]; exact hev
    have HFE := Lib.hid hfe
    rw [hev] at he
    subst he
    generalize (ftake l).2.1 = q at *
    clear hev hfe hm1 hke
    go_wp2_with fail
    go_ret2
    exact ⟨none, 0, [], by rw [HFE.out]; rfl, by rw [hf.out]; rfl, Sl.none_ _ _, hb1⟩

/-- append of texts, and where they then are -/
theorem wpl_texts2 {w : World} {ops : Array Oper} {rest : List Oper} {o : Oper} {a : Act} {Q : Exit → Act → World → Prop} (hgd : o.guard = none) (s x : Operand)
    (ho : o.op = .call { callee := .builtin .append, args := #[s, x], argTypes := #[200, 200] })
    (base : Nat) (A : Option Addr) (c : Nat) (l : List Pt) (hs : a.eval s = .slice A l.length c) (hown : OwnT w base A c l)
    (A2 : Option Addr) (c2 : Nat) (l2 : List Pt) (hx : a.eval x = .slice A2 l2.length c2) (hr : SlT w A2 c2 l2)
    (hlen : l.length + l2.length ≤ 100000000) (hbase : base ≤ w.heap.size)
    (h : ∀ A' c' (m : List Pt) w', Hid (m = l ++ l2) → OwnT w' base A' c' m → w.grownBy w' (A.map (·.block)) → (A'.map (·.block) = A.map (·.block) ∨ A'.map (·.block) = some w.heap.size) → Below base w w' → wpList Try.prog ops Q rest (a.put o.dst (.slice A' m.length c')) w') : wpList Try.prog ops Q (o :: rest) a w := by
  obtain ⟨i0, hi, hz0, hz1, hz2⟩ := info_parts sl_info
  refine wpl_append hgd s x 200 ho base 22 i0 (.slice none 0 0) 1 24 Try.underlying200 hi hz0 hz1 hz2 rfl (by decide) A l.length c (l.map pv) hs hown A2 l2.length c2 (l2.map pv) hx hr (one_pv l2) (by omega) (by simp only [maxLen]; omega) hbase ?_
  intro A' c' w' hap
  rw [← List.length_append]
  refine h A' c' (l ++ l2) w' rfl ?_ hap.grown hap.place (hap.below hown hbase)
  have := hap.own
  simpa [OwnT] using this
/-- each text can be read, and lies beside the row -/
def TX (w : World) (Pb : Option Nat → Prop) (B : Option Addr) (ps : List Pt) : Prop := ∀ x ∈ ps, SlB w x.1 x.2.1 x.2.2 ∧ (x.2.2 ≠ [] → x.1.map (·.block) ≠ B.map (·.block) ∧ Pb (x.1.map (·.block)))
theorem TX.below {w w' : World} {Pb : Option Nat → Prop} {B : Option Addr} {ps : List Pt} (h : TX w Pb B ps) (hb : Below w.heap.size w w') : TX w' Pb B ps := fun x hx => ⟨(h x hx).1.below hb, (h x hx).2⟩
theorem TX.grown {w w' : World} {Pb : Option Nat → Prop} {B B' : Option Addr} {ps : List Pt} (h : TX w Pb B ps) (hb : w.grownBy w' (B.map (·.block))) (hp : B'.map (·.block) = B.map (·.block) ∨ B'.map (·.block) = some w.heap.size) : TX w' Pb B' ps := fun x hx => by
  refine ⟨SlB.grown (h x hx).1 hb (fun hne => ((h x hx).2 hne).1), fun hne => ⟨?_, ((h x hx).2 hne).2⟩⟩
  rcases hp with hp | hp
  · rw [hp]; exact ((h x hx).2 hne).1
  · rw [hp]; exact SlB.old (h x hx).1 (Nat.le_refl _) hne
/-- a block from n on -/
def From (n : Nat) (b : Option Nat) : Prop := ∀ g, b = some g → n ≤ g
/-- what Prefix answers -/
def PreB (w0 : World) (o : List (List UInt8) × Nat) (e : Ending) (w' : World) : Prop :=
  ∃ A c ps, e = .returned (.tuple #[.slice A (List.length ps) c, .int .i64 (o.2 : Nat)]) ∧ Hid (ptx ps = o.1) ∧ SlT w' A c ps ∧ (∀ x ∈ ps, SlB w' x.1 x.2.1 x.2.2 ∧ (x.2.2 ≠ [] → From w0.heap.size (x.1.map (·.block)))) ∧ From w0.heap.size (A.map (·.block)) ∧ Below w0.heap.size w0 w'

theorem meas_step {n a q : Nat} (h : a + q ≤ n) (h4 : 4 ≤ q) : n - (intOf (.int .i64 ((a : Int) + (q : Int)))).toNat < n - (intOf (.int .i64 (a : Int))).toNat := by
  have h1 : (intOf (.int .i64 ((a : Int) + (q : Int)))).toNat = a + q := by show ((a : Int) + (q : Int)).toNat = a + q; omega
  have h2 : (intOf (.int .i64 (a : Int))).toNat = a := by show (a : Int).toNat = a; omega
  rw [h1, h2]
  omega
end Go.Proofs.Ytgipfenjachpnaa

namespace Go.Proofs.Ytgipfenjachpnaa
open Go.RowKit
attribute [local go_sem ↓] Go.wp_at_zero Go.wp_at_succ

theorem list_beq' (l m : List UInt8) : (l == m) = decide (l = m) := by
  by_cases h : l = m
  · subst h; simp
  · simp [h]
/-- what the document's Take answers -/
def RTakesF (w0 : World) (A0 : Option Addr) (o : List UInt8 × Nat × Nat) (e : Ending) (w' : World) : Prop :=
  ∃ A c m, e = .returned (.tuple #[.slice A (List.length m) c, .int .i64 (o.2.1 : Nat), .int .i64 (o.2.2 : Nat)]) ∧ Hid (m = o.1) ∧ SlB w' A c m ∧ Below w0.heap.size w0 w' ∧ (m ≠ [] → A.map (·.block) = A0.map (·.block))
theorem Sl.lt0 {w : World} {size n c : Nat} {A : Option Addr} {xs : List Value} (h : Sl w size A n c xs) (hne : xs ≠ []) : ∀ g, A.map (·.block) = some g → g < w.heap.size := by
  intro g hg
  rcases Nat.lt_or_ge g w.heap.size with h1 | h1
  · exact h1
  · exact absurd hg (Sl.old h h1 hne)

theorem shift_block (A : Option Addr) (k : Nat) : (Option.map (fun x => x.add k) A).map (·.block) = A.map (·.block) := by cases A <;> simp [addr_add_block]
set_option maxRecDepth 100000 in
set_option maxHeartbeats 2000000 in
theorem rFTake_any (A : Option Addr) (c : Nat) (l : List UInt8) (w : World) (hs : SlB w A c l) (hl : l.length ≤ 10000000) :
    Calls Try.prog 84 #[.slice A l.length c] w (RTakesF w A (ftake l)) := by
  have hc1 := hs.2.1
  go_enter Try.func84, Try.ntmps84
  go_wp2_with fail
  refine (rTake_any A c l _ hs).mono ?_
  rintro e w1 ⟨hb1, ⟨ht, rfl⟩ | ⟨n, k, ht, rfl⟩⟩
  · have hf := Lib.hid (ftake_none ht)
    clear ht
    go_wp2_with fail
    go_ret3
    exact ⟨none, 0, [], by rw [hf.out]; rfl, by rw [hf.out]; rfl, Sl.none_ _ _, hb1, fun h => absurd rfl h⟩
  · obtain ⟨hu, hkl, _⟩ := take_some ht
    by_cases hn : 65536 < n
    · have hf := Lib.hid (ftake_long ht hn)
      have hni : (65536 : Int) < (n : Int) := by omega
      clear ht
      go_wp2_with fail
      go_ret3
      exact ⟨none, 0, [], by rw [hf.out]; rfl, by rw [hf.out]; rfl, Sl.none_ _ _, hb1, fun h => absurd rfl h⟩
    · have hni : ¬ (65536 : Int) < (n : Int) := by omega
      have hw64 : wrap64 (n : Int) = (n : Int) := by simp only [wrap64]; omega
      obtain ⟨q, hq⟩ : ∃ q, q = k + n := ⟨_, rfl⟩
      have hqi : (k : Int) + (n : Int) = (q : Int) := by omega
      by_cases hsh : l.length < k + n + 4
      · have hf := Lib.hid (ftake_short ht hn hsh)
        have hqs : (l.length : Int) < (q : Int) + 4 := by omega
        clear ht hq
        go_wp2_with fail
        go_ret3
        exact ⟨none, 0, [], by rw [hf.out]; rfl, by rw [hf.out]; rfl, Sl.none_ _ _, hb1, fun h => absurd rfl h⟩
      · have hqs : ¬ (l.length : Int) < (q : Int) + 4 := by omega
        have hkq : k ≤ q := by omega
        have hql : q + 4 ≤ l.length := by omega
        have hf : ftake l = if four (sumW (l.take q)) = (l.drop q).take 4 then ((l.take q).drop k, q + 4, 0) else ([], 0, 11) := by
          unfold ftake; rw [ht]; dsimp only; rw [if_neg hn, if_neg hsh, hq]
        have HF := Lib.hid hf
        clear ht hq hsh hf
        have hs1 := hs.below hb1
        have hqc : ¬ (c = q) := by omega
        have hkc : ¬ (c = k) := by omega
        have hq1 : q ≤ c := by omega
        have hq2 : q + 4 ≤ c := by omega
        have hT := Sl.takeB hs1 q
        have hD := Sl.take (Sl.cutB hs1 (k := q) (by omega)) (k := 4) (by omega)
        rw [if_neg hqc, show (bvs (l.drop q)).take 4 = bvs ((l.drop q).take 4) from by simp [bvs, List.map_take, List.map_drop]] at hD
        have hl2 : ((l.drop q).take 4).length = 4 := by simp; omega
        have htl : (l.take q).length = q := by simp; omega
        have hX := Sl.cutB hT (k := k) (by omega)
        have hX0 := Sl.cutB (Sl.takeB hs q) (k := k) (by omega)
        rw [if_neg hkc, htl, show q - k = ((l.take q).drop k).length from by rw [List.length_drop, htl]] at hX hX0
        have hxl := Lib.hid (show ((l.take q).drop k).length = q - k from by rw [List.length_drop, htl])
        generalize (l.take q).drop k = xt at *
        generalize hg2 : (l.drop q).take 4 = l2 at *
        generalize hg1 : l.take q = l1 at *
        clear hg1 hg2 hs1
        rw [← hl2] at hD
        subst htl
        have H4 := Lib.hid hl2
        obtain ⟨p4, hp4⟩ : ∃ p4, p4 = l1.length + 4 := ⟨_, rfl⟩
        have hwq : IntKind.i64.wrap ((l1.length : Int) + 4) = (p4 : Int) := by rw [IntKind.wrap_i64]; omega
        have hpc : p4 ≤ c := by omega
        have hlp : l1.length ≤ p4 := by omega
        have hps : p4 - l1.length = 4 := by omega
        have HP4 := Lib.hid hp4
        clear hp4
        clear hl2
        go_wp2_with fail
        go_cut [41] (fun s41 wx => s41 = .bool (!decide (four (sumW l1) = l2)) ∧ Below w1.heap.size w1 wx)
        case first =>
          have hT' : SlB w1.drew A c l1 := hT
          refine wp_region_held_drew (S := (fun W => SlB W (Option.map (fun x => x.add l1.length) A) (c - l1.length) l2)) (by kernel_rfl) ?_ (fun hHeld => ?_)
          · first | exact hD | exact hD2
          refine wpAnyH_take (i := 0) (oi := ⟨some 29, _, _, _, _, _⟩) (v := ?_) rfl (by kernel_rfl) (by kernel_rfl) (by kernel_rfl) (fun _ _ _ h => h) (Or.inl ⟨by kernel_rfl, ?_⟩) (by assumption) ?_
          rotate_left
          · (intro wS hSw; (try dsimp only at hSw); have hcv := conv_str (P := Try.prog) 22 9 5 Try.underlying22 Try.underlying5 Try.underlying9 (n := 4) hSw H4.out.symm; go_simp; (try with_reducible rfl))
          (try simp only [Act.put, List.setIfInBounds_toArray, List.set_cons_zero, List.set_cons_succ])
          refine wpAnyH_take (i := 1) (oi := ⟨some 30, _, _, _, _, _⟩) (v := ?_) rfl (by kernel_rfl) (by kernel_rfl) (by kernel_rfl) (fun _ _ _ h => h) (Or.inl ⟨by kernel_rfl, ?_⟩) (by assumption) ?_
          rotate_left
          · (intro wS hSw; (try dsimp only at hSw); have hcv := conv_str (P := Try.prog) 22 9 5 Try.underlying22 Try.underlying5 Try.underlying9 (n := 4) hSw H4.out.symm; go_simp; (try with_reducible rfl))
          (try simp only [Act.put, List.setIfInBounds_toArray, List.set_cons_zero, List.set_cons_succ])
          refine wpAnyH_take (i := 2) (oi := ⟨some 31, _, _, _, _, _⟩) (v := ?_) rfl (by kernel_rfl) (by kernel_rfl) (by kernel_rfl) (fun _ _ _ h => h) (Or.inl ⟨by kernel_rfl, ?_⟩) (by assumption) ?_
          rotate_left
          · (intro wS hSw; (try dsimp only at hSw); have hcv := conv_str (P := Try.prog) 22 9 5 Try.underlying22 Try.underlying5 Try.underlying9 (n := 4) hSw H4.out.symm; go_simp; (try with_reducible rfl))
          (try simp only [Act.put, List.setIfInBounds_toArray, List.set_cons_zero, List.set_cons_succ])
          refine wpAnyH_take (i := 6) (oi := ⟨some 35, _, _, _, _, _⟩) (v := ?_) rfl (by kernel_rfl) (by kernel_rfl) (by kernel_rfl) (fun _ _ _ h => h) (Or.inl ⟨by kernel_rfl, ?_⟩) (by assumption) ?_
          rotate_left
          · (intro wS hSw; (try dsimp only at hSw); have hcv := conv_str (P := Try.prog) 22 9 5 Try.underlying22 Try.underlying5 Try.underlying9 (n := 4) hSw H4.out.symm; go_simp; (try with_reducible rfl))
          (try simp only [Act.put, List.setIfInBounds_toArray, List.set_cons_zero, List.set_cons_succ])
          refine wpAnyH_take (i := 7) (oi := ⟨some 36, _, _, _, _, _⟩) (v := ?_) rfl (by kernel_rfl) (by kernel_rfl) (by kernel_rfl) (fun _ _ _ h => h) (Or.inl ⟨by kernel_rfl, ?_⟩) (by assumption) ?_
          rotate_left
          · (intro wS hSw; (try dsimp only at hSw); have hcv := conv_str (P := Try.prog) 22 9 5 Try.underlying22 Try.underlying5 Try.underlying9 (n := 4) hSw H4.out.symm; go_simp; (try with_reducible rfl))
          (try simp only [Act.put, List.setIfInBounds_toArray, List.set_cons_zero, List.set_cons_succ])
          refine wpAnyH_take (i := 8) (oi := ⟨some 37, _, _, _, _, _⟩) (v := ?_) rfl (by kernel_rfl) (by kernel_rfl) (by kernel_rfl) (fun _ _ _ h => h) (Or.inl ⟨by kernel_rfl, ?_⟩) (by assumption) ?_
          rotate_left
          · (intro wS hSw; (try dsimp only at hSw); have hcv := conv_str (P := Try.prog) 22 9 5 Try.underlying22 Try.underlying5 Try.underlying9 (n := 4) hSw H4.out.symm; go_simp; (try with_reducible rfl))
          (try simp only [Act.put, List.setIfInBounds_toArray, List.set_cons_zero, List.set_cons_succ])
          refine wpAnyH_take (i := 9) (oi := ⟨some 38, _, _, _, _, _⟩) (v := ?_) rfl (by kernel_rfl) (by kernel_rfl) (by kernel_rfl) (fun _ _ _ h => h) (Or.inl ⟨by kernel_rfl, ?_⟩) (by assumption) ?_
          rotate_left
          · (intro wS hSw; (try dsimp only at hSw); have hcv := conv_str (P := Try.prog) 22 9 5 Try.underlying22 Try.underlying5 Try.underlying9 (n := 4) hSw H4.out.symm; go_simp; (try with_reducible rfl))
          (try simp only [Act.put, List.setIfInBounds_toArray, List.set_cons_zero, List.set_cons_succ])
          refine wpAnyH_take (i := 10) (oi := ⟨some 39, _, _, _, _, _⟩) (v := ?_) rfl (by kernel_rfl) (by kernel_rfl) (by kernel_rfl) (fun _ _ _ h => h) (Or.inl ⟨by kernel_rfl, ?_⟩) (by assumption) ?_
          rotate_left
          · (intro wS hSw; (try dsimp only at hSw); have hcv := conv_str (P := Try.prog) 22 9 5 Try.underlying22 Try.underlying5 Try.underlying9 (n := 4) hSw H4.out.symm; go_simp; (try with_reducible rfl))
          (try simp only [Act.put, List.setIfInBounds_toArray, List.set_cons_zero, List.set_cons_succ])
          refine wpAnyH_take (i := 11) (oi := ⟨some 40, _, _, _, _, _⟩) (v := ?_) rfl (by kernel_rfl) (by kernel_rfl) (by kernel_rfl) (fun _ _ _ h => h) (Or.inl ⟨by kernel_rfl, ?_⟩) (by assumption) ?_
          rotate_left
          · (intro wS hSw; (try dsimp only at hSw); have hcv := conv_str (P := Try.prog) 22 9 5 Try.underlying22 Try.underlying5 Try.underlying9 (n := 4) hSw H4.out.symm; go_simp; (try with_reducible rfl))
          (try simp only [Act.put, List.setIfInBounds_toArray, List.set_cons_zero, List.set_cons_succ])
          refine wpAnyH_ready (rs := [3]) (by kernel_rfl) (by simp) ?_
          refine AllReadyH.cons (o := ⟨some 32, _, _, _, _, _⟩) rfl (fun K hK => ?_) AllReadyH.nil
          go_simp
          (refine (rSum_any A c l1 _ hT' (by omega)).mono ?_; rintro e w13 ⟨rfl, rfl⟩)
          go_wp2_with fail
          refine hK.out _ _ ?_ (fun hHeld => ?_)
          · ((try dsimp only); (first | exact hD | exact hD2))
          clear hK K
          (try simp only [Act.put, List.setIfInBounds_toArray, List.set_cons_zero, List.set_cons_succ])
          refine wpAnyH_ready (rs := [4]) (by kernel_rfl) (by simp) ?_
          refine AllReadyH.cons (o := ⟨some 33, _, _, _, _, _⟩) rfl (fun K hK => ?_) AllReadyH.nil
          go_simp
          (refine (rFour_any (sumW l1) _).mono ?_; rintro e w14 ⟨A14, c14, m14, rfl, hm14, hs14, hb14⟩; have hD2 := Sl.below hD (below_of_drew hb14); have hcv := conv_str (P := Try.prog) 22 9 5 Try.underlying22 Try.underlying5 Try.underlying9 hs14 rfl)
          go_wp2_with fail
          refine hK.out _ _ ?_ (fun hHeld => ?_)
          · ((try dsimp only); (first | exact hD | exact hD2))
          clear hK K
          (try simp only [Act.put, List.setIfInBounds_toArray, List.set_cons_zero, List.set_cons_succ])
          refine wpAnyH_ready (rs := [5]) (by kernel_rfl) (by simp) ?_
          refine AllReadyH.cons (o := ⟨some 34, _, _, _, _, _⟩) rfl (fun K hK => ?_) AllReadyH.nil
          go_simp
          refine hK.out _ _ ?_ (fun hHeld => ?_)
          · ((try dsimp only); (first | exact hD | exact hD2))
          clear hK K
          (try simp only [Act.put, List.setIfInBounds_toArray, List.set_cons_zero, List.set_cons_succ])
          refine wpAnyH_take (i := 12) (oi := ⟨some 41, _, _, _, _, _⟩) (v := ?_) rfl (by kernel_rfl) (by kernel_rfl) (by kernel_rfl) (fun _ _ _ h => h) (Or.inl ⟨by kernel_rfl, ?_⟩) (by assumption) ?_
          rotate_left
          · (intro wS hSw; (try dsimp only at hSw); have hcv := conv_str (P := Try.prog) 22 9 5 Try.underlying22 Try.underlying5 Try.underlying9 (n := 4) hSw H4.out.symm; go_simp; (try with_reducible rfl))
          (try simp only [Act.put, List.setIfInBounds_toArray, List.set_cons_zero, List.set_cons_succ])
          refine wpAnyH_done (by kernel_rfl) ?_ _
          go_wp2_with fail
          go_meet
          refine ⟨?_, below_of_drew hb14⟩
          rw [← hm14.out]
          exact congrArg Value.bool (congrArg not (list_beq' m14 l2))
        case rest =>
          obtain ⟨rfl, hbc⟩ := hcut
          have hw := bel_call hb1 hbc
          have hXc := hX.below hbc
          have hlt : xt ≠ [] → (Option.map (fun x => x.add k) A).map (·.block) = A.map (·.block) := fun _ => shift_block A k
          clear hT hD hX hX0 hbc
          by_cases he : four (sumW l1) = l2
          · have hd : decide (four (sumW l1) = l2) = true := decide_eq_true he
            have hov := Lib.hid (show ftake l = (xt, p4, 0) from by rw [HF.out, if_pos he, HP4.out])
            rw [hd]
            clear HF he hd
            go_wp2_with fail
            go_ret3
            refine ⟨_, c - k, xt, ?_, by rw [hov.out]; rfl, hXc, hw, hlt⟩
            rw [hov.out, hxl.out]
            rfl
          · have hd : decide (four (sumW l1) = l2) = false := decide_eq_false he
            have hov := Lib.hid (show ftake l = ([], 0, 11) from by rw [HF.out, if_neg he])
            rw [hd]
            clear HF he hd
            go_wp2_with fail
            go_ret3
            exact ⟨none, 0, [], by rw [hov.out]; rfl, by rw [hov.out]; rfl, Sl.none_ _ _, hw, fun h => absurd rfl h⟩
/-- what the document's Prefix answers -/
def RPreB (w0 : World) (A0 : Option Addr) (o : List (List UInt8) × Nat) (bad : Nat) (e : Ending) (w' : World) : Prop :=
  ∃ A c ps, e = .returned (.tuple #[.slice A (List.length ps) c, .int .i64 (o.2 : Nat), .int .i64 (bad : Nat)]) ∧ Hid (ptx ps = o.1) ∧ SlT w' A c ps ∧ (∀ x ∈ ps, SlB w' x.1 x.2.1 x.2.2 ∧ (x.2.2 ≠ [] → x.1.map (·.block) = A0.map (·.block))) ∧ From w0.heap.size (A.map (·.block)) ∧ Below w0.heap.size w0 w'
/-- the number of what follows the frames: 0: nothing does -/
def fbad (l : List UInt8) : Nat := if (fpre l).2 = l.length then 0 else (ftake (l.drop (fpre l).2)).2.2

theorem fpre_nil : fpre [] = ([], 0) := fpre_bad (by rw [ftake_none (by rfl)]; simp)
theorem fpre_end (n : Nat) : ∀ l : List UInt8, l.length ≤ n → (fpre l).2 ≤ l.length ∧ (ftake (l.drop (fpre l).2)).2.2 ≠ 0 := by
  induction n with
  | zero =>
    intro l hl
    have : l = [] := List.eq_nil_of_length_eq_zero (by omega)
    subst this
    rw [fpre_nil, List.drop_nil, ftake_none (by rfl)]
    simp
  | succ n ih =>
    intro l hl
    by_cases h : (ftake l).2.2 = 0
    · obtain ⟨h1, h2⟩ := ftake_ok h
      rw [fpre_ok h]
      obtain ⟨i1, i2⟩ := ih (l.drop (ftake l).2.1) (by simp; omega)
      rw [List.drop_drop] at i2
      simp only [List.length_drop] at i1
      exact ⟨by dsimp only; omega, i2⟩
    · rw [fpre_bad h]
      exact ⟨by simp, by simpa using h⟩
end Go.Proofs.Ytgipfenjachpnaa

namespace Go.Proofs.Ytgipfenjachpnaa
open Go.RowKit
attribute [local go_sem ↓] Go.wp_at_zero Go.wp_at_succ

def fall (l : List UInt8) : List (List UInt8) := if (fpre l).2 = l.length then (fpre l).1 else []
/-- what All answers -/
def AllsB (w0 : World) (o : List (List UInt8)) (bad : Nat) (e : Ending) (w' : World) : Prop :=
  ∃ A c ps, e = .returned (.tuple #[.slice A (List.length ps) c, errv bad]) ∧ Hid (ptx ps = o) ∧ SlT w' A c ps ∧ (∀ x ∈ ps, SlB w' x.1 x.2.1 x.2.2 ∧ (x.2.2 ≠ [] → From w0.heap.size (x.1.map (·.block)))) ∧ From w0.heap.size (A.map (·.block)) ∧ Below w0.heap.size w0 w'
theorem fbad_ne {l : List UInt8} (h : (fpre l).2 ≠ l.length) : fbad l = (ftake (l.drop (fpre l).2)).2.2 ∧ fbad l ≠ 0 := by
  have h1 : fbad l = (ftake (l.drop (fpre l).2)).2.2 := by unfold fbad; rw [if_neg h]
  exact ⟨h1, by rw [h1]; exact (fpre_end _ l (Nat.le_refl _)).2⟩
end Go.Proofs.Ytgipfenjachpnaa

namespace Go.Proofs.Ytgipfenjachpnaa
open Go.RowKit
attribute [local go_sem ↓] Go.wp_at_zero Go.wp_at_succ

theorem ftake_empty {l : List UInt8} (h : (ftake l).2.2 ≠ 0) : (ftake l).1 = [] := by
  unfold ftake at h ⊢
  split at h
  · rfl
  · rename_i n k hv
    by_cases h1 : 65536 < n
    · rw [if_pos h1]
    · rw [if_neg h1] at h ⊢
      by_cases h2 : l.length < k + n + 4
      · rw [if_pos h2]
      · rw [if_neg h2] at h ⊢
        by_cases h3 : four (sumW (l.take (k + n))) = (l.drop (k + n)).take 4
        · rw [if_pos h3] at h; simp at h
        · rw [if_neg h3]
/-- bytes that can be read, each a place, a capacity, its bytes -/
structure BSt (w : World) (ls : List Pt) (W : World) : Prop where
  bel : Below w.heap.size w W
  sl : ∀ x ∈ ls, SlB W x.1 x.2.1 x.2.2
theorem BSt.at {w W : World} {ls : List Pt} (h : BSt w ls W) {A : Option Addr} {c : Nat} {l : List UInt8} (hm : (A, c, l) ∈ ls) : SlB W A c l := h.sl _ hm
theorem BSt.below {w W W' : World} {ls : List Pt} (h : BSt w ls W) (hb : Below W.heap.size W W') : BSt w ls W' := ⟨bel_call h.bel hb, fun x hx => (h.sl x hx).below hb⟩
theorem BSt.add {w W : World} {ls : List Pt} (h : BSt w ls W) {A : Option Addr} {c : Nat} {l : List UInt8} (hs : SlB W A c l) : BSt w ((A, c, l) :: ls) W := ⟨h.bel, fun x hx => by
  rw [List.mem_cons] at hx
  rcases hx with rfl | hx
  · exact hs
  · exact h.sl x hx⟩

/-- a row of bytes that can be written -/
structure Wri (w : World) (g off : Nat) (m : List UInt8) : Prop where
  blk : ∃ cur, w.heap[g]? = some (.cells cur 5)
  at_ : ∀ j (h : j < m.length), w.cell? ⟨g, off + j, none⟩ = some (bv m[j])
theorem Wri.frozen {w : World} {g off : Nat} {m : List UInt8} (h : Wri w g off m) (i : Nat) : w.frozen? ⟨g, i, none⟩ = false := by
  obtain ⟨cur, hc⟩ := h.blk
  simp [World.frozen?, hc]
theorem Wri.set {w : World} {g off : Nat} {m : List UInt8} (h : Wri w g off m) {k : Nat} (_hk : k < m.length) (x : UInt8) : Wri (w.setCell ⟨g, off + k, none⟩ (bv x)) g off (m.set k x) := by
  obtain ⟨cur, hc⟩ := h.blk
  refine ⟨⟨cur.setIfInBounds (off + k) (bv x), by simp [World.setCell, Array.getElem?_modify, hc]⟩, fun j hj => ?_⟩
  have hj2 : j < m.length := by simpa using hj
  have h1 := h.at_ j hj2
  rw [cell_of_row w g _ cur 5 (0, 0) hc] at h1
  rw [cell_of_row _ g _ (cur.setIfInBounds (off + k) (bv x)) 5 (0, 0) (by simp [World.setCell, Array.getElem?_modify, hc])]
  rw [Array.getElem?_setIfInBounds, List.getElem_set]
  by_cases e : k = j
  · subst e
    rw [if_pos rfl, if_pos rfl, if_pos (Array.getElem?_eq_some_iff.1 h1).1]
  · rw [if_neg (by omega), if_neg e]; exact h1
/-- all blocks but those between lo and hi stay -/
structure Beside (lo hi : Nat) (W W' : World) : Prop where
  size : W.heap.size ≤ W'.heap.size
  block : ∀ k, k < W.heap.size → (k < lo ∨ hi ≤ k) → W'.heap[k]? = W.heap[k]?
theorem Beside.refl (lo hi : Nat) (W : World) : Beside lo hi W W := ⟨Nat.le_refl _, fun _ _ _ => rfl⟩
theorem Beside.set {lo hi : Nat} {W W' : World} (h : Beside lo hi W W') {g i : Nat} (h1 : lo ≤ g) (h2 : g < hi) (u : Value) : Beside lo hi W (W'.setCell ⟨g, i, none⟩ u) :=
  ⟨by simpa using h.size, fun k hk hs => (Below.heap_setCell W' ⟨g, i, none⟩ u k (by show k ≠ g; omega)).trans (h.block k hk hs)⟩
theorem Beside.sl {lo hi : Nat} {W W' : World} (h : Beside lo hi W W') {size n c : Nat} {A : Option Addr} {xs : List Value} (hs : Sl W size A n c xs) (hA : xs ≠ [] → ∀ g, A.map (·.block) = some g → g < lo ∨ hi ≤ g) : Sl W' size A n c xs := by
  refine ⟨hs.1, hs.2.1, hs.2.2.1, hs.2.2.2.1, fun j u hj => ?_⟩
  obtain ⟨ad, rfl, hc⟩ := hs.2.2.2.2 j u hj
  have hne : xs ≠ [] := by intro e; rw [e] at hj; simp at hj
  refine ⟨ad, rfl, ?_⟩
  have hlt := World.block_lt_of_cell? W _ hc
  have hb := h.block _ hlt (by rw [addr_add_block]; exact hA hne _ rfl)
  rw [← hc]
  unfold World.cell?
  rw [hb]

theorem meas_one {n k : Nat} (h : k < n) : n - (intOf (.int .i64 ((k : Int) + 1))).toNat < n - (intOf (.int .i64 (k : Int))).toNat := by
  have h1 : (intOf (.int .i64 ((k : Int) + 1))).toNat = k + 1 := by show ((k : Int) + 1).toNat = k + 1; omega
  have h2 : (intOf (.int .i64 (k : Int))).toNat = k := by show (k : Int).toNat = k; omega
  rw [h1, h2]
  omega
theorem val_one (k : Nat) : Value.int .i64 ((k : Int) + 1) = .int .i64 ((k + 1 : Nat) : Int) := rfl

end Go.Proofs.Ytgipfenjachpnaa

namespace Go.Proofs.Ytgipfenjachpnaa
open Go.RowKit
attribute [local go_sem ↓] Go.wp_at_zero Go.wp_at_succ

def sat (s : Sg) (a : Int) : Ce × Bool := if a < s.1 ∨ (s.2.length : Int) ≤ a - s.1 then ((0, []), false) else (s.2.getD (a - s.1).toNat (0, []), true)
/-- the cell of a segment, and whether there is one -/
def GivesAt (w0 : World) (x : Ce × Bool) (e : Ending) (w' : World) : Prop :=
  ∃ A c m, e = .returned (.tuple #[cv x.1.1 A (List.length m) c, .bool x.2]) ∧ Hid (m = x.1.2) ∧ SlB w' A c m ∧ Below w0.heap.size w0 w'
end Go.Proofs.Ytgipfenjachpnaa

namespace Go.Proofs.Ytgipfenjachpnaa
theorem longb_all {l : List CeV} {n : Int} (h : longb (l.map ceOf) n = false) (hn : n ≤ 1000) : (∀ x ∈ l, x.2.2.2.length ≤ 1000000000) ∧ l.length ≤ 1000 := by
  unfold longb at h
  simp only [Bool.or_eq_false_iff, decide_eq_false_iff_not, List.any_eq_false] at h
  refine ⟨fun x hx => ?_, ?_⟩
  · have := h.1 (ceOf x) (List.mem_map_of_mem hx)
    simp at this
    omega
  · have := h.2
    simp at this
    omega
end Go.Proofs.Ytgipfenjachpnaa

namespace Go.Proofs.Ytgipfenjachpnaa
open Go.RowKit
attribute [local go_sem ↓] Go.wp_at_zero Go.wp_at_succ

/-- the segment that bytes are; an error's number -/
def sgEnd (x : Sg × Rs) : Sg × Nat := if rEnd x.2 ≠ 0 then ((0, []), rEnd x.2) else if schk x.1 ≠ 0 then ((0, []), schk x.1) else (x.1, 0)
def sgRead (s : Rs) : Sg × Rs := ((((rWithin 1048576 s).1 : Int), (takeRun (rWithin 1048576 s).2).1), (takeRun (rWithin 1048576 s).2).2)
def sgTake (b : List UInt8) : Sg × Nat := if (fone b).2 ≠ 0 then ((0, []), (fone b).2) else sgEnd (sgRead ((fone b).1, 0))
theorem End_s {g B : Nat} {s : Rs} {w : World} (hR : IsR w g B s) : Calls Try.prog 32 #[.pointer (some ⟨g, 0, none⟩)] w fun e w' => e = .returned (errv (rEnd s)) ∧ w = w' := by obtain ⟨l, b⟩ := s; exact End_any hR
theorem NewS.setLow {w : World} {base g c : Nat} {A : Option Addr} {m : List CeV} (h : NewS w base A c m) (hg : g < base) (i : Nat) (u : Value) : NewS (w.setCell ⟨g, i, none⟩ u) base A c m := ⟨Own.set1 h.1 hg _, fun x hx => Own.set1 (h.2 x hx) hg _⟩
theorem fone_len (b : List UInt8) : (fone b).1.length ≤ b.length := by
  unfold fone
  split
  · simp
  · split
    · simp
    · unfold ftake
      split
      · simp
      · split
        · simp
        · split
          · simp
          · split
            · simp only [List.length_drop, List.length_take]; omega
            · simp
end Go.Proofs.Ytgipfenjachpnaa

namespace Go.Proofs.Ytgipfenjachpnaa
open Go.RowKit
attribute [local go_sem ↓] Go.wp_at_zero Go.wp_at_succ

theorem rEnd_v {A : Option Addr} {c : Nat} {s : Rs} (w : World) : Calls Try.prog 33 #[rv A s.1.length c s.2] w fun e w' => e = .returned (.int .i64 (rEnd s : Nat)) ∧ Below w.heap.size w w' := by obtain ⟨l, b⟩ := s; exact rEnd_any w
theorem rWithin_v {A : Option Addr} {c : Nat} {s : Rs} (most : Nat) (w : World) (hS : SlB w A c s.1) {B : Nat} (hBd : s.1 ≠ [] → ∀ ad, A = some ad → ad.block < B) : Calls Try.prog 70 #[rv A s.1.length c s.2, .int .u64 most] w (RGives .i64 B (rWithin most s) w) := by obtain ⟨l, b⟩ := s; exact rWithin_any most w hS hBd
end Go.Proofs.Ytgipfenjachpnaa
