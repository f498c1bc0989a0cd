/- WHAT IT HOLDS: frame.Join, and the document's frames, walked. -/
import Derived.Test.YtbgcofgckjdoiaaFrmF
namespace Go.Proofs.Ytbgcofgckjdoiaa
open Go.RowKit
attribute [local go_sem ↓] Go.wp_at_zero Go.wp_at_succ

def ptx (ps : List Pt) : List (List UInt8) := ps.map (·.2.2)
theorem ptx_get {ps : List Pt} {k : Nat} (h : k < (ptx ps).length) (h2 : k < ps.length) : (ptx ps)[k] = ps[k].2.2 := List.getElem_map _
def frms (ts : List (List UInt8)) : List UInt8 := ts.flatMap frm
def fjoin (ts : List (List UInt8)) : List UInt8 × Nat := if ts.any (fun t => decide (65536 < t.length)) then ([], 3) else (frms ts, 0)
theorem fjoin_long {ts : List (List UInt8)} {k : Nat} (hk : k < ts.length) (h : 65536 < ts[k].length) : fjoin ts = ([], 3) := by
  unfold fjoin; rw [if_pos]
  exact List.any_eq_true.2 ⟨ts[k], List.getElem_mem hk, decide_eq_true h⟩
theorem fjoin_ok {ts : List (List UInt8)} (h : ∀ t ∈ ts, t.length ≤ 65536) : fjoin ts = (frms ts, 0) := by
  unfold fjoin; rw [if_neg]
  intro he
  obtain ⟨t, ht, hd⟩ := List.any_eq_true.1 he
  have := of_decide_eq_true hd
  have := h t ht
  omega
theorem frms_snoc {ts : List (List UInt8)} {k : Nat} (hk : k < ts.length) : frms (ts.take (k + 1)) = frms (ts.take k) ++ frm ts[k] := by
  unfold frms; rw [List.take_succ_eq_append_getElem hk, List.flatMap_append]; simp
theorem frms_le {ts : List (List UInt8)} (h : ∀ t ∈ ts, t.length ≤ 70000) : (frms ts).length ≤ 70014 * ts.length := by
  induction ts with
  | nil => simp [frms]
  | cons t ts ih =>
    have h1 := h t (by simp)
    have h2 := ih (fun q hq => h q (by simp [hq]))
    have h3 := frm_len t
    have h4 := vb_le10 (n := t.length) (by omega)
    simp only [frms, List.flatMap_cons, List.length_append, List.length_cons] at h2 ⊢
    omega
/-- what Join answers -/
def JoinsB (w0 : World) (o : List UInt8 × Nat) (e : Ending) (w' : World) : Prop :=
  ∃ A c m, e = .returned (.tuple #[.slice A (List.length m) c, errv o.2]) ∧ Hid (m = o.1) ∧ SlB w' A c m ∧ Below w0.heap.size w0 w'

set_option maxRecDepth 100000 in
set_option maxHeartbeats 2000000 in
theorem FJoin_any (P : Option Addr) (cp : Nat) (ps : List Pt) (w : World) (hP : Sl w 1 P ps.length cp (ps.map pv)) (hs : ∀ x ∈ ps, SlB w x.1 x.2.1 x.2.2 ∧ x.2.2.length ≤ 70000) (hn : ps.length ≤ 100) :
    Calls Try.prog 51 #[.slice P ps.length cp] w (JoinsB w (fjoin (ptx ps))) := by
  have hlen : (ptx ps).length = ps.length := by unfold ptx; simp
  have hall : ∀ t ∈ ptx ps, t.length ≤ 70000 := by
    intro t ht
    unfold ptx at ht
    simp only [List.mem_map] at ht
    obtain ⟨x, hx, rfl⟩ := ht
    exact (hs x hx).2
  have HALL := Lib.hid hall
  have HLEN := Lib.hid hlen
  clear hall hlen
  go_enter Try.func51, Try.ntmps51
  go_wp2_with fail
  go_loopw [4, 11] (fun v i wr => ∃ (k : Nat) (B : Option Addr) (d : Nat) (m : List UInt8), k ≤ ps.length ∧ i = .int .i64 k ∧ v = .slice B m.length d ∧ Hid (m = frms ((ptx ps).take k)) ∧ Hid (∀ t ∈ (ptx ps).take k, t.length ≤ 65536) ∧ SlB wr B d m ∧ Below w.heap.size w wr) (fun v i w => ps.length - (intOf i).toNat)
  case atStart => exact ⟨0, none, 0, [], Nat.zero_le _, rfl, rfl, rfl, (fun t ht => by simp at ht), Sl.none_ _ _, Below.refl _ _⟩
  case round =>
    obtain ⟨k, B, d, m, hk, rfl, rfl, hm, hsm, hor, hbr⟩ := hrel
    by_cases hlt : k < ps.length
    · obtain ⟨ad, rfl, hc⟩ := (hP.below hbr).at1 hlt
      obtain ⟨q1, q2⟩ := hs ps[k] (List.getElem_mem hlt)
      have hk2 : k < (ptx ps).length := by rw [HLEN.out]; exact hlt
      have hpk := ptx_get hk2 hlt
      have hsn := Lib.hid (frms_snoc hk2)
      have hlo := Lib.hid (fun h => fjoin_long hk2 h)
      have hml := Lib.hid (show m.length ≤ 7001400 from by
        rw [hm.out]
        refine Nat.le_trans (frms_le (fun t ht => HALL.out t (List.mem_of_mem_take ht))) ?_
        have : ((ptx ps).take k).length ≤ 100 := by simp; omega
        omega)
      have hnx : Hid (ps[k].2.2.length ≤ 65536 → ∀ t ∈ (ptx ps).take (k + 1), t.length ≤ 65536) := (show _ → _ from fun hq t ht => by
        rw [List.take_succ_eq_append_getElem hk2, List.mem_append] at ht
        rcases ht with ht | ht
        · exact hsm.out t ht
        · simp only [List.mem_singleton] at ht
          rw [ht, hpk]; exact hq)
      rw [hpk] at hsn hlo
      clear hpk
      generalize ps[k] = x at *
      obtain ⟨xa, xc, xl⟩ := x
      dsimp only at q1 q2 hc hsn hlo hnx
      go_wp2_with fail
      refine (FPut_any B d m xa xc xl _ (by have := hml.out; omega) hor (q1.below hbr) (by omega)).mono ?_
      rintro e w2 ⟨A2, c2, m2, he, hm2, ho2, hb2⟩
      by_cases hx : 65536 < xl.length
      · have hfp : fput m xl = ([], 3) := by unfold fput; rw [if_pos hx]
        rw [hfp] at he
        have hev : errv (([] : List UInt8), 3).2 = .iface 76 (.int .i64 3) := rfl
        rw [hev] at he
        subst he
        have hF := Lib.hid (hlo.out hx)
        clear hfp hev
        go_wp2_with fail
        go_ret2
        exact ⟨none, 0, [], by rw [hF.out]; rfl, by rw [hF.out]; rfl, Sl.none_ _ _, bel_call hbr hb2⟩
      · have hfp : fput m xl = (m ++ frm xl, 0) := by unfold fput; rw [if_neg hx]
        rw [hfp] at he hm2
        have hev : errv (m ++ frm xl, 0).2 = .nilIface := rfl
        rw [hev] at he
        subst he
        clear hfp hev
        go_wp2_with fail
        go_roundw
        case rel => exact ⟨k + 1, A2, c2, m2, hlt, by go_num, rfl, (show _ = _ from by rw [hm2.out, hsn.out, hm.out]), hnx.out (by omega), ho2.sl, bel_call hbr hb2⟩
        case measure => simp [intOf]; omega
    · have hF := Lib.hid (show fjoin (ptx ps) = (frms (ptx ps), 0) from fjoin_ok (by
        have := hsm.out
        rw [List.take_of_length_le (by rw [HLEN.out]; omega)] at this
        exact this))
      go_wp2_with fail
      go_ret2
      exact ⟨B, d, m, by rw [hF.out]; rfl, by rw [hF.out]; show m = _; rw [hm.out, List.take_of_length_le (by rw [HLEN.out]; omega)], hor, hbr⟩

set_option maxRecDepth 100000 in
set_option maxHeartbeats 1000000 in
theorem rFrame_any (A : Option Addr) (c : Nat) (t : List UInt8) (w : World) (hs : SlB w A c t) (ht : t.length ≤ 1000000) :
    Calls Try.prog 52 #[.slice A t.length c] w (GivesB w (frm t)) := by
  have hvl := Lib.hid (vb_le10 (n := t.length) (by omega))
  go_enter Try.func52, Try.ntmps52
  go_wp2_with fail
  refine (rText_any A c t _ hs (by omega)).mono ?_
  rintro e w1 ⟨A1, c1, m1, rfl, hm1, ho1, hb1⟩
  have hm1' := Lib.hid (show m1 = txb t from hm1.out)
  have hl1 := Lib.hid (show m1.length ≤ 1000010 from by rw [hm1'.out]; unfold txb; rw [List.length_append]; have := hvl.out; omega)
  go_wp2_with fail
  refine (rSum_any A1 c1 m1 _ ho1.sl (by have := hl1.out; omega)).mono ?_
  rintro e w2 ⟨rfl, rfl⟩
  go_wp2_with fail
  refine (rFour_any (sumW m1) _).mono ?_
  rintro e w3 ⟨A3, c3, m3, rfl, hm3, hs3, hb3⟩
  have hl3 := Lib.hid (show m3.length = 4 from by rw [hm3.out, four_len])
  go_wp2_with (at_builtin; go_must (refine wpl_bytes 40 5 Try.underlying40 u8_info rfl _ _ rfl w.heap.size A1 c1 m1 rfl (ho1.below hb3) A3 c3 m3 rfl hs3 (by have := hl1.out; have := hl3.out; omega) (Nat.le_trans hb1.size hb3.size) ?_; intro A4 c4 m4 w4 hm4 ho4 _ _ hb4))
  go_ret
  exact ⟨A4, c4, m4, rfl, (show m4 = _ from by rw [hm4.out, hm3.out, hm1'.out]; rfl), ho4, (bel_call hb1 hb3).trans hb4⟩
end Go.Proofs.Ytbgcofgckjdoiaa
