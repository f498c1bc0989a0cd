/- WHAT IT HOLDS: frame.Join, and the document's frames, walked. -/
import Derived.Test.YtkkcgibmcijhaaaFrmF
namespace Go.Proofs.Ytkkcgibmcijhaaa
open Go.RowKit
attribute [local go_sem ↓] Go.wp_at_zero Go.wp_at_succ

def ptx (ps : List Pt) : List (List UInt8) := ps.map (·.2.2)
theorem ptx_get {ps : List Pt} {k : Nat} (h : k < (ptx ps).length) (h2 : k < ps.length) : (ptx ps)[k] = ps[k].2.2 := List.getElem_map _
def frms (ts : List (List UInt8)) : List UInt8 := ts.flatMap frm
def fjoin (ts : List (List UInt8)) : List UInt8 × Nat := if ts.any (fun t => decide (65536 < t.length)) then ([], 3) else (frms ts, 0)
theorem fjoin_long {ts : List (List UInt8)} {k : Nat} (hk : k < ts.length) (h : 65536 < ts[k].length) : fjoin ts = ([], 3) := by
  unfold fjoin; rw [if_pos]
  exact List.any_eq_true.2 ⟨ts[k], List.getElem_mem hk, decide_eq_true h⟩
theorem fjoin_ok {ts : List (List UInt8)} (h : ∀ t ∈ ts, t.length ≤ 65536) : fjoin ts = (frms ts, 0) := by
  unfold fjoin; rw [if_neg]
  intro he
  obtain ⟨t, ht, hd⟩ := List.any_eq_true.1 he
  have := of_decide_eq_true hd
  have := h t ht
  omega
theorem frms_snoc {ts : List (List UInt8)} {k : Nat} (hk : k < ts.length) : frms (ts.take (k + 1)) = frms (ts.take k) ++ frm ts[k] := by
  unfold frms; rw [List.take_succ_eq_append_getElem hk, List.flatMap_append]; simp
theorem frms_le {ts : List (List UInt8)} (h : ∀ t ∈ ts, t.length ≤ 70000) : (frms ts).length ≤ 70014 * ts.length := by
  induction ts with
  | nil => simp [frms]
  | cons t ts ih =>
    have h1 := h t (by simp)
    have h2 := ih (fun q hq => h q (by simp [hq]))
    have h3 := frm_len t
    have h4 := vb_le10 (n := t.length) (by omega)
    simp only [frms, List.flatMap_cons, List.length_append, List.length_cons] at h2 ⊢
    omega
/-- what Join answers -/
def JoinsB (w0 : World) (o : List UInt8 × Nat) (e : Ending) (w' : World) : Prop :=
  ∃ A c m, e = .returned (.tuple #[.slice A (List.length m) c, errv o.2]) ∧ Hid (m = o.1) ∧ SlB w' A c m ∧ Below w0.heap.size w0 w'

set_option maxRecDepth 100000 in
set_option maxHeartbeats 1000000 in
theorem rFrame_any (A : Option Addr) (c : Nat) (t : List UInt8) (w : World) (hs : SlB w A c t) (ht : t.length ≤ 1000000) :
    Calls Try.prog 115 #[.slice A t.length c] w (GivesB w (frm t)) := by
  have hvl := Lib.hid (vb_le10 (n := t.length) (by omega))
  go_enter Try.func115, Try.ntmps115
  go_wp2_with fail
  refine (rText_any A c t _ hs (by omega)).mono ?_
  rintro e w1 ⟨A1, c1, m1, rfl, hm1, ho1, hb1⟩
  have hm1' := Lib.hid (show m1 = txb t from hm1.out)
  have hl1 := Lib.hid (show m1.length ≤ 1000010 from by rw [hm1'.out]; unfold txb; rw [List.length_append]; have := hvl.out; omega)
  go_wp2_with fail
  refine (rSum_any A1 c1 m1 _ ho1.sl (by have := hl1.out; omega)).mono ?_
  rintro e w2 ⟨rfl, rfl⟩
  go_wp2_with fail
  refine (rFour_any (sumW m1) _).mono ?_
  rintro e w3 ⟨A3, c3, m3, rfl, hm3, hs3, hb3⟩
  have hl3 := Lib.hid (show m3.length = 4 from by rw [hm3.out, four_len])
  go_wp2_with (at_builtin; go_must (refine wpl_bytes 40 5 Try.underlying40 u8_info rfl _ _ rfl w.heap.size A1 c1 m1 rfl (ho1.below hb3) A3 c3 m3 rfl hs3 (by have := hl1.out; have := hl3.out; omega) (Nat.le_trans hb1.size hb3.size) ?_; intro A4 c4 m4 w4 hm4 ho4 _ _ hb4))
  go_ret
  exact ⟨A4, c4, m4, rfl, (show m4 = _ from by rw [hm4.out, hm3.out, hm1'.out]; rfl), ho4, (bel_call hb1 hb3).trans hb4⟩
end Go.Proofs.Ytkkcgibmcijhaaa
