/- WHAT IT HOLDS: the law FrameJoins, walked. | WHAT IT HOLDS: frame.One, Prefix, All, walked. | WHAT IT HOLDS: signed numbers' numbers, plainly (no program). | WHAT IT HOLDS: what is put is taken as it was, of the reader's plain functions (no program). | WHAT IT HOLDS: one frame, put and taken, plainly (no program). -/
import Derived.Test.YtlpniegemklfeaaGreatDoorRegisterStaysG23
import Derived.Test.YtlpniegemklfeaaGreatDoorRegisterStaysG05
import Derived.Lib.Zigzag
import Derived.Test.YtlpniegemklfeaaGreatDoorRegisterStaysG07
namespace Go.Proofs.YtlpniegemklfeaaGreatDoor
open Go.RowKit
attribute [local go_sem ↓] Go.wp_at_zero Go.wp_at_succ

theorem sl_info : (Tryz.prog.info? 34).map (fun i => (i.zero, i.size, i.bytes)) = some (some (.slice none 0 0), 1, 24) := by kernel_rfl
theorem frms_le' {ts : List (List UInt8)} (h : ∀ t ∈ ts, t.length ≤ 300) : (frms ts).length ≤ 314 * ts.length := by
  induction ts with
  | nil => simp [frms]
  | cons t ts ih =>
    have h1 := h t (by simp)
    have h2 := ih (fun q hq => h q (by simp [hq]))
    have h3 := frm_len t
    have h4 := vb_le10 (n := t.length) (by omega)
    simp only [frms, List.flatMap_cons, List.length_append, List.length_cons] at h2 ⊢
    omega
/-- texts of the call's own -/
abbrev OwnPt (w : World) (base : Nat) (A : Option Addr) (c : Nat) (ps : List Pt) : Prop := Own w base 34 1 A ps.length c (ps.map pv)
abbrev SlPt (w : World) (A : Option Addr) (c : Nat) (ps : List Pt) : Prop := Sl w 1 A ps.length c (ps.map pv)
theorem one_pv (ps : List Pt) : ∀ u ∈ ps.map pv, u.oneCell' = true := by
  intro u hu
  simp only [List.mem_map] at hu
  obtain ⟨b, _, rfl⟩ := hu
  rfl
/-- append of texts -/
theorem wpl_texts {w : World} {ops : Array Oper} {rest : List Oper} {o : Oper} {a : Act} {Q : Exit → Act → World → Prop} (hgd : o.guard = none) (s x : Operand)
    (ho : o.op = .call { callee := .builtin .append, args := #[s, x], argTypes := #[234, 234] })
    (base : Nat) (A : Option Addr) (c : Nat) (l : List Pt) (hs : a.eval s = .slice A l.length c) (hown : OwnPt w base A c l)
    (A2 : Option Addr) (c2 : Nat) (l2 : List Pt) (hx : a.eval x = .slice A2 l2.length c2) (hr : SlPt w A2 c2 l2)
    (hlen : l.length + l2.length ≤ 100000) (hbase : base ≤ w.heap.size)
    (h : ∀ A' c' (m : List Pt) w', Hid (m = l ++ l2) → OwnPt w' base A' c' m → Below base w w' → wpList Tryz.prog ops Q rest (a.put o.dst (.slice A' m.length c')) w') : wpList Tryz.prog ops Q (o :: rest) a w := by
  obtain ⟨i0, hi, hz0, hz1, hz2⟩ := info_parts sl_info
  refine wpl_append hgd s x 234 ho base 34 i0 (.slice none 0 0) 1 24 Tryz.underlying234 hi hz0 hz1 hz2 rfl (by decide) A l.length c (l.map pv) hs hown A2 l2.length c2 (l2.map pv) hx hr (one_pv l2) (by omega) (by simp only [maxLen]; omega) hbase ?_
  intro A' c' w' hap
  rw [← List.length_append]
  refine h A' c' (l ++ l2) w' rfl ?_ (hap.below hown hbase)
  have := hap.own
  simpa [OwnPt] using this

end Go.Proofs.YtlpniegemklfeaaGreatDoor

namespace Go.Proofs.YtlpniegemklfeaaGreatDoor
open Go.RowKit
attribute [local go_sem ↓] Go.wp_at_zero Go.wp_at_succ

theorem ftake_ok {l : List UInt8} (h : (ftake l).2.2 = 0) : 4 ≤ (ftake l).2.1 ∧ (ftake l).2.1 ≤ l.length := by
  unfold ftake at h ⊢
  split at h
  · simp at h
  · rename_i n k _
    by_cases h1 : 65536 < n
    · rw [if_pos h1] at h; simp at h
    · rw [if_neg h1] at h ⊢
      by_cases h2 : l.length < k + n + 4
      · rw [if_pos h2] at h; simp at h
      · rw [if_neg h2] at h ⊢
        by_cases h3 : four (sumW (l.take (k + n))) = (l.drop (k + n)).take 4
        · rw [if_pos h3]; dsimp only; omega
        · rw [if_neg h3] at h; simp at h
/-- the texts of the frames that bytes begin with, and how many bytes these have -/
def fpre (l : List UInt8) : List (List UInt8) × Nat :=
  if _h : (ftake l).2.2 = 0 then ((ftake l).1 :: (fpre (l.drop (ftake l).2.1)).1, (ftake l).2.1 + (fpre (l.drop (ftake l).2.1)).2) else ([], 0)
  termination_by l.length
  decreasing_by all_goals (have := ftake_ok _h; simp; omega)
theorem fpre_ok {l : List UInt8} (h : (ftake l).2.2 = 0) : fpre l = ((ftake l).1 :: (fpre (l.drop (ftake l).2.1)).1, (ftake l).2.1 + (fpre (l.drop (ftake l).2.1)).2) := by rw [fpre, dif_pos h]
theorem fpre_bad {l : List UInt8} (h : (ftake l).2.2 ≠ 0) : fpre l = ([], 0) := by rw [fpre, dif_neg h]
def fone (l : List UInt8) : List UInt8 × Nat := if (ftake l).2.2 ≠ 0 then ([], (ftake l).2.2) else if (ftake l).2.1 < l.length then ([], 2) else ((ftake l).1, 0)
theorem SlB.grown {w w' : World} {A : Option Addr} {c : Nat} {row : Option Nat} {l : List UInt8} (h : SlB w A c l) (hb : w.grownBy w' row) (hA : l ≠ [] → A.map (·.block) ≠ row) : SlB w' A c l := by
  refine ⟨h.1, h.2.1, h.2.2.1, h.2.2.2.1, fun j u hj => ?_⟩
  obtain ⟨ad, hA2, hc⟩ := h.2.2.2.2 j u hj
  have hne : l ≠ [] := by intro e; rw [e] at hj; simp at hj
  subst hA2
  exact ⟨ad, rfl, hb.cell hc (by rw [addr_add_block]; exact hA hne)⟩

set_option maxRecDepth 100000 in
set_option maxHeartbeats 1000000 in
theorem FOne_any (A : Option Addr) (c : Nat) (l : List UInt8) (w : World) (hs : SlB w A c l) (hl : l.length ≤ 10000000) :
    Calls Tryz.prog 52 #[.slice A l.length c] w (JoinsB w (fone l)) := by
  go_enter Tryz.func52, Tryz.ntmps52
  go_wp2_with fail
  refine (FTake_any A c l _ hs hl).mono ?_
  rintro e w1 ⟨A1, c1, m1, he, hm1, ho1, hb1⟩
  rcases errv_cases (ftake l).2.2 with ⟨h0, hev⟩ | ⟨k, hk, hke, hev⟩
  · rw [hev] at he
    subst he
    by_cases hlt : (ftake l).2.1 < l.length
    · have hf := Lib.hid (show fone l = ([], 2) from by unfold fone; rw [if_neg (by omega), if_pos hlt])
      have hi : (((ftake l).2.1 : Nat) : Int) < (l.length : Int) := by omega
      generalize (ftake l).2.1 = q at *
      clear h0 hm1
      go_wp2_with fail
      go_ret2
      exact ⟨none, 0, [], by rw [hf.out]; rfl, by rw [hf.out]; rfl, Sl.none_ _ _, hb1⟩
    · have hf := Lib.hid (show fone l = ((ftake l).1, 0) from by unfold fone; rw [if_neg (by omega), if_neg hlt])
      have hi : ¬ (((ftake l).2.1 : Nat) : Int) < (l.length : Int) := by omega
      have hm : Hid (m1 = (fone l).1) := (show _ = _ from by rw [hf.out]; exact hm1.out)
      generalize (ftake l).2.1 = q at *
      clear h0 hm1
      go_wp2_with fail
      go_ret2
      exact ⟨A1, c1, m1, by rw [hf.out]; rfl, hm, ho1.1, hb1⟩
  · have hf := Lib.hid (show fone l = ([], (ftake l).2.2) from by unfold fone; rw [if_pos (by omega)])
    have hfe : errv (fone l).2 = .iface 59 (.int .i64 k) := by rw [hf.out]; exact hev
    have HFE := Lib.hid hfe
    rw [hev] at he
    subst he
    generalize (ftake l).2.1 = q at *
    clear hev hfe hm1 hke
    go_wp2_with fail
    go_ret2
    exact ⟨none, 0, [], by rw [HFE.out]; rfl, by rw [hf.out]; rfl, Sl.none_ _ _, hb1⟩

/-- append of texts, and where they then are -/
theorem wpl_texts2 {w : World} {ops : Array Oper} {rest : List Oper} {o : Oper} {a : Act} {Q : Exit → Act → World → Prop} (hgd : o.guard = none) (s x : Operand)
    (ho : o.op = .call { callee := .builtin .append, args := #[s, x], argTypes := #[234, 234] })
    (base : Nat) (A : Option Addr) (c : Nat) (l : List Pt) (hs : a.eval s = .slice A l.length c) (hown : OwnPt w base A c l)
    (A2 : Option Addr) (c2 : Nat) (l2 : List Pt) (hx : a.eval x = .slice A2 l2.length c2) (hr : SlPt w A2 c2 l2)
    (hlen : l.length + l2.length ≤ 100000000) (hbase : base ≤ w.heap.size)
    (h : ∀ A' c' (m : List Pt) w', Hid (m = l ++ l2) → OwnPt w' base A' c' m → w.grownBy w' (A.map (·.block)) → (A'.map (·.block) = A.map (·.block) ∨ A'.map (·.block) = some w.heap.size) → Below base w w' → wpList Tryz.prog ops Q rest (a.put o.dst (.slice A' m.length c')) w') : wpList Tryz.prog ops Q (o :: rest) a w := by
  obtain ⟨i0, hi, hz0, hz1, hz2⟩ := info_parts sl_info
  refine wpl_append hgd s x 234 ho base 34 i0 (.slice none 0 0) 1 24 Tryz.underlying234 hi hz0 hz1 hz2 rfl (by decide) A l.length c (l.map pv) hs hown A2 l2.length c2 (l2.map pv) hx hr (one_pv l2) (by omega) (by simp only [maxLen]; omega) hbase ?_
  intro A' c' w' hap
  rw [← List.length_append]
  refine h A' c' (l ++ l2) w' rfl ?_ hap.grown hap.place (hap.below hown hbase)
  have := hap.own
  simpa [OwnPt] using this
/-- each text can be read, and lies beside the row -/
def TX (w : World) (Pb : Option Nat → Prop) (B : Option Addr) (ps : List Pt) : Prop := ∀ x ∈ ps, SlB w x.1 x.2.1 x.2.2 ∧ (x.2.2 ≠ [] → x.1.map (·.block) ≠ B.map (·.block) ∧ Pb (x.1.map (·.block)))
theorem TX.below {w w' : World} {Pb : Option Nat → Prop} {B : Option Addr} {ps : List Pt} (h : TX w Pb B ps) (hb : Below w.heap.size w w') : TX w' Pb B ps := fun x hx => ⟨(h x hx).1.below hb, (h x hx).2⟩
theorem TX.grown {w w' : World} {Pb : Option Nat → Prop} {B B' : Option Addr} {ps : List Pt} (h : TX w Pb B ps) (hb : w.grownBy w' (B.map (·.block))) (hp : B'.map (·.block) = B.map (·.block) ∨ B'.map (·.block) = some w.heap.size) : TX w' Pb B' ps := fun x hx => by
  refine ⟨SlB.grown (h x hx).1 hb (fun hne => ((h x hx).2 hne).1), fun hne => ⟨?_, ((h x hx).2 hne).2⟩⟩
  rcases hp with hp | hp
  · rw [hp]; exact ((h x hx).2 hne).1
  · rw [hp]; exact SlB.old (h x hx).1 (Nat.le_refl _) hne
/-- a block from n on -/
def From (n : Nat) (b : Option Nat) : Prop := ∀ g, b = some g → n ≤ g
/-- what Prefix answers -/
def PreB (w0 : World) (o : List (List UInt8) × Nat) (e : Ending) (w' : World) : Prop :=
  ∃ A c ps, e = .returned (.tuple #[.slice A (List.length ps) c, .int .i64 (o.2 : Nat)]) ∧ Hid (ptx ps = o.1) ∧ SlPt w' A c ps ∧ (∀ x ∈ ps, SlB w' x.1 x.2.1 x.2.2 ∧ (x.2.2 ≠ [] → From w0.heap.size (x.1.map (·.block)))) ∧ From w0.heap.size (A.map (·.block)) ∧ Below w0.heap.size w0 w'

theorem meas_step {n a q : Nat} (h : a + q ≤ n) (h4 : 4 ≤ q) : n - (intOf (.int .i64 ((a : Int) + (q : Int)))).toNat < n - (intOf (.int .i64 (a : Int))).toNat := by
  have h1 : (intOf (.int .i64 ((a : Int) + (q : Int)))).toNat = a + q := by show ((a : Int) + (q : Int)).toNat = a + q; omega
  have h2 : (intOf (.int .i64 (a : Int))).toNat = a := by show (a : Int).toNat = a; omega
  rw [h1, h2]
  omega
end Go.Proofs.YtlpniegemklfeaaGreatDoor

namespace Go.Proofs.YtlpniegemklfeaaGreatDoor
open Go.RowKit

/-- a signed number's number, and back -/
def zz (n : Int) : Nat := if 0 ≤ n then (2 * n).toNat else (-2 * n - 1).toNat
def zb (u : Nat) : Int := if u % 2 = 0 then (u / 2 : Nat) else -((u / 2 : Nat) : Int) - 1
theorem zz_u64 {n : Int} (h : I64 n) : U64 (zz n) := by
  unfold I64 at h
  unfold U64 zz
  split <;> omega
theorem zz_zb (u : Nat) : zz (zb u) = u := by
  unfold zz zb
  split <;> split <;> omega
theorem zig_val {n : Int} (h : I64 n) : bits BinOp.xor IntKind.u64 (IntKind.u64.wrap (IntKind.u64.wrap n * 2)) (IntKind.u64.wrap (n / 9223372036854775808)) = ((zz n : Nat) : Int) := by
  unfold I64 at h
  unfold zz
  rw [IntKind.wrap_u64, IntKind.wrap_u64, IntKind.wrap_u64]
  by_cases h0 : 0 ≤ n
  · rw [if_pos h0, show n % 18446744073709551616 * 2 % 18446744073709551616 = (((2 * n).toNat : Nat) : Int) from by omega, show n / 9223372036854775808 % 18446744073709551616 = ((0 : Nat) : Int) from by omega,
      bits_xor_u64_nat _ _ (by omega) (by omega), Nat.xor_zero]
  · rw [if_neg h0, show n % 18446744073709551616 * 2 % 18446744073709551616 = (((2 * n + 18446744073709551616).toNat : Nat) : Int) from by omega,
      show n / 9223372036854775808 % 18446744073709551616 = ((18446744073709551615 : Nat) : Int) from by omega, bits_xor_u64_nat _ _ (by omega) (by omega), Nat.xor_comm]
    have := Lib.xor_ones64 (2 * n + 18446744073709551616).toNat (by omega)
    rw [show (18446744073709551615 : Nat) = 2 ^ 64 - 1 from by decide, this]
    omega
theorem wrap64_of {n : Int} (h : I64 n) : wrap64 n = n := IntWalk.wrap64_in n h
theorem zag_val {n : Nat} (h : U64 n) : bits BinOp.xor IntKind.i64 (wrap64 ((n : Int) / 2)) (wrap64 (-wrap64 (bits BinOp.and IntKind.u64 (n : Int) 1))) = zb n := by
  unfold U64 at h
  unfold zb
  rw [Lib.u64_and1 _ (by omega) (by omega), wrap64_of (n := (n : Int) / 2) (by unfold I64; omega), wrap64_of (n := (n : Int) % 2) (by unfold I64; omega), wrap64_of (n := -((n : Int) % 2)) (by unfold I64; omega)]
  by_cases h0 : n % 2 = 0
  · rw [if_pos h0, show -((n : Int) % 2) = 0 from by omega]
    show IntKind.i64.wrap ((BitVec.ofInt 64 ((n : Int) / 2) ^^^ BitVec.ofInt 64 0).toNat : Int) = _
    rw [show BitVec.ofInt 64 0 = 0#64 from rfl, BitVec.xor_zero, show (n : Int) / 2 = ((n / 2 : Nat) : Int) from by omega, BitVec.ofInt_natCast, BitVec.toNat_ofNat, IntKind.wrap_i64]
    omega
  · rw [if_neg h0, show -((n : Int) % 2) = -1 from by omega]
    have e := Lib.i64_not (n / 2) (by omega)
    have hc : bits .xor .i64 ((n : Int) / 2) (-1) = bits .xor .i64 (-1) ((n / 2 : Nat) : Int) := by
      show IntKind.i64.wrap ((BitVec.ofInt 64 ((n : Int) / 2) ^^^ BitVec.ofInt 64 (-1)).toNat : Int) = IntKind.i64.wrap ((BitVec.ofInt 64 (-1) ^^^ BitVec.ofInt 64 ((n / 2 : Nat) : Int)).toNat : Int)
      rw [BitVec.xor_comm, show (n : Int) / 2 = ((n / 2 : Nat) : Int) from by omega]
    rw [hc, e]
theorem zig_pos {n : Int} (h : I64 n) (h0 : 0 ≤ n) : IntKind.u64.wrap (2 * IntKind.u64.wrap n) = ((zz n : Nat) : Int) := by
  unfold I64 at h
  unfold zz
  rw [if_pos h0, IntKind.wrap_u64, IntKind.wrap_u64]
  omega
theorem zig_neg {n : Int} (h : I64 n) (h0 : n < 0) : ∃ p q r s, wrap64 (n + 1) = p ∧ wrap64 (-p) = q ∧ IntKind.u64.wrap q = r ∧ IntKind.u64.wrap (2 * r) = s ∧ IntKind.u64.wrap (s + 1) = ((zz n : Nat) : Int) := by
  refine ⟨_, _, _, _, rfl, rfl, rfl, rfl, ?_⟩
  unfold I64 at h
  unfold zz
  rw [if_neg (by omega), wrap64_of (n := n + 1) (by unfold I64; omega), wrap64_of (n := -(n + 1)) (by unfold I64; omega), IntKind.wrap_u64, IntKind.wrap_u64, IntKind.wrap_u64]
  omega
theorem zag_even {u : Nat} (h : U64 u) (h0 : u % 2 = 0) : ∃ a, IntKind.u64.wrap ((u : Int) / 2) = a ∧ wrap64 a = zb u := by
  refine ⟨_, rfl, ?_⟩
  unfold U64 at h
  unfold zb
  rw [if_pos h0, IntKind.wrap_u64, wrap64_of (by unfold I64; omega)]
  omega
theorem zag_odd {u : Nat} (h : U64 u) (h0 : ¬ u % 2 = 0) : ∃ a b d, IntKind.u64.wrap ((u : Int) / 2) = a ∧ wrap64 a = b ∧ wrap64 (-b) = d ∧ wrap64 (d - 1) = zb u := by
  refine ⟨_, _, _, rfl, rfl, rfl, ?_⟩
  unfold U64 at h
  unfold zb
  rw [if_neg h0, IntKind.wrap_u64, wrap64_of (n := (u : Int) / 2 % 18446744073709551616) (by unfold I64; omega), wrap64_of (n := -((u : Int) / 2 % 18446744073709551616)) (by unfold I64; omega),
    wrap64_of (n := -((u : Int) / 2 % 18446744073709551616) - 1) (by unfold I64; omega)]
  omega
end Go.Proofs.YtlpniegemklfeaaGreatDoor

namespace Go.Proofs.YtlpniegemklfeaaGreatDoor
open Go.RowKit

theorem rNum_vb {n : Nat} (h : U64 n) (r : List UInt8) : rNum (vb n ++ r, 0) = (n, (r, 0)) := by
  unfold rNum
  rw [if_neg (by simp)]
  simp only [take_vb h r, List.drop_left]
theorem rCount_vb {n : Nat} (h : U64 n) {most : Int} (hm : (n : Int) ≤ most) (r : List UInt8) : rCount most (vb n ++ r, 0) = (n, (r, 0)) := by
  unfold rCount
  rw [rNum_vb h, if_neg (by simp), if_neg (by simp only [gt_iff_lt]; omega)]
theorem rNums_vbs : ∀ {l : List Nat}, (∀ n ∈ l, U64 n) → ∀ r, rNums l.length (vbs l ++ r, 0) = (l, (r, 0))
  | [], _, r => rfl
  | n :: l, h, r => by
    have h1 := rNums_vbs (l := l) (fun k hk => h k (by simp [hk])) r
    simp only [vbs, List.flatMap_cons, List.append_assoc, List.length_cons] at h1 ⊢
    unfold rNums
    rw [rNum_vb (h n (by simp)), if_neg (by simp), h1, if_neg (by simp)]
theorem rList_lb {l : List Nat} (h : ∀ n ∈ l, U64 n) (hl : U64 l.length) {most : Int} (hm : (l.length : Int) ≤ most) (r : List UInt8) : rList most (lb l ++ r, 0) = (l, (r, 0)) := by
  unfold rList lb
  rw [List.append_assoc, rCount_vb hl hm, rNums_vbs h]
theorem rFixed_all (t r : List UInt8) : rFixed (t.length : Int) (t ++ r, 0) = (t, (r, 0)) := by
  unfold rFixed
  rw [if_neg (by simp), if_neg (by simp; omega)]
  simp
theorem rText_tb {t : List UInt8} (h : U64 t.length) {most : Int} (hm : (t.length : Int) ≤ most) (r : List UInt8) : rText most (vb t.length ++ (t ++ r), 0) = (t, (r, 0)) := by
  unfold rText
  rw [rCount_vb h hm, rFixed_all]
theorem zb_i64 {u : Nat} (h : U64 u) : I64 (zb u) := by
  unfold U64 at h
  unfold zb I64
  split <;> omega
end Go.Proofs.YtlpniegemklfeaaGreatDoor

namespace Go.Proofs.YtlpniegemklfeaaGreatDoor
open Go.RowKit

/-- what a frame was taken from is that frame -/
theorem ftake_back {l : List UInt8} (h : (ftake l).2.2 = 0) : (ftake l).1.length ≤ 65536 ∧ l.take (ftake l).2.1 = frm (ftake l).1 := by
  unfold ftake at h ⊢
  split at h
  · simp at h
  · rename_i n k hv
    obtain ⟨hu, hk, htk⟩ := take_some hv
    by_cases h1 : 65536 < n
    · rw [if_pos h1] at h; simp at h
    rw [if_neg h1] at h ⊢
    by_cases h2 : l.length < k + n + 4
    · rw [if_pos h2] at h; simp at h
    rw [if_neg h2] at h ⊢
    by_cases h3 : four (sumW (l.take (k + n))) = (l.drop (k + n)).take 4
    · rw [if_pos h3]
      dsimp only
      have hln : ((l.take (k + n)).drop k).length = n := by simp; omega
      have htx : txb ((l.take (k + n)).drop k) = l.take (k + n) := by
        unfold txb
        rw [hln, ← htk]
        have h5 : (l.take (k + n)).take k = l.take k := by rw [List.take_take, Nat.min_eq_left (by omega)]
        rw [← h5, List.take_append_drop]
      refine ⟨by omega, ?_⟩
      unfold frm
      rw [htx, h3, ← List.take_add]
    · rw [if_neg h3] at h; simp at h
theorem fone_back {l : List UInt8} (h : (fone l).2 = 0) : (fone l).1.length ≤ 65536 ∧ l = frm (fone l).1 := by
  unfold fone at h ⊢
  by_cases h1 : (ftake l).2.2 ≠ 0
  · rw [if_pos h1] at h; exact absurd h h1
  rw [if_neg h1] at h ⊢
  by_cases h2 : (ftake l).2.1 < l.length
  · rw [if_pos h2] at h; simp at h
  rw [if_neg h2]
  have h3 := ftake_back (l := l) (by omega)
  refine ⟨h3.1, ?_⟩
  rw [List.take_of_length_le (by omega)] at h3
  exact h3.2
theorem fone_frm {t : List UInt8} (h : t.length ≤ 65536) : fone (frm t) = (t, 0) := by
  have h1 := ftake_frm t [] h
  rw [List.append_nil] at h1
  unfold fone
  rw [h1, if_neg (by simp), if_neg (by simp)]
end Go.Proofs.YtlpniegemklfeaaGreatDoor
