/- WHAT IT HOLDS: the law FrameJoins, walked. | WHAT IT HOLDS: frame.One, Prefix, All, walked. | WHAT IT HOLDS: signed numbers' numbers, plainly (no program). | WHAT IT HOLDS: what is put is taken as it was, of the reader's plain functions (no program). | WHAT IT HOLDS: one frame, put and taken, plainly (no program). | WHAT IT HOLDS: a lease's bytes, plainly (no program). | WHAT IT HOLDS: a register's lease on its store, plainly. -/
import Derived.Test.YtddmfoldnlafaaaGreatDoorRegisterAloneG25
import Derived.Test.YtddmfoldnlafaaaGreatDoorRegisterAloneG03
import Derived.Lib.Zigzag
import Derived.Test.YtddmfoldnlafaaaGreatDoorRegisterAloneG09
import Derived.Test.YtddmfoldnlafaaaGreatDoorRegisterAloneG06
import Derived.Test.YtddmfoldnlafaaaGreatDoorRegisterAloneG22
namespace Go.Proofs.YtddmfoldnlafaaaGreatDoor
open Go.RowKit
attribute [local go_sem ↓] Go.wp_at_zero Go.wp_at_succ

theorem sl_info : (Tryz.prog.info? 25).map (fun i => (i.zero, i.size, i.bytes)) = some (some (.slice none 0 0), 1, 24) := by kernel_rfl
theorem frms_le' {ts : List (List UInt8)} (h : ∀ t ∈ ts, t.length ≤ 300) : (frms ts).length ≤ 314 * ts.length := by
  induction ts with
  | nil => simp [frms]
  | cons t ts ih =>
    have h1 := h t (by simp)
    have h2 := ih (fun q hq => h q (by simp [hq]))
    have h3 := frm_len t
    have h4 := vb_le10 (n := t.length) (by omega)
    simp only [frms, List.flatMap_cons, List.length_append, List.length_cons] at h2 ⊢
    omega
/-- texts of the call's own -/
abbrev OwnPt (w : World) (base : Nat) (A : Option Addr) (c : Nat) (ps : List Pt) : Prop := Own w base 25 1 A ps.length c (ps.map pv)
abbrev SlPt (w : World) (A : Option Addr) (c : Nat) (ps : List Pt) : Prop := Sl w 1 A ps.length c (ps.map pv)
theorem one_pv (ps : List Pt) : ∀ u ∈ ps.map pv, u.oneCell' = true := by
  intro u hu
  simp only [List.mem_map] at hu
  obtain ⟨b, _, rfl⟩ := hu
  rfl
/-- append of texts -/
theorem wpl_texts {w : World} {ops : Array Oper} {rest : List Oper} {o : Oper} {a : Act} {Q : Exit → Act → World → Prop} (hgd : o.guard = none) (s x : Operand)
    (ho : o.op = .call { callee := .builtin .append, args := #[s, x], argTypes := #[251, 251] })
    (base : Nat) (A : Option Addr) (c : Nat) (l : List Pt) (hs : a.eval s = .slice A l.length c) (hown : OwnPt w base A c l)
    (A2 : Option Addr) (c2 : Nat) (l2 : List Pt) (hx : a.eval x = .slice A2 l2.length c2) (hr : SlPt w A2 c2 l2)
    (hlen : l.length + l2.length ≤ 100000) (hbase : base ≤ w.heap.size)
    (h : ∀ A' c' (m : List Pt) w', Hid (m = l ++ l2) → OwnPt w' base A' c' m → Below base w w' → wpList Tryz.prog ops Q rest (a.put o.dst (.slice A' m.length c')) w') : wpList Tryz.prog ops Q (o :: rest) a w := by
  obtain ⟨i0, hi, hz0, hz1, hz2⟩ := info_parts sl_info
  refine wpl_append hgd s x 251 ho base 25 i0 (.slice none 0 0) 1 24 Tryz.underlying251 hi hz0 hz1 hz2 rfl (by decide) A l.length c (l.map pv) hs hown A2 l2.length c2 (l2.map pv) hx hr (one_pv l2) (by omega) (by simp only [maxLen]; omega) hbase ?_
  intro A' c' w' hap
  rw [← List.length_append]
  refine h A' c' (l ++ l2) w' rfl ?_ (hap.below hown hbase)
  have := hap.own
  simpa [OwnPt] using this

end Go.Proofs.YtddmfoldnlafaaaGreatDoor

namespace Go.Proofs.YtddmfoldnlafaaaGreatDoor
open Go.RowKit
attribute [local go_sem ↓] Go.wp_at_zero Go.wp_at_succ

theorem ftake_ok {l : List UInt8} (h : (ftake l).2.2 = 0) : 4 ≤ (ftake l).2.1 ∧ (ftake l).2.1 ≤ l.length := by
  unfold ftake at h ⊢
  split at h
  · simp at h
  · rename_i n k _
    by_cases h1 : 65536 < n
    · rw [if_pos h1] at h; simp at h
    · rw [if_neg h1] at h ⊢
      by_cases h2 : l.length < k + n + 4
      · rw [if_pos h2] at h; simp at h
      · rw [if_neg h2] at h ⊢
        by_cases h3 : four (sumW (l.take (k + n))) = (l.drop (k + n)).take 4
        · rw [if_pos h3]; dsimp only; omega
        · rw [if_neg h3] at h; simp at h
/-- the texts of the frames that bytes begin with, and how many bytes these have -/
def fpre (l : List UInt8) : List (List UInt8) × Nat :=
  if _h : (ftake l).2.2 = 0 then ((ftake l).1 :: (fpre (l.drop (ftake l).2.1)).1, (ftake l).2.1 + (fpre (l.drop (ftake l).2.1)).2) else ([], 0)
  termination_by l.length
  decreasing_by all_goals (have := ftake_ok _h; simp; omega)
theorem fpre_ok {l : List UInt8} (h : (ftake l).2.2 = 0) : fpre l = ((ftake l).1 :: (fpre (l.drop (ftake l).2.1)).1, (ftake l).2.1 + (fpre (l.drop (ftake l).2.1)).2) := by rw [fpre, dif_pos h]
theorem fpre_bad {l : List UInt8} (h : (ftake l).2.2 ≠ 0) : fpre l = ([], 0) := by rw [fpre, dif_neg h]
def fone (l : List UInt8) : List UInt8 × Nat := if (ftake l).2.2 ≠ 0 then ([], (ftake l).2.2) else if (ftake l).2.1 < l.length then ([], 2) else ((ftake l).1, 0)
theorem SlB.grown {w w' : World} {A : Option Addr} {c : Nat} {row : Option Nat} {l : List UInt8} (h : SlB w A c l) (hb : w.grownBy w' row) (hA : l ≠ [] → A.map (·.block) ≠ row) : SlB w' A c l := by
  refine ⟨h.1, h.2.1, h.2.2.1, h.2.2.2.1, fun j u hj => ?_⟩
  obtain ⟨ad, hA2, hc⟩ := h.2.2.2.2 j u hj
  have hne : l ≠ [] := by intro e; rw [e] at hj; simp at hj
  subst hA2
  exact ⟨ad, rfl, hb.cell hc (by rw [addr_add_block]; exact hA hne)⟩

set_option maxRecDepth 100000 in
set_option maxHeartbeats 1000000 in
theorem FOne_any (A : Option Addr) (c : Nat) (l : List UInt8) (w : World) (hs : SlB w A c l) (hl : l.length ≤ 10000000) :
    Calls Tryz.prog 53 #[.slice A l.length c] w (JoinsB w (fone l)) := by
  go_enter Tryz.func53, Tryz.ntmps53
  go_wp2_with fail
  refine (FTake_any A c l _ hs hl).mono ?_
  rintro e w1 ⟨A1, c1, m1, he, hm1, ho1, hb1⟩
  rcases errv_cases (ftake l).2.2 with ⟨h0, hev⟩ | ⟨k, hk, hke, hev⟩
  · rw [hev] at he
    subst he
    by_cases hlt : (ftake l).2.1 < l.length
    · have hf := Lib.hid (show fone l = ([], 2) from by unfold fone; rw [if_neg (by omega), if_pos hlt])
      have hi : (((ftake l).2.1 : Nat) : Int) < (l.length : Int) := by omega
      generalize (ftake l).2.1 = q at *
      clear h0 hm1
      go_wp2_with fail
      go_ret2
      exact ⟨none, 0, [], by rw [hf.out]; rfl, by rw [hf.out]; rfl, Sl.none_ _ _, hb1⟩
    · have hf := Lib.hid (show fone l = ((ftake l).1, 0) from by unfold fone; rw [if_neg (by omega), if_neg hlt])
      have hi : ¬ (((ftake l).2.1 : Nat) : Int) < (l.length : Int) := by omega
      have hm : Hid (m1 = (fone l).1) := (show _ = _ from by rw [hf.out]; exact hm1.out)
      generalize (ftake l).2.1 = q at *
      clear h0 hm1
      go_wp2_with fail
      go_ret2
      exact ⟨A1, c1, m1, by rw [hf.out]; rfl, hm, ho1.1, hb1⟩
  · have hf := Lib.hid (show fone l = ([], (ftake l).2.2) from by unfold fone; rw [if_pos (by omega)])
    have hfe : errv (fone l).2 = .iface 79 (.int .i64 k) := by rw [hf.out]; exact hev
    have HFE := Lib.hid hfe
    rw [hev] at he
    subst he
    generalize (ftake l).2.1 = q at *
    clear hev hfe hm1 hke
    go_wp2_with fail
    go_ret2
    exact ⟨none, 0, [], by rw [HFE.out]; rfl, by rw [hf.out]; rfl, Sl.none_ _ _, hb1⟩

/-- append of texts, and where they then are -/
theorem wpl_texts2 {w : World} {ops : Array Oper} {rest : List Oper} {o : Oper} {a : Act} {Q : Exit → Act → World → Prop} (hgd : o.guard = none) (s x : Operand)
    (ho : o.op = .call { callee := .builtin .append, args := #[s, x], argTypes := #[251, 251] })
    (base : Nat) (A : Option Addr) (c : Nat) (l : List Pt) (hs : a.eval s = .slice A l.length c) (hown : OwnPt w base A c l)
    (A2 : Option Addr) (c2 : Nat) (l2 : List Pt) (hx : a.eval x = .slice A2 l2.length c2) (hr : SlPt w A2 c2 l2)
    (hlen : l.length + l2.length ≤ 100000000) (hbase : base ≤ w.heap.size)
    (h : ∀ A' c' (m : List Pt) w', Hid (m = l ++ l2) → OwnPt w' base A' c' m → w.grownBy w' (A.map (·.block)) → (A'.map (·.block) = A.map (·.block) ∨ A'.map (·.block) = some w.heap.size) → Below base w w' → wpList Tryz.prog ops Q rest (a.put o.dst (.slice A' m.length c')) w') : wpList Tryz.prog ops Q (o :: rest) a w := by
  obtain ⟨i0, hi, hz0, hz1, hz2⟩ := info_parts sl_info
  refine wpl_append hgd s x 251 ho base 25 i0 (.slice none 0 0) 1 24 Tryz.underlying251 hi hz0 hz1 hz2 rfl (by decide) A l.length c (l.map pv) hs hown A2 l2.length c2 (l2.map pv) hx hr (one_pv l2) (by omega) (by simp only [maxLen]; omega) hbase ?_
  intro A' c' w' hap
  rw [← List.length_append]
  refine h A' c' (l ++ l2) w' rfl ?_ hap.grown hap.place (hap.below hown hbase)
  have := hap.own
  simpa [OwnPt] using this
/-- each text can be read, and lies beside the row -/
def TX (w : World) (Pb : Option Nat → Prop) (B : Option Addr) (ps : List Pt) : Prop := ∀ x ∈ ps, SlB w x.1 x.2.1 x.2.2 ∧ (x.2.2 ≠ [] → x.1.map (·.block) ≠ B.map (·.block) ∧ Pb (x.1.map (·.block)))
theorem TX.below {w w' : World} {Pb : Option Nat → Prop} {B : Option Addr} {ps : List Pt} (h : TX w Pb B ps) (hb : Below w.heap.size w w') : TX w' Pb B ps := fun x hx => ⟨(h x hx).1.below hb, (h x hx).2⟩
theorem TX.grown {w w' : World} {Pb : Option Nat → Prop} {B B' : Option Addr} {ps : List Pt} (h : TX w Pb B ps) (hb : w.grownBy w' (B.map (·.block))) (hp : B'.map (·.block) = B.map (·.block) ∨ B'.map (·.block) = some w.heap.size) : TX w' Pb B' ps := fun x hx => by
  refine ⟨SlB.grown (h x hx).1 hb (fun hne => ((h x hx).2 hne).1), fun hne => ⟨?_, ((h x hx).2 hne).2⟩⟩
  rcases hp with hp | hp
  · rw [hp]; exact ((h x hx).2 hne).1
  · rw [hp]; exact SlB.old (h x hx).1 (Nat.le_refl _) hne
/-- a block from n on -/
def From (n : Nat) (b : Option Nat) : Prop := ∀ g, b = some g → n ≤ g
/-- what Prefix answers -/
def PreB (w0 : World) (o : List (List UInt8) × Nat) (e : Ending) (w' : World) : Prop :=
  ∃ A c ps, e = .returned (.tuple #[.slice A (List.length ps) c, .int .i64 (o.2 : Nat)]) ∧ Hid (ptx ps = o.1) ∧ SlPt w' A c ps ∧ (∀ x ∈ ps, SlB w' x.1 x.2.1 x.2.2 ∧ (x.2.2 ≠ [] → From w0.heap.size (x.1.map (·.block)))) ∧ From w0.heap.size (A.map (·.block)) ∧ Below w0.heap.size w0 w'

theorem meas_step {n a q : Nat} (h : a + q ≤ n) (h4 : 4 ≤ q) : n - (intOf (.int .i64 ((a : Int) + (q : Int)))).toNat < n - (intOf (.int .i64 (a : Int))).toNat := by
  have h1 : (intOf (.int .i64 ((a : Int) + (q : Int)))).toNat = a + q := by show ((a : Int) + (q : Int)).toNat = a + q; omega
  have h2 : (intOf (.int .i64 (a : Int))).toNat = a := by show (a : Int).toNat = a; omega
  rw [h1, h2]
  omega
end Go.Proofs.YtddmfoldnlafaaaGreatDoor

namespace Go.Proofs.YtddmfoldnlafaaaGreatDoor
open Go.RowKit

/-- a signed number's number, and back -/
def zz (n : Int) : Nat := if 0 ≤ n then (2 * n).toNat else (-2 * n - 1).toNat
def zb (u : Nat) : Int := if u % 2 = 0 then (u / 2 : Nat) else -((u / 2 : Nat) : Int) - 1
theorem zz_u64 {n : Int} (h : I64 n) : U64 (zz n) := by
  unfold I64 at h
  unfold U64 zz
  split <;> omega
theorem zz_zb (u : Nat) : zz (zb u) = u := by
  unfold zz zb
  split <;> split <;> omega
theorem zig_val {n : Int} (h : I64 n) : bits BinOp.xor IntKind.u64 (IntKind.u64.wrap (IntKind.u64.wrap n * 2)) (IntKind.u64.wrap (n / 9223372036854775808)) = ((zz n : Nat) : Int) := by
  unfold I64 at h
  unfold zz
  rw [IntKind.wrap_u64, IntKind.wrap_u64, IntKind.wrap_u64]
  by_cases h0 : 0 ≤ n
  · rw [if_pos h0, show n % 18446744073709551616 * 2 % 18446744073709551616 = (((2 * n).toNat : Nat) : Int) from by omega, show n / 9223372036854775808 % 18446744073709551616 = ((0 : Nat) : Int) from by omega,
      bits_xor_u64_nat _ _ (by omega) (by omega), Nat.xor_zero]
  · rw [if_neg h0, show n % 18446744073709551616 * 2 % 18446744073709551616 = (((2 * n + 18446744073709551616).toNat : Nat) : Int) from by omega,
      show n / 9223372036854775808 % 18446744073709551616 = ((18446744073709551615 : Nat) : Int) from by omega, bits_xor_u64_nat _ _ (by omega) (by omega), Nat.xor_comm]
    have := Lib.xor_ones64 (2 * n + 18446744073709551616).toNat (by omega)
    rw [show (18446744073709551615 : Nat) = 2 ^ 64 - 1 from by decide, this]
    omega
theorem wrap64_of {n : Int} (h : I64 n) : wrap64 n = n := IntWalk.wrap64_in n h
theorem zag_val {n : Nat} (h : U64 n) : bits BinOp.xor IntKind.i64 (wrap64 ((n : Int) / 2)) (wrap64 (-wrap64 (bits BinOp.and IntKind.u64 (n : Int) 1))) = zb n := by
  unfold U64 at h
  unfold zb
  rw [Lib.u64_and1 _ (by omega) (by omega), wrap64_of (n := (n : Int) / 2) (by unfold I64; omega), wrap64_of (n := (n : Int) % 2) (by unfold I64; omega), wrap64_of (n := -((n : Int) % 2)) (by unfold I64; omega)]
  by_cases h0 : n % 2 = 0
  · rw [if_pos h0, show -((n : Int) % 2) = 0 from by omega]
    show IntKind.i64.wrap ((BitVec.ofInt 64 ((n : Int) / 2) ^^^ BitVec.ofInt 64 0).toNat : Int) = _
    rw [show BitVec.ofInt 64 0 = 0#64 from rfl, BitVec.xor_zero, show (n : Int) / 2 = ((n / 2 : Nat) : Int) from by omega, BitVec.ofInt_natCast, BitVec.toNat_ofNat, IntKind.wrap_i64]
    omega
  · rw [if_neg h0, show -((n : Int) % 2) = -1 from by omega]
    have e := Lib.i64_not (n / 2) (by omega)
    have hc : bits .xor .i64 ((n : Int) / 2) (-1) = bits .xor .i64 (-1) ((n / 2 : Nat) : Int) := by
      show IntKind.i64.wrap ((BitVec.ofInt 64 ((n : Int) / 2) ^^^ BitVec.ofInt 64 (-1)).toNat : Int) = IntKind.i64.wrap ((BitVec.ofInt 64 (-1) ^^^ BitVec.ofInt 64 ((n / 2 : Nat) : Int)).toNat : Int)
      rw [BitVec.xor_comm, show (n : Int) / 2 = ((n / 2 : Nat) : Int) from by omega]
    rw [hc, e]
theorem zig_pos {n : Int} (h : I64 n) (h0 : 0 ≤ n) : IntKind.u64.wrap (2 * IntKind.u64.wrap n) = ((zz n : Nat) : Int) := by
  unfold I64 at h
  unfold zz
  rw [if_pos h0, IntKind.wrap_u64, IntKind.wrap_u64]
  omega
theorem zig_neg {n : Int} (h : I64 n) (h0 : n < 0) : ∃ p q r s, wrap64 (n + 1) = p ∧ wrap64 (-p) = q ∧ IntKind.u64.wrap q = r ∧ IntKind.u64.wrap (2 * r) = s ∧ IntKind.u64.wrap (s + 1) = ((zz n : Nat) : Int) := by
  refine ⟨_, _, _, _, rfl, rfl, rfl, rfl, ?_⟩
  unfold I64 at h
  unfold zz
  rw [if_neg (by omega), wrap64_of (n := n + 1) (by unfold I64; omega), wrap64_of (n := -(n + 1)) (by unfold I64; omega), IntKind.wrap_u64, IntKind.wrap_u64, IntKind.wrap_u64]
  omega
theorem zag_even {u : Nat} (h : U64 u) (h0 : u % 2 = 0) : ∃ a, IntKind.u64.wrap ((u : Int) / 2) = a ∧ wrap64 a = zb u := by
  refine ⟨_, rfl, ?_⟩
  unfold U64 at h
  unfold zb
  rw [if_pos h0, IntKind.wrap_u64, wrap64_of (by unfold I64; omega)]
  omega
theorem zag_odd {u : Nat} (h : U64 u) (h0 : ¬ u % 2 = 0) : ∃ a b d, IntKind.u64.wrap ((u : Int) / 2) = a ∧ wrap64 a = b ∧ wrap64 (-b) = d ∧ wrap64 (d - 1) = zb u := by
  refine ⟨_, _, _, rfl, rfl, rfl, ?_⟩
  unfold U64 at h
  unfold zb
  rw [if_neg h0, IntKind.wrap_u64, wrap64_of (n := (u : Int) / 2 % 18446744073709551616) (by unfold I64; omega), wrap64_of (n := -((u : Int) / 2 % 18446744073709551616)) (by unfold I64; omega),
    wrap64_of (n := -((u : Int) / 2 % 18446744073709551616) - 1) (by unfold I64; omega)]
  omega
end Go.Proofs.YtddmfoldnlafaaaGreatDoor

namespace Go.Proofs.YtddmfoldnlafaaaGreatDoor
open Go.RowKit

theorem rNum_vb {n : Nat} (h : U64 n) (r : List UInt8) : rNum (vb n ++ r, 0) = (n, (r, 0)) := by
  unfold rNum
  rw [if_neg (by simp)]
  simp only [take_vb h r, List.drop_left]
theorem rCount_vb {n : Nat} (h : U64 n) {most : Int} (hm : (n : Int) ≤ most) (r : List UInt8) : rCount most (vb n ++ r, 0) = (n, (r, 0)) := by
  unfold rCount
  rw [rNum_vb h, if_neg (by simp), if_neg (by simp only [gt_iff_lt]; omega)]
theorem rNums_vbs : ∀ {l : List Nat}, (∀ n ∈ l, U64 n) → ∀ r, rNums l.length (vbs l ++ r, 0) = (l, (r, 0))
  | [], _, r => rfl
  | n :: l, h, r => by
    have h1 := rNums_vbs (l := l) (fun k hk => h k (by simp [hk])) r
    simp only [vbs, List.flatMap_cons, List.append_assoc, List.length_cons] at h1 ⊢
    unfold rNums
    rw [rNum_vb (h n (by simp)), if_neg (by simp), h1, if_neg (by simp)]
theorem rList_lb {l : List Nat} (h : ∀ n ∈ l, U64 n) (hl : U64 l.length) {most : Int} (hm : (l.length : Int) ≤ most) (r : List UInt8) : rList most (lb l ++ r, 0) = (l, (r, 0)) := by
  unfold rList lb
  rw [List.append_assoc, rCount_vb hl hm, rNums_vbs h]
theorem rFixed_all (t r : List UInt8) : rFixed (t.length : Int) (t ++ r, 0) = (t, (r, 0)) := by
  unfold rFixed
  rw [if_neg (by simp), if_neg (by simp; omega)]
  simp
theorem rText_tb {t : List UInt8} (h : U64 t.length) {most : Int} (hm : (t.length : Int) ≤ most) (r : List UInt8) : rText most (vb t.length ++ (t ++ r), 0) = (t, (r, 0)) := by
  unfold rText
  rw [rCount_vb h hm, rFixed_all]
theorem zb_i64 {u : Nat} (h : U64 u) : I64 (zb u) := by
  unfold U64 at h
  unfold zb I64
  split <;> omega
end Go.Proofs.YtddmfoldnlafaaaGreatDoor

namespace Go.Proofs.YtddmfoldnlafaaaGreatDoor
open Go.RowKit

/-- what a frame was taken from is that frame -/
theorem ftake_back {l : List UInt8} (h : (ftake l).2.2 = 0) : (ftake l).1.length ≤ 65536 ∧ l.take (ftake l).2.1 = frm (ftake l).1 := by
  unfold ftake at h ⊢
  split at h
  · simp at h
  · rename_i n k hv
    obtain ⟨hu, hk, htk⟩ := take_some hv
    by_cases h1 : 65536 < n
    · rw [if_pos h1] at h; simp at h
    rw [if_neg h1] at h ⊢
    by_cases h2 : l.length < k + n + 4
    · rw [if_pos h2] at h; simp at h
    rw [if_neg h2] at h ⊢
    by_cases h3 : four (sumW (l.take (k + n))) = (l.drop (k + n)).take 4
    · rw [if_pos h3]
      dsimp only
      have hln : ((l.take (k + n)).drop k).length = n := by simp; omega
      have htx : txb ((l.take (k + n)).drop k) = l.take (k + n) := by
        unfold txb
        rw [hln, ← htk]
        have h5 : (l.take (k + n)).take k = l.take k := by rw [List.take_take, Nat.min_eq_left (by omega)]
        rw [← h5, List.take_append_drop]
      refine ⟨by omega, ?_⟩
      unfold frm
      rw [htx, h3, ← List.take_add]
    · rw [if_neg h3] at h; simp at h
theorem fone_back {l : List UInt8} (h : (fone l).2 = 0) : (fone l).1.length ≤ 65536 ∧ l = frm (fone l).1 := by
  unfold fone at h ⊢
  by_cases h1 : (ftake l).2.2 ≠ 0
  · rw [if_pos h1] at h; exact absurd h h1
  rw [if_neg h1] at h ⊢
  by_cases h2 : (ftake l).2.1 < l.length
  · rw [if_pos h2] at h; simp at h
  rw [if_neg h2]
  have h3 := ftake_back (l := l) (by omega)
  refine ⟨h3.1, ?_⟩
  rw [List.take_of_length_le (by omega)] at h3
  exact h3.2
theorem fone_frm {t : List UInt8} (h : t.length ≤ 65536) : fone (frm t) = (t, 0) := by
  have h1 := ftake_frm t [] h
  rw [List.append_nil] at h1
  unfold fone
  rw [h1, if_neg (by simp), if_neg (by simp)]
end Go.Proofs.YtddmfoldnlafaaaGreatDoor

namespace Go.Proofs.YtddmfoldnlafaaaGreatDoor
open Go.RowKit

theorem rNum_some {s : List UInt8 × Nat} (h : (rNum s).2.2 = 0) : s.2 = 0 ∧ U64 (rNum s).1 ∧ s.1 = vb (rNum s).1 ++ (rNum s).2.1 := by
  unfold rNum at h ⊢
  by_cases h0 : s.2 ≠ 0
  · rw [if_pos h0] at h; exact absurd h h0
  rw [if_neg h0] at h ⊢
  split at h
  · simp at h
  · rename_i n k hv
    obtain ⟨hu, hk, htk⟩ := take_some hv
    exact ⟨by omega, hu, by dsimp only; rw [← htk, List.take_append_drop]⟩
theorem rWithin_vb {n m : Nat} (h : n ≤ m) (hm : m ≤ 4611686018427387904) (r : List UInt8) : rWithin m (vb n ++ r, 0) = (n, (r, 0)) := by
  unfold rWithin
  rw [rNum_vb (by unfold U64; omega), if_neg (by omega)]
theorem rFail_ne (k : Nat) (s : List UInt8 × Nat) (hk : k ≠ 0) : (rFail k s).2 ≠ 0 := by
  unfold rFail
  split
  · exact hk
  · assumption
theorem rWithin_some {m : Nat} {s : List UInt8 × Nat} (h : (rWithin m s).2.2 = 0) : s.2 = 0 ∧ (rWithin m s).1 ≤ m ∧ s.1 = vb (rWithin m s).1 ++ (rWithin m s).2.1 := by
  unfold rWithin at h ⊢
  by_cases h1 : (rNum s).1 > m ∨ (rNum s).1 > 4611686018427387904
  · rw [if_pos h1] at h
    exact absurd h (rFail_ne 1 _ (by decide))
  · rw [if_neg h1] at h ⊢
    have h2 := rNum_some h
    exact ⟨h2.1, by omega, h2.2.2⟩
theorem rEnd_zero {s : List UInt8 × Nat} (h : rEnd s = 0) : s.2 = 0 ∧ s.1 = [] := by
  unfold rEnd at h
  by_cases h1 : s.2 = 0 ∧ 0 < s.1.length
  · rw [if_pos h1] at h; omega
  · rw [if_neg h1] at h
    exact ⟨h, by rcases s with ⟨l, b⟩; cases l with | nil => rfl | cons a r => simp at h1 h; omega⟩
theorem rWithin_le (m : Nat) (s : List UInt8 × Nat) : (rWithin m s).1 ≤ m ∧ (rWithin m s).1 ≤ 4611686018427387904 := by
  unfold rWithin
  split
  · simp
  · omega

/-- a lease's three numbers, off a text -/
def lread (t : List UInt8) : Int × Int × Int × Nat :=
  (((rWithin 2 (t, 0)).1 : Nat), ((rWithin 1099511627776 (rWithin 2 (t, 0)).2).1 : Nat), ((rWithin 1099511627776 (rWithin 1099511627776 (rWithin 2 (t, 0)).2).2).1 : Nat), rEnd (rWithin 1099511627776 (rWithin 1099511627776 (rWithin 2 (t, 0)).2).2).2)
/-- the lease of bytes -/
def ltake (l : List UInt8) : Int × Int × Int × Nat :=
  if (fone l).2 ≠ 0 then (0, 0, 0, (fone l).2)
  else if (lread (fone l).1).2.2.2 ≠ 0 then (0, 0, 0, (lread (fone l).1).2.2.2)
  else if chk (lread (fone l).1).1 (lread (fone l).1).2.1 (lread (fone l).1).2.2.1 ≠ 0 then (0, 0, 0, chk (lread (fone l).1).1 (lread (fone l).1).2.1 (lread (fone l).1).2.2.1)
  else ((lread (fone l).1).1, (lread (fone l).1).2.1, (lread (fone l).1).2.2.1, 0)
def ltxt (o e u : Int) : List UInt8 := vb o.toNat ++ vb e.toNat ++ vb u.toNat
/-- a lease's bytes -/
def lput (o e u : Int) : List UInt8 × Nat := if chk o e u ≠ 0 then ([], chk o e u) else (frm (ltxt o e u), 0)
theorem ltxt_len {o e u : Int} (h : chk o e u = 0) : (ltxt o e u).length ≤ 30 := by
  obtain ⟨a, b, c, _⟩ := chk_ok h
  have h1 := vb_le10 (n := o.toNat) (by omega)
  have h2 := vb_le10 (n := e.toNat) (by omega)
  have h3 := vb_le10 (n := u.toNat) (by omega)
  unfold ltxt
  simp only [List.length_append]
  omega
theorem lread_ltxt {o e u : Int} (h : chk o e u = 0) : lread (ltxt o e u) = (o, e, u, 0) := by
  obtain ⟨a, b, c, _⟩ := chk_ok h
  have h3 : rWithin 1099511627776 (vb u.toNat, 0) = (u.toNat, ([], 0)) := by
    have := rWithin_vb (n := u.toNat) (m := 1099511627776) (by omega) (by omega) []
    rwa [List.append_nil] at this
  unfold lread ltxt
  rw [List.append_assoc, rWithin_vb (n := o.toNat) (by omega) (by omega), rWithin_vb (n := e.toNat) (by omega) (by omega), h3]
  dsimp only
  rw [Int.toNat_of_nonneg (by omega), Int.toNat_of_nonneg (by omega), Int.toNat_of_nonneg (by omega)]
  rfl
theorem ltake_lput {o e u : Int} (h : chk o e u = 0) : ltake (lput o e u).1 = (o, e, u, 0) := by
  have h1 : lput o e u = (frm (ltxt o e u), 0) := by unfold lput; rw [if_neg (by omega)]
  have h2 := fone_frm (t := ltxt o e u) (by have := ltxt_len h; omega)
  have h3 := lread_ltxt h
  unfold ltake
  rw [h1]
  dsimp only
  rw [h2]
  dsimp only
  rw [h3]
  dsimp only
  rw [if_neg (by simp), if_neg (by simp), if_neg (by omega)]
theorem ltake_back {l : List UInt8} (h : (ltake l).2.2.2 = 0) : chk (ltake l).1 (ltake l).2.1 (ltake l).2.2.1 = 0 ∧ lput (ltake l).1 (ltake l).2.1 (ltake l).2.2.1 = (l, 0) := by
  unfold ltake at h ⊢
  by_cases h1 : (fone l).2 ≠ 0
  · rw [if_pos h1] at h; dsimp only at h; exact absurd h h1
  rw [if_neg h1] at h ⊢
  by_cases h2 : (lread (fone l).1).2.2.2 ≠ 0
  · rw [if_pos h2] at h; dsimp only at h; exact absurd h h2
  rw [if_neg h2] at h ⊢
  by_cases h3 : chk (lread (fone l).1).1 (lread (fone l).1).2.1 (lread (fone l).1).2.2.1 ≠ 0
  · rw [if_pos h3] at h; dsimp only at h; exact absurd h h3
  rw [if_neg h3]
  dsimp only
  have h0 : chk (lread (fone l).1).1 (lread (fone l).1).2.1 (lread (fone l).1).2.2.1 = 0 := by omega
  refine ⟨h0, ?_⟩
  have hf := fone_back (l := l) (by omega)
  have ht : ltxt (lread (fone l).1).1 (lread (fone l).1).2.1 (lread (fone l).1).2.2.1 = (fone l).1 := by
    generalize (fone l).1 = t at *
    have h4 : rEnd (rWithin 1099511627776 (rWithin 1099511627776 (rWithin 2 (t, 0)).2).2).2 = 0 := by
      unfold lread at h2
      dsimp only at h2
      omega
    obtain ⟨h5, h6⟩ := rEnd_zero h4
    obtain ⟨h7, _, h8⟩ := rWithin_some h5
    obtain ⟨h9, _, h10⟩ := rWithin_some h7
    obtain ⟨_, _, h11⟩ := rWithin_some h9
    unfold ltxt lread
    dsimp only at h11 ⊢
    rw [h6, List.append_nil] at h8
    rw [h8] at h10
    rw [h10] at h11
    simp only [Int.toNat_natCast]
    rw [List.append_assoc]
    exact h11.symm
  unfold lput
  rw [if_neg h3, ht, ← hf.2]
end Go.Proofs.YtddmfoldnlafaaaGreatDoor

namespace Go.Proofs.YtddmfoldnlafaaaGreatDoor
open Go.RowKit Go.Maps Go.Sort

/-- the lease's name -/
def lname : Bs := [108, 101, 97, 115, 101]
theorem lname_ok : snamed lname = true := by kernel_rfl
abbrev L3r := Int × Int × Int
def lpt (L : L3r) : Bs := (lput L.1 L.2.1 L.2.2).1
def lck (L : L3r) : Nat := chk L.1 L.2.1 L.2.2
/-- what a store keeps of a lease -/
def Kept (L : L3r) (S : List (Bs × Sv)) : Prop := match gget lname S with
  | none => L = (0, 0, 0)
  | some v => lck L = 0 ∧ v.l = lpt L
theorem Kept.chk {L : L3r} {S : List (Bs × Sv)} (h : Kept L S) : lck L = 0 := by
  unfold Kept at h
  cases hg : gget lname S with
  | none => rw [hg] at h; dsimp only at h; rw [h]; rfl
  | some v => rw [hg] at h; exact h.1
theorem Kept.put {L : L3r} (h : lck L = 0) (A : Option Addr) (c : Nat) (S : List (Bs × Sv)) : Kept L (gput lname ⟨A, c, lpt L⟩ S) := by
  unfold Kept
  rw [gget_put_same]
  exact ⟨h, rfl⟩
theorem ltake_lpt {L : L3r} (h : lck L = 0) : ltake (lpt L) = (L.1, L.2.1, L.2.2, 0) := ltake_lput h
/-- a disk between two calls: up, without a fuse, nothing pending, all files objects -/
structure Rst (d : Dk Sv) (i : Nat) : Prop where
  fre : Fre d
  pe : d.pend = []
  sna : Sna d.sure
  len : d.sure.length ≤ i
theorem Rst.fok {d : Dk Sv} {i : Nat} (h : Rst d i) : Fok d := ⟨by rw [h.fre.1]; decide, by rw [h.fre.1]; decide⟩
theorem Fre.put {α : Type} {d : Dk α} (h : Fre d) (len : α → Nat) (z : α) (n : Bs) (v : α) : Fre (sPut len z d n v).1 := by
  have ha : ∀ (r : Dk α × Nat) (f : Dk α → Dk α × Nat), Fre r.1 → (∀ d, Fre d → Fre (f d).1) → Fre (Go.Proofs.YtddmfoldnlafaaaGreatDoor.andThen r f).1 := fun r f h1 h2 => by
    unfold Go.Proofs.YtddmfoldnlafaaaGreatDoor.andThen
    split
    · exact h1
    · exact h2 _ h1
  unfold sPut
  split
  · exact h
  · exact ha _ _ (h.opd (Opd.write len d _ v)) fun d h => ha _ _ (h.opd (Opd.sync d)) fun d h => ha _ _ (h.opd (Opd.rename z d _ _)) fun d h => h.opd (Opd.sync d)
/-- what putting leaves -/
inductive PutO (S T : List (Bs × Sv)) : Dk Sv × Nat → Prop where
  | done (d : Dk Sv) (hf : Fre d) (hp : d.pend = []) (hs : d.sure = T) : PutO S T (d, 0)
  | left (d : Dk Sv) (hf : Fre d) (hp : d.pend = []) (hs : d.sure = S) (k : Nat) (h0 : k ≠ 0) : PutO S T (d, k)
theorem Rst.put {d : Dk Sv} {i : Nat} (h : Rst d i) (hr : Ris d.sure) (n : Bs) (v : Sv) : PutO d.sure (gput n v d.sure) (sPut svl Sv.nil d n v) := by
  have h1 := put_out svl Sv.nil h.fre.2 h.pe hr h.sna n v
  have h2 := h.fre.put svl Sv.nil n v
  generalize sPut svl Sv.nil d n v = r at *
  generalize gput n v d.sure = T at *
  generalize d.sure = S at *
  cases h1 with
  | done d5 hd hp hs hn => exact .done d5 h2 hp hs
  | left d5 hd hp hs k h0 h1 => exact .left d5 h2 hp hs k h0
  | down d5 hd hn hl h => rw [h2.2] at hd; cases hd
theorem glen_put1 {α : Type} (n : Bs) (v : α) (S : List (Bs × α)) : (gput n v S).length ≤ S.length + 1 := by
  unfold gput
  rw [glen_ins]
  have := glen_del n S
  omega
theorem Rst.next {d d5 : Dk Sv} {i : Nat} (h : Rst d i) {n : Bs} (hn : snamed n = true) {v : Sv} (hf : Fre d5) (hp : d5.pend = []) (hs : d5.sure = gput n v d.sure) : Rst d5 (i + 1) :=
  ⟨hf, hp, by rw [hs]; exact h.sna.put hn v, by rw [hs]; have := glen_put1 n v d.sure; have := h.len; omega⟩
theorem Rst.stay {d d5 : Dk Sv} {i : Nat} (h : Rst d i) (hf : Fre d5) (hp : d5.pend = []) (hs : d5.sure = d.sure) : Rst d5 (i + 1) :=
  ⟨hf, hp, by rw [hs]; exact h.sna, by rw [hs]; have := h.len; omega⟩
/-- opening leaves it as it is -/
theorem Rst.opened {d : Dk Sv} {i : Nat} (h : Rst d i) (hr : Ris d.sure) : ∃ d2, sOpen Sv.nil d = (d2, 0) ∧ Fre d2 ∧ d2.pend = [] ∧ (Ris d2.sure → d2.sure = d.sure) := by
  obtain ⟨room, S, p, fuse, down⟩ := d
  obtain ⟨⟨h1, h2⟩, h3, h4, -⟩ := h
  dsimp only at h1 h2 h3 h4 hr
  subst h1 h2 h3
  exact open_up hr hr h4 (names_of h4) (fun _ _ => rfl)
/-- a cut and a start leave it as it is -/
theorem Rst.cut {d : Dk Sv} {i : Nat} (h : Rst d i) (ks : List Bool) : Rst (dStart (dCut ks d)) i ∧ (dStart (dCut ks d)).sure = d.sure := by
  obtain ⟨room, S, p, fuse, down⟩ := d
  obtain ⟨⟨h1, h2⟩, h3, h4, h5⟩ := h
  dsimp only at h1 h2 h3 h4 h5
  subst h1 h2 h3
  have e : kept ks ([] : List (Chg Sv)) = [] := by unfold kept; simp
  have e2 : dStart (dCut ks (⟨room, S, [], -1, false⟩ : Dk Sv)) = ⟨room, S, [], -1, false⟩ := by
    unfold dCut dStart
    rw [e]
    rfl
  rw [e2]
  exact ⟨⟨⟨rfl, rfl⟩, rfl, h4, h5⟩, rfl⟩
theorem Rst.get {d : Dk Sv} {i : Nat} (h : Rst d i) : sGet d lname = match gget lname d.sure with | none => (none, 4) | some v => (some v, 0) := by
  unfold sGet
  rw [if_neg (by rw [lname_ok]; simp)]
  unfold dRead
  rw [if_neg (by rw [h.fre.2]; simp)]
  have : d.shown = d.sure := by unfold Dk.shown; rw [h.pe]; rfl
  rw [this]
  cases gget lname d.sure <;> rfl
end Go.Proofs.YtddmfoldnlafaaaGreatDoor
