/- WHAT IT HOLDS: a disk cut, walked. | WHAT IT HOLDS: a disk started anew, walked. | WHAT IT HOLDS: the law's disk is alive, walked. | WHAT IT HOLDS: which scripts of a disk's acts are long, walked. | WHAT IT HOLDS: which scripts of a store's acts are long, walked. | WHAT IT HOLDS: parts appended, cloned; Step, walked. | WHAT IT HOLDS: the law CrcParts, walked. | WHAT IT HOLDS: the law CrcFinds, walked. | WHAT IT HOLDS: the law FrameFinds, walked. | WHAT IT HOLDS: frame.Join, and the document's frames, walked. | WHAT IT HOLDS: the law FrameJoins, walked. | WHAT IT HOLDS: frame.One, Prefix, All, walked. | WHAT IT HOLDS: signed numbers' numbers, plainly (no program). | WHAT IT HOLDS: what is put is taken as it was, of the reader's plain functions (no program). | WHAT IT HOLDS: one frame, put and taken, plainly (no program). | WHAT IT HOLDS: the fixed fact of the cursor's laws, walked: the empty cursor, put and taken back. | WHAT IT HOLDS: copy of elements of several cells, plainly. -/
import Derived.Test.YtajfnmohlnkncaaGreatDoorVaultNilG11
import Derived.Test.YtajfnmohlnkncaaGreatDoorVaultNilG04
import Derived.Test.YtajfnmohlnkncaaGreatDoorVaultNilG08
import Derived.Great.BuildSlice
import Derived.Test.YtajfnmohlnkncaaGreatDoorVaultNilG07
import Derived.Laws.CopyOwn
import Derived.Test.YtajfnmohlnkncaaGreatDoorVaultNilG02
import Derived.Lib.Zigzag
import Derived.Test.YtajfnmohlnkncaaGreatDoorVaultNilG03
import Derived.Test.YtajfnmohlnkncaaGreatDoorVaultNilG09
namespace Go.Proofs.YtajfnmohlnkncaaGreatDoor
open Go.RowKit Go.Maps Go.Sort
attribute [local go_sem ↓] Go.wp_at_zero Go.wp_at_succ

end Go.Proofs.YtajfnmohlnkncaaGreatDoor

namespace Go.Proofs.YtajfnmohlnkncaaGreatDoor
open Go.RowKit Go.Maps Go.Sort
attribute [local go_sem ↓] Go.wp_at_zero Go.wp_at_succ

end Go.Proofs.YtajfnmohlnkncaaGreatDoor

namespace Go.Proofs.YtajfnmohlnkncaaGreatDoor
open Go.RowKit Go.Maps Go.Sort
attribute [local go_sem ↓] Go.wp_at_zero Go.wp_at_succ

end Go.Proofs.YtajfnmohlnkncaaGreatDoor

namespace Go.Proofs.YtajfnmohlnkncaaGreatDoor
open Go.RowKit Go.Maps Go.Sort
attribute [local go_sem ↓] Go.wp_at_zero Go.wp_at_succ

def DA.long (a : DA) : Bool := decide (60 < a.n.length) || decide (60 < a.t.length) || decide (60 < a.ks.length) || decide (300 < a.l.length ∧ a.l.length ≤ 65536) || decide (66000 < a.l.length)
def dLong (s : List DA) (most : Int) : Bool := s.any DA.long || decide (most < s.length)
theorem dLong_at {s : List DA} {most : Int} {k : Nat} (hk : k < s.length) (h : s[k].long = true) : dLong s most = true := by
  unfold dLong
  rw [List.any_eq_true.2 ⟨s[k], List.getElem_mem hk, h⟩]
  rfl
theorem dLong_none {s : List DA} {most : Int} (h : ∀ i (hi : i < s.length), s[i].long = false) : dLong s most = decide (most < s.length) := by
  unfold dLong
  rw [List.any_eq_false.2 fun x hx => by
    obtain ⟨i, hi, rfl⟩ := List.getElem_of_mem hx
    simp [h i hi]]
  rfl
set_option maxRecDepth 100000 in
set_option maxHeartbeats 1000000 in
theorem DLong_any {A : Option Addr} {c : Nat} {s : List DA} (w : World) (h : SlDA w A c s) (most : Int) : Calls Tryz.prog 55 #[.slice A s.length c, .int .i64 most] w fun e w' => e = .returned (.bool (dLong s most)) ∧ Below w.heap.size w w' := by
  have hsl : s.length ≤ maxLen := Nat.le_trans h.1.2.1 h.1.2.2.1
  unfold maxLen at hsl
  have H := Lib.hid h
  clear h
  go_enter Tryz.func55, Tryz.ntmps55
  go_wp2_with fail
  go_loopw [9] (fun x wr => ∃ k : Nat, k ≤ s.length ∧ x = .int .i64 k ∧ (∀ i (hi : i < s.length), i < k → s[i].long = false) ∧ Below w.heap.size w wr) (fun x w => s.length - (intOf x).toNat)
  case atStart => exact ⟨0, Nat.zero_le _, rfl, (fun i _ hi => by omega), Below.refl _ _⟩
  case round =>
    obtain ⟨k, hk, rfl, hno, hb⟩ := hrel
    by_cases hlt : k < s.length
    · have hS := H.out.below hb
      obtain ⟨ad, b, o, hA, had, hcc⟩ := Sl.atS (f := dac) (size := 6) (fun _ => rfl) (by omega) hS.1 hlt
      have hc0 := hcc 0 _ rfl
      have hc1 := hcc 1 _ rfl
      have hc2 := hcc 2 _ rfl
      have hc3 := hcc 3 _ rfl
      have hc4 := hcc 4 _ rfl
      have hc5 := hcc 5 _ rfl
      rw [Nat.add_zero] at hc0
      have hok := hS.2 _ (List.getElem_mem hlt)
      clear hcc hS
      generalize hx : s[k] = x at *
      obtain ⟨kd, nm, tt, A1, c1, l1, ff, B1, kc, ks⟩ := x
      obtain ⟨q1, q2, -, -, q5, q6⟩ := hok
      have q7 : l1.length ≤ maxLen := Nat.le_trans q1.2.1 q1.2.2.1
      have q8 : ks.length ≤ maxLen := Nat.le_trans q2.2.1 q2.2.2.1
      clear q1 q2
      dsimp only at *
      unfold maxLen at *
      rw [hA] at *
      clear hA
      have hbn := bel_alloc hb (.cells #[.int .i64 kd, .string ⟨nm.toArray⟩, .string ⟨tt.toArray⟩, .slice A1 l1.length c1, .int .i64 ff, .slice B1 ks.length kc] 76)
      rcases Nat.lt_or_ge 60 nm.length with g1 | g1
      · have i1 : (60 : Int) < (nm.length : Int) := by omega
        have HE := Lib.hid (dLong_at (most := most) hlt (by rw [hx]; unfold DA.long; simp; omega))
        clear hno hx
        go_wp2_with fail
        go_ret
        exact ⟨by rw [HE.out]; rfl, hbn⟩
      have i1 : (nm.length : Int) ≤ 60 := by omega
      rcases Nat.lt_or_ge 60 tt.length with g2 | g2
      · have i2 : (60 : Int) < (tt.length : Int) := by omega
        have HE := Lib.hid (dLong_at (most := most) hlt (by rw [hx]; unfold DA.long; simp; omega))
        clear hno hx
        go_wp2_with fail
        go_ret
        exact ⟨by rw [HE.out]; rfl, hbn⟩
      have i2 : (tt.length : Int) ≤ 60 := by omega
      rcases Nat.lt_or_ge 60 ks.length with g3 | g3
      · have i3 : (60 : Int) < (ks.length : Int) := by omega
        have HE := Lib.hid (dLong_at (most := most) hlt (by rw [hx]; unfold DA.long; simp; omega))
        clear hno hx
        go_wp2_with fail
        go_ret
        exact ⟨by rw [HE.out]; rfl, hbn⟩
      have i3 : (ks.length : Int) ≤ 60 := by omega
      rcases Nat.lt_or_ge 300 l1.length with g4 | g4
      · have i4 : (300 : Int) < (l1.length : Int) := by omega
        rcases Nat.lt_or_ge 65536 l1.length with g5 | g5
        · have i5 : (65536 : Int) < (l1.length : Int) := by omega
          rcases Nat.lt_or_ge 66000 l1.length with g6 | g6
          · have i6 : (66000 : Int) < (l1.length : Int) := by omega
            have HE := Lib.hid (dLong_at (most := most) hlt (by rw [hx]; unfold DA.long; simp; omega))
            clear hno hx
            go_wp2_with fail
            go_ret
            exact ⟨by rw [HE.out]; rfl, hbn⟩
          · have i6 : (l1.length : Int) ≤ 66000 := by omega
            have hno2 := Lib.hid (show ∀ i (hi : i < s.length), i < k + 1 → s[i].long = false from fun i hi hi2 => by
              rcases Nat.lt_or_ge i k with h1 | h1
              · exact hno i hi h1
              · obtain rfl : i = k := by omega
                rw [hx]; unfold DA.long; simp; omega)
            clear hno hx
            go_wp2_with fail
            go_roundw
            case rel => exact ⟨k + 1, hlt, rfl, hno2.out, hbn⟩
            case measure => simp [intOf]; omega
        · have i5 : (l1.length : Int) ≤ 65536 := by omega
          have HE := Lib.hid (dLong_at (most := most) hlt (by rw [hx]; unfold DA.long; simp; omega))
          clear hno hx
          go_wp2_with fail
          go_ret
          exact ⟨by rw [HE.out]; rfl, hbn⟩
      · have i4 : (l1.length : Int) ≤ 300 := by omega
        have i6 : (l1.length : Int) ≤ 66000 := by omega
        have hno2 := Lib.hid (show ∀ i (hi : i < s.length), i < k + 1 → s[i].long = false from fun i hi hi2 => by
          rcases Nat.lt_or_ge i k with h1 | h1
          · exact hno i hi h1
          · obtain rfl : i = k := by omega
            rw [hx]; unfold DA.long; simp; omega)
        clear hno hx
        go_wp2_with fail
        go_roundw
        case rel => exact ⟨k + 1, hlt, rfl, hno2.out, hbn⟩
        case measure => simp [intOf]; omega
    · have hke : k = s.length := by omega
      have HE := Lib.hid (dLong_none (most := most) fun i hi => hno i hi (by omega))
      subst hke
      clear hno
      go_wp2_with fail
      go_ret
      exact ⟨by rw [HE.out]; rfl, hb⟩
end Go.Proofs.YtajfnmohlnkncaaGreatDoor

namespace Go.Proofs.YtajfnmohlnkncaaGreatDoor
open Go.RowKit Go.Maps Go.Sort
attribute [local go_sem ↓] Go.wp_at_zero Go.wp_at_succ

end Go.Proofs.YtajfnmohlnkncaaGreatDoor

namespace Go.Proofs.YtajfnmohlnkncaaGreatDoor
open Go.RowKit
attribute [local go_sem ↓] Go.wp_at_zero Go.wp_at_succ

theorem pt_info : (Tryz.prog.info? 37).map (fun i => (i.zero, i.size, i.bytes)) = some (some (.agg (pta (0, 0, 0, dg0))), 35, 56) := by kernel_rfl
theorem one_ptl (l : List Pt5) : ∀ u ∈ l.flatMap ptl, u.oneCell' = true := by
  intro u hu
  simp only [List.mem_flatMap] at hu
  obtain ⟨x, _, hx⟩ := hu
  exact ptl_one x u hx
abbrev OwnP (w : World) (base : Nat) (A : Option Addr) (c : Nat) (ps : List Pt5) : Prop := Own w base 37 35 A ps.length c (ps.flatMap ptl)
theorem step_parts {w : World} {ops : Array Oper} {o : Oper} {a : Act} {K : Act → World → Prop} {Q : Exit → Act → World → Prop} {X : Prop} (hw : Region.wanted o (yielded ops a.tmps) = true) (s x : Operand)
    (ho : o.op = .call { callee := .builtin .append, args := #[s, x], argTypes := #[44, 44] })
    (base : Nat) (A : Option Addr) (c : Nat) (l : List Pt5) (hs : a.eval s = .slice A l.length c) (hown : OwnP w base A c l)
    (A2 : Option Addr) (c2 n2 : Nat) (l2 : List Pt5) (hn2 : n2 = l2.length) (hx : a.eval x = .slice A2 n2 c2) (hr : SlP w A2 c2 l2) (hlen : l.length + l2.length ≤ 1000000000) (hbase : base ≤ w.heap.size)
    (h : ∀ A' c' (m : List Pt5) w', Hid (m = l ++ l2) → OwnP w' base A' c' m → w.grownBy w' (A.map (·.block)) → Below base w w' → K (a.put o.dst (.slice A' m.length c')) w') :
    if Region.wanted o (yielded ops a.tmps) = true then Oper.wp Tryz.prog o a w K Q else X := by
  subst hn2
  obtain ⟨i0, hi, hz0, hz1, hz2⟩ := info_parts pt_info
  refine step_append hw s x 44 ho base 37 i0 _ 35 56 Tryz.underlying44 hi hz0 hz1 hz2 (by rw [show (Value.agg (pta (0, 0, 0, dg0))).cells.size = (pta (0, 0, 0, dg0)).size from rfl, pta_size]) (by decide) A l.length c (l.flatMap ptl) hs hown A2 l2.length c2 (l2.flatMap ptl) hx hr (one_ptl l2) (by omega) (by simp only [maxLen]; omega) hbase ?_
  intro A' c' w' hap
  rw [← List.length_append]
  refine h A' c' (l ++ l2) w' rfl ?_ hap.grown (hap.below hown hbase)
  show Own w' base 37 35 A' (l ++ l2).length c' ((l ++ l2).flatMap ptl)
  rw [List.length_append, List.flatMap_append]
  exact hap.own
theorem wpl_parts {w : World} {ops : Array Oper} {rest : List Oper} {o : Oper} {a : Act} {Q : Exit → Act → World → Prop} (hw : Region.wanted o (yielded ops a.tmps) = true) (s x : Operand)
    (ho : o.op = .call { callee := .builtin .append, args := #[s, x], argTypes := #[44, 44] })
    (base : Nat) (A : Option Addr) (c : Nat) (l : List Pt5) (hs : a.eval s = .slice A l.length c) (hown : OwnP w base A c l)
    (A2 : Option Addr) (c2 n2 : Nat) (l2 : List Pt5) (hn2 : n2 = l2.length) (hx : a.eval x = .slice A2 n2 c2) (hr : SlP w A2 c2 l2) (hlen : l.length + l2.length ≤ 1000000000) (hbase : base ≤ w.heap.size)
    (h : ∀ A' c' (m : List Pt5) w', Hid (m = l ++ l2) → OwnP w' base A' c' m → w.grownBy w' (A.map (·.block)) → Below base w w' → wpList Tryz.prog ops Q rest (a.put o.dst (.slice A' m.length c')) w') : wpList Tryz.prog ops Q (o :: rest) a w :=
  wpList_step fun _ hK => step_parts hw s x ho base A c l hs hown A2 c2 n2 l2 hn2 hx hr hlen hbase fun A' c' m w' h1 h2 h3 h4 => hK _ _ (h A' c' m w' h1 h2 h3 h4)
/-- new parts -/
def GivesPs (w0 : World) (ps : List Pt5) (e : Ending) (w' : World) : Prop := ∃ A c m, e = .returned (.slice A (List.length m) c) ∧ Hid (m = ps) ∧ OwnP w' w0.heap.size A c m ∧ Below w0.heap.size w0 w'
set_option maxRecDepth 100000 in
set_option maxHeartbeats 1000000 in
theorem PtClone_any {E : Option Addr} {cap : Nat} (ps : List Pt5) (w : World) (h : SlP w E cap ps) (hl : ps.length ≤ 1000000) :
    Calls Tryz.prog 40 #[.slice E ps.length cap] w (GivesPs w ps) := by
  have hq := fun (w : World) (A : Option Addr) (n c : Nat) => Lib.run_eql_slice_nil (P := Tryz.prog) w 44 37 A n c 0 0 Tryz.underlying44
  cases E with
  | none =>
    have h0 := h.2.2.2.1 rfl
    have h1 : ps = [] := List.eq_nil_of_length_eq_zero (by have := h.2.1; omega)
    subst h0
    subst h1
    go_enter Tryz.func40, Tryz.ntmps40
    go_wp2_with fail
    go_ret
    exact ⟨none, 0, [], rfl, (show _ = _ from rfl), Own.none_ _ _ _ _, Below.refl _ _⟩
  | some ad =>
    go_enter Tryz.func40, Tryz.ntmps40
    go_wp2_with (at_builtin; go_must (refine wpl_parts rfl (.tmp 5) (.tmp 6) rfl w.heap.size (some ⟨w.heap.size, 0, none⟩) 0 [] rfl (Own.lit 35 (Nat.le_refl _)) (some ad) cap ps.length ps rfl rfl (h.below (below_new _ _)) (by simp; omega) (by simp) ?_; intro A3 c3 m3 w3 hm3 ho3 _ hb3))
    go_ret
    exact ⟨A3, c3, m3, rfl, (show _ = _ from by rw [hm3.out]; rfl), ho3, (below_new _ _).trans hb3⟩
/-- a slice literal of one part -/
theorem step_lit1 {w : World} {ops : Array Oper} {o : Oper} {a : Act} {K : Act → World → Prop} {Q : Exit → Act → World → Prop} {X : Prop} (hgd : Region.wanted o (yielded ops a.tmps) = true) (x : Operand) (ho : o.op = .buildSlice 44 1 #[(0, x)])
    (p : Pt5) (hx : a.eval x = .agg (pta p)) (h : K (a.put o.dst (.slice (some ⟨w.heap.size, 0, none⟩) 1 1)) (w.alloc (.cells (pta p) 37))) : if Region.wanted o (yielded ops a.tmps) = true then Oper.wp Tryz.prog o a w K Q else X := by
  rw [if_pos hgd]
  obtain ⟨i0, hi, hz0, hz1, hz2⟩ := info_parts pt_info
  refine wp_buildSlice 44 37 1 _ ho (pta p) i0 _ Tryz.underlying44 hi hz0 (by rw [hz1]; decide) (by rw [hz1]; decide) ?_ h
  rw [hz1]
  have hl : ((#[(0, x)] : Array (Nat × Operand)).map fun (i, x) => (i, a.eval x)).toList = ([Value.agg (pta p)].zipIdx 0).map fun x => (x.2, x.1) := by simp [hx]
  have hps := pta_size p
  rw [hl, Go.Great.fill_whole (s := 35) (by decide) [Value.agg (pta p)] _ (by intro v hv; rw [List.mem_singleton.1 hv]; exact hps) (by simp)]
  simp [Value.cells]
theorem litP (W : World) (p : Pt5) : SlP (W.alloc (.cells (pta p) 37)) (some ⟨W.heap.size, 0, none⟩) 1 [p] := by
  have h := Sl.litsS W 35 1 (ptl p) 37 (by rw [ptl_len]) (by simp [maxLen])
  show Sl _ 35 _ 1 1 ([p].flatMap ptl)
  simpa [pta] using h
section
variable {w W W' : World} {f nx t q : Int} {A : Option Addr} {k c : Nat} {p : Pt5}
end
end Go.Proofs.YtajfnmohlnkncaaGreatDoor

namespace Go.Proofs.YtajfnmohlnkncaaGreatDoor
open Go.RowKit
attribute [local go_sem ↓] Go.wp_at_zero Go.wp_at_succ

end Go.Proofs.YtajfnmohlnkncaaGreatDoor

namespace Go.Proofs.YtajfnmohlnkncaaGreatDoor
open Go.RowKit
attribute [local go_sem ↓] Go.wp_at_zero Go.wp_at_succ

end Go.Proofs.YtajfnmohlnkncaaGreatDoor

namespace Go.Proofs.YtajfnmohlnkncaaGreatDoor
open Go.RowKit
attribute [local go_sem ↓] Go.wp_at_zero Go.wp_at_succ

end Go.Proofs.YtajfnmohlnkncaaGreatDoor

namespace Go.Proofs.YtajfnmohlnkncaaGreatDoor
open Go.RowKit
attribute [local go_sem ↓] Go.wp_at_zero Go.wp_at_succ

/-- what Join answers -/
def JoinsB (w0 : World) (o : List UInt8 × Nat) (e : Ending) (w' : World) : Prop :=
  ∃ A c m, e = .returned (.tuple #[.slice A (List.length m) c, errv o.2]) ∧ Hid (m = o.1) ∧ SlB w' A c m ∧ Below w0.heap.size w0 w'

end Go.Proofs.YtajfnmohlnkncaaGreatDoor

namespace Go.Proofs.YtajfnmohlnkncaaGreatDoor
open Go.RowKit
attribute [local go_sem ↓] Go.wp_at_zero Go.wp_at_succ

end Go.Proofs.YtajfnmohlnkncaaGreatDoor

namespace Go.Proofs.YtajfnmohlnkncaaGreatDoor
open Go.RowKit
attribute [local go_sem ↓] Go.wp_at_zero Go.wp_at_succ

def fone (l : List UInt8) : List UInt8 × Nat := if (ftake l).2.2 ≠ 0 then ([], (ftake l).2.2) else if (ftake l).2.1 < l.length then ([], 2) else ((ftake l).1, 0)
set_option maxRecDepth 100000 in
set_option maxHeartbeats 1000000 in
theorem FOne_any (A : Option Addr) (c : Nat) (l : List UInt8) (w : World) (hs : SlB w A c l) (hl : l.length ≤ 10000000) :
    Calls Tryz.prog 66 #[.slice A l.length c] w (JoinsB w (fone l)) := by
  go_enter Tryz.func66, Tryz.ntmps66
  go_wp2_with fail
  refine (FTake_any A c l _ hs hl).mono ?_
  rintro e w1 ⟨A1, c1, m1, he, hm1, ho1, hb1⟩
  rcases errv_cases (ftake l).2.2 with ⟨h0, hev⟩ | ⟨k, hk, hke, hev⟩
  · rw [hev] at he
    subst he
    by_cases hlt : (ftake l).2.1 < l.length
    · have hf := Lib.hid (show fone l = ([], 2) from by unfold fone; rw [if_neg (by omega), if_pos hlt])
      have hi : (((ftake l).2.1 : Nat) : Int) < (l.length : Int) := by omega
      generalize (ftake l).2.1 = q at *
      clear h0 hm1
      go_wp2_with fail
      go_ret2
      exact ⟨none, 0, [], by rw [hf.out]; rfl, by rw [hf.out]; rfl, Sl.none_ _ _, hb1⟩
    · have hf := Lib.hid (show fone l = ((ftake l).1, 0) from by unfold fone; rw [if_neg (by omega), if_neg hlt])
      have hi : ¬ (((ftake l).2.1 : Nat) : Int) < (l.length : Int) := by omega
      have hm : Hid (m1 = (fone l).1) := (show _ = _ from by rw [hf.out]; exact hm1.out)
      generalize (ftake l).2.1 = q at *
      clear h0 hm1
      go_wp2_with fail
      go_ret2
      exact ⟨A1, c1, m1, by rw [hf.out]; rfl, hm, ho1.1, hb1⟩
  · have hf := Lib.hid (show fone l = ([], (ftake l).2.2) from by unfold fone; rw [if_pos (by omega)])
    have hfe : errv (fone l).2 = .iface 60 (.int .i64 k) := by rw [hf.out]; exact hev
    have HFE := Lib.hid hfe
    rw [hev] at he
    subst he
    generalize (ftake l).2.1 = q at *
    clear hev hfe hm1 hke
    go_wp2_with fail
    go_ret2
    exact ⟨none, 0, [], by rw [HFE.out]; rfl, by rw [hf.out]; rfl, Sl.none_ _ _, hb1⟩

end Go.Proofs.YtajfnmohlnkncaaGreatDoor

namespace Go.Proofs.YtajfnmohlnkncaaGreatDoor
open Go.RowKit

def zb (u : Nat) : Int := if u % 2 = 0 then (u / 2 : Nat) else -((u / 2 : Nat) : Int) - 1
end Go.Proofs.YtajfnmohlnkncaaGreatDoor

namespace Go.Proofs.YtajfnmohlnkncaaGreatDoor
open Go.RowKit

theorem rNum_vb {n : Nat} (h : U64 n) (r : List UInt8) : rNum (vb n ++ r, 0) = (n, (r, 0)) := by
  unfold rNum
  rw [if_neg (by simp)]
  simp only [take_vb h r, List.drop_left]
theorem rFixed_all (t r : List UInt8) : rFixed (t.length : Int) (t ++ r, 0) = (t, (r, 0)) := by
  unfold rFixed
  rw [if_neg (by simp), if_neg (by simp; omega)]
  simp
end Go.Proofs.YtajfnmohlnkncaaGreatDoor

namespace Go.Proofs.YtajfnmohlnkncaaGreatDoor
open Go.RowKit

/-- what a frame was taken from is that frame -/
theorem ftake_back {l : List UInt8} (h : (ftake l).2.2 = 0) : (ftake l).1.length ≤ 65536 ∧ l.take (ftake l).2.1 = frm (ftake l).1 := by
  unfold ftake at h ⊢
  split at h
  · simp at h
  · rename_i n k hv
    obtain ⟨hu, hk, htk⟩ := take_some hv
    by_cases h1 : 65536 < n
    · rw [if_pos h1] at h; simp at h
    rw [if_neg h1] at h ⊢
    by_cases h2 : l.length < k + n + 4
    · rw [if_pos h2] at h; simp at h
    rw [if_neg h2] at h ⊢
    by_cases h3 : four (sumW (l.take (k + n))) = (l.drop (k + n)).take 4
    · rw [if_pos h3]
      dsimp only
      have hln : ((l.take (k + n)).drop k).length = n := by simp; omega
      have htx : txb ((l.take (k + n)).drop k) = l.take (k + n) := by
        unfold txb
        rw [hln, ← htk]
        have h5 : (l.take (k + n)).take k = l.take k := by rw [List.take_take, Nat.min_eq_left (by omega)]
        rw [← h5, List.take_append_drop]
      refine ⟨by omega, ?_⟩
      unfold frm
      rw [htx, h3, ← List.take_add]
    · rw [if_neg h3] at h; simp at h
theorem fone_back {l : List UInt8} (h : (fone l).2 = 0) : (fone l).1.length ≤ 65536 ∧ l = frm (fone l).1 := by
  unfold fone at h ⊢
  by_cases h1 : (ftake l).2.2 ≠ 0
  · rw [if_pos h1] at h; exact absurd h h1
  rw [if_neg h1] at h ⊢
  by_cases h2 : (ftake l).2.1 < l.length
  · rw [if_pos h2] at h; simp at h
  rw [if_neg h2]
  have h3 := ftake_back (l := l) (by omega)
  refine ⟨h3.1, ?_⟩
  rw [List.take_of_length_le (by omega)] at h3
  exact h3.2
theorem fone_frm {t : List UInt8} (h : t.length ≤ 65536) : fone (frm t) = (t, 0) := by
  have h1 := ftake_frm t [] h
  rw [List.append_nil] at h1
  unfold fone
  rw [h1, if_neg (by simp), if_neg (by simp)]
end Go.Proofs.YtajfnmohlnkncaaGreatDoor

namespace Go.Proofs.YtajfnmohlnkncaaGreatDoor
open Go.RowKit
attribute [local go_sem ↓] Go.wp_at_zero Go.wp_at_succ

section
variable {w W W' : World} {g gt gc B : Nat}
theorem IsR.alloc {s : List UInt8 × Nat} (h : IsR W g B s) (o : Obj) : IsR (W.alloc o) g B s := h.below (below_new _ _)
end
end Go.Proofs.YtajfnmohlnkncaaGreatDoor

namespace Go.Proofs.YtajfnmohlnkncaaGreatDoor
open Go.RowKit

theorem run_copy_rowK {P : Program} (w : World) (dT sT ty elem : TypeId) (k : Nat) (g o dLen dCap : Nat) (a : Addr) (sLen sCap : Nat) (cur : Array Value) (t : TypeId) (cs : List Value)
    (hu : P.underlying dT = some (.slice elem)) (hs : (P.info? elem).map (·.size) = some k)
    (hg : w.heap[g]? = some (.cells cur t (0, 0))) (hn : cs.length = Nat.min sLen dLen * k)
    (hsrc : ∀ j v, cs[j]? = some v → w.cell? (a.add j) = some v) (hfit : o + cs.length ≤ cur.size) (h1 : ∀ v ∈ cs, v.oneCell' = true) :
    (Builtin.copy_ #[dT, sT] ty #[.slice (some ⟨g, o, none⟩) dLen dCap, .slice (some a) sLen sCap]).run P w =
      .ok (goInt (Nat.min sLen dLen)) (w.setRow g (cur.toList.take o ++ cs ++ cur.toList.drop (o + cs.length)).toArray) := by
  have hl := run_loadCells_list (P := P) w a cs hsrc
  have hst := run_storeCells_at P g o t cs 0 cur w hg (by simpa using hfit) h1
  cases hq : P.info? elem with
  | none => simp [hq] at hs
  | some i =>
    have hi : i.size = k := by simpa [hq] using hs
    simp [Builtin.copy_, run_underlying hu, Builtin.lenOf, Builtin.firstCells, sizeOf, typeInfo, hq, hi, ← hn, hl, hst]
theorem wpl_copyK {P : Program} {w : World} {ops : Array Oper} {rest : List Oper} {o : Oper} {a : Act} {Q : Exit → Act → World → Prop} (hgd : o.guard = none) (d s : Operand) (dT sT : TypeId)
    (ho : o.op = .call { callee := .builtin .copy, args := #[d, s], argTypes := #[dT, sT] }) (elem : TypeId) (k : Nat) (hu : P.underlying dT = some (.slice elem)) (hsz : (P.info? elem).map (·.size) = some k)
    (g off dLen dCap : Nat) (ad : Addr) (sLen sCap : Nat) (hd : a.eval d = .slice (some ⟨g, off, none⟩) dLen dCap) (hs : a.eval s = .slice (some ad) sLen sCap)
    (cur : List Value) (t : TypeId) (hg : w.heap[g]? = some (.cells cur.toArray t (0, 0))) (cs : List Value) (hn : cs.length = Nat.min sLen dLen * k)
    (hsrc : ∀ j v, cs[j]? = some v → w.cell? (ad.add j) = some v) (hfit : off + cs.length ≤ cur.length) (h1 : ∀ v ∈ cs, v.oneCell' = true) (B : Nat) (w0 : World) (hb : Below B w0 w) (hBg : B ≤ g)
    (h : ∀ w', Hid (w'.heap[g]? = some (.cells (splice cur off cs).toArray t (0, 0))) → Below B w0 w' → wpList P ops Q rest (a.put o.dst (goInt (Nat.min sLen dLen))) w') : wpList P ops Q (o :: rest) a w := by
  refine wpList_plain hgd fun K hK => ?_
  have hrun := run_copy_rowK (P := P) w dT sT o.type elem k g off dLen dCap ad sLen sCap cur.toArray t cs hu hsz hg hn hsrc (by simpa using hfit) h1
  unfold Oper.wp
  simp [execOp, ho, resolve, invoke, builtin, hd, hs, hrun, Result.andThen]
  exact hK _ _ (h _ (show _ = _ by simpa [splice] using setRow_heap w g _ _ t _ hg) (below_setRow hb hBg _))
theorem step_copyK {P : Program} {ops : Array Oper} {o : Oper} {a : Act} {w : World} {K : Act → World → Prop} {Q : Exit → Act → World → Prop} {E : Prop} (hgd : o.guard = none) (d s : Operand) (dT sT : TypeId)
    (ho : o.op = .call { callee := .builtin .copy, args := #[d, s], argTypes := #[dT, sT] }) (elem : TypeId) (k : Nat) (hu : P.underlying dT = some (.slice elem)) (hsz : (P.info? elem).map (·.size) = some k)
    (g off dLen dCap : Nat) (ad : Addr) (sLen sCap : Nat) (hd : a.eval d = .slice (some ⟨g, off, none⟩) dLen dCap) (hs : a.eval s = .slice (some ad) sLen sCap)
    (cur : List Value) (t : TypeId) (hg : w.heap[g]? = some (.cells cur.toArray t (0, 0))) (cs : List Value) (q : Nat) (hq : Nat.min sLen dLen = q) (hn : cs.length = q * k)
    (hsrc : ∀ j v, cs[j]? = some v → w.cell? (ad.add j) = some v) (hfit : off + cs.length ≤ cur.length) (h1 : ∀ v ∈ cs, v.oneCell' = true) (B : Nat) (w0 : World) (hb : Below B w0 w) (hBg : B ≤ g)
    (h : ∀ w', Hid (w'.heap[g]? = some (.cells (splice cur off cs).toArray t (0, 0))) → Below B w0 w' → K (a.put o.dst (goInt q)) w') :
    if Region.wanted o (yielded ops a.tmps) = true then Oper.wp P o a w K Q else E := by
  subst hq
  have hw : Region.wanted o (yielded ops a.tmps) = true := by simp [Region.wanted, hgd]
  rw [if_pos hw]
  have hrun := run_copy_rowK (P := P) w dT sT o.type elem k g off dLen dCap ad sLen sCap cur.toArray t cs hu hsz hg hn hsrc (by simpa using hfit) h1
  unfold Oper.wp
  simp [execOp, ho, resolve, invoke, builtin, hd, hs, hrun, Result.andThen]
  exact h _ (show _ = _ by simpa [splice] using setRow_heap w g _ _ t _ hg) (below_setRow hb hBg _)
end Go.Proofs.YtajfnmohlnkncaaGreatDoor
