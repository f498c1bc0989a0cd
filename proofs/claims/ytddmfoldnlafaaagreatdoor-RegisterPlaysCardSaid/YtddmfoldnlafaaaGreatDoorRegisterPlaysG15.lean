/- WHAT IT HOLDS: what the package frame computes, walked. | WHAT IT HOLDS: the law CrcParts, walked. | WHAT IT HOLDS: the law CrcFinds, walked. | WHAT IT HOLDS: the law FrameFinds, walked. | WHAT IT HOLDS: frame.Join, and the document's frames, walked. | WHAT IT HOLDS: the law FrameJoins, walked. | WHAT IT HOLDS: frame.One, Prefix, All, walked. | WHAT IT HOLDS: signed numbers' numbers, plainly (no program). | WHAT IT HOLDS: what is put is taken as it was, of the reader's plain functions (no program). | WHAT IT HOLDS: one frame, put and taken, plainly (no program). | WHAT IT HOLDS: a lease's bytes, plainly (no program). | WHAT IT HOLDS: a register's lease on its store, plainly. -/
import Derived.Test.YtddmfoldnlafaaaGreatDoorRegisterPlaysG14
import Derived.Test.YtddmfoldnlafaaaGreatDoorRegisterPlaysG06
import Derived.Laws.CopyOwn
import Derived.Test.YtddmfoldnlafaaaGreatDoorRegisterPlaysG02
import Derived.Lib.Zigzag
import Derived.Test.YtddmfoldnlafaaaGreatDoorRegisterPlaysG07
import Derived.Test.YtddmfoldnlafaaaGreatDoorRegisterPlaysG05
import Derived.Test.YtddmfoldnlafaaaGreatDoorRegisterPlaysG13
namespace Go.Proofs.YtddmfoldnlafaaaGreatDoor
open Go.RowKit
attribute [local go_sem ↓] Go.wp_at_zero Go.wp_at_succ

/-- what Put answers -/
def PutsB (w0 : World) (o : List UInt8 × Nat) (e : Ending) (w' : World) : Prop :=
  ∃ A c m, e = .returned (.tuple #[.slice A (List.length m) c, errv o.2]) ∧ Hid (m = o.1) ∧ OwnB w' w0.heap.size 5 A c m ∧ Below w0.heap.size w0 w'
def fput (l t : List UInt8) : List UInt8 × Nat := if 65536 < t.length then ([], 3) else (l ++ frm t, 0)

set_option maxRecDepth 100000 in
set_option maxHeartbeats 1000000 in
theorem FPut_any (A : Option Addr) (c : Nat) (l : List UInt8) (B : Option Addr) (d : Nat) (t : List UInt8) (w : World) (hl : l.length ≤ 10000000) (hs : SlB w A c l) (ht : SlB w B d t) (htl : t.length ≤ 10000000) :
    Calls Tryz.prog 52 #[.slice A l.length c, .slice B t.length d] w (PutsB w (fput l t)) := by
  by_cases h : 65536 < t.length
  · have ho := Lib.hid (show fput l t = ([], 3) from by unfold fput; rw [if_pos h])
    have hi : (65536 : Int) < (t.length : Int) := by omega
    go_enter Tryz.func52, Tryz.ntmps52
    go_wp2_with fail
    go_ret2
    exact ⟨none, 0, [], by rw [ho.out]; rfl, by rw [ho.out]; rfl, Own.none_ _ _ _ _, Below.refl _ _⟩
  · have ho := Lib.hid (show fput l t = (l ++ frm t, 0) from by unfold fput; rw [if_neg h])
    have hi : ¬ (65536 : Int) < (t.length : Int) := by omega
    have hvl := Lib.hid (vb_le10 (n := t.length) (by omega))
    go_enter Tryz.func52, Tryz.ntmps52
    go_wp2_with fail
    refine (CrcNew_any _).mono ?_
    rintro e w1 ⟨rfl, hM1, hb1⟩
    go_wp2_with fail
    refine (PutText_any none 0 [] B d t w1 (by simp) (Sl.none_ w1 1) (ht.below hb1) htl).mono ?_
    rintro e w2 ⟨A2, c2, m2, rfl, hm2, ho2, hb2⟩
    have hm2' := Lib.hid (show m2 = txb t from hm2.out)
    have hml2 := Lib.hid (show m2.length ≤ 10000010 from by rw [hm2'.out]; unfold txb; rw [List.length_append]; have := hvl.out; omega)
    have hw2 := bel_call hb1 hb2
    go_wp2_with fail
    have hM2 : Mkr w2 w.heap.size ((0 : Nat) : Int) := Mkr.below (.inl hM1) hb2
    have hn2 : m2 ≠ [] → A2.map (·.block) ≠ some w.heap.size := fun _ => Own.ne ho2 hM1.lt
    have hl2 : m2.length ≤ 100000000 := by have := hml2.out; omega
    have hq := Sealed_at w.heap.size 0 A2 c2 m2 w2 hM2 (by omega) ho2.sl hn2 hl2
    with_reducible refine hq.mono ?_
    rintro e w3 ⟨A3, c3, m3, rfl, hm3, ho3, hM3, hB3⟩
    have hm3' := Lib.hid (show m3 = frm t from by rw [hm3.out, hm2'.out]; rfl)
    have hml3 := Lib.hid (show m3.length ≤ 10000014 from by rw [hm3.out, List.length_append, four_len]; have := hml2.out; omega)
    have hw3 := below_of_but hB3 hw2 (Nat.le_refl _)
    have hbn := below_new w3 (.cells #[.slice A l.length c, .slice A3 m3.length c3] 25)
    go_wp2_with fail
    refine (Concat_any (some ⟨w3.heap.size, 0, none⟩) 2 [(A, c, l), (A3, c3, m3)] _ (Sl.lits w3 [pv (A, c, l), pv (A3, c3, m3)] 25 (by simp [maxLen])) ?_ ?_).mono ?_
    · intro q hq
      simp only [List.mem_cons, List.not_mem_nil, or_false] at hq
      rcases hq with rfl | rfl
      · exact (hs.below hw3).below hbn
      · exact ho3.sl.below hbn
    · have := hml3.out; simp [partsOf]; omega
    rintro e w4 ⟨A4, c4, m4, rfl, hm4, ho4, hb4⟩
    go_wp2_with fail
    go_ret2
    refine ⟨A4, c4, m4, by rw [ho.out]; rfl, by rw [ho.out]; show m4 = _; rw [hm4.out, hm3'.out]; simp [partsOf], ho4.more ?_, bel_call (bel_call hw3 hbn) hb4⟩
    exact Nat.le_trans hw3.size hbn.size

/-- bytes, in a block of the call's own, from some place on -/
def OwnO (w : World) (base : Nat) (A : Option Addr) (c : Nat) (m : List UInt8) : Prop :=
  SlB w A c m ∧ (m ≠ [] → ∃ (g off : Nat) (cur : Array Value), A = some ⟨g, off, none⟩ ∧ base ≤ g ∧ w.heap[g]? = some (.cells cur 5 (0, 0)))
/-- what Take answers -/
def TakesF (w0 : World) (o : List UInt8 × Nat × Nat) (e : Ending) (w' : World) : Prop :=
  ∃ A c m, e = .returned (.tuple #[.slice A (List.length m) c, .int .i64 (o.2.1 : Nat), errv o.2.2]) ∧ Hid (m = o.1) ∧ OwnO w' w0.heap.size A c m ∧ Below w0.heap.size w0 w'
theorem OwnO.nil (w : World) (base : Nat) : OwnO w base none 0 [] := ⟨Sl.none_ _ _, fun h => absurd rfl h⟩
theorem OwnO.cut {w : World} {base : Nat} {E : Option Addr} {f k : Nat} {m : List UInt8} (ho : OwnB w base 5 E f m) (hk : k ≤ m.length) : OwnO w base (if f = k then E else E.map (·.add k)) (f - k) (m.drop k) := by
  have hc := Sl.cutB ho.sl hk
  rw [show m.length - k = (m.drop k).length from by simp] at hc
  refine ⟨hc, fun hne => ?_⟩
  have hkl : k < m.length := by
    rcases Nat.lt_or_ge k m.length with h | h
    · exact h
    · exact absurd (List.drop_eq_nil_of_le h) hne
  have hf := ho.sl.2.1
  rw [if_neg (by omega)]
  rcases ho.2 with ⟨_, h0⟩ | ⟨g, cap, cur, hv, hb, hh, _⟩
  · omega
  · injection hv with hE _ _
    subst hE
    exact ⟨g, k, cur, by simp [addr_lit], hb, hh⟩
theorem ftake_none {l : List UInt8} (h : take l = none) : ftake l = ([], 0, 2) := by unfold ftake; rw [h]
theorem ftake_long {l : List UInt8} {n k : Nat} (h : take l = some (n, k)) (hn : 65536 < n) : ftake l = ([], 0, 3) := by unfold ftake; rw [h]; dsimp only; rw [if_pos hn]
theorem ftake_short {l : List UInt8} {n k : Nat} (h : take l = some (n, k)) (hn : ¬ 65536 < n) (hs : l.length < k + n + 4) : ftake l = ([], 0, 2) := by unfold ftake; rw [h]; dsimp only; rw [if_neg hn, if_pos hs]
theorem ftake_some {l : List UInt8} {n k : Nat} (h : take l = some (n, k)) (hn : ¬ 65536 < n) (hs : ¬ l.length < k + n + 4) : ftake l = (if (opened (l.take (k + n + 4))).2 = 0 then ((opened (l.take (k + n + 4))).1.drop k, k + n + 4, 0) else ([], 0, 11)) ∧ ((opened (l.take (k + n + 4))).2 = 0 ∨ (opened (l.take (k + n + 4))).2 = 11) ∧ ((opened (l.take (k + n + 4))).2 = 0 → (opened (l.take (k + n + 4))).1.length = k + n) := by
  unfold ftake; rw [h]; dsimp only; rw [if_neg hn, if_neg hs, opened_take (by omega)]
  by_cases he : four (sumW (l.take (k + n))) = (l.drop (k + n)).take 4
  · rw [if_pos he, if_pos he, if_pos rfl]
    exact ⟨rfl, .inl rfl, fun _ => by simp; omega⟩
  · rw [if_neg he, if_neg he, if_neg (by simp)]
    exact ⟨rfl, .inr rfl, fun h => by simp at h⟩

set_option maxRecDepth 100000 in
set_option maxHeartbeats 2000000 in
theorem FTake_any (A : Option Addr) (c : Nat) (l : List UInt8) (w : World) (hs : SlB w A c l) (hl : l.length ≤ 10000000) :
    Calls Tryz.prog 117 #[.slice A l.length c] w (TakesF w (ftake l)) := by
  have hc1 := hs.2.1
  go_enter Tryz.func117, Tryz.ntmps117
  go_wp2_with fail
  refine (Take_any A c l _ hs).mono ?_
  rintro e w1 ⟨rfl, ⟨ht, rfl⟩ | ⟨n, k, ht, rfl⟩⟩
  · have hf := Lib.hid (ftake_none ht)
    clear ht
    go_wp2_with fail
    go_ret3
    exact ⟨none, 0, [], by rw [hf.out]; rfl, by rw [hf.out]; rfl, OwnO.nil _ _, Below.refl _ _⟩
  · obtain ⟨hu, hkl, _⟩ := take_some ht
    by_cases hn : 65536 < n
    · have hf := Lib.hid (ftake_long ht hn)
      have hni : (65536 : Int) < (n : Int) := by omega
      clear ht
      go_wp2_with fail
      go_ret3
      exact ⟨none, 0, [], by rw [hf.out]; rfl, by rw [hf.out]; rfl, OwnO.nil _ _, Below.refl _ _⟩
    · have hni : ¬ (65536 : Int) < (n : Int) := by omega
      have hw1 : IntKind.u64.wrap ((l.length : Int) - (k : Int)) = ((l.length - k : Nat) : Int) := by rw [IntKind.wrap_u64]; omega
      have hw2 : IntKind.u64.wrap ((n : Int) + 4) = ((n + 4 : Nat) : Int) := by rw [IntKind.wrap_u64]; omega
      by_cases hsh : l.length < k + n + 4
      · have hf := Lib.hid (ftake_short ht hn hsh)
        clear ht
        go_wp2_with fail
        go_ret3
        exact ⟨none, 0, [], by rw [hf.out]; rfl, by rw [hf.out]; rfl, OwnO.nil _ _, Below.refl _ _⟩
      · obtain ⟨hf, hor, hlen⟩ := ftake_some ht hn hsh
        have HF := Lib.hid hf
        have HL := Lib.hid hlen
        have hsi : ¬ (((l.length - k : Nat) : Int) < (n : Int) + 4) := by omega
        obtain ⟨q, hq⟩ : ∃ q, q = k + n + 4 := ⟨_, rfl⟩
        have hqi : (k : Int) + (n : Int) + 4 = (q : Int) := by omega
        have hqc : q ≤ c := by omega
        have hql : q ≤ l.length := by omega
        have hw64 : wrap64 (n : Int) = (n : Int) := by simp only [wrap64]; omega
        rw [← hq] at HF HL hor
        have HQ := Lib.hid hq
        have hT := Sl.takeB hs q
        have htl : (l.take q).length = q := by simp; omega
        clear ht hf hlen hq hw2
        generalize hl1 : l.take q = l1 at *
        clear hl1
        have HTL := Lib.hid htl
        clear htl
        have hT1 : SlB w.drew A c l1 := hT
        go_wp2_with fail
        go_cut [7, 4] (fun s7 s4 wx => ∃ (E : Option Addr) (f : Nat) (m : List UInt8), s7 = .slice E m.length f ∧ s4 = errv (opened l1).2 ∧ Hid (m = (opened l1).1) ∧ OwnB wx w.heap.size 5 E f m ∧ Below w.heap.size w wx)
        case first =>
          refine wp_region_held_drew (S := (fun _ => True)) (by kernel_rfl) ?_ (fun hHeld => ?_)
          · first | done | trivial
          refine wpAnyH_take (i := 1) (oi := ⟨some 39, _, _, _, _, _⟩) (v := ?_) rfl (by kernel_rfl) (by kernel_rfl) (by kernel_rfl) (fun _ _ _ h => h) (Or.inl ⟨by kernel_rfl, ?_⟩) (by assumption) ?_
          rotate_left
          · (intro wS hSw; (try dsimp only at hSw); go_simp; (try with_reducible rfl))
          (try simp only [Act.put, List.setIfInBounds_toArray, List.set_cons_zero, List.set_cons_succ])
          refine wpAnyH_take (i := 2) (oi := ⟨some 40, _, _, _, _, _⟩) (v := ?_) rfl (by kernel_rfl) (by kernel_rfl) (by kernel_rfl) (fun _ _ _ h => h) (Or.inl ⟨by kernel_rfl, ?_⟩) (by assumption) ?_
          rotate_left
          · (intro wS hSw; (try dsimp only at hSw); go_simp; (try with_reducible rfl))
          (try simp only [Act.put, List.setIfInBounds_toArray, List.set_cons_zero, List.set_cons_succ])
          refine wpAnyH_take (i := 3) (oi := ⟨some 41, _, _, _, _, _⟩) (v := ?_) rfl (by kernel_rfl) (by kernel_rfl) (by kernel_rfl) (fun _ _ _ h => h) (Or.inl ⟨by kernel_rfl, ?_⟩) (by assumption) ?_
          rotate_left
          · (intro wS hSw; (try dsimp only at hSw); go_simp; (try with_reducible rfl))
          (try simp only [Act.put, List.setIfInBounds_toArray, List.set_cons_zero, List.set_cons_succ])
          refine wpAnyH_ready (rs := [0]) (by kernel_rfl) (by simp) ?_
          refine AllReadyH.cons (o := ⟨some 38, _, _, _, _, _⟩) rfl (fun K hK => ?_) AllReadyH.nil
          go_simp
          (refine (CrcNew_any _).mono ?_; rintro e w9 ⟨rfl, hM9, hb9⟩; have hM9' : Mkr w9 w.heap.size ((0 : Nat) : Int) := .inl hM9; have hT9 : SlB w9 A c l1 := hT1.below hb9; have hn9 : l1 ≠ [] → A.map (·.block) ≠ some w.heap.size := SlB.old hT1 (Nat.le_refl _))
          go_wp2_with fail
          refine hK.out _ _ ?_ (fun hHeld => ?_)
          · ((try dsimp only); (first | done | trivial))
          clear hK K
          (try simp only [Act.put, List.setIfInBounds_toArray, List.set_cons_zero, List.set_cons_succ])
          refine wpAnyH_ready (rs := [4]) (by kernel_rfl) (by simp) ?_
          refine AllReadyH.cons (o := ⟨some 42, _, _, _, _, _⟩) rfl (fun K hK => ?_) AllReadyH.nil
          go_simp
          ((with_reducible refine (Opened_len w.heap.size 0 A c q l1 w9 HTL.out.symm hM9' (by omega) hT9 hn9 (by rw [HTL.out]; omega)).mono ?_); rintro e w10 ⟨A10, c10, m10, rfl, hm10, ho10, hM10, hB10⟩)
          go_wp2_with fail
          refine hK.out _ _ ?_ (fun hHeld => ?_)
          · ((try dsimp only); (first | done | trivial))
          clear hK K
          (try simp only [Act.put, List.setIfInBounds_toArray, List.set_cons_zero, List.set_cons_succ])
          refine wpAnyH_take (i := 5) (oi := ⟨some 37, _, _, _, _, _⟩) (v := ?_) rfl (by kernel_rfl) (by kernel_rfl) (by kernel_rfl) (fun _ _ _ h => h) (Or.inl ⟨by kernel_rfl, ?_⟩) (by assumption) ?_
          rotate_left
          · (intro wS hSw; (try dsimp only at hSw); go_simp; (try with_reducible rfl))
          (try simp only [Act.put, List.setIfInBounds_toArray, List.set_cons_zero, List.set_cons_succ])
          refine wpAnyH_take (i := 6) (oi := ⟨some 43, _, _, _, _, _⟩) (v := ?_) rfl (by kernel_rfl) (by kernel_rfl) (by kernel_rfl) (fun _ _ _ h => h) (Or.inl ⟨by kernel_rfl, ?_⟩) (by assumption) ?_
          rotate_left
          · (intro wS hSw; (try dsimp only at hSw); go_simp; (try with_reducible rfl))
          (try simp only [Act.put, List.setIfInBounds_toArray, List.set_cons_zero, List.set_cons_succ])
          refine wpAnyH_take (i := 7) (oi := ⟨some 44, _, _, _, _, _⟩) (v := ?_) rfl (by kernel_rfl) (by kernel_rfl) (by kernel_rfl) (fun _ _ _ h => h) (Or.inl ⟨by kernel_rfl, ?_⟩) (by assumption) ?_
          rotate_left
          · (intro wS hSw; (try dsimp only at hSw); go_simp; (try with_reducible rfl))
          (try simp only [Act.put, List.setIfInBounds_toArray, List.set_cons_zero, List.set_cons_succ])
          refine wpAnyH_take (i := 8) (oi := ⟨some 7, _, _, _, _, _⟩) (v := ?_) rfl (by kernel_rfl) (by kernel_rfl) (by kernel_rfl) (fun _ _ _ h => h) (Or.inl ⟨by kernel_rfl, ?_⟩) (by assumption) ?_
          rotate_left
          · (intro wS hSw; (try dsimp only at hSw); go_simp; (try with_reducible rfl))
          (try simp only [Act.put, List.setIfInBounds_toArray, List.set_cons_zero, List.set_cons_succ])
          refine wpAnyH_take (i := 9) (oi := ⟨some 4, _, _, _, _, _⟩) (v := ?_) rfl (by kernel_rfl) (by kernel_rfl) (by kernel_rfl) (fun _ _ _ h => h) (Or.inl ⟨by kernel_rfl, ?_⟩) (by assumption) ?_
          rotate_left
          · (intro wS hSw; (try dsimp only at hSw); go_simp; (try with_reducible rfl))
          (try simp only [Act.put, List.setIfInBounds_toArray, List.set_cons_zero, List.set_cons_succ])
          refine wpAnyH_done (by kernel_rfl) ?_ _
          go_wp2_with fail
          go_meet
          exact ⟨A10, c10, m10, rfl, rfl, hm10, ho10.more hb9.size, below_of_drew (below_of_but hB10 hb9 (Nat.le_refl _))⟩
        case rest =>
          obtain ⟨E, f, m, rfl, rfl, hm, ho, hb⟩ := hcut
          have hfc := ho.sl.2.1
          rcases hor with h0 | h11
          · have hm1 := hm.out
            rw [← hm1] at HF HL
            rw [h0] at HF HL
            have hml := Lib.hid (HL.out rfl)
            have hkm : k ≤ m.length := by rw [hml.out]; omega
            have HF2 := Lib.hid (show ftake l = (m.drop k, q, 0) from by rw [HF.out, if_pos rfl])
            have hcut := OwnO.cut ho hkm
            have hdl : (m.drop k).length = m.length - k := by simp
            rw [h0]
            clear HF HL hm hm1 ho
            generalize m.drop k = m2 at *
            have hev : errv 0 = .nilIface := rfl
            rw [hev]
            by_cases hfk : f = k
            · rw [if_pos hfk] at hcut
              subst hfk
              go_wp2_with fail
              go_ret3
              refine ⟨E, f - f, m2, ?_, by rw [HF2.out]; rfl, hcut, hb⟩
              rw [HF2.out, hdl]
              simp [errv]
              omega
            · rw [if_neg hfk] at hcut
              go_wp2_with fail
              go_ret3
              refine ⟨_, f - k, m2, ?_, by rw [HF2.out]; rfl, hcut, hb⟩
              rw [HF2.out, hdl]
              rfl
          · have HF2 := Lib.hid (show ftake l = ([], 0, 11) from by rw [HF.out, if_neg (by rw [h11]; simp)])
            rw [h11]
            have hev : errv 11 = .iface 79 (.int .i64 11) := rfl
            rw [hev]
            clear HF HL hm ho
            go_wp2_with fail
            go_ret3
            exact ⟨none, 0, [], by rw [HF2.out]; rfl, by rw [HF2.out]; rfl, OwnO.nil _ _, hb⟩
end Go.Proofs.YtddmfoldnlafaaaGreatDoor

namespace Go.Proofs.YtddmfoldnlafaaaGreatDoor
open Go.RowKit
attribute [local go_sem ↓] Go.wp_at_zero Go.wp_at_succ

end Go.Proofs.YtddmfoldnlafaaaGreatDoor

namespace Go.Proofs.YtddmfoldnlafaaaGreatDoor
open Go.RowKit
attribute [local go_sem ↓] Go.wp_at_zero Go.wp_at_succ

end Go.Proofs.YtddmfoldnlafaaaGreatDoor

namespace Go.Proofs.YtddmfoldnlafaaaGreatDoor
open Go.RowKit
attribute [local go_sem ↓] Go.wp_at_zero Go.wp_at_succ

end Go.Proofs.YtddmfoldnlafaaaGreatDoor

namespace Go.Proofs.YtddmfoldnlafaaaGreatDoor
open Go.RowKit
attribute [local go_sem ↓] Go.wp_at_zero Go.wp_at_succ

/-- what Join answers -/
def JoinsB (w0 : World) (o : List UInt8 × Nat) (e : Ending) (w' : World) : Prop :=
  ∃ A c m, e = .returned (.tuple #[.slice A (List.length m) c, errv o.2]) ∧ Hid (m = o.1) ∧ SlB w' A c m ∧ Below w0.heap.size w0 w'

set_option maxRecDepth 100000 in
set_option maxHeartbeats 1000000 in
theorem rFrame_any (A : Option Addr) (c : Nat) (t : List UInt8) (w : World) (hs : SlB w A c t) (ht : t.length ≤ 1000000) :
    Calls Tryz.prog 139 #[.slice A t.length c] w (GivesB w (frm t)) := by
  have hvl := Lib.hid (vb_le10 (n := t.length) (by omega))
  go_enter Tryz.func139, Tryz.ntmps139
  go_wp2_with fail
  refine (rText_any A c t _ hs (by omega)).mono ?_
  rintro e w1 ⟨A1, c1, m1, rfl, hm1, ho1, hb1⟩
  have hm1' := Lib.hid (show m1 = txb t from hm1.out)
  have hl1 := Lib.hid (show m1.length ≤ 1000010 from by rw [hm1'.out]; unfold txb; rw [List.length_append]; have := hvl.out; omega)
  go_wp2_with fail
  refine (rSum_any A1 c1 m1 _ ho1.sl (by have := hl1.out; omega)).mono ?_
  rintro e w2 ⟨rfl, rfl⟩
  go_wp2_with fail
  refine (rFour_any (sumW m1) _).mono ?_
  rintro e w3 ⟨A3, c3, m3, rfl, hm3, hs3, hb3⟩
  have hl3 := Lib.hid (show m3.length = 4 from by rw [hm3.out, four_len])
  go_wp2_with (at_builtin; go_must (refine wpl_bytes 25 5 Tryz.underlying25 u8_info rfl _ _ rfl w.heap.size A1 c1 m1 rfl (ho1.below hb3) A3 c3 m3 rfl hs3 (by have := hl1.out; have := hl3.out; omega) (Nat.le_trans hb1.size hb3.size) ?_; intro A4 c4 m4 w4 hm4 ho4 _ _ hb4))
  go_ret
  exact ⟨A4, c4, m4, rfl, (show m4 = _ from by rw [hm4.out, hm3.out, hm1'.out]; rfl), ho4, (bel_call hb1 hb3).trans hb4⟩
end Go.Proofs.YtddmfoldnlafaaaGreatDoor

namespace Go.Proofs.YtddmfoldnlafaaaGreatDoor
open Go.RowKit
attribute [local go_sem ↓] Go.wp_at_zero Go.wp_at_succ

end Go.Proofs.YtddmfoldnlafaaaGreatDoor

namespace Go.Proofs.YtddmfoldnlafaaaGreatDoor
open Go.RowKit
attribute [local go_sem ↓] Go.wp_at_zero Go.wp_at_succ

def fone (l : List UInt8) : List UInt8 × Nat := if (ftake l).2.2 ≠ 0 then ([], (ftake l).2.2) else if (ftake l).2.1 < l.length then ([], 2) else ((ftake l).1, 0)
set_option maxRecDepth 100000 in
set_option maxHeartbeats 1000000 in
theorem FOne_any (A : Option Addr) (c : Nat) (l : List UInt8) (w : World) (hs : SlB w A c l) (hl : l.length ≤ 10000000) :
    Calls Tryz.prog 53 #[.slice A l.length c] w (JoinsB w (fone l)) := by
  go_enter Tryz.func53, Tryz.ntmps53
  go_wp2_with fail
  refine (FTake_any A c l _ hs hl).mono ?_
  rintro e w1 ⟨A1, c1, m1, he, hm1, ho1, hb1⟩
  rcases errv_cases (ftake l).2.2 with ⟨h0, hev⟩ | ⟨k, hk, hke, hev⟩
  · rw [hev] at he
    subst he
    by_cases hlt : (ftake l).2.1 < l.length
    · have hf := Lib.hid (show fone l = ([], 2) from by unfold fone; rw [if_neg (by omega), if_pos hlt])
      have hi : (((ftake l).2.1 : Nat) : Int) < (l.length : Int) := by omega
      generalize (ftake l).2.1 = q at *
      clear h0 hm1
      go_wp2_with fail
      go_ret2
      exact ⟨none, 0, [], by rw [hf.out]; rfl, by rw [hf.out]; rfl, Sl.none_ _ _, hb1⟩
    · have hf := Lib.hid (show fone l = ((ftake l).1, 0) from by unfold fone; rw [if_neg (by omega), if_neg hlt])
      have hi : ¬ (((ftake l).2.1 : Nat) : Int) < (l.length : Int) := by omega
      have hm : Hid (m1 = (fone l).1) := (show _ = _ from by rw [hf.out]; exact hm1.out)
      generalize (ftake l).2.1 = q at *
      clear h0 hm1
      go_wp2_with fail
      go_ret2
      exact ⟨A1, c1, m1, by rw [hf.out]; rfl, hm, ho1.1, hb1⟩
  · have hf := Lib.hid (show fone l = ([], (ftake l).2.2) from by unfold fone; rw [if_pos (by omega)])
    have hfe : errv (fone l).2 = .iface 79 (.int .i64 k) := by rw [hf.out]; exact hev
    have HFE := Lib.hid hfe
    rw [hev] at he
    subst he
    generalize (ftake l).2.1 = q at *
    clear hev hfe hm1 hke
    go_wp2_with fail
    go_ret2
    exact ⟨none, 0, [], by rw [HFE.out]; rfl, by rw [hf.out]; rfl, Sl.none_ _ _, hb1⟩

end Go.Proofs.YtddmfoldnlafaaaGreatDoor

namespace Go.Proofs.YtddmfoldnlafaaaGreatDoor
open Go.RowKit

end Go.Proofs.YtddmfoldnlafaaaGreatDoor

namespace Go.Proofs.YtddmfoldnlafaaaGreatDoor
open Go.RowKit

end Go.Proofs.YtddmfoldnlafaaaGreatDoor

namespace Go.Proofs.YtddmfoldnlafaaaGreatDoor
open Go.RowKit

end Go.Proofs.YtddmfoldnlafaaaGreatDoor

namespace Go.Proofs.YtddmfoldnlafaaaGreatDoor
open Go.RowKit

/-- a lease's three numbers, off a text -/
def lread (t : List UInt8) : Int × Int × Int × Nat :=
  (((rWithin 2 (t, 0)).1 : Nat), ((rWithin 1099511627776 (rWithin 2 (t, 0)).2).1 : Nat), ((rWithin 1099511627776 (rWithin 1099511627776 (rWithin 2 (t, 0)).2).2).1 : Nat), rEnd (rWithin 1099511627776 (rWithin 1099511627776 (rWithin 2 (t, 0)).2).2).2)
/-- the lease of bytes -/
def ltake (l : List UInt8) : Int × Int × Int × Nat :=
  if (fone l).2 ≠ 0 then (0, 0, 0, (fone l).2)
  else if (lread (fone l).1).2.2.2 ≠ 0 then (0, 0, 0, (lread (fone l).1).2.2.2)
  else if chk (lread (fone l).1).1 (lread (fone l).1).2.1 (lread (fone l).1).2.2.1 ≠ 0 then (0, 0, 0, chk (lread (fone l).1).1 (lread (fone l).1).2.1 (lread (fone l).1).2.2.1)
  else ((lread (fone l).1).1, (lread (fone l).1).2.1, (lread (fone l).1).2.2.1, 0)
def ltxt (o e u : Int) : List UInt8 := vb o.toNat ++ vb e.toNat ++ vb u.toNat
/-- a lease's bytes -/
def lput (o e u : Int) : List UInt8 × Nat := if chk o e u ≠ 0 then ([], chk o e u) else (frm (ltxt o e u), 0)
theorem ltxt_len {o e u : Int} (h : chk o e u = 0) : (ltxt o e u).length ≤ 30 := by
  obtain ⟨a, b, c, _⟩ := chk_ok h
  have h1 := vb_le10 (n := o.toNat) (by omega)
  have h2 := vb_le10 (n := e.toNat) (by omega)
  have h3 := vb_le10 (n := u.toNat) (by omega)
  unfold ltxt
  simp only [List.length_append]
  omega
end Go.Proofs.YtddmfoldnlafaaaGreatDoor

namespace Go.Proofs.YtddmfoldnlafaaaGreatDoor
open Go.RowKit Go.Maps Go.Sort

/-- the lease's name -/
def lname : Bs := [108, 101, 97, 115, 101]
abbrev L3r := Int × Int × Int
def lpt (L : L3r) : Bs := (lput L.1 L.2.1 L.2.2).1
def lck (L : L3r) : Nat := chk L.1 L.2.1 L.2.2
end Go.Proofs.YtddmfoldnlafaaaGreatDoor
