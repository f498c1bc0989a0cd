/- WHAT IT HOLDS: what the methods of varint.Reader do, walked. | WHAT IT HOLDS: Left, Err, End, New of varint.Reader, and what a nil reader does, walked. | WHAT IT HOLDS: what the document's reader (a struct by value) answers, walked. | WHAT IT HOLDS: the document's ListOf, walked. | WHAT IT HOLDS: same, walked. | WHAT IT HOLDS: act, walked. | WHAT IT HOLDS: what the small functions of the package cell compute, walked. | WHAT IT HOLDS: arguments that are slices of structs, opened to the words of Kit; over any program. -/
import Derived.Test.YtddmfoldnlafaaaGreatDoorRegisterPlaysG06
import Derived.RegionTactic
import Derived.ChangeAlike
import Derived.Deep.RegionHeld3
import Derived.Deep.DrawnRows
import Derived.Test.YtddmfoldnlafaaaGreatDoorShelfB
import Derived.Lib.Bytes
import Derived.Test.YtddmfoldnlafaaaGreatDoorRegisterPlaysG02
import Derived.Deep.Slices
import Derived.Deep.Fields
import Derived.ChangeSame
namespace Go.Proofs.YtddmfoldnlafaaaGreatDoor
open Go.RowKit

theorem IsR.store {w : World} {g B bad : Nat} {l l' : List UInt8} (hR : IsR w g B (l, bad)) {A' : Option Addr} {c' n : Nat} (hn : n = l'.length) (hS : SlB w A' c' l') (hBd : l' ≠ [] → ∀ ad, A' = some ad → ad.block < B) : IsR (w.setCell ⟨g, 0, none⟩ (.slice A' n c')) g B (l', bad) := by
  subst hn
  obtain ⟨A, c, hB, h0⟩ := hR
  exact ⟨A', c', hB.set_ 0 _, SlB.wr hS hB (slice_ne _ _ _) (errv_ne _) ((Wr.refl _ _).set_ _ _), hBd⟩
theorem drop_ne {l : List UInt8} {k : Nat} (h : l.drop k ≠ []) : l ≠ [] := fun e => h (by rw [e]; simp)
theorem IsR.cut_eq {w : World} {g B bad : Nat} {l : List UInt8} {A : Option Addr} {c k : Nat} (hR : IsR w g B (l, bad)) (hS : SlB w A c l) (hBd : l ≠ [] → ∀ ad, A = some ad → ad.block < B) (hk : k ≤ l.length) (h : c = k) : IsR (w.setCell ⟨g, 0, none⟩ (.slice A (l.length - k) 0)) g B (l.drop k, bad) := by
  have := Sl.cutB hS hk
  rw [if_pos h, show c - k = 0 from by omega] at this
  exact hR.store (by simp) (by rw [← List.length_drop] at this; exact this) (fun hn => hBd (drop_ne hn))
theorem IsR.cut_ne {w : World} {g B bad : Nat} {l : List UInt8} {A : Option Addr} {c k : Nat} (hR : IsR w g B (l, bad)) (hS : SlB w A c l) (hBd : l ≠ [] → ∀ ad, A = some ad → ad.block < B) (hk : k ≤ l.length) (h : ¬ c = k) :
    IsR (w.setCell ⟨g, 0, none⟩ (.slice (Option.map (fun x => x.add k) A) (l.length - k) (c - k))) g B (l.drop k, bad) := by
  have := Sl.cutB hS hk
  rw [if_neg h] at this
  refine hR.store (by simp) (by rw [← List.length_drop] at this; exact this) (fun hn ad hA => ?_)
  cases A with
  | none => simp at hA
  | some a =>
    simp at hA
    rw [← hA, addr_add_block]
    exact hBd (drop_ne hn) a rfl

set_option maxRecDepth 100000 in
set_option maxHeartbeats 400000 in
theorem going_any {g B bad : Nat} {l : List UInt8} {w : World} (hR : IsR w g B (l, bad)) : Calls Tryz.prog 119 #[.pointer (some ⟨g, 0, none⟩)] w fun e w' => e = .returned (.bool (decide (bad = 0))) ∧ w = w' := by
  obtain ⟨A, c, hB, hS, hBd⟩ := hR
  obtain ⟨a0, a1, f0, f1⟩ := hB.two
  rcases errv_cases bad with ⟨h0, he⟩ | ⟨k, hk, h0, he⟩
  · have hd : decide (bad = 0) = true := by simpa using h0
    have H := Lib.hid h0
    clear h0
    go_enter Tryz.func119, Tryz.ntmps119
    go_wp2_with fail
    go_ret
    exact ⟨rfl, rfl⟩
  · have hd : decide (bad = 0) = false := by simp; omega
    have H := Lib.hid h0
    clear h0
    go_enter Tryz.func119, Tryz.ntmps119
    go_wp2_with fail
    go_ret
    exact ⟨rfl, rfl⟩
set_option maxRecDepth 100000 in
set_option maxHeartbeats 400000 in
theorem Fail_any {g B bad : Nat} {l : List UInt8} {w : World} (k : Nat) (hR : IsR w g B (l, bad)) :
    Calls Tryz.prog 57 #[.pointer (some ⟨g, 0, none⟩), errv k] w fun e w' => e = .returned (.tuple #[]) ∧ IsR w' g B (rFail k (l, bad)) ∧ Wr w w' g := by
  have hR0 := hR
  obtain ⟨A, c, hB, hS, hBd⟩ := hR
  obtain ⟨a0, a1, f0, f1⟩ := hB.two
  rcases Decidable.em (bad = 0) with h0 | h0
  · have hd : decide (bad = 0) = true := by simpa using h0
    have hf : rFail k (l, bad) = (l, k) := by unfold rFail; rw [if_pos h0]
    have H := Lib.hid h0
    clear h0
    have hx : ∃ x, errv k = x ∧ (x = .nilIface ∨ ∃ n, x = .iface 79 (.int .i64 n)) := by
      rcases errv_cases k with ⟨_, h⟩ | ⟨n, _, _, h⟩
      · exact ⟨_, h, .inl rfl⟩
      · exact ⟨_, h, .inr ⟨n, rfl⟩⟩
    have HF := Lib.hid hf
    clear hf
    obtain ⟨x, hx, hx2⟩ := hx
    have HX := Lib.hid hx
    rw [hx]
    clear hx
    rcases hx2 with rfl | ⟨n, rfl⟩
    all_goals
      go_enter Tryz.func57, Tryz.ntmps57
      go_wp2_with fail
      refine (going_any hR0).mono ?_
      rintro e w1 ⟨rfl, rfl⟩
      go_wp2_with fail
      go_end0
      refine ⟨rfl, ?_, (Wr.refl _ _).set_ _ _⟩
      rw [HF.out]
      refine ⟨A, c, ?_, hS.wrR hR0 ((Wr.refl _ _).set_ _ _), hBd⟩
      have := hB.set_ 1 (errv k)
      rw [HX.out] at this
      simpa [HX.out] using this
  · have hd : decide (bad = 0) = false := by simpa using h0
    have hf : rFail k (l, bad) = (l, bad) := by unfold rFail; rw [if_neg h0]
    have HF := Lib.hid hf
    clear h0 hf
    go_enter Tryz.func57, Tryz.ntmps57
    go_wp2_with fail
    refine (going_any hR0).mono ?_
    rintro e w1 ⟨rfl, rfl⟩
    go_wp2_with fail
    go_end0
    exact ⟨rfl, by rw [HF.out]; exact hR0, Wr.refl _ _⟩

set_option maxRecDepth 100000 in
set_option maxHeartbeats 400000 in
theorem Number_any {g B bad : Nat} {l : List UInt8} {w : World} (hR : IsR w g B (l, bad)) :
    Calls Tryz.prog 56 #[.pointer (some ⟨g, 0, none⟩)] w fun e w' => e = .returned (.int .u64 ((rNum (l, bad)).1 : Nat)) ∧ IsR w' g B (rNum (l, bad)).2 ∧ Wr w w' g := by
  have hR0 := hR
  obtain ⟨A, c, hB, hS, hBd⟩ := hR
  obtain ⟨a0, a1, f0, f1⟩ := hB.two
  rcases Decidable.em (bad = 0) with h0 | h0
  · subst h0
    have he : errv 0 = .nilIface := rfl
    go_enter Tryz.func56, Tryz.ntmps56
    go_wp2_with fail
    refine (going_any hR0).mono ?_
    rintro e w1 ⟨rfl, rfl⟩
    go_wp2_with fail
    refine (Take_any A c l _ hS).mono ?_
    rintro e w1 ⟨rfl, ⟨ht, rfl⟩ | ⟨n, k, ht, rfl⟩⟩
    · have hn : rNum (l, 0) = (0, (l, 2)) := by simp [rNum, ht]
      have HN := Lib.hid hn
      clear hn ht
      go_wp2_with fail
      go_ret
      rw [HN.out]
      exact ⟨rfl, ⟨A, c, hB.set_ 1 (.iface 79 (.int .i64 2)), hS.wrR hR0 ((Wr.refl _ _).set_ _ _), hBd⟩, (Wr.refl _ _).set_ _ _⟩
    · have hn : rNum (l, 0) = (n, (l.drop k, 0)) := by simp [rNum, ht]
      obtain ⟨hu, hk, _⟩ := take_some ht
      have hkc : k ≤ c := Nat.le_trans hk hS.2.1
      have hmx : c ≤ 9223372036854775807 := by have := hS.2.2.1; unfold maxLen at this; exact this
      have HN := Lib.hid hn
      clear hn ht
      go_wp2_with fail
      all_goals
        go_ret
        rw [HN.out]
        refine ⟨rfl, ?_, (Wr.refl _ _).set_ _ _⟩
        first | exact hR0.cut_eq hS hBd hk ‹_› | exact hR0.cut_ne hS hBd hk ‹_›
  · have hn : rNum (l, bad) = (0, (l, bad)) := by simp [rNum, h0]
    have hd : decide (bad = 0) = false := by simpa using h0
    have HN := Lib.hid hn
    clear hn h0
    go_enter Tryz.func56, Tryz.ntmps56
    go_wp2_with fail
    refine (going_any hR0).mono ?_
    rintro e w1 ⟨rfl, rfl⟩
    go_wp2_with fail
    go_ret
    rw [HN.out]
    exact ⟨rfl, hR0, Wr.refl _ _⟩

theorem rNum_u64 (s : List UInt8 × Nat) : U64 (rNum s).1 := by
  unfold rNum
  split
  · unfold U64; omega
  · split
    · unfold U64; omega
    · rename_i h; exact (take_some h).1

set_option maxRecDepth 100000 in
set_option maxHeartbeats 400000 in
theorem Within_any {g B : Nat} {s : List UInt8 × Nat} {w : World} (most : Nat) (hR : IsR w g B s) :
    Calls Tryz.prog 118 #[.pointer (some ⟨g, 0, none⟩), .int .u64 most] w fun e w' => e = .returned (.int .i64 ((rWithin most s).1 : Nat)) ∧ IsR w' g B (rWithin most s).2 ∧ Wr w w' g := by
  obtain ⟨l, bad⟩ := s
  have hNum := Number_any hR
  have hu := rNum_u64 (l, bad)
  have hW : rWithin most (l, bad) = if (rNum (l, bad)).1 > most ∨ (rNum (l, bad)).1 > 4611686018427387904 then (0, rFail 1 (rNum (l, bad)).2) else rNum (l, bad) := rfl
  generalize rNum (l, bad) = r at *
  obtain ⟨n, l2, bad2⟩ := r
  have HW := Lib.hid hW
  clear hW
  rcases Decidable.em (most < n) with h1 | h1
  · have HG : Hid (rWithin most (l, bad) = (0, rFail 1 (l2, bad2))) := (show _ = _ by rw [HW.out, if_pos (Or.inl h1)])
    have HN := Lib.hid hNum
    clear hNum
    go_enter Tryz.func118, Tryz.ntmps118
    go_wp2_with fail
    refine HN.out.mono ?_
    rintro e w1 ⟨rfl, hR1, hw1⟩
    go_wp2_with fail
    refine (Fail_any 1 hR1).mono ?_
    rintro e w2 ⟨rfl, hR2, hw2⟩
    go_wp2_with fail
    go_ret
    rw [HG.out]
    exact ⟨rfl, hR2, hw1.trans hw2⟩
  · rcases Decidable.em (4611686018427387904 < n) with h2 | h2
    · have HG : Hid (rWithin most (l, bad) = (0, rFail 1 (l2, bad2))) := (show _ = _ by rw [HW.out, if_pos (Or.inr h2)])
      have h3 : (4611686018427387904 : Int) < (n : Int) := by omega
      clear h2
      have HN := Lib.hid hNum
      clear hNum
      go_enter Tryz.func118, Tryz.ntmps118
      go_wp2_with fail
      refine HN.out.mono ?_
      rintro e w1 ⟨rfl, hR1, hw1⟩
      go_wp2_with fail
      refine (Fail_any 1 hR1).mono ?_
      rintro e w2 ⟨rfl, hR2, hw2⟩
      go_wp2_with fail
      go_ret
      rw [HG.out]
      exact ⟨rfl, hR2, hw1.trans hw2⟩
    · have HG : Hid (rWithin most (l, bad) = (n, (l2, bad2))) := (show _ = _ by rw [HW.out, if_neg (by simp only [gt_iff_lt]; omega)])
      have h3 : (n : Int) ≤ 4611686018427387904 := by omega
      clear h2
      have HN := Lib.hid hNum
      clear hNum
      go_enter Tryz.func118, Tryz.ntmps118
      go_wp2_with fail
      refine HN.out.mono ?_
      rintro e w1 ⟨rfl, hR1, hw1⟩
      go_wp2_with fail
      go_ret
      rw [HG.out]
      exact ⟨rfl, hR1, hw1⟩

end Go.Proofs.YtddmfoldnlafaaaGreatDoor

namespace Go.Proofs.YtddmfoldnlafaaaGreatDoor
open Go.RowKit

set_option maxRecDepth 100000 in
set_option maxHeartbeats 400000 in
theorem Left_any {g B bad : Nat} {l : List UInt8} {w : World} (hR : IsR w g B (l, bad)) : Calls Tryz.prog 123 #[.pointer (some ⟨g, 0, none⟩)] w fun e w' => e = .returned (.int .i64 (rLeft (l, bad) : Nat)) ∧ w = w' := by
  have hR0 := hR
  obtain ⟨A, c, hB, hS, _⟩ := hR
  obtain ⟨a0, a1, f0, f1⟩ := hB.two
  rcases Decidable.em (bad = 0) with h0 | h0
  · subst h0
    go_enter Tryz.func123, Tryz.ntmps123
    go_wp2_with fail
    refine (going_any hR0).mono ?_
    rintro e w1 ⟨rfl, rfl⟩
    go_wp2_with fail
    go_ret
    exact ⟨rfl, rfl⟩
  · have hd : decide (bad = 0) = false := by simpa using h0
    have HG : Hid (rLeft (l, bad) = 0) := (show _ = _ by simp [rLeft, h0])
    clear h0
    go_enter Tryz.func123, Tryz.ntmps123
    go_wp2_with fail
    refine (going_any hR0).mono ?_
    rintro e w1 ⟨rfl, rfl⟩
    go_wp2_with fail
    go_ret
    exact ⟨by rw [HG.out]; rfl, rfl⟩
set_option maxRecDepth 100000 in
set_option maxHeartbeats 400000 in
theorem Err_any {g B bad : Nat} {l : List UInt8} {w : World} (hR : IsR w g B (l, bad)) : Calls Tryz.prog 122 #[.pointer (some ⟨g, 0, none⟩)] w fun e w' => e = .returned (errv bad) ∧ w = w' := by
  obtain ⟨A, c, hB, hS, _⟩ := hR
  obtain ⟨a0, a1, f0, f1⟩ := hB.two
  go_enter Tryz.func122, Tryz.ntmps122
  go_wp2_with fail
  go_ret
  exact ⟨rfl, rfl⟩
set_option maxRecDepth 100000 in
set_option maxHeartbeats 400000 in
theorem End_any {g B bad : Nat} {l : List UInt8} {w : World} (hR : IsR w g B (l, bad)) : Calls Tryz.prog 59 #[.pointer (some ⟨g, 0, none⟩)] w fun e w' => e = .returned (errv (rEnd (l, bad))) ∧ w = w' := by
  rcases errv_cases bad with ⟨rfl, he⟩ | ⟨k, hk, h0, he⟩
  · rcases Decidable.em (0 < l.length) with hl | hl
    · have HG : Hid (rEnd (l, 0) = 2) := (show (if (0 : Nat) = 0 ∧ 0 < l.length then 2 else 0) = 2 by rw [if_pos ⟨rfl, hl⟩])
      have HL : Hid (rLeft (l, 0) = l.length) := (show _ = _ from rfl)
      go_enter Tryz.func59, Tryz.ntmps59
      go_wp2_with fail
      refine (Err_any hR).mono ?_
      rintro e w1 ⟨rfl, rfl⟩
      go_wp2_with fail
      refine (Left_any hR).mono ?_
      rintro e w1 ⟨rfl, rfl⟩
      rw [HL.out]
      go_wp2_with fail
      go_ret
      exact ⟨by rw [HG.out]; rfl, rfl⟩
    · have HG : Hid (rEnd (l, 0) = 0) := (show (if (0 : Nat) = 0 ∧ 0 < l.length then 2 else 0) = 0 by rw [if_neg (fun h => hl h.2)])
      have HL : Hid (rLeft (l, 0) = l.length) := (show _ = _ from rfl)
      go_enter Tryz.func59, Tryz.ntmps59
      go_wp2_with fail
      refine (Err_any hR).mono ?_
      rintro e w1 ⟨rfl, rfl⟩
      go_wp2_with fail
      refine (Left_any hR).mono ?_
      rintro e w1 ⟨rfl, rfl⟩
      rw [HL.out]
      go_wp2_with fail
      go_ret
      exact ⟨by rw [HG.out]; rfl, rfl⟩
  · have HG : Hid (rEnd (l, bad) = bad) := (show _ = _ by simp only [rEnd]; rw [if_neg (by omega)])
    have H0 := Lib.hid h0
    clear h0
    go_enter Tryz.func59, Tryz.ntmps59
    go_wp2_with fail
    refine (Err_any hR).mono ?_
    rintro e w1 ⟨rfl, rfl⟩
    go_wp2_with fail
    go_ret
    exact ⟨by rw [HG.out, he]; rfl, rfl⟩
set_option maxRecDepth 100000 in
set_option maxHeartbeats 400000 in
theorem RNew_any (A : Option Addr) (c : Nat) (l : List UInt8) (w : World) (hs : SlB w A c l) : Calls Tryz.prog 54 #[.slice A l.length c] w fun e w' => ∃ g, e = .returned (.pointer (some ⟨g, 0, none⟩)) ∧ w.heap.size ≤ g ∧ IsR w' g w.heap.size (l, 0) ∧ Below w.heap.size w w' := by
  go_enter Tryz.func54, Tryz.ntmps54
  go_wp2_with fail
  go_ret
  refine ⟨w.heap.size, rfl, Nat.le_refl _, ⟨A, c, Blk.new _ _ _, hs.below (below_new _ _), fun hn ad hA => ?_⟩, below_new _ _⟩
  have hl : 0 < l.length := by cases l <;> simp_all
  obtain ⟨ad', hA', hc⟩ := hs.at1 (k := 0) hl
  rw [hA] at hA'
  injection hA' with e
  subst e
  have := World.block_lt_of_cell? w _ hc
  rwa [addr_add_block] at this
end Go.Proofs.YtddmfoldnlafaaaGreatDoor

namespace Go.Proofs.YtddmfoldnlafaaaGreatDoor
open Go.RowKit

theorem res_r1 {fn : Func} {a : Nat} {tmps : Array Value} {w : World} {g : Nat} {x y : Value} (hres : fn.results = #[.cell a 233]) (ha : tmps.getD a undef = .pointer (some ⟨g, 0, none⟩)) (hB : Blk w g 233 #[x, y]) :
    (results fn tmps).run Tryz.prog w = .ok (.agg #[x, y]) w := by
  obtain ⟨b0, b1, _, _⟩ := hB.two
  have ha' : tmps[a]?.getD undef = .pointer (some ⟨g, 0, none⟩) := by simpa using ha
  simp [results, hres, go_sem, b0, b1, ha']
theorem res_r2 {fn : Func} {a b : Nat} {tmps : Array Value} {w : World} {g : Nat} {x y : Value} (hres : fn.results = #[.tmp b, .cell a 233]) (ha : tmps.getD a undef = .pointer (some ⟨g, 0, none⟩)) (hB : Blk w g 233 #[x, y]) :
    (results fn tmps).run Tryz.prog w = .ok (.tuple #[tmps.getD b undef, .agg #[x, y]]) w := by
  obtain ⟨b0, b1, _, _⟩ := hB.two
  have ha' : tmps[a]?.getD undef = .pointer (some ⟨g, 0, none⟩) := by simpa using ha
  simp [results, hres, go_sem, b0, b1, ha']

/-- the document's reader as a value -/
abbrev rv (A : Option Addr) (n c : Nat) (bad : Nat) : Value := .agg #[.slice A n c, .int .i64 (bad : Int)]
/-- a reader by value that reads as s -/
def RV (w : World) (B : Nat) (v : Value) (s : List UInt8 × Nat) : Prop := ∃ A c, v = rv A s.1.length c s.2 ∧ SlB w A c s.1 ∧ (s.1 ≠ [] → ∀ ad, A = some ad → ad.block < B)
theorem RV.below {w w' : World} {B : Nat} {v : Value} {s : List UInt8 × Nat} (h : RV w B v s) (hb : Below w.heap.size w w') : RV w' B v s := by
  obtain ⟨A, c, h1, h2, h3⟩ := h
  exact ⟨A, c, h1, h2.below hb, h3⟩

set_option maxRecDepth 100000 in
set_option maxHeartbeats 400000 in
theorem rfail_any {A : Option Addr} {n c bad : Nat} {l : List UInt8} (k : Nat) (w : World) : Calls Tryz.prog 168 #[rv A n c bad, .int .i64 k] w fun e w' => ∃ b : Nat, e = .returned (rv A n c b) ∧ Hid (rFail k (l, bad) = (l, b)) ∧ Below w.heap.size w w' := by
  rcases Decidable.em (bad = 0) with h0 | h0
  · subst h0
    go_enter Tryz.func168, Tryz.ntmps168
    go_wp2_with fail
    exact bodyPost_ret (res_r1 rfl rfl (g := w.heap.size + 1) (x := .slice A n c) (y := .int .i64 k) (Blk.newAt (by simp) _ _)) rfl ⟨k, rfl, (show _ = _ by simp [rFail]), bel_alloc (below_new _ _) _⟩
  · have hb : ((bad : Int) == 0) = false := by simp; omega
    have H0 := Lib.hid h0
    clear h0
    go_enter Tryz.func168, Tryz.ntmps168
    go_wp2_with fail
    exact bodyPost_ret (res_r1 rfl rfl (g := w.heap.size + 1) (x := .slice A n c) (y := .int .i64 bad) (Blk.newAt (by simp) _ _)) rfl ⟨bad, rfl, (show _ = _ by simp [rFail, H0.out]), bel_alloc (below_new _ _) _⟩

theorem cut_bound {A : Option Addr} {k B : Nat} {l : List UInt8} (hBd : l ≠ [] → ∀ ad, A = some ad → ad.block < B) : l.drop k ≠ [] → ∀ ad, Option.map (fun x => x.add k) A = some ad → ad.block < B := by
  intro hn ad hA
  cases A with
  | none => simp at hA
  | some a =>
    simp at hA
    rw [← hA, addr_add_block]
    exact hBd (drop_ne hn) a rfl
theorem cutRV_eq {w : World} {A : Option Addr} {c k : Nat} {l : List UInt8} (hS : SlB w A c l) {B : Nat} (hBd : l ≠ [] → ∀ ad, A = some ad → ad.block < B) (hk : k ≤ l.length) (h : c = k) : RV w B (rv A (l.length - k) 0 0) (l.drop k, 0) := by
  have := Sl.cutB hS hk
  rw [if_pos h, show c - k = 0 from by omega, ← List.length_drop] at this
  exact ⟨A, 0, by rw [← List.length_drop], this, fun hn => hBd (drop_ne hn)⟩
theorem cutRV_ne {w : World} {A : Option Addr} {c k : Nat} {l : List UInt8} (hS : SlB w A c l) {B : Nat} (hBd : l ≠ [] → ∀ ad, A = some ad → ad.block < B) (hk : k ≤ l.length) (h : ¬ c = k) : RV w B (rv (Option.map (fun x => x.add k) A) (l.length - k) (c - k) 0) (l.drop k, 0) := by
  have := Sl.cutB hS hk
  rw [if_neg h, ← List.length_drop] at this
  exact ⟨_, c - k, by rw [← List.length_drop], this, cut_bound hBd⟩

/-- a number, and the reader then -/
def RGives (k : IntKind) (B : Nat) (r : Nat × (List UInt8 × Nat)) (w : World) (e : Ending) (w' : World) : Prop := ∃ v, e = .returned (.tuple #[.int k (r.1 : Int), v]) ∧ RV w' B v r.2 ∧ Below w.heap.size w w'

set_option maxRecDepth 100000 in
set_option maxHeartbeats 1000000 in
theorem rNumber_any {A : Option Addr} {c bad : Nat} {l : List UInt8} (w : World) (hS : SlB w A c l) {B : Nat} (hBd : l ≠ [] → ∀ ad, A = some ad → ad.block < B) : Calls Tryz.prog 142 #[rv A l.length c bad] w (RGives .u64 B (rNum (l, bad)) w) := by
  rcases Decidable.em (bad = 0) with h0 | h0
  · subst h0
    go_enter Tryz.func142, Tryz.ntmps142
    go_wp2_with fail
    refine (rTake_any A c l _ (hS.below (bel_alloc (below_new _ _) _))).mono ?_
    rintro e w1 ⟨hb1, ⟨ht, rfl⟩ | ⟨n, k, ht, rfl⟩⟩
    · have HN : Hid (rNum (l, 0) = (0, (l, 2))) := (show _ = _ by simp [rNum, ht])
      clear ht
      have hB0 := ((Blk.new w 233 #[.slice A l.length c, .int .i64 0]).alloc (.cells #[.slice none 0 0, .int .i64 0] 233)).below hb1
      have hB1 := (Blk.newAt (w := w.alloc (.cells #[.slice A l.length c, .int .i64 0] 233)) (g := w.heap.size + 1) (by simp) 233 #[.slice none 0 0, .int .i64 0]).below hb1
      have hw1 := bel_call (bel_alloc (below_new w _) _) hb1
      obtain ⟨a0, a1, _, _⟩ := hB0.two
      obtain ⟨b0, b1, f0, f1⟩ := hB1.two
      go_wp2_with fail
      refine (rfail_any (l := l) (bad := 0) 2 _).mono ?_
      rintro e w2 ⟨b, rfl, hfb, hb2⟩
      obtain rfl : b = 2 := by have := hfb.out; simp [rFail] at this; omega
      have hw2 := bel_call hw1 hb2
      obtain ⟨b0, b1, f0, f1⟩ := (hB1.below hb2).two
      have hE1 := hB1.below hb2
      go_wp2_with fail
      refine bodyPost_ret (res_r2 rfl rfl (g := w.heap.size + 1) (x := .slice A l.length c) (y := .int .i64 2) (by (repeat (first | with_reducible exact hE1 | with_reducible apply Blk.set2)))) rfl ⟨rv A l.length c 2, by rw [HN.out]; rfl, ?_, by (repeat (first | with_reducible exact hw2 | with_reducible refine bel_set ?_ (by first | omega | (dsimp only; omega)) _))⟩
      rw [HN.out]
      exact ⟨A, c, rfl, hS.below (by (repeat (first | with_reducible exact hw2 | with_reducible refine bel_set ?_ (by first | omega | (dsimp only; omega)) _))), hBd⟩
    · have HN : Hid (rNum (l, 0) = (n, (l.drop k, 0))) := (show _ = _ by simp [rNum, ht])
      obtain ⟨hu, hk, _⟩ := take_some ht
      have hkc : k ≤ c := Nat.le_trans hk hS.2.1
      have hmx : c ≤ 9223372036854775807 := by have := hS.2.2.1; unfold maxLen at this; exact this
      have hcut := Sl.cutB hS hk
      clear ht
      have hB0 := ((Blk.new w 233 #[.slice A l.length c, .int .i64 0]).alloc (.cells #[.slice none 0 0, .int .i64 0] 233)).below hb1
      have hB1 := (Blk.newAt (w := w.alloc (.cells #[.slice A l.length c, .int .i64 0] 233)) (g := w.heap.size + 1) (by simp) 233 #[.slice none 0 0, .int .i64 0]).below hb1
      have hw1 := bel_call (bel_alloc (below_new w _) _) hb1
      obtain ⟨a0, a1, e0, e1⟩ := hB0.two
      obtain ⟨b0, b1, f0, f1⟩ := hB1.two
      go_wp2_with fail
      all_goals
        go_region
      all_goals
        go_wp2_with fail
        first
          | (have h := cutRV_eq hS hBd hk ‹_›
             refine bodyPost_ret (res_r2 rfl rfl (g := w.heap.size + 1) (x := .slice A (l.length - k) 0) (y := .int .i64 0) (by (repeat (first | with_reducible exact hB1 | with_reducible apply Blk.set2 | with_reducible refine Blk.far ?_ (by first | omega | (dsimp only; omega)) _ | with_reducible refine Blk.drew ?_)))) rfl ⟨rv A (l.length - k) 0 0, by rw [HN.out]; rfl, ?_, by (repeat (first | with_reducible exact hw1 | with_reducible refine bel_set ?_ (by first | omega | (dsimp only; omega)) _ | with_reducible refine Below.drew ?_))⟩
             rw [HN.out]
             exact h.below (by (repeat (first | with_reducible exact hw1 | with_reducible refine bel_set ?_ (by first | omega | (dsimp only; omega)) _ | with_reducible refine Below.drew ?_))))
          | (have h := cutRV_ne hS hBd hk ‹_›
             refine bodyPost_ret (res_r2 rfl rfl (g := w.heap.size + 1) (x := .slice (Option.map (fun x => x.add k) A) (l.length - k) (c - k)) (y := .int .i64 0) (by (repeat (first | with_reducible exact hB1 | with_reducible apply Blk.set2 | with_reducible refine Blk.far ?_ (by first | omega | (dsimp only; omega)) _ | with_reducible refine Blk.drew ?_)))) rfl ⟨rv (Option.map (fun x => x.add k) A) (l.length - k) (c - k) 0, by rw [HN.out]; rfl, ?_, by (repeat (first | with_reducible exact hw1 | with_reducible refine bel_set ?_ (by first | omega | (dsimp only; omega)) _ | with_reducible refine Below.drew ?_))⟩
             rw [HN.out]
             exact h.below (by (repeat (first | with_reducible exact hw1 | with_reducible refine bel_set ?_ (by first | omega | (dsimp only; omega)) _ | with_reducible refine Below.drew ?_))))
  · have hb : ((bad : Int) != 0) = true := by simp; omega
    have HN : Hid (rNum (l, bad) = (0, (l, bad))) := (show _ = _ by simp [rNum, h0])
    clear h0
    go_enter Tryz.func142, Tryz.ntmps142
    go_wp2_with fail
    go_region
    all_goals
      go_wp2_with fail
      refine bodyPost_ret (res_r2 rfl rfl (g := w.heap.size + 1) (x := .slice A l.length c) (y := .int .i64 bad) (Blk.newAt (by simp) _ _).drew) rfl ⟨rv A l.length c bad, by rw [HN.out]; rfl, ?_, (bel_alloc (below_new _ _) _).drew⟩
      rw [HN.out]
      exact ⟨A, c, rfl, hS.below (bel_alloc (below_new _ _) _).drew, hBd⟩

set_option maxRecDepth 100000 in
set_option maxHeartbeats 1000000 in
theorem rWithin_any {A : Option Addr} {c bad : Nat} {l : List UInt8} (most : Nat) (w : World) (hS : SlB w A c l) {B : Nat} (hBd : l ≠ [] → ∀ ad, A = some ad → ad.block < B) : Calls Tryz.prog 141 #[rv A l.length c bad, .int .u64 most] w (RGives .i64 B (rWithin most (l, bad)) w) := by
  have hB0 := (Blk.new w 233 #[.slice A l.length c, .int .i64 bad]).alloc (.cells #[.slice none 0 0, .int .i64 0] 233)
  have hB1 := Blk.newAt (w := w.alloc (.cells #[.slice A l.length c, .int .i64 bad] 233)) (g := w.heap.size + 1) (by simp) 233 #[.slice none 0 0, .int .i64 0]
  have hbw := bel_alloc (below_new w (.cells #[.slice A l.length c, .int .i64 bad] 233)) (.cells #[.slice none 0 0, .int .i64 0] 233)
  have hNum := rNumber_any (bad := bad) _ (hS.below hbw) hBd
  have hW : rWithin most (l, bad) = if (rNum (l, bad)).1 > most ∨ (rNum (l, bad)).1 > 4611686018427387904 then (0, rFail 1 (rNum (l, bad)).2) else rNum (l, bad) := rfl
  generalize rNum (l, bad) = r at *
  obtain ⟨n, l2, bad2⟩ := r
  have HW := Lib.hid hW
  have HN := Lib.hid hNum
  clear hW hNum
  rcases Decidable.em (most < n) with h1 | h1
  · have HG : Hid (rWithin most (l, bad) = (0, rFail 1 (l2, bad2))) := (show _ = _ by rw [HW.out, if_pos (Or.inl h1)])
    go_enter Tryz.func141, Tryz.ntmps141
    go_wp2_with fail
    refine HN.out.mono ?_
    rintro e w1 ⟨v, rfl, ⟨A2, c2, rfl, hS2, hBd2⟩, hb1⟩
    have hD0 := hB0.below hb1
    have hD1 := hB1.below hb1
    have hw1 := bel_call hbw hb1
    have hz0 : w.heap.size < w1.heap.size := hD0.lt
    have hz1 : w.heap.size + 1 < w1.heap.size := hD1.lt
    obtain ⟨a0, a1, e0, e1⟩ := hD0.two
    obtain ⟨b0, b1, f0, f1⟩ := hD1.two
    clear hB0 hB1 hbw hb1
    go_wp2_with fail
    have hK := hD0.set2 (.slice A2 l2.length c2) (.int .i64 bad2)
    have hK1 := (hD1.far (p := ⟨w.heap.size, 0, none⟩) (by dsimp only; omega) (.slice A2 l2.length c2)).far (p := ⟨w.heap.size, 1, none⟩) (by dsimp only; omega) (.int .i64 bad2)
    have hwK : Below w.heap.size w ((w1.setCell ⟨w.heap.size, 0, none⟩ (.slice A2 l2.length c2)).setCell ⟨w.heap.size, 1, none⟩ (.int .i64 bad2)) := by (repeat (first | with_reducible exact hw1 | with_reducible refine bel_set ?_ (by first | omega | (dsimp only; omega)) _))
    have hSK : SlB ((w1.setCell ⟨w.heap.size, 0, none⟩ (.slice A2 l2.length c2)).setCell ⟨w.heap.size, 1, none⟩ (.int .i64 bad2)) A2 c2 l2 := hS2.wr hD0 (slice_ne _ _ _) (fun b h => by cases h) (((Wr.refl _ _).set_ _ _).set_ _ _)
    refine (rfail_any (l := l2) 1 _).mono ?_
    rintro e w2 ⟨b, rfl, hfb, hb2⟩
    have hL1 := hK1.below hb2
    have hw2 := bel_call hwK hb2
    have hS3 := hSK.below hb2
    obtain ⟨b0, b1, f0, f1⟩ := hL1.two
    clear a0 a1 e0 e1 hK hK1 hwK hSK hb2
    go_wp2_with fail
    refine bodyPost_ret (res_r2 rfl rfl (g := w.heap.size + 1) (x := .slice A2 l2.length c2) (y := .int .i64 b) (by (repeat (first | with_reducible exact hL1 | with_reducible apply Blk.set2)))) rfl ⟨rv A2 l2.length c2 b, by rw [HG.out]; rfl, ?_, by (repeat (first | with_reducible exact hw2 | with_reducible refine bel_set ?_ (by first | omega | (dsimp only; omega)) _))⟩
    rw [HG.out, hfb.out]
    exact ⟨A2, c2, rfl, SlB.wr hS3 hL1 (slice_ne _ _ _) (fun b h => by cases h) (((Wr.refl _ _).set_ 0 (.slice A2 l2.length c2)).set_ 1 (.int .i64 b)), hBd2⟩
  · rcases Decidable.em (4611686018427387904 < n) with h2 | h2
    · have HG : Hid (rWithin most (l, bad) = (0, rFail 1 (l2, bad2))) := (show _ = _ by rw [HW.out, if_pos (Or.inr h2)])
      have h3 : (4611686018427387904 : Int) < (n : Int) := by omega
      clear h2
      go_enter Tryz.func141, Tryz.ntmps141
      go_wp2_with fail
      refine HN.out.mono ?_
      rintro e w1 ⟨v, rfl, ⟨A2, c2, rfl, hS2, hBd2⟩, hb1⟩
      have hD0 := hB0.below hb1
      have hD1 := hB1.below hb1
      have hw1 := bel_call hbw hb1
      have hz0 : w.heap.size < w1.heap.size := hD0.lt
      have hz1 : w.heap.size + 1 < w1.heap.size := hD1.lt
      obtain ⟨a0, a1, e0, e1⟩ := hD0.two
      obtain ⟨b0, b1, f0, f1⟩ := hD1.two
      clear hB0 hB1 hbw hb1
      go_wp2_with fail
      have hK := hD0.set2 (.slice A2 l2.length c2) (.int .i64 bad2)
      have hK1 := (hD1.far (p := ⟨w.heap.size, 0, none⟩) (by dsimp only; omega) (.slice A2 l2.length c2)).far (p := ⟨w.heap.size, 1, none⟩) (by dsimp only; omega) (.int .i64 bad2)
      have hwK : Below w.heap.size w ((w1.setCell ⟨w.heap.size, 0, none⟩ (.slice A2 l2.length c2)).setCell ⟨w.heap.size, 1, none⟩ (.int .i64 bad2)) := by (repeat (first | with_reducible exact hw1 | with_reducible refine bel_set ?_ (by first | omega | (dsimp only; omega)) _))
      have hSK : SlB ((w1.setCell ⟨w.heap.size, 0, none⟩ (.slice A2 l2.length c2)).setCell ⟨w.heap.size, 1, none⟩ (.int .i64 bad2)) A2 c2 l2 := hS2.wr hD0 (slice_ne _ _ _) (fun b h => by cases h) (((Wr.refl _ _).set_ _ _).set_ _ _)
      refine (rfail_any (l := l2) 1 _).mono ?_
      rintro e w2 ⟨b, rfl, hfb, hb2⟩
      have hL1 := hK1.below hb2
      have hw2 := bel_call hwK hb2
      have hS3 := hSK.below hb2
      obtain ⟨b0, b1, f0, f1⟩ := hL1.two
      clear a0 a1 e0 e1 hK hK1 hwK hSK hb2
      go_wp2_with fail
      refine bodyPost_ret (res_r2 rfl rfl (g := w.heap.size + 1) (x := .slice A2 l2.length c2) (y := .int .i64 b) (by (repeat (first | with_reducible exact hL1 | with_reducible apply Blk.set2)))) rfl ⟨rv A2 l2.length c2 b, by rw [HG.out]; rfl, ?_, by (repeat (first | with_reducible exact hw2 | with_reducible refine bel_set ?_ (by first | omega | (dsimp only; omega)) _))⟩
      rw [HG.out, hfb.out]
      exact ⟨A2, c2, rfl, SlB.wr hS3 hL1 (slice_ne _ _ _) (fun b h => by cases h) (((Wr.refl _ _).set_ 0 (.slice A2 l2.length c2)).set_ 1 (.int .i64 b)), hBd2⟩
    · have HG : Hid (rWithin most (l, bad) = (n, (l2, bad2))) := (show _ = _ by rw [HW.out, if_neg (by simp only [gt_iff_lt]; omega)])
      have h3 : (n : Int) ≤ 4611686018427387904 := by omega
      clear h2
      go_enter Tryz.func141, Tryz.ntmps141
      go_wp2_with fail
      refine HN.out.mono ?_
      rintro e w1 ⟨v, rfl, ⟨A2, c2, rfl, hS2, hBd2⟩, hb1⟩
      have hD0 := hB0.below hb1
      have hD1 := hB1.below hb1
      have hw1 := bel_call hbw hb1
      have hz0 : w.heap.size < w1.heap.size := hD0.lt
      have hz1 : w.heap.size + 1 < w1.heap.size := hD1.lt
      obtain ⟨a0, a1, e0, e1⟩ := hD0.two
      obtain ⟨b0, b1, f0, f1⟩ := hD1.two
      clear hB0 hB1 hbw hb1
      go_wp2_with fail
      go_region
      all_goals
        go_wp2_with fail
        refine bodyPost_ret (res_r2 rfl rfl (g := w.heap.size + 1) (x := .slice A2 l2.length c2) (y := .int .i64 bad2) (by (repeat (first | with_reducible exact hD1 | with_reducible apply Blk.set2 | with_reducible refine Blk.far ?_ (by first | omega | (dsimp only; omega)) _ | with_reducible refine Blk.drew ?_)))) rfl ⟨rv A2 l2.length c2 bad2, by rw [HG.out]; rfl, ?_, by (repeat (first | with_reducible exact hw1 | with_reducible refine bel_set ?_ (by first | omega | (dsimp only; omega)) _ | with_reducible refine Below.drew ?_))⟩
        rw [HG.out]
        refine ⟨A2, c2, rfl, ?_, hBd2⟩
        exact SlB.wr (SlB.wr hS2 hD0 (slice_ne _ _ _) (fun b h => by cases h) (((Wr.refl _ _).set_ 0 (.slice A2 l2.length c2)).set_ 1 (.int .i64 bad2))) ((hD1.far (p := ⟨w.heap.size, 0, none⟩) (by dsimp only; omega) (.slice A2 l2.length c2)).far (p := ⟨w.heap.size, 1, none⟩) (by dsimp only; omega) (.int .i64 bad2)) (slice_ne _ _ _) (fun b h => by cases h) (((Wr.refl _ _).set_ 0 (.slice A2 l2.length c2)).set_ 1 (.int .i64 bad2)).drew

set_option maxRecDepth 100000 in
set_option maxHeartbeats 1000000 in
theorem rEnd_any {A : Option Addr} {c bad : Nat} {l : List UInt8} (w : World) : Calls Tryz.prog 144 #[rv A l.length c bad] w fun e w' => e = .returned (.int .i64 (rEnd (l, bad) : Nat)) ∧ Below w.heap.size w w' := by
  rcases Decidable.em (bad = 0) with h0 | h0
  · subst h0
    rcases Decidable.em (0 < l.length) with h1 | h1
    · have HG : Hid (rEnd (l, 0) = 2) := (show (if (0 : Nat) = 0 ∧ 0 < l.length then 2 else 0) = 2 by rw [if_pos ⟨rfl, h1⟩])
      go_enter Tryz.func144, Tryz.ntmps144
      go_wp2_with fail
      go_ret
      exact ⟨by rw [HG.out]; rfl, below_new _ _⟩
    · have HG : Hid (rEnd (l, 0) = 0) := (show (if (0 : Nat) = 0 ∧ 0 < l.length then 2 else 0) = 0 by rw [if_neg (fun h => h1 h.2)])
      go_enter Tryz.func144, Tryz.ntmps144
      go_wp2_with fail
      go_ret
      exact ⟨by rw [HG.out]; rfl, below_new _ _⟩
  · have hb : ((bad : Int) == 0) = false := by simp; omega
    have HG : Hid (rEnd (l, bad) = bad) := (show (if bad = 0 ∧ 0 < l.length then 2 else bad) = bad by rw [if_neg (fun h => h0 h.1)])
    clear h0
    go_enter Tryz.func144, Tryz.ntmps144
    go_wp2_with fail
    go_ret
    exact ⟨by rw [HG.out]; rfl, below_new _ _⟩
end Go.Proofs.YtddmfoldnlafaaaGreatDoor

namespace Go.Proofs.YtddmfoldnlafaaaGreatDoor
open Go.RowKit

end Go.Proofs.YtddmfoldnlafaaaGreatDoor

namespace Go.Proofs.YtddmfoldnlafaaaGreatDoor
open Go.RowKit

attribute [local go_sem ↓] Go.wp_at_zero Go.wp_at_succ

end Go.Proofs.YtddmfoldnlafaaaGreatDoor

namespace Go.Proofs.YtddmfoldnlafaaaGreatDoor
open Go.RowKit
attribute [local go_sem ↓] Go.wp_at_zero Go.wp_at_succ

theorem kk {w : World} {g g' : Nat} {t t' : TypeId} {a b x y z : Value} (h : Blk w g t #[a, b]) (k : Blk w g' t' #[x, y, z]) : w.cell? ⟨g, 0, none⟩ = some a ∧ w.cell? ⟨g, 1, none⟩ = some b ∧ w.cell? ⟨g', 1, none⟩ = some y ∧ w.cell? ⟨g', 2, none⟩ = some z :=
  ⟨h.cell 0, h.cell 1, k.cell 1, k.cell 2⟩
def u6 (kind : Int) (k : Int) : Prop := (IntKind.u64.wrap kind).tmod 6 = k

end Go.Proofs.YtddmfoldnlafaaaGreatDoor

namespace Go.Proofs.YtddmfoldnlafaaaGreatDoor
open Go.RowKit
attribute [local go_sem ↓] Go.wp_at_zero Go.wp_at_succ

end Go.Proofs.YtddmfoldnlafaaaGreatDoor

namespace Go.Proofs.YtddmfoldnlafaaaGreatDoor
open Go.ChangeShapes Go.WideShapes Go.ChangeAt Go.RowKit Go.Deep

section
variable {H : Type} {enc : TypeId × Value → H} {P : Program} {w : World} {base : Nat} {spare : Nat → Bool} {held : Bool}
end

theorem list_choice {T : Type} (R : Nat → T → Prop) : ∀ n, (∀ i, i < n → ∃ t, R i t) → ∃ l : List T, l.length = n ∧ ∀ i (hi : i < l.length), R i l[i]
  | 0, _ => ⟨[], rfl, fun i hi => by simp at hi⟩
  | n + 1, h => by
    obtain ⟨l, hl, hr⟩ := list_choice R n fun i hi => h i (by omega)
    obtain ⟨t, ht⟩ := h n (by omega)
    refine ⟨l ++ [t], by simp [hl], fun i hi => ?_⟩
    by_cases hin : i < l.length
    · rw [List.getElem_append_left hin]; exact hr i hin
    · have : i = l.length := by simp at hi; omega
      subst this
      simpa [hl] using ht
theorem flat_len {T : Type} {f : T → List Value} {s : Nat} (hf : ∀ x, (f x).length = s) (l : List T) : (l.flatMap f).length = l.length * s := by
  induction l with
  | nil => simp
  | cons x l ih => simp only [List.flatMap_cons, List.length_append, hf, ih, List.length_cons, Nat.succ_mul]; omega
theorem flat_get {T : Type} {f : T → List Value} {s : Nat} (hf : ∀ x, (f x).length = s) : ∀ (l : List T) (k j : Nat) (hk : k < l.length), j < s → (l.flatMap f)[k * s + j]? = (f l[k])[j]?
  | x :: l, 0, j, _, hj => by
    simp only [List.flatMap_cons, Nat.zero_mul, Nat.zero_add, List.getElem_cons_zero]
    rw [List.getElem?_append_left (by rw [hf]; exact hj)]
  | x :: l, k + 1, j, hk, hj => by
    have h := flat_get hf l k j (by simpa using hk) hj
    simp only [List.flatMap_cons, List.getElem_cons_succ]
    rw [List.getElem?_append_right (by rw [hf, Nat.succ_mul]; omega), hf, ← h]
    congr 1
    rw [Nat.succ_mul]
    omega
/-- the cell j of the struct k -/
theorem Sl.atS {w : World} {n c size : Nat} {A : Option Addr} {T : Type} {f : T → List Value} {l : List T} (hf : ∀ x, (f x).length = size) (h0 : 0 < size) (h : Sl w size A n c (l.flatMap f)) {k : Nat} (hk : k < l.length) :
    ∃ ad b o, A = some ad ∧ ad.add (k * size) = ⟨b, o, none⟩ ∧ ∀ j u, (f l[k])[j]? = some u → w.cell? ⟨b, o + j, none⟩ = some u := by
  have h1 := flat_get hf l k 0 hk h0
  have h2 : (f l[k])[0]? = some ((f l[k])[0]'(by rw [hf]; exact h0)) := List.getElem?_eq_getElem _
  obtain ⟨ad, hA, hc0⟩ := h.2.2.2.2 _ _ (h1.trans h2)
  have hsp := World.cell?_spot hc0
  have he : ad.add (k * size) = ⟨(ad.add (k * size)).block, (ad.add (k * size)).off, none⟩ := by
    rw [Nat.add_zero] at hsp
    cases h3 : ad.add (k * size) with
    | mk bl of sp => rw [h3] at hsp; simp at hsp; subst hsp; rfl
  refine ⟨ad, _, _, hA, he, fun j u hu => ?_⟩
  have hj : j < size := by have := (List.getElem?_eq_some_iff.1 hu).1; rw [hf] at this; exact this
  obtain ⟨ad', hA', hc⟩ := h.2.2.2.2 _ _ ((flat_get hf l k j hk hj).trans hu)
  rw [hA] at hA'
  injection hA' with e
  subst e
  rw [← addr_add_add, he, addr_lit] at hc
  exact hc
end Go.Proofs.YtddmfoldnlafaaaGreatDoor
