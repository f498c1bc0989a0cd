/- WHAT IT HOLDS: what the document's reader (a struct by value) answers, walked. | WHAT IT HOLDS: the document's ListOf, walked. | WHAT IT HOLDS: same, walked. | WHAT IT HOLDS: act, walked. | WHAT IT HOLDS: what the small functions of the package cell compute, walked. | WHAT IT HOLDS: arguments that are slices of structs, opened to the words of Kit; over any program. | WHAT IT HOLDS: Later, Put, Word of the package cell, and the law's Document and Long, walked. | WHAT IT HOLDS: the document's small functions of layer 5, walked. | WHAT IT HOLDS: row and alike of the package cell, walked; append as a step of a region that draws. -/
import Derived.Test.YtabnndjdkjkciaaGreatDoorManifestBackG04
import Derived.RegionTactic
import Derived.ChangeAlike
import Derived.Deep.RegionHeld3
import Derived.Deep.DrawnRows
import Derived.Test.YtabnndjdkjkciaaGreatDoorShelfB
import Derived.Lib.Bytes
import Derived.Test.YtabnndjdkjkciaaGreatDoorManifestBackG03
import Derived.Deep.Slices
import Derived.Deep.Fields
import Derived.ChangeSame
import Derived.Laws.StructEq
namespace Go.Proofs.YtabnndjdkjkciaaGreatDoor
open Go.RowKit

end Go.Proofs.YtabnndjdkjkciaaGreatDoor

namespace Go.Proofs.YtabnndjdkjkciaaGreatDoor
open Go.RowKit

theorem SlB.apart {w w' : World} {A : Option Addr} {c B C : Nat} {l : List UInt8} (h : SlB w A c l) (hBd : l ≠ [] → ∀ ad, A = some ad → ad.block < B) (hBC : B ≤ C) (hb : Below C w w') : SlB w' A c l := by
  refine ⟨h.1, h.2.1, h.2.2.1, h.2.2.2.1, fun j u hj => ?_⟩
  obtain ⟨ad, hA, hc⟩ := h.2.2.2.2 j u hj
  have hne : l ≠ [] := by intro e; rw [e] at hj; simp at hj
  exact ⟨ad, hA, (hb.cell (by rw [addr_add_block]; exact Nat.lt_of_lt_of_le (hBd hne ad hA) hBC)).trans hc⟩

end Go.Proofs.YtabnndjdkjkciaaGreatDoor

namespace Go.Proofs.YtabnndjdkjkciaaGreatDoor
open Go.RowKit

theorem IsR.drew {g B : Nat} {s : List UInt8 × Nat} {w : World} (h : IsR w g B s) : IsR w.drew g B s := h

attribute [local go_sem ↓] Go.wp_at_zero Go.wp_at_succ

end Go.Proofs.YtabnndjdkjkciaaGreatDoor

namespace Go.Proofs.YtabnndjdkjkciaaGreatDoor
open Go.RowKit
attribute [local go_sem ↓] Go.wp_at_zero Go.wp_at_succ

theorem kk {w : World} {g g' : Nat} {t t' : TypeId} {a b x y z : Value} (h : Blk w g t #[a, b]) (k : Blk w g' t' #[x, y, z]) : w.cell? ⟨g, 0, none⟩ = some a ∧ w.cell? ⟨g, 1, none⟩ = some b ∧ w.cell? ⟨g', 1, none⟩ = some y ∧ w.cell? ⟨g', 2, none⟩ = some z :=
  ⟨h.cell 0, h.cell 1, k.cell 1, k.cell 2⟩
theorem rFail_len (k : Nat) (s : List UInt8 × Nat) : (rFail k s).1.length ≤ s.1.length := by unfold rFail; split <;> exact Nat.le_refl _
theorem rWithin_len (n : Nat) (s : List UInt8 × Nat) : (rWithin n s).2.1.length ≤ s.1.length := by
  have := rNum_len s
  unfold rWithin
  split
  · exact Nat.le_trans (rFail_len _ _) this
  · exact this
theorem rFixed_len (n : Int) (s : List UInt8 × Nat) : (rFixed n s).2.1.length ≤ s.1.length := by
  unfold rFixed
  split
  · exact Nat.le_refl _
  · split
    · exact Nat.le_refl _
    · simp
def u6 (kind : Int) (k : Int) : Prop := (IntKind.u64.wrap kind).tmod 6 = k

end Go.Proofs.YtabnndjdkjkciaaGreatDoor

namespace Go.Proofs.YtabnndjdkjkciaaGreatDoor
open Go.RowKit
attribute [local go_sem ↓] Go.wp_at_zero Go.wp_at_succ

/-- a cell as a value -/
abbrev cv (k : Int) (A : Option Addr) (n c : Nat) : Value := .agg #[.int .i64 k, .slice A n c]

theorem strs_map (l : List UInt8) : strOfNums (l.map fun b => (b.toNat : Int)) = ⟨l.toArray⟩ := by
  simp only [strOfNums, List.map_map]
  congr 2
  simp [Function.comp_def]
theorem of_map (l : List UInt8) : Lib.bytesOf (l.map fun b => (b.toNat : Int)) = l := by
  simp only [Lib.bytesOf, List.map_map]
  simp [Function.comp_def]
theorem bEqual_any (A B : Option Addr) (c d : Nat) (l m : List UInt8) (w : World) (ha : SlB w A c l) (hb : SlB w B d m) :
    Calls Tryz.prog 134 #[.slice A l.length c, .slice B m.length d] w fun e w' => e = .returned (.bool (l == m)) ∧ w = w' := by
  have h1 := conv_str (P := Tryz.prog) 29 9 5 Tryz.underlying29 Tryz.underlying5 Tryz.underlying9 ha rfl
  have h2 := conv_str (P := Tryz.prog) 29 9 5 Tryz.underlying29 Tryz.underlying5 Tryz.underlying9 hb rfl
  rw [← strs_map] at h1 h2
  refine (Go.Proofs.Tryz.bytes_Equal _ _ _ _ w h1 h2).mono ?_
  rintro e w' ⟨rfl, rfl⟩
  exact ⟨by rw [of_map, of_map], rfl⟩

set_option maxRecDepth 100000 in
set_option maxHeartbeats 400000 in
theorem CCheck_any {A : Option Addr} {c : Nat} (k : Int) (d : List UInt8) (w : World) : Calls Tryz.prog 162 #[cv k A d.length c] w fun e w' => e = .returned (errv (cchk (k, d))) ∧ Below w.heap.size w w' := by
  rcases cchk_cases (k, d) with ⟨h1, hc⟩ | ⟨h1, h2, hc⟩ | ⟨h1, h2, h3, hc⟩ | ⟨h1, h2, h3, h4, h5, hc⟩ | ⟨h1, h2, h3, hc⟩ | ⟨h1, h2, h3, hc⟩
  case inr.inr.inr.inl =>
    have hb : (k != 1) = true := by simpa using h5
    have HC := Lib.hid hc
    clear hc h5
    dsimp only at *
    go_enter Tryz.func162, Tryz.ntmps162
    go_wp2_with fail
    go_ret
    exact ⟨by rw [HC.out]; rfl, below_new _ _⟩
  case inr.inr.inr.inr.inl =>
    obtain rfl : d = [] := List.eq_nil_of_length_eq_zero h3
    have HC := Lib.hid hc
    clear hc h3
    dsimp only at *
    go_enter Tryz.func162, Tryz.ntmps162
    go_wp2_with fail
    go_ret
    exact ⟨by rw [HC.out]; rfl, below_new _ _⟩
  case inr.inr.inr.inr.inr =>
    dsimp only at h3
    subst h3
    have HC := Lib.hid hc
    clear hc
    dsimp only at *
    go_enter Tryz.func162, Tryz.ntmps162
    go_wp2_with fail
    go_ret
    exact ⟨by rw [HC.out]; rfl, below_new _ _⟩
  all_goals
    have HC := Lib.hid hc
    clear hc
    dsimp only at *
    go_enter Tryz.func162, Tryz.ntmps162
    go_wp2_with fail
    go_ret
    exact ⟨by rw [HC.out]; rfl, below_new _ _⟩


set_option maxRecDepth 100000 in
set_option maxHeartbeats 400000 in
theorem CSame_any {A A2 : Option Addr} {c c2 : Nat} (k k2 : Int) (d d2 : List UInt8) (w : World) (ha : SlB w A c d) (hb : SlB w A2 c2 d2) :
    Calls Tryz.prog 64 #[cv k A d.length c, cv k2 A2 d2.length c2] w fun e w' => e = .returned (.bool (same (k, d) (k2, d2))) ∧ Below w.heap.size w w' := by
  have hB0 := (Blk.new w 112 #[.int .i64 k, .slice A d.length c]).alloc (.cells #[.int .i64 k2, .slice A2 d2.length c2] 112)
  have hB1 := Blk.newAt (w := w.alloc (.cells #[.int .i64 k, .slice A d.length c] 112)) (g := w.heap.size + 1) (by simp) 112 #[.int .i64 k2, .slice A2 d2.length c2]
  have hbw := bel_alloc (below_new w (.cells #[.int .i64 k, .slice A d.length c] 112)) (.cells #[.int .i64 k2, .slice A2 d2.length c2] 112)
  rcases Decidable.em (k = k2) with rfl | h
  · have hs : Hid (same (k, d) (k, d2) = (d == d2)) := (show _ = _ by unfold same; rw [Bool.eq_iff_iff]; simp)
    have hE := Lib.hid (bEqual_any A A2 c c2 d d2 _ (ha.below hbw) (hb.below hbw))
    clear hB0 hB1
    go_enter Tryz.func64, Tryz.ntmps64
    go_wp2_with fail
    refine hE.out.mono ?_
    rintro e w1 ⟨rfl, rfl⟩
    go_wp2_with fail
    go_ret
    exact ⟨by rw [hs.out]; rfl, hbw⟩
  · have hs : Hid (same (k, d) (k2, d2) = false) := (show _ = _ by unfold same; simp [h])
    have hkb : (k == k2) = false := by simpa using h
    clear h hB0 hB1
    go_enter Tryz.func64, Tryz.ntmps64
    go_wp2_with fail
    go_ret
    exact ⟨by rw [hs.out]; rfl, hbw⟩


end Go.Proofs.YtabnndjdkjkciaaGreatDoor

namespace Go.Proofs.YtabnndjdkjkciaaGreatDoor
open Go.ChangeShapes Go.WideShapes Go.ChangeAt Go.RowKit Go.Deep

section
variable {H : Type} {enc : TypeId × Value → H} {P : Program} {w : World} {base : Nat} {spare : Nat → Bool} {held : Bool}
theorem open_slice_fields {t e : TypeId} {fs : Array Field} {fuel : Nat} {cs : List Value} {x : DataW H × List MemPlace} (ht : P.underlying t = some (.slice e)) (he : P.underlying e = some (.struct fs))
    (hone : oneCellFields P fs = true) (hC : P.cellsOf e = fs.size) (h : DataW.trod enc P w base spare held fuel t cs = some x) :
    (cs = [.slice none 0 0] ∧ x = (.nil, [])) ∨
    ∃ (a : Addr) (len cap m : Nat) (D : Nat → DataW H) (Pl : Nat → List MemPlace), cs = [.slice (some a) len cap] ∧ base ≤ a.block ∧ len ≤ cap ∧ cap ≤ maxLen ∧ m = (if spare a.block then cap else len) ∧
      x = (.slice ((List.range len).map D) ((List.range (m - len)).map fun j => D (len + j)), MemPlace.row a (m * fs.size) ++ (List.range m).flatMap Pl) ∧
      ∀ i, i < m → ∃ (ys : List (DataW H × List MemPlace)) (n : Nat), D i = .agg (ys.map (·.1)) ∧ Pl i = ys.flatMap (·.2) ∧ ys.length = fs.size ∧
        ∀ (j : Nat) (f : Field), fs[j]? = some f → ∃ (v : Value) (y : DataW H × List MemPlace), w.cell? (a.add (i * fs.size + j)) = some v ∧ ys[j]? = some y ∧ DataW.trod enc P w base spare held n f.type [v] = some y := by
  rcases open_slice ht h with h0 | ⟨a, len, cap, m, n, D, Pl, hcs, hb, hl, hm, hmm, hx, hi⟩
  · exact .inl h0
  · refine .inr ⟨a, len, cap, m, D, Pl, hcs, hb, hl, hm, hmm, by rw [hC] at hx; exact hx, fun i him => ?_⟩
    obtain ⟨cs', hc, ht'⟩ := hi i him
    rw [hC] at hc
    obtain ⟨ys, n', hn', hy, hlen, hyl, hf⟩ := DataW.trod_struct he ht'
    obtain ⟨_, hcl, hat⟩ := World.cells?_some hc
    simp only [Prod.mk.injEq] at hy
    refine ⟨ys, n', hy.1, hy.2, hyl, fun j f hj => ?_⟩
    obtain ⟨ho, hk⟩ := hone_of hone j f hj
    have hjl : j < fs.size := (Array.getElem?_eq_some_iff.1 hj).1
    have hcell := hat j hjl
    have hv : cs'[j]? = some (cs'[j]'(by omega)) := List.getElem?_eq_getElem (by omega)
    have h1 := hf j f hj
    rw [ho, hk] at h1
    have hone' : (cs'.drop j).take 1 = [cs'[j]'(by omega)] := by
      rw [List.drop_eq_getElem_cons (by omega)]
      rfl
    rw [hone'] at h1
    have hys : ys[j]? = some (ys[j]'(by omega)) := List.getElem?_eq_getElem (by omega)
    refine ⟨_, _, ?_, hys, h1.trans hys⟩
    rw [← Go.Deep.add_add, hcell, hv]
end

theorem list_choice {T : Type} (R : Nat → T → Prop) : ∀ n, (∀ i, i < n → ∃ t, R i t) → ∃ l : List T, l.length = n ∧ ∀ i (hi : i < l.length), R i l[i]
  | 0, _ => ⟨[], rfl, fun i hi => by simp at hi⟩
  | n + 1, h => by
    obtain ⟨l, hl, hr⟩ := list_choice R n fun i hi => h i (by omega)
    obtain ⟨t, ht⟩ := h n (by omega)
    refine ⟨l ++ [t], by simp [hl], fun i hi => ?_⟩
    by_cases hin : i < l.length
    · rw [List.getElem_append_left hin]; exact hr i hin
    · have : i = l.length := by simp at hi; omega
      subst this
      simpa [hl] using ht
theorem flat_len {T : Type} {f : T → List Value} {s : Nat} (hf : ∀ x, (f x).length = s) (l : List T) : (l.flatMap f).length = l.length * s := by
  induction l with
  | nil => simp
  | cons x l ih => simp only [List.flatMap_cons, List.length_append, hf, ih, List.length_cons, Nat.succ_mul]; omega
theorem flat_get {T : Type} {f : T → List Value} {s : Nat} (hf : ∀ x, (f x).length = s) : ∀ (l : List T) (k j : Nat) (hk : k < l.length), j < s → (l.flatMap f)[k * s + j]? = (f l[k])[j]?
  | x :: l, 0, j, _, hj => by
    simp only [List.flatMap_cons, Nat.zero_mul, Nat.zero_add, List.getElem_cons_zero]
    rw [List.getElem?_append_left (by rw [hf]; exact hj)]
  | x :: l, k + 1, j, hk, hj => by
    have h := flat_get hf l k j (by simpa using hk) hj
    simp only [List.flatMap_cons, List.getElem_cons_succ]
    rw [List.getElem?_append_right (by rw [hf, Nat.succ_mul]; omega), hf, ← h]
    congr 1
    rw [Nat.succ_mul]
    omega
/-- the cell j of the struct k -/
theorem Sl.atS {w : World} {n c size : Nat} {A : Option Addr} {T : Type} {f : T → List Value} {l : List T} (hf : ∀ x, (f x).length = size) (h0 : 0 < size) (h : Sl w size A n c (l.flatMap f)) {k : Nat} (hk : k < l.length) :
    ∃ ad b o, A = some ad ∧ ad.add (k * size) = ⟨b, o, none⟩ ∧ ∀ j u, (f l[k])[j]? = some u → w.cell? ⟨b, o + j, none⟩ = some u := by
  have h1 := flat_get hf l k 0 hk h0
  have h2 : (f l[k])[0]? = some ((f l[k])[0]'(by rw [hf]; exact h0)) := List.getElem?_eq_getElem _
  obtain ⟨ad, hA, hc0⟩ := h.2.2.2.2 _ _ (h1.trans h2)
  have hsp := World.cell?_spot hc0
  have he : ad.add (k * size) = ⟨(ad.add (k * size)).block, (ad.add (k * size)).off, none⟩ := by
    rw [Nat.add_zero] at hsp
    cases h3 : ad.add (k * size) with
    | mk bl of sp => rw [h3] at hsp; simp at hsp; subst hsp; rfl
  refine ⟨ad, _, _, hA, he, fun j u hu => ?_⟩
  have hj : j < size := by have := (List.getElem?_eq_some_iff.1 hu).1; rw [hf] at this; exact this
  obtain ⟨ad', hA', hc⟩ := h.2.2.2.2 _ _ ((flat_get hf l k j hk hj).trans hu)
  rw [hA] at hA'
  injection hA' with e
  subst e
  rw [← addr_add_add, he, addr_lit] at hc
  exact hc
end Go.Proofs.YtabnndjdkjkciaaGreatDoor

namespace Go.Proofs.YtabnndjdkjkciaaGreatDoor
open Go.RowKit
attribute [local go_sem ↓] Go.wp_at_zero Go.wp_at_succ

/-- a cell in a slice: kind, address, capacity, bytes -/
abbrev CeV := Int × Option Addr × Nat × List UInt8
abbrev cf (x : CeV) : List Value := [.int .i64 x.1, .slice x.2.1 x.2.2.2.length x.2.2.1]
abbrev ceOf (x : CeV) : Ce := (x.1, x.2.2.2)
/-- cells that can be read -/
def SlC (w : World) (E : Option Addr) (cap : Nat) (l : List CeV) : Prop := Sl w 2 E l.length cap (l.flatMap cf) ∧ ∀ x ∈ l, SlB w x.2.1 x.2.2.1 x.2.2.2
theorem SlC.below {w w' : World} {E : Option Addr} {cap : Nat} {l : List CeV} (h : SlC w E cap l) (hb : Below w.heap.size w w') : SlC w' E cap l := ⟨h.1.below hb, fun x hx => (h.2 x hx).below hb⟩
theorem SlC.at2 {w : World} {E : Option Addr} {cap : Nat} {l : List CeV} (h : SlC w E cap l) {k : Nat} (hk : k < l.length) :
    ∃ ad b o, E = some ad ∧ ad.add (k * 2) = ⟨b, o, none⟩ ∧ w.cell? ⟨b, o, none⟩ = some (.int .i64 l[k].1) ∧ w.cell? ⟨b, o + 1, none⟩ = some (.slice l[k].2.1 l[k].2.2.2.length l[k].2.2.1) ∧ SlB w l[k].2.1 l[k].2.2.1 l[k].2.2.2 := by
  obtain ⟨ad, b, o, h1, h2, h3⟩ := Sl.atS (f := cf) (size := 2) (fun _ => rfl) (by omega) h.1 hk
  exact ⟨ad, b, o, h1, h2, h3 0 _ rfl, h3 1 _ rfl, h.2 _ (List.getElem_mem hk)⟩
def longb (l : List Ce) (most : Int) : Bool := l.any (fun c => decide (100 < c.2.length)) || decide (most < (l.length : Int))

set_option maxRecDepth 100000 in
set_option maxHeartbeats 1000000 in
theorem Long_any {E : Option Addr} {cap : Nat} (l : List CeV) (most : Int) (w : World) (h : SlC w E cap l) : Calls Tryz.prog 7 #[.slice E l.length cap, .int .i64 most] w fun e w' => e = .returned (.bool (longb (l.map ceOf) most)) ∧ Below w.heap.size w w' := by
  have hmax := h.1.len_le
  unfold maxLen at hmax
  go_enter Tryz.func7, Tryz.ntmps7
  go_wp2_with fail
  go_loopw [9] (fun x wr => ∃ k : Nat, k ≤ l.length ∧ x = .int .i64 k ∧ Hid (((l.map ceOf).take k).any (fun c => decide (100 < c.2.length)) = false) ∧ Below w.heap.size w wr) (fun x w => l.length - (intOf x).toNat)
  case atStart => exact ⟨0, Nat.zero_le _, rfl, (show _ = _ from rfl), Below.refl _ _⟩
  case round =>
    obtain ⟨k, hk, rfl, ht, hbr⟩ := hrel
    by_cases hlt : k < l.length
    · obtain ⟨ad, b, o, rfl, had, hc0, hc1, _⟩ := (h.below hbr).at2 hlt
      have hn1 : Hid (100 < l[k].2.2.2.length → longb (l.map ceOf) most = true) := (show _ → _ from fun h => by
        unfold longb
        rw [Bool.or_eq_true]
        left
        rw [List.any_eq_true]
        exact ⟨ceOf l[k], List.mem_map_of_mem (List.getElem_mem hlt), by simpa using h⟩)
      have hn2 : Hid (¬ 100 < l[k].2.2.2.length → ((l.map ceOf).take (k + 1)).any (fun c => decide (100 < c.2.length)) = false) := (show _ → _ from fun h => by
        rw [List.take_succ_eq_append_getElem (by simpa using hlt), List.any_append, ht.out]
        simp at h ⊢
        exact h)
      generalize l[k] = x at *
      obtain ⟨kk, A, c, d⟩ := x
      dsimp only at *
      by_cases hlong : 100 < d.length
      · have hr := hn1.out hlong
        have HR := Lib.hid hr
        clear hr
        go_wp2_with fail
        go_ret
        exact ⟨by rw [HR.out]; rfl, bel_alloc hbr _⟩
      · have hr := Lib.hid (hn2.out hlong)
        go_wp2_with fail
        go_roundw
        case rel => exact ⟨k + 1, hlt, by go_num, hr.out, bel_alloc hbr _⟩
        case measure => simp [intOf]; omega
    · have hf : Hid (longb (l.map ceOf) most = decide (most < (l.length : Int))) := (show _ = _ by
        have h1 := ht.out
        rw [List.take_of_length_le (by simp; omega)] at h1
        unfold longb
        rw [h1]
        simp)
      go_wp2_with fail
      go_ret
      exact ⟨by rw [hf.out]; rfl, hbr⟩
end Go.Proofs.YtabnndjdkjkciaaGreatDoor

namespace Go.Proofs.YtabnndjdkjkciaaGreatDoor
open Go.RowKit
attribute [local go_sem ↓] Go.wp_at_zero Go.wp_at_succ

/-- one byte, laid in a block of its own -/
theorem Own.lits1 {w : World} {g : Nat} (hg : g = w.heap.size) (e : TypeId) (b : UInt8) : OwnB (w.alloc (.cells #[bv b] e)) w.heap.size e (some ⟨g, 0, none⟩) 1 [b] := by
  subst hg
  exact World.ownsRow_lit w #[bv b] 1 (Nat.le_refl _) (by simp [maxLen]) (by simp)
end Go.Proofs.YtabnndjdkjkciaaGreatDoor

namespace Go.Proofs.YtabnndjdkjkciaaGreatDoor
open Go.RowKit
attribute [local go_sem ↓] Go.wp_at_zero Go.wp_at_succ


theorem u8_eq_iff {x y : UInt8} : ((x.toNat : Int) == (y.toNat : Int)) = true ↔ x = y := by
  rw [beq_iff_eq]
  constructor
  · intro h; exact UInt8.toNat_inj.1 (by omega)
  · rintro rfl; rfl
set_option maxRecDepth 100000 in
set_option maxHeartbeats 1000000 in
theorem alike_any (A B : Option Addr) (c d : Nat) (xs ys : List UInt8) (w : World) (ha : SlB w A c xs) (hb : SlB w B d ys) :
    Calls Tryz.prog 164 #[.slice A xs.length c, .slice B ys.length d] w fun e w' => e = .returned (.int .i64 (cpl xs ys : Nat)) ∧ Below w.heap.size w w' := by
  have hm1 := ha.len_le
  have hm2 := hb.len_le
  unfold maxLen at hm1 hm2
  go_enter Tryz.func164, Tryz.ntmps164
  go_wp2_with fail
  go_loopw [5] (fun x wr => ∃ k : Nat, k ≤ xs.length ∧ k ≤ ys.length ∧ x = .int .i64 k ∧ Hid (xs.take k = ys.take k) ∧ Below w.heap.size w wr) (fun x w => xs.length - (intOf x).toNat)
  case atStart => exact ⟨0, Nat.zero_le _, Nat.zero_le _, rfl, (show _ = _ by simp), Below.refl _ _⟩
  case round =>
    obtain ⟨k, hk1, hk2, rfl, ht, hbr⟩ := hrel
    rcases Decidable.em (k < xs.length ∧ k < ys.length) with hlt | hlt
    · obtain ⟨hl1, hl2⟩ := hlt
      obtain ⟨ad, rfl, hc⟩ := (ha.below hbr).at1 hl1
      obtain ⟨ad2, rfl, hc2⟩ := (hb.below hbr).at1 hl2
      have hts := Lib.hid (take_succ_eq ht.out hl1 hl2)
      have hend := Lib.hid (fun h => cpl_end hk1 hk2 ht.out (.inr (.inr ⟨hl1, hl2, h⟩)))
      have hmin : decide ((k : Int) < min (xs.length : Int) (ys.length : Int)) = true := by simp; omega
      generalize xs[k] = x at *
      generalize ys[k] = y at *
      by_cases hxy : x = y
      · have hxb : ((x.toNat : Int) == (y.toNat : Int)) = true := u8_eq_iff.2 hxy
        have Hxy := Lib.hid hxy
        clear hxy
        go_wp2_with fail
        go_quiet (fail)
        go_wp2_with fail
        go_roundw
        case rel => exact ⟨k + 1, hl1, hl2, by go_num, hts.out.2 Hxy.out, below_drewN hbr _⟩
        case measure => simp [intOf]; omega
      · have hxb : ((x.toNat : Int) == (y.toNat : Int)) = false := by rw [Bool.eq_false_iff]; exact fun h => hxy (u8_eq_iff.1 h)
        have he := Lib.hid (hend.out hxy)
        clear hxy
        go_wp2_with fail
        go_quiet (fail)
        go_wp2_with fail
        go_ret
        exact ⟨by rw [he.out]; rfl, below_drewN hbr _⟩
    · have hmin : decide ((k : Int) < min (xs.length : Int) (ys.length : Int)) = false := by simp; omega
      have he := Lib.hid (cpl_end hk1 hk2 ht.out (by omega))
      go_wp2_with fail
      go_quiet (fail)
      go_wp2_with fail
      go_ret
      exact ⟨by rw [he.out]; rfl, below_drewN hbr _⟩

set_option maxRecDepth 100000 in
set_option maxHeartbeats 1000000 in
theorem row_any {E : Option Addr} {cap : Nat} (l : List CeV) (w : World) (h : SlC w E cap l) : Calls Tryz.prog 163 #[.slice E l.length cap] w fun e w' => e = .returned (.int .i64 (rowN (l.map ceOf) : Nat)) ∧ Below w.heap.size w w' := by
  have hmax := h.1.len_le
  unfold maxLen at hmax
  rcases Nat.eq_zero_or_pos l.length with h0 | hpos
  · obtain rfl := List.eq_nil_of_length_eq_zero h0
    clear h0
    go_enter Tryz.func163, Tryz.ntmps163
    go_wp2_with fail
    refine wp_loop_rounds 1 ?_
    rw [rounds_succ]
    have hlt : decide ((0 : Int) < 0) = false := by decide
    go_wp2_with fail
    go_quiet (fail)
    go_wp2_with fail
    go_ret
    exact ⟨rfl, below_drewN (Below.refl _ _) _⟩
  · have hend : ∀ n, n ≤ (l.map ceOf).length → (∀ j (h : j < (l.map ceOf).length), j < n → (l.map ceOf)[j].1 ≠ 1 ∧ (l.map ceOf)[j].1 = (l[0]'hpos).1) → (n = (l.map ceOf).length ∨ ∃ h : n < (l.map ceOf).length, ¬ ((l.map ceOf)[n].1 ≠ 1 ∧ (l.map ceOf)[n].1 = (l[0]'hpos).1)) → rowGo (l[0]'hpos).1 (l.map ceOf) = n := fun n hn ha hs => rowGo_end hn ha hs
    have hrow : rowN (l.map ceOf) = rowGo (l[0]'hpos).1 (l.map ceOf) := by
      cases l
      · simp at hpos
      · rfl
    obtain ⟨ad0, b0, o0, hE0, had0, hc00, _, _⟩ := h.at2 (k := 0) hpos
    have HE := Lib.hid hend
    have HR := Lib.hid hrow
    clear hend hrow
    obtain rfl : ad0 = ⟨b0, o0, none⟩ := by simpa [Addr.add] using had0
    subst hE0
    generalize l[0].1 = k0 at *
    clear had0
    go_enter Tryz.func163, Tryz.ntmps163
    go_wp2_with fail
    go_loopw [3] (fun x wr => ∃ n : Nat, n ≤ l.length ∧ x = .int .i64 n ∧ Hid (∀ j (h : j < (l.map ceOf).length), j < n → (l.map ceOf)[j].1 ≠ 1 ∧ (l.map ceOf)[j].1 = k0) ∧ Below w.heap.size w wr) (fun x w => l.length - (intOf x).toNat)
    case atStart => exact ⟨0, Nat.zero_le _, rfl, (fun j _ hj => by omega), Below.refl _ _⟩
    case round =>
      obtain ⟨n, hn, rfl, hall, hbr⟩ := hrel
      have hbl := World.block_lt_of_cell? w _ hc00
      have hc00r := (hbr.cell (p := ⟨b0, o0, none⟩) hbl).trans hc00
      by_cases hlt : n < l.length
      · obtain ⟨ad, b, o, hE, had, hc0, _, _⟩ := (h.below hbr).at2 hlt
        injection hE with hE
        subst hE
        rw [addr_lit] at had
        injection had with hb hoo
        subst hb
        subst hoo
        have hst := Lib.hid (fun hc => HE.out n (by simpa using hn) hall.out (.inr ⟨by simpa using hlt, by simpa using hc⟩))
        have hnx : Hid (l[n].1 ≠ 1 → l[n].1 = k0 → ∀ j (h : j < (l.map ceOf).length), j < n + 1 → (l.map ceOf)[j].1 ≠ 1 ∧ (l.map ceOf)[j].1 = k0) := (show _ → _ → _ from fun h1 h2 j hj hjn => by
          by_cases e : j = n
          · subst e; simpa using ⟨h1, h2⟩
          · exact hall.out j hj (by omega))
        generalize l[n].1 = k at *
        rcases Decidable.em (k = 1) with h1 | h1
        · have hb1 : (k != 1) = false := by simpa using h1
          have hR := Lib.hid (hst.out (fun h => absurd h1 h))
          clear h1
          go_wp2_with fail
          go_quiet (fail)
          go_wp2_with fail
          go_ret
          exact ⟨by rw [HR.out, hR.out]; rfl, below_drewN hbr _⟩
        · have hb1 : (k != 1) = true := by simpa using h1
          rcases Decidable.em (k = k0) with h2 | h2
          · have hb2 : (k == k0) = true := by simpa using h2
            have hN := Lib.hid (hnx.out h1 h2)
            clear h1 h2
            go_wp2_with fail
            go_quiet (fail)
            go_wp2_with fail
            go_roundw
            case rel => exact ⟨n + 1, hlt, by go_num, hN.out, below_drewN hbr _⟩
            case measure => simp [intOf]; omega
          · have hb2 : (k == k0) = false := by simpa using h2
            have hR := Lib.hid (hst.out (fun _ => h2))
            clear h1 h2
            go_wp2_with fail
            go_quiet (fail)
            go_wp2_with fail
            go_ret
            exact ⟨by rw [HR.out, hR.out]; rfl, below_drewN hbr _⟩
      · have hR := Lib.hid (HE.out n (by simpa using hn) hall.out (.inl (by simp; omega)))
        go_wp2_with fail
        go_quiet (fail)
        go_wp2_with fail
        go_ret
        exact ⟨by rw [HR.out, hR.out]; rfl, below_drewN hbr _⟩
end Go.Proofs.YtabnndjdkjkciaaGreatDoor
