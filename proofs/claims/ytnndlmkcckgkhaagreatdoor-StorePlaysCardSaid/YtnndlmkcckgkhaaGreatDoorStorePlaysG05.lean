/- WHAT IT HOLDS: Later, Put, Word of the package cell, and the law's Document and Long, walked. | WHAT IT HOLDS: the document's small functions of layer 5, walked. | WHAT IT HOLDS: row and alike of the package cell, walked; append as a step of a region that draws. -/
import Derived.Test.YtnndlmkcckgkhaaGreatDoorStorePlaysG04
import Derived.Laws.StructEq
import Derived.Test.YtnndlmkcckgkhaaGreatDoorStorePlaysG03
namespace Go.Proofs.YtnndlmkcckgkhaaGreatDoor
open Go.RowKit
attribute [local go_sem ↓] Go.wp_at_zero Go.wp_at_succ

/-- the later cell, and whether there is one -/
def LaterOut (w0 : World) (x : Ce × Bool) (e : Ending) (w' : World) : Prop :=
  ∃ A c m, e = .returned (.tuple #[cv x.1.1 A (List.length m) c, .bool x.2]) ∧ Hid (m = x.1.2) ∧ SlB w' A c m ∧ Below w0.heap.size w0 w'


theorem u64_of_k {k : Int} (h1 : 0 ≤ k) (h2 : k ≤ 3) : ∃ n : Nat, k = (n : Int) ∧ n ≤ 3 := ⟨k.toNat, by omega, by omega⟩
/-- bytes and a cell's bytes, or an error -/
def CPutOut (w0 : World) (l : List UInt8) (x : Ce) (e : Ending) (w' : World) : Prop :=
  Below w0.heap.size w0 w' ∧ ((∃ A c m, cchk x = 0 ∧ e = .returned (.tuple #[.slice A (List.length m) c, .nilIface]) ∧ Hid (m = l ++ cbytes x) ∧ OwnB w' w0.heap.size 5 A c m) ∨ (cchk x ≠ 0 ∧ e = .returned (.tuple #[.slice none 0 0, errv (cchk x)])))

def cword (k : Int) : List UInt8 := if k = 0 then [101, 109, 112, 116, 121] else if k = 1 then [100, 97, 116, 97] else if k = 2 then [104, 111, 108, 101] else if k = 3 then [116, 114, 105, 109, 109, 101, 100] else []
/-- the document's cell as a value -/
abbrev dv (k : Int) (d : List UInt8) : Value := .agg #[.int .i64 k, .string ⟨d.toArray⟩]
theorem res_d1 {fn : Func} {a : Nat} {tmps : Array Value} {w : World} {g : Nat} {x y : Value} (hres : fn.results = #[.cell a 114]) (ha : tmps.getD a undef = .pointer (some ⟨g, 0, none⟩)) (hB : Blk w g 114 #[x, y]) :
    (results fn tmps).run Tryz.prog w = .ok (.agg #[x, y]) w := by
  obtain ⟨b0, b1, _, _⟩ := hB.two
  have ha' : tmps[a]?.getD undef = .pointer (some ⟨g, 0, none⟩) := by simpa using ha
  simp [results, hres, go_sem, b0, b1, ha']
set_option maxRecDepth 100000 in
set_option maxHeartbeats 400000 in
theorem Document_any {A : Option Addr} {c : Nat} (k : Int) (d : List UInt8) (w : World) (ha : SlB w A c d) : Calls Tryz.prog 102 #[cv k A d.length c] w fun e w' => e = .returned (dv k d) ∧ Below w.heap.size w w' := by
  have hbw := below_new w (.cells #[.int .i64 k, .slice A d.length c] 109)
  have hc := fun o => conv_str (P := Tryz.prog) 29 9 5 Tryz.underlying29 Tryz.underlying5 Tryz.underlying9 (ha.below (bel_alloc hbw o)) rfl
  have hc0 := conv_str (P := Tryz.prog) 29 9 5 Tryz.underlying29 Tryz.underlying5 Tryz.underlying9 (ha.below hbw) rfl
  go_enter Tryz.func102, Tryz.ntmps102
  go_wp2_with fail
  refine bodyPost_ret (res_d1 rfl rfl (g := w.heap.size + 1) (x := .int .i64 k) (y := .string ⟨d.toArray⟩) (Blk.newAt (by simp) _ _)) rfl ⟨rfl, bel_alloc hbw _⟩

/-- a cell in a slice: kind, address, capacity, bytes -/
abbrev CeV := Int × Option Addr × Nat × List UInt8
abbrev cf (x : CeV) : List Value := [.int .i64 x.1, .slice x.2.1 x.2.2.2.length x.2.2.1]
abbrev ceOf (x : CeV) : Ce := (x.1, x.2.2.2)
/-- cells that can be read -/
def SlC (w : World) (E : Option Addr) (cap : Nat) (l : List CeV) : Prop := Sl w 2 E l.length cap (l.flatMap cf) ∧ ∀ x ∈ l, SlB w x.2.1 x.2.2.1 x.2.2.2
theorem SlC.below {w w' : World} {E : Option Addr} {cap : Nat} {l : List CeV} (h : SlC w E cap l) (hb : Below w.heap.size w w') : SlC w' E cap l := ⟨h.1.below hb, fun x hx => (h.2 x hx).below hb⟩
theorem SlC.at2 {w : World} {E : Option Addr} {cap : Nat} {l : List CeV} (h : SlC w E cap l) {k : Nat} (hk : k < l.length) :
    ∃ ad b o, E = some ad ∧ ad.add (k * 2) = ⟨b, o, none⟩ ∧ w.cell? ⟨b, o, none⟩ = some (.int .i64 l[k].1) ∧ w.cell? ⟨b, o + 1, none⟩ = some (.slice l[k].2.1 l[k].2.2.2.length l[k].2.2.1) ∧ SlB w l[k].2.1 l[k].2.2.1 l[k].2.2.2 := by
  obtain ⟨ad, b, o, h1, h2, h3⟩ := Sl.atS (f := cf) (size := 2) (fun _ => rfl) (by omega) h.1 hk
  exact ⟨ad, b, o, h1, h2, h3 0 _ rfl, h3 1 _ rfl, h.2 _ (List.getElem_mem hk)⟩
def longb (l : List Ce) (most : Int) : Bool := l.any (fun c => decide (100 < c.2.length)) || decide (most < (l.length : Int))

set_option maxRecDepth 100000 in
set_option maxHeartbeats 1000000 in
theorem Long_any {E : Option Addr} {cap : Nat} (l : List CeV) (most : Int) (w : World) (h : SlC w E cap l) : Calls Tryz.prog 8 #[.slice E l.length cap, .int .i64 most] w fun e w' => e = .returned (.bool (longb (l.map ceOf) most)) ∧ Below w.heap.size w w' := by
  have hmax := h.1.len_le
  unfold maxLen at hmax
  go_enter Tryz.func8, Tryz.ntmps8
  go_wp2_with fail
  go_loopw [9] (fun x wr => ∃ k : Nat, k ≤ l.length ∧ x = .int .i64 k ∧ Hid (((l.map ceOf).take k).any (fun c => decide (100 < c.2.length)) = false) ∧ Below w.heap.size w wr) (fun x w => l.length - (intOf x).toNat)
  case atStart => exact ⟨0, Nat.zero_le _, rfl, (show _ = _ from rfl), Below.refl _ _⟩
  case round =>
    obtain ⟨k, hk, rfl, ht, hbr⟩ := hrel
    by_cases hlt : k < l.length
    · obtain ⟨ad, b, o, rfl, had, hc0, hc1, _⟩ := (h.below hbr).at2 hlt
      have hn1 : Hid (100 < l[k].2.2.2.length → longb (l.map ceOf) most = true) := (show _ → _ from fun h => by
        unfold longb
        rw [Bool.or_eq_true]
        left
        rw [List.any_eq_true]
        exact ⟨ceOf l[k], List.mem_map_of_mem (List.getElem_mem hlt), by simpa using h⟩)
      have hn2 : Hid (¬ 100 < l[k].2.2.2.length → ((l.map ceOf).take (k + 1)).any (fun c => decide (100 < c.2.length)) = false) := (show _ → _ from fun h => by
        rw [List.take_succ_eq_append_getElem (by simpa using hlt), List.any_append, ht.out]
        simp at h ⊢
        exact h)
      generalize l[k] = x at *
      obtain ⟨kk, A, c, d⟩ := x
      dsimp only at *
      by_cases hlong : 100 < d.length
      · have hr := hn1.out hlong
        have HR := Lib.hid hr
        clear hr
        go_wp2_with fail
        go_ret
        exact ⟨by rw [HR.out]; rfl, bel_alloc hbr _⟩
      · have hr := Lib.hid (hn2.out hlong)
        go_wp2_with fail
        go_roundw
        case rel => exact ⟨k + 1, hlt, by go_num, hr.out, bel_alloc hbr _⟩
        case measure => simp [intOf]; omega
    · have hf : Hid (longb (l.map ceOf) most = decide (most < (l.length : Int))) := (show _ = _ by
        have h1 := ht.out
        rw [List.take_of_length_le (by simp; omega)] at h1
        unfold longb
        rw [h1]
        simp)
      go_wp2_with fail
      go_ret
      exact ⟨by rw [hf.out]; rfl, hbr⟩
end Go.Proofs.YtnndlmkcckgkhaaGreatDoor

namespace Go.Proofs.YtnndlmkcckgkhaaGreatDoor
open Go.RowKit
attribute [local go_sem ↓] Go.wp_at_zero Go.wp_at_succ

/-- what '[]byte(s)' leaves -/
def cvCap (w : World) (e : TypeId) (d : List UInt8) : Nat := grownCap w d.length 0 e
def cvWorld (w : World) (e : TypeId) (d : List UInt8) : World := w.drew.alloc (.cells (bytesRow ⟨d.toArray⟩ (cvCap w e d)) e ((bytesRow ⟨d.toArray⟩ (cvCap w e d)).size, (bytesRow ⟨d.toArray⟩ (cvCap w e d)).size + 1))
theorem conv_bytes {P : Program} (w : World) (src dst e : TypeId) (d : List UInt8) (hs : P.underlying src = some .string) (hd : P.underlying dst = some (.slice e)) (he : P.underlying e = some (.int .u8)) :
    (convert src dst (.string ⟨d.toArray⟩)).run P w = .ok (.slice (some ⟨w.heap.size, 0, none⟩) d.length (cvCap w e d)) (cvWorld w e d) := run_bytes_of_string w src dst e ⟨d.toArray⟩ hs hd he
theorem conv_below (w : World) (e : TypeId) (d : List UInt8) : Below w.heap.size w (cvWorld w e d) := (Below.refl _ _).drew.alloc (Nat.le_refl _) _
theorem conv_sl (w : World) (e : TypeId) (d : List UInt8) (h : d.length ≤ maxLen) {g : Nat} (hg : g = w.heap.size) : SlB (cvWorld w e d) (some ⟨g, 0, none⟩) (cvCap w e d) d := by
  subst hg
  refine ⟨by simp, grownCap_ge _ _ _ _, grownCap_le_maxLen _ _ _ _ h, (fun h => by cases h), fun j u hj => ⟨_, rfl, ?_⟩⟩
  rw [addr_lit, Nat.zero_add]
  have hl : j < d.length := by
    have := (List.getElem?_eq_some_iff.1 hj).1
    simpa using this
  have h1 := cell_of_row (cvWorld w e d) w.heap.size j _ e _ (heap_alloc_new w.drew _)
  rw [h1, bytesRow_at ⟨d.toArray⟩ _ j hl]
  rw [← hj]
  simp [List.getElem?_eq_getElem hl]
theorem beq_arr (d d2 : List UInt8) : ((⟨d.toArray⟩ : ByteArray) == ⟨d2.toArray⟩) = (d == d2) := by
  rw [beq_toListBytes]
  simp [ByteArray.toList_eq]
theorem same_beq (k k2 : Int) (d d2 : List UInt8) : same (k, d) (k2, d2) = (k == k2 && d == d2) := by unfold same; rw [Bool.eq_iff_iff]; simp
theorem eq_dv (k k2 : Int) (d d2 : List UInt8) (w : World) : (binOp .eql 114 (dv k d) (dv k2 d2)).run Tryz.prog w = .ok (.bool (same (k, d) (k2, d2))) w := by
  rw [same_beq]
  simp only [binOp]
  cases hk : k == k2 <;> by_cases hd : d = d2 <;> simp [go_sem, Op.equal, Op.maxDepth, Tryz.underlying114, Tryz.underlying3, Tryz.underlying9, hk, hd]
theorem neq_dv (k k2 : Int) (d d2 : List UInt8) (w : World) : (binOp .neq 114 (dv k d) (dv k2 d2)).run Tryz.prog w = .ok (.bool (!same (k, d) (k2, d2))) w := by
  rw [same_beq]
  simp only [binOp]
  cases hk : k == k2 <;> by_cases hd : d = d2 <;> simp [go_sem, Op.equal, Op.maxDepth, Tryz.underlying114, Tryz.underlying3, Tryz.underlying9, hk, hd]

set_option maxRecDepth 100000 in
set_option maxHeartbeats 400000 in
theorem rCheck_any (k : Int) (d : List UInt8) (w : World) : Calls Tryz.prog 47 #[dv k d] w fun e w' => e = .returned (.int .i64 (cchk (k, d) : Nat)) ∧ Below w.heap.size w w' := by
  rcases cchk_cases (k, d) with ⟨h1, hc⟩ | ⟨h1, h2, hc⟩ | ⟨h1, h2, h3, hc⟩ | ⟨h1, h2, h3, h4, h5, hc⟩ | ⟨h1, h2, h3, hc⟩ | ⟨h1, h2, h3, hc⟩
  case inr.inr.inr.inl =>
    have hb : (k != 1) = true := by simpa using h5
    have HC := Lib.hid hc
    clear hc h5
    dsimp only at *
    go_enter Tryz.func47, Tryz.ntmps47
    go_wp2_with fail
    go_ret
    exact ⟨by rw [HC.out]; rfl, below_new _ _⟩
  case inr.inr.inr.inr.inl =>
    obtain rfl : d = [] := List.eq_nil_of_length_eq_zero h3
    have HC := Lib.hid hc
    clear hc h3
    dsimp only at *
    by_cases hk : k = 1
    · subst hk
      go_enter Tryz.func47, Tryz.ntmps47
      go_wp2_with fail
      go_ret
      exact ⟨by rw [HC.out]; rfl, below_new _ _⟩
    · have hb : (k != 1) = true := by simpa using hk
      clear hk
      go_enter Tryz.func47, Tryz.ntmps47
      go_wp2_with fail
      go_ret
      exact ⟨by rw [HC.out]; rfl, below_new _ _⟩
  case inr.inr.inr.inr.inr =>
    dsimp only at h3
    subst h3
    have HC := Lib.hid hc
    clear hc
    dsimp only at *
    go_enter Tryz.func47, Tryz.ntmps47
    go_wp2_with fail
    go_ret
    exact ⟨by rw [HC.out]; rfl, below_new _ _⟩
  all_goals
    have HC := Lib.hid hc
    clear hc
    dsimp only at *
    go_enter Tryz.func47, Tryz.ntmps47
    go_wp2_with fail
    go_ret
    exact ⟨by rw [HC.out]; rfl, below_new _ _⟩

/-- one byte, laid in a block of its own -/
theorem Own.lits1 {w : World} {g : Nat} (hg : g = w.heap.size) (e : TypeId) (b : UInt8) : OwnB (w.alloc (.cells #[bv b] e)) w.heap.size e (some ⟨g, 0, none⟩) 1 [b] := by
  subst hg
  exact World.ownsRow_lit w #[bv b] 1 (Nat.le_refl _) (by simp [maxLen]) (by simp)
end Go.Proofs.YtnndlmkcckgkhaaGreatDoor

namespace Go.Proofs.YtnndlmkcckgkhaaGreatDoor
open Go.RowKit
attribute [local go_sem ↓] Go.wp_at_zero Go.wp_at_succ


theorem u8_eq_iff {x y : UInt8} : ((x.toNat : Int) == (y.toNat : Int)) = true ↔ x = y := by
  rw [beq_iff_eq]
  constructor
  · intro h; exact UInt8.toNat_inj.1 (by omega)
  · rintro rfl; rfl
set_option maxRecDepth 100000 in
set_option maxHeartbeats 1000000 in
theorem alike_any (A B : Option Addr) (c d : Nat) (xs ys : List UInt8) (w : World) (ha : SlB w A c xs) (hb : SlB w B d ys) :
    Calls Tryz.prog 154 #[.slice A xs.length c, .slice B ys.length d] w fun e w' => e = .returned (.int .i64 (cpl xs ys : Nat)) ∧ Below w.heap.size w w' := by
  have hm1 := ha.len_le
  have hm2 := hb.len_le
  unfold maxLen at hm1 hm2
  go_enter Tryz.func154, Tryz.ntmps154
  go_wp2_with fail
  go_loopw [5] (fun x wr => ∃ k : Nat, k ≤ xs.length ∧ k ≤ ys.length ∧ x = .int .i64 k ∧ Hid (xs.take k = ys.take k) ∧ Below w.heap.size w wr) (fun x w => xs.length - (intOf x).toNat)
  case atStart => exact ⟨0, Nat.zero_le _, Nat.zero_le _, rfl, (show _ = _ by simp), Below.refl _ _⟩
  case round =>
    obtain ⟨k, hk1, hk2, rfl, ht, hbr⟩ := hrel
    rcases Decidable.em (k < xs.length ∧ k < ys.length) with hlt | hlt
    · obtain ⟨hl1, hl2⟩ := hlt
      obtain ⟨ad, rfl, hc⟩ := (ha.below hbr).at1 hl1
      obtain ⟨ad2, rfl, hc2⟩ := (hb.below hbr).at1 hl2
      have hts := Lib.hid (take_succ_eq ht.out hl1 hl2)
      have hend := Lib.hid (fun h => cpl_end hk1 hk2 ht.out (.inr (.inr ⟨hl1, hl2, h⟩)))
      have hmin : decide ((k : Int) < min (xs.length : Int) (ys.length : Int)) = true := by simp; omega
      generalize xs[k] = x at *
      generalize ys[k] = y at *
      by_cases hxy : x = y
      · have hxb : ((x.toNat : Int) == (y.toNat : Int)) = true := u8_eq_iff.2 hxy
        have Hxy := Lib.hid hxy
        clear hxy
        go_wp2_with fail
        go_quiet (fail)
        go_wp2_with fail
        go_roundw
        case rel => exact ⟨k + 1, hl1, hl2, by go_num, hts.out.2 Hxy.out, below_drewN hbr _⟩
        case measure => simp [intOf]; omega
      · have hxb : ((x.toNat : Int) == (y.toNat : Int)) = false := by rw [Bool.eq_false_iff]; exact fun h => hxy (u8_eq_iff.1 h)
        have he := Lib.hid (hend.out hxy)
        clear hxy
        go_wp2_with fail
        go_quiet (fail)
        go_wp2_with fail
        go_ret
        exact ⟨by rw [he.out]; rfl, below_drewN hbr _⟩
    · have hmin : decide ((k : Int) < min (xs.length : Int) (ys.length : Int)) = false := by simp; omega
      have he := Lib.hid (cpl_end hk1 hk2 ht.out (by omega))
      go_wp2_with fail
      go_quiet (fail)
      go_wp2_with fail
      go_ret
      exact ⟨by rw [he.out]; rfl, below_drewN hbr _⟩

set_option maxRecDepth 100000 in
set_option maxHeartbeats 1000000 in
theorem row_any {E : Option Addr} {cap : Nat} (l : List CeV) (w : World) (h : SlC w E cap l) : Calls Tryz.prog 153 #[.slice E l.length cap] w fun e w' => e = .returned (.int .i64 (rowN (l.map ceOf) : Nat)) ∧ Below w.heap.size w w' := by
  have hmax := h.1.len_le
  unfold maxLen at hmax
  rcases Nat.eq_zero_or_pos l.length with h0 | hpos
  · obtain rfl := List.eq_nil_of_length_eq_zero h0
    clear h0
    go_enter Tryz.func153, Tryz.ntmps153
    go_wp2_with fail
    refine wp_loop_rounds 1 ?_
    rw [rounds_succ]
    have hlt : decide ((0 : Int) < 0) = false := by decide
    go_wp2_with fail
    go_quiet (fail)
    go_wp2_with fail
    go_ret
    exact ⟨rfl, below_drewN (Below.refl _ _) _⟩
  · have hend : ∀ n, n ≤ (l.map ceOf).length → (∀ j (h : j < (l.map ceOf).length), j < n → (l.map ceOf)[j].1 ≠ 1 ∧ (l.map ceOf)[j].1 = (l[0]'hpos).1) → (n = (l.map ceOf).length ∨ ∃ h : n < (l.map ceOf).length, ¬ ((l.map ceOf)[n].1 ≠ 1 ∧ (l.map ceOf)[n].1 = (l[0]'hpos).1)) → rowGo (l[0]'hpos).1 (l.map ceOf) = n := fun n hn ha hs => rowGo_end hn ha hs
    have hrow : rowN (l.map ceOf) = rowGo (l[0]'hpos).1 (l.map ceOf) := by
      cases l
      · simp at hpos
      · rfl
    obtain ⟨ad0, b0, o0, hE0, had0, hc00, _, _⟩ := h.at2 (k := 0) hpos
    have HE := Lib.hid hend
    have HR := Lib.hid hrow
    clear hend hrow
    obtain rfl : ad0 = ⟨b0, o0, none⟩ := by simpa [Addr.add] using had0
    subst hE0
    generalize l[0].1 = k0 at *
    clear had0
    go_enter Tryz.func153, Tryz.ntmps153
    go_wp2_with fail
    go_loopw [3] (fun x wr => ∃ n : Nat, n ≤ l.length ∧ x = .int .i64 n ∧ Hid (∀ j (h : j < (l.map ceOf).length), j < n → (l.map ceOf)[j].1 ≠ 1 ∧ (l.map ceOf)[j].1 = k0) ∧ Below w.heap.size w wr) (fun x w => l.length - (intOf x).toNat)
    case atStart => exact ⟨0, Nat.zero_le _, rfl, (fun j _ hj => by omega), Below.refl _ _⟩
    case round =>
      obtain ⟨n, hn, rfl, hall, hbr⟩ := hrel
      have hbl := World.block_lt_of_cell? w _ hc00
      have hc00r := (hbr.cell (p := ⟨b0, o0, none⟩) hbl).trans hc00
      by_cases hlt : n < l.length
      · obtain ⟨ad, b, o, hE, had, hc0, _, _⟩ := (h.below hbr).at2 hlt
        injection hE with hE
        subst hE
        rw [addr_lit] at had
        injection had with hb hoo
        subst hb
        subst hoo
        have hst := Lib.hid (fun hc => HE.out n (by simpa using hn) hall.out (.inr ⟨by simpa using hlt, by simpa using hc⟩))
        have hnx : Hid (l[n].1 ≠ 1 → l[n].1 = k0 → ∀ j (h : j < (l.map ceOf).length), j < n + 1 → (l.map ceOf)[j].1 ≠ 1 ∧ (l.map ceOf)[j].1 = k0) := (show _ → _ → _ from fun h1 h2 j hj hjn => by
          by_cases e : j = n
          · subst e; simpa using ⟨h1, h2⟩
          · exact hall.out j hj (by omega))
        generalize l[n].1 = k at *
        rcases Decidable.em (k = 1) with h1 | h1
        · have hb1 : (k != 1) = false := by simpa using h1
          have hR := Lib.hid (hst.out (fun h => absurd h1 h))
          clear h1
          go_wp2_with fail
          go_quiet (fail)
          go_wp2_with fail
          go_ret
          exact ⟨by rw [HR.out, hR.out]; rfl, below_drewN hbr _⟩
        · have hb1 : (k != 1) = true := by simpa using h1
          rcases Decidable.em (k = k0) with h2 | h2
          · have hb2 : (k == k0) = true := by simpa using h2
            have hN := Lib.hid (hnx.out h1 h2)
            clear h1 h2
            go_wp2_with fail
            go_quiet (fail)
            go_wp2_with fail
            go_roundw
            case rel => exact ⟨n + 1, hlt, by go_num, hN.out, below_drewN hbr _⟩
            case measure => simp [intOf]; omega
          · have hb2 : (k == k0) = false := by simpa using h2
            have hR := Lib.hid (hst.out (fun _ => h2))
            clear h1 h2
            go_wp2_with fail
            go_quiet (fail)
            go_wp2_with fail
            go_ret
            exact ⟨by rw [HR.out, hR.out]; rfl, below_drewN hbr _⟩
      · have hR := Lib.hid (HE.out n (by simpa using hn) hall.out (.inl (by simp; omega)))
        go_wp2_with fail
        go_quiet (fail)
        go_wp2_with fail
        go_ret
        exact ⟨by rw [HR.out, hR.out]; rfl, below_drewN hbr _⟩
end Go.Proofs.YtnndlmkcckgkhaaGreatDoor
