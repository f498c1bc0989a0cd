/- WHAT IT HOLDS: which scripts of a store's acts are long, walked. -/
import Derived.Test.YtabkeaammiellaaDoorStoreWholeG20
import Derived.Test.YtabkeaammiellaaDoorStoreWholeG23
namespace Go.Proofs.YtabkeaammiellaaDoor
open Go.RowKit Go.Maps Go.Sort
attribute [local go_sem ↓] Go.wp_at_zero Go.wp_at_succ

def SA.long (a : SA) : Bool := decide (60 < a.n.length) || decide (60 < a.ks.length) || decide (300 < a.l.length ∧ a.l.length ≤ 65536) || decide (66000 < a.l.length) || dLong [a.d] 1
def sLong (s : List SA) (most : Int) : Bool := s.any SA.long || decide (most < s.length)
theorem sLong_at {s : List SA} {most : Int} {k : Nat} (hk : k < s.length) (h : s[k].long = true) : sLong s most = true := by
  unfold sLong
  rw [List.any_eq_true.2 ⟨s[k], List.getElem_mem hk, h⟩]
  rfl
theorem sLong_none {s : List SA} {most : Int} (h : ∀ i (hi : i < s.length), s[i].long = false) : sLong s most = decide (most < s.length) := by
  unfold sLong
  rw [List.any_eq_false.2 fun x hx => by
    obtain ⟨i, hi, rfl⟩ := List.getElem_of_mem hx
    simp [h i hi]]
  rfl
theorem SA.short {a : SA} (h : a.long = false) : a.n.length ≤ 60 ∧ a.ks.length ≤ 60 ∧ a.l.length ≤ 66000 ∧ (a.l.length ≤ 300 ∨ 65536 < a.l.length) ∧ dLong [a.d] 1 = false := by
  unfold SA.long at h
  simp only [Bool.or_eq_false_iff, decide_eq_false_iff_not] at h
  exact ⟨by omega, by omega, by omega, by omega, h.2⟩
theorem sLong_short {s : List SA} {most : Int} (h : sLong s most = false) : (s.length : Int) ≤ most ∧ ∀ a ∈ s, a.long = false := by
  unfold sLong at h
  simp only [Bool.or_eq_false_iff, decide_eq_false_iff_not] at h
  refine ⟨by omega, fun a ha => ?_⟩
  have := List.any_eq_false.1 h.1 a ha
  simpa using this
theorem SlDA.lit1 (w : World) (o : Obj) (t : TypeId) {a : DA} (h : DAok w a) : SlDA ((w.alloc o).alloc (.cells #[.int .i64 a.k, .string ⟨a.n.toArray⟩, .string ⟨a.t.toArray⟩, .slice a.A a.l.length a.c, .int .i64 a.f, .slice a.B a.ks.length a.kc] t)) (some ⟨w.heap.size + 1, 0, none⟩) 1 [a] := by
  have hsz : (w.alloc o).heap.size = w.heap.size + 1 := by simp
  refine ⟨⟨rfl, Nat.le_refl _, by simp [maxLen], (fun h => by cases h), fun j u hj => ⟨_, rfl, ?_⟩⟩, fun x hx => ?_⟩
  · rw [← hsz, addr_lit, cell_of_row _ _ _ _ t (0, 0) (heap_alloc_new (w.alloc o) _)]
    simpa [dac] using hj
  · obtain rfl : x = a := by simpa using hx
    exact (h.below (below_new w o)).below (below_new (w.alloc o) _)
set_option maxRecDepth 100000 in
set_option maxHeartbeats 1000000 in
theorem SLong_any {A : Option Addr} {c : Nat} {s : List SA} (w : World) (h : SlSA w A c s) (most : Int) : Calls Tryd.prog 32 #[.slice A s.length c, .int .i64 most] w fun e w' => e = .returned (.bool (sLong s most)) ∧ Below w.heap.size w w' := by
  have hsl : s.length ≤ maxLen := Nat.le_trans h.1.2.1 h.1.2.2.1
  unfold maxLen at hsl
  have H := Lib.hid h
  clear h
  go_enter Tryd.func32, Tryd.ntmps32
  go_wp2_with fail
  go_loopw [9] (fun x wr => ∃ k : Nat, k ≤ s.length ∧ x = .int .i64 k ∧ (∀ i (hi : i < s.length), i < k → s[i].long = false) ∧ Below w.heap.size w wr) (fun x w => s.length - (intOf x).toNat)
  case atStart => exact ⟨0, Nat.zero_le _, rfl, (fun i _ hi => by omega), Below.refl _ _⟩
  case round =>
    obtain ⟨k, hk, rfl, hno, hb⟩ := hrel
    by_cases hlt : k < s.length
    · have hS := H.out.below hb
      obtain ⟨ad, b, o, hA, had, hcc⟩ := Sl.atS (f := sac) (size := 10) (fun _ => rfl) (by omega) hS.1 hlt
      have hc0 := hcc 0 _ rfl
      have hc1 := hcc 1 _ rfl
      have hc2 := hcc 2 _ rfl
      have hc3 := hcc 3 _ rfl
      have hc4 := hcc 4 _ rfl
      have hc5 := hcc 5 _ rfl
      have hc6 := hcc 6 _ rfl
      have hc7 := hcc 7 _ rfl
      have hc8 := hcc 8 _ rfl
      have hc9 := hcc 9 _ rfl
      rw [Nat.add_zero] at hc0
      have hok := hS.2 _ (List.getElem_mem hlt)
      clear hcc hS
      generalize hx : s[k] = x at *
      obtain ⟨kd, nm, A1, c1, l1, dx, B1, kc, ks⟩ := x
      obtain ⟨q1, q2, q3, -, q5⟩ := hok
      have q7 : l1.length ≤ maxLen := Nat.le_trans q1.2.1 q1.2.2.1
      have q8 : ks.length ≤ maxLen := Nat.le_trans q2.2.1 q2.2.2.1
      clear q1 q2
      have hok := Lib.hid q3
      clear q3
      dsimp only at *
      unfold maxLen at *
      rw [hA] at *
      clear hA
      have hbn := bel_alloc hb (.cells #[.int .i64 kd, .string ⟨nm.toArray⟩, .slice A1 l1.length c1, .int .i64 dx.k, .string ⟨dx.n.toArray⟩, .string ⟨dx.t.toArray⟩, .slice dx.A dx.l.length dx.c, .int .i64 dx.f, .slice dx.B dx.ks.length dx.kc, .slice B1 ks.length kc] 75)
      rcases Nat.lt_or_ge 60 nm.length with g1 | g1
      · have i1 : (60 : Int) < (nm.length : Int) := by omega
        have HE := Lib.hid (sLong_at (most := most) hlt (by rw [hx]; unfold SA.long; simp; omega))
        clear hno hx hok
        go_wp2_with fail
        go_ret
        exact ⟨by rw [HE.out]; rfl, hbn⟩
      have i1 : (nm.length : Int) ≤ 60 := by omega
      rcases Nat.lt_or_ge 60 ks.length with g3 | g3
      · have i3 : (60 : Int) < (ks.length : Int) := by omega
        have HE := Lib.hid (sLong_at (most := most) hlt (by rw [hx]; unfold SA.long; simp; omega))
        clear hno hx hok
        go_wp2_with fail
        go_ret
        exact ⟨by rw [HE.out]; rfl, hbn⟩
      have i3 : (ks.length : Int) ≤ 60 := by omega
      rcases Nat.lt_or_ge 300 l1.length with g4 | g4
      · have i4 : (300 : Int) < (l1.length : Int) := by omega
        rcases Nat.lt_or_ge 65536 l1.length with g5 | g5
        · have i5 : (65536 : Int) < (l1.length : Int) := by omega
          rcases Nat.lt_or_ge 66000 l1.length with g6 | g6
          · have i6 : (66000 : Int) < (l1.length : Int) := by omega
            have HE := Lib.hid (sLong_at (most := most) hlt (by rw [hx]; unfold SA.long; simp; omega))
            clear hno hx hok
            go_wp2_with fail
            go_ret
            exact ⟨by rw [HE.out]; rfl, hbn⟩
          · have i6 : (l1.length : Int) ≤ 66000 := by omega
            have hlk := Lib.hid (SlDA.lit1 wr (.cells #[.int .i64 kd, .string ⟨nm.toArray⟩, .slice A1 l1.length c1, .int .i64 dx.k, .string ⟨dx.n.toArray⟩, .string ⟨dx.t.toArray⟩, .slice dx.A dx.l.length dx.c, .int .i64 dx.f, .slice dx.B dx.ks.length dx.kc, .slice B1 ks.length kc] 75) 40 hok.out)
            have hbn2 := bel_alloc hbn (.cells #[.int .i64 dx.k, .string ⟨dx.n.toArray⟩, .string ⟨dx.t.toArray⟩, .slice dx.A dx.l.length dx.c, .int .i64 dx.f, .slice dx.B dx.ks.length dx.kc] 40)
            have HL := Lib.hid (DLong_any _ hlk.out 1)
            have hc1 := Lib.hid hbn2
            clear hlk hbn2
            go_wp2_with fail
            refine HL.out.mono ?_
            rintro e w5 ⟨rfl, hb5⟩
            have hb6 := bel_call hc1.out hb5
            cases hdl : dLong [dx] 1 with
            | true =>
              have HE := Lib.hid (sLong_at (most := most) hlt (by rw [hx]; unfold SA.long; rw [hdl]; simp))
              clear hno hx hok HL hc1 hb5
              go_wp2_with fail
              go_ret
              exact ⟨by rw [HE.out]; rfl, hb6⟩
            | false =>
              have hno2 := Lib.hid (show ∀ i (hi : i < s.length), i < k + 1 → s[i].long = false from fun i hi hi2 => by
                rcases Nat.lt_or_ge i k with h1 | h1
                · exact hno i hi h1
                · obtain rfl : i = k := by omega
                  rw [hx]; unfold SA.long; rw [hdl]; simp; omega)
              clear hno hx hok HL hc1 hb5
              go_wp2_with fail
              go_roundw
              case rel => exact ⟨k + 1, hlt, rfl, hno2.out, hb6⟩
              case measure => simp [intOf]; omega
        · have i5 : (l1.length : Int) ≤ 65536 := by omega
          have HE := Lib.hid (sLong_at (most := most) hlt (by rw [hx]; unfold SA.long; simp; omega))
          clear hno hx hok
          go_wp2_with fail
          go_ret
          exact ⟨by rw [HE.out]; rfl, hbn⟩
      · have i4 : (l1.length : Int) ≤ 300 := by omega
        have i6 : (l1.length : Int) ≤ 66000 := by omega
        have hlk := Lib.hid (SlDA.lit1 wr (.cells #[.int .i64 kd, .string ⟨nm.toArray⟩, .slice A1 l1.length c1, .int .i64 dx.k, .string ⟨dx.n.toArray⟩, .string ⟨dx.t.toArray⟩, .slice dx.A dx.l.length dx.c, .int .i64 dx.f, .slice dx.B dx.ks.length dx.kc, .slice B1 ks.length kc] 75) 40 hok.out)
        have hbn2 := bel_alloc hbn (.cells #[.int .i64 dx.k, .string ⟨dx.n.toArray⟩, .string ⟨dx.t.toArray⟩, .slice dx.A dx.l.length dx.c, .int .i64 dx.f, .slice dx.B dx.ks.length dx.kc] 40)
        have HL := Lib.hid (DLong_any _ hlk.out 1)
        have hc1 := Lib.hid hbn2
        clear hlk hbn2
        go_wp2_with fail
        refine HL.out.mono ?_
        rintro e w5 ⟨rfl, hb5⟩
        have hb6 := bel_call hc1.out hb5
        cases hdl : dLong [dx] 1 with
        | true =>
          have HE := Lib.hid (sLong_at (most := most) hlt (by rw [hx]; unfold SA.long; rw [hdl]; simp))
          clear hno hx hok HL hc1 hb5
          go_wp2_with fail
          go_ret
          exact ⟨by rw [HE.out]; rfl, hb6⟩
        | false =>
          have hno2 := Lib.hid (show ∀ i (hi : i < s.length), i < k + 1 → s[i].long = false from fun i hi hi2 => by
            rcases Nat.lt_or_ge i k with h1 | h1
            · exact hno i hi h1
            · obtain rfl : i = k := by omega
              rw [hx]; unfold SA.long; rw [hdl]; simp; omega)
          clear hno hx hok HL hc1 hb5
          go_wp2_with fail
          go_roundw
          case rel => exact ⟨k + 1, hlt, rfl, hno2.out, hb6⟩
          case measure => simp [intOf]; omega
    · have hke : k = s.length := by omega
      have HE := Lib.hid (sLong_none (most := most) fun i hi => hno i hi (by omega))
      subst hke
      clear hno
      go_wp2_with fail
      go_ret
      exact ⟨by rw [HE.out]; rfl, hb⟩
end Go.Proofs.YtabkeaammiellaaDoor
