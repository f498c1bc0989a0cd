/- WHAT IT HOLDS: which scripts of a store's acts are long, walked. | WHAT IT HOLDS: a store's acts and the maps of values, plainly: they go past one another. | WHAT IT HOLDS: while an act on a store and the document's is done: what lies where. | WHAT IT HOLDS: the law StoreOpens, walked. -/
import Derived.Test.YtnndlmkcckgkhaaGreatDoorStoreOpensG14
import Derived.Test.YtnndlmkcckgkhaaGreatDoorStoreOpensG23
import Derived.Test.YtnndlmkcckgkhaaGreatDoorStoreOpensG12
import Derived.Test.YtnndlmkcckgkhaaGreatDoorStoreOpensG20
import Derived.Test.YtnndlmkcckgkhaaGreatDoorStoreOpensG22
namespace Go.Proofs.YtnndlmkcckgkhaaGreatDoor
open Go.RowKit Go.Maps Go.Sort
attribute [local go_sem ↓] Go.wp_at_zero Go.wp_at_succ

def SA.long (a : SA) : Bool := decide (60 < a.n.length) || decide (60 < a.ks.length) || decide (300 < a.l.length ∧ a.l.length ≤ 65536) || decide (66000 < a.l.length) || dLong [a.d] 1
def sLong (s : List SA) (most : Int) : Bool := s.any SA.long || decide (most < s.length)
theorem sLong_at {s : List SA} {most : Int} {k : Nat} (hk : k < s.length) (h : s[k].long = true) : sLong s most = true := by
  unfold sLong
  rw [List.any_eq_true.2 ⟨s[k], List.getElem_mem hk, h⟩]
  rfl
theorem sLong_none {s : List SA} {most : Int} (h : ∀ i (hi : i < s.length), s[i].long = false) : sLong s most = decide (most < s.length) := by
  unfold sLong
  rw [List.any_eq_false.2 fun x hx => by
    obtain ⟨i, hi, rfl⟩ := List.getElem_of_mem hx
    simp [h i hi]]
  rfl
theorem SA.short {a : SA} (h : a.long = false) : a.n.length ≤ 60 ∧ a.ks.length ≤ 60 ∧ a.l.length ≤ 66000 ∧ (a.l.length ≤ 300 ∨ 65536 < a.l.length) ∧ dLong [a.d] 1 = false := by
  unfold SA.long at h
  simp only [Bool.or_eq_false_iff, decide_eq_false_iff_not] at h
  exact ⟨by omega, by omega, by omega, by omega, h.2⟩
theorem sLong_short {s : List SA} {most : Int} (h : sLong s most = false) : (s.length : Int) ≤ most ∧ ∀ a ∈ s, a.long = false := by
  unfold sLong at h
  simp only [Bool.or_eq_false_iff, decide_eq_false_iff_not] at h
  refine ⟨by omega, fun a ha => ?_⟩
  have := List.any_eq_false.1 h.1 a ha
  simpa using this
theorem SlDA.lit1 (w : World) (o : Obj) (t : TypeId) {a : DA} (h : DAok w a) : SlDA ((w.alloc o).alloc (.cells #[.int .i64 a.k, .string ⟨a.n.toArray⟩, .string ⟨a.t.toArray⟩, .slice a.A a.l.length a.c, .int .i64 a.f, .slice a.B a.ks.length a.kc] t)) (some ⟨w.heap.size + 1, 0, none⟩) 1 [a] := by
  have hsz : (w.alloc o).heap.size = w.heap.size + 1 := by simp
  refine ⟨⟨rfl, Nat.le_refl _, by simp [maxLen], (fun h => by cases h), fun j u hj => ⟨_, rfl, ?_⟩⟩, fun x hx => ?_⟩
  · rw [← hsz, addr_lit, cell_of_row _ _ _ _ t (0, 0) (heap_alloc_new (w.alloc o) _)]
    simpa [dac] using hj
  · obtain rfl : x = a := by simpa using hx
    exact (h.below (below_new w o)).below (below_new (w.alloc o) _)
set_option maxRecDepth 100000 in
set_option maxHeartbeats 1000000 in
theorem SLong_any {A : Option Addr} {c : Nat} {s : List SA} (w : World) (h : SlSA w A c s) (most : Int) : Calls Tryz.prog 28 #[.slice A s.length c, .int .i64 most] w fun e w' => e = .returned (.bool (sLong s most)) ∧ Below w.heap.size w w' := by
  have hsl : s.length ≤ maxLen := Nat.le_trans h.1.2.1 h.1.2.2.1
  unfold maxLen at hsl
  have H := Lib.hid h
  clear h
  go_enter Tryz.func28, Tryz.ntmps28
  go_wp2_with fail
  go_loopw [9] (fun x wr => ∃ k : Nat, k ≤ s.length ∧ x = .int .i64 k ∧ (∀ i (hi : i < s.length), i < k → s[i].long = false) ∧ Below w.heap.size w wr) (fun x w => s.length - (intOf x).toNat)
  case atStart => exact ⟨0, Nat.zero_le _, rfl, (fun i _ hi => by omega), Below.refl _ _⟩
  case round =>
    obtain ⟨k, hk, rfl, hno, hb⟩ := hrel
    by_cases hlt : k < s.length
    · have hS := H.out.below hb
      obtain ⟨ad, b, o, hA, had, hcc⟩ := Sl.atS (f := sac) (size := 10) (fun _ => rfl) (by omega) hS.1 hlt
      have hc0 := hcc 0 _ rfl
      have hc1 := hcc 1 _ rfl
      have hc2 := hcc 2 _ rfl
      have hc3 := hcc 3 _ rfl
      have hc4 := hcc 4 _ rfl
      have hc5 := hcc 5 _ rfl
      have hc6 := hcc 6 _ rfl
      have hc7 := hcc 7 _ rfl
      have hc8 := hcc 8 _ rfl
      have hc9 := hcc 9 _ rfl
      rw [Nat.add_zero] at hc0
      have hok := hS.2 _ (List.getElem_mem hlt)
      clear hcc hS
      generalize hx : s[k] = x at *
      obtain ⟨kd, nm, A1, c1, l1, dx, B1, kc, ks⟩ := x
      obtain ⟨q1, q2, q3, -, q5⟩ := hok
      have q7 : l1.length ≤ maxLen := Nat.le_trans q1.2.1 q1.2.2.1
      have q8 : ks.length ≤ maxLen := Nat.le_trans q2.2.1 q2.2.2.1
      clear q1 q2
      have hok := Lib.hid q3
      clear q3
      dsimp only at *
      unfold maxLen at *
      rw [hA] at *
      clear hA
      have hbn := bel_alloc hb (.cells #[.int .i64 kd, .string ⟨nm.toArray⟩, .slice A1 l1.length c1, .int .i64 dx.k, .string ⟨dx.n.toArray⟩, .string ⟨dx.t.toArray⟩, .slice dx.A dx.l.length dx.c, .int .i64 dx.f, .slice dx.B dx.ks.length dx.kc, .slice B1 ks.length kc] 90)
      rcases Nat.lt_or_ge 60 nm.length with g1 | g1
      · have i1 : (60 : Int) < (nm.length : Int) := by omega
        have HE := Lib.hid (sLong_at (most := most) hlt (by rw [hx]; unfold SA.long; simp; omega))
        clear hno hx hok
        go_wp2_with fail
        go_ret
        exact ⟨by rw [HE.out]; rfl, hbn⟩
      have i1 : (nm.length : Int) ≤ 60 := by omega
      rcases Nat.lt_or_ge 60 ks.length with g3 | g3
      · have i3 : (60 : Int) < (ks.length : Int) := by omega
        have HE := Lib.hid (sLong_at (most := most) hlt (by rw [hx]; unfold SA.long; simp; omega))
        clear hno hx hok
        go_wp2_with fail
        go_ret
        exact ⟨by rw [HE.out]; rfl, hbn⟩
      have i3 : (ks.length : Int) ≤ 60 := by omega
      rcases Nat.lt_or_ge 300 l1.length with g4 | g4
      · have i4 : (300 : Int) < (l1.length : Int) := by omega
        rcases Nat.lt_or_ge 65536 l1.length with g5 | g5
        · have i5 : (65536 : Int) < (l1.length : Int) := by omega
          rcases Nat.lt_or_ge 66000 l1.length with g6 | g6
          · have i6 : (66000 : Int) < (l1.length : Int) := by omega
            have HE := Lib.hid (sLong_at (most := most) hlt (by rw [hx]; unfold SA.long; simp; omega))
            clear hno hx hok
            go_wp2_with fail
            go_ret
            exact ⟨by rw [HE.out]; rfl, hbn⟩
          · have i6 : (l1.length : Int) ≤ 66000 := by omega
            have hlk := Lib.hid (SlDA.lit1 wr (.cells #[.int .i64 kd, .string ⟨nm.toArray⟩, .slice A1 l1.length c1, .int .i64 dx.k, .string ⟨dx.n.toArray⟩, .string ⟨dx.t.toArray⟩, .slice dx.A dx.l.length dx.c, .int .i64 dx.f, .slice dx.B dx.ks.length dx.kc, .slice B1 ks.length kc] 90) 88 hok.out)
            have hbn2 := bel_alloc hbn (.cells #[.int .i64 dx.k, .string ⟨dx.n.toArray⟩, .string ⟨dx.t.toArray⟩, .slice dx.A dx.l.length dx.c, .int .i64 dx.f, .slice dx.B dx.ks.length dx.kc] 88)
            have HL := Lib.hid (DLong_any _ hlk.out 1)
            have hc1 := Lib.hid hbn2
            clear hlk hbn2
            go_wp2_with fail
            refine HL.out.mono ?_
            rintro e w5 ⟨rfl, hb5⟩
            have hb6 := bel_call hc1.out hb5
            cases hdl : dLong [dx] 1 with
            | true =>
              have HE := Lib.hid (sLong_at (most := most) hlt (by rw [hx]; unfold SA.long; rw [hdl]; simp))
              clear hno hx hok HL hc1 hb5
              go_wp2_with fail
              go_ret
              exact ⟨by rw [HE.out]; rfl, hb6⟩
            | false =>
              have hno2 := Lib.hid (show ∀ i (hi : i < s.length), i < k + 1 → s[i].long = false from fun i hi hi2 => by
                rcases Nat.lt_or_ge i k with h1 | h1
                · exact hno i hi h1
                · obtain rfl : i = k := by omega
                  rw [hx]; unfold SA.long; rw [hdl]; simp; omega)
              clear hno hx hok HL hc1 hb5
              go_wp2_with fail
              go_roundw
              case rel => exact ⟨k + 1, hlt, rfl, hno2.out, hb6⟩
              case measure => simp [intOf]; omega
        · have i5 : (l1.length : Int) ≤ 65536 := by omega
          have HE := Lib.hid (sLong_at (most := most) hlt (by rw [hx]; unfold SA.long; simp; omega))
          clear hno hx hok
          go_wp2_with fail
          go_ret
          exact ⟨by rw [HE.out]; rfl, hbn⟩
      · have i4 : (l1.length : Int) ≤ 300 := by omega
        have i6 : (l1.length : Int) ≤ 66000 := by omega
        have hlk := Lib.hid (SlDA.lit1 wr (.cells #[.int .i64 kd, .string ⟨nm.toArray⟩, .slice A1 l1.length c1, .int .i64 dx.k, .string ⟨dx.n.toArray⟩, .string ⟨dx.t.toArray⟩, .slice dx.A dx.l.length dx.c, .int .i64 dx.f, .slice dx.B dx.ks.length dx.kc, .slice B1 ks.length kc] 90) 88 hok.out)
        have hbn2 := bel_alloc hbn (.cells #[.int .i64 dx.k, .string ⟨dx.n.toArray⟩, .string ⟨dx.t.toArray⟩, .slice dx.A dx.l.length dx.c, .int .i64 dx.f, .slice dx.B dx.ks.length dx.kc] 88)
        have HL := Lib.hid (DLong_any _ hlk.out 1)
        have hc1 := Lib.hid hbn2
        clear hlk hbn2
        go_wp2_with fail
        refine HL.out.mono ?_
        rintro e w5 ⟨rfl, hb5⟩
        have hb6 := bel_call hc1.out hb5
        cases hdl : dLong [dx] 1 with
        | true =>
          have HE := Lib.hid (sLong_at (most := most) hlt (by rw [hx]; unfold SA.long; rw [hdl]; simp))
          clear hno hx hok HL hc1 hb5
          go_wp2_with fail
          go_ret
          exact ⟨by rw [HE.out]; rfl, hb6⟩
        | false =>
          have hno2 := Lib.hid (show ∀ i (hi : i < s.length), i < k + 1 → s[i].long = false from fun i hi hi2 => by
            rcases Nat.lt_or_ge i k with h1 | h1
            · exact hno i hi h1
            · obtain rfl : i = k := by omega
              rw [hx]; unfold SA.long; rw [hdl]; simp; omega)
          clear hno hx hok HL hc1 hb5
          go_wp2_with fail
          go_roundw
          case rel => exact ⟨k + 1, hlt, rfl, hno2.out, hb6⟩
          case measure => simp [intOf]; omega
    · have hke : k = s.length := by omega
      have HE := Lib.hid (sLong_none (most := most) fun i hi => hno i hi (by omega))
      subst hke
      clear hno
      go_wp2_with fail
      go_ret
      exact ⟨by rw [HE.out]; rfl, hb⟩
end Go.Proofs.YtnndlmkcckgkhaaGreatDoor

namespace Go.Proofs.YtnndlmkcckgkhaaGreatDoor

theorem andThen_map (r : Dk Sv × Nat) (f : Dk Sv → Dk Sv × Nat) (g : Dk Bs → Dk Bs × Nat) (h : ∀ d : Dk Sv, g (d.map Sv.l) = ((f d).1.map Sv.l, (f d).2)) : andThen (r.1.map Sv.l, r.2) g = ((andThen r f).1.map Sv.l, (andThen r f).2) := by
  unfold andThen
  by_cases h0 : r.2 ≠ 0
  · rw [if_pos h0, if_pos h0]
  · rw [if_neg h0, if_neg h0]
    exact h _
theorem sPut_map (d : Dk Sv) (n : Bs) (v : Sv) : sPut bln ([] : Bs) (d.map Sv.l) n v.l = ((sPut svl Sv.nil d n v).1.map Sv.l, (sPut svl Sv.nil d n v).2) := by
  unfold sPut
  by_cases h : snamed n = false
  · rw [if_pos h, if_pos h]
  · rw [if_neg h, if_neg h, dWrite_map]
    refine andThen_map _ _ _ fun d => ?_
    rw [dSync_map]
    refine andThen_map _ _ _ fun d => ?_
    rw [dRename_map]
    exact andThen_map _ _ _ dSync_map
theorem sDelete_map (d : Dk Sv) (n : Bs) : sDelete ([] : Bs) (d.map Sv.l) n = ((sDelete Sv.nil d n).1.map Sv.l, (sDelete Sv.nil d n).2) := by
  unfold sDelete
  by_cases h : snamed n = false
  · rw [if_pos h, if_pos h]
  · rw [if_neg h, if_neg h, dRemove_map]
    exact andThen_map _ _ _ dSync_map
theorem sSweep_map : ∀ (l : List Bs) (d : Dk Sv) (b : Bool), sSweep ([] : Bs) l (d.map Sv.l) b = ((sSweep Sv.nil l d b).1.map Sv.l, (sSweep Sv.nil l d b).2)
  | [], d, b => rfl
  | n :: r, d, b => by
    unfold sSweep
    by_cases hb : isBegun n = true
    · rw [if_pos hb, if_pos hb, dRemove_map]
      by_cases h0 : (dRemove Sv.nil d n).2 ≠ 0
      · rw [if_pos h0, if_pos h0]
      · rw [if_neg h0, if_neg h0]
        exact sSweep_map r _ true
    · rw [if_neg hb, if_neg hb]
      exact sSweep_map r d b
theorem dnames_map (d : Dk Sv) : names (d.map Sv.l).shown = names d.shown := by
  rw [shown_map]
  unfold names gmap
  rw [List.map_map]
  rfl
theorem sOpen_map (d : Dk Sv) : sOpen ([] : Bs) (d.map Sv.l) = ((sOpen Sv.nil d).1.map Sv.l, (sOpen Sv.nil d).2) := by
  unfold sOpen
  rw [dnames_map]
  by_cases hd : d.down = true
  · rw [if_pos hd, if_pos (show (d.map Sv.l).down = true from hd)]
  · rw [if_neg hd, if_neg (show ¬ (d.map Sv.l).down = true from hd), sSweep_map]
    by_cases h0 : (sSweep Sv.nil (names d.shown) d false).2.1 ≠ 0
    · rw [if_pos h0, if_pos h0]
    · rw [if_neg h0, if_neg h0]
      by_cases hb : (sSweep Sv.nil (names d.shown) d false).2.2 = true
      · rw [if_pos hb, if_pos hb, dSync_map]
      · rw [if_neg hb, if_neg hb]
theorem sList_map (d : Dk Sv) (b : Bs) : sList (d.map Sv.l) b = sList d b := by
  unfold sList
  rw [dnames_map]
  rfl
theorem sGet_map (d : Dk Sv) (n : Bs) : (sGet (d.map Sv.l) n).2 = (sGet d n).2 ∧ (sGet (d.map Sv.l) n).1 = (sGet d n).1.map Sv.l := by
  unfold sGet
  by_cases h : snamed n = false
  · rw [if_pos h, if_pos h]
    exact ⟨rfl, rfl⟩
  · rw [if_neg h, if_neg h]
    unfold dRead
    rw [shown_map, gget_map]
    by_cases hd : d.down = true
    · rw [if_pos hd, if_pos (show (d.map Sv.l).down = true from hd)]
      exact ⟨rfl, rfl⟩
    · rw [if_neg hd, if_neg (show ¬ (d.map Sv.l).down = true from hd)]
      cases gget n d.shown <;> exact ⟨rfl, rfl⟩
end Go.Proofs.YtnndlmkcckgkhaaGreatDoor

namespace Go.Proofs.YtnndlmkcckgkhaaGreatDoor
open Go.RowKit Go.Maps Go.Sort
attribute [local go_sem ↓] Go.wp_at_zero Go.wp_at_succ

def sacta (x : SA) : Array Value := #[.int .i64 x.k, .string ⟨x.n.toArray⟩, .slice x.A x.l.length x.c, .int .i64 x.d.k, .string ⟨x.d.n.toArray⟩, .string ⟨x.d.t.toArray⟩, .slice x.d.A x.d.l.length x.d.c, .int .i64 x.d.f, .slice x.d.B x.d.ks.length x.d.kc, .slice x.B x.ks.length x.kc]
/-- blocks apart from a disk's and from a call's own -/
def Yt (P : Nat → Prop) (w : World) (q : Fp) (i : Nat) : Prop := ¬ q.M i ∧ P i ∧ i ≠ w.heap.size ∧ i ≠ w.heap.size + 2
/-- while an act is done -/
structure SoS (P : Nat → Prop) (w W : World) (q0 q : Fp) (gs : Nat) (d : Dk Sv) (O : Option Addr) (co : Nat) (own : Bs) (m : Dk Bs) (A : Option Addr) (c : Nat) (B : Option Addr) (k : Nat) (x : SA) : Prop where
  st : StM W gs q d
  g : q.g = q0.g
  fr : Frd q0 w W
  M : ∀ i, q.M i → q0.M i ∨ w.heap.size ≤ i
  b0 : Blk W w.heap.size 79 (rda m A c B k)
  b1 : Blk W (w.heap.size + 1) 90 (sacta x)
  b2 : Blk W (w.heap.size + 2) 79 rdz
  own : OwnB W (w.heap.size + 3) 5 O co own
  aM : ¬ q.M w.heap.size ∧ ¬ q.M (w.heap.size + 1) ∧ ¬ q.M (w.heap.size + 2) ∧ ∀ i, O.map (·.block) = some i → ¬ q.M i
  gn : gs ≠ w.heap.size ∧ gs ≠ w.heap.size + 1 ∧ gs ≠ w.heap.size + 2
  R : Rdk (Yt P w q) W m A c B k
  up0 : ∀ i, w.heap.size ≤ i → P i
section
variable {P : Nat → Prop} {w W W' : World} {q0 q q' : Fp} {gs gs' : Nat} {d d' : Dk Sv} {O : Option Addr} {co : Nat} {own : Bs} {m m' : Dk Bs} {A A' B B' : Option Addr} {c c' k k' : Nat} {x : SA}
theorem SoS.call (h : SoS P w W q0 q gs d O co own m A c B k x) (hb : Below W.heap.size W W') : SoS P w W' q0 q gs d O co own m A c B k x :=
  ⟨h.st.below hb, h.g, ⟨hb.os.trans h.fr.os, hb.tape.trans h.fr.tape, hb.output.trans h.fr.output, Nat.le_trans h.fr.size hb.size, fun i hi hn => (hb.block i (Nat.lt_of_lt_of_le hi h.fr.size)).trans (h.fr.block i hi hn)⟩, h.M, h.b0.below hb, h.b1.below hb, h.b2.below hb, Own.below h.own hb, h.aM, h.gn, h.R.below hb, h.up0⟩
theorem SoS.up (h : SoS P w W q0 q gs d O co own m A c B k x) : ∀ i, W.heap.size ≤ i → Yt P w q i := fun i hi => by
  refine ⟨fun hq => ?_, h.up0 i (Nat.le_trans h.fr.size hi), ?_, ?_⟩
  · have := h.st.dsk.ltM hq
    omega
  · have := h.b0.lt
    omega
  · have := h.b2.lt
    omega
/-- the disk acts; the store stays -/
theorem SoS.act (h : SoS P w W q0 q gs d O co own m A c B k x) (hg : q'.g = q.g) (hD : Dsk W' q' d') (hF : Frd q W W') (hM : ∀ i, q'.M i → q.M i ∨ W.heap.size ≤ i) : SoS P w W' q0 q' gs d' O co own m A c B k x := by
  have hn : ∀ {i}, i < W.heap.size → ¬ q.M i → ¬ q'.M i := fun {i} hi hq h2 => by
    rcases hM i h2 with h3 | h3
    · exact hq h3
    · omega
  obtain ⟨a0, a1, a2, a3⟩ := h.aM
  have l0 := h.b0.lt
  have l1 := h.b1.lt
  have l2 := h.b2.lt
  refine ⟨h.st.act hg hD hF hM, hg.trans h.g, h.fr.trans hF h.M, fun i hi => ?_, (hF.block _ l0 a0).trans h.b0, (hF.block _ l1 a1).trans h.b1, (hF.block _ l2 a2).trans h.b2, ?_, ⟨hn l0 a0, hn l1 a1, hn l2 a2, fun i hi => hn (Own.lt h.own i hi).2 (a3 i hi)⟩, h.gn, ?_, h.up0⟩
  · rcases hM i hi with h1 | h1
    · exact h.M i h1
    · have := h.fr.size
      exact .inr (by omega)
  · exact Own.sameH h.own fun i hi => hF.block i (Own.lt h.own i hi).2 (a3 i hi)
  · exact h.R.sameH (fun i hi ht => ⟨hn hi ht.1, ht.2⟩) hF.size fun i hi ht => hF.block i hi ht.1
/-- another store on the same disk -/
theorem SoS.store (h : SoS P w W q0 q gs d O co own m A c B k x) (hS : StM W gs' q d) (hw : w.heap.size + 3 ≤ gs') : SoS P w W q0 q gs' d O co own m A c B k x :=
  ⟨hS, h.g, h.fr, h.M, h.b0, h.b1, h.b2, h.own, h.aM, ⟨by omega, by omega, by omega⟩, h.R, h.up0⟩
theorem Dsk.apart {w W' : World} {q : Fp} {d : Dk Sv} {b : Nat} {mm : Dk Bs} {A B : Option Addr} {c k : Nat} (h : Dsk w q d) (hB : Blk w b 79 (rda mm A c B k)) (hb : ¬ q.M b) (hw : ∀ i, i < w.heap.size → i ≠ b → W'.heap[i]? = w.heap[i]?) : Dsk W' q d := by
  refine h.frame fun j hj => hw j (h.lt hj) fun e => ?_
  rw [e] at hj
  rcases hj with hj | ⟨s, hs, hne, hA⟩
  · exact hb hj
  · exact byte_apart hB (h.rd s hs) hne hA
/-- the document's disk is set -/
theorem SoS.refW (h : SoS P w W q0 q gs d O co own m A c B k x) (hw : Wr W W' w.heap.size) (hB : Blk W' w.heap.size 79 (rda m' A' c' B' k')) (hR : Rdk (Yt P w q) W m' A' c' B' k') : SoS P w W' q0 q gs d O co own m' A' c' B' k' x := by
  have hne : ∀ i, i < W.heap.size → i ≠ w.heap.size → W'.heap[i]? = W.heap[i]? := fun i hi hne => hw.block i hi (fun e => hne (by injection e))
  refine ⟨⟨?_, h.st.blk.wr hw h.gn.1, h.st.ap⟩, h.g, ⟨hw.os.trans h.fr.os, hw.tape.trans h.fr.tape, hw.output.trans h.fr.output, Nat.le_trans h.fr.size hw.size, fun i hi hn => (hne i (Nat.lt_of_lt_of_le hi h.fr.size) (by omega)).trans (h.fr.block i hi hn)⟩, h.M, hB, h.b1.wr hw (by omega), h.b2.wr hw (by omega), ?_, h.aM, h.gn, ?_, h.up0⟩
  · exact h.st.dsk.apart h.b0 h.aM.1 hne
  · exact Own.sameH h.own fun i hi => hne i (Own.lt h.own i hi).2 (by have := (Own.lt h.own i hi).1; omega)
  · exact hR.sameH (fun _ _ ht => ht) hw.size fun i hi ht => hne i hi ht.2.2.1
theorem SoS.ref (h : SoS P w W q0 q gs d O co own m A c B k x) (hR : Rdk (Yt P w q) W m' A' c' B' k') : SoS P w (((((W.setCell ⟨w.heap.size, 0, none⟩ (.int .i64 m'.room)).setCell ⟨w.heap.size, 1, none⟩ (.slice A' m'.sure.length c')).setCell ⟨w.heap.size, 2, none⟩ (.slice B' m'.pend.length k')).setCell ⟨w.heap.size, 3, none⟩ (.int .i64 m'.fuse)).setCell ⟨w.heap.size, 4, none⟩ (.bool m'.down)) q0 q gs d O co own m' A' c' B' k' x :=
  h.refW ((((((Wr.refl _ _).set_ 0 _).set_ 1 _).set_ 2 _).set_ 3 _).set_ 4 _) (h.b0.st5 _ _ _ _ _) hR
/-- the result is laid -/
theorem SoS.out (h : SoS P w W q0 q gs d O co own m A c B k x) (hw : Wr W W' (w.heap.size + 2)) : StM W' gs q d ∧ Frd q0 w W' ∧ Rdk (fun i => ¬ q.M i ∧ P i) W' m A c B k := by
  have hne : ∀ i, i < W.heap.size → i ≠ w.heap.size + 2 → W'.heap[i]? = W.heap[i]? := fun i hi hne => hw.block i hi (fun e => hne (by injection e))
  exact ⟨⟨h.st.dsk.apart (mm := ⟨0, [], [], 0, false⟩) (A := none) (c := 0) (B := none) (k := 0) h.b2 h.aM.2.2.1 hne, h.st.blk.wr hw h.gn.2.2, h.st.ap⟩, ⟨hw.os.trans h.fr.os, hw.tape.trans h.fr.tape, hw.output.trans h.fr.output, Nat.le_trans h.fr.size hw.size, fun i hi hn => (hne i (Nat.lt_of_lt_of_le hi h.fr.size) (by omega)).trans (h.fr.block i hi hn)⟩, h.R.sameH (fun _ _ ht => ⟨ht.1, ht.2.1⟩) hw.size fun i hi ht => hne i hi ht.2.2.2⟩
end
/-- what an act leaves -/
def SoG (P : Nat → Prop) (w : World) (q0 : Fp) (gs0 : Nat) (d : Dk Sv) (e : Ending) (w' : World) : Prop := ∃ (q : Fp) (d' : Dk Sv) (gs : Nat) (A : Option Addr) (c : Nat) (B : Option Addr) (k : Nat), e = .returned (.tuple #[.pointer (some ⟨gs, 0, none⟩), .agg (rda (d'.map Sv.l) A c B k), .bool true]) ∧ q.g = q0.g ∧ StM w' gs q d' ∧ Fok d' ∧ Nmd d' ∧ Frd q0 w w' ∧ (∀ i, q.M i → q0.M i ∨ w.heap.size ≤ i) ∧ Rdk (fun i => ¬ q.M i ∧ P i) w' (d'.map Sv.l) A c B k ∧ d'.sure.length + d'.pend.length ≤ d.sure.length + d.pend.length + 4 ∧ (gs = gs0 ∨ w.heap.size ≤ gs)
theorem Nmd.mapD {d : Dk Sv} (h : Nmd d) : Nmd (d.map Sv.l) := by
  refine ⟨fun p hp => ?_, fun c hc => ?_⟩
  · obtain ⟨p0, h0, rfl⟩ := List.mem_map.1 hp
    exact h.1 p0 h0
  · obtain ⟨c0, h0, rfl⟩ := List.mem_map.1 hc
    exact h.2 c0 h0
theorem kind8 (k : Int) : (IntKind.u64.wrap k).tmod 8 = 0 ∨ (IntKind.u64.wrap k).tmod 8 = 1 ∨ (IntKind.u64.wrap k).tmod 8 = 2 ∨ (IntKind.u64.wrap k).tmod 8 = 3 ∨ (IntKind.u64.wrap k).tmod 8 = 4 ∨ (IntKind.u64.wrap k).tmod 8 = 5 ∨ (IntKind.u64.wrap k).tmod 8 = 6 ∨ (IntKind.u64.wrap k).tmod 8 = 7 := by
  have h : IntKind.u64.wrap k = k % 18446744073709551616 := rfl
  rw [h, Int.tmod_eq_emod_of_nonneg (by omega)]
  omega
end Go.Proofs.YtnndlmkcckgkhaaGreatDoor

namespace Go.Proofs.YtnndlmkcckgkhaaGreatDoor
open Go.RowKit Go.Maps Go.Sort
attribute [local go_sem ↓] Go.wp_at_zero Go.wp_at_succ

section
variable {w W W' : World} {g b i : Nat} {q : Fp} {d : Dk Sv} {A B : Option Addr} {c k : Nat}
/-- the document's disk, as it is then, is laid into its block -/
theorem PlS.next2 (h : PlS w W g b i q d A c B k) {q' : Fp} {d' : Dk Sv} {A' B' : Option Addr} {c' k' m : Nat} (hg : q'.g = q.g) (hD : Dsk W' q' d') (hf : Fok d') (hF : Frd q W W') (hM : ∀ j, q'.M j → q.M j ∨ W.heap.size ≤ j) (hR : Rdk (fun j => ¬ q'.M j ∧ j ≠ b) W' (d'.map Sv.l) A' c' B' k') (hl : d'.sure.length + d'.pend.length ≤ m) :
    Blk W' b 79 (rda (d.map Sv.l) A c B k) ∧ ∀ W2, Wr W' W2 b → Blk W2 b 79 (rda (d'.map Sv.l) A' c' B' k') → PlS w W2 g b m q' d' A' c' B' k' := by
  have hlt := h.blk.lt
  have hap : ¬ q'.M b := fun hq => by
    rcases hM b hq with h1 | h1
    · exact h.ap h1
    · omega
  have hB := (hF.block b hlt h.ap).trans h.blk
  refine ⟨hB, fun W2 hw hB2 => ⟨hg.trans h.g, ?_, hf, ?_, hB2, h.blo, ?_, hap, hl⟩⟩
  · refine hD.frame fun j hj => hw.block j (hD.lt hj) fun e => ?_
    injection e with e
    rw [e] at hj
    rcases hj with hj | ⟨s, hs, hne, hA⟩
    · exact hap hj
    · exact byte_apart hB (hD.rd s hs) hne hA
  · have h1 := h.fro.frd hF hM
    have h2 := h.blo
    exact ⟨h1.1.trans (hw.below h1.1.size h2), h1.2⟩
  · exact hR.sameH (fun _ _ ht => ht) hw.size fun j hj ht => hw.block j hj fun e => ht.2 (by injection e)
end
set_option maxRecDepth 100000 in
set_option maxHeartbeats 1000000 in
theorem opens_walk {A : Option Addr} {c : Nat} {s : List DA} {r : Int} {n : Bs} (w : World) (_hr : I64 r) (h : SlDA w A c s) (hl : dLong s 40 = false) (hnl : n.length ≤ 100) :
    Calls Tryz.prog 6 #[.int .i64 r, .slice A s.length c, .string ⟨n.toArray⟩] w fun e w' => e = .returned (.bool true) ∧ Below w.heap.size w w' := by
  have H := Lib.hid h
  have HSh := Lib.hid (dLong_short hl)
  have hs40 : s.length ≤ 40 := by have := (dLong_short hl).1; omega
  have HLg := fun W (hh : SlDA W A c s) => DLong_any W hh 40
  rw [hl] at HLg
  replace HLg := Lib.hid HLg
  have hsz : (ByteArray.size ⟨n.toArray⟩) = n.length := by simp [ByteArray.size]
  have hnI : (n.length : Int) ≤ 100 := by omega
  have HNG := Lib.hid (fun W => NGet_any n W)
  have HNL := Lib.hid (fun W => NListS_any n W)
  have HNP := Lib.hid (fun W => NPut_any n W)
  have HND := Lib.hid (fun W => NDelete_any n W)
  have HNH := Lib.hid (fun W => NHas_any n W)
  have HIs := fun W => isn_any 4 4 W
  rw [show errv 4 = e4 from rfl, show (((4 : Nat) : Int) == 4) = true from rfl] at HIs
  replace HIs := Lib.hid HIs
  have HN1 := Lib.hid (fun W => SNamed_any n W (by omega))
  have HN2 := Lib.hid (fun W => KSNamed_any n W (by omega))
  generalize snamed n = sn at *
  have hsn : (sn != sn) = false := by simp
  clear h hl
  go_enter Tryz.func6, Tryz.ntmps6
  go_wp2_with fail
  refine (AliveS_any _).mono ?_
  rintro e w1 ⟨rfl, hb1⟩
  go_wp2_with fail
  refine (HLg.out _ (H.out.below hb1)).mono ?_
  rintro e w2 ⟨rfl, hb2⟩
  have hb := bel_call hb1 hb2
  clear hb1 hb2 HLg
  go_wp2_with fail
  refine (HNG.out _).mono ?_
  rintro e w3 ⟨rfl, rfl⟩
  go_wp2_with fail
  refine (HNL.out _).mono ?_
  rintro e w4 ⟨rfl, rfl⟩
  go_wp2_with fail
  refine (HIs.out _).mono ?_
  rintro e w5 ⟨rfl, rfl⟩
  go_wp2_with fail
  refine (HIs.out _).mono ?_
  rintro e w6 ⟨rfl, rfl⟩
  go_wp2_with fail
  refine (HNP.out _).mono ?_
  rintro e w7 ⟨rfl, rfl⟩
  go_wp2_with fail
  refine (HIs.out _).mono ?_
  rintro e w8 ⟨rfl, rfl⟩
  go_wp2_with fail
  refine (HND.out _).mono ?_
  rintro e w9 ⟨rfl, rfl⟩
  go_wp2_with fail
  refine (HIs.out _).mono ?_
  rintro e w10 ⟨rfl, rfl⟩
  go_wp2_with fail
  refine (HNH.out _).mono ?_
  rintro e w11 ⟨rfl, rfl⟩
  go_wp2_with fail
  refine (NDiskS_any _).mono ?_
  rintro e w12 ⟨rfl, rfl⟩
  go_wp2_with fail
  refine (HN1.out _).mono ?_
  rintro e w13 ⟨rfl, hb13⟩
  replace hb := bel_call hb hb13
  clear hb13
  go_wp2_with fail
  refine (HN2.out _).mono ?_
  rintro e w14 ⟨rfl, hb14⟩
  replace hb := bel_call hb hb14
  clear hb14
  go_wp2_with fail
  refine (NOpen_any _).mono ?_
  rintro e w15 ⟨rfl, rfl⟩
  go_wp2_with fail
  refine (HIs.out _).mono ?_
  rintro e w16 ⟨rfl, rfl⟩
  clear HNG HNL HNP HND HNH HIs HN1 HN2 hsn
  go_wp2_with fail
  refine (New_any r _).mono ?_
  rintro e w3 (⟨hro, rfl, hb3⟩ | ⟨hro, q, rfl, hD, hM, hb3⟩)
  · have hN := KNew_any r w3
    have HN := Lib.hid (show Calls Tryz.prog 30 #[.int .i64 r] w3 fun e w' => e = .returned (.tuple #[.agg rdz, .int .i64 1]) ∧ Below w3.heap.size w3 w' from hN.mono fun e w' ⟨h1, h2⟩ => ⟨by rcases h1 with ⟨-, h1⟩ | ⟨h0, -⟩; exact h1; omega, h2⟩)
    have HNm := Lib.hid (fun W => num_any 1 W)
    rw [show errv 1 = Value.iface 68 (.int .i64 1) from rfl] at HNm ⊢
    have hbb := bel_call hb hb3
    clear hN hb hb3 hro
    go_wp2_with fail
    refine HN.out.mono ?_
    rintro e w4 ⟨rfl, hb4⟩
    have hb5 := bel_call hbb hb4
    go_wp2_with fail
    refine (HNm.out _).mono ?_
    rintro e w5 ⟨rfl, rfl⟩
    have HB := Lib.hid (bel_alloc hb5 (.cells rdz 79))
    go_wp2_with fail
    go_ret
    exact ⟨rfl, HB.out⟩
  · have hN := KNew_any r w3
    have HN := Lib.hid (show Calls Tryz.prog 30 #[.int .i64 r] w3 fun e w' => e = .returned (.tuple #[.agg (rda (dk0R r) none 0 none 0), .int .i64 0]) ∧ Below w3.heap.size w3 w' from hN.mono fun e w' ⟨h1, h2⟩ => ⟨by rcases h1 with ⟨h0, -⟩ | ⟨-, h1⟩; omega; exact h1, h2⟩)
    rw [show errv 0 = Value.nilIface from rfl]
    have HF := Lib.hid (show Fro w w3 q from ⟨bel_call hb hb3, fun i hi => Nat.le_trans hb.size (hM i hi)⟩)
    have HD := Lib.hid hD
    clear hN hb hb3 hM hD hro
    go_wp2_with fail
    refine HN.out.mono ?_
    rintro e w4 ⟨rfl, hb4⟩
    have hP : PlS w (w4.alloc (.cells (rda (dk0R r) none 0 none 0) 79)) q.g w4.heap.size 0 q (dk0 r) none 0 none 0 := by
      have hbn := bel_alloc hb4 (.cells (rda (dk0R r) none 0 none 0) 79)
      have hF4 := HF.out.call hb4
      exact ⟨rfl, HD.out.below hbn, ⟨by show -1 ≤ (-1 : Int); omega, by show (-1 : Int) ≤ 9223372036854775807; omega⟩, HF.out.call hbn, Blk.new _ _ _, hF4.1.size, ⟨Sl.none_ _ _, (fun j hj => by cases hj), Sl.none_ _ _, (fun j hj => by cases hj)⟩, fun hq => by have := (HD.out.below hb4).ltM hq; omega, Nat.le_refl _⟩
    have HP := Lib.hid hP
    have HNd := Lib.hid (show Nmd (dk0 r) from ⟨(fun p hp => by cases hp), fun p hp => by cases hp⟩)
    clear HN HF HD hb4 hP
    generalize hgg : q.g = g at *
    unfold rda
    go_wp2_with fail
    generalize w4.heap.size = b at *
    go_loopw [119] (fun x wr => ∃ (i : Nat) (q : Fp) (d : Dk Sv) (E : Option Addr) (n : Nat) (B : Option Addr) (k : Nat), i ≤ s.length ∧ x = .int .i64 i ∧ PlS w wr g b i q d E n B k ∧ Nmd d) (fun x w => s.length - (intOf x).toNat)
    case atStart => exact ⟨0, q, dk0 r, none, 0, none, 0, Nat.zero_le _, rfl, HP.out, HNd.out⟩
    case round =>
      clear HP hgg HNd
      clear q
      obtain ⟨i, q, d, E, n, B, k, hi, rfl, hP, hNd⟩ := hrel
      by_cases hlt : i < s.length
      · have hS := H.out.below hP.fro.1
        obtain ⟨ad, bk, o, hA, had, hcc⟩ := Sl.atS (f := dac) (size := 6) (fun _ => rfl) (by omega) hS.1 hlt
        have hc0 := hcc 0 _ rfl
        have hc1 := hcc 1 _ rfl
        have hc2 := hcc 2 _ rfl
        have hc3 := hcc 3 _ rfl
        have hc4 := hcc 4 _ rfl
        have hc5 := hcc 5 _ rfl
        rw [Nat.add_zero] at hc0
        have hok := hS.2 _ (List.getElem_mem hlt)
        have hok0 := H.out.2 _ (List.getElem_mem hlt)
        have hsh := HSh.out.2 _ (List.getElem_mem hlt)
        clear hcc hS
        generalize s[i] = x at *
        have hb5 := below_new wr (.cells (acta x) 88)
        have hP5 := hP.call hb5
        have HDo := Lib.hid (DoA_any (P := fun j => j ≠ b) (L := w.heap.size) x hP5.dsk hP5.fk hP5.R (fun j hj => by have := hP5.blk.lt; omega) ⟨Sl.below hok.1 hb5, Sl.below hok.2.1 hb5⟩ (fun hne ad hA => SlB.ltB hok0.1 hne hA) (fun hne ad hA => SlZ.ltB hok0.2.1 hne hA) hP5.fro.2 hP5.fro.1.size (by have := hok.2.2.2.1; unfold I64 at this; omega) hsh (by have := hP5.sz; omega))
        have hBx := Blk.new wr 88 (acta x)
        obtain ⟨y0, y1, y2, y3, y4, y5⟩ := hBx.six
        obtain ⟨r0, r1, r2, r3, r4, -⟩ := hP5.blk.fiveC
        rw [hP5.g] at HDo
        have HP5 := Lib.hid hP5
        have HNd := Lib.hid hNd
        subst hA
        clear hok hok0 hsh hb5 hP hP5 hBx hNd
        unfold acta at *
        go_wp2_with fail
        refine HDo.out.mono ?_
        clear HDo y0 y1 y2 y3 y4 y5 r0 r1 r2 r3 r4
        rintro e w6 ⟨q6, d6, A6, c6, B6, k6, rfl, hg6, hD6, hf6, hF6, hM6, hR6, hl6, hn6⟩
        have hP6 := HP5.out.next (by rw [hg6, HP5.out.g]) hD6 hf6 hF6 hM6 hR6 hl6
        obtain ⟨hB6, hN6⟩ := hP6
        obtain ⟨r0, r1, r2, r3, r4, rf0, rf1, rf2, rf3, rf4⟩ := hB6.fiveC
        have HN6 := Lib.hid hN6
        have HB6 := Lib.hid hB6
        have HNd6 := Lib.hid (hn6 HNd.out)
        have hbl := hB6.lt
        clear hN6 hB6 hD6 hf6 hF6 hM6 hR6 hl6 HP5 hn6 HNd
        unfold rda
        go_wp2_with fail
        go_roundw
        case rel => exact ⟨i + 1, q6, d6, A6, c6, B6, k6, hlt, by go_num, (HN6.out _ ((((((Wr.refl _ _).set_ 0 _).set_ 1 _).set_ 2 _).set_ 3 _).set_ 4 _) (HB6.out.st5 _ _ _ _ _)).call (below_new _ _), HNd6.out⟩
        case measure => simp [intOf]; omega
      · have hI : (s.length : Int) ≤ (i : Int) := by omega
        have hOp := SOpen_any hP.dsk hP.fk (by have := hP.sz; omega)
        rw [hP.g] at hOp
        have HOp := Lib.hid hOp
        have HP := Lib.hid hP
        have HNd := Lib.hid hNd
        clear hOp hP hNd
        go_wp2_with fail
        refine HOp.out.mono ?_
        rintro e w6 hOO
        obtain ⟨q6, hg6, hD6, hF6, hM6, -, h0⟩ := hOO
        clear HOp
        have hR6 : Rdk (fun j => ¬ q6.M j ∧ j ≠ b) w6 (d.map Sv.l) E n B k := HP.out.R.sameH (fun j hj ht => ⟨fun h2 => by
          rcases hM6 j h2 with h3 | h3
          · exact ht.1 h3
          · omega, ht.2⟩) hF6.size fun j hj ht => hF6.block j hj ht.1
        have hB6 : Blk w6 b 79 (rda (d.map Sv.l) E n B k) := (hF6.block _ HP.out.blk.lt HP.out.ap).trans HP.out.blk
        have hup : ∀ j, w6.heap.size ≤ j → ¬ q6.M j ∧ j ≠ b := fun j hj => ⟨fun h2 => by have := hD6.ltM h2; omega, by have := hB6.lt; omega⟩
        have hK := KSOpen_any (d.map Sv.l) w6 hup hR6 (by rw [len_mapD]; have := HP.out.sz; omega) HP.out.fk.2 HNd.out.mapD
        rw [sOpen_map] at hK
        have hlen := sOpen_len2 Sv.nil d
        have hfk := HP.out.fk.open_
        generalize sOpen Sv.nil d = rr at *
        obtain ⟨d6, n6⟩ := rr
        dsimp only at hK hlen hfk hD6 h0
        have HK := Lib.hid hK
        have HLn := Lib.hid (show d6.sure.length + d6.pend.length ≤ 100 from by have := HP.out.sz; omega)
        have HFk := Lib.hid hfk
        have HG6 := Lib.hid hg6
        have HD6 := Lib.hid hD6
        have HF6 := Lib.hid hF6
        have HM6 := Lib.hid hM6
        have HB6 := Lib.hid hB6
        obtain ⟨r0, r1, r2, r3, r4, -⟩ := hB6.fiveC
        have HNm := Lib.hid (fun W => num_any n6 W)
        clear hK hlen hfk hg6 hD6 hF6 hM6 hR6 hB6 hup HNd
        rcases h0 with ⟨rfl, gs, rfl, -, -⟩ | ⟨h0, rfl⟩
        · rw [show errv 0 = Value.nilIface from rfl] at HNm
          go_wp2_with fail
          refine HK.out.mono ?_
          clear HK
          rintro e w7 ⟨A7, c7, B7, k7, rfl, hR7, hb7⟩
          have hN := (HP.out.next2 (m := 100) HG6.out (HD6.out.below hb7) HFk.out (HF6.out.trans (Frd.of_below (q := q6) hb7) HM6.out) (fun j hj => HM6.out j hj) hR7 HLn.out).2
          have hB7 := HB6.out.below hb7
          clear r0 r1 r2 r3 r4
          obtain ⟨r0, r1, r2, r3, r4, rf0, rf1, rf2, rf3, rf4⟩ := hB7.fiveC
          have HN := Lib.hid hN
          have HB7 := Lib.hid hB7
          clear hN hB7 hR7 hb7 HP HB6 HD6 HF6 HM6
          unfold rda
          go_upto_region 27 with (fail)
          refine gen1 (T := fun W => PlS w W g b 100 q6 d6 A7 c7 B7 k7) (HN.out _ ((((((Wr.refl _ _).set_ 0 _).set_ 1 _).set_ 2 _).set_ 3 _).set_ 4 _) (HB7.out.st5 _ _ _ _ _)) (fun w8 hP8 => ?_)
          clear r0 r1 r2 r3 r4 rf0 rf1 rf2 rf3 rf4 HN HB7
          obtain ⟨r0, r1, r2, r3, r4, -⟩ := hP8.blk.fiveC
          have hSh := Shows_any hP8.dsk hP8.R (by have := hP8.sz; omega)
          rw [hP8.g] at hSh
          have HSh := Lib.hid hSh
          have HB8 := Lib.hid hP8.fro.1
          clear hSh hP8
          go_wp2_with fail
          refine (HNm.out _).mono ?_
          rintro e w9 ⟨rfl, rfl⟩
          go_wp2_with fail
          refine HSh.out.mono ?_
          rintro e w10 ⟨rfl, hb10⟩
          have HB10 := Lib.hid (bel_call HB8.out hb10)
          clear hb10
          go_wp2_with fail
          go_ret
          exact ⟨rfl, HB10.out⟩
        · have h1 : ¬ (n6 : Int) = 0 := by omega
          have hz : ((n6 : Int) != 0) = true := by simpa using h1
          have hbe : ((n6 : Int) == (n6 : Int)) = true := by simp
          clear h0 h1
          generalize errv n6 = ev at *
          go_wp2_with fail
          refine HK.out.mono ?_
          clear HK
          rintro e w7 ⟨A7, c7, B7, k7, rfl, hR7, hb7⟩
          have hN := (HP.out.next2 (m := 100) HG6.out (HD6.out.below hb7) HFk.out (HF6.out.trans (Frd.of_below (q := q6) hb7) HM6.out) (fun j hj => HM6.out j hj) hR7 HLn.out).2
          have hB7 := HB6.out.below hb7
          clear r0 r1 r2 r3 r4
          obtain ⟨r0, r1, r2, r3, r4, rf0, rf1, rf2, rf3, rf4⟩ := hB7.fiveC
          have HN := Lib.hid hN
          have HB7 := Lib.hid hB7
          clear hN hB7 hR7 hb7 HP HB6 HD6 HF6 HM6
          unfold rda
          go_upto_region 27 with (fail)
          refine gen1 (T := fun W => PlS w W g b 100 q6 d6 A7 c7 B7 k7) (HN.out _ ((((((Wr.refl _ _).set_ 0 _).set_ 1 _).set_ 2 _).set_ 3 _).set_ 4 _) (HB7.out.st5 _ _ _ _ _)) (fun w8 hP8 => ?_)
          clear r0 r1 r2 r3 r4 rf0 rf1 rf2 rf3 rf4 HN HB7
          obtain ⟨r0, r1, r2, r3, r4, -⟩ := hP8.blk.fiveC
          have hSh := Shows_any hP8.dsk hP8.R (by have := hP8.sz; omega)
          rw [hP8.g] at hSh
          have HSh := Lib.hid hSh
          have HB8 := Lib.hid hP8.fro.1
          clear hSh hP8
          go_wp2_with fail
          refine (HNm.out _).mono ?_
          rintro e w9 ⟨rfl, rfl⟩
          go_wp2_with fail
          refine HSh.out.mono ?_
          rintro e w10 ⟨rfl, hb10⟩
          have HB10 := Lib.hid (bel_call HB8.out hb10)
          clear hb10
          go_wp2_with fail
          go_ret
          exact ⟨rfl, HB10.out⟩
set_option maxRecDepth 100000 in
set_option maxHeartbeats 1000000 in
theorem opens_all {A : Option Addr} {c : Nat} {s : List DA} {r : Int} {n : Bs} (w : World) (hr : I64 r) (h : SlDA w A c s) (_hn : n.length ≤ maxLen) :
    Calls Tryz.prog 6 #[.int .i64 r, .slice A s.length c, .string ⟨n.toArray⟩] w fun e w' => e = .returned (.bool true) ∧ Below w.heap.size w w' := by
  have hsz : (ByteArray.size ⟨n.toArray⟩) = n.length := by simp [ByteArray.size]
  rcases hlg : dLong s 40 with _ | _
  · rcases Nat.lt_or_ge 100 n.length with hnl | hnl
    · have hI : (100 : Int) < (n.length : Int) := by omega
      have H := Lib.hid h
      have HLg := fun W (hh : SlDA W A c s) => DLong_any W hh 40
      rw [hlg] at HLg
      replace HLg := Lib.hid HLg
      clear h hlg hnl
      go_enter Tryz.func6, Tryz.ntmps6
      go_wp2_with fail
      refine (AliveS_any _).mono ?_
      rintro e w1 ⟨rfl, hb1⟩
      go_wp2_with fail
      refine (HLg.out _ (H.out.below hb1)).mono ?_
      rintro e w2 ⟨rfl, hb2⟩
      have hb := bel_call hb1 hb2
      go_wp2_with fail
      go_ret
      exact ⟨rfl, hb⟩
    · exact opens_walk w hr h hlg hnl
  · have H := Lib.hid h
    have HLg := fun W (hh : SlDA W A c s) => DLong_any W hh 40
    rw [hlg] at HLg
    replace HLg := Lib.hid HLg
    clear h hlg
    go_enter Tryz.func6, Tryz.ntmps6
    go_wp2_with fail
    refine (AliveS_any _).mono ?_
    rintro e w1 ⟨rfl, hb1⟩
    go_wp2_with fail
    refine (HLg.out _ (H.out.below hb1)).mono ?_
    rintro e w2 ⟨rfl, hb2⟩
    have hb := bel_call hb1 hb2
    go_wp2_with fail
    go_ret
    exact ⟨rfl, hb⟩
end Go.Proofs.YtnndlmkcckgkhaaGreatDoor
