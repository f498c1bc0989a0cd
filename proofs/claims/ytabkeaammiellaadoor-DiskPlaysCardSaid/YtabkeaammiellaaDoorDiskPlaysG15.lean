/- WHAT IT HOLDS: which scripts of a disk's acts are long, walked. | WHAT IT HOLDS: a file of a disk named anew, walked. | WHAT IT HOLDS: the law DiskFuses, walked. | WHAT IT HOLDS: the law DiskSyncs, walked. | WHAT IT HOLDS: what a disk keeps of files that no change names, plainly; maps beside a disk in memory. | WHAT IT HOLDS: the document's disk: a file written, walked. -/
import Derived.Test.YtabkeaammiellaaDoorDiskPlaysG10
import Derived.Test.YtabkeaammiellaaDoorDiskPlaysG14
import Derived.Test.YtabkeaammiellaaDoorDiskPlaysG06
import Derived.Test.YtabkeaammiellaaDoorDiskPlaysG09
namespace Go.Proofs.YtabkeaammiellaaDoor
open Go.RowKit Go.Maps Go.Sort
attribute [local go_sem ↓] Go.wp_at_zero Go.wp_at_succ

def DA.long (a : DA) : Bool := decide (60 < a.n.length) || decide (60 < a.t.length) || decide (60 < a.ks.length) || decide (300 < a.l.length ∧ a.l.length ≤ 65536) || decide (66000 < a.l.length)
def dLong (s : List DA) (most : Int) : Bool := s.any DA.long || decide (most < s.length)
theorem dLong_at {s : List DA} {most : Int} {k : Nat} (hk : k < s.length) (h : s[k].long = true) : dLong s most = true := by
  unfold dLong
  rw [List.any_eq_true.2 ⟨s[k], List.getElem_mem hk, h⟩]
  rfl
theorem dLong_none {s : List DA} {most : Int} (h : ∀ i (hi : i < s.length), s[i].long = false) : dLong s most = decide (most < s.length) := by
  unfold dLong
  rw [List.any_eq_false.2 fun x hx => by
    obtain ⟨i, hi, rfl⟩ := List.getElem_of_mem hx
    simp [h i hi]]
  rfl
theorem DA.short {a : DA} (h : a.long = false) : a.n.length ≤ 60 ∧ a.t.length ≤ 60 ∧ a.ks.length ≤ 60 ∧ a.l.length ≤ 66000 ∧ (a.l.length ≤ 300 ∨ 65536 < a.l.length) := by
  unfold DA.long at h
  simp only [Bool.or_eq_false_iff, decide_eq_false_iff_not] at h
  omega
theorem dLong_short {s : List DA} {most : Int} (h : dLong s most = false) : (s.length : Int) ≤ most ∧ ∀ a ∈ s, a.long = false := by
  unfold dLong at h
  simp only [Bool.or_eq_false_iff, decide_eq_false_iff_not] at h
  refine ⟨by omega, fun a ha => ?_⟩
  have := List.any_eq_false.1 h.1 a ha
  simpa using this
set_option maxRecDepth 100000 in
set_option maxHeartbeats 1000000 in
theorem DLong_any {A : Option Addr} {c : Nat} {s : List DA} (w : World) (h : SlDA w A c s) (most : Int) : Calls Tryd.prog 9 #[.slice A s.length c, .int .i64 most] w fun e w' => e = .returned (.bool (dLong s most)) ∧ Below w.heap.size w w' := by
  have hsl : s.length ≤ maxLen := Nat.le_trans h.1.2.1 h.1.2.2.1
  unfold maxLen at hsl
  have H := Lib.hid h
  clear h
  go_enter Tryd.func9, Tryd.ntmps9
  go_wp2_with fail
  go_loopw [9] (fun x wr => ∃ k : Nat, k ≤ s.length ∧ x = .int .i64 k ∧ (∀ i (hi : i < s.length), i < k → s[i].long = false) ∧ Below w.heap.size w wr) (fun x w => s.length - (intOf x).toNat)
  case atStart => exact ⟨0, Nat.zero_le _, rfl, (fun i _ hi => by omega), Below.refl _ _⟩
  case round =>
    obtain ⟨k, hk, rfl, hno, hb⟩ := hrel
    by_cases hlt : k < s.length
    · have hS := H.out.below hb
      obtain ⟨ad, b, o, hA, had, hcc⟩ := Sl.atS (f := dac) (size := 6) (fun _ => rfl) (by omega) hS.1 hlt
      have hc0 := hcc 0 _ rfl
      have hc1 := hcc 1 _ rfl
      have hc2 := hcc 2 _ rfl
      have hc3 := hcc 3 _ rfl
      have hc4 := hcc 4 _ rfl
      have hc5 := hcc 5 _ rfl
      rw [Nat.add_zero] at hc0
      have hok := hS.2 _ (List.getElem_mem hlt)
      clear hcc hS
      generalize hx : s[k] = x at *
      obtain ⟨kd, nm, tt, A1, c1, l1, ff, B1, kc, ks⟩ := x
      obtain ⟨q1, q2, -, -, q5, q6⟩ := hok
      have q7 : l1.length ≤ maxLen := Nat.le_trans q1.2.1 q1.2.2.1
      have q8 : ks.length ≤ maxLen := Nat.le_trans q2.2.1 q2.2.2.1
      clear q1 q2
      dsimp only at *
      unfold maxLen at *
      rw [hA] at *
      clear hA
      have hbn := bel_alloc hb (.cells #[.int .i64 kd, .string ⟨nm.toArray⟩, .string ⟨tt.toArray⟩, .slice A1 l1.length c1, .int .i64 ff, .slice B1 ks.length kc] 40)
      rcases Nat.lt_or_ge 60 nm.length with g1 | g1
      · have i1 : (60 : Int) < (nm.length : Int) := by omega
        have HE := Lib.hid (dLong_at (most := most) hlt (by rw [hx]; unfold DA.long; simp; omega))
        clear hno hx
        go_wp2_with fail
        go_ret
        exact ⟨by rw [HE.out]; rfl, hbn⟩
      have i1 : (nm.length : Int) ≤ 60 := by omega
      rcases Nat.lt_or_ge 60 tt.length with g2 | g2
      · have i2 : (60 : Int) < (tt.length : Int) := by omega
        have HE := Lib.hid (dLong_at (most := most) hlt (by rw [hx]; unfold DA.long; simp; omega))
        clear hno hx
        go_wp2_with fail
        go_ret
        exact ⟨by rw [HE.out]; rfl, hbn⟩
      have i2 : (tt.length : Int) ≤ 60 := by omega
      rcases Nat.lt_or_ge 60 ks.length with g3 | g3
      · have i3 : (60 : Int) < (ks.length : Int) := by omega
        have HE := Lib.hid (dLong_at (most := most) hlt (by rw [hx]; unfold DA.long; simp; omega))
        clear hno hx
        go_wp2_with fail
        go_ret
        exact ⟨by rw [HE.out]; rfl, hbn⟩
      have i3 : (ks.length : Int) ≤ 60 := by omega
      rcases Nat.lt_or_ge 300 l1.length with g4 | g4
      · have i4 : (300 : Int) < (l1.length : Int) := by omega
        rcases Nat.lt_or_ge 65536 l1.length with g5 | g5
        · have i5 : (65536 : Int) < (l1.length : Int) := by omega
          rcases Nat.lt_or_ge 66000 l1.length with g6 | g6
          · have i6 : (66000 : Int) < (l1.length : Int) := by omega
            have HE := Lib.hid (dLong_at (most := most) hlt (by rw [hx]; unfold DA.long; simp; omega))
            clear hno hx
            go_wp2_with fail
            go_ret
            exact ⟨by rw [HE.out]; rfl, hbn⟩
          · have i6 : (l1.length : Int) ≤ 66000 := by omega
            have hno2 := Lib.hid (show ∀ i (hi : i < s.length), i < k + 1 → s[i].long = false from fun i hi hi2 => by
              rcases Nat.lt_or_ge i k with h1 | h1
              · exact hno i hi h1
              · obtain rfl : i = k := by omega
                rw [hx]; unfold DA.long; simp; omega)
            clear hno hx
            go_wp2_with fail
            go_roundw
            case rel => exact ⟨k + 1, hlt, rfl, hno2.out, hbn⟩
            case measure => simp [intOf]; omega
        · have i5 : (l1.length : Int) ≤ 65536 := by omega
          have HE := Lib.hid (dLong_at (most := most) hlt (by rw [hx]; unfold DA.long; simp; omega))
          clear hno hx
          go_wp2_with fail
          go_ret
          exact ⟨by rw [HE.out]; rfl, hbn⟩
      · have i4 : (l1.length : Int) ≤ 300 := by omega
        have i6 : (l1.length : Int) ≤ 66000 := by omega
        have hno2 := Lib.hid (show ∀ i (hi : i < s.length), i < k + 1 → s[i].long = false from fun i hi hi2 => by
          rcases Nat.lt_or_ge i k with h1 | h1
          · exact hno i hi h1
          · obtain rfl : i = k := by omega
            rw [hx]; unfold DA.long; simp; omega)
        clear hno hx
        go_wp2_with fail
        go_roundw
        case rel => exact ⟨k + 1, hlt, rfl, hno2.out, hbn⟩
        case measure => simp [intOf]; omega
    · have hke : k = s.length := by omega
      have HE := Lib.hid (dLong_none (most := most) fun i hi => hno i hi (by omega))
      subst hke
      clear hno
      go_wp2_with fail
      go_ret
      exact ⟨by rw [HE.out]; rfl, hb⟩
end Go.Proofs.YtabkeaammiellaaDoor

namespace Go.Proofs.YtabkeaammiellaaDoor
open Go.RowKit Go.Maps Go.Sort
attribute [local go_sem ↓] Go.wp_at_zero Go.wp_at_succ

set_option maxRecDepth 100000 in
set_option maxHeartbeats 1000000 in
theorem Rename_any {w : World} {q : Fp} {d : Dk Sv} (h : Dsk w q d) (hf : -1 ≤ d.fuse ∧ d.fuse ≤ 9223372036854775807) (hp : d.pend.length ≤ 1000000) (hL : d.shown.length ≤ 100000000) (n t : Bs) (hn : n.length ≤ 100000000) (ht : t.length ≤ 100000000) :
    Calls Tryd.prog 14 #[.pointer (some ⟨q.g, 0, none⟩), .string ⟨n.toArray⟩, .string ⟨t.toArray⟩] w fun e w' => e = .returned (errv (dRename Sv.nil d n t).2) ∧ Dgo w q d (dRename Sv.nil d n t).1 w' := by
  have hW := Works_any h hf
  obtain ⟨s1, s2, s3, s4⟩ := dWorks_same d
  have hR : dRename Sv.nil d n t = if (dWorks d).2 ≠ 0 then dWorks d else if named n = false ∨ named t = false then ((dWorks d).1, 2) else if (gget n d.shown).isNone = true then ((dWorks d).1, 4) else (dAdd (dWorks d).1 ⟨1, n, t, Sv.nil⟩, 0) := rfl
  generalize dWorks d = dw at *
  obtain ⟨d1, k⟩ := dw
  dsimp only at *
  have hsh : d1.shown = d.shown := by unfold Dk.shown; rw [s1, s2]
  clear h hf
  rcases s4 with rfl | rfl
  · rw [if_neg (by simp)] at hR
    rw [show errv 0 = Value.nilIface from rfl] at hW
    have HW := Lib.hid hW
    clear hW
    go_enter Tryd.func14, Tryd.ntmps14
    go_wp2_with fail
    refine HW.out.mono ?_
    rintro e w1 ⟨rfl, hD1, hw1⟩
    have hF1 : Frd q w w1 := Frd.of_wr (.inl rfl) hw1
    go_wp2_with fail
    refine (Named_any n w1 (by omega)).mono ?_
    rintro e w2 ⟨rfl, hb2⟩
    have hD2 := hD1.below hb2
    have hF2 : Frd q w w2 := hF1.trans (Frd.of_below (q := q) hb2) fun i hi => .inl hi
    cases hnm : named n
    · have HR := Lib.hid (show dRename Sv.nil d n t = (d1, 2) from by rw [hR, if_pos (.inl hnm)])
      clear hR hnm
      go_wp2_with fail
      go_ret
      exact ⟨by rw [HR.out]; rfl, by rw [HR.out]; exact Dgo.of hD2 hF2 s1 s2⟩
    go_wp2_with fail
    refine (Named_any t w2 (by omega)).mono ?_
    rintro e w3 ⟨rfl, hb3⟩
    replace hD2 := hD2.below hb3
    replace hF2 : Frd q w w3 := hF2.trans (Frd.of_below (q := q) hb3) fun i hi => .inl hi
    cases hnt : named t
    · have HR := Lib.hid (show dRename Sv.nil d n t = (d1, 2) from by rw [hR, if_pos (.inr hnt)])
      clear hR hnm hnt
      go_wp2_with fail
      go_ret
      exact ⟨by rw [HR.out]; rfl, by rw [HR.out]; exact Dgo.of hD2 hF2 s1 s2⟩
    rw [if_neg (by simp [hnm, hnt])] at hR
    have hlk := hD2.shown.look (T := 79) (E := 33) Tryd.underlying9 Tryd.underlying79 (zero_bs _) (k := n) (by unfold maxLen; omega)
    rw [hsh] at hlk
    obtain ⟨a0, a1, a2, -⟩ := hD2.six
    cases hgt : gget n d.shown with
    | none =>
      rw [hgt] at hlk
      have HR := Lib.hid (show dRename Sv.nil d n t = (d1, 4) from by rw [hR, hgt]; rfl)
      clear hR hgt
      go_wp2_with fail
      go_ret
      exact ⟨by rw [HR.out]; rfl, by rw [HR.out]; exact Dgo.of hD2 hF2 s1 s2⟩
    | some u =>
      rw [hgt] at hlk
      dsimp only [Option.map_some, Option.getD_some, Option.isSome_some] at hlk
      have HR := Lib.hid (show dRename Sv.nil d n t = (dAdd d1 ⟨1, n, t, Sv.nil⟩, 0) from by rw [hR, hgt]; rfl)
      clear hR hgt
      go_wp2_with fail
      refine (Add_any (x := ⟨1, n, t, Sv.nil⟩) hD2 (by rw [s2]; omega) (by rw [hsh]; omega) (named_len hnm) (named_len hnt)).mono ?_
      rintro e w4 ⟨rfl, hG⟩
      have hE := (Dgo.add hD2 (named_len hnm) (named_len hnt) hG).next hF2 s1 s2
      clear hlk a0 a1 a2
      go_wp2_with fail
      go_ret
      exact ⟨by rw [HR.out]; rfl, by rw [HR.out]; exact hE⟩
  · have HR := Lib.hid (show dRename Sv.nil d n t = (d1, 14) from by rw [hR, if_pos (by simp)])
    rw [show errv 14 = Value.iface 64 (.int .i64 14) from rfl] at hW
    have HW := Lib.hid hW
    clear hW hR
    go_enter Tryd.func14, Tryd.ntmps14
    go_wp2_with fail
    refine HW.out.mono ?_
    rintro e w1 ⟨rfl, hD1, hw1⟩
    go_wp2_with fail
    go_ret
    exact ⟨by rw [HR.out]; rfl, by rw [HR.out]; exact Dgo.of hD1 (Frd.of_wr (.inl rfl) hw1) s1 s2⟩
end Go.Proofs.YtabkeaammiellaaDoor

namespace Go.Proofs.YtabkeaammiellaaDoor
open Go.RowKit Go.Maps Go.Sort
attribute [local go_sem ↓] Go.wp_at_zero Go.wp_at_succ

theorem SlB.ltB {w : World} {A : Option Addr} {c : Nat} {l : Bs} (h : SlB w A c l) (hne : l ≠ []) {ad : Addr} (hA : A = some ad) : ad.block < w.heap.size := by
  obtain ⟨ad', e, hc⟩ := Sl.at1 (f := bv) (l := l) h (k := 0) (List.length_pos_iff.2 hne)
  rw [hA] at e
  injection e with e
  subst e
  have := World.block_lt_of_cell? _ _ hc
  rwa [addr_add_block] at this
theorem SlZ.ltB {w : World} {B : Option Addr} {kc : Nat} {ks : List Bool} (h : SlZ w B kc ks) (hne : ks ≠ []) {ad : Addr} (hA : B = some ad) : ad.block < w.heap.size := by
  have hl : 0 < ks.length := List.length_pos_iff.2 hne
  obtain ⟨ad', e, hc⟩ := h.2.2.2.2 0 _ (by rw [List.getElem?_map, List.getElem?_eq_getElem hl]; rfl)
  rw [hA] at e
  injection e with e
  subst e
  have := World.block_lt_of_cell? _ _ hc
  rwa [addr_add_block] at this
/-- a kind's remainder by 4 -/
theorem kind4 (k : Int) : (IntKind.u64.wrap k).tmod 4 = 0 ∨ (IntKind.u64.wrap k).tmod 4 = 1 ∨ (IntKind.u64.wrap k).tmod 4 = 2 ∨ (IntKind.u64.wrap k).tmod 4 = 3 := by
  have h : IntKind.u64.wrap k = k % 18446744073709551616 := rfl
  rw [h, Int.tmod_eq_emod_of_nonneg (by omega)]
  omega
/-- what has been done behind k acts -/
def Dn (n : Int) (k : Nat) (dn : Int) : Prop := (k : Int) ≤ n ∧ dn = k ∨ n < k ∧ dn = n
end Go.Proofs.YtabkeaammiellaaDoor

namespace Go.Proofs.YtabkeaammiellaaDoor
open Go.RowKit Go.Maps Go.Sort
attribute [local go_sem ↓] Go.wp_at_zero Go.wp_at_succ

section
variable {α : Type}
/-- a disk that is up, without a fuse -/
def Fre (d : Dk α) : Prop := d.fuse = -1 ∧ d.down = false
theorem dWorks_fre {d : Dk α} (h : Fre d) : dWorks d = (d, 0) := by
  unfold dWorks
  rw [if_neg (by rw [h.2]; simp), if_neg (by rw [h.1]; decide), if_neg (by rw [h.1]; decide)]
theorem Fre.opd {d : Dk α} {r : Dk α × Nat} (h : Fre d) (ho : Opd d r) : Fre r.1 := by
  obtain ⟨-, h2, h3, -⟩ := ho
  rw [dWorks_fre h] at h2 h3
  exact ⟨h2.trans h.1, h3.trans h.2⟩
theorem dSync_fre {d : Dk α} (h : Fre d) : (dSync d).2 = 0 ∧ (dSync d).1.sure = d.shown ∧ (dSync d).1.pend = [] ∧ Fre (dSync d).1 := by
  have e : dSync d = ({ d with sure := d.shown, pend := [] }, 0) := by
    unfold dSync
    rw [dWorks_fre h, if_neg (by simp)]
  rw [e]
  exact ⟨rfl, rfl, rfl, h⟩
theorem shown_nil {d : Dk α} (h : d.pend = []) : d.shown = d.sure := by
  unfold Dk.shown
  rw [h]
  rfl
theorem kept_non (keep : List Bool) : kept keep ([] : List (Chg α)) = [] := by
  unfold kept
  rfl
theorem dCut_nil {d : Dk α} (keep : List Bool) (h : d.pend = []) : (dCut keep d).sure = d.sure ∧ (dCut keep d).pend = [] ∧ (dCut keep d).down = true := by
  unfold dCut
  rw [h, kept_non]
  exact ⟨rfl, rfl, rfl⟩
theorem dStart_up2 {d : Dk α} (hp : d.pend = []) : (dStart d).sure = d.sure ∧ (dStart d).pend = [] ∧ Fre (dStart d) := by
  unfold dStart
  cases hd : d.down
  · exact ⟨rfl, hp, rfl, rfl⟩
  · exact ⟨rfl, rfl, rfl, rfl⟩
end
theorem kind3 (k : Int) : (IntKind.u64.wrap k).tmod 3 = 0 ∨ (IntKind.u64.wrap k).tmod 3 = 1 ∨ (IntKind.u64.wrap k).tmod 3 = 2 := by
  have h : IntKind.u64.wrap k = k % 18446744073709551616 := rfl
  rw [h, Int.tmod_eq_emod_of_nonneg (by omega)]
  omega
theorem DList_up {w : World} {q : Fp} {d : Dk Sv} (h : Dsk w q d) (hd : Fre d) (hL : d.shown.length ≤ 100000000) : Calls Tryd.prog 18 #[.pointer (some ⟨q.g, 0, none⟩)] w fun e w' => ∃ A c m, e = .returned (.tuple #[.slice A (List.length m) c, .nilIface]) ∧ Hid (m = names d.shown) ∧ TxH q w' A c m ∧ Below w.heap.size w w' := by
  refine (DList_any h hL).mono ?_
  rintro e w1 ⟨A, c, m, rfl, hm, ho, hb⟩
  rw [hd.2] at hm ⊢
  exact ⟨A, c, m, rfl, hm, TxH.of h ho, hb⟩
theorem names_gmap {r l : List (Bs × Sv)} (h : gmap Sv.l r = gmap Sv.l l) : names r = names l := by
  have := congrArg (List.map (·.1)) h
  unfold gmap at this
  rw [List.map_map, List.map_map] at this
  exact this
theorem gmap_at {r l : List (Bs × Sv)} (h : gmap Sv.l r = gmap Sv.l l) {k : Nat} (hk : k < r.length) (hk2 : k < l.length) : r[k].1 = l[k].1 ∧ r[k].2.l = l[k].2.l := by
  have h1 : (gmap Sv.l r)[k]? = (gmap Sv.l l)[k]? := by rw [h]
  unfold gmap at h1
  rw [List.getElem?_map, List.getElem?_map, List.getElem?_eq_getElem hk, List.getElem?_eq_getElem hk2] at h1
  simp only [Option.map_some, Option.some.injEq, Prod.mk.injEq] at h1
  exact h1
end Go.Proofs.YtabkeaammiellaaDoor

namespace Go.Proofs.YtabkeaammiellaaDoor
open Go.RowKit Go.Maps Go.Sort
attribute [local go_sem ↓] Go.wp_at_zero Go.wp_at_succ

section
variable {α : Type}
theorem dWrite_fre {len : α → Nat} {d : Dk α} (h : Fre d) (n : Bs) (v : α) : (dWrite len d n v).2 = 0 ∧ (dWrite len d n v).1 = dAdd d ⟨0, n, [], v⟩ ∨ (dWrite len d n v).2 ≠ 0 ∧ (dWrite len d n v).1 = d := by
  unfold dWrite
  rw [dWorks_fre h, if_neg (by simp)]
  split
  · exact .inr ⟨by simp, rfl⟩
  · split
    · exact .inr ⟨by simp, rfl⟩
    · split
      · exact .inr ⟨by simp, rfl⟩
      · exact .inl ⟨rfl, rfl⟩
theorem dRename_fre {z : α} {d : Dk α} (h : Fre d) (n t : Bs) : (dRename z d n t).2 = 0 ∧ (dRename z d n t).1 = dAdd d ⟨1, n, t, z⟩ ∨ (dRename z d n t).2 ≠ 0 ∧ (dRename z d n t).1 = d := by
  unfold dRename
  rw [dWorks_fre h, if_neg (by simp)]
  split
  · exact .inr ⟨by simp, rfl⟩
  · split
    · exact .inr ⟨by simp, rfl⟩
    · exact .inl ⟨rfl, rfl⟩
theorem dRemove_fre {z : α} {d : Dk α} (h : Fre d) (n : Bs) : (dRemove z d n).2 = 0 ∧ (dRemove z d n).1 = dAdd d ⟨2, n, [], z⟩ ∨ (dRemove z d n).2 ≠ 0 ∧ (dRemove z d n).1 = d := by
  unfold dRemove
  rw [dWorks_fre h, if_neg (by simp)]
  split
  · exact .inr ⟨by simp, rfl⟩
  · split
    · exact .inr ⟨by simp, rfl⟩
    · exact .inl ⟨rfl, rfl⟩
theorem shown_add (d : Dk α) (c : Chg α) : (dAdd d c).shown = fdo d.shown c := fdos_snoc _ _ _
theorem shown_write (d : Dk α) (n : Bs) (v : α) : (dAdd d ⟨0, n, [], v⟩).shown = gput n v d.shown := by
  rw [shown_add]
  exact fdo_w rfl
/-- a change of other files -/
theorem fdo_off {l : List (Bs × α)} {c : Chg α} {x : Bs} (h1 : x ≠ c.name) (h2 : c.kind = 1 → x ≠ c.to) : gget x (fdo l c) = gget x l := by
  unfold fdo
  split
  · exact gget_put_other _ h1 _
  · split
    · rfl
    · split
      · rename_i h3
        rw [gget_put_other _ (h2 h3), gget_del_other h1]
      · exact gget_del_other h1 _
theorem fdos_off {cs : List (Chg α)} {x : Bs} : ∀ {l : List (Bs × α)}, (∀ c ∈ cs, x ≠ c.name ∧ (c.kind = 1 → x ≠ c.to)) → gget x (fdos l cs) = gget x l := by
  induction cs with
  | nil => exact fun _ => rfl
  | cons c r ih =>
    intro l h
    have h0 := h c (List.mem_cons_self ..)
    have h1 := ih (l := fdo l c) fun y hy => h y (List.mem_cons_of_mem _ hy)
    show gget x (fdos (fdo l c) r) = _
    rw [h1, fdo_off h0.1 h0.2]
/-- all changes are of names that are told -/
def Cov (lt : List (Bs × Unit)) (cs : List (Chg α)) : Prop := ∀ c ∈ cs, (gget c.name lt).isSome = true ∧ (c.kind = 1 → (gget c.to lt).isSome = true)
theorem Cov.nil (lt : List (Bs × Unit)) : Cov lt ([] : List (Chg α)) := fun c hc => by simp at hc
theorem gget_more {lt : List (Bs × Unit)} {x y : Bs} (h : (gget y lt).isSome = true) : (gget y (gput x () lt)).isSome = true := by
  by_cases e : y = x
  · subst e
    rw [gget_put_same]
    rfl
  · rw [gget_put_other _ e]
    exact h
theorem gget_here (lt : List (Bs × Unit)) (x : Bs) : (gget x (gput x () lt)).isSome = true := by rw [gget_put_same]; rfl
theorem Cov.more {lt lt' : List (Bs × Unit)} {cs : List (Chg α)} (h : Cov lt cs) (hl : ∀ y, (gget y lt).isSome = true → (gget y lt').isSome = true) : Cov lt' cs := fun c hc => ⟨hl _ (h c hc).1, fun hk => hl _ ((h c hc).2 hk)⟩
theorem Cov.add {lt : List (Bs × Unit)} {cs : List (Chg α)} {c : Chg α} (h : Cov lt cs) (h1 : (gget c.name lt).isSome = true) (h2 : c.kind = 1 → (gget c.to lt).isSome = true) : Cov lt (cs ++ [c]) := fun y hy => by
  rcases List.mem_append.1 hy with hy | hy
  · exact h y hy
  · rw [List.mem_singleton.1 hy]; exact ⟨h1, h2⟩
theorem Cov.off {lt : List (Bs × Unit)} {cs : List (Chg α)} (h : Cov lt cs) (keep : List Bool) {l : List (Bs × α)} {x : Bs} (hx : gget x lt = none) : gget x (fdos l (kept keep cs)) = gget x l :=
  fdos_off fun c hc => by
    have h1 := h c (kept_mem hc)
    refine ⟨fun e => ?_, fun hk e => ?_⟩
    · rw [← e, hx] at h1
      exact absurd h1.1 (by simp)
    · have h2 := h1.2 hk
      rw [← e, hx] at h2
      exact absurd h2 (by simp)
end
/-! ### maps beside a disk -/
def lS (l : Bs) : Value := .string ⟨l.toArray⟩
def lU (_ : Unit) : Value := .bool true
/-- a map of one's own behind the world w0, none of a disk's blocks -/
def Mp {β : Type} (f : β → Value) (w0 : World) (q : Fp) (w : World) (b : Nat) (l : List (Bs × β)) : Prop := OmF f Tryd.prog 9 w b l ∧ ¬ q.M b ∧ w0.heap.size ≤ b
section
variable {β γ : Type} {f : β → Value} {g : γ → Value} {w0 w w' : World} {q q' : Fp} {d : Dk Sv} {b b2 : Nat} {l : List (Bs × β)} {l2 : List (Bs × γ)}
theorem Mp.act (h : Mp f w0 q w b l) (hF : Frd q w w') (hM : ∀ i, q'.M i → q.M i ∨ w.heap.size ≤ i) : Mp f w0 q' w' b l :=
  ⟨h.1.same (hF.block b h.1.lt h.2.1), fun hq => by
    rcases hM b hq with h3 | h3
    · exact h.2.1 h3
    · have := h.1.lt
      omega, h.2.2⟩
theorem Mp.call (h : Mp f w0 q w b l) (hb : Below w.heap.size w w') : Mp f w0 q w' b l := ⟨h.1.below hb, h.2⟩
theorem Mp.grown (h : Mp f w0 q w b l) (hg : w.grownBy w' (some b2)) (hne : b ≠ b2) : Mp f w0 q w' b l := ⟨h.1.same (hg.block b h.1.lt (fun e => hne (by injection e))), h.2⟩
theorem OmF.noCell (h : OmF f Tryd.prog 9 w b l) {o : Nat} {sp : Option Nat} {v : Value} (hc : w.cell? ⟨b, o, sp⟩ = some v) : False := by
  obtain ⟨es, cl, hb, _⟩ := h
  unfold World.cell? at hc
  dsimp only at hc
  rw [hb] at hc
  simp at hc
theorem Dsk.grownMap (hD : Dsk w q d) (h : Mp f w0 q w b l) (hg : w.grownBy w' (some b)) : Dsk w' q d := hD.frame fun i hi => hg.block i (hD.lt hi) (fun e => by
  injection e with e
  rw [e] at hi
  rcases hi with hi | ⟨s, hs, hne, hA⟩
  · exact h.2.1 hi
  · obtain ⟨A, c, l⟩ := s
    dsimp only at hne hA
    cases A with
    | none => cases hA
    | some ad =>
      injection hA with hA
      obtain ⟨ad', e, hc⟩ := Sl.at1 (f := bv) (l := l) (hD.rd _ hs) (k := 0) (List.length_pos_iff.2 hne)
      injection e with e
      subst e
      have hsp : ad.add 0 = ⟨b, (ad.add 0).off, (ad.add 0).spot⟩ := by
        have h1 : (ad.add 0).block = b := by rw [addr_add_block]; exact hA
        cases h2 : ad.add 0 with
        | mk x y z => rw [h2] at h1; dsimp only at h1 ⊢; rw [h1]
      rw [hsp] at hc
      exact h.1.noCell hc)
theorem Fro.grown (h : Fro w0 w q) (hg : w.grownBy w' (some b)) (hb : w0.heap.size ≤ b) : Fro w0 w' q :=
  ⟨⟨hg.os.trans h.1.os, hg.tape.trans h.1.tape, hg.output.trans h.1.output, Nat.le_trans h.1.size hg.size, fun i hi => (hg.block i (Nat.lt_of_lt_of_le hi h.1.size) (fun e => by injection e; omega)).trans (h.1.block i hi)⟩, h.2⟩
theorem Mp.new (w : World) (hD : Dsk w q d) (hw : w0.heap.size ≤ w.heap.size) : Mp f w0 q (w.alloc (.map #[] 0)) w.heap.size [] := ⟨OmF.new w, fun hq => by have := hD.ltM hq; omega, hw⟩
end
end Go.Proofs.YtabkeaammiellaaDoor

namespace Go.Proofs.YtabkeaammiellaaDoor
open Go.RowKit Go.Maps Go.Sort
attribute [local go_sem ↓] Go.wp_at_zero Go.wp_at_succ

theorem dWrite_not {d : Dk Bs} {n v : Bs} (h0 : (dWorks d).2 = 0) (hn : named n = true) (hv : v.length ≤ 65536) (hr : Ris d.sure) (hl : d.shown.length ≤ 511) : dWrite bln d n v = if d.room < (fused bln (gput n v d.shown) : Int) then ((dWorks d).1, 5) else (dAdd (dWorks d).1 ⟨0, n, [], v⟩, 0) := by
  rw [dWrite_doc hr hl, if_neg (by simp [h0]), if_neg (by simp [hn]), if_neg (by unfold bln; omega)]
set_option maxRecDepth 100000 in
set_option maxHeartbeats 1000000 in
theorem KWrite_any {T : Nat → Prop} {A B : Option Addr} {c k : Nat} (d : Dk Bs) (n v : Bs) (w : World) (hT : ∀ k, w.heap.size ≤ k → T k) (h : Rdk T w d A c B k) (hl : d.sure.length + d.pend.length ≤ 500) (hf : d.fuse ≤ 9223372036854775807) (hn : n.length ≤ 4611686018427387904) (hv : v.length ≤ 4611686018427387904) (hr : Ris d.sure) (hu : fused bln d.shown ≤ 1000000000000) :
    Calls Tryd.prog 46 #[.agg (rda d A c B k), .string ⟨n.toArray⟩, .string ⟨v.toArray⟩] w fun e w' => GvK T w w' e (dWrite bln d n v) := by
  have hsh : d.shown.length ≤ 500 := by have := flen_dos d.sure d.pend; unfold Dk.shown; omega
  have HDn := Lib.hid (fun (h1 : (dWorks d).2 = 0) (h2 : named n = true) (h3 : v.length ≤ 65536) => dWrite_not h1 h2 h3 hr (by omega : d.shown.length ≤ 511))
  have HPc := Lib.hid (put_count bln (hr.fdos d.pend) v (k := n))
  have hsz : (ByteArray.size ⟨v.toArray⟩) = v.length := by simp [ByteArray.size]
  have hM := ((Mm.start w).alloc (rda d A c B k) 56).alloc rdz 56
  rw [show (w.alloc (.cells (rda d A c B k) 56)).heap.size = w.heap.size + 1 by simp] at hM
  have HM := Lib.hid hM
  have HD := Lib.hid h
  have HT := Lib.hid hT
  obtain ⟨g1, g2, g3, g4⟩ := dWorks_same d
  have hWk := fun W => RWorks_any (A := A) (B := B) (c := c) (k := k) d W hf
  have HWk := Lib.hid hWk
  have HDW := Lib.hid (rfl : dWorks d = dWorks d)
  clear hM h hT hWk
  unfold rda
  go_enter Tryd.func46, Tryd.ntmps46
  go_wp2_with fail
  refine (HWk.out _).mono ?_
  rintro e w3 ⟨rfl, hb3⟩
  have hM3 := HM.out.call hb3
  generalize hdw : dWorks d = dw at *
  obtain ⟨d1, n1⟩ := dw
  dsimp only at g1 g2 g3 g4
  have HR := Lib.hid (show Rdk T w d1 A c B k from ⟨by rw [g1]; exact HD.out.s, HD.out.sa, by rw [g2]; exact HD.out.p, HD.out.pa⟩)
  have HS := Lib.hid (show d1.shown = d.shown from by unfold Dk.shown; rw [g1, g2])
  have hl1 : d1.sure.length + d1.pend.length ≤ 500 := by rw [g1, g2]; exact hl
  have G3 := Lib.hid g3
  clear g1 g2 g3
  obtain ⟨r0, r1, r2, r3, r4, rf0, rf1, rf2, rf3, rf4⟩ := hM3.b1.fiveC
  unfold rda
  clear HM hb3 HWk HDW HD
  dsimp only
  go_upto_region 2 with (fail)
  refine gen1 (T := fun W => Mm w W [(w.heap.size + 1, 56, rdz), (w.heap.size, 56, rda d1 A c B k)] []) (hM3.st5 1 rfl _ _ _ _ _) (fun w4 hM4 => ?_)
  clear r0 r1 r2 r3 r4 rf0 rf1 rf2 rf3 rf4 hM3
  rcases g4 with h0 | h0
  · subst h0
    have HN := Lib.hid (fun W => RNamed_any n W hn)
    obtain ⟨r0, r1, r2, r3, r4, rf0, rf1, rf2, rf3, rf4⟩ := (hM4).b0.fiveC
    obtain ⟨b0, b1, b2, b3, b4, bf0, bf1, bf2, bf3, bf4⟩ := (hM4).b1.fiveC
    go_wp2_with fail
    refine (HN.out _).mono ?_
    rintro e w5 ⟨rfl, hb5⟩
    have hM5 := hM4.call hb5
    clear r0 r1 r2 r3 r4 rf0 rf1 rf2 rf3 rf4 b0 b1 b2 b3 b4 bf0 bf1 bf2 bf3 bf4
    clear HN hb5 hM4
    cases hnm : named n with
    | false =>
      have HX := Lib.hid (show dWrite bln d n v = (d1, 2) from by unfold dWrite; rw [hdw, if_neg (by simp), if_pos hnm])
      obtain ⟨r0, r1, r2, r3, r4, rf0, rf1, rf2, rf3, rf4⟩ := (hM5).b0.fiveC
      obtain ⟨b0, b1, b2, b3, b4, bf0, bf1, bf2, bf3, bf4⟩ := (hM5).b1.fiveC
      have HE := Lib.hid (GvK.mk (n := 2) HR.out (bel_st5 (hM5).bel (g := w.heap.size + 1) (by omega) (.int .i64 d1.room) (.slice A d1.sure.length c) (.slice B d1.pend.length k) (.int .i64 d1.fuse) (.bool d1.down)))
      go_wp2_with fail
      exact bodyPost_ret (res_k2 rfl rfl (g := w.heap.size + 1) ((hM5).b0.st5 _ _ _ _ _)) rfl (by rw [HX.out]; exact HE.out)
    | true =>
      rcases Nat.lt_or_ge 65536 v.length with hv1 | hv1
      · have hI : (65536 : Int) < (v.length : Int) := by omega
        have HX := Lib.hid (show dWrite bln d n v = (d1, 3) from by unfold dWrite; rw [hdw, if_neg (by simp), if_neg (by simp [hnm]), if_pos (show 65536 < bln v from hv1)])
        obtain ⟨r0, r1, r2, r3, r4, rf0, rf1, rf2, rf3, rf4⟩ := (hM5).b0.fiveC
        obtain ⟨b0, b1, b2, b3, b4, bf0, bf1, bf2, bf3, bf4⟩ := (hM5).b1.fiveC
        have HE := Lib.hid (GvK.mk (n := 3) HR.out (bel_st5 (hM5).bel (g := w.heap.size + 1) (by omega) (.int .i64 d1.room) (.slice A d1.sure.length c) (.slice B d1.pend.length k) (.int .i64 d1.fuse) (.bool d1.down)))
        go_wp2_with fail
        exact bodyPost_ret (res_k2 rfl rfl (g := w.heap.size + 1) ((hM5).b0.st5 _ _ _ _ _)) rfl (by rw [HX.out]; exact HE.out)
      have hI : (v.length : Int) ≤ 65536 := by omega
      have HDW := Lib.hid (show dWrite bln d n v = if d.room < (fused bln (gput n v d.shown) : Int) then (d1, 5) else (dAdd d1 ⟨0, n, [], v⟩, 0) from HDn.out trivial hnm hv1)
      have HAd := Lib.hid (RAdd_any (T := T2 T w.heap.size) (A := A) (c := c) d1 ⟨0, n, [], v⟩ w5 (T2.up HT.out hM5) (HR.out.p.below hM5.bel) (by omega))
      obtain ⟨r0, r1, r2, r3, r4, rf0, rf1, rf2, rf3, rf4⟩ := (hM5).b0.fiveC
      obtain ⟨b0, b1, b2, b3, b4, bf0, bf1, bf2, bf3, bf4⟩ := (hM5).b1.fiveC
      go_wp2_with fail
      refine HAd.out.mono ?_
      rintro e w9 ⟨B9, k9, rfl, hs9, ho9, hb9⟩
      have hM9 := hM5.call hb9
      clear HAd HDn
      clear r0 r1 r2 r3 r4 rf0 rf1 rf2 rf3 rf4 b0 b1 b2 b3 b4 bf0 bf1 bf2 bf3 bf4
      have hsh9 : (dAdd d1 ⟨0, n, [], v⟩).shown = gput n v d.shown := by rw [shown_write, HS.out]
      have hl9 : (dAdd d1 ⟨0, n, [], v⟩).sure.length + (dAdd d1 ⟨0, n, [], v⟩).pend.length ≤ 501 := by unfold dAdd; simp; omega
      have HR9 := Lib.hid (show Rdk (T2 T w.heap.size) w9 (dAdd d1 ⟨0, n, [], v⟩) A c B9 k9 from ⟨HR.out.s.below hM9.bel, HR.out.sa.t2 hM9.bel.size, hs9, ho9⟩)
      generalize dAdd d1 ⟨0, n, [], v⟩ = d9 at *
      clear hs9 ho9 hb9 hM5
      have hM10 := hM9.alloc (rda d9 A c B9 k9) 56
      have HSh := Lib.hid (RShown_any (T := T2 T w.heap.size) (d := d9) (A := A) (c := c) (B := B9) (k := k9) (w9.alloc (.cells (rda d9 A c B9 k9) 56)) (fun j hj => T2.up HT.out hM9 j (by simp at hj; omega)) (HR9.out.below (below_new _ _)) (by omega))
      obtain ⟨x0, x1, x2, x3, x4, -⟩ := hM10.b0.fiveC
      have hlg : w9.heap.size ≠ w.heap.size ∧ w9.heap.size ≠ w.heap.size + 1 := ⟨by have := hM9.b0.lt; omega, by have := hM9.b0.lt; omega⟩
      unfold rda
      go_wp2_with fail
      refine HSh.out.mono ?_
      rintro e w11 ⟨A6, c6, m6, rfl, hm6, hs6, ho6, hb6⟩
      have hM11 := hM10.call hb6
      have HR11 := Lib.hid (HR9.out.below (below_new _ _) |>.below hb6)
      clear HSh x0 x1 x2 x3 x4 hb6 hM10 ho6 hM9
      have hfu : fused bln m6 ≤ 4000000000000 ∧ m6.length ≤ 501 := by
        rw [hm6.out, hsh9]
        have := HPc.out
        have hbv : bln v ≤ 65536 := hv1
        unfold Dk.shown at hu hsh ⊢
        constructor
        · have h1 := this.1
          omega
        · have h2 := this.2
          rw [h2]
          split <;> omega
      have HU := fun W (hW : SlR W A6 c6 m6) => RUsed_any W hW (by omega) hfu.1
      have hd9 : decide ((512 : Int) < (m6.length : Int)) = false := decide_eq_false (by omega)
      have HU' := Lib.hid HU
      have HF9 := Lib.hid (show fused bln m6 = fused bln (gput n v d.shown) from by rw [hm6.out, hsh9])
      clear HU
      go_upto_region 10 with (fail)
      have hst : Mm w w11.drew [(w9.heap.size, 56, rda d9 A c B9 k9), (w.heap.size + 1, 56, rdz), (w.heap.size, 56, rda d1 A c B k)] [] ∧ SlR w11.drew A6 c6 m6 := ⟨hM11.drew, hs6⟩
      generalize hf6 : fused bln m6 = f6 at *
      refine wp_region_held_drew (S := (fun W => Mm w W [(w9.heap.size, 56, rda d9 A c B9 k9), (w.heap.size + 1, 56, rdz), (w.heap.size, 56, rda d1 A c B k)] [] ∧ SlR W A6 c6 m6)) (by kernel_rfl) ?_ (fun hHeld => ?_)
      · first | with_reducible exact hst | with_reducible exact hHeld | exact ⟨hHeld.1.call hb7, hHeld.2.below hb7⟩
      refine wpAnyH_take (i := 0) (oi := ⟨some 35, _, _, _, _, _⟩) (v := ?_) rfl (by kernel_rfl) (by kernel_rfl) (by kernel_rfl) (fun _ _ _ h => h) (Or.inl ⟨by kernel_rfl, ?_⟩) (by assumption) ?_
      rotate_left
      · (intro wS hSw; (try dsimp only at hSw); obtain ⟨y0, y1, y2, y3, y4, -⟩ := hSw.1.b2.fiveC; clear hSw; go_simp; (try with_reducible rfl))
      (try simp only [Act.put, List.setIfInBounds_toArray, List.set_cons_zero, List.set_cons_succ])
      refine wpAnyH_take (i := 1) (oi := ⟨some 36, _, _, _, _, _⟩) (v := ?_) rfl (by kernel_rfl) (by kernel_rfl) (by kernel_rfl) (fun _ _ _ h => h) (Or.inl ⟨by kernel_rfl, ?_⟩) (by assumption) ?_
      rotate_left
      · (intro wS hSw; (try dsimp only at hSw); obtain ⟨y0, y1, y2, y3, y4, -⟩ := hSw.1.b2.fiveC; clear hSw; go_simp; (try with_reducible rfl))
      (try simp only [Act.put, List.setIfInBounds_toArray, List.set_cons_zero, List.set_cons_succ])
      refine wpAnyH_take (i := 2) (oi := ⟨some 37, _, _, _, _, _⟩) (v := ?_) rfl (by kernel_rfl) (by kernel_rfl) (by kernel_rfl) (fun _ _ _ h => h) (Or.inl ⟨by kernel_rfl, ?_⟩) (by assumption) ?_
      rotate_left
      · (intro wS hSw; (try dsimp only at hSw); (go_simp; rfl))
      (try simp only [Act.put, List.setIfInBounds_toArray, List.set_cons_zero, List.set_cons_succ])
      refine wpAnyH_take (i := 3) (oi := ⟨some 38, _, _, _, _, _⟩) (v := ?_) rfl (by kernel_rfl) (by kernel_rfl) (by kernel_rfl) (fun _ _ _ h => h) (Or.inl ⟨by kernel_rfl, ?_⟩) (by assumption) ?_
      rotate_left
      · (intro wS hSw; (try dsimp only at hSw); obtain ⟨y0, y1, y2, y3, y4, -⟩ := hSw.1.b2.fiveC; clear hSw; go_simp; (try with_reducible rfl))
      (try simp only [Act.put, List.setIfInBounds_toArray, List.set_cons_zero, List.set_cons_succ])
      refine wpAnyH_take (i := 4) (oi := ⟨some 39, _, _, _, _, _⟩) (v := ?_) rfl (by kernel_rfl) (by kernel_rfl) (by kernel_rfl) (fun _ _ _ h => h) (Or.inl ⟨by kernel_rfl, ?_⟩) (by assumption) ?_
      rotate_left
      · (intro wS hSw; (try dsimp only at hSw); obtain ⟨y0, y1, y2, y3, y4, -⟩ := hSw.1.b2.fiveC; clear hSw; go_simp; (try with_reducible rfl))
      (try simp only [Act.put, List.setIfInBounds_toArray, List.set_cons_zero, List.set_cons_succ])
      refine wpAnyH_take (i := 6) (oi := ⟨some 41, _, _, _, _, _⟩) (v := ?_) rfl (by kernel_rfl) (by kernel_rfl) (by kernel_rfl) (fun _ _ _ h => h) (Or.inl ⟨by kernel_rfl, ?_⟩) (by assumption) ?_
      rotate_left
      · (intro wS hSw; (try dsimp only at hSw); obtain ⟨y0, y1, y2, y3, y4, -⟩ := hSw.1.b2.fiveC; clear hSw; go_simp; (try with_reducible rfl))
      (try simp only [Act.put, List.setIfInBounds_toArray, List.set_cons_zero, List.set_cons_succ])
      refine wpAnyH_take (i := 7) (oi := ⟨some 42, _, _, _, _, _⟩) (v := ?_) rfl (by kernel_rfl) (by kernel_rfl) (by kernel_rfl) (fun _ _ _ h => h) (Or.inl ⟨by kernel_rfl, ?_⟩) (by assumption) ?_
      rotate_left
      · (intro wS hSw; (try dsimp only at hSw); obtain ⟨y0, y1, y2, y3, y4, -⟩ := hSw.1.b2.fiveC; clear hSw; go_simp; (try with_reducible rfl))
      (try simp only [Act.put, List.setIfInBounds_toArray, List.set_cons_zero, List.set_cons_succ])
      refine wpAnyH_ready (rs := [5]) (by kernel_rfl) (by simp) ?_
      refine AllReadyH.cons (o := ⟨some 40, _, _, _, _, _⟩) rfl (fun K hK => ?_) AllReadyH.nil
      go_simp
      (refine (HU'.out _ hHeld.2).mono ?_; rintro e w7 ⟨rfl, hb7⟩)
      go_wp2_with fail
      refine hK.out _ _ ?_ (fun hHeld => ?_)
      · ((try dsimp only); (first | with_reducible exact hst | with_reducible exact hHeld | exact ⟨hHeld.1.call hb7, hHeld.2.below hb7⟩))
      clear hK K
      (try simp only [Act.put, List.setIfInBounds_toArray, List.set_cons_zero, List.set_cons_succ])
      refine wpAnyH_take (i := 8) (oi := ⟨some 43, _, _, _, _, _⟩) (v := ?_) rfl (by kernel_rfl) (by kernel_rfl) (by kernel_rfl) (fun _ _ _ h => h) (Or.inl ⟨by kernel_rfl, ?_⟩) (by assumption) ?_
      rotate_left
      · (intro wS hSw; (try dsimp only at hSw); obtain ⟨y0, y1, y2, y3, y4, -⟩ := hSw.1.b2.fiveC; clear hSw; go_simp; (try with_reducible rfl))
      (try simp only [Act.put, List.setIfInBounds_toArray, List.set_cons_zero, List.set_cons_succ])
      refine wpAnyH_take (i := 9) (oi := ⟨some 44, _, _, _, _, _⟩) (v := ?_) rfl (by kernel_rfl) (by kernel_rfl) (by kernel_rfl) (fun _ _ _ h => h) (Or.inl ⟨by kernel_rfl, ?_⟩) (by assumption) ?_
      rotate_left
      · (intro wS hSw; (try dsimp only at hSw); obtain ⟨y0, y1, y2, y3, y4, -⟩ := hSw.1.b2.fiveC; clear hSw; go_simp; (try with_reducible rfl))
      (try simp only [Act.put, List.setIfInBounds_toArray, List.set_cons_zero, List.set_cons_succ])
      refine wpAnyH_done (by kernel_rfl) ?_ _
      obtain ⟨hM7, -⟩ := hHeld
      obtain ⟨r0, r1, r2, r3, r4, rf0, rf1, rf2, rf3, rf4⟩ := hM7.b1.fiveC
      obtain ⟨b0, b1, b2, b3, b4, bf0, bf1, bf2, bf3, bf4⟩ := hM7.b2.fiveC
      obtain ⟨x0, x1, x2, x3, x4, -⟩ := hM7.b0.fiveC
      rcases Int.lt_or_le d1.room (f6 : Int) with hroom | hroom
      · have HX := Lib.hid (show dWrite bln d n v = (d1, 5) from by rw [HDW.out, if_pos (by rw [← G3.out, ← HF9.out]; exact hroom)])
        have HE := Lib.hid (GvK.mk (n := 5) HR.out (bel_st5 hM7.bel (g := w.heap.size + 1) (by omega) (.int .i64 d1.room) (.slice A d1.sure.length c) (.slice B d1.pend.length k) (.int .i64 d1.fuse) (.bool d1.down)))
        go_wp2_with fail
        exact bodyPost_ret (res_k2 rfl rfl (g := w.heap.size + 1) (hM7.b1.st5 _ _ _ _ _)) rfl (by rw [HX.out]; exact HE.out)
      · have HX := Lib.hid (show dWrite bln d n v = (d9, 0) from by rw [HDW.out, if_neg (by rw [← G3.out, ← HF9.out]; omega)])
        have hno : ¬ (d1.room < (f6 : Int)) := by omega
        have HR7 := Lib.hid (Rdk.below (w := w11.drew) (d := d9) ⟨HR11.out.s, HR11.out.sa, HR11.out.p, HR11.out.pa⟩ hb7)
        have HS7 := Lib.hid ((Sam.refl w.heap.size w7).st5 (.inr rfl) (.int .i64 d9.room) (.slice A d9.sure.length c) (.slice B9 d9.pend.length k9) (.int .i64 d9.fuse) (.bool d9.down))
        have HB7 := Lib.hid (bel_st5 hM7.bel (g := w.heap.size + 1) (by omega) (.int .i64 d9.room) (.slice A d9.sure.length c) (.slice B9 d9.pend.length k9) (.int .i64 d9.fuse) (.bool d9.down))
        go_wp2_with fail
        exact bodyPost_ret (res_k2 rfl rfl (g := w.heap.size + 1) (hM7.b1.st5 _ _ _ _ _)) rfl (by rw [HX.out]; exact ⟨A, c, B9, k9, rfl, HR7.out.sam HS7.out, HB7.out⟩)
  · subst h0
    have HX := Lib.hid (show dWrite bln d n v = (d1, 14) from by unfold dWrite; rw [hdw]; rfl)
    obtain ⟨r0, r1, r2, r3, r4, rf0, rf1, rf2, rf3, rf4⟩ := (hM4).b0.fiveC
    obtain ⟨b0, b1, b2, b3, b4, bf0, bf1, bf2, bf3, bf4⟩ := (hM4).b1.fiveC
    have HE := Lib.hid (GvK.mk (n := 14) HR.out (bel_st5 (hM4).bel (g := w.heap.size + 1) (by omega) (.int .i64 d1.room) (.slice A d1.sure.length c) (.slice B d1.pend.length k) (.int .i64 d1.fuse) (.bool d1.down)))
    go_wp2_with fail
    exact bodyPost_ret (res_k2 rfl rfl (g := w.heap.size + 1) ((hM4).b0.st5 _ _ _ _ _)) rfl (by rw [HX.out]; exact HE.out)
/-- what the document reads -/
def rRead (d : Dk Bs) (n : Bs) : Bs × Nat := if d.down = true then ([], 14) else match gget n d.shown with | none => ([], 4) | some v => (v, 0)
set_option maxRecDepth 100000 in
set_option maxHeartbeats 1000000 in
theorem KRead_any {T : Nat → Prop} {A B : Option Addr} {c k : Nat} (d : Dk Bs) (n : Bs) (w : World) (hT : ∀ k, w.heap.size ≤ k → T k) (h : Rdk T w d A c B k) (hl : d.sure.length + d.pend.length ≤ 100000) :
    Calls Tryd.prog 50 #[.agg (rda d A c B k), .string ⟨n.toArray⟩] w fun e w' => e = .returned (.tuple #[.string ⟨(rRead d n).1.toArray⟩, .int .i64 ((rRead d n).2 : Nat)]) ∧ Below w.heap.size w w' := by
  obtain ⟨room, sure, pend, fuse, down⟩ := d
  dsimp only at hl
  cases down with
  | true =>
    have hB := Blk.new w 56 (rda ⟨room, sure, pend, fuse, true⟩ A c B k)
    have hb := below_new w (.cells (rda ⟨room, sure, pend, fuse, true⟩ A c B k) 56)
    obtain ⟨r0, r1, r2, r3, r4, -⟩ := hB.fiveC
    have HX := Lib.hid (show rRead (⟨room, sure, pend, fuse, true⟩ : Dk Bs) n = ([], 14) from rfl)
    go_enter Tryd.func50, Tryd.ntmps50
    go_wp2_with fail
    go_ret2
    exact ⟨by rw [HX.out]; rfl, hb⟩
  | false =>
    have hB := Blk.new w 56 (rda ⟨room, sure, pend, fuse, false⟩ A c B k)
    have hb := below_new w (.cells (rda ⟨room, sure, pend, fuse, false⟩ A c B k) 56)
    obtain ⟨r0, r1, r2, r3, r4, -⟩ := hB.fiveC
    have HSh := Lib.hid (RShown_any (d := ⟨room, sure, pend, fuse, false⟩) _ (fun j hj => hT j (by simp at hj; omega)) (h.below hb) hl)
    clear h hT
    have HRR := Lib.hid (show ∀ r, (match gget n (Dk.shown (⟨room, sure, pend, fuse, false⟩ : Dk Bs)) with | none => (([], 4) : Bs × Nat) | some v => (v, 0)) = r → rRead (⟨room, sure, pend, fuse, false⟩ : Dk Bs) n = r from fun r h => by unfold rRead; rw [if_neg (by simp)]; exact h)
    generalize Dk.shown (⟨room, sure, pend, fuse, false⟩ : Dk Bs) = sh at HSh HRR
    go_enter Tryd.func50, Tryd.ntmps50
    go_wp2_with fail
    refine HSh.out.mono ?_
    rintro e w1 ⟨A1, c1, m1, rfl, hm1, hs1, ho1, hb1⟩
    have hb2 := bel_call hb hb1
    have HF := Lib.hid (RFind_any n w1 hs1)
    have HS1 := Lib.hid hs1
    obtain rfl := hm1.out
    clear HSh hs1 ho1 hb1
    go_wp2_with fail
    refine HF.out.mono ?_
    rintro e w2 ⟨rfl, hb3⟩
    have hb4 := bel_call hb2 hb3
    rcases rfind_gget n m1 with ⟨hg, hr⟩ | ⟨v, i, hi, hg, hr, hlk⟩
    · rw [hr]
      have HX := Lib.hid (HRR.out _ (by rw [hg]))
      clear hr hg
      go_wp2_with fail
      go_ret2
      exact ⟨by rw [HX.out]; rfl, hb4⟩
    · obtain ⟨ad, b, o, hAd, had, -, hc1⟩ := (HS1.out.below hb3).at1 hi
      rw [hlk] at hc1
      rw [hr]
      have HX := Lib.hid (HRR.out _ (by rw [hg]))
      clear hg
      subst hAd
      have hi0 : ¬ ((i : Int) < 0) := by omega
      have hi1 : (i : Int) < (m1.length : Int) := by omega
      clear hr hlk
      go_wp2_with fail
      go_ret2
      exact ⟨by rw [HX.out]; rfl, hb4⟩
/-- append of one text -/
theorem tx_info : (Tryd.prog.info? 9).map (fun i => (i.zero, i.size, i.bytes)) = some (some (.string ⟨#[]⟩), 1, 16) := by kernel_rfl
theorem lit_tx (w : World) (x : Bs) : Sl (w.alloc (.cells #[.string ⟨x.toArray⟩] 9)) 1 (some ⟨w.heap.size, 0, none⟩) 1 1 (tx [x]) :=
  ⟨by simp [tx], by omega, by simp [maxLen], (fun h => by cases h), fun j u hj => ⟨_, rfl, by
    rw [addr_lit, cell_of_row _ _ _ _ 9 (0, 0) (heap_alloc_new w _)]
    simpa [tx, encStr] using hj⟩⟩
theorem wpl_tx {w : World} {ops : Array Oper} {rest : List Oper} {o : Oper} {a : Act} {Q : Exit → Act → World → Prop} (hgd : o.guard = none) (s x : Operand)
    (ho : o.op = .call { callee := .builtin .append, args := #[s, x], argTypes := #[47, 47] })
    (base : Nat) (A : Option Addr) (c : Nat) (l : List Bs) (hs : a.eval s = .slice A l.length c) (hown : OwnT w base A c l) (hn : l.length ≤ 1000000000000)
    (p : Bs) (gx : Nat) (hgx : gx = w.heap.size) (hx : a.eval x = .slice (some ⟨gx, 0, none⟩) 1 1) (hbase : base ≤ w.heap.size)
    (h : ∀ A' c' m w', Hid (m = l ++ [p]) → OwnT w' base A' c' m → (w.alloc (.cells #[.string ⟨p.toArray⟩] 9)).grownBy w' (A.map (·.block)) → (A'.map (·.block) = A.map (·.block) ∨ A'.map (·.block) = some (w.alloc (.cells #[.string ⟨p.toArray⟩] 9)).heap.size) → wpList Tryd.prog ops Q rest (a.put o.dst (.slice A' m.length c')) w') : wpList Tryd.prog ops Q (o :: rest) a (w.alloc (.cells #[.string ⟨p.toArray⟩] 9)) := by
  subst hgx
  obtain ⟨i0, hi, hz0, hz1, hz2⟩ := info_parts tx_info
  have hown2 : OwnT (w.alloc (.cells #[.string ⟨p.toArray⟩] 9)) base A c l := World.ownsRow.alloc hown _
  refine wpl_append hgd s x 47 ho base 9 i0 _ 1 16 Tryd.underlying47 hi hz0 hz1 hz2 rfl (by decide) A l.length c _ hs hown2 _ 1 1 (tx [p]) hx (lit_tx w p) (by intro u hu; simp [tx, encStr] at hu; subst hu; rfl) (by omega) (by unfold maxLen; omega) (by simp; omega) ?_
  intro A' c' w' hap
  have hlen : l.length + 1 = (l ++ [p]).length := by simp
  rw [hlen]
  exact h A' c' (l ++ [p]) w' (show _ = _ from rfl) (by have := hap.own; unfold OwnT tx; rw [List.map_append]; simpa using this) hap.grown hap.place
end Go.Proofs.YtabkeaammiellaaDoor
