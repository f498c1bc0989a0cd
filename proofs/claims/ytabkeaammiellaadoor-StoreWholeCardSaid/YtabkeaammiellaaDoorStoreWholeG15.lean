/- WHAT IT HOLDS: what a fuse lets through, plainly (no program). | WHAT IT HOLDS: what is told of a disk: its names, what is pending, what is used; texts compared: walked. | WHAT IT HOLDS: a store, plainly: what is done to a disk. | WHAT IT HOLDS: a file of a disk named anew, walked. -/
import Derived.Test.YtabkeaammiellaaDoorStoreWholeG14
import Derived.Test.YtabkeaammiellaaDoorShelf
import Derived.Test.YtabkeaammiellaaDoorStoreWholeG13
import Derived.Test.YtabkeaammiellaaDoorStoreWholeG11
namespace Go.Proofs.YtabkeaammiellaaDoor
section
variable {α : Type}
/-- what any operation of a disk answers -/
def Opd (d : Dk α) (r : Dk α × Nat) : Prop :=
  (r.2 = 14 ↔ (dWorks d).2 = 14) ∧ r.1.fuse = (dWorks d).1.fuse ∧ r.1.down = (dWorks d).1.down ∧ r.1.sure.length + r.1.pend.length ≤ d.sure.length + d.pend.length + 1
theorem Opd.works (d : Dk α) (k : Nat) (hk : k ≠ 14) (h : (dWorks d).2 = 0) : Opd d ((dWorks d).1, k) := by
  obtain ⟨s1, s2, -, -⟩ := dWorks_same d
  refine ⟨⟨fun e => absurd e hk, fun e => by rw [h] at e; cases e⟩, rfl, rfl, ?_⟩
  dsimp only
  rw [s1, s2]
  omega
theorem Opd.down (d : Dk α) : Opd d (dWorks d) := by
  obtain ⟨s1, s2, -, -⟩ := dWorks_same d
  refine ⟨Iff.rfl, rfl, rfl, ?_⟩
  rw [s1, s2]
  omega
theorem Opd.add (d : Dk α) (c : Chg α) (h : (dWorks d).2 = 0) : Opd d (dAdd (dWorks d).1 c, 0) := by
  obtain ⟨s1, s2, -, -⟩ := dWorks_same d
  refine ⟨⟨fun e => (by cases e), fun e => (by rw [h] at e; cases e)⟩, rfl, rfl, ?_⟩
  unfold dAdd
  dsimp only
  rw [s1, s2, List.length_append]
  simp
  omega
theorem dWorks_zero {d : Dk α} (h : ¬ (dWorks d).2 ≠ 0) : (dWorks d).2 = 0 := Decidable.byContradiction h
theorem Opd.write (len : α → Nat) (d : Dk α) (n : Bs) (v : α) : Opd d (dWrite len d n v) := by
  unfold dWrite
  split
  · exact Opd.down d
  · rename_i h
    have h := dWorks_zero h
    split
    · exact Opd.works d 2 (by decide) h
    · split
      · exact Opd.works d 3 (by decide) h
      · split
        · exact Opd.works d 5 (by decide) h
        · exact Opd.add d _ h
theorem Opd.rename (z : α) (d : Dk α) (n t : Bs) : Opd d (dRename z d n t) := by
  unfold dRename
  split
  · exact Opd.down d
  · rename_i h
    have h := dWorks_zero h
    split
    · exact Opd.works d 2 (by decide) h
    · split
      · exact Opd.works d 4 (by decide) h
      · exact Opd.add d _ h
theorem Opd.remove (z : α) (d : Dk α) (n : Bs) : Opd d (dRemove z d n) := by
  unfold dRemove
  split
  · exact Opd.down d
  · rename_i h
    have h := dWorks_zero h
    split
    · exact Opd.works d 2 (by decide) h
    · split
      · exact Opd.works d 4 (by decide) h
      · exact Opd.add d _ h
theorem Opd.sync (d : Dk α) : Opd d (dSync d) := by
  unfold dSync
  split
  · exact Opd.down d
  · rename_i h
    have h := dWorks_zero h
    refine ⟨⟨fun e => (by cases e), fun e => by rw [h] at e; cases e⟩, rfl, rfl, ?_⟩
    have := flen_dos d.sure d.pend
    unfold Dk.shown
    dsimp only
    simp
    omega
/-- a disk behind k operations under a fuse of n -/
def Fz (n : Int) (k : Nat) (d : Dk α) : Prop := ((k : Int) ≤ n ∧ d.down = false ∧ d.fuse = n - k) ∨ (n < k ∧ d.down = true ∧ d.fuse = 0)
theorem Fz.step {n : Int} {k : Nat} {d : Dk α} {r : Dk α × Nat} (h : Fz n k d) (ho : Opd d r) : Fz n (k + 1) r.1 ∧ (r.2 = 14 ↔ n ≤ k) ∧ (r.1.down = true ↔ n ≤ k) := by
  obtain ⟨h1, h2, h3, -⟩ := ho
  rcases h with ⟨hk, hd, hf⟩ | ⟨hk, hd, hf⟩
  · rcases Decidable.em (d.fuse = 0) with h0 | h0
    · have hw : dWorks d = ({ d with down := true }, 14) := by unfold dWorks; rw [if_neg (by rw [hd]; simp), if_pos h0]
      rw [hw] at h1 h2 h3
      refine ⟨.inr ⟨by omega, h3, h2.trans h0⟩, ⟨fun _ => by omega, fun _ => h1.2 rfl⟩, ⟨fun _ => by omega, fun _ => h3⟩⟩
    · have hw : dWorks d = ({ d with fuse := d.fuse - 1 }, 0) := by unfold dWorks; rw [if_neg (by rw [hd]; simp), if_neg h0, if_pos (by omega)]
      rw [hw] at h1 h2 h3
      dsimp only at h1 h2 h3
      refine ⟨.inl ⟨by omega, h3.trans hd, by rw [h2, hf]; omega⟩, ⟨fun e => by have := h1.1 e; omega, fun e => by omega⟩, ⟨fun e => (by rw [h3, hd] at e; cases e), fun e => by omega⟩⟩
  · have hw : dWorks d = (d, 14) := by unfold dWorks; rw [if_pos hd]
    rw [hw] at h1 h2 h3
    exact ⟨.inr ⟨by omega, h3.trans hd, h2.trans hf⟩, ⟨fun _ => by omega, fun _ => h1.2 rfl⟩, ⟨fun _ => by omega, fun _ => h3.trans hd⟩⟩
theorem Fz.fuse {n : Int} {k : Nat} {d : Dk α} (h : Fz n k d) (hn : 0 ≤ n ∧ n ≤ 9223372036854775807) : -1 ≤ d.fuse ∧ d.fuse ≤ 9223372036854775807 := by
  rcases h with ⟨hk, _, hf⟩ | ⟨_, _, hf⟩ <;> rw [hf] <;> omega
end
theorem fused_le (l : List (Bs × Sv)) (h : ∀ p ∈ l, p.2.l.length ≤ 65536) : fused svl l ≤ 65536 * l.length := by
  unfold fused
  induction l with
  | nil => simp
  | cons p r ih =>
    have h1 := h p (List.mem_cons_self ..)
    have h2 := ih fun q hq => h q (List.mem_cons_of_mem _ hq)
    simp only [List.map_cons, List.sum_cons, List.length_cons]
    have : svl p.2 = p.2.l.length := rfl
    omega
theorem Dsk.fits {w : World} {q : Fp} {d : Dk Sv} (h : Dsk w q d) {k : Nat} (hk : d.sure.length + d.pend.length ≤ k) (hk2 : k ≤ 1000) : d.pend.length ≤ 1000000 ∧ d.shown.length ≤ 100000000 ∧ fused svl d.shown ≤ 1000000000000 ∧ d.sure.length ≤ 1000000 := by
  have h1 := flen_dos d.sure d.pend
  have h2 := fused_le d.shown fun p hp => h.len _ (h.shown_mem p hp).2
  have h3 : d.shown.length ≤ d.sure.length + d.pend.length := h1
  refine ⟨by omega, by omega, by omega, by omega⟩
end Go.Proofs.YtabkeaammiellaaDoor

namespace Go.Proofs.YtabkeaammiellaaDoor
open Go.RowKit Go.Maps Go.Sort
attribute [local go_sem ↓] Go.wp_at_zero Go.wp_at_succ

theorem bb_le : ∀ {a b : Bs}, bytesBefore a b = true → a ≤ b
  | [], [], h => by cases h
  | [], _ :: _, _ => List.nil_le _
  | _ :: _, [], h => by cases h
  | x :: r, y :: s, h => by
    unfold bytesBefore at h
    rw [List.cons_le_cons_iff]
    rcases Decidable.em (x = y) with e | e
    · subst e
      refine .inr ⟨rfl, bb_le ?_⟩
      simpa using h
    · refine .inl ?_
      have h2 : x.toNat < y.toNat := by
        have he : ¬ x.toNat = y.toNat := fun e2 => e (UInt8.toNat_inj.1 e2)
        simp [e] at h
        have := UInt8.lt_iff_toNat_lt.1 h
        exact this
      exact UInt8.lt_iff_toNat_lt.2 h2
/-- the cells of texts -/
abbrev tx (m : List Bs) : List Value := m.map encStr
def names {α : Type} (l : List (Bs × α)) : List Bs := l.map (·.1)
theorem names_sorted {l : List (Bs × Sv)} (h : Ris l) {ss : List Bs} (hp : ss.Perm (strKeys (dat l))) : ss.mergeSort (fun x y => decide (x ≤ y)) = names l := by
  have e : strKeys (dat l) = names l := by
    show (List.map _ (List.map _ l)) = List.map _ l
    rw [List.map_map]
    rfl
  rw [e] at hp
  rw [show (fun x y : Bs => decide (x ≤ y)) = leB from rfl, mergeSort_of_perm hp]
  refine List.mergeSort_of_pairwise ?_
  unfold names
  rw [List.pairwise_map]
  refine h.imp ?_
  intro a b hab
  exact decide_eq_true (bb_le hab)
theorem row_form {w : World} {base : Nat} {e : TypeId} {size : Nat} {v : Value} {n : Nat} {xs : List Value} (h : w.ownsRow base e size v n xs) : ∃ A c, v = .slice A n c := by
  obtain ⟨h1, h2⟩ := h
  rcases h2 with ⟨hv, hx⟩ | ⟨g1, cap, cur, hv, r⟩
  · subst hx
    exact ⟨none, 0, hv⟩
  · exact ⟨_, _, hv⟩
/-- a row of texts of one's own -/
abbrev OwnT (w : World) (base : Nat) (A : Option Addr) (c : Nat) (m : List Bs) : Prop := Own w base 9 1 A m.length c (tx m)
/-- a slice of texts -/
def SlT (w : World) (A : Option Addr) (c : Nat) (m : List Bs) : Prop := Sl w 1 A m.length c (tx m)
theorem SlT.below {w w' : World} {A : Option Addr} {c : Nat} {m : List Bs} (h : SlT w A c m) (hb : Below w.heap.size w w') : SlT w' A c m := Sl.below h hb
theorem Keys_any (b : Nat) (w : World) : Calls Tryd.prog 45 #[.map (some b)] w fun e w' => e = .returned (.func (.func 61) #[] #[.pointer (some ⟨w.heap.size, 0, none⟩)]) ∧ w' = w.alloc (.cells #[.map (some b)] 79) :=
  callsIn_wide.1 (Tryd.maps_Keys_45 (some b) w)
theorem Sorted_any {w : World} {b : Nat} {l : List (Bs × Sv)} (h : OmD w b l) (hr : Ris l) (hl : l.length ≤ 100000000) :
    Calls Tryd.prog 44 #[.func (.func 61) #[] #[.pointer (some ⟨w.heap.size, 0, none⟩)]] (w.alloc (.cells #[.map (some b)] 79)) fun e w' => ∃ A c m, e = .returned (.slice A (List.length m) c) ∧ Hid (m = names l) ∧ OwnT w' w.heap.size A c m ∧ Below w.heap.size w w' := by
  refine (callsIn_wide.1 (Tryd.slices_Sorted_keys_44_45 b l.length (dat l) tok w h (by rw [dat_size]; unfold maxLen; omega) (by rw [dat_size]; omega))).mono ?_
  rintro e w' ⟨v, ss, rfl, hp, ho, -, hb⟩
  rw [names_sorted hr hp] at ho
  have hn : ss.length = (names l).length := by
    rw [← names_sorted hr hp, List.length_mergeSort]
  rw [hn] at ho
  obtain ⟨A, c, rfl⟩ := row_form ho
  have hsz : w.heap.size ≤ (w.alloc (.cells #[.map (some b)] 79)).heap.size := by simp
  refine ⟨A, c, names l, rfl, (show _ = _ from rfl), Own.more ho hsz, (below_new w _).trans (hb.mono hsz)⟩
set_option maxRecDepth 100000 in
set_option maxHeartbeats 1000000 in
theorem Pending_any {w : World} {q : Fp} {d : Dk Sv} (h : Dsk w q d) : Calls Tryd.prog 19 #[.pointer (some ⟨q.g, 0, none⟩)] w fun e w' => e = .returned (.int .i64 d.pend.length) ∧ w' = w := by
  obtain ⟨a0, a1, a2, a3, a4, a5, -⟩ := h.six
  clear h
  go_enter Tryd.func19, Tryd.ntmps19
  go_wp2_with fail
  go_ret
  exact ⟨rfl, rfl⟩
set_option maxRecDepth 100000 in
set_option maxHeartbeats 1000000 in
theorem UsedD_any {w : World} {q : Fp} {d : Dk Sv} (h : Dsk w q d) (hu : fused svl d.shown ≤ 1000000000000) : Calls Tryd.prog 25 #[.pointer (some ⟨q.g, 0, none⟩)] w fun e w' => e = .returned (.int .i64 (fused svl d.shown : Nat)) ∧ Below w.heap.size w w' := by
  obtain ⟨a0, a1, a2, a3, a4, a5, -⟩ := h.six
  have HU := Lib.hid (Used_any h.shown (h.ris.fdos _) (by omega))
  clear h
  go_enter Tryd.func25, Tryd.ntmps25
  go_wp2_with fail
  refine HU.out.mono ?_
  rintro e w1 ⟨rfl, hb⟩
  go_wp2_with fail
  go_ret
  exact ⟨rfl, hb⟩
set_option maxRecDepth 100000 in
set_option maxHeartbeats 1000000 in
theorem DList_any {w : World} {q : Fp} {d : Dk Sv} (h : Dsk w q d) (hL : d.shown.length ≤ 100000000) : Calls Tryd.prog 18 #[.pointer (some ⟨q.g, 0, none⟩)] w fun e w' => ∃ A c m, e = .returned (.tuple #[.slice A (List.length m) c, errv (if d.down = true then 14 else 0)]) ∧ Hid (m = if d.down = true then [] else names d.shown) ∧ OwnT w' w.heap.size A c m ∧ Below w.heap.size w w' := by
  have hlk := Looks_any h
  cases hd : d.down
  · rw [hd, if_neg (by simp), show errv 0 = Value.nilIface from rfl] at hlk
    obtain ⟨a0, a1, a2, a3, a4, a5, -⟩ := h.six
    have HK := Lib.hid (Keys_any q.bm w)
    have HS := Lib.hid (Sorted_any h.shown (h.ris.fdos _) hL)
    have HL := Lib.hid hlk
    clear h hlk hd
    go_enter Tryd.func18, Tryd.ntmps18
    go_wp2_with fail
    refine HL.out.mono ?_
    rintro e w1 ⟨rfl, rfl⟩
    go_wp2_with fail
    refine HK.out.mono ?_
    rintro e w1 ⟨rfl, rfl⟩
    go_wp2_with fail
    refine HS.out.mono ?_
    rintro e w2 ⟨A, c, m, rfl, hm, ho, hb⟩
    go_wp2_with fail
    go_ret2
    exact ⟨A, c, m, rfl, (show _ = _ from hm.out), ho, hb⟩
  · rw [hd, if_pos rfl, show errv 14 = Value.iface 64 (.int .i64 14) from rfl] at hlk
    have HL := Lib.hid hlk
    clear h hlk hd
    go_enter Tryd.func18, Tryd.ntmps18
    go_wp2_with fail
    refine HL.out.mono ?_
    rintro e w1 ⟨rfl, rfl⟩
    go_wp2_with fail
    go_ret2
    exact ⟨none, 0, [], rfl, (show _ = _ from rfl), Own.none_ _ _ _ _, Below.refl _ _⟩
end Go.Proofs.YtabkeaammiellaaDoor

namespace Go.Proofs.YtabkeaammiellaaDoor

def begun (n : Bs) : Bs := 126 :: n
def isBegun (n : Bs) : Bool := Lib.hasPrefix n [126]
def snamed (n : Bs) : Bool := decide (n.length ≤ 20) && named n && !decide (126 ∈ n)
section
variable {α : Type}
/-- what was being put is removed; how many bytes bad, whether any was -/
def sSweep (z : α) : List Bs → Dk α → Bool → Dk α × Nat × Bool
  | [], d, b => (d, 0, b)
  | n :: r, d, b => if isBegun n = true then (if (dRemove z d n).2 ≠ 0 then ((dRemove z d n).1, (dRemove z d n).2, b) else sSweep z r (dRemove z d n).1 true) else sSweep z r d b
def sOpen (z : α) (d : Dk α) : Dk α × Nat :=
  if d.down = true then (d, 14) else
    if (sSweep z (names d.shown) d false).2.1 ≠ 0 then ((sSweep z (names d.shown) d false).1, (sSweep z (names d.shown) d false).2.1)
    else if (sSweep z (names d.shown) d false).2.2 = true then dSync (sSweep z (names d.shown) d false).1 else ((sSweep z (names d.shown) d false).1, 0)
/-- one act, then another one, if the first was let through -/
def andThen (r : Dk α × Nat) (f : Dk α → Dk α × Nat) : Dk α × Nat := if r.2 ≠ 0 then r else f r.1
def sPut (len : α → Nat) (z : α) (d : Dk α) (n : Bs) (v : α) : Dk α × Nat :=
  if snamed n = false then (d, 2) else
    andThen (dWrite len d (begun n) v) fun d => andThen (dSync d) fun d => andThen (dRename z d (begun n) n) dSync
def sDelete (z : α) (d : Dk α) (n : Bs) : Dk α × Nat := if snamed n = false then (d, 2) else andThen (dRemove z d n) dSync
def sGet (d : Dk α) (n : Bs) : Option α × Nat := if snamed n = false then (none, 2) else dRead d n
def sPick (b n : Bs) : Bool := snamed n && Lib.hasPrefix n b
def sList (d : Dk α) (b : Bs) : List Bs × Nat := if d.down = true then ([], 14) else ((names d.shown).filter (sPick b), 0)
end
/-! ### what an act leaves of a fuse, and how much there is -/
def Fok (d : Dk Sv) : Prop := -1 ≤ d.fuse ∧ d.fuse ≤ 9223372036854775807
theorem Fok.works {d : Dk Sv} (h : Fok d) : Fok (dWorks d).1 := by
  unfold Fok dWorks at *
  split
  · exact h
  · split
    · exact h
    · split
      · dsimp only; omega
      · exact h
theorem Fok.opd {d : Dk Sv} {r : Dk Sv × Nat} (h : Fok d) (ho : Opd d r) : Fok r.1 := by
  have := h.works
  unfold Fok at *
  rw [ho.2.1]
  exact this
theorem cut_len (ks : List Bool) (d : Dk Sv) : (dCut ks d).sure.length + (dCut ks d).pend.length ≤ d.sure.length + d.pend.length := by
  unfold dCut
  have h1 := flen_dos d.sure (kept ks d.pend)
  have h2 := kept_len ks d.pend
  simp
  omega
theorem start_len (d : Dk Sv) : (dStart d).sure.length + (dStart d).pend.length ≤ d.sure.length + d.pend.length := by
  unfold dStart
  split
  · simp
  · exact Nat.le_refl _
theorem start_fok (d : Dk Sv) : Fok (dStart d) := by
  unfold dStart Fok
  split
  · dsimp only; omega
  · dsimp only; omega
theorem opd_len {α : Type} {d : Dk α} {r : Dk α × Nat} (h : Opd d r) {k : Nat} (hk : d.sure.length + d.pend.length ≤ k) : r.1.sure.length + r.1.pend.length ≤ k + 1 := by have := h.2.2.2; omega
end Go.Proofs.YtabkeaammiellaaDoor

namespace Go.Proofs.YtabkeaammiellaaDoor
open Go.RowKit Go.Maps Go.Sort
attribute [local go_sem ↓] Go.wp_at_zero Go.wp_at_succ

set_option maxRecDepth 100000 in
set_option maxHeartbeats 1000000 in
theorem Rename_any {w : World} {q : Fp} {d : Dk Sv} (h : Dsk w q d) (hf : -1 ≤ d.fuse ∧ d.fuse ≤ 9223372036854775807) (hp : d.pend.length ≤ 1000000) (hL : d.shown.length ≤ 100000000) (n t : Bs) (hn : n.length ≤ 100000000) (ht : t.length ≤ 100000000) :
    Calls Tryd.prog 14 #[.pointer (some ⟨q.g, 0, none⟩), .string ⟨n.toArray⟩, .string ⟨t.toArray⟩] w fun e w' => e = .returned (errv (dRename Sv.nil d n t).2) ∧ Dgo w q d (dRename Sv.nil d n t).1 w' := by
  have hW := Works_any h hf
  obtain ⟨s1, s2, s3, s4⟩ := dWorks_same d
  have hR : dRename Sv.nil d n t = if (dWorks d).2 ≠ 0 then dWorks d else if named n = false ∨ named t = false then ((dWorks d).1, 2) else if (gget n d.shown).isNone = true then ((dWorks d).1, 4) else (dAdd (dWorks d).1 ⟨1, n, t, Sv.nil⟩, 0) := rfl
  generalize dWorks d = dw at *
  obtain ⟨d1, k⟩ := dw
  dsimp only at *
  have hsh : d1.shown = d.shown := by unfold Dk.shown; rw [s1, s2]
  clear h hf
  rcases s4 with rfl | rfl
  · rw [if_neg (by simp)] at hR
    rw [show errv 0 = Value.nilIface from rfl] at hW
    have HW := Lib.hid hW
    clear hW
    go_enter Tryd.func14, Tryd.ntmps14
    go_wp2_with fail
    refine HW.out.mono ?_
    rintro e w1 ⟨rfl, hD1, hw1⟩
    have hF1 : Frd q w w1 := Frd.of_wr (.inl rfl) hw1
    go_wp2_with fail
    refine (Named_any n w1 (by omega)).mono ?_
    rintro e w2 ⟨rfl, hb2⟩
    have hD2 := hD1.below hb2
    have hF2 : Frd q w w2 := hF1.trans (Frd.of_below (q := q) hb2) fun i hi => .inl hi
    cases hnm : named n
    · have HR := Lib.hid (show dRename Sv.nil d n t = (d1, 2) from by rw [hR, if_pos (.inl hnm)])
      clear hR hnm
      go_wp2_with fail
      go_ret
      exact ⟨by rw [HR.out]; rfl, by rw [HR.out]; exact Dgo.of hD2 hF2 s1 s2⟩
    go_wp2_with fail
    refine (Named_any t w2 (by omega)).mono ?_
    rintro e w3 ⟨rfl, hb3⟩
    replace hD2 := hD2.below hb3
    replace hF2 : Frd q w w3 := hF2.trans (Frd.of_below (q := q) hb3) fun i hi => .inl hi
    cases hnt : named t
    · have HR := Lib.hid (show dRename Sv.nil d n t = (d1, 2) from by rw [hR, if_pos (.inr hnt)])
      clear hR hnm hnt
      go_wp2_with fail
      go_ret
      exact ⟨by rw [HR.out]; rfl, by rw [HR.out]; exact Dgo.of hD2 hF2 s1 s2⟩
    rw [if_neg (by simp [hnm, hnt])] at hR
    have hlk := hD2.shown.look (T := 79) (E := 33) Tryd.underlying9 Tryd.underlying79 (zero_bs _) (k := n) (by unfold maxLen; omega)
    rw [hsh] at hlk
    obtain ⟨a0, a1, a2, -⟩ := hD2.six
    cases hgt : gget n d.shown with
    | none =>
      rw [hgt] at hlk
      have HR := Lib.hid (show dRename Sv.nil d n t = (d1, 4) from by rw [hR, hgt]; rfl)
      clear hR hgt
      go_wp2_with fail
      go_ret
      exact ⟨by rw [HR.out]; rfl, by rw [HR.out]; exact Dgo.of hD2 hF2 s1 s2⟩
    | some u =>
      rw [hgt] at hlk
      dsimp only [Option.map_some, Option.getD_some, Option.isSome_some] at hlk
      have HR := Lib.hid (show dRename Sv.nil d n t = (dAdd d1 ⟨1, n, t, Sv.nil⟩, 0) from by rw [hR, hgt]; rfl)
      clear hR hgt
      go_wp2_with fail
      refine (Add_any (x := ⟨1, n, t, Sv.nil⟩) hD2 (by rw [s2]; omega) (by rw [hsh]; omega) (named_len hnm) (named_len hnt)).mono ?_
      rintro e w4 ⟨rfl, hG⟩
      have hE := (Dgo.add hD2 (named_len hnm) (named_len hnt) hG).next hF2 s1 s2
      clear hlk a0 a1 a2
      go_wp2_with fail
      go_ret
      exact ⟨by rw [HR.out]; rfl, by rw [HR.out]; exact hE⟩
  · have HR := Lib.hid (show dRename Sv.nil d n t = (d1, 14) from by rw [hR, if_pos (by simp)])
    rw [show errv 14 = Value.iface 64 (.int .i64 14) from rfl] at hW
    have HW := Lib.hid hW
    clear hW hR
    go_enter Tryd.func14, Tryd.ntmps14
    go_wp2_with fail
    refine HW.out.mono ?_
    rintro e w1 ⟨rfl, hD1, hw1⟩
    go_wp2_with fail
    go_ret
    exact ⟨by rw [HR.out]; rfl, by rw [HR.out]; exact Dgo.of hD1 (Frd.of_wr (.inl rfl) hw1) s1 s2⟩
end Go.Proofs.YtabkeaammiellaaDoor
