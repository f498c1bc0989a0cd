/- WHAT IT HOLDS: what a fuse lets through, plainly (no program). | WHAT IT HOLDS: what is told of a disk: its names, what is pending, what is used; texts compared: walked. | WHAT IT HOLDS: a store, plainly: what is done to a disk. | WHAT IT HOLDS: a file of a disk named anew, walked. | WHAT IT HOLDS: a disk's sure files, told as a slice of files of their own, walked; texts compared. | WHAT IT HOLDS: the law's disk is alive, walked. | WHAT IT HOLDS: the document's names, walked; what a nil disk answers, walked; the law DiskNames, walked. | WHAT IT HOLDS: a store in memory; which texts are objects' names; what is asked for; objects put, read, deleted: walked. | WHAT IT HOLDS: a store's objects read; a store opened: walked. | WHAT IT HOLDS: Find, walked. | WHAT IT HOLDS: the law's store is alive, walked. | WHAT IT HOLDS: maps from texts to values of any kind in memory: looked up, written, gone through. | WHAT IT HOLDS: arguments that are acts of a disk, opened to the words of Kit. -/
import Derived.Test.YtajfnmohlnkncaaGreatDoorVaultAgreesG15
import Derived.Test.YtajfnmohlnkncaaGreatDoorShelf
import Derived.Test.YtajfnmohlnkncaaGreatDoorVaultAgreesG14
import Derived.Deep.QuietTactic
import Derived.BigQuiet
import Derived.Test.YtajfnmohlnkncaaGreatDoorVaultAgreesG02
import Derived.Test.YtajfnmohlnkncaaGreatDoorShelfB
import Derived.Laws.Concat
import Derived.Test.YtajfnmohlnkncaaGreatDoorVaultAgreesG06
import Derived.Test.YtajfnmohlnkncaaGreatDoorVaultAgreesG13
import Derived.Test.YtajfnmohlnkncaaGreatDoorVaultAgreesG04
namespace Go.Proofs.YtajfnmohlnkncaaGreatDoor
section
section
variable {α : Type}
def Opd (d : Dk α) (r : Dk α × Nat) : Prop :=
 (r.2 = 14 ↔ (dWorks d).2 = 14) ∧ r.1.fuse = (dWorks d).1.fuse ∧ r.1.down = (dWorks d).1.down ∧ r.1.sure.length + r.1.pend.length ≤ d.sure.length + d.pend.length + 1
theorem Opd.works (d : Dk α) (k : Nat) (hk : k ≠ 14) (h : (dWorks d).2 = 0) : Opd d ((dWorks d).1, k) := by
 obtain ⟨s1, s2, -, -⟩ := dWorks_same d
 refine ⟨⟨fun e => absurd e hk, fun e => by rw [h] at e; cases e⟩, rfl, rfl, ?_⟩
 dsimp only
 rw [s1, s2]
 omega
theorem Opd.down (d : Dk α) : Opd d (dWorks d) := by
 obtain ⟨s1, s2, -, -⟩ := dWorks_same d
 refine ⟨Iff.rfl, rfl, rfl, ?_⟩
 rw [s1, s2]
 omega
theorem Opd.add (d : Dk α) (c : Chg α) (h : (dWorks d).2 = 0) : Opd d (dAdd (dWorks d).1 c, 0) := by
 obtain ⟨s1, s2, -, -⟩ := dWorks_same d
 refine ⟨⟨fun e => (by cases e), fun e => (by rw [h] at e; cases e)⟩, rfl, rfl, ?_⟩
 unfold dAdd
 dsimp only
 rw [s1, s2, List.length_append]
 simp
 omega
theorem dWorks_zero {d : Dk α} (h : ¬ (dWorks d).2 ≠ 0) : (dWorks d).2 = 0 := Decidable.byContradiction h
theorem Opd.write (len : α → Nat) (d : Dk α) (n : Bs) (v : α) : Opd d (dWrite len d n v) := by
 unfold dWrite
 split
 · exact Opd.down d
 · rename_i h
   have h := dWorks_zero h
   split
   · exact Opd.works d 2 (by decide) h
   · split
     · exact Opd.works d 3 (by decide) h
     · split
       · exact Opd.works d 5 (by decide) h
       · exact Opd.add d _ h
theorem Opd.rename (z : α) (d : Dk α) (n t : Bs) : Opd d (dRename z d n t) := by
 unfold dRename
 split
 · exact Opd.down d
 · rename_i h
   have h := dWorks_zero h
   split
   · exact Opd.works d 2 (by decide) h
   · split
     · exact Opd.works d 4 (by decide) h
     · exact Opd.add d _ h
theorem Opd.remove (z : α) (d : Dk α) (n : Bs) : Opd d (dRemove z d n) := by
 unfold dRemove
 split
 · exact Opd.down d
 · rename_i h
   have h := dWorks_zero h
   split
   · exact Opd.works d 2 (by decide) h
   · split
     · exact Opd.works d 4 (by decide) h
     · exact Opd.add d _ h
theorem Opd.sync (d : Dk α) : Opd d (dSync d) := by
 unfold dSync
 split
 · exact Opd.down d
 · rename_i h
   have h := dWorks_zero h
   refine ⟨⟨fun e => (by cases e), fun e => by rw [h] at e; cases e⟩, rfl, rfl, ?_⟩
   have := flen_dos d.sure d.pend
   unfold Dk.shown
   dsimp only
   simp
   omega
end
theorem fused_le (l : List (Bs × Sv)) (h : ∀ p ∈ l, p.2.l.length ≤ 65536) : fused svl l ≤ 65536 * l.length := by
 unfold fused
 induction l with
 | nil => simp
 | cons p r ih =>
  have h1 := h p (List.mem_cons_self ..)
  have h2 := ih fun q hq => h q (List.mem_cons_of_mem _ hq)
  simp only [List.map_cons, List.sum_cons, List.length_cons]
  have : svl p.2 = p.2.l.length := rfl
  omega
theorem Dsk.fits {w : World} {q : Fp} {d : Dk Sv} (h : Dsk w q d) {k : Nat} (hk : d.sure.length + d.pend.length ≤ k) (hk2 : k ≤ 1000) : d.pend.length ≤ 1000000 ∧ d.shown.length ≤ 100000000 ∧ fused svl d.shown ≤ 1000000000000 ∧ d.sure.length ≤ 1000000 := by
 have h1 := flen_dos d.sure d.pend
 have h2 := fused_le d.shown fun p hp => h.len _ (h.shown_mem p hp).2
 have h3 : d.shown.length ≤ d.sure.length + d.pend.length := h1
 refine ⟨by omega, by omega, by omega, by omega⟩
end
section
open Go.RowKit Go.Maps Go.Sort
attribute [local go_sem ↓] Go.wp_at_zero Go.wp_at_succ
theorem bb_le : ∀ {a b : Bs}, bytesBefore a b = true → a ≤ b
 | [], [], h => by cases h
 | [], _ :: _, _ => List.nil_le _
 | _ :: _, [], h => by cases h
 | x :: r, y :: s, h => by
  unfold bytesBefore at h
  rw [List.cons_le_cons_iff]
  rcases Decidable.em (x = y) with e | e
  · subst e
    refine .inr ⟨rfl, bb_le ?_⟩
    simpa using h
  · refine .inl ?_
    have h2 : x.toNat < y.toNat := by
     have he : ¬ x.toNat = y.toNat := fun e2 => e (UInt8.toNat_inj.1 e2)
     simp [e] at h
     have := UInt8.lt_iff_toNat_lt.1 h
     exact this
    exact UInt8.lt_iff_toNat_lt.2 h2
abbrev tx (m : List Bs) : List Value := m.map encStr
def names {α : Type} (l : List (Bs × α)) : List Bs := l.map (·.1)
theorem names_sorted {l : List (Bs × Sv)} (h : Ris l) {ss : List Bs} (hp : ss.Perm (strKeys (dat l))) : ss.mergeSort (fun x y => decide (x ≤ y)) = names l := by
 have e : strKeys (dat l) = names l := by
  show (List.map _ (List.map _ l)) = List.map _ l
  rw [List.map_map]
  rfl
 rw [e] at hp
 rw [show (fun x y : Bs => decide (x ≤ y)) = leB from rfl, mergeSort_of_perm hp]
 refine List.mergeSort_of_pairwise ?_
 unfold names
 rw [List.pairwise_map]
 refine h.imp ?_
 intro a b hab
 exact decide_eq_true (bb_le hab)
theorem row_form {w : World} {base : Nat} {e : TypeId} {size : Nat} {v : Value} {n : Nat} {xs : List Value} (h : w.ownsRow base e size v n xs) : ∃ A c, v = .slice A n c := by
 obtain ⟨h1, h2⟩ := h
 rcases h2 with ⟨hv, hx⟩ | ⟨g1, cap, cur, hv, r⟩
 · subst hx
   exact ⟨none, 0, hv⟩
 · exact ⟨_, _, hv⟩
abbrev OwnT (w : World) (base : Nat) (A : Option Addr) (c : Nat) (m : List Bs) : Prop := Own w base 9 1 A m.length c (tx m)
def SlT (w : World) (A : Option Addr) (c : Nat) (m : List Bs) : Prop := Sl w 1 A m.length c (tx m)
theorem Keys_any (b : Nat) (w : World) : Calls Tryz.prog 94 #[.map (some b)] w fun e w' => e = .returned (.func (.func 120) #[] #[.pointer (some ⟨w.heap.size, 0, none⟩)]) ∧ w' = w.alloc (.cells #[.map (some b)] 87) :=
 callsIn_wide.1 (Tryz.maps_Keys_94 (some b) w)
theorem Sorted_any {w : World} {b : Nat} {l : List (Bs × Sv)} (h : OmD w b l) (hr : Ris l) (hl : l.length ≤ 100000000) :
 Calls Tryz.prog 93 #[.func (.func 120) #[] #[.pointer (some ⟨w.heap.size, 0, none⟩)]] (w.alloc (.cells #[.map (some b)] 87)) fun e w' => ∃ A c m, e = .returned (.slice A (List.length m) c) ∧ Hid (m = names l) ∧ OwnT w' w.heap.size A c m ∧ Below w.heap.size w w' := by
 refine (callsIn_wide.1 (Tryz.slices_Sorted_keys_93_94 b l.length (dat l) tok w h (by rw [dat_size]; unfold maxLen; omega) (by rw [dat_size]; omega))).mono ?_
 rintro e w' ⟨v, ss, rfl, hp, ho, -, hb⟩
 rw [names_sorted hr hp] at ho
 have hn : ss.length = (names l).length := by
  rw [← names_sorted hr hp, List.length_mergeSort]
 rw [hn] at ho
 obtain ⟨A, c, rfl⟩ := row_form ho
 have hsz : w.heap.size ≤ (w.alloc (.cells #[.map (some b)] 87)).heap.size := by simp
 refine ⟨A, c, names l, rfl, (show _ = _ from rfl), Own.more ho hsz, (below_new w _).trans (hb.mono hsz)⟩
set_option maxRecDepth 100000 in
set_option maxHeartbeats 1000000 in
theorem DList_any {w : World} {q : Fp} {d : Dk Sv} (h : Dsk w q d) (hL : d.shown.length ≤ 100000000) : Calls Tryz.prog 59 #[.pointer (some ⟨q.g, 0, none⟩)] w fun e w' => ∃ A c m, e = .returned (.tuple #[.slice A (List.length m) c, errv (if d.down = true then 14 else 0)]) ∧ Hid (m = if d.down = true then [] else names d.shown) ∧ OwnT w' w.heap.size A c m ∧ Below w.heap.size w w' := by
 have hlk := Looks_any h
 cases hd : d.down
 · rw [hd, if_neg (by simp), show errv 0 = Value.nilIface from rfl] at hlk
   obtain ⟨a0, a1, a2, a3, a4, a5, -⟩ := h.six
   have HK := Lib.hid (Keys_any q.bm w)
   have HS := Lib.hid (Sorted_any h.shown (h.ris.fdos _) hL)
   have HL := Lib.hid hlk
   clear h hlk hd
   go_enter Tryz.func59, Tryz.ntmps59
   go_wp2_with fail
   refine HL.out.mono ?_
   rintro e w1 ⟨rfl, rfl⟩
   go_wp2_with fail
   refine HK.out.mono ?_
   rintro e w1 ⟨rfl, rfl⟩
   go_wp2_with fail
   refine HS.out.mono ?_
   rintro e w2 ⟨A, c, m, rfl, hm, ho, hb⟩
   go_wp2_with fail
   go_ret2
   exact ⟨A, c, m, rfl, (show _ = _ from hm.out), ho, hb⟩
 · rw [hd, if_pos rfl, show errv 14 = Value.iface 60 (.int .i64 14) from rfl] at hlk
   have HL := Lib.hid hlk
   clear h hlk hd
   go_enter Tryz.func59, Tryz.ntmps59
   go_wp2_with fail
   refine HL.out.mono ?_
   rintro e w1 ⟨rfl, rfl⟩
   go_wp2_with fail
   go_ret2
   exact ⟨none, 0, [], rfl, (show _ = _ from rfl), Own.none_ _ _ _ _, Below.refl _ _⟩
end
section
def begun (n : Bs) : Bs := 126 :: n
def isBegun (n : Bs) : Bool := Lib.hasPrefix n [126]
def snamed (n : Bs) : Bool := decide (n.length ≤ 20) && named n && !decide (126 ∈ n)
section
variable {α : Type}
def sSweep (z : α) : List Bs → Dk α → Bool → Dk α × Nat × Bool
 | [], d, b => (d, 0, b)
 | n :: r, d, b => if isBegun n = true then (if (dRemove z d n).2 ≠ 0 then ((dRemove z d n).1, (dRemove z d n).2, b) else sSweep z r (dRemove z d n).1 true) else sSweep z r d b
def sOpen (z : α) (d : Dk α) : Dk α × Nat :=
 if d.down = true then (d, 14) else
  if (sSweep z (names d.shown) d false).2.1 ≠ 0 then ((sSweep z (names d.shown) d false).1, (sSweep z (names d.shown) d false).2.1)
  else if (sSweep z (names d.shown) d false).2.2 = true then dSync (sSweep z (names d.shown) d false).1 else ((sSweep z (names d.shown) d false).1, 0)
def andThen (r : Dk α × Nat) (f : Dk α → Dk α × Nat) : Dk α × Nat := if r.2 ≠ 0 then r else f r.1
def sPut (len : α → Nat) (z : α) (d : Dk α) (n : Bs) (v : α) : Dk α × Nat :=
 if snamed n = false then (d, 2) else
  andThen (dWrite len d (begun n) v) fun d => andThen (dSync d) fun d => andThen (dRename z d (begun n) n) dSync
def sGet (d : Dk α) (n : Bs) : Option α × Nat := if snamed n = false then (none, 2) else dRead d n
end
/-! ### what an act leaves of a fuse, and how much there is -/
def Fok (d : Dk Sv) : Prop := -1 ≤ d.fuse ∧ d.fuse ≤ 9223372036854775807
theorem Fok.works {d : Dk Sv} (h : Fok d) : Fok (dWorks d).1 := by
 unfold Fok dWorks at *
 split
 · exact h
 · split
   · exact h
   · split
     · dsimp only; omega
     · exact h
theorem Fok.opd {d : Dk Sv} {r : Dk Sv × Nat} (h : Fok d) (ho : Opd d r) : Fok r.1 := by
 have := h.works
 unfold Fok at *
 rw [ho.2.1]
 exact this
theorem opd_len {α : Type} {d : Dk α} {r : Dk α × Nat} (h : Opd d r) {k : Nat} (hk : d.sure.length + d.pend.length ≤ k) : r.1.sure.length + r.1.pend.length ≤ k + 1 := by have := h.2.2.2; omega
end
section
open Go.RowKit Go.Maps Go.Sort
attribute [local go_sem ↓] Go.wp_at_zero Go.wp_at_succ
set_option maxRecDepth 100000 in
set_option maxHeartbeats 1000000 in
theorem Rename_any {w : World} {q : Fp} {d : Dk Sv} (h : Dsk w q d) (hf : -1 ≤ d.fuse ∧ d.fuse ≤ 9223372036854775807) (hp : d.pend.length ≤ 1000000) (hL : d.shown.length ≤ 100000000) (n t : Bs) (hn : n.length ≤ 100000000) (ht : t.length ≤ 100000000) :
 Calls Tryz.prog 78 #[.pointer (some ⟨q.g, 0, none⟩), .string ⟨n.toArray⟩, .string ⟨t.toArray⟩] w fun e w' => e = .returned (errv (dRename Sv.nil d n t).2) ∧ Dgo w q d (dRename Sv.nil d n t).1 w' := by
 have hW := Works_any h hf
 obtain ⟨s1, s2, s3, s4⟩ := dWorks_same d
 have hR : dRename Sv.nil d n t = if (dWorks d).2 ≠ 0 then dWorks d else if named n = false ∨ named t = false then ((dWorks d).1, 2) else if (gget n d.shown).isNone = true then ((dWorks d).1, 4) else (dAdd (dWorks d).1 ⟨1, n, t, Sv.nil⟩, 0) := rfl
 generalize dWorks d = dw at *
 obtain ⟨d1, k⟩ := dw
 dsimp only at *
 have hsh : d1.shown = d.shown := by unfold Dk.shown; rw [s1, s2]
 clear h hf
 rcases s4 with rfl | rfl
 · rw [if_neg (by simp)] at hR
   rw [show errv 0 = Value.nilIface from rfl] at hW
   have HW := Lib.hid hW
   clear hW
   go_enter Tryz.func78, Tryz.ntmps78
   go_wp2_with fail
   refine HW.out.mono ?_
   rintro e w1 ⟨rfl, hD1, hw1⟩
   have hF1 : Frd q w w1 := Frd.of_wr (.inl rfl) hw1
   go_wp2_with fail
   refine (Named_any n w1 (by omega)).mono ?_
   rintro e w2 ⟨rfl, hb2⟩
   have hD2 := hD1.below hb2
   have hF2 : Frd q w w2 := hF1.trans (Frd.of_below (q := q) hb2) fun i hi => .inl hi
   cases hnm : named n
   · have HR := Lib.hid (show dRename Sv.nil d n t = (d1, 2) from by rw [hR, if_pos (.inl hnm)])
     clear hR hnm
     go_wp2_with fail
     go_ret
     exact ⟨by rw [HR.out]; rfl, by rw [HR.out]; exact Dgo.of hD2 hF2 s1 s2⟩
   go_wp2_with fail
   refine (Named_any t w2 (by omega)).mono ?_
   rintro e w3 ⟨rfl, hb3⟩
   replace hD2 := hD2.below hb3
   replace hF2 : Frd q w w3 := hF2.trans (Frd.of_below (q := q) hb3) fun i hi => .inl hi
   cases hnt : named t
   · have HR := Lib.hid (show dRename Sv.nil d n t = (d1, 2) from by rw [hR, if_pos (.inr hnt)])
     clear hR hnm hnt
     go_wp2_with fail
     go_ret
     exact ⟨by rw [HR.out]; rfl, by rw [HR.out]; exact Dgo.of hD2 hF2 s1 s2⟩
   rw [if_neg (by simp [hnm, hnt])] at hR
   have hlk := hD2.shown.look (T := 87) (E := 52) Tryz.underlying9 Tryz.underlying87 (zero_bs _) (k := n) (by unfold maxLen; omega)
   rw [hsh] at hlk
   obtain ⟨a0, a1, a2, -⟩ := hD2.six
   cases hgt : gget n d.shown with
   | none =>
    rw [hgt] at hlk
    have HR := Lib.hid (show dRename Sv.nil d n t = (d1, 4) from by rw [hR, hgt]; rfl)
    clear hR hgt
    go_wp2_with fail
    go_ret
    exact ⟨by rw [HR.out]; rfl, by rw [HR.out]; exact Dgo.of hD2 hF2 s1 s2⟩
   | some u =>
    rw [hgt] at hlk
    dsimp only [Option.map_some, Option.getD_some, Option.isSome_some] at hlk
    have HR := Lib.hid (show dRename Sv.nil d n t = (dAdd d1 ⟨1, n, t, Sv.nil⟩, 0) from by rw [hR, hgt]; rfl)
    clear hR hgt
    go_wp2_with fail
    refine (Add_any (x := ⟨1, n, t, Sv.nil⟩) hD2 (by rw [s2]; omega) (by rw [hsh]; omega) (named_len hnm) (named_len hnt)).mono ?_
    rintro e w4 ⟨rfl, hG⟩
    have hE := (Dgo.add hD2 (named_len hnm) (named_len hnt) hG).next hF2 s1 s2
    clear hlk a0 a1 a2
    go_wp2_with fail
    go_ret
    exact ⟨by rw [HR.out]; rfl, by rw [HR.out]; exact hE⟩
 · have HR := Lib.hid (show dRename Sv.nil d n t = (d1, 14) from by rw [hR, if_pos (by simp)])
   rw [show errv 14 = Value.iface 60 (.int .i64 14) from rfl] at hW
   have HW := Lib.hid hW
   clear hW hR
   go_enter Tryz.func78, Tryz.ntmps78
   go_wp2_with fail
   refine HW.out.mono ?_
   rintro e w1 ⟨rfl, hD1, hw1⟩
   go_wp2_with fail
   go_ret
   exact ⟨by rw [HR.out]; rfl, by rw [HR.out]; exact Dgo.of hD1 (Frd.of_wr (.inl rfl) hw1) s1 s2⟩
theorem SlT.at1 {w : World} {A : Option Addr} {c : Nat} {m : List Bs} (h : SlT w A c m) {k : Nat} (hk : k < m.length) : ∃ ad b o, A = some ad ∧ ad.add k = ⟨b, o, none⟩ ∧ w.cell? ⟨b, o, none⟩ = some (.string ⟨m[k].toArray⟩) := by
 have h2 : Sl w 1 A m.length c (m.flatMap fun x => [encStr x]) := by
  have := h
  unfold SlT tx at this
  rwa [List.map_eq_flatMap] at this
 obtain ⟨ad, b, o, hA, had, hcc⟩ := Sl.atS (f := fun x => [encStr x]) (size := 1) (fun _ => rfl) (by omega) h2 hk
 have hc := hcc 0 _ rfl
 rw [Nat.add_zero] at hc
 rw [Nat.mul_one] at had
 exact ⟨ad, b, o, hA, had, hc⟩
/-! ### rows that stay while a disk is used -/
def Hld (q : Fp) (w : World) (A : Option Addr) : Prop := ∀ k, A.map (·.block) = some k → k < w.heap.size ∧ ¬ q.M k
theorem Hld.act {q q' : Fp} {w w' : World} {A : Option Addr} (h : Hld q w A) (hF : Frd q w w') (hM : ∀ i, q'.M i → q.M i ∨ w.heap.size ≤ i) : Hld q' w' A := fun k hk => by
 obtain ⟨h1, h2⟩ := h k hk
 exact ⟨Nat.lt_of_lt_of_le h1 hF.size, fun hq => by
  rcases hM k hq with h3 | h3
  · exact h2 h3
  · omega⟩
theorem Hld.of {q : Fp} {w0 w : World} {d : Dk Sv} (hD : Dsk w0 q d) {A : Option Addr} (h : ∀ k, A.map (·.block) = some k → w0.heap.size ≤ k ∧ k < w.heap.size) : Hld q w A := fun k hk => ⟨(h k hk).2, fun hq => by
 have := hD.ltM hq
 have := (h k hk).1
 omega⟩
theorem Sl.sameH {w w' : World} {size n c : Nat} {A : Option Addr} {xs : List Value} (h : Sl w size A n c xs) (hs : ∀ k, A.map (·.block) = some k → w'.heap[k]? = w.heap[k]?) : Sl w' size A n c xs :=
 ⟨h.1, h.2.1, h.2.2.1, h.2.2.2.1, fun j u hj => by
  obtain ⟨ad, hA, hc⟩ := h.2.2.2.2 j u hj
  refine ⟨ad, hA, ?_⟩
  rw [← hc]
  unfold World.cell?
  rw [addr_add_block, hs ad.block (by rw [hA]; rfl)]⟩
theorem Hld.same {q : Fp} {w w' : World} {A : Option Addr} (h : Hld q w A) (hF : Frd q w w') : ∀ k, A.map (·.block) = some k → w'.heap[k]? = w.heap[k]? := fun k hk => hF.block k (h k hk).1 (h k hk).2
def TxH (q : Fp) (w : World) (A : Option Addr) (c : Nat) (m : List Bs) : Prop := SlT w A c m ∧ Hld q w A
theorem TxH.act {q q' : Fp} {w w' : World} {A : Option Addr} {c : Nat} {m : List Bs} (h : TxH q w A c m) (hF : Frd q w w') (hM : ∀ i, q'.M i → q.M i ∨ w.heap.size ≤ i) : TxH q' w' A c m := ⟨Sl.sameH h.1 (h.2.same hF), h.2.act hF hM⟩
theorem TxH.of {q : Fp} {w0 w : World} {d : Dk Sv} (hD : Dsk w0 q d) {A : Option Addr} {c : Nat} {m : List Bs} (h : OwnT w w0.heap.size A c m) : TxH q w A c m := ⟨Own.sl h, Hld.of hD (Own.lt h)⟩
/-! ### a nil disk -/
theorem index_has (l : Bs) : decide (0 ≤ Lib.indexByte l 126) = decide (126 ∈ l) := by
 refine decide_eq_decide.2 ?_
 induction l with
 | nil => simp [Lib.indexByte]
 | cons b r ih =>
  have hge := Lib.indexByte_ge r 126
  unfold Lib.indexByte
  by_cases hb : b = 126
  · subst hb
    simp
  · rw [if_neg (by simpa using hb)]
    have hne : ¬ (126 : UInt8) = b := fun e => hb e.symm
    by_cases hm : Lib.indexByte r 126 = -1
    · rw [if_pos (by simp [hm])]
      rw [hm] at ih
      simp only [List.mem_cons, hne, false_or]
      rw [← ih]
    · rw [if_neg (by simpa using hm)]
      simp only [List.mem_cons, hne, false_or]
      rw [← ih]
      omega
set_option maxRecDepth 100000 in
set_option maxHeartbeats 1000000 in
theorem SNamed_any (s : Bs) (w : World) (hl : s.length ≤ 9223372036854775807) : Calls Tryz.prog 90 #[.string ⟨s.toArray⟩] w fun e w' => e = .returned (.bool (snamed s)) ∧ Below w.heap.size w w' := by
 have hsz : (ByteArray.size ⟨s.toArray⟩) = s.length := by simp [ByteArray.size]
 have HC := Lib.hid (fun W => Tryz.strings_Contains_one ⟨s.toArray⟩ 126 W)
 rcases Nat.lt_or_ge 20 s.length with h | h
 · have hI : (20 : Int) < (s.length : Int) := by omega
   have HN := Lib.hid (show snamed s = false from by unfold snamed; rw [decide_eq_false (by omega)]; rfl)
   go_enter Tryz.func90, Tryz.ntmps90
   go_wp2_with fail
   go_ret
   exact ⟨by rw [HN.out]; rfl, Below.refl _ _⟩
 have hI : (s.length : Int) ≤ 20 := by omega
 have hd : decide (s.length ≤ 20) = true := decide_eq_true (by omega)
 go_enter Tryz.func90, Tryz.ntmps90
 go_wp2_with fail
 refine (Named_any s w hl).mono ?_
 rintro e w1 ⟨rfl, hb⟩
 cases hn : named s with
 | false =>
  have HN := Lib.hid (show snamed s = false from by unfold snamed; rw [hd, hn]; rfl)
  go_wp2_with fail
  go_ret
  exact ⟨by rw [HN.out]; rfl, hb⟩
 | true =>
  have HN := Lib.hid (show snamed s = !decide (126 ∈ s) from by unfold snamed; rw [hd, hn]; simp)
  go_wp2_with fail
  refine (HC.out _).mono ?_
  rintro e w2 ⟨rfl, rfl⟩
  rw [index_has]
  go_wp2_with fail
  go_ret
  exact ⟨by rw [HN.out]; rfl, hb⟩
theorem errv_ifc {n : Nat} (h : n ≠ 0) : ∃ v, errv n = .iface 60 v := by
 match n, h with
 | k + 1, _ => exact ⟨_, rfl⟩
abbrev sta (q : Fp) : Array Value := #[.pointer (some ⟨q.g, 0, none⟩)]
set_option maxRecDepth 100000 in
set_option maxHeartbeats 1000000 in
theorem Asks_any (g : Nat) (s : Bs) (w : World) (hl : s.length ≤ 9223372036854775807) : Calls Tryz.prog 63 #[.pointer (some ⟨g, 0, none⟩), .string ⟨s.toArray⟩] w fun e w' => e = .returned (errv (if snamed s = true then 0 else 2)) ∧ Below w.heap.size w w' := by
 have HN := Lib.hid (fun W => SNamed_any s W hl)
 cases hn : snamed s with
 | false =>
  rw [hn] at HN
  go_enter Tryz.func63, Tryz.ntmps63
  go_wp2_with fail
  refine (HN.out _).mono ?_
  rintro e w1 ⟨rfl, hb⟩
  go_wp2_with fail
  go_ret
  exact ⟨rfl, hb⟩
 | true =>
  rw [hn] at HN
  go_enter Tryz.func63, Tryz.ntmps63
  go_wp2_with fail
  refine (HN.out _).mono ?_
  rintro e w1 ⟨rfl, hb⟩
  go_wp2_with fail
  go_ret
  exact ⟨rfl, hb⟩
theorem Dgo.trans {w w1 w2 : World} {q q1 : Fp} {d d1 d2 : Dk Sv} (hg : q1.g = q.g) (hF : Frd q w w1) (hM : ∀ i, q1.M i → q.M i ∨ w.heap.size ≤ i) (hT : ∀ i, Tc q1 d1 i → Tc q d i ∨ w.heap.size ≤ i) (h : Dgo w1 q1 d1 d2 w2) : Dgo w q d d2 w2 := by
 obtain ⟨q2, hg2, hD, hF2, hM2, hT2⟩ := h
 have hs := hF.size
 refine ⟨q2, hg2.trans hg, hD, hF.trans hF2 hM, fun i hi => ?_, fun i hi => ?_⟩
 · rcases hM2 i hi with h1 | h1
   · exact hM i h1
   · exact .inr (by omega)
 · rcases hT2 i hi with h1 | h1
   · exact hT i h1
   · exact .inr (by omega)
theorem Dgo.below {w w1 w2 : World} {q : Fp} {d d2 : Dk Sv} (hb : Below w.heap.size w w1) (h : Dgo w1 q d d2 w2) : Dgo w q d d2 w2 :=
 Dgo.trans rfl (Frd.of_below hb) (fun _ hi => .inl hi) (fun _ hi => .inl hi) h
theorem Dgo.still {w w1 : World} {q : Fp} {d : Dk Sv} (h : Dsk w q d) (hb : Below w.heap.size w w1) : Dgo w q d d w1 := Dgo.of (h.below hb) (Frd.of_below hb) rfl rfl
structure StM (w : World) (gs : Nat) (q : Fp) (d : Dk Sv) : Prop where
 dsk : Dsk w q d
 blk : Blk w gs 133 (sta q)
 ap : ¬ q.M gs
theorem StM.below {w w' : World} {gs : Nat} {q : Fp} {d : Dk Sv} (h : StM w gs q d) (hb : Below w.heap.size w w') : StM w' gs q d := ⟨h.dsk.below hb, h.blk.below hb, h.ap⟩
theorem StM.cl {w : World} {gs : Nat} {q : Fp} {d : Dk Sv} (h : StM w gs q d) : w.cell? ⟨gs, 0, none⟩ = some (.pointer (some ⟨q.g, 0, none⟩)) := h.blk.cell 0
theorem StM.act {w w' : World} {gs : Nat} {q q' : Fp} {d d' : Dk Sv} (h : StM w gs q d) (hg : q'.g = q.g) (hD : Dsk w' q' d') (hF : Frd q w w') (hM : ∀ i, q'.M i → q.M i ∨ w.heap.size ≤ i) : StM w' gs q' d' :=
 ⟨hD, by unfold sta; rw [hg]; exact (hF.block gs h.blk.lt h.ap).trans h.blk, fun hq => by
  rcases hM gs hq with h1 | h1
  · exact h.ap h1
  · have := h.blk.lt
    omega⟩
theorem snamed_len {n : Bs} (h : snamed n = true) : n.length ≤ 20 := by
 unfold snamed at h
 simp only [Bool.and_eq_true, decide_eq_true_eq] at h
 exact h.1.1
theorem cat_begun (n : Bs) : (⟨#[126]⟩ : ByteArray) ++ ⟨n.toArray⟩ = ⟨(begun n).toArray⟩ := by
 apply ByteArray.ext
 simp [begun]
set_option maxRecDepth 100000 in
set_option maxHeartbeats 1000000 in
theorem SPut_any {w : World} {gs : Nat} {q : Fp} {d : Dk Sv} (h : StM w gs q d) (hf : Fok d) (hl : d.sure.length + d.pend.length ≤ 900) (n : Bs) (hn : n.length ≤ 9223372036854775807) {A : Option Addr} {c : Nat} (l : Bs) (hS : SlB w A c l) (hSM : l ≠ [] → ∀ ad, A = some ad → ad.block ≠ q.g) (hll : l.length ≤ 100000000) :
 Calls Tryz.prog 35 #[.pointer (some ⟨gs, 0, none⟩), .string ⟨n.toArray⟩, .slice A l.length c] w fun e w' => ∃ A' c', e = .returned (errv (sPut svl Sv.nil d n ⟨A', c', l⟩).2) ∧ Dgo w q d (sPut svl Sv.nil d n ⟨A', c', l⟩).1 w' := by
 have HA := Lib.hid (Asks_any gs n w (by omega))
 have HS0 := Lib.hid h
 clear h
 cases hs : snamed n with
 | false =>
  rw [hs, if_neg (by simp), show errv 2 = Value.iface 60 (.int .i64 2) from rfl] at HA
  have HX := Lib.hid (show ∀ v, sPut svl Sv.nil d n v = (d, 2) from fun v => by unfold sPut; rw [if_pos hs])
  go_enter Tryz.func35, Tryz.ntmps35
  go_wp2_with fail
  refine HA.out.mono ?_
  rintro e w1 ⟨rfl, hb1⟩
  have HG := Lib.hid (Dgo.still HS0.out.dsk hb1)
  go_wp2_with fail
  go_ret
  exact ⟨none, 0, by rw [HX.out]; rfl, by rw [HX.out]; exact HG.out⟩
 | true =>
  have hnl := snamed_len hs
  rw [hs, if_pos rfl, show errv 0 = Value.nilIface from rfl] at HA
  have HX0 := Lib.hid (show ∀ v, sPut svl Sv.nil d n v = andThen (dWrite svl d (begun n) v) fun d => andThen (dSync d) fun d => andThen (dRename Sv.nil d (begun n) n) dSync from fun v => by unfold sPut; rw [if_neg (by simp [hs])])
  have hcat := cat_begun n
  have hbl : (begun n).length ≤ 21 := by unfold begun; simp; omega
  have hsz : (ByteArray.size ⟨n.toArray⟩) = n.length := by simp [ByteArray.size]
  have hsz1 : (ByteArray.size ⟨#[126]⟩) = 1 := rfl
  generalize hbn : begun n = bn at *
  go_enter Tryz.func35, Tryz.ntmps35
  go_wp2_with fail
  refine HA.out.mono ?_
  rintro e w1 ⟨rfl, hb1⟩
  have hS1 := HS0.out.below hb1
  have hb := hS1.cl
  obtain ⟨p1, p2, p3, -⟩ := hS1.dsk.fits hl (by omega)
  have HR := Lib.hid (Write_any hS1.dsk hf p1 p2 p3 bn (by omega) l (Sl.below hS hb1) hSM hll)
  have HS := Lib.hid hS1
  have HB1 := Lib.hid hb1
  obtain ⟨g0, hgq⟩ : ∃ g0, q.g = g0 := ⟨_, rfl⟩
  rw [hgq] at hb HR
  have HGq := Lib.hid hgq
  clear hgq
  have HT := Lib.hid (fun (d3 : Dk Sv) (w3 : World) (hG : Dgo w1 q d d3 w3) => Dgo.below hb1 hG)
  clear HA hS1 hb1 hS HS0 HB1
  go_wp2_with fail
  refine HR.out.mono ?_
  rintro e w2 ⟨A2, c2, rfl, q2, hg2, hD2, hF2, hM2, hT2⟩
  have HX := Lib.hid (HX0.out ⟨A2, c2, l⟩)
  have hop := Opd.write svl d bn ⟨A2, c2, l⟩
  generalize dWrite svl d bn ⟨A2, c2, l⟩ = r at hop HX hD2 hT2 ⊢
  clear HR HX0 hSM
  obtain ⟨d1, n1⟩ := r
  have hf1 := hf.opd hop
  have hl1 := opd_len hop hl
  dsimp only at hf1 hl1 hD2 hT2 ⊢
  rcases Decidable.em (n1 = 0) with h0 | h0
  rotate_left
  · obtain ⟨ev, hev⟩ := errv_ifc h0
    have HG := Lib.hid (HT.out d1 w2 ⟨q2, hg2, hD2, hF2, hM2, hT2⟩)
    have HE := Lib.hid hev
    have HXX := Lib.hid (HX.out.trans (if_pos h0))
    rw [hev]
    clear hD2 hF2 hM2 hT2 HS hev HX HT
    go_wp2_with fail
    go_ret
    exact ⟨A2, c2, by rw [HXX.out, HE.out]; rfl, by rw [HXX.out]; exact HG.out⟩
  subst h0
  have HX3 := HX.out.trans (if_neg (by simp))
  dsimp only at HX3
  have hS2 := HS.out.act hg2 hD2 hF2 hM2
  have hg3 := hg2.trans HGq.out
  have hb2 := hS2.cl
  rw [hg3] at hb2
  have HT2 := Lib.hid (fun (d3 : Dk Sv) (w3 : World) (hG : Dgo w2 q2 d1 d3 w3) => HT.out _ _ (Dgo.trans hg2 hF2 hM2 hT2 hG))
  rw [show errv 0 = Value.nilIface from rfl]
  clear HS HT HGq hD2 hF2 hM2 hT2 hb HX hf hl hop
  obtain ⟨p1, p2, p3, -⟩ := hS2.dsk.fits hl1 (by omega)
  have HY := Lib.hid (Sync_any hS2.dsk hf1)
  rw [hg3] at HY
  have hop := Opd.sync d1
  generalize hry : dSync d1 = r at hop HX3 HY
  clear hry
  have HS := Lib.hid hS2
  have HT := Lib.hid HT2.out
  have HGq := Lib.hid hg3
  have HX := Lib.hid HX3
  have hb := hb2
  have hf := hf1
  have hl := hl1
  clear hS2 HT2 hg2 hg3 hb2 HX3 p1 p2 p3 hf1 hl1
  go_wp2_with fail
  refine HY.out.mono ?_
  clear HY
  rintro e w2 ⟨rfl, q2, hg2, hD2, hF2, hM2, hT2⟩
  obtain ⟨d1, n1⟩ := r
  have hf1 := hf.opd hop
  have hl1 := opd_len hop hl
  dsimp only at hf1 hl1 hD2 hT2 ⊢
  rcases Decidable.em (n1 = 0) with h0 | h0
  rotate_left
  · obtain ⟨ev, hev⟩ := errv_ifc h0
    have HG := Lib.hid (HT.out d1 w2 ⟨q2, hg2, hD2, hF2, hM2, hT2⟩)
    have HE := Lib.hid hev
    have HXX := Lib.hid (HX.out.trans (if_pos h0))
    rw [hev]
    clear hD2 hF2 hM2 hT2 HS hev HX HT
    go_wp2_with fail
    go_ret
    exact ⟨A2, c2, by rw [HXX.out, HE.out]; rfl, by rw [HXX.out]; exact HG.out⟩
  subst h0
  have HX3 := HX.out.trans (if_neg (by simp))
  dsimp only at HX3
  have hS2 := HS.out.act hg2 hD2 hF2 hM2
  have hg3 := hg2.trans HGq.out
  have hb2 := hS2.cl
  rw [hg3] at hb2
  have HT2 := Lib.hid (fun (d3 : Dk Sv) (w3 : World) (hG : Dgo w2 q2 d1 d3 w3) => HT.out _ _ (Dgo.trans hg2 hF2 hM2 hT2 hG))
  rw [show errv 0 = Value.nilIface from rfl]
  clear HS HT HGq hD2 hF2 hM2 hT2 hb HX hf hl hop
  obtain ⟨p1, p2, p3, -⟩ := hS2.dsk.fits hl1 (by omega)
  have HY := Lib.hid (Rename_any hS2.dsk hf1 p1 p2 bn n (by omega) (by have := snamed_len hs; omega))
  rw [hg3] at HY
  have hop := Opd.rename Sv.nil d1 bn n
  generalize hry : dRename Sv.nil d1 bn n = r at hop HX3 HY
  clear hry
  have HS := Lib.hid hS2
  have HT := Lib.hid HT2.out
  have HGq := Lib.hid hg3
  have HX := Lib.hid HX3
  have hb := hb2
  have hf := hf1
  have hl := hl1
  clear hS2 HT2 hg2 hg3 hb2 HX3 p1 p2 p3 hf1 hl1
  go_wp2_with fail
  refine HY.out.mono ?_
  clear HY
  rintro e w2 ⟨rfl, q2, hg2, hD2, hF2, hM2, hT2⟩
  obtain ⟨d1, n1⟩ := r
  have hf1 := hf.opd hop
  have hl1 := opd_len hop hl
  dsimp only at hf1 hl1 hD2 hT2 ⊢
  rcases Decidable.em (n1 = 0) with h0 | h0
  rotate_left
  · obtain ⟨ev, hev⟩ := errv_ifc h0
    have HG := Lib.hid (HT.out d1 w2 ⟨q2, hg2, hD2, hF2, hM2, hT2⟩)
    have HE := Lib.hid hev
    have HXX := Lib.hid (HX.out.trans (if_pos h0))
    rw [hev]
    clear hD2 hF2 hM2 hT2 HS hev HX HT
    go_wp2_with fail
    go_ret
    exact ⟨A2, c2, by rw [HXX.out, HE.out]; rfl, by rw [HXX.out]; exact HG.out⟩
  subst h0
  have HX3 := HX.out.trans (if_neg (by simp))
  dsimp only at HX3
  have hS2 := HS.out.act hg2 hD2 hF2 hM2
  have hg3 := hg2.trans HGq.out
  have hb2 := hS2.cl
  rw [hg3] at hb2
  have HT2 := Lib.hid (fun (d3 : Dk Sv) (w3 : World) (hG : Dgo w2 q2 d1 d3 w3) => HT.out _ _ (Dgo.trans hg2 hF2 hM2 hT2 hG))
  rw [show errv 0 = Value.nilIface from rfl]
  clear HS HT HGq hD2 hF2 hM2 hT2 hb HX hf hl hop
  obtain ⟨p1, p2, p3, -⟩ := hS2.dsk.fits hl1 (by omega)
  have HY := Lib.hid (Sync_any hS2.dsk hf1)
  rw [hg3] at HY
  clear hg3
  go_wp2_with fail
  refine HY.out.mono ?_
  clear HY
  rintro e w2 ⟨rfl, hG⟩
  have HG := Lib.hid (HT2.out _ _ hG)
  have HX := Lib.hid HX3
  clear hG HT2 HX3
  go_wp2_with fail
  go_ret
  exact ⟨A2, c2, by rw [HX.out]; rfl, by rw [HX.out]; exact HG.out⟩
set_option maxRecDepth 100000 in
set_option maxHeartbeats 1000000 in
theorem SGet_any {w : World} {gs : Nat} {q : Fp} {d : Dk Sv} (h : StM w gs q d) (n : Bs) (hn : n.length ≤ 9223372036854775807) :
 Calls Tryz.prog 30 #[.pointer (some ⟨gs, 0, none⟩), .string ⟨n.toArray⟩] w fun e w' => ∃ A c m, e = .returned (.tuple #[.slice A (List.length m) c, errv (sGet d n).2]) ∧ Hid (m = (((sGet d n).1.map Sv.l).getD [])) ∧ OwnB w' w.heap.size 5 A c m ∧ Below w.heap.size w w' := by
 have HA := Lib.hid (Asks_any gs n w (by omega))
 have HS := Lib.hid h
 clear h
 cases hs : snamed n with
 | false =>
  rw [hs, if_neg (by simp), show errv 2 = Value.iface 60 (.int .i64 2) from rfl] at HA
  have HX := Lib.hid (show sGet d n = (none, 2) from by unfold sGet; rw [if_pos hs])
  go_enter Tryz.func30, Tryz.ntmps30
  go_wp2_with fail
  refine HA.out.mono ?_
  rintro e w1 ⟨rfl, hb1⟩
  go_wp2_with fail
  go_ret2
  exact ⟨none, 0, [], by rw [HX.out]; rfl, (show _ = _ from by rw [HX.out]; rfl), Own.none_ _ _ _ _, hb1⟩
 | true =>
  rw [hs, if_pos rfl, show errv 0 = Value.nilIface from rfl] at HA
  have HX := Lib.hid (show sGet d n = dRead d n from by unfold sGet; rw [if_neg (by simp [hs])])
  go_enter Tryz.func30, Tryz.ntmps30
  go_wp2_with fail
  refine HA.out.mono ?_
  rintro e w1 ⟨rfl, hb1⟩
  have hS1 := HS.out.below hb1
  have hb := hS1.cl
  have HR := Lib.hid (Read_any hS1.dsk n (by have := snamed_len hs; omega))
  have HB1 := Lib.hid hb1
  clear HA HS hS1 hb1
  go_wp2_with fail
  refine HR.out.mono ?_
  rintro e w2 ⟨A2, c2, m2, rfl, hm2, ho2, hb2⟩
  have HM := Lib.hid hm2.out
  clear hm2 HR
  go_wp2_with fail
  go_ret2
  exact ⟨A2, c2, m2, by rw [HX.out]; rfl, (show _ = _ from by rw [HX.out]; exact HM.out), ho2.more HB1.out.size, bel_call HB1.out hb2⟩
def OpG (w : World) (q : Fp) (d : Dk Sv) (e : Ending) (w' : World) : Prop :=
 ∃ q', q'.g = q.g ∧ Dsk w' q' (sOpen Sv.nil d).1 ∧ Frd q w w' ∧ (∀ i, q'.M i → q.M i ∨ w.heap.size ≤ i) ∧ (∀ i, Tc q' (sOpen Sv.nil d).1 i → Tc q d i ∨ w.heap.size ≤ i) ∧
  ((sOpen Sv.nil d).2 = 0 ∧ (∃ gs, e = .returned (.tuple #[.pointer (some ⟨gs, 0, none⟩), .nilIface]) ∧ StM w' gs q' (sOpen Sv.nil d).1 ∧ w.heap.size ≤ gs) ∨ (sOpen Sv.nil d).2 ≠ 0 ∧ e = .returned (.tuple #[.pointer none, errv (sOpen Sv.nil d).2]))
theorem OpG.bad {w w' : World} {q : Fp} {d d1 : Dk Sv} {n1 : Nat} (hX : sOpen Sv.nil d = (d1, n1)) (h0 : n1 ≠ 0) (hG : Dgo w q d d1 w') : OpG w q d (.returned (.tuple #[.pointer none, errv n1])) w' := by
 obtain ⟨q', hg, hD, hF, hM, hT⟩ := hG
 refine ⟨q', hg, ?_⟩
 rw [hX]
 exact ⟨hD, hF, hM, hT, .inr ⟨h0, rfl⟩⟩
theorem OpG.good {w w' : World} {q : Fp} {d d1 : Dk Sv} {g0 : Nat} (hX : sOpen Sv.nil d = (d1, 0)) (hg0 : q.g = g0) (hG : Dgo w q d d1 w') : OpG w q d (.returned (.tuple #[.pointer (some ⟨w'.heap.size, 0, none⟩), .nilIface])) (w'.alloc (.cells #[.pointer (some ⟨g0, 0, none⟩)] 133)) := by
 obtain ⟨q', hg, hD, hF, hM, hT⟩ := hG
 have hb := below_new w' (.cells #[.pointer (some ⟨g0, 0, none⟩)] 133)
 refine ⟨q', hg, ?_⟩
 rw [hX]
 refine ⟨hD.below hb, hF.trans (Frd.of_below (q := q') hb) hM, hM, hT, .inl ⟨rfl, w'.heap.size, rfl, ⟨hD.below hb, ?_, fun hq => ?_⟩, hF.size⟩⟩
 · unfold sta
   rw [hg, hg0]
   exact Blk.new _ _ _
 · have := hD.ltM hq
   omega
set_option maxRecDepth 100000 in
set_option maxHeartbeats 1000000 in
theorem SOpen_any {w : World} {q : Fp} {d : Dk Sv} (h : Dsk w q d) (hf : Fok d) (hl : d.sure.length + d.pend.length ≤ 400) :
 Calls Tryz.prog 29 #[.pointer (some ⟨q.g, 0, none⟩)] w fun e w' => OpG w q d e w' := by
 obtain ⟨p1, p2, p3, -⟩ := h.fits hl (by omega)
 have HL := Lib.hid (DList_any h p2)
 have hsh : d.shown.length ≤ 400 := by have := flen_dos d.sure d.pend; unfold Dk.shown; omega
 have HD := Lib.hid h
 have HF := Lib.hid hf
 obtain ⟨g0, hgq⟩ : ∃ g0, q.g = g0 := ⟨_, rfl⟩
 have HGq := Lib.hid hgq
 rw [hgq] at HL ⊢
 clear h hf hgq
 cases hd : d.down with
 | true =>
  rw [hd, if_pos rfl, if_pos rfl, show errv 14 = Value.iface 60 (.int .i64 14) from rfl] at HL
  have HX := Lib.hid (show sOpen Sv.nil d = (d, 14) from by unfold sOpen; rw [if_pos hd])
  go_enter Tryz.func29, Tryz.ntmps29
  go_wp2_with fail
  refine HL.out.mono ?_
  rintro e w1 ⟨A, c, m, rfl, hm, ho, hb⟩
  have HG := Lib.hid (OpG.bad HX.out (by decide) (Dgo.still HD.out hb))
  clear HL hm ho hb
  go_wp2_with fail
  go_ret2
  exact HG.out
 | false =>
  rw [hd, if_neg (by simp), if_neg (by simp), show errv 0 = Value.nilIface from rfl] at HL
  have HX := Lib.hid (show sOpen Sv.nil d = if (sSweep Sv.nil (names d.shown) d false).2.1 ≠ 0 then ((sSweep Sv.nil (names d.shown) d false).1, (sSweep Sv.nil (names d.shown) d false).2.1) else if (sSweep Sv.nil (names d.shown) d false).2.2 = true then dSync (sSweep Sv.nil (names d.shown) d false).1 else ((sSweep Sv.nil (names d.shown) d false).1, 0) from by unfold sOpen; rw [if_neg (by simp [hd])])
  go_enter Tryz.func29, Tryz.ntmps29
  go_wp2_with fail
  refine HL.out.mono ?_
  rintro e w1 ⟨A, c, m, rfl, hm, ho, hb⟩
  have hml : m.length ≤ 400 := by rw [hm.out]; unfold names; rw [List.length_map]; exact hsh
  have HT := Lib.hid (TxH.of HD.out ho)
  have HN := Lib.hid (show ∀ x ∈ m, x.length ≤ 24 from by
   rw [hm.out]
   intro x hx
   obtain ⟨p, hp, rfl⟩ := List.mem_map.1 hx
   exact (HD.out.shown_mem p hp).1)
  rw [← hm.out] at HX
  have HG := Lib.hid (Dgo.still HD.out hb)
  clear HL hm ho
  go_wp2_with fail
  go_loopw [24, 6] (fun x y wr => ∃ (i : Nat) (d1 : Dk Sv) (sw : Bool) (q1 : Fp), i ≤ m.length ∧ x = .int .i64 i ∧ y = .bool sw ∧ q1.g = g0 ∧ Dsk wr q1 d1 ∧ Fok d1 ∧ d1.sure.length + d1.pend.length ≤ 400 + i ∧ TxH q1 wr A c m ∧ Hid (sSweep Sv.nil m d false = sSweep Sv.nil (m.drop i) d1 sw) ∧ Hid (∀ d3 w3, Dgo wr q1 d1 d3 w3 → Dgo w q d d3 w3)) (fun x _ w => m.length - (intOf x).toNat)
  case atStart => exact ⟨0, d, false, q, Nat.zero_le _, rfl, rfl, HGq.out, HD.out.below hb, HF.out, hl, HT.out, Lib.hid rfl, Lib.hid (fun d3 w3 hg => Dgo.below hb hg)⟩
  case round =>
   clear HT HG
   obtain ⟨i, d1, sw, q1, hi, rfl, rfl, hg1, hD1, hf1, hl1, hT1, hsw, hDt⟩ := hrel
   by_cases hlt : i < m.length
   · have hI : (i : Int) < (m.length : Int) := by omega
     obtain ⟨ad, b, o, hA, had, hc⟩ := SlT.at1 hT1.1 hlt
     have hxn := HN.out _ (List.getElem_mem hlt)
     have hdr : m.drop i = m[i] :: m.drop (i + 1) := List.drop_eq_getElem_cons hlt
     have HP := Lib.hid (fun W => Tryz.strings_HasPrefix ⟨m[i].toArray⟩ ⟨#[126]⟩ W)
     obtain ⟨p1, p2, p3, -⟩ := hD1.fits (k := 800) (by omega) (by omega)
     have HR := Lib.hid (Remove_any hD1 hf1 p1 p2 m[i] (by omega))
     rw [hg1] at HR
     have HS := Lib.hid (hsw.out.trans (by rw [hdr]; rfl : sSweep Sv.nil (m.drop i) d1 sw = if isBegun m[i] = true then (if (dRemove Sv.nil d1 m[i]).2 ≠ 0 then ((dRemove Sv.nil d1 m[i]).1, (dRemove Sv.nil d1 m[i]).2, sw) else sSweep Sv.nil (m.drop (i + 1)) (dRemove Sv.nil d1 m[i]).1 true) else sSweep Sv.nil (m.drop (i + 1)) d1 sw))
     have hib : Lib.hasPrefix m[i] [126] = isBegun m[i] := rfl
     clear hsw hdr
     generalize m[i] = x at *
     have hpx : ∀ W : World, Calls Tryz.prog 60 #[.string ⟨x.toArray⟩, .string ⟨#[126]⟩] W fun e w' => e = .returned (.bool (isBegun x)) ∧ w' = W := fun W => HP.out W
     have HP2 := Lib.hid hpx
     subst hA
     clear HP hpx hib
     have HD1 := Lib.hid hD1
     have HT1 := Lib.hid hT1
     have HF1 := Lib.hid hf1
     have Hg1 := Lib.hid hg1
     clear hD1 hT1 hf1 hg1
     go_wp2_with fail
     refine (HP2.out _).mono ?_
     rintro e w5 ⟨rfl, rfl⟩
     cases hbg : isBegun x with
     | false =>
      rw [hbg, if_neg (by simp)] at HS
      go_wp2_with fail
      go_roundw
      case rel => exact ⟨i + 1, d1, sw, q1, hlt, by go_num, rfl, Hg1.out, HD1.out, HF1.out, by omega, HT1.out, HS, hDt⟩
      case measure => simp [intOf]; omega
     | true =>
      rw [hbg, if_pos rfl] at HS
      have hop := Opd.remove Sv.nil d1 x
      generalize dRemove Sv.nil d1 x = r at *
      obtain ⟨d2, n2⟩ := r
      have hf2 := HF1.out.opd hop
      have hl2 := opd_len hop hl1
      dsimp only at hf2 hl2 HS
      go_wp2_with fail
      refine HR.out.mono ?_
      rintro e w6 ⟨rfl, q2, hg2, hD2, hF2, hM2, hT2⟩
      dsimp only at hD2 hT2 ⊢
      rcases Decidable.em (n2 = 0) with h0 | h0
      · subst h0
        rw [if_neg (by simp)] at HS
        have HT2 := Lib.hid (HT1.out.act hF2 hM2)
        have HDt := Lib.hid (fun (d3 : Dk Sv) (w3 : World) (hG : Dgo w6 q2 d2 d3 w3) => hDt.out _ _ (Dgo.trans hg2 hF2 hM2 hT2 hG))
        have HF2 := Lib.hid hf2
        have Hg2 := Lib.hid (hg2.trans Hg1.out)
        have HD2 := Lib.hid hD2
        rw [show errv 0 = Value.nilIface from rfl]
        clear HR hD2 hF2 hM2 hT2 hg2 hf2 HT1 hDt HD1
        go_wp2_with fail
        go_roundw
        case rel => exact ⟨i + 1, d2, true, q2, hlt, by go_num, rfl, Hg2.out, HD2.out, HF2.out, by omega, HT2.out, HS, HDt⟩
        case measure => simp [intOf]; omega
      · obtain ⟨ev, hev⟩ := errv_ifc h0
        rw [if_pos h0] at HS
        have HXX := Lib.hid (show sOpen Sv.nil d = (d2, n2) from by rw [HX.out, HS.out]; dsimp only; rw [if_pos h0])
        have HGo := Lib.hid (OpG.bad HXX.out h0 (hDt.out d2 w6 ⟨q2, hg2, hD2, hF2, hM2, hT2⟩))
        rw [hev] at HGo ⊢
        clear HR hD2 hF2 hM2 hT2 hg2 hf2 HT1 hDt HD1 hev
        go_wp2_with fail
        go_ret2
        exact HGo.out
   · have hI : (m.length : Int) ≤ (i : Int) := by omega
     have hdr : m.drop i = [] := List.drop_of_length_le (by omega)
     have HS := Lib.hid (show sSweep Sv.nil m d false = (d1, 0, sw) from by rw [hsw.out, hdr]; rfl)
     clear hsw hdr
     cases sw with
     | false =>
      have HXX := Lib.hid (show sOpen Sv.nil d = (d1, 0) from by rw [HX.out, HS.out]; rfl)
      have HGo := Lib.hid (OpG.good HXX.out HGq.out (hDt.out d1 wr (Dgo.of hD1 (Frd.of_below (Below.refl _ _)) rfl rfl)))
      clear hD1 hT1 hDt
      go_wp2_with fail
      go_ret2
      exact HGo.out
     | true =>
      have HXX := Lib.hid (show sOpen Sv.nil d = dSync d1 from by rw [HX.out, HS.out]; rfl)
      have HY := Lib.hid (Sync_any hD1 hf1)
      rw [hg1] at HY
      generalize dSync d1 = r at *
      obtain ⟨d2, n2⟩ := r
      clear hT1 hD1 hg1
      go_wp2_with fail
      refine HY.out.mono ?_
      rintro e w6 ⟨rfl, hG⟩
      dsimp only at hG ⊢
      rcases Decidable.em (n2 = 0) with h0 | h0
      · subst h0
        have HGo := Lib.hid (OpG.good HXX.out HGq.out (hDt.out _ _ hG))
        rw [show errv 0 = Value.nilIface from rfl]
        clear hG hDt HY
        go_wp2_with fail
        go_ret2
        exact HGo.out
      · obtain ⟨ev, hev⟩ := errv_ifc h0
        have HGo := Lib.hid (OpG.bad HXX.out h0 (hDt.out _ _ hG))
        rw [hev] at HGo ⊢
        clear hG hDt HY hev
        go_wp2_with fail
        go_ret2
        exact HGo.out
end
section
open Go.RowKit
attribute [local go_sem ↓] Go.wp_at_zero Go.wp_at_succ
def PtFit (p : Pt5) : Prop := 0 ≤ p.1 ∧ p.1 ≤ 10000000 ∧ 1 ≤ p.2.1 ∧ p.2.1 ≤ 64
theorem phit_lo {x : Int} {p : Pt5} (h : x < p.1) : phit x p = false := by
 rw [Bool.eq_false_iff]; intro h2; have := phit_iff.1 h2; omega
theorem phit_hi {x : Int} {p : Pt5} (h : p.2.1 ≤ x - p.1) : phit x p = false := by
 rw [Bool.eq_false_iff]; intro h2; have := phit_iff.1 h2; omega
theorem phit_in {x : Int} {p : Pt5} (h : p.1 ≤ x) (h2 : x - p.1 < p.2.1) : phit x p = true := phit_iff.2 ⟨h, by omega⟩
set_option maxRecDepth 100000 in
set_option maxHeartbeats 1000000 in
theorem FindF_any (p : Pt5) (x : Int) (g : Nat) (w : World) (hc : w.cell? ⟨g, 0, none⟩ = some (.int .i64 x)) (hp : PtFit p) (hx : I64 x) :
 Calls Tryz.prog 86 #[.agg (pta p), .pointer (some ⟨g, 0, none⟩)] w fun e w' => e = .returned (.bool (phit x p)) ∧ Below w.heap.size w w' := by
 have hB := Blk.new w 37 (pta p)
 have hbw := below_new w (.cells (pta p) 37)
 obtain ⟨c0, c1, c2⟩ := BlP.three hB
 have hgl : g < w.heap.size := World.block_lt_of_cell? w _ hc
 have hgc := (hbw.cell (p := ⟨g, 0, none⟩) hgl).trans hc
 obtain ⟨hp0, hp1, hp2, hp3⟩ := hp
 unfold I64 at hx
 obtain ⟨hx0, hx1⟩ := hx
 have hlo := fun h => Lib.hid (phit_lo (x := x) (p := p) h)
 have hhi := fun h => Lib.hid (phit_hi (x := x) (p := p) h)
 have hin := fun h h2 => Lib.hid (phit_in (x := x) (p := p) h h2)
 generalize phit x p = b at *
 obtain ⟨p1, p2, p3, p4⟩ := p
 dsimp only at *
 clear hc hB
 by_cases h1 : x < p1
 · have hr := hlo h1
   clear hlo hhi hin
   generalize pta (p1, p2, p3, p4) = pa at *
   go_enter Tryz.func86, Tryz.ntmps86
   go_wp2_with fail
   go_ret
   exact ⟨by rw [hr.out]; rfl, hbw⟩
 · have hwa : wrap64 (x - p1) = x - p1 := by simp only [wrap64]; omega
   have hwa2 : IntKind.i64.wrap (x - p1) = x - p1 := by rw [IntKind.wrap_i64]; omega
   by_cases h2 : p2 ≤ x - p1
   · have hr := hhi h2
     clear hlo hhi hin
     generalize pta (p1, p2, p3, p4) = pa at *
     go_enter Tryz.func86, Tryz.ntmps86
     go_wp2_with fail
     go_ret
     exact ⟨by rw [hr.out]; rfl, hbw⟩
   · have hr := hin (by omega) (by omega)
     have h0 : 0 ≤ x - p1 := by omega
     clear hlo hhi hin
     generalize pta (p1, p2, p3, p4) = pa at *
     go_enter Tryz.func86, Tryz.ntmps86
     go_wp2_with fail
     go_ret
     exact ⟨by rw [hr.out]; rfl, hbw⟩
theorem pidx_first {x : Int} : ∀ {l : List Pt5} {k : Nat} (hk : k < l.length), (∀ p ∈ l.take k, phit x p = false) → phit x l[k] = true → pidx x l = k
 | q :: r, 0, _, _, hh => by rw [List.getElem_cons_zero] at hh; rw [pidx, hh]; simp
 | q :: r, k + 1, hk, h, hh => by
  have ih := pidx_first (x := x) (l := r) (k := k) (by simpa using hk) (fun p hp => h p (by rw [List.take_succ_cons]; exact .tail _ hp)) (by simpa using hh)
  have hq := h q (by rw [List.take_succ_cons]; exact .head _)
  rw [pidx, hq, ih, if_neg (by simp), if_neg (by omega)]
  simp
set_option maxRecDepth 100000 in
set_option maxHeartbeats 1000000 in
theorem IdxF_any {E : Option Addr} {cap : Nat} (ps : List Pt5) (x : Int) (g : Nat) (w : World) (h : SlP w E cap ps) (hc : w.cell? ⟨g, 0, none⟩ = some (.int .i64 x)) (hp : ∀ p ∈ ps, PtFit p) (hx : I64 x) :
 Calls Tryz.prog 85 #[.slice E ps.length cap, .func (.func 86) #[] #[.pointer (some ⟨g, 0, none⟩)]] w fun e w' => e = .returned (.int .i64 (pidx x ps)) ∧ Below w.heap.size w w' := by
 have hmax := h.len_le
 unfold maxLen at hmax
 have hgl : g < w.heap.size := World.block_lt_of_cell? w _ hc
 go_enter Tryz.func85, Tryz.ntmps85
 go_wp2_with fail
 go_loopw [8] (fun y wr => ∃ k : Nat, k ≤ ps.length ∧ y = .int .i64 k ∧ Hid (∀ p ∈ ps.take k, phit x p = false) ∧ Below w.heap.size w wr) (fun y w => ps.length - (intOf y).toNat)
 case atStart => exact ⟨0, Nat.zero_le _, rfl, (fun p hp => by simp at hp), Below.refl _ _⟩
 case round =>
  obtain ⟨k, hk, rfl, hall, hbr⟩ := hrel
  by_cases hlt : k < ps.length
  · obtain ⟨ad, b, o, rfl, had, hcc⟩ := (h.below hbr).at hlt
    have hfst := Lib.hid (fun hh => pidx_first (x := x) hlt hall.out hh)
    have hnxt : Hid (phit x ps[k] = false → ∀ p ∈ ps.take (k + 1), phit x p = false) := (show _ → _ from fun h0 p hp => by
     rw [List.take_succ_eq_append_getElem hlt, List.mem_append] at hp
     rcases hp with hp | hp
     · exact hall.out p hp
     · rw [List.mem_singleton.1 hp]; exact h0)
    have hpf := hp _ (List.getElem_mem hlt)
    have hcr := (hbr.cell (p := ⟨g, 0, none⟩) hgl).trans hc
    have hF := Lib.hid (FindF_any ps[k] x g wr hcr hpf hx)
    generalize ps[k] = p at *
    have hps := Lib.hid (pta_size p)
    have HCC := Lib.hid hcc
    have HPF := Lib.hid hpf
    clear hcc hcr hpf
    go_wp2_with (refine wpl_loadG rfl 37 _ rfl ⟨b, o, none⟩ (pta p) rfl HCC.out _ Tryz.underlying37 rfl (by rw [hps.out]; kernel_rfl) ?_)
    refine hF.out.mono ?_
    rintro e w5 ⟨rfl, hb5⟩
    have hn5 := bel_call hbr hb5
    cases hb : phit x p
    · have hn := Lib.hid (hnxt.out hb)
      clear hb hnxt hfst hall
      go_wp2_with fail
      go_roundw
      case rel => exact ⟨k + 1, hlt, by go_num, hn, hn5⟩
      case measure => simp [intOf]; omega
    · have hn := Lib.hid (hfst.out hb)
      clear hb hnxt hfst hall
      go_wp2_with fail
      go_ret
      exact ⟨by rw [hn.out]; rfl, hn5⟩
  · have hn := Lib.hid (pcnt_none (x := x) (l := ps) fun p hp => hall.out p (by rw [List.take_of_length_le (by omega)]; exact hp)).2
    clear hall
    go_wp2_with fail
    go_ret
    exact ⟨by rw [hn]; rfl, hbr⟩
set_option maxRecDepth 100000 in
set_option maxHeartbeats 1000000 in
theorem Find_any {A : Option Addr} {c : Nat} (n f t r : Int) (d : Dg) (ps : List Pt5) (x : Int) (w : World) (h : SlP w A c ps) (hp : ∀ p ∈ ps, PtFit p) (hx : I64 x) :
 Calls Tryz.prog 46 #[.agg (mfa n f t r d A ps.length c), .int .i64 x] w fun e w' => e = .returned (.tuple #[.int .i64 (max (pidx x ps) 0), .bool (decide (0 ≤ pidx x ps))]) ∧ Below w.heap.size w w' := by
 have hB : BlM _ w.heap.size n f t r d A ps.length c := Blk.new w 46 (mfa n f t r d A ps.length c)
 have hbw := bel_alloc (below_new w (.cells (mfa n f t r d A ps.length c) 46)) (.cells #[.int .i64 x] 3)
 have hX := Blk.newAt (w := w.alloc (.cells (mfa n f t r d A ps.length c) 46)) (g := w.heap.size + 1) (by simp) 3 #[.int .i64 x]
 have hB1 : BlM _ w.heap.size n f t r d A ps.length c := Blk.alloc hB (.cells #[.int .i64 x] 3)
 obtain ⟨a0, a1, a2, a3, a4⟩ := BlM.five hB1
 have hcx := Lib.hid ((hX.cell 0).trans (show _ = some (.int .i64 x) from rfl))
 have hge := pidx_ge x ps
 have hmf : ∀ (fn : Fn) (first cap : Array Value) (w : World), (Instr.makeFunc fn first cap).run Tryz.prog w = .ok (.func fn first cap) w := fun _ _ _ _ => rfl
 clear hX hB
 go_enter Tryz.func46, Tryz.ntmps46
 go_wp2_with fail
 refine (IdxF_any ps x (w.heap.size + 1) _ (h.below hbw) hcx.out hp hx).mono ?_
 rintro e w1 ⟨rfl, hb1⟩
 have hw := bel_call hbw hb1
 clear hmf a0 a1 a2 a3 a4
 go_wp2_with fail
 go_ret2
 exact ⟨rfl, hw⟩
end
section
open Go.RowKit Go.Maps Go.Sort
attribute [local go_sem ↓] Go.wp_at_zero Go.wp_at_succ
theorem Fok.dk0 (r : Int) : Fok (dk0 r) := ⟨by show -1 ≤ (-1 : Int); omega, by show (-1 : Int) ≤ 9223372036854775807; omega⟩
section
variable {β : Type}
variable {f : β → Value} {P : Program} {K T E : TypeId} {w w' : World} {b n : Nat} {l : List (Bs × β)}
variable {ops : Array Oper} {rest : List Oper} {o : Oper} {a : Act} {Q : Exit → Act → World → Prop}
end
end
section
open Go.ChangeShapes Go.WideShapes Go.ChangeAt Go.RowKit Go.Deep
structure DA where
 k : Int
 n : List UInt8
 t : List UInt8
 A : Option Addr
 c : Nat
 l : List UInt8
 f : Int
 B : Option Addr
 kc : Nat
 ks : List Bool
section
variable {H : Type} {enc : TypeId × Value → H} {P : Program} {w : World} {base b0 : Nat} {held : Bool} {r : Reach} {t e z b s : TypeId} {v : Value} {d : DataW H} {p : List MemPlace}
end
end
end Go.Proofs.YtajfnmohlnkncaaGreatDoor
