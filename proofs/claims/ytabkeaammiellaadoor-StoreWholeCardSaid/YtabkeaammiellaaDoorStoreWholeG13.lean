/- WHAT IT HOLDS: a disk made, read, fused, asked whether it is down, walked. | WHAT IT HOLDS: a new disk, walked. -/
import Derived.Test.YtabkeaammiellaaDoorStoreWholeG12
import Derived.Carry
namespace Go.Proofs.YtabkeaammiellaaDoor
open Go.RowKit Go.Maps Go.Sort
attribute [local go_sem ↓] Go.wp_at_zero Go.wp_at_succ

/-- a fuse set -/
def dFuse {α : Type} (d : Dk α) (k : Int) : Dk α × Nat := if k < 0 then (d, 1) else ({ d with fuse := k }, 0)
def dRead {α : Type} (d : Dk α) (n : Bs) : Option α × Nat := if d.down = true then (none, 14) else match gget n d.shown with | none => (none, 4) | some v => (some v, 0)
set_option maxRecDepth 100000 in
set_option maxHeartbeats 1000000 in
theorem Fuse_any {w : World} {q : Fp} {d : Dk Sv} (h : Dsk w q d) (k : Int) : Calls Tryd.prog 24 #[.pointer (some ⟨q.g, 0, none⟩), .int .i64 k] w fun e w' => e = .returned (errv (dFuse d k).2) ∧ Dsk w' q (dFuse d k).1 ∧ Wr w w' q.g := by
  have H := Lib.hid h
  obtain ⟨a0, a1, a2, a3, a4, a5, af1, af2, af3, af4, af5⟩ := h.six
  have hT := h.turn (d' := { d with fuse := k }) (h.blk.set_ 4 (.int .i64 k)) ((Wr.refl _ _).set_ 4 (.int .i64 k)) rfl rfl
  have HT := Lib.hid hT
  clear hT h
  rcases Int.lt_or_le k 0 with h0 | h0
  · have HR := Lib.hid (show dFuse d k = (d, 1) from if_pos h0)
    go_enter Tryd.func24, Tryd.ntmps24
    go_wp2_with fail
    go_ret
    exact ⟨by rw [HR.out]; rfl, by rw [HR.out]; exact H.out, Wr.refl _ _⟩
  · have HR := Lib.hid (show dFuse d k = ({ d with fuse := k }, 0) from if_neg (by omega))
    go_enter Tryd.func24, Tryd.ntmps24
    go_wp2_with fail
    go_ret
    exact ⟨by rw [HR.out]; rfl, by rw [HR.out]; exact HT.out, (Wr.refl _ _).set_ 4 (.int .i64 k)⟩
set_option maxRecDepth 100000 in
set_option maxHeartbeats 1000000 in
theorem Down_any {w : World} {q : Fp} {d : Dk Sv} (h : Dsk w q d) : Calls Tryd.prog 27 #[.pointer (some ⟨q.g, 0, none⟩)] w fun e w' => e = .returned (.bool d.down) ∧ w' = w := by
  obtain ⟨a0, a1, a2, a3, a4, a5, af1, af2, af3, af4, af5⟩ := h.six
  clear h
  go_enter Tryd.func27, Tryd.ntmps27
  go_wp2_with fail
  go_ret
  exact ⟨rfl, rfl⟩
set_option maxRecDepth 100000 in
set_option maxHeartbeats 1000000 in
theorem Read_any {w : World} {q : Fp} {d : Dk Sv} (h : Dsk w q d) (n : Bs) (hn : n.length ≤ 100000000) :
    Calls Tryd.prog 17 #[.pointer (some ⟨q.g, 0, none⟩), .string ⟨n.toArray⟩] w fun e w' => ∃ A c m, e = .returned (.tuple #[.slice A (List.length m) c, errv (dRead d n).2]) ∧ Hid (m = (((dRead d n).1.map Sv.l).getD [])) ∧ OwnB w' w.heap.size 5 A c m ∧ Below w.heap.size w w' := by
  have hL := Looks_any h
  cases hd : d.down
  · rw [hd, if_neg (by simp), show errv 0 = Value.nilIface from rfl] at hL
    have HL := Lib.hid hL
    clear hL
    have hlk := h.shown.look (T := 79) (E := 33) Tryd.underlying9 Tryd.underlying79 (zero_bs _) (k := n) (by unfold maxLen; omega)
    obtain ⟨a0, a1, a2, -⟩ := h.six
    cases hgt : gget n d.shown with
    | none =>
      rw [hgt] at hlk
      have HR := Lib.hid (show dRead d n = (none, 4) from by unfold dRead; rw [hd, if_neg (by simp), hgt])
      clear hgt hd
      go_enter Tryd.func17, Tryd.ntmps17
      go_wp2_with fail
      refine HL.out.mono ?_
      rintro e w1 ⟨rfl, rfl⟩
      go_wp2_with fail
      go_ret2
      exact ⟨none, 0, [], by rw [HR.out]; rfl, (show _ = _ from by rw [HR.out]; rfl), Own.none_ _ _ _ _, Below.refl _ _⟩
    | some u =>
      rw [hgt] at hlk
      have hmem := (h.shown_mem _ (gget_mem hgt)).2
      have hrd := h.rd u hmem
      have hln := h.len u hmem
      obtain ⟨A, c, l⟩ := u
      dsimp only [Option.map_some, Option.getD_some, Option.isSome_some, Sv.v] at hlk hrd hln
      have HR := Lib.hid (show dRead d n = (some ⟨A, c, l⟩, 0) from by unfold dRead; rw [hd, if_neg (by simp), hgt])
      clear hgt hd h hmem
      go_enter Tryd.func17, Tryd.ntmps17
      go_wp2_with fail
      refine HL.out.mono ?_
      rintro e w1 ⟨rfl, rfl⟩
      go_wp2_with fail
      refine (BClone_any l _ hrd (by omega)).mono ?_
      rintro e w2 ⟨A2, c2, m2, rfl, hm2, ho2, hb2⟩
      go_wp2_with fail
      go_ret2
      exact ⟨A2, c2, m2, by rw [HR.out]; rfl, (show _ = _ from by rw [HR.out, hm2.out]; rfl), ho2, hb2⟩
  · rw [hd, if_pos rfl, show errv 14 = Value.iface 64 (.int .i64 14) from rfl] at hL
    have HL := Lib.hid hL
    have HR := Lib.hid (show dRead d n = (none, 14) from by unfold dRead; rw [hd, if_pos rfl])
    clear hL h hd
    go_enter Tryd.func17, Tryd.ntmps17
    go_wp2_with fail
    refine HL.out.mono ?_
    rintro e w1 ⟨rfl, rfl⟩
    go_wp2_with fail
    go_ret2
    exact ⟨none, 0, [], by rw [HR.out]; rfl, (show _ = _ from by rw [HR.out]; rfl), Own.none_ _ _ _ _, Below.refl _ _⟩
end Go.Proofs.YtabkeaammiellaaDoor

namespace Go.Proofs.YtabkeaammiellaaDoor
open Go.RowKit Go.Maps Go.Sort
attribute [local go_sem ↓] Go.wp_at_zero Go.wp_at_succ

/-- a disk without files -/
def dk0 (room : Int) : Dk Sv := ⟨room, [], [], -1, false⟩
theorem Dsk.new (w : World) (room : Int) : Dsk (((w.alloc (.map #[] 0)).alloc (.map #[] 0)).alloc (.cells (dka ⟨w.heap.size + 1 + 1, w.heap.size, w.heap.size + 1, none, 0⟩ (dk0 room)) 82)) ⟨w.heap.size + 1 + 1, w.heap.size, w.heap.size + 1, none, 0⟩ (dk0 room) where
  blk := Blk.newAt (by simp) _ _
  sure := Om.same (Om.same (Om.new w) ((below_new (w.alloc (.map #[] 0)) (.map #[] 0)).block _ (by simp))) ((below_new ((w.alloc (.map #[] 0)).alloc (.map #[] 0)) _).block _ (by simp; omega))
  shown := by
    have h := Om.new (P := Tryd.prog) (K := 9) (w.alloc (.map #[] 0))
    rw [show (w.alloc (.map #[] 0)).heap.size = w.heap.size + 1 from by simp] at h
    exact Om.same h ((below_new ((w.alloc (.map #[] 0)).alloc (.map #[] 0)) _).block _ (by simp))
  pend := Own.none_ _ _ _ _
  ne := by dsimp only; omega
  rd := fun s hs => by simp [svs, dk0] at hs
  ap := fun s hs => by simp [svs, dk0] at hs
  ris := Ris.nil
  len := fun s hs => by simp [svs, dk0] at hs
  nm := ⟨fun p hp => by simp [dk0] at hp, fun p hp => by simp [dk0] at hp⟩
set_option maxRecDepth 100000 in
set_option maxHeartbeats 1000000 in
theorem New_any (room : Int) (w : World) : Calls Tryd.prog 10 #[.int .i64 room] w fun e w' =>
    (room < 0 ∨ 1073741824 < room) ∧ e = .returned (.tuple #[.pointer none, errv 1]) ∧ Below w.heap.size w w' ∨
    (0 ≤ room ∧ room ≤ 1073741824) ∧ ∃ q : Fp, e = .returned (.tuple #[.pointer (some ⟨q.g, 0, none⟩), errv 0]) ∧ Dsk w' q (dk0 room) ∧ (∀ i, q.M i → w.heap.size ≤ i) ∧ Below w.heap.size w w' := by
  rcases Int.lt_or_le room 0 with h0 | h0
  · go_enter Tryd.func10, Tryd.ntmps10
    go_wp2_with fail
    go_ret2
    exact .inl ⟨.inl h0, rfl, Below.refl _ _⟩
  rcases Int.lt_or_le 1073741824 room with h1 | h1
  · go_enter Tryd.func10, Tryd.ntmps10
    go_wp2_with fail
    go_ret2
    exact .inl ⟨.inr h1, rfl, Below.refl _ _⟩
  · have hmm := @run_makeMap Tryd.prog
    have HD := Lib.hid (Dsk.new w room)
    go_enter Tryd.func10, Tryd.ntmps10
    go_wp2_with fail
    go_ret2
    exact .inr ⟨⟨h0, h1⟩, _, rfl, HD.out, (by rintro i (e | e | e | e) <;> dsimp only at e <;> first | omega | (cases e)), bel_alloc (bel_alloc (below_new w _) _) _⟩
end Go.Proofs.YtabkeaammiellaaDoor
