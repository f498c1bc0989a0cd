/- WHAT IT HOLDS: a lease's bytes, plainly (no program). | WHAT IT HOLDS: a register's lease on its store, plainly. | WHAT IT HOLDS: the document's Take and Prefix, and lists side by side, walked. | WHAT IT HOLDS: lists of texts side by side; frame.All, walked. | WHAT IT HOLDS: the law FrameTakes, walked. -/
import Derived.Test.YtlpniegemklfeaaGreatDoorRegisterStaysG24
import Derived.Test.YtlpniegemklfeaaGreatDoorRegisterStaysG27
import Derived.Test.YtlpniegemklfeaaGreatDoorRegisterStaysG20
namespace Go.Proofs.YtlpniegemklfeaaGreatDoor
open Go.RowKit

theorem rNum_some {s : List UInt8 × Nat} (h : (rNum s).2.2 = 0) : s.2 = 0 ∧ U64 (rNum s).1 ∧ s.1 = vb (rNum s).1 ++ (rNum s).2.1 := by
  unfold rNum at h ⊢
  by_cases h0 : s.2 ≠ 0
  · rw [if_pos h0] at h; exact absurd h h0
  rw [if_neg h0] at h ⊢
  split at h
  · simp at h
  · rename_i n k hv
    obtain ⟨hu, hk, htk⟩ := take_some hv
    exact ⟨by omega, hu, by dsimp only; rw [← htk, List.take_append_drop]⟩
theorem rWithin_vb {n m : Nat} (h : n ≤ m) (hm : m ≤ 4611686018427387904) (r : List UInt8) : rWithin m (vb n ++ r, 0) = (n, (r, 0)) := by
  unfold rWithin
  rw [rNum_vb (by unfold U64; omega), if_neg (by omega)]
theorem rFail_ne (k : Nat) (s : List UInt8 × Nat) (hk : k ≠ 0) : (rFail k s).2 ≠ 0 := by
  unfold rFail
  split
  · exact hk
  · assumption
theorem rWithin_some {m : Nat} {s : List UInt8 × Nat} (h : (rWithin m s).2.2 = 0) : s.2 = 0 ∧ (rWithin m s).1 ≤ m ∧ s.1 = vb (rWithin m s).1 ++ (rWithin m s).2.1 := by
  unfold rWithin at h ⊢
  by_cases h1 : (rNum s).1 > m ∨ (rNum s).1 > 4611686018427387904
  · rw [if_pos h1] at h
    exact absurd h (rFail_ne 1 _ (by decide))
  · rw [if_neg h1] at h ⊢
    have h2 := rNum_some h
    exact ⟨h2.1, by omega, h2.2.2⟩
theorem rEnd_zero {s : List UInt8 × Nat} (h : rEnd s = 0) : s.2 = 0 ∧ s.1 = [] := by
  unfold rEnd at h
  by_cases h1 : s.2 = 0 ∧ 0 < s.1.length
  · rw [if_pos h1] at h; omega
  · rw [if_neg h1] at h
    exact ⟨h, by rcases s with ⟨l, b⟩; cases l with | nil => rfl | cons a r => simp at h1 h; omega⟩
theorem rWithin_le (m : Nat) (s : List UInt8 × Nat) : (rWithin m s).1 ≤ m ∧ (rWithin m s).1 ≤ 4611686018427387904 := by
  unfold rWithin
  split
  · simp
  · omega

/-- a lease's three numbers, off a text -/
def lread (t : List UInt8) : Int × Int × Int × Nat :=
  (((rWithin 2 (t, 0)).1 : Nat), ((rWithin 1099511627776 (rWithin 2 (t, 0)).2).1 : Nat), ((rWithin 1099511627776 (rWithin 1099511627776 (rWithin 2 (t, 0)).2).2).1 : Nat), rEnd (rWithin 1099511627776 (rWithin 1099511627776 (rWithin 2 (t, 0)).2).2).2)
/-- the lease of bytes -/
def ltake (l : List UInt8) : Int × Int × Int × Nat :=
  if (fone l).2 ≠ 0 then (0, 0, 0, (fone l).2)
  else if (lread (fone l).1).2.2.2 ≠ 0 then (0, 0, 0, (lread (fone l).1).2.2.2)
  else if chk (lread (fone l).1).1 (lread (fone l).1).2.1 (lread (fone l).1).2.2.1 ≠ 0 then (0, 0, 0, chk (lread (fone l).1).1 (lread (fone l).1).2.1 (lread (fone l).1).2.2.1)
  else ((lread (fone l).1).1, (lread (fone l).1).2.1, (lread (fone l).1).2.2.1, 0)
def ltxt (o e u : Int) : List UInt8 := vb o.toNat ++ vb e.toNat ++ vb u.toNat
/-- a lease's bytes -/
def lput (o e u : Int) : List UInt8 × Nat := if chk o e u ≠ 0 then ([], chk o e u) else (frm (ltxt o e u), 0)
theorem ltxt_len {o e u : Int} (h : chk o e u = 0) : (ltxt o e u).length ≤ 30 := by
  obtain ⟨a, b, c, _⟩ := chk_ok h
  have h1 := vb_le10 (n := o.toNat) (by omega)
  have h2 := vb_le10 (n := e.toNat) (by omega)
  have h3 := vb_le10 (n := u.toNat) (by omega)
  unfold ltxt
  simp only [List.length_append]
  omega
theorem lread_ltxt {o e u : Int} (h : chk o e u = 0) : lread (ltxt o e u) = (o, e, u, 0) := by
  obtain ⟨a, b, c, _⟩ := chk_ok h
  have h3 : rWithin 1099511627776 (vb u.toNat, 0) = (u.toNat, ([], 0)) := by
    have := rWithin_vb (n := u.toNat) (m := 1099511627776) (by omega) (by omega) []
    rwa [List.append_nil] at this
  unfold lread ltxt
  rw [List.append_assoc, rWithin_vb (n := o.toNat) (by omega) (by omega), rWithin_vb (n := e.toNat) (by omega) (by omega), h3]
  dsimp only
  rw [Int.toNat_of_nonneg (by omega), Int.toNat_of_nonneg (by omega), Int.toNat_of_nonneg (by omega)]
  rfl
theorem ltake_lput {o e u : Int} (h : chk o e u = 0) : ltake (lput o e u).1 = (o, e, u, 0) := by
  have h1 : lput o e u = (frm (ltxt o e u), 0) := by unfold lput; rw [if_neg (by omega)]
  have h2 := fone_frm (t := ltxt o e u) (by have := ltxt_len h; omega)
  have h3 := lread_ltxt h
  unfold ltake
  rw [h1]
  dsimp only
  rw [h2]
  dsimp only
  rw [h3]
  dsimp only
  rw [if_neg (by simp), if_neg (by simp), if_neg (by omega)]
theorem ltake_back {l : List UInt8} (h : (ltake l).2.2.2 = 0) : chk (ltake l).1 (ltake l).2.1 (ltake l).2.2.1 = 0 ∧ lput (ltake l).1 (ltake l).2.1 (ltake l).2.2.1 = (l, 0) := by
  unfold ltake at h ⊢
  by_cases h1 : (fone l).2 ≠ 0
  · rw [if_pos h1] at h; dsimp only at h; exact absurd h h1
  rw [if_neg h1] at h ⊢
  by_cases h2 : (lread (fone l).1).2.2.2 ≠ 0
  · rw [if_pos h2] at h; dsimp only at h; exact absurd h h2
  rw [if_neg h2] at h ⊢
  by_cases h3 : chk (lread (fone l).1).1 (lread (fone l).1).2.1 (lread (fone l).1).2.2.1 ≠ 0
  · rw [if_pos h3] at h; dsimp only at h; exact absurd h h3
  rw [if_neg h3]
  dsimp only
  have h0 : chk (lread (fone l).1).1 (lread (fone l).1).2.1 (lread (fone l).1).2.2.1 = 0 := by omega
  refine ⟨h0, ?_⟩
  have hf := fone_back (l := l) (by omega)
  have ht : ltxt (lread (fone l).1).1 (lread (fone l).1).2.1 (lread (fone l).1).2.2.1 = (fone l).1 := by
    generalize (fone l).1 = t at *
    have h4 : rEnd (rWithin 1099511627776 (rWithin 1099511627776 (rWithin 2 (t, 0)).2).2).2 = 0 := by
      unfold lread at h2
      dsimp only at h2
      omega
    obtain ⟨h5, h6⟩ := rEnd_zero h4
    obtain ⟨h7, _, h8⟩ := rWithin_some h5
    obtain ⟨h9, _, h10⟩ := rWithin_some h7
    obtain ⟨_, _, h11⟩ := rWithin_some h9
    unfold ltxt lread
    dsimp only at h11 ⊢
    rw [h6, List.append_nil] at h8
    rw [h8] at h10
    rw [h10] at h11
    simp only [Int.toNat_natCast]
    rw [List.append_assoc]
    exact h11.symm
  unfold lput
  rw [if_neg h3, ht, ← hf.2]
end Go.Proofs.YtlpniegemklfeaaGreatDoor

namespace Go.Proofs.YtlpniegemklfeaaGreatDoor
open Go.RowKit Go.Maps Go.Sort

/-- the lease's name -/
def lname : Bs := [108, 101, 97, 115, 101]
theorem lname_ok : snamed lname = true := by kernel_rfl
abbrev L3r := Int × Int × Int
def lpt (L : L3r) : Bs := (lput L.1 L.2.1 L.2.2).1
def lck (L : L3r) : Nat := chk L.1 L.2.1 L.2.2
/-- what a store keeps of a lease -/
def Kept (L : L3r) (S : List (Bs × Sv)) : Prop := match gget lname S with
  | none => L = (0, 0, 0)
  | some v => lck L = 0 ∧ v.l = lpt L
theorem Kept.chk {L : L3r} {S : List (Bs × Sv)} (h : Kept L S) : lck L = 0 := by
  unfold Kept at h
  cases hg : gget lname S with
  | none => rw [hg] at h; dsimp only at h; rw [h]; rfl
  | some v => rw [hg] at h; exact h.1
theorem Kept.put {L : L3r} (h : lck L = 0) (A : Option Addr) (c : Nat) (S : List (Bs × Sv)) : Kept L (gput lname ⟨A, c, lpt L⟩ S) := by
  unfold Kept
  rw [gget_put_same]
  exact ⟨h, rfl⟩
theorem ltake_lpt {L : L3r} (h : lck L = 0) : ltake (lpt L) = (L.1, L.2.1, L.2.2, 0) := ltake_lput h
/-- a disk between two calls: up, without a fuse, nothing pending, all files objects -/
structure Rst (d : Dk Sv) (i : Nat) : Prop where
  fre : Fre d
  pe : d.pend = []
  sna : Sna d.sure
  len : d.sure.length ≤ i
theorem Rst.fok {d : Dk Sv} {i : Nat} (h : Rst d i) : Fok d := ⟨by rw [h.fre.1]; decide, by rw [h.fre.1]; decide⟩
theorem Fre.put {α : Type} {d : Dk α} (h : Fre d) (len : α → Nat) (z : α) (n : Bs) (v : α) : Fre (sPut len z d n v).1 := by
  have ha : ∀ (r : Dk α × Nat) (f : Dk α → Dk α × Nat), Fre r.1 → (∀ d, Fre d → Fre (f d).1) → Fre (Go.Proofs.YtlpniegemklfeaaGreatDoor.andThen r f).1 := fun r f h1 h2 => by
    unfold Go.Proofs.YtlpniegemklfeaaGreatDoor.andThen
    split
    · exact h1
    · exact h2 _ h1
  unfold sPut
  split
  · exact h
  · exact ha _ _ (h.opd (Opd.write len d _ v)) fun d h => ha _ _ (h.opd (Opd.sync d)) fun d h => ha _ _ (h.opd (Opd.rename z d _ _)) fun d h => h.opd (Opd.sync d)
/-- what putting leaves -/
inductive PutO (S T : List (Bs × Sv)) : Dk Sv × Nat → Prop where
  | done (d : Dk Sv) (hf : Fre d) (hp : d.pend = []) (hs : d.sure = T) : PutO S T (d, 0)
  | left (d : Dk Sv) (hf : Fre d) (hp : d.pend = []) (hs : d.sure = S) (k : Nat) (h0 : k ≠ 0) : PutO S T (d, k)
theorem Rst.put {d : Dk Sv} {i : Nat} (h : Rst d i) (hr : Ris d.sure) (n : Bs) (v : Sv) : PutO d.sure (gput n v d.sure) (sPut svl Sv.nil d n v) := by
  have h1 := put_out svl Sv.nil h.fre.2 h.pe hr h.sna n v
  have h2 := h.fre.put svl Sv.nil n v
  generalize sPut svl Sv.nil d n v = r at *
  generalize gput n v d.sure = T at *
  generalize d.sure = S at *
  cases h1 with
  | done d5 hd hp hs hn => exact .done d5 h2 hp hs
  | left d5 hd hp hs k h0 h1 => exact .left d5 h2 hp hs k h0
  | down d5 hd hn hl h => rw [h2.2] at hd; cases hd
theorem glen_put1 {α : Type} (n : Bs) (v : α) (S : List (Bs × α)) : (gput n v S).length ≤ S.length + 1 := by
  unfold gput
  rw [glen_ins]
  have := glen_del n S
  omega
theorem Rst.next {d d5 : Dk Sv} {i : Nat} (h : Rst d i) {n : Bs} (hn : snamed n = true) {v : Sv} (hf : Fre d5) (hp : d5.pend = []) (hs : d5.sure = gput n v d.sure) : Rst d5 (i + 1) :=
  ⟨hf, hp, by rw [hs]; exact h.sna.put hn v, by rw [hs]; have := glen_put1 n v d.sure; have := h.len; omega⟩
theorem Rst.stay {d d5 : Dk Sv} {i : Nat} (h : Rst d i) (hf : Fre d5) (hp : d5.pend = []) (hs : d5.sure = d.sure) : Rst d5 (i + 1) :=
  ⟨hf, hp, by rw [hs]; exact h.sna, by rw [hs]; have := h.len; omega⟩
/-- opening leaves it as it is -/
theorem Rst.opened {d : Dk Sv} {i : Nat} (h : Rst d i) (hr : Ris d.sure) : ∃ d2, sOpen Sv.nil d = (d2, 0) ∧ Fre d2 ∧ d2.pend = [] ∧ (Ris d2.sure → d2.sure = d.sure) := by
  obtain ⟨room, S, p, fuse, down⟩ := d
  obtain ⟨⟨h1, h2⟩, h3, h4, -⟩ := h
  dsimp only at h1 h2 h3 h4 hr
  subst h1 h2 h3
  exact open_up hr hr h4 (names_of h4) (fun _ _ => rfl)
/-- a cut and a start leave it as it is -/
theorem Rst.cut {d : Dk Sv} {i : Nat} (h : Rst d i) (ks : List Bool) : Rst (dStart (dCut ks d)) i ∧ (dStart (dCut ks d)).sure = d.sure := by
  obtain ⟨room, S, p, fuse, down⟩ := d
  obtain ⟨⟨h1, h2⟩, h3, h4, h5⟩ := h
  dsimp only at h1 h2 h3 h4 h5
  subst h1 h2 h3
  have e : kept ks ([] : List (Chg Sv)) = [] := by unfold kept; simp
  have e2 : dStart (dCut ks (⟨room, S, [], -1, false⟩ : Dk Sv)) = ⟨room, S, [], -1, false⟩ := by
    unfold dCut dStart
    rw [e]
    rfl
  rw [e2]
  exact ⟨⟨⟨rfl, rfl⟩, rfl, h4, h5⟩, rfl⟩
theorem Rst.get {d : Dk Sv} {i : Nat} (h : Rst d i) : sGet d lname = match gget lname d.sure with | none => (none, 4) | some v => (some v, 0) := by
  unfold sGet
  rw [if_neg (by rw [lname_ok]; simp)]
  unfold dRead
  rw [if_neg (by rw [h.fre.2]; simp)]
  have : d.shown = d.sure := by unfold Dk.shown; rw [h.pe]; rfl
  rw [this]
  cases gget lname d.sure <;> rfl
end Go.Proofs.YtlpniegemklfeaaGreatDoor

namespace Go.Proofs.YtlpniegemklfeaaGreatDoor
open Go.RowKit
attribute [local go_sem ↓] Go.wp_at_zero Go.wp_at_succ

theorem list_beq' (l m : List UInt8) : (l == m) = decide (l = m) := by
  by_cases h : l = m
  · subst h; simp
  · simp [h]
/-- what the document's Take answers -/
def RTakesF (w0 : World) (A0 : Option Addr) (o : List UInt8 × Nat × Nat) (e : Ending) (w' : World) : Prop :=
  ∃ A c m, e = .returned (.tuple #[.slice A (List.length m) c, .int .i64 (o.2.1 : Nat), .int .i64 (o.2.2 : Nat)]) ∧ Hid (m = o.1) ∧ SlB w' A c m ∧ Below w0.heap.size w0 w' ∧ (m ≠ [] → A.map (·.block) = A0.map (·.block))
theorem Sl.lt0 {w : World} {size n c : Nat} {A : Option Addr} {xs : List Value} (h : Sl w size A n c xs) (hne : xs ≠ []) : ∀ g, A.map (·.block) = some g → g < w.heap.size := by
  intro g hg
  rcases Nat.lt_or_ge g w.heap.size with h1 | h1
  · exact h1
  · exact absurd hg (Sl.old h h1 hne)

theorem shift_block (A : Option Addr) (k : Nat) : (Option.map (fun x => x.add k) A).map (·.block) = A.map (·.block) := by cases A <;> simp [addr_add_block]
set_option maxRecDepth 100000 in
set_option maxHeartbeats 2000000 in
theorem rFTake_any (A : Option Addr) (c : Nat) (l : List UInt8) (w : World) (hs : SlB w A c l) (hl : l.length ≤ 10000000) :
    Calls Tryz.prog 102 #[.slice A l.length c] w (RTakesF w A (ftake l)) := by
  have hc1 := hs.2.1
  go_enter Tryz.func102, Tryz.ntmps102
  go_wp2_with fail
  refine (rTake_any A c l _ hs).mono ?_
  rintro e w1 ⟨hb1, ⟨ht, rfl⟩ | ⟨n, k, ht, rfl⟩⟩
  · have hf := Lib.hid (ftake_none ht)
    clear ht
    go_wp2_with fail
    go_ret3
    exact ⟨none, 0, [], by rw [hf.out]; rfl, by rw [hf.out]; rfl, Sl.none_ _ _, hb1, fun h => absurd rfl h⟩
  · obtain ⟨hu, hkl, _⟩ := take_some ht
    by_cases hn : 65536 < n
    · have hf := Lib.hid (ftake_long ht hn)
      have hni : (65536 : Int) < (n : Int) := by omega
      clear ht
      go_wp2_with fail
      go_ret3
      exact ⟨none, 0, [], by rw [hf.out]; rfl, by rw [hf.out]; rfl, Sl.none_ _ _, hb1, fun h => absurd rfl h⟩
    · have hni : ¬ (65536 : Int) < (n : Int) := by omega
      have hw64 : wrap64 (n : Int) = (n : Int) := by simp only [wrap64]; omega
      obtain ⟨q, hq⟩ : ∃ q, q = k + n := ⟨_, rfl⟩
      have hqi : (k : Int) + (n : Int) = (q : Int) := by omega
      by_cases hsh : l.length < k + n + 4
      · have hf := Lib.hid (ftake_short ht hn hsh)
        have hqs : (l.length : Int) < (q : Int) + 4 := by omega
        clear ht hq
        go_wp2_with fail
        go_ret3
        exact ⟨none, 0, [], by rw [hf.out]; rfl, by rw [hf.out]; rfl, Sl.none_ _ _, hb1, fun h => absurd rfl h⟩
      · have hqs : ¬ (l.length : Int) < (q : Int) + 4 := by omega
        have hkq : k ≤ q := by omega
        have hql : q + 4 ≤ l.length := by omega
        have hf : ftake l = if four (sumW (l.take q)) = (l.drop q).take 4 then ((l.take q).drop k, q + 4, 0) else ([], 0, 11) := by
          unfold ftake; rw [ht]; dsimp only; rw [if_neg hn, if_neg hsh, hq]
        have HF := Lib.hid hf
        clear ht hq hsh hf
        have hs1 := hs.below hb1
        have hqc : ¬ (c = q) := by omega
        have hkc : ¬ (c = k) := by omega
        have hq1 : q ≤ c := by omega
        have hq2 : q + 4 ≤ c := by omega
        have hT := Sl.takeB hs1 q
        have hD := Sl.take (Sl.cutB hs1 (k := q) (by omega)) (k := 4) (by omega)
        rw [if_neg hqc, show (bvs (l.drop q)).take 4 = bvs ((l.drop q).take 4) from by simp [bvs, List.map_take, List.map_drop]] at hD
        have hl2 : ((l.drop q).take 4).length = 4 := by simp; omega
        have htl : (l.take q).length = q := by simp; omega
        have hX := Sl.cutB hT (k := k) (by omega)
        have hX0 := Sl.cutB (Sl.takeB hs q) (k := k) (by omega)
        rw [if_neg hkc, htl, show q - k = ((l.take q).drop k).length from by rw [List.length_drop, htl]] at hX hX0
        have hxl := Lib.hid (show ((l.take q).drop k).length = q - k from by rw [List.length_drop, htl])
        generalize (l.take q).drop k = xt at *
        generalize hg2 : (l.drop q).take 4 = l2 at *
        generalize hg1 : l.take q = l1 at *
        clear hg1 hg2 hs1
        rw [← hl2] at hD
        subst htl
        have H4 := Lib.hid hl2
        obtain ⟨p4, hp4⟩ : ∃ p4, p4 = l1.length + 4 := ⟨_, rfl⟩
        have hwq : IntKind.i64.wrap ((l1.length : Int) + 4) = (p4 : Int) := by rw [IntKind.wrap_i64]; omega
        have hpc : p4 ≤ c := by omega
        have hlp : l1.length ≤ p4 := by omega
        have hps : p4 - l1.length = 4 := by omega
        have HP4 := Lib.hid hp4
        clear hp4
        clear hl2
        go_wp2_with fail
        go_cut [41] (fun s41 wx => s41 = .bool (!decide (four (sumW l1) = l2)) ∧ Below w1.heap.size w1 wx)
        case first =>
          have hT' : SlB w1.drew A c l1 := hT
          refine wp_region_held_drew (S := (fun W => SlB W (Option.map (fun x => x.add l1.length) A) (c - l1.length) l2)) (by kernel_rfl) ?_ (fun hHeld => ?_)
          · first | exact hD | exact hD2
          refine wpAnyH_take (i := 0) (oi := ⟨some 29, _, _, _, _, _⟩) (v := ?_) rfl (by kernel_rfl) (by kernel_rfl) (by kernel_rfl) (fun _ _ _ h => h) (Or.inl ⟨by kernel_rfl, ?_⟩) (by assumption) ?_
          rotate_left
          · (intro wS hSw; (try dsimp only at hSw); have hcv := conv_str (P := Tryz.prog) 34 9 5 Tryz.underlying34 Tryz.underlying5 Tryz.underlying9 (n := 4) hSw H4.out.symm; go_simp; (try with_reducible rfl))
          (try simp only [Act.put, List.setIfInBounds_toArray, List.set_cons_zero, List.set_cons_succ])
          refine wpAnyH_take (i := 1) (oi := ⟨some 30, _, _, _, _, _⟩) (v := ?_) rfl (by kernel_rfl) (by kernel_rfl) (by kernel_rfl) (fun _ _ _ h => h) (Or.inl ⟨by kernel_rfl, ?_⟩) (by assumption) ?_
          rotate_left
          · (intro wS hSw; (try dsimp only at hSw); have hcv := conv_str (P := Tryz.prog) 34 9 5 Tryz.underlying34 Tryz.underlying5 Tryz.underlying9 (n := 4) hSw H4.out.symm; go_simp; (try with_reducible rfl))
          (try simp only [Act.put, List.setIfInBounds_toArray, List.set_cons_zero, List.set_cons_succ])
          refine wpAnyH_take (i := 2) (oi := ⟨some 31, _, _, _, _, _⟩) (v := ?_) rfl (by kernel_rfl) (by kernel_rfl) (by kernel_rfl) (fun _ _ _ h => h) (Or.inl ⟨by kernel_rfl, ?_⟩) (by assumption) ?_
          rotate_left
          · (intro wS hSw; (try dsimp only at hSw); have hcv := conv_str (P := Tryz.prog) 34 9 5 Tryz.underlying34 Tryz.underlying5 Tryz.underlying9 (n := 4) hSw H4.out.symm; go_simp; (try with_reducible rfl))
          (try simp only [Act.put, List.setIfInBounds_toArray, List.set_cons_zero, List.set_cons_succ])
          refine wpAnyH_take (i := 6) (oi := ⟨some 35, _, _, _, _, _⟩) (v := ?_) rfl (by kernel_rfl) (by kernel_rfl) (by kernel_rfl) (fun _ _ _ h => h) (Or.inl ⟨by kernel_rfl, ?_⟩) (by assumption) ?_
          rotate_left
          · (intro wS hSw; (try dsimp only at hSw); have hcv := conv_str (P := Tryz.prog) 34 9 5 Tryz.underlying34 Tryz.underlying5 Tryz.underlying9 (n := 4) hSw H4.out.symm; go_simp; (try with_reducible rfl))
          (try simp only [Act.put, List.setIfInBounds_toArray, List.set_cons_zero, List.set_cons_succ])
          refine wpAnyH_take (i := 7) (oi := ⟨some 36, _, _, _, _, _⟩) (v := ?_) rfl (by kernel_rfl) (by kernel_rfl) (by kernel_rfl) (fun _ _ _ h => h) (Or.inl ⟨by kernel_rfl, ?_⟩) (by assumption) ?_
          rotate_left
          · (intro wS hSw; (try dsimp only at hSw); have hcv := conv_str (P := Tryz.prog) 34 9 5 Tryz.underlying34 Tryz.underlying5 Tryz.underlying9 (n := 4) hSw H4.out.symm; go_simp; (try with_reducible rfl))
          (try simp only [Act.put, List.setIfInBounds_toArray, List.set_cons_zero, List.set_cons_succ])
          refine wpAnyH_take (i := 8) (oi := ⟨some 37, _, _, _, _, _⟩) (v := ?_) rfl (by kernel_rfl) (by kernel_rfl) (by kernel_rfl) (fun _ _ _ h => h) (Or.inl ⟨by kernel_rfl, ?_⟩) (by assumption) ?_
          rotate_left
          · (intro wS hSw; (try dsimp only at hSw); have hcv := conv_str (P := Tryz.prog) 34 9 5 Tryz.underlying34 Tryz.underlying5 Tryz.underlying9 (n := 4) hSw H4.out.symm; go_simp; (try with_reducible rfl))
          (try simp only [Act.put, List.setIfInBounds_toArray, List.set_cons_zero, List.set_cons_succ])
          refine wpAnyH_take (i := 9) (oi := ⟨some 38, _, _, _, _, _⟩) (v := ?_) rfl (by kernel_rfl) (by kernel_rfl) (by kernel_rfl) (fun _ _ _ h => h) (Or.inl ⟨by kernel_rfl, ?_⟩) (by assumption) ?_
          rotate_left
          · (intro wS hSw; (try dsimp only at hSw); have hcv := conv_str (P := Tryz.prog) 34 9 5 Tryz.underlying34 Tryz.underlying5 Tryz.underlying9 (n := 4) hSw H4.out.symm; go_simp; (try with_reducible rfl))
          (try simp only [Act.put, List.setIfInBounds_toArray, List.set_cons_zero, List.set_cons_succ])
          refine wpAnyH_take (i := 10) (oi := ⟨some 39, _, _, _, _, _⟩) (v := ?_) rfl (by kernel_rfl) (by kernel_rfl) (by kernel_rfl) (fun _ _ _ h => h) (Or.inl ⟨by kernel_rfl, ?_⟩) (by assumption) ?_
          rotate_left
          · (intro wS hSw; (try dsimp only at hSw); have hcv := conv_str (P := Tryz.prog) 34 9 5 Tryz.underlying34 Tryz.underlying5 Tryz.underlying9 (n := 4) hSw H4.out.symm; go_simp; (try with_reducible rfl))
          (try simp only [Act.put, List.setIfInBounds_toArray, List.set_cons_zero, List.set_cons_succ])
          refine wpAnyH_take (i := 11) (oi := ⟨some 40, _, _, _, _, _⟩) (v := ?_) rfl (by kernel_rfl) (by kernel_rfl) (by kernel_rfl) (fun _ _ _ h => h) (Or.inl ⟨by kernel_rfl, ?_⟩) (by assumption) ?_
          rotate_left
          · (intro wS hSw; (try dsimp only at hSw); have hcv := conv_str (P := Tryz.prog) 34 9 5 Tryz.underlying34 Tryz.underlying5 Tryz.underlying9 (n := 4) hSw H4.out.symm; go_simp; (try with_reducible rfl))
          (try simp only [Act.put, List.setIfInBounds_toArray, List.set_cons_zero, List.set_cons_succ])
          refine wpAnyH_ready (rs := [3]) (by kernel_rfl) (by simp) ?_
          refine AllReadyH.cons (o := ⟨some 32, _, _, _, _, _⟩) rfl (fun K hK => ?_) AllReadyH.nil
          go_simp
          (refine (rSum_any A c l1 _ hT' (by omega)).mono ?_; rintro e w13 ⟨rfl, rfl⟩)
          go_wp2_with fail
          refine hK.out _ _ ?_ (fun hHeld => ?_)
          · ((try dsimp only); (first | exact hD | exact hD2))
          clear hK K
          (try simp only [Act.put, List.setIfInBounds_toArray, List.set_cons_zero, List.set_cons_succ])
          refine wpAnyH_ready (rs := [4]) (by kernel_rfl) (by simp) ?_
          refine AllReadyH.cons (o := ⟨some 33, _, _, _, _, _⟩) rfl (fun K hK => ?_) AllReadyH.nil
          go_simp
          (refine (rFour_any (sumW l1) _).mono ?_; rintro e w14 ⟨A14, c14, m14, rfl, hm14, hs14, hb14⟩; have hD2 := Sl.below hD (below_of_drew hb14); have hcv := conv_str (P := Tryz.prog) 34 9 5 Tryz.underlying34 Tryz.underlying5 Tryz.underlying9 hs14 rfl)
          go_wp2_with fail
          refine hK.out _ _ ?_ (fun hHeld => ?_)
          · ((try dsimp only); (first | exact hD | exact hD2))
          clear hK K
          (try simp only [Act.put, List.setIfInBounds_toArray, List.set_cons_zero, List.set_cons_succ])
          refine wpAnyH_ready (rs := [5]) (by kernel_rfl) (by simp) ?_
          refine AllReadyH.cons (o := ⟨some 34, _, _, _, _, _⟩) rfl (fun K hK => ?_) AllReadyH.nil
          go_simp
          refine hK.out _ _ ?_ (fun hHeld => ?_)
          · ((try dsimp only); (first | exact hD | exact hD2))
          clear hK K
          (try simp only [Act.put, List.setIfInBounds_toArray, List.set_cons_zero, List.set_cons_succ])
          refine wpAnyH_take (i := 12) (oi := ⟨some 41, _, _, _, _, _⟩) (v := ?_) rfl (by kernel_rfl) (by kernel_rfl) (by kernel_rfl) (fun _ _ _ h => h) (Or.inl ⟨by kernel_rfl, ?_⟩) (by assumption) ?_
          rotate_left
          · (intro wS hSw; (try dsimp only at hSw); have hcv := conv_str (P := Tryz.prog) 34 9 5 Tryz.underlying34 Tryz.underlying5 Tryz.underlying9 (n := 4) hSw H4.out.symm; go_simp; (try with_reducible rfl))
          (try simp only [Act.put, List.setIfInBounds_toArray, List.set_cons_zero, List.set_cons_succ])
          refine wpAnyH_done (by kernel_rfl) ?_ _
          go_wp2_with fail
          go_meet
          refine ⟨?_, below_of_drew hb14⟩
          rw [← hm14.out]
          exact congrArg Value.bool (congrArg not (list_beq' m14 l2))
        case rest =>
          obtain ⟨rfl, hbc⟩ := hcut
          have hw := bel_call hb1 hbc
          have hXc := hX.below hbc
          have hlt : xt ≠ [] → (Option.map (fun x => x.add k) A).map (·.block) = A.map (·.block) := fun _ => shift_block A k
          clear hT hD hX hX0 hbc
          by_cases he : four (sumW l1) = l2
          · have hd : decide (four (sumW l1) = l2) = true := decide_eq_true he
            have hov := Lib.hid (show ftake l = (xt, p4, 0) from by rw [HF.out, if_pos he, HP4.out])
            rw [hd]
            clear HF he hd
            go_wp2_with fail
            go_ret3
            refine ⟨_, c - k, xt, ?_, by rw [hov.out]; rfl, hXc, hw, hlt⟩
            rw [hov.out, hxl.out]
            rfl
          · have hd : decide (four (sumW l1) = l2) = false := decide_eq_false he
            have hov := Lib.hid (show ftake l = ([], 0, 11) from by rw [HF.out, if_neg he])
            rw [hd]
            clear HF he hd
            go_wp2_with fail
            go_ret3
            exact ⟨none, 0, [], by rw [hov.out]; rfl, by rw [hov.out]; rfl, Sl.none_ _ _, hw, fun h => absurd rfl h⟩
/-- what the document's Prefix answers -/
def RPreB (w0 : World) (A0 : Option Addr) (o : List (List UInt8) × Nat) (bad : Nat) (e : Ending) (w' : World) : Prop :=
  ∃ A c ps, e = .returned (.tuple #[.slice A (List.length ps) c, .int .i64 (o.2 : Nat), .int .i64 (bad : Nat)]) ∧ Hid (ptx ps = o.1) ∧ SlPt w' A c ps ∧ (∀ x ∈ ps, SlB w' x.1 x.2.1 x.2.2 ∧ (x.2.2 ≠ [] → x.1.map (·.block) = A0.map (·.block))) ∧ From w0.heap.size (A.map (·.block)) ∧ Below w0.heap.size w0 w'
/-- the number of what follows the frames: 0: nothing does -/
def fbad (l : List UInt8) : Nat := if (fpre l).2 = l.length then 0 else (ftake (l.drop (fpre l).2)).2.2

theorem fpre_nil : fpre [] = ([], 0) := fpre_bad (by rw [ftake_none (by rfl)]; simp)
theorem fpre_end (n : Nat) : ∀ l : List UInt8, l.length ≤ n → (fpre l).2 ≤ l.length ∧ (ftake (l.drop (fpre l).2)).2.2 ≠ 0 := by
  induction n with
  | zero =>
    intro l hl
    have : l = [] := List.eq_nil_of_length_eq_zero (by omega)
    subst this
    rw [fpre_nil, List.drop_nil, ftake_none (by rfl)]
    simp
  | succ n ih =>
    intro l hl
    by_cases h : (ftake l).2.2 = 0
    · obtain ⟨h1, h2⟩ := ftake_ok h
      rw [fpre_ok h]
      obtain ⟨i1, i2⟩ := ih (l.drop (ftake l).2.1) (by simp; omega)
      rw [List.drop_drop] at i2
      simp only [List.length_drop] at i1
      exact ⟨by dsimp only; omega, i2⟩
    · rw [fpre_bad h]
      exact ⟨by simp, by simpa using h⟩
end Go.Proofs.YtlpniegemklfeaaGreatDoor

namespace Go.Proofs.YtlpniegemklfeaaGreatDoor
open Go.RowKit
attribute [local go_sem ↓] Go.wp_at_zero Go.wp_at_succ

def fall (l : List UInt8) : List (List UInt8) := if (fpre l).2 = l.length then (fpre l).1 else []
/-- what All answers -/
def AllsB (w0 : World) (o : List (List UInt8)) (bad : Nat) (e : Ending) (w' : World) : Prop :=
  ∃ A c ps, e = .returned (.tuple #[.slice A (List.length ps) c, errv bad]) ∧ Hid (ptx ps = o) ∧ SlPt w' A c ps ∧ (∀ x ∈ ps, SlB w' x.1 x.2.1 x.2.2 ∧ (x.2.2 ≠ [] → From w0.heap.size (x.1.map (·.block)))) ∧ From w0.heap.size (A.map (·.block)) ∧ Below w0.heap.size w0 w'
theorem fbad_ne {l : List UInt8} (h : (fpre l).2 ≠ l.length) : fbad l = (ftake (l.drop (fpre l).2)).2.2 ∧ fbad l ≠ 0 := by
  have h1 : fbad l = (ftake (l.drop (fpre l).2)).2.2 := by unfold fbad; rw [if_neg h]
  exact ⟨h1, by rw [h1]; exact (fpre_end _ l (Nat.le_refl _)).2⟩
end Go.Proofs.YtlpniegemklfeaaGreatDoor

namespace Go.Proofs.YtlpniegemklfeaaGreatDoor
open Go.RowKit
attribute [local go_sem ↓] Go.wp_at_zero Go.wp_at_succ

theorem ftake_empty {l : List UInt8} (h : (ftake l).2.2 ≠ 0) : (ftake l).1 = [] := by
  unfold ftake at h ⊢
  split at h
  · rfl
  · rename_i n k hv
    by_cases h1 : 65536 < n
    · rw [if_pos h1]
    · rw [if_neg h1] at h ⊢
      by_cases h2 : l.length < k + n + 4
      · rw [if_pos h2]
      · rw [if_neg h2] at h ⊢
        by_cases h3 : four (sumW (l.take (k + n))) = (l.drop (k + n)).take 4
        · rw [if_pos h3] at h; simp at h
        · rw [if_neg h3]
/-- bytes that can be read, each a place, a capacity, its bytes -/
structure BSt (w : World) (ls : List Pt) (W : World) : Prop where
  bel : Below w.heap.size w W
  sl : ∀ x ∈ ls, SlB W x.1 x.2.1 x.2.2
theorem BSt.at {w W : World} {ls : List Pt} (h : BSt w ls W) {A : Option Addr} {c : Nat} {l : List UInt8} (hm : (A, c, l) ∈ ls) : SlB W A c l := h.sl _ hm
theorem BSt.below {w W W' : World} {ls : List Pt} (h : BSt w ls W) (hb : Below W.heap.size W W') : BSt w ls W' := ⟨bel_call h.bel hb, fun x hx => (h.sl x hx).below hb⟩
theorem BSt.add {w W : World} {ls : List Pt} (h : BSt w ls W) {A : Option Addr} {c : Nat} {l : List UInt8} (hs : SlB W A c l) : BSt w ((A, c, l) :: ls) W := ⟨h.bel, fun x hx => by
  rw [List.mem_cons] at hx
  rcases hx with rfl | hx
  · exact hs
  · exact h.sl x hx⟩

/-- a row of bytes that can be written -/
structure Wri (w : World) (g off : Nat) (m : List UInt8) : Prop where
  blk : ∃ cur, w.heap[g]? = some (.cells cur 5)
  at_ : ∀ j (h : j < m.length), w.cell? ⟨g, off + j, none⟩ = some (bv m[j])
theorem Wri.frozen {w : World} {g off : Nat} {m : List UInt8} (h : Wri w g off m) (i : Nat) : w.frozen? ⟨g, i, none⟩ = false := by
  obtain ⟨cur, hc⟩ := h.blk
  simp [World.frozen?, hc]
theorem Wri.set {w : World} {g off : Nat} {m : List UInt8} (h : Wri w g off m) {k : Nat} (_hk : k < m.length) (x : UInt8) : Wri (w.setCell ⟨g, off + k, none⟩ (bv x)) g off (m.set k x) := by
  obtain ⟨cur, hc⟩ := h.blk
  refine ⟨⟨cur.setIfInBounds (off + k) (bv x), by simp [World.setCell, Array.getElem?_modify, hc]⟩, fun j hj => ?_⟩
  have hj2 : j < m.length := by simpa using hj
  have h1 := h.at_ j hj2
  rw [cell_of_row w g _ cur 5 (0, 0) hc] at h1
  rw [cell_of_row _ g _ (cur.setIfInBounds (off + k) (bv x)) 5 (0, 0) (by simp [World.setCell, Array.getElem?_modify, hc])]
  rw [Array.getElem?_setIfInBounds, List.getElem_set]
  by_cases e : k = j
  · subst e
    rw [if_pos rfl, if_pos rfl, if_pos (Array.getElem?_eq_some_iff.1 h1).1]
  · rw [if_neg (by omega), if_neg e]; exact h1
/-- all blocks but those between lo and hi stay -/
structure Beside (lo hi : Nat) (W W' : World) : Prop where
  size : W.heap.size ≤ W'.heap.size
  block : ∀ k, k < W.heap.size → (k < lo ∨ hi ≤ k) → W'.heap[k]? = W.heap[k]?
theorem Beside.refl (lo hi : Nat) (W : World) : Beside lo hi W W := ⟨Nat.le_refl _, fun _ _ _ => rfl⟩
theorem Beside.set {lo hi : Nat} {W W' : World} (h : Beside lo hi W W') {g i : Nat} (h1 : lo ≤ g) (h2 : g < hi) (u : Value) : Beside lo hi W (W'.setCell ⟨g, i, none⟩ u) :=
  ⟨by simpa using h.size, fun k hk hs => (Below.heap_setCell W' ⟨g, i, none⟩ u k (by show k ≠ g; omega)).trans (h.block k hk hs)⟩
theorem Beside.sl {lo hi : Nat} {W W' : World} (h : Beside lo hi W W') {size n c : Nat} {A : Option Addr} {xs : List Value} (hs : Sl W size A n c xs) (hA : xs ≠ [] → ∀ g, A.map (·.block) = some g → g < lo ∨ hi ≤ g) : Sl W' size A n c xs := by
  refine ⟨hs.1, hs.2.1, hs.2.2.1, hs.2.2.2.1, fun j u hj => ?_⟩
  obtain ⟨ad, rfl, hc⟩ := hs.2.2.2.2 j u hj
  have hne : xs ≠ [] := by intro e; rw [e] at hj; simp at hj
  refine ⟨ad, rfl, ?_⟩
  have hlt := World.block_lt_of_cell? W _ hc
  have hb := h.block _ hlt (by rw [addr_add_block]; exact hA hne _ rfl)
  rw [← hc]
  unfold World.cell?
  rw [hb]

theorem meas_one {n k : Nat} (h : k < n) : n - (intOf (.int .i64 ((k : Int) + 1))).toNat < n - (intOf (.int .i64 (k : Int))).toNat := by
  have h1 : (intOf (.int .i64 ((k : Int) + 1))).toNat = k + 1 := by show ((k : Int) + 1).toNat = k + 1; omega
  have h2 : (intOf (.int .i64 (k : Int))).toNat = k := by show (k : Int).toNat = k; omega
  rw [h1, h2]
  omega
theorem val_one (k : Nat) : Value.int .i64 ((k : Int) + 1) = .int .i64 ((k + 1 : Nat) : Int) := rfl

end Go.Proofs.YtlpniegemklfeaaGreatDoor
