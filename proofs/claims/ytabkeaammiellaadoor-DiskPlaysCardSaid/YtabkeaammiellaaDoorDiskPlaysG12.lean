/- WHAT IT HOLDS: the document's disk in memory; what it shows, its files' bytes: walked. -/
import Derived.Test.YtabkeaammiellaaDoorDiskPlaysG11
namespace Go.Proofs.YtabkeaammiellaaDoor
open Go.RowKit Go.Maps Go.Sort
attribute [local go_sem ↓] Go.wp_at_zero Go.wp_at_succ

def rcl (x : Chg Bs) : List Value := [.int .i64 x.kind, .string ⟨x.name.toArray⟩, .string ⟨x.to.toArray⟩, .string ⟨x.val.toArray⟩]
def SlK (w : World) (B : Option Addr) (k : Nat) (cs : List (Chg Bs)) : Prop := Sl w 4 B cs.length k (cs.flatMap rcl)
theorem SlK.below {w w' : World} {A : Option Addr} {c : Nat} {l : List (Chg Bs)} (h : SlK w A c l) (hb : Below w.heap.size w w') : SlK w' A c l := Sl.below h hb
theorem SlK.at1 {w : World} {A : Option Addr} {c : Nat} {l : List (Chg Bs)} (h : SlK w A c l) {k : Nat} (hk : k < l.length) : ∃ ad b o, A = some ad ∧ ad.add (k * 4) = ⟨b, o, none⟩ ∧ w.cell? ⟨b, o, none⟩ = some (.int .i64 l[k].kind) ∧ w.cell? ⟨b, o + 1, none⟩ = some (.string ⟨l[k].name.toArray⟩) ∧ w.cell? ⟨b, o + 2, none⟩ = some (.string ⟨l[k].to.toArray⟩) ∧ w.cell? ⟨b, o + 3, none⟩ = some (.string ⟨l[k].val.toArray⟩) := by
  obtain ⟨ad, b, o, hA, had, hcc⟩ := Sl.atS (f := rcl) (size := 4) (fun _ => rfl) (by omega) h hk
  have h0 := hcc 0 _ rfl
  have h1 := hcc 1 _ rfl
  have h2 := hcc 2 _ rfl
  have h3 := hcc 3 _ rfl
  rw [Nat.add_zero] at h0
  exact ⟨ad, b, o, hA, had, h0, h1, h2, h3⟩
/-- the document's disk as cells -/
def rda (d : Dk Bs) (A : Option Addr) (c : Nat) (B : Option Addr) (k : Nat) : Array Value := #[.int .i64 d.room, .slice A d.sure.length c, .slice B d.pend.length k, .int .i64 d.fuse, .bool d.down]
structure Rdk (T : Nat → Prop) (w : World) (d : Dk Bs) (A : Option Addr) (c : Nat) (B : Option Addr) (k : Nat) : Prop where
  s : SlR w A c d.sure
  sa : Okb T w A
  p : SlK w B k d.pend
  pa : Okb T w B
theorem Rdk.below {T : Nat → Prop} {w w' : World} {d : Dk Bs} {A B : Option Addr} {c k : Nat} (h : Rdk T w d A c B k) (hb : Below w.heap.size w w') : Rdk T w' d A c B k := ⟨h.s.below hb, h.sa.below hb.size, h.p.below hb, h.pa.below hb.size⟩
theorem Blk.fiveC {w : World} {g : Nat} {t : TypeId} {a b c d e : Value} (h : Blk w g t #[a, b, c, d, e]) : w.cell? ⟨g, 0, none⟩ = some a ∧ w.cell? ⟨g, 1, none⟩ = some b ∧ w.cell? ⟨g, 2, none⟩ = some c ∧ w.cell? ⟨g, 3, none⟩ = some d ∧ w.cell? ⟨g, 4, none⟩ = some e ∧
    w.frozen? ⟨g, 0, none⟩ = false ∧ w.frozen? ⟨g, 1, none⟩ = false ∧ w.frozen? ⟨g, 2, none⟩ = false ∧ w.frozen? ⟨g, 3, none⟩ = false ∧ w.frozen? ⟨g, 4, none⟩ = false := ⟨h.cell 0, h.cell 1, h.cell 2, h.cell 3, h.cell 4, h.frozen 0, h.frozen 1, h.frozen 2, h.frozen 3, h.frozen 4⟩
theorem fdos_take {α : Type} (l : List (Bs × α)) {cs : List (Chg α)} {k : Nat} (hk : k < cs.length) : fdos l (cs.take (k + 1)) = fdo (fdos l (cs.take k)) cs[k] := by
  rw [List.take_succ_eq_append_getElem hk, fdos_snoc]
/-- a row of files that the document's walk may read -/
def RowR (T : Nat → Prop) (w w' : World) (e : Ending) (l : List (Bs × Bs)) : Prop := ∃ A' c' m, e = .returned (.slice A' (List.length m) c') ∧ Hid (m = l) ∧ SlR w' A' c' m ∧ Okb T w' A' ∧ Below w.heap.size w w'
set_option maxRecDepth 100000 in
set_option maxHeartbeats 1000000 in
theorem RShown_any {T : Nat → Prop} {d : Dk Bs} {A B : Option Addr} {c k : Nat} (w : World) (hT : ∀ k, w.heap.size ≤ k → T k) (h : Rdk T w d A c B k) (hl : d.sure.length + d.pend.length ≤ 100000) :
    Calls Tryd.prog 64 #[.agg (rda d A c B k)] w fun e w' => RowR T w w' e d.shown := by
  have hb0 := below_new w (.cells (rda d A c B k) 56)
  have HB := Lib.hid (Blk.new w 56 (rda d A c B k))
  obtain ⟨q0, q1, q2, q3, q4, -⟩ := HB.out.fiveC
  have HR := Lib.hid h
  have HT := Lib.hid hT
  have HB0 := Lib.hid hb0
  clear h hT
  go_enter Tryd.func64, Tryd.ntmps64
  go_wp2_with fail
  go_loopw [4, 3] (fun x y wr => ∃ (i : Nat) (E : Option Addr) (n : Nat) (m : List (Bs × Bs)), i ≤ d.pend.length ∧ x = .int .i64 i ∧ y = .slice E m.length n ∧ Hid (m = fdos d.sure (d.pend.take i)) ∧ SlR wr E n m ∧ Okb T wr E ∧ Below (w.alloc (.cells (rda d A c B k) 56)).heap.size (w.alloc (.cells (rda d A c B k) 56)) wr) (fun x _ w => d.pend.length - (intOf x).toNat)
  case atStart => exact ⟨0, A, c, d.sure, Nat.zero_le _, rfl, rfl, Lib.hid rfl, HR.out.s.below hb0, HR.out.sa.below hb0.size, Below.refl _ _⟩
  case round =>
    obtain ⟨i, E, n, m, hi, rfl, rfl, hm, hS, hE, hb⟩ := hrel
    have hBr := HB.out.below hb
    obtain ⟨z0, z1, z2, z3, z4, -⟩ := hBr.fiveC
    have hml : m.length ≤ 100000 := by
      rw [hm.out]
      have := flen_dos d.sure (d.pend.take i)
      rw [List.length_take] at this
      omega
    have hbw := bel_call hb0 hb
    by_cases hlt : i < d.pend.length
    · have hI : (i : Int) < (d.pend.length : Int) := by omega
      obtain ⟨ad, b, o, hAd, had, hc0, hc1, hc2, hc3⟩ := ((HR.out.p.below hb0).below hb).at1 hlt
      have HX := Lib.hid (fdos_take d.sure hlt)
      have hAp := RApply_any (T := T) d.pend[i] wr (fun k hk => HT.out k (Nat.le_trans hbw.size hk)) hS hE (by omega)
      have HA := Lib.hid hAp
      clear hAp hS hE hBr
      generalize d.pend[i] = x at *
      obtain ⟨kd, nm, tt, vv⟩ := x
      dsimp only at *
      subst hAd
      go_wp2_with fail
      refine HA.out.mono ?_
      rintro e w5 ⟨A5, c5, m5, rfl, hm5, hS5, hE5, hb5⟩
      go_wp2_with fail
      go_roundw
      case rel => exact ⟨i + 1, A5, c5, m5, hlt, by go_num, rfl, Lib.hid (by rw [hm5.out, hm.out, HX.out]), hS5, hE5, bel_call hb hb5⟩
      case measure => simp [intOf]; omega
    · have hI : (d.pend.length : Int) ≤ (i : Int) := by omega
      have HM := Lib.hid (show m = d.shown from by rw [hm.out, List.take_of_length_le (by omega)]; rfl)
      clear hm hBr
      go_wp2_with fail
      go_ret
      exact ⟨E, n, m, rfl, HM, hS, hE, hbw⟩
def bln (b : Bs) : Nat := b.length
theorem fused_take {l : List (Bs × Bs)} {k : Nat} (hk : k < l.length) : fused bln (l.take (k + 1)) = fused bln (l.take k) + l[k].2.length := by
  rw [List.take_succ_eq_append_getElem hk]
  unfold fused bln
  rw [List.map_append, List.sum_append]
  simp only [List.map_cons, List.map_nil, List.sum_cons, List.sum_nil, Nat.add_zero]
theorem fused_takeLe (l : List (Bs × Bs)) (k : Nat) : fused bln (l.take k) ≤ fused bln l := by
  conv => rhs; rw [← List.take_append_drop k l]
  unfold fused
  rw [List.map_append, List.sum_append]
  omega
set_option maxRecDepth 100000 in
set_option maxHeartbeats 1000000 in
theorem RUsed_any {A : Option Addr} {c : Nat} {l : List (Bs × Bs)} (w : World) (h : SlR w A c l) (hl : l.length ≤ 100000000) (hu : fused bln l ≤ 4000000000000) : Calls Tryd.prog 65 #[.slice A l.length c] w fun e w' => e = .returned (.int .i64 (fused bln l : Nat)) ∧ Below w.heap.size w w' := by
  have H := Lib.hid h
  clear h
  go_enter Tryd.func65, Tryd.ntmps65
  go_wp2_with fail
  go_loopw [4, 3] (fun x y wr => ∃ k : Nat, k ≤ l.length ∧ x = .int .i64 k ∧ y = .int .i64 (fused bln (l.take k) : Nat) ∧ Below w.heap.size w wr) (fun x _ w => l.length - (intOf x).toNat)
  case atStart => exact ⟨0, Nat.zero_le _, rfl, rfl, Below.refl _ _⟩
  case round =>
    obtain ⟨k, hk, rfl, rfl, hb⟩ := hrel
    have hle := fused_takeLe l k
    by_cases hlt : k < l.length
    · have hI : (k : Int) < (l.length : Int) := by omega
      obtain ⟨ad, b, o, hA, had, hc0, hc1⟩ := (H.out.below hb).at1 hlt
      have hft := fused_take hlt
      have hle2 := fused_takeLe l (k + 1)
      generalize l[k] = x at *
      subst hA
      have hsz : (ByteArray.size ⟨x.2.toArray⟩) = x.2.length := by simp [ByteArray.size]
      generalize fused bln (l.take k) = u at *
      obtain ⟨hwr, hwr2⟩ := wrap_ok (x := (u : Int) + (x.2.length : Int)) (by omega) (by omega)
      go_wp2_with fail
      go_roundw
      case rel => exact ⟨k + 1, hlt, by go_num, by rw [hft]; go_num, hb⟩
      case measure => simp [intOf]; omega
    · have hI : (l.length : Int) ≤ (k : Int) := by omega
      have HM := Lib.hid (show fused bln (l.take k) = fused bln l from by rw [List.take_of_length_le (by omega)])
      go_wp2_with fail
      go_ret
      exact ⟨by rw [← HM.out]; rfl, hb⟩
end Go.Proofs.YtabkeaammiellaaDoor
