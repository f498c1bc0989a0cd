/- WHAT IT HOLDS: a file of a disk named anew, walked. | WHAT IT HOLDS: a disk's sure files, told as a slice of files of their own, walked; texts compared. | WHAT IT HOLDS: the law's disk is alive, walked. | WHAT IT HOLDS: the document's names, walked; what a nil disk answers, walked; the law DiskNames, walked. -/
import Derived.Test.YtddmfoldnlafaaaGreatDoorCursorBackG10
import Derived.Test.YtddmfoldnlafaaaGreatDoorCursorBackG13
import Derived.Deep.QuietTactic
import Derived.BigQuiet
import Derived.Test.YtddmfoldnlafaaaGreatDoorCursorBackG03
namespace Go.Proofs.YtddmfoldnlafaaaGreatDoor
open Go.RowKit Go.Maps Go.Sort
attribute [local go_sem ↓] Go.wp_at_zero Go.wp_at_succ

set_option maxRecDepth 100000 in
set_option maxHeartbeats 1000000 in
theorem Rename_any {w : World} {q : Fp} {d : Dk Sv} (h : Dsk w q d) (hf : -1 ≤ d.fuse ∧ d.fuse ≤ 9223372036854775807) (hp : d.pend.length ≤ 1000000) (hL : d.shown.length ≤ 100000000) (n t : Bs) (hn : n.length ≤ 100000000) (ht : t.length ≤ 100000000) :
    Calls Tryz.prog 81 #[.pointer (some ⟨q.g, 0, none⟩), .string ⟨n.toArray⟩, .string ⟨t.toArray⟩] w fun e w' => e = .returned (errv (dRename Sv.nil d n t).2) ∧ Dgo w q d (dRename Sv.nil d n t).1 w' := by
  have hW := Works_any h hf
  obtain ⟨s1, s2, s3, s4⟩ := dWorks_same d
  have hR : dRename Sv.nil d n t = if (dWorks d).2 ≠ 0 then dWorks d else if named n = false ∨ named t = false then ((dWorks d).1, 2) else if (gget n d.shown).isNone = true then ((dWorks d).1, 4) else (dAdd (dWorks d).1 ⟨1, n, t, Sv.nil⟩, 0) := rfl
  generalize dWorks d = dw at *
  obtain ⟨d1, k⟩ := dw
  dsimp only at *
  have hsh : d1.shown = d.shown := by unfold Dk.shown; rw [s1, s2]
  clear h hf
  rcases s4 with rfl | rfl
  · rw [if_neg (by simp)] at hR
    rw [show errv 0 = Value.nilIface from rfl] at hW
    have HW := Lib.hid hW
    clear hW
    go_enter Tryz.func81, Tryz.ntmps81
    go_wp2_with fail
    refine HW.out.mono ?_
    rintro e w1 ⟨rfl, hD1, hw1⟩
    have hF1 : Frd q w w1 := Frd.of_wr (.inl rfl) hw1
    go_wp2_with fail
    refine (Named_any n w1 (by omega)).mono ?_
    rintro e w2 ⟨rfl, hb2⟩
    have hD2 := hD1.below hb2
    have hF2 : Frd q w w2 := hF1.trans (Frd.of_below (q := q) hb2) fun i hi => .inl hi
    cases hnm : named n
    · have HR := Lib.hid (show dRename Sv.nil d n t = (d1, 2) from by rw [hR, if_pos (.inl hnm)])
      clear hR hnm
      go_wp2_with fail
      go_ret
      exact ⟨by rw [HR.out]; rfl, by rw [HR.out]; exact Dgo.of hD2 hF2 s1 s2⟩
    go_wp2_with fail
    refine (Named_any t w2 (by omega)).mono ?_
    rintro e w3 ⟨rfl, hb3⟩
    replace hD2 := hD2.below hb3
    replace hF2 : Frd q w w3 := hF2.trans (Frd.of_below (q := q) hb3) fun i hi => .inl hi
    cases hnt : named t
    · have HR := Lib.hid (show dRename Sv.nil d n t = (d1, 2) from by rw [hR, if_pos (.inr hnt)])
      clear hR hnm hnt
      go_wp2_with fail
      go_ret
      exact ⟨by rw [HR.out]; rfl, by rw [HR.out]; exact Dgo.of hD2 hF2 s1 s2⟩
    rw [if_neg (by simp [hnm, hnt])] at hR
    have hlk := hD2.shown.look (T := 111) (E := 25) Tryz.underlying9 Tryz.underlying111 (zero_bs _) (k := n) (by unfold maxLen; omega)
    rw [hsh] at hlk
    obtain ⟨a0, a1, a2, -⟩ := hD2.six
    cases hgt : gget n d.shown with
    | none =>
      rw [hgt] at hlk
      have HR := Lib.hid (show dRename Sv.nil d n t = (d1, 4) from by rw [hR, hgt]; rfl)
      clear hR hgt
      go_wp2_with fail
      go_ret
      exact ⟨by rw [HR.out]; rfl, by rw [HR.out]; exact Dgo.of hD2 hF2 s1 s2⟩
    | some u =>
      rw [hgt] at hlk
      dsimp only [Option.map_some, Option.getD_some, Option.isSome_some] at hlk
      have HR := Lib.hid (show dRename Sv.nil d n t = (dAdd d1 ⟨1, n, t, Sv.nil⟩, 0) from by rw [hR, hgt]; rfl)
      clear hR hgt
      go_wp2_with fail
      refine (Add_any (x := ⟨1, n, t, Sv.nil⟩) hD2 (by rw [s2]; omega) (by rw [hsh]; omega) (named_len hnm) (named_len hnt)).mono ?_
      rintro e w4 ⟨rfl, hG⟩
      have hE := (Dgo.add hD2 (named_len hnm) (named_len hnt) hG).next hF2 s1 s2
      clear hlk a0 a1 a2
      go_wp2_with fail
      go_ret
      exact ⟨by rw [HR.out]; rfl, by rw [HR.out]; exact hE⟩
  · have HR := Lib.hid (show dRename Sv.nil d n t = (d1, 14) from by rw [hR, if_pos (by simp)])
    rw [show errv 14 = Value.iface 79 (.int .i64 14) from rfl] at hW
    have HW := Lib.hid hW
    clear hW hR
    go_enter Tryz.func81, Tryz.ntmps81
    go_wp2_with fail
    refine HW.out.mono ?_
    rintro e w1 ⟨rfl, hD1, hw1⟩
    go_wp2_with fail
    go_ret
    exact ⟨by rw [HR.out]; rfl, by rw [HR.out]; exact Dgo.of hD1 (Frd.of_wr (.inl rfl) hw1) s1 s2⟩
end Go.Proofs.YtddmfoldnlafaaaGreatDoor

namespace Go.Proofs.YtddmfoldnlafaaaGreatDoor
open Go.RowKit Go.Maps Go.Sort
attribute [local go_sem ↓] Go.wp_at_zero Go.wp_at_succ

def flv (p : Bs × Sv) : List Value := [.string ⟨p.1.toArray⟩, p.2.v]
theorem flv_len (p : Bs × Sv) : (flv p).length = 2 := rfl
/-- a slice of files -/
def SlF (w : World) (A : Option Addr) (c : Nat) (r : List (Bs × Sv)) : Prop := Sl w 2 A r.length c (r.flatMap flv) ∧ ∀ p ∈ r, SlB w p.2.A p.2.c p.2.l
theorem SlF.below {w w' : World} {A : Option Addr} {c : Nat} {r : List (Bs × Sv)} (h : SlF w A c r) (hb : Below w.heap.size w w') : SlF w' A c r := ⟨Sl.below h.1 hb, fun p hp => Sl.below (h.2 p hp) hb⟩
theorem fl_info : (Tryz.prog.info? 185).map (fun i => (i.zero, i.size, i.bytes)) = some (some (.agg #[.string ⟨#[]⟩, .slice none 0 0]), 2, 40) := by kernel_rfl
theorem one_flv (p : Bs × Sv) : ∀ u ∈ flv p, u.oneCell' = true := by
  intro u hu
  simp only [flv, Sv.v, List.mem_cons, List.not_mem_nil, or_false] at hu
  rcases hu with rfl | rfl <;> rfl
theorem lit_fl (w : World) (p : Bs × Sv) : Sl (w.alloc (.cells #[.string ⟨p.1.toArray⟩, p.2.v] 185)) 2 (some ⟨w.heap.size, 0, none⟩) 1 1 (flv p) :=
  ⟨by simp [flv], by omega, by simp [maxLen], (fun h => by cases h), fun j u hj => ⟨_, rfl, by
    rw [addr_lit, cell_of_row _ _ _ _ 185 (0, 0) (heap_alloc_new w _)]
    simpa [flv] using hj⟩⟩
/-- append of one file -/
theorem wpl_file {w : World} {ops : Array Oper} {rest : List Oper} {o : Oper} {a : Act} {Q : Exit → Act → World → Prop} (hgd : o.guard = none) (s x : Operand)
    (ho : o.op = .call { callee := .builtin .append, args := #[s, x], argTypes := #[181, 181] })
    (base : Nat) (A : Option Addr) (n c : Nat) (xs : List Value) (hs : a.eval s = .slice A n c) (hown : Own w base 185 2 A n c xs) (hn : n ≤ 100000000)
    (A2 : Option Addr) (p : Bs × Sv) (hx : a.eval x = .slice A2 1 1) (hr : Sl w 2 A2 1 1 (flv p)) (hbase : base ≤ w.heap.size)
    (h : ∀ A' c' w', Own w' base 185 2 A' (n + 1) c' (xs ++ flv p) → w.grownBy w' (A.map (·.block)) → (A'.map (·.block) = A.map (·.block) ∨ A'.map (·.block) = some w.heap.size) → wpList Tryz.prog ops Q rest (a.put o.dst (.slice A' (n + 1) c')) w') : wpList Tryz.prog ops Q (o :: rest) a w := by
  obtain ⟨i0, hi, hz0, hz1, hz2⟩ := info_parts fl_info
  refine wpl_append hgd s x 181 ho base 185 i0 _ 2 40 Tryz.underlying181 hi hz0 hz1 hz2 rfl (by decide) A n c xs hs hown A2 1 1 (flv p) hx hr (one_flv p) (by omega) (by unfold maxLen; omega) hbase ?_
  intro A' c' w' hap
  exact h A' c' w' hap.own hap.grown hap.place
/-- files that are told: those of their own that lie apart from the row -/
structure Tf (w : World) (B : Nat) (A : Option Addr) (c : Nat) (r : List (Bs × Sv)) : Prop where
  row : Own w B 185 2 A r.length c (r.flatMap flv)
  rd : ∀ p ∈ r, SlB w p.2.A p.2.c p.2.l
  ap : ∀ p ∈ r, p.2.l ≠ [] → ∀ k, p.2.A.map (·.block) = some k → A.map (·.block) ≠ some k
  lo : ∀ p ∈ r, ∀ k, p.2.A.map (·.block) = some k → B ≤ k ∧ k < w.heap.size
theorem Tf.below {w w' : World} {B c : Nat} {A : Option Addr} {r : List (Bs × Sv)} (h : Tf w B A c r) (hb : Below w.heap.size w w') : Tf w' B A c r := ⟨Own.below h.row hb, fun p hp => Sl.below (h.rd p hp) hb, h.ap, fun p hp k hk => ⟨(h.lo p hp k hk).1, Nat.lt_of_lt_of_le (h.lo p hp k hk).2 hb.size⟩⟩
theorem Tf.add {w w' w2 : World} {B c c' c5 : Nat} {A A' A5 : Option Addr} {r : List (Bs × Sv)} {nm m : Bs} (h : Tf w B A c r) (hB : B ≤ w.heap.size) (ho : OwnB w' w.heap.size 5 A5 c5 m) (hb : Below w.heap.size w w') (o : Obj)
    (hO : Own w2 B 185 2 A' (r.length + 1) c' (r.flatMap flv ++ flv (nm, ⟨A5, c5, m⟩))) (hg : (w'.alloc o).grownBy w2 (A.map (·.block))) (hp : A'.map (·.block) = A.map (·.block) ∨ A'.map (·.block) = some (w'.alloc o).heap.size) :
    Tf w2 B A' c' (r ++ [(nm, ⟨A5, c5, m⟩)]) := by
  have hbo := below_new w' o
  have hso : (w'.alloc o).heap.size = w'.heap.size + 1 := by simp
  have hs := hb.size
  have hold : ∀ (A1 : Option Addr) (c1 : Nat) (l : Bs), SlB (w'.alloc o) A1 c1 l → (l ≠ [] → ∀ k, A1.map (·.block) = some k → A.map (·.block) ≠ some k) → SlB w2 A1 c1 l ∧ (l ≠ [] → ∀ k, A1.map (·.block) = some k → A'.map (·.block) ≠ some k) := by
    intro A1 c1 l hS hA
    have hlt : l ≠ [] → ∀ ad, A1 = some ad → ad.block < (w'.alloc o).heap.size := fun hne ad e => by
      obtain ⟨ad', e2, hc⟩ := Sl.at1 (f := bv) (l := l) hS (k := 0) (List.length_pos_iff.2 hne)
      rw [e] at e2
      injection e2 with e2
      subst e2
      have := World.block_lt_of_cell? _ _ hc
      rwa [addr_add_block] at this
    refine ⟨SlB.sameB hS fun hne ad e => hg.block _ (hlt hne ad e) (fun e2 => hA hne ad.block (by rw [e]; rfl) e2.symm), fun hne k e => ?_⟩
    rcases hp with hp | hp
    · rw [hp]; exact hA hne k e
    · rw [hp]
      intro e2
      injection e2 with e2
      obtain ⟨ad, rfl⟩ : ∃ ad, A1 = some ad := by cases A1 with | none => cases e | some ad => exact ⟨ad, rfl⟩
      have := hlt hne ad rfl
      injection e with e
      dsimp only at e
      omega
  have hnew := hold A5 c5 m (Sl.below (Own.sl ho) hbo) (fun _ k e => by
    have h5 := (Own.lt ho k e).1
    intro e2
    have := (Own.lt h.row k e2).2
    omega)
  have hrs : ∀ p ∈ r, SlB w2 p.2.A p.2.c p.2.l ∧ (p.2.l ≠ [] → ∀ k, p.2.A.map (·.block) = some k → A'.map (·.block) ≠ some k) := fun p hp => hold _ _ _ (Sl.below (Sl.below (h.rd p hp) hb) hbo) (h.ap p hp)
  refine ⟨by simpa using hO, fun p hp => ?_, fun p hp => ?_, fun p hp k hk => ?_⟩
  · rcases List.mem_append.1 hp with hp | hp
    · exact (hrs p hp).1
    · rw [List.mem_singleton.1 hp]; exact hnew.1
  · rcases List.mem_append.1 hp with hp | hp
    · exact (hrs p hp).2
    · rw [List.mem_singleton.1 hp]; exact hnew.2
  · have h2 := hg.size
    rcases List.mem_append.1 hp with hp | hp
    · have := h.lo p hp k hk
      omega
    · rw [List.mem_singleton.1 hp] at hk
      have := Own.lt ho k hk
      omega
theorem gmap_take {l : List (Bs × Sv)} {r : List (Bs × Sv)} {k : Nat} (hk : k < l.length) (h : gmap Sv.l r = gmap Sv.l (l.take k)) {m : Bs} (hm : m = l[k].2.l) {A : Option Addr} {c : Nat} : gmap Sv.l (r ++ [(l[k].1, ⟨A, c, m⟩)]) = gmap Sv.l (l.take (k + 1)) := by
  rw [List.take_succ_eq_append_getElem hk]
  unfold gmap at *
  rw [List.map_append, List.map_append, h, hm]
  rfl
theorem gmap_len {α β : Type} {f : α → β} {r : List (Bs × α)} : (gmap f r).length = r.length := by unfold gmap; rw [List.length_map]
set_option maxRecDepth 100000 in
set_option maxHeartbeats 1000000 in
theorem DSure_any {w : World} {q : Fp} {d : Dk Sv} (h : Dsk w q d) (hl : d.sure.length ≤ 1000000) : Calls Tryz.prog 91 #[.pointer (some ⟨q.g, 0, none⟩)] w fun e w' => ∃ A c r, e = .returned (.slice A (List.length r) c) ∧ Hid (gmap Sv.l r = gmap Sv.l d.sure) ∧ Tf w' w.heap.size A c r ∧ Below w.heap.size w w' := by
  obtain ⟨a0, a1, a2, a3, a4, a5, -⟩ := h.six
  have HK := Lib.hid (Keys_any q.bs w)
  have HS := Lib.hid (Sorted_any h.sure h.ris (by omega))
  have HD := Lib.hid h
  clear h
  go_enter Tryz.func91, Tryz.ntmps91
  go_wp2_with fail
  refine HK.out.mono ?_
  rintro e w1 ⟨rfl, rfl⟩
  go_wp2_with fail
  refine HS.out.mono ?_
  rintro e w2 ⟨A0, c0, m0, rfl, hm0, ho0, hb0⟩
  clear HK HS a0 a1 a2 a3 a4 a5
  have HM := Lib.hid hm0.out
  have hml : m0.length = d.sure.length := by rw [hm0.out]; unfold names; rw [List.length_map]
  have HT := Lib.hid (show SlT w2 A0 c0 m0 from Own.sl ho0)
  clear hm0 ho0
  rw [hml]
  go_wp2_with fail
  go_loopw [15, 3] (fun x y wr => ∃ (k : Nat) (A : Option Addr) (c : Nat) (r : List (Bs × Sv)), k ≤ d.sure.length ∧ x = .int .i64 k ∧ y = .slice A r.length c ∧ Tf wr w2.heap.size A c r ∧ Hid (gmap Sv.l r = gmap Sv.l (d.sure.take k)) ∧ Below w2.heap.size w2 wr) (fun x _ w => d.sure.length - (intOf x).toNat)
  case atStart => exact ⟨0, none, 0, [], Nat.zero_le _, rfl, rfl, ⟨Own.none_ _ _ _ _, (fun p hp => by simp at hp), (fun p hp => by simp at hp), (fun p hp => by simp at hp)⟩, Lib.hid rfl, Below.refl _ _⟩
  case round =>
    obtain ⟨k, A, c, r, hk, rfl, rfl, hT, hR, hb⟩ := hrel
    have hrl : r.length = k := by
      have := congrArg List.length hR.out
      rw [gmap_len, gmap_len, List.length_take] at this
      omega
    subst hrl
    by_cases hlt : r.length < d.sure.length
    · have hTx := HT.out.below hb
      obtain ⟨adT, bT, oT, hAT, hadT, hccT⟩ := Sl.atS (f := fun x => [encStr x]) (size := 1) (fun _ => rfl) (by omega) (l := m0) (k := r.length) (n := m0.length) (c := c0) (A := A0) (by
        have := hTx
        unfold SlT tx at this
        rwa [List.map_eq_flatMap] at this) (by omega)
      have hcT := hccT 0 _ rfl
      rw [Nat.add_zero] at hcT
      rw [Nat.mul_one] at hadT
      have hnm : m0[r.length]'(by omega) = d.sure[r.length].1 := by
        have := HM.out
        unfold names at this
        simp [this]
      rw [hnm] at hcT
      have hDr := HD.out.below hb0
      have hDr2 := hDr.below hb
      have hmem := List.getElem_mem hlt
      have hlk := hDr2.sure.look1 (T := 111) (E := 25) Tryz.underlying9 Tryz.underlying111 (zero_bs _) (k := d.sure[r.length].1) (by have := hDr2.nm.1 _ hmem; unfold maxLen; omega)
      rw [gget_of_mem hDr2.ris (show (d.sure[r.length].1, d.sure[r.length].2) ∈ d.sure from hmem)] at hlk
      have hsv : d.sure[r.length].2 ∈ svs d := List.mem_append.2 (.inl (List.mem_map_of_mem hmem))
      have hrd := hDr2.rd _ hsv
      have hln := hDr2.len _ hsv
      obtain ⟨a0, a1, a2, a3, a4, a5, -⟩ := hDr2.six
      have hst := fun (A5 : Option Addr) (c5 : Nat) (m5 : Bs) (hm5 : m5 = d.sure[r.length].2.l) => gmap_take hlt hR.out hm5 (A := A5) (c := c5)
      clear hTx hccT hnm hDr hDr2 hsv hR hmem
      generalize d.sure[r.length] = x at *
      obtain ⟨nm, ⟨sA, sc, sl⟩⟩ := x
      dsimp only [Option.map_some, Option.getD_some, Sv.v] at *
      have HC := Lib.hid (BClone_any sl _ hrd (by omega))
      have HST := Lib.hid hst
      have HTf := Lib.hid hT
      subst hAT
      clear hrd hln hst hT
      dsimp only [encStr] at hcT
      go_wp2_with fail
      refine HC.out.mono ?_
      rintro e w5 ⟨A5, c5, m5, rfl, hm5, ho5, hb5⟩
      have hT5 := HTf.out.below hb5
      have hrow := World.ownsRow.alloc hT5.row (.cells #[.string ⟨nm.toArray⟩, .slice A5 m5.length c5] 185)
      have hlit := lit_fl w5 (nm, ⟨A5, c5, m5⟩)
      dsimp only [Sv.v] at hlit
      have hz : w2.heap.size ≤ (w5.alloc (.cells #[.string ⟨nm.toArray⟩, .slice A5 m5.length c5] 185)).heap.size := by
        have h1 := hb.size
        have h2 := hb5.size
        simp
        omega
      have hBe := bel_alloc (hb.trans (hb5.mono hb.size)) (.cells #[.string ⟨nm.toArray⟩, .slice A5 m5.length c5] 185)
      have hbase := Own.lt hT5.row
      have HM5 := Lib.hid hm5.out
      have HO5 := Lib.hid ho5
      have HB5 := Lib.hid hb5
      clear hm5 ho5 hb5 hT5 HC hlk a0 a1 a2 a3 a4 a5 hcT hadT
      go_wp2_with (at_builtin; go_must (refine wpl_file rfl _ _ rfl w2.heap.size A r.length c (r.flatMap flv) rfl hrow (by omega) _ (nm, ⟨A5, c5, m5⟩) rfl hlit hz ?_; intro A6 c6 w6 ho6 hg6 hp6))
      have hlen : r.length + 1 = (r ++ [(nm, (⟨A5, c5, m5⟩ : Sv))]).length := by simp
      rw [hlen]
      go_roundw
      case rel => exact ⟨r.length + 1, A6, c6, r ++ [(nm, ⟨A5, c5, m5⟩)], hlt, rfl, rfl, HTf.out.add hb.size HO5.out HB5.out _ ho6 hg6 hp6, Lib.hid (HST.out _ _ _ HM5.out), hBe.trans ⟨hg6.os, hg6.tape, hg6.output, hg6.size, fun i hi => hg6.block i (by have := hz; omega) (fun e => by have := (hbase i e.symm).1; omega)⟩⟩
      case measure => simp [intOf]; omega
    · have hke : r.length = d.sure.length := by omega
      have HF := Lib.hid (show Tf wr w.heap.size A c r from ⟨Own.more hT.row hb0.size, hT.rd, hT.ap, fun p hp k hk => ⟨Nat.le_trans hb0.size (hT.lo p hp k hk).1, (hT.lo p hp k hk).2⟩⟩)
      have HG := Lib.hid (show gmap Sv.l r = gmap Sv.l d.sure from by rw [hR.out, hke, List.take_length])
      have HB := Lib.hid (hb0.trans (hb.mono hb0.size))
      clear hT hR hke
      go_wp2_with fail
      go_ret
      exact ⟨A, c, r, rfl, HG.out, HF.out, HB.out⟩
/-- the cell k of a slice of texts -/
theorem SlT.at1 {w : World} {A : Option Addr} {c : Nat} {m : List Bs} (h : SlT w A c m) {k : Nat} (hk : k < m.length) : ∃ ad b o, A = some ad ∧ ad.add k = ⟨b, o, none⟩ ∧ w.cell? ⟨b, o, none⟩ = some (.string ⟨m[k].toArray⟩) := by
  have h2 : Sl w 1 A m.length c (m.flatMap fun x => [encStr x]) := by
    have := h
    unfold SlT tx at this
    rwa [List.map_eq_flatMap] at this
  obtain ⟨ad, b, o, hA, had, hcc⟩ := Sl.atS (f := fun x => [encStr x]) (size := 1) (fun _ => rfl) (by omega) h2 hk
  have hc := hcc 0 _ rfl
  rw [Nat.add_zero] at hc
  rw [Nat.mul_one] at had
  exact ⟨ad, b, o, hA, had, hc⟩
set_option maxRecDepth 100000 in
set_option maxHeartbeats 1000000 in
theorem Texts_any {A B : Option Addr} {c c2 : Nat} {m m2 : List Bs} (w : World) (h : SlT w A c m) (h2 : SlT w B c2 m2) : Calls Tryz.prog 92 #[.slice A m.length c, .slice B m2.length c2] w fun e w' => e = .returned (.bool (decide (m = m2))) ∧ Below w.heap.size w w' := by
  have hm : m.length ≤ maxLen := Nat.le_trans h.2.1 h.2.2.1
  have hm2 : m2.length ≤ maxLen := Nat.le_trans h2.2.1 h2.2.2.1
  unfold maxLen at hm hm2
  have H := Lib.hid h
  have H2 := Lib.hid h2
  clear h h2
  by_cases hlen : m.length = m2.length
  · have hne : ((m.length : Int) != (m2.length : Int)) = false := by simp [hlen]
    have HL := Lib.hid hlen
    clear hlen
    go_enter Tryz.func92, Tryz.ntmps92
    go_wp2_with fail
    go_loopw [13] (fun x wr => ∃ k : Nat, k ≤ m.length ∧ x = .int .i64 k ∧ Hid (m.take k = m2.take k) ∧ Below w.heap.size w wr) (fun x w => m.length - (intOf x).toNat)
    case atStart => exact ⟨0, Nat.zero_le _, rfl, Lib.hid rfl, Below.refl _ _⟩
    case round =>
      obtain ⟨k, hk, rfl, hq, hbr⟩ := hrel
      by_cases hlt : k < m.length
      · have hlt2 : k < m2.length := by rw [← HL.out]; exact hlt
        obtain ⟨ad, b, o, hA, had, hc⟩ := SlT.at1 (H.out.below hbr) hlt
        obtain ⟨ad2, b2, o2, hA2, had2, hc2⟩ := SlT.at1 (H2.out.below hbr) hlt2
        have s1 := Lib.hid (show m.take (k + 1) = m.take k ++ [m[k]] from List.take_succ_eq_append_getElem hlt)
        have s2 := Lib.hid (show m2.take (k + 1) = m2.take k ++ [m2[k]] from List.take_succ_eq_append_getElem hlt2)
        have HX := Lib.hid (show m[k] ≠ m2[k] → m ≠ m2 from fun h1 e => h1 (by subst e; rfl))
        generalize m[k] = x at *
        generalize m2[k] = y at *
        subst hA hA2
        by_cases he : x = y
        · have hbe : (x == y) = true := by rw [he]; simp
          have hbe2 : (y == y) = true := by simp
          have HE := Lib.hid he
          have hi1 : (k : Int) < (m.length : Int) := by omega
          have hi2 : (k : Int) < (m2.length : Int) := by omega
          clear he
          go_wp2_with fail
          go_quiet (fail)
          go_wp2_with fail
          go_roundw
          case rel => exact ⟨k + 1, hlt, by go_num, Lib.hid (by rw [s1.out, s2.out, hq.out, HE.out]), below_drewN hbr _⟩
          case measure => simp [intOf]; omega
        · have hbe : (x == y) = false := by simp [he]
          have hd := Lib.hid (show decide (m = m2) = false from decide_eq_false (HX.out he))
          have hi1 : (k : Int) < (m.length : Int) := by omega
          have hi2 : (k : Int) < (m2.length : Int) := by omega
          clear he
          go_wp2_with fail
          go_quiet (fail)
          go_wp2_with fail
          go_ret
          exact ⟨by rw [hd.out]; rfl, below_drewN hbr _⟩
      · have hd := Lib.hid (show decide (m = m2) = true from decide_eq_true (by
          have := hq.out
          rwa [List.take_of_length_le (by omega), List.take_of_length_le (by have := HL.out; omega)] at this))
        go_wp2_with fail
        go_ret
        exact ⟨by rw [hd.out]; rfl, hbr⟩
  · have hne : ((m.length : Int) != (m2.length : Int)) = true := by rw [bne_iff_ne]; omega
    have hd := Lib.hid (show decide (m = m2) = false from decide_eq_false (fun e => hlen (by rw [e])))
    clear hlen
    go_enter Tryz.func92, Tryz.ntmps92
    go_wp2_with fail
    go_ret
    exact ⟨by rw [hd.out]; rfl, Below.refl _ _⟩
/-! ### rows that stay while a disk is used -/
/-- the block of a slice, if any, is there, and is none of a disk's -/
def Hld (q : Fp) (w : World) (A : Option Addr) : Prop := ∀ k, A.map (·.block) = some k → k < w.heap.size ∧ ¬ q.M k
theorem Hld.act {q q' : Fp} {w w' : World} {A : Option Addr} (h : Hld q w A) (hF : Frd q w w') (hM : ∀ i, q'.M i → q.M i ∨ w.heap.size ≤ i) : Hld q' w' A := fun k hk => by
  obtain ⟨h1, h2⟩ := h k hk
  exact ⟨Nat.lt_of_lt_of_le h1 hF.size, fun hq => by
    rcases hM k hq with h3 | h3
    · exact h2 h3
    · omega⟩
theorem Hld.call {q : Fp} {w w' : World} {A : Option Addr} (h : Hld q w A) (hb : Below w.heap.size w w') : Hld q w' A := fun k hk => ⟨Nat.lt_of_lt_of_le (h k hk).1 hb.size, (h k hk).2⟩
theorem Hld.of {q : Fp} {w0 w : World} {d : Dk Sv} (hD : Dsk w0 q d) {A : Option Addr} (h : ∀ k, A.map (·.block) = some k → w0.heap.size ≤ k ∧ k < w.heap.size) : Hld q w A := fun k hk => ⟨(h k hk).2, fun hq => by
  have := hD.ltM hq
  have := (h k hk).1
  omega⟩
theorem Sl.sameH {w w' : World} {size n c : Nat} {A : Option Addr} {xs : List Value} (h : Sl w size A n c xs) (hs : ∀ k, A.map (·.block) = some k → w'.heap[k]? = w.heap[k]?) : Sl w' size A n c xs :=
  ⟨h.1, h.2.1, h.2.2.1, h.2.2.2.1, fun j u hj => by
    obtain ⟨ad, hA, hc⟩ := h.2.2.2.2 j u hj
    refine ⟨ad, hA, ?_⟩
    rw [← hc]
    unfold World.cell?
    rw [addr_add_block, hs ad.block (by rw [hA]; rfl)]⟩
theorem Hld.same {q : Fp} {w w' : World} {A : Option Addr} (h : Hld q w A) (hF : Frd q w w') : ∀ k, A.map (·.block) = some k → w'.heap[k]? = w.heap[k]? := fun k hk => hF.block k (h k hk).1 (h k hk).2
/-- texts that stay -/
def TxH (q : Fp) (w : World) (A : Option Addr) (c : Nat) (m : List Bs) : Prop := SlT w A c m ∧ Hld q w A
theorem TxH.act {q q' : Fp} {w w' : World} {A : Option Addr} {c : Nat} {m : List Bs} (h : TxH q w A c m) (hF : Frd q w w') (hM : ∀ i, q'.M i → q.M i ∨ w.heap.size ≤ i) : TxH q' w' A c m := ⟨Sl.sameH h.1 (h.2.same hF), h.2.act hF hM⟩
theorem TxH.call {q : Fp} {w w' : World} {A : Option Addr} {c : Nat} {m : List Bs} (h : TxH q w A c m) (hb : Below w.heap.size w w') : TxH q w' A c m := ⟨SlT.below h.1 hb, h.2.call hb⟩
theorem TxH.of {q : Fp} {w0 w : World} {d : Dk Sv} (hD : Dsk w0 q d) {A : Option Addr} {c : Nat} {m : List Bs} (h : OwnT w w0.heap.size A c m) : TxH q w A c m := ⟨Own.sl h, Hld.of hD (Own.lt h)⟩
/-- files that stay -/
def FlH (q : Fp) (w : World) (A : Option Addr) (c : Nat) (r : List (Bs × Sv)) : Prop := Sl w 2 A r.length c (r.flatMap flv) ∧ Hld q w A ∧ ∀ p ∈ r, SlB w p.2.A p.2.c p.2.l ∧ Hld q w p.2.A
theorem FlH.act {q q' : Fp} {w w' : World} {A : Option Addr} {c : Nat} {r : List (Bs × Sv)} (h : FlH q w A c r) (hF : Frd q w w') (hM : ∀ i, q'.M i → q.M i ∨ w.heap.size ≤ i) : FlH q' w' A c r :=
  ⟨Sl.sameH h.1 (h.2.1.same hF), h.2.1.act hF hM, fun p hp => ⟨Sl.sameH (h.2.2 p hp).1 ((h.2.2 p hp).2.same hF), (h.2.2 p hp).2.act hF hM⟩⟩
theorem FlH.call {q : Fp} {w w' : World} {A : Option Addr} {c : Nat} {r : List (Bs × Sv)} (h : FlH q w A c r) (hb : Below w.heap.size w w') : FlH q w' A c r := ⟨Sl.below h.1 hb, h.2.1.call hb, fun p hp => ⟨Sl.below (h.2.2 p hp).1 hb, (h.2.2 p hp).2.call hb⟩⟩
theorem FlH.of {q : Fp} {w0 w : World} {d : Dk Sv} (hD : Dsk w0 q d) {A : Option Addr} {c : Nat} {r : List (Bs × Sv)} (h : Tf w w0.heap.size A c r) : FlH q w A c r := ⟨Own.sl h.row, Hld.of hD (Own.lt h.row), fun p hp => ⟨h.rd p hp, Hld.of hD (h.lo p hp)⟩⟩
/-- the file k of a slice of files -/
theorem FlH.at1 {q : Fp} {w : World} {A : Option Addr} {c : Nat} {r : List (Bs × Sv)} (h : FlH q w A c r) {k : Nat} (hk : k < r.length) : ∃ ad b o, A = some ad ∧ ad.add (k * 2) = ⟨b, o, none⟩ ∧ w.cell? ⟨b, o, none⟩ = some (.string ⟨r[k].1.toArray⟩) ∧ w.cell? ⟨b, o + 1, none⟩ = some (.slice r[k].2.A r[k].2.l.length r[k].2.c) ∧ SlB w r[k].2.A r[k].2.c r[k].2.l := by
  obtain ⟨ad, b, o, hA, had, hcc⟩ := Sl.atS (f := flv) (size := 2) (fun _ => rfl) (by omega) h.1 hk
  have h0 := hcc 0 _ rfl
  have h1 := hcc 1 _ rfl
  rw [Nat.add_zero] at h0
  exact ⟨ad, b, o, hA, had, h0, h1, (h.2.2 _ (List.getElem_mem hk)).1⟩
end Go.Proofs.YtddmfoldnlafaaaGreatDoor

namespace Go.Proofs.YtddmfoldnlafaaaGreatDoor
open Go.RowKit Go.Maps Go.Sort
attribute [local go_sem ↓] Go.wp_at_zero Go.wp_at_succ

theorem SlB.lit1 (w : World) (b : UInt8) (e : TypeId) (z : Nat × Nat) : SlB (w.alloc (.cells #[bv b] e z)) (some ⟨w.heap.size, 0, none⟩) 1 [b] :=
  ⟨by simp, by simp, by simp [maxLen], (fun h => by cases h), fun j u hj => ⟨_, rfl, by
    rw [addr_lit, cell_of_row _ _ _ _ e z (heap_alloc_new w _)]
    simpa using hj⟩⟩
theorem SlZ.lit1 (w : World) (b : Bool) (e : TypeId) : Sl (w.alloc (.cells #[.bool b] e)) 1 (some ⟨w.heap.size, 0, none⟩) 1 1 ([b].map Value.bool) :=
  ⟨by simp, by simp, by simp [maxLen], (fun h => by cases h), fun j u hj => ⟨_, rfl, by
    rw [addr_lit, cell_of_row _ _ _ _ e (0, 0) (heap_alloc_new w _)]
    simpa using hj⟩⟩
/-- all that a disk may write lies behind the block B; below it the world is as it was -/
def Fro (w0 w : World) (q : Fp) : Prop := Below w0.heap.size w0 w ∧ ∀ i, q.M i → w0.heap.size ≤ i
theorem Fro.frd {w0 w w' : World} {q q' : Fp} (h : Fro w0 w q) (hF : Frd q w w') (hM : ∀ i, q'.M i → q.M i ∨ w.heap.size ≤ i) : Fro w0 w' q' := by
  have hs := h.1.size
  refine ⟨⟨hF.os.trans h.1.os, hF.tape.trans h.1.tape, hF.output.trans h.1.output, by have := hF.size; omega, fun i hi => ?_⟩, fun i hi => ?_⟩
  · rw [hF.block i (by omega) (fun hq => by have := h.2 i hq; omega)]
    exact h.1.block i hi
  · rcases hM i hi with hi | hi
    · exact h.2 i hi
    · omega
theorem Fro.call {w0 w w' : World} {q : Fp} (h : Fro w0 w q) (hb : Below w.heap.size w w') : Fro w0 w' q := ⟨h.1.trans (hb.mono h.1.size), h.2⟩
end Go.Proofs.YtddmfoldnlafaaaGreatDoor

namespace Go.Proofs.YtddmfoldnlafaaaGreatDoor
open Go.RowKit Go.Maps Go.Sort
attribute [local go_sem ↓] Go.wp_at_zero Go.wp_at_succ

theorem isSign_int (c : UInt8) : isSign c = (decide (97 ≤ (c.toNat : Int) ∧ (c.toNat : Int) ≤ 122) || decide (48 ≤ (c.toNat : Int) ∧ (c.toNat : Int) ≤ 57) || decide ((c.toNat : Int) = 45) || decide ((c.toNat : Int) = 46) || decide ((c.toNat : Int) = 126)) := by
  have hall : ((List.range 256).all fun n => isSign (UInt8.ofNat n) == (decide (97 ≤ (n : Int) ∧ (n : Int) ≤ 122) || decide (48 ≤ (n : Int) ∧ (n : Int) ≤ 57) || decide ((n : Int) = 45) || decide ((n : Int) = 46) || decide ((n : Int) = 126))) = true := by decide +kernel
  have h := List.all_eq_true.1 hall c.toNat (List.mem_range.2 (UInt8.toNat_lt c))
  rw [UInt8.ofNat_toNat] at h
  simpa using h
theorem ix_str (s : Bs) {k : Nat} (hk : k < s.length) (w : World) : (Instr.index 9 (.string ⟨s.toArray⟩) (.int .i64 k)).run Tryz.prog w = .ok (.int .u8 (s[k].toNat : Int)) w := by
  have h1 : (ByteArray.size ⟨s.toArray⟩) = s.length := by simp [ByteArray.size]
  rw [run_index_string _ _ _ _ _ Tryz.underlying9, dif_pos ⟨by omega, by rw [h1]; omega⟩]
  rfl
set_option maxRecDepth 100000 in
set_option maxHeartbeats 1000000 in
theorem RNamed_any (s : Bs) (w : World) (hl : s.length ≤ 4611686018427387904) : Calls Tryz.prog 132 #[.string ⟨s.toArray⟩] w fun e w' => e = .returned (.bool (named s)) ∧ Below w.heap.size w w' := by
  have hsz : (ByteArray.size ⟨s.toArray⟩) = s.length := by simp [ByteArray.size]
  go_enter Tryz.func132, Tryz.ntmps132
  go_wp2_with fail
  go_loopw [3] (fun x wr => ∃ k : Nat, k ≤ s.length ∧ x = .int .i64 k ∧ (∀ i (hi : i < s.length), i < k → isSign s[i] = true) ∧ Below w.heap.size w wr) (fun x w => s.length - (intOf x).toNat)
  case atStart => exact ⟨0, Nat.zero_le _, rfl, (fun i _ hi => by omega), Below.refl _ _⟩
  case round =>
    obtain ⟨k, hk, rfl, hno, hb⟩ := hrel
    by_cases hlt : k < s.length
    · have hkI : (k : Int) < (s.length : Int) := by omega
      have hix : ∀ W : World, (Instr.index 9 (.string ⟨s.toArray⟩) (.int .i64 k)).run Tryz.prog W = .ok (.int .u8 (s[k].toNat : Int)) W := fun W => ix_str s hlt W
      obtain ⟨c0, hc0⟩ : ∃ c, s[k] = c := ⟨_, rfl⟩
      rw [hc0] at hix
      have he := Lib.hid hc0
      have hs0 := isSign_int c0
      have hr := UInt8.toNat_lt c0
      generalize hx : (c0.toNat : Int) = x at *
      by_cases h1 : 97 ≤ x ∧ x ≤ 122
      · obtain ⟨h1, h2⟩ := h1
        have HS := Lib.hid (show isSign c0 = true from by rw [hs0]; simp <;> omega)
        clear hs0 hc0
        go_wp2_with fail
        go_roundw
        case rel => exact ⟨k + 1, hlt, by go_num, (fun i hi hik => by
          rcases Nat.lt_or_ge i k with h | h
          · exact hno i hi h
          · obtain rfl : i = k := by omega
            rw [he.out]
            exact HS.out), hb⟩
        case measure => simp [intOf]; omega
      by_cases h2 : 48 ≤ x ∧ x ≤ 57
      · obtain ⟨h2, h3⟩ := h2
        have h4 : x < 97 := by omega
        have HS := Lib.hid (show isSign c0 = true from by rw [hs0]; simp <;> omega)
        clear hs0 hc0
        go_wp2_with fail
        go_roundw
        case rel => exact ⟨k + 1, hlt, by go_num, (fun i hi hik => by
          rcases Nat.lt_or_ge i k with h | h
          · exact hno i hi h
          · obtain rfl : i = k := by omega
            rw [he.out]
            exact HS.out), hb⟩
        case measure => simp [intOf]; omega
      by_cases h3 : x = 45
      · subst h3
        have HS := Lib.hid (show isSign c0 = true from by rw [hs0]; simp <;> omega)
        clear hs0 hc0
        go_wp2_with fail
        go_roundw
        case rel => exact ⟨k + 1, hlt, by go_num, (fun i hi hik => by
          rcases Nat.lt_or_ge i k with h | h
          · exact hno i hi h
          · obtain rfl : i = k := by omega
            rw [he.out]
            exact HS.out), hb⟩
        case measure => simp [intOf]; omega
      by_cases h4 : x = 46
      · subst h4
        have HS := Lib.hid (show isSign c0 = true from by rw [hs0]; simp <;> omega)
        clear hs0 hc0
        go_wp2_with fail
        go_roundw
        case rel => exact ⟨k + 1, hlt, by go_num, (fun i hi hik => by
          rcases Nat.lt_or_ge i k with h | h
          · exact hno i hi h
          · obtain rfl : i = k := by omega
            rw [he.out]
            exact HS.out), hb⟩
        case measure => simp [intOf]; omega
      by_cases h5 : x = 126
      · subst h5
        have HS := Lib.hid (show isSign c0 = true from by rw [hs0]; simp <;> omega)
        clear hs0 hc0
        go_wp2_with fail
        go_roundw
        case rel => exact ⟨k + 1, hlt, by go_num, (fun i hi hik => by
          rcases Nat.lt_or_ge i k with h | h
          · exact hno i hi h
          · obtain rfl : i = k := by omega
            rw [he.out]
            exact HS.out), hb⟩
        case measure => simp [intOf]; omega
      have b3 : (x == 45) = false := by simpa using h3
      have b4 : (x == 46) = false := by simpa using h4
      have b5 : (x == 126) = false := by simpa using h5
      by_cases h6 : 97 ≤ x
      · have h7 : 122 < x := by omega
        have h8 : 48 ≤ x := by omega
        have h9 : 57 < x := by omega
        have d7 : decide (x ≤ 122) = false := by simp; omega
        have d9 : decide (x ≤ 57) = false := by simp; omega
        have HS := Lib.hid (show named s = false from by
          unfold named
          have h1 : isSign c0 = false := by rw [hs0]; simp; omega
          have : s.all isSign = false := List.all_eq_false.2 ⟨s[k], List.getElem_mem hlt, by rw [he.out, h1]; simp⟩
          rw [this]
          simp)
        clear hs0 hc0 hno
        go_wp2_with fail
        go_ret
        exact ⟨by rw [HS.out]; rfl, hb⟩
      · replace h6 : x < 97 := by omega
        by_cases h7 : 48 ≤ x
        · have h9 : 57 < x := by omega
          have d6 : decide (97 ≤ x) = false := by simp; omega
          have d9 : decide (x ≤ 57) = false := by simp; omega
          have HS := Lib.hid (show named s = false from by
            unfold named
            have h1 : isSign c0 = false := by rw [hs0]; simp; omega
            have : s.all isSign = false := List.all_eq_false.2 ⟨s[k], List.getElem_mem hlt, by rw [he.out, h1]; simp⟩
            rw [this]
            simp)
          clear hs0 hc0 hno
          go_wp2_with fail
          go_ret
          exact ⟨by rw [HS.out]; rfl, hb⟩
        · replace h7 : x < 48 := by omega
          have d6 : decide (97 ≤ x) = false := by simp; omega
          have d7 : decide (48 ≤ x) = false := by simp; omega
          have HS := Lib.hid (show named s = false from by
            unfold named
            have h1 : isSign c0 = false := by rw [hs0]; simp; omega
            have : s.all isSign = false := List.all_eq_false.2 ⟨s[k], List.getElem_mem hlt, by rw [he.out, h1]; simp⟩
            rw [this]
            simp)
          clear hs0 hc0 hno
          go_wp2_with fail
          go_ret
          exact ⟨by rw [HS.out]; rfl, hb⟩
    · have hke : k = s.length := by omega
      have hkI : (s.length : Int) ≤ (k : Int) := by omega
      have ha : s.all isSign = true := List.all_eq_true.2 fun x hx => by
        obtain ⟨i, hi, rfl⟩ := List.getElem_of_mem hx
        exact hno i hi (by omega)
      clear hno
      rcases Nat.lt_or_ge s.length 1 with h1 | h1
      · have hI : (s.length : Int) < 1 := by omega
        have HN := Lib.hid (show named s = false from by unfold named; simp; omega)
        go_wp2_with fail
        go_ret
        exact ⟨by rw [HN.out]; rfl, hb⟩
      have hI : (1 : Int) ≤ (s.length : Int) := by omega
      have HN := Lib.hid (show named s = decide ((s.length : Int) ≤ 24) from by unfold named; rw [ha, decide_eq_true (show 1 ≤ s.length from h1), Bool.true_and, Bool.and_true]; exact decide_eq_decide.2 (by omega))
      go_wp2_with fail
      go_ret
      exact ⟨by rw [HN.out]; rfl, hb⟩
/-! ### a nil disk -/
set_option maxRecDepth 100000 in
theorem NLooks_any (w : World) : Calls Tryz.prog 103 #[.pointer none] w fun e w' => e = .returned (.iface 79 (.int .i64 4)) ∧ Below w.heap.size w w' := by
  go_enter Tryz.func103, Tryz.ntmps103
  go_wp2_with fail
  go_ret
  exact ⟨rfl, Below.refl _ _⟩
set_option maxRecDepth 100000 in
theorem NWorks_any (w : World) : Calls Tryz.prog 107 #[.pointer none] w fun e w' => e = .returned (.iface 79 (.int .i64 4)) ∧ Below w.heap.size w w' := by
  go_enter Tryz.func107, Tryz.ntmps107
  go_wp2_with fail
  refine (NLooks_any _).mono ?_
  rintro e w1 ⟨rfl, hb⟩
  go_wp2_with fail
  go_ret
  exact ⟨rfl, hb⟩
set_option maxRecDepth 100000 in
theorem NCut_any (w : World) (v : Value) : Calls Tryz.prog 15 #[.pointer none, v] w fun e w' => e = .returned (.tuple #[]) ∧ Below w.heap.size w w' := by
  go_enter Tryz.func15, Tryz.ntmps15
  go_wp2_with fail
  refine bodyPost_ret (results_none rfl _ _ _) rfl ?_
  exact ⟨rfl, Below.refl _ _⟩
set_option maxRecDepth 100000 in
theorem NStart_any (w : World) : Calls Tryz.prog 16 #[.pointer none] w fun e w' => e = .returned (.tuple #[]) ∧ Below w.heap.size w w' := by
  go_enter Tryz.func16, Tryz.ntmps16
  go_wp2_with fail
  refine bodyPost_ret (results_none rfl _ _ _) rfl ?_
  exact ⟨rfl, Below.refl _ _⟩
set_option maxRecDepth 100000 in
theorem NRead_any (n : Value) (w : World) : Calls Tryz.prog 83 #[.pointer none, n] w fun e w' => e = .returned (.tuple #[.slice none 0 0, .iface 79 (.int .i64 4)]) ∧ Below w.heap.size w w' := by
  go_enter Tryz.func83, Tryz.ntmps83
  go_wp2_with fail
  refine (NLooks_any _).mono ?_
  rintro e w1 ⟨rfl, hb⟩
  go_wp2_with fail
  go_ret2
  exact ⟨rfl, hb⟩
set_option maxRecDepth 100000 in
theorem NList_any (w : World) : Calls Tryz.prog 46 #[.pointer none] w fun e w' => e = .returned (.tuple #[.slice none 0 0, .iface 79 (.int .i64 4)]) ∧ Below w.heap.size w w' := by
  go_enter Tryz.func46, Tryz.ntmps46
  go_wp2_with fail
  refine (NLooks_any _).mono ?_
  rintro e w1 ⟨rfl, hb⟩
  go_wp2_with fail
  go_ret2
  exact ⟨rfl, hb⟩
set_option maxRecDepth 100000 in
theorem NWrite_any (n b : Value) (w : World) : Calls Tryz.prog 79 #[.pointer none, n, b] w fun e w' => e = .returned (.iface 79 (.int .i64 4)) ∧ Below w.heap.size w w' := by
  go_enter Tryz.func79, Tryz.ntmps79
  go_wp2_with fail
  refine (NWorks_any _).mono ?_
  rintro e w1 ⟨rfl, hb⟩
  go_wp2_with fail
  go_ret
  exact ⟨rfl, hb⟩
set_option maxRecDepth 100000 in
theorem NRename_any (n b : Value) (w : World) : Calls Tryz.prog 81 #[.pointer none, n, b] w fun e w' => e = .returned (.iface 79 (.int .i64 4)) ∧ Below w.heap.size w w' := by
  go_enter Tryz.func81, Tryz.ntmps81
  go_wp2_with fail
  refine (NWorks_any _).mono ?_
  rintro e w1 ⟨rfl, hb⟩
  go_wp2_with fail
  go_ret
  exact ⟨rfl, hb⟩
set_option maxRecDepth 100000 in
theorem NRemove_any (n : Value) (w : World) : Calls Tryz.prog 48 #[.pointer none, n] w fun e w' => e = .returned (.iface 79 (.int .i64 4)) ∧ Below w.heap.size w w' := by
  go_enter Tryz.func48, Tryz.ntmps48
  go_wp2_with fail
  refine (NWorks_any _).mono ?_
  rintro e w1 ⟨rfl, hb⟩
  go_wp2_with fail
  go_ret
  exact ⟨rfl, hb⟩
set_option maxRecDepth 100000 in
theorem NSync_any (w : World) : Calls Tryz.prog 49 #[.pointer none] w fun e w' => e = .returned (.iface 79 (.int .i64 4)) ∧ Below w.heap.size w w' := by
  go_enter Tryz.func49, Tryz.ntmps49
  go_wp2_with fail
  refine (NWorks_any _).mono ?_
  rintro e w1 ⟨rfl, hb⟩
  go_wp2_with fail
  go_ret
  exact ⟨rfl, hb⟩
set_option maxRecDepth 100000 in
theorem NFuse_any (n : Value) (w : World) : Calls Tryz.prog 10 #[.pointer none, n] w fun e w' => e = .returned (.iface 79 (.int .i64 4)) ∧ Below w.heap.size w w' := by
  go_enter Tryz.func10, Tryz.ntmps10
  go_wp2_with fail
  go_ret
  exact ⟨rfl, Below.refl _ _⟩
set_option maxRecDepth 100000 in
theorem NPending_any (w : World) : Calls Tryz.prog 94 #[.pointer none] w fun e w' => e = .returned (.int .i64 0) ∧ Below w.heap.size w w' := by
  go_enter Tryz.func94, Tryz.ntmps94
  go_wp2_with fail
  go_ret
  exact ⟨rfl, Below.refl _ _⟩
set_option maxRecDepth 100000 in
theorem NUsed_any (w : World) : Calls Tryz.prog 95 #[.pointer none] w fun e w' => e = .returned (.int .i64 0) ∧ Below w.heap.size w w' := by
  go_enter Tryz.func95, Tryz.ntmps95
  go_wp2_with fail
  go_ret
  exact ⟨rfl, Below.refl _ _⟩
set_option maxRecDepth 100000 in
theorem NSure_any (w : World) : Calls Tryz.prog 91 #[.pointer none] w fun e w' => e = .returned (.slice none 0 0) ∧ Below w.heap.size w w' := by
  go_enter Tryz.func91, Tryz.ntmps91
  go_wp2_with fail
  go_ret
  exact ⟨rfl, Below.refl _ _⟩
set_option maxRecDepth 100000 in
theorem NDown_any (w : World) : Calls Tryz.prog 93 #[.pointer none] w fun e w' => e = .returned (.bool true) ∧ Below w.heap.size w w' := by
  go_enter Tryz.func93, Tryz.ntmps93
  go_wp2_with fail
  go_ret
  exact ⟨rfl, Below.refl _ _⟩
end Go.Proofs.YtddmfoldnlafaaaGreatDoor
