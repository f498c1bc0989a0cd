/- WHAT IT HOLDS: a store's objects read; a store opened: walked. | WHAT IT HOLDS: the law's store is alive, walked. | WHAT IT HOLDS: maps from texts to values of any kind in memory: looked up, written, gone through. | WHAT IT HOLDS: arguments that are acts of a disk, opened to the words of Kit. | WHAT IT HOLDS: which scripts of a disk's acts are long, walked. | WHAT IT HOLDS: the law DiskFuses, walked. -/
import Derived.Test.YtddmfoldnlafaaaGreatDoorRegisterAloneG19
import Derived.Test.YtddmfoldnlafaaaGreatDoorRegisterAloneG18
import Derived.Test.YtddmfoldnlafaaaGreatDoorRegisterAloneG07
import Derived.Test.YtddmfoldnlafaaaGreatDoorRegisterAloneG12
import Derived.Test.YtddmfoldnlafaaaGreatDoorRegisterAloneG11
import Derived.Test.YtddmfoldnlafaaaGreatDoorRegisterAloneG17
namespace Go.Proofs.YtddmfoldnlafaaaGreatDoor
open Go.RowKit Go.Maps Go.Sort
attribute [local go_sem ↓] Go.wp_at_zero Go.wp_at_succ

set_option maxRecDepth 100000 in
set_option maxHeartbeats 1000000 in
theorem SGet_any {w : World} {gs : Nat} {q : Fp} {d : Dk Sv} (h : StM w gs q d) (n : Bs) (hn : n.length ≤ 100000000) :
    Calls Tryz.prog 64 #[.pointer (some ⟨gs, 0, none⟩), .string ⟨n.toArray⟩] w fun e w' => ∃ A c m, e = .returned (.tuple #[.slice A (List.length m) c, errv (sGet d n).2]) ∧ Hid (m = (((sGet d n).1.map Sv.l).getD [])) ∧ OwnB w' w.heap.size 5 A c m ∧ Below w.heap.size w w' := by
  have HA := Lib.hid (Asks_any gs n w (by omega))
  have HS := Lib.hid h
  clear h
  cases hs : snamed n with
  | false =>
    rw [hs, if_neg (by simp), show errv 2 = Value.iface 79 (.int .i64 2) from rfl] at HA
    have HX := Lib.hid (show sGet d n = (none, 2) from by unfold sGet; rw [if_pos hs])
    go_enter Tryz.func64, Tryz.ntmps64
    go_wp2_with fail
    refine HA.out.mono ?_
    rintro e w1 ⟨rfl, hb1⟩
    go_wp2_with fail
    go_ret2
    exact ⟨none, 0, [], by rw [HX.out]; rfl, (show _ = _ from by rw [HX.out]; rfl), Own.none_ _ _ _ _, hb1⟩
  | true =>
    rw [hs, if_pos rfl, show errv 0 = Value.nilIface from rfl] at HA
    have HX := Lib.hid (show sGet d n = dRead d n from by unfold sGet; rw [if_neg (by simp [hs])])
    go_enter Tryz.func64, Tryz.ntmps64
    go_wp2_with fail
    refine HA.out.mono ?_
    rintro e w1 ⟨rfl, hb1⟩
    have hS1 := HS.out.below hb1
    have hb := hS1.cl
    have HR := Lib.hid (Read_any hS1.dsk n hn)
    have HB1 := Lib.hid hb1
    clear HA HS hS1 hb1
    go_wp2_with fail
    refine HR.out.mono ?_
    rintro e w2 ⟨A2, c2, m2, rfl, hm2, ho2, hb2⟩
    have HM := Lib.hid hm2.out
    clear hm2 HR
    go_wp2_with fail
    go_ret2
    exact ⟨A2, c2, m2, by rw [HX.out]; rfl, (show _ = _ from by rw [HX.out]; exact HM.out), ho2.more HB1.out.size, bel_call HB1.out hb2⟩
/-- what opening gives -/
def OpG (w : World) (q : Fp) (d : Dk Sv) (e : Ending) (w' : World) : Prop :=
  ∃ q', q'.g = q.g ∧ Dsk w' q' (sOpen Sv.nil d).1 ∧ Frd q w w' ∧ (∀ i, q'.M i → q.M i ∨ w.heap.size ≤ i) ∧ (∀ i, Tc q' (sOpen Sv.nil d).1 i → Tc q d i ∨ w.heap.size ≤ i) ∧
    ((sOpen Sv.nil d).2 = 0 ∧ (∃ gs, e = .returned (.tuple #[.pointer (some ⟨gs, 0, none⟩), .nilIface]) ∧ StM w' gs q' (sOpen Sv.nil d).1 ∧ w.heap.size ≤ gs) ∨ (sOpen Sv.nil d).2 ≠ 0 ∧ e = .returned (.tuple #[.pointer none, errv (sOpen Sv.nil d).2]))
theorem OpG.bad {w w' : World} {q : Fp} {d d1 : Dk Sv} {n1 : Nat} (hX : sOpen Sv.nil d = (d1, n1)) (h0 : n1 ≠ 0) (hG : Dgo w q d d1 w') : OpG w q d (.returned (.tuple #[.pointer none, errv n1])) w' := by
  obtain ⟨q', hg, hD, hF, hM, hT⟩ := hG
  refine ⟨q', hg, ?_⟩
  rw [hX]
  exact ⟨hD, hF, hM, hT, .inr ⟨h0, rfl⟩⟩
theorem OpG.good {w w' : World} {q : Fp} {d d1 : Dk Sv} {g0 : Nat} (hX : sOpen Sv.nil d = (d1, 0)) (hg0 : q.g = g0) (hG : Dgo w q d d1 w') : OpG w q d (.returned (.tuple #[.pointer (some ⟨w'.heap.size, 0, none⟩), .nilIface])) (w'.alloc (.cells #[.pointer (some ⟨g0, 0, none⟩)] 122)) := by
  obtain ⟨q', hg, hD, hF, hM, hT⟩ := hG
  have hb := below_new w' (.cells #[.pointer (some ⟨g0, 0, none⟩)] 122)
  refine ⟨q', hg, ?_⟩
  rw [hX]
  refine ⟨hD.below hb, hF.trans (Frd.of_below (q := q') hb) hM, hM, hT, .inl ⟨rfl, w'.heap.size, rfl, ⟨hD.below hb, ?_, fun hq => ?_⟩, hF.size⟩⟩
  · unfold sta
    rw [hg, hg0]
    exact Blk.new _ _ _
  · have := hD.ltM hq
    omega
set_option maxRecDepth 100000 in
set_option maxHeartbeats 1000000 in
theorem SOpen_any {w : World} {q : Fp} {d : Dk Sv} (h : Dsk w q d) (hf : Fok d) (hl : d.sure.length + d.pend.length ≤ 400) :
    Calls Tryz.prog 9 #[.pointer (some ⟨q.g, 0, none⟩)] w fun e w' => OpG w q d e w' := by
  obtain ⟨p1, p2, p3, -⟩ := h.fits hl (by omega)
  have HL := Lib.hid (DList_any h p2)
  have hsh : d.shown.length ≤ 400 := by have := flen_dos d.sure d.pend; unfold Dk.shown; omega
  have HD := Lib.hid h
  have HF := Lib.hid hf
  obtain ⟨g0, hgq⟩ : ∃ g0, q.g = g0 := ⟨_, rfl⟩
  have HGq := Lib.hid hgq
  rw [hgq] at HL ⊢
  clear h hf hgq
  cases hd : d.down with
  | true =>
    rw [hd, if_pos rfl, if_pos rfl, show errv 14 = Value.iface 79 (.int .i64 14) from rfl] at HL
    have HX := Lib.hid (show sOpen Sv.nil d = (d, 14) from by unfold sOpen; rw [if_pos hd])
    go_enter Tryz.func9, Tryz.ntmps9
    go_wp2_with fail
    refine HL.out.mono ?_
    rintro e w1 ⟨A, c, m, rfl, hm, ho, hb⟩
    have HG := Lib.hid (OpG.bad HX.out (by decide) (Dgo.still HD.out hb))
    clear HL hm ho hb
    go_wp2_with fail
    go_ret2
    exact HG.out
  | false =>
    rw [hd, if_neg (by simp), if_neg (by simp), show errv 0 = Value.nilIface from rfl] at HL
    have HX := Lib.hid (show sOpen Sv.nil d = if (sSweep Sv.nil (names d.shown) d false).2.1 ≠ 0 then ((sSweep Sv.nil (names d.shown) d false).1, (sSweep Sv.nil (names d.shown) d false).2.1) else if (sSweep Sv.nil (names d.shown) d false).2.2 = true then dSync (sSweep Sv.nil (names d.shown) d false).1 else ((sSweep Sv.nil (names d.shown) d false).1, 0) from by unfold sOpen; rw [if_neg (by simp [hd])])
    go_enter Tryz.func9, Tryz.ntmps9
    go_wp2_with fail
    refine HL.out.mono ?_
    rintro e w1 ⟨A, c, m, rfl, hm, ho, hb⟩
    have hml : m.length ≤ 400 := by rw [hm.out]; unfold names; rw [List.length_map]; exact hsh
    have HT := Lib.hid (TxH.of HD.out ho)
    have HN := Lib.hid (show ∀ x ∈ m, x.length ≤ 24 from by
      rw [hm.out]
      intro x hx
      obtain ⟨p, hp, rfl⟩ := List.mem_map.1 hx
      exact (HD.out.shown_mem p hp).1)
    rw [← hm.out] at HX
    have HG := Lib.hid (Dgo.still HD.out hb)
    clear HL hm ho
    go_wp2_with fail
    go_loopw [24, 6] (fun x y wr => ∃ (i : Nat) (d1 : Dk Sv) (sw : Bool) (q1 : Fp), i ≤ m.length ∧ x = .int .i64 i ∧ y = .bool sw ∧ q1.g = g0 ∧ Dsk wr q1 d1 ∧ Fok d1 ∧ d1.sure.length + d1.pend.length ≤ 400 + i ∧ TxH q1 wr A c m ∧ Hid (sSweep Sv.nil m d false = sSweep Sv.nil (m.drop i) d1 sw) ∧ Hid (∀ d3 w3, Dgo wr q1 d1 d3 w3 → Dgo w q d d3 w3)) (fun x _ w => m.length - (intOf x).toNat)
    case atStart => exact ⟨0, d, false, q, Nat.zero_le _, rfl, rfl, HGq.out, HD.out.below hb, HF.out, hl, HT.out, Lib.hid rfl, Lib.hid (fun d3 w3 hg => Dgo.below hb hg)⟩
    case round =>
      clear HT HG
      obtain ⟨i, d1, sw, q1, hi, rfl, rfl, hg1, hD1, hf1, hl1, hT1, hsw, hDt⟩ := hrel
      by_cases hlt : i < m.length
      · have hI : (i : Int) < (m.length : Int) := by omega
        obtain ⟨ad, b, o, hA, had, hc⟩ := SlT.at1 hT1.1 hlt
        have hxn := HN.out _ (List.getElem_mem hlt)
        have hdr : m.drop i = m[i] :: m.drop (i + 1) := List.drop_eq_getElem_cons hlt
        have HP := Lib.hid (fun W => Tryz.strings_HasPrefix ⟨m[i].toArray⟩ ⟨#[126]⟩ W)
        obtain ⟨p1, p2, p3, -⟩ := hD1.fits (k := 800) (by omega) (by omega)
        have HR := Lib.hid (Remove_any hD1 hf1 p1 p2 m[i] (by omega))
        rw [hg1] at HR
        have HS := Lib.hid (hsw.out.trans (by rw [hdr]; rfl : sSweep Sv.nil (m.drop i) d1 sw = if isBegun m[i] = true then (if (dRemove Sv.nil d1 m[i]).2 ≠ 0 then ((dRemove Sv.nil d1 m[i]).1, (dRemove Sv.nil d1 m[i]).2, sw) else sSweep Sv.nil (m.drop (i + 1)) (dRemove Sv.nil d1 m[i]).1 true) else sSweep Sv.nil (m.drop (i + 1)) d1 sw))
        have hib : Lib.hasPrefix m[i] [126] = isBegun m[i] := rfl
        clear hsw hdr
        generalize m[i] = x at *
        have hpx : ∀ W : World, Calls Tryz.prog 47 #[.string ⟨x.toArray⟩, .string ⟨#[126]⟩] W fun e w' => e = .returned (.bool (isBegun x)) ∧ w' = W := fun W => HP.out W
        have HP2 := Lib.hid hpx
        subst hA
        clear HP hpx hib
        have HD1 := Lib.hid hD1
        have HT1 := Lib.hid hT1
        have HF1 := Lib.hid hf1
        have Hg1 := Lib.hid hg1
        clear hD1 hT1 hf1 hg1
        go_wp2_with fail
        refine (HP2.out _).mono ?_
        rintro e w5 ⟨rfl, rfl⟩
        cases hbg : isBegun x with
        | false =>
          rw [hbg, if_neg (by simp)] at HS
          go_wp2_with fail
          go_roundw
          case rel => exact ⟨i + 1, d1, sw, q1, hlt, by go_num, rfl, Hg1.out, HD1.out, HF1.out, by omega, HT1.out, HS, hDt⟩
          case measure => simp [intOf]; omega
        | true =>
          rw [hbg, if_pos rfl] at HS
          have hop := Opd.remove Sv.nil d1 x
          generalize dRemove Sv.nil d1 x = r at *
          obtain ⟨d2, n2⟩ := r
          have hf2 := HF1.out.opd hop
          have hl2 := opd_len hop hl1
          dsimp only at hf2 hl2 HS
          go_wp2_with fail
          refine HR.out.mono ?_
          rintro e w6 ⟨rfl, q2, hg2, hD2, hF2, hM2, hT2⟩
          dsimp only at hD2 hT2 ⊢
          rcases Decidable.em (n2 = 0) with h0 | h0
          · subst h0
            rw [if_neg (by simp)] at HS
            have HT2 := Lib.hid (HT1.out.act hF2 hM2)
            have HDt := Lib.hid (fun (d3 : Dk Sv) (w3 : World) (hG : Dgo w6 q2 d2 d3 w3) => hDt.out _ _ (Dgo.trans hg2 hF2 hM2 hT2 hG))
            have HF2 := Lib.hid hf2
            have Hg2 := Lib.hid (hg2.trans Hg1.out)
            have HD2 := Lib.hid hD2
            rw [show errv 0 = Value.nilIface from rfl]
            clear HR hD2 hF2 hM2 hT2 hg2 hf2 HT1 hDt HD1
            go_wp2_with fail
            go_roundw
            case rel => exact ⟨i + 1, d2, true, q2, hlt, by go_num, rfl, Hg2.out, HD2.out, HF2.out, by omega, HT2.out, HS, HDt⟩
            case measure => simp [intOf]; omega
          · obtain ⟨ev, hev⟩ := errv_ifc h0
            rw [if_pos h0] at HS
            have HXX := Lib.hid (show sOpen Sv.nil d = (d2, n2) from by rw [HX.out, HS.out]; dsimp only; rw [if_pos h0])
            have HGo := Lib.hid (OpG.bad HXX.out h0 (hDt.out d2 w6 ⟨q2, hg2, hD2, hF2, hM2, hT2⟩))
            rw [hev] at HGo ⊢
            clear HR hD2 hF2 hM2 hT2 hg2 hf2 HT1 hDt HD1 hev
            go_wp2_with fail
            go_ret2
            exact HGo.out
      · have hI : (m.length : Int) ≤ (i : Int) := by omega
        have hdr : m.drop i = [] := List.drop_of_length_le (by omega)
        have HS := Lib.hid (show sSweep Sv.nil m d false = (d1, 0, sw) from by rw [hsw.out, hdr]; rfl)
        clear hsw hdr
        cases sw with
        | false =>
          have HXX := Lib.hid (show sOpen Sv.nil d = (d1, 0) from by rw [HX.out, HS.out]; rfl)
          have HGo := Lib.hid (OpG.good HXX.out HGq.out (hDt.out d1 wr (Dgo.of hD1 (Frd.of_below (Below.refl _ _)) rfl rfl)))
          clear hD1 hT1 hDt
          go_wp2_with fail
          go_ret2
          exact HGo.out
        | true =>
          have HXX := Lib.hid (show sOpen Sv.nil d = dSync d1 from by rw [HX.out, HS.out]; rfl)
          have HY := Lib.hid (Sync_any hD1 hf1)
          rw [hg1] at HY
          generalize dSync d1 = r at *
          obtain ⟨d2, n2⟩ := r
          clear hT1 hD1 hg1
          go_wp2_with fail
          refine HY.out.mono ?_
          rintro e w6 ⟨rfl, hG⟩
          dsimp only at hG ⊢
          rcases Decidable.em (n2 = 0) with h0 | h0
          · subst h0
            have HGo := Lib.hid (OpG.good HXX.out HGq.out (hDt.out _ _ hG))
            rw [show errv 0 = Value.nilIface from rfl]
            clear hG hDt HY
            go_wp2_with fail
            go_ret2
            exact HGo.out
          · obtain ⟨ev, hev⟩ := errv_ifc h0
            have HGo := Lib.hid (OpG.bad HXX.out h0 (hDt.out _ _ hG))
            rw [hev] at HGo ⊢
            clear hG hDt HY hev
            go_wp2_with fail
            go_ret2
            exact HGo.out
end Go.Proofs.YtddmfoldnlafaaaGreatDoor

namespace Go.Proofs.YtddmfoldnlafaaaGreatDoor
open Go.RowKit Go.Maps Go.Sort
attribute [local go_sem ↓] Go.wp_at_zero Go.wp_at_succ

theorem Fok.dk0 (r : Int) : Fok (dk0 r) := ⟨by show -1 ≤ (-1 : Int); omega, by show (-1 : Int) ≤ 9223372036854775807; omega⟩
/-- opened without an error -/
theorem OpG.ok {w w' : World} {q : Fp} {d d1 : Dk Sv} {e : Ending} (h : OpG w q d e w') (hX : sOpen Sv.nil d = (d1, 0)) : ∃ q' gs, e = .returned (.tuple #[.pointer (some ⟨gs, 0, none⟩), .nilIface]) ∧ q'.g = q.g ∧ Frd q w w' ∧ (∀ i, q'.M i → q.M i ∨ w.heap.size ≤ i) ∧ StM w' gs q' d1 ∧ w.heap.size ≤ gs := by
  obtain ⟨q', hg, hD, hF, hM, hT, h0⟩ := h
  rw [hX] at h0 hD
  rcases h0 with ⟨-, gs, he, hS, hgs⟩ | ⟨h0, -⟩
  · exact ⟨q', gs, he, hg, hF, hM, hS, hgs⟩
  · exact absurd rfl h0
theorem aS (A : Option Addr) (c : Nat) : (sPut svl Sv.nil (dk0 100) [97] ⟨A, c, [120]⟩) = (⟨100, [([97], ⟨A, c, [120]⟩)], [], -1, false⟩, 0) := by kernel_rfl
end Go.Proofs.YtddmfoldnlafaaaGreatDoor

namespace Go.Proofs.YtddmfoldnlafaaaGreatDoor
open Go.RowKit Go.Maps Go.Sort
attribute [local go_sem ↓] Go.wp_at_zero Go.wp_at_succ

section
variable {β : Type}
def datF (f : β → Value) (l : List (Bs × β)) : DataW Value := .map (l.map fun p => (.string p.1, .held (f p.2)))
theorem datF_put (f : β → Value) (k : Bs) (s : β) (l : List (Bs × β)) : (datF f l).put (.string k) (.held (f s)) = datF f (gput k s l) := by
  unfold datF gput gdel
  rw [DataW.put_eq]
  unfold ChangeMaps.putKey
  congr 1
  rw [List.filter_map]
  have hf : (ChangeMaps.notKey (Lit.string k) ∘ fun p : Bs × β => ((Lit.string p.1, DataW.held (f p.2)) : Lit × DataW Value)) = fun p => !(p.1 == k) := rfl
  rw [hf]
  generalize List.filter (fun p : Bs × β => !(p.1 == k)) l = r
  induction r with
  | nil => rfl
  | cons y r ih =>
    show (if (Lit.string k).before (.string y.1) = true then _ else _) = List.map _ (if bytesBefore k y.1 = true then _ else _)
    rw [show (Lit.string k).before (.string y.1) = bytesBefore k y.1 from rfl]
    split
    · rfl
    · rw [List.map_cons, ← ih]
theorem datF_at (f : β → Value) (k : Bs) (l : List (Bs × β)) (z : Value) : (datF f l).atKey (.string k) (.held z) = .held (((gget k l).map f).getD z) := by
  unfold datF gget DataW.atKey
  dsimp only
  rw [List.find?_map]
  have hf : ((fun p : Lit × DataW Value => p.1.sameKey (Lit.string k)) ∘ fun p : Bs × β => ((Lit.string p.1, DataW.held (f p.2)) : Lit × DataW Value)) = fun p => p.1 == k := rfl
  rw [hf]
  cases l.find? (fun p => p.1 == k) <;> rfl
theorem datF_has (f : β → Value) (k : Bs) (l : List (Bs × β)) : Maps.has (datF f l) (.string k) = (gget k l).isSome := by
  unfold datF gget
  rw [Maps.has_eq]
  induction l with
  | nil => rfl
  | cons y r ih =>
    rw [List.map_cons, List.any_cons, List.find?_cons]
    show (y.1 == k || _) = _
    cases hy : y.1 == k
    · rw [Bool.false_or]; exact ih
    · rfl
theorem datF_at_mem {f : β → Value} {k : Bs} {l : List (Bs × β)} {y : DataW Value} (h : ∀ zd, (datF f l).atKey (.string k) zd = y) : ∃ s, (k, s) ∈ l ∧ y = .held (f s) := by
  cases hg : gget k l with
  | none =>
    have hz : ∀ zd, (datF f l).atKey (.string k) zd = zd := fun zd => by
      unfold datF DataW.atKey
      dsimp only
      rw [List.find?_map]
      have hf : ((fun p : Lit × DataW Value => p.1.sameKey (Lit.string k)) ∘ fun p : Bs × β => ((Lit.string p.1, DataW.held (f p.2)) : Lit × DataW Value)) = fun p => p.1 == k := rfl
      rw [hf]
      unfold gget at hg
      rw [Option.map_eq_none_iff] at hg
      rw [hg]
      rfl
    have h1 := h .nil
    have h2 := h (.agg [])
    rw [hz] at h1 h2
    rw [← h1] at h2
    cases h2
  | some s =>
    refine ⟨s, gget_mem hg, ?_⟩
    rw [← h (.held (.slice none 0 0)), datF_at, hg]
    rfl
/-- block b is a map that holds l, its elements as f lays them -/
def OmF (f : β → Value) (P : Program) (K : TypeId) (w : World) (b : Nat) (l : List (Bs × β)) : Prop := w.ownsMap P K tok b l.length (datF f l)
variable {f : β → Value} {P : Program} {K T E : TypeId} {w w' : World} {b n : Nat} {l : List (Bs × β)}
theorem OmF.of (h : w.ownsMap P K tok b n (datF f l)) : OmF f P K w b l := by
  obtain ⟨es, clock, hb, F, _, hD⟩ := h
  refine ⟨es, clock, hb, F, ?_, hD⟩
  have h1 : (datF f l) = .map (l.map fun p => (.string p.1, .held (f p.2))) := rfl
  rw [h1] at hD
  injection hD with hD
  have h2 := congrArg List.length hD
  rw [length_sorted] at h2
  simp at h2
  omega
theorem OmF.lt (h : OmF f P K w b l) : b < w.heap.size := World.ownsMap.lt h
theorem OmF.same (h : OmF f P K w b l) (e : w'.heap[b]? = w.heap[b]?) : OmF f P K w' b l := by
  obtain ⟨es, clock, hb, r⟩ := h
  exact ⟨es, clock, e.trans hb, r⟩
theorem OmF.below (h : OmF f P K w b l) (hb : Below w.heap.size w w') : OmF f P K w' b l := h.same (hb.block b h.lt)
theorem OmF.new (w : World) : OmF f P K (w.alloc (.map #[] 0)) w.heap.size [] := World.ownsMap_made w P K tok
theorem OmF.look (h : OmF f P K w b l) (hK : P.underlying K = some .string) (hT : P.underlying T = some (.map K E)) {z : Value} (hz : (zeroValue E).run P w = .ok z w) {k : Bs} (hk : k.length ≤ maxLen) :
    (Instr.lookup T (.map (some b)) (.string ⟨k.toArray⟩) true).run P w = .ok (.tuple #[((gget k l).map f).getD z, .bool (gget k l).isSome]) w := by
  obtain ⟨v, ps, hrun, hv⟩ := World.ownsMap.look_ok h (string_keyed hK) hT hz (zd := .held z) (zp := []) rfl (key := .string ⟨k.toArray⟩) (kl := .string k) (key_str hK hk)
  rw [datF_at, datF_has] at *
  unfold tok at hv
  injection hv with hv
  injection hv with hv
  injection hv with hv
  subst hv
  exact hrun
theorem OmF.look1 (h : OmF f P K w b l) (hK : P.underlying K = some .string) (hT : P.underlying T = some (.map K E)) {z : Value} (hz : (zeroValue E).run P w = .ok z w) {k : Bs} (hk : k.length ≤ maxLen) :
    (Instr.lookup T (.map (some b)) (.string ⟨k.toArray⟩) false).run P w = .ok (((gget k l).map f).getD z) w := by
  obtain ⟨v, ps, hrun, hv⟩ := World.ownsMap.lookup h (string_keyed hK) hT hz (zd := .held z) (zp := []) rfl (key := .string ⟨k.toArray⟩) (kl := .string k) (key_str hK hk)
  rw [datF_at] at hv
  unfold tok at hv
  injection hv with hv
  injection hv with hv
  injection hv with hv
  subst hv
  exact hrun
theorem OmF.store (h : OmF f P K w b l) (hK : P.underlying K = some .string) (hT : P.underlying T = some (.map K E)) (hn : l.length < maxLen) {k : Bs} (hk : k.length ≤ maxLen) (s : β) :
    ∃ w', (Instr.mapUpdate T (.map (some b)) (.string ⟨k.toArray⟩) (f s)).run P w = .ok () w' ∧ OmF f P K w' b (gput k s l) ∧ w.grownBy w' (some b) := by
  obtain ⟨w', hrun, h1, h2⟩ := World.ownsMap.store h (string_keyed hK) hT hn (key := .string ⟨k.toArray⟩) (val := f s) (kl := .string k) (d := .held (f s)) (ps := []) (key_str hK hk) rfl
  rw [datF_put] at h1
  exact ⟨w', hrun, OmF.of h1, h2.grown⟩
variable {ops : Array Oper} {rest : List Oper} {o : Oper} {a : Act} {Q : Exit → Act → World → Prop}
theorem wpl_putF (hg : o.guard = none) (m x v : Operand) (hop : o.op = Op.mapUpdate T m x v) (hK : P.underlying K = some .string) (hT : P.underlying T = some (.map K E)) (b : Nat) (l : List (Bs × β)) (hm : a.eval m = .map (some b)) (h : OmF f P K w b l) (hn : l.length < maxLen)
    (k : Bs) (hk : k.length ≤ maxLen) (hx : a.eval x = .string ⟨k.toArray⟩) (s : β) (hv : a.eval v = f s) (hC : ∀ w', OmF f P K w' b (gput k s l) → w.grownBy w' (some b) → wpList P ops Q rest (a.put o.dst undef) w') : wpList P ops Q (o :: rest) a w := by
  refine wpList_plain hg fun K' hK' => ?_
  obtain ⟨w', hrun, r1, r2⟩ := h.store hK hT hn hk s
  unfold Oper.wp
  simp [execOp, hop, hm, hx, hv, hrun, Result.andThen]
  exact hK' _ _ (hC w' r1 r2)
theorem step_putF {K' : Act → World → Prop} {X : Prop} (hw : Region.wanted o (yielded ops a.tmps) = true) (m x v : Operand) (hop : o.op = Op.mapUpdate T m x v) (hK : P.underlying K = some .string) (hT : P.underlying T = some (.map K E)) (b : Nat) (l : List (Bs × β)) (hm : a.eval m = .map (some b)) (h : OmF f P K w b l) (hn : l.length < maxLen)
    (k : Bs) (hk : k.length ≤ maxLen) (hx : a.eval x = .string ⟨k.toArray⟩) (s : β) (hv : a.eval v = f s) (hC : ∀ w', OmF f P K w' b (gput k s l) → w.grownBy w' (some b) → K' (a.put o.dst undef) w') :
    if Region.wanted o (yielded ops a.tmps) = true then Oper.wp P o a w K' Q else X := by
  rw [if_pos hw]
  obtain ⟨w', hrun, r1, r2⟩ := h.store hK hT hn hk s
  unfold Oper.wp
  simp [execOp, hop, hm, hx, hv, hrun, Result.andThen]
  exact hC w' r1 r2
end
end Go.Proofs.YtddmfoldnlafaaaGreatDoor

namespace Go.Proofs.YtddmfoldnlafaaaGreatDoor
open Go.ChangeShapes Go.WideShapes Go.ChangeAt Go.RowKit Go.Deep

/-- an act: its kind, its two names, its bytes, its number, what is kept -/
structure DA where
  k : Int
  n : List UInt8
  t : List UInt8
  A : Option Addr
  c : Nat
  l : List UInt8
  f : Int
  B : Option Addr
  kc : Nat
  ks : List Bool
def dac (a : DA) : List Value := [.int .i64 a.k, .string ⟨a.n.toArray⟩, .string ⟨a.t.toArray⟩, .slice a.A a.l.length a.c, .int .i64 a.f, .slice a.B a.ks.length a.kc]
theorem dac_len (a : DA) : (dac a).length = 6 := rfl
def SlZ (w : World) (B : Option Addr) (kc : Nat) (ks : List Bool) : Prop := Sl w 1 B ks.length kc (ks.map Value.bool)
/-- what is so of every act's parts -/
def DAok (w : World) (a : DA) : Prop := SlB w a.A a.c a.l ∧ SlZ w a.B a.kc a.ks ∧ I64 a.k ∧ I64 a.f ∧ a.n.length ≤ maxLen ∧ a.t.length ≤ maxLen
def SlDA (w : World) (A : Option Addr) (c : Nat) (s : List DA) : Prop := Sl w 6 A s.length c (s.flatMap dac) ∧ ∀ a ∈ s, DAok w a
theorem DAok.below {w w' : World} {a : DA} (h : DAok w a) (hb : Below w.heap.size w w') : DAok w' a := ⟨Sl.below h.1 hb, Sl.below h.2.1 hb, h.2.2⟩
theorem SlDA.below {w w' : World} {A : Option Addr} {c : Nat} {s : List DA} (h : SlDA w A c s) (hb : Below w.heap.size w w') : SlDA w' A c s := ⟨h.1.below hb, fun a ha => (h.2 a ha).below hb⟩
section
variable {H : Type} {enc : TypeId × Value → H} {P : Program} {w : World} {base b0 : Nat} {held : Bool} {r : Reach} {t e z b s : TypeId} {v : Value} {d : DataW H} {p : List MemPlace}
theorem bytes_cellD {n : Nat} {y : DataW H × List MemPlace} (ht : P.underlying t = some (.slice e)) (he : P.underlying e = some (.int .u8)) (hC : P.cellsOf e = 1) (h : DataW.trod enc P w base (fun _ => true) held n t [v] = some y) :
    ∃ (A : Option Addr) (c : Nat) (l : List UInt8), v = .slice A l.length c ∧ SlB w A c l := by
  rcases open_ints ht he hC h with ⟨hcs, _⟩ | ⟨x, l, c', zs, hcs, _, hl, hm, hz, _, hcell, hwz⟩
  · simp at hcs
    subst hcs
    exact ⟨none, 0, [], rfl, Sl.none_ _ _⟩
  · simp at hcs
    subst hcs
    simp only [if_true] at hz
    have hs := row_reads hl hm hz hcell
    have hw : ∀ z ∈ zs.take l, (Lit.int .u8 z).wf = true := fun z hz => hwz z (List.mem_of_mem_take hz)
    have hm : (zs.take l).map (Value.int .u8) = bvs ((zs.take l).map fun z => UInt8.ofNat z.toNat) := by
      rw [bvs, List.map_map]
      refine List.map_congr_left fun z hz => ?_
      have hb := bounds_u8 (hw z hz)
      simp only [Function.comp, bv, UInt8.toNat_ofNat']
      congr 1
      omega
    rw [hm] at hs
    have hlen : ((zs.take l).map fun z => UInt8.ofNat z.toNat).length = l := by simp; omega
    refine ⟨some x, c', (zs.take l).map fun z => UInt8.ofNat z.toNat, by rw [hlen], ?_⟩
    show Sl w 1 _ (List.map _ _).length c' _
    rw [hlen]
    exact hs
theorem bools_cell {n : Nat} {y : DataW H × List MemPlace} (ht : P.underlying t = some (.slice z)) (he : P.underlying z = some .bool) (hC : P.cellsOf z = 1) (h : DataW.trod enc P w base (fun _ => true) held n t [v] = some y) :
    ∃ (A : Option Addr) (c : Nat) (l : List Bool), v = .slice A l.length c ∧ SlZ w A c l := by
  rcases open_slice1 ht hC h with ⟨hcs, _⟩ | ⟨a, len, cap, m, nn, V, D, Pl, hcs, _, hl, hm, hmm, _, hi⟩
  · simp at hcs
    subst hcs
    exact ⟨none, 0, [], rfl, Sl.none_ _ _⟩
  · simp at hcs
    subst hcs
    simp only [if_true] at hmm
    obtain ⟨l, hll, hlr⟩ := list_choice (fun i b => w.cell? (a.add i) = some (.bool b)) len fun i hi' => by
      obtain ⟨h1, h2⟩ := hi i (by omega)
      obtain ⟨b, hb, _⟩ := DataW.trod_bool he h2
      simp at hb
      exact ⟨b, by rw [h1, hb]⟩
    refine ⟨some a, cap, l, by rw [hll], by simp, by omega, hm, (fun h => by cases h), fun j u hj => ⟨a, rfl, ?_⟩⟩
    obtain ⟨hjl, rfl⟩ := List.getElem?_eq_some_iff.1 hj
    rw [List.length_map] at hjl
    rw [List.getElem_map]
    exact hlr j hjl
theorem string_cell {n : Nat} {y : DataW H × List MemPlace} (ht : P.underlying t = some .string) (h : DataW.trod enc P w base (fun _ => true) held n t [v] = some y) :
    ∃ l : List UInt8, v = .string ⟨l.toArray⟩ ∧ l.length ≤ maxLen := by
  obtain ⟨s, hs, _, hz⟩ := DataW.trod_string ht h
  simp at hs
  subst hs
  exact ⟨s.data.toList, rfl, hz⟩
theorem open_dacts {f0 f1 f2 f3 f4 f5 : Field} (ht : P.underlying t = some (.slice b)) (hs : P.underlying b = some (.struct #[f0, f1, f2, f3, f4, f5])) (h0 : P.underlying f0.type = some (.int .i64)) (h1 : P.underlying f1.type = some .string) (h2 : P.underlying f2.type = some .string) (h3 : P.underlying f3.type = some (.slice e)) (h4 : P.underlying f4.type = some (.int .i64)) (h5 : P.underlying f5.type = some (.slice z))
    (he : P.underlying e = some (.int .u8)) (hz : P.underlying z = some .bool) (hCe : P.cellsOf e = 1) (hCz : P.cellsOf z = 1) (hone : oneCellFields P #[f0, f1, f2, f3, f4, f5] = true) (hC : P.cellsOf b = 6) (hv : Value.okWide P w r b0 t v) (h : DataW.Trod enc P w base (fun _ => true) held t v d p) :
    ∃ (A : Option Addr) (c : Nat) (l : List DA), v = .slice A l.length c ∧ SlDA w A c l := by
  obtain ⟨A, c, l, rfl, hl, hq⟩ := open_structs dac (DAok w) (fun _ => rfl) ht hs hone hC (by
    intro vs hl hf
    obtain ⟨u0, n0, y0, e0, t0⟩ := hf 0 f0 rfl
    obtain ⟨u1, n1, y1, e1, t1⟩ := hf 1 f1 rfl
    obtain ⟨u2, n2, y2, e2, t2⟩ := hf 2 f2 rfl
    obtain ⟨u3, n3, y3, e3, t3⟩ := hf 3 f3 rfl
    obtain ⟨u4, n4, y4, e4, t4⟩ := hf 4 f4 rfl
    obtain ⟨u5, n5, y5, e5, t5⟩ := hf 5 f5 rfl
    obtain ⟨k, rfl, hk⟩ := int_cell h0 t0
    obtain ⟨nm, rfl, hn⟩ := string_cell h1 t1
    obtain ⟨tw, rfl, ht⟩ := string_cell h2 t2
    obtain ⟨A, c, l, rfl, hb⟩ := bytes_cellD h3 he hCe t3
    obtain ⟨f, rfl, hfi⟩ := int_cell h4 t4
    obtain ⟨B, kc, ks, rfl, hks⟩ := bools_cell h5 hz hCz t5
    match vs, hl with
    | [x0, x1, x2, x3, x4, x5], _ =>
      simp at e0 e1 e2 e3 e4 e5
      exact ⟨⟨k, nm, tw, A, c, l, f, B, kc, ks⟩, by simp [dac, e0, e1, e2, e3, e4, e5], hb, hks, hk, hfi, hn, ht⟩) hv h
  exact ⟨A, c, l, rfl, hl, hq⟩
theorem open_bools (ht : P.underlying t = some (.slice z)) (hz : P.underlying z = some .bool) (hCz : P.cellsOf z = 1) (hv : Value.okWide P w r b0 t v) (h : DataW.Trod enc P w base (fun _ => true) held t v d p) :
    ∃ (A : Option Addr) (c : Nat) (l : List Bool), v = .slice A l.length c ∧ SlZ w A c l := by
  obtain ⟨A, n, c, rfl⟩ := okWide_slice ht hv
  obtain ⟨fuel, hf⟩ := h
  exact bools_cell ht hz hCz hf
theorem open_textD (ht : P.underlying t = some .string) (hv : Value.okWide P w r b0 t v) (h : DataW.Trod enc P w base (fun _ => true) held t v d p) :
    ∃ l : List UInt8, v = .string ⟨l.toArray⟩ ∧ l.length ≤ maxLen := by
  obtain ⟨s, rfl⟩ := okWide_string ht hv
  obtain ⟨fuel, hf⟩ := h
  exact string_cell ht hf
/-- files -/
structure DF where
  n : List UInt8
  A : Option Addr
  c : Nat
  l : List UInt8
def dfc (a : DF) : List Value := [.string ⟨a.n.toArray⟩, .slice a.A a.l.length a.c]
def DFok (w : World) (a : DF) : Prop := SlB w a.A a.c a.l ∧ a.n.length ≤ maxLen
def SlDF (w : World) (A : Option Addr) (c : Nat) (s : List DF) : Prop := Sl w 2 A s.length c (s.flatMap dfc) ∧ ∀ a ∈ s, DFok w a
theorem SlDF.below {w w' : World} {A : Option Addr} {c : Nat} {s : List DF} (h : SlDF w A c s) (hb : Below w.heap.size w w') : SlDF w' A c s := ⟨h.1.below hb, fun a ha => ⟨Sl.below (h.2 a ha).1 hb, (h.2 a ha).2⟩⟩
theorem open_dfiles {f0 f1 : Field} (ht : P.underlying t = some (.slice b)) (hs : P.underlying b = some (.struct #[f0, f1])) (h0 : P.underlying f0.type = some .string) (h1 : P.underlying f1.type = some (.slice e)) (he : P.underlying e = some (.int .u8))
    (hCe : P.cellsOf e = 1) (hone : oneCellFields P #[f0, f1] = true) (hC : P.cellsOf b = 2) (hv : Value.okWide P w r b0 t v) (h : DataW.Trod enc P w base (fun _ => true) held t v d p) :
    ∃ (A : Option Addr) (c : Nat) (l : List DF), v = .slice A l.length c ∧ SlDF w A c l := by
  obtain ⟨A, c, l, rfl, hl, hq⟩ := open_structs dfc (DFok w) (fun _ => rfl) ht hs hone hC (by
    intro vs hl hf
    obtain ⟨u0, n0, y0, e0, t0⟩ := hf 0 f0 rfl
    obtain ⟨u1, n1, y1, e1, t1⟩ := hf 1 f1 rfl
    obtain ⟨nm, rfl, hn⟩ := string_cell h0 t0
    obtain ⟨A, c, l, rfl, hb⟩ := bytes_cellD h1 he hCe t1
    match vs, hl with
    | [x0, x1], _ =>
      simp at e0 e1
      exact ⟨⟨nm, A, c, l⟩, by simp [dfc, e0, e1], hb, hn⟩) hv h
  exact ⟨A, c, l, rfl, hl, hq⟩
end
end Go.Proofs.YtddmfoldnlafaaaGreatDoor

namespace Go.Proofs.YtddmfoldnlafaaaGreatDoor
open Go.RowKit Go.Maps Go.Sort
attribute [local go_sem ↓] Go.wp_at_zero Go.wp_at_succ

def DA.long (a : DA) : Bool := decide (60 < a.n.length) || decide (60 < a.t.length) || decide (60 < a.ks.length) || decide (300 < a.l.length ∧ a.l.length ≤ 65536) || decide (66000 < a.l.length)
def dLong (s : List DA) (most : Int) : Bool := s.any DA.long || decide (most < s.length)
theorem dLong_at {s : List DA} {most : Int} {k : Nat} (hk : k < s.length) (h : s[k].long = true) : dLong s most = true := by
  unfold dLong
  rw [List.any_eq_true.2 ⟨s[k], List.getElem_mem hk, h⟩]
  rfl
theorem dLong_none {s : List DA} {most : Int} (h : ∀ i (hi : i < s.length), s[i].long = false) : dLong s most = decide (most < s.length) := by
  unfold dLong
  rw [List.any_eq_false.2 fun x hx => by
    obtain ⟨i, hi, rfl⟩ := List.getElem_of_mem hx
    simp [h i hi]]
  rfl
theorem DA.short {a : DA} (h : a.long = false) : a.n.length ≤ 60 ∧ a.t.length ≤ 60 ∧ a.ks.length ≤ 60 ∧ a.l.length ≤ 66000 ∧ (a.l.length ≤ 300 ∨ 65536 < a.l.length) := by
  unfold DA.long at h
  simp only [Bool.or_eq_false_iff, decide_eq_false_iff_not] at h
  omega
theorem dLong_short {s : List DA} {most : Int} (h : dLong s most = false) : (s.length : Int) ≤ most ∧ ∀ a ∈ s, a.long = false := by
  unfold dLong at h
  simp only [Bool.or_eq_false_iff, decide_eq_false_iff_not] at h
  refine ⟨by omega, fun a ha => ?_⟩
  have := List.any_eq_false.1 h.1 a ha
  simpa using this
set_option maxRecDepth 100000 in
set_option maxHeartbeats 1000000 in
theorem DLong_any {A : Option Addr} {c : Nat} {s : List DA} (w : World) (h : SlDA w A c s) (most : Int) : Calls Tryz.prog 25 #[.slice A s.length c, .int .i64 most] w fun e w' => e = .returned (.bool (dLong s most)) ∧ Below w.heap.size w w' := by
  have hsl : s.length ≤ maxLen := Nat.le_trans h.1.2.1 h.1.2.2.1
  unfold maxLen at hsl
  have H := Lib.hid h
  clear h
  go_enter Tryz.func25, Tryz.ntmps25
  go_wp2_with fail
  go_loopw [9] (fun x wr => ∃ k : Nat, k ≤ s.length ∧ x = .int .i64 k ∧ (∀ i (hi : i < s.length), i < k → s[i].long = false) ∧ Below w.heap.size w wr) (fun x w => s.length - (intOf x).toNat)
  case atStart => exact ⟨0, Nat.zero_le _, rfl, (fun i _ hi => by omega), Below.refl _ _⟩
  case round =>
    obtain ⟨k, hk, rfl, hno, hb⟩ := hrel
    by_cases hlt : k < s.length
    · have hS := H.out.below hb
      obtain ⟨ad, b, o, hA, had, hcc⟩ := Sl.atS (f := dac) (size := 6) (fun _ => rfl) (by omega) hS.1 hlt
      have hc0 := hcc 0 _ rfl
      have hc1 := hcc 1 _ rfl
      have hc2 := hcc 2 _ rfl
      have hc3 := hcc 3 _ rfl
      have hc4 := hcc 4 _ rfl
      have hc5 := hcc 5 _ rfl
      rw [Nat.add_zero] at hc0
      have hok := hS.2 _ (List.getElem_mem hlt)
      clear hcc hS
      generalize hx : s[k] = x at *
      obtain ⟨kd, nm, tt, A1, c1, l1, ff, B1, kc, ks⟩ := x
      obtain ⟨q1, q2, -, -, q5, q6⟩ := hok
      have q7 : l1.length ≤ maxLen := Nat.le_trans q1.2.1 q1.2.2.1
      have q8 : ks.length ≤ maxLen := Nat.le_trans q2.2.1 q2.2.2.1
      clear q1 q2
      dsimp only at *
      unfold maxLen at *
      rw [hA] at *
      clear hA
      have hbn := bel_alloc hb (.cells #[.int .i64 kd, .string ⟨nm.toArray⟩, .string ⟨tt.toArray⟩, .slice A1 l1.length c1, .int .i64 ff, .slice B1 ks.length kc] 62)
      rcases Nat.lt_or_ge 60 nm.length with g1 | g1
      · have i1 : (60 : Int) < (nm.length : Int) := by omega
        have HE := Lib.hid (dLong_at (most := most) hlt (by rw [hx]; unfold DA.long; simp; omega))
        clear hno hx
        go_wp2_with fail
        go_ret
        exact ⟨by rw [HE.out]; rfl, hbn⟩
      have i1 : (nm.length : Int) ≤ 60 := by omega
      rcases Nat.lt_or_ge 60 tt.length with g2 | g2
      · have i2 : (60 : Int) < (tt.length : Int) := by omega
        have HE := Lib.hid (dLong_at (most := most) hlt (by rw [hx]; unfold DA.long; simp; omega))
        clear hno hx
        go_wp2_with fail
        go_ret
        exact ⟨by rw [HE.out]; rfl, hbn⟩
      have i2 : (tt.length : Int) ≤ 60 := by omega
      rcases Nat.lt_or_ge 60 ks.length with g3 | g3
      · have i3 : (60 : Int) < (ks.length : Int) := by omega
        have HE := Lib.hid (dLong_at (most := most) hlt (by rw [hx]; unfold DA.long; simp; omega))
        clear hno hx
        go_wp2_with fail
        go_ret
        exact ⟨by rw [HE.out]; rfl, hbn⟩
      have i3 : (ks.length : Int) ≤ 60 := by omega
      rcases Nat.lt_or_ge 300 l1.length with g4 | g4
      · have i4 : (300 : Int) < (l1.length : Int) := by omega
        rcases Nat.lt_or_ge 65536 l1.length with g5 | g5
        · have i5 : (65536 : Int) < (l1.length : Int) := by omega
          rcases Nat.lt_or_ge 66000 l1.length with g6 | g6
          · have i6 : (66000 : Int) < (l1.length : Int) := by omega
            have HE := Lib.hid (dLong_at (most := most) hlt (by rw [hx]; unfold DA.long; simp; omega))
            clear hno hx
            go_wp2_with fail
            go_ret
            exact ⟨by rw [HE.out]; rfl, hbn⟩
          · have i6 : (l1.length : Int) ≤ 66000 := by omega
            have hno2 := Lib.hid (show ∀ i (hi : i < s.length), i < k + 1 → s[i].long = false from fun i hi hi2 => by
              rcases Nat.lt_or_ge i k with h1 | h1
              · exact hno i hi h1
              · obtain rfl : i = k := by omega
                rw [hx]; unfold DA.long; simp; omega)
            clear hno hx
            go_wp2_with fail
            go_roundw
            case rel => exact ⟨k + 1, hlt, rfl, hno2.out, hbn⟩
            case measure => simp [intOf]; omega
        · have i5 : (l1.length : Int) ≤ 65536 := by omega
          have HE := Lib.hid (dLong_at (most := most) hlt (by rw [hx]; unfold DA.long; simp; omega))
          clear hno hx
          go_wp2_with fail
          go_ret
          exact ⟨by rw [HE.out]; rfl, hbn⟩
      · have i4 : (l1.length : Int) ≤ 300 := by omega
        have i6 : (l1.length : Int) ≤ 66000 := by omega
        have hno2 := Lib.hid (show ∀ i (hi : i < s.length), i < k + 1 → s[i].long = false from fun i hi hi2 => by
          rcases Nat.lt_or_ge i k with h1 | h1
          · exact hno i hi h1
          · obtain rfl : i = k := by omega
            rw [hx]; unfold DA.long; simp; omega)
        clear hno hx
        go_wp2_with fail
        go_roundw
        case rel => exact ⟨k + 1, hlt, rfl, hno2.out, hbn⟩
        case measure => simp [intOf]; omega
    · have hke : k = s.length := by omega
      have HE := Lib.hid (dLong_none (most := most) fun i hi => hno i hi (by omega))
      subst hke
      clear hno
      go_wp2_with fail
      go_ret
      exact ⟨by rw [HE.out]; rfl, hb⟩
end Go.Proofs.YtddmfoldnlafaaaGreatDoor

namespace Go.Proofs.YtddmfoldnlafaaaGreatDoor
open Go.RowKit Go.Maps Go.Sort
attribute [local go_sem ↓] Go.wp_at_zero Go.wp_at_succ

theorem SlB.ltB {w : World} {A : Option Addr} {c : Nat} {l : Bs} (h : SlB w A c l) (hne : l ≠ []) {ad : Addr} (hA : A = some ad) : ad.block < w.heap.size := by
  obtain ⟨ad', e, hc⟩ := Sl.at1 (f := bv) (l := l) h (k := 0) (List.length_pos_iff.2 hne)
  rw [hA] at e
  injection e with e
  subst e
  have := World.block_lt_of_cell? _ _ hc
  rwa [addr_add_block] at this
theorem SlZ.ltB {w : World} {B : Option Addr} {kc : Nat} {ks : List Bool} (h : SlZ w B kc ks) (hne : ks ≠ []) {ad : Addr} (hA : B = some ad) : ad.block < w.heap.size := by
  have hl : 0 < ks.length := List.length_pos_iff.2 hne
  obtain ⟨ad', e, hc⟩ := h.2.2.2.2 0 _ (by rw [List.getElem?_map, List.getElem?_eq_getElem hl]; rfl)
  rw [hA] at e
  injection e with e
  subst e
  have := World.block_lt_of_cell? _ _ hc
  rwa [addr_add_block] at this
/-- a kind's remainder by 4 -/
theorem kind4 (k : Int) : (IntKind.u64.wrap k).tmod 4 = 0 ∨ (IntKind.u64.wrap k).tmod 4 = 1 ∨ (IntKind.u64.wrap k).tmod 4 = 2 ∨ (IntKind.u64.wrap k).tmod 4 = 3 := by
  have h : IntKind.u64.wrap k = k % 18446744073709551616 := rfl
  rw [h, Int.tmod_eq_emod_of_nonneg (by omega)]
  omega
/-- what has been done behind k acts -/
def Dn (n : Int) (k : Nat) (dn : Int) : Prop := (k : Int) ≤ n ∧ dn = k ∨ n < k ∧ dn = n
end Go.Proofs.YtddmfoldnlafaaaGreatDoor
