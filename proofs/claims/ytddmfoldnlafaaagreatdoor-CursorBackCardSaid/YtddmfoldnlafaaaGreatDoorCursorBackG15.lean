/- WHAT IT HOLDS: a store in memory; which texts are objects' names; what is asked for; objects put, read, deleted: walked. | WHAT IT HOLDS: a store's objects read; a store opened: walked. | WHAT IT HOLDS: the law's store is alive, walked. | WHAT IT HOLDS: maps from texts to values of any kind in memory: looked up, written, gone through. -/
import Derived.Test.YtddmfoldnlafaaaGreatDoorCursorBackG13
import Derived.Test.YtddmfoldnlafaaaGreatDoorCursorBackG14
import Derived.Test.YtddmfoldnlafaaaGreatDoorShelfB
import Derived.Laws.Concat
import Derived.Test.YtddmfoldnlafaaaGreatDoorCursorBackG02
import Derived.Test.YtddmfoldnlafaaaGreatDoorCursorBackG09
namespace Go.Proofs.YtddmfoldnlafaaaGreatDoor
open Go.RowKit Go.Maps Go.Sort
attribute [local go_sem ↓] Go.wp_at_zero Go.wp_at_succ

theorem index_has (l : Bs) : decide (0 ≤ Lib.indexByte l 126) = decide (126 ∈ l) := by
  refine decide_eq_decide.2 ?_
  induction l with
  | nil => simp [Lib.indexByte]
  | cons b r ih =>
    have hge := Lib.indexByte_ge r 126
    unfold Lib.indexByte
    by_cases hb : b = 126
    · subst hb
      simp
    · rw [if_neg (by simpa using hb)]
      have hne : ¬ (126 : UInt8) = b := fun e => hb e.symm
      by_cases hm : Lib.indexByte r 126 = -1
      · rw [if_pos (by simp [hm])]
        rw [hm] at ih
        simp only [List.mem_cons, hne, false_or]
        rw [← ih]
      · rw [if_neg (by simpa using hm)]
        simp only [List.mem_cons, hne, false_or]
        rw [← ih]
        omega
set_option maxRecDepth 100000 in
set_option maxHeartbeats 1000000 in
theorem SNamed_any (s : Bs) (w : World) (hl : s.length ≤ 9223372036854775807) : Calls Tryz.prog 161 #[.string ⟨s.toArray⟩] w fun e w' => e = .returned (.bool (snamed s)) ∧ Below w.heap.size w w' := by
  have hsz : (ByteArray.size ⟨s.toArray⟩) = s.length := by simp [ByteArray.size]
  have HC := Lib.hid (fun W => Tryz.strings_Contains_one ⟨s.toArray⟩ 126 W)
  rcases Nat.lt_or_ge 20 s.length with h | h
  · have hI : (20 : Int) < (s.length : Int) := by omega
    have HN := Lib.hid (show snamed s = false from by unfold snamed; rw [decide_eq_false (by omega)]; rfl)
    go_enter Tryz.func161, Tryz.ntmps161
    go_wp2_with fail
    go_ret
    exact ⟨by rw [HN.out]; rfl, Below.refl _ _⟩
  have hI : (s.length : Int) ≤ 20 := by omega
  have hd : decide (s.length ≤ 20) = true := decide_eq_true (by omega)
  go_enter Tryz.func161, Tryz.ntmps161
  go_wp2_with fail
  refine (Named_any s w hl).mono ?_
  rintro e w1 ⟨rfl, hb⟩
  cases hn : named s with
  | false =>
    have HN := Lib.hid (show snamed s = false from by unfold snamed; rw [hd, hn]; rfl)
    go_wp2_with fail
    go_ret
    exact ⟨by rw [HN.out]; rfl, hb⟩
  | true =>
    have HN := Lib.hid (show snamed s = !decide (126 ∈ s) from by unfold snamed; rw [hd, hn]; simp)
    go_wp2_with fail
    refine (HC.out _).mono ?_
    rintro e w2 ⟨rfl, rfl⟩
    rw [index_has]
    go_wp2_with fail
    go_ret
    exact ⟨by rw [HN.out]; rfl, hb⟩
theorem errv_ifc {n : Nat} (h : n ≠ 0) : ∃ v, errv n = .iface 79 v := by
  match n, h with
  | k + 1, _ => exact ⟨_, rfl⟩
/-- a store in memory -/
abbrev sta (q : Fp) : Array Value := #[.pointer (some ⟨q.g, 0, none⟩)]
set_option maxRecDepth 100000 in
set_option maxHeartbeats 1000000 in
theorem Asks_any (g : Nat) (s : Bs) (w : World) (hl : s.length ≤ 9223372036854775807) : Calls Tryz.prog 124 #[.pointer (some ⟨g, 0, none⟩), .string ⟨s.toArray⟩] w fun e w' => e = .returned (errv (if snamed s = true then 0 else 2)) ∧ Below w.heap.size w w' := by
  have HN := Lib.hid (fun W => SNamed_any s W hl)
  cases hn : snamed s with
  | false =>
    rw [hn] at HN
    go_enter Tryz.func124, Tryz.ntmps124
    go_wp2_with fail
    refine (HN.out _).mono ?_
    rintro e w1 ⟨rfl, hb⟩
    go_wp2_with fail
    go_ret
    exact ⟨rfl, hb⟩
  | true =>
    rw [hn] at HN
    go_enter Tryz.func124, Tryz.ntmps124
    go_wp2_with fail
    refine (HN.out _).mono ?_
    rintro e w1 ⟨rfl, hb⟩
    go_wp2_with fail
    go_ret
    exact ⟨rfl, hb⟩
theorem Dgo.trans {w w1 w2 : World} {q q1 : Fp} {d d1 d2 : Dk Sv} (hg : q1.g = q.g) (hF : Frd q w w1) (hM : ∀ i, q1.M i → q.M i ∨ w.heap.size ≤ i) (hT : ∀ i, Tc q1 d1 i → Tc q d i ∨ w.heap.size ≤ i) (h : Dgo w1 q1 d1 d2 w2) : Dgo w q d d2 w2 := by
  obtain ⟨q2, hg2, hD, hF2, hM2, hT2⟩ := h
  have hs := hF.size
  refine ⟨q2, hg2.trans hg, hD, hF.trans hF2 hM, fun i hi => ?_, fun i hi => ?_⟩
  · rcases hM2 i hi with h1 | h1
    · exact hM i h1
    · exact .inr (by omega)
  · rcases hT2 i hi with h1 | h1
    · exact hT i h1
    · exact .inr (by omega)
theorem Dgo.below {w w1 w2 : World} {q : Fp} {d d2 : Dk Sv} (hb : Below w.heap.size w w1) (h : Dgo w1 q d d2 w2) : Dgo w q d d2 w2 :=
  Dgo.trans rfl (Frd.of_below hb) (fun _ hi => .inl hi) (fun _ hi => .inl hi) h
theorem Dgo.still {w w1 : World} {q : Fp} {d : Dk Sv} (h : Dsk w q d) (hb : Below w.heap.size w w1) : Dgo w q d d w1 := Dgo.of (h.below hb) (Frd.of_below hb) rfl rfl
/-- a store and its disk in memory -/
structure StM (w : World) (gs : Nat) (q : Fp) (d : Dk Sv) : Prop where
  dsk : Dsk w q d
  blk : Blk w gs 122 (sta q)
  ap : ¬ q.M gs
theorem StM.below {w w' : World} {gs : Nat} {q : Fp} {d : Dk Sv} (h : StM w gs q d) (hb : Below w.heap.size w w') : StM w' gs q d := ⟨h.dsk.below hb, h.blk.below hb, h.ap⟩
theorem StM.cl {w : World} {gs : Nat} {q : Fp} {d : Dk Sv} (h : StM w gs q d) : w.cell? ⟨gs, 0, none⟩ = some (.pointer (some ⟨q.g, 0, none⟩)) := h.blk.cell 0
theorem StM.act {w w' : World} {gs : Nat} {q q' : Fp} {d d' : Dk Sv} (h : StM w gs q d) (hg : q'.g = q.g) (hD : Dsk w' q' d') (hF : Frd q w w') (hM : ∀ i, q'.M i → q.M i ∨ w.heap.size ≤ i) : StM w' gs q' d' :=
  ⟨hD, by unfold sta; rw [hg]; exact (hF.block gs h.blk.lt h.ap).trans h.blk, fun hq => by
    rcases hM gs hq with h1 | h1
    · exact h.ap h1
    · have := h.blk.lt
      omega⟩
set_option maxRecDepth 100000 in
set_option maxHeartbeats 1000000 in
theorem SDelete_any {w : World} {gs : Nat} {q : Fp} {d : Dk Sv} (h : StM w gs q d) (hf : Fok d) (hl : d.sure.length + d.pend.length ≤ 1000) (n : Bs) (hn : n.length ≤ 100000000) :
    Calls Tryz.prog 74 #[.pointer (some ⟨gs, 0, none⟩), .string ⟨n.toArray⟩] w fun e w' => e = .returned (errv (sDelete Sv.nil d n).2) ∧ Dgo w q d (sDelete Sv.nil d n).1 w' := by
  have HA := Lib.hid (Asks_any gs n w (by omega))
  have HS := Lib.hid h
  clear h
  cases hs : snamed n with
  | false =>
    rw [hs, if_neg (by simp), show errv 2 = Value.iface 79 (.int .i64 2) from rfl] at HA
    have HX := Lib.hid (show sDelete Sv.nil d n = (d, 2) from by unfold sDelete; rw [if_pos hs])
    go_enter Tryz.func74, Tryz.ntmps74
    go_wp2_with fail
    refine HA.out.mono ?_
    rintro e w1 ⟨rfl, hb1⟩
    have HG := Lib.hid (Dgo.still HS.out.dsk hb1)
    go_wp2_with fail
    go_ret
    exact ⟨by rw [HX.out]; rfl, by rw [HX.out]; exact HG.out⟩
  | true =>
    rw [hs, if_pos rfl, show errv 0 = Value.nilIface from rfl] at HA
    have HX := Lib.hid (show sDelete Sv.nil d n = andThen (dRemove Sv.nil d n) dSync from by unfold sDelete; rw [if_neg (by simp [hs])])
    go_enter Tryz.func74, Tryz.ntmps74
    go_wp2_with fail
    refine HA.out.mono ?_
    rintro e w1 ⟨rfl, hb1⟩
    have hS1 := HS.out.below hb1
    have hb := hS1.cl
    obtain ⟨p1, p2, p3, -⟩ := hS1.dsk.fits hl (by omega)
    have HR := Lib.hid (Remove_any hS1.dsk hf p1 p2 n hn)
    have hop := Opd.remove Sv.nil d n
    generalize dRemove Sv.nil d n = r at *
    obtain ⟨d1, n1⟩ := r
    have hf1 := hf.opd hop
    have hl1 := opd_len hop hl
    dsimp only at hf1 hl1
    have HS1 := Lib.hid hS1
    have HB1 := Lib.hid hb1
    clear HA HS hS1 hb1 hop
    go_wp2_with fail
    refine HR.out.mono ?_
    rintro e w2 ⟨rfl, q2, hg2, hD2, hF2, hM2, hT2⟩
    dsimp only at hD2 hT2 ⊢
    rcases Decidable.em (n1 = 0) with h0 | h0
    · subst h0
      have hS2 := HS1.out.act hg2 hD2 hF2 hM2
      have hb2 := hS2.cl
      have HY := Lib.hid (Sync_any hD2 hf1)
      rw [hg2] at hb2 HY
      have HX2 := Lib.hid (show andThen (d1, 0) dSync = dSync d1 from rfl)
      have HT := Lib.hid (fun (d3 : Dk Sv) (w3 : World) (hG : Dgo w2 q2 d1 d3 w3) => Dgo.below HB1.out (Dgo.trans hg2 hF2 hM2 hT2 hG))
      rw [show errv 0 = Value.nilIface from rfl]
      clear HR hb hD2 hF2 hM2 hT2 hS2 HS1
      go_wp2_with fail
      refine HY.out.mono ?_
      rintro e w3 ⟨rfl, hG⟩
      have HG := Lib.hid (HT.out _ _ hG)
      clear HT HY hG
      go_wp2_with fail
      go_ret
      exact ⟨by rw [HX.out, HX2.out]; rfl, by rw [HX.out, HX2.out]; exact HG.out⟩
    · obtain ⟨ev, hev⟩ := errv_ifc h0
      have HX2 := Lib.hid (show andThen (d1, n1) dSync = (d1, n1) from if_pos h0)
      have HG := Lib.hid (Dgo.below HB1.out ⟨q2, hg2, hD2, hF2, hM2, hT2⟩)
      have HE := Lib.hid hev
      rw [hev]
      clear HR hb hD2 hF2 hM2 hT2 HS1 hev
      go_wp2_with fail
      go_ret
      exact ⟨by rw [HX.out, HX2.out, HE.out]; rfl, by rw [HX.out, HX2.out]; exact HG.out⟩
theorem cat_begun (n : Bs) : (⟨#[126]⟩ : ByteArray) ++ ⟨n.toArray⟩ = ⟨(begun n).toArray⟩ := by
  apply ByteArray.ext
  simp [begun]
theorem snamed_len {n : Bs} (h : snamed n = true) : n.length ≤ 20 := by
  unfold snamed at h
  simp only [Bool.and_eq_true, decide_eq_true_eq] at h
  exact h.1.1
set_option maxRecDepth 100000 in
set_option maxHeartbeats 1000000 in
theorem SPut_any {w : World} {gs : Nat} {q : Fp} {d : Dk Sv} (h : StM w gs q d) (hf : Fok d) (hl : d.sure.length + d.pend.length ≤ 900) (n : Bs) (hn : n.length ≤ 100000000) {A : Option Addr} {c : Nat} (l : Bs) (hS : SlB w A c l) (hSM : l ≠ [] → ∀ ad, A = some ad → ad.block ≠ q.g) (hll : l.length ≤ 100000000) :
    Calls Tryz.prog 61 #[.pointer (some ⟨gs, 0, none⟩), .string ⟨n.toArray⟩, .slice A l.length c] w fun e w' => ∃ A' c', e = .returned (errv (sPut svl Sv.nil d n ⟨A', c', l⟩).2) ∧ Dgo w q d (sPut svl Sv.nil d n ⟨A', c', l⟩).1 w' := by
  have HA := Lib.hid (Asks_any gs n w (by omega))
  have HS0 := Lib.hid h
  clear h
  cases hs : snamed n with
  | false =>
    rw [hs, if_neg (by simp), show errv 2 = Value.iface 79 (.int .i64 2) from rfl] at HA
    have HX := Lib.hid (show ∀ v, sPut svl Sv.nil d n v = (d, 2) from fun v => by unfold sPut; rw [if_pos hs])
    go_enter Tryz.func61, Tryz.ntmps61
    go_wp2_with fail
    refine HA.out.mono ?_
    rintro e w1 ⟨rfl, hb1⟩
    have HG := Lib.hid (Dgo.still HS0.out.dsk hb1)
    go_wp2_with fail
    go_ret
    exact ⟨none, 0, by rw [HX.out]; rfl, by rw [HX.out]; exact HG.out⟩
  | true =>
    have hnl := snamed_len hs
    rw [hs, if_pos rfl, show errv 0 = Value.nilIface from rfl] at HA
    have HX0 := Lib.hid (show ∀ v, sPut svl Sv.nil d n v = andThen (dWrite svl d (begun n) v) fun d => andThen (dSync d) fun d => andThen (dRename Sv.nil d (begun n) n) dSync from fun v => by unfold sPut; rw [if_neg (by simp [hs])])
    have hcat := cat_begun n
    have hbl : (begun n).length ≤ 21 := by unfold begun; simp; omega
    have hsz : (ByteArray.size ⟨n.toArray⟩) = n.length := by simp [ByteArray.size]
    have hsz1 : (ByteArray.size ⟨#[126]⟩) = 1 := rfl
    generalize hbn : begun n = bn at *
    go_enter Tryz.func61, Tryz.ntmps61
    go_wp2_with fail
    refine HA.out.mono ?_
    rintro e w1 ⟨rfl, hb1⟩
    have hS1 := HS0.out.below hb1
    have hb := hS1.cl
    obtain ⟨p1, p2, p3, -⟩ := hS1.dsk.fits hl (by omega)
    have HR := Lib.hid (Write_any hS1.dsk hf p1 p2 p3 bn (by omega) l (Sl.below hS hb1) hSM hll)
    have HS := Lib.hid hS1
    have HB1 := Lib.hid hb1
    obtain ⟨g0, hgq⟩ : ∃ g0, q.g = g0 := ⟨_, rfl⟩
    rw [hgq] at hb HR
    have HGq := Lib.hid hgq
    clear hgq
    have HT := Lib.hid (fun (d3 : Dk Sv) (w3 : World) (hG : Dgo w1 q d d3 w3) => Dgo.below hb1 hG)
    clear HA hS1 hb1 hS HS0 HB1
    go_wp2_with fail
    refine HR.out.mono ?_
    rintro e w2 ⟨A2, c2, rfl, q2, hg2, hD2, hF2, hM2, hT2⟩
    have HX := Lib.hid (HX0.out ⟨A2, c2, l⟩)
    have hop := Opd.write svl d bn ⟨A2, c2, l⟩
    generalize dWrite svl d bn ⟨A2, c2, l⟩ = r at hop HX hD2 hT2 ⊢
    clear HR HX0 hSM
    obtain ⟨d1, n1⟩ := r
    have hf1 := hf.opd hop
    have hl1 := opd_len hop hl
    dsimp only at hf1 hl1 hD2 hT2 ⊢
    rcases Decidable.em (n1 = 0) with h0 | h0
    rotate_left
    · obtain ⟨ev, hev⟩ := errv_ifc h0
      have HG := Lib.hid (HT.out d1 w2 ⟨q2, hg2, hD2, hF2, hM2, hT2⟩)
      have HE := Lib.hid hev
      have HXX := Lib.hid (HX.out.trans (if_pos h0))
      rw [hev]
      clear hD2 hF2 hM2 hT2 HS hev HX HT
      go_wp2_with fail
      go_ret
      exact ⟨A2, c2, by rw [HXX.out, HE.out]; rfl, by rw [HXX.out]; exact HG.out⟩
    subst h0
    have HX3 := HX.out.trans (if_neg (by simp))
    dsimp only at HX3
    have hS2 := HS.out.act hg2 hD2 hF2 hM2
    have hg3 := hg2.trans HGq.out
    have hb2 := hS2.cl
    rw [hg3] at hb2
    have HT2 := Lib.hid (fun (d3 : Dk Sv) (w3 : World) (hG : Dgo w2 q2 d1 d3 w3) => HT.out _ _ (Dgo.trans hg2 hF2 hM2 hT2 hG))
    rw [show errv 0 = Value.nilIface from rfl]
    clear HS HT HGq hD2 hF2 hM2 hT2 hb HX hf hl hop
    obtain ⟨p1, p2, p3, -⟩ := hS2.dsk.fits hl1 (by omega)
    have HY := Lib.hid (Sync_any hS2.dsk hf1)
    rw [hg3] at HY
    have hop := Opd.sync d1
    generalize hry : dSync d1 = r at hop HX3 HY
    clear hry
    have HS := Lib.hid hS2
    have HT := Lib.hid HT2.out
    have HGq := Lib.hid hg3
    have HX := Lib.hid HX3
    have hb := hb2
    have hf := hf1
    have hl := hl1
    clear hS2 HT2 hg2 hg3 hb2 HX3 p1 p2 p3 hf1 hl1
    go_wp2_with fail
    refine HY.out.mono ?_
    clear HY
    rintro e w2 ⟨rfl, q2, hg2, hD2, hF2, hM2, hT2⟩
    obtain ⟨d1, n1⟩ := r
    have hf1 := hf.opd hop
    have hl1 := opd_len hop hl
    dsimp only at hf1 hl1 hD2 hT2 ⊢
    rcases Decidable.em (n1 = 0) with h0 | h0
    rotate_left
    · obtain ⟨ev, hev⟩ := errv_ifc h0
      have HG := Lib.hid (HT.out d1 w2 ⟨q2, hg2, hD2, hF2, hM2, hT2⟩)
      have HE := Lib.hid hev
      have HXX := Lib.hid (HX.out.trans (if_pos h0))
      rw [hev]
      clear hD2 hF2 hM2 hT2 HS hev HX HT
      go_wp2_with fail
      go_ret
      exact ⟨A2, c2, by rw [HXX.out, HE.out]; rfl, by rw [HXX.out]; exact HG.out⟩
    subst h0
    have HX3 := HX.out.trans (if_neg (by simp))
    dsimp only at HX3
    have hS2 := HS.out.act hg2 hD2 hF2 hM2
    have hg3 := hg2.trans HGq.out
    have hb2 := hS2.cl
    rw [hg3] at hb2
    have HT2 := Lib.hid (fun (d3 : Dk Sv) (w3 : World) (hG : Dgo w2 q2 d1 d3 w3) => HT.out _ _ (Dgo.trans hg2 hF2 hM2 hT2 hG))
    rw [show errv 0 = Value.nilIface from rfl]
    clear HS HT HGq hD2 hF2 hM2 hT2 hb HX hf hl hop
    obtain ⟨p1, p2, p3, -⟩ := hS2.dsk.fits hl1 (by omega)
    have HY := Lib.hid (Rename_any hS2.dsk hf1 p1 p2 bn n (by omega) hn)
    rw [hg3] at HY
    have hop := Opd.rename Sv.nil d1 bn n
    generalize hry : dRename Sv.nil d1 bn n = r at hop HX3 HY
    clear hry
    have HS := Lib.hid hS2
    have HT := Lib.hid HT2.out
    have HGq := Lib.hid hg3
    have HX := Lib.hid HX3
    have hb := hb2
    have hf := hf1
    have hl := hl1
    clear hS2 HT2 hg2 hg3 hb2 HX3 p1 p2 p3 hf1 hl1
    go_wp2_with fail
    refine HY.out.mono ?_
    clear HY
    rintro e w2 ⟨rfl, q2, hg2, hD2, hF2, hM2, hT2⟩
    obtain ⟨d1, n1⟩ := r
    have hf1 := hf.opd hop
    have hl1 := opd_len hop hl
    dsimp only at hf1 hl1 hD2 hT2 ⊢
    rcases Decidable.em (n1 = 0) with h0 | h0
    rotate_left
    · obtain ⟨ev, hev⟩ := errv_ifc h0
      have HG := Lib.hid (HT.out d1 w2 ⟨q2, hg2, hD2, hF2, hM2, hT2⟩)
      have HE := Lib.hid hev
      have HXX := Lib.hid (HX.out.trans (if_pos h0))
      rw [hev]
      clear hD2 hF2 hM2 hT2 HS hev HX HT
      go_wp2_with fail
      go_ret
      exact ⟨A2, c2, by rw [HXX.out, HE.out]; rfl, by rw [HXX.out]; exact HG.out⟩
    subst h0
    have HX3 := HX.out.trans (if_neg (by simp))
    dsimp only at HX3
    have hS2 := HS.out.act hg2 hD2 hF2 hM2
    have hg3 := hg2.trans HGq.out
    have hb2 := hS2.cl
    rw [hg3] at hb2
    have HT2 := Lib.hid (fun (d3 : Dk Sv) (w3 : World) (hG : Dgo w2 q2 d1 d3 w3) => HT.out _ _ (Dgo.trans hg2 hF2 hM2 hT2 hG))
    rw [show errv 0 = Value.nilIface from rfl]
    clear HS HT HGq hD2 hF2 hM2 hT2 hb HX hf hl hop
    obtain ⟨p1, p2, p3, -⟩ := hS2.dsk.fits hl1 (by omega)
    have HY := Lib.hid (Sync_any hS2.dsk hf1)
    rw [hg3] at HY
    clear hg3
    go_wp2_with fail
    refine HY.out.mono ?_
    clear HY
    rintro e w2 ⟨rfl, hG⟩
    have HG := Lib.hid (HT2.out _ _ hG)
    have HX := Lib.hid HX3
    clear hG HT2 HX3
    go_wp2_with fail
    go_ret
    exact ⟨A2, c2, by rw [HX.out]; rfl, by rw [HX.out]; exact HG.out⟩
end Go.Proofs.YtddmfoldnlafaaaGreatDoor

namespace Go.Proofs.YtddmfoldnlafaaaGreatDoor
open Go.RowKit Go.Maps Go.Sort
attribute [local go_sem ↓] Go.wp_at_zero Go.wp_at_succ

set_option maxRecDepth 100000 in
set_option maxHeartbeats 1000000 in
theorem SGet_any {w : World} {gs : Nat} {q : Fp} {d : Dk Sv} (h : StM w gs q d) (n : Bs) (hn : n.length ≤ 100000000) :
    Calls Tryz.prog 64 #[.pointer (some ⟨gs, 0, none⟩), .string ⟨n.toArray⟩] w fun e w' => ∃ A c m, e = .returned (.tuple #[.slice A (List.length m) c, errv (sGet d n).2]) ∧ Hid (m = (((sGet d n).1.map Sv.l).getD [])) ∧ OwnB w' w.heap.size 5 A c m ∧ Below w.heap.size w w' := by
  have HA := Lib.hid (Asks_any gs n w (by omega))
  have HS := Lib.hid h
  clear h
  cases hs : snamed n with
  | false =>
    rw [hs, if_neg (by simp), show errv 2 = Value.iface 79 (.int .i64 2) from rfl] at HA
    have HX := Lib.hid (show sGet d n = (none, 2) from by unfold sGet; rw [if_pos hs])
    go_enter Tryz.func64, Tryz.ntmps64
    go_wp2_with fail
    refine HA.out.mono ?_
    rintro e w1 ⟨rfl, hb1⟩
    go_wp2_with fail
    go_ret2
    exact ⟨none, 0, [], by rw [HX.out]; rfl, (show _ = _ from by rw [HX.out]; rfl), Own.none_ _ _ _ _, hb1⟩
  | true =>
    rw [hs, if_pos rfl, show errv 0 = Value.nilIface from rfl] at HA
    have HX := Lib.hid (show sGet d n = dRead d n from by unfold sGet; rw [if_neg (by simp [hs])])
    go_enter Tryz.func64, Tryz.ntmps64
    go_wp2_with fail
    refine HA.out.mono ?_
    rintro e w1 ⟨rfl, hb1⟩
    have hS1 := HS.out.below hb1
    have hb := hS1.cl
    have HR := Lib.hid (Read_any hS1.dsk n hn)
    have HB1 := Lib.hid hb1
    clear HA HS hS1 hb1
    go_wp2_with fail
    refine HR.out.mono ?_
    rintro e w2 ⟨A2, c2, m2, rfl, hm2, ho2, hb2⟩
    have HM := Lib.hid hm2.out
    clear hm2 HR
    go_wp2_with fail
    go_ret2
    exact ⟨A2, c2, m2, by rw [HX.out]; rfl, (show _ = _ from by rw [HX.out]; exact HM.out), ho2.more HB1.out.size, bel_call HB1.out hb2⟩
/-- what opening gives -/
def OpG (w : World) (q : Fp) (d : Dk Sv) (e : Ending) (w' : World) : Prop :=
  ∃ q', q'.g = q.g ∧ Dsk w' q' (sOpen Sv.nil d).1 ∧ Frd q w w' ∧ (∀ i, q'.M i → q.M i ∨ w.heap.size ≤ i) ∧ (∀ i, Tc q' (sOpen Sv.nil d).1 i → Tc q d i ∨ w.heap.size ≤ i) ∧
    ((sOpen Sv.nil d).2 = 0 ∧ (∃ gs, e = .returned (.tuple #[.pointer (some ⟨gs, 0, none⟩), .nilIface]) ∧ StM w' gs q' (sOpen Sv.nil d).1 ∧ w.heap.size ≤ gs) ∨ (sOpen Sv.nil d).2 ≠ 0 ∧ e = .returned (.tuple #[.pointer none, errv (sOpen Sv.nil d).2]))
theorem OpG.bad {w w' : World} {q : Fp} {d d1 : Dk Sv} {n1 : Nat} (hX : sOpen Sv.nil d = (d1, n1)) (h0 : n1 ≠ 0) (hG : Dgo w q d d1 w') : OpG w q d (.returned (.tuple #[.pointer none, errv n1])) w' := by
  obtain ⟨q', hg, hD, hF, hM, hT⟩ := hG
  refine ⟨q', hg, ?_⟩
  rw [hX]
  exact ⟨hD, hF, hM, hT, .inr ⟨h0, rfl⟩⟩
theorem OpG.good {w w' : World} {q : Fp} {d d1 : Dk Sv} {g0 : Nat} (hX : sOpen Sv.nil d = (d1, 0)) (hg0 : q.g = g0) (hG : Dgo w q d d1 w') : OpG w q d (.returned (.tuple #[.pointer (some ⟨w'.heap.size, 0, none⟩), .nilIface])) (w'.alloc (.cells #[.pointer (some ⟨g0, 0, none⟩)] 122)) := by
  obtain ⟨q', hg, hD, hF, hM, hT⟩ := hG
  have hb := below_new w' (.cells #[.pointer (some ⟨g0, 0, none⟩)] 122)
  refine ⟨q', hg, ?_⟩
  rw [hX]
  refine ⟨hD.below hb, hF.trans (Frd.of_below (q := q') hb) hM, hM, hT, .inl ⟨rfl, w'.heap.size, rfl, ⟨hD.below hb, ?_, fun hq => ?_⟩, hF.size⟩⟩
  · unfold sta
    rw [hg, hg0]
    exact Blk.new _ _ _
  · have := hD.ltM hq
    omega
set_option maxRecDepth 100000 in
set_option maxHeartbeats 1000000 in
theorem SOpen_any {w : World} {q : Fp} {d : Dk Sv} (h : Dsk w q d) (hf : Fok d) (hl : d.sure.length + d.pend.length ≤ 400) :
    Calls Tryz.prog 9 #[.pointer (some ⟨q.g, 0, none⟩)] w fun e w' => OpG w q d e w' := by
  obtain ⟨p1, p2, p3, -⟩ := h.fits hl (by omega)
  have HL := Lib.hid (DList_any h p2)
  have hsh : d.shown.length ≤ 400 := by have := flen_dos d.sure d.pend; unfold Dk.shown; omega
  have HD := Lib.hid h
  have HF := Lib.hid hf
  obtain ⟨g0, hgq⟩ : ∃ g0, q.g = g0 := ⟨_, rfl⟩
  have HGq := Lib.hid hgq
  rw [hgq] at HL ⊢
  clear h hf hgq
  cases hd : d.down with
  | true =>
    rw [hd, if_pos rfl, if_pos rfl, show errv 14 = Value.iface 79 (.int .i64 14) from rfl] at HL
    have HX := Lib.hid (show sOpen Sv.nil d = (d, 14) from by unfold sOpen; rw [if_pos hd])
    go_enter Tryz.func9, Tryz.ntmps9
    go_wp2_with fail
    refine HL.out.mono ?_
    rintro e w1 ⟨A, c, m, rfl, hm, ho, hb⟩
    have HG := Lib.hid (OpG.bad HX.out (by decide) (Dgo.still HD.out hb))
    clear HL hm ho hb
    go_wp2_with fail
    go_ret2
    exact HG.out
  | false =>
    rw [hd, if_neg (by simp), if_neg (by simp), show errv 0 = Value.nilIface from rfl] at HL
    have HX := Lib.hid (show sOpen Sv.nil d = if (sSweep Sv.nil (names d.shown) d false).2.1 ≠ 0 then ((sSweep Sv.nil (names d.shown) d false).1, (sSweep Sv.nil (names d.shown) d false).2.1) else if (sSweep Sv.nil (names d.shown) d false).2.2 = true then dSync (sSweep Sv.nil (names d.shown) d false).1 else ((sSweep Sv.nil (names d.shown) d false).1, 0) from by unfold sOpen; rw [if_neg (by simp [hd])])
    go_enter Tryz.func9, Tryz.ntmps9
    go_wp2_with fail
    refine HL.out.mono ?_
    rintro e w1 ⟨A, c, m, rfl, hm, ho, hb⟩
    have hml : m.length ≤ 400 := by rw [hm.out]; unfold names; rw [List.length_map]; exact hsh
    have HT := Lib.hid (TxH.of HD.out ho)
    have HN := Lib.hid (show ∀ x ∈ m, x.length ≤ 24 from by
      rw [hm.out]
      intro x hx
      obtain ⟨p, hp, rfl⟩ := List.mem_map.1 hx
      exact (HD.out.shown_mem p hp).1)
    rw [← hm.out] at HX
    have HG := Lib.hid (Dgo.still HD.out hb)
    clear HL hm ho
    go_wp2_with fail
    go_loopw [24, 6] (fun x y wr => ∃ (i : Nat) (d1 : Dk Sv) (sw : Bool) (q1 : Fp), i ≤ m.length ∧ x = .int .i64 i ∧ y = .bool sw ∧ q1.g = g0 ∧ Dsk wr q1 d1 ∧ Fok d1 ∧ d1.sure.length + d1.pend.length ≤ 400 + i ∧ TxH q1 wr A c m ∧ Hid (sSweep Sv.nil m d false = sSweep Sv.nil (m.drop i) d1 sw) ∧ Hid (∀ d3 w3, Dgo wr q1 d1 d3 w3 → Dgo w q d d3 w3)) (fun x _ w => m.length - (intOf x).toNat)
    case atStart => exact ⟨0, d, false, q, Nat.zero_le _, rfl, rfl, HGq.out, HD.out.below hb, HF.out, hl, HT.out, Lib.hid rfl, Lib.hid (fun d3 w3 hg => Dgo.below hb hg)⟩
    case round =>
      clear HT HG
      obtain ⟨i, d1, sw, q1, hi, rfl, rfl, hg1, hD1, hf1, hl1, hT1, hsw, hDt⟩ := hrel
      by_cases hlt : i < m.length
      · have hI : (i : Int) < (m.length : Int) := by omega
        obtain ⟨ad, b, o, hA, had, hc⟩ := SlT.at1 hT1.1 hlt
        have hxn := HN.out _ (List.getElem_mem hlt)
        have hdr : m.drop i = m[i] :: m.drop (i + 1) := List.drop_eq_getElem_cons hlt
        have HP := Lib.hid (fun W => Tryz.strings_HasPrefix ⟨m[i].toArray⟩ ⟨#[126]⟩ W)
        obtain ⟨p1, p2, p3, -⟩ := hD1.fits (k := 800) (by omega) (by omega)
        have HR := Lib.hid (Remove_any hD1 hf1 p1 p2 m[i] (by omega))
        rw [hg1] at HR
        have HS := Lib.hid (hsw.out.trans (by rw [hdr]; rfl : sSweep Sv.nil (m.drop i) d1 sw = if isBegun m[i] = true then (if (dRemove Sv.nil d1 m[i]).2 ≠ 0 then ((dRemove Sv.nil d1 m[i]).1, (dRemove Sv.nil d1 m[i]).2, sw) else sSweep Sv.nil (m.drop (i + 1)) (dRemove Sv.nil d1 m[i]).1 true) else sSweep Sv.nil (m.drop (i + 1)) d1 sw))
        have hib : Lib.hasPrefix m[i] [126] = isBegun m[i] := rfl
        clear hsw hdr
        generalize m[i] = x at *
        have hpx : ∀ W : World, Calls Tryz.prog 47 #[.string ⟨x.toArray⟩, .string ⟨#[126]⟩] W fun e w' => e = .returned (.bool (isBegun x)) ∧ w' = W := fun W => HP.out W
        have HP2 := Lib.hid hpx
        subst hA
        clear HP hpx hib
        have HD1 := Lib.hid hD1
        have HT1 := Lib.hid hT1
        have HF1 := Lib.hid hf1
        have Hg1 := Lib.hid hg1
        clear hD1 hT1 hf1 hg1
        go_wp2_with fail
        refine (HP2.out _).mono ?_
        rintro e w5 ⟨rfl, rfl⟩
        cases hbg : isBegun x with
        | false =>
          rw [hbg, if_neg (by simp)] at HS
          go_wp2_with fail
          go_roundw
          case rel => exact ⟨i + 1, d1, sw, q1, hlt, by go_num, rfl, Hg1.out, HD1.out, HF1.out, by omega, HT1.out, HS, hDt⟩
          case measure => simp [intOf]; omega
        | true =>
          rw [hbg, if_pos rfl] at HS
          have hop := Opd.remove Sv.nil d1 x
          generalize dRemove Sv.nil d1 x = r at *
          obtain ⟨d2, n2⟩ := r
          have hf2 := HF1.out.opd hop
          have hl2 := opd_len hop hl1
          dsimp only at hf2 hl2 HS
          go_wp2_with fail
          refine HR.out.mono ?_
          rintro e w6 ⟨rfl, q2, hg2, hD2, hF2, hM2, hT2⟩
          dsimp only at hD2 hT2 ⊢
          rcases Decidable.em (n2 = 0) with h0 | h0
          · subst h0
            rw [if_neg (by simp)] at HS
            have HT2 := Lib.hid (HT1.out.act hF2 hM2)
            have HDt := Lib.hid (fun (d3 : Dk Sv) (w3 : World) (hG : Dgo w6 q2 d2 d3 w3) => hDt.out _ _ (Dgo.trans hg2 hF2 hM2 hT2 hG))
            have HF2 := Lib.hid hf2
            have Hg2 := Lib.hid (hg2.trans Hg1.out)
            have HD2 := Lib.hid hD2
            rw [show errv 0 = Value.nilIface from rfl]
            clear HR hD2 hF2 hM2 hT2 hg2 hf2 HT1 hDt HD1
            go_wp2_with fail
            go_roundw
            case rel => exact ⟨i + 1, d2, true, q2, hlt, by go_num, rfl, Hg2.out, HD2.out, HF2.out, by omega, HT2.out, HS, HDt⟩
            case measure => simp [intOf]; omega
          · obtain ⟨ev, hev⟩ := errv_ifc h0
            rw [if_pos h0] at HS
            have HXX := Lib.hid (show sOpen Sv.nil d = (d2, n2) from by rw [HX.out, HS.out]; dsimp only; rw [if_pos h0])
            have HGo := Lib.hid (OpG.bad HXX.out h0 (hDt.out d2 w6 ⟨q2, hg2, hD2, hF2, hM2, hT2⟩))
            rw [hev] at HGo ⊢
            clear HR hD2 hF2 hM2 hT2 hg2 hf2 HT1 hDt HD1 hev
            go_wp2_with fail
            go_ret2
            exact HGo.out
      · have hI : (m.length : Int) ≤ (i : Int) := by omega
        have hdr : m.drop i = [] := List.drop_of_length_le (by omega)
        have HS := Lib.hid (show sSweep Sv.nil m d false = (d1, 0, sw) from by rw [hsw.out, hdr]; rfl)
        clear hsw hdr
        cases sw with
        | false =>
          have HXX := Lib.hid (show sOpen Sv.nil d = (d1, 0) from by rw [HX.out, HS.out]; rfl)
          have HGo := Lib.hid (OpG.good HXX.out HGq.out (hDt.out d1 wr (Dgo.of hD1 (Frd.of_below (Below.refl _ _)) rfl rfl)))
          clear hD1 hT1 hDt
          go_wp2_with fail
          go_ret2
          exact HGo.out
        | true =>
          have HXX := Lib.hid (show sOpen Sv.nil d = dSync d1 from by rw [HX.out, HS.out]; rfl)
          have HY := Lib.hid (Sync_any hD1 hf1)
          rw [hg1] at HY
          generalize dSync d1 = r at *
          obtain ⟨d2, n2⟩ := r
          clear hT1 hD1 hg1
          go_wp2_with fail
          refine HY.out.mono ?_
          rintro e w6 ⟨rfl, hG⟩
          dsimp only at hG ⊢
          rcases Decidable.em (n2 = 0) with h0 | h0
          · subst h0
            have HGo := Lib.hid (OpG.good HXX.out HGq.out (hDt.out _ _ hG))
            rw [show errv 0 = Value.nilIface from rfl]
            clear hG hDt HY
            go_wp2_with fail
            go_ret2
            exact HGo.out
          · obtain ⟨ev, hev⟩ := errv_ifc h0
            have HGo := Lib.hid (OpG.bad HXX.out h0 (hDt.out _ _ hG))
            rw [hev] at HGo ⊢
            clear hG hDt HY hev
            go_wp2_with fail
            go_ret2
            exact HGo.out
end Go.Proofs.YtddmfoldnlafaaaGreatDoor

namespace Go.Proofs.YtddmfoldnlafaaaGreatDoor
open Go.RowKit Go.Maps Go.Sort
attribute [local go_sem ↓] Go.wp_at_zero Go.wp_at_succ

theorem Fok.dk0 (r : Int) : Fok (dk0 r) := ⟨by show -1 ≤ (-1 : Int); omega, by show (-1 : Int) ≤ 9223372036854775807; omega⟩
/-- opened without an error -/
theorem OpG.ok {w w' : World} {q : Fp} {d d1 : Dk Sv} {e : Ending} (h : OpG w q d e w') (hX : sOpen Sv.nil d = (d1, 0)) : ∃ q' gs, e = .returned (.tuple #[.pointer (some ⟨gs, 0, none⟩), .nilIface]) ∧ q'.g = q.g ∧ Frd q w w' ∧ (∀ i, q'.M i → q.M i ∨ w.heap.size ≤ i) ∧ StM w' gs q' d1 ∧ w.heap.size ≤ gs := by
  obtain ⟨q', hg, hD, hF, hM, hT, h0⟩ := h
  rw [hX] at h0 hD
  rcases h0 with ⟨-, gs, he, hS, hgs⟩ | ⟨h0, -⟩
  · exact ⟨q', gs, he, hg, hF, hM, hS, hgs⟩
  · exact absurd rfl h0
theorem aS (A : Option Addr) (c : Nat) : (sPut svl Sv.nil (dk0 100) [97] ⟨A, c, [120]⟩) = (⟨100, [([97], ⟨A, c, [120]⟩)], [], -1, false⟩, 0) := by kernel_rfl
end Go.Proofs.YtddmfoldnlafaaaGreatDoor

namespace Go.Proofs.YtddmfoldnlafaaaGreatDoor
open Go.RowKit Go.Maps Go.Sort
attribute [local go_sem ↓] Go.wp_at_zero Go.wp_at_succ

section
variable {β : Type}
def datF (f : β → Value) (l : List (Bs × β)) : DataW Value := .map (l.map fun p => (.string p.1, .held (f p.2)))
theorem datF_put (f : β → Value) (k : Bs) (s : β) (l : List (Bs × β)) : (datF f l).put (.string k) (.held (f s)) = datF f (gput k s l) := by
  unfold datF gput gdel
  rw [DataW.put_eq]
  unfold ChangeMaps.putKey
  congr 1
  rw [List.filter_map]
  have hf : (ChangeMaps.notKey (Lit.string k) ∘ fun p : Bs × β => ((Lit.string p.1, DataW.held (f p.2)) : Lit × DataW Value)) = fun p => !(p.1 == k) := rfl
  rw [hf]
  generalize List.filter (fun p : Bs × β => !(p.1 == k)) l = r
  induction r with
  | nil => rfl
  | cons y r ih =>
    show (if (Lit.string k).before (.string y.1) = true then _ else _) = List.map _ (if bytesBefore k y.1 = true then _ else _)
    rw [show (Lit.string k).before (.string y.1) = bytesBefore k y.1 from rfl]
    split
    · rfl
    · rw [List.map_cons, ← ih]
theorem datF_at (f : β → Value) (k : Bs) (l : List (Bs × β)) (z : Value) : (datF f l).atKey (.string k) (.held z) = .held (((gget k l).map f).getD z) := by
  unfold datF gget DataW.atKey
  dsimp only
  rw [List.find?_map]
  have hf : ((fun p : Lit × DataW Value => p.1.sameKey (Lit.string k)) ∘ fun p : Bs × β => ((Lit.string p.1, DataW.held (f p.2)) : Lit × DataW Value)) = fun p => p.1 == k := rfl
  rw [hf]
  cases l.find? (fun p => p.1 == k) <;> rfl
theorem datF_has (f : β → Value) (k : Bs) (l : List (Bs × β)) : Maps.has (datF f l) (.string k) = (gget k l).isSome := by
  unfold datF gget
  rw [Maps.has_eq]
  induction l with
  | nil => rfl
  | cons y r ih =>
    rw [List.map_cons, List.any_cons, List.find?_cons]
    show (y.1 == k || _) = _
    cases hy : y.1 == k
    · rw [Bool.false_or]; exact ih
    · rfl
theorem datF_at_mem {f : β → Value} {k : Bs} {l : List (Bs × β)} {y : DataW Value} (h : ∀ zd, (datF f l).atKey (.string k) zd = y) : ∃ s, (k, s) ∈ l ∧ y = .held (f s) := by
  cases hg : gget k l with
  | none =>
    have hz : ∀ zd, (datF f l).atKey (.string k) zd = zd := fun zd => by
      unfold datF DataW.atKey
      dsimp only
      rw [List.find?_map]
      have hf : ((fun p : Lit × DataW Value => p.1.sameKey (Lit.string k)) ∘ fun p : Bs × β => ((Lit.string p.1, DataW.held (f p.2)) : Lit × DataW Value)) = fun p => p.1 == k := rfl
      rw [hf]
      unfold gget at hg
      rw [Option.map_eq_none_iff] at hg
      rw [hg]
      rfl
    have h1 := h .nil
    have h2 := h (.agg [])
    rw [hz] at h1 h2
    rw [← h1] at h2
    cases h2
  | some s =>
    refine ⟨s, gget_mem hg, ?_⟩
    rw [← h (.held (.slice none 0 0)), datF_at, hg]
    rfl
/-- block b is a map that holds l, its elements as f lays them -/
def OmF (f : β → Value) (P : Program) (K : TypeId) (w : World) (b : Nat) (l : List (Bs × β)) : Prop := w.ownsMap P K tok b l.length (datF f l)
variable {f : β → Value} {P : Program} {K T E : TypeId} {w w' : World} {b n : Nat} {l : List (Bs × β)}
theorem OmF.of (h : w.ownsMap P K tok b n (datF f l)) : OmF f P K w b l := by
  obtain ⟨es, clock, hb, F, _, hD⟩ := h
  refine ⟨es, clock, hb, F, ?_, hD⟩
  have h1 : (datF f l) = .map (l.map fun p => (.string p.1, .held (f p.2))) := rfl
  rw [h1] at hD
  injection hD with hD
  have h2 := congrArg List.length hD
  rw [length_sorted] at h2
  simp at h2
  omega
theorem OmF.lt (h : OmF f P K w b l) : b < w.heap.size := World.ownsMap.lt h
theorem OmF.same (h : OmF f P K w b l) (e : w'.heap[b]? = w.heap[b]?) : OmF f P K w' b l := by
  obtain ⟨es, clock, hb, r⟩ := h
  exact ⟨es, clock, e.trans hb, r⟩
theorem OmF.below (h : OmF f P K w b l) (hb : Below w.heap.size w w') : OmF f P K w' b l := h.same (hb.block b h.lt)
theorem OmF.new (w : World) : OmF f P K (w.alloc (.map #[] 0)) w.heap.size [] := World.ownsMap_made w P K tok
theorem OmF.look (h : OmF f P K w b l) (hK : P.underlying K = some .string) (hT : P.underlying T = some (.map K E)) {z : Value} (hz : (zeroValue E).run P w = .ok z w) {k : Bs} (hk : k.length ≤ maxLen) :
    (Instr.lookup T (.map (some b)) (.string ⟨k.toArray⟩) true).run P w = .ok (.tuple #[((gget k l).map f).getD z, .bool (gget k l).isSome]) w := by
  obtain ⟨v, ps, hrun, hv⟩ := World.ownsMap.look_ok h (string_keyed hK) hT hz (zd := .held z) (zp := []) rfl (key := .string ⟨k.toArray⟩) (kl := .string k) (key_str hK hk)
  rw [datF_at, datF_has] at *
  unfold tok at hv
  injection hv with hv
  injection hv with hv
  injection hv with hv
  subst hv
  exact hrun
theorem OmF.look1 (h : OmF f P K w b l) (hK : P.underlying K = some .string) (hT : P.underlying T = some (.map K E)) {z : Value} (hz : (zeroValue E).run P w = .ok z w) {k : Bs} (hk : k.length ≤ maxLen) :
    (Instr.lookup T (.map (some b)) (.string ⟨k.toArray⟩) false).run P w = .ok (((gget k l).map f).getD z) w := by
  obtain ⟨v, ps, hrun, hv⟩ := World.ownsMap.lookup h (string_keyed hK) hT hz (zd := .held z) (zp := []) rfl (key := .string ⟨k.toArray⟩) (kl := .string k) (key_str hK hk)
  rw [datF_at] at hv
  unfold tok at hv
  injection hv with hv
  injection hv with hv
  injection hv with hv
  subst hv
  exact hrun
theorem OmF.store (h : OmF f P K w b l) (hK : P.underlying K = some .string) (hT : P.underlying T = some (.map K E)) (hn : l.length < maxLen) {k : Bs} (hk : k.length ≤ maxLen) (s : β) :
    ∃ w', (Instr.mapUpdate T (.map (some b)) (.string ⟨k.toArray⟩) (f s)).run P w = .ok () w' ∧ OmF f P K w' b (gput k s l) ∧ w.grownBy w' (some b) := by
  obtain ⟨w', hrun, h1, h2⟩ := World.ownsMap.store h (string_keyed hK) hT hn (key := .string ⟨k.toArray⟩) (val := f s) (kl := .string k) (d := .held (f s)) (ps := []) (key_str hK hk) rfl
  rw [datF_put] at h1
  exact ⟨w', hrun, OmF.of h1, h2.grown⟩
variable {ops : Array Oper} {rest : List Oper} {o : Oper} {a : Act} {Q : Exit → Act → World → Prop}
theorem wpl_putF (hg : o.guard = none) (m x v : Operand) (hop : o.op = Op.mapUpdate T m x v) (hK : P.underlying K = some .string) (hT : P.underlying T = some (.map K E)) (b : Nat) (l : List (Bs × β)) (hm : a.eval m = .map (some b)) (h : OmF f P K w b l) (hn : l.length < maxLen)
    (k : Bs) (hk : k.length ≤ maxLen) (hx : a.eval x = .string ⟨k.toArray⟩) (s : β) (hv : a.eval v = f s) (hC : ∀ w', OmF f P K w' b (gput k s l) → w.grownBy w' (some b) → wpList P ops Q rest (a.put o.dst undef) w') : wpList P ops Q (o :: rest) a w := by
  refine wpList_plain hg fun K' hK' => ?_
  obtain ⟨w', hrun, r1, r2⟩ := h.store hK hT hn hk s
  unfold Oper.wp
  simp [execOp, hop, hm, hx, hv, hrun, Result.andThen]
  exact hK' _ _ (hC w' r1 r2)
theorem step_putF {K' : Act → World → Prop} {X : Prop} (hw : Region.wanted o (yielded ops a.tmps) = true) (m x v : Operand) (hop : o.op = Op.mapUpdate T m x v) (hK : P.underlying K = some .string) (hT : P.underlying T = some (.map K E)) (b : Nat) (l : List (Bs × β)) (hm : a.eval m = .map (some b)) (h : OmF f P K w b l) (hn : l.length < maxLen)
    (k : Bs) (hk : k.length ≤ maxLen) (hx : a.eval x = .string ⟨k.toArray⟩) (s : β) (hv : a.eval v = f s) (hC : ∀ w', OmF f P K w' b (gput k s l) → w.grownBy w' (some b) → K' (a.put o.dst undef) w') :
    if Region.wanted o (yielded ops a.tmps) = true then Oper.wp P o a w K' Q else X := by
  rw [if_pos hw]
  obtain ⟨w', hrun, r1, r2⟩ := h.store hK hT hn hk s
  unfold Oper.wp
  simp [execOp, hop, hm, hx, hv, hrun, Result.andThen]
  exact hC w' r1 r2
end
end Go.Proofs.YtddmfoldnlafaaaGreatDoor
