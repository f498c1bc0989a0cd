/- WHAT IT HOLDS: a store in memory; which texts are objects' names; what is asked for; objects put, read, deleted: walked. -/
import Derived.Test.YtabkeaammiellaaDoorStoreWholeG15
import Derived.Test.YtabkeaammiellaaDoorStoreWholeG17
import Derived.Test.YtabkeaammiellaaDoorShelfB
import Derived.Laws.Concat
namespace Go.Proofs.YtabkeaammiellaaDoor
open Go.RowKit Go.Maps Go.Sort
attribute [local go_sem ↓] Go.wp_at_zero Go.wp_at_succ

theorem index_has (l : Bs) : decide (0 ≤ Lib.indexByte l 126) = decide (126 ∈ l) := by
  refine decide_eq_decide.2 ?_
  induction l with
  | nil => simp [Lib.indexByte]
  | cons b r ih =>
    have hge := Lib.indexByte_ge r 126
    unfold Lib.indexByte
    by_cases hb : b = 126
    · subst hb
      simp
    · rw [if_neg (by simpa using hb)]
      have hne : ¬ (126 : UInt8) = b := fun e => hb e.symm
      by_cases hm : Lib.indexByte r 126 = -1
      · rw [if_pos (by simp [hm])]
        rw [hm] at ih
        simp only [List.mem_cons, hne, false_or]
        rw [← ih]
      · rw [if_neg (by simpa using hm)]
        simp only [List.mem_cons, hne, false_or]
        rw [← ih]
        omega
set_option maxRecDepth 100000 in
set_option maxHeartbeats 1000000 in
theorem SNamed_any (s : Bs) (w : World) (hl : s.length ≤ 9223372036854775807) : Calls Tryd.prog 57 #[.string ⟨s.toArray⟩] w fun e w' => e = .returned (.bool (snamed s)) ∧ Below w.heap.size w w' := by
  have hsz : (ByteArray.size ⟨s.toArray⟩) = s.length := by simp [ByteArray.size]
  have HC := Lib.hid (fun W => Tryd.strings_Contains_one ⟨s.toArray⟩ 126 W)
  rcases Nat.lt_or_ge 20 s.length with h | h
  · have hI : (20 : Int) < (s.length : Int) := by omega
    have HN := Lib.hid (show snamed s = false from by unfold snamed; rw [decide_eq_false (by omega)]; rfl)
    go_enter Tryd.func57, Tryd.ntmps57
    go_wp2_with fail
    go_ret
    exact ⟨by rw [HN.out]; rfl, Below.refl _ _⟩
  have hI : (s.length : Int) ≤ 20 := by omega
  have hd : decide (s.length ≤ 20) = true := decide_eq_true (by omega)
  go_enter Tryd.func57, Tryd.ntmps57
  go_wp2_with fail
  refine (Named_any s w hl).mono ?_
  rintro e w1 ⟨rfl, hb⟩
  cases hn : named s with
  | false =>
    have HN := Lib.hid (show snamed s = false from by unfold snamed; rw [hd, hn]; rfl)
    go_wp2_with fail
    go_ret
    exact ⟨by rw [HN.out]; rfl, hb⟩
  | true =>
    have HN := Lib.hid (show snamed s = !decide (126 ∈ s) from by unfold snamed; rw [hd, hn]; simp)
    go_wp2_with fail
    refine (HC.out _).mono ?_
    rintro e w2 ⟨rfl, rfl⟩
    rw [index_has]
    go_wp2_with fail
    go_ret
    exact ⟨by rw [HN.out]; rfl, hb⟩
theorem errv_ifc {n : Nat} (h : n ≠ 0) : ∃ v, errv n = .iface 64 v := by
  match n, h with
  | k + 1, _ => exact ⟨_, rfl⟩
/-- a store in memory -/
abbrev sta (q : Fp) : Array Value := #[.pointer (some ⟨q.g, 0, none⟩)]
set_option maxRecDepth 100000 in
set_option maxHeartbeats 1000000 in
theorem Asks_any (g : Nat) (s : Bs) (w : World) (hl : s.length ≤ 9223372036854775807) : Calls Tryd.prog 56 #[.pointer (some ⟨g, 0, none⟩), .string ⟨s.toArray⟩] w fun e w' => e = .returned (errv (if snamed s = true then 0 else 2)) ∧ Below w.heap.size w w' := by
  have HN := Lib.hid (fun W => SNamed_any s W hl)
  cases hn : snamed s with
  | false =>
    rw [hn] at HN
    go_enter Tryd.func56, Tryd.ntmps56
    go_wp2_with fail
    refine (HN.out _).mono ?_
    rintro e w1 ⟨rfl, hb⟩
    go_wp2_with fail
    go_ret
    exact ⟨rfl, hb⟩
  | true =>
    rw [hn] at HN
    go_enter Tryd.func56, Tryd.ntmps56
    go_wp2_with fail
    refine (HN.out _).mono ?_
    rintro e w1 ⟨rfl, hb⟩
    go_wp2_with fail
    go_ret
    exact ⟨rfl, hb⟩
theorem Dgo.trans {w w1 w2 : World} {q q1 : Fp} {d d1 d2 : Dk Sv} (hg : q1.g = q.g) (hF : Frd q w w1) (hM : ∀ i, q1.M i → q.M i ∨ w.heap.size ≤ i) (hT : ∀ i, Tc q1 d1 i → Tc q d i ∨ w.heap.size ≤ i) (h : Dgo w1 q1 d1 d2 w2) : Dgo w q d d2 w2 := by
  obtain ⟨q2, hg2, hD, hF2, hM2, hT2⟩ := h
  have hs := hF.size
  refine ⟨q2, hg2.trans hg, hD, hF.trans hF2 hM, fun i hi => ?_, fun i hi => ?_⟩
  · rcases hM2 i hi with h1 | h1
    · exact hM i h1
    · exact .inr (by omega)
  · rcases hT2 i hi with h1 | h1
    · exact hT i h1
    · exact .inr (by omega)
theorem Dgo.below {w w1 w2 : World} {q : Fp} {d d2 : Dk Sv} (hb : Below w.heap.size w w1) (h : Dgo w1 q d d2 w2) : Dgo w q d d2 w2 :=
  Dgo.trans rfl (Frd.of_below hb) (fun _ hi => .inl hi) (fun _ hi => .inl hi) h
theorem Dgo.still {w w1 : World} {q : Fp} {d : Dk Sv} (h : Dsk w q d) (hb : Below w.heap.size w w1) : Dgo w q d d w1 := Dgo.of (h.below hb) (Frd.of_below hb) rfl rfl
/-- a store and its disk in memory -/
structure StM (w : World) (gs : Nat) (q : Fp) (d : Dk Sv) : Prop where
  dsk : Dsk w q d
  blk : Blk w gs 105 (sta q)
  ap : ¬ q.M gs
theorem StM.below {w w' : World} {gs : Nat} {q : Fp} {d : Dk Sv} (h : StM w gs q d) (hb : Below w.heap.size w w') : StM w' gs q d := ⟨h.dsk.below hb, h.blk.below hb, h.ap⟩
theorem StM.cl {w : World} {gs : Nat} {q : Fp} {d : Dk Sv} (h : StM w gs q d) : w.cell? ⟨gs, 0, none⟩ = some (.pointer (some ⟨q.g, 0, none⟩)) := h.blk.cell 0
theorem StM.act {w w' : World} {gs : Nat} {q q' : Fp} {d d' : Dk Sv} (h : StM w gs q d) (hg : q'.g = q.g) (hD : Dsk w' q' d') (hF : Frd q w w') (hM : ∀ i, q'.M i → q.M i ∨ w.heap.size ≤ i) : StM w' gs q' d' :=
  ⟨hD, by unfold sta; rw [hg]; exact (hF.block gs h.blk.lt h.ap).trans h.blk, fun hq => by
    rcases hM gs hq with h1 | h1
    · exact h.ap h1
    · have := h.blk.lt
      omega⟩
set_option maxRecDepth 100000 in
set_option maxHeartbeats 1000000 in
theorem SDelete_any {w : World} {gs : Nat} {q : Fp} {d : Dk Sv} (h : StM w gs q d) (hf : Fok d) (hl : d.sure.length + d.pend.length ≤ 1000) (n : Bs) (hn : n.length ≤ 100000000) :
    Calls Tryd.prog 33 #[.pointer (some ⟨gs, 0, none⟩), .string ⟨n.toArray⟩] w fun e w' => e = .returned (errv (sDelete Sv.nil d n).2) ∧ Dgo w q d (sDelete Sv.nil d n).1 w' := by
  have HA := Lib.hid (Asks_any gs n w (by omega))
  have HS := Lib.hid h
  clear h
  cases hs : snamed n with
  | false =>
    rw [hs, if_neg (by simp), show errv 2 = Value.iface 64 (.int .i64 2) from rfl] at HA
    have HX := Lib.hid (show sDelete Sv.nil d n = (d, 2) from by unfold sDelete; rw [if_pos hs])
    go_enter Tryd.func33, Tryd.ntmps33
    go_wp2_with fail
    refine HA.out.mono ?_
    rintro e w1 ⟨rfl, hb1⟩
    have HG := Lib.hid (Dgo.still HS.out.dsk hb1)
    go_wp2_with fail
    go_ret
    exact ⟨by rw [HX.out]; rfl, by rw [HX.out]; exact HG.out⟩
  | true =>
    rw [hs, if_pos rfl, show errv 0 = Value.nilIface from rfl] at HA
    have HX := Lib.hid (show sDelete Sv.nil d n = andThen (dRemove Sv.nil d n) dSync from by unfold sDelete; rw [if_neg (by simp [hs])])
    go_enter Tryd.func33, Tryd.ntmps33
    go_wp2_with fail
    refine HA.out.mono ?_
    rintro e w1 ⟨rfl, hb1⟩
    have hS1 := HS.out.below hb1
    have hb := hS1.cl
    obtain ⟨p1, p2, p3, -⟩ := hS1.dsk.fits hl (by omega)
    have HR := Lib.hid (Remove_any hS1.dsk hf p1 p2 n hn)
    have hop := Opd.remove Sv.nil d n
    generalize dRemove Sv.nil d n = r at *
    obtain ⟨d1, n1⟩ := r
    have hf1 := hf.opd hop
    have hl1 := opd_len hop hl
    dsimp only at hf1 hl1
    have HS1 := Lib.hid hS1
    have HB1 := Lib.hid hb1
    clear HA HS hS1 hb1 hop
    go_wp2_with fail
    refine HR.out.mono ?_
    rintro e w2 ⟨rfl, q2, hg2, hD2, hF2, hM2, hT2⟩
    dsimp only at hD2 hT2 ⊢
    rcases Decidable.em (n1 = 0) with h0 | h0
    · subst h0
      have hS2 := HS1.out.act hg2 hD2 hF2 hM2
      have hb2 := hS2.cl
      have HY := Lib.hid (Sync_any hD2 hf1)
      rw [hg2] at hb2 HY
      have HX2 := Lib.hid (show andThen (d1, 0) dSync = dSync d1 from rfl)
      have HT := Lib.hid (fun (d3 : Dk Sv) (w3 : World) (hG : Dgo w2 q2 d1 d3 w3) => Dgo.below HB1.out (Dgo.trans hg2 hF2 hM2 hT2 hG))
      rw [show errv 0 = Value.nilIface from rfl]
      clear HR hb hD2 hF2 hM2 hT2 hS2 HS1
      go_wp2_with fail
      refine HY.out.mono ?_
      rintro e w3 ⟨rfl, hG⟩
      have HG := Lib.hid (HT.out _ _ hG)
      clear HT HY hG
      go_wp2_with fail
      go_ret
      exact ⟨by rw [HX.out, HX2.out]; rfl, by rw [HX.out, HX2.out]; exact HG.out⟩
    · obtain ⟨ev, hev⟩ := errv_ifc h0
      have HX2 := Lib.hid (show andThen (d1, n1) dSync = (d1, n1) from if_pos h0)
      have HG := Lib.hid (Dgo.below HB1.out ⟨q2, hg2, hD2, hF2, hM2, hT2⟩)
      have HE := Lib.hid hev
      rw [hev]
      clear HR hb hD2 hF2 hM2 hT2 HS1 hev
      go_wp2_with fail
      go_ret
      exact ⟨by rw [HX.out, HX2.out, HE.out]; rfl, by rw [HX.out, HX2.out]; exact HG.out⟩
theorem cat_begun (n : Bs) : (⟨#[126]⟩ : ByteArray) ++ ⟨n.toArray⟩ = ⟨(begun n).toArray⟩ := by
  apply ByteArray.ext
  simp [begun]
theorem snamed_len {n : Bs} (h : snamed n = true) : n.length ≤ 20 := by
  unfold snamed at h
  simp only [Bool.and_eq_true, decide_eq_true_eq] at h
  exact h.1.1
set_option maxRecDepth 100000 in
set_option maxHeartbeats 1000000 in
theorem SPut_any {w : World} {gs : Nat} {q : Fp} {d : Dk Sv} (h : StM w gs q d) (hf : Fok d) (hl : d.sure.length + d.pend.length ≤ 900) (n : Bs) (hn : n.length ≤ 100000000) {A : Option Addr} {c : Nat} (l : Bs) (hS : SlB w A c l) (hSM : l ≠ [] → ∀ ad, A = some ad → ad.block ≠ q.g) (hll : l.length ≤ 100000000) :
    Calls Tryd.prog 34 #[.pointer (some ⟨gs, 0, none⟩), .string ⟨n.toArray⟩, .slice A l.length c] w fun e w' => ∃ A' c', e = .returned (errv (sPut svl Sv.nil d n ⟨A', c', l⟩).2) ∧ Dgo w q d (sPut svl Sv.nil d n ⟨A', c', l⟩).1 w' := by
  have HA := Lib.hid (Asks_any gs n w (by omega))
  have HS0 := Lib.hid h
  clear h
  cases hs : snamed n with
  | false =>
    rw [hs, if_neg (by simp), show errv 2 = Value.iface 64 (.int .i64 2) from rfl] at HA
    have HX := Lib.hid (show ∀ v, sPut svl Sv.nil d n v = (d, 2) from fun v => by unfold sPut; rw [if_pos hs])
    go_enter Tryd.func34, Tryd.ntmps34
    go_wp2_with fail
    refine HA.out.mono ?_
    rintro e w1 ⟨rfl, hb1⟩
    have HG := Lib.hid (Dgo.still HS0.out.dsk hb1)
    go_wp2_with fail
    go_ret
    exact ⟨none, 0, by rw [HX.out]; rfl, by rw [HX.out]; exact HG.out⟩
  | true =>
    have hnl := snamed_len hs
    rw [hs, if_pos rfl, show errv 0 = Value.nilIface from rfl] at HA
    have HX0 := Lib.hid (show ∀ v, sPut svl Sv.nil d n v = andThen (dWrite svl d (begun n) v) fun d => andThen (dSync d) fun d => andThen (dRename Sv.nil d (begun n) n) dSync from fun v => by unfold sPut; rw [if_neg (by simp [hs])])
    have hcat := cat_begun n
    have hbl : (begun n).length ≤ 21 := by unfold begun; simp; omega
    have hsz : (ByteArray.size ⟨n.toArray⟩) = n.length := by simp [ByteArray.size]
    have hsz1 : (ByteArray.size ⟨#[126]⟩) = 1 := rfl
    generalize hbn : begun n = bn at *
    go_enter Tryd.func34, Tryd.ntmps34
    go_wp2_with fail
    refine HA.out.mono ?_
    rintro e w1 ⟨rfl, hb1⟩
    have hS1 := HS0.out.below hb1
    have hb := hS1.cl
    obtain ⟨p1, p2, p3, -⟩ := hS1.dsk.fits hl (by omega)
    have HR := Lib.hid (Write_any hS1.dsk hf p1 p2 p3 bn (by omega) l (Sl.below hS hb1) hSM hll)
    have HS := Lib.hid hS1
    have HB1 := Lib.hid hb1
    obtain ⟨g0, hgq⟩ : ∃ g0, q.g = g0 := ⟨_, rfl⟩
    rw [hgq] at hb HR
    have HGq := Lib.hid hgq
    clear hgq
    have HT := Lib.hid (fun (d3 : Dk Sv) (w3 : World) (hG : Dgo w1 q d d3 w3) => Dgo.below hb1 hG)
    clear HA hS1 hb1 hS HS0 HB1
    go_wp2_with fail
    refine HR.out.mono ?_
    rintro e w2 ⟨A2, c2, rfl, q2, hg2, hD2, hF2, hM2, hT2⟩
    have HX := Lib.hid (HX0.out ⟨A2, c2, l⟩)
    have hop := Opd.write svl d bn ⟨A2, c2, l⟩
    generalize dWrite svl d bn ⟨A2, c2, l⟩ = r at hop HX hD2 hT2 ⊢
    clear HR HX0 hSM
    obtain ⟨d1, n1⟩ := r
    have hf1 := hf.opd hop
    have hl1 := opd_len hop hl
    dsimp only at hf1 hl1 hD2 hT2 ⊢
    rcases Decidable.em (n1 = 0) with h0 | h0
    rotate_left
    · obtain ⟨ev, hev⟩ := errv_ifc h0
      have HG := Lib.hid (HT.out d1 w2 ⟨q2, hg2, hD2, hF2, hM2, hT2⟩)
      have HE := Lib.hid hev
      have HXX := Lib.hid (HX.out.trans (if_pos h0))
      rw [hev]
      clear hD2 hF2 hM2 hT2 HS hev HX HT
      go_wp2_with fail
      go_ret
      exact ⟨A2, c2, by rw [HXX.out, HE.out]; rfl, by rw [HXX.out]; exact HG.out⟩
    subst h0
    have HX3 := HX.out.trans (if_neg (by simp))
    dsimp only at HX3
    have hS2 := HS.out.act hg2 hD2 hF2 hM2
    have hg3 := hg2.trans HGq.out
    have hb2 := hS2.cl
    rw [hg3] at hb2
    have HT2 := Lib.hid (fun (d3 : Dk Sv) (w3 : World) (hG : Dgo w2 q2 d1 d3 w3) => HT.out _ _ (Dgo.trans hg2 hF2 hM2 hT2 hG))
    rw [show errv 0 = Value.nilIface from rfl]
    clear HS HT HGq hD2 hF2 hM2 hT2 hb HX hf hl hop
    obtain ⟨p1, p2, p3, -⟩ := hS2.dsk.fits hl1 (by omega)
    have HY := Lib.hid (Sync_any hS2.dsk hf1)
    rw [hg3] at HY
    have hop := Opd.sync d1
    generalize hry : dSync d1 = r at hop HX3 HY
    clear hry
    have HS := Lib.hid hS2
    have HT := Lib.hid HT2.out
    have HGq := Lib.hid hg3
    have HX := Lib.hid HX3
    have hb := hb2
    have hf := hf1
    have hl := hl1
    clear hS2 HT2 hg2 hg3 hb2 HX3 p1 p2 p3 hf1 hl1
    go_wp2_with fail
    refine HY.out.mono ?_
    clear HY
    rintro e w2 ⟨rfl, q2, hg2, hD2, hF2, hM2, hT2⟩
    obtain ⟨d1, n1⟩ := r
    have hf1 := hf.opd hop
    have hl1 := opd_len hop hl
    dsimp only at hf1 hl1 hD2 hT2 ⊢
    rcases Decidable.em (n1 = 0) with h0 | h0
    rotate_left
    · obtain ⟨ev, hev⟩ := errv_ifc h0
      have HG := Lib.hid (HT.out d1 w2 ⟨q2, hg2, hD2, hF2, hM2, hT2⟩)
      have HE := Lib.hid hev
      have HXX := Lib.hid (HX.out.trans (if_pos h0))
      rw [hev]
      clear hD2 hF2 hM2 hT2 HS hev HX HT
      go_wp2_with fail
      go_ret
      exact ⟨A2, c2, by rw [HXX.out, HE.out]; rfl, by rw [HXX.out]; exact HG.out⟩
    subst h0
    have HX3 := HX.out.trans (if_neg (by simp))
    dsimp only at HX3
    have hS2 := HS.out.act hg2 hD2 hF2 hM2
    have hg3 := hg2.trans HGq.out
    have hb2 := hS2.cl
    rw [hg3] at hb2
    have HT2 := Lib.hid (fun (d3 : Dk Sv) (w3 : World) (hG : Dgo w2 q2 d1 d3 w3) => HT.out _ _ (Dgo.trans hg2 hF2 hM2 hT2 hG))
    rw [show errv 0 = Value.nilIface from rfl]
    clear HS HT HGq hD2 hF2 hM2 hT2 hb HX hf hl hop
    obtain ⟨p1, p2, p3, -⟩ := hS2.dsk.fits hl1 (by omega)
    have HY := Lib.hid (Rename_any hS2.dsk hf1 p1 p2 bn n (by omega) hn)
    rw [hg3] at HY
    have hop := Opd.rename Sv.nil d1 bn n
    generalize hry : dRename Sv.nil d1 bn n = r at hop HX3 HY
    clear hry
    have HS := Lib.hid hS2
    have HT := Lib.hid HT2.out
    have HGq := Lib.hid hg3
    have HX := Lib.hid HX3
    have hb := hb2
    have hf := hf1
    have hl := hl1
    clear hS2 HT2 hg2 hg3 hb2 HX3 p1 p2 p3 hf1 hl1
    go_wp2_with fail
    refine HY.out.mono ?_
    clear HY
    rintro e w2 ⟨rfl, q2, hg2, hD2, hF2, hM2, hT2⟩
    obtain ⟨d1, n1⟩ := r
    have hf1 := hf.opd hop
    have hl1 := opd_len hop hl
    dsimp only at hf1 hl1 hD2 hT2 ⊢
    rcases Decidable.em (n1 = 0) with h0 | h0
    rotate_left
    · obtain ⟨ev, hev⟩ := errv_ifc h0
      have HG := Lib.hid (HT.out d1 w2 ⟨q2, hg2, hD2, hF2, hM2, hT2⟩)
      have HE := Lib.hid hev
      have HXX := Lib.hid (HX.out.trans (if_pos h0))
      rw [hev]
      clear hD2 hF2 hM2 hT2 HS hev HX HT
      go_wp2_with fail
      go_ret
      exact ⟨A2, c2, by rw [HXX.out, HE.out]; rfl, by rw [HXX.out]; exact HG.out⟩
    subst h0
    have HX3 := HX.out.trans (if_neg (by simp))
    dsimp only at HX3
    have hS2 := HS.out.act hg2 hD2 hF2 hM2
    have hg3 := hg2.trans HGq.out
    have hb2 := hS2.cl
    rw [hg3] at hb2
    have HT2 := Lib.hid (fun (d3 : Dk Sv) (w3 : World) (hG : Dgo w2 q2 d1 d3 w3) => HT.out _ _ (Dgo.trans hg2 hF2 hM2 hT2 hG))
    rw [show errv 0 = Value.nilIface from rfl]
    clear HS HT HGq hD2 hF2 hM2 hT2 hb HX hf hl hop
    obtain ⟨p1, p2, p3, -⟩ := hS2.dsk.fits hl1 (by omega)
    have HY := Lib.hid (Sync_any hS2.dsk hf1)
    rw [hg3] at HY
    clear hg3
    go_wp2_with fail
    refine HY.out.mono ?_
    clear HY
    rintro e w2 ⟨rfl, hG⟩
    have HG := Lib.hid (HT2.out _ _ hG)
    have HX := Lib.hid HX3
    clear hG HT2 HX3
    go_wp2_with fail
    go_ret
    exact ⟨A2, c2, by rw [HX.out]; rfl, by rw [HX.out]; exact HG.out⟩
end Go.Proofs.YtabkeaammiellaaDoor
