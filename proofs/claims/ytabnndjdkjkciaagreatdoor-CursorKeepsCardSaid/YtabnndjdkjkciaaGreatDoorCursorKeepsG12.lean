/- WHAT IT HOLDS: a store in memory; which texts are objects' names; what is asked for; objects put, read, deleted: walked. | WHAT IT HOLDS: a store's objects read; a store opened: walked. | WHAT IT HOLDS: the law's store is alive, walked. | WHAT IT HOLDS: maps from texts to values of any kind in memory: looked up, written, gone through. | WHAT IT HOLDS: arguments that are acts of a disk, opened to the words of Kit. | WHAT IT HOLDS: which scripts of a disk's acts are long, walked. | WHAT IT HOLDS: the law DiskFuses, walked. | WHAT IT HOLDS: the law DiskSyncs, walked. | WHAT IT HOLDS: what a disk keeps of files that no change names, plainly; maps beside a disk in memory. | WHAT IT HOLDS: what opening a store removes, plainly; entries struck out of a map. -/
import Derived.Test.YtabnndjdkjkciaaGreatDoorCursorKeepsG11
import Derived.Test.YtabnndjdkjkciaaGreatDoorShelfB
import Derived.Laws.Concat
import Derived.Test.YtabnndjdkjkciaaGreatDoorCursorKeepsG01
import Derived.Test.YtabnndjdkjkciaaGreatDoorCursorKeepsG08
import Derived.Test.YtabnndjdkjkciaaGreatDoorCursorKeepsG05
namespace Go.Proofs.YtabnndjdkjkciaaGreatDoor
open Go.RowKit Go.Maps Go.Sort
attribute [local go_sem ↓] Go.wp_at_zero Go.wp_at_succ

theorem index_has (l : Bs) : decide (0 ≤ Lib.indexByte l 126) = decide (126 ∈ l) := by
  refine decide_eq_decide.2 ?_
  induction l with
  | nil => simp [Lib.indexByte]
  | cons b r ih =>
    have hge := Lib.indexByte_ge r 126
    unfold Lib.indexByte
    by_cases hb : b = 126
    · subst hb
      simp
    · rw [if_neg (by simpa using hb)]
      have hne : ¬ (126 : UInt8) = b := fun e => hb e.symm
      by_cases hm : Lib.indexByte r 126 = -1
      · rw [if_pos (by simp [hm])]
        rw [hm] at ih
        simp only [List.mem_cons, hne, false_or]
        rw [← ih]
      · rw [if_neg (by simpa using hm)]
        simp only [List.mem_cons, hne, false_or]
        rw [← ih]
        omega
set_option maxRecDepth 100000 in
set_option maxHeartbeats 1000000 in
theorem SNamed_any (s : Bs) (w : World) (hl : s.length ≤ 9223372036854775807) : Calls Tryz.prog 182 #[.string ⟨s.toArray⟩] w fun e w' => e = .returned (.bool (snamed s)) ∧ Below w.heap.size w w' := by
  have hsz : (ByteArray.size ⟨s.toArray⟩) = s.length := by simp [ByteArray.size]
  have HC := Lib.hid (fun W => Tryz.strings_Contains_one ⟨s.toArray⟩ 126 W)
  rcases Nat.lt_or_ge 20 s.length with h | h
  · have hI : (20 : Int) < (s.length : Int) := by omega
    have HN := Lib.hid (show snamed s = false from by unfold snamed; rw [decide_eq_false (by omega)]; rfl)
    go_enter Tryz.func182, Tryz.ntmps182
    go_wp2_with fail
    go_ret
    exact ⟨by rw [HN.out]; rfl, Below.refl _ _⟩
  have hI : (s.length : Int) ≤ 20 := by omega
  have hd : decide (s.length ≤ 20) = true := decide_eq_true (by omega)
  go_enter Tryz.func182, Tryz.ntmps182
  go_wp2_with fail
  refine (Named_any s w hl).mono ?_
  rintro e w1 ⟨rfl, hb⟩
  cases hn : named s with
  | false =>
    have HN := Lib.hid (show snamed s = false from by unfold snamed; rw [hd, hn]; rfl)
    go_wp2_with fail
    go_ret
    exact ⟨by rw [HN.out]; rfl, hb⟩
  | true =>
    have HN := Lib.hid (show snamed s = !decide (126 ∈ s) from by unfold snamed; rw [hd, hn]; simp)
    go_wp2_with fail
    refine (HC.out _).mono ?_
    rintro e w2 ⟨rfl, rfl⟩
    rw [index_has]
    go_wp2_with fail
    go_ret
    exact ⟨by rw [HN.out]; rfl, hb⟩
theorem errv_ifc {n : Nat} (h : n ≠ 0) : ∃ v, errv n = .iface 68 v := by
  match n, h with
  | k + 1, _ => exact ⟨_, rfl⟩
/-- a store in memory -/
abbrev sta (q : Fp) : Array Value := #[.pointer (some ⟨q.g, 0, none⟩)]
set_option maxRecDepth 100000 in
set_option maxHeartbeats 1000000 in
theorem Asks_any (g : Nat) (s : Bs) (w : World) (hl : s.length ≤ 9223372036854775807) : Calls Tryz.prog 142 #[.pointer (some ⟨g, 0, none⟩), .string ⟨s.toArray⟩] w fun e w' => e = .returned (errv (if snamed s = true then 0 else 2)) ∧ Below w.heap.size w w' := by
  have HN := Lib.hid (fun W => SNamed_any s W hl)
  cases hn : snamed s with
  | false =>
    rw [hn] at HN
    go_enter Tryz.func142, Tryz.ntmps142
    go_wp2_with fail
    refine (HN.out _).mono ?_
    rintro e w1 ⟨rfl, hb⟩
    go_wp2_with fail
    go_ret
    exact ⟨rfl, hb⟩
  | true =>
    rw [hn] at HN
    go_enter Tryz.func142, Tryz.ntmps142
    go_wp2_with fail
    refine (HN.out _).mono ?_
    rintro e w1 ⟨rfl, hb⟩
    go_wp2_with fail
    go_ret
    exact ⟨rfl, hb⟩
theorem Dgo.trans {w w1 w2 : World} {q q1 : Fp} {d d1 d2 : Dk Sv} (hg : q1.g = q.g) (hF : Frd q w w1) (hM : ∀ i, q1.M i → q.M i ∨ w.heap.size ≤ i) (hT : ∀ i, Tc q1 d1 i → Tc q d i ∨ w.heap.size ≤ i) (h : Dgo w1 q1 d1 d2 w2) : Dgo w q d d2 w2 := by
  obtain ⟨q2, hg2, hD, hF2, hM2, hT2⟩ := h
  have hs := hF.size
  refine ⟨q2, hg2.trans hg, hD, hF.trans hF2 hM, fun i hi => ?_, fun i hi => ?_⟩
  · rcases hM2 i hi with h1 | h1
    · exact hM i h1
    · exact .inr (by omega)
  · rcases hT2 i hi with h1 | h1
    · exact hT i h1
    · exact .inr (by omega)
theorem Dgo.below {w w1 w2 : World} {q : Fp} {d d2 : Dk Sv} (hb : Below w.heap.size w w1) (h : Dgo w1 q d d2 w2) : Dgo w q d d2 w2 :=
  Dgo.trans rfl (Frd.of_below hb) (fun _ hi => .inl hi) (fun _ hi => .inl hi) h
theorem Dgo.still {w w1 : World} {q : Fp} {d : Dk Sv} (h : Dsk w q d) (hb : Below w.heap.size w w1) : Dgo w q d d w1 := Dgo.of (h.below hb) (Frd.of_below hb) rfl rfl
/-- a store and its disk in memory -/
structure StM (w : World) (gs : Nat) (q : Fp) (d : Dk Sv) : Prop where
  dsk : Dsk w q d
  blk : Blk w gs 164 (sta q)
  ap : ¬ q.M gs
theorem StM.below {w w' : World} {gs : Nat} {q : Fp} {d : Dk Sv} (h : StM w gs q d) (hb : Below w.heap.size w w') : StM w' gs q d := ⟨h.dsk.below hb, h.blk.below hb, h.ap⟩
theorem StM.cl {w : World} {gs : Nat} {q : Fp} {d : Dk Sv} (h : StM w gs q d) : w.cell? ⟨gs, 0, none⟩ = some (.pointer (some ⟨q.g, 0, none⟩)) := h.blk.cell 0
theorem StM.act {w w' : World} {gs : Nat} {q q' : Fp} {d d' : Dk Sv} (h : StM w gs q d) (hg : q'.g = q.g) (hD : Dsk w' q' d') (hF : Frd q w w') (hM : ∀ i, q'.M i → q.M i ∨ w.heap.size ≤ i) : StM w' gs q' d' :=
  ⟨hD, by unfold sta; rw [hg]; exact (hF.block gs h.blk.lt h.ap).trans h.blk, fun hq => by
    rcases hM gs hq with h1 | h1
    · exact h.ap h1
    · have := h.blk.lt
      omega⟩
theorem snamed_len {n : Bs} (h : snamed n = true) : n.length ≤ 20 := by
  unfold snamed at h
  simp only [Bool.and_eq_true, decide_eq_true_eq] at h
  exact h.1.1
set_option maxRecDepth 100000 in
set_option maxHeartbeats 1000000 in
theorem SDelete_any {w : World} {gs : Nat} {q : Fp} {d : Dk Sv} (h : StM w gs q d) (hf : Fok d) (hl : d.sure.length + d.pend.length ≤ 1000) (n : Bs) (hn : n.length ≤ 9223372036854775807) :
    Calls Tryz.prog 73 #[.pointer (some ⟨gs, 0, none⟩), .string ⟨n.toArray⟩] w fun e w' => e = .returned (errv (sDelete Sv.nil d n).2) ∧ Dgo w q d (sDelete Sv.nil d n).1 w' := by
  have HA := Lib.hid (Asks_any gs n w (by omega))
  have HS := Lib.hid h
  clear h
  cases hs : snamed n with
  | false =>
    rw [hs, if_neg (by simp), show errv 2 = Value.iface 68 (.int .i64 2) from rfl] at HA
    have HX := Lib.hid (show sDelete Sv.nil d n = (d, 2) from by unfold sDelete; rw [if_pos hs])
    go_enter Tryz.func73, Tryz.ntmps73
    go_wp2_with fail
    refine HA.out.mono ?_
    rintro e w1 ⟨rfl, hb1⟩
    have HG := Lib.hid (Dgo.still HS.out.dsk hb1)
    go_wp2_with fail
    go_ret
    exact ⟨by rw [HX.out]; rfl, by rw [HX.out]; exact HG.out⟩
  | true =>
    rw [hs, if_pos rfl, show errv 0 = Value.nilIface from rfl] at HA
    have HX := Lib.hid (show sDelete Sv.nil d n = andThen (dRemove Sv.nil d n) dSync from by unfold sDelete; rw [if_neg (by simp [hs])])
    go_enter Tryz.func73, Tryz.ntmps73
    go_wp2_with fail
    refine HA.out.mono ?_
    rintro e w1 ⟨rfl, hb1⟩
    have hS1 := HS.out.below hb1
    have hb := hS1.cl
    obtain ⟨p1, p2, p3, -⟩ := hS1.dsk.fits hl (by omega)
    have HR := Lib.hid (Remove_any hS1.dsk hf p1 p2 n (by have := snamed_len hs; omega))
    have hop := Opd.remove Sv.nil d n
    generalize dRemove Sv.nil d n = r at *
    obtain ⟨d1, n1⟩ := r
    have hf1 := hf.opd hop
    have hl1 := opd_len hop hl
    dsimp only at hf1 hl1
    have HS1 := Lib.hid hS1
    have HB1 := Lib.hid hb1
    clear HA HS hS1 hb1 hop
    go_wp2_with fail
    refine HR.out.mono ?_
    rintro e w2 ⟨rfl, q2, hg2, hD2, hF2, hM2, hT2⟩
    dsimp only at hD2 hT2 ⊢
    rcases Decidable.em (n1 = 0) with h0 | h0
    · subst h0
      have hS2 := HS1.out.act hg2 hD2 hF2 hM2
      have hb2 := hS2.cl
      have HY := Lib.hid (Sync_any hD2 hf1)
      rw [hg2] at hb2 HY
      have HX2 := Lib.hid (show andThen (d1, 0) dSync = dSync d1 from rfl)
      have HT := Lib.hid (fun (d3 : Dk Sv) (w3 : World) (hG : Dgo w2 q2 d1 d3 w3) => Dgo.below HB1.out (Dgo.trans hg2 hF2 hM2 hT2 hG))
      rw [show errv 0 = Value.nilIface from rfl]
      clear HR hb hD2 hF2 hM2 hT2 hS2 HS1
      go_wp2_with fail
      refine HY.out.mono ?_
      rintro e w3 ⟨rfl, hG⟩
      have HG := Lib.hid (HT.out _ _ hG)
      clear HT HY hG
      go_wp2_with fail
      go_ret
      exact ⟨by rw [HX.out, HX2.out]; rfl, by rw [HX.out, HX2.out]; exact HG.out⟩
    · obtain ⟨ev, hev⟩ := errv_ifc h0
      have HX2 := Lib.hid (show andThen (d1, n1) dSync = (d1, n1) from if_pos h0)
      have HG := Lib.hid (Dgo.below HB1.out ⟨q2, hg2, hD2, hF2, hM2, hT2⟩)
      have HE := Lib.hid hev
      rw [hev]
      clear HR hb hD2 hF2 hM2 hT2 HS1 hev
      go_wp2_with fail
      go_ret
      exact ⟨by rw [HX.out, HX2.out, HE.out]; rfl, by rw [HX.out, HX2.out]; exact HG.out⟩
theorem cat_begun (n : Bs) : (⟨#[126]⟩ : ByteArray) ++ ⟨n.toArray⟩ = ⟨(begun n).toArray⟩ := by
  apply ByteArray.ext
  simp [begun]
set_option maxRecDepth 100000 in
set_option maxHeartbeats 1000000 in
theorem SPut_any {w : World} {gs : Nat} {q : Fp} {d : Dk Sv} (h : StM w gs q d) (hf : Fok d) (hl : d.sure.length + d.pend.length ≤ 900) (n : Bs) (hn : n.length ≤ 9223372036854775807) {A : Option Addr} {c : Nat} (l : Bs) (hS : SlB w A c l) (hSM : l ≠ [] → ∀ ad, A = some ad → ad.block ≠ q.g) (hll : l.length ≤ 100000000) :
    Calls Tryz.prog 74 #[.pointer (some ⟨gs, 0, none⟩), .string ⟨n.toArray⟩, .slice A l.length c] w fun e w' => ∃ A' c', e = .returned (errv (sPut svl Sv.nil d n ⟨A', c', l⟩).2) ∧ Dgo w q d (sPut svl Sv.nil d n ⟨A', c', l⟩).1 w' := by
  have HA := Lib.hid (Asks_any gs n w (by omega))
  have HS0 := Lib.hid h
  clear h
  cases hs : snamed n with
  | false =>
    rw [hs, if_neg (by simp), show errv 2 = Value.iface 68 (.int .i64 2) from rfl] at HA
    have HX := Lib.hid (show ∀ v, sPut svl Sv.nil d n v = (d, 2) from fun v => by unfold sPut; rw [if_pos hs])
    go_enter Tryz.func74, Tryz.ntmps74
    go_wp2_with fail
    refine HA.out.mono ?_
    rintro e w1 ⟨rfl, hb1⟩
    have HG := Lib.hid (Dgo.still HS0.out.dsk hb1)
    go_wp2_with fail
    go_ret
    exact ⟨none, 0, by rw [HX.out]; rfl, by rw [HX.out]; exact HG.out⟩
  | true =>
    have hnl := snamed_len hs
    rw [hs, if_pos rfl, show errv 0 = Value.nilIface from rfl] at HA
    have HX0 := Lib.hid (show ∀ v, sPut svl Sv.nil d n v = andThen (dWrite svl d (begun n) v) fun d => andThen (dSync d) fun d => andThen (dRename Sv.nil d (begun n) n) dSync from fun v => by unfold sPut; rw [if_neg (by simp [hs])])
    have hcat := cat_begun n
    have hbl : (begun n).length ≤ 21 := by unfold begun; simp; omega
    have hsz : (ByteArray.size ⟨n.toArray⟩) = n.length := by simp [ByteArray.size]
    have hsz1 : (ByteArray.size ⟨#[126]⟩) = 1 := rfl
    generalize hbn : begun n = bn at *
    go_enter Tryz.func74, Tryz.ntmps74
    go_wp2_with fail
    refine HA.out.mono ?_
    rintro e w1 ⟨rfl, hb1⟩
    have hS1 := HS0.out.below hb1
    have hb := hS1.cl
    obtain ⟨p1, p2, p3, -⟩ := hS1.dsk.fits hl (by omega)
    have HR := Lib.hid (Write_any hS1.dsk hf p1 p2 p3 bn (by omega) l (Sl.below hS hb1) hSM hll)
    have HS := Lib.hid hS1
    have HB1 := Lib.hid hb1
    obtain ⟨g0, hgq⟩ : ∃ g0, q.g = g0 := ⟨_, rfl⟩
    rw [hgq] at hb HR
    have HGq := Lib.hid hgq
    clear hgq
    have HT := Lib.hid (fun (d3 : Dk Sv) (w3 : World) (hG : Dgo w1 q d d3 w3) => Dgo.below hb1 hG)
    clear HA hS1 hb1 hS HS0 HB1
    go_wp2_with fail
    refine HR.out.mono ?_
    rintro e w2 ⟨A2, c2, rfl, q2, hg2, hD2, hF2, hM2, hT2⟩
    have HX := Lib.hid (HX0.out ⟨A2, c2, l⟩)
    have hop := Opd.write svl d bn ⟨A2, c2, l⟩
    generalize dWrite svl d bn ⟨A2, c2, l⟩ = r at hop HX hD2 hT2 ⊢
    clear HR HX0 hSM
    obtain ⟨d1, n1⟩ := r
    have hf1 := hf.opd hop
    have hl1 := opd_len hop hl
    dsimp only at hf1 hl1 hD2 hT2 ⊢
    rcases Decidable.em (n1 = 0) with h0 | h0
    rotate_left
    · obtain ⟨ev, hev⟩ := errv_ifc h0
      have HG := Lib.hid (HT.out d1 w2 ⟨q2, hg2, hD2, hF2, hM2, hT2⟩)
      have HE := Lib.hid hev
      have HXX := Lib.hid (HX.out.trans (if_pos h0))
      rw [hev]
      clear hD2 hF2 hM2 hT2 HS hev HX HT
      go_wp2_with fail
      go_ret
      exact ⟨A2, c2, by rw [HXX.out, HE.out]; rfl, by rw [HXX.out]; exact HG.out⟩
    subst h0
    have HX3 := HX.out.trans (if_neg (by simp))
    dsimp only at HX3
    have hS2 := HS.out.act hg2 hD2 hF2 hM2
    have hg3 := hg2.trans HGq.out
    have hb2 := hS2.cl
    rw [hg3] at hb2
    have HT2 := Lib.hid (fun (d3 : Dk Sv) (w3 : World) (hG : Dgo w2 q2 d1 d3 w3) => HT.out _ _ (Dgo.trans hg2 hF2 hM2 hT2 hG))
    rw [show errv 0 = Value.nilIface from rfl]
    clear HS HT HGq hD2 hF2 hM2 hT2 hb HX hf hl hop
    obtain ⟨p1, p2, p3, -⟩ := hS2.dsk.fits hl1 (by omega)
    have HY := Lib.hid (Sync_any hS2.dsk hf1)
    rw [hg3] at HY
    have hop := Opd.sync d1
    generalize hry : dSync d1 = r at hop HX3 HY
    clear hry
    have HS := Lib.hid hS2
    have HT := Lib.hid HT2.out
    have HGq := Lib.hid hg3
    have HX := Lib.hid HX3
    have hb := hb2
    have hf := hf1
    have hl := hl1
    clear hS2 HT2 hg2 hg3 hb2 HX3 p1 p2 p3 hf1 hl1
    go_wp2_with fail
    refine HY.out.mono ?_
    clear HY
    rintro e w2 ⟨rfl, q2, hg2, hD2, hF2, hM2, hT2⟩
    obtain ⟨d1, n1⟩ := r
    have hf1 := hf.opd hop
    have hl1 := opd_len hop hl
    dsimp only at hf1 hl1 hD2 hT2 ⊢
    rcases Decidable.em (n1 = 0) with h0 | h0
    rotate_left
    · obtain ⟨ev, hev⟩ := errv_ifc h0
      have HG := Lib.hid (HT.out d1 w2 ⟨q2, hg2, hD2, hF2, hM2, hT2⟩)
      have HE := Lib.hid hev
      have HXX := Lib.hid (HX.out.trans (if_pos h0))
      rw [hev]
      clear hD2 hF2 hM2 hT2 HS hev HX HT
      go_wp2_with fail
      go_ret
      exact ⟨A2, c2, by rw [HXX.out, HE.out]; rfl, by rw [HXX.out]; exact HG.out⟩
    subst h0
    have HX3 := HX.out.trans (if_neg (by simp))
    dsimp only at HX3
    have hS2 := HS.out.act hg2 hD2 hF2 hM2
    have hg3 := hg2.trans HGq.out
    have hb2 := hS2.cl
    rw [hg3] at hb2
    have HT2 := Lib.hid (fun (d3 : Dk Sv) (w3 : World) (hG : Dgo w2 q2 d1 d3 w3) => HT.out _ _ (Dgo.trans hg2 hF2 hM2 hT2 hG))
    rw [show errv 0 = Value.nilIface from rfl]
    clear HS HT HGq hD2 hF2 hM2 hT2 hb HX hf hl hop
    obtain ⟨p1, p2, p3, -⟩ := hS2.dsk.fits hl1 (by omega)
    have HY := Lib.hid (Rename_any hS2.dsk hf1 p1 p2 bn n (by omega) (by have := snamed_len hs; omega))
    rw [hg3] at HY
    have hop := Opd.rename Sv.nil d1 bn n
    generalize hry : dRename Sv.nil d1 bn n = r at hop HX3 HY
    clear hry
    have HS := Lib.hid hS2
    have HT := Lib.hid HT2.out
    have HGq := Lib.hid hg3
    have HX := Lib.hid HX3
    have hb := hb2
    have hf := hf1
    have hl := hl1
    clear hS2 HT2 hg2 hg3 hb2 HX3 p1 p2 p3 hf1 hl1
    go_wp2_with fail
    refine HY.out.mono ?_
    clear HY
    rintro e w2 ⟨rfl, q2, hg2, hD2, hF2, hM2, hT2⟩
    obtain ⟨d1, n1⟩ := r
    have hf1 := hf.opd hop
    have hl1 := opd_len hop hl
    dsimp only at hf1 hl1 hD2 hT2 ⊢
    rcases Decidable.em (n1 = 0) with h0 | h0
    rotate_left
    · obtain ⟨ev, hev⟩ := errv_ifc h0
      have HG := Lib.hid (HT.out d1 w2 ⟨q2, hg2, hD2, hF2, hM2, hT2⟩)
      have HE := Lib.hid hev
      have HXX := Lib.hid (HX.out.trans (if_pos h0))
      rw [hev]
      clear hD2 hF2 hM2 hT2 HS hev HX HT
      go_wp2_with fail
      go_ret
      exact ⟨A2, c2, by rw [HXX.out, HE.out]; rfl, by rw [HXX.out]; exact HG.out⟩
    subst h0
    have HX3 := HX.out.trans (if_neg (by simp))
    dsimp only at HX3
    have hS2 := HS.out.act hg2 hD2 hF2 hM2
    have hg3 := hg2.trans HGq.out
    have hb2 := hS2.cl
    rw [hg3] at hb2
    have HT2 := Lib.hid (fun (d3 : Dk Sv) (w3 : World) (hG : Dgo w2 q2 d1 d3 w3) => HT.out _ _ (Dgo.trans hg2 hF2 hM2 hT2 hG))
    rw [show errv 0 = Value.nilIface from rfl]
    clear HS HT HGq hD2 hF2 hM2 hT2 hb HX hf hl hop
    obtain ⟨p1, p2, p3, -⟩ := hS2.dsk.fits hl1 (by omega)
    have HY := Lib.hid (Sync_any hS2.dsk hf1)
    rw [hg3] at HY
    clear hg3
    go_wp2_with fail
    refine HY.out.mono ?_
    clear HY
    rintro e w2 ⟨rfl, hG⟩
    have HG := Lib.hid (HT2.out _ _ hG)
    have HX := Lib.hid HX3
    clear hG HT2 HX3
    go_wp2_with fail
    go_ret
    exact ⟨A2, c2, by rw [HX.out]; rfl, by rw [HX.out]; exact HG.out⟩
end Go.Proofs.YtabnndjdkjkciaaGreatDoor

namespace Go.Proofs.YtabnndjdkjkciaaGreatDoor
open Go.RowKit Go.Maps Go.Sort
attribute [local go_sem ↓] Go.wp_at_zero Go.wp_at_succ

set_option maxRecDepth 100000 in
set_option maxHeartbeats 1000000 in
theorem SGet_any {w : World} {gs : Nat} {q : Fp} {d : Dk Sv} (h : StM w gs q d) (n : Bs) (hn : n.length ≤ 9223372036854775807) :
    Calls Tryz.prog 72 #[.pointer (some ⟨gs, 0, none⟩), .string ⟨n.toArray⟩] w fun e w' => ∃ A c m, e = .returned (.tuple #[.slice A (List.length m) c, errv (sGet d n).2]) ∧ Hid (m = (((sGet d n).1.map Sv.l).getD [])) ∧ OwnB w' w.heap.size 5 A c m ∧ Below w.heap.size w w' := by
  have HA := Lib.hid (Asks_any gs n w (by omega))
  have HS := Lib.hid h
  clear h
  cases hs : snamed n with
  | false =>
    rw [hs, if_neg (by simp), show errv 2 = Value.iface 68 (.int .i64 2) from rfl] at HA
    have HX := Lib.hid (show sGet d n = (none, 2) from by unfold sGet; rw [if_pos hs])
    go_enter Tryz.func72, Tryz.ntmps72
    go_wp2_with fail
    refine HA.out.mono ?_
    rintro e w1 ⟨rfl, hb1⟩
    go_wp2_with fail
    go_ret2
    exact ⟨none, 0, [], by rw [HX.out]; rfl, (show _ = _ from by rw [HX.out]; rfl), Own.none_ _ _ _ _, hb1⟩
  | true =>
    rw [hs, if_pos rfl, show errv 0 = Value.nilIface from rfl] at HA
    have HX := Lib.hid (show sGet d n = dRead d n from by unfold sGet; rw [if_neg (by simp [hs])])
    go_enter Tryz.func72, Tryz.ntmps72
    go_wp2_with fail
    refine HA.out.mono ?_
    rintro e w1 ⟨rfl, hb1⟩
    have hS1 := HS.out.below hb1
    have hb := hS1.cl
    have HR := Lib.hid (Read_any hS1.dsk n (by have := snamed_len hs; omega))
    have HB1 := Lib.hid hb1
    clear HA HS hS1 hb1
    go_wp2_with fail
    refine HR.out.mono ?_
    rintro e w2 ⟨A2, c2, m2, rfl, hm2, ho2, hb2⟩
    have HM := Lib.hid hm2.out
    clear hm2 HR
    go_wp2_with fail
    go_ret2
    exact ⟨A2, c2, m2, by rw [HX.out]; rfl, (show _ = _ from by rw [HX.out]; exact HM.out), ho2.more HB1.out.size, bel_call HB1.out hb2⟩
/-- what opening gives -/
def OpG (w : World) (q : Fp) (d : Dk Sv) (e : Ending) (w' : World) : Prop :=
  ∃ q', q'.g = q.g ∧ Dsk w' q' (sOpen Sv.nil d).1 ∧ Frd q w w' ∧ (∀ i, q'.M i → q.M i ∨ w.heap.size ≤ i) ∧ (∀ i, Tc q' (sOpen Sv.nil d).1 i → Tc q d i ∨ w.heap.size ≤ i) ∧
    ((sOpen Sv.nil d).2 = 0 ∧ (∃ gs, e = .returned (.tuple #[.pointer (some ⟨gs, 0, none⟩), .nilIface]) ∧ StM w' gs q' (sOpen Sv.nil d).1 ∧ w.heap.size ≤ gs) ∨ (sOpen Sv.nil d).2 ≠ 0 ∧ e = .returned (.tuple #[.pointer none, errv (sOpen Sv.nil d).2]))
theorem OpG.bad {w w' : World} {q : Fp} {d d1 : Dk Sv} {n1 : Nat} (hX : sOpen Sv.nil d = (d1, n1)) (h0 : n1 ≠ 0) (hG : Dgo w q d d1 w') : OpG w q d (.returned (.tuple #[.pointer none, errv n1])) w' := by
  obtain ⟨q', hg, hD, hF, hM, hT⟩ := hG
  refine ⟨q', hg, ?_⟩
  rw [hX]
  exact ⟨hD, hF, hM, hT, .inr ⟨h0, rfl⟩⟩
theorem OpG.good {w w' : World} {q : Fp} {d d1 : Dk Sv} {g0 : Nat} (hX : sOpen Sv.nil d = (d1, 0)) (hg0 : q.g = g0) (hG : Dgo w q d d1 w') : OpG w q d (.returned (.tuple #[.pointer (some ⟨w'.heap.size, 0, none⟩), .nilIface])) (w'.alloc (.cells #[.pointer (some ⟨g0, 0, none⟩)] 164)) := by
  obtain ⟨q', hg, hD, hF, hM, hT⟩ := hG
  have hb := below_new w' (.cells #[.pointer (some ⟨g0, 0, none⟩)] 164)
  refine ⟨q', hg, ?_⟩
  rw [hX]
  refine ⟨hD.below hb, hF.trans (Frd.of_below (q := q') hb) hM, hM, hT, .inl ⟨rfl, w'.heap.size, rfl, ⟨hD.below hb, ?_, fun hq => ?_⟩, hF.size⟩⟩
  · unfold sta
    rw [hg, hg0]
    exact Blk.new _ _ _
  · have := hD.ltM hq
    omega
set_option maxRecDepth 100000 in
set_option maxHeartbeats 1000000 in
theorem SOpen_any {w : World} {q : Fp} {d : Dk Sv} (h : Dsk w q d) (hf : Fok d) (hl : d.sure.length + d.pend.length ≤ 400) :
    Calls Tryz.prog 35 #[.pointer (some ⟨q.g, 0, none⟩)] w fun e w' => OpG w q d e w' := by
  obtain ⟨p1, p2, p3, -⟩ := h.fits hl (by omega)
  have HL := Lib.hid (DList_any h p2)
  have hsh : d.shown.length ≤ 400 := by have := flen_dos d.sure d.pend; unfold Dk.shown; omega
  have HD := Lib.hid h
  have HF := Lib.hid hf
  obtain ⟨g0, hgq⟩ : ∃ g0, q.g = g0 := ⟨_, rfl⟩
  have HGq := Lib.hid hgq
  rw [hgq] at HL ⊢
  clear h hf hgq
  cases hd : d.down with
  | true =>
    rw [hd, if_pos rfl, if_pos rfl, show errv 14 = Value.iface 68 (.int .i64 14) from rfl] at HL
    have HX := Lib.hid (show sOpen Sv.nil d = (d, 14) from by unfold sOpen; rw [if_pos hd])
    go_enter Tryz.func35, Tryz.ntmps35
    go_wp2_with fail
    refine HL.out.mono ?_
    rintro e w1 ⟨A, c, m, rfl, hm, ho, hb⟩
    have HG := Lib.hid (OpG.bad HX.out (by decide) (Dgo.still HD.out hb))
    clear HL hm ho hb
    go_wp2_with fail
    go_ret2
    exact HG.out
  | false =>
    rw [hd, if_neg (by simp), if_neg (by simp), show errv 0 = Value.nilIface from rfl] at HL
    have HX := Lib.hid (show sOpen Sv.nil d = if (sSweep Sv.nil (names d.shown) d false).2.1 ≠ 0 then ((sSweep Sv.nil (names d.shown) d false).1, (sSweep Sv.nil (names d.shown) d false).2.1) else if (sSweep Sv.nil (names d.shown) d false).2.2 = true then dSync (sSweep Sv.nil (names d.shown) d false).1 else ((sSweep Sv.nil (names d.shown) d false).1, 0) from by unfold sOpen; rw [if_neg (by simp [hd])])
    go_enter Tryz.func35, Tryz.ntmps35
    go_wp2_with fail
    refine HL.out.mono ?_
    rintro e w1 ⟨A, c, m, rfl, hm, ho, hb⟩
    have hml : m.length ≤ 400 := by rw [hm.out]; unfold names; rw [List.length_map]; exact hsh
    have HT := Lib.hid (TxH.of HD.out ho)
    have HN := Lib.hid (show ∀ x ∈ m, x.length ≤ 24 from by
      rw [hm.out]
      intro x hx
      obtain ⟨p, hp, rfl⟩ := List.mem_map.1 hx
      exact (HD.out.shown_mem p hp).1)
    rw [← hm.out] at HX
    have HG := Lib.hid (Dgo.still HD.out hb)
    clear HL hm ho
    go_wp2_with fail
    go_loopw [24, 6] (fun x y wr => ∃ (i : Nat) (d1 : Dk Sv) (sw : Bool) (q1 : Fp), i ≤ m.length ∧ x = .int .i64 i ∧ y = .bool sw ∧ q1.g = g0 ∧ Dsk wr q1 d1 ∧ Fok d1 ∧ d1.sure.length + d1.pend.length ≤ 400 + i ∧ TxH q1 wr A c m ∧ Hid (sSweep Sv.nil m d false = sSweep Sv.nil (m.drop i) d1 sw) ∧ Hid (∀ d3 w3, Dgo wr q1 d1 d3 w3 → Dgo w q d d3 w3)) (fun x _ w => m.length - (intOf x).toNat)
    case atStart => exact ⟨0, d, false, q, Nat.zero_le _, rfl, rfl, HGq.out, HD.out.below hb, HF.out, hl, HT.out, Lib.hid rfl, Lib.hid (fun d3 w3 hg => Dgo.below hb hg)⟩
    case round =>
      clear HT HG
      obtain ⟨i, d1, sw, q1, hi, rfl, rfl, hg1, hD1, hf1, hl1, hT1, hsw, hDt⟩ := hrel
      by_cases hlt : i < m.length
      · have hI : (i : Int) < (m.length : Int) := by omega
        obtain ⟨ad, b, o, hA, had, hc⟩ := SlT.at1 hT1.1 hlt
        have hxn := HN.out _ (List.getElem_mem hlt)
        have hdr : m.drop i = m[i] :: m.drop (i + 1) := List.drop_eq_getElem_cons hlt
        have HP := Lib.hid (fun W => Tryz.strings_HasPrefix ⟨m[i].toArray⟩ ⟨#[126]⟩ W)
        obtain ⟨p1, p2, p3, -⟩ := hD1.fits (k := 800) (by omega) (by omega)
        have HR := Lib.hid (Remove_any hD1 hf1 p1 p2 m[i] (by omega))
        rw [hg1] at HR
        have HS := Lib.hid (hsw.out.trans (by rw [hdr]; rfl : sSweep Sv.nil (m.drop i) d1 sw = if isBegun m[i] = true then (if (dRemove Sv.nil d1 m[i]).2 ≠ 0 then ((dRemove Sv.nil d1 m[i]).1, (dRemove Sv.nil d1 m[i]).2, sw) else sSweep Sv.nil (m.drop (i + 1)) (dRemove Sv.nil d1 m[i]).1 true) else sSweep Sv.nil (m.drop (i + 1)) d1 sw))
        have hib : Lib.hasPrefix m[i] [126] = isBegun m[i] := rfl
        clear hsw hdr
        generalize m[i] = x at *
        have hpx : ∀ W : World, Calls Tryz.prog 76 #[.string ⟨x.toArray⟩, .string ⟨#[126]⟩] W fun e w' => e = .returned (.bool (isBegun x)) ∧ w' = W := fun W => HP.out W
        have HP2 := Lib.hid hpx
        subst hA
        clear HP hpx hib
        have HD1 := Lib.hid hD1
        have HT1 := Lib.hid hT1
        have HF1 := Lib.hid hf1
        have Hg1 := Lib.hid hg1
        clear hD1 hT1 hf1 hg1
        go_wp2_with fail
        refine (HP2.out _).mono ?_
        rintro e w5 ⟨rfl, rfl⟩
        cases hbg : isBegun x with
        | false =>
          rw [hbg, if_neg (by simp)] at HS
          go_wp2_with fail
          go_roundw
          case rel => exact ⟨i + 1, d1, sw, q1, hlt, by go_num, rfl, Hg1.out, HD1.out, HF1.out, by omega, HT1.out, HS, hDt⟩
          case measure => simp [intOf]; omega
        | true =>
          rw [hbg, if_pos rfl] at HS
          have hop := Opd.remove Sv.nil d1 x
          generalize dRemove Sv.nil d1 x = r at *
          obtain ⟨d2, n2⟩ := r
          have hf2 := HF1.out.opd hop
          have hl2 := opd_len hop hl1
          dsimp only at hf2 hl2 HS
          go_wp2_with fail
          refine HR.out.mono ?_
          rintro e w6 ⟨rfl, q2, hg2, hD2, hF2, hM2, hT2⟩
          dsimp only at hD2 hT2 ⊢
          rcases Decidable.em (n2 = 0) with h0 | h0
          · subst h0
            rw [if_neg (by simp)] at HS
            have HT2 := Lib.hid (HT1.out.act hF2 hM2)
            have HDt := Lib.hid (fun (d3 : Dk Sv) (w3 : World) (hG : Dgo w6 q2 d2 d3 w3) => hDt.out _ _ (Dgo.trans hg2 hF2 hM2 hT2 hG))
            have HF2 := Lib.hid hf2
            have Hg2 := Lib.hid (hg2.trans Hg1.out)
            have HD2 := Lib.hid hD2
            rw [show errv 0 = Value.nilIface from rfl]
            clear HR hD2 hF2 hM2 hT2 hg2 hf2 HT1 hDt HD1
            go_wp2_with fail
            go_roundw
            case rel => exact ⟨i + 1, d2, true, q2, hlt, by go_num, rfl, Hg2.out, HD2.out, HF2.out, by omega, HT2.out, HS, HDt⟩
            case measure => simp [intOf]; omega
          · obtain ⟨ev, hev⟩ := errv_ifc h0
            rw [if_pos h0] at HS
            have HXX := Lib.hid (show sOpen Sv.nil d = (d2, n2) from by rw [HX.out, HS.out]; dsimp only; rw [if_pos h0])
            have HGo := Lib.hid (OpG.bad HXX.out h0 (hDt.out d2 w6 ⟨q2, hg2, hD2, hF2, hM2, hT2⟩))
            rw [hev] at HGo ⊢
            clear HR hD2 hF2 hM2 hT2 hg2 hf2 HT1 hDt HD1 hev
            go_wp2_with fail
            go_ret2
            exact HGo.out
      · have hI : (m.length : Int) ≤ (i : Int) := by omega
        have hdr : m.drop i = [] := List.drop_of_length_le (by omega)
        have HS := Lib.hid (show sSweep Sv.nil m d false = (d1, 0, sw) from by rw [hsw.out, hdr]; rfl)
        clear hsw hdr
        cases sw with
        | false =>
          have HXX := Lib.hid (show sOpen Sv.nil d = (d1, 0) from by rw [HX.out, HS.out]; rfl)
          have HGo := Lib.hid (OpG.good HXX.out HGq.out (hDt.out d1 wr (Dgo.of hD1 (Frd.of_below (Below.refl _ _)) rfl rfl)))
          clear hD1 hT1 hDt
          go_wp2_with fail
          go_ret2
          exact HGo.out
        | true =>
          have HXX := Lib.hid (show sOpen Sv.nil d = dSync d1 from by rw [HX.out, HS.out]; rfl)
          have HY := Lib.hid (Sync_any hD1 hf1)
          rw [hg1] at HY
          generalize dSync d1 = r at *
          obtain ⟨d2, n2⟩ := r
          clear hT1 hD1 hg1
          go_wp2_with fail
          refine HY.out.mono ?_
          rintro e w6 ⟨rfl, hG⟩
          dsimp only at hG ⊢
          rcases Decidable.em (n2 = 0) with h0 | h0
          · subst h0
            have HGo := Lib.hid (OpG.good HXX.out HGq.out (hDt.out _ _ hG))
            rw [show errv 0 = Value.nilIface from rfl]
            clear hG hDt HY
            go_wp2_with fail
            go_ret2
            exact HGo.out
          · obtain ⟨ev, hev⟩ := errv_ifc h0
            have HGo := Lib.hid (OpG.bad HXX.out h0 (hDt.out _ _ hG))
            rw [hev] at HGo ⊢
            clear hG hDt HY hev
            go_wp2_with fail
            go_ret2
            exact HGo.out
end Go.Proofs.YtabnndjdkjkciaaGreatDoor

namespace Go.Proofs.YtabnndjdkjkciaaGreatDoor
open Go.RowKit Go.Maps Go.Sort
attribute [local go_sem ↓] Go.wp_at_zero Go.wp_at_succ

theorem Fok.dk0 (r : Int) : Fok (dk0 r) := ⟨by show -1 ≤ (-1 : Int); omega, by show (-1 : Int) ≤ 9223372036854775807; omega⟩
/-- opened without an error -/
theorem OpG.ok {w w' : World} {q : Fp} {d d1 : Dk Sv} {e : Ending} (h : OpG w q d e w') (hX : sOpen Sv.nil d = (d1, 0)) : ∃ q' gs, e = .returned (.tuple #[.pointer (some ⟨gs, 0, none⟩), .nilIface]) ∧ q'.g = q.g ∧ Frd q w w' ∧ (∀ i, q'.M i → q.M i ∨ w.heap.size ≤ i) ∧ StM w' gs q' d1 ∧ w.heap.size ≤ gs := by
  obtain ⟨q', hg, hD, hF, hM, hT, h0⟩ := h
  rw [hX] at h0 hD
  rcases h0 with ⟨-, gs, he, hS, hgs⟩ | ⟨h0, -⟩
  · exact ⟨q', gs, he, hg, hF, hM, hS, hgs⟩
  · exact absurd rfl h0
end Go.Proofs.YtabnndjdkjkciaaGreatDoor

namespace Go.Proofs.YtabnndjdkjkciaaGreatDoor
open Go.RowKit Go.Maps Go.Sort
attribute [local go_sem ↓] Go.wp_at_zero Go.wp_at_succ

section
variable {β : Type}
variable {f : β → Value} {P : Program} {K T E : TypeId} {w w' : World} {b n : Nat} {l : List (Bs × β)}
variable {ops : Array Oper} {rest : List Oper} {o : Oper} {a : Act} {Q : Exit → Act → World → Prop}
end
end Go.Proofs.YtabnndjdkjkciaaGreatDoor

namespace Go.Proofs.YtabnndjdkjkciaaGreatDoor
open Go.ChangeShapes Go.WideShapes Go.ChangeAt Go.RowKit Go.Deep

/-- an act: its kind, its two names, its bytes, its number, what is kept -/
structure DA where
  k : Int
  n : List UInt8
  t : List UInt8
  A : Option Addr
  c : Nat
  l : List UInt8
  f : Int
  B : Option Addr
  kc : Nat
  ks : List Bool
def dac (a : DA) : List Value := [.int .i64 a.k, .string ⟨a.n.toArray⟩, .string ⟨a.t.toArray⟩, .slice a.A a.l.length a.c, .int .i64 a.f, .slice a.B a.ks.length a.kc]
def SlZ (w : World) (B : Option Addr) (kc : Nat) (ks : List Bool) : Prop := Sl w 1 B ks.length kc (ks.map Value.bool)
/-- what is so of every act's parts -/
def DAok (w : World) (a : DA) : Prop := SlB w a.A a.c a.l ∧ SlZ w a.B a.kc a.ks ∧ I64 a.k ∧ I64 a.f ∧ a.n.length ≤ maxLen ∧ a.t.length ≤ maxLen
def SlDA (w : World) (A : Option Addr) (c : Nat) (s : List DA) : Prop := Sl w 6 A s.length c (s.flatMap dac) ∧ ∀ a ∈ s, DAok w a
theorem DAok.below {w w' : World} {a : DA} (h : DAok w a) (hb : Below w.heap.size w w') : DAok w' a := ⟨Sl.below h.1 hb, Sl.below h.2.1 hb, h.2.2⟩
theorem SlDA.below {w w' : World} {A : Option Addr} {c : Nat} {s : List DA} (h : SlDA w A c s) (hb : Below w.heap.size w w') : SlDA w' A c s := ⟨h.1.below hb, fun a ha => (h.2 a ha).below hb⟩
section
variable {H : Type} {enc : TypeId × Value → H} {P : Program} {w : World} {base b0 : Nat} {held : Bool} {r : Reach} {t e z b s : TypeId} {v : Value} {d : DataW H} {p : List MemPlace}
theorem bytes_cellD {n : Nat} {y : DataW H × List MemPlace} (ht : P.underlying t = some (.slice e)) (he : P.underlying e = some (.int .u8)) (hC : P.cellsOf e = 1) (h : DataW.trod enc P w base (fun _ => true) held n t [v] = some y) :
    ∃ (A : Option Addr) (c : Nat) (l : List UInt8), v = .slice A l.length c ∧ SlB w A c l := by
  rcases open_ints ht he hC h with ⟨hcs, _⟩ | ⟨x, l, c', zs, hcs, _, hl, hm, hz, _, hcell, hwz⟩
  · simp at hcs
    subst hcs
    exact ⟨none, 0, [], rfl, Sl.none_ _ _⟩
  · simp at hcs
    subst hcs
    simp only [if_true] at hz
    have hs := row_reads hl hm hz hcell
    have hw : ∀ z ∈ zs.take l, (Lit.int .u8 z).wf = true := fun z hz => hwz z (List.mem_of_mem_take hz)
    have hm : (zs.take l).map (Value.int .u8) = bvs ((zs.take l).map fun z => UInt8.ofNat z.toNat) := by
      rw [bvs, List.map_map]
      refine List.map_congr_left fun z hz => ?_
      have hb := bounds_u8 (hw z hz)
      simp only [Function.comp, bv, UInt8.toNat_ofNat']
      congr 1
      omega
    rw [hm] at hs
    have hlen : ((zs.take l).map fun z => UInt8.ofNat z.toNat).length = l := by simp; omega
    refine ⟨some x, c', (zs.take l).map fun z => UInt8.ofNat z.toNat, by rw [hlen], ?_⟩
    show Sl w 1 _ (List.map _ _).length c' _
    rw [hlen]
    exact hs
theorem bools_cell {n : Nat} {y : DataW H × List MemPlace} (ht : P.underlying t = some (.slice z)) (he : P.underlying z = some .bool) (hC : P.cellsOf z = 1) (h : DataW.trod enc P w base (fun _ => true) held n t [v] = some y) :
    ∃ (A : Option Addr) (c : Nat) (l : List Bool), v = .slice A l.length c ∧ SlZ w A c l := by
  rcases open_slice1 ht hC h with ⟨hcs, _⟩ | ⟨a, len, cap, m, nn, V, D, Pl, hcs, _, hl, hm, hmm, _, hi⟩
  · simp at hcs
    subst hcs
    exact ⟨none, 0, [], rfl, Sl.none_ _ _⟩
  · simp at hcs
    subst hcs
    simp only [if_true] at hmm
    obtain ⟨l, hll, hlr⟩ := list_choice (fun i b => w.cell? (a.add i) = some (.bool b)) len fun i hi' => by
      obtain ⟨h1, h2⟩ := hi i (by omega)
      obtain ⟨b, hb, _⟩ := DataW.trod_bool he h2
      simp at hb
      exact ⟨b, by rw [h1, hb]⟩
    refine ⟨some a, cap, l, by rw [hll], by simp, by omega, hm, (fun h => by cases h), fun j u hj => ⟨a, rfl, ?_⟩⟩
    obtain ⟨hjl, rfl⟩ := List.getElem?_eq_some_iff.1 hj
    rw [List.length_map] at hjl
    rw [List.getElem_map]
    exact hlr j hjl
theorem string_cell {n : Nat} {y : DataW H × List MemPlace} (ht : P.underlying t = some .string) (h : DataW.trod enc P w base (fun _ => true) held n t [v] = some y) :
    ∃ l : List UInt8, v = .string ⟨l.toArray⟩ ∧ l.length ≤ maxLen := by
  obtain ⟨s, hs, _, hz⟩ := DataW.trod_string ht h
  simp at hs
  subst hs
  exact ⟨s.data.toList, rfl, hz⟩
theorem open_dacts {f0 f1 f2 f3 f4 f5 : Field} (ht : P.underlying t = some (.slice b)) (hs : P.underlying b = some (.struct #[f0, f1, f2, f3, f4, f5])) (h0 : P.underlying f0.type = some (.int .i64)) (h1 : P.underlying f1.type = some .string) (h2 : P.underlying f2.type = some .string) (h3 : P.underlying f3.type = some (.slice e)) (h4 : P.underlying f4.type = some (.int .i64)) (h5 : P.underlying f5.type = some (.slice z))
    (he : P.underlying e = some (.int .u8)) (hz : P.underlying z = some .bool) (hCe : P.cellsOf e = 1) (hCz : P.cellsOf z = 1) (hone : oneCellFields P #[f0, f1, f2, f3, f4, f5] = true) (hC : P.cellsOf b = 6) (hv : Value.okWide P w r b0 t v) (h : DataW.Trod enc P w base (fun _ => true) held t v d p) :
    ∃ (A : Option Addr) (c : Nat) (l : List DA), v = .slice A l.length c ∧ SlDA w A c l := by
  obtain ⟨A, c, l, rfl, hl, hq⟩ := open_structs dac (DAok w) (fun _ => rfl) ht hs hone hC (by
    intro vs hl hf
    obtain ⟨u0, n0, y0, e0, t0⟩ := hf 0 f0 rfl
    obtain ⟨u1, n1, y1, e1, t1⟩ := hf 1 f1 rfl
    obtain ⟨u2, n2, y2, e2, t2⟩ := hf 2 f2 rfl
    obtain ⟨u3, n3, y3, e3, t3⟩ := hf 3 f3 rfl
    obtain ⟨u4, n4, y4, e4, t4⟩ := hf 4 f4 rfl
    obtain ⟨u5, n5, y5, e5, t5⟩ := hf 5 f5 rfl
    obtain ⟨k, rfl, hk⟩ := int_cell h0 t0
    obtain ⟨nm, rfl, hn⟩ := string_cell h1 t1
    obtain ⟨tw, rfl, ht⟩ := string_cell h2 t2
    obtain ⟨A, c, l, rfl, hb⟩ := bytes_cellD h3 he hCe t3
    obtain ⟨f, rfl, hfi⟩ := int_cell h4 t4
    obtain ⟨B, kc, ks, rfl, hks⟩ := bools_cell h5 hz hCz t5
    match vs, hl with
    | [x0, x1, x2, x3, x4, x5], _ =>
      simp at e0 e1 e2 e3 e4 e5
      exact ⟨⟨k, nm, tw, A, c, l, f, B, kc, ks⟩, by simp [dac, e0, e1, e2, e3, e4, e5], hb, hks, hk, hfi, hn, ht⟩) hv h
  exact ⟨A, c, l, rfl, hl, hq⟩
end
end Go.Proofs.YtabnndjdkjkciaaGreatDoor

namespace Go.Proofs.YtabnndjdkjkciaaGreatDoor
open Go.RowKit Go.Maps Go.Sort
attribute [local go_sem ↓] Go.wp_at_zero Go.wp_at_succ

def DA.long (a : DA) : Bool := decide (60 < a.n.length) || decide (60 < a.t.length) || decide (60 < a.ks.length) || decide (300 < a.l.length ∧ a.l.length ≤ 65536) || decide (66000 < a.l.length)
def dLong (s : List DA) (most : Int) : Bool := s.any DA.long || decide (most < s.length)
theorem dLong_at {s : List DA} {most : Int} {k : Nat} (hk : k < s.length) (h : s[k].long = true) : dLong s most = true := by
  unfold dLong
  rw [List.any_eq_true.2 ⟨s[k], List.getElem_mem hk, h⟩]
  rfl
theorem dLong_none {s : List DA} {most : Int} (h : ∀ i (hi : i < s.length), s[i].long = false) : dLong s most = decide (most < s.length) := by
  unfold dLong
  rw [List.any_eq_false.2 fun x hx => by
    obtain ⟨i, hi, rfl⟩ := List.getElem_of_mem hx
    simp [h i hi]]
  rfl
theorem DA.short {a : DA} (h : a.long = false) : a.n.length ≤ 60 ∧ a.t.length ≤ 60 ∧ a.ks.length ≤ 60 ∧ a.l.length ≤ 66000 ∧ (a.l.length ≤ 300 ∨ 65536 < a.l.length) := by
  unfold DA.long at h
  simp only [Bool.or_eq_false_iff, decide_eq_false_iff_not] at h
  omega
theorem dLong_short {s : List DA} {most : Int} (h : dLong s most = false) : (s.length : Int) ≤ most ∧ ∀ a ∈ s, a.long = false := by
  unfold dLong at h
  simp only [Bool.or_eq_false_iff, decide_eq_false_iff_not] at h
  refine ⟨by omega, fun a ha => ?_⟩
  have := List.any_eq_false.1 h.1 a ha
  simpa using this
set_option maxRecDepth 100000 in
set_option maxHeartbeats 1000000 in
theorem DLong_any {A : Option Addr} {c : Nat} {s : List DA} (w : World) (h : SlDA w A c s) (most : Int) : Calls Tryz.prog 27 #[.slice A s.length c, .int .i64 most] w fun e w' => e = .returned (.bool (dLong s most)) ∧ Below w.heap.size w w' := by
  have hsl : s.length ≤ maxLen := Nat.le_trans h.1.2.1 h.1.2.2.1
  unfold maxLen at hsl
  have H := Lib.hid h
  clear h
  go_enter Tryz.func27, Tryz.ntmps27
  go_wp2_with fail
  go_loopw [9] (fun x wr => ∃ k : Nat, k ≤ s.length ∧ x = .int .i64 k ∧ (∀ i (hi : i < s.length), i < k → s[i].long = false) ∧ Below w.heap.size w wr) (fun x w => s.length - (intOf x).toNat)
  case atStart => exact ⟨0, Nat.zero_le _, rfl, (fun i _ hi => by omega), Below.refl _ _⟩
  case round =>
    obtain ⟨k, hk, rfl, hno, hb⟩ := hrel
    by_cases hlt : k < s.length
    · have hS := H.out.below hb
      obtain ⟨ad, b, o, hA, had, hcc⟩ := Sl.atS (f := dac) (size := 6) (fun _ => rfl) (by omega) hS.1 hlt
      have hc0 := hcc 0 _ rfl
      have hc1 := hcc 1 _ rfl
      have hc2 := hcc 2 _ rfl
      have hc3 := hcc 3 _ rfl
      have hc4 := hcc 4 _ rfl
      have hc5 := hcc 5 _ rfl
      rw [Nat.add_zero] at hc0
      have hok := hS.2 _ (List.getElem_mem hlt)
      clear hcc hS
      generalize hx : s[k] = x at *
      obtain ⟨kd, nm, tt, A1, c1, l1, ff, B1, kc, ks⟩ := x
      obtain ⟨q1, q2, -, -, q5, q6⟩ := hok
      have q7 : l1.length ≤ maxLen := Nat.le_trans q1.2.1 q1.2.2.1
      have q8 : ks.length ≤ maxLen := Nat.le_trans q2.2.1 q2.2.2.1
      clear q1 q2
      dsimp only at *
      unfold maxLen at *
      rw [hA] at *
      clear hA
      have hbn := bel_alloc hb (.cells #[.int .i64 kd, .string ⟨nm.toArray⟩, .string ⟨tt.toArray⟩, .slice A1 l1.length c1, .int .i64 ff, .slice B1 ks.length kc] 100)
      rcases Nat.lt_or_ge 60 nm.length with g1 | g1
      · have i1 : (60 : Int) < (nm.length : Int) := by omega
        have HE := Lib.hid (dLong_at (most := most) hlt (by rw [hx]; unfold DA.long; simp; omega))
        clear hno hx
        go_wp2_with fail
        go_ret
        exact ⟨by rw [HE.out]; rfl, hbn⟩
      have i1 : (nm.length : Int) ≤ 60 := by omega
      rcases Nat.lt_or_ge 60 tt.length with g2 | g2
      · have i2 : (60 : Int) < (tt.length : Int) := by omega
        have HE := Lib.hid (dLong_at (most := most) hlt (by rw [hx]; unfold DA.long; simp; omega))
        clear hno hx
        go_wp2_with fail
        go_ret
        exact ⟨by rw [HE.out]; rfl, hbn⟩
      have i2 : (tt.length : Int) ≤ 60 := by omega
      rcases Nat.lt_or_ge 60 ks.length with g3 | g3
      · have i3 : (60 : Int) < (ks.length : Int) := by omega
        have HE := Lib.hid (dLong_at (most := most) hlt (by rw [hx]; unfold DA.long; simp; omega))
        clear hno hx
        go_wp2_with fail
        go_ret
        exact ⟨by rw [HE.out]; rfl, hbn⟩
      have i3 : (ks.length : Int) ≤ 60 := by omega
      rcases Nat.lt_or_ge 300 l1.length with g4 | g4
      · have i4 : (300 : Int) < (l1.length : Int) := by omega
        rcases Nat.lt_or_ge 65536 l1.length with g5 | g5
        · have i5 : (65536 : Int) < (l1.length : Int) := by omega
          rcases Nat.lt_or_ge 66000 l1.length with g6 | g6
          · have i6 : (66000 : Int) < (l1.length : Int) := by omega
            have HE := Lib.hid (dLong_at (most := most) hlt (by rw [hx]; unfold DA.long; simp; omega))
            clear hno hx
            go_wp2_with fail
            go_ret
            exact ⟨by rw [HE.out]; rfl, hbn⟩
          · have i6 : (l1.length : Int) ≤ 66000 := by omega
            have hno2 := Lib.hid (show ∀ i (hi : i < s.length), i < k + 1 → s[i].long = false from fun i hi hi2 => by
              rcases Nat.lt_or_ge i k with h1 | h1
              · exact hno i hi h1
              · obtain rfl : i = k := by omega
                rw [hx]; unfold DA.long; simp; omega)
            clear hno hx
            go_wp2_with fail
            go_roundw
            case rel => exact ⟨k + 1, hlt, rfl, hno2.out, hbn⟩
            case measure => simp [intOf]; omega
        · have i5 : (l1.length : Int) ≤ 65536 := by omega
          have HE := Lib.hid (dLong_at (most := most) hlt (by rw [hx]; unfold DA.long; simp; omega))
          clear hno hx
          go_wp2_with fail
          go_ret
          exact ⟨by rw [HE.out]; rfl, hbn⟩
      · have i4 : (l1.length : Int) ≤ 300 := by omega
        have i6 : (l1.length : Int) ≤ 66000 := by omega
        have hno2 := Lib.hid (show ∀ i (hi : i < s.length), i < k + 1 → s[i].long = false from fun i hi hi2 => by
          rcases Nat.lt_or_ge i k with h1 | h1
          · exact hno i hi h1
          · obtain rfl : i = k := by omega
            rw [hx]; unfold DA.long; simp; omega)
        clear hno hx
        go_wp2_with fail
        go_roundw
        case rel => exact ⟨k + 1, hlt, rfl, hno2.out, hbn⟩
        case measure => simp [intOf]; omega
    · have hke : k = s.length := by omega
      have HE := Lib.hid (dLong_none (most := most) fun i hi => hno i hi (by omega))
      subst hke
      clear hno
      go_wp2_with fail
      go_ret
      exact ⟨by rw [HE.out]; rfl, hb⟩
end Go.Proofs.YtabnndjdkjkciaaGreatDoor

namespace Go.Proofs.YtabnndjdkjkciaaGreatDoor
open Go.RowKit Go.Maps Go.Sort
attribute [local go_sem ↓] Go.wp_at_zero Go.wp_at_succ

theorem SlB.ltB {w : World} {A : Option Addr} {c : Nat} {l : Bs} (h : SlB w A c l) (hne : l ≠ []) {ad : Addr} (hA : A = some ad) : ad.block < w.heap.size := by
  obtain ⟨ad', e, hc⟩ := Sl.at1 (f := bv) (l := l) h (k := 0) (List.length_pos_iff.2 hne)
  rw [hA] at e
  injection e with e
  subst e
  have := World.block_lt_of_cell? _ _ hc
  rwa [addr_add_block] at this
theorem SlZ.ltB {w : World} {B : Option Addr} {kc : Nat} {ks : List Bool} (h : SlZ w B kc ks) (hne : ks ≠ []) {ad : Addr} (hA : B = some ad) : ad.block < w.heap.size := by
  have hl : 0 < ks.length := List.length_pos_iff.2 hne
  obtain ⟨ad', e, hc⟩ := h.2.2.2.2 0 _ (by rw [List.getElem?_map, List.getElem?_eq_getElem hl]; rfl)
  rw [hA] at e
  injection e with e
  subst e
  have := World.block_lt_of_cell? _ _ hc
  rwa [addr_add_block] at this
end Go.Proofs.YtabnndjdkjkciaaGreatDoor

namespace Go.Proofs.YtabnndjdkjkciaaGreatDoor
open Go.RowKit Go.Maps Go.Sort
attribute [local go_sem ↓] Go.wp_at_zero Go.wp_at_succ

section
variable {α : Type}
end
end Go.Proofs.YtabnndjdkjkciaaGreatDoor

namespace Go.Proofs.YtabnndjdkjkciaaGreatDoor
open Go.RowKit Go.Maps Go.Sort
attribute [local go_sem ↓] Go.wp_at_zero Go.wp_at_succ

section
variable {α : Type}
theorem shown_add (d : Dk α) (c : Chg α) : (dAdd d c).shown = fdo d.shown c := fdos_snoc _ _ _
theorem shown_write (d : Dk α) (n : Bs) (v : α) : (dAdd d ⟨0, n, [], v⟩).shown = gput n v d.shown := by
  rw [shown_add]
  exact fdo_w rfl
end
/-! ### maps beside a disk -/
section
variable {β γ : Type} {f : β → Value} {g : γ → Value} {w0 w w' : World} {q q' : Fp} {d : Dk Sv} {b b2 : Nat} {l : List (Bs × β)} {l2 : List (Bs × γ)}
end
end Go.Proofs.YtabnndjdkjkciaaGreatDoor

namespace Go.Proofs.YtabnndjdkjkciaaGreatDoor
open Go.RowKit Go.Maps Go.Sort
attribute [local go_sem ↓] Go.wp_at_zero Go.wp_at_succ

section
variable {α : Type}
end
theorem begun_head {b : UInt8} {r : Bs} : isBegun (b :: r) = (126 == b) := by
  show ((126 == b) && true) = _
  rw [Bool.and_true]
section
variable {β : Type} {f : β → Value} {P : Program} {K T E : TypeId} {w w' : World} {b n : Nat} {l : List (Bs × β)}
variable {ops : Array Oper} {rest : List Oper} {o : Oper} {a : Act} {Q : Exit → Act → World → Prop}
end
end Go.Proofs.YtabnndjdkjkciaaGreatDoor
