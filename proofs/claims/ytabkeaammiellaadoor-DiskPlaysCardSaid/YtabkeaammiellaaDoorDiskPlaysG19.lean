/- WHAT IT HOLDS: the law DiskPlays, walked. -/
import Derived.Test.YtabkeaammiellaaDoorDiskPlaysG18
namespace Go.Proofs.YtabkeaammiellaaDoor
open Go.RowKit Go.Maps Go.Sort
attribute [local go_sem ↓] Go.wp_at_zero Go.wp_at_succ

/-- while a disk and the document's are played on: the document's lies in a block of its own -/
structure PlS (w W : World) (g b : Nat) (i : Nat) (q : Fp) (d : Dk Sv) (A : Option Addr) (c : Nat) (B : Option Addr) (k : Nat) : Prop where
  g : q.g = g
  dsk : Dsk W q d
  fk : Fok d
  fro : Fro w W q
  blk : Blk W b 56 (rda (d.map Sv.l) A c B k)
  blo : w.heap.size ≤ b
  R : Rdk (fun j => ¬ q.M j ∧ j ≠ b) W (d.map Sv.l) A c B k
  ap : ¬ q.M b
  sz : d.sure.length + d.pend.length ≤ i
section
variable {w W W' : World} {g b i : Nat} {q : Fp} {d : Dk Sv} {A B : Option Addr} {c k : Nat}
theorem PlS.call (h : PlS w W g b i q d A c B k) (hb : Below W.heap.size W W') : PlS w W' g b i q d A c B k :=
  ⟨h.g, h.dsk.below hb, h.fk, h.fro.call hb, h.blk.below hb, h.blo, h.R.below hb, h.ap, h.sz⟩
theorem rda_byte (m : Dk Bs) (A B : Option Addr) (c k o : Nat) (x : UInt8) : (rda m A c B k)[o]? ≠ some (bv x) := by
  intro h
  match o with
  | 0 => simp [rda] at h
  | 1 => simp [rda] at h
  | 2 => simp [rda] at h
  | 3 => simp [rda] at h
  | 4 => simp [rda] at h
  | n + 5 => simp [rda] at h
theorem byte_apart {m : Dk Bs} {A' B' : Option Addr} {c' k' : Nat} {l : Bs} {A : Option Addr} {c : Nat} (hB : Blk W b 56 (rda m A' c' B' k')) (h : SlB W A c l) (hne : l ≠ []) : A.map (·.block) ≠ some b := by
  intro e
  obtain ⟨ad, hA, hc⟩ := Sl.at1 (f := bv) (l := l) h (k := 0) (List.length_pos_iff.2 hne)
  subst hA
  have hsp := World.cell?_spot hc
  have hbl : (ad.add 0).block = b := by
    rw [addr_add_block]
    injection e
  have hq : ad.add 0 = ⟨b, (ad.add 0).off, none⟩ := by
    cases h3 : ad.add 0 with
    | mk x y z => rw [h3] at hsp hbl; dsimp only at hsp hbl ⊢; rw [hbl, hsp]
  rw [hq, hB.cell] at hc
  exact rda_byte _ _ _ _ _ _ _ hc
/-- the document's disk, as it is then, is laid into its block -/
theorem PlS.next (h : PlS w W g b i q d A c B k) {q' : Fp} {d' : Dk Sv} {A' B' : Option Addr} {c' k' : Nat} (hg : q'.g = q.g) (hD : Dsk W' q' d') (hf : Fok d') (hF : Frd q W W') (hM : ∀ j, q'.M j → q.M j ∨ W.heap.size ≤ j) (hR : Rdk (fun j => ¬ q'.M j ∧ j ≠ b) W' (d'.map Sv.l) A' c' B' k') (hl : d'.sure.length + d'.pend.length ≤ d.sure.length + d.pend.length + 1) :
    Blk W' b 56 (rda (d.map Sv.l) A c B k) ∧ ∀ W2, Wr W' W2 b → Blk W2 b 56 (rda (d'.map Sv.l) A' c' B' k') → PlS w W2 g b (i + 1) q' d' A' c' B' k' := by
  have hlt := h.blk.lt
  have hap : ¬ q'.M b := fun hq => by
    rcases hM b hq with h1 | h1
    · exact h.ap h1
    · omega
  have hB := (hF.block b hlt h.ap).trans h.blk
  refine ⟨hB, fun W2 hw hB2 => ⟨hg.trans h.g, ?_, hf, ?_, hB2, h.blo, ?_, hap, by have := h.sz; omega⟩⟩
  · refine hD.frame fun j hj => hw.block j (hD.lt hj) fun e => ?_
    injection e with e
    rw [e] at hj
    rcases hj with hj | ⟨s, hs, hne, hA⟩
    · exact hap hj
    · exact byte_apart hB (hD.rd s hs) hne hA
  · have h1 := h.fro.frd hF hM
    have h2 := h.blo
    exact ⟨h1.1.trans (hw.below h1.1.size h2), h1.2⟩
  · exact hR.sameH (fun _ _ ht => ht) hw.size fun j hj ht => hw.block j hj fun e => ht.2 (by injection e)
end
set_option maxRecDepth 100000 in
set_option maxHeartbeats 1000000 in
theorem plays_walk {A : Option Addr} {c : Nat} {s : List DA} {r : Int} (w : World) (hr : I64 r) (h : SlDA w A c s) (hl : dLong s 40 = false) :
    Calls Tryd.prog 4 #[.int .i64 r, .slice A s.length c] w fun e w' => e = .returned (.bool true) ∧ Below w.heap.size w w' := by
  have H := Lib.hid h
  have HSh := Lib.hid (dLong_short hl)
  have hs40 : s.length ≤ 40 := by have := (dLong_short hl).1; omega
  have HLg := fun W (hh : SlDA W A c s) => DLong_any W hh 40
  rw [hl] at HLg
  replace HLg := Lib.hid HLg
  clear h hl
  go_enter Tryd.func4, Tryd.ntmps4
  go_wp2_with fail
  refine (Alive_any _).mono ?_
  rintro e w1 ⟨rfl, hb1⟩
  go_wp2_with fail
  refine (HLg.out _ (H.out.below hb1)).mono ?_
  rintro e w2 ⟨rfl, hb2⟩
  have hb := bel_call hb1 hb2
  clear hb1 hb2 HLg
  go_wp2_with fail
  refine (New_any r w2).mono ?_
  rintro e w3 (⟨hro, rfl, hb3⟩ | ⟨hro, q, rfl, hD, hM, hb3⟩)
  · have hN := KNew_any r w3
    have HN := Lib.hid (show Calls Tryd.prog 20 #[.int .i64 r] w3 fun e w' => e = .returned (.tuple #[.agg rdz, .int .i64 1]) ∧ Below w3.heap.size w3 w' from hN.mono fun e w' ⟨h1, h2⟩ => ⟨by rcases h1 with ⟨-, h1⟩ | ⟨h0, -⟩; exact h1; omega, h2⟩)
    have HNm := Lib.hid (fun W => num_any 1 W)
    rw [show errv 1 = Value.iface 64 (.int .i64 1) from rfl] at HNm ⊢
    have hbb := bel_call hb hb3
    clear hN hb hb3 hro
    go_wp2_with fail
    refine HN.out.mono ?_
    rintro e w4 ⟨rfl, hb4⟩
    have hb5 := bel_call hbb hb4
    go_wp2_with fail
    refine (HNm.out _).mono ?_
    rintro e w5 ⟨rfl, rfl⟩
    have HB := Lib.hid (bel_alloc hb5 (.cells rdz 56))
    go_wp2_with fail
    go_ret
    exact ⟨rfl, HB.out⟩
  · have hN := KNew_any r w3
    have HN := Lib.hid (show Calls Tryd.prog 20 #[.int .i64 r] w3 fun e w' => e = .returned (.tuple #[.agg (rda (dk0R r) none 0 none 0), .int .i64 0]) ∧ Below w3.heap.size w3 w' from hN.mono fun e w' ⟨h1, h2⟩ => ⟨by rcases h1 with ⟨h0, -⟩ | ⟨-, h1⟩; omega; exact h1, h2⟩)
    rw [show errv 0 = Value.nilIface from rfl]
    have HF := Lib.hid (show Fro w w3 q from ⟨bel_call hb hb3, fun i hi => Nat.le_trans hb.size (hM i hi)⟩)
    have HD := Lib.hid hD
    clear hN hb hb3 hM hD hro
    go_wp2_with fail
    refine HN.out.mono ?_
    rintro e w4 ⟨rfl, hb4⟩
    have hP : PlS w (w4.alloc (.cells (rda (dk0R r) none 0 none 0) 56)) q.g w4.heap.size 0 q (dk0 r) none 0 none 0 := by
      have hbn := bel_alloc hb4 (.cells (rda (dk0R r) none 0 none 0) 56)
      have hF4 := HF.out.call hb4
      exact ⟨rfl, HD.out.below hbn, ⟨by show -1 ≤ (-1 : Int); omega, by show (-1 : Int) ≤ 9223372036854775807; omega⟩, HF.out.call hbn, Blk.new _ _ _, hF4.1.size, ⟨Sl.none_ _ _, (fun j hj => by cases hj), Sl.none_ _ _, (fun j hj => by cases hj)⟩, fun hq => by have := (HD.out.below hb4).ltM hq; omega, Nat.le_refl _⟩
    have HP := Lib.hid hP
    clear HN HF HD hb4 hP
    generalize hgg : q.g = g at *
    unfold rda
    go_wp2_with fail
    generalize w4.heap.size = b at *
    go_loopw [45] (fun x wr => ∃ (i : Nat) (q : Fp) (d : Dk Sv) (E : Option Addr) (n : Nat) (B : Option Addr) (k : Nat), i ≤ s.length ∧ x = .int .i64 i ∧ PlS w wr g b i q d E n B k) (fun x w => s.length - (intOf x).toNat)
    case atStart => exact ⟨0, q, dk0 r, none, 0, none, 0, Nat.zero_le _, rfl, HP.out⟩
    case round =>
      clear HP hgg
      clear q
      obtain ⟨i, q, d, E, n, B, k, hi, rfl, hP⟩ := hrel
      by_cases hlt : i < s.length
      · have hS := H.out.below hP.fro.1
        obtain ⟨ad, bk, o, hA, had, hcc⟩ := Sl.atS (f := dac) (size := 6) (fun _ => rfl) (by omega) hS.1 hlt
        have hc0 := hcc 0 _ rfl
        have hc1 := hcc 1 _ rfl
        have hc2 := hcc 2 _ rfl
        have hc3 := hcc 3 _ rfl
        have hc4 := hcc 4 _ rfl
        have hc5 := hcc 5 _ rfl
        rw [Nat.add_zero] at hc0
        have hok := hS.2 _ (List.getElem_mem hlt)
        have hok0 := H.out.2 _ (List.getElem_mem hlt)
        have hsh := HSh.out.2 _ (List.getElem_mem hlt)
        clear hcc hS
        generalize s[i] = x at *
        have hb5 := below_new wr (.cells (acta x) 40)
        have hP5 := hP.call hb5
        have HDo := Lib.hid (DoA_any (P := fun j => j ≠ b) (L := w.heap.size) x hP5.dsk hP5.fk hP5.R (fun j hj => by have := hP5.blk.lt; omega) ⟨Sl.below hok.1 hb5, Sl.below hok.2.1 hb5⟩ (fun hne ad hA => SlB.ltB hok0.1 hne hA) (fun hne ad hA => SlZ.ltB hok0.2.1 hne hA) hP5.fro.2 hP5.fro.1.size (by have := hok.2.2.2.1; unfold I64 at this; omega) hsh (by have := hP5.sz; omega))
        have hBx := Blk.new wr 40 (acta x)
        obtain ⟨y0, y1, y2, y3, y4, y5⟩ := hBx.six
        obtain ⟨r0, r1, r2, r3, r4, -⟩ := hP5.blk.fiveC
        rw [hP5.g] at HDo
        have HP5 := Lib.hid hP5
        subst hA
        clear hok hok0 hsh hb5 hP hP5 hBx
        unfold acta at *
        go_wp2_with fail
        refine HDo.out.mono ?_
        clear HDo y0 y1 y2 y3 y4 y5 r0 r1 r2 r3 r4
        rintro e w6 ⟨q6, d6, A6, c6, B6, k6, rfl, hg6, hD6, hf6, hF6, hM6, hR6, hl6⟩
        have hP6 := HP5.out.next (by rw [hg6, HP5.out.g]) hD6 hf6 hF6 hM6 hR6 hl6
        obtain ⟨hB6, hN6⟩ := hP6
        obtain ⟨r0, r1, r2, r3, r4, rf0, rf1, rf2, rf3, rf4⟩ := hB6.fiveC
        have HN6 := Lib.hid hN6
        have HB6 := Lib.hid hB6
        have hbl := hB6.lt
        clear hN6 hB6 hD6 hf6 hF6 hM6 hR6 hl6 HP5
        unfold rda
        go_wp2_with fail
        go_roundw
        case rel => exact ⟨i + 1, q6, d6, A6, c6, B6, k6, hlt, by go_num, (HN6.out _ ((((((Wr.refl _ _).set_ 0 _).set_ 1 _).set_ 2 _).set_ 3 _).set_ 4 _) (HB6.out.st5 _ _ _ _ _)).call (below_new _ _)⟩
        case measure => simp [intOf]; omega
      · have hI : (s.length : Int) ≤ (i : Int) := by omega
        have HB := Lib.hid hP.fro.1
        clear hP
        go_wp2_with fail
        go_ret
        exact ⟨rfl, HB.out⟩
set_option maxRecDepth 100000 in
set_option maxHeartbeats 1000000 in
theorem plays_all {A : Option Addr} {c : Nat} {s : List DA} {r : Int} (w : World) (hr : I64 r) (h : SlDA w A c s) :
    Calls Tryd.prog 4 #[.int .i64 r, .slice A s.length c] w fun e w' => e = .returned (.bool true) ∧ Below w.heap.size w w' := by
  rcases hlg : dLong s 40 with _ | _
  · exact plays_walk w hr h hlg
  · have H := Lib.hid h
    have HLg := fun W (hh : SlDA W A c s) => DLong_any W hh 40
    rw [hlg] at HLg
    replace HLg := Lib.hid HLg
    clear h hlg
    go_enter Tryd.func4, Tryd.ntmps4
    go_wp2_with fail
    refine (Alive_any _).mono ?_
    rintro e w1 ⟨rfl, hb1⟩
    go_wp2_with fail
    refine (HLg.out _ (H.out.below hb1)).mono ?_
    rintro e w2 ⟨rfl, hb2⟩
    have hb := bel_call hb1 hb2
    go_wp2_with fail
    go_ret
    exact ⟨rfl, hb⟩
end Go.Proofs.YtabkeaammiellaaDoor
