/- WHAT IT HOLDS: vault.Add. | WHAT IT HOLDS: a disk whose files all have names, plainly; how much an opened store's disk holds. | WHAT IT HOLDS: an act done to a disk and to the document's: walked. | WHAT IT HOLDS: a vault at large: the blocks that it hangs on; its acts turn nothing else. | WHAT IT HOLDS: vault.held. | WHAT IT HOLDS: manifests appended, cloned. | WHAT IT HOLDS: manifest.Copy. -/
import Derived.Test.YtajfnmohlnkncaaGreatDoorVaultNilG01
import Derived.Test.YtajfnmohlnkncaaGreatDoorVaultNilG25
import Derived.Test.YtajfnmohlnkncaaGreatDoorVaultNilG18
import Derived.Test.YtajfnmohlnkncaaGreatDoorVaultNilG19
import Derived.Test.YtajfnmohlnkncaaGreatDoorVaultNilG20
import Derived.Test.YtajfnmohlnkncaaGreatDoorVaultNilG09
import Derived.Deep.CutBlock
import Derived.Deep.DeepCutAuto
import Derived.Test.YtajfnmohlnkncaaGreatDoorVaultNilG17
import Derived.Test.YtajfnmohlnkncaaGreatDoorVaultNilG12
import Derived.Test.YtajfnmohlnkncaaGreatDoorVaultNilG14
import Derived.Test.YtajfnmohlnkncaaGreatDoorVaultNilG08
import Derived.Test.YtajfnmohlnkncaaGreatDoorVaultNilG06
import Derived.Test.YtajfnmohlnkncaaGreatDoorVaultNilG13
namespace Go.Proofs.YtajfnmohlnkncaaGreatDoor
open Go.RowKit Go.Shelf

theorem Dgo.blk {w w' : World} {q : Fp} {d d' : Dk Sv} {g : Nat} {t : TypeId} {cs : Array Value} (h : Dgo w q d d' w') (hB : Blk w g t cs) (hn : ¬ q.M g) : Blk w' g t cs := by
  obtain ⟨q', -, -, hF, -, -⟩ := h
  exact (hF.block g hB.lt hn).trans hB
/-- an act of the disk behind what is one's own -/
def PutG (w : World) (L : List (Nat × TypeId × Array Value)) (q : Fp) (d d' : Dk Sv) (W : World) : Prop := ∃ wq, Mm w wq L [] ∧ Dgo wq q d d' W
/-- .. and a block of one's own turned -/
theorem PutG.vgo {w W W' : World} {L : List (Nat × TypeId × Array Value)} {gv gs : Nat} {q : Fp} {d d' : Dk Sv} {l : List MfV} {E : Option Addr} {cap g : Nat} (h0 : VtM w gv gs q d l E cap) (hP : PutG w L q d d' W) (hg : w.heap.size ≤ g) (hlt : ∀ wq, Mm w wq L [] → g < wq.heap.size) (hw : Wr W W' g) : Vgo w gv gs q d d' l E cap W' := by
  obtain ⟨wq, hMm, hD⟩ := hP
  obtain ⟨q', e, hV, hF, hM, hT⟩ := (h0.below hMm.bel).dgo hD
  have hs := hMm.bel.size
  have hgq := hlt wq hMm
  have hTq : ¬ Tc q' d' g := fun ht => by
    rcases hT g ht with h1 | h1
    · have := h0.st.dsk.lt h1
      omega
    · omega
  have hF2 : Frd q w W := (Frd.of_below hMm.bel).trans hF fun _ hi => .inl hi
  refine ⟨q', e, h0.own hV hg hw.size hTq (fun i hi hne => hw.block i hi (fun e => hne (by injection e))), ⟨hw.os.trans hF2.os, hw.tape.trans hF2.tape, hw.output.trans hF2.output, Nat.le_trans hF2.size hw.size, fun i hi hn => (hw.block i (Nat.lt_of_lt_of_le hi hF2.size) (fun e => by injection e with e; omega)).trans (hF2.block i hi hn)⟩, fun i hi => (hM i hi).imp id (fun h => Nat.le_trans hs h), fun i hi => (hT i hi).imp id (fun h => Nat.le_trans hs h)⟩
/-- what Add gives -/
def GivesAdd (w : World) (gv gs : Nat) (q : Fp) (d : Dk Sv) (l : List MfV) (E : Option Addr) (cap : Nat) (number place : Int) (s : Sg) (e : Ending) (w' : World) : Prop :=
  ∃ A' c', e = .returned (.tuple #[.agg (pta (vadd svl Sv.nil (fun x => ⟨A', c', x⟩) ⟨d, mvs l⟩ number place s).1), errv (vadd svl Sv.nil (fun x => ⟨A', c', x⟩) ⟨d, mvs l⟩ number place s).2.2]) ∧ Vgo w gv gs q d (vadd svl Sv.nil (fun x => ⟨A', c', x⟩) ⟨d, mvs l⟩ number place s).2.1.d l E cap w'
theorem mof_bytes (s : Sg) : (mof s).2.1.length ≤ 10000 := by
  rcases Nat.eq_zero_or_pos (mof s).2.2 with h | h
  · have h1 : mof s = ((mof s).1, (mof s).2.1, 0) := Prod.ext rfl (Prod.ext rfl h)
    exact (mof_size h1).2
  · by_cases h1 : schk s = 0
    · by_cases h2 : s.2.length = 0
      · rw [mof_none h1 h2]
        exact Nat.zero_le _
      · rw [mof_ok h1 h2] at h
        exact absurd h (Nat.lt_irrefl 0)
    · rw [mof_bad h1]
      exact Nat.zero_le _
set_option maxRecDepth 100000 in
set_option maxHeartbeats 2000000 in
theorem VAdd_any {w : World} {gv gs : Nat} {q : Fp} {d : Dk Sv} {l : List MfV} {E : Option Addr} {cap : Nat} (h : VtM w gv gs q d l E cap) (hG : Shg w) (hfo : Fok d) (hd9 : d.sure.length + d.pend.length ≤ 900) {B : Option Addr} {k : Nat} (number place f : Int) (cs : List CeV) (hs : SlC w B k cs) (hl : l.length < 100) (hp : place < 100) :
    Calls Tryz.prog 10 #[.pointer (some ⟨gv, 0, none⟩), .int .i64 number, .int .i64 place, cv f B cs.length k] w (GivesAdd w gv gs q d l E cap number place (f, cs.map ceOf)) := by
  have hM := ((Mm.start w).alloc #[.int .i64 f, .slice B cs.length k] 43).alloc (pta ptz) 37
  rw [show (w.alloc (.cells #[.int .i64 f, .slice B cs.length k] 43)).heap.size = w.heap.size + 1 from by simp] at hM
  have HS := Lib.hid (fun W (hh : Below w.heap.size w W) => (h.below hh).two)
  have H0 := Lib.hid h
  have HG := Lib.hid (fun W (hh : Below w.heap.size w W) => hG.below hh)
  have HO := Lib.hid (fun W (hh : Below w.heap.size w W) => MOf_any f cs W (hG.below hh) (hs.below hh))
  have HV := Lib.hid (fun (enc : Bs → Sv) => (show vadd svl Sv.nil enc ⟨d, mvs l⟩ number place (f, cs.map ceOf) = (if number ≠ (mvs l).length ∨ place < 0 ∨ 1023 < place then (ptz, ⟨d, mvs l⟩, 1)
    else if (mof (f, cs.map ceOf)).2.2 ≠ 0 then (ptz, ⟨d, mvs l⟩, (mof (f, cs.map ceOf)).2.2)
    else if (sPut svl Sv.nil d (label number.toNat place.toNat) (enc (mof (f, cs.map ceOf)).2.1)).2 ≠ 0 then (ptz, ⟨(sPut svl Sv.nil d (label number.toNat place.toNat) (enc (mof (f, cs.map ceOf)).2.1)).1, mvs l⟩, (sPut svl Sv.nil d (label number.toNat place.toNat) (enc (mof (f, cs.map ceOf)).2.1)).2)
    else ((mof (f, cs.map ceOf)).1, ⟨(sPut svl Sv.nil d (label number.toNat place.toNat) (enc (mof (f, cs.map ceOf)).2.1)).1, mvs l⟩, 0)) from rfl))
  rw [mvs_len] at HV
  clear h hG hs
  by_cases hr : number ≠ (l.length : Int) ∨ place < 0 ∨ 1023 < place
  · have HT := Lib.hid (fun enc => by have := HV.out enc; rw [if_pos hr] at this; exact this)
    clear HV HO HG
    by_cases c1 : number = (l.length : Int)
    · by_cases c2 : place < 0
      · have hnn : (number != (l.length : Int)) = false := by simp [c1]
        go_enter Tryz.func10, Tryz.ntmps10
        go_upto_region 1 with (fail)
        refine gen1 (T := fun W => Mm w W [(w.heap.size + 1, 37, pta ptz), (w.heap.size, 43, #[.int .i64 f, .slice B cs.length k])] []) hM (fun w1 hM => ?_)
        obtain ⟨a0, a1⟩ := HS.out _ hM.bel
        go_wp2_with (first | (refine wpl_buildPz rfl rfl ?_) | (refine wpList_store_row rfl 37 _ _ rfl (w.heap.size + 1) (pta ptz) rfl rfl 37 (pta ptz) hM.b0 (by rw [pta_size]; kernel_rfl) rfl (pta_all _) ?_))
        exact bodyPost_ret (res_ptV rfl rfl (g := w.heap.size + 1) hM.b0.row) rfl ⟨none, 0, by rw [HT.out]; rfl, by rw [HT.out]; exact H0.out.still (below_setRow hM.bel (by omega) _)⟩
      · omega
    · have hnn : (number != (l.length : Int)) = true := by simpa using c1
      go_enter Tryz.func10, Tryz.ntmps10
      go_upto_region 1 with (fail)
      refine gen1 (T := fun W => Mm w W [(w.heap.size + 1, 37, pta ptz), (w.heap.size, 43, #[.int .i64 f, .slice B cs.length k])] []) hM (fun w1 hM => ?_)
      obtain ⟨a0, a1⟩ := HS.out _ hM.bel
      go_wp2_with (first | (refine wpl_buildPz rfl rfl ?_) | (refine wpList_store_row rfl 37 _ _ rfl (w.heap.size + 1) (pta ptz) rfl rfl 37 (pta ptz) hM.b0 (by rw [pta_size]; kernel_rfl) rfl (pta_all _) ?_))
      exact bodyPost_ret (res_ptV rfl rfl (g := w.heap.size + 1) hM.b0.row) rfl ⟨none, 0, by rw [HT.out]; rfl, by rw [HT.out]; exact H0.out.still (below_setRow hM.bel (by omega) _)⟩
  · obtain ⟨y, rfl⟩ : ∃ y : Nat, place = (y : Int) := ⟨place.toNat, by omega⟩
    obtain rfl : number = (l.length : Int) := by omega
    have hnn : (((l.length : Int)) != (l.length : Int)) = false := by simp
    have hV2 := fun enc => (HV.out enc).trans (if_neg hr)
    rw [Int.toNat_natCast, Int.toNat_natCast] at hV2
    have HL := Lib.hid (fun W => Label_any l.length y W hl (by omega))
    have hlab : (label l.length y).length ≤ 9223372036854775807 := by rw [label_len (by omega) (by omega)]; decide
    have hy0 : ¬ ((y : Int) < 0) := by omega
    have hy1 : ¬ (1023 < (y : Int)) := by omega
    generalize hlb : label l.length y = lb at *
    have HW := Lib.hid hV2
    clear HV hV2 hr hlb hp
    have hmb := mof_bytes (f, cs.map ceOf)
    generalize mof (f, cs.map ceOf) = mo at *
    obtain ⟨p, b, bad⟩ := mo
    dsimp only at HW hmb
    have hpp := Lib.hid (pta_size p)
    have hpa := Lib.hid (pta_all p)
    go_enter Tryz.func10, Tryz.ntmps10
    go_upto_region 1 with (fail)
    refine gen1 (T := fun W => Mm w W [(w.heap.size + 1, 37, pta ptz), (w.heap.size, 43, #[.int .i64 f, .slice B cs.length k])] []) hM (fun w1 hM => ?_)
    obtain ⟨a0, a1⟩ := HS.out _ hM.bel
    obtain ⟨z0, z1, -, -⟩ := hM.b1.two
    go_wp2_with fail
    refine (HO.out _ hM.bel).mono ?_
    rintro e w2 ⟨A2, c2, m2, rfl, hm2, ho2, hb2⟩
    have hM2 := hM.call hb2
    have hlo := hM.bel.size
    clear hM hb2 HO a0 a1 z0 z1
    dsimp only at hm2 ⊢
    go_upto_region 6 with ((refine wpl_storeN rfl 37 _ _ rfl _ (pta p) 37 rfl rfl (by rw [hpp.out]; kernel_rfl) (by rw [hpp.out]; rfl) hpa.out ?_))
    refine gen1 (T := fun W => Mm w W [(w2.heap.size, 37, pta p), (w.heap.size + 1, 37, pta ptz), (w.heap.size, 43, #[.int .i64 f, .slice B cs.length k])] [] ∧ SlB W A2 c2 m2) ⟨hM2.alloc _ _, Sl.below ho2.sl (below_new _ _)⟩ (fun w3 hT => ?_)
    obtain ⟨hM, hsb⟩ := hT
    have hg8 := hM2.b0.lt
    have hfr : m2 ≠ [] → ∀ ad, A2 = some ad → ad.block ≠ q.g := fun _ ad hA e => by
      have h1 := (Own.lt ho2 ad.block (by rw [hA]; rfl)).1
      have h2 := H0.out.st.dsk.ltM (i := q.g) (.inl rfl)
      omega
    have hn1 : ¬ q.M (w.heap.size + 1) := fun h1 => by have := H0.out.st.dsk.ltM h1; omega
    have hn8 : ¬ q.M w2.heap.size := fun h1 => by have := H0.out.st.dsk.ltM h1; omega
    have hav : ¬ q.M gv := H0.out.av
    generalize w2.heap.size = g8 at *
    clear hM2 ho2
    rcases errv_cases bad with ⟨h0, hev⟩ | ⟨ke, hk1, hke, hev⟩
    rotate_left
    · have HT := Lib.hid (fun enc => by have h9 := HW.out enc; rw [if_pos (show bad ≠ 0 by omega)] at h9; exact h9)
      have HEV := Lib.hid hev
      rw [hev]
      clear hev HW hke
      go_wp2_with (first | (refine wpl_buildPz rfl rfl ?_) | (refine wpList_store_row rfl 37 _ _ rfl (w.heap.size + 1) (pta ptz) rfl rfl 37 (pta ptz) hM.b1 (by rw [pta_size]; kernel_rfl) rfl (pta_all _) ?_))
      exact bodyPost_ret (res_ptV rfl rfl (g := w.heap.size + 1) hM.b1.row) rfl ⟨none, 0, by rw [HT.out]; dsimp only; rw [HEV.out]; rfl, by rw [HT.out]; exact H0.out.still (below_setRow hM.bel (by omega) _)⟩
    · have HV2 := Lib.hid (fun enc => by have h9 := HW.out enc; rw [if_neg (show ¬ bad ≠ 0 by omega)] at h9; exact h9)
      rw [hev]
      clear hev HW
      go_upto_region 8 with (fail)
      have hMd := hM.drew
      have hsd : SlB (World.drew w3) A2 c2 m2 := hsb
      have hst : Blk (World.drew w3) gv 94 #[.pointer (some ⟨gs, 0, none⟩), .slice E l.length cap] ∧ Blk (World.drew w3) (w.heap.size + 1) 37 (pta ptz) ∧ Blk (World.drew w3) g8 37 (pta p) := ⟨(H0.out.below hMd.bel).bl, hMd.b1, hMd.b0⟩
      have HPut := Lib.hid (fun W (hh : Below w.heap.size w W) (hs : SlB W A2 c2 m2) => SPut_any (H0.out.below hh).st hfo hd9 lb hlab m2 hs hfr (by rw [hm2.out]; omega))
      clear hM hsb
      refine wp_region_seq (S := (fun W => Blk W gv 94 #[.pointer (some ⟨gs, 0, none⟩), .slice E l.length cap] ∧ Blk W (w.heap.size + 1) 37 (pta ptz) ∧ Blk W g8 37 (pta p))) [(0, true), (1, true), (2, true), (3, true), (4, true), (5, true), (7, true), (6, false), (8, false), (9, true)] (by kernel_rfl) (by kernel_rfl) (fun _ _ _ _ _ h => h) ?_ (fun hHeld => ?_)
      · first | with_reducible exact hst | with_reducible exact hHeld
      refine gen0 (T := fun W => ((fun W => Blk W gv 94 #[.pointer (some ⟨gs, 0, none⟩), .slice E l.length cap] ∧ Blk W (w.heap.size + 1) 37 (pta ptz) ∧ Blk W g8 37 (pta p))) W ∧ Mm w W [(g8, 37, pta p), (w.heap.size + 1, 37, pta ptz), (w.heap.size, 43, #[.int .i64 f, .slice B cs.length k])] [] ∧ SlB W A2 c2 m2 ∧ True) ?_ (fun wq1 hT => ?_)
      · exact ⟨by (with_reducible exact hst), by (with_reducible assumption), by (with_reducible assumption), trivial⟩
      (try clear f0 f1 f2 f3 f4 f5 f6 f7 f8 f9 f10 f11)
      obtain ⟨hHeld, f0, f1, -⟩ := hT
      refine seq_take (oi := ⟨some 47, _, _, _, _, _⟩) (v := ?_) rfl (Or.inl ⟨by kernel_rfl, ?_⟩) (by assumption) ?_
      rotate_left
      · (intro wS hSw; (try dsimp only at hSw); have a0 := hSw.1.cell 0; have a1 := hSw.1.cell 1; clear hSw; refine execV (fun rho hk1 hk2 hk3 hk => ?_); have e0_ := (hk 0).trans (evalP fg0); clear hk; go_simp; (try with_reducible rfl))
      ((with_reducible refine wpSeq_put ?_; go_big_move))
      refine seq_take (oi := ⟨some 48, _, _, _, _, _⟩) (v := ?_) rfl (Or.inl ⟨by kernel_rfl, ?_⟩) (by assumption) ?_
      rotate_left
      · (intro wS hSw; (try dsimp only at hSw); have a0 := hSw.1.cell 0; have a1 := hSw.1.cell 1; clear hSw; refine execV (fun rho hk1 hk2 hk3 hk => ?_); have e47_ := (hk 47).trans (evalP (fg8 (fg8 (fg8 (fg8 (fg8 (fg1 (fg1 (fg1 (fg1 (fg1 (fg1 (fg1 fg0))))))))))))); clear hk; go_simp; (try with_reducible rfl))
      ((with_reducible refine wpSeq_put ?_; go_big_move))
      refine seq_take (oi := ⟨some 49, _, _, _, _, _⟩) (v := ?_) rfl (Or.inl ⟨by kernel_rfl, ?_⟩) (by assumption) ?_
      rotate_left
      · (intro wS hSw; (try dsimp only at hSw); have a0 := hSw.1.cell 0; have a1 := hSw.1.cell 1; clear hSw; refine execV (fun rho hk1 hk2 hk3 hk => ?_); have e48_ := (hk 48).trans (evalP (fg8 (fg8 (fg8 (fg8 (fg8 (fg8 fg0))))))); clear hk; go_simp; (try with_reducible rfl))
      ((with_reducible refine wpSeq_put ?_; go_big_move))
      refine seq_take (oi := ⟨some 50, _, _, _, _, _⟩) (v := ?_) rfl (Or.inl ⟨by kernel_rfl, ?_⟩) (by assumption) ?_
      rotate_left
      · (intro wS hSw; (try dsimp only at hSw); have a0 := hSw.1.cell 0; have a1 := hSw.1.cell 1; clear hSw; refine execV (fun rho hk1 hk2 hk3 hk => ?_); have e49_ := (hk 49).trans (evalP (fg8 (fg8 (fg8 (fg8 (fg8 (fg8 (fg1 fg0)))))))); clear hk; go_simp; (try with_reducible rfl))
      ((with_reducible refine wpSeq_put ?_; go_big_move))
      refine seq_take (oi := ⟨some 51, _, _, _, _, _⟩) (v := ?_) rfl (Or.inl ⟨by kernel_rfl, ?_⟩) (by assumption) ?_
      rotate_left
      · (intro wS hSw; (try dsimp only at hSw); have a0 := hSw.1.cell 0; have a1 := hSw.1.cell 1; clear hSw; refine execV (fun rho hk1 hk2 hk3 hk => ?_); have e1_ := (hk 1).trans (evalP (fg1 fg0)); clear hk; go_simp; (try with_reducible rfl))
      ((with_reducible refine wpSeq_put ?_; go_big_move))
      refine seq_take (oi := ⟨some 52, _, _, _, _, _⟩) (v := ?_) rfl (Or.inl ⟨by kernel_rfl, ?_⟩) (by assumption) ?_
      rotate_left
      · (intro wS hSw; (try dsimp only at hSw); have a0 := hSw.1.cell 0; have a1 := hSw.1.cell 1; clear hSw; refine execV (fun rho hk1 hk2 hk3 hk => ?_); have e2_ := (hk 2).trans (evalP (fg1 (fg1 fg0))); clear hk; go_simp; (try with_reducible rfl))
      ((with_reducible refine wpSeq_put ?_; go_big_move))
      refine seq_take (oi := ⟨some 54, _, _, _, _, _⟩) (v := ?_) rfl (Or.inl ⟨by kernel_rfl, ?_⟩) (by assumption) ?_
      rotate_left
      · (intro wS hSw; (try dsimp only at hSw); have a0 := hSw.1.cell 0; have a1 := hSw.1.cell 1; clear hSw; refine execV (fun rho hk1 hk2 hk3 hk => ?_); have e11_ := (hk 11).trans (evalP (fg8 (fg1 (fg1 (fg1 fg0))))); clear hk; go_simp; (try with_reducible rfl))
      ((with_reducible refine wpSeq_put ?_; go_big_move))
      refine seq_step (o := ⟨some 53, _, _, _, _, _⟩) rfl (fun K hK => ?_)
      with_reducible refine wantedP (by kernel_rfl) ?_
      (go_big_op)
      (refine (HL.out _).mono ?_; rintro e w12 ⟨rfl, hb9⟩)
      go_wp2_with fail
      refine hK.out _ _ ?_ (fun _ => ?_)
      · ((try dsimp only); (exact ⟨Blk.below hHeld.1 hb9, Blk.below hHeld.2.1 hb9, Blk.below hHeld.2.2 hb9⟩))
      clear hK K
      ((try simp only [Act.put, pS0, pS1, pS2]))
      refine gen0 (T := fun W => ((fun W => Blk W gv 94 #[.pointer (some ⟨gs, 0, none⟩), .slice E l.length cap] ∧ Blk W (w.heap.size + 1) 37 (pta ptz) ∧ Blk W g8 37 (pta p))) W ∧ Mm w W [(g8, 37, pta p), (w.heap.size + 1, 37, pta ptz), (w.heap.size, 43, #[.int .i64 f, .slice B cs.length k])] [] ∧ SlB W A2 c2 m2 ∧ True) ?_ (fun wq2 hT => ?_)
      · exact ⟨by (exact ⟨Blk.below hHeld.1 hb9, Blk.below hHeld.2.1 hb9, Blk.below hHeld.2.2 hb9⟩), by (with_reducible exact f0.call hb9), by (with_reducible exact Sl.below f1 hb9), trivial⟩
      (try clear f0 f1 f2 f3 f4 f5 f6 f7 f8 f9 f10 f11)
      obtain ⟨hHeld, f0, f1, -⟩ := hT
      refine seq_step (o := ⟨some 55, _, _, _, _, _⟩) rfl (fun K hK => ?_)
      with_reducible refine wantedP (by kernel_rfl) ?_
      (go_big_op)
      (refine (HPut.out _ f0.bel f1).mono ?_; rintro e w12 ⟨A9, c9, rfl, hD9⟩)
      go_wp2_with fail
      refine hK.out _ _ ?_ (fun _ => ?_)
      · ((try dsimp only); (exact ⟨Dgo.blk hD9 hHeld.1 hav, Dgo.blk hD9 hHeld.2.1 hn1, Dgo.blk hD9 hHeld.2.2 hn8⟩))
      clear hK K
      ((try simp only [Act.put, pS0, pS1, pS2]))
      refine gen0 (T := fun W => ((fun W => Blk W gv 94 #[.pointer (some ⟨gs, 0, none⟩), .slice E l.length cap] ∧ Blk W (w.heap.size + 1) 37 (pta ptz) ∧ Blk W g8 37 (pta p))) W ∧ PutG w [(g8, 37, pta p), (w.heap.size + 1, 37, pta ptz), (w.heap.size, 43, #[.int .i64 f, .slice B cs.length k])] q d (sPut svl Sv.nil d lb ⟨A9, c9, m2⟩).1 W ∧ True) ?_ (fun wq3 hT => ?_)
      · exact ⟨by (exact ⟨Dgo.blk hD9 hHeld.1 hav, Dgo.blk hD9 hHeld.2.1 hn1, Dgo.blk hD9 hHeld.2.2 hn8⟩), by (exact ⟨_, f0, hD9⟩), trivial⟩
      (try clear f0 f1 f2 f3 f4 f5 f6 f7 f8 f9 f10 f11)
      obtain ⟨hHeld, f0, -⟩ := hT
      refine seq_take (oi := ⟨some 13, _, _, _, _, _⟩) (v := ?_) rfl (Or.inl ⟨by kernel_rfl, ?_⟩) (by assumption) ?_
      rotate_left
      · (intro wS hSw; (try dsimp only at hSw); have a0 := hSw.1.cell 0; have a1 := hSw.1.cell 1; clear hSw; refine execV (fun rho hk1 hk2 hk3 hk => ?_); have e55_ := (hk 55).trans (evalP (fg8 (fg8 (fg8 (fg8 (fg8 (fg8 (fg1 (fg1 (fg1 (fg1 (fg1 (fg1 (fg1 fg0)))))))))))))); clear hk; go_simp; (try with_reducible rfl))
      ((with_reducible refine wpSeq_put ?_; go_big_move))
      refine seq_done ?_
      have HX := HV2.out (fun x => ⟨A9, c9, x⟩)
      (try dsimp only at HX)
      rw [← hm2.out] at HX
      have HP := Lib.hid f0
      obtain ⟨hv1, hB1, hB8⟩ := hHeld
      clear HV2 hMd hsd hst HPut HL f0 hv1
      generalize hr9 : sPut svl Sv.nil d lb ⟨A9, c9, m2⟩ = r at *
      obtain ⟨d9, k9⟩ := r
      (try dsimp only at HX)
      (try dsimp only)
      rcases errv_cases k9 with ⟨h9, hev⟩ | ⟨ke, hk1, hke, hev⟩
      rotate_left
      · rw [if_pos (show k9 ≠ 0 by omega)] at HX
        have HT := Lib.hid HX
        have HEV := Lib.hid hev
        rw [hev]
        clear hev HX hke
        go_wp2_with (first | (refine wpl_buildPz rfl rfl ?_) | (refine wpList_store_row rfl 37 _ _ rfl (w.heap.size + 1) (pta ptz) rfl rfl 37 (pta ptz) hB1 (by rw [pta_size]; kernel_rfl) rfl (pta_all _) ?_))
        exact bodyPost_ret (res_ptV rfl rfl (g := w.heap.size + 1) hB1.row) rfl ⟨A9, c9, by rw [HT.out]; dsimp only; rw [HEV.out]; rfl, by rw [HT.out]; exact PutG.vgo H0.out HP.out (by omega) (fun wq h => h.b1.lt) (Wr.row _)⟩
      · rw [if_neg (show ¬ k9 ≠ 0 by omega)] at HX
        have HT := Lib.hid HX
        rw [hev]
        clear hev HX
        go_wp2_with (first | (refine wpl_loadG rfl 37 _ rfl ⟨g8, 0, none⟩ (pta p) rfl hB8.cells _ Tryz.underlying37 rfl (by rw [hpp.out]; kernel_rfl) ?_) | (refine wpList_store_row rfl 37 _ _ rfl (w.heap.size + 1) (pta p) rfl rfl 37 (pta ptz) hB1 (by rw [hpp.out]; kernel_rfl) (by rw [pta_size, hpp.out]) hpa.out ?_))
        exact bodyPost_ret (res_ptV rfl rfl (g := w.heap.size + 1) hB1.row) rfl ⟨A9, c9, by rw [HT.out]; rfl, by rw [HT.out]; exact PutG.vgo H0.out HP.out (by omega) (fun wq h => h.b1.lt) (Wr.row _)⟩
end Go.Proofs.YtajfnmohlnkncaaGreatDoor

namespace Go.Proofs.YtajfnmohlnkncaaGreatDoor

section
variable {α : Type} {d : Dk α}
/-! ### how much there is -/
theorem andThen_len {r : Dk α × Nat} {f : Dk α → Dk α × Nat} {k m : Nat} (h : r.1.sure.length + r.1.pend.length ≤ k) (hkm : k ≤ m) (hf : ∀ d : Dk α, d.sure.length + d.pend.length ≤ k → (f d).1.sure.length + (f d).1.pend.length ≤ m) : (andThen r f).1.sure.length + (andThen r f).1.pend.length ≤ m := by
  unfold andThen
  split
  · omega
  · exact hf _ h
theorem sPut_len (len : α → Nat) (z : α) (d : Dk α) (n : Bs) (v : α) : (sPut len z d n v).1.sure.length + (sPut len z d n v).1.pend.length ≤ d.sure.length + d.pend.length + 4 := by
  unfold sPut
  split
  · dsimp only; omega
  · exact andThen_len (opd_len (Opd.write len d _ v) (Nat.le_refl _)) (by omega) fun d h => andThen_len (opd_len (Opd.sync d) h) (by omega) fun d h => andThen_len (opd_len (Opd.rename z d _ _) h) (by omega) fun d h => opd_len (Opd.sync d) h
theorem sSweep_len {z : α} : ∀ (l : List Bs) (d : Dk α) (b : Bool), (sSweep z l d b).1.sure.length + (sSweep z l d b).1.pend.length ≤ d.sure.length + d.pend.length + l.length
  | [], d, b => Nat.le_refl _
  | n :: r, d, b => by
    have h1 := opd_len (Opd.remove z d n) (Nat.le_refl _)
    have h2 := sSweep_len (z := z) r (dRemove z d n).1 true
    have h3 := sSweep_len (z := z) r d b
    unfold sSweep
    split
    · split
      · dsimp only; simp only [List.length_cons]; omega
      · simp only [List.length_cons]; omega
    · simp only [List.length_cons]; omega
theorem gdel_le {l : List (Bs × α)} (k : Bs) : (gdel k l).length ≤ l.length := List.length_filter_le _ _
theorem remove_shown {z : α} (d : Dk α) (n : Bs) : (dRemove z d n).1.shown.length ≤ d.shown.length := by
  obtain ⟨s1, s2, -, -⟩ := dWorks_same d
  have hs : (dWorks d).1.shown = d.shown := by unfold Dk.shown; rw [s1, s2]
  unfold dRemove
  split
  · rw [hs]; exact Nat.le_refl _
  · split
    · dsimp only; rw [hs]; exact Nat.le_refl _
    · split
      · dsimp only; rw [hs]; exact Nat.le_refl _
      · dsimp only
        rw [shown_add, hs]
        cases hg : gget n d.shown with
        | none => rw [fdo_n (show (2 : Nat) ≠ 0 by decide) hg]; exact Nat.le_refl _
        | some v => rw [fdo_d (show (2 : Nat) ≠ 0 by decide) (show (2 : Nat) ≠ 1 by decide) hg]; exact gdel_le n
theorem sSweep_shown {z : α} : ∀ (l : List Bs) (d : Dk α) (b : Bool), (sSweep z l d b).1.shown.length ≤ d.shown.length
  | [], d, b => Nat.le_refl _
  | n :: r, d, b => by
    have h1 := remove_shown (z := z) d n
    have h2 := sSweep_shown (z := z) r (dRemove z d n).1 true
    have h3 := sSweep_shown (z := z) r d b
    unfold sSweep
    split
    · split
      · exact h1
      · omega
    · exact h3
theorem sSweep_same {z : α} : ∀ (l : List Bs) (d : Dk α) (b : Bool), (sSweep z l d b).2.1 = 0 → (sSweep z l d b).2.2 = false → b = false ∧ (sSweep z l d b).1 = d
  | [], d, b, _, h => ⟨h, rfl⟩
  | n :: r, d, b, h0, h => by
    have h2 := sSweep_same (z := z) r (dRemove z d n).1 true
    have h3 := sSweep_same (z := z) r d b
    by_cases hb : isBegun n = true
    · by_cases h9 : (dRemove z d n).2 ≠ 0
      · have e : sSweep z (n :: r) d b = ((dRemove z d n).1, (dRemove z d n).2, b) := by
          conv => lhs; unfold sSweep
          rw [if_pos hb, if_pos h9]
        rw [e] at h0
        exact absurd h0 h9
      · have e : sSweep z (n :: r) d b = sSweep z r (dRemove z d n).1 true := by
          conv => lhs; unfold sSweep
          rw [if_pos hb, if_neg h9]
        rw [e] at h0 h
        exact absurd (h2 h0 h).1 (by simp)
    · have e : sSweep z (n :: r) d b = sSweep z r d b := by
        conv => lhs; unfold sSweep
        rw [if_neg hb]
      rw [e] at h0 h ⊢
      exact h3 h0 h
/-- an opened store's disk has no more than there was -/
theorem sOpen_len {z : α} {d : Dk α} (h : (sOpen z d).2 = 0) : (sOpen z d).1.sure.length + (sOpen z d).1.pend.length ≤ d.sure.length + d.pend.length := by
  have hsh : d.shown.length ≤ d.sure.length + d.pend.length := flen_dos d.sure d.pend
  have h1 := sSweep_shown (z := z) (names d.shown) d false
  have h2 := sSweep_same (z := z) (names d.shown) d false
  unfold sOpen at *
  generalize sSweep z (names d.shown) d false = s at *
  split at h
  · cases h
  · rename_i hd
    rw [if_neg hd]
    split at h
    · rename_i h0
      exact absurd h h0
    · rename_i h0
      rw [if_neg h0]
      have h0' : s.2.1 = 0 := Decidable.byContradiction h0
      cases hb : s.2.2 with
      | false =>
        rw [if_neg (by simp)]
        obtain ⟨-, e⟩ := h2 h0' hb
        dsimp only
        rw [e]
        exact Nat.le_refl _
      | true =>
        rw [hb, if_pos rfl] at h
        rw [if_pos rfl]
        unfold dSync at *
        split at h
        · rename_i h9
          exact absurd h h9
        · rename_i h9
          rw [if_neg h9]
          dsimp only
          simp
          omega
end
theorem Fok.andThen {r : Dk Sv × Nat} {f : Dk Sv → Dk Sv × Nat} (h : Fok r.1) (hf : ∀ d, Fok d → Fok (f d).1) : Fok (Go.Proofs.YtajfnmohlnkncaaGreatDoor.andThen r f).1 := by
  unfold Go.Proofs.YtajfnmohlnkncaaGreatDoor.andThen
  split
  · exact h
  · exact hf _ h
theorem Fok.put {d : Dk Sv} (h : Fok d) (n : Bs) (v : Sv) : Fok (sPut svl Sv.nil d n v).1 := by
  unfold sPut
  split
  · exact h
  · exact Fok.andThen (h.opd (Opd.write svl d _ v)) fun d h => Fok.andThen (h.opd (Opd.sync d)) fun d h => Fok.andThen (h.opd (Opd.rename Sv.nil d _ _)) fun d h => h.opd (Opd.sync d)
end Go.Proofs.YtajfnmohlnkncaaGreatDoor

namespace Go.Proofs.YtajfnmohlnkncaaGreatDoor
open Go.RowKit Go.Maps Go.Sort
attribute [local go_sem ↓] Go.wp_at_zero Go.wp_at_succ

theorem Own.sameH {w w' : World} {B size n c : Nat} {e : TypeId} {A : Option Addr} {xs : List Value} (h : Own w B e size A n c xs) (hs : ∀ k, A.map (·.block) = some k → w'.heap[k]? = w.heap[k]?) : Own w' B e size A n c xs := by
  obtain ⟨h1, h2⟩ := h
  refine ⟨h1, ?_⟩
  rcases h2 with h2 | ⟨g, cap, cur, hv, hg, hh, r⟩
  · exact .inl h2
  · have hA : A = some ⟨g, 0, none⟩ := by injection hv
    exact .inr ⟨g, cap, cur, hv, hg, (hs g (by rw [hA]; rfl)).trans hh, r⟩
section
variable {P : Nat → Prop} {w W W' : World} {q0 q q' : Fp} {d d' : Dk Sv} {O : Option Addr} {co : Nat} {own : Bs} {m m' : Dk Bs} {A A' B B' : Option Addr} {c c' k k' : Nat} {x : DA}
end
end Go.Proofs.YtajfnmohlnkncaaGreatDoor

namespace Go.Proofs.YtajfnmohlnkncaaGreatDoor
open Go.RowKit Go.Shelf

/-- the blocks that a vault hangs on -/
def Vtc (q : Fp) (d : Dk Sv) (gv gs : Nat) (l : List MfV) (E : Option Addr) (i : Nat) : Prop := Tc q d i ∨ i = gv ∨ i = gs ∨ E.map (·.block) = some i ∨ ∃ x ∈ l, x.2.1.map (·.block) = some i
theorem VtM.lt {w : World} {gv gs : Nat} {q : Fp} {d : Dk Sv} {l : List MfV} {E : Option Addr} {cap i : Nat} (h : VtM w gv gs q d l E cap) (hi : Vtc q d gv gs l E i) : i < w.heap.size := by
  rcases hi with hi | rfl | rfl | hi | ⟨x, hx, hi⟩
  · exact h.st.dsk.lt hi
  · exact h.bl.lt
  · exact h.st.blk.lt
  · exact (h.al i hi).1
  · exact (h.ap x hx i hi).1
/-- nothing but the disk's blocks and the vault's has turned -/
structure Frv (q : Fp) (gv : Nat) (w w' : World) : Prop where
  os : w'.os = w.os
  tape : w'.tape = w.tape
  output : w'.output = w.output
  size : w.heap.size ≤ w'.heap.size
  block : ∀ i, i < w.heap.size → ¬ q.M i → i ≠ gv → w'.heap[i]? = w.heap[i]?
/-- a vault behind an act that may turn its manifests too -/
def Vgx (w : World) (gv gs : Nat) (q : Fp) (d d' : Dk Sv) (l : List MfV) (E : Option Addr) (l' : List MfV) (w' : World) : Prop :=
  ∃ q' E' cap', q'.g = q.g ∧ VtM w' gv gs q' d' l' E' cap' ∧ Frv q gv w w' ∧ ∀ i, Vtc q' d' gv gs l' E' i → Vtc q d gv gs l E i ∨ w.heap.size ≤ i
theorem Vgo.vgx {w w' : World} {gv gs : Nat} {q : Fp} {d d' : Dk Sv} {l : List MfV} {E : Option Addr} {cap : Nat} (h : Vgo w gv gs q d d' l E cap w') : Vgx w gv gs q d d' l E l w' := by
  obtain ⟨q', hg, hV, hF, hM, hT⟩ := h
  refine ⟨q', E, cap, hg, hV, ⟨hF.os, hF.tape, hF.output, hF.size, fun i hi hn _ => hF.block i hi hn⟩, fun i hi => ?_⟩
  rcases hi with hi | hi
  · exact (hT i hi).imp .inl id
  · exact .inl (.inr hi)
/-! ### at large -/
/-- nothing but a set of blocks has turned -/
structure Va (W : World) (S : Nat → Prop) (W' : World) : Prop where
  os : W'.os = W.os
  tape : W'.tape = W.tape
  output : W'.output = W.output
  size : W.heap.size ≤ W'.heap.size
  block : ∀ i, i < W.heap.size → ¬ S i → W'.heap[i]? = W.heap[i]?
/-- a set, and what is new -/
def grow (S : Nat → Prop) (W W' : World) (i : Nat) : Prop := S i ∨ W.heap.size ≤ i ∧ i < W'.heap.size
/-- a set of blocks of a call's own -/
def Kin (w W : World) (S : Nat → Prop) : Prop := ∀ i, S i → w.heap.size ≤ i ∧ i < W.heap.size
theorem Kin.grow {w W W' : World} {S : Nat → Prop} (h : Kin w W S) (hs : W.heap.size ≤ W'.heap.size) (hw : w.heap.size ≤ W.heap.size) : Kin w W' (grow S W W') := fun i hi => by
  rcases hi with hi | hi
  · have := h i hi
    omega
  · omega
theorem Kin.more {w W W' : World} {S : Nat → Prop} (h : Kin w W S) (hs : W.heap.size ≤ W'.heap.size) : Kin w W' S := fun i hi => by
  have := h i hi
  omega
theorem Va.below {w W W' : World} {S : Nat → Prop} (h : Va W S W') (hb : Below w.heap.size w W) (hS : Kin w W S) : Below w.heap.size w W' :=
  ⟨h.os.trans hb.os, h.tape.trans hb.tape, h.output.trans hb.output, Nat.le_trans hb.size h.size, fun i hi => (h.block i (Nat.lt_of_lt_of_le hi hb.size) (fun hs => by have := (hS i hs).1; omega)).trans (hb.block i hi)⟩
theorem Va.of_below {W W' : World} {S : Nat → Prop} (hb : Below W.heap.size W W') : Va W S W' := ⟨hb.os, hb.tape, hb.output, hb.size, fun i hi _ => hb.block i hi⟩
theorem Va.blk {W W' : World} {S : Nat → Prop} (h : Va W S W') {g : Nat} {t : TypeId} {cs : Array Value} (hB : Blk W g t cs) (hn : ¬ S g) : Blk W' g t cs := (h.block g hB.lt hn).trans hB
/-- blocks of one's own that an act leaves alone -/
structure Mo (w W : World) (S : Nat → Prop) (L : BL) (G : List (Option Nat)) : Prop where
  mm : Mm w W L G
  kin : Kin w W S
  off : ∀ x ∈ L, ¬ S x.1
  offG : ∀ g, some g ∈ G → ¬ S g
section
variable {w W W' : World} {S : Nat → Prop} {L : BL} {G : List (Option Nat)} {g : Nat} {t : TypeId} {cs : Array Value}
theorem Mo.alloc (h : Mo w W S L G) (cs : Array Value) (t : TypeId) : Mo w (W.alloc (.cells cs t)) S ((W.heap.size, t, cs) :: L) G :=
  ⟨h.mm.alloc cs t, h.kin.more (by simp), fun x hx => by
    rcases List.mem_cons.1 hx with rfl | hx
    · intro hS
      have h9 := (h.kin _ hS).2
      exact Nat.lt_irrefl _ h9
    · exact h.off x hx, h.offG⟩
theorem Mo.allocO (h : Mo w W S L G) (o : Obj) : Mo w (W.alloc o) S L G := ⟨h.mm.allocO o, h.kin.more (by simp), h.off, h.offG⟩
theorem Mo.call (h : Mo w W S L G) (hb : Below W.heap.size W W') : Mo w W' S L G := ⟨h.mm.call hb, h.kin.more hb.size, h.off, h.offG⟩
theorem Mo.sub (h : Mo w W S L G) {L' : BL} (hL : L'.Sublist L) : Mo w W S L' G := ⟨h.mm.sub hL, h.kin, fun x hx => h.off x (hL.subset hx), h.offG⟩
/-- an act of a vault -/
theorem Mo.act (h : Mo w W S L G) (hV : Va W S W') : Mo w W' (grow S W W') L G := by
  have hbl := hV.below h.mm.bel h.kin
  refine ⟨⟨hbl, fun x hx => hV.blk (h.mm.blk x hx) (h.off x hx), h.mm.low, h.mm.dis, fun g hg => ⟨Nat.lt_of_lt_of_le (h.mm.far g hg).1 hV.size, (h.mm.far g hg).2⟩⟩, h.kin.grow hV.size h.mm.bel.size, fun x hx hS => ?_, fun g hg hS => ?_⟩
  · rcases hS with hS | hS
    · exact h.off x hx hS
    · have := (h.mm.blk x hx).lt
      omega
  · rcases hS with hS | hS
    · exact h.offG g hg hS
    · have := (h.mm.far g hg).1
      omega
theorem Mo.b0 {L : BL} (h : Mo w W S ((g, t, cs) :: L) G) : Blk W g t cs := h.mm.b0
end
/-- a disk at large -/
def Ds (W : World) (S : Nat → Prop) (g : Nat) (d : Dk Sv) : Prop := ∃ q : Fp, q.g = g ∧ Dsk W q d ∧ ∀ i, Tc q d i → S i
/-- a vault at large -/
def Vs (W : World) (S : Nat → Prop) (g gv : Nat) (d : Dk Sv) (l : List Mf) : Prop := ∃ (q : Fp) (gs : Nat) (lv : List MfV) (E : Option Addr) (cap : Nat), q.g = g ∧ mvs lv = l ∧ VtM W gv gs q d lv E cap ∧ ∀ i, Vtc q d gv gs lv E i → S i
section
variable {w W W' : World} {S : Nat → Prop} {g gv : Nat} {d : Dk Sv} {l : List Mf}
theorem Vs.below (h : Vs W S g gv d l) (hb : Below W.heap.size W W') : Vs W' S g gv d l := by
  obtain ⟨q, gs, lv, E, cap, h1, h2, h3, h4⟩ := h
  exact ⟨q, gs, lv, E, cap, h1, h2, h3.below hb, h4⟩
end
end Go.Proofs.YtajfnmohlnkncaaGreatDoor

namespace Go.Proofs.YtajfnmohlnkncaaGreatDoor
open Go.RowKit Go.Shelf

theorem vheld_step {dec : Sv → Bs} {d : Dk Sv} {n k : Nat} {ps : List Pt5} (hk : k < ps.length) : vheld dec d n k (ps.drop k) = (if (sGetL dec d (label n k)).2 ≠ 0 then (sGetL dec d (label n k)).2 else if (mholds ps[k] (sGetL dec d (label n k)).1).2 ≠ 0 then 11 else vheld dec d n (k + 1) (ps.drop (k + 1))) := by
  rw [List.drop_eq_getElem_cons hk]
  rfl
set_option maxRecDepth 100000 in
set_option maxHeartbeats 2000000 in
theorem VHeld_any {w : World} {gv gs : Nat} {q : Fp} {d : Dk Sv} {l : List MfV} {E : Option Addr} {cap : Nat} (h : VtM w gv gs q d l E cap) (hG : Shg w) {A : Option Addr} {c : Nat} (n : Nat) (f t r : Int) (dg : Dg) (ps : List Pt5) (hsl : SlP w A c ps) (hn : n < 100) (hps : ps.length ≤ 100) :
    Calls Tryz.prog 44 #[.pointer (some ⟨gv, 0, none⟩), .agg (mfa n f t r dg A ps.length c)] w fun e w' => e = .returned (errv (vheld Sv.l d n 0 ps)) ∧ Below w.heap.size w w' := by
  have hM := (Mm.start w).alloc (mfa n f t r dg A ps.length c) 46
  have HS := Lib.hid (fun W (hh : Below w.heap.size w W) => (h.below hh).two)
  have HG := Lib.hid (fun W (hh : Below w.heap.size w W) => hG.below hh)
  have HP := Lib.hid (fun W (hh : Below w.heap.size w W) => hsl.below hh)
  have HGt := fun k (hk : k < 100) => Lib.hid (fun W (hh : Below w.heap.size w W) => SGet_any (h.st.below hh) (label n k) (by rw [label_len (by omega) (by omega)]; decide))
  have hsh := fun k => h.st.dsk.short (label n k)
  have hmz := Lib.hid (mfa_size n f t r dg A ps.length c)
  clear h hG hsl
  go_enter Tryz.func44, Tryz.ntmps44
  go_upto_region 1 with (fail)
  refine gen1 (T := fun W => Mm w W [(w.heap.size, 46, mfa n f t r dg A ps.length c)] []) hM (fun w1 hM => ?_)
  obtain ⟨a0, a1, a2, a3, a4⟩ := BlM.five hM.b0
  go_wp2_with fail
  go_loopw [14] (fun y wr => ∃ k : Nat, k ≤ ps.length ∧ y = .int .i64 k ∧ Hid (vheld Sv.l d n k (ps.drop k) = vheld Sv.l d n 0 ps) ∧ Mm w wr [(w.heap.size, 46, mfa n f t r dg A ps.length c)] []) (fun y w => ps.length - (intOf y).toNat)
  case atStart => exact ⟨0, Nat.zero_le _, rfl, (show _ = _ from rfl), hM⟩
  case round =>
    obtain ⟨k, hk, rfl, hall, hMr⟩ := hrel
    by_cases hlt : k < ps.length
    · obtain ⟨ad, b, o, rfl, had, hcc⟩ := (HP.out _ hMr.bel).at hlt
      have HV := Lib.hid ((vheld_step (dec := Sv.l) (d := d) (n := n) hlt).symm.trans hall.out)
      have HL := Lib.hid (fun W => Label_any n k W hn (by omega))
      have HGk := HGt k (by omega)
      have hsk := hsh k
      have hgb := Lib.hid (show ((sGet d (label n k)).1.map Sv.l).getD [] = (sGetL Sv.l d (label n k)).1 from rfl)
      have hgn := Lib.hid (show (sGet d (label n k)).2 = (sGetL Sv.l d (label n k)).2 from rfl)
      rw [hgb.out, hgn.out] at HGk
      generalize sGetL Sv.l d (label n k) = rr at *
      obtain ⟨rb, rn⟩ := rr
      generalize label n k = lb at *
      dsimp only at HGk HV hsk
      generalize ps[k] = p at *
      have hpp := Lib.hid (pta_size p)
      have hpa := Lib.hid (pta_all p)
      have HCC := Lib.hid hcc
      clear hgb hgn hcc hall HGt hsh hM
      go_upto_region 4 with (first | (refine wpl_loadG rfl 37 _ rfl ⟨b, o, none⟩ (pta p) rfl HCC.out _ Tryz.underlying37 rfl (by rw [hpp.out]; kernel_rfl) ?_) | (refine wpl_storeN rfl 37 _ _ rfl _ (pta p) 37 rfl rfl (by rw [hpp.out]; kernel_rfl) (by rw [hpp.out]; rfl) hpa.out ?_))
      refine gen1 (T := fun W => Mm w W [(wr.heap.size, 37, pta p), (w.heap.size, 46, mfa n f t r dg (some ad) ps.length c)] []) (hMr.alloc _ _) (fun w3 hM => ?_)
      generalize wr.heap.size = g8 at *
      clear hMr
      have hMd := hM.drew
      clear hM
      refine wp_region_seq (S := (fun W => Mm w W [(g8, 37, pta p), (w.heap.size, 46, mfa n f t r dg (some ad) ps.length c)] [])) [(0, true), (1, true), (2, true), (3, true), (4, true), (5, true), (6, true), (7, false), (8, false), (9, true), (10, true), (11, true), (12, true), (13, true)] (by kernel_rfl) (by kernel_rfl) (fun _ _ _ _ _ h => h) ?_ (fun hHeld => ?_)
      · first | with_reducible exact hMd | with_reducible exact hHeld
      refine gen0 (T := fun W => ((fun W => Mm w W [(g8, 37, pta p), (w.heap.size, 46, mfa n f t r dg (some ad) ps.length c)] [])) W ∧ Below w.heap.size w W ∧ True) ?_ (fun wq1 hT => ?_)
      · exact ⟨by (with_reducible exact hMd), by (with_reducible exact hMd.bel), trivial⟩
      (try clear f0 f1 f2 f3 f4 f5 f6 f7 f8 f9 f10 f11)
      obtain ⟨hHeld, f0, -⟩ := hT
      refine seq_take (oi := ⟨some 20, _, _, _, _, _⟩) (v := ?_) rfl (Or.inl ⟨by kernel_rfl, ?_⟩) (by assumption) ?_
      rotate_left
      · (intro wS hSw; (try dsimp only at hSw); obtain ⟨z0, z1⟩ := HS.out _ hSw.bel; obtain ⟨b0, b1, b2, b3, b4⟩ := BlM.five hSw.b1; clear hSw; refine execV (fun rho hk1 hk2 hk3 hk => ?_); have e0_ := (hk 0).trans (evalP fg0); clear hk; go_simp; (try with_reducible rfl))
      ((try simp only [Act.put, pS0, pS1, pS2]))
      refine seq_take (oi := ⟨some 21, _, _, _, _, _⟩) (v := ?_) rfl (Or.inl ⟨by kernel_rfl, ?_⟩) (by assumption) ?_
      rotate_left
      · (intro wS hSw; (try dsimp only at hSw); obtain ⟨z0, z1⟩ := HS.out _ hSw.bel; obtain ⟨b0, b1, b2, b3, b4⟩ := BlM.five hSw.b1; clear hSw; refine execV (fun rho hk1 hk2 hk3 hk => ?_); have e20_ := (hk 20).trans (evalP (fg8 (fg8 (fg1 (fg1 (fg1 (fg1 fg0))))))); clear hk; go_simp; (try with_reducible rfl))
      ((with_reducible refine wpSeq_put ?_; go_big_move))
      refine seq_take (oi := ⟨some 22, _, _, _, _, _⟩) (v := ?_) rfl (Or.inl ⟨by kernel_rfl, ?_⟩) (by assumption) ?_
      rotate_left
      · (intro wS hSw; (try dsimp only at hSw); obtain ⟨z0, z1⟩ := HS.out _ hSw.bel; obtain ⟨b0, b1, b2, b3, b4⟩ := BlM.five hSw.b1; clear hSw; refine execV (fun rho hk1 hk2 hk3 hk => ?_); have e21_ := (hk 21).trans (evalP (fg8 (fg8 (fg1 (fg1 (fg1 (fg1 (fg1 fg0)))))))); clear hk; go_simp; (try with_reducible rfl))
      ((with_reducible refine wpSeq_put ?_; go_big_move))
      refine seq_take (oi := ⟨some 23, _, _, _, _, _⟩) (v := ?_) rfl (Or.inl ⟨by kernel_rfl, ?_⟩) (by assumption) ?_
      rotate_left
      · (intro wS hSw; (try dsimp only at hSw); obtain ⟨z0, z1⟩ := HS.out _ hSw.bel; obtain ⟨b0, b1, b2, b3, b4⟩ := BlM.five hSw.b1; clear hSw; refine execV (fun rho hk1 hk2 hk3 hk => ?_); have e22_ := (hk 22).trans (evalP (fg8 (fg8 (fg1 (fg1 (fg1 (fg1 (fg1 (fg1 fg0))))))))); clear hk; go_simp; (try with_reducible rfl))
      ((with_reducible refine wpSeq_put ?_; go_big_move))
      refine seq_take (oi := ⟨some 24, _, _, _, _, _⟩) (v := ?_) rfl (Or.inl ⟨by kernel_rfl, ?_⟩) (by assumption) ?_
      rotate_left
      · (intro wS hSw; (try dsimp only at hSw); obtain ⟨z0, z1⟩ := HS.out _ hSw.bel; obtain ⟨b0, b1, b2, b3, b4⟩ := BlM.five hSw.b1; clear hSw; refine execV (fun rho hk1 hk2 hk3 hk => ?_); have e3_ := (hk 3).trans (evalP (fg1 (fg1 (fg1 fg0)))); clear hk; go_simp; (try with_reducible rfl))
      ((with_reducible refine wpSeq_put ?_; go_big_move))
      refine seq_take (oi := ⟨some 25, _, _, _, _, _⟩) (v := ?_) rfl (Or.inl ⟨by kernel_rfl, ?_⟩) (by assumption) ?_
      rotate_left
      · (intro wS hSw; (try dsimp only at hSw); obtain ⟨z0, z1⟩ := HS.out _ hSw.bel; obtain ⟨b0, b1, b2, b3, b4⟩ := BlM.five hSw.b1; clear hSw; refine execV (fun rho hk1 hk2 hk3 hk => ?_); have e24_ := (hk 24).trans (evalP (fg8 (fg8 (fg8 fg0)))); clear hk; go_simp; (try with_reducible rfl))
      ((with_reducible refine wpSeq_put ?_; go_big_move))
      refine seq_take (oi := ⟨some 26, _, _, _, _, _⟩) (v := ?_) rfl (Or.inl ⟨by kernel_rfl, ?_⟩) (by assumption) ?_
      rotate_left
      · (intro wS hSw; (try dsimp only at hSw); obtain ⟨z0, z1⟩ := HS.out _ hSw.bel; obtain ⟨b0, b1, b2, b3, b4⟩ := BlM.five hSw.b1; clear hSw; refine execV (fun rho hk1 hk2 hk3 hk => ?_); have e5_ := (hk 5).trans (evalP (fg1 (fg1 (fg1 (fg1 (fg1 fg0)))))); clear hk; go_simp; (try with_reducible rfl))
      ((with_reducible refine wpSeq_put ?_; go_big_move))
      refine seq_step (o := ⟨some 27, _, _, _, _, _⟩) rfl (fun K hK => ?_)
      with_reducible refine wantedP (by kernel_rfl) ?_
      (go_big_op)
      (refine (HL.out _).mono ?_; rintro e w12 ⟨rfl, hb9⟩)
      go_wp2_with fail
      refine hK.out _ _ ?_ (fun _ => ?_)
      · ((try dsimp only); (with_reducible exact hHeld.call hb9))
      clear hK K
      ((try simp only [Act.put, pS0, pS1, pS2]))
      refine gen0 (T := fun W => ((fun W => Mm w W [(g8, 37, pta p), (w.heap.size, 46, mfa n f t r dg (some ad) ps.length c)] [])) W ∧ Below w.heap.size w W ∧ True) ?_ (fun wq2 hT => ?_)
      · exact ⟨by (with_reducible exact hHeld.call hb9), by (exact bel_call f0 hb9), trivial⟩
      (try clear f0 f1 f2 f3 f4 f5 f6 f7 f8 f9 f10 f11)
      obtain ⟨hHeld, f0, -⟩ := hT
      refine seq_step (o := ⟨some 28, _, _, _, _, _⟩) rfl (fun K hK => ?_)
      with_reducible refine wantedP (by kernel_rfl) ?_
      (go_big_op)
      (refine (HGk.out _ f0).mono ?_; rintro e w12 ⟨A9, c9, m9, rfl, hm9, ho9, hb9⟩)
      go_wp2_with fail
      refine hK.out _ _ ?_ (fun _ => ?_)
      · ((try dsimp only); (with_reducible exact hHeld.call hb9))
      clear hK K
      ((try simp only [Act.put, pS0, pS1, pS2]))
      refine gen0 (T := fun W => ((fun W => Mm w W [(g8, 37, pta p), (w.heap.size, 46, mfa n f t r dg (some ad) ps.length c)] [])) W ∧ Below w.heap.size w W ∧ SlB W A9 c9 m9 ∧ True) ?_ (fun wq3 hT => ?_)
      · exact ⟨by (with_reducible exact hHeld.call hb9), by (exact bel_call f0 hb9), by (exact ho9.sl), trivial⟩
      (try clear f0 f1 f2 f3 f4 f5 f6 f7 f8 f9 f10 f11)
      obtain ⟨hHeld, f0, f1, -⟩ := hT
      refine seq_take (oi := ⟨some 19, _, _, _, _, _⟩) (v := ?_) rfl (Or.inl ⟨by kernel_rfl, ?_⟩) (by assumption) ?_
      rotate_left
      · (intro wS hSw; (try dsimp only at hSw); obtain ⟨z0, z1⟩ := HS.out _ hSw.bel; obtain ⟨b0, b1, b2, b3, b4⟩ := BlM.five hSw.b1; clear hSw; refine execV (fun rho hk1 hk2 hk3 hk => ?_); have e28_ := (hk 28).trans (evalP (fg8 (fg8 (fg8 (fg1 (fg1 (fg1 (fg1 fg0)))))))); clear hk; go_simp; (try with_reducible rfl))
      ((with_reducible refine wpSeq_put ?_; go_big_move))
      refine seq_take (oi := ⟨some 29, _, _, _, _, _⟩) (v := ?_) rfl (Or.inl ⟨by kernel_rfl, ?_⟩) (by assumption) ?_
      rotate_left
      · (intro wS hSw; (try dsimp only at hSw); obtain ⟨z0, z1⟩ := HS.out _ hSw.bel; obtain ⟨b0, b1, b2, b3, b4⟩ := BlM.five hSw.b1; clear hSw; refine execV (fun rho hk1 hk2 hk3 hk => ?_); have e19_ := (hk 19).trans (evalP (fg8 (fg8 (fg1 (fg1 (fg1 fg0)))))); clear hk; go_simp; (try with_reducible rfl))
      ((with_reducible refine wpSeq_put ?_; go_big_move))
      refine seq_take (oi := ⟨some 30, _, _, _, _, _⟩) (v := ?_) rfl (Or.inl ⟨by kernel_rfl, ?_⟩) (by assumption) ?_
      rotate_left
      · (intro wS hSw; (try dsimp only at hSw); obtain ⟨z0, z1⟩ := HS.out _ hSw.bel; obtain ⟨b0, b1, b2, b3, b4⟩ := BlM.five hSw.b1; clear hSw; refine execV (fun rho hk1 hk2 hk3 hk => ?_); have e19_ := (hk 19).trans (evalP (fg8 (fg8 (fg1 (fg1 (fg1 fg0)))))); clear hk; go_simp; (try with_reducible rfl))
      ((with_reducible refine wpSeq_put ?_; go_big_move))
      refine seq_take (oi := ⟨some 7, _, _, _, _, _⟩) (v := ?_) rfl (Or.inl ⟨by kernel_rfl, ?_⟩) (by assumption) ?_
      rotate_left
      · (intro wS hSw; (try dsimp only at hSw); obtain ⟨z0, z1⟩ := HS.out _ hSw.bel; obtain ⟨b0, b1, b2, b3, b4⟩ := BlM.five hSw.b1; clear hSw; refine execV (fun rho hk1 hk2 hk3 hk => ?_); have e29_ := (hk 29).trans (evalP (fg8 (fg8 (fg8 (fg1 (fg1 (fg1 (fg1 (fg1 fg0))))))))); clear hk; go_simp; (try with_reducible rfl))
      ((with_reducible refine wpSeq_put ?_; go_big_move))
      refine seq_take (oi := ⟨some 8, _, _, _, _, _⟩) (v := ?_) rfl (Or.inl ⟨by kernel_rfl, ?_⟩) (by assumption) ?_
      rotate_left
      · (intro wS hSw; (try dsimp only at hSw); obtain ⟨z0, z1⟩ := HS.out _ hSw.bel; obtain ⟨b0, b1, b2, b3, b4⟩ := BlM.five hSw.b1; clear hSw; refine execV (fun rho hk1 hk2 hk3 hk => ?_); have e30_ := (hk 30).trans (evalP (fg8 (fg8 (fg8 (fg1 (fg1 (fg1 (fg1 (fg1 (fg1 fg0)))))))))); clear hk; go_simp; (try with_reducible rfl))
      ((with_reducible refine wpSeq_put ?_; go_big_move))
      refine seq_done ?_
      have hM := hHeld
      clear hHeld hMd HL HGk HS
      rcases errv_cases rn with ⟨h0, hev⟩ | ⟨ke, hk1, hke, hev⟩
      rotate_left
      · have HT := Lib.hid (show vheld Sv.l d n 0 ps = rn from by rw [← HV.out, if_pos (by omega)])
        have HEV := Lib.hid hev
        rw [hev]
        clear hev HV
        go_wp2_with fail
        go_ret
        exact ⟨by rw [HT.out, HEV.out]; rfl, hM.bel⟩
      · rw [hev]
        have HH := Lib.hid (MHolds_any (A := A9) (c := c9) p m9 _ (HG.out _ hM.bel) (by with_reducible assumption) (by rw [hm9.out]; omega))
        clear hev
        go_wp2_with (refine wpl_loadG rfl 37 _ rfl ⟨g8, 0, none⟩ (pta p) rfl hM.b0.cells _ Tryz.underlying37 rfl (by rw [hpp.out]; kernel_rfl) ?_)
        refine HH.out.mono ?_
        rintro e w5 ⟨A5, c5, m5, rfl, hm5, hN5, hb5⟩
        have hM5 := hM.call hb5
        clear HH hM
        rw [hm9.out] at hm5 ⊢
        generalize mholds p rb = x at *
        obtain ⟨⟨x0, x1⟩, x2⟩ := x
        dsimp only at hm5 HV ⊢
        rcases errv_cases x2 with ⟨h2, hev⟩ | ⟨ke, hk1, hke, hev⟩
        · have HT := Lib.hid (show vheld Sv.l d n (k + 1) (ps.drop (k + 1)) = vheld Sv.l d n 0 ps from by rw [← HV.out, if_neg (by omega), if_neg (by omega)])
          rw [hev]
          clear hev HV
          go_upto_region 8 with (fail)
          refine gen1 (T := fun W => Mm w W [(w.heap.size, 46, mfa n f t r dg (some ad) ps.length c)] []) ((hM5.alloc _ _).sub (by simp)) (fun w6 hM => ?_)
          clear hM5
          go_wp2_with fail
          go_roundw
          case rel => exact ⟨k + 1, hlt, by go_num, HT, hM⟩
          case measure => simp [intOf]; omega
        · have HT := Lib.hid (show vheld Sv.l d n 0 ps = 11 from by rw [← HV.out, if_neg (by omega), if_pos (by omega)])
          rw [hev]
          clear hev HV
          go_upto_region 8 with (fail)
          refine gen1 (T := fun W => Mm w W [(w.heap.size, 46, mfa n f t r dg (some ad) ps.length c)] []) ((hM5.alloc _ _).sub (by simp)) (fun w6 hM => ?_)
          clear hM5
          go_wp2_with fail
          go_ret
          exact ⟨by rw [HT.out]; rfl, hM.bel⟩
    · have hz : Hid (vheld Sv.l d n 0 ps = 0) := (show _ = _ from by rw [← hall.out, List.drop_eq_nil_of_le (by omega)]; rfl)
      obtain rfl : k = ps.length := by omega
      clear hall
      go_wp2_with fail
      go_ret
      exact ⟨by rw [hz.out]; rfl, hMr.bel⟩
end Go.Proofs.YtajfnmohlnkncaaGreatDoor

namespace Go.Proofs.YtajfnmohlnkncaaGreatDoor
open Go.RowKit Go.Shelf
attribute [local go_sem ↓] Go.wp_at_zero Go.wp_at_succ

theorem mf_info : (Tryz.prog.info? 46).map (fun i => (i.zero, i.size, i.bytes)) = some (some (.agg mza), 37, 88) := by kernel_rfl
theorem one_mvl (l : List MfV) : ∀ u ∈ l.flatMap mvl, u.oneCell' = true := by
  intro u hu
  simp only [List.mem_flatMap] at hu
  obtain ⟨x, _, hx⟩ := hu
  have h := mva_all x
  rw [Array.all_eq_true'] at h
  exact h u (by simpa [mva, mfa, mvl] using hx)
abbrev OwnM (w : World) (base : Nat) (A : Option Addr) (c : Nat) (l : List MfV) : Prop := Own w base 46 37 A l.length c (l.flatMap mvl)
theorem step_mans {w : World} {ops : Array Oper} {o : Oper} {a : Act} {K : Act → World → Prop} {Q : Exit → Act → World → Prop} {X : Prop} (hw : Region.wanted o (yielded ops a.tmps) = true) (s x : Operand)
    (ho : o.op = .call { callee := .builtin .append, args := #[s, x], argTypes := #[40, 40] })
    (base : Nat) (A : Option Addr) (c : Nat) (l : List MfV) (hs : a.eval s = .slice A l.length c) (hown : OwnM w base A c l)
    (A2 : Option Addr) (c2 n2 : Nat) (l2 : List MfV) (hn2 : n2 = l2.length) (hx : a.eval x = .slice A2 n2 c2) (hr : Sl w 37 A2 l2.length c2 (l2.flatMap mvl)) (hlen : l.length + l2.length ≤ 1000000000) (hbase : base ≤ w.heap.size)
    (h : ∀ A' c' (m : List MfV) w', Hid (m = l ++ l2) → OwnM w' base A' c' m → w.grownBy w' (A.map (·.block)) → Below base w w' → K (a.put o.dst (.slice A' m.length c')) w') :
    if Region.wanted o (yielded ops a.tmps) = true then Oper.wp Tryz.prog o a w K Q else X := by
  subst hn2
  obtain ⟨i0, hi, hz0, hz1, hz2⟩ := info_parts mf_info
  refine step_append hw s x 40 ho base 46 i0 _ 37 88 Tryz.underlying40 hi hz0 hz1 hz2 (by rw [show (Value.agg mza).cells.size = mza.size from rfl, mfa_size]) (by decide) A l.length c (l.flatMap mvl) hs hown A2 l2.length c2 (l2.flatMap mvl) hx hr (one_mvl l2) (by omega) (by simp only [maxLen]; omega) hbase ?_
  intro A' c' w' hap
  rw [← List.length_append]
  refine h A' c' (l ++ l2) w' rfl ?_ hap.grown (hap.below hown hbase)
  show Own w' base 46 37 A' (l ++ l2).length c' ((l ++ l2).flatMap mvl)
  rw [List.length_append, List.flatMap_append]
  exact hap.own
theorem wpl_mans {w : World} {ops : Array Oper} {rest : List Oper} {o : Oper} {a : Act} {Q : Exit → Act → World → Prop} (hw : Region.wanted o (yielded ops a.tmps) = true) (s x : Operand)
    (ho : o.op = .call { callee := .builtin .append, args := #[s, x], argTypes := #[40, 40] })
    (base : Nat) (A : Option Addr) (c : Nat) (l : List MfV) (hs : a.eval s = .slice A l.length c) (hown : OwnM w base A c l)
    (A2 : Option Addr) (c2 n2 : Nat) (l2 : List MfV) (hn2 : n2 = l2.length) (hx : a.eval x = .slice A2 n2 c2) (hr : Sl w 37 A2 l2.length c2 (l2.flatMap mvl)) (hlen : l.length + l2.length ≤ 1000000000) (hbase : base ≤ w.heap.size)
    (h : ∀ A' c' (m : List MfV) w', Hid (m = l ++ l2) → OwnM w' base A' c' m → w.grownBy w' (A.map (·.block)) → Below base w w' → wpList Tryz.prog ops Q rest (a.put o.dst (.slice A' m.length c')) w') : wpList Tryz.prog ops Q (o :: rest) a w :=
  wpList_step fun _ hK => step_mans hw s x ho base A c l hs hown A2 c2 n2 l2 hn2 hx hr hlen hbase fun A' c' m w' h1 h2 h3 h4 => hK _ _ (h A' c' m w' h1 h2 h3 h4)
/-- new manifests (their parts lie where they lay) -/
def GivesMs (w0 : World) (l : List MfV) (e : Ending) (w' : World) : Prop := ∃ A c m, e = .returned (.slice A (List.length m) c) ∧ Hid (m = l) ∧ OwnM w' w0.heap.size A c m ∧ Below w0.heap.size w0 w'
set_option maxRecDepth 100000 in
set_option maxHeartbeats 1000000 in
theorem MsClone_any {E : Option Addr} {cap : Nat} (l : List MfV) (w : World) (h : SlM w E cap l) (hl : l.length ≤ 1000000) :
    Calls Tryz.prog 43 #[.slice E l.length cap] w (GivesMs w l) := by
  have hq := fun (w : World) (A : Option Addr) (n c : Nat) => Lib.run_eql_slice_nil (P := Tryz.prog) w 40 46 A n c 0 0 Tryz.underlying40
  cases E with
  | none =>
    have h0 := h.1.2.2.2.1 rfl
    have h1 : l = [] := List.eq_nil_of_length_eq_zero (by have := h.1.2.1; omega)
    subst h0
    subst h1
    go_enter Tryz.func43, Tryz.ntmps43
    go_wp2_with fail
    go_ret
    exact ⟨none, 0, [], rfl, (show _ = _ from rfl), Own.none_ _ _ _ _, Below.refl _ _⟩
  | some ad =>
    go_enter Tryz.func43, Tryz.ntmps43
    go_wp2_with (at_builtin; go_must (refine wpl_mans rfl (.tmp 5) (.tmp 6) rfl w.heap.size (some ⟨w.heap.size, 0, none⟩) 0 [] rfl (Own.lit 37 (Nat.le_refl _)) (some ad) cap l.length l rfl rfl (Sl.below h.1 (below_new _ _)) (by simp; omega) (by simp) ?_; intro A3 c3 m3 w3 hm3 ho3 _ hb3))
    go_ret
    exact ⟨A3, c3, m3, rfl, (show _ = _ from by rw [hm3.out]; rfl), ho3, (below_new _ _).trans hb3⟩
end Go.Proofs.YtajfnmohlnkncaaGreatDoor

namespace Go.Proofs.YtajfnmohlnkncaaGreatDoor
open Go.RowKit Go.Shelf

theorem mfa_setC (n f t r : Int) (A A2 : Option Addr) (k c k2 c2 : Nat) : ∀ d : Dg, (mfa n f t r d A k c).setIfInBounds 36 (.slice A2 k2 c2) = mfa n f t r d A2 k2 c2 := by
  refine dg_cases ?_
  intros
  rfl
/-- a copy of a manifest -/
def GivesCp (w0 : World) (n f t r : Int) (d : Dg) (ps : List Pt5) (e : Ending) (w' : World) : Prop :=
  ∃ A c m, e = .returned (.agg (mfa n f t r d A (List.length m) c)) ∧ Hid (m = ps) ∧ OwnP w' w0.heap.size A c m ∧ Below w0.heap.size w0 w'
theorem res_mf1 {fn : Func} {a : Nat} {tmps : Array Value} {w : World} {g : Nat} {n f t r : Int} {d : Dg} {A : Option Addr} {k c : Nat} (hres : fn.results = #[.cell a 46]) (ha : tmps.getD a undef = .pointer (some ⟨g, 0, none⟩)) (hB : Blk w g 46 (mfa n f t r d A k c)) : (results fn tmps).run Tryz.prog w = .ok (.agg (mfa n f t r d A k c)) w := by
  have h := run_loadVar_at (P := Tryz.prog) w ⟨g, 0, none⟩ 46 (mfa n f t r d A k c) hB.cells _ Tryz.underlying46 rfl (by rw [mfa_size]; kernel_rfl)
  have ha' : tmps[a]?.getD undef = .pointer (some ⟨g, 0, none⟩) := by simpa using ha
  simp [results, hres, asAddr, h, ha']
set_option maxRecDepth 100000 in
set_option maxHeartbeats 1000000 in
theorem MCopy_any {A : Option Addr} {c : Nat} (n f t r : Int) (d : Dg) (ps : List Pt5) (w : World) (h : SlP w A c ps) (hl : ps.length ≤ 1000000) :
    Calls Tryz.prog 37 #[.agg (mfa n f t r d A ps.length c)] w (GivesCp w n f t r d ps) := by
  have hM := ((Mm.start w).alloc (mfa n f t r d A ps.length c) 46).alloc mza 46
  rw [show (w.alloc (.cells (mfa n f t r d A ps.length c) 46)).heap.size = w.heap.size + 1 from by simp] at hM
  have HC := Lib.hid (fun W (hh : Below w.heap.size w W) => PtClone_any ps W (h.below hh) hl)
  clear h
  go_enter Tryz.func37, Tryz.ntmps37
  go_upto_region 1 with (fail)
  refine gen1 (T := fun W => Mm w W [(w.heap.size + 1, 46, mza), (w.heap.size, 46, mfa n f t r d A ps.length c)] []) hM (fun w1 hM => ?_)
  obtain ⟨a0, a1, a2, a3, a4⟩ := BlM.five hM.b1
  go_wp2_with fail
  refine (HC.out _ hM.bel).mono ?_
  rintro e w2 ⟨A2, c2, m2, rfl, hm2, ho2, hb2⟩
  have hM2 := hM.call hb2
  have hO := Own.more ho2 hM.bel.size
  obtain rfl : m2 = ps := hm2.out
  clear hM hb2 ho2 a0 a1 a2 a3 a4 HC hm2
  obtain ⟨a0, a1, a2, a3, a4⟩ := BlM.five hM2.b1
  have hfz := hM2.b1.frozen 36
  have hset := hM2.set 1 36 (.slice A2 m2.length c2) rfl
  rw [mfa_setC] at hset
  have hO2 : OwnP (w2.setCell ⟨w.heap.size, 36, none⟩ (.slice A2 m2.length c2)) w.heap.size A2 c2 m2 := Own.setT hO hM2.b1 (by decide) _
  go_upto_region 2 with (fail)
  refine gen1 (T := fun W => Mm w W [(w.heap.size + 1, 46, mza), (w.heap.size, 46, mfa n f t r d A2 m2.length c2)] [] ∧ OwnP W w.heap.size A2 c2 m2) ⟨hset, hO2⟩ (fun w3 hT => ?_)
  clear hset hO2 hM2 hO a0 a1 a2 a3 a4 hfz
  obtain ⟨hM, hO⟩ := hT
  go_wp2_with (first | (refine wpl_loadG rfl 46 _ rfl ⟨w.heap.size, 0, none⟩ (mfa n f t r d A2 m2.length c2) rfl hM.b1.cells _ Tryz.underlying46 rfl (by rw [mfa_size]; kernel_rfl) ?_) | (refine wpList_store_row rfl 46 _ _ rfl (w.heap.size + 1) (mfa n f t r d A2 m2.length c2) rfl rfl 46 mza hM.b0 (by rw [mfa_size]; kernel_rfl) (by rw [mfa_size, mfa_size]) (mfa_all _ _ _ _ _ _ _ _) ?_))
  exact bodyPost_ret (res_mf1 rfl rfl (g := w.heap.size + 1) hM.b0.row) rfl ⟨A2, c2, m2, rfl, (show _ = _ from rfl), Own.wrT hO (Wr.row _) hM.b0 (by decide), below_setRow hM.bel (by omega) _⟩
end Go.Proofs.YtajfnmohlnkncaaGreatDoor
