/- WHAT IT HOLDS: parcel.TakeReceipt, walked. | WHAT IT HOLDS: parcel.Take, walked. | WHAT IT HOLDS: parcel.Kind, walked. | WHAT IT HOLDS: the bytes of parcels, and Same of parcels, walked. | WHAT IT HOLDS: cell.Take, and cells held against the document's, walked. | WHAT IT HOLDS: cells that are the document's, walked. | WHAT IT HOLDS: the law CellBack, plainly and walked. | WHAT IT HOLDS: the law ParcelBack, walked. | WHAT IT HOLDS: the law SegmentBack, walked. -/
import Derived.Test.YtgipfenjachpnaaParcelBackG16
import Derived.Test.YtgipfenjachpnaaParcelBackG11
import Derived.Test.YtgipfenjachpnaaParcelBackG08
import Derived.Test.YtgipfenjachpnaaParcelBackG13
namespace Go.Proofs.Ytgipfenjachpnaa
open Go.RowKit
attribute [local go_sem ↓] Go.wp_at_zero Go.wp_at_succ

theorem res_rc2 {fn : Func} {a b : Nat} {tmps : Array Value} {w : World} {g : Nat} {x y : Value} (hres : fn.results = #[.cell a 105, .tmp b]) (ha : tmps.getD a undef = .pointer (some ⟨g, 0, none⟩)) (hB : Blk w g 105 #[x, y]) :
    (results fn tmps).run Try.prog w = .ok (.tuple #[.agg #[x, y], tmps.getD b undef]) w := by
  obtain ⟨b0, b1, _, _⟩ := hB.two
  have ha' : tmps[a]?.getD undef = .pointer (some ⟨g, 0, none⟩) := by simpa using ha
  simp [results, hres, go_sem, b0, b1, ha']
/-- a receipt and an error -/
def GivesRc (w0 : World) (x : Rc × Nat) (e : Ending) (w' : World) : Prop :=
  e = .returned (.tuple #[.agg #[.int .i64 x.1.1, .int .i64 x.1.2], errv x.2]) ∧ Below w0.heap.size w0 w'
set_option maxRecDepth 100000 in
set_option maxHeartbeats 4000000 in
theorem QTake_any (A : Option Addr) (c : Nat) (b : List UInt8) (w : World) (hs : SlB w A c b) (hl : b.length ≤ 1000000) :
    Calls Try.prog 55 #[.slice A b.length c] w (GivesRc w (qcTake b)) := by
  have hRes := Blk.new w 105 #[.int .i64 0, .int .i64 0]
  have hw := below_new w (.cells #[.int .i64 0, .int .i64 0] 105)
  go_enter Try.func55, Try.ntmps55
  go_wp2_with fail
  refine (POpen_any 2 (by unfold U64; omega) A c b _ (hs.below hw) (by omega)).mono ?_
  intro e w1 ho
  unfold OpenG at ho
  by_cases hf : (fone b).2 ≠ 0
  · rw [if_pos hf] at ho
    obtain ⟨rfl, hb1⟩ := ho
    replace hRes := hRes.below hb1
    replace hw := bel_call hw hb1
    have HT := Lib.hid (show qcTake b = ((0, 0), (fone b).2) from by unfold qcTake; rw [if_pos hf])
    rcases errv_cases (fone b).2 with ⟨h0, hev⟩ | ⟨k, hk, hke, hev⟩
    · exact absurd h0 hf
    · have HEV := Lib.hid hev
      rw [hev]
      clear hev hke hf
      obtain ⟨r0, r1, rf0, rf1⟩ := hRes.two
      go_wp2_with fail
      exact bodyPost_ret (res_rc2 rfl rfl (g := w.heap.size) (hRes.set2 _ _)) rfl ⟨by rw [HT.out]; dsimp only; rw [HEV.out]; rfl, bel_set (bel_set hw (Nat.le_refl _) _) (Nat.le_refl _) _⟩
  · rw [if_neg hf] at ho
    obtain ⟨g, B, rfl, hg, hB, hR, hb1⟩ := ho
    have HT0 := Lib.hid (show qcTake b = qcEnd (qread (pkind 2 ((fone b).1, 0))) from by unfold qcTake; rw [if_neg hf])
    generalize pkind 2 ((fone b).1, 0) = s0 at *
    clear hf
    replace hRes := hRes.below hb1
    replace hw := bel_call hw hb1
    have hgl := hR.lt
    simp at hg
    go_wp2_with fail
    refine (Within_any 1099511627776 hR).mono ?_
    rintro e w2 ⟨rfl, hR2, hr2⟩
    have hb2 : Below w.heap.size w1 w2 := hr2.below hw.size (by omega)
    replace hRes := hRes.wr hr2 (by omega)
    replace hw := hw.trans hb2
    clear hR hr2 hb2 hb1
    go_wp2_with fail
    refine (Within_any 1048576 hR2).mono ?_
    rintro e w3 ⟨rfl, hR3, hr3⟩
    have hb3 : Below w.heap.size w2 w3 := hr3.below hw.size (by omega)
    replace hRes := hRes.wr hr3 (by omega)
    replace hw := hw.trans hb3
    have hgl3 := hR3.lt
    clear hR2 hr3 hb3 hgl
    have HT1 : Hid (qcTake b = qcEnd ((((rWithin 1099511627776 s0).1 : Int), ((rWithin 1048576 (rWithin 1099511627776 s0).2).1 : Int)), (rWithin 1048576 (rWithin 1099511627776 s0).2).2)) := HT0
    clear HT0
    generalize (rWithin 1048576 (rWithin 1099511627776 s0).2) = q2 at *
    generalize (rWithin 1099511627776 s0) = q1 at *
    obtain ⟨x1, s1⟩ := q1
    obtain ⟨x2, s2⟩ := q2
    dsimp only at *
    go_upto_region 5 with (fail)
    have hbx := below_new w3 (.cells #[.int .i64 (x1 : Nat), .int .i64 (x2 : Nat)] 105)
    have hS4 := Blk.new w3 105 #[.int .i64 (x1 : Nat), .int .i64 (x2 : Nat)]
    have hR4 := hR3.below hbx
    replace hRes := hRes.below hbx
    replace hw := bel_call hw hbx
    clear hR3 hbx
    generalize hWe : w3.alloc (.cells #[.int .i64 (x1 : Nat), .int .i64 (x2 : Nat)] 105) = w4 at *
    clear hWe
    generalize hg7e : w3.heap.size = g7 at *
    clear hg7e
    have hE := End_s hR4
    go_wp2_with fail
    rcases errv_cases (rEnd s2) with ⟨h0, hev⟩ | ⟨k, hk, hke, hev⟩
    · rw [hev] at hE
      have HE := Lib.hid hE
      have HT := Lib.hid (show qcTake b = (((x1 : Int), (x2 : Int)), 0) from by rw [HT1.out]; unfold qcEnd; rw [if_neg (by rw [h0]; simp)])
      clear hE hev h0
      refine HE.out.mono ?_
      rintro e w7 ⟨rfl, rfl⟩
      obtain ⟨x0, x1, xf0, xf1⟩ := hS4.two
      obtain ⟨r0, r1, rf0, rf1⟩ := hRes.two
      go_wp2_with fail
      exact bodyPost_ret (res_rc2 rfl rfl (g := w.heap.size) (hRes.set2 _ _)) rfl ⟨by rw [HT.out]; rfl, bel_set (bel_set hw (Nat.le_refl _) _) (Nat.le_refl _) _⟩
    · have HT := Lib.hid (show qcTake b = ((0, 0), rEnd s2) from by rw [HT1.out]; unfold qcEnd; rw [if_pos (by dsimp only; omega)])
      have HEV := Lib.hid hev
      rw [hev] at hE
      have HE := Lib.hid hE
      clear hev hke hE
      refine HE.out.mono ?_
      rintro e w7 ⟨rfl, rfl⟩
      obtain ⟨r0, r1, rf0, rf1⟩ := hRes.two
      go_wp2_with fail
      exact bodyPost_ret (res_rc2 rfl rfl (g := w.heap.size) (hRes.set2 _ _)) rfl ⟨by rw [HT.out]; dsimp only; rw [HEV.out]; rfl, bel_set (bel_set hw (Nat.le_refl _) _) (Nat.le_refl _) _⟩
end Go.Proofs.Ytgipfenjachpnaa

namespace Go.Proofs.Ytgipfenjachpnaa
open Go.RowKit
attribute [local go_sem ↓] Go.wp_at_zero Go.wp_at_succ

theorem Blk.four {w : World} {g : Nat} {t : TypeId} {a b c d : Value} (h : Blk w g t #[a, b, c, d]) : w.cell? ⟨g, 0, none⟩ = some a ∧ w.cell? ⟨g, 1, none⟩ = some b ∧ w.cell? ⟨g, 2, none⟩ = some c ∧ w.cell? ⟨g, 3, none⟩ = some d ∧
    w.frozen? ⟨g, 0, none⟩ = false ∧ w.frozen? ⟨g, 1, none⟩ = false ∧ w.frozen? ⟨g, 2, none⟩ = false ∧ w.frozen? ⟨g, 3, none⟩ = false := ⟨h.cell 0, h.cell 1, h.cell 2, h.cell 3, h.frozen 0, h.frozen 1, h.frozen 2, h.frozen 3⟩
theorem Blk.set4 {w : World} {g : Nat} {t : TypeId} {a b c d : Value} (h : Blk w g t #[a, b, c, d]) (x y z u : Value) : Blk ((((w.setCell ⟨g, 0, none⟩ x).setCell ⟨g, 1, none⟩ y).setCell ⟨g, 2, none⟩ z).setCell ⟨g, 3, none⟩ u) g t #[x, y, z, u] :=
  (((h.set_ 0 x).set_ 1 y).set_ 2 z).set_ 3 u
theorem res_pc2 {fn : Func} {a b : Nat} {tmps : Array Value} {w : World} {g : Nat} {x y z u : Value} (hres : fn.results = #[.cell a 103, .tmp b]) (ha : tmps.getD a undef = .pointer (some ⟨g, 0, none⟩)) (hB : Blk w g 103 #[x, y, z, u]) :
    (results fn tmps).run Try.prog w = .ok (.tuple #[.agg #[x, y, z, u], tmps.getD b undef]) w := by
  obtain ⟨b0, b1, b2, b3, _⟩ := hB.four
  have ha' : tmps[a]?.getD undef = .pointer (some ⟨g, 0, none⟩) := by simpa using ha
  simp [results, hres, go_sem, b0, b1, b2, b3, ha']
/-- a parcel with new cells and an error -/
def GivesPcN (w0 : World) (x : Pc × Nat) (e : Ending) (w' : World) : Prop :=
  ∃ A c m, e = .returned (.tuple #[pcv x.1.1 x.1.2.1 x.1.2.2.1 A (List.length m) c, errv x.2]) ∧ Hid (m.map ceOf = x.1.2.2.2) ∧ NewS w' w0.heap.size A c m ∧ Below w0.heap.size w0 w'
theorem NewS.set4 {w : World} {base g c : Nat} {A : Option Addr} {m : List CeV} (h : NewS w base A c m) (hg : g < base) (x y z u : Value) : NewS ((((w.setCell ⟨g, 0, none⟩ x).setCell ⟨g, 1, none⟩ y).setCell ⟨g, 2, none⟩ z).setCell ⟨g, 3, none⟩ u) base A c m := (((h.setLow hg 0 x).setLow hg 1 y).setLow hg 2 z).setLow hg 3 u
theorem bel_set4 {w w' : World} {g : Nat} (h : Below w.heap.size w w') (hg : w.heap.size ≤ g) (x y z u : Value) : Below w.heap.size w ((((w'.setCell ⟨g, 0, none⟩ x).setCell ⟨g, 1, none⟩ y).setCell ⟨g, 2, none⟩ z).setCell ⟨g, 3, none⟩ u) := bel_set (bel_set (bel_set (bel_set h hg _) hg _) hg _) hg _
set_option maxRecDepth 100000 in
set_option maxHeartbeats 4000000 in
theorem PTake_any (A : Option Addr) (c : Nat) (b : List UInt8) (w : World) (hs : SlB w A c b) (hl : b.length ≤ 1000000) :
    Calls Try.prog 52 #[.slice A b.length c] w (GivesPcN w (pcTake b)) := by
  have hRes := Blk.new w 103 #[.int .i64 0, .int .i64 0, .int .i64 0, .slice none 0 0]
  have hw := below_new w (.cells #[.int .i64 0, .int .i64 0, .int .i64 0, .slice none 0 0] 103)
  have hfl := fone_len b
  go_enter Try.func52, Try.ntmps52
  go_wp2_with fail
  refine (POpen_any 1 (by unfold U64; omega) A c b _ (hs.below hw) (by omega)).mono ?_
  intro e w1 ho
  unfold OpenG at ho
  by_cases hf : (fone b).2 ≠ 0
  · rw [if_pos hf] at ho
    obtain ⟨rfl, hb1⟩ := ho
    replace hRes := hRes.below hb1
    replace hw := bel_call hw hb1
    have HT := Lib.hid (show pcTake b = ((0, 0, 0, []), (fone b).2) from by unfold pcTake; rw [if_pos hf])
    rcases errv_cases (fone b).2 with ⟨h0, hev⟩ | ⟨k, hk, hke, hev⟩
    · exact absurd h0 hf
    · have HEV := Lib.hid hev
      rw [hev]
      clear hev hke hf hfl
      obtain ⟨r0, r1, r2, r3, rf0, rf1, rf2, rf3⟩ := hRes.four
      go_wp2_with fail
      exact bodyPost_ret (res_pc2 rfl rfl (g := w.heap.size) (hRes.set4 _ _ _ _)) rfl ⟨none, 0, [], by rw [HT.out]; dsimp only; rw [HEV.out]; rfl, (show _ = _ from by rw [HT.out]; rfl), NewS.nil _ _, bel_set4 hw (Nat.le_refl _) _ _ _ _⟩
  · rw [if_neg hf] at ho
    obtain ⟨g, B, rfl, hg, hB, hR, hb1⟩ := ho
    have HT0 := Lib.hid (show pcTake b = pcEnd (pread (pkind 1 ((fone b).1, 0))) from by unfold pcTake; rw [if_neg hf])
    have hkl := pkind_len 1 ((fone b).1, 0)
    generalize pkind 1 ((fone b).1, 0) = s0 at *
    have hs0 : s0.1.length ≤ 1000000 := by dsimp only at hkl; omega
    clear hf hkl hfl
    replace hRes := hRes.below hb1
    replace hw := bel_call hw hb1
    have hgl := hR.lt
    simp at hg
    go_wp2_with fail
    refine (Within_any 1099511627776 hR).mono ?_
    rintro e w2 ⟨rfl, hR2, hr2⟩
    have hb2 : Below w.heap.size w1 w2 := hr2.below hw.size (by omega)
    replace hRes := hRes.wr hr2 (by omega)
    replace hw := hw.trans hb2
    clear hR hr2 hb2 hb1
    go_wp2_with fail
    refine (Within_any 1048576 hR2).mono ?_
    rintro e w3 ⟨rfl, hR3, hr3⟩
    have hb3 : Below w.heap.size w2 w3 := hr3.below hw.size (by omega)
    replace hRes := hRes.wr hr3 (by omega)
    replace hw := hw.trans hb3
    have hgl3 := hR3.lt
    clear hR2 hr3 hb3 hgl
    have HT1 : Hid (pcTake b = pcEnd ((((rWithin 1099511627776 s0).1 : Int), ((rWithin 1048576 (rWithin 1099511627776 s0).2).1 : Int), (sgRead (rWithin 1048576 (rWithin 1099511627776 s0).2).2).1), (sgRead (rWithin 1048576 (rWithin 1099511627776 s0).2).2).2)) := HT0
    have l1 := rWithin_len 1099511627776 s0
    have l2 := rWithin_len 1048576 (rWithin 1099511627776 s0).2
    clear HT0
    generalize (rWithin 1048576 (rWithin 1099511627776 s0).2) = q2 at *
    generalize (rWithin 1099511627776 s0) = q1 at *
    obtain ⟨x1, s1⟩ := q1
    obtain ⟨x2, s2⟩ := q2
    dsimp only at *
    have hs2 : s2.1.length ≤ 1000000 := by omega
    clear l1 l2 hs0
    go_upto_region 5 with (fail)
    have hbx := below_new w3 (.cells #[.int .i64 (x1 : Nat), .int .i64 (x2 : Nat), .int .i64 0, .slice none 0 0] 103)
    have hS4 := Blk.new w3 103 #[.int .i64 (x1 : Nat), .int .i64 (x2 : Nat), .int .i64 0, .slice none 0 0]
    have hR4 := hR3.below hbx
    replace hRes := hRes.below hbx
    replace hw := bel_call hw hbx
    have hW4 : w3.heap.size < (w3.alloc (.cells #[.int .i64 (x1 : Nat), .int .i64 (x2 : Nat), .int .i64 0, .slice none 0 0] 103)).heap.size := by simp
    clear hR3 hbx
    generalize hWe : w3.alloc (.cells #[.int .i64 (x1 : Nat), .int .i64 (x2 : Nat), .int .i64 0, .slice none 0 0] 103) = w4 at *
    clear hWe
    generalize hg7e : w3.heap.size = g7 at *
    clear hg7e
    have hwl := hRes.lt
    go_wp2_with fail
    refine (Within_any 1048576 hR4).mono ?_
    rintro e w5 ⟨rfl, hR5, hr5⟩
    have hb5 : Below w.heap.size w4 w5 := hr5.below hw.size (by omega)
    replace hRes := hRes.wr hr5 (by omega)
    have hS5 := hS4.wr hr5 (by omega)
    replace hw := hw.trans hb5
    have h45 := hr5.size
    have hl5 := rWithin_len 1048576 s2
    clear hR4 hr5 hb5 hS4
    have HT2 : Hid (pcTake b = pcEnd (((x1 : Int), (x2 : Int), (((rWithin 1048576 s2).1 : Int), (takeRun (rWithin 1048576 s2).2).1)), (takeRun (rWithin 1048576 s2).2).2)) := HT1
    clear HT1
    generalize rWithin 1048576 s2 = q at *
    obtain ⟨f, s3⟩ := q
    dsimp only at *
    have hs3 : s3.1.length ≤ 1000000 := by omega
    clear hl5 hs2
    obtain ⟨x0, x1', x2', x3, xf0, xf1, xf2, xf3⟩ := hS5.four
    go_upto_region 6 with (fail)
    have hS6 : Blk (w5.setCell ⟨g7, 2, none⟩ (.int .i64 (f : Nat))) g7 103 #[.int .i64 (x1 : Nat), .int .i64 (x2 : Nat), .int .i64 (f : Nat), .slice none 0 0] := hS5.set_ 2 (.int .i64 (f : Nat))
    have hR6 := hR5.apart (C := g7) (by omega) (by omega) (Below.setCell (p := ⟨g7, 2, none⟩) (Below.refl _ _) (Nat.le_refl _) (.int .i64 (f : Nat)))
    replace hRes := hRes.far (p := ⟨g7, 2, none⟩) (by dsimp only; omega) (.int .i64 (f : Nat))
    replace hw := bel_set hw (p := ⟨g7, 2, none⟩) (by dsimp only; omega) (.int .i64 (f : Nat))
    have hsz6 : (w5.setCell ⟨g7, 2, none⟩ (.int .i64 (f : Nat))).heap.size = w5.heap.size := by simp
    clear hS5 hR5 x0 x1' x2' x3 xf0 xf1 xf2 xf3
    generalize hWe : w5.setCell ⟨g7, 2, none⟩ (.int .i64 (f : Nat)) = w6 at *
    clear hWe
    go_wp2_with fail
    refine (TakeRun_any hR6 (by omega) (by omega)).mono ?_
    rintro e w7 ⟨A7, c7, m7, rfl, hm7, hN7, hR7, hr7⟩
    have hb7 : Below w.heap.size w6 w7 := hr7.below hw.size (by omega)
    replace hRes := hRes.wr hr7 (by omega)
    have hS7 := hS6.wr hr7 (by omega)
    replace hw := hw.trans hb7
    have h67 := hr7.size
    clear hR6 hr7 hb7 hS6
    obtain ⟨x0, x1', x2', x3, xf0, xf1, xf2, xf3⟩ := hS7.four
    go_upto_region 7 with (fail)
    have hS8 : Blk (w7.setCell ⟨g7, 3, none⟩ (.slice A7 m7.length c7)) g7 103 #[.int .i64 (x1 : Nat), .int .i64 (x2 : Nat), .int .i64 (f : Nat), .slice A7 m7.length c7] := hS7.set_ 3 (.slice A7 m7.length c7)
    have hR8 := hR7.apart (C := g7) (by omega) (by omega) (Below.setCell (p := ⟨g7, 3, none⟩) (Below.refl _ _) (Nat.le_refl _) (.slice A7 m7.length c7))
    replace hRes := hRes.far (p := ⟨g7, 3, none⟩) (by dsimp only; omega) (.slice A7 m7.length c7)
    replace hw := bel_set hw (p := ⟨g7, 3, none⟩) (by dsimp only; omega) (.slice A7 m7.length c7)
    have hN8 := hN7.setLow (g := g7) (by omega) 3 (.slice A7 m7.length c7)
    clear hS7 hR7 hN7 x0 x1' x2' x3 xf0 xf1 xf2 xf3
    generalize hWe : w7.setCell ⟨g7, 3, none⟩ (.slice A7 m7.length c7) = w8 at *
    clear hWe
    have hE := End_s hR8
    generalize takeRun s3 = q at *
    obtain ⟨rn, s5⟩ := q
    dsimp only at hE hm7 HT2
    clear hR8
    go_wp2_with fail
    rcases errv_cases (rEnd s5) with ⟨h0, hev⟩ | ⟨k, hk, hke, hev⟩
    · rw [hev] at hE
      have HE := Lib.hid hE
      have HN0 := Lib.hid h0
      clear hE hev h0
      refine HE.out.mono ?_
      rintro e w9 ⟨rfl, rfl⟩
      obtain ⟨x0, x1', x2', x3, xf0, xf1, xf2, xf3⟩ := hS8.four
      go_wp2_with fail
      refine (PCheck_any (x1 : Nat) (x2 : Nat) (f : Nat) m7 _ hN8.slc).mono ?_
      rintro e w10 ⟨rfl, hb10⟩
      replace hRes := hRes.below hb10
      replace hw := bel_call hw hb10
      replace hS8 := hS8.below hb10
      replace hN8 := hN8.below hb10
      clear hb10 x0 x1' x2' x3 xf0 xf1 xf2 xf3
      rw [hm7.out]
      rcases errv_cases (pchk ((x1 : Int), (x2 : Int), (f : Int), rn)) with ⟨h0, hev⟩ | ⟨k, hk, hke, hev⟩
      · have HT := Lib.hid (show pcTake b = (((x1 : Int), (x2 : Int), (f : Int), rn), 0) from by rw [HT2.out]; unfold pcEnd; rw [if_neg (by rw [HN0.out]; simp), if_neg (by rw [h0]; simp)])
        rw [hev]
        clear hev h0
        obtain ⟨x0, x1', x2', x3, xf0, xf1, xf2, xf3⟩ := hS8.four
        obtain ⟨r0, r1, r2, r3, rf0, rf1, rf2, rf3⟩ := hRes.four
        go_wp2_with fail
        exact bodyPost_ret (res_pc2 rfl rfl (g := w.heap.size) (hRes.set4 _ _ _ _)) rfl ⟨A7, c7, m7, by rw [HT.out]; rfl, (show _ = _ from by rw [HT.out, hm7.out]), NewS.more (hN8.set4 (g := w.heap.size) (by omega) _ _ _ _) (by omega), bel_set4 hw (Nat.le_refl _) _ _ _ _⟩
      · have HT := Lib.hid (show pcTake b = ((0, 0, 0, []), pchk ((x1 : Int), (x2 : Int), (f : Int), rn)) from by rw [HT2.out]; unfold pcEnd; rw [if_neg (by rw [HN0.out]; simp), if_pos (by dsimp only; omega)])
        have HEV := Lib.hid hev
        rw [hev]
        clear hev hke
        obtain ⟨r0, r1, r2, r3, rf0, rf1, rf2, rf3⟩ := hRes.four
        go_wp2_with fail
        exact bodyPost_ret (res_pc2 rfl rfl (g := w.heap.size) (hRes.set4 _ _ _ _)) rfl ⟨none, 0, [], by rw [HT.out]; dsimp only; rw [HEV.out]; rfl, (show _ = _ from by rw [HT.out]; rfl), NewS.nil _ _, bel_set4 hw (Nat.le_refl _) _ _ _ _⟩
    · have HT := Lib.hid (show pcTake b = ((0, 0, 0, []), rEnd s5) from by rw [HT2.out]; unfold pcEnd; rw [if_pos (by dsimp only; omega)])
      have HEV := Lib.hid hev
      rw [hev] at hE
      have HE := Lib.hid hE
      clear hev hke hE
      refine HE.out.mono ?_
      rintro e w9 ⟨rfl, rfl⟩
      obtain ⟨r0, r1, r2, r3, rf0, rf1, rf2, rf3⟩ := hRes.four
      go_wp2_with fail
      exact bodyPost_ret (res_pc2 rfl rfl (g := w.heap.size) (hRes.set4 _ _ _ _)) rfl ⟨none, 0, [], by rw [HT.out]; dsimp only; rw [HEV.out]; rfl, (show _ = _ from by rw [HT.out]; rfl), NewS.nil _ _, bel_set4 hw (Nat.le_refl _) _ _ _ _⟩
end Go.Proofs.Ytgipfenjachpnaa

namespace Go.Proofs.Ytgipfenjachpnaa
open Go.RowKit
attribute [local go_sem ↓] Go.wp_at_zero Go.wp_at_succ

set_option maxRecDepth 100000 in
set_option maxHeartbeats 1000000 in
theorem PKind_any (A : Option Addr) (c : Nat) (b : List UInt8) (w : World) (hs : SlB w A c b) (hl : b.length ≤ 1000000) :
    Calls Try.prog 56 #[.slice A b.length c] w fun e w' => e = .returned (.int .i64 (pcKind b : Nat)) ∧ Below w.heap.size w w' := by
  have HK : Hid (pcKind b = if (pcTake b).2 = 0 then 1 else if (qcTake b).2 = 0 then 2 else 0) := (rfl : _ = _)
  go_enter Try.func56, Try.ntmps56
  go_wp2_with fail
  refine (PTake_any A c b _ hs hl).mono ?_
  rintro e w1 ⟨A1, c1, m1, rfl, -, -, hb1⟩
  generalize pcTake b = p at *
  obtain ⟨⟨p1, p2, p3, p4⟩, pe⟩ := p
  dsimp only at *
  have hw1 := bel_alloc hb1 (.cells #[.int .i64 p1, .int .i64 p2, .int .i64 p3, .slice A1 m1.length c1] 103)
  rcases errv_cases pe with ⟨h0, hev⟩ | ⟨k, hk, hke, hev⟩
  · have HK1 : Hid (pcKind b = 1) := (show _ = _ from by rw [HK.out, if_pos h0])
    rw [hev]
    clear hev h0
    go_wp2_with fail
    go_ret
    exact ⟨by rw [HK1.out]; rfl, hw1⟩
  · have HK1 : Hid (pcKind b = if (qcTake b).2 = 0 then 2 else 0) := (show _ = _ from by rw [HK.out, if_neg (by omega)])
    rw [hev]
    clear hev hke HK hk
    go_wp2_with fail
    refine (QTake_any A c b _ (hs.below hw1) hl).mono ?_
    rintro e w2 ⟨rfl, hb2⟩
    generalize qcTake b = q at *
    obtain ⟨⟨q1, q2⟩, qe⟩ := q
    dsimp only at *
    have hw2 := bel_alloc (bel_call hw1 hb2) (.cells #[.int .i64 q1, .int .i64 q2] 105)
    rcases errv_cases qe with ⟨h0, hev⟩ | ⟨k, hk, hke, hev⟩
    · have HK2 : Hid (pcKind b = 2) := (show _ = _ from by rw [HK1.out, if_pos h0])
      rw [hev]
      clear hev h0
      go_wp2_with fail
      go_ret
      exact ⟨by rw [HK2.out]; rfl, hw2⟩
    · have HK2 : Hid (pcKind b = 0) := (show _ = _ from by rw [HK1.out, if_neg (by omega)])
      rw [hev]
      clear hev hke hk
      go_wp2_with fail
      go_ret
      exact ⟨by rw [HK2.out]; rfl, hw2⟩
end Go.Proofs.Ytgipfenjachpnaa

namespace Go.Proofs.Ytgipfenjachpnaa
open Go.RowKit
attribute [local go_sem ↓] Go.wp_at_zero Go.wp_at_succ

set_option maxRecDepth 100000 in
set_option maxHeartbeats 2000000 in
theorem PPut_any {E : Option Addr} {cap : Nat} (x t f : Int) (cs : List CeV) (w : World) (h : SlC w E cap cs) :
    Calls Try.prog 51 #[pcv x t f E cs.length cap] w (PutsB w (pput (x, t, f, cs.map ceOf))) := by
  have hB := Blk.new w 103 #[.int .i64 x, .int .i64 t, .int .i64 f, .slice E cs.length cap]
  have hbw := below_new w (.cells #[.int .i64 x, .int .i64 t, .int .i64 f, .slice E cs.length cap] 103)
  obtain ⟨a0, a1, a2, a3, _⟩ := hB.four
  go_enter Try.func51, Try.ntmps51
  go_wp2_with fail
  refine (PCheck_any x t f cs _ (h.below hbw)).mono ?_
  rintro e w1 ⟨rfl, hb1⟩
  have hB1 := hB.below hb1
  have hw1 := bel_call hbw hb1
  clear hB hbw hb1 a0 a1 a2 a3
  rcases errv_cases (pchk (x, t, f, cs.map ceOf)) with ⟨h0, hev⟩ | ⟨k, hk, hke, hev⟩
  · obtain ⟨g1, g2, g3, g4, g5⟩ := pchk_ok h0
    dsimp only at g1 g2 g3 g4 g5
    obtain ⟨hf0, hf1, hn64, hne, hr0⟩ := schk_ok g5
    dsimp only at hf0 hf1 hn64 hne hr0
    have HLEN := Lib.hid (stxt_len g5)
    have HS := Lib.hid (show pput (x, t, f, cs.map ceOf) = fput [] (ptxt (x, t, f, cs.map ceOf)) from by unfold pput; rw [if_neg (by rw [h0]; simp)])
    rw [hev]
    clear hev h0 g5
    obtain ⟨n, rfl⟩ : ∃ n : Nat, x = n := ⟨x.toNat, by omega⟩
    obtain ⟨m, rfl⟩ : ∃ n : Nat, t = n := ⟨t.toNat, by omega⟩
    obtain ⟨j, rfl⟩ : ∃ n : Nat, f = n := ⟨f.toNat, by omega⟩
    have hun : U64 n := by unfold U64; omega
    have hum : U64 m := by unfold U64; omega
    have huj : U64 j := by unfold U64; omega
    have hwn := wrap_u64_of hun
    have hwm := wrap_u64_of hum
    have hwj := wrap_u64_of huj
    have hPR := Lib.hid (fun (B : Option Addr) (b : Nat) (l : List UInt8) (W : World) (hs : SlB W B b l) (hh : SlC W E cap cs) (hl : l.length ≤ 1000000) => PutRun_ok cs W hs hh hl (by simpa using hn64) hr0)
    clear hr0 hne hn64 g1 g2 g3 g4 hf0 hf1
    obtain ⟨a0, a1, a2, a3, _⟩ := hB1.four
    have hL : SlN (w1.alloc (.cells #[.int .u64 1, .int .u64 (n : Int), .int .u64 (m : Int), .int .u64 (j : Int)] 118)) (some ⟨w1.heap.size, 0, none⟩) 4 [1, n, m, j] := Sl.lits w1 [nv 1, nv n, nv m, nv j] 118 (by simp [maxLen])
    have HL := Lib.hid hL
    clear hL
    go_wp2_with fail
    refine (Put_any none 0 [] _ 4 [1, n, m, j] _ (by simp) (Sl.none_ _ _) HL.out (by simp) (by intro z hz; simp at hz; rcases hz with hz | hz | hz | hz <;> rw [hz] <;> first | exact hun | exact hum | exact huj | (unfold U64; omega))).mono ?_
    rintro e w2 ⟨A2, c2, m2, rfl, hm2, ho2, hb2⟩
    have hw2 := bel_call (bel_alloc hw1 _) hb2
    have hB2 := (hB1.alloc (.cells #[.int .u64 1, .int .u64 (n : Int), .int .u64 (m : Int), .int .u64 (j : Int)] 118)).below hb2
    have hl1 := vb_le10 (n := 1) (by omega)
    have hl2 := vb_le10 hun
    have hl3 := vb_le10 hum
    have hl4 := vb_le10 huj
    have hml2 : m2.length ≤ 40 := by rw [hm2.out]; simp [vbs]; omega
    clear hl1 hl2 hl3 hl4 a0 a1 a2 a3 hB1 hw1 HL
    obtain ⟨a0, a1, a2, a3, _⟩ := hB2.four
    go_wp2_with fail
    refine (hPR.out A2 c2 m2 _ ho2.sl (h.below hw2) (by omega)).mono ?_
    rintro e w3 ⟨A3, c3, m3, rfl, hm3, ho3, hb3⟩
    have hw3 := bel_call hw2 hb3
    have htx : m3 = ptxt ((n : Int), (m : Int), (j : Int), cs.map ceOf) := by rw [hm3.out, hm2.out]; unfold ptxt stxt; simp [vbs]
    have HT := Lib.hid htx
    have hml3 : m3.length ≤ 8000 := by
      have h1 := HLEN.out
      have hl1 := vb_le10 (n := 1) (by omega)
      have hl2 := vb_le10 hun
      have hl3 := vb_le10 hum
      rw [htx]; unfold ptxt; simp only [List.length_append, Int.toNat_natCast]; omega
    clear htx hB2 a0 a1 a2 a3
    go_wp2_with fail
    refine (FPut_any none 0 [] A3 c3 m3 _ (by simp) (Sl.none_ _ _) ho3.sl (by omega)).mono ?_
    rintro e w4 ⟨A4, c4, m4, rfl, hm4, ho4, hb4⟩
    go_wp2_with fail
    go_ret2
    exact ⟨A4, c4, m4, by rw [HS.out, ← HT.out]; rfl, (show _ = _ from by rw [hm4.out, HS.out, HT.out]), ho4.more hw3.size, bel_call hw3 hb4⟩
  · have HJ : Hid (pput (x, t, f, cs.map ceOf) = ([], pchk (x, t, f, cs.map ceOf))) := (show _ = _ from by
      unfold pput
      rw [if_pos (by omega)])
    have HEV := Lib.hid hev
    rw [hev]
    clear hev hke
    go_wp2_with fail
    go_ret2
    exact ⟨none, 0, [], by rw [HJ.out]; dsimp only; rw [HEV.out]; rfl, (show _ = _ from by rw [HJ.out]), Own.none_ _ _ _ _, hw1⟩
/-- two parcels are the same -/
def psame (p q : Pc) : Bool := decide (p = q)
theorem psame_eq {x t f f2 : Int} {l m : List Ce} : psame (x, t, f, l) (x, t, f2, m) = ssame (f, l) (f2, m) := by
  unfold psame ssame
  rw [decide_eq_decide]
  constructor
  · intro h; exact congrArg (fun z => z.2.2) h
  · intro h; rw [h]
theorem psame_ne {p q : Pc} (h : (p.1 == q.1) = false ∨ (p.2.1 == q.2.1) = false) : psame p q = false := by
  unfold psame
  rw [decide_eq_false_iff_not]
  rintro rfl
  simp at h
set_option maxRecDepth 100000 in
set_option maxHeartbeats 1000000 in
theorem PSame_any {E G : Option Addr} {cap cap2 : Nat} (x t f x2 t2 f2 : Int) (cs ds : List CeV) (w : World) (h : SlC w E cap cs) (h2 : SlC w G cap2 ds) :
    Calls Try.prog 53 #[pcv x t f E cs.length cap, pcv x2 t2 f2 G ds.length cap2] w fun e w' => e = .returned (.bool (psame (x, t, f, cs.map ceOf) (x2, t2, f2, ds.map ceOf))) ∧ Below w.heap.size w w' := by
  have hbb := bel_alloc (below_new w (.cells #[.int .i64 x, .int .i64 t, .int .i64 f, .slice E cs.length cap] 103)) (.cells #[.int .i64 x2, .int .i64 t2, .int .i64 f2, .slice G ds.length cap2] 103)
  have hne := fun h => Lib.hid (psame_ne (p := (x, t, f, cs.map ceOf)) (q := (x2, t2, f2, ds.map ceOf)) h)
  dsimp only at hne
  cases h1 : x == x2 with
  | false =>
    have hr := hne (.inl h1)
    clear hne
    go_enter Try.func53, Try.ntmps53
    go_wp2_with fail
    go_ret
    exact ⟨by rw [hr.out]; rfl, hbb⟩
  | true =>
    cases h3 : t == t2 with
    | false =>
      have hr := hne (.inr h3)
      clear hne
      go_enter Try.func53, Try.ntmps53
      go_wp2_with fail
      go_ret
      exact ⟨by rw [hr.out]; rfl, hbb⟩
    | true =>
      obtain rfl : x = x2 := by simpa using h1
      obtain rfl : t = t2 := by simpa using h3
      have hr := Lib.hid (psame_eq (x := x) (t := t) (f := f) (f2 := f2) (l := cs.map ceOf) (m := ds.map ceOf))
      clear hne
      go_enter Try.func53, Try.ntmps53
      go_wp2_with fail
      refine (SSame_any f f2 cs ds _ (h.below hbb) (h2.below hbb)).mono ?_
      rintro e w2 ⟨rfl, hb2⟩
      go_wp2_with fail
      go_ret
      exact ⟨by rw [hr.out]; rfl, bel_call hbb hb2⟩
end Go.Proofs.Ytgipfenjachpnaa

namespace Go.Proofs.Ytgipfenjachpnaa
open Go.RowKit
attribute [local go_sem ↓] Go.wp_at_zero Go.wp_at_succ

/-- a cell out of a reader -/
def rCellRaw (s : Rs) : Ce × Rs := if (rWithin 3 s).1 = 1 then ((1, (rText 64 (rWithin 3 s).2).1), (rText 64 (rWithin 3 s).2).2) else ((((rWithin 3 s).1 : Int), []), (rWithin 3 s).2)
def rCell (s : Rs) : Ce × Rs := if (rCellRaw s).2.2 ≠ 0 then ((0, []), (rCellRaw s).2) else rCellRaw s
def GivesCellR (w0 : World) (g B : Nat) (r : Ce × Rs) (e : Ending) (w' : World) : Prop :=
  ∃ A c m, e = .returned (cv r.1.1 A (List.length m) c) ∧ Hid (m = r.1.2) ∧ OwnB w' w0.heap.size 5 A c m ∧ IsR w' g B r.2 ∧ Wr w0 w' g
theorem Text_s {g B : Nat} {s : Rs} {w : World} (most : Int) (hm : -9223372036854775808 ≤ most ∧ most ≤ 9223372036854775807) (hl : s.1.length ≤ 1000000000) (hR : IsR w g B s) : Calls Try.prog 69 #[.pointer (some ⟨g, 0, none⟩), .int .i64 most] w (GivesR w g B (rText most s)) := by obtain ⟨l, b⟩ := s; exact Text_any most hm hl hR
set_option maxRecDepth 100000 in
set_option maxHeartbeats 2000000 in
theorem CTake_any {w : World} {g B : Nat} {s : Rs} (hR0 : IsR w g B s) (hB : B ≤ w.heap.size) (hl : s.1.length ≤ 1000000000) :
    Calls Try.prog 29 #[.pointer (some ⟨g, 0, none⟩)] w (GivesCellR w g B (rCell s)) := by
  have hg := hR0.lt
  have hRes := Blk.new w 24 #[.int .i64 0, .slice none 0 0]
  have hw0 : Wr w (w.alloc (.cells #[.int .i64 0, .slice none 0 0] 24)) g := (Wr.refl _ _).alloc _
  have hR1 := hR0.below (below_new w (.cells #[.int .i64 0, .slice none 0 0] 24))
  go_enter Try.func29, Try.ntmps29
  go_wp2_with fail
  refine (Within_any 3 hR1).mono ?_
  rintro e w2 ⟨rfl, hR2, hr2⟩
  have hk3 := rWithin_le 3 s
  have hl2 := rWithin_len 3 s
  have hraw : rCellRaw s = if (rWithin 3 s).1 = 1 then ((1, (rText 64 (rWithin 3 s).2).1), (rText 64 (rWithin 3 s).2).2) else ((((rWithin 3 s).1 : Int), []), (rWithin 3 s).2) := rfl
  generalize rWithin 3 s = p at *
  obtain ⟨k, s2⟩ := p
  dsimp only at *
  replace hRes := hRes.wr hr2 (by omega)
  have hw2 := hw0.trans hr2
  have hlt := hRes.lt
  clear hw0 hR1 hr2
  go_upto_region 2 with (fail)
  have hbx := below_new w2 (.cells #[.int .i64 (k : Nat), .slice none 0 0] 24)
  have hX3 := Blk.new w2 24 #[.int .i64 (k : Nat), .slice none 0 0]
  have hR3 := hR2.below hbx
  replace hRes := hRes.below hbx
  have hw3 := hw2.call hbx
  have hgx : w.heap.size < w2.heap.size := hlt
  clear hR2 hw2 hbx hlt
  generalize hWe : w2.alloc (.cells #[.int .i64 (k : Nat), .slice none 0 0] 24) = w3 at *
  clear hWe
  have hlt3 : w2.heap.size < w3.heap.size := hX3.lt
  generalize hge : w2.heap.size = gx at *
  clear hge
  obtain ⟨x0, x1, xf0, xf1⟩ := hX3.two
  by_cases hk1 : k = 1
  · have hkb : ((k : Int) == 1) = true := by rw [hk1]; rfl
    rw [if_pos hk1] at hraw
    go_wp2_with fail
    refine (Text_s 64 (by omega) (by omega) hR3).mono ?_
    rintro e w4 ⟨A4, c4, m4, rfl, hm4, hO4, hR4, hr4⟩
    obtain ⟨d, s4, hd4⟩ : ∃ d s, rText 64 s2 = (d, s) := ⟨_, _, rfl⟩
    rw [hd4] at hraw hR4 hm4
    dsimp only at hraw hR4 hm4
    have hX4 := hX3.wr hr4 (by omega)
    replace hRes := hRes.wr hr4 (by omega)
    have hw4 := hw3.trans hr4
    have hsz4 := hr4.size
    clear hR3 hw3 hX3 hr4 x0 x1 xf0 xf1 hd4
    obtain ⟨x0, x1, xf0, xf1⟩ := hX4.two
    go_upto_region 4 with (fail)
    have hbs : Below gx w4 (w4.setCell ⟨gx, 1, none⟩ (.slice A4 m4.length c4)) := Below.setCell (p := ⟨gx, 1, none⟩) (Below.refl _ _) (Nat.le_refl _) _
    have hX : Blk (w4.setCell ⟨gx, 1, none⟩ (.slice A4 m4.length c4)) gx 24 #[.int .i64 (k : Nat), .slice A4 m4.length c4] := by simpa using hX4.set_ 1 (.slice A4 m4.length c4)
    have hR := hR4.apart (C := gx) (by omega) (by omega) hbs
    replace hRes := hRes.far (p := ⟨gx, 1, none⟩) (by dsimp only; omega) (.slice A4 m4.length c4)
    have hw := hw4.callB hw4.size (hbs.mono (by omega))
    have hO : OwnB (w4.setCell ⟨gx, 1, none⟩ (.slice A4 m4.length c4)) w.heap.size 5 A4 c4 m4 := (hO4.setOther (Own.offBlk hO4 hX4 (by decide)) 1 _).more (by omega)
    have hki : (k : Int) = 1 := by omega
    have HRAW : Hid (rCellRaw s = (((k : Int), m4), s4)) := (show _ = _ from by rw [hraw, hki, hm4.out])
    clear hbs hX4 hR4 hw4 hO4 hm4 hraw hk1 hki x0 x1 xf0 xf1
    generalize hWe : w4.setCell ⟨gx, 1, none⟩ (.slice A4 m4.length c4) = w5 at *
    clear hWe
    -- the result's block stands behind the call's start: (k : Int), bytes m4, reader s4 in block g
    have hE := Err_s hR
    rcases errv_cases (s4).2 with ⟨h0, hev⟩ | ⟨q, hq, hq2, hev⟩
    · have HT := Lib.hid (show rCell s = (((k : Int), m4), s4) from by unfold rCell; rw [HRAW.out, if_neg (by simpa using h0)])
      rw [hev] at hE
      have HE := Lib.hid hE
      clear hE hev h0
      go_wp2_with fail
      refine HE.out.mono ?_
      rintro e w9 ⟨rfl, rfl⟩
      obtain ⟨r0, r1, rf0, rf1⟩ := hRes.two
      obtain ⟨x0, x1, xf0, xf1⟩ := hX.two
      go_wp2_with fail
      exact bodyPost_ret (res_c1 rfl rfl (g := w.heap.size) (hRes.set2 _ _)) rfl ⟨A4, c4, m4, by rw [HT.out] <;> rfl, (show _ = _ from by rw [HT.out]), ((hO.setOther (Own.offBlk hO hRes (by decide)) _ _).setOther (Own.offBlk hO hRes (by decide)) _ _), by rw [HT.out]; exact hR.apart (C := w.heap.size) hg (by omega) ((Below.setCell (p := ⟨w.heap.size, 1, none⟩) (Below.setCell (p := ⟨w.heap.size, 0, none⟩) (Below.refl _ _) (Nat.le_refl _) _) (Nat.le_refl _) _)), hw.trans (Wr.callB (Wr.refl _ _) (Nat.le_refl _) (Below.refl _ _)) |>.callB hw.size ((Below.setCell (p := ⟨w.heap.size, 1, none⟩) (Below.setCell (p := ⟨w.heap.size, 0, none⟩) (Below.refl _ _) (Nat.le_refl _) _) (Nat.le_refl _) _))⟩
    · have HT := Lib.hid (show rCell s = ((0, []), s4) from by unfold rCell; rw [HRAW.out, if_pos (by dsimp only; omega)])
      rw [hev] at hE
      have HE := Lib.hid hE
      clear hE hev hq2
      go_wp2_with fail
      refine HE.out.mono ?_
      rintro e w9 ⟨rfl, rfl⟩
      obtain ⟨r0, r1, rf0, rf1⟩ := hRes.two
      go_wp2_with fail
      exact bodyPost_ret (res_c1 rfl rfl (g := w.heap.size) (hRes.set2 _ _)) rfl ⟨none, 0, [], by rw [HT.out] <;> rfl, (show _ = _ from by rw [HT.out]), Own.none_ _ _ _ _, by rw [HT.out]; exact hR.apart (C := w.heap.size) hg (by omega) ((Below.setCell (p := ⟨w.heap.size, 1, none⟩) (Below.setCell (p := ⟨w.heap.size, 0, none⟩) (Below.refl _ _) (Nat.le_refl _) _) (Nat.le_refl _) _)), hw.callB hw.size ((Below.setCell (p := ⟨w.heap.size, 1, none⟩) (Below.setCell (p := ⟨w.heap.size, 0, none⟩) (Below.refl _ _) (Nat.le_refl _) _) (Nat.le_refl _) _))⟩
  · have hkb : ((k : Int) == 1) = false := by rw [beq_eq_false_iff_ne]; omega
    rw [if_neg hk1] at hraw
    have HRAW : Hid (rCellRaw s = (((k : Int), []), s2)) := (show _ = _ from hraw)
    have hX := hX3
    have hR := hR3
    have hw := hw3
    have hO : OwnB w3 w.heap.size 5 none 0 [] := Own.none_ _ _ _ _
    clear hX3 hR3 hw3 hraw hk1
    go_wp2_with fail
    -- the result's block stands behind the call's start: (k : Int), bytes ([] : List UInt8), reader s2 in block g
    have hE := Err_s hR
    rcases errv_cases (s2).2 with ⟨h0, hev⟩ | ⟨q, hq, hq2, hev⟩
    · have HT := Lib.hid (show rCell s = (((k : Int), ([] : List UInt8)), s2) from by unfold rCell; rw [HRAW.out, if_neg (by simpa using h0)])
      rw [hev] at hE
      have HE := Lib.hid hE
      clear hE hev h0
      go_wp2_with fail
      refine HE.out.mono ?_
      rintro e w9 ⟨rfl, rfl⟩
      obtain ⟨r0, r1, rf0, rf1⟩ := hRes.two
      obtain ⟨x0, x1, xf0, xf1⟩ := hX.two
      go_wp2_with fail
      exact bodyPost_ret (res_c1 rfl rfl (g := w.heap.size) (hRes.set2 _ _)) rfl ⟨none, 0, ([] : List UInt8), by rw [HT.out] <;> rfl, (show _ = _ from by rw [HT.out]), ((hO.setOther (Own.offBlk hO hRes (by decide)) _ _).setOther (Own.offBlk hO hRes (by decide)) _ _), by rw [HT.out]; exact hR.apart (C := w.heap.size) hg (by omega) ((Below.setCell (p := ⟨w.heap.size, 1, none⟩) (Below.setCell (p := ⟨w.heap.size, 0, none⟩) (Below.refl _ _) (Nat.le_refl _) _) (Nat.le_refl _) _)), hw.trans (Wr.callB (Wr.refl _ _) (Nat.le_refl _) (Below.refl _ _)) |>.callB hw.size ((Below.setCell (p := ⟨w.heap.size, 1, none⟩) (Below.setCell (p := ⟨w.heap.size, 0, none⟩) (Below.refl _ _) (Nat.le_refl _) _) (Nat.le_refl _) _))⟩
    · have HT := Lib.hid (show rCell s = ((0, []), s2) from by unfold rCell; rw [HRAW.out, if_pos (by dsimp only; omega)])
      rw [hev] at hE
      have HE := Lib.hid hE
      clear hE hev hq2
      go_wp2_with fail
      refine HE.out.mono ?_
      rintro e w9 ⟨rfl, rfl⟩
      obtain ⟨r0, r1, rf0, rf1⟩ := hRes.two
      go_wp2_with fail
      exact bodyPost_ret (res_c1 rfl rfl (g := w.heap.size) (hRes.set2 _ _)) rfl ⟨none, 0, [], by rw [HT.out] <;> rfl, (show _ = _ from by rw [HT.out]), Own.none_ _ _ _ _, by rw [HT.out]; exact hR.apart (C := w.heap.size) hg (by omega) ((Below.setCell (p := ⟨w.heap.size, 1, none⟩) (Below.setCell (p := ⟨w.heap.size, 0, none⟩) (Below.refl _ _) (Nat.le_refl _) _) (Nat.le_refl _) _)), hw.callB hw.size ((Below.setCell (p := ⟨w.heap.size, 1, none⟩) (Below.setCell (p := ⟨w.heap.size, 0, none⟩) (Below.refl _ _) (Nat.le_refl _) _) (Nat.le_refl _) _))⟩
end Go.Proofs.Ytgipfenjachpnaa

namespace Go.Proofs.Ytgipfenjachpnaa
open Go.RowKit
attribute [local go_sem ↓] Go.wp_at_zero Go.wp_at_succ

set_option maxRecDepth 100000 in
set_option maxHeartbeats 2000000 in
theorem Are_true {E G : Option Addr} {cap cap2 : Nat} (cs : List CeV) (ds : List Ce) (w : World) (h : SlC w E cap cs) (h2 : SlD w G cap2 ds) (he : cs.map ceOf = ds) (hl0 : cs.length ≤ 1000000) :
    Calls Try.prog 36 #[.slice E cs.length cap, .slice G ds.length cap2] w fun e w' => e = .returned (.bool true) ∧ Below w.heap.size w w' := by
  have hlen : ds.length = cs.length := by rw [← he]; simp
  have HE := Lib.hid he
  have hlb : ((cs.length : Int) != (ds.length : Int)) = false := by simp [hlen]
  have hdl : ds.length ≤ 1000000 := by omega
  have HLEN := Lib.hid hlen
  clear he hlen
  go_enter Try.func36, Try.ntmps36
  go_wp2_with fail
  go_loopw [13] (fun x wr => ∃ k : Nat, k ≤ cs.length ∧ x = .int .i64 k ∧ Below w.heap.size w wr) (fun x w => cs.length - (intOf x).toNat)
  case atStart => exact ⟨0, Nat.zero_le _, rfl, Below.refl _ _⟩
  case round =>
    obtain ⟨k, hk, rfl, hbr⟩ := hrel
    by_cases hlt : k < cs.length
    · have hlt2 : k < ds.length := by rw [HLEN.out]; exact hlt
      obtain ⟨ad, b, o, rfl, had, hc0, hc1, hsx⟩ := (h.below hbr).at2 hlt
      obtain ⟨ad2, b2, o2, rfl, had2, hdd⟩ := (h2.below hbr).atS (f := df) (fun _ => rfl) (by decide) hlt2
      have hx : Hid (ds[k] = ceOf cs[k]) := (show _ = _ from by
        have := HE.out
        subst this
        simp)
      rw [hx.out] at hdd
      clear hx
      generalize cs[k] = x at *
      obtain ⟨kk, A, c, d⟩ := x
      dsimp only [ceOf] at *
      have hd0 := hdd 0 _ rfl
      have hd1 := hdd 1 _ rfl
      rw [Nat.add_zero] at hd0
      have hb1 := World.block_lt_of_cell? _ _ hc0
      have hb2 := World.block_lt_of_cell? _ _ hd0
      have hcW : Hid (∀ W, Below wr.heap.size wr W → W.cell? ⟨b, o, none⟩ = some (.int .i64 kk) ∧ W.cell? ⟨b, o + 1, none⟩ = some (.slice A d.length c) ∧ W.cell? ⟨b2, o2, none⟩ = some (.int .i64 kk) ∧ W.cell? ⟨b2, o2 + 1, none⟩ = some (.string ⟨d.toArray⟩)) :=
        (show ∀ W, Below wr.heap.size wr W → _ from fun W hW => ⟨(hW.cell (p := ⟨b, o, none⟩) hb1).trans hc0, (hW.cell (p := ⟨b, o + 1, none⟩) hb1).trans hc1, (hW.cell (p := ⟨b2, o2, none⟩) hb2).trans hd0, (hW.cell (p := ⟨b2, o2 + 1, none⟩) hb2).trans hd1⟩)
      clear hdd hc0 hc1 hd0 hd1 hb1 hb2
      have hnn := neq_dv kk kk d d
      rw [show same (kk, d) (kk, d) = true from same_iff.2 rfl] at hnn
      have hst : Below wr.heap.size wr wr.drew := (Below.refl _ _).drew
      have hk0 : (0 : Int) ≤ (k : Int) := by omega
      have hk1 : (k : Int) < (cs.length : Int) := by omega
      have hk2 : (k : Int) < (ds.length : Int) := by omega
      go_upto_region 6 with (fail)
      refine wp_region_held_drew (S := (fun W => Below wr.heap.size wr W)) (by kernel_rfl) ?_ (fun hHeld => ?_)
      · exact hst
      refine gen0 (T := fun W => ((fun W => Below wr.heap.size wr W)) W ∧ True) ?_ (fun wq1 hT => ?_)
      · exact ⟨by (first | exact hst | exact hHeld | exact bel_call hHeld hb8), trivial⟩
      (try clear f0 f1 f2 f3 f4 f5 f6 f7 f8 f9 f10 f11)
      obtain ⟨hHeld, -⟩ := hT
      refine wpAnyH_take (i := 0) (oi := ⟨some 16, _, _, _, _, _⟩) (v := ?_) rfl (by kernel_rfl) (by kernel_rfl) (by kernel_rfl) (fun _ _ _ h => h) (Or.inl ⟨by kernel_rfl, ?_⟩) (by assumption) ?_
      rotate_left
      · (intro wS hSw; (try dsimp only at hSw); obtain ⟨r0, r1, r2, r3⟩ := hcW.out _ hSw; clear hSw; go_simp; (try with_reducible rfl))
      (try simp only [Act.put, List.setIfInBounds_toArray, List.set_cons_zero, List.set_cons_succ])
      refine wpAnyH_take (i := 1) (oi := ⟨some 17, _, _, _, _, _⟩) (v := ?_) rfl (by kernel_rfl) (by kernel_rfl) (by kernel_rfl) (fun _ _ _ h => h) (Or.inl ⟨by kernel_rfl, ?_⟩) (by assumption) ?_
      rotate_left
      · (intro wS hSw; (try dsimp only at hSw); obtain ⟨r0, r1, r2, r3⟩ := hcW.out _ hSw; clear hSw; go_simp; (try with_reducible rfl))
      (try simp only [Act.put, List.setIfInBounds_toArray, List.set_cons_zero, List.set_cons_succ])
      refine wpAnyH_take (i := 2) (oi := ⟨some 18, _, _, _, _, _⟩) (v := ?_) rfl (by kernel_rfl) (by kernel_rfl) (by kernel_rfl) (fun _ _ _ h => h) (Or.inl ⟨by kernel_rfl, ?_⟩) (by assumption) ?_
      rotate_left
      · (intro wS hSw; (try dsimp only at hSw); obtain ⟨r0, r1, r2, r3⟩ := hcW.out _ hSw; clear hSw; go_simp; (try with_reducible rfl))
      (try simp only [Act.put, List.setIfInBounds_toArray, List.set_cons_zero, List.set_cons_succ])
      refine wpAnyH_take (i := 3) (oi := ⟨some 19, _, _, _, _, _⟩) (v := ?_) rfl (by kernel_rfl) (by kernel_rfl) (by kernel_rfl) (fun _ _ _ h => h) (Or.inl ⟨by kernel_rfl, ?_⟩) (by assumption) ?_
      rotate_left
      · (intro wS hSw; (try dsimp only at hSw); obtain ⟨r0, r1, r2, r3⟩ := hcW.out _ hSw; clear hSw; go_simp; (try with_reducible rfl))
      (try simp only [Act.put, List.setIfInBounds_toArray, List.set_cons_zero, List.set_cons_succ])
      refine wpAnyH_take (i := 5) (oi := ⟨some 21, _, _, _, _, _⟩) (v := ?_) rfl (by kernel_rfl) (by kernel_rfl) (by kernel_rfl) (fun _ _ _ h => h) (Or.inl ⟨by kernel_rfl, ?_⟩) (by assumption) ?_
      rotate_left
      · (intro wS hSw; (try dsimp only at hSw); obtain ⟨r0, r1, r2, r3⟩ := hcW.out _ hSw; clear hSw; go_simp; (try with_reducible rfl))
      (try simp only [Act.put, List.setIfInBounds_toArray, List.set_cons_zero, List.set_cons_succ])
      refine wpAnyH_take (i := 6) (oi := ⟨some 22, _, _, _, _, _⟩) (v := ?_) rfl (by kernel_rfl) (by kernel_rfl) (by kernel_rfl) (fun _ _ _ h => h) (Or.inl ⟨by kernel_rfl, ?_⟩) (by assumption) ?_
      rotate_left
      · (intro wS hSw; (try dsimp only at hSw); obtain ⟨r0, r1, r2, r3⟩ := hcW.out _ hSw; clear hSw; go_simp; (try with_reducible rfl))
      (try simp only [Act.put, List.setIfInBounds_toArray, List.set_cons_zero, List.set_cons_succ])
      refine wpAnyH_take (i := 7) (oi := ⟨some 23, _, _, _, _, _⟩) (v := ?_) rfl (by kernel_rfl) (by kernel_rfl) (by kernel_rfl) (fun _ _ _ h => h) (Or.inl ⟨by kernel_rfl, ?_⟩) (by assumption) ?_
      rotate_left
      · (intro wS hSw; (try dsimp only at hSw); obtain ⟨r0, r1, r2, r3⟩ := hcW.out _ hSw; clear hSw; go_simp; (try with_reducible rfl))
      (try simp only [Act.put, List.setIfInBounds_toArray, List.set_cons_zero, List.set_cons_succ])
      refine wpAnyH_take (i := 8) (oi := ⟨some 24, _, _, _, _, _⟩) (v := ?_) rfl (by kernel_rfl) (by kernel_rfl) (by kernel_rfl) (fun _ _ _ h => h) (Or.inl ⟨by kernel_rfl, ?_⟩) (by assumption) ?_
      rotate_left
      · (intro wS hSw; (try dsimp only at hSw); obtain ⟨r0, r1, r2, r3⟩ := hcW.out _ hSw; clear hSw; go_simp; (try with_reducible rfl))
      (try simp only [Act.put, List.setIfInBounds_toArray, List.set_cons_zero, List.set_cons_succ])
      refine wpAnyH_ready (rs := [4]) (by kernel_rfl) (by simp) ?_
      refine AllReadyH.cons (o := ⟨some 20, _, _, _, _, _⟩) rfl (fun K hK => ?_) AllReadyH.nil
      go_simp
      (refine (Document_any kk d _ (hsx.below hHeld)).mono ?_; rintro e w8 ⟨rfl, hb8⟩)
      go_wp2_with fail
      refine hK.out _ _ ?_ (fun _ => ?_)
      · ((try dsimp only); (first | exact hst | exact hHeld | exact bel_call hHeld hb8))
      clear hK K
      (try simp only [Act.put, List.setIfInBounds_toArray, List.set_cons_zero, List.set_cons_succ])
      refine gen0 (T := fun W => ((fun W => Below wr.heap.size wr W)) W ∧ True) ?_ (fun wq2 hT => ?_)
      · exact ⟨by (first | exact hst | exact hHeld | exact bel_call hHeld hb8), trivial⟩
      (try clear f0 f1 f2 f3 f4 f5 f6 f7 f8 f9 f10 f11)
      obtain ⟨hHeld, -⟩ := hT
      refine wpAnyH_take (i := 9) (oi := ⟨some 25, _, _, _, _, _⟩) (v := ?_) rfl (by kernel_rfl) (by kernel_rfl) (by kernel_rfl) (fun _ _ _ h => h) (Or.inl ⟨by kernel_rfl, ?_⟩) (by assumption) ?_
      rotate_left
      · (intro wS hSw; (try dsimp only at hSw); obtain ⟨r0, r1, r2, r3⟩ := hcW.out _ hSw; clear hSw; go_simp; (try with_reducible rfl))
      (try simp only [Act.put, List.setIfInBounds_toArray, List.set_cons_zero, List.set_cons_succ])
      refine wpAnyH_done (by kernel_rfl) ?_ _
      go_wp2_with fail
      go_roundw
      case rel => exact ⟨k + 1, hlt, by go_num, bel_call hbr hHeld⟩
      case measure => simp [intOf]; omega
    · go_wp2_with fail
      go_ret
      exact ⟨rfl, hbr⟩
end Go.Proofs.Ytgipfenjachpnaa

namespace Go.Proofs.Ytgipfenjachpnaa
open Go.RowKit
attribute [local go_sem ↓] Go.wp_at_zero Go.wp_at_succ

theorem rCell_put {c : Ce} (h : cchk c = 0) (rest : List UInt8) : rCell (cbytes c ++ rest, 0) = (c, (rest, 0)) := by
  obtain ⟨h0, h3, h64, hd⟩ := cchk_ok h
  obtain ⟨k, d⟩ := c
  dsimp only at *
  obtain ⟨n, rfl⟩ : ∃ n : Nat, k = n := ⟨k.toNat, by omega⟩
  by_cases h1 : (n : Int) = 1
  · have hn : n = 1 := by omega
    subst hn
    have e1 : rWithin 3 (cbytes (((1 : Nat) : Int), d) ++ rest, 0) = (1, (vb d.length ++ (d ++ rest), 0)) := by
      have := rWithin_vb (k := 1) (m := 3) (by unfold U64; omega) (by omega) (by omega) (vb d.length ++ (d ++ rest))
      rw [← this]
      have hcb : cbytes (((1 : Nat) : Int), d) = 1 :: (vb d.length ++ d) := by simp [cbytes]
      rw [hcb, show vb 1 = [1] from vb_small (by omega)]
      simp
    have e2 : rText 64 (vb d.length ++ (d ++ rest), 0) = (d, (rest, 0)) := rText_tb (by unfold U64; omega) (by omega) rest
    have e3 : rCellRaw (cbytes (((1 : Nat) : Int), d) ++ rest, 0) = ((1, d), (rest, 0)) := by
      unfold rCellRaw
      rw [e1]
      dsimp only
      rw [if_pos rfl, e2]
    unfold rCell
    rw [e3, if_neg (by simp)]
    rfl
  · have hd0 := hd h1
    subst hd0
    have e1 : rWithin 3 (cbytes ((n : Int), []) ++ rest, 0) = (n, (rest, 0)) := by
      have := rWithin_vb (k := n) (m := 3) (by unfold U64; omega) (by omega) (by omega) rest
      rw [← this]
      have hcb : cbytes ((n : Int), []) = [UInt8.ofNat n] := by unfold cbytes; rw [if_neg h1, Int.toNat_natCast]
      rw [hcb, vb_small (by omega)]
    have e3 : rCellRaw (cbytes ((n : Int), []) ++ rest, 0) = (((n : Int), []), (rest, 0)) := by
      unfold rCellRaw
      rw [e1]
      dsimp only
      rw [if_neg (by omega)]
    unfold rCell
    rw [e3, if_neg (by simp)]
def rput (cs : List Ce) : List UInt8 × Nat := if 64 < cs.length then ([], 3) else if rchk cs ≠ 0 then ([], rchk cs) else (vb cs.length ++ prun [] cs, 0)
theorem PutRun_u {E : Option Addr} {cap : Nat} (cs : List CeV) (w : World) (h : SlC w E cap cs) : Calls Try.prog 96 #[.slice none 0 0, .slice E cs.length cap] w (PutsB w (rput (cs.map ceOf))) := by
  refine (PutRun_any (B := none) (f := 0) (l := []) cs w (Sl.none_ _ _) h (by simp)).mono ?_
  rintro e w3 ⟨hb3, ⟨A3, c3, m3, hl3, hr3, rfl, hm3, ho3⟩ | ⟨bad, hbad, hbe, rfl⟩⟩
  · have he : rput (cs.map ceOf) = (vb (cs.map ceOf).length ++ prun [] (cs.map ceOf), 0) := by
      unfold rput
      rw [if_neg (by omega), if_neg (by rw [hr3]; simp)]
    exact ⟨A3, c3, m3, by rw [he]; rfl, (show _ = _ from by rw [he, hm3.out]; simp), ho3, hb3⟩
  · have he : rput (cs.map ceOf) = ([], bad) := by
      unfold rput
      by_cases hl : 64 < (cs.map ceOf).length
      · rw [if_pos hl] at hbe ⊢; rw [hbe]
      · rw [if_neg hl] at hbe ⊢; rw [if_pos (by rw [← hbe]; exact hbad), hbe]
    exact ⟨none, 0, [], by rw [he]; rfl, (show _ = _ from by rw [he]), Own.none_ _ _ _ _, hb3⟩
theorem rput_ok {cs : List Ce} (h : (rput cs).2 = 0) : cs.length ≤ 64 ∧ rchk cs = 0 ∧ (rput cs).1 = vb cs.length ++ prun [] cs := by
  unfold rput at h ⊢
  by_cases h1 : 64 < cs.length
  · rw [if_pos h1] at h; exact absurd h (Nat.succ_ne_zero 2)
  · rw [if_neg h1] at h ⊢
    by_cases h2 : rchk cs ≠ 0
    · rw [if_pos h2] at h; exact absurd h h2
    · rw [if_neg h2]
      exact ⟨by omega, Decidable.byContradiction h2, rfl⟩
def cput (c : Ce) : List UInt8 × Nat := if cchk c ≠ 0 then ([], cchk c) else (cbytes c, 0)
theorem CPut_u {A : Option Addr} {c : Nat} (k : Int) (d : List UInt8) (w : World) (ha : SlB w A c d) : Calls Try.prog 21 #[.slice none 0 0, cv k A d.length c] w (PutsB w (cput (k, d))) := by
  refine (CPut_any (A := A) (E := none) (c := c) (f := 0) (l := []) k d w (Sl.none_ _ _) ha (by simp)).mono ?_
  rintro e w3 ⟨hb3, ⟨A3, c3, m3, h0, rfl, hm3, ho3⟩ | ⟨hbad, rfl⟩⟩
  · have he : cput (k, d) = (cbytes (k, d), 0) := by unfold cput; rw [if_neg (by rw [h0]; simp)]
    exact ⟨A3, c3, m3, by rw [he]; rfl, (show _ = _ from by rw [he, hm3.out]; simp), ho3, hb3⟩
  · have he : cput (k, d) = ([], cchk (k, d)) := by unfold cput; rw [if_pos hbad]
    exact ⟨none, 0, [], by rw [he]; rfl, (show _ = _ from by rw [he]), Own.none_ _ _ _ _, hb3⟩
set_option maxRecDepth 100000 in
theorem errv_eql (n : Nat) (W : World) : (binOp .eql 35 (errv n) .nilIface).run Try.prog W = .ok (.bool (decide (n = 0))) W := by
  rcases errv_cases n with ⟨h0, he⟩ | ⟨k, hk, hke, he⟩
  · subst h0
    rw [he]
    go_simp
  · rw [he, show decide (n = 0) = false from by simp; omega]
    go_simp
set_option maxRecDepth 100000 in
theorem errv_guard (n : Nat) (x : Operand) (W : World) : (eqGuard .eql 35 x (.const .nilIface) (errv n) .nilIface).run Try.prog W = .ok () W := by
  rcases errv_cases n with ⟨h0, he⟩ | ⟨k, hk, hke, he⟩
  · rw [he]
    go_simp
  · rw [he]
    go_simp
theorem End_nilv {g B : Nat} {w : World} (hR : IsR w g B ([], 0)) : Calls Try.prog 32 #[.pointer (some ⟨g, 0, none⟩)] w fun e w' => e = .returned .nilIface ∧ w = w' := End_s hR
theorem Left_s {g B : Nat} {s : Rs} {w : World} (hR : IsR w g B s) : Calls Try.prog 72 #[.pointer (some ⟨g, 0, none⟩)] w fun e w' => e = .returned (.int .i64 (rLeft s : Nat)) ∧ w = w' := by obtain ⟨l, b⟩ := s; exact Left_any hR
theorem takeRun_nil {s : Rs} (h : (takeRun s).2.2 ≠ 0) : (takeRun s).1 = [] := by
  unfold takeRun at h ⊢
  by_cases hb : (tkEnd (tkNew s)).s.2 ≠ 0
  · rw [if_pos hb]
  · rw [if_neg hb] at h; exact absurd h hb
end Go.Proofs.Ytgipfenjachpnaa

namespace Go.Proofs.Ytgipfenjachpnaa
open Go.RowKit
attribute [local go_sem ↓] Go.wp_at_zero Go.wp_at_succ

theorem a23_ok : qchk (1, 3) = 0 := by decide
theorem a23_txt : qtxt (1, 3) = [2, 1, 3] := by simp [qtxt, vb_small]
theorem neq_rc (a b c d : Int) (w : World) : (binOp .neq 105 (.agg #[.int .i64 a, .int .i64 b]) (.agg #[.int .i64 c, .int .i64 d])).run Try.prog w = .ok (.bool (!(a == c && b == d))) w := by
  simp only [binOp]
  cases h1 : a == c <;> cases h2 : b == d <;> simp [go_sem, Op.equal, Op.maxDepth, Try.underlying105, Try.underlying3, h1, h2]
set_option maxRecDepth 100000 in
set_option maxHeartbeats 1000000 in
theorem alive23_any (w : World) : Calls Try.prog 50 #[] w fun e w' => e = .returned (.bool true) ∧ Below w.heap.size w w' := by
  go_enter Try.func50, Try.ntmps50
  go_wp2_with fail
  refine (QPut_any 1 3 _).mono ?_
  rintro e w1 ⟨A1, c1, m1, he, hm1, ho1, hb1⟩
  have hp : qput (1, 3) = ([3, 2, 1, 3] ++ four (sumW (txb [2, 1, 3])), 0) := by
    rw [qput_ok a23_ok, a23_txt]
    have h4 : txb [2, 1, 3] = [3, 2, 1, 3] := by simp [txb, vb_small]
    unfold frm
    rw [h4]
  have hT := qcTake_put a23_ok
  rw [show frm (qtxt (1, 3)) = m1 from by rw [hm1.out, qput_ok a23_ok]] at hT
  rw [hp] at he hm1
  have h8 : m1.length = 8 := by rw [hm1.out]; simp [four_len]
  have h4 : m1.take 4 = [3, 2, 1, 3] := by rw [hm1.out]; rfl
  have hQ := QTake_any A1 c1 m1 w1 ho1.sl (by omega)
  rw [hT] at hQ
  unfold GivesRc at hQ
  have hev : errv 0 = .nilIface := rfl
  dsimp only at he hQ
  rw [hev, h8] at he
  rw [hev, h8] at hQ
  subst he
  have hsl := Sl.takeB ho1.sl 4
  rw [h4] at hsl
  have hc8 : 8 ≤ c1 := by have := ho1.sl.2.1; omega
  have HQ := Lib.hid hQ
  clear hQ hT hm1 hp hev h8 h4
  go_wp2_with fail
  refine HQ.out.mono ?_
  rintro e w2 ⟨rfl, hb2⟩
  have hX := Blk.new w2 105 #[.int .i64 1, .int .i64 3]
  have hbx := bel_call hb2 (below_new w2 (.cells #[.int .i64 1, .int .i64 3] 105))
  have hw2 := bel_call hb1 hbx
  have hsl2 := Sl.below hsl hbx
  go_upto_region 3 with (fail)
  generalize hWe : w2.alloc (.cells #[.int .i64 1, .int .i64 3] 105) = w3 at *
  clear hWe
  have hcv := conv_str (P := Try.prog) 22 9 5 Try.underlying22 Try.underlying5 Try.underlying9 (n := 4) hsl2 rfl
  obtain ⟨x0, x1, xf0, xf1⟩ := hX.two
  go_wp2_with fail
  go_ret
  exact ⟨rfl, hw2⟩
end Go.Proofs.Ytgipfenjachpnaa

namespace Go.Proofs.Ytgipfenjachpnaa
open Go.RowKit
attribute [local go_sem ↓] Go.wp_at_zero Go.wp_at_succ

theorem u64q (a : Int) (n : Nat) (hn : n ≤ 1000) : ∃ q : Nat, q ≤ n ∧ (IntKind.u64.wrap a).tmod ((n : Int) + 1) = (q : Int) := by
  rw [IntKind.wrap_u64]
  have h : (0 : Int) ≤ a % 18446744073709551616 := Int.emod_nonneg _ (by decide)
  rw [Int.tmod_eq_emod_of_nonneg h]
  have h1 := Int.emod_nonneg (a % 18446744073709551616) (b := (n : Int) + 1) (by omega)
  have h2 := Int.emod_lt_of_pos (a % 18446744073709551616) (b := (n : Int) + 1) (by omega)
  exact ⟨((a % 18446744073709551616) % ((n : Int) + 1)).toNat, by omega, by omega⟩
theorem data_le {ms : List CeV} {l : List Ce} (h : ms.map ceOf = l) (hl : ∀ c ∈ l, c.2.length ≤ 1000000000) : ∀ x ∈ ms, x.2.2.2.length ≤ 1000000000 := fun x hx => hl (ceOf x) (by rw [← h]; exact List.mem_map_of_mem hx)
theorem sgTake_nil (b : List UInt8) : (sgTake b).2 ≠ 0 → (sgTake b).1 = (0, []) := by
  unfold sgTake
  split
  · intro _; rfl
  · unfold sgEnd
    split
    · intro _; rfl
    · split
      · intro _; rfl
      · intro h; exact absurd rfl h
end Go.Proofs.Ytgipfenjachpnaa
