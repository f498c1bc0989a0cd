/- WHAT IT HOLDS: cursor.Put, walked, for any cursor. -/
import Derived.Test.YtabnndjdkjkciaaGreatDoorCursorKeepsG20
import Derived.Test.YtabnndjdkjkciaaGreatDoorCursorKeepsG19
import Derived.Test.YtabnndjdkjkciaaGreatDoorCursorKeepsG16
import Derived.Deep.DeepCutAuto
import Derived.Deep.CutBlock
namespace Go.Proofs.YtabnndjdkjkciaaGreatDoor
open Go.RowKit
attribute [local go_sem ↓] Go.wp_at_zero Go.wp_at_succ

/-- the bytes that a cursor is put as -/
def crput (x : Cur) : List UInt8 := if crchk x = 0 then frm (crtxt x) else []
def GivesCrb (w0 : World) (x : Cur) (e : Ending) (w' : World) : Prop :=
  ∃ A c m, e = .returned (.tuple #[.slice A (List.length m) c, errv (crchk x)]) ∧ Hid (m = crput x) ∧ OwnB w' w0.heap.size 5 A c m ∧ Below w0.heap.size w0 w'
theorem SlB.dgP {w : World} {g : Nat} {p : Pt5} (h : BlP w g p) : SlB w (some ⟨g, 3, none⟩) 32 p.2.2.2.1 := by
  have hd := p.2.2.2.2
  refine ⟨by simp, by omega, by simp [maxLen], (fun h => by cases h), fun j u hj => ⟨_, rfl, ?_⟩⟩
  have h1 := Blk.cells h (3 + j) u (by
    unfold pta ptl
    rw [show 3 + j = j + 3 by omega]
    simpa using hj)
  rw [addr_lit] at h1 ⊢
  rw [← h1]
  congr 2
  omega
theorem pgo_at {z : Int} : ∀ {l : List Pt5} {a : Int} {k : Nat} (hk : k < l.length), pgo z a l = 0 → (1 ≤ l[k].2.1 ∧ l[k].2.1 ≤ 64) ∧ 1 ≤ l[k].2.2.1 ∧ l[k].2.2.1 ≤ 65536
  | [], _, k, hk, _ => by cases hk
  | p :: r, a, k, hk, h => by
    unfold pgo at h
    by_cases h1 : ptchk p a ≠ 0
    · rw [if_pos h1] at h; exact absurd h h1
    rw [if_neg h1] at h
    cases k with
    | zero =>
      obtain ⟨g1, g2, g3, g4, -⟩ := ptchk_ok (Decidable.byContradiction h1)
      exact ⟨⟨g1, g2⟩, g3, g4⟩
    | succ k => exact pgo_at (l := r) (k := k) (by simpa using hk) h
theorem ptb_take {l : List Pt5} {k : Nat} (hk : k < l.length) : (l.take (k + 1)).flatMap ptb = (l.take k).flatMap ptb ++ ptb l[k] := by
  rw [List.take_succ_eq_append_getElem hk, List.flatMap_append]
  simp
theorem ptb_le {z : Int} {l : List Pt5} {a : Int} (h : pgo z a l = 0) : ∀ k, ((l.take k).flatMap ptb).length ≤ 52 * l.length
  | 0 => by simp
  | k + 1 => by
    by_cases hk : k < l.length
    · have h1 := ptb_len h
      have h2 : l.flatMap ptb = (l.take (k + 1)).flatMap ptb ++ (l.drop (k + 1)).flatMap ptb := by rw [← List.flatMap_append, List.take_append_drop]
      rw [h2, List.length_append] at h1
      omega
    · rw [List.take_of_length_le (by omega)]
      exact ptb_len h
set_option maxRecDepth 100000 in
set_option maxHeartbeats 2000000 in
theorem CrPut_any {A : Option Addr} {c : Nat} (f nx t q : Int) (ps : List Pt5) (w : World) (h : SlP w A c ps) (hI : PtsI ps) :
    Calls Tryz.prog 67 #[crv f nx t q A ps.length c] w (GivesCrb w (f, nx, t, q, ps)) := by
  have hB := Blk.new w 72 #[.int .i64 f, .int .i64 nx, .int .i64 t, .int .i64 q, .slice A ps.length c]
  have hbw := below_new w (.cells #[.int .i64 f, .int .i64 nx, .int .i64 t, .int .i64 q, .slice A ps.length c] 72)
  have HC := Lib.hid (CrCheck_any f nx t q ps _ (h.below hbw) hI)
  rcases Decidable.em (crchk (f, nx, t, q, ps) = 0) with h0 | h0
  rotate_left
  · obtain ⟨ev, hev⟩ : ∃ ev : Int, errv (crchk (f, nx, t, q, ps)) = .iface 68 (.int .i64 ev) := by
      rcases errv_cases (crchk (f, nx, t, q, ps)) with ⟨h1, -⟩ | ⟨k, -, -, h1⟩
      · exact absurd h1 h0
      · exact ⟨k, h1⟩
    have HP := Lib.hid (show crput (f, nx, t, q, ps) = [] from if_neg h0)
    have HE := Lib.hid hev
    rw [hev] at HC
    clear hev h0
    go_enter Tryz.func67, Tryz.ntmps67
    go_wp2_with fail
    refine HC.out.mono ?_
    rintro e w1 ⟨rfl, hb1⟩
    have hw1 := bel_call hbw hb1
    clear HC hb1
    go_wp2_with fail
    go_ret2
    exact ⟨none, 0, [], by rw [HE.out]; rfl, (show _ = _ from HP.out.symm), Own.none_ _ _ _ _, hw1⟩
  have HP := Lib.hid (show crput (f, nx, t, q, ps) = frm (crtxt (f, nx, t, q, ps)) from if_pos h0)
  have H0 := Lib.hid h0
  have HL := Lib.hid (crtxt_len h0)
  obtain ⟨k1, k2, k3, k4, k5, k6⟩ := crchk_ok h0
  dsimp only at k1 k2 k3 k4 k5 k6
  have HG := Lib.hid k6
  rw [h0, show errv 0 = Value.nilIface from rfl] at HC
  obtain ⟨nf, hf⟩ : ∃ n : Nat, f = n := ⟨f.toNat, by omega⟩
  obtain ⟨nn, hn⟩ : ∃ n : Nat, nx = n := ⟨nx.toNat, by omega⟩
  obtain ⟨nt, ht⟩ : ∃ n : Nat, t = n := ⟨t.toNat, by omega⟩
  obtain ⟨nq, hq⟩ : ∃ n : Nat, q = n := ⟨q.toNat, by omega⟩
  subst hf hn ht hq
  have c1 : IntKind.u64.wrap (nf : Int) = (nf : Int) := wrap_u64_of (by unfold U64; omega)
  have c2 : IntKind.u64.wrap (nn : Int) = (nn : Int) := wrap_u64_of (by unfold U64; omega)
  have c3 : IntKind.u64.wrap (nt : Int) = (nt : Int) := wrap_u64_of (by unfold U64; omega)
  have c4 : IntKind.u64.wrap (nq : Int) = (nq : Int) := wrap_u64_of (by unfold U64; omega)
  have c5 : IntKind.u64.wrap (ps.length : Int) = (ps.length : Int) := wrap_u64_of (by unfold U64; omega)
  have Hh := Lib.hid h
  clear h h0 k6
  go_enter Tryz.func67, Tryz.ntmps67
  go_wp2_with fail
  refine HC.out.mono ?_
  rintro e w1 ⟨rfl, hb1⟩
  have hB1 := Blk.below hB hb1
  have hw1 := bel_call hbw hb1
  clear hB hbw hb1 HC
  obtain ⟨a0, a1, a2, a3, a4, -⟩ := Blk.five hB1
  have hLn : SlN (w1.alloc (.cells #[.int .u64 nf, .int .u64 nn, .int .u64 nt, .int .u64 nq, .int .u64 (ps.length : Nat)] 124)) (some ⟨w1.heap.size, 0, none⟩) 5 [nf, nn, nt, nq, ps.length] := Sl.lits w1 [nv nf, nv nn, nv nt, nv nq, nv ps.length] 124 (by simp [maxLen])
  have HLn := Lib.hid hLn
  clear hLn
  go_wp2_with fail
  refine (Put_any none 0 [] _ 5 [nf, nn, nt, nq, ps.length] _ (by simp) (Sl.none_ _ _) HLn.out (by simp) (by intro z hz; simp at hz; unfold U64; rcases hz with rfl | rfl | rfl | rfl | rfl <;> omega)).mono ?_
  rintro e w2 ⟨A2, c2', m2, rfl, hm2, ho2, hb2⟩
  have hB2 := Blk.below (Blk.alloc hB1 (.cells #[.int .u64 nf, .int .u64 nn, .int .u64 nt, .int .u64 nq, .int .u64 (ps.length : Nat)] 124)) hb2
  have hw2 := bel_call (bel_alloc hw1 (.cells #[.int .u64 nf, .int .u64 nn, .int .u64 nt, .int .u64 nq, .int .u64 (ps.length : Nat)] 124)) hb2
  have hs2 := ho2.sl
  clear hB1 hw1 hb2 ho2 HLn a0 a1 a2 a3 a4 c1 c2 c3 c4 c5
  obtain ⟨a0, a1, a2, a3, a4, -⟩ := Blk.five hB2
  go_wp2_with fail
  clear a0 a1 a2 a3 a4
  go_loopw [34, 5] (fun x y wr => ∃ (k : Nat) (E : Option Addr) (n : Nat) (m : List UInt8), k ≤ ps.length ∧ x = .int .i64 k ∧ y = .slice E m.length n ∧ Hid (m = vbs [nf, nn, nt, nq, ps.length] ++ (ps.take k).flatMap ptb) ∧ SlB wr E n m ∧ Blk wr w.heap.size 72 #[.int .i64 nf, .int .i64 nn, .int .i64 nt, .int .i64 nq, .slice A ps.length c] ∧ Below w.heap.size w wr) (fun x _ w => ps.length - (intOf x).toNat)
  case atStart => exact ⟨0, A2, c2', m2, Nat.zero_le _, rfl, rfl, (show _ = _ from by rw [hm2.out]; simp), hs2, hB2, hw2⟩
  case round =>
    clear hs2 hB2 hw2 hm2
    obtain ⟨k, E, n, m, hk, rfl, rfl, hm, hsm, hBr, hbr⟩ := hrel
    have hml : m.length ≤ 60000 := by
      rw [hm.out]
      have h1 := ptb_le HG.out k
      have l1 := vb_le10 (n := nf) (by omega)
      have l2 := vb_le10 (n := nn) (by omega)
      have l3 := vb_le10 (n := nt) (by omega)
      have l4 := vb_le10 (n := nq) (by omega)
      have l5 := vb_le10 (n := ps.length) (by omega)
      simp only [vbs, List.flatMap_cons, List.flatMap_nil, List.length_append, List.length_nil]
      omega
    by_cases hlt : k < ps.length
    · have hI1 : (k : Int) < (ps.length : Int) := by omega
      obtain ⟨ad, b, o, rfl, had, hcc⟩ := (Hh.out.below hbr).at hlt
      obtain ⟨⟨g1, g2⟩, g3, g4⟩ := pgo_at hlt HG.out
      have HNx := Lib.hid (ptb_take hlt)
      generalize ps[k] = p at *
      obtain ⟨nm, hnm⟩ : ∃ n : Nat, p.2.1.toNat = n := ⟨_, rfl⟩
      obtain ⟨nz, hnz⟩ : ∃ n : Nat, p.2.2.1.toNat = n := ⟨_, rfl⟩
      have c6 : IntKind.u64.wrap p.2.1 = (nm : Int) := by
        rw [show p.2.1 = (nm : Int) by omega]
        exact wrap_u64_of (by unfold U64; omega)
      have c7 : IntKind.u64.wrap p.2.2.1 = (nz : Int) := by
        rw [show p.2.2.1 = (nz : Int) by omega]
        exact wrap_u64_of (by unfold U64; omega)
      have u6 : U64 nm := by unfold U64; omega
      have u7 : U64 nz := by unfold U64; omega
      have HPb := Lib.hid (show ptb p = vb nm ++ (vb nz ++ p.2.2.2.1) from by unfold ptb; rw [hnm, hnz])
      have hX := Blk.new wr 28 (pta p)
      obtain ⟨x0, x1, x2⟩ := BlP.three hX
      have hbx := below_new wr (.cells (pta p) 28)
      have hps := Lib.hid (pta_size p)
      have hpa := Lib.hid (pta_all p)
      have HCC := Lib.hid hcc
      obtain ⟨a0, a1, a2, a3, a4, -⟩ := Blk.five hBr
      clear hcc g1 g2 g3 g4 hnm hnz
      have hlo := hbr.size
      go_upto_block 1 with (fail)
      go_cut [5] (fun y wz => ∃ (E' : Option Addr) (n' : Nat) (m' : List UInt8), y = .slice E' (List.length m') n' ∧ Hid (m' = m ++ ptb p) ∧ SlB wz E' n' m' ∧ Blk wz w.heap.size 72 #[.int .i64 nf, .int .i64 nn, .int .i64 nt, .int .i64 nq, .slice (some ad) ps.length c] ∧ Below w.heap.size w wz)
      case first =>
        go_upto_region 8 with (first | (refine wpl_loadG rfl 28 _ rfl ⟨b, o, none⟩ (pta p) rfl HCC.out _ Tryz.underlying28 rfl (by rw [hps.out]; kernel_rfl) ?_) | (refine wpl_storeN rfl 28 _ _ rfl _ (pta p) 28 rfl rfl (by rw [hps.out]; kernel_rfl) (by rw [hps.out]; rfl) hpa.out ?_))
        have hst : BlP (World.drew (wr.alloc (.cells (pta p) 28))) wr.heap.size p ∧ Blk (World.drew (wr.alloc (.cells (pta p) 28))) w.heap.size 72 #[.int .i64 nf, .int .i64 nn, .int .i64 nt, .int .i64 nq, .slice (some ad) ps.length c] ∧ Below w.heap.size w (World.drew (wr.alloc (.cells (pta p) 28))) := ⟨hX.drew, (hBr.alloc _).drew, (bel_call hbr hbx).drew⟩
        have hsm2 : SlB (World.drew (wr.alloc (.cells (pta p) 28))) E n m := Sl.below hsm (show Below wr.heap.size wr (World.drew (wr.alloc (.cells (pta p) 28))) from hbx.drew)
        clear x0 x1 x2 a0 a1 a2 a3 a4 hX hbx hsm hBr
        refine wp_region_held_drew (S := (fun W => BlP W wr.heap.size p ∧ Blk W w.heap.size 72 #[.int .i64 nf, .int .i64 nn, .int .i64 nt, .int .i64 nq, .slice (some ad) ps.length c] ∧ Below w.heap.size w W)) (by kernel_rfl) ?_ (fun hHeld => ?_)
        · exact hst
        refine gen0 (T := fun W => ((fun W => BlP W wr.heap.size p ∧ Blk W w.heap.size 72 #[.int .i64 nf, .int .i64 nn, .int .i64 nt, .int .i64 nq, .slice (some ad) ps.length c] ∧ Below w.heap.size w W)) W ∧ SlB W E n m ∧ True) ?_ (fun wq1 hT => ?_)
        · exact ⟨by (first | with_reducible exact hst | exact ⟨Blk.alloc hHeld.1 _, Blk.alloc hHeld.2.1 _, bel_alloc hHeld.2.2 _⟩ | exact ⟨Blk.below hHeld.1 hb9, Blk.below hHeld.2.1 hb9, bel_call hHeld.2.2 hb9⟩ | exact ⟨(hb8.block _ (Nat.lt_succ_self _)).trans hHeld.1, (hb8.block _ (by omega)).trans hHeld.2.1, hHeld.2.2.trans (hb8.mono (by omega))⟩), by (first | with_reducible assumption | with_reducible exact hsm2 | exact Sl.below f0 (below_new _ _) | exact Sl.lits _ [nv nm, nv nz] 124 (by simp [maxLen]) | exact Own.more ho9 (Blk.lt hHeld.1) | exact ho8.sl), trivial⟩
        (try clear f0 f1 f2 f3 f4 f5 f6 f7 f8 f9 f10 f11)
        obtain ⟨hHeld, f0, -⟩ := hT
        refine wpAnyH_take (i := 0) (oi := ⟨some 38, _, _, _, _, _⟩) (v := ?_) rfl (by kernel_rfl) (by kernel_rfl) (by kernel_rfl) (fun _ _ _ h => h) (Or.inl ⟨by kernel_rfl, ?_⟩) (by assumption) ?_
        rotate_left
        · (intro wS hSw; (try dsimp only at hSw); obtain ⟨x0, x1, x2⟩ := BlP.three hSw.1; clear hSw; go_simp; (try with_reducible rfl))
        (try simp only [Act.put, List.setIfInBounds_toArray, List.set_cons_zero, List.set_cons_succ])
        refine wpAnyH_take (i := 1) (oi := ⟨some 39, _, _, _, _, _⟩) (v := ?_) rfl (by kernel_rfl) (by kernel_rfl) (by kernel_rfl) (fun _ _ _ h => h) (Or.inl ⟨by kernel_rfl, ?_⟩) (by assumption) ?_
        rotate_left
        · (intro wS hSw; (try dsimp only at hSw); obtain ⟨x0, x1, x2⟩ := BlP.three hSw.1; clear hSw; go_simp; (try with_reducible rfl))
        (try simp only [Act.put, List.setIfInBounds_toArray, List.set_cons_zero, List.set_cons_succ])
        refine wpAnyH_take (i := 2) (oi := ⟨some 40, _, _, _, _, _⟩) (v := ?_) rfl (by kernel_rfl) (by kernel_rfl) (by kernel_rfl) (fun _ _ _ h => h) (Or.inl ⟨by kernel_rfl, ?_⟩) (by assumption) ?_
        rotate_left
        · (intro wS hSw; (try dsimp only at hSw); obtain ⟨x0, x1, x2⟩ := BlP.three hSw.1; clear hSw; go_simp; (try with_reducible rfl))
        (try simp only [Act.put, List.setIfInBounds_toArray, List.set_cons_zero, List.set_cons_succ])
        refine wpAnyH_take (i := 3) (oi := ⟨some 41, _, _, _, _, _⟩) (v := ?_) rfl (by kernel_rfl) (by kernel_rfl) (by kernel_rfl) (fun _ _ _ h => h) (Or.inl ⟨by kernel_rfl, ?_⟩) (by assumption) ?_
        rotate_left
        · (intro wS hSw; (try dsimp only at hSw); obtain ⟨x0, x1, x2⟩ := BlP.three hSw.1; clear hSw; go_simp; (try with_reducible rfl))
        (try simp only [Act.put, List.setIfInBounds_toArray, List.set_cons_zero, List.set_cons_succ])
        refine wpAnyH_take (i := 4) (oi := ⟨some 42, _, _, _, _, _⟩) (v := ?_) rfl (by kernel_rfl) (by kernel_rfl) (by kernel_rfl) (fun _ _ _ h => h) (Or.inl ⟨by kernel_rfl, ?_⟩) (by assumption) ?_
        rotate_left
        · (intro wS hSw; (try dsimp only at hSw); obtain ⟨x0, x1, x2⟩ := BlP.three hSw.1; clear hSw; go_simp; (try with_reducible rfl))
        (try simp only [Act.put, List.setIfInBounds_toArray, List.set_cons_zero, List.set_cons_succ])
        refine wpAnyH_take (i := 5) (oi := ⟨some 43, _, _, _, _, _⟩) (v := ?_) rfl (by kernel_rfl) (by kernel_rfl) (by kernel_rfl) (fun _ _ _ h => h) (Or.inl ⟨by kernel_rfl, ?_⟩) (by assumption) ?_
        rotate_left
        · (intro wS hSw; (try dsimp only at hSw); obtain ⟨x0, x1, x2⟩ := BlP.three hSw.1; clear hSw; go_simp; (try with_reducible rfl))
        (try simp only [Act.put, List.setIfInBounds_toArray, List.set_cons_zero, List.set_cons_succ])
        refine wpAnyH_take (i := 6) (oi := ⟨some 44, _, _, _, _, _⟩) (v := ?_) rfl (by kernel_rfl) (by kernel_rfl) (by kernel_rfl) (fun _ _ _ h => h) (Or.inl ⟨by kernel_rfl, ?_⟩) (by assumption) ?_
        rotate_left
        · (intro wS hSw; (try dsimp only at hSw); obtain ⟨x0, x1, x2⟩ := BlP.three hSw.1; clear hSw; go_simp; (try with_reducible rfl))
        (try simp only [Act.put, List.setIfInBounds_toArray, List.set_cons_zero, List.set_cons_succ])
        refine wpAnyH_take (i := 9) (oi := ⟨some 47, _, _, _, _, _⟩) (v := ?_) rfl (by kernel_rfl) (by kernel_rfl) (by kernel_rfl) (fun _ _ _ h => h) (Or.inl ⟨by kernel_rfl, ?_⟩) (by assumption) ?_
        rotate_left
        · (intro wS hSw; (try dsimp only at hSw); obtain ⟨x0, x1, x2⟩ := BlP.three hSw.1; clear hSw; go_simp; (try with_reducible rfl))
        (try simp only [Act.put, List.setIfInBounds_toArray, List.set_cons_zero, List.set_cons_succ])
        refine wpAnyH_take (i := 10) (oi := ⟨some 48, _, _, _, _, _⟩) (v := ?_) rfl (by kernel_rfl) (by kernel_rfl) (by kernel_rfl) (fun _ _ _ h => h) (Or.inl ⟨by kernel_rfl, ?_⟩) (by assumption) ?_
        rotate_left
        · (intro wS hSw; (try dsimp only at hSw); obtain ⟨x0, x1, x2⟩ := BlP.three hSw.1; clear hSw; go_simp; (try with_reducible rfl))
        (try simp only [Act.put, List.setIfInBounds_toArray, List.set_cons_zero, List.set_cons_succ])
        refine wpAnyH_ready (rs := [7]) (by kernel_rfl) (by simp) ?_
        refine AllReadyH.cons (o := ⟨some 45, _, _, _, _, _⟩) rfl (fun K hK => ?_) AllReadyH.nil
        go_simp
        refine hK.out _ _ ?_ (fun _ => ?_)
        · ((try dsimp only); (first | with_reducible exact hst | exact ⟨Blk.alloc hHeld.1 _, Blk.alloc hHeld.2.1 _, bel_alloc hHeld.2.2 _⟩ | exact ⟨Blk.below hHeld.1 hb9, Blk.below hHeld.2.1 hb9, bel_call hHeld.2.2 hb9⟩ | exact ⟨(hb8.block _ (Nat.lt_succ_self _)).trans hHeld.1, (hb8.block _ (by omega)).trans hHeld.2.1, hHeld.2.2.trans (hb8.mono (by omega))⟩))
        clear hK K
        (try simp only [Act.put, List.setIfInBounds_toArray, List.set_cons_zero, List.set_cons_succ])
        refine gen0 (T := fun W => ((fun W => BlP W wr.heap.size p ∧ Blk W w.heap.size 72 #[.int .i64 nf, .int .i64 nn, .int .i64 nt, .int .i64 nq, .slice (some ad) ps.length c] ∧ Below w.heap.size w W)) W ∧ SlB W E n m ∧ SlN W (some ⟨wq1.heap.size, 0, none⟩) 2 [nm, nz] ∧ True) ?_ (fun wq2 hT => ?_)
        · exact ⟨by (first | with_reducible exact hst | exact ⟨Blk.alloc hHeld.1 _, Blk.alloc hHeld.2.1 _, bel_alloc hHeld.2.2 _⟩ | exact ⟨Blk.below hHeld.1 hb9, Blk.below hHeld.2.1 hb9, bel_call hHeld.2.2 hb9⟩ | exact ⟨(hb8.block _ (Nat.lt_succ_self _)).trans hHeld.1, (hb8.block _ (by omega)).trans hHeld.2.1, hHeld.2.2.trans (hb8.mono (by omega))⟩), by (first | with_reducible assumption | with_reducible exact hsm2 | exact Sl.below f0 (below_new _ _) | exact Sl.lits _ [nv nm, nv nz] 124 (by simp [maxLen]) | exact Own.more ho9 (Blk.lt hHeld.1) | exact ho8.sl), by (first | with_reducible assumption | with_reducible exact hsm2 | exact Sl.below f0 (below_new _ _) | exact Sl.lits _ [nv nm, nv nz] 124 (by simp [maxLen]) | exact Own.more ho9 (Blk.lt hHeld.1) | exact ho8.sl), trivial⟩
        (try clear f0 f1 f2 f3 f4 f5 f6 f7 f8 f9 f10 f11)
        obtain ⟨hHeld, f0, f1, -⟩ := hT
        refine wpAnyH_ready (rs := [8]) (by kernel_rfl) (by simp) ?_
        refine AllReadyH.cons (o := ⟨some 46, _, _, _, _, _⟩) rfl (fun K hK => ?_) AllReadyH.nil
        go_simp
        (refine (Put_any E n m _ 2 [nm, nz] _ (by omega) f0 f1 (by simp) (by intro z hz; simp at hz; rcases hz with rfl | rfl; exact u6; exact u7)).mono ?_; rintro e w9 ⟨A9, c9, m9, rfl, hm9, ho9, hb9⟩; have hml9 : m9.length ≤ 61000 := (by rw [hm9.out]; have h1 := vb_le10 u6; have h2 := vb_le10 u7; simp only [vbs, List.flatMap_cons, List.flatMap_nil, List.length_append, List.length_nil]; omega))
        go_wp2_with fail
        refine hK.out _ _ ?_ (fun _ => ?_)
        · ((try dsimp only); (first | with_reducible exact hst | exact ⟨Blk.alloc hHeld.1 _, Blk.alloc hHeld.2.1 _, bel_alloc hHeld.2.2 _⟩ | exact ⟨Blk.below hHeld.1 hb9, Blk.below hHeld.2.1 hb9, bel_call hHeld.2.2 hb9⟩ | exact ⟨(hb8.block _ (Nat.lt_succ_self _)).trans hHeld.1, (hb8.block _ (by omega)).trans hHeld.2.1, hHeld.2.2.trans (hb8.mono (by omega))⟩))
        clear hK K
        (try simp only [Act.put, List.setIfInBounds_toArray, List.set_cons_zero, List.set_cons_succ])
        refine gen0 (T := fun W => ((fun W => BlP W wr.heap.size p ∧ Blk W w.heap.size 72 #[.int .i64 nf, .int .i64 nn, .int .i64 nt, .int .i64 nq, .slice (some ad) ps.length c] ∧ Below w.heap.size w W)) W ∧ OwnB W (wr.heap.size + 1) 5 A9 c9 m9 ∧ True) ?_ (fun wq3 hT => ?_)
        · exact ⟨by (first | with_reducible exact hst | exact ⟨Blk.alloc hHeld.1 _, Blk.alloc hHeld.2.1 _, bel_alloc hHeld.2.2 _⟩ | exact ⟨Blk.below hHeld.1 hb9, Blk.below hHeld.2.1 hb9, bel_call hHeld.2.2 hb9⟩ | exact ⟨(hb8.block _ (Nat.lt_succ_self _)).trans hHeld.1, (hb8.block _ (by omega)).trans hHeld.2.1, hHeld.2.2.trans (hb8.mono (by omega))⟩), by (first | with_reducible assumption | with_reducible exact hsm2 | exact Sl.below f0 (below_new _ _) | exact Sl.lits _ [nv nm, nv nz] 124 (by simp [maxLen]) | exact Own.more ho9 (Blk.lt hHeld.1) | exact ho8.sl), trivial⟩
        (try clear f0 f1 f2 f3 f4 f5 f6 f7 f8 f9 f10 f11)
        obtain ⟨hHeld, f0, -⟩ := hT
        refine wpAnyH_ready (rs := [11]) (by kernel_rfl) (by simp) ?_
        refine AllReadyH.cons (o := ⟨some 49, _, _, _, _, _⟩) rfl (fun K hK => ?_) AllReadyH.nil
        (refine step_bytesG 29 5 Tryz.underlying29 u8_info (by kernel_rfl) (.tmp 46) (.tmp 48) rfl (wr.heap.size + 1) A9 c9 m9 rfl f0 (some ⟨wr.heap.size, 3, none⟩) 32 32 p.2.2.2.1 p.2.2.2.2.symm rfl (SlB.dgP hHeld.1) (by rw [p.2.2.2.2]; omega) (Blk.lt hHeld.1) ?_; intro A8 c8 m8 w8 hm8 ho8 hg8 hb8)
        refine hK.out _ _ ?_ (fun _ => ?_)
        · ((try dsimp only); (first | with_reducible exact hst | exact ⟨Blk.alloc hHeld.1 _, Blk.alloc hHeld.2.1 _, bel_alloc hHeld.2.2 _⟩ | exact ⟨Blk.below hHeld.1 hb9, Blk.below hHeld.2.1 hb9, bel_call hHeld.2.2 hb9⟩ | exact ⟨(hb8.block _ (Nat.lt_succ_self _)).trans hHeld.1, (hb8.block _ (by omega)).trans hHeld.2.1, hHeld.2.2.trans (hb8.mono (by omega))⟩))
        clear hK K
        (try simp only [Act.put, List.setIfInBounds_toArray, List.set_cons_zero, List.set_cons_succ])
        refine gen0 (T := fun W => ((fun W => BlP W wr.heap.size p ∧ Blk W w.heap.size 72 #[.int .i64 nf, .int .i64 nn, .int .i64 nt, .int .i64 nq, .slice (some ad) ps.length c] ∧ Below w.heap.size w W)) W ∧ SlB W A8 c8 m8 ∧ True) ?_ (fun wq4 hT => ?_)
        · exact ⟨by (first | with_reducible exact hst | exact ⟨Blk.alloc hHeld.1 _, Blk.alloc hHeld.2.1 _, bel_alloc hHeld.2.2 _⟩ | exact ⟨Blk.below hHeld.1 hb9, Blk.below hHeld.2.1 hb9, bel_call hHeld.2.2 hb9⟩ | exact ⟨(hb8.block _ (Nat.lt_succ_self _)).trans hHeld.1, (hb8.block _ (by omega)).trans hHeld.2.1, hHeld.2.2.trans (hb8.mono (by omega))⟩), by (first | with_reducible assumption | with_reducible exact hsm2 | exact Sl.below f0 (below_new _ _) | exact Sl.lits _ [nv nm, nv nz] 124 (by simp [maxLen]) | exact Own.more ho9 (Blk.lt hHeld.1) | exact ho8.sl), trivial⟩
        (try clear f0 f1 f2 f3 f4 f5 f6 f7 f8 f9 f10 f11)
        obtain ⟨hHeld, f0, -⟩ := hT
        refine wpAnyH_take (i := 12) (oi := ⟨some 5, _, _, _, _, _⟩) (v := ?_) rfl (by kernel_rfl) (by kernel_rfl) (by kernel_rfl) (fun _ _ _ h => h) (Or.inl ⟨by kernel_rfl, ?_⟩) (by assumption) ?_
        rotate_left
        · (intro wS hSw; (try dsimp only at hSw); obtain ⟨x0, x1, x2⟩ := BlP.three hSw.1; clear hSw; go_simp; (try with_reducible rfl))
        (try simp only [Act.put, List.setIfInBounds_toArray, List.set_cons_zero, List.set_cons_succ])
        refine wpAnyH_done (by kernel_rfl) ?_ _
        go_wp2_with fail
        go_meet
        exact ⟨A8, c8, m8, rfl, (show _ = _ from by rw [hm8.out, hm9.out, HPb.out]; simp [vbs, List.append_assoc]), f0, hHeld.2.1, hHeld.2.2⟩
      obtain ⟨E', n', m', rfl, hm', hs', hB', hb'⟩ := hcut
      clear x0 x1 x2 a0 a1 a2 a3 a4 hX hbx hsm hBr
      go_wp2_with fail
      go_roundw
      case rel => exact ⟨k + 1, E', n', m', hlt, by go_num, rfl, (show _ = _ from by rw [hm'.out, hm.out, HNx.out, List.append_assoc]), hs', hB', hb'⟩
      case measure => simp [intOf]; omega
    · have hI1 : (ps.length : Int) ≤ (k : Int) := by omega
      have hcm : crtxt ((nf : Int), (nn : Int), (nt : Int), (nq : Int), ps) = m := by
        rw [hm.out, List.take_of_length_le (by omega)]
        unfold crtxt
        simp [vbs, List.append_assoc]
      have HCm := Lib.hid hcm
      have hfp : fput [] m = (frm m, 0) := by
        unfold fput
        rw [if_neg (by omega)]
        rfl
      have HFp := Lib.hid hfp
      obtain ⟨a0, a1, a2, a3, a4, -⟩ := Blk.five hBr
      clear hcm hfp
      go_wp2_with fail
      refine (FPut_any none 0 [] E n m _ (by simp) (Sl.none_ _ _) hsm (by omega)).mono ?_
      rintro e w6 ⟨A6, c6, m6, he, hm6, ho6, hb6⟩
      rw [HFp.out] at he hm6
      dsimp only at he hm6
      rw [show errv 0 = .nilIface from rfl] at he
      subst he
      have HR := Lib.hid (show GivesCrb w ((nf : Int), (nn : Int), (nt : Int), (nq : Int), ps) (.returned (.tuple #[.slice A6 (List.length m6) c6, .nilIface])) w6 from ⟨A6, c6, m6, by rw [H0.out]; rfl, (show _ = _ from by rw [hm6.out, HP.out, HCm.out]), Own.more ho6 hbr.size, bel_call hbr hb6⟩)
      clear ho6 hb6 hm6
      go_wp2_with fail
      go_ret2
      exact HR.out
end Go.Proofs.YtabnndjdkjkciaaGreatDoor
