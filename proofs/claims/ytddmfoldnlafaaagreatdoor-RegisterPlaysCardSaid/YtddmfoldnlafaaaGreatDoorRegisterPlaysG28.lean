/- WHAT IT HOLDS: a register and the document's opened: walked. | WHAT IT HOLDS: an act on a register as cells. | WHAT IT HOLDS: which acts on a disk are driven: walked. | WHAT IT HOLDS: while an act on a register and the document's is done: what lies where. -/
import Derived.Test.YtddmfoldnlafaaaGreatDoorRegisterPlaysG27
import Derived.Test.YtddmfoldnlafaaaGreatDoorRegisterPlaysG22
import Derived.Test.YtddmfoldnlafaaaGreatDoorRegisterPlaysG17
namespace Go.Proofs.YtddmfoldnlafaaaGreatDoor
open Go.RowKit Go.Maps Go.Sort
attribute [local go_sem ↓] Go.wp_at_zero Go.wp_at_succ

theorem rrg_nob {d : Dk Bs} {A : Option Addr} {c : Nat} {B : Option Addr} {k : Nat} {sp bo : Int} {L : L3r} {n : Int} (o : Nat) (x : UInt8) : (rrg d A c B k sp bo L n)[o]? ≠ some (bv x) := by
  intro h
  unfold rrg at h
  match o with
  | 0 => simp at h
  | 1 => simp at h
  | 2 => simp at h
  | 3 => simp at h
  | 4 => simp at h
  | 5 => simp at h
  | 6 => simp at h
  | 7 => simp at h
  | 8 => simp at h
  | 9 => simp at h
  | 10 => simp at h
  | k + 11 => simp at h
theorem rrz_nob (o : Nat) (x : UInt8) : rrz[o]? ≠ some (bv x) := rrg_nob (d := ⟨0, [], [], 0, false⟩) (A := none) (c := 0) (B := none) (k := 0) (sp := 0) (bo := 0) (L := (0, 0, 0)) (n := 0) o x
theorem Dsk.otherB {w w' : World} {q : Fp} {d : Dk Sv} {b : Nat} {t : TypeId} {cs : Array Value} (h : Dsk w q d) (hB : Blk w b t cs) (hno : ∀ (o : Nat) (x : UInt8), cs[o]? ≠ some (bv x)) (hq : ¬ q.M b) (hw : Wr w w' b) : Dsk w' q d := by
  refine h.frame fun j hj => hw.block j (h.lt hj) fun e => ?_
  injection e with e
  rw [e] at hj
  rcases hj with hj | ⟨s, hs, hne, hA⟩
  · exact hq hj
  · cases hsA : s.A with
    | none => rw [hsA] at hA; cases hA
    | some ad =>
      rw [hsA] at hA
      injection hA with hA
      exact h.offB hB hno s hs hne ad hsA hA
theorem res_o3 {fn : Func} {a b c : Nat} {tmps : Array Value} {w : World} {g : Nat} {a0 a1 a2 a3 a4 a5 a6 a7 a8 a9 a10 : Value} (hres : fn.results = #[.tmp a, .cell b 104, .tmp c]) (hb : tmps.getD b undef = .pointer (some ⟨g, 0, none⟩)) (hB : Blk w g 104 #[a0, a1, a2, a3, a4, a5, a6, a7, a8, a9, a10]) :
    (results fn tmps).run Tryz.prog w = .ok (.tuple #[tmps.getD a undef, .agg #[a0, a1, a2, a3, a4, a5, a6, a7, a8, a9, a10], tmps.getD c undef]) w := by
  obtain ⟨b0, b1, b2, b3, b4, b5, b6, b7, b8, b9, b10⟩ := Blk.elev hB
  have hb' : tmps[b]?.getD undef = .pointer (some ⟨g, 0, none⟩) := by simpa using hb
  simp [results, hres, go_sem, b0, b1, b2, b3, b4, b5, b6, b7, b8, b9, b10, hb']
def ptrO (o : Option (Nat × Nat)) : Value := match o with | none => .pointer none | some p => .pointer (some ⟨p.1, 0, none⟩)
/-- blocks apart from a disk's, from a register's, from others -/
def Yo (P : Nat → Prop) (q : Fp) (o : Option (Nat × Nat)) (i : Nat) : Prop := ¬ q.M i ∧ (∀ p, o = some p → i ≠ p.1) ∧ P i
/-- while both are opened -/
structure OpS (P : Nat → Prop) (w W : World) (q0 q : Fp) (o : Option (Nat × Nat)) (d : Dk Sv) (t0 t1 : Int) (L : L3r) (m : Dk Bs) (A : Option Addr) (c : Nat) (B : Option Addr) (k : Nat) : Prop where
  ds : Dsk W q d
  g : q.g = q0.g
  fr : Frd q0 w W
  M : ∀ i, q.M i → q0.M i ∨ w.heap.size ≤ i
  rg : ∀ p, o = some p → RgM W p.1 p.2 q d t0 t1 L 0 ∧ w.heap.size + 3 ≤ p.1 ∧ w.heap.size + 3 ≤ p.2
  b2 : Blk W (w.heap.size + 2) 104 rrz
  b2n : ¬ q.M (w.heap.size + 2)
  R : Rdk (fun i => Yo P q o i ∧ i ≠ w.heap.size + 2) W m A c B k
section
variable {P : Nat → Prop} {w W W' : World} {q0 q : Fp} {o : Option (Nat × Nat)} {d : Dk Sv} {t0 t1 : Int} {L : L3r} {m m' : Dk Bs} {A A' B B' : Option Addr} {c c' k k' : Nat}
theorem OpS.call (h : OpS P w W q0 q o d t0 t1 L m A c B k) (hb : Below W.heap.size W W') : OpS P w W' q0 q o d t0 t1 L m A c B k :=
  ⟨h.ds.below hb, h.g, ⟨hb.os.trans h.fr.os, hb.tape.trans h.fr.tape, hb.output.trans h.fr.output, Nat.le_trans h.fr.size hb.size, fun i hi hn => (hb.block i (Nat.lt_of_lt_of_le hi h.fr.size)).trans (h.fr.block i hi hn)⟩, h.M, fun p hp => ⟨(h.rg p hp).1.below hb, (h.rg p hp).2⟩, h.b2.below hb, h.b2n, h.R.below hb⟩
theorem OpS.ref (h : OpS P w W q0 q o d t0 t1 L m A c B k) (hR : Rdk (fun i => Yo P q o i ∧ i ≠ w.heap.size + 2) W m' A' c' B' k') : OpS P w W q0 q o d t0 t1 L m' A' c' B' k' := ⟨h.ds, h.g, h.fr, h.M, h.rg, h.b2, h.b2n, hR⟩
theorem OpS.up (h : OpS P w W q0 q o d t0 t1 L m A c B k) (hP : ∀ i, w.heap.size ≤ i → P i) : ∀ i, W.heap.size ≤ i → Yo P q o i ∧ i ≠ w.heap.size + 2 := fun i hi => by
  have h2 := h.b2.lt
  refine ⟨⟨fun hq => ?_, fun p hp => ?_, hP i (Nat.le_trans h.fr.size hi)⟩, by omega⟩
  · have := h.ds.ltM hq
    omega
  · have := (h.rg p hp).1.blk.lt
    omega
/-- the result is laid -/
theorem OpS.out (h : OpS P w W q0 q o d t0 t1 L m A c B k) (hw : Wr W W' (w.heap.size + 2)) : Dsk W' q d ∧ Frd q0 w W' ∧ Rdk (Yo P q o) W' m A c B k ∧ (∀ p, o = some p → RgM W' p.1 p.2 q d t0 t1 L 0) := by
  refine ⟨h.ds.otherB h.b2 rrz_nob h.b2n hw, ⟨hw.os.trans h.fr.os, hw.tape.trans h.fr.tape, hw.output.trans h.fr.output, Nat.le_trans h.fr.size hw.size, fun i hi hn => (hw.block i (Nat.lt_of_lt_of_le hi h.fr.size) (fun e => by injection e with e; omega)).trans (h.fr.block i hi hn)⟩, h.R.sameH (fun _ _ ht => ht.1) hw.size fun i hi ht => hw.block i hi (fun e => ht.2 (by injection e)), fun p hp => ?_⟩
  obtain ⟨h1, h2, h3⟩ := h.rg p hp
  exact h1.other h.b2 rrz_nob h.b2n (by omega) (by omega) hw
end
/-- what opening both gives -/
def OpRG (P : Nat → Prop) (w : World) (q0 : Fp) (d : Dk Sv) (t0 t1 : Int) (e : Ending) (w' : World) : Prop := ∃ (q : Fp) (o : Option (Nat × Nat)) (A : Option Addr) (c : Nat) (B : Option Addr) (k : Nat), e = .returned (.tuple #[ptrO o, .agg (rrg ((rgOpen d t0 t1).1.map Sv.l) A c B k (spanB t0 t1 t0) (spanB t0 t1 t1) (rgOpen d t0 t1).2.1 0), .bool true]) ∧ q.g = q0.g ∧ Dsk w' q (rgOpen d t0 t1).1 ∧ Frd q0 w w' ∧ (∀ i, q.M i → q0.M i ∨ w.heap.size ≤ i) ∧ Rdk (Yo P q o) w' ((rgOpen d t0 t1).1.map Sv.l) A c B k ∧ (∀ p, o = some p → ¬ rgBad t0 t1 ∧ (rgOpen d t0 t1).2.2 = 0 ∧ RgM w' p.1 p.2 q (rgOpen d t0 t1).1 t0 t1 (rgOpen d t0 t1).2.1 0 ∧ w.heap.size ≤ p.1 ∧ w.heap.size ≤ p.2)
set_option maxRecDepth 100000 in
set_option maxHeartbeats 1000000 in
theorem OpensR_any {P : Nat → Prop} {w : World} {q0 : Fp} {d : Dk Sv} {A B : Option Addr} {c k : Nat} {t0 t1 : Int} (h : Dsk w q0 d) (hf : Fok d) (hn : Nmd d) (hR : Rdk (fun i => ¬ q0.M i ∧ P i) w (d.map Sv.l) A c B k) (hP : ∀ i, w.heap.size ≤ i → P i) (hl : d.sure.length + d.pend.length ≤ 400) :
    Calls Tryz.prog 43 #[.pointer (some ⟨q0.g, 0, none⟩), .agg (rda (d.map Sv.l) A c B k), .agg #[.int .i64 t0, .int .i64 t1]] w fun e w' => OpRG P w q0 d t0 t1 e w' := by
  have hz : (((w.alloc (.cells (rda (d.map Sv.l) A c B k) 85)).alloc (.cells #[.int .i64 t0, .int .i64 t1] 48)).alloc (.cells rrz 104)).heap.size = w.heap.size + 3 := by simp
  have hb1 := bel_alloc (bel_alloc (below_new w (.cells (rda (d.map Sv.l) A c B k) 85)) (.cells #[.int .i64 t0, .int .i64 t1] 48)) (.cells rrz 104)
  have hB0 := ((Blk.new w 85 (rda (d.map Sv.l) A c B k)).alloc (.cells #[.int .i64 t0, .int .i64 t1] 48)).alloc (.cells rrz 104)
  have hB1 := (Blk.newAt (w := w.alloc (.cells (rda (d.map Sv.l) A c B k) 85)) (g := w.heap.size + 1) (by simp) 48 #[.int .i64 t0, .int .i64 t1]).alloc (.cells rrz 104)
  have hB2 := Blk.newAt (w := (w.alloc (.cells (rda (d.map Sv.l) A c B k) 85)).alloc (.cells #[.int .i64 t0, .int .i64 t1] 48)) (g := w.heap.size + 2) (by simp) 104 rrz
  obtain ⟨y0, y1, -, -⟩ := Blk.two hB1
  have hOp := RgOpen_any (h.below hb1) hf hl t0 t1
  have HE := Lib.hid (rgOpenB_of d t0 t1)
  have HV := Lib.hid (show ¬ rgBad t0 t1 → ∀ (W : World) (q : Fp), Dsk W q (rgOpen d t0 t1).1 → (sGetK (sOpen ([] : Bs) (d.map Sv.l)).1 lname).1.length ≤ 10000000 from fun hb W q hD => by
    have e1 : (rgOpen d t0 t1).1 = (sOpen Sv.nil d).1 := by
      unfold rgOpen
      rw [if_neg hb]
      split <;> rfl
    rw [e1] at hD
    rw [sOpen_map]
    dsimp only
    rw [sGetK_mapR]
    have := sGet_len hD lname
    dsimp only
    omega)
  have hnb : (rgOpen d t0 t1).2.2 = 0 → ¬ rgBad t0 t1 := fun h0 hb => by
    unfold rgOpen at h0
    rw [if_pos hb] at h0
    cases h0
  have hln : (rgOpen d t0 t1).1.sure.length + (rgOpen d t0 t1).1.pend.length ≤ 1000 := by
    have := sOpen_len2 Sv.nil d
    unfold rgOpen
    split
    · dsimp only; omega
    · split
      · dsimp only; omega
      · dsimp only; omega
  have HG := Lib.hid (show ∀ (q : Fp) (o : Option (Nat × Nat)) (A : Option Addr) (c : Nat) (B : Option Addr) (k : Nat) (w' : World), q.g = q0.g → Dsk w' q (rgOpen d t0 t1).1 → Frd q0 w w' → (∀ i, q.M i → q0.M i ∨ w.heap.size ≤ i) → Rdk (Yo P q o) w' ((rgOpen d t0 t1).1.map Sv.l) A c B k → (∀ p, o = some p → (((rgOpen d t0 t1).2.2 = 0) ∧ RgM w' p.1 p.2 q (rgOpen d t0 t1).1 t0 t1 (rgOpen d t0 t1).2.1 0) ∧ w.heap.size ≤ p.1 ∧ w.heap.size ≤ p.2) → OpRG P w q0 d t0 t1 (.returned (.tuple #[ptrO o, .agg (rrg ((rgOpen d t0 t1).1.map Sv.l) A c B k (spanB t0 t1 t0) (spanB t0 t1 t1) (rgOpen d t0 t1).2.1 0), .bool true])) w' from fun q o A c B k w' g1 g2 g3 g4 g5 g6 => ⟨q, o, A, c, B, k, rfl, g1, g2, g3, g4, g5, fun p hp => ⟨hnb (g6 p hp).1.1, (g6 p hp).1.1, (g6 p hp).1.2, (g6 p hp).2.1, (g6 p hp).2.2⟩⟩)
  have HOp := Lib.hid hOp
  have Hb1 := Lib.hid hb1
  have HB0 := Lib.hid hB0
  have HB1 := Lib.hid hB1
  have HB2 := Lib.hid hB2
  have HD0 := Lib.hid h
  have HR0 := Lib.hid hR
  have HP := Lib.hid hP
  have HF := Lib.hid hf
  have HNm := Lib.hid hn
  clear hOp hb1 hB0 hB1 hB2 h hR hP hf hn hnb
  generalize rgOpen d t0 t1 = r at *
  obtain ⟨d1, L1, n1⟩ := r
  dsimp only at HG hln HV HE
  go_enter Tryz.func43, Tryz.ntmps43
  go_wp2_with fail
  refine HOp.out.mono ?_
  clear HOp y0 y1
  rintro e w4 ⟨q1, hg1, hD1, hF1, hM1, h0⟩
  dsimp only at hD1 h0
  rcases h0 with ⟨h0, gr, gs, rfl, hRg, hgr, hgs⟩ | ⟨h0, rfl⟩
  · subst h0
    have HN := Lib.hid (show ∀ W, Calls Tryz.prog 30 #[.nilIface] W fun e w' => e = .returned (.int .i64 0) ∧ W = w' from fun W => num_any 0 W)
    replace HE := Lib.hid (show rgOpenB (d.map Sv.l) t0 t1 = (d1.map Sv.l, L1, 0) from HE.out)
    have hS4 : OpS P w w4 q0 q1 (some (gr, gs)) d1 t0 t1 L1 (d.map Sv.l) A c B k := by
      have hz : (((w.alloc (.cells (rda (d.map Sv.l) A c B k) 85)).alloc (.cells #[.int .i64 t0, .int .i64 t1] 48)).alloc (.cells rrz 104)).heap.size = w.heap.size + 3 := by simp
      have hne : ¬ q0.M (w.heap.size + 2) := fun hq => by have := HD0.out.ltM hq; omega
      have h2 : ¬ q1.M (w.heap.size + 2) := fun hq => by
        rcases hM1 _ hq with h | h
        · exact hne h
        · omega
      refine ⟨hD1, hg1, ⟨hF1.os.trans Hb1.out.os, hF1.tape.trans Hb1.out.tape, hF1.output.trans Hb1.out.output, Nat.le_trans Hb1.out.size hF1.size, fun i hi hn => (hF1.block i (by omega) hn).trans (Hb1.out.block i hi)⟩, fun i hi => ?_, ?_, (hF1.block _ HB2.out.lt hne).trans HB2.out, h2, ?_⟩
      · rcases hM1 i hi with h | h
        · exact .inl h
        · exact .inr (by omega)
      · intro p hp
        first
        | (injection hp with hp; subst hp; exact ⟨hRg, by have := hgr; omega, by have := hgs; omega⟩)
        | cases hp
      · refine HR0.out.sameH (fun i hi ht => ⟨⟨fun hq => ?_, fun p hp => ?_, ht.2⟩, by omega⟩) (Nat.le_trans Hb1.out.size hF1.size) fun i hi ht => (hF1.block i (by omega) ht.1).trans (Hb1.out.block i hi)
        · rcases hM1 i hq with h | h
          · exact ht.1 h
          · omega
        · first
          | (injection hp with hp; subst hp; have := hgr; dsimp only; omega)
          | cases hp
    have hK := R29Open_any (d.map Sv.l) w4 (hS4.up HP.out) hS4.R (by rw [len_mapD]; omega) HF.out.2 HNm.out.mapD t0 t1 (fun hb => HV.out hb w4 q1 hD1)
    rw [HE.out] at hK
    dsimp only at hK
    unfold GvR at hK
    have HK := Lib.hid hK
    have HS4 := Lib.hid hS4
    have b0' : Blk w4 w.heap.size 85 (rda (d.map Sv.l) A c B k) := (hF1.block _ HB0.out.lt (fun hq => by have := HD0.out.ltM hq; omega)).trans HB0.out
    have b1' : Blk w4 (w.heap.size + 1) 48 #[.int .i64 t0, .int .i64 t1] := (hF1.block _ HB1.out.lt (fun hq => by have := HD0.out.ltM hq; omega)).trans HB1.out
    obtain ⟨a0, a1, a2, a3, a4, -⟩ := Blk.fiveC b0'
    obtain ⟨y0, y1, -, -⟩ := Blk.two b1'
    have hSz := Nat.le_refl w4.heap.size
    clear hK hS4 b0' b1' hD1 hF1 hM1 hg1 HB0 HB1 HB2 HR0
    unfold rda at HK
    go_wp2_with fail
    refine HK.out.mono ?_
    clear HK a0 a1 a2 a3 a4 y0 y1
    rintro e w5 ⟨A5, c5, B5, k5, rfl, hR5, hb5⟩
    have hS5 := (HS4.out.call hb5).ref hR5
    clear HS4 hR5 hb5
    have hb6 := below_new w5 (.cells (rrg (d1.map Sv.l) A5 c5 B5 k5 (spanB t0 t1 t0) (spanB t0 t1 t1) L1 0) 104)
    have hB6 := Blk.new w5 104 (rrg (d1.map Sv.l) A5 c5 B5 k5 (spanB t0 t1 t0) (spanB t0 t1 t1) L1 0)
    have HS6 := Lib.hid (hS5.call hb6)
    have hne2 : w5.heap.size ≠ w.heap.size + 2 := by have := hS5.b2.lt; omega
    generalize spanB t0 t1 t0 = s0 at *
    generalize spanB t0 t1 t1 = s1 at *
    unfold rrg at HS6 hB6 hb6
    have HB6 := Lib.hid hB6
    clear hb6 hB6 hS5
    unfold rrg
    go_upto_region 3 with (fail)
    refine gen1 (T := fun W => OpS P w W q0 q1 (some (gr, gs)) d1 t0 t1 L1 (d1.map Sv.l) A5 c5 B5 k5 ∧ Blk W w5.heap.size 104 _) ⟨HS6.out, HB6.out⟩ (fun w6 hT => ?_)
    obtain ⟨hS6, hB6⟩ := hT
    clear HS6 HB6
    generalize w5.heap.size = g at *
    have hst := hS6.call (Below.drew (Below.refl _ _))
    have hst0 : Blk (World.drew w6) g 104 _ := hB6.drew
    have hSh := Shows_any hst.ds hst.R (by omega)
    rw [hst.g] at hSh
    unfold rda at hSh
    have HSh := Lib.hid hSh
    have HS6 := Lib.hid hst
    clear hS6 hB6 hSh hst
    refine wp_region_held_drew (S := (fun W => Blk W g 104 #[.int .i64 (d1.map Sv.l).room, .slice A5 (d1.map Sv.l).sure.length c5, .slice B5 (d1.map Sv.l).pend.length k5, .int .i64 (d1.map Sv.l).fuse, .bool (d1.map Sv.l).down, .int .i64 s0, .int .i64 s1, .int .i64 L1.1, .int .i64 L1.2.1, .int .i64 L1.2.2, .int .i64 0])) (by kernel_rfl) ?_ (fun hHeld => ?_)
    · first | with_reducible exact hst0 | with_reducible exact hHeld | exact hHeld.below hb7 | exact Blk.wr hHeld (wr_setR w7 (w.heap.size + 2) (d1.map Sv.l) A5 c5 B5 k5 s0 s1 L1 0) hne2
    refine wpAnyH_take (i := 0) (oi := ⟨some 31, _, _, _, _, _⟩) (v := ?_) rfl (by kernel_rfl) (by kernel_rfl) (by kernel_rfl) (fun _ _ _ h => h) (Or.inl ⟨by kernel_rfl, ?_⟩) (by assumption) ?_
    rotate_left
    · (intro wS hSw; (try dsimp only at hSw); obtain ⟨z0, z1, z2, z3, z4, z5, z6, z7, z8, z9, z10⟩ := hSw.elev; clear hSw; go_simp; (try with_reducible rfl))
    (try simp only [Act.put, List.setIfInBounds_toArray, List.set_cons_zero, List.set_cons_succ])
    refine wpAnyH_take (i := 1) (oi := ⟨some 32, _, _, _, _, _⟩) (v := ?_) rfl (by kernel_rfl) (by kernel_rfl) (by kernel_rfl) (fun _ _ _ h => h) (Or.inl ⟨by kernel_rfl, ?_⟩) (by assumption) ?_
    rotate_left
    · (intro wS hSw; (try dsimp only at hSw); obtain ⟨z0, z1, z2, z3, z4, z5, z6, z7, z8, z9, z10⟩ := hSw.elev; clear hSw; go_simp; (try with_reducible rfl))
    (try simp only [Act.put, List.setIfInBounds_toArray, List.set_cons_zero, List.set_cons_succ])
    refine wpAnyH_take (i := 2) (oi := ⟨some 33, _, _, _, _, _⟩) (v := ?_) rfl (by kernel_rfl) (by kernel_rfl) (by kernel_rfl) (fun _ _ _ h => h) (Or.inl ⟨by kernel_rfl, ?_⟩) (by assumption) ?_
    rotate_left
    · (intro wS hSw; (try dsimp only at hSw); obtain ⟨z0, z1, z2, z3, z4, z5, z6, z7, z8, z9, z10⟩ := hSw.elev; clear hSw; go_simp; (try with_reducible rfl))
    (try simp only [Act.put, List.setIfInBounds_toArray, List.set_cons_zero, List.set_cons_succ])
    refine wpAnyH_take (i := 4) (oi := ⟨some 35, _, _, _, _, _⟩) (v := ?_) rfl (by kernel_rfl) (by kernel_rfl) (by kernel_rfl) (fun _ _ _ h => h) (Or.inl ⟨by kernel_rfl, ?_⟩) (by assumption) ?_
    rotate_left
    · (intro wS hSw; (try dsimp only at hSw); obtain ⟨z0, z1, z2, z3, z4, z5, z6, z7, z8, z9, z10⟩ := hSw.elev; clear hSw; go_simp; (try with_reducible rfl))
    (try simp only [Act.put, List.setIfInBounds_toArray, List.set_cons_zero, List.set_cons_succ])
    refine wpAnyH_ready (rs := [3]) (by kernel_rfl) (by simp) ?_
    refine AllReadyH.cons (o := ⟨some 34, _, _, _, _, _⟩) rfl (fun K hK => ?_) AllReadyH.nil
    go_simp
    (refine (HN.out _).mono ?_; rintro e w6' ⟨rfl, rfl⟩)
    go_wp2_with fail
    refine hK.out _ _ ?_ (fun hHeld => ?_)
    · ((try dsimp only); (with_reducible exact hst0))
    clear hK K
    (try simp only [Act.put, List.setIfInBounds_toArray, List.set_cons_zero, List.set_cons_succ])
    refine wpAnyH_take (i := 5) (oi := ⟨some 36, _, _, _, _, _⟩) (v := ?_) rfl (by kernel_rfl) (by kernel_rfl) (by kernel_rfl) (fun _ _ _ h => h) (Or.inl ⟨by kernel_rfl, ?_⟩) (by assumption) ?_
    rotate_left
    · (intro wS hSw; (try dsimp only at hSw); obtain ⟨z0, z1, z2, z3, z4, z5, z6, z7, z8, z9, z10⟩ := hSw.elev; clear hSw; go_simp; (try with_reducible rfl))
    (try simp only [Act.put, List.setIfInBounds_toArray, List.set_cons_zero, List.set_cons_succ])
    refine wpAnyH_take (i := 6) (oi := ⟨some 37, _, _, _, _, _⟩) (v := ?_) rfl (by kernel_rfl) (by kernel_rfl) (by kernel_rfl) (fun _ _ _ h => h) (Or.inl ⟨by kernel_rfl, ?_⟩) (by assumption) ?_
    rotate_left
    · (intro wS hSw; (try dsimp only at hSw); obtain ⟨z0, z1, z2, z3, z4, z5, z6, z7, z8, z9, z10⟩ := hSw.elev; clear hSw; go_simp; (try with_reducible rfl))
    (try simp only [Act.put, List.setIfInBounds_toArray, List.set_cons_zero, List.set_cons_succ])
    refine wpAnyH_take (i := 7) (oi := ⟨some 38, _, _, _, _, _⟩) (v := ?_) rfl (by kernel_rfl) (by kernel_rfl) (by kernel_rfl) (fun _ _ _ h => h) (Or.inl ⟨by kernel_rfl, ?_⟩) (by assumption) ?_
    rotate_left
    · (intro wS hSw; (try dsimp only at hSw); obtain ⟨z0, z1, z2, z3, z4, z5, z6, z7, z8, z9, z10⟩ := hSw.elev; clear hSw; go_simp; (try with_reducible rfl))
    (try simp only [Act.put, List.setIfInBounds_toArray, List.set_cons_zero, List.set_cons_succ])
    refine wpAnyH_take (i := 8) (oi := ⟨some 39, _, _, _, _, _⟩) (v := ?_) rfl (by kernel_rfl) (by kernel_rfl) (by kernel_rfl) (fun _ _ _ h => h) (Or.inl ⟨by kernel_rfl, ?_⟩) (by assumption) ?_
    rotate_left
    · (intro wS hSw; (try dsimp only at hSw); obtain ⟨z0, z1, z2, z3, z4, z5, z6, z7, z8, z9, z10⟩ := hSw.elev; clear hSw; go_simp; (try with_reducible rfl))
    (try simp only [Act.put, List.setIfInBounds_toArray, List.set_cons_zero, List.set_cons_succ])
    refine wpAnyH_take (i := 9) (oi := ⟨some 40, _, _, _, _, _⟩) (v := ?_) rfl (by kernel_rfl) (by kernel_rfl) (by kernel_rfl) (fun _ _ _ h => h) (Or.inl ⟨by kernel_rfl, ?_⟩) (by assumption) ?_
    rotate_left
    · (intro wS hSw; (try dsimp only at hSw); obtain ⟨z0, z1, z2, z3, z4, z5, z6, z7, z8, z9, z10⟩ := hSw.elev; clear hSw; go_simp; (try with_reducible rfl))
    (try simp only [Act.put, List.setIfInBounds_toArray, List.set_cons_zero, List.set_cons_succ])
    refine wpAnyH_take (i := 10) (oi := ⟨some 41, _, _, _, _, _⟩) (v := ?_) rfl (by kernel_rfl) (by kernel_rfl) (by kernel_rfl) (fun _ _ _ h => h) (Or.inl ⟨by kernel_rfl, ?_⟩) (by assumption) ?_
    rotate_left
    · (intro wS hSw; (try dsimp only at hSw); obtain ⟨z0, z1, z2, z3, z4, z5, z6, z7, z8, z9, z10⟩ := hSw.elev; clear hSw; go_simp; (try with_reducible rfl))
    (try simp only [Act.put, List.setIfInBounds_toArray, List.set_cons_zero, List.set_cons_succ])
    refine wpAnyH_take (i := 11) (oi := ⟨some 42, _, _, _, _, _⟩) (v := ?_) rfl (by kernel_rfl) (by kernel_rfl) (by kernel_rfl) (fun _ _ _ h => h) (Or.inl ⟨by kernel_rfl, ?_⟩) (by assumption) ?_
    rotate_left
    · (intro wS hSw; (try dsimp only at hSw); obtain ⟨z0, z1, z2, z3, z4, z5, z6, z7, z8, z9, z10⟩ := hSw.elev; clear hSw; go_simp; (try with_reducible rfl))
    (try simp only [Act.put, List.setIfInBounds_toArray, List.set_cons_zero, List.set_cons_succ])
    refine wpAnyH_take (i := 12) (oi := ⟨some 43, _, _, _, _, _⟩) (v := ?_) rfl (by kernel_rfl) (by kernel_rfl) (by kernel_rfl) (fun _ _ _ h => h) (Or.inl ⟨by kernel_rfl, ?_⟩) (by assumption) ?_
    rotate_left
    · (intro wS hSw; (try dsimp only at hSw); obtain ⟨z0, z1, z2, z3, z4, z5, z6, z7, z8, z9, z10⟩ := hSw.elev; clear hSw; go_simp; (try with_reducible rfl))
    (try simp only [Act.put, List.setIfInBounds_toArray, List.set_cons_zero, List.set_cons_succ])
    refine wpAnyH_take (i := 13) (oi := ⟨some 44, _, _, _, _, _⟩) (v := ?_) rfl (by kernel_rfl) (by kernel_rfl) (by kernel_rfl) (fun _ _ _ h => h) (Or.inl ⟨by kernel_rfl, ?_⟩) (by assumption) ?_
    rotate_left
    · (intro wS hSw; (try dsimp only at hSw); obtain ⟨z0, z1, z2, z3, z4, z5, z6, z7, z8, z9, z10⟩ := hSw.elev; clear hSw; go_simp; (try with_reducible rfl))
    (try simp only [Act.put, List.setIfInBounds_toArray, List.set_cons_zero, List.set_cons_succ])
    refine wpAnyH_take (i := 14) (oi := ⟨some 45, _, _, _, _, _⟩) (v := ?_) rfl (by kernel_rfl) (by kernel_rfl) (by kernel_rfl) (fun _ _ _ h => h) (Or.inl ⟨by kernel_rfl, ?_⟩) (by assumption) ?_
    rotate_left
    · (intro wS hSw; (try dsimp only at hSw); obtain ⟨z0, z1, z2, z3, z4, z5, z6, z7, z8, z9, z10⟩ := hSw.elev; clear hSw; go_simp; (try with_reducible rfl))
    (try simp only [Act.put, List.setIfInBounds_toArray, List.set_cons_zero, List.set_cons_succ])
    refine wpAnyH_take (i := 15) (oi := ⟨some 46, _, _, _, _, _⟩) (v := ?_) rfl (by kernel_rfl) (by kernel_rfl) (by kernel_rfl) (fun _ _ _ h => h) (Or.inl ⟨by kernel_rfl, ?_⟩) (by assumption) ?_
    rotate_left
    · (intro wS hSw; (try dsimp only at hSw); obtain ⟨z0, z1, z2, z3, z4, z5, z6, z7, z8, z9, z10⟩ := hSw.elev; clear hSw; go_simp; (try with_reducible rfl))
    (try simp only [Act.put, List.setIfInBounds_toArray, List.set_cons_zero, List.set_cons_succ])
    refine wpAnyH_take (i := 16) (oi := ⟨some 47, _, _, _, _, _⟩) (v := ?_) rfl (by kernel_rfl) (by kernel_rfl) (by kernel_rfl) (fun _ _ _ h => h) (Or.inl ⟨by kernel_rfl, ?_⟩) (by assumption) ?_
    rotate_left
    · (intro wS hSw; (try dsimp only at hSw); obtain ⟨z0, z1, z2, z3, z4, z5, z6, z7, z8, z9, z10⟩ := hSw.elev; clear hSw; go_simp; (try with_reducible rfl))
    (try simp only [Act.put, List.setIfInBounds_toArray, List.set_cons_zero, List.set_cons_succ])
    refine wpAnyH_ready (rs := [17]) (by kernel_rfl) (by simp) ?_
    refine AllReadyH.cons (o := ⟨some 48, _, _, _, _, _⟩) rfl (fun K hK => ?_) AllReadyH.nil
    go_simp
    (refine HSh.out.mono ?_; rintro e w7 ⟨rfl, hb7⟩; have hS7 := HS6.out.call hb7; obtain ⟨x0, x1, x2, x3, x4, x5, x6, x7, x8, x9, x10⟩ := hS7.b2.elev; obtain ⟨xf0, xf1, xf2, xf3, xf4, xf5, xf6, xf7, xf8, xf9, xf10⟩ := hS7.b2.frz)
    go_wp2_with fail
    refine hK.out _ _ ?_ (fun hHeld => ?_)
    · ((try dsimp only); (exact hHeld.below hb7))
    clear hK K
    (try simp only [Act.put, List.setIfInBounds_toArray, List.set_cons_zero, List.set_cons_succ])
    refine wpAnyH_take (i := 18) (oi := ⟨some 49, _, _, _, _, _⟩) (v := ?_) rfl (by kernel_rfl) (by kernel_rfl) (by kernel_rfl) (fun _ _ _ h => h) (Or.inl ⟨by kernel_rfl, ?_⟩) (by assumption) ?_
    rotate_left
    · (intro wS hSw; (try dsimp only at hSw); obtain ⟨z0, z1, z2, z3, z4, z5, z6, z7, z8, z9, z10⟩ := hSw.elev; clear hSw; go_simp; (try with_reducible rfl))
    (try simp only [Act.put, List.setIfInBounds_toArray, List.set_cons_zero, List.set_cons_succ])
    refine wpAnyH_take (i := 19) (oi := ⟨some 6, _, _, _, _, _⟩) (v := ?_) rfl (by kernel_rfl) (by kernel_rfl) (by kernel_rfl) (fun _ _ _ h => h) (Or.inl ⟨by kernel_rfl, ?_⟩) (by assumption) ?_
    rotate_left
    · (intro wS hSw; (try dsimp only at hSw); obtain ⟨z0, z1, z2, z3, z4, z5, z6, z7, z8, z9, z10⟩ := hSw.elev; clear hSw; go_simp; (try with_reducible rfl))
    (try simp only [Act.put, List.setIfInBounds_toArray, List.set_cons_zero, List.set_cons_succ])
    refine wpAnyH_ready (rs := [20]) (by kernel_rfl) (by simp) ?_
    refine AllReadyH.cons (o := ⟨none, _, _, _, _, _⟩) rfl (fun K hK => ?_) AllReadyH.nil
    go_simp
    refine hK.out _ _ ?_ (fun hHeld => ?_)
    · ((try dsimp only); (exact Blk.wr hHeld (wr_setR w7 (w.heap.size + 2) (d1.map Sv.l) A5 c5 B5 k5 s0 s1 L1 0) hne2))
    clear hK K
    (try simp only [Act.put, List.setIfInBounds_toArray, List.set_cons_zero, List.set_cons_succ])
    refine wpAnyH_take (i := 21) (oi := ⟨some 8, _, _, _, _, _⟩) (v := ?_) rfl (by kernel_rfl) (by kernel_rfl) (by kernel_rfl) (fun _ _ _ h => h) (Or.inl ⟨by kernel_rfl, ?_⟩) (by assumption) ?_
    rotate_left
    · (intro wS hSw; (try dsimp only at hSw); obtain ⟨z0, z1, z2, z3, z4, z5, z6, z7, z8, z9, z10⟩ := hSw.elev; clear hSw; go_simp; (try with_reducible rfl))
    (try simp only [Act.put, List.setIfInBounds_toArray, List.set_cons_zero, List.set_cons_succ])
    refine wpAnyH_done (by kernel_rfl) ?_ _
    obtain ⟨o1, o2, o3, o4⟩ := hS7.out (wr_setR w7 (w.heap.size + 2) (d1.map Sv.l) A5 c5 B5 k5 s0 s1 L1 0)
    have hBB := hS7.b2.setR (d1.map Sv.l) A5 c5 B5 k5 s0 s1 L1 0
    have HO := Lib.hid (HG.out q1 (some (gr, gs)) A5 c5 B5 k5 _ hS7.g o1 o2 hS7.M o3 (fun p hp => ⟨⟨by first | rfl | trivial, o4 p hp⟩, by have := hS7.rg p hp; omega, by have := hS7.rg p hp; omega⟩))
    unfold setR at HO hBB
    unfold rrg at HO hBB
    dsimp only [ptrO] at HO
    have HB9 := Lib.hid hBB
    clear o1 o2 o3 o4 hBB x0 x1 x2 x3 x4 x5 x6 x7 x8 x9 x10 xf0 xf1 xf2 xf3 xf4 xf5 xf6 xf7 xf8 xf9 xf10 hS7 HS6
    go_wp2_with fail
    exact bodyPost_ret (res_o3 rfl rfl (g := w.heap.size + 2) HB9.out) rfl HO.out
  · have HN := Lib.hid (fun W => num_any n1 W)
    have hz1 : ((n1 : Int) != 0) = true := by simpa using h0
    have hbe : ((n1 : Int) == (n1 : Int)) = true := by simp
    clear h0
    generalize errv n1 = ee at *
    have hS4 : OpS P w w4 q0 q1 none d1 t0 t1 L1 (d.map Sv.l) A c B k := by
      have hz : (((w.alloc (.cells (rda (d.map Sv.l) A c B k) 85)).alloc (.cells #[.int .i64 t0, .int .i64 t1] 48)).alloc (.cells rrz 104)).heap.size = w.heap.size + 3 := by simp
      have hne : ¬ q0.M (w.heap.size + 2) := fun hq => by have := HD0.out.ltM hq; omega
      have h2 : ¬ q1.M (w.heap.size + 2) := fun hq => by
        rcases hM1 _ hq with h | h
        · exact hne h
        · omega
      refine ⟨hD1, hg1, ⟨hF1.os.trans Hb1.out.os, hF1.tape.trans Hb1.out.tape, hF1.output.trans Hb1.out.output, Nat.le_trans Hb1.out.size hF1.size, fun i hi hn => (hF1.block i (by omega) hn).trans (Hb1.out.block i hi)⟩, fun i hi => ?_, ?_, (hF1.block _ HB2.out.lt hne).trans HB2.out, h2, ?_⟩
      · rcases hM1 i hi with h | h
        · exact .inl h
        · exact .inr (by omega)
      · intro p hp
        first
        | (injection hp with hp; subst hp; exact ⟨hRg, by have := hgr; omega, by have := hgs; omega⟩)
        | cases hp
      · refine HR0.out.sameH (fun i hi ht => ⟨⟨fun hq => ?_, fun p hp => ?_, ht.2⟩, by omega⟩) (Nat.le_trans Hb1.out.size hF1.size) fun i hi ht => (hF1.block i (by omega) ht.1).trans (Hb1.out.block i hi)
        · rcases hM1 i hq with h | h
          · exact ht.1 h
          · omega
        · first
          | (injection hp with hp; subst hp; have := hgr; dsimp only; omega)
          | cases hp
    have hK := R29Open_any (d.map Sv.l) w4 (hS4.up HP.out) hS4.R (by rw [len_mapD]; omega) HF.out.2 HNm.out.mapD t0 t1 (fun hb => HV.out hb w4 q1 hD1)
    rw [HE.out] at hK
    dsimp only at hK
    unfold GvR at hK
    have HK := Lib.hid hK
    have HS4 := Lib.hid hS4
    have b0' : Blk w4 w.heap.size 85 (rda (d.map Sv.l) A c B k) := (hF1.block _ HB0.out.lt (fun hq => by have := HD0.out.ltM hq; omega)).trans HB0.out
    have b1' : Blk w4 (w.heap.size + 1) 48 #[.int .i64 t0, .int .i64 t1] := (hF1.block _ HB1.out.lt (fun hq => by have := HD0.out.ltM hq; omega)).trans HB1.out
    obtain ⟨a0, a1, a2, a3, a4, -⟩ := Blk.fiveC b0'
    obtain ⟨y0, y1, -, -⟩ := Blk.two b1'
    have hSz := Nat.le_refl w4.heap.size
    clear hK hS4 b0' b1' hD1 hF1 hM1 hg1 HB0 HB1 HB2 HR0
    unfold rda at HK
    go_wp2_with fail
    refine HK.out.mono ?_
    clear HK a0 a1 a2 a3 a4 y0 y1
    rintro e w5 ⟨A5, c5, B5, k5, rfl, hR5, hb5⟩
    have hS5 := (HS4.out.call hb5).ref hR5
    clear HS4 hR5 hb5
    have hb6 := below_new w5 (.cells (rrg (d1.map Sv.l) A5 c5 B5 k5 (spanB t0 t1 t0) (spanB t0 t1 t1) L1 0) 104)
    have hB6 := Blk.new w5 104 (rrg (d1.map Sv.l) A5 c5 B5 k5 (spanB t0 t1 t0) (spanB t0 t1 t1) L1 0)
    have HS6 := Lib.hid (hS5.call hb6)
    have hne2 : w5.heap.size ≠ w.heap.size + 2 := by have := hS5.b2.lt; omega
    generalize spanB t0 t1 t0 = s0 at *
    generalize spanB t0 t1 t1 = s1 at *
    unfold rrg at HS6 hB6 hb6
    have HB6 := Lib.hid hB6
    clear hb6 hB6 hS5
    unfold rrg
    go_upto_region 3 with (fail)
    refine gen1 (T := fun W => OpS P w W q0 q1 none d1 t0 t1 L1 (d1.map Sv.l) A5 c5 B5 k5 ∧ Blk W w5.heap.size 104 _) ⟨HS6.out, HB6.out⟩ (fun w6 hT => ?_)
    obtain ⟨hS6, hB6⟩ := hT
    clear HS6 HB6
    generalize w5.heap.size = g at *
    have hst := hS6.call (Below.drew (Below.refl _ _))
    have hst0 : Blk (World.drew w6) g 104 _ := hB6.drew
    have hSh := Shows_any hst.ds hst.R (by omega)
    rw [hst.g] at hSh
    unfold rda at hSh
    have HSh := Lib.hid hSh
    have HS6 := Lib.hid hst
    clear hS6 hB6 hSh hst
    refine wp_region_held_drew (S := (fun W => Blk W g 104 #[.int .i64 (d1.map Sv.l).room, .slice A5 (d1.map Sv.l).sure.length c5, .slice B5 (d1.map Sv.l).pend.length k5, .int .i64 (d1.map Sv.l).fuse, .bool (d1.map Sv.l).down, .int .i64 s0, .int .i64 s1, .int .i64 L1.1, .int .i64 L1.2.1, .int .i64 L1.2.2, .int .i64 0])) (by kernel_rfl) ?_ (fun hHeld => ?_)
    · first | with_reducible exact hst0 | with_reducible exact hHeld | exact hHeld.below hb7 | exact Blk.wr hHeld (wr_setR w7 (w.heap.size + 2) (d1.map Sv.l) A5 c5 B5 k5 s0 s1 L1 0) hne2
    refine wpAnyH_take (i := 0) (oi := ⟨some 31, _, _, _, _, _⟩) (v := ?_) rfl (by kernel_rfl) (by kernel_rfl) (by kernel_rfl) (fun _ _ _ h => h) (Or.inl ⟨by kernel_rfl, ?_⟩) (by assumption) ?_
    rotate_left
    · (intro wS hSw; (try dsimp only at hSw); obtain ⟨z0, z1, z2, z3, z4, z5, z6, z7, z8, z9, z10⟩ := hSw.elev; clear hSw; go_simp; (try with_reducible rfl))
    (try simp only [Act.put, List.setIfInBounds_toArray, List.set_cons_zero, List.set_cons_succ])
    refine wpAnyH_take (i := 1) (oi := ⟨some 32, _, _, _, _, _⟩) (v := ?_) rfl (by kernel_rfl) (by kernel_rfl) (by kernel_rfl) (fun _ _ _ h => h) (Or.inl ⟨by kernel_rfl, ?_⟩) (by assumption) ?_
    rotate_left
    · (intro wS hSw; (try dsimp only at hSw); obtain ⟨z0, z1, z2, z3, z4, z5, z6, z7, z8, z9, z10⟩ := hSw.elev; clear hSw; go_simp; (try with_reducible rfl))
    (try simp only [Act.put, List.setIfInBounds_toArray, List.set_cons_zero, List.set_cons_succ])
    refine wpAnyH_take (i := 2) (oi := ⟨some 33, _, _, _, _, _⟩) (v := ?_) rfl (by kernel_rfl) (by kernel_rfl) (by kernel_rfl) (fun _ _ _ h => h) (Or.inl ⟨by kernel_rfl, ?_⟩) (by assumption) ?_
    rotate_left
    · (intro wS hSw; (try dsimp only at hSw); obtain ⟨z0, z1, z2, z3, z4, z5, z6, z7, z8, z9, z10⟩ := hSw.elev; clear hSw; go_simp; (try with_reducible rfl))
    (try simp only [Act.put, List.setIfInBounds_toArray, List.set_cons_zero, List.set_cons_succ])
    refine wpAnyH_take (i := 4) (oi := ⟨some 35, _, _, _, _, _⟩) (v := ?_) rfl (by kernel_rfl) (by kernel_rfl) (by kernel_rfl) (fun _ _ _ h => h) (Or.inl ⟨by kernel_rfl, ?_⟩) (by assumption) ?_
    rotate_left
    · (intro wS hSw; (try dsimp only at hSw); obtain ⟨z0, z1, z2, z3, z4, z5, z6, z7, z8, z9, z10⟩ := hSw.elev; clear hSw; go_simp; (try with_reducible rfl))
    (try simp only [Act.put, List.setIfInBounds_toArray, List.set_cons_zero, List.set_cons_succ])
    refine wpAnyH_ready (rs := [3]) (by kernel_rfl) (by simp) ?_
    refine AllReadyH.cons (o := ⟨some 34, _, _, _, _, _⟩) rfl (fun K hK => ?_) AllReadyH.nil
    go_simp
    (refine (HN.out _).mono ?_; rintro e w6' ⟨rfl, rfl⟩)
    go_wp2_with fail
    refine hK.out _ _ ?_ (fun hHeld => ?_)
    · ((try dsimp only); (with_reducible exact hst0))
    clear hK K
    (try simp only [Act.put, List.setIfInBounds_toArray, List.set_cons_zero, List.set_cons_succ])
    refine wpAnyH_take (i := 5) (oi := ⟨some 36, _, _, _, _, _⟩) (v := ?_) rfl (by kernel_rfl) (by kernel_rfl) (by kernel_rfl) (fun _ _ _ h => h) (Or.inl ⟨by kernel_rfl, ?_⟩) (by assumption) ?_
    rotate_left
    · (intro wS hSw; (try dsimp only at hSw); obtain ⟨z0, z1, z2, z3, z4, z5, z6, z7, z8, z9, z10⟩ := hSw.elev; clear hSw; go_simp; (try with_reducible rfl))
    (try simp only [Act.put, List.setIfInBounds_toArray, List.set_cons_zero, List.set_cons_succ])
    refine wpAnyH_take (i := 6) (oi := ⟨some 37, _, _, _, _, _⟩) (v := ?_) rfl (by kernel_rfl) (by kernel_rfl) (by kernel_rfl) (fun _ _ _ h => h) (Or.inl ⟨by kernel_rfl, ?_⟩) (by assumption) ?_
    rotate_left
    · (intro wS hSw; (try dsimp only at hSw); obtain ⟨z0, z1, z2, z3, z4, z5, z6, z7, z8, z9, z10⟩ := hSw.elev; clear hSw; go_simp; (try with_reducible rfl))
    (try simp only [Act.put, List.setIfInBounds_toArray, List.set_cons_zero, List.set_cons_succ])
    refine wpAnyH_take (i := 7) (oi := ⟨some 38, _, _, _, _, _⟩) (v := ?_) rfl (by kernel_rfl) (by kernel_rfl) (by kernel_rfl) (fun _ _ _ h => h) (Or.inl ⟨by kernel_rfl, ?_⟩) (by assumption) ?_
    rotate_left
    · (intro wS hSw; (try dsimp only at hSw); obtain ⟨z0, z1, z2, z3, z4, z5, z6, z7, z8, z9, z10⟩ := hSw.elev; clear hSw; go_simp; (try with_reducible rfl))
    (try simp only [Act.put, List.setIfInBounds_toArray, List.set_cons_zero, List.set_cons_succ])
    refine wpAnyH_take (i := 8) (oi := ⟨some 39, _, _, _, _, _⟩) (v := ?_) rfl (by kernel_rfl) (by kernel_rfl) (by kernel_rfl) (fun _ _ _ h => h) (Or.inl ⟨by kernel_rfl, ?_⟩) (by assumption) ?_
    rotate_left
    · (intro wS hSw; (try dsimp only at hSw); obtain ⟨z0, z1, z2, z3, z4, z5, z6, z7, z8, z9, z10⟩ := hSw.elev; clear hSw; go_simp; (try with_reducible rfl))
    (try simp only [Act.put, List.setIfInBounds_toArray, List.set_cons_zero, List.set_cons_succ])
    refine wpAnyH_take (i := 9) (oi := ⟨some 40, _, _, _, _, _⟩) (v := ?_) rfl (by kernel_rfl) (by kernel_rfl) (by kernel_rfl) (fun _ _ _ h => h) (Or.inl ⟨by kernel_rfl, ?_⟩) (by assumption) ?_
    rotate_left
    · (intro wS hSw; (try dsimp only at hSw); obtain ⟨z0, z1, z2, z3, z4, z5, z6, z7, z8, z9, z10⟩ := hSw.elev; clear hSw; go_simp; (try with_reducible rfl))
    (try simp only [Act.put, List.setIfInBounds_toArray, List.set_cons_zero, List.set_cons_succ])
    refine wpAnyH_take (i := 10) (oi := ⟨some 41, _, _, _, _, _⟩) (v := ?_) rfl (by kernel_rfl) (by kernel_rfl) (by kernel_rfl) (fun _ _ _ h => h) (Or.inl ⟨by kernel_rfl, ?_⟩) (by assumption) ?_
    rotate_left
    · (intro wS hSw; (try dsimp only at hSw); obtain ⟨z0, z1, z2, z3, z4, z5, z6, z7, z8, z9, z10⟩ := hSw.elev; clear hSw; go_simp; (try with_reducible rfl))
    (try simp only [Act.put, List.setIfInBounds_toArray, List.set_cons_zero, List.set_cons_succ])
    refine wpAnyH_take (i := 11) (oi := ⟨some 42, _, _, _, _, _⟩) (v := ?_) rfl (by kernel_rfl) (by kernel_rfl) (by kernel_rfl) (fun _ _ _ h => h) (Or.inl ⟨by kernel_rfl, ?_⟩) (by assumption) ?_
    rotate_left
    · (intro wS hSw; (try dsimp only at hSw); obtain ⟨z0, z1, z2, z3, z4, z5, z6, z7, z8, z9, z10⟩ := hSw.elev; clear hSw; go_simp; (try with_reducible rfl))
    (try simp only [Act.put, List.setIfInBounds_toArray, List.set_cons_zero, List.set_cons_succ])
    refine wpAnyH_take (i := 12) (oi := ⟨some 43, _, _, _, _, _⟩) (v := ?_) rfl (by kernel_rfl) (by kernel_rfl) (by kernel_rfl) (fun _ _ _ h => h) (Or.inl ⟨by kernel_rfl, ?_⟩) (by assumption) ?_
    rotate_left
    · (intro wS hSw; (try dsimp only at hSw); obtain ⟨z0, z1, z2, z3, z4, z5, z6, z7, z8, z9, z10⟩ := hSw.elev; clear hSw; go_simp; (try with_reducible rfl))
    (try simp only [Act.put, List.setIfInBounds_toArray, List.set_cons_zero, List.set_cons_succ])
    refine wpAnyH_take (i := 13) (oi := ⟨some 44, _, _, _, _, _⟩) (v := ?_) rfl (by kernel_rfl) (by kernel_rfl) (by kernel_rfl) (fun _ _ _ h => h) (Or.inl ⟨by kernel_rfl, ?_⟩) (by assumption) ?_
    rotate_left
    · (intro wS hSw; (try dsimp only at hSw); obtain ⟨z0, z1, z2, z3, z4, z5, z6, z7, z8, z9, z10⟩ := hSw.elev; clear hSw; go_simp; (try with_reducible rfl))
    (try simp only [Act.put, List.setIfInBounds_toArray, List.set_cons_zero, List.set_cons_succ])
    refine wpAnyH_take (i := 14) (oi := ⟨some 45, _, _, _, _, _⟩) (v := ?_) rfl (by kernel_rfl) (by kernel_rfl) (by kernel_rfl) (fun _ _ _ h => h) (Or.inl ⟨by kernel_rfl, ?_⟩) (by assumption) ?_
    rotate_left
    · (intro wS hSw; (try dsimp only at hSw); obtain ⟨z0, z1, z2, z3, z4, z5, z6, z7, z8, z9, z10⟩ := hSw.elev; clear hSw; go_simp; (try with_reducible rfl))
    (try simp only [Act.put, List.setIfInBounds_toArray, List.set_cons_zero, List.set_cons_succ])
    refine wpAnyH_take (i := 15) (oi := ⟨some 46, _, _, _, _, _⟩) (v := ?_) rfl (by kernel_rfl) (by kernel_rfl) (by kernel_rfl) (fun _ _ _ h => h) (Or.inl ⟨by kernel_rfl, ?_⟩) (by assumption) ?_
    rotate_left
    · (intro wS hSw; (try dsimp only at hSw); obtain ⟨z0, z1, z2, z3, z4, z5, z6, z7, z8, z9, z10⟩ := hSw.elev; clear hSw; go_simp; (try with_reducible rfl))
    (try simp only [Act.put, List.setIfInBounds_toArray, List.set_cons_zero, List.set_cons_succ])
    refine wpAnyH_take (i := 16) (oi := ⟨some 47, _, _, _, _, _⟩) (v := ?_) rfl (by kernel_rfl) (by kernel_rfl) (by kernel_rfl) (fun _ _ _ h => h) (Or.inl ⟨by kernel_rfl, ?_⟩) (by assumption) ?_
    rotate_left
    · (intro wS hSw; (try dsimp only at hSw); obtain ⟨z0, z1, z2, z3, z4, z5, z6, z7, z8, z9, z10⟩ := hSw.elev; clear hSw; go_simp; (try with_reducible rfl))
    (try simp only [Act.put, List.setIfInBounds_toArray, List.set_cons_zero, List.set_cons_succ])
    refine wpAnyH_ready (rs := [17]) (by kernel_rfl) (by simp) ?_
    refine AllReadyH.cons (o := ⟨some 48, _, _, _, _, _⟩) rfl (fun K hK => ?_) AllReadyH.nil
    go_simp
    (refine HSh.out.mono ?_; rintro e w7 ⟨rfl, hb7⟩; have hS7 := HS6.out.call hb7; obtain ⟨x0, x1, x2, x3, x4, x5, x6, x7, x8, x9, x10⟩ := hS7.b2.elev; obtain ⟨xf0, xf1, xf2, xf3, xf4, xf5, xf6, xf7, xf8, xf9, xf10⟩ := hS7.b2.frz)
    go_wp2_with fail
    refine hK.out _ _ ?_ (fun hHeld => ?_)
    · ((try dsimp only); (exact hHeld.below hb7))
    clear hK K
    (try simp only [Act.put, List.setIfInBounds_toArray, List.set_cons_zero, List.set_cons_succ])
    refine wpAnyH_take (i := 18) (oi := ⟨some 49, _, _, _, _, _⟩) (v := ?_) rfl (by kernel_rfl) (by kernel_rfl) (by kernel_rfl) (fun _ _ _ h => h) (Or.inl ⟨by kernel_rfl, ?_⟩) (by assumption) ?_
    rotate_left
    · (intro wS hSw; (try dsimp only at hSw); obtain ⟨z0, z1, z2, z3, z4, z5, z6, z7, z8, z9, z10⟩ := hSw.elev; clear hSw; go_simp; (try with_reducible rfl))
    (try simp only [Act.put, List.setIfInBounds_toArray, List.set_cons_zero, List.set_cons_succ])
    refine wpAnyH_take (i := 19) (oi := ⟨some 6, _, _, _, _, _⟩) (v := ?_) rfl (by kernel_rfl) (by kernel_rfl) (by kernel_rfl) (fun _ _ _ h => h) (Or.inl ⟨by kernel_rfl, ?_⟩) (by assumption) ?_
    rotate_left
    · (intro wS hSw; (try dsimp only at hSw); obtain ⟨z0, z1, z2, z3, z4, z5, z6, z7, z8, z9, z10⟩ := hSw.elev; clear hSw; go_simp; (try with_reducible rfl))
    (try simp only [Act.put, List.setIfInBounds_toArray, List.set_cons_zero, List.set_cons_succ])
    refine wpAnyH_ready (rs := [20]) (by kernel_rfl) (by simp) ?_
    refine AllReadyH.cons (o := ⟨none, _, _, _, _, _⟩) rfl (fun K hK => ?_) AllReadyH.nil
    go_simp
    refine hK.out _ _ ?_ (fun hHeld => ?_)
    · ((try dsimp only); (exact Blk.wr hHeld (wr_setR w7 (w.heap.size + 2) (d1.map Sv.l) A5 c5 B5 k5 s0 s1 L1 0) hne2))
    clear hK K
    (try simp only [Act.put, List.setIfInBounds_toArray, List.set_cons_zero, List.set_cons_succ])
    refine wpAnyH_take (i := 21) (oi := ⟨some 8, _, _, _, _, _⟩) (v := ?_) rfl (by kernel_rfl) (by kernel_rfl) (by kernel_rfl) (fun _ _ _ h => h) (Or.inl ⟨by kernel_rfl, ?_⟩) (by assumption) ?_
    rotate_left
    · (intro wS hSw; (try dsimp only at hSw); obtain ⟨z0, z1, z2, z3, z4, z5, z6, z7, z8, z9, z10⟩ := hSw.elev; clear hSw; go_simp; (try with_reducible rfl))
    (try simp only [Act.put, List.setIfInBounds_toArray, List.set_cons_zero, List.set_cons_succ])
    refine wpAnyH_done (by kernel_rfl) ?_ _
    obtain ⟨o1, o2, o3, o4⟩ := hS7.out (wr_setR w7 (w.heap.size + 2) (d1.map Sv.l) A5 c5 B5 k5 s0 s1 L1 0)
    have hBB := hS7.b2.setR (d1.map Sv.l) A5 c5 B5 k5 s0 s1 L1 0
    have HO := Lib.hid (HG.out q1 none A5 c5 B5 k5 _ hS7.g o1 o2 hS7.M o3 (fun p hp => by cases hp))
    unfold setR at HO hBB
    unfold rrg at HO hBB
    dsimp only [ptrO] at HO
    have HB9 := Lib.hid hBB
    clear o1 o2 o3 o4 hBB x0 x1 x2 x3 x4 x5 x6 x7 x8 x9 x10 xf0 xf1 xf2 xf3 xf4 xf5 xf6 xf7 xf8 xf9 xf10 hS7 HS6
    go_wp2_with fail
    exact bodyPost_ret (res_o3 rfl rfl (g := w.heap.size + 2) HB9.out) rfl HO.out
end Go.Proofs.YtddmfoldnlafaaaGreatDoor

namespace Go.Proofs.YtddmfoldnlafaaaGreatDoor
open Go.RowKit Go.Maps Go.Sort

def racta (x : RA) : Array Value := #[.int .i64 x.k, .int .i64 x.o, .int .i64 x.n, .int .i64 x.d.k, .string ⟨x.d.n.toArray⟩, .string ⟨x.d.t.toArray⟩, .slice x.d.A x.d.l.length x.d.c, .int .i64 x.d.f, .slice x.d.B x.d.ks.length x.d.kc, .slice x.B x.ks.length x.kc]
theorem Blk.tenD {w : World} {g : Nat} {t : TypeId} {a0 a1 a2 a3 a4 a5 a6 a7 a8 a9 : Value} (h : Blk w g t #[a0, a1, a2, a3, a4, a5, a6, a7, a8, a9]) : w.cell? ⟨g, 0, none⟩ = some a0 ∧ w.cell? ⟨g, 1, none⟩ = some a1 ∧ w.cell? ⟨g, 2, none⟩ = some a2 ∧ w.cell? ⟨g, 3, none⟩ = some a3 ∧ w.cell? ⟨g, 4, none⟩ = some a4 ∧ w.cell? ⟨g, 5, none⟩ = some a5 ∧ w.cell? ⟨g, 6, none⟩ = some a6 ∧ w.cell? ⟨g, 7, none⟩ = some a7 ∧ w.cell? ⟨g, 8, none⟩ = some a8 ∧ w.cell? ⟨g, 9, none⟩ = some a9 := ⟨h.cell 0, h.cell 1, h.cell 2, h.cell 3, h.cell 4, h.cell 5, h.cell 6, h.cell 7, h.cell 8, h.cell 9⟩
end Go.Proofs.YtddmfoldnlafaaaGreatDoor

namespace Go.Proofs.YtddmfoldnlafaaaGreatDoor
open Go.RowKit Go.Maps Go.Sort
attribute [local go_sem ↓] Go.wp_at_zero Go.wp_at_succ

set_option maxRecDepth 100000 in
theorem Driven_any (x : DA) (w : World) : Calls Tryz.prog 33 #[.agg (acta x)] w fun e w' => (∃ b, e = .returned (.bool b)) ∧ Below w.heap.size w w' := by
  obtain ⟨y0, y1, y2, y3, y4, y5⟩ := (Blk.new w 62 (acta x)).six
  have hb := below_new w (.cells (acta x) 62)
  go_enter Tryz.func33, Tryz.ntmps33
  go_wp2_with fail
  go_ret
  exact ⟨⟨_, rfl⟩, hb⟩
end Go.Proofs.YtddmfoldnlafaaaGreatDoor

namespace Go.Proofs.YtddmfoldnlafaaaGreatDoor
open Go.RowKit Go.Maps Go.Sort

theorem keep_keeps {d : Dk Sv} (x : L3r) (A : Option Addr) (c : Nat) (hf : Fok d) (hn : Nmd d) : Fok (rgKeep d x A c).1 ∧ Nmd (rgKeep d x A c).1 ∧ (rgKeep d x A c).1.sure.length + (rgKeep d x A c).1.pend.length ≤ d.sure.length + d.pend.length + 4 := by
  unfold rgKeep
  split
  · exact ⟨hf, hn, by dsimp only; omega⟩
  · exact ⟨hf.put lname _, hn.put svl Sv.nil lname _, sPut_len svl Sv.nil d lname _⟩
theorem GivO.keeps {d d' : Dk Sv} {L L' : L3r} {o : Int} {k : Nat} (h : GivO d L o k d' L') (hf : Fok d) (hn : Nmd d) : Fok d' ∧ Nmd d' ∧ d'.sure.length + d'.pend.length ≤ d.sure.length + d.pend.length + 4 := by
  cases h with
  | no h => exact ⟨hf, hn, by omega⟩
  | gave A c h => exact keep_keeps _ A c hf hn
theorem AcqO.keeps {d d' : Dk Sv} {L L' ret : L3r} {n n' sp bo o now : Int} {k : Nat} (h : AcqO d L n sp bo o now ret k d' L' n') (hf : Fok d) (hn : Nmd d) : Fok d' ∧ Nmd d' ∧ d'.sure.length + d'.pend.length ≤ d.sure.length + d.pend.length + 4 := by
  cases h with
  | no h => exact ⟨hf, hn, by omega⟩
  | bad A c h hk => exact keep_keeps _ A c hf hn
  | ok A c h hk => exact keep_keeps _ A c hf hn
theorem rda_nob {d : Dk Bs} {A : Option Addr} {c : Nat} {B : Option Addr} {k : Nat} (o : Nat) (x : UInt8) : (rda d A c B k)[o]? ≠ some (bv x) := by
  intro h
  unfold rda at h
  match o with
  | 0 => simp at h
  | 1 => simp at h
  | 2 => simp at h
  | 3 => simp at h
  | 4 => simp at h
  | k + 5 => simp at h
/-- blocks apart from a disk's, from a register's and from a call's own -/
def Yr (P : Nat → Prop) (w : World) (q : Fp) (gr : Nat) (i : Nat) : Prop := ¬ q.M i ∧ i ≠ gr ∧ P i ∧ i ≠ w.heap.size ∧ i ≠ w.heap.size + 2
structure RaS (P : Nat → Prop) (w W : World) (q0 : Fp) (gr : Nat) (q : Fp) (gs : Nat) (d : Dk Sv) (sp bo n : Int) (L : L3r) (m : Dk Bs) (A : Option Addr) (c : Nat) (B : Option Addr) (k : Nat) (Lm : L3r) (nm : Int) (x : RA) : Prop where
  mm : RgM W gr gs q d sp bo L n
  g : q.g = q0.g
  fr : Frg q0 gr w W
  M : ∀ i, q.M i → q0.M i ∨ w.heap.size ≤ i
  b0 : Blk W w.heap.size 104 (rrg m A c B k sp bo Lm nm)
  b1 : Blk W (w.heap.size + 1) 64 (racta x)
  b2 : Blk W (w.heap.size + 2) 104 rrz
  aM : ¬ q.M w.heap.size ∧ ¬ q.M (w.heap.size + 1) ∧ ¬ q.M (w.heap.size + 2)
  gn : gr < w.heap.size ∧ gs < w.heap.size
  R : Rdk (Yr P w q gr) W m A c B k
  up0 : ∀ i, W.heap.size ≤ i → P i
theorem Frg.thenB {q : Fp} {g : Nat} {w W W' : World} (h : Frg q g w W) (hb : Below W.heap.size W W') : Frg q g w W' := ⟨hb.os.trans h.os, hb.tape.trans h.tape, hb.output.trans h.output, Nat.le_trans h.size hb.size, fun i hi hn hne => (hb.block i (Nat.lt_of_lt_of_le hi h.size)).trans (h.block i hi hn hne)⟩
section
variable {P : Nat → Prop} {w W W' : World} {q0 q q' : Fp} {gr gs : Nat} {d d' : Dk Sv} {sp bo n n' : Int} {L L' : L3r} {m m' : Dk Bs} {A A' B B' : Option Addr} {c c' k k' : Nat} {Lm Lm' : L3r} {nm nm' : Int} {x : RA}
theorem RaS.call (h : RaS P w W q0 gr q gs d sp bo n L m A c B k Lm nm x) (hb : Below W.heap.size W W') : RaS P w W' q0 gr q gs d sp bo n L m A c B k Lm nm x :=
  ⟨h.mm.below hb, h.g, h.fr.thenB hb, h.M, h.b0.below hb, h.b1.below hb, h.b2.below hb, h.aM, h.gn, h.R.below hb, fun i hi => h.up0 i (Nat.le_trans hb.size hi)⟩
theorem RaS.up (h : RaS P w W q0 gr q gs d sp bo n L m A c B k Lm nm x) : ∀ i, W.heap.size ≤ i → Yr P w q gr i := fun i hi => by
  have h0 := h.b0.lt
  have h2 := h.b2.lt
  have h3 := h.mm.blk.lt
  exact ⟨fun hq => by have := h.mm.st.dsk.ltM hq; omega, by omega, h.up0 i hi, by omega, by omega⟩
theorem Yr.next (hM : ∀ i, q'.M i → q.M i ∨ W.heap.size ≤ i) {i : Nat} (hi : i < W.heap.size) (h : Yr P w q gr i) : Yr P w q' gr i := ⟨fun hq => by
    rcases hM i hq with h1 | h1
    · exact h.1 h1
    · omega, h.2⟩
theorem Rdk.frg (h : Rdk (Yr P w q gr) W m A c B k) (hF : Frg q gr W W') (hM : ∀ i, q'.M i → q.M i ∨ W.heap.size ≤ i) : Rdk (Yr P w q' gr) W' m A c B k :=
  h.sameH (fun _ hi ht => ht.next hM hi) hF.size fun i hi ht => hF.block i hi ht.1 ht.2.1
/-- the register acts -/
theorem RaS.rg (h : RaS P w W q0 gr q gs d sp bo n L m A c B k Lm nm x) (hg : q'.g = q.g) (hR : RgM W' gr gs q' d' sp bo L' n') (hF : Frg q gr W W') (hM : ∀ i, q'.M i → q.M i ∨ W.heap.size ≤ i) : RaS P w W' q0 gr q' gs d' sp bo n' L' m A c B k Lm nm x := by
  obtain ⟨a0, a1, a2⟩ := h.aM
  have l0 := h.b0.lt
  have l1 := h.b1.lt
  have l2 := h.b2.lt
  have g0 := h.gn.1
  have hn : ∀ {i}, i < W.heap.size → ¬ q.M i → ¬ q'.M i := fun {i} hi hq h2 => by
    rcases hM i h2 with h3 | h3
    · exact hq h3
    · omega
  refine ⟨hR, hg.trans h.g, h.fr.trans hF h.M, fun i hi => ?_, (hF.block _ l0 a0 (by omega)).trans h.b0, (hF.block _ l1 a1 (by omega)).trans h.b1, (hF.block _ l2 a2 (by omega)).trans h.b2, ⟨hn l0 a0, hn l1 a1, hn l2 a2⟩, h.gn, h.R.frg hF hM, fun i hi => h.up0 i (Nat.le_trans hF.size hi)⟩
  rcases hM i hi with h1 | h1
  · exact h.M i h1
  · have := h.fr.size
    exact .inr (by omega)
/-- the disk acts -/
theorem RaS.act (h : RaS P w W q0 gr q gs d sp bo n L m A c B k Lm nm x) (hg : q'.g = q.g) (hD : Dsk W' q' d') (hF : Frd q W W') (hM : ∀ i, q'.M i → q.M i ∨ W.heap.size ≤ i) : RaS P w W' q0 gr q' gs d' sp bo n L m A c B k Lm nm x :=
  h.rg hg (h.mm.act hg hD hF hM) (Frg.of gr hF) hM
/-- the document's register is set -/
theorem RaS.refW (h : RaS P w W q0 gr q gs d sp bo n L m A c B k Lm nm x) (hw : Wr W W' w.heap.size) (hB : Blk W' w.heap.size 104 (rrg m' A' c' B' k' sp bo Lm' nm')) (hR : Rdk (Yr P w q gr) W m' A' c' B' k') : RaS P w W' q0 gr q gs d sp bo n L m' A' c' B' k' Lm' nm' x := by
  have g0 := h.gn
  exact ⟨h.mm.other h.b0 rrg_nob h.aM.1 (by omega) (by omega) hw, h.g, h.fr.more hw (Nat.le_refl _), h.M, hB, h.b1.wr hw (by omega), h.b2.wr hw (by omega), h.aM, h.gn, hR.sameH (fun _ _ ht => ht) hw.size fun i hi ht => hw.block i hi (fun e => ht.2.2.2.1 (by injection e)), fun i hi => h.up0 i (Nat.le_trans hw.size hi)⟩
theorem RaS.ref (h : RaS P w W q0 gr q gs d sp bo n L m A c B k Lm nm x) (hR : Rdk (Yr P w q gr) W m' A' c' B' k') (Lm' : L3r) (nm' : Int) : RaS P w (setR W w.heap.size m' A' c' B' k' sp bo Lm' nm') q0 gr q gs d sp bo n L m' A' c' B' k' Lm' nm' x := by
  have hb := h.b0
  unfold rrg at hb
  exact h.refW (wr_setR W w.heap.size m' A' c' B' k' sp bo Lm' nm') (hb.setR m' A' c' B' k' sp bo Lm' nm') hR
theorem RaS.refD (h : RaS P w W q0 gr q gs d sp bo n L m A c B k Lm nm x) (hR : Rdk (Yr P w q gr) W m' A' c' B' k') : RaS P w (((((W.setCell ⟨w.heap.size, 0, none⟩ (.int .i64 m'.room)).setCell ⟨w.heap.size, 1, none⟩ (.slice A' m'.sure.length c')).setCell ⟨w.heap.size, 2, none⟩ (.slice B' m'.pend.length k')).setCell ⟨w.heap.size, 3, none⟩ (.int .i64 m'.fuse)).setCell ⟨w.heap.size, 4, none⟩ (.bool m'.down)) q0 gr q gs d sp bo n L m' A' c' B' k' Lm nm x := by
  have hb := h.b0
  exact h.refW ((((((Wr.refl _ _).set_ 0 _).set_ 1 _).set_ 2 _).set_ 3 _).set_ 4 _) (Blk.cast (((((hb.set_ 0 _).set_ 1 _).set_ 2 _).set_ 3 _).set_ 4 _) (by kernel_rfl)) hR
/-- another block of one's own -/
theorem RaS.own (h : RaS P w W q0 gr q gs d sp bo n L m A c B k Lm nm x) {b : Nat} (hb : b < W.heap.size) (hR : Rdk (Yr (fun i => P i ∧ i ≠ b) w q gr) W m A c B k) : RaS (fun i => P i ∧ i ≠ b) w W q0 gr q gs d sp bo n L m A c B k Lm nm x :=
  ⟨h.mm, h.g, h.fr, h.M, h.b0, h.b1, h.b2, h.aM, h.gn, hR, fun i hi => ⟨h.up0 i hi, by omega⟩⟩
/-- the result is laid -/
theorem RaS.out (h : RaS P w W q0 gr q gs d sp bo n L m A c B k Lm nm x) (hw : Wr W W' (w.heap.size + 2)) : RgM W' gr gs q d sp bo L n ∧ Frg q0 gr w W' ∧ Rdk (Yo P q (some (gr, gs))) W' m A c B k := by
  have g0 := h.gn
  refine ⟨h.mm.other h.b2 rrz_nob h.aM.2.2 (by omega) (by omega) hw, h.fr.more hw (Nat.le_add_right _ _), h.R.sameH (fun i _ ht => ⟨ht.1, fun p hp => by injection hp with hp; subst hp; exact ht.2.1, ht.2.2.1⟩) hw.size fun i hi ht => hw.block i hi (fun e => ht.2.2.2.2 (by injection e))⟩
end
/-- what an act leaves -/
def RaG (P : Nat → Prop) (w : World) (q0 : Fp) (gr0 gs0 : Nat) (d : Dk Sv) (sp bo : Int) (e : Ending) (w' : World) : Prop :=
  ∃ (q : Fp) (o : Option (Nat × Nat)) (d' : Dk Sv) (A : Option Addr) (c : Nat) (B : Option Addr) (k : Nat) (sp' bo' n' : Int) (L' : L3r), e = .returned (.tuple #[ptrO o, .agg (rrg (d'.map Sv.l) A c B k sp' bo' L' n'), .bool true]) ∧ q.g = q0.g ∧ Dsk w' q d' ∧ Frg q0 gr0 w w' ∧ (∀ i, q.M i → q0.M i ∨ w.heap.size ≤ i) ∧
    (∀ p, o = some p → sp' = sp ∧ bo' = bo ∧ Fok d' ∧ Nmd d' ∧ d'.sure.length + d'.pend.length ≤ d.sure.length + d.pend.length + 4 ∧ RgM w' p.1 p.2 q d' sp bo L' n' ∧ Rdk (Yo P q o) w' (d'.map Sv.l) A c B k ∧ (p.1 = gr0 ∨ w.heap.size ≤ p.1) ∧ (p.2 = gs0 ∨ w.heap.size ≤ p.2))
/-- a block beside is set -/
theorem RaS.wrG {P : Nat → Prop} {w W W' : World} {q0 q : Fp} {gr gs g : Nat} {d : Dk Sv} {sp bo n : Int} {L : L3r} {m : Dk Bs} {A B : Option Addr} {c k : Nat} {Lm : L3r} {nm : Int} {x : RA} {t : TypeId} {cs : Array Value} (h : RaS P w W q0 gr q gs d sp bo n L m A c B k Lm nm x) (hO : Off W q gr g t cs) (hno : ∀ (o : Nat) (x : UInt8), cs[o]? ≠ some (bv x)) (hlo : w.heap.size + 3 ≤ g) (hPg : ∀ i, P i → i ≠ g) (hw : Wr W W' g) : RaS P w W' q0 gr q gs d sp bo n L m A c B k Lm nm x := by
  have g0 := h.gn
  exact ⟨h.mm.other hO.blk hno hO.nm (by omega) (by omega) hw, h.g, h.fr.more hw (by omega), h.M, h.b0.wr hw (by omega), h.b1.wr hw (by omega), h.b2.wr hw (by omega), h.aM, h.gn, h.R.sameH (fun _ _ ht => ht) hw.size fun i hi ht => hw.block i hi (fun e => hPg i ht.2.2.1 (by injection e)), fun i hi => h.up0 i (Nat.le_trans hw.size hi)⟩
theorem rgOpen_keeps {d : Dk Sv} {sp bo : Int} (hb : ¬ rgBad sp bo) (h0 : (rgOpen d sp bo).2.2 = 0) (hf : Fok d) (hn : Nmd d) : Fok (rgOpen d sp bo).1 ∧ Nmd (rgOpen d sp bo).1 ∧ (rgOpen d sp bo).1.sure.length + (rgOpen d sp bo).1.pend.length ≤ d.sure.length + d.pend.length := by
  unfold rgOpen at h0 ⊢
  rw [if_neg hb] at h0 ⊢
  by_cases h2 : (sOpen Sv.nil d).2 ≠ 0
  · rw [if_pos h2] at h0
    exact absurd h0 h2
  · rw [if_neg h2]
    exact ⟨hf.open_, hn.open_ Sv.nil, sOpen_len (Decidable.byContradiction h2)⟩
/-- opened anew: the end of an act -/
theorem RaS.opened {P P0 P1 : Nat → Prop} {w W w1 w2 : World} {q0 q q' : Fp} {gr gs : Nat} {d d1 : Dk Sv} {sp bo n : Int} {L : L3r} {m : Dk Bs} {A B A' B' : Option Addr} {c k c' k' : Nat} {Lm : L3r} {nm : Int} {x : RA} {o : Option (Nat × Nat)} (h : RaS P w W q0 gr q gs d1 sp bo n L m A c B k Lm nm x) (hP : ∀ i, P1 i → P0 i ∧ i ≠ w.heap.size + 2) (hf : Fok d1) (hn : Nmd d1) (hl : d1.sure.length + d1.pend.length ≤ d.sure.length + d.pend.length + 4)
    (hg : q'.g = q.g) (hD : Dsk w1 q' (rgOpen d1 sp bo).1) (hF : Frd q W w1) (hM : ∀ i, q'.M i → q.M i ∨ W.heap.size ≤ i) (hR : Rdk (Yo P1 q' o) w1 ((rgOpen d1 sp bo).1.map Sv.l) A' c' B' k') (ho : ∀ p, o = some p → ¬ rgBad sp bo ∧ (rgOpen d1 sp bo).2.2 = 0 ∧ RgM w1 p.1 p.2 q' (rgOpen d1 sp bo).1 sp bo (rgOpen d1 sp bo).2.1 0 ∧ W.heap.size ≤ p.1 ∧ W.heap.size ≤ p.2) (hb : Below w1.heap.size w1 w2) :
    Blk w2 (w.heap.size + 2) 104 rrz ∧ ∀ w3, Wr w2 w3 (w.heap.size + 2) → RaG P0 w q0 gr gs d sp bo (.returned (.tuple #[ptrO o, .agg (rrg ((rgOpen d1 sp bo).1.map Sv.l) A' c' B' k' (spanB sp bo sp) (spanB sp bo bo) (rgOpen d1 sp bo).2.1 0), .bool true])) w3 := by
  have l2 := h.b2.lt
  have hB : Blk w2 (w.heap.size + 2) 104 rrz := Blk.below (show Blk w1 _ _ _ from (hF.block _ l2 h.aM.2.2).trans h.b2) hb
  have hq2 : ¬ q'.M (w.heap.size + 2) := fun hq => by
    rcases hM _ hq with h1 | h1
    · exact h.aM.2.2 h1
    · omega
  refine ⟨hB, fun w3 hw => ⟨q', o, (rgOpen d1 sp bo).1, A', c', B', k', _, _, 0, _, rfl, hg.trans h.g, (hD.below hb).otherB hB rrz_nob hq2 hw, ((h.fr.trans (Frg.of gr hF) h.M).thenB hb).more hw (Nat.le_add_right _ _), fun i hi => ?_, fun p hp => ?_⟩⟩
  · rcases hM i hi with h1 | h1
    · exact h.M i h1
    · have := h.fr.size
      exact .inr (by omega)
  · obtain ⟨e1, e2, e3, e4, e5⟩ := ho p hp
    obtain ⟨k1, k2, k3⟩ := rgOpen_keeps e1 e2 hf hn
    have hs := h.fr.size
    refine ⟨if_neg e1, if_neg e1, k1, k2, by omega, (e3.below hb).other hB rrz_nob hq2 (by omega) (by omega) hw, ?_, .inr (by omega), .inr (by omega)⟩
    exact (hR.below hb).sameH (fun i _ ht => ⟨ht.1, ht.2.1, (hP i ht.2.2).1⟩) hw.size fun i hi ht => hw.block i hi (fun e => (hP i ht.2.2).2 (by injection e))
end Go.Proofs.YtddmfoldnlafaaaGreatDoor
