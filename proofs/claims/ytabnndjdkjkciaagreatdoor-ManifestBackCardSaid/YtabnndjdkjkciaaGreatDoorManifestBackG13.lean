/- WHAT IT HOLDS: a block of sha, as package sha takes it: walked. | WHAT IT HOLDS: the document's constants of sha, walked: prime numbers, products, roots, tables. -/
import Derived.Test.YtabnndjdkjkciaaGreatDoorManifestBackG12
namespace Go.Proofs.YtabnndjdkjkciaaGreatDoor
open Go.RowKit
attribute [local go_sem ↓] Go.wp_at_zero Go.wp_at_succ

/-- a state's cells -/
def s8a (s : S8) : Array Value := #[wv s.a, wv s.b, wv s.c, wv s.d, wv s.e, wv s.f, wv s.g, wv s.h]
def z8a : Array Value := #[.int .u32 0, .int .u32 0, .int .u32 0, .int .u32 0, .int .u32 0, .int .u32 0, .int .u32 0, .int .u32 0]
theorem s8a_size (s : S8) : (s8a s).size = 8 := rfl
theorem s8a_all (s : S8) : (s8a s).all (·.oneCell') = true := by unfold s8a; simp [Value.oneCell']
/-- a state to which the first k words of another one were added -/
def s8m (s t : S8) (k : Nat) : Array Value := ((List.range 8).map fun i => wv (if i < k then s.l.getD i 0 + t.l.getD i 0 else s.l.getD i 0)).toArray
theorem s8m_zero (s t : S8) : s8m s t 0 = s8a s := rfl
theorem s8m_full (s t : S8) : s8m s t 8 = s8a (s.add t) := rfl
theorem s8_lt {k : Nat} (h : k < 8) : k = 0 ∨ k = 1 ∨ k = 2 ∨ k = 3 ∨ k = 4 ∨ k = 5 ∨ k = 6 ∨ k = 7 := by omega
theorem s8m_at (s t : S8) {k : Nat} (h : k < 8) : (s8m s t k)[k]? = some (wv (s.l.getD k 0)) := by
  rcases s8_lt h with rfl | rfl | rfl | rfl | rfl | rfl | rfl | rfl <;> rfl
theorem s8a_at (s : S8) {k : Nat} (h : k < 8) : (s8a s)[k]? = some (wv (s.l.getD k 0)) := by
  rcases s8_lt h with rfl | rfl | rfl | rfl | rfl | rfl | rfl | rfl <;> rfl
theorem s8m_set (s t : S8) {k : Nat} (h : k < 8) : (s8m s t k).setIfInBounds k (wv (s.l.getD k 0 + t.l.getD k 0)) = s8m s t (k + 1) := by
  rcases s8_lt h with rfl | rfl | rfl | rfl | rfl | rfl | rfl | rfl <;> rfl
theorem ix_word {P : Program} {N n : Nat} (t e : TypeId) (hu : P.underlying t = some (.array N e)) (he : P.underlying e = some (.int .u32)) (hs : (P.info? e).map (·.size) = some 1) (cs : Array Value) (x : W32) (hv : cs[n]? = some (wv x)) (hn : n < N) (w : World) :
    (Instr.index t (.agg cs) (.int .i64 n)).run P w = .ok (wv x) w := by
  have hagg : (isAgg e).run P w = .ok false w := by
    unfold isAgg
    rw [Sem.run_bind, run_underlying he w]
    rfl
  have hso : (sizeOf e).run P w = .ok 1 w := by
    cases hq : P.info? e with
    | none => simp [hq] at hs
    | some i =>
      have : i.size = 1 := by simpa [hq] using hs
      simp [sizeOf, typeInfo, hq, this]
  have hp : (part e cs (n * 1)).run P w = .ok (wv x) w := by
    unfold part
    rw [Sem.run_bind, hagg]
    simp [hv]
  have hnI : (n : Int) < N := by omega
  simp [Instr.index, run_underlying hu, asIntOf, hso, Sem.run_bind]
  rw [if_pos hn]
  simpa using hp
/-- the package's tables, as they are laid -/
structure Shg (w : World) : Prop where
  k : ∀ i, i < 64 → w.cell? ⟨1, i, none⟩ = some (wv (shaK.getD i 0))
  f : ∀ i, i < 8 → w.cell? ⟨0, i, none⟩ = some (wv (shaH.l.getD i 0))
theorem Shg.lt {w : World} (h : Shg w) : 1 < w.heap.size ∧ 0 < w.heap.size := ⟨World.block_lt_of_cell? _ _ (h.k 0 (by decide)), World.block_lt_of_cell? _ _ (h.f 0 (by decide))⟩
theorem Shg.below {w w' : World} (h : Shg w) (hb : Below w.heap.size w w') : Shg w' :=
  ⟨fun i hi => (hb.cell (p := ⟨1, i, none⟩) h.lt.1).trans (h.k i hi), fun i hi => (hb.cell (p := ⟨0, i, none⟩) h.lt.2).trans (h.f i hi)⟩
theorem res_s8 {fn : Func} {a : Nat} {tmps : Array Value} {w : World} {g : Nat} {cs : Array Value} (hres : fn.results = #[.cell a 222]) (ha : tmps.getD a undef = .pointer (some ⟨g, 0, none⟩)) (hB : Blk w g 222 cs) (hs : cs.size = 8) : (results fn tmps).run Tryz.prog w = .ok (.agg cs) w := by
  have h := run_loadVar_at (P := Tryz.prog) w ⟨g, 0, none⟩ 222 cs hB.cells _ Tryz.underlying222 rfl (by rw [hs]; kernel_rfl)
  have ha' : tmps[a]?.getD undef = .pointer (some ⟨g, 0, none⟩) := by simpa using ha
  simp [results, hres, asAddr, h, ha']
set_option maxRecDepth 100000 in
set_option maxHeartbeats 1000000 in
theorem Step_any {A : Option Addr} {c : Nat} (s : S8) (b : List UInt8) (w : World) (h : SlB w A c b) (hl : b.length = 64) (hG : Shg w) :
    Calls Tryz.prog 133 #[.agg (s8a s), .slice A b.length c] w fun e w' => e = .returned (.agg (s8a (stp s b))) ∧ Below w.heap.size w w' := by
  have hM := ((Mm.start w).alloc (s8a s) 222).alloc z8a 222
  rw [show (w.alloc (.cells (s8a s) 222)).heap.size = w.heap.size + 1 from by simp] at hM
  have hz : ((w.alloc (.cells (s8a s) 222)).alloc (.cells z8a 222)).heap.size = w.heap.size + 2 := by simp
  have hs8 := fun s => Lib.hid (s8a_size s)
  have hsa := fun s => Lib.hid (s8a_all s)
  go_enter Tryz.func133, Tryz.ntmps133
  go_upto_region 1 with (fail)
  refine gen1 (T := fun W => Mm w W [(w.heap.size + 1, 222, z8a), (w.heap.size, 222, s8a s)] []) hM (fun w0 hM => ?_)
  have hM1 := hM.alloc (s8a s) 222
  have hlo := hM.bel.size
  have hz1 := hM.b0.lt
  go_upto_region 2 with (first | (refine wpl_loadG rfl 222 _ rfl ⟨w.heap.size, 0, none⟩ (s8a s) rfl hM.b1.cells _ Tryz.underlying222 rfl (by rw [(hs8 s).out]; kernel_rfl) ?_) | (refine wpl_storeN rfl 222 _ _ rfl _ (s8a s) 222 rfl rfl (by rw [(hs8 s).out]; kernel_rfl) (by rw [(hs8 s).out]; rfl) (hsa s).out ?_))
  generalize hWe : w0.alloc (.cells (s8a s) 222) = w1 at *
  clear hWe
  obtain ⟨g, hg⟩ : ∃ g, w0.heap.size = g := ⟨_, rfl⟩
  rw [hg] at hM1 hz1 hlo ⊢
  clear hM hg
  have hsl : SlB w1 A c b := Sl.below h hM1.bel
  go_wp2_with fail
  have hSc := Sched_any b w1 hsl hl
  obtain ⟨ws, hws⟩ : ∃ ws, sch b 64 = ws := ⟨_, rfl⟩
  have hwl : ws.length = 64 := by rw [← hws]; exact sch_len b 64
  rw [hws, hl] at hSc
  have HWS := Lib.hid hws
  clear hws
  refine hSc.mono ?_
  clear hSc
  rintro e w2 ⟨rfl, hb2⟩
  have hM2 := hM1.call hb2
  clear hM1 hb2 hsl
  go_wp2_with fail
  go_loopw [16] (fun x wr => ∃ n : Nat, n ≤ 64 ∧ x = .int .i64 n ∧ Mm w wr [(g, 222, s8a (rnds ws s n)), (w.heap.size + 1, 222, z8a), (w.heap.size, 222, s8a s)] []) (fun x wr => 64 - (intOf x).toNat)
  case atStart => exact ⟨0, by omega, rfl, hM2⟩
  case round =>
    clear hM2
    obtain ⟨n, hn, rfl, hM⟩ := hrel
    by_cases hlt : n < 64
    · have hnI : (n : Int) < 64 := by omega
      have hix : (wca ws 64)[n]? = some (wv (ws.getD n 0)) := wca_at (by rw [hwl]; exact hlt)
      have hrs := Lib.hid (show rnds ws s (n + 1) = rnd (rnds ws s n) (shaK.getD n 0) (ws.getD n 0) from rfl)
      have hkc := (hG.below hM.bel).k n hlt
      generalize ws.getD n 0 = x at *
      generalize shaK.getD n 0 = kk at *
      generalize rnds ws s n = r at *
      have hixx : ∀ W : World, (Instr.index 288 (.agg (wca ws 64)) (.int .i64 n)).run Tryz.prog W = .ok (wv x) W := fun W => ix_word 288 221 Tryz.underlying288 Tryz.underlying221 (by kernel_rfl) _ x hix hlt W
      have hB := hM.b0
      have c0 := hB.cell 0
      have c1 := hB.cell 1
      have c2 := hB.cell 2
      have c3 := hB.cell 3
      have c4 := hB.cell 4
      have c5 := hB.cell 5
      have c6 := hB.cell 6
      have c7 := hB.cell 7
      simp only [s8a] at c0 c1 c2 c3 c4 c5 c6 c7
      go_upto_region 5 with (fail)
      go_quiet (fail)
      have hM5 := hM.drewN nq
      have hk5 : (wr.drewN nq).cell? ⟨1, n, none⟩ = some (wv kk) := hkc
      clear hB c0 c1 c2 c3 c4 c5 c6 c7 hM hkc
      generalize wr.drewN nq = w5 at *
      have hst : Blk w5.drew g 222 (s8a r) ∧ w5.drew.cell? ⟨1, n, none⟩ = some (wv kk) := ⟨hM5.b0.drew, hk5⟩
      have R2 := right2
      have R6 := right6
      have R11 := right11
      have R13 := right13
      have R22 := right22
      have R25 := right25
      have q1 := add_wn
      have q2 := xor_wn
      have q3 := and_wn
      have q4 := or_wn
      have HM5 := Lib.hid hM5
      clear hM5 hk5
      go_upto_region 6 with (fail)
      refine wp_region_held_drew (S := (fun W => Blk W g 222 (s8a r) ∧ W.cell? ⟨1, n, none⟩ = some (wv kk))) (by kernel_rfl) ?_ (fun hHeld => ?_)
      · first | exact hst | exact hHeld
      refine wpAnyH_take (i := 0) (oi := ⟨some 24, _, _, _, _, _⟩) (v := ?_) rfl (by kernel_rfl) (by kernel_rfl) (by kernel_rfl) (fun _ _ _ h => h) (Or.inl ⟨by kernel_rfl, ?_⟩) (by assumption) ?_
      rotate_left
      · (intro wS hSw; (try dsimp only at hSw); obtain ⟨hbb, hkk⟩ := hSw; have c0 := hbb.cell 0; have c1 := hbb.cell 1; have c2 := hbb.cell 2; have c5 := hbb.cell 5; have c6 := hbb.cell 6; have c7 := hbb.cell 7; simp only [s8a] at c0 c1 c2 c5 c6 c7; clear hbb; go_simp; (try with_reducible rfl))
      (try simp only [Act.put, List.setIfInBounds_toArray, List.set_cons_zero, List.set_cons_succ])
      refine wpAnyH_take (i := 1) (oi := ⟨some 25, _, _, _, _, _⟩) (v := ?_) rfl (by kernel_rfl) (by kernel_rfl) (by kernel_rfl) (fun _ _ _ h => h) (Or.inl ⟨by kernel_rfl, ?_⟩) (by assumption) ?_
      rotate_left
      · (intro wS hSw; (try dsimp only at hSw); obtain ⟨hbb, hkk⟩ := hSw; have c0 := hbb.cell 0; have c1 := hbb.cell 1; have c2 := hbb.cell 2; have c5 := hbb.cell 5; have c6 := hbb.cell 6; have c7 := hbb.cell 7; simp only [s8a] at c0 c1 c2 c5 c6 c7; clear hbb; go_simp; (try with_reducible rfl))
      (try simp only [Act.put, List.setIfInBounds_toArray, List.set_cons_zero, List.set_cons_succ])
      refine wpAnyH_take (i := 2) (oi := ⟨some 26, _, _, _, _, _⟩) (v := ?_) rfl (by kernel_rfl) (by kernel_rfl) (by kernel_rfl) (fun _ _ _ h => h) (Or.inl ⟨by kernel_rfl, ?_⟩) (by assumption) ?_
      rotate_left
      · (intro wS hSw; (try dsimp only at hSw); obtain ⟨hbb, hkk⟩ := hSw; have c0 := hbb.cell 0; have c1 := hbb.cell 1; have c2 := hbb.cell 2; have c5 := hbb.cell 5; have c6 := hbb.cell 6; have c7 := hbb.cell 7; simp only [s8a] at c0 c1 c2 c5 c6 c7; clear hbb; go_simp; (try with_reducible rfl))
      (try simp only [Act.put, List.setIfInBounds_toArray, List.set_cons_zero, List.set_cons_succ])
      refine wpAnyH_take (i := 4) (oi := ⟨some 28, _, _, _, _, _⟩) (v := ?_) rfl (by kernel_rfl) (by kernel_rfl) (by kernel_rfl) (fun _ _ _ h => h) (Or.inl ⟨by kernel_rfl, ?_⟩) (by assumption) ?_
      rotate_left
      · (intro wS hSw; (try dsimp only at hSw); obtain ⟨hbb, hkk⟩ := hSw; have c0 := hbb.cell 0; have c1 := hbb.cell 1; have c2 := hbb.cell 2; have c5 := hbb.cell 5; have c6 := hbb.cell 6; have c7 := hbb.cell 7; simp only [s8a] at c0 c1 c2 c5 c6 c7; clear hbb; go_simp; (try with_reducible rfl))
      (try simp only [Act.put, List.setIfInBounds_toArray, List.set_cons_zero, List.set_cons_succ])
      refine wpAnyH_take (i := 7) (oi := ⟨some 31, _, _, _, _, _⟩) (v := ?_) rfl (by kernel_rfl) (by kernel_rfl) (by kernel_rfl) (fun _ _ _ h => h) (Or.inl ⟨by kernel_rfl, ?_⟩) (by assumption) ?_
      rotate_left
      · (intro wS hSw; (try dsimp only at hSw); obtain ⟨hbb, hkk⟩ := hSw; have c0 := hbb.cell 0; have c1 := hbb.cell 1; have c2 := hbb.cell 2; have c5 := hbb.cell 5; have c6 := hbb.cell 6; have c7 := hbb.cell 7; simp only [s8a] at c0 c1 c2 c5 c6 c7; clear hbb; go_simp; (try with_reducible rfl))
      (try simp only [Act.put, List.setIfInBounds_toArray, List.set_cons_zero, List.set_cons_succ])
      refine wpAnyH_take (i := 11) (oi := ⟨some 35, _, _, _, _, _⟩) (v := ?_) rfl (by kernel_rfl) (by kernel_rfl) (by kernel_rfl) (fun _ _ _ h => h) (Or.inl ⟨by kernel_rfl, ?_⟩) (by assumption) ?_
      rotate_left
      · (intro wS hSw; (try dsimp only at hSw); obtain ⟨hbb, hkk⟩ := hSw; have c0 := hbb.cell 0; have c1 := hbb.cell 1; have c2 := hbb.cell 2; have c5 := hbb.cell 5; have c6 := hbb.cell 6; have c7 := hbb.cell 7; simp only [s8a] at c0 c1 c2 c5 c6 c7; clear hbb; go_simp; (try with_reducible rfl))
      (try simp only [Act.put, List.setIfInBounds_toArray, List.set_cons_zero, List.set_cons_succ])
      refine wpAnyH_take (i := 12) (oi := ⟨some 36, _, _, _, _, _⟩) (v := ?_) rfl (by kernel_rfl) (by kernel_rfl) (by kernel_rfl) (fun _ _ _ h => h) (Or.inl ⟨by kernel_rfl, ?_⟩) (by assumption) ?_
      rotate_left
      · (intro wS hSw; (try dsimp only at hSw); obtain ⟨hbb, hkk⟩ := hSw; have c0 := hbb.cell 0; have c1 := hbb.cell 1; have c2 := hbb.cell 2; have c5 := hbb.cell 5; have c6 := hbb.cell 6; have c7 := hbb.cell 7; simp only [s8a] at c0 c1 c2 c5 c6 c7; clear hbb; go_simp; (try with_reducible rfl))
      (try simp only [Act.put, List.setIfInBounds_toArray, List.set_cons_zero, List.set_cons_succ])
      refine wpAnyH_take (i := 13) (oi := ⟨some 37, _, _, _, _, _⟩) (v := ?_) rfl (by kernel_rfl) (by kernel_rfl) (by kernel_rfl) (fun _ _ _ h => h) (Or.inl ⟨by kernel_rfl, ?_⟩) (by assumption) ?_
      rotate_left
      · (intro wS hSw; (try dsimp only at hSw); obtain ⟨hbb, hkk⟩ := hSw; have c0 := hbb.cell 0; have c1 := hbb.cell 1; have c2 := hbb.cell 2; have c5 := hbb.cell 5; have c6 := hbb.cell 6; have c7 := hbb.cell 7; simp only [s8a] at c0 c1 c2 c5 c6 c7; clear hbb; go_simp; (try with_reducible rfl))
      (try simp only [Act.put, List.setIfInBounds_toArray, List.set_cons_zero, List.set_cons_succ])
      refine wpAnyH_take (i := 14) (oi := ⟨some 38, _, _, _, _, _⟩) (v := ?_) rfl (by kernel_rfl) (by kernel_rfl) (by kernel_rfl) (fun _ _ _ h => h) (Or.inl ⟨by kernel_rfl, ?_⟩) (by assumption) ?_
      rotate_left
      · (intro wS hSw; (try dsimp only at hSw); obtain ⟨hbb, hkk⟩ := hSw; have c0 := hbb.cell 0; have c1 := hbb.cell 1; have c2 := hbb.cell 2; have c5 := hbb.cell 5; have c6 := hbb.cell 6; have c7 := hbb.cell 7; simp only [s8a] at c0 c1 c2 c5 c6 c7; clear hbb; go_simp; (try with_reducible rfl))
      (try simp only [Act.put, List.setIfInBounds_toArray, List.set_cons_zero, List.set_cons_succ])
      refine wpAnyH_take (i := 15) (oi := ⟨some 39, _, _, _, _, _⟩) (v := ?_) rfl (by kernel_rfl) (by kernel_rfl) (by kernel_rfl) (fun _ _ _ h => h) (Or.inl ⟨by kernel_rfl, ?_⟩) (by assumption) ?_
      rotate_left
      · (intro wS hSw; (try dsimp only at hSw); obtain ⟨hbb, hkk⟩ := hSw; have c0 := hbb.cell 0; have c1 := hbb.cell 1; have c2 := hbb.cell 2; have c5 := hbb.cell 5; have c6 := hbb.cell 6; have c7 := hbb.cell 7; simp only [s8a] at c0 c1 c2 c5 c6 c7; clear hbb; go_simp; (try with_reducible rfl))
      (try simp only [Act.put, List.setIfInBounds_toArray, List.set_cons_zero, List.set_cons_succ])
      refine wpAnyH_take (i := 16) (oi := ⟨some 40, _, _, _, _, _⟩) (v := ?_) rfl (by kernel_rfl) (by kernel_rfl) (by kernel_rfl) (fun _ _ _ h => h) (Or.inl ⟨by kernel_rfl, ?_⟩) (by assumption) ?_
      rotate_left
      · (intro wS hSw; (try dsimp only at hSw); obtain ⟨hbb, hkk⟩ := hSw; have c0 := hbb.cell 0; have c1 := hbb.cell 1; have c2 := hbb.cell 2; have c5 := hbb.cell 5; have c6 := hbb.cell 6; have c7 := hbb.cell 7; simp only [s8a] at c0 c1 c2 c5 c6 c7; clear hbb; go_simp; (try with_reducible rfl))
      (try simp only [Act.put, List.setIfInBounds_toArray, List.set_cons_zero, List.set_cons_succ])
      refine wpAnyH_take (i := 17) (oi := ⟨some 41, _, _, _, _, _⟩) (v := ?_) rfl (by kernel_rfl) (by kernel_rfl) (by kernel_rfl) (fun _ _ _ h => h) (Or.inl ⟨by kernel_rfl, ?_⟩) (by assumption) ?_
      rotate_left
      · (intro wS hSw; (try dsimp only at hSw); obtain ⟨hbb, hkk⟩ := hSw; have c0 := hbb.cell 0; have c1 := hbb.cell 1; have c2 := hbb.cell 2; have c5 := hbb.cell 5; have c6 := hbb.cell 6; have c7 := hbb.cell 7; simp only [s8a] at c0 c1 c2 c5 c6 c7; clear hbb; go_simp; (try with_reducible rfl))
      (try simp only [Act.put, List.setIfInBounds_toArray, List.set_cons_zero, List.set_cons_succ])
      refine wpAnyH_take (i := 18) (oi := ⟨some 42, _, _, _, _, _⟩) (v := ?_) rfl (by kernel_rfl) (by kernel_rfl) (by kernel_rfl) (fun _ _ _ h => h) (Or.inl ⟨by kernel_rfl, ?_⟩) (by assumption) ?_
      rotate_left
      · (intro wS hSw; (try dsimp only at hSw); obtain ⟨hbb, hkk⟩ := hSw; have c0 := hbb.cell 0; have c1 := hbb.cell 1; have c2 := hbb.cell 2; have c5 := hbb.cell 5; have c6 := hbb.cell 6; have c7 := hbb.cell 7; simp only [s8a] at c0 c1 c2 c5 c6 c7; clear hbb; go_simp; (try with_reducible rfl))
      (try simp only [Act.put, List.setIfInBounds_toArray, List.set_cons_zero, List.set_cons_succ])
      refine wpAnyH_take (i := 19) (oi := ⟨some 43, _, _, _, _, _⟩) (v := ?_) rfl (by kernel_rfl) (by kernel_rfl) (by kernel_rfl) (fun _ _ _ h => h) (Or.inl ⟨by kernel_rfl, ?_⟩) (by assumption) ?_
      rotate_left
      · (intro wS hSw; (try dsimp only at hSw); obtain ⟨hbb, hkk⟩ := hSw; have c0 := hbb.cell 0; have c1 := hbb.cell 1; have c2 := hbb.cell 2; have c5 := hbb.cell 5; have c6 := hbb.cell 6; have c7 := hbb.cell 7; simp only [s8a] at c0 c1 c2 c5 c6 c7; clear hbb; go_simp; (try with_reducible rfl))
      (try simp only [Act.put, List.setIfInBounds_toArray, List.set_cons_zero, List.set_cons_succ])
      refine wpAnyH_take (i := 20) (oi := ⟨some 44, _, _, _, _, _⟩) (v := ?_) rfl (by kernel_rfl) (by kernel_rfl) (by kernel_rfl) (fun _ _ _ h => h) (Or.inl ⟨by kernel_rfl, ?_⟩) (by assumption) ?_
      rotate_left
      · (intro wS hSw; (try dsimp only at hSw); obtain ⟨hbb, hkk⟩ := hSw; have c0 := hbb.cell 0; have c1 := hbb.cell 1; have c2 := hbb.cell 2; have c5 := hbb.cell 5; have c6 := hbb.cell 6; have c7 := hbb.cell 7; simp only [s8a] at c0 c1 c2 c5 c6 c7; clear hbb; go_simp; (try with_reducible rfl))
      (try simp only [Act.put, List.setIfInBounds_toArray, List.set_cons_zero, List.set_cons_succ])
      refine wpAnyH_take (i := 22) (oi := ⟨some 46, _, _, _, _, _⟩) (v := ?_) rfl (by kernel_rfl) (by kernel_rfl) (by kernel_rfl) (fun _ _ _ h => h) (Or.inl ⟨by kernel_rfl, ?_⟩) (by assumption) ?_
      rotate_left
      · (intro wS hSw; (try dsimp only at hSw); obtain ⟨hbb, hkk⟩ := hSw; have c0 := hbb.cell 0; have c1 := hbb.cell 1; have c2 := hbb.cell 2; have c5 := hbb.cell 5; have c6 := hbb.cell 6; have c7 := hbb.cell 7; simp only [s8a] at c0 c1 c2 c5 c6 c7; clear hbb; go_simp; (try with_reducible rfl))
      (try simp only [Act.put, List.setIfInBounds_toArray, List.set_cons_zero, List.set_cons_succ])
      refine wpAnyH_take (i := 23) (oi := ⟨some 47, _, _, _, _, _⟩) (v := ?_) rfl (by kernel_rfl) (by kernel_rfl) (by kernel_rfl) (fun _ _ _ h => h) (Or.inl ⟨by kernel_rfl, ?_⟩) (by assumption) ?_
      rotate_left
      · (intro wS hSw; (try dsimp only at hSw); obtain ⟨hbb, hkk⟩ := hSw; have c0 := hbb.cell 0; have c1 := hbb.cell 1; have c2 := hbb.cell 2; have c5 := hbb.cell 5; have c6 := hbb.cell 6; have c7 := hbb.cell 7; simp only [s8a] at c0 c1 c2 c5 c6 c7; clear hbb; go_simp; (try with_reducible rfl))
      (try simp only [Act.put, List.setIfInBounds_toArray, List.set_cons_zero, List.set_cons_succ])
      refine wpAnyH_take (i := 24) (oi := ⟨some 48, _, _, _, _, _⟩) (v := ?_) rfl (by kernel_rfl) (by kernel_rfl) (by kernel_rfl) (fun _ _ _ h => h) (Or.inl ⟨by kernel_rfl, ?_⟩) (by assumption) ?_
      rotate_left
      · (intro wS hSw; (try dsimp only at hSw); obtain ⟨hbb, hkk⟩ := hSw; have c0 := hbb.cell 0; have c1 := hbb.cell 1; have c2 := hbb.cell 2; have c5 := hbb.cell 5; have c6 := hbb.cell 6; have c7 := hbb.cell 7; simp only [s8a] at c0 c1 c2 c5 c6 c7; clear hbb; go_simp; (try with_reducible rfl))
      (try simp only [Act.put, List.setIfInBounds_toArray, List.set_cons_zero, List.set_cons_succ])
      refine wpAnyH_take (i := 26) (oi := ⟨some 50, _, _, _, _, _⟩) (v := ?_) rfl (by kernel_rfl) (by kernel_rfl) (by kernel_rfl) (fun _ _ _ h => h) (Or.inl ⟨by kernel_rfl, ?_⟩) (by assumption) ?_
      rotate_left
      · (intro wS hSw; (try dsimp only at hSw); obtain ⟨hbb, hkk⟩ := hSw; have c0 := hbb.cell 0; have c1 := hbb.cell 1; have c2 := hbb.cell 2; have c5 := hbb.cell 5; have c6 := hbb.cell 6; have c7 := hbb.cell 7; simp only [s8a] at c0 c1 c2 c5 c6 c7; clear hbb; go_simp; (try with_reducible rfl))
      (try simp only [Act.put, List.setIfInBounds_toArray, List.set_cons_zero, List.set_cons_succ])
      refine wpAnyH_ready (rs := [3]) (by kernel_rfl) (by simp) ?_
      refine AllReadyH.cons (o := ⟨some 27, _, _, _, _, _⟩) rfl (fun K hK => ?_) AllReadyH.nil
      go_simp
      ((first | with_reducible refine (R6.out _ _).mono ?_ | with_reducible refine (R11.out _ _).mono ?_ | with_reducible refine (R25.out _ _).mono ?_); rintro e w8 ⟨rfl, rfl⟩)
      go_wp2_with fail
      refine hK.out _ _ ?_ (fun hHeld => ?_)
      · ((try dsimp only); (first | exact hst | exact hHeld))
      clear hK K
      (try simp only [Act.put, List.setIfInBounds_toArray, List.set_cons_zero, List.set_cons_succ])
      refine wpAnyH_ready (rs := [5]) (by kernel_rfl) (by simp) ?_
      refine AllReadyH.cons (o := ⟨some 29, _, _, _, _, _⟩) rfl (fun K hK => ?_) AllReadyH.nil
      go_simp
      ((first | with_reducible refine (R6.out _ _).mono ?_ | with_reducible refine (R11.out _ _).mono ?_ | with_reducible refine (R25.out _ _).mono ?_); rintro e w8 ⟨rfl, rfl⟩)
      go_wp2_with fail
      refine hK.out _ _ ?_ (fun hHeld => ?_)
      · ((try dsimp only); (first | exact hst | exact hHeld))
      clear hK K
      (try simp only [Act.put, List.setIfInBounds_toArray, List.set_cons_zero, List.set_cons_succ])
      refine wpAnyH_take (i := 6) (oi := ⟨some 30, _, _, _, _, _⟩) (v := ?_) rfl (by kernel_rfl) (by kernel_rfl) (by kernel_rfl) (fun _ _ _ h => h) (Or.inl ⟨by kernel_rfl, ?_⟩) (by assumption) ?_
      rotate_left
      · (intro wS hSw; (try dsimp only at hSw); obtain ⟨hbb, hkk⟩ := hSw; have c0 := hbb.cell 0; have c1 := hbb.cell 1; have c2 := hbb.cell 2; have c5 := hbb.cell 5; have c6 := hbb.cell 6; have c7 := hbb.cell 7; simp only [s8a] at c0 c1 c2 c5 c6 c7; clear hbb; go_simp; (try with_reducible rfl))
      (try simp only [Act.put, List.setIfInBounds_toArray, List.set_cons_zero, List.set_cons_succ])
      refine wpAnyH_ready (rs := [8]) (by kernel_rfl) (by simp) ?_
      refine AllReadyH.cons (o := ⟨some 32, _, _, _, _, _⟩) rfl (fun K hK => ?_) AllReadyH.nil
      go_simp
      ((first | with_reducible refine (R6.out _ _).mono ?_ | with_reducible refine (R11.out _ _).mono ?_ | with_reducible refine (R25.out _ _).mono ?_); rintro e w8 ⟨rfl, rfl⟩)
      go_wp2_with fail
      refine hK.out _ _ ?_ (fun hHeld => ?_)
      · ((try dsimp only); (first | exact hst | exact hHeld))
      clear hK K
      (try simp only [Act.put, List.setIfInBounds_toArray, List.set_cons_zero, List.set_cons_succ])
      refine wpAnyH_take (i := 9) (oi := ⟨some 33, _, _, _, _, _⟩) (v := ?_) rfl (by kernel_rfl) (by kernel_rfl) (by kernel_rfl) (fun _ _ _ h => h) (Or.inl ⟨by kernel_rfl, ?_⟩) (by assumption) ?_
      rotate_left
      · (intro wS hSw; (try dsimp only at hSw); obtain ⟨hbb, hkk⟩ := hSw; have c0 := hbb.cell 0; have c1 := hbb.cell 1; have c2 := hbb.cell 2; have c5 := hbb.cell 5; have c6 := hbb.cell 6; have c7 := hbb.cell 7; simp only [s8a] at c0 c1 c2 c5 c6 c7; clear hbb; go_simp; (try with_reducible rfl))
      (try simp only [Act.put, List.setIfInBounds_toArray, List.set_cons_zero, List.set_cons_succ])
      refine wpAnyH_take (i := 10) (oi := ⟨some 34, _, _, _, _, _⟩) (v := ?_) rfl (by kernel_rfl) (by kernel_rfl) (by kernel_rfl) (fun _ _ _ h => h) (Or.inl ⟨by kernel_rfl, ?_⟩) (by assumption) ?_
      rotate_left
      · (intro wS hSw; (try dsimp only at hSw); obtain ⟨hbb, hkk⟩ := hSw; have c0 := hbb.cell 0; have c1 := hbb.cell 1; have c2 := hbb.cell 2; have c5 := hbb.cell 5; have c6 := hbb.cell 6; have c7 := hbb.cell 7; simp only [s8a] at c0 c1 c2 c5 c6 c7; clear hbb; go_simp; (try with_reducible rfl))
      (try simp only [Act.put, List.setIfInBounds_toArray, List.set_cons_zero, List.set_cons_succ])
      refine wpAnyH_take (i := 21) (oi := ⟨some 45, _, _, _, _, _⟩) (v := ?_) rfl (by kernel_rfl) (by kernel_rfl) (by kernel_rfl) (fun _ _ _ h => h) (Or.inl ⟨by kernel_rfl, ?_⟩) (by assumption) ?_
      rotate_left
      · (intro wS hSw; (try dsimp only at hSw); obtain ⟨hbb, hkk⟩ := hSw; have c0 := hbb.cell 0; have c1 := hbb.cell 1; have c2 := hbb.cell 2; have c5 := hbb.cell 5; have c6 := hbb.cell 6; have c7 := hbb.cell 7; simp only [s8a] at c0 c1 c2 c5 c6 c7; clear hbb; go_simp; (try with_reducible rfl))
      (try simp only [Act.put, List.setIfInBounds_toArray, List.set_cons_zero, List.set_cons_succ])
      refine wpAnyH_take (i := 25) (oi := ⟨some 49, _, _, _, _, _⟩) (v := ?_) rfl (by kernel_rfl) (by kernel_rfl) (by kernel_rfl) (fun _ _ _ h => h) (Or.inl ⟨by kernel_rfl, ?_⟩) (by assumption) ?_
      rotate_left
      · (intro wS hSw; (try dsimp only at hSw); obtain ⟨hbb, hkk⟩ := hSw; have c0 := hbb.cell 0; have c1 := hbb.cell 1; have c2 := hbb.cell 2; have c5 := hbb.cell 5; have c6 := hbb.cell 6; have c7 := hbb.cell 7; simp only [s8a] at c0 c1 c2 c5 c6 c7; clear hbb; go_simp; (try with_reducible rfl))
      (try simp only [Act.put, List.setIfInBounds_toArray, List.set_cons_zero, List.set_cons_succ])
      refine wpAnyH_take (i := 27) (oi := ⟨some 51, _, _, _, _, _⟩) (v := ?_) rfl (by kernel_rfl) (by kernel_rfl) (by kernel_rfl) (fun _ _ _ h => h) (Or.inl ⟨by kernel_rfl, ?_⟩) (by assumption) ?_
      rotate_left
      · (intro wS hSw; (try dsimp only at hSw); obtain ⟨hbb, hkk⟩ := hSw; have c0 := hbb.cell 0; have c1 := hbb.cell 1; have c2 := hbb.cell 2; have c5 := hbb.cell 5; have c6 := hbb.cell 6; have c7 := hbb.cell 7; simp only [s8a] at c0 c1 c2 c5 c6 c7; clear hbb; go_simp; (try with_reducible rfl))
      (try simp only [Act.put, List.setIfInBounds_toArray, List.set_cons_zero, List.set_cons_succ])
      refine wpAnyH_take (i := 28) (oi := ⟨some 10, _, _, _, _, _⟩) (v := ?_) rfl (by kernel_rfl) (by kernel_rfl) (by kernel_rfl) (fun _ _ _ h => h) (Or.inl ⟨by kernel_rfl, ?_⟩) (by assumption) ?_
      rotate_left
      · (intro wS hSw; (try dsimp only at hSw); obtain ⟨hbb, hkk⟩ := hSw; have c0 := hbb.cell 0; have c1 := hbb.cell 1; have c2 := hbb.cell 2; have c5 := hbb.cell 5; have c6 := hbb.cell 6; have c7 := hbb.cell 7; simp only [s8a] at c0 c1 c2 c5 c6 c7; clear hbb; go_simp; (try with_reducible rfl))
      (try simp only [Act.put, List.setIfInBounds_toArray, List.set_cons_zero, List.set_cons_succ])
      refine wpAnyH_done (by kernel_rfl) ?_ _
      rw [ch3_alt]
      obtain ⟨xx, hxx⟩ : ∃ xx, r.h + (tr r.e 6 ^^^ tr r.e 11 ^^^ tr r.e 25) + ch3 r.e r.f r.g + kk + x = xx := ⟨_, rfl⟩
      rw [hxx]
      have HXX := Lib.hid hxx
      have HM6 := Lib.hid HM5.out.drew
      clear hst hHeld HM5 hxx
      generalize w5.drew = w6 at *
      have hst := HM6.out.b0.drew
      go_upto_region 7 with (fail)
      refine wp_region_held_drew (S := (fun W => Blk W g 222 (s8a r))) (by kernel_rfl) ?_ (fun hHeld => ?_)
      · first | exact hst | exact hHeld
      refine wpAnyH_take (i := 0) (oi := ⟨some 52, _, _, _, _, _⟩) (v := ?_) rfl (by kernel_rfl) (by kernel_rfl) (by kernel_rfl) (fun _ _ _ h => h) (Or.inl ⟨by kernel_rfl, ?_⟩) (by assumption) ?_
      rotate_left
      · (intro wS hSw; (try dsimp only at hSw); have c1 := hSw.cell 1; have c2 := hSw.cell 2; simp only [s8a] at c1 c2; clear hSw; go_simp; (try with_reducible rfl))
      (try simp only [Act.put, List.setIfInBounds_toArray, List.set_cons_zero, List.set_cons_succ])
      refine wpAnyH_take (i := 2) (oi := ⟨some 54, _, _, _, _, _⟩) (v := ?_) rfl (by kernel_rfl) (by kernel_rfl) (by kernel_rfl) (fun _ _ _ h => h) (Or.inl ⟨by kernel_rfl, ?_⟩) (by assumption) ?_
      rotate_left
      · (intro wS hSw; (try dsimp only at hSw); have c1 := hSw.cell 1; have c2 := hSw.cell 2; simp only [s8a] at c1 c2; clear hSw; go_simp; (try with_reducible rfl))
      (try simp only [Act.put, List.setIfInBounds_toArray, List.set_cons_zero, List.set_cons_succ])
      refine wpAnyH_take (i := 5) (oi := ⟨some 57, _, _, _, _, _⟩) (v := ?_) rfl (by kernel_rfl) (by kernel_rfl) (by kernel_rfl) (fun _ _ _ h => h) (Or.inl ⟨by kernel_rfl, ?_⟩) (by assumption) ?_
      rotate_left
      · (intro wS hSw; (try dsimp only at hSw); have c1 := hSw.cell 1; have c2 := hSw.cell 2; simp only [s8a] at c1 c2; clear hSw; go_simp; (try with_reducible rfl))
      (try simp only [Act.put, List.setIfInBounds_toArray, List.set_cons_zero, List.set_cons_succ])
      refine wpAnyH_take (i := 8) (oi := ⟨some 60, _, _, _, _, _⟩) (v := ?_) rfl (by kernel_rfl) (by kernel_rfl) (by kernel_rfl) (fun _ _ _ h => h) (Or.inl ⟨by kernel_rfl, ?_⟩) (by assumption) ?_
      rotate_left
      · (intro wS hSw; (try dsimp only at hSw); have c1 := hSw.cell 1; have c2 := hSw.cell 2; simp only [s8a] at c1 c2; clear hSw; go_simp; (try with_reducible rfl))
      (try simp only [Act.put, List.setIfInBounds_toArray, List.set_cons_zero, List.set_cons_succ])
      refine wpAnyH_take (i := 9) (oi := ⟨some 61, _, _, _, _, _⟩) (v := ?_) rfl (by kernel_rfl) (by kernel_rfl) (by kernel_rfl) (fun _ _ _ h => h) (Or.inl ⟨by kernel_rfl, ?_⟩) (by assumption) ?_
      rotate_left
      · (intro wS hSw; (try dsimp only at hSw); have c1 := hSw.cell 1; have c2 := hSw.cell 2; simp only [s8a] at c1 c2; clear hSw; go_simp; (try with_reducible rfl))
      (try simp only [Act.put, List.setIfInBounds_toArray, List.set_cons_zero, List.set_cons_succ])
      refine wpAnyH_take (i := 10) (oi := ⟨some 62, _, _, _, _, _⟩) (v := ?_) rfl (by kernel_rfl) (by kernel_rfl) (by kernel_rfl) (fun _ _ _ h => h) (Or.inl ⟨by kernel_rfl, ?_⟩) (by assumption) ?_
      rotate_left
      · (intro wS hSw; (try dsimp only at hSw); have c1 := hSw.cell 1; have c2 := hSw.cell 2; simp only [s8a] at c1 c2; clear hSw; go_simp; (try with_reducible rfl))
      (try simp only [Act.put, List.setIfInBounds_toArray, List.set_cons_zero, List.set_cons_succ])
      refine wpAnyH_take (i := 11) (oi := ⟨some 63, _, _, _, _, _⟩) (v := ?_) rfl (by kernel_rfl) (by kernel_rfl) (by kernel_rfl) (fun _ _ _ h => h) (Or.inl ⟨by kernel_rfl, ?_⟩) (by assumption) ?_
      rotate_left
      · (intro wS hSw; (try dsimp only at hSw); have c1 := hSw.cell 1; have c2 := hSw.cell 2; simp only [s8a] at c1 c2; clear hSw; go_simp; (try with_reducible rfl))
      (try simp only [Act.put, List.setIfInBounds_toArray, List.set_cons_zero, List.set_cons_succ])
      refine wpAnyH_take (i := 12) (oi := ⟨some 64, _, _, _, _, _⟩) (v := ?_) rfl (by kernel_rfl) (by kernel_rfl) (by kernel_rfl) (fun _ _ _ h => h) (Or.inl ⟨by kernel_rfl, ?_⟩) (by assumption) ?_
      rotate_left
      · (intro wS hSw; (try dsimp only at hSw); have c1 := hSw.cell 1; have c2 := hSw.cell 2; simp only [s8a] at c1 c2; clear hSw; go_simp; (try with_reducible rfl))
      (try simp only [Act.put, List.setIfInBounds_toArray, List.set_cons_zero, List.set_cons_succ])
      refine wpAnyH_take (i := 13) (oi := ⟨some 65, _, _, _, _, _⟩) (v := ?_) rfl (by kernel_rfl) (by kernel_rfl) (by kernel_rfl) (fun _ _ _ h => h) (Or.inl ⟨by kernel_rfl, ?_⟩) (by assumption) ?_
      rotate_left
      · (intro wS hSw; (try dsimp only at hSw); have c1 := hSw.cell 1; have c2 := hSw.cell 2; simp only [s8a] at c1 c2; clear hSw; go_simp; (try with_reducible rfl))
      (try simp only [Act.put, List.setIfInBounds_toArray, List.set_cons_zero, List.set_cons_succ])
      refine wpAnyH_take (i := 14) (oi := ⟨some 66, _, _, _, _, _⟩) (v := ?_) rfl (by kernel_rfl) (by kernel_rfl) (by kernel_rfl) (fun _ _ _ h => h) (Or.inl ⟨by kernel_rfl, ?_⟩) (by assumption) ?_
      rotate_left
      · (intro wS hSw; (try dsimp only at hSw); have c1 := hSw.cell 1; have c2 := hSw.cell 2; simp only [s8a] at c1 c2; clear hSw; go_simp; (try with_reducible rfl))
      (try simp only [Act.put, List.setIfInBounds_toArray, List.set_cons_zero, List.set_cons_succ])
      refine wpAnyH_take (i := 15) (oi := ⟨some 67, _, _, _, _, _⟩) (v := ?_) rfl (by kernel_rfl) (by kernel_rfl) (by kernel_rfl) (fun _ _ _ h => h) (Or.inl ⟨by kernel_rfl, ?_⟩) (by assumption) ?_
      rotate_left
      · (intro wS hSw; (try dsimp only at hSw); have c1 := hSw.cell 1; have c2 := hSw.cell 2; simp only [s8a] at c1 c2; clear hSw; go_simp; (try with_reducible rfl))
      (try simp only [Act.put, List.setIfInBounds_toArray, List.set_cons_zero, List.set_cons_succ])
      refine wpAnyH_take (i := 16) (oi := ⟨some 68, _, _, _, _, _⟩) (v := ?_) rfl (by kernel_rfl) (by kernel_rfl) (by kernel_rfl) (fun _ _ _ h => h) (Or.inl ⟨by kernel_rfl, ?_⟩) (by assumption) ?_
      rotate_left
      · (intro wS hSw; (try dsimp only at hSw); have c1 := hSw.cell 1; have c2 := hSw.cell 2; simp only [s8a] at c1 c2; clear hSw; go_simp; (try with_reducible rfl))
      (try simp only [Act.put, List.setIfInBounds_toArray, List.set_cons_zero, List.set_cons_succ])
      refine wpAnyH_take (i := 17) (oi := ⟨some 69, _, _, _, _, _⟩) (v := ?_) rfl (by kernel_rfl) (by kernel_rfl) (by kernel_rfl) (fun _ _ _ h => h) (Or.inl ⟨by kernel_rfl, ?_⟩) (by assumption) ?_
      rotate_left
      · (intro wS hSw; (try dsimp only at hSw); have c1 := hSw.cell 1; have c2 := hSw.cell 2; simp only [s8a] at c1 c2; clear hSw; go_simp; (try with_reducible rfl))
      (try simp only [Act.put, List.setIfInBounds_toArray, List.set_cons_zero, List.set_cons_succ])
      refine wpAnyH_take (i := 18) (oi := ⟨some 70, _, _, _, _, _⟩) (v := ?_) rfl (by kernel_rfl) (by kernel_rfl) (by kernel_rfl) (fun _ _ _ h => h) (Or.inl ⟨by kernel_rfl, ?_⟩) (by assumption) ?_
      rotate_left
      · (intro wS hSw; (try dsimp only at hSw); have c1 := hSw.cell 1; have c2 := hSw.cell 2; simp only [s8a] at c1 c2; clear hSw; go_simp; (try with_reducible rfl))
      (try simp only [Act.put, List.setIfInBounds_toArray, List.set_cons_zero, List.set_cons_succ])
      refine wpAnyH_take (i := 19) (oi := ⟨some 71, _, _, _, _, _⟩) (v := ?_) rfl (by kernel_rfl) (by kernel_rfl) (by kernel_rfl) (fun _ _ _ h => h) (Or.inl ⟨by kernel_rfl, ?_⟩) (by assumption) ?_
      rotate_left
      · (intro wS hSw; (try dsimp only at hSw); have c1 := hSw.cell 1; have c2 := hSw.cell 2; simp only [s8a] at c1 c2; clear hSw; go_simp; (try with_reducible rfl))
      (try simp only [Act.put, List.setIfInBounds_toArray, List.set_cons_zero, List.set_cons_succ])
      refine wpAnyH_ready (rs := [1]) (by kernel_rfl) (by simp) ?_
      refine AllReadyH.cons (o := ⟨some 53, _, _, _, _, _⟩) rfl (fun K hK => ?_) AllReadyH.nil
      go_simp
      ((first | with_reducible refine (R2.out _ _).mono ?_ | with_reducible refine (R13.out _ _).mono ?_ | with_reducible refine (R22.out _ _).mono ?_); rintro e w8 ⟨rfl, rfl⟩)
      go_wp2_with fail
      refine hK.out _ _ ?_ (fun hHeld => ?_)
      · ((try dsimp only); (first | exact hst | exact hHeld))
      clear hK K
      (try simp only [Act.put, List.setIfInBounds_toArray, List.set_cons_zero, List.set_cons_succ])
      refine wpAnyH_ready (rs := [3]) (by kernel_rfl) (by simp) ?_
      refine AllReadyH.cons (o := ⟨some 55, _, _, _, _, _⟩) rfl (fun K hK => ?_) AllReadyH.nil
      go_simp
      ((first | with_reducible refine (R2.out _ _).mono ?_ | with_reducible refine (R13.out _ _).mono ?_ | with_reducible refine (R22.out _ _).mono ?_); rintro e w8 ⟨rfl, rfl⟩)
      go_wp2_with fail
      refine hK.out _ _ ?_ (fun hHeld => ?_)
      · ((try dsimp only); (first | exact hst | exact hHeld))
      clear hK K
      (try simp only [Act.put, List.setIfInBounds_toArray, List.set_cons_zero, List.set_cons_succ])
      refine wpAnyH_take (i := 4) (oi := ⟨some 56, _, _, _, _, _⟩) (v := ?_) rfl (by kernel_rfl) (by kernel_rfl) (by kernel_rfl) (fun _ _ _ h => h) (Or.inl ⟨by kernel_rfl, ?_⟩) (by assumption) ?_
      rotate_left
      · (intro wS hSw; (try dsimp only at hSw); have c1 := hSw.cell 1; have c2 := hSw.cell 2; simp only [s8a] at c1 c2; clear hSw; go_simp; (try with_reducible rfl))
      (try simp only [Act.put, List.setIfInBounds_toArray, List.set_cons_zero, List.set_cons_succ])
      refine wpAnyH_ready (rs := [6]) (by kernel_rfl) (by simp) ?_
      refine AllReadyH.cons (o := ⟨some 58, _, _, _, _, _⟩) rfl (fun K hK => ?_) AllReadyH.nil
      go_simp
      ((first | with_reducible refine (R2.out _ _).mono ?_ | with_reducible refine (R13.out _ _).mono ?_ | with_reducible refine (R22.out _ _).mono ?_); rintro e w8 ⟨rfl, rfl⟩)
      go_wp2_with fail
      refine hK.out _ _ ?_ (fun hHeld => ?_)
      · ((try dsimp only); (first | exact hst | exact hHeld))
      clear hK K
      (try simp only [Act.put, List.setIfInBounds_toArray, List.set_cons_zero, List.set_cons_succ])
      refine wpAnyH_take (i := 7) (oi := ⟨some 59, _, _, _, _, _⟩) (v := ?_) rfl (by kernel_rfl) (by kernel_rfl) (by kernel_rfl) (fun _ _ _ h => h) (Or.inl ⟨by kernel_rfl, ?_⟩) (by assumption) ?_
      rotate_left
      · (intro wS hSw; (try dsimp only at hSw); have c1 := hSw.cell 1; have c2 := hSw.cell 2; simp only [s8a] at c1 c2; clear hSw; go_simp; (try with_reducible rfl))
      (try simp only [Act.put, List.setIfInBounds_toArray, List.set_cons_zero, List.set_cons_succ])
      refine wpAnyH_take (i := 20) (oi := ⟨some 72, _, _, _, _, _⟩) (v := ?_) rfl (by kernel_rfl) (by kernel_rfl) (by kernel_rfl) (fun _ _ _ h => h) (Or.inl ⟨by kernel_rfl, ?_⟩) (by assumption) ?_
      rotate_left
      · (intro wS hSw; (try dsimp only at hSw); have c1 := hSw.cell 1; have c2 := hSw.cell 2; simp only [s8a] at c1 c2; clear hSw; go_simp; (try with_reducible rfl))
      (try simp only [Act.put, List.setIfInBounds_toArray, List.set_cons_zero, List.set_cons_succ])
      refine wpAnyH_take (i := 21) (oi := ⟨some 11, _, _, _, _, _⟩) (v := ?_) rfl (by kernel_rfl) (by kernel_rfl) (by kernel_rfl) (fun _ _ _ h => h) (Or.inl ⟨by kernel_rfl, ?_⟩) (by assumption) ?_
      rotate_left
      · (intro wS hSw; (try dsimp only at hSw); have c1 := hSw.cell 1; have c2 := hSw.cell 2; simp only [s8a] at c1 c2; clear hSw; go_simp; (try with_reducible rfl))
      (try simp only [Act.put, List.setIfInBounds_toArray, List.set_cons_zero, List.set_cons_succ])
      refine wpAnyH_done (by kernel_rfl) ?_ _
      rw [mj3_alt]
      obtain ⟨yy, hyy⟩ : ∃ yy, (tr r.a 2 ^^^ tr r.a 13 ^^^ tr r.a 22) + mj3 r.a r.b r.c = yy := ⟨_, rfl⟩
      rw [hyy]
      have hrn : Hid (rnds ws s (n + 1) = ⟨xx + yy, r.a, r.b, r.c, r.d + xx, r.e, r.f, r.g⟩) := (show _ = _ from by rw [hrs.out, ← HXX.out, ← hyy]; rfl)
      have hM7 := HM6.out.drew
      clear hst hHeld HM6 hyy HXX hrs q2 q3 q4 R2 R6 R11 R13 R22 R25 hixx hix
      generalize w6.drew = w7 at *
      have hB := hM7.b0
      have c1 := hB.cell 1
      have c2 := hB.cell 2
      have c3 := hB.cell 3
      have c5 := hB.cell 5
      have c6 := hB.cell 6
      simp only [s8a] at c1 c2 c3 c5 c6
      obtain ⟨r2, hr2⟩ : ∃ r2 : S8, r2 = ⟨xx + yy, r.a, r.b, r.c, r.d + xx, r.e, r.f, r.g⟩ := ⟨_, rfl⟩
      have hra : #[wv (xx + yy), wv r.a, wv r.b, wv r.c, wv (r.d + xx), wv r.e, wv r.f, wv r.g] = s8a r2 := by rw [hr2]; rfl
      have HRA := Lib.hid hra
      clear hra
      go_wp2_with (first | (rw [HRA.out]; refine wpList_store_row rfl 222 _ _ rfl g (s8a r2) rfl rfl 222 (s8a r) hM7.b0 (by rw [(hs8 r2).out]; kernel_rfl) (by rw [(hs8 r).out, (hs8 r2).out]) (hsa r2).out ?_))
      have hM8 := hM7.row (cs' := s8a r2) 0 rfl hM7.b0.row
      subst hr2
      refine ⟨⟨n + 1, hlt, by go_num, ?_⟩, by simp [intOf]; omega⟩
      rw [hrn.out]
      exact hM8
    · obtain rfl : n = 64 := by omega
      have hst : Hid (stp s b = (rnds ws s 64).add s) := (show _ = _ from by unfold stp; rw [HWS.out])
      generalize rnds ws s 64 = r at *
      rw [← s8m_zero r s] at hM
      rw [show ((64 : Nat) : Int) = (64 : Int) from rfl]
      go_wp2_with fail
      go_loopw [92] (fun x wr => ∃ n : Nat, n ≤ 8 ∧ x = .int .i64 n ∧ Mm w wr [(g, 222, s8m r s n), (w.heap.size + 1, 222, z8a), (w.heap.size, 222, s8a s)] []) (fun x wr => 8 - (intOf x).toNat)
      case atStart => exact ⟨0, by omega, rfl, hM⟩
      case round =>
        clear hM
        obtain ⟨n, hn, rfl, hM⟩ := hrel
        by_cases hlt : n < 8
        · have hnI : (n : Int) < 8 := by omega
          have hgne : g ≠ w.heap.size := by have := hM.dis; simp at this; omega
          have hset := Lib.hid (s8m_set r s hlt)
          have hc1 := (hM.b0.drew.cell n).trans (s8m_at r s hlt)
          have hf1 := hM.b0.drew.frozen n
          have hc2 := (hM.b2.drew.cell n).trans (s8a_at s hlt)
          generalize r.l.getD n 0 = x at *
          generalize s.l.getD n 0 = y at *
          have q1 := add_wn
          have HM := Lib.hid hM
          clear hM
          go_upto_region 13 with (fail)
          refine wp_region_held_drew (S := (fun W => W.cell? ⟨w.heap.size, n, none⟩ = some (wv y))) (by kernel_rfl) ?_ (fun hHeld => ?_)
          · first | exact hc2 | exact hHeld | exact cells_other hc2 (.inl (fun e => hgne e.symm))
          refine wpAnyH_take (i := 0) (oi := ⟨some 95, _, _, _, _, _⟩) (v := ?_) rfl (by kernel_rfl) (by kernel_rfl) (by kernel_rfl) (fun _ _ _ h => h) (Or.inl ⟨by kernel_rfl, ?_⟩) (by assumption) ?_
          rotate_left
          · (intro wS hSw; (try dsimp only at hSw); skip; go_simp; (try with_reducible rfl))
          (try simp only [Act.put, List.setIfInBounds_toArray, List.set_cons_zero, List.set_cons_succ])
          refine wpAnyH_take (i := 1) (oi := ⟨some 96, _, _, _, _, _⟩) (v := ?_) rfl (by kernel_rfl) (by kernel_rfl) (by kernel_rfl) (fun _ _ _ h => h) (Or.inl ⟨by kernel_rfl, ?_⟩) (by assumption) ?_
          rotate_left
          · (intro wS hSw; (try dsimp only at hSw); skip; go_simp; (try with_reducible rfl))
          (try simp only [Act.put, List.setIfInBounds_toArray, List.set_cons_zero, List.set_cons_succ])
          refine wpAnyH_take (i := 3) (oi := ⟨some 98, _, _, _, _, _⟩) (v := ?_) rfl (by kernel_rfl) (by kernel_rfl) (by kernel_rfl) (fun _ _ _ h => h) (Or.inl ⟨by kernel_rfl, ?_⟩) (by assumption) ?_
          rotate_left
          · (intro wS hSw; (try dsimp only at hSw); skip; go_simp; (try with_reducible rfl))
          (try simp only [Act.put, List.setIfInBounds_toArray, List.set_cons_zero, List.set_cons_succ])
          refine wpAnyH_take (i := 4) (oi := ⟨some 99, _, _, _, _, _⟩) (v := ?_) rfl (by kernel_rfl) (by kernel_rfl) (by kernel_rfl) (fun _ _ _ h => h) (Or.inl ⟨by kernel_rfl, ?_⟩) (by assumption) ?_
          rotate_left
          · (intro wS hSw; (try dsimp only at hSw); skip; go_simp; (try with_reducible rfl))
          (try simp only [Act.put, List.setIfInBounds_toArray, List.set_cons_zero, List.set_cons_succ])
          refine wpAnyH_take (i := 5) (oi := ⟨some 100, _, _, _, _, _⟩) (v := ?_) rfl (by kernel_rfl) (by kernel_rfl) (by kernel_rfl) (fun _ _ _ h => h) (Or.inl ⟨by kernel_rfl, ?_⟩) (by assumption) ?_
          rotate_left
          · (intro wS hSw; (try dsimp only at hSw); skip; go_simp; (try with_reducible rfl))
          (try simp only [Act.put, List.setIfInBounds_toArray, List.set_cons_zero, List.set_cons_succ])
          refine wpAnyH_ready (rs := [2]) (by kernel_rfl) (by simp) ?_
          refine AllReadyH.cons (o := ⟨some 97, _, _, _, _, _⟩) rfl (fun K hK => ?_) AllReadyH.nil
          go_simp
          refine hK.out _ _ ?_ (fun hHeld => ?_)
          · ((try dsimp only); (first | exact hc2 | exact hHeld | exact cells_other hc2 (.inl (fun e => hgne e.symm))))
          clear hK K
          (try simp only [Act.put, List.setIfInBounds_toArray, List.set_cons_zero, List.set_cons_succ])
          refine wpAnyH_take (i := 6) (oi := ⟨some 101, _, _, _, _, _⟩) (v := ?_) rfl (by kernel_rfl) (by kernel_rfl) (by kernel_rfl) (fun _ _ _ h => h) (Or.inl ⟨by kernel_rfl, ?_⟩) (by assumption) ?_
          rotate_left
          · (intro wS hSw; (try dsimp only at hSw); skip; go_simp; (try with_reducible rfl))
          (try simp only [Act.put, List.setIfInBounds_toArray, List.set_cons_zero, List.set_cons_succ])
          refine wpAnyH_take (i := 7) (oi := ⟨some 102, _, _, _, _, _⟩) (v := ?_) rfl (by kernel_rfl) (by kernel_rfl) (by kernel_rfl) (fun _ _ _ h => h) (Or.inl ⟨by kernel_rfl, ?_⟩) (by assumption) ?_
          rotate_left
          · (intro wS hSw; (try dsimp only at hSw); skip; go_simp; (try with_reducible rfl))
          (try simp only [Act.put, List.setIfInBounds_toArray, List.set_cons_zero, List.set_cons_succ])
          refine wpAnyH_ready (rs := [8]) (by kernel_rfl) (by simp) ?_
          refine AllReadyH.cons (o := ⟨none, _, _, _, _, _⟩) rfl (fun K hK => ?_) AllReadyH.nil
          go_simp
          refine hK.out _ _ ?_ (fun hHeld => ?_)
          · ((try dsimp only); (first | exact hc2 | exact hHeld | exact cells_other hc2 (.inl (fun e => hgne e.symm))))
          clear hK K
          (try simp only [Act.put, List.setIfInBounds_toArray, List.set_cons_zero, List.set_cons_succ])
          refine wpAnyH_done (by kernel_rfl) ?_ _
          all_goals
            have h9 := (HM.out.set 0 n (wv (x + y)) rfl).drew
            rw [hset.out] at h9
            have H9 := Lib.hid h9
            clear h9 HM hset hc1 hf1 hc2 q1
            go_wp2_with fail
            go_roundw
            case rel => exact ⟨n + 1, hlt, by go_num, H9.out⟩
            case measure => simp [intOf]; omega
        · obtain rfl : n = 8 := by omega
          rw [s8m_full] at hM
          go_wp2_with (first | (refine wpl_loadG rfl 222 _ rfl ⟨g, 0, none⟩ (s8a (r.add s)) rfl hM.b0.cells _ Tryz.underlying222 rfl (by rw [(hs8 _).out]; kernel_rfl) ?_) | (refine wpList_store_row rfl 222 _ _ rfl (w.heap.size + 1) (s8a (r.add s)) rfl rfl 222 z8a hM.b1 (by rw [(hs8 _).out]; kernel_rfl) (by rw [(hs8 _).out]; rfl) (hsa _).out ?_))
          exact bodyPost_ret (res_s8 rfl rfl (g := w.heap.size + 1) hM.b1.row (hs8 _).out) rfl ⟨by rw [hst.out], below_setRow hM.bel (by omega) _⟩
end Go.Proofs.YtabnndjdkjkciaaGreatDoor

namespace Go.Proofs.YtabnndjdkjkciaaGreatDoor
open Go.RowKit
attribute [local go_sem ↓] Go.wp_at_zero Go.wp_at_succ

abbrev uv (x : W64) : Value := .int .u64 (un x)
theorem un_mul (x y : W64) : IntKind.u64.wrap (un x * un y) = un (x * y) := by
  unfold un
  rw [BitVec.toNat_mul]
  show ((x.toNat : Int) * (y.toNat : Int)) % 18446744073709551616 = _
  simp
theorem un_add (x y : W64) : IntKind.u64.wrap (un x + un y) = un (x + y) := by
  unfold un
  rw [BitVec.toNat_add]
  show ((x.toNat : Int) + (y.toNat : Int)) % 18446744073709551616 = _
  simp
theorem un_nn (x : W64) : 0 ≤ un x := by unfold un; omega
theorem un_wrap (x : W64) : IntKind.u64.wrap (un x) = un x := by
  have := x.isLt
  show un x % 18446744073709551616 = un x
  unfold un
  omega
theorem un_div (x : W64) : IntKind.u64.wrap ((un x).tdiv 4294967296) = un (x / 4294967296#64) := by
  rw [Int.tdiv_eq_ediv_of_nonneg (un_nn x)]
  exact un_wrap (x / 4294967296#64)
theorem un_mod (x : W64) : (un x).tmod 4294967296 = un (x % 4294967296#64) := by
  rw [Int.tmod_eq_emod_of_nonneg (un_nn x)]
  rfl
theorem un_half (x : W64) : IntKind.u64.wrap ((un x).tdiv 2) = un (x / 2#64) := by
  rw [Int.tdiv_eq_ediv_of_nonneg (un_nn x)]
  exact un_wrap (x / 2#64)
theorem un_lt (x y : W64) : (un x < un y) = (x < y) := by
  unfold un
  rw [BitVec.lt_def]
  exact propext Int.ofNat_lt
theorem un_eq (x y : W64) : (un x == un y) = (x == y) := by
  unfold un
  rw [Bool.eq_iff_iff]
  simp only [beq_iff_eq]
  exact ⟨fun h => BitVec.eq_of_toNat_eq (by omega), fun h => by rw [h]⟩
theorem un_zero (x : W64) : (un x == 0) = (x == 0#64) := un_eq x 0#64
set_option maxRecDepth 100000 in
theorem Times_any (a b : W64) (w : World) : Calls Tryz.prog 181 #[uv a, uv b] w fun e w' => e = .returned (.tuple #[uv (tmH a b), uv (a * b)]) ∧ w' = w := by
  have q1 := un_mul
  have q2 := un_add
  have q3 := un_div
  have q4 := un_mod
  go_enter Tryz.func181, Tryz.ntmps181
  go_wp2_with fail
  go_ret2
  exact ⟨rfl, rfl⟩
/-- the bit with which j rounds are left -/
def bitW (j : Nat) : W64 := BitVec.ofNat 64 (2 ^ j / 2)
theorem bitW_succ (j : Nat) : bitW (j + 1) = BitVec.ofNat 64 (2 ^ j) := by unfold bitW; rw [Nat.pow_succ, Nat.mul_div_cancel _ (by decide)]
theorem bitW_half {j : Nat} (h : j < 64) : bitW (j + 1) / 2#64 = bitW j := by
  rw [bitW_succ]
  unfold bitW
  have h1 : 2 ^ j < 2 ^ 64 := Nat.pow_lt_pow_right (by decide) h
  apply BitVec.eq_of_toNat_eq
  rw [BitVec.toNat_udiv, BitVec.toNat_ofNat, Nat.mod_eq_of_lt h1, BitVec.toNat_ofNat, BitVec.toNat_ofNat, Nat.mod_eq_of_lt (show 2 ^ j / 2 < 2 ^ 64 by omega)]
theorem bitW_pos {j : Nat} (h : j < 64) : 0 < un (bitW (j + 1)) := by
  rw [bitW_succ]
  have h1 : 2 ^ j < 2 ^ 64 := Nat.pow_lt_pow_right (by decide) h
  have h2 : 0 < 2 ^ j := Nat.pow_pos (by decide)
  unfold un
  rw [BitVec.toNat_ofNat, Nat.mod_eq_of_lt h1]
  omega
theorem bitW_down {j : Nat} (h : j < 64) : (un (bitW j)).toNat < (un (bitW (j + 1))).toNat := by
  have h1 : 2 ^ j < 2 ^ 64 := Nat.pow_lt_pow_right (by decide) h
  have h2 : 0 < 2 ^ j := Nat.pow_pos (by decide)
  rw [bitW_succ]
  unfold bitW un
  rw [BitVec.toNat_ofNat, BitVec.toNat_ofNat, Nat.mod_eq_of_lt h1, Nat.mod_eq_of_lt (by omega)]
  simp only [Int.toNat_natCast]
  omega
theorem lo32_wn (x : W64) : IntKind.u32.wrap (un x) = wn (BitVec.ofNat 32 x.toNat) := by
  unfold wn
  rw [BitVec.toNat_ofNat]
  show un x % 4294967296 = _
  unfold un
  simp
theorem ite_t {T : Type} {b : Bool} {X : T} {f : W64 → T} {y z : W64} (hb : b = true) (h : X = f (if b = true then y else z)) : X = f y := by rw [h, if_pos hb]
theorem ite_f {T : Type} {b : Bool} {X : T} {f : W64 → T} {y z : W64} (hb : b = false) (h : X = f (if b = true then y else z)) : X = f z := by rw [h, if_neg (by rw [hb]; decide)]
set_option maxRecDepth 100000 in
set_option maxHeartbeats 1000000 in
theorem Cube_any (p : W64) (w : World) : Calls Tryz.prog 135 #[uv p] w fun e w' => e = .returned (wv (cubeW p)) ∧ w' = w := by
  have hc0 := Lib.hid (show cubeW p = BitVec.ofNat 32 (cbGo p 36 0#64).toNat from rfl)
  have HT := Lib.hid (fun a b w => Times_any a b w)
  have q1 := un_mul
  have q2 := un_add
  have q3 := un_div
  have q4 := un_mod
  have q5 := un_half
  obtain ⟨K, hK⟩ : ∃ K, cubeW p = K := ⟨_, rfl⟩
  obtain ⟨G0, hG⟩ : ∃ G0, cbGo p 36 0#64 = G0 := ⟨_, rfl⟩
  rw [hK, hG] at hc0
  rw [hK]
  have hG0 : Hid (G0 = cbGo p 36 0#64) := hG.symm
  clear hK hG
  go_enter Tryz.func135, Tryz.ntmps135
  go_wp2_with fail
  go_loopw [3, 4] (fun x y wr => ∃ (j : Nat) (z bit : W64), j ≤ 36 ∧ x = uv z ∧ y = uv bit ∧ Hid (bit = bitW j) ∧ Hid (G0 = cbGo p j z) ∧ wr = w) (fun x y _ => (intOf y).toNat)
  case atStart => exact ⟨36, 0#64, 34359738368#64, by omega, rfl, rfl, (show _ = _ from by decide), hG0, rfl⟩
  case round =>
    obtain ⟨j, z, bit, hj, rfl, rfl, hb, hg, rfl⟩ := hrel
    cases j with
    | zero =>
      have hz : un bit = 0 := by rw [hb.out]; rfl
      have hK : Hid (K = BitVec.ofNat 32 z.toNat) := (show _ = _ from by rw [hc0.out, hg.out]; rfl)
      have hl := lo32_wn z
      rw [← hK.out] at hl
      go_wp2_with fail
      go_ret
      exact ⟨rfl, rfl⟩
    | succ j =>
      have hp : 0 < un bit := by rw [hb.out]; exact bitW_pos (by omega)
      have hd : Hid (bit / 2#64 = bitW j) := (show _ = _ from by rw [hb.out]; exact bitW_half (by omega))
      have hms : Hid ((un (bit / 2#64)).toNat < (un bit).toNat) := (show _ < _ from by rw [hd.out, hb.out]; exact bitW_down (by omega))
      have hgs : Hid (G0 = cbGo p j (if cbOk p (z + bit) = true then z + bit else z)) := (show _ = _ from by rw [hg.out, hb.out, bitW_succ]; rfl)
      have hok := Lib.hid (show cbOk p (z + bit) = (decide ((tmH (z + bit) (z + bit) * (z + bit) + tmH ((z + bit) * (z + bit)) (z + bit)) / 4294967296#64 < p) || ((tmH (z + bit) (z + bit) * (z + bit) + tmH ((z + bit) * (z + bit)) (z + bit)) / 4294967296#64 == p && (tmH (z + bit) (z + bit) * (z + bit) + tmH ((z + bit) * (z + bit)) (z + bit)) % 4294967296#64 == 0#64 && (z + bit) * (z + bit) * (z + bit) == 0#64)) from rfl)
      clear hb hg
      go_upto_region 6 with (fail)
      generalize hy : z + bit = y at *
      go_wp2_with fail
      refine (HT.out _ _ _).mono ?_
      rintro e w1 ⟨rfl, rfl⟩
      go_wp2_with fail
      refine (HT.out _ _ _).mono ?_
      rintro e w1 ⟨rfl, rfl⟩
      go_upto_region 9 with (fail)
      clear q3 q4
      generalize tmH y y * y + tmH (y * y) y = tp at *
      generalize y * y * y = l2 at *
      have q3 := un_div tp
      have q4 := un_mod tp
      generalize tp / 4294967296#64 = td at *
      generalize tp % 4294967296#64 = tm at *
      clear q1 q2
      by_cases c1 : un td < un p
      · rw [decide_eq_true (by rw [← un_lt]; exact c1 : td < p)] at hok
        have c1' : decide (un td < un p) = true := decide_eq_true c1
        clear c1
        have hg2 := Lib.hid (ite_t (hok.out.trans (by rfl)) hgs.out)
        clear hgs hok
        go_wp2_with fail
        go_roundw
        case rel => exact ⟨j, _, _, by omega, rfl, rfl, hd, hg2, by first | rfl | trivial⟩
        case measure => exact hms.out
      · rw [decide_eq_false (by rw [← un_lt]; exact c1 : ¬ td < p), ← un_eq, ← un_zero, ← un_zero] at hok
        have c1' : decide (un td < un p) = false := decide_eq_false c1
        clear c1
        cases c2 : un td == un p with
        | false =>
          rw [c2] at hok
          have hg2 := Lib.hid (ite_f (hok.out.trans (by rfl)) hgs.out)
          clear hgs hok
          go_wp2_with fail
          go_roundw
          case rel => exact ⟨j, _, _, by omega, rfl, rfl, hd, hg2, by first | rfl | trivial⟩
          case measure => exact hms.out
        | true =>
          rw [c2] at hok
          cases c3 : un tm == 0 with
          | false =>
            rw [c3] at hok
            have hg2 := Lib.hid (ite_f (hok.out.trans (by rfl)) hgs.out)
            clear hgs hok
            go_wp2_with fail
            go_roundw
            case rel => exact ⟨j, _, _, by omega, rfl, rfl, hd, hg2, by first | rfl | trivial⟩
            case measure => exact hms.out
          | true =>
            rw [c3] at hok
            cases c4 : un l2 == 0 with
            | false =>
              rw [c4] at hok
              have hg2 := Lib.hid (ite_f (hok.out.trans (by rfl)) hgs.out)
              clear hgs hok
              go_wp2_with fail
              go_roundw
              case rel => exact ⟨j, _, _, by omega, rfl, rfl, hd, hg2, by first | rfl | trivial⟩
              case measure => exact hms.out
            | true =>
              rw [c4] at hok
              have hg2 := Lib.hid (ite_t (hok.out.trans (by rfl)) hgs.out)
              clear hgs hok
              go_wp2_with fail
              go_roundw
              case rel => exact ⟨j, _, _, by omega, rfl, rfl, hd, hg2, by first | rfl | trivial⟩
              case measure => exact hms.out
set_option maxRecDepth 100000 in
set_option maxHeartbeats 1000000 in
theorem Square_any (p : W64) (w : World) : Calls Tryz.prog 137 #[uv p] w fun e w' => e = .returned (wv (squareW p)) ∧ w' = w := by
  have hc0 := Lib.hid (show squareW p = BitVec.ofNat 32 (sqGo p 37 0#64).toNat from rfl)
  have HT := Lib.hid (fun a b w => Times_any a b w)
  have q2 := un_add
  have q5 := un_half
  obtain ⟨K, hK⟩ : ∃ K, squareW p = K := ⟨_, rfl⟩
  obtain ⟨G0, hG⟩ : ∃ G0, sqGo p 37 0#64 = G0 := ⟨_, rfl⟩
  rw [hK, hG] at hc0
  rw [hK]
  have hG0 : Hid (G0 = sqGo p 37 0#64) := hG.symm
  clear hK hG
  go_enter Tryz.func137, Tryz.ntmps137
  go_wp2_with fail
  go_loopw [3, 4] (fun x y wr => ∃ (j : Nat) (z bit : W64), j ≤ 37 ∧ x = uv z ∧ y = uv bit ∧ Hid (bit = bitW j) ∧ Hid (G0 = sqGo p j z) ∧ wr = w) (fun x y _ => (intOf y).toNat)
  case atStart => exact ⟨37, 0#64, 68719476736#64, by omega, rfl, rfl, (show _ = _ from by decide), hG0, rfl⟩
  case round =>
    obtain ⟨j, z, bit, hj, rfl, rfl, hb, hg, rfl⟩ := hrel
    cases j with
    | zero =>
      have hz : un bit = 0 := by rw [hb.out]; rfl
      have hK : Hid (K = BitVec.ofNat 32 z.toNat) := (show _ = _ from by rw [hc0.out, hg.out]; rfl)
      have hl := lo32_wn z
      rw [← hK.out] at hl
      go_wp2_with fail
      go_ret
      exact ⟨rfl, rfl⟩
    | succ j =>
      have hp : 0 < un bit := by rw [hb.out]; exact bitW_pos (by omega)
      have hd : Hid (bit / 2#64 = bitW j) := (show _ = _ from by rw [hb.out]; exact bitW_half (by omega))
      have hms : Hid ((un (bit / 2#64)).toNat < (un bit).toNat) := (show _ < _ from by rw [hd.out, hb.out]; exact bitW_down (by omega))
      have hgs : Hid (G0 = sqGo p j (if sqOk p (z + bit) = true then z + bit else z)) := (show _ = _ from by rw [hg.out, hb.out, bitW_succ]; rfl)
      have hok := Lib.hid (show sqOk p (z + bit) = (decide (tmH (z + bit) (z + bit) < p) || (tmH (z + bit) (z + bit) == p && (z + bit) * (z + bit) == 0#64)) from rfl)
      have q2' := un_add z bit
      clear hb hg
      generalize hy : z + bit = y at *
      clear q2
      go_wp2_with fail
      refine (HT.out _ _ _).mono ?_
      rintro e w1 ⟨rfl, rfl⟩
      go_upto_region 6 with (fail)
      generalize tmH y y = td at *
      generalize y * y = l2 at *
      by_cases c1 : un td < un p
      · rw [decide_eq_true (by rw [← un_lt]; exact c1 : td < p)] at hok
        have c1' : decide (un td < un p) = true := decide_eq_true c1
        clear c1
        have hg2 := Lib.hid (ite_t (hok.out.trans (by rfl)) hgs.out)
        clear hgs hok
        go_wp2_with fail
        go_roundw
        case rel => exact ⟨j, _, _, by omega, rfl, rfl, hd, hg2, by first | rfl | trivial⟩
        case measure => exact hms.out
      · rw [decide_eq_false (by rw [← un_lt]; exact c1 : ¬ td < p), ← un_eq, ← un_zero] at hok
        have c1' : decide (un td < un p) = false := decide_eq_false c1
        clear c1
        cases c2 : un td == un p with
        | false =>
          rw [c2] at hok
          have hg2 := Lib.hid (ite_f (hok.out.trans (by rfl)) hgs.out)
          clear hgs hok
          go_wp2_with fail
          go_roundw
          case rel => exact ⟨j, _, _, by omega, rfl, rfl, hd, hg2, by first | rfl | trivial⟩
          case measure => exact hms.out
        | true =>
          rw [c2] at hok
          cases c4 : un l2 == 0 with
          | false =>
            rw [c4] at hok
            have hg2 := Lib.hid (ite_f (hok.out.trans (by rfl)) hgs.out)
            clear hgs hok
            go_wp2_with fail
            go_roundw
            case rel => exact ⟨j, _, _, by omega, rfl, rfl, hd, hg2, by first | rfl | trivial⟩
            case measure => exact hms.out
          | true =>
            rw [c4] at hok
            have hg2 := Lib.hid (ite_t (hok.out.trans (by rfl)) hgs.out)
            clear hgs hok
            go_wp2_with fail
            go_roundw
            case rel => exact ⟨j, _, _, by omega, rfl, rfl, hd, hg2, by first | rfl | trivial⟩
            case measure => exact hms.out
set_option maxRecDepth 100000 in
set_option maxHeartbeats 1000000 in
theorem Prime_any (k : Nat) (hk : k < 64) (w : World) : Calls Tryz.prog 136 #[.int .i64 k] w fun e w' => e = .returned (.int .u64 (prN (k + 1))) ∧ w' = w := by
  have hP := Lib.hid (@prN_inc)
  have hL := Lib.hid (@prN_le)
  have h0 := Lib.hid (show prN 0 = 1 from rfl)
  go_enter Tryz.func136, Tryz.ntmps136
  go_wp2_with fail
  go_loopw [4, 3] (fun x y wr => ∃ (i : Nat), i ≤ k + 1 ∧ x = .int .i64 i ∧ y = .int .u64 (prN i) ∧ wr = w) (fun x _ _ => k + 1 - (intOf x).toNat)
  case atStart => exact ⟨0, by omega, rfl, by rw [h0.out]; rfl, rfl⟩
  case round =>
    obtain ⟨i, hi, rfl, rfl, rfl⟩ := hrel
    rcases Nat.lt_or_ge i (k + 1) with hlt | hge
    · have hI : (i : Int) ≤ (k : Int) := by omega
      have hi64 : i < 64 := by omega
      have h1 := hL.out i (by omega)
      have h2 := hP.out i hi64
      have h3 := hL.out (i + 1) (by omega)
      obtain ⟨a, ha⟩ : ∃ a, prN i = a := ⟨_, rfl⟩
      obtain ⟨b, hb⟩ : ∃ b, prN (i + 1) = b := ⟨_, rfl⟩
      have hcp := fun n (hn : n < 312) (g1 : prN i < n) (g2 : n < prN (i + 1)) => prN_comp hi64 hn g1 g2
      have hpp := fun d (hd : d < 18) (g1 : 2 ≤ d) (g2 : d * d ≤ prN (i + 1)) => prN_pr hi64 hd g1 g2
      rw [ha] at h1 h2 hcp
      rw [hb] at h2 h3 hcp hpp
      have HB := Lib.hid hb
      have HA := Lib.hid ha
      have HC := Lib.hid hcp
      have HPP := Lib.hid hpp
      rw [ha]
      clear ha hb hcp hpp
      have hw1 : IntKind.u64.wrap ((a : Int) + 1) = ((a + 1 : Nat) : Int) := by show ((a : Int) + 1) % 18446744073709551616 = _; omega
      rename World => wh
      go_wp2_with fail
      go_loopw [3, 5] (fun x y wr => ∃ (n d : Nat), x = .int .u64 n ∧ y = .int .u64 d ∧ a < n ∧ n ≤ b ∧ 2 ≤ d ∧ d ≤ 18 ∧ Hid (∀ q, 2 ≤ q → q < d → n % q ≠ 0) ∧ wr = wh) (fun x y _ => (312 - (intOf x).toNat) * 100 + (30 - (intOf y).toNat))
      case atStart => exact ⟨a + 1, 2, by go_num, rfl, by omega, by omega, by omega, by omega, (show ∀ q, _ from fun q h1 h2 => by omega), rfl⟩
      case round =>
        obtain ⟨n, d, rfl, rfl, han, hnb, hd2, hd18, hno, rfl⟩ := hrel
        clear hw1
        obtain ⟨dd, hdd⟩ : ∃ dd, d * d = dd := ⟨_, rfl⟩
        have hddl : dd ≤ 324 := by rw [← hdd]; exact Nat.mul_le_mul hd18 hd18
        have hw2 : IntKind.u64.wrap ((d : Int) * (d : Int)) = (dd : Int) := by
          rw [show (d : Int) * (d : Int) = (dd : Int) from by rw [← hdd]; simp]
          show (dd : Int) % 18446744073709551616 = _
          omega
        have hdz : ¬ (d : Int) = 0 := by omega
        by_cases hle : dd ≤ n
        · have hleI : (dd : Int) ≤ (n : Int) := by omega
          have hd17 : d ≤ 17 := by
            rcases Nat.lt_or_ge d 18 with h | h
            · omega
            · have : 18 * 18 ≤ d * d := Nat.mul_le_mul h h
              omega
          by_cases hm : n % d = 0
          · have hmI : ((n : Int).tmod (d : Int) == 0) = true := by
              rw [Int.tmod_eq_emod_of_nonneg (by omega)]
              have : (n : Int) % (d : Int) = 0 := by omega
              simpa using this
            have hnb2 : n < b := by
              rcases Nat.lt_or_ge n b with h | h
              · exact h
              · obtain rfl : n = b := by omega
                exact absurd hm (HPP.out d (by omega) hd2 (by omega))
            have hw3 : IntKind.u64.wrap ((n : Int) + 1) = (n : Int) + 1 := by show ((n : Int) + 1) % 18446744073709551616 = _; omega
            clear hdd hno
            go_wp2_with fail
            go_roundw
            case rel => exact ⟨n + 1, 2, by go_num, rfl, by omega, by omega, by omega, by omega, (show ∀ q, _ from fun q h1 h2 => by omega), by first | rfl | trivial⟩
            case measure => simp [intOf]; omega
          · have hmI : ((n : Int).tmod (d : Int) == 0) = false := by
              rw [Int.tmod_eq_emod_of_nonneg (by omega)]
              have : ¬ (n : Int) % (d : Int) = 0 := by omega
              simpa using this
            have hw3 : IntKind.u64.wrap ((d : Int) + 1) = (d : Int) + 1 := by show ((d : Int) + 1) % 18446744073709551616 = _; omega
            have hno2 := Lib.hid (show ∀ q, 2 ≤ q → q < d + 1 → n % q ≠ 0 from fun q h1 h2 => by
              rcases Nat.lt_or_ge q d with h | h
              · exact hno.out q h1 h
              · obtain rfl : q = d := by omega
                exact hm)
            clear hdd hno
            go_wp2_with fail
            go_roundw
            case rel => exact ⟨n, d + 1, rfl, by go_num, by omega, by omega, by omega, by omega, hno2, by first | rfl | trivial⟩
            case measure => simp [intOf]; omega
        · have hleI : (n : Int) < (dd : Int) := by omega
          have hnb2 : Hid (n = prN (i + 1)) := (show _ = _ from by
            rw [HB.out]
            rcases Nat.lt_or_ge n b with h | h
            · obtain ⟨q, h1, h2, h3, h4⟩ := HC.out n (by omega) han h
              have hqd : q < d := by
                rcases Nat.lt_or_ge q d with h5 | h5
                · exact h5
                · have := Nat.mul_le_mul h5 h5
                  omega
              exact absurd h4 (hno.out q h2 hqd)
            · omega)
          clear hdd hno
          go_wp2_with fail
          exact ⟨⟨i + 1, hlt, by go_num, by rw [hnb2.out], trivial⟩, by simp [intOf]; omega⟩
    · obtain rfl : i = k + 1 := by omega
      rw [show (((k + 1 : Nat)) : Int) = (k : Int) + 1 from rfl]
      go_wp2_with fail
      go_ret
      exact ⟨rfl, rfl⟩
abbrev wvs (l : List W32) : List Value := l.map wv
theorem w32_info : (Tryz.prog.info? 221).map (fun i => (i.zero, i.size, i.bytes)) = some (some (.int .u32 0), 1, 4) := by kernel_rfl
theorem one_wvs (l : List W32) : ∀ u ∈ wvs l, u.oneCell' = true := by
  intro u hu
  obtain ⟨x, _, rfl⟩ := List.mem_map.1 hu
  rfl
abbrev OwnW (w : World) (base : Nat) (A : Option Addr) (c : Nat) (l : List W32) : Prop := Own w base 221 1 A l.length c (wvs l)
abbrev SlW (w : World) (A : Option Addr) (c : Nat) (l : List W32) : Prop := Sl w 1 A l.length c (wvs l)
/-- append of words: what comes out under one name -/
theorem wpl_words {w : World} {ops : Array Oper} {rest : List Oper} {o : Oper} {a : Act} {Q : Exit → Act → World → Prop} (hgd : o.guard = none) (s x : Operand)
    (ho : o.op = .call { callee := .builtin .append, args := #[s, x], argTypes := #[139, 139] })
    (base : Nat) (A : Option Addr) (c : Nat) (l : List W32) (hs : a.eval s = .slice A l.length c) (hown : OwnW w base A c l)
    (A2 : Option Addr) (c2 n2 : Nat) (l2 : List W32) (hn2 : n2 = l2.length) (hx : a.eval x = .slice A2 n2 c2) (hr : SlW w A2 c2 l2)
    (hlen : l.length + l2.length ≤ 1000000) (hbase : base ≤ w.heap.size)
    (h : ∀ A' c' (m : List W32) w', Hid (m = l ++ l2) → OwnW w' base A' c' m → w.grownBy w' (A.map (·.block)) → (A'.map (·.block) = A.map (·.block) ∨ A'.map (·.block) = some w.heap.size) → Below base w w' → wpList Tryz.prog ops Q rest (a.put o.dst (.slice A' m.length c')) w') : wpList Tryz.prog ops Q (o :: rest) a w := by
  subst hn2
  obtain ⟨i0, hi, hz0, hz1, hz2⟩ := info_parts w32_info
  refine wpl_append hgd s x 139 ho base 221 i0 (.int .u32 0) 1 4 Tryz.underlying139 hi hz0 hz1 hz2 rfl (by decide) A l.length c (wvs l) hs hown A2 l2.length c2 (wvs l2) hx hr (one_wvs l2) (by omega) (by simp only [maxLen]; omega) hbase ?_
  intro A' c' w' hap
  rw [← List.length_append]
  refine h A' c' (l ++ l2) w' rfl ?_ hap.grown hap.place (hap.below hown hbase)
  have := hap.own
  simpa [OwnW] using this
def cubeN (t : Nat) : W32 := cubeW (BitVec.ofNat 64 (prN (t + 1)))
def squareN (t : Nat) : W32 := squareW (BitVec.ofNat 64 (prN (t + 1)))
theorem pr_un (k : Nat) (hk : k < 64) : ((prN (k + 1) : Nat) : Int) = un (BitVec.ofNat 64 (prN (k + 1))) := by
  have := prN_le (k + 1) (by omega)
  unfold un
  rw [BitVec.toNat_ofNat, Nat.mod_eq_of_lt (by omega)]
set_option maxRecDepth 100000 in
set_option maxHeartbeats 1000000 in
theorem Tables_any (w : World) : Calls Tryz.prog 65 #[] w fun e w' => ∃ A c m B d r, e = .returned (.tuple #[.slice A (List.length m) c, .slice B (List.length r) d]) ∧ Hid (m = shaK) ∧ Hid (r = shaH.l) ∧ OwnW w' w.heap.size A c m ∧ SlW w' B d r ∧ Below w.heap.size w w' := by
  have hPr := Lib.hid (fun (k : Nat) (hk : k < 64) (w : World) => show Calls Tryz.prog 136 #[.int .i64 k] w fun e w' => e = .returned (uv (BitVec.ofNat 64 (prN (k + 1)))) ∧ w' = w from by have h9 := Prime_any k hk w; rw [pr_un k hk] at h9; exact h9)
  have hCu := Lib.hid (fun p w => Cube_any p w)
  have hSq := Lib.hid (fun p w => Square_any p w)
  have hL0 : OwnW ((w.alloc (.cells #[] 221)).alloc (.cells #[] 221)) w.heap.size (some ⟨w.heap.size, 0, none⟩) 0 [] := World.ownsRow.alloc (Own.lit 1 (Nat.le_refl _)) _
  have hR0 : OwnW ((w.alloc (.cells #[] 221)).alloc (.cells #[] 221)) (w.heap.size + 1) (some ⟨w.heap.size + 1, 0, none⟩) 0 [] := by
    have h9 := Own.lit (w := w.alloc (.cells #[] 221)) (base := w.heap.size + 1) (e := 221) 1 (by simp)
    rw [show (w.alloc (.cells #[] 221)).heap.size = w.heap.size + 1 from by simp] at h9
    exact h9
  have hb0 := bel_alloc (below_new w (.cells #[] 221)) (.cells #[] 221)
  go_enter Tryz.func65, Tryz.ntmps65
  go_wp2_with fail
  go_loopw [4, 2] (fun x y wr => ∃ (i : Nat) (A : Option Addr) (c : Nat) (m : List W32), i ≤ 64 ∧ x = .int .i64 i ∧ y = .slice A m.length c ∧ m.length = i ∧ Hid (m = (List.range i).map cubeN) ∧ OwnW wr w.heap.size A c m ∧ OwnW wr (w.heap.size + 1) (some ⟨w.heap.size + 1, 0, none⟩) 0 [] ∧ A.map (·.block) ≠ some (w.heap.size + 1) ∧ Below w.heap.size w wr) (fun x _ _ => 64 - (intOf x).toNat)
  case atStart => exact ⟨0, _, _, [], by omega, rfl, rfl, rfl, Lib.hid rfl, hL0, hR0, by simp, hb0⟩
  case round =>
    clear hL0 hR0 hb0
    obtain ⟨i, A, c, m, hi, rfl, rfl, hml, hm, ho, hr, hne, hb⟩ := hrel
    have hlr := hr.lt (w.heap.size + 1) rfl
    by_cases hlt : i < 64
    · have hI : (i : Int) < 64 := by omega
      have HML := Lib.hid hml
      clear hml
      go_wp2_with fail
      refine (hPr.out i hlt _).mono ?_
      rintro e w1 ⟨rfl, rfl⟩
      go_wp2_with fail
      refine (hCu.out _ _).mono ?_
      rintro e w1 ⟨rfl, rfl⟩
      have hcn := Lib.hid (show cubeW (BitVec.ofNat 64 (prN (i + 1))) = cubeN i from rfl)
      generalize cubeW (BitVec.ofNat 64 (prN (i + 1))) = x at *
      have hoa := World.ownsRow.alloc ho (.cells #[wv x] 221)
      have hra := World.ownsRow.alloc hr (.cells #[wv x] 221)
      have hba := bel_alloc hb (.cells #[wv x] 221)
      have hln : m.length + [x].length ≤ 1000000 := by have := HML.out; simp; omega
      go_wp2_with (at_builtin; go_must (refine wpl_words rfl _ _ rfl w.heap.size A c m rfl hoa (some ⟨w1.heap.size, 0, none⟩) 1 1 [x] rfl rfl Sl.one hln hba.size ?_; intro A2 c2 m2 w2 hm2 ho2 hg2 hp2 hb2))
      have hl2 : m2.length = i + 1 := by rw [hm2.out, List.length_append, HML.out]; rfl
      refine ⟨⟨i + 1, A2, c2, m2, hlt, by go_num, rfl, hl2, (show _ = _ from by rw [hm2.out, hm.out, hcn.out, List.range_succ, List.map_append]; rfl), ho2, World.ownsRow.kept hra hg2 (.inr (by rw [ownBlock_slice]; exact fun e => hne e.symm)), ?_, hba.trans hb2⟩, by simp [intOf]; omega⟩
      rcases hp2 with h | h
      · rw [h]; exact hne
      · rw [h]; intro e; injection e with e; simp at e; omega
    · obtain rfl : i = 64 := by omega
      have hmk : Hid (m = shaK) := (show _ = _ from by rw [hm.out]; exact cubes_are)
      have hm64 : m.length ≤ 64 := by omega
      rw [show ((64 : Nat) : Int) = 64 from rfl]
      have HO := Lib.hid ho
      have HB := Lib.hid hb
      have HLR := Lib.hid hlr
      clear hm ho hb hml hlr
      rename World => wh
      go_wp2_with fail
      go_loopw [5, 3] (fun x y wr => ∃ (i : Nat) (B : Option Addr) (d : Nat) (r : List W32), i ≤ 8 ∧ x = .int .i64 i ∧ y = .slice B r.length d ∧ r.length = i ∧ Hid (r = (List.range i).map squareN) ∧ OwnW wr (w.heap.size + 1) B d r ∧ OwnW wr w.heap.size A c m ∧ (∀ k, B.map (·.block) = some k → A.map (·.block) ≠ some k) ∧ Below w.heap.size w wr ∧ w.heap.size + 1 ≤ wr.heap.size) (fun x _ _ => 8 - (intOf x).toNat)
      case atStart => exact ⟨0, _, _, [], by omega, rfl, rfl, rfl, Lib.hid rfl, hr, HO.out, (fun k hk => by simp at hk; subst hk; exact hne), HB.out, by have := HLR.out.2; omega⟩
      case round =>
        clear hr HO HB HLR
        obtain ⟨i, B, d, r, hi, rfl, rfl, hml, hr2, ho2, hoA, hap, hb, hlo⟩ := hrel
        by_cases hlt : i < 8
        · have hI : (i : Int) < 8 := by omega
          have HML := Lib.hid hml
          clear hml
          go_wp2_with fail
          refine (hPr.out i (by omega) _).mono ?_
          rintro e w1 ⟨rfl, rfl⟩
          go_wp2_with fail
          refine (hSq.out _ _).mono ?_
          rintro e w1 ⟨rfl, rfl⟩
          have hcn := Lib.hid (show squareW (BitVec.ofNat 64 (prN (i + 1))) = squareN i from rfl)
          generalize squareW (BitVec.ofNat 64 (prN (i + 1))) = x at *
          have hoa := World.ownsRow.alloc ho2 (.cells #[wv x] 221)
          have hAa := World.ownsRow.alloc hoA (.cells #[wv x] 221)
          have hba := bel_alloc hb (.cells #[wv x] 221)
          have hln : r.length + [x].length ≤ 1000000 := by have := HML.out; simp; omega
          have hlb : w.heap.size + 1 ≤ (w1.alloc (.cells #[wv x] 221)).heap.size := by simp; omega
          go_wp2_with (at_builtin; go_must (refine wpl_words rfl _ _ rfl (w.heap.size + 1) B d r rfl hoa (some ⟨w1.heap.size, 0, none⟩) 1 1 [x] rfl rfl Sl.one hln hlb ?_; intro A2 c2 m2 w2 hm2 ho3 hg2 hp2 hb2))
          have hl2 : m2.length = i + 1 := by rw [hm2.out, List.length_append, HML.out]; rfl
          have hA2 : OwnW w2 w.heap.size A c m := World.ownsRow.kept hAa hg2 (by
            rw [ownBlock_slice]
            cases hBb : B.map (·.block) with
            | none => cases hAm : A.map (·.block) with
              | none => exact .inl rfl
              | some k => exact .inr (by simp)
            | some k => exact .inr (hap k hBb))
          refine ⟨⟨i + 1, A2, c2, m2, hlt, by go_num, rfl, hl2, (show _ = _ from by rw [hm2.out, hr2.out, hcn.out, List.range_succ, List.map_append]; rfl), ho3, hA2, ?_, hba.trans (hb2.mono (by omega)), by have := hb2.size; omega⟩, by simp [intOf]; omega⟩
          intro k hk
          rcases hp2 with h | h
          · exact hap k (by rw [← h]; exact hk)
          · rw [h] at hk
            injection hk with hk
            intro e
            have := (hoA.lt k e).2
            simp at hk
            omega
        · obtain rfl : i = 8 := by omega
          have hrk : Hid (r = shaH.l) := (show _ = _ from by rw [hr2.out]; exact squares_are)
          clear hml hr2
          rw [show ((8 : Nat) : Int) = 8 from rfl]
          go_wp2_with fail
          go_ret2
          exact ⟨A, c, m, B, d, r, rfl, hmk, hrk, hoA, Own.sl ho2, hb⟩
end Go.Proofs.YtabnndjdkjkciaaGreatDoor
