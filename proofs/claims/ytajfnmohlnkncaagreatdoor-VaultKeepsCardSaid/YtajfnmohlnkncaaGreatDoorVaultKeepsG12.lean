/- WHAT IT HOLDS: a block of sha, as package sha takes it: walked. | WHAT IT HOLDS: what stands behind a text of sha: walked. | WHAT IT HOLDS: slices.Chunk of bytes: the function, and what it hands to a loop's body: walked. -/
import Derived.Test.YtajfnmohlnkncaaGreatDoorVaultKeepsG01
import Derived.Test.YtajfnmohlnkncaaGreatDoorVaultKeepsG11
import Derived.RangeFuncNested
import Derived.RangeFuncBound
import Derived.RangeFuncCalls
import Derived.RangeFuncLeaves
import Derived.Shelf.Abstract
import Derived.Shelf.RegionOpen
import Derived.OwnWalkIn
import Derived.TacticsInMore
import Derived.LoopNIn
import Derived.LoopIn
namespace Go.Proofs.YtajfnmohlnkncaaGreatDoor
section
open Go.RowKit
attribute [local go_sem ↓] Go.wp_at_zero Go.wp_at_succ
def s8a (s : S8) : Array Value := #[wv s.a, wv s.b, wv s.c, wv s.d, wv s.e, wv s.f, wv s.g, wv s.h]
def z8a : Array Value := #[.int .u32 0, .int .u32 0, .int .u32 0, .int .u32 0, .int .u32 0, .int .u32 0, .int .u32 0, .int .u32 0]
theorem s8a_size (s : S8) : (s8a s).size = 8 := rfl
theorem s8a_all (s : S8) : (s8a s).all (·.oneCell') = true := by unfold s8a; simp [Value.oneCell']
def s8m (s t : S8) (k : Nat) : Array Value := ((List.range 8).map fun i => wv (if i < k then s.l.getD i 0 + t.l.getD i 0 else s.l.getD i 0)).toArray
theorem s8m_zero (s t : S8) : s8m s t 0 = s8a s := rfl
theorem s8m_full (s t : S8) : s8m s t 8 = s8a (s.add t) := rfl
theorem s8_lt {k : Nat} (h : k < 8) : k = 0 ∨ k = 1 ∨ k = 2 ∨ k = 3 ∨ k = 4 ∨ k = 5 ∨ k = 6 ∨ k = 7 := by omega
theorem s8m_at (s t : S8) {k : Nat} (h : k < 8) : (s8m s t k)[k]? = some (wv (s.l.getD k 0)) := by
 rcases s8_lt h with rfl | rfl | rfl | rfl | rfl | rfl | rfl | rfl <;> rfl
theorem s8a_at (s : S8) {k : Nat} (h : k < 8) : (s8a s)[k]? = some (wv (s.l.getD k 0)) := by
 rcases s8_lt h with rfl | rfl | rfl | rfl | rfl | rfl | rfl | rfl <;> rfl
theorem s8m_set (s t : S8) {k : Nat} (h : k < 8) : (s8m s t k).setIfInBounds k (wv (s.l.getD k 0 + t.l.getD k 0)) = s8m s t (k + 1) := by
 rcases s8_lt h with rfl | rfl | rfl | rfl | rfl | rfl | rfl | rfl <;> rfl
theorem ix_word {P : Program} {N n : Nat} (t e : TypeId) (hu : P.underlying t = some (.array N e)) (he : P.underlying e = some (.int .u32)) (hs : (P.info? e).map (·.size) = some 1) (cs : Array Value) (x : W32) (hv : cs[n]? = some (wv x)) (hn : n < N) (w : World) :
 (Instr.index t (.agg cs) (.int .i64 n)).run P w = .ok (wv x) w := by
 have hagg : (isAgg e).run P w = .ok false w := by
  unfold isAgg
  rw [Sem.run_bind, run_underlying he w]
  rfl
 have hso : (sizeOf e).run P w = .ok 1 w := by
  cases hq : P.info? e with
  | none => simp [hq] at hs
  | some i =>
   have : i.size = 1 := by simpa [hq] using hs
   simp [sizeOf, typeInfo, hq, this]
 have hp : (part e cs (n * 1)).run P w = .ok (wv x) w := by
  unfold part
  rw [Sem.run_bind, hagg]
  simp [hv]
 have hnI : (n : Int) < N := by omega
 simp [Instr.index, run_underlying hu, asIntOf, hso, Sem.run_bind]
 rw [if_pos hn]
 simpa using hp
structure Shg (w : World) : Prop where
 k : ∀ i, i < 64 → w.cell? ⟨1, i, none⟩ = some (wv (shaK.getD i 0))
 f : ∀ i, i < 8 → w.cell? ⟨0, i, none⟩ = some (wv (shaH.l.getD i 0))
theorem Shg.lt {w : World} (h : Shg w) : 1 < w.heap.size ∧ 0 < w.heap.size := ⟨World.block_lt_of_cell? _ _ (h.k 0 (by decide)), World.block_lt_of_cell? _ _ (h.f 0 (by decide))⟩
theorem Shg.below {w w' : World} (h : Shg w) (hb : Below w.heap.size w w') : Shg w' :=
 ⟨fun i hi => (hb.cell (p := ⟨1, i, none⟩) h.lt.1).trans (h.k i hi), fun i hi => (hb.cell (p := ⟨0, i, none⟩) h.lt.2).trans (h.f i hi)⟩
theorem res_s8 {fn : Func} {a : Nat} {tmps : Array Value} {w : World} {g : Nat} {cs : Array Value} (hres : fn.results = #[.cell a 199]) (ha : tmps.getD a undef = .pointer (some ⟨g, 0, none⟩)) (hB : Blk w g 199 cs) (hs : cs.size = 8) : (results fn tmps).run Tryz.prog w = .ok (.agg cs) w := by
 have h := run_loadVar_at (P := Tryz.prog) w ⟨g, 0, none⟩ 199 cs hB.cells _ Tryz.underlying199 rfl (by rw [hs]; kernel_rfl)
 have ha' : tmps[a]?.getD undef = .pointer (some ⟨g, 0, none⟩) := by simpa using ha
 simp [results, hres, asAddr, h, ha']
set_option maxRecDepth 100000 in
set_option maxHeartbeats 1000000 in
theorem Step_any {A : Option Addr} {c : Nat} (s : S8) (b : List UInt8) (w : World) (h : SlB w A c b) (hl : b.length = 64) (hG : Shg w) :
 Calls Tryz.prog 135 #[.agg (s8a s), .slice A b.length c] w fun e w' => e = .returned (.agg (s8a (stp s b))) ∧ Below w.heap.size w w' := by
 have hM := ((Mm.start w).alloc (s8a s) 199).alloc z8a 199
 rw [show (w.alloc (.cells (s8a s) 199)).heap.size = w.heap.size + 1 from by simp] at hM
 have hz : ((w.alloc (.cells (s8a s) 199)).alloc (.cells z8a 199)).heap.size = w.heap.size + 2 := by simp
 have hs8 := fun s => Lib.hid (s8a_size s)
 have hsa := fun s => Lib.hid (s8a_all s)
 go_enter Tryz.func135, Tryz.ntmps135
 go_upto_region 1 with (fail)
 refine gen1 (T := fun W => Mm w W [(w.heap.size + 1, 199, z8a), (w.heap.size, 199, s8a s)] []) hM (fun w0 hM => ?_)
 have hM1 := hM.alloc (s8a s) 199
 have hlo := hM.bel.size
 have hz1 := hM.b0.lt
 go_upto_region 2 with (first | (refine wpl_loadG rfl 199 _ rfl ⟨w.heap.size, 0, none⟩ (s8a s) rfl hM.b1.cells _ Tryz.underlying199 rfl (by rw [(hs8 s).out]; kernel_rfl) ?_) | (refine wpl_storeN rfl 199 _ _ rfl _ (s8a s) 199 rfl rfl (by rw [(hs8 s).out]; kernel_rfl) (by rw [(hs8 s).out]; rfl) (hsa s).out ?_))
 generalize hWe : w0.alloc (.cells (s8a s) 199) = w1 at *
 clear hWe
 obtain ⟨g, hg⟩ : ∃ g, w0.heap.size = g := ⟨_, rfl⟩
 rw [hg] at hM1 hz1 hlo ⊢
 clear hM hg
 have hsl : SlB w1 A c b := Sl.below h hM1.bel
 go_wp2_with fail
 have hSc := Sched_any b w1 hsl hl
 obtain ⟨ws, hws⟩ : ∃ ws, sch b 64 = ws := ⟨_, rfl⟩
 have hwl : ws.length = 64 := by rw [← hws]; exact sch_len b 64
 rw [hws, hl] at hSc
 have HWS := Lib.hid hws
 clear hws
 refine hSc.mono ?_
 clear hSc
 rintro e w2 ⟨rfl, hb2⟩
 have hM2 := hM1.call hb2
 clear hM1 hb2 hsl
 go_wp2_with fail
 go_loopw [16] (fun x wr => ∃ n : Nat, n ≤ 64 ∧ x = .int .i64 n ∧ Mm w wr [(g, 199, s8a (rnds ws s n)), (w.heap.size + 1, 199, z8a), (w.heap.size, 199, s8a s)] []) (fun x wr => 64 - (intOf x).toNat)
 case atStart => exact ⟨0, by omega, rfl, hM2⟩
 case round =>
  clear hM2
  obtain ⟨n, hn, rfl, hM⟩ := hrel
  by_cases hlt : n < 64
  · have hnI : (n : Int) < 64 := by omega
    have hix : (wca ws 64)[n]? = some (wv (ws.getD n 0)) := wca_at (by rw [hwl]; exact hlt)
    have hrs := Lib.hid (show rnds ws s (n + 1) = rnd (rnds ws s n) (shaK.getD n 0) (ws.getD n 0) from rfl)
    have hkc := (hG.below hM.bel).k n hlt
    generalize ws.getD n 0 = x at *
    generalize shaK.getD n 0 = kk at *
    generalize rnds ws s n = r at *
    have hixx : ∀ W : World, (Instr.index 246 (.agg (wca ws 64)) (.int .i64 n)).run Tryz.prog W = .ok (wv x) W := fun W => ix_word 246 198 Tryz.underlying246 Tryz.underlying198 (by kernel_rfl) _ x hix hlt W
    have hB := hM.b0
    have c0 := hB.cell 0
    have c1 := hB.cell 1
    have c2 := hB.cell 2
    have c3 := hB.cell 3
    have c4 := hB.cell 4
    have c5 := hB.cell 5
    have c6 := hB.cell 6
    have c7 := hB.cell 7
    simp only [s8a] at c0 c1 c2 c3 c4 c5 c6 c7
    go_upto_region 5 with (fail)
    go_quiet (fail)
    have hM5 := hM.drewN nq
    have hk5 : (wr.drewN nq).cell? ⟨1, n, none⟩ = some (wv kk) := hkc
    clear hB c0 c1 c2 c3 c4 c5 c6 c7 hM hkc
    generalize wr.drewN nq = w5 at *
    have hst : Blk w5.drew g 199 (s8a r) ∧ w5.drew.cell? ⟨1, n, none⟩ = some (wv kk) := ⟨hM5.b0.drew, hk5⟩
    have R2 := right2
    have R6 := right6
    have R11 := right11
    have R13 := right13
    have R22 := right22
    have R25 := right25
    have q1 := add_wn
    have q2 := xor_wn
    have q3 := and_wn
    have q4 := or_wn
    have HM5 := Lib.hid hM5
    clear hM5 hk5
    go_upto_region 6 with (fail)
    refine wp_region_held_drew (S := (fun W => Blk W g 199 (s8a r) ∧ W.cell? ⟨1, n, none⟩ = some (wv kk))) (by kernel_rfl) ?_ (fun hHeld => ?_)
    · first | exact hst | exact hHeld
    refine wTk (i := 0) (oi := ⟨some 24, _, _, _, _, _⟩) (v := ?_) rfl ⟨by kernel_rfl, ?_⟩ (by assumption) ?_
    rotate_left
    · (intro wS hSw; (try dsimp only at hSw); obtain ⟨hbb, hkk⟩ := hSw; have c0 := hbb.cell 0; have c1 := hbb.cell 1; have c2 := hbb.cell 2; have c5 := hbb.cell 5; have c6 := hbb.cell 6; have c7 := hbb.cell 7; simp only [s8a] at c0 c1 c2 c5 c6 c7; clear hbb; go_simp; (try with_reducible rfl))
    (try simp only [Act.put, pS0, pS1, pS2])
    refine wTk (i := 1) (oi := ⟨some 25, _, _, _, _, _⟩) (v := ?_) rfl ⟨by kernel_rfl, ?_⟩ (by assumption) ?_
    rotate_left
    · (intro wS hSw; (try dsimp only at hSw); obtain ⟨hbb, hkk⟩ := hSw; have c0 := hbb.cell 0; have c1 := hbb.cell 1; have c2 := hbb.cell 2; have c5 := hbb.cell 5; have c6 := hbb.cell 6; have c7 := hbb.cell 7; simp only [s8a] at c0 c1 c2 c5 c6 c7; clear hbb; go_simp; (try with_reducible rfl))
    (try simp only [Act.put, pS0, pS1, pS2])
    refine wTk (i := 2) (oi := ⟨some 26, _, _, _, _, _⟩) (v := ?_) rfl ⟨by kernel_rfl, ?_⟩ (by assumption) ?_
    rotate_left
    · (intro wS hSw; (try dsimp only at hSw); obtain ⟨hbb, hkk⟩ := hSw; have c0 := hbb.cell 0; have c1 := hbb.cell 1; have c2 := hbb.cell 2; have c5 := hbb.cell 5; have c6 := hbb.cell 6; have c7 := hbb.cell 7; simp only [s8a] at c0 c1 c2 c5 c6 c7; clear hbb; go_simp; (try with_reducible rfl))
    (try simp only [Act.put, pS0, pS1, pS2])
    refine wTk (i := 4) (oi := ⟨some 28, _, _, _, _, _⟩) (v := ?_) rfl ⟨by kernel_rfl, ?_⟩ (by assumption) ?_
    rotate_left
    · (intro wS hSw; (try dsimp only at hSw); obtain ⟨hbb, hkk⟩ := hSw; have c0 := hbb.cell 0; have c1 := hbb.cell 1; have c2 := hbb.cell 2; have c5 := hbb.cell 5; have c6 := hbb.cell 6; have c7 := hbb.cell 7; simp only [s8a] at c0 c1 c2 c5 c6 c7; clear hbb; go_simp; (try with_reducible rfl))
    (try simp only [Act.put, pS0, pS1, pS2])
    refine wTk (i := 7) (oi := ⟨some 31, _, _, _, _, _⟩) (v := ?_) rfl ⟨by kernel_rfl, ?_⟩ (by assumption) ?_
    rotate_left
    · (intro wS hSw; (try dsimp only at hSw); obtain ⟨hbb, hkk⟩ := hSw; have c0 := hbb.cell 0; have c1 := hbb.cell 1; have c2 := hbb.cell 2; have c5 := hbb.cell 5; have c6 := hbb.cell 6; have c7 := hbb.cell 7; simp only [s8a] at c0 c1 c2 c5 c6 c7; clear hbb; go_simp; (try with_reducible rfl))
    (try simp only [Act.put, pS0, pS1, pS2])
    refine wTk (i := 11) (oi := ⟨some 35, _, _, _, _, _⟩) (v := ?_) rfl ⟨by kernel_rfl, ?_⟩ (by assumption) ?_
    rotate_left
    · (intro wS hSw; (try dsimp only at hSw); obtain ⟨hbb, hkk⟩ := hSw; have c0 := hbb.cell 0; have c1 := hbb.cell 1; have c2 := hbb.cell 2; have c5 := hbb.cell 5; have c6 := hbb.cell 6; have c7 := hbb.cell 7; simp only [s8a] at c0 c1 c2 c5 c6 c7; clear hbb; go_simp; (try with_reducible rfl))
    (try simp only [Act.put, pS0, pS1, pS2])
    refine wTk (i := 12) (oi := ⟨some 36, _, _, _, _, _⟩) (v := ?_) rfl ⟨by kernel_rfl, ?_⟩ (by assumption) ?_
    rotate_left
    · (intro wS hSw; (try dsimp only at hSw); obtain ⟨hbb, hkk⟩ := hSw; have c0 := hbb.cell 0; have c1 := hbb.cell 1; have c2 := hbb.cell 2; have c5 := hbb.cell 5; have c6 := hbb.cell 6; have c7 := hbb.cell 7; simp only [s8a] at c0 c1 c2 c5 c6 c7; clear hbb; go_simp; (try with_reducible rfl))
    (try simp only [Act.put, pS0, pS1, pS2])
    refine wTk (i := 13) (oi := ⟨some 37, _, _, _, _, _⟩) (v := ?_) rfl ⟨by kernel_rfl, ?_⟩ (by assumption) ?_
    rotate_left
    · (intro wS hSw; (try dsimp only at hSw); obtain ⟨hbb, hkk⟩ := hSw; have c0 := hbb.cell 0; have c1 := hbb.cell 1; have c2 := hbb.cell 2; have c5 := hbb.cell 5; have c6 := hbb.cell 6; have c7 := hbb.cell 7; simp only [s8a] at c0 c1 c2 c5 c6 c7; clear hbb; go_simp; (try with_reducible rfl))
    (try simp only [Act.put, pS0, pS1, pS2])
    refine wTk (i := 14) (oi := ⟨some 38, _, _, _, _, _⟩) (v := ?_) rfl ⟨by kernel_rfl, ?_⟩ (by assumption) ?_
    rotate_left
    · (intro wS hSw; (try dsimp only at hSw); obtain ⟨hbb, hkk⟩ := hSw; have c0 := hbb.cell 0; have c1 := hbb.cell 1; have c2 := hbb.cell 2; have c5 := hbb.cell 5; have c6 := hbb.cell 6; have c7 := hbb.cell 7; simp only [s8a] at c0 c1 c2 c5 c6 c7; clear hbb; go_simp; (try with_reducible rfl))
    (try simp only [Act.put, pS0, pS1, pS2])
    refine wTk (i := 15) (oi := ⟨some 39, _, _, _, _, _⟩) (v := ?_) rfl ⟨by kernel_rfl, ?_⟩ (by assumption) ?_
    rotate_left
    · (intro wS hSw; (try dsimp only at hSw); obtain ⟨hbb, hkk⟩ := hSw; have c0 := hbb.cell 0; have c1 := hbb.cell 1; have c2 := hbb.cell 2; have c5 := hbb.cell 5; have c6 := hbb.cell 6; have c7 := hbb.cell 7; simp only [s8a] at c0 c1 c2 c5 c6 c7; clear hbb; go_simp; (try with_reducible rfl))
    (try simp only [Act.put, pS0, pS1, pS2])
    refine wTk (i := 16) (oi := ⟨some 40, _, _, _, _, _⟩) (v := ?_) rfl ⟨by kernel_rfl, ?_⟩ (by assumption) ?_
    rotate_left
    · (intro wS hSw; (try dsimp only at hSw); obtain ⟨hbb, hkk⟩ := hSw; have c0 := hbb.cell 0; have c1 := hbb.cell 1; have c2 := hbb.cell 2; have c5 := hbb.cell 5; have c6 := hbb.cell 6; have c7 := hbb.cell 7; simp only [s8a] at c0 c1 c2 c5 c6 c7; clear hbb; go_simp; (try with_reducible rfl))
    (try simp only [Act.put, pS0, pS1, pS2])
    refine wTk (i := 17) (oi := ⟨some 41, _, _, _, _, _⟩) (v := ?_) rfl ⟨by kernel_rfl, ?_⟩ (by assumption) ?_
    rotate_left
    · (intro wS hSw; (try dsimp only at hSw); obtain ⟨hbb, hkk⟩ := hSw; have c0 := hbb.cell 0; have c1 := hbb.cell 1; have c2 := hbb.cell 2; have c5 := hbb.cell 5; have c6 := hbb.cell 6; have c7 := hbb.cell 7; simp only [s8a] at c0 c1 c2 c5 c6 c7; clear hbb; go_simp; (try with_reducible rfl))
    (try simp only [Act.put, pS0, pS1, pS2])
    refine wTk (i := 18) (oi := ⟨some 42, _, _, _, _, _⟩) (v := ?_) rfl ⟨by kernel_rfl, ?_⟩ (by assumption) ?_
    rotate_left
    · (intro wS hSw; (try dsimp only at hSw); obtain ⟨hbb, hkk⟩ := hSw; have c0 := hbb.cell 0; have c1 := hbb.cell 1; have c2 := hbb.cell 2; have c5 := hbb.cell 5; have c6 := hbb.cell 6; have c7 := hbb.cell 7; simp only [s8a] at c0 c1 c2 c5 c6 c7; clear hbb; go_simp; (try with_reducible rfl))
    (try simp only [Act.put, pS0, pS1, pS2])
    refine wTk (i := 19) (oi := ⟨some 43, _, _, _, _, _⟩) (v := ?_) rfl ⟨by kernel_rfl, ?_⟩ (by assumption) ?_
    rotate_left
    · (intro wS hSw; (try dsimp only at hSw); obtain ⟨hbb, hkk⟩ := hSw; have c0 := hbb.cell 0; have c1 := hbb.cell 1; have c2 := hbb.cell 2; have c5 := hbb.cell 5; have c6 := hbb.cell 6; have c7 := hbb.cell 7; simp only [s8a] at c0 c1 c2 c5 c6 c7; clear hbb; go_simp; (try with_reducible rfl))
    (try simp only [Act.put, pS0, pS1, pS2])
    refine wTk (i := 20) (oi := ⟨some 44, _, _, _, _, _⟩) (v := ?_) rfl ⟨by kernel_rfl, ?_⟩ (by assumption) ?_
    rotate_left
    · (intro wS hSw; (try dsimp only at hSw); obtain ⟨hbb, hkk⟩ := hSw; have c0 := hbb.cell 0; have c1 := hbb.cell 1; have c2 := hbb.cell 2; have c5 := hbb.cell 5; have c6 := hbb.cell 6; have c7 := hbb.cell 7; simp only [s8a] at c0 c1 c2 c5 c6 c7; clear hbb; go_simp; (try with_reducible rfl))
    (try simp only [Act.put, pS0, pS1, pS2])
    refine wTk (i := 22) (oi := ⟨some 46, _, _, _, _, _⟩) (v := ?_) rfl ⟨by kernel_rfl, ?_⟩ (by assumption) ?_
    rotate_left
    · (intro wS hSw; (try dsimp only at hSw); obtain ⟨hbb, hkk⟩ := hSw; have c0 := hbb.cell 0; have c1 := hbb.cell 1; have c2 := hbb.cell 2; have c5 := hbb.cell 5; have c6 := hbb.cell 6; have c7 := hbb.cell 7; simp only [s8a] at c0 c1 c2 c5 c6 c7; clear hbb; go_simp; (try with_reducible rfl))
    (try simp only [Act.put, pS0, pS1, pS2])
    refine wTk (i := 23) (oi := ⟨some 47, _, _, _, _, _⟩) (v := ?_) rfl ⟨by kernel_rfl, ?_⟩ (by assumption) ?_
    rotate_left
    · (intro wS hSw; (try dsimp only at hSw); obtain ⟨hbb, hkk⟩ := hSw; have c0 := hbb.cell 0; have c1 := hbb.cell 1; have c2 := hbb.cell 2; have c5 := hbb.cell 5; have c6 := hbb.cell 6; have c7 := hbb.cell 7; simp only [s8a] at c0 c1 c2 c5 c6 c7; clear hbb; go_simp; (try with_reducible rfl))
    (try simp only [Act.put, pS0, pS1, pS2])
    refine wTk (i := 24) (oi := ⟨some 48, _, _, _, _, _⟩) (v := ?_) rfl ⟨by kernel_rfl, ?_⟩ (by assumption) ?_
    rotate_left
    · (intro wS hSw; (try dsimp only at hSw); obtain ⟨hbb, hkk⟩ := hSw; have c0 := hbb.cell 0; have c1 := hbb.cell 1; have c2 := hbb.cell 2; have c5 := hbb.cell 5; have c6 := hbb.cell 6; have c7 := hbb.cell 7; simp only [s8a] at c0 c1 c2 c5 c6 c7; clear hbb; go_simp; (try with_reducible rfl))
    (try simp only [Act.put, pS0, pS1, pS2])
    refine wTk (i := 26) (oi := ⟨some 50, _, _, _, _, _⟩) (v := ?_) rfl ⟨by kernel_rfl, ?_⟩ (by assumption) ?_
    rotate_left
    · (intro wS hSw; (try dsimp only at hSw); obtain ⟨hbb, hkk⟩ := hSw; have c0 := hbb.cell 0; have c1 := hbb.cell 1; have c2 := hbb.cell 2; have c5 := hbb.cell 5; have c6 := hbb.cell 6; have c7 := hbb.cell 7; simp only [s8a] at c0 c1 c2 c5 c6 c7; clear hbb; go_simp; (try with_reducible rfl))
    (try simp only [Act.put, pS0, pS1, pS2])
    refine wR1 (i := 3) (o := ⟨some 27, _, _, _, _, _⟩) rfl (fun K hK => ?_)
    go_simp
    ((with_reducible refine (R6.out _ _).mono ?_); rintro e w8 ⟨rfl, rfl⟩)
    go_wp2_with fail
    refine hK.out _ _ ?_ (fun hHeld => ?_)
    · ((try dsimp only); (exact hst))
    clear hK K
    (try simp only [Act.put, pS0, pS1, pS2])
    refine wR1 (i := 5) (o := ⟨some 29, _, _, _, _, _⟩) rfl (fun K hK => ?_)
    go_simp
    ((with_reducible refine (R11.out _ _).mono ?_); rintro e w8 ⟨rfl, rfl⟩)
    go_wp2_with fail
    refine hK.out _ _ ?_ (fun hHeld => ?_)
    · ((try dsimp only); (exact hst))
    clear hK K
    (try simp only [Act.put, pS0, pS1, pS2])
    refine wTk (i := 6) (oi := ⟨some 30, _, _, _, _, _⟩) (v := ?_) rfl ⟨by kernel_rfl, ?_⟩ (by assumption) ?_
    rotate_left
    · (intro wS hSw; (try dsimp only at hSw); obtain ⟨hbb, hkk⟩ := hSw; have c0 := hbb.cell 0; have c1 := hbb.cell 1; have c2 := hbb.cell 2; have c5 := hbb.cell 5; have c6 := hbb.cell 6; have c7 := hbb.cell 7; simp only [s8a] at c0 c1 c2 c5 c6 c7; clear hbb; go_simp; (try with_reducible rfl))
    (try simp only [Act.put, pS0, pS1, pS2])
    refine wR1 (i := 8) (o := ⟨some 32, _, _, _, _, _⟩) rfl (fun K hK => ?_)
    go_simp
    ((with_reducible refine (R25.out _ _).mono ?_); rintro e w8 ⟨rfl, rfl⟩)
    go_wp2_with fail
    refine hK.out _ _ ?_ (fun hHeld => ?_)
    · ((try dsimp only); (exact hst))
    clear hK K
    (try simp only [Act.put, pS0, pS1, pS2])
    refine wTk (i := 9) (oi := ⟨some 33, _, _, _, _, _⟩) (v := ?_) rfl ⟨by kernel_rfl, ?_⟩ (by assumption) ?_
    rotate_left
    · (intro wS hSw; (try dsimp only at hSw); obtain ⟨hbb, hkk⟩ := hSw; have c0 := hbb.cell 0; have c1 := hbb.cell 1; have c2 := hbb.cell 2; have c5 := hbb.cell 5; have c6 := hbb.cell 6; have c7 := hbb.cell 7; simp only [s8a] at c0 c1 c2 c5 c6 c7; clear hbb; go_simp; (try with_reducible rfl))
    (try simp only [Act.put, pS0, pS1, pS2])
    refine wTk (i := 10) (oi := ⟨some 34, _, _, _, _, _⟩) (v := ?_) rfl ⟨by kernel_rfl, ?_⟩ (by assumption) ?_
    rotate_left
    · (intro wS hSw; (try dsimp only at hSw); obtain ⟨hbb, hkk⟩ := hSw; have c0 := hbb.cell 0; have c1 := hbb.cell 1; have c2 := hbb.cell 2; have c5 := hbb.cell 5; have c6 := hbb.cell 6; have c7 := hbb.cell 7; simp only [s8a] at c0 c1 c2 c5 c6 c7; clear hbb; go_simp; (try with_reducible rfl))
    (try simp only [Act.put, pS0, pS1, pS2])
    refine wTk (i := 21) (oi := ⟨some 45, _, _, _, _, _⟩) (v := ?_) rfl ⟨by kernel_rfl, ?_⟩ (by assumption) ?_
    rotate_left
    · (intro wS hSw; (try dsimp only at hSw); obtain ⟨hbb, hkk⟩ := hSw; have c0 := hbb.cell 0; have c1 := hbb.cell 1; have c2 := hbb.cell 2; have c5 := hbb.cell 5; have c6 := hbb.cell 6; have c7 := hbb.cell 7; simp only [s8a] at c0 c1 c2 c5 c6 c7; clear hbb; go_simp; (try with_reducible rfl))
    (try simp only [Act.put, pS0, pS1, pS2])
    refine wTk (i := 25) (oi := ⟨some 49, _, _, _, _, _⟩) (v := ?_) rfl ⟨by kernel_rfl, ?_⟩ (by assumption) ?_
    rotate_left
    · (intro wS hSw; (try dsimp only at hSw); obtain ⟨hbb, hkk⟩ := hSw; have c0 := hbb.cell 0; have c1 := hbb.cell 1; have c2 := hbb.cell 2; have c5 := hbb.cell 5; have c6 := hbb.cell 6; have c7 := hbb.cell 7; simp only [s8a] at c0 c1 c2 c5 c6 c7; clear hbb; go_simp; (try with_reducible rfl))
    (try simp only [Act.put, pS0, pS1, pS2])
    refine wTk (i := 27) (oi := ⟨some 51, _, _, _, _, _⟩) (v := ?_) rfl ⟨by kernel_rfl, ?_⟩ (by assumption) ?_
    rotate_left
    · (intro wS hSw; (try dsimp only at hSw); obtain ⟨hbb, hkk⟩ := hSw; have c0 := hbb.cell 0; have c1 := hbb.cell 1; have c2 := hbb.cell 2; have c5 := hbb.cell 5; have c6 := hbb.cell 6; have c7 := hbb.cell 7; simp only [s8a] at c0 c1 c2 c5 c6 c7; clear hbb; go_simp; (try with_reducible rfl))
    (try simp only [Act.put, pS0, pS1, pS2])
    refine wTk (i := 28) (oi := ⟨some 10, _, _, _, _, _⟩) (v := ?_) rfl ⟨by kernel_rfl, ?_⟩ (by assumption) ?_
    rotate_left
    · (intro wS hSw; (try dsimp only at hSw); obtain ⟨hbb, hkk⟩ := hSw; have c0 := hbb.cell 0; have c1 := hbb.cell 1; have c2 := hbb.cell 2; have c5 := hbb.cell 5; have c6 := hbb.cell 6; have c7 := hbb.cell 7; simp only [s8a] at c0 c1 c2 c5 c6 c7; clear hbb; go_simp; (try with_reducible rfl))
    (try simp only [Act.put, pS0, pS1, pS2])
    refine wpAnyH_done (by kernel_rfl) ?_ _
    rw [ch3_alt]
    obtain ⟨xx, hxx⟩ : ∃ xx, r.h + (tr r.e 6 ^^^ tr r.e 11 ^^^ tr r.e 25) + ch3 r.e r.f r.g + kk + x = xx := ⟨_, rfl⟩
    rw [hxx]
    have HXX := Lib.hid hxx
    have HM6 := Lib.hid HM5.out.drew
    clear hst hHeld HM5 hxx
    generalize w5.drew = w6 at *
    have hst := HM6.out.b0.drew
    go_upto_region 7 with (fail)
    refine wp_region_held_drew (S := (fun W => Blk W g 199 (s8a r))) (by kernel_rfl) ?_ (fun hHeld => ?_)
    · first | exact hst | exact hHeld
    refine wTk (i := 0) (oi := ⟨some 52, _, _, _, _, _⟩) (v := ?_) rfl ⟨by kernel_rfl, ?_⟩ (by assumption) ?_
    rotate_left
    · (intro wS hSw; (try dsimp only at hSw); have c1 := hSw.cell 1; have c2 := hSw.cell 2; simp only [s8a] at c1 c2; clear hSw; go_simp; (try with_reducible rfl))
    (try simp only [Act.put, pS0, pS1, pS2])
    refine wTk (i := 2) (oi := ⟨some 54, _, _, _, _, _⟩) (v := ?_) rfl ⟨by kernel_rfl, ?_⟩ (by assumption) ?_
    rotate_left
    · (intro wS hSw; (try dsimp only at hSw); have c1 := hSw.cell 1; have c2 := hSw.cell 2; simp only [s8a] at c1 c2; clear hSw; go_simp; (try with_reducible rfl))
    (try simp only [Act.put, pS0, pS1, pS2])
    refine wTk (i := 5) (oi := ⟨some 57, _, _, _, _, _⟩) (v := ?_) rfl ⟨by kernel_rfl, ?_⟩ (by assumption) ?_
    rotate_left
    · (intro wS hSw; (try dsimp only at hSw); have c1 := hSw.cell 1; have c2 := hSw.cell 2; simp only [s8a] at c1 c2; clear hSw; go_simp; (try with_reducible rfl))
    (try simp only [Act.put, pS0, pS1, pS2])
    refine wTk (i := 8) (oi := ⟨some 60, _, _, _, _, _⟩) (v := ?_) rfl ⟨by kernel_rfl, ?_⟩ (by assumption) ?_
    rotate_left
    · (intro wS hSw; (try dsimp only at hSw); have c1 := hSw.cell 1; have c2 := hSw.cell 2; simp only [s8a] at c1 c2; clear hSw; go_simp; (try with_reducible rfl))
    (try simp only [Act.put, pS0, pS1, pS2])
    refine wTk (i := 9) (oi := ⟨some 61, _, _, _, _, _⟩) (v := ?_) rfl ⟨by kernel_rfl, ?_⟩ (by assumption) ?_
    rotate_left
    · (intro wS hSw; (try dsimp only at hSw); have c1 := hSw.cell 1; have c2 := hSw.cell 2; simp only [s8a] at c1 c2; clear hSw; go_simp; (try with_reducible rfl))
    (try simp only [Act.put, pS0, pS1, pS2])
    refine wTk (i := 10) (oi := ⟨some 62, _, _, _, _, _⟩) (v := ?_) rfl ⟨by kernel_rfl, ?_⟩ (by assumption) ?_
    rotate_left
    · (intro wS hSw; (try dsimp only at hSw); have c1 := hSw.cell 1; have c2 := hSw.cell 2; simp only [s8a] at c1 c2; clear hSw; go_simp; (try with_reducible rfl))
    (try simp only [Act.put, pS0, pS1, pS2])
    refine wTk (i := 11) (oi := ⟨some 63, _, _, _, _, _⟩) (v := ?_) rfl ⟨by kernel_rfl, ?_⟩ (by assumption) ?_
    rotate_left
    · (intro wS hSw; (try dsimp only at hSw); have c1 := hSw.cell 1; have c2 := hSw.cell 2; simp only [s8a] at c1 c2; clear hSw; go_simp; (try with_reducible rfl))
    (try simp only [Act.put, pS0, pS1, pS2])
    refine wTk (i := 12) (oi := ⟨some 64, _, _, _, _, _⟩) (v := ?_) rfl ⟨by kernel_rfl, ?_⟩ (by assumption) ?_
    rotate_left
    · (intro wS hSw; (try dsimp only at hSw); have c1 := hSw.cell 1; have c2 := hSw.cell 2; simp only [s8a] at c1 c2; clear hSw; go_simp; (try with_reducible rfl))
    (try simp only [Act.put, pS0, pS1, pS2])
    refine wTk (i := 13) (oi := ⟨some 65, _, _, _, _, _⟩) (v := ?_) rfl ⟨by kernel_rfl, ?_⟩ (by assumption) ?_
    rotate_left
    · (intro wS hSw; (try dsimp only at hSw); have c1 := hSw.cell 1; have c2 := hSw.cell 2; simp only [s8a] at c1 c2; clear hSw; go_simp; (try with_reducible rfl))
    (try simp only [Act.put, pS0, pS1, pS2])
    refine wTk (i := 14) (oi := ⟨some 66, _, _, _, _, _⟩) (v := ?_) rfl ⟨by kernel_rfl, ?_⟩ (by assumption) ?_
    rotate_left
    · (intro wS hSw; (try dsimp only at hSw); have c1 := hSw.cell 1; have c2 := hSw.cell 2; simp only [s8a] at c1 c2; clear hSw; go_simp; (try with_reducible rfl))
    (try simp only [Act.put, pS0, pS1, pS2])
    refine wTk (i := 15) (oi := ⟨some 67, _, _, _, _, _⟩) (v := ?_) rfl ⟨by kernel_rfl, ?_⟩ (by assumption) ?_
    rotate_left
    · (intro wS hSw; (try dsimp only at hSw); have c1 := hSw.cell 1; have c2 := hSw.cell 2; simp only [s8a] at c1 c2; clear hSw; go_simp; (try with_reducible rfl))
    (try simp only [Act.put, pS0, pS1, pS2])
    refine wTk (i := 16) (oi := ⟨some 68, _, _, _, _, _⟩) (v := ?_) rfl ⟨by kernel_rfl, ?_⟩ (by assumption) ?_
    rotate_left
    · (intro wS hSw; (try dsimp only at hSw); have c1 := hSw.cell 1; have c2 := hSw.cell 2; simp only [s8a] at c1 c2; clear hSw; go_simp; (try with_reducible rfl))
    (try simp only [Act.put, pS0, pS1, pS2])
    refine wTk (i := 17) (oi := ⟨some 69, _, _, _, _, _⟩) (v := ?_) rfl ⟨by kernel_rfl, ?_⟩ (by assumption) ?_
    rotate_left
    · (intro wS hSw; (try dsimp only at hSw); have c1 := hSw.cell 1; have c2 := hSw.cell 2; simp only [s8a] at c1 c2; clear hSw; go_simp; (try with_reducible rfl))
    (try simp only [Act.put, pS0, pS1, pS2])
    refine wTk (i := 18) (oi := ⟨some 70, _, _, _, _, _⟩) (v := ?_) rfl ⟨by kernel_rfl, ?_⟩ (by assumption) ?_
    rotate_left
    · (intro wS hSw; (try dsimp only at hSw); have c1 := hSw.cell 1; have c2 := hSw.cell 2; simp only [s8a] at c1 c2; clear hSw; go_simp; (try with_reducible rfl))
    (try simp only [Act.put, pS0, pS1, pS2])
    refine wTk (i := 19) (oi := ⟨some 71, _, _, _, _, _⟩) (v := ?_) rfl ⟨by kernel_rfl, ?_⟩ (by assumption) ?_
    rotate_left
    · (intro wS hSw; (try dsimp only at hSw); have c1 := hSw.cell 1; have c2 := hSw.cell 2; simp only [s8a] at c1 c2; clear hSw; go_simp; (try with_reducible rfl))
    (try simp only [Act.put, pS0, pS1, pS2])
    refine wR1 (i := 1) (o := ⟨some 53, _, _, _, _, _⟩) rfl (fun K hK => ?_)
    go_simp
    ((with_reducible refine (R2.out _ _).mono ?_); rintro e w8 ⟨rfl, rfl⟩)
    go_wp2_with fail
    refine hK.out _ _ ?_ (fun hHeld => ?_)
    · ((try dsimp only); (exact hst))
    clear hK K
    (try simp only [Act.put, pS0, pS1, pS2])
    refine wR1 (i := 3) (o := ⟨some 55, _, _, _, _, _⟩) rfl (fun K hK => ?_)
    go_simp
    ((with_reducible refine (R13.out _ _).mono ?_); rintro e w8 ⟨rfl, rfl⟩)
    go_wp2_with fail
    refine hK.out _ _ ?_ (fun hHeld => ?_)
    · ((try dsimp only); (exact hst))
    clear hK K
    (try simp only [Act.put, pS0, pS1, pS2])
    refine wTk (i := 4) (oi := ⟨some 56, _, _, _, _, _⟩) (v := ?_) rfl ⟨by kernel_rfl, ?_⟩ (by assumption) ?_
    rotate_left
    · (intro wS hSw; (try dsimp only at hSw); have c1 := hSw.cell 1; have c2 := hSw.cell 2; simp only [s8a] at c1 c2; clear hSw; go_simp; (try with_reducible rfl))
    (try simp only [Act.put, pS0, pS1, pS2])
    refine wR1 (i := 6) (o := ⟨some 58, _, _, _, _, _⟩) rfl (fun K hK => ?_)
    go_simp
    ((with_reducible refine (R22.out _ _).mono ?_); rintro e w8 ⟨rfl, rfl⟩)
    go_wp2_with fail
    refine hK.out _ _ ?_ (fun hHeld => ?_)
    · ((try dsimp only); (exact hst))
    clear hK K
    (try simp only [Act.put, pS0, pS1, pS2])
    refine wTk (i := 7) (oi := ⟨some 59, _, _, _, _, _⟩) (v := ?_) rfl ⟨by kernel_rfl, ?_⟩ (by assumption) ?_
    rotate_left
    · (intro wS hSw; (try dsimp only at hSw); have c1 := hSw.cell 1; have c2 := hSw.cell 2; simp only [s8a] at c1 c2; clear hSw; go_simp; (try with_reducible rfl))
    (try simp only [Act.put, pS0, pS1, pS2])
    refine wTk (i := 20) (oi := ⟨some 72, _, _, _, _, _⟩) (v := ?_) rfl ⟨by kernel_rfl, ?_⟩ (by assumption) ?_
    rotate_left
    · (intro wS hSw; (try dsimp only at hSw); have c1 := hSw.cell 1; have c2 := hSw.cell 2; simp only [s8a] at c1 c2; clear hSw; go_simp; (try with_reducible rfl))
    (try simp only [Act.put, pS0, pS1, pS2])
    refine wTk (i := 21) (oi := ⟨some 11, _, _, _, _, _⟩) (v := ?_) rfl ⟨by kernel_rfl, ?_⟩ (by assumption) ?_
    rotate_left
    · (intro wS hSw; (try dsimp only at hSw); have c1 := hSw.cell 1; have c2 := hSw.cell 2; simp only [s8a] at c1 c2; clear hSw; go_simp; (try with_reducible rfl))
    (try simp only [Act.put, pS0, pS1, pS2])
    refine wpAnyH_done (by kernel_rfl) ?_ _
    rw [mj3_alt]
    obtain ⟨yy, hyy⟩ : ∃ yy, (tr r.a 2 ^^^ tr r.a 13 ^^^ tr r.a 22) + mj3 r.a r.b r.c = yy := ⟨_, rfl⟩
    rw [hyy]
    have hrn : Hid (rnds ws s (n + 1) = ⟨xx + yy, r.a, r.b, r.c, r.d + xx, r.e, r.f, r.g⟩) := (show _ = _ from by rw [hrs.out, ← HXX.out, ← hyy]; rfl)
    have hM7 := HM6.out.drew
    clear hst hHeld HM6 hyy HXX hrs q2 q3 q4 R2 R6 R11 R13 R22 R25 hixx hix
    generalize w6.drew = w7 at *
    have hB := hM7.b0
    have c1 := hB.cell 1
    have c2 := hB.cell 2
    have c3 := hB.cell 3
    have c5 := hB.cell 5
    have c6 := hB.cell 6
    simp only [s8a] at c1 c2 c3 c5 c6
    obtain ⟨r2, hr2⟩ : ∃ r2 : S8, r2 = ⟨xx + yy, r.a, r.b, r.c, r.d + xx, r.e, r.f, r.g⟩ := ⟨_, rfl⟩
    have hra : #[wv (xx + yy), wv r.a, wv r.b, wv r.c, wv (r.d + xx), wv r.e, wv r.f, wv r.g] = s8a r2 := by rw [hr2]; rfl
    have HRA := Lib.hid hra
    clear hra
    go_wp2_with ((rw [HRA.out]; refine wpList_store_row rfl 199 _ _ rfl g (s8a r2) rfl rfl 199 (s8a r) hM7.b0 (by rw [(hs8 r2).out]; kernel_rfl) (by rw [(hs8 r).out, (hs8 r2).out]) (hsa r2).out ?_))
    have hM8 := hM7.row (cs' := s8a r2) 0 rfl hM7.b0.row
    subst hr2
    refine ⟨⟨n + 1, hlt, by go_num, ?_⟩, by simp [intOf]; omega⟩
    rw [hrn.out]
    exact hM8
  · obtain rfl : n = 64 := by omega
    have hst : Hid (stp s b = (rnds ws s 64).add s) := (show _ = _ from by unfold stp; rw [HWS.out])
    generalize rnds ws s 64 = r at *
    rw [← s8m_zero r s] at hM
    rw [show ((64 : Nat) : Int) = (64 : Int) from rfl]
    go_wp2_with fail
    go_loopw [92] (fun x wr => ∃ n : Nat, n ≤ 8 ∧ x = .int .i64 n ∧ Mm w wr [(g, 199, s8m r s n), (w.heap.size + 1, 199, z8a), (w.heap.size, 199, s8a s)] []) (fun x wr => 8 - (intOf x).toNat)
    case atStart => exact ⟨0, by omega, rfl, hM⟩
    case round =>
     clear hM
     obtain ⟨n, hn, rfl, hM⟩ := hrel
     by_cases hlt : n < 8
     · have hnI : (n : Int) < 8 := by omega
       have hgne : g ≠ w.heap.size := by have := hM.dis; simp at this; omega
       have hset := Lib.hid (s8m_set r s hlt)
       have hc1 := (hM.b0.drew.cell n).trans (s8m_at r s hlt)
       have hf1 := hM.b0.drew.frozen n
       have hc2 := (hM.b2.drew.cell n).trans (s8a_at s hlt)
       generalize r.l.getD n 0 = x at *
       generalize s.l.getD n 0 = y at *
       have q1 := add_wn
       have HM := Lib.hid hM
       clear hM
       go_upto_region 13 with (fail)
       refine wp_region_held_drew (S := (fun W => W.cell? ⟨w.heap.size, n, none⟩ = some (wv y))) (by kernel_rfl) ?_ (fun hHeld => ?_)
       · first | exact hc2 | exact hHeld | exact cells_other hc2 (.inl (fun e => hgne e.symm))
       refine wTk (i := 0) (oi := ⟨some 95, _, _, _, _, _⟩) (v := ?_) rfl ⟨by kernel_rfl, ?_⟩ (by assumption) ?_
       rotate_left
       · (intro wS hSw; (try dsimp only at hSw); skip; go_simp; (try with_reducible rfl))
       (try simp only [Act.put, pS0, pS1, pS2])
       refine wTk (i := 1) (oi := ⟨some 96, _, _, _, _, _⟩) (v := ?_) rfl ⟨by kernel_rfl, ?_⟩ (by assumption) ?_
       rotate_left
       · (intro wS hSw; (try dsimp only at hSw); skip; go_simp; (try with_reducible rfl))
       (try simp only [Act.put, pS0, pS1, pS2])
       refine wTk (i := 3) (oi := ⟨some 98, _, _, _, _, _⟩) (v := ?_) rfl ⟨by kernel_rfl, ?_⟩ (by assumption) ?_
       rotate_left
       · (intro wS hSw; (try dsimp only at hSw); skip; go_simp; (try with_reducible rfl))
       (try simp only [Act.put, pS0, pS1, pS2])
       refine wTk (i := 4) (oi := ⟨some 99, _, _, _, _, _⟩) (v := ?_) rfl ⟨by kernel_rfl, ?_⟩ (by assumption) ?_
       rotate_left
       · (intro wS hSw; (try dsimp only at hSw); skip; go_simp; (try with_reducible rfl))
       (try simp only [Act.put, pS0, pS1, pS2])
       refine wTk (i := 5) (oi := ⟨some 100, _, _, _, _, _⟩) (v := ?_) rfl ⟨by kernel_rfl, ?_⟩ (by assumption) ?_
       rotate_left
       · (intro wS hSw; (try dsimp only at hSw); skip; go_simp; (try with_reducible rfl))
       (try simp only [Act.put, pS0, pS1, pS2])
       refine wR1 (i := 2) (o := ⟨some 97, _, _, _, _, _⟩) rfl (fun K hK => ?_)
       go_simp
       refine hK.out _ _ ?_ (fun hHeld => ?_)
       · ((try dsimp only); (exact hc2))
       clear hK K
       (try simp only [Act.put, pS0, pS1, pS2])
       refine wTk (i := 6) (oi := ⟨some 101, _, _, _, _, _⟩) (v := ?_) rfl ⟨by kernel_rfl, ?_⟩ (by assumption) ?_
       rotate_left
       · (intro wS hSw; (try dsimp only at hSw); skip; go_simp; (try with_reducible rfl))
       (try simp only [Act.put, pS0, pS1, pS2])
       refine wTk (i := 7) (oi := ⟨some 102, _, _, _, _, _⟩) (v := ?_) rfl ⟨by kernel_rfl, ?_⟩ (by assumption) ?_
       rotate_left
       · (intro wS hSw; (try dsimp only at hSw); skip; go_simp; (try with_reducible rfl))
       (try simp only [Act.put, pS0, pS1, pS2])
       refine wR1 (i := 8) (o := ⟨none, _, _, _, _, _⟩) rfl (fun K hK => ?_)
       go_simp
       refine hK.out _ _ ?_ (fun hHeld => ?_)
       · ((try dsimp only); (exact cells_other hc2 (.inl (fun e => hgne e.symm))))
       clear hK K
       (try simp only [Act.put, pS0, pS1, pS2])
       refine wpAnyH_done (by kernel_rfl) ?_ _
       all_goals
        have h9 := (HM.out.set 0 n (wv (x + y)) rfl).drew
        rw [hset.out] at h9
        have H9 := Lib.hid h9
        clear h9 HM hset hc1 hf1 hc2 q1
        go_wp2_with fail
        go_roundw
        case rel => exact ⟨n + 1, hlt, by go_num, H9.out⟩
        case measure => simp [intOf]; omega
     · obtain rfl : n = 8 := by omega
       rw [s8m_full] at hM
       go_wp2_with (first | (refine wpl_loadG rfl 199 _ rfl ⟨g, 0, none⟩ (s8a (r.add s)) rfl hM.b0.cells _ Tryz.underlying199 rfl (by rw [(hs8 _).out]; kernel_rfl) ?_) | (refine wpList_store_row rfl 199 _ _ rfl (w.heap.size + 1) (s8a (r.add s)) rfl rfl 199 z8a hM.b1 (by rw [(hs8 _).out]; kernel_rfl) (by rw [(hs8 _).out]; rfl) (hsa _).out ?_))
       exact bodyPost_ret (res_s8 rfl rfl (g := w.heap.size + 1) hM.b1.row (hs8 _).out) rfl ⟨by rw [hst.out], below_setRow hM.bel (by omega) _⟩
theorem be8_len (n : Nat) : (be8 n).length = 8 := rfl
theorem be8_at (N : Nat) {j s : Nat} (h : 8 * j + s = 56) : (be8 N).getD j 0 = UInt8.ofNat (N / 2 ^ s % 256) := by
 have : j = 0 ∧ s = 56 ∨ j = 1 ∧ s = 48 ∨ j = 2 ∧ s = 40 ∨ j = 3 ∧ s = 32 ∨ j = 4 ∧ s = 24 ∨ j = 5 ∧ s = 16 ∨ j = 6 ∧ s = 8 ∨ j = 7 ∧ s = 0 := by omega
 rcases this with ⟨rfl, rfl⟩ | ⟨rfl, rfl⟩ | ⟨rfl, rfl⟩ | ⟨rfl, rfl⟩ | ⟨rfl, rfl⟩ | ⟨rfl, rfl⟩ | ⟨rfl, rfl⟩ | ⟨rfl, rfl⟩
 all_goals first | rfl | (show UInt8.ofNat _ = UInt8.ofNat _; congr 1; simp)
theorem take_snocD {T : Type} (l : List T) (d : T) {j : Nat} (h : j < l.length) : l.take (j + 1) = l.take j ++ [l.getD j d] := by
 rw [List.take_succ_eq_append_getElem h]
 simp [h]
theorem ofNat_byte (n : Nat) : (((UInt8.ofNat n).toNat : Nat) : Int) = (n : Int) % 256 := by
 rw [UInt8.toNat_ofNat']
 simp
set_option maxRecDepth 100000 in
set_option maxHeartbeats 1000000 in
theorem Pad_any (n : Nat) (hn : n ≤ 1000000000) (w : World) :
 Calls Tryz.prog 134 #[.int .i64 n] w fun e w' => ∃ A c m, e = .returned (.slice A (List.length m) c) ∧ Hid (m = padT n) ∧ OwnB w' w.heap.size 5 A c m ∧ Below w.heap.size w w' := by
 have hP := Lib.hid (show padT n = 128 :: (List.replicate (padZ n) 0 ++ be8 (8 * n)) from rfl)
 have hpz : padZ n < 64 := by unfold padZ; omega
 have hpm : (n + padZ n + 9) % 64 = 0 := by unfold padZ; omega
 have hpk : ∀ k, k < padZ n → ¬ (n + k + 9) % 64 = 0 := by unfold padZ; omega
 obtain ⟨z, hz⟩ : ∃ z, padZ n = z := ⟨_, rfl⟩
 rw [hz] at hP hpz hpm hpk
 clear hz
 have hL : OwnB (w.alloc (.cells #[.int .u8 128] 5)) w.heap.size 5 (some ⟨w.heap.size, 0, none⟩) 1 [128] := Own.lits1 rfl 5 128
 go_enter Tryz.func134, Tryz.ntmps134
 go_wp2_with fail
 go_loopw [3] (fun x wr => ∃ (k : Nat) (A : Option Addr) (c : Nat) (m : List UInt8), k ≤ z ∧ x = .slice A m.length c ∧ m.length = k + 1 ∧ Hid (m = 128 :: List.replicate k 0) ∧ OwnB wr w.heap.size 5 A c m ∧ Below w.heap.size w wr) (fun x wr => 64 - (match x with | .slice _ n _ => n | _ => 0))
 case atStart => exact ⟨0, _, _, [128], by omega, rfl, rfl, Lib.hid rfl, hL, below_new _ _⟩
 case round =>
  obtain ⟨k, A, c, m, hk, rfl, hml, hm, ho, hb⟩ := hrel
  have hw1 : IntKind.i64.wrap ((n : Int) + (m.length : Int)) = (n : Int) + (m.length : Int) := by rw [IntKind.wrap_i64]; omega
  have hw2 : IntKind.i64.wrap ((n : Int) + (m.length : Int) + 8) = (n : Int) + (m.length : Int) + 8 := by rw [IntKind.wrap_i64]; omega
  have HML := Lib.hid hml
  clear hml hL
  rcases Nat.lt_or_ge k z with hlt | hge
  · have hz : (((n : Int) + (m.length : Int) + 8) % 64 != 0) = true := by
     have h9 := hpk k hlt
     have h8 := HML.out
     have : ¬ ((n : Int) + (m.length : Int) + 8) % 64 = 0 := by omega
     simpa using this
    have hoa := World.ownsRow.alloc ho (.cells #[.int .u8 0] 5)
    have hba := bel_alloc hb (.cells #[.int .u8 0] 5)
    have hln : m.length + [(0 : UInt8)].length ≤ 140737488355328 := by have := HML.out; simp; omega
    go_wp2_with (at_builtin; go_must (refine wpl_bytes 52 5 Tryz.underlying52 u8_info rfl _ _ rfl w.heap.size A c m rfl hoa (some ⟨wr.heap.size, 0, none⟩) 1 [0] rfl Sl.one hln hba.size ?_; intro A2 c2 m2 w2 hm2 ho2 _ _ hb2))
    have hl2 : m2.length = k + 1 + 1 := by rw [hm2.out, List.length_append, HML.out]; rfl
    have HML2 := Lib.hid hl2
    clear hz hw1 hw2 hl2
    go_roundw
    case rel => exact ⟨k + 1, A2, c2, m2, hlt, rfl, HML2.out, (show _ = _ from by rw [hm2.out, hm.out, List.replicate_succ']; rfl), ho2, hba.trans hb2⟩
    case measure => dsimp only; rw [HML2.out, HML.out]; omega
  · obtain rfl : k = z := by omega
    have hz : (((n : Int) + (m.length : Int) + 8) % 64 != 0) = false := by
     have h8 := HML.out
     have : ((n : Int) + (m.length : Int) + 8) % 64 = 0 := by omega
     simpa using this
    have hw3 : IntKind.u64.wrap (n : Int) = (n : Int) := by show (n : Int) % 18446744073709551616 = n; omega
    have hw4 : IntKind.u64.wrap ((n : Int) * 8) = ((8 * n : Nat) : Int) := by show ((n : Int) * 8) % 18446744073709551616 = _; omega
    go_wp2_with fail
    have HM := Lib.hid hm
    have HO := Lib.hid ho
    have HB := Lib.hid hb
    clear hw1 hw2 ho hb hz
    obtain ⟨N, hN⟩ : ∃ N, 8 * n = N := ⟨_, rfl⟩
    rw [hN] at hw4 hP
    clear hN
    go_loopw [4, 3] (fun y x wr => ∃ (j : Nat) (A : Option Addr) (c : Nat) (m : List UInt8), j ≤ 8 ∧ y = .int .i64 (56 - 8 * (j : Int)) ∧ x = .slice A m.length c ∧ m.length = k + 1 + j ∧ Hid (m = 128 :: (List.replicate k 0 ++ (be8 N).take j)) ∧ OwnB wr w.heap.size 5 A c m ∧ Below w.heap.size w wr) (fun y x wr => 100 - (match x with | .slice _ n _ => n | _ => 0))
    case atStart => exact ⟨0, A, c, m, by omega, rfl, rfl, HML.out, (show _ = _ from by rw [hm.out]; simp), HO.out, HB.out⟩
    case round =>
     clear HM HO HB hm HML
     obtain ⟨j, A, c, m, hj, rfl, rfl, hml, hm, ho, hb⟩ := hrel
     have HML := Lib.hid hml
     clear hml
     rcases Nat.lt_or_ge j 8 with hlt | hge
     · obtain ⟨s, hs⟩ : ∃ s : Nat, 8 * j + s = 56 := ⟨56 - 8 * j, by omega⟩
       have hsI : 56 - 8 * (j : Int) = (s : Int) := by omega
       have hs2 : Hid (56 - 8 * ((j + 1 : Nat) : Int) = (s : Int) - 8) := (show _ = _ from by omega)
       have hs3 : IntKind.i64.wrap ((s : Int) - 8) = (s : Int) - 8 := by rw [IntKind.wrap_i64]; omega
       have hat := be8_at N hs
       have hbt : IntKind.u8.wrap ((N : Int) / 2 ^ s) = ((be8 N).getD j 0).toNat := by
        rw [hat, ofNat_byte]
        show ((N : Int) / 2 ^ s) % 256 = _
        simp
       have htk := Lib.hid (take_snocD (be8 N) 0 (j := j) (by rw [be8_len]; exact hlt))
       generalize (be8 N).getD j 0 = x at *
       rw [hsI]
       clear hat hs
       have hoa := World.ownsRow.alloc ho (.cells #[bv x] 5)
       have hba := bel_alloc hb (.cells #[bv x] 5)
       have hln : m.length + [x].length ≤ 140737488355328 := by have := HML.out; simp; omega
       go_wp2_with (at_builtin; go_must (refine wpl_bytes 52 5 Tryz.underlying52 u8_info rfl _ _ rfl w.heap.size A c m rfl hoa (some ⟨wr.heap.size, 0, none⟩) 1 [x] rfl Sl.one hln hba.size ?_; intro A2 c2 m2 w2 hm2 ho2 _ _ hb2))
       have hl2 : m2.length = k + 1 + (j + 1) := by rw [hm2.out, List.length_append, HML.out]; rfl
       refine ⟨⟨j + 1, A2, c2, m2, hlt, by rw [hs2.out], rfl, hl2, (show _ = _ from by rw [hm2.out, hm.out, htk.out]; simp), ho2, hba.trans hb2⟩, ?_⟩
       dsimp only
       rw [hl2, HML.out]
       omega
     · obtain rfl : j = 8 := by omega
       rw [show (56 : Int) - 8 * ((8 : Nat) : Int) = -8 from by decide]
       go_wp2_with fail
       go_ret
       exact ⟨A, c, m, rfl, (show _ = _ from by rw [hm.out, hP.out, List.take_of_length_le (by rw [be8_len]; exact Nat.le_refl _)]), ho, hb⟩
end
section
open Go.RowKit Go.Shelf
attribute [local go_sem ↓] Go.wp_at_zero Go.wp_at_succ
attribute [local go_sem] Oper.semAt_some
set_option maxRecDepth 100000 in
theorem Chunk_any (A : Option Addr) (k c : Nat) (w : World) :
 Calls Tryz.prog 133 #[.slice A k c, .int .i64 64] w fun e w' => e = .returned (.func (.func 159) #[] #[.pointer (some ⟨w.heap.size, 0, none⟩), .pointer (some ⟨w.heap.size + 1, 0, none⟩)]) ∧ w' = (w.alloc (.cells #[.slice A k c] 52)).alloc (.cells #[.int .i64 64] 3) := by
 go_enter Tryz.func133, Tryz.ntmps133
 go_wp2_with fail
 go_ret
 exact ⟨rfl, rfl⟩
structure Kg (n g : Nat) (W W' : World) : Prop where
 size : W.heap.size ≤ W'.heap.size
 block : ∀ k, k < n → k ≠ g → W'.heap[k]? = W.heap[k]?
section
variable {n g : Nat} {A B C : World}
theorem Kg.refl (n g : Nat) (W : World) : Kg n g W W := ⟨Nat.le_refl _, fun _ _ _ => rfl⟩
theorem Kg.trans (h : Kg n g A B) (k : Kg n g B C) : Kg n g A C := ⟨Nat.le_trans h.size k.size, fun j h1 h2 => (k.block j h1 h2).trans (h.block j h1 h2)⟩
theorem Kg.cell (h : Kg n g A B) {b o : Nat} (h1 : b < n) (h2 : b ≠ g) : B.cell? ⟨b, o, none⟩ = A.cell? ⟨b, o, none⟩ := World.cell?_of_block (h.block b h1 h2)
theorem Kg.drewN (h : Kg n g A B) (m : Nat) : Kg n g A (World.drewN B m) := ⟨h.size, h.block⟩
theorem Kg.put {w : World} (hn : n ≤ w.heap.size) (W : World) (l : Nat) (o o' : Obj) (hl : w.heap.size ≤ l) (_ : W.heap[l]? = some o) (_ : o.isCells = false) (_ : o.isWalk = false) : Kg n g W (W.putObj l o') :=
 ⟨by simp, fun k h1 _ => World.putObj_heap_other (by omega)⟩
end
def chkS (b o : Nat) (k : Nat) : Value := .slice (some ⟨b, o + 64 * k, none⟩) 64 64
set_option maxRecDepth 100000 in
set_option maxHeartbeats 2000000 in
theorem Chunk1_in (n : Nat) (hn : 1 ≤ n) (l g n₀ gs b o K c : Nat) (hK : K ≤ 100000000) (hc : 64 * K ≤ c) (hgn : g + 1 < n₀) (hgs : gs < g) (J Jx : List Nat → World → Prop) (hJd : ∀ s W m, J s W → J s (World.drewN W m))
 (hY : ∀ pre x W, J pre W → pre.length < K → YieldAt Fence.wide (n - 1) Tryz.prog l #[chkS b o (min x (K - 1))] W fun e W' =>
  (e = .returned (.bool true) ∧ J (pre ++ [x]) W' ∧ Kg n₀ gs W W') ∨ (e = .returned (.bool false) ∧ Jx (pre ++ [x]) W'))
 (W : World) (h1 : W.cell? ⟨g, 0, none⟩ = some (.slice (some ⟨b, o, none⟩) (64 * K) c)) (h2 : W.cell? ⟨g + 1, 0, none⟩ = some (.int .i64 64)) (h0 : J [] W) :
 CallsIn Fence.wide n Tryz.prog 159 #[.func (.yield l) #[] #[], .pointer (some ⟨g, 0, none⟩), .pointer (some ⟨g + 1, 0, none⟩)] W fun e W' => (∃ v, e = .returned v) ∧
  ((∃ ys, ys = List.range K ∧ J ys W') ∨ (∃ pre, (∃ k, k ≤ K ∧ pre = List.range k) ∧ Jx pre W')) := by
 refine callsIn_of_wp Tryz.func159 rfl trivial ?_ rfl
 simp only [Tryz.ntmps159, List.size_toArray, List.length_cons, List.length_nil, Nat.reduceAdd, Nat.reduceSub, Array.replicate_succ, Array.replicate_zero, List.push_toArray, List.append_toArray, List.nil_append, List.cons_append]
 gi_wp2
 gi_loopw [4] (fun i wr => ∃ k : Nat, k ≤ K ∧ i = .int .i64 (64 * (k : Int)) ∧ J (List.range k) wr ∧ Kg n₀ gs W wr) (fun i _ => 64 * K - (intOf i).toNat)
 case atStart => exact ⟨0, Nat.zero_le _, rfl, h0, Kg.refl _ _ _⟩
 case round =>
  obtain ⟨k, hk, rfl, hJs, hnx⟩ := hrel
  have d1 := (hnx.cell (b := g) (o := 0) (by omega) (by omega)).trans h1
  have d2 := (hnx.cell (b := g + 1) (o := 0) (by omega) (by omega)).trans h2
  by_cases hlt : k < K
  · have hI : 64 * (k : Int) < 64 * (K : Int) := by omega
    have hi0 : 0 ≤ 64 * (k : Int) := by omega
    have hi1 : 64 * (k : Int) ≤ 64 * (K : Int) := by omega
    have hi2 : 64 * (k : Int) ≤ (c : Int) := by omega
    have hmin : min (64 : Int) ((64 * K - 64 * k : Nat) : Int) = 64 := by omega
    have hw1 : IntKind.i64.wrap (64 * (k : Int) + 64) = 64 * (k : Int) + 64 := by rw [IntKind.wrap_i64]; omega
    have ht : (64 * (k : Int) + 64).toNat - 64 * k = 64 := by omega
    have hi3 : 64 * (k : Int) + 64 ≤ (c : Int) := by omega
    gi_wp2
    refine wpIn_wide.2 ?_
    go_quiet (fail)
    have hJ2 := hJd _ _ nq hJs
    have hnx2 := hnx.drewN nq
    clear hJs hnx d1 d2
    generalize World.drewN wr nq = w2 at *
    have d1 := (hnx2.cell (b := g) (o := 0) (by omega) (by omega)).trans h1
    have d2 := (hnx2.cell (b := g + 1) (o := 0) (by omega) (by omega)).trans h2
    obtain ⟨fn, tmps, assign, body, hy, hR⟩ := hY _ k w2 hJ2 (by rw [List.length_range]; exact hlt)
    rw [show min k (K - 1) = k from by omega] at hy
    unfold chkS at hy
    gi_wp2
    refine hR.mono ?_
    have hbk := hnx2
    clear d1 d2 hnx2
    rintro e W3 (⟨rfl, hJ3, hk3⟩ | ⟨rfl, hJx3⟩)
    · have hnx3 := hbk.trans hk3
      have d1 := (hnx3.cell (b := g) (o := 0) (by omega) (by omega)).trans h1
      have d2 := (hnx3.cell (b := g + 1) (o := 0) (by omega) (by omega)).trans h2
      clear hbk hk3 hJ2
      gi_wp2
      go_roundw
      case rel => exact ⟨k + 1, by omega, congrArg (Value.int .i64) (by omega), by rw [List.range_succ]; exact hJ3, hnx3⟩
      case measure => simp [intOf]; omega
    · gi_wp2
      refine bodyPost_ret (results_none rfl _ _ _) rfl ?_
      exact ⟨⟨_, rfl⟩, .inr ⟨_, ⟨k + 1, by omega, by rw [List.range_succ]⟩, hJx3⟩⟩
  · obtain rfl : k = K := by omega
    gi_wp2
    go_end0
    exact ⟨⟨_, rfl⟩, .inl ⟨_, rfl, hJs⟩⟩
theorem Chunk_stops (n : Nat) (hn : 1 ≤ n) (g n₀ gs b o K c : Nat) (hK : K ≤ 100000000) (hc : 64 * K ≤ c) (hgn : g + 1 < n₀) (hgs : gs < g) (w : World) (hn0 : n₀ ≤ w.heap.size)
 (h1 : w.cell? ⟨g, 0, none⟩ = some (.slice (some ⟨b, o, none⟩) (64 * K) c)) (h2 : w.cell? ⟨g + 1, 0, none⟩ = some (.int .i64 64)) :
 SeqStopsK Fence.wide n Tryz.prog 159 #[.pointer (some ⟨g, 0, none⟩), .pointer (some ⟨g + 1, 0, none⟩)] (fun k : Nat => #[chkS b o (min k (K - 1))]) (Kg n₀ gs) (fun ys => ys = List.range K) (fun pre => ∃ k, k ≤ K ∧ pre = List.range k) K w :=
 fun l J Jx W hW hJ _ hY h0 =>
  Chunk1_in n hn l g n₀ gs b o K c hK hc hgn hgs J Jx (fun s W m hs => hJ s W _ none hs ⟨rfl, rfl, rfl, Nat.le_refl _, fun _ _ _ => rfl⟩ (fun r e => by cases e)) hY W
   ((hW.cell (p := ⟨g, 0, none⟩) (show g < w.heap.size by omega)).trans h1) ((hW.cell (p := ⟨g + 1, 0, none⟩) (show g + 1 < w.heap.size by omega)).trans h2) h0
end
end Go.Proofs.YtajfnmohlnkncaaGreatDoor
