/- WHAT IT HOLDS: a block of sha, as package sha takes it: walked. | WHAT IT HOLDS: what stands behind a text of sha: walked. | WHAT IT HOLDS: slices.Chunk of bytes: the function, and what it hands to a loop's body: walked. | WHAT IT HOLDS: sha.Of of one part, sha.Sum: walked. -/
import Derived.Test.YtajfnmohlnkncaaGreatDoorVaultAgreesG01
import Derived.Test.YtajfnmohlnkncaaGreatDoorVaultAgreesG11
import Derived.RangeFuncNested
import Derived.RangeFuncBound
import Derived.RangeFuncCalls
import Derived.RangeFuncLeaves
import Derived.Shelf.Abstract
import Derived.Shelf.RegionOpen
import Derived.OwnWalkIn
import Derived.TacticsInMore
import Derived.LoopNIn
import Derived.LoopIn
import Derived.Test.YtajfnmohlnkncaaGreatDoorVaultAgreesG09
namespace Go.Proofs.YtajfnmohlnkncaaGreatDoor
section
open Go.RowKit
attribute [local go_sem ↓] Go.wp_at_zero Go.wp_at_succ
def s8a (s : S8) : Array Value := #[wv s.a, wv s.b, wv s.c, wv s.d, wv s.e, wv s.f, wv s.g, wv s.h]
def z8a : Array Value := #[.int .u32 0, .int .u32 0, .int .u32 0, .int .u32 0, .int .u32 0, .int .u32 0, .int .u32 0, .int .u32 0]
theorem s8a_size (s : S8) : (s8a s).size = 8 := rfl
theorem s8a_all (s : S8) : (s8a s).all (·.oneCell') = true := by unfold s8a; simp [Value.oneCell']
def s8m (s t : S8) (k : Nat) : Array Value := ((List.range 8).map fun i => wv (if i < k then s.l.getD i 0 + t.l.getD i 0 else s.l.getD i 0)).toArray
theorem s8m_zero (s t : S8) : s8m s t 0 = s8a s := rfl
theorem s8m_full (s t : S8) : s8m s t 8 = s8a (s.add t) := rfl
theorem s8_lt {k : Nat} (h : k < 8) : k = 0 ∨ k = 1 ∨ k = 2 ∨ k = 3 ∨ k = 4 ∨ k = 5 ∨ k = 6 ∨ k = 7 := by omega
theorem s8m_at (s t : S8) {k : Nat} (h : k < 8) : (s8m s t k)[k]? = some (wv (s.l.getD k 0)) := by
 rcases s8_lt h with rfl | rfl | rfl | rfl | rfl | rfl | rfl | rfl <;> rfl
theorem s8a_at (s : S8) {k : Nat} (h : k < 8) : (s8a s)[k]? = some (wv (s.l.getD k 0)) := by
 rcases s8_lt h with rfl | rfl | rfl | rfl | rfl | rfl | rfl | rfl <;> rfl
theorem s8m_set (s t : S8) {k : Nat} (h : k < 8) : (s8m s t k).setIfInBounds k (wv (s.l.getD k 0 + t.l.getD k 0)) = s8m s t (k + 1) := by
 rcases s8_lt h with rfl | rfl | rfl | rfl | rfl | rfl | rfl | rfl <;> rfl
theorem ix_word {P : Program} {N n : Nat} (t e : TypeId) (hu : P.underlying t = some (.array N e)) (he : P.underlying e = some (.int .u32)) (hs : (P.info? e).map (·.size) = some 1) (cs : Array Value) (x : W32) (hv : cs[n]? = some (wv x)) (hn : n < N) (w : World) :
 (Instr.index t (.agg cs) (.int .i64 n)).run P w = .ok (wv x) w := by
 have hagg : (isAgg e).run P w = .ok false w := by
  unfold isAgg
  rw [Sem.run_bind, run_underlying he w]
  rfl
 have hso : (sizeOf e).run P w = .ok 1 w := by
  cases hq : P.info? e with
  | none => simp [hq] at hs
  | some i =>
   have : i.size = 1 := by simpa [hq] using hs
   simp [sizeOf, typeInfo, hq, this]
 have hp : (part e cs (n * 1)).run P w = .ok (wv x) w := by
  unfold part
  rw [Sem.run_bind, hagg]
  simp [hv]
 have hnI : (n : Int) < N := by omega
 simp [Instr.index, run_underlying hu, asIntOf, hso, Sem.run_bind]
 rw [if_pos hn]
 simpa using hp
structure Shg (w : World) : Prop where
 k : ∀ i, i < 64 → w.cell? ⟨1, i, none⟩ = some (wv (shaK.getD i 0))
 f : ∀ i, i < 8 → w.cell? ⟨0, i, none⟩ = some (wv (shaH.l.getD i 0))
theorem Shg.lt {w : World} (h : Shg w) : 1 < w.heap.size ∧ 0 < w.heap.size := ⟨World.block_lt_of_cell? _ _ (h.k 0 (by decide)), World.block_lt_of_cell? _ _ (h.f 0 (by decide))⟩
theorem Shg.below {w w' : World} (h : Shg w) (hb : Below w.heap.size w w') : Shg w' :=
 ⟨fun i hi => (hb.cell (p := ⟨1, i, none⟩) h.lt.1).trans (h.k i hi), fun i hi => (hb.cell (p := ⟨0, i, none⟩) h.lt.2).trans (h.f i hi)⟩
theorem res_s8 {fn : Func} {a : Nat} {tmps : Array Value} {w : World} {g : Nat} {cs : Array Value} (hres : fn.results = #[.cell a 199]) (ha : tmps.getD a undef = .pointer (some ⟨g, 0, none⟩)) (hB : Blk w g 199 cs) (hs : cs.size = 8) : (results fn tmps).run Tryz.prog w = .ok (.agg cs) w := by
 have h := run_loadVar_at (P := Tryz.prog) w ⟨g, 0, none⟩ 199 cs hB.cells _ Tryz.underlying199 rfl (by rw [hs]; kernel_rfl)
 have ha' : tmps[a]?.getD undef = .pointer (some ⟨g, 0, none⟩) := by simpa using ha
 simp [results, hres, asAddr, h, ha']
set_option maxRecDepth 100000 in
set_option maxHeartbeats 1000000 in
theorem Step_any {A : Option Addr} {c : Nat} (s : S8) (b : List UInt8) (w : World) (h : SlB w A c b) (hl : b.length = 64) (hG : Shg w) :
 Calls Tryz.prog 135 #[.agg (s8a s), .slice A b.length c] w fun e w' => e = .returned (.agg (s8a (stp s b))) ∧ Below w.heap.size w w' := by
 have hM := ((Mm.start w).alloc (s8a s) 199).alloc z8a 199
 rw [show (w.alloc (.cells (s8a s) 199)).heap.size = w.heap.size + 1 from by simp] at hM
 have hz : ((w.alloc (.cells (s8a s) 199)).alloc (.cells z8a 199)).heap.size = w.heap.size + 2 := by simp
 have hs8 := fun s => Lib.hid (s8a_size s)
 have hsa := fun s => Lib.hid (s8a_all s)
 go_enter Tryz.func135, Tryz.ntmps135
 go_upto_region 1 with (fail)
 refine gen1 (T := fun W => Mm w W [(w.heap.size + 1, 199, z8a), (w.heap.size, 199, s8a s)] []) hM (fun w0 hM => ?_)
 have hM1 := hM.alloc (s8a s) 199
 have hlo := hM.bel.size
 have hz1 := hM.b0.lt
 go_upto_region 2 with (first | (refine wpl_loadG rfl 199 _ rfl ⟨w.heap.size, 0, none⟩ (s8a s) rfl hM.b1.cells _ Tryz.underlying199 rfl (by rw [(hs8 s).out]; kernel_rfl) ?_) | (refine wpl_storeN rfl 199 _ _ rfl _ (s8a s) 199 rfl rfl (by rw [(hs8 s).out]; kernel_rfl) (by rw [(hs8 s).out]; rfl) (hsa s).out ?_))
 generalize hWe : w0.alloc (.cells (s8a s) 199) = w1 at *
 clear hWe
 obtain ⟨g, hg⟩ : ∃ g, w0.heap.size = g := ⟨_, rfl⟩
 rw [hg] at hM1 hz1 hlo ⊢
 clear hM hg
 have hsl : SlB w1 A c b := Sl.below h hM1.bel
 go_wp2_with fail
 have hSc := Sched_any b w1 hsl hl
 obtain ⟨ws, hws⟩ : ∃ ws, sch b 64 = ws := ⟨_, rfl⟩
 have hwl : ws.length = 64 := by rw [← hws]; exact sch_len b 64
 rw [hws, hl] at hSc
 have HWS := Lib.hid hws
 clear hws
 refine hSc.mono ?_
 clear hSc
 rintro e w2 ⟨rfl, hb2⟩
 have hM2 := hM1.call hb2
 clear hM1 hb2 hsl
 go_wp2_with fail
 go_loopw [16] (fun x wr => ∃ n : Nat, n ≤ 64 ∧ x = .int .i64 n ∧ Mm w wr [(g, 199, s8a (rnds ws s n)), (w.heap.size + 1, 199, z8a), (w.heap.size, 199, s8a s)] []) (fun x wr => 64 - (intOf x).toNat)
 case atStart => exact ⟨0, by omega, rfl, hM2⟩
 case round =>
  clear hM2
  obtain ⟨n, hn, rfl, hM⟩ := hrel
  by_cases hlt : n < 64
  · have hnI : (n : Int) < 64 := by omega
    have hix : (wca ws 64)[n]? = some (wv (ws.getD n 0)) := wca_at (by rw [hwl]; exact hlt)
    have hrs := Lib.hid (show rnds ws s (n + 1) = rnd (rnds ws s n) (shaK.getD n 0) (ws.getD n 0) from rfl)
    have hkc := (hG.below hM.bel).k n hlt
    generalize ws.getD n 0 = x at *
    generalize shaK.getD n 0 = kk at *
    generalize rnds ws s n = r at *
    have hixx : ∀ W : World, (Instr.index 246 (.agg (wca ws 64)) (.int .i64 n)).run Tryz.prog W = .ok (wv x) W := fun W => ix_word 246 198 Tryz.underlying246 Tryz.underlying198 (by kernel_rfl) _ x hix hlt W
    have hB := hM.b0
    have c0 := hB.cell 0
    have c1 := hB.cell 1
    have c2 := hB.cell 2
    have c3 := hB.cell 3
    have c4 := hB.cell 4
    have c5 := hB.cell 5
    have c6 := hB.cell 6
    have c7 := hB.cell 7
    simp only [s8a] at c0 c1 c2 c3 c4 c5 c6 c7
    go_upto_region 5 with (fail)
    go_quiet (fail)
    have hM5 := hM.drewN nq
    have hk5 : (wr.drewN nq).cell? ⟨1, n, none⟩ = some (wv kk) := hkc
    clear hB c0 c1 c2 c3 c4 c5 c6 c7 hM hkc
    generalize wr.drewN nq = w5 at *
    have hst : Blk w5.drew g 199 (s8a r) ∧ w5.drew.cell? ⟨1, n, none⟩ = some (wv kk) := ⟨hM5.b0.drew, hk5⟩
    have R2 := right2
    have R6 := right6
    have R11 := right11
    have R13 := right13
    have R22 := right22
    have R25 := right25
    have q1 := add_wn
    have q2 := xor_wn
    have q3 := and_wn
    have q4 := or_wn
    have HM5 := Lib.hid hM5
    clear hM5 hk5
    go_upto_region 6 with (fail)
    refine wp_region_held_drew (S := (fun W => Blk W g 199 (s8a r) ∧ W.cell? ⟨1, n, none⟩ = some (wv kk))) (by kernel_rfl) ?_ (fun hHeld => ?_)
    · first | exact hst | exact hHeld
    refine wTk (i := 0) (oi := ⟨some 24, _, _, _, _, _⟩) (v := ?_) rfl ⟨by kernel_rfl, ?_⟩ (by assumption) ?_
    rotate_left
    · (intro wS hSw; (try dsimp only at hSw); obtain ⟨hbb, hkk⟩ := hSw; have c0 := hbb.cell 0; have c1 := hbb.cell 1; have c2 := hbb.cell 2; have c5 := hbb.cell 5; have c6 := hbb.cell 6; have c7 := hbb.cell 7; simp only [s8a] at c0 c1 c2 c5 c6 c7; clear hbb; go_simp; (try with_reducible rfl))
    (try simp only [Act.put, pS0, pS1, pS2])
    refine wTk (i := 1) (oi := ⟨some 25, _, _, _, _, _⟩) (v := ?_) rfl ⟨by kernel_rfl, ?_⟩ (by assumption) ?_
    rotate_left
    · (intro wS hSw; (try dsimp only at hSw); obtain ⟨hbb, hkk⟩ := hSw; have c0 := hbb.cell 0; have c1 := hbb.cell 1; have c2 := hbb.cell 2; have c5 := hbb.cell 5; have c6 := hbb.cell 6; have c7 := hbb.cell 7; simp only [s8a] at c0 c1 c2 c5 c6 c7; clear hbb; go_simp; (try with_reducible rfl))
    (try simp only [Act.put, pS0, pS1, pS2])
    refine wTk (i := 2) (oi := ⟨some 26, _, _, _, _, _⟩) (v := ?_) rfl ⟨by kernel_rfl, ?_⟩ (by assumption) ?_
    rotate_left
    · (intro wS hSw; (try dsimp only at hSw); obtain ⟨hbb, hkk⟩ := hSw; have c0 := hbb.cell 0; have c1 := hbb.cell 1; have c2 := hbb.cell 2; have c5 := hbb.cell 5; have c6 := hbb.cell 6; have c7 := hbb.cell 7; simp only [s8a] at c0 c1 c2 c5 c6 c7; clear hbb; go_simp; (try with_reducible rfl))
    (try simp only [Act.put, pS0, pS1, pS2])
    refine wTk (i := 4) (oi := ⟨some 28, _, _, _, _, _⟩) (v := ?_) rfl ⟨by kernel_rfl, ?_⟩ (by assumption) ?_
    rotate_left
    · (intro wS hSw; (try dsimp only at hSw); obtain ⟨hbb, hkk⟩ := hSw; have c0 := hbb.cell 0; have c1 := hbb.cell 1; have c2 := hbb.cell 2; have c5 := hbb.cell 5; have c6 := hbb.cell 6; have c7 := hbb.cell 7; simp only [s8a] at c0 c1 c2 c5 c6 c7; clear hbb; go_simp; (try with_reducible rfl))
    (try simp only [Act.put, pS0, pS1, pS2])
    refine wTk (i := 7) (oi := ⟨some 31, _, _, _, _, _⟩) (v := ?_) rfl ⟨by kernel_rfl, ?_⟩ (by assumption) ?_
    rotate_left
    · (intro wS hSw; (try dsimp only at hSw); obtain ⟨hbb, hkk⟩ := hSw; have c0 := hbb.cell 0; have c1 := hbb.cell 1; have c2 := hbb.cell 2; have c5 := hbb.cell 5; have c6 := hbb.cell 6; have c7 := hbb.cell 7; simp only [s8a] at c0 c1 c2 c5 c6 c7; clear hbb; go_simp; (try with_reducible rfl))
    (try simp only [Act.put, pS0, pS1, pS2])
    refine wTk (i := 11) (oi := ⟨some 35, _, _, _, _, _⟩) (v := ?_) rfl ⟨by kernel_rfl, ?_⟩ (by assumption) ?_
    rotate_left
    · (intro wS hSw; (try dsimp only at hSw); obtain ⟨hbb, hkk⟩ := hSw; have c0 := hbb.cell 0; have c1 := hbb.cell 1; have c2 := hbb.cell 2; have c5 := hbb.cell 5; have c6 := hbb.cell 6; have c7 := hbb.cell 7; simp only [s8a] at c0 c1 c2 c5 c6 c7; clear hbb; go_simp; (try with_reducible rfl))
    (try simp only [Act.put, pS0, pS1, pS2])
    refine wTk (i := 12) (oi := ⟨some 36, _, _, _, _, _⟩) (v := ?_) rfl ⟨by kernel_rfl, ?_⟩ (by assumption) ?_
    rotate_left
    · (intro wS hSw; (try dsimp only at hSw); obtain ⟨hbb, hkk⟩ := hSw; have c0 := hbb.cell 0; have c1 := hbb.cell 1; have c2 := hbb.cell 2; have c5 := hbb.cell 5; have c6 := hbb.cell 6; have c7 := hbb.cell 7; simp only [s8a] at c0 c1 c2 c5 c6 c7; clear hbb; go_simp; (try with_reducible rfl))
    (try simp only [Act.put, pS0, pS1, pS2])
    refine wTk (i := 13) (oi := ⟨some 37, _, _, _, _, _⟩) (v := ?_) rfl ⟨by kernel_rfl, ?_⟩ (by assumption) ?_
    rotate_left
    · (intro wS hSw; (try dsimp only at hSw); obtain ⟨hbb, hkk⟩ := hSw; have c0 := hbb.cell 0; have c1 := hbb.cell 1; have c2 := hbb.cell 2; have c5 := hbb.cell 5; have c6 := hbb.cell 6; have c7 := hbb.cell 7; simp only [s8a] at c0 c1 c2 c5 c6 c7; clear hbb; go_simp; (try with_reducible rfl))
    (try simp only [Act.put, pS0, pS1, pS2])
    refine wTk (i := 14) (oi := ⟨some 38, _, _, _, _, _⟩) (v := ?_) rfl ⟨by kernel_rfl, ?_⟩ (by assumption) ?_
    rotate_left
    · (intro wS hSw; (try dsimp only at hSw); obtain ⟨hbb, hkk⟩ := hSw; have c0 := hbb.cell 0; have c1 := hbb.cell 1; have c2 := hbb.cell 2; have c5 := hbb.cell 5; have c6 := hbb.cell 6; have c7 := hbb.cell 7; simp only [s8a] at c0 c1 c2 c5 c6 c7; clear hbb; go_simp; (try with_reducible rfl))
    (try simp only [Act.put, pS0, pS1, pS2])
    refine wTk (i := 15) (oi := ⟨some 39, _, _, _, _, _⟩) (v := ?_) rfl ⟨by kernel_rfl, ?_⟩ (by assumption) ?_
    rotate_left
    · (intro wS hSw; (try dsimp only at hSw); obtain ⟨hbb, hkk⟩ := hSw; have c0 := hbb.cell 0; have c1 := hbb.cell 1; have c2 := hbb.cell 2; have c5 := hbb.cell 5; have c6 := hbb.cell 6; have c7 := hbb.cell 7; simp only [s8a] at c0 c1 c2 c5 c6 c7; clear hbb; go_simp; (try with_reducible rfl))
    (try simp only [Act.put, pS0, pS1, pS2])
    refine wTk (i := 16) (oi := ⟨some 40, _, _, _, _, _⟩) (v := ?_) rfl ⟨by kernel_rfl, ?_⟩ (by assumption) ?_
    rotate_left
    · (intro wS hSw; (try dsimp only at hSw); obtain ⟨hbb, hkk⟩ := hSw; have c0 := hbb.cell 0; have c1 := hbb.cell 1; have c2 := hbb.cell 2; have c5 := hbb.cell 5; have c6 := hbb.cell 6; have c7 := hbb.cell 7; simp only [s8a] at c0 c1 c2 c5 c6 c7; clear hbb; go_simp; (try with_reducible rfl))
    (try simp only [Act.put, pS0, pS1, pS2])
    refine wTk (i := 17) (oi := ⟨some 41, _, _, _, _, _⟩) (v := ?_) rfl ⟨by kernel_rfl, ?_⟩ (by assumption) ?_
    rotate_left
    · (intro wS hSw; (try dsimp only at hSw); obtain ⟨hbb, hkk⟩ := hSw; have c0 := hbb.cell 0; have c1 := hbb.cell 1; have c2 := hbb.cell 2; have c5 := hbb.cell 5; have c6 := hbb.cell 6; have c7 := hbb.cell 7; simp only [s8a] at c0 c1 c2 c5 c6 c7; clear hbb; go_simp; (try with_reducible rfl))
    (try simp only [Act.put, pS0, pS1, pS2])
    refine wTk (i := 18) (oi := ⟨some 42, _, _, _, _, _⟩) (v := ?_) rfl ⟨by kernel_rfl, ?_⟩ (by assumption) ?_
    rotate_left
    · (intro wS hSw; (try dsimp only at hSw); obtain ⟨hbb, hkk⟩ := hSw; have c0 := hbb.cell 0; have c1 := hbb.cell 1; have c2 := hbb.cell 2; have c5 := hbb.cell 5; have c6 := hbb.cell 6; have c7 := hbb.cell 7; simp only [s8a] at c0 c1 c2 c5 c6 c7; clear hbb; go_simp; (try with_reducible rfl))
    (try simp only [Act.put, pS0, pS1, pS2])
    refine wTk (i := 19) (oi := ⟨some 43, _, _, _, _, _⟩) (v := ?_) rfl ⟨by kernel_rfl, ?_⟩ (by assumption) ?_
    rotate_left
    · (intro wS hSw; (try dsimp only at hSw); obtain ⟨hbb, hkk⟩ := hSw; have c0 := hbb.cell 0; have c1 := hbb.cell 1; have c2 := hbb.cell 2; have c5 := hbb.cell 5; have c6 := hbb.cell 6; have c7 := hbb.cell 7; simp only [s8a] at c0 c1 c2 c5 c6 c7; clear hbb; go_simp; (try with_reducible rfl))
    (try simp only [Act.put, pS0, pS1, pS2])
    refine wTk (i := 20) (oi := ⟨some 44, _, _, _, _, _⟩) (v := ?_) rfl ⟨by kernel_rfl, ?_⟩ (by assumption) ?_
    rotate_left
    · (intro wS hSw; (try dsimp only at hSw); obtain ⟨hbb, hkk⟩ := hSw; have c0 := hbb.cell 0; have c1 := hbb.cell 1; have c2 := hbb.cell 2; have c5 := hbb.cell 5; have c6 := hbb.cell 6; have c7 := hbb.cell 7; simp only [s8a] at c0 c1 c2 c5 c6 c7; clear hbb; go_simp; (try with_reducible rfl))
    (try simp only [Act.put, pS0, pS1, pS2])
    refine wTk (i := 22) (oi := ⟨some 46, _, _, _, _, _⟩) (v := ?_) rfl ⟨by kernel_rfl, ?_⟩ (by assumption) ?_
    rotate_left
    · (intro wS hSw; (try dsimp only at hSw); obtain ⟨hbb, hkk⟩ := hSw; have c0 := hbb.cell 0; have c1 := hbb.cell 1; have c2 := hbb.cell 2; have c5 := hbb.cell 5; have c6 := hbb.cell 6; have c7 := hbb.cell 7; simp only [s8a] at c0 c1 c2 c5 c6 c7; clear hbb; go_simp; (try with_reducible rfl))
    (try simp only [Act.put, pS0, pS1, pS2])
    refine wTk (i := 23) (oi := ⟨some 47, _, _, _, _, _⟩) (v := ?_) rfl ⟨by kernel_rfl, ?_⟩ (by assumption) ?_
    rotate_left
    · (intro wS hSw; (try dsimp only at hSw); obtain ⟨hbb, hkk⟩ := hSw; have c0 := hbb.cell 0; have c1 := hbb.cell 1; have c2 := hbb.cell 2; have c5 := hbb.cell 5; have c6 := hbb.cell 6; have c7 := hbb.cell 7; simp only [s8a] at c0 c1 c2 c5 c6 c7; clear hbb; go_simp; (try with_reducible rfl))
    (try simp only [Act.put, pS0, pS1, pS2])
    refine wTk (i := 24) (oi := ⟨some 48, _, _, _, _, _⟩) (v := ?_) rfl ⟨by kernel_rfl, ?_⟩ (by assumption) ?_
    rotate_left
    · (intro wS hSw; (try dsimp only at hSw); obtain ⟨hbb, hkk⟩ := hSw; have c0 := hbb.cell 0; have c1 := hbb.cell 1; have c2 := hbb.cell 2; have c5 := hbb.cell 5; have c6 := hbb.cell 6; have c7 := hbb.cell 7; simp only [s8a] at c0 c1 c2 c5 c6 c7; clear hbb; go_simp; (try with_reducible rfl))
    (try simp only [Act.put, pS0, pS1, pS2])
    refine wTk (i := 26) (oi := ⟨some 50, _, _, _, _, _⟩) (v := ?_) rfl ⟨by kernel_rfl, ?_⟩ (by assumption) ?_
    rotate_left
    · (intro wS hSw; (try dsimp only at hSw); obtain ⟨hbb, hkk⟩ := hSw; have c0 := hbb.cell 0; have c1 := hbb.cell 1; have c2 := hbb.cell 2; have c5 := hbb.cell 5; have c6 := hbb.cell 6; have c7 := hbb.cell 7; simp only [s8a] at c0 c1 c2 c5 c6 c7; clear hbb; go_simp; (try with_reducible rfl))
    (try simp only [Act.put, pS0, pS1, pS2])
    refine wR1 (i := 3) (o := ⟨some 27, _, _, _, _, _⟩) rfl (fun K hK => ?_)
    go_simp
    ((with_reducible refine (R6.out _ _).mono ?_); rintro e w8 ⟨rfl, rfl⟩)
    go_wp2_with fail
    refine hK.out _ _ ?_ (fun hHeld => ?_)
    · ((try dsimp only); (exact hst))
    clear hK K
    (try simp only [Act.put, pS0, pS1, pS2])
    refine wR1 (i := 5) (o := ⟨some 29, _, _, _, _, _⟩) rfl (fun K hK => ?_)
    go_simp
    ((with_reducible refine (R11.out _ _).mono ?_); rintro e w8 ⟨rfl, rfl⟩)
    go_wp2_with fail
    refine hK.out _ _ ?_ (fun hHeld => ?_)
    · ((try dsimp only); (exact hst))
    clear hK K
    (try simp only [Act.put, pS0, pS1, pS2])
    refine wTk (i := 6) (oi := ⟨some 30, _, _, _, _, _⟩) (v := ?_) rfl ⟨by kernel_rfl, ?_⟩ (by assumption) ?_
    rotate_left
    · (intro wS hSw; (try dsimp only at hSw); obtain ⟨hbb, hkk⟩ := hSw; have c0 := hbb.cell 0; have c1 := hbb.cell 1; have c2 := hbb.cell 2; have c5 := hbb.cell 5; have c6 := hbb.cell 6; have c7 := hbb.cell 7; simp only [s8a] at c0 c1 c2 c5 c6 c7; clear hbb; go_simp; (try with_reducible rfl))
    (try simp only [Act.put, pS0, pS1, pS2])
    refine wR1 (i := 8) (o := ⟨some 32, _, _, _, _, _⟩) rfl (fun K hK => ?_)
    go_simp
    ((with_reducible refine (R25.out _ _).mono ?_); rintro e w8 ⟨rfl, rfl⟩)
    go_wp2_with fail
    refine hK.out _ _ ?_ (fun hHeld => ?_)
    · ((try dsimp only); (exact hst))
    clear hK K
    (try simp only [Act.put, pS0, pS1, pS2])
    refine wTk (i := 9) (oi := ⟨some 33, _, _, _, _, _⟩) (v := ?_) rfl ⟨by kernel_rfl, ?_⟩ (by assumption) ?_
    rotate_left
    · (intro wS hSw; (try dsimp only at hSw); obtain ⟨hbb, hkk⟩ := hSw; have c0 := hbb.cell 0; have c1 := hbb.cell 1; have c2 := hbb.cell 2; have c5 := hbb.cell 5; have c6 := hbb.cell 6; have c7 := hbb.cell 7; simp only [s8a] at c0 c1 c2 c5 c6 c7; clear hbb; go_simp; (try with_reducible rfl))
    (try simp only [Act.put, pS0, pS1, pS2])
    refine wTk (i := 10) (oi := ⟨some 34, _, _, _, _, _⟩) (v := ?_) rfl ⟨by kernel_rfl, ?_⟩ (by assumption) ?_
    rotate_left
    · (intro wS hSw; (try dsimp only at hSw); obtain ⟨hbb, hkk⟩ := hSw; have c0 := hbb.cell 0; have c1 := hbb.cell 1; have c2 := hbb.cell 2; have c5 := hbb.cell 5; have c6 := hbb.cell 6; have c7 := hbb.cell 7; simp only [s8a] at c0 c1 c2 c5 c6 c7; clear hbb; go_simp; (try with_reducible rfl))
    (try simp only [Act.put, pS0, pS1, pS2])
    refine wTk (i := 21) (oi := ⟨some 45, _, _, _, _, _⟩) (v := ?_) rfl ⟨by kernel_rfl, ?_⟩ (by assumption) ?_
    rotate_left
    · (intro wS hSw; (try dsimp only at hSw); obtain ⟨hbb, hkk⟩ := hSw; have c0 := hbb.cell 0; have c1 := hbb.cell 1; have c2 := hbb.cell 2; have c5 := hbb.cell 5; have c6 := hbb.cell 6; have c7 := hbb.cell 7; simp only [s8a] at c0 c1 c2 c5 c6 c7; clear hbb; go_simp; (try with_reducible rfl))
    (try simp only [Act.put, pS0, pS1, pS2])
    refine wTk (i := 25) (oi := ⟨some 49, _, _, _, _, _⟩) (v := ?_) rfl ⟨by kernel_rfl, ?_⟩ (by assumption) ?_
    rotate_left
    · (intro wS hSw; (try dsimp only at hSw); obtain ⟨hbb, hkk⟩ := hSw; have c0 := hbb.cell 0; have c1 := hbb.cell 1; have c2 := hbb.cell 2; have c5 := hbb.cell 5; have c6 := hbb.cell 6; have c7 := hbb.cell 7; simp only [s8a] at c0 c1 c2 c5 c6 c7; clear hbb; go_simp; (try with_reducible rfl))
    (try simp only [Act.put, pS0, pS1, pS2])
    refine wTk (i := 27) (oi := ⟨some 51, _, _, _, _, _⟩) (v := ?_) rfl ⟨by kernel_rfl, ?_⟩ (by assumption) ?_
    rotate_left
    · (intro wS hSw; (try dsimp only at hSw); obtain ⟨hbb, hkk⟩ := hSw; have c0 := hbb.cell 0; have c1 := hbb.cell 1; have c2 := hbb.cell 2; have c5 := hbb.cell 5; have c6 := hbb.cell 6; have c7 := hbb.cell 7; simp only [s8a] at c0 c1 c2 c5 c6 c7; clear hbb; go_simp; (try with_reducible rfl))
    (try simp only [Act.put, pS0, pS1, pS2])
    refine wTk (i := 28) (oi := ⟨some 10, _, _, _, _, _⟩) (v := ?_) rfl ⟨by kernel_rfl, ?_⟩ (by assumption) ?_
    rotate_left
    · (intro wS hSw; (try dsimp only at hSw); obtain ⟨hbb, hkk⟩ := hSw; have c0 := hbb.cell 0; have c1 := hbb.cell 1; have c2 := hbb.cell 2; have c5 := hbb.cell 5; have c6 := hbb.cell 6; have c7 := hbb.cell 7; simp only [s8a] at c0 c1 c2 c5 c6 c7; clear hbb; go_simp; (try with_reducible rfl))
    (try simp only [Act.put, pS0, pS1, pS2])
    refine wpAnyH_done (by kernel_rfl) ?_ _
    rw [ch3_alt]
    obtain ⟨xx, hxx⟩ : ∃ xx, r.h + (tr r.e 6 ^^^ tr r.e 11 ^^^ tr r.e 25) + ch3 r.e r.f r.g + kk + x = xx := ⟨_, rfl⟩
    rw [hxx]
    have HXX := Lib.hid hxx
    have HM6 := Lib.hid HM5.out.drew
    clear hst hHeld HM5 hxx
    generalize w5.drew = w6 at *
    have hst := HM6.out.b0.drew
    go_upto_region 7 with (fail)
    refine wp_region_held_drew (S := (fun W => Blk W g 199 (s8a r))) (by kernel_rfl) ?_ (fun hHeld => ?_)
    · first | exact hst | exact hHeld
    refine wTk (i := 0) (oi := ⟨some 52, _, _, _, _, _⟩) (v := ?_) rfl ⟨by kernel_rfl, ?_⟩ (by assumption) ?_
    rotate_left
    · (intro wS hSw; (try dsimp only at hSw); have c1 := hSw.cell 1; have c2 := hSw.cell 2; simp only [s8a] at c1 c2; clear hSw; go_simp; (try with_reducible rfl))
    (try simp only [Act.put, pS0, pS1, pS2])
    refine wTk (i := 2) (oi := ⟨some 54, _, _, _, _, _⟩) (v := ?_) rfl ⟨by kernel_rfl, ?_⟩ (by assumption) ?_
    rotate_left
    · (intro wS hSw; (try dsimp only at hSw); have c1 := hSw.cell 1; have c2 := hSw.cell 2; simp only [s8a] at c1 c2; clear hSw; go_simp; (try with_reducible rfl))
    (try simp only [Act.put, pS0, pS1, pS2])
    refine wTk (i := 5) (oi := ⟨some 57, _, _, _, _, _⟩) (v := ?_) rfl ⟨by kernel_rfl, ?_⟩ (by assumption) ?_
    rotate_left
    · (intro wS hSw; (try dsimp only at hSw); have c1 := hSw.cell 1; have c2 := hSw.cell 2; simp only [s8a] at c1 c2; clear hSw; go_simp; (try with_reducible rfl))
    (try simp only [Act.put, pS0, pS1, pS2])
    refine wTk (i := 8) (oi := ⟨some 60, _, _, _, _, _⟩) (v := ?_) rfl ⟨by kernel_rfl, ?_⟩ (by assumption) ?_
    rotate_left
    · (intro wS hSw; (try dsimp only at hSw); have c1 := hSw.cell 1; have c2 := hSw.cell 2; simp only [s8a] at c1 c2; clear hSw; go_simp; (try with_reducible rfl))
    (try simp only [Act.put, pS0, pS1, pS2])
    refine wTk (i := 9) (oi := ⟨some 61, _, _, _, _, _⟩) (v := ?_) rfl ⟨by kernel_rfl, ?_⟩ (by assumption) ?_
    rotate_left
    · (intro wS hSw; (try dsimp only at hSw); have c1 := hSw.cell 1; have c2 := hSw.cell 2; simp only [s8a] at c1 c2; clear hSw; go_simp; (try with_reducible rfl))
    (try simp only [Act.put, pS0, pS1, pS2])
    refine wTk (i := 10) (oi := ⟨some 62, _, _, _, _, _⟩) (v := ?_) rfl ⟨by kernel_rfl, ?_⟩ (by assumption) ?_
    rotate_left
    · (intro wS hSw; (try dsimp only at hSw); have c1 := hSw.cell 1; have c2 := hSw.cell 2; simp only [s8a] at c1 c2; clear hSw; go_simp; (try with_reducible rfl))
    (try simp only [Act.put, pS0, pS1, pS2])
    refine wTk (i := 11) (oi := ⟨some 63, _, _, _, _, _⟩) (v := ?_) rfl ⟨by kernel_rfl, ?_⟩ (by assumption) ?_
    rotate_left
    · (intro wS hSw; (try dsimp only at hSw); have c1 := hSw.cell 1; have c2 := hSw.cell 2; simp only [s8a] at c1 c2; clear hSw; go_simp; (try with_reducible rfl))
    (try simp only [Act.put, pS0, pS1, pS2])
    refine wTk (i := 12) (oi := ⟨some 64, _, _, _, _, _⟩) (v := ?_) rfl ⟨by kernel_rfl, ?_⟩ (by assumption) ?_
    rotate_left
    · (intro wS hSw; (try dsimp only at hSw); have c1 := hSw.cell 1; have c2 := hSw.cell 2; simp only [s8a] at c1 c2; clear hSw; go_simp; (try with_reducible rfl))
    (try simp only [Act.put, pS0, pS1, pS2])
    refine wTk (i := 13) (oi := ⟨some 65, _, _, _, _, _⟩) (v := ?_) rfl ⟨by kernel_rfl, ?_⟩ (by assumption) ?_
    rotate_left
    · (intro wS hSw; (try dsimp only at hSw); have c1 := hSw.cell 1; have c2 := hSw.cell 2; simp only [s8a] at c1 c2; clear hSw; go_simp; (try with_reducible rfl))
    (try simp only [Act.put, pS0, pS1, pS2])
    refine wTk (i := 14) (oi := ⟨some 66, _, _, _, _, _⟩) (v := ?_) rfl ⟨by kernel_rfl, ?_⟩ (by assumption) ?_
    rotate_left
    · (intro wS hSw; (try dsimp only at hSw); have c1 := hSw.cell 1; have c2 := hSw.cell 2; simp only [s8a] at c1 c2; clear hSw; go_simp; (try with_reducible rfl))
    (try simp only [Act.put, pS0, pS1, pS2])
    refine wTk (i := 15) (oi := ⟨some 67, _, _, _, _, _⟩) (v := ?_) rfl ⟨by kernel_rfl, ?_⟩ (by assumption) ?_
    rotate_left
    · (intro wS hSw; (try dsimp only at hSw); have c1 := hSw.cell 1; have c2 := hSw.cell 2; simp only [s8a] at c1 c2; clear hSw; go_simp; (try with_reducible rfl))
    (try simp only [Act.put, pS0, pS1, pS2])
    refine wTk (i := 16) (oi := ⟨some 68, _, _, _, _, _⟩) (v := ?_) rfl ⟨by kernel_rfl, ?_⟩ (by assumption) ?_
    rotate_left
    · (intro wS hSw; (try dsimp only at hSw); have c1 := hSw.cell 1; have c2 := hSw.cell 2; simp only [s8a] at c1 c2; clear hSw; go_simp; (try with_reducible rfl))
    (try simp only [Act.put, pS0, pS1, pS2])
    refine wTk (i := 17) (oi := ⟨some 69, _, _, _, _, _⟩) (v := ?_) rfl ⟨by kernel_rfl, ?_⟩ (by assumption) ?_
    rotate_left
    · (intro wS hSw; (try dsimp only at hSw); have c1 := hSw.cell 1; have c2 := hSw.cell 2; simp only [s8a] at c1 c2; clear hSw; go_simp; (try with_reducible rfl))
    (try simp only [Act.put, pS0, pS1, pS2])
    refine wTk (i := 18) (oi := ⟨some 70, _, _, _, _, _⟩) (v := ?_) rfl ⟨by kernel_rfl, ?_⟩ (by assumption) ?_
    rotate_left
    · (intro wS hSw; (try dsimp only at hSw); have c1 := hSw.cell 1; have c2 := hSw.cell 2; simp only [s8a] at c1 c2; clear hSw; go_simp; (try with_reducible rfl))
    (try simp only [Act.put, pS0, pS1, pS2])
    refine wTk (i := 19) (oi := ⟨some 71, _, _, _, _, _⟩) (v := ?_) rfl ⟨by kernel_rfl, ?_⟩ (by assumption) ?_
    rotate_left
    · (intro wS hSw; (try dsimp only at hSw); have c1 := hSw.cell 1; have c2 := hSw.cell 2; simp only [s8a] at c1 c2; clear hSw; go_simp; (try with_reducible rfl))
    (try simp only [Act.put, pS0, pS1, pS2])
    refine wR1 (i := 1) (o := ⟨some 53, _, _, _, _, _⟩) rfl (fun K hK => ?_)
    go_simp
    ((with_reducible refine (R2.out _ _).mono ?_); rintro e w8 ⟨rfl, rfl⟩)
    go_wp2_with fail
    refine hK.out _ _ ?_ (fun hHeld => ?_)
    · ((try dsimp only); (exact hst))
    clear hK K
    (try simp only [Act.put, pS0, pS1, pS2])
    refine wR1 (i := 3) (o := ⟨some 55, _, _, _, _, _⟩) rfl (fun K hK => ?_)
    go_simp
    ((with_reducible refine (R13.out _ _).mono ?_); rintro e w8 ⟨rfl, rfl⟩)
    go_wp2_with fail
    refine hK.out _ _ ?_ (fun hHeld => ?_)
    · ((try dsimp only); (exact hst))
    clear hK K
    (try simp only [Act.put, pS0, pS1, pS2])
    refine wTk (i := 4) (oi := ⟨some 56, _, _, _, _, _⟩) (v := ?_) rfl ⟨by kernel_rfl, ?_⟩ (by assumption) ?_
    rotate_left
    · (intro wS hSw; (try dsimp only at hSw); have c1 := hSw.cell 1; have c2 := hSw.cell 2; simp only [s8a] at c1 c2; clear hSw; go_simp; (try with_reducible rfl))
    (try simp only [Act.put, pS0, pS1, pS2])
    refine wR1 (i := 6) (o := ⟨some 58, _, _, _, _, _⟩) rfl (fun K hK => ?_)
    go_simp
    ((with_reducible refine (R22.out _ _).mono ?_); rintro e w8 ⟨rfl, rfl⟩)
    go_wp2_with fail
    refine hK.out _ _ ?_ (fun hHeld => ?_)
    · ((try dsimp only); (exact hst))
    clear hK K
    (try simp only [Act.put, pS0, pS1, pS2])
    refine wTk (i := 7) (oi := ⟨some 59, _, _, _, _, _⟩) (v := ?_) rfl ⟨by kernel_rfl, ?_⟩ (by assumption) ?_
    rotate_left
    · (intro wS hSw; (try dsimp only at hSw); have c1 := hSw.cell 1; have c2 := hSw.cell 2; simp only [s8a] at c1 c2; clear hSw; go_simp; (try with_reducible rfl))
    (try simp only [Act.put, pS0, pS1, pS2])
    refine wTk (i := 20) (oi := ⟨some 72, _, _, _, _, _⟩) (v := ?_) rfl ⟨by kernel_rfl, ?_⟩ (by assumption) ?_
    rotate_left
    · (intro wS hSw; (try dsimp only at hSw); have c1 := hSw.cell 1; have c2 := hSw.cell 2; simp only [s8a] at c1 c2; clear hSw; go_simp; (try with_reducible rfl))
    (try simp only [Act.put, pS0, pS1, pS2])
    refine wTk (i := 21) (oi := ⟨some 11, _, _, _, _, _⟩) (v := ?_) rfl ⟨by kernel_rfl, ?_⟩ (by assumption) ?_
    rotate_left
    · (intro wS hSw; (try dsimp only at hSw); have c1 := hSw.cell 1; have c2 := hSw.cell 2; simp only [s8a] at c1 c2; clear hSw; go_simp; (try with_reducible rfl))
    (try simp only [Act.put, pS0, pS1, pS2])
    refine wpAnyH_done (by kernel_rfl) ?_ _
    rw [mj3_alt]
    obtain ⟨yy, hyy⟩ : ∃ yy, (tr r.a 2 ^^^ tr r.a 13 ^^^ tr r.a 22) + mj3 r.a r.b r.c = yy := ⟨_, rfl⟩
    rw [hyy]
    have hrn : Hid (rnds ws s (n + 1) = ⟨xx + yy, r.a, r.b, r.c, r.d + xx, r.e, r.f, r.g⟩) := (show _ = _ from by rw [hrs.out, ← HXX.out, ← hyy]; rfl)
    have hM7 := HM6.out.drew
    clear hst hHeld HM6 hyy HXX hrs q2 q3 q4 R2 R6 R11 R13 R22 R25 hixx hix
    generalize w6.drew = w7 at *
    have hB := hM7.b0
    have c1 := hB.cell 1
    have c2 := hB.cell 2
    have c3 := hB.cell 3
    have c5 := hB.cell 5
    have c6 := hB.cell 6
    simp only [s8a] at c1 c2 c3 c5 c6
    obtain ⟨r2, hr2⟩ : ∃ r2 : S8, r2 = ⟨xx + yy, r.a, r.b, r.c, r.d + xx, r.e, r.f, r.g⟩ := ⟨_, rfl⟩
    have hra : #[wv (xx + yy), wv r.a, wv r.b, wv r.c, wv (r.d + xx), wv r.e, wv r.f, wv r.g] = s8a r2 := by rw [hr2]; rfl
    have HRA := Lib.hid hra
    clear hra
    go_wp2_with ((rw [HRA.out]; refine wpList_store_row rfl 199 _ _ rfl g (s8a r2) rfl rfl 199 (s8a r) hM7.b0 (by rw [(hs8 r2).out]; kernel_rfl) (by rw [(hs8 r).out, (hs8 r2).out]) (hsa r2).out ?_))
    have hM8 := hM7.row (cs' := s8a r2) 0 rfl hM7.b0.row
    subst hr2
    refine ⟨⟨n + 1, hlt, by go_num, ?_⟩, by simp [intOf]; omega⟩
    rw [hrn.out]
    exact hM8
  · obtain rfl : n = 64 := by omega
    have hst : Hid (stp s b = (rnds ws s 64).add s) := (show _ = _ from by unfold stp; rw [HWS.out])
    generalize rnds ws s 64 = r at *
    rw [← s8m_zero r s] at hM
    rw [show ((64 : Nat) : Int) = (64 : Int) from rfl]
    go_wp2_with fail
    go_loopw [92] (fun x wr => ∃ n : Nat, n ≤ 8 ∧ x = .int .i64 n ∧ Mm w wr [(g, 199, s8m r s n), (w.heap.size + 1, 199, z8a), (w.heap.size, 199, s8a s)] []) (fun x wr => 8 - (intOf x).toNat)
    case atStart => exact ⟨0, by omega, rfl, hM⟩
    case round =>
     clear hM
     obtain ⟨n, hn, rfl, hM⟩ := hrel
     by_cases hlt : n < 8
     · have hnI : (n : Int) < 8 := by omega
       have hgne : g ≠ w.heap.size := by have := hM.dis; simp at this; omega
       have hset := Lib.hid (s8m_set r s hlt)
       have hc1 := (hM.b0.drew.cell n).trans (s8m_at r s hlt)
       have hf1 := hM.b0.drew.frozen n
       have hc2 := (hM.b2.drew.cell n).trans (s8a_at s hlt)
       generalize r.l.getD n 0 = x at *
       generalize s.l.getD n 0 = y at *
       have q1 := add_wn
       have HM := Lib.hid hM
       clear hM
       go_upto_region 13 with (fail)
       refine wp_region_held_drew (S := (fun W => W.cell? ⟨w.heap.size, n, none⟩ = some (wv y))) (by kernel_rfl) ?_ (fun hHeld => ?_)
       · first | exact hc2 | exact hHeld | exact cells_other hc2 (.inl (fun e => hgne e.symm))
       refine wTk (i := 0) (oi := ⟨some 95, _, _, _, _, _⟩) (v := ?_) rfl ⟨by kernel_rfl, ?_⟩ (by assumption) ?_
       rotate_left
       · (intro wS hSw; (try dsimp only at hSw); skip; go_simp; (try with_reducible rfl))
       (try simp only [Act.put, pS0, pS1, pS2])
       refine wTk (i := 1) (oi := ⟨some 96, _, _, _, _, _⟩) (v := ?_) rfl ⟨by kernel_rfl, ?_⟩ (by assumption) ?_
       rotate_left
       · (intro wS hSw; (try dsimp only at hSw); skip; go_simp; (try with_reducible rfl))
       (try simp only [Act.put, pS0, pS1, pS2])
       refine wTk (i := 3) (oi := ⟨some 98, _, _, _, _, _⟩) (v := ?_) rfl ⟨by kernel_rfl, ?_⟩ (by assumption) ?_
       rotate_left
       · (intro wS hSw; (try dsimp only at hSw); skip; go_simp; (try with_reducible rfl))
       (try simp only [Act.put, pS0, pS1, pS2])
       refine wTk (i := 4) (oi := ⟨some 99, _, _, _, _, _⟩) (v := ?_) rfl ⟨by kernel_rfl, ?_⟩ (by assumption) ?_
       rotate_left
       · (intro wS hSw; (try dsimp only at hSw); skip; go_simp; (try with_reducible rfl))
       (try simp only [Act.put, pS0, pS1, pS2])
       refine wTk (i := 5) (oi := ⟨some 100, _, _, _, _, _⟩) (v := ?_) rfl ⟨by kernel_rfl, ?_⟩ (by assumption) ?_
       rotate_left
       · (intro wS hSw; (try dsimp only at hSw); skip; go_simp; (try with_reducible rfl))
       (try simp only [Act.put, pS0, pS1, pS2])
       refine wR1 (i := 2) (o := ⟨some 97, _, _, _, _, _⟩) rfl (fun K hK => ?_)
       go_simp
       refine hK.out _ _ ?_ (fun hHeld => ?_)
       · ((try dsimp only); (exact hc2))
       clear hK K
       (try simp only [Act.put, pS0, pS1, pS2])
       refine wTk (i := 6) (oi := ⟨some 101, _, _, _, _, _⟩) (v := ?_) rfl ⟨by kernel_rfl, ?_⟩ (by assumption) ?_
       rotate_left
       · (intro wS hSw; (try dsimp only at hSw); skip; go_simp; (try with_reducible rfl))
       (try simp only [Act.put, pS0, pS1, pS2])
       refine wTk (i := 7) (oi := ⟨some 102, _, _, _, _, _⟩) (v := ?_) rfl ⟨by kernel_rfl, ?_⟩ (by assumption) ?_
       rotate_left
       · (intro wS hSw; (try dsimp only at hSw); skip; go_simp; (try with_reducible rfl))
       (try simp only [Act.put, pS0, pS1, pS2])
       refine wR1 (i := 8) (o := ⟨none, _, _, _, _, _⟩) rfl (fun K hK => ?_)
       go_simp
       refine hK.out _ _ ?_ (fun hHeld => ?_)
       · ((try dsimp only); (exact cells_other hc2 (.inl (fun e => hgne e.symm))))
       clear hK K
       (try simp only [Act.put, pS0, pS1, pS2])
       refine wpAnyH_done (by kernel_rfl) ?_ _
       all_goals
        have h9 := (HM.out.set 0 n (wv (x + y)) rfl).drew
        rw [hset.out] at h9
        have H9 := Lib.hid h9
        clear h9 HM hset hc1 hf1 hc2 q1
        go_wp2_with fail
        go_roundw
        case rel => exact ⟨n + 1, hlt, by go_num, H9.out⟩
        case measure => simp [intOf]; omega
     · obtain rfl : n = 8 := by omega
       rw [s8m_full] at hM
       go_wp2_with (first | (refine wpl_loadG rfl 199 _ rfl ⟨g, 0, none⟩ (s8a (r.add s)) rfl hM.b0.cells _ Tryz.underlying199 rfl (by rw [(hs8 _).out]; kernel_rfl) ?_) | (refine wpList_store_row rfl 199 _ _ rfl (w.heap.size + 1) (s8a (r.add s)) rfl rfl 199 z8a hM.b1 (by rw [(hs8 _).out]; kernel_rfl) (by rw [(hs8 _).out]; rfl) (hsa _).out ?_))
       exact bodyPost_ret (res_s8 rfl rfl (g := w.heap.size + 1) hM.b1.row (hs8 _).out) rfl ⟨by rw [hst.out], below_setRow hM.bel (by omega) _⟩
theorem be8_len (n : Nat) : (be8 n).length = 8 := rfl
theorem be8_at (N : Nat) {j s : Nat} (h : 8 * j + s = 56) : (be8 N).getD j 0 = UInt8.ofNat (N / 2 ^ s % 256) := by
 have : j = 0 ∧ s = 56 ∨ j = 1 ∧ s = 48 ∨ j = 2 ∧ s = 40 ∨ j = 3 ∧ s = 32 ∨ j = 4 ∧ s = 24 ∨ j = 5 ∧ s = 16 ∨ j = 6 ∧ s = 8 ∨ j = 7 ∧ s = 0 := by omega
 rcases this with ⟨rfl, rfl⟩ | ⟨rfl, rfl⟩ | ⟨rfl, rfl⟩ | ⟨rfl, rfl⟩ | ⟨rfl, rfl⟩ | ⟨rfl, rfl⟩ | ⟨rfl, rfl⟩ | ⟨rfl, rfl⟩
 all_goals first | rfl | (show UInt8.ofNat _ = UInt8.ofNat _; congr 1; simp)
theorem take_snocD {T : Type} (l : List T) (d : T) {j : Nat} (h : j < l.length) : l.take (j + 1) = l.take j ++ [l.getD j d] := by
 rw [List.take_succ_eq_append_getElem h]
 simp [h]
theorem ofNat_byte (n : Nat) : (((UInt8.ofNat n).toNat : Nat) : Int) = (n : Int) % 256 := by
 rw [UInt8.toNat_ofNat']
 simp
set_option maxRecDepth 100000 in
set_option maxHeartbeats 1000000 in
theorem Pad_any (n : Nat) (hn : n ≤ 1000000000) (w : World) :
 Calls Tryz.prog 134 #[.int .i64 n] w fun e w' => ∃ A c m, e = .returned (.slice A (List.length m) c) ∧ Hid (m = padT n) ∧ OwnB w' w.heap.size 5 A c m ∧ Below w.heap.size w w' := by
 have hP := Lib.hid (show padT n = 128 :: (List.replicate (padZ n) 0 ++ be8 (8 * n)) from rfl)
 have hpz : padZ n < 64 := by unfold padZ; omega
 have hpm : (n + padZ n + 9) % 64 = 0 := by unfold padZ; omega
 have hpk : ∀ k, k < padZ n → ¬ (n + k + 9) % 64 = 0 := by unfold padZ; omega
 obtain ⟨z, hz⟩ : ∃ z, padZ n = z := ⟨_, rfl⟩
 rw [hz] at hP hpz hpm hpk
 clear hz
 have hL : OwnB (w.alloc (.cells #[.int .u8 128] 5)) w.heap.size 5 (some ⟨w.heap.size, 0, none⟩) 1 [128] := Own.lits1 rfl 5 128
 go_enter Tryz.func134, Tryz.ntmps134
 go_wp2_with fail
 go_loopw [3] (fun x wr => ∃ (k : Nat) (A : Option Addr) (c : Nat) (m : List UInt8), k ≤ z ∧ x = .slice A m.length c ∧ m.length = k + 1 ∧ Hid (m = 128 :: List.replicate k 0) ∧ OwnB wr w.heap.size 5 A c m ∧ Below w.heap.size w wr) (fun x wr => 64 - (match x with | .slice _ n _ => n | _ => 0))
 case atStart => exact ⟨0, _, _, [128], by omega, rfl, rfl, Lib.hid rfl, hL, below_new _ _⟩
 case round =>
  obtain ⟨k, A, c, m, hk, rfl, hml, hm, ho, hb⟩ := hrel
  have hw1 : IntKind.i64.wrap ((n : Int) + (m.length : Int)) = (n : Int) + (m.length : Int) := by rw [IntKind.wrap_i64]; omega
  have hw2 : IntKind.i64.wrap ((n : Int) + (m.length : Int) + 8) = (n : Int) + (m.length : Int) + 8 := by rw [IntKind.wrap_i64]; omega
  have HML := Lib.hid hml
  clear hml hL
  rcases Nat.lt_or_ge k z with hlt | hge
  · have hz : (((n : Int) + (m.length : Int) + 8) % 64 != 0) = true := by
     have h9 := hpk k hlt
     have h8 := HML.out
     have : ¬ ((n : Int) + (m.length : Int) + 8) % 64 = 0 := by omega
     simpa using this
    have hoa := World.ownsRow.alloc ho (.cells #[.int .u8 0] 5)
    have hba := bel_alloc hb (.cells #[.int .u8 0] 5)
    have hln : m.length + [(0 : UInt8)].length ≤ 140737488355328 := by have := HML.out; simp; omega
    go_wp2_with (at_builtin; go_must (refine wpl_bytes 52 5 Tryz.underlying52 u8_info rfl _ _ rfl w.heap.size A c m rfl hoa (some ⟨wr.heap.size, 0, none⟩) 1 [0] rfl Sl.one hln hba.size ?_; intro A2 c2 m2 w2 hm2 ho2 _ _ hb2))
    have hl2 : m2.length = k + 1 + 1 := by rw [hm2.out, List.length_append, HML.out]; rfl
    have HML2 := Lib.hid hl2
    clear hz hw1 hw2 hl2
    go_roundw
    case rel => exact ⟨k + 1, A2, c2, m2, hlt, rfl, HML2.out, (show _ = _ from by rw [hm2.out, hm.out, List.replicate_succ']; rfl), ho2, hba.trans hb2⟩
    case measure => dsimp only; rw [HML2.out, HML.out]; omega
  · obtain rfl : k = z := by omega
    have hz : (((n : Int) + (m.length : Int) + 8) % 64 != 0) = false := by
     have h8 := HML.out
     have : ((n : Int) + (m.length : Int) + 8) % 64 = 0 := by omega
     simpa using this
    have hw3 : IntKind.u64.wrap (n : Int) = (n : Int) := by show (n : Int) % 18446744073709551616 = n; omega
    have hw4 : IntKind.u64.wrap ((n : Int) * 8) = ((8 * n : Nat) : Int) := by show ((n : Int) * 8) % 18446744073709551616 = _; omega
    go_wp2_with fail
    have HM := Lib.hid hm
    have HO := Lib.hid ho
    have HB := Lib.hid hb
    clear hw1 hw2 ho hb hz
    obtain ⟨N, hN⟩ : ∃ N, 8 * n = N := ⟨_, rfl⟩
    rw [hN] at hw4 hP
    clear hN
    go_loopw [4, 3] (fun y x wr => ∃ (j : Nat) (A : Option Addr) (c : Nat) (m : List UInt8), j ≤ 8 ∧ y = .int .i64 (56 - 8 * (j : Int)) ∧ x = .slice A m.length c ∧ m.length = k + 1 + j ∧ Hid (m = 128 :: (List.replicate k 0 ++ (be8 N).take j)) ∧ OwnB wr w.heap.size 5 A c m ∧ Below w.heap.size w wr) (fun y x wr => 100 - (match x with | .slice _ n _ => n | _ => 0))
    case atStart => exact ⟨0, A, c, m, by omega, rfl, rfl, HML.out, (show _ = _ from by rw [hm.out]; simp), HO.out, HB.out⟩
    case round =>
     clear HM HO HB hm HML
     obtain ⟨j, A, c, m, hj, rfl, rfl, hml, hm, ho, hb⟩ := hrel
     have HML := Lib.hid hml
     clear hml
     rcases Nat.lt_or_ge j 8 with hlt | hge
     · obtain ⟨s, hs⟩ : ∃ s : Nat, 8 * j + s = 56 := ⟨56 - 8 * j, by omega⟩
       have hsI : 56 - 8 * (j : Int) = (s : Int) := by omega
       have hs2 : Hid (56 - 8 * ((j + 1 : Nat) : Int) = (s : Int) - 8) := (show _ = _ from by omega)
       have hs3 : IntKind.i64.wrap ((s : Int) - 8) = (s : Int) - 8 := by rw [IntKind.wrap_i64]; omega
       have hat := be8_at N hs
       have hbt : IntKind.u8.wrap ((N : Int) / 2 ^ s) = ((be8 N).getD j 0).toNat := by
        rw [hat, ofNat_byte]
        show ((N : Int) / 2 ^ s) % 256 = _
        simp
       have htk := Lib.hid (take_snocD (be8 N) 0 (j := j) (by rw [be8_len]; exact hlt))
       generalize (be8 N).getD j 0 = x at *
       rw [hsI]
       clear hat hs
       have hoa := World.ownsRow.alloc ho (.cells #[bv x] 5)
       have hba := bel_alloc hb (.cells #[bv x] 5)
       have hln : m.length + [x].length ≤ 140737488355328 := by have := HML.out; simp; omega
       go_wp2_with (at_builtin; go_must (refine wpl_bytes 52 5 Tryz.underlying52 u8_info rfl _ _ rfl w.heap.size A c m rfl hoa (some ⟨wr.heap.size, 0, none⟩) 1 [x] rfl Sl.one hln hba.size ?_; intro A2 c2 m2 w2 hm2 ho2 _ _ hb2))
       have hl2 : m2.length = k + 1 + (j + 1) := by rw [hm2.out, List.length_append, HML.out]; rfl
       refine ⟨⟨j + 1, A2, c2, m2, hlt, by rw [hs2.out], rfl, hl2, (show _ = _ from by rw [hm2.out, hm.out, htk.out]; simp), ho2, hba.trans hb2⟩, ?_⟩
       dsimp only
       rw [hl2, HML.out]
       omega
     · obtain rfl : j = 8 := by omega
       rw [show (56 : Int) - 8 * ((8 : Nat) : Int) = -8 from by decide]
       go_wp2_with fail
       go_ret
       exact ⟨A, c, m, rfl, (show _ = _ from by rw [hm.out, hP.out, List.take_of_length_le (by rw [be8_len]; exact Nat.le_refl _)]), ho, hb⟩
end
section
open Go.RowKit Go.Shelf
attribute [local go_sem ↓] Go.wp_at_zero Go.wp_at_succ
attribute [local go_sem] Oper.semAt_some
set_option maxRecDepth 100000 in
theorem Chunk_any (A : Option Addr) (k c : Nat) (w : World) :
 Calls Tryz.prog 133 #[.slice A k c, .int .i64 64] w fun e w' => e = .returned (.func (.func 159) #[] #[.pointer (some ⟨w.heap.size, 0, none⟩), .pointer (some ⟨w.heap.size + 1, 0, none⟩)]) ∧ w' = (w.alloc (.cells #[.slice A k c] 52)).alloc (.cells #[.int .i64 64] 3) := by
 go_enter Tryz.func133, Tryz.ntmps133
 go_wp2_with fail
 go_ret
 exact ⟨rfl, rfl⟩
structure Kg (n g : Nat) (W W' : World) : Prop where
 size : W.heap.size ≤ W'.heap.size
 block : ∀ k, k < n → k ≠ g → W'.heap[k]? = W.heap[k]?
section
variable {n g : Nat} {A B C : World}
theorem Kg.refl (n g : Nat) (W : World) : Kg n g W W := ⟨Nat.le_refl _, fun _ _ _ => rfl⟩
theorem Kg.trans (h : Kg n g A B) (k : Kg n g B C) : Kg n g A C := ⟨Nat.le_trans h.size k.size, fun j h1 h2 => (k.block j h1 h2).trans (h.block j h1 h2)⟩
theorem Kg.cell (h : Kg n g A B) {b o : Nat} (h1 : b < n) (h2 : b ≠ g) : B.cell? ⟨b, o, none⟩ = A.cell? ⟨b, o, none⟩ := World.cell?_of_block (h.block b h1 h2)
theorem Kg.drewN (h : Kg n g A B) (m : Nat) : Kg n g A (World.drewN B m) := ⟨h.size, h.block⟩
theorem Kg.put {w : World} (hn : n ≤ w.heap.size) (W : World) (l : Nat) (o o' : Obj) (hl : w.heap.size ≤ l) (_ : W.heap[l]? = some o) (_ : o.isCells = false) (_ : o.isWalk = false) : Kg n g W (W.putObj l o') :=
 ⟨by simp, fun k h1 _ => World.putObj_heap_other (by omega)⟩
end
def chkS (b o : Nat) (k : Nat) : Value := .slice (some ⟨b, o + 64 * k, none⟩) 64 64
set_option maxRecDepth 100000 in
set_option maxHeartbeats 2000000 in
theorem Chunk1_in (n : Nat) (hn : 1 ≤ n) (l g n₀ gs b o K c : Nat) (hK : K ≤ 100000000) (hc : 64 * K ≤ c) (hgn : g + 1 < n₀) (hgs : gs < g) (J Jx : List Nat → World → Prop) (hJd : ∀ s W m, J s W → J s (World.drewN W m))
 (hY : ∀ pre x W, J pre W → pre.length < K → YieldAt Fence.wide (n - 1) Tryz.prog l #[chkS b o (min x (K - 1))] W fun e W' =>
  (e = .returned (.bool true) ∧ J (pre ++ [x]) W' ∧ Kg n₀ gs W W') ∨ (e = .returned (.bool false) ∧ Jx (pre ++ [x]) W'))
 (W : World) (h1 : W.cell? ⟨g, 0, none⟩ = some (.slice (some ⟨b, o, none⟩) (64 * K) c)) (h2 : W.cell? ⟨g + 1, 0, none⟩ = some (.int .i64 64)) (h0 : J [] W) :
 CallsIn Fence.wide n Tryz.prog 159 #[.func (.yield l) #[] #[], .pointer (some ⟨g, 0, none⟩), .pointer (some ⟨g + 1, 0, none⟩)] W fun e W' => (∃ v, e = .returned v) ∧
  ((∃ ys, ys = List.range K ∧ J ys W') ∨ (∃ pre, (∃ k, k ≤ K ∧ pre = List.range k) ∧ Jx pre W')) := by
 refine callsIn_of_wp Tryz.func159 rfl trivial ?_ rfl
 simp only [Tryz.ntmps159, List.size_toArray, List.length_cons, List.length_nil, Nat.reduceAdd, Nat.reduceSub, Array.replicate_succ, Array.replicate_zero, List.push_toArray, List.append_toArray, List.nil_append, List.cons_append]
 gi_wp2
 gi_loopw [4] (fun i wr => ∃ k : Nat, k ≤ K ∧ i = .int .i64 (64 * (k : Int)) ∧ J (List.range k) wr ∧ Kg n₀ gs W wr) (fun i _ => 64 * K - (intOf i).toNat)
 case atStart => exact ⟨0, Nat.zero_le _, rfl, h0, Kg.refl _ _ _⟩
 case round =>
  obtain ⟨k, hk, rfl, hJs, hnx⟩ := hrel
  have d1 := (hnx.cell (b := g) (o := 0) (by omega) (by omega)).trans h1
  have d2 := (hnx.cell (b := g + 1) (o := 0) (by omega) (by omega)).trans h2
  by_cases hlt : k < K
  · have hI : 64 * (k : Int) < 64 * (K : Int) := by omega
    have hi0 : 0 ≤ 64 * (k : Int) := by omega
    have hi1 : 64 * (k : Int) ≤ 64 * (K : Int) := by omega
    have hi2 : 64 * (k : Int) ≤ (c : Int) := by omega
    have hmin : min (64 : Int) ((64 * K - 64 * k : Nat) : Int) = 64 := by omega
    have hw1 : IntKind.i64.wrap (64 * (k : Int) + 64) = 64 * (k : Int) + 64 := by rw [IntKind.wrap_i64]; omega
    have ht : (64 * (k : Int) + 64).toNat - 64 * k = 64 := by omega
    have hi3 : 64 * (k : Int) + 64 ≤ (c : Int) := by omega
    gi_wp2
    refine wpIn_wide.2 ?_
    go_quiet (fail)
    have hJ2 := hJd _ _ nq hJs
    have hnx2 := hnx.drewN nq
    clear hJs hnx d1 d2
    generalize World.drewN wr nq = w2 at *
    have d1 := (hnx2.cell (b := g) (o := 0) (by omega) (by omega)).trans h1
    have d2 := (hnx2.cell (b := g + 1) (o := 0) (by omega) (by omega)).trans h2
    obtain ⟨fn, tmps, assign, body, hy, hR⟩ := hY _ k w2 hJ2 (by rw [List.length_range]; exact hlt)
    rw [show min k (K - 1) = k from by omega] at hy
    unfold chkS at hy
    gi_wp2
    refine hR.mono ?_
    have hbk := hnx2
    clear d1 d2 hnx2
    rintro e W3 (⟨rfl, hJ3, hk3⟩ | ⟨rfl, hJx3⟩)
    · have hnx3 := hbk.trans hk3
      have d1 := (hnx3.cell (b := g) (o := 0) (by omega) (by omega)).trans h1
      have d2 := (hnx3.cell (b := g + 1) (o := 0) (by omega) (by omega)).trans h2
      clear hbk hk3 hJ2
      gi_wp2
      go_roundw
      case rel => exact ⟨k + 1, by omega, congrArg (Value.int .i64) (by omega), by rw [List.range_succ]; exact hJ3, hnx3⟩
      case measure => simp [intOf]; omega
    · gi_wp2
      refine bodyPost_ret (results_none rfl _ _ _) rfl ?_
      exact ⟨⟨_, rfl⟩, .inr ⟨_, ⟨k + 1, by omega, by rw [List.range_succ]⟩, hJx3⟩⟩
  · obtain rfl : k = K := by omega
    gi_wp2
    go_end0
    exact ⟨⟨_, rfl⟩, .inl ⟨_, rfl, hJs⟩⟩
theorem Chunk_stops (n : Nat) (hn : 1 ≤ n) (g n₀ gs b o K c : Nat) (hK : K ≤ 100000000) (hc : 64 * K ≤ c) (hgn : g + 1 < n₀) (hgs : gs < g) (w : World) (hn0 : n₀ ≤ w.heap.size)
 (h1 : w.cell? ⟨g, 0, none⟩ = some (.slice (some ⟨b, o, none⟩) (64 * K) c)) (h2 : w.cell? ⟨g + 1, 0, none⟩ = some (.int .i64 64)) :
 SeqStopsK Fence.wide n Tryz.prog 159 #[.pointer (some ⟨g, 0, none⟩), .pointer (some ⟨g + 1, 0, none⟩)] (fun k : Nat => #[chkS b o (min k (K - 1))]) (Kg n₀ gs) (fun ys => ys = List.range K) (fun pre => ∃ k, k ≤ K ∧ pre = List.range k) K w :=
 fun l J Jx W hW hJ _ hY h0 =>
  Chunk1_in n hn l g n₀ gs b o K c hK hc hgn hgs J Jx (fun s W m hs => hJ s W _ none hs ⟨rfl, rfl, rfl, Nat.le_refl _, fun _ _ _ => rfl⟩ (fun r e => by cases e)) hY W
   ((hW.cell (p := ⟨g, 0, none⟩) (show g < w.heap.size by omega)).trans h1) ((hW.cell (p := ⟨g + 1, 0, none⟩) (show g + 1 < w.heap.size by omega)).trans h2) h0
theorem Shg.row {w : World} (h : Shg w) : ∀ j u, (s8a shaH)[j]? = some u → w.cell? ((⟨0, 0, none⟩ : Addr).add j) = some u := fun j u hj => by
 have hj8 : j < 8 := by
  have := (Array.getElem?_eq_some_iff.1 hj).1
  rw [s8a_size] at this
  exact this
 rw [addr_lit, Nat.zero_add, h.f j hj8, ← hj, s8a_at _ hj8]
section
variable {F : Fence} {n : Nat} {P : Program} {ops : Array Oper} {rest : List Oper} {o : Oper} {a : Act} {w : World} {Q : Exit → Act → World → Prop}
theorem wplIn_loadG (hgd : o.guard = none) (ty : TypeId) (x : Operand) (ho : o.op = .load ty x)
 (ad : Addr) (cs : Array Value) (hx : a.eval x = .pointer (some ad)) (hc : ∀ j u, cs[j]? = some u → w.cell? (ad.add j) = some u) (d : TypeDesc) (hu : P.underlying ty = some d) (hd : (match d with | .struct _ | .array _ _ => true | _ => false) = true) (hi : (P.info? ty).map (·.size) = some cs.size)
 (h : wpListIn F n P ops Q rest (a.put o.dst (.agg cs)) w) : wpListIn F n P ops Q (o :: rest) a w :=
 wpListIn_plain hgd fun K hK => by
  unfold Oper.wpIn
  refine ⟨by simp [Oper.about, ho], ?_⟩
  rw [Oper.semAt_plain F _ _ (by rw [ho]; intro c hc'; cases hc')]
  unfold execOp
  simp only [ho, hx, Instr.loadAt, Instr.sureAddr, Sem.run_bind, Sem.run_pure, Result.andThen_ok, run_loadVar_at w ad ty cs hc d hu hd hi]
  exact hK _ _ h
theorem wplIn_storeRow (hgd : o.guard = none) (ty : TypeId) (x y : Operand) (ho : o.op = .store ty x y)
 (g : Nat) (cells : Array Value) (hx : a.eval x = .pointer (some ⟨g, 0, none⟩)) (hy : a.eval y = .agg cells)
 (t : TypeId) (old : Array Value) (hg : Blk w g t old) (hi : (P.info? ty).map (·.size) = some cells.size) (hold : old.size = cells.size) (h1 : cells.all (·.oneCell') = true)
 (h : wpListIn F n P ops Q rest (a.put o.dst undef) (w.setRow g cells)) : wpListIn F n P ops Q (o :: rest) a w :=
 wpListIn_plain hgd fun K hK => by
  have hs : (splice old.toList 0 cells.toList).toArray = cells := by
   unfold splice
   rw [List.take_zero, List.drop_eq_nil_of_le (by simp; omega)]
   simp
  have hr := run_storeVar_at (P := P) w g 0 t ty old cells hg hi (by omega) h1
  rw [hs] at hr
  unfold Oper.wpIn
  refine ⟨by simp [Oper.about, ho], ?_⟩
  rw [Oper.semAt_plain F _ _ (by rw [ho]; intro c hc'; cases hc')]
  unfold execOp
  simp only [ho, hx, hy, Instr.storeAt, Instr.sureAddr, Sem.run_bind, Sem.run_pure, Result.andThen_ok, hr]
  exact hK _ _ h
end
def blkN (m : List UInt8) (k : Nat) : List UInt8 := (m.drop (64 * k)).take 64
def foldB (m : List UInt8) (K : Nat) (pre : List Nat) : S8 := pre.foldl (fun s x => stp s (blkN m (min x (K - 1)))) shaH
theorem foldB_snoc (m : List UInt8) (K : Nat) (pre : List Nat) (x : Nat) : foldB m K (pre ++ [x]) = stp (foldB m K pre) (blkN m (min x (K - 1))) := by simp [foldB]
theorem foldB_all (m : List UInt8) (K : Nat) : ∀ n, n ≤ K → foldB m K (List.range n) = blks m shaH n
 | 0, _ => rfl
 | n + 1, h => by
  rw [List.range_succ, foldB_snoc, foldB_all m K n (by omega), show min n (K - 1) = n from by omega]
  rfl
theorem SlB.part {W : World} {b o c k n : Nat} {m : List UInt8} (h : SlB W (some ⟨b, o, none⟩) c m) (hk : k + n ≤ m.length) : SlB W (some ⟨b, o + k, none⟩) n ((m.drop k).take n) := by
 have hl : ((m.drop k).take n).length = n := by simp; omega
 refine ⟨by simp, by omega, by have h1 := h.2.1; have h2 := h.2.2.1; omega, (fun h => by cases h), fun j u hj => ⟨_, rfl, ?_⟩⟩
 have hj2 : j < n := by
  have h9 := (List.getElem?_eq_some_iff.1 hj).1
  rw [List.length_map, hl] at h9
  exact h9
 have he : (bvs m)[k + j]? = some u := by
  rw [← hj, List.getElem?_map, List.getElem?_map, List.getElem?_take, if_pos hj2, List.getElem?_drop]
 obtain ⟨ad, hA, hc⟩ := h.2.2.2.2 (k + j) u he
 injection hA with hA
 subst hA
 rw [addr_lit] at hc ⊢
 rw [Nat.add_assoc]
 exact hc
theorem Kg.of_below {n g : Nat} {A B : World} (h : Below A.heap.size A B) (hn : n ≤ A.heap.size) : Kg n g A B := ⟨h.size, fun k h1 _ => h.block k (by omega)⟩
theorem Kg.row (n g : Nat) (A : World) (cs : Array Value) : Kg n g A (A.setRow g cs) := ⟨by simp, fun k _ h2 => setRow_other A g k cs h2⟩
theorem SlB.offR {W : World} {b o c g : Nat} {m : List UInt8} (h : SlB W (some ⟨b, o, none⟩) c m) (hne : b ≠ g) (cs : Array Value) : SlB (W.setRow g cs) (some ⟨b, o, none⟩) c m :=
 ⟨h.1, h.2.1, h.2.2.1, h.2.2.2.1, fun j u hj => by
  obtain ⟨ad, hA, hc⟩ := h.2.2.2.2 j u hj
  injection hA with hA
  subst hA
  refine ⟨_, rfl, ?_⟩
  rw [← hc]
  exact World.cell?_of_block (setRow_other W g _ cs (by rw [addr_add_block]; exact hne))⟩
theorem KeepsOthers.stepRow {W W5 : World} {g : Nat} {t : TypeId} {cs : Array Value} (hB : Blk W g t cs) (hb : Below W.heap.size W W5) (c2 : Array Value) : KeepsOthers W (W5.setRow g c2) :=
 ⟨by have := hb.size; simpa using this, fun k o hk ho => by
  have hlt := (Array.getElem?_eq_some_iff.1 hk).1
  rw [setRow_other W5 g k c2 (fun e => by subst e; rw [show W.heap[k]? = _ from hB] at hk; injection hk with hk; subst hk; cases ho), hb.block k hlt]
  exact hk⟩
def dgp (l : List UInt8) (k : Nat) : List Value := bvs (l.take k ++ List.replicate (32 - k) 0)
theorem dgp_zero (l : List UInt8) : (dgp l 0).toArray = dga dg0 := by unfold dgp dga dg0; simp
theorem dgp_full (l : List UInt8) (h : l.length = 32) : (dgp l 32).toArray = dga ⟨l, h⟩ := by
 unfold dgp dga
 rw [List.take_of_length_le (by omega)]
 simp
theorem dgp_len (l : List UInt8) {k : Nat} (h : l.length = 32) (hk : k ≤ 32) : (dgp l k).length = 32 := by unfold dgp; simp; omega
theorem dgp_step (l : List UInt8) {k : Nat} (h : l.length = 32) (hk : k + 4 ≤ 32) : splice (dgp l k) k (bvs ((l.drop k).take 4)) = dgp l (k + 4) := by
 unfold splice dgp
 rw [← List.map_take, ← List.map_drop, ← List.map_append, ← List.map_append]
 congr 1
 have h1 : (l.take k).length = k := by simp; omega
 have h2 : ((l.drop k).take 4).length = 4 := by simp; omega
 have e1 : (l.take k ++ List.replicate (32 - k) (0 : UInt8)).take k = l.take k := List.take_left' h1
 have e2 : (l.take k ++ List.replicate (32 - k) (0 : UInt8)).drop (k + 4) = List.replicate (32 - (k + 4)) 0 := by
  rw [show 32 - k = 4 + (32 - (k + 4)) from by omega, ← List.replicate_append_replicate, ← List.append_assoc]
  exact List.drop_left' (by simp; omega)
 rw [List.length_map, h2, e1, e2, List.take_add]
 simp
theorem four_part (s : S8) {i : Nat} (h : i < 8) : ((s.l.flatMap four).drop (4 * i)).take 4 = four (s.l.getD i 0) := by
 rcases s8_lt h with rfl | rfl | rfl | rfl | rfl | rfl | rfl | rfl <;> rfl
theorem four_wn (x : W32) : ∃ b0 b1 b2 b3 : UInt8, four x = [b0, b1, b2, b3] ∧ IntKind.u8.wrap (wn x / 16777216) = (b0.toNat : Int) ∧ IntKind.u8.wrap (wn x / 65536) = (b1.toNat : Int) ∧ IntKind.u8.wrap (wn x / 256) = (b2.toNat : Int) ∧ IntKind.u8.wrap (wn x) = (b3.toNat : Int) := by
 refine ⟨_, _, _, _, rfl, ?_, ?_, ?_, ?_⟩
 all_goals
  rw [ofNat_byte]
  have := x.isLt
  show _ % 256 = _
  unfold wn
  omega
structure OfI (w : World) (g b o c K N : Nat) (m : List UInt8) (pre : List Nat) (W : World) : Prop where
 blk : Blk W g 199 (s8a (foldB m K pre))
 sl : SlB W (some ⟨b, o, none⟩) c m
 res : Blk W w.heap.size 35 (dga dg0)
 bel : Below w.heap.size w W
 big : N ≤ W.heap.size
theorem SlB.grownC {W W' : World} {row : Option Nat} {A : Option Addr} {c : Nat} {m : List UInt8} (h : SlB W A c m) (hg : W.grownBy W' row) (hr : ∀ r, row = some r → ∃ o : Obj, W.heap[r]? = some o ∧ o.isCells = false) : SlB W' A c m :=
 ⟨h.1, h.2.1, h.2.2.1, h.2.2.2.1, fun j u hj => by
  obtain ⟨ad, hA, hc⟩ := h.2.2.2.2 j u hj
  exact ⟨ad, hA, cell_kept hc hg hr⟩⟩
theorem OfI.from {w : World} {g b o c K N : Nat} {m : List UInt8} {B : Nat} (hB : w.heap.size ≤ B) : OwnFrom B (OfI w g b o c K N m) := by
 intro s W W' row hs hg hr
 exact ⟨(grownBy_keeps_cells hg (fun r e => (hr r e).2) hs.blk rfl).trans hs.blk, hs.sl.grownC hg (fun r e => (hr r e).2), (grownBy_keeps_cells hg (fun r e => (hr r e).2) hs.res rfl).trans hs.res,
  hs.bel.grown hg hs.bel.size (fun k e => Nat.le_trans hB (hr k e).1), Nat.le_trans hs.big hg.size⟩
set_option maxRecDepth 100000 in
set_option maxHeartbeats 2000000 in
theorem Of_any {A : Option Addr} {c gp : Nat} (t : List UInt8) (w : World) (hG : Shg w) (h : SlB w A c t) (hl : t.length ≤ 1000000) (hp : w.cell? ⟨gp, 0, none⟩ = some (.slice A t.length c)) :
 Calls Tryz.prog 109 #[.slice (some ⟨gp, 0, none⟩) 1 1] w fun e w' => e = .returned (.agg (dga (shaD t))) ∧ Below w.heap.size w w' := by
 have hM := (Mm.start w).alloc (dga dg0) 35
 have hsz0 : (w.alloc (.cells (dga dg0) 35)).heap.size = w.heap.size + 1 := by simp
 have hs8 := Lib.hid (s8a_size shaH)
 have hsa := Lib.hid (s8a_all shaH)
 refine (callsIn_wide (n := 8)).1 ?_
 refine callsIn_of_wp_marks Tryz.func109 rfl trivial ?_ rfl
 simp only [Tryz.ntmps109, List.size_toArray, List.length_cons, List.length_nil, Nat.reduceAdd, Nat.reduceSub, Array.replicate_succ, Array.replicate_zero, List.push_toArray, List.append_toArray, List.nil_append, List.cons_append]
 refine wpIn_wide.2 ?_
 go_upto_region 1 with (fail)
 refine gen1 (T := fun W => Mm w W [(w.heap.size, 35, dga dg0)] []) hM (fun w0 hM => ?_)
 have hM1 := hM.alloc (s8a shaH) 199
 have hlo := hM.bel.size
 have hz1 := hM.b0.lt
 have hrow := (hG.below hM.bel).row
 go_upto_region 2 with (first | (refine wpl_loadG rfl 199 _ rfl ⟨0, 0, none⟩ (s8a shaH) rfl hrow _ Tryz.underlying199 rfl (by rw [hs8.out]; kernel_rfl) ?_) | (refine wpl_storeN rfl 199 _ _ rfl _ (s8a shaH) 199 rfl rfl (by rw [hs8.out]; kernel_rfl) (by rw [hs8.out]; rfl) hsa.out ?_))
 generalize hWe : w0.alloc (.cells (s8a shaH) 199) = w1 at *
 clear hWe hrow
 obtain ⟨g, hg⟩ : ∃ g, w0.heap.size = g := ⟨_, rfl⟩
 rw [hg] at hM1 hz1 hlo ⊢
 clear hM hg
 have hgl := hM1.b0.lt
 go_upto_region 4 with (fail)
 go_wp2_with fail
 go_loopw [15, 4, 5] (fun x y z wr => ∃ (i : Nat) (E : Option Addr) (d : Nat) (r : List UInt8), i ≤ 1 ∧ x = .int .i64 i ∧ y = .slice E r.length d ∧ z = .int .i64 r.length ∧ Hid (r = if i = 0 then [] else t) ∧ OwnB wr (g + 1) 5 E d r ∧ Mm w wr [(g, 199, s8a shaH), (w.heap.size, 35, dga dg0)] []) (fun x _ _ wr => 1 - (intOf x).toNat)
 case atStart => exact ⟨0, none, 0, [], by omega, rfl, rfl, rfl, Lib.hid rfl, Own.none_ _ _ _ _, hM1⟩
 case round =>
  clear hM1 hgl
  obtain ⟨i, E, d, r, hi, rfl, rfl, rfl, hr, ho, hM⟩ := hrel
  rcases Nat.lt_or_ge i 1 with hlt | hge
  · obtain rfl : i = 0 := by omega
    have hr0 : r = [] := by rw [hr.out]; rfl
    subst hr0
    clear hr
    have hpc := (hM.bel.cell (p := ⟨gp, 0, none⟩) (World.block_lt_of_cell? _ _ hp)).trans hp
    have hw1 : IntKind.i64.wrap (0 + (t.length : Int)) = (t.length : Int) := by rw [IntKind.wrap_i64]; omega
    have hgl := hM.b0.lt
    have hln : ([] : List UInt8).length + t.length ≤ 140737488355328 := by simp; omega
    rw [show ((0 : Nat) : Int) = 0 from rfl]
    go_wp2_with (at_builtin; go_must (refine wpl_bytes 52 5 Tryz.underlying52 u8_info rfl _ _ rfl (g + 1) E d [] rfl ho A c t rfl (Sl.below h hM.bel) hln hgl ?_; intro E2 d2 r2 w2 hr2 ho2 _ _ hb2))
    refine ⟨⟨1, E2, d2, r2, by omega, rfl, rfl, by rw [hr2.out]; rfl, (show _ = _ from by rw [hr2.out]; rfl), ho2, hM.above hb2 (by simp; omega) (by omega)⟩, by simp [intOf]⟩
  · obtain rfl : i = 1 := by omega
    have hr1 : r = t := hr.out
    subst hr1
    clear hr
    rw [show ((1 : Nat) : Int) = 1 from rfl]
    have hgl := hM.b0.lt
    have hP := Lib.hid (Pad_any r.length (by omega) wr)
    go_wp2_with fail
    refine hP.out.mono ?_
    clear hP
    rintro e w2 ⟨A2, c2, m2, rfl, hm2, ho2, hb2⟩
    have hM2 := hM.call hb2
    have hor := Own.below ho hb2
    have hgl2 : g + 1 ≤ w2.heap.size := hM2.b0.lt
    have hm2l : m2.length = 9 + padZ r.length := by rw [hm2.out, padT_len]
    have hpz : padZ r.length < 64 := by unfold padZ; omega
    have hln : r.length + m2.length ≤ 140737488355328 := by omega
    have HM2 := Lib.hid hM2
    clear hM hM2 ho hb2 hgl hm2l hpz
    go_wp2_with (at_builtin; go_must (refine wpl_bytes 52 5 Tryz.underlying52 u8_info rfl _ _ rfl (g + 1) E d r rfl hor A2 c2 m2 rfl (Own.sl ho2) hln hgl2 ?_; intro A3 c3 m3 w3 hm3 ho3 _ _ hb3))
    have hM3 := HM2.out.above hb3 (by simp; omega) (by omega)
    have hm3e : Hid (m3 = shaM r) := (show _ = _ from by rw [hm3.out, hm2.out]; rfl)
    clear hm3 hm2 hor ho2 hb3 hgl2 hln HM2
    obtain ⟨K, hK⟩ : ∃ K, m3.length = 64 * K := ⟨m3.length / 64, by
     have h1 := pad_mod r.length
     have h2 : m3.length = r.length + (padT r.length).length := by rw [hm3e.out]; simp [shaM]
     omega⟩
    have hK1 : K ≤ 100000000 ∧ 1 ≤ K := by
     have h2 : m3.length = r.length + (padT r.length).length := by rw [hm3e.out]; simp [shaM]
     rw [padT_len] at h2
     have : padZ r.length < 64 := by unfold padZ; omega
     omega
    have hs3 : SlB w3 A3 c3 m3 := Own.sl ho3
    obtain ⟨b, o, rfl, -⟩ := SlB.at4 (k := 0) hs3 (by omega)
    have hb9 := ho3.lt b rfl
    have hc9 := hs3.2.1
    rw [hK] at hc9 ⊢
    have HC := Lib.hid (Chunk_any (some ⟨b, o, none⟩) (64 * K) c3 w3)
    refine HC.out.mono ?_
    rintro e w4 ⟨rfl, rfl⟩
    clear HC
    have hM4 := (hM3.allocO (.cells #[.slice (some ⟨b, o, none⟩) (64 * K) c3] 52)).allocO (.cells #[.int .i64 64] 3)
    have hs4 : SlB ((w3.alloc (.cells #[.slice (some ⟨b, o, none⟩) (64 * K) c3] 52)).alloc (.cells #[.int .i64 64] 3)) (some ⟨b, o, none⟩) c3 m3 := Sl.below hs3 (bel_alloc (below_new _ _) _)
    have hx1 := ((Blk.new w3 52 #[.slice (some ⟨b, o, none⟩) (64 * K) c3]).alloc (.cells #[.int .i64 64] 3)).cell 0
    have hx2 := (Blk.newAt (w := w3.alloc (.cells #[.slice (some ⟨b, o, none⟩) (64 * K) c3] 52)) (g := w3.heap.size + 1) (by simp) 3 #[.int .i64 64]).cell 0
    have hz4 : ((w3.alloc (.cells #[.slice (some ⟨b, o, none⟩) (64 * K) c3] 52)).alloc (.cells #[.int .i64 64] 3)).heap.size = w3.heap.size + 2 := by simp
    have hg3 := hM3.b0.lt
    have hbl : ((w3.alloc (.cells #[.slice (some ⟨b, o, none⟩) (64 * K) c3] 52)).alloc (.cells #[.int .i64 64] 3)).heap.size = w3.heap.size + 2 := by simp
    generalize (w3.alloc (.cells #[.slice (some ⟨b, o, none⟩) (64 * K) c3] 52)).alloc (.cells #[.int .i64 64] 3) = w4 at *
    obtain ⟨gb, hgb⟩ : ∃ gb, w3.heap.size = gb := ⟨_, rfl⟩
    rw [hgb] at hz4 hx1 hx2 hg3 hb9 ⊢
    clear hM3 hs3 ho3
    have h00 : OfI w g b o c3 K (gb + 2) m3 [] w4 := ⟨hM4.b0, hs4, hM4.b1, hM4.bel, by omega⟩
    have hs8s := fun s => Lib.hid (s8a_size s)
    have hsas := fun s => Lib.hid (s8a_all s)
    go_wp2_with fail
    refine (wpIn_wide (n := 8)).1 ?_
    refine wpIn_rangeFunc_ownF (F := Fence.wide) (n := 8) rfl (by omega) (gf := 159) (lb := #[.pointer (some ⟨gb, 0, none⟩), .pointer (some ⟨gb + 1, 0, none⟩)]) rfl trivial (enters_of Tryz.func159 (by kernel_rfl) rfl)
     (Chunk_stops (8 - 1) (by omega) gb (gb + 2) g b o K c3 hK1.1 hc9 (by omega) (by omega) w4 (by omega) hx1 hx2) (fun h k => h.trans k) (Kg.put (by omega)) (Below.refl _ _) (fun _ => rfl)
     (OfI w g b o c3 K (gb + 2) m3) (fun _ _ _ => False) (OfI.from (by omega)) (fun _ _ _ _ _ hs _ _ => hs) h00 ?a1 ?assign ?body ?done ?stop
    case assign =>
     intro l x W K hK
     gi_wp2
     exact hK
    case body =>
     intro l pre x W hI hlen
     obtain ⟨y, hy⟩ : ∃ y, min x (K - 1) = y := ⟨_, rfl⟩
     have hyK : y < K := by omega
     have hps : SlB W (some ⟨b, o + 64 * y, none⟩) 64 (blkN m3 y) := SlB.part hI.sl (by omega)
     have hpl : (blkN m3 y).length = 64 := by unfold blkN; simp; omega
     have hfs := Lib.hid (foldB_snoc m3 K pre x)
     rw [hy] at hfs ⊢
     have hB := hI.blk
     have hSt := Step_any (foldB m3 K pre) (blkN m3 y) W hps hpl (hG.below hI.bel)
     rw [hpl] at hSt
     generalize blkN m3 y = bk at *
     generalize foldB m3 K pre = s at *
     have HSt := Lib.hid hSt
     have HI := Lib.hid hI
     have hn1 : 1 ≤ 8 - 1 - 1 := by decide
     clear hSt hI hps hpl
     unfold chkS
     gi_wp2_with (first | (refine wplIn_loadG rfl 199 _ rfl ⟨g, 0, none⟩ (s8a s) rfl hB.cells _ Tryz.underlying199 rfl (by rw [(hs8s s).out]; kernel_rfl) ?_) | (refine ⟨trivial, ?_⟩; gi_at_call 135; refine (CallsIn.inRound l (callsIn_wide.2 HSt.out)).mono ?_; rintro e W5 ⟨rfl, hb5⟩; have hB5 := hB.below hb5) | (refine wplIn_storeRow rfl 199 _ _ rfl g (s8a (stp s bk)) rfl rfl 199 (s8a s) hB5 (by rw [(hs8s _).out]; kernel_rfl) (by rw [(hs8s _).out, (hs8s _).out]) (hsas _).out ?_))
     exact ⟨KeepsOthers.stepRow hB hb5 _, (Kg.of_below hb5 (by have := HI.out.big; omega)).trans (Kg.row _ _ _ _),
      ⟨by rw [hfs.out]; exact hB5.row, SlB.offR (Sl.below HI.out.sl hb5) (by omega) _, (HI.out.res.below hb5).rowFar (by omega) _, below_setRow (HI.out.bel.trans (hb5.mono HI.out.bel.size)) (by omega) _, by have h1 := HI.out.big; have h2 := hb5.size; simp; omega⟩⟩
    case done =>
     intro D xs W hD hxs hI hKD
     have hfa : Hid (foldB m3 K xs = shaS r) := (show _ = _ from by
      rw [hxs, foldB_all m3 K K (Nat.le_refl _)]
      unfold shaS
      rw [← hm3e.out, hK, Nat.mul_div_cancel_left _ (by omega)])
     have hB := hI.blk
     have hRes := hI.res
     have hbel := hI.bel
     have hgW := hI.blk.lt
     clear hI hxs
     generalize foldB m3 K xs = s at *
     dsimp only
     have hBd := Blk.new W 35 (dga dg0)
     have hD1 := (Array.getElem?_eq_some_iff.1 hKD).1
     have hBa := hB.alloc (.cells (dga dg0) 35)
     have hRa := hRes.alloc (.cells (dga dg0) 35)
     have hKa : (W.alloc (.cells (dga dg0) 35)).heap[D]? = some (.deferred (some [])) := (Below.heap_alloc _ _ _ hD1).trans hKD
     have hba := bel_alloc hbel (.cells (dga dg0) 35)
     go_upto_region 14 with (fail)
     refine gen1 (T := fun W2 => (Blk W2 g 199 (s8a s) ∧ Blk W2 w.heap.size 35 (dga dg0) ∧ Blk W2 W.heap.size 35 (dga dg0)) ∧ W2.heap[D]? = some (.deferred (some [])) ∧ Below w.heap.size w W2) ⟨⟨hBa, hRa, hBd⟩, hKa, hba⟩ (fun W2 hT => ?_)
     obtain ⟨⟨hB, hRes, hBd⟩, hKD, hbel⟩ := hT
     clear hBa hRa hKa hba
     generalize hgd : W.heap.size = gd at *
     have hfl : (s.l.flatMap four).length = 32 := s.dg.2
     have hsd : Hid (shaD r = s.dg) := (show _ = _ from by unfold shaD; rw [← hfa.out])
     clear hgd hfa
     rw [← dgp_zero (s.l.flatMap four)] at hBd
     go_wp2_with (refine wpl_loadG rfl 199 _ rfl ⟨g, 0, none⟩ (s8a s) rfl hB.cells _ Tryz.underlying199 rfl (by rw [(hs8s s).out]; kernel_rfl) ?_)
     go_loopw [37] (fun x wr => ∃ i : Nat, i ≤ 8 ∧ x = .int .i64 i ∧ Blk wr gd 35 (dgp (s.l.flatMap four) (4 * i)).toArray ∧ Blk wr w.heap.size 35 (dga dg0) ∧ wr.heap[D]? = some (.deferred (some [])) ∧ Below w.heap.size w wr) (fun x _ => 8 - (intOf x).toNat)
     case atStart => exact ⟨0, by omega, rfl, hBd, hRes, hKD, hbel⟩
     case round =>
      clear hB hRes hBd hKD hbel
      obtain ⟨i, hi, rfl, hBd, hRes, hKD, hbel⟩ := hrel
      by_cases hlt : i < 8
      · have hiI : (i : Int) < 8 := by omega
        have hix : ∀ V : World, (Instr.index 199 (.agg (s8a s)) (.int .i64 i)).run Tryz.prog V = .ok (wv (s.l.getD i 0)) V := fun V => ix_word 199 198 Tryz.underlying199 Tryz.underlying198 (by kernel_rfl) _ _ (s8a_at s hlt) hlt V
        have hfp := four_part s hlt
        generalize s.l.getD i 0 = x at *
        obtain ⟨b0, b1, b2, b3, hf4, q0, q1, q2, q3⟩ := four_wn x
        rw [hf4] at hfp
        have HFP := Lib.hid hfp
        have hw4 : IntKind.i64.wrap (4 * (i : Int)) = ((4 * i : Nat) : Int) := by rw [IntKind.wrap_i64]; omega
        have hb1 : 4 * (i : Int) ≤ 32 := by omega
        have hb2 : 0 ≤ 4 * (i : Int) := by omega
        clear hf4 hfp
        have hu8 : (Tryz.prog.info? 5).map (·.size) = some 1 := by kernel_rfl
        have hBd2 := hBd.alloc (.cells #[bv b0, bv b1, bv b2, bv b3] 5)
        have hKl := (Array.getElem?_eq_some_iff.1 hKD).1
        have hgl := hBd.lt
        have hK2 : (wr.alloc (.cells #[bv b0, bv b1, bv b2, bv b3] 5)).heap[D]? = some (.deferred (some [])) := (Below.heap_alloc _ _ _ hKl).trans hKD
        have hbe2 := bel_alloc hbel (.cells #[bv b0, bv b1, bv b2, bv b3] 5)
        have hre2 := hRes.alloc (.cells #[bv b0, bv b1, bv b2, bv b3] 5)
        have hsrc : ∀ j v, (bvs [b0, b1, b2, b3])[j]? = some v → (wr.alloc (.cells #[bv b0, bv b1, bv b2, bv b3] 5)).cell? ((⟨wr.heap.size, 0, none⟩ : Addr).add j) = some v := fun j v hj => (Blk.new wr 5 #[bv b0, bv b1, bv b2, bv b3]).cells j v (by rw [← hj, List.getElem?_toArray]; rfl)
        have hmn : Nat.min 4 (32 - 4 * i) = 4 := by show min 4 (32 - 4 * i) = 4; omega
        have hln := dgp_len (s.l.flatMap four) (k := 4 * i) hfl (by omega)
        have hds := dgp_step (s.l.flatMap four) (k := 4 * i) hfl (by omega)
        rw [HFP.out] at hds
        have HDS := Lib.hid hds
        clear hds hw4
        go_wp2_with (refine wpl_copyK rfl _ _ 52 52 rfl 5 1 Tryz.underlying52 hu8 gd (4 * i) (32 - 4 * i) (32 - 4 * i) ⟨wr.heap.size, 0, none⟩ 4 4 rfl rfl (dgp (s.l.flatMap four) (4 * i)) 35 hBd2 (bvs [b0, b1, b2, b3]) (by rw [hmn]; rfl) hsrc (by rw [hln]; simp; omega) (one_bvs _) gd _ (Below.refl _ _) (Nat.le_refl _) ?_; intro w6 hw6 hb6)
        have hw6b := hw6.out
        rw [HDS.out] at hw6b
        have HW6 := Lib.hid hw6b
        clear hw6b hw6
        have hD2 : D < gd := by omega
        have hK6 := (hb6.block D hD2).trans hK2
        have hR6 := (hb6.block w.heap.size (by omega)).trans hre2
        have hB6 := hbe2.trans (hb6.mono (show w.heap.size ≤ gd by omega))
        clear hK2 hre2 hbe2 hb6 hBd2 hsrc hKD hRes hbel
        go_roundw
        case rel => exact ⟨i + 1, hlt, by go_num, HW6.out, hR6, hK6, hB6⟩
        case measure => simp [intOf]; omega
      · obtain rfl : i = 8 := by omega
        rw [show ((8 : Nat) : Int) = 8 from rfl]
        rw [show 4 * 8 = 32 from rfl, dgp_full _ hfl] at hBd
        have hds := Lib.hid (dga_size s.dg)
        have hda := Lib.hid (dga_all s.dg)
        have hd0 := Lib.hid (dga_size dg0)
        change Blk wr gd 35 (dga s.dg) at hBd
        have hrl := hRes.lt
        have hKR := (setRow_other wr w.heap.size D (dga s.dg) (by omega)).trans hKD
        have hRR := hRes.row (cs := dga s.dg)
        have hbR := below_setRow hbel (Nat.le_refl _) (dga s.dg)
        go_wp2_with (first | (refine wpl_loadG rfl 35 _ rfl ⟨gd, 0, none⟩ (dga s.dg) rfl hBd.cells _ Tryz.underlying35 rfl (by rw [hds.out]; kernel_rfl) ?_) | (refine wpList_store_row rfl 35 _ _ rfl w.heap.size (dga s.dg) rfl rfl 35 (dga dg0) hRes (by rw [hds.out]; kernel_rfl) (by rw [hd0.out, hds.out]) hda.out ?_))
        refine ⟨by simp, .inl ⟨_, _, rfl, run_takeDeferred hKR, ?_⟩⟩
        have hRP : Blk ((wr.setRow w.heap.size (dga s.dg)).putObj D (.deferred none)) w.heap.size 35 (dga s.dg) := (World.putObj_heap_other (by omega)).trans hRR
        refine ⟨_, res_dg rfl rfl hRP, ?_, ?_⟩
        · rw [hsd.out]
        · exact hbR.trans ((Below.refl w.heap.size _).grown (grownBy_putObj' _ D _) (by have := hbR.size; omega) (fun k e => by cases e; omega))
    case stop =>
     intro D c pre W _ _ h _
     exact h.elim
theorem Shg.alloc {w : World} (h : Shg w) (o : Obj) : Shg (w.alloc o) := h.below (below_new w o)
set_option maxRecDepth 100000 in
set_option maxHeartbeats 1000000 in
theorem Sum_any {A : Option Addr} {c : Nat} (t : List UInt8) (w : World) (hG : Shg w) (h : SlB w A c t) (hl : t.length ≤ 1000000) :
 Calls Tryz.prog 76 #[.slice A t.length c] w fun e w' => e = .returned (.agg (dga (shaD t))) ∧ Below w.heap.size w w' := by
 have hM := ((Mm.start w).alloc (dga dg0) 35).alloc #[.slice A t.length c] 52
 rw [show (w.alloc (.cells (dga dg0) 35)).heap.size = w.heap.size + 1 from by simp] at hM
 have hG2 := (hG.alloc (.cells (dga dg0) 35)).alloc (.cells #[.slice A t.length c] 52)
 have hs2 : SlB ((w.alloc (.cells (dga dg0) 35)).alloc (.cells #[.slice A t.length c] 52)) A c t := Sl.below h hM.bel
 have HO := Lib.hid (Of_any t _ hG2 hs2 hl (hM.b0.cell 0))
 have hds := Lib.hid (dga_size (shaD t))
 have hda := Lib.hid (dga_all (shaD t))
 have hd0 := Lib.hid (dga_size dg0)
 generalize shaD t = d at *
 have HM := Lib.hid hM
 clear hM hG2 hs2
 go_enter Tryz.func76, Tryz.ntmps76
 go_wp2_with fail
 refine HO.out.mono ?_
 rintro e w1 ⟨rfl, hb1⟩
 have hM1 := HM.out.call hb1
 clear HO HM hb1
 go_wp2_with (refine wpList_store_row rfl 35 _ _ rfl w.heap.size (dga d) rfl rfl 35 (dga dg0) hM1.b1 (by rw [hds.out]; kernel_rfl) (by rw [hd0.out, hds.out]) hda.out ?_)
 exact bodyPost_ret (res_dg rfl rfl (g := w.heap.size) hM1.b1.row) rfl ⟨rfl, below_setRow hM1.bel (Nat.le_refl _) _⟩
end
end Go.Proofs.YtajfnmohlnkncaaGreatDoor
