/- WHAT IT HOLDS: a block's words, as package sha lays them: walked. -/
import Derived.Test.YtajfnmohlnkncaaGreatDoorVaultAgreesG01
import Derived.Test.YtajfnmohlnkncaaGreatDoorVaultAgreesG10
import Derived.Test.YtajfnmohlnkncaaGreatDoorVaultAgreesG09
import Derived.BigQuiet
namespace Go.Proofs.YtajfnmohlnkncaaGreatDoor
open Go.RowKit
attribute [local go_sem ↓] Go.wp_at_zero Go.wp_at_succ
def wca (l : List W32) (n : Nat) : Array Value := (l.map wv ++ List.replicate (n - l.length) (Value.int .u32 0)).toArray
theorem wca_size {l : List W32} {n : Nat} (h : l.length ≤ n) : (wca l n).size = n := by simp [wca]; omega
theorem wca_at {l : List W32} {n i : Nat} (h : i < l.length) : (wca l n)[i]? = some (wv (l.getD i 0)) := by
 unfold wca
 rw [List.getElem?_toArray, List.getElem?_append_left (by simpa using h)]
 simp [h]
theorem wca_zero {l : List W32} {n i : Nat} (h : l.length ≤ i) (hn : i < n) : (wca l n)[i]? = some (.int .u32 0) := by
 unfold wca
 rw [List.getElem?_toArray, List.getElem?_append_right (by simpa using h)]
 rw [List.getElem?_replicate, if_pos (by simp; omega)]
theorem wca_set {l : List W32} {n : Nat} (h : l.length < n) (x : W32) : (wca l n).setIfInBounds l.length (wv x) = wca (l ++ [x]) n := by
 unfold wca
 rw [List.setIfInBounds_toArray]
 congr 1
 rw [List.set_append_right _ _ (by simp), List.length_map, Nat.sub_self, show n - l.length = (n - (l ++ [x]).length) + 1 from by simp; omega, List.replicate_succ, List.set_cons_zero]
 simp
theorem wca_all (l : List W32) (n : Nat) : (wca l n).all (·.oneCell') = true := by
 rw [Array.all_eq_true_iff_forall_mem]
 intro u hu
 have hu2 : u ∈ l.map wv ++ List.replicate (n - l.length) (Value.int .u32 0) := by simpa [wca] using hu
 rcases List.mem_append.1 hu2 with h | h
 · obtain ⟨x, _, rfl⟩ := List.mem_map.1 h
   rfl
 · rw [(List.mem_replicate.1 h).2]
   rfl
theorem SlB.at4 {w : World} {A : Option Addr} {c k : Nat} {l : List UInt8} (h : SlB w A c l) (hk : k + 3 < l.length) : ∃ bk o, A = some ⟨bk, o, none⟩ ∧ bk < w.heap.size ∧
 w.cell? ⟨bk, o + k, none⟩ = some (bv (l.getD k 0)) ∧ w.cell? ⟨bk, o + (k + 1), none⟩ = some (bv (l.getD (k + 1) 0)) ∧ w.cell? ⟨bk, o + (k + 2), none⟩ = some (bv (l.getD (k + 2) 0)) ∧ w.cell? ⟨bk, o + (k + 3), none⟩ = some (bv (l.getD (k + 3) 0)) := by
 have hat : ∀ j, j < l.length → ∃ ad, A = some ad ∧ w.cell? (ad.add j) = some (bv (l.getD j 0)) := fun j hj => by
  obtain ⟨ad, hA, hc⟩ := Sl.at1 (f := bv) (l := l) h hj
  exact ⟨ad, hA, by rw [hc]; simp [hj]⟩
 obtain ⟨ad, rfl, hz⟩ := hat 0 (by omega)
 obtain ⟨_, e0, h0⟩ := hat k (by omega)
 obtain ⟨_, e1, h1⟩ := hat (k + 1) (by omega)
 obtain ⟨_, e2, h2⟩ := hat (k + 2) (by omega)
 obtain ⟨_, e3, h3⟩ := hat (k + 3) (by omega)
 injection e0 with e0
 injection e1 with e1
 injection e2 with e2
 injection e3 with e3
 subst e0 e1 e2 e3
 obtain ⟨bk, o, sp⟩ := ad
 have hsp : sp = none := by
  have h9 := World.cell?_spot hz
  simpa [Addr.add] using h9
 subst hsp
 rw [addr_lit] at h0 h1 h2 h3
 exact ⟨bk, o, rfl, World.block_lt_of_cell? _ _ h0, h0, h1, h2, h3⟩
theorem shr3_wn (x : W32) : HDiv.hDiv (α := Int) (β := Int) (wn x) (8 : Int) = wn (x >>> 3) := shr_wn x 3
theorem shr10_wn (x : W32) : HDiv.hDiv (α := Int) (β := Int) (wn x) (1024 : Int) = wn (x >>> 10) := shr_wn x 10
theorem be4_wn (a b c d : UInt8) : bits .or .u32 (bits .or .u32 (bits .or .u32 (IntKind.u32.wrap (IntKind.u32.wrap (a.toNat : Int) * 16777216)) (IntKind.u32.wrap (IntKind.u32.wrap (b.toNat : Int) * 65536))) (IntKind.u32.wrap (IntKind.u32.wrap (c.toNat : Int) * 256))) (IntKind.u32.wrap (d.toNat : Int)) = wn (be4 a b c d) := by
 have h1 := a.toNat_lt
 have h2 := b.toNat_lt
 have h3 := c.toNat_lt
 have h4 := d.toNat_lt
 have hwr : ∀ z : Int, IntKind.u32.wrap z = z % 4294967296 := fun z => rfl
 rw [hwr, hwr, hwr, hwr, hwr, hwr, hwr, show (a.toNat : Int) % 4294967296 = a.toNat from by omega, show (b.toNat : Int) % 4294967296 = b.toNat from by omega, show (c.toNat : Int) % 4294967296 = c.toNat from by omega, show (d.toNat : Int) % 4294967296 = d.toNat from by omega]
 rw [show (a.toNat : Int) * 16777216 % 4294967296 = (a.toNat : Int) * 16777216 from by omega, show (b.toNat : Int) * 65536 % 4294967296 = (b.toNat : Int) * 65536 from by omega, show (c.toNat : Int) * 256 % 4294967296 = (c.toNat : Int) * 256 from by omega]
 rw [show (a.toNat : Int) * 16777216 = ((a.toNat * 16777216 : Nat) : Int) from by simp, show (b.toNat : Int) * 65536 = ((b.toNat * 65536 : Nat) : Int) from by simp, show (c.toNat : Int) * 256 = ((c.toNat * 256 : Nat) : Int) from by simp]
 have hab : a.toNat * 16777216 ||| b.toNat * 65536 = a.toNat * 16777216 + b.toNat * 65536 := by
  rw [show a.toNat * 16777216 = 2 ^ 24 * a.toNat from by omega, Nat.two_pow_add_eq_or_of_lt (by omega : b.toNat * 65536 < 2 ^ 24)]
 have habc : a.toNat * 16777216 + b.toNat * 65536 ||| c.toNat * 256 = a.toNat * 16777216 + b.toNat * 65536 + c.toNat * 256 := by
  rw [show a.toNat * 16777216 + b.toNat * 65536 = 2 ^ 16 * (a.toNat * 256 + b.toNat) from by omega, Nat.two_pow_add_eq_or_of_lt (by omega : c.toNat * 256 < 2 ^ 16)]
 have habcd : a.toNat * 16777216 + b.toNat * 65536 + c.toNat * 256 ||| d.toNat = a.toNat * 16777216 + b.toNat * 65536 + c.toNat * 256 + d.toNat := by
  rw [show a.toNat * 16777216 + b.toNat * 65536 + c.toNat * 256 = 2 ^ 8 * (a.toNat * 65536 + b.toNat * 256 + c.toNat) from by omega, Nat.two_pow_add_eq_or_of_lt (by omega : d.toNat < 2 ^ 8)]
 rw [u32_or_nat _ _ (by omega) (by omega), hab, u32_or_nat _ _ (by omega) (by omega), habc, u32_or_nat _ _ (by omega) (by omega), habcd]
 unfold wn be4
 rw [BitVec.toNat_ofNat, Nat.mod_eq_of_lt (by omega)]
theorem res_wa {fn : Func} {a : Nat} {tmps : Array Value} {w : World} {g : Nat} {cs : Array Value} (hres : fn.results = #[.cell a 246]) (ha : tmps.getD a undef = .pointer (some ⟨g, 0, none⟩)) (hB : Blk w g 246 cs) (hs : cs.size = 64) : (results fn tmps).run Tryz.prog w = .ok (.agg cs) w := by
 have h := run_loadVar_at (P := Tryz.prog) w ⟨g, 0, none⟩ 246 cs hB.cells _ Tryz.underlying246 rfl (by rw [hs]; kernel_rfl)
 have ha' : tmps[a]?.getD undef = .pointer (some ⟨g, 0, none⟩) := by simpa using ha
 simp [results, hres, asAddr, h, ha']
theorem cells_other {w : World} {g bk i o : Nat} {u v : Value} (h : w.cell? ⟨bk, o, none⟩ = some u) (hne : bk ≠ g ∨ o ≠ i) : (w.setCell ⟨g, i, none⟩ v).cell? ⟨bk, o, none⟩ = some u := by
 rw [World.cell?_setCell_other _ _ _ _ (fun e => by injection e with e1 e2; omega)]
 exact h
theorem right2 : Hid (∀ (x : W32) (w : World), Calls Tryz.prog 161 #[wv x, .int .i64 2] w fun e w' => e = .returned (wv (tr x 2)) ∧ w' = w) := (show ∀ (x : W32) (w : World), _ from fun x w => Right_any x 2 (by decide) (by decide) w)
theorem right6 : Hid (∀ (x : W32) (w : World), Calls Tryz.prog 161 #[wv x, .int .i64 6] w fun e w' => e = .returned (wv (tr x 6)) ∧ w' = w) := (show ∀ (x : W32) (w : World), _ from fun x w => Right_any x 6 (by decide) (by decide) w)
theorem right7 : Hid (∀ (x : W32) (w : World), Calls Tryz.prog 161 #[wv x, .int .i64 7] w fun e w' => e = .returned (wv (tr x 7)) ∧ w' = w) := (show ∀ (x : W32) (w : World), _ from fun x w => Right_any x 7 (by decide) (by decide) w)
theorem right11 : Hid (∀ (x : W32) (w : World), Calls Tryz.prog 161 #[wv x, .int .i64 11] w fun e w' => e = .returned (wv (tr x 11)) ∧ w' = w) := (show ∀ (x : W32) (w : World), _ from fun x w => Right_any x 11 (by decide) (by decide) w)
theorem right13 : Hid (∀ (x : W32) (w : World), Calls Tryz.prog 161 #[wv x, .int .i64 13] w fun e w' => e = .returned (wv (tr x 13)) ∧ w' = w) := (show ∀ (x : W32) (w : World), _ from fun x w => Right_any x 13 (by decide) (by decide) w)
theorem right17 : Hid (∀ (x : W32) (w : World), Calls Tryz.prog 161 #[wv x, .int .i64 17] w fun e w' => e = .returned (wv (tr x 17)) ∧ w' = w) := (show ∀ (x : W32) (w : World), _ from fun x w => Right_any x 17 (by decide) (by decide) w)
theorem right18 : Hid (∀ (x : W32) (w : World), Calls Tryz.prog 161 #[wv x, .int .i64 18] w fun e w' => e = .returned (wv (tr x 18)) ∧ w' = w) := (show ∀ (x : W32) (w : World), _ from fun x w => Right_any x 18 (by decide) (by decide) w)
theorem right19 : Hid (∀ (x : W32) (w : World), Calls Tryz.prog 161 #[wv x, .int .i64 19] w fun e w' => e = .returned (wv (tr x 19)) ∧ w' = w) := (show ∀ (x : W32) (w : World), _ from fun x w => Right_any x 19 (by decide) (by decide) w)
theorem right22 : Hid (∀ (x : W32) (w : World), Calls Tryz.prog 161 #[wv x, .int .i64 22] w fun e w' => e = .returned (wv (tr x 22)) ∧ w' = w) := (show ∀ (x : W32) (w : World), _ from fun x w => Right_any x 22 (by decide) (by decide) w)
theorem right25 : Hid (∀ (x : W32) (w : World), Calls Tryz.prog 161 #[wv x, .int .i64 25] w fun e w' => e = .returned (wv (tr x 25)) ∧ w' = w) := (show ∀ (x : W32) (w : World), _ from fun x w => Right_any x 25 (by decide) (by decide) w)
set_option maxRecDepth 100000 in
set_option maxHeartbeats 1000000 in
theorem Sched_any {A : Option Addr} {c : Nat} (b : List UInt8) (w : World) (h : SlB w A c b) (hl : b.length = 64) :
 Calls Tryz.prog 160 #[.slice A b.length c] w fun e w' => e = .returned (.agg (wca (sch b 64) 64)) ∧ Below w.heap.size w w' := by
 have hM := ((Mm.start w).alloc (wca [] 64) 246).alloc (wca [] 64) 246
 rw [show (w.alloc (.cells (wca [] 64) 246)).heap.size = w.heap.size + 1 from by simp] at hM
 have hz : ((w.alloc (.cells (wca [] 64) 246)).alloc (.cells (wca [] 64) 246)).heap.size = w.heap.size + 2 := by simp
 have hcb : 64 ≤ c := by have := h.2.1; omega
 go_enter Tryz.func160, Tryz.ntmps160
 go_upto_region 2 with (fail)
 refine gen1 (T := fun W => Mm w W [(w.heap.size + 1, 246, wca [] 64), (w.heap.size, 246, wca [] 64)] []) hM (fun w0 hM => ?_)
 rw [hl]
 go_wp2_with fail
 go_loopw [7] (fun x wr => ∃ n : Nat, n ≤ 64 ∧ x = .int .i64 n ∧ Mm w wr [(w.heap.size + 1, 246, wca (sch b n) 64), (w.heap.size, 246, wca [] 64)] []) (fun x wr => 64 - (intOf x).toNat)
 case atStart => exact ⟨0, by omega, rfl, hM⟩
 case round =>
  obtain ⟨n, hn, rfl, hM⟩ := hrel
  have hsl := sch_len b n
  by_cases hlt : n < 64
  · have hnI : (n : Int) < 64 := by omega
    by_cases h16 : n < 16
    · have h16I : (n : Int) < 16 := by omega
      obtain ⟨bk, o, rfl, hbk, -⟩ := SlB.at4 (k := 4 * n) h (by omega)
      obtain ⟨_, _, e1, -, c0, c1, c2, c3⟩ := SlB.at4 (k := 4 * n) (Sl.below h hM.bel) (by omega)
      injection e1 with e1
      injection e1 with e1 e2
      subst e1 e2
      have hs : Hid (sch b (n + 1) = sch b n ++ [be4 (b.getD (4 * n) 0) (b.getD (4 * n + 1) 0) (b.getD (4 * n + 2) 0) (b.getD (4 * n + 3) 0)]) := (show _ = _ from by rw [sch, if_pos h16])
      have hbe := be4_wn (b.getD (4 * n) 0) (b.getD (4 * n + 1) 0) (b.getD (4 * n + 2) 0) (b.getD (4 * n + 3) 0)
      obtain ⟨m, hm⟩ : ∃ m, 4 * n = m := ⟨_, rfl⟩
      rw [hm] at c0 c1 c2 c3 hs hbe
      have hw0 : IntKind.i64.wrap (4 * (n : Int)) = (m : Int) := by rw [IntKind.wrap_i64]; omega
      have hm60 : m ≤ 60 := by omega
      have hw1 : IntKind.i64.wrap ((m : Int) + 1) = (m : Int) + 1 := by rw [IntKind.wrap_i64]; omega
      have hw2 : IntKind.i64.wrap ((m : Int) + 2) = (m : Int) + 2 := by rw [IntKind.wrap_i64]; omega
      have hw3 : IntKind.i64.wrap ((m : Int) + 3) = (m : Int) + 3 := by rw [IntKind.wrap_i64]; omega
      have hi0 : (m : Int) < 64 := by omega
      have hi1 : (m : Int) + 1 < 64 := by omega
      have hi2 : (m : Int) + 2 < 64 := by omega
      have hi3 : (m : Int) + 3 < 64 := by omega
      have hp1 : 0 ≤ (m : Int) + 1 := by omega
      have hp2 : 0 ≤ (m : Int) + 2 := by omega
      have hp3 : 0 ≤ (m : Int) + 3 := by omega
      have ht1 : ((m : Int) + 1).toNat = m + 1 := by omega
      have ht2 : ((m : Int) + 2).toNat = m + 2 := by omega
      have ht3 : ((m : Int) + 3).toNat = m + 3 := by omega
      have HS := Lib.hid hM
      generalize b.getD m 0 = x0 at *
      generalize b.getD (m + 1) 0 = x1 at *
      generalize b.getD (m + 2) 0 = x2 at *
      generalize b.getD (m + 3) 0 = x3 at *
      obtain ⟨g, hg⟩ : ∃ g, w.heap.size + 1 = g := ⟨_, rfl⟩
      have hne : bk ≠ g := by omega
      have hst : wr.drew.cell? ⟨bk, o + m, none⟩ = some (bv x0) ∧ wr.drew.cell? ⟨bk, o + (m + 1), none⟩ = some (bv x1) ∧ wr.drew.cell? ⟨bk, o + (m + 2), none⟩ = some (bv x2) ∧ wr.drew.cell? ⟨bk, o + (m + 3), none⟩ = some (bv x3) := ⟨c0, c1, c2, c3⟩
      have hB := hM.b0.drew
      have hc9 : wr.drew.cell? ⟨g, n, none⟩ = some (.int .u32 0) := by rw [← hg, hB.cell, wca_zero (by omega) hlt]
      have hf9 : wr.drew.frozen? ⟨g, n, none⟩ = false := by rw [← hg, hB.frozen]
      rw [hg]
      have HG := Lib.hid hg
      clear hM hB c0 c1 c2 c3 hm hbk hg
      go_upto_region 6 with (fail)
      refine wp_region_held_drew (S := (fun W => W.cell? ⟨bk, o + m, none⟩ = some (bv x0) ∧ W.cell? ⟨bk, o + (m + 1), none⟩ = some (bv x1) ∧ W.cell? ⟨bk, o + (m + 2), none⟩ = some (bv x2) ∧ W.cell? ⟨bk, o + (m + 3), none⟩ = some (bv x3))) (by kernel_rfl) ?_ (fun hHeld => ?_)
      · first | exact hst | exact ⟨cells_other hst.1 (.inl hne), cells_other hst.2.1 (.inl hne), cells_other hst.2.2.1 (.inl hne), cells_other hst.2.2.2 (.inl hne)⟩
      refine wTk (i := 0) (oi := ⟨some 12, _, _, _, _, _⟩) (v := ?_) rfl ⟨by kernel_rfl, ?_⟩ (by assumption) ?_
      rotate_left
      · (intro wS hSw; (try dsimp only at hSw); obtain ⟨c0, c1, c2, c3⟩ := hSw; go_simp; (try with_reducible rfl))
      (try simp only [Act.put, pS0, pS1, pS2])
      refine wTk (i := 1) (oi := ⟨some 13, _, _, _, _, _⟩) (v := ?_) rfl ⟨by kernel_rfl, ?_⟩ (by assumption) ?_
      rotate_left
      · (intro wS hSw; (try dsimp only at hSw); obtain ⟨c0, c1, c2, c3⟩ := hSw; go_simp; (try with_reducible rfl))
      (try simp only [Act.put, pS0, pS1, pS2])
      refine wTk (i := 2) (oi := ⟨some 14, _, _, _, _, _⟩) (v := ?_) rfl ⟨by kernel_rfl, ?_⟩ (by assumption) ?_
      rotate_left
      · (intro wS hSw; (try dsimp only at hSw); obtain ⟨c0, c1, c2, c3⟩ := hSw; go_simp; (try with_reducible rfl))
      (try simp only [Act.put, pS0, pS1, pS2])
      refine wTk (i := 3) (oi := ⟨some 15, _, _, _, _, _⟩) (v := ?_) rfl ⟨by kernel_rfl, ?_⟩ (by assumption) ?_
      rotate_left
      · (intro wS hSw; (try dsimp only at hSw); obtain ⟨c0, c1, c2, c3⟩ := hSw; go_simp; (try with_reducible rfl))
      (try simp only [Act.put, pS0, pS1, pS2])
      refine wTk (i := 4) (oi := ⟨some 16, _, _, _, _, _⟩) (v := ?_) rfl ⟨by kernel_rfl, ?_⟩ (by assumption) ?_
      rotate_left
      · (intro wS hSw; (try dsimp only at hSw); obtain ⟨c0, c1, c2, c3⟩ := hSw; go_simp; (try with_reducible rfl))
      (try simp only [Act.put, pS0, pS1, pS2])
      refine wTk (i := 5) (oi := ⟨some 17, _, _, _, _, _⟩) (v := ?_) rfl ⟨by kernel_rfl, ?_⟩ (by assumption) ?_
      rotate_left
      · (intro wS hSw; (try dsimp only at hSw); obtain ⟨c0, c1, c2, c3⟩ := hSw; go_simp; (try with_reducible rfl))
      (try simp only [Act.put, pS0, pS1, pS2])
      refine wTk (i := 6) (oi := ⟨some 18, _, _, _, _, _⟩) (v := ?_) rfl ⟨by kernel_rfl, ?_⟩ (by assumption) ?_
      rotate_left
      · (intro wS hSw; (try dsimp only at hSw); obtain ⟨c0, c1, c2, c3⟩ := hSw; go_simp; (try with_reducible rfl))
      (try simp only [Act.put, pS0, pS1, pS2])
      refine wTk (i := 7) (oi := ⟨some 19, _, _, _, _, _⟩) (v := ?_) rfl ⟨by kernel_rfl, ?_⟩ (by assumption) ?_
      rotate_left
      · (intro wS hSw; (try dsimp only at hSw); obtain ⟨c0, c1, c2, c3⟩ := hSw; go_simp; (try with_reducible rfl))
      (try simp only [Act.put, pS0, pS1, pS2])
      refine wTk (i := 8) (oi := ⟨some 20, _, _, _, _, _⟩) (v := ?_) rfl ⟨by kernel_rfl, ?_⟩ (by assumption) ?_
      rotate_left
      · (intro wS hSw; (try dsimp only at hSw); obtain ⟨c0, c1, c2, c3⟩ := hSw; go_simp; (try with_reducible rfl))
      (try simp only [Act.put, pS0, pS1, pS2])
      refine wTk (i := 9) (oi := ⟨some 21, _, _, _, _, _⟩) (v := ?_) rfl ⟨by kernel_rfl, ?_⟩ (by assumption) ?_
      rotate_left
      · (intro wS hSw; (try dsimp only at hSw); obtain ⟨c0, c1, c2, c3⟩ := hSw; go_simp; (try with_reducible rfl))
      (try simp only [Act.put, pS0, pS1, pS2])
      refine wTk (i := 10) (oi := ⟨some 22, _, _, _, _, _⟩) (v := ?_) rfl ⟨by kernel_rfl, ?_⟩ (by assumption) ?_
      rotate_left
      · (intro wS hSw; (try dsimp only at hSw); obtain ⟨c0, c1, c2, c3⟩ := hSw; go_simp; (try with_reducible rfl))
      (try simp only [Act.put, pS0, pS1, pS2])
      refine wTk (i := 11) (oi := ⟨some 23, _, _, _, _, _⟩) (v := ?_) rfl ⟨by kernel_rfl, ?_⟩ (by assumption) ?_
      rotate_left
      · (intro wS hSw; (try dsimp only at hSw); obtain ⟨c0, c1, c2, c3⟩ := hSw; go_simp; (try with_reducible rfl))
      (try simp only [Act.put, pS0, pS1, pS2])
      refine wTk (i := 12) (oi := ⟨some 24, _, _, _, _, _⟩) (v := ?_) rfl ⟨by kernel_rfl, ?_⟩ (by assumption) ?_
      rotate_left
      · (intro wS hSw; (try dsimp only at hSw); obtain ⟨c0, c1, c2, c3⟩ := hSw; go_simp; (try with_reducible rfl))
      (try simp only [Act.put, pS0, pS1, pS2])
      refine wTk (i := 13) (oi := ⟨some 25, _, _, _, _, _⟩) (v := ?_) rfl ⟨by kernel_rfl, ?_⟩ (by assumption) ?_
      rotate_left
      · (intro wS hSw; (try dsimp only at hSw); obtain ⟨c0, c1, c2, c3⟩ := hSw; go_simp; (try with_reducible rfl))
      (try simp only [Act.put, pS0, pS1, pS2])
      refine wTk (i := 14) (oi := ⟨some 26, _, _, _, _, _⟩) (v := ?_) rfl ⟨by kernel_rfl, ?_⟩ (by assumption) ?_
      rotate_left
      · (intro wS hSw; (try dsimp only at hSw); obtain ⟨c0, c1, c2, c3⟩ := hSw; go_simp; (try with_reducible rfl))
      (try simp only [Act.put, pS0, pS1, pS2])
      refine wTk (i := 15) (oi := ⟨some 27, _, _, _, _, _⟩) (v := ?_) rfl ⟨by kernel_rfl, ?_⟩ (by assumption) ?_
      rotate_left
      · (intro wS hSw; (try dsimp only at hSw); obtain ⟨c0, c1, c2, c3⟩ := hSw; go_simp; (try with_reducible rfl))
      (try simp only [Act.put, pS0, pS1, pS2])
      refine wTk (i := 16) (oi := ⟨some 28, _, _, _, _, _⟩) (v := ?_) rfl ⟨by kernel_rfl, ?_⟩ (by assumption) ?_
      rotate_left
      · (intro wS hSw; (try dsimp only at hSw); obtain ⟨c0, c1, c2, c3⟩ := hSw; go_simp; (try with_reducible rfl))
      (try simp only [Act.put, pS0, pS1, pS2])
      refine wTk (i := 17) (oi := ⟨some 29, _, _, _, _, _⟩) (v := ?_) rfl ⟨by kernel_rfl, ?_⟩ (by assumption) ?_
      rotate_left
      · (intro wS hSw; (try dsimp only at hSw); obtain ⟨c0, c1, c2, c3⟩ := hSw; go_simp; (try with_reducible rfl))
      (try simp only [Act.put, pS0, pS1, pS2])
      refine wTk (i := 18) (oi := ⟨some 30, _, _, _, _, _⟩) (v := ?_) rfl ⟨by kernel_rfl, ?_⟩ (by assumption) ?_
      rotate_left
      · (intro wS hSw; (try dsimp only at hSw); obtain ⟨c0, c1, c2, c3⟩ := hSw; go_simp; (try with_reducible rfl))
      (try simp only [Act.put, pS0, pS1, pS2])
      refine wTk (i := 19) (oi := ⟨some 31, _, _, _, _, _⟩) (v := ?_) rfl ⟨by kernel_rfl, ?_⟩ (by assumption) ?_
      rotate_left
      · (intro wS hSw; (try dsimp only at hSw); obtain ⟨c0, c1, c2, c3⟩ := hSw; go_simp; (try with_reducible rfl))
      (try simp only [Act.put, pS0, pS1, pS2])
      refine wTk (i := 20) (oi := ⟨some 32, _, _, _, _, _⟩) (v := ?_) rfl ⟨by kernel_rfl, ?_⟩ (by assumption) ?_
      rotate_left
      · (intro wS hSw; (try dsimp only at hSw); obtain ⟨c0, c1, c2, c3⟩ := hSw; go_simp; (try with_reducible rfl))
      (try simp only [Act.put, pS0, pS1, pS2])
      refine wTk (i := 21) (oi := ⟨some 33, _, _, _, _, _⟩) (v := ?_) rfl ⟨by kernel_rfl, ?_⟩ (by assumption) ?_
      rotate_left
      · (intro wS hSw; (try dsimp only at hSw); obtain ⟨c0, c1, c2, c3⟩ := hSw; go_simp; (try with_reducible rfl))
      (try simp only [Act.put, pS0, pS1, pS2])
      refine wTk (i := 22) (oi := ⟨some 34, _, _, _, _, _⟩) (v := ?_) rfl ⟨by kernel_rfl, ?_⟩ (by assumption) ?_
      rotate_left
      · (intro wS hSw; (try dsimp only at hSw); obtain ⟨c0, c1, c2, c3⟩ := hSw; go_simp; (try with_reducible rfl))
      (try simp only [Act.put, pS0, pS1, pS2])
      refine wTk (i := 23) (oi := ⟨some 35, _, _, _, _, _⟩) (v := ?_) rfl ⟨by kernel_rfl, ?_⟩ (by assumption) ?_
      rotate_left
      · (intro wS hSw; (try dsimp only at hSw); obtain ⟨c0, c1, c2, c3⟩ := hSw; go_simp; (try with_reducible rfl))
      (try simp only [Act.put, pS0, pS1, pS2])
      refine wTk (i := 24) (oi := ⟨some 36, _, _, _, _, _⟩) (v := ?_) rfl ⟨by kernel_rfl, ?_⟩ (by assumption) ?_
      rotate_left
      · (intro wS hSw; (try dsimp only at hSw); obtain ⟨c0, c1, c2, c3⟩ := hSw; go_simp; (try with_reducible rfl))
      (try simp only [Act.put, pS0, pS1, pS2])
      refine wTk (i := 25) (oi := ⟨some 37, _, _, _, _, _⟩) (v := ?_) rfl ⟨by kernel_rfl, ?_⟩ (by assumption) ?_
      rotate_left
      · (intro wS hSw; (try dsimp only at hSw); obtain ⟨c0, c1, c2, c3⟩ := hSw; go_simp; (try with_reducible rfl))
      (try simp only [Act.put, pS0, pS1, pS2])
      refine wTk (i := 26) (oi := ⟨some 38, _, _, _, _, _⟩) (v := ?_) rfl ⟨by kernel_rfl, ?_⟩ (by assumption) ?_
      rotate_left
      · (intro wS hSw; (try dsimp only at hSw); obtain ⟨c0, c1, c2, c3⟩ := hSw; go_simp; (try with_reducible rfl))
      (try simp only [Act.put, pS0, pS1, pS2])
      refine wTk (i := 27) (oi := ⟨some 39, _, _, _, _, _⟩) (v := ?_) rfl ⟨by kernel_rfl, ?_⟩ (by assumption) ?_
      rotate_left
      · (intro wS hSw; (try dsimp only at hSw); obtain ⟨c0, c1, c2, c3⟩ := hSw; go_simp; (try with_reducible rfl))
      (try simp only [Act.put, pS0, pS1, pS2])
      refine wTk (i := 28) (oi := ⟨some 40, _, _, _, _, _⟩) (v := ?_) rfl ⟨by kernel_rfl, ?_⟩ (by assumption) ?_
      rotate_left
      · (intro wS hSw; (try dsimp only at hSw); obtain ⟨c0, c1, c2, c3⟩ := hSw; go_simp; (try with_reducible rfl))
      (try simp only [Act.put, pS0, pS1, pS2])
      refine wTk (i := 29) (oi := ⟨some 41, _, _, _, _, _⟩) (v := ?_) rfl ⟨by kernel_rfl, ?_⟩ (by assumption) ?_
      rotate_left
      · (intro wS hSw; (try dsimp only at hSw); obtain ⟨c0, c1, c2, c3⟩ := hSw; go_simp; (try with_reducible rfl))
      (try simp only [Act.put, pS0, pS1, pS2])
      refine wTk (i := 30) (oi := ⟨some 42, _, _, _, _, _⟩) (v := ?_) rfl ⟨by kernel_rfl, ?_⟩ (by assumption) ?_
      rotate_left
      · (intro wS hSw; (try dsimp only at hSw); obtain ⟨c0, c1, c2, c3⟩ := hSw; go_simp; (try with_reducible rfl))
      (try simp only [Act.put, pS0, pS1, pS2])
      refine wTk (i := 31) (oi := ⟨some 43, _, _, _, _, _⟩) (v := ?_) rfl ⟨by kernel_rfl, ?_⟩ (by assumption) ?_
      rotate_left
      · (intro wS hSw; (try dsimp only at hSw); obtain ⟨c0, c1, c2, c3⟩ := hSw; go_simp; (try with_reducible rfl))
      (try simp only [Act.put, pS0, pS1, pS2])
      refine wTk (i := 32) (oi := ⟨some 44, _, _, _, _, _⟩) (v := ?_) rfl ⟨by kernel_rfl, ?_⟩ (by assumption) ?_
      rotate_left
      · (intro wS hSw; (try dsimp only at hSw); obtain ⟨c0, c1, c2, c3⟩ := hSw; go_simp; (try with_reducible rfl))
      (try simp only [Act.put, pS0, pS1, pS2])
      refine wTk (i := 33) (oi := ⟨some 45, _, _, _, _, _⟩) (v := ?_) rfl ⟨by kernel_rfl, ?_⟩ (by assumption) ?_
      rotate_left
      · (intro wS hSw; (try dsimp only at hSw); obtain ⟨c0, c1, c2, c3⟩ := hSw; go_simp; (try with_reducible rfl))
      (try simp only [Act.put, pS0, pS1, pS2])
      refine wTk (i := 34) (oi := ⟨some 46, _, _, _, _, _⟩) (v := ?_) rfl ⟨by kernel_rfl, ?_⟩ (by assumption) ?_
      rotate_left
      · (intro wS hSw; (try dsimp only at hSw); obtain ⟨c0, c1, c2, c3⟩ := hSw; go_simp; (try with_reducible rfl))
      (try simp only [Act.put, pS0, pS1, pS2])
      refine wR1 (i := 35) (o := ⟨none, _, _, _, _, _⟩) rfl (fun K hK => ?_)
      go_simp
      refine hK.out _ _ ?_ (fun hHeld => ?_)
      · ((try dsimp only); (exact ⟨cells_other hst.1 (.inl hne), cells_other hst.2.1 (.inl hne), cells_other hst.2.2.1 (.inl hne), cells_other hst.2.2.2 (.inl hne)⟩))
      clear hK K
      (try simp only [Act.put, pS0, pS1, pS2])
      refine wpAnyH_done (by kernel_rfl) ?_ _
      have hset : (wca (sch b n) 64).setIfInBounds n (wv (be4 x0 x1 x2 x3)) = wca (sch b (n + 1)) 64 := by
       have h9 := wca_set (l := sch b n) (n := 64) (by omega) (be4 x0 x1 x2 x3)
       rw [hsl] at h9
       rw [h9, hs.out]
      have hM2 := (HS.out.set 0 n (wv (be4 x0 x1 x2 x3)) rfl).drew
      rw [hset] at hM2
      obtain rfl := HG.out
      have HM2 := Lib.hid hM2
      clear hM2 hst hc9 hf9 hbe hs hset HS hw0 hw1 hw2 hw3 hi0 hi1 hi2 hi3 hp1 hp2 hp3 ht1 ht2 ht3
      go_wp2_with fail
      go_roundw
      case rel => exact ⟨n + 1, hlt, by go_num, HM2.out⟩
      case measure => simp [intOf]; omega
    · have h16I : (16 : Int) ≤ n := by omega
      obtain ⟨j16, e16⟩ : ∃ j, n = j + 16 := ⟨n - 16, by omega⟩
      obtain ⟨j15, e15⟩ : ∃ j, n = j + 15 := ⟨n - 15, by omega⟩
      obtain ⟨j7, e7⟩ : ∃ j, n = j + 7 := ⟨n - 7, by omega⟩
      obtain ⟨j2, e2⟩ : ∃ j, n = j + 2 := ⟨n - 2, by omega⟩
      have hs : Hid (sch b (n + 1) = sch b n ++ [(sch b n).getD j16 0 + (sch b n).getD j7 0 + sg0 ((sch b n).getD j15 0) + sg1 ((sch b n).getD j2 0)]) := (show _ = _ from by
       rw [sch, if_neg h16, show n - 16 = j16 from by omega, show n - 7 = j7 from by omega, show n - 15 = j15 from by omega, show n - 2 = j2 from by omega])
      have hv16 : IntKind.i64.wrap ((n : Int) - 16) = (j16 : Int) := by rw [IntKind.wrap_i64]; omega
      have hv15 : IntKind.i64.wrap ((n : Int) - 15) = (j15 : Int) := by rw [IntKind.wrap_i64]; omega
      have hv7 : IntKind.i64.wrap ((n : Int) - 7) = (j7 : Int) := by rw [IntKind.wrap_i64]; omega
      have hv2 : IntKind.i64.wrap ((n : Int) - 2) = (j2 : Int) := by rw [IntKind.wrap_i64]; omega
      have hB := hM.b0
      have hl16 : j16 < (sch b n).length := by omega
      have hl15 : j15 < (sch b n).length := by omega
      have hl7 : j7 < (sch b n).length := by omega
      have hl2 : j2 < (sch b n).length := by omega
      have c15 := (hB.cell j15).trans (wca_at (n := 64) hl15)
      have c2 := (hB.cell j2).trans (wca_at (n := 64) hl2)
      have c16 := (hB.cell j16).trans (wca_at (n := 64) hl16)
      have c7 := (hB.cell j7).trans (wca_at (n := 64) hl7)
      generalize (sch b n).getD j16 0 = y16 at *
      generalize (sch b n).getD j15 0 = y15 at *
      generalize (sch b n).getD j7 0 = y7 at *
      generalize (sch b n).getD j2 0 = y2 at *
      have hk16 : (j16 : Int) < 64 := by omega
      have hk15 : (j15 : Int) < 64 := by omega
      have hk7 : (j7 : Int) < 64 := by omega
      have hk2 : (j2 : Int) < 64 := by omega
      have hne16 : j16 ≠ n := by omega
      have hne7 : j7 ≠ n := by omega
      obtain ⟨g, hg⟩ : ∃ g, w.heap.size + 1 = g := ⟨_, rfl⟩
      rw [hg] at c15 c2 c16 c7 ⊢
      have HS := Lib.hid hM
      have HG := Lib.hid hg
      clear hM hB hg hl16 hl15 hl7 hl2 e16 e15 e7 e2
      go_upto_region 7 with (fail)
      go_quiet (fail)
      have hM7 := HS.out.drewN nq
      rw [HG.out] at hM7
      have d16 : (wr.drewN nq).cell? ⟨g, j16, none⟩ = some (wv y16) := c16
      have d7 : (wr.drewN nq).cell? ⟨g, j7, none⟩ = some (wv y7) := c7
      clear c15 c2 c16 c7
      generalize wr.drewN nq = w7 at *
      have hc9 : w7.drew.cell? ⟨g, n, none⟩ = some (.int .u32 0) := by rw [hM7.b0.drew.cell, wca_zero (by omega) hlt]
      have hf9 : w7.drew.frozen? ⟨g, n, none⟩ = false := by rw [hM7.b0.drew.frozen]
      have hst : w7.drew.cell? ⟨g, j16, none⟩ = some (wv y16) ∧ w7.drew.cell? ⟨g, j7, none⟩ = some (wv y7) := ⟨d16, d7⟩
      have R7 := right7
      have R18 := right18
      have R17 := right17
      have R19 := right19
      have q1 := add_wn
      have q2 := xor_wn
      have q3 := shr3_wn
      have q4 := shr10_wn
      have HM7 := Lib.hid hM7
      clear hM7 HS d16 d7
      go_upto_region 8 with (fail)
      refine wp_region_held_drew (S := (fun W => W.cell? ⟨g, j16, none⟩ = some (wv y16) ∧ W.cell? ⟨g, j7, none⟩ = some (wv y7))) (by kernel_rfl) ?_ (fun hHeld => ?_)
      · first | exact hst | exact hHeld | exact ⟨cells_other hst.1 (.inr hne16), cells_other hst.2 (.inr hne7)⟩
      refine wTk (i := 0) (oi := ⟨some 55, _, _, _, _, _⟩) (v := ?_) rfl ⟨by kernel_rfl, ?_⟩ (by assumption) ?_
      rotate_left
      · (intro wS hSw; (try dsimp only at hSw); obtain ⟨c16, c7⟩ := hSw; go_simp; (try with_reducible rfl))
      (try simp only [Act.put, pS0, pS1, pS2])
      refine wTk (i := 1) (oi := ⟨some 56, _, _, _, _, _⟩) (v := ?_) rfl ⟨by kernel_rfl, ?_⟩ (by assumption) ?_
      rotate_left
      · (intro wS hSw; (try dsimp only at hSw); obtain ⟨c16, c7⟩ := hSw; go_simp; (try with_reducible rfl))
      (try simp only [Act.put, pS0, pS1, pS2])
      refine wTk (i := 2) (oi := ⟨some 57, _, _, _, _, _⟩) (v := ?_) rfl ⟨by kernel_rfl, ?_⟩ (by assumption) ?_
      rotate_left
      · (intro wS hSw; (try dsimp only at hSw); obtain ⟨c16, c7⟩ := hSw; go_simp; (try with_reducible rfl))
      (try simp only [Act.put, pS0, pS1, pS2])
      refine wTk (i := 3) (oi := ⟨some 58, _, _, _, _, _⟩) (v := ?_) rfl ⟨by kernel_rfl, ?_⟩ (by assumption) ?_
      rotate_left
      · (intro wS hSw; (try dsimp only at hSw); obtain ⟨c16, c7⟩ := hSw; go_simp; (try with_reducible rfl))
      (try simp only [Act.put, pS0, pS1, pS2])
      refine wTk (i := 4) (oi := ⟨some 59, _, _, _, _, _⟩) (v := ?_) rfl ⟨by kernel_rfl, ?_⟩ (by assumption) ?_
      rotate_left
      · (intro wS hSw; (try dsimp only at hSw); obtain ⟨c16, c7⟩ := hSw; go_simp; (try with_reducible rfl))
      (try simp only [Act.put, pS0, pS1, pS2])
      refine wTk (i := 5) (oi := ⟨some 60, _, _, _, _, _⟩) (v := ?_) rfl ⟨by kernel_rfl, ?_⟩ (by assumption) ?_
      rotate_left
      · (intro wS hSw; (try dsimp only at hSw); obtain ⟨c16, c7⟩ := hSw; go_simp; (try with_reducible rfl))
      (try simp only [Act.put, pS0, pS1, pS2])
      refine wTk (i := 6) (oi := ⟨some 61, _, _, _, _, _⟩) (v := ?_) rfl ⟨by kernel_rfl, ?_⟩ (by assumption) ?_
      rotate_left
      · (intro wS hSw; (try dsimp only at hSw); obtain ⟨c16, c7⟩ := hSw; go_simp; (try with_reducible rfl))
      (try simp only [Act.put, pS0, pS1, pS2])
      refine wTk (i := 7) (oi := ⟨some 62, _, _, _, _, _⟩) (v := ?_) rfl ⟨by kernel_rfl, ?_⟩ (by assumption) ?_
      rotate_left
      · (intro wS hSw; (try dsimp only at hSw); obtain ⟨c16, c7⟩ := hSw; go_simp; (try with_reducible rfl))
      (try simp only [Act.put, pS0, pS1, pS2])
      refine wTk (i := 8) (oi := ⟨some 63, _, _, _, _, _⟩) (v := ?_) rfl ⟨by kernel_rfl, ?_⟩ (by assumption) ?_
      rotate_left
      · (intro wS hSw; (try dsimp only at hSw); obtain ⟨c16, c7⟩ := hSw; go_simp; (try with_reducible rfl))
      (try simp only [Act.put, pS0, pS1, pS2])
      refine wTk (i := 9) (oi := ⟨some 64, _, _, _, _, _⟩) (v := ?_) rfl ⟨by kernel_rfl, ?_⟩ (by assumption) ?_
      rotate_left
      · (intro wS hSw; (try dsimp only at hSw); obtain ⟨c16, c7⟩ := hSw; go_simp; (try with_reducible rfl))
      (try simp only [Act.put, pS0, pS1, pS2])
      refine wTk (i := 10) (oi := ⟨some 65, _, _, _, _, _⟩) (v := ?_) rfl ⟨by kernel_rfl, ?_⟩ (by assumption) ?_
      rotate_left
      · (intro wS hSw; (try dsimp only at hSw); obtain ⟨c16, c7⟩ := hSw; go_simp; (try with_reducible rfl))
      (try simp only [Act.put, pS0, pS1, pS2])
      refine wTk (i := 12) (oi := ⟨some 67, _, _, _, _, _⟩) (v := ?_) rfl ⟨by kernel_rfl, ?_⟩ (by assumption) ?_
      rotate_left
      · (intro wS hSw; (try dsimp only at hSw); obtain ⟨c16, c7⟩ := hSw; go_simp; (try with_reducible rfl))
      (try simp only [Act.put, pS0, pS1, pS2])
      refine wTk (i := 15) (oi := ⟨some 70, _, _, _, _, _⟩) (v := ?_) rfl ⟨by kernel_rfl, ?_⟩ (by assumption) ?_
      rotate_left
      · (intro wS hSw; (try dsimp only at hSw); obtain ⟨c16, c7⟩ := hSw; go_simp; (try with_reducible rfl))
      (try simp only [Act.put, pS0, pS1, pS2])
      refine wTk (i := 16) (oi := ⟨some 71, _, _, _, _, _⟩) (v := ?_) rfl ⟨by kernel_rfl, ?_⟩ (by assumption) ?_
      rotate_left
      · (intro wS hSw; (try dsimp only at hSw); obtain ⟨c16, c7⟩ := hSw; go_simp; (try with_reducible rfl))
      (try simp only [Act.put, pS0, pS1, pS2])
      refine wTk (i := 19) (oi := ⟨some 74, _, _, _, _, _⟩) (v := ?_) rfl ⟨by kernel_rfl, ?_⟩ (by assumption) ?_
      rotate_left
      · (intro wS hSw; (try dsimp only at hSw); obtain ⟨c16, c7⟩ := hSw; go_simp; (try with_reducible rfl))
      (try simp only [Act.put, pS0, pS1, pS2])
      refine wTk (i := 21) (oi := ⟨some 76, _, _, _, _, _⟩) (v := ?_) rfl ⟨by kernel_rfl, ?_⟩ (by assumption) ?_
      rotate_left
      · (intro wS hSw; (try dsimp only at hSw); obtain ⟨c16, c7⟩ := hSw; go_simp; (try with_reducible rfl))
      (try simp only [Act.put, pS0, pS1, pS2])
      refine wTk (i := 24) (oi := ⟨some 79, _, _, _, _, _⟩) (v := ?_) rfl ⟨by kernel_rfl, ?_⟩ (by assumption) ?_
      rotate_left
      · (intro wS hSw; (try dsimp only at hSw); obtain ⟨c16, c7⟩ := hSw; go_simp; (try with_reducible rfl))
      (try simp only [Act.put, pS0, pS1, pS2])
      refine wTk (i := 25) (oi := ⟨some 80, _, _, _, _, _⟩) (v := ?_) rfl ⟨by kernel_rfl, ?_⟩ (by assumption) ?_
      rotate_left
      · (intro wS hSw; (try dsimp only at hSw); obtain ⟨c16, c7⟩ := hSw; go_simp; (try with_reducible rfl))
      (try simp only [Act.put, pS0, pS1, pS2])
      refine wR1 (i := 11) (o := ⟨some 66, _, _, _, _, _⟩) rfl (fun K hK => ?_)
      go_simp
      ((with_reducible refine (R7.out _ _).mono ?_); rintro e w8 ⟨rfl, rfl⟩)
      go_wp2_with fail
      refine hK.out _ _ ?_ (fun hHeld => ?_)
      · ((try dsimp only); (exact hst))
      clear hK K
      (try simp only [Act.put, pS0, pS1, pS2])
      refine wR1 (i := 13) (o := ⟨some 68, _, _, _, _, _⟩) rfl (fun K hK => ?_)
      go_simp
      ((with_reducible refine (R18.out _ _).mono ?_); rintro e w8 ⟨rfl, rfl⟩)
      go_wp2_with fail
      refine hK.out _ _ ?_ (fun hHeld => ?_)
      · ((try dsimp only); (exact hst))
      clear hK K
      (try simp only [Act.put, pS0, pS1, pS2])
      refine wTk (i := 14) (oi := ⟨some 69, _, _, _, _, _⟩) (v := ?_) rfl ⟨by kernel_rfl, ?_⟩ (by assumption) ?_
      rotate_left
      · (intro wS hSw; (try dsimp only at hSw); obtain ⟨c16, c7⟩ := hSw; go_simp; (try with_reducible rfl))
      (try simp only [Act.put, pS0, pS1, pS2])
      refine wTk (i := 17) (oi := ⟨some 72, _, _, _, _, _⟩) (v := ?_) rfl ⟨by kernel_rfl, ?_⟩ (by assumption) ?_
      rotate_left
      · (intro wS hSw; (try dsimp only at hSw); obtain ⟨c16, c7⟩ := hSw; go_simp; (try with_reducible rfl))
      (try simp only [Act.put, pS0, pS1, pS2])
      refine wTk (i := 18) (oi := ⟨some 73, _, _, _, _, _⟩) (v := ?_) rfl ⟨by kernel_rfl, ?_⟩ (by assumption) ?_
      rotate_left
      · (intro wS hSw; (try dsimp only at hSw); obtain ⟨c16, c7⟩ := hSw; go_simp; (try with_reducible rfl))
      (try simp only [Act.put, pS0, pS1, pS2])
      refine wR1 (i := 20) (o := ⟨some 75, _, _, _, _, _⟩) rfl (fun K hK => ?_)
      go_simp
      ((with_reducible refine (R17.out _ _).mono ?_); rintro e w8 ⟨rfl, rfl⟩)
      go_wp2_with fail
      refine hK.out _ _ ?_ (fun hHeld => ?_)
      · ((try dsimp only); (exact hst))
      clear hK K
      (try simp only [Act.put, pS0, pS1, pS2])
      refine wR1 (i := 22) (o := ⟨some 77, _, _, _, _, _⟩) rfl (fun K hK => ?_)
      go_simp
      ((with_reducible refine (R19.out _ _).mono ?_); rintro e w8 ⟨rfl, rfl⟩)
      go_wp2_with fail
      refine hK.out _ _ ?_ (fun hHeld => ?_)
      · ((try dsimp only); (exact hst))
      clear hK K
      (try simp only [Act.put, pS0, pS1, pS2])
      refine wTk (i := 23) (oi := ⟨some 78, _, _, _, _, _⟩) (v := ?_) rfl ⟨by kernel_rfl, ?_⟩ (by assumption) ?_
      rotate_left
      · (intro wS hSw; (try dsimp only at hSw); obtain ⟨c16, c7⟩ := hSw; go_simp; (try with_reducible rfl))
      (try simp only [Act.put, pS0, pS1, pS2])
      refine wTk (i := 26) (oi := ⟨some 81, _, _, _, _, _⟩) (v := ?_) rfl ⟨by kernel_rfl, ?_⟩ (by assumption) ?_
      rotate_left
      · (intro wS hSw; (try dsimp only at hSw); obtain ⟨c16, c7⟩ := hSw; go_simp; (try with_reducible rfl))
      (try simp only [Act.put, pS0, pS1, pS2])
      refine wTk (i := 27) (oi := ⟨some 82, _, _, _, _, _⟩) (v := ?_) rfl ⟨by kernel_rfl, ?_⟩ (by assumption) ?_
      rotate_left
      · (intro wS hSw; (try dsimp only at hSw); obtain ⟨c16, c7⟩ := hSw; go_simp; (try with_reducible rfl))
      (try simp only [Act.put, pS0, pS1, pS2])
      refine wTk (i := 28) (oi := ⟨some 83, _, _, _, _, _⟩) (v := ?_) rfl ⟨by kernel_rfl, ?_⟩ (by assumption) ?_
      rotate_left
      · (intro wS hSw; (try dsimp only at hSw); obtain ⟨c16, c7⟩ := hSw; go_simp; (try with_reducible rfl))
      (try simp only [Act.put, pS0, pS1, pS2])
      refine wR1 (i := 29) (o := ⟨none, _, _, _, _, _⟩) rfl (fun K hK => ?_)
      go_simp
      refine hK.out _ _ ?_ (fun hHeld => ?_)
      · ((try dsimp only); (exact ⟨cells_other hst.1 (.inr hne16), cells_other hst.2 (.inr hne7)⟩))
      clear hK K
      (try simp only [Act.put, pS0, pS1, pS2])
      refine wpAnyH_done (by kernel_rfl) ?_ _
      have hset : (wca (sch b n) 64).setIfInBounds n (wv (y16 + y7 + (tr y15 7 ^^^ tr y15 18 ^^^ y15 >>> 3) + (tr y2 17 ^^^ tr y2 19 ^^^ y2 >>> 10))) = wca (sch b (n + 1)) 64 := by
       have h9 := wca_set (l := sch b n) (n := 64) (by omega) (y16 + y7 + sg0 y15 + sg1 y2)
       rw [hsl] at h9
       rw [hs.out]
       exact h9
      have hM2 := (HM7.out.set 0 n (wv (y16 + y7 + (tr y15 7 ^^^ tr y15 18 ^^^ y15 >>> 3) + (tr y2 17 ^^^ tr y2 19 ^^^ y2 >>> 10))) rfl).drew
      rw [hset] at hM2
      obtain rfl := HG.out
      have HM2 := Lib.hid hM2
      clear hM2 hst hc9 hf9 hs hset HM7 hv16 hv15 hv7 hv2 q1 q2 q3 q4 R7 R18 R17 R19 hk16 hk15 hk7 hk2
      go_wp2_with fail
      go_roundw
      case rel => exact ⟨n + 1, hlt, by go_num, HM2.out⟩
      case measure => simp [intOf]; omega
  · obtain rfl : n = 64 := by omega
    have hsz := Lib.hid (wca_size (l := sch b 64) (n := 64) (by omega))
    have hsz0 := Lib.hid (wca_size (l := []) (n := 64) (by simp))
    have hal := Lib.hid (wca_all (sch b 64) 64)
    go_wp2_with (first | (refine wpl_loadG rfl 246 _ rfl ⟨w.heap.size + 1, 0, none⟩ (wca (sch b 64) 64) rfl hM.b0.cells _ Tryz.underlying246 rfl (by rw [hsz.out]; kernel_rfl) ?_) | (refine wpList_store_row rfl 246 _ _ rfl w.heap.size (wca (sch b 64) 64) rfl rfl 246 (wca [] 64) hM.b1 (by rw [hsz.out]; kernel_rfl) (by rw [hsz.out, hsz0.out]) hal.out ?_))
    exact bodyPost_ret (res_wa rfl rfl (g := w.heap.size) hM.b1.row hsz.out) rfl ⟨rfl, below_setRow hM.bel (Nat.le_refl _) _⟩
end Go.Proofs.YtajfnmohlnkncaaGreatDoor
