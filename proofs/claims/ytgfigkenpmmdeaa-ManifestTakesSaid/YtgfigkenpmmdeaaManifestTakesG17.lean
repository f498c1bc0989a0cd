/- WHAT IT HOLDS: the document's taking of cursors, walked. | WHAT IT HOLDS: the document's digest out of a reader, walked. | WHAT IT HOLDS: the document's Take and Prefix, and lists side by side, walked. -/
import Derived.Test.YtgfigkenpmmdeaaManifestTakesG16
import Derived.Test.YtgfigkenpmmdeaaManifestTakesG08
namespace Go.Proofs.Ytgfigkenpmmdeaa
open Go.RowKit
attribute [local go_sem ↓] Go.wp_at_zero Go.wp_at_succ

theorem take_neB {k : Nat} {l : List UInt8} (h : l.take k ≠ []) : l ≠ [] := fun e => h (by rw [e]; simp)
/-- bytes, where they lie, and the reader then -/
def RGivesBB (B : Nat) (r : List UInt8 × (List UInt8 × Nat)) (w : World) (e : Ending) (w' : World) : Prop :=
  ∃ A c m v, e = .returned (.tuple #[.slice A (List.length m) c, v]) ∧ Hid (m = r.1) ∧ SlB w' A c m ∧ (m ≠ [] → ∀ ad, A = some ad → ad.block < B) ∧ RV w' B v r.2 ∧ Below w.heap.size w w'
set_option maxRecDepth 100000 in
set_option maxHeartbeats 1000000 in
theorem rFixedB_any {A : Option Addr} {c bad : Nat} {l : List UInt8} (many : Int) (w : World) (hS : SlB w A c l) {B : Nat} (hBd : l ≠ [] → ∀ ad, A = some ad → ad.block < B) : Calls Try.prog 41 #[rv A l.length c bad, .int .i64 many] w (RGivesBB B (rFixed many (l, bad)) w) := by
  have hB0 := (Blk.new w 75 #[.slice A l.length c, .int .i64 bad]).alloc (.cells #[.slice none 0 0, .int .i64 0] 75)
  have hB1 := Blk.newAt (w := w.alloc (.cells #[.slice A l.length c, .int .i64 bad] 75)) (g := w.heap.size + 1) (by simp) 75 #[.slice none 0 0, .int .i64 0]
  have hbw := bel_alloc (below_new w (.cells #[.slice A l.length c, .int .i64 bad] 75)) (.cells #[.slice none 0 0, .int .i64 0] 75)
  rcases Decidable.em (bad = 0) with h0 | h0
  · subst h0
    rcases Decidable.em (many < 0) with h1 | h1
    · have HG : Hid (rFixed many (l, 0) = ([], (l, 2))) := (show _ = _ by simp [rFixed, h1])
      go_enter Try.func41, Try.ntmps41
      go_wp2_with fail
      refine (rfail_any (l := l) 2 _).mono ?_
      rintro e w1 ⟨b, rfl, hfb, hb1⟩
      have hD1 := hB1.below hb1
      have hw1 := bel_call hbw hb1
      obtain ⟨b0, b1, f0, f1⟩ := hD1.two
      go_wp2_with fail
      refine bodyPost_ret (res_r2 rfl rfl (g := w.heap.size + 1) (x := .slice A l.length c) (y := .int .i64 b) (by (repeat (first | with_reducible exact hD1 | with_reducible apply Blk.set3 | with_reducible apply Blk.set2 | with_reducible refine Blk.alloc ?_ _ | with_reducible refine Blk.far ?_ (by first | omega | (dsimp only; omega)) _ | with_reducible refine Blk.drewN ?_ _ | with_reducible refine Blk.drew ?_)))) rfl ⟨none, 0, [], rv A l.length c b, rfl, by rw [HG.out]; rfl, SlB.nil _ _ _ (by simp [maxLen]) (fun _ => rfl), fun hn => absurd rfl hn, ?_, by (repeat (first | with_reducible exact hw1 | with_reducible refine bel_alloc ?_ _ | with_reducible refine bel_set ?_ (by first | omega | (dsimp only; omega)) _ | with_reducible refine below_drewN ?_ _ | with_reducible refine Below.drew ?_))⟩
      rw [HG.out]
      obtain rfl : b = 2 := by have := hfb.out; simp [rFail] at this; omega
      exact ⟨A, c, rfl, hS.below (by (repeat (first | with_reducible exact hw1 | with_reducible refine bel_alloc ?_ _ | with_reducible refine bel_set ?_ (by first | omega | (dsimp only; omega)) _ | with_reducible refine below_drewN ?_ _ | with_reducible refine Below.drew ?_))), hBd⟩
    · obtain ⟨k, rfl⟩ := Int.eq_ofNat_of_zero_le (by omega : 0 ≤ many)
      rcases Decidable.em (l.length < k) with h2 | h2
      · have HG : Hid (rFixed k (l, 0) = ([], (l, 2))) := (show _ = _ by simp [rFixed, h2])
        go_enter Try.func41, Try.ntmps41
        go_wp2_with fail
        refine (rfail_any (l := l) 2 _).mono ?_
        rintro e w1 ⟨b, rfl, hfb, hb1⟩
        have hD1 := hB1.below hb1
        have hw1 := bel_call hbw hb1
        obtain ⟨b0, b1, f0, f1⟩ := hD1.two
        go_wp2_with fail
        refine bodyPost_ret (res_r2 rfl rfl (g := w.heap.size + 1) (x := .slice A l.length c) (y := .int .i64 b) (by (repeat (first | with_reducible exact hD1 | with_reducible apply Blk.set3 | with_reducible apply Blk.set2 | with_reducible refine Blk.alloc ?_ _ | with_reducible refine Blk.far ?_ (by first | omega | (dsimp only; omega)) _ | with_reducible refine Blk.drewN ?_ _ | with_reducible refine Blk.drew ?_)))) rfl ⟨none, 0, [], rv A l.length c b, rfl, by rw [HG.out]; rfl, SlB.nil _ _ _ (by simp [maxLen]) (fun _ => rfl), fun hn => absurd rfl hn, ?_, by (repeat (first | with_reducible exact hw1 | with_reducible refine bel_alloc ?_ _ | with_reducible refine bel_set ?_ (by first | omega | (dsimp only; omega)) _ | with_reducible refine below_drewN ?_ _ | with_reducible refine Below.drew ?_))⟩
        rw [HG.out]
        obtain rfl : b = 2 := by have := hfb.out; simp [rFail] at this; omega
        exact ⟨A, c, rfl, hS.below (by (repeat (first | with_reducible exact hw1 | with_reducible refine bel_alloc ?_ _ | with_reducible refine bel_set ?_ (by first | omega | (dsimp only; omega)) _ | with_reducible refine below_drewN ?_ _ | with_reducible refine Below.drew ?_))), hBd⟩
      · have HG : Hid (rFixed k (l, 0) = (l.take k, (l.drop k, 0))) := (show _ = _ by simp [rFixed, h2])
        have hk : k ≤ l.length := by omega
        have hkc : k ≤ c := Nat.le_trans hk hS.2.1
        have hmx : c ≤ 9223372036854775807 := by have := hS.2.2.1; unfold maxLen at this; exact this
        have ht := hS.takeB k
        have hlt : (l.take k).length = k := by simp; omega
        have HLT := Lib.hid hlt
        clear hlt
        go_enter Try.func41, Try.ntmps41
        go_wp2_with fail
        all_goals
          go_region
        all_goals
          go_wp2_with fail
          have hw2 := (bel_alloc (below_new w (.cells #[.slice A l.length c, .int .i64 0] 75)) (.cells #[.slice none 0 0, .int .i64 0] 75))
          first
            | (have h := cutRV_eq hS hBd hk ‹_›
               refine bodyPost_ret (res_r2 rfl rfl (g := w.heap.size + 1) (x := .slice A (l.length - k) 0) (y := .int .i64 0) (Blk.newAt (by simp) _ _).drew) rfl ⟨A, k, l.take k, rv A (l.length - k) 0 0, ?_, by rw [HG.out]; rfl, ?_, fun hn => hBd (take_neB hn), ?_, (bel_alloc (below_new _ _) _).drew⟩
               · rw [HLT.out]; rfl
               · exact Sl.below (by have := ht; rw [‹c = k›] at this; exact this) (bel_alloc (below_new _ _) _).drew
               · rw [HG.out]; exact h.below (bel_alloc (below_new _ _) _).drew)
            | (have h := cutRV_ne hS hBd hk ‹_›
               refine bodyPost_ret (res_r2 rfl rfl (g := w.heap.size + 1) (x := .slice (Option.map (fun x => x.add k) A) (l.length - k) (c - k)) (y := .int .i64 0) (Blk.newAt (by simp) _ _).drew) rfl ⟨A, c, l.take k, rv (Option.map (fun x => x.add k) A) (l.length - k) (c - k) 0, ?_, by rw [HG.out]; rfl, ?_, fun hn => hBd (take_neB hn), ?_, (bel_alloc (below_new _ _) _).drew⟩
               · rw [HLT.out]; rfl
               · exact Sl.below ht (bel_alloc (below_new _ _) _).drew
               · rw [HG.out]; exact h.below (bel_alloc (below_new _ _) _).drew)
  · have hb : ((bad : Int) != 0) = true := by simp; omega
    have HG : Hid (rFixed many (l, bad) = ([], (l, bad))) := (show _ = _ by simp [rFixed, h0])
    clear h0
    go_enter Try.func41, Try.ntmps41
    go_wp2_with fail
    go_region
    all_goals
      go_wp2_with fail
      refine bodyPost_ret (res_r2 rfl rfl (g := w.heap.size + 1) (x := .slice A l.length c) (y := .int .i64 bad) (Blk.newAt (by simp) _ _).drew) rfl ⟨none, 0, [], rv A l.length c bad, rfl, by rw [HG.out]; rfl, SlB.nil _ _ _ (by simp [maxLen]) (fun _ => rfl), fun hn => absurd rfl hn, ?_, (bel_alloc (below_new _ _) _).drew⟩
      rw [HG.out]
      exact ⟨A, c, rfl, hS.below (bel_alloc (below_new _ _) _).drew, hBd⟩


theorem SlB.setB {w : World} {B k i c : Nat} {A : Option Addr} {l : List UInt8} (h : SlB w A c l) (hBd : l ≠ [] → ∀ ad, A = some ad → ad.block < B) (hk : B ≤ k) (v : Value) : SlB (w.setCell ⟨k, i, none⟩ v) A c l :=
  ⟨h.1, h.2.1, h.2.2.1, h.2.2.2.1, fun j u hj => by
    obtain ⟨ad, hA, hc⟩ := h.2.2.2.2 j u hj
    have hne : l ≠ [] := by rintro e; rw [e] at hj; simp at hj
    have hlt := hBd hne ad hA
    exact ⟨ad, hA, by rw [← hc]; exact World.cell?_setCell_far _ _ _ _ (by rw [addr_add_block]; dsimp only; omega)⟩⟩
theorem rNumber_v {A : Option Addr} {c : Nat} {s : List UInt8 × Nat} (w : World) (hS : SlB w A c s.1) {B : Nat} (hBd : s.1 ≠ [] → ∀ ad, A = some ad → ad.block < B) : Calls Try.prog 31 #[rv A s.1.length c s.2] w (RGives .u64 B (rNum s) w) := by obtain ⟨l, b⟩ := s; exact rNumber_any w hS hBd
theorem rWithin_v18 {A : Option Addr} {c : Nat} {s : List UInt8 × Nat} (most : Nat) (w : World) (hS : SlB w A c s.1) {B : Nat} (hBd : s.1 ≠ [] → ∀ ad, A = some ad → ad.block < B) : Calls Try.prog 29 #[rv A s.1.length c s.2, .int .u64 most] w (RGives .i64 B (rWithin most s) w) := by obtain ⟨l, b⟩ := s; exact rWithin_any most w hS hBd
theorem rFixed_v {A : Option Addr} {c : Nat} {s : List UInt8 × Nat} (many : Int) (w : World) (hS : SlB w A c s.1) {B : Nat} (hBd : s.1 ≠ [] → ∀ ad, A = some ad → ad.block < B) : Calls Try.prog 41 #[rv A s.1.length c s.2, .int .i64 many] w (RGivesBB B (rFixed many s) w) := by obtain ⟨l, b⟩ := s; exact rFixedB_any many w hS hBd
theorem rEnd_v18 {A : Option Addr} {c : Nat} {s : List UInt8 × Nat} (w : World) : Calls Try.prog 32 #[rv A s.1.length c s.2] w fun e w' => e = .returned (.int .i64 (rEnd s : Nat)) ∧ Below w.heap.size w w' := by obtain ⟨l, b⟩ := s; exact rEnd_any w
theorem rWithin_bad {n : Nat} {s : List UInt8 × Nat} (h : s.2 ≠ 0) : (rWithin n s).2 = s := by
  have hr : rNum s = (0, s) := by unfold rNum; rw [if_pos h]
  unfold rWithin
  rw [hr, if_neg (by simp)]
theorem rFixed_bad {n : Int} {s : List UInt8 × Nat} (h : s.2 ≠ 0) : rFixed n s = ([], s) := by unfold rFixed; rw [if_pos h]
theorem rPart_bad {a : Int} {s : List UInt8 × Nat} (h : s.2 ≠ 0) : (rPart a s).2 = s := by
  show (rDg (rWithin 65536 (rWithin 64 s).2).2).2 = s
  rw [rWithin_bad (n := 64) h, rWithin_bad (n := 65536) h]
  show (rFixed 32 s).2 = s
  rw [rFixed_bad h]
theorem crLoop_bad : ∀ (k : Nat) (a : Int) (s : List UInt8 × Nat), s.2 ≠ 0 → (crLoop k a s).2 = s
  | 0, _, _, _ => rfl
  | k + 1, a, s, h => by
    show (crLoop k (a + (rPart a s).1.2.1) (rPart a s).2).2 = s
    rw [rPart_bad h]
    exact crLoop_bad k _ _ h
theorem crLoop_stop : ∀ (n k : Nat) (a : Int) (s : List UInt8 × Nat), k ≤ n → (crLoop k a s).2.2 ≠ 0 → (crLoop n a s).2 = (crLoop k a s).2
  | n, 0, a, s, _, h => crLoop_bad n a s h
  | 0, k + 1, _, _, h, _ => by omega
  | n + 1, k + 1, a, s, hk, h => crLoop_stop n k (a + (rPart a s).1.2.1) (rPart a s).2 (by omega) h
theorem crLoop_step (k : Nat) (a : Int) (s : List UInt8 × Nat) : crLoop (k + 1) a s = ((crLoop k a s).1 ++ [(rPart (pend a (crLoop k a s).1) (crLoop k a s).2).1], (rPart (pend a (crLoop k a s).1) (crLoop k a s).2).2) := crLoop_succ k a s
/-- a part's cells while its digest is laid, byte by byte -/
def ptk (a x y : Int) (m : List UInt8) (k : Nat) : Array Value := (.int .i64 a :: .int .i64 x :: .int .i64 y :: bvs (m.take k ++ List.replicate (32 - k) 0)).toArray
theorem ptk_zero (a x y : Int) (m : List UInt8) : ptk a x y m 0 = pta (a, x, y, dg0) := by
  unfold ptk pta ptl dg0
  simp
theorem ptk_full (a x y : Int) (m : List UInt8) (h : m.length = 32) : ptk a x y m 32 = pta (a, x, y, ⟨m, h⟩) := by
  unfold ptk pta ptl
  rw [List.take_of_length_le (by omega)]
  simp
theorem ptk_size (a x y : Int) (m : List UInt8) (k : Nat) (hk : k ≤ 32) (h : m.length = 32) : (ptk a x y m k).size = 35 := by
  unfold ptk
  simp
  omega
theorem ptk_set (a x y : Int) (m : List UInt8) (k : Nat) (hk : k < 32) (h : m.length = 32) : (ptk a x y m k).setIfInBounds (3 + k) (bv (m[k]'(by omega))) = ptk a x y m (k + 1) := by
  unfold ptk
  rw [List.setIfInBounds_toArray]
  congr 1
  rw [show 3 + k = k + 1 + 1 + 1 from by omega, List.set_cons_succ, List.set_cons_succ, List.set_cons_succ]
  congr 3
  rw [← List.map_set]
  congr 1
  have hl : (m.take k).length = k := by simp; omega
  rw [List.set_append_right _ _ (by omega), hl, Nat.sub_self, show 32 - k = (32 - (k + 1)) + 1 from by omega, List.replicate_succ, List.set_cons_zero, List.take_succ_eq_append_getElem (by omega), List.append_assoc]
  rfl
end Go.Proofs.Ytgfigkenpmmdeaa

namespace Go.Proofs.Ytgfigkenpmmdeaa
open Go.RowKit
attribute [local go_sem ↓] Go.wp_at_zero Go.wp_at_succ

/-- a digest's cells while it is laid, byte by byte -/
def dgk (m : List UInt8) (k : Nat) : Array Value := (bvs (m.take k ++ List.replicate (32 - k) 0)).toArray
theorem dgk_zero (m : List UInt8) : dgk m 0 = dga dg0 := by unfold dgk dga dg0; simp
theorem dgk_full (m : List UInt8) (h : m.length = 32) : dgk m 32 = dga ⟨m, h⟩ := by
  unfold dgk dga
  rw [List.take_of_length_le (by omega)]
  simp
theorem dgk_size (m : List UInt8) (k : Nat) (hk : k ≤ 32) (h : m.length = 32) : (dgk m k).size = 32 := by
  unfold dgk
  simp
  omega
theorem dgk_set (m : List UInt8) (k : Nat) (hk : k < 32) (h : m.length = 32) : (dgk m k).setIfInBounds k (bv (m[k]'(by omega))) = dgk m (k + 1) := by
  unfold dgk
  rw [List.setIfInBounds_toArray]
  congr 1
  rw [← List.map_set]
  congr 1
  have hl : (m.take k).length = k := by simp; omega
  rw [List.set_append_right _ _ (by omega), hl, Nat.sub_self, show 32 - k = (32 - (k + 1)) + 1 from by omega, List.replicate_succ, List.set_cons_zero, List.take_succ_eq_append_getElem (by omega), List.append_assoc]
  rfl
theorem step_loadG {P : Program} {ops : Array Oper} {o : Oper} {a : Act} {w : World} {K : Act → World → Prop} {Q : Exit → Act → World → Prop} {X : Prop} (hgd : Region.wanted o (yielded ops a.tmps) = true) (ty : TypeId) (x : Operand) (ho : o.op = .load ty x)
    (ad : Addr) (cs : Array Value) (hx : a.eval x = .pointer (some ad)) (hc : ∀ j u, cs[j]? = some u → w.cell? (ad.add j) = some u) (d : TypeDesc) (hu : P.underlying ty = some d) (hd : (match d with | .struct _ | .array _ _ => true | _ => false) = true) (hi : (P.info? ty).map (·.size) = some cs.size)
    (h : K (a.put o.dst (.agg cs)) w) : if Region.wanted o (yielded ops a.tmps) = true then Oper.wp P o a w K Q else X := by
  rw [if_pos hgd]
  exact wp_loadA ty x ho ad cs hx hc d hu hd hi h
theorem step_storeRow {P : Program} {ops : Array Oper} {o : Oper} {a : Act} {w : World} {K : Act → World → Prop} {Q : Exit → Act → World → Prop} {X : Prop} (hgd : Region.wanted o (yielded ops a.tmps) = true) (ty : TypeId) (x y : Operand) (ho : o.op = .store ty x y)
    (g : Nat) (cells : Array Value) (hx : a.eval x = .pointer (some ⟨g, 0, none⟩)) (hy : a.eval y = .agg cells)
    (t : TypeId) (old : Array Value) (hg : Blk w g t old) (hi : (P.info? ty).map (·.size) = some cells.size)
    (hold : old.size = cells.size) (h1 : cells.all (·.oneCell') = true)
    (h : K (a.put o.dst undef) (w.setRow g cells)) : if Region.wanted o (yielded ops a.tmps) = true then Oper.wp P o a w K Q else X := by
  rw [if_pos hgd]
  exact wp_store_row ty x y ho g cells hx hy t old hg hi hold h1 h
theorem SlB.rowB {w : World} {B k c : Nat} {A : Option Addr} {l : List UInt8} (h : SlB w A c l) (hBd : l ≠ [] → ∀ ad, A = some ad → ad.block < B) (hk : B ≤ k) (cs : Array Value) : SlB (w.setRow k cs) A c l := SlB.apart h hBd (Nat.le_refl _) (below_setRow (Below.refl _ _) hk cs)
theorem res_dr2 {fn : Func} {a b : Nat} {tmps : Array Value} {w : World} {g k : Nat} {d : Dg} {x y : Value} (hres : fn.results = #[.cell a 33, .cell b 75]) (ha : tmps.getD a undef = .pointer (some ⟨g, 0, none⟩)) (hb : tmps.getD b undef = .pointer (some ⟨k, 0, none⟩)) (hB : Blk w g 33 (dga d)) (hK : Blk w k 75 #[x, y]) :
    (results fn tmps).run Try.prog w = .ok (.tuple #[.agg (dga d), .agg #[x, y]]) w := by
  have h := run_loadVar_at (P := Try.prog) w ⟨g, 0, none⟩ 33 (dga d) hB.cells _ Try.underlying33 rfl (by rw [dga_size]; kernel_rfl)
  have h2 := run_loadVar_at (P := Try.prog) w ⟨k, 0, none⟩ 75 #[x, y] hK.cells _ Try.underlying75 rfl (by kernel_rfl)
  have ha' : tmps[a]?.getD undef = .pointer (some ⟨g, 0, none⟩) := by simpa using ha
  have hb' : tmps[b]?.getD undef = .pointer (some ⟨k, 0, none⟩) := by simpa using hb
  simp [results, hres, asAddr, h, h2, ha', hb']
/-- a digest, and the reader then -/
def RGivesD (B : Nat) (r : Dg × (List UInt8 × Nat)) (w : World) (e : Ending) (w' : World) : Prop := ∃ v, e = .returned (.tuple #[.agg (dga r.1), v]) ∧ RV w' B v r.2 ∧ Below w.heap.size w w'
set_option maxRecDepth 100000 in
set_option maxHeartbeats 1000000 in
theorem rDig_any {A : Option Addr} {c : Nat} {s : List UInt8 × Nat} (w : World) (hS : SlB w A c s.1) {B : Nat} (hBd : s.1 ≠ [] → ∀ ad, A = some ad → ad.block < B) (hBB : B ≤ w.heap.size) :
    Calls Try.prog 30 #[rv A s.1.length c s.2] w (RGivesD B (rDg s) w) := by
  have hM := (((Mm.start w).alloc #[.slice A s.1.length c, .int .i64 (s.2 : Nat)] 75).alloc (dga dg0) 33).alloc #[.slice none 0 0, .int .i64 0] 75
  rw [show ((w.alloc (.cells #[.slice A s.1.length c, .int .i64 (s.2 : Nat)] 75)).alloc (.cells (dga dg0) 33)).heap.size = w.heap.size + 1 + 1 from by simp, show (w.alloc (.cells #[.slice A s.1.length c, .int .i64 (s.2 : Nat)] 75)).heap.size = w.heap.size + 1 from by simp] at hM
  have hz : (((w.alloc (.cells #[.slice A s.1.length c, .int .i64 (s.2 : Nat)] 75)).alloc (.cells (dga dg0) 33)).alloc (.cells #[.slice none 0 0, .int .i64 0] 75)).heap.size = w.heap.size + 3 := by simp
  have hds := fun d => Lib.hid (dga_size d)
  have hda := fun d => Lib.hid (dga_all d)
  go_enter Try.func30, Try.ntmps30
  go_upto_region 1 with (fail)
  refine gen1 (T := fun W => Mm w W [(w.heap.size + 1 + 1, 75, #[.slice none 0 0, .int .i64 0]), (w.heap.size + 1, 33, dga dg0), (w.heap.size, 75, #[.slice A s.1.length c, .int .i64 (s.2 : Nat)])] [] ∧ W.heap.size = w.heap.size + 3) ⟨hM, hz⟩ (fun w0 hT => ?_)
  clear hM hz
  obtain ⟨hM, hz⟩ := hT
  have hMx := hM.alloc (dga dg0) 33
  rw [hz] at hMx
  go_upto_region 2 with (first | (refine wpl_buildDz (by kernel_rfl) rfl ?_) | (refine wpl_storeNg (g := w.heap.size + 3) hz.symm rfl 33 _ _ rfl _ (dga dg0) 33 rfl rfl (by rw [(hds dg0).out]; kernel_rfl) (by rw [(hds dg0).out]; rfl) (hda dg0).out ?_))
  clear hM hz
  refine gen1 (T := fun W => Mm w W [(w.heap.size + 3, 33, dga dg0), (w.heap.size + 1 + 1, 75, #[.slice none 0 0, .int .i64 0]), (w.heap.size + 1, 33, dga dg0), (w.heap.size, 75, #[.slice A s.1.length c, .int .i64 (s.2 : Nat)])] []) hMx (fun w1 hM => ?_)
  clear hMx
  obtain ⟨x0, x1, xf0, xf1⟩ := Blk.two hM.b3
  go_wp2_with fail
  refine (rFixed_v (s := s) 32 _ (hS.below hM.bel) hBd).mono ?_
  rintro e wn ⟨Am, cm, mm, v, rfl, hmm, hSm, hBm, ⟨An, cn, rfl, hSn, hBdn⟩, hbn⟩
  obtain ⟨mf, s8, h8⟩ : ∃ n s', rFixed 32 s = (n, s') := ⟨_, _, rfl⟩
  have hmf := rFixed32 s
  rw [h8] at hmf hmm hSn hBdn ⊢
  dsimp only at hmm hSn hBdn ⊢
  have hrd : rDg s = ((if h : mf.length = 32 then ⟨mf, h⟩ else dg0), s8) := by unfold rDg; simp only [h8]
  obtain rfl : mm = mf := hmm.out
  obtain ⟨d, hd⟩ : ∃ d, (if h : mm.length = 32 then (⟨mm, h⟩ : Dg) else dg0) = d := ⟨_, rfl⟩
  rw [hd] at hrd
  have HRD := Lib.hid hrd
  have HMF := Lib.hid hmf
  replace hM := hM.call hbn
  clear hbn x0 x1 xf0 xf1 hmm hmf h8 hrd
  obtain ⟨x0, x1, xf0, xf1⟩ := Blk.two hM.b3
  go_upto_region 3 with (fail)
  have hMx := (hM.set 3 0 (.slice An s8.1.length cn) rfl).set 3 1 (.int .i64 (s8.2 : Nat)) rfl
  have hSx := SlB.setB (i := 1) (SlB.setB (i := 0) (k := w.heap.size) hSn hBdn hBB (.slice An s8.1.length cn)) (k := w.heap.size) hBdn hBB (.int .i64 (s8.2 : Nat))
  have hSmx := SlB.setB (i := 1) (SlB.setB (i := 0) (k := w.heap.size) hSm hBm hBB (.slice An s8.1.length cn)) (k := w.heap.size) hBm hBB (.int .i64 (s8.2 : Nat))
  refine gen1 (T := fun W => (Mm w W [(w.heap.size + 3, 33, dga dg0), (w.heap.size + 1 + 1, 75, #[.slice none 0 0, .int .i64 0]), (w.heap.size + 1, 33, dga dg0), (w.heap.size, 75, #[.slice An s8.1.length cn, .int .i64 (s8.2 : Nat)])] [] ∧ SlB W An cn s8.1) ∧ SlB W Am cm mm) ⟨⟨hMx, hSx⟩, hSmx⟩ (fun w3 hT => ?_)
  clear hMx hSx hSmx hM hSn hSm x0 x1 xf0 xf1
  obtain ⟨⟨hM, hSn⟩, hSm⟩ := hT
  go_wp2_with fail
  go_loopw [6] (fun x wz => ∃ j : Nat, j ≤ mm.length ∧ x = .int .i64 (j : Nat) ∧ Mm w wz [(w.heap.size + 3, 33, if mm.length = 32 then dgk mm j else dga dg0), (w.heap.size + 1 + 1, 75, #[.slice none 0 0, .int .i64 0]), (w.heap.size + 1, 33, dga dg0), (w.heap.size, 75, #[.slice An s8.1.length cn, .int .i64 (s8.2 : Nat)])] [] ∧ SlB wz An cn s8.1 ∧ SlB wz Am cm mm) (fun x wz => mm.length - (intOf x).toNat)
  case atStart => exact ⟨0, Nat.zero_le _, rfl, by rw [dgk_zero, ite_self]; exact hM, hSn, hSm⟩
  case round =>
    obtain ⟨j, hj, rfl, hM', hS', hSm'⟩ := hrel
    clear hM hSn hSm
    rcases Nat.lt_or_ge j mm.length with hjl | hjl
    · have h32 : mm.length = 32 := by have := HMF.out; omega
      rw [if_pos h32] at hM'
      obtain ⟨ad, rfl, hcj⟩ := Sl.at1 hSm' hjl
      have hset := Lib.hid (dgk_set mm j (by omega) h32)
      have hfz := hM'.b0.frozen j
      have hpz := Lib.hid (dgk_size mm j (by omega) h32)
      obtain ⟨v0, hv0⟩ : ∃ v, World.cell? _ ⟨w.heap.size + 3, j, none⟩ = some v := ⟨_, (hM'.b0.cell j).trans (Array.getElem?_eq_getElem (by rw [hpz.out]; omega))⟩
      have hj0 : 0 ≤ (j : Int) := by omega
      have hj1 : (j : Int) < (mm.length : Int) := by omega
      have hj2 : (j : Int) < 32 := by omega
      have H32 := Lib.hid h32
      generalize mm[j] = bj at *
      clear h32
      go_upto_region 5 with (fail)
      have hMx := hM'.set 0 j (bv bj) rfl
      rw [hset.out] at hMx
      have hSx := SlB.setB (k := w.heap.size + 3) (i := j) hS' hBdn (by omega) (bv bj)
      have hSmx := SlB.setB (k := w.heap.size + 3) (i := j) hSm' hBm (by omega) (bv bj)
      go_wp2_with fail
      go_roundw
      case rel => exact ⟨j + 1, by omega, by go_num, by rw [if_pos H32.out]; exact hMx, hSx, hSmx⟩
      case measure => simp [intOf]; omega
    · obtain rfl : j = mm.length := by omega
      have hpt : (if mm.length = 32 then dgk mm mm.length else dga dg0) = dga d := by
        rcases HMF.out with h | h
        · rw [dif_neg (by omega)] at hd
          rw [if_neg (by omega), hd]
        · rw [dif_pos h] at hd
          rw [if_pos h, ← hd, h, dgk_full _ h]
      rw [hpt] at hM'
      clear hpt hd HMF hSm' hBm
      go_upto_region 7 with (fail)
      have hMd := (hM'.sub (L' := [(w.heap.size + 3, 33, dga d), (w.heap.size, 75, #[.slice An s8.1.length cn, .int .i64 (s8.2 : Nat)])]) (by simp)).drew
      have hb1 := hM'.b2.drew
      have hb2 := hM'.b1.drew
      have hSd : SlB (World.drew _) An cn s8.1 := hS'
      clear hM' hS'
      refine wp_region_held_drew (S := (fun W => Mm w W [(w.heap.size + 3, 33, dga d), (w.heap.size, 75, #[.slice An s8.1.length cn, .int .i64 (s8.2 : Nat)])] [])) (by kernel_rfl) ?_ (fun hHeld => ?_)
      · exact hMd
      refine gen0 (T := fun W => ((fun W => Mm w W [(w.heap.size + 3, 33, dga d), (w.heap.size, 75, #[.slice An s8.1.length cn, .int .i64 (s8.2 : Nat)])] [])) W ∧ Blk W (w.heap.size + 1) 33 (dga dg0) ∧ Blk W (w.heap.size + 1 + 1) 75 #[.slice none 0 0, .int .i64 0] ∧ SlB W An cn s8.1 ∧ True) ?_ (fun wq1 hT => ?_)
      · exact ⟨by (first | with_reducible exact hMd | with_reducible exact hHeld | with_reducible exact hHeld.off (Wr.row _) (by simp) (by omega) | with_reducible exact hHeld.off (((Wr.refl _ _).set_ 0 _).set_ 1 _) (by simp <;> omega) (by omega)), by (first | with_reducible assumption | with_reducible exact hb1 | with_reducible exact hb2 | with_reducible exact hSd | with_reducible exact Blk.row (t := 33) (old := dga dg0) (by with_reducible assumption) | with_reducible exact Blk.rowFar (by with_reducible assumption) (by omega) _ | with_reducible exact Blk.set2 (a := .slice none 0 0) (b := .int .i64 0) (by with_reducible assumption) _ _ | with_reducible exact Blk.far2 (by with_reducible assumption) (by omega) _ _ | with_reducible exact SlB.setB (i := 1) (SlB.setB (i := 0) (k := w.heap.size + 1 + 1) (by with_reducible assumption) hBdn (by omega) _) (k := w.heap.size + 1 + 1) hBdn (by omega) _ | with_reducible exact SlB.rowB (by with_reducible assumption) hBdn (by omega) _), by (first | with_reducible assumption | with_reducible exact hb1 | with_reducible exact hb2 | with_reducible exact hSd | with_reducible exact Blk.row (t := 33) (old := dga dg0) (by with_reducible assumption) | with_reducible exact Blk.rowFar (by with_reducible assumption) (by omega) _ | with_reducible exact Blk.set2 (a := .slice none 0 0) (b := .int .i64 0) (by with_reducible assumption) _ _ | with_reducible exact Blk.far2 (by with_reducible assumption) (by omega) _ _ | with_reducible exact SlB.setB (i := 1) (SlB.setB (i := 0) (k := w.heap.size + 1 + 1) (by with_reducible assumption) hBdn (by omega) _) (k := w.heap.size + 1 + 1) hBdn (by omega) _ | with_reducible exact SlB.rowB (by with_reducible assumption) hBdn (by omega) _), by (first | with_reducible assumption | with_reducible exact hb1 | with_reducible exact hb2 | with_reducible exact hSd | with_reducible exact Blk.row (t := 33) (old := dga dg0) (by with_reducible assumption) | with_reducible exact Blk.rowFar (by with_reducible assumption) (by omega) _ | with_reducible exact Blk.set2 (a := .slice none 0 0) (b := .int .i64 0) (by with_reducible assumption) _ _ | with_reducible exact Blk.far2 (by with_reducible assumption) (by omega) _ _ | with_reducible exact SlB.setB (i := 1) (SlB.setB (i := 0) (k := w.heap.size + 1 + 1) (by with_reducible assumption) hBdn (by omega) _) (k := w.heap.size + 1 + 1) hBdn (by omega) _ | with_reducible exact SlB.rowB (by with_reducible assumption) hBdn (by omega) _), trivial⟩
      (try clear f0 f1 f2 f3 f4 f5 f6 f7 f8 f9 f10 f11)
      obtain ⟨hHeld, f0, f1, f2, -⟩ := hT
      refine wpAnyH_take (i := 1) (oi := ⟨some 26, _, _, _, _, _⟩) (v := ?_) rfl (by kernel_rfl) (by kernel_rfl) (by kernel_rfl) (fun _ _ _ h => h) (Or.inl ⟨by kernel_rfl, ?_⟩) (by assumption) ?_
      rotate_left
      · (intro wS hSw; (try dsimp only at hSw); obtain ⟨q0, q1, -⟩ := Blk.two hSw.b1; clear hSw; go_simp; (try with_reducible rfl))
      (try simp only [Act.put, List.setIfInBounds_toArray, List.set_cons_zero, List.set_cons_succ])
      refine wpAnyH_ready (rs := [0]) (by kernel_rfl) (by simp) ?_
      refine AllReadyH.cons (o := ⟨some 25, _, _, _, _, _⟩) rfl (fun K hK => ?_) AllReadyH.nil
      (first | (refine step_loadG (by kernel_rfl) 33 _ rfl ⟨w.heap.size + 3, 0, none⟩ (dga d) rfl hHeld.b0.cells _ Try.underlying33 rfl (by rw [(hds d).out]; kernel_rfl) ?_) | (refine step_storeRow (by kernel_rfl) 33 _ _ rfl (w.heap.size + 1) (dga d) rfl rfl 33 (dga dg0) (by with_reducible assumption) (by rw [(hds d).out]; kernel_rfl) (by rw [(hds d).out, (hds dg0).out]) (hda d).out ?_) | (have hq : Blk _ (w.heap.size + 1 + 1) 75 #[.slice none 0 0, .int .i64 0] := (by with_reducible assumption); obtain ⟨s0, s1, sf0, sf1⟩ := Blk.two hq; go_simp) | go_simp)
      refine hK.out _ _ ?_ (fun _ => ?_)
      · ((try dsimp only); (first | with_reducible exact hMd | with_reducible exact hHeld | with_reducible exact hHeld.off (Wr.row _) (by simp) (by omega) | with_reducible exact hHeld.off (((Wr.refl _ _).set_ 0 _).set_ 1 _) (by simp <;> omega) (by omega)))
      clear hK K
      (try simp only [Act.put, List.setIfInBounds_toArray, List.set_cons_zero, List.set_cons_succ])
      refine gen0 (T := fun W => ((fun W => Mm w W [(w.heap.size + 3, 33, dga d), (w.heap.size, 75, #[.slice An s8.1.length cn, .int .i64 (s8.2 : Nat)])] [])) W ∧ Blk W (w.heap.size + 1) 33 (dga dg0) ∧ Blk W (w.heap.size + 1 + 1) 75 #[.slice none 0 0, .int .i64 0] ∧ SlB W An cn s8.1 ∧ True) ?_ (fun wq2 hT => ?_)
      · exact ⟨by (first | with_reducible exact hMd | with_reducible exact hHeld | with_reducible exact hHeld.off (Wr.row _) (by simp) (by omega) | with_reducible exact hHeld.off (((Wr.refl _ _).set_ 0 _).set_ 1 _) (by simp <;> omega) (by omega)), by (first | with_reducible assumption | with_reducible exact hb1 | with_reducible exact hb2 | with_reducible exact hSd | with_reducible exact Blk.row (t := 33) (old := dga dg0) (by with_reducible assumption) | with_reducible exact Blk.rowFar (by with_reducible assumption) (by omega) _ | with_reducible exact Blk.set2 (a := .slice none 0 0) (b := .int .i64 0) (by with_reducible assumption) _ _ | with_reducible exact Blk.far2 (by with_reducible assumption) (by omega) _ _ | with_reducible exact SlB.setB (i := 1) (SlB.setB (i := 0) (k := w.heap.size + 1 + 1) (by with_reducible assumption) hBdn (by omega) _) (k := w.heap.size + 1 + 1) hBdn (by omega) _ | with_reducible exact SlB.rowB (by with_reducible assumption) hBdn (by omega) _), by (first | with_reducible assumption | with_reducible exact hb1 | with_reducible exact hb2 | with_reducible exact hSd | with_reducible exact Blk.row (t := 33) (old := dga dg0) (by with_reducible assumption) | with_reducible exact Blk.rowFar (by with_reducible assumption) (by omega) _ | with_reducible exact Blk.set2 (a := .slice none 0 0) (b := .int .i64 0) (by with_reducible assumption) _ _ | with_reducible exact Blk.far2 (by with_reducible assumption) (by omega) _ _ | with_reducible exact SlB.setB (i := 1) (SlB.setB (i := 0) (k := w.heap.size + 1 + 1) (by with_reducible assumption) hBdn (by omega) _) (k := w.heap.size + 1 + 1) hBdn (by omega) _ | with_reducible exact SlB.rowB (by with_reducible assumption) hBdn (by omega) _), by (first | with_reducible assumption | with_reducible exact hb1 | with_reducible exact hb2 | with_reducible exact hSd | with_reducible exact Blk.row (t := 33) (old := dga dg0) (by with_reducible assumption) | with_reducible exact Blk.rowFar (by with_reducible assumption) (by omega) _ | with_reducible exact Blk.set2 (a := .slice none 0 0) (b := .int .i64 0) (by with_reducible assumption) _ _ | with_reducible exact Blk.far2 (by with_reducible assumption) (by omega) _ _ | with_reducible exact SlB.setB (i := 1) (SlB.setB (i := 0) (k := w.heap.size + 1 + 1) (by with_reducible assumption) hBdn (by omega) _) (k := w.heap.size + 1 + 1) hBdn (by omega) _ | with_reducible exact SlB.rowB (by with_reducible assumption) hBdn (by omega) _), trivial⟩
      (try clear f0 f1 f2 f3 f4 f5 f6 f7 f8 f9 f10 f11)
      obtain ⟨hHeld, f0, f1, f2, -⟩ := hT
      refine wpAnyH_ready (rs := [2]) (by kernel_rfl) (by simp) ?_
      refine AllReadyH.cons (o := ⟨none, _, _, _, _, _⟩) rfl (fun K hK => ?_) AllReadyH.nil
      (first | (refine step_loadG (by kernel_rfl) 33 _ rfl ⟨w.heap.size + 3, 0, none⟩ (dga d) rfl hHeld.b0.cells _ Try.underlying33 rfl (by rw [(hds d).out]; kernel_rfl) ?_) | (refine step_storeRow (by kernel_rfl) 33 _ _ rfl (w.heap.size + 1) (dga d) rfl rfl 33 (dga dg0) (by with_reducible assumption) (by rw [(hds d).out]; kernel_rfl) (by rw [(hds d).out, (hds dg0).out]) (hda d).out ?_) | (have hq : Blk _ (w.heap.size + 1 + 1) 75 #[.slice none 0 0, .int .i64 0] := (by with_reducible assumption); obtain ⟨s0, s1, sf0, sf1⟩ := Blk.two hq; go_simp) | go_simp)
      refine hK.out _ _ ?_ (fun _ => ?_)
      · ((try dsimp only); (first | with_reducible exact hMd | with_reducible exact hHeld | with_reducible exact hHeld.off (Wr.row _) (by simp) (by omega) | with_reducible exact hHeld.off (((Wr.refl _ _).set_ 0 _).set_ 1 _) (by simp <;> omega) (by omega)))
      clear hK K
      (try simp only [Act.put, List.setIfInBounds_toArray, List.set_cons_zero, List.set_cons_succ])
      refine gen0 (T := fun W => ((fun W => Mm w W [(w.heap.size + 3, 33, dga d), (w.heap.size, 75, #[.slice An s8.1.length cn, .int .i64 (s8.2 : Nat)])] [])) W ∧ Blk W (w.heap.size + 1) 33 (dga d) ∧ Blk W (w.heap.size + 1 + 1) 75 #[.slice none 0 0, .int .i64 0] ∧ SlB W An cn s8.1 ∧ True) ?_ (fun wq3 hT => ?_)
      · exact ⟨by (first | with_reducible exact hMd | with_reducible exact hHeld | with_reducible exact hHeld.off (Wr.row _) (by simp) (by omega) | with_reducible exact hHeld.off (((Wr.refl _ _).set_ 0 _).set_ 1 _) (by simp <;> omega) (by omega)), by (first | with_reducible assumption | with_reducible exact hb1 | with_reducible exact hb2 | with_reducible exact hSd | with_reducible exact Blk.row (t := 33) (old := dga dg0) (by with_reducible assumption) | with_reducible exact Blk.rowFar (by with_reducible assumption) (by omega) _ | with_reducible exact Blk.set2 (a := .slice none 0 0) (b := .int .i64 0) (by with_reducible assumption) _ _ | with_reducible exact Blk.far2 (by with_reducible assumption) (by omega) _ _ | with_reducible exact SlB.setB (i := 1) (SlB.setB (i := 0) (k := w.heap.size + 1 + 1) (by with_reducible assumption) hBdn (by omega) _) (k := w.heap.size + 1 + 1) hBdn (by omega) _ | with_reducible exact SlB.rowB (by with_reducible assumption) hBdn (by omega) _), by (first | with_reducible assumption | with_reducible exact hb1 | with_reducible exact hb2 | with_reducible exact hSd | with_reducible exact Blk.row (t := 33) (old := dga dg0) (by with_reducible assumption) | with_reducible exact Blk.rowFar (by with_reducible assumption) (by omega) _ | with_reducible exact Blk.set2 (a := .slice none 0 0) (b := .int .i64 0) (by with_reducible assumption) _ _ | with_reducible exact Blk.far2 (by with_reducible assumption) (by omega) _ _ | with_reducible exact SlB.setB (i := 1) (SlB.setB (i := 0) (k := w.heap.size + 1 + 1) (by with_reducible assumption) hBdn (by omega) _) (k := w.heap.size + 1 + 1) hBdn (by omega) _ | with_reducible exact SlB.rowB (by with_reducible assumption) hBdn (by omega) _), by (first | with_reducible assumption | with_reducible exact hb1 | with_reducible exact hb2 | with_reducible exact hSd | with_reducible exact Blk.row (t := 33) (old := dga dg0) (by with_reducible assumption) | with_reducible exact Blk.rowFar (by with_reducible assumption) (by omega) _ | with_reducible exact Blk.set2 (a := .slice none 0 0) (b := .int .i64 0) (by with_reducible assumption) _ _ | with_reducible exact Blk.far2 (by with_reducible assumption) (by omega) _ _ | with_reducible exact SlB.setB (i := 1) (SlB.setB (i := 0) (k := w.heap.size + 1 + 1) (by with_reducible assumption) hBdn (by omega) _) (k := w.heap.size + 1 + 1) hBdn (by omega) _ | with_reducible exact SlB.rowB (by with_reducible assumption) hBdn (by omega) _), trivial⟩
      (try clear f0 f1 f2 f3 f4 f5 f6 f7 f8 f9 f10 f11)
      obtain ⟨hHeld, f0, f1, f2, -⟩ := hT
      refine wpAnyH_ready (rs := [3]) (by kernel_rfl) (by simp) ?_
      refine AllReadyH.cons (o := ⟨none, _, _, _, _, _⟩) rfl (fun K hK => ?_) AllReadyH.nil
      (first | (refine step_loadG (by kernel_rfl) 33 _ rfl ⟨w.heap.size + 3, 0, none⟩ (dga d) rfl hHeld.b0.cells _ Try.underlying33 rfl (by rw [(hds d).out]; kernel_rfl) ?_) | (refine step_storeRow (by kernel_rfl) 33 _ _ rfl (w.heap.size + 1) (dga d) rfl rfl 33 (dga dg0) (by with_reducible assumption) (by rw [(hds d).out]; kernel_rfl) (by rw [(hds d).out, (hds dg0).out]) (hda d).out ?_) | (have hq : Blk _ (w.heap.size + 1 + 1) 75 #[.slice none 0 0, .int .i64 0] := (by with_reducible assumption); obtain ⟨s0, s1, sf0, sf1⟩ := Blk.two hq; go_simp) | go_simp)
      refine hK.out _ _ ?_ (fun _ => ?_)
      · ((try dsimp only); (first | with_reducible exact hMd | with_reducible exact hHeld | with_reducible exact hHeld.off (Wr.row _) (by simp) (by omega) | with_reducible exact hHeld.off (((Wr.refl _ _).set_ 0 _).set_ 1 _) (by simp <;> omega) (by omega)))
      clear hK K
      (try simp only [Act.put, List.setIfInBounds_toArray, List.set_cons_zero, List.set_cons_succ])
      refine gen0 (T := fun W => ((fun W => Mm w W [(w.heap.size + 3, 33, dga d), (w.heap.size, 75, #[.slice An s8.1.length cn, .int .i64 (s8.2 : Nat)])] [])) W ∧ Blk W (w.heap.size + 1) 33 (dga d) ∧ Blk W (w.heap.size + 1 + 1) 75 #[.slice An s8.1.length cn, .int .i64 (s8.2 : Nat)] ∧ SlB W An cn s8.1 ∧ True) ?_ (fun wq4 hT => ?_)
      · exact ⟨by (first | with_reducible exact hMd | with_reducible exact hHeld | with_reducible exact hHeld.off (Wr.row _) (by simp) (by omega) | with_reducible exact hHeld.off (((Wr.refl _ _).set_ 0 _).set_ 1 _) (by simp <;> omega) (by omega)), by (first | with_reducible assumption | with_reducible exact hb1 | with_reducible exact hb2 | with_reducible exact hSd | with_reducible exact Blk.row (t := 33) (old := dga dg0) (by with_reducible assumption) | with_reducible exact Blk.rowFar (by with_reducible assumption) (by omega) _ | with_reducible exact Blk.set2 (a := .slice none 0 0) (b := .int .i64 0) (by with_reducible assumption) _ _ | with_reducible exact Blk.far2 (by with_reducible assumption) (by omega) _ _ | with_reducible exact SlB.setB (i := 1) (SlB.setB (i := 0) (k := w.heap.size + 1 + 1) (by with_reducible assumption) hBdn (by omega) _) (k := w.heap.size + 1 + 1) hBdn (by omega) _ | with_reducible exact SlB.rowB (by with_reducible assumption) hBdn (by omega) _), by (first | with_reducible assumption | with_reducible exact hb1 | with_reducible exact hb2 | with_reducible exact hSd | with_reducible exact Blk.row (t := 33) (old := dga dg0) (by with_reducible assumption) | with_reducible exact Blk.rowFar (by with_reducible assumption) (by omega) _ | with_reducible exact Blk.set2 (a := .slice none 0 0) (b := .int .i64 0) (by with_reducible assumption) _ _ | with_reducible exact Blk.far2 (by with_reducible assumption) (by omega) _ _ | with_reducible exact SlB.setB (i := 1) (SlB.setB (i := 0) (k := w.heap.size + 1 + 1) (by with_reducible assumption) hBdn (by omega) _) (k := w.heap.size + 1 + 1) hBdn (by omega) _ | with_reducible exact SlB.rowB (by with_reducible assumption) hBdn (by omega) _), by (first | with_reducible assumption | with_reducible exact hb1 | with_reducible exact hb2 | with_reducible exact hSd | with_reducible exact Blk.row (t := 33) (old := dga dg0) (by with_reducible assumption) | with_reducible exact Blk.rowFar (by with_reducible assumption) (by omega) _ | with_reducible exact Blk.set2 (a := .slice none 0 0) (b := .int .i64 0) (by with_reducible assumption) _ _ | with_reducible exact Blk.far2 (by with_reducible assumption) (by omega) _ _ | with_reducible exact SlB.setB (i := 1) (SlB.setB (i := 0) (k := w.heap.size + 1 + 1) (by with_reducible assumption) hBdn (by omega) _) (k := w.heap.size + 1 + 1) hBdn (by omega) _ | with_reducible exact SlB.rowB (by with_reducible assumption) hBdn (by omega) _), trivial⟩
      (try clear f0 f1 f2 f3 f4 f5 f6 f7 f8 f9 f10 f11)
      obtain ⟨hHeld, f0, f1, f2, -⟩ := hT
      refine wpAnyH_done (by kernel_rfl) ?_ _
      go_wp2_with fail
      exact bodyPost_ret (res_dr2 rfl rfl rfl (g := w.heap.size + 1) (k := w.heap.size + 1 + 1) (by with_reducible assumption) (by with_reducible assumption)) rfl ⟨rv An s8.1.length cn s8.2, by rw [HRD.out], by rw [HRD.out]; exact ⟨An, cn, rfl, (by with_reducible assumption), hBdn⟩, hHeld.bel⟩
end Go.Proofs.Ytgfigkenpmmdeaa

namespace Go.Proofs.Ytgfigkenpmmdeaa
open Go.RowKit
attribute [local go_sem ↓] Go.wp_at_zero Go.wp_at_succ

theorem list_beq' (l m : List UInt8) : (l == m) = decide (l = m) := by
  by_cases h : l = m
  · subst h; simp
  · simp [h]
/-- what the document's Take answers -/
def RTakesF (w0 : World) (A0 : Option Addr) (o : List UInt8 × Nat × Nat) (e : Ending) (w' : World) : Prop :=
  ∃ A c m, e = .returned (.tuple #[.slice A (List.length m) c, .int .i64 (o.2.1 : Nat), .int .i64 (o.2.2 : Nat)]) ∧ Hid (m = o.1) ∧ SlB w' A c m ∧ Below w0.heap.size w0 w' ∧ (m ≠ [] → A.map (·.block) = A0.map (·.block))
theorem Sl.lt0 {w : World} {size n c : Nat} {A : Option Addr} {xs : List Value} (h : Sl w size A n c xs) (hne : xs ≠ []) : ∀ g, A.map (·.block) = some g → g < w.heap.size := by
  intro g hg
  rcases Nat.lt_or_ge g w.heap.size with h1 | h1
  · exact h1
  · exact absurd hg (Sl.old h h1 hne)

theorem shift_block (A : Option Addr) (k : Nat) : (Option.map (fun x => x.add k) A).map (·.block) = A.map (·.block) := by cases A <;> simp [addr_add_block]
set_option maxRecDepth 100000 in
set_option maxHeartbeats 2000000 in
theorem rFTake_any (A : Option Addr) (c : Nat) (l : List UInt8) (w : World) (hs : SlB w A c l) (hl : l.length ≤ 10000000) :
    Calls Try.prog 28 #[.slice A l.length c] w (RTakesF w A (ftake l)) := by
  have hc1 := hs.2.1
  go_enter Try.func28, Try.ntmps28
  go_wp2_with fail
  refine (rTake_any A c l _ hs).mono ?_
  rintro e w1 ⟨hb1, ⟨ht, rfl⟩ | ⟨n, k, ht, rfl⟩⟩
  · have hf := Lib.hid (ftake_none ht)
    clear ht
    go_wp2_with fail
    go_ret3
    exact ⟨none, 0, [], by rw [hf.out]; rfl, by rw [hf.out]; rfl, Sl.none_ _ _, hb1, fun h => absurd rfl h⟩
  · obtain ⟨hu, hkl, _⟩ := take_some ht
    by_cases hn : 65536 < n
    · have hf := Lib.hid (ftake_long ht hn)
      have hni : (65536 : Int) < (n : Int) := by omega
      clear ht
      go_wp2_with fail
      go_ret3
      exact ⟨none, 0, [], by rw [hf.out]; rfl, by rw [hf.out]; rfl, Sl.none_ _ _, hb1, fun h => absurd rfl h⟩
    · have hni : ¬ (65536 : Int) < (n : Int) := by omega
      have hw64 : wrap64 (n : Int) = (n : Int) := by simp only [wrap64]; omega
      obtain ⟨q, hq⟩ : ∃ q, q = k + n := ⟨_, rfl⟩
      have hqi : (k : Int) + (n : Int) = (q : Int) := by omega
      by_cases hsh : l.length < k + n + 4
      · have hf := Lib.hid (ftake_short ht hn hsh)
        have hqs : (l.length : Int) < (q : Int) + 4 := by omega
        clear ht hq
        go_wp2_with fail
        go_ret3
        exact ⟨none, 0, [], by rw [hf.out]; rfl, by rw [hf.out]; rfl, Sl.none_ _ _, hb1, fun h => absurd rfl h⟩
      · have hqs : ¬ (l.length : Int) < (q : Int) + 4 := by omega
        have hkq : k ≤ q := by omega
        have hql : q + 4 ≤ l.length := by omega
        have hf : ftake l = if four (sumW (l.take q)) = (l.drop q).take 4 then ((l.take q).drop k, q + 4, 0) else ([], 0, 11) := by
          unfold ftake; rw [ht]; dsimp only; rw [if_neg hn, if_neg hsh, hq]
        have HF := Lib.hid hf
        clear ht hq hsh hf
        have hs1 := hs.below hb1
        have hqc : ¬ (c = q) := by omega
        have hkc : ¬ (c = k) := by omega
        have hq1 : q ≤ c := by omega
        have hq2 : q + 4 ≤ c := by omega
        have hT := Sl.takeB hs1 q
        have hD := Sl.take (Sl.cutB hs1 (k := q) (by omega)) (k := 4) (by omega)
        rw [if_neg hqc, show (bvs (l.drop q)).take 4 = bvs ((l.drop q).take 4) from by simp [bvs, List.map_take, List.map_drop]] at hD
        have hl2 : ((l.drop q).take 4).length = 4 := by simp; omega
        have htl : (l.take q).length = q := by simp; omega
        have hX := Sl.cutB hT (k := k) (by omega)
        have hX0 := Sl.cutB (Sl.takeB hs q) (k := k) (by omega)
        rw [if_neg hkc, htl, show q - k = ((l.take q).drop k).length from by rw [List.length_drop, htl]] at hX hX0
        have hxl := Lib.hid (show ((l.take q).drop k).length = q - k from by rw [List.length_drop, htl])
        generalize (l.take q).drop k = xt at *
        generalize hg2 : (l.drop q).take 4 = l2 at *
        generalize hg1 : l.take q = l1 at *
        clear hg1 hg2 hs1
        rw [← hl2] at hD
        subst htl
        have H4 := Lib.hid hl2
        obtain ⟨p4, hp4⟩ : ∃ p4, p4 = l1.length + 4 := ⟨_, rfl⟩
        have hwq : IntKind.i64.wrap ((l1.length : Int) + 4) = (p4 : Int) := by rw [IntKind.wrap_i64]; omega
        have hpc : p4 ≤ c := by omega
        have hlp : l1.length ≤ p4 := by omega
        have hps : p4 - l1.length = 4 := by omega
        have HP4 := Lib.hid hp4
        clear hp4
        clear hl2
        go_wp2_with fail
        go_cut [41] (fun s41 wx => s41 = .bool (!decide (four (sumW l1) = l2)) ∧ Below w1.heap.size w1 wx)
        case first =>
          have hT' : SlB w1.drew A c l1 := hT
          refine wp_region_held_drew (S := (fun W => SlB W (Option.map (fun x => x.add l1.length) A) (c - l1.length) l2)) (by kernel_rfl) ?_ (fun hHeld => ?_)
          · first | exact hD | exact hD2
          refine wpAnyH_take (i := 0) (oi := ⟨some 29, _, _, _, _, _⟩) (v := ?_) rfl (by kernel_rfl) (by kernel_rfl) (by kernel_rfl) (fun _ _ _ h => h) (Or.inl ⟨by kernel_rfl, ?_⟩) (by assumption) ?_
          rotate_left
          · (intro wS hSw; (try dsimp only at hSw); have hcv := conv_str (P := Try.prog) 22 9 5 Try.underlying22 Try.underlying5 Try.underlying9 (n := 4) hSw H4.out.symm; go_simp; (try with_reducible rfl))
          (try simp only [Act.put, List.setIfInBounds_toArray, List.set_cons_zero, List.set_cons_succ])
          refine wpAnyH_take (i := 1) (oi := ⟨some 30, _, _, _, _, _⟩) (v := ?_) rfl (by kernel_rfl) (by kernel_rfl) (by kernel_rfl) (fun _ _ _ h => h) (Or.inl ⟨by kernel_rfl, ?_⟩) (by assumption) ?_
          rotate_left
          · (intro wS hSw; (try dsimp only at hSw); have hcv := conv_str (P := Try.prog) 22 9 5 Try.underlying22 Try.underlying5 Try.underlying9 (n := 4) hSw H4.out.symm; go_simp; (try with_reducible rfl))
          (try simp only [Act.put, List.setIfInBounds_toArray, List.set_cons_zero, List.set_cons_succ])
          refine wpAnyH_take (i := 2) (oi := ⟨some 31, _, _, _, _, _⟩) (v := ?_) rfl (by kernel_rfl) (by kernel_rfl) (by kernel_rfl) (fun _ _ _ h => h) (Or.inl ⟨by kernel_rfl, ?_⟩) (by assumption) ?_
          rotate_left
          · (intro wS hSw; (try dsimp only at hSw); have hcv := conv_str (P := Try.prog) 22 9 5 Try.underlying22 Try.underlying5 Try.underlying9 (n := 4) hSw H4.out.symm; go_simp; (try with_reducible rfl))
          (try simp only [Act.put, List.setIfInBounds_toArray, List.set_cons_zero, List.set_cons_succ])
          refine wpAnyH_take (i := 6) (oi := ⟨some 35, _, _, _, _, _⟩) (v := ?_) rfl (by kernel_rfl) (by kernel_rfl) (by kernel_rfl) (fun _ _ _ h => h) (Or.inl ⟨by kernel_rfl, ?_⟩) (by assumption) ?_
          rotate_left
          · (intro wS hSw; (try dsimp only at hSw); have hcv := conv_str (P := Try.prog) 22 9 5 Try.underlying22 Try.underlying5 Try.underlying9 (n := 4) hSw H4.out.symm; go_simp; (try with_reducible rfl))
          (try simp only [Act.put, List.setIfInBounds_toArray, List.set_cons_zero, List.set_cons_succ])
          refine wpAnyH_take (i := 7) (oi := ⟨some 36, _, _, _, _, _⟩) (v := ?_) rfl (by kernel_rfl) (by kernel_rfl) (by kernel_rfl) (fun _ _ _ h => h) (Or.inl ⟨by kernel_rfl, ?_⟩) (by assumption) ?_
          rotate_left
          · (intro wS hSw; (try dsimp only at hSw); have hcv := conv_str (P := Try.prog) 22 9 5 Try.underlying22 Try.underlying5 Try.underlying9 (n := 4) hSw H4.out.symm; go_simp; (try with_reducible rfl))
          (try simp only [Act.put, List.setIfInBounds_toArray, List.set_cons_zero, List.set_cons_succ])
          refine wpAnyH_take (i := 8) (oi := ⟨some 37, _, _, _, _, _⟩) (v := ?_) rfl (by kernel_rfl) (by kernel_rfl) (by kernel_rfl) (fun _ _ _ h => h) (Or.inl ⟨by kernel_rfl, ?_⟩) (by assumption) ?_
          rotate_left
          · (intro wS hSw; (try dsimp only at hSw); have hcv := conv_str (P := Try.prog) 22 9 5 Try.underlying22 Try.underlying5 Try.underlying9 (n := 4) hSw H4.out.symm; go_simp; (try with_reducible rfl))
          (try simp only [Act.put, List.setIfInBounds_toArray, List.set_cons_zero, List.set_cons_succ])
          refine wpAnyH_take (i := 9) (oi := ⟨some 38, _, _, _, _, _⟩) (v := ?_) rfl (by kernel_rfl) (by kernel_rfl) (by kernel_rfl) (fun _ _ _ h => h) (Or.inl ⟨by kernel_rfl, ?_⟩) (by assumption) ?_
          rotate_left
          · (intro wS hSw; (try dsimp only at hSw); have hcv := conv_str (P := Try.prog) 22 9 5 Try.underlying22 Try.underlying5 Try.underlying9 (n := 4) hSw H4.out.symm; go_simp; (try with_reducible rfl))
          (try simp only [Act.put, List.setIfInBounds_toArray, List.set_cons_zero, List.set_cons_succ])
          refine wpAnyH_take (i := 10) (oi := ⟨some 39, _, _, _, _, _⟩) (v := ?_) rfl (by kernel_rfl) (by kernel_rfl) (by kernel_rfl) (fun _ _ _ h => h) (Or.inl ⟨by kernel_rfl, ?_⟩) (by assumption) ?_
          rotate_left
          · (intro wS hSw; (try dsimp only at hSw); have hcv := conv_str (P := Try.prog) 22 9 5 Try.underlying22 Try.underlying5 Try.underlying9 (n := 4) hSw H4.out.symm; go_simp; (try with_reducible rfl))
          (try simp only [Act.put, List.setIfInBounds_toArray, List.set_cons_zero, List.set_cons_succ])
          refine wpAnyH_take (i := 11) (oi := ⟨some 40, _, _, _, _, _⟩) (v := ?_) rfl (by kernel_rfl) (by kernel_rfl) (by kernel_rfl) (fun _ _ _ h => h) (Or.inl ⟨by kernel_rfl, ?_⟩) (by assumption) ?_
          rotate_left
          · (intro wS hSw; (try dsimp only at hSw); have hcv := conv_str (P := Try.prog) 22 9 5 Try.underlying22 Try.underlying5 Try.underlying9 (n := 4) hSw H4.out.symm; go_simp; (try with_reducible rfl))
          (try simp only [Act.put, List.setIfInBounds_toArray, List.set_cons_zero, List.set_cons_succ])
          refine wpAnyH_ready (rs := [3]) (by kernel_rfl) (by simp) ?_
          refine AllReadyH.cons (o := ⟨some 32, _, _, _, _, _⟩) rfl (fun K hK => ?_) AllReadyH.nil
          go_simp
          (refine (rSum_any A c l1 _ hT' (by omega)).mono ?_; rintro e w13 ⟨rfl, rfl⟩)
          go_wp2_with fail
          refine hK.out _ _ ?_ (fun hHeld => ?_)
          · ((try dsimp only); (first | exact hD | exact hD2))
          clear hK K
          (try simp only [Act.put, List.setIfInBounds_toArray, List.set_cons_zero, List.set_cons_succ])
          refine wpAnyH_ready (rs := [4]) (by kernel_rfl) (by simp) ?_
          refine AllReadyH.cons (o := ⟨some 33, _, _, _, _, _⟩) rfl (fun K hK => ?_) AllReadyH.nil
          go_simp
          (refine (rFour_any (sumW l1) _).mono ?_; rintro e w14 ⟨A14, c14, m14, rfl, hm14, hs14, hb14⟩; have hD2 := Sl.below hD (below_of_drew hb14); have hcv := conv_str (P := Try.prog) 22 9 5 Try.underlying22 Try.underlying5 Try.underlying9 hs14 rfl)
          go_wp2_with fail
          refine hK.out _ _ ?_ (fun hHeld => ?_)
          · ((try dsimp only); (first | exact hD | exact hD2))
          clear hK K
          (try simp only [Act.put, List.setIfInBounds_toArray, List.set_cons_zero, List.set_cons_succ])
          refine wpAnyH_ready (rs := [5]) (by kernel_rfl) (by simp) ?_
          refine AllReadyH.cons (o := ⟨some 34, _, _, _, _, _⟩) rfl (fun K hK => ?_) AllReadyH.nil
          go_simp
          refine hK.out _ _ ?_ (fun hHeld => ?_)
          · ((try dsimp only); (first | exact hD | exact hD2))
          clear hK K
          (try simp only [Act.put, List.setIfInBounds_toArray, List.set_cons_zero, List.set_cons_succ])
          refine wpAnyH_take (i := 12) (oi := ⟨some 41, _, _, _, _, _⟩) (v := ?_) rfl (by kernel_rfl) (by kernel_rfl) (by kernel_rfl) (fun _ _ _ h => h) (Or.inl ⟨by kernel_rfl, ?_⟩) (by assumption) ?_
          rotate_left
          · (intro wS hSw; (try dsimp only at hSw); have hcv := conv_str (P := Try.prog) 22 9 5 Try.underlying22 Try.underlying5 Try.underlying9 (n := 4) hSw H4.out.symm; go_simp; (try with_reducible rfl))
          (try simp only [Act.put, List.setIfInBounds_toArray, List.set_cons_zero, List.set_cons_succ])
          refine wpAnyH_done (by kernel_rfl) ?_ _
          go_wp2_with fail
          go_meet
          refine ⟨?_, below_of_drew hb14⟩
          rw [← hm14.out]
          exact congrArg Value.bool (congrArg not (list_beq' m14 l2))
        case rest =>
          obtain ⟨rfl, hbc⟩ := hcut
          have hw := bel_call hb1 hbc
          have hXc := hX.below hbc
          have hlt : xt ≠ [] → (Option.map (fun x => x.add k) A).map (·.block) = A.map (·.block) := fun _ => shift_block A k
          clear hT hD hX hX0 hbc
          by_cases he : four (sumW l1) = l2
          · have hd : decide (four (sumW l1) = l2) = true := decide_eq_true he
            have hov := Lib.hid (show ftake l = (xt, p4, 0) from by rw [HF.out, if_pos he, HP4.out])
            rw [hd]
            clear HF he hd
            go_wp2_with fail
            go_ret3
            refine ⟨_, c - k, xt, ?_, by rw [hov.out]; rfl, hXc, hw, hlt⟩
            rw [hov.out, hxl.out]
            rfl
          · have hd : decide (four (sumW l1) = l2) = false := decide_eq_false he
            have hov := Lib.hid (show ftake l = ([], 0, 11) from by rw [HF.out, if_neg he])
            rw [hd]
            clear HF he hd
            go_wp2_with fail
            go_ret3
            exact ⟨none, 0, [], by rw [hov.out]; rfl, by rw [hov.out]; rfl, Sl.none_ _ _, hw, fun h => absurd rfl h⟩
/-- what the document's Prefix answers -/
def RPreB (w0 : World) (A0 : Option Addr) (o : List (List UInt8) × Nat) (bad : Nat) (e : Ending) (w' : World) : Prop :=
  ∃ A c ps, e = .returned (.tuple #[.slice A (List.length ps) c, .int .i64 (o.2 : Nat), .int .i64 (bad : Nat)]) ∧ Hid (ptx ps = o.1) ∧ SlT w' A c ps ∧ (∀ x ∈ ps, SlB w' x.1 x.2.1 x.2.2 ∧ (x.2.2 ≠ [] → x.1.map (·.block) = A0.map (·.block))) ∧ From w0.heap.size (A.map (·.block)) ∧ Below w0.heap.size w0 w'
/-- the number of what follows the frames: 0: nothing does -/
def fbad (l : List UInt8) : Nat := if (fpre l).2 = l.length then 0 else (ftake (l.drop (fpre l).2)).2.2

theorem fpre_nil : fpre [] = ([], 0) := fpre_bad (by rw [ftake_none (by rfl)]; simp)
theorem fpre_end (n : Nat) : ∀ l : List UInt8, l.length ≤ n → (fpre l).2 ≤ l.length ∧ (ftake (l.drop (fpre l).2)).2.2 ≠ 0 := by
  induction n with
  | zero =>
    intro l hl
    have : l = [] := List.eq_nil_of_length_eq_zero (by omega)
    subst this
    rw [fpre_nil, List.drop_nil, ftake_none (by rfl)]
    simp
  | succ n ih =>
    intro l hl
    by_cases h : (ftake l).2.2 = 0
    · obtain ⟨h1, h2⟩ := ftake_ok h
      rw [fpre_ok h]
      obtain ⟨i1, i2⟩ := ih (l.drop (ftake l).2.1) (by simp; omega)
      rw [List.drop_drop] at i2
      simp only [List.length_drop] at i1
      exact ⟨by dsimp only; omega, i2⟩
    · rw [fpre_bad h]
      exact ⟨by simp, by simpa using h⟩
end Go.Proofs.Ytgfigkenpmmdeaa
