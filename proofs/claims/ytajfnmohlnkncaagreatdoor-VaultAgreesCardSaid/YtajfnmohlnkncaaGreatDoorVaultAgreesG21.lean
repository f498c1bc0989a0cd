/- WHAT IT HOLDS: taking a data cell of a run, walked. | WHAT IT HOLDS: cell.TakeRun, walked. | WHAT IT HOLDS: the ways through a round of taking a run, plainly. | WHAT IT HOLDS: the document's TakeRun, walked. | WHAT IT HOLDS: what it says that cells are not too long, plainly. | WHAT IT HOLDS: taking segments, the program's and the document's, walked; the law SegmentTakes, walked. | WHAT IT HOLDS: the document's taking of segments, walked. -/
import Derived.Test.YtajfnmohlnkncaaGreatDoorVaultAgreesG01
import Derived.Test.YtajfnmohlnkncaaGreatDoorVaultAgreesG20
import Derived.Test.YtajfnmohlnkncaaGreatDoorVaultAgreesG04
import Derived.Test.YtajfnmohlnkncaaGreatDoorVaultAgreesG05
import Derived.Test.YtajfnmohlnkncaaGreatDoorVaultAgreesG08
import Derived.Test.YtajfnmohlnkncaaGreatDoorVaultAgreesG18
import Derived.Test.YtajfnmohlnkncaaGreatDoorVaultAgreesG06
namespace Go.Proofs.YtajfnmohlnkncaaGreatDoor
section
open Go.RowKit
attribute [local go_sem ↓] Go.wp_at_zero Go.wp_at_succ
theorem wpl_cellG {w : World} {ops : Array Oper} {rest : List Oper} {o : Oper} {a : Act} {Q : Exit → Act → World → Prop} (hgd : o.guard = none) (s x : Operand)
 (ho : o.op = .call { callee := .builtin .append, args := #[s, x], argTypes := #[32, 32] })
 (base : Nat) (A : Option Addr) (c : Nat) (l : List CeV) (y : CeV) (hs : a.eval s = .slice A l.length c) (hown : Own w base 54 2 A l.length c (l.flatMap cf))
 (hx : a.eval x = .slice (some ⟨w.heap.size, 0, none⟩) 1 1) (hlen : l.length ≤ 1000000000) (hbase : base ≤ w.heap.size)
 (h : ∀ A' c' (m : List CeV) w', Hid (m = l ++ [y]) → Own w' base 54 2 A' m.length c' (m.flatMap cf) → (w.alloc (.cells #[.int .i64 y.1, .slice y.2.1 y.2.2.2.length y.2.2.1] 54)).grownBy w' (A.map (·.block)) → Below base w w' → wpList Tryz.prog ops Q rest (a.put o.dst (.slice A' m.length c')) w') :
 wpList Tryz.prog ops Q (o :: rest) a (w.alloc (.cells #[.int .i64 y.1, .slice y.2.1 y.2.2.2.length y.2.2.1] 54)) := by
 obtain ⟨i0, hi, hz0, hz1, hz2⟩ := info_parts cell_info
 have hbl : Below base w (w.alloc (.cells #[.int .i64 y.1, .slice y.2.1 y.2.2.2.length y.2.2.1] 54)) := (Below.refl _ _).alloc hbase _
 refine wpl_append hgd s x 32 ho base 54 i0 _ 2 32 Tryz.underlying32 hi hz0 hz1 hz2 rfl (by decide) A l.length c (l.flatMap cf) hs (World.ownsRow.alloc hown _) (some ⟨w.heap.size, 0, none⟩) 1 1 (cf y) hx (Sl.litsS w 2 1 (cf y) 54 rfl (by simp [maxLen]))
  (fun u hu => by simp [cf] at hu; rcases hu with rfl | rfl <;> rfl) (by omega) (by simp only [maxLen]; omega) (by simp; omega) ?_
 intro A' c' w' hap
 have hl : l.length + 1 = (l ++ [y]).length := by simp
 rw [hl]
 refine h A' c' (l ++ [y]) w' rfl ?_ hap.grown (hbl.trans (hap.below (World.ownsRow.alloc hown _) (by simp; omega)))
 have := hap.own
 simpa using this
theorem data_fin {w0 W W' : World} {g gt B : Nat} {t : Tk} {A A' A5 : Option Addr} {c c' c5 : Nat} {E : Option Addr} {d : Nat} {m m' : List CeV} {x : List UInt8} (h : TkM w0 g gt B t A c E d m W) (hx : OwnB W w0.heap.size 5 A5 c5 x)
 (hm : Hid (m' = m ++ [((1, A5, c5, x) : CeV)])) (ho : Own W' w0.heap.size 54 2 A' m'.length c' (m'.flatMap cf))
 (hg : (W.alloc (.cells #[.int .i64 1, .slice A5 x.length c5] 54)).grownBy W' (A.map (·.block))) (hb : Below w0.heap.size W W') (h1 : 1 ≤ t.left) :
 TkS w0 g gt B ⟨t.s, t.out ++ [(1, x)], t.left - 1, x, 1⟩ ((((W'.setCell ⟨gt, 1, none⟩ (.slice A' m'.length c')).setCell ⟨gt, 2, none⟩ (.int .i64 ((t.left : Int) - 1))).setCell ⟨gt, 3, none⟩ (.slice A5 x.length c5)).setCell ⟨gt, 4, none⟩ (.int .i64 1)) := by
 have hrow : Own (W.alloc (.cells #[.int .i64 1, .slice A5 x.length c5] 54)) w0.heap.size 54 2 A m.length c (m.flatMap cf) := World.ownsRow.alloc h.new.1 _
 have hB := (h.blk.alloc (.cells #[.int .i64 1, .slice A5 x.length c5] 54)).grown hrow (by decide) hg
 have hN : NewS W' w0.heap.size A' c' m' := ⟨ho, fun y hy => by
  rw [hm.out] at hy
  rcases List.mem_append.1 hy with hy | hy
  · exact Own.other (World.ownsRow.alloc (h.new.2 y hy) _) hrow hg (by decide)
  · rw [List.mem_singleton.1 hy]; exact Own.other (World.ownsRow.alloc hx _) hrow hg (by decide)⟩
 have hl : OwnB W' w0.heap.size 5 A5 c5 x := Own.other (World.ownsRow.alloc hx _) hrow hg (by decide)
 have hg0 := h.gt0
 have b1 := hB.set_ 1 (.slice A' m'.length c')
 have b2 := b1.set_ 2 (.int .i64 ((t.left : Int) - 1))
 have b3 := b2.set_ 3 (.slice A5 x.length c5)
 refine h.fin ((((hb.setCell hg0 _).setCell hg0 _).setCell hg0 _).setCell hg0 _) ((((hN.setT hB 1 _).setT b1 2 _).setT b2 3 _).setT b3 4 _) (OwnB.setT (OwnB.setT (OwnB.setT (OwnB.setT hl hB 1 _) b1 2 _) b2 3 _) b3 4 _) ?_ rfl ?_
 · rw [hm.out, List.map_append, h.out.out]; rfl
 · have := b3.set_ 4 (.int .i64 1)
   dsimp only
   rw [show ((t.left - 1 : Nat) : Int) = (t.left : Int) - 1 from by omega]
   simpa using this
theorem tkData_cases (t : Tk) {n k : Nat} {s1 s2 s3 s4 : Rs} (h1 : rNum t.s = (n, s1)) (h2 : (if 64 < n then rFail 3 s1 else s1) = s2) (h3 : rNum s2 = (k, s3)) (h4 : (if min n t.last.length < k then rFail 2 s3 else s3) = s4) :
 (s4.2 ≠ 0 → tkData t = { t with s := s4 }) ∧ (s4.2 = 0 → ∀ (f : List UInt8) (s5 : Rs), rFixed ((n - k : Nat) : Int) s4 = (f, s5) → ∀ (x : List UInt8), x = t.last.take k ++ f → ∀ (s6 : Rs), (if s5.2 = 0 ∧ cpl t.last x ≠ k then rFail 2 s5 else s5) = s6 → tkData t = ⟨s6, t.out ++ [(1, x)], t.left - 1, x, 1⟩) := by
 unfold tkData
 rw [h1]
 dsimp only
 rw [h2, h3]
 dsimp only
 rw [h4]
 refine ⟨fun h => by rw [if_pos h], fun h f s5 hf x hx s6 hs => ?_⟩
 rw [if_neg (by simpa using h), hf, ← hx, hs]
theorem rFixed_one (n : Int) (s : Rs) : (rFixed n s).1.length ≤ s.1.length := by
 unfold rFixed
 split
 · simp
 · split
   · simp
   · simp; omega
set_option maxRecDepth 100000 in
set_option maxHeartbeats 4000000 in
theorem tkData_any {w0 W : World} {g gt B : Nat} {t : Tk} (h : TkS w0 g gt B t W) (hO : TkOk t) (hl1 : 1 ≤ t.left) :
 Calls Tryz.prog 140 #[.pointer (some ⟨gt, 0, none⟩)] W fun e w' => e = .returned (.tuple #[]) ∧ TkS w0 g gt B (tkData t) w' := by
 obtain ⟨A, c, E, d, m, hM⟩ := h
 obtain ⟨hO1, hO2, hO3, hO4⟩ := hO
 obtain ⟨a0, -, -, -, -, -⟩ := hM.blk.fiveT
 go_enter Tryz.func140, Tryz.ntmps140
 go_wp2_with fail
 refine (Number_sT hM.rd).mono ?_
 rintro e w1 ⟨rfl, hR1, hr1⟩
 have hM1 := hM.read hR1 hr1
 have hnu := rNum_u64 t.s
 have hn1 := rNum_len t.s
 generalize h1 : rNum t.s = p at *
 obtain ⟨n, s1⟩ := p
 dsimp only at *
 clear hM hR1 hr1 a0
 obtain ⟨a0, -, -, -, -, -⟩ := hM1.blk.fiveT
 rcases Nat.lt_or_ge 64 n with h64 | h64
 · have hs2 : (if 64 < n then rFail 3 s1 else s1) = rFail 3 s1 := if_pos h64
   have hnI : (64 : Int) < (n : Int) := by omega
   go_wp2_with fail
   refine (Fail_sT 3 hM1.rd).mono ?_
   rintro e w2 ⟨rfl, hR2, hr2⟩
   have hM2 := hM1.read hR2 hr2
   have hbad : (rFail 3 s1).2 ≠ 0 := rFail_bad (by decide)
   clear hM1 hR2 hr2 a0
   obtain ⟨a0, -, -, a3, -, -⟩ := hM2.blk.fiveT
   go_wp2_with fail
   refine (Number_sT hM2.rd).mono ?_
   rintro e w3 ⟨rfl, hR3, hr3⟩
   have hM := hM2.read hR3 hr3
   dsimp only at hM
   have h3 := rNum_of hbad
   obtain ⟨c1, -⟩ := tkData_cases t h1 hs2 h3 (if_neg (Nat.not_lt_zero _))
   have HT := Lib.hid (c1 hbad)
   rw [h3] at hM ⊢
   clear hM2 hR3 hr3 a0 a3 h1 hs2 h3 c1
   obtain ⟨a0, -, -, a3, -, -⟩ := hM.blk.fiveT
   have hE := Err_s hM.rd
   dsimp only at hM hE
   obtain ⟨q, hq, hq2, hev⟩ : ∃ q : Int, 0 < q ∧ q = ((rFail 3 s1).2 : Int) ∧ errv (rFail 3 s1).2 = .iface 60 (.int .i64 q) := by
    rcases errv_cases (rFail 3 s1).2 with ⟨h0, _⟩ | h
    · exact absurd h0 hbad
    · exact h
   rw [hev] at hE
   have HE := Lib.hid hE
   clear hev hE hq2 hbad
   -- the reader has failed: what takes answers at once
   go_wp2_with fail
   refine HE.out.mono ?_
   rintro e w9 ⟨rfl, rfl⟩
   go_wp2_with fail
   refine bodyPost_ret (results_none rfl _ _ _) rfl ?_
   exact ⟨rfl, by rw [HT.out]; exact ⟨A, c, E, d, m, hM⟩⟩
 · have hs2 : (if 64 < n then rFail 3 s1 else s1) = s1 := if_neg (by omega)
   have hnI : (n : Int) ≤ 64 := by omega
   go_wp2_with fail
   refine (Number_sT hM1.rd).mono ?_
   rintro e w3 ⟨rfl, hR3, hr3⟩
   have hM := hM1.read hR3 hr3
   dsimp only at hM
   have hku := rNum_u64 s1
   have hk1 := rNum_len s1
   generalize h3 : rNum s1 = p at *
   obtain ⟨k, s3⟩ := p
   dsimp only at *
   clear hM1 hR3 hr3 a0
   obtain ⟨a0, -, -, a3, -, -⟩ := hM.blk.fiveT
   rcases Nat.lt_or_ge (min n t.last.length) k with hk | hk
   · have hkI : (min (n : Int) (t.last.length : Int)) < (k : Int) := by omega
     obtain ⟨c1, -⟩ := tkData_cases t h1 hs2 h3 (if_pos hk)
     have hbad : (rFail 2 s3).2 ≠ 0 := rFail_bad (by decide)
     have HT := Lib.hid (c1 hbad)
     clear hk c1 h1 hs2 h3
     go_wp2_with fail
     refine (Fail_sT 2 hM.rd).mono ?_
     rintro e w4 ⟨rfl, hR4, hr4⟩
     replace hM := hM.read hR4 hr4
     dsimp only at hM
     clear hR4 hr4 a0 a3
     obtain ⟨a0, -, -, a3, -, -⟩ := hM.blk.fiveT
     have hE := Err_s hM.rd
     dsimp only at hE
     obtain ⟨q, hq, hq2, hev⟩ : ∃ q : Int, 0 < q ∧ q = ((rFail 2 s3).2 : Int) ∧ errv (rFail 2 s3).2 = .iface 60 (.int .i64 q) := by
      rcases errv_cases (rFail 2 s3).2 with ⟨h0, _⟩ | h
      · exact absurd h0 hbad
      · exact h
     rw [hev] at hE
     have HE := Lib.hid hE
     clear hev hE hq2 hbad
     -- the reader has failed: what takes answers at once
     go_wp2_with fail
     refine HE.out.mono ?_
     rintro e w9 ⟨rfl, rfl⟩
     go_wp2_with fail
     refine bodyPost_ret (results_none rfl _ _ _) rfl ?_
     exact ⟨rfl, by rw [HT.out]; exact ⟨A, c, E, d, m, hM⟩⟩
   · have hkI : (k : Int) ≤ (min (n : Int) (t.last.length : Int)) := by omega
     have hkn : k ≤ n := by omega
     have hkl : k ≤ t.last.length := by omega
     obtain ⟨c1, c2⟩ := tkData_cases t h1 hs2 h3 (if_neg (by omega))
     have hE := Err_s hM.rd
     dsimp only at hE
     go_wp2_with fail
     rcases errv_cases s3.2 with ⟨he0, hev⟩ | ⟨q, hq, hq2, hev⟩
     · rw [hev] at hE
       have HE := Lib.hid hE
       have C2 := Lib.hid (c2 he0)
       clear hev hE c1 c2 h1 hs2 h3 hk
       refine HE.out.mono ?_
       rintro e w9 ⟨rfl, rfl⟩
       obtain ⟨nk, hnk⟩ : ∃ nk, n - k = nk := ⟨_, rfl⟩
       rw [hnk] at C2
       obtain ⟨fx, s5, hfx⟩ : ∃ f s, rFixed (nk : Int) s3 = (f, s) := ⟨_, _, rfl⟩
       have HF5 := Lib.hid hfx
       clear hfx a0 a3
       have hfl : fx.length ≤ 1000000000 := by
        have := rFixed_one (nk : Int) s3
        rw [HF5.out] at this
        dsimp only at this
        omega
       have hk0 : (0 : Int) ≤ (k : Int) := by omega
       have hkd : k ≤ d := Nat.le_trans hkl hM.lst.sl.2.1
       have hkdI : (k : Int) ≤ (d : Int) := by omega
       have hw1 : IntKind.u64.wrap ((n : Int) - (k : Int)) = (nk : Int) := by rw [IntKind.wrap_u64]; omega
       have hw2 : IntKind.i64.wrap (nk : Int) = (nk : Int) := by rw [IntKind.wrap_i64]; omega
       have hs3l : s3.1.length ≤ 1000000000 := by omega
       obtain ⟨pk, hpk⟩ : ∃ pk, pk = t.last.take k := ⟨_, rfl⟩
       have hpl : pk.length = k := by rw [hpk]; simp; omega
       have hTK := fun (W : World) (hW : Wr w3 W g) => clone_any E d pk W (by omega) (show SlB W E d pk from by rw [hpk]; exact Sl.takeB (Own.wr hM.lst hM.gl hW).sl k)
       rw [hpl] at hTK
       have HTK := Lib.hid hTK
       have HPK := Lib.hid hpk
       have hm6l : ∀ m6 : List UInt8, m6 = pk → m6.length ≤ 64 := fun m6 h => by rw [h]; omega
       have HM6 := Lib.hid hm6l
       clear hTK hpk hpl hm6l
       have hge : gt ≠ g := by have := hM.gl; have := hM.gt0; omega
       have hgl := hM.gl
       have hB0 := hM.B0
       have hst : Wr w3 w3.drew g := (Wr.refl _ _).drew
       go_upto_region 7 with (fail)
       refine wp_region_held_drew (S := (fun W => Wr w3 W g)) (by kernel_rfl) ?_ (fun hHeld => ?_)
       · exact hst
       refine gen0 (T := fun W => ((fun W => Wr w3 W g)) W ∧ IsR W g B s3 ∧ True) ?_ (fun wq1 hT => ?_)
       · exact ⟨by (exact hst), by (exact hM.rd), trivial⟩
       (try clear f0 f1 f2 f3 f4 f5 f6 f7 f8 f9 f10 f11)
       obtain ⟨hHeld, f0, -⟩ := hT
       refine wTk (i := 0) (oi := ⟨some 45, _, _, _, _, _⟩) (v := ?_) rfl ⟨by kernel_rfl, ?_⟩ (by assumption) ?_
       rotate_left
       · (intro wS hSw; (try dsimp only at hSw); obtain ⟨q0, q1, q2, q3, q4, qf⟩ := (hM.blk.wr hSw hge).fiveT; clear hSw; go_simp; (try with_reducible rfl))
       (try simp only [Act.put, pS0, pS1, pS2])
       refine wTk (i := 1) (oi := ⟨some 46, _, _, _, _, _⟩) (v := ?_) rfl ⟨by kernel_rfl, ?_⟩ (by assumption) ?_
       rotate_left
       · (intro wS hSw; (try dsimp only at hSw); obtain ⟨q0, q1, q2, q3, q4, qf⟩ := (hM.blk.wr hSw hge).fiveT; clear hSw; go_simp; (try with_reducible rfl))
       (try simp only [Act.put, pS0, pS1, pS2])
       refine wTk (i := 2) (oi := ⟨some 47, _, _, _, _, _⟩) (v := ?_) rfl ⟨by kernel_rfl, ?_⟩ (by assumption) ?_
       rotate_left
       · (intro wS hSw; (try dsimp only at hSw); obtain ⟨q0, q1, q2, q3, q4, qf⟩ := (hM.blk.wr hSw hge).fiveT; clear hSw; go_simp; (try with_reducible rfl))
       (try simp only [Act.put, pS0, pS1, pS2])
       refine wTk (i := 3) (oi := ⟨some 48, _, _, _, _, _⟩) (v := ?_) rfl ⟨by kernel_rfl, ?_⟩ (by assumption) ?_
       rotate_left
       · (intro wS hSw; (try dsimp only at hSw); obtain ⟨q0, q1, q2, q3, q4, qf⟩ := (hM.blk.wr hSw hge).fiveT; clear hSw; go_simp; (try with_reducible rfl))
       (try simp only [Act.put, pS0, pS1, pS2])
       refine wTk (i := 4) (oi := ⟨some 49, _, _, _, _, _⟩) (v := ?_) rfl ⟨by kernel_rfl, ?_⟩ (by assumption) ?_
       rotate_left
       · (intro wS hSw; (try dsimp only at hSw); obtain ⟨q0, q1, q2, q3, q4, qf⟩ := (hM.blk.wr hSw hge).fiveT; clear hSw; go_simp; (try with_reducible rfl))
       (try simp only [Act.put, pS0, pS1, pS2])
       refine wTk (i := 5) (oi := ⟨some 50, _, _, _, _, _⟩) (v := ?_) rfl ⟨by kernel_rfl, ?_⟩ (by assumption) ?_
       rotate_left
       · (intro wS hSw; (try dsimp only at hSw); obtain ⟨q0, q1, q2, q3, q4, qf⟩ := (hM.blk.wr hSw hge).fiveT; clear hSw; go_simp; (try with_reducible rfl))
       (try simp only [Act.put, pS0, pS1, pS2])
       refine wTk (i := 7) (oi := ⟨some 52, _, _, _, _, _⟩) (v := ?_) rfl ⟨by kernel_rfl, ?_⟩ (by assumption) ?_
       rotate_left
       · (intro wS hSw; (try dsimp only at hSw); obtain ⟨q0, q1, q2, q3, q4, qf⟩ := (hM.blk.wr hSw hge).fiveT; clear hSw; go_simp; (try with_reducible rfl))
       (try simp only [Act.put, pS0, pS1, pS2])
       refine wTk (i := 8) (oi := ⟨some 53, _, _, _, _, _⟩) (v := ?_) rfl ⟨by kernel_rfl, ?_⟩ (by assumption) ?_
       rotate_left
       · (intro wS hSw; (try dsimp only at hSw); obtain ⟨q0, q1, q2, q3, q4, qf⟩ := (hM.blk.wr hSw hge).fiveT; clear hSw; go_simp; (try with_reducible rfl))
       (try simp only [Act.put, pS0, pS1, pS2])
       refine wTk (i := 9) (oi := ⟨some 54, _, _, _, _, _⟩) (v := ?_) rfl ⟨by kernel_rfl, ?_⟩ (by assumption) ?_
       rotate_left
       · (intro wS hSw; (try dsimp only at hSw); obtain ⟨q0, q1, q2, q3, q4, qf⟩ := (hM.blk.wr hSw hge).fiveT; clear hSw; go_simp; (try with_reducible rfl))
       (try simp only [Act.put, pS0, pS1, pS2])
       refine wTk (i := 10) (oi := ⟨some 55, _, _, _, _, _⟩) (v := ?_) rfl ⟨by kernel_rfl, ?_⟩ (by assumption) ?_
       rotate_left
       · (intro wS hSw; (try dsimp only at hSw); obtain ⟨q0, q1, q2, q3, q4, qf⟩ := (hM.blk.wr hSw hge).fiveT; clear hSw; go_simp; (try with_reducible rfl))
       (try simp only [Act.put, pS0, pS1, pS2])
       refine wTk (i := 11) (oi := ⟨some 56, _, _, _, _, _⟩) (v := ?_) rfl ⟨by kernel_rfl, ?_⟩ (by assumption) ?_
       rotate_left
       · (intro wS hSw; (try dsimp only at hSw); obtain ⟨q0, q1, q2, q3, q4, qf⟩ := (hM.blk.wr hSw hge).fiveT; clear hSw; go_simp; (try with_reducible rfl))
       (try simp only [Act.put, pS0, pS1, pS2])
       refine wTk (i := 12) (oi := ⟨some 57, _, _, _, _, _⟩) (v := ?_) rfl ⟨by kernel_rfl, ?_⟩ (by assumption) ?_
       rotate_left
       · (intro wS hSw; (try dsimp only at hSw); obtain ⟨q0, q1, q2, q3, q4, qf⟩ := (hM.blk.wr hSw hge).fiveT; clear hSw; go_simp; (try with_reducible rfl))
       (try simp only [Act.put, pS0, pS1, pS2])
       refine wTk (i := 13) (oi := ⟨some 58, _, _, _, _, _⟩) (v := ?_) rfl ⟨by kernel_rfl, ?_⟩ (by assumption) ?_
       rotate_left
       · (intro wS hSw; (try dsimp only at hSw); obtain ⟨q0, q1, q2, q3, q4, qf⟩ := (hM.blk.wr hSw hge).fiveT; clear hSw; go_simp; (try with_reducible rfl))
       (try simp only [Act.put, pS0, pS1, pS2])
       refine wTk (i := 14) (oi := ⟨some 59, _, _, _, _, _⟩) (v := ?_) rfl ⟨by kernel_rfl, ?_⟩ (by assumption) ?_
       rotate_left
       · (intro wS hSw; (try dsimp only at hSw); obtain ⟨q0, q1, q2, q3, q4, qf⟩ := (hM.blk.wr hSw hge).fiveT; clear hSw; go_simp; (try with_reducible rfl))
       (try simp only [Act.put, pS0, pS1, pS2])
       refine wR1 (i := 6) (o := ⟨some 51, _, _, _, _, _⟩) rfl (fun K hK => ?_)
       go_simp
       (refine (HTK.out _ hHeld).mono ?_; rintro e w6 ⟨A6, c6, m6, rfl, hm6, ho6, hb6⟩; have hm6l := HM6.out m6 hm6.out)
       go_wp2_with fail
       refine hK.out _ _ ?_ (fun _ => ?_)
       · ((try dsimp only); (exact hHeld.call hb6))
       clear hK K
       (try simp only [Act.put, pS0, pS1, pS2])
       refine gen0 (T := fun W => ((fun W => Wr w3 W g)) W ∧ IsR W g B s3 ∧ OwnB W w3.heap.size 5 A6 c6 m6 ∧ True) ?_ (fun wq2 hT => ?_)
       · exact ⟨by (exact hHeld.call hb6), by (exact f0.below hb6), by (exact ho6.more hHeld.size), trivial⟩
       (try clear f0 f1 f2 f3 f4 f5 f6 f7 f8 f9 f10 f11)
       obtain ⟨hHeld, f0, f1, -⟩ := hT
       refine wR1 (i := 15) (o := ⟨some 60, _, _, _, _, _⟩) rfl (fun K hK => ?_)
       go_simp
       (refine (Fixed_sT (nk : Int) hs3l f0).mono ?_; rw [HF5.out]; rintro e w7 ⟨A7, c7, m7, rfl, hm7, ho7, hR7, hw7⟩; dsimp only at hm7 hR7; have hm7l : m7.length ≤ 1000000000 := (by rw [hm7.out]; exact hfl))
       go_wp2_with fail
       refine hK.out _ _ ?_ (fun _ => ?_)
       · ((try dsimp only); (exact hHeld.trans hw7))
       clear hK K
       (try simp only [Act.put, pS0, pS1, pS2])
       refine gen0 (T := fun W => ((fun W => Wr w3 W g)) W ∧ OwnB W w3.heap.size 5 A6 c6 m6 ∧ SlB W A7 c7 m7 ∧ IsR W g B s5 ∧ True) ?_ (fun wq3 hT => ?_)
       · exact ⟨by (exact hHeld.trans hw7), by (exact Own.wr f1 (Nat.lt_of_lt_of_le hgl hM.size) hw7), by (exact ho7.sl), by (assumption), trivial⟩
       (try clear f0 f1 f2 f3 f4 f5 f6 f7 f8 f9 f10 f11)
       obtain ⟨hHeld, f0, f1, f2, -⟩ := hT
       refine wR1 (i := 16) (o := ⟨some 61, _, _, _, _, _⟩) rfl (fun K hK => ?_)
       (refine step_bytes 52 5 Tryz.underlying52 u8_info (by kernel_rfl) (.tmp 51) (.tmp 60) rfl w3.heap.size A6 c6 m6 rfl f0 A7 c7 m7.length m7 rfl rfl f1 (by omega) hHeld.size ?_; intro A8 c8 m8 w8 hm8 ho8 hb8)
       refine hK.out _ _ ?_ (fun _ => ?_)
       · ((try dsimp only); (exact hHeld.callB hHeld.size hb8))
       clear hK K
       (try simp only [Act.put, pS0, pS1, pS2])
       refine gen0 (T := fun W => ((fun W => Wr w3 W g)) W ∧ IsR W g B s5 ∧ OwnB W w3.heap.size 5 A8 c8 m8 ∧ True) ?_ (fun wq4 hT => ?_)
       · exact ⟨by (exact hHeld.callB hHeld.size hb8), by (exact f2.apart (Nat.lt_of_lt_of_le hgl hM.size) (Nat.le_trans hB0 hM.size) hb8), by (assumption), trivial⟩
       (try clear f0 f1 f2 f3 f4 f5 f6 f7 f8 f9 f10 f11)
       obtain ⟨hHeld, f0, f1, -⟩ := hT
       refine wTk (i := 17) (oi := ⟨some 4, _, _, _, _, _⟩) (v := ?_) rfl ⟨by kernel_rfl, ?_⟩ (by assumption) ?_
       rotate_left
       · (intro wS hSw; (try dsimp only at hSw); obtain ⟨q0, q1, q2, q3, q4, qf⟩ := (hM.blk.wr hSw hge).fiveT; clear hSw; go_simp; (try with_reducible rfl))
       (try simp only [Act.put, pS0, pS1, pS2])
       refine wpAnyH_done (by kernel_rfl) ?_ _
       have hM5 := hM.read f0 hHeld
       have hx8 : OwnB wq4 w0.heap.size 5 A8 c8 m8 := f1.more hM.size
       dsimp only at hM5
       have hX := C2.out fx s5 HF5.out m8 (by rw [hm8.out, hm7.out, hm6.out, HPK.out])
       have HX := Lib.hid hX
       have hck : IntKind.i64.wrap (k : Int) = (k : Int) := by rw [IntKind.wrap_i64]; omega
       have hml : m.length ≤ 64 := by
        have := congrArg List.length hM5.out.out
        simp only [List.length_map] at this
        omega
       clear hM hX C2 hst HTK HM6 hw1 hw2 HF5 f0 f1 hHeld hm6 hm7 hm8 HPK ho6 hb6 ho7 hR7 hw7 ho8 hb8 hm6l
       obtain ⟨a0, -, -, a3, -, -⟩ := hM5.blk.fiveT
       have hE := Err_s hM5.rd
       dsimp only at hE
       go_wp2_with fail
       rcases errv_cases s5.2 with ⟨he0, hev⟩ | ⟨q, hq, hq2, hev⟩
       · rw [hev] at hE
         have HE := Lib.hid hE
         clear hE hev
         refine HE.out.mono ?_
         rintro e w11 ⟨rfl, rfl⟩
         go_wp2_with fail
         refine (alike_any E A8 d c8 t.last m8 _ hM5.lst.sl hx8.sl).mono ?_
         rintro e w12 ⟨rfl, hb12⟩
         by_cases hcp : cpl t.last m8 = k
         · have hci : (((cpl t.last m8 : Nat) : Int) != (k : Int)) = false := by simp [hcp]
           have HT := Lib.hid (HX.out s5 (if_neg (by simp [hcp])))
           have hM := hM5.read (hM5.rd.below hb12) (Wr.of_below hb12)
           dsimp only at hM
           have hx := Own.below hx8 hb12
           clear hcp HX hx8 hM5 a0 a3
           obtain ⟨a0, a1, a2, a3, a4, af⟩ := hM.blk.fiveT
           go_wp2_with (at_builtin; go_must (refine wpl_cellG rfl _ _ rfl w0.heap.size A c m (1, A8, c8, m8) rfl hM.new.1 rfl (by omega) hM.size ?_; intro A9 c9 m9 w9 hm9 ho9 hg9 hb9; obtain ⟨z0, z1, z2, z3, z4, zf⟩ := ((hM.blk.alloc _).grown (World.ownsRow.alloc hM.new.1 _) (by decide) hg9).fiveT))
           go_end0
           exact ⟨rfl, by rw [HT.out]; exact data_fin hM hx hm9 ho9 hg9 hb9 hl1⟩
         · have hci : (((cpl t.last m8 : Nat) : Int) != (k : Int)) = true := by simp; omega
           have HT := Lib.hid (HX.out (rFail 2 s5) (if_pos ⟨he0, hcp⟩))
           have hM6 := hM5.read (hM5.rd.below hb12) (Wr.of_below hb12)
           dsimp only at hM6
           have hx6 := Own.below hx8 hb12
           clear hcp HX hx8 hM5 a0 a3
           obtain ⟨a0, -, -, a3, -, -⟩ := hM6.blk.fiveT
           go_wp2_with fail
           refine (Fail_sT 2 hM6.rd).mono ?_
           rintro e w13 ⟨rfl, hR13, hr13⟩
           have hM := hM6.read hR13 hr13
           dsimp only at hM
           have hx := Own.wr hx6 hM.gl hr13
           clear hM6 hx6 a0 a3 hR13 hr13
           obtain ⟨a0, a1, a2, a3, a4, af⟩ := hM.blk.fiveT
           go_wp2_with (at_builtin; go_must (refine wpl_cellG rfl _ _ rfl w0.heap.size A c m (1, A8, c8, m8) rfl hM.new.1 rfl (by omega) hM.size ?_; intro A9 c9 m9 w9 hm9 ho9 hg9 hb9; obtain ⟨z0, z1, z2, z3, z4, zf⟩ := ((hM.blk.alloc _).grown (World.ownsRow.alloc hM.new.1 _) (by decide) hg9).fiveT))
           go_end0
           exact ⟨rfl, by rw [HT.out]; exact data_fin hM hx hm9 ho9 hg9 hb9 hl1⟩
       · rw [hev] at hE
         have HE := Lib.hid hE
         have HT := Lib.hid (HX.out s5 (if_neg (by intro h; omega)))
         clear hE hev hq2 HX
         refine HE.out.mono ?_
         rintro e w11 ⟨rfl, rfl⟩
         have hM := hM5
         have hx := hx8
         clear hM5 hx8 a0 a3
         obtain ⟨a0, a1, a2, a3, a4, af⟩ := hM.blk.fiveT
         go_wp2_with (at_builtin; go_must (refine wpl_cellG rfl _ _ rfl w0.heap.size A c m (1, A8, c8, m8) rfl hM.new.1 rfl (by omega) hM.size ?_; intro A9 c9 m9 w9 hm9 ho9 hg9 hb9; obtain ⟨z0, z1, z2, z3, z4, zf⟩ := ((hM.blk.alloc _).grown (World.ownsRow.alloc hM.new.1 _) (by decide) hg9).fiveT))
         go_end0
         exact ⟨rfl, by rw [HT.out]; exact data_fin hM hx hm9 ho9 hg9 hb9 hl1⟩
     · have HT := Lib.hid (c1 (by omega))
       rw [hev] at hE
       have HE := Lib.hid hE
       clear hev hE hq2 c1 c2 h1 hs2 h3 hk
       -- the reader has failed: what takes answers at once
       go_wp2_with fail
       refine HE.out.mono ?_
       rintro e w9 ⟨rfl, rfl⟩
       go_wp2_with fail
       refine bodyPost_ret (results_none rfl _ _ _) rfl ?_
       exact ⟨rfl, by rw [HT.out]; exact ⟨A, c, E, d, m, hM⟩⟩
theorem rWithin_len2 (m : Nat) (s : Rs) : (rWithin m s).2.1.length ≤ s.1.length := rWithin_len m s
theorem tkStep_ok {t : Tk} (h : TkOk t) (hl : 1 ≤ t.left) (h0 : (tkStep t).s.2 = 0) : TkOk (tkStep t) := by
 obtain ⟨h1, h2, h3, h4⟩ := h
 have hn := rNum_len t.s
 unfold tkStep at h0 ⊢
 by_cases hb : (rNum t.s).2.2 ≠ 0
 · rw [if_pos hb] at h0; exact absurd h0 hb
 rw [if_neg hb] at h0 ⊢
 by_cases hp : 0 < (rNum t.s).1
 · rw [if_pos hp] at h0 ⊢
   generalize rNum t.s = p at *
   obtain ⟨n, s0⟩ := p
   dsimp only at *
   obtain ⟨s1, hs1⟩ : ∃ s1, (if t.left < n then rFail 2 s0 else s0) = s1 := ⟨_, rfl⟩
   obtain ⟨k, s2, h12⟩ : ∃ k s2, rWithin 3 s1 = (k, s2) := ⟨_, _, rfl⟩
   obtain ⟨c1, c2, c3⟩ := tkRow_cases n { t with s := s0 } hs1 h12
   have hk := rWithin_leT 3 s1
   have hl2 := rWithin_len2 3 s1
   rw [h12] at hk hl2
   dsimp only at hk hl2
   have hl1 : s1.1.length ≤ s0.1.length := by
    rw [← hs1]
    split
    · exact rFail_len 2 s0
    · exact Nat.le_refl _
   by_cases hkk : k = 1 ∨ k = t.kind
   · rw [c1 hkk] at h0; exact absurd h0 (rFail_bad (by decide))
   by_cases hs2 : s2.2 = 0
   · rw [c2 hkk hs2]
     have hnl : n ≤ t.left := by
      rcases Nat.lt_or_ge t.left n with hx | hx
      · rw [if_pos hx] at hs1
        rw [← hs1, rWithin_of (rFail_bad (by decide))] at h12
        injection h12 with _ h12
        rw [← h12] at hs2
        exact absurd hs2 (rFail_bad (by decide))
      · exact hx
     exact ⟨by simp only [List.length_append, List.length_replicate]; omega, hk, h3, by dsimp only; omega⟩
   · rw [c3 hkk hs2] at h0; exact absurd h0 hs2
 · rw [if_neg hp] at h0 ⊢
   generalize rNum t.s = p at *
   obtain ⟨n0, s0⟩ := p
   dsimp only at *
   obtain ⟨n, s1, e1⟩ : ∃ n s1, rNum s0 = (n, s1) := ⟨_, _, rfl⟩
   obtain ⟨s2, e2⟩ : ∃ s2, (if 64 < n then rFail 3 s1 else s1) = s2 := ⟨_, rfl⟩
   obtain ⟨k, s3, e3⟩ : ∃ k s3, rNum s2 = (k, s3) := ⟨_, _, rfl⟩
   obtain ⟨s4, e4⟩ : ∃ s4, (if min n t.last.length < k then rFail 2 s3 else s3) = s4 := ⟨_, rfl⟩
   obtain ⟨c1, c2⟩ := tkData_cases { t with s := s0 } e1 e2 e3 e4
   by_cases hb4 : s4.2 = 0
   · obtain ⟨f, s5, e5⟩ : ∃ f s5, rFixed ((n - k : Nat) : Int) s4 = (f, s5) := ⟨_, _, rfl⟩
     obtain ⟨s6, e6⟩ : ∃ s6, (if s5.2 = 0 ∧ cpl t.last (t.last.take k ++ f) ≠ k then rFail 2 s5 else s5) = s6 := ⟨_, rfl⟩
     have e7 := c2 hb4 f s5 e5 (t.last.take k ++ f) rfl s6 e6
     rw [e7]
     have hk : k ≤ min n t.last.length := by
      rcases Nat.lt_or_ge (min n t.last.length) k with hx | hx
      · rw [if_pos hx] at e4; rw [← e4] at hb4; exact absurd hb4 (rFail_bad (by decide))
      · exact hx
     have h34 : s4 = s3 := by rw [← e4, if_neg (by omega)]
     have hn64 : n ≤ 64 := by
      rcases Nat.lt_or_ge 64 n with hx | hx
      · rw [if_pos hx] at e2
        rw [← e2, rNum_of (rFail_bad (by decide))] at e3
        injection e3 with _ e3
        rw [h34, ← e3] at hb4
        exact absurd hb4 (rFail_bad (by decide))
      · exact hx
     have h12 : s2 = s1 := by rw [← e2, if_neg (by omega)]
     have l1 := rNum_len s0
     have l3 := rNum_len s2
     have l5 := rFixed_len ((n - k : Nat) : Int) s4
     have lf : f.length ≤ n - k := by
      have : (rFixed ((n - k : Nat) : Int) s4).1.length ≤ n - k := by
       unfold rFixed
       split
       · simp
       · split
         · simp
         · simp only [List.length_take, Int.toNat_natCast]
           exact Nat.min_le_left _ _
      rw [e5] at this
      exact this
     rw [e1] at l1
     rw [e3] at l3
     rw [e5] at l5
     have l6 : s6.1.length ≤ s5.1.length := by
      rw [← e6]
      split
      · exact rFail_len 2 s5
      · exact Nat.le_refl _
     dsimp only at l1 l3 l5
     rw [h12] at l3
     rw [h34] at l5
     exact ⟨by simp only [List.length_append, List.length_cons, List.length_nil]; omega, by dsimp only; omega, by simp only [List.length_append, List.length_take]; omega, by dsimp only; omega⟩
   · rw [c1 hb4] at h0; exact absurd h0 hb4
def msr (g gt : Nat) (w : World) : Nat := 2 * (match w.cell? ⟨gt, 2, none⟩ with | some (.int _ z) => z.toNat | _ => 0) + (match w.cell? ⟨g, 1, none⟩ with | some .nilIface => 1 | _ => 0)
theorem msr_eq {w0 W : World} {g gt B : Nat} {t : Tk} (h : TkS w0 g gt B t W) : msr g gt W = 2 * t.left + (if t.s.2 = 0 then 1 else 0) := by
 obtain ⟨A, c, E, d, m, hM⟩ := h
 obtain ⟨_, _, a2, _⟩ := hM.blk.fiveT
 obtain ⟨A1, c1, hB, _⟩ := hM.rd
 obtain ⟨_, b1, _, _⟩ := hB.two
 unfold msr
 rw [a2, b1]
 rcases errv_cases t.s.2 with ⟨h0, he⟩ | ⟨q, hq, hq2, he⟩
 · rw [he, if_pos h0]; rfl
 · rw [he, if_neg (by omega)]; rfl
theorem msr_step {w0 W W' : World} {g gt B : Nat} {t : Tk} (h : TkS w0 g gt B t W) (h' : TkS w0 g gt B (tkStep t) W') (hl : 1 ≤ t.left) (h0 : t.s.2 = 0) (hle : (tkStep t).left ≤ t.left) : msr g gt W' < msr g gt W := by
 rw [msr_eq h, msr_eq h', if_pos h0]
 rcases tkStep_left t with h1 | h1
 · rw [if_neg h1]; omega
 · split <;> omega
theorem tk_le {p : Prop} [Decidable p] {x y : Tk} {n : Nat} (hx : x.left ≤ n) (hy : y.left ≤ n) : (if p then x else y).left ≤ n := by split <;> assumption
theorem tkStep_le (t : Tk) : (tkStep t).left ≤ t.left := by
 unfold tkStep
 refine tk_le (Nat.le_refl _) (tk_le ?_ ?_)
 · unfold tkRow
   exact tk_le (Nat.sub_le _ _) (Nat.le_refl _)
 · unfold tkData
   exact tk_le (Nat.le_refl _) (Nat.sub_le _ _)
def GivesRun (w0 : World) (g B : Nat) (r : List Ce × Rs) (e : Ending) (w' : World) : Prop :=
 ∃ A c m, e = .returned (.slice A (List.length m) c) ∧ Hid (m.map ceOf = r.1) ∧ NewS w' w0.heap.size A c m ∧ IsR w' g B r.2 ∧ Wr w0 w' g
set_option maxRecDepth 100000 in
set_option maxHeartbeats 2000000 in
theorem TakeRun_any {w : World} {g B : Nat} {s : Rs} (hR0 : IsR w g B s) (hB : B ≤ w.heap.size) (hS : s.1.length ≤ 1000000000) :
 Calls Tryz.prog 116 #[.pointer (some ⟨g, 0, none⟩)] w (GivesRun w g B (takeRun s)) := by
 have hg := hR0.lt
 go_enter Tryz.func116, Tryz.ntmps116
 go_wp2_with fail
 refine (Number_sT hR0).mono ?_
 rintro e w1 ⟨rfl, hR1, hr1⟩
 have hu := rNum_u64 s
 have hnl := rNum_len s
 have hnew : tkNew s = ⟨if 64 < (rNum s).1 then rFail 3 (rNum s).2 else (rNum s).2, [], min (rNum s).1 64, [], 1⟩ := rfl
 generalize rNum s = p at *
 obtain ⟨n, s1⟩ := p
 dsimp only at *
 rcases Nat.lt_or_ge 64 n with h64 | h64
 · have hnI : (64 : Int) < (n : Int) := by omega
   rw [if_pos h64] at hnew
   go_wp2_with fail
   refine (Fail_sT 3 hR1).mono ?_
   rintro e W ⟨rfl, hR, hr2⟩
   have hr := hr1.trans hr2
   have hmn : (min (n : Int) 64) = ((min n 64 : Nat) : Int) := by omega
   have hst : TkM w g W.heap.size B (tkNew s) none 0 none 0 [] (W.alloc (.cells #[.pointer (some ⟨g, 0, none⟩), .slice none 0 0, .int .i64 ((min n 64) : Nat), .slice none 0 0, .int .i64 1] 226)) :=
    ⟨hg, hr.size, hB, by rw [hnew]; exact Blk.new _ _ _, (show _ = _ from by rw [hnew]; rfl), ⟨Own.none_ _ _ _ _, fun x hx => by simp at hx⟩, by rw [hnew]; exact Own.none_ _ _ _ _, by rw [hnew]; exact hR.below (below_new _ _), hr.alloc _⟩
   have hok : (tkNew s).s.2 = 0 → TkOk (tkNew s) := fun _ => by rw [hnew]; exact ⟨by simp; omega, by dsimp only; omega, by simp, by have := rFail_len 3 s1; dsimp only; omega⟩
   have HT0 : Hid (∀ W', W' = W.alloc (.cells #[.pointer (some ⟨g, 0, none⟩), .slice none 0 0, .int .i64 ((min n 64) : Nat), .slice none 0 0, .int .i64 1] 226) → TkS w g W.heap.size B (tkNew s) W') := (show ∀ W', _ → _ from fun W' h => by rw [h]; exact ⟨none, 0, none, 0, [], hst⟩)
   have HOK := Lib.hid hok
   have hsW := hr.size
   clear hst hok hnew hR hr hS
   go_wp2_with fail
   go_loopw [] (fun wr => ∃ t, TkS w g W.heap.size B t wr ∧ Hid (t.s.2 = 0 → TkOk t) ∧ Hid (tkEnd (tkNew s) = tkEnd t)) (fun wr => msr g W.heap.size wr)
   case atStart => exact ⟨tkNew s, HT0.out _ rfl, HOK.out, (show _ = _ from rfl)⟩
   case round =>
    obtain ⟨t, hT, hO, hE⟩ := hrel
    obtain ⟨A, c, E, d, m, hM⟩ := hT
    clear HT0 HOK
    obtain ⟨a0, a1, a2, _, _, _⟩ := hM.blk.fiveT
    have hEr := Err_s hM.rd
    rcases Nat.eq_zero_or_pos t.left with h0 | h0
    · have hlb : ¬ (0 : Int) < (t.left : Int) := by omega
      have hEnd := tkEnd_stop (t := t) (.inl h0)
      clear h0
      rcases errv_cases t.s.2 with ⟨he0, hev⟩ | ⟨q, hq, hq2, hev⟩
      · have HT := Lib.hid (show takeRun s = (t.out, t.s) from by unfold takeRun; rw [hE.out, hEnd, if_neg (by simpa using he0)])
        rw [hev] at hEr
        have HE := Lib.hid hEr
        clear hEr hev hEnd he0
        go_wp2_with fail
        refine HE.out.mono ?_
        rintro e w4 ⟨rfl, rfl⟩
        go_wp2_with fail
        go_ret
        exact ⟨A, c, m, rfl, (show _ = _ from by rw [HT.out]; exact hM.out.out), hM.new, by rw [HT.out]; exact hM.rd, hM.fr⟩
      · have HT := Lib.hid (show takeRun s = ([], t.s) from by unfold takeRun; rw [hE.out, hEnd, if_pos (by omega)])
        rw [hev] at hEr
        have HE := Lib.hid hEr
        clear hEr hev hEnd hq2
        go_wp2_with fail
        refine HE.out.mono ?_
        rintro e w4 ⟨rfl, rfl⟩
        go_wp2_with fail
        go_ret
        exact ⟨none, 0, [], rfl, (show _ = _ from by rw [HT.out]; rfl), ⟨Own.none_ _ _ _ _, fun x hx => by simp at hx⟩, by rw [HT.out]; exact hM.rd, hM.fr⟩
    · have hlb : (0 : Int) < (t.left : Int) := by omega
      rcases errv_cases t.s.2 with ⟨he0, hev⟩ | ⟨q, hq, hq2, hev⟩
      · have hOk := hO.out he0
        have hst := tkEnd_step (t := t) (by omega) he0
        have HST := Lib.hid (hE.out.trans hst)
        have HMS := Lib.hid (fun (W' : World) (h' : TkS w g _ B (tkStep t) W') => msr_step ⟨A, c, E, d, m, hM⟩ h' h0 he0 (tkStep_le t))
        have HOK2 : Hid ((tkStep t).s.2 = 0 → TkOk (tkStep t)) := (show _ → _ from tkStep_ok hOk h0)
        rw [hev] at hEr
        have HE := Lib.hid hEr
        clear hEr hev hst hE hO
        go_wp2_with fail
        refine HE.out.mono ?_
        rintro e w4 ⟨rfl, rfl⟩
        go_wp2_with fail
        refine (Number_sT hM.rd).mono ?_
        rintro e w5 ⟨rfl, hR5, hr5⟩
        have hM5 := hM.read hR5 hr5
        have hu5 := rNum_u64 t.s
        have hl5 := rNum_len t.s
        have hsp : tkStep t = if (rNum t.s).2.2 ≠ 0 then { t with s := (rNum t.s).2 } else if 0 < (rNum t.s).1 then tkRow (rNum t.s).1 { t with s := (rNum t.s).2 } else tkData { t with s := (rNum t.s).2 } := rfl
        generalize rNum t.s = p at *
        obtain ⟨many, s5⟩ := p
        dsimp only at *
        have hE5 := Err_s hM5.rd
        dsimp only at hE5
        have hOk5 : TkOk { t with s := s5 } := ⟨hOk.sum, hOk.kind, hOk.last, by dsimp only; have := hOk.len; omega⟩
        clear hM hR5 hr5 a0 a1 a2
        obtain ⟨a0, a1, a2, _, _, _⟩ := hM5.blk.fiveT
        go_wp2_with fail
        rcases errv_cases s5.2 with ⟨he5, hev⟩ | ⟨q, hq, hq2, hev⟩
        · rw [if_neg (by simpa using he5)] at hsp
          rw [hev] at hE5
          have HE5 := Lib.hid hE5
          clear hE5 hev
          refine HE5.out.mono ?_
          rintro e w6 ⟨rfl, rfl⟩
          rcases Nat.eq_zero_or_pos many with hm0 | hm0
          · rw [if_neg (by omega)] at hsp
            have hmI : ¬ (0 : Int) < (many : Int) := by omega
            have HSP := Lib.hid hsp
            clear hsp hm0
            go_wp2_with fail
            refine (tkData_any ⟨A, c, E, d, m, hM5⟩ hOk5 h0).mono ?_
            rintro e w7 ⟨rfl, hT7⟩
            rw [← HSP.out] at hT7
            go_wp2_with fail
            go_roundw
            case rel => exact ⟨tkStep t, hT7, HOK2.out, HST.out⟩
            case measure => exact HMS.out _ hT7
          · rw [if_pos hm0] at hsp
            have hmI : (0 : Int) < (many : Int) := by omega
            have HSP := Lib.hid hsp
            clear hsp
            go_wp2_with fail
            refine (tkRow_any ⟨A, c, E, d, m, hM5⟩ hOk5 hu5 hm0).mono ?_
            rintro e w7 ⟨rfl, hT7⟩
            rw [← HSP.out] at hT7
            go_wp2_with fail
            go_roundw
            case rel => exact ⟨tkStep t, hT7, HOK2.out, HST.out⟩
            case measure => exact HMS.out _ hT7
        · rw [if_pos (by omega)] at hsp
          rw [hev] at hE5
          have HE5 := Lib.hid hE5
          have hT7 : TkS w g W.heap.size B (tkStep t) w5 := by rw [hsp]; exact ⟨A, c, E, d, m, hM5⟩
          clear hE5 hev hq2 hsp
          refine HE5.out.mono ?_
          rintro e w6 ⟨rfl, rfl⟩
          go_wp2_with fail
          go_roundw
          case rel => exact ⟨tkStep t, hT7, HOK2.out, HST.out⟩
          case measure => exact HMS.out _ hT7
      · have hEnd := tkEnd_stop (t := t) (.inr (by omega))
        have HT := Lib.hid (show takeRun s = ([], t.s) from by unfold takeRun; rw [hE.out, hEnd, if_pos (by omega)])
        rw [hev] at hEr
        have HE := Lib.hid hEr
        clear hEr hev hEnd hq2
        go_wp2_with fail
        refine HE.out.mono ?_
        rintro e w4 ⟨rfl, rfl⟩
        go_wp2_with fail
        refine HE.out.mono ?_
        rintro e w5 ⟨rfl, rfl⟩
        go_wp2_with fail
        go_ret
        exact ⟨none, 0, [], rfl, (show _ = _ from by rw [HT.out]; rfl), ⟨Own.none_ _ _ _ _, fun x hx => by simp at hx⟩, by rw [HT.out]; exact hM.rd, hM.fr⟩
 · have hnI : (n : Int) ≤ 64 := by omega
   rw [if_neg (by omega)] at hnew
   rw [Nat.min_eq_left h64] at hnew
   have hmn : (min (n : Int) 64) = (n : Int) := by omega
   go_wp2_with fail
   have hR := hR1
   have hr := hr1
   generalize w1 = W at *
   have hst : TkM w g W.heap.size B (tkNew s) none 0 none 0 [] (W.alloc (.cells #[.pointer (some ⟨g, 0, none⟩), .slice none 0 0, .int .i64 (n : Nat), .slice none 0 0, .int .i64 1] 226)) :=
    ⟨hg, hr.size, hB, by rw [hnew]; exact Blk.new _ _ _, (show _ = _ from by rw [hnew]; rfl), ⟨Own.none_ _ _ _ _, fun x hx => by simp at hx⟩, by rw [hnew]; exact Own.none_ _ _ _ _, by rw [hnew]; exact hR.below (below_new _ _), hr.alloc _⟩
   have hok : (tkNew s).s.2 = 0 → TkOk (tkNew s) := fun _ => by rw [hnew]; exact ⟨by simp; omega, by dsimp only; omega, by simp, by dsimp only; omega⟩
   have HT0 : Hid (∀ W', W' = W.alloc (.cells #[.pointer (some ⟨g, 0, none⟩), .slice none 0 0, .int .i64 (n : Nat), .slice none 0 0, .int .i64 1] 226) → TkS w g W.heap.size B (tkNew s) W') := (show ∀ W', _ → _ from fun W' h => by rw [h]; exact ⟨none, 0, none, 0, [], hst⟩)
   have HOK := Lib.hid hok
   have hsW := hr.size
   clear hst hok hnew hR hr hS
   go_wp2_with fail
   go_loopw [] (fun wr => ∃ t, TkS w g W.heap.size B t wr ∧ Hid (t.s.2 = 0 → TkOk t) ∧ Hid (tkEnd (tkNew s) = tkEnd t)) (fun wr => msr g W.heap.size wr)
   case atStart => exact ⟨tkNew s, HT0.out _ rfl, HOK.out, (show _ = _ from rfl)⟩
   case round =>
    obtain ⟨t, hT, hO, hE⟩ := hrel
    obtain ⟨A, c, E, d, m, hM⟩ := hT
    clear HT0 HOK
    obtain ⟨a0, a1, a2, _, _, _⟩ := hM.blk.fiveT
    have hEr := Err_s hM.rd
    rcases Nat.eq_zero_or_pos t.left with h0 | h0
    · have hlb : ¬ (0 : Int) < (t.left : Int) := by omega
      have hEnd := tkEnd_stop (t := t) (.inl h0)
      clear h0
      rcases errv_cases t.s.2 with ⟨he0, hev⟩ | ⟨q, hq, hq2, hev⟩
      · have HT := Lib.hid (show takeRun s = (t.out, t.s) from by unfold takeRun; rw [hE.out, hEnd, if_neg (by simpa using he0)])
        rw [hev] at hEr
        have HE := Lib.hid hEr
        clear hEr hev hEnd he0
        go_wp2_with fail
        refine HE.out.mono ?_
        rintro e w4 ⟨rfl, rfl⟩
        go_wp2_with fail
        go_ret
        exact ⟨A, c, m, rfl, (show _ = _ from by rw [HT.out]; exact hM.out.out), hM.new, by rw [HT.out]; exact hM.rd, hM.fr⟩
      · have HT := Lib.hid (show takeRun s = ([], t.s) from by unfold takeRun; rw [hE.out, hEnd, if_pos (by omega)])
        rw [hev] at hEr
        have HE := Lib.hid hEr
        clear hEr hev hEnd hq2
        go_wp2_with fail
        refine HE.out.mono ?_
        rintro e w4 ⟨rfl, rfl⟩
        go_wp2_with fail
        go_ret
        exact ⟨none, 0, [], rfl, (show _ = _ from by rw [HT.out]; rfl), ⟨Own.none_ _ _ _ _, fun x hx => by simp at hx⟩, by rw [HT.out]; exact hM.rd, hM.fr⟩
    · have hlb : (0 : Int) < (t.left : Int) := by omega
      rcases errv_cases t.s.2 with ⟨he0, hev⟩ | ⟨q, hq, hq2, hev⟩
      · have hOk := hO.out he0
        have hst := tkEnd_step (t := t) (by omega) he0
        have HST := Lib.hid (hE.out.trans hst)
        have HMS := Lib.hid (fun (W' : World) (h' : TkS w g _ B (tkStep t) W') => msr_step ⟨A, c, E, d, m, hM⟩ h' h0 he0 (tkStep_le t))
        have HOK2 : Hid ((tkStep t).s.2 = 0 → TkOk (tkStep t)) := (show _ → _ from tkStep_ok hOk h0)
        rw [hev] at hEr
        have HE := Lib.hid hEr
        clear hEr hev hst hE hO
        go_wp2_with fail
        refine HE.out.mono ?_
        rintro e w4 ⟨rfl, rfl⟩
        go_wp2_with fail
        refine (Number_sT hM.rd).mono ?_
        rintro e w5 ⟨rfl, hR5, hr5⟩
        have hM5 := hM.read hR5 hr5
        have hu5 := rNum_u64 t.s
        have hl5 := rNum_len t.s
        have hsp : tkStep t = if (rNum t.s).2.2 ≠ 0 then { t with s := (rNum t.s).2 } else if 0 < (rNum t.s).1 then tkRow (rNum t.s).1 { t with s := (rNum t.s).2 } else tkData { t with s := (rNum t.s).2 } := rfl
        generalize rNum t.s = p at *
        obtain ⟨many, s5⟩ := p
        dsimp only at *
        have hE5 := Err_s hM5.rd
        dsimp only at hE5
        have hOk5 : TkOk { t with s := s5 } := ⟨hOk.sum, hOk.kind, hOk.last, by dsimp only; have := hOk.len; omega⟩
        clear hM hR5 hr5 a0 a1 a2
        obtain ⟨a0, a1, a2, _, _, _⟩ := hM5.blk.fiveT
        go_wp2_with fail
        rcases errv_cases s5.2 with ⟨he5, hev⟩ | ⟨q, hq, hq2, hev⟩
        · rw [if_neg (by simpa using he5)] at hsp
          rw [hev] at hE5
          have HE5 := Lib.hid hE5
          clear hE5 hev
          refine HE5.out.mono ?_
          rintro e w6 ⟨rfl, rfl⟩
          rcases Nat.eq_zero_or_pos many with hm0 | hm0
          · rw [if_neg (by omega)] at hsp
            have hmI : ¬ (0 : Int) < (many : Int) := by omega
            have HSP := Lib.hid hsp
            clear hsp hm0
            go_wp2_with fail
            refine (tkData_any ⟨A, c, E, d, m, hM5⟩ hOk5 h0).mono ?_
            rintro e w7 ⟨rfl, hT7⟩
            rw [← HSP.out] at hT7
            go_wp2_with fail
            go_roundw
            case rel => exact ⟨tkStep t, hT7, HOK2.out, HST.out⟩
            case measure => exact HMS.out _ hT7
          · rw [if_pos hm0] at hsp
            have hmI : (0 : Int) < (many : Int) := by omega
            have HSP := Lib.hid hsp
            clear hsp
            go_wp2_with fail
            refine (tkRow_any ⟨A, c, E, d, m, hM5⟩ hOk5 hu5 hm0).mono ?_
            rintro e w7 ⟨rfl, hT7⟩
            rw [← HSP.out] at hT7
            go_wp2_with fail
            go_roundw
            case rel => exact ⟨tkStep t, hT7, HOK2.out, HST.out⟩
            case measure => exact HMS.out _ hT7
        · rw [if_pos (by omega)] at hsp
          rw [hev] at hE5
          have HE5 := Lib.hid hE5
          have hT7 : TkS w g W.heap.size B (tkStep t) w5 := by rw [hsp]; exact ⟨A, c, E, d, m, hM5⟩
          clear hE5 hev hq2 hsp
          refine HE5.out.mono ?_
          rintro e w6 ⟨rfl, rfl⟩
          go_wp2_with fail
          go_roundw
          case rel => exact ⟨tkStep t, hT7, HOK2.out, HST.out⟩
          case measure => exact HMS.out _ hT7
      · have hEnd := tkEnd_stop (t := t) (.inr (by omega))
        have HT := Lib.hid (show takeRun s = ([], t.s) from by unfold takeRun; rw [hE.out, hEnd, if_pos (by omega)])
        rw [hev] at hEr
        have HE := Lib.hid hEr
        clear hEr hev hEnd hq2
        go_wp2_with fail
        refine HE.out.mono ?_
        rintro e w4 ⟨rfl, rfl⟩
        go_wp2_with fail
        refine HE.out.mono ?_
        rintro e w5 ⟨rfl, rfl⟩
        go_wp2_with fail
        go_ret
        exact ⟨none, 0, [], rfl, (show _ = _ from by rw [HT.out]; rfl), ⟨Own.none_ _ _ _ _, fun x hx => by simp at hx⟩, by rw [HT.out]; exact hM.rd, hM.fr⟩
end
section
open Go.RowKit
section
variable {t : Tk} {many : Nat} {s1 : Rs} (h1 : rNum t.s = (many, s1))
include h1
theorem st_bad (hb : s1.2 ≠ 0) : tkStep t = { t with s := s1 } := by
 unfold tkStep
 rw [h1, if_pos hb]
theorem st_row (hb : s1.2 = 0) (hm : 0 < many) : tkStep t = tkRow many { t with s := s1 } := by
 unfold tkStep
 rw [h1, if_neg (by simpa using hb), if_pos hm]
theorem st_data (hb : s1.2 = 0) (hm : many = 0) : tkStep t = tkData { t with s := s1 } := by
 unfold tkStep
 rw [h1, if_neg (by simpa using hb), if_neg (by dsimp only; omega)]
theorem st_far (hb : s1.2 = 0) (hm : 0 < many) (hl : t.left < many) : (tkStep t).s = rFail 2 s1 := by
 rw [st_row h1 hb hm]
 have h2 : rWithin 3 (rFail 2 s1) = (0, rFail 2 s1) := rWithin_of (rFail_bad (by decide))
 obtain ⟨c1, c2, c3⟩ := tkRow_cases many { t with s := s1 } (if_pos hl) h2
 by_cases hk : 0 = 1 ∨ 0 = t.kind
 · rw [c1 hk]; exact rFail_of (rFail_bad (by decide))
 · rw [c3 hk (rFail_bad (by decide))]
theorem st_rowbad (hb : s1.2 = 0) (hm : 0 < many) (hl : many ≤ t.left) {k : Nat} {s2 : Rs} (h2 : rWithin 3 s1 = (k, s2)) (hc : s2.2 ≠ 0 ∨ k = 1 ∨ k = t.kind) : (tkStep t).s = rFail 2 s2 := by
 rw [st_row h1 hb hm]
 obtain ⟨c1, c2, c3⟩ := tkRow_cases many { t with s := s1 } (if_neg (by dsimp only; omega)) h2
 by_cases hk : k = 1 ∨ k = t.kind
 · rw [c1 hk]
 · have hb2 : s2.2 ≠ 0 := by
    rcases hc with h | h
    · exact h
    · exact absurd h hk
   rw [c3 hk hb2, rFail_of hb2]
theorem st_rowok (hb : s1.2 = 0) (hm : 0 < many) (hl : many ≤ t.left) {k : Nat} {s2 : Rs} (h2 : rWithin 3 s1 = (k, s2)) (hc : s2.2 = 0) (hk : ¬ (k = 1 ∨ k = t.kind)) : tkStep t = ⟨s2, t.out ++ List.replicate many ((k : Int), []), t.left - many, t.last, k⟩ := by
 rw [st_row h1 hb hm]
 obtain ⟨c1, c2, c3⟩ := tkRow_cases many { t with s := s1 } (if_neg (by dsimp only; omega)) h2
 exact c2 hk hc
variable {n : Nat} {s2 : Rs} (h2 : rNum s1 = (n, s2))
include h2
theorem st_long (hb : s1.2 = 0) (hm : many = 0) (hc : s2.2 ≠ 0 ∨ 64 < n) : (tkStep t).s = rFail 3 s2 := by
 rw [st_data h1 hb hm]
 have hz : s2.2 ≠ 0 → n = 0 := by
  intro h
  unfold rNum at h2
  split at h2
  · injection h2 with h2 _; exact h2.symm
  · split at h2
    · injection h2 with h2 _; exact h2.symm
    · injection h2 with _ h2; rw [← h2] at h; exact absurd rfl h
 by_cases hn : 64 < n
 · have h3 : rNum (rFail 3 s2) = (0, rFail 3 s2) := rNum_of (rFail_bad (by decide))
   obtain ⟨c1, -⟩ := tkData_cases { t with s := s1 } h2 (if_pos hn) h3 (if_neg (Nat.not_lt_zero _))
   rw [c1 (rFail_bad (by decide))]
 · have hb2 : s2.2 ≠ 0 := by
    rcases hc with h | h
    · exact h
    · exact absurd h hn
   have h3 : rNum s2 = (0, s2) := rNum_of hb2
   obtain ⟨c1, -⟩ := tkData_cases { t with s := s1 } h2 (if_neg hn) h3 (if_neg (Nat.not_lt_zero _))
   rw [c1 hb2, rFail_of hb2]
variable (hb : s1.2 = 0) (hm : many = 0) (hn : n ≤ 64) {k : Nat} {s3 : Rs} (h3 : rNum s2 = (k, s3))
include hb hm hn h3
theorem st_share (hc : s3.2 ≠ 0 ∨ n < k ∨ t.last.length < k) : (tkStep t).s = rFail 2 s3 := by
 rw [st_data h1 hb hm]
 by_cases hk : min n t.last.length < k
 · obtain ⟨c1, -⟩ := tkData_cases { t with s := s1 } h2 (if_neg (by omega)) h3 (if_pos hk)
   rw [c1 (rFail_bad (by decide))]
 · have hb3 : s3.2 ≠ 0 := by
    rcases hc with h | h | h
    · exact h
    · omega
    · omega
   obtain ⟨c1, -⟩ := tkData_cases { t with s := s1 } h2 (if_neg (by omega)) h3 (if_neg hk)
   rw [c1 hb3, rFail_of hb3]
variable (hk : k ≤ n) (hk2 : k ≤ t.last.length) (h30 : s3.2 = 0) {f : List UInt8} {s5 : Rs} (h5 : rFixed ((n - k : Nat) : Int) s3 = (f, s5))
include hk hk2 h30 h5
theorem st_fixbad (h50 : s5.2 ≠ 0) : (tkStep t).s = s5 := by
 rw [st_data h1 hb hm]
 obtain ⟨-, c2⟩ := tkData_cases { t with s := s1 } h2 (if_neg (by omega)) h3 (if_neg (by dsimp only; omega))
 rw [c2 h30 f s5 h5 _ rfl s5 (if_neg (by intro h; exact h50 h.1))]
theorem st_textbad (h50 : s5.2 = 0) {x : List UInt8} (hx : x = t.last.take k ++ f) (hc : cpl t.last x ≠ k) : (tkStep t).s = rFail 2 s5 := by
 rw [st_data h1 hb hm]
 obtain ⟨-, c2⟩ := tkData_cases { t with s := s1 } h2 (if_neg (by omega)) h3 (if_neg (by dsimp only; omega))
 rw [c2 h30 f s5 h5 x hx (rFail 2 s5) (if_pos ⟨h50, hc⟩)]
theorem st_textok (_h50 : s5.2 = 0) {x : List UInt8} (hx : x = t.last.take k ++ f) (hc : cpl t.last x = k) : tkStep t = ⟨s5, t.out ++ [(1, x)], t.left - 1, x, 1⟩ := by
 rw [st_data h1 hb hm]
 obtain ⟨-, c2⟩ := tkData_cases { t with s := s1 } h2 (if_neg (by omega)) h3 (if_neg (by dsimp only; omega))
 exact c2 h30 f s5 h5 x hx s5 (if_neg (by intro h; exact h.2 hc))
end
end
section
open Go.RowKit
attribute [local go_sem ↓] Go.wp_at_zero Go.wp_at_succ
theorem tr_start {s s1 : Rs} {n : Nat} (h : rNum s = (n, s1)) (hc : s1.2 ≠ 0 ∨ 64 < n) : takeRun s = ([], rFail 3 s1) := by
 have hs : (tkNew s).s = rFail 3 s1 := by
  unfold tkNew
  rw [h]
  dsimp only
  by_cases hn : 64 < n
  · rw [if_pos hn]
  · rw [if_neg hn]
    rcases hc with hc | hc
    · rw [rFail_of hc]
    · exact absurd hc hn
 have hb : (tkNew s).s.2 ≠ 0 := by
  rw [hs]
  exact rFail_bad (by decide)
 unfold takeRun
 rw [tkEnd_stop (.inr hb), if_pos hb, hs]
end
section
end
section
open Go.RowKit
attribute [local go_sem ↓] Go.wp_at_zero Go.wp_at_succ
def sgEnd (x : Sg × Rs) : Sg × Nat := if rEnd x.2 ≠ 0 then ((0, []), rEnd x.2) else if schk x.1 ≠ 0 then ((0, []), schk x.1) else (x.1, 0)
def sgRead (s : Rs) : Sg × Rs := ((((rWithin 1048576 s).1 : Int), (takeRun (rWithin 1048576 s).2).1), (takeRun (rWithin 1048576 s).2).2)
def sgTake (b : List UInt8) : Sg × Nat := if (fone b).2 ≠ 0 then ((0, []), (fone b).2) else sgEnd (sgRead ((fone b).1, 0))
theorem End_s {g B : Nat} {s : Rs} {w : World} (hR : IsR w g B s) : Calls Tryz.prog 73 #[.pointer (some ⟨g, 0, none⟩)] w fun e w' => e = .returned (errv (rEnd s)) ∧ w = w' := by obtain ⟨l, b⟩ := s; exact End_any hR
theorem NewS.setLow {w : World} {base g c : Nat} {A : Option Addr} {m : List CeV} (h : NewS w base A c m) (hg : g < base) (i : Nat) (u : Value) : NewS (w.setCell ⟨g, i, none⟩ u) base A c m := ⟨Own.set1 h.1 hg _, fun x hx => Own.set1 (h.2 x hx) hg _⟩
theorem fone_len (b : List UInt8) : (fone b).1.length ≤ b.length := by
 unfold fone
 split
 · simp
 · split
   · simp
   · unfold ftake
     split
     · simp
     · split
       · simp
       · split
         · simp
         · split
           · simp only [List.length_drop, List.length_take]; omega
           · simp
set_option maxRecDepth 100000 in
set_option maxHeartbeats 4000000 in
theorem STake_any (A : Option Addr) (c : Nat) (b : List UInt8) (w : World) (hs : SlB w A c b) (hl : b.length ≤ 1000000) :
 Calls Tryz.prog 87 #[.slice A b.length c] w (GivesSgN w (sgTake b)) := by
 have hRes := Blk.new w 43 #[.int .i64 0, .slice none 0 0]
 have hw := below_new w (.cells #[.int .i64 0, .slice none 0 0] 43)
 have hfl := fone_len b
 go_enter Tryz.func87, Tryz.ntmps87
 go_wp2_with fail
 refine (FOne_any A c b _ (hs.below hw) (by omega)).mono ?_
 rintro e w1 ⟨A1, c1, m1, rfl, hm1, hs1, hb1⟩
 replace hRes := hRes.below hb1
 replace hw := bel_call hw hb1
 clear hb1
 rcases errv_cases (fone b).2 with ⟨h0, hev⟩ | ⟨k, hk, hke, hev⟩
 · have HT0 := Lib.hid (show sgTake b = sgEnd (sgRead ((fone b).1, 0)) from by unfold sgTake; rw [if_neg (by omega)])
   rw [hev]
   have hm1l : m1.length ≤ 1000000 := by rw [hm1.out]; omega
   clear hev h0 hfl
   go_wp2_with fail
   refine (RNew_any A1 c1 m1 _ hs1).mono ?_
   rintro e w2 ⟨g, rfl, hg, hR, hb2⟩
   have hwl : w.heap.size < w1.heap.size := hRes.lt
   replace hRes := hRes.below hb2
   replace hw := bel_call hw hb2
   have hgl := hR.lt
   have HT1 : Hid (sgTake b = sgEnd (sgRead (m1, 0))) := (show _ = _ from by rw [HT0.out, hm1.out])
   clear HT0 hs1 hb2
   have hR' : IsR w2 g w1.heap.size (m1, 0) := hR
   clear hR
   go_wp2_with fail
   refine (Within_any 1048576 hR').mono ?_
   rintro e w3 ⟨rfl, hR3, hr3⟩
   have hb3 : Below w.heap.size w2 w3 := hr3.below hw.size (by omega)
   replace hRes := hRes.wr hr3 (by omega)
   replace hw := hw.trans hb3
   have hgl3 := hR3.lt
   obtain ⟨f, s3, hf3⟩ : ∃ f s, rWithin 1048576 (m1, 0) = (f, s) := ⟨_, _, rfl⟩
   have hs3l := rWithin_len 1048576 (m1, 0)
   rw [hf3] at hR3 hs3l ⊢
   dsimp only at hR3 hs3l ⊢
   have HF3 := Lib.hid hf3
   have hb31 : w1.heap.size ≤ w3.heap.size := by have := hr3.size; omega
   clear hf3 hR' hr3 hb3 hgl
   go_upto_region 6 with (fail)
   have hbx := below_new w3 (.cells #[.int .i64 (f : Nat), .slice none 0 0] 43)
   have hS4 := Blk.new w3 43 #[.int .i64 (f : Nat), .slice none 0 0]
   have hR4 := hR3.below hbx
   replace hRes := hRes.below hbx
   replace hw := bel_call hw hbx
   have hW4 : w3.heap.size < (w3.alloc (.cells #[.int .i64 (f : Nat), .slice none 0 0] 43)).heap.size := by simp
   clear hR3 hbx
   generalize hWe : w3.alloc (.cells #[.int .i64 (f : Nat), .slice none 0 0] 43) = w4 at *
   clear hWe
   generalize hg7e : w3.heap.size = g7 at *
   clear hg7e
   go_wp2_with fail
   refine (TakeRun_any hR4 (by omega) (by omega)).mono ?_
   rintro e w5 ⟨A5, c5, m5, rfl, hm5, hN5, hR5, hr5⟩
   have hb5 : Below w.heap.size w4 w5 := hr5.below hw.size (by omega)
   replace hRes := hRes.wr hr5 (by omega)
   have hS5 := hS4.wr hr5 (by omega)
   replace hw := hw.trans hb5
   have h45 := hr5.size
   clear hR4 hr5 hb5 hS4
   obtain ⟨x0, x1, xf0, xf1⟩ := hS5.two
   go_upto_region 7 with (fail)
   have hS6 := hS5.set_ 1 (.slice A5 m5.length c5)
   have hR6 := hR5.apart (C := g7) (by omega) (by omega) (Below.setCell (p := ⟨g7, 1, none⟩) (Below.refl _ _) (Nat.le_refl _) (.slice A5 m5.length c5))
   replace hRes := hRes.far (p := ⟨g7, 1, none⟩) (by dsimp only; omega) (.slice A5 m5.length c5)
   replace hw := bel_set hw (p := ⟨g7, 1, none⟩) (by dsimp only; omega) (.slice A5 m5.length c5)
   have hN6 := hN5.setLow (g := g7) (by omega) 1 (.slice A5 m5.length c5)
   have hsz6 : (w5.setCell ⟨g7, 1, none⟩ (.slice A5 m5.length c5)).heap.size = w5.heap.size := by simp
   clear hS5 hR5 hN5 x0 x1 xf0 xf1
   generalize hWe : w5.setCell ⟨g7, 1, none⟩ (.slice A5 m5.length c5) = w6 at *
   clear hWe
   have hS6' : Blk w6 g7 43 #[.int .i64 (f : Nat), .slice A5 m5.length c5] := by simpa using hS6
   clear hS6
   have hE := End_s hR6
   obtain ⟨rn, s5, ht5⟩ : ∃ r s, takeRun s3 = (r, s) := ⟨_, _, rfl⟩
   rw [ht5] at hE hm5
   dsimp only at hE hm5
   have hsr : sgRead (m1, 0) = (((f : Int), rn), s5) := by unfold sgRead; rw [HF3.out]; dsimp only; rw [ht5]
   have HT2 : Hid (sgTake b = sgEnd (((f : Int), rn), s5)) := (show _ = _ from by rw [HT1.out, hsr])
   clear HT1 HF3 ht5 hsr hR6
   go_wp2_with fail
   rcases errv_cases (rEnd s5) with ⟨h0, hev⟩ | ⟨k, hk, hke, hev⟩
   · rw [hev] at hE
     have HE := Lib.hid hE
     have HN0 := Lib.hid h0
     clear hE hev h0
     refine HE.out.mono ?_
     rintro e w7 ⟨rfl, rfl⟩
     obtain ⟨x0, x1, xf0, xf1⟩ := hS6'.two
     go_wp2_with fail
     refine (SCheck_any (f : Nat) m5 _ hN6.slc).mono ?_
     rintro e w8 ⟨rfl, hb8⟩
     replace hRes := hRes.below hb8
     replace hw := bel_call hw hb8
     replace hS6' := hS6'.below hb8
     replace hN6 := hN6.below hb8
     clear hb8 x0 x1 xf0 xf1
     rw [hm5.out]
     rcases errv_cases (schk ((f : Int), rn)) with ⟨h0, hev⟩ | ⟨k, hk, hke, hev⟩
     · have HT := Lib.hid (show sgTake b = (((f : Int), rn), 0) from by rw [HT2.out]; unfold sgEnd; rw [if_neg (by rw [HN0.out]; simp), if_neg (by rw [h0]; simp)])
       rw [hev]
       clear hev h0
       obtain ⟨x0, x1, xf0, xf1⟩ := hS6'.two
       obtain ⟨r0, r1, rf0, rf1⟩ := hRes.two
       go_wp2_with fail
       exact bodyPost_ret (res_sg2 rfl rfl (g := w.heap.size) (hRes.set2 _ _)) rfl ⟨A5, c5, m5, by rw [HT.out]; rfl, (show _ = _ from by rw [HT.out, hm5.out]), NewS.more ((hN6.setLow (g := w.heap.size) (by omega) 0 _).setLow (g := w.heap.size) (by omega) 1 _) (by omega), bel_set (bel_set hw (Nat.le_refl _) _) (Nat.le_refl _) _⟩
     · have HT := Lib.hid (show sgTake b = ((0, []), schk ((f : Int), rn)) from by rw [HT2.out]; unfold sgEnd; rw [if_neg (by rw [HN0.out]; simp), if_pos (by dsimp only; omega)])
       have HEV := Lib.hid hev
       rw [hev]
       clear hev hke
       obtain ⟨r0, r1, rf0, rf1⟩ := hRes.two
       go_wp2_with fail
       exact bodyPost_ret (res_sg2 rfl rfl (g := w.heap.size) (hRes.set2 _ _)) rfl ⟨none, 0, [], by rw [HT.out]; dsimp only; rw [HEV.out]; rfl, (show _ = _ from by rw [HT.out]; rfl), NewS.nil _ _, bel_set (bel_set hw (Nat.le_refl _) _) (Nat.le_refl _) _⟩
   · have HT := Lib.hid (show sgTake b = ((0, []), rEnd s5) from by rw [HT2.out]; unfold sgEnd; rw [if_pos (by dsimp only; omega)])
     have HEV := Lib.hid hev
     rw [hev] at hE
     have HE := Lib.hid hE
     clear hev hke hE
     refine HE.out.mono ?_
     rintro e w7 ⟨rfl, rfl⟩
     obtain ⟨r0, r1, rf0, rf1⟩ := hRes.two
     go_wp2_with fail
     exact bodyPost_ret (res_sg2 rfl rfl (g := w.heap.size) (hRes.set2 _ _)) rfl ⟨none, 0, [], by rw [HT.out]; dsimp only; rw [HEV.out]; rfl, (show _ = _ from by rw [HT.out]; rfl), NewS.nil _ _, bel_set (bel_set hw (Nat.le_refl _) _) (Nat.le_refl _) _⟩
 · have HT := Lib.hid (show sgTake b = ((0, []), (fone b).2) from by unfold sgTake; rw [if_pos (by omega)])
   have HEV := Lib.hid hev
   rw [hev]
   clear hev hke hfl
   obtain ⟨r0, r1, rf0, rf1⟩ := hRes.two
   go_wp2_with fail
   exact bodyPost_ret (res_sg2 rfl rfl (g := w.heap.size) (hRes.set2 _ _)) rfl ⟨none, 0, [], by rw [HT.out]; dsimp only; rw [HEV.out]; rfl, (show _ = _ from by rw [HT.out]; rfl), NewS.nil _ _, bel_set (bel_set hw (Nat.le_refl _) _) (Nat.le_refl _) _⟩
end
end Go.Proofs.YtajfnmohlnkncaaGreatDoor
