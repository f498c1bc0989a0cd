/- WHAT IT HOLDS: the law DiskFuses, walked. -/
import Derived.Test.YtdmohcmlocliiaaDoorDiskSyncsG16
import Derived.Test.YtdmohcmlocliiaaDoorDiskSyncsG14
namespace Go.Proofs.YtdmohcmlocliiaaDoor
open Go.RowKit Go.Maps Go.Sort
attribute [local go_sem ↓] Go.wp_at_zero Go.wp_at_succ

theorem SlB.ltB {w : World} {A : Option Addr} {c : Nat} {l : Bs} (h : SlB w A c l) (hne : l ≠ []) {ad : Addr} (hA : A = some ad) : ad.block < w.heap.size := by
  obtain ⟨ad', e, hc⟩ := Sl.at1 (f := bv) (l := l) h (k := 0) (List.length_pos_iff.2 hne)
  rw [hA] at e
  injection e with e
  subst e
  have := World.block_lt_of_cell? _ _ hc
  rwa [addr_add_block] at this
theorem SlZ.ltB {w : World} {B : Option Addr} {kc : Nat} {ks : List Bool} (h : SlZ w B kc ks) (hne : ks ≠ []) {ad : Addr} (hA : B = some ad) : ad.block < w.heap.size := by
  have hl : 0 < ks.length := List.length_pos_iff.2 hne
  obtain ⟨ad', e, hc⟩ := h.2.2.2.2 0 _ (by rw [List.getElem?_map, List.getElem?_eq_getElem hl]; rfl)
  rw [hA] at e
  injection e with e
  subst e
  have := World.block_lt_of_cell? _ _ hc
  rwa [addr_add_block] at this
/-- a kind's remainder by 4 -/
theorem kind4 (k : Int) : (IntKind.u64.wrap k).tmod 4 = 0 ∨ (IntKind.u64.wrap k).tmod 4 = 1 ∨ (IntKind.u64.wrap k).tmod 4 = 2 ∨ (IntKind.u64.wrap k).tmod 4 = 3 := by
  have h : IntKind.u64.wrap k = k % 18446744073709551616 := rfl
  rw [h, Int.tmod_eq_emod_of_nonneg (by omega)]
  omega
/-- what has been done behind k acts -/
def Dn (n : Int) (k : Nat) (dn : Int) : Prop := (k : Int) ≤ n ∧ dn = k ∨ n < k ∧ dn = n
set_option maxRecDepth 100000 in
set_option maxHeartbeats 1000000 in
theorem fuses_walk {A : Option Addr} {c : Nat} {s : List DA} {n : Int} (hn : 0 ≤ n ∧ n ≤ 9223372036854775807) (w : World) (h : SlDA w A c s) (hl : dLong s 40 = false) :
    Calls Tryd.prog 3 #[.int .i64 n, .slice A s.length c] w fun e w' => e = .returned (.bool true) ∧ Below w.heap.size w w' := by
  have H := Lib.hid h
  have HSh := Lib.hid (dLong_short hl)
  have hs40 : s.length ≤ 40 := by have := (dLong_short hl).1; omega
  have HLg := fun W (hh : SlDA W A c s) => DLong_any W hh 40
  rw [hl] at HLg
  replace HLg := Lib.hid HLg
  have h0n := hn.1
  have HN := Lib.hid hn
  clear h hl hn
  go_enter Tryd.func3, Tryd.ntmps3
  go_wp2_with fail
  refine (Alive_any _).mono ?_
  rintro e w1 ⟨rfl, hb1⟩
  go_wp2_with fail
  refine (HLg.out _ (H.out.below hb1)).mono ?_
  rintro e w2 ⟨rfl, hb2⟩
  have hb := bel_call hb1 hb2
  clear hb1 hb2 HLg
  go_wp2_with fail
  refine (New_any 1048576 w2).mono ?_
  rintro e w3 (⟨h, -⟩ | ⟨-, q, rfl, hD, hM, hb3⟩)
  · omega
  have HFr := Lib.hid (show Fro w w3 q from ⟨bel_call hb hb3, fun i hi => Nat.le_trans hb.size (hM i hi)⟩)
  clear hb hM hb3
  rw [show errv 0 = Value.nilIface from rfl]
  have HFu := Lib.hid (Fuse_any hD n)
  have HR := Lib.hid (show dFuse (dk0 1048576) n = ({ dk0 1048576 with fuse := n }, 0) from if_neg (by omega))
  clear hD
  go_wp2_with fail
  refine HFu.out.mono ?_
  rintro e w4 ⟨rfl, hD, hW⟩
  rw [HR.out] at hD ⊢
  rw [show errv 0 = Value.nilIface from rfl]
  have HFz := Lib.hid (show Fz n 0 ({ dk0 1048576 with fuse := n }) from .inl ⟨h0n, rfl, by dsimp only; omega⟩)
  have HSz := Lib.hid (show ({ dk0 1048576 with fuse := n }).sure.length + ({ dk0 1048576 with fuse := n }).pend.length ≤ 0 from Nat.le_refl _)
  have HF4 := Lib.hid (HFr.out.frd (Frd.of_wr (.inl rfl) hW) (fun i hi => .inl hi))
  have HD := Lib.hid hD
  clear HFu HR HFr hD hW
  generalize ({ dk0 1048576 with fuse := n }) = d at *
  generalize hgg : q.g = g at *
  have hqg := Lib.hid hgg
  clear hgg
  go_wp2_with fail
  go_loopw [37, 7] (fun x y wr => ∃ (k : Nat) (dn : Int) (q : Fp) (d : Dk Sv), k ≤ s.length ∧ x = .int .i64 k ∧ y = .int .i64 dn ∧ Dn n k dn ∧ Hid (q.g = g) ∧ Dsk wr q d ∧ Fro w wr q ∧ Fz n k d ∧ d.sure.length + d.pend.length ≤ k) (fun x _ w => s.length - (intOf x).toNat)
  case atStart => exact ⟨0, 0, q, d, Nat.zero_le _, rfl, rfl, .inl ⟨h0n, rfl⟩, hqg, HD.out, HF4.out, HFz.out, HSz.out⟩
  case round =>
    clear HD HF4 HFz HSz hqg
    clear d q
    obtain ⟨k, dn, q, d, hk, rfl, rfl, hdn, hqg, hD, hF, hz, hsz⟩ := hrel
    obtain rfl := hqg.out
    clear hqg
    by_cases hlt : k < s.length
    · have hS := H.out.below hF.1
      obtain ⟨ad, b, o, hA, had, hcc⟩ := Sl.atS (f := dac) (size := 6) (fun _ => rfl) (by omega) hS.1 hlt
      have hc0 := hcc 0 _ rfl
      have hc1 := hcc 1 _ rfl
      have hc2 := hcc 2 _ rfl
      have hc3 := hcc 3 _ rfl
      have hc4 := hcc 4 _ rfl
      have hc5 := hcc 5 _ rfl
      rw [Nat.add_zero] at hc0
      have hok := hS.2 _ (List.getElem_mem hlt)
      have hok0 := (H.out.2 _ (List.getElem_mem hlt)).1
      have hsh := DA.short (HSh.out.2 _ (List.getElem_mem hlt))
      clear hcc hS
      generalize s[k] = x at *
      obtain ⟨kd, nm, tt, A1, c1, l1, ff, B1, kc, ks⟩ := x
      obtain ⟨q1, -⟩ := hok
      obtain ⟨s1, s2, -, s4, -⟩ := hsh
      dsimp only at *
      rw [hA] at *
      clear hA
      obtain ⟨p1, p2, p3, -⟩ := hD.fits hsz (by omega)
      have hfu := hz.fuse HN.out
      have hDn := hD.below (below_new wr (.cells #[.int .i64 kd, .string ⟨nm.toArray⟩, .string ⟨tt.toArray⟩, .slice A1 l1.length c1, .int .i64 ff, .slice B1 ks.length kc] 34))
      have hFn := hF.call (below_new wr (.cells #[.int .i64 kd, .string ⟨nm.toArray⟩, .string ⟨tt.toArray⟩, .slice A1 l1.length c1, .int .i64 ff, .slice B1 ks.length kc] 34))
      have q1n := Sl.below q1 (below_new wr (.cells #[.int .i64 kd, .string ⟨nm.toArray⟩, .string ⟨tt.toArray⟩, .slice A1 l1.length c1, .int .i64 ff, .slice B1 ks.length kc] 34))
      have hne : l1 ≠ [] → ∀ ad, A1 = some ad → ad.block ≠ q.g := fun hne ad hA => by
        have h1 := SlB.ltB hok0 hne hA
        have h2 := hF.2 q.g (.inl rfl)
        omega
      have HWr := Lib.hid (Write_any hDn hfu p1 p2 p3 nm (by omega) l1 q1n hne (by omega))
      have HRn := Lib.hid (Rename_any hDn hfu p1 p2 nm tt (by omega) (by omega))
      have HRm := Lib.hid (Remove_any hDn hfu p1 p2 nm (by omega))
      have HSy := Lib.hid (Sync_any hDn hfu)
      have HF := Lib.hid hFn
      have HZ := Lib.hid hz
      clear hDn hFn q1n q1 hne hfu p1 p2 p3 s1 s2 s4 hok0 hF hz hD
      rcases kind4 kd with hu | hu | hu | hu
      · clear HRn HRm HSy
        go_wp2_with fail
        refine HWr.out.mono ?_
        clear HWr
        rintro e w5 ⟨A5, c5, rfl, hG⟩
        have hop := Opd.write svl d nm ⟨A5, c5, l1⟩
        generalize dWrite svl d nm ⟨A5, c5, l1⟩ = r at *
        obtain ⟨d5, num⟩ := r
        obtain ⟨q5, hg5, hD5, hF5, hM5, -⟩ := hG
        obtain ⟨z1, z2, z3⟩ := HZ.out.step hop
        have z4 := hop.2.2.2
        dsimp only at z1 z2 z3 z4 hD5 ⊢
        have HF5 := Lib.hid (HF.out.frd hF5 hM5)
        have HZ5 := Lib.hid z1
        have HD5 := Lib.hid hD5
        have HS5 := Lib.hid (show d5.sure.length + d5.pend.length ≤ k + 1 by omega)
        have Hg5 := Lib.hid hg5
        have hdo := Down_any hD5
        have hIs := fun W => isn_any num 14 W
        rw [hg5] at hdo
        clear hop hF5 hM5 hg5 z1 z4 hD5 HZ HF hsz
        rcases Int.lt_or_le (k : Int) n with hkn | hkn
        · rw [show d5.down = false from by cases h5 : d5.down; rfl; have := z3.1 h5; omega] at hdo
          rw [show ((num : Int) == 14) = false from by rw [beq_eq_false_iff_ne]; intro e; have := z2.1 (by omega); omega] at hIs
          obtain rfl : dn = (k : Int) := by rcases hdn with h | h; exact h.2; omega
          have HI := Lib.hid hIs
          have HO := Lib.hid hdo
          have HDn := Lib.hid (show Dn n (k + 1) ((k : Int) + 1) from .inl ⟨by omega, by omega⟩)
          generalize errv num = ev at *
          clear hdo hIs z2 z3 hdn
          go_wp2_with fail
          refine (HI.out _).mono ?_
          rintro e w6 ⟨rfl, rfl⟩
          go_wp2_with fail
          refine HO.out.mono ?_
          rintro e w7 ⟨rfl, rfl⟩
          go_wp2_with fail
          go_roundw
          case rel => exact ⟨k + 1, _, q5, d5, hlt, rfl, rfl, HDn.out, Hg5, HD5.out, HF5.out, HZ5.out, HS5.out⟩
          case measure => simp [intOf]; omega
        · rw [show d5.down = true from z3.2 hkn] at hdo
          rw [show ((num : Int) == 14) = true from by rw [beq_iff_eq]; have := z2.2 hkn; omega] at hIs
          obtain rfl : dn = n := by rcases hdn with h | h; omega; exact h.2
          have HI := Lib.hid hIs
          have HO := Lib.hid hdo
          have HDn := Lib.hid (show Dn dn (k + 1) dn from .inr ⟨by omega, rfl⟩)
          generalize errv num = ev at *
          clear hdo hIs z2 z3 hdn
          go_wp2_with fail
          refine (HI.out _).mono ?_
          rintro e w6 ⟨rfl, rfl⟩
          go_wp2_with fail
          refine HO.out.mono ?_
          rintro e w7 ⟨rfl, rfl⟩
          go_wp2_with fail
          go_roundw
          case rel => exact ⟨k + 1, _, q5, d5, hlt, rfl, rfl, HDn.out, Hg5, HD5.out, HF5.out, HZ5.out, HS5.out⟩
          case measure => simp [intOf]; omega
      · clear HWr HRm HSy
        go_wp2_with fail
        refine HRn.out.mono ?_
        clear HRn
        rintro e w5 ⟨rfl, hG⟩
        have hop := Opd.rename Sv.nil d nm tt
        generalize dRename Sv.nil d nm tt = r at *
        obtain ⟨d5, num⟩ := r
        obtain ⟨q5, hg5, hD5, hF5, hM5, -⟩ := hG
        obtain ⟨z1, z2, z3⟩ := HZ.out.step hop
        have z4 := hop.2.2.2
        dsimp only at z1 z2 z3 z4 hD5 ⊢
        have HF5 := Lib.hid (HF.out.frd hF5 hM5)
        have HZ5 := Lib.hid z1
        have HD5 := Lib.hid hD5
        have HS5 := Lib.hid (show d5.sure.length + d5.pend.length ≤ k + 1 by omega)
        have Hg5 := Lib.hid hg5
        have hdo := Down_any hD5
        have hIs := fun W => isn_any num 14 W
        rw [hg5] at hdo
        clear hop hF5 hM5 hg5 z1 z4 hD5 HZ HF hsz
        rcases Int.lt_or_le (k : Int) n with hkn | hkn
        · rw [show d5.down = false from by cases h5 : d5.down; rfl; have := z3.1 h5; omega] at hdo
          rw [show ((num : Int) == 14) = false from by rw [beq_eq_false_iff_ne]; intro e; have := z2.1 (by omega); omega] at hIs
          obtain rfl : dn = (k : Int) := by rcases hdn with h | h; exact h.2; omega
          have HI := Lib.hid hIs
          have HO := Lib.hid hdo
          have HDn := Lib.hid (show Dn n (k + 1) ((k : Int) + 1) from .inl ⟨by omega, by omega⟩)
          generalize errv num = ev at *
          clear hdo hIs z2 z3 hdn
          go_wp2_with fail
          refine (HI.out _).mono ?_
          rintro e w6 ⟨rfl, rfl⟩
          go_wp2_with fail
          refine HO.out.mono ?_
          rintro e w7 ⟨rfl, rfl⟩
          go_wp2_with fail
          go_roundw
          case rel => exact ⟨k + 1, _, q5, d5, hlt, rfl, rfl, HDn.out, Hg5, HD5.out, HF5.out, HZ5.out, HS5.out⟩
          case measure => simp [intOf]; omega
        · rw [show d5.down = true from z3.2 hkn] at hdo
          rw [show ((num : Int) == 14) = true from by rw [beq_iff_eq]; have := z2.2 hkn; omega] at hIs
          obtain rfl : dn = n := by rcases hdn with h | h; omega; exact h.2
          have HI := Lib.hid hIs
          have HO := Lib.hid hdo
          have HDn := Lib.hid (show Dn dn (k + 1) dn from .inr ⟨by omega, rfl⟩)
          generalize errv num = ev at *
          clear hdo hIs z2 z3 hdn
          go_wp2_with fail
          refine (HI.out _).mono ?_
          rintro e w6 ⟨rfl, rfl⟩
          go_wp2_with fail
          refine HO.out.mono ?_
          rintro e w7 ⟨rfl, rfl⟩
          go_wp2_with fail
          go_roundw
          case rel => exact ⟨k + 1, _, q5, d5, hlt, rfl, rfl, HDn.out, Hg5, HD5.out, HF5.out, HZ5.out, HS5.out⟩
          case measure => simp [intOf]; omega
      · clear HWr HRn HSy
        go_wp2_with fail
        refine HRm.out.mono ?_
        clear HRm
        rintro e w5 ⟨rfl, hG⟩
        have hop := Opd.remove Sv.nil d nm
        generalize dRemove Sv.nil d nm = r at *
        obtain ⟨d5, num⟩ := r
        obtain ⟨q5, hg5, hD5, hF5, hM5, -⟩ := hG
        obtain ⟨z1, z2, z3⟩ := HZ.out.step hop
        have z4 := hop.2.2.2
        dsimp only at z1 z2 z3 z4 hD5 ⊢
        have HF5 := Lib.hid (HF.out.frd hF5 hM5)
        have HZ5 := Lib.hid z1
        have HD5 := Lib.hid hD5
        have HS5 := Lib.hid (show d5.sure.length + d5.pend.length ≤ k + 1 by omega)
        have Hg5 := Lib.hid hg5
        have hdo := Down_any hD5
        have hIs := fun W => isn_any num 14 W
        rw [hg5] at hdo
        clear hop hF5 hM5 hg5 z1 z4 hD5 HZ HF hsz
        rcases Int.lt_or_le (k : Int) n with hkn | hkn
        · rw [show d5.down = false from by cases h5 : d5.down; rfl; have := z3.1 h5; omega] at hdo
          rw [show ((num : Int) == 14) = false from by rw [beq_eq_false_iff_ne]; intro e; have := z2.1 (by omega); omega] at hIs
          obtain rfl : dn = (k : Int) := by rcases hdn with h | h; exact h.2; omega
          have HI := Lib.hid hIs
          have HO := Lib.hid hdo
          have HDn := Lib.hid (show Dn n (k + 1) ((k : Int) + 1) from .inl ⟨by omega, by omega⟩)
          generalize errv num = ev at *
          clear hdo hIs z2 z3 hdn
          go_wp2_with fail
          refine (HI.out _).mono ?_
          rintro e w6 ⟨rfl, rfl⟩
          go_wp2_with fail
          refine HO.out.mono ?_
          rintro e w7 ⟨rfl, rfl⟩
          go_wp2_with fail
          go_roundw
          case rel => exact ⟨k + 1, _, q5, d5, hlt, rfl, rfl, HDn.out, Hg5, HD5.out, HF5.out, HZ5.out, HS5.out⟩
          case measure => simp [intOf]; omega
        · rw [show d5.down = true from z3.2 hkn] at hdo
          rw [show ((num : Int) == 14) = true from by rw [beq_iff_eq]; have := z2.2 hkn; omega] at hIs
          obtain rfl : dn = n := by rcases hdn with h | h; omega; exact h.2
          have HI := Lib.hid hIs
          have HO := Lib.hid hdo
          have HDn := Lib.hid (show Dn dn (k + 1) dn from .inr ⟨by omega, rfl⟩)
          generalize errv num = ev at *
          clear hdo hIs z2 z3 hdn
          go_wp2_with fail
          refine (HI.out _).mono ?_
          rintro e w6 ⟨rfl, rfl⟩
          go_wp2_with fail
          refine HO.out.mono ?_
          rintro e w7 ⟨rfl, rfl⟩
          go_wp2_with fail
          go_roundw
          case rel => exact ⟨k + 1, _, q5, d5, hlt, rfl, rfl, HDn.out, Hg5, HD5.out, HF5.out, HZ5.out, HS5.out⟩
          case measure => simp [intOf]; omega
      · clear HWr HRn HRm
        go_wp2_with fail
        refine HSy.out.mono ?_
        clear HSy
        rintro e w5 ⟨rfl, hG⟩
        have hop := Opd.sync d
        generalize dSync d = r at *
        obtain ⟨d5, num⟩ := r
        obtain ⟨q5, hg5, hD5, hF5, hM5, -⟩ := hG
        obtain ⟨z1, z2, z3⟩ := HZ.out.step hop
        have z4 := hop.2.2.2
        dsimp only at z1 z2 z3 z4 hD5 ⊢
        have HF5 := Lib.hid (HF.out.frd hF5 hM5)
        have HZ5 := Lib.hid z1
        have HD5 := Lib.hid hD5
        have HS5 := Lib.hid (show d5.sure.length + d5.pend.length ≤ k + 1 by omega)
        have Hg5 := Lib.hid hg5
        have hdo := Down_any hD5
        have hIs := fun W => isn_any num 14 W
        rw [hg5] at hdo
        clear hop hF5 hM5 hg5 z1 z4 hD5 HZ HF hsz
        rcases Int.lt_or_le (k : Int) n with hkn | hkn
        · rw [show d5.down = false from by cases h5 : d5.down; rfl; have := z3.1 h5; omega] at hdo
          rw [show ((num : Int) == 14) = false from by rw [beq_eq_false_iff_ne]; intro e; have := z2.1 (by omega); omega] at hIs
          obtain rfl : dn = (k : Int) := by rcases hdn with h | h; exact h.2; omega
          have HI := Lib.hid hIs
          have HO := Lib.hid hdo
          have HDn := Lib.hid (show Dn n (k + 1) ((k : Int) + 1) from .inl ⟨by omega, by omega⟩)
          generalize errv num = ev at *
          clear hdo hIs z2 z3 hdn
          go_wp2_with fail
          refine (HI.out _).mono ?_
          rintro e w6 ⟨rfl, rfl⟩
          go_wp2_with fail
          refine HO.out.mono ?_
          rintro e w7 ⟨rfl, rfl⟩
          go_wp2_with fail
          go_roundw
          case rel => exact ⟨k + 1, _, q5, d5, hlt, rfl, rfl, HDn.out, Hg5, HD5.out, HF5.out, HZ5.out, HS5.out⟩
          case measure => simp [intOf]; omega
        · rw [show d5.down = true from z3.2 hkn] at hdo
          rw [show ((num : Int) == 14) = true from by rw [beq_iff_eq]; have := z2.2 hkn; omega] at hIs
          obtain rfl : dn = n := by rcases hdn with h | h; omega; exact h.2
          have HI := Lib.hid hIs
          have HO := Lib.hid hdo
          have HDn := Lib.hid (show Dn dn (k + 1) dn from .inr ⟨by omega, rfl⟩)
          generalize errv num = ev at *
          clear hdo hIs z2 z3 hdn
          go_wp2_with fail
          refine (HI.out _).mono ?_
          rintro e w6 ⟨rfl, rfl⟩
          go_wp2_with fail
          refine HO.out.mono ?_
          rintro e w7 ⟨rfl, rfl⟩
          go_wp2_with fail
          go_roundw
          case rel => exact ⟨k + 1, _, q5, d5, hlt, rfl, rfl, HDn.out, Hg5, HD5.out, HF5.out, HZ5.out, HS5.out⟩
          case measure => simp [intOf]; omega
    · have hke : k = s.length := by omega
      subst hke
      have HB := Lib.hid hF.1
      clear hD hF hz hsz hdn
      go_wp2_with fail
      go_ret
      exact ⟨rfl, HB.out⟩
set_option maxRecDepth 100000 in
set_option maxHeartbeats 1000000 in
theorem fuses_early {A : Option Addr} {c : Nat} {s : List DA} {n : Int} (w : World) (h : SlDA w A c s) (hl : dLong s 40 = true ∨ n < 0) :
    Calls Tryd.prog 3 #[.int .i64 n, .slice A s.length c] w fun e w' => e = .returned (.bool true) ∧ Below w.heap.size w w' := by
  have H := Lib.hid h
  have HLg := fun W (hh : SlDA W A c s) => DLong_any W hh 40
  replace HLg := Lib.hid HLg
  clear h
  rcases hlg : dLong s 40 with _ | _
  · rw [hlg] at HLg
    have hn : n < 0 := by rcases hl with h | h; rw [hlg] at h; cases h; exact h
    clear hl hlg
    go_enter Tryd.func3, Tryd.ntmps3
    go_wp2_with fail
    refine (Alive_any _).mono ?_
    rintro e w1 ⟨rfl, hb1⟩
    go_wp2_with fail
    refine (HLg.out _ (H.out.below hb1)).mono ?_
    rintro e w2 ⟨rfl, hb2⟩
    have hb := bel_call hb1 hb2
    go_wp2_with fail
    go_ret
    exact ⟨rfl, hb⟩
  · rw [hlg] at HLg
    clear hl hlg
    go_enter Tryd.func3, Tryd.ntmps3
    go_wp2_with fail
    refine (Alive_any _).mono ?_
    rintro e w1 ⟨rfl, hb1⟩
    go_wp2_with fail
    refine (HLg.out _ (H.out.below hb1)).mono ?_
    rintro e w2 ⟨rfl, hb2⟩
    have hb := bel_call hb1 hb2
    go_wp2_with fail
    go_ret
    exact ⟨rfl, hb⟩
theorem fuses_all {A : Option Addr} {c : Nat} {s : List DA} {n : Int} (w : World) (hn : I64 n) (h : SlDA w A c s) :
    Calls Tryd.prog 3 #[.int .i64 n, .slice A s.length c] w fun e w' => e = .returned (.bool true) ∧ Below w.heap.size w w' := by
  rcases hlg : dLong s 40 with _ | _
  · rcases Int.lt_or_le n 0 with h0 | h0
    · exact fuses_early w h (.inr h0)
    · exact fuses_walk ⟨h0, by unfold I64 at hn; omega⟩ w h hlg
  · exact fuses_early w h (.inl hlg)
end Go.Proofs.YtdmohcmlocliiaaDoor
