/- WHAT IT HOLDS: the document's store: opened; its objects told: walked. | WHAT IT HOLDS: the law DiskPlays, walked. | WHAT IT HOLDS: what a nil store answers, walked. | WHAT IT HOLDS: arguments that are acts of a store, opened to the words of Kit. -/
import Derived.Test.YtnndlmkcckgkhaaGreatDoorStoreOpensG22
import Derived.Test.YtnndlmkcckgkhaaGreatDoorStoreOpensG21
import Derived.Test.YtnndlmkcckgkhaaGreatDoorStoreOpensG14
import Derived.Test.YtnndlmkcckgkhaaGreatDoorStoreOpensG05
namespace Go.Proofs.YtnndlmkcckgkhaaGreatDoor
open Go.RowKit Go.Maps Go.Sort
attribute [local go_sem ↓] Go.wp_at_zero Go.wp_at_succ

/-- texts that lie behind a call's own blocks -/
def TxK (w W : World) (A : Option Addr) (c : Nat) (m : List Bs) : Prop := SlT W A c m ∧ ∀ k, A.map (·.block) = some k → w.heap.size + 2 ≤ k ∧ k < W.heap.size
section
variable {w W W' : World} {A : Option Addr} {c : Nat} {m : List Bs}
theorem TxK.call (h : TxK w W A c m) (hb : Below W.heap.size W W') : TxK w W' A c m := ⟨h.1.below hb, fun k hk => ⟨(h.2 k hk).1, Nat.lt_of_lt_of_le (h.2 k hk).2 hb.size⟩⟩
theorem TxK.st5 (h : TxK w W A c m) (x y z u v : Value) : TxK w (((((W.setCell ⟨w.heap.size, 0, none⟩ x).setCell ⟨w.heap.size, 1, none⟩ y).setCell ⟨w.heap.size, 2, none⟩ z).setCell ⟨w.heap.size, 3, none⟩ u).setCell ⟨w.heap.size, 4, none⟩ v) A c m := by
  have hw : Wr W (((((W.setCell ⟨w.heap.size, 0, none⟩ x).setCell ⟨w.heap.size, 1, none⟩ y).setCell ⟨w.heap.size, 2, none⟩ z).setCell ⟨w.heap.size, 3, none⟩ u).setCell ⟨w.heap.size, 4, none⟩ v) w.heap.size := (((((Wr.refl _ _).set_ 0 _).set_ 1 _).set_ 2 _).set_ 3 _).set_ 4 _
  exact ⟨Sl.sameH h.1 fun k hk => hw.block k (h.2 k hk).2 fun e => by have := (h.2 k hk).1; injection e with e; omega, fun k hk => ⟨(h.2 k hk).1, Nat.lt_of_lt_of_le (h.2 k hk).2 hw.size⟩⟩
end
theorem cell_st5 {W : World} {g b o : Nat} {t : Value} (hne : b ≠ g) (h : W.cell? ⟨b, o, none⟩ = some t) (x y z u v : Value) : (((((W.setCell ⟨g, 0, none⟩ x).setCell ⟨g, 1, none⟩ y).setCell ⟨g, 2, none⟩ z).setCell ⟨g, 3, none⟩ u).setCell ⟨g, 4, none⟩ v).cell? ⟨b, o, none⟩ = some t := by
  have hw : Wr W (((((W.setCell ⟨g, 0, none⟩ x).setCell ⟨g, 1, none⟩ y).setCell ⟨g, 2, none⟩ z).setCell ⟨g, 3, none⟩ u).setCell ⟨g, 4, none⟩ v) g := (((((Wr.refl _ _).set_ 0 _).set_ 1 _).set_ 2 _).set_ 3 _).set_ 4 _
  have hb := hw.block b (World.block_lt_of_cell? _ _ h) (fun e => hne (by injection e))
  rw [← h]
  generalize (((((W.setCell ⟨g, 0, none⟩ x).setCell ⟨g, 1, none⟩ y).setCell ⟨g, 2, none⟩ z).setCell ⟨g, 3, none⟩ u).setCell ⟨g, 4, none⟩ v) = W2 at *
  unfold World.cell?
  rw [hb]
set_option maxRecDepth 100000 in
set_option maxHeartbeats 1000000 in
theorem KSOpen_any {T : Nat → Prop} {A B : Option Addr} {c k : Nat} (d : Dk Bs) (w : World) (hT : ∀ k, w.heap.size ≤ k → T k) (h : Rdk T w d A c B k) (hl : d.sure.length + d.pend.length ≤ 400) (hf : d.fuse ≤ 9223372036854775807) (hn : Nmd d) :
    Calls Tryz.prog 43 #[.agg (rda d A c B k)] w fun e w' => GvK T w w' e (sOpen ([] : Bs) d) := by
  have hsh : d.shown.length ≤ 400 := by have := flen_dos d.sure d.pend; unfold Dk.shown; omega
  have hS := KSt.begin hT h
  have HK := Lib.hid (KNames_any (T := T2 T w.heap.size) d _ hS.R (by omega))
  have HNm := Lib.hid hn.names
  obtain ⟨r0, r1, r2, r3, r4, rf0, rf1, rf2, rf3, rf4⟩ := (hS).mm.b0.fiveC
  obtain ⟨b0, b1, b2, b3, b4, bf0, bf1, bf2, bf3, bf4⟩ := (hS).mm.b1.fiveC
  have HS := Lib.hid hS
  clear h hT hS hn
  cases hd : d.down with
  | true =>
    have hrn : rNames d = ([], 14) := by unfold rNames; rw [if_pos hd]
    have HX := Lib.hid (show sOpen ([] : Bs) d = (d, 14) from by unfold sOpen; rw [if_pos hd])
    rw [hrn] at HK
    dsimp only at HK
    clear hrn hd
    go_enter Tryz.func43, Tryz.ntmps43
    go_wp2_with fail
    refine HK.out.mono ?_
    rintro e w1 ⟨A1, c1, m1, rfl, hm1, ho1, hb1⟩
    have hS1 := HS.out.call hb1
    clear r0 r1 r2 r3 r4 rf0 rf1 rf2 rf3 rf4 b0 b1 b2 b3 b4 bf0 bf1 bf2 bf3 bf4
    clear HK HS hm1 ho1 hb1
    obtain ⟨r0, r1, r2, r3, r4, rf0, rf1, rf2, rf3, rf4⟩ := (hS1).mm.b0.fiveC
    obtain ⟨b0, b1, b2, b3, b4, bf0, bf1, bf2, bf3, bf4⟩ := (hS1).mm.b1.fiveC
    have HS1 := Lib.hid hS1
    clear hS1
    have HO := Lib.hid (HS1.out).out
    have HB := Lib.hid (HS1.out).mm.b0
    go_wp2_with fail
    exact bodyPost_ret (res_k2 rfl rfl (g := w.heap.size + 1) (HB.out.st5 _ _ _ _ _)) rfl (by rw [HX.out]; exact ⟨_, _, _, _, rfl, HO.out.1, HO.out.2⟩)
  | false =>
    have hrn : rNames d = (names d.shown, 0) := by unfold rNames; rw [if_neg (by simp [hd])]
    have HX0 := Lib.hid (show sOpen ([] : Bs) d = if (sSweep ([] : Bs) (names d.shown) d false).2.1 ≠ 0 then ((sSweep ([] : Bs) (names d.shown) d false).1, (sSweep ([] : Bs) (names d.shown) d false).2.1) else if (sSweep ([] : Bs) (names d.shown) d false).2.2 = true then dSync (sSweep ([] : Bs) (names d.shown) d false).1 else ((sSweep ([] : Bs) (names d.shown) d false).1, 0) from by unfold sOpen; rw [if_neg (by simp [hd])])
    rw [hrn] at HK
    dsimp only at HK
    clear hrn hd
    have HF := Lib.hid hf
    have HL := Lib.hid hl
    clear hf hl
    go_enter Tryz.func43, Tryz.ntmps43
    go_wp2_with fail
    refine HK.out.mono ?_
    rintro e w1 ⟨A1, c1, m1, rfl, hm1, ho1, hb1⟩
    have hS1 := HS.out.call hb1
    have hml : m1.length ≤ 400 := by rw [hm1.out]; unfold names; rw [List.length_map]; exact hsh
    have HN1 := Lib.hid (show ∀ x ∈ m1, named x = true from by rw [hm1.out]; exact HNm.out)
    rw [← hm1.out] at HX0
    have hTx : TxK w w1 A1 c1 m1 := ⟨Own.sl ho1, fun j hj => by have := Own.lt ho1 j hj; have h2 := HS.out.mm.b0.lt; omega⟩
    clear r0 r1 r2 r3 r4 rf0 rf1 rf2 rf3 rf4 b0 b1 b2 b3 b4 bf0 bf1 bf2 bf3 bf4
    clear HK HS hm1 ho1 hb1 hsh HNm
    have HS1 := Lib.hid hS1
    have HTx := Lib.hid hTx
    clear hS1 hTx
    go_wp2_with fail
    go_loopw [7, 6, 5] (fun x y z wr => ∃ (i : Nat) (d1 : Dk Bs) (sw : Bool) (A B : Option Addr) (c k n : Nat), i ≤ m1.length ∧ x = .int .i64 i ∧ y = .int .i64 n ∧ z = .int .i64 0 ∧ n ≤ i ∧ (sw = false ↔ n = 0) ∧ Hid (KSt T w wr d1 A c B k) ∧ Hid (TxK w wr A1 c1 m1) ∧ d1.fuse ≤ 9223372036854775807 ∧ d1.sure.length + d1.pend.length ≤ 400 + i ∧ Hid (sSweep ([] : Bs) m1 d false = sSweep ([] : Bs) (m1.drop i) d1 sw)) (fun x _ _ w => m1.length - (intOf x).toNat)
    case atStart => exact ⟨0, d, false, A, B, c, k, 0, Nat.zero_le _, rfl, rfl, rfl, Nat.le_refl _, by simp, HS1, HTx, HF.out, HL.out, Lib.hid rfl⟩
    case round =>
      clear HS1 HTx
      obtain ⟨i, d1, sw, A2, B2, c2, k2, n, hi, rfl, rfl, rfl, hni, hsn, hS, hT, hf1, hl1, hsw⟩ := hrel
      by_cases hlt : i < m1.length
      · have hI : (i : Int) < (m1.length : Int) := by omega
        obtain ⟨ad, b, o, hA, had, hc⟩ := SlT.at1 hT.out.1 hlt
        have hxn := HN1.out _ (List.getElem_mem hlt)
        have hdr : m1.drop i = m1[i] :: m1.drop (i + 1) := List.drop_eq_getElem_cons hlt
        have HSw := Lib.hid (hsw.out.trans (by rw [hdr]; rfl : sSweep ([] : Bs) (m1.drop i) d1 sw = if isBegun m1[i] = true then (if (dRemove ([] : Bs) d1 m1[i]).2 ≠ 0 then ((dRemove ([] : Bs) d1 m1[i]).1, (dRemove ([] : Bs) d1 m1[i]).2, sw) else sSweep ([] : Bs) (m1.drop (i + 1)) (dRemove ([] : Bs) d1 m1[i]).1 true) else sSweep ([] : Bs) (m1.drop (i + 1)) d1 sw))
        clear hsw hdr
        generalize m1[i] = x at *
        obtain ⟨hd0, hbg, hix⟩ := head_ix hxn
        have hxl : x.length ≤ 24 := by
          unfold named at hxn
          simp only [Bool.and_eq_true, decide_eq_true_eq] at hxn
          exact hxn.1.2
        subst hA
        cases hb : isBegun x with
        | false =>
          rw [hb, if_neg (by simp)] at HSw
          have hne : ¬ (hd0.toNat : Int) = 126 := fun e => by
            rw [hbg] at hb
            have : hd0 = 126 := UInt8.toNat_inj.1 (by show hd0.toNat = 126; omega)
            rw [this] at hb
            simp at hb
          have hz : ((hd0.toNat : Int) != 126) = true := by simpa using hne
          generalize (hd0.toNat : Int) = y at *
          clear hbg hb hne
          go_wp2_with fail
          go_roundw
          case rel => exact ⟨i + 1, d1, sw, A2, B2, c2, k2, n, hlt, by go_num, rfl, rfl, by omega, hsn, hS, hT, hf1, by omega, HSw⟩
          case measure => simp [intOf]; omega
        | true =>
          rw [hb, if_pos rfl] at HSw
          have he : hd0 = 126 := by
            rw [hbg] at hb
            have h9 : (126 : UInt8) = hd0 := by simpa using hb
            exact h9.symm
          subst he
          rw [show ((126 : UInt8).toNat : Int) = 126 from rfl] at hix
          clear hbg hb
          have HR := Lib.hid (fun W (hW : KSt T w W d1 A2 c2 B2 k2) => KRemove_any (T := T2 T w.heap.size) d1 x W hW.up2 hW.R (by omega) hf1 (by omega))
          have hop := Opd.remove ([] : Bs) d1 x
          generalize dRemove ([] : Bs) d1 x = r at *
          obtain ⟨d2, n2⟩ := r
          have hf2 := opd_fu hop hf1
          have hl2 := opd_len hop hl1
          dsimp only at hf2 hl2 HSw
          clear hop
          go_upto_region 9 with (fail)
          have hS0 := hS.out.call (Below.drew (Below.refl _ _))
          have hst : (World.drew wr).cell? ⟨b, o, none⟩ = some (.string ⟨x.toArray⟩) ∧ TxK w wr.drew (some ad) c1 m1 := ⟨hc, hT.out.call (Below.drew (Below.refl _ _))⟩
          clear hS hT hc
          have hbo : w.heap.size + 2 ≤ b := by
            have := hst.2.2 ad.block rfl
            have h2 := addr_add_block ad i
            rw [had] at h2
            dsimp only at h2
            omega
          go_cut [5] from 17 to 43 (fun z wz => ∃ (A3 B3 : Option Addr) (c3 k3 : Nat), z = .int .i64 n2 ∧ Hid (KSt T w wz d2 A3 c3 B3 k3) ∧ Hid (TxK w wz (some ad) c1 m1))
          case first =>
            refine wp_region_held_drew (S := (fun W => W.cell? ⟨b, o, none⟩ = some (.string ⟨x.toArray⟩) ∧ TxK w W (some ad) c1 m1)) (by kernel_rfl) ?_ (fun hHeld => ?_)
            · exact hst
            refine gen0 (T := fun W => ((fun W => W.cell? ⟨b, o, none⟩ = some (.string ⟨x.toArray⟩) ∧ TxK w W (some ad) c1 m1)) W ∧ KSt T w W d1 A2 c2 B2 k2 ∧ True) ?_ (fun wq1 hT => ?_)
            · exact ⟨by (first | with_reducible exact hst | with_reducible exact hHeld | exact ⟨(hb7.cell (World.block_lt_of_cell? _ _ hHeld.1)).trans hHeld.1, hHeld.2.call hb7⟩ | exact ⟨cell_st5 (by omega) hHeld.1 _ _ _ _ _, hHeld.2.st5 _ _ _ _ _⟩), by (first | with_reducible assumption | with_reducible exact hS0 | exact f0.call hb7 | exact hR7 | exact f0.next f1 (Below.refl _ _)), trivial⟩
            (try clear f0 f1 f2 f3 f4 f5 f6 f7 f8 f9 f10 f11)
            obtain ⟨hHeld, f0, -⟩ := hT
            refine wpAnyH_take (i := 1) (oi := ⟨some 31, _, _, _, _, _⟩) (v := ?_) rfl (by kernel_rfl) (by kernel_rfl) (by kernel_rfl) (fun _ _ _ h => h) (Or.inl ⟨by kernel_rfl, ?_⟩) (by assumption) ?_
            rotate_left
            · (intro wS hSw; (try dsimp only at hSw); have hc := hSw.1; clear hSw; go_simp; (try with_reducible rfl))
            (try simp only [Act.put, List.setIfInBounds_toArray, List.set_cons_zero, List.set_cons_succ])
            refine wpAnyH_take (i := 2) (oi := ⟨some 32, _, _, _, _, _⟩) (v := ?_) rfl (by kernel_rfl) (by kernel_rfl) (by kernel_rfl) (fun _ _ _ h => h) (Or.inl ⟨by kernel_rfl, ?_⟩) (by assumption) ?_
            rotate_left
            · (intro wS hSw; (try dsimp only at hSw); have hc := hSw.1; clear hSw; go_simp; (try with_reducible rfl))
            (try simp only [Act.put, List.setIfInBounds_toArray, List.set_cons_zero, List.set_cons_succ])
            refine wpAnyH_take (i := 3) (oi := ⟨some 33, _, _, _, _, _⟩) (v := ?_) rfl (by kernel_rfl) (by kernel_rfl) (by kernel_rfl) (fun _ _ _ h => h) (Or.inl ⟨by kernel_rfl, ?_⟩) (by assumption) ?_
            rotate_left
            · (intro wS hSw; (try dsimp only at hSw); have hc := hSw.1; clear hSw; go_simp; (try with_reducible rfl))
            (try simp only [Act.put, List.setIfInBounds_toArray, List.set_cons_zero, List.set_cons_succ])
            refine wpAnyH_take (i := 4) (oi := ⟨some 34, _, _, _, _, _⟩) (v := ?_) rfl (by kernel_rfl) (by kernel_rfl) (by kernel_rfl) (fun _ _ _ h => h) (Or.inl ⟨by kernel_rfl, ?_⟩) (by assumption) ?_
            rotate_left
            · (intro wS hSw; (try dsimp only at hSw); have hc := hSw.1; clear hSw; go_simp; (try with_reducible rfl))
            (try simp only [Act.put, List.setIfInBounds_toArray, List.set_cons_zero, List.set_cons_succ])
            refine wpAnyH_ready (rs := [0]) (by kernel_rfl) (by simp) ?_
            refine AllReadyH.cons (o := ⟨some 30, _, _, _, _, _⟩) rfl (fun K hK => ?_) AllReadyH.nil
            (first | (obtain ⟨r0, r1, r2, r3, r4, rf0, rf1, rf2, rf3, rf4⟩ := f0.mm.b1.fiveC) | skip); go_simp
            refine hK.out _ _ ?_ (fun _ => ?_)
            · ((try dsimp only); (first | with_reducible exact hst | with_reducible exact hHeld | exact ⟨(hb7.cell (World.block_lt_of_cell? _ _ hHeld.1)).trans hHeld.1, hHeld.2.call hb7⟩ | exact ⟨cell_st5 (by omega) hHeld.1 _ _ _ _ _, hHeld.2.st5 _ _ _ _ _⟩))
            clear hK K
            (try simp only [Act.put, List.setIfInBounds_toArray, List.set_cons_zero, List.set_cons_succ])
            refine gen0 (T := fun W => ((fun W => W.cell? ⟨b, o, none⟩ = some (.string ⟨x.toArray⟩) ∧ TxK w W (some ad) c1 m1)) W ∧ KSt T w W d1 A2 c2 B2 k2 ∧ True) ?_ (fun wq2 hT => ?_)
            · exact ⟨by (first | with_reducible exact hst | with_reducible exact hHeld | exact ⟨(hb7.cell (World.block_lt_of_cell? _ _ hHeld.1)).trans hHeld.1, hHeld.2.call hb7⟩ | exact ⟨cell_st5 (by omega) hHeld.1 _ _ _ _ _, hHeld.2.st5 _ _ _ _ _⟩), by (first | with_reducible assumption | with_reducible exact hS0 | exact f0.call hb7 | exact hR7 | exact f0.next f1 (Below.refl _ _)), trivial⟩
            (try clear f0 f1 f2 f3 f4 f5 f6 f7 f8 f9 f10 f11)
            obtain ⟨hHeld, f0, -⟩ := hT
            refine wpAnyH_ready (rs := [5]) (by kernel_rfl) (by simp) ?_
            refine AllReadyH.cons (o := ⟨some 35, _, _, _, _, _⟩) rfl (fun K hK => ?_) AllReadyH.nil
            go_simp
            (refine (HR.out _ f0).mono ?_; rintro e w7 ⟨A3, c3, B3, k3, rfl, hR7, hb7⟩; unfold rda)
            go_wp2_with fail
            refine hK.out _ _ ?_ (fun _ => ?_)
            · ((try dsimp only); (first | with_reducible exact hst | with_reducible exact hHeld | exact ⟨(hb7.cell (World.block_lt_of_cell? _ _ hHeld.1)).trans hHeld.1, hHeld.2.call hb7⟩ | exact ⟨cell_st5 (by omega) hHeld.1 _ _ _ _ _, hHeld.2.st5 _ _ _ _ _⟩))
            clear hK K
            (try simp only [Act.put, List.setIfInBounds_toArray, List.set_cons_zero, List.set_cons_succ])
            refine gen0 (T := fun W => ((fun W => W.cell? ⟨b, o, none⟩ = some (.string ⟨x.toArray⟩) ∧ TxK w W (some ad) c1 m1)) W ∧ KSt T w W d1 A2 c2 B2 k2 ∧ Rdk (T2 T w.heap.size) W d2 A3 c3 B3 k3 ∧ True) ?_ (fun wq3 hT => ?_)
            · exact ⟨by (first | with_reducible exact hst | with_reducible exact hHeld | exact ⟨(hb7.cell (World.block_lt_of_cell? _ _ hHeld.1)).trans hHeld.1, hHeld.2.call hb7⟩ | exact ⟨cell_st5 (by omega) hHeld.1 _ _ _ _ _, hHeld.2.st5 _ _ _ _ _⟩), by (first | with_reducible assumption | with_reducible exact hS0 | exact f0.call hb7 | exact hR7 | exact f0.next f1 (Below.refl _ _)), by (first | with_reducible assumption | with_reducible exact hS0 | exact f0.call hb7 | exact hR7 | exact f0.next f1 (Below.refl _ _)), trivial⟩
            (try clear f0 f1 f2 f3 f4 f5 f6 f7 f8 f9 f10 f11)
            obtain ⟨hHeld, f0, f1, -⟩ := hT
            refine wpAnyH_take (i := 6) (oi := ⟨some 29, _, _, _, _, _⟩) (v := ?_) rfl (by kernel_rfl) (by kernel_rfl) (by kernel_rfl) (fun _ _ _ h => h) (Or.inl ⟨by kernel_rfl, ?_⟩) (by assumption) ?_
            rotate_left
            · (intro wS hSw; (try dsimp only at hSw); have hc := hSw.1; clear hSw; go_simp; (try with_reducible rfl))
            (try simp only [Act.put, List.setIfInBounds_toArray, List.set_cons_zero, List.set_cons_succ])
            refine wpAnyH_take (i := 7) (oi := ⟨some 36, _, _, _, _, _⟩) (v := ?_) rfl (by kernel_rfl) (by kernel_rfl) (by kernel_rfl) (fun _ _ _ h => h) (Or.inl ⟨by kernel_rfl, ?_⟩) (by assumption) ?_
            rotate_left
            · (intro wS hSw; (try dsimp only at hSw); have hc := hSw.1; clear hSw; go_simp; (try with_reducible rfl))
            (try simp only [Act.put, List.setIfInBounds_toArray, List.set_cons_zero, List.set_cons_succ])
            refine wpAnyH_take (i := 8) (oi := ⟨some 37, _, _, _, _, _⟩) (v := ?_) rfl (by kernel_rfl) (by kernel_rfl) (by kernel_rfl) (fun _ _ _ h => h) (Or.inl ⟨by kernel_rfl, ?_⟩) (by assumption) ?_
            rotate_left
            · (intro wS hSw; (try dsimp only at hSw); have hc := hSw.1; clear hSw; go_simp; (try with_reducible rfl))
            (try simp only [Act.put, List.setIfInBounds_toArray, List.set_cons_zero, List.set_cons_succ])
            refine wpAnyH_ready (rs := [9]) (by kernel_rfl) (by simp) ?_
            refine AllReadyH.cons (o := ⟨none, _, _, _, _, _⟩) rfl (fun K hK => ?_) AllReadyH.nil
            obtain ⟨r0, r1, r2, r3, r4, rf0, rf1, rf2, rf3, rf4⟩ := f0.mm.b1.fiveC
            (first | (obtain ⟨r0, r1, r2, r3, r4, rf0, rf1, rf2, rf3, rf4⟩ := f0.mm.b1.fiveC) | skip); go_simp
            refine hK.out _ _ ?_ (fun _ => ?_)
            · ((try dsimp only); (first | with_reducible exact hst | with_reducible exact hHeld | exact ⟨(hb7.cell (World.block_lt_of_cell? _ _ hHeld.1)).trans hHeld.1, hHeld.2.call hb7⟩ | exact ⟨cell_st5 (by omega) hHeld.1 _ _ _ _ _, hHeld.2.st5 _ _ _ _ _⟩))
            clear hK K
            (try simp only [Act.put, List.setIfInBounds_toArray, List.set_cons_zero, List.set_cons_succ])
            refine gen0 (T := fun W => ((fun W => W.cell? ⟨b, o, none⟩ = some (.string ⟨x.toArray⟩) ∧ TxK w W (some ad) c1 m1)) W ∧ KSt T w W d2 A3 c3 B3 k3 ∧ True) ?_ (fun wq4 hT => ?_)
            · exact ⟨by (first | with_reducible exact hst | with_reducible exact hHeld | exact ⟨(hb7.cell (World.block_lt_of_cell? _ _ hHeld.1)).trans hHeld.1, hHeld.2.call hb7⟩ | exact ⟨cell_st5 (by omega) hHeld.1 _ _ _ _ _, hHeld.2.st5 _ _ _ _ _⟩), by (first | with_reducible assumption | with_reducible exact hS0 | exact f0.call hb7 | exact hR7 | exact f0.next f1 (Below.refl _ _)), trivial⟩
            (try clear f0 f1 f2 f3 f4 f5 f6 f7 f8 f9 f10 f11)
            obtain ⟨hHeld, f0, -⟩ := hT
            refine wpAnyH_take (i := 10) (oi := ⟨some 5, _, _, _, _, _⟩) (v := ?_) rfl (by kernel_rfl) (by kernel_rfl) (by kernel_rfl) (fun _ _ _ h => h) (Or.inl ⟨by kernel_rfl, ?_⟩) (by assumption) ?_
            rotate_left
            · (intro wS hSw; (try dsimp only at hSw); have hc := hSw.1; clear hSw; go_simp; (try with_reducible rfl))
            (try simp only [Act.put, List.setIfInBounds_toArray, List.set_cons_zero, List.set_cons_succ])
            refine wpAnyH_done (by kernel_rfl) ?_ _
            have HS3 := Lib.hid f0
            have HT3 := Lib.hid hHeld.2
            clear f0 hHeld hst hS0 HR
            go_wp2_with fail
            go_meet
            exact ⟨A3, B3, c3, k3, rfl, HS3, HT3⟩
          obtain ⟨A3, B3, c3, k3, rfl, HS3, HT3⟩ := hcut
          clear hst hS0 HR
          have hS3 := HS3.out
          obtain ⟨r0, r1, r2, r3, r4, rf0, rf1, rf2, rf3, rf4⟩ := (hS3).mm.b0.fiveC
          obtain ⟨b0, b1, b2, b3, b4, bf0, bf1, bf2, bf3, bf4⟩ := (hS3).mm.b1.fiveC
          clear hS3
          rcases Decidable.em (n2 = 0) with h0 | h0
          · subst h0
            rw [if_neg (by simp)] at HSw
            have e1 := Nat.succ_le_succ hni
            have e3 := Lib.hid (show (true = false ↔ n + 1 = 0) from by simp)
            have e4 : d2.sure.length + d2.pend.length ≤ 400 + (i + 1) := hl2
            clear r0 r1 r2 r3 r4 rf0 rf1 rf2 rf3 rf4 b0 b1 b2 b3 b4 bf0 bf1 bf2 bf3 bf4
            go_wp2_with fail
            go_roundw
            case rel => exact ⟨i + 1, d2, true, A3, B3, c3, k3, n + 1, hlt, rfl, rfl, rfl, e1, e3.out, HS3, HT3, hf2, e4, HSw⟩
            case measure => simp [intOf]; omega
          · have h1 : ¬ (n2 : Int) = 0 := by omega
            have hz : ((n2 : Int) != 0) = true := by simpa using h1
            rw [if_pos h0] at HSw
            have HX := Lib.hid (show sOpen ([] : Bs) d = (d2, n2) from by rw [HX0.out, HSw.out]; dsimp only; rw [if_pos h0])
            clear h1 HSw HX0 h0
            have HO := Lib.hid (HS3.out).out
            have HB := Lib.hid (HS3.out).mm.b0
            go_wp2_with fail
            exact bodyPost_ret (res_k2 rfl rfl (g := w.heap.size + 1) (HB.out.st5 _ _ _ _ _)) rfl (by rw [HX.out]; exact ⟨_, _, _, _, rfl, HO.out.1, HO.out.2⟩)
      · have hI : (m1.length : Int) ≤ (i : Int) := by omega
        have hdr : m1.drop i = [] := List.drop_of_length_le (by omega)
        have HSw := Lib.hid (show sSweep ([] : Bs) m1 d false = (d1, 0, sw) from by rw [hsw.out, hdr]; rfl)
        clear hsw hdr
        have hS1 := hS.out
        obtain ⟨r0, r1, r2, r3, r4, rf0, rf1, rf2, rf3, rf4⟩ := (hS1).mm.b0.fiveC
        obtain ⟨b0, b1, b2, b3, b4, bf0, bf1, bf2, bf3, bf4⟩ := (hS1).mm.b1.fiveC
        unfold rda
        cases sw with
        | false =>
          obtain rfl := hsn.1 rfl
          have HX := Lib.hid (show sOpen ([] : Bs) d = (d1, 0) from by rw [HX0.out, HSw.out]; rfl)
          have HS1 := hS
          clear hS1 hT hS
          have HO := Lib.hid (HS1.out).out
          have HB := Lib.hid (HS1.out).mm.b0
          go_wp2_with fail
          exact bodyPost_ret (res_k2 rfl rfl (g := w.heap.size + 1) (HB.out.st5 _ _ _ _ _)) rfl (by rw [HX.out]; exact ⟨_, _, _, _, rfl, HO.out.1, HO.out.2⟩)
        | true =>
          have hn0 : ¬ (n : Int) = 0 := fun e => by
            have := hsn.2 (by omega)
            cases this
          have hz : ((n : Int) == 0) = false := by simpa using hn0
          have HXX := Lib.hid (show sOpen ([] : Bs) d = dSync d1 from by rw [HX0.out, HSw.out]; rfl)
          have HR := Lib.hid (KSync_any (T := T2 T w.heap.size) d1 wr hS1.up2 hS1.R (by omega) hf1)
          generalize dSync d1 = r at *
          obtain ⟨d2, n2⟩ := r
          have HS1 := hS
          clear hS1 hT hS hn0 hsn HSw HX0
          go_wp2_with fail
          refine HR.out.mono ?_
          clear HR
          rintro e w2 ⟨A2, c2, B2, k2, rfl, hR2, hb2⟩
          dsimp only at hR2 ⊢
          have hS2 := HS1.out.call hb2
          clear r0 r1 r2 r3 r4 rf0 rf1 rf2 rf3 rf4 b0 b1 b2 b3 b4 bf0 bf1 bf2 bf3 bf4
          obtain ⟨r0, r1, r2, r3, r4, rf0, rf1, rf2, rf3, rf4⟩ := (hS2).mm.b0.fiveC
          obtain ⟨b0, b1, b2, b3, b4, bf0, bf1, bf2, bf3, bf4⟩ := (hS2).mm.b1.fiveC
          have HR2 := Lib.hid (hR2.sam ((Sam.refl w.heap.size w2).st5 (.inr rfl) (.int .i64 d2.room) (.slice A2 d2.sure.length c2) (.slice B2 d2.pend.length k2) (.int .i64 d2.fuse) (.bool d2.down)))
          have HB2 := Lib.hid (bel_st5 hS2.mm.bel (g := w.heap.size + 1) (by omega) (.int .i64 d2.room) (.slice A2 d2.sure.length c2) (.slice B2 d2.pend.length k2) (.int .i64 d2.fuse) (.bool d2.down))
          have HBk := Lib.hid hS2.mm.b0
          clear hR2 hb2 hS2 HS1
          unfold rda
          go_wp2_with fail
          exact bodyPost_ret (res_k2 rfl rfl (g := w.heap.size + 1) (HBk.out.st5 _ _ _ _ _)) rfl (by rw [HXX.out]; exact ⟨A2, c2, B2, k2, rfl, HR2.out, HB2.out⟩)
theorem slice_pre (x p : Bs) (h : List.length p ≤ List.length x) (W : World) : (Instr.slice 9 (.string ⟨x.toArray⟩) none (some (.int .i64 p.length)) none).run Tryz.prog W = .ok (.string ⟨(x.take p.length).toArray⟩) W := by
  have hsz : (ByteArray.size ⟨x.toArray⟩) = x.length := by simp [ByteArray.size]
  have hj : 0 ≤ (p.length : Int) ∧ (p.length : Int) ≤ ((ByteArray.size ⟨x.toArray⟩ : Nat) : Int) := by rw [hsz]; omega
  have he : (ByteArray.extract ⟨x.toArray⟩ 0 p.length) = ⟨(x.take p.length).toArray⟩ := by
    apply ByteArray.ext
    simp
  simp [Instr.slice, Instr.sliceBounds, Instr.sliceBound, asIntOf, run_underlying Tryz.underlying9, hj, he]
  intro hc
  omega
theorem pre_take (x p : Bs) (_h : p.length ≤ x.length) : (x.take p.length == p) = Lib.hasPrefix x p := by
  unfold Lib.hasPrefix
  rw [Bool.eq_iff_iff, List.isPrefixOf_iff_prefix, List.prefix_iff_eq_take, beq_iff_eq]
  exact eq_comm
theorem pre_long (x p : Bs) (h : x.length < p.length) : Lib.hasPrefix x p = false := by
  unfold Lib.hasPrefix
  cases hp : p.isPrefixOf x with
  | false => rfl
  | true =>
    have := (List.isPrefixOf_iff_prefix.1 hp).length_le
    omega
set_option maxRecDepth 100000 in
set_option maxHeartbeats 1000000 in
theorem KSList_any {T : Nat → Prop} {A B : Option Addr} {c k : Nat} (d : Dk Bs) (p : Bs) (w : World) (h : Rdk T w d A c B k) (hl : d.sure.length + d.pend.length ≤ 1000) (hn : Nmd d) (_hp : p.length ≤ 4611686018427387904) :
    Calls Tryz.prog 79 #[.agg (rda d A c B k), .string ⟨p.toArray⟩] w fun e w' => ∃ A' c' m, e = .returned (.tuple #[.slice A' (List.length m) c', .int .i64 ((sList d p).2 : Nat)]) ∧ Hid (m = (sList d p).1) ∧ OwnT w' w.heap.size A' c' m ∧ Below w.heap.size w w' := by
  have hb0 := below_new w (.cells (rda d A c B k) 79)
  have hK := KNames_any (T := T) d _ (h.below hb0) (by omega)
  have hsh : d.shown.length ≤ 1000 := by have := flen_dos d.sure d.pend; unfold Dk.shown; omega
  have hNa : ∀ x ∈ (rNames d).1, named x = true := by
    unfold rNames
    split
    · exact fun x hx => by cases hx
    · exact hn.names
  have hNl : (rNames d).1.length ≤ 1000 := by
    unfold rNames
    split
    · simp
    · unfold names; rw [List.length_map]; exact hsh
  have HX := Lib.hid (show sList d p = ((rNames d).1.filter (sPick p), (rNames d).2) from by
    unfold sList rNames
    split
    · rfl
    · rfl)
  obtain ⟨r0, r1, r2, r3, r4, -⟩ := (Blk.new w 79 (rda d A c B k)).fiveC
  have HK := Lib.hid hK
  generalize rNames d = rn at *
  obtain ⟨nl, bad⟩ := rn
  dsimp only at hNa hNl HX HK
  have hszp : (ByteArray.size ⟨p.toArray⟩) = p.length := by simp [ByteArray.size]
  clear hK h hn hsh
  unfold rda at *
  go_enter Tryz.func79, Tryz.ntmps79
  go_wp2_with fail
  refine HK.out.mono ?_
  rintro e w1 ⟨A1, c1, m, rfl, hm, ho, hb1⟩
  obtain rfl := hm.out
  have HN := Lib.hid hNa
  have HT := Lib.hid (show SlT w1 A1 c1 m from Own.sl ho)
  have HO0 := Lib.hid (Own.lit (w := w1) (base := w1.heap.size) (e := 9) 1 (Nat.le_refl _))
  have HB1 := Lib.hid (bel_call hb0 hb1)
  clear HK hm ho hb1 hb0 hNa r0 r1 r2 r3 r4
  go_wp2_with fail
  go_loopw [9, 8] (fun x y wr => ∃ (i : Nat) (B : Option Addr) (k : Nat) (l : List Bs), i ≤ m.length ∧ x = .int .i64 i ∧ y = .slice B l.length k ∧ Hid (l = (m.take i).filter (sPick p)) ∧ OwnT wr w1.heap.size B k l ∧ Below w1.heap.size w1 wr) (fun x _ w => m.length - (intOf x).toNat)
  case atStart => exact ⟨0, _, 0, [], Nat.zero_le _, rfl, rfl, Lib.hid rfl, HO0.out, below_new _ _⟩
  case round =>
    clear HO0
    obtain ⟨i, B, k, l, hi, rfl, rfl, hlm, ho, hbr⟩ := hrel
    have hll : l.length ≤ 1000 := by
      rw [hlm.out]
      have := List.length_filter_le (sPick p) (m.take i)
      rw [List.length_take] at this
      omega
    by_cases hlt : i < m.length
    · have hI : (i : Int) < (m.length : Int) := by omega
      obtain ⟨ad, b, o, hA, had, hc⟩ := SlT.at1 (HT.out.below hbr) hlt
      have hxn := HN.out _ (List.getElem_mem hlt)
      have HF := Lib.hid (show (m.take (i + 1)).filter (sPick p) = (m.take i).filter (sPick p) ++ (if sPick p m[i] = true then [m[i]] else []) from by
        rw [List.take_succ_eq_append_getElem hlt, List.filter_append]
        congr 1
        by_cases h : sPick p m[i] = true
        · rw [if_pos h]; simp [h]
        · rw [if_neg h]; simp [h])
      generalize m[i] = x at *
      have hxl : x.length ≤ 24 := by
        unfold named at hxn
        simp only [Bool.and_eq_true, decide_eq_true_eq] at hxn
        exact hxn.1.2
      have hszx : (ByteArray.size ⟨x.toArray⟩) = x.length := by simp [ByteArray.size]
      subst hA
      have HNm := Lib.hid (fun W => KSNamed_any x W (by omega))
      have HO := Lib.hid ho
      clear ho hxn
      go_wp2_with fail
      refine (HNm.out _).mono ?_
      rintro e w5 ⟨rfl, hb5⟩
      have hb6 := bel_call hbr hb5
      have HO6 := Lib.hid (Own.below HO.out hb5)
      have hc6 := (hb5.cell (World.block_lt_of_cell? _ _ hc)).trans hc
      clear HO
      cases hsn : snamed x with
      | false =>
        rw [show sPick p x = false from by unfold sPick; rw [hsn]; rfl, if_neg (by simp), List.append_nil] at HF
        clear hb5 hc6
        go_wp2_with fail
        go_roundw
        case rel => exact ⟨i + 1, B, k, l, hlt, by go_num, rfl, Lib.hid (by rw [HF.out, hlm.out]), HO6.out, hb6⟩
        case measure => simp [intOf]; omega
      | true =>
        have hpk : sPick p x = Lib.hasPrefix x p := by unfold sPick; rw [hsn]; rfl
        rcases Nat.lt_or_ge x.length p.length with hlp | hlp
        · have hI2 : (x.length : Int) < (p.length : Int) := by omega
          rw [hpk, pre_long x p hlp, if_neg (by simp), List.append_nil] at HF
          clear hb5 hpk hlp
          go_wp2_with fail
          go_roundw
          case rel => exact ⟨i + 1, B, k, l, hlt, by go_num, rfl, Lib.hid (by rw [HF.out, hlm.out]), HO6.out, hb6⟩
          case measure => simp [intOf]; omega
        have hI2 : (p.length : Int) ≤ (x.length : Int) := by omega
        have hsl := slice_pre x p hlp
        have hpt := pre_take x p hlp
        generalize x.take p.length = y at *
        cases hhp : Lib.hasPrefix x p with
        | false =>
          rw [hhp] at hpt
          rw [hpk, hhp, if_neg (by simp), List.append_nil] at HF
          clear hb5 hpk hlp hhp
          go_wp2_with fail
          go_roundw
          case rel => exact ⟨i + 1, B, k, l, hlt, by go_num, rfl, Lib.hid (by rw [HF.out, hlm.out]), HO6.out, hb6⟩
          case measure => simp [intOf]; omega
        | true =>
          rw [hhp] at hpt
          rw [hpk, hhp, if_pos rfl, ← hlm.out] at HF
          have ho7 := HO6.out
          have hbs := hb6.size
          clear hb5 hpk hlp hhp
          go_wp2_with (at_builtin; go_must (refine wpl_tx2 rfl _ _ rfl w1.heap.size B k l rfl ho7 (by omega) x _ rfl rfl hbs ?_); intro A8 c8 m8 w8 hm8 ho8 hg8 hp8)
          have hb8 := bel_grown2 hb6 hbs (fun k hk => (Own.lt ho7 k hk).1) hg8 (Nat.le_refl _)
          go_roundw
          case rel => exact ⟨i + 1, A8, c8, m8, hlt, by go_num, rfl, Lib.hid (by rw [hm8.out, HF.out]), ho8, hb8⟩
          case measure => simp [intOf]; omega
    · have hI : (m.length : Int) ≤ (i : Int) := by omega
      have HM := Lib.hid (show l = (sList d p).1 from by rw [hlm.out, HX.out, List.take_of_length_le (by omega)])
      have HBB := Lib.hid (bel_call HB1.out hbr)
      have HO := Lib.hid (show OwnT wr w.heap.size B k l from Own.more ho HB1.out.size)
      clear ho hbr hlm
      go_wp2_with fail
      go_ret2
      exact ⟨B, k, l, by rw [HX.out]; rfl, HM, HO.out, HBB.out⟩
end Go.Proofs.YtnndlmkcckgkhaaGreatDoor

namespace Go.Proofs.YtnndlmkcckgkhaaGreatDoor
open Go.RowKit Go.Maps Go.Sort
attribute [local go_sem ↓] Go.wp_at_zero Go.wp_at_succ

/-- while a disk and the document's are played on: the document's lies in a block of its own -/
structure PlS (w W : World) (g b : Nat) (i : Nat) (q : Fp) (d : Dk Sv) (A : Option Addr) (c : Nat) (B : Option Addr) (k : Nat) : Prop where
  g : q.g = g
  dsk : Dsk W q d
  fk : Fok d
  fro : Fro w W q
  blk : Blk W b 79 (rda (d.map Sv.l) A c B k)
  blo : w.heap.size ≤ b
  R : Rdk (fun j => ¬ q.M j ∧ j ≠ b) W (d.map Sv.l) A c B k
  ap : ¬ q.M b
  sz : d.sure.length + d.pend.length ≤ i
section
variable {w W W' : World} {g b i : Nat} {q : Fp} {d : Dk Sv} {A B : Option Addr} {c k : Nat}
theorem PlS.call (h : PlS w W g b i q d A c B k) (hb : Below W.heap.size W W') : PlS w W' g b i q d A c B k :=
  ⟨h.g, h.dsk.below hb, h.fk, h.fro.call hb, h.blk.below hb, h.blo, h.R.below hb, h.ap, h.sz⟩
theorem rda_byte (m : Dk Bs) (A B : Option Addr) (c k o : Nat) (x : UInt8) : (rda m A c B k)[o]? ≠ some (bv x) := by
  intro h
  match o with
  | 0 => simp [rda] at h
  | 1 => simp [rda] at h
  | 2 => simp [rda] at h
  | 3 => simp [rda] at h
  | 4 => simp [rda] at h
  | n + 5 => simp [rda] at h
theorem byte_apart {m : Dk Bs} {A' B' : Option Addr} {c' k' : Nat} {l : Bs} {A : Option Addr} {c : Nat} (hB : Blk W b 79 (rda m A' c' B' k')) (h : SlB W A c l) (hne : l ≠ []) : A.map (·.block) ≠ some b := by
  intro e
  obtain ⟨ad, hA, hc⟩ := Sl.at1 (f := bv) (l := l) h (k := 0) (List.length_pos_iff.2 hne)
  subst hA
  have hsp := World.cell?_spot hc
  have hbl : (ad.add 0).block = b := by
    rw [addr_add_block]
    injection e
  have hq : ad.add 0 = ⟨b, (ad.add 0).off, none⟩ := by
    cases h3 : ad.add 0 with
    | mk x y z => rw [h3] at hsp hbl; dsimp only at hsp hbl ⊢; rw [hbl, hsp]
  rw [hq, hB.cell] at hc
  exact rda_byte _ _ _ _ _ _ _ hc
/-- the document's disk, as it is then, is laid into its block -/
theorem PlS.next (h : PlS w W g b i q d A c B k) {q' : Fp} {d' : Dk Sv} {A' B' : Option Addr} {c' k' : Nat} (hg : q'.g = q.g) (hD : Dsk W' q' d') (hf : Fok d') (hF : Frd q W W') (hM : ∀ j, q'.M j → q.M j ∨ W.heap.size ≤ j) (hR : Rdk (fun j => ¬ q'.M j ∧ j ≠ b) W' (d'.map Sv.l) A' c' B' k') (hl : d'.sure.length + d'.pend.length ≤ d.sure.length + d.pend.length + 1) :
    Blk W' b 79 (rda (d.map Sv.l) A c B k) ∧ ∀ W2, Wr W' W2 b → Blk W2 b 79 (rda (d'.map Sv.l) A' c' B' k') → PlS w W2 g b (i + 1) q' d' A' c' B' k' := by
  have hlt := h.blk.lt
  have hap : ¬ q'.M b := fun hq => by
    rcases hM b hq with h1 | h1
    · exact h.ap h1
    · omega
  have hB := (hF.block b hlt h.ap).trans h.blk
  refine ⟨hB, fun W2 hw hB2 => ⟨hg.trans h.g, ?_, hf, ?_, hB2, h.blo, ?_, hap, by have := h.sz; omega⟩⟩
  · refine hD.frame fun j hj => hw.block j (hD.lt hj) fun e => ?_
    injection e with e
    rw [e] at hj
    rcases hj with hj | ⟨s, hs, hne, hA⟩
    · exact hap hj
    · exact byte_apart hB (hD.rd s hs) hne hA
  · have h1 := h.fro.frd hF hM
    have h2 := h.blo
    exact ⟨h1.1.trans (hw.below h1.1.size h2), h1.2⟩
  · exact hR.sameH (fun _ _ ht => ht) hw.size fun j hj ht => hw.block j hj fun e => ht.2 (by injection e)
end
end Go.Proofs.YtnndlmkcckgkhaaGreatDoor

namespace Go.Proofs.YtnndlmkcckgkhaaGreatDoor
open Go.RowKit Go.Maps Go.Sort
attribute [local go_sem ↓] Go.wp_at_zero Go.wp_at_succ

abbrev e4 : Value := .iface 68 (.int .i64 4)
set_option maxRecDepth 100000 in
theorem NAsks_any (n : Bs) (w : World) : Calls Tryz.prog 82 #[.pointer none, .string ⟨n.toArray⟩] w fun e w' => e = .returned e4 ∧ w' = w := by
  go_enter Tryz.func82, Tryz.ntmps82
  go_wp2_with fail
  go_ret
  exact ⟨rfl, rfl⟩
set_option maxRecDepth 100000 in
theorem NGet_any (n : Bs) (w : World) : Calls Tryz.prog 35 #[.pointer none, .string ⟨n.toArray⟩] w fun e w' => e = .returned (.tuple #[.slice none 0 0, e4]) ∧ w' = w := by
  go_enter Tryz.func35, Tryz.ntmps35
  go_wp2_with fail
  refine (NAsks_any n w).mono ?_
  rintro e w1 ⟨rfl, rfl⟩
  go_wp2_with fail
  go_ret2
  exact ⟨rfl, rfl⟩
set_option maxRecDepth 100000 in
theorem NPut_any (n : Bs) (w : World) : Calls Tryz.prog 37 #[.pointer none, .string ⟨n.toArray⟩, .slice none 0 0] w fun e w' => e = .returned e4 ∧ w' = w := by
  go_enter Tryz.func37, Tryz.ntmps37
  go_wp2_with fail
  refine (NAsks_any n w).mono ?_
  rintro e w1 ⟨rfl, rfl⟩
  go_wp2_with fail
  go_ret
  exact ⟨rfl, rfl⟩
set_option maxRecDepth 100000 in
theorem NDelete_any (n : Bs) (w : World) : Calls Tryz.prog 38 #[.pointer none, .string ⟨n.toArray⟩] w fun e w' => e = .returned e4 ∧ w' = w := by
  go_enter Tryz.func38, Tryz.ntmps38
  go_wp2_with fail
  refine (NAsks_any n w).mono ?_
  rintro e w1 ⟨rfl, rfl⟩
  go_wp2_with fail
  go_ret
  exact ⟨rfl, rfl⟩
set_option maxRecDepth 100000 in
theorem NListS_any (n : Bs) (w : World) : Calls Tryz.prog 36 #[.pointer none, .string ⟨n.toArray⟩] w fun e w' => e = .returned (.tuple #[.slice none 0 0, e4]) ∧ w' = w := by
  go_enter Tryz.func36, Tryz.ntmps36
  go_wp2_with fail
  go_ret2
  exact ⟨rfl, rfl⟩
set_option maxRecDepth 100000 in
theorem NHas_any (n : Bs) (w : World) : Calls Tryz.prog 39 #[.pointer none, .string ⟨n.toArray⟩] w fun e w' => e = .returned (.bool false) ∧ w' = w := by
  go_enter Tryz.func39, Tryz.ntmps39
  go_wp2_with fail
  refine (NGet_any n w).mono ?_
  rintro e w1 ⟨rfl, rfl⟩
  go_wp2_with fail
  go_ret
  exact ⟨rfl, rfl⟩
set_option maxRecDepth 100000 in
theorem NDiskS_any (w : World) : Calls Tryz.prog 32 #[.pointer none] w fun e w' => e = .returned (.pointer none) ∧ w' = w := by
  go_enter Tryz.func32, Tryz.ntmps32
  go_wp2_with fail
  go_ret
  exact ⟨rfl, rfl⟩
set_option maxRecDepth 100000 in
theorem NOpen_any (w : World) : Calls Tryz.prog 31 #[.pointer none] w fun e w' => e = .returned (.tuple #[.pointer none, e4]) ∧ w' = w := by
  go_enter Tryz.func31, Tryz.ntmps31
  go_wp2_with fail
  go_ret2
  exact ⟨rfl, rfl⟩
end Go.Proofs.YtnndlmkcckgkhaaGreatDoor

namespace Go.Proofs.YtnndlmkcckgkhaaGreatDoor
open Go.ChangeShapes Go.WideShapes Go.ChangeAt Go.RowKit Go.Deep

/-- an act on a store: its kind, its name, its bytes, an act on its disk, what is kept -/
structure SA where
  k : Int
  n : List UInt8
  A : Option Addr
  c : Nat
  l : List UInt8
  d : DA
  B : Option Addr
  kc : Nat
  ks : List Bool
def sac (a : SA) : List Value := [.int .i64 a.k, .string ⟨a.n.toArray⟩, .slice a.A a.l.length a.c, .int .i64 a.d.k, .string ⟨a.d.n.toArray⟩, .string ⟨a.d.t.toArray⟩, .slice a.d.A a.d.l.length a.d.c, .int .i64 a.d.f, .slice a.d.B a.d.ks.length a.d.kc, .slice a.B a.ks.length a.kc]
theorem sac_len (a : SA) : (sac a).length = 10 := rfl
def SAok (w : World) (a : SA) : Prop := SlB w a.A a.c a.l ∧ SlZ w a.B a.kc a.ks ∧ DAok w a.d ∧ I64 a.k ∧ a.n.length ≤ maxLen
def SlSA (w : World) (A : Option Addr) (c : Nat) (s : List SA) : Prop := Sl w 10 A s.length c (s.flatMap sac) ∧ ∀ a ∈ s, SAok w a
theorem SAok.below {w w' : World} {a : SA} (h : SAok w a) (hb : Below w.heap.size w w') : SAok w' a := ⟨Sl.below h.1 hb, Sl.below h.2.1 hb, h.2.2.1.below hb, h.2.2.2⟩
theorem SlSA.below {w w' : World} {A : Option Addr} {c : Nat} {s : List SA} (h : SlSA w A c s) (hb : Below w.heap.size w w') : SlSA w' A c s := ⟨h.1.below hb, fun a ha => (h.2 a ha).below hb⟩
section
variable {H : Type} {enc : TypeId × Value → H} {P : Program} {w : World} {base b0 : Nat} {held : Bool} {r : Reach} {t e b z u : TypeId} {v : Value} {d : DataW H} {p : List MemPlace}
/-- a slice of elements of so many cells -/
theorem open_sliceH {T : Type} (f : T → List Value) (Q : T → Prop) {k : Nat} (hfl : ∀ x, (f x).length = k) (hk : 0 < k) (ht : P.underlying t = some (.slice e)) (hC : P.cellsOf e = k)
    (hel : ∀ (cs' : List Value) (n : Nat) (y : DataW H × List MemPlace), DataW.trod enc P w base (fun _ => true) held n e cs' = some y → ∃ x : T, f x = cs' ∧ Q x)
    {fuel : Nat} {yy : DataW H × List MemPlace} (hf : DataW.trod enc P w base (fun _ => true) held fuel t [v] = some yy) :
    ∃ (A : Option Addr) (c : Nat) (l : List T), v = .slice A l.length c ∧ Sl w k A l.length c (l.flatMap f) ∧ ∀ x ∈ l, Q x := by
  rcases open_slice ht hf with ⟨hcs, _⟩ | ⟨a, n, c, m, nn, D, Pl, hcs, _, hl, hm, hmm, _, hi⟩
  · simp at hcs
    subst hcs
    exact ⟨none, 0, [], rfl, by simpa using Sl.none_ w k, fun x hx => by simp at hx⟩
  · simp at hcs
    subst hcs
    simp only [if_true] at hmm
    subst hmm
    have hx : ∀ i, i < n → ∃ x : T, Q x ∧ ∀ j u, (f x)[j]? = some u → w.cell? (a.add (i * k + j)) = some u := by
      intro i hin
      obtain ⟨cs', hc, ht'⟩ := hi i (by omega)
      rw [hC] at hc
      obtain ⟨_, hcl, hat⟩ := World.cells?_some hc
      obtain ⟨x, hxe, hxq⟩ := hel cs' nn _ ht'
      refine ⟨x, hxq, fun j u hj => ?_⟩
      have hjk : j < k := by rw [← hfl x]; exact (List.getElem?_eq_some_iff.1 hj).1
      rw [hxe] at hj
      rw [← Go.Deep.add_add, hat j hjk, hj]
    obtain ⟨l, hll, hlr⟩ := list_choice _ n hx
    refine ⟨some a, _, l, by rw [hll], ⟨flat_len hfl l, by omega, hm, (fun h => by cases h), fun j u hj => ⟨a, rfl, ?_⟩⟩, fun x hx => ?_⟩
    · have hjl := (List.getElem?_eq_some_iff.1 hj).1
      rw [flat_len hfl] at hjl
      have hkk : j / k < l.length := by rw [Nat.div_lt_iff_lt_mul hk]; exact hjl
      have hr : j % k < k := Nat.mod_lt _ hk
      have he := flat_get hfl l (j / k) (j % k) hkk hr
      have hj2 : j / k * k + j % k = j := by rw [Nat.mul_comm]; exact Nat.div_add_mod _ _
      rw [hj2, hj] at he
      have := (hlr _ hkk).2 _ _ he.symm
      rwa [hj2] at this
    · obtain ⟨i, hi, rfl⟩ := List.getElem_of_mem hx
      exact (hlr i hi).1
/-- an act on a disk inside of another struct -/
theorem open_da {f0 f1 f2 f3 f4 f5 : Field} (hs : P.underlying t = some (.struct #[f0, f1, f2, f3, f4, f5])) (h0 : P.underlying f0.type = some (.int .i64)) (h1 : P.underlying f1.type = some .string) (h2 : P.underlying f2.type = some .string) (h3 : P.underlying f3.type = some (.slice e)) (h4 : P.underlying f4.type = some (.int .i64)) (h5 : P.underlying f5.type = some (.slice z))
    (he : P.underlying e = some (.int .u8)) (hz : P.underlying z = some .bool) (hCe : P.cellsOf e = 1) (hCz : P.cellsOf z = 1) (hone : oneCellFields P #[f0, f1, f2, f3, f4, f5] = true) (hC : P.cellsOf t = 6)
    (cs : List Value) (fuel : Nat) (y : DataW H × List MemPlace) (h : DataW.trod enc P w base (fun _ => true) held fuel t cs = some y) : ∃ a : DA, dac a = cs ∧ DAok w a := by
  obtain ⟨xs, n, _, _, hl, hxl, hf⟩ := DataW.trod_struct hs h
  rw [hC] at hl
  have q0 := hf 0 f0 rfl
  have q1 := hf 1 f1 rfl
  have q2 := hf 2 f2 rfl
  have q3 := hf 3 f3 rfl
  have q4 := hf 4 f4 rfl
  have q5 := hf 5 f5 rfl
  obtain ⟨o0, k0⟩ := hone_of hone 0 f0 rfl
  obtain ⟨o1, k1⟩ := hone_of hone 1 f1 rfl
  obtain ⟨o2, k2⟩ := hone_of hone 2 f2 rfl
  obtain ⟨o3, k3⟩ := hone_of hone 3 f3 rfl
  obtain ⟨o4, k4⟩ := hone_of hone 4 f4 rfl
  obtain ⟨o5, k5⟩ := hone_of hone 5 f5 rfl
  have hxl6 : xs.length = 6 := hxl
  rw [List.getElem?_eq_getElem (by omega)] at q0 q1 q2 q3 q4 q5
  match cs, hl with
  | [c0, c1, c2, c3, c4, c5], _ =>
    simp only [o0, k0, List.drop_zero, List.take_succ_cons, List.take_zero] at q0
    simp only [o1, k1, List.drop_succ_cons, List.drop_zero, List.take_succ_cons, List.take_zero] at q1
    simp only [o2, k2, List.drop_succ_cons, List.drop_zero, List.take_succ_cons, List.take_zero] at q2
    simp only [o3, k3, List.drop_succ_cons, List.drop_zero, List.take_succ_cons, List.take_zero] at q3
    simp only [o4, k4, List.drop_succ_cons, List.drop_zero, List.take_succ_cons, List.take_zero] at q4
    simp only [o5, k5, List.drop_succ_cons, List.drop_zero, List.take_succ_cons, List.take_zero] at q5
    obtain ⟨k, rfl, hk⟩ := int_cell h0 q0
    obtain ⟨nm, rfl, hn⟩ := string_cell h1 q1
    obtain ⟨tw, rfl, ht⟩ := string_cell h2 q2
    obtain ⟨A, c, l, rfl, hb⟩ := bytes_cellD h3 he hCe q3
    obtain ⟨f, rfl, hfi⟩ := int_cell h4 q4
    obtain ⟨B, kc, ks, rfl, hks⟩ := bools_cell h5 hz hCz q5
    exact ⟨⟨k, nm, tw, A, c, l, f, B, kc, ks⟩, rfl, hb, hks, hk, hfi, hn, ht⟩
/-- an act on a store -/
theorem open_sa {g0 g1 g2 g3 g4 f0 f1 f2 f3 f4 f5 : Field} (hg : P.underlying t = some (.struct #[g0, g1, g2, g3, g4])) (i0 : P.underlying g0.type = some (.int .i64)) (i1 : P.underlying g1.type = some .string) (i2 : P.underlying g2.type = some (.slice e)) (hs : P.underlying g3.type = some (.struct #[f0, f1, f2, f3, f4, f5])) (i4 : P.underlying g4.type = some (.slice z))
    (h0 : P.underlying f0.type = some (.int .i64)) (h1 : P.underlying f1.type = some .string) (h2 : P.underlying f2.type = some .string) (h3 : P.underlying f3.type = some (.slice e)) (h4 : P.underlying f4.type = some (.int .i64)) (h5 : P.underlying f5.type = some (.slice z))
    (he : P.underlying e = some (.int .u8)) (hz : P.underlying z = some .bool) (hCe : P.cellsOf e = 1) (hCz : P.cellsOf z = 1) (hone : oneCellFields P #[f0, f1, f2, f3, f4, f5] = true) (hC3 : P.cellsOf g3.type = 6) (hC : P.cellsOf t = 10)
    (o0 : g0.offset = 0) (o1 : g1.offset = 1) (o2 : g2.offset = 2) (o3 : g3.offset = 3) (o4 : g4.offset = 9) (k0 : P.cellsOf g0.type = 1) (k1 : P.cellsOf g1.type = 1) (k2 : P.cellsOf g2.type = 1) (k4 : P.cellsOf g4.type = 1)
    (cs : List Value) (fuel : Nat) (y : DataW H × List MemPlace) (h : DataW.trod enc P w base (fun _ => true) held fuel t cs = some y) : ∃ a : SA, sac a = cs ∧ SAok w a := by
  obtain ⟨xs, n, _, _, hl, hxl, hf⟩ := DataW.trod_struct hg h
  rw [hC] at hl
  have q0 := hf 0 g0 rfl
  have q1 := hf 1 g1 rfl
  have q2 := hf 2 g2 rfl
  have q3 := hf 3 g3 rfl
  have q4 := hf 4 g4 rfl
  have hxl6 : xs.length = 5 := hxl
  rw [List.getElem?_eq_getElem (by omega)] at q0 q1 q2 q3 q4
  match cs, hl with
  | [c0, c1, c2, c3, c4, c5, c6, c7, c8, c9], _ =>
    simp only [o0, k0, List.drop_zero, List.take_succ_cons, List.take_zero] at q0
    simp only [o1, k1, List.drop_succ_cons, List.drop_zero, List.take_succ_cons, List.take_zero] at q1
    simp only [o2, k2, List.drop_succ_cons, List.drop_zero, List.take_succ_cons, List.take_zero] at q2
    simp only [o3, hC3, List.drop_succ_cons, List.drop_zero, List.take_succ_cons, List.take_zero] at q3
    simp only [o4, k4, List.drop_succ_cons, List.drop_zero, List.take_succ_cons, List.take_zero] at q4
    obtain ⟨k, rfl, hk⟩ := int_cell i0 q0
    obtain ⟨nm, rfl, hn⟩ := string_cell i1 q1
    obtain ⟨A, c, l, rfl, hb⟩ := bytes_cellD i2 he hCe q2
    obtain ⟨da, hda, hok⟩ := open_da hs h0 h1 h2 h3 h4 h5 he hz hCe hCz hone hC3 _ _ _ q3
    obtain ⟨B, kc, ks, rfl, hks⟩ := bools_cell i4 hz hCz q4
    refine ⟨⟨k, nm, A, c, l, da, B, kc, ks⟩, ?_, hb, hks, hok, hk, hn⟩
    show [_, _, _] ++ dac da ++ [_] = _
    rw [hda]
    rfl
theorem open_sacts {g0 g1 g2 g3 g4 f0 f1 f2 f3 f4 f5 : Field} (ht : P.underlying u = some (.slice t)) (hg : P.underlying t = some (.struct #[g0, g1, g2, g3, g4])) (i0 : P.underlying g0.type = some (.int .i64)) (i1 : P.underlying g1.type = some .string) (i2 : P.underlying g2.type = some (.slice e)) (hs : P.underlying g3.type = some (.struct #[f0, f1, f2, f3, f4, f5])) (i4 : P.underlying g4.type = some (.slice z))
    (h0 : P.underlying f0.type = some (.int .i64)) (h1 : P.underlying f1.type = some .string) (h2 : P.underlying f2.type = some .string) (h3 : P.underlying f3.type = some (.slice e)) (h4 : P.underlying f4.type = some (.int .i64)) (h5 : P.underlying f5.type = some (.slice z))
    (he : P.underlying e = some (.int .u8)) (hz : P.underlying z = some .bool) (hCe : P.cellsOf e = 1) (hCz : P.cellsOf z = 1) (hone : oneCellFields P #[f0, f1, f2, f3, f4, f5] = true) (hC3 : P.cellsOf g3.type = 6) (hC : P.cellsOf t = 10)
    (o0 : g0.offset = 0) (o1 : g1.offset = 1) (o2 : g2.offset = 2) (o3 : g3.offset = 3) (o4 : g4.offset = 9) (k0 : P.cellsOf g0.type = 1) (k1 : P.cellsOf g1.type = 1) (k2 : P.cellsOf g2.type = 1) (k4 : P.cellsOf g4.type = 1)
    (hv : Value.okWide P w r b0 u v) (h : DataW.Trod enc P w base (fun _ => true) held u v d p) :
    ∃ (A : Option Addr) (c : Nat) (l : List SA), v = .slice A l.length c ∧ SlSA w A c l := by
  obtain ⟨A0, n0, c0, rfl⟩ := okWide_slice ht hv
  obtain ⟨fuel, hf⟩ := h
  obtain ⟨A, c, l, hvv, hl, hq⟩ := open_sliceH sac (SAok w) sac_len (by decide) ht hC (fun cs' nn y hy => open_sa hg i0 i1 i2 hs i4 h0 h1 h2 h3 h4 h5 he hz hCe hCz hone hC3 hC o0 o1 o2 o3 o4 k0 k1 k2 k4 cs' nn y hy) hf
  exact ⟨A, c, l, hvv, hl, hq⟩
end
end Go.Proofs.YtnndlmkcckgkhaaGreatDoor
