/- WHAT IT HOLDS: the document's store: opened; its objects told: walked. | WHAT IT HOLDS: a store's acts and the maps of values, plainly: they go past one another. | WHAT IT HOLDS: the document's register in memory; opened: walked. | WHAT IT HOLDS: the document's register opened: walked. -/
import Derived.Test.YtddmfoldnlafaaaGreatDoorRegisterPlaysG24
import Derived.Test.YtddmfoldnlafaaaGreatDoorRegisterPlaysG11
import Derived.Test.YtddmfoldnlafaaaGreatDoorRegisterPlaysG21
import Derived.Test.YtddmfoldnlafaaaGreatDoorRegisterPlaysG16
namespace Go.Proofs.YtddmfoldnlafaaaGreatDoor
open Go.RowKit Go.Maps Go.Sort
attribute [local go_sem ↓] Go.wp_at_zero Go.wp_at_succ

/-- texts that lie behind a call's own blocks -/
def TxK (w W : World) (A : Option Addr) (c : Nat) (m : List Bs) : Prop := SlT W A c m ∧ ∀ k, A.map (·.block) = some k → w.heap.size + 2 ≤ k ∧ k < W.heap.size
section
variable {w W W' : World} {A : Option Addr} {c : Nat} {m : List Bs}
theorem TxK.call (h : TxK w W A c m) (hb : Below W.heap.size W W') : TxK w W' A c m := ⟨h.1.below hb, fun k hk => ⟨(h.2 k hk).1, Nat.lt_of_lt_of_le (h.2 k hk).2 hb.size⟩⟩
theorem TxK.st5 (h : TxK w W A c m) (x y z u v : Value) : TxK w (((((W.setCell ⟨w.heap.size, 0, none⟩ x).setCell ⟨w.heap.size, 1, none⟩ y).setCell ⟨w.heap.size, 2, none⟩ z).setCell ⟨w.heap.size, 3, none⟩ u).setCell ⟨w.heap.size, 4, none⟩ v) A c m := by
  have hw : Wr W (((((W.setCell ⟨w.heap.size, 0, none⟩ x).setCell ⟨w.heap.size, 1, none⟩ y).setCell ⟨w.heap.size, 2, none⟩ z).setCell ⟨w.heap.size, 3, none⟩ u).setCell ⟨w.heap.size, 4, none⟩ v) w.heap.size := (((((Wr.refl _ _).set_ 0 _).set_ 1 _).set_ 2 _).set_ 3 _).set_ 4 _
  exact ⟨Sl.sameH h.1 fun k hk => hw.block k (h.2 k hk).2 fun e => by have := (h.2 k hk).1; injection e with e; omega, fun k hk => ⟨(h.2 k hk).1, Nat.lt_of_lt_of_le (h.2 k hk).2 hw.size⟩⟩
end
theorem cell_st5 {W : World} {g b o : Nat} {t : Value} (hne : b ≠ g) (h : W.cell? ⟨b, o, none⟩ = some t) (x y z u v : Value) : (((((W.setCell ⟨g, 0, none⟩ x).setCell ⟨g, 1, none⟩ y).setCell ⟨g, 2, none⟩ z).setCell ⟨g, 3, none⟩ u).setCell ⟨g, 4, none⟩ v).cell? ⟨b, o, none⟩ = some t := by
  have hw : Wr W (((((W.setCell ⟨g, 0, none⟩ x).setCell ⟨g, 1, none⟩ y).setCell ⟨g, 2, none⟩ z).setCell ⟨g, 3, none⟩ u).setCell ⟨g, 4, none⟩ v) g := (((((Wr.refl _ _).set_ 0 _).set_ 1 _).set_ 2 _).set_ 3 _).set_ 4 _
  have hb := hw.block b (World.block_lt_of_cell? _ _ h) (fun e => hne (by injection e))
  rw [← h]
  generalize (((((W.setCell ⟨g, 0, none⟩ x).setCell ⟨g, 1, none⟩ y).setCell ⟨g, 2, none⟩ z).setCell ⟨g, 3, none⟩ u).setCell ⟨g, 4, none⟩ v) = W2 at *
  unfold World.cell?
  rw [hb]
set_option maxRecDepth 100000 in
set_option maxHeartbeats 1000000 in
theorem KSOpen_any {T : Nat → Prop} {A B : Option Addr} {c k : Nat} (d : Dk Bs) (w : World) (hT : ∀ k, w.heap.size ≤ k → T k) (h : Rdk T w d A c B k) (hl : d.sure.length + d.pend.length ≤ 400) (hf : d.fuse ≤ 9223372036854775807) (hn : Nmd d) :
    Calls Tryz.prog 32 #[.agg (rda d A c B k)] w fun e w' => GvK T w w' e (sOpen ([] : Bs) d) := by
  have hsh : d.shown.length ≤ 400 := by have := flen_dos d.sure d.pend; unfold Dk.shown; omega
  have hS := KSt.begin hT h
  have HK := Lib.hid (KNames_any (T := T2 T w.heap.size) d _ hS.R (by omega))
  have HNm := Lib.hid hn.names
  obtain ⟨r0, r1, r2, r3, r4, rf0, rf1, rf2, rf3, rf4⟩ := (hS).mm.b0.fiveC
  obtain ⟨b0, b1, b2, b3, b4, bf0, bf1, bf2, bf3, bf4⟩ := (hS).mm.b1.fiveC
  have HS := Lib.hid hS
  clear h hT hS hn
  cases hd : d.down with
  | true =>
    have hrn : rNames d = ([], 14) := by unfold rNames; rw [if_pos hd]
    have HX := Lib.hid (show sOpen ([] : Bs) d = (d, 14) from by unfold sOpen; rw [if_pos hd])
    rw [hrn] at HK
    dsimp only at HK
    clear hrn hd
    go_enter Tryz.func32, Tryz.ntmps32
    go_wp2_with fail
    refine HK.out.mono ?_
    rintro e w1 ⟨A1, c1, m1, rfl, hm1, ho1, hb1⟩
    have hS1 := HS.out.call hb1
    clear r0 r1 r2 r3 r4 rf0 rf1 rf2 rf3 rf4 b0 b1 b2 b3 b4 bf0 bf1 bf2 bf3 bf4
    clear HK HS hm1 ho1 hb1
    obtain ⟨r0, r1, r2, r3, r4, rf0, rf1, rf2, rf3, rf4⟩ := (hS1).mm.b0.fiveC
    obtain ⟨b0, b1, b2, b3, b4, bf0, bf1, bf2, bf3, bf4⟩ := (hS1).mm.b1.fiveC
    have HS1 := Lib.hid hS1
    clear hS1
    have HO := Lib.hid (HS1.out).out
    have HB := Lib.hid (HS1.out).mm.b0
    go_wp2_with fail
    exact bodyPost_ret (res_k2 rfl rfl (g := w.heap.size + 1) (HB.out.st5 _ _ _ _ _)) rfl (by rw [HX.out]; exact ⟨_, _, _, _, rfl, HO.out.1, HO.out.2⟩)
  | false =>
    have hrn : rNames d = (names d.shown, 0) := by unfold rNames; rw [if_neg (by simp [hd])]
    have HX0 := Lib.hid (show sOpen ([] : Bs) d = if (sSweep ([] : Bs) (names d.shown) d false).2.1 ≠ 0 then ((sSweep ([] : Bs) (names d.shown) d false).1, (sSweep ([] : Bs) (names d.shown) d false).2.1) else if (sSweep ([] : Bs) (names d.shown) d false).2.2 = true then dSync (sSweep ([] : Bs) (names d.shown) d false).1 else ((sSweep ([] : Bs) (names d.shown) d false).1, 0) from by unfold sOpen; rw [if_neg (by simp [hd])])
    rw [hrn] at HK
    dsimp only at HK
    clear hrn hd
    have HF := Lib.hid hf
    have HL := Lib.hid hl
    clear hf hl
    go_enter Tryz.func32, Tryz.ntmps32
    go_wp2_with fail
    refine HK.out.mono ?_
    rintro e w1 ⟨A1, c1, m1, rfl, hm1, ho1, hb1⟩
    have hS1 := HS.out.call hb1
    have hml : m1.length ≤ 400 := by rw [hm1.out]; unfold names; rw [List.length_map]; exact hsh
    have HN1 := Lib.hid (show ∀ x ∈ m1, named x = true from by rw [hm1.out]; exact HNm.out)
    rw [← hm1.out] at HX0
    have hTx : TxK w w1 A1 c1 m1 := ⟨Own.sl ho1, fun j hj => by have := Own.lt ho1 j hj; have h2 := HS.out.mm.b0.lt; omega⟩
    clear r0 r1 r2 r3 r4 rf0 rf1 rf2 rf3 rf4 b0 b1 b2 b3 b4 bf0 bf1 bf2 bf3 bf4
    clear HK HS hm1 ho1 hb1 hsh HNm
    have HS1 := Lib.hid hS1
    have HTx := Lib.hid hTx
    clear hS1 hTx
    go_wp2_with fail
    go_loopw [7, 6, 5] (fun x y z wr => ∃ (i : Nat) (d1 : Dk Bs) (sw : Bool) (A B : Option Addr) (c k n : Nat), i ≤ m1.length ∧ x = .int .i64 i ∧ y = .int .i64 n ∧ z = .int .i64 0 ∧ n ≤ i ∧ (sw = false ↔ n = 0) ∧ Hid (KSt T w wr d1 A c B k) ∧ Hid (TxK w wr A1 c1 m1) ∧ d1.fuse ≤ 9223372036854775807 ∧ d1.sure.length + d1.pend.length ≤ 400 + i ∧ Hid (sSweep ([] : Bs) m1 d false = sSweep ([] : Bs) (m1.drop i) d1 sw)) (fun x _ _ w => m1.length - (intOf x).toNat)
    case atStart => exact ⟨0, d, false, A, B, c, k, 0, Nat.zero_le _, rfl, rfl, rfl, Nat.le_refl _, by simp, HS1, HTx, HF.out, HL.out, Lib.hid rfl⟩
    case round =>
      clear HS1 HTx
      obtain ⟨i, d1, sw, A2, B2, c2, k2, n, hi, rfl, rfl, rfl, hni, hsn, hS, hT, hf1, hl1, hsw⟩ := hrel
      by_cases hlt : i < m1.length
      · have hI : (i : Int) < (m1.length : Int) := by omega
        obtain ⟨ad, b, o, hA, had, hc⟩ := SlT.at1 hT.out.1 hlt
        have hxn := HN1.out _ (List.getElem_mem hlt)
        have hdr : m1.drop i = m1[i] :: m1.drop (i + 1) := List.drop_eq_getElem_cons hlt
        have HSw := Lib.hid (hsw.out.trans (by rw [hdr]; rfl : sSweep ([] : Bs) (m1.drop i) d1 sw = if isBegun m1[i] = true then (if (dRemove ([] : Bs) d1 m1[i]).2 ≠ 0 then ((dRemove ([] : Bs) d1 m1[i]).1, (dRemove ([] : Bs) d1 m1[i]).2, sw) else sSweep ([] : Bs) (m1.drop (i + 1)) (dRemove ([] : Bs) d1 m1[i]).1 true) else sSweep ([] : Bs) (m1.drop (i + 1)) d1 sw))
        clear hsw hdr
        generalize m1[i] = x at *
        obtain ⟨hd0, hbg, hix⟩ := head_ix hxn
        have hxl : x.length ≤ 24 := by
          unfold named at hxn
          simp only [Bool.and_eq_true, decide_eq_true_eq] at hxn
          exact hxn.1.2
        subst hA
        cases hb : isBegun x with
        | false =>
          rw [hb, if_neg (by simp)] at HSw
          have hne : ¬ (hd0.toNat : Int) = 126 := fun e => by
            rw [hbg] at hb
            have : hd0 = 126 := UInt8.toNat_inj.1 (by show hd0.toNat = 126; omega)
            rw [this] at hb
            simp at hb
          have hz : ((hd0.toNat : Int) != 126) = true := by simpa using hne
          generalize (hd0.toNat : Int) = y at *
          clear hbg hb hne
          go_wp2_with fail
          go_roundw
          case rel => exact ⟨i + 1, d1, sw, A2, B2, c2, k2, n, hlt, by go_num, rfl, rfl, by omega, hsn, hS, hT, hf1, by omega, HSw⟩
          case measure => simp [intOf]; omega
        | true =>
          rw [hb, if_pos rfl] at HSw
          have he : hd0 = 126 := by
            rw [hbg] at hb
            have h9 : (126 : UInt8) = hd0 := by simpa using hb
            exact h9.symm
          subst he
          rw [show ((126 : UInt8).toNat : Int) = 126 from rfl] at hix
          clear hbg hb
          have HR := Lib.hid (fun W (hW : KSt T w W d1 A2 c2 B2 k2) => KRemove_any (T := T2 T w.heap.size) d1 x W hW.up2 hW.R (by omega) hf1 (by omega))
          have hop := Opd.remove ([] : Bs) d1 x
          generalize dRemove ([] : Bs) d1 x = r at *
          obtain ⟨d2, n2⟩ := r
          have hf2 := opd_fu hop hf1
          have hl2 := opd_len hop hl1
          dsimp only at hf2 hl2 HSw
          clear hop
          go_upto_region 9 with (fail)
          have hS0 := hS.out.call (Below.drew (Below.refl _ _))
          have hst : (World.drew wr).cell? ⟨b, o, none⟩ = some (.string ⟨x.toArray⟩) ∧ TxK w wr.drew (some ad) c1 m1 := ⟨hc, hT.out.call (Below.drew (Below.refl _ _))⟩
          clear hS hT hc
          have hbo : w.heap.size + 2 ≤ b := by
            have := hst.2.2 ad.block rfl
            have h2 := addr_add_block ad i
            rw [had] at h2
            dsimp only at h2
            omega
          go_cut [5] from 17 to 43 (fun z wz => ∃ (A3 B3 : Option Addr) (c3 k3 : Nat), z = .int .i64 n2 ∧ Hid (KSt T w wz d2 A3 c3 B3 k3) ∧ Hid (TxK w wz (some ad) c1 m1))
          case first =>
            refine wp_region_held_drew (S := (fun W => W.cell? ⟨b, o, none⟩ = some (.string ⟨x.toArray⟩) ∧ TxK w W (some ad) c1 m1)) (by kernel_rfl) ?_ (fun hHeld => ?_)
            · exact hst
            refine gen0 (T := fun W => ((fun W => W.cell? ⟨b, o, none⟩ = some (.string ⟨x.toArray⟩) ∧ TxK w W (some ad) c1 m1)) W ∧ KSt T w W d1 A2 c2 B2 k2 ∧ True) ?_ (fun wq1 hT => ?_)
            · exact ⟨by (with_reducible exact hst), by (with_reducible assumption), trivial⟩
            (try clear f0 f1 f2 f3 f4 f5 f6 f7 f8 f9 f10 f11)
            obtain ⟨hHeld, f0, -⟩ := hT
            refine wpAnyH_take (i := 1) (oi := ⟨some 31, _, _, _, _, _⟩) (v := ?_) rfl (by kernel_rfl) (by kernel_rfl) (by kernel_rfl) (fun _ _ _ h => h) (Or.inl ⟨by kernel_rfl, ?_⟩) (by assumption) ?_
            rotate_left
            · (intro wS hSw; (try dsimp only at hSw); have hc := hSw.1; clear hSw; go_simp; (try with_reducible rfl))
            (try simp only [Act.put, List.setIfInBounds_toArray, List.set_cons_zero, List.set_cons_succ])
            refine wpAnyH_take (i := 2) (oi := ⟨some 32, _, _, _, _, _⟩) (v := ?_) rfl (by kernel_rfl) (by kernel_rfl) (by kernel_rfl) (fun _ _ _ h => h) (Or.inl ⟨by kernel_rfl, ?_⟩) (by assumption) ?_
            rotate_left
            · (intro wS hSw; (try dsimp only at hSw); have hc := hSw.1; clear hSw; go_simp; (try with_reducible rfl))
            (try simp only [Act.put, List.setIfInBounds_toArray, List.set_cons_zero, List.set_cons_succ])
            refine wpAnyH_take (i := 3) (oi := ⟨some 33, _, _, _, _, _⟩) (v := ?_) rfl (by kernel_rfl) (by kernel_rfl) (by kernel_rfl) (fun _ _ _ h => h) (Or.inl ⟨by kernel_rfl, ?_⟩) (by assumption) ?_
            rotate_left
            · (intro wS hSw; (try dsimp only at hSw); have hc := hSw.1; clear hSw; go_simp; (try with_reducible rfl))
            (try simp only [Act.put, List.setIfInBounds_toArray, List.set_cons_zero, List.set_cons_succ])
            refine wpAnyH_take (i := 4) (oi := ⟨some 34, _, _, _, _, _⟩) (v := ?_) rfl (by kernel_rfl) (by kernel_rfl) (by kernel_rfl) (fun _ _ _ h => h) (Or.inl ⟨by kernel_rfl, ?_⟩) (by assumption) ?_
            rotate_left
            · (intro wS hSw; (try dsimp only at hSw); have hc := hSw.1; clear hSw; go_simp; (try with_reducible rfl))
            (try simp only [Act.put, List.setIfInBounds_toArray, List.set_cons_zero, List.set_cons_succ])
            refine wpAnyH_ready (rs := [0]) (by kernel_rfl) (by simp) ?_
            refine AllReadyH.cons (o := ⟨some 30, _, _, _, _, _⟩) rfl (fun K hK => ?_) AllReadyH.nil
            ((obtain ⟨r0, r1, r2, r3, r4, rf0, rf1, rf2, rf3, rf4⟩ := f0.mm.b1.fiveC)); go_simp
            refine hK.out _ _ ?_ (fun _ => ?_)
            · ((try dsimp only); (with_reducible exact hHeld))
            clear hK K
            (try simp only [Act.put, List.setIfInBounds_toArray, List.set_cons_zero, List.set_cons_succ])
            refine gen0 (T := fun W => ((fun W => W.cell? ⟨b, o, none⟩ = some (.string ⟨x.toArray⟩) ∧ TxK w W (some ad) c1 m1)) W ∧ KSt T w W d1 A2 c2 B2 k2 ∧ True) ?_ (fun wq2 hT => ?_)
            · exact ⟨by (with_reducible exact hHeld), by (with_reducible assumption), trivial⟩
            (try clear f0 f1 f2 f3 f4 f5 f6 f7 f8 f9 f10 f11)
            obtain ⟨hHeld, f0, -⟩ := hT
            refine wpAnyH_ready (rs := [5]) (by kernel_rfl) (by simp) ?_
            refine AllReadyH.cons (o := ⟨some 35, _, _, _, _, _⟩) rfl (fun K hK => ?_) AllReadyH.nil
            go_simp
            (refine (HR.out _ f0).mono ?_; rintro e w7 ⟨A3, c3, B3, k3, rfl, hR7, hb7⟩; unfold rda)
            go_wp2_with fail
            refine hK.out _ _ ?_ (fun _ => ?_)
            · ((try dsimp only); (exact ⟨(hb7.cell (World.block_lt_of_cell? _ _ hHeld.1)).trans hHeld.1, hHeld.2.call hb7⟩))
            clear hK K
            (try simp only [Act.put, List.setIfInBounds_toArray, List.set_cons_zero, List.set_cons_succ])
            refine gen0 (T := fun W => ((fun W => W.cell? ⟨b, o, none⟩ = some (.string ⟨x.toArray⟩) ∧ TxK w W (some ad) c1 m1)) W ∧ KSt T w W d1 A2 c2 B2 k2 ∧ Rdk (T2 T w.heap.size) W d2 A3 c3 B3 k3 ∧ True) ?_ (fun wq3 hT => ?_)
            · exact ⟨by (exact ⟨(hb7.cell (World.block_lt_of_cell? _ _ hHeld.1)).trans hHeld.1, hHeld.2.call hb7⟩), by (exact f0.call hb7), by (with_reducible assumption), trivial⟩
            (try clear f0 f1 f2 f3 f4 f5 f6 f7 f8 f9 f10 f11)
            obtain ⟨hHeld, f0, f1, -⟩ := hT
            refine wpAnyH_take (i := 6) (oi := ⟨some 29, _, _, _, _, _⟩) (v := ?_) rfl (by kernel_rfl) (by kernel_rfl) (by kernel_rfl) (fun _ _ _ h => h) (Or.inl ⟨by kernel_rfl, ?_⟩) (by assumption) ?_
            rotate_left
            · (intro wS hSw; (try dsimp only at hSw); have hc := hSw.1; clear hSw; go_simp; (try with_reducible rfl))
            (try simp only [Act.put, List.setIfInBounds_toArray, List.set_cons_zero, List.set_cons_succ])
            refine wpAnyH_take (i := 7) (oi := ⟨some 36, _, _, _, _, _⟩) (v := ?_) rfl (by kernel_rfl) (by kernel_rfl) (by kernel_rfl) (fun _ _ _ h => h) (Or.inl ⟨by kernel_rfl, ?_⟩) (by assumption) ?_
            rotate_left
            · (intro wS hSw; (try dsimp only at hSw); have hc := hSw.1; clear hSw; go_simp; (try with_reducible rfl))
            (try simp only [Act.put, List.setIfInBounds_toArray, List.set_cons_zero, List.set_cons_succ])
            refine wpAnyH_take (i := 8) (oi := ⟨some 37, _, _, _, _, _⟩) (v := ?_) rfl (by kernel_rfl) (by kernel_rfl) (by kernel_rfl) (fun _ _ _ h => h) (Or.inl ⟨by kernel_rfl, ?_⟩) (by assumption) ?_
            rotate_left
            · (intro wS hSw; (try dsimp only at hSw); have hc := hSw.1; clear hSw; go_simp; (try with_reducible rfl))
            (try simp only [Act.put, List.setIfInBounds_toArray, List.set_cons_zero, List.set_cons_succ])
            refine wpAnyH_ready (rs := [9]) (by kernel_rfl) (by simp) ?_
            refine AllReadyH.cons (o := ⟨none, _, _, _, _, _⟩) rfl (fun K hK => ?_) AllReadyH.nil
            obtain ⟨r0, r1, r2, r3, r4, rf0, rf1, rf2, rf3, rf4⟩ := f0.mm.b1.fiveC
            ((obtain ⟨r0, r1, r2, r3, r4, rf0, rf1, rf2, rf3, rf4⟩ := f0.mm.b1.fiveC)); go_simp
            refine hK.out _ _ ?_ (fun _ => ?_)
            · ((try dsimp only); (exact ⟨cell_st5 (by omega) hHeld.1 _ _ _ _ _, hHeld.2.st5 _ _ _ _ _⟩))
            clear hK K
            (try simp only [Act.put, List.setIfInBounds_toArray, List.set_cons_zero, List.set_cons_succ])
            refine gen0 (T := fun W => ((fun W => W.cell? ⟨b, o, none⟩ = some (.string ⟨x.toArray⟩) ∧ TxK w W (some ad) c1 m1)) W ∧ KSt T w W d2 A3 c3 B3 k3 ∧ True) ?_ (fun wq4 hT => ?_)
            · exact ⟨by (exact ⟨cell_st5 (by omega) hHeld.1 _ _ _ _ _, hHeld.2.st5 _ _ _ _ _⟩), by (exact f0.next f1 (Below.refl _ _)), trivial⟩
            (try clear f0 f1 f2 f3 f4 f5 f6 f7 f8 f9 f10 f11)
            obtain ⟨hHeld, f0, -⟩ := hT
            refine wpAnyH_take (i := 10) (oi := ⟨some 5, _, _, _, _, _⟩) (v := ?_) rfl (by kernel_rfl) (by kernel_rfl) (by kernel_rfl) (fun _ _ _ h => h) (Or.inl ⟨by kernel_rfl, ?_⟩) (by assumption) ?_
            rotate_left
            · (intro wS hSw; (try dsimp only at hSw); have hc := hSw.1; clear hSw; go_simp; (try with_reducible rfl))
            (try simp only [Act.put, List.setIfInBounds_toArray, List.set_cons_zero, List.set_cons_succ])
            refine wpAnyH_done (by kernel_rfl) ?_ _
            have HS3 := Lib.hid f0
            have HT3 := Lib.hid hHeld.2
            clear f0 hHeld hst hS0 HR
            go_wp2_with fail
            go_meet
            exact ⟨A3, B3, c3, k3, rfl, HS3, HT3⟩
          obtain ⟨A3, B3, c3, k3, rfl, HS3, HT3⟩ := hcut
          clear hst hS0 HR
          have hS3 := HS3.out
          obtain ⟨r0, r1, r2, r3, r4, rf0, rf1, rf2, rf3, rf4⟩ := (hS3).mm.b0.fiveC
          obtain ⟨b0, b1, b2, b3, b4, bf0, bf1, bf2, bf3, bf4⟩ := (hS3).mm.b1.fiveC
          clear hS3
          rcases Decidable.em (n2 = 0) with h0 | h0
          · subst h0
            rw [if_neg (by simp)] at HSw
            have e1 := Nat.succ_le_succ hni
            have e3 := Lib.hid (show (true = false ↔ n + 1 = 0) from by simp)
            have e4 : d2.sure.length + d2.pend.length ≤ 400 + (i + 1) := hl2
            clear r0 r1 r2 r3 r4 rf0 rf1 rf2 rf3 rf4 b0 b1 b2 b3 b4 bf0 bf1 bf2 bf3 bf4
            go_wp2_with fail
            go_roundw
            case rel => exact ⟨i + 1, d2, true, A3, B3, c3, k3, n + 1, hlt, rfl, rfl, rfl, e1, e3.out, HS3, HT3, hf2, e4, HSw⟩
            case measure => simp [intOf]; omega
          · have h1 : ¬ (n2 : Int) = 0 := by omega
            have hz : ((n2 : Int) != 0) = true := by simpa using h1
            rw [if_pos h0] at HSw
            have HX := Lib.hid (show sOpen ([] : Bs) d = (d2, n2) from by rw [HX0.out, HSw.out]; dsimp only; rw [if_pos h0])
            clear h1 HSw HX0 h0
            have HO := Lib.hid (HS3.out).out
            have HB := Lib.hid (HS3.out).mm.b0
            go_wp2_with fail
            exact bodyPost_ret (res_k2 rfl rfl (g := w.heap.size + 1) (HB.out.st5 _ _ _ _ _)) rfl (by rw [HX.out]; exact ⟨_, _, _, _, rfl, HO.out.1, HO.out.2⟩)
      · have hI : (m1.length : Int) ≤ (i : Int) := by omega
        have hdr : m1.drop i = [] := List.drop_of_length_le (by omega)
        have HSw := Lib.hid (show sSweep ([] : Bs) m1 d false = (d1, 0, sw) from by rw [hsw.out, hdr]; rfl)
        clear hsw hdr
        have hS1 := hS.out
        obtain ⟨r0, r1, r2, r3, r4, rf0, rf1, rf2, rf3, rf4⟩ := (hS1).mm.b0.fiveC
        obtain ⟨b0, b1, b2, b3, b4, bf0, bf1, bf2, bf3, bf4⟩ := (hS1).mm.b1.fiveC
        unfold rda
        cases sw with
        | false =>
          obtain rfl := hsn.1 rfl
          have HX := Lib.hid (show sOpen ([] : Bs) d = (d1, 0) from by rw [HX0.out, HSw.out]; rfl)
          have HS1 := hS
          clear hS1 hT hS
          have HO := Lib.hid (HS1.out).out
          have HB := Lib.hid (HS1.out).mm.b0
          go_wp2_with fail
          exact bodyPost_ret (res_k2 rfl rfl (g := w.heap.size + 1) (HB.out.st5 _ _ _ _ _)) rfl (by rw [HX.out]; exact ⟨_, _, _, _, rfl, HO.out.1, HO.out.2⟩)
        | true =>
          have hn0 : ¬ (n : Int) = 0 := fun e => by
            have := hsn.2 (by omega)
            cases this
          have hz : ((n : Int) == 0) = false := by simpa using hn0
          have HXX := Lib.hid (show sOpen ([] : Bs) d = dSync d1 from by rw [HX0.out, HSw.out]; rfl)
          have HR := Lib.hid (KSync_any (T := T2 T w.heap.size) d1 wr hS1.up2 hS1.R (by omega) hf1)
          generalize dSync d1 = r at *
          obtain ⟨d2, n2⟩ := r
          have HS1 := hS
          clear hS1 hT hS hn0 hsn HSw HX0
          go_wp2_with fail
          refine HR.out.mono ?_
          clear HR
          rintro e w2 ⟨A2, c2, B2, k2, rfl, hR2, hb2⟩
          dsimp only at hR2 ⊢
          have hS2 := HS1.out.call hb2
          clear r0 r1 r2 r3 r4 rf0 rf1 rf2 rf3 rf4 b0 b1 b2 b3 b4 bf0 bf1 bf2 bf3 bf4
          obtain ⟨r0, r1, r2, r3, r4, rf0, rf1, rf2, rf3, rf4⟩ := (hS2).mm.b0.fiveC
          obtain ⟨b0, b1, b2, b3, b4, bf0, bf1, bf2, bf3, bf4⟩ := (hS2).mm.b1.fiveC
          have HR2 := Lib.hid (hR2.sam ((Sam.refl w.heap.size w2).st5 (.inr rfl) (.int .i64 d2.room) (.slice A2 d2.sure.length c2) (.slice B2 d2.pend.length k2) (.int .i64 d2.fuse) (.bool d2.down)))
          have HB2 := Lib.hid (bel_st5 hS2.mm.bel (g := w.heap.size + 1) (by omega) (.int .i64 d2.room) (.slice A2 d2.sure.length c2) (.slice B2 d2.pend.length k2) (.int .i64 d2.fuse) (.bool d2.down))
          have HBk := Lib.hid hS2.mm.b0
          clear hR2 hb2 hS2 HS1
          unfold rda
          go_wp2_with fail
          exact bodyPost_ret (res_k2 rfl rfl (g := w.heap.size + 1) (HBk.out.st5 _ _ _ _ _)) rfl (by rw [HXX.out]; exact ⟨A2, c2, B2, k2, rfl, HR2.out, HB2.out⟩)
end Go.Proofs.YtddmfoldnlafaaaGreatDoor

namespace Go.Proofs.YtddmfoldnlafaaaGreatDoor

theorem andThen_map (r : Dk Sv × Nat) (f : Dk Sv → Dk Sv × Nat) (g : Dk Bs → Dk Bs × Nat) (h : ∀ d : Dk Sv, g (d.map Sv.l) = ((f d).1.map Sv.l, (f d).2)) : andThen (r.1.map Sv.l, r.2) g = ((andThen r f).1.map Sv.l, (andThen r f).2) := by
  unfold andThen
  by_cases h0 : r.2 ≠ 0
  · rw [if_pos h0, if_pos h0]
  · rw [if_neg h0, if_neg h0]
    exact h _
theorem sPut_map (d : Dk Sv) (n : Bs) (v : Sv) : sPut bln ([] : Bs) (d.map Sv.l) n v.l = ((sPut svl Sv.nil d n v).1.map Sv.l, (sPut svl Sv.nil d n v).2) := by
  unfold sPut
  by_cases h : snamed n = false
  · rw [if_pos h, if_pos h]
  · rw [if_neg h, if_neg h, dWrite_map]
    refine andThen_map _ _ _ fun d => ?_
    rw [dSync_map]
    refine andThen_map _ _ _ fun d => ?_
    rw [dRename_map]
    exact andThen_map _ _ _ dSync_map
theorem sSweep_map : ∀ (l : List Bs) (d : Dk Sv) (b : Bool), sSweep ([] : Bs) l (d.map Sv.l) b = ((sSweep Sv.nil l d b).1.map Sv.l, (sSweep Sv.nil l d b).2)
  | [], d, b => rfl
  | n :: r, d, b => by
    unfold sSweep
    by_cases hb : isBegun n = true
    · rw [if_pos hb, if_pos hb, dRemove_map]
      by_cases h0 : (dRemove Sv.nil d n).2 ≠ 0
      · rw [if_pos h0, if_pos h0]
      · rw [if_neg h0, if_neg h0]
        exact sSweep_map r _ true
    · rw [if_neg hb, if_neg hb]
      exact sSweep_map r d b
theorem dnames_map (d : Dk Sv) : names (d.map Sv.l).shown = names d.shown := by
  rw [shown_map]
  unfold names gmap
  rw [List.map_map]
  rfl
theorem sOpen_map (d : Dk Sv) : sOpen ([] : Bs) (d.map Sv.l) = ((sOpen Sv.nil d).1.map Sv.l, (sOpen Sv.nil d).2) := by
  unfold sOpen
  rw [dnames_map]
  by_cases hd : d.down = true
  · rw [if_pos hd, if_pos (show (d.map Sv.l).down = true from hd)]
  · rw [if_neg hd, if_neg (show ¬ (d.map Sv.l).down = true from hd), sSweep_map]
    by_cases h0 : (sSweep Sv.nil (names d.shown) d false).2.1 ≠ 0
    · rw [if_pos h0, if_pos h0]
    · rw [if_neg h0, if_neg h0]
      by_cases hb : (sSweep Sv.nil (names d.shown) d false).2.2 = true
      · rw [if_pos hb, if_pos hb, dSync_map]
      · rw [if_neg hb, if_neg hb]
end Go.Proofs.YtddmfoldnlafaaaGreatDoor

namespace Go.Proofs.YtddmfoldnlafaaaGreatDoor
open Go.RowKit Go.Maps Go.Sort
attribute [local go_sem ↓] Go.wp_at_zero Go.wp_at_succ

/-- the document's register as cells -/
def rrg (d : Dk Bs) (A : Option Addr) (c : Nat) (B : Option Addr) (k : Nat) (sp bo : Int) (L : L3r) (n : Int) : Array Value :=
  #[.int .i64 d.room, .slice A d.sure.length c, .slice B d.pend.length k, .int .i64 d.fuse, .bool d.down, .int .i64 sp, .int .i64 bo, .int .i64 L.1, .int .i64 L.2.1, .int .i64 L.2.2, .int .i64 n]
abbrev rrz : Array Value := #[.int .i64 0, .slice none 0 0, .slice none 0 0, .int .i64 0, .bool false, .int .i64 0, .int .i64 0, .int .i64 0, .int .i64 0, .int .i64 0, .int .i64 0]
theorem Blk.elev {w : World} {g : Nat} {t : TypeId} {a0 a1 a2 a3 a4 a5 a6 a7 a8 a9 a10 : Value} (h : Blk w g t #[a0, a1, a2, a3, a4, a5, a6, a7, a8, a9, a10]) : w.cell? ⟨g, 0, none⟩ = some a0 ∧ w.cell? ⟨g, 1, none⟩ = some a1 ∧ w.cell? ⟨g, 2, none⟩ = some a2 ∧ w.cell? ⟨g, 3, none⟩ = some a3 ∧ w.cell? ⟨g, 4, none⟩ = some a4 ∧ w.cell? ⟨g, 5, none⟩ = some a5 ∧ w.cell? ⟨g, 6, none⟩ = some a6 ∧ w.cell? ⟨g, 7, none⟩ = some a7 ∧ w.cell? ⟨g, 8, none⟩ = some a8 ∧ w.cell? ⟨g, 9, none⟩ = some a9 ∧ w.cell? ⟨g, 10, none⟩ = some a10 := ⟨h.cell 0, h.cell 1, h.cell 2, h.cell 3, h.cell 4, h.cell 5, h.cell 6, h.cell 7, h.cell 8, h.cell 9, h.cell 10⟩
theorem Blk.frz {w : World} {g : Nat} {t : TypeId} {cs : Array Value} (h : Blk w g t cs) : w.frozen? ⟨g, 0, none⟩ = false ∧ w.frozen? ⟨g, 1, none⟩ = false ∧ w.frozen? ⟨g, 2, none⟩ = false ∧ w.frozen? ⟨g, 3, none⟩ = false ∧ w.frozen? ⟨g, 4, none⟩ = false ∧ w.frozen? ⟨g, 5, none⟩ = false ∧ w.frozen? ⟨g, 6, none⟩ = false ∧ w.frozen? ⟨g, 7, none⟩ = false ∧ w.frozen? ⟨g, 8, none⟩ = false ∧ w.frozen? ⟨g, 9, none⟩ = false ∧ w.frozen? ⟨g, 10, none⟩ = false := ⟨h.frozen 0, h.frozen 1, h.frozen 2, h.frozen 3, h.frozen 4, h.frozen 5, h.frozen 6, h.frozen 7, h.frozen 8, h.frozen 9, h.frozen 10⟩
theorem Blk.cast {w : World} {g : Nat} {t : TypeId} {cs cs' : Array Value} (h : Blk w g t cs) (e : cs = cs') : Blk w g t cs' := e ▸ h
/-- a register is laid into a block -/
def setR (W : World) (g : Nat) (d : Dk Bs) (A : Option Addr) (c : Nat) (B : Option Addr) (k : Nat) (sp bo : Int) (L : L3r) (n : Int) : World :=
  ((((((((((W.setCell ⟨g, 0, none⟩ (.int .i64 d.room)).setCell ⟨g, 1, none⟩ (.slice A d.sure.length c)).setCell ⟨g, 2, none⟩ (.slice B d.pend.length k)).setCell ⟨g, 3, none⟩ (.int .i64 d.fuse)).setCell ⟨g, 4, none⟩ (.bool d.down)).setCell ⟨g, 5, none⟩ (.int .i64 sp)).setCell ⟨g, 6, none⟩ (.int .i64 bo)).setCell ⟨g, 7, none⟩ (.int .i64 L.1)).setCell ⟨g, 8, none⟩ (.int .i64 L.2.1)).setCell ⟨g, 9, none⟩ (.int .i64 L.2.2)).setCell ⟨g, 10, none⟩ (.int .i64 n)
theorem wr_setR (W : World) (g : Nat) (d : Dk Bs) (A : Option Addr) (c : Nat) (B : Option Addr) (k : Nat) (sp bo : Int) (L : L3r) (n : Int) : Wr W (setR W g d A c B k sp bo L n) g :=
  (((((((((((Wr.refl W g).set_ 0 _).set_ 1 _).set_ 2 _).set_ 3 _).set_ 4 _).set_ 5 _).set_ 6 _).set_ 7 _).set_ 8 _).set_ 9 _).set_ 10 _
theorem Blk.setR {W : World} {g : Nat} {t : TypeId} {a0 a1 a2 a3 a4 a5 a6 a7 a8 a9 a10 : Value} (h : Blk W g t #[a0, a1, a2, a3, a4, a5, a6, a7, a8, a9, a10]) (d : Dk Bs) (A : Option Addr) (c : Nat) (B : Option Addr) (k : Nat) (sp bo : Int) (L : L3r) (n : Int) : Blk (Go.Proofs.YtddmfoldnlafaaaGreatDoor.setR W g d A c B k sp bo L n) g t (rrg d A c B k sp bo L n) :=
  Blk.cast ((((((((((((h.set_ 0 _).set_ 1 _).set_ 2 _).set_ 3 _).set_ 4 _).set_ 5 _).set_ 6 _).set_ 7 _).set_ 8 _).set_ 9 _).set_ 10 _)) (by kernel_rfl)
theorem res_rr {fn : Func} {a b : Nat} {tmps : Array Value} {w : World} {g : Nat} {a0 a1 a2 a3 a4 a5 a6 a7 a8 a9 a10 : Value} (hres : fn.results = #[.cell a 104, .tmp b]) (ha : tmps.getD a undef = .pointer (some ⟨g, 0, none⟩)) (hB : Blk w g 104 #[a0, a1, a2, a3, a4, a5, a6, a7, a8, a9, a10]) :
    (results fn tmps).run Tryz.prog w = .ok (.tuple #[.agg #[a0, a1, a2, a3, a4, a5, a6, a7, a8, a9, a10], tmps.getD b undef]) w := by
  obtain ⟨b0, b1, b2, b3, b4, b5, b6, b7, b8, b9, b10⟩ := Blk.elev hB
  have ha' : tmps[a]?.getD undef = .pointer (some ⟨g, 0, none⟩) := by simpa using ha
  simp [results, hres, go_sem, b0, b1, b2, b3, b4, b5, b6, b7, b8, b9, b10, ha']
/-- what the document's acts on a register give -/
def GvR (T : Nat → Prop) (w w' : World) (e : Ending) (d : Dk Bs) (sp bo : Int) (L : L3r) (n : Int) (bad : Nat) : Prop := ∃ A c B k, e = .returned (.tuple #[.agg (rrg d A c B k sp bo L n), .int .i64 (bad : Nat)]) ∧ Rdk T w' d A c B k ∧ Below w.heap.size w w'
end Go.Proofs.YtddmfoldnlafaaaGreatDoor

namespace Go.Proofs.YtddmfoldnlafaaaGreatDoor
open Go.RowKit Go.Maps Go.Sort
attribute [local go_sem ↓] Go.wp_at_zero Go.wp_at_succ

def rgReadB (d : Dk Bs) : L3r × Nat :=
  if (sGetK d lname).2 = 4 then ((0, 0, 0), 0)
  else if (sGetK d lname).2 ≠ 0 then ((0, 0, 0), (sGetK d lname).2)
  else (((ltake (sGetK d lname).1).1, (ltake (sGetK d lname).1).2.1, (ltake (sGetK d lname).1).2.2.1), (ltake (sGetK d lname).1).2.2.2)
theorem rgReadB_eq (d : Dk Bs) : rgReadB d = if (sGetK d lname).2 = 4 then ((0, 0, 0), 0)
  else if (sGetK d lname).2 ≠ 0 then ((0, 0, 0), (sGetK d lname).2)
  else (((ltake (sGetK d lname).1).1, (ltake (sGetK d lname).1).2.1, (ltake (sGetK d lname).1).2.2.1), (ltake (sGetK d lname).1).2.2.2) := rfl
/-- while the document opens: its disk lies in the first block, the result in the second one -/
structure KRt (T : Nat → Prop) (w W : World) (d : Dk Bs) (A : Option Addr) (c : Nat) (B : Option Addr) (k : Nat) : Prop where
  mm : Mm w W [(w.heap.size + 1, 104, rrz), (w.heap.size, 85, rda d A c B k)] []
  R : Rdk (T2 T w.heap.size) W d A c B k
  up : ∀ j, w.heap.size ≤ j → T j
section
variable {T : Nat → Prop} {w W W' : World} {d d' : Dk Bs} {A A' B B' : Option Addr} {c c' k k' : Nat}
theorem KRt.up2 (h : KRt T w W d A c B k) : ∀ j, W.heap.size ≤ j → T2 T w.heap.size j := T2.up h.up h.mm
theorem KRt.call (h : KRt T w W d A c B k) (hb : Below W.heap.size W W') : KRt T w W' d A c B k := ⟨h.mm.call hb, h.R.below hb, h.up⟩
theorem KRt.next (h : KRt T w W d A c B k) (hR : Rdk (T2 T w.heap.size) W' d' A' c' B' k') (hb : Below W.heap.size W W') : KRt T w (((((W'.setCell ⟨w.heap.size, 0, none⟩ (.int .i64 d'.room)).setCell ⟨w.heap.size, 1, none⟩ (.slice A' d'.sure.length c')).setCell ⟨w.heap.size, 2, none⟩ (.slice B' d'.pend.length k')).setCell ⟨w.heap.size, 3, none⟩ (.int .i64 d'.fuse)).setCell ⟨w.heap.size, 4, none⟩ (.bool d'.down)) d' A' c' B' k' := by
  refine ⟨(h.mm.call hb).st5 1 rfl _ _ _ _ _, ?_, h.up⟩
  have hw : Wr W' (((((W'.setCell ⟨w.heap.size, 0, none⟩ (.int .i64 d'.room)).setCell ⟨w.heap.size, 1, none⟩ (.slice A' d'.sure.length c')).setCell ⟨w.heap.size, 2, none⟩ (.slice B' d'.pend.length k')).setCell ⟨w.heap.size, 3, none⟩ (.int .i64 d'.fuse)).setCell ⟨w.heap.size, 4, none⟩ (.bool d'.down)) w.heap.size := (((((Wr.refl _ _).set_ 0 _).set_ 1 _).set_ 2 _).set_ 3 _).set_ 4 _
  exact hR.sameH (fun _ _ ht => ht) hw.size fun j hj ht => hw.block j hj fun e => ht.2.1 (by injection e)
theorem KRt.begin (hT : ∀ j, w.heap.size ≤ j → T j) (h : Rdk T w d A c B k) : KRt T w ((w.alloc (.cells (rda d A c B k) 85)).alloc (.cells rrz 104)) d A c B k := by
  have hM := ((Mm.start w).alloc (rda d A c B k) 85).alloc rrz 104
  rw [show (w.alloc (.cells (rda d A c B k) 85)).heap.size = w.heap.size + 1 by simp] at hM
  exact ⟨hM, h.t2 hM.bel, hT⟩
/-- a register that is refused: its disk alone is laid into the fresh result -/
theorem KRt.bad (h : Rdk T w d A c B k) : Blk ((w.alloc (.cells (rda d A c B k) 85)).alloc (.cells (rrg d A c B k 0 0 (0, 0, 0) 0) 104)) (w.heap.size + 1) 104 (rrg d A c B k 0 0 (0, 0, 0) 0) ∧ Rdk T ((w.alloc (.cells (rda d A c B k) 85)).alloc (.cells (rrg d A c B k 0 0 (0, 0, 0) 0) 104)) d A c B k ∧ Below w.heap.size w ((w.alloc (.cells (rda d A c B k) 85)).alloc (.cells (rrg d A c B k 0 0 (0, 0, 0) 0) 104)) := by
  have hM := ((Mm.start w).alloc (rda d A c B k) 85).alloc (rrg d A c B k 0 0 (0, 0, 0) 0) 104
  rw [show (w.alloc (.cells (rda d A c B k) 85)).heap.size = w.heap.size + 1 by simp] at hM
  exact ⟨hM.b0, h.below hM.bel, hM.bel⟩
end
/-- while the document opens: the register that it makes lies beside -/
def T3 (T : Nat → Prop) (w : World) (g : Nat) (j : Nat) : Prop := T2 T w.heap.size j ∧ j ≠ g
structure KRu (T : Nat → Prop) (w W : World) (d : Dk Bs) (A : Option Addr) (c : Nat) (B : Option Addr) (k : Nat) (g : Nat) (R9 : Array Value) : Prop where
  mm : Mm w W [(g, 104, R9), (w.heap.size + 1, 104, rrz), (w.heap.size, 85, rda d A c B k)] []
  R : Rdk (T3 T w g) W d A c B k
  up : ∀ j, w.heap.size ≤ j → T j
section
variable {T : Nat → Prop} {w W W' : World} {d : Dk Bs} {A B : Option Addr} {c k g : Nat} {R9 : Array Value} {sp bo n : Int} {L : L3r}
theorem KRt.beginU (h : KRt T w W d A c B k) (R9 : Array Value) : KRu T w (W.alloc (.cells R9 104)) d A c B k W.heap.size R9 := by
  refine ⟨h.mm.alloc R9 _, ?_, h.up⟩
  have hb := below_new W (.cells R9 104)
  exact h.R.sameH (fun i hi ht => ⟨ht, Nat.ne_of_lt hi⟩) hb.size fun i hi _ => hb.block i hi
theorem KRu.call (h : KRu T w W d A c B k g R9) (hb : Below W.heap.size W W') : KRu T w W' d A c B k g R9 := ⟨h.mm.call hb, h.R.below hb, h.up⟩
theorem KRu.up3 (h : KRu T w W d A c B k g R9) : ∀ j, W.heap.size ≤ j → T3 T w g j := fun j hj => by
  have h0 := h.mm.b0.lt
  have h1 := h.mm.b1.lt
  have h2 := h.mm.b2.lt
  exact ⟨⟨h.up j (by omega), by omega, by omega⟩, by omega⟩
theorem KRu.out (h : KRu T w W d A c B k g R9) (hw : Wr W W' (w.heap.size + 1)) : Rdk T W' d A c B k ∧ Below w.heap.size w W' :=
  ⟨h.R.sameH (fun _ _ ht => ht.1.1) hw.size fun j hj ht => hw.block j hj fun e => ht.1.2.2 (by injection e), h.mm.bel.trans (hw.below h.mm.bel.size (Nat.le_succ _))⟩
theorem KRu.set3 (h : KRu T w W d A c B k g (rrg d A c B k sp bo L n)) (x y z : Int) : KRu T w (((W.setCell ⟨g, 7, none⟩ (.int .i64 x)).setCell ⟨g, 8, none⟩ (.int .i64 y)).setCell ⟨g, 9, none⟩ (.int .i64 z)) d A c B k g (rrg d A c B k sp bo (x, y, z) n) := by
  have hw : Wr W (((W.setCell ⟨g, 7, none⟩ (.int .i64 x)).setCell ⟨g, 8, none⟩ (.int .i64 y)).setCell ⟨g, 9, none⟩ (.int .i64 z)) g := (((Wr.refl _ _).set_ 7 _).set_ 8 _).set_ 9 _
  exact ⟨h.mm.turn 0 rfl (Blk.cast (((h.mm.b0.set_ 7 _).set_ 8 _).set_ 9 _) (by kernel_rfl)) hw, h.R.sameH (fun _ _ ht => ht) hw.size fun j hj ht => hw.block j hj fun e => ht.2 (by injection e), h.up⟩
end
abbrev lz3 : L3r := (0, 0, 0)
/-- '[]byte(s)' -/
def cvWorldR (w : World) (e : TypeId) (d : List UInt8) : World := w.drew.alloc (.cells (bytesRow ⟨d.toArray⟩ (grownCap w d.length 0 e)) e ((bytesRow ⟨d.toArray⟩ (grownCap w d.length 0 e)).size, (bytesRow ⟨d.toArray⟩ (grownCap w d.length 0 e)).size + 1))
theorem convR_below (w : World) (e : TypeId) (d : List UInt8) : Below w.heap.size w (cvWorldR w e d) := (Below.refl _ _).drew.alloc (Nat.le_refl _) _
theorem convR_sl (w : World) (e : TypeId) (d : List UInt8) (h : d.length ≤ maxLen) {g : Nat} (hg : g = w.heap.size) : SlB (cvWorldR w e d) (some ⟨g, 0, none⟩) (grownCap w d.length 0 e) d := by
  subst hg
  refine ⟨by simp, grownCap_ge _ _ _ _, grownCap_le_maxLen _ _ _ _ h, (fun h => by cases h), fun j u hj => ⟨_, rfl, ?_⟩⟩
  rw [addr_lit, Nat.zero_add]
  have hl : j < d.length := by
    have := (List.getElem?_eq_some_iff.1 hj).1
    simpa using this
  have h1 := cell_of_row (cvWorldR w e d) w.heap.size j _ e _ (heap_alloc_new w.drew _)
  rw [h1, bytesRow_at ⟨d.toArray⟩ _ j hl]
  rw [← hj]
  simp [List.getElem?_eq_getElem hl]
/-- spans that the document's register has -/
def spanB (sp bo x : Int) : Int := if rgBad sp bo then 0 else x
def rgOpenB (d : Dk Bs) (sp bo : Int) : Dk Bs × L3r × Nat :=
  if rgBad sp bo then (d, (0, 0, 0), 1)
  else if (sOpen ([] : Bs) d).2 ≠ 0 then ((sOpen ([] : Bs) d).1, (0, 0, 0), (sOpen ([] : Bs) d).2)
  else ((sOpen ([] : Bs) d).1, rgReadB (sOpen ([] : Bs) d).1)
set_option maxRecDepth 100000 in
set_option maxHeartbeats 1000000 in
theorem R29Open_any {T : Nat → Prop} {A B : Option Addr} {c k : Nat} (d : Dk Bs) (w : World) (hT : ∀ k, w.heap.size ≤ k → T k) (h : Rdk T w d A c B k) (hl : d.sure.length + d.pend.length ≤ 400) (hf : d.fuse ≤ 9223372036854775807) (hn : Nmd d) (sp bo : Int) (hv : ¬ rgBad sp bo → (sGetK (sOpen ([] : Bs) d).1 lname).1.length ≤ 10000000) :
    Calls Tryz.prog 100 #[.agg (rda d A c B k), .int .i64 sp, .int .i64 bo] w fun e w' => GvR T w w' e (rgOpenB d sp bo).1 (spanB sp bo sp) (spanB sp bo bo) (rgOpenB d sp bo).2.1 0 (rgOpenB d sp bo).2.2 := by
  have hS0 := KRt.begin hT h
  obtain ⟨r0, r1, r2, r3, r4, r5, r6, r7, r8, r9, r10⟩ := (hS0).mm.b0.elev
  obtain ⟨rf0, rf1, rf2, rf3, rf4, rf5, rf6, rf7, rf8, rf9, rf10⟩ := (hS0).mm.b0.frz
  obtain ⟨b0, b1, b2, b3, b4, bf0, bf1, bf2, bf3, bf4⟩ := (hS0).mm.b1.fiveC
  have HS0 := Lib.hid hS0
  have HR0 := Lib.hid h
  clear hS0 h hT
  by_cases h1 : sp < 1
  · have hbad : rgBad sp bo := by unfold rgBad; omega
    have HX := Lib.hid (show rgOpenB d sp bo = (d, (0, 0, 0), 1) from if_pos hbad)
    have HY := Lib.hid (show spanB sp bo sp = 0 ∧ spanB sp bo bo = 0 from ⟨if_pos hbad, if_pos hbad⟩)
    have HB := Lib.hid (KRt.bad (k := k) HR0.out).1
    have HO := Lib.hid (KRt.bad (k := k) HR0.out).2
    unfold rrg at HB HO
    dsimp only at HB HO
    clear hbad HS0 HR0
    go_enter Tryz.func100, Tryz.ntmps100
    go_wp2_with fail
    exact bodyPost_ret (res_rr rfl rfl (g := w.heap.size + 1) HB.out) rfl (by rw [HX.out, HY.out.1, HY.out.2]; exact ⟨A, c, B, k, rfl, HO.out.1, HO.out.2⟩)
  by_cases h2 : 1099511627776 < sp
  · have hbad : rgBad sp bo := by unfold rgBad; omega
    have HX := Lib.hid (show rgOpenB d sp bo = (d, (0, 0, 0), 1) from if_pos hbad)
    have HY := Lib.hid (show spanB sp bo sp = 0 ∧ spanB sp bo bo = 0 from ⟨if_pos hbad, if_pos hbad⟩)
    have HB := Lib.hid (KRt.bad (k := k) HR0.out).1
    have HO := Lib.hid (KRt.bad (k := k) HR0.out).2
    unfold rrg at HB HO
    dsimp only at HB HO
    clear hbad HS0 HR0
    go_enter Tryz.func100, Tryz.ntmps100
    go_wp2_with fail
    exact bodyPost_ret (res_rr rfl rfl (g := w.heap.size + 1) HB.out) rfl (by rw [HX.out, HY.out.1, HY.out.2]; exact ⟨A, c, B, k, rfl, HO.out.1, HO.out.2⟩)
  by_cases h3 : bo < 0
  · have hbad : rgBad sp bo := by unfold rgBad; omega
    have HX := Lib.hid (show rgOpenB d sp bo = (d, (0, 0, 0), 1) from if_pos hbad)
    have HY := Lib.hid (show spanB sp bo sp = 0 ∧ spanB sp bo bo = 0 from ⟨if_pos hbad, if_pos hbad⟩)
    have HB := Lib.hid (KRt.bad (k := k) HR0.out).1
    have HO := Lib.hid (KRt.bad (k := k) HR0.out).2
    unfold rrg at HB HO
    dsimp only at HB HO
    clear hbad HS0 HR0
    go_enter Tryz.func100, Tryz.ntmps100
    go_wp2_with fail
    exact bodyPost_ret (res_rr rfl rfl (g := w.heap.size + 1) HB.out) rfl (by rw [HX.out, HY.out.1, HY.out.2]; exact ⟨A, c, B, k, rfl, HO.out.1, HO.out.2⟩)
  by_cases h4 : 1099511627776 < bo
  · have hbad : rgBad sp bo := by unfold rgBad; omega
    have HX := Lib.hid (show rgOpenB d sp bo = (d, (0, 0, 0), 1) from if_pos hbad)
    have HY := Lib.hid (show spanB sp bo sp = 0 ∧ spanB sp bo bo = 0 from ⟨if_pos hbad, if_pos hbad⟩)
    have HB := Lib.hid (KRt.bad (k := k) HR0.out).1
    have HO := Lib.hid (KRt.bad (k := k) HR0.out).2
    unfold rrg at HB HO
    dsimp only at HB HO
    clear hbad HS0 HR0
    go_enter Tryz.func100, Tryz.ntmps100
    go_wp2_with fail
    exact bodyPost_ret (res_rr rfl rfl (g := w.heap.size + 1) HB.out) rfl (by rw [HX.out, HY.out.1, HY.out.2]; exact ⟨A, c, B, k, rfl, HO.out.1, HO.out.2⟩)
  have hgd : ¬ rgBad sp bo := by unfold rgBad; omega
  replace hv := hv hgd
  have HX := Lib.hid (show rgOpenB d sp bo = if (sOpen ([] : Bs) d).2 ≠ 0 then ((sOpen ([] : Bs) d).1, (0, 0, 0), (sOpen ([] : Bs) d).2) else ((sOpen ([] : Bs) d).1, rgReadB (sOpen ([] : Bs) d).1) from if_neg hgd)
  have HY := Lib.hid (show spanB sp bo sp = sp ∧ spanB sp bo bo = bo from ⟨if_neg hgd, if_neg hgd⟩)
  have HOp := Lib.hid (KSOpen_any d _ HS0.out.up2 HS0.out.R hl hf hn)
  have hlen := sOpen_len2 ([] : Bs) d
  have i1 : 1 ≤ sp := by omega
  have i2 : sp ≤ 1099511627776 := by omega
  have i3 : 0 ≤ bo := by omega
  have i4 : bo ≤ 1099511627776 := by omega
  have HR := Lib.hid (rgReadB_eq (sOpen ([] : Bs) d).1)
  generalize sOpen ([] : Bs) d = r at *
  obtain ⟨d1, n1⟩ := r
  dsimp only at HX HOp HR hlen hv ⊢
  have HLen := Lib.hid (show d1.sure.length + d1.pend.length ≤ 100000 by omega)
  clear hlen hl hf hn hgd HR0 h1 h2 h3 h4
  generalize hq : sGetK d1 lname = r2 at *
  obtain ⟨v, n2⟩ := r2
  dsimp only at HR hv
  go_enter Tryz.func100, Tryz.ntmps100
  go_wp2_with fail
  refine HOp.out.mono ?_
  rintro e w1 ⟨A1, c1, B1, k1, rfl, hR1, hb1⟩
  have HS2 := Lib.hid (HS0.out.next hR1 hb1)
  have hk1 := HS0.out.call hb1
  clear r0 r1 r2 r3 r4 r5 r6 r7 r8 r9 r10 rf0 rf1 rf2 rf3 rf4 rf5 rf6 rf7 rf8 rf9 rf10 b0 b1 b2 b3 b4 bf0 bf1 bf2 bf3 bf4
  obtain ⟨r0, r1, r2, r3, r4, r5, r6, r7, r8, r9, r10⟩ := (hk1).mm.b0.elev
  obtain ⟨rf0, rf1, rf2, rf3, rf4, rf5, rf6, rf7, rf8, rf9, rf10⟩ := (hk1).mm.b0.frz
  obtain ⟨b0, b1, b2, b3, b4, bf0, bf1, bf2, bf3, bf4⟩ := (hk1).mm.b1.fiveC
  clear HOp hR1 hb1 hk1 HS0
  unfold rda
  go_upto_region 4 with (fail)
  refine gen1 (T := fun W => KRt T w W d1 A1 c1 B1 k1) HS2.out (fun w6 hS6 => ?_)
  clear HS2
  clear r0 r1 r2 r3 r4 r5 r6 r7 r8 r9 r10 rf0 rf1 rf2 rf3 rf4 rf5 rf6 rf7 rf8 rf9 rf10 b0 b1 b2 b3 b4 bf0 bf1 bf2 bf3 bf4
  have hU := hS6.beginU (rrg d1 A1 c1 B1 k1 sp bo (0, 0, 0) 0)
  obtain ⟨e0, e1, e2, e3, e4, ef0, ef1, ef2, ef3, ef4⟩ := hS6.mm.b1.fiveC
  unfold rrg at hU
  dsimp only at hU
  have HU := Lib.hid hU
  have hg6 := hS6.mm.b0.lt
  have Hg6 := Lib.hid hg6
  clear hS6 hU hg6
  go_upto_region 5 with (fail)
  refine gen1 (T := fun W => KRu T w W d1 A1 c1 B1 k1 w6.heap.size _) HU.out (fun w7 hU => ?_)
  clear HU e0 e1 e2 e3 e4 ef0 ef1 ef2 ef3 ef4
  clear i1 i2 i3 i4
  generalize w6.heap.size = g9 at *
  obtain ⟨r0, r1, r2, r3, r4, r5, r6, r7, r8, r9, r10⟩ := (hU).mm.b1.elev
  obtain ⟨rf0, rf1, rf2, rf3, rf4, rf5, rf6, rf7, rf8, rf9, rf10⟩ := (hU).mm.b1.frz
  have hu9 := (hU).mm.b0
  obtain ⟨u0, u1, u2, u3, u4, u5, u6, u7, u8, u9, u10⟩ := hu9.elev
  obtain ⟨uf0, uf1, uf2, uf3, uf4, uf5, uf6, uf7, uf8, uf9, uf10⟩ := hu9.frz
  clear hu9
  obtain ⟨b0, b1, b2, b3, b4, bf0, bf1, bf2, bf3, bf4⟩ := (hU).mm.b2.fiveC
  have HU := Lib.hid hU
  clear hU
  by_cases h0 : n1 = 0
  rotate_left
  · have HXX := Lib.hid (HX.out.trans (if_pos h0))
    have hz : ((n1 : Int) != 0) = true := by simpa using h0
    clear HX h0 HR hv hq HLen
    have HO := Lib.hid ((HU.out).out (wr_setR _ (w.heap.size + 1) d1 A1 c1 B1 k1 sp bo lz3 0))
    have HB := Lib.hid ((HU.out).mm.b1.setR d1 A1 c1 B1 k1 sp bo lz3 0)
    unfold setR at HO HB
    unfold rrg at HB
    try unfold lz3 at HO HB
    dsimp only at HO HB
    clear Hg6 HU
    go_wp2_with fail
    exact bodyPost_ret (res_rr rfl rfl (g := w.heap.size + 1) HB.out) rfl (by rw [HXX.out, HY.out.1, HY.out.2]; exact ⟨A1, c1, B1, k1, rfl, HO.out.1, HO.out.2⟩)
  subst h0
  replace HX := Lib.hid (HX.out.trans (if_neg (by simp)))
  have HG := Lib.hid (KSGet_any d1 lname w7 HU.out.up3 HU.out.R HLen.out (by decide))
  rw [hq] at HG
  dsimp only at HG
  unfold lname at HG
  clear hq HLen
  have HV := Lib.hid hv
  clear hv
  go_wp2_with fail
  refine HG.out.mono ?_
  rintro e w8 ⟨rfl, hb2⟩
  have hU := HU.out.call hb2
  clear r0 r1 r2 r3 r4 r5 r6 r7 r8 r9 r10 rf0 rf1 rf2 rf3 rf4 rf5 rf6 rf7 rf8 rf9 rf10 u0 u1 u2 u3 u4 u5 u6 u7 u8 u9 u10 uf0 uf1 uf2 uf3 uf4 uf5 uf6 uf7 uf8 uf9 uf10 b0 b1 b2 b3 b4 bf0 bf1 bf2 bf3 bf4
  obtain ⟨r0, r1, r2, r3, r4, r5, r6, r7, r8, r9, r10⟩ := (hU).mm.b1.elev
  obtain ⟨rf0, rf1, rf2, rf3, rf4, rf5, rf6, rf7, rf8, rf9, rf10⟩ := (hU).mm.b1.frz
  have hu9 := (hU).mm.b0
  obtain ⟨u0, u1, u2, u3, u4, u5, u6, u7, u8, u9, u10⟩ := hu9.elev
  obtain ⟨uf0, uf1, uf2, uf3, uf4, uf5, uf6, uf7, uf8, uf9, uf10⟩ := hu9.frz
  clear hu9
  obtain ⟨b0, b1, b2, b3, b4, bf0, bf1, bf2, bf3, bf4⟩ := (hU).mm.b2.fiveC
  clear HG hb2 HU
  have HU := Lib.hid hU
  clear hU
  by_cases h4 : n2 = 4
  · subst h4
    have HXX := Lib.hid (show rgOpenB d sp bo = (d1, (0, 0, 0), 0) from by rw [HX.out, HR.out, if_pos rfl])
    clear HX HR HV
    have HO := Lib.hid ((HU.out).out (wr_setR _ (w.heap.size + 1) d1 A1 c1 B1 k1 sp bo lz3 0))
    have HB := Lib.hid ((HU.out).mm.b1.setR d1 A1 c1 B1 k1 sp bo lz3 0)
    unfold setR at HO HB
    unfold rrg at HB
    try unfold lz3 at HO HB
    dsimp only at HO HB
    clear Hg6 HU
    go_wp2_with fail
    exact bodyPost_ret (res_rr rfl rfl (g := w.heap.size + 1) HB.out) rfl (by rw [HXX.out, HY.out.1, HY.out.2]; exact ⟨A1, c1, B1, k1, rfl, HO.out.1, HO.out.2⟩)
  have hz4 : ((n2 : Int) == 4) = false := by simp; omega
  have HR2 := Lib.hid (HR.out.trans (if_neg h4))
  clear h4 HR
  by_cases h0 : n2 = 0
  rotate_left
  · have HXX := Lib.hid (show rgOpenB d sp bo = (d1, (0, 0, 0), n2) from by rw [HX.out, HR2.out, if_pos h0])
    have hz0 : ((n2 : Int) == 0) = false := by simp; omega
    clear HX HR2 h0 HV
    have HO := Lib.hid ((HU.out).out (wr_setR _ (w.heap.size + 1) d1 A1 c1 B1 k1 sp bo lz3 0))
    have HB := Lib.hid ((HU.out).mm.b1.setR d1 A1 c1 B1 k1 sp bo lz3 0)
    unfold setR at HO HB
    unfold rrg at HB
    try unfold lz3 at HO HB
    dsimp only at HO HB
    clear Hg6 HU
    go_wp2_with fail
    exact bodyPost_ret (res_rr rfl rfl (g := w.heap.size + 1) HB.out) rfl (by rw [HXX.out, HY.out.1, HY.out.2]; exact ⟨A1, c1, B1, k1, rfl, HO.out.1, HO.out.2⟩)
  subst h0
  have HXX := Lib.hid (show rgOpenB d sp bo = (d1, ((ltake v).1, (ltake v).2.1, (ltake v).2.2.1), (ltake v).2.2.2) from by rw [HX.out, HR2.out, if_neg (by simp)])
  clear HX HR2 hz4
  have hcs := run_bytes_of_string (P := Tryz.prog) w8 9 25 5 ⟨v.toArray⟩ Tryz.underlying9 Tryz.underlying25 Tryz.underlying5
  rw [show (⟨v.toArray⟩ : ByteArray).size = v.length from rfl] at hcs
  have hb4 : Below w8.heap.size w8 (cvWorldR w8 5 v) := convR_below w8 _ v
  have HLt := Lib.hid (rLTake_any (some ⟨w8.heap.size, 0, none⟩) (grownCap w8 v.length 0 5) v (cvWorldR w8 5 v) (convR_sl w8 _ v (by have := HV.out; unfold maxLen; omega) rfl) HV.out)
  unfold cvWorldR at hb4 HLt
  have hU := HU.out.call hb4
  have HU4 := Lib.hid hU
  clear hU hb4 HU
  go_wp2_with fail
  refine HLt.out.mono ?_
  rintro e w9 ⟨rfl, hb5⟩
  have hU := HU4.out.call hb5
  clear r0 r1 r2 r3 r4 r5 r6 r7 r8 r9 r10 rf0 rf1 rf2 rf3 rf4 rf5 rf6 rf7 rf8 rf9 rf10 u0 u1 u2 u3 u4 u5 u6 u7 u8 u9 u10 uf0 uf1 uf2 uf3 uf4 uf5 uf6 uf7 uf8 uf9 uf10 b0 b1 b2 b3 b4 bf0 bf1 bf2 bf3 bf4
  obtain ⟨r0, r1, r2, r3, r4, r5, r6, r7, r8, r9, r10⟩ := (hU).mm.b1.elev
  obtain ⟨rf0, rf1, rf2, rf3, rf4, rf5, rf6, rf7, rf8, rf9, rf10⟩ := (hU).mm.b1.frz
  have hu9 := (hU).mm.b0
  obtain ⟨u0, u1, u2, u3, u4, u5, u6, u7, u8, u9, u10⟩ := hu9.elev
  obtain ⟨uf0, uf1, uf2, uf3, uf4, uf5, uf6, uf7, uf8, uf9, uf10⟩ := hu9.frz
  clear hu9
  obtain ⟨b0, b1, b2, b3, b4, bf0, bf1, bf2, bf3, bf4⟩ := (hU).mm.b2.fiveC
  clear HLt hb5 HU4 hcs HV
  have HU := Lib.hid hU
  clear hU
  generalize ltake v = tk at *
  obtain ⟨x1, x2, x3, n3⟩ := tk
  dsimp only at HXX ⊢
  have HU5 := Lib.hid (KRu.set3 (d := d1) (A := A1) (c := c1) (B := B1) (k := k1) (sp := sp) (bo := bo) (n := 0) (L := (0, 0, 0)) HU.out x1 x2 x3)
  unfold rrg at HU5
  dsimp only at HU5
  clear HU
  go_upto_region 12 with (fail)
  refine gen1 (T := fun W => KRu T w W d1 A1 c1 B1 k1 g9 _) HU5.out (fun w10 hU => ?_)
  clear r0 r1 r2 r3 r4 r5 r6 r7 r8 r9 r10 rf0 rf1 rf2 rf3 rf4 rf5 rf6 rf7 rf8 rf9 rf10 u0 u1 u2 u3 u4 u5 u6 u7 u8 u9 u10 uf0 uf1 uf2 uf3 uf4 uf5 uf6 uf7 uf8 uf9 uf10 b0 b1 b2 b3 b4 bf0 bf1 bf2 bf3 bf4
  clear HU5
  obtain ⟨r0, r1, r2, r3, r4, r5, r6, r7, r8, r9, r10⟩ := (hU).mm.b1.elev
  obtain ⟨rf0, rf1, rf2, rf3, rf4, rf5, rf6, rf7, rf8, rf9, rf10⟩ := (hU).mm.b1.frz
  have hu9 := (hU).mm.b0
  obtain ⟨u0, u1, u2, u3, u4, u5, u6, u7, u8, u9, u10⟩ := hu9.elev
  obtain ⟨uf0, uf1, uf2, uf3, uf4, uf5, uf6, uf7, uf8, uf9, uf10⟩ := hu9.frz
  clear hu9
  obtain ⟨b0, b1, b2, b3, b4, bf0, bf1, bf2, bf3, bf4⟩ := (hU).mm.b2.fiveC
  have HU := Lib.hid hU
  clear hU
  have HO := Lib.hid ((HU.out).out (wr_setR _ (w.heap.size + 1) d1 A1 c1 B1 k1 sp bo (x1, x2, x3) 0))
  have HB := Lib.hid ((HU.out).mm.b1.setR d1 A1 c1 B1 k1 sp bo (x1, x2, x3) 0)
  unfold setR at HO HB
  unfold rrg at HB
  try unfold lz3 at HO HB
  dsimp only at HO HB
  clear Hg6 HU
  go_wp2_with fail
  exact bodyPost_ret (res_rr rfl rfl (g := w.heap.size + 1) HB.out) rfl (by rw [HXX.out, HY.out.1, HY.out.2]; exact ⟨A1, c1, B1, k1, rfl, HO.out.1, HO.out.2⟩)
end Go.Proofs.YtddmfoldnlafaaaGreatDoor
