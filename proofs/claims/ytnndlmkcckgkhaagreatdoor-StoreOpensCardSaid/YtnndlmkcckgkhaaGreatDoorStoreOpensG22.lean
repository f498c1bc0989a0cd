/- WHAT IT HOLDS: the document's store: which texts are names; objects deleted, put, read: walked. | WHAT IT HOLDS: a store's objects told: walked. | WHAT IT HOLDS: the law StoreSweeps, walked. -/
import Derived.Test.YtnndlmkcckgkhaaGreatDoorStoreOpensG15
import Derived.Test.YtnndlmkcckgkhaaGreatDoorStoreOpensG19
import Derived.Test.YtnndlmkcckgkhaaGreatDoorStoreOpensG13
import Derived.Test.YtnndlmkcckgkhaaGreatDoorStoreOpensG21
import Derived.Test.YtnndlmkcckgkhaaGreatDoorStoreOpensG14
import Derived.Carry
namespace Go.Proofs.YtnndlmkcckgkhaaGreatDoor
open Go.RowKit Go.Maps Go.Sort
attribute [local go_sem ↓] Go.wp_at_zero Go.wp_at_succ

set_option maxRecDepth 100000 in
set_option maxHeartbeats 1000000 in
theorem KSNamed_any (s : Bs) (w : World) (hl : s.length ≤ 4611686018427387904) : Calls Tryz.prog 41 #[.string ⟨s.toArray⟩] w fun e w' => e = .returned (.bool (snamed s)) ∧ Below w.heap.size w w' := by
  have hsz : (ByteArray.size ⟨s.toArray⟩) = s.length := by simp [ByteArray.size]
  have HN := Lib.hid (fun W => RNamed_any s W hl)
  go_enter Tryz.func41, Tryz.ntmps41
  go_wp2_with fail
  go_loopw [3] (fun x wr => ∃ k : Nat, k ≤ s.length ∧ x = .int .i64 k ∧ (∀ i (hi : i < s.length), i < k → s[i] ≠ 126) ∧ Below w.heap.size w wr) (fun x w => s.length - (intOf x).toNat)
  case atStart => exact ⟨0, Nat.zero_le _, rfl, (fun i _ hi => by omega), Below.refl _ _⟩
  case round =>
    obtain ⟨k, hk, rfl, hno, hb⟩ := hrel
    by_cases hlt : k < s.length
    · have hkI : (k : Int) < (s.length : Int) := by omega
      have hix : ∀ W : World, (Instr.index 9 (.string ⟨s.toArray⟩) (.int .i64 k)).run Tryz.prog W = .ok (.int .u8 (s[k].toNat : Int)) W := fun W => ix_str s hlt W
      obtain ⟨c0, hc0⟩ : ∃ c, s[k] = c := ⟨_, rfl⟩
      rw [hc0] at hix
      have he := Lib.hid hc0
      by_cases h1 : c0 = 126
      · subst h1
        have HS := Lib.hid (show snamed s = false from by
          have : (126 : UInt8) ∈ s := he.out ▸ List.getElem_mem hlt
          unfold snamed
          rw [decide_eq_true this]
          simp)
        clear hc0 hno
        rw [show ((126 : UInt8).toNat : Int) = 126 from rfl] at hix
        go_wp2_with fail
        go_ret
        exact ⟨by rw [HS.out]; rfl, hb⟩
      · have hx : ¬ (c0.toNat : Int) = 126 := fun e => h1 (UInt8.toNat_inj.1 (by show c0.toNat = 126; omega))
        have H1 := Lib.hid h1
        have b1 : ((c0.toNat : Int) == 126) = false := by simpa using hx
        generalize (c0.toNat : Int) = x at *
        clear hc0 h1
        go_wp2_with fail
        go_roundw
        case rel => exact ⟨k + 1, hlt, by go_num, (fun i hi hik => by
          rcases Nat.lt_or_ge i k with h | h
          · exact hno i hi h
          · obtain rfl : i = k := by omega
            rw [he.out]
            exact H1.out), hb⟩
        case measure => simp [intOf]; omega
    · have hkI : (s.length : Int) ≤ (k : Int) := by omega
      have hnm : 126 ∉ s := fun hm => by
        obtain ⟨i, hi, e⟩ := List.getElem_of_mem hm
        exact hno i hi (by omega) e
      have hd : decide ((126 : UInt8) ∈ s) = false := decide_eq_false hnm
      clear hno hnm
      rcases Nat.lt_or_ge 20 s.length with h | h
      · have hI : (20 : Int) < (s.length : Int) := by omega
        have HS := Lib.hid (show snamed s = false from by unfold snamed; rw [decide_eq_false (by omega)]; rfl)
        clear hd
        go_wp2_with fail
        go_ret
        exact ⟨by rw [HS.out]; rfl, hb⟩
      have hI : (s.length : Int) ≤ 20 := by omega
      have HS := Lib.hid (show snamed s = named s from by unfold snamed; rw [decide_eq_true (show s.length ≤ 20 by omega), hd]; simp)
      clear hd
      go_wp2_with fail
      refine (HN.out _).mono ?_
      rintro e w5 ⟨rfl, hb5⟩
      have hb6 := bel_call hb hb5
      go_wp2_with fail
      go_ret
      exact ⟨by rw [HS.out]; rfl, hb6⟩
/-- while the document's store acts: its disk lies in the first block, the result in the second one -/
structure KSt (T : Nat → Prop) (w W : World) (d : Dk Bs) (A : Option Addr) (c : Nat) (B : Option Addr) (k : Nat) : Prop where
  mm : Mm w W [(w.heap.size + 1, 79, rdz), (w.heap.size, 79, rda d A c B k)] []
  R : Rdk (T2 T w.heap.size) W d A c B k
  up : ∀ j, w.heap.size ≤ j → T j
section
variable {T : Nat → Prop} {w W W' : World} {d d' : Dk Bs} {A A' B B' : Option Addr} {c c' k k' : Nat}
theorem KSt.up2 (h : KSt T w W d A c B k) : ∀ j, W.heap.size ≤ j → T2 T w.heap.size j := T2.up h.up h.mm
theorem KSt.call (h : KSt T w W d A c B k) (hb : Below W.heap.size W W') : KSt T w W' d A c B k := ⟨h.mm.call hb, h.R.below hb, h.up⟩
/-- the disk is laid anew -/
theorem KSt.next (h : KSt T w W d A c B k) (hR : Rdk (T2 T w.heap.size) W' d' A' c' B' k') (hb : Below W.heap.size W W') : KSt T w (((((W'.setCell ⟨w.heap.size, 0, none⟩ (.int .i64 d'.room)).setCell ⟨w.heap.size, 1, none⟩ (.slice A' d'.sure.length c')).setCell ⟨w.heap.size, 2, none⟩ (.slice B' d'.pend.length k')).setCell ⟨w.heap.size, 3, none⟩ (.int .i64 d'.fuse)).setCell ⟨w.heap.size, 4, none⟩ (.bool d'.down)) d' A' c' B' k' := by
  refine ⟨(h.mm.call hb).st5 1 rfl _ _ _ _ _, ?_, h.up⟩
  have hw : Wr W' (((((W'.setCell ⟨w.heap.size, 0, none⟩ (.int .i64 d'.room)).setCell ⟨w.heap.size, 1, none⟩ (.slice A' d'.sure.length c')).setCell ⟨w.heap.size, 2, none⟩ (.slice B' d'.pend.length k')).setCell ⟨w.heap.size, 3, none⟩ (.int .i64 d'.fuse)).setCell ⟨w.heap.size, 4, none⟩ (.bool d'.down)) w.heap.size := (((((Wr.refl _ _).set_ 0 _).set_ 1 _).set_ 2 _).set_ 3 _).set_ 4 _
  exact hR.sameH (fun _ _ ht => ht) hw.size fun j hj ht => hw.block j hj fun e => ht.2.1 (by injection e)
/-- the result is laid -/
theorem KSt.out (h : KSt T w W d A c B k) : Rdk T (((((W.setCell ⟨w.heap.size + 1, 0, none⟩ (.int .i64 d.room)).setCell ⟨w.heap.size + 1, 1, none⟩ (.slice A d.sure.length c)).setCell ⟨w.heap.size + 1, 2, none⟩ (.slice B d.pend.length k)).setCell ⟨w.heap.size + 1, 3, none⟩ (.int .i64 d.fuse)).setCell ⟨w.heap.size + 1, 4, none⟩ (.bool d.down)) d A c B k ∧ Below w.heap.size w (((((W.setCell ⟨w.heap.size + 1, 0, none⟩ (.int .i64 d.room)).setCell ⟨w.heap.size + 1, 1, none⟩ (.slice A d.sure.length c)).setCell ⟨w.heap.size + 1, 2, none⟩ (.slice B d.pend.length k)).setCell ⟨w.heap.size + 1, 3, none⟩ (.int .i64 d.fuse)).setCell ⟨w.heap.size + 1, 4, none⟩ (.bool d.down)) :=
  ⟨h.R.sam ((Sam.refl w.heap.size W).st5 (.inr rfl) _ _ _ _ _), bel_st5 h.mm.bel (by omega) _ _ _ _ _⟩
theorem KSt.begin (hT : ∀ j, w.heap.size ≤ j → T j) (h : Rdk T w d A c B k) : KSt T w ((w.alloc (.cells (rda d A c B k) 79)).alloc (.cells rdz 79)) d A c B k := by
  have hM := ((Mm.start w).alloc (rda d A c B k) 79).alloc rdz 79
  rw [show (w.alloc (.cells (rda d A c B k) 79)).heap.size = w.heap.size + 1 by simp] at hM
  exact ⟨hM, h.t2 hM.bel, hT⟩
end
theorem opd_fu {α : Type} {d : Dk α} {r : Dk α × Nat} (h : Opd d r) {M : Int} (hf : d.fuse ≤ M) : r.1.fuse ≤ M := by
  rw [h.2.1]
  unfold dWorks
  split
  · exact hf
  · split
    · exact hf
    · split
      · dsimp only; omega
      · exact hf
set_option maxRecDepth 100000 in
set_option maxHeartbeats 1000000 in
theorem KSDelete_any {T : Nat → Prop} {A B : Option Addr} {c k : Nat} (d : Dk Bs) (n : Bs) (w : World) (hT : ∀ k, w.heap.size ≤ k → T k) (h : Rdk T w d A c B k) (hl : d.sure.length + d.pend.length ≤ 400) (hf : d.fuse ≤ 9223372036854775807) (hn : n.length ≤ 4611686018427387904) :
    Calls Tryz.prog 74 #[.agg (rda d A c B k), .string ⟨n.toArray⟩] w fun e w' => GvK T w w' e (sDelete ([] : Bs) d n) := by
  have HN := Lib.hid (fun W => KSNamed_any n W hn)
  have hS0 := KSt.begin hT h
  obtain ⟨r0, r1, r2, r3, r4, rf0, rf1, rf2, rf3, rf4⟩ := (hS0).mm.b0.fiveC
  obtain ⟨b0, b1, b2, b3, b4, bf0, bf1, bf2, bf3, bf4⟩ := (hS0).mm.b1.fiveC
  have HS0 := Lib.hid hS0
  clear h hT hS0
  unfold rda
  go_enter Tryz.func74, Tryz.ntmps74
  go_wp2_with fail
  refine (HN.out _).mono ?_
  rintro e w1 ⟨rfl, hb1⟩
  have hS := HS0.out.call hb1
  clear r0 r1 r2 r3 r4 rf0 rf1 rf2 rf3 rf4 b0 b1 b2 b3 b4 bf0 bf1 bf2 bf3 bf4
  clear HS0 hb1
  obtain ⟨r0, r1, r2, r3, r4, rf0, rf1, rf2, rf3, rf4⟩ := (hS).mm.b0.fiveC
  obtain ⟨b0, b1, b2, b3, b4, bf0, bf1, bf2, bf3, bf4⟩ := (hS).mm.b1.fiveC
  cases hs : snamed n with
  | false =>
    have HX := Lib.hid (show sDelete ([] : Bs) d n = (d, 2) from by unfold sDelete; rw [if_pos hs])
    have HS1 := Lib.hid hS
    clear hS
    have HO := Lib.hid (HS1.out).out
    have HB := Lib.hid (HS1.out).mm.b0
    go_wp2_with fail
    exact bodyPost_ret (res_k2 rfl rfl (g := w.heap.size + 1) (HB.out.st5 _ _ _ _ _)) rfl (by rw [HX.out]; exact ⟨_, _, _, _, rfl, HO.out.1, HO.out.2⟩)
  | true =>
    have HXX := Lib.hid (show sDelete ([] : Bs) d n = andThen (dRemove ([] : Bs) d n) dSync from by unfold sDelete; rw [if_neg (by simp [hs])])
    have HR := Lib.hid (KRemove_any (T := T2 T w.heap.size) d n w1 hS.up2 hS.R (by omega) hf hn)
    have hop := Opd.remove ([] : Bs) d n
    generalize dRemove ([] : Bs) d n = r at *
    go_wp2_with fail
    refine HR.out.mono ?_
    clear HR
    rintro e w2 ⟨A2, c2, B2, k2, rfl, hR2, hb2⟩
    obtain ⟨d1, n1⟩ := r
    have hf1 := opd_fu hop hf
    have hl1 := opd_len hop hl
    dsimp only at hf1 hl1 hR2 ⊢
    have HS2 := Lib.hid (hS.next hR2 hb2)
    clear r0 r1 r2 r3 r4 rf0 rf1 rf2 rf3 rf4 b0 b1 b2 b3 b4 bf0 bf1 bf2 bf3 bf4
    have hS2 := hS.call hb2
    clear hR2 hb2 hS hop
    obtain ⟨r0, r1, r2, r3, r4, rf0, rf1, rf2, rf3, rf4⟩ := (hS2).mm.b0.fiveC
    obtain ⟨b0, b1, b2, b3, b4, bf0, bf1, bf2, bf3, bf4⟩ := (hS2).mm.b1.fiveC
    unfold rda
    clear hS2
    go_upto_region 4 with (fail)
    refine gen1 (T := fun W => KSt T w W d1 A2 c2 B2 k2) HS2.out (fun w3 hS3 => ?_)
    clear r0 r1 r2 r3 r4 rf0 rf1 rf2 rf3 rf4 b0 b1 b2 b3 b4 bf0 bf1 bf2 bf3 bf4
    clear HS2 w2
    obtain ⟨r0, r1, r2, r3, r4, rf0, rf1, rf2, rf3, rf4⟩ := (hS3).mm.b0.fiveC
    obtain ⟨b0, b1, b2, b3, b4, bf0, bf1, bf2, bf3, bf4⟩ := (hS3).mm.b1.fiveC
    rcases Decidable.em (n1 = 0) with h0 | h0
    rotate_left
    · have HX := Lib.hid (HXX.out.trans (if_pos h0))
      have h1 : ¬ (n1 : Int) = 0 := by omega
      have hz : ((n1 : Int) == 0) = false := by simpa using h1
      have HS3 := Lib.hid hS3
      clear hS3 HXX h0 h1
      have HO := Lib.hid (HS3.out).out
      have HB := Lib.hid (HS3.out).mm.b0
      go_wp2_with fail
      exact bodyPost_ret (res_k2 rfl rfl (g := w.heap.size + 1) (HB.out.st5 _ _ _ _ _)) rfl (by rw [HX.out]; exact ⟨_, _, _, _, rfl, HO.out.1, HO.out.2⟩)
    subst h0
    replace HXX := Lib.hid (HXX.out.trans (if_neg (by simp)))
    dsimp only at HXX
    have HR := Lib.hid (KSync_any (T := T2 T w.heap.size) d1 w3 hS3.up2 hS3.R (by omega) hf1)
    have hop := Opd.sync d1
    generalize dSync d1 = r at *
    replace hS := hS3
    replace hf := hf1
    replace hl := hl1
    clear hS3 hf1 hl1
    go_wp2_with fail
    refine HR.out.mono ?_
    clear HR
    rintro e w2 ⟨A2, c2, B2, k2, rfl, hR2, hb2⟩
    obtain ⟨d1, n1⟩ := r
    dsimp only at hR2 ⊢
    have HS2 := Lib.hid (hS.next hR2 hb2)
    clear r0 r1 r2 r3 r4 rf0 rf1 rf2 rf3 rf4 b0 b1 b2 b3 b4 bf0 bf1 bf2 bf3 bf4
    have hS2 := hS.call hb2
    clear hR2 hb2 hS hop
    obtain ⟨r0, r1, r2, r3, r4, rf0, rf1, rf2, rf3, rf4⟩ := (hS2).mm.b0.fiveC
    obtain ⟨b0, b1, b2, b3, b4, bf0, bf1, bf2, bf3, bf4⟩ := (hS2).mm.b1.fiveC
    unfold rda
    clear hS2
    go_upto_region 6 with (fail)
    refine gen1 (T := fun W => KSt T w W d1 A2 c2 B2 k2) HS2.out (fun w3 hS3 => ?_)
    clear r0 r1 r2 r3 r4 rf0 rf1 rf2 rf3 rf4 b0 b1 b2 b3 b4 bf0 bf1 bf2 bf3 bf4
    clear HS2 w2
    obtain ⟨r0, r1, r2, r3, r4, rf0, rf1, rf2, rf3, rf4⟩ := (hS3).mm.b0.fiveC
    obtain ⟨b0, b1, b2, b3, b4, bf0, bf1, bf2, bf3, bf4⟩ := (hS3).mm.b1.fiveC
    have HX := HXX
    have HS3 := Lib.hid hS3
    clear hS3 HXX
    have HO := Lib.hid (HS3.out).out
    have HB := Lib.hid (HS3.out).mm.b0
    go_wp2_with fail
    exact bodyPost_ret (res_k2 rfl rfl (g := w.heap.size + 1) (HB.out.st5 _ _ _ _ _)) rfl (by rw [HX.out]; exact ⟨_, _, _, _, rfl, HO.out.1, HO.out.2⟩)
set_option maxRecDepth 100000 in
set_option maxHeartbeats 1000000 in
theorem KSPut_any {T : Nat → Prop} {A B : Option Addr} {c k : Nat} (d : Dk Bs) (n v : Bs) (w : World) (hT : ∀ k, w.heap.size ≤ k → T k) (h : Rdk T w d A c B k) (hl : d.sure.length + d.pend.length ≤ 400) (hf : d.fuse ≤ 9223372036854775807) (hn : n.length ≤ 1152921504606846976) (hv : v.length ≤ 4611686018427387904) (hr : Ris d.sure) (hu : fused bln d.shown ≤ 1000000000000) :
    Calls Tryz.prog 81 #[.agg (rda d A c B k), .string ⟨n.toArray⟩, .string ⟨v.toArray⟩] w fun e w' => GvK T w w' e (sPut bln ([] : Bs) d n v) := by
  have HN := Lib.hid (fun W => KSNamed_any n W (by omega))
  have hS0 := KSt.begin hT h
  obtain ⟨r0, r1, r2, r3, r4, rf0, rf1, rf2, rf3, rf4⟩ := (hS0).mm.b0.fiveC
  obtain ⟨b0, b1, b2, b3, b4, bf0, bf1, bf2, bf3, bf4⟩ := (hS0).mm.b1.fiveC
  have HS0 := Lib.hid hS0
  clear h hT hS0
  unfold rda
  have hcat := cat_begun n
  have hbl : (begun n).length ≤ 1152921504606846977 := by unfold begun; simp; omega
  have hsz : (ByteArray.size ⟨n.toArray⟩) = n.length := by simp [ByteArray.size]
  have hsz1 : (ByteArray.size ⟨#[126]⟩) = 1 := rfl
  have HXX := Lib.hid (fun (hs : snamed n = true) => (show sPut bln ([] : Bs) d n v = andThen (dWrite bln d (begun n) v) fun d => andThen (dSync d) fun d => andThen (dRename ([] : Bs) d (begun n) n) dSync from by unfold sPut; rw [if_neg (by simp [hs])]))
  generalize hbn : begun n = bn at *
  clear hbn
  go_enter Tryz.func81, Tryz.ntmps81
  go_wp2_with fail
  refine (HN.out _).mono ?_
  rintro e w1 ⟨rfl, hb1⟩
  have hS := HS0.out.call hb1
  clear r0 r1 r2 r3 r4 rf0 rf1 rf2 rf3 rf4 b0 b1 b2 b3 b4 bf0 bf1 bf2 bf3 bf4
  clear HS0 hb1
  obtain ⟨r0, r1, r2, r3, r4, rf0, rf1, rf2, rf3, rf4⟩ := (hS).mm.b0.fiveC
  obtain ⟨b0, b1, b2, b3, b4, bf0, bf1, bf2, bf3, bf4⟩ := (hS).mm.b1.fiveC
  cases hs : snamed n with
  | false =>
    have HX := Lib.hid (show sPut bln ([] : Bs) d n v = (d, 2) from by unfold sPut; rw [if_pos hs])
    have HS1 := Lib.hid hS
    clear hS
    have HO := Lib.hid (HS1.out).out
    have HB := Lib.hid (HS1.out).mm.b0
    go_wp2_with fail
    exact bodyPost_ret (res_k2 rfl rfl (g := w.heap.size + 1) (HB.out.st5 _ _ _ _ _)) rfl (by rw [HX.out]; exact ⟨_, _, _, _, rfl, HO.out.1, HO.out.2⟩)
  | true =>
    replace HXX := Lib.hid (HXX.out hs)
    have HR := Lib.hid (KWrite_any (T := T2 T w.heap.size) d bn v w1 hS.up2 hS.R (by omega) hf (by omega) hv hr hu)
    have hop := Opd.write bln d bn v
    generalize dWrite bln d bn v = r at *
    go_wp2_with fail
    refine HR.out.mono ?_
    clear HR
    rintro e w2 ⟨A2, c2, B2, k2, rfl, hR2, hb2⟩
    obtain ⟨d1, n1⟩ := r
    have hf1 := opd_fu hop hf
    have hl1 := opd_len hop hl
    dsimp only at hf1 hl1 hR2 ⊢
    have HS2 := Lib.hid (hS.next hR2 hb2)
    clear r0 r1 r2 r3 r4 rf0 rf1 rf2 rf3 rf4 b0 b1 b2 b3 b4 bf0 bf1 bf2 bf3 bf4
    have hS2 := hS.call hb2
    clear hR2 hb2 hS hop
    obtain ⟨r0, r1, r2, r3, r4, rf0, rf1, rf2, rf3, rf4⟩ := (hS2).mm.b0.fiveC
    obtain ⟨b0, b1, b2, b3, b4, bf0, bf1, bf2, bf3, bf4⟩ := (hS2).mm.b1.fiveC
    unfold rda
    clear hS2
    go_upto_region 4 with (fail)
    refine gen1 (T := fun W => KSt T w W d1 A2 c2 B2 k2) HS2.out (fun w3 hS3 => ?_)
    clear r0 r1 r2 r3 r4 rf0 rf1 rf2 rf3 rf4 b0 b1 b2 b3 b4 bf0 bf1 bf2 bf3 bf4
    clear HS2 w2
    obtain ⟨r0, r1, r2, r3, r4, rf0, rf1, rf2, rf3, rf4⟩ := (hS3).mm.b0.fiveC
    obtain ⟨b0, b1, b2, b3, b4, bf0, bf1, bf2, bf3, bf4⟩ := (hS3).mm.b1.fiveC
    rcases Decidable.em (n1 = 0) with h0 | h0
    rotate_left
    · have HX := Lib.hid (HXX.out.trans (if_pos h0))
      have h1 : ¬ (n1 : Int) = 0 := by omega
      have hz : ((n1 : Int) == 0) = false := by simpa using h1
      have HS3 := Lib.hid hS3
      clear hS3 HXX h0 h1
      have HO := Lib.hid (HS3.out).out
      have HB := Lib.hid (HS3.out).mm.b0
      go_wp2_with fail
      exact bodyPost_ret (res_k2 rfl rfl (g := w.heap.size + 1) (HB.out.st5 _ _ _ _ _)) rfl (by rw [HX.out]; exact ⟨_, _, _, _, rfl, HO.out.1, HO.out.2⟩)
    subst h0
    replace HXX := Lib.hid (HXX.out.trans (if_neg (by simp)))
    dsimp only at HXX
    have HR := Lib.hid (KSync_any (T := T2 T w.heap.size) d1 w3 hS3.up2 hS3.R (by omega) hf1)
    have hop := Opd.sync d1
    generalize dSync d1 = r at *
    replace hS := hS3
    replace hf := hf1
    replace hl := hl1
    clear hS3 hf1 hl1
    go_wp2_with fail
    refine HR.out.mono ?_
    clear HR
    rintro e w2 ⟨A2, c2, B2, k2, rfl, hR2, hb2⟩
    obtain ⟨d1, n1⟩ := r
    have hf1 := opd_fu hop hf
    have hl1 := opd_len hop hl
    dsimp only at hf1 hl1 hR2 ⊢
    have HS2 := Lib.hid (hS.next hR2 hb2)
    clear r0 r1 r2 r3 r4 rf0 rf1 rf2 rf3 rf4 b0 b1 b2 b3 b4 bf0 bf1 bf2 bf3 bf4
    have hS2 := hS.call hb2
    clear hR2 hb2 hS hop
    obtain ⟨r0, r1, r2, r3, r4, rf0, rf1, rf2, rf3, rf4⟩ := (hS2).mm.b0.fiveC
    obtain ⟨b0, b1, b2, b3, b4, bf0, bf1, bf2, bf3, bf4⟩ := (hS2).mm.b1.fiveC
    unfold rda
    clear hS2
    go_upto_region 6 with (fail)
    refine gen1 (T := fun W => KSt T w W d1 A2 c2 B2 k2) HS2.out (fun w3 hS3 => ?_)
    clear r0 r1 r2 r3 r4 rf0 rf1 rf2 rf3 rf4 b0 b1 b2 b3 b4 bf0 bf1 bf2 bf3 bf4
    clear HS2 w2
    obtain ⟨r0, r1, r2, r3, r4, rf0, rf1, rf2, rf3, rf4⟩ := (hS3).mm.b0.fiveC
    obtain ⟨b0, b1, b2, b3, b4, bf0, bf1, bf2, bf3, bf4⟩ := (hS3).mm.b1.fiveC
    rcases Decidable.em (n1 = 0) with h0 | h0
    rotate_left
    · have HX := Lib.hid (HXX.out.trans (if_pos h0))
      have h1 : ¬ (n1 : Int) = 0 := by omega
      have hz : ((n1 : Int) == 0) = false := by simpa using h1
      have HS3 := Lib.hid hS3
      clear hS3 HXX h0 h1
      have HO := Lib.hid (HS3.out).out
      have HB := Lib.hid (HS3.out).mm.b0
      go_wp2_with fail
      exact bodyPost_ret (res_k2 rfl rfl (g := w.heap.size + 1) (HB.out.st5 _ _ _ _ _)) rfl (by rw [HX.out]; exact ⟨_, _, _, _, rfl, HO.out.1, HO.out.2⟩)
    subst h0
    replace HXX := Lib.hid (HXX.out.trans (if_neg (by simp)))
    dsimp only at HXX
    have HR := Lib.hid (KRename_any (T := T2 T w.heap.size) d1 bn n w3 hS3.up2 hS3.R (by omega) hf1 (by omega) (by omega))
    have hop := Opd.rename ([] : Bs) d1 bn n
    generalize dRename ([] : Bs) d1 bn n = r at *
    replace hS := hS3
    replace hf := hf1
    replace hl := hl1
    clear hS3 hf1 hl1
    go_wp2_with fail
    refine HR.out.mono ?_
    clear HR
    rintro e w2 ⟨A2, c2, B2, k2, rfl, hR2, hb2⟩
    obtain ⟨d1, n1⟩ := r
    have hf1 := opd_fu hop hf
    have hl1 := opd_len hop hl
    dsimp only at hf1 hl1 hR2 ⊢
    have HS2 := Lib.hid (hS.next hR2 hb2)
    clear r0 r1 r2 r3 r4 rf0 rf1 rf2 rf3 rf4 b0 b1 b2 b3 b4 bf0 bf1 bf2 bf3 bf4
    have hS2 := hS.call hb2
    clear hR2 hb2 hS hop
    obtain ⟨r0, r1, r2, r3, r4, rf0, rf1, rf2, rf3, rf4⟩ := (hS2).mm.b0.fiveC
    obtain ⟨b0, b1, b2, b3, b4, bf0, bf1, bf2, bf3, bf4⟩ := (hS2).mm.b1.fiveC
    unfold rda
    clear hS2
    go_upto_region 8 with (fail)
    refine gen1 (T := fun W => KSt T w W d1 A2 c2 B2 k2) HS2.out (fun w3 hS3 => ?_)
    clear r0 r1 r2 r3 r4 rf0 rf1 rf2 rf3 rf4 b0 b1 b2 b3 b4 bf0 bf1 bf2 bf3 bf4
    clear HS2 w2
    obtain ⟨r0, r1, r2, r3, r4, rf0, rf1, rf2, rf3, rf4⟩ := (hS3).mm.b0.fiveC
    obtain ⟨b0, b1, b2, b3, b4, bf0, bf1, bf2, bf3, bf4⟩ := (hS3).mm.b1.fiveC
    rcases Decidable.em (n1 = 0) with h0 | h0
    rotate_left
    · have HX := Lib.hid (HXX.out.trans (if_pos h0))
      have h1 : ¬ (n1 : Int) = 0 := by omega
      have hz : ((n1 : Int) == 0) = false := by simpa using h1
      have HS3 := Lib.hid hS3
      clear hS3 HXX h0 h1
      have HO := Lib.hid (HS3.out).out
      have HB := Lib.hid (HS3.out).mm.b0
      go_wp2_with fail
      exact bodyPost_ret (res_k2 rfl rfl (g := w.heap.size + 1) (HB.out.st5 _ _ _ _ _)) rfl (by rw [HX.out]; exact ⟨_, _, _, _, rfl, HO.out.1, HO.out.2⟩)
    subst h0
    replace HXX := Lib.hid (HXX.out.trans (if_neg (by simp)))
    dsimp only at HXX
    have HR := Lib.hid (KSync_any (T := T2 T w.heap.size) d1 w3 hS3.up2 hS3.R (by omega) hf1)
    have hop := Opd.sync d1
    generalize dSync d1 = r at *
    replace hS := hS3
    replace hf := hf1
    replace hl := hl1
    clear hS3 hf1 hl1
    go_wp2_with fail
    refine HR.out.mono ?_
    clear HR
    rintro e w2 ⟨A2, c2, B2, k2, rfl, hR2, hb2⟩
    obtain ⟨d1, n1⟩ := r
    dsimp only at hR2 ⊢
    have HS2 := Lib.hid (hS.next hR2 hb2)
    clear r0 r1 r2 r3 r4 rf0 rf1 rf2 rf3 rf4 b0 b1 b2 b3 b4 bf0 bf1 bf2 bf3 bf4
    have hS2 := hS.call hb2
    clear hR2 hb2 hS hop
    obtain ⟨r0, r1, r2, r3, r4, rf0, rf1, rf2, rf3, rf4⟩ := (hS2).mm.b0.fiveC
    obtain ⟨b0, b1, b2, b3, b4, bf0, bf1, bf2, bf3, bf4⟩ := (hS2).mm.b1.fiveC
    unfold rda
    clear hS2
    go_upto_region 10 with (fail)
    refine gen1 (T := fun W => KSt T w W d1 A2 c2 B2 k2) HS2.out (fun w3 hS3 => ?_)
    clear r0 r1 r2 r3 r4 rf0 rf1 rf2 rf3 rf4 b0 b1 b2 b3 b4 bf0 bf1 bf2 bf3 bf4
    clear HS2 w2
    obtain ⟨r0, r1, r2, r3, r4, rf0, rf1, rf2, rf3, rf4⟩ := (hS3).mm.b0.fiveC
    obtain ⟨b0, b1, b2, b3, b4, bf0, bf1, bf2, bf3, bf4⟩ := (hS3).mm.b1.fiveC
    have HX := HXX
    have HS3 := Lib.hid hS3
    clear hS3 HXX
    have HO := Lib.hid (HS3.out).out
    have HB := Lib.hid (HS3.out).mm.b0
    go_wp2_with fail
    exact bodyPost_ret (res_k2 rfl rfl (g := w.heap.size + 1) (HB.out.st5 _ _ _ _ _)) rfl (by rw [HX.out]; exact ⟨_, _, _, _, rfl, HO.out.1, HO.out.2⟩)
def sGetK (d : Dk Bs) (n : Bs) : Bs × Nat := if snamed n = false then ([], 2) else rRead d n
set_option maxRecDepth 100000 in
set_option maxHeartbeats 1000000 in
theorem KSGet_any {T : Nat → Prop} {A B : Option Addr} {c k : Nat} (d : Dk Bs) (n : Bs) (w : World) (hT : ∀ k, w.heap.size ≤ k → T k) (h : Rdk T w d A c B k) (hl : d.sure.length + d.pend.length ≤ 100000) (hn : n.length ≤ 4611686018427387904) :
    Calls Tryz.prog 75 #[.agg (rda d A c B k), .string ⟨n.toArray⟩] w fun e w' => e = .returned (.tuple #[.string ⟨(sGetK d n).1.toArray⟩, .int .i64 ((sGetK d n).2 : Nat)]) ∧ Below w.heap.size w w' := by
  have HN := Lib.hid (fun W => KSNamed_any n W hn)
  have hb0 := below_new w (.cells (rda d A c B k) 79)
  have hB := Blk.new w 79 (rda d A c B k)
  have HB := Lib.hid hB
  have HR := Lib.hid h
  have HT := Lib.hid hT
  clear h hB hT
  go_enter Tryz.func75, Tryz.ntmps75
  go_wp2_with fail
  refine (HN.out _).mono ?_
  rintro e w1 ⟨rfl, hb1⟩
  have hb2 := bel_call hb0 hb1
  cases hs : snamed n with
  | false =>
    have HX := Lib.hid (show sGetK d n = ([], 2) from by unfold sGetK; rw [if_pos hs])
    go_wp2_with fail
    go_ret2
    exact ⟨by rw [HX.out]; rfl, hb2⟩
  | true =>
    have HX := Lib.hid (show sGetK d n = rRead d n from by unfold sGetK; rw [if_neg (by simp [hs])])
    have HK := Lib.hid (KRead_any (T := T) d n w1 (fun j hj => HT.out j (by have := hb2.size; omega)) ((HR.out.below hb0).below hb1) hl)
    obtain ⟨r0, r1, r2, r3, r4, -⟩ := (HB.out.below hb1).fiveC
    go_wp2_with fail
    refine HK.out.mono ?_
    rintro e w3 ⟨rfl, hb3⟩
    have hb4 := bel_call hb2 hb3
    go_wp2_with fail
    go_ret2
    exact ⟨by rw [HX.out]; rfl, hb4⟩
end Go.Proofs.YtnndlmkcckgkhaaGreatDoor

namespace Go.Proofs.YtnndlmkcckgkhaaGreatDoor
open Go.RowKit Go.Maps Go.Sort
attribute [local go_sem ↓] Go.wp_at_zero Go.wp_at_succ

theorem bel_grown2 {w0 w w' : World} {B : Nat} {A : Option Addr} {o : Obj} (h : Below B w0 w) (hlo : B ≤ w.heap.size) (hA : ∀ k, A.map (·.block) = some k → B ≤ k) (hg : (w.alloc o).grownBy w' (A.map (·.block))) (hs : B ≤ w0.heap.size) : Below B w0 w' := by
  have h2 := h.alloc hlo o
  refine ⟨hg.os.trans h2.os, hg.tape.trans h2.tape, hg.output.trans h2.output, Nat.le_trans h2.size hg.size, fun i hi => (hg.block i (Nat.lt_of_lt_of_le hi (Nat.le_trans hs h2.size)) (fun e => ?_)).trans (h2.block i hi)⟩
  have := hA i e.symm
  omega
theorem tx_info2 : (Tryz.prog.info? 9).map (fun i => (i.zero, i.size, i.bytes)) = some (some (.string ⟨#[]⟩), 1, 16) := by kernel_rfl
theorem lit_tx2 (w : World) (x : Bs) : Sl (w.alloc (.cells #[.string ⟨x.toArray⟩] 9)) 1 (some ⟨w.heap.size, 0, none⟩) 1 1 (tx [x]) :=
  ⟨by simp [tx], by omega, by simp [maxLen], (fun h => by cases h), fun j u hj => ⟨_, rfl, by
    rw [addr_lit, cell_of_row _ _ _ _ 9 (0, 0) (heap_alloc_new w _)]
    simpa [tx, encStr] using hj⟩⟩
theorem wpl_tx2 {w : World} {ops : Array Oper} {rest : List Oper} {o : Oper} {a : Act} {Q : Exit → Act → World → Prop} (hgd : o.guard = none) (s x : Operand)
    (ho : o.op = .call { callee := .builtin .append, args := #[s, x], argTypes := #[97, 97] })
    (base : Nat) (A : Option Addr) (c : Nat) (l : List Bs) (hs : a.eval s = .slice A l.length c) (hown : OwnT w base A c l) (hn : l.length ≤ 1000000000000)
    (p : Bs) (gx : Nat) (hgx : gx = w.heap.size) (hx : a.eval x = .slice (some ⟨gx, 0, none⟩) 1 1) (hbase : base ≤ w.heap.size)
    (h : ∀ A' c' m w', Hid (m = l ++ [p]) → OwnT w' base A' c' m → (w.alloc (.cells #[.string ⟨p.toArray⟩] 9)).grownBy w' (A.map (·.block)) → (A'.map (·.block) = A.map (·.block) ∨ A'.map (·.block) = some (w.alloc (.cells #[.string ⟨p.toArray⟩] 9)).heap.size) → wpList Tryz.prog ops Q rest (a.put o.dst (.slice A' m.length c')) w') : wpList Tryz.prog ops Q (o :: rest) a (w.alloc (.cells #[.string ⟨p.toArray⟩] 9)) := by
  subst hgx
  obtain ⟨i0, hi, hz0, hz1, hz2⟩ := info_parts tx_info2
  have hown2 : OwnT (w.alloc (.cells #[.string ⟨p.toArray⟩] 9)) base A c l := World.ownsRow.alloc hown _
  refine wpl_append hgd s x 97 ho base 9 i0 _ 1 16 Tryz.underlying97 hi hz0 hz1 hz2 rfl (by decide) A l.length c _ hs hown2 _ 1 1 (tx [p]) hx (lit_tx2 w p) (by intro u hu; simp [tx, encStr] at hu; subst hu; rfl) (by omega) (by unfold maxLen; omega) (by simp; omega) ?_
  intro A' c' w' hap
  have hlen : l.length + 1 = (l ++ [p]).length := by simp
  rw [hlen]
  exact h A' c' (l ++ [p]) w' (show _ = _ from rfl) (by have := hap.own; unfold OwnT tx; rw [List.map_append]; simpa using this) hap.grown hap.place
set_option maxRecDepth 100000 in
set_option maxHeartbeats 1000000 in
theorem SList_any {w : World} {gs : Nat} {q : Fp} {d : Dk Sv} (h : StM w gs q d) (hl : d.sure.length + d.pend.length ≤ 1000) (p : Bs) :
    Calls Tryz.prog 36 #[.pointer (some ⟨gs, 0, none⟩), .string ⟨p.toArray⟩] w fun e w' => ∃ A c m, e = .returned (.tuple #[.slice A (List.length m) c, errv (sList d p).2]) ∧ Hid (m = (sList d p).1) ∧ OwnT w' w.heap.size A c m ∧ Below w.heap.size w w' := by
  obtain ⟨p1, p2, p3, -⟩ := h.dsk.fits hl (by omega)
  have HL := Lib.hid (DList_any h.dsk p2)
  have hb := h.cl
  have hshn := h.dsk.shown_mem
  have hshl : d.shown.length ≤ 1000 := by have := flen_dos d.sure d.pend; unfold Dk.shown; omega
  clear h
  cases hd : d.down with
  | true =>
    rw [hd, if_pos rfl, if_pos rfl, show errv 14 = Value.iface 68 (.int .i64 14) from rfl] at HL
    have HX := Lib.hid (show sList d p = ([], 14) from by unfold sList; rw [if_pos hd])
    go_enter Tryz.func36, Tryz.ntmps36
    go_wp2_with fail
    refine HL.out.mono ?_
    rintro e w1 ⟨A, c, m, rfl, hm, ho, hb⟩
    go_wp2_with fail
    go_ret2
    exact ⟨none, 0, [], by rw [HX.out]; rfl, (show _ = _ from by rw [HX.out]), Own.none_ _ _ _ _, hb⟩
  | false =>
    rw [hd, if_neg (by simp), if_neg (by simp), show errv 0 = Value.nilIface from rfl] at HL
    have HX := Lib.hid (show sList d p = ((names d.shown).filter (sPick p), 0) from by unfold sList; rw [if_neg (by simp [hd])])
    go_enter Tryz.func36, Tryz.ntmps36
    go_wp2_with fail
    refine HL.out.mono ?_
    rintro e w1 ⟨A, c, m, rfl, hm, ho, hb1⟩
    have hml : m.length ≤ 1000 := by rw [hm.out]; unfold names; rw [List.length_map]; exact hshl
    have HN := Lib.hid (show ∀ x ∈ m, x.length ≤ 24 from by
      rw [hm.out]
      intro x hx
      obtain ⟨p, hp, rfl⟩ := List.mem_map.1 hx
      exact (hshn p hp).1)
    rw [← hm.out] at HX
    have HT := Lib.hid (show SlT w1 A c m from Own.sl ho)
    have HB1 := Lib.hid hb1
    clear HL hm ho hshn hb hb1
    go_wp2_with fail
    go_loopw [27, 8] (fun x y wr => ∃ (i : Nat) (B : Option Addr) (k : Nat) (l : List Bs), i ≤ m.length ∧ x = .int .i64 i ∧ y = .slice B l.length k ∧ Hid (l = (m.take i).filter (sPick p)) ∧ OwnT wr w1.heap.size B k l ∧ Below w1.heap.size w1 wr) (fun x _ w => m.length - (intOf x).toNat)
    case atStart => exact ⟨0, none, 0, [], Nat.zero_le _, rfl, rfl, Lib.hid rfl, Own.none_ _ _ _ _, Below.refl _ _⟩
    case round =>
      obtain ⟨i, B, k, l, hi, rfl, rfl, hlm, ho, hbr⟩ := hrel
      have hll : l.length ≤ 1000 := by
        rw [hlm.out]
        have := List.length_filter_le (sPick p) (m.take i)
        rw [List.length_take] at this
        omega
      by_cases hlt : i < m.length
      · have hI : (i : Int) < (m.length : Int) := by omega
        obtain ⟨ad, b, o, hA, had, hc⟩ := SlT.at1 (HT.out.below hbr) hlt
        have hxn := HN.out _ (List.getElem_mem hlt)
        have HF := Lib.hid (show (m.take (i + 1)).filter (sPick p) = (m.take i).filter (sPick p) ++ (if sPick p m[i] = true then [m[i]] else []) from by
          rw [List.take_succ_eq_append_getElem hlt, List.filter_append]
          congr 1
          by_cases h : sPick p m[i] = true
          · rw [if_pos h]; simp [h]
          · rw [if_neg h]; simp [h])
        generalize m[i] = x at *
        subst hA
        have HNm := Lib.hid (fun W => SNamed_any x W (by omega))
        have hpx : ∀ W : World, Calls Tryz.prog 71 #[.string ⟨x.toArray⟩, .string ⟨p.toArray⟩] W fun e w' => e = .returned (.bool (Lib.hasPrefix x p)) ∧ w' = W := fun W => Tryz.strings_HasPrefix ⟨x.toArray⟩ ⟨p.toArray⟩ W
        have HP := Lib.hid hpx
        clear hpx
        have HO := Lib.hid ho
        clear ho
        go_wp2_with fail
        refine (HNm.out _).mono ?_
        rintro e w5 ⟨rfl, hb5⟩
        have hb6 := bel_call hbr hb5
        have ho6 := Own.below HO.out hb5
        cases hsn : snamed x with
        | false =>
          rw [show sPick p x = false from by unfold sPick; rw [hsn]; rfl, if_neg (by simp), List.append_nil] at HF
          have HO6 := Lib.hid ho6
          clear ho6 HO hb5
          go_wp2_with fail
          go_roundw
          case rel => exact ⟨i + 1, B, k, l, hlt, by go_num, rfl, Lib.hid (by rw [HF.out, hlm.out]), HO6.out, hb6⟩
          case measure => simp [intOf]; omega
        | true =>
          have hpk : sPick p x = Lib.hasPrefix x p := by unfold sPick; rw [hsn]; rfl
          have HO6 := Lib.hid ho6
          clear ho6 HO hb5
          go_wp2_with fail
          refine (HP.out _).mono ?_
          rintro e w6 ⟨rfl, rfl⟩
          cases hhp : Lib.hasPrefix x p with
          | false =>
            rw [hpk, hhp, if_neg (by simp), List.append_nil] at HF
            go_wp2_with fail
            go_roundw
            case rel => exact ⟨i + 1, B, k, l, hlt, by go_num, rfl, Lib.hid (by rw [HF.out, hlm.out]), HO6.out, hb6⟩
            case measure => simp [intOf]; omega
          | true =>
            rw [hpk, hhp, if_pos rfl, ← hlm.out] at HF
            have ho7 := HO6.out
            have hbs := hb6.size
            go_wp2_with (at_builtin; go_must (refine wpl_tx2 rfl _ _ rfl w1.heap.size B k l rfl ho7 (by omega) x _ rfl rfl hbs ?_); intro A8 c8 m8 w8 hm8 ho8 hg8 hp8)
            have hb8 := bel_grown2 hb6 hbs (fun k hk => (Own.lt ho7 k hk).1) hg8 (Nat.le_refl _)
            go_roundw
            case rel => exact ⟨i + 1, A8, c8, m8, hlt, by go_num, rfl, Lib.hid (by rw [hm8.out, HF.out]), ho8, hb8⟩
            case measure => simp [intOf]; omega
      · have hI : (m.length : Int) ≤ (i : Int) := by omega
        have HM := Lib.hid (show l = (sList d p).1 from by rw [hlm.out, HX.out, List.take_of_length_le (by omega)])
        have HBB := Lib.hid (bel_call HB1.out hbr)
        have HO := Lib.hid (show OwnT wr w.heap.size B k l from Own.more ho HB1.out.size)
        clear ho hbr hlm
        go_wp2_with fail
        go_ret2
        exact ⟨B, k, l, by rw [HX.out]; rfl, HM, HO.out, HBB.out⟩
end Go.Proofs.YtnndlmkcckgkhaaGreatDoor

namespace Go.Proofs.YtnndlmkcckgkhaaGreatDoor
open Go.RowKit Go.Maps Go.Sort
attribute [local go_sem ↓] Go.wp_at_zero Go.wp_at_succ

theorem errv_iface2 {n : Nat} (h : n ≠ 0) : ∃ v, errv n = .iface 68 v := errv_ifc h
theorem zero_str2 (w : World) : (zeroValue 9).run Tryz.prog w = .ok (.string ⟨#[]⟩) w := by kernel_rfl
theorem dRead_fre2 {d : Dk Sv} (h : Fre d) (n : Bs) : dRead d n = match gget n d.shown with | none => (none, 4) | some v => (some v, 0) := by
  unfold dRead
  rw [h.2, if_neg (by simp)]
  cases gget n d.shown <;> rfl
theorem head_ix {x : Bs} (hn : named x = true) : ∃ c : UInt8, isBegun x = (126 == c) ∧ ∀ W : World, (Instr.index 9 (.string ⟨x.toArray⟩) (.int .i64 0)).run Tryz.prog W = .ok (.int .u8 (c.toNat : Int)) W := by
  cases x with
  | nil => cases hn
  | cons c r => exact ⟨c, begun_head, fun W => ix_str (c :: r) (k := 0) (by simp) W⟩
end Go.Proofs.YtnndlmkcckgkhaaGreatDoor
