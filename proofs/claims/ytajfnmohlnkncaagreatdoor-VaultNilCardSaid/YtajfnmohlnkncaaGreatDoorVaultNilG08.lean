/- WHAT IT HOLDS: what the package frame computes, walked. | WHAT IT HOLDS: Put of segments, and the law's fixed fact, walked. | WHAT IT HOLDS: the fixed fact of the manifest's laws, walked: the bytes of the empty manifest. | WHAT IT HOLDS: which cursors there are, plainly and walked. -/
import Derived.Test.YtajfnmohlnkncaaGreatDoorVaultNilG01
import Derived.Test.YtajfnmohlnkncaaGreatDoorVaultNilG07
import Derived.Test.YtajfnmohlnkncaaGreatDoorVaultNilG03
import Derived.Test.YtajfnmohlnkncaaGreatDoorVaultNilG04
import Derived.Test.YtajfnmohlnkncaaGreatDoorVaultNilG06
namespace Go.Proofs.YtajfnmohlnkncaaGreatDoor
open Go.RowKit
attribute [local go_sem ↓] Go.wp_at_zero Go.wp_at_succ

/-- what Put answers -/
def PutsB (w0 : World) (o : List UInt8 × Nat) (e : Ending) (w' : World) : Prop :=
  ∃ A c m, e = .returned (.tuple #[.slice A (List.length m) c, errv o.2]) ∧ Hid (m = o.1) ∧ OwnB w' w0.heap.size 5 A c m ∧ Below w0.heap.size w0 w'
def fput (l t : List UInt8) : List UInt8 × Nat := if 65536 < t.length then ([], 3) else (l ++ frm t, 0)

set_option maxRecDepth 100000 in
set_option maxHeartbeats 1000000 in
theorem FPut_any (A : Option Addr) (c : Nat) (l : List UInt8) (B : Option Addr) (d : Nat) (t : List UInt8) (w : World) (hl : l.length ≤ 10000000) (hs : SlB w A c l) (ht : SlB w B d t) (htl : t.length ≤ 10000000) :
    Calls Tryz.prog 84 #[.slice A l.length c, .slice B t.length d] w (PutsB w (fput l t)) := by
  by_cases h : 65536 < t.length
  · have ho := Lib.hid (show fput l t = ([], 3) from by unfold fput; rw [if_pos h])
    have hi : (65536 : Int) < (t.length : Int) := by omega
    go_enter Tryz.func84, Tryz.ntmps84
    go_wp2_with fail
    go_ret2
    exact ⟨none, 0, [], by rw [ho.out]; rfl, by rw [ho.out]; rfl, Own.none_ _ _ _ _, Below.refl _ _⟩
  · have ho := Lib.hid (show fput l t = (l ++ frm t, 0) from by unfold fput; rw [if_neg h])
    have hi : ¬ (65536 : Int) < (t.length : Int) := by omega
    have hvl := Lib.hid (vb_le10 (n := t.length) (by omega))
    go_enter Tryz.func84, Tryz.ntmps84
    go_wp2_with fail
    refine (CrcNew_any _).mono ?_
    rintro e w1 ⟨rfl, hM1, hb1⟩
    go_wp2_with fail
    refine (PutText_any none 0 [] B d t w1 (by simp) (Sl.none_ w1 1) (ht.below hb1) htl).mono ?_
    rintro e w2 ⟨A2, c2, m2, rfl, hm2, ho2, hb2⟩
    have hm2' := Lib.hid (show m2 = txb t from hm2.out)
    have hml2 := Lib.hid (show m2.length ≤ 10000010 from by rw [hm2'.out]; unfold txb; rw [List.length_append]; have := hvl.out; omega)
    have hw2 := bel_call hb1 hb2
    go_wp2_with fail
    have hM2 : Mkr w2 w.heap.size ((0 : Nat) : Int) := Mkr.below (.inl hM1) hb2
    have hn2 : m2 ≠ [] → A2.map (·.block) ≠ some w.heap.size := fun _ => Own.ne ho2 hM1.lt
    have hl2 : m2.length ≤ 100000000 := by have := hml2.out; omega
    have hq := Sealed_at w.heap.size 0 A2 c2 m2 w2 hM2 (by omega) ho2.sl hn2 hl2
    with_reducible refine hq.mono ?_
    rintro e w3 ⟨A3, c3, m3, rfl, hm3, ho3, hM3, hB3⟩
    have hm3' := Lib.hid (show m3 = frm t from by rw [hm3.out, hm2'.out]; rfl)
    have hml3 := Lib.hid (show m3.length ≤ 10000014 from by rw [hm3.out, List.length_append, four_len]; have := hml2.out; omega)
    have hw3 := below_of_but hB3 hw2 (Nat.le_refl _)
    have hbn := below_new w3 (.cells #[.slice A l.length c, .slice A3 m3.length c3] 52)
    go_wp2_with fail
    refine (Concat_any (some ⟨w3.heap.size, 0, none⟩) 2 [(A, c, l), (A3, c3, m3)] _ (Sl.lits w3 [pv (A, c, l), pv (A3, c3, m3)] 52 (by simp [maxLen])) ?_ ?_).mono ?_
    · intro q hq
      simp only [List.mem_cons, List.not_mem_nil, or_false] at hq
      rcases hq with rfl | rfl
      · exact (hs.below hw3).below hbn
      · exact ho3.sl.below hbn
    · have := hml3.out; simp [partsOf]; omega
    rintro e w4 ⟨A4, c4, m4, rfl, hm4, ho4, hb4⟩
    go_wp2_with fail
    go_ret2
    refine ⟨A4, c4, m4, by rw [ho.out]; rfl, by rw [ho.out]; show m4 = _; rw [hm4.out, hm3'.out]; simp [partsOf], ho4.more ?_, bel_call (bel_call hw3 hbn) hb4⟩
    exact Nat.le_trans hw3.size hbn.size

/-- bytes, in a block of the call's own, from some place on -/
def OwnO (w : World) (base : Nat) (A : Option Addr) (c : Nat) (m : List UInt8) : Prop :=
  SlB w A c m ∧ (m ≠ [] → ∃ (g off : Nat) (cur : Array Value), A = some ⟨g, off, none⟩ ∧ base ≤ g ∧ w.heap[g]? = some (.cells cur 5 (0, 0)))
/-- what Take answers -/
def TakesF (w0 : World) (o : List UInt8 × Nat × Nat) (e : Ending) (w' : World) : Prop :=
  ∃ A c m, e = .returned (.tuple #[.slice A (List.length m) c, .int .i64 (o.2.1 : Nat), errv o.2.2]) ∧ Hid (m = o.1) ∧ OwnO w' w0.heap.size A c m ∧ Below w0.heap.size w0 w'
theorem OwnO.nil (w : World) (base : Nat) : OwnO w base none 0 [] := ⟨Sl.none_ _ _, fun h => absurd rfl h⟩
theorem OwnO.cut {w : World} {base : Nat} {E : Option Addr} {f k : Nat} {m : List UInt8} (ho : OwnB w base 5 E f m) (hk : k ≤ m.length) : OwnO w base (if f = k then E else E.map (·.add k)) (f - k) (m.drop k) := by
  have hc := Sl.cutB ho.sl hk
  rw [show m.length - k = (m.drop k).length from by simp] at hc
  refine ⟨hc, fun hne => ?_⟩
  have hkl : k < m.length := by
    rcases Nat.lt_or_ge k m.length with h | h
    · exact h
    · exact absurd (List.drop_eq_nil_of_le h) hne
  have hf := ho.sl.2.1
  rw [if_neg (by omega)]
  rcases ho.2 with ⟨_, h0⟩ | ⟨g, cap, cur, hv, hb, hh, _⟩
  · omega
  · injection hv with hE _ _
    subst hE
    exact ⟨g, k, cur, by simp [addr_lit], hb, hh⟩
theorem ftake_none {l : List UInt8} (h : take l = none) : ftake l = ([], 0, 2) := by unfold ftake; rw [h]
theorem ftake_long {l : List UInt8} {n k : Nat} (h : take l = some (n, k)) (hn : 65536 < n) : ftake l = ([], 0, 3) := by unfold ftake; rw [h]; dsimp only; rw [if_pos hn]
theorem ftake_short {l : List UInt8} {n k : Nat} (h : take l = some (n, k)) (hn : ¬ 65536 < n) (hs : l.length < k + n + 4) : ftake l = ([], 0, 2) := by unfold ftake; rw [h]; dsimp only; rw [if_neg hn, if_pos hs]
theorem ftake_some {l : List UInt8} {n k : Nat} (h : take l = some (n, k)) (hn : ¬ 65536 < n) (hs : ¬ l.length < k + n + 4) : ftake l = (if (opened (l.take (k + n + 4))).2 = 0 then ((opened (l.take (k + n + 4))).1.drop k, k + n + 4, 0) else ([], 0, 11)) ∧ ((opened (l.take (k + n + 4))).2 = 0 ∨ (opened (l.take (k + n + 4))).2 = 11) ∧ ((opened (l.take (k + n + 4))).2 = 0 → (opened (l.take (k + n + 4))).1.length = k + n) := by
  unfold ftake; rw [h]; dsimp only; rw [if_neg hn, if_neg hs, opened_take (by omega)]
  by_cases he : four (sumW (l.take (k + n))) = (l.drop (k + n)).take 4
  · rw [if_pos he, if_pos he, if_pos rfl]
    exact ⟨rfl, .inl rfl, fun _ => by simp; omega⟩
  · rw [if_neg he, if_neg he, if_neg (by simp)]
    exact ⟨rfl, .inr rfl, fun h => by simp at h⟩

set_option maxRecDepth 100000 in
set_option maxHeartbeats 2000000 in
theorem FTake_any (A : Option Addr) (c : Nat) (l : List UInt8) (w : World) (hs : SlB w A c l) (hl : l.length ≤ 10000000) :
    Calls Tryz.prog 101 #[.slice A l.length c] w (TakesF w (ftake l)) := by
  have hc1 := hs.2.1
  go_enter Tryz.func101, Tryz.ntmps101
  go_wp2_with fail
  refine (Take_any A c l _ hs).mono ?_
  rintro e w1 ⟨rfl, ⟨ht, rfl⟩ | ⟨n, k, ht, rfl⟩⟩
  · have hf := Lib.hid (ftake_none ht)
    clear ht
    go_wp2_with fail
    go_ret3
    exact ⟨none, 0, [], by rw [hf.out]; rfl, by rw [hf.out]; rfl, OwnO.nil _ _, Below.refl _ _⟩
  · obtain ⟨hu, hkl, _⟩ := take_some ht
    by_cases hn : 65536 < n
    · have hf := Lib.hid (ftake_long ht hn)
      have hni : (65536 : Int) < (n : Int) := by omega
      clear ht
      go_wp2_with fail
      go_ret3
      exact ⟨none, 0, [], by rw [hf.out]; rfl, by rw [hf.out]; rfl, OwnO.nil _ _, Below.refl _ _⟩
    · have hni : ¬ (65536 : Int) < (n : Int) := by omega
      have hw1 : IntKind.u64.wrap ((l.length : Int) - (k : Int)) = ((l.length - k : Nat) : Int) := by rw [IntKind.wrap_u64]; omega
      have hw2 : IntKind.u64.wrap ((n : Int) + 4) = ((n + 4 : Nat) : Int) := by rw [IntKind.wrap_u64]; omega
      by_cases hsh : l.length < k + n + 4
      · have hf := Lib.hid (ftake_short ht hn hsh)
        clear ht
        go_wp2_with fail
        go_ret3
        exact ⟨none, 0, [], by rw [hf.out]; rfl, by rw [hf.out]; rfl, OwnO.nil _ _, Below.refl _ _⟩
      · obtain ⟨hf, hor, hlen⟩ := ftake_some ht hn hsh
        have HF := Lib.hid hf
        have HL := Lib.hid hlen
        have hsi : ¬ (((l.length - k : Nat) : Int) < (n : Int) + 4) := by omega
        obtain ⟨q, hq⟩ : ∃ q, q = k + n + 4 := ⟨_, rfl⟩
        have hqi : (k : Int) + (n : Int) + 4 = (q : Int) := by omega
        have hqc : q ≤ c := by omega
        have hql : q ≤ l.length := by omega
        have hw64 : wrap64 (n : Int) = (n : Int) := by simp only [wrap64]; omega
        rw [← hq] at HF HL hor
        have HQ := Lib.hid hq
        have hT := Sl.takeB hs q
        have htl : (l.take q).length = q := by simp; omega
        clear ht hf hlen hq hw2
        generalize hl1 : l.take q = l1 at *
        clear hl1
        have HTL := Lib.hid htl
        clear htl
        have hT1 : SlB w.drew A c l1 := hT
        go_wp2_with fail
        go_cut [7, 4] (fun s7 s4 wx => ∃ (E : Option Addr) (f : Nat) (m : List UInt8), s7 = .slice E m.length f ∧ s4 = errv (opened l1).2 ∧ Hid (m = (opened l1).1) ∧ OwnB wx w.heap.size 5 E f m ∧ Below w.heap.size w wx)
        case first =>
          refine wp_region_held_drew (S := (fun _ => True)) (by kernel_rfl) ?_ (fun hHeld => ?_)
          · first | done | trivial
          refine wTk (i := 1) (oi := ⟨some 39, _, _, _, _, _⟩) (v := ?_) rfl ⟨by kernel_rfl, ?_⟩ (by assumption) ?_
          rotate_left
          · (intro wS hSw; (try dsimp only at hSw); go_simp; (try with_reducible rfl))
          (try simp only [Act.put, pS0, pS1, pS2])
          refine wTk (i := 2) (oi := ⟨some 40, _, _, _, _, _⟩) (v := ?_) rfl ⟨by kernel_rfl, ?_⟩ (by assumption) ?_
          rotate_left
          · (intro wS hSw; (try dsimp only at hSw); go_simp; (try with_reducible rfl))
          (try simp only [Act.put, pS0, pS1, pS2])
          refine wTk (i := 3) (oi := ⟨some 41, _, _, _, _, _⟩) (v := ?_) rfl ⟨by kernel_rfl, ?_⟩ (by assumption) ?_
          rotate_left
          · (intro wS hSw; (try dsimp only at hSw); go_simp; (try with_reducible rfl))
          (try simp only [Act.put, pS0, pS1, pS2])
          refine wpAnyH_ready (rs := [0]) (by kernel_rfl) (by simp) ?_
          refine AllReadyH.cons (o := ⟨some 38, _, _, _, _, _⟩) rfl (fun K hK => ?_) AllReadyH.nil
          go_simp
          (refine (CrcNew_any _).mono ?_; rintro e w9 ⟨rfl, hM9, hb9⟩; have hM9' : Mkr w9 w.heap.size ((0 : Nat) : Int) := .inl hM9; have hT9 : SlB w9 A c l1 := hT1.below hb9; have hn9 : l1 ≠ [] → A.map (·.block) ≠ some w.heap.size := SlB.old hT1 (Nat.le_refl _))
          go_wp2_with fail
          refine hK.out _ _ ?_ (fun hHeld => ?_)
          · ((try dsimp only); (done))
          clear hK K
          (try simp only [Act.put, pS0, pS1, pS2])
          refine wpAnyH_ready (rs := [4]) (by kernel_rfl) (by simp) ?_
          refine AllReadyH.cons (o := ⟨some 42, _, _, _, _, _⟩) rfl (fun K hK => ?_) AllReadyH.nil
          go_simp
          ((with_reducible refine (Opened_len w.heap.size 0 A c q l1 w9 HTL.out.symm hM9' (by omega) hT9 hn9 (by rw [HTL.out]; omega)).mono ?_); rintro e w10 ⟨A10, c10, m10, rfl, hm10, ho10, hM10, hB10⟩)
          go_wp2_with fail
          refine hK.out _ _ ?_ (fun hHeld => ?_)
          · ((try dsimp only); (done))
          clear hK K
          (try simp only [Act.put, pS0, pS1, pS2])
          refine wTk (i := 5) (oi := ⟨some 37, _, _, _, _, _⟩) (v := ?_) rfl ⟨by kernel_rfl, ?_⟩ (by assumption) ?_
          rotate_left
          · (intro wS hSw; (try dsimp only at hSw); go_simp; (try with_reducible rfl))
          (try simp only [Act.put, pS0, pS1, pS2])
          refine wTk (i := 6) (oi := ⟨some 43, _, _, _, _, _⟩) (v := ?_) rfl ⟨by kernel_rfl, ?_⟩ (by assumption) ?_
          rotate_left
          · (intro wS hSw; (try dsimp only at hSw); go_simp; (try with_reducible rfl))
          (try simp only [Act.put, pS0, pS1, pS2])
          refine wTk (i := 7) (oi := ⟨some 44, _, _, _, _, _⟩) (v := ?_) rfl ⟨by kernel_rfl, ?_⟩ (by assumption) ?_
          rotate_left
          · (intro wS hSw; (try dsimp only at hSw); go_simp; (try with_reducible rfl))
          (try simp only [Act.put, pS0, pS1, pS2])
          refine wTk (i := 8) (oi := ⟨some 7, _, _, _, _, _⟩) (v := ?_) rfl ⟨by kernel_rfl, ?_⟩ (by assumption) ?_
          rotate_left
          · (intro wS hSw; (try dsimp only at hSw); go_simp; (try with_reducible rfl))
          (try simp only [Act.put, pS0, pS1, pS2])
          refine wTk (i := 9) (oi := ⟨some 4, _, _, _, _, _⟩) (v := ?_) rfl ⟨by kernel_rfl, ?_⟩ (by assumption) ?_
          rotate_left
          · (intro wS hSw; (try dsimp only at hSw); go_simp; (try with_reducible rfl))
          (try simp only [Act.put, pS0, pS1, pS2])
          refine wpAnyH_done (by kernel_rfl) ?_ _
          go_wp2_with fail
          go_meet
          exact ⟨A10, c10, m10, rfl, rfl, hm10, ho10.more hb9.size, below_of_drew (below_of_but hB10 hb9 (Nat.le_refl _))⟩
        case rest =>
          obtain ⟨E, f, m, rfl, rfl, hm, ho, hb⟩ := hcut
          have hfc := ho.sl.2.1
          rcases hor with h0 | h11
          · have hm1 := hm.out
            rw [← hm1] at HF HL
            rw [h0] at HF HL
            have hml := Lib.hid (HL.out rfl)
            have hkm : k ≤ m.length := by rw [hml.out]; omega
            have HF2 := Lib.hid (show ftake l = (m.drop k, q, 0) from by rw [HF.out, if_pos rfl])
            have hcut := OwnO.cut ho hkm
            have hdl : (m.drop k).length = m.length - k := by simp
            rw [h0]
            clear HF HL hm hm1 ho
            generalize m.drop k = m2 at *
            have hev : errv 0 = .nilIface := rfl
            rw [hev]
            by_cases hfk : f = k
            · rw [if_pos hfk] at hcut
              subst hfk
              go_wp2_with fail
              go_ret3
              refine ⟨E, f - f, m2, ?_, by rw [HF2.out]; rfl, hcut, hb⟩
              rw [HF2.out, hdl]
              simp [errv]
              omega
            · rw [if_neg hfk] at hcut
              go_wp2_with fail
              go_ret3
              refine ⟨_, f - k, m2, ?_, by rw [HF2.out]; rfl, hcut, hb⟩
              rw [HF2.out, hdl]
              rfl
          · have HF2 := Lib.hid (show ftake l = ([], 0, 11) from by rw [HF.out, if_neg (by rw [h11]; simp)])
            rw [h11]
            have hev : errv 11 = .iface 60 (.int .i64 11) := rfl
            rw [hev]
            clear HF HL hm ho
            go_wp2_with fail
            go_ret3
            exact ⟨none, 0, [], by rw [HF2.out]; rfl, by rw [HF2.out]; rfl, OwnO.nil _ _, hb⟩
end Go.Proofs.YtajfnmohlnkncaaGreatDoor

namespace Go.Proofs.YtajfnmohlnkncaaGreatDoor
open Go.RowKit
attribute [local go_sem ↓] Go.wp_at_zero Go.wp_at_succ

theorem PutRun_ok {E B : Option Addr} {cap b : Nat} {l : List UInt8} (cs : List CeV) (w : World) (hs : SlB w B b l) (h : SlC w E cap cs) (hl : l.length ≤ 1000000) (h1 : cs.length ≤ 64) (h2 : rchk (cs.map ceOf) = 0) :
    Calls Tryz.prog 108 #[.slice B l.length b, .slice E cs.length cap] w fun e w' => ∃ A c m, e = .returned (.tuple #[.slice A (List.length m) c, .nilIface]) ∧ Hid (m = l ++ (vb cs.length ++ prun [] (cs.map ceOf))) ∧ OwnB w' w.heap.size 5 A c m ∧ Below w.heap.size w w' := by
  refine (PutRun_any cs w hs h hl).mono ?_
  rintro e w3 ⟨hb3, ⟨A3, c3, m3, hl3, hr3, rfl, hm3, ho3⟩ | ⟨bad, hbad, hbe, rfl⟩⟩
  · exact ⟨A3, c3, m3, rfl, (show _ = _ from by rw [hm3.out]; simp), ho3, hb3⟩
  · rw [if_neg (by simp; omega), h2] at hbe
    exact absurd hbe hbad
def stxt (s : Sg) : List UInt8 := vb s.1.toNat ++ (vb s.2.length ++ prun [] s.2)
theorem stxt_len {s : Sg} (h : schk s = 0) : (stxt s).length ≤ 7000 := by
  obtain ⟨h0, h1, h2, h3, h4⟩ := schk_ok h
  have h5 := rchk_zero h4
  have h6 := vb_le10 (n := s.1.toNat) (by omega)
  have h7 := vb_le10 (n := s.2.length) (by omega)
  have h8 := rgo_len s.2 none [] h5
  rw [rgo_prun 64 s.2 [] h2 h2 h5 (by simp)] at h8
  unfold stxt
  simp only [List.length_append]
  omega
def sput (s : Sg) : List UInt8 × Nat := if schk s ≠ 0 then ([], schk s) else fput [] (stxt s)
set_option maxRecDepth 100000 in
set_option maxHeartbeats 2000000 in
theorem SgPut_any {E : Option Addr} {cap : Nat} (f : Int) (cs : List CeV) (w : World) (h : SlC w E cap cs) :
    Calls Tryz.prog 75 #[cv f E cs.length cap] w (PutsB w (sput (f, cs.map ceOf))) := by
  have hB := Blk.new w 43 #[.int .i64 f, .slice E cs.length cap]
  have hbw := below_new w (.cells #[.int .i64 f, .slice E cs.length cap] 43)
  obtain ⟨a0, a1, _, _⟩ := hB.two
  go_enter Tryz.func75, Tryz.ntmps75
  go_wp2_with fail
  refine (SCheck_any f cs _ (h.below hbw)).mono ?_
  rintro e w1 ⟨rfl, hb1⟩
  have hB1 := hB.below hb1
  have hw1 := bel_call hbw hb1
  clear hB hbw hb1 a0 a1
  rcases errv_cases (schk (f, cs.map ceOf)) with ⟨h0, hev⟩ | ⟨k, hk, hke, hev⟩
  · obtain ⟨hf0, hf1, hn64, hne, hr0⟩ := schk_ok h0
    dsimp only at hf0 hf1 hn64 hne hr0
    have HLEN := Lib.hid (stxt_len h0)
    have HS := Lib.hid (show sput (f, cs.map ceOf) = fput [] (stxt (f, cs.map ceOf)) from by unfold sput; rw [if_neg (by rw [h0]; simp)])
    rw [hev]
    clear hev h0
    obtain ⟨n, rfl⟩ : ∃ n : Nat, f = n := ⟨f.toNat, by omega⟩
    have hun : U64 n := by unfold U64; omega
    have hwn := wrap_u64_of hun
    have hPR := Lib.hid (fun (B : Option Addr) (b : Nat) (l : List UInt8) (W : World) (hs : SlB W B b l) (hh : SlC W E cap cs) (hl : l.length ≤ 1000000) => PutRun_ok cs W hs hh hl (by simpa using hn64) hr0)
    clear hr0 hne hn64
    go_upto_region 4 with (fail)
    have hst : Blk w1.drew w.heap.size 43 #[.int .i64 (n : Int), .slice E cs.length cap] ∧ Below w.heap.size w w1.drew := ⟨hB1.drew, hw1.drew⟩
    clear hB1 hw1
    refine wp_region_held_drew (S := (fun W => Blk W w.heap.size 43 #[.int .i64 (n : Int), .slice E cs.length cap] ∧ Below w.heap.size w W)) (by kernel_rfl) ?_ (fun hHeld => ?_)
    · exact hst
    refine gen0 (T := fun W => ((fun W => Blk W w.heap.size 43 #[.int .i64 (n : Int), .slice E cs.length cap] ∧ Below w.heap.size w W)) W ∧ True) ?_ (fun wq1 hT => ?_)
    · exact ⟨by (exact hst), trivial⟩
    (try clear f0 f1 f2 f3 f4 f5 f6 f7 f8 f9 f10 f11)
    obtain ⟨hHeld, -⟩ := hT
    refine wTk (i := 0) (oi := ⟨some 13, _, _, _, _, _⟩) (v := ?_) rfl ⟨by kernel_rfl, ?_⟩ (by assumption) ?_
    rotate_left
    · (intro wS hSw; (try dsimp only at hSw); obtain ⟨q0, q1, _, _⟩ := hSw.1.two; clear hSw; go_simp; (try with_reducible rfl))
    (try simp only [Act.put, pS0, pS1, pS2])
    refine wTk (i := 1) (oi := ⟨some 14, _, _, _, _, _⟩) (v := ?_) rfl ⟨by kernel_rfl, ?_⟩ (by assumption) ?_
    rotate_left
    · (intro wS hSw; (try dsimp only at hSw); obtain ⟨q0, q1, _, _⟩ := hSw.1.two; clear hSw; go_simp; (try with_reducible rfl))
    (try simp only [Act.put, pS0, pS1, pS2])
    refine wTk (i := 2) (oi := ⟨some 15, _, _, _, _, _⟩) (v := ?_) rfl ⟨by kernel_rfl, ?_⟩ (by assumption) ?_
    rotate_left
    · (intro wS hSw; (try dsimp only at hSw); obtain ⟨q0, q1, _, _⟩ := hSw.1.two; clear hSw; go_simp; (try with_reducible rfl))
    (try simp only [Act.put, pS0, pS1, pS2])
    refine wTk (i := 5) (oi := ⟨some 18, _, _, _, _, _⟩) (v := ?_) rfl ⟨by kernel_rfl, ?_⟩ (by assumption) ?_
    rotate_left
    · (intro wS hSw; (try dsimp only at hSw); obtain ⟨q0, q1, _, _⟩ := hSw.1.two; clear hSw; go_simp; (try with_reducible rfl))
    (try simp only [Act.put, pS0, pS1, pS2])
    refine wTk (i := 6) (oi := ⟨some 19, _, _, _, _, _⟩) (v := ?_) rfl ⟨by kernel_rfl, ?_⟩ (by assumption) ?_
    rotate_left
    · (intro wS hSw; (try dsimp only at hSw); obtain ⟨q0, q1, _, _⟩ := hSw.1.two; clear hSw; go_simp; (try with_reducible rfl))
    (try simp only [Act.put, pS0, pS1, pS2])
    refine wpAnyH_ready (rs := [3]) (by kernel_rfl) (by simp) ?_
    refine AllReadyH.cons (o := ⟨some 16, _, _, _, _, _⟩) rfl (fun K hK => ?_) AllReadyH.nil
    go_simp
    refine hK.out _ _ ?_ (fun _ => ?_)
    · ((try dsimp only); (exact ⟨hHeld.1.alloc _, bel_alloc hHeld.2 _⟩))
    clear hK K
    (try simp only [Act.put, pS0, pS1, pS2])
    refine gen0 (T := fun W => ((fun W => Blk W w.heap.size 43 #[.int .i64 (n : Int), .slice E cs.length cap] ∧ Below w.heap.size w W)) W ∧ SlN W (some ⟨wq1.heap.size, 0, none⟩) 1 [n] ∧ True) ?_ (fun wq2 hT => ?_)
    · exact ⟨by (exact ⟨hHeld.1.alloc _, bel_alloc hHeld.2 _⟩), by (exact Sl.lits _ [nv n] 138 (by simp [maxLen])), trivial⟩
    (try clear f0 f1 f2 f3 f4 f5 f6 f7 f8 f9 f10 f11)
    obtain ⟨hHeld, f0, -⟩ := hT
    refine wpAnyH_ready (rs := [4]) (by kernel_rfl) (by simp) ?_
    refine AllReadyH.cons (o := ⟨some 17, _, _, _, _, _⟩) rfl (fun K hK => ?_) AllReadyH.nil
    go_simp
    (refine (Put_any none 0 [] _ 1 [n] _ (by simp) (Sl.none_ _ _) f0 (by simp) (by intro z hz; simp at hz; subst hz; exact hun)).mono ?_; rintro e w2 ⟨A2, c2, m2, rfl, hm2, ho2, hb2⟩; have hml2 : m2.length ≤ 10 := (by rw [hm2.out]; simp [vbs]; exact vb_le10 hun))
    go_wp2_with fail
    refine hK.out _ _ ?_ (fun _ => ?_)
    · ((try dsimp only); (exact ⟨hHeld.1.below hb2, bel_call hHeld.2 hb2⟩))
    clear hK K
    (try simp only [Act.put, pS0, pS1, pS2])
    refine gen0 (T := fun W => ((fun W => Blk W w.heap.size 43 #[.int .i64 (n : Int), .slice E cs.length cap] ∧ Below w.heap.size w W)) W ∧ SlB W A2 c2 m2 ∧ True) ?_ (fun wq3 hT => ?_)
    · exact ⟨by (exact ⟨hHeld.1.below hb2, bel_call hHeld.2 hb2⟩), by (exact ho2.sl), trivial⟩
    (try clear f0 f1 f2 f3 f4 f5 f6 f7 f8 f9 f10 f11)
    obtain ⟨hHeld, f0, -⟩ := hT
    refine wpAnyH_ready (rs := [7]) (by kernel_rfl) (by simp) ?_
    refine AllReadyH.cons (o := ⟨some 20, _, _, _, _, _⟩) rfl (fun K hK => ?_) AllReadyH.nil
    go_simp
    (refine (hPR.out A2 c2 m2 _ f0 (h.below hHeld.2) (by omega)).mono ?_; rintro e w3 ⟨A3, c3, m3, rfl, hm3, ho3, hb3⟩)
    go_wp2_with fail
    refine hK.out _ _ ?_ (fun _ => ?_)
    · ((try dsimp only); (exact ⟨hHeld.1.below hb3, bel_call hHeld.2 hb3⟩))
    clear hK K
    (try simp only [Act.put, pS0, pS1, pS2])
    refine gen0 (T := fun W => ((fun W => Blk W w.heap.size 43 #[.int .i64 (n : Int), .slice E cs.length cap] ∧ Below w.heap.size w W)) W ∧ OwnB W w.heap.size 5 A3 c3 m3 ∧ True) ?_ (fun wq4 hT => ?_)
    · exact ⟨by (exact ⟨hHeld.1.below hb3, bel_call hHeld.2 hb3⟩), by (exact ho3.more hHeld.2.size), trivial⟩
    (try clear f0 f1 f2 f3 f4 f5 f6 f7 f8 f9 f10 f11)
    obtain ⟨hHeld, f0, -⟩ := hT
    refine wTk (i := 8) (oi := ⟨some 12, _, _, _, _, _⟩) (v := ?_) rfl ⟨by kernel_rfl, ?_⟩ (by assumption) ?_
    rotate_left
    · (intro wS hSw; (try dsimp only at hSw); obtain ⟨q0, q1, _, _⟩ := hSw.1.two; clear hSw; go_simp; (try with_reducible rfl))
    (try simp only [Act.put, pS0, pS1, pS2])
    refine wTk (i := 9) (oi := ⟨some 21, _, _, _, _, _⟩) (v := ?_) rfl ⟨by kernel_rfl, ?_⟩ (by assumption) ?_
    rotate_left
    · (intro wS hSw; (try dsimp only at hSw); obtain ⟨q0, q1, _, _⟩ := hSw.1.two; clear hSw; go_simp; (try with_reducible rfl))
    (try simp only [Act.put, pS0, pS1, pS2])
    refine wTk (i := 10) (oi := ⟨some 22, _, _, _, _, _⟩) (v := ?_) rfl ⟨by kernel_rfl, ?_⟩ (by assumption) ?_
    rotate_left
    · (intro wS hSw; (try dsimp only at hSw); obtain ⟨q0, q1, _, _⟩ := hSw.1.two; clear hSw; go_simp; (try with_reducible rfl))
    (try simp only [Act.put, pS0, pS1, pS2])
    refine wTk (i := 11) (oi := ⟨some 5, _, _, _, _, _⟩) (v := ?_) rfl ⟨by kernel_rfl, ?_⟩ (by assumption) ?_
    rotate_left
    · (intro wS hSw; (try dsimp only at hSw); obtain ⟨q0, q1, _, _⟩ := hSw.1.two; clear hSw; go_simp; (try with_reducible rfl))
    (try simp only [Act.put, pS0, pS1, pS2])
    refine wTk (i := 12) (oi := ⟨some 6, _, _, _, _, _⟩) (v := ?_) rfl ⟨by kernel_rfl, ?_⟩ (by assumption) ?_
    rotate_left
    · (intro wS hSw; (try dsimp only at hSw); obtain ⟨q0, q1, _, _⟩ := hSw.1.two; clear hSw; go_simp; (try with_reducible rfl))
    (try simp only [Act.put, pS0, pS1, pS2])
    refine wpAnyH_done (by kernel_rfl) ?_ _
    have htx : m3 = stxt ((n : Int), cs.map ceOf) := by rw [hm3.out, hm2.out]; unfold stxt; simp [vbs]
    have HT := Lib.hid htx
    have hml3 : m3.length ≤ 7000 := by rw [htx]; exact HLEN.out
    obtain ⟨hBq, hwq⟩ := hHeld
    clear htx hst hBq
    go_wp2_with fail
    refine (FPut_any none 0 [] A3 c3 m3 _ (by simp) (Sl.none_ _ _) f0.sl (by omega)).mono ?_
    rintro e w4 ⟨A4, c4, m4, rfl, hm4, ho4, hb4⟩
    go_wp2_with fail
    go_ret2
    exact ⟨A4, c4, m4, by rw [HS.out, ← HT.out]; rfl, (show _ = _ from by rw [hm4.out, HS.out, HT.out]), ho4.more hwq.size, bel_call hwq hb4⟩
  · have HJ : Hid (sput (f, cs.map ceOf) = ([], schk (f, cs.map ceOf))) := (show _ = _ from by
      unfold sput
      rw [if_pos (by omega)])
    have HEV := Lib.hid hev
    rw [hev]
    clear hev hke
    go_wp2_with fail
    go_ret2
    exact ⟨none, 0, [], by rw [HJ.out]; dsimp only; rw [HEV.out]; rfl, (show _ = _ from by rw [HJ.out]), Own.none_ _ _ _ _, hw1⟩

end Go.Proofs.YtajfnmohlnkncaaGreatDoor

namespace Go.Proofs.YtajfnmohlnkncaaGreatDoor
open Go.RowKit
attribute [local go_sem ↓] Go.wp_at_zero Go.wp_at_succ

theorem SlB.dg {w : World} {g : Nat} {n f t r : Int} {d : Dg} {A : Option Addr} {k c : Nat} (h : BlM w g n f t r d A k c) : SlB w (some ⟨g, 4, none⟩) 32 d.1 := by
  have hd := d.2
  refine ⟨by simp, by omega, by simp [maxLen], (fun h => by cases h), fun j u hj => ⟨_, rfl, ?_⟩⟩
  exact BlM.dg h j u (by simpa [dga] using hj)
theorem step_bytesG {P : Program} {w : World} {ops : Array Oper} {o : Oper} {a : Act} {K : Act → World → Prop} {Q : Exit → Act → World → Prop} {E : Prop} (t e : TypeId) (ht : P.underlying t = some (.slice e))
    (hinfo : (P.info? e).map (fun i => (i.zero, i.size, i.bytes)) = some (some (.int .u8 0), 1, 1)) (hw : Region.wanted o (yielded ops a.tmps) = true) (s x : Operand)
    (ho : o.op = .call { callee := .builtin .append, args := #[s, x], argTypes := #[t, t] })
    (base : Nat) (A : Option Addr) (c : Nat) (l : List UInt8) (hs : a.eval s = .slice A l.length c) (hown : OwnB w base e A c l)
    (A2 : Option Addr) (c2 n2 : Nat) (l2 : List UInt8) (hn2 : n2 = l2.length) (hx : a.eval x = .slice A2 n2 c2) (hr : SlB w A2 c2 l2)
    (hlen : l.length + l2.length ≤ 140737488355328) (hbase : base ≤ w.heap.size)
    (h : ∀ A' c' (m : List UInt8) w', Hid (m = l ++ l2) → OwnB w' base e A' c' m → w.grownBy w' (A.map (·.block)) → Below base w w' → K (a.put o.dst (.slice A' m.length c')) w') :
    if Region.wanted o (yielded ops a.tmps) = true then Oper.wp P o a w K Q else E := by
  subst hn2
  obtain ⟨i0, hi, hz0, hz1, hz2⟩ := info_parts hinfo
  refine step_append hw s x t ho base e i0 (.int .u8 0) 1 1 ht hi hz0 hz1 hz2 rfl (by decide) A l.length c (bvs l) hs hown A2 l2.length c2 (bvs l2) hx hr (one_bvs l2) (by omega) (by simp only [maxLen]; omega) hbase ?_
  intro A' c' w' hap
  rw [← List.length_append]
  refine h A' c' (l ++ l2) w' rfl ?_ hap.grown (hap.below hown hbase)
  have := hap.own
  simpa [OwnB] using this
theorem lit64 {w W : World} (hb : w.heap.size ≤ W.heap.size) (n : Nat) : Own (W.alloc (.cells #[nv n] 138)) w.heap.size 138 1 (some ⟨W.heap.size, 0, none⟩) 1 1 [nv n] :=
  Own.more (World.ownsRow_lit W #[nv n] 1 (Nat.le_refl _) (by simp [maxLen]) (by simp)) hb
end Go.Proofs.YtajfnmohlnkncaaGreatDoor

namespace Go.Proofs.YtajfnmohlnkncaaGreatDoor
open Go.RowKit
attribute [local go_sem ↓] Go.wp_at_zero Go.wp_at_succ

theorem mfa_all (n f t r : Int) (d : Dg) (A : Option Addr) (k c : Nat) : (mfa n f t r d A k c).all (·.oneCell') = true := by
  rw [Array.all_eq_true_iff_forall_mem]
  intro u hu
  simp only [mfa, mfl, List.mem_toArray, List.mem_cons, List.mem_append, List.not_mem_nil, or_false] at hu
  rcases hu with rfl | rfl | rfl | rfl | hu | rfl
  · rfl
  · rfl
  · rfl
  · rfl
  · exact one_bvs _ u hu
  · rfl
end Go.Proofs.YtajfnmohlnkncaaGreatDoor
