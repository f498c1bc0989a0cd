/- WHAT IT HOLDS: a run that was put is taken as it was, and what is taken has just those bytes, plainly (no program). | WHAT IT HOLDS: a segment that was put is taken as it was, what is taken has just those bytes, and a segment is its parts, joined; plainly (no program). | WHAT IT HOLDS: an error beside nil, as a Bool. | WHAT IT HOLDS: the law ManifestBack, walked. -/
import Derived.Test.YtabnndjdkjkciaaGreatDoorManifestBackG27
import Derived.Test.YtabnndjdkjkciaaGreatDoorManifestBackG04
import Derived.Test.YtabnndjdkjkciaaGreatDoorManifestBackG10
import Derived.Test.YtabnndjdkjkciaaGreatDoorManifestBackG28
import Derived.Test.YtabnndjdkjkciaaGreatDoorManifestBackG02
import Derived.Test.YtabnndjdkjkciaaGreatDoorManifestBackG29
import Derived.Test.YtabnndjdkjkciaaGreatDoorManifestBackG30
namespace Go.Proofs.YtabnndjdkjkciaaGreatDoor
open Go.RowKit

theorem rowGo_take {k : Int} : ∀ {l : List Ce}, (∀ c ∈ l, cchk c = 0) → l.take (rowGo k l) = List.replicate (rowGo k l) (k, [])
  | [], _ => rfl
  | c :: r, h => by
    unfold rowGo
    by_cases hc : c.1 ≠ 1 ∧ c.1 = k
    · rw [if_pos hc, List.take_succ_cons, List.replicate_succ, rowGo_take fun x hx => h x (by simp [hx])]
      have h2 := (cchk_ok (h c (by simp))).2.2.2 hc.1
      obtain ⟨c1, c2⟩ := c
      dsimp only at hc h2
      rw [h2, hc.2]
    · rw [if_neg hc]; rfl
theorem rowGo_next {k : Int} : ∀ {l : List Ce} {c : Ce} {r : List Ce}, l.drop (rowGo k l) = c :: r → ¬ (c.1 ≠ 1 ∧ c.1 = k)
  | [], c, r, h => by simp [rowGo] at h
  | x :: l, c, r, h => by
    unfold rowGo at h
    by_cases hc : x.1 ≠ 1 ∧ x.1 = k
    · rw [if_pos hc, List.drop_succ_cons] at h
      exact rowGo_next h
    · rw [if_neg hc] at h
      simp only [List.drop_zero, List.cons.injEq] at h
      rw [← h.1]; exact hc
/-- the row ahead is not of the next one's kind -/
def Kd (kind : Nat) (cs : List Ce) : Prop := ∀ c r, cs = c :: r → c.1 ≠ 1 → c.1 ≠ (kind : Int)
theorem rWithin_vbT {k m : Nat} (h : U64 k) (hk : k ≤ m) (hk2 : k ≤ 4611686018427387904) (r : List UInt8) : rWithin m (vb k ++ r, 0) = (k, (r, 0)) := by
  unfold rWithin
  rw [rNum_vb h, if_neg (by simp only [gt_iff_lt]; omega)]
theorem u64_of {n : Nat} (h : n ≤ 1000000) : U64 n := by unfold U64; omega
theorem tk_put : ∀ (N : Nat) (cs : List Ce) (t : Tk) (rest : List UInt8), cs.length ≤ N → (∀ c ∈ cs, cchk c = 0) → cs.length ≤ 64 → t.last.length ≤ 64 → t.left = cs.length → t.s = (prun t.last cs ++ rest, 0) → Kd t.kind cs → (tkEnd t).out = t.out ++ cs ∧ (tkEnd t).s = (rest, 0)
  | N, [], t, rest, _, _, _, _, hl, hs, _ => by
    rw [tkEnd_stop (.inl (by simpa using hl)), hs]
    simp [prun]
  | 0, c :: r, _, _, hN, _, _, _, _, _, _ => by simp at hN
  | N + 1, c :: r, t, rest, hN, hok, h64, hlast, hl, hs, hK => by
    have hs0 : t.s.2 = 0 := by rw [hs]
    have hc := hok c (by simp)
    obtain ⟨k0, k3, hc64, hcd⟩ := cchk_ok hc
    rw [tkEnd_step (by rw [hl]; simp) hs0]
    simp only [List.length_cons] at hN h64
    by_cases hd : c.1 = 1
    · have hz := rowN_zero (c := c) (r := r) |>.2 hd
      rw [prun_data hz] at hs
      simp only [List.append_assoc] at hs
      have hcp := cpl_le t.last c.2
      have e1 : rNum t.s = (0, (vb c.2.length ++ (vb (cpl t.last c.2) ++ (c.2.drop (cpl t.last c.2) ++ (prun c.2 r ++ rest))), 0)) := by rw [hs, rNum_vb (u64_of (by omega))]
      have e2 : rNum (vb c.2.length ++ (vb (cpl t.last c.2) ++ (c.2.drop (cpl t.last c.2) ++ (prun c.2 r ++ rest))), 0) = (c.2.length, (vb (cpl t.last c.2) ++ (c.2.drop (cpl t.last c.2) ++ (prun c.2 r ++ rest)), 0)) := rNum_vb (u64_of (by omega)) _
      have e3 : rNum (vb (cpl t.last c.2) ++ (c.2.drop (cpl t.last c.2) ++ (prun c.2 r ++ rest)), 0) = (cpl t.last c.2, (c.2.drop (cpl t.last c.2) ++ (prun c.2 r ++ rest), 0)) := rNum_vb (u64_of (by omega)) _
      have e5 : rFixed ((c.2.length - cpl t.last c.2 : Nat) : Int) (c.2.drop (cpl t.last c.2) ++ (prun c.2 r ++ rest), 0) = (c.2.drop (cpl t.last c.2), (prun c.2 r ++ rest, 0)) := by
        have := rFixed_all (c.2.drop (cpl t.last c.2)) (prun c.2 r ++ rest)
        rw [List.length_drop] at this
        exact this
      have hx : c.2 = t.last.take (cpl t.last c.2) ++ c.2.drop (cpl t.last c.2) := by rw [cpl_take, List.take_append_drop]
      have hst := st_textok e1 e2 rfl rfl (by omega) e3 (by omega) (by omega) rfl e5 rfl hx rfl
      rw [hst]
      have ih := tk_put N r ⟨(prun c.2 r ++ rest, 0), t.out ++ [(1, c.2)], t.left - 1, c.2, 1⟩ rest (by omega) (fun x hx => hok x (by simp [hx])) (by omega) (by dsimp only; omega) (by dsimp only; rw [hl]; simp) rfl (fun c' r' _ h1 h2 => h1 (by simpa using h2))
      rw [ih.1, ih.2]
      refine ⟨?_, rfl⟩
      dsimp only
      rw [List.append_assoc, List.singleton_append, show ((1 : Int), c.2) = c from by rw [← hd]]
    · obtain ⟨n, hn⟩ : ∃ n, rowN (c :: r) = n := ⟨_, rfl⟩
      have hn0 : 0 < n := by
        rw [← hn]
        exact Nat.pos_of_ne_zero fun h => hd (rowN_zero.1 h)
      have hnl : n ≤ r.length + 1 := by rw [← hn]; exact rowN_le (c :: r)
      obtain ⟨k, hk⟩ : ∃ k : Nat, c.1 = k := ⟨c.1.toNat, by omega⟩
      have hp : prun t.last (c :: r) = vb n ++ vb k ++ prun t.last ((c :: r).drop n) := by
        rw [prun, if_pos (by omega), hn, hk]; rfl
      rw [hp] at hs
      simp only [List.append_assoc] at hs
      have e1 : rNum t.s = (n, (vb k ++ (prun t.last ((c :: r).drop n) ++ rest), 0)) := by rw [hs, rNum_vb (u64_of (by omega))]
      have e2 : rWithin 3 (vb k ++ (prun t.last ((c :: r).drop n) ++ rest), 0) = (k, (prun t.last ((c :: r).drop n) ++ rest, 0)) := rWithin_vbT (u64_of (by omega)) (by omega) (by omega) _
      have hkk : ¬ (k = 1 ∨ k = t.kind) := by
        have := hK c r rfl hd
        omega
      have hst := st_rowok e1 rfl hn0 (by rw [hl]; simpa using hnl) e2 rfl hkk
      rw [hst]
      have hgo : rowGo c.1 (c :: r) = n := hn
      have ht := rowGo_take (k := c.1) hok
      rw [hgo] at ht
      have hnx : ∀ c' r', (c :: r).drop n = c' :: r' → ¬ (c'.1 ≠ 1 ∧ c'.1 = c.1) := fun c' r' h => by rw [← hgo] at h; exact rowGo_next h
      have hdl : ((c :: r).drop n).length = r.length + 1 - n := by simp
      have ih := tk_put N ((c :: r).drop n) ⟨(prun t.last ((c :: r).drop n) ++ rest, 0), t.out ++ List.replicate n ((k : Int), []), t.left - n, t.last, k⟩ rest (by omega) (fun x hx => hok x (List.mem_of_mem_drop hx)) (by omega) hlast (by dsimp only; rw [hl, hdl]; simp) rfl (fun c' r' h h1 h2 => hnx c' r' h ⟨h1, by rw [hk]; exact h2⟩)
      rw [ih.1, ih.2]
      refine ⟨?_, rfl⟩
      dsimp only
      rw [List.append_assoc, ← hk, ← ht, List.take_append_drop]
theorem takeRun_put {cs : List Ce} (hok : ∀ c ∈ cs, cchk c = 0) (h64 : cs.length ≤ 64) (rest : List UInt8) : takeRun (vb cs.length ++ (prun [] cs ++ rest), 0) = (cs, (rest, 0)) := by
  have e1 := rNum_vb (n := cs.length) (u64_of (by omega)) (prun [] cs ++ rest)
  have hn : tkNew (vb cs.length ++ (prun [] cs ++ rest), 0) = ⟨(prun [] cs ++ rest, 0), [], cs.length, [], 1⟩ := by
    unfold tkNew
    rw [e1]
    dsimp only
    rw [if_neg (by omega), Nat.min_eq_left h64]
  have h := tk_put cs.length cs ⟨(prun [] cs ++ rest, 0), [], cs.length, [], 1⟩ rest (Nat.le_refl _) hok h64 (by simp) rfl rfl (fun c r _ h1 h2 => h1 (by simpa using h2))
  unfold takeRun
  rw [hn, h.1, h.2]
  simp
end Go.Proofs.YtabnndjdkjkciaaGreatDoor

namespace Go.Proofs.YtabnndjdkjkciaaGreatDoor
open Go.RowKit

theorem stxt_short {s : Sg} (h : schk s = 0) : (stxt s).length ≤ 65536 := Nat.le_trans (stxt_len h) (by decide)
theorem sput_ok {s : Sg} (h : schk s = 0) : sput s = (frm (stxt s), 0) := by
  unfold sput fput
  have := stxt_short h
  rw [if_neg (by rw [h]; simp), if_neg (by omega)]
  rfl
theorem sgTake_put {s : Sg} (h : schk s = 0) : sgTake (sput s).1 = (s, 0) := by
  obtain ⟨h0, h1, h2, h3, h4⟩ := schk_ok h
  obtain ⟨n, hn⟩ : ∃ n : Nat, s.1 = n := ⟨s.1.toNat, by omega⟩
  rw [sput_ok h]
  unfold sgTake
  rw [fone_frm (stxt_short h), if_neg (by simp)]
  have e1 : rWithin 1048576 (stxt s, 0) = (n, (vb s.2.length ++ (prun [] s.2 ++ []), 0)) := by
    unfold stxt
    rw [hn, Int.toNat_natCast, List.append_nil]
    exact rWithin_vbT (by unfold U64; omega) (by omega) (by omega) _
  have e2 := takeRun_put (rchk_zero h4) h2 []
  have e3 : sgRead (stxt s, 0) = (s, ([], 0)) := by
    unfold sgRead
    rw [e1]
    dsimp only
    rw [e2]
    obtain ⟨s1, s2⟩ := s
    dsimp only at hn ⊢
    rw [hn]
  rw [show ((stxt s, (0 : Nat)).1, 0) = (stxt s, 0) from rfl, e3]
  unfold sgEnd
  rw [if_neg (by simp [rEnd]), if_neg (by rw [h]; simp)]
end Go.Proofs.YtabnndjdkjkciaaGreatDoor

namespace Go.Proofs.YtabnndjdkjkciaaGreatDoor
open Go.RowKit

set_option maxRecDepth 100000 in
theorem errv_eql (n : Nat) (W : World) : (binOp .eql 37 (errv n) .nilIface).run Tryz.prog W = .ok (.bool (decide (n = 0))) W := by
  rcases errv_cases n with ⟨h0, he⟩ | ⟨k, hk, hke, he⟩
  · subst h0
    rw [he]
    go_simp
  · rw [he, show decide (n = 0) = false from by simp; omega]
    go_simp
set_option maxRecDepth 100000 in
theorem errv_guard (n : Nat) (x : Operand) (W : World) : (eqGuard .eql 37 x (.const .nilIface) (errv n) .nilIface).run Tryz.prog W = .ok () W := by
  rcases errv_cases n with ⟨h0, he⟩ | ⟨k, hk, hke, he⟩
  · rw [he]
    go_simp
  · rw [he]
    go_simp
end Go.Proofs.YtabnndjdkjkciaaGreatDoor

namespace Go.Proofs.YtabnndjdkjkciaaGreatDoor
open Go.RowKit
attribute [local go_sem ↓] Go.wp_at_zero Go.wp_at_succ

theorem pgo_I64 {z : Int} (hz : z ≤ 1048576) : ∀ {l : List Pt5} {a : Int}, 0 ≤ a → pgo z a l = 0 → PtsI l
  | [], _, _, _ => fun p hp => by cases hp
  | q :: r, a, ha, h => fun p hp => by
    have h0 := h
    unfold pgo at h
    by_cases h1 : ptchk q a ≠ 0
    · rw [if_pos h1] at h; exact absurd h h1
    rw [if_neg h1] at h
    obtain ⟨g1, g2, g3, g4, g5⟩ := ptchk_ok (Decidable.byContradiction h1)
    have he := (pgo_end h0).2
    rcases List.mem_cons.1 hp with rfl | hp
    · unfold I64
      omega
    · exact pgo_I64 hz (by omega) h p hp
theorem mchk_I64 {m : Mf} (h : mchk m = 0) : PtsI m.2.2.2.2.2 := by
  obtain ⟨_, h2, h3, _, _, _, _, h8⟩ := mchk_ok h
  exact pgo_I64 h3.2 h2.1 h8
theorem mof_zero {s : Sg} {px : Pt5} {yl : List UInt8} (h : mof s = (px, yl, 0)) : schk s = 0 ∧ px = (s.1, (s.2.length : Int), (yl.length : Int), shaD yl) ∧ yl = frm (stxt s) := by
  by_cases h1 : schk s = 0
  · by_cases h2 : s.2.length = 0
    · rw [mof_none h1 h2] at h
      injection h with _ h
      injection h with _ h
      cases h
    · rw [mof_ok h1 h2] at h
      injection h with h3 h
      injection h with h4 _
      subst h4
      exact ⟨h1, h3.symm, rfl⟩
  · rw [mof_bad h1] at h
    injection h with _ h
    injection h with _ h
    exact absurd h h1
theorem sgTake_frm {s : Sg} (h : schk s = 0) : sgTake (frm (stxt s)) = (s, 0) := by
  have h1 := sgTake_put h
  rw [sput_okO h] at h1
  exact h1
set_option maxRecDepth 100000 in
set_option maxHeartbeats 4000000 in
theorem mback_walk {A E B : Option Addr} {c cap cb : Nat} {n f t q k : Int} {d : Dg} {ps : List Pt5} {cs : List CeV} {b : List UInt8} (w : World) (hG : Shg w) (h : SlP w A c ps) (hI : PtsI ps) (hs : SlC w E cap cs) (hb : SlB w B cb b) (hp : ps.length ≤ 60) (hL : longb (cs.map ceOf) 80 = false) (hl : b.length ≤ 4000) :
    Calls Tryz.prog 4 #[.agg (mfa n f t q d A ps.length c), cv k E cs.length cap, .slice B b.length cb] w fun e w' => e = .returned (.bool true) ∧ Below w.heap.size w w' := by
  have hM := ((Mm.start w).alloc (mfa n f t q d A ps.length c) 57).alloc #[.int .i64 k, .slice E cs.length cap] 24
  rw [show (w.alloc (.cells (mfa n f t q d A ps.length c) 57)).heap.size = w.heap.size + 1 from by simp] at hM
  have hlI : (b.length : Int) ≤ 4000 := by omega
  have hpI : (ps.length : Int) ≤ 60 := by omega
  have HLg := Lib.hid (fun W (hh : Below w.heap.size w W) => Long_any cs 80 W (hs.below hh))
  rw [hL] at HLg
  have hmz := fun n f t q d A k c => Lib.hid (mfa_size n f t q d A k c)
  have hma := fun n f t q d A k c => Lib.hid (mfa_all n f t q d A k c)
  have hds := fun d => Lib.hid (dga_size d)
  have hda := fun d => Lib.hid (dga_all d)
  have hpzs := fun p => Lib.hid (pta_size p)
  have hpas := fun p => Lib.hid (pta_all p)
  go_enter Tryz.func4, Tryz.ntmps4
  go_upto_region 1 with (fail)
  refine gen1 (T := fun W => Mm w W [(w.heap.size + 1, 24, #[.int .i64 k, .slice E cs.length cap]), (w.heap.size, 57, mfa n f t q d A ps.length c)] []) hM (fun w0 hM => ?_)
  go_wp2_with fail
  refine (alive15_any _).mono ?_
  rintro e w1 ⟨rfl, hb1⟩
  have hM1 := hM.call hb1
  clear hM hb1
  obtain ⟨a0, a1, -, -⟩ := hM1.b0.two
  obtain ⟨q0, q1, q2, q3, q4⟩ := Blm.five hM1.b1
  go_wp2_with fail
  refine (HLg.out _ hM1.bel).mono ?_
  rintro e w2 ⟨rfl, hb2⟩
  have hM2 := hM1.call hb2
  clear hM1 hb2 a0 a1 q0 q1 q2 q3 q4 HLg
  have HP := Lib.hid (fun W (hh : Below w.heap.size w W) => MPut_any n f t q d ps W (h.below hh) hI)
  -- (1) what is put is taken
  go_wp2_with (with_reducible refine wpl_loadG (by kernel_rfl) 57 _ rfl ⟨w.heap.size, 0, none⟩ (mfa n f t q d A ps.length c) rfl hM2.b1.cells _ Tryz.underlying57 rfl (by rw [(hmz n f t q d A ps.length c).out]; kernel_rfl) ?_)
  refine (HP.out _ hM2.bel).mono ?_
  rintro e w3 ⟨A1, c1, m1, rfl, hm1, ho1, hb3⟩
  have hM3 := hM2.call hb3
  have hs1 : SlB w3 A1 c1 m1 := Own.sl ho1
  clear hM2 hb3 ho1 HP
  obtain ⟨ze, hze⟩ : ∃ ze : Bool, decide (mchk (n, f, t, q, d, ps) = 0) = ze := ⟨_, rfl⟩
  obtain ⟨ev, hev⟩ : ∃ ev, errv (mchk (n, f, t, q, d, ps)) = ev := ⟨_, rfl⟩
  have hnil : ∀ W : World, (binOp .eql 37 ev .nilIface).run Tryz.prog W = .ok (.bool ze) W := fun W => by rw [← hev, ← hze]; exact errv_eql _ W
  rw [hev]
  have hgrd : ∀ W : World, (eqGuard .eql 37 (.tmp 44) (.const .nilIface) ev .nilIface).run Tryz.prog W = .ok () W := fun W => by rw [← hev]; exact errv_guard _ _ W
  have HZ := Lib.hid hze
  clear hze hev
  go_upto_if 45 with (fail)
  go_cut [9, 10, 11, 12] from 46 to 73 (fun _ _ _ _ wz => Mm w wz [(w.heap.size + 1, 24, #[.int .i64 k, .slice E cs.length cap]), (w.heap.size, 57, mfa n f t q d A ps.length c)] [])
  case first =>
    cases ze with
    | false =>
      go_wp2_with fail
      go_meet
      exact hM3
    | true =>
      have hz0 : mchk (n, f, t, q, d, ps) = 0 := of_decide_eq_true HZ.out
      have hm1p : m1 = frm (mftxt (n, f, t, q, d, ps)) := by rw [hm1.out]; unfold mfput; rw [if_pos hz0]
      have hml : m1.length ≤ 60000 := by rw [hm1.out]; exact mfput_len _
      have hT := MTake_any A1 c1 m1 w3 hs1 (by omega)
      rw [show mfTake m1 = ((n, f, t, q, d, ps), 0) from by rw [hm1p]; exact mfTake_put hz0] at hT
      have HT := Lib.hid hT
      obtain ⟨dd, hdd⟩ : ∃ dd, shaD m1 = dd := ⟨_, rfl⟩
      have hmd : mfdig (n, f, t, q, d, ps) = (dd, 0) := by unfold mfdig; rw [if_pos hz0, ← hm1.out, hdd]
      have HMD := Lib.hid (fun W (hh : Below w.heap.size w W) (A4 : Option Addr) (c4 : Nat) (h4 : SlP W A4 c4 ps) => MDigest_any n f t q d ps W (hG.below hh) h4 hI)
      rw [hmd] at HMD
      have HSm := Lib.hid (fun W (hh : Below w.heap.size w W) (h1 : SlB W A1 c1 m1) => Sum_any m1 W (hG.below hh) h1 (by omega))
      rw [hdd] at HSm
      have HEq := Lib.hid (fun W (A4 : Option Addr) (c4 : Nat) (h4 : SlP W A4 c4 ps) (h5 : SlP W A c ps) => MSame_any n f t q n f t q d d ps ps W h4 h5)
      rw [show mfeq (n, f, t, q, d, ps) (n, f, t, q, d, ps) = true from eq_mf rfl] at HEq
      clear hT hm1p hdd hmd hz0 hnil hgrd
      go_wp2_with fail
      refine HT.out.mono ?_
      clear HT
      rintro e w4 ⟨A4, c4, m4, rfl, hm4, ho4, hb4⟩
      dsimp only at hm4 ⊢
      obtain rfl : m4 = ps := hm4.out
      rw [show errv 0 = Value.nilIface from rfl]
      go_upto_region 8 with (refine wpl_storeN rfl 57 _ _ rfl _ (mfa n f t q d A4 m4.length c4) 57 rfl rfl (by rw [(hmz n f t q d A4 m4.length c4).out]; kernel_rfl) (by rw [(hmz n f t q d A4 m4.length c4).out]; rfl) (hma n f t q d A4 m4.length c4).out ?_)
      refine gen1 (T := fun W => Mm w W [(w4.heap.size, 57, mfa n f t q d A4 m4.length c4), (w.heap.size + 1, 24, #[.int .i64 k, .slice E cs.length cap]), (w.heap.size, 57, mfa n f t q d A m4.length c)] [] ∧ SlP W A4 c4 m4 ∧ SlB W A1 c1 m1) ⟨(hM3.call hb4).alloc _ _, Sl.below (Own.sl ho4) (below_new _ _), Sl.below hs1 (hb4.trans ((below_new _ _).mono hb4.size))⟩ (fun w5 hT => ?_)
      clear hM3 hs1 hb4 ho4
      obtain ⟨hM5, h45, hs5⟩ := hT
      generalize w4.heap.size = g9 at *
      go_wp2_with (with_reducible refine wpl_loadG (by kernel_rfl) 57 _ rfl ⟨g9, 0, none⟩ (mfa n f t q d A4 m4.length c4) rfl hM5.b0.cells _ Tryz.underlying57 rfl (by rw [(hmz n f t q d A4 m4.length c4).out]; kernel_rfl) ?_)
      refine (HMD.out _ hM5.bel A4 c4 h45).mono ?_
      rintro e w6 ⟨rfl, hb6⟩
      dsimp only
      rw [show errv 0 = Value.nilIface from rfl]
      go_upto_region 9 with (refine wpl_storeN rfl 26 _ _ rfl _ (dga dd) 26 rfl rfl (by rw [(hds dd).out]; kernel_rfl) (by rw [(hds dd).out]; rfl) (hda dd).out ?_)
      refine gen1 (T := fun W => Mm w W [(w6.heap.size, 26, dga dd), (g9, 57, mfa n f t q d A4 m4.length c4), (w.heap.size + 1, 24, #[.int .i64 k, .slice E cs.length cap]), (w.heap.size, 57, mfa n f t q d A m4.length c)] [] ∧ SlP W A4 c4 m4 ∧ SlB W A1 c1 m1) ⟨(hM5.call hb6).alloc _ _, Sl.below h45 (hb6.trans ((below_new _ _).mono hb6.size)), Sl.below hs5 (hb6.trans ((below_new _ _).mono hb6.size))⟩ (fun w7 hT => ?_)
      clear hM5 h45 hs5 hb6 HMD
      obtain ⟨hM7, h47, hs7⟩ := hT
      generalize w6.heap.size = g11 at *
      have hn := fun W => neq_dg dd dd W
      rw [decide_eq_true rfl, Bool.not_true] at hn
      have hMd := hM7.drew
      have H4 := Lib.hid (fun W (hh : Below w7.heap.size w7 W) => (show SlP W A4 c4 m4 from Sl.below h47 hh))
      have H1 := Lib.hid (fun W (hh : Below w7.heap.size w7 W) => (show SlB W A1 c1 m1 from Sl.below hs7 hh))
      have HO8 := Lib.hid (Below.drew (Below.refl w7.heap.size w7))
      have HIn := Lib.hid (fun W (hh : Below w.heap.size w W) => (show SlP W A c m4 from Sl.below h hh))
      clear hM7 h47 hs7
      refine wp_region_seq (S := (fun W => Mm w W [(g11, 26, dga dd), (g9, 57, mfa n f t q d A4 m4.length c4), (w.heap.size + 1, 24, #[.int .i64 k, .slice E cs.length cap]), (w.heap.size, 57, mfa n f t q d A m4.length c)] [])) [(0, true), (1, true), (2, true), (3, true), (4, true), (5, true), (6, true), (7, true), (8, true), (9, false), (10, true), (11, true), (12, true), (13, true), (14, true), (15, false), (16, true), (17, true)] (by kernel_rfl) (by kernel_rfl) (fun _ _ _ _ _ h => h) ?_ (fun hHeld => ?_)
      · exact hMd
      refine gen0 (T := fun W => ((fun W => Mm w W [(g11, 26, dga dd), (g9, 57, mfa n f t q d A4 m4.length c4), (w.heap.size + 1, 24, #[.int .i64 k, .slice E cs.length cap]), (w.heap.size, 57, mfa n f t q d A m4.length c)] [])) W ∧ Below w7.heap.size w7 W ∧ True) ?_ (fun wq1 hT => ?_)
      · exact ⟨by (first | with_reducible exact hMd | with_reducible exact hHeld | with_reducible exact hHeld.call hb9 | with_reducible exact hHeld.call hb10), by (first | with_reducible assumption | with_reducible exact HO8.out | exact bel_call f0 hb9 | exact bel_call f0 hb10), trivial⟩
      (try clear f0 f1 f2 f3 f4 f5 f6 f7 f8 f9 f10 f11)
      obtain ⟨hHeld, f0, -⟩ := hT
      refine seq_take (oi := ⟨some 56, _, _, _, _, _⟩) (v := ?_) rfl (Or.inl ⟨by kernel_rfl, ?_⟩) (by assumption) ?_
      rotate_left
      · (intro wS hSw; (try dsimp only at hSw); refine execV (fun rho hk1 hk2 hk3 hk => ?_); have e10_ := (hk 10).trans (evalP (fg8 (fg1 (fg1 fg0)))); clear hk; go_simp; (try with_reducible rfl))
      (first | (with_reducible refine wpSeq_put ?_; go_big_move) | (try simp only [Act.put, List.setIfInBounds_toArray, List.set_cons_zero, List.set_cons_succ]))
      refine seq_take (oi := ⟨some 57, _, _, _, _, _⟩) (v := ?_) rfl (Or.inl ⟨by kernel_rfl, ?_⟩) (by assumption) ?_
      rotate_left
      · (intro wS hSw; (try dsimp only at hSw); refine execV (fun rho hk1 hk2 hk3 hk => ?_); have e56_ := (hk 56).trans (evalP (fg8 (fg8 (fg8 (fg8 (fg8 (fg8 (fg8 fg0)))))))); clear hk; go_simp; (try with_reducible rfl))
      (first | (with_reducible refine wpSeq_put ?_; go_big_move) | (try simp only [Act.put, List.setIfInBounds_toArray, List.set_cons_zero, List.set_cons_succ]))
      refine seq_take (oi := ⟨some 58, _, _, _, _, _⟩) (v := ?_) rfl (Or.inl ⟨by kernel_rfl, ?_⟩) (by assumption) ?_
      rotate_left
      · (intro wS hSw; (try dsimp only at hSw); refine execV (fun rho hk1 hk2 hk3 hk => ?_); have e57_ := (hk 57).trans (evalP (fg8 (fg8 (fg8 (fg8 (fg8 (fg8 (fg8 (fg1 fg0))))))))); clear hk; go_simp; (try with_reducible rfl))
      (first | (with_reducible refine wpSeq_put ?_; go_big_move) | (try simp only [Act.put, List.setIfInBounds_toArray, List.set_cons_zero, List.set_cons_succ]))
      refine seq_take (oi := ⟨some 59, _, _, _, _, _⟩) (v := ?_) rfl (Or.inl ⟨by kernel_rfl, ?_⟩) (by assumption) ?_
      rotate_left
      · (intro wS hSw; (try dsimp only at hSw); refine execV (fun rho hk1 hk2 hk3 hk => ?_); have e12_ := (hk 12).trans (evalP (fg8 (fg1 (fg1 (fg1 (fg1 fg0)))))); clear hk; go_simp; (try with_reducible rfl))
      (first | (with_reducible refine wpSeq_put ?_; go_big_move) | (try simp only [Act.put, List.setIfInBounds_toArray, List.set_cons_zero, List.set_cons_succ]))
      refine seq_take (oi := ⟨some 60, _, _, _, _, _⟩) (v := ?_) rfl (Or.inl ⟨by kernel_rfl, ?_⟩) (by assumption) ?_
      rotate_left
      · (intro wS hSw; (try dsimp only at hSw); refine execV (fun rho hk1 hk2 hk3 hk => ?_); have e59_ := (hk 59).trans (evalP (fg8 (fg8 (fg8 (fg8 (fg8 (fg8 (fg8 (fg1 (fg1 (fg1 fg0))))))))))); clear hk; go_simp; (try with_reducible rfl))
      (first | (with_reducible refine wpSeq_put ?_; go_big_move) | (try simp only [Act.put, List.setIfInBounds_toArray, List.set_cons_zero, List.set_cons_succ]))
      refine seq_take (oi := ⟨some 61, _, _, _, _, _⟩) (v := ?_) rfl (Or.inl ⟨by kernel_rfl, ?_⟩) (by assumption) ?_
      rotate_left
      · (intro wS hSw; (try dsimp only at hSw); refine execV (fun rho hk1 hk2 hk3 hk => ?_); have e58_ := (hk 58).trans (evalP (fg8 (fg8 (fg8 (fg8 (fg8 (fg8 (fg8 (fg1 (fg1 fg0)))))))))); have e60_ := (hk 60).trans (evalP (fg8 (fg8 (fg8 (fg8 (fg8 (fg8 (fg8 (fg1 (fg1 (fg1 (fg1 fg0)))))))))))); clear hk; go_simp; (try with_reducible rfl))
      (first | (with_reducible refine wpSeq_put ?_; go_big_move) | (try simp only [Act.put, List.setIfInBounds_toArray, List.set_cons_zero, List.set_cons_succ]))
      refine seq_take (oi := ⟨some 62, _, _, _, _, _⟩) (v := ?_) rfl (Or.inl ⟨by kernel_rfl, ?_⟩) (by assumption) ?_
      rotate_left
      · (intro wS hSw; (try dsimp only at hSw); refine execV (fun rho hk1 hk2 hk3 hk => ?_); have e61_ := (hk 61).trans (evalP (fg8 (fg8 (fg8 (fg8 (fg8 (fg8 (fg8 (fg1 (fg1 (fg1 (fg1 (fg1 fg0))))))))))))); clear hk; go_simp; (try with_reducible rfl))
      (first | (with_reducible refine wpSeq_put ?_; go_big_move) | (try simp only [Act.put, List.setIfInBounds_toArray, List.set_cons_zero, List.set_cons_succ]))
      refine seq_take (oi := ⟨some 63, _, _, _, _, _⟩) (v := ?_) rfl (Or.inl ⟨by kernel_rfl, ?_⟩) (by assumption) ?_
      rotate_left
      · (intro wS hSw; (try dsimp only at hSw); (refine yld_load 57 (.tmp 9) ?_ ⟨g9, 0, none⟩ (mfa n f t q d A4 m4.length c4) ?_ hSw.b1.cells _ Tryz.underlying57 rfl (by rw [(hmz n f t q d A4 m4.length c4).out]; kernel_rfl) <;> rfl))
      (first | (with_reducible refine wpSeq_put ?_; go_big_move) | (try simp only [Act.put, List.setIfInBounds_toArray, List.set_cons_zero, List.set_cons_succ]))
      refine seq_take (oi := ⟨some 64, _, _, _, _, _⟩) (v := ?_) rfl (Or.inl ⟨by kernel_rfl, ?_⟩) (by assumption) ?_
      rotate_left
      · (intro wS hSw; (try dsimp only at hSw); (refine yld_load 57 (.tmp 3) ?_ ⟨w.heap.size, 0, none⟩ (mfa n f t q d A m4.length c) ?_ hSw.b3.cells _ Tryz.underlying57 rfl (by rw [(hmz n f t q d A m4.length c).out]; kernel_rfl) <;> rfl))
      (first | (with_reducible refine wpSeq_put ?_; go_big_move) | (try simp only [Act.put, List.setIfInBounds_toArray, List.set_cons_zero, List.set_cons_succ]))
      refine seq_step (o := ⟨some 65, _, _, _, _, _⟩) rfl (fun K hK => ?_)
      with_reducible refine wantedP (by kernel_rfl) ?_
      (first | go_big_op | go_simp)
      (refine (HEq.out _ A4 c4 (H4.out _ f0) (HIn.out _ hHeld.bel)).mono ?_; rintro e w8 ⟨rfl, hb9⟩)
      go_wp2_with fail
      refine hK.out _ _ ?_ (fun _ => ?_)
      · ((try dsimp only); (first | with_reducible exact hMd | with_reducible exact hHeld | with_reducible exact hHeld.call hb9 | with_reducible exact hHeld.call hb10))
      clear hK K
      (first | (with_reducible refine wpSeq_put ?_; go_big_move) | (try simp only [Act.put, List.setIfInBounds_toArray, List.set_cons_zero, List.set_cons_succ]))
      refine gen0 (T := fun W => ((fun W => Mm w W [(g11, 26, dga dd), (g9, 57, mfa n f t q d A4 m4.length c4), (w.heap.size + 1, 24, #[.int .i64 k, .slice E cs.length cap]), (w.heap.size, 57, mfa n f t q d A m4.length c)] [])) W ∧ Below w7.heap.size w7 W ∧ True) ?_ (fun wq2 hT => ?_)
      · exact ⟨by (first | with_reducible exact hMd | with_reducible exact hHeld | with_reducible exact hHeld.call hb9 | with_reducible exact hHeld.call hb10), by (first | with_reducible assumption | with_reducible exact HO8.out | exact bel_call f0 hb9 | exact bel_call f0 hb10), trivial⟩
      (try clear f0 f1 f2 f3 f4 f5 f6 f7 f8 f9 f10 f11)
      obtain ⟨hHeld, f0, -⟩ := hT
      refine seq_take (oi := ⟨some 66, _, _, _, _, _⟩) (v := ?_) rfl (Or.inl ⟨by kernel_rfl, ?_⟩) (by assumption) ?_
      rotate_left
      · (intro wS hSw; (try dsimp only at hSw); refine execV (fun rho hk1 hk2 hk3 hk => ?_); have e65_ := (hk 65).trans (evalP (fg64 (fg1 fg0))); clear hk; go_simp; (try with_reducible rfl))
      (first | (with_reducible refine wpSeq_put ?_; go_big_move) | (try simp only [Act.put, List.setIfInBounds_toArray, List.set_cons_zero, List.set_cons_succ]))
      refine seq_take (oi := ⟨some 67, _, _, _, _, _⟩) (v := ?_) rfl (Or.inl ⟨by kernel_rfl, ?_⟩) (by assumption) ?_
      rotate_left
      · (intro wS hSw; (try dsimp only at hSw); refine execV (fun rho hk1 hk2 hk3 hk => ?_); have e62_ := (hk 62).trans (evalP (fg8 (fg8 (fg8 (fg8 (fg8 (fg8 (fg8 (fg1 (fg1 (fg1 (fg1 (fg1 (fg1 fg0)))))))))))))); have e66_ := (hk 66).trans (evalP (fg64 (fg1 (fg1 fg0)))); clear hk; go_simp; (try with_reducible rfl))
      (first | (with_reducible refine wpSeq_put ?_; go_big_move) | (try simp only [Act.put, List.setIfInBounds_toArray, List.set_cons_zero, List.set_cons_succ]))
      refine seq_take (oi := ⟨some 68, _, _, _, _, _⟩) (v := ?_) rfl (Or.inl ⟨by kernel_rfl, ?_⟩) (by assumption) ?_
      rotate_left
      · (intro wS hSw; (try dsimp only at hSw); refine execV (fun rho hk1 hk2 hk3 hk => ?_); have e67_ := (hk 67).trans (evalP (fg64 (fg1 (fg1 (fg1 fg0))))); clear hk; go_simp; (try with_reducible rfl))
      (first | (with_reducible refine wpSeq_put ?_; go_big_move) | (try simp only [Act.put, List.setIfInBounds_toArray, List.set_cons_zero, List.set_cons_succ]))
      refine seq_take (oi := ⟨some 69, _, _, _, _, _⟩) (v := ?_) rfl (Or.inl ⟨by kernel_rfl, ?_⟩) (by assumption) ?_
      rotate_left
      · (intro wS hSw; (try dsimp only at hSw); (refine yld_load 26 (.tmp 11) ?_ ⟨g11, 0, none⟩ (dga dd) ?_ hSw.b0.cells _ Tryz.underlying26 rfl (by rw [(hds dd).out]; kernel_rfl) <;> rfl))
      (first | (with_reducible refine wpSeq_put ?_; go_big_move) | (try simp only [Act.put, List.setIfInBounds_toArray, List.set_cons_zero, List.set_cons_succ]))
      refine seq_take (oi := ⟨some 70, _, _, _, _, _⟩) (v := ?_) rfl (Or.inl ⟨by kernel_rfl, ?_⟩) (by assumption) ?_
      rotate_left
      · (intro wS hSw; (try dsimp only at hSw); refine execV (fun rho hk1 hk2 hk3 hk => ?_); have e7_ := (hk 7).trans (evalP (fg1 (fg1 (fg1 (fg1 (fg1 (fg1 (fg1 fg0)))))))); clear hk; go_simp; (try with_reducible rfl))
      (first | (with_reducible refine wpSeq_put ?_; go_big_move) | (try simp only [Act.put, List.setIfInBounds_toArray, List.set_cons_zero, List.set_cons_succ]))
      refine seq_step (o := ⟨some 71, _, _, _, _, _⟩) rfl (fun K hK => ?_)
      with_reducible refine wantedP (by kernel_rfl) ?_
      (first | go_big_op | go_simp)
      (refine (HSm.out _ hHeld.bel (H1.out _ f0)).mono ?_; rintro e w8 ⟨rfl, hb10⟩)
      go_wp2_with fail
      refine hK.out _ _ ?_ (fun _ => ?_)
      · ((try dsimp only); (first | with_reducible exact hMd | with_reducible exact hHeld | with_reducible exact hHeld.call hb9 | with_reducible exact hHeld.call hb10))
      clear hK K
      (first | (with_reducible refine wpSeq_put ?_; go_big_move) | (try simp only [Act.put, List.setIfInBounds_toArray, List.set_cons_zero, List.set_cons_succ]))
      refine gen0 (T := fun W => ((fun W => Mm w W [(g11, 26, dga dd), (g9, 57, mfa n f t q d A4 m4.length c4), (w.heap.size + 1, 24, #[.int .i64 k, .slice E cs.length cap]), (w.heap.size, 57, mfa n f t q d A m4.length c)] [])) W ∧ Below w7.heap.size w7 W ∧ True) ?_ (fun wq3 hT => ?_)
      · exact ⟨by (first | with_reducible exact hMd | with_reducible exact hHeld | with_reducible exact hHeld.call hb9 | with_reducible exact hHeld.call hb10), by (first | with_reducible assumption | with_reducible exact HO8.out | exact bel_call f0 hb9 | exact bel_call f0 hb10), trivial⟩
      (try clear f0 f1 f2 f3 f4 f5 f6 f7 f8 f9 f10 f11)
      obtain ⟨hHeld, f0, -⟩ := hT
      refine seq_take (oi := ⟨some 72, _, _, _, _, _⟩) (v := ?_) rfl (Or.inl ⟨by kernel_rfl, ?_⟩) (by assumption) ?_
      rotate_left
      · (intro wS hSw; (try dsimp only at hSw); refine execV (fun rho hk1 hk2 hk3 hk => ?_); have e69_ := (hk 69).trans (evalP (fg64 (fg1 (fg1 (fg1 (fg1 (fg1 fg0))))))); have e71_ := (hk 71).trans (evalP (fg64 (fg1 (fg1 (fg1 (fg1 (fg1 (fg1 (fg1 fg0))))))))); clear hk; go_simp; (try with_reducible rfl))
      (first | (with_reducible refine wpSeq_put ?_; go_big_move) | (try simp only [Act.put, List.setIfInBounds_toArray, List.set_cons_zero, List.set_cons_succ]))
      refine seq_take (oi := ⟨some 73, _, _, _, _, _⟩) (v := ?_) rfl (Or.inl ⟨by kernel_rfl, ?_⟩) (by assumption) ?_
      rotate_left
      · (intro wS hSw; (try dsimp only at hSw); refine execV (fun rho hk1 hk2 hk3 hk => ?_); have e68_ := (hk 68).trans (evalP (fg64 (fg1 (fg1 (fg1 (fg1 fg0)))))); have e72_ := (hk 72).trans (evalP (fg64 (fg8 fg0))); clear hk; go_simp; (try with_reducible rfl))
      (first | (with_reducible refine wpSeq_put ?_; go_big_move) | (try simp only [Act.put, List.setIfInBounds_toArray, List.set_cons_zero, List.set_cons_succ]))
      refine seq_done ?_
      go_wp2_with fail
      go_meet
      exact hHeld.sub (by simp)
  clear hM3 hs1 hnil hgrd hm1 HZ
  have hM3 := hcut
  clear hcut
  -- (2) what a part was made of holds it
  obtain ⟨⟨px, yl, kx⟩, hmo⟩ : ∃ r, mof (k, cs.map ceOf) = r := ⟨_, rfl⟩
  have HO := Lib.hid (fun W (hh : Below w.heap.size w W) => MOf_any k cs W (hG.below hh) (hs.below hh))
  rw [hmo] at HO
  obtain ⟨ze, hze⟩ : ∃ ze : Bool, decide (kx = 0) = ze := ⟨_, rfl⟩
  obtain ⟨ev2, hev⟩ : ∃ ev, errv kx = ev := ⟨_, rfl⟩
  have hnil : ∀ W : World, (binOp .eql 37 ev2 .nilIface).run Tryz.prog W = .ok (.bool ze) W := fun W => by rw [← hev, ← hze]; exact errv_eql _ W
  have hgrd : ∀ W : World, (eqGuard .eql 37 (.tmp 80) (.const .nilIface) ev2 .nilIface).run Tryz.prog W = .ok () W := fun W => by rw [← hev]; exact errv_guard _ _ W
  have HZ := Lib.hid hze
  have HMO := Lib.hid hmo
  obtain ⟨a0, a1, -, -⟩ := hM3.b0.two
  go_wp2_with fail
  refine (HO.out _ hM3.bel).mono ?_
  clear HO a0 a1
  rintro e w4 ⟨A5, c5, m5, rfl, hm5, ho5, hb5⟩
  dsimp only at hm5 ⊢
  rw [hev]
  have hM4 := (hM3.callAdd hb5 (a := A5.map (·.block)) (fun k e => Own.lt ho5 k e)).alloc (pta px) 28
  have hlo : w.heap.size ≤ wc.heap.size := hM3.bel.size
  have ho6 : OwnB (w4.alloc (.cells (pta px) 28)) w.heap.size 5 A5 c5 m5 := (Own.below ho5 (below_new _ _)).more hlo
  clear hM3 hb5 ho5 hlo hmo hze hev
  go_upto_region 12 with (refine wpl_storeN rfl 28 _ _ rfl _ (pta px) 28 rfl rfl (by rw [(hpzs px).out]; kernel_rfl) (by rw [(hpzs px).out]; rfl) (hpas px).out ?_)
  refine gen1 (T := fun W => Mm w W [(w4.heap.size, 28, pta px), (w.heap.size + 1, 24, #[.int .i64 k, .slice E cs.length cap]), (w.heap.size, 57, mfa n f t q d A ps.length c)] [A5.map (·.block)] ∧ OwnB W w.heap.size 5 A5 c5 m5) ⟨hM4, ho6⟩ (fun w5 hT => ?_)
  clear hM4 ho6
  obtain ⟨hM5, ho5⟩ := hT
  generalize w4.heap.size = g13 at *
  go_upto_if 81 with (fail)
  go_cut [16, 17, 18, 19] from 82 to 119 (fun _ _ _ _ wz => Mm w wz [(w.heap.size, 57, mfa n f t q d A ps.length c)] [])
  case first =>
    cases ze with
    | false =>
      go_wp2_with fail
      go_meet
      exact (hM5.subG (by simp)).sub (by simp)
    | true =>
      obtain rfl : kx = 0 := of_decide_eq_true HZ.out
      obtain ⟨hz1, hz2, hz3⟩ := mof_zero HMO.out
      dsimp only at hz2
      have hy : m5 = yl := hm5.out
      subst hy
      have hyl : 4 ≤ m5.length ∧ m5.length ≤ 7100 := by
        have h1 := stxt_len hz1
        have h2 := frm_len (stxt (k, cs.map ceOf))
        have h3 := vb_le10 (n := (stxt (k, cs.map ceOf)).length) (by omega)
        rw [hz3]
        omega
      have hzl : ((cs.map ceOf).length : Int) = (cs.length : Int) := by simp
      have hm6 : mholds px m5 = ((k, cs.map ceOf), 0) := by
        have h1 := sgTake_frm hz1
        rw [← hz3] at h1
        rw [mholds_6 (by rw [hz2]) (by rw [hz2]) (by rw [h1]) (by rw [h1, hz2]) (by rw [h1, hz2]), h1]
      have hb2 : ∀ y : List UInt8, y.length = m5.length → (mholds px y).2 ≠ 11 → shaD y = px.2.2.2 := fun y hy h11 => by
        by_cases h2 : shaD y = px.2.2.2
        · exact h2
        · rw [mholds_2 (by rw [hy, hz2]) h2] at h11
          exact absurd rfl h11
      have HB2 := Lib.hid hb2
      have HH := Lib.hid (fun W (hh : Below w.heap.size w W) (c : Nat) (A : Option Addr) (y : List UInt8) (hy : y.length = m5.length) (h1 : SlB W A c y) => show Calls Tryz.prog 15 #[.agg (pta px), .slice A m5.length c] W (GivesSgN W (mholds px y)) from by
        have h9 := MHolds_any px y W (hG.below hh) h1 (by omega)
        rw [hy] at h9
        exact h9)
      have HH1 := Lib.hid (fun W (hh : Below w.heap.size w W) (c : Nat) (A : Option Addr) (h1 : SlB W A c m5) => MHolds_any px m5 W (hG.below hh) h1 (by omega))
      rw [hm6] at HH1
      have HYL := Lib.hid hyl
      clear hz1 hz2 hz3 hzl hm6 hb2 hyl hnil hgrd HZ HMO hm5
      go_wp2_with (with_reducible refine wpl_loadG (by kernel_rfl) 28 _ rfl ⟨g13, 0, none⟩ (pta px) rfl hM5.b0.cells _ Tryz.underlying28 rfl (by rw [(hpzs px).out]; kernel_rfl) ?_)
      refine (HH1.out _ hM5.bel _ _ (Own.sl ho5)).mono ?_
      clear HH1
      rintro e w6 ⟨A7, c7, m7, rfl, hm7, hN7, hb7⟩
      dsimp only at hm7 ⊢
      rw [show errv 0 = Value.nilIface from rfl]
      have hM6 := hM5.call hb7
      have ho6 := Own.below ho5 hb7
      clear hM5 ho5 hb7
      go_upto_region 14 with (fail)
      refine gen1 (T := fun W => Mm w W [(w6.heap.size, 24, #[.int .i64 k, .slice A7 m7.length c7]), (g13, 28, pta px), (w.heap.size + 1, 24, #[.int .i64 k, .slice E cs.length cap]), (w.heap.size, 57, mfa n f t q d A ps.length c)] [A5.map (·.block)] ∧ OwnB W w.heap.size 5 A5 c5 m5 ∧ SlC W A7 c7 m7) ⟨hM6.alloc _ _, Own.below ho6 (below_new _ _), SlC.below hN7.slc (below_new _ _)⟩ (fun w7 hT => ?_)
      clear hM6 ho6 hN7
      obtain ⟨hM7, ho7, hN7⟩ := hT
      generalize w6.heap.size = g16 at *
      obtain ⟨a0, a1, -, -⟩ := hM7.b0.two
      obtain ⟨b0, b1, -, -⟩ := hM7.b2.two
      have HS := Lib.hid (SSame_any k k m7 cs w7 hN7 (hs.below hM7.bel))
      rw [show ssame (k, m7.map ceOf) (k, cs.map ceOf) = true from by rw [ssame_eq, hm7.out]; simp] at HS
      clear hN7
      go_wp2_with fail
      refine HS.out.mono ?_
      clear HS a0 a1 b0 b1
      rintro e w8 ⟨rfl, hb8⟩
      have hM8 := hM7.call hb8
      have ho8 := Own.below ho7 hb8
      clear hM7 ho7 hb8
      go_upto_region 16 with (fail)
      obtain ⟨g5, -, rfl, hg5, -, -, -⟩ := Own.row ho8 (by have := HYL.out; simp; omega)
      have hyl := HYL.out
      obtain ⟨j, hj⟩ : ∃ j, m5.length / 2 = j := ⟨_, rfl⟩
      have hj1 : j < m5.length := by omega
      have hq1 : (m5.length : Int).tdiv 2 = (j : Int) := by rw [Int.tdiv_eq_ediv_of_nonneg (by omega)]; omega
      have hq2 : (m5.length : Int) / 2 = (j : Int) := by omega
      have hj2 : (j : Int) < (m5.length : Int) := by omega
      have hc := Own.cellAt ho8 (j := j) (by simpa using hj1)
      have hfz := Own.frz ho8 j
      rw [List.getElem_map] at hc
      have hx1 := Lib.hid (show bits .xor .u8 (m5[j].toNat : Int) 1 = ((m5[j] ^^^ 1).toNat : Int) from by
        rw [show (1 : Int) = ((1 : UInt8).toNat : Int) from rfl, xor_u8 m5[j].toNat_lt (1 : UInt8).toNat_lt, UInt8.toNat_xor])
      have ho9 := Own.setAt ho8 (j := j) (by simpa using hj1) (bv (m5[j] ^^^ 1))
      rw [← List.map_set] at ho9
      have hl9 : (m5.set j (m5[j] ^^^ 1)).length = m5.length := List.length_set
      have hM9 := hM8.wr ((Wr.refl w8 g5).set_ j (bv (m5[j] ^^^ 1))) (.head _) hg5
      generalize m5[j] = b0 at *
      have HY := Lib.hid hl9
      have HO9 := Lib.hid ho9
      have HM9 := Lib.hid hM9
      clear ho8 hM8 ho9 hM9 hl9 hj
      go_upto_region 17 with (fail)
      rw [hx1.out]
      refine gen1 (T := fun W => Mm w W [(g16, 24, #[.int .i64 k, .slice A7 m7.length c7]), (g13, 28, pta px), (w.heap.size + 1, 24, #[.int .i64 k, .slice E cs.length cap]), (w.heap.size, 57, mfa n f t q d A ps.length c)] [some g5] ∧ OwnB W w.heap.size 5 (some ⟨g5, 0, none⟩) c5 (m5.set j (b0 ^^^ 1))) ⟨HM9.out, by unfold OwnB; rw [HY.out]; exact HO9.out⟩ (fun w9 hT => ?_)
      clear HM9 HO9 hx1 hc hfz hq1 hq2 hj2
      obtain ⟨hM9, ho9⟩ := hT
      generalize m5.set j (b0 ^^^ 1) = y at *
      clear hj1 hyl
      have HTk := Lib.hid (HH.out w9 hM9.bel _ _ y HY.out (Own.sl ho9))
      have HR3 := Lib.hid (HB2.out y HY.out)
      generalize mholds px y = r at *
      obtain ⟨⟨f8, cs8⟩, bad8⟩ := r
      dsimp only at HR3
      have hyl := Lib.hid (show y.length ≤ 7100 from by rw [HY.out]; exact HYL.out.2)
      clear HB2 HH HYL
      go_wp2_with (with_reducible refine wpl_loadG (by kernel_rfl) 28 _ rfl ⟨g13, 0, none⟩ (pta px) rfl hM9.b1.cells _ Tryz.underlying28 rfl (by rw [(hpzs px).out]; kernel_rfl) ?_)
      refine HTk.out.mono ?_
      clear HTk
      rintro e w10 ⟨A8, c8, m8, rfl, hm8, hN8, hb8⟩
      dsimp only
      have hM10 := (hM9.call hb8).alloc #[.int .i64 f8, .slice A8 m8.length c8] 24
      have ho10 := Own.below (Own.below ho9 hb8) (below_new w10 (.cells #[.int .i64 f8, .slice A8 m8.length c8] 24))
      clear hM9 ho9 hb8 hN8
      go_upto_region 18 with (fail)
      refine gen1 (T := fun W => Mm w W [(w10.heap.size, 24, #[.int .i64 f8, .slice A8 m8.length c8]), (g16, 24, #[.int .i64 k, .slice A7 m7.length c7]), (g13, 28, pta px), (w.heap.size + 1, 24, #[.int .i64 k, .slice E cs.length cap]), (w.heap.size, 57, mfa n f t q d A ps.length c)] [some g5] ∧ OwnB W w.heap.size 5 (some ⟨g5, 0, none⟩) c5 y) ⟨hM10, ho10⟩ (fun w11 hT => ?_)
      clear hM10 ho10
      obtain ⟨hM11, ho11⟩ := hT
      have hMd := ((hM11.subG (G' := []) (by simp)).sub (L' := [(g13, 28, pta px), (w.heap.size, 57, mfa n f t q d A ps.length c)]) (by simp)).drew
      have HO8 := Lib.hid (Below.drew (Below.refl w11.heap.size w11))
      have HIs := Lib.hid (fun W => isn_any bad8 11 W)
      obtain ⟨ev8, hev8⟩ : ∃ ev, errv bad8 = ev := ⟨_, rfl⟩
      rw [hev8] at HIs ⊢
      have HSy := Lib.hid (fun W (hh : Below w11.heap.size w11 W) => show Calls Tryz.prog 25 #[.slice (some ⟨g5, 0, none⟩) m5.length c5] W fun e w' => e = .returned (.agg (dga (shaD y))) ∧ Below W.heap.size W w' from by
        have h9 := rOf03_any y W (Sl.below (Own.sl ho11) hh) (by have := hyl.out; omega)
        rw [HY.out] at h9
        exact h9)
      clear hM11 ho11 hev8
      by_cases h11 : bad8 = 11
      · have hq : ((bad8 : Int) == 11) = true := by rw [h11]; rfl
        rw [hq] at HIs
        clear hq h11 HR3 HSy
        refine wp_region_seq (S := (fun W => Mm w W [(g13, 28, pta px), (w.heap.size, 57, mfa n f t q d A ps.length c)] [])) [(0, true), (1, false), (2, true), (3, true), (4, true), (5, true), (6, true), (7, true), (8, true), (9, true)] (by kernel_rfl) (by kernel_rfl) (fun _ _ _ _ _ h => h) ?_ (fun hHeld => ?_)
        · first | with_reducible exact hMd | with_reducible exact hHeld
        refine seq_take (oi := ⟨some 110, _, _, _, _, _⟩) (v := ?_) rfl (Or.inl ⟨by kernel_rfl, ?_⟩) (by assumption) ?_
        rotate_left
        · (intro wS hSw; (try dsimp only at hSw); refine execV (fun rho hk1 hk2 hk3 hk => ?_); have e19_ := (hk 19).trans (evalP (fg8 (fg8 (fg1 (fg1 (fg1 fg0)))))); clear hk; go_simp; (try with_reducible rfl))
        (first | (with_reducible refine wpSeq_put ?_; go_big_move) | (try simp only [Act.put, List.setIfInBounds_toArray, List.set_cons_zero, List.set_cons_succ]))
        refine seq_step (o := ⟨some 111, _, _, _, _, _⟩) rfl (fun K hK => ?_)
        with_reducible refine wantedP (by kernel_rfl) ?_
        (first | go_big_op | go_simp)
        (refine (HIs.out _).mono ?_; rintro e w12 ⟨rfl, rfl⟩)
        go_wp2_with fail
        refine hK.out _ _ ?_ (fun hHeld => ?_)
        · ((try dsimp only); (first | with_reducible exact hMd | with_reducible exact hHeld))
        clear hK K
        (first | (with_reducible refine wpSeq_put ?_; go_big_move) | (try simp only [Act.put, List.setIfInBounds_toArray, List.set_cons_zero, List.set_cons_succ]))
        refine seq_take (oi := ⟨some 112, _, _, _, _, _⟩) (v := ?_) rfl (Or.inl ⟨by kernel_rfl, ?_⟩) (by assumption) ?_
        rotate_left
        · (intro wS hSw; (try dsimp only at hSw); refine execV (fun rho hk1 hk2 hk3 hk => ?_); have e111_ := (hk 111).trans (evalP (fg64 (fg8 (fg8 (fg8 (fg8 (fg8 (fg1 (fg1 (fg1 (fg1 (fg1 (fg1 (fg1 fg0)))))))))))))); clear hk; go_simp; (try with_reducible rfl))
        (first | (with_reducible refine wpSeq_put ?_; go_big_move) | (try simp only [Act.put, List.setIfInBounds_toArray, List.set_cons_zero, List.set_cons_succ]))
        refine seq_take (oi := ⟨some 113, _, _, _, _, _⟩) (v := ?_) rfl (Or.inl ⟨by kernel_rfl, ?_⟩) (by assumption) ?_
        rotate_left
        · (intro wS hSw; (try dsimp only at hSw); refine execV (fun rho hk1 hk2 hk3 hk => ?_); have e112_ := (hk 112).trans (evalP (fg64 (fg8 (fg8 (fg8 (fg8 (fg8 (fg8 fg0)))))))); clear hk; go_simp; (try with_reducible rfl))
        (first | (with_reducible refine wpSeq_put ?_; go_big_move) | (try simp only [Act.put, List.setIfInBounds_toArray, List.set_cons_zero, List.set_cons_succ]))
        refine seq_take (oi := ⟨some 114, _, _, _, _, _⟩) (v := undef) rfl (Or.inr ⟨by kernel_rfl, rfl⟩) (by assumption) ?_
        (first | (with_reducible refine wpSeq_put ?_; go_big_move) | (try simp only [Act.put, List.setIfInBounds_toArray, List.set_cons_zero, List.set_cons_succ]))
        refine seq_take (oi := ⟨some 115, _, _, _, _, _⟩) (v := undef) rfl (Or.inr ⟨by kernel_rfl, rfl⟩) (by assumption) ?_
        (first | (with_reducible refine wpSeq_put ?_; go_big_move) | (try simp only [Act.put, List.setIfInBounds_toArray, List.set_cons_zero, List.set_cons_succ]))
        refine seq_take (oi := ⟨some 116, _, _, _, _, _⟩) (v := undef) rfl (Or.inr ⟨by kernel_rfl, rfl⟩) (by assumption) ?_
        (first | (with_reducible refine wpSeq_put ?_; go_big_move) | (try simp only [Act.put, List.setIfInBounds_toArray, List.set_cons_zero, List.set_cons_succ]))
        refine seq_take (oi := ⟨some 117, _, _, _, _, _⟩) (v := undef) rfl (Or.inr ⟨by kernel_rfl, rfl⟩) (by assumption) ?_
        (first | (with_reducible refine wpSeq_put ?_; go_big_move) | (try simp only [Act.put, List.setIfInBounds_toArray, List.set_cons_zero, List.set_cons_succ]))
        refine seq_take (oi := ⟨some 118, _, _, _, _, _⟩) (v := undef) rfl (Or.inr ⟨by kernel_rfl, rfl⟩) (by assumption) ?_
        (first | (with_reducible refine wpSeq_put ?_; go_big_move) | (try simp only [Act.put, List.setIfInBounds_toArray, List.set_cons_zero, List.set_cons_succ]))
        refine seq_take (oi := ⟨some 119, _, _, _, _, _⟩) (v := ?_) rfl (Or.inl ⟨by kernel_rfl, ?_⟩) (by assumption) ?_
        rotate_left
        · (intro wS hSw; (try dsimp only at hSw); refine execV (fun rho hk1 hk2 hk3 hk => ?_); have e113_ := (hk 113).trans (evalP (fg64 (fg8 (fg8 (fg8 (fg8 (fg8 (fg8 (fg1 fg0))))))))); have e118_ := (hk 118).trans (evalP (fg64 (fg8 (fg8 (fg8 (fg8 (fg8 (fg8 (fg1 (fg1 (fg1 (fg1 (fg1 (fg1 fg0)))))))))))))); clear hk; go_simp; (try with_reducible rfl))
        (first | (with_reducible refine wpSeq_put ?_; go_big_move) | (try simp only [Act.put, List.setIfInBounds_toArray, List.set_cons_zero, List.set_cons_succ]))
        refine seq_done ?_
        go_wp2_with fail
        go_meet
        exact hMd.sub (by simp)
      · have hq : ((bad8 : Int) == 11) = false := by rw [beq_eq_false_iff_ne]; omega
        rw [hq] at HIs
        have hn := fun W => neq_dgR (shaD y) px.2.2.2 W
        rw [decide_eq_true (HR3.out h11), Bool.not_true] at hn
        generalize shaD y = dy at *
        clear hq h11 HR3
        refine wp_region_seq (S := (fun W => Mm w W [(g13, 28, pta px), (w.heap.size, 57, mfa n f t q d A ps.length c)] [])) [(0, true), (1, false), (2, true), (3, true), (4, true), (6, true), (7, true), (5, false), (8, true), (9, true)] (by kernel_rfl) (by kernel_rfl) (fun _ _ _ _ _ h => h) ?_ (fun hHeld => ?_)
        · first | with_reducible exact hMd
        refine gen0 (T := fun W => ((fun W => Mm w W [(g13, 28, pta px), (w.heap.size, 57, mfa n f t q d A ps.length c)] [])) W ∧ Below w11.heap.size w11 W ∧ True) ?_ (fun wq1 hT => ?_)
        · exact ⟨by (first | with_reducible exact hMd | with_reducible exact hHeld | with_reducible exact hHeld.call hb9), by (first | with_reducible assumption | with_reducible exact HO8.out | exact bel_call f0 hb9), trivial⟩
        (try clear f0 f1 f2 f3 f4 f5 f6 f7 f8 f9 f10 f11)
        obtain ⟨hHeld, f0, -⟩ := hT
        refine seq_take (oi := ⟨some 110, _, _, _, _, _⟩) (v := ?_) rfl (Or.inl ⟨by kernel_rfl, ?_⟩) (by assumption) ?_
        rotate_left
        · (intro wS hSw; (try dsimp only at hSw); refine execV (fun rho hk1 hk2 hk3 hk => ?_); have e19_ := (hk 19).trans (evalP (fg8 (fg8 (fg1 (fg1 (fg1 fg0)))))); clear hk; go_simp; (try with_reducible rfl))
        (first | (with_reducible refine wpSeq_put ?_; go_big_move) | (try simp only [Act.put, List.setIfInBounds_toArray, List.set_cons_zero, List.set_cons_succ]))
        refine seq_step (o := ⟨some 111, _, _, _, _, _⟩) rfl (fun K hK => ?_)
        with_reducible refine wantedP (by kernel_rfl) ?_
        (first | go_big_op | go_simp)
        (refine (HIs.out _).mono ?_; rintro e w12 ⟨rfl, rfl⟩)
        go_wp2_with fail
        refine hK.out _ _ ?_ (fun _ => ?_)
        · ((try dsimp only); (first | with_reducible exact hMd | with_reducible exact hHeld | with_reducible exact hHeld.call hb9))
        clear hK K
        (first | (with_reducible refine wpSeq_put ?_; go_big_move) | (try simp only [Act.put, List.setIfInBounds_toArray, List.set_cons_zero, List.set_cons_succ]))
        refine gen0 (T := fun W => ((fun W => Mm w W [(g13, 28, pta px), (w.heap.size, 57, mfa n f t q d A ps.length c)] [])) W ∧ Below w11.heap.size w11 W ∧ True) ?_ (fun wq2 hT => ?_)
        · exact ⟨by (first | with_reducible exact hMd | with_reducible exact hHeld | with_reducible exact hHeld.call hb9), by (first | with_reducible assumption | with_reducible exact HO8.out | exact bel_call f0 hb9), trivial⟩
        (try clear f0 f1 f2 f3 f4 f5 f6 f7 f8 f9 f10 f11)
        obtain ⟨hHeld, f0, -⟩ := hT
        refine seq_take (oi := ⟨some 112, _, _, _, _, _⟩) (v := ?_) rfl (Or.inl ⟨by kernel_rfl, ?_⟩) (by assumption) ?_
        rotate_left
        · (intro wS hSw; (try dsimp only at hSw); refine execV (fun rho hk1 hk2 hk3 hk => ?_); have e111_ := (hk 111).trans (evalP (fg64 (fg8 (fg8 (fg8 (fg8 (fg8 (fg1 (fg1 (fg1 (fg1 (fg1 (fg1 (fg1 fg0)))))))))))))); clear hk; go_simp; (try with_reducible rfl))
        (first | (with_reducible refine wpSeq_put ?_; go_big_move) | (try simp only [Act.put, List.setIfInBounds_toArray, List.set_cons_zero, List.set_cons_succ]))
        refine seq_take (oi := ⟨some 113, _, _, _, _, _⟩) (v := ?_) rfl (Or.inl ⟨by kernel_rfl, ?_⟩) (by assumption) ?_
        rotate_left
        · (intro wS hSw; (try dsimp only at hSw); refine execV (fun rho hk1 hk2 hk3 hk => ?_); have e112_ := (hk 112).trans (evalP (fg64 (fg8 (fg8 (fg8 (fg8 (fg8 (fg8 fg0)))))))); clear hk; go_simp; (try with_reducible rfl))
        (first | (with_reducible refine wpSeq_put ?_; go_big_move) | (try simp only [Act.put, List.setIfInBounds_toArray, List.set_cons_zero, List.set_cons_succ]))
        refine seq_take (oi := ⟨some 114, _, _, _, _, _⟩) (v := ?_) rfl (Or.inl ⟨by kernel_rfl, ?_⟩) (by assumption) ?_
        rotate_left
        · (intro wS hSw; (try dsimp only at hSw); refine execV (fun rho hk1 hk2 hk3 hk => ?_); have e14_ := (hk 14).trans (evalP (fg8 (fg1 (fg1 (fg1 (fg1 (fg1 (fg1 fg0)))))))); clear hk; go_simp; (try with_reducible rfl))
        (first | (with_reducible refine wpSeq_put ?_; go_big_move) | (try simp only [Act.put, List.setIfInBounds_toArray, List.set_cons_zero, List.set_cons_succ]))
        refine seq_take (oi := ⟨some 116, _, _, _, _, _⟩) (v := ?_) rfl (Or.inl ⟨by kernel_rfl, ?_⟩) (by assumption) ?_
        rotate_left
        · (intro wS hSw; (try dsimp only at hSw); refine execV (fun rho hk1 hk2 hk3 hk => ?_); have e13_ := (hk 13).trans (evalP (fg8 (fg1 (fg1 (fg1 (fg1 (fg1 fg0))))))); clear hk; go_simp; (try with_reducible rfl))
        (first | (with_reducible refine wpSeq_put ?_; go_big_move) | (try simp only [Act.put, List.setIfInBounds_toArray, List.set_cons_zero, List.set_cons_succ]))
        refine seq_take (oi := ⟨some 117, _, _, _, _, _⟩) (v := ?_) rfl (Or.inl ⟨by kernel_rfl, ?_⟩) (by assumption) ?_
        rotate_left
        · (intro wS hSw; (try dsimp only at hSw); (refine yld_load 26 (.tmp 116) ?_ ⟨g13, 3, none⟩ (dga px.2.2.2) ?_ (BlT.dg hSw.b0) _ Tryz.underlying26 rfl (by rw [(hds px.2.2.2).out]; kernel_rfl) <;> rfl))
        (first | (with_reducible refine wpSeq_put ?_; go_big_move) | (try simp only [Act.put, List.setIfInBounds_toArray, List.set_cons_zero, List.set_cons_succ]))
        refine seq_step (o := ⟨some 115, _, _, _, _, _⟩) rfl (fun K hK => ?_)
        with_reducible refine wantedP (by kernel_rfl) ?_
        (first | go_big_op | go_simp)
        (refine (HSy.out _ f0).mono ?_; rintro e w12 ⟨rfl, hb9⟩)
        go_wp2_with fail
        refine hK.out _ _ ?_ (fun _ => ?_)
        · ((try dsimp only); (first | with_reducible exact hMd | with_reducible exact hHeld | with_reducible exact hHeld.call hb9))
        clear hK K
        (first | (with_reducible refine wpSeq_put ?_; go_big_move) | (try simp only [Act.put, List.setIfInBounds_toArray, List.set_cons_zero, List.set_cons_succ]))
        refine gen0 (T := fun W => ((fun W => Mm w W [(g13, 28, pta px), (w.heap.size, 57, mfa n f t q d A ps.length c)] [])) W ∧ Below w11.heap.size w11 W ∧ True) ?_ (fun wq3 hT => ?_)
        · exact ⟨by (first | with_reducible exact hMd | with_reducible exact hHeld | with_reducible exact hHeld.call hb9), by (first | with_reducible assumption | with_reducible exact HO8.out | exact bel_call f0 hb9), trivial⟩
        (try clear f0 f1 f2 f3 f4 f5 f6 f7 f8 f9 f10 f11)
        obtain ⟨hHeld, f0, -⟩ := hT
        refine seq_take (oi := ⟨some 118, _, _, _, _, _⟩) (v := ?_) rfl (Or.inl ⟨by kernel_rfl, ?_⟩) (by assumption) ?_
        rotate_left
        · (intro wS hSw; (try dsimp only at hSw); refine execV (fun rho hk1 hk2 hk3 hk => ?_); have e115_ := (hk 115).trans (evalP (fg64 (fg8 (fg8 (fg8 (fg8 (fg8 (fg8 (fg1 (fg1 (fg1 fg0))))))))))); have e117_ := (hk 117).trans (evalP (fg64 (fg8 (fg8 (fg8 (fg8 (fg8 (fg8 (fg1 (fg1 (fg1 (fg1 (fg1 fg0))))))))))))); clear hk; go_simp; (try with_reducible rfl))
        (first | (with_reducible refine wpSeq_put ?_; go_big_move) | (try simp only [Act.put, List.setIfInBounds_toArray, List.set_cons_zero, List.set_cons_succ]))
        refine seq_take (oi := ⟨some 119, _, _, _, _, _⟩) (v := ?_) rfl (Or.inl ⟨by kernel_rfl, ?_⟩) (by assumption) ?_
        rotate_left
        · (intro wS hSw; (try dsimp only at hSw); refine execV (fun rho hk1 hk2 hk3 hk => ?_); have e113_ := (hk 113).trans (evalP (fg64 (fg8 (fg8 (fg8 (fg8 (fg8 (fg8 (fg1 fg0))))))))); have e118_ := (hk 118).trans (evalP (fg64 (fg8 (fg8 (fg8 (fg8 (fg8 (fg8 (fg1 (fg1 (fg1 (fg1 (fg1 (fg1 fg0)))))))))))))); clear hk; go_simp; (try with_reducible rfl))
        (first | (with_reducible refine wpSeq_put ?_; go_big_move) | (try simp only [Act.put, List.setIfInBounds_toArray, List.set_cons_zero, List.set_cons_succ]))
        refine seq_done ?_
        go_wp2_with fail
        go_meet
        exact hHeld.sub (by simp)
  clear hM5 ho5 hnil hgrd HZ HMO hm5
  have hM5 := hcut
  clear hcut
  -- (3) what is taken has just those bytes
  have HTb := Lib.hid (fun W (hh : Below w.heap.size w W) => MTake_any B cb b W (Sl.below hb hh) (by omega))
  have HBk := Lib.hid (fun (x : Mf) (h : mfTake b = (x, 0)) => mfTake_back h)
  have HBd := Lib.hid (fun (h : (mfTake b).2 ≠ 0) => mfTake_bad h)
  obtain ⟨⟨⟨n9, f9, t9, q9, d9, p9⟩, bad9⟩, hmt⟩ : ∃ r, mfTake b = r := ⟨_, rfl⟩
  rw [hmt] at HTb HBk HBd
  clear hmt
  go_wp2_with fail
  refine (HTb.out _ hM5.bel).mono ?_
  clear HTb
  rintro e w12 ⟨A9, c9, m9, rfl, hm9, ho9, hb9⟩
  dsimp only at hm9 ⊢
  go_upto_region 21 with (refine wpl_storeN rfl 57 _ _ rfl _ (mfa n9 f9 t9 q9 d9 A9 m9.length c9) 57 rfl rfl (by rw [(hmz n9 f9 t9 q9 d9 A9 m9.length c9).out]; kernel_rfl) (by rw [(hmz n9 f9 t9 q9 d9 A9 m9.length c9).out]; rfl) (hma n9 f9 t9 q9 d9 A9 m9.length c9).out ?_)
  refine gen1 (T := fun W => Mm w W [(w12.heap.size, 57, mfa n9 f9 t9 q9 d9 A9 m9.length c9), (w.heap.size, 57, mfa n f t q d A ps.length c)] [] ∧ SlP W A9 c9 m9) ⟨(hM5.call hb9).alloc _ _, Sl.below (Own.sl ho9) (below_new _ _)⟩ (fun w13 hT => ?_)
  clear hM5 ho9 hb9
  obtain ⟨hM13, hs13⟩ := hT
  generalize w12.heap.size = g20 at *
  rcases errv_cases bad9 with ⟨h0, hev⟩ | ⟨ke, hk1, hke, hev⟩
  · subst h0
    rw [hev]
    obtain ⟨hz1, hz2⟩ := HBk.out _ rfl
    have HZ2 := Lib.hid hz2
    have HZ1 := Lib.hid hz1
    clear hz2
    have HPx := Lib.hid (MPut_any n9 f9 t9 q9 d9 m9 w13 hs13 (by rw [hm9.out]; exact mchk_I64 hz1))
    go_wp2_with (with_reducible refine wpl_loadG (by kernel_rfl) 57 _ rfl ⟨g20, 0, none⟩ (mfa n9 f9 t9 q9 d9 A9 m9.length c9) rfl hM13.b0.cells _ Tryz.underlying57 rfl (by rw [(hmz n9 f9 t9 q9 d9 A9 m9.length c9).out]; kernel_rfl) ?_)
    refine HPx.out.mono ?_
    clear HPx
    rintro e w14 ⟨A10, c10, m10, rfl, hm10, ho10, hb10⟩
    have hM14 := hM13.call hb10
    rw [hm9.out] at hm10
    have hmb : (m10 == b) = true := by
      rw [hm10.out, HZ2.out]
      unfold mfput
      rw [if_pos hz1]
      simp
    rw [show mchk (n9, f9, t9, q9, d9, m9) = 0 from by rw [hm9.out]; exact hz1, show errv 0 = Value.nilIface from rfl]
    have HB := Lib.hid (nBytes_any A10 B c10 cb m10 b w14 (Own.sl ho10) (Sl.below hb hM14.bel))
    rw [hmb] at HB
    clear hmb hz1 ho10
    go_wp2_with fail
    refine HB.out.mono ?_
    rintro e w15 ⟨rfl, rfl⟩
    go_wp2_with fail
    go_ret
    exact ⟨rfl, hM14.bel⟩
  · rw [hev]
    have hbd := HBd.out (show bad9 ≠ 0 from by omega)
    have he9 : n9 = 0 ∧ f9 = 0 ∧ t9 = 0 ∧ q9 = 0 ∧ d9 = dg0 ∧ p9 = [] := by
      unfold mfz at hbd
      simpa only [Prod.mk.injEq] using hbd
    have HEq := Lib.hid (MSame_any n9 f9 t9 q9 0 0 0 0 d9 dg0 m9 [] w13 hs13 (Sl.none_ _ _))
    rw [show mfeq (n9, f9, t9, q9, d9, m9) (0, 0, 0, 0, dg0, []) = true from eq_mf (by rw [hm9.out]; exact hbd)] at HEq
    clear he9 hbd hev
    go_wp2_with (first | (with_reducible refine wpl_loadG (by kernel_rfl) 57 _ rfl ⟨g20, 0, none⟩ (mfa n9 f9 t9 q9 d9 A9 m9.length c9) rfl hM13.b0.cells _ Tryz.underlying57 rfl (by rw [(hmz n9 f9 t9 q9 d9 A9 m9.length c9).out]; kernel_rfl) ?_) | (refine wpl_buildMz rfl rfl ?_))
    refine HEq.out.mono ?_
    rintro e w15 ⟨rfl, hb15⟩
    go_wp2_with fail
    go_ret
    exact ⟨rfl, bel_call hM13.bel hb15⟩
set_option maxRecDepth 100000 in
set_option maxHeartbeats 1000000 in
theorem mback_early {A E B : Option Addr} {c cap cb : Nat} {n f t q k : Int} {d : Dg} {ps : List Pt5} {cs : List CeV} {b : List UInt8} (w : World) (hs : SlC w E cap cs) (hp : 60 < ps.length ∨ ps.length ≤ 60 ∧ longb (cs.map ceOf) 80 = true ∨ ps.length ≤ 60 ∧ longb (cs.map ceOf) 80 = false ∧ 4000 < b.length) (h1 : ps.length ≤ 9223372036854775807) (h2 : b.length ≤ 9223372036854775807) :
    Calls Tryz.prog 4 #[.agg (mfa n f t q d A ps.length c), cv k E cs.length cap, .slice B b.length cb] w fun e w' => e = .returned (.bool true) ∧ Below w.heap.size w w' := by
  have hM := ((Mm.start w).alloc (mfa n f t q d A ps.length c) 57).alloc #[.int .i64 k, .slice E cs.length cap] 24
  rw [show (w.alloc (.cells (mfa n f t q d A ps.length c) 57)).heap.size = w.heap.size + 1 from by simp] at hM
  have HLg := Lib.hid (fun W (hh : Below w.heap.size w W) => Long_any cs 80 W (hs.below hh))
  go_enter Tryz.func4, Tryz.ntmps4
  go_upto_region 1 with (fail)
  refine gen1 (T := fun W => Mm w W [(w.heap.size + 1, 24, #[.int .i64 k, .slice E cs.length cap]), (w.heap.size, 57, mfa n f t q d A ps.length c)] []) hM (fun w0 hM => ?_)
  go_wp2_with fail
  refine (alive15_any _).mono ?_
  rintro e w1 ⟨rfl, hb1⟩
  have hM1 := hM.call hb1
  clear hM hb1
  obtain ⟨a0, a1, -, -⟩ := hM1.b0.two
  obtain ⟨q0, q1, q2, q3, q4⟩ := Blm.five hM1.b1
  rcases hp with hp | ⟨hp, hL⟩ | ⟨hp, hL, hl⟩
  · have hpI : (60 : Int) < (ps.length : Int) := by omega
    go_wp2_with fail
    go_ret
    exact ⟨rfl, hM1.bel⟩
  · have hpI : (ps.length : Int) ≤ 60 := by omega
    rw [hL] at HLg
    go_wp2_with fail
    refine (HLg.out _ hM1.bel).mono ?_
    rintro e w2 ⟨rfl, hb2⟩
    have hM2 := hM1.call hb2
    go_wp2_with fail
    go_ret
    exact ⟨rfl, hM2.bel⟩
  · have hpI : (ps.length : Int) ≤ 60 := by omega
    have hlI : (4000 : Int) < (b.length : Int) := by omega
    rw [hL] at HLg
    go_wp2_with fail
    refine (HLg.out _ hM1.bel).mono ?_
    rintro e w2 ⟨rfl, hb2⟩
    have hM2 := hM1.call hb2
    go_wp2_with fail
    go_ret
    exact ⟨rfl, hM2.bel⟩
theorem mback15_all {A E B : Option Addr} {c cap cb : Nat} {n f t q k : Int} {d : Dg} {ps : List Pt5} {cs : List CeV} {b : List UInt8} (w : World) (hG : Shg w) (h : SlP w A c ps) (hI : PtsI ps) (hs : SlC w E cap cs) (hb : SlB w B cb b) :
    Calls Tryz.prog 4 #[.agg (mfa n f t q d A ps.length c), cv k E cs.length cap, .slice B b.length cb] w fun e w' => e = .returned (.bool true) ∧ Below w.heap.size w w' := by
  have h1 := h.len_le
  have h2 := hb.len_le
  unfold maxLen at h1 h2
  rcases Nat.lt_or_ge 60 ps.length with hp | hp
  · exact mback_early w hs (.inl hp) (by omega) (by omega)
  cases hL : longb (cs.map ceOf) 80
  · rcases Nat.lt_or_ge 4000 b.length with hl | hl
    · exact mback_early w hs (.inr (.inr ⟨hp, hL, hl⟩)) (by omega) (by omega)
    · exact mback_walk w hG h hI hs hb hp hL hl
  · exact mback_early w hs (.inr (.inl ⟨hp, hL⟩)) (by omega) (by omega)
end Go.Proofs.YtabnndjdkjkciaaGreatDoor
