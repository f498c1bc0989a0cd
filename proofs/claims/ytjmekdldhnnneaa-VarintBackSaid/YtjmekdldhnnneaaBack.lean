/- WHAT IS PROVED: the statement VarintBack: for every input the law returns true. No condition. -/
import Derived.Test.YtjmekdldhnnneaaRefS
import Derived.Test.YtjmekdldhnnneaaBackP
import Derived.Test.YtjmekdldhnnneaaZigW
namespace Go.Proofs.Ytjmekdldhnnneaa
open Go.ChangeShapes Go.WideShapes Go.ChangeAt Go.RowKit
attribute [local go_sem ↓] Go.wp_at_zero Go.wp_at_succ

theorem back_early {B D : Option Addr} {d f : Nat} {n : Nat} {ns : List Nat} {t : List UInt8} (w : World) (h : 100 < t.length ∨ 40 < ns.length) :
    Calls Try.prog 13 #[.int .u64 n, .slice B ns.length d, .slice D t.length f] w fun e w' => e = .returned (.bool true) ∧ Below w.heap.size w w' := by
  rcases Decidable.em (100 < t.length) with h1 | h1 <;> rcases Decidable.em (40 < ns.length) with h2 | h2
  all_goals first
    | (exfalso; omega)
    | (go_enter Try.func13, Try.ntmps13
       go_wp2_with fail
       refine (alive01_any w).mono ?_
       rintro e w1 ⟨rfl, hb1⟩
       go_wp2_with fail
       go_ret
       exact ⟨rfl, hb1⟩)

set_option maxRecDepth 100000 in
set_option maxHeartbeats 2000000 in
theorem back_walk {B D : Option Addr} {d f : Nat} {n : Nat} {ns : List Nat} {t : List UInt8} (w : World) (hn : U64 n) (hb : SlN w B d ns) (h64 : ∀ n ∈ ns, U64 n) (ht : SlB w D f t) (h1 : t.length ≤ 100) (h2 : ns.length ≤ 40) :
    Calls Try.prog 13 #[.int .u64 n, .slice B ns.length d, .slice D t.length f] w fun e w' => e = .returned (.bool true) ∧ Below w.heap.size w w' := by
  have hne : Hid (zz (zb n) = n) := zz_zb n
  have hz : Hid (I64 (zb n)) := zb_i64 hn
  have HN : Hid (U64 n) := hn
  have H64 : Hid (∀ n ∈ ns, U64 n) := h64
  clear hn h64
  go_enter Try.func13, Try.ntmps13
  go_wp2_with fail
  refine (alive01_any w).mono ?_
  rintro e w1 ⟨rfl, hb1⟩
  go_wp2_with fail
  refine (Put_any none 0 [] (some ⟨w1.heap.size, 0, none⟩) 1 [n] _ (by simp) (SlB.nil _ _ _ (by simp [maxLen]) (fun _ => rfl)) (Sl.lits w1 [nv n] 27 (by simp [maxLen])) (by simp) (by intro k hk; simp at hk; subst hk; exact HN.out)).mono ?_
  rintro e w2 ⟨A2, c2, m2, rfl, hm2, ho2, hb2⟩
  have hw2 := bel_call (bel_alloc hb1 (.cells #[.int .u64 (n : Int)] 27)) hb2
  have hm2' : Hid (m2 = vb n) := (show _ = _ by rw [hm2.out]; simp [vbs])
  have hl2 : m2.length ≤ 10 := by rw [hm2'.out]; exact vb_le10 HN.out
  clear hm2 hb1 hb2
  go_wp2_with (first | (at_builtin; refine wpl_fresh 24 5 Try.underlying24 u8_info rfl (.tmp 29) (.tmp 30) rfl rfl A2 c2 m2 rfl ho2.sl (by omega) ?_; intro A3 c3 m3 w3 hm3 ho3 hb3; have hl3 : m3.length ≤ 10 := (by rw [hm3.out]; exact hl2); have hw3 := bel_call hw2 hb3) | (at_builtin; go_must (refine wpl_bytes 24 5 Try.underlying24 u8_info rfl (.tmp 31) (.tmp 32) rfl w2.heap.size A3 c3 m3 rfl ho3 D f t rfl (ht.below hw3) (by omega) hb3.size ?_; intro A4 c4 m4 w4 hm4 ho4 _ _ hb4)))
  have hw4 := hw2.trans ((hb3.trans hb4).mono hw2.size)
  have hm4' : Hid (m4 = vb n ++ t) := (show _ = _ by rw [hm4.out, hm3.out, hm2'.out])
  have ht4 : Hid (take m4 = some (n, m2.length)) := (show _ = _ by rw [hm4'.out, take_vb HN.out, hm2'.out])
  refine (Take_any A4 c4 m4 _ ho4.sl).mono ?_
  rintro e w5 ⟨rfl, ⟨h, _⟩ | ⟨y, k, h, rfl⟩⟩
  · rw [ht4.out] at h; cases h
  rw [ht4.out] at h
  simp only [Option.some.injEq, Prod.mk.injEq] at h
  obtain ⟨rfl, rfl⟩ := h
  have hlv : ((vb n).length : Int) = (m2.length : Int) := by rw [hm2'.out]
  have hsz : ∀ W, Calls Try.prog 30 #[.int .u64 n] W fun e w' => e = .returned (.int .i64 (m2.length : Nat)) ∧ W = w' := fun W => by have := Size_any n HN.out W; rw [hlv] at this; exact this
  have HS := Lib.hid hsz
  have hz2 : ∀ W, Calls Try.prog 22 #[.int .i64 (zb n)] W fun e w' => e = .returned (.int .u64 (n : Nat)) ∧ W = w' := fun W => by have := zig_any (zb n) hz.out W; rw [hne.out] at this; exact this
  have HZ := Lib.hid hz2
  clear hsz hlv hz2
  go_wp2_with fail
  refine (HS.out _).mono ?_
  rintro e w5 ⟨rfl, rfl⟩
  go_wp2_with fail
  refine (zag_any n HN.out _).mono ?_
  rintro e w5 ⟨rfl, rfl⟩
  go_wp2_with fail
  refine (HZ.out _).mono ?_
  rintro e w5 ⟨rfl, rfl⟩
  go_wp2_with fail
  have hu : U64 ns.length := by unfold U64; omega
  have hut : U64 t.length := by unfold U64; omega
  have hlb : (lb ns).length ≤ 500 := by
    have := vb_le10 hu
    have := vbs_le H64.out
    rw [lb, List.length_append]
    omega
  have hvt : (vb t.length).length ≤ 10 := vb_le10 hut
  refine (PutList_any none 0 [] B d ns _ (by simp) (SlB.nil _ _ _ (by simp [maxLen]) (fun _ => rfl)) (hb.below hw4) (by omega) H64.out).mono ?_
  rintro e w5 ⟨A5, c5, m5, rfl, hm5, ho5, hb5⟩
  have hw5 := bel_call hw4 hb5
  have hl5 : m5.length ≤ 500 := by rw [hm5.out]; simpa using hlb
  go_wp2_with fail
  refine (PutText_any A5 c5 m5 D f t _ (by omega) ho5.sl (ht.below hw5) (by omega)).mono ?_
  rintro e w6 ⟨A6, c6, m6, rfl, hm6, ho6, hb6⟩
  have hw6 := bel_call hw5 hb6
  have hm6' : Hid (m6 = lb ns ++ (vb t.length ++ t)) := (show _ = _ by rw [hm6.out, hm5.out]; simp)
  have hl6 : m6.length ≤ 1000 := by rw [hm6'.out]; simp only [List.length_append]; omega
  go_wp2_with fail
  refine (New_any A6 c6 m6 _ ho6.sl).mono ?_
  rintro e w7 ⟨g, rfl, hg, hR7, hb7⟩
  have hw7 := bel_call hw6 hb7
  have hz6 := hw6.size
  have hz7 := hw7.size
  have hq := List_any 40 (by omega) (by omega) hR7
  rw [hm6'.out, rList_lb H64.out hu (by omega)] at hq
  have HQ := Lib.hid hq
  clear hq
  go_wp2_with fail
  refine HQ.out.mono ?_
  rintro e w8 ⟨A8, c8, m8, rfl, hm8, ho8, hR8, hr8⟩
  have hw8 := below_wr hw7 hr8 hz7 (by omega)
  have hz8 := hw8.size
  have hq := Text_any 100 (by omega) (by simp only [List.length_append]; omega) hR8
  have he : vb t.length ++ t = vb t.length ++ (t ++ []) := by rw [List.append_nil]
  rw [he, rText_tb hut (by omega)] at hq
  have HQ := Lib.hid hq
  clear hq he
  go_wp2_with fail
  refine HQ.out.mono ?_
  rintro e w9 ⟨A9, c9, m9, rfl, hm9, ho9, hR9, hr9⟩
  have hw9 := below_wr hw8 hr9 hz8 (by omega)
  have hq : ∀ W, IsR W g w6.heap.size ([], 0) → Calls Try.prog 61 #[.pointer (some ⟨g, 0, none⟩)] W fun e w' => e = .returned .nilIface ∧ W = w' := fun W h => End_any h
  have HQ := Lib.hid hq
  clear hq
  go_wp2_with fail
  refine (HQ.out _ hR9).mono ?_
  rintro e w10 ⟨rfl, rfl⟩
  have hd8 : decide (m8 = ns) = true := by rw [hm8.out]; simp
  have hs8 := Own.wr ho8 hR7.lt hr9
  go_wp2_with fail
  refine (wide_any A8 B c8 d m8 ns _ (Own.sl hs8) (hb.below hw9)).mono ?_
  rintro e w10 ⟨rfl, hb10⟩
  have hw10 := bel_call hw9 hb10
  have hq9 : (m9 == t) = true := by rw [hm9.out]; simp
  go_wp2_with fail
  refine (nBytes_any A9 D c9 f m9 t _ (ho9.sl.below hb10) (ht.below hw10)).mono ?_
  rintro e w11 ⟨rfl, rfl⟩
  go_wp2_with fail
  refine (Take_any D f t _ (ht.below hw10)).mono ?_
  rintro e w11 ⟨rfl, ⟨h, rfl⟩ | ⟨y, k, h, rfl⟩⟩
  · go_wp2_with fail
    go_ret
    exact ⟨rfl, hw10⟩
  · obtain ⟨hy, hk, htk⟩ := take_some h
    have hkf : k ≤ f := Nat.le_trans hk ht.2.1
    have hf := ht.2.2.1
    unfold maxLen at hf
    have hkb : (k : Int) ≤ (t.length : Int) := by omega
    have hkc : (k : Int) ≤ (f : Int) := by omega
    have hk0 : (0 : Int) ≤ (k : Int) := by omega
    have hHT : Hid (t.take k = vb y) := htk
    have HY : Hid (U64 y) := hy
    clear h hy htk
    go_wp2_with fail
    have hS10 := ht.below hw10
    have hcut := fun W (h : SlB W D f t) => Sl.takeB h k
    have htl : (t.take k).length = k := by simp; omega
    have HC := Lib.hid hcut
    have HL := Lib.hid htl
    clear hcut htl
    go_region_held3 (fun W => True) (trivial) (first
      | (go_at_call 33; go_must (refine (Put_any none 0 [] (some ⟨w10.heap.size, 0, none⟩) 1 [y] _ (by simp) (SlB.nil _ _ _ (by simp [maxLen]) (fun _ => rfl)) ?_ (by simp) (by intro z hz; simp at hz; subst hz; exact HY.out)).mono ?_; exact Sl.lits w10 [nv y] 27 (by simp [maxLen]); rintro e w11 ⟨A11, c11, m11, rfl, hm11, ho11, hb11⟩))
      | (go_at_call 32; go_must (have hq := nBytes_any A11 D c11 f m11 (t.take k) _ ho11.sl (HC.out _ ((hS10.below (below_new w10 (.cells #[.int .u64 (y : Int)] 27)).drew).below hb11)); rw [HL.out] at hq; refine hq.mono ?_; clear hq; rintro e w12 ⟨rfl, rfl⟩; have hqq : (m11 == t.take k) = true := (by rw [hm11.out, hHT.out]; simp [vbs]))))
    go_wp2_with fail
    go_ret
    exact ⟨rfl, bel_call (bel_alloc hw10 _).drew hb11⟩

theorem back_all {B D : Option Addr} {d f : Nat} {n : Nat} {ns : List Nat} {t : List UInt8} (w : World) (hn : U64 n) (hb : SlN w B d ns) (h64 : ∀ n ∈ ns, U64 n) (ht : SlB w D f t) :
    Calls Try.prog 13 #[.int .u64 n, .slice B ns.length d, .slice D t.length f] w fun e w' => e = .returned (.bool true) ∧ Below w.heap.size w w' := by
  by_cases h : 100 < t.length ∨ 40 < ns.length
  · exact back_early w h
  · exact back_walk w hn hb h64 ht (by omega) (by omega)

namespace VarintBack
theorem own : ownKnob Try.prog.godebug = none := by kernel_rfl
theorem laidOut : laidOutB Try.prog = true := by kernel_rfl

set_option maxRecDepth 100000 in
theorem lifted (os : Os) (started : os.Started) (H : Type) (enc : TypeId × Value → H) :
    ReturnsInHanded {} Try.checked os 13 .any (Rows.varintBackSpec.pre6 enc Try.prog Try.f13 Rows.varintBackRow.domain false) (Rows.varintBackSpec.post enc Try.prog Try.f13 false true false false) := by
  refine returnsInHanded_of_change (C := Try.checked) own started (by kernel_rfl) Try.func13
    (ChangeSpec.witness6 (enc := enc) (C := Try.checked) false ⟨#[], #[.int .u64 0, .slice none 0 0, .slice none 0 0], []⟩ 8 (by kernel_rfl) (by kernel_rfl) (by kernel_rfl) (by kernel_rfl)) ?_
  intro W base args ds gs before hval0 hW hcnd _
  have hval : ∀ (j : Nat) t v, Try.f13.params[j]? = some t → args[j]? = some v → Value.okWide Try.prog W .any base t v := hval0
  have hW0 := hW
  obtain ⟨p, q, hA0, hV, rfl, hfz, hnd⟩ := hW
  have hA : DataW.TrodAll enc Try.prog W 0 (fun _ => true) true Try.f13.params.toList args.toList ds p := hA0
  rw [Try.params13] at hA hval
  obtain ⟨v0, vs0, d0, ds0, p0, q0, hargs, rfl, rfl, h0, r0⟩ := trodAll_cons hA
  obtain ⟨v1, vs1, d1, ds1, p1, q1, rfl, rfl, rfl, h1, r1⟩ := trodAll_cons r0
  obtain ⟨v2, vs2, d2, ds2, p2, q2, rfl, rfl, rfl, h2, r2⟩ := trodAll_cons r1
  obtain ⟨rfl, rfl, rfl⟩ := trodAll_nil r2
  obtain rfl : args = #[v0, v1, v2] := by cases args; simp_all
  obtain ⟨rfl, rfl⟩ := trodVars_none hV
  have lt0 : ∀ x ∈ p0, x.block < W.heap.size := by obtain ⟨m, hm⟩ := h0; exact DataW.trod_lt m _ _ _ hm
  have lt1 : ∀ x ∈ p1, x.block < W.heap.size := by obtain ⟨m, hm⟩ := h1; exact DataW.trod_lt m _ _ _ hm
  have lt2 : ∀ x ∈ p2, x.block < W.heap.size := by obtain ⟨m, hm⟩ := h2; exact DataW.trod_lt m _ _ _ hm
  have k0 := h0
  obtain ⟨a0, rfl, s0⟩ := open_u64 Try.underlying27 (hval 0 27 v0 rfl rfl) h0
  have k1 := h1
  obtain ⟨A1, c1, l1, rfl, s1, u1⟩ := open_nums Try.underlying22 Try.underlying27 (by kernel_rfl) (hval 1 22 v1 rfl rfl) h1
  have k2 := h2
  obtain ⟨A2, c2, l2, rfl, s2⟩ := open_bytes Try.underlying24 Try.underlying5 (by kernel_rfl) (hval 2 24 v2 rfl rfl) h2
  clear hA0 hval0
  refine (back_all W s0 s1 u1 s2).mono fun e W2 ⟨he, bel⟩ => ?_
  subst he
  exact ⟨_, rfl, _, _, _, [], _, [], hW0, trodAll_mk1 (shut_bool Try.underlying4 _), (trodAll_cons_mk (Below.trod laidOut (by kernel_rfl) (of_decide_eq_true (by kernel_rfl)) k0 bel lt0) (trodAll_cons_mk (Below.trod laidOut (by kernel_rfl) (of_decide_eq_true (by kernel_rfl)) k1 bel lt1) (trodAll_cons_mk (Below.trod laidOut (by kernel_rfl) (of_decide_eq_true (by kernel_rfl)) k2 bel lt2) trodAll_mk0))), rfl, bel.frame _, fun h => by cases h⟩

theorem over : Rows.varintBackRow.holds Try.pinned (OpenSpec.ofChange Rows.varintBackSpec) :=
  OpenClaim.holds_of_wide 13 Try.f13 rfl rfl rfl rfl rfl rfl rfl ⟨rfl, rfl, rfl, rfl, rfl⟩ rfl rfl rfl rfl rfl (by kernel_rfl) Try.func13 (by kernel_rfl)
    (of_decide_eq_true (by kernel_rfl)) (by unfold Func.isWrapper; first | (rw [if_pos (by decide +kernel)]; kernel_rfl) | (rw [if_neg (by decide +kernel)]; exact ⟨rfl, rfl⟩))
    (fun os started H enc _ => lifted os started H enc)

theorem proved : Rows.VarintBackSaid := over
end VarintBack
end Go.Proofs.Ytjmekdldhnnneaa
