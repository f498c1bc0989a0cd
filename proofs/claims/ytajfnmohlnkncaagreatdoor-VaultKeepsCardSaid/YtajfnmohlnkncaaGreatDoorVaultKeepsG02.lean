/- WHAT IT HOLDS: what the functions of the package varint compute, walked. | WHAT IT HOLDS: what the document's functions of layer 1 compute, walked. -/
import Derived.Test.YtajfnmohlnkncaaGreatDoorRows
import Derived.Test.YtajfnmohlnkncaaGreatDoorVaultKeepsG01
import Derived.Deep.RegionWith
namespace Go.Proofs.YtajfnmohlnkncaaGreatDoor
section
open Go.RowKit
theorem u8_info : (Tryz.prog.info? 5).map (fun i => (i.zero, i.size, i.bytes)) = some (some (.int .u8 0), 1, 1) := by kernel_rfl
def GivesB (w0 : World) (l : List UInt8) (e : Ending) (w' : World) : Prop :=
 ∃ A c m, e = .returned (.slice A m.length c) ∧ Hid (m = l) ∧ OwnB w' w0.heap.size 5 A c m ∧ Below w0.heap.size w0 w'
set_option maxRecDepth 100000 in
set_option maxHeartbeats 400000 in
theorem put_any (A : Option Addr) (c : Nat) (l : List UInt8) (n : Nat) (hn : U64 n) (w : World) (base : Nat) (hbase : base ≤ w.heap.size) (hl : l.length ≤ 1000000000)
 (hown : OwnB w base 5 A c l) :
  Calls Tryz.prog 111 #[.slice A l.length c, .int .u64 n] w fun e w' => ∃ A' c' m, e = .returned (.slice A' m.length c') ∧ Hid (m = l ++ vb n) ∧ OwnB w' base 5 A' c' m ∧ Below base w w' := by
 go_enter Tryz.func111, Tryz.ntmps111
 go_wp2
 go_loopw [0, 1] (fun v x wr => ∃ (k : Nat) (B : Option Addr) (d : Nat) (m : List UInt8), x = .int .u64 k ∧ v = .slice B m.length d ∧ Hid (l ++ vb n = m ++ vb k) ∧ Hid (U64 k) ∧ OwnB wr base 5 B d m ∧ Below base w wr) (fun v x w => (intOf x).toNat)
 case atStart => exact ⟨n, A, c, l, rfl, rfl, rfl, hn, hown, Below.refl _ _⟩
 case round =>
  obtain ⟨k, B, d, m, rfl, rfl, hm, hk, hownr, hbr⟩ := hrel
  have hml : m.length ≤ 1000000010 := by
   have h1 := congrArg List.length hm.out
   have h2 := vb_le10 hn
   simp only [List.length_append] at h1
   omega
  clear hown
  by_cases h128 : 128 ≤ k
  · have hs := Lib.hid (vb_step h128)
    go_wp2_with (at_builtin; go_must (refine wpl_byte 52 5 Tryz.underlying52 u8_info rfl _ _ rfl base B d m _ (UInt8.ofNat (k % 128 + 128)) (byte_more k) rfl hownr rfl (by omega) (by have := hbr.size; omega) ?_; intro A1 c1 m1 w1 hm1 ho1 _ _ hb1))
    go_roundw
    case rel => exact ⟨k / 128, A1, c1, m1, rfl, rfl, by rw [hm1.out, hm.out, hs.out]; show _ = _; simp, hk.out.div 128, ho1, hbr.trans hb1⟩
    case measure => simp [intOf]; omega
  · have hs := Lib.hid (vb_small (n := k) (by omega))
    go_wp2_with (at_builtin; go_must (refine wpl_byte 52 5 Tryz.underlying52 u8_info rfl _ _ rfl base B d m _ (UInt8.ofNat k) (byte_last (by omega)) rfl hownr rfl (by omega) (by have := hbr.size; omega) ?_; intro A1 c1 m1 w1 hm1 ho1 _ _ hb1))
    go_ret
    exact ⟨A1, c1, m1, rfl, by rw [hm1.out, hm.out, hs.out]; rfl, ho1, hbr.trans hb1⟩
set_option maxRecDepth 100000 in
set_option maxHeartbeats 400000 in
theorem clone_any (A : Option Addr) (c : Nat) (l : List UInt8) (w : World) (hl : l.length ≤ 1000000000) (hs : SlB w A c l) :
 Calls Tryz.prog 88 #[.slice A l.length c] w (GivesB w l) := by
 have hq := fun (w : World) (A : Option Addr) (n c : Nat) => Lib.run_eql_slice_nil (P := Tryz.prog) w 52 5 A n c 0 0 Tryz.underlying52
 rcases A with _ | ad
 · obtain ⟨rfl, rfl⟩ := hs.of_none
   go_enter Tryz.func88, Tryz.ntmps88
   go_wp2
   go_ret
   exact ⟨none, 0, [], rfl, rfl, Own.none_ _ _ _ _, Below.refl _ _⟩
 · go_enter Tryz.func88, Tryz.ntmps88
   go_wp2_with (at_builtin; go_must (refine wpl_bytes 52 5 Tryz.underlying52 u8_info rfl _ _ rfl w.heap.size (some ⟨w.heap.size, 0, none⟩) 0 [] rfl (Own.lit 1 (Nat.le_refl _)) (some ad) c l rfl (hs.below ((Below.refl _ _).alloc (Nat.le_refl _) _)) (by simp; omega) (by simp) ?_; intro A1 c1 m1 w1 hm1 ho1 _ _ hb1))
   go_ret
   exact ⟨A1, c1, m1, rfl, hm1, ho1, ((Below.refl _ _).alloc (Nat.le_refl _) _).trans hb1⟩
abbrev nv (n : Nat) : Value := .int .u64 (n : Int)
abbrev SlN (w : World) (A : Option Addr) (c : Nat) (l : List Nat) : Prop := Sl w 1 A l.length c (l.map nv)
set_option maxRecDepth 100000 in
set_option maxHeartbeats 400000 in
theorem Put_any (A : Option Addr) (c : Nat) (l : List UInt8) (A2 : Option Addr) (c2 : Nat) (ns : List Nat) (w : World) (hl : l.length ≤ 100000000) (hs : SlB w A c l) (hn : SlN w A2 c2 ns) (hns : ns.length ≤ 1000000) (h64 : ∀ n ∈ ns, U64 n) :
 Calls Tryz.prog 83 #[.slice A l.length c, .slice A2 ns.length c2] w (GivesB w (l ++ vbs ns)) := by
 have hmax := hn.len_le
 unfold maxLen at hmax
 go_enter Tryz.func83, Tryz.ntmps83
 go_wp2_with fail
 refine (clone_any A c l w (by omega) hs).mono ?_
 rintro e w1 ⟨A1, c1, m1, rfl, hm1, ho1, hb1⟩
 have hn1 := hn.below hb1
 have hml : m1.length ≤ 100000000 := by rw [hm1.out]; exact hl
 go_wp2_with fail
 go_loopw [5, 12] (fun v x wr => ∃ (k : Nat) (B : Option Addr) (d : Nat) (m : List UInt8), k ≤ ns.length ∧ x = .int .i64 k ∧ v = .slice B m.length d ∧ Hid (m = l ++ vbs (ns.take k)) ∧ OwnB wr w.heap.size 5 B d m ∧ Below w.heap.size w wr) (fun v x w => ns.length - (intOf x).toNat)
 case atStart => exact ⟨0, A1, c1, m1, Nat.zero_le _, rfl, rfl, by rw [hm1.out]; show _ = _; simp [vbs], ho1, hb1⟩
 case round =>
  obtain ⟨k, B, d, m, hk, rfl, rfl, hm, hor, hbr⟩ := hrel
  by_cases hlt : k < ns.length
  · obtain ⟨ad, rfl, hc⟩ := (hn.below hbr).at1 hlt
    have hml : m.length ≤ 200000000 := by
     have h2 := vbs_le (l := ns.take k) (fun n hn => h64 n (List.mem_of_mem_take hn))
     have h3 := congrArg List.length hm.out
     simp only [List.length_append, List.length_take] at h3 h2
     omega
    go_wp2_with fail
    refine (put_any B d m ns[k] (h64 _ (List.getElem_mem hlt)) _ w.heap.size hbr.size (by omega) hor).mono ?_
    rintro e w2 ⟨A2, c2, m2, rfl, hm2, ho2, hb2⟩
    go_wp2_with fail
    go_roundw
    case rel => exact ⟨k + 1, A2, c2, m2, hlt, by go_num, rfl, by rw [hm2.out, hm.out, vbs_snoc hlt]; show _ = _; simp, ho2, hbr.trans hb2⟩
    case measure => simp [intOf]; omega
  · go_wp2_with fail
    go_ret
    exact ⟨B, d, m, rfl, by rw [hm.out, List.take_of_length_le (by omega)]; rfl, hor, hbr⟩
set_option maxRecDepth 100000 in
set_option maxHeartbeats 400000 in
theorem PutText_any (A : Option Addr) (c : Nat) (l : List UInt8) (A2 : Option Addr) (c2 : Nat) (t : List UInt8) (w : World) (hl : l.length ≤ 10000000) (hs : SlB w A c l) (hn : SlB w A2 c2 t) (hns : t.length ≤ 10000000) :
 Calls Tryz.prog 115 #[.slice A l.length c, .slice A2 t.length c2] w (GivesB w (l ++ (vb t.length ++ t))) := by
 have hu : U64 t.length := by unfold U64; omega
 go_enter Tryz.func115, Tryz.ntmps115
 go_wp2_with fail
 have hs0 := hs.below (below_new w (Obj.cells #[Value.int IntKind.u64 t.length] 138))
 have hn0 := hn.below (below_new w (Obj.cells #[Value.int IntKind.u64 t.length] 138))
 refine (Put_any A c l (some ⟨w.heap.size, 0, none⟩) 1 [t.length] _ (by omega) hs0 (Sl.lits w [nv t.length] 138 (by simp [maxLen])) (by simp) (by simpa using hu)).mono ?_
 rintro e w1 ⟨A1, c1, m1, rfl, hm1, ho1, hb1⟩
 have hb1' := (below_new w (Obj.cells #[Value.int IntKind.u64 t.length] 138)).trans (hb1.mono (size_new _ _))
 have hml : m1.length ≤ 10000010 := by
  rw [hm1.out]
  have := vb_le10 hu
  simp [vbs]
  omega
 go_wp2_with (at_builtin; go_must (refine wpl_bytes 52 5 Tryz.underlying52 u8_info rfl _ _ rfl w.heap.size A1 c1 m1 rfl (ho1.more (size_new _ _)) A2 c2 t rfl (hn0.below hb1) (by omega) hb1'.size ?_; intro A3 c3 m3 w3 hm3 ho3 _ _ hb3))
 go_ret
 exact ⟨A3, c3, m3, rfl, by rw [hm3.out, hm1.out]; show _ = _; simp [vbs], ho3, hb1'.trans hb3⟩
def TakeOut (o : Option (Nat × Nat)) (w : World) (e : Ending) (w' : World) : Prop :=
 w = w' ∧ ((o = none ∧ e = .returned (.tuple #[.int .u64 0, .int .i64 0, .iface 60 (.int .i64 2)])) ∨ ∃ n k : Nat, o = some (n, k) ∧ e = .returned (.tuple #[.int .u64 n, .int .i64 k, .nilIface]))
set_option maxRecDepth 100000 in
set_option maxHeartbeats 1000000 in
theorem Take_any (A : Option Addr) (c : Nat) (l : List UInt8) (w : World) (hs : SlB w A c l) :
 Calls Tryz.prog 104 #[.slice A l.length c] w (TakeOut (take l) w) := by
 have hc1 := hs.2.1
 have hc2 := hs.2.2.1
 unfold maxLen at hc2
 by_cases hL : 10 < l.length
 all_goals
  go_enter Tryz.func104, Tryz.ntmps104
  go_wp2_with fail
  go_loop [3, 5, 15] (fun _ v x => ∃ (k n : Nat), k ≤ l.length ∧ k ≤ 10 ∧ x = .int .i64 k ∧ v = .int .u64 n ∧ Hid (n < 128 ^ k) ∧ Hid (take l = tk k n (l.drop k))) (fun _ v x => l.length - (intOf x).toNat)
  case atStart => exact ⟨0, 0, Nat.zero_le _, by omega, rfl, rfl, (show _ < _ by simp), rfl⟩
  case round =>
   obtain ⟨k, n, hk, hk10, rfl, rfl, hn, ht⟩ := hrel
   by_cases hlt : k < l.length ∧ k < 10
   · obtain ⟨hlt, hlt10⟩ := hlt
     obtain ⟨ad, rfl, hc⟩ := hs.at1 hlt
     have htd := Lib.hid (tk_drop hlt k n)
     generalize l[k] = x at *
     by_cases ha : k = 9 ∧ 1 < x.toNat
     · obtain ⟨hk9, ha⟩ := ha
       have hkb : ((k : Int) == 9) = true := by simp; omega
       have Hk9 := Lib.hid hk9
       clear hk9
       go_wp2_with fail
       go_ret3
       exact ⟨rfl, .inl ⟨by rw [ht.out, htd.out, if_pos (Or.inr ⟨Hk9.out, ha⟩)], rfl⟩⟩
     by_cases hb : 128 ≤ x.toNat
     · have hk9 : ¬ k = 9 := by omega
       go_wp2_with fail
       go_round
       case rel => exact ⟨k + 1, n + x.toNat % 128 * 128 ^ k, by omega, by omega, by go_num, congrArg (Value.int .u64) (or_part x n k hn.out (by omega) (fun h => absurd h hk9)), (show _ < _ from next_lt hn.out), (show _ = _ by rw [ht.out, htd.out, if_neg (by omega), if_pos hb])⟩
       case measure => simp [intOf]; omega
     by_cases hd : x.toNat = 0 ∧ 0 < k
     · obtain ⟨hd0, hdk⟩ := hd
       go_wp2_with fail
       all_goals
        go_ret3
        exact ⟨rfl, .inl ⟨by rw [ht.out, htd.out, if_neg (by omega), if_neg hb, if_pos ⟨hd0, hdk⟩], rfl⟩⟩
     · have hx : x.toNat % 128 = x.toNat := by omega
       have hv := or_part x n k hn.out (by omega) (by omega)
       rw [hx] at hv
       have Hx := Lib.hid hx
       have Hv := Lib.hid hv
       have Hd := Lib.hid hd
       have ht' : Hid (take l = some (n + x.toNat * 128 ^ k, k + 1)) := (show _ = _ by rw [ht.out, htd.out, if_neg (by omega), if_neg hb, if_neg hd])
       clear hx hv hd
       rcases Decidable.em (x.toNat = 0) with h0 | h0
       · have hb0 : ((x.toNat : Int) == 0) = true := by simp; omega
         have hk0 : ¬ (0 < k) := fun h => Hd.out ⟨h0, h⟩
         have H0 := Lib.hid h0
         clear h0
         have hk9 : ((k : Int) == 9) = false := by simp; omega
         go_wp2_with fail
         go_ret3
         refine ⟨rfl, .inr ⟨n + x.toNat * 128 ^ k, k + 1, ht'.out, ?_⟩⟩
         rw [← Hv.out]
         rfl
       · have hb0 : ((x.toNat : Int) == 0) = false := by simp; omega
         go_wp2_with fail
         all_goals
          go_ret3
          refine ⟨rfl, .inr ⟨n + x.toNat * 128 ^ k, k + 1, ht'.out, ?_⟩⟩
          rw [← Hv.out]
          first | rfl | (obtain rfl : k = 9 := (by omega); rfl)
   · first | (have hge : 10 ≤ k := by omega) | (have hge : l.length ≤ k := by omega)
     go_wp2_with fail
     go_ret3
     exact ⟨rfl, .inl ⟨by rw [ht.out]; first | (rw [show k = 10 from by omega]; exact tk_end _ _) | (rw [List.drop_eq_nil_of_le (by omega)]; rfl), rfl⟩⟩
theorem take_succ_eq {T : Type} {xs ys : List T} {k : Nat} (h : xs.take k = ys.take k) (hx : k < xs.length) (hy : k < ys.length) : xs.take (k + 1) = ys.take (k + 1) ↔ xs[k] = ys[k] := by
 rw [List.take_succ_eq_append_getElem hx, List.take_succ_eq_append_getElem hy, h]
 exact ⟨fun e => by have := List.append_cancel_left e; simpa using this, fun e => by rw [e]⟩
def errv : Nat → Value
 | 0 => .nilIface
 | n + 1 => .iface 60 (.int .i64 ((n + 1 : Nat) : Int))
set_option maxRecDepth 100000 in
set_option maxHeartbeats 400000 in
theorem num_nil (w : World) : Calls Tryz.prog 47 #[.nilIface] w fun e w' => e = .returned (.int .i64 0) ∧ w = w' := by
 go_enter Tryz.func47, Tryz.ntmps47
 go_wp2_with fail
 go_ret
 exact ⟨rfl, rfl⟩
theorem assert_errno (k : Int) (w : World) : (Instr.typeAssert (.iface 60 (.int .i64 k)) 26 60 true).run Tryz.prog w = .ok (.tuple #[.int .i64 k, .bool true]) w := by kernel_rfl
set_option maxRecDepth 100000 in
set_option maxHeartbeats 400000 in
theorem num_err (k : Int) (hk : 0 < k) (w : World) : Calls Tryz.prog 47 #[.iface 60 (.int .i64 k)] w fun e w' => e = .returned (.int .i64 k) ∧ w = w' := by
 have hz : (k == 0) = false := by simp; omega
 have hn : (k != 0) = true := by simp; omega
 have hta := assert_errno
 go_enter Tryz.func47, Tryz.ntmps47
 go_wp2_with fail
 go_ret
 exact ⟨rfl, rfl⟩
theorem errv_cases (n : Nat) : (n = 0 ∧ errv n = .nilIface) ∨ ∃ k : Int, 0 < k ∧ k = n ∧ errv n = .iface 60 (.int .i64 k) := by
 cases n with
 | zero => exact .inl ⟨rfl, rfl⟩
 | succ n => exact .inr ⟨((n + 1 : Nat) : Int), by omega, rfl, rfl⟩
theorem num_any (n : Nat) (w : World) : Calls Tryz.prog 47 #[errv n] w fun e w' => e = .returned (.int .i64 (n : Nat)) ∧ w = w' := by
 rcases errv_cases n with ⟨rfl, he⟩ | ⟨k, hk, h0, he⟩
 · rw [he]
   exact num_nil w
 · rw [he]
   rw [← h0]
   exact num_err k hk w
theorem isn_any (n : Nat) (k : Int) (w : World) : Calls Tryz.prog 17 #[errv n, .int .i64 k] w fun e w' => e = .returned (.bool ((n : Int) == k)) ∧ w = w' := by
 have h := num_any n w
 generalize errv n = x at h ⊢
 go_enter Tryz.func17, Tryz.ntmps17
 go_wp2_with fail
 refine h.mono ?_
 rintro e w1 ⟨rfl, rfl⟩
 go_wp2_with fail
 go_ret
 exact ⟨rfl, rfl⟩
end
end Go.Proofs.YtajfnmohlnkncaaGreatDoor
