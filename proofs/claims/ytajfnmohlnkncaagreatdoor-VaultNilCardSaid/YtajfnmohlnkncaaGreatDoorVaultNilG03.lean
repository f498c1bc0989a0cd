/- WHAT IT HOLDS: arguments that are slices of structs, opened to the words of Kit; over any program. | WHAT IT HOLDS: what the functions of the package varint compute, walked. | WHAT IT HOLDS: what the document's functions of layer 1 compute, walked. | WHAT IT HOLDS: how many bits and bytes a number has, plainly (no program). | WHAT IT HOLDS: Size, and the document's bytes of texts and lists, walked. | WHAT IT HOLDS: words for a reader in memory, and what its methods do, plainly. | WHAT IT HOLDS: what the methods of varint.Reader do, walked. | WHAT IT HOLDS: Left, Err, End, New of varint.Reader, and what a nil reader does, walked. | WHAT IT HOLDS: what the document's reader (a struct by value) answers, walked. | WHAT IT HOLDS: the document's ListOf, walked. | WHAT IT HOLDS: same, walked. | WHAT IT HOLDS: act, walked. | WHAT IT HOLDS: cells, plainly (no program): which there are, which may become which. -/
import Derived.Test.YtajfnmohlnkncaaGreatDoorVaultNilG02
import Derived.Deep.Slices
import Derived.Deep.Fields
import Derived.ChangeSame
import Derived.Test.YtajfnmohlnkncaaGreatDoorRows
import Derived.Test.YtajfnmohlnkncaaGreatDoorVaultNilG01
import Derived.Deep.RegionWith
import Derived.Test.YtajfnmohlnkncaaGreatDoorShelf
import Derived.RegionTactic
import Derived.ChangeAlike
import Derived.Deep.RegionHeld3
import Derived.Deep.DrawnRows
namespace Go.Proofs.YtajfnmohlnkncaaGreatDoor
open Go.ChangeShapes Go.WideShapes Go.ChangeAt Go.RowKit Go.Deep

section
variable {H : Type} {enc : TypeId × Value → H} {P : Program} {w : World} {base : Nat} {spare : Nat → Bool} {held : Bool}
theorem open_slice_fields {t e : TypeId} {fs : Array Field} {fuel : Nat} {cs : List Value} {x : DataW H × List MemPlace} (ht : P.underlying t = some (.slice e)) (he : P.underlying e = some (.struct fs))
    (hone : oneCellFields P fs = true) (hC : P.cellsOf e = fs.size) (h : DataW.trod enc P w base spare held fuel t cs = some x) :
    (cs = [.slice none 0 0] ∧ x = (.nil, [])) ∨
    ∃ (a : Addr) (len cap m : Nat) (D : Nat → DataW H) (Pl : Nat → List MemPlace), cs = [.slice (some a) len cap] ∧ base ≤ a.block ∧ len ≤ cap ∧ cap ≤ maxLen ∧ m = (if spare a.block then cap else len) ∧
      x = (.slice ((List.range len).map D) ((List.range (m - len)).map fun j => D (len + j)), MemPlace.row a (m * fs.size) ++ (List.range m).flatMap Pl) ∧
      ∀ i, i < m → ∃ (ys : List (DataW H × List MemPlace)) (n : Nat), D i = .agg (ys.map (·.1)) ∧ Pl i = ys.flatMap (·.2) ∧ ys.length = fs.size ∧
        ∀ (j : Nat) (f : Field), fs[j]? = some f → ∃ (v : Value) (y : DataW H × List MemPlace), w.cell? (a.add (i * fs.size + j)) = some v ∧ ys[j]? = some y ∧ DataW.trod enc P w base spare held n f.type [v] = some y := by
  rcases open_slice ht h with h0 | ⟨a, len, cap, m, n, D, Pl, hcs, hb, hl, hm, hmm, hx, hi⟩
  · exact .inl h0
  · refine .inr ⟨a, len, cap, m, D, Pl, hcs, hb, hl, hm, hmm, by rw [hC] at hx; exact hx, fun i him => ?_⟩
    obtain ⟨cs', hc, ht'⟩ := hi i him
    rw [hC] at hc
    obtain ⟨ys, n', hn', hy, hlen, hyl, hf⟩ := DataW.trod_struct he ht'
    obtain ⟨_, hcl, hat⟩ := World.cells?_some hc
    simp only [Prod.mk.injEq] at hy
    refine ⟨ys, n', hy.1, hy.2, hyl, fun j f hj => ?_⟩
    obtain ⟨ho, hk⟩ := hone_of hone j f hj
    have hjl : j < fs.size := (Array.getElem?_eq_some_iff.1 hj).1
    have hcell := hat j hjl
    have hv : cs'[j]? = some (cs'[j]'(by omega)) := List.getElem?_eq_getElem (by omega)
    have h1 := hf j f hj
    rw [ho, hk] at h1
    have hone' : (cs'.drop j).take 1 = [cs'[j]'(by omega)] := by
      rw [List.drop_eq_getElem_cons (by omega)]
      rfl
    rw [hone'] at h1
    have hys : ys[j]? = some (ys[j]'(by omega)) := List.getElem?_eq_getElem (by omega)
    refine ⟨_, _, ?_, hys, h1.trans hys⟩
    rw [← Go.Deep.add_add, hcell, hv]
end

theorem list_choice {T : Type} (R : Nat → T → Prop) : ∀ n, (∀ i, i < n → ∃ t, R i t) → ∃ l : List T, l.length = n ∧ ∀ i (hi : i < l.length), R i l[i]
  | 0, _ => ⟨[], rfl, fun i hi => by simp at hi⟩
  | n + 1, h => by
    obtain ⟨l, hl, hr⟩ := list_choice R n fun i hi => h i (by omega)
    obtain ⟨t, ht⟩ := h n (by omega)
    refine ⟨l ++ [t], by simp [hl], fun i hi => ?_⟩
    by_cases hin : i < l.length
    · rw [List.getElem_append_left hin]; exact hr i hin
    · have : i = l.length := by simp at hi; omega
      subst this
      simpa [hl] using ht
theorem flat_len {T : Type} {f : T → List Value} {s : Nat} (hf : ∀ x, (f x).length = s) (l : List T) : (l.flatMap f).length = l.length * s := by
  induction l with
  | nil => simp
  | cons x l ih => simp only [List.flatMap_cons, List.length_append, hf, ih, List.length_cons, Nat.succ_mul]; omega
theorem flat_get {T : Type} {f : T → List Value} {s : Nat} (hf : ∀ x, (f x).length = s) : ∀ (l : List T) (k j : Nat) (hk : k < l.length), j < s → (l.flatMap f)[k * s + j]? = (f l[k])[j]?
  | x :: l, 0, j, _, hj => by
    simp only [List.flatMap_cons, Nat.zero_mul, Nat.zero_add, List.getElem_cons_zero]
    rw [List.getElem?_append_left (by rw [hf]; exact hj)]
  | x :: l, k + 1, j, hk, hj => by
    have h := flat_get hf l k j (by simpa using hk) hj
    simp only [List.flatMap_cons, List.getElem_cons_succ]
    rw [List.getElem?_append_right (by rw [hf, Nat.succ_mul]; omega), hf, ← h]
    congr 1
    rw [Nat.succ_mul]
    omega
/-- the cell j of the struct k -/
theorem Sl.atS {w : World} {n c size : Nat} {A : Option Addr} {T : Type} {f : T → List Value} {l : List T} (hf : ∀ x, (f x).length = size) (h0 : 0 < size) (h : Sl w size A n c (l.flatMap f)) {k : Nat} (hk : k < l.length) :
    ∃ ad b o, A = some ad ∧ ad.add (k * size) = ⟨b, o, none⟩ ∧ ∀ j u, (f l[k])[j]? = some u → w.cell? ⟨b, o + j, none⟩ = some u := by
  have h1 := flat_get hf l k 0 hk h0
  have h2 : (f l[k])[0]? = some ((f l[k])[0]'(by rw [hf]; exact h0)) := List.getElem?_eq_getElem _
  obtain ⟨ad, hA, hc0⟩ := h.2.2.2.2 _ _ (h1.trans h2)
  have hsp := World.cell?_spot hc0
  have he : ad.add (k * size) = ⟨(ad.add (k * size)).block, (ad.add (k * size)).off, none⟩ := by
    rw [Nat.add_zero] at hsp
    cases h3 : ad.add (k * size) with
    | mk bl of sp => rw [h3] at hsp; simp at hsp; subst hsp; rfl
  refine ⟨ad, _, _, hA, he, fun j u hu => ?_⟩
  have hj : j < size := by have := (List.getElem?_eq_some_iff.1 hu).1; rw [hf] at this; exact this
  obtain ⟨ad', hA', hc⟩ := h.2.2.2.2 _ _ ((flat_get hf l k j hk hj).trans hu)
  rw [hA] at hA'
  injection hA' with e
  subst e
  rw [← addr_add_add, he, addr_lit] at hc
  exact hc
end Go.Proofs.YtajfnmohlnkncaaGreatDoor

namespace Go.Proofs.YtajfnmohlnkncaaGreatDoor
open Go.RowKit

theorem u8_info : (Tryz.prog.info? 5).map (fun i => (i.zero, i.size, i.bytes)) = some (some (.int .u8 0), 1, 1) := by kernel_rfl

/-- new bytes -/
def GivesB (w0 : World) (l : List UInt8) (e : Ending) (w' : World) : Prop :=
  ∃ A c m, e = .returned (.slice A m.length c) ∧ Hid (m = l) ∧ OwnB w' w0.heap.size 5 A c m ∧ Below w0.heap.size w0 w'

set_option maxRecDepth 100000 in
set_option maxHeartbeats 400000 in
theorem put_any (A : Option Addr) (c : Nat) (l : List UInt8) (n : Nat) (hn : U64 n) (w : World) (base : Nat) (hbase : base ≤ w.heap.size) (hl : l.length ≤ 1000000000)
   (hown : OwnB w base 5 A c l) :
    Calls Tryz.prog 111 #[.slice A l.length c, .int .u64 n] w fun e w' => ∃ A' c' m, e = .returned (.slice A' m.length c') ∧ Hid (m = l ++ vb n) ∧ OwnB w' base 5 A' c' m ∧ Below base w w' := by
  go_enter Tryz.func111, Tryz.ntmps111
  go_wp2
  go_loopw [0, 1] (fun v x wr => ∃ (k : Nat) (B : Option Addr) (d : Nat) (m : List UInt8), x = .int .u64 k ∧ v = .slice B m.length d ∧ Hid (l ++ vb n = m ++ vb k) ∧ Hid (U64 k) ∧ OwnB wr base 5 B d m ∧ Below base w wr) (fun v x w => (intOf x).toNat)
  case atStart => exact ⟨n, A, c, l, rfl, rfl, rfl, hn, hown, Below.refl _ _⟩
  case round =>
    obtain ⟨k, B, d, m, rfl, rfl, hm, hk, hownr, hbr⟩ := hrel
    have hml : m.length ≤ 1000000010 := by
      have h1 := congrArg List.length hm.out
      have h2 := vb_le10 hn
      simp only [List.length_append] at h1
      omega
    clear hown
    by_cases h128 : 128 ≤ k
    · have hs := Lib.hid (vb_step h128)
      go_wp2_with (at_builtin; go_must (refine wpl_byte 52 5 Tryz.underlying52 u8_info rfl _ _ rfl base B d m _ (UInt8.ofNat (k % 128 + 128)) (byte_more k) rfl hownr rfl (by omega) (by have := hbr.size; omega) ?_; intro A1 c1 m1 w1 hm1 ho1 _ _ hb1))
      go_roundw
      case rel => exact ⟨k / 128, A1, c1, m1, rfl, rfl, by rw [hm1.out, hm.out, hs.out]; show _ = _; simp, hk.out.div 128, ho1, hbr.trans hb1⟩
      case measure => simp [intOf]; omega
    · have hs := Lib.hid (vb_small (n := k) (by omega))
      go_wp2_with (at_builtin; go_must (refine wpl_byte 52 5 Tryz.underlying52 u8_info rfl _ _ rfl base B d m _ (UInt8.ofNat k) (byte_last (by omega)) rfl hownr rfl (by omega) (by have := hbr.size; omega) ?_; intro A1 c1 m1 w1 hm1 ho1 _ _ hb1))
      go_ret
      exact ⟨A1, c1, m1, rfl, by rw [hm1.out, hm.out, hs.out]; rfl, ho1, hbr.trans hb1⟩

set_option maxRecDepth 100000 in
set_option maxHeartbeats 400000 in
theorem clone_any (A : Option Addr) (c : Nat) (l : List UInt8) (w : World) (hl : l.length ≤ 1000000000) (hs : SlB w A c l) :
    Calls Tryz.prog 88 #[.slice A l.length c] w (GivesB w l) := by
  have hq := fun (w : World) (A : Option Addr) (n c : Nat) => Lib.run_eql_slice_nil (P := Tryz.prog) w 52 5 A n c 0 0 Tryz.underlying52
  rcases A with _ | ad
  · obtain ⟨rfl, rfl⟩ := hs.of_none
    go_enter Tryz.func88, Tryz.ntmps88
    go_wp2
    go_ret
    exact ⟨none, 0, [], rfl, rfl, Own.none_ _ _ _ _, Below.refl _ _⟩
  · go_enter Tryz.func88, Tryz.ntmps88
    go_wp2_with (at_builtin; go_must (refine wpl_bytes 52 5 Tryz.underlying52 u8_info rfl _ _ rfl w.heap.size (some ⟨w.heap.size, 0, none⟩) 0 [] rfl (Own.lit 1 (Nat.le_refl _)) (some ad) c l rfl (hs.below ((Below.refl _ _).alloc (Nat.le_refl _) _)) (by simp; omega) (by simp) ?_; intro A1 c1 m1 w1 hm1 ho1 _ _ hb1))
    go_ret
    exact ⟨A1, c1, m1, rfl, hm1, ho1, ((Below.refl _ _).alloc (Nat.le_refl _) _).trans hb1⟩

abbrev nv (n : Nat) : Value := .int .u64 (n : Int)
/-- numbers of 64 bits that can be read -/
abbrev SlN (w : World) (A : Option Addr) (c : Nat) (l : List Nat) : Prop := Sl w 1 A l.length c (l.map nv)

set_option maxRecDepth 100000 in
set_option maxHeartbeats 400000 in
theorem Put_any (A : Option Addr) (c : Nat) (l : List UInt8) (A2 : Option Addr) (c2 : Nat) (ns : List Nat) (w : World) (hl : l.length ≤ 100000000) (hs : SlB w A c l) (hn : SlN w A2 c2 ns) (hns : ns.length ≤ 1000000) (h64 : ∀ n ∈ ns, U64 n) :
    Calls Tryz.prog 83 #[.slice A l.length c, .slice A2 ns.length c2] w (GivesB w (l ++ vbs ns)) := by
  have hmax := hn.len_le
  unfold maxLen at hmax
  go_enter Tryz.func83, Tryz.ntmps83
  go_wp2_with fail
  refine (clone_any A c l w (by omega) hs).mono ?_
  rintro e w1 ⟨A1, c1, m1, rfl, hm1, ho1, hb1⟩
  have hn1 := hn.below hb1
  have hml : m1.length ≤ 100000000 := by rw [hm1.out]; exact hl
  go_wp2_with fail
  go_loopw [5, 12] (fun v x wr => ∃ (k : Nat) (B : Option Addr) (d : Nat) (m : List UInt8), k ≤ ns.length ∧ x = .int .i64 k ∧ v = .slice B m.length d ∧ Hid (m = l ++ vbs (ns.take k)) ∧ OwnB wr w.heap.size 5 B d m ∧ Below w.heap.size w wr) (fun v x w => ns.length - (intOf x).toNat)
  case atStart => exact ⟨0, A1, c1, m1, Nat.zero_le _, rfl, rfl, by rw [hm1.out]; show _ = _; simp [vbs], ho1, hb1⟩
  case round =>
    obtain ⟨k, B, d, m, hk, rfl, rfl, hm, hor, hbr⟩ := hrel
    by_cases hlt : k < ns.length
    · obtain ⟨ad, rfl, hc⟩ := (hn.below hbr).at1 hlt
      have hml : m.length ≤ 200000000 := by
        have h2 := vbs_le (l := ns.take k) (fun n hn => h64 n (List.mem_of_mem_take hn))
        have h3 := congrArg List.length hm.out
        simp only [List.length_append, List.length_take] at h3 h2
        omega
      go_wp2_with fail
      refine (put_any B d m ns[k] (h64 _ (List.getElem_mem hlt)) _ w.heap.size hbr.size (by omega) hor).mono ?_
      rintro e w2 ⟨A2, c2, m2, rfl, hm2, ho2, hb2⟩
      go_wp2_with fail
      go_roundw
      case rel => exact ⟨k + 1, A2, c2, m2, hlt, by go_num, rfl, by rw [hm2.out, hm.out, vbs_snoc hlt]; show _ = _; simp, ho2, hbr.trans hb2⟩
      case measure => simp [intOf]; omega
    · go_wp2_with fail
      go_ret
      exact ⟨B, d, m, rfl, by rw [hm.out, List.take_of_length_le (by omega)]; rfl, hor, hbr⟩

set_option maxRecDepth 100000 in
set_option maxHeartbeats 400000 in
theorem PutText_any (A : Option Addr) (c : Nat) (l : List UInt8) (A2 : Option Addr) (c2 : Nat) (t : List UInt8) (w : World) (hl : l.length ≤ 10000000) (hs : SlB w A c l) (hn : SlB w A2 c2 t) (hns : t.length ≤ 10000000) :
    Calls Tryz.prog 115 #[.slice A l.length c, .slice A2 t.length c2] w (GivesB w (l ++ (vb t.length ++ t))) := by
  have hu : U64 t.length := by unfold U64; omega
  go_enter Tryz.func115, Tryz.ntmps115
  go_wp2_with fail
  have hs0 := hs.below (below_new w (Obj.cells #[Value.int IntKind.u64 t.length] 138))
  have hn0 := hn.below (below_new w (Obj.cells #[Value.int IntKind.u64 t.length] 138))
  refine (Put_any A c l (some ⟨w.heap.size, 0, none⟩) 1 [t.length] _ (by omega) hs0 (Sl.lits w [nv t.length] 138 (by simp [maxLen])) (by simp) (by simpa using hu)).mono ?_
  rintro e w1 ⟨A1, c1, m1, rfl, hm1, ho1, hb1⟩
  have hb1' := (below_new w (Obj.cells #[Value.int IntKind.u64 t.length] 138)).trans (hb1.mono (size_new _ _))
  have hml : m1.length ≤ 10000010 := by
    rw [hm1.out]
    have := vb_le10 hu
    simp [vbs]
    omega
  go_wp2_with (at_builtin; go_must (refine wpl_bytes 52 5 Tryz.underlying52 u8_info rfl _ _ rfl w.heap.size A1 c1 m1 rfl (ho1.more (size_new _ _)) A2 c2 t rfl (hn0.below hb1) (by omega) hb1'.size ?_; intro A3 c3 m3 w3 hm3 ho3 _ _ hb3))
  go_ret
  exact ⟨A3, c3, m3, rfl, by rw [hm3.out, hm1.out]; show _ = _; simp [vbs], ho3, hb1'.trans hb3⟩

/-- what Take answers -/
def TakeOut (o : Option (Nat × Nat)) (w : World) (e : Ending) (w' : World) : Prop :=
  w = w' ∧ ((o = none ∧ e = .returned (.tuple #[.int .u64 0, .int .i64 0, .iface 60 (.int .i64 2)])) ∨ ∃ n k : Nat, o = some (n, k) ∧ e = .returned (.tuple #[.int .u64 n, .int .i64 k, .nilIface]))

set_option maxRecDepth 100000 in
set_option maxHeartbeats 1000000 in
theorem Take_any (A : Option Addr) (c : Nat) (l : List UInt8) (w : World) (hs : SlB w A c l) :
    Calls Tryz.prog 104 #[.slice A l.length c] w (TakeOut (take l) w) := by
  have hc1 := hs.2.1
  have hc2 := hs.2.2.1
  unfold maxLen at hc2
  by_cases hL : 10 < l.length
  all_goals
    go_enter Tryz.func104, Tryz.ntmps104
    go_wp2_with fail
    go_loop [3, 5, 15] (fun _ v x => ∃ (k n : Nat), k ≤ l.length ∧ k ≤ 10 ∧ x = .int .i64 k ∧ v = .int .u64 n ∧ Hid (n < 128 ^ k) ∧ Hid (take l = tk k n (l.drop k))) (fun _ v x => l.length - (intOf x).toNat)
    case atStart => exact ⟨0, 0, Nat.zero_le _, by omega, rfl, rfl, (show _ < _ by simp), rfl⟩
    case round =>
      obtain ⟨k, n, hk, hk10, rfl, rfl, hn, ht⟩ := hrel
      by_cases hlt : k < l.length ∧ k < 10
      · obtain ⟨hlt, hlt10⟩ := hlt
        obtain ⟨ad, rfl, hc⟩ := hs.at1 hlt
        have htd := Lib.hid (tk_drop hlt k n)
        generalize l[k] = x at *
        by_cases ha : k = 9 ∧ 1 < x.toNat
        · obtain ⟨hk9, ha⟩ := ha
          have hkb : ((k : Int) == 9) = true := by simp; omega
          have Hk9 := Lib.hid hk9
          clear hk9
          go_wp2_with fail
          go_ret3
          exact ⟨rfl, .inl ⟨by rw [ht.out, htd.out, if_pos (Or.inr ⟨Hk9.out, ha⟩)], rfl⟩⟩
        by_cases hb : 128 ≤ x.toNat
        · have hk9 : ¬ k = 9 := by omega
          go_wp2_with fail
          go_round
          case rel => exact ⟨k + 1, n + x.toNat % 128 * 128 ^ k, by omega, by omega, by go_num, congrArg (Value.int .u64) (or_part x n k hn.out (by omega) (fun h => absurd h hk9)), (show _ < _ from next_lt hn.out), (show _ = _ by rw [ht.out, htd.out, if_neg (by omega), if_pos hb])⟩
          case measure => simp [intOf]; omega
        by_cases hd : x.toNat = 0 ∧ 0 < k
        · obtain ⟨hd0, hdk⟩ := hd
          go_wp2_with fail
          all_goals
            go_ret3
            exact ⟨rfl, .inl ⟨by rw [ht.out, htd.out, if_neg (by omega), if_neg hb, if_pos ⟨hd0, hdk⟩], rfl⟩⟩
        · have hx : x.toNat % 128 = x.toNat := by omega
          have hv := or_part x n k hn.out (by omega) (by omega)
          rw [hx] at hv
          have Hx := Lib.hid hx
          have Hv := Lib.hid hv
          have Hd := Lib.hid hd
          have ht' : Hid (take l = some (n + x.toNat * 128 ^ k, k + 1)) := (show _ = _ by rw [ht.out, htd.out, if_neg (by omega), if_neg hb, if_neg hd])
          clear hx hv hd
          rcases Decidable.em (x.toNat = 0) with h0 | h0
          · have hb0 : ((x.toNat : Int) == 0) = true := by simp; omega
            have hk0 : ¬ (0 < k) := fun h => Hd.out ⟨h0, h⟩
            have H0 := Lib.hid h0
            clear h0
            have hk9 : ((k : Int) == 9) = false := by simp; omega
            go_wp2_with fail
            go_ret3
            refine ⟨rfl, .inr ⟨n + x.toNat * 128 ^ k, k + 1, ht'.out, ?_⟩⟩
            rw [← Hv.out]
            rfl
          · have hb0 : ((x.toNat : Int) == 0) = false := by simp; omega
            go_wp2_with fail
            all_goals
              go_ret3
              refine ⟨rfl, .inr ⟨n + x.toNat * 128 ^ k, k + 1, ht'.out, ?_⟩⟩
              rw [← Hv.out]
              first | rfl | (obtain rfl : k = 9 := (by omega); rfl)
      · first | (have hge : 10 ≤ k := by omega) | (have hge : l.length ≤ k := by omega)
        go_wp2_with fail
        go_ret3
        exact ⟨rfl, .inl ⟨by rw [ht.out]; first | (rw [show k = 10 from by omega]; exact tk_end _ _) | (rw [List.drop_eq_nil_of_le (by omega)]; rfl), rfl⟩⟩

theorem take_succ_eq {T : Type} {xs ys : List T} {k : Nat} (h : xs.take k = ys.take k) (hx : k < xs.length) (hy : k < ys.length) : xs.take (k + 1) = ys.take (k + 1) ↔ xs[k] = ys[k] := by
  rw [List.take_succ_eq_append_getElem hx, List.take_succ_eq_append_getElem hy, h]
  exact ⟨fun e => by have := List.append_cancel_left e; simpa using this, fun e => by rw [e]⟩
end Go.Proofs.YtajfnmohlnkncaaGreatDoor

namespace Go.Proofs.YtajfnmohlnkncaaGreatDoor
open Go.RowKit

/-- an error by its number; 0: none -/
def errv : Nat → Value
  | 0 => .nilIface
  | n + 1 => .iface 60 (.int .i64 ((n + 1 : Nat) : Int))

set_option maxRecDepth 100000 in
set_option maxHeartbeats 400000 in
theorem num_nil (w : World) : Calls Tryz.prog 47 #[.nilIface] w fun e w' => e = .returned (.int .i64 0) ∧ w = w' := by
  go_enter Tryz.func47, Tryz.ntmps47
  go_wp2_with fail
  go_ret
  exact ⟨rfl, rfl⟩
theorem assert_errno (k : Int) (w : World) : (Instr.typeAssert (.iface 60 (.int .i64 k)) 26 60 true).run Tryz.prog w = .ok (.tuple #[.int .i64 k, .bool true]) w := by kernel_rfl
set_option maxRecDepth 100000 in
set_option maxHeartbeats 400000 in
theorem num_err (k : Int) (hk : 0 < k) (w : World) : Calls Tryz.prog 47 #[.iface 60 (.int .i64 k)] w fun e w' => e = .returned (.int .i64 k) ∧ w = w' := by
  have hz : (k == 0) = false := by simp; omega
  have hn : (k != 0) = true := by simp; omega
  have hta := assert_errno
  go_enter Tryz.func47, Tryz.ntmps47
  go_wp2_with fail
  go_ret
  exact ⟨rfl, rfl⟩

theorem errv_cases (n : Nat) : (n = 0 ∧ errv n = .nilIface) ∨ ∃ k : Int, 0 < k ∧ k = n ∧ errv n = .iface 60 (.int .i64 k) := by
  cases n with
  | zero => exact .inl ⟨rfl, rfl⟩
  | succ n => exact .inr ⟨((n + 1 : Nat) : Int), by omega, rfl, rfl⟩
theorem num_any (n : Nat) (w : World) : Calls Tryz.prog 47 #[errv n] w fun e w' => e = .returned (.int .i64 (n : Nat)) ∧ w = w' := by
  rcases errv_cases n with ⟨rfl, he⟩ | ⟨k, hk, h0, he⟩
  · rw [he]
    exact num_nil w
  · rw [he]
    rw [← h0]
    exact num_err k hk w

theorem isn_any (n : Nat) (k : Int) (w : World) : Calls Tryz.prog 17 #[errv n, .int .i64 k] w fun e w' => e = .returned (.bool ((n : Int) == k)) ∧ w = w' := by
  have h := num_any n w
  generalize errv n = x at h ⊢
  go_enter Tryz.func17, Tryz.ntmps17
  go_wp2_with fail
  refine h.mono ?_
  rintro e w1 ⟨rfl, rfl⟩
  go_wp2_with fail
  go_ret
  exact ⟨rfl, rfl⟩
end Go.Proofs.YtajfnmohlnkncaaGreatDoor

namespace Go.Proofs.YtajfnmohlnkncaaGreatDoor
open Go.RowKit

end Go.Proofs.YtajfnmohlnkncaaGreatDoor

namespace Go.Proofs.YtajfnmohlnkncaaGreatDoor
open Go.RowKit

end Go.Proofs.YtajfnmohlnkncaaGreatDoor

namespace Go.Proofs.YtajfnmohlnkncaaGreatDoor
open Go.RowKit

/-- only block g has turned, and what is new -/
abbrev Wr (w w' : World) (g : Nat) : Prop := w.grownBy w' (some g)
section
variable {a w w' : World} {g : Nat}
theorem Wr.refl (w : World) (g : Nat) : Wr w w g := World.grownBy.refl w _
theorem Wr.trans {b c : World} (h : Wr a b g) (k : Wr b c g) : Wr a c g :=
  ⟨k.os.trans h.os, k.tape.trans h.tape, k.output.trans h.output, Nat.le_trans h.size k.size, fun i hi hn => (k.block i (Nat.lt_of_lt_of_le hi h.size) hn).trans (h.block i hi hn)⟩
theorem Wr.call (h : Wr a w g) (k : Below w.heap.size w w') : Wr a w' g :=
  h.trans ⟨k.os, k.tape, k.output, k.size, fun i hi _ => k.block i hi⟩
theorem Wr.of_below (k : Below w.heap.size w w') : Wr w w' g := ⟨k.os, k.tape, k.output, k.size, fun i hi _ => k.block i hi⟩
theorem Wr.set_ (h : Wr a w g) (i : Nat) (u : Value) : Wr a (w.setCell ⟨g, i, none⟩ u) g :=
  h.trans ⟨rfl, rfl, rfl, by simp [World.setCell], fun j _ hn => Below.heap_setCell _ _ _ _ (fun e => hn (by rw [e]))⟩
theorem Wr.alloc (h : Wr a w g) (o : Obj) : Wr a (w.alloc o) g := h.call (below_new w o)
theorem Wr.drew (h : Wr a w g) : Wr a w.drew g := ⟨h.os, h.tape, h.output, h.size, h.block⟩
/-- a reader of the call's own was written: nothing that was there before the call has turned -/
theorem Wr.below (h : Wr w w' g) {B : Nat} (hB : B ≤ w.heap.size) (hg : B ≤ g) : Below B w w' :=
  ⟨h.os, h.tape, h.output, h.size, fun k hk => h.block k (by omega) (fun e => by injection e with e; omega)⟩
theorem Wr.callB (h : Wr a w g) (_ : a.heap.size ≤ w.heap.size) (k : Below a.heap.size w w') : Wr a w' g :=
  ⟨k.os.trans h.os, k.tape.trans h.tape, k.output.trans h.output, Nat.le_trans h.size k.size, fun i hi hn => (k.block i hi).trans (h.block i hi hn)⟩
theorem Blk.wr {g' : Nat} {t : TypeId} {cs : Array Value} (h : Blk w g' t cs) (hw : Wr w w' g) (hne : g' ≠ g) : Blk w' g' t cs := (hw.block g' h.lt (fun e => hne (by injection e))).trans h
end

/-- cells that are bytes lie in no block that holds none -/
theorem SlB.wr {w w' : World} {g : Nat} {t : TypeId} {x y : Value} {A : Option Addr} {c : Nat} {l : List UInt8} (h : SlB w A c l) (hb : Blk w g t #[x, y]) (hx : ∀ b, x ≠ bv b) (hy : ∀ b, y ≠ bv b) (hw : Wr w w' g) : SlB w' A c l := by
  refine ⟨h.1, h.2.1, h.2.2.1, h.2.2.2.1, fun j u hj => ?_⟩
  obtain ⟨ad, hA, hc⟩ := h.2.2.2.2 j u hj
  refine ⟨ad, hA, ?_⟩
  have hlt := World.block_lt_of_cell? w _ hc
  have hne : (ad.add j).block ≠ g := by
    intro e
    have hsp := World.cell?_spot hc
    have hu : ∃ b, u = bv b := by
      simp only [List.getElem?_map, Option.map_eq_some_iff] at hj
      obtain ⟨b, _, hb⟩ := hj
      exact ⟨b, hb.symm⟩
    obtain ⟨b, rfl⟩ := hu
    have he : ad.add j = ⟨g, (ad.add j).off, none⟩ := by
      cases h1 : ad.add j with
      | mk bl of sp => rw [h1] at e hsp; simp at e hsp; subst e; subst hsp; rfl
    rw [he, hb.cell] at hc
    match (ad.add j).off, hc with
    | 0, hc => simp at hc; exact hx b hc
    | 1, hc => simp at hc; exact hy b hc
    | n + 2, hc => simp at hc
  exact (World.cell?_of_block (hw.block _ hlt (fun e => hne (by injection e)))).trans hc
theorem errv_ne (n : Nat) : ∀ b, errv n ≠ bv b := by
  intro b h
  cases n <;> simp [errv] at h
theorem slice_ne (A : Option Addr) (n c : Nat) : ∀ b, Value.slice A n c ≠ bv b := fun b h => by cases h

/-- a reader in block g: what is left, its error's number; what is left lies below block B -/
def IsR (w : World) (g B : Nat) (s : List UInt8 × Nat) : Prop :=
  ∃ A c, Blk w g 168 #[.slice A s.1.length c, errv s.2] ∧ SlB w A c s.1 ∧ (s.1 ≠ [] → ∀ ad, A = some ad → ad.block < B)
theorem IsR.lt {w : World} {g B : Nat} {s : List UInt8 × Nat} (h : IsR w g B s) : g < w.heap.size := by obtain ⟨_, _, hb, _⟩ := h; exact hb.lt
theorem IsR.below {w w' : World} {g B : Nat} {s : List UInt8 × Nat} (h : IsR w g B s) (hb : Below w.heap.size w w') : IsR w' g B s := by
  obtain ⟨A, c, h1, h2, h3⟩ := h
  exact ⟨A, c, h1.below hb, h2.below hb, h3⟩
/-- all lies below B: what is done from B on does not matter -/
theorem IsR.apart {w w' : World} {g B C : Nat} {s : List UInt8 × Nat} (h : IsR w g B s) (hg : g < C) (hBC : B ≤ C) (hb : Below C w w') : IsR w' g B s := by
  obtain ⟨A, c, h1, h2, h3⟩ := h
  refine ⟨A, c, (hb.block g hg).trans h1, ⟨h2.1, h2.2.1, h2.2.2.1, h2.2.2.2.1, fun j u hj => ?_⟩, h3⟩
  obtain ⟨ad, hA, hc⟩ := h2.2.2.2.2 j u hj
  have hne : s.1 ≠ [] := by intro e; rw [e] at hj; simp at hj
  exact ⟨ad, hA, (hb.cell (by rw [addr_add_block]; exact Nat.lt_of_lt_of_le (h3 hne ad hA) hBC)).trans hc⟩
theorem SlB.wrR {w w' : World} {g B : Nat} {s : List UInt8 × Nat} {A : Option Addr} {c : Nat} {l : List UInt8} (h : SlB w A c l) (hR : IsR w g B s) (hw : Wr w w' g) : SlB w' A c l := by
  obtain ⟨_, _, hb, _⟩ := hR
  exact SlB.wr h hb (slice_ne _ _ _) (errv_ne _) hw

def rFail (k : Nat) (s : List UInt8 × Nat) : List UInt8 × Nat := if s.2 = 0 then (s.1, k) else s
def rNum (s : List UInt8 × Nat) : Nat × (List UInt8 × Nat) := if s.2 ≠ 0 then (0, s) else match take s.1 with | none => (0, (s.1, 2)) | some (n, k) => (n, (s.1.drop k, 0))
def rWithin (most : Nat) (s : List UInt8 × Nat) : Nat × (List UInt8 × Nat) := if (rNum s).1 > most ∨ (rNum s).1 > 4611686018427387904 then (0, rFail 1 (rNum s).2) else rNum s
def rFixed (many : Int) (s : List UInt8 × Nat) : List UInt8 × (List UInt8 × Nat) := if s.2 ≠ 0 then ([], s) else if many < 0 ∨ many > (s.1.length : Int) then ([], (s.1, 2)) else (s.1.take many.toNat, (s.1.drop many.toNat, 0))
def rLeft (s : List UInt8 × Nat) : Nat := if s.2 = 0 then s.1.length else 0
def rEnd (s : List UInt8 × Nat) : Nat := if s.2 = 0 ∧ 0 < s.1.length then 2 else s.2

theorem Own.wr {w w' : World} {base g : Nat} {e : TypeId} {size n c : Nat} {A : Option Addr} {xs : List Value} (h : Own w base e size A n c xs) (hg : g < base) (hw : Wr w w' g) : Own w' base e size A n c xs := by
  obtain ⟨h1, h2⟩ := h
  refine ⟨h1, ?_⟩
  rcases h2 with h2 | ⟨g', cap, cur, hv, hb, hh, r⟩
  · exact Or.inl h2
  · exact Or.inr ⟨g', cap, cur, hv, hb, (hw.block g' (Array.getElem?_eq_some_iff.1 hh).1 (fun e => by injection e with e; omega)).trans hh, r⟩

/-- new bytes out of a reader -/
def GivesR (w0 : World) (g B : Nat) (r : List UInt8 × (List UInt8 × Nat)) (e : Ending) (w' : World) : Prop :=
  ∃ A c m, e = .returned (.slice A m.length c) ∧ Hid (m = r.1) ∧ OwnB w' w0.heap.size 5 A c m ∧ IsR w' g B r.2 ∧ Wr w0 w' g

theorem rNum_len (s : List UInt8 × Nat) : (rNum s).2.1.length ≤ s.1.length := by
  unfold rNum
  split
  · exact Nat.le_refl _
  · split
    · exact Nat.le_refl _
    · simp
end Go.Proofs.YtajfnmohlnkncaaGreatDoor

namespace Go.Proofs.YtajfnmohlnkncaaGreatDoor
open Go.RowKit

theorem IsR.store {w : World} {g B bad : Nat} {l l' : List UInt8} (hR : IsR w g B (l, bad)) {A' : Option Addr} {c' n : Nat} (hn : n = l'.length) (hS : SlB w A' c' l') (hBd : l' ≠ [] → ∀ ad, A' = some ad → ad.block < B) : IsR (w.setCell ⟨g, 0, none⟩ (.slice A' n c')) g B (l', bad) := by
  subst hn
  obtain ⟨A, c, hB, h0⟩ := hR
  exact ⟨A', c', hB.set_ 0 _, SlB.wr hS hB (slice_ne _ _ _) (errv_ne _) ((Wr.refl _ _).set_ _ _), hBd⟩
theorem drop_ne {l : List UInt8} {k : Nat} (h : l.drop k ≠ []) : l ≠ [] := fun e => h (by rw [e]; simp)
theorem IsR.cut_eq {w : World} {g B bad : Nat} {l : List UInt8} {A : Option Addr} {c k : Nat} (hR : IsR w g B (l, bad)) (hS : SlB w A c l) (hBd : l ≠ [] → ∀ ad, A = some ad → ad.block < B) (hk : k ≤ l.length) (h : c = k) : IsR (w.setCell ⟨g, 0, none⟩ (.slice A (l.length - k) 0)) g B (l.drop k, bad) := by
  have := Sl.cutB hS hk
  rw [if_pos h, show c - k = 0 from by omega] at this
  exact hR.store (by simp) (by rw [← List.length_drop] at this; exact this) (fun hn => hBd (drop_ne hn))
theorem IsR.cut_ne {w : World} {g B bad : Nat} {l : List UInt8} {A : Option Addr} {c k : Nat} (hR : IsR w g B (l, bad)) (hS : SlB w A c l) (hBd : l ≠ [] → ∀ ad, A = some ad → ad.block < B) (hk : k ≤ l.length) (h : ¬ c = k) :
    IsR (w.setCell ⟨g, 0, none⟩ (.slice (Option.map (fun x => x.add k) A) (l.length - k) (c - k))) g B (l.drop k, bad) := by
  have := Sl.cutB hS hk
  rw [if_neg h] at this
  refine hR.store (by simp) (by rw [← List.length_drop] at this; exact this) (fun hn ad hA => ?_)
  cases A with
  | none => simp at hA
  | some a =>
    simp at hA
    rw [← hA, addr_add_block]
    exact hBd (drop_ne hn) a rfl

set_option maxRecDepth 100000 in
set_option maxHeartbeats 400000 in
theorem going_any {g B bad : Nat} {l : List UInt8} {w : World} (hR : IsR w g B (l, bad)) : Calls Tryz.prog 103 #[.pointer (some ⟨g, 0, none⟩)] w fun e w' => e = .returned (.bool (decide (bad = 0))) ∧ w = w' := by
  obtain ⟨A, c, hB, hS, hBd⟩ := hR
  obtain ⟨a0, a1, f0, f1⟩ := hB.two
  rcases errv_cases bad with ⟨h0, he⟩ | ⟨k, hk, h0, he⟩
  · have hd : decide (bad = 0) = true := by simpa using h0
    have H := Lib.hid h0
    clear h0
    go_enter Tryz.func103, Tryz.ntmps103
    go_wp2_with fail
    go_ret
    exact ⟨rfl, rfl⟩
  · have hd : decide (bad = 0) = false := by simp; omega
    have H := Lib.hid h0
    clear h0
    go_enter Tryz.func103, Tryz.ntmps103
    go_wp2_with fail
    go_ret
    exact ⟨rfl, rfl⟩
set_option maxRecDepth 100000 in
set_option maxHeartbeats 400000 in
theorem Fail_any {g B bad : Nat} {l : List UInt8} {w : World} (k : Nat) (hR : IsR w g B (l, bad)) :
    Calls Tryz.prog 71 #[.pointer (some ⟨g, 0, none⟩), errv k] w fun e w' => e = .returned (.tuple #[]) ∧ IsR w' g B (rFail k (l, bad)) ∧ Wr w w' g := by
  have hR0 := hR
  obtain ⟨A, c, hB, hS, hBd⟩ := hR
  obtain ⟨a0, a1, f0, f1⟩ := hB.two
  rcases Decidable.em (bad = 0) with h0 | h0
  · have hd : decide (bad = 0) = true := by simpa using h0
    have hf : rFail k (l, bad) = (l, k) := by unfold rFail; rw [if_pos h0]
    have H := Lib.hid h0
    clear h0
    have hx : ∃ x, errv k = x ∧ (x = .nilIface ∨ ∃ n, x = .iface 60 (.int .i64 n)) := by
      rcases errv_cases k with ⟨_, h⟩ | ⟨n, _, _, h⟩
      · exact ⟨_, h, .inl rfl⟩
      · exact ⟨_, h, .inr ⟨n, rfl⟩⟩
    have HF := Lib.hid hf
    clear hf
    obtain ⟨x, hx, hx2⟩ := hx
    have HX := Lib.hid hx
    rw [hx]
    clear hx
    rcases hx2 with rfl | ⟨n, rfl⟩
    all_goals
      go_enter Tryz.func71, Tryz.ntmps71
      go_wp2_with fail
      refine (going_any hR0).mono ?_
      rintro e w1 ⟨rfl, rfl⟩
      go_wp2_with fail
      go_end0
      refine ⟨rfl, ?_, (Wr.refl _ _).set_ _ _⟩
      rw [HF.out]
      refine ⟨A, c, ?_, hS.wrR hR0 ((Wr.refl _ _).set_ _ _), hBd⟩
      have := hB.set_ 1 (errv k)
      rw [HX.out] at this
      simpa [HX.out] using this
  · have hd : decide (bad = 0) = false := by simpa using h0
    have hf : rFail k (l, bad) = (l, bad) := by unfold rFail; rw [if_neg h0]
    have HF := Lib.hid hf
    clear h0 hf
    go_enter Tryz.func71, Tryz.ntmps71
    go_wp2_with fail
    refine (going_any hR0).mono ?_
    rintro e w1 ⟨rfl, rfl⟩
    go_wp2_with fail
    go_end0
    exact ⟨rfl, by rw [HF.out]; exact hR0, Wr.refl _ _⟩

set_option maxRecDepth 100000 in
set_option maxHeartbeats 400000 in
theorem Number_any {g B bad : Nat} {l : List UInt8} {w : World} (hR : IsR w g B (l, bad)) :
    Calls Tryz.prog 70 #[.pointer (some ⟨g, 0, none⟩)] w fun e w' => e = .returned (.int .u64 ((rNum (l, bad)).1 : Nat)) ∧ IsR w' g B (rNum (l, bad)).2 ∧ Wr w w' g := by
  have hR0 := hR
  obtain ⟨A, c, hB, hS, hBd⟩ := hR
  obtain ⟨a0, a1, f0, f1⟩ := hB.two
  rcases Decidable.em (bad = 0) with h0 | h0
  · subst h0
    have he : errv 0 = .nilIface := rfl
    go_enter Tryz.func70, Tryz.ntmps70
    go_wp2_with fail
    refine (going_any hR0).mono ?_
    rintro e w1 ⟨rfl, rfl⟩
    go_wp2_with fail
    refine (Take_any A c l _ hS).mono ?_
    rintro e w1 ⟨rfl, ⟨ht, rfl⟩ | ⟨n, k, ht, rfl⟩⟩
    · have hn : rNum (l, 0) = (0, (l, 2)) := by simp [rNum, ht]
      have HN := Lib.hid hn
      clear hn ht
      go_wp2_with fail
      go_ret
      rw [HN.out]
      exact ⟨rfl, ⟨A, c, hB.set_ 1 (.iface 60 (.int .i64 2)), hS.wrR hR0 ((Wr.refl _ _).set_ _ _), hBd⟩, (Wr.refl _ _).set_ _ _⟩
    · have hn : rNum (l, 0) = (n, (l.drop k, 0)) := by simp [rNum, ht]
      obtain ⟨hu, hk, _⟩ := take_some ht
      have hkc : k ≤ c := Nat.le_trans hk hS.2.1
      have hmx : c ≤ 9223372036854775807 := by have := hS.2.2.1; unfold maxLen at this; exact this
      have HN := Lib.hid hn
      clear hn ht
      go_wp2_with fail
      all_goals
        go_ret
        rw [HN.out]
        refine ⟨rfl, ?_, (Wr.refl _ _).set_ _ _⟩
        first | exact hR0.cut_eq hS hBd hk ‹_› | exact hR0.cut_ne hS hBd hk ‹_›
  · have hn : rNum (l, bad) = (0, (l, bad)) := by simp [rNum, h0]
    have hd : decide (bad = 0) = false := by simpa using h0
    have HN := Lib.hid hn
    clear hn h0
    go_enter Tryz.func70, Tryz.ntmps70
    go_wp2_with fail
    refine (going_any hR0).mono ?_
    rintro e w1 ⟨rfl, rfl⟩
    go_wp2_with fail
    go_ret
    rw [HN.out]
    exact ⟨rfl, hR0, Wr.refl _ _⟩

theorem rNum_u64 (s : List UInt8 × Nat) : U64 (rNum s).1 := by
  unfold rNum
  split
  · unfold U64; omega
  · split
    · unfold U64; omega
    · rename_i h; exact (take_some h).1

set_option maxRecDepth 100000 in
set_option maxHeartbeats 400000 in
theorem Within_any {g B : Nat} {s : List UInt8 × Nat} {w : World} (most : Nat) (hR : IsR w g B s) :
    Calls Tryz.prog 68 #[.pointer (some ⟨g, 0, none⟩), .int .u64 most] w fun e w' => e = .returned (.int .i64 ((rWithin most s).1 : Nat)) ∧ IsR w' g B (rWithin most s).2 ∧ Wr w w' g := by
  obtain ⟨l, bad⟩ := s
  have hNum := Number_any hR
  have hu := rNum_u64 (l, bad)
  have hW : rWithin most (l, bad) = if (rNum (l, bad)).1 > most ∨ (rNum (l, bad)).1 > 4611686018427387904 then (0, rFail 1 (rNum (l, bad)).2) else rNum (l, bad) := rfl
  generalize rNum (l, bad) = r at *
  obtain ⟨n, l2, bad2⟩ := r
  have HW := Lib.hid hW
  clear hW
  rcases Decidable.em (most < n) with h1 | h1
  · have HG : Hid (rWithin most (l, bad) = (0, rFail 1 (l2, bad2))) := (show _ = _ by rw [HW.out, if_pos (Or.inl h1)])
    have HN := Lib.hid hNum
    clear hNum
    go_enter Tryz.func68, Tryz.ntmps68
    go_wp2_with fail
    refine HN.out.mono ?_
    rintro e w1 ⟨rfl, hR1, hw1⟩
    go_wp2_with fail
    refine (Fail_any 1 hR1).mono ?_
    rintro e w2 ⟨rfl, hR2, hw2⟩
    go_wp2_with fail
    go_ret
    rw [HG.out]
    exact ⟨rfl, hR2, hw1.trans hw2⟩
  · rcases Decidable.em (4611686018427387904 < n) with h2 | h2
    · have HG : Hid (rWithin most (l, bad) = (0, rFail 1 (l2, bad2))) := (show _ = _ by rw [HW.out, if_pos (Or.inr h2)])
      have h3 : (4611686018427387904 : Int) < (n : Int) := by omega
      clear h2
      have HN := Lib.hid hNum
      clear hNum
      go_enter Tryz.func68, Tryz.ntmps68
      go_wp2_with fail
      refine HN.out.mono ?_
      rintro e w1 ⟨rfl, hR1, hw1⟩
      go_wp2_with fail
      refine (Fail_any 1 hR1).mono ?_
      rintro e w2 ⟨rfl, hR2, hw2⟩
      go_wp2_with fail
      go_ret
      rw [HG.out]
      exact ⟨rfl, hR2, hw1.trans hw2⟩
    · have HG : Hid (rWithin most (l, bad) = (n, (l2, bad2))) := (show _ = _ by rw [HW.out, if_neg (by simp only [gt_iff_lt]; omega)])
      have h3 : (n : Int) ≤ 4611686018427387904 := by omega
      clear h2
      have HN := Lib.hid hNum
      clear hNum
      go_enter Tryz.func68, Tryz.ntmps68
      go_wp2_with fail
      refine HN.out.mono ?_
      rintro e w1 ⟨rfl, hR1, hw1⟩
      go_wp2_with fail
      go_ret
      rw [HG.out]
      exact ⟨rfl, hR1, hw1⟩

set_option maxRecDepth 100000 in
set_option maxHeartbeats 1000000 in
theorem Fixed_any {g B bad : Nat} {l : List UInt8} {w : World} (many : Int) (hl : l.length ≤ 1000000000) (hR : IsR w g B (l, bad)) :
    Calls Tryz.prog 102 #[.pointer (some ⟨g, 0, none⟩), .int .i64 many] w (GivesR w g B (rFixed many (l, bad))) := by
  have hR0 := hR
  have hglt := hR.lt
  obtain ⟨A, c, hB, hS, hBd⟩ := hR
  obtain ⟨a0, a1, f0, f1⟩ := hB.two
  rcases Decidable.em (bad = 0) with h0 | h0
  · subst h0
    have he : errv 0 = .nilIface := rfl
    rcases Decidable.em (many < 0) with h1 | h1
    · have HG : Hid (rFixed many (l, 0) = ([], (l, 2))) := (show _ = _ by simp [rFixed, h1])
      go_enter Tryz.func102, Tryz.ntmps102
      go_wp2_with fail
      refine (going_any hR0).mono ?_
      rintro e w1 ⟨rfl, rfl⟩
      go_wp2_with fail
      refine (Fail_any 2 hR0).mono ?_
      rintro e w2 ⟨rfl, hR2, hw2⟩
      go_wp2_with fail
      go_ret
      rw [HG.out]
      exact ⟨none, 0, [], rfl, rfl, Own.none_ _ _ _ _, hR2, hw2⟩
    · obtain ⟨k, rfl⟩ := Int.eq_ofNat_of_zero_le (by omega : 0 ≤ many)
      rcases Decidable.em (l.length < k) with h2 | h2
      · have HG : Hid (rFixed k (l, 0) = ([], (l, 2))) := (show _ = _ by simp [rFixed, h2])
        go_enter Tryz.func102, Tryz.ntmps102
        go_wp2_with fail
        refine (going_any hR0).mono ?_
        rintro e w1 ⟨rfl, rfl⟩
        go_wp2_with fail
        refine (Fail_any 2 hR0).mono ?_
        rintro e w2 ⟨rfl, hR2, hw2⟩
        go_wp2_with fail
        go_ret
        rw [HG.out]
        exact ⟨none, 0, [], rfl, rfl, Own.none_ _ _ _ _, hR2, hw2⟩
      · have HG : Hid (rFixed k (l, 0) = (l.take k, (l.drop k, 0))) := (show _ = _ by simp [rFixed, h2])
        have hk : k ≤ l.length := by omega
        have hkc : k ≤ c := Nat.le_trans hk hS.2.1
        have hmx : c ≤ 9223372036854775807 := by have := hS.2.2.1; unfold maxLen at this; exact this
        go_enter Tryz.func102, Tryz.ntmps102
        go_wp2_with fail
        refine (going_any hR0).mono ?_
        rintro e w1 ⟨rfl, rfl⟩
        go_wp2_with fail
        have hcl := clone_any A c (l.take k) w (by simp; omega) (hS.takeB k)
        rw [show (l.take k).length = k from by simp; omega] at hcl
        refine hcl.mono ?_
        clear hcl
        rintro e w2 ⟨A2, c2, m2, rfl, hm2, ho2, hb2⟩
        have hR2 := hR0.below hb2
        have hS2 := hS.below hb2
        obtain ⟨b0, b1, g0, g1⟩ := (hB.below hb2).two
        go_wp2_with fail
        all_goals
          go_ret
          rw [HG.out]
          refine ⟨A2, c2, m2, rfl, hm2, ho2.wr hglt ((Wr.refl _ _).set_ _ _), ?_, (Wr.of_below hb2).set_ _ _⟩
          first | exact hR2.cut_eq hS2 hBd hk ‹_› | exact hR2.cut_ne hS2 hBd hk ‹_›
  · have hd : decide (bad = 0) = false := by simpa using h0
    have HG : Hid (rFixed many (l, bad) = ([], (l, bad))) := (show _ = _ by simp [rFixed, h0])
    clear h0
    go_enter Tryz.func102, Tryz.ntmps102
    go_wp2_with fail
    refine (going_any hR0).mono ?_
    rintro e w1 ⟨rfl, rfl⟩
    go_wp2_with fail
    go_ret
    rw [HG.out]
    exact ⟨none, 0, [], rfl, rfl, Own.none_ _ _ _ _, hR0, Wr.refl _ _⟩

end Go.Proofs.YtajfnmohlnkncaaGreatDoor

namespace Go.Proofs.YtajfnmohlnkncaaGreatDoor
open Go.RowKit

set_option maxRecDepth 100000 in
set_option maxHeartbeats 400000 in
theorem Left_any {g B bad : Nat} {l : List UInt8} {w : World} (hR : IsR w g B (l, bad)) : Calls Tryz.prog 106 #[.pointer (some ⟨g, 0, none⟩)] w fun e w' => e = .returned (.int .i64 (rLeft (l, bad) : Nat)) ∧ w = w' := by
  have hR0 := hR
  obtain ⟨A, c, hB, hS, _⟩ := hR
  obtain ⟨a0, a1, f0, f1⟩ := hB.two
  rcases Decidable.em (bad = 0) with h0 | h0
  · subst h0
    go_enter Tryz.func106, Tryz.ntmps106
    go_wp2_with fail
    refine (going_any hR0).mono ?_
    rintro e w1 ⟨rfl, rfl⟩
    go_wp2_with fail
    go_ret
    exact ⟨rfl, rfl⟩
  · have hd : decide (bad = 0) = false := by simpa using h0
    have HG : Hid (rLeft (l, bad) = 0) := (show _ = _ by simp [rLeft, h0])
    clear h0
    go_enter Tryz.func106, Tryz.ntmps106
    go_wp2_with fail
    refine (going_any hR0).mono ?_
    rintro e w1 ⟨rfl, rfl⟩
    go_wp2_with fail
    go_ret
    exact ⟨by rw [HG.out]; rfl, rfl⟩
set_option maxRecDepth 100000 in
set_option maxHeartbeats 400000 in
theorem Err_any {g B bad : Nat} {l : List UInt8} {w : World} (hR : IsR w g B (l, bad)) : Calls Tryz.prog 105 #[.pointer (some ⟨g, 0, none⟩)] w fun e w' => e = .returned (errv bad) ∧ w = w' := by
  obtain ⟨A, c, hB, hS, _⟩ := hR
  obtain ⟨a0, a1, f0, f1⟩ := hB.two
  go_enter Tryz.func105, Tryz.ntmps105
  go_wp2_with fail
  go_ret
  exact ⟨rfl, rfl⟩
set_option maxRecDepth 100000 in
set_option maxHeartbeats 400000 in
theorem End_any {g B bad : Nat} {l : List UInt8} {w : World} (hR : IsR w g B (l, bad)) : Calls Tryz.prog 73 #[.pointer (some ⟨g, 0, none⟩)] w fun e w' => e = .returned (errv (rEnd (l, bad))) ∧ w = w' := by
  rcases errv_cases bad with ⟨rfl, he⟩ | ⟨k, hk, h0, he⟩
  · rcases Decidable.em (0 < l.length) with hl | hl
    · have HG : Hid (rEnd (l, 0) = 2) := (show (if (0 : Nat) = 0 ∧ 0 < l.length then 2 else 0) = 2 by rw [if_pos ⟨rfl, hl⟩])
      have HL : Hid (rLeft (l, 0) = l.length) := (show _ = _ from rfl)
      go_enter Tryz.func73, Tryz.ntmps73
      go_wp2_with fail
      refine (Err_any hR).mono ?_
      rintro e w1 ⟨rfl, rfl⟩
      go_wp2_with fail
      refine (Left_any hR).mono ?_
      rintro e w1 ⟨rfl, rfl⟩
      rw [HL.out]
      go_wp2_with fail
      go_ret
      exact ⟨by rw [HG.out]; rfl, rfl⟩
    · have HG : Hid (rEnd (l, 0) = 0) := (show (if (0 : Nat) = 0 ∧ 0 < l.length then 2 else 0) = 0 by rw [if_neg (fun h => hl h.2)])
      have HL : Hid (rLeft (l, 0) = l.length) := (show _ = _ from rfl)
      go_enter Tryz.func73, Tryz.ntmps73
      go_wp2_with fail
      refine (Err_any hR).mono ?_
      rintro e w1 ⟨rfl, rfl⟩
      go_wp2_with fail
      refine (Left_any hR).mono ?_
      rintro e w1 ⟨rfl, rfl⟩
      rw [HL.out]
      go_wp2_with fail
      go_ret
      exact ⟨by rw [HG.out]; rfl, rfl⟩
  · have HG : Hid (rEnd (l, bad) = bad) := (show _ = _ by simp only [rEnd]; rw [if_neg (by omega)])
    have H0 := Lib.hid h0
    clear h0
    go_enter Tryz.func73, Tryz.ntmps73
    go_wp2_with fail
    refine (Err_any hR).mono ?_
    rintro e w1 ⟨rfl, rfl⟩
    go_wp2_with fail
    go_ret
    exact ⟨by rw [HG.out, he]; rfl, rfl⟩
set_option maxRecDepth 100000 in
set_option maxHeartbeats 400000 in
theorem RNew_any (A : Option Addr) (c : Nat) (l : List UInt8) (w : World) (hs : SlB w A c l) : Calls Tryz.prog 67 #[.slice A l.length c] w fun e w' => ∃ g, e = .returned (.pointer (some ⟨g, 0, none⟩)) ∧ w.heap.size ≤ g ∧ IsR w' g w.heap.size (l, 0) ∧ Below w.heap.size w w' := by
  go_enter Tryz.func67, Tryz.ntmps67
  go_wp2_with fail
  go_ret
  refine ⟨w.heap.size, rfl, Nat.le_refl _, ⟨A, c, Blk.new _ _ _, hs.below (below_new _ _), fun hn ad hA => ?_⟩, below_new _ _⟩
  have hl : 0 < l.length := by cases l <;> simp_all
  obtain ⟨ad', hA', hc⟩ := hs.at1 (k := 0) hl
  rw [hA] at hA'
  injection hA' with e
  subst e
  have := World.block_lt_of_cell? w _ hc
  rwa [addr_add_block] at this
end Go.Proofs.YtajfnmohlnkncaaGreatDoor

namespace Go.Proofs.YtajfnmohlnkncaaGreatDoor
open Go.RowKit

end Go.Proofs.YtajfnmohlnkncaaGreatDoor

namespace Go.Proofs.YtajfnmohlnkncaaGreatDoor
open Go.RowKit

end Go.Proofs.YtajfnmohlnkncaaGreatDoor

namespace Go.Proofs.YtajfnmohlnkncaaGreatDoor
open Go.RowKit

theorem Blk.cells2 {w : World} {g : Nat} {t : TypeId} {a b : Value} (h : Blk w g t #[a, b]) : w.cell? ⟨g, 0, none⟩ = some a ∧ w.cell? ⟨g, 1, none⟩ = some b := ⟨h.cell 0, h.cell 1⟩
theorem below_two {B : Nat} {a w : World} (h : Below B a w) {g : Nat} (hg : B ≤ g) (x y : Value) : Below B a ((w.setCell ⟨g, 0, none⟩ x).setCell ⟨g, 1, none⟩ y) := (h.setCell (p := ⟨g, 0, none⟩) hg x).setCell (p := ⟨g, 1, none⟩) hg y
theorem blk_two_far {w : World} {g g' : Nat} {t : TypeId} {cs : Array Value} (h : Blk w g t cs) (hne : g ≠ g') (x y : Value) : Blk ((w.setCell ⟨g', 0, none⟩ x).setCell ⟨g', 1, none⟩ y) g t cs :=
  (h.far (p := ⟨g', 0, none⟩) hne x).far (p := ⟨g', 1, none⟩) hne y
theorem IsR.drew {g B : Nat} {s : List UInt8 × Nat} {w : World} (h : IsR w g B s) : IsR w.drew g B s := h

attribute [local go_sem ↓] Go.wp_at_zero Go.wp_at_succ

end Go.Proofs.YtajfnmohlnkncaaGreatDoor

namespace Go.Proofs.YtajfnmohlnkncaaGreatDoor
open Go.RowKit
attribute [local go_sem ↓] Go.wp_at_zero Go.wp_at_succ

theorem kk {w : World} {g g' : Nat} {t t' : TypeId} {a b x y z : Value} (h : Blk w g t #[a, b]) (k : Blk w g' t' #[x, y, z]) : w.cell? ⟨g, 0, none⟩ = some a ∧ w.cell? ⟨g, 1, none⟩ = some b ∧ w.cell? ⟨g', 1, none⟩ = some y ∧ w.cell? ⟨g', 2, none⟩ = some z :=
  ⟨h.cell 0, h.cell 1, k.cell 1, k.cell 2⟩
theorem rFail_len (k : Nat) (s : List UInt8 × Nat) : (rFail k s).1.length ≤ s.1.length := by unfold rFail; split <;> exact Nat.le_refl _
theorem rWithin_len (n : Nat) (s : List UInt8 × Nat) : (rWithin n s).2.1.length ≤ s.1.length := by
  have := rNum_len s
  unfold rWithin
  split
  · exact Nat.le_trans (rFail_len _ _) this
  · exact this
theorem rFixed_len (n : Int) (s : List UInt8 × Nat) : (rFixed n s).2.1.length ≤ s.1.length := by
  unfold rFixed
  split
  · exact Nat.le_refl _
  · split
    · exact Nat.le_refl _
    · simp
def u6 (kind : Int) (k : Int) : Prop := (IntKind.u64.wrap kind).tmod 6 = k

end Go.Proofs.YtajfnmohlnkncaaGreatDoor

namespace Go.Proofs.YtajfnmohlnkncaaGreatDoor
open Go.RowKit

/-- a cell: its kind, its bytes -/
abbrev Ce := Int × List UInt8
def cchk (c : Ce) : Nat := if c.1 < 0 ∨ 3 < c.1 then 1 else if 64 < c.2.length then 3 else if 0 < c.2.length ∧ c.1 ≠ 1 then 2 else 0
def same (a b : Ce) : Bool := decide (a = b)
def mayb (a b : Ce) : Bool := decide (cchk a = 0 ∧ cchk b = 0 ∧ (a.1 = 0 ∨ a = b ∨ b.1 = 3))
def later (a b : Ce) : Ce × Bool := if mayb a b then (b, true) else if mayb b a then (a, true) else ((0, []), false)

theorem cchk_cases (c : Ce) : (c.1 < 0 ∧ cchk c = 1) ∨ (0 ≤ c.1 ∧ 3 < c.1 ∧ cchk c = 1) ∨ (0 ≤ c.1 ∧ c.1 ≤ 3 ∧ 64 < c.2.length ∧ cchk c = 3) ∨ (0 ≤ c.1 ∧ c.1 ≤ 3 ∧ c.2.length ≤ 64 ∧ 0 < c.2.length ∧ c.1 ≠ 1 ∧ cchk c = 2) ∨
    (0 ≤ c.1 ∧ c.1 ≤ 3 ∧ c.2.length = 0 ∧ cchk c = 0) ∨ (c.2.length ≤ 64 ∧ 0 < c.2.length ∧ c.1 = 1 ∧ cchk c = 0) := by
  unfold cchk
  by_cases h1 : c.1 < 0
  · exact .inl ⟨h1, by rw [if_pos (Or.inl h1)]⟩
  by_cases h2 : 3 < c.1
  · exact .inr (.inl ⟨by omega, h2, by rw [if_pos (Or.inr h2)]⟩)
  rw [if_neg (by omega)]
  by_cases h3 : 64 < c.2.length
  · exact .inr (.inr (.inl ⟨by omega, by omega, h3, by rw [if_pos h3]⟩))
  rw [if_neg h3]
  by_cases h4 : 0 < c.2.length
  · by_cases h5 : c.1 = 1
    · exact .inr (.inr (.inr (.inr (.inr ⟨by omega, h4, h5, by rw [if_neg (by omega)]⟩))))
    · exact .inr (.inr (.inr (.inl ⟨by omega, by omega, by omega, h4, h5, by rw [if_pos ⟨h4, h5⟩]⟩)))
  · exact .inr (.inr (.inr (.inr (.inl ⟨by omega, by omega, by omega, by rw [if_neg (by omega)]⟩))))
theorem cchk_ok {c : Ce} (h : cchk c = 0) : 0 ≤ c.1 ∧ c.1 ≤ 3 ∧ c.2.length ≤ 64 ∧ (c.1 ≠ 1 → c.2 = []) := by
  rcases cchk_cases c with h1 | h1 | h1 | h1 | h1 | h1
  · omega
  · omega
  · omega
  · omega
  · exact ⟨by omega, by omega, by omega, fun _ => List.eq_nil_of_length_eq_zero h1.2.2.1⟩
  · exact ⟨by omega, by omega, by omega, fun h => absurd h1.2.2.1 h⟩
end Go.Proofs.YtajfnmohlnkncaaGreatDoor
