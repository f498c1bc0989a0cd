/- WHAT IT HOLDS: what the document's functions of layer 1 compute, walked. | WHAT IT HOLDS: arguments opened to the words of Kit (bytes, numbers, integers); over any program. | WHAT IT HOLDS: how many bits and bytes a number has, plainly (no program). | WHAT IT HOLDS: Size, and the document's bytes of texts and lists, walked. -/
import Derived.Test.YtjkdnnekagcdhaaSegmentTakesG03
import Derived.Deep.RegionWith
import Derived.Test.YtjkdnnekagcdhaaSegmentTakesG02
import Derived.ProofKit
import Derived.OpenShut
import Derived.ChangeOld
import Derived.Lib.SmallJoins
import Derived.Test.YtjkdnnekagcdhaaShelf
namespace Go.Proofs.Ytjkdnnekagcdhaa
open Go.RowKit

set_option maxRecDepth 100000 in
set_option maxHeartbeats 400000 in
theorem rBytes_any (n : Nat) (hn : U64 n) (w : World) : Calls Try.prog 105 #[.int .u64 n] w (GivesB w (vb n)) := by
  go_enter Try.func105, Try.ntmps105
  go_wp2
  go_loopw [0, 3] (fun x v wr => ∃ (k : Nat) (B : Option Addr) (d : Nat) (m : List UInt8), x = .int .u64 k ∧ v = .slice B m.length d ∧ Hid (vb n = m ++ vb k) ∧ Hid (U64 k) ∧ OwnB wr w.heap.size 5 B d m ∧ Below w.heap.size w wr) (fun x v w => (intOf x).toNat)
  case atStart => exact ⟨n, _, 0, [], rfl, rfl, rfl, hn, Own.lit 1 (Nat.le_refl _), below_new _ _⟩
  case round =>
    obtain ⟨k, B, d, m, rfl, rfl, hm, hk, hor, hbr⟩ := hrel
    have hml : m.length ≤ 10 := by
      have h1 := congrArg List.length hm.out
      have h2 := vb_le10 hn
      simp only [List.length_append] at h1
      omega
    have hw : IntKind.u64.wrap ((k : Int) / 128) = (k : Int) / 128 := wrap_div hk.out 128
    by_cases h128 : 128 ≤ k
    · have hs := Lib.hid (vb_step h128)
      have hz : ((k : Int) / 128 == 0) = false := by simp; omega
      go_wp2_with (at_builtin; go_must (refine wpl_byte 22 5 Try.underlying22 u8_info rfl _ _ rfl w.heap.size B d m _ (UInt8.ofNat (k % 128 + 128)) (byte_ref k) rfl hor rfl (by omega) hbr.size ?_; intro A1 c1 m1 w1 hm1 ho1 _ _ hb1))
      go_roundw
      case rel => exact ⟨k / 128, A1, c1, m1, rfl, rfl, by rw [hm1.out, hm.out, hs.out]; show _ = _; simp, hk.out.div 128, ho1, hbr.trans hb1⟩
      case measure => simp [intOf]; omega
    · have hs := Lib.hid (vb_small (n := k) (by omega))
      have hz : ((k : Int) / 128 == 0) = true := by simp; omega
      go_wp2_with (at_builtin; go_must (refine wpl_byte 22 5 Try.underlying22 u8_info rfl _ _ rfl w.heap.size B d m _ (UInt8.ofNat k) (byte_ref0 (by omega)) rfl hor rfl (by omega) hbr.size ?_; intro A1 c1 m1 w1 hm1 ho1 _ _ hb1))
      go_ret
      exact ⟨A1, c1, m1, rfl, by rw [hm1.out, hm.out, hs.out]; rfl, ho1, hbr.trans hb1⟩

/-- what the document's Take answers -/
def RTakeOut (o : Option (Nat × Nat)) (w : World) (e : Ending) (w' : World) : Prop :=
  Below w.heap.size w w' ∧ ((o = none ∧ e = .returned (.tuple #[.int .u64 0, .int .i64 0, .int .i64 2])) ∨ ∃ n k : Nat, o = some (n, k) ∧ e = .returned (.tuple #[.int .u64 n, .int .i64 k, .int .i64 0]))

set_option maxRecDepth 100000 in
set_option maxHeartbeats 1000000 in
theorem rTake_any (A : Option Addr) (c : Nat) (l : List UInt8) (w : World) (hs : SlB w A c l) :
    Calls Try.prog 134 #[.slice A l.length c] w (RTakeOut (take l) w) := by
  have hc1 := hs.2.1
  have hc2 := hs.2.2.1
  unfold maxLen at hc2
  go_enter Try.func134, Try.ntmps134
  go_wp2_with fail
  go_loopw [5] (fun x wr => ∃ k : Nat, 1 ≤ k ∧ k ≤ 11 ∧ x = .int .i64 k ∧ Hid (∀ j (h : j < l.length), j + 1 < k → 128 ≤ l[j].toNat) ∧ Below w.heap.size w wr) (fun x w => 11 - (intOf x).toNat)
  case atStart => exact ⟨1, by omega, by omega, rfl, (fun j _ hj => by omega), Below.refl _ _⟩
  case round =>
    obtain ⟨k, hk1, hk11, rfl, hall, hbr⟩ := hrel
    by_cases hlt : k ≤ 10 ∧ k ≤ l.length
    · obtain ⟨hk10, hkl⟩ := hlt
      have hlt : k - 1 < l.length := by omega
      obtain ⟨ad, rfl, hc⟩ := (hs.below hbr).at1 hlt
      by_cases hb : 128 ≤ l[k - 1].toNat
      · have hbl := Lib.hid hb
        go_wp2_with fail
        go_roundw
        case rel =>
          refine ⟨k + 1, by omega, by omega, by go_num, (fun j hj hjk => ?_), hbr⟩
          by_cases hj1 : j = k - 1
          · subst hj1; exact hbl.out
          · exact hall.out j hj (by omega)
        case measure => simp [intOf]; omega
      · have hbl := Lib.hid hb
        obtain ⟨wo, rfl⟩ : ∃ wo : World, wo = wr := ⟨_, rfl⟩
        go_wp2_with fail
        go_loop [6, 7] (fun v x => ∃ (q : Int) (n : Nat), -1 ≤ q ∧ q ≤ (k : Int) - 1 ∧ x = .int .i64 q ∧ v = .int .u64 n ∧ Hid (n = val ((l.take k).drop (q + 1).toNat) % 18446744073709551616)) (fun v x => (intOf x + 1).toNat)
        case atStart => exact ⟨(k : Int) - 1, 0, by omega, by omega, rfl, rfl, (show _ = _ by rw [show ((k : Int) - 1 + 1).toNat = k from by omega, val_all])⟩
        case round =>
          obtain ⟨q, n, hq1, hq2, rfl, rfl, hn⟩ := hrel
          by_cases hq : 0 ≤ q
          · obtain ⟨i, rfl⟩ := Int.eq_ofNat_of_zero_le hq
            have hil : i < l.length := by omega
            have hik : i < k := by omega
            obtain ⟨ad2, he, hci⟩ := (hs.below hbr).at1 hil
            obtain rfl : ad = ad2 := by injection he
            clear he
            have hv := Lib.hid (val_take_drop hik hil)
            generalize l[i] = x at *
            go_wp2_with fail
            go_round
            case rel =>
              refine ⟨(i : Int) - 1, (x.toNat % 128 + 128 * val ((l.take k).drop (i + 1))) % 18446744073709551616, by omega, by omega, by go_num, ?_, ?_⟩
              · have h1 := hn.out
                rw [show ((i : Int) + 1).toNat = i + 1 from by omega] at h1
                rw [← val_step h1]
              · have e1 : ((i : Int) - 1 + 1).toNat = i := by omega
                show _ = _
                rw [e1, hv.out]
            case measure => first | (simp [intOf]; omega) | simp [intOf]
          · obtain rfl : q = -1 := by omega
            have hn1 := hn
            rw [show ((-1 : Int) + 1).toNat = 0 from rfl, List.drop_zero] at hn1
            have hun : U64 n := by have := hn1.out; unfold U64; omega
            have hcb := fun (W : World) (hW : Keep wo W) => conv_str (P := Try.prog) (w := W) 22 9 5 Try.underlying22 Try.underlying5 Try.underlying9 (n := k) (((hs.below hbr).takeB k).keep hW) (by simp; omega)
            have hk0 : Keep wo wo := Keep.refl wo
            have hkd : ∀ W, Keep wo W → Keep wo W.drew := fun W h => h
            go_wp2_with fail
            go_region_with (go_at_call 105; refine (rBytes_any n hun _).mono ?_; rintro e w1 ⟨A1, c1, m1, rfl, hm1, ho1, hb1⟩; have hk1 : Keep wo w1 := Keep.of_drew (keep_of_below hb1); have hbw := (below_of_drew hb1).mono hbr.size; have hcm := conv_str (P := Try.prog) (w := w1) 22 9 5 Try.underlying22 Try.underlying5 Try.underlying9 ho1.sl rfl)
            all_goals go_wp2_with fail
            all_goals
              have htr := take_ref (l := l) (k := k - 1) (n := n) hlt (fun j hj hjk => hall.out j hj (by omega)) (by omega) (by rw [show k - 1 + 1 = k from by omega]; exact hn1.out)
              rw [show k - 1 + 1 = k from by omega] at htr
              go_ret3
              first
                | (have hx : (!m1 == List.take k l) = true := by assumption
                   exact ⟨hbr.trans hbw, .inl ⟨htr.2 (by rw [← hm1.out]; simpa using hx), rfl⟩⟩)
                | (have hx : (!m1 == List.take k l) = false := by assumption
                   exact ⟨hbr.trans hbw, .inr ⟨n, k, htr.1 (by rw [← hm1.out]; simpa using hx), rfl⟩⟩)
    · by_cases hk : k = 11
      · go_wp2_with fail
        go_ret3
        exact ⟨hbr, .inl ⟨take_ref_none fun j hj hj10 => hall.out j hj (by omega), rfl⟩⟩
      · have hkl : ¬ k ≤ l.length := by omega
        have hk10 : k ≤ 10 := by omega
        go_wp2_with fail
        go_ret3
        exact ⟨hbr, .inl ⟨take_ref_none fun j hj hj10 => hall.out j hj (by omega), rfl⟩⟩

/-- an error by its number; 0: none -/
def errv : Nat → Value
  | 0 => .nilIface
  | n + 1 => .iface 140 (.int .i64 ((n + 1 : Nat) : Int))

set_option maxRecDepth 100000 in
set_option maxHeartbeats 400000 in
theorem num_nil (w : World) : Calls Try.prog 18 #[.nilIface] w fun e w' => e = .returned (.int .i64 0) ∧ w = w' := by
  go_enter Try.func18, Try.ntmps18
  go_wp2_with fail
  go_ret
  exact ⟨rfl, rfl⟩
theorem assert_errno (k : Int) (w : World) : (Instr.typeAssert (.iface 140 (.int .i64 k)) 35 140 true).run Try.prog w = .ok (.tuple #[.int .i64 k, .bool true]) w := by kernel_rfl
set_option maxRecDepth 100000 in
set_option maxHeartbeats 400000 in
theorem num_err (k : Int) (hk : 0 < k) (w : World) : Calls Try.prog 18 #[.iface 140 (.int .i64 k)] w fun e w' => e = .returned (.int .i64 k) ∧ w = w' := by
  have hz : (k == 0) = false := by simp; omega
  have hn : (k != 0) = true := by simp; omega
  have hta := assert_errno
  go_enter Try.func18, Try.ntmps18
  go_wp2_with fail
  go_ret
  exact ⟨rfl, rfl⟩

theorem errv_cases (n : Nat) : (n = 0 ∧ errv n = .nilIface) ∨ ∃ k : Int, 0 < k ∧ k = n ∧ errv n = .iface 140 (.int .i64 k) := by
  cases n with
  | zero => exact .inl ⟨rfl, rfl⟩
  | succ n => exact .inr ⟨((n + 1 : Nat) : Int), by omega, rfl, rfl⟩
theorem num_any (n : Nat) (w : World) : Calls Try.prog 18 #[errv n] w fun e w' => e = .returned (.int .i64 (n : Nat)) ∧ w = w' := by
  rcases errv_cases n with ⟨rfl, he⟩ | ⟨k, hk, h0, he⟩
  · rw [he]
    exact num_nil w
  · rw [he]
    rw [← h0]
    exact num_err k hk w

end Go.Proofs.Ytjkdnnekagcdhaa

namespace Go.Proofs.Ytjkdnnekagcdhaa
open Go.ChangeShapes Go.WideShapes Go.ChangeAt Go.RowKit Go.Deep

/-- an integer of 64 bits (behind a name) -/
def I64 (a : Int) : Prop := -9223372036854775808 ≤ a ∧ a ≤ 9223372036854775807

theorem row_reads {w : World} {k : IntKind} {a : Addr} {len cap : Nat} {zs : List Int} (h1 : len ≤ cap) (h2 : cap ≤ maxLen) (hz : zs.length = cap) (hc : ∀ i, i < zs.length → w.cell? (a.add i) = some (.int k (zs.getD i 0))) :
    Sl w 1 (some a) len cap ((zs.take len).map (Value.int k)) := by
  refine ⟨by simp; omega, h1, h2, (fun h => by cases h), fun j u hj => ⟨a, rfl, ?_⟩⟩
  have hl : j < zs.length := by
    have := (List.getElem?_eq_some_iff.1 hj).1
    simp at this
    omega
  rw [hc j hl]
  simp only [List.getElem?_map, List.getElem?_take] at hj
  split at hj
  · rw [List.getElem?_eq_getElem hl] at hj
    simp at hj
    rw [← hj]
    simp [List.getElem?_eq_getElem hl]
  · simp at hj

section
variable {H : Type} {enc : TypeId × Value → H} {P : Program} {w : World} {base b0 : Nat} {held : Bool} {r : Reach} {t e : TypeId} {v : Value} {d : DataW H} {p : List MemPlace}
theorem open_row {k : IntKind} (ht : P.underlying t = some (.slice e)) (he : P.underlying e = some (.int k)) (hC : P.cellsOf e = 1) (hv : Value.okWide P w r b0 t v) (h : DataW.Trod enc P w base (fun _ => true) held t v d p) :
    ∃ (A : Option Addr) (n c : Nat) (zs : List Int), v = .slice A n c ∧ Sl w 1 A n c (zs.map (Value.int k)) ∧ zs.length = n ∧ ∀ z ∈ zs, (Lit.int k z).wf = true := by
  obtain ⟨A, n, c, rfl⟩ := okWide_slice ht hv
  obtain ⟨fuel, hf⟩ := h
  rcases open_ints ht he hC hf with ⟨hcs, _⟩ | ⟨x, l, c', zs, hcs, _, hl, hm, hz, _, hcell, hwz⟩
  · simp [Value.cells] at hcs
    obtain ⟨rfl, rfl, rfl⟩ := hcs
    exact ⟨none, 0, 0, [], rfl, Sl.none_ _ _, rfl, fun z hz => by simp at hz⟩
  · simp [Value.cells] at hcs
    obtain ⟨rfl, rfl, rfl⟩ := hcs
    simp only [if_true] at hz
    refine ⟨some x, n, c, zs.take n, rfl, row_reads hl hm hz hcell, by simp; omega, fun z hz => hwz z (List.mem_of_mem_take hz)⟩
theorem open_bytes (ht : P.underlying t = some (.slice e)) (he : P.underlying e = some (.int .u8)) (hC : P.cellsOf e = 1) (hv : Value.okWide P w r b0 t v) (h : DataW.Trod enc P w base (fun _ => true) held t v d p) :
    ∃ (A : Option Addr) (c : Nat) (l : List UInt8), v = .slice A l.length c ∧ SlB w A c l := by
  obtain ⟨A, n, c, zs, rfl, hs, hl, hw⟩ := open_row ht he hC hv h
  have hm : zs.map (Value.int .u8) = bvs (zs.map fun z => UInt8.ofNat z.toNat) := by
    rw [bvs, List.map_map]
    refine List.map_congr_left fun z hz => ?_
    have hb := bounds_u8 (hw z hz)
    simp only [Function.comp, bv, UInt8.toNat_ofNat']
    congr 1
    omega
  rw [hm] at hs
  refine ⟨A, c, zs.map fun z => UInt8.ofNat z.toNat, by simp [hl], ?_⟩
  show Sl w 1 A (zs.map _).length c _
  rw [List.length_map, hl]
  exact hs
theorem open_nums (ht : P.underlying t = some (.slice e)) (he : P.underlying e = some (.int .u64)) (hC : P.cellsOf e = 1) (hv : Value.okWide P w r b0 t v) (h : DataW.Trod enc P w base (fun _ => true) held t v d p) :
    ∃ (A : Option Addr) (c : Nat) (l : List Nat), v = .slice A l.length c ∧ Sl w 1 A l.length c (l.map fun (n : Nat) => Value.int .u64 (n : Int)) ∧ ∀ n ∈ l, U64 n := by
  obtain ⟨A, n, c, zs, rfl, hs, hl, hw⟩ := open_row ht he hC hv h
  have hm : zs.map (Value.int .u64) = (zs.map Int.toNat).map (fun (n : Nat) => Value.int .u64 (n : Int)) := by
    rw [List.map_map]
    refine List.map_congr_left fun z hz => ?_
    have hb := bounds_u64 (hw z hz)
    simp only [Function.comp]
    congr 1
    omega
  rw [hm] at hs
  refine ⟨A, c, zs.map Int.toNat, by simp [hl], ?_, ?_⟩
  · rw [show (zs.map Int.toNat).length = n by simp [hl]]
    exact hs
  · intro n hn
    simp only [List.mem_map] at hn
    obtain ⟨z, hz, rfl⟩ := hn
    have hb := bounds_u64 (hw z hz)
    unfold U64
    omega
theorem open_i64 (ht : P.underlying t = some (.int .i64)) (hv : Value.okWide P w r b0 t v) (h : DataW.Trod enc P w base (fun _ => true) held t v d p) : ∃ a : Int, v = .int .i64 a ∧ I64 a := by
  obtain ⟨x, rfl, _, _, hw⟩ := open_int ht hv h
  exact ⟨x, rfl, bounds_i64 hw⟩
theorem open_u64 (ht : P.underlying t = some (.int .u64)) (hv : Value.okWide P w r b0 t v) (h : DataW.Trod enc P w base (fun _ => true) held t v d p) : ∃ a : Nat, v = .int .u64 (a : Int) ∧ U64 a := by
  obtain ⟨x, rfl, _, _, hw⟩ := open_int ht hv h
  have hb := bounds_u64 hw
  exact ⟨x.toNat, by congr 1; omega, by unfold U64; omega⟩
theorem int_cell {P : Program} {w : World} {base : Nat} {held : Bool} {sp : Nat → Bool} {t : TypeId} {n : Nat} {v : Value} {y : DataW H × List MemPlace} (ht : P.underlying t = some (.int .i64)) (h : DataW.trod enc P w base sp held n t [v] = some y) : ∃ a : Int, v = .int .i64 a ∧ I64 a := by
  obtain ⟨a, hv, _, hw⟩ := DataW.trod_int ht h
  simp at hv
  exact ⟨a, hv, bounds_i64 hw⟩
/-- a struct of three ints by value -/
theorem open_ints3 {f0 f1 f2 : Field} (hs : P.underlying t = some (.struct #[f0, f1, f2])) (h0 : P.underlying f0.type = some (.int .i64)) (h1 : P.underlying f1.type = some (.int .i64)) (h2 : P.underlying f2.type = some (.int .i64))
    (hone : oneCellFields P #[f0, f1, f2] = true) (hC : P.cellsOf t = 3) (hv : Value.okWide P w r b0 t v) (h : DataW.Trod enc P w base (fun _ => true) held t v d p) :
    ∃ a b c : Int, v = .agg #[.int .i64 a, .int .i64 b, .int .i64 c] ∧ I64 a ∧ I64 b ∧ I64 c := by
  obtain ⟨v0, v1, v2, y0, y1, y2, n, rfl, _, _, g0, g1, g2⟩ := Go.Joins.open_agg3 hs hone hC hv h
  obtain ⟨a, rfl, ha⟩ := int_cell h0 g0
  obtain ⟨b, rfl, hb⟩ := int_cell h1 g1
  obtain ⟨c, rfl, hc⟩ := int_cell h2 g2
  exact ⟨a, b, c, rfl, ha, hb, hc⟩
/-- [3]int by value -/
theorem open_arr3 (hs : P.underlying t = some (.array 3 e)) (he : P.underlying e = some (.int .i64)) (hC : P.cellsOf t = 3) (hE : P.cellsOf e = 1) (hv : Value.okWide P w r b0 t v) (h : DataW.Trod enc P w base (fun _ => true) held t v d p) :
    ∃ a b c : Int, v = .agg #[.int .i64 a, .int .i64 b, .int .i64 c] ∧ I64 a ∧ I64 b ∧ I64 c := by
  simp only [Value.okWide, hs] at hv
  obtain ⟨cs, rfl, hsz, _⟩ := hv
  obtain ⟨c0, c1, c2, rfl⟩ := Go.Joins.array3 (hsz.trans hC)
  obtain ⟨fuel, hf⟩ := h
  obtain ⟨xs, m, _, _, _, hlen, hg⟩ := DataW.trod_array hs hf
  have k0 := hg 0 (by omega)
  have k1 := hg 1 (by omega)
  have k2 := hg 2 (by omega)
  rw [hE, List.getElem?_eq_getElem (by omega)] at k0 k1 k2
  simp [Value.cells] at k0 k1 k2
  obtain ⟨a, rfl, ha⟩ := int_cell he k0
  obtain ⟨b, rfl, hb⟩ := int_cell he k1
  obtain ⟨c, rfl, hc⟩ := int_cell he k2
  exact ⟨a, b, c, rfl, ha, hb, hc⟩
end
end Go.Proofs.Ytjkdnnekagcdhaa

namespace Go.Proofs.Ytjkdnnekagcdhaa
open Go.RowKit

/-- how many bits a number has -/
def blen (n : Nat) : Nat := if h : n = 0 then 0 else blen (n / 2) + 1
  termination_by n
theorem blen_zero : blen 0 = 0 := by rw [blen, dif_pos rfl]
theorem blen_pos {n : Nat} (h : n ≠ 0) : blen n = blen (n / 2) + 1 := by rw [blen, dif_neg h]
theorem blen_div (k : Nat) : ∀ n, 2 ^ k ≤ n → blen n = blen (n / 2 ^ k) + k := by
  induction k with
  | zero => intro n _; simp
  | succ k ih =>
    intro n h
    have hp : 0 < 2 ^ k := Nat.pow_pos (by decide)
    rw [Nat.pow_succ] at h
    rw [ih n (by omega)]
    have hq : n / 2 ^ k ≠ 0 := by
      have : 0 < n / 2 ^ k := Nat.div_pos (by omega) hp
      omega
    rw [blen_pos hq, Nat.div_div_eq_div_mul, ← Nat.pow_succ]
    show blen (n / 2 ^ (k + 1)) + 1 + k = blen (n / 2 ^ (k + 1)) + (k + 1)
    omega
theorem size_vb (n : Nat) : (vb n).length = max ((blen n + 6) / 7) 1 := by
  induction n using Nat.strongRecOn with
  | _ n ih =>
    by_cases h : n < 128
    · rw [vb_small h]
      have hb : blen n ≤ 7 := by
        have h1 : ∀ j : Fin 128, blen j.val ≤ 7 := by decide +kernel
        exact h1 ⟨n, h⟩
      simp only [List.length_cons, List.length_nil]
      omega
    · rw [vb_step (by omega), List.length_cons, ih (n / 128) (by omega), blen_div 7 n (by omega)]
      have : n / 128 ≠ 0 := by omega
      have := blen_pos this
      rw [show n / 2 ^ 7 = n / 128 from rfl]
      omega
end Go.Proofs.Ytjkdnnekagcdhaa

namespace Go.Proofs.Ytjkdnnekagcdhaa
open Go.RowKit

set_option maxRecDepth 100000 in
set_option maxHeartbeats 400000 in
theorem nBytes_any (A B : Option Addr) (c d : Nat) (l m : List UInt8) (w : World) (ha : SlB w A c l) (hb : SlB w B d m) :
    Calls Try.prog 27 #[.slice A l.length c, .slice B m.length d] w fun e w' => e = .returned (.bool (l == m)) ∧ w = w' := by
  have h1 := conv_str (P := Try.prog) 22 9 5 Try.underlying22 Try.underlying5 Try.underlying9 ha rfl
  have h2 := conv_str (P := Try.prog) 22 9 5 Try.underlying22 Try.underlying5 Try.underlying9 hb rfl
  go_enter Try.func27, Try.ntmps27
  go_wp2_with fail
  go_ret
  exact ⟨rfl, rfl⟩

set_option maxRecDepth 100000 in
set_option maxHeartbeats 400000 in
theorem rText_any (A : Option Addr) (c : Nat) (t : List UInt8) (w : World) (hs : SlB w A c t) (ht : t.length ≤ 10000000) :
    Calls Try.prog 83 #[.slice A t.length c] w (GivesB w (vb t.length ++ t)) := by
  have hu : U64 t.length := by unfold U64; omega
  have hw := wrap_u64_of hu
  go_enter Try.func83, Try.ntmps83
  go_wp2_with fail
  refine (rBytes_any t.length hu _).mono ?_
  rintro e w1 ⟨A1, c1, m1, rfl, hm1, ho1, hb1⟩
  have hml : m1.length ≤ 10 := by rw [hm1.out]; exact vb_le10 hu
  go_wp2_with (at_builtin; go_must (refine wpl_bytes 22 5 Try.underlying22 u8_info rfl _ _ rfl w.heap.size A1 c1 m1 rfl ho1 A c t rfl (hs.below hb1) (by omega) hb1.size ?_; intro A3 c3 m3 w3 hm3 ho3 _ _ hb3))
  go_ret
  exact ⟨A3, c3, m3, rfl, by rw [hm3.out, hm1.out]; rfl, ho3, hb1.trans hb3⟩

end Go.Proofs.Ytjkdnnekagcdhaa
