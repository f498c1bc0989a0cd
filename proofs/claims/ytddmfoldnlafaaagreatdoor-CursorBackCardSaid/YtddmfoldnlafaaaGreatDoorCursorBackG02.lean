/- WHAT IT HOLDS: a map from names to slices of bytes in memory: looked up, written, struck, counted. | WHAT IT HOLDS: the bytes of a number, plainly (no program). | WHAT IT HOLDS: what the functions of the package varint compute, walked. -/
import Derived.Test.YtddmfoldnlafaaaGreatDoorCursorBackG01
import Derived.Maps.RangeWalk
import Derived.StringKeys
import Derived.Laws.BitsAllLaws
import Derived.Laws.Bits64
import Derived.Test.YtddmfoldnlafaaaGreatDoorRows
namespace Go.Proofs.YtddmfoldnlafaaaGreatDoor
open Go.RowKit Go.Maps Go.Sort

/-- a slice of bytes with what it holds -/
structure Sv where
  A : Option Addr
  c : Nat
  l : Bs
def Sv.v (s : Sv) : Value := .slice s.A s.l.length s.c
def Sv.nil : Sv := ⟨none, 0, []⟩
/-- how a map's element is kept: as it is -/
def tok (v : Value) : Option (DataW Value × List MemPlace) := some (.held v, [])
def dat (l : List (Bs × Sv)) : DataW Value := .map (l.map fun p => (.string p.1, .held p.2.v))
theorem sameKey_str (a b : Bs) : (Lit.string a).sameKey (.string b) = (a == b) := rfl
theorem dat_put (k : Bs) (s : Sv) (l : List (Bs × Sv)) : (dat l).put (.string k) (.held s.v) = dat (gput k s l) := by
  unfold dat gput gdel
  rw [DataW.put_eq]
  unfold ChangeMaps.putKey
  congr 1
  rw [List.filter_map]
  have hf : (ChangeMaps.notKey (Lit.string k) ∘ fun p : Bs × Sv => ((Lit.string p.1, DataW.held p.2.v) : Lit × DataW Value)) = fun p => !(p.1 == k) := rfl
  rw [hf]
  generalize List.filter (fun p : Bs × Sv => !(p.1 == k)) l = r
  induction r with
  | nil => rfl
  | cons y r ih =>
    show (if (Lit.string k).before (.string y.1) = true then _ else _) = List.map _ (if bytesBefore k y.1 = true then _ else _)
    rw [show (Lit.string k).before (.string y.1) = bytesBefore k y.1 from rfl]
    split
    · rfl
    · rw [List.map_cons, ← ih]
theorem dat_del (k : Bs) (l : List (Bs × Sv)) : (dat l).del (.string k) = dat (gdel k l) := by
  unfold dat gdel
  rw [DataW.del_eq]
  unfold ChangeMaps.delKey
  rw [List.filter_map]
  rfl
theorem dat_at (k : Bs) (l : List (Bs × Sv)) : (dat l).atKey (.string k) (.held (.slice none 0 0)) = .held (((gget k l).map Sv.v).getD (.slice none 0 0)) := by
  unfold dat gget DataW.atKey
  dsimp only
  rw [List.find?_map]
  have hf : ((fun p : Lit × DataW Value => p.1.sameKey (Lit.string k)) ∘ fun p : Bs × Sv => ((Lit.string p.1, DataW.held p.2.v) : Lit × DataW Value)) = fun p => p.1 == k := rfl
  rw [hf]
  cases l.find? (fun p => p.1 == k) <;> rfl
theorem dat_has (k : Bs) (l : List (Bs × Sv)) : Maps.has (dat l) (.string k) = (gget k l).isSome := by
  unfold dat gget
  rw [Maps.has_eq]
  induction l with
  | nil => rfl
  | cons y r ih =>
    rw [List.map_cons, List.any_cons, List.find?_cons]
    show (y.1 == k || _) = _
    cases hy : y.1 == k
    · rw [Bool.false_or]; exact ih
    · rfl
theorem dat_size (l : List (Bs × Sv)) : Maps.size (dat l) = l.length := by unfold dat; rw [Maps.size_eq, List.length_map]

section
variable {P : Program} {K T E : TypeId} {w w' : World} {b n : Nat} {l : List (Bs × Sv)}
/-- block b is a map that holds l -/
def Om (P : Program) (K : TypeId) (w : World) (b : Nat) (l : List (Bs × Sv)) : Prop := w.ownsMap P K tok b l.length (dat l)
theorem key_str (hK : P.underlying K = some .string) {k : Bs} (hk : k.length ≤ maxLen) : keyOf P K (.string ⟨k.toArray⟩) = some (.string k) := by
  have := Go.WideMaps.keyOf_string_mk hK (s := ⟨k.toArray⟩) (by simpa [ByteArray.size] using hk)
  simpa using this
theorem Om.of (h : w.ownsMap P K tok b n (dat l)) : Om P K w b l := by
  obtain ⟨es, clock, hb, F, _, hD⟩ := h
  refine ⟨es, clock, hb, F, ?_, hD⟩
  have h1 : (dat l) = .map (l.map fun p => (.string p.1, .held p.2.v)) := rfl
  rw [h1] at hD
  injection hD with hD
  have h2 := congrArg List.length hD
  rw [length_sorted] at h2
  simp at h2
  omega
theorem Om.lt (h : Om P K w b l) : b < w.heap.size := World.ownsMap.lt h
theorem Om.same (h : Om P K w b l) (e : w'.heap[b]? = w.heap[b]?) : Om P K w' b l := by
  obtain ⟨es, clock, hb, r⟩ := h
  exact ⟨es, clock, e.trans hb, r⟩
theorem Om.new (w : World) : Om P K (w.alloc (.map #[] 0)) w.heap.size [] := World.ownsMap_made w P K tok
theorem Om.look (h : Om P K w b l) (hK : P.underlying K = some .string) (hT : P.underlying T = some (.map K E)) (hz : (zeroValue E).run P w = .ok (.slice none 0 0) w) {k : Bs} (hk : k.length ≤ maxLen) :
    (Instr.lookup T (.map (some b)) (.string ⟨k.toArray⟩) true).run P w = .ok (.tuple #[((gget k l).map Sv.v).getD (.slice none 0 0), .bool (gget k l).isSome]) w := by
  obtain ⟨v, ps, hrun, hv⟩ := h.look_ok (string_keyed hK) hT hz (zd := .held (.slice none 0 0)) (zp := []) rfl (key := .string ⟨k.toArray⟩) (kl := .string k) (key_str hK hk)
  rw [dat_at, dat_has] at *
  unfold tok at hv
  injection hv with hv
  injection hv with hv
  injection hv with hv
  subst hv
  exact hrun
theorem Om.look1 (h : Om P K w b l) (hK : P.underlying K = some .string) (hT : P.underlying T = some (.map K E)) (hz : (zeroValue E).run P w = .ok (.slice none 0 0) w) {k : Bs} (hk : k.length ≤ maxLen) :
    (Instr.lookup T (.map (some b)) (.string ⟨k.toArray⟩) false).run P w = .ok (((gget k l).map Sv.v).getD (.slice none 0 0)) w := by
  obtain ⟨v, ps, hrun, hv⟩ := h.lookup (string_keyed hK) hT hz (zd := .held (.slice none 0 0)) (zp := []) rfl (key := .string ⟨k.toArray⟩) (kl := .string k) (key_str hK hk)
  rw [dat_at] at hv
  unfold tok at hv
  injection hv with hv
  injection hv with hv
  injection hv with hv
  subst hv
  exact hrun
theorem Om.len (h : Om P K w b l) (hT : P.underlying T = some (.map K E)) (ty : TypeId) : (Builtin.len_ #[T] ty #[.map (some b)]).run P w = .ok (.int .i64 l.length) w := by
  have := World.ownsMap.len h hT ty
  rw [dat_size] at this
  exact this
theorem Om.store (h : Om P K w b l) (hK : P.underlying K = some .string) (hT : P.underlying T = some (.map K E)) (hn : l.length < maxLen) {k : Bs} (hk : k.length ≤ maxLen) (s : Sv) :
    ∃ w', (Instr.mapUpdate T (.map (some b)) (.string ⟨k.toArray⟩) s.v).run P w = .ok () w' ∧ Om P K w' b (gput k s l) ∧ w.grownBy w' (some b) := by
  obtain ⟨w', hrun, h1, h2⟩ := World.ownsMap.store h (string_keyed hK) hT hn (key := .string ⟨k.toArray⟩) (val := s.v) (kl := .string k) (d := .held s.v) (ps := []) (key_str hK hk) rfl
  rw [dat_put] at h1
  exact ⟨w', hrun, Om.of h1, h2.grown⟩
theorem Om.drop (h : Om P K w b l) (hK : P.underlying K = some .string) (hT : P.underlying T = some (.map K E)) {k : Bs} (hk : k.length ≤ maxLen) (ty : TypeId) :
    ∃ w', (Builtin.delete_ #[T, K] ty #[.map (some b), .string ⟨k.toArray⟩]).run P w = .ok (.tuple #[]) w' ∧ Om P K w' b (gdel k l) ∧ w.grownBy w' (some b) := by
  obtain ⟨w', hrun, h1, h2⟩ := World.ownsMap.drop h (string_keyed hK) hT (key := .string ⟨k.toArray⟩) (kl := .string k) (key_str hK hk) ty
  rw [dat_del] at h1
  exact ⟨w', hrun, Om.of h1, h2.grown⟩
end
end Go.Proofs.YtddmfoldnlafaaaGreatDoor

namespace Go.Proofs.YtddmfoldnlafaaaGreatDoor
open Go.RowKit

/-- a number's bytes -/
def vb (n : Nat) : List UInt8 := if n < 128 then [UInt8.ofNat n] else UInt8.ofNat (n % 128 + 128) :: vb (n / 128)
  termination_by n
theorem vb_small {n : Nat} (h : n < 128) : vb n = [UInt8.ofNat n] := by rw [vb, if_pos h]
theorem vb_step {n : Nat} (h : 128 ≤ n) : vb n = UInt8.ofNat (n % 128 + 128) :: vb (n / 128) := by rw [vb, if_neg (by omega)]
/-- those of many -/
def vbs (l : List Nat) : List UInt8 := l.flatMap vb
theorem vb_pos (n : Nat) : 0 < (vb n).length := by
  rw [vb]; split <;> simp
theorem vb_le (k : Nat) : ∀ n, n < 128 ^ (k + 1) → (vb n).length ≤ k + 1 := by
  induction k with
  | zero => intro n h; rw [vb_small (by simpa using h)]; simp
  | succ k ih =>
    intro n h
    by_cases hn : n < 128
    · rw [vb_small hn]; simp
    · rw [vb_step (by omega), List.length_cons]
      have := ih (n / 128) (by rw [Nat.div_lt_iff_lt_mul (by omega)]; rw [Nat.pow_succ] at h; exact h)
      omega
theorem pow10 : (128 : Nat) ^ (9 + 1) = 1180591620717411303424 := by decide
theorem vb_le10 {n : Nat} (h : n ≤ 18446744073709551615) : (vb n).length ≤ 10 := vb_le 9 n (by rw [pow10]; omega)

/-- a number of 64 bits (behind a name: the walk can't bear the numeral) -/
def U64 (n : Nat) : Prop := n ≤ 18446744073709551615

theorem or128 : ∀ j : Fin 256, (BitVec.ofNat 8 j.val ||| 128#8).toNat = j.val % 128 + 128 := by decide +kernel
theorem byte_more (k : Nat) : bits BinOp.or IntKind.u8 ((k : Int) % 256) 128 = ((UInt8.ofNat (k % 128 + 128)).toNat : Int) := by
  have h1 : (BitVec.ofInt 8 ((k : Int) % 256)) = BitVec.ofNat 8 (k % 256) := by
    rw [show ((k : Int) % 256) = ((k % 256 : Nat) : Int) from by omega, BitVec.ofInt_natCast]
  have h2 : k % 256 < 256 := Nat.mod_lt _ (by decide)
  have h4 := or128 ⟨k % 256, h2⟩
  simp only at h4
  show IntKind.u8.wrap ((BitVec.ofInt 8 ((k : Int) % 256) ||| BitVec.ofInt 8 128).toNat : Int) = _
  rw [h1, show (BitVec.ofInt 8 128) = 128#8 from rfl, h4]
  have h5 : (UInt8.ofNat (k % 128 + 128)).toNat = k % 128 + 128 := by rw [UInt8.toNat_ofNat']; omega
  rw [h5, IntKind.wrap_u8]
  omega
theorem byte_last {k : Nat} (h : k < 128) : (k : Int) = ((UInt8.ofNat k).toNat : Int) := by
  rw [UInt8.toNat_ofNat']; omega
theorem U64.div {n : Nat} (h : U64 n) (k : Nat) : U64 (n / k) := Nat.le_trans (Nat.div_le_self n k) h
theorem vbs_le {l : List Nat} (h : ∀ n ∈ l, U64 n) : (vbs l).length ≤ 10 * l.length := by
  induction l with
  | nil => simp [vbs]
  | cons n l ih =>
    have h1 := vb_le10 (h n (by simp))
    have h2 := ih (fun k hk => h k (by simp [hk]))
    simp only [vbs, List.flatMap_cons, List.length_append, List.length_cons] at h2 ⊢
    omega
theorem vbs_snoc {l : List Nat} {k : Nat} (hk : k < l.length) : vbs (l.take (k + 1)) = vbs (l.take k) ++ vb l[k] := by
  unfold vbs; rw [List.take_succ_eq_append_getElem hk, List.flatMap_append]; simp only [List.flatMap_cons, List.flatMap_nil, List.append_nil]

/-- the number that bytes begin with, from place i on, n the number so far -/
def tk (i n : Nat) : List UInt8 → Option (Nat × Nat)
  | [] => none
  | x :: r => if 9 < i ∨ i = 9 ∧ 1 < x.toNat then none else if 128 ≤ x.toNat then tk (i + 1) (n + x.toNat % 128 * 128 ^ i) r
    else if x.toNat = 0 ∧ 0 < i then none else some (n + x.toNat * 128 ^ i, i + 1)
def take (l : List UInt8) : Option (Nat × Nat) := tk 0 0 l
theorem tk_drop {l : List UInt8} {k : Nat} (h : k < l.length) (i n : Nat) : tk i n (l.drop k) = if 9 < i ∨ i = 9 ∧ 1 < l[k].toNat then none else if 128 ≤ l[k].toNat then tk (i + 1) (n + l[k].toNat % 128 * 128 ^ i) (l.drop (k + 1))
    else if l[k].toNat = 0 ∧ 0 < i then none else some (n + l[k].toNat * 128 ^ i, i + 1) := by
  rw [List.drop_eq_getElem_cons h, tk]
theorem tk_end (n : Nat) : ∀ l, tk 10 n l = none
  | [] => rfl
  | x :: r => by rw [tk, if_pos (Or.inl (by omega))]

theorem pow9 : (128 : Nat) ^ 9 = 9223372036854775808 := by decide
theorem pow128_le {i : Nat} (h : i ≤ 9) : 128 ^ i ≤ 9223372036854775808 := by rw [← pow9]; exact Nat.pow_le_pow_right (by decide) h
theorem pow128_pos (i : Nat) : 0 < 128 ^ i := Nat.pow_pos (by decide)
theorem pow128_succ (i : Nat) : (128 : Nat) ^ (i + 1) = 128 ^ i * 128 := Nat.pow_succ ..
theorem two_pow7 (k : Nat) : (2 : Nat) ^ (7 * k) = 128 ^ k := by rw [Nat.pow_mul]
theorem andNot128 : ∀ j : Fin 256, bits .andNot .u8 (j.val : Int) 128 = ((j.val % 128 : Nat) : Int) := by decide +kernel

theorem part_bound {x k : Nat} (hk : k ≤ 9) (h9 : k = 9 → x ≤ 1) : x % 128 * 128 ^ k < 18446744073709551616 := by
  by_cases h : k = 9
  · subst h
    have := h9 rfl
    rw [pow9]
    have h2 : x % 128 ≤ 1 := by omega
    have := Nat.mul_le_mul_right 9223372036854775808 h2
    omega
  · have h1 : (128 : Nat) ^ (k + 1) ≤ 9223372036854775808 := pow128_le (by omega)
    rw [pow128_succ] at h1
    have h2 : x % 128 ≤ 127 := by omega
    have h3 := Nat.mul_le_mul_right (128 ^ k) h2
    omega

theorem or_part (x : UInt8) (n k : Nat) (hn : n < 128 ^ k) (hk : k ≤ 9) (h9 : k = 9 → x.toNat ≤ 1) :
    bits BinOp.or IntKind.u64 (n : Int) (IntKind.u64.wrap (IntKind.u64.wrap (bits BinOp.andNot IntKind.u8 (x.toNat : Int) 128) * 2 ^ (7 * k))) = ((n + x.toNat % 128 * 128 ^ k : Nat) : Int) := by
  have hx := x.toNat_lt
  have h1 := andNot128 ⟨x.toNat, by omega⟩
  simp only at h1
  have hb := part_bound hk h9
  have hnb : n < 18446744073709551616 := by have := pow128_le hk; omega
  rw [h1, IntKind.wrap_u64 ((x.toNat % 128 : Nat) : Int), show ((x.toNat % 128 : Nat) : Int) % 18446744073709551616 = ((x.toNat % 128 : Nat) : Int) from by omega]
  rw [show ((x.toNat % 128 : Nat) : Int) * 2 ^ (7 * k) = ((x.toNat % 128 * 128 ^ k : Nat) : Int) from by
    rw [← two_pow7]
    simp]
  rw [IntKind.wrap_u64, show ((x.toNat % 128 * 128 ^ k : Nat) : Int) % 18446744073709551616 = ((x.toNat % 128 * 128 ^ k : Nat) : Int) from by omega]
  rw [u64_or_nat _ _ hnb hb]
  congr 1
  rw [Nat.or_comm, Nat.add_comm, ← two_pow7, Nat.mul_comm]
  exact (Nat.two_pow_add_eq_or_of_lt (by rw [two_pow7]; exact hn) _).symm

theorem next_lt {x n k : Nat} (hn : n < 128 ^ k) : n + x % 128 * 128 ^ k < 128 ^ (k + 1) := by
  rw [pow128_succ]
  have h2 : x % 128 ≤ 127 := by omega
  have h3 := Nat.mul_le_mul_right (128 ^ k) h2
  omega

theorem div_pow (m i : Nat) : m % 128 * 128 ^ i + m / 128 * 128 ^ (i + 1) = m * 128 ^ i := by
  rw [pow128_succ, Nat.mul_comm (128 ^ i) 128, ← Nat.mul_assoc, ← Nat.add_mul]
  congr 1
  omega

theorem tk_vb (m : Nat) : ∀ (i n : Nat) (r : List UInt8), i ≤ 9 → (0 < m ∨ i = 0) → n + m * 128 ^ i ≤ 18446744073709551615 → tk i n (vb m ++ r) = some (n + m * 128 ^ i, i + (vb m).length) := by
  induction m using Nat.strongRecOn with
  | _ m ih =>
    intro i n r hi hm hb
    have hi9 : i = 9 → m ≤ 1 := by
      intro h
      subst h
      rw [pow9] at hb
      omega
    by_cases hs : m < 128
    · have hx : (UInt8.ofNat m).toNat = m := by rw [UInt8.toNat_ofNat']; omega
      rw [vb_small hs, List.singleton_append, tk, hx, if_neg (by omega), if_neg (by omega), if_neg (by omega)]
      rfl
    · have hx : (UInt8.ofNat (m % 128 + 128)).toNat = m % 128 + 128 := by rw [UInt8.toNat_ofNat']; omega
      have he : n + (m % 128 + 128) % 128 * 128 ^ i + m / 128 * 128 ^ (i + 1) = n + m * 128 ^ i := by
        rw [← div_pow m i, show (m % 128 + 128) % 128 = m % 128 from by omega]; omega
      rw [vb_step (by omega), List.cons_append, tk, hx, if_neg (by omega), if_pos (by omega)]
      rw [ih (m / 128) (by omega) (i + 1) _ r (by omega) (Or.inl (by omega)) (by rw [he]; exact hb), he]
      simp only [List.length_cons]
      rw [show i + 1 + (vb (m / 128)).length = i + ((vb (m / 128)).length + 1) from by omega]

/-- what is put is taken -/
theorem take_vb {n : Nat} (h : U64 n) (r : List UInt8) : take (vb n ++ r) = some (n, (vb n).length) := by
  have := tk_vb n 0 0 r (by omega) (Or.inr rfl) (by unfold U64 at h; simpa using h)
  simpa [take] using this

theorem tk_some : ∀ (l : List UInt8) (i n v e : Nat), i ≤ 9 → n < 128 ^ i → tk i n l = some (v, e) →
    ∃ m j, v = n + m * 128 ^ i ∧ e = i + j ∧ j ≤ l.length ∧ l.take j = vb m ∧ (0 < i → 0 < m) ∧ v ≤ 18446744073709551615 := by
  intro l
  induction l with
  | nil => intro i n v e _ _ h; simp [tk] at h
  | cons x r ih =>
    intro i n v e hi hn h
    rw [tk] at h
    by_cases ha : 9 < i ∨ i = 9 ∧ 1 < x.toNat
    · rw [if_pos ha] at h; cases h
    rw [if_neg ha] at h
    by_cases hb : 128 ≤ x.toNat
    · rw [if_pos hb] at h
      obtain ⟨m, j, hv, he, hj, ht, hm, hu⟩ := ih (i + 1) _ v e (by omega) (next_lt hn) h
      have hx := x.toNat_lt
      have hm0 := hm (by omega)
      have h1 : (x.toNat % 128 + 128 * m) % 128 = x.toNat % 128 := by omega
      have h2 : (x.toNat % 128 + 128 * m) / 128 = m := by omega
      refine ⟨x.toNat % 128 + 128 * m, j + 1, ?_, by omega, by simp; omega, ?_, fun _ => by omega, hu⟩
      · rw [hv, ← div_pow (x.toNat % 128 + 128 * m) i, h1, h2]; omega
      · rw [List.take_succ_cons, ht, vb_step (n := x.toNat % 128 + 128 * m) (by omega), h1, h2]
        congr 1
        apply UInt8.toNat_inj.1
        rw [UInt8.toNat_ofNat']
        omega
    rw [if_neg hb] at h
    by_cases hd : x.toNat = 0 ∧ 0 < i
    · rw [if_pos hd] at h; cases h
    rw [if_neg hd] at h
    simp only [Option.some.injEq, Prod.mk.injEq] at h
    obtain ⟨rfl, rfl⟩ := h
    refine ⟨x.toNat, 1, rfl, rfl, by simp, ?_, fun _ => by omega, ?_⟩
    · rw [vb_small (by omega)]
      simp
    · have h1 := part_bound (x := x.toNat) (k := i) hi (fun h => by omega)
      have h2 := next_lt (x := x.toNat) hn
      by_cases h9 : i = 9
      · subst h9
        rw [pow9] at hn h1 ⊢
        have : x.toNat ≤ 1 := by omega
        have := Nat.mul_le_mul_right 9223372036854775808 this
        omega
      · have h3 : (128 : Nat) ^ (i + 1) ≤ 9223372036854775808 := pow128_le (by omega)
        rw [show x.toNat % 128 = x.toNat from by omega] at h2
        omega

/-- what is taken has just those bytes -/
theorem take_some {l : List UInt8} {v e : Nat} (h : take l = some (v, e)) : U64 v ∧ e ≤ l.length ∧ l.take e = vb v := by
  obtain ⟨m, j, hv, he, hj, ht, _, hu⟩ := tk_some l 0 0 v e (by omega) (by simp) h
  simp at hv
  subst hv
  exact ⟨hu, by omega, by rw [show e = j from by omega]; exact ht⟩
theorem take_len {l : List UInt8} {v e : Nat} (h : take l = some (v, e)) : e = (vb v).length := by
  obtain ⟨_, h1, h2⟩ := take_some h
  rw [← h2, List.length_take]
  omega

theorem vb_append_inj {n m : Nat} {r s : List UInt8} (hn : U64 n) (hm : U64 m) (h : vb n ++ r = vb m ++ s) : n = m ∧ r = s := by
  have h1 := take_vb hn r
  rw [h, take_vb hm s] at h1
  simp only [Option.some.injEq, Prod.mk.injEq] at h1
  obtain ⟨rfl, _⟩ := h1
  exact ⟨rfl, List.append_cancel_left h⟩
theorem vbs_append_inj : ∀ {a b : List Nat} {r s : List UInt8}, a.length = b.length → (∀ n ∈ a, U64 n) → (∀ n ∈ b, U64 n) → vbs a ++ r = vbs b ++ s → a = b ∧ r = s
  | [], [], _, _, _, _, _, h => ⟨rfl, by simpa [vbs] using h⟩
  | x :: a, y :: b, r, s, hl, ha, hb, h => by
    simp only [vbs, List.flatMap_cons, List.append_assoc] at h
    obtain ⟨rfl, h2⟩ := vb_append_inj (ha x (by simp)) (hb y (by simp)) h
    obtain ⟨rfl, h3⟩ := vbs_append_inj (by simpa using hl) (fun n hn => ha n (by simp [hn])) (fun n hn => hb n (by simp [hn])) h2
    exact ⟨rfl, h3⟩
/-- the bytes of a list -/
def lb (ns : List Nat) : List UInt8 := vb ns.length ++ vbs ns
theorem lb_append_inj {a b : List Nat} {r s : List UInt8} (h1 : U64 a.length) (h2 : U64 b.length) (ha : ∀ n ∈ a, U64 n) (hb : ∀ n ∈ b, U64 n) (h : lb a ++ r = lb b ++ s) : a = b ∧ r = s := by
  simp only [lb, List.append_assoc] at h
  obtain ⟨hl, h3⟩ := vb_append_inj h1 h2 h
  exact vbs_append_inj hl ha hb h3
/-- the bytes of no list begin with those of another one -/
theorem lb_begins {a b : List Nat} (h1 : U64 a.length) (h2 : U64 b.length) (ha : ∀ n ∈ a, U64 n) (hb : ∀ n ∈ b, U64 n) (h : (lb b).take (lb a).length = lb a) : a = b := by
  have h3 : lb a ++ (lb b).drop (lb a).length = lb b ++ [] := by
    rw [List.append_nil]
    exact (congrArg (· ++ (lb b).drop (lb a).length) h.symm).trans (List.take_append_drop _ _)
  exact (lb_append_inj h1 h2 ha hb h3).1

theorem byte_ref (k : Nat) : (k : Int) % 128 + 128 = ((UInt8.ofNat (k % 128 + 128)).toNat : Int) := by
  rw [UInt8.toNat_ofNat']; omega
theorem byte_ref0 {k : Nat} (h : k < 128) : ((k : Int) % 128) = ((UInt8.ofNat k).toNat : Int) := by
  rw [UInt8.toNat_ofNat']; omega
theorem wrap_div {k : Nat} (h : U64 k) (j : Nat) : IntKind.u64.wrap ((k : Int) / (j : Int)) = (k : Int) / (j : Int) := by
  have h1 := h.div j
  unfold U64 at h1
  rw [show (k : Int) / (j : Int) = ((k / j : Nat) : Int) from by simp]
  generalize k / j = q at h1 ⊢
  rw [IntKind.wrap_u64]
  omega
theorem wrap_u64_of {k : Nat} (h : U64 k) : IntKind.u64.wrap (k : Int) = (k : Int) := by
  unfold U64 at h
  rw [IntKind.wrap_u64]
  omega

/-- the number that groups tell -/
def val : List UInt8 → Nat
  | [] => 0
  | x :: r => x.toNat % 128 + 128 * val r
theorem val_vb (n : Nat) : val (vb n) = n := by
  induction n using Nat.strongRecOn with
  | _ n ih =>
    by_cases h : n < 128
    · rw [vb_small h, val, val, UInt8.toNat_ofNat']; omega
    · rw [vb_step (by omega), val, ih (n / 128) (by omega), UInt8.toNat_ofNat']; omega
theorem vb_high (n : Nat) : ∀ j (h : j < (vb n).length), 128 ≤ (vb n)[j].toNat ↔ j + 1 < (vb n).length := by
  induction n using Nat.strongRecOn with
  | _ n ih =>
    intro j hj
    by_cases h : n < 128
    · have e := vb_small h
      simp only [e] at hj ⊢
      simp at hj
      subst hj
      simp only [List.getElem_cons_zero, UInt8.toNat_ofNat', List.length_cons, List.length_nil]
      omega
    · have e := vb_step (n := n) (by omega)
      simp only [e] at hj ⊢
      have hp := vb_pos (n / 128)
      cases j with
      | zero =>
        simp only [List.getElem_cons_zero, UInt8.toNat_ofNat', List.length_cons]
        omega
      | succ j =>
        simp only [List.getElem_cons_succ, List.length_cons] at hj ⊢
        rw [ih (n / 128) (by omega) j (by omega)]
        omega
theorem take_last {l : List UInt8} {v e : Nat} (h : take l = some (v, e)) : 0 < e ∧ e ≤ 10 ∧ ∀ j (hj : j < l.length), j < e → (128 ≤ l[j].toNat ↔ j + 1 < e) := by
  obtain ⟨hu, he, ht⟩ := take_some h
  have hl := take_len h
  refine ⟨by rw [hl]; exact vb_pos v, by rw [hl]; exact vb_le10 hu, fun j hj hje => ?_⟩
  have h1 := vb_high v j (by omega)
  have h2 : (vb v)[j]'(by omega) = l[j] := by
    simp only [← ht, List.getElem_take]
  rw [h2] at h1
  omega
theorem take_ref {l : List UInt8} {k n : Nat} (hk : k < l.length) (hall : ∀ j (h : j < l.length), j < k → 128 ≤ l[j].toNat) (hlast : l[k].toNat < 128)
    (hn : n = val (l.take (k + 1)) % 18446744073709551616) : (vb n = l.take (k + 1) → take l = some (n, k + 1)) ∧ (vb n ≠ l.take (k + 1) → take l = none) := by
  refine ⟨fun h => ?_, fun h => ?_⟩
  · have h1 := take_vb (n := n) (by unfold U64; omega) (l.drop (k + 1))
    rw [h, List.take_append_drop, List.length_take] at h1
    rw [h1, Nat.min_eq_left (by omega)]
  · cases ht : take l with
    | none => rfl
    | some p =>
      obtain ⟨v, e⟩ := p
      obtain ⟨h0, h10, hh⟩ := take_last ht
      obtain ⟨hu, he, hv⟩ := take_some ht
      have he2 : e = k + 1 := by
        rcases Nat.lt_trichotomy e (k + 1) with h1 | h1 | h1
        · have h2 := hh (e - 1) (by omega) (by omega)
          have h3 := hall (e - 1) (by omega) (by omega)
          have := h2.1 h3
          omega
        · exact h1
        · have h2 := (hh k hk (by omega)).2 (by omega)
          omega
      subst he2
      rw [hv, val_vb] at hn
      unfold U64 at hu
      have : n = v := by omega
      exact absurd (by rw [hv, this]) h
theorem take_ref_none {l : List UInt8} (hall : ∀ j (h : j < l.length), j < 10 → 128 ≤ l[j].toNat) : take l = none := by
  cases ht : take l with
  | none => rfl
  | some p =>
    obtain ⟨v, e⟩ := p
    obtain ⟨h0, h10, hh⟩ := take_last ht
    obtain ⟨hu, he, hv⟩ := take_some ht
    have h2 := (hh (e - 1) (by omega) (by omega)).1 (hall (e - 1) (by omega) (by omega))
    omega
theorem val_drop {l : List UInt8} {i : Nat} (h : i < l.length) : val (l.drop i) = l[i].toNat % 128 + 128 * val (l.drop (i + 1)) := by
  rw [List.drop_eq_getElem_cons h, val]
theorem val_step {n v x : Nat} (h : n = v % 18446744073709551616) : IntKind.u64.wrap (IntKind.u64.wrap ((n : Int) * 128) + (x : Int) % 128) = (((x % 128 + 128 * v) % 18446744073709551616 : Nat) : Int) := by
  rw [IntKind.wrap_u64, IntKind.wrap_u64]; omega
theorem val_take_drop {l : List UInt8} {i k : Nat} (hi : i < k) (h : i < l.length) : val ((l.take k).drop i) = l[i].toNat % 128 + 128 * val ((l.take k).drop (i + 1)) := by
  rw [val_drop (by simp; omega)]
  simp
theorem val_all {l : List UInt8} {k : Nat} : val ((l.take k).drop k) = 0 := by
  rw [List.drop_eq_nil_of_le (by simp; omega), val]
end Go.Proofs.YtddmfoldnlafaaaGreatDoor

namespace Go.Proofs.YtddmfoldnlafaaaGreatDoor
open Go.RowKit

theorem u8_info : (Tryz.prog.info? 5).map (fun i => (i.zero, i.size, i.bytes)) = some (some (.int .u8 0), 1, 1) := by kernel_rfl

/-- new bytes -/
def GivesB (w0 : World) (l : List UInt8) (e : Ending) (w' : World) : Prop :=
  ∃ A c m, e = .returned (.slice A m.length c) ∧ Hid (m = l) ∧ OwnB w' w0.heap.size 5 A c m ∧ Below w0.heap.size w0 w'

set_option maxRecDepth 100000 in
set_option maxHeartbeats 400000 in
theorem put_any (A : Option Addr) (c : Nat) (l : List UInt8) (n : Nat) (hn : U64 n) (w : World) (base : Nat) (hbase : base ≤ w.heap.size) (hl : l.length ≤ 1000000000)
   (hown : OwnB w base 5 A c l) :
    Calls Tryz.prog 112 #[.slice A l.length c, .int .u64 n] w fun e w' => ∃ A' c' m, e = .returned (.slice A' m.length c') ∧ Hid (m = l ++ vb n) ∧ OwnB w' base 5 A' c' m ∧ Below base w w' := by
  go_enter Tryz.func112, Tryz.ntmps112
  go_wp2
  go_loopw [0, 1] (fun v x wr => ∃ (k : Nat) (B : Option Addr) (d : Nat) (m : List UInt8), x = .int .u64 k ∧ v = .slice B m.length d ∧ Hid (l ++ vb n = m ++ vb k) ∧ Hid (U64 k) ∧ OwnB wr base 5 B d m ∧ Below base w wr) (fun v x w => (intOf x).toNat)
  case atStart => exact ⟨n, A, c, l, rfl, rfl, rfl, hn, hown, Below.refl _ _⟩
  case round =>
    obtain ⟨k, B, d, m, rfl, rfl, hm, hk, hownr, hbr⟩ := hrel
    have hml : m.length ≤ 1000000010 := by
      have h1 := congrArg List.length hm.out
      have h2 := vb_le10 hn
      simp only [List.length_append] at h1
      omega
    clear hown
    by_cases h128 : 128 ≤ k
    · have hs := Lib.hid (vb_step h128)
      go_wp2_with (at_builtin; go_must (refine wpl_byte 25 5 Tryz.underlying25 u8_info rfl _ _ rfl base B d m _ (UInt8.ofNat (k % 128 + 128)) (byte_more k) rfl hownr rfl (by omega) (by have := hbr.size; omega) ?_; intro A1 c1 m1 w1 hm1 ho1 _ _ hb1))
      go_roundw
      case rel => exact ⟨k / 128, A1, c1, m1, rfl, rfl, by rw [hm1.out, hm.out, hs.out]; show _ = _; simp, hk.out.div 128, ho1, hbr.trans hb1⟩
      case measure => simp [intOf]; omega
    · have hs := Lib.hid (vb_small (n := k) (by omega))
      go_wp2_with (at_builtin; go_must (refine wpl_byte 25 5 Tryz.underlying25 u8_info rfl _ _ rfl base B d m _ (UInt8.ofNat k) (byte_last (by omega)) rfl hownr rfl (by omega) (by have := hbr.size; omega) ?_; intro A1 c1 m1 w1 hm1 ho1 _ _ hb1))
      go_ret
      exact ⟨A1, c1, m1, rfl, by rw [hm1.out, hm.out, hs.out]; rfl, ho1, hbr.trans hb1⟩

set_option maxRecDepth 100000 in
set_option maxHeartbeats 400000 in
theorem clone_any (A : Option Addr) (c : Nat) (l : List UInt8) (w : World) (hl : l.length ≤ 1000000000) (hs : SlB w A c l) :
    Calls Tryz.prog 111 #[.slice A l.length c] w (GivesB w l) := by
  have hq := fun (w : World) (A : Option Addr) (n c : Nat) => Lib.run_eql_slice_nil (P := Tryz.prog) w 25 5 A n c 0 0 Tryz.underlying25
  rcases A with _ | ad
  · obtain ⟨rfl, rfl⟩ := hs.of_none
    go_enter Tryz.func111, Tryz.ntmps111
    go_wp2
    go_ret
    exact ⟨none, 0, [], rfl, rfl, Own.none_ _ _ _ _, Below.refl _ _⟩
  · go_enter Tryz.func111, Tryz.ntmps111
    go_wp2_with (at_builtin; go_must (refine wpl_bytes 25 5 Tryz.underlying25 u8_info rfl _ _ rfl w.heap.size (some ⟨w.heap.size, 0, none⟩) 0 [] rfl (Own.lit 1 (Nat.le_refl _)) (some ad) c l rfl (hs.below ((Below.refl _ _).alloc (Nat.le_refl _) _)) (by simp; omega) (by simp) ?_; intro A1 c1 m1 w1 hm1 ho1 _ _ hb1))
    go_ret
    exact ⟨A1, c1, m1, rfl, hm1, ho1, ((Below.refl _ _).alloc (Nat.le_refl _) _).trans hb1⟩

theorem u64_info : (Tryz.prog.info? 125).map (fun i => (i.zero, i.size, i.bytes)) = some (some (.int .u64 0), 1, 8) := by kernel_rfl
abbrev nv (n : Nat) : Value := .int .u64 (n : Int)
/-- numbers of 64 bits that can be read -/
abbrev SlN (w : World) (A : Option Addr) (c : Nat) (l : List Nat) : Prop := Sl w 1 A l.length c (l.map nv)

set_option maxRecDepth 100000 in
set_option maxHeartbeats 400000 in
theorem Put_any (A : Option Addr) (c : Nat) (l : List UInt8) (A2 : Option Addr) (c2 : Nat) (ns : List Nat) (w : World) (hl : l.length ≤ 100000000) (hs : SlB w A c l) (hn : SlN w A2 c2 ns) (hns : ns.length ≤ 1000000) (h64 : ∀ n ∈ ns, U64 n) :
    Calls Tryz.prog 51 #[.slice A l.length c, .slice A2 ns.length c2] w (GivesB w (l ++ vbs ns)) := by
  have hmax := hn.len_le
  unfold maxLen at hmax
  go_enter Tryz.func51, Tryz.ntmps51
  go_wp2_with fail
  refine (clone_any A c l w (by omega) hs).mono ?_
  rintro e w1 ⟨A1, c1, m1, rfl, hm1, ho1, hb1⟩
  have hn1 := hn.below hb1
  have hml : m1.length ≤ 100000000 := by rw [hm1.out]; exact hl
  go_wp2_with fail
  go_loopw [5, 12] (fun v x wr => ∃ (k : Nat) (B : Option Addr) (d : Nat) (m : List UInt8), k ≤ ns.length ∧ x = .int .i64 k ∧ v = .slice B m.length d ∧ Hid (m = l ++ vbs (ns.take k)) ∧ OwnB wr w.heap.size 5 B d m ∧ Below w.heap.size w wr) (fun v x w => ns.length - (intOf x).toNat)
  case atStart => exact ⟨0, A1, c1, m1, Nat.zero_le _, rfl, rfl, by rw [hm1.out]; show _ = _; simp [vbs], ho1, hb1⟩
  case round =>
    obtain ⟨k, B, d, m, hk, rfl, rfl, hm, hor, hbr⟩ := hrel
    by_cases hlt : k < ns.length
    · obtain ⟨ad, rfl, hc⟩ := (hn.below hbr).at1 hlt
      have hml : m.length ≤ 200000000 := by
        have h2 := vbs_le (l := ns.take k) (fun n hn => h64 n (List.mem_of_mem_take hn))
        have h3 := congrArg List.length hm.out
        simp only [List.length_append, List.length_take] at h3 h2
        omega
      go_wp2_with fail
      refine (put_any B d m ns[k] (h64 _ (List.getElem_mem hlt)) _ w.heap.size hbr.size (by omega) hor).mono ?_
      rintro e w2 ⟨A2, c2, m2, rfl, hm2, ho2, hb2⟩
      go_wp2_with fail
      go_roundw
      case rel => exact ⟨k + 1, A2, c2, m2, hlt, by go_num, rfl, by rw [hm2.out, hm.out, vbs_snoc hlt]; show _ = _; simp, ho2, hbr.trans hb2⟩
      case measure => simp [intOf]; omega
    · go_wp2_with fail
      go_ret
      exact ⟨B, d, m, rfl, by rw [hm.out, List.take_of_length_le (by omega)]; rfl, hor, hbr⟩

set_option maxRecDepth 100000 in
set_option maxHeartbeats 400000 in
theorem PutText_any (A : Option Addr) (c : Nat) (l : List UInt8) (A2 : Option Addr) (c2 : Nat) (t : List UInt8) (w : World) (hl : l.length ≤ 10000000) (hs : SlB w A c l) (hn : SlB w A2 c2 t) (hns : t.length ≤ 10000000) :
    Calls Tryz.prog 116 #[.slice A l.length c, .slice A2 t.length c2] w (GivesB w (l ++ (vb t.length ++ t))) := by
  have hu : U64 t.length := by unfold U64; omega
  go_enter Tryz.func116, Tryz.ntmps116
  go_wp2_with fail
  have hs0 := hs.below (below_new w (Obj.cells #[Value.int IntKind.u64 t.length] 125))
  have hn0 := hn.below (below_new w (Obj.cells #[Value.int IntKind.u64 t.length] 125))
  refine (Put_any A c l (some ⟨w.heap.size, 0, none⟩) 1 [t.length] _ (by omega) hs0 (Sl.lits w [nv t.length] 125 (by simp [maxLen])) (by simp) (by simpa using hu)).mono ?_
  rintro e w1 ⟨A1, c1, m1, rfl, hm1, ho1, hb1⟩
  have hb1' := (below_new w (Obj.cells #[Value.int IntKind.u64 t.length] 125)).trans (hb1.mono (size_new _ _))
  have hml : m1.length ≤ 10000010 := by
    rw [hm1.out]
    have := vb_le10 hu
    simp [vbs]
    omega
  go_wp2_with (at_builtin; go_must (refine wpl_bytes 25 5 Tryz.underlying25 u8_info rfl _ _ rfl w.heap.size A1 c1 m1 rfl (ho1.more (size_new _ _)) A2 c2 t rfl (hn0.below hb1) (by omega) hb1'.size ?_; intro A3 c3 m3 w3 hm3 ho3 _ _ hb3))
  go_ret
  exact ⟨A3, c3, m3, rfl, by rw [hm3.out, hm1.out]; show _ = _; simp [vbs], ho3, hb1'.trans hb3⟩

/-- what Take answers -/
def TakeOut (o : Option (Nat × Nat)) (w : World) (e : Ending) (w' : World) : Prop :=
  w = w' ∧ ((o = none ∧ e = .returned (.tuple #[.int .u64 0, .int .i64 0, .iface 79 (.int .i64 2)])) ∨ ∃ n k : Nat, o = some (n, k) ∧ e = .returned (.tuple #[.int .u64 n, .int .i64 k, .nilIface]))

set_option maxRecDepth 100000 in
set_option maxHeartbeats 1000000 in
theorem Take_any (A : Option Addr) (c : Nat) (l : List UInt8) (w : World) (hs : SlB w A c l) :
    Calls Tryz.prog 120 #[.slice A l.length c] w (TakeOut (take l) w) := by
  have hc1 := hs.2.1
  have hc2 := hs.2.2.1
  unfold maxLen at hc2
  by_cases hL : 10 < l.length
  all_goals
    go_enter Tryz.func120, Tryz.ntmps120
    go_wp2_with fail
    go_loop [3, 5, 15] (fun _ v x => ∃ (k n : Nat), k ≤ l.length ∧ k ≤ 10 ∧ x = .int .i64 k ∧ v = .int .u64 n ∧ Hid (n < 128 ^ k) ∧ Hid (take l = tk k n (l.drop k))) (fun _ v x => l.length - (intOf x).toNat)
    case atStart => exact ⟨0, 0, Nat.zero_le _, by omega, rfl, rfl, (show _ < _ by simp), rfl⟩
    case round =>
      obtain ⟨k, n, hk, hk10, rfl, rfl, hn, ht⟩ := hrel
      by_cases hlt : k < l.length ∧ k < 10
      · obtain ⟨hlt, hlt10⟩ := hlt
        obtain ⟨ad, rfl, hc⟩ := hs.at1 hlt
        have htd := Lib.hid (tk_drop hlt k n)
        generalize l[k] = x at *
        by_cases ha : k = 9 ∧ 1 < x.toNat
        · obtain ⟨hk9, ha⟩ := ha
          have hkb : ((k : Int) == 9) = true := by simp; omega
          have Hk9 := Lib.hid hk9
          clear hk9
          go_wp2_with fail
          go_ret3
          exact ⟨rfl, .inl ⟨by rw [ht.out, htd.out, if_pos (Or.inr ⟨Hk9.out, ha⟩)], rfl⟩⟩
        by_cases hb : 128 ≤ x.toNat
        · have hk9 : ¬ k = 9 := by omega
          go_wp2_with fail
          go_round
          case rel => exact ⟨k + 1, n + x.toNat % 128 * 128 ^ k, by omega, by omega, by go_num, congrArg (Value.int .u64) (or_part x n k hn.out (by omega) (fun h => absurd h hk9)), (show _ < _ from next_lt hn.out), (show _ = _ by rw [ht.out, htd.out, if_neg (by omega), if_pos hb])⟩
          case measure => simp [intOf]; omega
        by_cases hd : x.toNat = 0 ∧ 0 < k
        · obtain ⟨hd0, hdk⟩ := hd
          go_wp2_with fail
          all_goals
            go_ret3
            exact ⟨rfl, .inl ⟨by rw [ht.out, htd.out, if_neg (by omega), if_neg hb, if_pos ⟨hd0, hdk⟩], rfl⟩⟩
        · have hx : x.toNat % 128 = x.toNat := by omega
          have hv := or_part x n k hn.out (by omega) (by omega)
          rw [hx] at hv
          have Hx := Lib.hid hx
          have Hv := Lib.hid hv
          have Hd := Lib.hid hd
          have ht' : Hid (take l = some (n + x.toNat * 128 ^ k, k + 1)) := (show _ = _ by rw [ht.out, htd.out, if_neg (by omega), if_neg hb, if_neg hd])
          clear hx hv hd
          rcases Decidable.em (x.toNat = 0) with h0 | h0
          · have hb0 : ((x.toNat : Int) == 0) = true := by simp; omega
            have hk0 : ¬ (0 < k) := fun h => Hd.out ⟨h0, h⟩
            have H0 := Lib.hid h0
            clear h0
            have hk9 : ((k : Int) == 9) = false := by simp; omega
            go_wp2_with fail
            go_ret3
            refine ⟨rfl, .inr ⟨n + x.toNat * 128 ^ k, k + 1, ht'.out, ?_⟩⟩
            rw [← Hv.out]
            rfl
          · have hb0 : ((x.toNat : Int) == 0) = false := by simp; omega
            go_wp2_with fail
            all_goals
              go_ret3
              refine ⟨rfl, .inr ⟨n + x.toNat * 128 ^ k, k + 1, ht'.out, ?_⟩⟩
              rw [← Hv.out]
              first | rfl | (obtain rfl : k = 9 := (by omega); rfl)
      · first | (have hge : 10 ≤ k := by omega) | (have hge : l.length ≤ k := by omega)
        go_wp2_with fail
        go_ret3
        exact ⟨rfl, .inl ⟨by rw [ht.out]; first | (rw [show k = 10 from by omega]; exact tk_end _ _) | (rw [List.drop_eq_nil_of_le (by omega)]; rfl), rfl⟩⟩

theorem vb300 : vb 300 = [172, 2] := by rw [vb_step (by omega), vb_small (by omega)]; decide
theorem vbs300 : [] ++ vbs [300] = [172, 2] := by simp [vbs, vb300]
theorem take300 : take [172, 2] = some (300, 2) := by decide

theorem take_succ_eq {T : Type} {xs ys : List T} {k : Nat} (h : xs.take k = ys.take k) (hx : k < xs.length) (hy : k < ys.length) : xs.take (k + 1) = ys.take (k + 1) ↔ xs[k] = ys[k] := by
  rw [List.take_succ_eq_append_getElem hx, List.take_succ_eq_append_getElem hy, h]
  exact ⟨fun e => by have := List.append_cancel_left e; simpa using this, fun e => by rw [e]⟩
theorem nv_ne {a b : Nat} (h : a ≠ b) : ((a : Int) != (b : Int)) = true := by simp; omega

end Go.Proofs.YtddmfoldnlafaaaGreatDoor
