/- WHAT IT HOLDS: sums of bytes, plainly (no program): bit by bit, by the table, joined by exclusive or, and what they find. | WHAT IT HOLDS: sync.Once of one goroutine: its lock, its two deferred calls, and that Do calls a function once, then never again. | WHAT IT HOLDS: what the package crc computes, walked. -/
import Derived.Test.YtddmfoldnlafaaaGreatDoorCursorBackG01
import Derived.Laws.BitsAllLaws
import Derived.Test.YtddmfoldnlafaaaGreatDoorRows
import Derived.Tactics
import Derived.Tactics2
import Derived.Defers
import Derived.Laws.Pointers
import Derived.Laws.LoneSync
import Derived.RegionTactic
import Derived.RegionCalls
import Derived.Test.YtddmfoldnlafaaaGreatDoorCursorBackG02
import Derived.Deep.RegionHeld3
import Derived.Deep.DrawnRows
namespace Go.Proofs.YtddmfoldnlafaaaGreatDoor
open Go.RowKit

abbrev W32 := BitVec 32
def P32 : W32 := 2197175160#32
/-- one bit -/
def st1 (x : W32) : W32 := (x >>> 1) ^^^ (if x.getLsbD 0 then P32 else 0#32)
/-- that often -/
def stn : Nat → W32 → W32
  | 0, x => x
  | n + 1, x => stn n (st1 x)
def st8 (x : W32) : W32 := stn 8 x
def bw (b : UInt8) : W32 := BitVec.ofNat 32 b.toNat
def crcS (x : W32) (l : List UInt8) : W32 := l.foldl (fun x b => st8 (x ^^^ bw b)) x
/-- the sum of more bytes -/
def extW (s : W32) (l : List UInt8) : W32 := ~~~ crcS (~~~ s) l
def sumW (l : List UInt8) : W32 := extW 0#32 l
def four (x : W32) : List UInt8 := [UInt8.ofNat (x.toNat / 16777216), UInt8.ofNat (x.toNat / 65536 % 256), UInt8.ofNat (x.toNat / 256 % 256), UInt8.ofNat (x.toNat % 256)]

theorem st1_xor (x y : W32) : st1 (x ^^^ y) = st1 x ^^^ st1 y := by
  unfold st1
  apply BitVec.eq_of_getLsbD_eq
  intro i hi
  simp only [BitVec.getLsbD_xor, BitVec.getLsbD_ushiftRight]
  cases x.getLsbD 0 <;> cases y.getLsbD 0 <;> simp [Bool.xor_comm, Bool.xor_left_comm]
theorem st1_zero : st1 0#32 = 0#32 := by decide
theorem stn_xor (n : Nat) : ∀ x y, stn n (x ^^^ y) = stn n x ^^^ stn n y := by
  induction n with
  | zero => intro x y; rfl
  | succ n ih => intro x y; simp only [stn, st1_xor, ih]
theorem stn_zero (n : Nat) : stn n 0#32 = 0#32 := by
  induction n with
  | zero => rfl
  | succ n ih => rw [stn, st1_zero, ih]
theorem P32_top : P32.getLsbD 31 = true := by decide
theorem st1_inj {x : W32} (h : st1 x = 0#32) : x = 0#32 := by
  unfold st1 at h
  have h31 := congrArg (fun y => BitVec.getLsbD y 31) h
  simp only [BitVec.getLsbD_xor, BitVec.getLsbD_ushiftRight] at h31
  have h32 : x.getLsbD (1 + 31) = false := BitVec.getLsbD_of_ge _ _ (by omega)
  rw [h32] at h31
  cases h0 : x.getLsbD 0
  · rw [h0] at h
    apply BitVec.eq_of_getLsbD_eq
    intro i hi
    rcases i with _ | i
    · simpa using h0
    · have := congrArg (fun y => BitVec.getLsbD y i) h
      simp only [BitVec.getLsbD_xor, BitVec.getLsbD_ushiftRight] at this
      simpa [Nat.add_comm] using this
  · rw [h0] at h31
    simp only [if_true, P32_top] at h31
    exact absurd h31 (by decide)
theorem stn_inj (n : Nat) : ∀ {x : W32}, stn n x = 0#32 → x = 0#32 := by
  induction n with
  | zero => intro x h; exact h
  | succ n ih => intro x h; exact st1_inj (ih h)

theorem st1_shl (y : W32) (h : y.getLsbD 31 = false) : st1 (y <<< 1) = y := by
  unfold st1
  apply BitVec.eq_of_getLsbD_eq
  intro i hi
  simp only [BitVec.getLsbD_xor, BitVec.getLsbD_ushiftRight, BitVec.getLsbD_shiftLeft]
  by_cases h1 : i = 31
  · subst h1
    have h' : y[31] = false := by rw [← BitVec.getLsbD_eq_getElem]; exact h
    simp [h']
  · have : 1 + i < 32 := by omega
    simp [this]
theorem stn_shl (n : Nat) : ∀ (y : W32), y.toNat * 2 ^ n < 2 ^ 32 → stn n (y <<< n) = y := by
  induction n with
  | zero => intro y _; simp [stn]
  | succ n ih =>
    intro y h
    rw [stn, BitVec.shiftLeft_add, st1_shl]
    · refine ih y ?_
      refine Nat.lt_of_le_of_lt ?_ h
      exact Nat.mul_le_mul_left _ (Nat.pow_le_pow_right (by decide) (by omega))
    · rw [BitVec.getLsbD_eq_getElem (by omega), BitVec.getElem_eq_testBit_toNat] <;> try omega
      rw [BitVec.toNat_shiftLeft, Nat.shiftLeft_eq]
      have h2 : y.toNat * 2 ^ n < 2 ^ 31 := by rw [Nat.pow_succ, ← Nat.mul_assoc] at h; omega
      rw [Nat.mod_eq_of_lt (by omega)]
      exact Nat.testBit_lt_two_pow h2

theorem bw_toNat (b : UInt8) : (bw b).toNat = b.toNat := by
  have := b.toNat_lt
  unfold bw
  rw [BitVec.toNat_ofNat]
  omega
theorem by_table (x : W32) (c : UInt8) : st8 (x ^^^ bw c) = st8 (BitVec.ofNat 32 ((x.toNat % 256) ^^^ c.toNat)) ^^^ (x >>> 8) := by
  have hx := x.isLt
  have hy : (x >>> 8).toNat * 2 ^ 8 < 2 ^ 32 := by
    rw [BitVec.toNat_ushiftRight, Nat.shiftRight_eq_div_pow]
    omega
  have h1 : x ^^^ bw c = BitVec.ofNat 32 ((x.toNat % 256) ^^^ c.toNat) ^^^ ((x >>> 8) <<< 8) := by
    apply BitVec.eq_of_getLsbD_eq
    intro i hi
    have hc := c.toNat_lt
    simp only [bw, BitVec.getLsbD_xor, BitVec.getLsbD_ofNat, BitVec.getLsbD_shiftLeft, BitVec.getLsbD_ushiftRight, Nat.testBit_xor, hi, decide_true, Bool.true_and]
    rw [show (256 : Nat) = 2 ^ 8 from rfl, Nat.testBit_mod_two_pow]
    by_cases h : i < 8
    · simp [h, BitVec.testBit_toNat]
    · have h8 : 8 + (i - 8) = i := by omega
      have : c.toNat.testBit i = false := Nat.testBit_lt_two_pow (Nat.lt_of_lt_of_le hc (Nat.pow_le_pow_right (by decide) (by omega : 8 ≤ i)))
      simp [h, h8, this]
  rw [h1]
  unfold st8
  rw [stn_xor, stn_shl 8 _ hy]

/-- bit by bit, the bits of a number -/
def crcN : Nat → W32 → Nat → W32
  | 0, x, _ => x
  | n + 1, x, D => crcN n (st1 (x ^^^ (if D.testBit 0 then 1#32 else 0#32))) (D >>> 1)
theorem one_xor (a b : Bool) : (if (a ^^ b) then 1#32 else 0#32) = (if a then 1#32 else 0#32) ^^^ (if b then 1#32 else 0#32) := by cases a <;> cases b <;> decide
theorem crcN_xor (n : Nat) : ∀ x y A B, crcN n (x ^^^ y) (A ^^^ B) = crcN n x A ^^^ crcN n y B := by
  induction n with
  | zero => intro x y A B; rfl
  | succ n ih =>
    intro x y A B
    simp only [crcN]
    rw [Nat.testBit_xor, one_xor, Nat.shiftRight_xor_distrib, ← ih, ← st1_xor]
    congr 2
    ac_rfl
theorem crcN_add (k : Nat) : ∀ m x D, crcN (k + m) x D = crcN m (crcN k x D) (D >>> k) := by
  induction k with
  | zero => intro m x D; simp [crcN]
  | succ k ih =>
    intro m x D
    rw [show k + 1 + m = (k + m) + 1 from by omega]
    simp only [crcN]
    rw [ih, ← Nat.shiftRight_add, Nat.add_comm 1 k]
theorem crcN_zero (n : Nat) : ∀ x, crcN n x 0 = stn n x := by
  induction n with
  | zero => intro x; rfl
  | succ n ih => intro x; simp [crcN, stn, ih]
theorem crcN_shl (p m W : Nat) : crcN (p + m) 0#32 (W <<< p) = crcN m 0#32 W := by
  induction p generalizing W with
  | zero => simp
  | succ p ih =>
    rw [show p + 1 + m = (p + m) + 1 from by omega]
    simp only [crcN]
    have h1 : (W <<< (p + 1)).testBit 0 = false := by simp
    have h2 : (W <<< (p + 1)) >>> 1 = W <<< p := by
      rw [Nat.shiftLeft_eq, Nat.shiftLeft_eq, Nat.shiftRight_eq_div_pow, Nat.pow_succ, ← Nat.mul_assoc, Nat.pow_one, Nat.mul_div_cancel _ (by decide)]
    rw [h1, h2]
    simp only [Bool.false_eq_true, if_false, BitVec.xor_zero, st1_zero]
    exact ih W
theorem half_step (x : W32) {W : Nat} (h : W < 2 ^ 32) : st1 (x ^^^ BitVec.ofNat 32 W) = st1 (x ^^^ (if W.testBit 0 then 1#32 else 0#32)) ^^^ BitVec.ofNat 32 (W >>> 1) := by
  have h1 : BitVec.ofNat 32 W = (if W.testBit 0 then 1#32 else 0#32) ^^^ (BitVec.ofNat 32 (W >>> 1) <<< 1) := by
    apply BitVec.eq_of_getLsbD_eq
    intro i hi
    rw [BitVec.getLsbD_xor, BitVec.getLsbD_ofNat, BitVec.getLsbD_shiftLeft, BitVec.getLsbD_ofNat]
    rcases i with _ | i
    · cases hw : W.testBit 0 <;> simp
    · have h0 : (if W.testBit 0 then 1#32 else 0#32).getLsbD (i + 1) = false := by
        cases W.testBit 0
        · simp
        · simp [BitVec.getLsbD_one]
      rw [h0]
      have : i < 32 := by omega
      simp [hi, this, Nat.testBit_shiftRight, Nat.add_comm]
  rw [h1, ← BitVec.xor_assoc, st1_xor, st1_shl]
  rw [BitVec.getLsbD_ofNat, Nat.testBit_shiftRight, Nat.testBit_lt_two_pow (by omega : W < 2 ^ (1 + 31))]
  simp
theorem crcN_word (m : Nat) : ∀ x W, W < 2 ^ 32 → W < 2 ^ m → crcN m x W = stn m (x ^^^ BitVec.ofNat 32 W) := by
  induction m with
  | zero =>
    intro x W _ h
    obtain rfl : W = 0 := by omega
    simp [crcN, stn]
  | succ m ih =>
    intro x W h32 hm
    simp only [crcN, stn]
    have hh : W >>> 1 < 2 ^ m := by rw [Nat.shiftRight_eq_div_pow]; rw [Nat.pow_succ] at hm; omega
    have h3 : W >>> 1 < 2 ^ 32 := by rw [Nat.shiftRight_eq_div_pow]; omega
    rw [ih _ _ h3 hh, half_step x h32]

/-- bytes as one number, the first byte lowest -/
def leN : List UInt8 → Nat
  | [] => 0
  | b :: l => b.toNat ^^^ (leN l <<< 8)
theorem crcS_leN (l : List UInt8) : ∀ x, crcS x l = crcN (8 * l.length) x (leN l) := by
  induction l with
  | nil => intro x; rfl
  | cons b l ih =>
    intro x
    have hb := b.toNat_lt
    rw [show crcS x (b :: l) = crcS (st8 (x ^^^ bw b)) l from rfl, ih, List.length_cons, show 8 * (l.length + 1) = 8 + 8 * l.length from by omega, crcN_add]
    have h1 : leN (b :: l) >>> 8 = leN l := by
      rw [leN, Nat.shiftRight_xor_distrib, Nat.shiftLeft_shiftRight, Nat.shiftRight_eq_div_pow, Nat.div_eq_of_lt hb, Nat.zero_xor]
    have h2 : crcN 8 x (leN (b :: l)) = st8 (x ^^^ bw b) := by
      have := crcN_xor 8 x 0#32 b.toNat (leN l <<< 8)
      rw [BitVec.xor_zero] at this
      rw [leN, this, show crcN 8 0#32 (leN l <<< 8) = 0#32 from crcN_shl 8 0 (leN l), BitVec.xor_zero, crcN_word 8 x b.toNat (by omega) hb]
      rfl
    rw [h1, h2]
theorem leN_lt (l : List UInt8) : leN l < 2 ^ (8 * l.length) := by
  induction l with
  | nil => simp [leN]
  | cons b l ih =>
    have hb := b.toNat_lt
    rw [leN, List.length_cons]
    refine Nat.xor_lt_two_pow (Nat.lt_of_lt_of_le hb (Nat.pow_le_pow_right (by decide) (by omega))) ?_
    rw [Nat.shiftLeft_eq, show 8 * (l.length + 1) = 8 * l.length + 8 from by omega, Nat.pow_add]
    exact Nat.mul_lt_mul_of_pos_right ih (by decide)
theorem leN_set (l : List UInt8) : ∀ (j : Nat) (hj : j < l.length) (m : UInt8), leN (l.set j (l[j] ^^^ m)) = leN l ^^^ (m.toNat <<< (8 * j)) := by
  induction l with
  | nil => intro j hj; simp at hj
  | cons b l ih =>
    intro j hj m
    rcases j with _ | j
    · simp only [List.set_cons_zero, List.getElem_cons_zero, leN, UInt8.toNat_xor, Nat.mul_zero, Nat.shiftLeft_zero]
      ac_rfl
    · simp only [List.set_cons_succ, List.getElem_cons_succ, leN]
      rw [ih j (by simpa using hj), Nat.shiftLeft_xor_distrib, ← Nat.shiftLeft_add, show 8 * j + 8 = 8 * (j + 1) from by omega]
      ac_rfl
/-- what stands together is found -/
theorem finds {b c : List UInt8} {W p : Nat} (hl : b.length = c.length) (h : leN c = leN b ^^^ (W <<< p)) (hp : p ≤ 8 * b.length) (h0 : W ≠ 0) (h1 : W < 2 ^ 32) (h2 : W < 2 ^ (8 * b.length - p)) (x : W32) : crcS x c ≠ crcS x b := by
  intro he
  rw [crcS_leN, crcS_leN, ← hl, h] at he
  have h3 := crcN_xor (8 * b.length) x 0#32 (leN b) (W <<< p)
  rw [BitVec.xor_zero] at h3
  rw [h3] at he
  have h4 : crcN (8 * b.length) 0#32 (W <<< p) = 0#32 := by
    have := congrArg (fun z => crcN (8 * b.length) x (leN b) ^^^ z) he
    simpa [← BitVec.xor_assoc] using this
  rw [show 8 * b.length = p + (8 * b.length - p) from by omega, crcN_shl, crcN_word _ _ _ h1 h2] at h4
  have h5 := stn_inj _ h4
  rw [BitVec.zero_xor] at h5
  have h6 := congrArg BitVec.toNat h5
  rw [BitVec.toNat_ofNat, Nat.mod_eq_of_lt h1] at h6
  exact h0 h6
theorem crcS_append (x : W32) (a b : List UInt8) : crcS x (a ++ b) = crcS (crcS x a) b := List.foldl_append
theorem extW_append (s : W32) (a b : List UInt8) : extW s (a ++ b) = extW (extW s a) b := by
  unfold extW
  rw [crcS_append, BitVec.not_not]
theorem extW_nil (s : W32) : extW s [] = s := by
  show ~~~ ~~~ s = s
  rw [BitVec.not_not]
theorem extW_inj {s : W32} {b c : List UInt8} (h : crcS (~~~ s) c ≠ crcS (~~~ s) b) : extW s c ≠ extW s b := by
  unfold extW
  intro he
  exact h (by rw [← BitVec.not_not (b := crcS (~~~ s) c), he, BitVec.not_not])
/-- bytes joined by exclusive or -/
def xor3 : List UInt8 → List UInt8 → List UInt8 → List UInt8
  | a :: l, b :: m, c :: n => (a ^^^ b ^^^ c) :: xor3 l m n
  | _, _, _ => []
theorem bw_xor (a b : UInt8) : bw (a ^^^ b) = bw a ^^^ bw b := by
  apply BitVec.eq_of_toNat_eq
  rw [bw_toNat, BitVec.toNat_xor, bw_toNat, bw_toNat, UInt8.toNat_xor]
theorem crcS_xor3 : ∀ (a b c : List UInt8) (x y z : W32), a.length = b.length → b.length = c.length → crcS (x ^^^ y ^^^ z) (xor3 a b c) = crcS x a ^^^ crcS y b ^^^ crcS z c
  | [], [], [], x, y, z, _, _ => rfl
  | a :: l, b :: m, c :: n, x, y, z, h1, h2 => by
    show crcS (st8 (x ^^^ y ^^^ z ^^^ bw (a ^^^ b ^^^ c))) (xor3 l m n) = crcS (st8 (x ^^^ bw a)) l ^^^ crcS (st8 (y ^^^ bw b)) m ^^^ crcS (st8 (z ^^^ bw c)) n
    rw [← crcS_xor3 l m n _ _ _ (by simpa using h1) (by simpa using h2)]
    unfold st8
    rw [← stn_xor, ← stn_xor, bw_xor, bw_xor]
    congr 2
    ac_rfl
theorem not_xor3 (x y z : W32) : ~~~ (x ^^^ y ^^^ z) = ~~~ x ^^^ ~~~ y ^^^ ~~~ z := by
  apply BitVec.eq_of_getLsbD_eq
  intro i hi
  simp only [BitVec.getLsbD_not, BitVec.getLsbD_xor, hi, decide_true, Bool.true_and]
  cases x.getLsbD i <;> cases y.getLsbD i <;> cases z.getLsbD i <;> rfl
theorem sum_xor3 {a b c : List UInt8} (h1 : a.length = b.length) (h2 : b.length = c.length) : sumW (xor3 a b c) = sumW a ^^^ sumW b ^^^ sumW c := by
  unfold sumW extW
  rw [← not_xor3, ← crcS_xor3 _ _ _ _ _ _ h1 h2]
  congr 2

/- values -/
/-- a word as a number, behind a name (the walk's simp would look into it) -/
def wn (x : W32) : Int := (x.toNat : Int)
abbrev wv (x : W32) : Value := .int .u32 (wn x)
theorem and_one (x : W32) : bits .and .u32 (wn x) 1 = ((if x.getLsbD 0 then 1 else 0 : Nat) : Int) := by
  unfold wn
  rw [show (1 : Int) = ((1 : Nat) : Int) from rfl, u32_and_nat _ _ x.isLt (by decide), nat_mask1]
  congr 1
  have : x.getLsbD 0 = decide (x.toNat % 2 = 1) := by rw [← BitVec.testBit_toNat, Nat.testBit_zero]
  rw [this]
  by_cases h : x.toNat % 2 = 1
  · simp [h]
  · simp [h]; omega
theorem xor_wn (x y : W32) : bits .xor .u32 (wn x) (wn y) = wn (x ^^^ y) := by
  unfold wn; rw [u32_xor_nat _ _ x.isLt y.isLt, BitVec.toNat_xor]
theorem shr_wn (x : W32) (k : Nat) : wn x / ((2 ^ k : Nat) : Int) = wn (x >>> k) := by
  unfold wn; rw [BitVec.toNat_ushiftRight, Nat.shiftRight_eq_div_pow]; rfl
theorem xor_P (y : W32) : bits .xor .u32 (wn y) 2197175160 = wn (y ^^^ P32) := xor_wn y P32
theorem half_wn (y : W32) : HDiv.hDiv (α := Int) (β := Int) (wn y) (2 : Int) = wn (y >>> 1) := shr_wn y 1
theorem not_wn (x : W32) : bits .xor .u32 4294967295 (wn x) = wn (~~~ x) := by
  have := xor_wn (BitVec.allOnes 32) x
  rw [BitVec.allOnes_xor] at this
  exact this
theorem mod_wn (y : W32) : HMod.hMod (α := Int) (β := Int) (wn y) (256 : Int) = ((y.toNat % 256 : Nat) : Int) := by
  unfold wn; omega
theorem xor_u8 {a b : Nat} (ha : a < 256) (hb : b < 256) : bits .xor .u8 (a : Int) (b : Int) = ((a ^^^ b : Nat) : Int) := u8_xor_nat a b ha hb
theorem shr8_wn (y : W32) : HDiv.hDiv (α := Int) (β := Int) (wn y) (256 : Int) = wn (y >>> 8) := shr_wn y 8
theorem crcS_drop {l : List UInt8} {k : Nat} (hk : k < l.length) (y : W32) : crcS y (l.drop k) = crcS (st8 (y ^^^ bw l[k])) (l.drop (k + 1)) := by
  rw [List.drop_eq_getElem_cons hk]; rfl
theorem wrap_ofNat {k : Nat} (_h : k < 256) : IntKind.u32.wrap (k : Int) = wn (BitVec.ofNat 32 k) := by
  unfold wn; rw [IntKind.wrap_u32, BitVec.toNat_ofNat]; omega
end Go.Proofs.YtddmfoldnlafaaaGreatDoor

namespace Go.Proofs.YtddmfoldnlafaaaGreatDoor
open Go.RowKit

theorem race_disable (w : World) : (callFunc 236 #[]).run Tryz.prog w = .ok (.value (.tuple #[])) w := run_call_mark0 Tryz.func236 (by kernel_rfl) (by kernel_rfl) (by kernel_rfl) .disable (by kernel_rfl) w
theorem race_enable (w : World) : (callFunc 238 #[]).run Tryz.prog w = .ok (.value (.tuple #[])) w := run_call_mark0 Tryz.func238 (by kernel_rfl) (by kernel_rfl) (by kernel_rfl) .enable (by kernel_rfl) w
theorem race_acquire (a : Addr) (w : World) : (callFunc 239 #[.pointer (some a)]).run Tryz.prog w = .ok (.value (.tuple #[])) w := run_call_marked Tryz.func239 (by kernel_rfl) (by kernel_rfl) (by kernel_rfl) .acquire (by kernel_rfl) a w
theorem race_merge (a : Addr) (w : World) : (callFunc 241 #[.pointer (some a)]).run Tryz.prog w = .ok (.value (.tuple #[])) w := run_call_marked Tryz.func241 (by kernel_rfl) (by kernel_rfl) (by kernel_rfl) .releaseMerge (by kernel_rfl) a w

/-- '(*sync/atomic.Bool).Store(true)', entered as a deferred call: the cell holds 1. -/
theorem once_store (a : Addr) (x : Value) (u : FrameMode) (w : World) (hc : w.cell? a = some x) (hz : w.frozen? a = false) :
    CallsD Tryz.prog 229 #[.pointer (some a), .bool true] u w fun e u' w' => u' = u ∧ (e = .returned (.tuple #[]) ∧ w' = w.drew.setCell a (.int .u32 1)) := by
  have hc' : w.drew.cell? a = some x := by go_simp
  have hz' : w.drew.frozen? a = false := by go_simp
  have hst := run_call_store (P := Tryz.prog) Tryz.func234 (by kernel_rfl) (by kernel_rfl) (by kernel_rfl) (by kernel_rfl) (k := .u32) (y := 1) hc' hz'
  go_enter_d Tryz.func229, Tryz.ntmps229
  go_wp2
  go_region_calls
  all_goals (go_end0; exact ⟨rfl, rfl⟩)

set_option maxRecDepth 100000 in
set_option maxHeartbeats 1600000 in
/-- '(*sync.Mutex).Unlock', entered as a deferred call, the lock held and nobody waiting (state 1): state 0. -/
theorem once_unlock (a : Addr) (u : FrameMode) (w : World) (hc : w.cell? a = some (.int .i32 1)) (hz : w.frozen? a = false) :
    CallsD Tryz.prog 228 #[.pointer (some a)] u w fun e u' w' => u' = u ∧ (e = .returned (.tuple #[]) ∧ w' = w.setCell a (.int .i32 0)) := by
  have hd := race_disable
  have he := race_enable
  have hr := race_merge
  have hadd := run_call_add (P := Tryz.prog) Tryz.func242 (by kernel_rfl) (by kernel_rfl) (by kernel_rfl) .i32 (by kernel_rfl) (y := -1) (s := 0) hc hz (by simp [go_sem]; rfl)
  have hcv := run_convert_to_unsafe (P := Tryz.prog) (src := 328) (dst := 332) Tryz.underlying328 Tryz.underlying332 (by kernel_rfl) hc
  go_enter_d Tryz.func228, Tryz.ntmps228
  go_wp2
  go_end0
  go_wp2
  go_end0
  exact ⟨rfl, rfl⟩

set_option maxRecDepth 100000 in
set_option maxHeartbeats 1600000 in
/-- '(*sync.Mutex).Lock', the lock free (state 0): state 1. -/
theorem once_lock (a : Addr) (w : World) (hc : w.cell? a = some (.int .i32 0)) (hz : w.frozen? a = false) :
    Calls Tryz.prog 227 #[.pointer (some a)] w fun e w' => e = .returned (.tuple #[]) ∧ w' = w.setCell a (.int .i32 1) := by
  have hd := race_disable
  have he := race_enable
  have ha := race_acquire
  have hcas := run_call_cas_hit (P := Tryz.prog) Tryz.func237 (by kernel_rfl) (by kernel_rfl) (by kernel_rfl) .i32 (by kernel_rfl) (y := 1) hc hz
  have hc' : (w.setCell a (.int .i32 1)).cell? a = some (.int .i32 1) := World.cell?_setCell_same w a _ hc
  have hcv := run_convert_to_unsafe (P := Tryz.prog) (src := 328) (dst := 332) Tryz.underlying328 Tryz.underlying332 (by kernel_rfl) hc'
  go_enter Tryz.func227, Tryz.ntmps227
  go_wp2
  first | go_end0 | (simp only [Exit.inBlock, Exit.then]; refine bodyPost_ret (results_none rfl _ _ _) rfl ?_) | refine bodyPost_ret (results_none rfl _ _ _) rfl ?_
  go_wp2
  go_end0
  exact ⟨rfl, rfl⟩
end Go.Proofs.YtddmfoldnlafaaaGreatDoor

namespace Go.Proofs.YtddmfoldnlafaaaGreatDoor
open Go.RowKit

set_option maxRecDepth 100000 in
set_option maxHeartbeats 1000000 in
theorem step_any (x : W32) (w : World) : Calls Tryz.prog 223 #[wv x] w fun e w' => e = .returned (wv (st8 x)) ∧ w = w' := by
  go_enter Tryz.func223, Tryz.ntmps223
  go_wp2
  go_loopw [0, 4] (fun v i wr => ∃ (k : Nat) (y : W32), k ≤ 8 ∧ i = .int .i64 k ∧ v = wv y ∧ Hid (st8 x = stn (8 - k) y) ∧ w = wr) (fun v i w => 8 - (intOf i).toNat)
  case atStart => exact ⟨0, x, by omega, rfl, rfl, rfl, rfl⟩
  case round =>
    obtain ⟨k, y, hk, rfl, rfl, hy, rfl⟩ := hrel
    by_cases h8 : k < 8
    · have hst : stn (8 - k) y = stn (8 - (k + 1)) (st1 y) := by rw [show 8 - k = (8 - (k + 1)) + 1 from by omega]; rfl
      cases hb : y.getLsbD 0
      · have e0 := and_one y
        rw [hb] at e0
        simp only [Bool.false_eq_true, if_false] at e0
        have hs : st1 y = y >>> 1 := by unfold st1; rw [hb]; simp
        have HS := Lib.hid hs
        have HT := Lib.hid hst
        clear hs hst hb
        go_wp2
        go_roundw
        case rel => exact ⟨k + 1, y >>> 1, h8, by go_num, congrArg (Value.int .u32) (half_wn y), (show st8 x = _ from by rw [hy.out, HT.out, HS.out]), by trivial⟩
        case measure => simp [intOf]; omega
      · have e0 := and_one y
        rw [hb] at e0
        simp only [if_true] at e0
        have hs : st1 y = (y >>> 1) ^^^ P32 := by unfold st1; rw [hb]; simp
        have HS := Lib.hid hs
        have HT := Lib.hid hst
        clear hs hst hb
        go_wp2
        go_roundw
        case rel => exact ⟨k + 1, (y >>> 1) ^^^ P32, h8, by go_num, congrArg (Value.int .u32) (by rw [half_wn, xor_P]), (show st8 x = _ from by rw [hy.out, HT.out, HS.out]), by trivial⟩
        case measure => simp [intOf]; omega
    · obtain rfl : k = 8 := by omega
      go_wp2
      go_ret
      exact ⟨by rw [hy.out]; rfl, rfl⟩
/-- a maker at block g: d: is its table made · n: how many sums were asked for · k: how many of the table's rows are made -/
def Mk (w : World) (g : Nat) (d s : Int) (n : Int) (k : Nat) : Prop := ∃ cs : Array Value, Blk w g 265 cs ∧ cs.size = 260 ∧ cs[0]? = some (.int .u32 d) ∧ cs[1]? = some (.int .i32 s) ∧ cs[259]? = some (.int .i64 n) ∧
  (∀ i, i < 256 → ∃ v, cs[3 + i]? = some v) ∧ ∀ i, i < k → cs[3 + i]? = some (wv (st8 (BitVec.ofNat 32 i)))

theorem zero_rows : (List.range 256).all (fun i => (Tryz.zeroCells265[3 + i]?).isSome) = true := by kernel_rfl
theorem zero_mk : Tryz.zeroCells265.size = 260 ∧ Tryz.zeroCells265[0]? = some (.int .u32 0) ∧ Tryz.zeroCells265[1]? = some (.int .i32 0) ∧ Tryz.zeroCells265[259]? = some (.int .i64 0) ∧
    (∀ i, i < 256 → ∃ v, Tryz.zeroCells265[3 + i]? = some v) ∧ ∀ i, i < 0 → Tryz.zeroCells265[3 + i]? = some (wv (st8 (BitVec.ofNat 32 i))) :=
  ⟨by kernel_rfl, by kernel_rfl, by kernel_rfl, by kernel_rfl, fun i hi => Option.isSome_iff_exists.1 (List.all_eq_true.1 zero_rows i (List.mem_range.2 hi)), fun i hi => absurd hi (by omega)⟩
set_option maxRecDepth 100000 in
set_option maxHeartbeats 1000000 in
theorem CrcNew_any (w : World) : Calls Tryz.prog 114 #[] w fun e w' => e = .returned (.pointer (some ⟨w.heap.size, 0, none⟩)) ∧ Mk w' w.heap.size 0 0 0 0 ∧ Below w.heap.size w w' := by
  go_enter Tryz.func114, Tryz.ntmps114
  go_wp2
  go_ret
  refine ⟨rfl, ⟨_, Blk.new _ _ _, ?_⟩, below_new _ _⟩
  exact zero_mk
theorem Mk.lt {w : World} {g k : Nat} {d s n : Int} (h : Mk w g d s n k) : g < w.heap.size := by obtain ⟨cs, hB, _⟩ := h; exact hB.lt
/-- a store into the table -/
theorem Mk.row {w : World} {g k : Nat} {d s n : Int} (h : Mk w g d s n k) (hk : k < 256) : Mk (w.setCell ⟨g, 3 + k, none⟩ (wv (st8 (BitVec.ofNat 32 k)))) g d s n (k + 1) := by
  obtain ⟨cs, hB, hs, h0, h1, h9, hr, ht⟩ := h
  refine ⟨_, hB.set_ _ _, by simpa using hs, ?_, ?_, ?_, ?_, ?_⟩
  · rw [Array.getElem?_setIfInBounds_ne (by omega)]; exact h0
  · rw [Array.getElem?_setIfInBounds_ne (by omega)]; exact h1
  · rw [Array.getElem?_setIfInBounds_ne (by omega)]; exact h9
  · intro i hi
    by_cases he : k = i
    · subst he; exact ⟨_, Array.getElem?_setIfInBounds_self_of_lt (by omega)⟩
    · rw [Array.getElem?_setIfInBounds_ne (by omega)]; exact hr i hi
  · intro i hi
    by_cases he : k = i
    · subst he; exact Array.getElem?_setIfInBounds_self_of_lt (by omega)
    · rw [Array.getElem?_setIfInBounds_ne (by omega)]; exact ht i (by omega)
theorem Mk.drew {w : World} {g k : Nat} {d s n : Int} (h : Mk w g d s n k) : Mk w.drew g d s n k := h
theorem Mk.cell {w : World} {g k : Nat} {d s n : Int} (h : Mk w g d s n k) : w.cell? ⟨g, 0, none⟩ = some (.int .u32 d) ∧ w.cell? ⟨g, 1, none⟩ = some (.int .i32 s) ∧ w.cell? ⟨g, 259, none⟩ = some (.int .i64 n) ∧ w.frozen? ⟨g, 0, none⟩ = false ∧ w.frozen? ⟨g, 1, none⟩ = false ∧ w.frozen? ⟨g, 259, none⟩ = false ∧
    (∀ i, i < 256 → ∃ v, w.cell? ⟨g, 3 + i, none⟩ = some v) ∧ (∀ i, w.frozen? ⟨g, i, none⟩ = false) := by
  obtain ⟨cs, hB, hs, h0, h1, h9, hr, ht⟩ := h
  exact ⟨(hB.cell 0).trans h0, (hB.cell 1).trans h1, (hB.cell 259).trans h9, hB.frozen 0, hB.frozen 1, hB.frozen 259, fun i hi => (hr i hi).imp fun v hv => (hB.cell _).trans hv, fun i => hB.frozen i⟩
theorem Mk.at {w : World} {g k : Nat} {d s n : Int} (h : Mk w g d s n k) {i : Nat} (hi : i < k) : w.cell? ⟨g, 3 + i, none⟩ = some (wv (st8 (BitVec.ofNat 32 i))) := by
  obtain ⟨cs, hB, hs, h0, h1, h9, hr, ht⟩ := h
  exact (hB.cell _).trans (ht i hi)

/-- only block g is written, and new ones -/
abbrev But (g : Nat) (w w' : World) : Prop := w.grownBy w' (some g)
theorem But.set {g : Nat} {w w' : World} (h : But g w w') (i : Nat) (v : Value) : But g w (w'.setCell ⟨g, i, none⟩ v) :=
  ⟨h.os, h.tape, h.output, by simpa [World.setCell] using h.size, fun k hk hne => (Below.heap_setCell w' ⟨g, i, none⟩ v k (fun e => hne (by rw [e]))).trans (h.block k hk hne)⟩
theorem But.refl (g : Nat) (w : World) : But g w w := World.grownBy.refl w _
theorem But.drew {g : Nat} {w w' : World} (h : But g w w') : But g w w'.drew := ⟨h.os, h.tape, h.output, h.size, h.block⟩
theorem But.alloc {g : Nat} {w w' : World} (h : But g w w') (o : Obj) : But g w (w'.alloc o) := h.trans (World.grownBy_alloc _ _ _)

set_option maxRecDepth 100000 in
set_option maxHeartbeats 1000000 in
theorem fill_any (g : Nat) (d s n : Int) (w : World) (hM : Mk w g d s n 0) : Calls Tryz.prog 214 #[.pointer (some ⟨g, 0, none⟩)] w fun e w' => e = .returned (.tuple #[]) ∧ Mk w' g d s n 256 ∧ But g w w' := by
  go_enter Tryz.func214, Tryz.ntmps214
  go_wp2
  go_loopw [3] (fun i wr => ∃ k : Nat, k ≤ 256 ∧ i = .int .i64 k ∧ Mk wr g d s n k ∧ But g w wr) (fun i w => 256 - (intOf i).toNat)
  case atStart => exact ⟨0, by omega, rfl, hM, But.refl _ _⟩
  case round =>
    obtain ⟨k, hk, rfl, hMk, hBut⟩ := hrel
    by_cases h : k < 256
    · obtain ⟨v, hv⟩ := (hMk.cell).2.2.2.2.2.2.1 k h
      have hf := (hMk.cell).2.2.2.2.2.2.2 (3 + k)
      have hrow := hMk.row h
      have hwr := wrap_ofNat h
      generalize BitVec.ofNat 32 k = x at hrow hwr
      have HR := Lib.hid hrow
      clear hrow
      go_wp2
      refine wp_region_held_drew (S := (fun _ => True)) (by kernel_rfl) ?_ (fun hHeld => ?_)
      · first | done | trivial
      refine wpAnyH_take (i := 0) (oi := ⟨some 6, _, _, _, _, _⟩) (v := ?_) rfl (by kernel_rfl) (by kernel_rfl) (by kernel_rfl) (fun _ _ _ h => h) (Or.inl ⟨by kernel_rfl, ?_⟩) (by assumption) ?_
      rotate_left
      · (intro wS hSw; (try dsimp only at hSw); go_simp; (try with_reducible rfl))
      (try simp only [Act.put, List.setIfInBounds_toArray, List.set_cons_zero, List.set_cons_succ])
      refine wpAnyH_take (i := 1) (oi := ⟨some 7, _, _, _, _, _⟩) (v := ?_) rfl (by kernel_rfl) (by kernel_rfl) (by kernel_rfl) (fun _ _ _ h => h) (Or.inl ⟨by kernel_rfl, ?_⟩) (by assumption) ?_
      rotate_left
      · (intro wS hSw; (try dsimp only at hSw); go_simp; (try with_reducible rfl))
      (try simp only [Act.put, List.setIfInBounds_toArray, List.set_cons_zero, List.set_cons_succ])
      refine wpAnyH_take (i := 2) (oi := ⟨some 8, _, _, _, _, _⟩) (v := ?_) rfl (by kernel_rfl) (by kernel_rfl) (by kernel_rfl) (fun _ _ _ h => h) (Or.inl ⟨by kernel_rfl, ?_⟩) (by assumption) ?_
      rotate_left
      · (intro wS hSw; (try dsimp only at hSw); go_simp; (try with_reducible rfl))
      (try simp only [Act.put, List.setIfInBounds_toArray, List.set_cons_zero, List.set_cons_succ])
      refine wpAnyH_take (i := 3) (oi := ⟨some 9, _, _, _, _, _⟩) (v := ?_) rfl (by kernel_rfl) (by kernel_rfl) (by kernel_rfl) (fun _ _ _ h => h) (Or.inl ⟨by kernel_rfl, ?_⟩) (by assumption) ?_
      rotate_left
      · (intro wS hSw; (try dsimp only at hSw); go_simp; (try with_reducible rfl))
      (try simp only [Act.put, List.setIfInBounds_toArray, List.set_cons_zero, List.set_cons_succ])
      refine wpAnyH_take (i := 5) (oi := ⟨some 11, _, _, _, _, _⟩) (v := ?_) rfl (by kernel_rfl) (by kernel_rfl) (by kernel_rfl) (fun _ _ _ h => h) (Or.inl ⟨by kernel_rfl, ?_⟩) (by assumption) ?_
      rotate_left
      · (intro wS hSw; (try dsimp only at hSw); go_simp; (try with_reducible rfl))
      (try simp only [Act.put, List.setIfInBounds_toArray, List.set_cons_zero, List.set_cons_succ])
      refine wpAnyH_take (i := 6) (oi := ⟨some 12, _, _, _, _, _⟩) (v := ?_) rfl (by kernel_rfl) (by kernel_rfl) (by kernel_rfl) (fun _ _ _ h => h) (Or.inl ⟨by kernel_rfl, ?_⟩) (by assumption) ?_
      rotate_left
      · (intro wS hSw; (try dsimp only at hSw); go_simp; (try with_reducible rfl))
      (try simp only [Act.put, List.setIfInBounds_toArray, List.set_cons_zero, List.set_cons_succ])
      refine wpAnyH_ready (rs := [4]) (by kernel_rfl) (by simp) ?_
      refine AllReadyH.cons (o := ⟨some 10, _, _, _, _, _⟩) rfl (fun K hK => ?_) AllReadyH.nil
      go_simp
      (refine (step_any x _).mono ?_; rintro e w9 ⟨rfl, rfl⟩)
      go_wp2_with fail
      refine hK.out _ _ ?_ (fun hHeld => ?_)
      · ((try dsimp only); (first | done | trivial))
      clear hK K
      (try simp only [Act.put, List.setIfInBounds_toArray, List.set_cons_zero, List.set_cons_succ])
      refine wpAnyH_take (i := 7) (oi := ⟨some 13, _, _, _, _, _⟩) (v := ?_) rfl (by kernel_rfl) (by kernel_rfl) (by kernel_rfl) (fun _ _ _ h => h) (Or.inl ⟨by kernel_rfl, ?_⟩) (by assumption) ?_
      rotate_left
      · (intro wS hSw; (try dsimp only at hSw); go_simp; (try with_reducible rfl))
      (try simp only [Act.put, List.setIfInBounds_toArray, List.set_cons_zero, List.set_cons_succ])
      refine wpAnyH_ready (rs := [8]) (by kernel_rfl) (by simp) ?_
      refine AllReadyH.cons (o := ⟨none, _, _, _, _, _⟩) rfl (fun K hK => ?_) AllReadyH.nil
      go_simp
      refine hK.out _ _ ?_ (fun hHeld => ?_)
      · ((try dsimp only); (first | done | trivial))
      clear hK K
      (try simp only [Act.put, List.setIfInBounds_toArray, List.set_cons_zero, List.set_cons_succ])
      refine wpAnyH_done (by kernel_rfl) ?_ _
      go_wp2
      go_roundw
      case rel => exact ⟨k + 1, h, by go_num, HR.out, (hBut.set _ _).drew⟩
      case measure => simp [intOf]; omega
    · obtain rfl : k = 256 := by omega
      go_wp2
      go_end0
      exact ⟨rfl, hMk, hBut⟩
theorem Mk.set0 {w : World} {g k : Nat} {d s n : Int} (h : Mk w g d s n k) (x : Int) : Mk (w.setCell ⟨g, 0, none⟩ (.int .u32 x)) g x s n k := by
  obtain ⟨cs, hB, hs, h0, h1, h9, hr, ht⟩ := h
  refine ⟨_, hB.set_ _ _, by simpa using hs, Array.getElem?_setIfInBounds_self_of_lt (by omega), ?_, ?_, fun i hi => ?_, fun i hi => ?_⟩
  · rw [Array.getElem?_setIfInBounds_ne (by omega)]; exact h1
  · rw [Array.getElem?_setIfInBounds_ne (by omega)]; exact h9
  · rw [Array.getElem?_setIfInBounds_ne (by omega)]; exact hr i hi
  · rw [Array.getElem?_setIfInBounds_ne (by omega)]; exact ht i hi
theorem Mk.set1 {w : World} {g k : Nat} {d s n : Int} (h : Mk w g d s n k) (x : Int) : Mk (w.setCell ⟨g, 1, none⟩ (.int .i32 x)) g d x n k := by
  obtain ⟨cs, hB, hs, h0, h1, h9, hr, ht⟩ := h
  refine ⟨_, hB.set_ _ _, by simpa using hs, ?_, Array.getElem?_setIfInBounds_self_of_lt (by omega), ?_, fun i hi => ?_, fun i hi => ?_⟩
  · rw [Array.getElem?_setIfInBounds_ne (by omega)]; exact h0
  · rw [Array.getElem?_setIfInBounds_ne (by omega)]; exact h9
  · rw [Array.getElem?_setIfInBounds_ne (by omega)]; exact hr i hi
  · rw [Array.getElem?_setIfInBounds_ne (by omega)]; exact ht i hi
theorem Mk.set9 {w : World} {g k : Nat} {d s n : Int} (h : Mk w g d s n k) (hk : k ≤ 256) (x : Int) : Mk (w.setCell ⟨g, 259, none⟩ (.int .i64 x)) g d s x k := by
  obtain ⟨cs, hB, hs, h0, h1, h9, hr, ht⟩ := h
  refine ⟨_, hB.set_ _ _, by simpa using hs, ?_, ?_, Array.getElem?_setIfInBounds_self_of_lt (by omega), fun i hi => ?_, fun i hi => ?_⟩
  · rw [Array.getElem?_setIfInBounds_ne (by omega)]; exact h0
  · rw [Array.getElem?_setIfInBounds_ne (by omega)]; exact h1
  · rw [Array.getElem?_setIfInBounds_ne (by omega)]; exact hr i hi
  · rw [Array.getElem?_setIfInBounds_ne (by omega)]; exact ht i (by omega)

set_option maxRecDepth 100000 in
set_option maxHeartbeats 1600000 in
theorem slow_any (g : Nat) (n : Int) (w : World) (hM : Mk w g 0 0 n 0) :
    Calls Tryz.prog 222 #[.pointer (some ⟨g, 0, none⟩), .func (.func 214) #[.pointer (some ⟨g, 0, none⟩)] #[]] w fun e w' => e = .returned (.tuple #[]) ∧ Mk w' g 1 0 n 256 ∧ But g w w' := by
  obtain ⟨h0, h1, _, f0, f1, _, _, _⟩ := hM.cell
  have hl := run_call_load (P := Tryz.prog) Tryz.func226 (by kernel_rfl) (by kernel_rfl) (by kernel_rfl) .u32 (by kernel_rfl) (w := w.setCell ⟨g, 1, none⟩ (.int .i32 1)) (a := ⟨g, 0, none⟩) (x := 0) ((World.cell?_setCell_other _ ⟨g, 1, none⟩ ⟨g, 0, none⟩ _ (by simp)).trans h0)
  have hnot : ∀ (x : Bool) (w : World), (Op.unary .not (.bool x)).run Tryz.prog w = .ok (.bool (!x)) w := fun _ _ => rfl
  go_enter_defers Tryz.func222, Tryz.ntmps222
  go_wp2_with (go_at_call 227; refine (once_lock ⟨g, 1, none⟩ _ (by go_simp) (by go_simp)).mono ?_; rintro e w' ⟨rfl, rfl⟩)
  have hM1 := hM.set1 1
  go_wp2_with (first | (go_at_call 214; refine (fill_any g 0 1 n _ hM1).mono ?_; rintro e w1 ⟨rfl, hM2, hB2⟩) | (go_at_call 221; go_in))
  obtain ⟨c0, _, _, z0, z1, _, _, _⟩ := hM2.cell
  refine leaves_cons (f := 229) (args := #[.pointer (some ⟨g, 0, none⟩), .bool true]) (by simp) (by simp [go_sem]) ?_
  refine (once_store ⟨g, 0, none⟩ (.int .u32 0) .returning _ c0 z0).mono ?_
  rintro e u' w2 ⟨rfl, rfl, rfl⟩
  have hM3 := hM2.drew.set0 1
  obtain ⟨_, c1, _, _, z1, _, _, _⟩ := hM3.cell
  refine leaves_cons (f := 228) (args := #[.pointer (some ⟨g, 1, none⟩)]) (by simp [settle]) (by simp [go_sem]) ?_
  refine (once_unlock ⟨g, 1, none⟩ _ _ c1 z1).mono ?_
  rintro e u' w3 ⟨rfl, rfl, rfl⟩
  have hM4 := hM3.set1 0
  exact ⟨_, results_none rfl _ _ _, rfl, hM4, But.set (But.set (But.drew (World.grownBy.trans (But.set (But.refl g w) _ _) hB2)) _ _) _ _⟩

set_option maxRecDepth 100000 in
set_option maxHeartbeats 1600000 in
theorem do_first (g : Nat) (n : Int) (w : World) (hM : Mk w g 0 0 n 0) :
    Calls Tryz.prog 213 #[.pointer (some ⟨g, 0, none⟩), .func (.func 214) #[.pointer (some ⟨g, 0, none⟩)] #[]] w fun e w' => e = .returned (.tuple #[]) ∧ Mk w' g 1 0 n 256 ∧ But g w w' := by
  obtain ⟨h0, _, _, _, _, _, _, _⟩ := hM.cell
  have hl := run_call_load (P := Tryz.prog) Tryz.func226 (by kernel_rfl) (by kernel_rfl) (by kernel_rfl) .u32 (by kernel_rfl) h0
  have hnot : ∀ (x : Bool) (w : World), (Op.unary .not (.bool x)).run Tryz.prog w = .ok (.bool (!x)) w := fun _ _ => rfl
  go_enter Tryz.func213, Tryz.ntmps213
  go_wp2_with (first | (go_at_call 222; refine (slow_any g n _ hM).mono ?_; rintro e w1 ⟨rfl, hM2, hB2⟩) | (go_at_call 221; go_in))
  go_end0
  exact ⟨rfl, hM2, hB2⟩
theorem do_done (g : Nat) (s n : Int) (fv : Value) (w : World) (hM : Mk w g 1 s n 256) :
    Calls Tryz.prog 213 #[.pointer (some ⟨g, 0, none⟩), fv] w fun e w' => e = .returned (.tuple #[]) ∧ w = w' := by
  obtain ⟨h0, _, _, _, _, _, _, _⟩ := hM.cell
  have hl := run_call_load (P := Tryz.prog) Tryz.func226 (by kernel_rfl) (by kernel_rfl) (by kernel_rfl) .u32 (by kernel_rfl) h0
  have hnot : ∀ (x : Bool) (w : World), (Op.unary .not (.bool x)).run Tryz.prog w = .ok (.bool (!x)) w := fun _ _ => rfl
  go_enter Tryz.func213, Tryz.ntmps213
  go_wp2
  go_end0
  exact ⟨rfl, rfl⟩
/-- a maker, its table made or not -/
def Mkr (w : World) (g : Nat) (n : Int) : Prop := Mk w g 0 0 n 0 ∨ Mk w g 1 0 n 256
theorem do_any (g : Nat) (n : Int) (w : World) (hM : Mkr w g n) :
    Calls Tryz.prog 213 #[.pointer (some ⟨g, 0, none⟩), .func (.func 214) #[.pointer (some ⟨g, 0, none⟩)] #[]] w fun e w' => e = .returned (.tuple #[]) ∧ Mk w' g 1 0 n 256 ∧ But g w w' := by
  rcases hM with hM | hM
  · exact do_first g n w hM
  · refine (do_done g 0 n _ w hM).mono ?_
    rintro e w1 ⟨rfl, rfl⟩
    exact ⟨rfl, hM, But.refl _ _⟩
theorem SlB.but {w w' : World} {A : Option Addr} {c g : Nat} {l : List UInt8} (h : SlB w A c l) (hb : But g w w') (hA : l ≠ [] → A.map (·.block) ≠ some g) : SlB w' A c l := by
  refine ⟨h.1, h.2.1, h.2.2.1, h.2.2.2.1, fun j u hj => ?_⟩
  obtain ⟨ad, hA2, hc⟩ := h.2.2.2.2 j u hj
  have hne : l ≠ [] := by intro e; rw [e] at hj; simp at hj
  subst hA2
  exact ⟨ad, rfl, hb.cell hc (by rw [addr_add_block]; exact hA hne)⟩
end Go.Proofs.YtddmfoldnlafaaaGreatDoor
