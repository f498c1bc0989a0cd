/- WHAT IT HOLDS: signed numbers' numbers, plainly (no program). | WHAT IT HOLDS: what is put is taken as it was, of the reader's plain functions (no program). | WHAT IT HOLDS: a run that was put is taken as it was, and what is taken has just those bytes, plainly (no program). | WHAT IT HOLDS: sums of bytes, plainly (no program): bit by bit, by the table, joined by exclusive or, and what they find. | WHAT IT HOLDS: sync.Once of one goroutine: its lock, its two deferred calls, and that Do calls a function once, then never again. | WHAT IT HOLDS: what the package crc computes, walked. -/
import Derived.Test.YtgipfenjachpnaaGreatParcelPutsG02
import Derived.Lib.Zigzag
import Derived.Test.YtgipfenjachpnaaGreatParcelPutsG03
import Derived.Test.YtgipfenjachpnaaGreatParcelPutsG10
import Derived.Test.YtgipfenjachpnaaGreatParcelPutsG01
import Derived.Laws.BitsAllLaws
import Derived.Test.YtgipfenjachpnaaGreatRows
import Derived.Tactics
import Derived.Tactics2
import Derived.Defers
import Derived.Laws.Pointers
import Derived.Laws.LoneSync
import Derived.RegionTactic
import Derived.RegionCalls
import Derived.Deep.RegionHeld3
import Derived.Deep.DrawnRows
namespace Go.Proofs.YtgipfenjachpnaaGreat
open Go.RowKit

/-- a signed number's number, and back -/
def zz (n : Int) : Nat := if 0 ≤ n then (2 * n).toNat else (-2 * n - 1).toNat
def zb (u : Nat) : Int := if u % 2 = 0 then (u / 2 : Nat) else -((u / 2 : Nat) : Int) - 1
theorem zz_u64 {n : Int} (h : I64 n) : U64 (zz n) := by
  unfold I64 at h
  unfold U64 zz
  split <;> omega
theorem zz_zb (u : Nat) : zz (zb u) = u := by
  unfold zz zb
  split <;> split <;> omega
theorem zig_val {n : Int} (h : I64 n) : bits BinOp.xor IntKind.u64 (IntKind.u64.wrap (IntKind.u64.wrap n * 2)) (IntKind.u64.wrap (n / 9223372036854775808)) = ((zz n : Nat) : Int) := by
  unfold I64 at h
  unfold zz
  rw [IntKind.wrap_u64, IntKind.wrap_u64, IntKind.wrap_u64]
  by_cases h0 : 0 ≤ n
  · rw [if_pos h0, show n % 18446744073709551616 * 2 % 18446744073709551616 = (((2 * n).toNat : Nat) : Int) from by omega, show n / 9223372036854775808 % 18446744073709551616 = ((0 : Nat) : Int) from by omega,
      bits_xor_u64_nat _ _ (by omega) (by omega), Nat.xor_zero]
  · rw [if_neg h0, show n % 18446744073709551616 * 2 % 18446744073709551616 = (((2 * n + 18446744073709551616).toNat : Nat) : Int) from by omega,
      show n / 9223372036854775808 % 18446744073709551616 = ((18446744073709551615 : Nat) : Int) from by omega, bits_xor_u64_nat _ _ (by omega) (by omega), Nat.xor_comm]
    have := Lib.xor_ones64 (2 * n + 18446744073709551616).toNat (by omega)
    rw [show (18446744073709551615 : Nat) = 2 ^ 64 - 1 from by decide, this]
    omega
theorem wrap64_of {n : Int} (h : I64 n) : wrap64 n = n := IntWalk.wrap64_in n h
theorem zag_val {n : Nat} (h : U64 n) : bits BinOp.xor IntKind.i64 (wrap64 ((n : Int) / 2)) (wrap64 (-wrap64 (bits BinOp.and IntKind.u64 (n : Int) 1))) = zb n := by
  unfold U64 at h
  unfold zb
  rw [Lib.u64_and1 _ (by omega) (by omega), wrap64_of (n := (n : Int) / 2) (by unfold I64; omega), wrap64_of (n := (n : Int) % 2) (by unfold I64; omega), wrap64_of (n := -((n : Int) % 2)) (by unfold I64; omega)]
  by_cases h0 : n % 2 = 0
  · rw [if_pos h0, show -((n : Int) % 2) = 0 from by omega]
    show IntKind.i64.wrap ((BitVec.ofInt 64 ((n : Int) / 2) ^^^ BitVec.ofInt 64 0).toNat : Int) = _
    rw [show BitVec.ofInt 64 0 = 0#64 from rfl, BitVec.xor_zero, show (n : Int) / 2 = ((n / 2 : Nat) : Int) from by omega, BitVec.ofInt_natCast, BitVec.toNat_ofNat, IntKind.wrap_i64]
    omega
  · rw [if_neg h0, show -((n : Int) % 2) = -1 from by omega]
    have e := Lib.i64_not (n / 2) (by omega)
    have hc : bits .xor .i64 ((n : Int) / 2) (-1) = bits .xor .i64 (-1) ((n / 2 : Nat) : Int) := by
      show IntKind.i64.wrap ((BitVec.ofInt 64 ((n : Int) / 2) ^^^ BitVec.ofInt 64 (-1)).toNat : Int) = IntKind.i64.wrap ((BitVec.ofInt 64 (-1) ^^^ BitVec.ofInt 64 ((n / 2 : Nat) : Int)).toNat : Int)
      rw [BitVec.xor_comm, show (n : Int) / 2 = ((n / 2 : Nat) : Int) from by omega]
    rw [hc, e]
theorem zig_pos {n : Int} (h : I64 n) (h0 : 0 ≤ n) : IntKind.u64.wrap (2 * IntKind.u64.wrap n) = ((zz n : Nat) : Int) := by
  unfold I64 at h
  unfold zz
  rw [if_pos h0, IntKind.wrap_u64, IntKind.wrap_u64]
  omega
theorem zig_neg {n : Int} (h : I64 n) (h0 : n < 0) : ∃ p q r s, wrap64 (n + 1) = p ∧ wrap64 (-p) = q ∧ IntKind.u64.wrap q = r ∧ IntKind.u64.wrap (2 * r) = s ∧ IntKind.u64.wrap (s + 1) = ((zz n : Nat) : Int) := by
  refine ⟨_, _, _, _, rfl, rfl, rfl, rfl, ?_⟩
  unfold I64 at h
  unfold zz
  rw [if_neg (by omega), wrap64_of (n := n + 1) (by unfold I64; omega), wrap64_of (n := -(n + 1)) (by unfold I64; omega), IntKind.wrap_u64, IntKind.wrap_u64, IntKind.wrap_u64]
  omega
theorem zag_even {u : Nat} (h : U64 u) (h0 : u % 2 = 0) : ∃ a, IntKind.u64.wrap ((u : Int) / 2) = a ∧ wrap64 a = zb u := by
  refine ⟨_, rfl, ?_⟩
  unfold U64 at h
  unfold zb
  rw [if_pos h0, IntKind.wrap_u64, wrap64_of (by unfold I64; omega)]
  omega
theorem zag_odd {u : Nat} (h : U64 u) (h0 : ¬ u % 2 = 0) : ∃ a b d, IntKind.u64.wrap ((u : Int) / 2) = a ∧ wrap64 a = b ∧ wrap64 (-b) = d ∧ wrap64 (d - 1) = zb u := by
  refine ⟨_, _, _, rfl, rfl, rfl, ?_⟩
  unfold U64 at h
  unfold zb
  rw [if_neg h0, IntKind.wrap_u64, wrap64_of (n := (u : Int) / 2 % 18446744073709551616) (by unfold I64; omega), wrap64_of (n := -((u : Int) / 2 % 18446744073709551616)) (by unfold I64; omega),
    wrap64_of (n := -((u : Int) / 2 % 18446744073709551616) - 1) (by unfold I64; omega)]
  omega
end Go.Proofs.YtgipfenjachpnaaGreat

namespace Go.Proofs.YtgipfenjachpnaaGreat
open Go.RowKit

theorem rNum_vb {n : Nat} (h : U64 n) (r : List UInt8) : rNum (vb n ++ r, 0) = (n, (r, 0)) := by
  unfold rNum
  rw [if_neg (by simp)]
  simp only [take_vb h r, List.drop_left]
theorem rCount_vb {n : Nat} (h : U64 n) {most : Int} (hm : (n : Int) ≤ most) (r : List UInt8) : rCount most (vb n ++ r, 0) = (n, (r, 0)) := by
  unfold rCount
  rw [rNum_vb h, if_neg (by simp), if_neg (by simp only [gt_iff_lt]; omega)]
theorem rNums_vbs : ∀ {l : List Nat}, (∀ n ∈ l, U64 n) → ∀ r, rNums l.length (vbs l ++ r, 0) = (l, (r, 0))
  | [], _, r => rfl
  | n :: l, h, r => by
    have h1 := rNums_vbs (l := l) (fun k hk => h k (by simp [hk])) r
    simp only [vbs, List.flatMap_cons, List.append_assoc, List.length_cons] at h1 ⊢
    unfold rNums
    rw [rNum_vb (h n (by simp)), if_neg (by simp), h1, if_neg (by simp)]
theorem rList_lb {l : List Nat} (h : ∀ n ∈ l, U64 n) (hl : U64 l.length) {most : Int} (hm : (l.length : Int) ≤ most) (r : List UInt8) : rList most (lb l ++ r, 0) = (l, (r, 0)) := by
  unfold rList lb
  rw [List.append_assoc, rCount_vb hl hm, rNums_vbs h]
theorem rFixed_all (t r : List UInt8) : rFixed (t.length : Int) (t ++ r, 0) = (t, (r, 0)) := by
  unfold rFixed
  rw [if_neg (by simp), if_neg (by simp; omega)]
  simp
theorem rText_tb {t : List UInt8} (h : U64 t.length) {most : Int} (hm : (t.length : Int) ≤ most) (r : List UInt8) : rText most (vb t.length ++ (t ++ r), 0) = (t, (r, 0)) := by
  unfold rText
  rw [rCount_vb h hm, rFixed_all]
theorem zb_i64 {u : Nat} (h : U64 u) : I64 (zb u) := by
  unfold U64 at h
  unfold zb I64
  split <;> omega
end Go.Proofs.YtgipfenjachpnaaGreat

namespace Go.Proofs.YtgipfenjachpnaaGreat
open Go.RowKit

theorem rowGo_take {k : Int} : ∀ {l : List Ce}, (∀ c ∈ l, cchk c = 0) → l.take (rowGo k l) = List.replicate (rowGo k l) (k, [])
  | [], _ => rfl
  | c :: r, h => by
    unfold rowGo
    by_cases hc : c.1 ≠ 1 ∧ c.1 = k
    · rw [if_pos hc, List.take_succ_cons, List.replicate_succ, rowGo_take fun x hx => h x (by simp [hx])]
      have h2 := (cchk_ok (h c (by simp))).2.2.2 hc.1
      obtain ⟨c1, c2⟩ := c
      dsimp only at hc h2
      rw [h2, hc.2]
    · rw [if_neg hc]; rfl
theorem rowGo_next {k : Int} : ∀ {l : List Ce} {c : Ce} {r : List Ce}, l.drop (rowGo k l) = c :: r → ¬ (c.1 ≠ 1 ∧ c.1 = k)
  | [], c, r, h => by simp [rowGo] at h
  | x :: l, c, r, h => by
    unfold rowGo at h
    by_cases hc : x.1 ≠ 1 ∧ x.1 = k
    · rw [if_pos hc, List.drop_succ_cons] at h
      exact rowGo_next h
    · rw [if_neg hc] at h
      simp only [List.drop_zero, List.cons.injEq] at h
      rw [← h.1]; exact hc
theorem rowGo_repB {k : Int} {cs : List Ce} (hk : k ≠ 1) (h : ∀ c r, cs = c :: r → ¬ (c.1 ≠ 1 ∧ c.1 = k)) : ∀ n, rowGo k (List.replicate n (k, []) ++ cs) = n
  | 0 => by
    cases cs with
    | nil => rfl
    | cons c r => simp only [List.replicate_zero, List.nil_append, rowGo]; rw [if_neg (h c r rfl)]
  | n + 1 => by
    rw [List.replicate_succ, List.cons_append, rowGo, if_pos ⟨hk, rfl⟩, rowGo_repB hk h n]
/-- the row ahead is not of the next one's kind -/
def Kd (kind : Nat) (cs : List Ce) : Prop := ∀ c r, cs = c :: r → c.1 ≠ 1 → c.1 ≠ (kind : Int)
theorem rWithin_vb {k m : Nat} (h : U64 k) (hk : k ≤ m) (hk2 : k ≤ 4611686018427387904) (r : List UInt8) : rWithin m (vb k ++ r, 0) = (k, (r, 0)) := by
  unfold rWithin
  rw [rNum_vb h, if_neg (by simp only [gt_iff_lt]; omega)]
theorem u64_of {n : Nat} (h : n ≤ 1000000) : U64 n := by unfold U64; omega
theorem tk_put : ∀ (N : Nat) (cs : List Ce) (t : Tk) (rest : List UInt8), cs.length ≤ N → (∀ c ∈ cs, cchk c = 0) → cs.length ≤ 64 → t.last.length ≤ 64 → t.left = cs.length → t.s = (prun t.last cs ++ rest, 0) → Kd t.kind cs → (tkEnd t).out = t.out ++ cs ∧ (tkEnd t).s = (rest, 0)
  | N, [], t, rest, _, _, _, _, hl, hs, _ => by
    rw [tkEnd_stop (.inl (by simpa using hl)), hs]
    simp [prun]
  | 0, c :: r, _, _, hN, _, _, _, _, _, _ => by simp at hN
  | N + 1, c :: r, t, rest, hN, hok, h64, hlast, hl, hs, hK => by
    have hs0 : t.s.2 = 0 := by rw [hs]
    have hc := hok c (by simp)
    obtain ⟨k0, k3, hc64, hcd⟩ := cchk_ok hc
    rw [tkEnd_step (by rw [hl]; simp) hs0]
    simp only [List.length_cons] at hN h64
    by_cases hd : c.1 = 1
    · have hz := rowN_zero (c := c) (r := r) |>.2 hd
      rw [prun_data hz] at hs
      simp only [List.append_assoc] at hs
      have hcp := cpl_le t.last c.2
      have e1 : rNum t.s = (0, (vb c.2.length ++ (vb (cpl t.last c.2) ++ (c.2.drop (cpl t.last c.2) ++ (prun c.2 r ++ rest))), 0)) := by rw [hs, rNum_vb (u64_of (by omega))]
      have e2 : rNum (vb c.2.length ++ (vb (cpl t.last c.2) ++ (c.2.drop (cpl t.last c.2) ++ (prun c.2 r ++ rest))), 0) = (c.2.length, (vb (cpl t.last c.2) ++ (c.2.drop (cpl t.last c.2) ++ (prun c.2 r ++ rest)), 0)) := rNum_vb (u64_of (by omega)) _
      have e3 : rNum (vb (cpl t.last c.2) ++ (c.2.drop (cpl t.last c.2) ++ (prun c.2 r ++ rest)), 0) = (cpl t.last c.2, (c.2.drop (cpl t.last c.2) ++ (prun c.2 r ++ rest), 0)) := rNum_vb (u64_of (by omega)) _
      have e5 : rFixed ((c.2.length - cpl t.last c.2 : Nat) : Int) (c.2.drop (cpl t.last c.2) ++ (prun c.2 r ++ rest), 0) = (c.2.drop (cpl t.last c.2), (prun c.2 r ++ rest, 0)) := by
        have := rFixed_all (c.2.drop (cpl t.last c.2)) (prun c.2 r ++ rest)
        rw [List.length_drop] at this
        exact this
      have hx : c.2 = t.last.take (cpl t.last c.2) ++ c.2.drop (cpl t.last c.2) := by rw [cpl_take, List.take_append_drop]
      have hst := st_textok e1 e2 rfl rfl (by omega) e3 (by omega) (by omega) rfl e5 rfl hx rfl
      rw [hst]
      have ih := tk_put N r ⟨(prun c.2 r ++ rest, 0), t.out ++ [(1, c.2)], t.left - 1, c.2, 1⟩ rest (by omega) (fun x hx => hok x (by simp [hx])) (by omega) (by dsimp only; omega) (by dsimp only; rw [hl]; simp) rfl (fun c' r' _ h1 h2 => h1 (by simpa using h2))
      rw [ih.1, ih.2]
      refine ⟨?_, rfl⟩
      dsimp only
      rw [List.append_assoc, List.singleton_append, show ((1 : Int), c.2) = c from by rw [← hd]]
    · obtain ⟨n, hn⟩ : ∃ n, rowN (c :: r) = n := ⟨_, rfl⟩
      have hn0 : 0 < n := by
        rw [← hn]
        exact Nat.pos_of_ne_zero fun h => hd (rowN_zero.1 h)
      have hnl : n ≤ r.length + 1 := by rw [← hn]; exact rowN_le (c :: r)
      obtain ⟨k, hk⟩ : ∃ k : Nat, c.1 = k := ⟨c.1.toNat, by omega⟩
      have hp : prun t.last (c :: r) = vb n ++ vb k ++ prun t.last ((c :: r).drop n) := by
        rw [prun, if_pos (by omega), hn, hk]; rfl
      rw [hp] at hs
      simp only [List.append_assoc] at hs
      have e1 : rNum t.s = (n, (vb k ++ (prun t.last ((c :: r).drop n) ++ rest), 0)) := by rw [hs, rNum_vb (u64_of (by omega))]
      have e2 : rWithin 3 (vb k ++ (prun t.last ((c :: r).drop n) ++ rest), 0) = (k, (prun t.last ((c :: r).drop n) ++ rest, 0)) := rWithin_vb (u64_of (by omega)) (by omega) (by omega) _
      have hkk : ¬ (k = 1 ∨ k = t.kind) := by
        have := hK c r rfl hd
        omega
      have hst := st_rowok e1 rfl hn0 (by rw [hl]; simpa using hnl) e2 rfl hkk
      rw [hst]
      have hgo : rowGo c.1 (c :: r) = n := hn
      have ht := rowGo_take (k := c.1) hok
      rw [hgo] at ht
      have hnx : ∀ c' r', (c :: r).drop n = c' :: r' → ¬ (c'.1 ≠ 1 ∧ c'.1 = c.1) := fun c' r' h => by rw [← hgo] at h; exact rowGo_next h
      have hdl : ((c :: r).drop n).length = r.length + 1 - n := by simp
      have ih := tk_put N ((c :: r).drop n) ⟨(prun t.last ((c :: r).drop n) ++ rest, 0), t.out ++ List.replicate n ((k : Int), []), t.left - n, t.last, k⟩ rest (by omega) (fun x hx => hok x (List.mem_of_mem_drop hx)) (by omega) hlast (by dsimp only; rw [hl, hdl]; simp) rfl (fun c' r' h h1 h2 => hnx c' r' h ⟨h1, by rw [hk]; exact h2⟩)
      rw [ih.1, ih.2]
      refine ⟨?_, rfl⟩
      dsimp only
      rw [List.append_assoc, ← hk, ← ht, List.take_append_drop]
theorem takeRun_put {cs : List Ce} (hok : ∀ c ∈ cs, cchk c = 0) (h64 : cs.length ≤ 64) (rest : List UInt8) : takeRun (vb cs.length ++ (prun [] cs ++ rest), 0) = (cs, (rest, 0)) := by
  have e1 := rNum_vb (n := cs.length) (u64_of (by omega)) (prun [] cs ++ rest)
  have hn : tkNew (vb cs.length ++ (prun [] cs ++ rest), 0) = ⟨(prun [] cs ++ rest, 0), [], cs.length, [], 1⟩ := by
    unfold tkNew
    rw [e1]
    dsimp only
    rw [if_neg (by omega), Nat.min_eq_left h64]
  have h := tk_put cs.length cs ⟨(prun [] cs ++ rest, 0), [], cs.length, [], 1⟩ rest (Nat.le_refl _) hok h64 (by simp) rfl rfl (fun c r _ h1 h2 => h1 (by simpa using h2))
  unfold takeRun
  rw [hn, h.1, h.2]
  simp
theorem rNum_someB {s s1 : Rs} {n : Nat} (h : rNum s = (n, s1)) (h0 : s1.2 = 0) : s.2 = 0 ∧ U64 n ∧ s.1 = vb n ++ s1.1 := by
  unfold rNum at h
  by_cases hb : s.2 = 0
  · rw [if_neg (by simpa using hb)] at h
    cases ht : take s.1 with
    | none => rw [ht] at h; dsimp only at h; injection h with _ h; rw [← h] at h0; exact absurd h0 (Nat.succ_ne_zero 1)
    | some p =>
      obtain ⟨v, e⟩ := p
      rw [ht] at h
      dsimp only at h
      injection h with h1 h2
      obtain ⟨hu, he, hte⟩ := take_some ht
      subst h1
      rw [← h2]
      dsimp only
      exact ⟨hb, hu, by rw [← hte, List.take_append_drop]⟩
  · rw [if_pos hb] at h
    injection h with _ h
    rw [← h] at h0
    exact absurd h0 hb
theorem rWithin_someB {m : Nat} {s s1 : Rs} {n : Nat} (h : rWithin m s = (n, s1)) (h0 : s1.2 = 0) : s.2 = 0 ∧ n ≤ m ∧ s.1 = vb n ++ s1.1 := by
  unfold rWithin at h
  split at h
  · injection h with _ h
    rw [← h] at h0
    exact absurd h0 (rFail_bad (by decide))
  · rename_i hc
    rw [h] at hc
    obtain ⟨h1, h2, h3⟩ := rNum_someB h h0
    dsimp only at hc
    exact ⟨h1, by omega, h3⟩
theorem rFixed_someB {n : Nat} {s s1 : Rs} {f : List UInt8} (h : rFixed (n : Int) s = (f, s1)) (h0 : s1.2 = 0) : s.2 = 0 ∧ f.length = n ∧ s.1 = f ++ s1.1 := by
  unfold rFixed at h
  split at h
  · rename_i hb
    injection h with _ h
    rw [← h] at h0
    exact absurd h0 hb
  · rename_i hb
    split at h
    · injection h with _ h
      rw [← h] at h0
      exact absurd h0 (Nat.succ_ne_zero 1)
    · rename_i hc
      injection h with h1 h2
      rw [← h1, ← h2]
      dsimp only
      simp only [gt_iff_lt, not_or] at hc
      exact ⟨by simpa using hb, by simp only [List.length_take, Int.toNat_natCast]; omega, by rw [List.take_append_drop]⟩
theorem tk_back : ∀ (N : Nat) (t : Tk), t.left ≤ N → TkOk t → t.s.2 = 0 → (tkEnd t).s.2 = 0 → ∃ cs, (tkEnd t).out = t.out ++ cs ∧ t.s.1 = prun t.last cs ++ (tkEnd t).s.1 ∧ cs.length = t.left ∧ (∀ c ∈ cs, cchk c = 0) ∧ Kd t.kind cs
  | N, t, hN, hO, hs0, hE0 => by
    rcases Nat.eq_zero_or_pos t.left with h0 | h0
    · rw [tkEnd_stop (.inl h0)]
      exact ⟨[], by simp, by simp [prun], by simp [h0], fun c hc => by simp at hc, fun c r h => by cases h⟩
    · match N, hN with
      | 0, hN => omega
      | N + 1, hN =>
      have hes := tkEnd_step (t := t) (by omega) hs0
      have hst0 : (tkStep t).s.2 = 0 := by
        rcases Decidable.em ((tkStep t).s.2 = 0) with h | h
        · exact h
        · rw [hes, tkEnd_stop (.inr h)] at hE0; exact absurd hE0 h
      have hok := tkStep_ok hO h0 hst0
      have hlt := tkStep_left t
      have ih := tk_back N (tkStep t) (by rcases hlt with h | h; exact absurd hst0 h; omega) hok hst0 (by rw [← hes]; exact hE0)
      rw [← hes] at ih
      obtain ⟨cs, h1, h2, h3, h4, h5⟩ := ih
      obtain ⟨many, s1, e1⟩ : ∃ n s, rNum t.s = (n, s) := ⟨_, _, rfl⟩
      have hs1 : s1.2 = 0 := by
        rcases Decidable.em (s1.2 = 0) with h | h
        · exact h
        · rw [st_bad e1 h] at hst0; exact absurd hst0 h
      obtain ⟨_, hum, hl1⟩ := rNum_someB e1 hs1
      rcases Nat.eq_zero_or_pos many with hm | hm
      · obtain ⟨n, s2, e2⟩ : ∃ n s, rNum s1 = (n, s) := ⟨_, _, rfl⟩
        have hc2 : s2.2 = 0 ∧ n ≤ 64 := by
          rcases Decidable.em (s2.2 ≠ 0 ∨ 64 < n) with h | h
          · have := st_long e1 e2 hs1 hm h
            rw [this] at hst0
            exact absurd hst0 (rFail_bad (by decide))
          · exact ⟨Decidable.byContradiction fun h' => h (.inl h'), Nat.le_of_not_lt fun h' => h (.inr h')⟩
        obtain ⟨hs2, hn⟩ := hc2
        obtain ⟨_, hun, hl2⟩ := rNum_someB e2 hs2
        obtain ⟨k, s3, e3⟩ : ∃ n s, rNum s2 = (n, s) := ⟨_, _, rfl⟩
        have hc3 : ¬ (s3.2 ≠ 0 ∨ n < k ∨ t.last.length < k) := fun h => by
          have := st_share e1 e2 hs1 hm hn e3 h
          rw [this] at hst0
          exact absurd hst0 (rFail_bad (by decide))
        have hs3 : s3.2 = 0 := Decidable.byContradiction fun h => hc3 (.inl h)
        have hk1 : k ≤ n := Nat.le_of_not_lt fun h => hc3 (.inr (.inl h))
        have hk2 : k ≤ t.last.length := Nat.le_of_not_lt fun h => hc3 (.inr (.inr h))
        obtain ⟨_, huk, hl3⟩ := rNum_someB e3 hs3
        obtain ⟨f, s5, e5⟩ : ∃ f s, rFixed ((n - k : Nat) : Int) s3 = (f, s) := ⟨_, _, rfl⟩
        have hs5 : s5.2 = 0 := by
          rcases Decidable.em (s5.2 = 0) with h | h
          · exact h
          · rw [st_fixbad e1 e2 hs1 hm hn e3 hk1 hk2 hs3 e5 h] at hst0; exact absurd hst0 h
        obtain ⟨_, hfl, hl5⟩ := rFixed_someB e5 hs5
        have hcp : cpl t.last (t.last.take k ++ f) = k := by
          rcases Decidable.em (cpl t.last (t.last.take k ++ f) = k) with h | h
          · exact h
          · rw [st_textbad e1 e2 hs1 hm hn e3 hk1 hk2 hs3 e5 hs5 rfl h] at hst0
            exact absurd hst0 (rFail_bad (by decide))
        have hst := st_textok e1 e2 hs1 hm hn e3 hk1 hk2 hs3 e5 hs5 rfl hcp
        rw [hst] at h1 h2 h3 h5
        dsimp only at h1 h2 h3 h5
        have hxl : (t.last.take k ++ f).length = n := by rw [List.length_append, List.length_take, hfl]; omega
        have hxd : (t.last.take k ++ f).drop k = f := List.drop_left' (by rw [List.length_take]; omega)
        refine ⟨(1, t.last.take k ++ f) :: cs, by rw [h1, List.append_assoc]; rfl, ?_, by simp only [List.length_cons]; omega, fun c hc => ?_, fun c r he hc => ?_⟩
        · rw [prun_data (rowN_zero.2 rfl), hcp, hxl]
          dsimp only
          rw [hxd, hl1, hm, hl2, hl3, hl5, h2]
          simp only [List.append_assoc]
        · rcases List.mem_cons.1 hc with rfl | hc
          · rcases cchk_cases (1, t.last.take k ++ f) with h | h | h | h | h | h <;> first | exact h.2.2.2 | (exfalso; dsimp only at h; omega)
          · exact h4 c hc
        · injection he with he _
          rw [← he] at hc
          exact absurd rfl hc
      · have hfar : many ≤ t.left := by
          rcases Nat.lt_or_ge t.left many with h | h
          · rw [st_far e1 hs1 hm h] at hst0; exact absurd hst0 (rFail_bad (by decide))
          · exact h
        obtain ⟨k, s2, e2⟩ : ∃ n s, rWithin 3 s1 = (n, s) := ⟨_, _, rfl⟩
        have hc2 : ¬ (s2.2 ≠ 0 ∨ k = 1 ∨ k = t.kind) := fun h => by
          rw [st_rowbad e1 hs1 hm hfar e2 h] at hst0
          exact absurd hst0 (rFail_bad (by decide))
        have hs2 : s2.2 = 0 := Decidable.byContradiction fun h => hc2 (.inl h)
        have hkk : ¬ (k = 1 ∨ k = t.kind) := fun h => hc2 (.inr h)
        obtain ⟨_, hk3, hl2⟩ := rWithin_someB e2 hs2
        have hst := st_rowok e1 hs1 hm hfar e2 hs2 hkk
        rw [hst] at h1 h2 h3 h5
        dsimp only at h1 h2 h3 h5
        have hk1 : (k : Int) ≠ 1 := by omega
        have hgo := rowGo_repB (k := (k : Int)) (cs := cs) hk1 (fun c r he hc => h5 c r he hc.1 hc.2) many
        obtain ⟨q, hq⟩ : ∃ q, many = q + 1 := ⟨many - 1, by omega⟩
        have hrn : rowN (List.replicate many ((k : Int), []) ++ cs) = many := by
          rw [hq, List.replicate_succ, List.cons_append] at hgo ⊢
          exact hgo
        refine ⟨List.replicate many ((k : Int), []) ++ cs, by rw [h1, List.append_assoc], ?_, by rw [List.length_append, List.length_replicate]; omega, fun c hc => ?_, fun c r he hc => ?_⟩
        · obtain ⟨kz, ⟨rz, dz, hz⟩, hp⟩ := prun_row (last := t.last) (l := List.replicate many ((k : Int), []) ++ cs) (by rw [hrn]; exact hm)
          have hkz : kz = (k : Int) := by
            rw [hq, List.replicate_succ, List.cons_append] at hz
            injection hz with hz _
            injection hz with hz _
            exact hz.symm
          rw [hp, hrn, hkz, List.drop_left' (by simp), hl1, hl2, h2]
          simp only [List.append_assoc, Int.toNat_natCast]
        · rcases List.mem_append.1 hc with hc | hc
          · rw [List.eq_of_mem_replicate hc]
            rcases cchk_cases ((k : Int), []) with h | h | h | h | h | h <;> first | exact h.2.2.2 | (exfalso; simp at h; done) | (exfalso; simp at h; omega)
          · exact h4 c hc
        · rw [hq, List.replicate_succ, List.cons_append] at he
          injection he with he _
          rw [← he]
          dsimp only
          omega
theorem takeRun_back {l : List UInt8} {cs : List Ce} {s' : Rs} (hl : l.length ≤ 1000000000) (h : takeRun (l, 0) = (cs, s')) (h0 : s'.2 = 0) : l = vb cs.length ++ (prun [] cs ++ s'.1) ∧ (∀ c ∈ cs, cchk c = 0) ∧ cs.length ≤ 64 := by
  obtain ⟨n, s1, e1⟩ : ∃ n s, rNum (l, 0) = (n, s) := ⟨_, _, rfl⟩
  have hc : s1.2 = 0 ∧ n ≤ 64 := by
    rcases Decidable.em (s1.2 ≠ 0 ∨ 64 < n) with hx | hx
    · rw [tr_start e1 hx] at h
      injection h with _ h
      rw [← h] at h0
      exact absurd h0 (rFail_bad (by decide))
    · exact ⟨Decidable.byContradiction fun h' => hx (.inl h'), Nat.le_of_not_lt fun h' => hx (.inr h')⟩
  obtain ⟨hs1, hn⟩ := hc
  obtain ⟨_, _, hl1⟩ := rNum_someB e1 hs1
  have hsl := rNum_len (l, 0)
  rw [e1] at hsl
  dsimp only at hl1 hsl
  have hnew : tkNew (l, 0) = ⟨s1, [], n, [], 1⟩ := by
    unfold tkNew
    rw [e1]
    dsimp only
    rw [if_neg (by omega), Nat.min_eq_left hn]
  unfold takeRun at h
  rw [hnew] at h
  by_cases hb : (tkEnd ⟨s1, [], n, [], 1⟩).s.2 ≠ 0
  · rw [if_pos hb] at h
    injection h with _ h
    rw [h] at hb
    exact absurd h0 hb
  · rw [if_neg hb] at h
    injection h with h1 h2
    obtain ⟨cs', b1, b2, b3, b4, _⟩ := tk_back n ⟨s1, [], n, [], 1⟩ (Nat.le_refl _) ⟨by dsimp only [List.length_nil]; omega, by dsimp only; omega, by dsimp only [List.length_nil]; omega, by dsimp only; omega⟩ hs1 (Decidable.byContradiction fun h' => hb h')
    dsimp only at b1 b2 b3
    rw [List.nil_append] at b1
    rw [b1] at h1
    subst h1
    rw [h2] at b2
    exact ⟨by rw [hl1, b2, b3], b4, by omega⟩
end Go.Proofs.YtgipfenjachpnaaGreat

namespace Go.Proofs.YtgipfenjachpnaaGreat
open Go.RowKit

abbrev W32 := BitVec 32
def P32 : W32 := 2197175160#32
/-- one bit -/
def st1 (x : W32) : W32 := (x >>> 1) ^^^ (if x.getLsbD 0 then P32 else 0#32)
/-- that often -/
def stn : Nat → W32 → W32
  | 0, x => x
  | n + 1, x => stn n (st1 x)
def st8 (x : W32) : W32 := stn 8 x
def bw (b : UInt8) : W32 := BitVec.ofNat 32 b.toNat
def crcS (x : W32) (l : List UInt8) : W32 := l.foldl (fun x b => st8 (x ^^^ bw b)) x
/-- the sum of more bytes -/
def extW (s : W32) (l : List UInt8) : W32 := ~~~ crcS (~~~ s) l
def sumW (l : List UInt8) : W32 := extW 0#32 l
def four (x : W32) : List UInt8 := [UInt8.ofNat (x.toNat / 16777216), UInt8.ofNat (x.toNat / 65536 % 256), UInt8.ofNat (x.toNat / 256 % 256), UInt8.ofNat (x.toNat % 256)]

theorem st1_xor (x y : W32) : st1 (x ^^^ y) = st1 x ^^^ st1 y := by
  unfold st1
  apply BitVec.eq_of_getLsbD_eq
  intro i hi
  simp only [BitVec.getLsbD_xor, BitVec.getLsbD_ushiftRight]
  cases x.getLsbD 0 <;> cases y.getLsbD 0 <;> simp [Bool.xor_comm, Bool.xor_left_comm]
theorem st1_zero : st1 0#32 = 0#32 := by decide
theorem stn_xor (n : Nat) : ∀ x y, stn n (x ^^^ y) = stn n x ^^^ stn n y := by
  induction n with
  | zero => intro x y; rfl
  | succ n ih => intro x y; simp only [stn, st1_xor, ih]
theorem stn_zero (n : Nat) : stn n 0#32 = 0#32 := by
  induction n with
  | zero => rfl
  | succ n ih => rw [stn, st1_zero, ih]
theorem P32_top : P32.getLsbD 31 = true := by decide
theorem st1_inj {x : W32} (h : st1 x = 0#32) : x = 0#32 := by
  unfold st1 at h
  have h31 := congrArg (fun y => BitVec.getLsbD y 31) h
  simp only [BitVec.getLsbD_xor, BitVec.getLsbD_ushiftRight] at h31
  have h32 : x.getLsbD (1 + 31) = false := BitVec.getLsbD_of_ge _ _ (by omega)
  rw [h32] at h31
  cases h0 : x.getLsbD 0
  · rw [h0] at h
    apply BitVec.eq_of_getLsbD_eq
    intro i hi
    rcases i with _ | i
    · simpa using h0
    · have := congrArg (fun y => BitVec.getLsbD y i) h
      simp only [BitVec.getLsbD_xor, BitVec.getLsbD_ushiftRight] at this
      simpa [Nat.add_comm] using this
  · rw [h0] at h31
    simp only [if_true, P32_top] at h31
    exact absurd h31 (by decide)
theorem stn_inj (n : Nat) : ∀ {x : W32}, stn n x = 0#32 → x = 0#32 := by
  induction n with
  | zero => intro x h; exact h
  | succ n ih => intro x h; exact st1_inj (ih h)

theorem st1_shl (y : W32) (h : y.getLsbD 31 = false) : st1 (y <<< 1) = y := by
  unfold st1
  apply BitVec.eq_of_getLsbD_eq
  intro i hi
  simp only [BitVec.getLsbD_xor, BitVec.getLsbD_ushiftRight, BitVec.getLsbD_shiftLeft]
  by_cases h1 : i = 31
  · subst h1
    have h' : y[31] = false := by rw [← BitVec.getLsbD_eq_getElem]; exact h
    simp [h']
  · have : 1 + i < 32 := by omega
    simp [this]
theorem stn_shl (n : Nat) : ∀ (y : W32), y.toNat * 2 ^ n < 2 ^ 32 → stn n (y <<< n) = y := by
  induction n with
  | zero => intro y _; simp [stn]
  | succ n ih =>
    intro y h
    rw [stn, BitVec.shiftLeft_add, st1_shl]
    · refine ih y ?_
      refine Nat.lt_of_le_of_lt ?_ h
      exact Nat.mul_le_mul_left _ (Nat.pow_le_pow_right (by decide) (by omega))
    · rw [BitVec.getLsbD_eq_getElem (by omega), BitVec.getElem_eq_testBit_toNat] <;> try omega
      rw [BitVec.toNat_shiftLeft, Nat.shiftLeft_eq]
      have h2 : y.toNat * 2 ^ n < 2 ^ 31 := by rw [Nat.pow_succ, ← Nat.mul_assoc] at h; omega
      rw [Nat.mod_eq_of_lt (by omega)]
      exact Nat.testBit_lt_two_pow h2

theorem bw_toNat (b : UInt8) : (bw b).toNat = b.toNat := by
  have := b.toNat_lt
  unfold bw
  rw [BitVec.toNat_ofNat]
  omega
theorem by_table (x : W32) (c : UInt8) : st8 (x ^^^ bw c) = st8 (BitVec.ofNat 32 ((x.toNat % 256) ^^^ c.toNat)) ^^^ (x >>> 8) := by
  have hx := x.isLt
  have hy : (x >>> 8).toNat * 2 ^ 8 < 2 ^ 32 := by
    rw [BitVec.toNat_ushiftRight, Nat.shiftRight_eq_div_pow]
    omega
  have h1 : x ^^^ bw c = BitVec.ofNat 32 ((x.toNat % 256) ^^^ c.toNat) ^^^ ((x >>> 8) <<< 8) := by
    apply BitVec.eq_of_getLsbD_eq
    intro i hi
    have hc := c.toNat_lt
    simp only [bw, BitVec.getLsbD_xor, BitVec.getLsbD_ofNat, BitVec.getLsbD_shiftLeft, BitVec.getLsbD_ushiftRight, Nat.testBit_xor, hi, decide_true, Bool.true_and]
    rw [show (256 : Nat) = 2 ^ 8 from rfl, Nat.testBit_mod_two_pow]
    by_cases h : i < 8
    · simp [h, BitVec.testBit_toNat]
    · have h8 : 8 + (i - 8) = i := by omega
      have : c.toNat.testBit i = false := Nat.testBit_lt_two_pow (Nat.lt_of_lt_of_le hc (Nat.pow_le_pow_right (by decide) (by omega : 8 ≤ i)))
      simp [h, h8, this]
  rw [h1]
  unfold st8
  rw [stn_xor, stn_shl 8 _ hy]

/-- bit by bit, the bits of a number -/
def crcN : Nat → W32 → Nat → W32
  | 0, x, _ => x
  | n + 1, x, D => crcN n (st1 (x ^^^ (if D.testBit 0 then 1#32 else 0#32))) (D >>> 1)
theorem one_xor (a b : Bool) : (if (a ^^ b) then 1#32 else 0#32) = (if a then 1#32 else 0#32) ^^^ (if b then 1#32 else 0#32) := by cases a <;> cases b <;> decide
theorem crcN_xor (n : Nat) : ∀ x y A B, crcN n (x ^^^ y) (A ^^^ B) = crcN n x A ^^^ crcN n y B := by
  induction n with
  | zero => intro x y A B; rfl
  | succ n ih =>
    intro x y A B
    simp only [crcN]
    rw [Nat.testBit_xor, one_xor, Nat.shiftRight_xor_distrib, ← ih, ← st1_xor]
    congr 2
    ac_rfl
theorem crcN_add (k : Nat) : ∀ m x D, crcN (k + m) x D = crcN m (crcN k x D) (D >>> k) := by
  induction k with
  | zero => intro m x D; simp [crcN]
  | succ k ih =>
    intro m x D
    rw [show k + 1 + m = (k + m) + 1 from by omega]
    simp only [crcN]
    rw [ih, ← Nat.shiftRight_add, Nat.add_comm 1 k]
theorem crcN_zero (n : Nat) : ∀ x, crcN n x 0 = stn n x := by
  induction n with
  | zero => intro x; rfl
  | succ n ih => intro x; simp [crcN, stn, ih]
theorem crcN_shl (p m W : Nat) : crcN (p + m) 0#32 (W <<< p) = crcN m 0#32 W := by
  induction p generalizing W with
  | zero => simp
  | succ p ih =>
    rw [show p + 1 + m = (p + m) + 1 from by omega]
    simp only [crcN]
    have h1 : (W <<< (p + 1)).testBit 0 = false := by simp
    have h2 : (W <<< (p + 1)) >>> 1 = W <<< p := by
      rw [Nat.shiftLeft_eq, Nat.shiftLeft_eq, Nat.shiftRight_eq_div_pow, Nat.pow_succ, ← Nat.mul_assoc, Nat.pow_one, Nat.mul_div_cancel _ (by decide)]
    rw [h1, h2]
    simp only [Bool.false_eq_true, if_false, BitVec.xor_zero, st1_zero]
    exact ih W
theorem half_step (x : W32) {W : Nat} (h : W < 2 ^ 32) : st1 (x ^^^ BitVec.ofNat 32 W) = st1 (x ^^^ (if W.testBit 0 then 1#32 else 0#32)) ^^^ BitVec.ofNat 32 (W >>> 1) := by
  have h1 : BitVec.ofNat 32 W = (if W.testBit 0 then 1#32 else 0#32) ^^^ (BitVec.ofNat 32 (W >>> 1) <<< 1) := by
    apply BitVec.eq_of_getLsbD_eq
    intro i hi
    rw [BitVec.getLsbD_xor, BitVec.getLsbD_ofNat, BitVec.getLsbD_shiftLeft, BitVec.getLsbD_ofNat]
    rcases i with _ | i
    · cases hw : W.testBit 0 <;> simp
    · have h0 : (if W.testBit 0 then 1#32 else 0#32).getLsbD (i + 1) = false := by
        cases W.testBit 0
        · simp
        · simp [BitVec.getLsbD_one]
      rw [h0]
      have : i < 32 := by omega
      simp [hi, this, Nat.testBit_shiftRight, Nat.add_comm]
  rw [h1, ← BitVec.xor_assoc, st1_xor, st1_shl]
  rw [BitVec.getLsbD_ofNat, Nat.testBit_shiftRight, Nat.testBit_lt_two_pow (by omega : W < 2 ^ (1 + 31))]
  simp
theorem crcN_word (m : Nat) : ∀ x W, W < 2 ^ 32 → W < 2 ^ m → crcN m x W = stn m (x ^^^ BitVec.ofNat 32 W) := by
  induction m with
  | zero =>
    intro x W _ h
    obtain rfl : W = 0 := by omega
    simp [crcN, stn]
  | succ m ih =>
    intro x W h32 hm
    simp only [crcN, stn]
    have hh : W >>> 1 < 2 ^ m := by rw [Nat.shiftRight_eq_div_pow]; rw [Nat.pow_succ] at hm; omega
    have h3 : W >>> 1 < 2 ^ 32 := by rw [Nat.shiftRight_eq_div_pow]; omega
    rw [ih _ _ h3 hh, half_step x h32]

/-- bytes as one number, the first byte lowest -/
def leN : List UInt8 → Nat
  | [] => 0
  | b :: l => b.toNat ^^^ (leN l <<< 8)
theorem crcS_leN (l : List UInt8) : ∀ x, crcS x l = crcN (8 * l.length) x (leN l) := by
  induction l with
  | nil => intro x; rfl
  | cons b l ih =>
    intro x
    have hb := b.toNat_lt
    rw [show crcS x (b :: l) = crcS (st8 (x ^^^ bw b)) l from rfl, ih, List.length_cons, show 8 * (l.length + 1) = 8 + 8 * l.length from by omega, crcN_add]
    have h1 : leN (b :: l) >>> 8 = leN l := by
      rw [leN, Nat.shiftRight_xor_distrib, Nat.shiftLeft_shiftRight, Nat.shiftRight_eq_div_pow, Nat.div_eq_of_lt hb, Nat.zero_xor]
    have h2 : crcN 8 x (leN (b :: l)) = st8 (x ^^^ bw b) := by
      have := crcN_xor 8 x 0#32 b.toNat (leN l <<< 8)
      rw [BitVec.xor_zero] at this
      rw [leN, this, show crcN 8 0#32 (leN l <<< 8) = 0#32 from crcN_shl 8 0 (leN l), BitVec.xor_zero, crcN_word 8 x b.toNat (by omega) hb]
      rfl
    rw [h1, h2]
theorem leN_lt (l : List UInt8) : leN l < 2 ^ (8 * l.length) := by
  induction l with
  | nil => simp [leN]
  | cons b l ih =>
    have hb := b.toNat_lt
    rw [leN, List.length_cons]
    refine Nat.xor_lt_two_pow (Nat.lt_of_lt_of_le hb (Nat.pow_le_pow_right (by decide) (by omega))) ?_
    rw [Nat.shiftLeft_eq, show 8 * (l.length + 1) = 8 * l.length + 8 from by omega, Nat.pow_add]
    exact Nat.mul_lt_mul_of_pos_right ih (by decide)
theorem leN_set (l : List UInt8) : ∀ (j : Nat) (hj : j < l.length) (m : UInt8), leN (l.set j (l[j] ^^^ m)) = leN l ^^^ (m.toNat <<< (8 * j)) := by
  induction l with
  | nil => intro j hj; simp at hj
  | cons b l ih =>
    intro j hj m
    rcases j with _ | j
    · simp only [List.set_cons_zero, List.getElem_cons_zero, leN, UInt8.toNat_xor, Nat.mul_zero, Nat.shiftLeft_zero]
      ac_rfl
    · simp only [List.set_cons_succ, List.getElem_cons_succ, leN]
      rw [ih j (by simpa using hj), Nat.shiftLeft_xor_distrib, ← Nat.shiftLeft_add, show 8 * j + 8 = 8 * (j + 1) from by omega]
      ac_rfl
/-- what stands together is found -/
theorem finds {b c : List UInt8} {W p : Nat} (hl : b.length = c.length) (h : leN c = leN b ^^^ (W <<< p)) (hp : p ≤ 8 * b.length) (h0 : W ≠ 0) (h1 : W < 2 ^ 32) (h2 : W < 2 ^ (8 * b.length - p)) (x : W32) : crcS x c ≠ crcS x b := by
  intro he
  rw [crcS_leN, crcS_leN, ← hl, h] at he
  have h3 := crcN_xor (8 * b.length) x 0#32 (leN b) (W <<< p)
  rw [BitVec.xor_zero] at h3
  rw [h3] at he
  have h4 : crcN (8 * b.length) 0#32 (W <<< p) = 0#32 := by
    have := congrArg (fun z => crcN (8 * b.length) x (leN b) ^^^ z) he
    simpa [← BitVec.xor_assoc] using this
  rw [show 8 * b.length = p + (8 * b.length - p) from by omega, crcN_shl, crcN_word _ _ _ h1 h2] at h4
  have h5 := stn_inj _ h4
  rw [BitVec.zero_xor] at h5
  have h6 := congrArg BitVec.toNat h5
  rw [BitVec.toNat_ofNat, Nat.mod_eq_of_lt h1] at h6
  exact h0 h6
theorem crcS_append (x : W32) (a b : List UInt8) : crcS x (a ++ b) = crcS (crcS x a) b := List.foldl_append
theorem extW_append (s : W32) (a b : List UInt8) : extW s (a ++ b) = extW (extW s a) b := by
  unfold extW
  rw [crcS_append, BitVec.not_not]
theorem extW_nil (s : W32) : extW s [] = s := by
  show ~~~ ~~~ s = s
  rw [BitVec.not_not]
theorem extW_inj {s : W32} {b c : List UInt8} (h : crcS (~~~ s) c ≠ crcS (~~~ s) b) : extW s c ≠ extW s b := by
  unfold extW
  intro he
  exact h (by rw [← BitVec.not_not (b := crcS (~~~ s) c), he, BitVec.not_not])
/-- bytes joined by exclusive or -/
def xor3 : List UInt8 → List UInt8 → List UInt8 → List UInt8
  | a :: l, b :: m, c :: n => (a ^^^ b ^^^ c) :: xor3 l m n
  | _, _, _ => []
theorem bw_xor (a b : UInt8) : bw (a ^^^ b) = bw a ^^^ bw b := by
  apply BitVec.eq_of_toNat_eq
  rw [bw_toNat, BitVec.toNat_xor, bw_toNat, bw_toNat, UInt8.toNat_xor]
theorem crcS_xor3 : ∀ (a b c : List UInt8) (x y z : W32), a.length = b.length → b.length = c.length → crcS (x ^^^ y ^^^ z) (xor3 a b c) = crcS x a ^^^ crcS y b ^^^ crcS z c
  | [], [], [], x, y, z, _, _ => rfl
  | a :: l, b :: m, c :: n, x, y, z, h1, h2 => by
    show crcS (st8 (x ^^^ y ^^^ z ^^^ bw (a ^^^ b ^^^ c))) (xor3 l m n) = crcS (st8 (x ^^^ bw a)) l ^^^ crcS (st8 (y ^^^ bw b)) m ^^^ crcS (st8 (z ^^^ bw c)) n
    rw [← crcS_xor3 l m n _ _ _ (by simpa using h1) (by simpa using h2)]
    unfold st8
    rw [← stn_xor, ← stn_xor, bw_xor, bw_xor]
    congr 2
    ac_rfl
theorem not_xor3 (x y z : W32) : ~~~ (x ^^^ y ^^^ z) = ~~~ x ^^^ ~~~ y ^^^ ~~~ z := by
  apply BitVec.eq_of_getLsbD_eq
  intro i hi
  simp only [BitVec.getLsbD_not, BitVec.getLsbD_xor, hi, decide_true, Bool.true_and]
  cases x.getLsbD i <;> cases y.getLsbD i <;> cases z.getLsbD i <;> rfl
theorem sum_xor3 {a b c : List UInt8} (h1 : a.length = b.length) (h2 : b.length = c.length) : sumW (xor3 a b c) = sumW a ^^^ sumW b ^^^ sumW c := by
  unfold sumW extW
  rw [← not_xor3, ← crcS_xor3 _ _ _ _ _ _ h1 h2]
  congr 2

/- values -/
/-- a word as a number, behind a name (the walk's simp would look into it) -/
def wn (x : W32) : Int := (x.toNat : Int)
abbrev wv (x : W32) : Value := .int .u32 (wn x)
theorem and_one (x : W32) : bits .and .u32 (wn x) 1 = ((if x.getLsbD 0 then 1 else 0 : Nat) : Int) := by
  unfold wn
  rw [show (1 : Int) = ((1 : Nat) : Int) from rfl, u32_and_nat _ _ x.isLt (by decide), nat_mask1]
  congr 1
  have : x.getLsbD 0 = decide (x.toNat % 2 = 1) := by rw [← BitVec.testBit_toNat, Nat.testBit_zero]
  rw [this]
  by_cases h : x.toNat % 2 = 1
  · simp [h]
  · simp [h]; omega
theorem xor_wn (x y : W32) : bits .xor .u32 (wn x) (wn y) = wn (x ^^^ y) := by
  unfold wn; rw [u32_xor_nat _ _ x.isLt y.isLt, BitVec.toNat_xor]
theorem shr_wn (x : W32) (k : Nat) : wn x / ((2 ^ k : Nat) : Int) = wn (x >>> k) := by
  unfold wn; rw [BitVec.toNat_ushiftRight, Nat.shiftRight_eq_div_pow]; rfl
theorem xor_P (y : W32) : bits .xor .u32 (wn y) 2197175160 = wn (y ^^^ P32) := xor_wn y P32
theorem half_wn (y : W32) : HDiv.hDiv (α := Int) (β := Int) (wn y) (2 : Int) = wn (y >>> 1) := shr_wn y 1
theorem not_wn (x : W32) : bits .xor .u32 4294967295 (wn x) = wn (~~~ x) := by
  have := xor_wn (BitVec.allOnes 32) x
  rw [BitVec.allOnes_xor] at this
  exact this
theorem mod_wn (y : W32) : HMod.hMod (α := Int) (β := Int) (wn y) (256 : Int) = ((y.toNat % 256 : Nat) : Int) := by
  unfold wn; omega
theorem xor_u8 {a b : Nat} (ha : a < 256) (hb : b < 256) : bits .xor .u8 (a : Int) (b : Int) = ((a ^^^ b : Nat) : Int) := u8_xor_nat a b ha hb
theorem shr8_wn (y : W32) : HDiv.hDiv (α := Int) (β := Int) (wn y) (256 : Int) = wn (y >>> 8) := shr_wn y 8
theorem crcS_drop {l : List UInt8} {k : Nat} (hk : k < l.length) (y : W32) : crcS y (l.drop k) = crcS (st8 (y ^^^ bw l[k])) (l.drop (k + 1)) := by
  rw [List.drop_eq_getElem_cons hk]; rfl
theorem wrap_ofNat {k : Nat} (_h : k < 256) : IntKind.u32.wrap (k : Int) = wn (BitVec.ofNat 32 k) := by
  unfold wn; rw [IntKind.wrap_u32, BitVec.toNat_ofNat]; omega
end Go.Proofs.YtgipfenjachpnaaGreat

namespace Go.Proofs.YtgipfenjachpnaaGreat
open Go.RowKit

theorem race_disable (w : World) : (callFunc 109 #[]).run Tryz.prog w = .ok (.value (.tuple #[])) w := run_call_mark0 Tryz.func109 (by kernel_rfl) (by kernel_rfl) (by kernel_rfl) .disable (by kernel_rfl) w
theorem race_enable (w : World) : (callFunc 111 #[]).run Tryz.prog w = .ok (.value (.tuple #[])) w := run_call_mark0 Tryz.func111 (by kernel_rfl) (by kernel_rfl) (by kernel_rfl) .enable (by kernel_rfl) w
theorem race_acquire (a : Addr) (w : World) : (callFunc 112 #[.pointer (some a)]).run Tryz.prog w = .ok (.value (.tuple #[])) w := run_call_marked Tryz.func112 (by kernel_rfl) (by kernel_rfl) (by kernel_rfl) .acquire (by kernel_rfl) a w
theorem race_merge (a : Addr) (w : World) : (callFunc 114 #[.pointer (some a)]).run Tryz.prog w = .ok (.value (.tuple #[])) w := run_call_marked Tryz.func114 (by kernel_rfl) (by kernel_rfl) (by kernel_rfl) .releaseMerge (by kernel_rfl) a w

/-- '(*sync/atomic.Bool).Store(true)', entered as a deferred call: the cell holds 1. -/
theorem once_store (a : Addr) (x : Value) (u : FrameMode) (w : World) (hc : w.cell? a = some x) (hz : w.frozen? a = false) :
    CallsD Tryz.prog 104 #[.pointer (some a), .bool true] u w fun e u' w' => u' = u ∧ (e = .returned (.tuple #[]) ∧ w' = w.drew.setCell a (.int .u32 1)) := by
  have hc' : w.drew.cell? a = some x := by go_simp
  have hz' : w.drew.frozen? a = false := by go_simp
  have hst := run_call_store (P := Tryz.prog) Tryz.func107 (by kernel_rfl) (by kernel_rfl) (by kernel_rfl) (by kernel_rfl) (k := .u32) (y := 1) hc' hz'
  go_enter_d Tryz.func104, Tryz.ntmps104
  go_wp2
  go_region_calls
  all_goals (go_end0; exact ⟨rfl, rfl⟩)

set_option maxRecDepth 100000 in
set_option maxHeartbeats 1600000 in
/-- '(*sync.Mutex).Unlock', entered as a deferred call, the lock held and nobody waiting (state 1): state 0. -/
theorem once_unlock (a : Addr) (u : FrameMode) (w : World) (hc : w.cell? a = some (.int .i32 1)) (hz : w.frozen? a = false) :
    CallsD Tryz.prog 103 #[.pointer (some a)] u w fun e u' w' => u' = u ∧ (e = .returned (.tuple #[]) ∧ w' = w.setCell a (.int .i32 0)) := by
  have hd := race_disable
  have he := race_enable
  have hr := race_merge
  have hadd := run_call_add (P := Tryz.prog) Tryz.func115 (by kernel_rfl) (by kernel_rfl) (by kernel_rfl) .i32 (by kernel_rfl) (y := -1) (s := 0) hc hz (by simp [go_sem]; rfl)
  have hcv := run_convert_to_unsafe (P := Tryz.prog) (src := 185) (dst := 189) Tryz.underlying185 Tryz.underlying189 (by kernel_rfl) hc
  go_enter_d Tryz.func103, Tryz.ntmps103
  go_wp2
  go_end0
  go_wp2
  go_end0
  exact ⟨rfl, rfl⟩

set_option maxRecDepth 100000 in
set_option maxHeartbeats 1600000 in
/-- '(*sync.Mutex).Lock', the lock free (state 0): state 1. -/
theorem once_lock (a : Addr) (w : World) (hc : w.cell? a = some (.int .i32 0)) (hz : w.frozen? a = false) :
    Calls Tryz.prog 102 #[.pointer (some a)] w fun e w' => e = .returned (.tuple #[]) ∧ w' = w.setCell a (.int .i32 1) := by
  have hd := race_disable
  have he := race_enable
  have ha := race_acquire
  have hcas := run_call_cas_hit (P := Tryz.prog) Tryz.func110 (by kernel_rfl) (by kernel_rfl) (by kernel_rfl) .i32 (by kernel_rfl) (y := 1) hc hz
  have hc' : (w.setCell a (.int .i32 1)).cell? a = some (.int .i32 1) := World.cell?_setCell_same w a _ hc
  have hcv := run_convert_to_unsafe (P := Tryz.prog) (src := 185) (dst := 189) Tryz.underlying185 Tryz.underlying189 (by kernel_rfl) hc'
  go_enter Tryz.func102, Tryz.ntmps102
  go_wp2
  first | go_end0 | (simp only [Exit.inBlock, Exit.then]; refine bodyPost_ret (results_none rfl _ _ _) rfl ?_) | refine bodyPost_ret (results_none rfl _ _ _) rfl ?_
  go_wp2
  go_end0
  exact ⟨rfl, rfl⟩
end Go.Proofs.YtgipfenjachpnaaGreat

namespace Go.Proofs.YtgipfenjachpnaaGreat
open Go.RowKit

set_option maxRecDepth 100000 in
set_option maxHeartbeats 1000000 in
theorem step_any (x : W32) (w : World) : Calls Tryz.prog 100 #[wv x] w fun e w' => e = .returned (wv (st8 x)) ∧ w = w' := by
  go_enter Tryz.func100, Tryz.ntmps100
  go_wp2
  go_loopw [0, 4] (fun v i wr => ∃ (k : Nat) (y : W32), k ≤ 8 ∧ i = .int .i64 k ∧ v = wv y ∧ Hid (st8 x = stn (8 - k) y) ∧ w = wr) (fun v i w => 8 - (intOf i).toNat)
  case atStart => exact ⟨0, x, by omega, rfl, rfl, rfl, rfl⟩
  case round =>
    obtain ⟨k, y, hk, rfl, rfl, hy, rfl⟩ := hrel
    by_cases h8 : k < 8
    · have hst : stn (8 - k) y = stn (8 - (k + 1)) (st1 y) := by rw [show 8 - k = (8 - (k + 1)) + 1 from by omega]; rfl
      cases hb : y.getLsbD 0
      · have e0 := and_one y
        rw [hb] at e0
        simp only [Bool.false_eq_true, if_false] at e0
        have hs : st1 y = y >>> 1 := by unfold st1; rw [hb]; simp
        have HS := Lib.hid hs
        have HT := Lib.hid hst
        clear hs hst hb
        go_wp2
        go_roundw
        case rel => exact ⟨k + 1, y >>> 1, h8, by go_num, congrArg (Value.int .u32) (half_wn y), (show st8 x = _ from by rw [hy.out, HT.out, HS.out]), by trivial⟩
        case measure => simp [intOf]; omega
      · have e0 := and_one y
        rw [hb] at e0
        simp only [if_true] at e0
        have hs : st1 y = (y >>> 1) ^^^ P32 := by unfold st1; rw [hb]; simp
        have HS := Lib.hid hs
        have HT := Lib.hid hst
        clear hs hst hb
        go_wp2
        go_roundw
        case rel => exact ⟨k + 1, (y >>> 1) ^^^ P32, h8, by go_num, congrArg (Value.int .u32) (by rw [half_wn, xor_P]), (show st8 x = _ from by rw [hy.out, HT.out, HS.out]), by trivial⟩
        case measure => simp [intOf]; omega
    · obtain rfl : k = 8 := by omega
      go_wp2
      go_ret
      exact ⟨by rw [hy.out]; rfl, rfl⟩
/-- a maker at block g: d: is its table made · n: how many sums were asked for · k: how many of the table's rows are made -/
def Mk (w : World) (g : Nat) (d s : Int) (n : Int) (k : Nat) : Prop := ∃ cs : Array Value, Blk w g 163 cs ∧ cs.size = 260 ∧ cs[0]? = some (.int .u32 d) ∧ cs[1]? = some (.int .i32 s) ∧ cs[259]? = some (.int .i64 n) ∧
  (∀ i, i < 256 → ∃ v, cs[3 + i]? = some v) ∧ ∀ i, i < k → cs[3 + i]? = some (wv (st8 (BitVec.ofNat 32 i)))

theorem zero_rows : (List.range 256).all (fun i => (Tryz.zeroCells163[3 + i]?).isSome) = true := by kernel_rfl
theorem zero_mk : Tryz.zeroCells163.size = 260 ∧ Tryz.zeroCells163[0]? = some (.int .u32 0) ∧ Tryz.zeroCells163[1]? = some (.int .i32 0) ∧ Tryz.zeroCells163[259]? = some (.int .i64 0) ∧
    (∀ i, i < 256 → ∃ v, Tryz.zeroCells163[3 + i]? = some v) ∧ ∀ i, i < 0 → Tryz.zeroCells163[3 + i]? = some (wv (st8 (BitVec.ofNat 32 i))) :=
  ⟨by kernel_rfl, by kernel_rfl, by kernel_rfl, by kernel_rfl, fun i hi => Option.isSome_iff_exists.1 (List.all_eq_true.1 zero_rows i (List.mem_range.2 hi)), fun i hi => absurd hi (by omega)⟩
set_option maxRecDepth 100000 in
set_option maxHeartbeats 1000000 in
theorem New_any (w : World) : Calls Tryz.prog 65 #[] w fun e w' => e = .returned (.pointer (some ⟨w.heap.size, 0, none⟩)) ∧ Mk w' w.heap.size 0 0 0 0 ∧ Below w.heap.size w w' := by
  go_enter Tryz.func65, Tryz.ntmps65
  go_wp2
  go_ret
  refine ⟨rfl, ⟨_, Blk.new _ _ _, ?_⟩, below_new _ _⟩
  exact zero_mk
theorem Mk.lt {w : World} {g k : Nat} {d s n : Int} (h : Mk w g d s n k) : g < w.heap.size := by obtain ⟨cs, hB, _⟩ := h; exact hB.lt
/-- a store into the table -/
theorem Mk.row {w : World} {g k : Nat} {d s n : Int} (h : Mk w g d s n k) (hk : k < 256) : Mk (w.setCell ⟨g, 3 + k, none⟩ (wv (st8 (BitVec.ofNat 32 k)))) g d s n (k + 1) := by
  obtain ⟨cs, hB, hs, h0, h1, h9, hr, ht⟩ := h
  refine ⟨_, hB.set_ _ _, by simpa using hs, ?_, ?_, ?_, ?_, ?_⟩
  · rw [Array.getElem?_setIfInBounds_ne (by omega)]; exact h0
  · rw [Array.getElem?_setIfInBounds_ne (by omega)]; exact h1
  · rw [Array.getElem?_setIfInBounds_ne (by omega)]; exact h9
  · intro i hi
    by_cases he : k = i
    · subst he; exact ⟨_, Array.getElem?_setIfInBounds_self_of_lt (by omega)⟩
    · rw [Array.getElem?_setIfInBounds_ne (by omega)]; exact hr i hi
  · intro i hi
    by_cases he : k = i
    · subst he; exact Array.getElem?_setIfInBounds_self_of_lt (by omega)
    · rw [Array.getElem?_setIfInBounds_ne (by omega)]; exact ht i (by omega)
theorem Mk.drew {w : World} {g k : Nat} {d s n : Int} (h : Mk w g d s n k) : Mk w.drew g d s n k := h
theorem Mk.cell {w : World} {g k : Nat} {d s n : Int} (h : Mk w g d s n k) : w.cell? ⟨g, 0, none⟩ = some (.int .u32 d) ∧ w.cell? ⟨g, 1, none⟩ = some (.int .i32 s) ∧ w.cell? ⟨g, 259, none⟩ = some (.int .i64 n) ∧ w.frozen? ⟨g, 0, none⟩ = false ∧ w.frozen? ⟨g, 1, none⟩ = false ∧ w.frozen? ⟨g, 259, none⟩ = false ∧
    (∀ i, i < 256 → ∃ v, w.cell? ⟨g, 3 + i, none⟩ = some v) ∧ (∀ i, w.frozen? ⟨g, i, none⟩ = false) := by
  obtain ⟨cs, hB, hs, h0, h1, h9, hr, ht⟩ := h
  exact ⟨(hB.cell 0).trans h0, (hB.cell 1).trans h1, (hB.cell 259).trans h9, hB.frozen 0, hB.frozen 1, hB.frozen 259, fun i hi => (hr i hi).imp fun v hv => (hB.cell _).trans hv, fun i => hB.frozen i⟩
theorem Mk.at {w : World} {g k : Nat} {d s n : Int} (h : Mk w g d s n k) {i : Nat} (hi : i < k) : w.cell? ⟨g, 3 + i, none⟩ = some (wv (st8 (BitVec.ofNat 32 i))) := by
  obtain ⟨cs, hB, hs, h0, h1, h9, hr, ht⟩ := h
  exact (hB.cell _).trans (ht i hi)

/-- only block g is written, and new ones -/
abbrev But (g : Nat) (w w' : World) : Prop := w.grownBy w' (some g)
theorem But.set {g : Nat} {w w' : World} (h : But g w w') (i : Nat) (v : Value) : But g w (w'.setCell ⟨g, i, none⟩ v) :=
  ⟨h.os, h.tape, h.output, by simpa [World.setCell] using h.size, fun k hk hne => (Below.heap_setCell w' ⟨g, i, none⟩ v k (fun e => hne (by rw [e]))).trans (h.block k hk hne)⟩
theorem But.refl (g : Nat) (w : World) : But g w w := World.grownBy.refl w _
theorem But.drew {g : Nat} {w w' : World} (h : But g w w') : But g w w'.drew := ⟨h.os, h.tape, h.output, h.size, h.block⟩
theorem But.alloc {g : Nat} {w w' : World} (h : But g w w') (o : Obj) : But g w (w'.alloc o) := h.trans (World.grownBy_alloc _ _ _)

set_option maxRecDepth 100000 in
set_option maxHeartbeats 1000000 in
theorem fill_any (g : Nat) (d s n : Int) (w : World) (hM : Mk w g d s n 0) : Calls Tryz.prog 96 #[.pointer (some ⟨g, 0, none⟩)] w fun e w' => e = .returned (.tuple #[]) ∧ Mk w' g d s n 256 ∧ But g w w' := by
  go_enter Tryz.func96, Tryz.ntmps96
  go_wp2
  go_loopw [3] (fun i wr => ∃ k : Nat, k ≤ 256 ∧ i = .int .i64 k ∧ Mk wr g d s n k ∧ But g w wr) (fun i w => 256 - (intOf i).toNat)
  case atStart => exact ⟨0, by omega, rfl, hM, But.refl _ _⟩
  case round =>
    obtain ⟨k, hk, rfl, hMk, hBut⟩ := hrel
    by_cases h : k < 256
    · obtain ⟨v, hv⟩ := (hMk.cell).2.2.2.2.2.2.1 k h
      have hf := (hMk.cell).2.2.2.2.2.2.2 (3 + k)
      have hrow := hMk.row h
      have hwr := wrap_ofNat h
      generalize BitVec.ofNat 32 k = x at hrow hwr
      have HR := Lib.hid hrow
      clear hrow
      go_wp2
      refine wp_region_held_drew (S := (fun _ => True)) (by kernel_rfl) ?_ (fun hHeld => ?_)
      · first | done | trivial
      refine wpAnyH_take (i := 0) (oi := ⟨some 6, _, _, _, _, _⟩) (v := ?_) rfl (by kernel_rfl) (by kernel_rfl) (by kernel_rfl) (fun _ _ _ h => h) (Or.inl ⟨by kernel_rfl, ?_⟩) (by assumption) ?_
      rotate_left
      · (intro wS hSw; (try dsimp only at hSw); go_simp; (try with_reducible rfl))
      (try simp only [Act.put, List.setIfInBounds_toArray, List.set_cons_zero, List.set_cons_succ])
      refine wpAnyH_take (i := 1) (oi := ⟨some 7, _, _, _, _, _⟩) (v := ?_) rfl (by kernel_rfl) (by kernel_rfl) (by kernel_rfl) (fun _ _ _ h => h) (Or.inl ⟨by kernel_rfl, ?_⟩) (by assumption) ?_
      rotate_left
      · (intro wS hSw; (try dsimp only at hSw); go_simp; (try with_reducible rfl))
      (try simp only [Act.put, List.setIfInBounds_toArray, List.set_cons_zero, List.set_cons_succ])
      refine wpAnyH_take (i := 2) (oi := ⟨some 8, _, _, _, _, _⟩) (v := ?_) rfl (by kernel_rfl) (by kernel_rfl) (by kernel_rfl) (fun _ _ _ h => h) (Or.inl ⟨by kernel_rfl, ?_⟩) (by assumption) ?_
      rotate_left
      · (intro wS hSw; (try dsimp only at hSw); go_simp; (try with_reducible rfl))
      (try simp only [Act.put, List.setIfInBounds_toArray, List.set_cons_zero, List.set_cons_succ])
      refine wpAnyH_take (i := 3) (oi := ⟨some 9, _, _, _, _, _⟩) (v := ?_) rfl (by kernel_rfl) (by kernel_rfl) (by kernel_rfl) (fun _ _ _ h => h) (Or.inl ⟨by kernel_rfl, ?_⟩) (by assumption) ?_
      rotate_left
      · (intro wS hSw; (try dsimp only at hSw); go_simp; (try with_reducible rfl))
      (try simp only [Act.put, List.setIfInBounds_toArray, List.set_cons_zero, List.set_cons_succ])
      refine wpAnyH_take (i := 5) (oi := ⟨some 11, _, _, _, _, _⟩) (v := ?_) rfl (by kernel_rfl) (by kernel_rfl) (by kernel_rfl) (fun _ _ _ h => h) (Or.inl ⟨by kernel_rfl, ?_⟩) (by assumption) ?_
      rotate_left
      · (intro wS hSw; (try dsimp only at hSw); go_simp; (try with_reducible rfl))
      (try simp only [Act.put, List.setIfInBounds_toArray, List.set_cons_zero, List.set_cons_succ])
      refine wpAnyH_take (i := 6) (oi := ⟨some 12, _, _, _, _, _⟩) (v := ?_) rfl (by kernel_rfl) (by kernel_rfl) (by kernel_rfl) (fun _ _ _ h => h) (Or.inl ⟨by kernel_rfl, ?_⟩) (by assumption) ?_
      rotate_left
      · (intro wS hSw; (try dsimp only at hSw); go_simp; (try with_reducible rfl))
      (try simp only [Act.put, List.setIfInBounds_toArray, List.set_cons_zero, List.set_cons_succ])
      refine wpAnyH_ready (rs := [4]) (by kernel_rfl) (by simp) ?_
      refine AllReadyH.cons (o := ⟨some 10, _, _, _, _, _⟩) rfl (fun K hK => ?_) AllReadyH.nil
      go_simp
      (refine (step_any x _).mono ?_; rintro e w9 ⟨rfl, rfl⟩)
      go_wp2_with fail
      refine hK.out _ _ ?_ (fun hHeld => ?_)
      · ((try dsimp only); (first | done | trivial))
      clear hK K
      (try simp only [Act.put, List.setIfInBounds_toArray, List.set_cons_zero, List.set_cons_succ])
      refine wpAnyH_take (i := 7) (oi := ⟨some 13, _, _, _, _, _⟩) (v := ?_) rfl (by kernel_rfl) (by kernel_rfl) (by kernel_rfl) (fun _ _ _ h => h) (Or.inl ⟨by kernel_rfl, ?_⟩) (by assumption) ?_
      rotate_left
      · (intro wS hSw; (try dsimp only at hSw); go_simp; (try with_reducible rfl))
      (try simp only [Act.put, List.setIfInBounds_toArray, List.set_cons_zero, List.set_cons_succ])
      refine wpAnyH_ready (rs := [8]) (by kernel_rfl) (by simp) ?_
      refine AllReadyH.cons (o := ⟨none, _, _, _, _, _⟩) rfl (fun K hK => ?_) AllReadyH.nil
      go_simp
      refine hK.out _ _ ?_ (fun hHeld => ?_)
      · ((try dsimp only); (first | done | trivial))
      clear hK K
      (try simp only [Act.put, List.setIfInBounds_toArray, List.set_cons_zero, List.set_cons_succ])
      refine wpAnyH_done (by kernel_rfl) ?_ _
      go_wp2
      go_roundw
      case rel => exact ⟨k + 1, h, by go_num, HR.out, (hBut.set _ _).drew⟩
      case measure => simp [intOf]; omega
    · obtain rfl : k = 256 := by omega
      go_wp2
      go_end0
      exact ⟨rfl, hMk, hBut⟩
theorem Mk.set0 {w : World} {g k : Nat} {d s n : Int} (h : Mk w g d s n k) (x : Int) : Mk (w.setCell ⟨g, 0, none⟩ (.int .u32 x)) g x s n k := by
  obtain ⟨cs, hB, hs, h0, h1, h9, hr, ht⟩ := h
  refine ⟨_, hB.set_ _ _, by simpa using hs, Array.getElem?_setIfInBounds_self_of_lt (by omega), ?_, ?_, fun i hi => ?_, fun i hi => ?_⟩
  · rw [Array.getElem?_setIfInBounds_ne (by omega)]; exact h1
  · rw [Array.getElem?_setIfInBounds_ne (by omega)]; exact h9
  · rw [Array.getElem?_setIfInBounds_ne (by omega)]; exact hr i hi
  · rw [Array.getElem?_setIfInBounds_ne (by omega)]; exact ht i hi
theorem Mk.set1 {w : World} {g k : Nat} {d s n : Int} (h : Mk w g d s n k) (x : Int) : Mk (w.setCell ⟨g, 1, none⟩ (.int .i32 x)) g d x n k := by
  obtain ⟨cs, hB, hs, h0, h1, h9, hr, ht⟩ := h
  refine ⟨_, hB.set_ _ _, by simpa using hs, ?_, Array.getElem?_setIfInBounds_self_of_lt (by omega), ?_, fun i hi => ?_, fun i hi => ?_⟩
  · rw [Array.getElem?_setIfInBounds_ne (by omega)]; exact h0
  · rw [Array.getElem?_setIfInBounds_ne (by omega)]; exact h9
  · rw [Array.getElem?_setIfInBounds_ne (by omega)]; exact hr i hi
  · rw [Array.getElem?_setIfInBounds_ne (by omega)]; exact ht i hi
theorem Mk.set9 {w : World} {g k : Nat} {d s n : Int} (h : Mk w g d s n k) (hk : k ≤ 256) (x : Int) : Mk (w.setCell ⟨g, 259, none⟩ (.int .i64 x)) g d s x k := by
  obtain ⟨cs, hB, hs, h0, h1, h9, hr, ht⟩ := h
  refine ⟨_, hB.set_ _ _, by simpa using hs, ?_, ?_, Array.getElem?_setIfInBounds_self_of_lt (by omega), fun i hi => ?_, fun i hi => ?_⟩
  · rw [Array.getElem?_setIfInBounds_ne (by omega)]; exact h0
  · rw [Array.getElem?_setIfInBounds_ne (by omega)]; exact h1
  · rw [Array.getElem?_setIfInBounds_ne (by omega)]; exact hr i hi
  · rw [Array.getElem?_setIfInBounds_ne (by omega)]; exact ht i (by omega)

set_option maxRecDepth 100000 in
set_option maxHeartbeats 1600000 in
theorem slow_any (g : Nat) (n : Int) (w : World) (hM : Mk w g 0 0 n 0) :
    Calls Tryz.prog 99 #[.pointer (some ⟨g, 0, none⟩), .func (.func 96) #[.pointer (some ⟨g, 0, none⟩)] #[]] w fun e w' => e = .returned (.tuple #[]) ∧ Mk w' g 1 0 n 256 ∧ But g w w' := by
  obtain ⟨h0, h1, _, f0, f1, _, _, _⟩ := hM.cell
  have hl := run_call_load (P := Tryz.prog) Tryz.func101 (by kernel_rfl) (by kernel_rfl) (by kernel_rfl) .u32 (by kernel_rfl) (w := w.setCell ⟨g, 1, none⟩ (.int .i32 1)) (a := ⟨g, 0, none⟩) (x := 0) ((World.cell?_setCell_other _ ⟨g, 1, none⟩ ⟨g, 0, none⟩ _ (by simp)).trans h0)
  have hnot : ∀ (x : Bool) (w : World), (Op.unary .not (.bool x)).run Tryz.prog w = .ok (.bool (!x)) w := fun _ _ => rfl
  go_enter_defers Tryz.func99, Tryz.ntmps99
  go_wp2_with (go_at_call 102; refine (once_lock ⟨g, 1, none⟩ _ (by go_simp) (by go_simp)).mono ?_; rintro e w' ⟨rfl, rfl⟩)
  have hM1 := hM.set1 1
  go_wp2_with (first | (go_at_call 96; refine (fill_any g 0 1 n _ hM1).mono ?_; rintro e w1 ⟨rfl, hM2, hB2⟩) | (go_at_call 98; go_in))
  obtain ⟨c0, _, _, z0, z1, _, _, _⟩ := hM2.cell
  refine leaves_cons (f := 104) (args := #[.pointer (some ⟨g, 0, none⟩), .bool true]) (by simp) (by simp [go_sem]) ?_
  refine (once_store ⟨g, 0, none⟩ (.int .u32 0) .returning _ c0 z0).mono ?_
  rintro e u' w2 ⟨rfl, rfl, rfl⟩
  have hM3 := hM2.drew.set0 1
  obtain ⟨_, c1, _, _, z1, _, _, _⟩ := hM3.cell
  refine leaves_cons (f := 103) (args := #[.pointer (some ⟨g, 1, none⟩)]) (by simp [settle]) (by simp [go_sem]) ?_
  refine (once_unlock ⟨g, 1, none⟩ _ _ c1 z1).mono ?_
  rintro e u' w3 ⟨rfl, rfl, rfl⟩
  have hM4 := hM3.set1 0
  exact ⟨_, results_none rfl _ _ _, rfl, hM4, But.set (But.set (But.drew (World.grownBy.trans (But.set (But.refl g w) _ _) hB2)) _ _) _ _⟩

set_option maxRecDepth 100000 in
set_option maxHeartbeats 1600000 in
theorem do_first (g : Nat) (n : Int) (w : World) (hM : Mk w g 0 0 n 0) :
    Calls Tryz.prog 95 #[.pointer (some ⟨g, 0, none⟩), .func (.func 96) #[.pointer (some ⟨g, 0, none⟩)] #[]] w fun e w' => e = .returned (.tuple #[]) ∧ Mk w' g 1 0 n 256 ∧ But g w w' := by
  obtain ⟨h0, _, _, _, _, _, _, _⟩ := hM.cell
  have hl := run_call_load (P := Tryz.prog) Tryz.func101 (by kernel_rfl) (by kernel_rfl) (by kernel_rfl) .u32 (by kernel_rfl) h0
  have hnot : ∀ (x : Bool) (w : World), (Op.unary .not (.bool x)).run Tryz.prog w = .ok (.bool (!x)) w := fun _ _ => rfl
  go_enter Tryz.func95, Tryz.ntmps95
  go_wp2_with (first | (go_at_call 99; refine (slow_any g n _ hM).mono ?_; rintro e w1 ⟨rfl, hM2, hB2⟩) | (go_at_call 98; go_in))
  go_end0
  exact ⟨rfl, hM2, hB2⟩
theorem do_done (g : Nat) (s n : Int) (fv : Value) (w : World) (hM : Mk w g 1 s n 256) :
    Calls Tryz.prog 95 #[.pointer (some ⟨g, 0, none⟩), fv] w fun e w' => e = .returned (.tuple #[]) ∧ w = w' := by
  obtain ⟨h0, _, _, _, _, _, _, _⟩ := hM.cell
  have hl := run_call_load (P := Tryz.prog) Tryz.func101 (by kernel_rfl) (by kernel_rfl) (by kernel_rfl) .u32 (by kernel_rfl) h0
  have hnot : ∀ (x : Bool) (w : World), (Op.unary .not (.bool x)).run Tryz.prog w = .ok (.bool (!x)) w := fun _ _ => rfl
  go_enter Tryz.func95, Tryz.ntmps95
  go_wp2
  go_end0
  exact ⟨rfl, rfl⟩
/-- a maker, its table made or not -/
def Mkr (w : World) (g : Nat) (n : Int) : Prop := Mk w g 0 0 n 0 ∨ Mk w g 1 0 n 256
theorem do_any (g : Nat) (n : Int) (w : World) (hM : Mkr w g n) :
    Calls Tryz.prog 95 #[.pointer (some ⟨g, 0, none⟩), .func (.func 96) #[.pointer (some ⟨g, 0, none⟩)] #[]] w fun e w' => e = .returned (.tuple #[]) ∧ Mk w' g 1 0 n 256 ∧ But g w w' := by
  rcases hM with hM | hM
  · exact do_first g n w hM
  · refine (do_done g 0 n _ w hM).mono ?_
    rintro e w1 ⟨rfl, rfl⟩
    exact ⟨rfl, hM, But.refl _ _⟩
theorem SlB.but {w w' : World} {A : Option Addr} {c g : Nat} {l : List UInt8} (h : SlB w A c l) (hb : But g w w') (hA : l ≠ [] → A.map (·.block) ≠ some g) : SlB w' A c l := by
  refine ⟨h.1, h.2.1, h.2.2.1, h.2.2.2.1, fun j u hj => ?_⟩
  obtain ⟨ad, hA2, hc⟩ := h.2.2.2.2 j u hj
  have hne : l ≠ [] := by intro e; rw [e] at hj; simp at hj
  subst hA2
  exact ⟨ad, rfl, hb.cell hc (by rw [addr_add_block]; exact hA hne)⟩
end Go.Proofs.YtgipfenjachpnaaGreat
