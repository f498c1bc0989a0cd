/- WHAT IT HOLDS: signed numbers' numbers, plainly (no program). | WHAT IT HOLDS: what is put is taken as it was, of the reader's plain functions (no program). | WHAT IT HOLDS: a run that was put is taken as it was, and what is taken has just those bytes, plainly (no program). | WHAT IT HOLDS: one frame, put and taken, plainly (no program). | WHAT IT HOLDS: a segment that was put is taken as it was, what is taken has just those bytes, and a segment is its parts, joined; plainly (no program). -/
import Derived.Test.YtgipfenjachpnaaCellTakesG02
import Derived.Lib.Zigzag
import Derived.Test.YtgipfenjachpnaaCellTakesG03
import Derived.Test.YtgipfenjachpnaaCellTakesG13
import Derived.Test.YtgipfenjachpnaaCellTakesG01
import Derived.Test.YtgipfenjachpnaaCellTakesG16
namespace Go.Proofs.Ytgipfenjachpnaa
open Go.RowKit

/-- a signed number's number, and back -/
def zz (n : Int) : Nat := if 0 ≤ n then (2 * n).toNat else (-2 * n - 1).toNat
def zb (u : Nat) : Int := if u % 2 = 0 then (u / 2 : Nat) else -((u / 2 : Nat) : Int) - 1
theorem zz_u64 {n : Int} (h : I64 n) : U64 (zz n) := by
  unfold I64 at h
  unfold U64 zz
  split <;> omega
theorem zz_zb (u : Nat) : zz (zb u) = u := by
  unfold zz zb
  split <;> split <;> omega
theorem zig_val {n : Int} (h : I64 n) : bits BinOp.xor IntKind.u64 (IntKind.u64.wrap (IntKind.u64.wrap n * 2)) (IntKind.u64.wrap (n / 9223372036854775808)) = ((zz n : Nat) : Int) := by
  unfold I64 at h
  unfold zz
  rw [IntKind.wrap_u64, IntKind.wrap_u64, IntKind.wrap_u64]
  by_cases h0 : 0 ≤ n
  · rw [if_pos h0, show n % 18446744073709551616 * 2 % 18446744073709551616 = (((2 * n).toNat : Nat) : Int) from by omega, show n / 9223372036854775808 % 18446744073709551616 = ((0 : Nat) : Int) from by omega,
      bits_xor_u64_nat _ _ (by omega) (by omega), Nat.xor_zero]
  · rw [if_neg h0, show n % 18446744073709551616 * 2 % 18446744073709551616 = (((2 * n + 18446744073709551616).toNat : Nat) : Int) from by omega,
      show n / 9223372036854775808 % 18446744073709551616 = ((18446744073709551615 : Nat) : Int) from by omega, bits_xor_u64_nat _ _ (by omega) (by omega), Nat.xor_comm]
    have := Lib.xor_ones64 (2 * n + 18446744073709551616).toNat (by omega)
    rw [show (18446744073709551615 : Nat) = 2 ^ 64 - 1 from by decide, this]
    omega
theorem wrap64_of {n : Int} (h : I64 n) : wrap64 n = n := IntWalk.wrap64_in n h
theorem zag_val {n : Nat} (h : U64 n) : bits BinOp.xor IntKind.i64 (wrap64 ((n : Int) / 2)) (wrap64 (-wrap64 (bits BinOp.and IntKind.u64 (n : Int) 1))) = zb n := by
  unfold U64 at h
  unfold zb
  rw [Lib.u64_and1 _ (by omega) (by omega), wrap64_of (n := (n : Int) / 2) (by unfold I64; omega), wrap64_of (n := (n : Int) % 2) (by unfold I64; omega), wrap64_of (n := -((n : Int) % 2)) (by unfold I64; omega)]
  by_cases h0 : n % 2 = 0
  · rw [if_pos h0, show -((n : Int) % 2) = 0 from by omega]
    show IntKind.i64.wrap ((BitVec.ofInt 64 ((n : Int) / 2) ^^^ BitVec.ofInt 64 0).toNat : Int) = _
    rw [show BitVec.ofInt 64 0 = 0#64 from rfl, BitVec.xor_zero, show (n : Int) / 2 = ((n / 2 : Nat) : Int) from by omega, BitVec.ofInt_natCast, BitVec.toNat_ofNat, IntKind.wrap_i64]
    omega
  · rw [if_neg h0, show -((n : Int) % 2) = -1 from by omega]
    have e := Lib.i64_not (n / 2) (by omega)
    have hc : bits .xor .i64 ((n : Int) / 2) (-1) = bits .xor .i64 (-1) ((n / 2 : Nat) : Int) := by
      show IntKind.i64.wrap ((BitVec.ofInt 64 ((n : Int) / 2) ^^^ BitVec.ofInt 64 (-1)).toNat : Int) = IntKind.i64.wrap ((BitVec.ofInt 64 (-1) ^^^ BitVec.ofInt 64 ((n / 2 : Nat) : Int)).toNat : Int)
      rw [BitVec.xor_comm, show (n : Int) / 2 = ((n / 2 : Nat) : Int) from by omega]
    rw [hc, e]
theorem zig_pos {n : Int} (h : I64 n) (h0 : 0 ≤ n) : IntKind.u64.wrap (2 * IntKind.u64.wrap n) = ((zz n : Nat) : Int) := by
  unfold I64 at h
  unfold zz
  rw [if_pos h0, IntKind.wrap_u64, IntKind.wrap_u64]
  omega
theorem zig_neg {n : Int} (h : I64 n) (h0 : n < 0) : ∃ p q r s, wrap64 (n + 1) = p ∧ wrap64 (-p) = q ∧ IntKind.u64.wrap q = r ∧ IntKind.u64.wrap (2 * r) = s ∧ IntKind.u64.wrap (s + 1) = ((zz n : Nat) : Int) := by
  refine ⟨_, _, _, _, rfl, rfl, rfl, rfl, ?_⟩
  unfold I64 at h
  unfold zz
  rw [if_neg (by omega), wrap64_of (n := n + 1) (by unfold I64; omega), wrap64_of (n := -(n + 1)) (by unfold I64; omega), IntKind.wrap_u64, IntKind.wrap_u64, IntKind.wrap_u64]
  omega
theorem zag_even {u : Nat} (h : U64 u) (h0 : u % 2 = 0) : ∃ a, IntKind.u64.wrap ((u : Int) / 2) = a ∧ wrap64 a = zb u := by
  refine ⟨_, rfl, ?_⟩
  unfold U64 at h
  unfold zb
  rw [if_pos h0, IntKind.wrap_u64, wrap64_of (by unfold I64; omega)]
  omega
theorem zag_odd {u : Nat} (h : U64 u) (h0 : ¬ u % 2 = 0) : ∃ a b d, IntKind.u64.wrap ((u : Int) / 2) = a ∧ wrap64 a = b ∧ wrap64 (-b) = d ∧ wrap64 (d - 1) = zb u := by
  refine ⟨_, _, _, rfl, rfl, rfl, ?_⟩
  unfold U64 at h
  unfold zb
  rw [if_neg h0, IntKind.wrap_u64, wrap64_of (n := (u : Int) / 2 % 18446744073709551616) (by unfold I64; omega), wrap64_of (n := -((u : Int) / 2 % 18446744073709551616)) (by unfold I64; omega),
    wrap64_of (n := -((u : Int) / 2 % 18446744073709551616) - 1) (by unfold I64; omega)]
  omega
end Go.Proofs.Ytgipfenjachpnaa

namespace Go.Proofs.Ytgipfenjachpnaa
open Go.RowKit

theorem rNum_vb {n : Nat} (h : U64 n) (r : List UInt8) : rNum (vb n ++ r, 0) = (n, (r, 0)) := by
  unfold rNum
  rw [if_neg (by simp)]
  simp only [take_vb h r, List.drop_left]
theorem rCount_vb {n : Nat} (h : U64 n) {most : Int} (hm : (n : Int) ≤ most) (r : List UInt8) : rCount most (vb n ++ r, 0) = (n, (r, 0)) := by
  unfold rCount
  rw [rNum_vb h, if_neg (by simp), if_neg (by simp only [gt_iff_lt]; omega)]
theorem rNums_vbs : ∀ {l : List Nat}, (∀ n ∈ l, U64 n) → ∀ r, rNums l.length (vbs l ++ r, 0) = (l, (r, 0))
  | [], _, r => rfl
  | n :: l, h, r => by
    have h1 := rNums_vbs (l := l) (fun k hk => h k (by simp [hk])) r
    simp only [vbs, List.flatMap_cons, List.append_assoc, List.length_cons] at h1 ⊢
    unfold rNums
    rw [rNum_vb (h n (by simp)), if_neg (by simp), h1, if_neg (by simp)]
theorem rList_lb {l : List Nat} (h : ∀ n ∈ l, U64 n) (hl : U64 l.length) {most : Int} (hm : (l.length : Int) ≤ most) (r : List UInt8) : rList most (lb l ++ r, 0) = (l, (r, 0)) := by
  unfold rList lb
  rw [List.append_assoc, rCount_vb hl hm, rNums_vbs h]
theorem rFixed_all (t r : List UInt8) : rFixed (t.length : Int) (t ++ r, 0) = (t, (r, 0)) := by
  unfold rFixed
  rw [if_neg (by simp), if_neg (by simp; omega)]
  simp
theorem rText_tb {t : List UInt8} (h : U64 t.length) {most : Int} (hm : (t.length : Int) ≤ most) (r : List UInt8) : rText most (vb t.length ++ (t ++ r), 0) = (t, (r, 0)) := by
  unfold rText
  rw [rCount_vb h hm, rFixed_all]
theorem zb_i64 {u : Nat} (h : U64 u) : I64 (zb u) := by
  unfold U64 at h
  unfold zb I64
  split <;> omega
end Go.Proofs.Ytgipfenjachpnaa

namespace Go.Proofs.Ytgipfenjachpnaa
open Go.RowKit

theorem rowGo_take {k : Int} : ∀ {l : List Ce}, (∀ c ∈ l, cchk c = 0) → l.take (rowGo k l) = List.replicate (rowGo k l) (k, [])
  | [], _ => rfl
  | c :: r, h => by
    unfold rowGo
    by_cases hc : c.1 ≠ 1 ∧ c.1 = k
    · rw [if_pos hc, List.take_succ_cons, List.replicate_succ, rowGo_take fun x hx => h x (by simp [hx])]
      have h2 := (cchk_ok (h c (by simp))).2.2.2 hc.1
      obtain ⟨c1, c2⟩ := c
      dsimp only at hc h2
      rw [h2, hc.2]
    · rw [if_neg hc]; rfl
theorem rowGo_next {k : Int} : ∀ {l : List Ce} {c : Ce} {r : List Ce}, l.drop (rowGo k l) = c :: r → ¬ (c.1 ≠ 1 ∧ c.1 = k)
  | [], c, r, h => by simp [rowGo] at h
  | x :: l, c, r, h => by
    unfold rowGo at h
    by_cases hc : x.1 ≠ 1 ∧ x.1 = k
    · rw [if_pos hc, List.drop_succ_cons] at h
      exact rowGo_next h
    · rw [if_neg hc] at h
      simp only [List.drop_zero, List.cons.injEq] at h
      rw [← h.1]; exact hc
theorem rowGo_repB {k : Int} {cs : List Ce} (hk : k ≠ 1) (h : ∀ c r, cs = c :: r → ¬ (c.1 ≠ 1 ∧ c.1 = k)) : ∀ n, rowGo k (List.replicate n (k, []) ++ cs) = n
  | 0 => by
    cases cs with
    | nil => rfl
    | cons c r => simp only [List.replicate_zero, List.nil_append, rowGo]; rw [if_neg (h c r rfl)]
  | n + 1 => by
    rw [List.replicate_succ, List.cons_append, rowGo, if_pos ⟨hk, rfl⟩, rowGo_repB hk h n]
/-- the row ahead is not of the next one's kind -/
def Kd (kind : Nat) (cs : List Ce) : Prop := ∀ c r, cs = c :: r → c.1 ≠ 1 → c.1 ≠ (kind : Int)
theorem rWithin_vb {k m : Nat} (h : U64 k) (hk : k ≤ m) (hk2 : k ≤ 4611686018427387904) (r : List UInt8) : rWithin m (vb k ++ r, 0) = (k, (r, 0)) := by
  unfold rWithin
  rw [rNum_vb h, if_neg (by simp only [gt_iff_lt]; omega)]
theorem u64_of {n : Nat} (h : n ≤ 1000000) : U64 n := by unfold U64; omega
theorem tk_put : ∀ (N : Nat) (cs : List Ce) (t : Tk) (rest : List UInt8), cs.length ≤ N → (∀ c ∈ cs, cchk c = 0) → cs.length ≤ 64 → t.last.length ≤ 64 → t.left = cs.length → t.s = (prun t.last cs ++ rest, 0) → Kd t.kind cs → (tkEnd t).out = t.out ++ cs ∧ (tkEnd t).s = (rest, 0)
  | N, [], t, rest, _, _, _, _, hl, hs, _ => by
    rw [tkEnd_stop (.inl (by simpa using hl)), hs]
    simp [prun]
  | 0, c :: r, _, _, hN, _, _, _, _, _, _ => by simp at hN
  | N + 1, c :: r, t, rest, hN, hok, h64, hlast, hl, hs, hK => by
    have hs0 : t.s.2 = 0 := by rw [hs]
    have hc := hok c (by simp)
    obtain ⟨k0, k3, hc64, hcd⟩ := cchk_ok hc
    rw [tkEnd_step (by rw [hl]; simp) hs0]
    simp only [List.length_cons] at hN h64
    by_cases hd : c.1 = 1
    · have hz := rowN_zero (c := c) (r := r) |>.2 hd
      rw [prun_data hz] at hs
      simp only [List.append_assoc] at hs
      have hcp := cpl_le t.last c.2
      have e1 : rNum t.s = (0, (vb c.2.length ++ (vb (cpl t.last c.2) ++ (c.2.drop (cpl t.last c.2) ++ (prun c.2 r ++ rest))), 0)) := by rw [hs, rNum_vb (u64_of (by omega))]
      have e2 : rNum (vb c.2.length ++ (vb (cpl t.last c.2) ++ (c.2.drop (cpl t.last c.2) ++ (prun c.2 r ++ rest))), 0) = (c.2.length, (vb (cpl t.last c.2) ++ (c.2.drop (cpl t.last c.2) ++ (prun c.2 r ++ rest)), 0)) := rNum_vb (u64_of (by omega)) _
      have e3 : rNum (vb (cpl t.last c.2) ++ (c.2.drop (cpl t.last c.2) ++ (prun c.2 r ++ rest)), 0) = (cpl t.last c.2, (c.2.drop (cpl t.last c.2) ++ (prun c.2 r ++ rest), 0)) := rNum_vb (u64_of (by omega)) _
      have e5 : rFixed ((c.2.length - cpl t.last c.2 : Nat) : Int) (c.2.drop (cpl t.last c.2) ++ (prun c.2 r ++ rest), 0) = (c.2.drop (cpl t.last c.2), (prun c.2 r ++ rest, 0)) := by
        have := rFixed_all (c.2.drop (cpl t.last c.2)) (prun c.2 r ++ rest)
        rw [List.length_drop] at this
        exact this
      have hx : c.2 = t.last.take (cpl t.last c.2) ++ c.2.drop (cpl t.last c.2) := by rw [cpl_take, List.take_append_drop]
      have hst := st_textok e1 e2 rfl rfl (by omega) e3 (by omega) (by omega) rfl e5 rfl hx rfl
      rw [hst]
      have ih := tk_put N r ⟨(prun c.2 r ++ rest, 0), t.out ++ [(1, c.2)], t.left - 1, c.2, 1⟩ rest (by omega) (fun x hx => hok x (by simp [hx])) (by omega) (by dsimp only; omega) (by dsimp only; rw [hl]; simp) rfl (fun c' r' _ h1 h2 => h1 (by simpa using h2))
      rw [ih.1, ih.2]
      refine ⟨?_, rfl⟩
      dsimp only
      rw [List.append_assoc, List.singleton_append, show ((1 : Int), c.2) = c from by rw [← hd]]
    · obtain ⟨n, hn⟩ : ∃ n, rowN (c :: r) = n := ⟨_, rfl⟩
      have hn0 : 0 < n := by
        rw [← hn]
        exact Nat.pos_of_ne_zero fun h => hd (rowN_zero.1 h)
      have hnl : n ≤ r.length + 1 := by rw [← hn]; exact rowN_le (c :: r)
      obtain ⟨k, hk⟩ : ∃ k : Nat, c.1 = k := ⟨c.1.toNat, by omega⟩
      have hp : prun t.last (c :: r) = vb n ++ vb k ++ prun t.last ((c :: r).drop n) := by
        rw [prun, if_pos (by omega), hn, hk]; rfl
      rw [hp] at hs
      simp only [List.append_assoc] at hs
      have e1 : rNum t.s = (n, (vb k ++ (prun t.last ((c :: r).drop n) ++ rest), 0)) := by rw [hs, rNum_vb (u64_of (by omega))]
      have e2 : rWithin 3 (vb k ++ (prun t.last ((c :: r).drop n) ++ rest), 0) = (k, (prun t.last ((c :: r).drop n) ++ rest, 0)) := rWithin_vb (u64_of (by omega)) (by omega) (by omega) _
      have hkk : ¬ (k = 1 ∨ k = t.kind) := by
        have := hK c r rfl hd
        omega
      have hst := st_rowok e1 rfl hn0 (by rw [hl]; simpa using hnl) e2 rfl hkk
      rw [hst]
      have hgo : rowGo c.1 (c :: r) = n := hn
      have ht := rowGo_take (k := c.1) hok
      rw [hgo] at ht
      have hnx : ∀ c' r', (c :: r).drop n = c' :: r' → ¬ (c'.1 ≠ 1 ∧ c'.1 = c.1) := fun c' r' h => by rw [← hgo] at h; exact rowGo_next h
      have hdl : ((c :: r).drop n).length = r.length + 1 - n := by simp
      have ih := tk_put N ((c :: r).drop n) ⟨(prun t.last ((c :: r).drop n) ++ rest, 0), t.out ++ List.replicate n ((k : Int), []), t.left - n, t.last, k⟩ rest (by omega) (fun x hx => hok x (List.mem_of_mem_drop hx)) (by omega) hlast (by dsimp only; rw [hl, hdl]; simp) rfl (fun c' r' h h1 h2 => hnx c' r' h ⟨h1, by rw [hk]; exact h2⟩)
      rw [ih.1, ih.2]
      refine ⟨?_, rfl⟩
      dsimp only
      rw [List.append_assoc, ← hk, ← ht, List.take_append_drop]
theorem takeRun_put {cs : List Ce} (hok : ∀ c ∈ cs, cchk c = 0) (h64 : cs.length ≤ 64) (rest : List UInt8) : takeRun (vb cs.length ++ (prun [] cs ++ rest), 0) = (cs, (rest, 0)) := by
  have e1 := rNum_vb (n := cs.length) (u64_of (by omega)) (prun [] cs ++ rest)
  have hn : tkNew (vb cs.length ++ (prun [] cs ++ rest), 0) = ⟨(prun [] cs ++ rest, 0), [], cs.length, [], 1⟩ := by
    unfold tkNew
    rw [e1]
    dsimp only
    rw [if_neg (by omega), Nat.min_eq_left h64]
  have h := tk_put cs.length cs ⟨(prun [] cs ++ rest, 0), [], cs.length, [], 1⟩ rest (Nat.le_refl _) hok h64 (by simp) rfl rfl (fun c r _ h1 h2 => h1 (by simpa using h2))
  unfold takeRun
  rw [hn, h.1, h.2]
  simp
theorem rNum_someB {s s1 : Rs} {n : Nat} (h : rNum s = (n, s1)) (h0 : s1.2 = 0) : s.2 = 0 ∧ U64 n ∧ s.1 = vb n ++ s1.1 := by
  unfold rNum at h
  by_cases hb : s.2 = 0
  · rw [if_neg (by simpa using hb)] at h
    cases ht : take s.1 with
    | none => rw [ht] at h; dsimp only at h; injection h with _ h; rw [← h] at h0; exact absurd h0 (Nat.succ_ne_zero 1)
    | some p =>
      obtain ⟨v, e⟩ := p
      rw [ht] at h
      dsimp only at h
      injection h with h1 h2
      obtain ⟨hu, he, hte⟩ := take_some ht
      subst h1
      rw [← h2]
      dsimp only
      exact ⟨hb, hu, by rw [← hte, List.take_append_drop]⟩
  · rw [if_pos hb] at h
    injection h with _ h
    rw [← h] at h0
    exact absurd h0 hb
theorem rWithin_someB {m : Nat} {s s1 : Rs} {n : Nat} (h : rWithin m s = (n, s1)) (h0 : s1.2 = 0) : s.2 = 0 ∧ n ≤ m ∧ s.1 = vb n ++ s1.1 := by
  unfold rWithin at h
  split at h
  · injection h with _ h
    rw [← h] at h0
    exact absurd h0 (rFail_bad (by decide))
  · rename_i hc
    rw [h] at hc
    obtain ⟨h1, h2, h3⟩ := rNum_someB h h0
    dsimp only at hc
    exact ⟨h1, by omega, h3⟩
theorem rFixed_someB {n : Nat} {s s1 : Rs} {f : List UInt8} (h : rFixed (n : Int) s = (f, s1)) (h0 : s1.2 = 0) : s.2 = 0 ∧ f.length = n ∧ s.1 = f ++ s1.1 := by
  unfold rFixed at h
  split at h
  · rename_i hb
    injection h with _ h
    rw [← h] at h0
    exact absurd h0 hb
  · rename_i hb
    split at h
    · injection h with _ h
      rw [← h] at h0
      exact absurd h0 (Nat.succ_ne_zero 1)
    · rename_i hc
      injection h with h1 h2
      rw [← h1, ← h2]
      dsimp only
      simp only [gt_iff_lt, not_or] at hc
      exact ⟨by simpa using hb, by simp only [List.length_take, Int.toNat_natCast]; omega, by rw [List.take_append_drop]⟩
theorem tk_back : ∀ (N : Nat) (t : Tk), t.left ≤ N → TkOk t → t.s.2 = 0 → (tkEnd t).s.2 = 0 → ∃ cs, (tkEnd t).out = t.out ++ cs ∧ t.s.1 = prun t.last cs ++ (tkEnd t).s.1 ∧ cs.length = t.left ∧ (∀ c ∈ cs, cchk c = 0) ∧ Kd t.kind cs
  | N, t, hN, hO, hs0, hE0 => by
    rcases Nat.eq_zero_or_pos t.left with h0 | h0
    · rw [tkEnd_stop (.inl h0)]
      exact ⟨[], by simp, by simp [prun], by simp [h0], fun c hc => by simp at hc, fun c r h => by cases h⟩
    · match N, hN with
      | 0, hN => omega
      | N + 1, hN =>
      have hes := tkEnd_step (t := t) (by omega) hs0
      have hst0 : (tkStep t).s.2 = 0 := by
        rcases Decidable.em ((tkStep t).s.2 = 0) with h | h
        · exact h
        · rw [hes, tkEnd_stop (.inr h)] at hE0; exact absurd hE0 h
      have hok := tkStep_ok hO h0 hst0
      have hlt := tkStep_left t
      have ih := tk_back N (tkStep t) (by rcases hlt with h | h; exact absurd hst0 h; omega) hok hst0 (by rw [← hes]; exact hE0)
      rw [← hes] at ih
      obtain ⟨cs, h1, h2, h3, h4, h5⟩ := ih
      obtain ⟨many, s1, e1⟩ : ∃ n s, rNum t.s = (n, s) := ⟨_, _, rfl⟩
      have hs1 : s1.2 = 0 := by
        rcases Decidable.em (s1.2 = 0) with h | h
        · exact h
        · rw [st_bad e1 h] at hst0; exact absurd hst0 h
      obtain ⟨_, hum, hl1⟩ := rNum_someB e1 hs1
      rcases Nat.eq_zero_or_pos many with hm | hm
      · obtain ⟨n, s2, e2⟩ : ∃ n s, rNum s1 = (n, s) := ⟨_, _, rfl⟩
        have hc2 : s2.2 = 0 ∧ n ≤ 64 := by
          rcases Decidable.em (s2.2 ≠ 0 ∨ 64 < n) with h | h
          · have := st_long e1 e2 hs1 hm h
            rw [this] at hst0
            exact absurd hst0 (rFail_bad (by decide))
          · exact ⟨Decidable.byContradiction fun h' => h (.inl h'), Nat.le_of_not_lt fun h' => h (.inr h')⟩
        obtain ⟨hs2, hn⟩ := hc2
        obtain ⟨_, hun, hl2⟩ := rNum_someB e2 hs2
        obtain ⟨k, s3, e3⟩ : ∃ n s, rNum s2 = (n, s) := ⟨_, _, rfl⟩
        have hc3 : ¬ (s3.2 ≠ 0 ∨ n < k ∨ t.last.length < k) := fun h => by
          have := st_share e1 e2 hs1 hm hn e3 h
          rw [this] at hst0
          exact absurd hst0 (rFail_bad (by decide))
        have hs3 : s3.2 = 0 := Decidable.byContradiction fun h => hc3 (.inl h)
        have hk1 : k ≤ n := Nat.le_of_not_lt fun h => hc3 (.inr (.inl h))
        have hk2 : k ≤ t.last.length := Nat.le_of_not_lt fun h => hc3 (.inr (.inr h))
        obtain ⟨_, huk, hl3⟩ := rNum_someB e3 hs3
        obtain ⟨f, s5, e5⟩ : ∃ f s, rFixed ((n - k : Nat) : Int) s3 = (f, s) := ⟨_, _, rfl⟩
        have hs5 : s5.2 = 0 := by
          rcases Decidable.em (s5.2 = 0) with h | h
          · exact h
          · rw [st_fixbad e1 e2 hs1 hm hn e3 hk1 hk2 hs3 e5 h] at hst0; exact absurd hst0 h
        obtain ⟨_, hfl, hl5⟩ := rFixed_someB e5 hs5
        have hcp : cpl t.last (t.last.take k ++ f) = k := by
          rcases Decidable.em (cpl t.last (t.last.take k ++ f) = k) with h | h
          · exact h
          · rw [st_textbad e1 e2 hs1 hm hn e3 hk1 hk2 hs3 e5 hs5 rfl h] at hst0
            exact absurd hst0 (rFail_bad (by decide))
        have hst := st_textok e1 e2 hs1 hm hn e3 hk1 hk2 hs3 e5 hs5 rfl hcp
        rw [hst] at h1 h2 h3 h5
        dsimp only at h1 h2 h3 h5
        have hxl : (t.last.take k ++ f).length = n := by rw [List.length_append, List.length_take, hfl]; omega
        have hxd : (t.last.take k ++ f).drop k = f := List.drop_left' (by rw [List.length_take]; omega)
        refine ⟨(1, t.last.take k ++ f) :: cs, by rw [h1, List.append_assoc]; rfl, ?_, by simp only [List.length_cons]; omega, fun c hc => ?_, fun c r he hc => ?_⟩
        · rw [prun_data (rowN_zero.2 rfl), hcp, hxl]
          dsimp only
          rw [hxd, hl1, hm, hl2, hl3, hl5, h2]
          simp only [List.append_assoc]
        · rcases List.mem_cons.1 hc with rfl | hc
          · rcases cchk_cases (1, t.last.take k ++ f) with h | h | h | h | h | h <;> first | exact h.2.2.2 | (exfalso; dsimp only at h; omega)
          · exact h4 c hc
        · injection he with he _
          rw [← he] at hc
          exact absurd rfl hc
      · have hfar : many ≤ t.left := by
          rcases Nat.lt_or_ge t.left many with h | h
          · rw [st_far e1 hs1 hm h] at hst0; exact absurd hst0 (rFail_bad (by decide))
          · exact h
        obtain ⟨k, s2, e2⟩ : ∃ n s, rWithin 3 s1 = (n, s) := ⟨_, _, rfl⟩
        have hc2 : ¬ (s2.2 ≠ 0 ∨ k = 1 ∨ k = t.kind) := fun h => by
          rw [st_rowbad e1 hs1 hm hfar e2 h] at hst0
          exact absurd hst0 (rFail_bad (by decide))
        have hs2 : s2.2 = 0 := Decidable.byContradiction fun h => hc2 (.inl h)
        have hkk : ¬ (k = 1 ∨ k = t.kind) := fun h => hc2 (.inr h)
        obtain ⟨_, hk3, hl2⟩ := rWithin_someB e2 hs2
        have hst := st_rowok e1 hs1 hm hfar e2 hs2 hkk
        rw [hst] at h1 h2 h3 h5
        dsimp only at h1 h2 h3 h5
        have hk1 : (k : Int) ≠ 1 := by omega
        have hgo := rowGo_repB (k := (k : Int)) (cs := cs) hk1 (fun c r he hc => h5 c r he hc.1 hc.2) many
        obtain ⟨q, hq⟩ : ∃ q, many = q + 1 := ⟨many - 1, by omega⟩
        have hrn : rowN (List.replicate many ((k : Int), []) ++ cs) = many := by
          rw [hq, List.replicate_succ, List.cons_append] at hgo ⊢
          exact hgo
        refine ⟨List.replicate many ((k : Int), []) ++ cs, by rw [h1, List.append_assoc], ?_, by rw [List.length_append, List.length_replicate]; omega, fun c hc => ?_, fun c r he hc => ?_⟩
        · obtain ⟨kz, ⟨rz, dz, hz⟩, hp⟩ := prun_row (last := t.last) (l := List.replicate many ((k : Int), []) ++ cs) (by rw [hrn]; exact hm)
          have hkz : kz = (k : Int) := by
            rw [hq, List.replicate_succ, List.cons_append] at hz
            injection hz with hz _
            injection hz with hz _
            exact hz.symm
          rw [hp, hrn, hkz, List.drop_left' (by simp), hl1, hl2, h2]
          simp only [List.append_assoc, Int.toNat_natCast]
        · rcases List.mem_append.1 hc with hc | hc
          · rw [List.eq_of_mem_replicate hc]
            rcases cchk_cases ((k : Int), []) with h | h | h | h | h | h <;> first | exact h.2.2.2 | (exfalso; simp at h; done) | (exfalso; simp at h; omega)
          · exact h4 c hc
        · rw [hq, List.replicate_succ, List.cons_append] at he
          injection he with he _
          rw [← he]
          dsimp only
          omega
theorem takeRun_back {l : List UInt8} {cs : List Ce} {s' : Rs} (hl : l.length ≤ 1000000000) (h : takeRun (l, 0) = (cs, s')) (h0 : s'.2 = 0) : l = vb cs.length ++ (prun [] cs ++ s'.1) ∧ (∀ c ∈ cs, cchk c = 0) ∧ cs.length ≤ 64 := by
  obtain ⟨n, s1, e1⟩ : ∃ n s, rNum (l, 0) = (n, s) := ⟨_, _, rfl⟩
  have hc : s1.2 = 0 ∧ n ≤ 64 := by
    rcases Decidable.em (s1.2 ≠ 0 ∨ 64 < n) with hx | hx
    · rw [tr_start e1 hx] at h
      injection h with _ h
      rw [← h] at h0
      exact absurd h0 (rFail_bad (by decide))
    · exact ⟨Decidable.byContradiction fun h' => hx (.inl h'), Nat.le_of_not_lt fun h' => hx (.inr h')⟩
  obtain ⟨hs1, hn⟩ := hc
  obtain ⟨_, _, hl1⟩ := rNum_someB e1 hs1
  have hsl := rNum_len (l, 0)
  rw [e1] at hsl
  dsimp only at hl1 hsl
  have hnew : tkNew (l, 0) = ⟨s1, [], n, [], 1⟩ := by
    unfold tkNew
    rw [e1]
    dsimp only
    rw [if_neg (by omega), Nat.min_eq_left hn]
  unfold takeRun at h
  rw [hnew] at h
  by_cases hb : (tkEnd ⟨s1, [], n, [], 1⟩).s.2 ≠ 0
  · rw [if_pos hb] at h
    injection h with _ h
    rw [h] at hb
    exact absurd h0 hb
  · rw [if_neg hb] at h
    injection h with h1 h2
    obtain ⟨cs', b1, b2, b3, b4, _⟩ := tk_back n ⟨s1, [], n, [], 1⟩ (Nat.le_refl _) ⟨by dsimp only [List.length_nil]; omega, by dsimp only; omega, by dsimp only [List.length_nil]; omega, by dsimp only; omega⟩ hs1 (Decidable.byContradiction fun h' => hb h')
    dsimp only at b1 b2 b3
    rw [List.nil_append] at b1
    rw [b1] at h1
    subst h1
    rw [h2] at b2
    exact ⟨by rw [hl1, b2, b3], b4, by omega⟩
end Go.Proofs.Ytgipfenjachpnaa

namespace Go.Proofs.Ytgipfenjachpnaa
open Go.RowKit

/-- what a frame was taken from is that frame -/
theorem ftake_back {l : List UInt8} (h : (ftake l).2.2 = 0) : (ftake l).1.length ≤ 65536 ∧ l.take (ftake l).2.1 = frm (ftake l).1 := by
  unfold ftake at h ⊢
  split at h
  · simp at h
  · rename_i n k hv
    obtain ⟨hu, hk, htk⟩ := take_some hv
    by_cases h1 : 65536 < n
    · rw [if_pos h1] at h; simp at h
    rw [if_neg h1] at h ⊢
    by_cases h2 : l.length < k + n + 4
    · rw [if_pos h2] at h; simp at h
    rw [if_neg h2] at h ⊢
    by_cases h3 : four (sumW (l.take (k + n))) = (l.drop (k + n)).take 4
    · rw [if_pos h3]
      dsimp only
      have hln : ((l.take (k + n)).drop k).length = n := by simp; omega
      have htx : txb ((l.take (k + n)).drop k) = l.take (k + n) := by
        unfold txb
        rw [hln, ← htk]
        have h5 : (l.take (k + n)).take k = l.take k := by rw [List.take_take, Nat.min_eq_left (by omega)]
        rw [← h5, List.take_append_drop]
      refine ⟨by omega, ?_⟩
      unfold frm
      rw [htx, h3, ← List.take_add]
    · rw [if_neg h3] at h; simp at h
theorem fone_back {l : List UInt8} (h : (fone l).2 = 0) : (fone l).1.length ≤ 65536 ∧ l = frm (fone l).1 := by
  unfold fone at h ⊢
  by_cases h1 : (ftake l).2.2 ≠ 0
  · rw [if_pos h1] at h; exact absurd h h1
  rw [if_neg h1] at h ⊢
  by_cases h2 : (ftake l).2.1 < l.length
  · rw [if_pos h2] at h; simp at h
  rw [if_neg h2]
  have h3 := ftake_back (l := l) (by omega)
  refine ⟨h3.1, ?_⟩
  rw [List.take_of_length_le (by omega)] at h3
  exact h3.2
theorem fone_frm {t : List UInt8} (h : t.length ≤ 65536) : fone (frm t) = (t, 0) := by
  have h1 := ftake_frm t [] h
  rw [List.append_nil] at h1
  unfold fone
  rw [h1, if_neg (by simp), if_neg (by simp)]
end Go.Proofs.Ytgipfenjachpnaa

namespace Go.Proofs.Ytgipfenjachpnaa
open Go.RowKit

theorem stxt_short {s : Sg} (h : schk s = 0) : (stxt s).length ≤ 65536 := Nat.le_trans (stxt_len h) (by decide)
theorem sput_ok {s : Sg} (h : schk s = 0) : sput s = (frm (stxt s), 0) := by
  unfold sput fput
  have := stxt_short h
  rw [if_neg (by rw [h]; simp), if_neg (by omega)]
  rfl
theorem sput_bad {s : Sg} (h : (sput s).2 = 0) : schk s = 0 := by
  unfold sput at h
  by_cases h0 : schk s = 0
  · exact h0
  · rw [if_pos h0] at h
    exact h
theorem sgTake_put {s : Sg} (h : schk s = 0) : sgTake (sput s).1 = (s, 0) := by
  obtain ⟨h0, h1, h2, h3, h4⟩ := schk_ok h
  obtain ⟨n, hn⟩ : ∃ n : Nat, s.1 = n := ⟨s.1.toNat, by omega⟩
  rw [sput_ok h]
  unfold sgTake
  rw [fone_frm (stxt_short h), if_neg (by simp)]
  have e1 : rWithin 1048576 (stxt s, 0) = (n, (vb s.2.length ++ (prun [] s.2 ++ []), 0)) := by
    unfold stxt
    rw [hn, Int.toNat_natCast, List.append_nil]
    exact rWithin_vb (by unfold U64; omega) (by omega) (by omega) _
  have e2 := takeRun_put (rchk_zero h4) h2 []
  have e3 : sgRead (stxt s, 0) = (s, ([], 0)) := by
    unfold sgRead
    rw [e1]
    dsimp only
    rw [e2]
    obtain ⟨s1, s2⟩ := s
    dsimp only at hn ⊢
    rw [hn]
  rw [show ((stxt s, (0 : Nat)).1, 0) = (stxt s, 0) from rfl, e3]
  unfold sgEnd
  rw [if_neg (by simp [rEnd]), if_neg (by rw [h]; simp)]
theorem rEnd_zero {s : Rs} (h : rEnd s = 0) : s = ([], 0) := by
  obtain ⟨l, b⟩ := s
  unfold rEnd at h
  split at h
  · exact absurd h (by decide)
  · rename_i hc
    dsimp only at hc h
    subst h
    cases l with
    | nil => rfl
    | cons x r => exact absurd ⟨rfl, by simp⟩ hc
theorem sgTake_back {b : List UInt8} {s : Sg} (_hl : b.length ≤ 1000000) (h : sgTake b = (s, 0)) : schk s = 0 ∧ sput s = (b, 0) := by
  unfold sgTake at h
  by_cases hf : (fone b).2 ≠ 0
  · rw [if_pos hf] at h
    injection h with _ h
    exact absurd h hf
  · rw [if_neg hf] at h
    obtain ⟨hb1, hb2⟩ := fone_back (Decidable.byContradiction hf)
    have hfl := fone_len b
    generalize (fone b).1 = t at *
    unfold sgEnd at h
    by_cases he : rEnd (sgRead (t, 0)).2 ≠ 0
    · rw [if_pos he] at h
      injection h with _ h
      exact absurd h he
    · rw [if_neg he] at h
      by_cases hc : schk (sgRead (t, 0)).1 ≠ 0
      · rw [if_pos hc] at h
        injection h with _ h
        exact absurd h hc
      · rw [if_neg hc] at h
        injection h with h _
        have hc0 : schk s = 0 := by rw [← h]; exact Decidable.byContradiction hc
        have he0 := rEnd_zero (Decidable.byContradiction he)
        obtain ⟨f, s3, e1⟩ : ∃ f s, rWithin 1048576 (t, 0) = (f, s) := ⟨_, _, rfl⟩
        obtain ⟨cs, s5, e2⟩ : ∃ r s, takeRun s3 = (r, s) := ⟨_, _, rfl⟩
        have hsr : sgRead (t, 0) = (((f : Int), cs), s5) := by unfold sgRead; rw [e1]; dsimp only; rw [e2]
        rw [hsr] at he0 h
        dsimp only at he0 h
        subst he0
        have hs3 : s3.2 = 0 := by
          rcases Decidable.em (s3.2 = 0) with h' | h'
          · exact h'
          · have hz : takeRun s3 = ([], rFail 3 s3) := tr_start (rNum_of h') (.inl h')
            rw [e2] at hz
            injection hz with _ hz
            rw [rFail_of h'] at hz
            rw [← hz] at h'
            exact absurd rfl h'
        obtain ⟨_, _, hl1⟩ := rWithin_someB e1 hs3
        obtain ⟨l3, b3⟩ := s3
        dsimp only at hs3 hl1
        subst hs3
        have hl3 : l3.length ≤ 1000000000 := by
          have := congrArg List.length hl1
          rw [List.length_append] at this
          omega
        obtain ⟨hl2, _, _⟩ := takeRun_back hl3 e2 rfl
        refine ⟨hc0, ?_⟩
        rw [sput_ok hc0]
        have hst : stxt s = t := by
          rw [← h]
          unfold stxt
          dsimp only
          rw [Int.toNat_natCast, hl1, hl2]
          simp
        rw [hst, ← hb2]
/-- a segment's parts -/
theorem spart_head {s : Sg} (h : schk s = 0) {m : Nat} (hm : m ≤ s.2.length) : spart s s.1 (s.1 + m) = ((s.1, s.2.take m), 0) := by
  unfold spart
  rw [if_neg (by rw [h]; simp), if_neg (by omega)]
  have e1 : (s.1 - s.1).toNat = 0 := by omega
  have e2 : (s.1 + (m : Int) - s.1).toNat = m := by omega
  rw [e1, e2, List.drop_zero]
theorem spart_tail {s : Sg} (h : schk s = 0) {m : Nat} (hm : m ≤ s.2.length) : spart s (s.1 + m) (s.1 + s.2.length) = ((s.1 + m, s.2.drop m), 0) := by
  unfold spart
  rw [if_neg (by rw [h]; simp), if_neg (by omega)]
  have e1 : (s.1 + (m : Int) - s.1).toNat = m := by omega
  have e2 : (s.1 + (s.2.length : Int) - (s.1 + (m : Int))).toNat = s.2.length - m := by omega
  rw [e1, e2, List.take_of_length_le (by simp)]
theorem schk_cut {s : Sg} (h : schk s = 0) {a m n : Nat} (hm : m + n ≤ s.2.length) (ha : a ≤ m) : schk (s.1 + a, (s.2.drop m).take n) = 0 := by
  obtain ⟨h0, h1, h2, h3, h4⟩ := schk_ok h
  have hl : ((s.2.drop m).take n).length = n := by simp; omega
  rw [schk_cells (by dsimp only; omega) (by dsimp only; omega) (by dsimp only; omega)]
  exact rchk_part h4 m n
theorem sjoin_parts {s : Sg} (h : schk s = 0) {m : Nat} (hm : m ≤ s.2.length) : sjoin (s.1, s.2.take m) (s.1 + m, s.2.drop m) = (s, 0) := by
  have c1 : schk (s.1, s.2.take m) = 0 := by
    have := schk_cut h (a := 0) (m := 0) (n := m) (by omega) (Nat.le_refl _)
    simpa using this
  have c2 : schk (s.1 + m, s.2.drop m) = 0 := by
    have := schk_cut h (a := m) (m := m) (n := s.2.length - m) (by omega) (Nat.le_refl _)
    rw [List.take_of_length_le (by simp)] at this
    exact this
  unfold sjoin
  rw [if_neg (by rw [c1]; simp), if_neg (by rw [c2]; simp), if_neg (by simp; omega)]
  dsimp only
  rw [List.take_append_drop, if_neg (by rw [h]; simp)]
theorem sgTake_len64 (b : List UInt8) : (sgTake b).1.2.length ≤ 64 := by
  unfold sgTake
  split
  · simp
  · unfold sgEnd
    split
    · simp
    · split
      · simp
      · rename_i h
        obtain ⟨_, _, h3, _⟩ := schk_ok (Decidable.byContradiction h)
        exact h3
end Go.Proofs.Ytgipfenjachpnaa
