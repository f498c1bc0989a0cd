/- WHAT IT HOLDS: a run that was put is taken as it was, and what is taken has just those bytes, plainly (no program). | WHAT IT HOLDS: a segment that was put is taken as it was, what is taken has just those bytes, and a segment is its parts, joined; plainly (no program). | WHAT IT HOLDS: what a segment's part was made of, plainly (no program). | WHAT IT HOLDS: what a vault reads depends on what is needed alone; what a disk with a chain opens to; which address which part has (no program). | WHAT IT HOLDS: a backup of segments, one for each manifest: what adding, committing and coming again make of it, and what is read of it, plainly (no program). | WHAT IT HOLDS: vault.Add. -/
import Derived.Test.YtajfnmohlnkncaaGreatDoorVaultAgreesG21
import Derived.Test.YtajfnmohlnkncaaGreatDoorVaultAgreesG01
import Derived.Test.YtajfnmohlnkncaaGreatDoorVaultAgreesG08
import Derived.Test.YtajfnmohlnkncaaGreatDoorVaultAgreesG19
import Derived.Test.YtajfnmohlnkncaaGreatDoorVaultAgreesG22
import Derived.Test.YtajfnmohlnkncaaGreatDoorVaultAgreesG17
import Derived.Test.YtajfnmohlnkncaaGreatDoorVaultAgreesG16
namespace Go.Proofs.YtajfnmohlnkncaaGreatDoor
section
open Go.RowKit
theorem rowGo_take {k : Int} : ∀ {l : List Ce}, (∀ c ∈ l, cchk c = 0) → l.take (rowGo k l) = List.replicate (rowGo k l) (k, [])
 | [], _ => rfl
 | c :: r, h => by
  unfold rowGo
  by_cases hc : c.1 ≠ 1 ∧ c.1 = k
  · rw [if_pos hc, List.take_succ_cons, List.replicate_succ, rowGo_take fun x hx => h x (by simp [hx])]
    have h2 := (cchk_ok (h c (by simp))).2.2.2 hc.1
    obtain ⟨c1, c2⟩ := c
    dsimp only at hc h2
    rw [h2, hc.2]
  · rw [if_neg hc]; rfl
theorem rowGo_next {k : Int} : ∀ {l : List Ce} {c : Ce} {r : List Ce}, l.drop (rowGo k l) = c :: r → ¬ (c.1 ≠ 1 ∧ c.1 = k)
 | [], c, r, h => by simp [rowGo] at h
 | x :: l, c, r, h => by
  unfold rowGo at h
  by_cases hc : x.1 ≠ 1 ∧ x.1 = k
  · rw [if_pos hc, List.drop_succ_cons] at h
    exact rowGo_next h
  · rw [if_neg hc] at h
    simp only [List.drop_zero, List.cons.injEq] at h
    rw [← h.1]; exact hc
theorem rowGo_repB {k : Int} {cs : List Ce} (hk : k ≠ 1) (h : ∀ c r, cs = c :: r → ¬ (c.1 ≠ 1 ∧ c.1 = k)) : ∀ n, rowGo k (List.replicate n (k, []) ++ cs) = n
 | 0 => by
  cases cs with
  | nil => rfl
  | cons c r => simp only [List.replicate_zero, List.nil_append, rowGo]; rw [if_neg (h c r rfl)]
 | n + 1 => by
  rw [List.replicate_succ, List.cons_append, rowGo, if_pos ⟨hk, rfl⟩, rowGo_repB hk h n]
def Kd (kind : Nat) (cs : List Ce) : Prop := ∀ c r, cs = c :: r → c.1 ≠ 1 → c.1 ≠ (kind : Int)
theorem rWithin_vbT {k m : Nat} (h : U64 k) (hk : k ≤ m) (hk2 : k ≤ 4611686018427387904) (r : List UInt8) : rWithin m (vb k ++ r, 0) = (k, (r, 0)) := by
 unfold rWithin
 rw [rNum_vb h, if_neg (by simp only [gt_iff_lt]; omega)]
theorem u64_of {n : Nat} (h : n ≤ 1000000) : U64 n := by unfold U64; omega
theorem tk_put : ∀ (N : Nat) (cs : List Ce) (t : Tk) (rest : List UInt8), cs.length ≤ N → (∀ c ∈ cs, cchk c = 0) → cs.length ≤ 64 → t.last.length ≤ 64 → t.left = cs.length → t.s = (prun t.last cs ++ rest, 0) → Kd t.kind cs → (tkEnd t).out = t.out ++ cs ∧ (tkEnd t).s = (rest, 0)
 | N, [], t, rest, _, _, _, _, hl, hs, _ => by
  rw [tkEnd_stop (.inl (by simpa using hl)), hs]
  simp [prun]
 | 0, c :: r, _, _, hN, _, _, _, _, _, _ => by simp at hN
 | N + 1, c :: r, t, rest, hN, hok, h64, hlast, hl, hs, hK => by
  have hs0 : t.s.2 = 0 := by rw [hs]
  have hc := hok c (by simp)
  obtain ⟨k0, k3, hc64, hcd⟩ := cchk_ok hc
  rw [tkEnd_step (by rw [hl]; simp) hs0]
  simp only [List.length_cons] at hN h64
  by_cases hd : c.1 = 1
  · have hz := rowN_zero (c := c) (r := r) |>.2 hd
    rw [prun_data hz] at hs
    simp only [List.append_assoc] at hs
    have hcp := cpl_le t.last c.2
    have e1 : rNum t.s = (0, (vb c.2.length ++ (vb (cpl t.last c.2) ++ (c.2.drop (cpl t.last c.2) ++ (prun c.2 r ++ rest))), 0)) := by rw [hs, rNum_vb (u64_of (by omega))]
    have e2 : rNum (vb c.2.length ++ (vb (cpl t.last c.2) ++ (c.2.drop (cpl t.last c.2) ++ (prun c.2 r ++ rest))), 0) = (c.2.length, (vb (cpl t.last c.2) ++ (c.2.drop (cpl t.last c.2) ++ (prun c.2 r ++ rest)), 0)) := rNum_vb (u64_of (by omega)) _
    have e3 : rNum (vb (cpl t.last c.2) ++ (c.2.drop (cpl t.last c.2) ++ (prun c.2 r ++ rest)), 0) = (cpl t.last c.2, (c.2.drop (cpl t.last c.2) ++ (prun c.2 r ++ rest), 0)) := rNum_vb (u64_of (by omega)) _
    have e5 : rFixed ((c.2.length - cpl t.last c.2 : Nat) : Int) (c.2.drop (cpl t.last c.2) ++ (prun c.2 r ++ rest), 0) = (c.2.drop (cpl t.last c.2), (prun c.2 r ++ rest, 0)) := by
     have := rFixed_all (c.2.drop (cpl t.last c.2)) (prun c.2 r ++ rest)
     rw [List.length_drop] at this
     exact this
    have hx : c.2 = t.last.take (cpl t.last c.2) ++ c.2.drop (cpl t.last c.2) := by rw [cpl_take, List.take_append_drop]
    have hst := st_textok e1 e2 rfl rfl (by omega) e3 (by omega) (by omega) rfl e5 rfl hx rfl
    rw [hst]
    have ih := tk_put N r ⟨(prun c.2 r ++ rest, 0), t.out ++ [(1, c.2)], t.left - 1, c.2, 1⟩ rest (by omega) (fun x hx => hok x (by simp [hx])) (by omega) (by dsimp only; omega) (by dsimp only; rw [hl]; simp) rfl (fun c' r' _ h1 h2 => h1 (by simpa using h2))
    rw [ih.1, ih.2]
    refine ⟨?_, rfl⟩
    dsimp only
    rw [List.append_assoc, List.singleton_append, show ((1 : Int), c.2) = c from by rw [← hd]]
  · obtain ⟨n, hn⟩ : ∃ n, rowN (c :: r) = n := ⟨_, rfl⟩
    have hn0 : 0 < n := by
     rw [← hn]
     exact Nat.pos_of_ne_zero fun h => hd (rowN_zero.1 h)
    have hnl : n ≤ r.length + 1 := by rw [← hn]; exact rowN_le (c :: r)
    obtain ⟨k, hk⟩ : ∃ k : Nat, c.1 = k := ⟨c.1.toNat, by omega⟩
    have hp : prun t.last (c :: r) = vb n ++ vb k ++ prun t.last ((c :: r).drop n) := by
     rw [prun, if_pos (by omega), hn, hk]; rfl
    rw [hp] at hs
    simp only [List.append_assoc] at hs
    have e1 : rNum t.s = (n, (vb k ++ (prun t.last ((c :: r).drop n) ++ rest), 0)) := by rw [hs, rNum_vb (u64_of (by omega))]
    have e2 : rWithin 3 (vb k ++ (prun t.last ((c :: r).drop n) ++ rest), 0) = (k, (prun t.last ((c :: r).drop n) ++ rest, 0)) := rWithin_vbT (u64_of (by omega)) (by omega) (by omega) _
    have hkk : ¬ (k = 1 ∨ k = t.kind) := by
     have := hK c r rfl hd
     omega
    have hst := st_rowok e1 rfl hn0 (by rw [hl]; simpa using hnl) e2 rfl hkk
    rw [hst]
    have hgo : rowGo c.1 (c :: r) = n := hn
    have ht := rowGo_take (k := c.1) hok
    rw [hgo] at ht
    have hnx : ∀ c' r', (c :: r).drop n = c' :: r' → ¬ (c'.1 ≠ 1 ∧ c'.1 = c.1) := fun c' r' h => by rw [← hgo] at h; exact rowGo_next h
    have hdl : ((c :: r).drop n).length = r.length + 1 - n := by simp
    have ih := tk_put N ((c :: r).drop n) ⟨(prun t.last ((c :: r).drop n) ++ rest, 0), t.out ++ List.replicate n ((k : Int), []), t.left - n, t.last, k⟩ rest (by omega) (fun x hx => hok x (List.mem_of_mem_drop hx)) (by omega) hlast (by dsimp only; rw [hl, hdl]; simp) rfl (fun c' r' h h1 h2 => hnx c' r' h ⟨h1, by rw [hk]; exact h2⟩)
    rw [ih.1, ih.2]
    refine ⟨?_, rfl⟩
    dsimp only
    rw [List.append_assoc, ← hk, ← ht, List.take_append_drop]
theorem takeRun_put {cs : List Ce} (hok : ∀ c ∈ cs, cchk c = 0) (h64 : cs.length ≤ 64) (rest : List UInt8) : takeRun (vb cs.length ++ (prun [] cs ++ rest), 0) = (cs, (rest, 0)) := by
 have e1 := rNum_vb (n := cs.length) (u64_of (by omega)) (prun [] cs ++ rest)
 have hn : tkNew (vb cs.length ++ (prun [] cs ++ rest), 0) = ⟨(prun [] cs ++ rest, 0), [], cs.length, [], 1⟩ := by
  unfold tkNew
  rw [e1]
  dsimp only
  rw [if_neg (by omega), Nat.min_eq_left h64]
 have h := tk_put cs.length cs ⟨(prun [] cs ++ rest, 0), [], cs.length, [], 1⟩ rest (Nat.le_refl _) hok h64 (by simp) rfl rfl (fun c r _ h1 h2 => h1 (by simpa using h2))
 unfold takeRun
 rw [hn, h.1, h.2]
 simp
theorem rNum_someB {s s1 : Rs} {n : Nat} (h : rNum s = (n, s1)) (h0 : s1.2 = 0) : s.2 = 0 ∧ U64 n ∧ s.1 = vb n ++ s1.1 := by
 unfold rNum at h
 by_cases hb : s.2 = 0
 · rw [if_neg (by simpa using hb)] at h
   cases ht : take s.1 with
   | none => rw [ht] at h; dsimp only at h; injection h with _ h; rw [← h] at h0; exact absurd h0 (Nat.succ_ne_zero 1)
   | some p =>
    obtain ⟨v, e⟩ := p
    rw [ht] at h
    dsimp only at h
    injection h with h1 h2
    obtain ⟨hu, he, hte⟩ := take_some ht
    subst h1
    rw [← h2]
    dsimp only
    exact ⟨hb, hu, by rw [← hte, List.take_append_drop]⟩
 · rw [if_pos hb] at h
   injection h with _ h
   rw [← h] at h0
   exact absurd h0 hb
theorem rWithin_someB {m : Nat} {s s1 : Rs} {n : Nat} (h : rWithin m s = (n, s1)) (h0 : s1.2 = 0) : s.2 = 0 ∧ n ≤ m ∧ s.1 = vb n ++ s1.1 := by
 unfold rWithin at h
 split at h
 · injection h with _ h
   rw [← h] at h0
   exact absurd h0 (rFail_bad (by decide))
 · rename_i hc
   rw [h] at hc
   obtain ⟨h1, h2, h3⟩ := rNum_someB h h0
   dsimp only at hc
   exact ⟨h1, by omega, h3⟩
theorem rFixed_someB {n : Nat} {s s1 : Rs} {f : List UInt8} (h : rFixed (n : Int) s = (f, s1)) (h0 : s1.2 = 0) : s.2 = 0 ∧ f.length = n ∧ s.1 = f ++ s1.1 := by
 unfold rFixed at h
 split at h
 · rename_i hb
   injection h with _ h
   rw [← h] at h0
   exact absurd h0 hb
 · rename_i hb
   split at h
   · injection h with _ h
     rw [← h] at h0
     exact absurd h0 (Nat.succ_ne_zero 1)
   · rename_i hc
     injection h with h1 h2
     rw [← h1, ← h2]
     dsimp only
     simp only [gt_iff_lt, not_or] at hc
     exact ⟨by simpa using hb, by simp only [List.length_take, Int.toNat_natCast]; omega, by rw [List.take_append_drop]⟩
theorem tk_back : ∀ (N : Nat) (t : Tk), t.left ≤ N → TkOk t → t.s.2 = 0 → (tkEnd t).s.2 = 0 → ∃ cs, (tkEnd t).out = t.out ++ cs ∧ t.s.1 = prun t.last cs ++ (tkEnd t).s.1 ∧ cs.length = t.left ∧ (∀ c ∈ cs, cchk c = 0) ∧ Kd t.kind cs
 | N, t, hN, hO, hs0, hE0 => by
  rcases Nat.eq_zero_or_pos t.left with h0 | h0
  · rw [tkEnd_stop (.inl h0)]
    exact ⟨[], by simp, by simp [prun], by simp [h0], fun c hc => by simp at hc, fun c r h => by cases h⟩
  · match N, hN with
    | 0, hN => omega
    | N + 1, hN =>
    have hes := tkEnd_step (t := t) (by omega) hs0
    have hst0 : (tkStep t).s.2 = 0 := by
     rcases Decidable.em ((tkStep t).s.2 = 0) with h | h
     · exact h
     · rw [hes, tkEnd_stop (.inr h)] at hE0; exact absurd hE0 h
    have hok := tkStep_ok hO h0 hst0
    have hlt := tkStep_left t
    have ih := tk_back N (tkStep t) (by rcases hlt with h | h; exact absurd hst0 h; omega) hok hst0 (by rw [← hes]; exact hE0)
    rw [← hes] at ih
    obtain ⟨cs, h1, h2, h3, h4, h5⟩ := ih
    obtain ⟨many, s1, e1⟩ : ∃ n s, rNum t.s = (n, s) := ⟨_, _, rfl⟩
    have hs1 : s1.2 = 0 := by
     rcases Decidable.em (s1.2 = 0) with h | h
     · exact h
     · rw [st_bad e1 h] at hst0; exact absurd hst0 h
    obtain ⟨_, hum, hl1⟩ := rNum_someB e1 hs1
    rcases Nat.eq_zero_or_pos many with hm | hm
    · obtain ⟨n, s2, e2⟩ : ∃ n s, rNum s1 = (n, s) := ⟨_, _, rfl⟩
      have hc2 : s2.2 = 0 ∧ n ≤ 64 := by
       rcases Decidable.em (s2.2 ≠ 0 ∨ 64 < n) with h | h
       · have := st_long e1 e2 hs1 hm h
         rw [this] at hst0
         exact absurd hst0 (rFail_bad (by decide))
       · exact ⟨Decidable.byContradiction fun h' => h (.inl h'), Nat.le_of_not_lt fun h' => h (.inr h')⟩
      obtain ⟨hs2, hn⟩ := hc2
      obtain ⟨_, hun, hl2⟩ := rNum_someB e2 hs2
      obtain ⟨k, s3, e3⟩ : ∃ n s, rNum s2 = (n, s) := ⟨_, _, rfl⟩
      have hc3 : ¬ (s3.2 ≠ 0 ∨ n < k ∨ t.last.length < k) := fun h => by
       have := st_share e1 e2 hs1 hm hn e3 h
       rw [this] at hst0
       exact absurd hst0 (rFail_bad (by decide))
      have hs3 : s3.2 = 0 := Decidable.byContradiction fun h => hc3 (.inl h)
      have hk1 : k ≤ n := Nat.le_of_not_lt fun h => hc3 (.inr (.inl h))
      have hk2 : k ≤ t.last.length := Nat.le_of_not_lt fun h => hc3 (.inr (.inr h))
      obtain ⟨_, huk, hl3⟩ := rNum_someB e3 hs3
      obtain ⟨f, s5, e5⟩ : ∃ f s, rFixed ((n - k : Nat) : Int) s3 = (f, s) := ⟨_, _, rfl⟩
      have hs5 : s5.2 = 0 := by
       rcases Decidable.em (s5.2 = 0) with h | h
       · exact h
       · rw [st_fixbad e1 e2 hs1 hm hn e3 hk1 hk2 hs3 e5 h] at hst0; exact absurd hst0 h
      obtain ⟨_, hfl, hl5⟩ := rFixed_someB e5 hs5
      have hcp : cpl t.last (t.last.take k ++ f) = k := by
       rcases Decidable.em (cpl t.last (t.last.take k ++ f) = k) with h | h
       · exact h
       · rw [st_textbad e1 e2 hs1 hm hn e3 hk1 hk2 hs3 e5 hs5 rfl h] at hst0
         exact absurd hst0 (rFail_bad (by decide))
      have hst := st_textok e1 e2 hs1 hm hn e3 hk1 hk2 hs3 e5 hs5 rfl hcp
      rw [hst] at h1 h2 h3 h5
      dsimp only at h1 h2 h3 h5
      have hxl : (t.last.take k ++ f).length = n := by rw [List.length_append, List.length_take, hfl]; omega
      have hxd : (t.last.take k ++ f).drop k = f := List.drop_left' (by rw [List.length_take]; omega)
      refine ⟨(1, t.last.take k ++ f) :: cs, by rw [h1, List.append_assoc]; rfl, ?_, by simp only [List.length_cons]; omega, fun c hc => ?_, fun c r he hc => ?_⟩
      · rw [prun_data (rowN_zero.2 rfl), hcp, hxl]
        dsimp only
        rw [hxd, hl1, hm, hl2, hl3, hl5, h2]
        simp only [List.append_assoc]
      · rcases List.mem_cons.1 hc with rfl | hc
        · rcases cchk_cases (1, t.last.take k ++ f) with h | h | h | h | h | h <;> first | exact h.2.2.2 | (exfalso; dsimp only at h; omega)
        · exact h4 c hc
      · injection he with he _
        rw [← he] at hc
        exact absurd rfl hc
    · have hfar : many ≤ t.left := by
       rcases Nat.lt_or_ge t.left many with h | h
       · rw [st_far e1 hs1 hm h] at hst0; exact absurd hst0 (rFail_bad (by decide))
       · exact h
      obtain ⟨k, s2, e2⟩ : ∃ n s, rWithin 3 s1 = (n, s) := ⟨_, _, rfl⟩
      have hc2 : ¬ (s2.2 ≠ 0 ∨ k = 1 ∨ k = t.kind) := fun h => by
       rw [st_rowbad e1 hs1 hm hfar e2 h] at hst0
       exact absurd hst0 (rFail_bad (by decide))
      have hs2 : s2.2 = 0 := Decidable.byContradiction fun h => hc2 (.inl h)
      have hkk : ¬ (k = 1 ∨ k = t.kind) := fun h => hc2 (.inr h)
      obtain ⟨_, hk3, hl2⟩ := rWithin_someB e2 hs2
      have hst := st_rowok e1 hs1 hm hfar e2 hs2 hkk
      rw [hst] at h1 h2 h3 h5
      dsimp only at h1 h2 h3 h5
      have hk1 : (k : Int) ≠ 1 := by omega
      have hgo := rowGo_repB (k := (k : Int)) (cs := cs) hk1 (fun c r he hc => h5 c r he hc.1 hc.2) many
      obtain ⟨q, hq⟩ : ∃ q, many = q + 1 := ⟨many - 1, by omega⟩
      have hrn : rowN (List.replicate many ((k : Int), []) ++ cs) = many := by
       rw [hq, List.replicate_succ, List.cons_append] at hgo ⊢
       exact hgo
      refine ⟨List.replicate many ((k : Int), []) ++ cs, by rw [h1, List.append_assoc], ?_, by rw [List.length_append, List.length_replicate]; omega, fun c hc => ?_, fun c r he hc => ?_⟩
      · obtain ⟨kz, ⟨rz, dz, hz⟩, hp⟩ := prun_row (last := t.last) (l := List.replicate many ((k : Int), []) ++ cs) (by rw [hrn]; exact hm)
        have hkz : kz = (k : Int) := by
         rw [hq, List.replicate_succ, List.cons_append] at hz
         injection hz with hz _
         injection hz with hz _
         exact hz.symm
        rw [hp, hrn, hkz, List.drop_left' (by simp), hl1, hl2, h2]
        simp only [List.append_assoc, Int.toNat_natCast]
      · rcases List.mem_append.1 hc with hc | hc
        · rw [List.eq_of_mem_replicate hc]
          rcases cchk_cases ((k : Int), []) with h | h | h | h | h | h <;> first | exact h.2.2.2 | (exfalso; simp at h; done) | (exfalso; simp at h; omega)
        · exact h4 c hc
      · rw [hq, List.replicate_succ, List.cons_append] at he
        injection he with he _
        rw [← he]
        dsimp only
        omega
theorem takeRun_back {l : List UInt8} {cs : List Ce} {s' : Rs} (hl : l.length ≤ 1000000000) (h : takeRun (l, 0) = (cs, s')) (h0 : s'.2 = 0) : l = vb cs.length ++ (prun [] cs ++ s'.1) ∧ (∀ c ∈ cs, cchk c = 0) ∧ cs.length ≤ 64 := by
 obtain ⟨n, s1, e1⟩ : ∃ n s, rNum (l, 0) = (n, s) := ⟨_, _, rfl⟩
 have hc : s1.2 = 0 ∧ n ≤ 64 := by
  rcases Decidable.em (s1.2 ≠ 0 ∨ 64 < n) with hx | hx
  · rw [tr_start e1 hx] at h
    injection h with _ h
    rw [← h] at h0
    exact absurd h0 (rFail_bad (by decide))
  · exact ⟨Decidable.byContradiction fun h' => hx (.inl h'), Nat.le_of_not_lt fun h' => hx (.inr h')⟩
 obtain ⟨hs1, hn⟩ := hc
 obtain ⟨_, _, hl1⟩ := rNum_someB e1 hs1
 have hsl := rNum_len (l, 0)
 rw [e1] at hsl
 dsimp only at hl1 hsl
 have hnew : tkNew (l, 0) = ⟨s1, [], n, [], 1⟩ := by
  unfold tkNew
  rw [e1]
  dsimp only
  rw [if_neg (by omega), Nat.min_eq_left hn]
 unfold takeRun at h
 rw [hnew] at h
 by_cases hb : (tkEnd ⟨s1, [], n, [], 1⟩).s.2 ≠ 0
 · rw [if_pos hb] at h
   injection h with _ h
   rw [h] at hb
   exact absurd h0 hb
 · rw [if_neg hb] at h
   injection h with h1 h2
   obtain ⟨cs', b1, b2, b3, b4, _⟩ := tk_back n ⟨s1, [], n, [], 1⟩ (Nat.le_refl _) ⟨by dsimp only [List.length_nil]; omega, by dsimp only; omega, by dsimp only [List.length_nil]; omega, by dsimp only; omega⟩ hs1 (Decidable.byContradiction fun h' => hb h')
   dsimp only at b1 b2 b3
   rw [List.nil_append] at b1
   rw [b1] at h1
   subst h1
   rw [h2] at b2
   exact ⟨by rw [hl1, b2, b3], b4, by omega⟩
theorem stxt_short {s : Sg} (h : schk s = 0) : (stxt s).length ≤ 65536 := Nat.le_trans (stxt_len h) (by decide)
theorem sput_ok {s : Sg} (h : schk s = 0) : sput s = (frm (stxt s), 0) := by
 unfold sput fput
 have := stxt_short h
 rw [if_neg (by rw [h]; simp), if_neg (by omega)]
 rfl
theorem sgTake_put {s : Sg} (h : schk s = 0) : sgTake (sput s).1 = (s, 0) := by
 obtain ⟨h0, h1, h2, h3, h4⟩ := schk_ok h
 obtain ⟨n, hn⟩ : ∃ n : Nat, s.1 = n := ⟨s.1.toNat, by omega⟩
 rw [sput_ok h]
 unfold sgTake
 rw [fone_frm (stxt_short h), if_neg (by simp)]
 have e1 : rWithin 1048576 (stxt s, 0) = (n, (vb s.2.length ++ (prun [] s.2 ++ []), 0)) := by
  unfold stxt
  rw [hn, Int.toNat_natCast, List.append_nil]
  exact rWithin_vbT (by unfold U64; omega) (by omega) (by omega) _
 have e2 := takeRun_put (rchk_zero h4) h2 []
 have e3 : sgRead (stxt s, 0) = (s, ([], 0)) := by
  unfold sgRead
  rw [e1]
  dsimp only
  rw [e2]
  obtain ⟨s1, s2⟩ := s
  dsimp only at hn ⊢
  rw [hn]
 rw [show ((stxt s, (0 : Nat)).1, 0) = (stxt s, 0) from rfl, e3]
 unfold sgEnd
 rw [if_neg (by simp [rEnd]), if_neg (by rw [h]; simp)]
theorem rEnd_zeroQ {s : Rs} (h : rEnd s = 0) : s = ([], 0) := by
 obtain ⟨l, b⟩ := s
 unfold rEnd at h
 split at h
 · exact absurd h (by decide)
 · rename_i hc
   dsimp only at hc h
   subst h
   cases l with
   | nil => rfl
   | cons x r => exact absurd ⟨rfl, by simp⟩ hc
theorem sgTake_back {b : List UInt8} {s : Sg} (_hl : b.length ≤ 1000000) (h : sgTake b = (s, 0)) : schk s = 0 ∧ sput s = (b, 0) := by
 unfold sgTake at h
 by_cases hf : (fone b).2 ≠ 0
 · rw [if_pos hf] at h
   injection h with _ h
   exact absurd h hf
 · rw [if_neg hf] at h
   obtain ⟨hb1, hb2⟩ := fone_back (Decidable.byContradiction hf)
   have hfl := fone_len b
   generalize (fone b).1 = t at *
   unfold sgEnd at h
   by_cases he : rEnd (sgRead (t, 0)).2 ≠ 0
   · rw [if_pos he] at h
     injection h with _ h
     exact absurd h he
   · rw [if_neg he] at h
     by_cases hc : schk (sgRead (t, 0)).1 ≠ 0
     · rw [if_pos hc] at h
       injection h with _ h
       exact absurd h hc
     · rw [if_neg hc] at h
       injection h with h _
       have hc0 : schk s = 0 := by rw [← h]; exact Decidable.byContradiction hc
       have he0 := rEnd_zeroQ (Decidable.byContradiction he)
       obtain ⟨f, s3, e1⟩ : ∃ f s, rWithin 1048576 (t, 0) = (f, s) := ⟨_, _, rfl⟩
       obtain ⟨cs, s5, e2⟩ : ∃ r s, takeRun s3 = (r, s) := ⟨_, _, rfl⟩
       have hsr : sgRead (t, 0) = (((f : Int), cs), s5) := by unfold sgRead; rw [e1]; dsimp only; rw [e2]
       rw [hsr] at he0 h
       dsimp only at he0 h
       subst he0
       have hs3 : s3.2 = 0 := by
        rcases Decidable.em (s3.2 = 0) with h' | h'
        · exact h'
        · have hz : takeRun s3 = ([], rFail 3 s3) := tr_start (rNum_of h') (.inl h')
          rw [e2] at hz
          injection hz with _ hz
          rw [rFail_of h'] at hz
          rw [← hz] at h'
          exact absurd rfl h'
       obtain ⟨_, _, hl1⟩ := rWithin_someB e1 hs3
       obtain ⟨l3, b3⟩ := s3
       dsimp only at hs3 hl1
       subst hs3
       have hl3 : l3.length ≤ 1000000000 := by
        have := congrArg List.length hl1
        rw [List.length_append] at this
        omega
       obtain ⟨hl2, _, _⟩ := takeRun_back hl3 e2 rfl
       refine ⟨hc0, ?_⟩
       rw [sput_ok hc0]
       have hst : stxt s = t := by
        rw [← h]
        unfold stxt
        dsimp only
        rw [Int.toNat_natCast, hl1, hl2]
        simp
       rw [hst, ← hb2]
end
section
theorem mof_zero {s : Sg} {px : Pt5} {yl : List UInt8} (h : mof s = (px, yl, 0)) : schk s = 0 ∧ px = (s.1, (s.2.length : Int), (yl.length : Int), shaD yl) ∧ yl = frm (stxt s) := by
 by_cases h1 : schk s = 0
 · by_cases h2 : s.2.length = 0
   · rw [mof_none h1 h2] at h
     injection h with _ h
     injection h with _ h
     cases h
   · rw [mof_ok h1 h2] at h
     injection h with h3 h
     injection h with h4 _
     subst h4
     exact ⟨h1, h3.symm, rfl⟩
 · rw [mof_bad h1] at h
   injection h with _ h
   injection h with _ h
   exact absurd h h1
theorem sgTake_frm {s : Sg} (h : schk s = 0) : sgTake (frm (stxt s)) = (s, 0) := by
 have h1 := sgTake_put h
 rw [sput_okO h] at h1
 exact h1
section
variable {α : Type}
structure Upd (d : Dk α) : Prop where
 up : d.down = false
 pn : d.pend = []
 rs : Ris d.sure
 na : Sna d.sure
theorem Upd.get {d : Dk α} (h : Upd d) {n : Bs} (hn : snamed n = true) : sGet d n = match gget n d.sure with | none => (none, 4) | some v => (some v, 0) := by
 unfold sGet dRead
 rw [if_neg (by rw [hn]; decide), if_neg (by rw [h.up]; decide), shown_nil h.pn]
 cases gget n d.sure <;> rfl
theorem Upd.some {dec : α → Bs} {d : Dk α} (h : Upd d) {n : Bs} (hn : snamed n = true) {x : α} (hx : gget n d.sure = some x) : sGetL dec d n = (dec x, 0) := by
 unfold sGetL
 rw [h.get hn, hx]
 rfl
theorem Upd.none {dec : α → Bs} {d : Dk α} (h : Upd d) {n : Bs} (hn : snamed n = true) (hx : gget n d.sure = none) : sGetL dec d n = ([], 4) := by
 unfold sGetL
 rw [h.get hn, hx]
 rfl
end
/-! ### parts and addresses -/
theorem pidx_at {x : Int} : ∀ {l : List Pt5} {k : Nat}, pidx x l = (k : Int) → ∃ h : k < l.length, phit x l[k] = true
 | [], k, h => by
  unfold pidx at h
  omega
 | p :: r, k, h => by
  unfold pidx at h
  by_cases h1 : phit x p = true
  · rw [if_pos h1] at h
    obtain rfl : k = 0 := by omega
    exact ⟨Nat.zero_lt_succ _, h1⟩
  · rw [if_neg h1] at h
    by_cases h2 : pidx x r < 0
    · rw [if_pos h2] at h
      omega
    · rw [if_neg h2] at h
      obtain ⟨j, rfl⟩ : ∃ j, k = j + 1 := ⟨k - 1, by omega⟩
      obtain ⟨h3, h4⟩ := pidx_at (x := x) (l := r) (k := j) (by omega)
      exact ⟨by simpa using h3, by simpa using h4⟩
theorem cfind_part {x : Int} {l : List Mf} {n k : Nat} (h : cfind x 0 l = some (n, k)) : ∃ (hn : n < l.length) (hk : k < (l[n]).2.2.2.2.2.length), phit x ((l[n]).2.2.2.2.2[k]) = true ∧ vpart l n k = some ((l[n]).2.2.2.2.2[k]) := by
 obtain ⟨-, h1, h2⟩ := cfind_some h
 simp only [Nat.sub_zero] at h1 h2
 obtain ⟨h3, h4⟩ := pidx_at h2
 refine ⟨h1, h3, h4, ?_⟩
 unfold vpart
 rw [if_neg (by omega)]
 simp [h1, h3]
def mhit (x : Int) (m : Mf) : Bool := decide (m.2.1 ≤ x) && decide (x < m.2.2.1)
theorem mhit_iff {x : Int} {m : Mf} : mhit x m = true ↔ m.2.1 ≤ x ∧ x < m.2.2.1 := by unfold mhit; simp
theorem mhit_pidx {x : Int} {m : Mf} (h : mchk m = 0) : 0 ≤ pidx x m.2.2.2.2.2 ↔ mhit x m = true := by
 obtain ⟨h1, h2⟩ := pgo_one (x := x) (mchk_ok h).2.2.2.2.2.2.2
 rw [mhit_iff]
 by_cases h3 : m.2.1 ≤ x ∧ x < m.2.2.1
 · exact ⟨fun _ => h3, fun _ => (h1 h3).2⟩
 · have h5 := (h2 h3).2
   exact ⟨fun h4 => (by omega), fun h4 => absurd h4 h3⟩
theorem cfind_none {x : Int} : ∀ {l : List Mf} {i : Nat}, (∀ m ∈ l, mchk m = 0) → (cfind x i l = none ↔ ∀ m ∈ l, mhit x m = false)
 | [], _, _ => ⟨fun _ _ h => (List.not_mem_nil h).elim, fun _ => rfl⟩
 | m :: r, i, h => by
  unfold cfind
  have hm := mhit_pidx (x := x) (h m List.mem_cons_self)
  by_cases h1 : 0 ≤ pidx x m.2.2.2.2.2
  · rw [if_pos h1]
    refine ⟨fun h => (by cases h), fun h2 => ?_⟩
    have h3 := h2 m List.mem_cons_self
    rw [hm.1 h1] at h3
    cases h3
  · rw [if_neg h1, cfind_none fun q hq => h q (List.mem_cons_of_mem _ hq)]
    have h4 : mhit x m = false := by
     cases h5 : mhit x m
     · rfl
     · exact absurd (hm.2 h5) h1
    refine ⟨fun h2 q hq => ?_, fun h2 q hq => h2 q (List.mem_cons_of_mem _ hq)⟩
    rcases List.mem_cons.1 hq with rfl | hq
    · exact h4
    · exact h2 q hq
theorem ckl_all {l : List Mf} (h : (ckl l).2 = 0) : ∀ m ∈ l, mchk m = 0 := fun m hm => by
 obtain ⟨k, hk, rfl⟩ := List.getElem_of_mem hm
 exact (ckl_ok h k hk).1
theorem cend_at {l : List Mf} (h : l ≠ []) : cend l = (l[l.length - 1]'(by have := List.length_pos_iff.2 h; omega)).2.2.1 := by
 unfold cend
 rw [List.getLast?_eq_some_getLast h, List.getLast_eq_getElem]
theorem chain_cover {l : List Mf} (h : (ckl l).2 = 0) (x : Int) (h0 : cbegin l ≤ x) : ∀ k (hk : k < l.length), x < (l[k]).2.2.1 → ∃ j, ∃ hj : j < l.length, mhit x l[j] = true
 | 0, hk, hx => ⟨0, hk, mhit_iff.2 ⟨by
     cases l with
     | nil => exact absurd hk (Nat.not_lt_zero _)
     | cons q r => exact h0, hx⟩⟩
 | k + 1, hk, hx => by
  by_cases h1 : (l[k]).2.2.1 ≤ x
  · exact ⟨k + 1, hk, mhit_iff.2 ⟨by rw [(ckl_next h k hk).1]; exact h1, hx⟩⟩
  · exact chain_cover h x h0 k (by omega) (by omega)
theorem chain_to {l : List Mf} (h : (ckl l).2 = 0) : ∀ (i k : Nat) (hk : k + i < l.length), (l[k]'(by omega)).2.2.1 ≤ (l[k + i]).2.2.1
 | 0, k, hk => by simp
 | i + 1, k, hk => by
  have h1 := chain_to h i k (by omega)
  have h2 := (ckl_next h (k + i) (by omega)).1
  have h3 := (mchk_ok (ckl_ok h (k + i + 1) (by omega)).1).2.2.2.2.1
  have h4 : k + (i + 1) = k + i + 1 := rfl
  simp only [h4]
  omega
theorem chain_beyond {l : List Mf} (h : (ckl l).2 = 0) {x : Int} (hx : cend l ≤ x) : cfind x 0 l = none := by
 refine (cfind_none (ckl_all h)).2 fun m hm => ?_
 obtain ⟨k, hk, rfl⟩ := List.getElem_of_mem hm
 have h1 := chain_to h (l.length - 1 - k) k (by omega)
 have h2 : l ≠ [] := fun e => by rw [e] at hk; exact absurd hk (Nat.not_lt_zero _)
 rw [cend_at h2] at hx
 have h3 : k + (l.length - 1 - k) = l.length - 1 := by omega
 simp only [h3] at h1
 cases h4 : mhit x l[k]
 · rfl
 · have := mhit_iff.1 h4
   omega
theorem chain_ahead {l : List Mf} (h : (ckl l).2 = 0) {x : Int} (hx : x < cbegin l) : cfind x 0 l = none := by
 refine (cfind_none (ckl_all h)).2 fun m hm => ?_
 obtain ⟨k, hk, rfl⟩ := List.getElem_of_mem hm
 have h5 : cbegin l ≤ (l[k]).2.1 := by
  clear hx hm
  induction k with
  | zero =>
   cases l with
   | nil => exact absurd hk (Nat.not_lt_zero _)
   | cons q r => exact Int.le_refl _
  | succ k ih =>
   have h1 := ih (by omega)
   have h2 := (ckl_next h k hk).1
   have h3 := (mchk_ok (ckl_ok h k (by omega)).1).2.2.2.2.1
   omega
 cases h4 : mhit x l[k]
 · rfl
 · have := mhit_iff.1 h4
   omega
theorem chain_in {l : List Mf} (h : (ckl l).2 = 0) {x : Int} (h0 : cbegin l ≤ x) (hx : x < cend l) (hl : l ≠ []) : ∃ n k, cfind x 0 l = some (n, k) := by
 rw [cend_at hl] at hx
 obtain ⟨j, hj, h1⟩ := chain_cover h x h0 (l.length - 1) (by have := List.length_pos_iff.2 hl; omega) hx
 cases h2 : cfind x 0 l with
 | none =>
  have h3 := (cfind_none (ckl_all h)).1 h2 _ (List.getElem_mem hj)
  rw [h1] at h3
  cases h3
 | some r => exact ⟨r.1, r.2, rfl⟩
section
variable {α : Type}
structure Gv (dec : α → Bs) (d : Dk α) (l : List Mf) : Prop extends Upd d where
 ck : (ckl l).2 = 0
 tt : ∀ n (h : n < l.length), ∃ x, gget (title n) d.sure = some x ∧ dec x = mfput l[n]
 tn : ∀ n, l.length ≤ n → gget (title n) d.sure = none
theorem Gv.mfo {dec : α → Bs} {d : Dk α} {l : List Mf} (h : Gv dec d l) (n : Nat) (hn : n < l.length) : mfTake (mfput l[n]) = (l[n], 0) := by
 have h1 := (ckl_ok h.ck n hn).1
 unfold mfput
 rw [if_pos h1, mfTake_put h1]
theorem Gv.few {dec : α → Bs} {d : Dk α} {l : List Mf} (h : Gv dec d l) : l.length ≤ 1000000 := by
 rcases Nat.eq_zero_or_pos l.length with h0 | h0
 · omega
 · have h1 := (mchk_ok (ckl_ok h.ck (l.length - 1) (by omega)).1).1
   rw [ckl_num h.ck (l.length - 1) (by omega)] at h1
   omega
theorem Gv.go {dec : α → Bs} {d : Dk α} {l : List Mf} (h : Gv dec d l) (hf : l.length < 1000000) : ∀ (k j : Nat), j ≤ l.length → l.length - j < k → vgo dec d k (l.take j) = (l, 0)
 | 0, j, hj, hk => absurd hk (Nat.not_lt_zero _)
 | k + 1, j, hj, hk => by
  have hlen : (l.take j).length = j := by simp [hj]
  unfold vgo
  rw [hlen]
  by_cases h1 : j = l.length
  · subst h1
    rw [h.toUpd.none (title_named hf) (h.tn _ (Nat.le_refl _)), if_pos rfl]
    simp
  · have hjl : j < l.length := by omega
    obtain ⟨x, hx, hd⟩ := h.tt j hjl
    rw [h.toUpd.some (title_named (by omega)) hx, hd, h.mfo j hjl, if_neg (by simp), if_neg (by simp), if_neg (by simp)]
    dsimp only
    rw [← List.take_succ_eq_append_getElem hjl]
    exact Gv.go h hf k (j + 1) hjl (by omega)
theorem titles_few : ∀ (k : Nat) (S : List (Bs × α)), (∀ n, n < k → (gget (title n) S).isSome = true) → k ≤ S.length
 | 0, _, _ => Nat.zero_le _
 | k + 1, S, h => by
  have h1 := titles_few k (gdel (title k) S) fun n hn => by
   rw [gget_del_other (fun e => by have := title_inj e; omega)]
   exact h n (by omega)
  have h2 := h k (by omega)
  obtain ⟨x, hx⟩ := Option.isSome_iff_exists.1 h2
  have h3 : (gdel (title k) S).length < S.length := by
   unfold gdel
   exact List.length_filter_lt_length_iff_exists.2 ⟨_, gget_mem hx, by simp⟩
  omega
theorem Gv.opens {dec : α → Bs} {z : α} {d d0 : Dk α} {l : List Mf} (h : Gv dec d l) (hf : l.length < 1000000) (ho : sOpen z d0 = (d, 0)) : vopen z dec d0 = (⟨d, l⟩, 0) := by
 have h1 : l.length ≤ d.sure.length := titles_few _ d.sure fun n hn => by
  obtain ⟨x, hx, _⟩ := h.tt n hn
  rw [hx]
  rfl
 have h2 := h.go hf (d.shown.length + 1) 0 (Nat.zero_le _) (by rw [shown_nil h.pn]; omega)
 rw [List.take_zero] at h2
 unfold vopen
 rw [ho]
 dsimp only
 rw [if_neg (by simp), h2]
 unfold vend
 rw [if_neg (by simp), if_neg (by rw [h.ck]; simp)]
end
end
section
open Go.RowKit
section
variable {α : Type}
theorem Upd.fre {d : Dk α} (hd : d.down = false) (hp : d.pend = []) {S : List (Bs × α)} (hs : d.sure = S) (hr : Ris S) (h : Sna S) : Upd d := ⟨hd, hp, by rw [hs]; exact hr, by rw [hs]; exact h⟩
theorem Gv.move {dec : α → Bs} {d d' : Dk α} {l : List Mf} (h : Gv dec d l) (h' : Upd d') (he : ∀ n, gget (title n) d'.sure = gget (title n) d.sure) : Gv dec d' l :=
 ⟨h', h.ck, fun n hn => by rw [he]; exact h.tt n hn, fun n hn => by rw [he]; exact h.tn n hn⟩
theorem Gv.snoc {dec : α → Bs} {d d' : Dk α} {l : List Mf} {m : Mf} {x : α} (h : Gv dec d l) (h' : Upd d') (hc : (ckl (l ++ [m])).2 = 0) (hs : d'.sure = gput (title l.length) x d.sure) (hx : dec x = mfput m) : Gv dec d' (l ++ [m]) :=
 ⟨h', hc, fun n hn => by
  rw [hs]
  by_cases h1 : n = l.length
  · subst h1
    rw [gget_put_same]
    exact ⟨x, rfl, by rw [hx]; simp⟩
  · have h2 : n < l.length := by simp at hn; omega
    rw [gget_put_other _ (fun e => h1 (title_inj e))]
    obtain ⟨y, h3, h4⟩ := h.tt n h2
    exact ⟨y, h3, by rw [h4, List.getElem_append_left h2]⟩, fun n hn => by
  simp at hn
  rw [hs, gget_put_other _ (fun e => by have := title_inj e; omega)]
  exact h.tn n (by omega)⟩
/-! ### parts -/
theorem mholds_ok {p : Pt5} {b : List UInt8} {s : Sg} (h : mholds p b = (s, 0)) : s.1 = p.1 ∧ (s.2.length : Int) = p.2.1 := by
 by_cases h1 : (b.length : Int) = p.2.2.1
 · by_cases h2 : shaD b = p.2.2.2
   · by_cases h3 : (sgTake b).2 = 0
     · by_cases h4 : (sgTake b).1.1 = p.1
       · by_cases h5 : ((sgTake b).1.2.length : Int) = p.2.1
         · rw [mholds_6 h1 h2 h3 h4 h5] at h
           injection h with h _
           subst h
           exact ⟨h4, h5⟩
         · rw [mholds_5 h1 h2 h3 h4 h5] at h
           injection h with _ h
           cases h
       · rw [mholds_4 h1 h2 h3 h4] at h
         injection h with _ h
         cases h
     · rw [mholds_3 h1 h2 h3] at h
       injection h with _ h
       exact absurd h h3
   · rw [mholds_2 h1 h2] at h
     injection h with _ h
     cases h
 · rw [mholds_1 h1] at h
   injection h with _ h
   cases h
theorem mof_held {s : Sg} {p : Pt5} {b : List UInt8} (h : mof s = (p, b, 0)) : mholds p b = (s, 0) ∧ p.1 = s.1 ∧ p.2.1 = s.2.length ∧ 1 ≤ s.2.length ∧ s.2.length ≤ 64 ∧ 0 ≤ s.1 ∧ s.1 + s.2.length ≤ 1048576 ∧ p.2.2.1 = b.length := by
 have h0 : s.2.length ≠ 0 := fun e => by
  by_cases h1 : schk s = 0
  · rw [mof_none h1 e] at h
    injection h with _ h
    injection h with _ h
    cases h
  · rw [mof_bad h1] at h
    injection h with _ h
    injection h with _ h
    exact h1 h
 obtain ⟨h1, rfl, rfl⟩ := mof_zero h
 obtain ⟨g1, g2, g3, g4, g5⟩ := schk_ok h1
 have h2 := sgTake_frm h1
 refine ⟨?_, rfl, rfl, by omega, g3, g1, g4, rfl⟩
 rw [mholds_6 rfl rfl (by rw [h2]) (by rw [h2]) (by rw [h2]), h2]
theorem mof_size {s : Sg} {p : Pt5} {b : List UInt8} (h : mof s = (p, b, 0)) : 1 ≤ b.length ∧ b.length ≤ 10000 := by
 obtain ⟨h1, -, rfl⟩ := mof_zero h
 have h2 := stxt_len h1
 have h3 := frm_len (stxt s)
 have h4 := vb_le10 (n := (stxt s).length) (by omega)
 omega
structure Kv (dec : α → Bs) (f0 : Int) (d : Dk α) (l : List Mf) (done : List Ce) : Prop extends Gv dec d l where
 be : l ≠ [] → cbegin l = f0
 en : l ≠ [] → cend l = f0 + done.length
 ne : l = [] → done = []
 hs : ∀ n (h : n < l.length), ∃ p x cs, (l[n]).2.2.2.2.2 = [p] ∧ gget (label n 0) d.sure = some x ∧ mholds p (dec x) = ((p.1, cs), 0) ∧ 1 ≤ cs.length ∧ f0 ≤ p.1 ∧ ∀ j (hj : j < cs.length), done[(p.1 - f0).toNat + j]? = some cs[j]
theorem Kv.move {f0 : Int} {dec : α → Bs} {d d' : Dk α} {l : List Mf} {done : List Ce} (h : Kv dec f0 d l done) (h' : Upd d') (he : ∀ n, gget (title n) d'.sure = gget (title n) d.sure) (hl : ∀ n, n < l.length → gget (label n 0) d'.sure = gget (label n 0) d.sure) : Kv dec f0 d' l done :=
 ⟨h.toGv.move h' he, h.be, h.en, h.ne, fun n hn => by rw [hl n hn]; exact h.hs n hn⟩
theorem Kv.added {f0 : Int} {dec : α → Bs} {d d' : Dk α} {l : List Mf} {done : List Ce} (h : Kv dec f0 d l done) (hf : l.length < 1000000) (h1 : d'.down = false) (h2 : d'.pend = []) {x : α} (he : d'.sure = gput (label l.length 0) x d.sure) : Kv dec f0 d' l done ∧ gget (label l.length 0) d'.sure = some x :=
 ⟨h.move (Upd.fre h1 h2 he (h.rs.put _ _) (h.na.put (label_named hf (by omega)) _))
  (fun n => by rw [he, gget_put_other _ (fun e => title_label _ _ _ e)])
  (fun n hn => by rw [he, gget_put_other _ (fun e => by have := (label_inj e).1; omega)]), by rw [he, gget_put_same]⟩
theorem Kv.next {f0 : Int} {dec : α → Bs} {d : Dk α} {l : List Mf} {done : List Ce} (h : Kv dec f0 d l done) (hf : l.length < 1000000) {t : Int} (ht0 : cmark l ≤ t) (ht : 0 ≤ t ∧ t ≤ 1048576) {s : Sg} {p : Pt5} {b : List UInt8} (hm : mof s = (p, b, 0)) (hs : s.1 = f0 + done.length) :
 cnext l (f0 + done.length) t [p] = (((l.length : Int), f0 + done.length, f0 + done.length + s.2.length, t, chead l, [p]), 0) := by
 obtain ⟨-, g1, g2, g3, g4, g5, g6, g7⟩ := mof_held hm
 obtain ⟨g8, g9⟩ := mof_size hm
 have hw : wsum (f0 + done.length) [p] = f0 + done.length + s.2.length := by
  simp only [wsum]
  rw [g2]
  unfold wrap64
  omega
 have hM : cnextM l (f0 + done.length) t [p] = ((l.length : Int), f0 + done.length, f0 + done.length + s.2.length, t, chead l, [p]) := by
  unfold cnextM
  rw [hw]
 have hk : mchk (cnextM l (f0 + done.length) t [p]) = 0 := by
  rw [hM]
  unfold mchk
  dsimp only
  rw [if_neg (by simp [inb]; omega)]
  rw [if_neg (by
   simp only [Bool.or_eq_true, Bool.and_eq_true, decide_eq_true_eq, Bool.not_eq_true', decide_eq_false_iff_not, beq_iff_eq, not_or, not_and, Decidable.not_not]
   refine ⟨by omega, fun h0 => ?_⟩
   have h3 : l = [] := List.length_eq_zero_iff.1 (by omega)
   subst h3
   rfl)]
  rw [if_neg (by simp)]
  unfold pgo
  rw [show ptchk p (f0 + done.length) = 0 from by
   unfold ptchk
   rw [if_neg (by omega), if_neg (by rw [g1, hs]; simp)], if_neg (by simp)]
  unfold pgo
  rw [g2, if_neg (by simp)]
 unfold cnext
 rw [if_neg (by rw [h.ck]; simp), if_neg (fun hx => by have := h.en hx.1; omega), if_neg (by rw [hk]; simp), hM]
theorem Kv.commits {f0 : Int} {dec : α → Bs} {enc : Bs → α} {len : α → Nat} {z : α} {d : Dk α} {l : List Mf} {done : List Ce} (h : Kv dec f0 d l done) (hf : l.length < 1000000) {t : Int} (ht0 : cmark l ≤ t) (ht : 0 ≤ t ∧ t ≤ 1048576) {s : Sg} {p : Pt5} {b : List UInt8} (hm : mof s = (p, b, 0)) (hs : s.1 = f0 + done.length) {x : α} (hx : gget (label l.length 0) d.sure = some x) (hxb : dec x = b) :
 vcommit len z dec enc ⟨d, l⟩ (cnext l (f0 + done.length) t [p]).1 = (if (sPut len z d (title l.length) (enc (mfput (cnext l (f0 + done.length) t [p]).1))).2 ≠ 0 then (⟨(sPut len z d (title l.length) (enc (mfput (cnext l (f0 + done.length) t [p]).1))).1, l⟩, (sPut len z d (title l.length) (enc (mfput (cnext l (f0 + done.length) t [p]).1))).2)
  else (⟨(sPut len z d (title l.length) (enc (mfput (cnext l (f0 + done.length) t [p]).1))).1, l ++ [(cnext l (f0 + done.length) t [p]).1]⟩, 0)) := by
 have h1 := h.next hf ht0 ht hm hs
 obtain ⟨h2, h3, h4, h5⟩ := cnext_ok (l := l) (f := f0 + done.length) (t := t) (ps := [p]) (by rw [h1])
 rw [← h3] at h4 h5
 unfold vcommit
 dsimp only
 rw [if_neg (by rw [h5]; simp)]
 have h6 : (cnext l (f0 + done.length) t [p]).1.1.toNat = l.length := by rw [h1]; simp
 have h7 : (cnext l (f0 + done.length) t [p]).1.2.2.2.2.2 = [p] := by rw [h1]
 rw [h6, h7]
 have h8 : vheld dec d l.length 0 [p] = 0 := by
  unfold vheld
  rw [h.toUpd.some (label_named hf (by omega)) hx, hxb, (mof_held hm).1]
  simp [vheld]
 rw [if_neg (by rw [h8]; simp)]
theorem Kv.committed {f0 : Int} {dec : α → Bs} {enc : Bs → α} {d d' : Dk α} {l : List Mf} {done : List Ce} (h : Kv dec f0 d l done) (hf : l.length < 1000000) (hde : ∀ b, dec (enc b) = b) {t : Int} (ht0 : cmark l ≤ t) (ht : 0 ≤ t ∧ t ≤ 1048576) {s : Sg} {p : Pt5} {b : List UInt8} (hm : mof s = (p, b, 0)) (hs : s.1 = f0 + done.length) {x : α} (hx : gget (label l.length 0) d.sure = some x) (hxb : dec x = b)
 (h1 : d'.down = false) (h2 : d'.pend = []) (he : d'.sure = gput (title l.length) (enc (mfput (cnext l (f0 + done.length) t [p]).1)) d.sure) : Kv dec f0 d' (l ++ [(cnext l (f0 + done.length) t [p]).1]) (done ++ s.2) := by
 have hN := h.next hf ht0 ht hm hs
 obtain ⟨-, h3, h4, h5⟩ := cnext_ok (l := l) (f := f0 + done.length) (t := t) (ps := [p]) (by rw [hN])
 rw [← h3] at h4 h5
 obtain ⟨k1, k2, k3, k4, k5, k6, k7, k8⟩ := mof_held hm
 have hU : Upd d' := Upd.fre h1 h2 he (h.rs.put _ _) (h.na.put (title_named hf) _)
 refine ⟨h.toGv.snoc hU h5 he (hde _), fun _ => ?_, fun _ => ?_, fun e => absurd e (by simp), fun n hn => ?_⟩
 · rw [hN]
   cases l with
   | nil =>
    have := h.ne rfl
    subst this
    simp only [List.nil_append, cbegin, List.length_nil]
    omega
   | cons q r => exact h.be (by simp)
 · unfold cend
   rw [List.getLast?_concat, hN]
   simp only [List.length_append]
   omega
 · rw [he, gget_put_other _ (fun e => title_label _ _ _ e.symm)]
   by_cases h6 : n = l.length
   · subst h6
     refine ⟨p, x, s.2, by simp [hN], hx, by rw [hxb, k1, k2], k4, by omega, fun j hj => ?_⟩
     rw [k2, hs, show (f0 + (done.length : Int) - f0).toNat = done.length from by omega, List.getElem?_append_right (by omega)]
     simp [hj]
   · have h7 : n < l.length := by simp at hn; omega
     obtain ⟨p1, x, cs, g1, g2, g3, g4, g5, g6⟩ := h.hs n h7
     refine ⟨p1, x, cs, by rw [List.getElem_append_left h7]; exact g1, g2, g3, g4, g5, fun j hj => ?_⟩
     have g7 := g6 j hj
     rw [List.getElem?_append_left ?_]
     · exact g7
     · exact (List.getElem?_eq_some_iff.1 g7).1
theorem Kv.get {f0 : Int} {dec : α → Bs} {d : Dk α} {l : List Mf} {done : List Ce} (h : Kv dec f0 d l done) {a : Int} {n k : Nat} (hc : cfind a 0 l = some (n, k)) :
 ∃ (p : Pt5) (cs : List Ce), vget dec ⟨d, l⟩ n k = ((p.1, cs), 0) ∧ p.1 ≤ a ∧ f0 ≤ p.1 ∧ a < p.1 + cs.length ∧ ∀ j (hj : j < cs.length), done[(p.1 - f0).toNat + j]? = some cs[j] := by
 obtain ⟨hn, hk, h1, h2⟩ := cfind_part hc
 obtain ⟨p, x, cs, g1, g2, g3, g4, g5, g6⟩ := h.hs n hn
 have hk0 : k = 0 := by rw [g1] at hk; simpa using hk
 subst hk0
 simp only [g1, List.getElem_cons_zero] at h1 h2
 refine ⟨p, cs, ?_, (phit_iff.1 h1).1, g5, by have := (mholds_ok g3).2; dsimp only at this; have := (phit_iff.1 h1).2; omega, g6⟩
 unfold vget
 dsimp only
 rw [h2]
 dsimp only
 have hf := h.toGv.few
 rw [Int.toNat_natCast, show ((0 : Nat) : Int).toNat = 0 from rfl, h.toUpd.some (label_named (by omega) (by omega)) g2, if_neg (by simp), g3]
theorem Kv.read {f0 : Int} {dec : α → Bs} {d : Dk α} {l : List Mf} {done : List Ce} (h : Kv dec f0 d l done) (a : Nat) (ha : a < done.length) (hm : cmark l ≤ f0 + a) : vread dec ⟨d, l⟩ (f0 + a) = (done[a], 0) := by
 have hl : l ≠ [] := fun e => by
  have := h.ne e
  rw [this] at ha
  exact absurd ha (Nat.not_lt_zero _)
 obtain ⟨n, k, hc⟩ := chain_in (x := f0 + a) h.ck (by rw [h.be hl]; omega) (by rw [h.en hl]; omega) hl
 obtain ⟨p, cs, h1, h2, h3, h4, h5⟩ := h.get hc
 unfold vread
 dsimp only
 rw [hc]
 dsimp only
 rw [if_neg (by omega), h1, if_neg (by simp)]
 dsimp only
 have h6 := h5 (f0 + (a : Int) - p.1).toNat (by omega)
 have h7 : (p.1 - f0).toNat + (f0 + (a : Int) - p.1).toNat = a := by omega
 rw [h7, List.getElem?_eq_getElem ha] at h6
 injection h6 with h6
 rw [List.getD_eq_getElem?_getD, List.getElem?_eq_getElem (by omega), h6]
 rfl
theorem Kv.beyond {f0 : Int} {dec : α → Bs} {d : Dk α} {l : List Mf} {done : List Ce} (h : Kv dec f0 d l done) (a : Int) (ha : a < f0 ∨ f0 + done.length ≤ a) : cfind a 0 l = none ∧ vread dec ⟨d, l⟩ a = ((0, []), 4) := by
 have h1 : cfind a 0 l = none := by
  by_cases hl : l = []
  · rw [hl]; rfl
  rcases ha with ha | ha
  · exact chain_ahead h.ck (by rw [h.be hl]; exact ha)
  · exact chain_beyond h.ck (by rw [h.en hl]; exact ha)
 refine ⟨h1, ?_⟩
 unfold vread
 dsimp only
 rw [h1]
end
end
section
open Go.RowKit Go.Shelf
theorem Dgo.blk {w w' : World} {q : Fp} {d d' : Dk Sv} {g : Nat} {t : TypeId} {cs : Array Value} (h : Dgo w q d d' w') (hB : Blk w g t cs) (hn : ¬ q.M g) : Blk w' g t cs := by
 obtain ⟨q', -, -, hF, -, -⟩ := h
 exact (hF.block g hB.lt hn).trans hB
def PutG (w : World) (L : List (Nat × TypeId × Array Value)) (q : Fp) (d d' : Dk Sv) (W : World) : Prop := ∃ wq, Mm w wq L [] ∧ Dgo wq q d d' W
theorem PutG.vgo {w W W' : World} {L : List (Nat × TypeId × Array Value)} {gv gs : Nat} {q : Fp} {d d' : Dk Sv} {l : List MfV} {E : Option Addr} {cap g : Nat} (h0 : VtM w gv gs q d l E cap) (hP : PutG w L q d d' W) (hg : w.heap.size ≤ g) (hlt : ∀ wq, Mm w wq L [] → g < wq.heap.size) (hw : Wr W W' g) : Vgo w gv gs q d d' l E cap W' := by
 obtain ⟨wq, hMm, hD⟩ := hP
 obtain ⟨q', e, hV, hF, hM, hT⟩ := (h0.below hMm.bel).dgo hD
 have hs := hMm.bel.size
 have hgq := hlt wq hMm
 have hTq : ¬ Tc q' d' g := fun ht => by
  rcases hT g ht with h1 | h1
  · have := h0.st.dsk.lt h1
    omega
  · omega
 have hF2 : Frd q w W := (Frd.of_below hMm.bel).trans hF fun _ hi => .inl hi
 refine ⟨q', e, h0.own hV hg hw.size hTq (fun i hi hne => hw.block i hi (fun e => hne (by injection e))), ⟨hw.os.trans hF2.os, hw.tape.trans hF2.tape, hw.output.trans hF2.output, Nat.le_trans hF2.size hw.size, fun i hi hn => (hw.block i (Nat.lt_of_lt_of_le hi hF2.size) (fun e => by injection e with e; omega)).trans (hF2.block i hi hn)⟩, fun i hi => (hM i hi).imp id (fun h => Nat.le_trans hs h), fun i hi => (hT i hi).imp id (fun h => Nat.le_trans hs h)⟩
def GivesAdd (w : World) (gv gs : Nat) (q : Fp) (d : Dk Sv) (l : List MfV) (E : Option Addr) (cap : Nat) (number place : Int) (s : Sg) (e : Ending) (w' : World) : Prop :=
 ∃ A' c', e = .returned (.tuple #[.agg (pta (vadd svl Sv.nil (fun x => ⟨A', c', x⟩) ⟨d, mvs l⟩ number place s).1), errv (vadd svl Sv.nil (fun x => ⟨A', c', x⟩) ⟨d, mvs l⟩ number place s).2.2]) ∧ Vgo w gv gs q d (vadd svl Sv.nil (fun x => ⟨A', c', x⟩) ⟨d, mvs l⟩ number place s).2.1.d l E cap w'
theorem mof_bytes (s : Sg) : (mof s).2.1.length ≤ 10000 := by
 rcases Nat.eq_zero_or_pos (mof s).2.2 with h | h
 · have h1 : mof s = ((mof s).1, (mof s).2.1, 0) := Prod.ext rfl (Prod.ext rfl h)
   exact (mof_size h1).2
 · by_cases h1 : schk s = 0
   · by_cases h2 : s.2.length = 0
     · rw [mof_none h1 h2]
       exact Nat.zero_le _
     · rw [mof_ok h1 h2] at h
       exact absurd h (Nat.lt_irrefl 0)
   · rw [mof_bad h1]
     exact Nat.zero_le _
set_option maxRecDepth 100000 in
set_option maxHeartbeats 2000000 in
theorem VAdd_any {w : World} {gv gs : Nat} {q : Fp} {d : Dk Sv} {l : List MfV} {E : Option Addr} {cap : Nat} (h : VtM w gv gs q d l E cap) (hG : Shg w) (hfo : Fok d) (hd9 : d.sure.length + d.pend.length ≤ 900) {B : Option Addr} {k : Nat} (number place f : Int) (cs : List CeV) (hs : SlC w B k cs) (hl : l.length < 100) (hp : place < 100) :
 Calls Tryz.prog 10 #[.pointer (some ⟨gv, 0, none⟩), .int .i64 number, .int .i64 place, cv f B cs.length k] w (GivesAdd w gv gs q d l E cap number place (f, cs.map ceOf)) := by
 have hM := ((Mm.start w).alloc #[.int .i64 f, .slice B cs.length k] 43).alloc (pta ptz) 37
 rw [show (w.alloc (.cells #[.int .i64 f, .slice B cs.length k] 43)).heap.size = w.heap.size + 1 from by simp] at hM
 have HS := Lib.hid (fun W (hh : Below w.heap.size w W) => (h.below hh).two)
 have H0 := Lib.hid h
 have HG := Lib.hid (fun W (hh : Below w.heap.size w W) => hG.below hh)
 have HO := Lib.hid (fun W (hh : Below w.heap.size w W) => MOf_any f cs W (hG.below hh) (hs.below hh))
 have HV := Lib.hid (fun (enc : Bs → Sv) => (show vadd svl Sv.nil enc ⟨d, mvs l⟩ number place (f, cs.map ceOf) = (if number ≠ (mvs l).length ∨ place < 0 ∨ 1023 < place then (ptz, ⟨d, mvs l⟩, 1)
  else if (mof (f, cs.map ceOf)).2.2 ≠ 0 then (ptz, ⟨d, mvs l⟩, (mof (f, cs.map ceOf)).2.2)
  else if (sPut svl Sv.nil d (label number.toNat place.toNat) (enc (mof (f, cs.map ceOf)).2.1)).2 ≠ 0 then (ptz, ⟨(sPut svl Sv.nil d (label number.toNat place.toNat) (enc (mof (f, cs.map ceOf)).2.1)).1, mvs l⟩, (sPut svl Sv.nil d (label number.toNat place.toNat) (enc (mof (f, cs.map ceOf)).2.1)).2)
  else ((mof (f, cs.map ceOf)).1, ⟨(sPut svl Sv.nil d (label number.toNat place.toNat) (enc (mof (f, cs.map ceOf)).2.1)).1, mvs l⟩, 0)) from rfl))
 rw [mvs_len] at HV
 clear h hG hs
 by_cases hr : number ≠ (l.length : Int) ∨ place < 0 ∨ 1023 < place
 · have HT := Lib.hid (fun enc => by have := HV.out enc; rw [if_pos hr] at this; exact this)
   clear HV HO HG
   by_cases c1 : number = (l.length : Int)
   · by_cases c2 : place < 0
     · have hnn : (number != (l.length : Int)) = false := by simp [c1]
       go_enter Tryz.func10, Tryz.ntmps10
       go_upto_region 1 with (fail)
       refine gen1 (T := fun W => Mm w W [(w.heap.size + 1, 37, pta ptz), (w.heap.size, 43, #[.int .i64 f, .slice B cs.length k])] []) hM (fun w1 hM => ?_)
       obtain ⟨a0, a1⟩ := HS.out _ hM.bel
       go_wp2_with (first | (refine wpl_buildPz rfl rfl ?_) | (refine wpList_store_row rfl 37 _ _ rfl (w.heap.size + 1) (pta ptz) rfl rfl 37 (pta ptz) hM.b0 (by rw [pta_size]; kernel_rfl) rfl (pta_all _) ?_))
       exact bodyPost_ret (res_ptV rfl rfl (g := w.heap.size + 1) hM.b0.row) rfl ⟨none, 0, by rw [HT.out]; rfl, by rw [HT.out]; exact H0.out.still (below_setRow hM.bel (by omega) _)⟩
     · omega
   · have hnn : (number != (l.length : Int)) = true := by simpa using c1
     go_enter Tryz.func10, Tryz.ntmps10
     go_upto_region 1 with (fail)
     refine gen1 (T := fun W => Mm w W [(w.heap.size + 1, 37, pta ptz), (w.heap.size, 43, #[.int .i64 f, .slice B cs.length k])] []) hM (fun w1 hM => ?_)
     obtain ⟨a0, a1⟩ := HS.out _ hM.bel
     go_wp2_with (first | (refine wpl_buildPz rfl rfl ?_) | (refine wpList_store_row rfl 37 _ _ rfl (w.heap.size + 1) (pta ptz) rfl rfl 37 (pta ptz) hM.b0 (by rw [pta_size]; kernel_rfl) rfl (pta_all _) ?_))
     exact bodyPost_ret (res_ptV rfl rfl (g := w.heap.size + 1) hM.b0.row) rfl ⟨none, 0, by rw [HT.out]; rfl, by rw [HT.out]; exact H0.out.still (below_setRow hM.bel (by omega) _)⟩
 · obtain ⟨y, rfl⟩ : ∃ y : Nat, place = (y : Int) := ⟨place.toNat, by omega⟩
   obtain rfl : number = (l.length : Int) := by omega
   have hnn : (((l.length : Int)) != (l.length : Int)) = false := by simp
   have hV2 := fun enc => (HV.out enc).trans (if_neg hr)
   rw [Int.toNat_natCast, Int.toNat_natCast] at hV2
   have HL := Lib.hid (fun W => Label_any l.length y W hl (by omega))
   have hlab : (label l.length y).length ≤ 9223372036854775807 := by rw [label_len (by omega) (by omega)]; decide
   have hy0 : ¬ ((y : Int) < 0) := by omega
   have hy1 : ¬ (1023 < (y : Int)) := by omega
   generalize hlb : label l.length y = lb at *
   have HW := Lib.hid hV2
   clear HV hV2 hr hlb hp
   have hmb := mof_bytes (f, cs.map ceOf)
   generalize mof (f, cs.map ceOf) = mo at *
   obtain ⟨p, b, bad⟩ := mo
   dsimp only at HW hmb
   have hpp := Lib.hid (pta_size p)
   have hpa := Lib.hid (pta_all p)
   go_enter Tryz.func10, Tryz.ntmps10
   go_upto_region 1 with (fail)
   refine gen1 (T := fun W => Mm w W [(w.heap.size + 1, 37, pta ptz), (w.heap.size, 43, #[.int .i64 f, .slice B cs.length k])] []) hM (fun w1 hM => ?_)
   obtain ⟨a0, a1⟩ := HS.out _ hM.bel
   obtain ⟨z0, z1, -, -⟩ := hM.b1.two
   go_wp2_with fail
   refine (HO.out _ hM.bel).mono ?_
   rintro e w2 ⟨A2, c2, m2, rfl, hm2, ho2, hb2⟩
   have hM2 := hM.call hb2
   have hlo := hM.bel.size
   clear hM hb2 HO a0 a1 z0 z1
   dsimp only at hm2 ⊢
   go_upto_region 6 with ((refine wpl_storeN rfl 37 _ _ rfl _ (pta p) 37 rfl rfl (by rw [hpp.out]; kernel_rfl) (by rw [hpp.out]; rfl) hpa.out ?_))
   refine gen1 (T := fun W => Mm w W [(w2.heap.size, 37, pta p), (w.heap.size + 1, 37, pta ptz), (w.heap.size, 43, #[.int .i64 f, .slice B cs.length k])] [] ∧ SlB W A2 c2 m2) ⟨hM2.alloc _ _, Sl.below ho2.sl (below_new _ _)⟩ (fun w3 hT => ?_)
   obtain ⟨hM, hsb⟩ := hT
   have hg8 := hM2.b0.lt
   have hfr : m2 ≠ [] → ∀ ad, A2 = some ad → ad.block ≠ q.g := fun _ ad hA e => by
    have h1 := (Own.lt ho2 ad.block (by rw [hA]; rfl)).1
    have h2 := H0.out.st.dsk.ltM (i := q.g) (.inl rfl)
    omega
   have hn1 : ¬ q.M (w.heap.size + 1) := fun h1 => by have := H0.out.st.dsk.ltM h1; omega
   have hn8 : ¬ q.M w2.heap.size := fun h1 => by have := H0.out.st.dsk.ltM h1; omega
   have hav : ¬ q.M gv := H0.out.av
   generalize w2.heap.size = g8 at *
   clear hM2 ho2
   rcases errv_cases bad with ⟨h0, hev⟩ | ⟨ke, hk1, hke, hev⟩
   rotate_left
   · have HT := Lib.hid (fun enc => by have h9 := HW.out enc; rw [if_pos (show bad ≠ 0 by omega)] at h9; exact h9)
     have HEV := Lib.hid hev
     rw [hev]
     clear hev HW hke
     go_wp2_with (first | (refine wpl_buildPz rfl rfl ?_) | (refine wpList_store_row rfl 37 _ _ rfl (w.heap.size + 1) (pta ptz) rfl rfl 37 (pta ptz) hM.b1 (by rw [pta_size]; kernel_rfl) rfl (pta_all _) ?_))
     exact bodyPost_ret (res_ptV rfl rfl (g := w.heap.size + 1) hM.b1.row) rfl ⟨none, 0, by rw [HT.out]; dsimp only; rw [HEV.out]; rfl, by rw [HT.out]; exact H0.out.still (below_setRow hM.bel (by omega) _)⟩
   · have HV2 := Lib.hid (fun enc => by have h9 := HW.out enc; rw [if_neg (show ¬ bad ≠ 0 by omega)] at h9; exact h9)
     rw [hev]
     clear hev HW
     go_upto_region 8 with (fail)
     have hMd := hM.drew
     have hsd : SlB (World.drew w3) A2 c2 m2 := hsb
     have hst : Blk (World.drew w3) gv 94 #[.pointer (some ⟨gs, 0, none⟩), .slice E l.length cap] ∧ Blk (World.drew w3) (w.heap.size + 1) 37 (pta ptz) ∧ Blk (World.drew w3) g8 37 (pta p) := ⟨(H0.out.below hMd.bel).bl, hMd.b1, hMd.b0⟩
     have HPut := Lib.hid (fun W (hh : Below w.heap.size w W) (hs : SlB W A2 c2 m2) => SPut_any (H0.out.below hh).st hfo hd9 lb hlab m2 hs hfr (by rw [hm2.out]; omega))
     clear hM hsb
     refine wp_region_seq (S := (fun W => Blk W gv 94 #[.pointer (some ⟨gs, 0, none⟩), .slice E l.length cap] ∧ Blk W (w.heap.size + 1) 37 (pta ptz) ∧ Blk W g8 37 (pta p))) [(0, true), (1, true), (2, true), (3, true), (4, true), (5, true), (7, true), (6, false), (8, false), (9, true)] (by kernel_rfl) (by kernel_rfl) (fun _ _ _ _ _ h => h) ?_ (fun hHeld => ?_)
     · first | with_reducible exact hst | with_reducible exact hHeld
     refine gen0 (T := fun W => ((fun W => Blk W gv 94 #[.pointer (some ⟨gs, 0, none⟩), .slice E l.length cap] ∧ Blk W (w.heap.size + 1) 37 (pta ptz) ∧ Blk W g8 37 (pta p))) W ∧ Mm w W [(g8, 37, pta p), (w.heap.size + 1, 37, pta ptz), (w.heap.size, 43, #[.int .i64 f, .slice B cs.length k])] [] ∧ SlB W A2 c2 m2 ∧ True) ?_ (fun wq1 hT => ?_)
     · exact ⟨by (with_reducible exact hst), by (with_reducible assumption), by (with_reducible assumption), trivial⟩
     (try clear f0 f1 f2 f3 f4 f5 f6 f7 f8 f9 f10 f11)
     obtain ⟨hHeld, f0, f1, -⟩ := hT
     refine seq_take (oi := ⟨some 47, _, _, _, _, _⟩) (v := ?_) rfl (Or.inl ⟨by kernel_rfl, ?_⟩) (by assumption) ?_
     rotate_left
     · (intro wS hSw; (try dsimp only at hSw); have a0 := hSw.1.cell 0; have a1 := hSw.1.cell 1; clear hSw; refine execV (fun rho hk1 hk2 hk3 hk => ?_); have e0_ := (hk 0).trans (evalP fg0); clear hk; go_simp; (try with_reducible rfl))
     ((with_reducible refine wpSeq_put ?_; go_big_move))
     refine seq_take (oi := ⟨some 48, _, _, _, _, _⟩) (v := ?_) rfl (Or.inl ⟨by kernel_rfl, ?_⟩) (by assumption) ?_
     rotate_left
     · (intro wS hSw; (try dsimp only at hSw); have a0 := hSw.1.cell 0; have a1 := hSw.1.cell 1; clear hSw; refine execV (fun rho hk1 hk2 hk3 hk => ?_); have e47_ := (hk 47).trans (evalP (fg8 (fg8 (fg8 (fg8 (fg8 (fg1 (fg1 (fg1 (fg1 (fg1 (fg1 (fg1 fg0))))))))))))); clear hk; go_simp; (try with_reducible rfl))
     ((with_reducible refine wpSeq_put ?_; go_big_move))
     refine seq_take (oi := ⟨some 49, _, _, _, _, _⟩) (v := ?_) rfl (Or.inl ⟨by kernel_rfl, ?_⟩) (by assumption) ?_
     rotate_left
     · (intro wS hSw; (try dsimp only at hSw); have a0 := hSw.1.cell 0; have a1 := hSw.1.cell 1; clear hSw; refine execV (fun rho hk1 hk2 hk3 hk => ?_); have e48_ := (hk 48).trans (evalP (fg8 (fg8 (fg8 (fg8 (fg8 (fg8 fg0))))))); clear hk; go_simp; (try with_reducible rfl))
     ((with_reducible refine wpSeq_put ?_; go_big_move))
     refine seq_take (oi := ⟨some 50, _, _, _, _, _⟩) (v := ?_) rfl (Or.inl ⟨by kernel_rfl, ?_⟩) (by assumption) ?_
     rotate_left
     · (intro wS hSw; (try dsimp only at hSw); have a0 := hSw.1.cell 0; have a1 := hSw.1.cell 1; clear hSw; refine execV (fun rho hk1 hk2 hk3 hk => ?_); have e49_ := (hk 49).trans (evalP (fg8 (fg8 (fg8 (fg8 (fg8 (fg8 (fg1 fg0)))))))); clear hk; go_simp; (try with_reducible rfl))
     ((with_reducible refine wpSeq_put ?_; go_big_move))
     refine seq_take (oi := ⟨some 51, _, _, _, _, _⟩) (v := ?_) rfl (Or.inl ⟨by kernel_rfl, ?_⟩) (by assumption) ?_
     rotate_left
     · (intro wS hSw; (try dsimp only at hSw); have a0 := hSw.1.cell 0; have a1 := hSw.1.cell 1; clear hSw; refine execV (fun rho hk1 hk2 hk3 hk => ?_); have e1_ := (hk 1).trans (evalP (fg1 fg0)); clear hk; go_simp; (try with_reducible rfl))
     ((with_reducible refine wpSeq_put ?_; go_big_move))
     refine seq_take (oi := ⟨some 52, _, _, _, _, _⟩) (v := ?_) rfl (Or.inl ⟨by kernel_rfl, ?_⟩) (by assumption) ?_
     rotate_left
     · (intro wS hSw; (try dsimp only at hSw); have a0 := hSw.1.cell 0; have a1 := hSw.1.cell 1; clear hSw; refine execV (fun rho hk1 hk2 hk3 hk => ?_); have e2_ := (hk 2).trans (evalP (fg1 (fg1 fg0))); clear hk; go_simp; (try with_reducible rfl))
     ((with_reducible refine wpSeq_put ?_; go_big_move))
     refine seq_take (oi := ⟨some 54, _, _, _, _, _⟩) (v := ?_) rfl (Or.inl ⟨by kernel_rfl, ?_⟩) (by assumption) ?_
     rotate_left
     · (intro wS hSw; (try dsimp only at hSw); have a0 := hSw.1.cell 0; have a1 := hSw.1.cell 1; clear hSw; refine execV (fun rho hk1 hk2 hk3 hk => ?_); have e11_ := (hk 11).trans (evalP (fg8 (fg1 (fg1 (fg1 fg0))))); clear hk; go_simp; (try with_reducible rfl))
     ((with_reducible refine wpSeq_put ?_; go_big_move))
     refine seq_step (o := ⟨some 53, _, _, _, _, _⟩) rfl (fun K hK => ?_)
     with_reducible refine wantedP (by kernel_rfl) ?_
     (go_big_op)
     (refine (HL.out _).mono ?_; rintro e w12 ⟨rfl, hb9⟩)
     go_wp2_with fail
     refine hK.out _ _ ?_ (fun _ => ?_)
     · ((try dsimp only); (exact ⟨Blk.below hHeld.1 hb9, Blk.below hHeld.2.1 hb9, Blk.below hHeld.2.2 hb9⟩))
     clear hK K
     ((try simp only [Act.put, pS0, pS1, pS2]))
     refine gen0 (T := fun W => ((fun W => Blk W gv 94 #[.pointer (some ⟨gs, 0, none⟩), .slice E l.length cap] ∧ Blk W (w.heap.size + 1) 37 (pta ptz) ∧ Blk W g8 37 (pta p))) W ∧ Mm w W [(g8, 37, pta p), (w.heap.size + 1, 37, pta ptz), (w.heap.size, 43, #[.int .i64 f, .slice B cs.length k])] [] ∧ SlB W A2 c2 m2 ∧ True) ?_ (fun wq2 hT => ?_)
     · exact ⟨by (exact ⟨Blk.below hHeld.1 hb9, Blk.below hHeld.2.1 hb9, Blk.below hHeld.2.2 hb9⟩), by (with_reducible exact f0.call hb9), by (with_reducible exact Sl.below f1 hb9), trivial⟩
     (try clear f0 f1 f2 f3 f4 f5 f6 f7 f8 f9 f10 f11)
     obtain ⟨hHeld, f0, f1, -⟩ := hT
     refine seq_step (o := ⟨some 55, _, _, _, _, _⟩) rfl (fun K hK => ?_)
     with_reducible refine wantedP (by kernel_rfl) ?_
     (go_big_op)
     (refine (HPut.out _ f0.bel f1).mono ?_; rintro e w12 ⟨A9, c9, rfl, hD9⟩)
     go_wp2_with fail
     refine hK.out _ _ ?_ (fun _ => ?_)
     · ((try dsimp only); (exact ⟨Dgo.blk hD9 hHeld.1 hav, Dgo.blk hD9 hHeld.2.1 hn1, Dgo.blk hD9 hHeld.2.2 hn8⟩))
     clear hK K
     ((try simp only [Act.put, pS0, pS1, pS2]))
     refine gen0 (T := fun W => ((fun W => Blk W gv 94 #[.pointer (some ⟨gs, 0, none⟩), .slice E l.length cap] ∧ Blk W (w.heap.size + 1) 37 (pta ptz) ∧ Blk W g8 37 (pta p))) W ∧ PutG w [(g8, 37, pta p), (w.heap.size + 1, 37, pta ptz), (w.heap.size, 43, #[.int .i64 f, .slice B cs.length k])] q d (sPut svl Sv.nil d lb ⟨A9, c9, m2⟩).1 W ∧ True) ?_ (fun wq3 hT => ?_)
     · exact ⟨by (exact ⟨Dgo.blk hD9 hHeld.1 hav, Dgo.blk hD9 hHeld.2.1 hn1, Dgo.blk hD9 hHeld.2.2 hn8⟩), by (exact ⟨_, f0, hD9⟩), trivial⟩
     (try clear f0 f1 f2 f3 f4 f5 f6 f7 f8 f9 f10 f11)
     obtain ⟨hHeld, f0, -⟩ := hT
     refine seq_take (oi := ⟨some 13, _, _, _, _, _⟩) (v := ?_) rfl (Or.inl ⟨by kernel_rfl, ?_⟩) (by assumption) ?_
     rotate_left
     · (intro wS hSw; (try dsimp only at hSw); have a0 := hSw.1.cell 0; have a1 := hSw.1.cell 1; clear hSw; refine execV (fun rho hk1 hk2 hk3 hk => ?_); have e55_ := (hk 55).trans (evalP (fg8 (fg8 (fg8 (fg8 (fg8 (fg8 (fg1 (fg1 (fg1 (fg1 (fg1 (fg1 (fg1 fg0)))))))))))))); clear hk; go_simp; (try with_reducible rfl))
     ((with_reducible refine wpSeq_put ?_; go_big_move))
     refine seq_done ?_
     have HX := HV2.out (fun x => ⟨A9, c9, x⟩)
     (try dsimp only at HX)
     rw [← hm2.out] at HX
     have HP := Lib.hid f0
     obtain ⟨hv1, hB1, hB8⟩ := hHeld
     clear HV2 hMd hsd hst HPut HL f0 hv1
     generalize hr9 : sPut svl Sv.nil d lb ⟨A9, c9, m2⟩ = r at *
     obtain ⟨d9, k9⟩ := r
     (try dsimp only at HX)
     (try dsimp only)
     rcases errv_cases k9 with ⟨h9, hev⟩ | ⟨ke, hk1, hke, hev⟩
     rotate_left
     · rw [if_pos (show k9 ≠ 0 by omega)] at HX
       have HT := Lib.hid HX
       have HEV := Lib.hid hev
       rw [hev]
       clear hev HX hke
       go_wp2_with (first | (refine wpl_buildPz rfl rfl ?_) | (refine wpList_store_row rfl 37 _ _ rfl (w.heap.size + 1) (pta ptz) rfl rfl 37 (pta ptz) hB1 (by rw [pta_size]; kernel_rfl) rfl (pta_all _) ?_))
       exact bodyPost_ret (res_ptV rfl rfl (g := w.heap.size + 1) hB1.row) rfl ⟨A9, c9, by rw [HT.out]; dsimp only; rw [HEV.out]; rfl, by rw [HT.out]; exact PutG.vgo H0.out HP.out (by omega) (fun wq h => h.b1.lt) (Wr.row _)⟩
     · rw [if_neg (show ¬ k9 ≠ 0 by omega)] at HX
       have HT := Lib.hid HX
       rw [hev]
       clear hev HX
       go_wp2_with (first | (refine wpl_loadG rfl 37 _ rfl ⟨g8, 0, none⟩ (pta p) rfl hB8.cells _ Tryz.underlying37 rfl (by rw [hpp.out]; kernel_rfl) ?_) | (refine wpList_store_row rfl 37 _ _ rfl (w.heap.size + 1) (pta p) rfl rfl 37 (pta ptz) hB1 (by rw [hpp.out]; kernel_rfl) (by rw [pta_size, hpp.out]) hpa.out ?_))
       exact bodyPost_ret (res_ptV rfl rfl (g := w.heap.size + 1) hB1.row) rfl ⟨A9, c9, by rw [HT.out]; rfl, by rw [HT.out]; exact PutG.vgo H0.out HP.out (by omega) (fun wq h => h.b1.lt) (Wr.row _)⟩
end
end Go.Proofs.YtajfnmohlnkncaaGreatDoor
