/- WHAT IT HOLDS: a cursor's bytes, put and taken, plainly (no program). | WHAT IT HOLDS: a manifest's bytes, put and taken, plainly (no program). | WHAT IT HOLDS: SHA-256, plainly (no program): words, rounds, blocks, the digest; the constants as roots. | WHAT IT HOLDS: chains of manifests, plainly (no program). | WHAT IT HOLDS: manifests in memory. | WHAT IT HOLDS: cursor.Put, walked, for any cursor. | WHAT IT HOLDS: sha's words turned, walked: both sides' turns. -/
import Derived.Test.YtajfnmohlnkncaaGreatDoorVaultAgreesG09
import Derived.Test.YtajfnmohlnkncaaGreatDoorVaultAgreesG08
import Derived.Test.YtajfnmohlnkncaaGreatDoorVaultAgreesG06
import Derived.Test.YtajfnmohlnkncaaGreatDoorVaultAgreesG01
import Derived.Deep.DeepCutAuto
import Derived.Deep.CutBlock
import Derived.Test.YtajfnmohlnkncaaGreatDoorVaultAgreesG07
namespace Go.Proofs.YtajfnmohlnkncaaGreatDoor
section
open Go.RowKit
theorem rWithin_vbC {n m : Nat} (h : n ≤ m) (hm : m ≤ 4611686018427387904) (r : List UInt8) : rWithin m (vb n ++ r, 0) = (n, (r, 0)) := by
 unfold rWithin
 rw [rNum_vb (by unfold U64; omega), if_neg (by omega)]
theorem rFail_neC (k : Nat) (s : List UInt8 × Nat) (hk : k ≠ 0) : (rFail k s).2 ≠ 0 := by
 unfold rFail
 split
 · exact hk
 · assumption
theorem rEnd_zeroC {s : List UInt8 × Nat} (h : rEnd s = 0) : s.2 = 0 ∧ s.1 = [] := by
 unfold rEnd at h
 by_cases h1 : s.2 = 0 ∧ 0 < s.1.length
 · rw [if_pos h1] at h; omega
 · rw [if_neg h1] at h
   exact ⟨h, by rcases s with ⟨l, b⟩; cases l with | nil => rfl | cons a r => simp at h1 h; omega⟩
theorem rNum_someC {s s1 : List UInt8 × Nat} {n : Nat} (h : rNum s = (n, s1)) (h0 : s1.2 = 0) : s.2 = 0 ∧ U64 n ∧ s.1 = vb n ++ s1.1 := by
 unfold rNum at h
 by_cases hb : s.2 = 0
 · rw [if_neg (by simpa using hb)] at h
   cases ht : take s.1 with
   | none => rw [ht] at h; dsimp only at h; injection h with _ h; rw [← h] at h0; exact absurd h0 (Nat.succ_ne_zero 1)
   | some p =>
    obtain ⟨v, e⟩ := p
    rw [ht] at h
    dsimp only at h
    injection h with h1 h2
    obtain ⟨hu, he, hte⟩ := take_some ht
    subst h1
    rw [← h2]
    dsimp only
    exact ⟨hb, hu, by rw [← hte, List.take_append_drop]⟩
 · rw [if_pos hb] at h
   injection h with _ h
   rw [← h] at h0
   exact absurd h0 hb
theorem rWithin_someC {m : Nat} {s s1 : List UInt8 × Nat} {n : Nat} (h : rWithin m s = (n, s1)) (h0 : s1.2 = 0) : s.2 = 0 ∧ n ≤ m ∧ s.1 = vb n ++ s1.1 := by
 unfold rWithin at h
 split at h
 · injection h with _ h
   rw [← h] at h0
   exact absurd h0 (rFail_neC _ _ (by decide))
 · rename_i hc
   rw [h] at hc
   obtain ⟨h1, h2, h3⟩ := rNum_someC h h0
   dsimp only at hc
   exact ⟨h1, by omega, h3⟩
def ptb (p : Pt5) : List UInt8 := vb p.2.1.toNat ++ (vb p.2.2.1.toNat ++ p.2.2.2.1)
theorem rWith_put {m : Nat} {x : Int} (h0 : 0 ≤ x) (h1 : x ≤ m) (hm : m ≤ 4611686018427387904) (r : List UInt8) : rWithin m (vb x.toNat ++ r, 0) = (x.toNat, (r, 0)) := rWithin_vbC (by omega) hm r
theorem rDg_put (d : Dg) (r : List UInt8) : rDg (d.1 ++ r, 0) = (d, (r, 0)) := by
 have h := rFixed_all d.1 r
 rw [d.2] at h
 unfold rDg
 rw [show ((32 : Nat) : Int) = 32 from rfl] at h
 rw [h]
 dsimp only
 rw [dif_pos d.2]
theorem rPart_put {p : Pt5} {a : Int} (h : ptchk p a = 0) (r : List UInt8) : rPart a (ptb p ++ r, 0) = (p, (r, 0)) := by
 obtain ⟨h1, h2, h3, h4, h5⟩ := ptchk_ok h
 have e1 : rWithin 64 (ptb p ++ r, 0) = (p.2.1.toNat, (vb p.2.2.1.toNat ++ (p.2.2.2.1 ++ r), 0)) := by
  unfold ptb
  rw [List.append_assoc, List.append_assoc]
  exact rWith_put (m := 64) (by omega) (by omega) (by omega) _
 have e2 := rWith_put (m := 65536) (x := p.2.2.1) (by omega) (by omega) (by omega) (p.2.2.2.1 ++ r)
 unfold rPart
 rw [e1]
 dsimp only
 rw [e2]
 dsimp only
 rw [rDg_put]
 obtain ⟨f, m, z, d⟩ := p
 dsimp only at h1 h3 h5 ⊢
 rw [Int.toNat_of_nonneg (by omega), Int.toNat_of_nonneg (by omega), h5]
theorem crLoop_put {z : Int} : ∀ {l : List Pt5} {a : Int} (r : List UInt8), pgo z a l = 0 → crLoop l.length a (l.flatMap ptb ++ r, 0) = (l, (r, 0))
 | [], _, _, _ => rfl
 | p :: l, a, r, h => by
  unfold pgo at h
  by_cases h1 : ptchk p a ≠ 0
  · rw [if_pos h1] at h; exact absurd h h1
  rw [if_neg h1] at h
  have e := rPart_put (Decidable.byContradiction h1) (l.flatMap ptb ++ r)
  have ih := crLoop_put r h
  rw [List.flatMap_cons, List.append_assoc]
  show ((rPart a (ptb p ++ (l.flatMap ptb ++ r), 0)).1 :: (crLoop l.length (a + (rPart a (ptb p ++ (l.flatMap ptb ++ r), 0)).1.2.1) (rPart a (ptb p ++ (l.flatMap ptb ++ r), 0)).2).1, (crLoop l.length (a + (rPart a (ptb p ++ (l.flatMap ptb ++ r), 0)).1.2.1) (rPart a (ptb p ++ (l.flatMap ptb ++ r), 0)).2).2) = _
  rw [e]
  dsimp only
  rw [ih]
theorem ptb_len {z : Int} : ∀ {l : List Pt5} {a : Int}, pgo z a l = 0 → (l.flatMap ptb).length ≤ 52 * l.length
 | [], _, _ => Nat.le_refl _
 | p :: l, a, h => by
  unfold pgo at h
  by_cases h1 : ptchk p a ≠ 0
  · rw [if_pos h1] at h; exact absurd h h1
  rw [if_neg h1] at h
  obtain ⟨g1, g2, g3, g4, -⟩ := ptchk_ok (Decidable.byContradiction h1)
  have ih := ptb_len h
  have l1 := vb_le10 (n := p.2.1.toNat) (by omega)
  have l2 := vb_le10 (n := p.2.2.1.toNat) (by omega)
  have l3 := p.2.2.2.2
  rw [List.flatMap_cons, List.length_append, List.length_cons]
  unfold ptb at ih ⊢
  simp only [List.length_append]
  omega
theorem rFixed_back {s : List UInt8 × Nat} {d r : List UInt8} (h : rFixed 32 s = (d, (r, 0))) : s.2 = 0 ∧ s.1 = d ++ r ∧ d.length = 32 := by
 unfold rFixed at h
 by_cases h1 : s.2 ≠ 0
 · rw [if_pos h1] at h
   injection h with _ h
   rw [h] at h1
   exact absurd rfl h1
 rw [if_neg h1] at h
 by_cases h2 : (32 : Int) < 0 ∨ 32 > (s.1.length : Int)
 · rw [if_pos h2] at h
   injection h with _ h
   injection h with _ h
   cases h
 rw [if_neg h2] at h
 injection h with h3 h
 injection h with h4 _
 refine ⟨Decidable.byContradiction h1, ?_, ?_⟩
 · rw [← h3, ← h4, List.take_append_drop]
 · rw [← h3, List.length_take]
   have : (32 : Int).toNat = 32 := rfl
   omega
theorem rPart_back {a : Int} {s : List UInt8 × Nat} {p : Pt5} {r : List UInt8} (h : rPart a s = (p, (r, 0))) : s.2 = 0 ∧ s.1 = ptb p ++ r := by
 obtain ⟨m, s1, e1⟩ : ∃ f s', rWithin 64 s = (f, s') := ⟨_, _, rfl⟩
 obtain ⟨z, s2, e2⟩ : ∃ f s', rWithin 65536 s1 = (f, s') := ⟨_, _, rfl⟩
 obtain ⟨d, s3, e3⟩ : ∃ f s', rFixed 32 s2 = (f, s') := ⟨_, _, rfl⟩
 unfold rPart at h
 rw [e1] at h
 dsimp only at h
 rw [e2] at h
 dsimp only at h
 unfold rDg at h
 rw [e3] at h
 dsimp only at h
 injection h with h1 h2
 subst h2
 obtain ⟨g3, q3, l3⟩ := rFixed_back e3
 obtain ⟨g2, -, q2⟩ := rWithin_someC e2 g3
 obtain ⟨g1, -, q1⟩ := rWithin_someC e1 g2
 refine ⟨g1, ?_⟩
 rw [dif_pos l3] at h1
 rw [q1, q2, q3, ← h1]
 unfold ptb
 dsimp only
 rw [Int.toNat_natCast, Int.toNat_natCast, List.append_assoc, List.append_assoc]
theorem crLoop_back : ∀ (k : Nat) (a : Int) (s : List UInt8 × Nat) (l : List Pt5) (r : List UInt8), crLoop k a s = (l, (r, 0)) → s.2 = 0 ∧ s.1 = l.flatMap ptb ++ r
 | 0, a, s, l, r, h => by
  injection h with h1 h2
  subst h1 h2
  exact ⟨rfl, rfl⟩
 | k + 1, a, s, l, r, h => by
  have h' : ((rPart a s).1 :: (crLoop k (a + (rPart a s).1.2.1) (rPart a s).2).1, (crLoop k (a + (rPart a s).1.2.1) (rPart a s).2).2) = (l, (r, 0)) := h
  obtain ⟨p, s1, e1⟩ : ∃ f s', rPart a s = (f, s') := ⟨_, _, rfl⟩
  rw [e1] at h'
  dsimp only at h'
  obtain ⟨l2, s2, e2⟩ : ∃ f s', crLoop k (a + p.2.1) s1 = (f, s') := ⟨_, _, rfl⟩
  rw [e2] at h'
  dsimp only at h'
  injection h' with h1 h2
  subst h2
  obtain ⟨g1, q1⟩ := crLoop_back k _ s1 l2 r e2
  obtain ⟨s11, s12⟩ := s1
  dsimp only at g1 q1
  subst g1
  obtain ⟨g0, q0⟩ := rPart_back e1
  refine ⟨g0, ?_⟩
  rw [q0, q1, ← h1, List.flatMap_cons, List.append_assoc]
def mftxt (x : Mf) : List UInt8 := vb x.1.toNat ++ (vb x.2.1.toNat ++ (vb x.2.2.1.toNat ++ (vb x.2.2.2.1.toNat ++ (x.2.2.2.2.1.1 ++ (vb x.2.2.2.2.2.length ++ x.2.2.2.2.2.flatMap ptb)))))
theorem mftxt_len {x : Mf} (h : mchk x = 0) : (mftxt x).length ≤ 53400 := by
 obtain ⟨h1, h2, h3, h4, _, _, h5, h6⟩ := mchk_ok h
 have l1 := vb_le10 (n := x.1.toNat) (by omega)
 have l2 := vb_le10 (n := x.2.1.toNat) (by omega)
 have l3 := vb_le10 (n := x.2.2.1.toNat) (by omega)
 have l4 := vb_le10 (n := x.2.2.2.1.toNat) (by omega)
 have l5 := vb_le10 (n := x.2.2.2.2.2.length) (by omega)
 have l6 := ptb_len h6
 have l7 := x.2.2.2.2.1.2
 unfold mftxt
 simp only [List.length_append]
 omega
theorem mfTake_put {x : Mf} (h : mchk x = 0) : mfTake (frm (mftxt x)) = (x, 0) := by
 have hl := mftxt_len h
 obtain ⟨h1, h2, h3, h4, _, _, h5, h6⟩ := mchk_ok h
 unfold mfTake
 rw [fone_frm (by omega), if_neg (by simp)]
 dsimp only
 have e : mfRead (mftxt x, 0) = (x, ([], 0)) := by
  have e1 : rWithin 999999 (mftxt x, 0) = _ := rWith_put (m := 999999) h1.1 h1.2 (by omega) _
  have e2 := rWith_put (m := 1048576) h2.1 h2.2 (by omega) (vb x.2.2.1.toNat ++ (vb x.2.2.2.1.toNat ++ (x.2.2.2.2.1.1 ++ (vb x.2.2.2.2.2.length ++ x.2.2.2.2.2.flatMap ptb))))
  have e3 := rWith_put (m := 1048576) h3.1 h3.2 (by omega) (vb x.2.2.2.1.toNat ++ (x.2.2.2.2.1.1 ++ (vb x.2.2.2.2.2.length ++ x.2.2.2.2.2.flatMap ptb)))
  have e4 := rWith_put (m := 1048576) h4.1 h4.2 (by omega) (x.2.2.2.2.1.1 ++ (vb x.2.2.2.2.2.length ++ x.2.2.2.2.2.flatMap ptb))
  have ed := rDg_put x.2.2.2.2.1 (vb x.2.2.2.2.2.length ++ x.2.2.2.2.2.flatMap ptb)
  have e5 := rNum_vb (n := x.2.2.2.2.2.length) (by unfold U64; omega) (x.2.2.2.2.2.flatMap ptb)
  have e6 := crLoop_put [] h6
  rw [List.append_nil] at e6
  unfold mfRead
  rw [e1]
  dsimp only
  rw [e2]
  dsimp only
  rw [e3]
  dsimp only
  rw [e4]
  dsimp only
  rw [ed]
  dsimp only
  rw [e5]
  dsimp only
  rw [if_neg (by omega), Nat.min_eq_left h5, Int.toNat_of_nonneg h2.1, e6, Int.toNat_of_nonneg h1.1, Int.toNat_of_nonneg h3.1, Int.toNat_of_nonneg h4.1]
 rw [e]
 exact mfEnd_3 (by simp [rEnd]) h
theorem rDg_back {s : List UInt8 × Nat} {d : Dg} {r : List UInt8} (h : rDg s = (d, (r, 0))) : s.2 = 0 ∧ s.1 = d.1 ++ r := by
 obtain ⟨m, s1, e1⟩ : ∃ f s', rFixed 32 s = (f, s') := ⟨_, _, rfl⟩
 unfold rDg at h
 rw [e1] at h
 dsimp only at h
 injection h with h1 h2
 subst h2
 obtain ⟨g, q, l⟩ := rFixed_back e1
 refine ⟨g, ?_⟩
 rw [dif_pos l] at h1
 rw [q, ← h1]
set_option maxHeartbeats 1000000 in
theorem mfTake_back {b : List UInt8} {x : Mf} (h : mfTake b = (x, 0)) : mchk x = 0 ∧ b = frm (mftxt x) := by
 unfold mfTake at h
 by_cases hf : (fone b).2 ≠ 0
 · rw [if_pos hf] at h
   injection h with _ h
   exact absurd h hf
 rw [if_neg hf] at h
 obtain ⟨-, hb2⟩ := fone_back (Decidable.byContradiction hf)
 generalize (fone b).1 = t at *
 by_cases he : rEnd (mfRead (t, 0)).2 ≠ 0
 · rw [mfEnd_1 he] at h
   injection h with _ h
   exact absurd h he
 have he1 := Decidable.byContradiction he
 by_cases hc : mchk (mfRead (t, 0)).1 ≠ 0
 · rw [mfEnd_2 he1 hc] at h
   injection h with _ h
   exact absurd h hc
 rw [mfEnd_3 he1 (Decidable.byContradiction hc)] at h
 injection h with h _
 have hc0 : mchk x = 0 := by rw [← h]; exact Decidable.byContradiction hc
 have he0 := rEnd_zeroC he1
 refine ⟨hc0, ?_⟩
 rw [hb2]
 refine congrArg frm ?_
 obtain ⟨nu, s1, e1⟩ : ∃ f s', rWithin 999999 (t, 0) = (f, s') := ⟨_, _, rfl⟩
 obtain ⟨f, s2, e2⟩ : ∃ f s', rWithin 1048576 s1 = (f, s') := ⟨_, _, rfl⟩
 obtain ⟨tt, s3, e3⟩ : ∃ f s', rWithin 1048576 s2 = (f, s') := ⟨_, _, rfl⟩
 obtain ⟨q, s4, e4⟩ : ∃ f s', rWithin 1048576 s3 = (f, s') := ⟨_, _, rfl⟩
 obtain ⟨d, s4d, ed⟩ : ∃ f s', rDg s4 = (f, s') := ⟨_, _, rfl⟩
 obtain ⟨n, s5, e5⟩ : ∃ f s', rNum s4d = (f, s') := ⟨_, _, rfl⟩
 have hmr := mfRead_eq e1 e2 e3 e4 ed e5 (s6 := if 1024 < n then rFail 3 s5 else s5) rfl
 rw [hmr] at h he0
 obtain ⟨l, s7, e7⟩ : ∃ l' s', crLoop (min n 1024) (f : Int) (if 1024 < n then rFail 3 s5 else s5) = (l', s') := ⟨_, _, rfl⟩
 rw [e7] at h he0
 dsimp only at h he0
 obtain ⟨s71, s72⟩ := s7
 obtain ⟨g7, q7⟩ := he0
 dsimp only at g7 q7
 subst g7 q7
 obtain ⟨g6, q6⟩ := crLoop_back _ _ _ _ _ e7
 have hn : ¬ 1024 < n := fun hn => by
  rw [if_pos hn] at g6
  exact rFail_neC 3 s5 (by decide) g6
 rw [if_neg hn] at g6 q6 e7
 rw [Nat.min_eq_left (by omega)] at e7
 have hll : l.length = n := by
  have := crLoop_len n (f : Int) s5
  rw [e7] at this
  exact this
 obtain ⟨g5, -, q5⟩ := rNum_someC e5 g6
 obtain ⟨s4d1, s4d2⟩ := s4d
 dsimp only at g5 q5
 subst g5
 obtain ⟨gd, qd⟩ := rDg_back ed
 obtain ⟨g4, -, q4⟩ := rWithin_someC e4 gd
 obtain ⟨g3, -, q3⟩ := rWithin_someC e3 g4
 obtain ⟨g2, -, q2⟩ := rWithin_someC e2 g3
 obtain ⟨-, -, q1⟩ := rWithin_someC e1 g2
 dsimp only at q1
 rw [q1, q2, q3, q4, qd, q5, q6, ← h]
 unfold mftxt
 dsimp only
 simp only [Int.toNat_natCast, hll, List.append_nil]
def mfput (x : Mf) : List UInt8 := if mchk x = 0 then frm (mftxt x) else []
theorem mfput_len (x : Mf) : (mfput x).length ≤ 60000 := by
 unfold mfput
 split
 · rename_i h
   have h1 := mftxt_len h
   have h2 := frm_len (mftxt x)
   have h3 := vb_le10 (n := (mftxt x).length) (by omega)
   omega
 · simp
def tr (x : W32) (k : Nat) : W32 := (x >>> k) ||| (x <<< (32 - k))
def sg0 (x : W32) : W32 := tr x 7 ^^^ tr x 18 ^^^ (x >>> 3)
def sg1 (x : W32) : W32 := tr x 17 ^^^ tr x 19 ^^^ (x >>> 10)
def bg0 (x : W32) : W32 := tr x 2 ^^^ tr x 13 ^^^ tr x 22
def bg1 (x : W32) : W32 := tr x 6 ^^^ tr x 11 ^^^ tr x 25
def ch3 (e f g : W32) : W32 := (e &&& f) ^^^ (~~~ e &&& g)
def mj3 (a b c : W32) : W32 := (a &&& b) ^^^ (a &&& c) ^^^ (b &&& c)
theorem ch3_alt (e f g : W32) : g ^^^ (e &&& (f ^^^ g)) = ch3 e f g := by
 apply BitVec.eq_of_getLsbD_eq
 intro i hi
 simp only [ch3, BitVec.getLsbD_xor, BitVec.getLsbD_and, BitVec.getLsbD_not, hi, decide_true, Bool.true_and]
 cases e.getLsbD i <;> cases f.getLsbD i <;> cases g.getLsbD i <;> rfl
theorem mj3_alt (a b c : W32) : ((a &&& b) ||| (c &&& (a ||| b))) = mj3 a b c := by
 apply BitVec.eq_of_getLsbD_eq
 intro i hi
 simp only [mj3, BitVec.getLsbD_xor, BitVec.getLsbD_and, BitVec.getLsbD_or]
 cases a.getLsbD i <;> cases b.getLsbD i <;> cases c.getLsbD i <;> rfl
def be4 (a b c d : UInt8) : W32 := BitVec.ofNat 32 (a.toNat * 16777216 + b.toNat * 65536 + c.toNat * 256 + d.toNat)
def sch (b : List UInt8) : Nat → List W32
 | 0 => []
 | n + 1 => sch b n ++ [if n < 16 then be4 (b.getD (4 * n) 0) (b.getD (4 * n + 1) 0) (b.getD (4 * n + 2) 0) (b.getD (4 * n + 3) 0)
     else (sch b n).getD (n - 16) 0 + (sch b n).getD (n - 7) 0 + sg0 ((sch b n).getD (n - 15) 0) + sg1 ((sch b n).getD (n - 2) 0)]
theorem sch_len (b : List UInt8) : ∀ n, (sch b n).length = n
 | 0 => rfl
 | n + 1 => by simp [sch, sch_len b n]
structure S8 where
 (a b c d e f g h : W32)
def S8.l (s : S8) : List W32 := [s.a, s.b, s.c, s.d, s.e, s.f, s.g, s.h]
def rnd (s : S8) (k w : W32) : S8 :=
 let x := s.h + bg1 s.e + ch3 s.e s.f s.g + k + w
 ⟨x + (bg0 s.a + mj3 s.a s.b s.c), s.a, s.b, s.c, s.d + x, s.e, s.f, s.g⟩
def S8.add (s t : S8) : S8 := ⟨s.a + t.a, s.b + t.b, s.c + t.c, s.d + t.d, s.e + t.e, s.f + t.f, s.g + t.g, s.h + t.h⟩
def shaK : List W32 := [
 0x428a2f98#32, 0x71374491#32, 0xb5c0fbcf#32, 0xe9b5dba5#32, 0x3956c25b#32, 0x59f111f1#32, 0x923f82a4#32, 0xab1c5ed5#32,
 0xd807aa98#32, 0x12835b01#32, 0x243185be#32, 0x550c7dc3#32, 0x72be5d74#32, 0x80deb1fe#32, 0x9bdc06a7#32, 0xc19bf174#32,
 0xe49b69c1#32, 0xefbe4786#32, 0x0fc19dc6#32, 0x240ca1cc#32, 0x2de92c6f#32, 0x4a7484aa#32, 0x5cb0a9dc#32, 0x76f988da#32,
 0x983e5152#32, 0xa831c66d#32, 0xb00327c8#32, 0xbf597fc7#32, 0xc6e00bf3#32, 0xd5a79147#32, 0x06ca6351#32, 0x14292967#32,
 0x27b70a85#32, 0x2e1b2138#32, 0x4d2c6dfc#32, 0x53380d13#32, 0x650a7354#32, 0x766a0abb#32, 0x81c2c92e#32, 0x92722c85#32,
 0xa2bfe8a1#32, 0xa81a664b#32, 0xc24b8b70#32, 0xc76c51a3#32, 0xd192e819#32, 0xd6990624#32, 0xf40e3585#32, 0x106aa070#32,
 0x19a4c116#32, 0x1e376c08#32, 0x2748774c#32, 0x34b0bcb5#32, 0x391c0cb3#32, 0x4ed8aa4a#32, 0x5b9cca4f#32, 0x682e6ff3#32,
 0x748f82ee#32, 0x78a5636f#32, 0x84c87814#32, 0x8cc70208#32, 0x90befffa#32, 0xa4506ceb#32, 0xbef9a3f7#32, 0xc67178f2#32]
def shaH : S8 := ⟨0x6a09e667#32, 0xbb67ae85#32, 0x3c6ef372#32, 0xa54ff53a#32, 0x510e527f#32, 0x9b05688c#32, 0x1f83d9ab#32, 0x5be0cd19#32⟩
def rnds (ws : List W32) (s : S8) : Nat → S8
 | 0 => s
 | n + 1 => rnd (rnds ws s n) (shaK.getD n 0) (ws.getD n 0)
def stp (s : S8) (b : List UInt8) : S8 := (rnds (sch b 64) s 64).add s
def blks (m : List UInt8) (s : S8) : Nat → S8
 | 0 => s
 | n + 1 => stp (blks m s n) ((m.drop (64 * n)).take 64)
def padZ (n : Nat) : Nat := (119 - n % 64) % 64
def be8 (n : Nat) : List UInt8 := [UInt8.ofNat (n / 72057594037927936 % 256), UInt8.ofNat (n / 281474976710656 % 256), UInt8.ofNat (n / 1099511627776 % 256), UInt8.ofNat (n / 4294967296 % 256), UInt8.ofNat (n / 16777216 % 256), UInt8.ofNat (n / 65536 % 256), UInt8.ofNat (n / 256 % 256), UInt8.ofNat (n % 256)]
def padT (n : Nat) : List UInt8 := 128 :: (List.replicate (padZ n) 0 ++ be8 (8 * n))
theorem padT_len (n : Nat) : (padT n).length = 9 + padZ n := by simp [padT, be8]; omega
theorem pad_mod (n : Nat) : (n + (padT n).length) % 64 = 0 := by rw [padT_len]; unfold padZ; omega
def shaM (t : List UInt8) : List UInt8 := t ++ padT t.length
def shaS (t : List UInt8) : S8 := blks (shaM t) shaH ((shaM t).length / 64)
def S8.dg (s : S8) : Dg := ⟨s.l.flatMap four, by simp [S8.l, four]⟩
def shaD (t : List UInt8) : Dg := (shaS t).dg
/- the constants, as the document finds them -/
def mdg (m : Mf) : Dg := shaD (mfput m)
def cfol (p : Option Mf) (i : Nat) (m : Mf) : Bool :=
 decide (m.1 = (i : Int)) && match p with
  | none => true
  | some q => decide (m.2.1 = q.2.2.1) && decide (q.2.2.2.1 ≤ m.2.2.2.1) && decide (m.2.2.2.2.1 = mdg q)
def cgo : Option Mf → Nat → List Mf → Nat × Nat
 | _, i, [] => (i, 0)
 | p, i, m :: r => if mchk m ≠ 0 then (i, mchk m) else if cfol p i m = true then cgo (some m) (i + 1) r else (i, 12)
def ckl (l : List Mf) : Nat × Nat := cgo none 0 l
def cprev (l : List Mf) : Nat → Option Mf
 | 0 => none
 | k + 1 => l[k]?
def ckAt (l : List Mf) (k : Nat) : Nat × Nat := cgo (cprev l k) k (l.drop k)
theorem ckAt_zero (l : List Mf) : ckAt l 0 = ckl l := rfl
theorem ckAt_end {l : List Mf} {k : Nat} (h : l.length ≤ k) : ckAt l k = (k, 0) := by
 unfold ckAt
 rw [List.drop_eq_nil_of_le h]
 rfl
theorem ckAt_bad {l : List Mf} {k : Nat} (hk : k < l.length) (h : mchk l[k] ≠ 0) : ckAt l k = (k, mchk l[k]) := by
 unfold ckAt
 rw [List.drop_eq_getElem_cons hk, cgo, if_pos h]
theorem ckAt_chain {l : List Mf} {k : Nat} (hk : k < l.length) (h : mchk l[k] = 0) (hf : cfol (cprev l k) k l[k] = false) : ckAt l k = (k, 12) := by
 unfold ckAt
 rw [List.drop_eq_getElem_cons hk, cgo, if_neg (by omega), if_neg (by rw [hf]; simp)]
theorem ckAt_step {l : List Mf} {k : Nat} (hk : k < l.length) (h : mchk l[k] = 0) (hf : cfol (cprev l k) k l[k] = true) : ckAt l k = ckAt l (k + 1) := by
 unfold ckAt
 rw [List.drop_eq_getElem_cons hk, cgo, if_neg (by omega), if_pos hf]
 show _ = cgo l[k]? (k + 1) _
 rw [List.getElem?_eq_getElem hk]
theorem cgo_ok : ∀ {l : List Mf} {p : Option Mf} {i : Nat}, (cgo p i l).2 = 0 → (cgo p i l).1 = i + l.length ∧ ∀ k (hk : k < l.length), mchk l[k] = 0 ∧ cfol (if k = 0 then p else l[k - 1]?) (i + k) l[k] = true
 | [], p, i, h => ⟨rfl, fun k hk => absurd hk (Nat.not_lt_zero k)⟩
 | m :: r, p, i, h => by
  unfold cgo at h ⊢
  by_cases h1 : mchk m ≠ 0
  · rw [if_pos h1] at h
    exact absurd h h1
  rw [if_neg h1] at h ⊢
  by_cases h2 : cfol p i m = true
  · rw [if_pos h2] at h ⊢
    obtain ⟨h3, h4⟩ := cgo_ok h
    refine ⟨by rw [h3, List.length_cons]; omega, fun k hk => ?_⟩
    cases k with
    | zero => exact ⟨Decidable.byContradiction h1, h2⟩
    | succ k =>
     have h5 := h4 k (by simpa using hk)
     refine ⟨h5.1, ?_⟩
     have h6 := h5.2
     rw [if_neg (by omega), List.getElem_cons_succ, show i + (k + 1) = i + 1 + k from by omega]
     cases k with
     | zero => exact h6
     | succ k =>
      rw [if_neg (by omega)] at h6
      exact h6
  · rw [if_neg h2] at h
    cases h
theorem ckl_ok {l : List Mf} (h : (ckl l).2 = 0) : ∀ k (hk : k < l.length), mchk l[k] = 0 ∧ cfol (cprev l k) k l[k] = true := fun k hk => by
 obtain ⟨h1, h2⟩ := (cgo_ok h).2 k hk
 rw [Nat.zero_add] at h2
 refine ⟨h1, ?_⟩
 cases k with
 | zero => exact h2
 | succ k => exact h2
theorem cgo_snoc {m : Mf} : ∀ {l : List Mf} {p : Option Mf} {i : Nat}, (cgo p i l).2 = 0 → cgo p i (l ++ [m]) = cgo (if l = [] then p else l.getLast?) (i + l.length) [m]
 | [], p, i, _ => rfl
 | x :: r, p, i, h => by
  unfold cgo at h
  by_cases h1 : mchk x ≠ 0
  · rw [if_pos h1] at h
    exact absurd h h1
  rw [if_neg h1] at h
  by_cases h2 : cfol p i x = true
  · rw [if_pos h2] at h
    have ih := cgo_snoc (m := m) h
    rw [List.cons_append, cgo, if_neg h1, if_pos h2, ih, List.length_cons, if_neg (List.cons_ne_nil _ _)]
    rw [show i + 1 + r.length = i + (r.length + 1) from by omega]
    cases r with
    | nil => rfl
    | cons y s => rw [if_neg (List.cons_ne_nil _ _), List.getLast?_cons_cons]
  · rw [if_neg h2] at h
    cases h
def cend (l : List Mf) : Int := match l.getLast? with
 | none => 0
 | some q => q.2.2.1
def cmark (l : List Mf) : Int := match l.getLast? with
 | none => 0
 | some q => q.2.2.2.1
def cbegin (l : List Mf) : Int := match l with
 | [] => 0
 | q :: _ => q.2.1
def chead (l : List Mf) : Dg := match l.getLast? with
 | none => dg0
 | some q => mdg q
def wsum : Int → List Pt5 → Int
 | a, [] => a
 | a, p :: r => wsum (wrap64 (a + p.2.1)) r
def cnextM (l : List Mf) (f t : Int) (ps : List Pt5) : Mf := (l.length, f, wsum f ps, t, chead l, ps)
def cnext (l : List Mf) (f t : Int) (ps : List Pt5) : Mf × Nat :=
 if (ckl l).2 ≠ 0 then (mfz, (ckl l).2)
 else if l ≠ [] ∧ (f ≠ cend l ∨ t < cmark l) then (mfz, 12)
 else if mchk (cnextM l f t ps) ≠ 0 then (mfz, mchk (cnextM l f t ps))
 else (cnextM l f t ps, 0)
def cfind (x : Int) : Nat → List Mf → Option (Nat × Nat)
 | _, [] => none
 | i, m :: r => if 0 ≤ pidx x m.2.2.2.2.2 then some (i, (pidx x m.2.2.2.2.2).toNat) else cfind x (i + 1) r
theorem cfind_some {x : Int} : ∀ {l : List Mf} {i n k : Nat}, cfind x i l = some (n, k) → i ≤ n ∧ ∃ h : n - i < l.length, pidx x (l[n - i]).2.2.2.2.2 = k
 | [], _, _, _, h => by cases h
 | m :: r, i, n, k, h => by
  unfold cfind at h
  by_cases h1 : 0 ≤ pidx x m.2.2.2.2.2
  · rw [if_pos h1] at h
    injection h with h
    injection h with h2 h3
    subst h2
    refine ⟨Nat.le_refl _, by rw [Nat.sub_self]; exact Nat.zero_lt_succ _, ?_⟩
    simp only [Nat.sub_self, List.getElem_cons_zero]
    omega
  · rw [if_neg h1] at h
    obtain ⟨h2, h3, h4⟩ := cfind_some h
    refine ⟨by omega, by simp only [List.length_cons]; omega, ?_⟩
    have he : n - i = (n - (i + 1)) + 1 := by omega
    simp only [he, List.getElem_cons_succ]
    exact h4
theorem cfind_drop {x : Int} {l : List Mf} {k : Nat} (hk : k < l.length) (h : pidx x (l[k]).2.2.2.2.2 < 0) : cfind x k (l.drop k) = cfind x (k + 1) (l.drop (k + 1)) := by
 rw [List.drop_eq_getElem_cons hk, cfind, if_neg (by omega)]
theorem cfind_hit {x : Int} {l : List Mf} {k : Nat} (hk : k < l.length) (h : 0 ≤ pidx x (l[k]).2.2.2.2.2) : cfind x k (l.drop k) = some (k, (pidx x (l[k]).2.2.2.2.2).toNat) := by
 rw [List.drop_eq_getElem_cons hk, cfind, if_pos h]
theorem ckl_num {l : List Mf} (h : (ckl l).2 = 0) (k : Nat) (hk : k < l.length) : (l[k]).1 = (k : Int) := by
 have h1 := (ckl_ok h k hk).2
 unfold cfol at h1
 rw [Bool.and_eq_true] at h1
 exact of_decide_eq_true h1.1
theorem ckl_next {l : List Mf} (h : (ckl l).2 = 0) (k : Nat) (hk : k + 1 < l.length) : (l[k + 1]).2.1 = (l[k]).2.2.1 ∧ (l[k]).2.2.2.1 ≤ (l[k + 1]).2.2.2.1 := by
 have h1 := (ckl_ok h (k + 1) hk).2
 have e : cprev l (k + 1) = some (l[k]'(by omega)) := List.getElem?_eq_getElem (by omega)
 rw [e] at h1
 unfold cfol at h1
 simp only [Bool.and_eq_true, decide_eq_true_eq] at h1
 exact ⟨h1.2.1.1, h1.2.1.2⟩
theorem ckl_snoc {l : List Mf} {m : Mf} (h : (ckl l).2 = 0) : (ckl (l ++ [m])).2 = 0 ↔ mchk m = 0 ∧ cfol (l.getLast?) l.length m = true := by
 have h1 := cgo_snoc (m := m) h
 have e : (if l = [] then (none : Option Mf) else l.getLast?) = l.getLast? := by
  by_cases h0 : l = []
  · subst h0; rfl
  · rw [if_neg h0]
 rw [e, Nat.zero_add] at h1
 show (cgo none 0 (l ++ [m])).2 = 0 ↔ _
 rw [h1]
 unfold cgo
 by_cases h2 : mchk m ≠ 0
 · rw [if_pos h2]
   exact ⟨fun h => absurd h h2, fun (h : mchk m = 0 ∧ _) => absurd h.1 h2⟩
 rw [if_neg h2]
 by_cases h3 : cfol l.getLast? l.length m = true
 · rw [if_pos h3]
   exact ⟨fun _ => ⟨Decidable.byContradiction h2, h3⟩, fun _ => rfl⟩
 · rw [if_neg h3]
   exact ⟨fun h => (by cases h), fun h => absurd h.2 h3⟩
theorem cnext_ok {l : List Mf} {f t : Int} {ps : List Pt5} (h : (cnext l f t ps).2 = 0) : (ckl l).2 = 0 ∧ (cnext l f t ps).1 = cnextM l f t ps ∧ mchk (cnextM l f t ps) = 0 ∧ (ckl (l ++ [cnextM l f t ps])).2 = 0 := by
 unfold cnext at h ⊢
 by_cases h1 : (ckl l).2 ≠ 0
 · rw [if_pos h1] at h
   exact absurd h h1
 rw [if_neg h1] at h ⊢
 by_cases h2 : l ≠ [] ∧ (f ≠ cend l ∨ t < cmark l)
 · rw [if_pos h2] at h
   cases h
 rw [if_neg h2] at h ⊢
 by_cases h3 : mchk (cnextM l f t ps) ≠ 0
 · rw [if_pos h3] at h
   exact absurd h h3
 rw [if_neg h3]
 have h0 := Decidable.byContradiction h1
 refine ⟨h0, rfl, Decidable.byContradiction h3, (ckl_snoc h0).2 ⟨Decidable.byContradiction h3, ?_⟩⟩
 unfold cfol cnextM
 rw [Bool.and_eq_true]
 refine ⟨by simp, ?_⟩
 by_cases h4 : l = []
 · subst h4
   rfl
 · have h5 : ¬ (f ≠ cend l ∨ t < cmark l) := fun h => h2 ⟨h4, h⟩
   obtain ⟨q, hq⟩ : ∃ q, l.getLast? = some q := ⟨_, List.getLast?_eq_some_getLast h4⟩
   unfold cend cmark at h5
   unfold chead
   rw [hq] at h5 ⊢
   dsimp only at h5 ⊢
   simp only [Bool.and_eq_true, decide_eq_true_eq, and_true]
   exact ⟨Decidable.byContradiction fun h => h5 (.inl h), by omega⟩
end
section
open Go.RowKit Go.Shelf
abbrev MfV := Mf × Option Addr × Nat
def mvl (x : MfV) : List Value := mfl x.1.1 x.1.2.1 x.1.2.2.1 x.1.2.2.2.1 x.1.2.2.2.2.1 x.2.1 x.1.2.2.2.2.2.length x.2.2
def mva (x : MfV) : Array Value := mfa x.1.1 x.1.2.1 x.1.2.2.1 x.1.2.2.2.1 x.1.2.2.2.2.1 x.2.1 x.1.2.2.2.2.2.length x.2.2
theorem mvl_len (x : MfV) : (mvl x).length = 37 := mfl_len _ _ _ _ _ _ _ _
theorem mva_size (x : MfV) : (mva x).size = 37 := mfa_size _ _ _ _ _ _ _ _
def MfI (m : Mf) : Prop := I64 m.1 ∧ I64 m.2.1 ∧ I64 m.2.2.1 ∧ I64 m.2.2.2.1 ∧ PtsI m.2.2.2.2.2
theorem mchk_MfI {m : Mf} (h : mchk m = 0) (hp : PtsI m.2.2.2.2.2) : MfI m := by
 obtain ⟨h1, h2, h3, h4, -⟩ := mchk_ok h
 unfold MfI I64
 exact ⟨by omega, by omega, by omega, by omega, hp⟩
def SlM (w : World) (E : Option Addr) (cap : Nat) (l : List MfV) : Prop := Sl w 37 E l.length cap (l.flatMap mvl) ∧ ∀ x ∈ l, SlP w x.2.1 x.2.2 x.1.2.2.2.2.2 ∧ MfI x.1
theorem SlM.below {w w' : World} {E : Option Addr} {cap : Nat} {l : List MfV} (h : SlM w E cap l) (hb : Below w.heap.size w w') : SlM w' E cap l := ⟨Sl.below h.1 hb, fun x hx => ⟨(h.2 x hx).1.below hb, (h.2 x hx).2⟩⟩
theorem SlM.at {w : World} {E : Option Addr} {cap : Nat} {l : List MfV} (h : SlM w E cap l) {k : Nat} (hk : k < l.length) :
 ∃ ad b o, E = some ad ∧ ad.add (k * 37) = ⟨b, o, none⟩ ∧ ∀ j u, (mva l[k])[j]? = some u → w.cell? ((⟨b, o, none⟩ : Addr).add j) = some u := by
 obtain ⟨ad, b, o, h1, h2, h3⟩ := Sl.atS (f := mvl) mvl_len (by decide) h.1 hk
 exact ⟨ad, b, o, h1, h2, fun j u hj => by rw [addr_lit]; exact h3 j u (by simpa [mva, mfa, mvl] using hj)⟩
def mvz : MfV := (mfz, none, 0)
def mvlast (l : List MfV) : MfV := l.getLast?.getD mvz
def mvs (l : List MfV) : List Mf := l.map (·.1)
theorem mvs_len (l : List MfV) : (mvs l).length = l.length := List.length_map ..
theorem mvs_last (l : List MfV) : (mvs l).getLast? = l.getLast?.map (·.1) := by
 unfold mvs
 rw [List.getLast?_map]
theorem cend_mvs (l : List MfV) : cend (mvs l) = (mvlast l).1.2.2.1 := by
 unfold cend mvlast
 rw [mvs_last]
 cases l.getLast? <;> rfl
theorem cmark_mvs (l : List MfV) : cmark (mvs l) = (mvlast l).1.2.2.2.1 := by
 unfold cmark mvlast
 rw [mvs_last]
 cases l.getLast? <;> rfl
theorem SlM.take {w : World} {E : Option Addr} {cap : Nat} {l : List MfV} (h : SlM w E cap l) {k : Nat} (hk : k ≤ l.length) : SlM w E cap (l.take k) := by
 refine ⟨?_, fun x hx => h.2 x (List.mem_of_mem_take hx)⟩
 obtain ⟨⟨h1, h2, h3, h4, h5⟩, -⟩ := h
 have hlen : ∀ m : List MfV, (m.flatMap mvl).length = m.length * 37 := fun m => by
  induction m with
  | nil => rfl
  | cons x r ih => rw [List.flatMap_cons, List.length_append, ih, mvl_len, List.length_cons]; omega
 refine ⟨by rw [hlen], by simp; omega, h3, h4, fun j v hj => ?_⟩
 refine h5 j v ?_
 have he : (l.take k).flatMap mvl ++ (l.drop k).flatMap mvl = l.flatMap mvl := by rw [← List.flatMap_append, List.take_append_drop]
 rw [← he, List.getElem?_append_left (List.getElem?_eq_some_iff.1 hj).1]
 exact hj
theorem cprev_take (l : List Mf) {k : Nat} (hk : k ≤ l.length) : cprev l k = (l.take k).getLast? := by
 cases k with
 | zero => rw [List.take_zero]; rfl
 | succ k =>
  rw [List.take_succ_eq_append_getElem (by omega), List.getLast?_concat]
  unfold cprev
  exact List.getElem?_eq_getElem _
theorem mvs_take (l : List MfV) (k : Nat) : mvs (l.take k) = (mvs l).take k := by
 unfold mvs
 rw [List.map_take]
end
section
open Go.RowKit
attribute [local go_sem ↓] Go.wp_at_zero Go.wp_at_succ
theorem SlB.dgP {w : World} {g : Nat} {p : Pt5} (h : BlP w g p) : SlB w (some ⟨g, 3, none⟩) 32 p.2.2.2.1 := by
 have hd := p.2.2.2.2
 refine ⟨by simp, by omega, by simp [maxLen], (fun h => by cases h), fun j u hj => ⟨_, rfl, ?_⟩⟩
 have h1 := Blk.cells h (3 + j) u (by
  unfold pta ptl
  rw [show 3 + j = j + 3 by omega]
  simpa using hj)
 rw [addr_lit] at h1 ⊢
 rw [← h1]
 congr 2
 omega
theorem pgo_at {z : Int} : ∀ {l : List Pt5} {a : Int} {k : Nat} (hk : k < l.length), pgo z a l = 0 → (1 ≤ l[k].2.1 ∧ l[k].2.1 ≤ 64) ∧ 1 ≤ l[k].2.2.1 ∧ l[k].2.2.1 ≤ 65536
 | [], _, k, hk, _ => by cases hk
 | p :: r, a, k, hk, h => by
  unfold pgo at h
  by_cases h1 : ptchk p a ≠ 0
  · rw [if_pos h1] at h; exact absurd h h1
  rw [if_neg h1] at h
  cases k with
  | zero =>
   obtain ⟨g1, g2, g3, g4, -⟩ := ptchk_ok (Decidable.byContradiction h1)
   exact ⟨⟨g1, g2⟩, g3, g4⟩
  | succ k => exact pgo_at (l := r) (k := k) (by simpa using hk) h
theorem ptb_take {l : List Pt5} {k : Nat} (hk : k < l.length) : (l.take (k + 1)).flatMap ptb = (l.take k).flatMap ptb ++ ptb l[k] := by
 rw [List.take_succ_eq_append_getElem hk, List.flatMap_append]
 simp
theorem ptb_le {z : Int} {l : List Pt5} {a : Int} (h : pgo z a l = 0) : ∀ k, ((l.take k).flatMap ptb).length ≤ 52 * l.length
 | 0 => by simp
 | k + 1 => by
  by_cases hk : k < l.length
  · have h1 := ptb_len h
    have h2 : l.flatMap ptb = (l.take (k + 1)).flatMap ptb ++ (l.drop (k + 1)).flatMap ptb := by rw [← List.flatMap_append, List.take_append_drop]
    rw [h2, List.length_append] at h1
    omega
  · rw [List.take_of_length_le (by omega)]
    exact ptb_len h
theorem or_wn (x y : W32) : bits .or .u32 (wn x) (wn y) = wn (x ||| y) := by
 unfold wn; rw [u32_or_nat _ _ x.isLt y.isLt, BitVec.toNat_or]
theorem and_wn (x y : W32) : bits .and .u32 (wn x) (wn y) = wn (x &&& y) := by
 unfold wn; rw [u32_and_nat _ _ x.isLt y.isLt, BitVec.toNat_and]
theorem add_wn (x y : W32) : IntKind.u32.wrap (wn x + wn y) = wn (x + y) := by
 unfold wn
 rw [BitVec.toNat_add]
 show (((x.toNat : Int) + (y.toNat : Int)) % 4294967296) = _
 simp
theorem shr_wnk (x : W32) (k : Nat) : wn x / 2 ^ k = wn (x >>> k) := by
 rw [← shr_wn]
 simp
theorem shl_wnk (x : W32) (k : Nat) : wn x * 2 ^ k % 4294967296 = wn (x <<< k) := by
 unfold wn
 rw [BitVec.toNat_shiftLeft, Nat.shiftLeft_eq]
 simp
theorem tr_wn (x : W32) (k : Nat) : bits .or .u32 (wn x / 2 ^ k) (wn x * 2 ^ (32 - k) % 4294967296) = wn (tr x k) := by
 rw [shr_wnk, shl_wnk, or_wn]
 rfl
theorem neg_and31 : ∀ k : Nat, k < 32 → 1 ≤ k → bits .and .u64 (IntKind.u64.wrap (-(k : Int))) 31 = ((32 - k : Nat) : Int) := by
 intro k h1 h2
 rw [show IntKind.u64.wrap (-(k : Int)) = ((18446744073709551616 - k : Nat) : Int) from by
  show (-(k : Int)) % 18446744073709551616 = _
  omega, show (31 : Int) = ((31 : Nat) : Int) from rfl, u64_and_nat _ _ (by omega) (by decide)]
 congr 1
 rw [show (31 : Nat) = 2 ^ 5 - 1 from rfl, Nat.and_two_pow_sub_one_eq_mod]
 omega
set_option maxRecDepth 100000 in
theorem Rot_any (x : W32) (k : Nat) (h1 : 1 ≤ k) (h2 : k ≤ 31) (w : World) :
 Calls Tryz.prog 187 #[wv x, .int .i64 (-(k : Int))] w fun e w' => e = .returned (wv (tr x k)) ∧ w' = w := by
 have hk := neg_and31 k (by omega) h1
 have ht := tr_wn x k
 obtain ⟨j, hj⟩ : ∃ j, 32 - k = j := ⟨_, rfl⟩
 have hk2 : k = 32 - j := by omega
 rw [hj] at hk ht
 have hjl : j ≤ 31 := by omega
 have h3 : bits .or .u32 (wn x * 2 ^ j % 4294967296) (wn x / 2 ^ (32 - j)) = wn (tr x k) := by
  rw [← ht, shl_wnk, ← hk2, shr_wnk, or_wn, or_wn, BitVec.or_comm]
 clear hj ht hk2
 go_enter Tryz.func187, Tryz.ntmps187
 go_wp2_with fail
 go_ret
 exact ⟨rfl, rfl⟩
set_option maxRecDepth 100000 in
theorem Right_any (x : W32) (k : Nat) (h1 : 1 ≤ k) (h2 : k ≤ 31) (w : World) :
 Calls Tryz.prog 161 #[wv x, .int .i64 (k : Int)] w fun e w' => e = .returned (wv (tr x k)) ∧ w' = w := by
 have hz : ((k : Int)) ≤ 31 := by omega
 go_enter Tryz.func161, Tryz.ntmps161
 go_wp2_with fail
 refine (Rot_any x k h1 h2 _).mono ?_
 rintro e w1 ⟨rfl, rfl⟩
 go_wp2_with fail
 go_ret
 exact ⟨rfl, rfl⟩
end
end Go.Proofs.YtajfnmohlnkncaaGreatDoor
