/- WHAT IT HOLDS: the law ManifestParts, walked. | WHAT IT HOLDS: a cursor's bytes, put and taken, plainly (no program). | WHAT IT HOLDS: a manifest's bytes, put and taken, plainly (no program). -/
import Derived.Test.YtabnndjdkjkciaaGreatDoorManifestBackG28
import Derived.Test.YtabnndjdkjkciaaGreatDoorManifestBackG09
import Derived.Test.YtabnndjdkjkciaaGreatDoorManifestBackG05
import Derived.Test.YtabnndjdkjkciaaGreatDoorManifestBackG19
import Derived.Test.YtabnndjdkjkciaaGreatDoorManifestBackG14
import Derived.Test.YtabnndjdkjkciaaGreatDoorManifestBackG10
import Derived.Test.YtabnndjdkjkciaaGreatDoorManifestBackG21
namespace Go.Proofs.YtabnndjdkjkciaaGreatDoor
open Go.RowKit
attribute [local go_sem ↓] Go.wp_at_zero Go.wp_at_succ

end Go.Proofs.YtabnndjdkjkciaaGreatDoor

namespace Go.Proofs.YtabnndjdkjkciaaGreatDoor
open Go.RowKit

theorem rWithin_vbC {n m : Nat} (h : n ≤ m) (hm : m ≤ 4611686018427387904) (r : List UInt8) : rWithin m (vb n ++ r, 0) = (n, (r, 0)) := by
  unfold rWithin
  rw [rNum_vb (by unfold U64; omega), if_neg (by omega)]
theorem rFail_neC (k : Nat) (s : List UInt8 × Nat) (hk : k ≠ 0) : (rFail k s).2 ≠ 0 := by
  unfold rFail
  split
  · exact hk
  · assumption
theorem rEnd_zeroC {s : List UInt8 × Nat} (h : rEnd s = 0) : s.2 = 0 ∧ s.1 = [] := by
  unfold rEnd at h
  by_cases h1 : s.2 = 0 ∧ 0 < s.1.length
  · rw [if_pos h1] at h; omega
  · rw [if_neg h1] at h
    exact ⟨h, by rcases s with ⟨l, b⟩; cases l with | nil => rfl | cons a r => simp at h1 h; omega⟩
theorem rNum_someC {s s1 : List UInt8 × Nat} {n : Nat} (h : rNum s = (n, s1)) (h0 : s1.2 = 0) : s.2 = 0 ∧ U64 n ∧ s.1 = vb n ++ s1.1 := by
  unfold rNum at h
  by_cases hb : s.2 = 0
  · rw [if_neg (by simpa using hb)] at h
    cases ht : take s.1 with
    | none => rw [ht] at h; dsimp only at h; injection h with _ h; rw [← h] at h0; exact absurd h0 (Nat.succ_ne_zero 1)
    | some p =>
      obtain ⟨v, e⟩ := p
      rw [ht] at h
      dsimp only at h
      injection h with h1 h2
      obtain ⟨hu, he, hte⟩ := take_some ht
      subst h1
      rw [← h2]
      dsimp only
      exact ⟨hb, hu, by rw [← hte, List.take_append_drop]⟩
  · rw [if_pos hb] at h
    injection h with _ h
    rw [← h] at h0
    exact absurd h0 hb
theorem rWithin_someC {m : Nat} {s s1 : List UInt8 × Nat} {n : Nat} (h : rWithin m s = (n, s1)) (h0 : s1.2 = 0) : s.2 = 0 ∧ n ≤ m ∧ s.1 = vb n ++ s1.1 := by
  unfold rWithin at h
  split at h
  · injection h with _ h
    rw [← h] at h0
    exact absurd h0 (rFail_neC _ _ (by decide))
  · rename_i hc
    rw [h] at hc
    obtain ⟨h1, h2, h3⟩ := rNum_someC h h0
    dsimp only at hc
    exact ⟨h1, by omega, h3⟩
def ptb (p : Pt5) : List UInt8 := vb p.2.1.toNat ++ (vb p.2.2.1.toNat ++ p.2.2.2.1)
theorem rWith_put {m : Nat} {x : Int} (h0 : 0 ≤ x) (h1 : x ≤ m) (hm : m ≤ 4611686018427387904) (r : List UInt8) : rWithin m (vb x.toNat ++ r, 0) = (x.toNat, (r, 0)) := rWithin_vbC (by omega) hm r
theorem rDg_put (d : Dg) (r : List UInt8) : rDg (d.1 ++ r, 0) = (d, (r, 0)) := by
  have h := rFixed_all d.1 r
  rw [d.2] at h
  unfold rDg
  rw [show ((32 : Nat) : Int) = 32 from rfl] at h
  rw [h]
  dsimp only
  rw [dif_pos d.2]
theorem rPart_put {p : Pt5} {a : Int} (h : ptchk p a = 0) (r : List UInt8) : rPart a (ptb p ++ r, 0) = (p, (r, 0)) := by
  obtain ⟨h1, h2, h3, h4, h5⟩ := ptchk_ok h
  have e1 : rWithin 64 (ptb p ++ r, 0) = (p.2.1.toNat, (vb p.2.2.1.toNat ++ (p.2.2.2.1 ++ r), 0)) := by
    unfold ptb
    rw [List.append_assoc, List.append_assoc]
    exact rWith_put (m := 64) (by omega) (by omega) (by omega) _
  have e2 := rWith_put (m := 65536) (x := p.2.2.1) (by omega) (by omega) (by omega) (p.2.2.2.1 ++ r)
  unfold rPart
  rw [e1]
  dsimp only
  rw [e2]
  dsimp only
  rw [rDg_put]
  obtain ⟨f, m, z, d⟩ := p
  dsimp only at h1 h3 h5 ⊢
  rw [Int.toNat_of_nonneg (by omega), Int.toNat_of_nonneg (by omega), h5]
theorem crLoop_put {z : Int} : ∀ {l : List Pt5} {a : Int} (r : List UInt8), pgo z a l = 0 → crLoop l.length a (l.flatMap ptb ++ r, 0) = (l, (r, 0))
  | [], _, _, _ => rfl
  | p :: l, a, r, h => by
    unfold pgo at h
    by_cases h1 : ptchk p a ≠ 0
    · rw [if_pos h1] at h; exact absurd h h1
    rw [if_neg h1] at h
    have e := rPart_put (Decidable.byContradiction h1) (l.flatMap ptb ++ r)
    have ih := crLoop_put r h
    rw [List.flatMap_cons, List.append_assoc]
    show ((rPart a (ptb p ++ (l.flatMap ptb ++ r), 0)).1 :: (crLoop l.length (a + (rPart a (ptb p ++ (l.flatMap ptb ++ r), 0)).1.2.1) (rPart a (ptb p ++ (l.flatMap ptb ++ r), 0)).2).1, (crLoop l.length (a + (rPart a (ptb p ++ (l.flatMap ptb ++ r), 0)).1.2.1) (rPart a (ptb p ++ (l.flatMap ptb ++ r), 0)).2).2) = _
    rw [e]
    dsimp only
    rw [ih]
theorem ptb_len {z : Int} : ∀ {l : List Pt5} {a : Int}, pgo z a l = 0 → (l.flatMap ptb).length ≤ 52 * l.length
  | [], _, _ => Nat.le_refl _
  | p :: l, a, h => by
    unfold pgo at h
    by_cases h1 : ptchk p a ≠ 0
    · rw [if_pos h1] at h; exact absurd h h1
    rw [if_neg h1] at h
    obtain ⟨g1, g2, g3, g4, -⟩ := ptchk_ok (Decidable.byContradiction h1)
    have ih := ptb_len h
    have l1 := vb_le10 (n := p.2.1.toNat) (by omega)
    have l2 := vb_le10 (n := p.2.2.1.toNat) (by omega)
    have l3 := p.2.2.2.2
    rw [List.flatMap_cons, List.length_append, List.length_cons]
    unfold ptb at ih ⊢
    simp only [List.length_append]
    omega
theorem rFixed_back {s : List UInt8 × Nat} {d r : List UInt8} (h : rFixed 32 s = (d, (r, 0))) : s.2 = 0 ∧ s.1 = d ++ r ∧ d.length = 32 := by
  unfold rFixed at h
  by_cases h1 : s.2 ≠ 0
  · rw [if_pos h1] at h
    injection h with _ h
    rw [h] at h1
    exact absurd rfl h1
  rw [if_neg h1] at h
  by_cases h2 : (32 : Int) < 0 ∨ 32 > (s.1.length : Int)
  · rw [if_pos h2] at h
    injection h with _ h
    injection h with _ h
    cases h
  rw [if_neg h2] at h
  injection h with h3 h
  injection h with h4 _
  refine ⟨Decidable.byContradiction h1, ?_, ?_⟩
  · rw [← h3, ← h4, List.take_append_drop]
  · rw [← h3, List.length_take]
    have : (32 : Int).toNat = 32 := rfl
    omega
theorem rPart_back {a : Int} {s : List UInt8 × Nat} {p : Pt5} {r : List UInt8} (h : rPart a s = (p, (r, 0))) : s.2 = 0 ∧ s.1 = ptb p ++ r := by
  obtain ⟨m, s1, e1⟩ : ∃ f s', rWithin 64 s = (f, s') := ⟨_, _, rfl⟩
  obtain ⟨z, s2, e2⟩ : ∃ f s', rWithin 65536 s1 = (f, s') := ⟨_, _, rfl⟩
  obtain ⟨d, s3, e3⟩ : ∃ f s', rFixed 32 s2 = (f, s') := ⟨_, _, rfl⟩
  unfold rPart at h
  rw [e1] at h
  dsimp only at h
  rw [e2] at h
  dsimp only at h
  unfold rDg at h
  rw [e3] at h
  dsimp only at h
  injection h with h1 h2
  subst h2
  obtain ⟨g3, q3, l3⟩ := rFixed_back e3
  obtain ⟨g2, -, q2⟩ := rWithin_someC e2 g3
  obtain ⟨g1, -, q1⟩ := rWithin_someC e1 g2
  refine ⟨g1, ?_⟩
  rw [dif_pos l3] at h1
  rw [q1, q2, q3, ← h1]
  unfold ptb
  dsimp only
  rw [Int.toNat_natCast, Int.toNat_natCast, List.append_assoc, List.append_assoc]
theorem crLoop_back : ∀ (k : Nat) (a : Int) (s : List UInt8 × Nat) (l : List Pt5) (r : List UInt8), crLoop k a s = (l, (r, 0)) → s.2 = 0 ∧ s.1 = l.flatMap ptb ++ r
  | 0, a, s, l, r, h => by
    injection h with h1 h2
    subst h1 h2
    exact ⟨rfl, rfl⟩
  | k + 1, a, s, l, r, h => by
    have h' : ((rPart a s).1 :: (crLoop k (a + (rPart a s).1.2.1) (rPart a s).2).1, (crLoop k (a + (rPart a s).1.2.1) (rPart a s).2).2) = (l, (r, 0)) := h
    obtain ⟨p, s1, e1⟩ : ∃ f s', rPart a s = (f, s') := ⟨_, _, rfl⟩
    rw [e1] at h'
    dsimp only at h'
    obtain ⟨l2, s2, e2⟩ : ∃ f s', crLoop k (a + p.2.1) s1 = (f, s') := ⟨_, _, rfl⟩
    rw [e2] at h'
    dsimp only at h'
    injection h' with h1 h2
    subst h2
    obtain ⟨g1, q1⟩ := crLoop_back k _ s1 l2 r e2
    obtain ⟨s11, s12⟩ := s1
    dsimp only at g1 q1
    subst g1
    obtain ⟨g0, q0⟩ := rPart_back e1
    refine ⟨g0, ?_⟩
    rw [q0, q1, ← h1, List.flatMap_cons, List.append_assoc]
end Go.Proofs.YtabnndjdkjkciaaGreatDoor

namespace Go.Proofs.YtabnndjdkjkciaaGreatDoor
open Go.RowKit

def mftxt (x : Mf) : List UInt8 := vb x.1.toNat ++ (vb x.2.1.toNat ++ (vb x.2.2.1.toNat ++ (vb x.2.2.2.1.toNat ++ (x.2.2.2.2.1.1 ++ (vb x.2.2.2.2.2.length ++ x.2.2.2.2.2.flatMap ptb)))))
theorem mftxt_len {x : Mf} (h : mchk x = 0) : (mftxt x).length ≤ 53400 := by
  obtain ⟨h1, h2, h3, h4, _, _, h5, h6⟩ := mchk_ok h
  have l1 := vb_le10 (n := x.1.toNat) (by omega)
  have l2 := vb_le10 (n := x.2.1.toNat) (by omega)
  have l3 := vb_le10 (n := x.2.2.1.toNat) (by omega)
  have l4 := vb_le10 (n := x.2.2.2.1.toNat) (by omega)
  have l5 := vb_le10 (n := x.2.2.2.2.2.length) (by omega)
  have l6 := ptb_len h6
  have l7 := x.2.2.2.2.1.2
  unfold mftxt
  simp only [List.length_append]
  omega
theorem mfTake_put {x : Mf} (h : mchk x = 0) : mfTake (frm (mftxt x)) = (x, 0) := by
  have hl := mftxt_len h
  obtain ⟨h1, h2, h3, h4, _, _, h5, h6⟩ := mchk_ok h
  unfold mfTake
  rw [fone_frm (by omega), if_neg (by simp)]
  dsimp only
  have e : mfRead (mftxt x, 0) = (x, ([], 0)) := by
    have e1 : rWithin 999999 (mftxt x, 0) = _ := rWith_put (m := 999999) h1.1 h1.2 (by omega) _
    have e2 := rWith_put (m := 1048576) h2.1 h2.2 (by omega) (vb x.2.2.1.toNat ++ (vb x.2.2.2.1.toNat ++ (x.2.2.2.2.1.1 ++ (vb x.2.2.2.2.2.length ++ x.2.2.2.2.2.flatMap ptb))))
    have e3 := rWith_put (m := 1048576) h3.1 h3.2 (by omega) (vb x.2.2.2.1.toNat ++ (x.2.2.2.2.1.1 ++ (vb x.2.2.2.2.2.length ++ x.2.2.2.2.2.flatMap ptb)))
    have e4 := rWith_put (m := 1048576) h4.1 h4.2 (by omega) (x.2.2.2.2.1.1 ++ (vb x.2.2.2.2.2.length ++ x.2.2.2.2.2.flatMap ptb))
    have ed := rDg_put x.2.2.2.2.1 (vb x.2.2.2.2.2.length ++ x.2.2.2.2.2.flatMap ptb)
    have e5 := rNum_vb (n := x.2.2.2.2.2.length) (by unfold U64; omega) (x.2.2.2.2.2.flatMap ptb)
    have e6 := crLoop_put [] h6
    rw [List.append_nil] at e6
    unfold mfRead
    rw [e1]
    dsimp only
    rw [e2]
    dsimp only
    rw [e3]
    dsimp only
    rw [e4]
    dsimp only
    rw [ed]
    dsimp only
    rw [e5]
    dsimp only
    rw [if_neg (by omega), Nat.min_eq_left h5, Int.toNat_of_nonneg h2.1, e6, Int.toNat_of_nonneg h1.1, Int.toNat_of_nonneg h3.1, Int.toNat_of_nonneg h4.1]
  rw [e]
  exact mfEnd_3 (by simp [rEnd]) h
theorem rDg_back {s : List UInt8 × Nat} {d : Dg} {r : List UInt8} (h : rDg s = (d, (r, 0))) : s.2 = 0 ∧ s.1 = d.1 ++ r := by
  obtain ⟨m, s1, e1⟩ : ∃ f s', rFixed 32 s = (f, s') := ⟨_, _, rfl⟩
  unfold rDg at h
  rw [e1] at h
  dsimp only at h
  injection h with h1 h2
  subst h2
  obtain ⟨g, q, l⟩ := rFixed_back e1
  refine ⟨g, ?_⟩
  rw [dif_pos l] at h1
  rw [q, ← h1]
set_option maxHeartbeats 1000000 in
theorem mfTake_back {b : List UInt8} {x : Mf} (h : mfTake b = (x, 0)) : mchk x = 0 ∧ b = frm (mftxt x) := by
  unfold mfTake at h
  by_cases hf : (fone b).2 ≠ 0
  · rw [if_pos hf] at h
    injection h with _ h
    exact absurd h hf
  rw [if_neg hf] at h
  obtain ⟨-, hb2⟩ := fone_back (Decidable.byContradiction hf)
  generalize (fone b).1 = t at *
  by_cases he : rEnd (mfRead (t, 0)).2 ≠ 0
  · rw [mfEnd_1 he] at h
    injection h with _ h
    exact absurd h he
  have he1 := Decidable.byContradiction he
  by_cases hc : mchk (mfRead (t, 0)).1 ≠ 0
  · rw [mfEnd_2 he1 hc] at h
    injection h with _ h
    exact absurd h hc
  rw [mfEnd_3 he1 (Decidable.byContradiction hc)] at h
  injection h with h _
  have hc0 : mchk x = 0 := by rw [← h]; exact Decidable.byContradiction hc
  have he0 := rEnd_zeroC he1
  refine ⟨hc0, ?_⟩
  rw [hb2]
  refine congrArg frm ?_
  obtain ⟨nu, s1, e1⟩ : ∃ f s', rWithin 999999 (t, 0) = (f, s') := ⟨_, _, rfl⟩
  obtain ⟨f, s2, e2⟩ : ∃ f s', rWithin 1048576 s1 = (f, s') := ⟨_, _, rfl⟩
  obtain ⟨tt, s3, e3⟩ : ∃ f s', rWithin 1048576 s2 = (f, s') := ⟨_, _, rfl⟩
  obtain ⟨q, s4, e4⟩ : ∃ f s', rWithin 1048576 s3 = (f, s') := ⟨_, _, rfl⟩
  obtain ⟨d, s4d, ed⟩ : ∃ f s', rDg s4 = (f, s') := ⟨_, _, rfl⟩
  obtain ⟨n, s5, e5⟩ : ∃ f s', rNum s4d = (f, s') := ⟨_, _, rfl⟩
  have hmr := mfRead_eq e1 e2 e3 e4 ed e5 (s6 := if 1024 < n then rFail 3 s5 else s5) rfl
  rw [hmr] at h he0
  obtain ⟨l, s7, e7⟩ : ∃ l' s', crLoop (min n 1024) (f : Int) (if 1024 < n then rFail 3 s5 else s5) = (l', s') := ⟨_, _, rfl⟩
  rw [e7] at h he0
  dsimp only at h he0
  obtain ⟨s71, s72⟩ := s7
  obtain ⟨g7, q7⟩ := he0
  dsimp only at g7 q7
  subst g7 q7
  obtain ⟨g6, q6⟩ := crLoop_back _ _ _ _ _ e7
  have hn : ¬ 1024 < n := fun hn => by
    rw [if_pos hn] at g6
    exact rFail_neC 3 s5 (by decide) g6
  rw [if_neg hn] at g6 q6 e7
  rw [Nat.min_eq_left (by omega)] at e7
  have hll : l.length = n := by
    have := crLoop_len n (f : Int) s5
    rw [e7] at this
    exact this
  obtain ⟨g5, -, q5⟩ := rNum_someC e5 g6
  obtain ⟨s4d1, s4d2⟩ := s4d
  dsimp only at g5 q5
  subst g5
  obtain ⟨gd, qd⟩ := rDg_back ed
  obtain ⟨g4, -, q4⟩ := rWithin_someC e4 gd
  obtain ⟨g3, -, q3⟩ := rWithin_someC e3 g4
  obtain ⟨g2, -, q2⟩ := rWithin_someC e2 g3
  obtain ⟨-, -, q1⟩ := rWithin_someC e1 g2
  dsimp only at q1
  rw [q1, q2, q3, q4, qd, q5, q6, ← h]
  unfold mftxt
  dsimp only
  simp only [Int.toNat_natCast, hll, List.append_nil]
theorem mfTake_bad {b : List UInt8} (h : (mfTake b).2 ≠ 0) : (mfTake b).1 = mfz := by
  unfold mfTake at h ⊢
  split
  · rfl
  · rename_i hf
    rw [if_neg hf] at h
    by_cases he : rEnd (mfRead ((fone b).1, 0)).2 ≠ 0
    · rw [mfEnd_1 he]
    · by_cases hc : mchk (mfRead ((fone b).1, 0)).1 ≠ 0
      · rw [mfEnd_2 (Decidable.byContradiction he) hc]
      · rw [mfEnd_3 (Decidable.byContradiction he) (Decidable.byContradiction hc)] at h
        exact absurd rfl h
/-- the bytes that a manifest is put as -/
def mfput (x : Mf) : List UInt8 := if mchk x = 0 then frm (mftxt x) else []
end Go.Proofs.YtabnndjdkjkciaaGreatDoor
