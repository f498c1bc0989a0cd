/- WHAT IT HOLDS: which scripts of a disk's acts are long, walked. | WHAT IT HOLDS: the law DiskFuses, walked. | WHAT IT HOLDS: the law DiskSyncs, walked. | WHAT IT HOLDS: what a disk keeps of files that no change names, plainly; maps beside a disk in memory. | WHAT IT HOLDS: what opening a store removes, plainly; entries struck out of a map. | WHAT IT HOLDS: what a store's act leaves of a disk that may go down at any step, and of it started anew, plainly. | WHAT IT HOLDS: the names of a vault's objects, plainly (no program). | WHAT IT HOLDS: the document's rows of files in memory; found, struck, put: walked. | WHAT IT HOLDS: the document's rows of files: one struck, one put: walked. | WHAT IT HOLDS: the document's changes done, what its disk shows, how many bytes files have: walked. | WHAT IT HOLDS: the document's disk in memory; what it shows, its files' bytes: walked. | WHAT IT HOLDS: the document's disk: made, an operation counted, a change added: walked. | WHAT IT HOLDS: the document's disk: written, renamed, removed, synced, walked. | WHAT IT HOLDS: the document's disk: a file written, walked. | WHAT IT HOLDS: the document's disk: its names; its power cut: walked. -/
import Derived.Test.YtajfnmohlnkncaaGreatDoorVaultAgreesG16
import Derived.Lib.ItoaNum
import Derived.Test.YtajfnmohlnkncaaGreatDoorVaultAgreesG09
namespace Go.Proofs.YtajfnmohlnkncaaGreatDoor
section
open Go.RowKit Go.Maps Go.Sort
attribute [local go_sem ↓] Go.wp_at_zero Go.wp_at_succ
section
variable {α : Type}
def Fre (d : Dk α) : Prop := d.fuse = -1 ∧ d.down = false
theorem dWorks_fre {d : Dk α} (h : Fre d) : dWorks d = (d, 0) := by
 unfold dWorks
 rw [if_neg (by rw [h.2]; simp), if_neg (by rw [h.1]; decide), if_neg (by rw [h.1]; decide)]
theorem dSync_fre {d : Dk α} (h : Fre d) : (dSync d).2 = 0 ∧ (dSync d).1.sure = d.shown ∧ (dSync d).1.pend = [] ∧ Fre (dSync d).1 := by
 have e : dSync d = ({ d with sure := d.shown, pend := [] }, 0) := by
  unfold dSync
  rw [dWorks_fre h, if_neg (by simp)]
 rw [e]
 exact ⟨rfl, rfl, rfl, h⟩
theorem shown_nil {d : Dk α} (h : d.pend = []) : d.shown = d.sure := by
 unfold Dk.shown
 rw [h]
 rfl
end
section
variable {α : Type}
theorem shown_add (d : Dk α) (c : Chg α) : (dAdd d c).shown = fdo d.shown c := fdos_snoc _ _ _
end
/-! ### maps beside a disk -/
section
variable {β γ : Type} {f : β → Value} {g : γ → Value} {w0 w w' : World} {q q' : Fp} {d : Dk Sv} {b b2 : Nat} {l : List (Bs × β)} {l2 : List (Bs × γ)}
end
section
variable {α : Type}
end
theorem begun_head {b : UInt8} {r : Bs} : isBegun (b :: r) = (126 == b) := by
 show ((126 == b) && true) = _
 rw [Bool.and_true]
section
variable {β : Type} {f : β → Value} {P : Program} {K T E : TypeId} {w w' : World} {b n : Nat} {l : List (Bs × β)}
variable {ops : Array Oper} {rest : List Oper} {o : Oper} {a : Act} {Q : Exit → Act → World → Prop}
end
end
section
open Go.RowKit Go.Maps Go.Sort
section
variable {α : Type}
theorem snamed_named {n : Bs} (h : snamed n = true) : named n = true := by
 unfold snamed at h
 simp only [Bool.and_eq_true] at h
 exact h.1.2
theorem snamed_off {n : Bs} (h : snamed n = true) : 126 ∉ n := by
 unfold snamed at h
 simp only [Bool.and_eq_true] at h
 simpa using h.2
theorem isBegun_begun (n : Bs) : isBegun (begun n) = true := by
 unfold begun
 rw [begun_head]
 decide
theorem snamed_begun {n : Bs} (h : snamed n = true) : isBegun n = false := by
 have h1 := snamed_off h
 have h2 := snamed_named h
 cases n with
 | nil => cases h2
 | cons b r =>
  rw [begun_head]
  have : ¬ (126 : UInt8) = b := fun e => h1 (by rw [e]; simp)
  simpa using this
theorem named_begun {n : Bs} (h : snamed n = true) : named (begun n) = true := by
 have h2 := snamed_named h
 have h3 := snamed_len h
 unfold named begun at *
 simp only [Bool.and_eq_true, decide_eq_true_eq, List.length_cons, List.all_cons] at *
 exact ⟨⟨by omega, by omega⟩, by decide, h2.2⟩
def putW (n : Bs) (v : α) : Chg α := ⟨0, begun n, [], v⟩
def putR (z : α) (n : Bs) : Chg α := ⟨1, begun n, n, z⟩
theorem andThen_ok (d : Dk α) (f : Dk α → Dk α × Nat) : andThen (d, 0) f = f d := if_neg (by simp)
theorem Ris.same {l l' : List (Bs × α)} (h : Ris l) (h' : Ris l') (he : ∀ x, gget x l = gget x l') : l = l' :=
 h.ext h' fun p => ⟨fun hp => gget_mem (by rw [← he]; exact gget_of_mem h hp), fun hp => gget_mem (by rw [he]; exact gget_of_mem h' hp)⟩
def Sna (S : List (Bs × α)) : Prop := ∀ x, snamed x = false → gget x S = none
theorem Sna.begun {S : List (Bs × α)} (h : Sna S) {x : Bs} (hb : isBegun x = true) : gget x S = none := by
 refine h x ?_
 cases hs : snamed x with
 | false => rfl
 | true => rw [snamed_begun hs] at hb; cases hb
theorem Sna.put {S : List (Bs × α)} (h : Sna S) {n : Bs} (hn : snamed n = true) (v : α) : Sna (gput n v S) := fun x hx => by
 rw [gget_put_other v (show x ≠ n from fun e => by rw [e, hn] at hx; cases hx)]
 exact h x hx
theorem gdel_begun {S : List (Bs × α)} (hr : Ris S) (h : Sna S) (n : Bs) (v : α) : gdel (begun n) (gput (begun n) v S) = S :=
 Ris.same ((hr.put _ _).del _) hr fun x => by
  rcases Decidable.em (x = begun n) with e | e
  · rw [e, gget_del_same, h.begun (isBegun_begun n)]
  · rw [gget_del_other e, gget_put_other v e]
theorem fdo_putW (S : List (Bs × α)) (n : Bs) (v : α) : fdo S (putW n v) = gput (begun n) v S := fdo_w (x := putW n v) rfl
theorem put_two {S : List (Bs × α)} (hr : Ris S) (h : Sna S) (z : α) (n : Bs) (v : α) : fdo (fdo S (putW n v)) (putR z n) = gput n v S := by
 rw [fdo_putW]
 rw [fdo_r (x := putR z n) (b := v) rfl (gget_put_same (begun n) v S)]
 show gput n v (gdel (begun n) (gput (begun n) v S)) = _
 rw [gdel_begun hr h]
end
end
section
open Go.Lib
def figs (n w : Nat) : Bs := List.replicate (w - (decDigits n).length) 48 ++ decDigits n
def title (n : Nat) : Bs := 109 :: figs n 6
def label (n p : Nat) : Bs := 112 :: (figs n 6 ++ 45 :: figs p 4)
theorem dd_small {n : Nat} (h : n < 10) : decDigits n = [UInt8.ofNat (48 + n)] := by rw [decDigits, dif_pos h]
theorem dd_big {n : Nat} (h : ¬ n < 10) : decDigits n = decDigits (n / 10) ++ [UInt8.ofNat (48 + n % 10)] := by rw [decDigits, dif_neg h]
theorem dd_len : ∀ (k n : Nat), n < 10 ^ (k + 1) → (decDigits n).length ≤ k + 1
 | 0, n, h => by rw [dd_small (by simpa using h)]; simp
 | k + 1, n, h => by
  by_cases h1 : n < 10
  · rw [dd_small h1]; simp
  · rw [dd_big h1, List.length_append]
    have h2 : n / 10 < 10 ^ (k + 1) := by
     rw [Nat.div_lt_iff_lt_mul (by decide)]
     rw [Nat.pow_succ] at h
     exact h
    have := dd_len k (n / 10) h2
    simp only [List.length_cons, List.length_nil]
    omega
theorem figs_len {n w : Nat} (h : n < 10 ^ (w + 1)) : (figs n (w + 1)).length = w + 1 := by
 have := dd_len w n h
 unfold figs
 rw [List.length_append, List.length_replicate]
 omega
theorem dd_all : ∀ (n : Nat), ∀ b ∈ decDigits n, 48 ≤ b ∧ b ≤ 57 := by
 intro n
 induction n using Nat.strongRecOn with
 | _ n ih =>
  have key : ∀ m, m < 10 → (48 : UInt8) ≤ UInt8.ofNat (48 + m) ∧ UInt8.ofNat (48 + m) ≤ 57 := by decide
  by_cases h : n < 10
  · rw [dd_small h]
    intro b hb
    rw [List.mem_singleton] at hb
    subst hb
    exact key n h
  · rw [dd_big h]
    intro b hb
    rcases List.mem_append.1 hb with hb | hb
    · exact ih (n / 10) (by omega) b hb
    · rw [List.mem_singleton] at hb
      subst hb
      exact key _ (by omega)
theorem figs_all (n w : Nat) : ∀ b ∈ figs n w, 48 ≤ b ∧ b ≤ 57 := by
 intro b hb
 rcases List.mem_append.1 hb with hb | hb
 · rw [(List.mem_replicate.1 hb).2]
   decide
 · exact dd_all n b hb
def fval (a : Nat) (l : Bs) : Nat := l.foldl (fun a b => 10 * a + (b.toNat - 48)) a
theorem fval_app (l m : Bs) (a : Nat) : fval a (l ++ m) = fval (fval a l) m := by unfold fval; rw [List.foldl_append]
theorem fval_zero (k : Nat) : fval 0 (List.replicate k 48) = 0 := by
 induction k with
 | zero => rfl
 | succ k ih =>
  rw [List.replicate_succ]
  exact ih
theorem fval_one (a : Nat) (b : UInt8) : fval a [b] = 10 * a + (b.toNat - 48) := rfl
theorem fval_dd (n : Nat) : fval 0 (decDigits n) = n := by
 induction n using Nat.strongRecOn with
 | _ n ih =>
  have key : ∀ m, m < 10 → (UInt8.ofNat (48 + m)).toNat - 48 = m := by decide
  by_cases h : n < 10
  · rw [dd_small h, fval_one, key n h]
    omega
  · rw [dd_big h, fval_app, ih (n / 10) (by omega), fval_one, key _ (by omega)]
    omega
theorem fval_figs (n w : Nat) : fval 0 (figs n w) = n := by
 unfold figs
 rw [fval_app, fval_zero, fval_dd]
theorem figs_inj {n m w : Nat} (h : figs n w = figs m w) : n = m := by rw [← fval_figs n w, h, fval_figs]
theorem title_inj {n m : Nat} (h : title n = title m) : n = m := by
 injection h with _ h
 exact figs_inj h
theorem sep_inj {x : UInt8} : ∀ {a b c d : Bs}, x ∉ a → x ∉ b → a ++ x :: c = b ++ x :: d → a = b ∧ c = d
 | [], [], c, d, _, _, h => by
  injection h with _ h
  exact ⟨rfl, h⟩
 | [], y :: b, c, d, _, hb, h => by
  injection h with h1 _
  exact absurd (h1 ▸ List.mem_cons_self) hb
 | y :: a, [], c, d, ha, _, h => by
  injection h with h1 _
  exact absurd (h1 ▸ List.mem_cons_self) ha
 | y :: a, z :: b, c, d, ha, hb, h => by
  injection h with h1 h2
  obtain ⟨h3, h4⟩ := sep_inj (fun e => ha (.tail _ e)) (fun e => hb (.tail _ e)) h2
  exact ⟨by rw [h1, h3], h4⟩
theorem figs_off (n w : Nat) : (45 : UInt8) ∉ figs n w := fun h => by
 have := (figs_all n w _ h).1
 revert this
 decide
theorem label_inj {n m p q : Nat} (h : label n p = label m q) : n = m ∧ p = q := by
 injection h with _ h
 obtain ⟨h1, h2⟩ := sep_inj (figs_off n 6) (figs_off m 6) h
 exact ⟨figs_inj h1, figs_inj h2⟩
theorem title_label (n m p : Nat) : title n ≠ label m p := fun h => by
 injection h with h _
 revert h
 decide
theorem figs_sign (n w : Nat) : (figs n w).all isSign = true := by
 rw [List.all_eq_true]
 intro b hb
 obtain ⟨h1, h2⟩ := figs_all n w b hb
 unfold isSign
 simp [h1, h2]
theorem figs_tilde (n w : Nat) : (126 : UInt8) ∉ figs n w := fun h => by
 have := (figs_all n w _ h).2
 revert this
 decide
theorem title_len {n : Nat} (h : n < 1000000) : (title n).length = 7 := by
 unfold title
 rw [List.length_cons, figs_len (w := 5) (by simpa using h)]
theorem label_len {n p : Nat} (h : n < 1000000) (hp : p < 10000) : (label n p).length = 12 := by
 unfold label
 rw [List.length_cons, List.length_append, List.length_cons, figs_len (w := 5) (by simpa using h), figs_len (w := 3) (by simpa using hp)]
theorem title_named {n : Nat} (h : n < 1000000) : snamed (title n) = true := by
 have hl := title_len h
 have h1 := figs_sign n 6
 have h2 := figs_tilde n 6
 unfold snamed named
 rw [hl]
 have h3 : (title n).all isSign = true := by
  unfold title
  rw [List.all_cons, h1]
  decide
 have h4 : ¬ (126 ∈ title n) := fun h => by
  unfold title at h
  rcases List.mem_cons.1 h with h | h
  · revert h; decide
  · exact h2 h
 simp [h3, h4]
theorem label_named {n p : Nat} (h : n < 1000000) (hp : p < 10000) : snamed (label n p) = true := by
 have hl := label_len h hp
 have h3 : (label n p).all isSign = true := by
  unfold label
  rw [List.all_cons, List.all_append, List.all_cons, figs_sign, figs_sign]
  decide
 have h4 : ¬ (126 ∈ label n p) := fun h => by
  unfold label at h
  rcases List.mem_cons.1 h with h | h
  · revert h; decide
  · rcases List.mem_append.1 h with h | h
    · exact figs_tilde _ _ h
    · rcases List.mem_cons.1 h with h | h
      · revert h; decide
      · exact figs_tilde _ _ h
 unfold snamed named
 rw [hl]
 simp [h3, h4]
end
section
open Go.RowKit Go.Maps Go.Sort
attribute [local go_sem ↓] Go.wp_at_zero Go.wp_at_succ
/-! ### found -/
section
variable {w wr w' : World} {f p : Bs × Bs} {A1 B B' : Option Addr} {c1 d d' : Nat} {g m m' : List (Bs × Bs)}
end
section
variable {w W : World} {L : BL} {G : List (Option Nat)} {g : Nat} {t : TypeId} {a b c d e : Value}
end
/-! ### how many, and how many bytes, there are -/
section
variable {α : Type}
end
section
variable {w wr w' : World} {A1 B B' : Option Addr} {c1 d d' : Nat} {g : List (Bs × Bs)} {m m' : List Bs}
end
end
end Go.Proofs.YtajfnmohlnkncaaGreatDoor
