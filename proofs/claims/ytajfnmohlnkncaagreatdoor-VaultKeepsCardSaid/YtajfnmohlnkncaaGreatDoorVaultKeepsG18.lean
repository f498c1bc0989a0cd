/- WHAT IT HOLDS: arguments that are acts of a disk, opened to the words of Kit. | WHAT IT HOLDS: which scripts of a disk's acts are long, walked. | WHAT IT HOLDS: the law DiskFuses, walked. | WHAT IT HOLDS: the law DiskSyncs, walked. | WHAT IT HOLDS: what a disk keeps of files that no change names, plainly; maps beside a disk in memory. | WHAT IT HOLDS: what opening a store removes, plainly; entries struck out of a map. | WHAT IT HOLDS: what a store's act leaves of a disk that may go down at any step, and of it started anew, plainly. | WHAT IT HOLDS: the names of a vault's objects, plainly (no program). | WHAT IT HOLDS: the document's rows of files in memory; found, struck, put: walked. | WHAT IT HOLDS: the document's rows of files: one struck, one put: walked. | WHAT IT HOLDS: the document's changes done, what its disk shows, how many bytes files have: walked. | WHAT IT HOLDS: the document's disk in memory; what it shows, its files' bytes: walked. | WHAT IT HOLDS: the document's disk: made, an operation counted, a change added: walked. -/
import Derived.Test.YtajfnmohlnkncaaGreatDoorVaultKeepsG04
import Derived.Test.YtajfnmohlnkncaaGreatDoorVaultKeepsG17
import Derived.Lib.ItoaNum
import Derived.Test.YtajfnmohlnkncaaGreatDoorVaultKeepsG09
namespace Go.Proofs.YtajfnmohlnkncaaGreatDoor
section
open Go.ChangeShapes Go.WideShapes Go.ChangeAt Go.RowKit Go.Deep
structure DA where
 k : Int
 n : List UInt8
 t : List UInt8
 A : Option Addr
 c : Nat
 l : List UInt8
 f : Int
 B : Option Addr
 kc : Nat
 ks : List Bool
def SlZ (w : World) (B : Option Addr) (kc : Nat) (ks : List Bool) : Prop := Sl w 1 B ks.length kc (ks.map Value.bool)
section
variable {H : Type} {enc : TypeId × Value → H} {P : Program} {w : World} {base b0 : Nat} {held : Bool} {r : Reach} {t e z b s : TypeId} {v : Value} {d : DataW H} {p : List MemPlace}
theorem bools_cell {n : Nat} {y : DataW H × List MemPlace} (ht : P.underlying t = some (.slice z)) (he : P.underlying z = some .bool) (hC : P.cellsOf z = 1) (h : DataW.trod enc P w base (fun _ => true) held n t [v] = some y) :
 ∃ (A : Option Addr) (c : Nat) (l : List Bool), v = .slice A l.length c ∧ SlZ w A c l := by
 rcases open_slice1 ht hC h with ⟨hcs, _⟩ | ⟨a, len, cap, m, nn, V, D, Pl, hcs, _, hl, hm, hmm, _, hi⟩
 · simp at hcs
   subst hcs
   exact ⟨none, 0, [], rfl, Sl.none_ _ _⟩
 · simp at hcs
   subst hcs
   simp only [if_true] at hmm
   obtain ⟨l, hll, hlr⟩ := list_choice (fun i b => w.cell? (a.add i) = some (.bool b)) len fun i hi' => by
    obtain ⟨h1, h2⟩ := hi i (by omega)
    obtain ⟨b, hb, _⟩ := DataW.trod_bool he h2
    simp at hb
    exact ⟨b, by rw [h1, hb]⟩
   refine ⟨some a, cap, l, by rw [hll], by simp, by omega, hm, (fun h => by cases h), fun j u hj => ⟨a, rfl, ?_⟩⟩
   obtain ⟨hjl, rfl⟩ := List.getElem?_eq_some_iff.1 hj
   rw [List.length_map] at hjl
   rw [List.getElem_map]
   exact hlr j hjl
theorem open_bools (ht : P.underlying t = some (.slice z)) (hz : P.underlying z = some .bool) (hCz : P.cellsOf z = 1) (hv : Value.okWide P w r b0 t v) (h : DataW.Trod enc P w base (fun _ => true) held t v d p) :
 ∃ (A : Option Addr) (c : Nat) (l : List Bool), v = .slice A l.length c ∧ SlZ w A c l := by
 obtain ⟨A, n, c, rfl⟩ := okWide_slice ht hv
 obtain ⟨fuel, hf⟩ := h
 exact bools_cell ht hz hCz hf
end
end
section
open Go.RowKit Go.Maps Go.Sort
attribute [local go_sem ↓] Go.wp_at_zero Go.wp_at_succ
theorem SlZ.ltB {w : World} {B : Option Addr} {kc : Nat} {ks : List Bool} (h : SlZ w B kc ks) (hne : ks ≠ []) {ad : Addr} (hA : B = some ad) : ad.block < w.heap.size := by
 have hl : 0 < ks.length := List.length_pos_iff.2 hne
 obtain ⟨ad', e, hc⟩ := h.2.2.2.2 0 _ (by rw [List.getElem?_map, List.getElem?_eq_getElem hl]; rfl)
 rw [hA] at e
 injection e with e
 subst e
 have := World.block_lt_of_cell? _ _ hc
 rwa [addr_add_block] at this
section
variable {α : Type}
def Fre (d : Dk α) : Prop := d.fuse = -1 ∧ d.down = false
theorem dWorks_fre {d : Dk α} (h : Fre d) : dWorks d = (d, 0) := by
 unfold dWorks
 rw [if_neg (by rw [h.2]; simp), if_neg (by rw [h.1]; decide), if_neg (by rw [h.1]; decide)]
theorem dSync_fre {d : Dk α} (h : Fre d) : (dSync d).2 = 0 ∧ (dSync d).1.sure = d.shown ∧ (dSync d).1.pend = [] ∧ Fre (dSync d).1 := by
 have e : dSync d = ({ d with sure := d.shown, pend := [] }, 0) := by
  unfold dSync
  rw [dWorks_fre h, if_neg (by simp)]
 rw [e]
 exact ⟨rfl, rfl, rfl, h⟩
theorem shown_nil {d : Dk α} (h : d.pend = []) : d.shown = d.sure := by
 unfold Dk.shown
 rw [h]
 rfl
theorem kept_non (keep : List Bool) : kept keep ([] : List (Chg α)) = [] := by
 unfold kept
 rfl
theorem dCut_nil {d : Dk α} (keep : List Bool) (h : d.pend = []) : (dCut keep d).sure = d.sure ∧ (dCut keep d).pend = [] ∧ (dCut keep d).down = true := by
 unfold dCut
 rw [h, kept_non]
 exact ⟨rfl, rfl, rfl⟩
end
section
variable {α : Type}
theorem shown_add (d : Dk α) (c : Chg α) : (dAdd d c).shown = fdo d.shown c := fdos_snoc _ _ _
end
/-! ### maps beside a disk -/
section
variable {β γ : Type} {f : β → Value} {g : γ → Value} {w0 w w' : World} {q q' : Fp} {d : Dk Sv} {b b2 : Nat} {l : List (Bs × β)} {l2 : List (Bs × γ)}
end
section
variable {α : Type}
theorem dRemove_there {z : α} {d : Dk α} (h : Fre d) {n : Bs} (hn : named n = true) (hs : (gget n d.shown).isSome = true) : dRemove z d n = (dAdd d ⟨2, n, [], z⟩, 0) := by
 unfold dRemove
 rw [dWorks_fre h, if_neg (by simp), if_neg (by simp [hn]), if_neg (by cases hg : gget n d.shown with | none => rw [hg] at hs; cases hs | some v => simp)]
theorem shown_remove {z : α} {d : Dk α} {n : Bs} (hs : (gget n d.shown).isSome = true) : (dAdd d ⟨2, n, [], z⟩).shown = gdel n d.shown := by
 rw [shown_add]
 cases hg : gget n d.shown with
 | none => rw [hg] at hs; cases hs
 | some v => exact fdo_d (show (2 : Nat) ≠ 0 by decide) (show (2 : Nat) ≠ 1 by decide) hg
theorem sweep_ok {z : α} : ∀ (l : List Bs) (d : Dk α) (b : Bool), Fre d → (∀ n ∈ l, named n = true) → l.Nodup → (∀ n ∈ l, (gget n d.shown).isSome = true) → ∃ d1 b1, sSweep z l d b = (d1, 0, b1) ∧ Fre d1 ∧ (∀ x, gget x d1.shown = if x ∈ l ∧ isBegun x = true then none else gget x d.shown) ∧ d1.sure.length + d1.pend.length ≤ d.sure.length + d.pend.length + l.length
 | [], d, b, h, _, _, _ => ⟨d, b, rfl, h, fun x => by simp, by simp⟩
 | n :: r, d, b, h, hn, hd, hs => by
  obtain ⟨hd1, hd2⟩ := List.nodup_cons.1 hd
  unfold sSweep
  cases hb : isBegun n with
  | false =>
   rw [if_neg (by simp)]
   obtain ⟨d1, b1, e1, e2, e3, e4⟩ := sweep_ok r d b h (fun x hx => hn x (.tail _ hx)) hd2 (fun x hx => hs x (.tail _ hx))
   refine ⟨d1, b1, e1, e2, fun x => ?_, by simp; omega⟩
   rw [e3 x]
   by_cases hx : x = n
   · subst hx
     simp [hb]
   · simp [hx]
  | true =>
   have hr := dRemove_there (z := z) h (hn n (.head _)) (hs n (.head _))
   have hsh := shown_remove (z := z) (hs n (.head _))
   rw [if_pos rfl, hr, if_neg (by simp)]
   obtain ⟨d1, b1, e1, e2, e3, e4⟩ := sweep_ok r (dAdd d ⟨2, n, [], z⟩) true h (fun x hx => hn x (.tail _ hx)) hd2 (fun x hx => by
    rw [hsh, gget_del_other (show x ≠ n from fun e => by subst e; exact hd1 hx)]
    exact hs x (.tail _ hx))
   refine ⟨d1, b1, e1, e2, fun x => ?_, by unfold dAdd at e4; simp at e4 ⊢; omega⟩
   rw [e3 x, hsh]
   by_cases hx : x = n
   · subst hx
     rw [gget_del_same]
     simp [hb]
   · rw [gget_del_other hx]
     simp [hx]
theorem names_nodup {l : List (Bs × α)} (h : Ris l) : (names l).Nodup := by
 unfold names
 rw [List.Nodup, List.pairwise_map]
 exact h.imp fun {a b} hab e => by rw [e, bb_irrefl] at hab; cases hab
theorem mem_names {l : List (Bs × α)} (h : Ris l) {x : Bs} : x ∈ names l ↔ (gget x l).isSome = true := by
 constructor
 · intro hx
   obtain ⟨p, hp, rfl⟩ := List.mem_map.1 hx
   rw [gget_of_mem h (show (p.1, p.2) ∈ l from hp)]
   rfl
 · intro hx
   cases hg : gget x l with
   | none => rw [hg] at hx; cases hx
   | some v => exact List.mem_map.2 ⟨(x, v), gget_mem hg, rfl⟩
theorem open_ok {z : α} {d : Dk α} (h : Fre d) (hr : Ris d.sure) (hn : ∀ x ∈ names d.shown, named x = true) : ∃ d1, sOpen z d = (d1, 0) ∧ Fre d1 ∧ (∀ x, gget x d1.shown = if isBegun x = true then none else gget x d.shown) ∧ d1.sure.length + d1.pend.length ≤ 2 * (d.sure.length + d.pend.length) := by
 have hrs : Ris d.shown := hr.fdos d.pend
 have hlen : (names d.shown).length ≤ d.sure.length + d.pend.length := by
  unfold names
  rw [List.length_map]
  exact flen_dos d.sure d.pend
 obtain ⟨d1, b1, e1, e2, e3, e4⟩ := sweep_ok (z := z) (names d.shown) d false h hn (names_nodup hrs) (fun x hx => (mem_names hrs).1 hx)
 have e5 : ∀ x, gget x d1.shown = if isBegun x = true then none else gget x d.shown := fun x => by
  rw [e3 x]
  by_cases hb : isBegun x = true
  · rw [if_pos hb]
    by_cases hx : x ∈ names d.shown
    · rw [if_pos ⟨hx, hb⟩]
    · rw [if_neg (fun h => hx h.1)]
      cases hg : gget x d.shown with
      | none => rfl
      | some v => exact absurd ((mem_names hrs).2 (by rw [hg]; rfl)) hx
  · rw [if_neg hb, if_neg (fun h => hb h.2)]
 unfold sOpen
 rw [if_neg (by rw [h.2]; simp), e1]
 dsimp only
 rw [if_neg (by simp)]
 cases b1 with
 | false => exact ⟨d1, rfl, e2, e5, by omega⟩
 | true =>
  obtain ⟨y1, y2, y3, y4⟩ := dSync_fre e2
  refine ⟨(dSync d1).1, ?_, y4, fun x => ?_, ?_⟩
  · rw [if_pos rfl]
    exact Prod.ext rfl y1
  · rw [← e5 x]
    have : (dSync d1).1.shown = d1.shown := by rw [shown_nil y3, y2]
    rw [this]
  · rw [y2, y3]
    have := flen_dos d1.sure d1.pend
    unfold Dk.shown
    simp
    omega
end
theorem begun_head {b : UInt8} {r : Bs} : isBegun (b :: r) = (126 == b) := by
 show ((126 == b) && true) = _
 rw [Bool.and_true]
section
variable {β : Type} {f : β → Value} {P : Program} {K T E : TypeId} {w w' : World} {b n : Nat} {l : List (Bs × β)}
variable {ops : Array Oper} {rest : List Oper} {o : Oper} {a : Act} {Q : Exit → Act → World → Prop}
end
end
section
open Go.RowKit Go.Maps Go.Sort
section
variable {α : Type}
theorem dWorks_up (room : Int) (S : List (Bs × α)) (p : List (Chg α)) (fuse : Int) : (∃ f, dWorks (⟨room, S, p, fuse, false⟩ : Dk α) = (⟨room, S, p, f, false⟩, 0)) ∨ dWorks (⟨room, S, p, fuse, false⟩ : Dk α) = (⟨room, S, p, fuse, true⟩, 14) := by
 unfold dWorks
 dsimp only
 rw [if_neg (by simp)]
 split
 · exact .inr rfl
 · split
   · exact .inl ⟨_, rfl⟩
   · exact .inl ⟨_, rfl⟩
theorem snamed_named {n : Bs} (h : snamed n = true) : named n = true := by
 unfold snamed at h
 simp only [Bool.and_eq_true] at h
 exact h.1.2
theorem snamed_off {n : Bs} (h : snamed n = true) : 126 ∉ n := by
 unfold snamed at h
 simp only [Bool.and_eq_true] at h
 simpa using h.2
theorem isBegun_begun (n : Bs) : isBegun (begun n) = true := by
 unfold begun
 rw [begun_head]
 decide
theorem snamed_begun {n : Bs} (h : snamed n = true) : isBegun n = false := by
 have h1 := snamed_off h
 have h2 := snamed_named h
 cases n with
 | nil => cases h2
 | cons b r =>
  rw [begun_head]
  have : ¬ (126 : UInt8) = b := fun e => h1 (by rw [e]; simp)
  simpa using this
theorem named_begun {n : Bs} (h : snamed n = true) : named (begun n) = true := by
 have h2 := snamed_named h
 have h3 := snamed_len h
 unfold named begun at *
 simp only [Bool.and_eq_true, decide_eq_true_eq, List.length_cons, List.all_cons] at *
 exact ⟨⟨by omega, by omega⟩, by decide, h2.2⟩
def putW (n : Bs) (v : α) : Chg α := ⟨0, begun n, [], v⟩
def putR (z : α) (n : Bs) : Chg α := ⟨1, begun n, n, z⟩
inductive PutR (z : α) (room : Int) (S : List (Bs × α)) (n : Bs) (v : α) : Dk α × Nat → Prop where
 | done (f : Int) (hs : snamed n = true) : PutR z room S n v (⟨room, fdo (fdo S (putW n v)) (putR z n), [], f, false⟩, 0)
 | left (f : Int) (k : Nat) (h0 : k ≠ 0) (h1 : k ≠ 14) : PutR z room S n v (⟨room, S, [], f, false⟩, k)
 | down0 (f : Int) (hs : snamed n = true) : PutR z room S n v (⟨room, S, [], f, true⟩, 14)
 | down1 (f : Int) (hs : snamed n = true) : PutR z room S n v (⟨room, S, [putW n v], f, true⟩, 14)
 | down2 (f : Int) (hs : snamed n = true) : PutR z room S n v (⟨room, fdo S (putW n v), [], f, true⟩, 14)
 | down3 (f : Int) (hs : snamed n = true) : PutR z room S n v (⟨room, fdo S (putW n v), [putR z n], f, true⟩, 14)
theorem andThen_ok (d : Dk α) (f : Dk α → Dk α × Nat) : andThen (d, 0) f = f d := if_neg (by simp)
theorem andThen_bad (d : Dk α) {k : Nat} (h : k ≠ 0) (f : Dk α → Dk α × Nat) : andThen (d, k) f = (d, k) := if_pos h
theorem sync_up (room : Int) (S : List (Bs × α)) (p : List (Chg α)) (fuse : Int) : (∃ f, dSync (⟨room, S, p, fuse, false⟩ : Dk α) = (⟨room, fdos S p, [], f, false⟩, 0)) ∨ dSync (⟨room, S, p, fuse, false⟩ : Dk α) = (⟨room, S, p, fuse, true⟩, 14) := by
 unfold dSync
 rcases dWorks_up room S p fuse with ⟨f, e⟩ | e
 · rw [e]
   exact .inl ⟨f, if_neg (by simp)⟩
 · rw [e]
   exact .inr (if_pos (by simp))
theorem write_up (len : α → Nat) (room : Int) (S : List (Bs × α)) (fuse : Int) {n : Bs} (v : α) (hn : named n = true) : (∃ f, dWrite len (⟨room, S, [], fuse, false⟩ : Dk α) n v = (⟨room, S, [⟨0, n, [], v⟩], f, false⟩, 0)) ∨ (∃ f k, k ≠ 0 ∧ k ≠ 14 ∧ dWrite len (⟨room, S, [], fuse, false⟩ : Dk α) n v = (⟨room, S, [], f, false⟩, k)) ∨ dWrite len (⟨room, S, [], fuse, false⟩ : Dk α) n v = (⟨room, S, [], fuse, true⟩, 14) := by
 unfold dWrite
 rcases dWorks_up room S [] fuse with ⟨f, e⟩ | e
 · rw [e, if_neg (by simp), if_neg (by simp [hn])]
   split
   · exact .inr (.inl ⟨f, 3, by decide, by decide, rfl⟩)
   split
   · exact .inr (.inl ⟨f, 5, by decide, by decide, rfl⟩)
   · exact .inl ⟨f, rfl⟩
 · rw [e]
   exact .inr (.inr (if_pos (by simp)))
theorem rename_up (z : α) (room : Int) (S : List (Bs × α)) (fuse : Int) {n t : Bs} (hn : named n = true) (ht : named t = true) (hg : (gget n S).isSome = true) : (∃ f, dRename z (⟨room, S, [], fuse, false⟩ : Dk α) n t = (⟨room, S, [⟨1, n, t, z⟩], f, false⟩, 0)) ∨ dRename z (⟨room, S, [], fuse, false⟩ : Dk α) n t = (⟨room, S, [], fuse, true⟩, 14) := by
 have hsh : (⟨room, S, [], fuse, false⟩ : Dk α).shown = S := rfl
 unfold dRename
 rw [hsh]
 rcases dWorks_up room S [] fuse with ⟨f, e⟩ | e
 · rw [e, if_neg (by simp), if_neg (by simp [hn, ht])]
   cases h : gget n S with
   | none => rw [h] at hg; cases hg
   | some u => exact .inl ⟨f, if_neg (by simp)⟩
 · rw [e]
   exact .inr (if_pos (by simp))
theorem put_r (len : α → Nat) (z : α) (room : Int) (S : List (Bs × α)) (fuse : Int) {n : Bs} (v : α) : PutR z room S n v (sPut len z ⟨room, S, [], fuse, false⟩ n v) := by
 unfold sPut
 cases hs : snamed n with
 | false => rw [if_pos rfl]; exact .left _ _ (by decide) (by decide)
 | true =>
  rw [if_neg (by simp)]
  have hb := named_begun hs
  have hn := snamed_named hs
  rcases write_up len room S fuse v hb with ⟨f, e⟩ | ⟨f, k, h0, h1, e⟩ | e
  · rw [e, andThen_ok]
    rcases sync_up room S [putW n v] f with ⟨f2, e2⟩ | e2
    · unfold putW at e2
      rw [e2, andThen_ok]
      have hg : (gget (begun n) (fdo S (putW n v))).isSome = true := by
       rw [fdo_w rfl]
       show (gget (begun n) (gput (begun n) v S)).isSome = true
       rw [gget_put_same]
       rfl
      rcases rename_up z room (fdo S (putW n v)) f2 hb hn hg with ⟨f3, e3⟩ | e3
      · show PutR z room S n v (andThen (dRename z ⟨room, fdo S (putW n v), [], f2, false⟩ (begun n) n) dSync)
        rw [e3, andThen_ok]
        rcases sync_up room (fdo S (putW n v)) [putR z n] f3 with ⟨f4, e4⟩ | e4
        · unfold putR at e4
          rw [e4]
          exact .done f4 hs
        · unfold putR at e4
          rw [e4]
          exact .down3 f3 hs
      · show PutR z room S n v (andThen (dRename z ⟨room, fdo S (putW n v), [], f2, false⟩ (begun n) n) dSync)
        rw [e3, andThen_bad _ (by decide)]
        exact .down2 f2 hs
    · unfold putW at e2
      rw [e2, andThen_bad _ (by decide)]
      exact .down1 f hs
  · rw [e, andThen_bad _ h0]
    exact .left f k h0 h1
  · rw [e, andThen_bad _ (by decide)]
    exact .down0 fuse hs
theorem Ris.same {l l' : List (Bs × α)} (h : Ris l) (h' : Ris l') (he : ∀ x, gget x l = gget x l') : l = l' :=
 h.ext h' fun p => ⟨fun hp => gget_mem (by rw [← he]; exact gget_of_mem h hp), fun hp => gget_mem (by rw [he]; exact gget_of_mem h' hp)⟩
def Sna (S : List (Bs × α)) : Prop := ∀ x, snamed x = false → gget x S = none
theorem Sna.begun {S : List (Bs × α)} (h : Sna S) {x : Bs} (hb : isBegun x = true) : gget x S = none := by
 refine h x ?_
 cases hs : snamed x with
 | false => rfl
 | true => rw [snamed_begun hs] at hb; cases hb
theorem Sna.put {S : List (Bs × α)} (h : Sna S) {n : Bs} (hn : snamed n = true) (v : α) : Sna (gput n v S) := fun x hx => by
 rw [gget_put_other v (show x ≠ n from fun e => by rw [e, hn] at hx; cases hx)]
 exact h x hx
theorem gdel_begun {S : List (Bs × α)} (hr : Ris S) (h : Sna S) (n : Bs) (v : α) : gdel (begun n) (gput (begun n) v S) = S :=
 Ris.same ((hr.put _ _).del _) hr fun x => by
  rcases Decidable.em (x = begun n) with e | e
  · rw [e, gget_del_same, h.begun (isBegun_begun n)]
  · rw [gget_del_other e, gget_put_other v e]
theorem fdo_putW (S : List (Bs × α)) (n : Bs) (v : α) : fdo S (putW n v) = gput (begun n) v S := fdo_w (x := putW n v) rfl
theorem put_two {S : List (Bs × α)} (hr : Ris S) (h : Sna S) (z : α) (n : Bs) (v : α) : fdo (fdo S (putW n v)) (putR z n) = gput n v S := by
 rw [fdo_putW]
 rw [fdo_r (x := putR z n) (b := v) rfl (gget_put_same (begun n) v S)]
 show gput n v (gdel (begun n) (gput (begun n) v S)) = _
 rw [gdel_begun hr h]
theorem names_of {S : List (Bs × α)} (h : Sna S) : ∀ x ∈ names S, named x = true := fun x hx => by
 obtain ⟨p, hp, rfl⟩ := List.mem_map.1 hx
 cases hs : snamed p.1 with
 | true => exact snamed_named hs
 | false =>
  have h1 := h _ hs
  rw [gget_none] at h1
  exact absurd rfl (h1 p hp)
theorem swept_none {z : α} : ∀ (l : List Bs) (d : Dk α), (sSweep z l d false).2.2 = false → (sSweep z l d false).2.1 = 0 → (sSweep z l d false).1 = d
 | [], d, _, _ => rfl
 | n :: r, d, h1, h2 => by
  unfold sSweep at *
  split at h1
  · rename_i hb
    rw [if_pos hb] at h2 ⊢
    split at h1
    · rename_i hk
      rw [if_pos hk] at h2
      exact absurd h2 hk
    · exact absurd h1 (by rw [swept_true]; simp)
  · rename_i hb
    rw [if_neg hb] at h2 ⊢
    exact swept_none r d h1 h2
where swept_true {z : α} : ∀ (l : List Bs) (d : Dk α), (sSweep z l d true).2.2 = true
 | [], d => rfl
 | n :: r, d => by
  unfold sSweep
  split
  · split
    · rfl
    · exact swept_true r _
  · exact swept_true r d
theorem open_up {z : α} {room : Int} {S1 S : List (Bs × α)} (hr : Ris S1) (hs : Ris S) (hS : Sna S) (hn : ∀ x ∈ names S1, named x = true) (he : ∀ x, isBegun x = false → gget x S1 = gget x S) :
 ∃ d2, sOpen z (⟨room, S1, [], -1, false⟩ : Dk α) = (d2, 0) ∧ Fre d2 ∧ d2.pend = [] ∧ (Ris d2.sure → d2.sure = S) := by
 obtain ⟨d2, h1, h2, h3, h4⟩ := open_ok (z := z) (d := ⟨room, S1, [], -1, false⟩) ⟨rfl, rfl⟩ hr hn
 have hsh : (⟨room, S1, [], -1, false⟩ : Dk α).shown = S1 := rfl
 rw [hsh] at h3
 have hp : d2.pend = [] := by
  unfold sOpen at h1
  rw [if_neg (by simp)] at h1
  split at h1
  · rename_i hk
    have h5 := congrArg Prod.snd h1
    exact absurd h5 hk
  · rename_i hk
    split at h1
    · have h6 := congrArg Prod.fst h1
      dsimp only at h6
      rw [← h6]
      have h7 := congrArg Prod.snd h1
      unfold dSync at h7 ⊢
      split
      · rename_i hw
        rw [if_pos hw] at h7
        exact absurd h7 hw
      · rfl
    · rename_i hb
      have h6 := congrArg Prod.fst h1
      dsimp only at h6
      rw [swept_none _ _ (by simpa using hb) (by simpa using hk)] at h6
      rw [← h6]
 have hsr : d2.shown = d2.sure := shown_nil hp
 refine ⟨d2, h1, h2, hp, fun h0 => Ris.same h0 hs fun x => ?_⟩
 rw [← hsr, h3 x]
 cases hb : isBegun x with
 | true => rw [if_pos rfl, hS.begun hb]
 | false => rw [if_neg (by simp)]; exact he x hb
inductive Out (z : α) (S T : List (Bs × α)) (n : Bs) : Dk α × Nat → Prop where
 | done (d : Dk α) (hd : d.down = false) (hp : d.pend = []) (hs : d.sure = T) (hn : snamed n = true) : Out z S T n (d, 0)
 | left (d : Dk α) (hd : d.down = false) (hp : d.pend = []) (hs : d.sure = S) (k : Nat) (h0 : k ≠ 0) (h1 : k ≠ 14) : Out z S T n (d, k)
 | down (d : Dk α) (hd : d.down = true) (hn : snamed n = true) (hl : d.sure.length + d.pend.length ≤ S.length + 2) (h : ∀ ks, ∃ d2, sOpen z (dStart (dCut ks d)) = (d2, 0) ∧ Fre d2 ∧ d2.pend = [] ∧ (Ris d2.sure → d2.sure = S ∨ d2.sure = T)) : Out z S T n (d, 14)
theorem kept_one (ks : List Bool) (c : Chg α) : kept ks [c] = [] ∨ kept ks [c] = [c] := by
 cases ks with
 | nil => exact .inl (kept_none _)
 | cons b r =>
  rw [kept_cons, kept_nil]
  cases b
  · exact .inl rfl
  · exact .inr rfl
theorem start_cut (ks : List Bool) (room : Int) (S : List (Bs × α)) (p : List (Chg α)) (f : Int) : dStart (dCut ks (⟨room, S, p, f, true⟩ : Dk α)) = ⟨room, fdos S (kept ks p), [], -1, false⟩ := by
 unfold dStart dCut
 exact if_pos rfl
theorem off_put {n : Bs} {S : List (Bs × α)} {v : α} {x : Bs} (hb : isBegun x = false) : gget x (gput (begun n) v S) = gget x S :=
 gget_put_other v (fun e => by rw [e, isBegun_begun] at hb; cases hb) S
theorem names_begun {S : List (Bs × α)} (h : Sna S) {n : Bs} (hn : snamed n = true) (v : α) : ∀ x ∈ names (gput (begun n) v S), named x = true := fun x hx => by
 obtain ⟨p, hp, rfl⟩ := List.mem_map.1 hx
 rcases gmem_put.1 hp with rfl | ⟨h1, -⟩
 · exact named_begun hn
 · exact names_of h _ (List.mem_map.2 ⟨p, h1, rfl⟩)
theorem put_out (len : α → Nat) (z : α) {d : Dk α} (hd : d.down = false) (hp : d.pend = []) (hr : Ris d.sure) (h : Sna d.sure) (n : Bs) (v : α) : Out z d.sure (gput n v d.sure) n (sPut len z d n v) := by
 obtain ⟨room, S, p, fuse, dn⟩ := d
 dsimp only at *
 subst hd hp
 have hR := put_r len z room S fuse (n := n) v
 have old : ∀ S1, Ris S1 → (∀ x ∈ names S1, named x = true) → (∀ x, isBegun x = false → gget x S1 = gget x S) → ∃ d2, sOpen z (⟨room, S1, [], -1, false⟩ : Dk α) = (d2, 0) ∧ Fre d2 ∧ d2.pend = [] ∧ (Ris d2.sure → d2.sure = S ∨ d2.sure = gput n v S) := fun S1 h1 h2 h3 => by
  obtain ⟨d2, e1, e2, e3, e4⟩ := open_up (z := z) (room := room) h1 hr h h2 h3
  exact ⟨d2, e1, e2, e3, fun hx => .inl (e4 hx)⟩
 have o0 := old S hr (names_of h) (fun _ _ => rfl)
 have o1 := fun hn : snamed n = true => old (gput (begun n) v S) (hr.put _ _) (names_begun h hn v) (fun x hx => off_put hx)
 generalize sPut len z ⟨room, S, [], fuse, false⟩ n v = r at hR ⊢
 cases hR with
 | done f hn => exact .done _ rfl rfl (put_two hr h z n v) hn
 | left f k h0 h1 => exact .left ⟨room, S, [], f, false⟩ rfl rfl rfl k h0 h1
 | down0 f hn =>
  refine .down _ rfl hn (by simp <;> omega) fun ks => ?_
  rw [start_cut, kept_nil]
  exact o0
 | down1 f hn =>
  refine .down _ rfl hn (by simp <;> omega) fun ks => ?_
  rw [start_cut]
  rcases kept_one ks (putW n v) with e | e
  · rw [e]; exact o0
  · rw [e]
    show ∃ d2, sOpen z (⟨room, fdo S (putW n v), [], -1, false⟩ : Dk α) = (d2, 0) ∧ _
    rw [fdo_putW]
    exact o1 hn
 | down2 f hn =>
  refine .down _ rfl hn (by rw [fdo_putW]; have := glen_put (begun n) v S; simp; omega) fun ks => ?_
  rw [start_cut, kept_nil]
  show ∃ d2, sOpen z (⟨room, fdo S (putW n v), [], -1, false⟩ : Dk α) = (d2, 0) ∧ _
  rw [fdo_putW]
  exact o1 hn
 | down3 f hn =>
  refine .down _ rfl hn (by rw [fdo_putW]; have := glen_put (begun n) v S; simp; omega) fun ks => ?_
  rw [start_cut]
  rcases kept_one ks (putR z n) with e | e
  · rw [e]
    show ∃ d2, sOpen z (⟨room, fdo S (putW n v), [], -1, false⟩ : Dk α) = (d2, 0) ∧ _
    rw [fdo_putW]
    exact o1 hn
  · rw [e]
    show ∃ d2, sOpen z (⟨room, fdo (fdo S (putW n v)) (putR z n), [], -1, false⟩ : Dk α) = (d2, 0) ∧ _
    rw [put_two hr h]
    obtain ⟨d2, e1, e2, e3, e4⟩ := open_up (z := z) (room := room) (hr.put n v) (hr.put n v) (h.put hn v) (names_of (h.put hn v)) (fun _ _ => rfl)
    exact ⟨d2, e1, e2, e3, fun hx => .inr (e4 hx)⟩
end
end
section
open Go.Lib
def figs (n w : Nat) : Bs := List.replicate (w - (decDigits n).length) 48 ++ decDigits n
def title (n : Nat) : Bs := 109 :: figs n 6
def label (n p : Nat) : Bs := 112 :: (figs n 6 ++ 45 :: figs p 4)
theorem dd_small {n : Nat} (h : n < 10) : decDigits n = [UInt8.ofNat (48 + n)] := by rw [decDigits, dif_pos h]
theorem dd_big {n : Nat} (h : ¬ n < 10) : decDigits n = decDigits (n / 10) ++ [UInt8.ofNat (48 + n % 10)] := by rw [decDigits, dif_neg h]
theorem dd_len : ∀ (k n : Nat), n < 10 ^ (k + 1) → (decDigits n).length ≤ k + 1
 | 0, n, h => by rw [dd_small (by simpa using h)]; simp
 | k + 1, n, h => by
  by_cases h1 : n < 10
  · rw [dd_small h1]; simp
  · rw [dd_big h1, List.length_append]
    have h2 : n / 10 < 10 ^ (k + 1) := by
     rw [Nat.div_lt_iff_lt_mul (by decide)]
     rw [Nat.pow_succ] at h
     exact h
    have := dd_len k (n / 10) h2
    simp only [List.length_cons, List.length_nil]
    omega
theorem figs_len {n w : Nat} (h : n < 10 ^ (w + 1)) : (figs n (w + 1)).length = w + 1 := by
 have := dd_len w n h
 unfold figs
 rw [List.length_append, List.length_replicate]
 omega
theorem dd_all : ∀ (n : Nat), ∀ b ∈ decDigits n, 48 ≤ b ∧ b ≤ 57 := by
 intro n
 induction n using Nat.strongRecOn with
 | _ n ih =>
  have key : ∀ m, m < 10 → (48 : UInt8) ≤ UInt8.ofNat (48 + m) ∧ UInt8.ofNat (48 + m) ≤ 57 := by decide
  by_cases h : n < 10
  · rw [dd_small h]
    intro b hb
    rw [List.mem_singleton] at hb
    subst hb
    exact key n h
  · rw [dd_big h]
    intro b hb
    rcases List.mem_append.1 hb with hb | hb
    · exact ih (n / 10) (by omega) b hb
    · rw [List.mem_singleton] at hb
      subst hb
      exact key _ (by omega)
theorem figs_all (n w : Nat) : ∀ b ∈ figs n w, 48 ≤ b ∧ b ≤ 57 := by
 intro b hb
 rcases List.mem_append.1 hb with hb | hb
 · rw [(List.mem_replicate.1 hb).2]
   decide
 · exact dd_all n b hb
def fval (a : Nat) (l : Bs) : Nat := l.foldl (fun a b => 10 * a + (b.toNat - 48)) a
theorem fval_app (l m : Bs) (a : Nat) : fval a (l ++ m) = fval (fval a l) m := by unfold fval; rw [List.foldl_append]
theorem fval_zero (k : Nat) : fval 0 (List.replicate k 48) = 0 := by
 induction k with
 | zero => rfl
 | succ k ih =>
  rw [List.replicate_succ]
  exact ih
theorem fval_one (a : Nat) (b : UInt8) : fval a [b] = 10 * a + (b.toNat - 48) := rfl
theorem fval_dd (n : Nat) : fval 0 (decDigits n) = n := by
 induction n using Nat.strongRecOn with
 | _ n ih =>
  have key : ∀ m, m < 10 → (UInt8.ofNat (48 + m)).toNat - 48 = m := by decide
  by_cases h : n < 10
  · rw [dd_small h, fval_one, key n h]
    omega
  · rw [dd_big h, fval_app, ih (n / 10) (by omega), fval_one, key _ (by omega)]
    omega
theorem fval_figs (n w : Nat) : fval 0 (figs n w) = n := by
 unfold figs
 rw [fval_app, fval_zero, fval_dd]
theorem figs_inj {n m w : Nat} (h : figs n w = figs m w) : n = m := by rw [← fval_figs n w, h, fval_figs]
theorem title_inj {n m : Nat} (h : title n = title m) : n = m := by
 injection h with _ h
 exact figs_inj h
theorem sep_inj {x : UInt8} : ∀ {a b c d : Bs}, x ∉ a → x ∉ b → a ++ x :: c = b ++ x :: d → a = b ∧ c = d
 | [], [], c, d, _, _, h => by
  injection h with _ h
  exact ⟨rfl, h⟩
 | [], y :: b, c, d, _, hb, h => by
  injection h with h1 _
  exact absurd (h1 ▸ List.mem_cons_self) hb
 | y :: a, [], c, d, ha, _, h => by
  injection h with h1 _
  exact absurd (h1 ▸ List.mem_cons_self) ha
 | y :: a, z :: b, c, d, ha, hb, h => by
  injection h with h1 h2
  obtain ⟨h3, h4⟩ := sep_inj (fun e => ha (.tail _ e)) (fun e => hb (.tail _ e)) h2
  exact ⟨by rw [h1, h3], h4⟩
theorem figs_off (n w : Nat) : (45 : UInt8) ∉ figs n w := fun h => by
 have := (figs_all n w _ h).1
 revert this
 decide
theorem label_inj {n m p q : Nat} (h : label n p = label m q) : n = m ∧ p = q := by
 injection h with _ h
 obtain ⟨h1, h2⟩ := sep_inj (figs_off n 6) (figs_off m 6) h
 exact ⟨figs_inj h1, figs_inj h2⟩
theorem title_label (n m p : Nat) : title n ≠ label m p := fun h => by
 injection h with h _
 revert h
 decide
theorem figs_sign (n w : Nat) : (figs n w).all isSign = true := by
 rw [List.all_eq_true]
 intro b hb
 obtain ⟨h1, h2⟩ := figs_all n w b hb
 unfold isSign
 simp [h1, h2]
theorem figs_tilde (n w : Nat) : (126 : UInt8) ∉ figs n w := fun h => by
 have := (figs_all n w _ h).2
 revert this
 decide
theorem title_len {n : Nat} (h : n < 1000000) : (title n).length = 7 := by
 unfold title
 rw [List.length_cons, figs_len (w := 5) (by simpa using h)]
theorem label_len {n p : Nat} (h : n < 1000000) (hp : p < 10000) : (label n p).length = 12 := by
 unfold label
 rw [List.length_cons, List.length_append, List.length_cons, figs_len (w := 5) (by simpa using h), figs_len (w := 3) (by simpa using hp)]
theorem title_named {n : Nat} (h : n < 1000000) : snamed (title n) = true := by
 have hl := title_len h
 have h1 := figs_sign n 6
 have h2 := figs_tilde n 6
 unfold snamed named
 rw [hl]
 have h3 : (title n).all isSign = true := by
  unfold title
  rw [List.all_cons, h1]
  decide
 have h4 : ¬ (126 ∈ title n) := fun h => by
  unfold title at h
  rcases List.mem_cons.1 h with h | h
  · revert h; decide
  · exact h2 h
 simp [h3, h4]
theorem label_named {n p : Nat} (h : n < 1000000) (hp : p < 10000) : snamed (label n p) = true := by
 have hl := label_len h hp
 have h3 : (label n p).all isSign = true := by
  unfold label
  rw [List.all_cons, List.all_append, List.all_cons, figs_sign, figs_sign]
  decide
 have h4 : ¬ (126 ∈ label n p) := fun h => by
  unfold label at h
  rcases List.mem_cons.1 h with h | h
  · revert h; decide
  · rcases List.mem_append.1 h with h | h
    · exact figs_tilde _ _ h
    · rcases List.mem_cons.1 h with h | h
      · revert h; decide
      · exact figs_tilde _ _ h
 unfold snamed named
 rw [hl]
 simp [h3, h4]
end
section
open Go.RowKit Go.Maps Go.Sort
attribute [local go_sem ↓] Go.wp_at_zero Go.wp_at_succ
/-! ### found -/
section
variable {w wr w' : World} {f p : Bs × Bs} {A1 B B' : Option Addr} {c1 d d' : Nat} {g m m' : List (Bs × Bs)}
end
end
end Go.Proofs.YtajfnmohlnkncaaGreatDoor
