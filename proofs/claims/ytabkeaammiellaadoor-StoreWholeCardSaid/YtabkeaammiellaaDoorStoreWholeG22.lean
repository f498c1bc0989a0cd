/- WHAT IT HOLDS: what a store's act leaves of a disk that may go down at any step, and of it started anew, plainly. -/
import Derived.Test.YtabkeaammiellaaDoorStoreWholeG21
namespace Go.Proofs.YtabkeaammiellaaDoor
open Go.RowKit Go.Maps Go.Sort

section
variable {α : Type}
theorem dWorks_up (room : Int) (S : List (Bs × α)) (p : List (Chg α)) (fuse : Int) : (∃ f, dWorks (⟨room, S, p, fuse, false⟩ : Dk α) = (⟨room, S, p, f, false⟩, 0)) ∨ dWorks (⟨room, S, p, fuse, false⟩ : Dk α) = (⟨room, S, p, fuse, true⟩, 14) := by
  unfold dWorks
  dsimp only
  rw [if_neg (by simp)]
  split
  · exact .inr rfl
  · split
    · exact .inl ⟨_, rfl⟩
    · exact .inl ⟨_, rfl⟩
theorem snamed_named {n : Bs} (h : snamed n = true) : named n = true := by
  unfold snamed at h
  simp only [Bool.and_eq_true] at h
  exact h.1.2
theorem snamed_off {n : Bs} (h : snamed n = true) : 126 ∉ n := by
  unfold snamed at h
  simp only [Bool.and_eq_true] at h
  simpa using h.2
theorem isBegun_begun (n : Bs) : isBegun (begun n) = true := by
  unfold begun
  rw [begun_head]
  decide
theorem snamed_begun {n : Bs} (h : snamed n = true) : isBegun n = false := by
  have h1 := snamed_off h
  have h2 := snamed_named h
  cases n with
  | nil => cases h2
  | cons b r =>
    rw [begun_head]
    have : ¬ (126 : UInt8) = b := fun e => h1 (by rw [e]; simp)
    simpa using this
theorem named_begun {n : Bs} (h : snamed n = true) : named (begun n) = true := by
  have h2 := snamed_named h
  have h3 := snamed_len h
  unfold named begun at *
  simp only [Bool.and_eq_true, decide_eq_true_eq, List.length_cons, List.all_cons] at *
  exact ⟨⟨by omega, by omega⟩, by decide, h2.2⟩
theorem begun_ne {n : Bs} (h : snamed n = true) : n ≠ begun n := fun e => by
  have h1 := snamed_begun h
  rw [e, isBegun_begun] at h1
  cases h1
/-- the changes of a put, as far as they came -/
def putW (n : Bs) (v : α) : Chg α := ⟨0, begun n, [], v⟩
def putR (z : α) (n : Bs) : Chg α := ⟨1, begun n, n, z⟩
/-- what a put leaves of a disk that is up and has nothing pending -/
inductive PutR (z : α) (room : Int) (S : List (Bs × α)) (n : Bs) (v : α) : Dk α × Nat → Prop where
  | done (f : Int) (hs : snamed n = true) : PutR z room S n v (⟨room, fdo (fdo S (putW n v)) (putR z n), [], f, false⟩, 0)
  | left (f : Int) (k : Nat) (h0 : k ≠ 0) (h1 : k ≠ 14) : PutR z room S n v (⟨room, S, [], f, false⟩, k)
  | down0 (f : Int) (hs : snamed n = true) : PutR z room S n v (⟨room, S, [], f, true⟩, 14)
  | down1 (f : Int) (hs : snamed n = true) : PutR z room S n v (⟨room, S, [putW n v], f, true⟩, 14)
  | down2 (f : Int) (hs : snamed n = true) : PutR z room S n v (⟨room, fdo S (putW n v), [], f, true⟩, 14)
  | down3 (f : Int) (hs : snamed n = true) : PutR z room S n v (⟨room, fdo S (putW n v), [putR z n], f, true⟩, 14)
theorem andThen_ok (d : Dk α) (f : Dk α → Dk α × Nat) : andThen (d, 0) f = f d := if_neg (by simp)
theorem andThen_bad (d : Dk α) {k : Nat} (h : k ≠ 0) (f : Dk α → Dk α × Nat) : andThen (d, k) f = (d, k) := if_pos h
theorem sync_up (room : Int) (S : List (Bs × α)) (p : List (Chg α)) (fuse : Int) : (∃ f, dSync (⟨room, S, p, fuse, false⟩ : Dk α) = (⟨room, fdos S p, [], f, false⟩, 0)) ∨ dSync (⟨room, S, p, fuse, false⟩ : Dk α) = (⟨room, S, p, fuse, true⟩, 14) := by
  unfold dSync
  rcases dWorks_up room S p fuse with ⟨f, e⟩ | e
  · rw [e]
    exact .inl ⟨f, if_neg (by simp)⟩
  · rw [e]
    exact .inr (if_pos (by simp))
theorem write_up (len : α → Nat) (room : Int) (S : List (Bs × α)) (fuse : Int) {n : Bs} (v : α) (hn : named n = true) : (∃ f, dWrite len (⟨room, S, [], fuse, false⟩ : Dk α) n v = (⟨room, S, [⟨0, n, [], v⟩], f, false⟩, 0)) ∨ (∃ f k, k ≠ 0 ∧ k ≠ 14 ∧ dWrite len (⟨room, S, [], fuse, false⟩ : Dk α) n v = (⟨room, S, [], f, false⟩, k)) ∨ dWrite len (⟨room, S, [], fuse, false⟩ : Dk α) n v = (⟨room, S, [], fuse, true⟩, 14) := by
  unfold dWrite
  rcases dWorks_up room S [] fuse with ⟨f, e⟩ | e
  · rw [e, if_neg (by simp), if_neg (by simp [hn])]
    split
    · exact .inr (.inl ⟨f, 3, by decide, by decide, rfl⟩)
    split
    · exact .inr (.inl ⟨f, 5, by decide, by decide, rfl⟩)
    · exact .inl ⟨f, rfl⟩
  · rw [e]
    exact .inr (.inr (if_pos (by simp)))
theorem rename_up (z : α) (room : Int) (S : List (Bs × α)) (fuse : Int) {n t : Bs} (hn : named n = true) (ht : named t = true) (hg : (gget n S).isSome = true) : (∃ f, dRename z (⟨room, S, [], fuse, false⟩ : Dk α) n t = (⟨room, S, [⟨1, n, t, z⟩], f, false⟩, 0)) ∨ dRename z (⟨room, S, [], fuse, false⟩ : Dk α) n t = (⟨room, S, [], fuse, true⟩, 14) := by
  have hsh : (⟨room, S, [], fuse, false⟩ : Dk α).shown = S := rfl
  unfold dRename
  rw [hsh]
  rcases dWorks_up room S [] fuse with ⟨f, e⟩ | e
  · rw [e, if_neg (by simp), if_neg (by simp [hn, ht])]
    cases h : gget n S with
    | none => rw [h] at hg; cases hg
    | some u => exact .inl ⟨f, if_neg (by simp)⟩
  · rw [e]
    exact .inr (if_pos (by simp))
theorem remove_up (z : α) (room : Int) (S : List (Bs × α)) (fuse : Int) {n : Bs} (hn : named n = true) : ((gget n S).isSome = true ∧ ∃ f, dRemove z (⟨room, S, [], fuse, false⟩ : Dk α) n = (⟨room, S, [⟨2, n, [], z⟩], f, false⟩, 0)) ∨ (∃ f k, k ≠ 0 ∧ k ≠ 14 ∧ dRemove z (⟨room, S, [], fuse, false⟩ : Dk α) n = (⟨room, S, [], f, false⟩, k)) ∨ dRemove z (⟨room, S, [], fuse, false⟩ : Dk α) n = (⟨room, S, [], fuse, true⟩, 14) := by
  have hsh : (⟨room, S, [], fuse, false⟩ : Dk α).shown = S := rfl
  unfold dRemove
  rw [hsh]
  rcases dWorks_up room S [] fuse with ⟨f, e⟩ | e
  · rw [e, if_neg (by simp), if_neg (by simp [hn])]
    cases h : gget n S with
    | none => exact .inr (.inl ⟨f, 4, by decide, by decide, if_pos (by simp)⟩)
    | some u => exact .inl ⟨rfl, f, if_neg (by simp)⟩
  · rw [e]
    exact .inr (.inr (if_pos (by simp)))
theorem put_r (len : α → Nat) (z : α) (room : Int) (S : List (Bs × α)) (fuse : Int) {n : Bs} (v : α) : PutR z room S n v (sPut len z ⟨room, S, [], fuse, false⟩ n v) := by
  unfold sPut
  cases hs : snamed n with
  | false => rw [if_pos rfl]; exact .left _ _ (by decide) (by decide)
  | true =>
    rw [if_neg (by simp)]
    have hb := named_begun hs
    have hn := snamed_named hs
    rcases write_up len room S fuse v hb with ⟨f, e⟩ | ⟨f, k, h0, h1, e⟩ | e
    · rw [e, andThen_ok]
      rcases sync_up room S [putW n v] f with ⟨f2, e2⟩ | e2
      · unfold putW at e2
        rw [e2, andThen_ok]
        have hg : (gget (begun n) (fdo S (putW n v))).isSome = true := by
          rw [fdo_w rfl]
          show (gget (begun n) (gput (begun n) v S)).isSome = true
          rw [gget_put_same]
          rfl
        rcases rename_up z room (fdo S (putW n v)) f2 hb hn hg with ⟨f3, e3⟩ | e3
        · show PutR z room S n v (andThen (dRename z ⟨room, fdo S (putW n v), [], f2, false⟩ (begun n) n) dSync)
          rw [e3, andThen_ok]
          rcases sync_up room (fdo S (putW n v)) [putR z n] f3 with ⟨f4, e4⟩ | e4
          · unfold putR at e4
            rw [e4]
            exact .done f4 hs
          · unfold putR at e4
            rw [e4]
            exact .down3 f3 hs
        · show PutR z room S n v (andThen (dRename z ⟨room, fdo S (putW n v), [], f2, false⟩ (begun n) n) dSync)
          rw [e3, andThen_bad _ (by decide)]
          exact .down2 f2 hs
      · unfold putW at e2
        rw [e2, andThen_bad _ (by decide)]
        exact .down1 f hs
    · rw [e, andThen_bad _ h0]
      exact .left f k h0 h1
    · rw [e, andThen_bad _ (by decide)]
      exact .down0 fuse hs
inductive DelR (z : α) (room : Int) (S : List (Bs × α)) (n : Bs) : Dk α × Nat → Prop where
  | done (f : Int) (h : (gget n S).isSome = true) (hs : snamed n = true) : DelR z room S n (⟨room, fdo S ⟨2, n, [], z⟩, [], f, false⟩, 0)
  | left (f : Int) (k : Nat) (h0 : k ≠ 0) (h1 : k ≠ 14) : DelR z room S n (⟨room, S, [], f, false⟩, k)
  | down0 (f : Int) (hs : snamed n = true) : DelR z room S n (⟨room, S, [], f, true⟩, 14)
  | down1 (f : Int) (hs : snamed n = true) : DelR z room S n (⟨room, S, [⟨2, n, [], z⟩], f, true⟩, 14)
theorem del_r (z : α) (room : Int) (S : List (Bs × α)) (fuse : Int) {n : Bs} : DelR z room S n (sDelete z ⟨room, S, [], fuse, false⟩ n) := by
  unfold sDelete
  cases hs : snamed n with
  | false => rw [if_pos rfl]; exact .left _ _ (by decide) (by decide)
  | true =>
    rw [if_neg (by simp)]
    rcases remove_up z room S fuse (snamed_named hs) with ⟨hg, f, e⟩ | ⟨f, k, h0, h1, e⟩ | e
    · rw [e, andThen_ok]
      rcases sync_up room S [⟨2, n, [], z⟩] f with ⟨f2, e2⟩ | e2
      · rw [e2]
        exact .done f2 hg hs
      · rw [e2]
        exact .down1 f hs
    · rw [e, andThen_bad _ h0]
      exact .left f k h0 h1
    · rw [e, andThen_bad _ (by decide)]
      exact .down0 fuse hs
theorem Ris.same {l l' : List (Bs × α)} (h : Ris l) (h' : Ris l') (he : ∀ x, gget x l = gget x l') : l = l' :=
  h.ext h' fun p => ⟨fun hp => gget_mem (by rw [← he]; exact gget_of_mem h hp), fun hp => gget_mem (by rw [he]; exact gget_of_mem h' hp)⟩
/-- all names are objects' names -/
def Sna (S : List (Bs × α)) : Prop := ∀ x, snamed x = false → gget x S = none
theorem Sna.begun {S : List (Bs × α)} (h : Sna S) {x : Bs} (hb : isBegun x = true) : gget x S = none := by
  refine h x ?_
  cases hs : snamed x with
  | false => rfl
  | true => rw [snamed_begun hs] at hb; cases hb
theorem Sna.put {S : List (Bs × α)} (h : Sna S) {n : Bs} (hn : snamed n = true) (v : α) : Sna (gput n v S) := fun x hx => by
  rw [gget_put_other v (show x ≠ n from fun e => by rw [e, hn] at hx; cases hx)]
  exact h x hx
theorem Sna.del {S : List (Bs × α)} (h : Sna S) (n : Bs) : Sna (gdel n S) := fun x hx => by
  rcases Decidable.em (x = n) with e | e
  · rw [e]; exact gget_del_same _ _
  · rw [gget_del_other e]
    exact h x hx
theorem gdel_begun {S : List (Bs × α)} (hr : Ris S) (h : Sna S) (n : Bs) (v : α) : gdel (begun n) (gput (begun n) v S) = S :=
  Ris.same ((hr.put _ _).del _) hr fun x => by
    rcases Decidable.em (x = begun n) with e | e
    · rw [e, gget_del_same, h.begun (isBegun_begun n)]
    · rw [gget_del_other e, gget_put_other v e]
theorem fdo_putW (S : List (Bs × α)) (n : Bs) (v : α) : fdo S (putW n v) = gput (begun n) v S := fdo_w (x := putW n v) rfl
theorem put_two {S : List (Bs × α)} (hr : Ris S) (h : Sna S) (z : α) (n : Bs) (v : α) : fdo (fdo S (putW n v)) (putR z n) = gput n v S := by
  rw [fdo_putW]
  rw [fdo_r (x := putR z n) (b := v) rfl (gget_put_same (begun n) v S)]
  show gput n v (gdel (begun n) (gput (begun n) v S)) = _
  rw [gdel_begun hr h]
theorem names_of {S : List (Bs × α)} (h : Sna S) : ∀ x ∈ names S, named x = true := fun x hx => by
  obtain ⟨p, hp, rfl⟩ := List.mem_map.1 hx
  cases hs : snamed p.1 with
  | true => exact snamed_named hs
  | false =>
    have h1 := h _ hs
    rw [gget_none] at h1
    exact absurd rfl (h1 p hp)
/-- a disk started anew and opened: what is swept -/
theorem swept_none {z : α} : ∀ (l : List Bs) (d : Dk α), (sSweep z l d false).2.2 = false → (sSweep z l d false).2.1 = 0 → (sSweep z l d false).1 = d
  | [], d, _, _ => rfl
  | n :: r, d, h1, h2 => by
    unfold sSweep at *
    split at h1
    · rename_i hb
      rw [if_pos hb] at h2 ⊢
      split at h1
      · rename_i hk
        rw [if_pos hk] at h2
        exact absurd h2 hk
      · exact absurd h1 (by rw [swept_true]; simp)
    · rename_i hb
      rw [if_neg hb] at h2 ⊢
      exact swept_none r d h1 h2
where swept_true {z : α} : ∀ (l : List Bs) (d : Dk α), (sSweep z l d true).2.2 = true
  | [], d => rfl
  | n :: r, d => by
    unfold sSweep
    split
    · split
      · rfl
      · exact swept_true r _
    · exact swept_true r d
theorem open_up {z : α} {room : Int} {S1 S : List (Bs × α)} (hr : Ris S1) (hs : Ris S) (hS : Sna S) (hn : ∀ x ∈ names S1, named x = true) (he : ∀ x, isBegun x = false → gget x S1 = gget x S) :
    ∃ d2, sOpen z (⟨room, S1, [], -1, false⟩ : Dk α) = (d2, 0) ∧ Fre d2 ∧ d2.pend = [] ∧ (Ris d2.sure → d2.sure = S) := by
  obtain ⟨d2, h1, h2, h3, h4⟩ := open_ok (z := z) (d := ⟨room, S1, [], -1, false⟩) ⟨rfl, rfl⟩ hr hn
  have hsh : (⟨room, S1, [], -1, false⟩ : Dk α).shown = S1 := rfl
  rw [hsh] at h3
  have hp : d2.pend = [] := by
    unfold sOpen at h1
    rw [if_neg (by simp)] at h1
    split at h1
    · rename_i hk
      have h5 := congrArg Prod.snd h1
      exact absurd h5 hk
    · rename_i hk
      split at h1
      · have h6 := congrArg Prod.fst h1
        dsimp only at h6
        rw [← h6]
        have h7 := congrArg Prod.snd h1
        unfold dSync at h7 ⊢
        split
        · rename_i hw
          rw [if_pos hw] at h7
          exact absurd h7 hw
        · rfl
      · rename_i hb
        have h6 := congrArg Prod.fst h1
        dsimp only at h6
        rw [swept_none _ _ (by simpa using hb) (by simpa using hk)] at h6
        rw [← h6]
  have hsr : d2.shown = d2.sure := shown_nil hp
  refine ⟨d2, h1, h2, hp, fun h0 => Ris.same h0 hs fun x => ?_⟩
  rw [← hsr, h3 x]
  cases hb : isBegun x with
  | true => rw [if_pos rfl, hS.begun hb]
  | false => rw [if_neg (by simp)]; exact he x hb
/-- what an act that turns S into T leaves of a disk that is up and has nothing pending -/
inductive Out (z : α) (S T : List (Bs × α)) (n : Bs) : Dk α × Nat → Prop where
  | done (d : Dk α) (hd : d.down = false) (hp : d.pend = []) (hs : d.sure = T) (hn : snamed n = true) : Out z S T n (d, 0)
  | left (d : Dk α) (hd : d.down = false) (hp : d.pend = []) (hs : d.sure = S) (k : Nat) (h0 : k ≠ 0) (h1 : k ≠ 14) : Out z S T n (d, k)
  | down (d : Dk α) (hd : d.down = true) (hn : snamed n = true) (hl : d.sure.length + d.pend.length ≤ S.length + 2) (h : ∀ ks, ∃ d2, sOpen z (dStart (dCut ks d)) = (d2, 0) ∧ Fre d2 ∧ d2.pend = [] ∧ (Ris d2.sure → d2.sure = S ∨ d2.sure = T)) : Out z S T n (d, 14)
theorem kept_one (ks : List Bool) (c : Chg α) : kept ks [c] = [] ∨ kept ks [c] = [c] := by
  cases ks with
  | nil => exact .inl (kept_none _)
  | cons b r =>
    rw [kept_cons, kept_nil]
    cases b
    · exact .inl rfl
    · exact .inr rfl
theorem cutlen (ks : List Bool) (d : Dk α) : (dCut ks d).sure.length ≤ d.sure.length + d.pend.length := by
  have h1 := flen_dos d.sure (kept ks d.pend)
  have h2 := kept_len ks d.pend
  show (fdos d.sure (kept ks d.pend)).length ≤ _
  omega
theorem start_cut (ks : List Bool) (room : Int) (S : List (Bs × α)) (p : List (Chg α)) (f : Int) : dStart (dCut ks (⟨room, S, p, f, true⟩ : Dk α)) = ⟨room, fdos S (kept ks p), [], -1, false⟩ := by
  unfold dStart dCut
  exact if_pos rfl
theorem off_put {n : Bs} {S : List (Bs × α)} {v : α} {x : Bs} (hb : isBegun x = false) : gget x (gput (begun n) v S) = gget x S :=
  gget_put_other v (fun e => by rw [e, isBegun_begun] at hb; cases hb) S
theorem names_begun {S : List (Bs × α)} (h : Sna S) {n : Bs} (hn : snamed n = true) (v : α) : ∀ x ∈ names (gput (begun n) v S), named x = true := fun x hx => by
  obtain ⟨p, hp, rfl⟩ := List.mem_map.1 hx
  rcases gmem_put.1 hp with rfl | ⟨h1, -⟩
  · exact named_begun hn
  · exact names_of h _ (List.mem_map.2 ⟨p, h1, rfl⟩)
theorem put_out (len : α → Nat) (z : α) {d : Dk α} (hd : d.down = false) (hp : d.pend = []) (hr : Ris d.sure) (h : Sna d.sure) (n : Bs) (v : α) : Out z d.sure (gput n v d.sure) n (sPut len z d n v) := by
  obtain ⟨room, S, p, fuse, dn⟩ := d
  dsimp only at *
  subst hd hp
  have hR := put_r len z room S fuse (n := n) v
  have old : ∀ S1, Ris S1 → (∀ x ∈ names S1, named x = true) → (∀ x, isBegun x = false → gget x S1 = gget x S) → ∃ d2, sOpen z (⟨room, S1, [], -1, false⟩ : Dk α) = (d2, 0) ∧ Fre d2 ∧ d2.pend = [] ∧ (Ris d2.sure → d2.sure = S ∨ d2.sure = gput n v S) := fun S1 h1 h2 h3 => by
    obtain ⟨d2, e1, e2, e3, e4⟩ := open_up (z := z) (room := room) h1 hr h h2 h3
    exact ⟨d2, e1, e2, e3, fun hx => .inl (e4 hx)⟩
  have o0 := old S hr (names_of h) (fun _ _ => rfl)
  have o1 := fun hn : snamed n = true => old (gput (begun n) v S) (hr.put _ _) (names_begun h hn v) (fun x hx => off_put hx)
  generalize sPut len z ⟨room, S, [], fuse, false⟩ n v = r at hR ⊢
  cases hR with
  | done f hn => exact .done _ rfl rfl (put_two hr h z n v) hn
  | left f k h0 h1 => exact .left ⟨room, S, [], f, false⟩ rfl rfl rfl k h0 h1
  | down0 f hn =>
    refine .down _ rfl hn (by simp <;> omega) fun ks => ?_
    rw [start_cut, kept_nil]
    exact o0
  | down1 f hn =>
    refine .down _ rfl hn (by simp <;> omega) fun ks => ?_
    rw [start_cut]
    rcases kept_one ks (putW n v) with e | e
    · rw [e]; exact o0
    · rw [e]
      show ∃ d2, sOpen z (⟨room, fdo S (putW n v), [], -1, false⟩ : Dk α) = (d2, 0) ∧ _
      rw [fdo_putW]
      exact o1 hn
  | down2 f hn =>
    refine .down _ rfl hn (by rw [fdo_putW]; have := glen_put (begun n) v S; simp; omega) fun ks => ?_
    rw [start_cut, kept_nil]
    show ∃ d2, sOpen z (⟨room, fdo S (putW n v), [], -1, false⟩ : Dk α) = (d2, 0) ∧ _
    rw [fdo_putW]
    exact o1 hn
  | down3 f hn =>
    refine .down _ rfl hn (by rw [fdo_putW]; have := glen_put (begun n) v S; simp; omega) fun ks => ?_
    rw [start_cut]
    rcases kept_one ks (putR z n) with e | e
    · rw [e]
      show ∃ d2, sOpen z (⟨room, fdo S (putW n v), [], -1, false⟩ : Dk α) = (d2, 0) ∧ _
      rw [fdo_putW]
      exact o1 hn
    · rw [e]
      show ∃ d2, sOpen z (⟨room, fdo (fdo S (putW n v)) (putR z n), [], -1, false⟩ : Dk α) = (d2, 0) ∧ _
      rw [put_two hr h]
      obtain ⟨d2, e1, e2, e3, e4⟩ := open_up (z := z) (room := room) (hr.put n v) (hr.put n v) (h.put hn v) (names_of (h.put hn v)) (fun _ _ => rfl)
      exact ⟨d2, e1, e2, e3, fun hx => .inr (e4 hx)⟩
theorem fdo_del (z : α) (S : List (Bs × α)) (hr : Ris S) (n : Bs) : fdo S ⟨2, n, [], z⟩ = gdel n S := by
  cases hg : gget n S with
  | none =>
    rw [fdo_n (show (2 : Nat) ≠ 0 by decide) hg]
    refine Ris.same hr (hr.del n) fun x => ?_
    rcases Decidable.em (x = n) with e | e
    · rw [e, hg, gget_del_same]
    · rw [gget_del_other e]
  | some u => exact fdo_d (show (2 : Nat) ≠ 0 by decide) (show (2 : Nat) ≠ 1 by decide) hg
theorem del_out (z : α) {d : Dk α} (hd : d.down = false) (hp : d.pend = []) (hr : Ris d.sure) (h : Sna d.sure) (n : Bs) : Out z d.sure (gdel n d.sure) n (sDelete z d n) := by
  obtain ⟨room, S, p, fuse, dn⟩ := d
  dsimp only at *
  subst hd hp
  have hR := del_r z room S fuse (n := n)
  have o0 : ∃ d2, sOpen z (⟨room, S, [], -1, false⟩ : Dk α) = (d2, 0) ∧ Fre d2 ∧ d2.pend = [] ∧ (Ris d2.sure → d2.sure = S ∨ d2.sure = gdel n S) := by
    obtain ⟨d2, e1, e2, e3, e4⟩ := open_up (z := z) (room := room) hr hr h (names_of h) (fun _ _ => rfl)
    exact ⟨d2, e1, e2, e3, fun hx => .inl (e4 hx)⟩
  generalize sDelete z ⟨room, S, [], fuse, false⟩ n = r at hR ⊢
  cases hR with
  | done f hg hn => exact .done _ rfl rfl (fdo_del z S hr n) hn
  | left f k h0 h1 => exact .left ⟨room, S, [], f, false⟩ rfl rfl rfl k h0 h1
  | down0 f hn =>
    refine .down _ rfl hn (by simp <;> omega) fun ks => ?_
    rw [start_cut, kept_nil]
    exact o0
  | down1 f hn =>
    refine .down _ rfl hn (by simp <;> omega) fun ks => ?_
    rw [start_cut]
    rcases kept_one ks (⟨2, n, [], z⟩ : Chg α) with e | e
    · rw [e]; exact o0
    · rw [e]
      show ∃ d2, sOpen z (⟨room, fdo S ⟨2, n, [], z⟩, [], -1, false⟩ : Dk α) = (d2, 0) ∧ _
      rw [fdo_del z S hr]
      obtain ⟨d2, e1, e2, e3, e4⟩ := open_up (z := z) (room := room) (hr.del n) (hr.del n) (h.del n) (names_of (h.del n)) (fun _ _ => rfl)
      exact ⟨d2, e1, e2, e3, fun hx => .inr (e4 hx)⟩
/-- a name's entry set, or set and struck out: the rows that differ at this name alone -/
theorem upd_some {n : Bs} {b : α} {l L : List (Bs × α)} (hl : Ris l) (hL : Ris L) (h : ∀ x, x ≠ n → gget x l = gget x L) (hb : gget n L = some b) : gput n b l = L :=
  Ris.same (hl.put _ _) hL fun x => by
    rcases Decidable.em (x = n) with e | e
    · rw [e, gget_put_same, hb]
    · rw [gget_put_other _ e, h x e]
theorem upd_none {n : Bs} (b : α) {l L : List (Bs × α)} (hl : Ris l) (hL : Ris L) (h : ∀ x, x ≠ n → gget x l = gget x L) (hb : gget n L = none) : gdel n (gput n b l) = L :=
  Ris.same ((hl.put _ _).del _) hL fun x => by
    rcases Decidable.em (x = n) with e | e
    · rw [e, gget_del_same, hb]
    · rw [gget_del_other e, gget_put_other _ e, h x e]
end
theorem was_put {S T : List (Bs × Sv)} (hS : Ris S) (hT : Ris T) {n : Bs} (he : ∀ x, x ≠ n → gget x S = gget x T) {b : Bs} (hb : (gget n T).map Sv.l = some b) : gput n b (gmap Sv.l S) = gmap Sv.l T :=
  upd_some (hS.map _) (hT.map _) (fun x hx => by rw [gget_map, gget_map, he x hx]) (by rw [gget_map, hb])
theorem was_del {S T : List (Bs × Sv)} (hS : Ris S) (hT : Ris T) {n : Bs} (he : ∀ x, x ≠ n → gget x S = gget x T) (b : Bs) (hb : gget n T = none) : gdel n (gput n b (gmap Sv.l S)) = gmap Sv.l T :=
  upd_none b (hS.map _) (hT.map _) (fun x hx => by rw [gget_map, gget_map, he x hx]) (by rw [gget_map, hb]; rfl)
theorem StM.grownMap {β : Type} {f : β → Value} {w0 w w' : World} {gs b : Nat} {q : Fp} {d : Dk Sv} {l : List (Bs × β)} (h : StM w gs q d) (hM : Mp f w0 q w b l) (hne : gs ≠ b) (hg : w.grownBy w' (some b)) : StM w' gs q d :=
  ⟨h.dsk.grownMap hM hg, (hg.block gs h.blk.lt (fun e => hne (by injection e))).trans h.blk, h.ap⟩
theorem sList_all {S : List (Bs × Sv)} (h : Sna S) : (names S).filter (sPick []) = names S := by
  refine List.filter_eq_self.2 fun x hx => ?_
  obtain ⟨p, hp, rfl⟩ := List.mem_map.1 hx
  have hs : snamed p.1 = true := by
    cases hs : snamed p.1 with
    | true => rfl
    | false =>
      have h1 := h _ hs
      rw [gget_none] at h1
      exact absurd rfl (h1 p hp)
  unfold sPick
  rw [hs]
  cases p.1 <;> rfl
end Go.Proofs.YtabkeaammiellaaDoor
