/- WHAT IT HOLDS: files by names, and disks, plainly (no program). -/
import Derived.Maps.Own
import Derived.Maps.Views
import Derived.Sort.KeysCollected
namespace Go.Proofs.YtlpniegemklfeaaGreatDoor

abbrev Bs := List UInt8

/-! ### the order of names -/
theorem bb_lit (a b : Bs) : bytesBefore a b = (Lit.string a).before (.string b) := rfl
theorem bb_irrefl (a : Bs) : bytesBefore a a = false := by
  cases h : bytesBefore a a
  · rfl
  · exact absurd h (by rw [bb_lit]; exact Bool.not_eq_true _ ▸ WideShapes.before_irrefl _)
theorem bb_trans {a b c : Bs} (h : bytesBefore a b = true) (k : bytesBefore b c = true) : bytesBefore a c = true := WideShapes.before_trans (a := .string a) (b := .string b) (c := .string c) h k
theorem bb_total : ∀ {a b : Bs}, a ≠ b → bytesBefore a b = true ∨ bytesBefore b a = true
  | [], [], h => absurd rfl h
  | [], _ :: _, _ => .inl rfl
  | _ :: _, [], _ => .inr rfl
  | x :: r, y :: s, h => by
    unfold bytesBefore
    by_cases hxy : x = y
    · subst hxy
      have hrs : r ≠ s := fun e => h (by rw [e])
      rcases bb_total hrs with h1 | h1
      · left; simp [h1]
      · right; simp [h1]
    · rcases Nat.lt_or_gt_of_ne (fun e => hxy (UInt8.toNat_inj.1 e)) with h1 | h1
      · left; simp [UInt8.lt_iff_toNat_lt, h1]
      · right; simp [UInt8.lt_iff_toNat_lt, h1]

/-! ### files by names: rising, no name twice -/
section
variable {α β : Type}
def gdel (k : Bs) (l : List (Bs × α)) : List (Bs × α) := l.filter fun p => !(p.1 == k)
def gins (x : Bs × α) : List (Bs × α) → List (Bs × α)
  | [] => [x]
  | y :: r => if bytesBefore x.1 y.1 = true then x :: y :: r else y :: gins x r
def gput (k : Bs) (v : α) (l : List (Bs × α)) : List (Bs × α) := gins (k, v) (gdel k l)
def gget (k : Bs) (l : List (Bs × α)) : Option α := (l.find? fun p => p.1 == k).map (·.2)
def gmap (f : α → β) (l : List (Bs × α)) : List (Bs × β) := l.map fun p => (p.1, f p.2)
theorem gdel_map (f : α → β) (k : Bs) (l : List (Bs × α)) : gdel k (gmap f l) = gmap f (gdel k l) := by
  unfold gdel gmap
  rw [List.filter_map]
  rfl
theorem gins_map (f : α → β) (x : Bs × α) : ∀ l : List (Bs × α), gins (x.1, f x.2) (gmap f l) = gmap f (gins x l)
  | [] => rfl
  | y :: r => by
    have ih := gins_map f x r
    show (if bytesBefore x.1 y.1 = true then (x.1, f x.2) :: (y.1, f y.2) :: gmap f r else (y.1, f y.2) :: gins (x.1, f x.2) (gmap f r)) = gmap f (if bytesBefore x.1 y.1 = true then x :: y :: r else y :: gins x r)
    split
    · rfl
    · rw [ih]; rfl
theorem gput_map (f : α → β) (k : Bs) (v : α) (l : List (Bs × α)) : gput k (f v) (gmap f l) = gmap f (gput k v l) := by
  unfold gput
  rw [gdel_map]
  exact gins_map f (k, v) _
theorem gget_map (f : α → β) (k : Bs) (l : List (Bs × α)) : gget k (gmap f l) = (gget k l).map f := by
  unfold gget gmap
  induction l with
  | nil => rfl
  | cons y r ih =>
    simp only [List.map_cons, List.find?_cons]
    cases y.1 == k
    · simpa using ih
    · rfl
theorem gmem_ins {x y : Bs × α} : ∀ {l : List (Bs × α)}, y ∈ gins x l ↔ y = x ∨ y ∈ l
  | [] => by simp [gins]
  | z :: r => by
    unfold gins
    split
    · simp
    · simp only [List.mem_cons, gmem_ins (l := r)]
      constructor
      · rintro (h | h | h) <;> simp [h]
      · rintro (h | h | h) <;> simp [h]
theorem gmem_del {k : Bs} {y : Bs × α} {l : List (Bs × α)} : y ∈ gdel k l ↔ y ∈ l ∧ y.1 ≠ k := by
  unfold gdel
  rw [List.mem_filter]
  simp
theorem gmem_put {k : Bs} {v : α} {y : Bs × α} {l : List (Bs × α)} : y ∈ gput k v l ↔ y = (k, v) ∨ (y ∈ l ∧ y.1 ≠ k) := by
  unfold gput
  rw [gmem_ins, gmem_del]
/-- rising by names -/
def Ris (l : List (Bs × α)) : Prop := l.Pairwise fun p q => bytesBefore p.1 q.1 = true
theorem Ris.nil : Ris ([] : List (Bs × α)) := List.Pairwise.nil
theorem Ris.del {l : List (Bs × α)} (h : Ris l) (k : Bs) : Ris (gdel k l) := h.filter _
theorem Ris.ins {x : Bs × α} : ∀ {l : List (Bs × α)}, Ris l → (∀ p ∈ l, p.1 ≠ x.1) → Ris (gins x l)
  | [], _, _ => List.pairwise_singleton _ _
  | y :: r, h, hn => by
    obtain ⟨h1, h2⟩ := List.pairwise_cons.1 h
    unfold gins
    split
    · rename_i hb
      refine List.pairwise_cons.2 ⟨fun q hq => ?_, h⟩
      rcases List.mem_cons.1 hq with rfl | hq
      · exact hb
      · exact bb_trans hb (h1 q hq)
    · rename_i hb
      have hyx : bytesBefore y.1 x.1 = true := by
        rcases bb_total (hn y (.head _)) with h' | h'
        · exact h'
        · exact absurd h' hb
      refine List.pairwise_cons.2 ⟨fun q hq => ?_, Ris.ins h2 fun p hp => hn p (.tail _ hp)⟩
      rcases gmem_ins.1 hq with rfl | hq
      · exact hyx
      · exact h1 q hq
theorem Ris.put {l : List (Bs × α)} (h : Ris l) (k : Bs) (v : α) : Ris (gput k v l) := (h.del k).ins fun p hp => (gmem_del.1 hp).2
theorem Ris.map {l : List (Bs × α)} (h : Ris l) (f : α → β) : Ris (gmap f l) := List.Pairwise.map _ (fun _ _ h => h) h
theorem gget_mem {k : Bs} {v : α} {l : List (Bs × α)} (h : gget k l = some v) : (k, v) ∈ l := by
  unfold gget at h
  cases hq : l.find? (fun p => p.1 == k) with
  | none => rw [hq] at h; cases h
  | some p =>
    rw [hq] at h
    have hm := List.mem_of_find?_eq_some hq
    have hk := List.find?_some hq
    obtain ⟨a, b⟩ := p
    simp only [beq_iff_eq, Option.map_some, Option.some.injEq] at hk h
    subst hk h
    exact hm
theorem gget_none {k : Bs} {l : List (Bs × α)} : gget k l = none ↔ ∀ p ∈ l, p.1 ≠ k := by
  unfold gget
  rw [Option.map_eq_none_iff, List.find?_eq_none]
  simp
theorem gget_of_mem {k : Bs} {v : α} {l : List (Bs × α)} (hr : Ris l) (h : (k, v) ∈ l) : gget k l = some v := by
  induction l with
  | nil => cases h
  | cons y r ih =>
    obtain ⟨h1, h2⟩ := List.pairwise_cons.1 hr
    unfold gget
    rw [List.find?_cons]
    rcases List.mem_cons.1 h with rfl | h
    · simp
    · have hy : (y.1 == k) = false := by
        rw [beq_eq_false_iff_ne]
        rintro rfl
        have := h1 _ h
        rw [bb_irrefl] at this
        cases this
      rw [hy]
      exact ih h2 h
theorem gget_del_same (k : Bs) (l : List (Bs × α)) : gget k (gdel k l) = none := gget_none.2 fun p hp => (gmem_del.1 hp).2
theorem gget_del_other {k j : Bs} (h : j ≠ k) : ∀ l : List (Bs × α), gget j (gdel k l) = gget j l
  | [] => rfl
  | y :: r => by
    have ih := gget_del_other h r
    unfold gget gdel at ih ⊢
    rw [List.filter_cons]
    by_cases hy : y.1 = k
    · have hyj : (y.1 == j) = false := by rw [beq_eq_false_iff_ne, hy]; exact fun e => h e.symm
      rw [if_neg (by simp [hy]), List.find?_cons, hyj]
      exact ih
    · rw [if_pos (by simp [hy]), List.find?_cons, List.find?_cons]
      cases y.1 == j
      · exact ih
      · rfl
theorem gget_ins_same (k : Bs) (v : α) : ∀ l : List (Bs × α), (∀ p ∈ l, p.1 ≠ k) → gget k (gins (k, v) l) = some v
  | [], _ => by simp [gins, gget]
  | y :: r, h => by
    have ih := gget_ins_same k v r fun p hp => h p (.tail _ hp)
    unfold gins
    split
    · simp [gget]
    · unfold gget at ih ⊢
      rw [List.find?_cons, show (y.1 == k) = false from beq_eq_false_iff_ne.2 (h y (.head _))]
      exact ih
theorem gget_ins_other {k j : Bs} (v : α) (h : j ≠ k) : ∀ l : List (Bs × α), gget j (gins (k, v) l) = gget j l
  | [] => by
    have : (k == j) = false := beq_eq_false_iff_ne.2 fun e => h e.symm
    simp [gins, gget, this]
  | y :: r => by
    have ih := gget_ins_other v h r
    have hk : (k == j) = false := beq_eq_false_iff_ne.2 fun e => h e.symm
    unfold gins
    split
    · unfold gget
      rw [List.find?_cons, hk]
    · unfold gget at ih ⊢
      rw [List.find?_cons, List.find?_cons]
      cases y.1 == j
      · exact ih
      · rfl
theorem gget_put_same (k : Bs) (v : α) (l : List (Bs × α)) : gget k (gput k v l) = some v := gget_ins_same k v _ fun _ hp => (gmem_del.1 hp).2
theorem gget_put_other {k j : Bs} (v : α) (h : j ≠ k) (l : List (Bs × α)) : gget j (gput k v l) = gget j l := by
  unfold gput
  rw [gget_ins_other v h, gget_del_other h]
theorem glen_ins (x : Bs × α) : ∀ l : List (Bs × α), (gins x l).length = l.length + 1
  | [] => rfl
  | y :: r => by
    unfold gins
    split
    · rfl
    · simp [glen_ins x r]
theorem glen_put (k : Bs) (v : α) (l : List (Bs × α)) : (gput k v l).length ≤ l.length + 1 := by
  unfold gput gdel
  rw [glen_ins]
  have := List.length_filter_le (fun p : Bs × α => !(p.1 == k)) l
  omega
theorem glen_del (k : Bs) (l : List (Bs × α)) : (gdel k l).length ≤ l.length := List.length_filter_le _ _
/-- two that are rising and hold the same are one -/
theorem Ris.ext : ∀ {l l' : List (Bs × α)}, Ris l → Ris l' → (∀ p, p ∈ l ↔ p ∈ l') → l = l'
  | [], [], _, _, _ => rfl
  | [], y :: r, _, _, h => absurd ((h y).2 (.head _)) (by simp)
  | x :: r, [], _, _, h => absurd ((h x).1 (.head _)) (by simp)
  | x :: r, y :: s, hl, hl', h => by
    obtain ⟨h1, h2⟩ := List.pairwise_cons.1 hl
    obtain ⟨k1, k2⟩ := List.pairwise_cons.1 hl'
    have hxy : x = y := by
      rcases List.mem_cons.1 ((h x).1 (.head _)) with e | e
      · exact e
      · rcases List.mem_cons.1 ((h y).2 (.head _)) with e2 | e2
        · exact e2.symm
        · have a := k1 _ e
          have b := h1 _ e2
          have := bb_trans a b
          rw [bb_irrefl] at this
          cases this
    subst hxy
    congr 1
    refine Ris.ext h2 k2 fun p => ⟨fun hp => ?_, fun hp => ?_⟩
    · rcases List.mem_cons.1 ((h p).1 (.tail _ hp)) with rfl | e
      · have := h1 _ hp; rw [bb_irrefl] at this; cases this
      · exact e
    · rcases List.mem_cons.1 ((h p).2 (.tail _ hp)) with rfl | e
      · have := k1 _ hp; rw [bb_irrefl] at this; cases this
      · exact e
end

/-! ### changes, disks -/
/-- a change: its kind (0: a write, 1: a rename, 2: a removal), its name, the other name, its bytes -/
structure Chg (α : Type) where
  kind : Nat
  name : Bs
  to : Bs
  val : α
/-- a disk -/
structure Dk (α : Type) where
  room : Int
  sure : List (Bs × α)
  pend : List (Chg α)
  fuse : Int
  down : Bool
section
variable {α β : Type}
def Chg.map (f : α → β) (c : Chg α) : Chg β := ⟨c.kind, c.name, c.to, f c.val⟩
def Dk.map (f : α → β) (d : Dk α) : Dk β := ⟨d.room, gmap f d.sure, d.pend.map (Chg.map f), d.fuse, d.down⟩
def fdo (l : List (Bs × α)) (c : Chg α) : List (Bs × α) :=
  if c.kind = 0 then gput c.name c.val l else match gget c.name l with
    | none => l
    | some b => if c.kind = 1 then gput c.to b (gdel c.name l) else gdel c.name l
theorem fdo_map (f : α → β) (l : List (Bs × α)) (c : Chg α) : fdo (gmap f l) (c.map f) = gmap f (fdo l c) := by
  unfold fdo Chg.map
  dsimp only
  split
  · exact gput_map f _ _ _
  · rw [gget_map]
    cases gget c.name l with
    | none => rfl
    | some b =>
      dsimp only [Option.map_some]
      split
      · rw [gdel_map, gput_map]
      · rw [gdel_map]
theorem Ris.fdo {l : List (Bs × α)} (h : Ris l) (c : Chg α) : Ris (fdo l c) := by
  unfold Go.Proofs.YtlpniegemklfeaaGreatDoor.fdo
  split
  · exact h.put _ _
  · split
    · exact h
    · split
      · exact (h.del _).put _ _
      · exact h.del _
theorem flen_do (l : List (Bs × α)) (c : Chg α) : (fdo l c).length ≤ l.length + 1 := by
  unfold fdo
  split
  · exact glen_put _ _ _
  · split
    · omega
    · split
      · have h1 := glen_del c.name l
        rename_i b _ _
        have h2 := glen_put c.to b (gdel c.name l)
        omega
      · have := glen_del c.name l
        omega
def fdos (l : List (Bs × α)) (cs : List (Chg α)) : List (Bs × α) := cs.foldl fdo l
theorem fdos_map (f : α → β) (l : List (Bs × α)) : ∀ cs : List (Chg α), fdos (gmap f l) (cs.map (Chg.map f)) = gmap f (fdos l cs) := fun cs => by
  unfold fdos
  induction cs generalizing l with
  | nil => rfl
  | cons c r ih => rw [List.map_cons, List.foldl_cons, List.foldl_cons, fdo_map, ih]
theorem Ris.fdos {l : List (Bs × α)} (h : Ris l) (cs : List (Chg α)) : Ris (fdos l cs) := by
  unfold Go.Proofs.YtlpniegemklfeaaGreatDoor.fdos
  induction cs generalizing l with
  | nil => exact h
  | cons c r ih => exact ih (h.fdo c)
theorem flen_dos (l : List (Bs × α)) (cs : List (Chg α)) : (fdos l cs).length ≤ l.length + cs.length := by
  unfold fdos
  induction cs generalizing l with
  | nil => simp
  | cons c r ih =>
    have h1 := ih (fdo l c)
    have h2 := flen_do l c
    simp only [List.foldl_cons, List.length_cons]
    omega
theorem fdos_snoc (l : List (Bs × α)) (cs : List (Chg α)) (c : Chg α) : fdos l (cs ++ [c]) = fdo (fdos l cs) c := by
  unfold fdos
  rw [List.foldl_append]
  rfl
def Dk.shown (d : Dk α) : List (Bs × α) := fdos d.sure d.pend
theorem shown_map (f : α → β) (d : Dk α) : (d.map f).shown = gmap f d.shown := fdos_map f d.sure d.pend
/-- an operation counted; an error's number -/
def dWorks (d : Dk α) : Dk α × Nat :=
  if d.down = true then (d, 14) else if d.fuse = 0 then ({ d with down := true }, 14) else if 0 < d.fuse then ({ d with fuse := d.fuse - 1 }, 0) else (d, 0)
def dAdd (d : Dk α) (c : Chg α) : Dk α := { d with pend := d.pend ++ [c] }
def isSign (c : UInt8) : Bool := (97 ≤ c && c ≤ 122) || (48 ≤ c && c ≤ 57) || c == 45 || c == 46 || c == 126
def named (s : Bs) : Bool := decide (1 ≤ s.length) && decide (s.length ≤ 24) && s.all isSign
def fused (len : α → Nat) (l : List (Bs × α)) : Nat := (l.map fun p => len p.2).sum
def dWrite (len : α → Nat) (d : Dk α) (n : Bs) (v : α) : Dk α × Nat :=
  if (dWorks d).2 ≠ 0 then dWorks d
  else if named n = false then ((dWorks d).1, 2)
  else if 65536 < len v then ((dWorks d).1, 3)
  else if (gget n d.shown).isNone = true ∧ 512 ≤ d.shown.length ∨ d.room < (fused len d.shown : Int) - ((gget n d.shown).map len).getD 0 + len v then ((dWorks d).1, 5)
  else (dAdd (dWorks d).1 ⟨0, n, [], v⟩, 0)
/-- z: no bytes -/
def dRename (z : α) (d : Dk α) (n t : Bs) : Dk α × Nat :=
  if (dWorks d).2 ≠ 0 then dWorks d
  else if named n = false ∨ named t = false then ((dWorks d).1, 2)
  else if (gget n d.shown).isNone = true then ((dWorks d).1, 4)
  else (dAdd (dWorks d).1 ⟨1, n, t, z⟩, 0)
def dRemove (z : α) (d : Dk α) (n : Bs) : Dk α × Nat :=
  if (dWorks d).2 ≠ 0 then dWorks d
  else if named n = false then ((dWorks d).1, 2)
  else if (gget n d.shown).isNone = true then ((dWorks d).1, 4)
  else (dAdd (dWorks d).1 ⟨2, n, [], z⟩, 0)
def dSync (d : Dk α) : Dk α × Nat :=
  if (dWorks d).2 ≠ 0 then dWorks d else ({ (dWorks d).1 with sure := d.shown, pend := [] }, 0)
def kept (keep : List Bool) (cs : List (Chg α)) : List (Chg α) := ((cs.zip keep).filter (·.2)).map (·.1)
def dCut (keep : List Bool) (d : Dk α) : Dk α := { d with sure := fdos d.sure (kept keep d.pend), pend := [], down := true }
def dStart (d : Dk α) : Dk α := if d.down = true then { d with pend := [], down := false, fuse := -1 } else { d with fuse := -1 }
end
end Go.Proofs.YtlpniegemklfeaaGreatDoor
