/- WHAT IT HOLDS: files by names, and disks, plainly (no program). | WHAT IT HOLDS: words for memory (slices that can be read, slices of the call's own) and the law of append over them; over any program. -/
import Derived.Maps.Own
import Derived.Maps.Views
import Derived.Sort.KeysCollected
import Derived.WalkKit
import Derived.Maps.AppendAt
import Derived.WalkSpells
import Derived.WalkLawsBesides
import Derived.Lib.Hide
import Derived.Laws.IdiomStrings
import Derived.Deep.QuietTactic
import Derived.BigQuiet
import Derived.Deep.DeepMust
namespace Go.Proofs.YtddmfoldnlafaaaGreatDoor

abbrev Bs := List UInt8

/-! ### the order of names -/
theorem bb_lit (a b : Bs) : bytesBefore a b = (Lit.string a).before (.string b) := rfl
theorem bb_irrefl (a : Bs) : bytesBefore a a = false := by
  cases h : bytesBefore a a
  · rfl
  · exact absurd h (by rw [bb_lit]; exact Bool.not_eq_true _ ▸ WideShapes.before_irrefl _)
theorem bb_trans {a b c : Bs} (h : bytesBefore a b = true) (k : bytesBefore b c = true) : bytesBefore a c = true := WideShapes.before_trans (a := .string a) (b := .string b) (c := .string c) h k
theorem bb_total : ∀ {a b : Bs}, a ≠ b → bytesBefore a b = true ∨ bytesBefore b a = true
  | [], [], h => absurd rfl h
  | [], _ :: _, _ => .inl rfl
  | _ :: _, [], _ => .inr rfl
  | x :: r, y :: s, h => by
    unfold bytesBefore
    by_cases hxy : x = y
    · subst hxy
      have hrs : r ≠ s := fun e => h (by rw [e])
      rcases bb_total hrs with h1 | h1
      · left; simp [h1]
      · right; simp [h1]
    · rcases Nat.lt_or_gt_of_ne (fun e => hxy (UInt8.toNat_inj.1 e)) with h1 | h1
      · left; simp [UInt8.lt_iff_toNat_lt, h1]
      · right; simp [UInt8.lt_iff_toNat_lt, h1]

/-! ### files by names: rising, no name twice -/
section
variable {α β : Type}
def gdel (k : Bs) (l : List (Bs × α)) : List (Bs × α) := l.filter fun p => !(p.1 == k)
def gins (x : Bs × α) : List (Bs × α) → List (Bs × α)
  | [] => [x]
  | y :: r => if bytesBefore x.1 y.1 = true then x :: y :: r else y :: gins x r
def gput (k : Bs) (v : α) (l : List (Bs × α)) : List (Bs × α) := gins (k, v) (gdel k l)
def gget (k : Bs) (l : List (Bs × α)) : Option α := (l.find? fun p => p.1 == k).map (·.2)
def gmap (f : α → β) (l : List (Bs × α)) : List (Bs × β) := l.map fun p => (p.1, f p.2)
theorem gdel_map (f : α → β) (k : Bs) (l : List (Bs × α)) : gdel k (gmap f l) = gmap f (gdel k l) := by
  unfold gdel gmap
  rw [List.filter_map]
  rfl
theorem gins_map (f : α → β) (x : Bs × α) : ∀ l : List (Bs × α), gins (x.1, f x.2) (gmap f l) = gmap f (gins x l)
  | [] => rfl
  | y :: r => by
    have ih := gins_map f x r
    show (if bytesBefore x.1 y.1 = true then (x.1, f x.2) :: (y.1, f y.2) :: gmap f r else (y.1, f y.2) :: gins (x.1, f x.2) (gmap f r)) = gmap f (if bytesBefore x.1 y.1 = true then x :: y :: r else y :: gins x r)
    split
    · rfl
    · rw [ih]; rfl
theorem gput_map (f : α → β) (k : Bs) (v : α) (l : List (Bs × α)) : gput k (f v) (gmap f l) = gmap f (gput k v l) := by
  unfold gput
  rw [gdel_map]
  exact gins_map f (k, v) _
theorem gget_map (f : α → β) (k : Bs) (l : List (Bs × α)) : gget k (gmap f l) = (gget k l).map f := by
  unfold gget gmap
  induction l with
  | nil => rfl
  | cons y r ih =>
    simp only [List.map_cons, List.find?_cons]
    cases y.1 == k
    · simpa using ih
    · rfl
theorem gmem_ins {x y : Bs × α} : ∀ {l : List (Bs × α)}, y ∈ gins x l ↔ y = x ∨ y ∈ l
  | [] => by simp [gins]
  | z :: r => by
    unfold gins
    split
    · simp
    · simp only [List.mem_cons, gmem_ins (l := r)]
      constructor
      · rintro (h | h | h) <;> simp [h]
      · rintro (h | h | h) <;> simp [h]
theorem gmem_del {k : Bs} {y : Bs × α} {l : List (Bs × α)} : y ∈ gdel k l ↔ y ∈ l ∧ y.1 ≠ k := by
  unfold gdel
  rw [List.mem_filter]
  simp
theorem gmem_put {k : Bs} {v : α} {y : Bs × α} {l : List (Bs × α)} : y ∈ gput k v l ↔ y = (k, v) ∨ (y ∈ l ∧ y.1 ≠ k) := by
  unfold gput
  rw [gmem_ins, gmem_del]
/-- rising by names -/
def Ris (l : List (Bs × α)) : Prop := l.Pairwise fun p q => bytesBefore p.1 q.1 = true
theorem Ris.nil : Ris ([] : List (Bs × α)) := List.Pairwise.nil
theorem Ris.del {l : List (Bs × α)} (h : Ris l) (k : Bs) : Ris (gdel k l) := h.filter _
theorem Ris.ins {x : Bs × α} : ∀ {l : List (Bs × α)}, Ris l → (∀ p ∈ l, p.1 ≠ x.1) → Ris (gins x l)
  | [], _, _ => List.pairwise_singleton _ _
  | y :: r, h, hn => by
    obtain ⟨h1, h2⟩ := List.pairwise_cons.1 h
    unfold gins
    split
    · rename_i hb
      refine List.pairwise_cons.2 ⟨fun q hq => ?_, h⟩
      rcases List.mem_cons.1 hq with rfl | hq
      · exact hb
      · exact bb_trans hb (h1 q hq)
    · rename_i hb
      have hyx : bytesBefore y.1 x.1 = true := by
        rcases bb_total (hn y (.head _)) with h' | h'
        · exact h'
        · exact absurd h' hb
      refine List.pairwise_cons.2 ⟨fun q hq => ?_, Ris.ins h2 fun p hp => hn p (.tail _ hp)⟩
      rcases gmem_ins.1 hq with rfl | hq
      · exact hyx
      · exact h1 q hq
theorem Ris.put {l : List (Bs × α)} (h : Ris l) (k : Bs) (v : α) : Ris (gput k v l) := (h.del k).ins fun p hp => (gmem_del.1 hp).2
theorem Ris.map {l : List (Bs × α)} (h : Ris l) (f : α → β) : Ris (gmap f l) := List.Pairwise.map _ (fun _ _ h => h) h
theorem gget_mem {k : Bs} {v : α} {l : List (Bs × α)} (h : gget k l = some v) : (k, v) ∈ l := by
  unfold gget at h
  cases hq : l.find? (fun p => p.1 == k) with
  | none => rw [hq] at h; cases h
  | some p =>
    rw [hq] at h
    have hm := List.mem_of_find?_eq_some hq
    have hk := List.find?_some hq
    obtain ⟨a, b⟩ := p
    simp only [beq_iff_eq, Option.map_some, Option.some.injEq] at hk h
    subst hk h
    exact hm
theorem gget_none {k : Bs} {l : List (Bs × α)} : gget k l = none ↔ ∀ p ∈ l, p.1 ≠ k := by
  unfold gget
  rw [Option.map_eq_none_iff, List.find?_eq_none]
  simp
theorem gget_of_mem {k : Bs} {v : α} {l : List (Bs × α)} (hr : Ris l) (h : (k, v) ∈ l) : gget k l = some v := by
  induction l with
  | nil => cases h
  | cons y r ih =>
    obtain ⟨h1, h2⟩ := List.pairwise_cons.1 hr
    unfold gget
    rw [List.find?_cons]
    rcases List.mem_cons.1 h with rfl | h
    · simp
    · have hy : (y.1 == k) = false := by
        rw [beq_eq_false_iff_ne]
        rintro rfl
        have := h1 _ h
        rw [bb_irrefl] at this
        cases this
      rw [hy]
      exact ih h2 h
theorem gget_del_same (k : Bs) (l : List (Bs × α)) : gget k (gdel k l) = none := gget_none.2 fun p hp => (gmem_del.1 hp).2
theorem gget_del_other {k j : Bs} (h : j ≠ k) : ∀ l : List (Bs × α), gget j (gdel k l) = gget j l
  | [] => rfl
  | y :: r => by
    have ih := gget_del_other h r
    unfold gget gdel at ih ⊢
    rw [List.filter_cons]
    by_cases hy : y.1 = k
    · have hyj : (y.1 == j) = false := by rw [beq_eq_false_iff_ne, hy]; exact fun e => h e.symm
      rw [if_neg (by simp [hy]), List.find?_cons, hyj]
      exact ih
    · rw [if_pos (by simp [hy]), List.find?_cons, List.find?_cons]
      cases y.1 == j
      · exact ih
      · rfl
theorem gget_ins_same (k : Bs) (v : α) : ∀ l : List (Bs × α), (∀ p ∈ l, p.1 ≠ k) → gget k (gins (k, v) l) = some v
  | [], _ => by simp [gins, gget]
  | y :: r, h => by
    have ih := gget_ins_same k v r fun p hp => h p (.tail _ hp)
    unfold gins
    split
    · simp [gget]
    · unfold gget at ih ⊢
      rw [List.find?_cons, show (y.1 == k) = false from beq_eq_false_iff_ne.2 (h y (.head _))]
      exact ih
theorem gget_ins_other {k j : Bs} (v : α) (h : j ≠ k) : ∀ l : List (Bs × α), gget j (gins (k, v) l) = gget j l
  | [] => by
    have : (k == j) = false := beq_eq_false_iff_ne.2 fun e => h e.symm
    simp [gins, gget, this]
  | y :: r => by
    have ih := gget_ins_other v h r
    have hk : (k == j) = false := beq_eq_false_iff_ne.2 fun e => h e.symm
    unfold gins
    split
    · unfold gget
      rw [List.find?_cons, hk]
    · unfold gget at ih ⊢
      rw [List.find?_cons, List.find?_cons]
      cases y.1 == j
      · exact ih
      · rfl
theorem gget_put_same (k : Bs) (v : α) (l : List (Bs × α)) : gget k (gput k v l) = some v := gget_ins_same k v _ fun _ hp => (gmem_del.1 hp).2
theorem gget_put_other {k j : Bs} (v : α) (h : j ≠ k) (l : List (Bs × α)) : gget j (gput k v l) = gget j l := by
  unfold gput
  rw [gget_ins_other v h, gget_del_other h]
theorem glen_ins (x : Bs × α) : ∀ l : List (Bs × α), (gins x l).length = l.length + 1
  | [] => rfl
  | y :: r => by
    unfold gins
    split
    · rfl
    · simp [glen_ins x r]
theorem glen_put (k : Bs) (v : α) (l : List (Bs × α)) : (gput k v l).length ≤ l.length + 1 := by
  unfold gput gdel
  rw [glen_ins]
  have := List.length_filter_le (fun p : Bs × α => !(p.1 == k)) l
  omega
theorem glen_del (k : Bs) (l : List (Bs × α)) : (gdel k l).length ≤ l.length := List.length_filter_le _ _
/-- two that are rising and hold the same are one -/
theorem Ris.ext : ∀ {l l' : List (Bs × α)}, Ris l → Ris l' → (∀ p, p ∈ l ↔ p ∈ l') → l = l'
  | [], [], _, _, _ => rfl
  | [], y :: r, _, _, h => absurd ((h y).2 (.head _)) (by simp)
  | x :: r, [], _, _, h => absurd ((h x).1 (.head _)) (by simp)
  | x :: r, y :: s, hl, hl', h => by
    obtain ⟨h1, h2⟩ := List.pairwise_cons.1 hl
    obtain ⟨k1, k2⟩ := List.pairwise_cons.1 hl'
    have hxy : x = y := by
      rcases List.mem_cons.1 ((h x).1 (.head _)) with e | e
      · exact e
      · rcases List.mem_cons.1 ((h y).2 (.head _)) with e2 | e2
        · exact e2.symm
        · have a := k1 _ e
          have b := h1 _ e2
          have := bb_trans a b
          rw [bb_irrefl] at this
          cases this
    subst hxy
    congr 1
    refine Ris.ext h2 k2 fun p => ⟨fun hp => ?_, fun hp => ?_⟩
    · rcases List.mem_cons.1 ((h p).1 (.tail _ hp)) with rfl | e
      · have := h1 _ hp; rw [bb_irrefl] at this; cases this
      · exact e
    · rcases List.mem_cons.1 ((h p).2 (.tail _ hp)) with rfl | e
      · have := k1 _ hp; rw [bb_irrefl] at this; cases this
      · exact e
end

/-! ### changes, disks -/
/-- a change: its kind (0: a write, 1: a rename, 2: a removal), its name, the other name, its bytes -/
structure Chg (α : Type) where
  kind : Nat
  name : Bs
  «to» : Bs
  val : α
/-- a disk -/
structure Dk (α : Type) where
  room : Int
  sure : List (Bs × α)
  pend : List (Chg α)
  fuse : Int
  down : Bool
section
variable {α β : Type}
def Chg.map (f : α → β) (c : Chg α) : Chg β := ⟨c.kind, c.name, c.to, f c.val⟩
def Dk.map (f : α → β) (d : Dk α) : Dk β := ⟨d.room, gmap f d.sure, d.pend.map (Chg.map f), d.fuse, d.down⟩
def fdo (l : List (Bs × α)) (c : Chg α) : List (Bs × α) :=
  if c.kind = 0 then gput c.name c.val l else match gget c.name l with
    | none => l
    | some b => if c.kind = 1 then gput c.to b (gdel c.name l) else gdel c.name l
theorem fdo_map (f : α → β) (l : List (Bs × α)) (c : Chg α) : fdo (gmap f l) (c.map f) = gmap f (fdo l c) := by
  unfold fdo Chg.map
  dsimp only
  split
  · exact gput_map f _ _ _
  · rw [gget_map]
    cases gget c.name l with
    | none => rfl
    | some b =>
      dsimp only [Option.map_some]
      split
      · rw [gdel_map, gput_map]
      · rw [gdel_map]
theorem Ris.fdo {l : List (Bs × α)} (h : Ris l) (c : Chg α) : Ris (fdo l c) := by
  unfold Go.Proofs.YtddmfoldnlafaaaGreatDoor.fdo
  split
  · exact h.put _ _
  · split
    · exact h
    · split
      · exact (h.del _).put _ _
      · exact h.del _
theorem flen_do (l : List (Bs × α)) (c : Chg α) : (fdo l c).length ≤ l.length + 1 := by
  unfold fdo
  split
  · exact glen_put _ _ _
  · split
    · omega
    · split
      · have h1 := glen_del c.name l
        rename_i b _ _
        have h2 := glen_put c.to b (gdel c.name l)
        omega
      · have := glen_del c.name l
        omega
def fdos (l : List (Bs × α)) (cs : List (Chg α)) : List (Bs × α) := cs.foldl fdo l
theorem fdos_map (f : α → β) (l : List (Bs × α)) : ∀ cs : List (Chg α), fdos (gmap f l) (cs.map (Chg.map f)) = gmap f (fdos l cs) := fun cs => by
  unfold fdos
  induction cs generalizing l with
  | nil => rfl
  | cons c r ih => rw [List.map_cons, List.foldl_cons, List.foldl_cons, fdo_map, ih]
theorem Ris.fdos {l : List (Bs × α)} (h : Ris l) (cs : List (Chg α)) : Ris (fdos l cs) := by
  unfold Go.Proofs.YtddmfoldnlafaaaGreatDoor.fdos
  induction cs generalizing l with
  | nil => exact h
  | cons c r ih => exact ih (h.fdo c)
theorem flen_dos (l : List (Bs × α)) (cs : List (Chg α)) : (fdos l cs).length ≤ l.length + cs.length := by
  unfold fdos
  induction cs generalizing l with
  | nil => simp
  | cons c r ih =>
    have h1 := ih (fdo l c)
    have h2 := flen_do l c
    simp only [List.foldl_cons, List.length_cons]
    omega
theorem fdos_snoc (l : List (Bs × α)) (cs : List (Chg α)) (c : Chg α) : fdos l (cs ++ [c]) = fdo (fdos l cs) c := by
  unfold fdos
  rw [List.foldl_append]
  rfl
def Dk.shown (d : Dk α) : List (Bs × α) := fdos d.sure d.pend
theorem shown_map (f : α → β) (d : Dk α) : (d.map f).shown = gmap f d.shown := fdos_map f d.sure d.pend
/-- an operation counted; an error's number -/
def dWorks (d : Dk α) : Dk α × Nat :=
  if d.down = true then (d, 14) else if d.fuse = 0 then ({ d with down := true }, 14) else if 0 < d.fuse then ({ d with fuse := d.fuse - 1 }, 0) else (d, 0)
def dAdd (d : Dk α) (c : Chg α) : Dk α := { d with pend := d.pend ++ [c] }
def isSign (c : UInt8) : Bool := (97 ≤ c && c ≤ 122) || (48 ≤ c && c ≤ 57) || c == 45 || c == 46 || c == 126
def named (s : Bs) : Bool := decide (1 ≤ s.length) && decide (s.length ≤ 24) && s.all isSign
def fused (len : α → Nat) (l : List (Bs × α)) : Nat := (l.map fun p => len p.2).sum
def dWrite (len : α → Nat) (d : Dk α) (n : Bs) (v : α) : Dk α × Nat :=
  if (dWorks d).2 ≠ 0 then dWorks d
  else if named n = false then ((dWorks d).1, 2)
  else if 65536 < len v then ((dWorks d).1, 3)
  else if (gget n d.shown).isNone = true ∧ 512 ≤ d.shown.length ∨ d.room < (fused len d.shown : Int) - ((gget n d.shown).map len).getD 0 + len v then ((dWorks d).1, 5)
  else (dAdd (dWorks d).1 ⟨0, n, [], v⟩, 0)
/-- z: no bytes -/
def dRename (z : α) (d : Dk α) (n t : Bs) : Dk α × Nat :=
  if (dWorks d).2 ≠ 0 then dWorks d
  else if named n = false ∨ named t = false then ((dWorks d).1, 2)
  else if (gget n d.shown).isNone = true then ((dWorks d).1, 4)
  else (dAdd (dWorks d).1 ⟨1, n, t, z⟩, 0)
def dRemove (z : α) (d : Dk α) (n : Bs) : Dk α × Nat :=
  if (dWorks d).2 ≠ 0 then dWorks d
  else if named n = false then ((dWorks d).1, 2)
  else if (gget n d.shown).isNone = true then ((dWorks d).1, 4)
  else (dAdd (dWorks d).1 ⟨2, n, [], z⟩, 0)
def dSync (d : Dk α) : Dk α × Nat :=
  if (dWorks d).2 ≠ 0 then dWorks d else ({ (dWorks d).1 with sure := d.shown, pend := [] }, 0)
def kept (keep : List Bool) (cs : List (Chg α)) : List (Chg α) := ((cs.zip keep).filter (·.2)).map (·.1)
def dCut (keep : List Bool) (d : Dk α) : Dk α := { d with sure := fdos d.sure (kept keep d.pend), pend := [], down := true }
def dStart (d : Dk α) : Dk α := if d.down = true then { d with pend := [], down := false, fuse := -1 } else { d with fuse := -1 }
end
end Go.Proofs.YtddmfoldnlafaaaGreatDoor

namespace Go.Proofs.YtddmfoldnlafaaaGreatDoor
open Go.RowKit

/-- a byte as a value -/
abbrev bv (b : UInt8) : Value := .int .u8 (b.toNat : Int)
abbrev bvs (l : List UInt8) : List Value := l.map bv

theorem addr_add_add (a : Addr) (i j : Nat) : (a.add i).add j = a.add (i + j) := by
  unfold Addr.add
  by_cases hi : i = 0 <;> by_cases hj : j = 0 <;> simp [hi, hj, Nat.add_assoc]
theorem addr_add_block (a : Addr) (i : Nat) : (a.add i).block = a.block := by unfold Addr.add; split <;> rfl
theorem addr_lit (g i j : Nat) : (⟨g, i, none⟩ : Addr).add j = ⟨g, i + j, none⟩ := by unfold Addr.add; split <;> simp_all

/-- each cell that is there stays as it is -/
def Keep (w w' : World) : Prop := ∀ (p : Addr) (v : Value), w.cell? p = some v → w'.cell? p = some v

theorem Keep.refl (w : World) : Keep w w := fun _ _ h => h
theorem Keep.trans {a b c : World} (h : Keep a b) (k : Keep b c) : Keep a c := fun p v e => k p v (h p v e)
theorem keep_of_below {w w' : World} (h : Below w.heap.size w w') : Keep w w' := fun p _ e => (h.cell (World.block_lt_of_cell? w p e)).trans e

/-- what an address leads to reads as these cells -/
def Rd (w : World) (A : Option Addr) (xs : List Value) : Prop := ∀ j u, xs[j]? = some u → ∃ ad, A = some ad ∧ w.cell? (ad.add j) = some u

section
variable {w w' : World} {A : Option Addr} {xs : List Value}
theorem Rd.nil (w : World) (A : Option Addr) : Rd w A [] := fun j u h => by simp at h
theorem Rd.keep (h : Rd w A xs) (k : Keep w w') : Rd w' A xs := fun j u hj => by
  obtain ⟨ad, e, hc⟩ := h j u hj
  exact ⟨ad, e, k _ _ hc⟩
theorem Rd.below (h : Rd w A xs) (hb : Below w.heap.size w w') : Rd w' A xs := h.keep (keep_of_below hb)
theorem Rd.at (h : Rd w A xs) {k : Nat} (hk : k < xs.length) : ∃ ad, A = some ad ∧ w.cell? (ad.add k) = some xs[k] := h k _ (List.getElem?_eq_getElem hk)
theorem Rd.take (h : Rd w A xs) (k : Nat) : Rd w A (xs.take k) := fun j u hj => by
  rw [List.getElem?_take] at hj
  split at hj
  · exact h j u hj
  · cases hj
theorem Rd.cut (h : Rd w A xs) (k cap : Nat) (hk : k < xs.length → k ≠ cap) : Rd w (if cap = k then A else A.map (·.add k)) (xs.drop k) := fun j u hj => by
  rw [List.getElem?_drop] at hj
  obtain ⟨ad, rfl, hc⟩ := h _ u hj
  have hl : k < xs.length := by have := (List.getElem?_eq_some_iff.1 hj).1; omega
  rw [if_neg (fun e => hk hl e.symm)]
  exact ⟨ad.add k, rfl, by rw [addr_add_add]; exact hc⟩
theorem Rd.lit (w : World) (cs : List Value) (t : TypeId) : Rd (w.alloc (.cells cs.toArray t)) (some ⟨w.heap.size, 0, none⟩) cs := fun j u hj => by
  refine ⟨_, rfl, ?_⟩
  rw [addr_lit, cell_of_row _ _ _ _ t (0, 0) (heap_alloc_new w _)]
  simpa using hj
end

/-- a slice of the call's own, from block 'base' on: n elements of 'size' cells -/
abbrev Own (w : World) (base : Nat) (e : TypeId) (size : Nat) (A : Option Addr) (n c : Nat) (xs : List Value) : Prop := w.ownsRow base e size (.slice A n c) n xs
/-- a slice that can be read -/
def Sl (w : World) (size : Nat) (A : Option Addr) (n c : Nat) (xs : List Value) : Prop := xs.length = n * size ∧ n ≤ c ∧ c ≤ maxLen ∧ (A = none → c = 0) ∧ Rd w A xs

section
variable {w w' : World} {base : Nat} {e : TypeId} {size n c : Nat} {A : Option Addr} {xs : List Value}
theorem Own.sl (h : Own w base e size A n c xs) : Sl w size A n c xs := by
  obtain ⟨h1, h2⟩ := h
  rcases h2 with ⟨hv, hn⟩ | ⟨g, cap, cur, hv, hb, hh, hnc, hcm, hcs, ht⟩
  · injection hv with hA _ hc
    subst hA
    subst hc
    exact ⟨h1, by omega, by simp [maxLen], fun _ => rfl, by
      rw [show xs = [] from List.eq_nil_of_length_eq_zero (by rw [h1, hn, Nat.zero_mul])]
      exact Rd.nil _ _⟩
  · injection hv with hA _ hc
    subst hc
    refine ⟨h1, hnc, hcm, (fun e => by rw [hA] at e; cases e), fun j u hj => ?_⟩
    have h' : w.ownsRow base e size (.slice A n c) n xs := ⟨h1, .inr ⟨g, c, cur, by rw [hA], hb, hh, hnc, hcm, hcs, ht⟩⟩
    exact ⟨⟨g, 0, none⟩, hA, h'.cells (g := g) (by rw [hA]; rfl) j u hj⟩
theorem Own.below (h : Own w base e size A n c xs) (hb : Below w.heap.size w w') : Own w' base e size A n c xs := by
  obtain ⟨h1, h2⟩ := h
  refine ⟨h1, ?_⟩
  rcases h2 with h2 | ⟨g, cap, cur, hv, hg, hh, r⟩
  · exact Or.inl h2
  · exact Or.inr ⟨g, cap, cur, hv, hg, (hb.block g (Array.getElem?_eq_some_iff.1 hh).1).trans hh, r⟩
theorem Own.none_ (w : World) (base : Nat) (e : TypeId) (size : Nat) : Own w base e size none 0 0 [] := World.ownsRow_nil w base e size
theorem Own.more {base' : Nat} (h : Own w base e size A n c xs) (hb : base' ≤ base) : Own w base' e size A n c xs := by
  obtain ⟨h1, h2⟩ := h
  refine ⟨h1, ?_⟩
  rcases h2 with h2 | ⟨g, cap, cur, hv, hg, r⟩
  · exact Or.inl h2
  · exact Or.inr ⟨g, cap, cur, hv, by omega, r⟩
theorem Sl.below (h : Sl w size A n c xs) (hb : Below w.heap.size w w') : Sl w' size A n c xs := ⟨h.1, h.2.1, h.2.2.1, h.2.2.2.1, h.2.2.2.2.below hb⟩
theorem Sl.keep (h : Sl w size A n c xs) (hb : Keep w w') : Sl w' size A n c xs := ⟨h.1, h.2.1, h.2.2.1, h.2.2.2.1, h.2.2.2.2.keep hb⟩
theorem Sl.none_ (w : World) (size : Nat) : Sl w size none 0 0 [] := ⟨by simp, by omega, by simp [maxLen], fun _ => rfl, Rd.nil _ _⟩
end

/-- what 'append' leaves: the new row, only the old row written, the new row there or new -/
structure Appd (w w' : World) (base : Nat) (e : TypeId) (size : Nat) (A A' : Option Addr) (n' c' : Nat) (xs : List Value) : Prop where
  own : Own w' base e size A' n' c' xs
  grown : w.grownBy w' (A.map (·.block))
  place : A'.map (·.block) = A.map (·.block) ∨ A'.map (·.block) = some w.heap.size

theorem ownBlock_slice (A : Option Addr) (n c : Nat) : (Value.slice A n c).ownBlock = A.map (·.block) := by cases A <;> rfl

theorem run_append_rd {P : Program} (w : World) (base : Nat) (t ty e : TypeId) (i : TypeInfo) (z : Value) (size bytes : Nat) (ht : P.underlying t = some (.slice e)) (hi : P.info? e = some i) (hz : i.zero = some z)
    (hsize : i.size = size) (hby : i.bytes = bytes) (hzs : z.cells.size = size) (hsz : 0 < size)
    (A : Option Addr) (n c : Nat) (xs : List Value) (hown : Own w base e size A n c xs)
    (A2 : Option Addr) (m c2 : Nat) (news : List Value) (hr : Sl w size A2 m c2 news) (h1 : ∀ u ∈ news, u.oneCell' = true)
    (hbytes : (n + m) * bytes ≤ 140737488355328) (hmax : n + m ≤ maxLen) (hbase : base ≤ w.heap.size) :
    ∃ A' c' w', (Builtin.append_ #[t, t] ty #[.slice A n c, .slice A2 m c2]).run P w = .ok (.slice A' (n + m) c') w' ∧ Appd w w' base e size A A' (n + m) c' (xs ++ news) := by
  obtain ⟨hl2, hmc, _, hnil, hrd⟩ := hr
  rcases A2 with _ | ad
  · obtain rfl := hnil rfl
    have hm : m = 0 := by omega
    subst hm
    have hn : news = [] := List.eq_nil_of_length_eq_zero (by rw [hl2, Nat.zero_mul])
    subst hn
    have hrun := run_append_owned_none (P := P) (w := w) base t ty e i size ht hi _ _ _ hown
    exact ⟨A, c, w, by simpa using hrun, by simpa using hown, World.grownBy.refl w _, .inl rfl⟩
  · have hcells : ∀ j u, news[j]? = some u → w.cell? (ad.add j) = some u := by
      intro j u hu
      obtain ⟨_, h, hc⟩ := hrd j u hu
      injection h with h
      subst h
      exact hc
    obtain ⟨v', w', hrun, h2, h3, _, h5⟩ := run_append_own_at (P := P) w base t ty e i z size bytes ht hi hz hsize hby hzs hsz _ _ _ hown ad m c2 news hl2 hcells h1 hmax hbytes hbase
    have hform : ∃ A' c', v' = .slice A' (n + m) c' := by
      rcases h2.2 with ⟨rfl, hn⟩ | ⟨g, cap, _, rfl, _⟩
      · exact ⟨none, 0, by rw [hn]⟩
      · exact ⟨_, _, rfl⟩
    obtain ⟨A', c', rfl⟩ := hform
    rw [ownBlock_slice] at h3
    rw [ownBlock_slice, ownBlock_slice] at h5
    exact ⟨A', c', w', hrun, h2, h3, h5⟩

theorem wpl_append {P : Program} {w : World} {ops : Array Oper} {rest : List Oper} {o : Oper} {a : Act} {Q : Exit → Act → World → Prop} (hgd : o.guard = none) (s x : Operand) (t : TypeId)
    (ho : o.op = .call { callee := .builtin .append, args := #[s, x], argTypes := #[t, t] })
    (base : Nat) (e : TypeId) (i : TypeInfo) (z : Value) (size bytes : Nat) (ht : P.underlying t = some (.slice e)) (hi : P.info? e = some i) (hz : i.zero = some z)
    (hsize : i.size = size) (hby : i.bytes = bytes) (hzs : z.cells.size = size) (hsz : 0 < size)
    (A : Option Addr) (n c : Nat) (xs : List Value) (hs : a.eval s = .slice A n c) (hown : Own w base e size A n c xs)
    (A2 : Option Addr) (m c2 : Nat) (news : List Value) (hx : a.eval x = .slice A2 m c2) (hr : Sl w size A2 m c2 news) (h1 : ∀ u ∈ news, u.oneCell' = true)
    (hbytes : (n + m) * bytes ≤ 140737488355328) (hmax : n + m ≤ maxLen) (hbase : base ≤ w.heap.size)
    (h : ∀ A' c' w', Appd w w' base e size A A' (n + m) c' (xs ++ news) → wpList P ops Q rest (a.put o.dst (.slice A' (n + m) c')) w') : wpList P ops Q (o :: rest) a w :=
  wpList_plain hgd fun _ hK => by
    obtain ⟨A', c', w', hrun, h2⟩ := run_append_rd (P := P) w base t o.type e i z size bytes ht hi hz hsize hby hzs hsz A n c xs hown A2 m c2 news hr h1 hbytes hmax hbase
    unfold Oper.wp execOp
    simp only [ho, resolve, invoke, builtin, Sem.run_bind, Sem.run_pure, Result.andThen_ok, List.map_toArray, List.map_cons, List.map_nil, hs, hx, hrun]
    exact hK _ _ (h A' c' w' h2)

/-- the same, one element that the walk has just laid in a block of its own -/
theorem Sl.one {w : World} {u : Value} {t : TypeId} : Sl (w.alloc (.cells #[u] t)) 1 (some ⟨w.heap.size, 0, none⟩) 1 1 [u] :=
  ⟨rfl, by omega, by simp [maxLen], (fun h => by cases h), Rd.lit w [u] t⟩

theorem Own.lt {w : World} {base : Nat} {e : TypeId} {size n c : Nat} {A : Option Addr} {xs : List Value} (h : Own w base e size A n c xs) : ∀ k, A.map (·.block) = some k → base ≤ k ∧ k < w.heap.size := fun k hk =>
  World.ownsRow.lt h k (by rw [ownBlock_slice]; exact hk)
theorem Appd.below {w w' : World} {base : Nat} {e : TypeId} {size n c n' c' : Nat} {A A' : Option Addr} {xs xs' : List Value} (h : Appd w w' base e size A A' n' c' xs') (ho : Own w base e size A n c xs) (hb : base ≤ w.heap.size) : Below base w w' :=
  (Below.refl _ _).grown h.grown hb (fun k hk => (ho.lt k hk).1)

/-- bytes of the call's own; bytes that can be read -/
abbrev OwnB (w : World) (base : Nat) (e : TypeId) (A : Option Addr) (c : Nat) (l : List UInt8) : Prop := Own w base e 1 A l.length c (bvs l)
abbrev SlB (w : World) (A : Option Addr) (c : Nat) (l : List UInt8) : Prop := Sl w 1 A l.length c (bvs l)
theorem one_bvs (l : List UInt8) : ∀ u ∈ bvs l, u.oneCell' = true := by
  intro u hu
  simp only [List.mem_map] at hu
  obtain ⟨b, _, rfl⟩ := hu
  rfl
theorem SlB.nil (w : World) (A : Option Addr) (c : Nat) (hc : c ≤ maxLen) (h : A = none → c = 0) : SlB w A c [] := ⟨rfl, by simp, hc, h, Rd.nil _ _⟩

/-- append of bytes: what comes out under one name -/
theorem wpl_bytes {P : Program} {w : World} {ops : Array Oper} {rest : List Oper} {o : Oper} {a : Act} {Q : Exit → Act → World → Prop} (t e : TypeId) (ht : P.underlying t = some (.slice e))
    (hinfo : (P.info? e).map (fun i => (i.zero, i.size, i.bytes)) = some (some (.int .u8 0), 1, 1)) (hgd : o.guard = none) (s x : Operand)
    (ho : o.op = .call { callee := .builtin .append, args := #[s, x], argTypes := #[t, t] })
    (base : Nat) (A : Option Addr) (c : Nat) (l : List UInt8) (hs : a.eval s = .slice A l.length c) (hown : OwnB w base e A c l)
    (A2 : Option Addr) (c2 : Nat) (l2 : List UInt8) (hx : a.eval x = .slice A2 l2.length c2) (hr : SlB w A2 c2 l2)
    (hlen : l.length + l2.length ≤ 140737488355328) (hbase : base ≤ w.heap.size)
    (h : ∀ A' c' (m : List UInt8) w', Hid (m = l ++ l2) → OwnB w' base e A' c' m → w.grownBy w' (A.map (·.block)) → (A'.map (·.block) = A.map (·.block) ∨ A'.map (·.block) = some w.heap.size) → Below base w w' →
      wpList P ops Q rest (a.put o.dst (.slice A' m.length c')) w') : wpList P ops Q (o :: rest) a w := by
  obtain ⟨i0, hi, hz0, hz1, hz2⟩ := info_parts hinfo
  refine wpl_append hgd s x t ho base e i0 (.int .u8 0) 1 1 ht hi hz0 hz1 hz2 rfl (by decide) A l.length c (bvs l) hs hown A2 l2.length c2 (bvs l2) hx hr (one_bvs l2) (by omega) (by simp only [maxLen]; omega) hbase ?_
  intro A' c' w' hap
  rw [← List.length_append]
  refine h A' c' (l ++ l2) w' rfl ?_ hap.grown hap.place (hap.below hown hbase)
  have := hap.own
  simpa [OwnB] using this

/-- append of one byte, which the walk has laid in a block of its own -/
theorem wpl_byte {P : Program} {w : World} {ops : Array Oper} {rest : List Oper} {o : Oper} {a : Act} {Q : Exit → Act → World → Prop} (t e : TypeId) (ht : P.underlying t = some (.slice e))
    (hinfo : (P.info? e).map (fun i => (i.zero, i.size, i.bytes)) = some (some (.int .u8 0), 1, 1)) (hgd : o.guard = none) (s x : Operand)
    (ho : o.op = .call { callee := .builtin .append, args := #[s, x], argTypes := #[t, t] })
    (base : Nat) (A : Option Addr) (c : Nat) (l : List UInt8) (z : Int) (b : UInt8) (hz : z = (b.toNat : Int)) (hs : a.eval s = .slice A l.length c) (hown : OwnB w base e A c l)
    (hx : a.eval x = .slice (some ⟨w.heap.size, 0, none⟩) 1 1) (hlen : l.length ≤ 100000000000000) (hbase : base ≤ w.heap.size)
    (h : ∀ A' c' (m : List UInt8) w', Hid (m = l ++ [b]) → OwnB w' base e A' c' m → (w.alloc (.cells #[.int .u8 z] e)).grownBy w' (A.map (·.block)) →
      (A'.map (·.block) = A.map (·.block) ∨ A'.map (·.block) = some (w.heap.size + 1)) → Below base w w' →
      wpList P ops Q rest (a.put o.dst (.slice A' m.length c')) w') : wpList P ops Q (o :: rest) a (w.alloc (.cells #[.int .u8 z] e)) := by
  subst hz
  have hbl : Below base w (w.alloc (.cells #[.int .u8 (b.toNat : Int)] e)) := (Below.refl _ _).alloc hbase _
  refine wpl_bytes t e ht hinfo hgd s x ho base A c l hs (hown.alloc _) (some ⟨w.heap.size, 0, none⟩) 1 [b] hx Sl.one (by simp; omega) (by simp; omega) ?_
  intro A' c' m w' hm ho' hg hp hb
  exact h A' c' m w' hm ho' hg (by simpa using hp) (hbl.trans hb)

theorem SlB.of_none {w : World} {c : Nat} {l : List UInt8} (h : SlB w none c l) : c = 0 ∧ l = [] := by
  obtain rfl := h.2.2.2.1 rfl
  exact ⟨rfl, List.eq_nil_of_length_eq_zero (by have := h.2.1; omega)⟩
theorem Own.lit {w : World} {base : Nat} {e : TypeId} (size : Nat) (h : base ≤ w.heap.size) : Own (w.alloc (.cells #[] e)) base e size (some ⟨w.heap.size, 0, none⟩) 0 0 [] :=
  World.ownsRow_made w #[] 0 h (by simp [maxLen]) (by simp)
theorem Sl.len_le {w : World} {size n c : Nat} {A : Option Addr} {xs : List Value} (h : Sl w size A n c xs) : n ≤ maxLen := Nat.le_trans h.2.1 h.2.2.1

theorem Sl.at1 {w : World} {n c : Nat} {A : Option Addr} {T : Type} {f : T → Value} {l : List T} (h : Sl w 1 A n c (l.map f)) {k : Nat} (hk : k < l.length) : ∃ ad, A = some ad ∧ w.cell? (ad.add k) = some (f l[k]) := by
  obtain ⟨ad, hA, hc⟩ := h.2.2.2.2.at (k := k) (by simpa using hk)
  exact ⟨ad, hA, by simpa using hc⟩
theorem Sl.lits (w : World) (cs : List Value) (t : TypeId) (h : cs.length ≤ maxLen) : Sl (w.alloc (.cells cs.toArray t)) 1 (some ⟨w.heap.size, 0, none⟩) cs.length cs.length cs :=
  ⟨by simp, Nat.le_refl _, h, (fun h => by cases h), Rd.lit w cs t⟩
theorem below_new (w : World) (o : Obj) : Below w.heap.size w (w.alloc o) := (Below.refl _ _).alloc (Nat.le_refl _) o
theorem size_new (w : World) (o : Obj) : w.heap.size ≤ (w.alloc o).heap.size := by simp

theorem Own.form {w : World} {base : Nat} {e : TypeId} {n c : Nat} {A : Option Addr} {xs : List Value} (h : Own w base e 1 A n c xs) (hn : 0 < n) : ∃ g, A = some ⟨g, 0, none⟩ ∧ base ≤ g ∧ ∀ j (hj : j < xs.length), w.cell? ⟨g, j, none⟩ = some xs[j] := by
  have hs := h.sl
  rcases h.2 with ⟨_, h0⟩ | ⟨g, cap, cur, hv, hb, _⟩
  · omega
  · injection hv with hA
    subst hA
    refine ⟨g, rfl, hb, fun j hj => ?_⟩
    obtain ⟨ad, he, hc⟩ := hs.2.2.2.2.at hj
    injection he with he
    subst he
    rw [addr_lit] at hc
    simpa using hc
theorem conv_str {P : Program} {w : World} (src dst e : TypeId) (hs : P.underlying src = some (.slice e)) (he : P.underlying e = some (.int .u8)) (hd : P.underlying dst = some .string)
    {A : Option Addr} {c n : Nat} {l : List UInt8} (h : SlB w A c l) (hn : n = l.length) : (convert src dst (.slice A n c)).run P w = .ok (.string ⟨l.toArray⟩) w := by
  subst hn
  cases A with
  | none =>
    obtain ⟨rfl, rfl⟩ := h.of_none
    exact (run_convert_bytes_string w src dst e none 0 0 hs he hd).trans rfl
  | some a =>
    refine run_convert_bytes_back w src dst e a c l hs he hd fun j hj => ?_
    obtain ⟨ad, hA, hc⟩ := h.at1 hj
    injection hA with hA
    subst hA
    exact hc
theorem Sl.take {w : World} {n c : Nat} {A : Option Addr} {xs : List Value} (h : Sl w 1 A n c xs) {k : Nat} (hk : k ≤ n) : Sl w 1 A k c (xs.take k) :=
  ⟨by have := h.1; simp; omega, Nat.le_trans hk h.2.1, h.2.2.1, h.2.2.2.1, h.2.2.2.2.take k⟩
theorem Sl.takeB {w : World} {c : Nat} {A : Option Addr} {l : List UInt8} (h : SlB w A c l) (k : Nat) : SlB w A c (l.take k) := by
  have := Sl.take h (k := (l.take k).length) (by simp; omega)
  rw [show (bvs l).take (l.take k).length = bvs (l.take k) from by
    simp only [bvs, List.map_take, List.length_take]
    rw [List.take_eq_take_iff]
    simp] at this
  exact this
theorem below_drewN {B : Nat} {a w : World} (h : Below B a w) (n : Nat) : Below B a (w.drewN n) := ⟨h.os, h.tape, h.output, h.size, h.block⟩
theorem Sl.drewN {w : World} {size n c : Nat} {A : Option Addr} {xs : List Value} (h : Sl w size A n c xs) (k : Nat) : Sl (w.drewN k) size A n c xs := h
/-- 'string(b)' in a region that draws, at whatever count of draws -/
theorem conv_strs {P : Program} {w : World} (src dst e : TypeId) (hs : P.underlying src = some (.slice e)) (he : P.underlying e = some (.int .u8)) (hd : P.underlying dst = some .string)
    {A : Option Addr} {c n : Nat} {l : List UInt8} (h : SlB w A c l) (hn : n = l.length) (k : Nat) : (convert src dst (.slice A n c)).run P (w.drewN k) = .ok (.string ⟨l.toArray⟩) (w.drewN k) :=
  conv_str src dst e hs he hd (h.drewN k) hn
theorem Keep.of_drew {a b : World} (h : Keep a.drew b) : Keep a b := h
theorem below_of_drew {a b : World} (h : Below a.drew.heap.size a.drew b) : Below a.heap.size a b := ⟨h.os, h.tape, h.output, h.size, h.block⟩
theorem Sl.litsAt {w : World} {g : Nat} (hg : g = w.heap.size) (cs : List Value) (t : TypeId) (h : cs.length ≤ maxLen) : Sl (w.alloc (.cells cs.toArray t)) 1 (some ⟨g, 0, none⟩) cs.length cs.length cs := by
  subst hg; exact Sl.lits w cs t h
/-- a block that is known whole -/
def Blk (w : World) (g : Nat) (t : TypeId) (cs : Array Value) : Prop := w.heap[g]? = some (.cells cs t (0, 0))
theorem Blk.lt {w : World} {g : Nat} {t : TypeId} {cs : Array Value} (h : Blk w g t cs) : g < w.heap.size := by
  rcases Nat.lt_or_ge g w.heap.size with hlt | hge
  · exact hlt
  · unfold Blk at h; rw [Array.getElem?_eq_none hge] at h; cases h
theorem Blk.cell {w : World} {g : Nat} {t : TypeId} {cs : Array Value} (h : Blk w g t cs) (i : Nat) : w.cell? ⟨g, i, none⟩ = cs[i]? := cell_of_row w g i cs t (0, 0) h
theorem Blk.frozen {w : World} {g : Nat} {t : TypeId} {cs : Array Value} (h : Blk w g t cs) (i : Nat) : w.frozen? ⟨g, i, none⟩ = false := by
  unfold Blk at h
  simp [World.frozen?, h]
theorem Blk.new (w : World) (t : TypeId) (cs : Array Value) : Blk (w.alloc (.cells cs t)) w.heap.size t cs := heap_alloc_new w _
theorem Blk.newAt {w : World} {g : Nat} (hg : g = w.heap.size) (t : TypeId) (cs : Array Value) : Blk (w.alloc (.cells cs t)) g t cs := by subst hg; exact Blk.new w t cs
theorem Blk.alloc {w : World} {g : Nat} {t : TypeId} {cs : Array Value} (h : Blk w g t cs) (o : Obj) : Blk (w.alloc o) g t cs := (Below.heap_alloc w o g h.lt).trans h
theorem Blk.below {w w' : World} {g : Nat} {t : TypeId} {cs : Array Value} (h : Blk w g t cs) (hb : Below w.heap.size w w') : Blk w' g t cs := (hb.block g h.lt).trans h
theorem Blk.three {w : World} {g : Nat} {t : TypeId} {a b c : Value} (h : Blk w g t #[a, b, c]) : w.cell? ⟨g, 0, none⟩ = some a ∧ w.cell? ⟨g, 1, none⟩ = some b ∧ w.cell? ⟨g, 2, none⟩ = some c ∧
    w.frozen? ⟨g, 0, none⟩ = false ∧ w.frozen? ⟨g, 1, none⟩ = false ∧ w.frozen? ⟨g, 2, none⟩ = false := ⟨h.cell 0, h.cell 1, h.cell 2, h.frozen 0, h.frozen 1, h.frozen 2⟩
theorem Blk.two {w : World} {g : Nat} {t : TypeId} {a b : Value} (h : Blk w g t #[a, b]) : w.cell? ⟨g, 0, none⟩ = some a ∧ w.cell? ⟨g, 1, none⟩ = some b ∧
    w.frozen? ⟨g, 0, none⟩ = false ∧ w.frozen? ⟨g, 1, none⟩ = false := ⟨h.cell 0, h.cell 1, h.frozen 0, h.frozen 1⟩
theorem bel_alloc {a w : World} (h : Below a.heap.size a w) (o : Obj) : Below a.heap.size a (w.alloc o) := h.alloc h.size o
theorem bel_set {a w : World} (h : Below a.heap.size a w) {p : Addr} (hp : a.heap.size ≤ p.block) (u : Value) : Below a.heap.size a (w.setCell p u) := h.setCell hp u
theorem bel_call {a w w' : World} (h : Below a.heap.size a w) (k : Below w.heap.size w w') : Below a.heap.size a w' := h.trans (k.mono h.size)
theorem Blk.set_ {w : World} {g : Nat} {t : TypeId} {cs : Array Value} (h : Blk w g t cs) (i : Nat) (u : Value) : Blk (w.setCell ⟨g, i, none⟩ u) g t (cs.setIfInBounds i u) := by
  unfold Blk at h ⊢
  simp [World.setCell, Array.getElem?_modify, h]
theorem Blk.far {w : World} {g : Nat} {t : TypeId} {cs : Array Value} (h : Blk w g t cs) {p : Addr} (hp : g ≠ p.block) (u : Value) : Blk (w.setCell p u) g t cs := (Below.heap_setCell w p u g hp).trans h
theorem Blk.set3 {w : World} {g : Nat} {t : TypeId} {a b c : Value} (h : Blk w g t #[a, b, c]) (x y z : Value) : Blk (((w.setCell ⟨g, 0, none⟩ x).setCell ⟨g, 1, none⟩ y).setCell ⟨g, 2, none⟩ z) g t #[x, y, z] :=
  ((h.set_ 0 x).set_ 1 y).set_ 2 z
theorem Blk.set2 {w : World} {g : Nat} {t : TypeId} {a b : Value} (h : Blk w g t #[a, b]) (x y : Value) : Blk ((w.setCell ⟨g, 0, none⟩ x).setCell ⟨g, 1, none⟩ y) g t #[x, y] :=
  (h.set_ 0 x).set_ 1 y
theorem Blk.drew {w : World} {g : Nat} {t : TypeId} {cs : Array Value} (h : Blk w g t cs) : Blk w.drew g t cs := h
theorem Blk.drewN {w : World} {g : Nat} {t : TypeId} {cs : Array Value} (h : Blk w g t cs) (n : Nat) : Blk (w.drewN n) g t cs := h

/-- 'append([]byte{}, x...)': the empty slice has just been laid -/
theorem wpl_fresh {P : Program} {w : World} {ops : Array Oper} {rest : List Oper} {o : Oper} {a : Act} {Q : Exit → Act → World → Prop} (t e : TypeId) (ht : P.underlying t = some (.slice e))
    (hinfo : (P.info? e).map (fun i => (i.zero, i.size, i.bytes)) = some (some (.int .u8 0), 1, 1)) (hgd : o.guard = none) (s x : Operand)
    (ho : o.op = .call { callee := .builtin .append, args := #[s, x], argTypes := #[t, t] })
    (hs : a.eval s = .slice (some ⟨w.heap.size, 0, none⟩) 0 0) (A2 : Option Addr) (c2 : Nat) (l2 : List UInt8) (hx : a.eval x = .slice A2 l2.length c2) (hr : SlB w A2 c2 l2) (hlen : l2.length ≤ 140737488355328)
    (h : ∀ A' c' (m : List UInt8) w', Hid (m = l2) → OwnB w' w.heap.size e A' c' m → Below w.heap.size w w' → wpList P ops Q rest (a.put o.dst (.slice A' m.length c')) w') : wpList P ops Q (o :: rest) a (w.alloc (.cells #[] e)) := by
  refine wpl_bytes t e ht hinfo hgd s x ho w.heap.size (some ⟨w.heap.size, 0, none⟩) 0 [] hs (Own.lit 1 (Nat.le_refl _)) A2 c2 l2 hx (hr.below (below_new _ _)) (by simpa using hlen) (by simp) ?_
  intro A' c' m w' hm ho' _ _ hb
  exact h A' c' m w' hm ho' ((below_new _ _).trans hb)
theorem Sl.cut {w : World} {n c : Nat} {A : Option Addr} {xs : List Value} (h : Sl w 1 A n c xs) {k : Nat} (hk : k ≤ n) : Sl w 1 (if c = k then A else A.map (·.add k)) (n - k) (c - k) (xs.drop k) := by
  obtain ⟨h1, h2, h3, h4, h5⟩ := h
  refine ⟨by simp; omega, by omega, by omega, fun e => ?_, ?_⟩
  · split at e
    · have := h4 e; omega
    · cases A with
      | none => have := h4 rfl; omega
      | some a => simp at e
  · exact h5.cut k c (by omega)
theorem Sl.cutB {w : World} {c : Nat} {A : Option Addr} {l : List UInt8} (h : SlB w A c l) {k : Nat} (hk : k ≤ l.length) : Sl w 1 (if c = k then A else A.map (·.add k)) (l.length - k) (c - k) (bvs (l.drop k)) := by
  have := Sl.cut h hk
  rwa [← List.map_drop] at this

theorem Sl.litsM (w : World) (cs : List Value) (t : TypeId) (fr : Nat × Nat) (h : cs.length ≤ maxLen) : Sl (w.alloc (.cells cs.toArray t fr)) 1 (some ⟨w.heap.size, 0, none⟩) cs.length cs.length cs :=
  ⟨by simp, by omega, h, (fun h => by cases h), fun j u hj => ⟨_, rfl, by
    rw [addr_lit, cell_of_row _ _ _ _ t fr (heap_alloc_new w _)]
    simpa using hj⟩⟩
end Go.Proofs.YtddmfoldnlafaaaGreatDoor
