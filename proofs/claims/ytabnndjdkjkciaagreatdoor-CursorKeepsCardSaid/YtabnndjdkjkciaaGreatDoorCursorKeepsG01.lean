/- WHAT IT HOLDS: files by names, and disks, plainly (no program). | WHAT IT HOLDS: words for memory (slices that can be read, slices of the call's own) and the law of append over them; over any program. | WHAT IT HOLDS: a map from names to slices of bytes in memory: looked up, written, struck, counted. | WHAT IT HOLDS: the bytes of a number, plainly (no program). | WHAT IT HOLDS: what the functions of the package varint compute, walked. -/
import Derived.Maps.Own
import Derived.Maps.Views
import Derived.Sort.KeysCollected
import Derived.WalkKit
import Derived.Maps.AppendAt
import Derived.WalkSpells
import Derived.WalkLawsBesides
import Derived.Lib.Hide
import Derived.Laws.IdiomStrings
import Derived.Deep.QuietTactic
import Derived.BigQuiet
import Derived.Deep.DeepMust
import Derived.Maps.RangeWalk
import Derived.StringKeys
import Derived.Laws.BitsAllLaws
import Derived.Laws.Bits64
import Derived.Test.YtabnndjdkjkciaaGreatDoorRows
namespace Go.Proofs.YtabnndjdkjkciaaGreatDoor

abbrev Bs := List UInt8

/-! ### the order of names -/
theorem bb_lit (a b : Bs) : bytesBefore a b = (Lit.string a).before (.string b) := rfl
theorem bb_irrefl (a : Bs) : bytesBefore a a = false := by
  cases h : bytesBefore a a
  · rfl
  · exact absurd h (by rw [bb_lit]; exact Bool.not_eq_true _ ▸ WideShapes.before_irrefl _)
theorem bb_trans {a b c : Bs} (h : bytesBefore a b = true) (k : bytesBefore b c = true) : bytesBefore a c = true := WideShapes.before_trans (a := .string a) (b := .string b) (c := .string c) h k
theorem bb_total : ∀ {a b : Bs}, a ≠ b → bytesBefore a b = true ∨ bytesBefore b a = true
  | [], [], h => absurd rfl h
  | [], _ :: _, _ => .inl rfl
  | _ :: _, [], _ => .inr rfl
  | x :: r, y :: s, h => by
    unfold bytesBefore
    by_cases hxy : x = y
    · subst hxy
      have hrs : r ≠ s := fun e => h (by rw [e])
      rcases bb_total hrs with h1 | h1
      · left; simp [h1]
      · right; simp [h1]
    · rcases Nat.lt_or_gt_of_ne (fun e => hxy (UInt8.toNat_inj.1 e)) with h1 | h1
      · left; simp [UInt8.lt_iff_toNat_lt, h1]
      · right; simp [UInt8.lt_iff_toNat_lt, h1]

/-! ### files by names: rising, no name twice -/
section
variable {α β : Type}
def gdel (k : Bs) (l : List (Bs × α)) : List (Bs × α) := l.filter fun p => !(p.1 == k)
def gins (x : Bs × α) : List (Bs × α) → List (Bs × α)
  | [] => [x]
  | y :: r => if bytesBefore x.1 y.1 = true then x :: y :: r else y :: gins x r
def gput (k : Bs) (v : α) (l : List (Bs × α)) : List (Bs × α) := gins (k, v) (gdel k l)
def gget (k : Bs) (l : List (Bs × α)) : Option α := (l.find? fun p => p.1 == k).map (·.2)
def gmap (f : α → β) (l : List (Bs × α)) : List (Bs × β) := l.map fun p => (p.1, f p.2)
theorem gdel_map (f : α → β) (k : Bs) (l : List (Bs × α)) : gdel k (gmap f l) = gmap f (gdel k l) := by
  unfold gdel gmap
  rw [List.filter_map]
  rfl
theorem gins_map (f : α → β) (x : Bs × α) : ∀ l : List (Bs × α), gins (x.1, f x.2) (gmap f l) = gmap f (gins x l)
  | [] => rfl
  | y :: r => by
    have ih := gins_map f x r
    show (if bytesBefore x.1 y.1 = true then (x.1, f x.2) :: (y.1, f y.2) :: gmap f r else (y.1, f y.2) :: gins (x.1, f x.2) (gmap f r)) = gmap f (if bytesBefore x.1 y.1 = true then x :: y :: r else y :: gins x r)
    split
    · rfl
    · rw [ih]; rfl
theorem gput_map (f : α → β) (k : Bs) (v : α) (l : List (Bs × α)) : gput k (f v) (gmap f l) = gmap f (gput k v l) := by
  unfold gput
  rw [gdel_map]
  exact gins_map f (k, v) _
theorem gget_map (f : α → β) (k : Bs) (l : List (Bs × α)) : gget k (gmap f l) = (gget k l).map f := by
  unfold gget gmap
  induction l with
  | nil => rfl
  | cons y r ih =>
    simp only [List.map_cons, List.find?_cons]
    cases y.1 == k
    · simpa using ih
    · rfl
theorem gmem_ins {x y : Bs × α} : ∀ {l : List (Bs × α)}, y ∈ gins x l ↔ y = x ∨ y ∈ l
  | [] => by simp [gins]
  | z :: r => by
    unfold gins
    split
    · simp
    · simp only [List.mem_cons, gmem_ins (l := r)]
      constructor
      · rintro (h | h | h) <;> simp [h]
      · rintro (h | h | h) <;> simp [h]
theorem gmem_del {k : Bs} {y : Bs × α} {l : List (Bs × α)} : y ∈ gdel k l ↔ y ∈ l ∧ y.1 ≠ k := by
  unfold gdel
  rw [List.mem_filter]
  simp
theorem gmem_put {k : Bs} {v : α} {y : Bs × α} {l : List (Bs × α)} : y ∈ gput k v l ↔ y = (k, v) ∨ (y ∈ l ∧ y.1 ≠ k) := by
  unfold gput
  rw [gmem_ins, gmem_del]
/-- rising by names -/
def Ris (l : List (Bs × α)) : Prop := l.Pairwise fun p q => bytesBefore p.1 q.1 = true
theorem Ris.nil : Ris ([] : List (Bs × α)) := List.Pairwise.nil
theorem Ris.del {l : List (Bs × α)} (h : Ris l) (k : Bs) : Ris (gdel k l) := h.filter _
theorem Ris.ins {x : Bs × α} : ∀ {l : List (Bs × α)}, Ris l → (∀ p ∈ l, p.1 ≠ x.1) → Ris (gins x l)
  | [], _, _ => List.pairwise_singleton _ _
  | y :: r, h, hn => by
    obtain ⟨h1, h2⟩ := List.pairwise_cons.1 h
    unfold gins
    split
    · rename_i hb
      refine List.pairwise_cons.2 ⟨fun q hq => ?_, h⟩
      rcases List.mem_cons.1 hq with rfl | hq
      · exact hb
      · exact bb_trans hb (h1 q hq)
    · rename_i hb
      have hyx : bytesBefore y.1 x.1 = true := by
        rcases bb_total (hn y (.head _)) with h' | h'
        · exact h'
        · exact absurd h' hb
      refine List.pairwise_cons.2 ⟨fun q hq => ?_, Ris.ins h2 fun p hp => hn p (.tail _ hp)⟩
      rcases gmem_ins.1 hq with rfl | hq
      · exact hyx
      · exact h1 q hq
theorem Ris.put {l : List (Bs × α)} (h : Ris l) (k : Bs) (v : α) : Ris (gput k v l) := (h.del k).ins fun p hp => (gmem_del.1 hp).2
theorem Ris.map {l : List (Bs × α)} (h : Ris l) (f : α → β) : Ris (gmap f l) := List.Pairwise.map _ (fun _ _ h => h) h
theorem gget_mem {k : Bs} {v : α} {l : List (Bs × α)} (h : gget k l = some v) : (k, v) ∈ l := by
  unfold gget at h
  cases hq : l.find? (fun p => p.1 == k) with
  | none => rw [hq] at h; cases h
  | some p =>
    rw [hq] at h
    have hm := List.mem_of_find?_eq_some hq
    have hk := List.find?_some hq
    obtain ⟨a, b⟩ := p
    simp only [beq_iff_eq, Option.map_some, Option.some.injEq] at hk h
    subst hk h
    exact hm
theorem gget_none {k : Bs} {l : List (Bs × α)} : gget k l = none ↔ ∀ p ∈ l, p.1 ≠ k := by
  unfold gget
  rw [Option.map_eq_none_iff, List.find?_eq_none]
  simp
theorem gget_of_mem {k : Bs} {v : α} {l : List (Bs × α)} (hr : Ris l) (h : (k, v) ∈ l) : gget k l = some v := by
  induction l with
  | nil => cases h
  | cons y r ih =>
    obtain ⟨h1, h2⟩ := List.pairwise_cons.1 hr
    unfold gget
    rw [List.find?_cons]
    rcases List.mem_cons.1 h with rfl | h
    · simp
    · have hy : (y.1 == k) = false := by
        rw [beq_eq_false_iff_ne]
        rintro rfl
        have := h1 _ h
        rw [bb_irrefl] at this
        cases this
      rw [hy]
      exact ih h2 h
theorem glen_ins (x : Bs × α) : ∀ l : List (Bs × α), (gins x l).length = l.length + 1
  | [] => rfl
  | y :: r => by
    unfold gins
    split
    · rfl
    · simp [glen_ins x r]
theorem glen_put (k : Bs) (v : α) (l : List (Bs × α)) : (gput k v l).length ≤ l.length + 1 := by
  unfold gput gdel
  rw [glen_ins]
  have := List.length_filter_le (fun p : Bs × α => !(p.1 == k)) l
  omega
theorem glen_del (k : Bs) (l : List (Bs × α)) : (gdel k l).length ≤ l.length := List.length_filter_le _ _
end

/-! ### changes, disks -/
/-- a change: its kind (0: a write, 1: a rename, 2: a removal), its name, the other name, its bytes -/
structure Chg (α : Type) where
  kind : Nat
  name : Bs
  «to» : Bs
  val : α
/-- a disk -/
structure Dk (α : Type) where
  room : Int
  sure : List (Bs × α)
  pend : List (Chg α)
  fuse : Int
  down : Bool
section
variable {α β : Type}
def Chg.map (f : α → β) (c : Chg α) : Chg β := ⟨c.kind, c.name, c.to, f c.val⟩
def Dk.map (f : α → β) (d : Dk α) : Dk β := ⟨d.room, gmap f d.sure, d.pend.map (Chg.map f), d.fuse, d.down⟩
def fdo (l : List (Bs × α)) (c : Chg α) : List (Bs × α) :=
  if c.kind = 0 then gput c.name c.val l else match gget c.name l with
    | none => l
    | some b => if c.kind = 1 then gput c.to b (gdel c.name l) else gdel c.name l
theorem fdo_map (f : α → β) (l : List (Bs × α)) (c : Chg α) : fdo (gmap f l) (c.map f) = gmap f (fdo l c) := by
  unfold fdo Chg.map
  dsimp only
  split
  · exact gput_map f _ _ _
  · rw [gget_map]
    cases gget c.name l with
    | none => rfl
    | some b =>
      dsimp only [Option.map_some]
      split
      · rw [gdel_map, gput_map]
      · rw [gdel_map]
theorem Ris.fdo {l : List (Bs × α)} (h : Ris l) (c : Chg α) : Ris (fdo l c) := by
  unfold Go.Proofs.YtabnndjdkjkciaaGreatDoor.fdo
  split
  · exact h.put _ _
  · split
    · exact h
    · split
      · exact (h.del _).put _ _
      · exact h.del _
theorem flen_do (l : List (Bs × α)) (c : Chg α) : (fdo l c).length ≤ l.length + 1 := by
  unfold fdo
  split
  · exact glen_put _ _ _
  · split
    · omega
    · split
      · have h1 := glen_del c.name l
        rename_i b _ _
        have h2 := glen_put c.to b (gdel c.name l)
        omega
      · have := glen_del c.name l
        omega
def fdos (l : List (Bs × α)) (cs : List (Chg α)) : List (Bs × α) := cs.foldl fdo l
theorem fdos_map (f : α → β) (l : List (Bs × α)) : ∀ cs : List (Chg α), fdos (gmap f l) (cs.map (Chg.map f)) = gmap f (fdos l cs) := fun cs => by
  unfold fdos
  induction cs generalizing l with
  | nil => rfl
  | cons c r ih => rw [List.map_cons, List.foldl_cons, List.foldl_cons, fdo_map, ih]
theorem Ris.fdos {l : List (Bs × α)} (h : Ris l) (cs : List (Chg α)) : Ris (fdos l cs) := by
  unfold Go.Proofs.YtabnndjdkjkciaaGreatDoor.fdos
  induction cs generalizing l with
  | nil => exact h
  | cons c r ih => exact ih (h.fdo c)
theorem flen_dos (l : List (Bs × α)) (cs : List (Chg α)) : (fdos l cs).length ≤ l.length + cs.length := by
  unfold fdos
  induction cs generalizing l with
  | nil => simp
  | cons c r ih =>
    have h1 := ih (fdo l c)
    have h2 := flen_do l c
    simp only [List.foldl_cons, List.length_cons]
    omega
theorem fdos_snoc (l : List (Bs × α)) (cs : List (Chg α)) (c : Chg α) : fdos l (cs ++ [c]) = fdo (fdos l cs) c := by
  unfold fdos
  rw [List.foldl_append]
  rfl
def Dk.shown (d : Dk α) : List (Bs × α) := fdos d.sure d.pend
theorem shown_map (f : α → β) (d : Dk α) : (d.map f).shown = gmap f d.shown := fdos_map f d.sure d.pend
/-- an operation counted; an error's number -/
def dWorks (d : Dk α) : Dk α × Nat :=
  if d.down = true then (d, 14) else if d.fuse = 0 then ({ d with down := true }, 14) else if 0 < d.fuse then ({ d with fuse := d.fuse - 1 }, 0) else (d, 0)
def dAdd (d : Dk α) (c : Chg α) : Dk α := { d with pend := d.pend ++ [c] }
def isSign (c : UInt8) : Bool := (97 ≤ c && c ≤ 122) || (48 ≤ c && c ≤ 57) || c == 45 || c == 46 || c == 126
def named (s : Bs) : Bool := decide (1 ≤ s.length) && decide (s.length ≤ 24) && s.all isSign
def fused (len : α → Nat) (l : List (Bs × α)) : Nat := (l.map fun p => len p.2).sum
def dWrite (len : α → Nat) (d : Dk α) (n : Bs) (v : α) : Dk α × Nat :=
  if (dWorks d).2 ≠ 0 then dWorks d
  else if named n = false then ((dWorks d).1, 2)
  else if 65536 < len v then ((dWorks d).1, 3)
  else if (gget n d.shown).isNone = true ∧ 512 ≤ d.shown.length ∨ d.room < (fused len d.shown : Int) - ((gget n d.shown).map len).getD 0 + len v then ((dWorks d).1, 5)
  else (dAdd (dWorks d).1 ⟨0, n, [], v⟩, 0)
/-- z: no bytes -/
def dRename (z : α) (d : Dk α) (n t : Bs) : Dk α × Nat :=
  if (dWorks d).2 ≠ 0 then dWorks d
  else if named n = false ∨ named t = false then ((dWorks d).1, 2)
  else if (gget n d.shown).isNone = true then ((dWorks d).1, 4)
  else (dAdd (dWorks d).1 ⟨1, n, t, z⟩, 0)
def dRemove (z : α) (d : Dk α) (n : Bs) : Dk α × Nat :=
  if (dWorks d).2 ≠ 0 then dWorks d
  else if named n = false then ((dWorks d).1, 2)
  else if (gget n d.shown).isNone = true then ((dWorks d).1, 4)
  else (dAdd (dWorks d).1 ⟨2, n, [], z⟩, 0)
def dSync (d : Dk α) : Dk α × Nat :=
  if (dWorks d).2 ≠ 0 then dWorks d else ({ (dWorks d).1 with sure := d.shown, pend := [] }, 0)
def kept (keep : List Bool) (cs : List (Chg α)) : List (Chg α) := ((cs.zip keep).filter (·.2)).map (·.1)
def dCut (keep : List Bool) (d : Dk α) : Dk α := { d with sure := fdos d.sure (kept keep d.pend), pend := [], down := true }
def dStart (d : Dk α) : Dk α := if d.down = true then { d with pend := [], down := false, fuse := -1 } else { d with fuse := -1 }
end
end Go.Proofs.YtabnndjdkjkciaaGreatDoor

namespace Go.Proofs.YtabnndjdkjkciaaGreatDoor
open Go.RowKit

/-- a byte as a value -/
abbrev bv (b : UInt8) : Value := .int .u8 (b.toNat : Int)
abbrev bvs (l : List UInt8) : List Value := l.map bv

theorem addr_add_add (a : Addr) (i j : Nat) : (a.add i).add j = a.add (i + j) := by
  unfold Addr.add
  by_cases hi : i = 0 <;> by_cases hj : j = 0 <;> simp [hi, hj, Nat.add_assoc]
theorem addr_add_block (a : Addr) (i : Nat) : (a.add i).block = a.block := by unfold Addr.add; split <;> rfl
theorem addr_lit (g i j : Nat) : (⟨g, i, none⟩ : Addr).add j = ⟨g, i + j, none⟩ := by unfold Addr.add; split <;> simp_all

/-- each cell that is there stays as it is -/
def Keep (w w' : World) : Prop := ∀ (p : Addr) (v : Value), w.cell? p = some v → w'.cell? p = some v

theorem Keep.refl (w : World) : Keep w w := fun _ _ h => h
theorem keep_of_below {w w' : World} (h : Below w.heap.size w w') : Keep w w' := fun p _ e => (h.cell (World.block_lt_of_cell? w p e)).trans e

/-- what an address leads to reads as these cells -/
def Rd (w : World) (A : Option Addr) (xs : List Value) : Prop := ∀ j u, xs[j]? = some u → ∃ ad, A = some ad ∧ w.cell? (ad.add j) = some u

section
variable {w w' : World} {A : Option Addr} {xs : List Value}
theorem Rd.nil (w : World) (A : Option Addr) : Rd w A [] := fun j u h => by simp at h
theorem Rd.keep (h : Rd w A xs) (k : Keep w w') : Rd w' A xs := fun j u hj => by
  obtain ⟨ad, e, hc⟩ := h j u hj
  exact ⟨ad, e, k _ _ hc⟩
theorem Rd.below (h : Rd w A xs) (hb : Below w.heap.size w w') : Rd w' A xs := h.keep (keep_of_below hb)
theorem Rd.at (h : Rd w A xs) {k : Nat} (hk : k < xs.length) : ∃ ad, A = some ad ∧ w.cell? (ad.add k) = some xs[k] := h k _ (List.getElem?_eq_getElem hk)
theorem Rd.take (h : Rd w A xs) (k : Nat) : Rd w A (xs.take k) := fun j u hj => by
  rw [List.getElem?_take] at hj
  split at hj
  · exact h j u hj
  · cases hj
theorem Rd.cut (h : Rd w A xs) (k cap : Nat) (hk : k < xs.length → k ≠ cap) : Rd w (if cap = k then A else A.map (·.add k)) (xs.drop k) := fun j u hj => by
  rw [List.getElem?_drop] at hj
  obtain ⟨ad, rfl, hc⟩ := h _ u hj
  have hl : k < xs.length := by have := (List.getElem?_eq_some_iff.1 hj).1; omega
  rw [if_neg (fun e => hk hl e.symm)]
  exact ⟨ad.add k, rfl, by rw [addr_add_add]; exact hc⟩
theorem Rd.lit (w : World) (cs : List Value) (t : TypeId) : Rd (w.alloc (.cells cs.toArray t)) (some ⟨w.heap.size, 0, none⟩) cs := fun j u hj => by
  refine ⟨_, rfl, ?_⟩
  rw [addr_lit, cell_of_row _ _ _ _ t (0, 0) (heap_alloc_new w _)]
  simpa using hj
end

/-- a slice of the call's own, from block 'base' on: n elements of 'size' cells -/
abbrev Own (w : World) (base : Nat) (e : TypeId) (size : Nat) (A : Option Addr) (n c : Nat) (xs : List Value) : Prop := w.ownsRow base e size (.slice A n c) n xs
/-- a slice that can be read -/
def Sl (w : World) (size : Nat) (A : Option Addr) (n c : Nat) (xs : List Value) : Prop := xs.length = n * size ∧ n ≤ c ∧ c ≤ maxLen ∧ (A = none → c = 0) ∧ Rd w A xs

section
variable {w w' : World} {base : Nat} {e : TypeId} {size n c : Nat} {A : Option Addr} {xs : List Value}
theorem Own.sl (h : Own w base e size A n c xs) : Sl w size A n c xs := by
  obtain ⟨h1, h2⟩ := h
  rcases h2 with ⟨hv, hn⟩ | ⟨g, cap, cur, hv, hb, hh, hnc, hcm, hcs, ht⟩
  · injection hv with hA _ hc
    subst hA
    subst hc
    exact ⟨h1, by omega, by simp [maxLen], fun _ => rfl, by
      rw [show xs = [] from List.eq_nil_of_length_eq_zero (by rw [h1, hn, Nat.zero_mul])]
      exact Rd.nil _ _⟩
  · injection hv with hA _ hc
    subst hc
    refine ⟨h1, hnc, hcm, (fun e => by rw [hA] at e; cases e), fun j u hj => ?_⟩
    have h' : w.ownsRow base e size (.slice A n c) n xs := ⟨h1, .inr ⟨g, c, cur, by rw [hA], hb, hh, hnc, hcm, hcs, ht⟩⟩
    exact ⟨⟨g, 0, none⟩, hA, h'.cells (g := g) (by rw [hA]; rfl) j u hj⟩
theorem Own.below (h : Own w base e size A n c xs) (hb : Below w.heap.size w w') : Own w' base e size A n c xs := by
  obtain ⟨h1, h2⟩ := h
  refine ⟨h1, ?_⟩
  rcases h2 with h2 | ⟨g, cap, cur, hv, hg, hh, r⟩
  · exact Or.inl h2
  · exact Or.inr ⟨g, cap, cur, hv, hg, (hb.block g (Array.getElem?_eq_some_iff.1 hh).1).trans hh, r⟩
theorem Own.none_ (w : World) (base : Nat) (e : TypeId) (size : Nat) : Own w base e size none 0 0 [] := World.ownsRow_nil w base e size
theorem Own.more {base' : Nat} (h : Own w base e size A n c xs) (hb : base' ≤ base) : Own w base' e size A n c xs := by
  obtain ⟨h1, h2⟩ := h
  refine ⟨h1, ?_⟩
  rcases h2 with h2 | ⟨g, cap, cur, hv, hg, r⟩
  · exact Or.inl h2
  · exact Or.inr ⟨g, cap, cur, hv, by omega, r⟩
theorem Sl.below (h : Sl w size A n c xs) (hb : Below w.heap.size w w') : Sl w' size A n c xs := ⟨h.1, h.2.1, h.2.2.1, h.2.2.2.1, h.2.2.2.2.below hb⟩
theorem Sl.keep (h : Sl w size A n c xs) (hb : Keep w w') : Sl w' size A n c xs := ⟨h.1, h.2.1, h.2.2.1, h.2.2.2.1, h.2.2.2.2.keep hb⟩
theorem Sl.none_ (w : World) (size : Nat) : Sl w size none 0 0 [] := ⟨by simp, by omega, by simp [maxLen], fun _ => rfl, Rd.nil _ _⟩
end

/-- what 'append' leaves: the new row, only the old row written, the new row there or new -/
structure Appd (w w' : World) (base : Nat) (e : TypeId) (size : Nat) (A A' : Option Addr) (n' c' : Nat) (xs : List Value) : Prop where
  own : Own w' base e size A' n' c' xs
  grown : w.grownBy w' (A.map (·.block))
  place : A'.map (·.block) = A.map (·.block) ∨ A'.map (·.block) = some w.heap.size

theorem ownBlock_slice (A : Option Addr) (n c : Nat) : (Value.slice A n c).ownBlock = A.map (·.block) := by cases A <;> rfl

theorem run_append_rd {P : Program} (w : World) (base : Nat) (t ty e : TypeId) (i : TypeInfo) (z : Value) (size bytes : Nat) (ht : P.underlying t = some (.slice e)) (hi : P.info? e = some i) (hz : i.zero = some z)
    (hsize : i.size = size) (hby : i.bytes = bytes) (hzs : z.cells.size = size) (hsz : 0 < size)
    (A : Option Addr) (n c : Nat) (xs : List Value) (hown : Own w base e size A n c xs)
    (A2 : Option Addr) (m c2 : Nat) (news : List Value) (hr : Sl w size A2 m c2 news) (h1 : ∀ u ∈ news, u.oneCell' = true)
    (hbytes : (n + m) * bytes ≤ 140737488355328) (hmax : n + m ≤ maxLen) (hbase : base ≤ w.heap.size) :
    ∃ A' c' w', (Builtin.append_ #[t, t] ty #[.slice A n c, .slice A2 m c2]).run P w = .ok (.slice A' (n + m) c') w' ∧ Appd w w' base e size A A' (n + m) c' (xs ++ news) := by
  obtain ⟨hl2, hmc, _, hnil, hrd⟩ := hr
  rcases A2 with _ | ad
  · obtain rfl := hnil rfl
    have hm : m = 0 := by omega
    subst hm
    have hn : news = [] := List.eq_nil_of_length_eq_zero (by rw [hl2, Nat.zero_mul])
    subst hn
    have hrun := run_append_owned_none (P := P) (w := w) base t ty e i size ht hi _ _ _ hown
    exact ⟨A, c, w, by simpa using hrun, by simpa using hown, World.grownBy.refl w _, .inl rfl⟩
  · have hcells : ∀ j u, news[j]? = some u → w.cell? (ad.add j) = some u := by
      intro j u hu
      obtain ⟨_, h, hc⟩ := hrd j u hu
      injection h with h
      subst h
      exact hc
    obtain ⟨v', w', hrun, h2, h3, _, h5⟩ := run_append_own_at (P := P) w base t ty e i z size bytes ht hi hz hsize hby hzs hsz _ _ _ hown ad m c2 news hl2 hcells h1 hmax hbytes hbase
    have hform : ∃ A' c', v' = .slice A' (n + m) c' := by
      rcases h2.2 with ⟨rfl, hn⟩ | ⟨g, cap, _, rfl, _⟩
      · exact ⟨none, 0, by rw [hn]⟩
      · exact ⟨_, _, rfl⟩
    obtain ⟨A', c', rfl⟩ := hform
    rw [ownBlock_slice] at h3
    rw [ownBlock_slice, ownBlock_slice] at h5
    exact ⟨A', c', w', hrun, h2, h3, h5⟩

theorem wpl_append {P : Program} {w : World} {ops : Array Oper} {rest : List Oper} {o : Oper} {a : Act} {Q : Exit → Act → World → Prop} (hgd : o.guard = none) (s x : Operand) (t : TypeId)
    (ho : o.op = .call { callee := .builtin .append, args := #[s, x], argTypes := #[t, t] })
    (base : Nat) (e : TypeId) (i : TypeInfo) (z : Value) (size bytes : Nat) (ht : P.underlying t = some (.slice e)) (hi : P.info? e = some i) (hz : i.zero = some z)
    (hsize : i.size = size) (hby : i.bytes = bytes) (hzs : z.cells.size = size) (hsz : 0 < size)
    (A : Option Addr) (n c : Nat) (xs : List Value) (hs : a.eval s = .slice A n c) (hown : Own w base e size A n c xs)
    (A2 : Option Addr) (m c2 : Nat) (news : List Value) (hx : a.eval x = .slice A2 m c2) (hr : Sl w size A2 m c2 news) (h1 : ∀ u ∈ news, u.oneCell' = true)
    (hbytes : (n + m) * bytes ≤ 140737488355328) (hmax : n + m ≤ maxLen) (hbase : base ≤ w.heap.size)
    (h : ∀ A' c' w', Appd w w' base e size A A' (n + m) c' (xs ++ news) → wpList P ops Q rest (a.put o.dst (.slice A' (n + m) c')) w') : wpList P ops Q (o :: rest) a w :=
  wpList_plain hgd fun _ hK => by
    obtain ⟨A', c', w', hrun, h2⟩ := run_append_rd (P := P) w base t o.type e i z size bytes ht hi hz hsize hby hzs hsz A n c xs hown A2 m c2 news hr h1 hbytes hmax hbase
    unfold Oper.wp execOp
    simp only [ho, resolve, invoke, builtin, Sem.run_bind, Sem.run_pure, Result.andThen_ok, List.map_toArray, List.map_cons, List.map_nil, hs, hx, hrun]
    exact hK _ _ (h A' c' w' h2)

/-- the same, one element that the walk has just laid in a block of its own -/
theorem Sl.one {w : World} {u : Value} {t : TypeId} : Sl (w.alloc (.cells #[u] t)) 1 (some ⟨w.heap.size, 0, none⟩) 1 1 [u] :=
  ⟨rfl, by omega, by simp [maxLen], (fun h => by cases h), Rd.lit w [u] t⟩

theorem Own.lt {w : World} {base : Nat} {e : TypeId} {size n c : Nat} {A : Option Addr} {xs : List Value} (h : Own w base e size A n c xs) : ∀ k, A.map (·.block) = some k → base ≤ k ∧ k < w.heap.size := fun k hk =>
  World.ownsRow.lt h k (by rw [ownBlock_slice]; exact hk)
theorem Appd.below {w w' : World} {base : Nat} {e : TypeId} {size n c n' c' : Nat} {A A' : Option Addr} {xs xs' : List Value} (h : Appd w w' base e size A A' n' c' xs') (ho : Own w base e size A n c xs) (hb : base ≤ w.heap.size) : Below base w w' :=
  (Below.refl _ _).grown h.grown hb (fun k hk => (ho.lt k hk).1)

/-- bytes of the call's own; bytes that can be read -/
abbrev OwnB (w : World) (base : Nat) (e : TypeId) (A : Option Addr) (c : Nat) (l : List UInt8) : Prop := Own w base e 1 A l.length c (bvs l)
abbrev SlB (w : World) (A : Option Addr) (c : Nat) (l : List UInt8) : Prop := Sl w 1 A l.length c (bvs l)
theorem one_bvs (l : List UInt8) : ∀ u ∈ bvs l, u.oneCell' = true := by
  intro u hu
  simp only [List.mem_map] at hu
  obtain ⟨b, _, rfl⟩ := hu
  rfl
theorem SlB.nil (w : World) (A : Option Addr) (c : Nat) (hc : c ≤ maxLen) (h : A = none → c = 0) : SlB w A c [] := ⟨rfl, by simp, hc, h, Rd.nil _ _⟩

/-- append of bytes: what comes out under one name -/
theorem wpl_bytes {P : Program} {w : World} {ops : Array Oper} {rest : List Oper} {o : Oper} {a : Act} {Q : Exit → Act → World → Prop} (t e : TypeId) (ht : P.underlying t = some (.slice e))
    (hinfo : (P.info? e).map (fun i => (i.zero, i.size, i.bytes)) = some (some (.int .u8 0), 1, 1)) (hgd : o.guard = none) (s x : Operand)
    (ho : o.op = .call { callee := .builtin .append, args := #[s, x], argTypes := #[t, t] })
    (base : Nat) (A : Option Addr) (c : Nat) (l : List UInt8) (hs : a.eval s = .slice A l.length c) (hown : OwnB w base e A c l)
    (A2 : Option Addr) (c2 : Nat) (l2 : List UInt8) (hx : a.eval x = .slice A2 l2.length c2) (hr : SlB w A2 c2 l2)
    (hlen : l.length + l2.length ≤ 140737488355328) (hbase : base ≤ w.heap.size)
    (h : ∀ A' c' (m : List UInt8) w', Hid (m = l ++ l2) → OwnB w' base e A' c' m → w.grownBy w' (A.map (·.block)) → (A'.map (·.block) = A.map (·.block) ∨ A'.map (·.block) = some w.heap.size) → Below base w w' →
      wpList P ops Q rest (a.put o.dst (.slice A' m.length c')) w') : wpList P ops Q (o :: rest) a w := by
  obtain ⟨i0, hi, hz0, hz1, hz2⟩ := info_parts hinfo
  refine wpl_append hgd s x t ho base e i0 (.int .u8 0) 1 1 ht hi hz0 hz1 hz2 rfl (by decide) A l.length c (bvs l) hs hown A2 l2.length c2 (bvs l2) hx hr (one_bvs l2) (by omega) (by simp only [maxLen]; omega) hbase ?_
  intro A' c' w' hap
  rw [← List.length_append]
  refine h A' c' (l ++ l2) w' rfl ?_ hap.grown hap.place (hap.below hown hbase)
  have := hap.own
  simpa [OwnB] using this

/-- append of one byte, which the walk has laid in a block of its own -/
theorem wpl_byte {P : Program} {w : World} {ops : Array Oper} {rest : List Oper} {o : Oper} {a : Act} {Q : Exit → Act → World → Prop} (t e : TypeId) (ht : P.underlying t = some (.slice e))
    (hinfo : (P.info? e).map (fun i => (i.zero, i.size, i.bytes)) = some (some (.int .u8 0), 1, 1)) (hgd : o.guard = none) (s x : Operand)
    (ho : o.op = .call { callee := .builtin .append, args := #[s, x], argTypes := #[t, t] })
    (base : Nat) (A : Option Addr) (c : Nat) (l : List UInt8) (z : Int) (b : UInt8) (hz : z = (b.toNat : Int)) (hs : a.eval s = .slice A l.length c) (hown : OwnB w base e A c l)
    (hx : a.eval x = .slice (some ⟨w.heap.size, 0, none⟩) 1 1) (hlen : l.length ≤ 100000000000000) (hbase : base ≤ w.heap.size)
    (h : ∀ A' c' (m : List UInt8) w', Hid (m = l ++ [b]) → OwnB w' base e A' c' m → (w.alloc (.cells #[.int .u8 z] e)).grownBy w' (A.map (·.block)) →
      (A'.map (·.block) = A.map (·.block) ∨ A'.map (·.block) = some (w.heap.size + 1)) → Below base w w' →
      wpList P ops Q rest (a.put o.dst (.slice A' m.length c')) w') : wpList P ops Q (o :: rest) a (w.alloc (.cells #[.int .u8 z] e)) := by
  subst hz
  have hbl : Below base w (w.alloc (.cells #[.int .u8 (b.toNat : Int)] e)) := (Below.refl _ _).alloc hbase _
  refine wpl_bytes t e ht hinfo hgd s x ho base A c l hs (hown.alloc _) (some ⟨w.heap.size, 0, none⟩) 1 [b] hx Sl.one (by simp; omega) (by simp; omega) ?_
  intro A' c' m w' hm ho' hg hp hb
  exact h A' c' m w' hm ho' hg (by simpa using hp) (hbl.trans hb)

theorem SlB.of_none {w : World} {c : Nat} {l : List UInt8} (h : SlB w none c l) : c = 0 ∧ l = [] := by
  obtain rfl := h.2.2.2.1 rfl
  exact ⟨rfl, List.eq_nil_of_length_eq_zero (by have := h.2.1; omega)⟩
theorem Own.lit {w : World} {base : Nat} {e : TypeId} (size : Nat) (h : base ≤ w.heap.size) : Own (w.alloc (.cells #[] e)) base e size (some ⟨w.heap.size, 0, none⟩) 0 0 [] :=
  World.ownsRow_made w #[] 0 h (by simp [maxLen]) (by simp)
theorem Sl.len_le {w : World} {size n c : Nat} {A : Option Addr} {xs : List Value} (h : Sl w size A n c xs) : n ≤ maxLen := Nat.le_trans h.2.1 h.2.2.1

theorem Sl.at1 {w : World} {n c : Nat} {A : Option Addr} {T : Type} {f : T → Value} {l : List T} (h : Sl w 1 A n c (l.map f)) {k : Nat} (hk : k < l.length) : ∃ ad, A = some ad ∧ w.cell? (ad.add k) = some (f l[k]) := by
  obtain ⟨ad, hA, hc⟩ := h.2.2.2.2.at (k := k) (by simpa using hk)
  exact ⟨ad, hA, by simpa using hc⟩
theorem Sl.lits (w : World) (cs : List Value) (t : TypeId) (h : cs.length ≤ maxLen) : Sl (w.alloc (.cells cs.toArray t)) 1 (some ⟨w.heap.size, 0, none⟩) cs.length cs.length cs :=
  ⟨by simp, Nat.le_refl _, h, (fun h => by cases h), Rd.lit w cs t⟩
theorem below_new (w : World) (o : Obj) : Below w.heap.size w (w.alloc o) := (Below.refl _ _).alloc (Nat.le_refl _) o
theorem size_new (w : World) (o : Obj) : w.heap.size ≤ (w.alloc o).heap.size := by simp

theorem conv_str {P : Program} {w : World} (src dst e : TypeId) (hs : P.underlying src = some (.slice e)) (he : P.underlying e = some (.int .u8)) (hd : P.underlying dst = some .string)
    {A : Option Addr} {c n : Nat} {l : List UInt8} (h : SlB w A c l) (hn : n = l.length) : (convert src dst (.slice A n c)).run P w = .ok (.string ⟨l.toArray⟩) w := by
  subst hn
  cases A with
  | none =>
    obtain ⟨rfl, rfl⟩ := h.of_none
    exact (run_convert_bytes_string w src dst e none 0 0 hs he hd).trans rfl
  | some a =>
    refine run_convert_bytes_back w src dst e a c l hs he hd fun j hj => ?_
    obtain ⟨ad, hA, hc⟩ := h.at1 hj
    injection hA with hA
    subst hA
    exact hc
theorem Sl.take {w : World} {n c : Nat} {A : Option Addr} {xs : List Value} (h : Sl w 1 A n c xs) {k : Nat} (hk : k ≤ n) : Sl w 1 A k c (xs.take k) :=
  ⟨by have := h.1; simp; omega, Nat.le_trans hk h.2.1, h.2.2.1, h.2.2.2.1, h.2.2.2.2.take k⟩
theorem Sl.takeB {w : World} {c : Nat} {A : Option Addr} {l : List UInt8} (h : SlB w A c l) (k : Nat) : SlB w A c (l.take k) := by
  have := Sl.take h (k := (l.take k).length) (by simp; omega)
  rw [show (bvs l).take (l.take k).length = bvs (l.take k) from by
    simp only [bvs, List.map_take, List.length_take]
    rw [List.take_eq_take_iff]
    simp] at this
  exact this
theorem below_drewN {B : Nat} {a w : World} (h : Below B a w) (n : Nat) : Below B a (w.drewN n) := ⟨h.os, h.tape, h.output, h.size, h.block⟩
theorem Sl.drewN {w : World} {size n c : Nat} {A : Option Addr} {xs : List Value} (h : Sl w size A n c xs) (k : Nat) : Sl (w.drewN k) size A n c xs := h
/-- 'string(b)' in a region that draws, at whatever count of draws -/
theorem conv_strs {P : Program} {w : World} (src dst e : TypeId) (hs : P.underlying src = some (.slice e)) (he : P.underlying e = some (.int .u8)) (hd : P.underlying dst = some .string)
    {A : Option Addr} {c n : Nat} {l : List UInt8} (h : SlB w A c l) (hn : n = l.length) (k : Nat) : (convert src dst (.slice A n c)).run P (w.drewN k) = .ok (.string ⟨l.toArray⟩) (w.drewN k) :=
  conv_str src dst e hs he hd (h.drewN k) hn
theorem Keep.of_drew {a b : World} (h : Keep a.drew b) : Keep a b := h
theorem below_of_drew {a b : World} (h : Below a.drew.heap.size a.drew b) : Below a.heap.size a b := ⟨h.os, h.tape, h.output, h.size, h.block⟩
/-- a block that is known whole -/
def Blk (w : World) (g : Nat) (t : TypeId) (cs : Array Value) : Prop := w.heap[g]? = some (.cells cs t (0, 0))
theorem Blk.lt {w : World} {g : Nat} {t : TypeId} {cs : Array Value} (h : Blk w g t cs) : g < w.heap.size := by
  rcases Nat.lt_or_ge g w.heap.size with hlt | hge
  · exact hlt
  · unfold Blk at h; rw [Array.getElem?_eq_none hge] at h; cases h
theorem Blk.cell {w : World} {g : Nat} {t : TypeId} {cs : Array Value} (h : Blk w g t cs) (i : Nat) : w.cell? ⟨g, i, none⟩ = cs[i]? := cell_of_row w g i cs t (0, 0) h
theorem Blk.frozen {w : World} {g : Nat} {t : TypeId} {cs : Array Value} (h : Blk w g t cs) (i : Nat) : w.frozen? ⟨g, i, none⟩ = false := by
  unfold Blk at h
  simp [World.frozen?, h]
theorem Blk.new (w : World) (t : TypeId) (cs : Array Value) : Blk (w.alloc (.cells cs t)) w.heap.size t cs := heap_alloc_new w _
theorem Blk.newAt {w : World} {g : Nat} (hg : g = w.heap.size) (t : TypeId) (cs : Array Value) : Blk (w.alloc (.cells cs t)) g t cs := by subst hg; exact Blk.new w t cs
theorem Blk.alloc {w : World} {g : Nat} {t : TypeId} {cs : Array Value} (h : Blk w g t cs) (o : Obj) : Blk (w.alloc o) g t cs := (Below.heap_alloc w o g h.lt).trans h
theorem Blk.below {w w' : World} {g : Nat} {t : TypeId} {cs : Array Value} (h : Blk w g t cs) (hb : Below w.heap.size w w') : Blk w' g t cs := (hb.block g h.lt).trans h
theorem Blk.three {w : World} {g : Nat} {t : TypeId} {a b c : Value} (h : Blk w g t #[a, b, c]) : w.cell? ⟨g, 0, none⟩ = some a ∧ w.cell? ⟨g, 1, none⟩ = some b ∧ w.cell? ⟨g, 2, none⟩ = some c ∧
    w.frozen? ⟨g, 0, none⟩ = false ∧ w.frozen? ⟨g, 1, none⟩ = false ∧ w.frozen? ⟨g, 2, none⟩ = false := ⟨h.cell 0, h.cell 1, h.cell 2, h.frozen 0, h.frozen 1, h.frozen 2⟩
theorem Blk.two {w : World} {g : Nat} {t : TypeId} {a b : Value} (h : Blk w g t #[a, b]) : w.cell? ⟨g, 0, none⟩ = some a ∧ w.cell? ⟨g, 1, none⟩ = some b ∧
    w.frozen? ⟨g, 0, none⟩ = false ∧ w.frozen? ⟨g, 1, none⟩ = false := ⟨h.cell 0, h.cell 1, h.frozen 0, h.frozen 1⟩
theorem bel_alloc {a w : World} (h : Below a.heap.size a w) (o : Obj) : Below a.heap.size a (w.alloc o) := h.alloc h.size o
theorem bel_set {a w : World} (h : Below a.heap.size a w) {p : Addr} (hp : a.heap.size ≤ p.block) (u : Value) : Below a.heap.size a (w.setCell p u) := h.setCell hp u
theorem bel_call {a w w' : World} (h : Below a.heap.size a w) (k : Below w.heap.size w w') : Below a.heap.size a w' := h.trans (k.mono h.size)
theorem Blk.set_ {w : World} {g : Nat} {t : TypeId} {cs : Array Value} (h : Blk w g t cs) (i : Nat) (u : Value) : Blk (w.setCell ⟨g, i, none⟩ u) g t (cs.setIfInBounds i u) := by
  unfold Blk at h ⊢
  simp [World.setCell, Array.getElem?_modify, h]
theorem Blk.far {w : World} {g : Nat} {t : TypeId} {cs : Array Value} (h : Blk w g t cs) {p : Addr} (hp : g ≠ p.block) (u : Value) : Blk (w.setCell p u) g t cs := (Below.heap_setCell w p u g hp).trans h
theorem Blk.set3 {w : World} {g : Nat} {t : TypeId} {a b c : Value} (h : Blk w g t #[a, b, c]) (x y z : Value) : Blk (((w.setCell ⟨g, 0, none⟩ x).setCell ⟨g, 1, none⟩ y).setCell ⟨g, 2, none⟩ z) g t #[x, y, z] :=
  ((h.set_ 0 x).set_ 1 y).set_ 2 z
theorem Blk.set2 {w : World} {g : Nat} {t : TypeId} {a b : Value} (h : Blk w g t #[a, b]) (x y : Value) : Blk ((w.setCell ⟨g, 0, none⟩ x).setCell ⟨g, 1, none⟩ y) g t #[x, y] :=
  (h.set_ 0 x).set_ 1 y
theorem Blk.drew {w : World} {g : Nat} {t : TypeId} {cs : Array Value} (h : Blk w g t cs) : Blk w.drew g t cs := h
theorem Blk.drewN {w : World} {g : Nat} {t : TypeId} {cs : Array Value} (h : Blk w g t cs) (n : Nat) : Blk (w.drewN n) g t cs := h

/-- 'append([]byte{}, x...)': the empty slice has just been laid -/
theorem wpl_fresh {P : Program} {w : World} {ops : Array Oper} {rest : List Oper} {o : Oper} {a : Act} {Q : Exit → Act → World → Prop} (t e : TypeId) (ht : P.underlying t = some (.slice e))
    (hinfo : (P.info? e).map (fun i => (i.zero, i.size, i.bytes)) = some (some (.int .u8 0), 1, 1)) (hgd : o.guard = none) (s x : Operand)
    (ho : o.op = .call { callee := .builtin .append, args := #[s, x], argTypes := #[t, t] })
    (hs : a.eval s = .slice (some ⟨w.heap.size, 0, none⟩) 0 0) (A2 : Option Addr) (c2 : Nat) (l2 : List UInt8) (hx : a.eval x = .slice A2 l2.length c2) (hr : SlB w A2 c2 l2) (hlen : l2.length ≤ 140737488355328)
    (h : ∀ A' c' (m : List UInt8) w', Hid (m = l2) → OwnB w' w.heap.size e A' c' m → Below w.heap.size w w' → wpList P ops Q rest (a.put o.dst (.slice A' m.length c')) w') : wpList P ops Q (o :: rest) a (w.alloc (.cells #[] e)) := by
  refine wpl_bytes t e ht hinfo hgd s x ho w.heap.size (some ⟨w.heap.size, 0, none⟩) 0 [] hs (Own.lit 1 (Nat.le_refl _)) A2 c2 l2 hx (hr.below (below_new _ _)) (by simpa using hlen) (by simp) ?_
  intro A' c' m w' hm ho' _ _ hb
  exact h A' c' m w' hm ho' ((below_new _ _).trans hb)
theorem Sl.cut {w : World} {n c : Nat} {A : Option Addr} {xs : List Value} (h : Sl w 1 A n c xs) {k : Nat} (hk : k ≤ n) : Sl w 1 (if c = k then A else A.map (·.add k)) (n - k) (c - k) (xs.drop k) := by
  obtain ⟨h1, h2, h3, h4, h5⟩ := h
  refine ⟨by simp; omega, by omega, by omega, fun e => ?_, ?_⟩
  · split at e
    · have := h4 e; omega
    · cases A with
      | none => have := h4 rfl; omega
      | some a => simp at e
  · exact h5.cut k c (by omega)
theorem Sl.cutB {w : World} {c : Nat} {A : Option Addr} {l : List UInt8} (h : SlB w A c l) {k : Nat} (hk : k ≤ l.length) : Sl w 1 (if c = k then A else A.map (·.add k)) (l.length - k) (c - k) (bvs (l.drop k)) := by
  have := Sl.cut h hk
  rwa [← List.map_drop] at this

end Go.Proofs.YtabnndjdkjkciaaGreatDoor

namespace Go.Proofs.YtabnndjdkjkciaaGreatDoor
open Go.RowKit Go.Maps Go.Sort

/-- a slice of bytes with what it holds -/
structure Sv where
  A : Option Addr
  c : Nat
  l : Bs
def Sv.v (s : Sv) : Value := .slice s.A s.l.length s.c
def Sv.nil : Sv := ⟨none, 0, []⟩
/-- how a map's element is kept: as it is -/
def tok (v : Value) : Option (DataW Value × List MemPlace) := some (.held v, [])
def dat (l : List (Bs × Sv)) : DataW Value := .map (l.map fun p => (.string p.1, .held p.2.v))
theorem sameKey_str (a b : Bs) : (Lit.string a).sameKey (.string b) = (a == b) := rfl
theorem dat_put (k : Bs) (s : Sv) (l : List (Bs × Sv)) : (dat l).put (.string k) (.held s.v) = dat (gput k s l) := by
  unfold dat gput gdel
  rw [DataW.put_eq]
  unfold ChangeMaps.putKey
  congr 1
  rw [List.filter_map]
  have hf : (ChangeMaps.notKey (Lit.string k) ∘ fun p : Bs × Sv => ((Lit.string p.1, DataW.held p.2.v) : Lit × DataW Value)) = fun p => !(p.1 == k) := rfl
  rw [hf]
  generalize List.filter (fun p : Bs × Sv => !(p.1 == k)) l = r
  induction r with
  | nil => rfl
  | cons y r ih =>
    show (if (Lit.string k).before (.string y.1) = true then _ else _) = List.map _ (if bytesBefore k y.1 = true then _ else _)
    rw [show (Lit.string k).before (.string y.1) = bytesBefore k y.1 from rfl]
    split
    · rfl
    · rw [List.map_cons, ← ih]
theorem dat_del (k : Bs) (l : List (Bs × Sv)) : (dat l).del (.string k) = dat (gdel k l) := by
  unfold dat gdel
  rw [DataW.del_eq]
  unfold ChangeMaps.delKey
  rw [List.filter_map]
  rfl
theorem dat_at (k : Bs) (l : List (Bs × Sv)) : (dat l).atKey (.string k) (.held (.slice none 0 0)) = .held (((gget k l).map Sv.v).getD (.slice none 0 0)) := by
  unfold dat gget DataW.atKey
  dsimp only
  rw [List.find?_map]
  have hf : ((fun p : Lit × DataW Value => p.1.sameKey (Lit.string k)) ∘ fun p : Bs × Sv => ((Lit.string p.1, DataW.held p.2.v) : Lit × DataW Value)) = fun p => p.1 == k := rfl
  rw [hf]
  cases l.find? (fun p => p.1 == k) <;> rfl
theorem dat_has (k : Bs) (l : List (Bs × Sv)) : Maps.has (dat l) (.string k) = (gget k l).isSome := by
  unfold dat gget
  rw [Maps.has_eq]
  induction l with
  | nil => rfl
  | cons y r ih =>
    rw [List.map_cons, List.any_cons, List.find?_cons]
    show (y.1 == k || _) = _
    cases hy : y.1 == k
    · rw [Bool.false_or]; exact ih
    · rfl
theorem dat_size (l : List (Bs × Sv)) : Maps.size (dat l) = l.length := by unfold dat; rw [Maps.size_eq, List.length_map]

section
variable {P : Program} {K T E : TypeId} {w w' : World} {b n : Nat} {l : List (Bs × Sv)}
/-- block b is a map that holds l -/
def Om (P : Program) (K : TypeId) (w : World) (b : Nat) (l : List (Bs × Sv)) : Prop := w.ownsMap P K tok b l.length (dat l)
theorem key_str (hK : P.underlying K = some .string) {k : Bs} (hk : k.length ≤ maxLen) : keyOf P K (.string ⟨k.toArray⟩) = some (.string k) := by
  have := Go.WideMaps.keyOf_string_mk hK (s := ⟨k.toArray⟩) (by simpa [ByteArray.size] using hk)
  simpa using this
theorem Om.of (h : w.ownsMap P K tok b n (dat l)) : Om P K w b l := by
  obtain ⟨es, clock, hb, F, _, hD⟩ := h
  refine ⟨es, clock, hb, F, ?_, hD⟩
  have h1 : (dat l) = .map (l.map fun p => (.string p.1, .held p.2.v)) := rfl
  rw [h1] at hD
  injection hD with hD
  have h2 := congrArg List.length hD
  rw [length_sorted] at h2
  simp at h2
  omega
theorem Om.lt (h : Om P K w b l) : b < w.heap.size := World.ownsMap.lt h
theorem Om.same (h : Om P K w b l) (e : w'.heap[b]? = w.heap[b]?) : Om P K w' b l := by
  obtain ⟨es, clock, hb, r⟩ := h
  exact ⟨es, clock, e.trans hb, r⟩
theorem Om.new (w : World) : Om P K (w.alloc (.map #[] 0)) w.heap.size [] := World.ownsMap_made w P K tok
theorem Om.look (h : Om P K w b l) (hK : P.underlying K = some .string) (hT : P.underlying T = some (.map K E)) (hz : (zeroValue E).run P w = .ok (.slice none 0 0) w) {k : Bs} (hk : k.length ≤ maxLen) :
    (Instr.lookup T (.map (some b)) (.string ⟨k.toArray⟩) true).run P w = .ok (.tuple #[((gget k l).map Sv.v).getD (.slice none 0 0), .bool (gget k l).isSome]) w := by
  obtain ⟨v, ps, hrun, hv⟩ := h.look_ok (string_keyed hK) hT hz (zd := .held (.slice none 0 0)) (zp := []) rfl (key := .string ⟨k.toArray⟩) (kl := .string k) (key_str hK hk)
  rw [dat_at, dat_has] at *
  unfold tok at hv
  injection hv with hv
  injection hv with hv
  injection hv with hv
  subst hv
  exact hrun
theorem Om.look1 (h : Om P K w b l) (hK : P.underlying K = some .string) (hT : P.underlying T = some (.map K E)) (hz : (zeroValue E).run P w = .ok (.slice none 0 0) w) {k : Bs} (hk : k.length ≤ maxLen) :
    (Instr.lookup T (.map (some b)) (.string ⟨k.toArray⟩) false).run P w = .ok (((gget k l).map Sv.v).getD (.slice none 0 0)) w := by
  obtain ⟨v, ps, hrun, hv⟩ := h.lookup (string_keyed hK) hT hz (zd := .held (.slice none 0 0)) (zp := []) rfl (key := .string ⟨k.toArray⟩) (kl := .string k) (key_str hK hk)
  rw [dat_at] at hv
  unfold tok at hv
  injection hv with hv
  injection hv with hv
  injection hv with hv
  subst hv
  exact hrun
theorem Om.len (h : Om P K w b l) (hT : P.underlying T = some (.map K E)) (ty : TypeId) : (Builtin.len_ #[T] ty #[.map (some b)]).run P w = .ok (.int .i64 l.length) w := by
  have := World.ownsMap.len h hT ty
  rw [dat_size] at this
  exact this
theorem Om.store (h : Om P K w b l) (hK : P.underlying K = some .string) (hT : P.underlying T = some (.map K E)) (hn : l.length < maxLen) {k : Bs} (hk : k.length ≤ maxLen) (s : Sv) :
    ∃ w', (Instr.mapUpdate T (.map (some b)) (.string ⟨k.toArray⟩) s.v).run P w = .ok () w' ∧ Om P K w' b (gput k s l) ∧ w.grownBy w' (some b) := by
  obtain ⟨w', hrun, h1, h2⟩ := World.ownsMap.store h (string_keyed hK) hT hn (key := .string ⟨k.toArray⟩) (val := s.v) (kl := .string k) (d := .held s.v) (ps := []) (key_str hK hk) rfl
  rw [dat_put] at h1
  exact ⟨w', hrun, Om.of h1, h2.grown⟩
theorem Om.drop (h : Om P K w b l) (hK : P.underlying K = some .string) (hT : P.underlying T = some (.map K E)) {k : Bs} (hk : k.length ≤ maxLen) (ty : TypeId) :
    ∃ w', (Builtin.delete_ #[T, K] ty #[.map (some b), .string ⟨k.toArray⟩]).run P w = .ok (.tuple #[]) w' ∧ Om P K w' b (gdel k l) ∧ w.grownBy w' (some b) := by
  obtain ⟨w', hrun, h1, h2⟩ := World.ownsMap.drop h (string_keyed hK) hT (key := .string ⟨k.toArray⟩) (kl := .string k) (key_str hK hk) ty
  rw [dat_del] at h1
  exact ⟨w', hrun, Om.of h1, h2.grown⟩
end
end Go.Proofs.YtabnndjdkjkciaaGreatDoor

namespace Go.Proofs.YtabnndjdkjkciaaGreatDoor
open Go.RowKit

/-- a number's bytes -/
def vb (n : Nat) : List UInt8 := if n < 128 then [UInt8.ofNat n] else UInt8.ofNat (n % 128 + 128) :: vb (n / 128)
  termination_by n
theorem vb_small {n : Nat} (h : n < 128) : vb n = [UInt8.ofNat n] := by rw [vb, if_pos h]
theorem vb_step {n : Nat} (h : 128 ≤ n) : vb n = UInt8.ofNat (n % 128 + 128) :: vb (n / 128) := by rw [vb, if_neg (by omega)]
/-- those of many -/
def vbs (l : List Nat) : List UInt8 := l.flatMap vb
theorem vb_pos (n : Nat) : 0 < (vb n).length := by
  rw [vb]; split <;> simp
theorem vb_le (k : Nat) : ∀ n, n < 128 ^ (k + 1) → (vb n).length ≤ k + 1 := by
  induction k with
  | zero => intro n h; rw [vb_small (by simpa using h)]; simp
  | succ k ih =>
    intro n h
    by_cases hn : n < 128
    · rw [vb_small hn]; simp
    · rw [vb_step (by omega), List.length_cons]
      have := ih (n / 128) (by rw [Nat.div_lt_iff_lt_mul (by omega)]; rw [Nat.pow_succ] at h; exact h)
      omega
theorem pow10 : (128 : Nat) ^ (9 + 1) = 1180591620717411303424 := by decide
theorem vb_le10 {n : Nat} (h : n ≤ 18446744073709551615) : (vb n).length ≤ 10 := vb_le 9 n (by rw [pow10]; omega)

/-- a number of 64 bits (behind a name: the walk can't bear the numeral) -/
def U64 (n : Nat) : Prop := n ≤ 18446744073709551615

theorem or128 : ∀ j : Fin 256, (BitVec.ofNat 8 j.val ||| 128#8).toNat = j.val % 128 + 128 := by decide +kernel
theorem byte_more (k : Nat) : bits BinOp.or IntKind.u8 ((k : Int) % 256) 128 = ((UInt8.ofNat (k % 128 + 128)).toNat : Int) := by
  have h1 : (BitVec.ofInt 8 ((k : Int) % 256)) = BitVec.ofNat 8 (k % 256) := by
    rw [show ((k : Int) % 256) = ((k % 256 : Nat) : Int) from by omega, BitVec.ofInt_natCast]
  have h2 : k % 256 < 256 := Nat.mod_lt _ (by decide)
  have h4 := or128 ⟨k % 256, h2⟩
  simp only at h4
  show IntKind.u8.wrap ((BitVec.ofInt 8 ((k : Int) % 256) ||| BitVec.ofInt 8 128).toNat : Int) = _
  rw [h1, show (BitVec.ofInt 8 128) = 128#8 from rfl, h4]
  have h5 : (UInt8.ofNat (k % 128 + 128)).toNat = k % 128 + 128 := by rw [UInt8.toNat_ofNat']; omega
  rw [h5, IntKind.wrap_u8]
  omega
theorem byte_last {k : Nat} (h : k < 128) : (k : Int) = ((UInt8.ofNat k).toNat : Int) := by
  rw [UInt8.toNat_ofNat']; omega
theorem U64.div {n : Nat} (h : U64 n) (k : Nat) : U64 (n / k) := Nat.le_trans (Nat.div_le_self n k) h
theorem vbs_le {l : List Nat} (h : ∀ n ∈ l, U64 n) : (vbs l).length ≤ 10 * l.length := by
  induction l with
  | nil => simp [vbs]
  | cons n l ih =>
    have h1 := vb_le10 (h n (by simp))
    have h2 := ih (fun k hk => h k (by simp [hk]))
    simp only [vbs, List.flatMap_cons, List.length_append, List.length_cons] at h2 ⊢
    omega
theorem vbs_snoc {l : List Nat} {k : Nat} (hk : k < l.length) : vbs (l.take (k + 1)) = vbs (l.take k) ++ vb l[k] := by
  unfold vbs; rw [List.take_succ_eq_append_getElem hk, List.flatMap_append]; simp only [List.flatMap_cons, List.flatMap_nil, List.append_nil]

/-- the number that bytes begin with, from place i on, n the number so far -/
def tk (i n : Nat) : List UInt8 → Option (Nat × Nat)
  | [] => none
  | x :: r => if 9 < i ∨ i = 9 ∧ 1 < x.toNat then none else if 128 ≤ x.toNat then tk (i + 1) (n + x.toNat % 128 * 128 ^ i) r
    else if x.toNat = 0 ∧ 0 < i then none else some (n + x.toNat * 128 ^ i, i + 1)
def take (l : List UInt8) : Option (Nat × Nat) := tk 0 0 l
theorem tk_drop {l : List UInt8} {k : Nat} (h : k < l.length) (i n : Nat) : tk i n (l.drop k) = if 9 < i ∨ i = 9 ∧ 1 < l[k].toNat then none else if 128 ≤ l[k].toNat then tk (i + 1) (n + l[k].toNat % 128 * 128 ^ i) (l.drop (k + 1))
    else if l[k].toNat = 0 ∧ 0 < i then none else some (n + l[k].toNat * 128 ^ i, i + 1) := by
  rw [List.drop_eq_getElem_cons h, tk]
theorem tk_end (n : Nat) : ∀ l, tk 10 n l = none
  | [] => rfl
  | x :: r => by rw [tk, if_pos (Or.inl (by omega))]

theorem pow9 : (128 : Nat) ^ 9 = 9223372036854775808 := by decide
theorem pow128_le {i : Nat} (h : i ≤ 9) : 128 ^ i ≤ 9223372036854775808 := by rw [← pow9]; exact Nat.pow_le_pow_right (by decide) h
theorem pow128_succ (i : Nat) : (128 : Nat) ^ (i + 1) = 128 ^ i * 128 := Nat.pow_succ ..
theorem two_pow7 (k : Nat) : (2 : Nat) ^ (7 * k) = 128 ^ k := by rw [Nat.pow_mul]
theorem andNot128 : ∀ j : Fin 256, bits .andNot .u8 (j.val : Int) 128 = ((j.val % 128 : Nat) : Int) := by decide +kernel

theorem part_bound {x k : Nat} (hk : k ≤ 9) (h9 : k = 9 → x ≤ 1) : x % 128 * 128 ^ k < 18446744073709551616 := by
  by_cases h : k = 9
  · subst h
    have := h9 rfl
    rw [pow9]
    have h2 : x % 128 ≤ 1 := by omega
    have := Nat.mul_le_mul_right 9223372036854775808 h2
    omega
  · have h1 : (128 : Nat) ^ (k + 1) ≤ 9223372036854775808 := pow128_le (by omega)
    rw [pow128_succ] at h1
    have h2 : x % 128 ≤ 127 := by omega
    have h3 := Nat.mul_le_mul_right (128 ^ k) h2
    omega

theorem or_part (x : UInt8) (n k : Nat) (hn : n < 128 ^ k) (hk : k ≤ 9) (h9 : k = 9 → x.toNat ≤ 1) :
    bits BinOp.or IntKind.u64 (n : Int) (IntKind.u64.wrap (IntKind.u64.wrap (bits BinOp.andNot IntKind.u8 (x.toNat : Int) 128) * 2 ^ (7 * k))) = ((n + x.toNat % 128 * 128 ^ k : Nat) : Int) := by
  have hx := x.toNat_lt
  have h1 := andNot128 ⟨x.toNat, by omega⟩
  simp only at h1
  have hb := part_bound hk h9
  have hnb : n < 18446744073709551616 := by have := pow128_le hk; omega
  rw [h1, IntKind.wrap_u64 ((x.toNat % 128 : Nat) : Int), show ((x.toNat % 128 : Nat) : Int) % 18446744073709551616 = ((x.toNat % 128 : Nat) : Int) from by omega]
  rw [show ((x.toNat % 128 : Nat) : Int) * 2 ^ (7 * k) = ((x.toNat % 128 * 128 ^ k : Nat) : Int) from by
    rw [← two_pow7]
    simp]
  rw [IntKind.wrap_u64, show ((x.toNat % 128 * 128 ^ k : Nat) : Int) % 18446744073709551616 = ((x.toNat % 128 * 128 ^ k : Nat) : Int) from by omega]
  rw [u64_or_nat _ _ hnb hb]
  congr 1
  rw [Nat.or_comm, Nat.add_comm, ← two_pow7, Nat.mul_comm]
  exact (Nat.two_pow_add_eq_or_of_lt (by rw [two_pow7]; exact hn) _).symm

theorem next_lt {x n k : Nat} (hn : n < 128 ^ k) : n + x % 128 * 128 ^ k < 128 ^ (k + 1) := by
  rw [pow128_succ]
  have h2 : x % 128 ≤ 127 := by omega
  have h3 := Nat.mul_le_mul_right (128 ^ k) h2
  omega

theorem div_pow (m i : Nat) : m % 128 * 128 ^ i + m / 128 * 128 ^ (i + 1) = m * 128 ^ i := by
  rw [pow128_succ, Nat.mul_comm (128 ^ i) 128, ← Nat.mul_assoc, ← Nat.add_mul]
  congr 1
  omega

theorem tk_vb (m : Nat) : ∀ (i n : Nat) (r : List UInt8), i ≤ 9 → (0 < m ∨ i = 0) → n + m * 128 ^ i ≤ 18446744073709551615 → tk i n (vb m ++ r) = some (n + m * 128 ^ i, i + (vb m).length) := by
  induction m using Nat.strongRecOn with
  | _ m ih =>
    intro i n r hi hm hb
    have hi9 : i = 9 → m ≤ 1 := by
      intro h
      subst h
      rw [pow9] at hb
      omega
    by_cases hs : m < 128
    · have hx : (UInt8.ofNat m).toNat = m := by rw [UInt8.toNat_ofNat']; omega
      rw [vb_small hs, List.singleton_append, tk, hx, if_neg (by omega), if_neg (by omega), if_neg (by omega)]
      rfl
    · have hx : (UInt8.ofNat (m % 128 + 128)).toNat = m % 128 + 128 := by rw [UInt8.toNat_ofNat']; omega
      have he : n + (m % 128 + 128) % 128 * 128 ^ i + m / 128 * 128 ^ (i + 1) = n + m * 128 ^ i := by
        rw [← div_pow m i, show (m % 128 + 128) % 128 = m % 128 from by omega]; omega
      rw [vb_step (by omega), List.cons_append, tk, hx, if_neg (by omega), if_pos (by omega)]
      rw [ih (m / 128) (by omega) (i + 1) _ r (by omega) (Or.inl (by omega)) (by rw [he]; exact hb), he]
      simp only [List.length_cons]
      rw [show i + 1 + (vb (m / 128)).length = i + ((vb (m / 128)).length + 1) from by omega]

/-- what is put is taken -/
theorem take_vb {n : Nat} (h : U64 n) (r : List UInt8) : take (vb n ++ r) = some (n, (vb n).length) := by
  have := tk_vb n 0 0 r (by omega) (Or.inr rfl) (by unfold U64 at h; simpa using h)
  simpa [take] using this

theorem tk_some : ∀ (l : List UInt8) (i n v e : Nat), i ≤ 9 → n < 128 ^ i → tk i n l = some (v, e) →
    ∃ m j, v = n + m * 128 ^ i ∧ e = i + j ∧ j ≤ l.length ∧ l.take j = vb m ∧ (0 < i → 0 < m) ∧ v ≤ 18446744073709551615 := by
  intro l
  induction l with
  | nil => intro i n v e _ _ h; simp [tk] at h
  | cons x r ih =>
    intro i n v e hi hn h
    rw [tk] at h
    by_cases ha : 9 < i ∨ i = 9 ∧ 1 < x.toNat
    · rw [if_pos ha] at h; cases h
    rw [if_neg ha] at h
    by_cases hb : 128 ≤ x.toNat
    · rw [if_pos hb] at h
      obtain ⟨m, j, hv, he, hj, ht, hm, hu⟩ := ih (i + 1) _ v e (by omega) (next_lt hn) h
      have hx := x.toNat_lt
      have hm0 := hm (by omega)
      have h1 : (x.toNat % 128 + 128 * m) % 128 = x.toNat % 128 := by omega
      have h2 : (x.toNat % 128 + 128 * m) / 128 = m := by omega
      refine ⟨x.toNat % 128 + 128 * m, j + 1, ?_, by omega, by simp; omega, ?_, fun _ => by omega, hu⟩
      · rw [hv, ← div_pow (x.toNat % 128 + 128 * m) i, h1, h2]; omega
      · rw [List.take_succ_cons, ht, vb_step (n := x.toNat % 128 + 128 * m) (by omega), h1, h2]
        congr 1
        apply UInt8.toNat_inj.1
        rw [UInt8.toNat_ofNat']
        omega
    rw [if_neg hb] at h
    by_cases hd : x.toNat = 0 ∧ 0 < i
    · rw [if_pos hd] at h; cases h
    rw [if_neg hd] at h
    simp only [Option.some.injEq, Prod.mk.injEq] at h
    obtain ⟨rfl, rfl⟩ := h
    refine ⟨x.toNat, 1, rfl, rfl, by simp, ?_, fun _ => by omega, ?_⟩
    · rw [vb_small (by omega)]
      simp
    · have h1 := part_bound (x := x.toNat) (k := i) hi (fun h => by omega)
      have h2 := next_lt (x := x.toNat) hn
      by_cases h9 : i = 9
      · subst h9
        rw [pow9] at hn h1 ⊢
        have : x.toNat ≤ 1 := by omega
        have := Nat.mul_le_mul_right 9223372036854775808 this
        omega
      · have h3 : (128 : Nat) ^ (i + 1) ≤ 9223372036854775808 := pow128_le (by omega)
        rw [show x.toNat % 128 = x.toNat from by omega] at h2
        omega

/-- what is taken has just those bytes -/
theorem take_some {l : List UInt8} {v e : Nat} (h : take l = some (v, e)) : U64 v ∧ e ≤ l.length ∧ l.take e = vb v := by
  obtain ⟨m, j, hv, he, hj, ht, _, hu⟩ := tk_some l 0 0 v e (by omega) (by simp) h
  simp at hv
  subst hv
  exact ⟨hu, by omega, by rw [show e = j from by omega]; exact ht⟩
theorem take_len {l : List UInt8} {v e : Nat} (h : take l = some (v, e)) : e = (vb v).length := by
  obtain ⟨_, h1, h2⟩ := take_some h
  rw [← h2, List.length_take]
  omega

theorem byte_ref (k : Nat) : (k : Int) % 128 + 128 = ((UInt8.ofNat (k % 128 + 128)).toNat : Int) := by
  rw [UInt8.toNat_ofNat']; omega
theorem byte_ref0 {k : Nat} (h : k < 128) : ((k : Int) % 128) = ((UInt8.ofNat k).toNat : Int) := by
  rw [UInt8.toNat_ofNat']; omega
theorem wrap_div {k : Nat} (h : U64 k) (j : Nat) : IntKind.u64.wrap ((k : Int) / (j : Int)) = (k : Int) / (j : Int) := by
  have h1 := h.div j
  unfold U64 at h1
  rw [show (k : Int) / (j : Int) = ((k / j : Nat) : Int) from by simp]
  generalize k / j = q at h1 ⊢
  rw [IntKind.wrap_u64]
  omega
theorem wrap_u64_of {k : Nat} (h : U64 k) : IntKind.u64.wrap (k : Int) = (k : Int) := by
  unfold U64 at h
  rw [IntKind.wrap_u64]
  omega

/-- the number that groups tell -/
def val : List UInt8 → Nat
  | [] => 0
  | x :: r => x.toNat % 128 + 128 * val r
theorem val_vb (n : Nat) : val (vb n) = n := by
  induction n using Nat.strongRecOn with
  | _ n ih =>
    by_cases h : n < 128
    · rw [vb_small h, val, val, UInt8.toNat_ofNat']; omega
    · rw [vb_step (by omega), val, ih (n / 128) (by omega), UInt8.toNat_ofNat']; omega
theorem vb_high (n : Nat) : ∀ j (h : j < (vb n).length), 128 ≤ (vb n)[j].toNat ↔ j + 1 < (vb n).length := by
  induction n using Nat.strongRecOn with
  | _ n ih =>
    intro j hj
    by_cases h : n < 128
    · have e := vb_small h
      simp only [e] at hj ⊢
      simp at hj
      subst hj
      simp only [List.getElem_cons_zero, UInt8.toNat_ofNat', List.length_cons, List.length_nil]
      omega
    · have e := vb_step (n := n) (by omega)
      simp only [e] at hj ⊢
      have hp := vb_pos (n / 128)
      cases j with
      | zero =>
        simp only [List.getElem_cons_zero, UInt8.toNat_ofNat', List.length_cons]
        omega
      | succ j =>
        simp only [List.getElem_cons_succ, List.length_cons] at hj ⊢
        rw [ih (n / 128) (by omega) j (by omega)]
        omega
theorem take_last {l : List UInt8} {v e : Nat} (h : take l = some (v, e)) : 0 < e ∧ e ≤ 10 ∧ ∀ j (hj : j < l.length), j < e → (128 ≤ l[j].toNat ↔ j + 1 < e) := by
  obtain ⟨hu, he, ht⟩ := take_some h
  have hl := take_len h
  refine ⟨by rw [hl]; exact vb_pos v, by rw [hl]; exact vb_le10 hu, fun j hj hje => ?_⟩
  have h1 := vb_high v j (by omega)
  have h2 : (vb v)[j]'(by omega) = l[j] := by
    simp only [← ht, List.getElem_take]
  rw [h2] at h1
  omega
theorem take_ref {l : List UInt8} {k n : Nat} (hk : k < l.length) (hall : ∀ j (h : j < l.length), j < k → 128 ≤ l[j].toNat) (hlast : l[k].toNat < 128)
    (hn : n = val (l.take (k + 1)) % 18446744073709551616) : (vb n = l.take (k + 1) → take l = some (n, k + 1)) ∧ (vb n ≠ l.take (k + 1) → take l = none) := by
  refine ⟨fun h => ?_, fun h => ?_⟩
  · have h1 := take_vb (n := n) (by unfold U64; omega) (l.drop (k + 1))
    rw [h, List.take_append_drop, List.length_take] at h1
    rw [h1, Nat.min_eq_left (by omega)]
  · cases ht : take l with
    | none => rfl
    | some p =>
      obtain ⟨v, e⟩ := p
      obtain ⟨h0, h10, hh⟩ := take_last ht
      obtain ⟨hu, he, hv⟩ := take_some ht
      have he2 : e = k + 1 := by
        rcases Nat.lt_trichotomy e (k + 1) with h1 | h1 | h1
        · have h2 := hh (e - 1) (by omega) (by omega)
          have h3 := hall (e - 1) (by omega) (by omega)
          have := h2.1 h3
          omega
        · exact h1
        · have h2 := (hh k hk (by omega)).2 (by omega)
          omega
      subst he2
      rw [hv, val_vb] at hn
      unfold U64 at hu
      have : n = v := by omega
      exact absurd (by rw [hv, this]) h
theorem take_ref_none {l : List UInt8} (hall : ∀ j (h : j < l.length), j < 10 → 128 ≤ l[j].toNat) : take l = none := by
  cases ht : take l with
  | none => rfl
  | some p =>
    obtain ⟨v, e⟩ := p
    obtain ⟨h0, h10, hh⟩ := take_last ht
    obtain ⟨hu, he, hv⟩ := take_some ht
    have h2 := (hh (e - 1) (by omega) (by omega)).1 (hall (e - 1) (by omega) (by omega))
    omega
theorem val_drop {l : List UInt8} {i : Nat} (h : i < l.length) : val (l.drop i) = l[i].toNat % 128 + 128 * val (l.drop (i + 1)) := by
  rw [List.drop_eq_getElem_cons h, val]
theorem val_step {n v x : Nat} (h : n = v % 18446744073709551616) : IntKind.u64.wrap (IntKind.u64.wrap ((n : Int) * 128) + (x : Int) % 128) = (((x % 128 + 128 * v) % 18446744073709551616 : Nat) : Int) := by
  rw [IntKind.wrap_u64, IntKind.wrap_u64]; omega
theorem val_take_drop {l : List UInt8} {i k : Nat} (hi : i < k) (h : i < l.length) : val ((l.take k).drop i) = l[i].toNat % 128 + 128 * val ((l.take k).drop (i + 1)) := by
  rw [val_drop (by simp; omega)]
  simp
theorem val_all {l : List UInt8} {k : Nat} : val ((l.take k).drop k) = 0 := by
  rw [List.drop_eq_nil_of_le (by simp; omega), val]
end Go.Proofs.YtabnndjdkjkciaaGreatDoor

namespace Go.Proofs.YtabnndjdkjkciaaGreatDoor
open Go.RowKit

theorem u8_info : (Tryz.prog.info? 5).map (fun i => (i.zero, i.size, i.bytes)) = some (some (.int .u8 0), 1, 1) := by kernel_rfl

/-- new bytes -/
def GivesB (w0 : World) (l : List UInt8) (e : Ending) (w' : World) : Prop :=
  ∃ A c m, e = .returned (.slice A m.length c) ∧ Hid (m = l) ∧ OwnB w' w0.heap.size 5 A c m ∧ Below w0.heap.size w0 w'

set_option maxRecDepth 100000 in
set_option maxHeartbeats 400000 in
theorem put_any (A : Option Addr) (c : Nat) (l : List UInt8) (n : Nat) (hn : U64 n) (w : World) (base : Nat) (hbase : base ≤ w.heap.size) (hl : l.length ≤ 1000000000)
   (hown : OwnB w base 5 A c l) :
    Calls Tryz.prog 120 #[.slice A l.length c, .int .u64 n] w fun e w' => ∃ A' c' m, e = .returned (.slice A' m.length c') ∧ Hid (m = l ++ vb n) ∧ OwnB w' base 5 A' c' m ∧ Below base w w' := by
  go_enter Tryz.func120, Tryz.ntmps120
  go_wp2
  go_loopw [0, 1] (fun v x wr => ∃ (k : Nat) (B : Option Addr) (d : Nat) (m : List UInt8), x = .int .u64 k ∧ v = .slice B m.length d ∧ Hid (l ++ vb n = m ++ vb k) ∧ Hid (U64 k) ∧ OwnB wr base 5 B d m ∧ Below base w wr) (fun v x w => (intOf x).toNat)
  case atStart => exact ⟨n, A, c, l, rfl, rfl, rfl, hn, hown, Below.refl _ _⟩
  case round =>
    obtain ⟨k, B, d, m, rfl, rfl, hm, hk, hownr, hbr⟩ := hrel
    have hml : m.length ≤ 1000000010 := by
      have h1 := congrArg List.length hm.out
      have h2 := vb_le10 hn
      simp only [List.length_append] at h1
      omega
    clear hown
    by_cases h128 : 128 ≤ k
    · have hs := Lib.hid (vb_step h128)
      go_wp2_with (at_builtin; go_must (refine wpl_byte 29 5 Tryz.underlying29 u8_info rfl _ _ rfl base B d m _ (UInt8.ofNat (k % 128 + 128)) (byte_more k) rfl hownr rfl (by omega) (by have := hbr.size; omega) ?_; intro A1 c1 m1 w1 hm1 ho1 _ _ hb1))
      go_roundw
      case rel => exact ⟨k / 128, A1, c1, m1, rfl, rfl, by rw [hm1.out, hm.out, hs.out]; show _ = _; simp, hk.out.div 128, ho1, hbr.trans hb1⟩
      case measure => simp [intOf]; omega
    · have hs := Lib.hid (vb_small (n := k) (by omega))
      go_wp2_with (at_builtin; go_must (refine wpl_byte 29 5 Tryz.underlying29 u8_info rfl _ _ rfl base B d m _ (UInt8.ofNat k) (byte_last (by omega)) rfl hownr rfl (by omega) (by have := hbr.size; omega) ?_; intro A1 c1 m1 w1 hm1 ho1 _ _ hb1))
      go_ret
      exact ⟨A1, c1, m1, rfl, by rw [hm1.out, hm.out, hs.out]; rfl, ho1, hbr.trans hb1⟩

set_option maxRecDepth 100000 in
set_option maxHeartbeats 400000 in
theorem clone_any (A : Option Addr) (c : Nat) (l : List UInt8) (w : World) (hl : l.length ≤ 1000000000) (hs : SlB w A c l) :
    Calls Tryz.prog 119 #[.slice A l.length c] w (GivesB w l) := by
  have hq := fun (w : World) (A : Option Addr) (n c : Nat) => Lib.run_eql_slice_nil (P := Tryz.prog) w 29 5 A n c 0 0 Tryz.underlying29
  rcases A with _ | ad
  · obtain ⟨rfl, rfl⟩ := hs.of_none
    go_enter Tryz.func119, Tryz.ntmps119
    go_wp2
    go_ret
    exact ⟨none, 0, [], rfl, rfl, Own.none_ _ _ _ _, Below.refl _ _⟩
  · go_enter Tryz.func119, Tryz.ntmps119
    go_wp2_with (at_builtin; go_must (refine wpl_bytes 29 5 Tryz.underlying29 u8_info rfl _ _ rfl w.heap.size (some ⟨w.heap.size, 0, none⟩) 0 [] rfl (Own.lit 1 (Nat.le_refl _)) (some ad) c l rfl (hs.below ((Below.refl _ _).alloc (Nat.le_refl _) _)) (by simp; omega) (by simp) ?_; intro A1 c1 m1 w1 hm1 ho1 _ _ hb1))
    go_ret
    exact ⟨A1, c1, m1, rfl, hm1, ho1, ((Below.refl _ _).alloc (Nat.le_refl _) _).trans hb1⟩

abbrev nv (n : Nat) : Value := .int .u64 (n : Int)
/-- numbers of 64 bits that can be read -/
abbrev SlN (w : World) (A : Option Addr) (c : Nat) (l : List Nat) : Prop := Sl w 1 A l.length c (l.map nv)

set_option maxRecDepth 100000 in
set_option maxHeartbeats 400000 in
theorem Put_any (A : Option Addr) (c : Nat) (l : List UInt8) (A2 : Option Addr) (c2 : Nat) (ns : List Nat) (w : World) (hl : l.length ≤ 100000000) (hs : SlB w A c l) (hn : SlN w A2 c2 ns) (hns : ns.length ≤ 1000000) (h64 : ∀ n ∈ ns, U64 n) :
    Calls Tryz.prog 51 #[.slice A l.length c, .slice A2 ns.length c2] w (GivesB w (l ++ vbs ns)) := by
  have hmax := hn.len_le
  unfold maxLen at hmax
  go_enter Tryz.func51, Tryz.ntmps51
  go_wp2_with fail
  refine (clone_any A c l w (by omega) hs).mono ?_
  rintro e w1 ⟨A1, c1, m1, rfl, hm1, ho1, hb1⟩
  have hn1 := hn.below hb1
  have hml : m1.length ≤ 100000000 := by rw [hm1.out]; exact hl
  go_wp2_with fail
  go_loopw [5, 12] (fun v x wr => ∃ (k : Nat) (B : Option Addr) (d : Nat) (m : List UInt8), k ≤ ns.length ∧ x = .int .i64 k ∧ v = .slice B m.length d ∧ Hid (m = l ++ vbs (ns.take k)) ∧ OwnB wr w.heap.size 5 B d m ∧ Below w.heap.size w wr) (fun v x w => ns.length - (intOf x).toNat)
  case atStart => exact ⟨0, A1, c1, m1, Nat.zero_le _, rfl, rfl, by rw [hm1.out]; show _ = _; simp [vbs], ho1, hb1⟩
  case round =>
    obtain ⟨k, B, d, m, hk, rfl, rfl, hm, hor, hbr⟩ := hrel
    by_cases hlt : k < ns.length
    · obtain ⟨ad, rfl, hc⟩ := (hn.below hbr).at1 hlt
      have hml : m.length ≤ 200000000 := by
        have h2 := vbs_le (l := ns.take k) (fun n hn => h64 n (List.mem_of_mem_take hn))
        have h3 := congrArg List.length hm.out
        simp only [List.length_append, List.length_take] at h3 h2
        omega
      go_wp2_with fail
      refine (put_any B d m ns[k] (h64 _ (List.getElem_mem hlt)) _ w.heap.size hbr.size (by omega) hor).mono ?_
      rintro e w2 ⟨A2, c2, m2, rfl, hm2, ho2, hb2⟩
      go_wp2_with fail
      go_roundw
      case rel => exact ⟨k + 1, A2, c2, m2, hlt, by go_num, rfl, by rw [hm2.out, hm.out, vbs_snoc hlt]; show _ = _; simp, ho2, hbr.trans hb2⟩
      case measure => simp [intOf]; omega
    · go_wp2_with fail
      go_ret
      exact ⟨B, d, m, rfl, by rw [hm.out, List.take_of_length_le (by omega)]; rfl, hor, hbr⟩

set_option maxRecDepth 100000 in
set_option maxHeartbeats 400000 in
theorem PutText_any (A : Option Addr) (c : Nat) (l : List UInt8) (A2 : Option Addr) (c2 : Nat) (t : List UInt8) (w : World) (hl : l.length ≤ 10000000) (hs : SlB w A c l) (hn : SlB w A2 c2 t) (hns : t.length ≤ 10000000) :
    Calls Tryz.prog 124 #[.slice A l.length c, .slice A2 t.length c2] w (GivesB w (l ++ (vb t.length ++ t))) := by
  have hu : U64 t.length := by unfold U64; omega
  go_enter Tryz.func124, Tryz.ntmps124
  go_wp2_with fail
  have hs0 := hs.below (below_new w (Obj.cells #[Value.int IntKind.u64 t.length] 124))
  have hn0 := hn.below (below_new w (Obj.cells #[Value.int IntKind.u64 t.length] 124))
  refine (Put_any A c l (some ⟨w.heap.size, 0, none⟩) 1 [t.length] _ (by omega) hs0 (Sl.lits w [nv t.length] 124 (by simp [maxLen])) (by simp) (by simpa using hu)).mono ?_
  rintro e w1 ⟨A1, c1, m1, rfl, hm1, ho1, hb1⟩
  have hb1' := (below_new w (Obj.cells #[Value.int IntKind.u64 t.length] 124)).trans (hb1.mono (size_new _ _))
  have hml : m1.length ≤ 10000010 := by
    rw [hm1.out]
    have := vb_le10 hu
    simp [vbs]
    omega
  go_wp2_with (at_builtin; go_must (refine wpl_bytes 29 5 Tryz.underlying29 u8_info rfl _ _ rfl w.heap.size A1 c1 m1 rfl (ho1.more (size_new _ _)) A2 c2 t rfl (hn0.below hb1) (by omega) hb1'.size ?_; intro A3 c3 m3 w3 hm3 ho3 _ _ hb3))
  go_ret
  exact ⟨A3, c3, m3, rfl, by rw [hm3.out, hm1.out]; show _ = _; simp [vbs], ho3, hb1'.trans hb3⟩

/-- what Take answers -/
def TakeOut (o : Option (Nat × Nat)) (w : World) (e : Ending) (w' : World) : Prop :=
  w = w' ∧ ((o = none ∧ e = .returned (.tuple #[.int .u64 0, .int .i64 0, .iface 68 (.int .i64 2)])) ∨ ∃ n k : Nat, o = some (n, k) ∧ e = .returned (.tuple #[.int .u64 n, .int .i64 k, .nilIface]))

set_option maxRecDepth 100000 in
set_option maxHeartbeats 1000000 in
theorem Take_any (A : Option Addr) (c : Nat) (l : List UInt8) (w : World) (hs : SlB w A c l) :
    Calls Tryz.prog 128 #[.slice A l.length c] w (TakeOut (take l) w) := by
  have hc1 := hs.2.1
  have hc2 := hs.2.2.1
  unfold maxLen at hc2
  by_cases hL : 10 < l.length
  all_goals
    go_enter Tryz.func128, Tryz.ntmps128
    go_wp2_with fail
    go_loop [3, 5, 15] (fun _ v x => ∃ (k n : Nat), k ≤ l.length ∧ k ≤ 10 ∧ x = .int .i64 k ∧ v = .int .u64 n ∧ Hid (n < 128 ^ k) ∧ Hid (take l = tk k n (l.drop k))) (fun _ v x => l.length - (intOf x).toNat)
    case atStart => exact ⟨0, 0, Nat.zero_le _, by omega, rfl, rfl, (show _ < _ by simp), rfl⟩
    case round =>
      obtain ⟨k, n, hk, hk10, rfl, rfl, hn, ht⟩ := hrel
      by_cases hlt : k < l.length ∧ k < 10
      · obtain ⟨hlt, hlt10⟩ := hlt
        obtain ⟨ad, rfl, hc⟩ := hs.at1 hlt
        have htd := Lib.hid (tk_drop hlt k n)
        generalize l[k] = x at *
        by_cases ha : k = 9 ∧ 1 < x.toNat
        · obtain ⟨hk9, ha⟩ := ha
          have hkb : ((k : Int) == 9) = true := by simp; omega
          have Hk9 := Lib.hid hk9
          clear hk9
          go_wp2_with fail
          go_ret3
          exact ⟨rfl, .inl ⟨by rw [ht.out, htd.out, if_pos (Or.inr ⟨Hk9.out, ha⟩)], rfl⟩⟩
        by_cases hb : 128 ≤ x.toNat
        · have hk9 : ¬ k = 9 := by omega
          go_wp2_with fail
          go_round
          case rel => exact ⟨k + 1, n + x.toNat % 128 * 128 ^ k, by omega, by omega, by go_num, congrArg (Value.int .u64) (or_part x n k hn.out (by omega) (fun h => absurd h hk9)), (show _ < _ from next_lt hn.out), (show _ = _ by rw [ht.out, htd.out, if_neg (by omega), if_pos hb])⟩
          case measure => simp [intOf]; omega
        by_cases hd : x.toNat = 0 ∧ 0 < k
        · obtain ⟨hd0, hdk⟩ := hd
          go_wp2_with fail
          all_goals
            go_ret3
            exact ⟨rfl, .inl ⟨by rw [ht.out, htd.out, if_neg (by omega), if_neg hb, if_pos ⟨hd0, hdk⟩], rfl⟩⟩
        · have hx : x.toNat % 128 = x.toNat := by omega
          have hv := or_part x n k hn.out (by omega) (by omega)
          rw [hx] at hv
          have Hx := Lib.hid hx
          have Hv := Lib.hid hv
          have Hd := Lib.hid hd
          have ht' : Hid (take l = some (n + x.toNat * 128 ^ k, k + 1)) := (show _ = _ by rw [ht.out, htd.out, if_neg (by omega), if_neg hb, if_neg hd])
          clear hx hv hd
          rcases Decidable.em (x.toNat = 0) with h0 | h0
          · have hb0 : ((x.toNat : Int) == 0) = true := by simp; omega
            have hk0 : ¬ (0 < k) := fun h => Hd.out ⟨h0, h⟩
            have H0 := Lib.hid h0
            clear h0
            have hk9 : ((k : Int) == 9) = false := by simp; omega
            go_wp2_with fail
            go_ret3
            refine ⟨rfl, .inr ⟨n + x.toNat * 128 ^ k, k + 1, ht'.out, ?_⟩⟩
            rw [← Hv.out]
            rfl
          · have hb0 : ((x.toNat : Int) == 0) = false := by simp; omega
            go_wp2_with fail
            all_goals
              go_ret3
              refine ⟨rfl, .inr ⟨n + x.toNat * 128 ^ k, k + 1, ht'.out, ?_⟩⟩
              rw [← Hv.out]
              first | rfl | (obtain rfl : k = 9 := (by omega); rfl)
      · first | (have hge : 10 ≤ k := by omega) | (have hge : l.length ≤ k := by omega)
        go_wp2_with fail
        go_ret3
        exact ⟨rfl, .inl ⟨by rw [ht.out]; first | (rw [show k = 10 from by omega]; exact tk_end _ _) | (rw [List.drop_eq_nil_of_le (by omega)]; rfl), rfl⟩⟩

end Go.Proofs.YtabnndjdkjkciaaGreatDoor
