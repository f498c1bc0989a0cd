/- WHAT IT HOLDS: two owners and their clocks, plainly (no program): what stays true through any asks. | WHAT IT HOLDS: files by names, and disks, plainly (no program). | WHAT IT HOLDS: a map from names to slices of bytes in memory: looked up, written, struck, counted. | WHAT IT HOLDS: how many bits and bytes a number has, plainly (no program). | WHAT IT HOLDS: Size, and the document's bytes of texts and lists, walked. | WHAT IT HOLDS: words for a reader in memory, and what its methods do, plainly. | WHAT IT HOLDS: cells, plainly (no program): which there are, which may become which. | WHAT IT HOLDS: the bytes of a run of cells, plainly (no program). | WHAT IT HOLDS: the document's bytes of a run, plainly, are the same (no program). | WHAT IT HOLDS: append as a step of a region that draws. -/
import Derived.Test.YtddmfoldnlafaaaGreatDoorRegisterPlaysG04
import Derived.Test.YtddmfoldnlafaaaGreatDoorRegisterPlaysG05
import Derived.Maps.Own
import Derived.Maps.Views
import Derived.Sort.KeysCollected
import Derived.Test.YtddmfoldnlafaaaGreatDoorRegisterPlaysG01
import Derived.Maps.RangeWalk
import Derived.StringKeys
import Derived.Test.YtddmfoldnlafaaaGreatDoorRegisterPlaysG02
import Derived.Test.YtddmfoldnlafaaaGreatDoorShelf
import Derived.Deep.RegionHeld3
import Derived.Deep.DrawnRows
import Derived.Deep.DeepCutAuto
namespace Go.Proofs.YtddmfoldnlafaaaGreatDoor
open Go.RowKit

abbrev i64 {H : Type} (n : Int) : DataW H := .lit (.int .i64 n)
theorem give_ok {o e u by_ : Int} (h : (give o e u by_).2.2.2 = 0) : give o e u by_ = (0, e, 0, 0) ∧ o = by_ ∧ chk o e u = 0 ∧ ownb by_ = true := by
  unfold give at h ⊢
  by_cases h1 : chk o e u ≠ 0
  · rw [if_pos h1] at h; exact absurd h h1
  · rw [if_neg h1] at h ⊢
    cases h2 : ownb by_
    · rw [if_pos h2] at h; simp at h
    · rw [if_neg (by simp [h2])] at h ⊢
      by_cases h3 : o ≠ by_
      · rw [if_pos h3] at h; simp at h
      · rw [if_neg h3]
        exact ⟨rfl, by omega, by omega, rfl⟩
theorem inb_list {a b : Int} (h1 : 0 ≤ a ∧ a ≤ 1099511627776) (h2 : 0 ≤ b ∧ b ≤ 1099511627776) : inb [a, b] = true := by
  simp [inb]; omega
theorem chk_of {o e u : Int} (h1 : 1 ≤ o ∧ o ≤ 2) (h2 : 0 ≤ e ∧ e ≤ 1099511627776) (h3 : 0 ≤ u ∧ u ≤ 1099511627776) : chk o e u = 0 := by
  unfold chk
  rw [if_neg, if_neg (by omega)]
  rw [inb_list h2 h3, ownb_of (by omega) (by omega)]
  simp
/-- what is granted -/
theorem grant_cases {o e u tw now span bound : Int} (hc : chk o e u = 0) (h : (grant o e u tw now span bound).2.2.2 = 0) :
    (1 ≤ tw ∧ tw ≤ 2) ∧ chk (grant o e u tw now span bound).1 (grant o e u tw now span bound).2.1 (grant o e u tw now span bound).2.2.1 = 0 ∧ (grant o e u tw now span bound).1 = tw ∧
    ((o = tw ∧ (grant o e u tw now span bound).2.1 = e) ∨ (o ≠ tw ∧ (o = 0 ∨ u + bound ≤ now) ∧ (grant o e u tw now span bound).2.1 = e + 1)) := by
  have hk := chk_ok hc
  unfold grant at h ⊢
  rw [if_neg (by omega)] at h ⊢
  by_cases h1 : ownb tw = false ∨ inb [now, span, bound] = false
  · rw [if_pos h1] at h; simp at h
  rw [if_neg h1] at h ⊢
  have hto : ownb tw = true := by cases h4 : ownb tw <;> simp_all
  have hto2 : 1 ≤ tw ∧ tw ≤ 2 := by unfold ownb at hto; exact of_decide_eq_true hto
  have hin : inb [now, span, bound] = true := by cases h4 : inb [now, span, bound] <;> simp_all
  have hin3 := inb_three hin
  by_cases h2 : o ≠ tw ∧ freeb o e u now bound = false
  · rw [if_pos h2] at h; simp at h
  rw [if_neg h2] at h ⊢
  by_cases h3 : o ≠ tw
  · rw [if_pos h3] at h ⊢
    have hf : freeb o e u now bound = true := by cases h4 : freeb o e u now bound <;> simp_all
    cases h5 : inb [e + 1, now + span]
    · rw [h5] at h; simp at h
    · have h6 := inb_two h5
      simp only [if_true]
      refine ⟨hto2, chk_of hto2 h6.1 h6.2, trivial, Or.inr ⟨h3, ?_, trivial⟩⟩
      unfold freeb at hf
      simp at hf
      omega
  · rw [if_neg h3] at h ⊢
    cases h5 : inb [e, now + span]
    · rw [h5] at h; simp at h
    · have h6 := inb_two h5
      simp only [if_true]
      exact ⟨hto2, chk_of hto2 h6.1 (by omega), trivial, Or.inl ⟨by omega, trivial⟩⟩

end Go.Proofs.YtddmfoldnlafaaaGreatDoor

namespace Go.Proofs.YtddmfoldnlafaaaGreatDoor

abbrev Bs := List UInt8

/-! ### the order of names -/
theorem bb_lit (a b : Bs) : bytesBefore a b = (Lit.string a).before (.string b) := rfl
theorem bb_irrefl (a : Bs) : bytesBefore a a = false := by
  cases h : bytesBefore a a
  · rfl
  · exact absurd h (by rw [bb_lit]; exact Bool.not_eq_true _ ▸ WideShapes.before_irrefl _)
theorem bb_trans {a b c : Bs} (h : bytesBefore a b = true) (k : bytesBefore b c = true) : bytesBefore a c = true := WideShapes.before_trans (a := .string a) (b := .string b) (c := .string c) h k
theorem bb_total : ∀ {a b : Bs}, a ≠ b → bytesBefore a b = true ∨ bytesBefore b a = true
  | [], [], h => absurd rfl h
  | [], _ :: _, _ => .inl rfl
  | _ :: _, [], _ => .inr rfl
  | x :: r, y :: s, h => by
    unfold bytesBefore
    by_cases hxy : x = y
    · subst hxy
      have hrs : r ≠ s := fun e => h (by rw [e])
      rcases bb_total hrs with h1 | h1
      · left; simp [h1]
      · right; simp [h1]
    · rcases Nat.lt_or_gt_of_ne (fun e => hxy (UInt8.toNat_inj.1 e)) with h1 | h1
      · left; simp [UInt8.lt_iff_toNat_lt, h1]
      · right; simp [UInt8.lt_iff_toNat_lt, h1]

/-! ### files by names: rising, no name twice -/
section
variable {α β : Type}
def gdel (k : Bs) (l : List (Bs × α)) : List (Bs × α) := l.filter fun p => !(p.1 == k)
def gins (x : Bs × α) : List (Bs × α) → List (Bs × α)
  | [] => [x]
  | y :: r => if bytesBefore x.1 y.1 = true then x :: y :: r else y :: gins x r
def gput (k : Bs) (v : α) (l : List (Bs × α)) : List (Bs × α) := gins (k, v) (gdel k l)
def gget (k : Bs) (l : List (Bs × α)) : Option α := (l.find? fun p => p.1 == k).map (·.2)
def gmap (f : α → β) (l : List (Bs × α)) : List (Bs × β) := l.map fun p => (p.1, f p.2)
theorem gdel_map (f : α → β) (k : Bs) (l : List (Bs × α)) : gdel k (gmap f l) = gmap f (gdel k l) := by
  unfold gdel gmap
  rw [List.filter_map]
  rfl
theorem gins_map (f : α → β) (x : Bs × α) : ∀ l : List (Bs × α), gins (x.1, f x.2) (gmap f l) = gmap f (gins x l)
  | [] => rfl
  | y :: r => by
    have ih := gins_map f x r
    show (if bytesBefore x.1 y.1 = true then (x.1, f x.2) :: (y.1, f y.2) :: gmap f r else (y.1, f y.2) :: gins (x.1, f x.2) (gmap f r)) = gmap f (if bytesBefore x.1 y.1 = true then x :: y :: r else y :: gins x r)
    split
    · rfl
    · rw [ih]; rfl
theorem gput_map (f : α → β) (k : Bs) (v : α) (l : List (Bs × α)) : gput k (f v) (gmap f l) = gmap f (gput k v l) := by
  unfold gput
  rw [gdel_map]
  exact gins_map f (k, v) _
theorem gget_map (f : α → β) (k : Bs) (l : List (Bs × α)) : gget k (gmap f l) = (gget k l).map f := by
  unfold gget gmap
  induction l with
  | nil => rfl
  | cons y r ih =>
    simp only [List.map_cons, List.find?_cons]
    cases y.1 == k
    · simpa using ih
    · rfl
theorem gmem_ins {x y : Bs × α} : ∀ {l : List (Bs × α)}, y ∈ gins x l ↔ y = x ∨ y ∈ l
  | [] => by simp [gins]
  | z :: r => by
    unfold gins
    split
    · simp
    · simp only [List.mem_cons, gmem_ins (l := r)]
      constructor
      · rintro (h | h | h) <;> simp [h]
      · rintro (h | h | h) <;> simp [h]
theorem gmem_del {k : Bs} {y : Bs × α} {l : List (Bs × α)} : y ∈ gdel k l ↔ y ∈ l ∧ y.1 ≠ k := by
  unfold gdel
  rw [List.mem_filter]
  simp
theorem gmem_put {k : Bs} {v : α} {y : Bs × α} {l : List (Bs × α)} : y ∈ gput k v l ↔ y = (k, v) ∨ (y ∈ l ∧ y.1 ≠ k) := by
  unfold gput
  rw [gmem_ins, gmem_del]
/-- rising by names -/
def Ris (l : List (Bs × α)) : Prop := l.Pairwise fun p q => bytesBefore p.1 q.1 = true
theorem Ris.nil : Ris ([] : List (Bs × α)) := List.Pairwise.nil
theorem Ris.del {l : List (Bs × α)} (h : Ris l) (k : Bs) : Ris (gdel k l) := h.filter _
theorem Ris.ins {x : Bs × α} : ∀ {l : List (Bs × α)}, Ris l → (∀ p ∈ l, p.1 ≠ x.1) → Ris (gins x l)
  | [], _, _ => List.pairwise_singleton _ _
  | y :: r, h, hn => by
    obtain ⟨h1, h2⟩ := List.pairwise_cons.1 h
    unfold gins
    split
    · rename_i hb
      refine List.pairwise_cons.2 ⟨fun q hq => ?_, h⟩
      rcases List.mem_cons.1 hq with rfl | hq
      · exact hb
      · exact bb_trans hb (h1 q hq)
    · rename_i hb
      have hyx : bytesBefore y.1 x.1 = true := by
        rcases bb_total (hn y (.head _)) with h' | h'
        · exact h'
        · exact absurd h' hb
      refine List.pairwise_cons.2 ⟨fun q hq => ?_, Ris.ins h2 fun p hp => hn p (.tail _ hp)⟩
      rcases gmem_ins.1 hq with rfl | hq
      · exact hyx
      · exact h1 q hq
theorem Ris.put {l : List (Bs × α)} (h : Ris l) (k : Bs) (v : α) : Ris (gput k v l) := (h.del k).ins fun p hp => (gmem_del.1 hp).2
theorem Ris.map {l : List (Bs × α)} (h : Ris l) (f : α → β) : Ris (gmap f l) := List.Pairwise.map _ (fun _ _ h => h) h
theorem gget_mem {k : Bs} {v : α} {l : List (Bs × α)} (h : gget k l = some v) : (k, v) ∈ l := by
  unfold gget at h
  cases hq : l.find? (fun p => p.1 == k) with
  | none => rw [hq] at h; cases h
  | some p =>
    rw [hq] at h
    have hm := List.mem_of_find?_eq_some hq
    have hk := List.find?_some hq
    obtain ⟨a, b⟩ := p
    simp only [beq_iff_eq, Option.map_some, Option.some.injEq] at hk h
    subst hk h
    exact hm
theorem gget_none {k : Bs} {l : List (Bs × α)} : gget k l = none ↔ ∀ p ∈ l, p.1 ≠ k := by
  unfold gget
  rw [Option.map_eq_none_iff, List.find?_eq_none]
  simp
theorem gget_of_mem {k : Bs} {v : α} {l : List (Bs × α)} (hr : Ris l) (h : (k, v) ∈ l) : gget k l = some v := by
  induction l with
  | nil => cases h
  | cons y r ih =>
    obtain ⟨h1, h2⟩ := List.pairwise_cons.1 hr
    unfold gget
    rw [List.find?_cons]
    rcases List.mem_cons.1 h with rfl | h
    · simp
    · have hy : (y.1 == k) = false := by
        rw [beq_eq_false_iff_ne]
        rintro rfl
        have := h1 _ h
        rw [bb_irrefl] at this
        cases this
      rw [hy]
      exact ih h2 h
theorem glen_ins (x : Bs × α) : ∀ l : List (Bs × α), (gins x l).length = l.length + 1
  | [] => rfl
  | y :: r => by
    unfold gins
    split
    · rfl
    · simp [glen_ins x r]
theorem glen_put (k : Bs) (v : α) (l : List (Bs × α)) : (gput k v l).length ≤ l.length + 1 := by
  unfold gput gdel
  rw [glen_ins]
  have := List.length_filter_le (fun p : Bs × α => !(p.1 == k)) l
  omega
theorem glen_del (k : Bs) (l : List (Bs × α)) : (gdel k l).length ≤ l.length := List.length_filter_le _ _
end

/-! ### changes, disks -/
/-- a change: its kind (0: a write, 1: a rename, 2: a removal), its name, the other name, its bytes -/
structure Chg (α : Type) where
  kind : Nat
  name : Bs
  «to» : Bs
  val : α
/-- a disk -/
structure Dk (α : Type) where
  room : Int
  sure : List (Bs × α)
  pend : List (Chg α)
  fuse : Int
  down : Bool
section
variable {α β : Type}
def Chg.map (f : α → β) (c : Chg α) : Chg β := ⟨c.kind, c.name, c.to, f c.val⟩
def Dk.map (f : α → β) (d : Dk α) : Dk β := ⟨d.room, gmap f d.sure, d.pend.map (Chg.map f), d.fuse, d.down⟩
def fdo (l : List (Bs × α)) (c : Chg α) : List (Bs × α) :=
  if c.kind = 0 then gput c.name c.val l else match gget c.name l with
    | none => l
    | some b => if c.kind = 1 then gput c.to b (gdel c.name l) else gdel c.name l
theorem fdo_map (f : α → β) (l : List (Bs × α)) (c : Chg α) : fdo (gmap f l) (c.map f) = gmap f (fdo l c) := by
  unfold fdo Chg.map
  dsimp only
  split
  · exact gput_map f _ _ _
  · rw [gget_map]
    cases gget c.name l with
    | none => rfl
    | some b =>
      dsimp only [Option.map_some]
      split
      · rw [gdel_map, gput_map]
      · rw [gdel_map]
theorem Ris.fdo {l : List (Bs × α)} (h : Ris l) (c : Chg α) : Ris (fdo l c) := by
  unfold Go.Proofs.YtddmfoldnlafaaaGreatDoor.fdo
  split
  · exact h.put _ _
  · split
    · exact h
    · split
      · exact (h.del _).put _ _
      · exact h.del _
theorem flen_do (l : List (Bs × α)) (c : Chg α) : (fdo l c).length ≤ l.length + 1 := by
  unfold fdo
  split
  · exact glen_put _ _ _
  · split
    · omega
    · split
      · have h1 := glen_del c.name l
        rename_i b _ _
        have h2 := glen_put c.to b (gdel c.name l)
        omega
      · have := glen_del c.name l
        omega
def fdos (l : List (Bs × α)) (cs : List (Chg α)) : List (Bs × α) := cs.foldl fdo l
theorem fdos_map (f : α → β) (l : List (Bs × α)) : ∀ cs : List (Chg α), fdos (gmap f l) (cs.map (Chg.map f)) = gmap f (fdos l cs) := fun cs => by
  unfold fdos
  induction cs generalizing l with
  | nil => rfl
  | cons c r ih => rw [List.map_cons, List.foldl_cons, List.foldl_cons, fdo_map, ih]
theorem Ris.fdos {l : List (Bs × α)} (h : Ris l) (cs : List (Chg α)) : Ris (fdos l cs) := by
  unfold Go.Proofs.YtddmfoldnlafaaaGreatDoor.fdos
  induction cs generalizing l with
  | nil => exact h
  | cons c r ih => exact ih (h.fdo c)
theorem flen_dos (l : List (Bs × α)) (cs : List (Chg α)) : (fdos l cs).length ≤ l.length + cs.length := by
  unfold fdos
  induction cs generalizing l with
  | nil => simp
  | cons c r ih =>
    have h1 := ih (fdo l c)
    have h2 := flen_do l c
    simp only [List.foldl_cons, List.length_cons]
    omega
theorem fdos_snoc (l : List (Bs × α)) (cs : List (Chg α)) (c : Chg α) : fdos l (cs ++ [c]) = fdo (fdos l cs) c := by
  unfold fdos
  rw [List.foldl_append]
  rfl
def Dk.shown (d : Dk α) : List (Bs × α) := fdos d.sure d.pend
theorem shown_map (f : α → β) (d : Dk α) : (d.map f).shown = gmap f d.shown := fdos_map f d.sure d.pend
/-- an operation counted; an error's number -/
def dWorks (d : Dk α) : Dk α × Nat :=
  if d.down = true then (d, 14) else if d.fuse = 0 then ({ d with down := true }, 14) else if 0 < d.fuse then ({ d with fuse := d.fuse - 1 }, 0) else (d, 0)
def dAdd (d : Dk α) (c : Chg α) : Dk α := { d with pend := d.pend ++ [c] }
def isSign (c : UInt8) : Bool := (97 ≤ c && c ≤ 122) || (48 ≤ c && c ≤ 57) || c == 45 || c == 46 || c == 126
def named (s : Bs) : Bool := decide (1 ≤ s.length) && decide (s.length ≤ 24) && s.all isSign
def fused (len : α → Nat) (l : List (Bs × α)) : Nat := (l.map fun p => len p.2).sum
def dWrite (len : α → Nat) (d : Dk α) (n : Bs) (v : α) : Dk α × Nat :=
  if (dWorks d).2 ≠ 0 then dWorks d
  else if named n = false then ((dWorks d).1, 2)
  else if 65536 < len v then ((dWorks d).1, 3)
  else if (gget n d.shown).isNone = true ∧ 512 ≤ d.shown.length ∨ d.room < (fused len d.shown : Int) - ((gget n d.shown).map len).getD 0 + len v then ((dWorks d).1, 5)
  else (dAdd (dWorks d).1 ⟨0, n, [], v⟩, 0)
/-- z: no bytes -/
def dRename (z : α) (d : Dk α) (n t : Bs) : Dk α × Nat :=
  if (dWorks d).2 ≠ 0 then dWorks d
  else if named n = false ∨ named t = false then ((dWorks d).1, 2)
  else if (gget n d.shown).isNone = true then ((dWorks d).1, 4)
  else (dAdd (dWorks d).1 ⟨1, n, t, z⟩, 0)
def dRemove (z : α) (d : Dk α) (n : Bs) : Dk α × Nat :=
  if (dWorks d).2 ≠ 0 then dWorks d
  else if named n = false then ((dWorks d).1, 2)
  else if (gget n d.shown).isNone = true then ((dWorks d).1, 4)
  else (dAdd (dWorks d).1 ⟨2, n, [], z⟩, 0)
def dSync (d : Dk α) : Dk α × Nat :=
  if (dWorks d).2 ≠ 0 then dWorks d else ({ (dWorks d).1 with sure := d.shown, pend := [] }, 0)
def kept (keep : List Bool) (cs : List (Chg α)) : List (Chg α) := ((cs.zip keep).filter (·.2)).map (·.1)
def dCut (keep : List Bool) (d : Dk α) : Dk α := { d with sure := fdos d.sure (kept keep d.pend), pend := [], down := true }
def dStart (d : Dk α) : Dk α := if d.down = true then { d with pend := [], down := false, fuse := -1 } else { d with fuse := -1 }
end
end Go.Proofs.YtddmfoldnlafaaaGreatDoor

namespace Go.Proofs.YtddmfoldnlafaaaGreatDoor
open Go.RowKit Go.Maps Go.Sort

/-- a slice of bytes with what it holds -/
structure Sv where
  A : Option Addr
  c : Nat
  l : Bs
def Sv.v (s : Sv) : Value := .slice s.A s.l.length s.c
def Sv.nil : Sv := ⟨none, 0, []⟩
/-- how a map's element is kept: as it is -/
def tok (v : Value) : Option (DataW Value × List MemPlace) := some (.held v, [])
def dat (l : List (Bs × Sv)) : DataW Value := .map (l.map fun p => (.string p.1, .held p.2.v))
theorem sameKey_str (a b : Bs) : (Lit.string a).sameKey (.string b) = (a == b) := rfl
theorem dat_put (k : Bs) (s : Sv) (l : List (Bs × Sv)) : (dat l).put (.string k) (.held s.v) = dat (gput k s l) := by
  unfold dat gput gdel
  rw [DataW.put_eq]
  unfold ChangeMaps.putKey
  congr 1
  rw [List.filter_map]
  have hf : (ChangeMaps.notKey (Lit.string k) ∘ fun p : Bs × Sv => ((Lit.string p.1, DataW.held p.2.v) : Lit × DataW Value)) = fun p => !(p.1 == k) := rfl
  rw [hf]
  generalize List.filter (fun p : Bs × Sv => !(p.1 == k)) l = r
  induction r with
  | nil => rfl
  | cons y r ih =>
    show (if (Lit.string k).before (.string y.1) = true then _ else _) = List.map _ (if bytesBefore k y.1 = true then _ else _)
    rw [show (Lit.string k).before (.string y.1) = bytesBefore k y.1 from rfl]
    split
    · rfl
    · rw [List.map_cons, ← ih]
theorem dat_del (k : Bs) (l : List (Bs × Sv)) : (dat l).del (.string k) = dat (gdel k l) := by
  unfold dat gdel
  rw [DataW.del_eq]
  unfold ChangeMaps.delKey
  rw [List.filter_map]
  rfl
theorem dat_at (k : Bs) (l : List (Bs × Sv)) : (dat l).atKey (.string k) (.held (.slice none 0 0)) = .held (((gget k l).map Sv.v).getD (.slice none 0 0)) := by
  unfold dat gget DataW.atKey
  dsimp only
  rw [List.find?_map]
  have hf : ((fun p : Lit × DataW Value => p.1.sameKey (Lit.string k)) ∘ fun p : Bs × Sv => ((Lit.string p.1, DataW.held p.2.v) : Lit × DataW Value)) = fun p => p.1 == k := rfl
  rw [hf]
  cases l.find? (fun p => p.1 == k) <;> rfl
theorem dat_has (k : Bs) (l : List (Bs × Sv)) : Maps.has (dat l) (.string k) = (gget k l).isSome := by
  unfold dat gget
  rw [Maps.has_eq]
  induction l with
  | nil => rfl
  | cons y r ih =>
    rw [List.map_cons, List.any_cons, List.find?_cons]
    show (y.1 == k || _) = _
    cases hy : y.1 == k
    · rw [Bool.false_or]; exact ih
    · rfl
theorem dat_size (l : List (Bs × Sv)) : Maps.size (dat l) = l.length := by unfold dat; rw [Maps.size_eq, List.length_map]

section
variable {P : Program} {K T E : TypeId} {w w' : World} {b n : Nat} {l : List (Bs × Sv)}
/-- block b is a map that holds l -/
def Om (P : Program) (K : TypeId) (w : World) (b : Nat) (l : List (Bs × Sv)) : Prop := w.ownsMap P K tok b l.length (dat l)
theorem key_str (hK : P.underlying K = some .string) {k : Bs} (hk : k.length ≤ maxLen) : keyOf P K (.string ⟨k.toArray⟩) = some (.string k) := by
  have := Go.WideMaps.keyOf_string_mk hK (s := ⟨k.toArray⟩) (by simpa [ByteArray.size] using hk)
  simpa using this
theorem Om.of (h : w.ownsMap P K tok b n (dat l)) : Om P K w b l := by
  obtain ⟨es, clock, hb, F, _, hD⟩ := h
  refine ⟨es, clock, hb, F, ?_, hD⟩
  have h1 : (dat l) = .map (l.map fun p => (.string p.1, .held p.2.v)) := rfl
  rw [h1] at hD
  injection hD with hD
  have h2 := congrArg List.length hD
  rw [length_sorted] at h2
  simp at h2
  omega
theorem Om.lt (h : Om P K w b l) : b < w.heap.size := World.ownsMap.lt h
theorem Om.same (h : Om P K w b l) (e : w'.heap[b]? = w.heap[b]?) : Om P K w' b l := by
  obtain ⟨es, clock, hb, r⟩ := h
  exact ⟨es, clock, e.trans hb, r⟩
theorem Om.new (w : World) : Om P K (w.alloc (.map #[] 0)) w.heap.size [] := World.ownsMap_made w P K tok
theorem Om.look (h : Om P K w b l) (hK : P.underlying K = some .string) (hT : P.underlying T = some (.map K E)) (hz : (zeroValue E).run P w = .ok (.slice none 0 0) w) {k : Bs} (hk : k.length ≤ maxLen) :
    (Instr.lookup T (.map (some b)) (.string ⟨k.toArray⟩) true).run P w = .ok (.tuple #[((gget k l).map Sv.v).getD (.slice none 0 0), .bool (gget k l).isSome]) w := by
  obtain ⟨v, ps, hrun, hv⟩ := h.look_ok (string_keyed hK) hT hz (zd := .held (.slice none 0 0)) (zp := []) rfl (key := .string ⟨k.toArray⟩) (kl := .string k) (key_str hK hk)
  rw [dat_at, dat_has] at *
  unfold tok at hv
  injection hv with hv
  injection hv with hv
  injection hv with hv
  subst hv
  exact hrun
theorem Om.look1 (h : Om P K w b l) (hK : P.underlying K = some .string) (hT : P.underlying T = some (.map K E)) (hz : (zeroValue E).run P w = .ok (.slice none 0 0) w) {k : Bs} (hk : k.length ≤ maxLen) :
    (Instr.lookup T (.map (some b)) (.string ⟨k.toArray⟩) false).run P w = .ok (((gget k l).map Sv.v).getD (.slice none 0 0)) w := by
  obtain ⟨v, ps, hrun, hv⟩ := h.lookup (string_keyed hK) hT hz (zd := .held (.slice none 0 0)) (zp := []) rfl (key := .string ⟨k.toArray⟩) (kl := .string k) (key_str hK hk)
  rw [dat_at] at hv
  unfold tok at hv
  injection hv with hv
  injection hv with hv
  injection hv with hv
  subst hv
  exact hrun
theorem Om.len (h : Om P K w b l) (hT : P.underlying T = some (.map K E)) (ty : TypeId) : (Builtin.len_ #[T] ty #[.map (some b)]).run P w = .ok (.int .i64 l.length) w := by
  have := World.ownsMap.len h hT ty
  rw [dat_size] at this
  exact this
theorem Om.store (h : Om P K w b l) (hK : P.underlying K = some .string) (hT : P.underlying T = some (.map K E)) (hn : l.length < maxLen) {k : Bs} (hk : k.length ≤ maxLen) (s : Sv) :
    ∃ w', (Instr.mapUpdate T (.map (some b)) (.string ⟨k.toArray⟩) s.v).run P w = .ok () w' ∧ Om P K w' b (gput k s l) ∧ w.grownBy w' (some b) := by
  obtain ⟨w', hrun, h1, h2⟩ := World.ownsMap.store h (string_keyed hK) hT hn (key := .string ⟨k.toArray⟩) (val := s.v) (kl := .string k) (d := .held s.v) (ps := []) (key_str hK hk) rfl
  rw [dat_put] at h1
  exact ⟨w', hrun, Om.of h1, h2.grown⟩
theorem Om.drop (h : Om P K w b l) (hK : P.underlying K = some .string) (hT : P.underlying T = some (.map K E)) {k : Bs} (hk : k.length ≤ maxLen) (ty : TypeId) :
    ∃ w', (Builtin.delete_ #[T, K] ty #[.map (some b), .string ⟨k.toArray⟩]).run P w = .ok (.tuple #[]) w' ∧ Om P K w' b (gdel k l) ∧ w.grownBy w' (some b) := by
  obtain ⟨w', hrun, h1, h2⟩ := World.ownsMap.drop h (string_keyed hK) hT (key := .string ⟨k.toArray⟩) (kl := .string k) (key_str hK hk) ty
  rw [dat_del] at h1
  exact ⟨w', hrun, Om.of h1, h2.grown⟩
end
end Go.Proofs.YtddmfoldnlafaaaGreatDoor

namespace Go.Proofs.YtddmfoldnlafaaaGreatDoor
open Go.RowKit

end Go.Proofs.YtddmfoldnlafaaaGreatDoor

namespace Go.Proofs.YtddmfoldnlafaaaGreatDoor
open Go.RowKit

set_option maxRecDepth 100000 in
set_option maxHeartbeats 400000 in
theorem rText_any (A : Option Addr) (c : Nat) (t : List UInt8) (w : World) (hs : SlB w A c t) (ht : t.length ≤ 10000000) :
    Calls Tryz.prog 164 #[.slice A t.length c] w (GivesB w (vb t.length ++ t)) := by
  have hu : U64 t.length := by unfold U64; omega
  have hw := wrap_u64_of hu
  go_enter Tryz.func164, Tryz.ntmps164
  go_wp2_with fail
  refine (rBytes_any t.length hu _).mono ?_
  rintro e w1 ⟨A1, c1, m1, rfl, hm1, ho1, hb1⟩
  have hml : m1.length ≤ 10 := by rw [hm1.out]; exact vb_le10 hu
  go_wp2_with (at_builtin; go_must (refine wpl_bytes 25 5 Tryz.underlying25 u8_info rfl _ _ rfl w.heap.size A1 c1 m1 rfl ho1 A c t rfl (hs.below hb1) (by omega) hb1.size ?_; intro A3 c3 m3 w3 hm3 ho3 _ _ hb3))
  go_ret
  exact ⟨A3, c3, m3, rfl, by rw [hm3.out, hm1.out]; rfl, ho3, hb1.trans hb3⟩

end Go.Proofs.YtddmfoldnlafaaaGreatDoor

namespace Go.Proofs.YtddmfoldnlafaaaGreatDoor
open Go.RowKit

/-- only block g has turned, and what is new -/
abbrev Wr (w w' : World) (g : Nat) : Prop := w.grownBy w' (some g)
section
variable {a w w' : World} {g : Nat}
theorem Wr.refl (w : World) (g : Nat) : Wr w w g := World.grownBy.refl w _
theorem Wr.trans {b c : World} (h : Wr a b g) (k : Wr b c g) : Wr a c g :=
  ⟨k.os.trans h.os, k.tape.trans h.tape, k.output.trans h.output, Nat.le_trans h.size k.size, fun i hi hn => (k.block i (Nat.lt_of_lt_of_le hi h.size) hn).trans (h.block i hi hn)⟩
theorem Wr.call (h : Wr a w g) (k : Below w.heap.size w w') : Wr a w' g :=
  h.trans ⟨k.os, k.tape, k.output, k.size, fun i hi _ => k.block i hi⟩
theorem Wr.of_below (k : Below w.heap.size w w') : Wr w w' g := ⟨k.os, k.tape, k.output, k.size, fun i hi _ => k.block i hi⟩
theorem Wr.set_ (h : Wr a w g) (i : Nat) (u : Value) : Wr a (w.setCell ⟨g, i, none⟩ u) g :=
  h.trans ⟨rfl, rfl, rfl, by simp [World.setCell], fun j _ hn => Below.heap_setCell _ _ _ _ (fun e => hn (by rw [e]))⟩
theorem Wr.alloc (h : Wr a w g) (o : Obj) : Wr a (w.alloc o) g := h.call (below_new w o)
theorem Wr.drew (h : Wr a w g) : Wr a w.drew g := ⟨h.os, h.tape, h.output, h.size, h.block⟩
/-- a reader of the call's own was written: nothing that was there before the call has turned -/
theorem Wr.below (h : Wr w w' g) {B : Nat} (hB : B ≤ w.heap.size) (hg : B ≤ g) : Below B w w' :=
  ⟨h.os, h.tape, h.output, h.size, fun k hk => h.block k (by omega) (fun e => by injection e with e; omega)⟩
theorem Blk.wr {g' : Nat} {t : TypeId} {cs : Array Value} (h : Blk w g' t cs) (hw : Wr w w' g) (hne : g' ≠ g) : Blk w' g' t cs := (hw.block g' h.lt (fun e => hne (by injection e))).trans h
end

/-- cells that are bytes lie in no block that holds none -/
theorem SlB.wr {w w' : World} {g : Nat} {t : TypeId} {x y : Value} {A : Option Addr} {c : Nat} {l : List UInt8} (h : SlB w A c l) (hb : Blk w g t #[x, y]) (hx : ∀ b, x ≠ bv b) (hy : ∀ b, y ≠ bv b) (hw : Wr w w' g) : SlB w' A c l := by
  refine ⟨h.1, h.2.1, h.2.2.1, h.2.2.2.1, fun j u hj => ?_⟩
  obtain ⟨ad, hA, hc⟩ := h.2.2.2.2 j u hj
  refine ⟨ad, hA, ?_⟩
  have hlt := World.block_lt_of_cell? w _ hc
  have hne : (ad.add j).block ≠ g := by
    intro e
    have hsp := World.cell?_spot hc
    have hu : ∃ b, u = bv b := by
      simp only [List.getElem?_map, Option.map_eq_some_iff] at hj
      obtain ⟨b, _, hb⟩ := hj
      exact ⟨b, hb.symm⟩
    obtain ⟨b, rfl⟩ := hu
    have he : ad.add j = ⟨g, (ad.add j).off, none⟩ := by
      cases h1 : ad.add j with
      | mk bl of sp => rw [h1] at e hsp; simp at e hsp; subst e; subst hsp; rfl
    rw [he, hb.cell] at hc
    match (ad.add j).off, hc with
    | 0, hc => simp at hc; exact hx b hc
    | 1, hc => simp at hc; exact hy b hc
    | n + 2, hc => simp at hc
  exact (World.cell?_of_block (hw.block _ hlt (fun e => hne (by injection e)))).trans hc
theorem errv_ne (n : Nat) : ∀ b, errv n ≠ bv b := by
  intro b h
  cases n <;> simp [errv] at h
theorem slice_ne (A : Option Addr) (n c : Nat) : ∀ b, Value.slice A n c ≠ bv b := fun b h => by cases h

/-- a reader in block g: what is left, its error's number; what is left lies below block B -/
def IsR (w : World) (g B : Nat) (s : List UInt8 × Nat) : Prop :=
  ∃ A c, Blk w g 212 #[.slice A s.1.length c, errv s.2] ∧ SlB w A c s.1 ∧ (s.1 ≠ [] → ∀ ad, A = some ad → ad.block < B)
theorem IsR.below {w w' : World} {g B : Nat} {s : List UInt8 × Nat} (h : IsR w g B s) (hb : Below w.heap.size w w') : IsR w' g B s := by
  obtain ⟨A, c, h1, h2, h3⟩ := h
  exact ⟨A, c, h1.below hb, h2.below hb, h3⟩
theorem SlB.wrR {w w' : World} {g B : Nat} {s : List UInt8 × Nat} {A : Option Addr} {c : Nat} {l : List UInt8} (h : SlB w A c l) (hR : IsR w g B s) (hw : Wr w w' g) : SlB w' A c l := by
  obtain ⟨_, _, hb, _⟩ := hR
  exact SlB.wr h hb (slice_ne _ _ _) (errv_ne _) hw

def rFail (k : Nat) (s : List UInt8 × Nat) : List UInt8 × Nat := if s.2 = 0 then (s.1, k) else s
def rNum (s : List UInt8 × Nat) : Nat × (List UInt8 × Nat) := if s.2 ≠ 0 then (0, s) else match take s.1 with | none => (0, (s.1, 2)) | some (n, k) => (n, (s.1.drop k, 0))
def rWithin (most : Nat) (s : List UInt8 × Nat) : Nat × (List UInt8 × Nat) := if (rNum s).1 > most ∨ (rNum s).1 > 4611686018427387904 then (0, rFail 1 (rNum s).2) else rNum s
def rLeft (s : List UInt8 × Nat) : Nat := if s.2 = 0 then s.1.length else 0
def rEnd (s : List UInt8 × Nat) : Nat := if s.2 = 0 ∧ 0 < s.1.length then 2 else s.2

end Go.Proofs.YtddmfoldnlafaaaGreatDoor

namespace Go.Proofs.YtddmfoldnlafaaaGreatDoor
open Go.RowKit

/-- a cell: its kind, its bytes -/
abbrev Ce := Int × List UInt8
def cchk (c : Ce) : Nat := if c.1 < 0 ∨ 3 < c.1 then 1 else if 64 < c.2.length then 3 else if 0 < c.2.length ∧ c.1 ≠ 1 then 2 else 0
def same (a b : Ce) : Bool := decide (a = b)
def mayb (a b : Ce) : Bool := decide (cchk a = 0 ∧ cchk b = 0 ∧ (a.1 = 0 ∨ a = b ∨ b.1 = 3))
def later (a b : Ce) : Ce × Bool := if mayb a b then (b, true) else if mayb b a then (a, true) else ((0, []), false)

end Go.Proofs.YtddmfoldnlafaaaGreatDoor

namespace Go.Proofs.YtddmfoldnlafaaaGreatDoor
open Go.RowKit

end Go.Proofs.YtddmfoldnlafaaaGreatDoor

namespace Go.Proofs.YtddmfoldnlafaaaGreatDoor
open Go.RowKit

abbrev b1 (n : Nat) : UInt8 := UInt8.ofNat n
end Go.Proofs.YtddmfoldnlafaaaGreatDoor

namespace Go.Proofs.YtddmfoldnlafaaaGreatDoor
open Go.RowKit

theorem step_append {P : Program} {w : World} {ops : Array Oper} {o : Oper} {a : Act} {K : Act → World → Prop} {Q : Exit → Act → World → Prop} {E : Prop} (hw : Region.wanted o (yielded ops a.tmps) = true) (s x : Operand) (t : TypeId)
    (ho : o.op = .call { callee := .builtin .append, args := #[s, x], argTypes := #[t, t] })
    (base : Nat) (e : TypeId) (i : TypeInfo) (z : Value) (size bytes : Nat) (ht : P.underlying t = some (.slice e)) (hi : P.info? e = some i) (hz : i.zero = some z)
    (hsize : i.size = size) (hby : i.bytes = bytes) (hzs : z.cells.size = size) (hsz : 0 < size)
    (A : Option Addr) (n c : Nat) (xs : List Value) (hs : a.eval s = .slice A n c) (hown : Own w base e size A n c xs)
    (A2 : Option Addr) (m c2 : Nat) (news : List Value) (hx : a.eval x = .slice A2 m c2) (hr : Sl w size A2 m c2 news) (h1 : ∀ u ∈ news, u.oneCell' = true)
    (hbytes : (n + m) * bytes ≤ 140737488355328) (hmax : n + m ≤ maxLen) (hbase : base ≤ w.heap.size)
    (h : ∀ A' c' w', Appd w w' base e size A A' (n + m) c' (xs ++ news) → K (a.put o.dst (.slice A' (n + m) c')) w') :
    if Region.wanted o (yielded ops a.tmps) = true then Oper.wp P o a w K Q else E := by
  rw [if_pos hw]
  obtain ⟨A', c', w', hrun, h2⟩ := run_append_rd (P := P) w base t o.type e i z size bytes ht hi hz hsize hby hzs hsz A n c xs hown A2 m c2 news hr h1 hbytes hmax hbase
  unfold Oper.wp execOp
  simp only [ho, resolve, invoke, builtin, Sem.run_bind, Sem.run_pure, Result.andThen_ok, List.map_toArray, List.map_cons, List.map_nil, hs, hx, hrun]
  exact h A' c' w' h2
/-- append of bytes at a step of a region that draws -/
theorem step_bytes {P : Program} {w : World} {ops : Array Oper} {o : Oper} {a : Act} {K : Act → World → Prop} {Q : Exit → Act → World → Prop} {E : Prop} (t e : TypeId) (ht : P.underlying t = some (.slice e))
    (hinfo : (P.info? e).map (fun i => (i.zero, i.size, i.bytes)) = some (some (.int .u8 0), 1, 1)) (hw : Region.wanted o (yielded ops a.tmps) = true) (s x : Operand)
    (ho : o.op = .call { callee := .builtin .append, args := #[s, x], argTypes := #[t, t] })
    (base : Nat) (A : Option Addr) (c : Nat) (l : List UInt8) (hs : a.eval s = .slice A l.length c) (hown : OwnB w base e A c l)
    (A2 : Option Addr) (c2 n2 : Nat) (l2 : List UInt8) (hn2 : n2 = l2.length) (hx : a.eval x = .slice A2 n2 c2) (hr : SlB w A2 c2 l2)
    (hlen : l.length + l2.length ≤ 140737488355328) (hbase : base ≤ w.heap.size)
    (h : ∀ A' c' (m : List UInt8) w', Hid (m = l ++ l2) → OwnB w' base e A' c' m → Below base w w' → K (a.put o.dst (.slice A' m.length c')) w') :
    if Region.wanted o (yielded ops a.tmps) = true then Oper.wp P o a w K Q else E := by
  subst hn2
  obtain ⟨i0, hi, hz0, hz1, hz2⟩ := info_parts hinfo
  refine step_append hw s x t ho base e i0 (.int .u8 0) 1 1 ht hi hz0 hz1 hz2 rfl (by decide) A l.length c (bvs l) hs hown A2 l2.length c2 (bvs l2) hx hr (one_bvs l2) (by omega) (by simp only [maxLen]; omega) hbase ?_
  intro A' c' w' hap
  rw [← List.length_append]
  refine h A' c' (l ++ l2) w' rfl ?_ (hap.below hown hbase)
  have := hap.own
  simpa [OwnB] using this
end Go.Proofs.YtddmfoldnlafaaaGreatDoor
