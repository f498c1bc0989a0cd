/- WHAT IT HOLDS: files by names, and disks, plainly (no program). | WHAT IT HOLDS: a map from names to slices of bytes in memory: looked up, written, struck, counted. | WHAT IT HOLDS: changes done on files, walked; how many bytes there are. | WHAT IT HOLDS: how many bytes files have, walked; which texts are names, walked; a map's copy. | WHAT IT HOLDS: which texts are names, walked. | WHAT IT HOLDS: a disk in memory; what it looks at, counts, and is told, walked. -/
import Derived.Maps.Own
import Derived.Maps.Views
import Derived.Sort.KeysCollected
import Derived.Test.YtajfnmohlnkncaaGreatDoorVaultKeepsG01
import Derived.Maps.RangeWalk
import Derived.StringKeys
import Derived.Test.YtajfnmohlnkncaaGreatDoorVaultKeepsG02
import Derived.Test.YtajfnmohlnkncaaGreatDoorVaultKeepsG09
import Derived.Test.YtajfnmohlnkncaaGreatDoorShelf
namespace Go.Proofs.YtajfnmohlnkncaaGreatDoor
section
abbrev Bs := List UInt8
/-! ### the order of names -/
theorem bb_lit (a b : Bs) : bytesBefore a b = (Lit.string a).before (.string b) := rfl
theorem bb_irrefl (a : Bs) : bytesBefore a a = false := by
 cases h : bytesBefore a a
 · rfl
 · exact absurd h (by rw [bb_lit]; exact Bool.not_eq_true _ ▸ WideShapes.before_irrefl _)
theorem bb_trans {a b c : Bs} (h : bytesBefore a b = true) (k : bytesBefore b c = true) : bytesBefore a c = true := WideShapes.before_trans (a := .string a) (b := .string b) (c := .string c) h k
theorem bb_total : ∀ {a b : Bs}, a ≠ b → bytesBefore a b = true ∨ bytesBefore b a = true
 | [], [], h => absurd rfl h
 | [], _ :: _, _ => .inl rfl
 | _ :: _, [], _ => .inr rfl
 | x :: r, y :: s, h => by
  unfold bytesBefore
  by_cases hxy : x = y
  · subst hxy
    have hrs : r ≠ s := fun e => h (by rw [e])
    rcases bb_total hrs with h1 | h1
    · left; simp [h1]
    · right; simp [h1]
  · rcases Nat.lt_or_gt_of_ne (fun e => hxy (UInt8.toNat_inj.1 e)) with h1 | h1
    · left; simp [UInt8.lt_iff_toNat_lt, h1]
    · right; simp [UInt8.lt_iff_toNat_lt, h1]
/-! ### files by names: rising, no name twice -/
section
variable {α β : Type}
def gdel (k : Bs) (l : List (Bs × α)) : List (Bs × α) := l.filter fun p => !(p.1 == k)
def gins (x : Bs × α) : List (Bs × α) → List (Bs × α)
 | [] => [x]
 | y :: r => if bytesBefore x.1 y.1 = true then x :: y :: r else y :: gins x r
def gput (k : Bs) (v : α) (l : List (Bs × α)) : List (Bs × α) := gins (k, v) (gdel k l)
def gget (k : Bs) (l : List (Bs × α)) : Option α := (l.find? fun p => p.1 == k).map (·.2)
def gmap (f : α → β) (l : List (Bs × α)) : List (Bs × β) := l.map fun p => (p.1, f p.2)
theorem gins_map (f : α → β) (x : Bs × α) : ∀ l : List (Bs × α), gins (x.1, f x.2) (gmap f l) = gmap f (gins x l)
 | [] => rfl
 | y :: r => by
  have ih := gins_map f x r
  show (if bytesBefore x.1 y.1 = true then (x.1, f x.2) :: (y.1, f y.2) :: gmap f r else (y.1, f y.2) :: gins (x.1, f x.2) (gmap f r)) = gmap f (if bytesBefore x.1 y.1 = true then x :: y :: r else y :: gins x r)
  split
  · rfl
  · rw [ih]; rfl
theorem gmem_ins {x y : Bs × α} : ∀ {l : List (Bs × α)}, y ∈ gins x l ↔ y = x ∨ y ∈ l
 | [] => by simp [gins]
 | z :: r => by
  unfold gins
  split
  · simp
  · simp only [List.mem_cons, gmem_ins (l := r)]
    constructor
    · rintro (h | h | h) <;> simp [h]
    · rintro (h | h | h) <;> simp [h]
theorem gmem_del {k : Bs} {y : Bs × α} {l : List (Bs × α)} : y ∈ gdel k l ↔ y ∈ l ∧ y.1 ≠ k := by
 unfold gdel
 rw [List.mem_filter]
 simp
theorem gmem_put {k : Bs} {v : α} {y : Bs × α} {l : List (Bs × α)} : y ∈ gput k v l ↔ y = (k, v) ∨ (y ∈ l ∧ y.1 ≠ k) := by
 unfold gput
 rw [gmem_ins, gmem_del]
def Ris (l : List (Bs × α)) : Prop := l.Pairwise fun p q => bytesBefore p.1 q.1 = true
theorem Ris.nil : Ris ([] : List (Bs × α)) := List.Pairwise.nil
theorem Ris.del {l : List (Bs × α)} (h : Ris l) (k : Bs) : Ris (gdel k l) := h.filter _
theorem Ris.ins {x : Bs × α} : ∀ {l : List (Bs × α)}, Ris l → (∀ p ∈ l, p.1 ≠ x.1) → Ris (gins x l)
 | [], _, _ => List.pairwise_singleton _ _
 | y :: r, h, hn => by
  obtain ⟨h1, h2⟩ := List.pairwise_cons.1 h
  unfold gins
  split
  · rename_i hb
    refine List.pairwise_cons.2 ⟨fun q hq => ?_, h⟩
    rcases List.mem_cons.1 hq with rfl | hq
    · exact hb
    · exact bb_trans hb (h1 q hq)
  · rename_i hb
    have hyx : bytesBefore y.1 x.1 = true := by
     rcases bb_total (hn y (.head _)) with h' | h'
     · exact h'
     · exact absurd h' hb
    refine List.pairwise_cons.2 ⟨fun q hq => ?_, Ris.ins h2 fun p hp => hn p (.tail _ hp)⟩
    rcases gmem_ins.1 hq with rfl | hq
    · exact hyx
    · exact h1 q hq
theorem Ris.put {l : List (Bs × α)} (h : Ris l) (k : Bs) (v : α) : Ris (gput k v l) := (h.del k).ins fun p hp => (gmem_del.1 hp).2
theorem gget_mem {k : Bs} {v : α} {l : List (Bs × α)} (h : gget k l = some v) : (k, v) ∈ l := by
 unfold gget at h
 cases hq : l.find? (fun p => p.1 == k) with
 | none => rw [hq] at h; cases h
 | some p =>
  rw [hq] at h
  have hm := List.mem_of_find?_eq_some hq
  have hk := List.find?_some hq
  obtain ⟨a, b⟩ := p
  simp only [beq_iff_eq, Option.map_some, Option.some.injEq] at hk h
  subst hk h
  exact hm
theorem gget_none {k : Bs} {l : List (Bs × α)} : gget k l = none ↔ ∀ p ∈ l, p.1 ≠ k := by
 unfold gget
 rw [Option.map_eq_none_iff, List.find?_eq_none]
 simp
theorem gget_of_mem {k : Bs} {v : α} {l : List (Bs × α)} (hr : Ris l) (h : (k, v) ∈ l) : gget k l = some v := by
 induction l with
 | nil => cases h
 | cons y r ih =>
  obtain ⟨h1, h2⟩ := List.pairwise_cons.1 hr
  unfold gget
  rw [List.find?_cons]
  rcases List.mem_cons.1 h with rfl | h
  · simp
  · have hy : (y.1 == k) = false := by
     rw [beq_eq_false_iff_ne]
     rintro rfl
     have := h1 _ h
     rw [bb_irrefl] at this
     cases this
    rw [hy]
    exact ih h2 h
theorem gget_del_same (k : Bs) (l : List (Bs × α)) : gget k (gdel k l) = none := gget_none.2 fun p hp => (gmem_del.1 hp).2
theorem gget_del_other {k j : Bs} (h : j ≠ k) : ∀ l : List (Bs × α), gget j (gdel k l) = gget j l
 | [] => rfl
 | y :: r => by
  have ih := gget_del_other h r
  unfold gget gdel at ih ⊢
  rw [List.filter_cons]
  by_cases hy : y.1 = k
  · have hyj : (y.1 == j) = false := by rw [beq_eq_false_iff_ne, hy]; exact fun e => h e.symm
    rw [if_neg (by simp [hy]), List.find?_cons, hyj]
    exact ih
  · rw [if_pos (by simp [hy]), List.find?_cons, List.find?_cons]
    cases y.1 == j
    · exact ih
    · rfl
theorem gget_ins_same (k : Bs) (v : α) : ∀ l : List (Bs × α), (∀ p ∈ l, p.1 ≠ k) → gget k (gins (k, v) l) = some v
 | [], _ => by simp [gins, gget]
 | y :: r, h => by
  have ih := gget_ins_same k v r fun p hp => h p (.tail _ hp)
  unfold gins
  split
  · simp [gget]
  · unfold gget at ih ⊢
    rw [List.find?_cons, show (y.1 == k) = false from beq_eq_false_iff_ne.2 (h y (.head _))]
    exact ih
theorem gget_ins_other {k j : Bs} (v : α) (h : j ≠ k) : ∀ l : List (Bs × α), gget j (gins (k, v) l) = gget j l
 | [] => by
  have : (k == j) = false := beq_eq_false_iff_ne.2 fun e => h e.symm
  simp [gins, gget, this]
 | y :: r => by
  have ih := gget_ins_other v h r
  have hk : (k == j) = false := beq_eq_false_iff_ne.2 fun e => h e.symm
  unfold gins
  split
  · unfold gget
    rw [List.find?_cons, hk]
  · unfold gget at ih ⊢
    rw [List.find?_cons, List.find?_cons]
    cases y.1 == j
    · exact ih
    · rfl
theorem gget_put_same (k : Bs) (v : α) (l : List (Bs × α)) : gget k (gput k v l) = some v := gget_ins_same k v _ fun _ hp => (gmem_del.1 hp).2
theorem gget_put_other {k j : Bs} (v : α) (h : j ≠ k) (l : List (Bs × α)) : gget j (gput k v l) = gget j l := by
 unfold gput
 rw [gget_ins_other v h, gget_del_other h]
theorem glen_ins (x : Bs × α) : ∀ l : List (Bs × α), (gins x l).length = l.length + 1
 | [] => rfl
 | y :: r => by
  unfold gins
  split
  · rfl
  · simp [glen_ins x r]
theorem glen_put (k : Bs) (v : α) (l : List (Bs × α)) : (gput k v l).length ≤ l.length + 1 := by
 unfold gput gdel
 rw [glen_ins]
 have := List.length_filter_le (fun p : Bs × α => !(p.1 == k)) l
 omega
theorem glen_del (k : Bs) (l : List (Bs × α)) : (gdel k l).length ≤ l.length := List.length_filter_le _ _
theorem Ris.ext : ∀ {l l' : List (Bs × α)}, Ris l → Ris l' → (∀ p, p ∈ l ↔ p ∈ l') → l = l'
 | [], [], _, _, _ => rfl
 | [], y :: r, _, _, h => absurd ((h y).2 (.head _)) (by simp)
 | x :: r, [], _, _, h => absurd ((h x).1 (.head _)) (by simp)
 | x :: r, y :: s, hl, hl', h => by
  obtain ⟨h1, h2⟩ := List.pairwise_cons.1 hl
  obtain ⟨k1, k2⟩ := List.pairwise_cons.1 hl'
  have hxy : x = y := by
   rcases List.mem_cons.1 ((h x).1 (.head _)) with e | e
   · exact e
   · rcases List.mem_cons.1 ((h y).2 (.head _)) with e2 | e2
     · exact e2.symm
     · have a := k1 _ e
       have b := h1 _ e2
       have := bb_trans a b
       rw [bb_irrefl] at this
       cases this
  subst hxy
  congr 1
  refine Ris.ext h2 k2 fun p => ⟨fun hp => ?_, fun hp => ?_⟩
  · rcases List.mem_cons.1 ((h p).1 (.tail _ hp)) with rfl | e
    · have := h1 _ hp; rw [bb_irrefl] at this; cases this
    · exact e
  · rcases List.mem_cons.1 ((h p).2 (.tail _ hp)) with rfl | e
    · have := k1 _ hp; rw [bb_irrefl] at this; cases this
    · exact e
end
/-! ### changes, disks -/
structure Chg (α : Type) where
 kind : Nat
 name : Bs
 «to» : Bs
 val : α
structure Dk (α : Type) where
 room : Int
 sure : List (Bs × α)
 pend : List (Chg α)
 fuse : Int
 down : Bool
section
variable {α β : Type}
def fdo (l : List (Bs × α)) (c : Chg α) : List (Bs × α) :=
 if c.kind = 0 then gput c.name c.val l else match gget c.name l with
  | none => l
  | some b => if c.kind = 1 then gput c.to b (gdel c.name l) else gdel c.name l
theorem Ris.fdo {l : List (Bs × α)} (h : Ris l) (c : Chg α) : Ris (fdo l c) := by
 unfold Go.Proofs.YtajfnmohlnkncaaGreatDoor.fdo
 split
 · exact h.put _ _
 · split
   · exact h
   · split
     · exact (h.del _).put _ _
     · exact h.del _
theorem flen_do (l : List (Bs × α)) (c : Chg α) : (fdo l c).length ≤ l.length + 1 := by
 unfold fdo
 split
 · exact glen_put _ _ _
 · split
   · omega
   · split
     · have h1 := glen_del c.name l
       rename_i b _ _
       have h2 := glen_put c.to b (gdel c.name l)
       omega
     · have := glen_del c.name l
       omega
def fdos (l : List (Bs × α)) (cs : List (Chg α)) : List (Bs × α) := cs.foldl fdo l
theorem Ris.fdos {l : List (Bs × α)} (h : Ris l) (cs : List (Chg α)) : Ris (fdos l cs) := by
 unfold Go.Proofs.YtajfnmohlnkncaaGreatDoor.fdos
 induction cs generalizing l with
 | nil => exact h
 | cons c r ih => exact ih (h.fdo c)
theorem flen_dos (l : List (Bs × α)) (cs : List (Chg α)) : (fdos l cs).length ≤ l.length + cs.length := by
 unfold fdos
 induction cs generalizing l with
 | nil => simp
 | cons c r ih =>
  have h1 := ih (fdo l c)
  have h2 := flen_do l c
  simp only [List.foldl_cons, List.length_cons]
  omega
theorem fdos_snoc (l : List (Bs × α)) (cs : List (Chg α)) (c : Chg α) : fdos l (cs ++ [c]) = fdo (fdos l cs) c := by
 unfold fdos
 rw [List.foldl_append]
 rfl
def Dk.shown (d : Dk α) : List (Bs × α) := fdos d.sure d.pend
def dWorks (d : Dk α) : Dk α × Nat :=
 if d.down = true then (d, 14) else if d.fuse = 0 then ({ d with down := true }, 14) else if 0 < d.fuse then ({ d with fuse := d.fuse - 1 }, 0) else (d, 0)
def dAdd (d : Dk α) (c : Chg α) : Dk α := { d with pend := d.pend ++ [c] }
def isSign (c : UInt8) : Bool := (97 ≤ c && c ≤ 122) || (48 ≤ c && c ≤ 57) || c == 45 || c == 46 || c == 126
def named (s : Bs) : Bool := decide (1 ≤ s.length) && decide (s.length ≤ 24) && s.all isSign
def fused (len : α → Nat) (l : List (Bs × α)) : Nat := (l.map fun p => len p.2).sum
def dWrite (len : α → Nat) (d : Dk α) (n : Bs) (v : α) : Dk α × Nat :=
 if (dWorks d).2 ≠ 0 then dWorks d
 else if named n = false then ((dWorks d).1, 2)
 else if 65536 < len v then ((dWorks d).1, 3)
 else if (gget n d.shown).isNone = true ∧ 512 ≤ d.shown.length ∨ d.room < (fused len d.shown : Int) - ((gget n d.shown).map len).getD 0 + len v then ((dWorks d).1, 5)
 else (dAdd (dWorks d).1 ⟨0, n, [], v⟩, 0)
def dRename (z : α) (d : Dk α) (n t : Bs) : Dk α × Nat :=
 if (dWorks d).2 ≠ 0 then dWorks d
 else if named n = false ∨ named t = false then ((dWorks d).1, 2)
 else if (gget n d.shown).isNone = true then ((dWorks d).1, 4)
 else (dAdd (dWorks d).1 ⟨1, n, t, z⟩, 0)
def dRemove (z : α) (d : Dk α) (n : Bs) : Dk α × Nat :=
 if (dWorks d).2 ≠ 0 then dWorks d
 else if named n = false then ((dWorks d).1, 2)
 else if (gget n d.shown).isNone = true then ((dWorks d).1, 4)
 else (dAdd (dWorks d).1 ⟨2, n, [], z⟩, 0)
def dSync (d : Dk α) : Dk α × Nat :=
 if (dWorks d).2 ≠ 0 then dWorks d else ({ (dWorks d).1 with sure := d.shown, pend := [] }, 0)
def kept (keep : List Bool) (cs : List (Chg α)) : List (Chg α) := ((cs.zip keep).filter (·.2)).map (·.1)
def dCut (keep : List Bool) (d : Dk α) : Dk α := { d with sure := fdos d.sure (kept keep d.pend), pend := [], down := true }
def dStart (d : Dk α) : Dk α := if d.down = true then { d with pend := [], down := false, fuse := -1 } else { d with fuse := -1 }
end
end
section
open Go.RowKit Go.Maps Go.Sort
structure Sv where
 A : Option Addr
 c : Nat
 l : Bs
def Sv.v (s : Sv) : Value := .slice s.A s.l.length s.c
def Sv.nil : Sv := ⟨none, 0, []⟩
def tok (v : Value) : Option (DataW Value × List MemPlace) := some (.held v, [])
def dat (l : List (Bs × Sv)) : DataW Value := .map (l.map fun p => (.string p.1, .held p.2.v))
theorem sameKey_str (a b : Bs) : (Lit.string a).sameKey (.string b) = (a == b) := rfl
theorem dat_put (k : Bs) (s : Sv) (l : List (Bs × Sv)) : (dat l).put (.string k) (.held s.v) = dat (gput k s l) := by
 unfold dat gput gdel
 rw [DataW.put_eq]
 unfold ChangeMaps.putKey
 congr 1
 rw [List.filter_map]
 have hf : (ChangeMaps.notKey (Lit.string k) ∘ fun p : Bs × Sv => ((Lit.string p.1, DataW.held p.2.v) : Lit × DataW Value)) = fun p => !(p.1 == k) := rfl
 rw [hf]
 generalize List.filter (fun p : Bs × Sv => !(p.1 == k)) l = r
 induction r with
 | nil => rfl
 | cons y r ih =>
  show (if (Lit.string k).before (.string y.1) = true then _ else _) = List.map _ (if bytesBefore k y.1 = true then _ else _)
  rw [show (Lit.string k).before (.string y.1) = bytesBefore k y.1 from rfl]
  split
  · rfl
  · rw [List.map_cons, ← ih]
theorem dat_del (k : Bs) (l : List (Bs × Sv)) : (dat l).del (.string k) = dat (gdel k l) := by
 unfold dat gdel
 rw [DataW.del_eq]
 unfold ChangeMaps.delKey
 rw [List.filter_map]
 rfl
theorem dat_at (k : Bs) (l : List (Bs × Sv)) : (dat l).atKey (.string k) (.held (.slice none 0 0)) = .held (((gget k l).map Sv.v).getD (.slice none 0 0)) := by
 unfold dat gget DataW.atKey
 dsimp only
 rw [List.find?_map]
 have hf : ((fun p : Lit × DataW Value => p.1.sameKey (Lit.string k)) ∘ fun p : Bs × Sv => ((Lit.string p.1, DataW.held p.2.v) : Lit × DataW Value)) = fun p => p.1 == k := rfl
 rw [hf]
 cases l.find? (fun p => p.1 == k) <;> rfl
theorem dat_has (k : Bs) (l : List (Bs × Sv)) : Maps.has (dat l) (.string k) = (gget k l).isSome := by
 unfold dat gget
 rw [Maps.has_eq]
 induction l with
 | nil => rfl
 | cons y r ih =>
  rw [List.map_cons, List.any_cons, List.find?_cons]
  show (y.1 == k || _) = _
  cases hy : y.1 == k
  · rw [Bool.false_or]; exact ih
  · rfl
theorem dat_size (l : List (Bs × Sv)) : Maps.size (dat l) = l.length := by unfold dat; rw [Maps.size_eq, List.length_map]
section
variable {P : Program} {K T E : TypeId} {w w' : World} {b n : Nat} {l : List (Bs × Sv)}
def Om (P : Program) (K : TypeId) (w : World) (b : Nat) (l : List (Bs × Sv)) : Prop := w.ownsMap P K tok b l.length (dat l)
theorem key_str (hK : P.underlying K = some .string) {k : Bs} (hk : k.length ≤ maxLen) : keyOf P K (.string ⟨k.toArray⟩) = some (.string k) := by
 have := Go.WideMaps.keyOf_string_mk hK (s := ⟨k.toArray⟩) (by simpa [ByteArray.size] using hk)
 simpa using this
theorem Om.of (h : w.ownsMap P K tok b n (dat l)) : Om P K w b l := by
 obtain ⟨es, clock, hb, F, _, hD⟩ := h
 refine ⟨es, clock, hb, F, ?_, hD⟩
 have h1 : (dat l) = .map (l.map fun p => (.string p.1, .held p.2.v)) := rfl
 rw [h1] at hD
 injection hD with hD
 have h2 := congrArg List.length hD
 rw [length_sorted] at h2
 simp at h2
 omega
theorem Om.lt (h : Om P K w b l) : b < w.heap.size := World.ownsMap.lt h
theorem Om.same (h : Om P K w b l) (e : w'.heap[b]? = w.heap[b]?) : Om P K w' b l := by
 obtain ⟨es, clock, hb, r⟩ := h
 exact ⟨es, clock, e.trans hb, r⟩
theorem Om.new (w : World) : Om P K (w.alloc (.map #[] 0)) w.heap.size [] := World.ownsMap_made w P K tok
theorem Om.look (h : Om P K w b l) (hK : P.underlying K = some .string) (hT : P.underlying T = some (.map K E)) (hz : (zeroValue E).run P w = .ok (.slice none 0 0) w) {k : Bs} (hk : k.length ≤ maxLen) :
 (Instr.lookup T (.map (some b)) (.string ⟨k.toArray⟩) true).run P w = .ok (.tuple #[((gget k l).map Sv.v).getD (.slice none 0 0), .bool (gget k l).isSome]) w := by
 obtain ⟨v, ps, hrun, hv⟩ := h.look_ok (string_keyed hK) hT hz (zd := .held (.slice none 0 0)) (zp := []) rfl (key := .string ⟨k.toArray⟩) (kl := .string k) (key_str hK hk)
 rw [dat_at, dat_has] at *
 unfold tok at hv
 injection hv with hv
 injection hv with hv
 injection hv with hv
 subst hv
 exact hrun
theorem Om.len (h : Om P K w b l) (hT : P.underlying T = some (.map K E)) (ty : TypeId) : (Builtin.len_ #[T] ty #[.map (some b)]).run P w = .ok (.int .i64 l.length) w := by
 have := World.ownsMap.len h hT ty
 rw [dat_size] at this
 exact this
theorem Om.store (h : Om P K w b l) (hK : P.underlying K = some .string) (hT : P.underlying T = some (.map K E)) (hn : l.length < maxLen) {k : Bs} (hk : k.length ≤ maxLen) (s : Sv) :
 ∃ w', (Instr.mapUpdate T (.map (some b)) (.string ⟨k.toArray⟩) s.v).run P w = .ok () w' ∧ Om P K w' b (gput k s l) ∧ w.grownBy w' (some b) := by
 obtain ⟨w', hrun, h1, h2⟩ := World.ownsMap.store h (string_keyed hK) hT hn (key := .string ⟨k.toArray⟩) (val := s.v) (kl := .string k) (d := .held s.v) (ps := []) (key_str hK hk) rfl
 rw [dat_put] at h1
 exact ⟨w', hrun, Om.of h1, h2.grown⟩
theorem Om.drop (h : Om P K w b l) (hK : P.underlying K = some .string) (hT : P.underlying T = some (.map K E)) {k : Bs} (hk : k.length ≤ maxLen) (ty : TypeId) :
 ∃ w', (Builtin.delete_ #[T, K] ty #[.map (some b), .string ⟨k.toArray⟩]).run P w = .ok (.tuple #[]) w' ∧ Om P K w' b (gdel k l) ∧ w.grownBy w' (some b) := by
 obtain ⟨w', hrun, h1, h2⟩ := World.ownsMap.drop h (string_keyed hK) hT (key := .string ⟨k.toArray⟩) (kl := .string k) (key_str hK hk) ty
 rw [dat_del] at h1
 exact ⟨w', hrun, Om.of h1, h2.grown⟩
end
end
section
open Go.RowKit Go.Maps Go.Sort
attribute [local go_sem ↓] Go.wp_at_zero Go.wp_at_succ
section
variable {P : Program} {K T E : TypeId} {w : World} {b : Nat} {l : List (Bs × Sv)} {ops : Array Oper} {rest : List Oper} {o : Oper} {a : Act} {Q : Exit → Act → World → Prop}
theorem wpl_putO (hg : o.guard = none) (m x v : Operand) (hop : o.op = Op.mapUpdate T m x v) (hK : P.underlying K = some .string) (hT : P.underlying T = some (.map K E)) (b : Nat) (l : List (Bs × Sv)) (hm : a.eval m = .map (some b)) (h : Om P K w b l) (hn : l.length < maxLen)
 (k : Bs) (hk : k.length ≤ maxLen) (hx : a.eval x = .string ⟨k.toArray⟩) (s : Sv) (hv : a.eval v = s.v) (hC : ∀ w', Om P K w' b (gput k s l) → w.grownBy w' (some b) → wpList P ops Q rest (a.put o.dst undef) w') : wpList P ops Q (o :: rest) a w := by
 refine wpList_plain hg fun K' hK' => ?_
 obtain ⟨w', hrun, r1, r2⟩ := h.store hK hT hn hk s
 unfold Oper.wp
 simp [execOp, hop, hm, hx, hv, hrun, Result.andThen]
 exact hK' _ _ (hC w' r1 r2)
theorem wpl_dropO (hg : o.guard = none) (m x : Operand) (hop : o.op = Op.call { callee := Callee.builtin Builtin.delete, args := #[m, x], argTypes := #[T, K] }) (hK : P.underlying K = some .string) (hT : P.underlying T = some (.map K E)) (b : Nat) (l : List (Bs × Sv)) (hm : a.eval m = .map (some b)) (h : Om P K w b l)
 (k : Bs) (hk : k.length ≤ maxLen) (hx : a.eval x = .string ⟨k.toArray⟩) (hC : ∀ w', Om P K w' b (gdel k l) → w.grownBy w' (some b) → wpList P ops Q rest (a.put o.dst (.tuple #[])) w') : wpList P ops Q (o :: rest) a w := by
 refine wpList_plain hg fun K' hK' => ?_
 obtain ⟨w', hrun, r1, r2⟩ := h.drop hK hT hk o.type
 unfold Oper.wp
 simp [execOp, hop, resolve, invoke, builtin, hm, hx, hrun, Result.andThen]
 exact hK' _ _ (hC w' r1 r2)
end
def chl (x : Chg Sv) : List Value := [.int .i64 x.kind, .string ⟨x.name.toArray⟩, .string ⟨x.to.toArray⟩, x.val.v]
abbrev cha (x : Chg Sv) : Array Value := #[.int .i64 x.kind, .string ⟨x.name.toArray⟩, .string ⟨x.to.toArray⟩, x.val.v]
abbrev OmD (w : World) (b : Nat) (l : List (Bs × Sv)) : Prop := Om Tryz.prog 9 w b l
theorem zero_bs (w : World) : (zeroValue 52).run Tryz.prog w = .ok (.slice none 0 0) w := by kernel_rfl
theorem OmD.below {w w' : World} {b : Nat} {l : List (Bs × Sv)} (h : OmD w b l) (hb : Below w.heap.size w w') : OmD w' b l := Om.same h (hb.block b h.lt)
theorem OmD.wr {w w' : World} {b g : Nat} {l : List (Bs × Sv)} (h : OmD w b l) (hb : Wr w w' g) (hne : b ≠ g) : OmD w' b l := Om.same h (hb.block b h.lt (fun e => hne (by injection e)))
theorem Blk.fourC {w : World} {g : Nat} {t : TypeId} {a b c d : Value} (h : Blk w g t #[a, b, c, d]) : w.cell? ⟨g, 0, none⟩ = some a ∧ w.cell? ⟨g, 1, none⟩ = some b ∧ w.cell? ⟨g, 2, none⟩ = some c ∧ w.cell? ⟨g, 3, none⟩ = some d := ⟨h.cell 0, h.cell 1, h.cell 2, h.cell 3⟩
theorem Wr.thenB {w w1 w2 : World} {b : Nat} (h : Below w.heap.size w w1) (k : w1.grownBy w2 (some b)) : Wr w w2 b := (Wr.of_below h).trans k
theorem fdo_w {α : Type} {l : List (Bs × α)} {x : Chg α} (h : x.kind = 0) : fdo l x = gput x.name x.val l := by unfold fdo; rw [if_pos h]
theorem fdo_n {α : Type} {l : List (Bs × α)} {x : Chg α} (h : x.kind ≠ 0) (h2 : gget x.name l = none) : fdo l x = l := by unfold fdo; rw [if_neg h, h2]
theorem fdo_r {α : Type} {l : List (Bs × α)} {x : Chg α} {b : α} (h : x.kind = 1) (h2 : gget x.name l = some b) : fdo l x = gput x.to b (gdel x.name l) := by unfold fdo; rw [if_neg (by omega), h2]; dsimp only; rw [if_pos h]
theorem fdo_d {α : Type} {l : List (Bs × α)} {x : Chg α} {b : α} (h : x.kind ≠ 0) (h1 : x.kind ≠ 1) (h2 : gget x.name l = some b) : fdo l x = gdel x.name l := by unfold fdo; rw [if_neg h, h2]; dsimp only; rw [if_neg h1]
set_option maxRecDepth 100000 in
set_option maxHeartbeats 1000000 in
theorem Do_any {w : World} {b : Nat} {l : List (Bs × Sv)} (x : Chg Sv) (h : OmD w b l) (hl : l.length ≤ 100000000) (h1 : x.name.length ≤ 100000000) (h2 : x.to.length ≤ 100000000) :
 Calls Tryz.prog 52 #[.map (some b), .agg (cha x)] w fun e w' => e = .returned (.tuple #[]) ∧ OmD w' b (fdo l x) ∧ Wr w w' b := by
 obtain ⟨kd, nm, tt, s⟩ := x
 dsimp only at h1 h2
 have hB := Blk.new w 119 (cha ⟨kd, nm, tt, s⟩)
 have hbx := below_new w (.cells (cha ⟨kd, nm, tt, s⟩) 119)
 have hO := OmD.below h hbx
 have hbl : b < w.heap.size := h.lt
 obtain ⟨q0, q1, q2, q3⟩ := hB.fourC
 have hlk := hO.look (T := 87) (E := 52) Tryz.underlying9 Tryz.underlying87 (zero_bs _) (k := nm) (by unfold maxLen; omega)
 have hdl := glen_del nm l
 rcases Decidable.em (kd = 0) with hk0 | hk0
 · have hb0 : ((kd : Int) == 0) = true := by simp [hk0]
   have HF := Lib.hid (fdo_w (l := l) (x := ⟨kd, nm, tt, s⟩) hk0)
   clear hk0 hdl
   generalize ((gget nm l).map Sv.v).getD (.slice none 0 0) = v at *
   generalize (gget nm l).isSome = sm at *
   go_enter Tryz.func52, Tryz.ntmps52
   go_wp2_with (refine wpl_putO rfl _ _ _ rfl Tryz.underlying9 Tryz.underlying87 b l rfl hO (by unfold maxLen; omega) nm (by unfold maxLen; omega) rfl s rfl ?_; intro w2 hO2 hg2)
   go_end0
   exact ⟨rfl, by rw [HF.out]; exact hO2, Wr.thenB hbx hg2⟩
 have hb0 : ((kd : Int) == 0) = false := by simp; omega
 cases hgt : gget nm l with
 | none =>
  have HF := Lib.hid (fdo_n (l := l) (x := ⟨kd, nm, tt, s⟩) hk0 hgt)
  rw [hgt] at hlk
  clear hk0 hdl hgt
  go_enter Tryz.func52, Tryz.ntmps52
  go_wp2_with fail
  go_end0
  exact ⟨rfl, by rw [HF.out]; exact hO, Wr.of_below hbx⟩
 | some u =>
  rw [hgt] at hlk
  dsimp only [Option.map_some, Option.getD_some, Option.isSome_some] at hlk
  rcases Decidable.em (kd = 1) with hk1 | hk1
  · have hb1 : ((kd : Int) == 1) = true := by simp [hk1]
    have HF := Lib.hid (fdo_r (l := l) (x := ⟨kd, nm, tt, s⟩) hk1 hgt)
    clear hk0 hk1 hgt
    go_enter Tryz.func52, Tryz.ntmps52
    go_wp2_with (first | (refine wpl_dropO rfl _ _ rfl Tryz.underlying9 Tryz.underlying87 b l rfl hO nm (by unfold maxLen; omega) rfl ?_; intro w2 hO2 hg2; have hB2 : Blk w2 w.heap.size 119 (cha ⟨kd, nm, tt, s⟩) := (hg2.block _ hB.lt (fun e => by injection e; omega)).trans hB; obtain ⟨p0, p1, p2, p3⟩ := hB2.fourC) | (refine wpl_putO rfl _ _ _ rfl Tryz.underlying9 Tryz.underlying87 b (gdel nm l) rfl hO2 (by unfold maxLen; omega) tt (by unfold maxLen; omega) rfl u rfl ?_; intro w3 hO3 hg3))
    go_end0
    exact ⟨rfl, by rw [HF.out]; exact hO3, (Wr.thenB hbx hg2).trans hg3⟩
  · have hb1 : ((kd : Int) == 1) = false := by simp; omega
    have HF := Lib.hid (fdo_d (l := l) (x := ⟨kd, nm, tt, s⟩) hk0 hk1 hgt)
    clear hk0 hk1 hgt
    go_enter Tryz.func52, Tryz.ntmps52
    go_wp2_with (refine wpl_dropO rfl _ _ rfl Tryz.underlying9 Tryz.underlying87 b l rfl hO nm (by unfold maxLen; omega) rfl ?_; intro w2 hO2 hg2)
    go_end0
    exact ⟨rfl, by rw [HF.out]; exact hO2, Wr.thenB hbx hg2⟩
def gone (left : Lit → Bool) (l : List (Bs × Sv)) : Nat := ((l.filter fun p => !left (.string p.1)).map fun p => p.2.l.length).sum
def svl (s : Sv) : Nat := s.l.length
theorem gone_start (l : List (Bs × Sv)) : gone (Maps.has (dat l)) l = 0 := by
 unfold gone
 have : l.filter (fun p => !Maps.has (dat l) (.string p.1)) = [] := by
  rw [List.filter_eq_nil_iff]
  intro p hp
  have h : (gget p.1 l).isSome = true := by
   cases hg : gget p.1 l with
   | none => exact absurd rfl (gget_none.1 hg p hp)
   | some _ => rfl
  rw [dat_has, h]
  simp
 rw [this]
 rfl
theorem gone_end {left : Lit → Bool} (h : ∀ kl, left kl = false) (l : List (Bs × Sv)) : gone left l = fused svl l := by
 unfold gone fused
 rw [List.filter_eq_self.2 (fun p _ => by rw [h]; rfl)]
 rfl
theorem gone_le (left : Lit → Bool) (l : List (Bs × Sv)) : gone left l ≤ fused svl l := by
 unfold gone fused
 induction l with
 | nil => exact Nat.le_refl _
 | cons y r ih =>
  rw [List.filter_cons]
  split
  · simp only [List.map_cons, List.sum_cons]; unfold svl at *; omega
  · simp only [List.map_cons, List.sum_cons]; unfold svl at *; omega
theorem gone_step {left : Lit → Bool} {k : Bs} {s : Sv} (hl : left (.string k) = true) : ∀ {l : List (Bs × Sv)}, Ris l → (k, s) ∈ l → gone (fun z => left z && !z.sameKey (.string k)) l = gone left l + s.l.length
 | y :: r, hr, hm => by
  obtain ⟨h1, h2⟩ := List.pairwise_cons.1 hr
  have hcons : ∀ (f : Lit → Bool), gone f (y :: r) = (if f (.string y.1) = true then 0 else y.2.l.length) + gone f r := fun f => by
   unfold gone
   rw [List.filter_cons]
   cases f (.string y.1) <;> simp
  rw [hcons, hcons]
  rcases List.mem_cons.1 hm with e | hm
  · subst e
    have hno : gone (fun z => left z && !z.sameKey (.string k)) r = gone left r := by
     unfold gone
     congr 2
     refine List.filter_congr fun p hp => ?_
     have hne : p.1 ≠ k := by
      intro e
      have := h1 p hp
      rw [e, bb_irrefl] at this
      cases this
     have : (Lit.string p.1).sameKey (.string k) = false := by rw [sameKey_str]; exact beq_eq_false_iff_ne.2 hne
     dsimp only
     rw [this]
     simp
    rw [hno]
    dsimp only
    rw [show (Lit.string k).sameKey (.string k) = true from by rw [sameKey_str]; simp]
    simp [hl]
    omega
  · have hne : y.1 ≠ k := by
     intro e
     have := h1 _ hm
     rw [e, bb_irrefl] at this
     cases this
    have : (Lit.string y.1).sameKey (.string k) = false := by rw [sameKey_str]; exact beq_eq_false_iff_ne.2 hne
    rw [gone_step hl h2 hm]
    simp only [this, Bool.not_false, Bool.and_true]
    omega
theorem dat_at_mem {k : Bs} {l : List (Bs × Sv)} {y : DataW Value} (h : ∀ zd, (dat l).atKey (.string k) zd = y) : ∃ s, (k, s) ∈ l ∧ y = .held s.v := by
 cases hg : gget k l with
 | none =>
  have hz : ∀ zd, (dat l).atKey (.string k) zd = zd := fun zd => by
   unfold dat DataW.atKey
   dsimp only
   rw [List.find?_map]
   have hf : ((fun p : Lit × DataW Value => p.1.sameKey (Lit.string k)) ∘ fun p : Bs × Sv => ((Lit.string p.1, DataW.held p.2.v) : Lit × DataW Value)) = fun p => p.1 == k := rfl
   rw [hf]
   unfold gget at hg
   rw [Option.map_eq_none_iff] at hg
   rw [hg]
   rfl
  have h1 := h .nil
  have h2 := h (.agg [])
  rw [hz] at h1 h2
  rw [← h1] at h2
  cases h2
 | some s =>
  refine ⟨s, gget_mem hg, ?_⟩
  rw [← h (.held (.slice none 0 0)), dat_at, hg]
  rfl
theorem wrap_ok {x : Int} (h0 : 0 ≤ x) (h1 : x ≤ 4611686018427387904) : wrap64 x = x ∧ IntKind.i64.wrap x = x := by
 constructor
 · simp only [wrap64]; omega
 · rw [IntKind.wrap_i64]; omega
set_option maxRecDepth 100000 in
set_option maxHeartbeats 1000000 in
theorem Used_any {w : World} {b : Nat} {l : List (Bs × Sv)} (h : OmD w b l) (hr : Ris l) (hs : fused svl l ≤ 4611686018427387904) :
 Calls Tryz.prog 110 #[.map (some b)] w fun e w' => e = .returned (.int .i64 (fused svl l : Nat)) ∧ Below w.heap.size w w' := by
 have hbl : b < w.heap.size := h.lt
 have h0 : w.ownsMap Tryz.prog 9 tok b l.length (dat l) := h
 go_enter Tryz.func110, Tryz.ntmps110
 go_wp2_with (at_range; refine wpList_range_own _ rfl _ 87 rfl 9 52 (string_keyed Tryz.underlying9) Tryz.underlying87 _ b l.length _ rfl h0 ?_; intro w0 hrg0 hg0 hs0)
 go_frame
 clear h0
 go_loopw [3] (fun x wr => ∃ (left : Lit → Bool) (cnt : Nat), wr.ranges Tryz.prog 9 tok b w.heap.size l.length (dat l) left cnt ∧ x = .int .i64 (gone left l : Nat) ∧ Below w.heap.size w wr) (fun x wr => wr.rangeLeft b w.heap.size)
 case atStart => exact ⟨_, _, hrg0, by rw [gone_start]; rfl, ⟨hg0.os, hg0.tape, hg0.output, hg0.size, fun i hi => hg0.block i hi (by simp)⟩⟩
 case round =>
  obtain ⟨left, cnt, hrg, rfl, hbw⟩ := hrel
  have hgl := gone_le left l
  go_wp2_with (at_next; refine wpList_next_ranges _ rfl _ rfl 9 (string_keyed Tryz.underlying9) tok encStr id (fun key kl hk => by obtain ⟨x, hx, _⟩ := Maps.keyOf_str Tryz.underlying9 hk; exact ⟨x, hx⟩) (fun v _ _ => ⟨v, rfl⟩) b w.heap.size l.length _ _ _ rfl hrg ?_ ?_)
  · intro hc0 hl0
    have HG := Lib.hid (gone_end hl0 l)
    go_wp2_with fail
    go_ret
    exact ⟨by rw [HG.out]; rfl, hbw⟩
  · intro x c kl yd yp w2 cnt2 hkey hlk hv hat hrg2 hlt hg2 hs2 hen
    obtain ⟨x', ex, rfl, _⟩ := Maps.keyOf_str Tryz.underlying9 hkey
    obtain rfl : x = x' := encStr_inj ex
    obtain ⟨s, hms, hyd⟩ := dat_at_mem hat
    have hcs : c = s.v := by
     unfold tok at hv
     injection hv with hv
     injection hv with hv _
     rw [hyd] at hv
     injection hv with hv
    subst hcs
    obtain ⟨A, cc, ll⟩ := s
    have HST := Lib.hid (gone_step hlk hr hms)
    have hgl2 := gone_le (fun z => left z && !z.sameKey (.string x)) l
    have hsum : gone left l + ll.length ≤ 4611686018427387904 := by rw [HST.out] at hgl2; dsimp only at hgl2; omega
    obtain ⟨hwr, hwr2⟩ := wrap_ok (x := (gone left l : Nat) + (ll.length : Nat)) (by omega) (by omega)
    have hb2 : Below w.heap.size w w2 := ⟨hg2.os.trans hbw.os, hg2.tape.trans hbw.tape, hg2.output.trans hbw.output, Nat.le_trans hbw.size hg2.size, fun i hi => (hg2.block i (Nat.lt_of_lt_of_le hi hbw.size) (fun e => by injection e; omega)).trans (hbw.block i hi)⟩
    have hen' : (Instr.entry (.pointer (some ⟨w.heap.size, 0, none⟩))).run Tryz.prog w2 = .ok (.tuple #[encStr x, .slice A ll.length cc]) w2 := hen
    clear hs2 hen hat hyd hv hms hgl2 hgl
    go_wp2_with fail
    go_roundw
    case rel => exact ⟨_, _, hrg2, by rw [HST.out]; go_num, hb2⟩
    case measure => rw [hrg2.left_eq, hrg.left_eq]; omega
def signs : Bs := [97, 98, 99, 100, 101, 102, 103, 104, 105, 106, 107, 108, 109, 110, 111, 112, 113, 114, 115, 116, 117, 118, 119, 120, 121, 122, 48, 49, 50, 51, 52, 53, 54, 55, 56, 57, 45, 46, 126]
theorem signs_all : ((List.range 256).all fun n => signs.contains (UInt8.ofNat n) == isSign (UInt8.ofNat n)) = true := by decide +kernel
theorem signs_is (c : UInt8) : signs.contains c = isSign c := by
 have h := List.all_eq_true.1 signs_all c.toNat (List.mem_range.2 (UInt8.toNat_lt c))
 rw [UInt8.ofNat_toNat] at h
 simpa using h
theorem dropWhile_nil {p : UInt8 → Bool} : ∀ {l : Bs}, l.dropWhile p = [] ↔ l.all p = true
 | [] => by simp
 | x :: r => by
  rw [List.dropWhile_cons, List.all_cons]
  cases hx : p x
  · simp
  · simpa using dropWhile_nil (l := r)
theorem trim_nil (l : Bs) : Lib.trimS l signs = [] ↔ l.all isSign = true := by
 have hp : (fun x => signs.contains x) = isSign := funext signs_is
 unfold Lib.trimS Lib.trimRightS Lib.trimLeftS
 rw [hp]
 constructor
 · intro h
   rw [dropWhile_nil, List.all_reverse] at h
   rw [← List.all_reverse, ← dropWhile_nil]
   cases hd : l.reverse.dropWhile isSign with
   | nil => rfl
   | cons y r =>
    rw [hd, List.all_cons, Bool.and_eq_true] at h
    have := List.head?_dropWhile_not isSign l.reverse
    rw [hd] at this
    simp [h.1] at this
 · intro h
   rw [← List.all_reverse, ← dropWhile_nil] at h
   rw [h]
   rfl
set_option maxRecDepth 100000 in
set_option maxHeartbeats 1000000 in
theorem Named_any (s : Bs) (w : World) (hs : s.length ≤ 9223372036854775807) :
 Calls Tryz.prog 97 #[.string ⟨s.toArray⟩] w fun e w' => e = .returned (.bool (named s)) ∧ Below w.heap.size w w' := by
 have hT := fun W => Tryz.strings_Trim_any ⟨s.toArray⟩ ⟨signs.toArray⟩ W (by simpa [ByteArray.size] using (by omega : s.length ≤ 9223372036854775807)) (by decide) (fun j b hb => by
  have hall : ∀ b ∈ signs, b.toNat < 128 := by decide
  exact hall b (List.mem_of_getElem? hb))
 have htn := trim_nil s
 rw [show (⟨s.toArray⟩ : ByteArray).data.toList = s from rfl, show (⟨signs.toArray⟩ : ByteArray).data.toList = signs from rfl] at hT
 generalize Lib.trimS s signs = t at *
 have HT := Lib.hid hT
 have hsz : (ByteArray.size ⟨s.toArray⟩) = s.length := by simp [ByteArray.size]
 clear hT
 rcases Nat.lt_or_ge s.length 1 with h1 | h1
 · have hI : (s.length : Int) < 1 := by omega
   have HN := Lib.hid (show named s = false from by unfold named; simp; omega)
   go_enter Tryz.func97, Tryz.ntmps97
   go_wp2_with fail
   go_ret
   exact ⟨by rw [HN.out]; rfl, Below.refl _ _⟩
 have hI : (1 : Int) ≤ (s.length : Int) := by omega
 rcases Nat.lt_or_ge 24 s.length with h2 | h2
 · have hI2 : (24 : Int) < (s.length : Int) := by omega
   have HN := Lib.hid (show named s = false from by unfold named; simp; omega)
   go_enter Tryz.func97, Tryz.ntmps97
   go_wp2_with fail
   go_ret
   exact ⟨by rw [HN.out]; rfl, Below.refl _ _⟩
 have hI2 : (s.length : Int) ≤ 24 := by omega
 go_enter Tryz.func97, Tryz.ntmps97
 go_wp2_with fail
 refine (HT.out _).mono ?_
 rintro e w2 ⟨rfl, hb2⟩
 cases t with
 | nil =>
  have HN := Lib.hid (show named s = true from by unfold named; simp [htn.1 rfl]; omega)
  go_wp2_with fail
  go_ret
  exact ⟨by rw [HN.out]; rfl, hb2⟩
 | cons y r =>
  have HN := Lib.hid (show named s = false from by
   have : s.all isSign = false := by
    rw [Bool.eq_false_iff]
    intro h
    have := htn.2 h
    cases this
   unfold named
   rw [this]
   simp)
  go_wp2_with fail
  go_ret
  exact ⟨by rw [HN.out]; rfl, hb2⟩
structure Fp where
 g : Nat
 bs : Nat
 bm : Nat
 A : Option Addr
 c : Nat
def Fp.M (q : Fp) (i : Nat) : Prop := i = q.g ∨ i = q.bs ∨ i = q.bm ∨ q.A.map (·.block) = some i
def dka (q : Fp) (d : Dk Sv) : Array Value := #[.int .i64 d.room, .map (some q.bs), .map (some q.bm), .slice q.A d.pend.length q.c, .int .i64 d.fuse, .bool d.down]
def svs (d : Dk Sv) : List Sv := d.sure.map (·.2) ++ d.pend.map (·.val)
def Tc (q : Fp) (d : Dk Sv) (i : Nat) : Prop := q.M i ∨ ∃ s ∈ svs d, s.l ≠ [] ∧ s.A.map (·.block) = some i
structure Dsk (w : World) (q : Fp) (d : Dk Sv) : Prop where
 blk : Blk w q.g 90 (dka q d)
 sure : OmD w q.bs d.sure
 shown : OmD w q.bm d.shown
 pend : Own w 0 119 4 q.A d.pend.length q.c (d.pend.flatMap chl)
 ne : q.bs ≠ q.bm
 rd : ∀ s ∈ svs d, SlB w s.A s.c s.l
 ap : ∀ s ∈ svs d, s.l ≠ [] → ∀ ad, s.A = some ad → ¬ q.M ad.block
 ris : Ris d.sure
 len : ∀ s ∈ svs d, s.l.length ≤ 65536
 nm : (∀ p ∈ d.sure, p.1.length ≤ 24) ∧ ∀ x ∈ d.pend, x.name.length ≤ 24 ∧ x.to.length ≤ 24
structure Frd (q : Fp) (w w' : World) : Prop where
 os : w'.os = w.os
 tape : w'.tape = w.tape
 output : w'.output = w.output
 size : w.heap.size ≤ w'.heap.size
 block : ∀ i, i < w.heap.size → ¬ q.M i → w'.heap[i]? = w.heap[i]?
def Dgo (w : World) (q : Fp) (d d' : Dk Sv) (w' : World) : Prop := ∃ q', q'.g = q.g ∧ Dsk w' q' d' ∧ Frd q w w' ∧ (∀ i, q'.M i → q.M i ∨ w.heap.size ≤ i) ∧ ∀ i, Tc q' d' i → Tc q d i ∨ w.heap.size ≤ i
section
variable {w w' : World} {q : Fp} {d d' : Dk Sv}
theorem Dsk.neg (h : Dsk w q d) : q.bs ≠ q.g ∧ q.bm ≠ q.g := by
 have h1 := h.blk
 obtain ⟨es, cl, hb, _⟩ := h.sure
 obtain ⟨es2, cl2, hb2, _⟩ := h.shown
 constructor
 · intro e
   rw [e] at hb
   rw [show w.heap[q.g]? = _ from h1] at hb
   cases hb
 · intro e
   rw [e] at hb2
   rw [show w.heap[q.g]? = _ from h1] at hb2
   cases hb2
theorem Dsk.negA (h : Dsk w q d) {k : Nat} (hk : q.A.map (·.block) = some k) : k ≠ q.g ∧ k ≠ q.bs ∧ k ≠ q.bm := by
 obtain ⟨es, cl, hb, _⟩ := h.sure
 obtain ⟨es2, cl2, hb2, _⟩ := h.shown
 have h1 := h.blk
 rcases h.pend.2 with ⟨hv, _⟩ | ⟨g1, _, cur, hv, _, hh, _⟩
 · injection hv with hA
   rw [hA] at hk
   cases hk
 · injection hv with hA
   rw [hA] at hk
   injection hk with hk
   dsimp only at hk
   subst hk
   refine ⟨fun e => ?_, fun e => ?_, fun e => ?_⟩
   · rw [e, show w.heap[q.g]? = _ from h1] at hh
     injection hh with hh
     injection hh with _ hh _
     revert hh
     decide
   · rw [e, hb] at hh; cases hh
   · rw [e, hb2] at hh; cases hh
theorem Dsk.ltM (h : Dsk w q d) {i : Nat} (hi : q.M i) : i < w.heap.size := by
 rcases hi with rfl | rfl | rfl | hi
 · exact h.blk.lt
 · exact h.sure.lt
 · exact h.shown.lt
 · exact (Own.lt h.pend i hi).2
theorem Dsk.lt (h : Dsk w q d) {i : Nat} (hi : Tc q d i) : i < w.heap.size := by
 rcases hi with hi | ⟨s, hs, hne, hA⟩
 · exact h.ltM hi
 · obtain ⟨A, c, l⟩ := s
   dsimp only at hne hA
   cases A with
   | none => cases hA
   | some ad =>
    injection hA with hA
    subst hA
    have hl : 0 < l.length := List.length_pos_iff.2 hne
    obtain ⟨ad', e, hc⟩ := Sl.at1 (f := bv) (l := l) (h.rd _ hs) (k := 0) hl
    injection e with e
    subst e
    have := World.block_lt_of_cell? _ _ hc
    rwa [addr_add_block] at this
theorem SlB.sameB {A : Option Addr} {c : Nat} {l : Bs} (h : SlB w A c l) (hs : l ≠ [] → ∀ ad, A = some ad → w'.heap[ad.block]? = w.heap[ad.block]?) : SlB w' A c l :=
 ⟨h.1, h.2.1, h.2.2.1, h.2.2.2.1, fun j u hj => by
  obtain ⟨ad, hA, hc⟩ := h.2.2.2.2 j u hj
  have hne : l ≠ [] := by rintro e; rw [e] at hj; simp at hj
  refine ⟨ad, hA, ?_⟩
  rw [← hc]
  unfold World.cell?
  rw [addr_add_block, hs hne ad hA]⟩
theorem Dsk.frame (h : Dsk w q d) (hf : ∀ i, Tc q d i → w'.heap[i]? = w.heap[i]?) : Dsk w' q d where
 blk := (hf _ (.inl (.inl rfl))).trans h.blk
 sure := h.sure.same (hf _ (.inl (.inr (.inl rfl))))
 shown := h.shown.same (hf _ (.inl (.inr (.inr (.inl rfl)))))
 pend := by
  obtain ⟨h1, h2⟩ := h.pend
  refine ⟨h1, ?_⟩
  rcases h2 with h2 | ⟨g1, cap, cur, hv, hb, hh, r⟩
  · exact .inl h2
  · refine .inr ⟨g1, cap, cur, hv, hb, ?_, r⟩
    injection hv with hA
    exact (hf g1 (.inl (.inr (.inr (.inr (by rw [hA]; rfl)))))).trans hh
 ne := h.ne
 rd := fun s hs => SlB.sameB (h.rd s hs) fun hne ad hA => hf _ (.inr ⟨s, hs, hne, by rw [hA]; rfl⟩)
 ap := h.ap
 ris := h.ris
 len := h.len
 nm := h.nm
theorem Dsk.below (h : Dsk w q d) (hb : Below w.heap.size w w') : Dsk w' q d := h.frame fun i hi => hb.block i (h.lt hi)
theorem Frd.of_below (hb : Below w.heap.size w w') : Frd q w w' := ⟨hb.os, hb.tape, hb.output, hb.size, fun i hi _ => hb.block i hi⟩
theorem Frd.of_wr {k : Nat} (hk : q.M k) (hb : Wr w w' k) : Frd q w w' := ⟨hb.os, hb.tape, hb.output, hb.size, fun i hi hn => hb.block i hi (fun e => by injection e with e; exact hn (e ▸ hk))⟩
theorem Frd.trans {w2 : World} {q2 : Fp} (h : Frd q w w') (k : Frd q2 w' w2) (hq : ∀ i, q2.M i → q.M i ∨ w.heap.size ≤ i) : Frd q w w2 :=
 ⟨k.os.trans h.os, k.tape.trans h.tape, k.output.trans h.output, Nat.le_trans h.size k.size, fun i hi hn => (k.block i (Nat.lt_of_lt_of_le hi h.size) (fun e => by
  rcases hq i e with h1 | h1
  · exact hn h1
  · omega)).trans (h.block i hi hn)⟩
theorem Dsk.turn (h : Dsk w q d) (hB : Blk w' q.g 90 (dka q d')) (hw : Wr w w' q.g) (h1 : d'.sure = d.sure) (h2 : d'.pend = d.pend) : Dsk w' q d' := by
 have hsv : svs d' = svs d := by unfold svs; rw [h1, h2]
 have hn := h.neg
 refine ⟨hB, ?_, ?_, ?_, h.ne, ?_, ?_, ?_, ?_, ?_⟩
 · rw [h1]; exact OmD.wr h.sure hw hn.1
 · have : d'.shown = d.shown := by unfold Dk.shown; rw [h1, h2]
   rw [this]; exact OmD.wr h.shown hw hn.2
 · rw [h2]
   exact World.ownsRow.kept h.pend hw (.inr fun e => (h.negA (by rw [← ownBlock_slice]; exact e)).1 rfl)
 · rw [hsv]
   intro s hs
   refine SlB.sameB (h.rd s hs) fun hne ad hA => hw.block _ ?_ fun e => h.ap s hs hne ad hA (.inl (by injection e))
   exact h.lt (.inr ⟨s, hs, hne, by rw [hA]; rfl⟩)
 · rw [hsv]; exact h.ap
 · rw [h1]; exact h.ris
 · rw [hsv]; exact h.len
 · rw [h1, h2]; exact h.nm
theorem Tc.same (h1 : d'.sure = d.sure) (h2 : d'.pend = d.pend) {i : Nat} (h : Tc q d' i) : Tc q d i := by
 unfold Tc svs at *
 rw [h1, h2] at h
 exact h
theorem Dsk.six (h : Dsk w q d) : w.cell? ⟨q.g, 0, none⟩ = some (.int .i64 d.room) ∧ w.cell? ⟨q.g, 1, none⟩ = some (.map (some q.bs)) ∧ w.cell? ⟨q.g, 2, none⟩ = some (.map (some q.bm)) ∧ w.cell? ⟨q.g, 3, none⟩ = some (.slice q.A d.pend.length q.c) ∧ w.cell? ⟨q.g, 4, none⟩ = some (.int .i64 d.fuse) ∧ w.cell? ⟨q.g, 5, none⟩ = some (.bool d.down) ∧
 w.frozen? ⟨q.g, 1, none⟩ = false ∧ w.frozen? ⟨q.g, 2, none⟩ = false ∧ w.frozen? ⟨q.g, 3, none⟩ = false ∧ w.frozen? ⟨q.g, 4, none⟩ = false ∧ w.frozen? ⟨q.g, 5, none⟩ = false :=
 ⟨h.blk.cell 0, h.blk.cell 1, h.blk.cell 2, h.blk.cell 3, h.blk.cell 4, h.blk.cell 5, h.blk.frozen 1, h.blk.frozen 2, h.blk.frozen 3, h.blk.frozen 4, h.blk.frozen 5⟩
end
set_option maxRecDepth 100000 in
set_option maxHeartbeats 400000 in
theorem Looks_any {w : World} {q : Fp} {d : Dk Sv} (h : Dsk w q d) : Calls Tryz.prog 92 #[.pointer (some ⟨q.g, 0, none⟩)] w fun e w' => e = .returned (errv (if d.down = true then 14 else 0)) ∧ w' = w := by
 obtain ⟨a0, a1, a2, a3, a4, a5, -⟩ := h.six
 obtain ⟨room, sure, pend, fuse, down⟩ := d
 dsimp only at a0 a1 a2 a3 a4 a5 ⊢
 clear h
 cases down
 · go_enter Tryz.func92, Tryz.ntmps92
   go_wp2_with fail
   go_ret
   exact ⟨rfl, rfl⟩
 · go_enter Tryz.func92, Tryz.ntmps92
   go_wp2_with fail
   go_ret
   exact ⟨rfl, rfl⟩
set_option maxRecDepth 100000 in
set_option maxHeartbeats 400000 in
theorem Works_any {w : World} {q : Fp} {d : Dk Sv} (h : Dsk w q d) (hf : -1 ≤ d.fuse ∧ d.fuse ≤ 9223372036854775807) : Calls Tryz.prog 96 #[.pointer (some ⟨q.g, 0, none⟩)] w fun e w' => e = .returned (errv (dWorks d).2) ∧ Dsk w' q (dWorks d).1 ∧ Wr w w' q.g := by
 have hL := Looks_any h
 have H := Lib.hid h
 obtain ⟨a0, a1, a2, a3, a4, a5, af1, af2, af3, af4, af5⟩ := h.six
 obtain ⟨room, sure, pend, fuse, down⟩ := d
 dsimp only at a0 a1 a2 a3 a4 a5 hL hf ⊢
 clear h
 cases down
 case true =>
  have HW := Lib.hid (show dWorks (⟨room, sure, pend, fuse, true⟩ : Dk Sv) = (⟨room, sure, pend, fuse, true⟩, 14) from rfl)
  rw [if_pos rfl, show errv 14 = Value.iface 60 (.int .i64 14) from rfl] at hL
  have HL := Lib.hid hL
  clear hL
  go_enter Tryz.func96, Tryz.ntmps96
  go_wp2_with fail
  refine HL.out.mono ?_
  rintro e w2 ⟨rfl, rfl⟩
  go_wp2_with fail
  go_ret
  exact ⟨by rw [HW.out]; rfl, by rw [HW.out]; exact H.out, Wr.refl _ _⟩
 case false =>
  rw [if_neg (by simp), show errv 0 = Value.nilIface from rfl] at hL
  have HL := Lib.hid hL
  clear hL
  rcases Decidable.em (fuse = 0) with h0 | h0
  · have hb : (fuse == 0) = true := by simp [h0]
    have HW := Lib.hid (show dWorks (⟨room, sure, pend, fuse, false⟩ : Dk Sv) = (⟨room, sure, pend, fuse, true⟩, 14) from by unfold dWorks; simp [h0])
    clear h0 hf
    go_enter Tryz.func96, Tryz.ntmps96
    go_wp2_with fail
    refine HL.out.mono ?_
    rintro e w2 ⟨rfl, rfl⟩
    go_wp2_with fail
    go_ret
    have hT := H.out.turn (d' := ⟨room, sure, pend, fuse, true⟩) (H.out.blk.set_ 5 (.bool true)) ((Wr.refl _ _).set_ 5 (.bool true)) rfl rfl
    exact ⟨by rw [HW.out]; rfl, by rw [HW.out]; exact hT, (Wr.refl _ _).set_ 5 (.bool true)⟩
  · have hb : (fuse == 0) = false := by simpa using h0
    rcases Decidable.em (0 < fuse) with h1 | h1
    · have HW := Lib.hid (show dWorks (⟨room, sure, pend, fuse, false⟩ : Dk Sv) = (⟨room, sure, pend, fuse - 1, false⟩, 0) from by unfold dWorks; simp [h0, h1])
      have hwr : wrap64 (fuse - 1) = fuse - 1 := by simp only [wrap64]; omega
      have hwr2 : IntKind.i64.wrap (fuse - 1) = fuse - 1 := by rw [IntKind.wrap_i64]; omega
      clear h0 hf
      go_enter Tryz.func96, Tryz.ntmps96
      go_wp2_with fail
      refine HL.out.mono ?_
      rintro e w2 ⟨rfl, rfl⟩
      go_wp2_with fail
      go_ret
      have hT := H.out.turn (d' := ⟨room, sure, pend, fuse - 1, false⟩) (H.out.blk.set_ 4 (.int .i64 (fuse - 1))) ((Wr.refl _ _).set_ 4 (.int .i64 (fuse - 1))) rfl rfl
      exact ⟨by rw [HW.out]; rfl, by rw [HW.out]; exact hT, (Wr.refl _ _).set_ 4 (.int .i64 (fuse - 1))⟩
    · have HW := Lib.hid (show dWorks (⟨room, sure, pend, fuse, false⟩ : Dk Sv) = (⟨room, sure, pend, fuse, false⟩, 0) from by unfold dWorks; simp [h0, h1])
      clear h0 hf
      go_enter Tryz.func96, Tryz.ntmps96
      go_wp2_with fail
      refine HL.out.mono ?_
      rintro e w2 ⟨rfl, rfl⟩
      go_wp2_with fail
      go_ret
      exact ⟨by rw [HW.out]; rfl, by rw [HW.out]; exact H.out, Wr.refl _ _⟩
end
end Go.Proofs.YtajfnmohlnkncaaGreatDoor
