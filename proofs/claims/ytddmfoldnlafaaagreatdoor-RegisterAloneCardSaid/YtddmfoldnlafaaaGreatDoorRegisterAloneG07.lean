/- WHAT IT HOLDS: two owners and their clocks, plainly (no program): what stays true through any asks. | WHAT IT HOLDS: files by names, and disks, plainly (no program). | WHAT IT HOLDS: a map from names to slices of bytes in memory: looked up, written, struck, counted. | WHAT IT HOLDS: how many bits and bytes a number has, plainly (no program). | WHAT IT HOLDS: Size, and the document's bytes of texts and lists, walked. -/
import Derived.Test.YtddmfoldnlafaaaGreatDoorRegisterAloneG05
import Derived.Test.YtddmfoldnlafaaaGreatDoorRegisterAloneG06
import Derived.Maps.Own
import Derived.Maps.Views
import Derived.Sort.KeysCollected
import Derived.Test.YtddmfoldnlafaaaGreatDoorRegisterAloneG01
import Derived.Maps.RangeWalk
import Derived.StringKeys
import Derived.Test.YtddmfoldnlafaaaGreatDoorRegisterAloneG02
import Derived.Test.YtddmfoldnlafaaaGreatDoorRegisterAloneG03
import Derived.Test.YtddmfoldnlafaaaGreatDoorShelf
namespace Go.Proofs.YtddmfoldnlafaaaGreatDoor
open Go.RowKit

abbrev i64 {H : Type} (n : Int) : DataW H := .lit (.int .i64 n)
/-- a lease as three numbers -/
abbrev L3 := Int × Int × Int
def hold3 (k : L3) (p now : Int) : Bool := holdsb k.1 k.2.1 k.2.2 p now
/-- what is true between two asks: the lease, what both remember, their clocks; i asks have been -/
structure LInv (bound : Int) (i : Nat) (l k1 k2 : L3) (n1 n2 : Int) : Prop where
  ok : chk l.1 l.2.1 l.2.2 = 0
  p1 : 0 ≤ n1 ∧ n1 ≤ i * 2147483648
  p2 : 0 ≤ n2 ∧ n2 ≤ i * 2147483648
  near : n1 - n2 ≤ bound ∧ n2 - n1 ≤ bound
  o1 : l.1 = 1 → k1 = l
  o2 : l.1 = 2 → k2 = l
  h1 : l.1 ≠ 1 → hold3 k1 1 n1 = false
  h2 : l.1 ≠ 2 → hold3 k2 2 n2 = false

theorem holdsb_owner {o e u p now : Int} (h : o ≠ p) : holdsb o e u p now = false := by
  unfold holdsb; simp [h]
theorem holdsb_late {o e u p now : Int} (h : u ≤ now) : holdsb o e u p now = false := by
  unfold holdsb; simp [show ¬ now < u from by omega]
theorem holdsb_mono {o e u p now now' : Int} (h : holdsb o e u p now = false) (hn : now ≤ now') : holdsb o e u p now' = false := by
  unfold holdsb at h ⊢
  by_cases h1 : now' < u
  · have : now < u := by omega
    simpa [h1, this] using h
  · simp [h1]

theorem LInv.start {bound : Int} (h : 0 ≤ bound) : LInv bound 0 (0, 0, 0) (0, 0, 0) (0, 0, 0) 0 0 :=
  ⟨by decide, by simp, by simp, by simpa using h, fun h => by simp at h, fun h => by simp at h, fun _ => holdsb_owner (by simp), fun _ => holdsb_owner (by simp)⟩
theorem LInv.both {bound : Int} {i : Nat} {l k1 k2 : L3} {n1 n2 : Int} (H : LInv bound i l k1 k2 n1 n2) : (hold3 k1 1 n1 && hold3 k2 2 n2) = false := by
  by_cases h : l.1 = 1
  · rw [H.h2 (by omega)]; simp
  · rw [H.h1 h]; simp
theorem LInv.more {bound : Int} {i : Nat} {l k1 k2 : L3} {n1 n2 : Int} (H : LInv bound i l k1 k2 n1 n2) : LInv bound (i + 1) l k1 k2 n1 n2 := by
  obtain ⟨a, b, c, d, e, f, g, h⟩ := H
  exact ⟨a, by omega, by omega, d, e, f, g, h⟩

theorem give_ok {o e u by_ : Int} (h : (give o e u by_).2.2.2 = 0) : give o e u by_ = (0, e, 0, 0) ∧ o = by_ ∧ chk o e u = 0 ∧ ownb by_ = true := by
  unfold give at h ⊢
  by_cases h1 : chk o e u ≠ 0
  · rw [if_pos h1] at h; exact absurd h h1
  · rw [if_neg h1] at h ⊢
    cases h2 : ownb by_
    · rw [if_pos h2] at h; simp at h
    · rw [if_neg (by simp [h2])] at h ⊢
      by_cases h3 : o ≠ by_
      · rw [if_pos h3] at h; simp at h
      · rw [if_neg h3]
        exact ⟨rfl, by omega, by omega, rfl⟩
theorem inb_list {a b : Int} (h1 : 0 ≤ a ∧ a ≤ 1099511627776) (h2 : 0 ≤ b ∧ b ≤ 1099511627776) : inb [a, b] = true := by
  simp [inb]; omega
theorem chk_of {o e u : Int} (h1 : 1 ≤ o ∧ o ≤ 2) (h2 : 0 ≤ e ∧ e ≤ 1099511627776) (h3 : 0 ≤ u ∧ u ≤ 1099511627776) : chk o e u = 0 := by
  unfold chk
  rw [if_neg, if_neg (by omega)]
  rw [inb_list h2 h3, ownb_of (by omega) (by omega)]
  simp
/-- what is granted -/
theorem grant_cases {o e u to now span bound : Int} (hc : chk o e u = 0) (h : (grant o e u to now span bound).2.2.2 = 0) :
    (1 ≤ to ∧ to ≤ 2) ∧ chk (grant o e u to now span bound).1 (grant o e u to now span bound).2.1 (grant o e u to now span bound).2.2.1 = 0 ∧ (grant o e u to now span bound).1 = to ∧
    ((o = to ∧ (grant o e u to now span bound).2.1 = e) ∨ (o ≠ to ∧ (o = 0 ∨ u + bound ≤ now) ∧ (grant o e u to now span bound).2.1 = e + 1)) := by
  have hk := chk_ok hc
  unfold grant at h ⊢
  rw [if_neg (by omega)] at h ⊢
  by_cases h1 : ownb to = false ∨ inb [now, span, bound] = false
  · rw [if_pos h1] at h; simp at h
  rw [if_neg h1] at h ⊢
  have hto : ownb to = true := by cases h4 : ownb to <;> simp_all
  have hto2 : 1 ≤ to ∧ to ≤ 2 := by unfold ownb at hto; exact of_decide_eq_true hto
  have hin : inb [now, span, bound] = true := by cases h4 : inb [now, span, bound] <;> simp_all
  have hin3 := inb_three hin
  by_cases h2 : o ≠ to ∧ freeb o e u now bound = false
  · rw [if_pos h2] at h; simp at h
  rw [if_neg h2] at h ⊢
  by_cases h3 : o ≠ to
  · rw [if_pos h3] at h ⊢
    have hf : freeb o e u now bound = true := by cases h4 : freeb o e u now bound <;> simp_all
    cases h5 : inb [e + 1, now + span]
    · rw [h5] at h; simp at h
    · have h6 := inb_two h5
      simp only [if_true]
      refine ⟨hto2, chk_of hto2 h6.1 h6.2, trivial, Or.inr ⟨h3, ?_, trivial⟩⟩
      unfold freeb at hf
      simp at hf
      omega
  · rw [if_neg h3] at h ⊢
    cases h5 : inb [e, now + span]
    · rw [h5] at h; simp at h
    · have h6 := inb_two h5
      simp only [if_true]
      exact ⟨hto2, chk_of hto2 h6.1 (by omega), trivial, Or.inl ⟨by omega, trivial⟩⟩

theorem LInv.give1 {bound : Int} {i : Nat} {l k1 k2 : L3} {n1 n2 : Int} (H : LInv bound i l k1 k2 n1 n2) (h : (give l.1 l.2.1 l.2.2 1).2.2.2 = 0) : LInv bound i (0, l.2.1, 0) (0, l.2.1, 0) k2 n1 n2 := by
  obtain ⟨_, ho, hc, _⟩ := give_ok h
  exact ⟨chk_free hc, H.p1, H.p2, H.near, fun _ => rfl, fun h => by simp at h, fun _ => holdsb_owner (by simp), fun _ => H.h2 (by omega)⟩
theorem LInv.give2 {bound : Int} {i : Nat} {l k1 k2 : L3} {n1 n2 : Int} (H : LInv bound i l k1 k2 n1 n2) (h : (give l.1 l.2.1 l.2.2 2).2.2.2 = 0) : LInv bound i (0, l.2.1, 0) k1 (0, l.2.1, 0) n1 n2 := by
  obtain ⟨_, ho, hc, _⟩ := give_ok h
  exact ⟨chk_free hc, H.p1, H.p2, H.near, fun h => by simp at h, fun _ => rfl, fun _ => H.h1 (by omega), fun _ => holdsb_owner (by simp)⟩
theorem LInv.grant1 {bound span : Int} {i : Nat} {l k1 k2 : L3} {n1 n2 : Int} (H : LInv bound i l k1 k2 n1 n2) (h : (grant l.1 l.2.1 l.2.2 1 n1 span bound).2.2.2 = 0) {x : L3}
    (hx : x = ((grant l.1 l.2.1 l.2.2 1 n1 span bound).1, (grant l.1 l.2.1 l.2.2 1 n1 span bound).2.1, (grant l.1 l.2.1 l.2.2 1 n1 span bound).2.2.1)) : LInv bound i x x k2 n1 n2 := by
  obtain ⟨_, hc, hto, hcase⟩ := grant_cases H.ok h
  subst hx
  refine ⟨hc, H.p1, H.p2, H.near, fun _ => rfl, fun h => ?_, fun h => absurd hto h, fun _ => ?_⟩
  · rw [hto] at h; simp at h
  · rcases hcase with ⟨h1, _⟩ | ⟨h1, h2 | h2, _⟩
    · exact H.h2 (by omega)
    · exact H.h2 (by omega)
    · by_cases h3 : l.1 = 2
      · rw [H.o2 h3]
        exact holdsb_late (by have := H.near; omega)
      · exact H.h2 h3
theorem LInv.grant2 {bound span : Int} {i : Nat} {l k1 k2 : L3} {n1 n2 : Int} (H : LInv bound i l k1 k2 n1 n2) (h : (grant l.1 l.2.1 l.2.2 2 n2 span bound).2.2.2 = 0) {x : L3}
    (hx : x = ((grant l.1 l.2.1 l.2.2 2 n2 span bound).1, (grant l.1 l.2.1 l.2.2 2 n2 span bound).2.1, (grant l.1 l.2.1 l.2.2 2 n2 span bound).2.2.1)) : LInv bound i x k1 x n1 n2 := by
  obtain ⟨_, hc, hto, hcase⟩ := grant_cases H.ok h
  subst hx
  refine ⟨hc, H.p1, H.p2, H.near, fun h => ?_, fun _ => rfl, fun _ => ?_, fun h => absurd hto h⟩
  · rw [hto] at h; simp at h
  · rcases hcase with ⟨h1, _⟩ | ⟨h1, h2 | h2, _⟩
    · exact H.h1 (by omega)
    · exact H.h1 (by omega)
    · by_cases h3 : l.1 = 1
      · rw [H.o1 h3]
        exact holdsb_late (by have := H.near; omega)
      · exact H.h1 h3
theorem LInv.time {bound : Int} {i : Nat} {l k1 k2 : L3} {n1 n2 m1 m2 : Int} (H : LInv bound i l k1 k2 n1 n2) (a1 : n1 ≤ m1) (a2 : n2 ≤ m2) (b1 : m1 ≤ n1 + 2147483648 ∨ m1 ≤ n2 + 2147483648) (b2 : m2 ≤ n2 + 2147483648 ∨ m2 ≤ n1 + 2147483648) (hn : m1 - m2 ≤ bound ∧ m2 - m1 ≤ bound) : LInv bound (i + 1) l k1 k2 m1 m2 := by
  obtain ⟨a, b, c, d, e, f, g, h⟩ := H
  exact ⟨a, by omega, by omega, hn, e, f, fun q => holdsb_mono (g q) a1, fun q => holdsb_mono (h q) a2⟩

/-- the epochs that have been, each with its owner -/
structure EInv {H : Type} (D : DataW H) (l : L3) : Prop where
  upto : ∀ x : Int, Maps.has D (.int .i64 x) = true → x ≤ l.2.1
  own : l.1 ≠ 0 → Maps.has D (.int .i64 l.2.1) = true → D.atKey (.int .i64 l.2.1) (i64 0) = i64 l.1
/-- the lease has turned as it may -/
def Turn (l x : L3) : Prop := x = l ∨ x = (0, l.2.1, 0) ∨ (x.1 = l.1 ∧ x.2.1 = l.2.1) ∨ x.2.1 = l.2.1 + 1
theorem Turn.epoch {l x : L3} (h : Turn l x) : l.2.1 ≤ x.2.1 := by
  rcases h with rfl | rfl | ⟨_, h⟩ | h
  · omega
  · show l.2.1 ≤ l.2.1; omega
  · omega
  · omega
theorem EInv.turn {H : Type} {D : DataW H} {l x : L3} (E : EInv D l) (h : Turn l x) : EInv D x := by
  refine ⟨fun k hk => Int.le_trans (E.upto k hk) h.epoch, fun h0 hh => ?_⟩
  rcases h with rfl | rfl | ⟨h1, h2⟩ | h
  · exact E.own h0 hh
  · exact absurd rfl h0
  · rw [h1, h2]; rw [h2] at hh; exact E.own (by rw [← h1]; exact h0) hh
  · have := E.upto _ hh; omega
theorem EInv.put {H : Type} {D : DataW H} {l : L3} (E : EInv D l) (hm : Maps.IsMap D) (hk : WideAt.IsKeyLit (.int .i64 l.2.1)) : EInv (D.put (.int .i64 l.2.1) (i64 l.1)) l := by
  refine ⟨fun k hh => ?_, fun _ _ => Maps.atKey_put_same hm hk _ _⟩
  by_cases h : k = l.2.1
  · omega
  · rw [Maps.has_put_other (by intro he; injection he with _ he; exact h he)] at hh
    exact E.upto k hh
theorem EInv.start {H : Type} : EInv (.map [] : DataW H) (0, 0, 0) := ⟨fun x h => by simp [Maps.has] at h, fun h => absurd rfl h⟩
theorem turn_give {o e u p : Int} (h : (give o e u p).2.2.2 = 0) : Turn (o, e, u) ((give o e u p).1, (give o e u p).2.1, (give o e u p).2.2.1) := by
  rw [(give_ok h).1]; exact .inr (.inl rfl)
theorem turn_grant {o e u p now span bound : Int} (hc : chk o e u = 0) (h : (grant o e u p now span bound).2.2.2 = 0) : Turn (o, e, u) ((grant o e u p now span bound).1, (grant o e u p now span bound).2.1, (grant o e u p now span bound).2.2.1) := by
  obtain ⟨_, _, hto, ⟨h1, h2⟩ | ⟨_, _, h2⟩⟩ := grant_cases hc h
  · exact .inr (.inr (.inl ⟨by show _ = o; rw [hto, h1], h2⟩))
  · exact .inr (.inr (.inr h2))
end Go.Proofs.YtddmfoldnlafaaaGreatDoor

namespace Go.Proofs.YtddmfoldnlafaaaGreatDoor

abbrev Bs := List UInt8

/-! ### the order of names -/
theorem bb_lit (a b : Bs) : bytesBefore a b = (Lit.string a).before (.string b) := rfl
theorem bb_irrefl (a : Bs) : bytesBefore a a = false := by
  cases h : bytesBefore a a
  · rfl
  · exact absurd h (by rw [bb_lit]; exact Bool.not_eq_true _ ▸ WideShapes.before_irrefl _)
theorem bb_trans {a b c : Bs} (h : bytesBefore a b = true) (k : bytesBefore b c = true) : bytesBefore a c = true := WideShapes.before_trans (a := .string a) (b := .string b) (c := .string c) h k
theorem bb_total : ∀ {a b : Bs}, a ≠ b → bytesBefore a b = true ∨ bytesBefore b a = true
  | [], [], h => absurd rfl h
  | [], _ :: _, _ => .inl rfl
  | _ :: _, [], _ => .inr rfl
  | x :: r, y :: s, h => by
    unfold bytesBefore
    by_cases hxy : x = y
    · subst hxy
      have hrs : r ≠ s := fun e => h (by rw [e])
      rcases bb_total hrs with h1 | h1
      · left; simp [h1]
      · right; simp [h1]
    · rcases Nat.lt_or_gt_of_ne (fun e => hxy (UInt8.toNat_inj.1 e)) with h1 | h1
      · left; simp [UInt8.lt_iff_toNat_lt, h1]
      · right; simp [UInt8.lt_iff_toNat_lt, h1]

/-! ### files by names: rising, no name twice -/
section
variable {α β : Type}
def gdel (k : Bs) (l : List (Bs × α)) : List (Bs × α) := l.filter fun p => !(p.1 == k)
def gins (x : Bs × α) : List (Bs × α) → List (Bs × α)
  | [] => [x]
  | y :: r => if bytesBefore x.1 y.1 = true then x :: y :: r else y :: gins x r
def gput (k : Bs) (v : α) (l : List (Bs × α)) : List (Bs × α) := gins (k, v) (gdel k l)
def gget (k : Bs) (l : List (Bs × α)) : Option α := (l.find? fun p => p.1 == k).map (·.2)
def gmap (f : α → β) (l : List (Bs × α)) : List (Bs × β) := l.map fun p => (p.1, f p.2)
theorem gdel_map (f : α → β) (k : Bs) (l : List (Bs × α)) : gdel k (gmap f l) = gmap f (gdel k l) := by
  unfold gdel gmap
  rw [List.filter_map]
  rfl
theorem gins_map (f : α → β) (x : Bs × α) : ∀ l : List (Bs × α), gins (x.1, f x.2) (gmap f l) = gmap f (gins x l)
  | [] => rfl
  | y :: r => by
    have ih := gins_map f x r
    show (if bytesBefore x.1 y.1 = true then (x.1, f x.2) :: (y.1, f y.2) :: gmap f r else (y.1, f y.2) :: gins (x.1, f x.2) (gmap f r)) = gmap f (if bytesBefore x.1 y.1 = true then x :: y :: r else y :: gins x r)
    split
    · rfl
    · rw [ih]; rfl
theorem gput_map (f : α → β) (k : Bs) (v : α) (l : List (Bs × α)) : gput k (f v) (gmap f l) = gmap f (gput k v l) := by
  unfold gput
  rw [gdel_map]
  exact gins_map f (k, v) _
theorem gget_map (f : α → β) (k : Bs) (l : List (Bs × α)) : gget k (gmap f l) = (gget k l).map f := by
  unfold gget gmap
  induction l with
  | nil => rfl
  | cons y r ih =>
    simp only [List.map_cons, List.find?_cons]
    cases y.1 == k
    · simpa using ih
    · rfl
theorem gmem_ins {x y : Bs × α} : ∀ {l : List (Bs × α)}, y ∈ gins x l ↔ y = x ∨ y ∈ l
  | [] => by simp [gins]
  | z :: r => by
    unfold gins
    split
    · simp
    · simp only [List.mem_cons, gmem_ins (l := r)]
      constructor
      · rintro (h | h | h) <;> simp [h]
      · rintro (h | h | h) <;> simp [h]
theorem gmem_del {k : Bs} {y : Bs × α} {l : List (Bs × α)} : y ∈ gdel k l ↔ y ∈ l ∧ y.1 ≠ k := by
  unfold gdel
  rw [List.mem_filter]
  simp
theorem gmem_put {k : Bs} {v : α} {y : Bs × α} {l : List (Bs × α)} : y ∈ gput k v l ↔ y = (k, v) ∨ (y ∈ l ∧ y.1 ≠ k) := by
  unfold gput
  rw [gmem_ins, gmem_del]
/-- rising by names -/
def Ris (l : List (Bs × α)) : Prop := l.Pairwise fun p q => bytesBefore p.1 q.1 = true
theorem Ris.nil : Ris ([] : List (Bs × α)) := List.Pairwise.nil
theorem Ris.del {l : List (Bs × α)} (h : Ris l) (k : Bs) : Ris (gdel k l) := h.filter _
theorem Ris.ins {x : Bs × α} : ∀ {l : List (Bs × α)}, Ris l → (∀ p ∈ l, p.1 ≠ x.1) → Ris (gins x l)
  | [], _, _ => List.pairwise_singleton _ _
  | y :: r, h, hn => by
    obtain ⟨h1, h2⟩ := List.pairwise_cons.1 h
    unfold gins
    split
    · rename_i hb
      refine List.pairwise_cons.2 ⟨fun q hq => ?_, h⟩
      rcases List.mem_cons.1 hq with rfl | hq
      · exact hb
      · exact bb_trans hb (h1 q hq)
    · rename_i hb
      have hyx : bytesBefore y.1 x.1 = true := by
        rcases bb_total (hn y (.head _)) with h' | h'
        · exact h'
        · exact absurd h' hb
      refine List.pairwise_cons.2 ⟨fun q hq => ?_, Ris.ins h2 fun p hp => hn p (.tail _ hp)⟩
      rcases gmem_ins.1 hq with rfl | hq
      · exact hyx
      · exact h1 q hq
theorem Ris.put {l : List (Bs × α)} (h : Ris l) (k : Bs) (v : α) : Ris (gput k v l) := (h.del k).ins fun p hp => (gmem_del.1 hp).2
theorem Ris.map {l : List (Bs × α)} (h : Ris l) (f : α → β) : Ris (gmap f l) := List.Pairwise.map _ (fun _ _ h => h) h
theorem gget_mem {k : Bs} {v : α} {l : List (Bs × α)} (h : gget k l = some v) : (k, v) ∈ l := by
  unfold gget at h
  cases hq : l.find? (fun p => p.1 == k) with
  | none => rw [hq] at h; cases h
  | some p =>
    rw [hq] at h
    have hm := List.mem_of_find?_eq_some hq
    have hk := List.find?_some hq
    obtain ⟨a, b⟩ := p
    simp only [beq_iff_eq, Option.map_some, Option.some.injEq] at hk h
    subst hk h
    exact hm
theorem gget_none {k : Bs} {l : List (Bs × α)} : gget k l = none ↔ ∀ p ∈ l, p.1 ≠ k := by
  unfold gget
  rw [Option.map_eq_none_iff, List.find?_eq_none]
  simp
theorem gget_of_mem {k : Bs} {v : α} {l : List (Bs × α)} (hr : Ris l) (h : (k, v) ∈ l) : gget k l = some v := by
  induction l with
  | nil => cases h
  | cons y r ih =>
    obtain ⟨h1, h2⟩ := List.pairwise_cons.1 hr
    unfold gget
    rw [List.find?_cons]
    rcases List.mem_cons.1 h with rfl | h
    · simp
    · have hy : (y.1 == k) = false := by
        rw [beq_eq_false_iff_ne]
        rintro rfl
        have := h1 _ h
        rw [bb_irrefl] at this
        cases this
      rw [hy]
      exact ih h2 h
theorem gget_del_same (k : Bs) (l : List (Bs × α)) : gget k (gdel k l) = none := gget_none.2 fun p hp => (gmem_del.1 hp).2
theorem gget_del_other {k j : Bs} (h : j ≠ k) : ∀ l : List (Bs × α), gget j (gdel k l) = gget j l
  | [] => rfl
  | y :: r => by
    have ih := gget_del_other h r
    unfold gget gdel at ih ⊢
    rw [List.filter_cons]
    by_cases hy : y.1 = k
    · have hyj : (y.1 == j) = false := by rw [beq_eq_false_iff_ne, hy]; exact fun e => h e.symm
      rw [if_neg (by simp [hy]), List.find?_cons, hyj]
      exact ih
    · rw [if_pos (by simp [hy]), List.find?_cons, List.find?_cons]
      cases y.1 == j
      · exact ih
      · rfl
theorem gget_ins_same (k : Bs) (v : α) : ∀ l : List (Bs × α), (∀ p ∈ l, p.1 ≠ k) → gget k (gins (k, v) l) = some v
  | [], _ => by simp [gins, gget]
  | y :: r, h => by
    have ih := gget_ins_same k v r fun p hp => h p (.tail _ hp)
    unfold gins
    split
    · simp [gget]
    · unfold gget at ih ⊢
      rw [List.find?_cons, show (y.1 == k) = false from beq_eq_false_iff_ne.2 (h y (.head _))]
      exact ih
theorem gget_ins_other {k j : Bs} (v : α) (h : j ≠ k) : ∀ l : List (Bs × α), gget j (gins (k, v) l) = gget j l
  | [] => by
    have : (k == j) = false := beq_eq_false_iff_ne.2 fun e => h e.symm
    simp [gins, gget, this]
  | y :: r => by
    have ih := gget_ins_other v h r
    have hk : (k == j) = false := beq_eq_false_iff_ne.2 fun e => h e.symm
    unfold gins
    split
    · unfold gget
      rw [List.find?_cons, hk]
    · unfold gget at ih ⊢
      rw [List.find?_cons, List.find?_cons]
      cases y.1 == j
      · exact ih
      · rfl
theorem gget_put_same (k : Bs) (v : α) (l : List (Bs × α)) : gget k (gput k v l) = some v := gget_ins_same k v _ fun _ hp => (gmem_del.1 hp).2
theorem gget_put_other {k j : Bs} (v : α) (h : j ≠ k) (l : List (Bs × α)) : gget j (gput k v l) = gget j l := by
  unfold gput
  rw [gget_ins_other v h, gget_del_other h]
theorem glen_ins (x : Bs × α) : ∀ l : List (Bs × α), (gins x l).length = l.length + 1
  | [] => rfl
  | y :: r => by
    unfold gins
    split
    · rfl
    · simp [glen_ins x r]
theorem glen_put (k : Bs) (v : α) (l : List (Bs × α)) : (gput k v l).length ≤ l.length + 1 := by
  unfold gput gdel
  rw [glen_ins]
  have := List.length_filter_le (fun p : Bs × α => !(p.1 == k)) l
  omega
theorem glen_del (k : Bs) (l : List (Bs × α)) : (gdel k l).length ≤ l.length := List.length_filter_le _ _
/-- two that are rising and hold the same are one -/
theorem Ris.ext : ∀ {l l' : List (Bs × α)}, Ris l → Ris l' → (∀ p, p ∈ l ↔ p ∈ l') → l = l'
  | [], [], _, _, _ => rfl
  | [], y :: r, _, _, h => absurd ((h y).2 (.head _)) (by simp)
  | x :: r, [], _, _, h => absurd ((h x).1 (.head _)) (by simp)
  | x :: r, y :: s, hl, hl', h => by
    obtain ⟨h1, h2⟩ := List.pairwise_cons.1 hl
    obtain ⟨k1, k2⟩ := List.pairwise_cons.1 hl'
    have hxy : x = y := by
      rcases List.mem_cons.1 ((h x).1 (.head _)) with e | e
      · exact e
      · rcases List.mem_cons.1 ((h y).2 (.head _)) with e2 | e2
        · exact e2.symm
        · have a := k1 _ e
          have b := h1 _ e2
          have := bb_trans a b
          rw [bb_irrefl] at this
          cases this
    subst hxy
    congr 1
    refine Ris.ext h2 k2 fun p => ⟨fun hp => ?_, fun hp => ?_⟩
    · rcases List.mem_cons.1 ((h p).1 (.tail _ hp)) with rfl | e
      · have := h1 _ hp; rw [bb_irrefl] at this; cases this
      · exact e
    · rcases List.mem_cons.1 ((h p).2 (.tail _ hp)) with rfl | e
      · have := k1 _ hp; rw [bb_irrefl] at this; cases this
      · exact e
end

/-! ### changes, disks -/
/-- a change: its kind (0: a write, 1: a rename, 2: a removal), its name, the other name, its bytes -/
structure Chg (α : Type) where
  kind : Nat
  name : Bs
  to : Bs
  val : α
/-- a disk -/
structure Dk (α : Type) where
  room : Int
  sure : List (Bs × α)
  pend : List (Chg α)
  fuse : Int
  down : Bool
section
variable {α β : Type}
def Chg.map (f : α → β) (c : Chg α) : Chg β := ⟨c.kind, c.name, c.to, f c.val⟩
def Dk.map (f : α → β) (d : Dk α) : Dk β := ⟨d.room, gmap f d.sure, d.pend.map (Chg.map f), d.fuse, d.down⟩
def fdo (l : List (Bs × α)) (c : Chg α) : List (Bs × α) :=
  if c.kind = 0 then gput c.name c.val l else match gget c.name l with
    | none => l
    | some b => if c.kind = 1 then gput c.to b (gdel c.name l) else gdel c.name l
theorem fdo_map (f : α → β) (l : List (Bs × α)) (c : Chg α) : fdo (gmap f l) (c.map f) = gmap f (fdo l c) := by
  unfold fdo Chg.map
  dsimp only
  split
  · exact gput_map f _ _ _
  · rw [gget_map]
    cases gget c.name l with
    | none => rfl
    | some b =>
      dsimp only [Option.map_some]
      split
      · rw [gdel_map, gput_map]
      · rw [gdel_map]
theorem Ris.fdo {l : List (Bs × α)} (h : Ris l) (c : Chg α) : Ris (fdo l c) := by
  unfold Go.Proofs.YtddmfoldnlafaaaGreatDoor.fdo
  split
  · exact h.put _ _
  · split
    · exact h
    · split
      · exact (h.del _).put _ _
      · exact h.del _
theorem flen_do (l : List (Bs × α)) (c : Chg α) : (fdo l c).length ≤ l.length + 1 := by
  unfold fdo
  split
  · exact glen_put _ _ _
  · split
    · omega
    · split
      · have h1 := glen_del c.name l
        rename_i b _ _
        have h2 := glen_put c.to b (gdel c.name l)
        omega
      · have := glen_del c.name l
        omega
def fdos (l : List (Bs × α)) (cs : List (Chg α)) : List (Bs × α) := cs.foldl fdo l
theorem fdos_map (f : α → β) (l : List (Bs × α)) : ∀ cs : List (Chg α), fdos (gmap f l) (cs.map (Chg.map f)) = gmap f (fdos l cs) := fun cs => by
  unfold fdos
  induction cs generalizing l with
  | nil => rfl
  | cons c r ih => rw [List.map_cons, List.foldl_cons, List.foldl_cons, fdo_map, ih]
theorem Ris.fdos {l : List (Bs × α)} (h : Ris l) (cs : List (Chg α)) : Ris (fdos l cs) := by
  unfold Go.Proofs.YtddmfoldnlafaaaGreatDoor.fdos
  induction cs generalizing l with
  | nil => exact h
  | cons c r ih => exact ih (h.fdo c)
theorem flen_dos (l : List (Bs × α)) (cs : List (Chg α)) : (fdos l cs).length ≤ l.length + cs.length := by
  unfold fdos
  induction cs generalizing l with
  | nil => simp
  | cons c r ih =>
    have h1 := ih (fdo l c)
    have h2 := flen_do l c
    simp only [List.foldl_cons, List.length_cons]
    omega
theorem fdos_snoc (l : List (Bs × α)) (cs : List (Chg α)) (c : Chg α) : fdos l (cs ++ [c]) = fdo (fdos l cs) c := by
  unfold fdos
  rw [List.foldl_append]
  rfl
def Dk.shown (d : Dk α) : List (Bs × α) := fdos d.sure d.pend
theorem shown_map (f : α → β) (d : Dk α) : (d.map f).shown = gmap f d.shown := fdos_map f d.sure d.pend
/-- an operation counted; an error's number -/
def dWorks (d : Dk α) : Dk α × Nat :=
  if d.down = true then (d, 14) else if d.fuse = 0 then ({ d with down := true }, 14) else if 0 < d.fuse then ({ d with fuse := d.fuse - 1 }, 0) else (d, 0)
def dAdd (d : Dk α) (c : Chg α) : Dk α := { d with pend := d.pend ++ [c] }
def isSign (c : UInt8) : Bool := (97 ≤ c && c ≤ 122) || (48 ≤ c && c ≤ 57) || c == 45 || c == 46 || c == 126
def named (s : Bs) : Bool := decide (1 ≤ s.length) && decide (s.length ≤ 24) && s.all isSign
def fused (len : α → Nat) (l : List (Bs × α)) : Nat := (l.map fun p => len p.2).sum
def dWrite (len : α → Nat) (d : Dk α) (n : Bs) (v : α) : Dk α × Nat :=
  if (dWorks d).2 ≠ 0 then dWorks d
  else if named n = false then ((dWorks d).1, 2)
  else if 65536 < len v then ((dWorks d).1, 3)
  else if (gget n d.shown).isNone = true ∧ 512 ≤ d.shown.length ∨ d.room < (fused len d.shown : Int) - ((gget n d.shown).map len).getD 0 + len v then ((dWorks d).1, 5)
  else (dAdd (dWorks d).1 ⟨0, n, [], v⟩, 0)
/-- z: no bytes -/
def dRename (z : α) (d : Dk α) (n t : Bs) : Dk α × Nat :=
  if (dWorks d).2 ≠ 0 then dWorks d
  else if named n = false ∨ named t = false then ((dWorks d).1, 2)
  else if (gget n d.shown).isNone = true then ((dWorks d).1, 4)
  else (dAdd (dWorks d).1 ⟨1, n, t, z⟩, 0)
def dRemove (z : α) (d : Dk α) (n : Bs) : Dk α × Nat :=
  if (dWorks d).2 ≠ 0 then dWorks d
  else if named n = false then ((dWorks d).1, 2)
  else if (gget n d.shown).isNone = true then ((dWorks d).1, 4)
  else (dAdd (dWorks d).1 ⟨2, n, [], z⟩, 0)
def dSync (d : Dk α) : Dk α × Nat :=
  if (dWorks d).2 ≠ 0 then dWorks d else ({ (dWorks d).1 with sure := d.shown, pend := [] }, 0)
def kept (keep : List Bool) (cs : List (Chg α)) : List (Chg α) := ((cs.zip keep).filter (·.2)).map (·.1)
def dCut (keep : List Bool) (d : Dk α) : Dk α := { d with sure := fdos d.sure (kept keep d.pend), pend := [], down := true }
def dStart (d : Dk α) : Dk α := if d.down = true then { d with pend := [], down := false, fuse := -1 } else { d with fuse := -1 }
end
end Go.Proofs.YtddmfoldnlafaaaGreatDoor

namespace Go.Proofs.YtddmfoldnlafaaaGreatDoor
open Go.RowKit Go.Maps Go.Sort

/-- a slice of bytes with what it holds -/
structure Sv where
  A : Option Addr
  c : Nat
  l : Bs
def Sv.v (s : Sv) : Value := .slice s.A s.l.length s.c
def Sv.nil : Sv := ⟨none, 0, []⟩
/-- how a map's element is kept: as it is -/
def tok (v : Value) : Option (DataW Value × List MemPlace) := some (.held v, [])
def dat (l : List (Bs × Sv)) : DataW Value := .map (l.map fun p => (.string p.1, .held p.2.v))
theorem sameKey_str (a b : Bs) : (Lit.string a).sameKey (.string b) = (a == b) := rfl
theorem dat_put (k : Bs) (s : Sv) (l : List (Bs × Sv)) : (dat l).put (.string k) (.held s.v) = dat (gput k s l) := by
  unfold dat gput gdel
  rw [DataW.put_eq]
  unfold ChangeMaps.putKey
  congr 1
  rw [List.filter_map]
  have hf : (ChangeMaps.notKey (Lit.string k) ∘ fun p : Bs × Sv => ((Lit.string p.1, DataW.held p.2.v) : Lit × DataW Value)) = fun p => !(p.1 == k) := rfl
  rw [hf]
  generalize List.filter (fun p : Bs × Sv => !(p.1 == k)) l = r
  induction r with
  | nil => rfl
  | cons y r ih =>
    show (if (Lit.string k).before (.string y.1) = true then _ else _) = List.map _ (if bytesBefore k y.1 = true then _ else _)
    rw [show (Lit.string k).before (.string y.1) = bytesBefore k y.1 from rfl]
    split
    · rfl
    · rw [List.map_cons, ← ih]
theorem dat_del (k : Bs) (l : List (Bs × Sv)) : (dat l).del (.string k) = dat (gdel k l) := by
  unfold dat gdel
  rw [DataW.del_eq]
  unfold ChangeMaps.delKey
  rw [List.filter_map]
  rfl
theorem dat_at (k : Bs) (l : List (Bs × Sv)) : (dat l).atKey (.string k) (.held (.slice none 0 0)) = .held (((gget k l).map Sv.v).getD (.slice none 0 0)) := by
  unfold dat gget DataW.atKey
  dsimp only
  rw [List.find?_map]
  have hf : ((fun p : Lit × DataW Value => p.1.sameKey (Lit.string k)) ∘ fun p : Bs × Sv => ((Lit.string p.1, DataW.held p.2.v) : Lit × DataW Value)) = fun p => p.1 == k := rfl
  rw [hf]
  cases l.find? (fun p => p.1 == k) <;> rfl
theorem dat_has (k : Bs) (l : List (Bs × Sv)) : Maps.has (dat l) (.string k) = (gget k l).isSome := by
  unfold dat gget
  rw [Maps.has_eq]
  induction l with
  | nil => rfl
  | cons y r ih =>
    rw [List.map_cons, List.any_cons, List.find?_cons]
    show (y.1 == k || _) = _
    cases hy : y.1 == k
    · rw [Bool.false_or]; exact ih
    · rfl
theorem dat_size (l : List (Bs × Sv)) : Maps.size (dat l) = l.length := by unfold dat; rw [Maps.size_eq, List.length_map]

section
variable {P : Program} {K T E : TypeId} {w w' : World} {b n : Nat} {l : List (Bs × Sv)}
/-- block b is a map that holds l -/
def Om (P : Program) (K : TypeId) (w : World) (b : Nat) (l : List (Bs × Sv)) : Prop := w.ownsMap P K tok b l.length (dat l)
theorem key_str (hK : P.underlying K = some .string) {k : Bs} (hk : k.length ≤ maxLen) : keyOf P K (.string ⟨k.toArray⟩) = some (.string k) := by
  have := Go.WideMaps.keyOf_string_mk hK (s := ⟨k.toArray⟩) (by simpa [ByteArray.size] using hk)
  simpa using this
theorem Om.of (h : w.ownsMap P K tok b n (dat l)) : Om P K w b l := by
  obtain ⟨es, clock, hb, F, _, hD⟩ := h
  refine ⟨es, clock, hb, F, ?_, hD⟩
  have h1 : (dat l) = .map (l.map fun p => (.string p.1, .held p.2.v)) := rfl
  rw [h1] at hD
  injection hD with hD
  have h2 := congrArg List.length hD
  rw [length_sorted] at h2
  simp at h2
  omega
theorem Om.lt (h : Om P K w b l) : b < w.heap.size := World.ownsMap.lt h
theorem Om.same (h : Om P K w b l) (e : w'.heap[b]? = w.heap[b]?) : Om P K w' b l := by
  obtain ⟨es, clock, hb, r⟩ := h
  exact ⟨es, clock, e.trans hb, r⟩
theorem Om.new (w : World) : Om P K (w.alloc (.map #[] 0)) w.heap.size [] := World.ownsMap_made w P K tok
theorem Om.look (h : Om P K w b l) (hK : P.underlying K = some .string) (hT : P.underlying T = some (.map K E)) (hz : (zeroValue E).run P w = .ok (.slice none 0 0) w) {k : Bs} (hk : k.length ≤ maxLen) :
    (Instr.lookup T (.map (some b)) (.string ⟨k.toArray⟩) true).run P w = .ok (.tuple #[((gget k l).map Sv.v).getD (.slice none 0 0), .bool (gget k l).isSome]) w := by
  obtain ⟨v, ps, hrun, hv⟩ := h.look_ok (string_keyed hK) hT hz (zd := .held (.slice none 0 0)) (zp := []) rfl (key := .string ⟨k.toArray⟩) (kl := .string k) (key_str hK hk)
  rw [dat_at, dat_has] at *
  unfold tok at hv
  injection hv with hv
  injection hv with hv
  injection hv with hv
  subst hv
  exact hrun
theorem Om.look1 (h : Om P K w b l) (hK : P.underlying K = some .string) (hT : P.underlying T = some (.map K E)) (hz : (zeroValue E).run P w = .ok (.slice none 0 0) w) {k : Bs} (hk : k.length ≤ maxLen) :
    (Instr.lookup T (.map (some b)) (.string ⟨k.toArray⟩) false).run P w = .ok (((gget k l).map Sv.v).getD (.slice none 0 0)) w := by
  obtain ⟨v, ps, hrun, hv⟩ := h.lookup (string_keyed hK) hT hz (zd := .held (.slice none 0 0)) (zp := []) rfl (key := .string ⟨k.toArray⟩) (kl := .string k) (key_str hK hk)
  rw [dat_at] at hv
  unfold tok at hv
  injection hv with hv
  injection hv with hv
  injection hv with hv
  subst hv
  exact hrun
theorem Om.len (h : Om P K w b l) (hT : P.underlying T = some (.map K E)) (ty : TypeId) : (Builtin.len_ #[T] ty #[.map (some b)]).run P w = .ok (.int .i64 l.length) w := by
  have := World.ownsMap.len h hT ty
  rw [dat_size] at this
  exact this
theorem Om.store (h : Om P K w b l) (hK : P.underlying K = some .string) (hT : P.underlying T = some (.map K E)) (hn : l.length < maxLen) {k : Bs} (hk : k.length ≤ maxLen) (s : Sv) :
    ∃ w', (Instr.mapUpdate T (.map (some b)) (.string ⟨k.toArray⟩) s.v).run P w = .ok () w' ∧ Om P K w' b (gput k s l) ∧ w.grownBy w' (some b) := by
  obtain ⟨w', hrun, h1, h2⟩ := World.ownsMap.store h (string_keyed hK) hT hn (key := .string ⟨k.toArray⟩) (val := s.v) (kl := .string k) (d := .held s.v) (ps := []) (key_str hK hk) rfl
  rw [dat_put] at h1
  exact ⟨w', hrun, Om.of h1, h2.grown⟩
theorem Om.drop (h : Om P K w b l) (hK : P.underlying K = some .string) (hT : P.underlying T = some (.map K E)) {k : Bs} (hk : k.length ≤ maxLen) (ty : TypeId) :
    ∃ w', (Builtin.delete_ #[T, K] ty #[.map (some b), .string ⟨k.toArray⟩]).run P w = .ok (.tuple #[]) w' ∧ Om P K w' b (gdel k l) ∧ w.grownBy w' (some b) := by
  obtain ⟨w', hrun, h1, h2⟩ := World.ownsMap.drop h (string_keyed hK) hT (key := .string ⟨k.toArray⟩) (kl := .string k) (key_str hK hk) ty
  rw [dat_del] at h1
  exact ⟨w', hrun, Om.of h1, h2.grown⟩
end
end Go.Proofs.YtddmfoldnlafaaaGreatDoor

namespace Go.Proofs.YtddmfoldnlafaaaGreatDoor
open Go.RowKit

/-- how many bits a number has -/
def blen (n : Nat) : Nat := if h : n = 0 then 0 else blen (n / 2) + 1
  termination_by n
theorem blen_zero : blen 0 = 0 := by rw [blen, dif_pos rfl]
theorem blen_pos {n : Nat} (h : n ≠ 0) : blen n = blen (n / 2) + 1 := by rw [blen, dif_neg h]
theorem blen_div (k : Nat) : ∀ n, 2 ^ k ≤ n → blen n = blen (n / 2 ^ k) + k := by
  induction k with
  | zero => intro n _; simp
  | succ k ih =>
    intro n h
    have hp : 0 < 2 ^ k := Nat.pow_pos (by decide)
    rw [Nat.pow_succ] at h
    rw [ih n (by omega)]
    have hq : n / 2 ^ k ≠ 0 := by
      have : 0 < n / 2 ^ k := Nat.div_pos (by omega) hp
      omega
    rw [blen_pos hq, Nat.div_div_eq_div_mul, ← Nat.pow_succ]
    show blen (n / 2 ^ (k + 1)) + 1 + k = blen (n / 2 ^ (k + 1)) + (k + 1)
    omega
theorem size_vb (n : Nat) : (vb n).length = max ((blen n + 6) / 7) 1 := by
  induction n using Nat.strongRecOn with
  | _ n ih =>
    by_cases h : n < 128
    · rw [vb_small h]
      have hb : blen n ≤ 7 := by
        have h1 : ∀ j : Fin 128, blen j.val ≤ 7 := by decide +kernel
        exact h1 ⟨n, h⟩
      simp only [List.length_cons, List.length_nil]
      omega
    · rw [vb_step (by omega), List.length_cons, ih (n / 128) (by omega), blen_div 7 n (by omega)]
      have : n / 128 ≠ 0 := by omega
      have := blen_pos this
      rw [show n / 2 ^ 7 = n / 128 from rfl]
      omega
end Go.Proofs.YtddmfoldnlafaaaGreatDoor

namespace Go.Proofs.YtddmfoldnlafaaaGreatDoor
open Go.RowKit

set_option maxRecDepth 100000 in
set_option maxHeartbeats 400000 in
theorem nBytes_any (A B : Option Addr) (c d : Nat) (l m : List UInt8) (w : World) (ha : SlB w A c l) (hb : SlB w B d m) :
    Calls Tryz.prog 18 #[.slice A l.length c, .slice B m.length d] w fun e w' => e = .returned (.bool (l == m)) ∧ w = w' := by
  have h1 := conv_str (P := Tryz.prog) 25 9 5 Tryz.underlying25 Tryz.underlying5 Tryz.underlying9 ha rfl
  have h2 := conv_str (P := Tryz.prog) 25 9 5 Tryz.underlying25 Tryz.underlying5 Tryz.underlying9 hb rfl
  go_enter Tryz.func18, Tryz.ntmps18
  go_wp2_with fail
  go_ret
  exact ⟨rfl, rfl⟩

set_option maxRecDepth 100000 in
set_option maxHeartbeats 400000 in
theorem rText_any (A : Option Addr) (c : Nat) (t : List UInt8) (w : World) (hs : SlB w A c t) (ht : t.length ≤ 10000000) :
    Calls Tryz.prog 164 #[.slice A t.length c] w (GivesB w (vb t.length ++ t)) := by
  have hu : U64 t.length := by unfold U64; omega
  have hw := wrap_u64_of hu
  go_enter Tryz.func164, Tryz.ntmps164
  go_wp2_with fail
  refine (rBytes_any t.length hu _).mono ?_
  rintro e w1 ⟨A1, c1, m1, rfl, hm1, ho1, hb1⟩
  have hml : m1.length ≤ 10 := by rw [hm1.out]; exact vb_le10 hu
  go_wp2_with (at_builtin; go_must (refine wpl_bytes 25 5 Tryz.underlying25 u8_info rfl _ _ rfl w.heap.size A1 c1 m1 rfl ho1 A c t rfl (hs.below hb1) (by omega) hb1.size ?_; intro A3 c3 m3 w3 hm3 ho3 _ _ hb3))
  go_ret
  exact ⟨A3, c3, m3, rfl, by rw [hm3.out, hm1.out]; rfl, ho3, hb1.trans hb3⟩

theorem bl_eq (n : Nat) (h : n < 18446744073709551616) : Lib.bitLen n = blen n := by
  -- 197
  induction n using Nat.strongRecOn with
  | _ n ih =>
    by_cases h0 : n = 0
    · subst h0; rw [blen_zero]; rfl
    · rw [Lib.bitLen_half n h0 h, ih (n / 2) (by omega) (by omega), blen_pos h0]
      omega
end Go.Proofs.YtddmfoldnlafaaaGreatDoor
