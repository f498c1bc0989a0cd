/- WHAT IT HOLDS: two owners and their clocks, plainly (no program): what stays true through any asks. -/
import Derived.Test.YtkkcgibmcijhaaaLeaseG
import Derived.Test.YtkkcgibmcijhaaaLeaseR
namespace Go.Proofs.Ytkkcgibmcijhaaa
open Go.RowKit

abbrev i64 {H : Type} (n : Int) : DataW H := .lit (.int .i64 n)
/-- a lease as three numbers -/
abbrev L3 := Int × Int × Int
def hold3 (k : L3) (p now : Int) : Bool := holdsb k.1 k.2.1 k.2.2 p now
/-- what is true between two asks: the lease, what both remember, their clocks; i asks have been -/
structure LInv (bound : Int) (i : Nat) (l k1 k2 : L3) (n1 n2 : Int) : Prop where
  ok : chk l.1 l.2.1 l.2.2 = 0
  p1 : 0 ≤ n1 ∧ n1 ≤ i * 2147483648
  p2 : 0 ≤ n2 ∧ n2 ≤ i * 2147483648
  near : n1 - n2 ≤ bound ∧ n2 - n1 ≤ bound
  o1 : l.1 = 1 → k1 = l
  o2 : l.1 = 2 → k2 = l
  h1 : l.1 ≠ 1 → hold3 k1 1 n1 = false
  h2 : l.1 ≠ 2 → hold3 k2 2 n2 = false

theorem holdsb_owner {o e u p now : Int} (h : o ≠ p) : holdsb o e u p now = false := by
  unfold holdsb; simp [h]
theorem holdsb_late {o e u p now : Int} (h : u ≤ now) : holdsb o e u p now = false := by
  unfold holdsb; simp [show ¬ now < u from by omega]
theorem holdsb_mono {o e u p now now' : Int} (h : holdsb o e u p now = false) (hn : now ≤ now') : holdsb o e u p now' = false := by
  unfold holdsb at h ⊢
  by_cases h1 : now' < u
  · have : now < u := by omega
    simpa [h1, this] using h
  · simp [h1]

theorem LInv.start {bound : Int} (h : 0 ≤ bound) : LInv bound 0 (0, 0, 0) (0, 0, 0) (0, 0, 0) 0 0 :=
  ⟨by decide, by simp, by simp, by simpa using h, fun h => by simp at h, fun h => by simp at h, fun _ => holdsb_owner (by simp), fun _ => holdsb_owner (by simp)⟩
theorem LInv.both {bound : Int} {i : Nat} {l k1 k2 : L3} {n1 n2 : Int} (H : LInv bound i l k1 k2 n1 n2) : (hold3 k1 1 n1 && hold3 k2 2 n2) = false := by
  by_cases h : l.1 = 1
  · rw [H.h2 (by omega)]; simp
  · rw [H.h1 h]; simp
theorem LInv.more {bound : Int} {i : Nat} {l k1 k2 : L3} {n1 n2 : Int} (H : LInv bound i l k1 k2 n1 n2) : LInv bound (i + 1) l k1 k2 n1 n2 := by
  obtain ⟨a, b, c, d, e, f, g, h⟩ := H
  exact ⟨a, by omega, by omega, d, e, f, g, h⟩

theorem give_ok {o e u by_ : Int} (h : (give o e u by_).2.2.2 = 0) : give o e u by_ = (0, e, 0, 0) ∧ o = by_ ∧ chk o e u = 0 ∧ ownb by_ = true := by
  unfold give at h ⊢
  by_cases h1 : chk o e u ≠ 0
  · rw [if_pos h1] at h; exact absurd h h1
  · rw [if_neg h1] at h ⊢
    cases h2 : ownb by_
    · rw [if_pos h2] at h; simp at h
    · rw [if_neg (by simp [h2])] at h ⊢
      by_cases h3 : o ≠ by_
      · rw [if_pos h3] at h; simp at h
      · rw [if_neg h3]
        exact ⟨rfl, by omega, by omega, rfl⟩
theorem inb_list {a b : Int} (h1 : 0 ≤ a ∧ a ≤ 1099511627776) (h2 : 0 ≤ b ∧ b ≤ 1099511627776) : inb [a, b] = true := by
  simp [inb]; omega
theorem chk_of {o e u : Int} (h1 : 1 ≤ o ∧ o ≤ 2) (h2 : 0 ≤ e ∧ e ≤ 1099511627776) (h3 : 0 ≤ u ∧ u ≤ 1099511627776) : chk o e u = 0 := by
  unfold chk
  rw [if_neg, if_neg (by omega)]
  rw [inb_list h2 h3, ownb_of (by omega) (by omega)]
  simp
/-- what is granted -/
theorem grant_cases {o e u to now span bound : Int} (hc : chk o e u = 0) (h : (grant o e u to now span bound).2.2.2 = 0) :
    (1 ≤ to ∧ to ≤ 2) ∧ chk (grant o e u to now span bound).1 (grant o e u to now span bound).2.1 (grant o e u to now span bound).2.2.1 = 0 ∧ (grant o e u to now span bound).1 = to ∧
    ((o = to ∧ (grant o e u to now span bound).2.1 = e) ∨ (o ≠ to ∧ (o = 0 ∨ u + bound ≤ now) ∧ (grant o e u to now span bound).2.1 = e + 1)) := by
  have hk := chk_ok hc
  unfold grant at h ⊢
  rw [if_neg (by omega)] at h ⊢
  by_cases h1 : ownb to = false ∨ inb [now, span, bound] = false
  · rw [if_pos h1] at h; simp at h
  rw [if_neg h1] at h ⊢
  have hto : ownb to = true := by cases h4 : ownb to <;> simp_all
  have hto2 : 1 ≤ to ∧ to ≤ 2 := by unfold ownb at hto; exact of_decide_eq_true hto
  have hin : inb [now, span, bound] = true := by cases h4 : inb [now, span, bound] <;> simp_all
  have hin3 := inb_three hin
  by_cases h2 : o ≠ to ∧ freeb o e u now bound = false
  · rw [if_pos h2] at h; simp at h
  rw [if_neg h2] at h ⊢
  by_cases h3 : o ≠ to
  · rw [if_pos h3] at h ⊢
    have hf : freeb o e u now bound = true := by cases h4 : freeb o e u now bound <;> simp_all
    cases h5 : inb [e + 1, now + span]
    · rw [h5] at h; simp at h
    · have h6 := inb_two h5
      simp only [if_true]
      refine ⟨hto2, chk_of hto2 h6.1 h6.2, trivial, Or.inr ⟨h3, ?_, trivial⟩⟩
      unfold freeb at hf
      simp at hf
      omega
  · rw [if_neg h3] at h ⊢
    cases h5 : inb [e, now + span]
    · rw [h5] at h; simp at h
    · have h6 := inb_two h5
      simp only [if_true]
      exact ⟨hto2, chk_of hto2 h6.1 (by omega), trivial, Or.inl ⟨by omega, trivial⟩⟩

theorem LInv.give1 {bound : Int} {i : Nat} {l k1 k2 : L3} {n1 n2 : Int} (H : LInv bound i l k1 k2 n1 n2) (h : (give l.1 l.2.1 l.2.2 1).2.2.2 = 0) : LInv bound i (0, l.2.1, 0) (0, l.2.1, 0) k2 n1 n2 := by
  obtain ⟨_, ho, hc, _⟩ := give_ok h
  exact ⟨chk_free hc, H.p1, H.p2, H.near, fun _ => rfl, fun h => by simp at h, fun _ => holdsb_owner (by simp), fun _ => H.h2 (by omega)⟩
theorem LInv.give2 {bound : Int} {i : Nat} {l k1 k2 : L3} {n1 n2 : Int} (H : LInv bound i l k1 k2 n1 n2) (h : (give l.1 l.2.1 l.2.2 2).2.2.2 = 0) : LInv bound i (0, l.2.1, 0) k1 (0, l.2.1, 0) n1 n2 := by
  obtain ⟨_, ho, hc, _⟩ := give_ok h
  exact ⟨chk_free hc, H.p1, H.p2, H.near, fun h => by simp at h, fun _ => rfl, fun _ => H.h1 (by omega), fun _ => holdsb_owner (by simp)⟩
theorem LInv.grant1 {bound span : Int} {i : Nat} {l k1 k2 : L3} {n1 n2 : Int} (H : LInv bound i l k1 k2 n1 n2) (h : (grant l.1 l.2.1 l.2.2 1 n1 span bound).2.2.2 = 0) {x : L3}
    (hx : x = ((grant l.1 l.2.1 l.2.2 1 n1 span bound).1, (grant l.1 l.2.1 l.2.2 1 n1 span bound).2.1, (grant l.1 l.2.1 l.2.2 1 n1 span bound).2.2.1)) : LInv bound i x x k2 n1 n2 := by
  obtain ⟨_, hc, hto, hcase⟩ := grant_cases H.ok h
  subst hx
  refine ⟨hc, H.p1, H.p2, H.near, fun _ => rfl, fun h => ?_, fun h => absurd hto h, fun _ => ?_⟩
  · rw [hto] at h; simp at h
  · rcases hcase with ⟨h1, _⟩ | ⟨h1, h2 | h2, _⟩
    · exact H.h2 (by omega)
    · exact H.h2 (by omega)
    · by_cases h3 : l.1 = 2
      · rw [H.o2 h3]
        exact holdsb_late (by have := H.near; omega)
      · exact H.h2 h3
theorem LInv.grant2 {bound span : Int} {i : Nat} {l k1 k2 : L3} {n1 n2 : Int} (H : LInv bound i l k1 k2 n1 n2) (h : (grant l.1 l.2.1 l.2.2 2 n2 span bound).2.2.2 = 0) {x : L3}
    (hx : x = ((grant l.1 l.2.1 l.2.2 2 n2 span bound).1, (grant l.1 l.2.1 l.2.2 2 n2 span bound).2.1, (grant l.1 l.2.1 l.2.2 2 n2 span bound).2.2.1)) : LInv bound i x k1 x n1 n2 := by
  obtain ⟨_, hc, hto, hcase⟩ := grant_cases H.ok h
  subst hx
  refine ⟨hc, H.p1, H.p2, H.near, fun h => ?_, fun _ => rfl, fun _ => ?_, fun h => absurd hto h⟩
  · rw [hto] at h; simp at h
  · rcases hcase with ⟨h1, _⟩ | ⟨h1, h2 | h2, _⟩
    · exact H.h1 (by omega)
    · exact H.h1 (by omega)
    · by_cases h3 : l.1 = 1
      · rw [H.o1 h3]
        exact holdsb_late (by have := H.near; omega)
      · exact H.h1 h3
theorem LInv.time {bound : Int} {i : Nat} {l k1 k2 : L3} {n1 n2 m1 m2 : Int} (H : LInv bound i l k1 k2 n1 n2) (a1 : n1 ≤ m1) (a2 : n2 ≤ m2) (b1 : m1 ≤ n1 + 2147483648 ∨ m1 ≤ n2 + 2147483648) (b2 : m2 ≤ n2 + 2147483648 ∨ m2 ≤ n1 + 2147483648) (hn : m1 - m2 ≤ bound ∧ m2 - m1 ≤ bound) : LInv bound (i + 1) l k1 k2 m1 m2 := by
  obtain ⟨a, b, c, d, e, f, g, h⟩ := H
  exact ⟨a, by omega, by omega, hn, e, f, fun q => holdsb_mono (g q) a1, fun q => holdsb_mono (h q) a2⟩

/-- the epochs that have been, each with its owner -/
structure EInv {H : Type} (D : DataW H) (l : L3) : Prop where
  upto : ∀ x : Int, Maps.has D (.int .i64 x) = true → x ≤ l.2.1
  own : l.1 ≠ 0 → Maps.has D (.int .i64 l.2.1) = true → D.atKey (.int .i64 l.2.1) (i64 0) = i64 l.1
/-- the lease has turned as it may -/
def Turn (l x : L3) : Prop := x = l ∨ x = (0, l.2.1, 0) ∨ (x.1 = l.1 ∧ x.2.1 = l.2.1) ∨ x.2.1 = l.2.1 + 1
theorem Turn.epoch {l x : L3} (h : Turn l x) : l.2.1 ≤ x.2.1 := by
  rcases h with rfl | rfl | ⟨_, h⟩ | h
  · omega
  · show l.2.1 ≤ l.2.1; omega
  · omega
  · omega
theorem EInv.turn {H : Type} {D : DataW H} {l x : L3} (E : EInv D l) (h : Turn l x) : EInv D x := by
  refine ⟨fun k hk => Int.le_trans (E.upto k hk) h.epoch, fun h0 hh => ?_⟩
  rcases h with rfl | rfl | ⟨h1, h2⟩ | h
  · exact E.own h0 hh
  · exact absurd rfl h0
  · rw [h1, h2]; rw [h2] at hh; exact E.own (by rw [← h1]; exact h0) hh
  · have := E.upto _ hh; omega
theorem EInv.put {H : Type} {D : DataW H} {l : L3} (E : EInv D l) (hm : Maps.IsMap D) (hk : WideAt.IsKeyLit (.int .i64 l.2.1)) : EInv (D.put (.int .i64 l.2.1) (i64 l.1)) l := by
  refine ⟨fun k hh => ?_, fun _ _ => Maps.atKey_put_same hm hk _ _⟩
  by_cases h : k = l.2.1
  · omega
  · rw [Maps.has_put_other (by intro he; injection he with _ he; exact h he)] at hh
    exact E.upto k hh
theorem EInv.start {H : Type} : EInv (.map [] : DataW H) (0, 0, 0) := ⟨fun x h => by simp [Maps.has] at h, fun h => absurd rfl h⟩
theorem turn_give {o e u p : Int} (h : (give o e u p).2.2.2 = 0) : Turn (o, e, u) ((give o e u p).1, (give o e u p).2.1, (give o e u p).2.2.1) := by
  rw [(give_ok h).1]; exact .inr (.inl rfl)
theorem turn_grant {o e u p now span bound : Int} (hc : chk o e u = 0) (h : (grant o e u p now span bound).2.2.2 = 0) : Turn (o, e, u) ((grant o e u p now span bound).1, (grant o e u p now span bound).2.1, (grant o e u p now span bound).2.2.1) := by
  obtain ⟨_, _, hto, ⟨h1, h2⟩ | ⟨_, _, h2⟩⟩ := grant_cases hc h
  · exact .inr (.inr (.inl ⟨by show _ = o; rw [hto, h1], h2⟩))
  · exact .inr (.inr (.inr h2))
end Go.Proofs.Ytkkcgibmcijhaaa
