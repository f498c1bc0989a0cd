/- WHAT IT HOLDS: words for a reader in memory, and what its methods do, plainly. -/
import Derived.Test.YtjkdnnekagcdhaaSegmentTakesG04
namespace Go.Proofs.Ytjkdnnekagcdhaa
open Go.RowKit

/-- only block g has turned, and what is new -/
abbrev Wr (w w' : World) (g : Nat) : Prop := w.grownBy w' (some g)
section
variable {a w w' : World} {g : Nat}
theorem Wr.refl (w : World) (g : Nat) : Wr w w g := World.grownBy.refl w _
theorem Wr.trans {b c : World} (h : Wr a b g) (k : Wr b c g) : Wr a c g :=
  ⟨k.os.trans h.os, k.tape.trans h.tape, k.output.trans h.output, Nat.le_trans h.size k.size, fun i hi hn => (k.block i (Nat.lt_of_lt_of_le hi h.size) hn).trans (h.block i hi hn)⟩
theorem Wr.call (h : Wr a w g) (k : Below w.heap.size w w') : Wr a w' g :=
  h.trans ⟨k.os, k.tape, k.output, k.size, fun i hi _ => k.block i hi⟩
theorem Wr.of_below (k : Below w.heap.size w w') : Wr w w' g := ⟨k.os, k.tape, k.output, k.size, fun i hi _ => k.block i hi⟩
theorem Wr.set_ (h : Wr a w g) (i : Nat) (u : Value) : Wr a (w.setCell ⟨g, i, none⟩ u) g :=
  h.trans ⟨rfl, rfl, rfl, by simp [World.setCell], fun j _ hn => Below.heap_setCell _ _ _ _ (fun e => hn (by rw [e]))⟩
theorem Wr.alloc (h : Wr a w g) (o : Obj) : Wr a (w.alloc o) g := h.call (below_new w o)
theorem Wr.drewN (h : Wr a w g) (n : Nat) : Wr a (w.drewN n) g := ⟨h.os, h.tape, h.output, h.size, h.block⟩
theorem Wr.drew (h : Wr a w g) : Wr a w.drew g := ⟨h.os, h.tape, h.output, h.size, h.block⟩
/-- a reader of the call's own was written: nothing that was there before the call has turned -/
theorem Wr.below (h : Wr w w' g) {B : Nat} (hB : B ≤ w.heap.size) (hg : B ≤ g) : Below B w w' :=
  ⟨h.os, h.tape, h.output, h.size, fun k hk => h.block k (by omega) (fun e => by injection e with e; omega)⟩
theorem Wr.callB (h : Wr a w g) (_ : a.heap.size ≤ w.heap.size) (k : Below a.heap.size w w') : Wr a w' g :=
  ⟨k.os.trans h.os, k.tape.trans h.tape, k.output.trans h.output, Nat.le_trans h.size k.size, fun i hi hn => (k.block i hi).trans (h.block i hi hn)⟩
theorem Blk.wr {g' : Nat} {t : TypeId} {cs : Array Value} (h : Blk w g' t cs) (hw : Wr w w' g) (hne : g' ≠ g) : Blk w' g' t cs := (hw.block g' h.lt (fun e => hne (by injection e))).trans h
end

/-- cells that are bytes lie in no block that holds none -/
theorem SlB.wr {w w' : World} {g : Nat} {t : TypeId} {x y : Value} {A : Option Addr} {c : Nat} {l : List UInt8} (h : SlB w A c l) (hb : Blk w g t #[x, y]) (hx : ∀ b, x ≠ bv b) (hy : ∀ b, y ≠ bv b) (hw : Wr w w' g) : SlB w' A c l := by
  refine ⟨h.1, h.2.1, h.2.2.1, h.2.2.2.1, fun j u hj => ?_⟩
  obtain ⟨ad, hA, hc⟩ := h.2.2.2.2 j u hj
  refine ⟨ad, hA, ?_⟩
  have hlt := World.block_lt_of_cell? w _ hc
  have hne : (ad.add j).block ≠ g := by
    intro e
    have hsp := World.cell?_spot hc
    have hu : ∃ b, u = bv b := by
      simp only [List.getElem?_map, Option.map_eq_some_iff] at hj
      obtain ⟨b, _, hb⟩ := hj
      exact ⟨b, hb.symm⟩
    obtain ⟨b, rfl⟩ := hu
    have he : ad.add j = ⟨g, (ad.add j).off, none⟩ := by
      cases h1 : ad.add j with
      | mk bl of sp => rw [h1] at e hsp; simp at e hsp; subst e; subst hsp; rfl
    rw [he, hb.cell] at hc
    match (ad.add j).off, hc with
    | 0, hc => simp at hc; exact hx b hc
    | 1, hc => simp at hc; exact hy b hc
    | n + 2, hc => simp at hc
  exact (World.cell?_of_block (hw.block _ hlt (fun e => hne (by injection e)))).trans hc
theorem errv_ne (n : Nat) : ∀ b, errv n ≠ bv b := by
  intro b h
  cases n <;> simp [errv] at h
theorem slice_ne (A : Option Addr) (n c : Nat) : ∀ b, Value.slice A n c ≠ bv b := fun b h => by cases h

/-- a reader in block g: what is left, its error's number; what is left lies below block B -/
def IsR (w : World) (g B : Nat) (s : List UInt8 × Nat) : Prop :=
  ∃ A c, Blk w g 153 #[.slice A s.1.length c, errv s.2] ∧ SlB w A c s.1 ∧ (s.1 ≠ [] → ∀ ad, A = some ad → ad.block < B)
theorem IsR.lt {w : World} {g B : Nat} {s : List UInt8 × Nat} (h : IsR w g B s) : g < w.heap.size := by obtain ⟨_, _, hb, _⟩ := h; exact hb.lt
theorem IsR.below {w w' : World} {g B : Nat} {s : List UInt8 × Nat} (h : IsR w g B s) (hb : Below w.heap.size w w') : IsR w' g B s := by
  obtain ⟨A, c, h1, h2, h3⟩ := h
  exact ⟨A, c, h1.below hb, h2.below hb, h3⟩
/-- all lies below B: what is done from B on does not matter -/
theorem IsR.apart {w w' : World} {g B C : Nat} {s : List UInt8 × Nat} (h : IsR w g B s) (hg : g < C) (hBC : B ≤ C) (hb : Below C w w') : IsR w' g B s := by
  obtain ⟨A, c, h1, h2, h3⟩ := h
  refine ⟨A, c, (hb.block g hg).trans h1, ⟨h2.1, h2.2.1, h2.2.2.1, h2.2.2.2.1, fun j u hj => ?_⟩, h3⟩
  obtain ⟨ad, hA, hc⟩ := h2.2.2.2.2 j u hj
  have hne : s.1 ≠ [] := by intro e; rw [e] at hj; simp at hj
  exact ⟨ad, hA, (hb.cell (by rw [addr_add_block]; exact Nat.lt_of_lt_of_le (h3 hne ad hA) hBC)).trans hc⟩
theorem IsR.here {w : World} {g B : Nat} {s : List UInt8 × Nat} (h : IsR w g B s) : IsR w g (min B w.heap.size) s := by
  obtain ⟨A, c, h1, h2, h3⟩ := h
  refine ⟨A, c, h1, h2, fun hn ad hA => ?_⟩
  have hl : 0 < s.1.length := by cases h : s.1 <;> simp_all
  obtain ⟨ad', hA', hc⟩ := h2.at1 (k := 0) hl
  rw [hA] at hA'
  injection hA' with e
  subst e
  have := World.block_lt_of_cell? w _ hc
  rw [addr_add_block] at this
  have := h3 hn ad hA
  omega
theorem IsR.up {w : World} {g B B' : Nat} {s : List UInt8 × Nat} (h : IsR w g B s) (hB : B ≤ B') : IsR w g B' s := by
  obtain ⟨A, c, h1, h2, h3⟩ := h
  exact ⟨A, c, h1, h2, fun hn ad hA => Nat.lt_of_lt_of_le (h3 hn ad hA) hB⟩
theorem SlB.wrR {w w' : World} {g B : Nat} {s : List UInt8 × Nat} {A : Option Addr} {c : Nat} {l : List UInt8} (h : SlB w A c l) (hR : IsR w g B s) (hw : Wr w w' g) : SlB w' A c l := by
  obtain ⟨_, _, hb, _⟩ := hR
  exact SlB.wr h hb (slice_ne _ _ _) (errv_ne _) hw

def rFail (k : Nat) (s : List UInt8 × Nat) : List UInt8 × Nat := if s.2 = 0 then (s.1, k) else s
def rNum (s : List UInt8 × Nat) : Nat × (List UInt8 × Nat) := if s.2 ≠ 0 then (0, s) else match take s.1 with | none => (0, (s.1, 2)) | some (n, k) => (n, (s.1.drop k, 0))
def rWithin (most : Nat) (s : List UInt8 × Nat) : Nat × (List UInt8 × Nat) := if (rNum s).1 > most ∨ (rNum s).1 > 4611686018427387904 then (0, rFail 1 (rNum s).2) else rNum s
def rCount (most : Int) (s : List UInt8 × Nat) : Nat × (List UInt8 × Nat) := if (rNum s).2.2 ≠ 0 then (0, (rNum s).2) else if most < 0 ∨ ((rNum s).1 : Int) > most then (0, rFail 3 (rNum s).2) else rNum s
def rFixed (many : Int) (s : List UInt8 × Nat) : List UInt8 × (List UInt8 × Nat) := if s.2 ≠ 0 then ([], s) else if many < 0 ∨ many > (s.1.length : Int) then ([], (s.1, 2)) else (s.1.take many.toNat, (s.1.drop many.toNat, 0))
def rText (most : Int) (s : List UInt8 × Nat) : List UInt8 × (List UInt8 × Nat) := rFixed (rCount most s).1 (rCount most s).2
def rNums : Nat → List UInt8 × Nat → List Nat × (List UInt8 × Nat)
  | 0, s => ([], s)
  | n + 1, s => if (rNum s).2.2 ≠ 0 then ([], (rNum s).2) else if (rNums n (rNum s).2).2.2 ≠ 0 then ([], (rNums n (rNum s).2).2) else ((rNum s).1 :: (rNums n (rNum s).2).1, (rNums n (rNum s).2).2)
def rList (most : Int) (s : List UInt8 × Nat) : List Nat × (List UInt8 × Nat) := rNums (rCount most s).1 (rCount most s).2
def rLeft (s : List UInt8 × Nat) : Nat := if s.2 = 0 then s.1.length else 0
def rEnd (s : List UInt8 × Nat) : Nat := if s.2 = 0 ∧ 0 < s.1.length then 2 else s.2

theorem Own.wr {w w' : World} {base g : Nat} {e : TypeId} {size n c : Nat} {A : Option Addr} {xs : List Value} (h : Own w base e size A n c xs) (hg : g < base) (hw : Wr w w' g) : Own w' base e size A n c xs := by
  obtain ⟨h1, h2⟩ := h
  refine ⟨h1, ?_⟩
  rcases h2 with h2 | ⟨g', cap, cur, hv, hb, hh, r⟩
  · exact Or.inl h2
  · exact Or.inr ⟨g', cap, cur, hv, hb, (hw.block g' (Array.getElem?_eq_some_iff.1 hh).1 (fun e => by injection e with e; omega)).trans hh, r⟩

/-- append of one number of 64 bits, which the walk has laid in a block of its own -/
theorem wpl_num {P : Program} {w : World} {ops : Array Oper} {rest : List Oper} {o : Oper} {a : Act} {Q : Exit → Act → World → Prop} (t e : TypeId) (ht : P.underlying t = some (.slice e))
    (hinfo : (P.info? e).map (fun i => (i.zero, i.size, i.bytes)) = some (some (.int .u64 0), 1, 8)) (hgd : o.guard = none) (s x : Operand)
    (ho : o.op = .call { callee := .builtin .append, args := #[s, x], argTypes := #[t, t] })
    (base : Nat) (A : Option Addr) (c : Nat) (l : List Nat) (n : Nat) (hs : a.eval s = .slice A l.length c) (hown : Own w base e 1 A l.length c (l.map nv))
    (hx : a.eval x = .slice (some ⟨w.heap.size, 0, none⟩) 1 1) (hlen : l.length ≤ 1000000000000) (hbase : base ≤ w.heap.size)
    (h : ∀ A' c' (m : List Nat) w', Hid (m = l ++ [n]) → Own w' base e 1 A' m.length c' (m.map nv) → (w.alloc (.cells #[.int .u64 (n : Int)] e)).grownBy w' (A.map (·.block)) → Below base w w' →
      wpList P ops Q rest (a.put o.dst (.slice A' m.length c')) w') : wpList P ops Q (o :: rest) a (w.alloc (.cells #[.int .u64 (n : Int)] e)) := by
  obtain ⟨i0, hi, hz0, hz1, hz2⟩ := info_parts hinfo
  have hbl : Below base w (w.alloc (.cells #[.int .u64 (n : Int)] e)) := (Below.refl _ _).alloc hbase _
  refine wpl_append hgd s x t ho base e i0 (.int .u64 0) 1 8 ht hi hz0 hz1 hz2 rfl (by decide) A l.length c (l.map nv) hs (World.ownsRow.alloc hown _) (some ⟨w.heap.size, 0, none⟩) 1 1 [nv n] hx Sl.one (fun u hu => by simp at hu; subst hu; rfl) (by omega) (by simp only [maxLen]; omega) (by simp; omega) ?_
  intro A' c' w' hap
  have hl : l.length + 1 = (l ++ [n]).length := by simp
  rw [hl]
  refine h A' c' (l ++ [n]) w' rfl ?_ hap.grown (hbl.trans (hap.below (World.ownsRow.alloc hown _) (by simp; omega)))
  have := hap.own
  simpa using this

/-- new bytes out of a reader -/
def GivesR (w0 : World) (g B : Nat) (r : List UInt8 × (List UInt8 × Nat)) (e : Ending) (w' : World) : Prop :=
  ∃ A c m, e = .returned (.slice A m.length c) ∧ Hid (m = r.1) ∧ OwnB w' w0.heap.size 5 A c m ∧ IsR w' g B r.2 ∧ Wr w0 w' g

theorem rNum_len (s : List UInt8 × Nat) : (rNum s).2.1.length ≤ s.1.length := by
  unfold rNum
  split
  · exact Nat.le_refl _
  · split
    · exact Nat.le_refl _
    · simp
theorem rCount_len (most : Int) (s : List UInt8 × Nat) : (rCount most s).2.1.length ≤ s.1.length := by
  have := rNum_len s
  unfold rCount
  split
  · exact this
  · split
    · unfold rFail
      split <;> exact this
    · exact this
theorem rCount_le {most : Int} {s : List UInt8 × Nat} (h : most ≤ 1000000) : (rCount most s).1 ≤ 1000000 := by
  unfold rCount
  split
  · simp
  · split
    · simp
    · rename_i h; simp only [gt_iff_lt, not_or] at h; omega
theorem rCount_bad {most : Int} {s : List UInt8 × Nat} : (rCount most s).2.2 ≠ 0 → (rCount most s).1 = 0 := by
  unfold rCount
  split
  · intro _; rfl
  · split
    · intro _; rfl
    · rename_i h _; intro h2; exact absurd h2 (by simpa using h)
end Go.Proofs.Ytjkdnnekagcdhaa
