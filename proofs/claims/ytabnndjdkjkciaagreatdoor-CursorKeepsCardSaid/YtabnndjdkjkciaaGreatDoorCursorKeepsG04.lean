/- WHAT IT HOLDS: how many bits and bytes a number has, plainly (no program). | WHAT IT HOLDS: Size, and the document's bytes of texts and lists, walked. | WHAT IT HOLDS: words for a reader in memory, and what its methods do, plainly. | WHAT IT HOLDS: cells, plainly (no program): which there are, which may become which. | WHAT IT HOLDS: the bytes of a run of cells, plainly (no program). | WHAT IT HOLDS: the document's bytes of a run, plainly, are the same (no program). | WHAT IT HOLDS: append as a step of a region that draws. | WHAT IT HOLDS: what the methods of varint.Reader do, walked. | WHAT IT HOLDS: Left, Err, End, New of varint.Reader, and what a nil reader does, walked. -/
import Derived.Test.YtabnndjdkjkciaaGreatDoorCursorKeepsG01
import Derived.Test.YtabnndjdkjkciaaGreatDoorCursorKeepsG02
import Derived.Test.YtabnndjdkjkciaaGreatDoorCursorKeepsG03
import Derived.Test.YtabnndjdkjkciaaGreatDoorShelf
import Derived.Deep.RegionHeld3
import Derived.Deep.DrawnRows
import Derived.Deep.DeepCutAuto
namespace Go.Proofs.YtabnndjdkjkciaaGreatDoor
open Go.RowKit

end Go.Proofs.YtabnndjdkjkciaaGreatDoor

namespace Go.Proofs.YtabnndjdkjkciaaGreatDoor
open Go.RowKit

set_option maxRecDepth 100000 in
set_option maxHeartbeats 400000 in
theorem rText_any (A : Option Addr) (c : Nat) (t : List UInt8) (w : World) (hs : SlB w A c t) (ht : t.length ≤ 10000000) :
    Calls Tryz.prog 165 #[.slice A t.length c] w (GivesB w (vb t.length ++ t)) := by
  have hu : U64 t.length := by unfold U64; omega
  have hw := wrap_u64_of hu
  go_enter Tryz.func165, Tryz.ntmps165
  go_wp2_with fail
  refine (rBytes_any t.length hu _).mono ?_
  rintro e w1 ⟨A1, c1, m1, rfl, hm1, ho1, hb1⟩
  have hml : m1.length ≤ 10 := by rw [hm1.out]; exact vb_le10 hu
  go_wp2_with (at_builtin; go_must (refine wpl_bytes 29 5 Tryz.underlying29 u8_info rfl _ _ rfl w.heap.size A1 c1 m1 rfl ho1 A c t rfl (hs.below hb1) (by omega) hb1.size ?_; intro A3 c3 m3 w3 hm3 ho3 _ _ hb3))
  go_ret
  exact ⟨A3, c3, m3, rfl, by rw [hm3.out, hm1.out]; rfl, ho3, hb1.trans hb3⟩

end Go.Proofs.YtabnndjdkjkciaaGreatDoor

namespace Go.Proofs.YtabnndjdkjkciaaGreatDoor
open Go.RowKit

/-- only block g has turned, and what is new -/
abbrev Wr (w w' : World) (g : Nat) : Prop := w.grownBy w' (some g)
section
variable {a w w' : World} {g : Nat}
theorem Wr.refl (w : World) (g : Nat) : Wr w w g := World.grownBy.refl w _
theorem Wr.trans {b c : World} (h : Wr a b g) (k : Wr b c g) : Wr a c g :=
  ⟨k.os.trans h.os, k.tape.trans h.tape, k.output.trans h.output, Nat.le_trans h.size k.size, fun i hi hn => (k.block i (Nat.lt_of_lt_of_le hi h.size) hn).trans (h.block i hi hn)⟩
theorem Wr.call (h : Wr a w g) (k : Below w.heap.size w w') : Wr a w' g :=
  h.trans ⟨k.os, k.tape, k.output, k.size, fun i hi _ => k.block i hi⟩
theorem Wr.of_below (k : Below w.heap.size w w') : Wr w w' g := ⟨k.os, k.tape, k.output, k.size, fun i hi _ => k.block i hi⟩
theorem Wr.set_ (h : Wr a w g) (i : Nat) (u : Value) : Wr a (w.setCell ⟨g, i, none⟩ u) g :=
  h.trans ⟨rfl, rfl, rfl, by simp [World.setCell], fun j _ hn => Below.heap_setCell _ _ _ _ (fun e => hn (by rw [e]))⟩
theorem Wr.alloc (h : Wr a w g) (o : Obj) : Wr a (w.alloc o) g := h.call (below_new w o)
theorem Wr.drew (h : Wr a w g) : Wr a w.drew g := ⟨h.os, h.tape, h.output, h.size, h.block⟩
/-- a reader of the call's own was written: nothing that was there before the call has turned -/
theorem Wr.below (h : Wr w w' g) {B : Nat} (hB : B ≤ w.heap.size) (hg : B ≤ g) : Below B w w' :=
  ⟨h.os, h.tape, h.output, h.size, fun k hk => h.block k (by omega) (fun e => by injection e with e; omega)⟩
theorem Blk.wr {g' : Nat} {t : TypeId} {cs : Array Value} (h : Blk w g' t cs) (hw : Wr w w' g) (hne : g' ≠ g) : Blk w' g' t cs := (hw.block g' h.lt (fun e => hne (by injection e))).trans h
end

/-- cells that are bytes lie in no block that holds none -/
theorem SlB.wr {w w' : World} {g : Nat} {t : TypeId} {x y : Value} {A : Option Addr} {c : Nat} {l : List UInt8} (h : SlB w A c l) (hb : Blk w g t #[x, y]) (hx : ∀ b, x ≠ bv b) (hy : ∀ b, y ≠ bv b) (hw : Wr w w' g) : SlB w' A c l := by
  refine ⟨h.1, h.2.1, h.2.2.1, h.2.2.2.1, fun j u hj => ?_⟩
  obtain ⟨ad, hA, hc⟩ := h.2.2.2.2 j u hj
  refine ⟨ad, hA, ?_⟩
  have hlt := World.block_lt_of_cell? w _ hc
  have hne : (ad.add j).block ≠ g := by
    intro e
    have hsp := World.cell?_spot hc
    have hu : ∃ b, u = bv b := by
      simp only [List.getElem?_map, Option.map_eq_some_iff] at hj
      obtain ⟨b, _, hb⟩ := hj
      exact ⟨b, hb.symm⟩
    obtain ⟨b, rfl⟩ := hu
    have he : ad.add j = ⟨g, (ad.add j).off, none⟩ := by
      cases h1 : ad.add j with
      | mk bl of sp => rw [h1] at e hsp; simp at e hsp; subst e; subst hsp; rfl
    rw [he, hb.cell] at hc
    match (ad.add j).off, hc with
    | 0, hc => simp at hc; exact hx b hc
    | 1, hc => simp at hc; exact hy b hc
    | n + 2, hc => simp at hc
  exact (World.cell?_of_block (hw.block _ hlt (fun e => hne (by injection e)))).trans hc
theorem errv_ne (n : Nat) : ∀ b, errv n ≠ bv b := by
  intro b h
  cases n <;> simp [errv] at h
theorem slice_ne (A : Option Addr) (n c : Nat) : ∀ b, Value.slice A n c ≠ bv b := fun b h => by cases h

/-- a reader in block g: what is left, its error's number; what is left lies below block B -/
def IsR (w : World) (g B : Nat) (s : List UInt8 × Nat) : Prop :=
  ∃ A c, Blk w g 216 #[.slice A s.1.length c, errv s.2] ∧ SlB w A c s.1 ∧ (s.1 ≠ [] → ∀ ad, A = some ad → ad.block < B)
theorem IsR.lt {w : World} {g B : Nat} {s : List UInt8 × Nat} (h : IsR w g B s) : g < w.heap.size := by obtain ⟨_, _, hb, _⟩ := h; exact hb.lt
theorem IsR.below {w w' : World} {g B : Nat} {s : List UInt8 × Nat} (h : IsR w g B s) (hb : Below w.heap.size w w') : IsR w' g B s := by
  obtain ⟨A, c, h1, h2, h3⟩ := h
  exact ⟨A, c, h1.below hb, h2.below hb, h3⟩
/-- all lies below B: what is done from B on does not matter -/
theorem IsR.apart {w w' : World} {g B C : Nat} {s : List UInt8 × Nat} (h : IsR w g B s) (hg : g < C) (hBC : B ≤ C) (hb : Below C w w') : IsR w' g B s := by
  obtain ⟨A, c, h1, h2, h3⟩ := h
  refine ⟨A, c, (hb.block g hg).trans h1, ⟨h2.1, h2.2.1, h2.2.2.1, h2.2.2.2.1, fun j u hj => ?_⟩, h3⟩
  obtain ⟨ad, hA, hc⟩ := h2.2.2.2.2 j u hj
  have hne : s.1 ≠ [] := by intro e; rw [e] at hj; simp at hj
  exact ⟨ad, hA, (hb.cell (by rw [addr_add_block]; exact Nat.lt_of_lt_of_le (h3 hne ad hA) hBC)).trans hc⟩
theorem SlB.wrR {w w' : World} {g B : Nat} {s : List UInt8 × Nat} {A : Option Addr} {c : Nat} {l : List UInt8} (h : SlB w A c l) (hR : IsR w g B s) (hw : Wr w w' g) : SlB w' A c l := by
  obtain ⟨_, _, hb, _⟩ := hR
  exact SlB.wr h hb (slice_ne _ _ _) (errv_ne _) hw

def rFail (k : Nat) (s : List UInt8 × Nat) : List UInt8 × Nat := if s.2 = 0 then (s.1, k) else s
def rNum (s : List UInt8 × Nat) : Nat × (List UInt8 × Nat) := if s.2 ≠ 0 then (0, s) else match take s.1 with | none => (0, (s.1, 2)) | some (n, k) => (n, (s.1.drop k, 0))
def rWithin (most : Nat) (s : List UInt8 × Nat) : Nat × (List UInt8 × Nat) := if (rNum s).1 > most ∨ (rNum s).1 > 4611686018427387904 then (0, rFail 1 (rNum s).2) else rNum s
def rFixed (many : Int) (s : List UInt8 × Nat) : List UInt8 × (List UInt8 × Nat) := if s.2 ≠ 0 then ([], s) else if many < 0 ∨ many > (s.1.length : Int) then ([], (s.1, 2)) else (s.1.take many.toNat, (s.1.drop many.toNat, 0))
def rLeft (s : List UInt8 × Nat) : Nat := if s.2 = 0 then s.1.length else 0
def rEnd (s : List UInt8 × Nat) : Nat := if s.2 = 0 ∧ 0 < s.1.length then 2 else s.2

theorem Own.wr {w w' : World} {base g : Nat} {e : TypeId} {size n c : Nat} {A : Option Addr} {xs : List Value} (h : Own w base e size A n c xs) (hg : g < base) (hw : Wr w w' g) : Own w' base e size A n c xs := by
  obtain ⟨h1, h2⟩ := h
  refine ⟨h1, ?_⟩
  rcases h2 with h2 | ⟨g', cap, cur, hv, hb, hh, r⟩
  · exact Or.inl h2
  · exact Or.inr ⟨g', cap, cur, hv, hb, (hw.block g' (Array.getElem?_eq_some_iff.1 hh).1 (fun e => by injection e with e; omega)).trans hh, r⟩

/-- new bytes out of a reader -/
def GivesR (w0 : World) (g B : Nat) (r : List UInt8 × (List UInt8 × Nat)) (e : Ending) (w' : World) : Prop :=
  ∃ A c m, e = .returned (.slice A m.length c) ∧ Hid (m = r.1) ∧ OwnB w' w0.heap.size 5 A c m ∧ IsR w' g B r.2 ∧ Wr w0 w' g

theorem rNum_len (s : List UInt8 × Nat) : (rNum s).2.1.length ≤ s.1.length := by
  unfold rNum
  split
  · exact Nat.le_refl _
  · split
    · exact Nat.le_refl _
    · simp
end Go.Proofs.YtabnndjdkjkciaaGreatDoor

namespace Go.Proofs.YtabnndjdkjkciaaGreatDoor
open Go.RowKit

/-- a cell: its kind, its bytes -/
abbrev Ce := Int × List UInt8
def cchk (c : Ce) : Nat := if c.1 < 0 ∨ 3 < c.1 then 1 else if 64 < c.2.length then 3 else if 0 < c.2.length ∧ c.1 ≠ 1 then 2 else 0
def same (a b : Ce) : Bool := decide (a = b)
def mayb (a b : Ce) : Bool := decide (cchk a = 0 ∧ cchk b = 0 ∧ (a.1 = 0 ∨ a = b ∨ b.1 = 3))
def later (a b : Ce) : Ce × Bool := if mayb a b then (b, true) else if mayb b a then (a, true) else ((0, []), false)

end Go.Proofs.YtabnndjdkjkciaaGreatDoor

namespace Go.Proofs.YtabnndjdkjkciaaGreatDoor
open Go.RowKit

end Go.Proofs.YtabnndjdkjkciaaGreatDoor

namespace Go.Proofs.YtabnndjdkjkciaaGreatDoor
open Go.RowKit

abbrev b1 (n : Nat) : UInt8 := UInt8.ofNat n
end Go.Proofs.YtabnndjdkjkciaaGreatDoor

namespace Go.Proofs.YtabnndjdkjkciaaGreatDoor
open Go.RowKit

theorem step_append {P : Program} {w : World} {ops : Array Oper} {o : Oper} {a : Act} {K : Act → World → Prop} {Q : Exit → Act → World → Prop} {E : Prop} (hw : Region.wanted o (yielded ops a.tmps) = true) (s x : Operand) (t : TypeId)
    (ho : o.op = .call { callee := .builtin .append, args := #[s, x], argTypes := #[t, t] })
    (base : Nat) (e : TypeId) (i : TypeInfo) (z : Value) (size bytes : Nat) (ht : P.underlying t = some (.slice e)) (hi : P.info? e = some i) (hz : i.zero = some z)
    (hsize : i.size = size) (hby : i.bytes = bytes) (hzs : z.cells.size = size) (hsz : 0 < size)
    (A : Option Addr) (n c : Nat) (xs : List Value) (hs : a.eval s = .slice A n c) (hown : Own w base e size A n c xs)
    (A2 : Option Addr) (m c2 : Nat) (news : List Value) (hx : a.eval x = .slice A2 m c2) (hr : Sl w size A2 m c2 news) (h1 : ∀ u ∈ news, u.oneCell' = true)
    (hbytes : (n + m) * bytes ≤ 140737488355328) (hmax : n + m ≤ maxLen) (hbase : base ≤ w.heap.size)
    (h : ∀ A' c' w', Appd w w' base e size A A' (n + m) c' (xs ++ news) → K (a.put o.dst (.slice A' (n + m) c')) w') :
    if Region.wanted o (yielded ops a.tmps) = true then Oper.wp P o a w K Q else E := by
  rw [if_pos hw]
  obtain ⟨A', c', w', hrun, h2⟩ := run_append_rd (P := P) w base t o.type e i z size bytes ht hi hz hsize hby hzs hsz A n c xs hown A2 m c2 news hr h1 hbytes hmax hbase
  unfold Oper.wp execOp
  simp only [ho, resolve, invoke, builtin, Sem.run_bind, Sem.run_pure, Result.andThen_ok, List.map_toArray, List.map_cons, List.map_nil, hs, hx, hrun]
  exact h A' c' w' h2
end Go.Proofs.YtabnndjdkjkciaaGreatDoor

namespace Go.Proofs.YtabnndjdkjkciaaGreatDoor
open Go.RowKit

theorem IsR.store {w : World} {g B bad : Nat} {l l' : List UInt8} (hR : IsR w g B (l, bad)) {A' : Option Addr} {c' n : Nat} (hn : n = l'.length) (hS : SlB w A' c' l') (hBd : l' ≠ [] → ∀ ad, A' = some ad → ad.block < B) : IsR (w.setCell ⟨g, 0, none⟩ (.slice A' n c')) g B (l', bad) := by
  subst hn
  obtain ⟨A, c, hB, h0⟩ := hR
  exact ⟨A', c', hB.set_ 0 _, SlB.wr hS hB (slice_ne _ _ _) (errv_ne _) ((Wr.refl _ _).set_ _ _), hBd⟩
theorem drop_ne {l : List UInt8} {k : Nat} (h : l.drop k ≠ []) : l ≠ [] := fun e => h (by rw [e]; simp)
theorem IsR.cut_eq {w : World} {g B bad : Nat} {l : List UInt8} {A : Option Addr} {c k : Nat} (hR : IsR w g B (l, bad)) (hS : SlB w A c l) (hBd : l ≠ [] → ∀ ad, A = some ad → ad.block < B) (hk : k ≤ l.length) (h : c = k) : IsR (w.setCell ⟨g, 0, none⟩ (.slice A (l.length - k) 0)) g B (l.drop k, bad) := by
  have := Sl.cutB hS hk
  rw [if_pos h, show c - k = 0 from by omega] at this
  exact hR.store (by simp) (by rw [← List.length_drop] at this; exact this) (fun hn => hBd (drop_ne hn))
theorem IsR.cut_ne {w : World} {g B bad : Nat} {l : List UInt8} {A : Option Addr} {c k : Nat} (hR : IsR w g B (l, bad)) (hS : SlB w A c l) (hBd : l ≠ [] → ∀ ad, A = some ad → ad.block < B) (hk : k ≤ l.length) (h : ¬ c = k) :
    IsR (w.setCell ⟨g, 0, none⟩ (.slice (Option.map (fun x => x.add k) A) (l.length - k) (c - k))) g B (l.drop k, bad) := by
  have := Sl.cutB hS hk
  rw [if_neg h] at this
  refine hR.store (by simp) (by rw [← List.length_drop] at this; exact this) (fun hn ad hA => ?_)
  cases A with
  | none => simp at hA
  | some a =>
    simp at hA
    rw [← hA, addr_add_block]
    exact hBd (drop_ne hn) a rfl

set_option maxRecDepth 100000 in
set_option maxHeartbeats 400000 in
theorem going_any {g B bad : Nat} {l : List UInt8} {w : World} (hR : IsR w g B (l, bad)) : Calls Tryz.prog 127 #[.pointer (some ⟨g, 0, none⟩)] w fun e w' => e = .returned (.bool (decide (bad = 0))) ∧ w = w' := by
  obtain ⟨A, c, hB, hS, hBd⟩ := hR
  obtain ⟨a0, a1, f0, f1⟩ := hB.two
  rcases errv_cases bad with ⟨h0, he⟩ | ⟨k, hk, h0, he⟩
  · have hd : decide (bad = 0) = true := by simpa using h0
    have H := Lib.hid h0
    clear h0
    go_enter Tryz.func127, Tryz.ntmps127
    go_wp2_with fail
    go_ret
    exact ⟨rfl, rfl⟩
  · have hd : decide (bad = 0) = false := by simp; omega
    have H := Lib.hid h0
    clear h0
    go_enter Tryz.func127, Tryz.ntmps127
    go_wp2_with fail
    go_ret
    exact ⟨rfl, rfl⟩
set_option maxRecDepth 100000 in
set_option maxHeartbeats 400000 in
theorem Fail_any {g B bad : Nat} {l : List UInt8} {w : World} (k : Nat) (hR : IsR w g B (l, bad)) :
    Calls Tryz.prog 58 #[.pointer (some ⟨g, 0, none⟩), errv k] w fun e w' => e = .returned (.tuple #[]) ∧ IsR w' g B (rFail k (l, bad)) ∧ Wr w w' g := by
  have hR0 := hR
  obtain ⟨A, c, hB, hS, hBd⟩ := hR
  obtain ⟨a0, a1, f0, f1⟩ := hB.two
  rcases Decidable.em (bad = 0) with h0 | h0
  · have hd : decide (bad = 0) = true := by simpa using h0
    have hf : rFail k (l, bad) = (l, k) := by unfold rFail; rw [if_pos h0]
    have H := Lib.hid h0
    clear h0
    have hx : ∃ x, errv k = x ∧ (x = .nilIface ∨ ∃ n, x = .iface 68 (.int .i64 n)) := by
      rcases errv_cases k with ⟨_, h⟩ | ⟨n, _, _, h⟩
      · exact ⟨_, h, .inl rfl⟩
      · exact ⟨_, h, .inr ⟨n, rfl⟩⟩
    have HF := Lib.hid hf
    clear hf
    obtain ⟨x, hx, hx2⟩ := hx
    have HX := Lib.hid hx
    rw [hx]
    clear hx
    rcases hx2 with rfl | ⟨n, rfl⟩
    all_goals
      go_enter Tryz.func58, Tryz.ntmps58
      go_wp2_with fail
      refine (going_any hR0).mono ?_
      rintro e w1 ⟨rfl, rfl⟩
      go_wp2_with fail
      go_end0
      refine ⟨rfl, ?_, (Wr.refl _ _).set_ _ _⟩
      rw [HF.out]
      refine ⟨A, c, ?_, hS.wrR hR0 ((Wr.refl _ _).set_ _ _), hBd⟩
      have := hB.set_ 1 (errv k)
      rw [HX.out] at this
      simpa [HX.out] using this
  · have hd : decide (bad = 0) = false := by simpa using h0
    have hf : rFail k (l, bad) = (l, bad) := by unfold rFail; rw [if_neg h0]
    have HF := Lib.hid hf
    clear h0 hf
    go_enter Tryz.func58, Tryz.ntmps58
    go_wp2_with fail
    refine (going_any hR0).mono ?_
    rintro e w1 ⟨rfl, rfl⟩
    go_wp2_with fail
    go_end0
    exact ⟨rfl, by rw [HF.out]; exact hR0, Wr.refl _ _⟩

set_option maxRecDepth 100000 in
set_option maxHeartbeats 400000 in
theorem Number_any {g B bad : Nat} {l : List UInt8} {w : World} (hR : IsR w g B (l, bad)) :
    Calls Tryz.prog 57 #[.pointer (some ⟨g, 0, none⟩)] w fun e w' => e = .returned (.int .u64 ((rNum (l, bad)).1 : Nat)) ∧ IsR w' g B (rNum (l, bad)).2 ∧ Wr w w' g := by
  have hR0 := hR
  obtain ⟨A, c, hB, hS, hBd⟩ := hR
  obtain ⟨a0, a1, f0, f1⟩ := hB.two
  rcases Decidable.em (bad = 0) with h0 | h0
  · subst h0
    have he : errv 0 = .nilIface := rfl
    go_enter Tryz.func57, Tryz.ntmps57
    go_wp2_with fail
    refine (going_any hR0).mono ?_
    rintro e w1 ⟨rfl, rfl⟩
    go_wp2_with fail
    refine (Take_any A c l _ hS).mono ?_
    rintro e w1 ⟨rfl, ⟨ht, rfl⟩ | ⟨n, k, ht, rfl⟩⟩
    · have hn : rNum (l, 0) = (0, (l, 2)) := by simp [rNum, ht]
      have HN := Lib.hid hn
      clear hn ht
      go_wp2_with fail
      go_ret
      rw [HN.out]
      exact ⟨rfl, ⟨A, c, hB.set_ 1 (.iface 68 (.int .i64 2)), hS.wrR hR0 ((Wr.refl _ _).set_ _ _), hBd⟩, (Wr.refl _ _).set_ _ _⟩
    · have hn : rNum (l, 0) = (n, (l.drop k, 0)) := by simp [rNum, ht]
      obtain ⟨hu, hk, _⟩ := take_some ht
      have hkc : k ≤ c := Nat.le_trans hk hS.2.1
      have hmx : c ≤ 9223372036854775807 := by have := hS.2.2.1; unfold maxLen at this; exact this
      have HN := Lib.hid hn
      clear hn ht
      go_wp2_with fail
      all_goals
        go_ret
        rw [HN.out]
        refine ⟨rfl, ?_, (Wr.refl _ _).set_ _ _⟩
        first | exact hR0.cut_eq hS hBd hk ‹_› | exact hR0.cut_ne hS hBd hk ‹_›
  · have hn : rNum (l, bad) = (0, (l, bad)) := by simp [rNum, h0]
    have hd : decide (bad = 0) = false := by simpa using h0
    have HN := Lib.hid hn
    clear hn h0
    go_enter Tryz.func57, Tryz.ntmps57
    go_wp2_with fail
    refine (going_any hR0).mono ?_
    rintro e w1 ⟨rfl, rfl⟩
    go_wp2_with fail
    go_ret
    rw [HN.out]
    exact ⟨rfl, hR0, Wr.refl _ _⟩

theorem rNum_u64 (s : List UInt8 × Nat) : U64 (rNum s).1 := by
  unfold rNum
  split
  · unfold U64; omega
  · split
    · unfold U64; omega
    · rename_i h; exact (take_some h).1

set_option maxRecDepth 100000 in
set_option maxHeartbeats 400000 in
theorem Within_any {g B : Nat} {s : List UInt8 × Nat} {w : World} (most : Nat) (hR : IsR w g B s) :
    Calls Tryz.prog 55 #[.pointer (some ⟨g, 0, none⟩), .int .u64 most] w fun e w' => e = .returned (.int .i64 ((rWithin most s).1 : Nat)) ∧ IsR w' g B (rWithin most s).2 ∧ Wr w w' g := by
  obtain ⟨l, bad⟩ := s
  have hNum := Number_any hR
  have hu := rNum_u64 (l, bad)
  have hW : rWithin most (l, bad) = if (rNum (l, bad)).1 > most ∨ (rNum (l, bad)).1 > 4611686018427387904 then (0, rFail 1 (rNum (l, bad)).2) else rNum (l, bad) := rfl
  generalize rNum (l, bad) = r at *
  obtain ⟨n, l2, bad2⟩ := r
  have HW := Lib.hid hW
  clear hW
  rcases Decidable.em (most < n) with h1 | h1
  · have HG : Hid (rWithin most (l, bad) = (0, rFail 1 (l2, bad2))) := (show _ = _ by rw [HW.out, if_pos (Or.inl h1)])
    have HN := Lib.hid hNum
    clear hNum
    go_enter Tryz.func55, Tryz.ntmps55
    go_wp2_with fail
    refine HN.out.mono ?_
    rintro e w1 ⟨rfl, hR1, hw1⟩
    go_wp2_with fail
    refine (Fail_any 1 hR1).mono ?_
    rintro e w2 ⟨rfl, hR2, hw2⟩
    go_wp2_with fail
    go_ret
    rw [HG.out]
    exact ⟨rfl, hR2, hw1.trans hw2⟩
  · rcases Decidable.em (4611686018427387904 < n) with h2 | h2
    · have HG : Hid (rWithin most (l, bad) = (0, rFail 1 (l2, bad2))) := (show _ = _ by rw [HW.out, if_pos (Or.inr h2)])
      have h3 : (4611686018427387904 : Int) < (n : Int) := by omega
      clear h2
      have HN := Lib.hid hNum
      clear hNum
      go_enter Tryz.func55, Tryz.ntmps55
      go_wp2_with fail
      refine HN.out.mono ?_
      rintro e w1 ⟨rfl, hR1, hw1⟩
      go_wp2_with fail
      refine (Fail_any 1 hR1).mono ?_
      rintro e w2 ⟨rfl, hR2, hw2⟩
      go_wp2_with fail
      go_ret
      rw [HG.out]
      exact ⟨rfl, hR2, hw1.trans hw2⟩
    · have HG : Hid (rWithin most (l, bad) = (n, (l2, bad2))) := (show _ = _ by rw [HW.out, if_neg (by simp only [gt_iff_lt]; omega)])
      have h3 : (n : Int) ≤ 4611686018427387904 := by omega
      clear h2
      have HN := Lib.hid hNum
      clear hNum
      go_enter Tryz.func55, Tryz.ntmps55
      go_wp2_with fail
      refine HN.out.mono ?_
      rintro e w1 ⟨rfl, hR1, hw1⟩
      go_wp2_with fail
      go_ret
      rw [HG.out]
      exact ⟨rfl, hR1, hw1⟩

set_option maxRecDepth 100000 in
set_option maxHeartbeats 1000000 in
theorem Fixed_any {g B bad : Nat} {l : List UInt8} {w : World} (many : Int) (hl : l.length ≤ 1000000000) (hR : IsR w g B (l, bad)) :
    Calls Tryz.prog 126 #[.pointer (some ⟨g, 0, none⟩), .int .i64 many] w (GivesR w g B (rFixed many (l, bad))) := by
  have hR0 := hR
  have hglt := hR.lt
  obtain ⟨A, c, hB, hS, hBd⟩ := hR
  obtain ⟨a0, a1, f0, f1⟩ := hB.two
  rcases Decidable.em (bad = 0) with h0 | h0
  · subst h0
    have he : errv 0 = .nilIface := rfl
    rcases Decidable.em (many < 0) with h1 | h1
    · have HG : Hid (rFixed many (l, 0) = ([], (l, 2))) := (show _ = _ by simp [rFixed, h1])
      go_enter Tryz.func126, Tryz.ntmps126
      go_wp2_with fail
      refine (going_any hR0).mono ?_
      rintro e w1 ⟨rfl, rfl⟩
      go_wp2_with fail
      refine (Fail_any 2 hR0).mono ?_
      rintro e w2 ⟨rfl, hR2, hw2⟩
      go_wp2_with fail
      go_ret
      rw [HG.out]
      exact ⟨none, 0, [], rfl, rfl, Own.none_ _ _ _ _, hR2, hw2⟩
    · obtain ⟨k, rfl⟩ := Int.eq_ofNat_of_zero_le (by omega : 0 ≤ many)
      rcases Decidable.em (l.length < k) with h2 | h2
      · have HG : Hid (rFixed k (l, 0) = ([], (l, 2))) := (show _ = _ by simp [rFixed, h2])
        go_enter Tryz.func126, Tryz.ntmps126
        go_wp2_with fail
        refine (going_any hR0).mono ?_
        rintro e w1 ⟨rfl, rfl⟩
        go_wp2_with fail
        refine (Fail_any 2 hR0).mono ?_
        rintro e w2 ⟨rfl, hR2, hw2⟩
        go_wp2_with fail
        go_ret
        rw [HG.out]
        exact ⟨none, 0, [], rfl, rfl, Own.none_ _ _ _ _, hR2, hw2⟩
      · have HG : Hid (rFixed k (l, 0) = (l.take k, (l.drop k, 0))) := (show _ = _ by simp [rFixed, h2])
        have hk : k ≤ l.length := by omega
        have hkc : k ≤ c := Nat.le_trans hk hS.2.1
        have hmx : c ≤ 9223372036854775807 := by have := hS.2.2.1; unfold maxLen at this; exact this
        go_enter Tryz.func126, Tryz.ntmps126
        go_wp2_with fail
        refine (going_any hR0).mono ?_
        rintro e w1 ⟨rfl, rfl⟩
        go_wp2_with fail
        have hcl := clone_any A c (l.take k) w (by simp; omega) (hS.takeB k)
        rw [show (l.take k).length = k from by simp; omega] at hcl
        refine hcl.mono ?_
        clear hcl
        rintro e w2 ⟨A2, c2, m2, rfl, hm2, ho2, hb2⟩
        have hR2 := hR0.below hb2
        have hS2 := hS.below hb2
        obtain ⟨b0, b1, g0, g1⟩ := (hB.below hb2).two
        go_wp2_with fail
        all_goals
          go_ret
          rw [HG.out]
          refine ⟨A2, c2, m2, rfl, hm2, ho2.wr hglt ((Wr.refl _ _).set_ _ _), ?_, (Wr.of_below hb2).set_ _ _⟩
          first | exact hR2.cut_eq hS2 hBd hk ‹_› | exact hR2.cut_ne hS2 hBd hk ‹_›
  · have hd : decide (bad = 0) = false := by simpa using h0
    have HG : Hid (rFixed many (l, bad) = ([], (l, bad))) := (show _ = _ by simp [rFixed, h0])
    clear h0
    go_enter Tryz.func126, Tryz.ntmps126
    go_wp2_with fail
    refine (going_any hR0).mono ?_
    rintro e w1 ⟨rfl, rfl⟩
    go_wp2_with fail
    go_ret
    rw [HG.out]
    exact ⟨none, 0, [], rfl, rfl, Own.none_ _ _ _ _, hR0, Wr.refl _ _⟩

end Go.Proofs.YtabnndjdkjkciaaGreatDoor

namespace Go.Proofs.YtabnndjdkjkciaaGreatDoor
open Go.RowKit

set_option maxRecDepth 100000 in
set_option maxHeartbeats 400000 in
theorem Left_any {g B bad : Nat} {l : List UInt8} {w : World} (hR : IsR w g B (l, bad)) : Calls Tryz.prog 130 #[.pointer (some ⟨g, 0, none⟩)] w fun e w' => e = .returned (.int .i64 (rLeft (l, bad) : Nat)) ∧ w = w' := by
  have hR0 := hR
  obtain ⟨A, c, hB, hS, _⟩ := hR
  obtain ⟨a0, a1, f0, f1⟩ := hB.two
  rcases Decidable.em (bad = 0) with h0 | h0
  · subst h0
    go_enter Tryz.func130, Tryz.ntmps130
    go_wp2_with fail
    refine (going_any hR0).mono ?_
    rintro e w1 ⟨rfl, rfl⟩
    go_wp2_with fail
    go_ret
    exact ⟨rfl, rfl⟩
  · have hd : decide (bad = 0) = false := by simpa using h0
    have HG : Hid (rLeft (l, bad) = 0) := (show _ = _ by simp [rLeft, h0])
    clear h0
    go_enter Tryz.func130, Tryz.ntmps130
    go_wp2_with fail
    refine (going_any hR0).mono ?_
    rintro e w1 ⟨rfl, rfl⟩
    go_wp2_with fail
    go_ret
    exact ⟨by rw [HG.out]; rfl, rfl⟩
set_option maxRecDepth 100000 in
set_option maxHeartbeats 400000 in
theorem Err_any {g B bad : Nat} {l : List UInt8} {w : World} (hR : IsR w g B (l, bad)) : Calls Tryz.prog 129 #[.pointer (some ⟨g, 0, none⟩)] w fun e w' => e = .returned (errv bad) ∧ w = w' := by
  obtain ⟨A, c, hB, hS, _⟩ := hR
  obtain ⟨a0, a1, f0, f1⟩ := hB.two
  go_enter Tryz.func129, Tryz.ntmps129
  go_wp2_with fail
  go_ret
  exact ⟨rfl, rfl⟩
set_option maxRecDepth 100000 in
set_option maxHeartbeats 400000 in
theorem End_any {g B bad : Nat} {l : List UInt8} {w : World} (hR : IsR w g B (l, bad)) : Calls Tryz.prog 60 #[.pointer (some ⟨g, 0, none⟩)] w fun e w' => e = .returned (errv (rEnd (l, bad))) ∧ w = w' := by
  rcases errv_cases bad with ⟨rfl, he⟩ | ⟨k, hk, h0, he⟩
  · rcases Decidable.em (0 < l.length) with hl | hl
    · have HG : Hid (rEnd (l, 0) = 2) := (show (if (0 : Nat) = 0 ∧ 0 < l.length then 2 else 0) = 2 by rw [if_pos ⟨rfl, hl⟩])
      have HL : Hid (rLeft (l, 0) = l.length) := (show _ = _ from rfl)
      go_enter Tryz.func60, Tryz.ntmps60
      go_wp2_with fail
      refine (Err_any hR).mono ?_
      rintro e w1 ⟨rfl, rfl⟩
      go_wp2_with fail
      refine (Left_any hR).mono ?_
      rintro e w1 ⟨rfl, rfl⟩
      rw [HL.out]
      go_wp2_with fail
      go_ret
      exact ⟨by rw [HG.out]; rfl, rfl⟩
    · have HG : Hid (rEnd (l, 0) = 0) := (show (if (0 : Nat) = 0 ∧ 0 < l.length then 2 else 0) = 0 by rw [if_neg (fun h => hl h.2)])
      have HL : Hid (rLeft (l, 0) = l.length) := (show _ = _ from rfl)
      go_enter Tryz.func60, Tryz.ntmps60
      go_wp2_with fail
      refine (Err_any hR).mono ?_
      rintro e w1 ⟨rfl, rfl⟩
      go_wp2_with fail
      refine (Left_any hR).mono ?_
      rintro e w1 ⟨rfl, rfl⟩
      rw [HL.out]
      go_wp2_with fail
      go_ret
      exact ⟨by rw [HG.out]; rfl, rfl⟩
  · have HG : Hid (rEnd (l, bad) = bad) := (show _ = _ by simp only [rEnd]; rw [if_neg (by omega)])
    have H0 := Lib.hid h0
    clear h0
    go_enter Tryz.func60, Tryz.ntmps60
    go_wp2_with fail
    refine (Err_any hR).mono ?_
    rintro e w1 ⟨rfl, rfl⟩
    go_wp2_with fail
    go_ret
    exact ⟨by rw [HG.out, he]; rfl, rfl⟩
set_option maxRecDepth 100000 in
set_option maxHeartbeats 400000 in
theorem RNew_any (A : Option Addr) (c : Nat) (l : List UInt8) (w : World) (hs : SlB w A c l) : Calls Tryz.prog 54 #[.slice A l.length c] w fun e w' => ∃ g, e = .returned (.pointer (some ⟨g, 0, none⟩)) ∧ w.heap.size ≤ g ∧ IsR w' g w.heap.size (l, 0) ∧ Below w.heap.size w w' := by
  go_enter Tryz.func54, Tryz.ntmps54
  go_wp2_with fail
  go_ret
  refine ⟨w.heap.size, rfl, Nat.le_refl _, ⟨A, c, Blk.new _ _ _, hs.below (below_new _ _), fun hn ad hA => ?_⟩, below_new _ _⟩
  have hl : 0 < l.length := by cases l <;> simp_all
  obtain ⟨ad', hA', hc⟩ := hs.at1 (k := 0) hl
  rw [hA] at hA'
  injection hA' with e
  subst e
  have := World.block_lt_of_cell? w _ hc
  rwa [addr_add_block] at this
end Go.Proofs.YtabnndjdkjkciaaGreatDoor
