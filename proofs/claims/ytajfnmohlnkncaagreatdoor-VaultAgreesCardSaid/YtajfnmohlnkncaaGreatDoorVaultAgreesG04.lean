/- WHAT IT HOLDS: how many bits and bytes a number has, plainly (no program). | WHAT IT HOLDS: Size, and the document's bytes of texts and lists, walked. | WHAT IT HOLDS: words for a reader in memory, and what its methods do, plainly. | WHAT IT HOLDS: what the methods of varint.Reader do, walked. | WHAT IT HOLDS: Left, Err, End, New of varint.Reader, and what a nil reader does, walked. | WHAT IT HOLDS: what the document's reader (a struct by value) answers, walked. | WHAT IT HOLDS: the document's ListOf, walked. | WHAT IT HOLDS: same, walked. | WHAT IT HOLDS: act, walked. | WHAT IT HOLDS: what the small functions of the package cell compute, walked. | WHAT IT HOLDS: arguments that are slices of structs, opened to the words of Kit; over any program. | WHAT IT HOLDS: Later, Put, Word of the package cell, and the law's Document and Long, walked. | WHAT IT HOLDS: the document's small functions of layer 5, walked. | WHAT IT HOLDS: row and alike of the package cell, walked; append as a step of a region that draws. -/
import Derived.Test.YtajfnmohlnkncaaGreatDoorVaultAgreesG01
import Derived.Test.YtajfnmohlnkncaaGreatDoorVaultAgreesG02
import Derived.Test.YtajfnmohlnkncaaGreatDoorVaultAgreesG03
import Derived.Test.YtajfnmohlnkncaaGreatDoorShelf
import Derived.RegionTactic
import Derived.ChangeAlike
import Derived.Deep.RegionHeld3
import Derived.Deep.DrawnRows
import Derived.Test.YtajfnmohlnkncaaGreatDoorShelfB
import Derived.Lib.Bytes
import Derived.Deep.Slices
import Derived.Deep.Fields
import Derived.ChangeSame
import Derived.Laws.StructEq
namespace Go.Proofs.YtajfnmohlnkncaaGreatDoor
section
open Go.RowKit
abbrev Wr (w w' : World) (g : Nat) : Prop := w.grownBy w' (some g)
section
variable {a w w' : World} {g : Nat}
theorem Wr.refl (w : World) (g : Nat) : Wr w w g := World.grownBy.refl w _
theorem Wr.trans {b c : World} (h : Wr a b g) (k : Wr b c g) : Wr a c g :=
 ⟨k.os.trans h.os, k.tape.trans h.tape, k.output.trans h.output, Nat.le_trans h.size k.size, fun i hi hn => (k.block i (Nat.lt_of_lt_of_le hi h.size) hn).trans (h.block i hi hn)⟩
theorem Wr.call (h : Wr a w g) (k : Below w.heap.size w w') : Wr a w' g :=
 h.trans ⟨k.os, k.tape, k.output, k.size, fun i hi _ => k.block i hi⟩
theorem Wr.of_below (k : Below w.heap.size w w') : Wr w w' g := ⟨k.os, k.tape, k.output, k.size, fun i hi _ => k.block i hi⟩
theorem Wr.set_ (h : Wr a w g) (i : Nat) (u : Value) : Wr a (w.setCell ⟨g, i, none⟩ u) g :=
 h.trans ⟨rfl, rfl, rfl, by simp [World.setCell], fun j _ hn => Below.heap_setCell _ _ _ _ (fun e => hn (by rw [e]))⟩
theorem Wr.alloc (h : Wr a w g) (o : Obj) : Wr a (w.alloc o) g := h.call (below_new w o)
theorem Wr.drew (h : Wr a w g) : Wr a w.drew g := ⟨h.os, h.tape, h.output, h.size, h.block⟩
theorem Wr.below (h : Wr w w' g) {B : Nat} (hB : B ≤ w.heap.size) (hg : B ≤ g) : Below B w w' :=
 ⟨h.os, h.tape, h.output, h.size, fun k hk => h.block k (by omega) (fun e => by injection e with e; omega)⟩
theorem Wr.callB (h : Wr a w g) (_ : a.heap.size ≤ w.heap.size) (k : Below a.heap.size w w') : Wr a w' g :=
 ⟨k.os.trans h.os, k.tape.trans h.tape, k.output.trans h.output, Nat.le_trans h.size k.size, fun i hi hn => (k.block i hi).trans (h.block i hi hn)⟩
theorem Blk.wr {g' : Nat} {t : TypeId} {cs : Array Value} (h : Blk w g' t cs) (hw : Wr w w' g) (hne : g' ≠ g) : Blk w' g' t cs := (hw.block g' h.lt (fun e => hne (by injection e))).trans h
end
theorem SlB.wr {w w' : World} {g : Nat} {t : TypeId} {x y : Value} {A : Option Addr} {c : Nat} {l : List UInt8} (h : SlB w A c l) (hb : Blk w g t #[x, y]) (hx : ∀ b, x ≠ bv b) (hy : ∀ b, y ≠ bv b) (hw : Wr w w' g) : SlB w' A c l := by
 refine ⟨h.1, h.2.1, h.2.2.1, h.2.2.2.1, fun j u hj => ?_⟩
 obtain ⟨ad, hA, hc⟩ := h.2.2.2.2 j u hj
 refine ⟨ad, hA, ?_⟩
 have hlt := World.block_lt_of_cell? w _ hc
 have hne : (ad.add j).block ≠ g := by
  intro e
  have hsp := World.cell?_spot hc
  have hu : ∃ b, u = bv b := by
   simp only [List.getElem?_map, Option.map_eq_some_iff] at hj
   obtain ⟨b, _, hb⟩ := hj
   exact ⟨b, hb.symm⟩
  obtain ⟨b, rfl⟩ := hu
  have he : ad.add j = ⟨g, (ad.add j).off, none⟩ := by
   cases h1 : ad.add j with
   | mk bl of sp => rw [h1] at e hsp; simp at e hsp; subst e; subst hsp; rfl
  rw [he, hb.cell] at hc
  match (ad.add j).off, hc with
  | 0, hc => simp at hc; exact hx b hc
  | 1, hc => simp at hc; exact hy b hc
  | n + 2, hc => simp at hc
 exact (World.cell?_of_block (hw.block _ hlt (fun e => hne (by injection e)))).trans hc
theorem errv_ne (n : Nat) : ∀ b, errv n ≠ bv b := by
 intro b h
 cases n <;> simp [errv] at h
theorem slice_ne (A : Option Addr) (n c : Nat) : ∀ b, Value.slice A n c ≠ bv b := fun b h => by cases h
def IsR (w : World) (g B : Nat) (s : List UInt8 × Nat) : Prop :=
 ∃ A c, Blk w g 168 #[.slice A s.1.length c, errv s.2] ∧ SlB w A c s.1 ∧ (s.1 ≠ [] → ∀ ad, A = some ad → ad.block < B)
theorem IsR.lt {w : World} {g B : Nat} {s : List UInt8 × Nat} (h : IsR w g B s) : g < w.heap.size := by obtain ⟨_, _, hb, _⟩ := h; exact hb.lt
theorem IsR.below {w w' : World} {g B : Nat} {s : List UInt8 × Nat} (h : IsR w g B s) (hb : Below w.heap.size w w') : IsR w' g B s := by
 obtain ⟨A, c, h1, h2, h3⟩ := h
 exact ⟨A, c, h1.below hb, h2.below hb, h3⟩
theorem IsR.apart {w w' : World} {g B C : Nat} {s : List UInt8 × Nat} (h : IsR w g B s) (hg : g < C) (hBC : B ≤ C) (hb : Below C w w') : IsR w' g B s := by
 obtain ⟨A, c, h1, h2, h3⟩ := h
 refine ⟨A, c, (hb.block g hg).trans h1, ⟨h2.1, h2.2.1, h2.2.2.1, h2.2.2.2.1, fun j u hj => ?_⟩, h3⟩
 obtain ⟨ad, hA, hc⟩ := h2.2.2.2.2 j u hj
 have hne : s.1 ≠ [] := by intro e; rw [e] at hj; simp at hj
 exact ⟨ad, hA, (hb.cell (by rw [addr_add_block]; exact Nat.lt_of_lt_of_le (h3 hne ad hA) hBC)).trans hc⟩
theorem SlB.wrR {w w' : World} {g B : Nat} {s : List UInt8 × Nat} {A : Option Addr} {c : Nat} {l : List UInt8} (h : SlB w A c l) (hR : IsR w g B s) (hw : Wr w w' g) : SlB w' A c l := by
 obtain ⟨_, _, hb, _⟩ := hR
 exact SlB.wr h hb (slice_ne _ _ _) (errv_ne _) hw
def rFail (k : Nat) (s : List UInt8 × Nat) : List UInt8 × Nat := if s.2 = 0 then (s.1, k) else s
def rNum (s : List UInt8 × Nat) : Nat × (List UInt8 × Nat) := if s.2 ≠ 0 then (0, s) else match take s.1 with | none => (0, (s.1, 2)) | some (n, k) => (n, (s.1.drop k, 0))
def rWithin (most : Nat) (s : List UInt8 × Nat) : Nat × (List UInt8 × Nat) := if (rNum s).1 > most ∨ (rNum s).1 > 4611686018427387904 then (0, rFail 1 (rNum s).2) else rNum s
def rFixed (many : Int) (s : List UInt8 × Nat) : List UInt8 × (List UInt8 × Nat) := if s.2 ≠ 0 then ([], s) else if many < 0 ∨ many > (s.1.length : Int) then ([], (s.1, 2)) else (s.1.take many.toNat, (s.1.drop many.toNat, 0))
def rLeft (s : List UInt8 × Nat) : Nat := if s.2 = 0 then s.1.length else 0
def rEnd (s : List UInt8 × Nat) : Nat := if s.2 = 0 ∧ 0 < s.1.length then 2 else s.2
theorem Own.wr {w w' : World} {base g : Nat} {e : TypeId} {size n c : Nat} {A : Option Addr} {xs : List Value} (h : Own w base e size A n c xs) (hg : g < base) (hw : Wr w w' g) : Own w' base e size A n c xs := by
 obtain ⟨h1, h2⟩ := h
 refine ⟨h1, ?_⟩
 rcases h2 with h2 | ⟨g', cap, cur, hv, hb, hh, r⟩
 · exact Or.inl h2
 · exact Or.inr ⟨g', cap, cur, hv, hb, (hw.block g' (Array.getElem?_eq_some_iff.1 hh).1 (fun e => by injection e with e; omega)).trans hh, r⟩
def GivesR (w0 : World) (g B : Nat) (r : List UInt8 × (List UInt8 × Nat)) (e : Ending) (w' : World) : Prop :=
 ∃ A c m, e = .returned (.slice A m.length c) ∧ Hid (m = r.1) ∧ OwnB w' w0.heap.size 5 A c m ∧ IsR w' g B r.2 ∧ Wr w0 w' g
theorem rNum_len (s : List UInt8 × Nat) : (rNum s).2.1.length ≤ s.1.length := by
 unfold rNum
 split
 · exact Nat.le_refl _
 · split
   · exact Nat.le_refl _
   · simp
theorem IsR.store {w : World} {g B bad : Nat} {l l' : List UInt8} (hR : IsR w g B (l, bad)) {A' : Option Addr} {c' n : Nat} (hn : n = l'.length) (hS : SlB w A' c' l') (hBd : l' ≠ [] → ∀ ad, A' = some ad → ad.block < B) : IsR (w.setCell ⟨g, 0, none⟩ (.slice A' n c')) g B (l', bad) := by
 subst hn
 obtain ⟨A, c, hB, h0⟩ := hR
 exact ⟨A', c', hB.set_ 0 _, SlB.wr hS hB (slice_ne _ _ _) (errv_ne _) ((Wr.refl _ _).set_ _ _), hBd⟩
theorem drop_ne {l : List UInt8} {k : Nat} (h : l.drop k ≠ []) : l ≠ [] := fun e => h (by rw [e]; simp)
theorem IsR.cut_eq {w : World} {g B bad : Nat} {l : List UInt8} {A : Option Addr} {c k : Nat} (hR : IsR w g B (l, bad)) (hS : SlB w A c l) (hBd : l ≠ [] → ∀ ad, A = some ad → ad.block < B) (hk : k ≤ l.length) (h : c = k) : IsR (w.setCell ⟨g, 0, none⟩ (.slice A (l.length - k) 0)) g B (l.drop k, bad) := by
 have := Sl.cutB hS hk
 rw [if_pos h, show c - k = 0 from by omega] at this
 exact hR.store (by simp) (by rw [← List.length_drop] at this; exact this) (fun hn => hBd (drop_ne hn))
theorem IsR.cut_ne {w : World} {g B bad : Nat} {l : List UInt8} {A : Option Addr} {c k : Nat} (hR : IsR w g B (l, bad)) (hS : SlB w A c l) (hBd : l ≠ [] → ∀ ad, A = some ad → ad.block < B) (hk : k ≤ l.length) (h : ¬ c = k) :
 IsR (w.setCell ⟨g, 0, none⟩ (.slice (Option.map (fun x => x.add k) A) (l.length - k) (c - k))) g B (l.drop k, bad) := by
 have := Sl.cutB hS hk
 rw [if_neg h] at this
 refine hR.store (by simp) (by rw [← List.length_drop] at this; exact this) (fun hn ad hA => ?_)
 cases A with
 | none => simp at hA
 | some a =>
  simp at hA
  rw [← hA, addr_add_block]
  exact hBd (drop_ne hn) a rfl
set_option maxRecDepth 100000 in
set_option maxHeartbeats 400000 in
theorem going_any {g B bad : Nat} {l : List UInt8} {w : World} (hR : IsR w g B (l, bad)) : Calls Tryz.prog 103 #[.pointer (some ⟨g, 0, none⟩)] w fun e w' => e = .returned (.bool (decide (bad = 0))) ∧ w = w' := by
 obtain ⟨A, c, hB, hS, hBd⟩ := hR
 obtain ⟨a0, a1, f0, f1⟩ := hB.two
 rcases errv_cases bad with ⟨h0, he⟩ | ⟨k, hk, h0, he⟩
 · have hd : decide (bad = 0) = true := by simpa using h0
   have H := Lib.hid h0
   clear h0
   go_enter Tryz.func103, Tryz.ntmps103
   go_wp2_with fail
   go_ret
   exact ⟨rfl, rfl⟩
 · have hd : decide (bad = 0) = false := by simp; omega
   have H := Lib.hid h0
   clear h0
   go_enter Tryz.func103, Tryz.ntmps103
   go_wp2_with fail
   go_ret
   exact ⟨rfl, rfl⟩
set_option maxRecDepth 100000 in
set_option maxHeartbeats 400000 in
theorem Fail_any {g B bad : Nat} {l : List UInt8} {w : World} (k : Nat) (hR : IsR w g B (l, bad)) :
 Calls Tryz.prog 71 #[.pointer (some ⟨g, 0, none⟩), errv k] w fun e w' => e = .returned (.tuple #[]) ∧ IsR w' g B (rFail k (l, bad)) ∧ Wr w w' g := by
 have hR0 := hR
 obtain ⟨A, c, hB, hS, hBd⟩ := hR
 obtain ⟨a0, a1, f0, f1⟩ := hB.two
 rcases Decidable.em (bad = 0) with h0 | h0
 · have hd : decide (bad = 0) = true := by simpa using h0
   have hf : rFail k (l, bad) = (l, k) := by unfold rFail; rw [if_pos h0]
   have H := Lib.hid h0
   clear h0
   have hx : ∃ x, errv k = x ∧ (x = .nilIface ∨ ∃ n, x = .iface 60 (.int .i64 n)) := by
    rcases errv_cases k with ⟨_, h⟩ | ⟨n, _, _, h⟩
    · exact ⟨_, h, .inl rfl⟩
    · exact ⟨_, h, .inr ⟨n, rfl⟩⟩
   have HF := Lib.hid hf
   clear hf
   obtain ⟨x, hx, hx2⟩ := hx
   have HX := Lib.hid hx
   rw [hx]
   clear hx
   rcases hx2 with rfl | ⟨n, rfl⟩
   all_goals
    go_enter Tryz.func71, Tryz.ntmps71
    go_wp2_with fail
    refine (going_any hR0).mono ?_
    rintro e w1 ⟨rfl, rfl⟩
    go_wp2_with fail
    go_end0
    refine ⟨rfl, ?_, (Wr.refl _ _).set_ _ _⟩
    rw [HF.out]
    refine ⟨A, c, ?_, hS.wrR hR0 ((Wr.refl _ _).set_ _ _), hBd⟩
    have := hB.set_ 1 (errv k)
    rw [HX.out] at this
    simpa [HX.out] using this
 · have hd : decide (bad = 0) = false := by simpa using h0
   have hf : rFail k (l, bad) = (l, bad) := by unfold rFail; rw [if_neg h0]
   have HF := Lib.hid hf
   clear h0 hf
   go_enter Tryz.func71, Tryz.ntmps71
   go_wp2_with fail
   refine (going_any hR0).mono ?_
   rintro e w1 ⟨rfl, rfl⟩
   go_wp2_with fail
   go_end0
   exact ⟨rfl, by rw [HF.out]; exact hR0, Wr.refl _ _⟩
set_option maxRecDepth 100000 in
set_option maxHeartbeats 400000 in
theorem Number_any {g B bad : Nat} {l : List UInt8} {w : World} (hR : IsR w g B (l, bad)) :
 Calls Tryz.prog 70 #[.pointer (some ⟨g, 0, none⟩)] w fun e w' => e = .returned (.int .u64 ((rNum (l, bad)).1 : Nat)) ∧ IsR w' g B (rNum (l, bad)).2 ∧ Wr w w' g := by
 have hR0 := hR
 obtain ⟨A, c, hB, hS, hBd⟩ := hR
 obtain ⟨a0, a1, f0, f1⟩ := hB.two
 rcases Decidable.em (bad = 0) with h0 | h0
 · subst h0
   have he : errv 0 = .nilIface := rfl
   go_enter Tryz.func70, Tryz.ntmps70
   go_wp2_with fail
   refine (going_any hR0).mono ?_
   rintro e w1 ⟨rfl, rfl⟩
   go_wp2_with fail
   refine (Take_any A c l _ hS).mono ?_
   rintro e w1 ⟨rfl, ⟨ht, rfl⟩ | ⟨n, k, ht, rfl⟩⟩
   · have hn : rNum (l, 0) = (0, (l, 2)) := by simp [rNum, ht]
     have HN := Lib.hid hn
     clear hn ht
     go_wp2_with fail
     go_ret
     rw [HN.out]
     exact ⟨rfl, ⟨A, c, hB.set_ 1 (.iface 60 (.int .i64 2)), hS.wrR hR0 ((Wr.refl _ _).set_ _ _), hBd⟩, (Wr.refl _ _).set_ _ _⟩
   · have hn : rNum (l, 0) = (n, (l.drop k, 0)) := by simp [rNum, ht]
     obtain ⟨hu, hk, _⟩ := take_some ht
     have hkc : k ≤ c := Nat.le_trans hk hS.2.1
     have hmx : c ≤ 9223372036854775807 := by have := hS.2.2.1; unfold maxLen at this; exact this
     have HN := Lib.hid hn
     clear hn ht
     go_wp2_with fail
     all_goals
      go_ret
      rw [HN.out]
      refine ⟨rfl, ?_, (Wr.refl _ _).set_ _ _⟩
      first | exact hR0.cut_eq hS hBd hk ‹_› | exact hR0.cut_ne hS hBd hk ‹_›
 · have hn : rNum (l, bad) = (0, (l, bad)) := by simp [rNum, h0]
   have hd : decide (bad = 0) = false := by simpa using h0
   have HN := Lib.hid hn
   clear hn h0
   go_enter Tryz.func70, Tryz.ntmps70
   go_wp2_with fail
   refine (going_any hR0).mono ?_
   rintro e w1 ⟨rfl, rfl⟩
   go_wp2_with fail
   go_ret
   rw [HN.out]
   exact ⟨rfl, hR0, Wr.refl _ _⟩
theorem rNum_u64 (s : List UInt8 × Nat) : U64 (rNum s).1 := by
 unfold rNum
 split
 · unfold U64; omega
 · split
   · unfold U64; omega
   · rename_i h; exact (take_some h).1
set_option maxRecDepth 100000 in
set_option maxHeartbeats 400000 in
theorem Within_any {g B : Nat} {s : List UInt8 × Nat} {w : World} (most : Nat) (hR : IsR w g B s) :
 Calls Tryz.prog 68 #[.pointer (some ⟨g, 0, none⟩), .int .u64 most] w fun e w' => e = .returned (.int .i64 ((rWithin most s).1 : Nat)) ∧ IsR w' g B (rWithin most s).2 ∧ Wr w w' g := by
 obtain ⟨l, bad⟩ := s
 have hNum := Number_any hR
 have hu := rNum_u64 (l, bad)
 have hW : rWithin most (l, bad) = if (rNum (l, bad)).1 > most ∨ (rNum (l, bad)).1 > 4611686018427387904 then (0, rFail 1 (rNum (l, bad)).2) else rNum (l, bad) := rfl
 generalize rNum (l, bad) = r at *
 obtain ⟨n, l2, bad2⟩ := r
 have HW := Lib.hid hW
 clear hW
 rcases Decidable.em (most < n) with h1 | h1
 · have HG : Hid (rWithin most (l, bad) = (0, rFail 1 (l2, bad2))) := (show _ = _ by rw [HW.out, if_pos (Or.inl h1)])
   have HN := Lib.hid hNum
   clear hNum
   go_enter Tryz.func68, Tryz.ntmps68
   go_wp2_with fail
   refine HN.out.mono ?_
   rintro e w1 ⟨rfl, hR1, hw1⟩
   go_wp2_with fail
   refine (Fail_any 1 hR1).mono ?_
   rintro e w2 ⟨rfl, hR2, hw2⟩
   go_wp2_with fail
   go_ret
   rw [HG.out]
   exact ⟨rfl, hR2, hw1.trans hw2⟩
 · rcases Decidable.em (4611686018427387904 < n) with h2 | h2
   · have HG : Hid (rWithin most (l, bad) = (0, rFail 1 (l2, bad2))) := (show _ = _ by rw [HW.out, if_pos (Or.inr h2)])
     have h3 : (4611686018427387904 : Int) < (n : Int) := by omega
     clear h2
     have HN := Lib.hid hNum
     clear hNum
     go_enter Tryz.func68, Tryz.ntmps68
     go_wp2_with fail
     refine HN.out.mono ?_
     rintro e w1 ⟨rfl, hR1, hw1⟩
     go_wp2_with fail
     refine (Fail_any 1 hR1).mono ?_
     rintro e w2 ⟨rfl, hR2, hw2⟩
     go_wp2_with fail
     go_ret
     rw [HG.out]
     exact ⟨rfl, hR2, hw1.trans hw2⟩
   · have HG : Hid (rWithin most (l, bad) = (n, (l2, bad2))) := (show _ = _ by rw [HW.out, if_neg (by simp only [gt_iff_lt]; omega)])
     have h3 : (n : Int) ≤ 4611686018427387904 := by omega
     clear h2
     have HN := Lib.hid hNum
     clear hNum
     go_enter Tryz.func68, Tryz.ntmps68
     go_wp2_with fail
     refine HN.out.mono ?_
     rintro e w1 ⟨rfl, hR1, hw1⟩
     go_wp2_with fail
     go_ret
     rw [HG.out]
     exact ⟨rfl, hR1, hw1⟩
set_option maxRecDepth 100000 in
set_option maxHeartbeats 1000000 in
theorem Fixed_any {g B bad : Nat} {l : List UInt8} {w : World} (many : Int) (hl : l.length ≤ 1000000000) (hR : IsR w g B (l, bad)) :
 Calls Tryz.prog 102 #[.pointer (some ⟨g, 0, none⟩), .int .i64 many] w (GivesR w g B (rFixed many (l, bad))) := by
 have hR0 := hR
 have hglt := hR.lt
 obtain ⟨A, c, hB, hS, hBd⟩ := hR
 obtain ⟨a0, a1, f0, f1⟩ := hB.two
 rcases Decidable.em (bad = 0) with h0 | h0
 · subst h0
   have he : errv 0 = .nilIface := rfl
   rcases Decidable.em (many < 0) with h1 | h1
   · have HG : Hid (rFixed many (l, 0) = ([], (l, 2))) := (show _ = _ by simp [rFixed, h1])
     go_enter Tryz.func102, Tryz.ntmps102
     go_wp2_with fail
     refine (going_any hR0).mono ?_
     rintro e w1 ⟨rfl, rfl⟩
     go_wp2_with fail
     refine (Fail_any 2 hR0).mono ?_
     rintro e w2 ⟨rfl, hR2, hw2⟩
     go_wp2_with fail
     go_ret
     rw [HG.out]
     exact ⟨none, 0, [], rfl, rfl, Own.none_ _ _ _ _, hR2, hw2⟩
   · obtain ⟨k, rfl⟩ := Int.eq_ofNat_of_zero_le (by omega : 0 ≤ many)
     rcases Decidable.em (l.length < k) with h2 | h2
     · have HG : Hid (rFixed k (l, 0) = ([], (l, 2))) := (show _ = _ by simp [rFixed, h2])
       go_enter Tryz.func102, Tryz.ntmps102
       go_wp2_with fail
       refine (going_any hR0).mono ?_
       rintro e w1 ⟨rfl, rfl⟩
       go_wp2_with fail
       refine (Fail_any 2 hR0).mono ?_
       rintro e w2 ⟨rfl, hR2, hw2⟩
       go_wp2_with fail
       go_ret
       rw [HG.out]
       exact ⟨none, 0, [], rfl, rfl, Own.none_ _ _ _ _, hR2, hw2⟩
     · have HG : Hid (rFixed k (l, 0) = (l.take k, (l.drop k, 0))) := (show _ = _ by simp [rFixed, h2])
       have hk : k ≤ l.length := by omega
       have hkc : k ≤ c := Nat.le_trans hk hS.2.1
       have hmx : c ≤ 9223372036854775807 := by have := hS.2.2.1; unfold maxLen at this; exact this
       go_enter Tryz.func102, Tryz.ntmps102
       go_wp2_with fail
       refine (going_any hR0).mono ?_
       rintro e w1 ⟨rfl, rfl⟩
       go_wp2_with fail
       have hcl := clone_any A c (l.take k) w (by simp; omega) (hS.takeB k)
       rw [show (l.take k).length = k from by simp; omega] at hcl
       refine hcl.mono ?_
       clear hcl
       rintro e w2 ⟨A2, c2, m2, rfl, hm2, ho2, hb2⟩
       have hR2 := hR0.below hb2
       have hS2 := hS.below hb2
       obtain ⟨b0, b1, g0, g1⟩ := (hB.below hb2).two
       go_wp2_with fail
       all_goals
        go_ret
        rw [HG.out]
        refine ⟨A2, c2, m2, rfl, hm2, ho2.wr hglt ((Wr.refl _ _).set_ _ _), ?_, (Wr.of_below hb2).set_ _ _⟩
        first | exact hR2.cut_eq hS2 hBd hk ‹_› | exact hR2.cut_ne hS2 hBd hk ‹_›
 · have hd : decide (bad = 0) = false := by simpa using h0
   have HG : Hid (rFixed many (l, bad) = ([], (l, bad))) := (show _ = _ by simp [rFixed, h0])
   clear h0
   go_enter Tryz.func102, Tryz.ntmps102
   go_wp2_with fail
   refine (going_any hR0).mono ?_
   rintro e w1 ⟨rfl, rfl⟩
   go_wp2_with fail
   go_ret
   rw [HG.out]
   exact ⟨none, 0, [], rfl, rfl, Own.none_ _ _ _ _, hR0, Wr.refl _ _⟩
set_option maxRecDepth 100000 in
set_option maxHeartbeats 400000 in
theorem Left_any {g B bad : Nat} {l : List UInt8} {w : World} (hR : IsR w g B (l, bad)) : Calls Tryz.prog 106 #[.pointer (some ⟨g, 0, none⟩)] w fun e w' => e = .returned (.int .i64 (rLeft (l, bad) : Nat)) ∧ w = w' := by
 have hR0 := hR
 obtain ⟨A, c, hB, hS, _⟩ := hR
 obtain ⟨a0, a1, f0, f1⟩ := hB.two
 rcases Decidable.em (bad = 0) with h0 | h0
 · subst h0
   go_enter Tryz.func106, Tryz.ntmps106
   go_wp2_with fail
   refine (going_any hR0).mono ?_
   rintro e w1 ⟨rfl, rfl⟩
   go_wp2_with fail
   go_ret
   exact ⟨rfl, rfl⟩
 · have hd : decide (bad = 0) = false := by simpa using h0
   have HG : Hid (rLeft (l, bad) = 0) := (show _ = _ by simp [rLeft, h0])
   clear h0
   go_enter Tryz.func106, Tryz.ntmps106
   go_wp2_with fail
   refine (going_any hR0).mono ?_
   rintro e w1 ⟨rfl, rfl⟩
   go_wp2_with fail
   go_ret
   exact ⟨by rw [HG.out]; rfl, rfl⟩
set_option maxRecDepth 100000 in
set_option maxHeartbeats 400000 in
theorem Err_any {g B bad : Nat} {l : List UInt8} {w : World} (hR : IsR w g B (l, bad)) : Calls Tryz.prog 105 #[.pointer (some ⟨g, 0, none⟩)] w fun e w' => e = .returned (errv bad) ∧ w = w' := by
 obtain ⟨A, c, hB, hS, _⟩ := hR
 obtain ⟨a0, a1, f0, f1⟩ := hB.two
 go_enter Tryz.func105, Tryz.ntmps105
 go_wp2_with fail
 go_ret
 exact ⟨rfl, rfl⟩
set_option maxRecDepth 100000 in
set_option maxHeartbeats 400000 in
theorem End_any {g B bad : Nat} {l : List UInt8} {w : World} (hR : IsR w g B (l, bad)) : Calls Tryz.prog 73 #[.pointer (some ⟨g, 0, none⟩)] w fun e w' => e = .returned (errv (rEnd (l, bad))) ∧ w = w' := by
 rcases errv_cases bad with ⟨rfl, he⟩ | ⟨k, hk, h0, he⟩
 · rcases Decidable.em (0 < l.length) with hl | hl
   · have HG : Hid (rEnd (l, 0) = 2) := (show (if (0 : Nat) = 0 ∧ 0 < l.length then 2 else 0) = 2 by rw [if_pos ⟨rfl, hl⟩])
     have HL : Hid (rLeft (l, 0) = l.length) := (show _ = _ from rfl)
     go_enter Tryz.func73, Tryz.ntmps73
     go_wp2_with fail
     refine (Err_any hR).mono ?_
     rintro e w1 ⟨rfl, rfl⟩
     go_wp2_with fail
     refine (Left_any hR).mono ?_
     rintro e w1 ⟨rfl, rfl⟩
     rw [HL.out]
     go_wp2_with fail
     go_ret
     exact ⟨by rw [HG.out]; rfl, rfl⟩
   · have HG : Hid (rEnd (l, 0) = 0) := (show (if (0 : Nat) = 0 ∧ 0 < l.length then 2 else 0) = 0 by rw [if_neg (fun h => hl h.2)])
     have HL : Hid (rLeft (l, 0) = l.length) := (show _ = _ from rfl)
     go_enter Tryz.func73, Tryz.ntmps73
     go_wp2_with fail
     refine (Err_any hR).mono ?_
     rintro e w1 ⟨rfl, rfl⟩
     go_wp2_with fail
     refine (Left_any hR).mono ?_
     rintro e w1 ⟨rfl, rfl⟩
     rw [HL.out]
     go_wp2_with fail
     go_ret
     exact ⟨by rw [HG.out]; rfl, rfl⟩
 · have HG : Hid (rEnd (l, bad) = bad) := (show _ = _ by simp only [rEnd]; rw [if_neg (by omega)])
   have H0 := Lib.hid h0
   clear h0
   go_enter Tryz.func73, Tryz.ntmps73
   go_wp2_with fail
   refine (Err_any hR).mono ?_
   rintro e w1 ⟨rfl, rfl⟩
   go_wp2_with fail
   go_ret
   exact ⟨by rw [HG.out, he]; rfl, rfl⟩
set_option maxRecDepth 100000 in
set_option maxHeartbeats 400000 in
theorem RNew_any (A : Option Addr) (c : Nat) (l : List UInt8) (w : World) (hs : SlB w A c l) : Calls Tryz.prog 67 #[.slice A l.length c] w fun e w' => ∃ g, e = .returned (.pointer (some ⟨g, 0, none⟩)) ∧ w.heap.size ≤ g ∧ IsR w' g w.heap.size (l, 0) ∧ Below w.heap.size w w' := by
 go_enter Tryz.func67, Tryz.ntmps67
 go_wp2_with fail
 go_ret
 refine ⟨w.heap.size, rfl, Nat.le_refl _, ⟨A, c, Blk.new _ _ _, hs.below (below_new _ _), fun hn ad hA => ?_⟩, below_new _ _⟩
 have hl : 0 < l.length := by cases l <;> simp_all
 obtain ⟨ad', hA', hc⟩ := hs.at1 (k := 0) hl
 rw [hA] at hA'
 injection hA' with e
 subst e
 have := World.block_lt_of_cell? w _ hc
 rwa [addr_add_block] at this
end
section
open Go.RowKit
theorem Blk.cells2 {w : World} {g : Nat} {t : TypeId} {a b : Value} (h : Blk w g t #[a, b]) : w.cell? ⟨g, 0, none⟩ = some a ∧ w.cell? ⟨g, 1, none⟩ = some b := ⟨h.cell 0, h.cell 1⟩
theorem below_two {B : Nat} {a w : World} (h : Below B a w) {g : Nat} (hg : B ≤ g) (x y : Value) : Below B a ((w.setCell ⟨g, 0, none⟩ x).setCell ⟨g, 1, none⟩ y) := (h.setCell (p := ⟨g, 0, none⟩) hg x).setCell (p := ⟨g, 1, none⟩) hg y
theorem blk_two_far {w : World} {g g' : Nat} {t : TypeId} {cs : Array Value} (h : Blk w g t cs) (hne : g ≠ g') (x y : Value) : Blk ((w.setCell ⟨g', 0, none⟩ x).setCell ⟨g', 1, none⟩ y) g t cs :=
 (h.far (p := ⟨g', 0, none⟩) hne x).far (p := ⟨g', 1, none⟩) hne y
theorem IsR.drew {g B : Nat} {s : List UInt8 × Nat} {w : World} (h : IsR w g B s) : IsR w.drew g B s := h
attribute [local go_sem ↓] Go.wp_at_zero Go.wp_at_succ
end
section
open Go.RowKit
attribute [local go_sem ↓] Go.wp_at_zero Go.wp_at_succ
theorem kk {w : World} {g g' : Nat} {t t' : TypeId} {a b x y z : Value} (h : Blk w g t #[a, b]) (k : Blk w g' t' #[x, y, z]) : w.cell? ⟨g, 0, none⟩ = some a ∧ w.cell? ⟨g, 1, none⟩ = some b ∧ w.cell? ⟨g', 1, none⟩ = some y ∧ w.cell? ⟨g', 2, none⟩ = some z :=
 ⟨h.cell 0, h.cell 1, k.cell 1, k.cell 2⟩
theorem rFail_len (k : Nat) (s : List UInt8 × Nat) : (rFail k s).1.length ≤ s.1.length := by unfold rFail; split <;> exact Nat.le_refl _
theorem rWithin_len (n : Nat) (s : List UInt8 × Nat) : (rWithin n s).2.1.length ≤ s.1.length := by
 have := rNum_len s
 unfold rWithin
 split
 · exact Nat.le_trans (rFail_len _ _) this
 · exact this
theorem rFixed_len (n : Int) (s : List UInt8 × Nat) : (rFixed n s).2.1.length ≤ s.1.length := by
 unfold rFixed
 split
 · exact Nat.le_refl _
 · split
   · exact Nat.le_refl _
   · simp
def u6 (kind : Int) (k : Int) : Prop := (IntKind.u64.wrap kind).tmod 6 = k
abbrev cv (k : Int) (A : Option Addr) (n c : Nat) : Value := .agg #[.int .i64 k, .slice A n c]
theorem strs_map (l : List UInt8) : strOfNums (l.map fun b => (b.toNat : Int)) = ⟨l.toArray⟩ := by
 simp only [strOfNums, List.map_map]
 congr 2
 simp [Function.comp_def]
theorem of_map (l : List UInt8) : Lib.bytesOf (l.map fun b => (b.toNat : Int)) = l := by
 simp only [Lib.bytesOf, List.map_map]
 simp [Function.comp_def]
theorem bEqual_any (A B : Option Addr) (c d : Nat) (l m : List UInt8) (w : World) (ha : SlB w A c l) (hb : SlB w B d m) :
 Calls Tryz.prog 51 #[.slice A l.length c, .slice B m.length d] w fun e w' => e = .returned (.bool (l == m)) ∧ w = w' := by
 have h1 := conv_str (P := Tryz.prog) 52 9 5 Tryz.underlying52 Tryz.underlying5 Tryz.underlying9 ha rfl
 have h2 := conv_str (P := Tryz.prog) 52 9 5 Tryz.underlying52 Tryz.underlying5 Tryz.underlying9 hb rfl
 rw [← strs_map] at h1 h2
 refine (Go.Proofs.Tryz.bytes_Equal _ _ _ _ w h1 h2).mono ?_
 rintro e w' ⟨rfl, rfl⟩
 exact ⟨by rw [of_map, of_map], rfl⟩
set_option maxRecDepth 100000 in
set_option maxHeartbeats 400000 in
theorem CCheck_any {A : Option Addr} {c : Nat} (k : Int) (d : List UInt8) (w : World) : Calls Tryz.prog 130 #[cv k A d.length c] w fun e w' => e = .returned (errv (cchk (k, d))) ∧ Below w.heap.size w w' := by
 rcases cchk_cases (k, d) with ⟨h1, hc⟩ | ⟨h1, h2, hc⟩ | ⟨h1, h2, h3, hc⟩ | ⟨h1, h2, h3, h4, h5, hc⟩ | ⟨h1, h2, h3, hc⟩ | ⟨h1, h2, h3, hc⟩
 case inr.inr.inr.inl =>
  have hb : (k != 1) = true := by simpa using h5
  have HC := Lib.hid hc
  clear hc h5
  dsimp only at *
  go_enter Tryz.func130, Tryz.ntmps130
  go_wp2_with fail
  go_ret
  exact ⟨by rw [HC.out]; rfl, below_new _ _⟩
 case inr.inr.inr.inr.inl =>
  obtain rfl : d = [] := List.eq_nil_of_length_eq_zero h3
  have HC := Lib.hid hc
  clear hc h3
  dsimp only at *
  go_enter Tryz.func130, Tryz.ntmps130
  go_wp2_with fail
  go_ret
  exact ⟨by rw [HC.out]; rfl, below_new _ _⟩
 case inr.inr.inr.inr.inr =>
  dsimp only at h3
  subst h3
  have HC := Lib.hid hc
  clear hc
  dsimp only at *
  go_enter Tryz.func130, Tryz.ntmps130
  go_wp2_with fail
  go_ret
  exact ⟨by rw [HC.out]; rfl, below_new _ _⟩
 all_goals
  have HC := Lib.hid hc
  clear hc
  dsimp only at *
  go_enter Tryz.func130, Tryz.ntmps130
  go_wp2_with fail
  go_ret
  exact ⟨by rw [HC.out]; rfl, below_new _ _⟩
set_option maxRecDepth 100000 in
set_option maxHeartbeats 400000 in
theorem CSame_any {A A2 : Option Addr} {c c2 : Nat} (k k2 : Int) (d d2 : List UInt8) (w : World) (ha : SlB w A c d) (hb : SlB w A2 c2 d2) :
 Calls Tryz.prog 20 #[cv k A d.length c, cv k2 A2 d2.length c2] w fun e w' => e = .returned (.bool (same (k, d) (k2, d2))) ∧ Below w.heap.size w w' := by
 have hB0 := (Blk.new w 54 #[.int .i64 k, .slice A d.length c]).alloc (.cells #[.int .i64 k2, .slice A2 d2.length c2] 54)
 have hB1 := Blk.newAt (w := w.alloc (.cells #[.int .i64 k, .slice A d.length c] 54)) (g := w.heap.size + 1) (by simp) 54 #[.int .i64 k2, .slice A2 d2.length c2]
 have hbw := bel_alloc (below_new w (.cells #[.int .i64 k, .slice A d.length c] 54)) (.cells #[.int .i64 k2, .slice A2 d2.length c2] 54)
 rcases Decidable.em (k = k2) with rfl | h
 · have hs : Hid (same (k, d) (k, d2) = (d == d2)) := (show _ = _ by unfold same; rw [Bool.eq_iff_iff]; simp)
   have hE := Lib.hid (bEqual_any A A2 c c2 d d2 _ (ha.below hbw) (hb.below hbw))
   clear hB0 hB1
   go_enter Tryz.func20, Tryz.ntmps20
   go_wp2_with fail
   refine hE.out.mono ?_
   rintro e w1 ⟨rfl, rfl⟩
   go_wp2_with fail
   go_ret
   exact ⟨by rw [hs.out]; rfl, hbw⟩
 · have hs : Hid (same (k, d) (k2, d2) = false) := (show _ = _ by unfold same; simp [h])
   have hkb : (k == k2) = false := by simpa using h
   clear h hB0 hB1
   go_enter Tryz.func20, Tryz.ntmps20
   go_wp2_with fail
   go_ret
   exact ⟨by rw [hs.out]; rfl, hbw⟩
theorem res_c1 {fn : Func} {a : Nat} {tmps : Array Value} {w : World} {g : Nat} {x y : Value} (hres : fn.results = #[.cell a 54]) (ha : tmps.getD a undef = .pointer (some ⟨g, 0, none⟩)) (hB : Blk w g 54 #[x, y]) :
 (results fn tmps).run Tryz.prog w = .ok (.agg #[x, y]) w := by
 obtain ⟨b0, b1, _, _⟩ := hB.two
 have ha' : tmps[a]?.getD undef = .pointer (some ⟨g, 0, none⟩) := by simpa using ha
 simp [results, hres, go_sem, b0, b1, ha']
theorem res_c2 {fn : Func} {a b : Nat} {tmps : Array Value} {w : World} {g : Nat} {x y : Value} (hres : fn.results = #[.cell a 54, .tmp b]) (ha : tmps.getD a undef = .pointer (some ⟨g, 0, none⟩)) (hB : Blk w g 54 #[x, y]) :
 (results fn tmps).run Tryz.prog w = .ok (.tuple #[.agg #[x, y], tmps.getD b undef]) w := by
 obtain ⟨b0, b1, _, _⟩ := hB.two
 have ha' : tmps[a]?.getD undef = .pointer (some ⟨g, 0, none⟩) := by simpa using ha
 simp [results, hres, go_sem, b0, b1, ha']
def GivesC (w0 : World) (x : Ce) (e : Ending) (w' : World) : Prop :=
 ∃ A c m, e = .returned (cv x.1 A (List.length m) c) ∧ Hid (m = x.2) ∧ OwnB w' w0.heap.size 5 A c m ∧ Below w0.heap.size w0 w'
set_option maxRecDepth 100000 in
set_option maxHeartbeats 1000000 in
theorem CCopy_any {A : Option Addr} {c : Nat} (k : Int) (d : List UInt8) (w : World) (ha : SlB w A c d) (hl : d.length ≤ 1000000000) : Calls Tryz.prog 50 #[cv k A d.length c] w (GivesC w (k, d)) := by
 have hB0 := (Blk.new w 54 #[.int .i64 k, .slice A d.length c]).alloc (.cells #[.int .i64 0, .slice none 0 0] 54)
 have hB1 := Blk.newAt (w := w.alloc (.cells #[.int .i64 k, .slice A d.length c] 54)) (g := w.heap.size + 1) (by simp) 54 #[.int .i64 0, .slice none 0 0]
 have hbw := bel_alloc (below_new w (.cells #[.int .i64 k, .slice A d.length c] 54)) (.cells #[.int .i64 0, .slice none 0 0] 54)
 have hA := ha.below hbw.drew
 have HC := Lib.hid (fun W h => clone_any A c d W hl h)
 have H0 := Lib.hid hB0
 have H1 := Lib.hid hB1
 obtain ⟨b0, b1, f0, f1⟩ := hB1.two
 clear hB0 hB1 ha
 go_enter Tryz.func50, Tryz.ntmps50
 go_wp2_with fail
 go_region_held3 (fun W => W.cell? ⟨w.heap.size, 0, none⟩ = some (.int .i64 k) ∧ W.cell? ⟨w.heap.size, 1, none⟩ = some (.slice A d.length c)) (first | exact hk1 | exact (blk_two_far hX (by omega) _ _).cells2 | exact H0.out.drew.cells2 | go_keep) (first
  | (go_at_call 88; go_must (refine (HC.out _ ?_).mono ?_; exact hA; rintro e w1 ⟨A1, c1, m1, rfl, hm1, ho1, hb1⟩; have hX := H0.out.drew.below hb1; have hk1 := hX.cells2; obtain ⟨b0, b1, f0, f1⟩ := (H1.out.drew.below hb1).two)))
 go_wp2_with fail
 have hw1 := bel_call hbw.drew hb1
 refine bodyPost_ret (res_c1 rfl rfl (g := w.heap.size + 1) (x := .int .i64 k) (y := .slice A1 m1.length c1) ((H1.out.drew.below hb1).set2 _ _)) rfl ⟨A1, c1, m1, rfl, hm1, ?_, below_two hw1 (by omega) _ _⟩
 exact Own.more (ownsRow_setCell_below (a := ⟨w.heap.size + 1, 1, none⟩) (ownsRow_setCell_below (a := ⟨w.heap.size + 1, 0, none⟩) (Own.more (base' := w.heap.size + 2) ho1 (by simp)) (by dsimp only; omega) _) (by dsimp only; omega) _) (by omega)
end
section
open Go.ChangeShapes Go.WideShapes Go.ChangeAt Go.RowKit Go.Deep
section
variable {H : Type} {enc : TypeId × Value → H} {P : Program} {w : World} {base : Nat} {spare : Nat → Bool} {held : Bool}
theorem open_slice_fields {t e : TypeId} {fs : Array Field} {fuel : Nat} {cs : List Value} {x : DataW H × List MemPlace} (ht : P.underlying t = some (.slice e)) (he : P.underlying e = some (.struct fs))
 (hone : oneCellFields P fs = true) (hC : P.cellsOf e = fs.size) (h : DataW.trod enc P w base spare held fuel t cs = some x) :
 (cs = [.slice none 0 0] ∧ x = (.nil, [])) ∨
 ∃ (a : Addr) (len cap m : Nat) (D : Nat → DataW H) (Pl : Nat → List MemPlace), cs = [.slice (some a) len cap] ∧ base ≤ a.block ∧ len ≤ cap ∧ cap ≤ maxLen ∧ m = (if spare a.block then cap else len) ∧
  x = (.slice ((List.range len).map D) ((List.range (m - len)).map fun j => D (len + j)), MemPlace.row a (m * fs.size) ++ (List.range m).flatMap Pl) ∧
  ∀ i, i < m → ∃ (ys : List (DataW H × List MemPlace)) (n : Nat), D i = .agg (ys.map (·.1)) ∧ Pl i = ys.flatMap (·.2) ∧ ys.length = fs.size ∧
   ∀ (j : Nat) (f : Field), fs[j]? = some f → ∃ (v : Value) (y : DataW H × List MemPlace), w.cell? (a.add (i * fs.size + j)) = some v ∧ ys[j]? = some y ∧ DataW.trod enc P w base spare held n f.type [v] = some y := by
 rcases open_slice ht h with h0 | ⟨a, len, cap, m, n, D, Pl, hcs, hb, hl, hm, hmm, hx, hi⟩
 · exact .inl h0
 · refine .inr ⟨a, len, cap, m, D, Pl, hcs, hb, hl, hm, hmm, by rw [hC] at hx; exact hx, fun i him => ?_⟩
   obtain ⟨cs', hc, ht'⟩ := hi i him
   rw [hC] at hc
   obtain ⟨ys, n', hn', hy, hlen, hyl, hf⟩ := DataW.trod_struct he ht'
   obtain ⟨_, hcl, hat⟩ := World.cells?_some hc
   simp only [Prod.mk.injEq] at hy
   refine ⟨ys, n', hy.1, hy.2, hyl, fun j f hj => ?_⟩
   obtain ⟨ho, hk⟩ := hone_of hone j f hj
   have hjl : j < fs.size := (Array.getElem?_eq_some_iff.1 hj).1
   have hcell := hat j hjl
   have hv : cs'[j]? = some (cs'[j]'(by omega)) := List.getElem?_eq_getElem (by omega)
   have h1 := hf j f hj
   rw [ho, hk] at h1
   have hone' : (cs'.drop j).take 1 = [cs'[j]'(by omega)] := by
    rw [List.drop_eq_getElem_cons (by omega)]
    rfl
   rw [hone'] at h1
   have hys : ys[j]? = some (ys[j]'(by omega)) := List.getElem?_eq_getElem (by omega)
   refine ⟨_, _, ?_, hys, h1.trans hys⟩
   rw [← Go.Deep.add_add, hcell, hv]
end
theorem list_choice {T : Type} (R : Nat → T → Prop) : ∀ n, (∀ i, i < n → ∃ t, R i t) → ∃ l : List T, l.length = n ∧ ∀ i (hi : i < l.length), R i l[i]
 | 0, _ => ⟨[], rfl, fun i hi => by simp at hi⟩
 | n + 1, h => by
  obtain ⟨l, hl, hr⟩ := list_choice R n fun i hi => h i (by omega)
  obtain ⟨t, ht⟩ := h n (by omega)
  refine ⟨l ++ [t], by simp [hl], fun i hi => ?_⟩
  by_cases hin : i < l.length
  · rw [List.getElem_append_left hin]; exact hr i hin
  · have : i = l.length := by simp at hi; omega
    subst this
    simpa [hl] using ht
theorem flat_len {T : Type} {f : T → List Value} {s : Nat} (hf : ∀ x, (f x).length = s) (l : List T) : (l.flatMap f).length = l.length * s := by
 induction l with
 | nil => simp
 | cons x l ih => simp only [List.flatMap_cons, List.length_append, hf, ih, List.length_cons, Nat.succ_mul]; omega
theorem flat_get {T : Type} {f : T → List Value} {s : Nat} (hf : ∀ x, (f x).length = s) : ∀ (l : List T) (k j : Nat) (hk : k < l.length), j < s → (l.flatMap f)[k * s + j]? = (f l[k])[j]?
 | x :: l, 0, j, _, hj => by
  simp only [List.flatMap_cons, Nat.zero_mul, Nat.zero_add, List.getElem_cons_zero]
  rw [List.getElem?_append_left (by rw [hf]; exact hj)]
 | x :: l, k + 1, j, hk, hj => by
  have h := flat_get hf l k j (by simpa using hk) hj
  simp only [List.flatMap_cons, List.getElem_cons_succ]
  rw [List.getElem?_append_right (by rw [hf, Nat.succ_mul]; omega), hf, ← h]
  congr 1
  rw [Nat.succ_mul]
  omega
theorem Sl.atS {w : World} {n c size : Nat} {A : Option Addr} {T : Type} {f : T → List Value} {l : List T} (hf : ∀ x, (f x).length = size) (h0 : 0 < size) (h : Sl w size A n c (l.flatMap f)) {k : Nat} (hk : k < l.length) :
 ∃ ad b o, A = some ad ∧ ad.add (k * size) = ⟨b, o, none⟩ ∧ ∀ j u, (f l[k])[j]? = some u → w.cell? ⟨b, o + j, none⟩ = some u := by
 have h1 := flat_get hf l k 0 hk h0
 have h2 : (f l[k])[0]? = some ((f l[k])[0]'(by rw [hf]; exact h0)) := List.getElem?_eq_getElem _
 obtain ⟨ad, hA, hc0⟩ := h.2.2.2.2 _ _ (h1.trans h2)
 have hsp := World.cell?_spot hc0
 have he : ad.add (k * size) = ⟨(ad.add (k * size)).block, (ad.add (k * size)).off, none⟩ := by
  rw [Nat.add_zero] at hsp
  cases h3 : ad.add (k * size) with
  | mk bl of sp => rw [h3] at hsp; simp at hsp; subst hsp; rfl
 refine ⟨ad, _, _, hA, he, fun j u hu => ?_⟩
 have hj : j < size := by have := (List.getElem?_eq_some_iff.1 hu).1; rw [hf] at this; exact this
 obtain ⟨ad', hA', hc⟩ := h.2.2.2.2 _ _ ((flat_get hf l k j hk hj).trans hu)
 rw [hA] at hA'
 injection hA' with e
 subst e
 rw [← addr_add_add, he, addr_lit] at hc
 exact hc
end
section
open Go.RowKit
attribute [local go_sem ↓] Go.wp_at_zero Go.wp_at_succ
abbrev CeV := Int × Option Addr × Nat × List UInt8
abbrev cf (x : CeV) : List Value := [.int .i64 x.1, .slice x.2.1 x.2.2.2.length x.2.2.1]
abbrev ceOf (x : CeV) : Ce := (x.1, x.2.2.2)
def SlC (w : World) (E : Option Addr) (cap : Nat) (l : List CeV) : Prop := Sl w 2 E l.length cap (l.flatMap cf) ∧ ∀ x ∈ l, SlB w x.2.1 x.2.2.1 x.2.2.2
theorem SlC.below {w w' : World} {E : Option Addr} {cap : Nat} {l : List CeV} (h : SlC w E cap l) (hb : Below w.heap.size w w') : SlC w' E cap l := ⟨h.1.below hb, fun x hx => (h.2 x hx).below hb⟩
theorem SlC.at2 {w : World} {E : Option Addr} {cap : Nat} {l : List CeV} (h : SlC w E cap l) {k : Nat} (hk : k < l.length) :
 ∃ ad b o, E = some ad ∧ ad.add (k * 2) = ⟨b, o, none⟩ ∧ w.cell? ⟨b, o, none⟩ = some (.int .i64 l[k].1) ∧ w.cell? ⟨b, o + 1, none⟩ = some (.slice l[k].2.1 l[k].2.2.2.length l[k].2.2.1) ∧ SlB w l[k].2.1 l[k].2.2.1 l[k].2.2.2 := by
 obtain ⟨ad, b, o, h1, h2, h3⟩ := Sl.atS (f := cf) (size := 2) (fun _ => rfl) (by omega) h.1 hk
 exact ⟨ad, b, o, h1, h2, h3 0 _ rfl, h3 1 _ rfl, h.2 _ (List.getElem_mem hk)⟩
def longb (l : List Ce) (most : Int) : Bool := l.any (fun c => decide (100 < c.2.length)) || decide (most < (l.length : Int))
set_option maxRecDepth 100000 in
set_option maxHeartbeats 1000000 in
theorem Long_any {E : Option Addr} {cap : Nat} (l : List CeV) (most : Int) (w : World) (h : SlC w E cap l) : Calls Tryz.prog 9 #[.slice E l.length cap, .int .i64 most] w fun e w' => e = .returned (.bool (longb (l.map ceOf) most)) ∧ Below w.heap.size w w' := by
 have hmax := h.1.len_le
 unfold maxLen at hmax
 go_enter Tryz.func9, Tryz.ntmps9
 go_wp2_with fail
 go_loopw [9] (fun x wr => ∃ k : Nat, k ≤ l.length ∧ x = .int .i64 k ∧ Hid (((l.map ceOf).take k).any (fun c => decide (100 < c.2.length)) = false) ∧ Below w.heap.size w wr) (fun x w => l.length - (intOf x).toNat)
 case atStart => exact ⟨0, Nat.zero_le _, rfl, (show _ = _ from rfl), Below.refl _ _⟩
 case round =>
  obtain ⟨k, hk, rfl, ht, hbr⟩ := hrel
  by_cases hlt : k < l.length
  · obtain ⟨ad, b, o, rfl, had, hc0, hc1, _⟩ := (h.below hbr).at2 hlt
    have hn1 : Hid (100 < l[k].2.2.2.length → longb (l.map ceOf) most = true) := (show _ → _ from fun h => by
     unfold longb
     rw [Bool.or_eq_true]
     left
     rw [List.any_eq_true]
     exact ⟨ceOf l[k], List.mem_map_of_mem (List.getElem_mem hlt), by simpa using h⟩)
    have hn2 : Hid (¬ 100 < l[k].2.2.2.length → ((l.map ceOf).take (k + 1)).any (fun c => decide (100 < c.2.length)) = false) := (show _ → _ from fun h => by
     rw [List.take_succ_eq_append_getElem (by simpa using hlt), List.any_append, ht.out]
     simp at h ⊢
     exact h)
    generalize l[k] = x at *
    obtain ⟨kk, A, c, d⟩ := x
    dsimp only at *
    by_cases hlong : 100 < d.length
    · have hr := hn1.out hlong
      have HR := Lib.hid hr
      clear hr
      go_wp2_with fail
      go_ret
      exact ⟨by rw [HR.out]; rfl, bel_alloc hbr _⟩
    · have hr := Lib.hid (hn2.out hlong)
      go_wp2_with fail
      go_roundw
      case rel => exact ⟨k + 1, hlt, by go_num, hr.out, bel_alloc hbr _⟩
      case measure => simp [intOf]; omega
  · have hf : Hid (longb (l.map ceOf) most = decide (most < (l.length : Int))) := (show _ = _ by
     have h1 := ht.out
     rw [List.take_of_length_le (by simp; omega)] at h1
     unfold longb
     rw [h1]
     simp)
    go_wp2_with fail
    go_ret
    exact ⟨by rw [hf.out]; rfl, hbr⟩
theorem Own.lits1 {w : World} {g : Nat} (hg : g = w.heap.size) (e : TypeId) (b : UInt8) : OwnB (w.alloc (.cells #[bv b] e)) w.heap.size e (some ⟨g, 0, none⟩) 1 [b] := by
 subst hg
 exact World.ownsRow_lit w #[bv b] 1 (Nat.le_refl _) (by simp [maxLen]) (by simp)
theorem u8_eq_iff {x y : UInt8} : ((x.toNat : Int) == (y.toNat : Int)) = true ↔ x = y := by
 rw [beq_iff_eq]
 constructor
 · intro h; exact UInt8.toNat_inj.1 (by omega)
 · rintro rfl; rfl
set_option maxRecDepth 100000 in
set_option maxHeartbeats 1000000 in
theorem alike_any (A B : Option Addr) (c d : Nat) (xs ys : List UInt8) (w : World) (ha : SlB w A c xs) (hb : SlB w B d ys) :
 Calls Tryz.prog 132 #[.slice A xs.length c, .slice B ys.length d] w fun e w' => e = .returned (.int .i64 (cpl xs ys : Nat)) ∧ Below w.heap.size w w' := by
 have hm1 := ha.len_le
 have hm2 := hb.len_le
 unfold maxLen at hm1 hm2
 go_enter Tryz.func132, Tryz.ntmps132
 go_wp2_with fail
 go_loopw [5] (fun x wr => ∃ k : Nat, k ≤ xs.length ∧ k ≤ ys.length ∧ x = .int .i64 k ∧ Hid (xs.take k = ys.take k) ∧ Below w.heap.size w wr) (fun x w => xs.length - (intOf x).toNat)
 case atStart => exact ⟨0, Nat.zero_le _, Nat.zero_le _, rfl, (show _ = _ by simp), Below.refl _ _⟩
 case round =>
  obtain ⟨k, hk1, hk2, rfl, ht, hbr⟩ := hrel
  rcases Decidable.em (k < xs.length ∧ k < ys.length) with hlt | hlt
  · obtain ⟨hl1, hl2⟩ := hlt
    obtain ⟨ad, rfl, hc⟩ := (ha.below hbr).at1 hl1
    obtain ⟨ad2, rfl, hc2⟩ := (hb.below hbr).at1 hl2
    have hts := Lib.hid (take_succ_eq ht.out hl1 hl2)
    have hend := Lib.hid (fun h => cpl_end hk1 hk2 ht.out (.inr (.inr ⟨hl1, hl2, h⟩)))
    have hmin : decide ((k : Int) < min (xs.length : Int) (ys.length : Int)) = true := by simp; omega
    generalize xs[k] = x at *
    generalize ys[k] = y at *
    by_cases hxy : x = y
    · have hxb : ((x.toNat : Int) == (y.toNat : Int)) = true := u8_eq_iff.2 hxy
      have Hxy := Lib.hid hxy
      clear hxy
      go_wp2_with fail
      go_quiet (fail)
      go_wp2_with fail
      go_roundw
      case rel => exact ⟨k + 1, hl1, hl2, by go_num, hts.out.2 Hxy.out, below_drewN hbr _⟩
      case measure => simp [intOf]; omega
    · have hxb : ((x.toNat : Int) == (y.toNat : Int)) = false := by rw [Bool.eq_false_iff]; exact fun h => hxy (u8_eq_iff.1 h)
      have he := Lib.hid (hend.out hxy)
      clear hxy
      go_wp2_with fail
      go_quiet (fail)
      go_wp2_with fail
      go_ret
      exact ⟨by rw [he.out]; rfl, below_drewN hbr _⟩
  · have hmin : decide ((k : Int) < min (xs.length : Int) (ys.length : Int)) = false := by simp; omega
    have he := Lib.hid (cpl_end hk1 hk2 ht.out (by omega))
    go_wp2_with fail
    go_quiet (fail)
    go_wp2_with fail
    go_ret
    exact ⟨by rw [he.out]; rfl, below_drewN hbr _⟩
set_option maxRecDepth 100000 in
set_option maxHeartbeats 1000000 in
theorem row_any {E : Option Addr} {cap : Nat} (l : List CeV) (w : World) (h : SlC w E cap l) : Calls Tryz.prog 131 #[.slice E l.length cap] w fun e w' => e = .returned (.int .i64 (rowN (l.map ceOf) : Nat)) ∧ Below w.heap.size w w' := by
 have hmax := h.1.len_le
 unfold maxLen at hmax
 rcases Nat.eq_zero_or_pos l.length with h0 | hpos
 · obtain rfl := List.eq_nil_of_length_eq_zero h0
   clear h0
   go_enter Tryz.func131, Tryz.ntmps131
   go_wp2_with fail
   refine wp_loop_rounds 1 ?_
   rw [rounds_succ]
   have hlt : decide ((0 : Int) < 0) = false := by decide
   go_wp2_with fail
   go_quiet (fail)
   go_wp2_with fail
   go_ret
   exact ⟨rfl, below_drewN (Below.refl _ _) _⟩
 · have hend : ∀ n, n ≤ (l.map ceOf).length → (∀ j (h : j < (l.map ceOf).length), j < n → (l.map ceOf)[j].1 ≠ 1 ∧ (l.map ceOf)[j].1 = (l[0]'hpos).1) → (n = (l.map ceOf).length ∨ ∃ h : n < (l.map ceOf).length, ¬ ((l.map ceOf)[n].1 ≠ 1 ∧ (l.map ceOf)[n].1 = (l[0]'hpos).1)) → rowGo (l[0]'hpos).1 (l.map ceOf) = n := fun n hn ha hs => rowGo_end hn ha hs
   have hrow : rowN (l.map ceOf) = rowGo (l[0]'hpos).1 (l.map ceOf) := by
    cases l
    · simp at hpos
    · rfl
   obtain ⟨ad0, b0, o0, hE0, had0, hc00, _, _⟩ := h.at2 (k := 0) hpos
   have HE := Lib.hid hend
   have HR := Lib.hid hrow
   clear hend hrow
   obtain rfl : ad0 = ⟨b0, o0, none⟩ := by simpa [Addr.add] using had0
   subst hE0
   generalize l[0].1 = k0 at *
   clear had0
   go_enter Tryz.func131, Tryz.ntmps131
   go_wp2_with fail
   go_loopw [3] (fun x wr => ∃ n : Nat, n ≤ l.length ∧ x = .int .i64 n ∧ Hid (∀ j (h : j < (l.map ceOf).length), j < n → (l.map ceOf)[j].1 ≠ 1 ∧ (l.map ceOf)[j].1 = k0) ∧ Below w.heap.size w wr) (fun x w => l.length - (intOf x).toNat)
   case atStart => exact ⟨0, Nat.zero_le _, rfl, (fun j _ hj => by omega), Below.refl _ _⟩
   case round =>
    obtain ⟨n, hn, rfl, hall, hbr⟩ := hrel
    have hbl := World.block_lt_of_cell? w _ hc00
    have hc00r := (hbr.cell (p := ⟨b0, o0, none⟩) hbl).trans hc00
    by_cases hlt : n < l.length
    · obtain ⟨ad, b, o, hE, had, hc0, _, _⟩ := (h.below hbr).at2 hlt
      injection hE with hE
      subst hE
      rw [addr_lit] at had
      injection had with hb hoo
      subst hb
      subst hoo
      have hst := Lib.hid (fun hc => HE.out n (by simpa using hn) hall.out (.inr ⟨by simpa using hlt, by simpa using hc⟩))
      have hnx : Hid (l[n].1 ≠ 1 → l[n].1 = k0 → ∀ j (h : j < (l.map ceOf).length), j < n + 1 → (l.map ceOf)[j].1 ≠ 1 ∧ (l.map ceOf)[j].1 = k0) := (show _ → _ → _ from fun h1 h2 j hj hjn => by
       by_cases e : j = n
       · subst e; simpa using ⟨h1, h2⟩
       · exact hall.out j hj (by omega))
      generalize l[n].1 = k at *
      rcases Decidable.em (k = 1) with h1 | h1
      · have hb1 : (k != 1) = false := by simpa using h1
        have hR := Lib.hid (hst.out (fun h => absurd h1 h))
        clear h1
        go_wp2_with fail
        go_quiet (fail)
        go_wp2_with fail
        go_ret
        exact ⟨by rw [HR.out, hR.out]; rfl, below_drewN hbr _⟩
      · have hb1 : (k != 1) = true := by simpa using h1
        rcases Decidable.em (k = k0) with h2 | h2
        · have hb2 : (k == k0) = true := by simpa using h2
          have hN := Lib.hid (hnx.out h1 h2)
          clear h1 h2
          go_wp2_with fail
          go_quiet (fail)
          go_wp2_with fail
          go_roundw
          case rel => exact ⟨n + 1, hlt, by go_num, hN.out, below_drewN hbr _⟩
          case measure => simp [intOf]; omega
        · have hb2 : (k == k0) = false := by simpa using h2
          have hR := Lib.hid (hst.out (fun _ => h2))
          clear h1 h2
          go_wp2_with fail
          go_quiet (fail)
          go_wp2_with fail
          go_ret
          exact ⟨by rw [HR.out, hR.out]; rfl, below_drewN hbr _⟩
    · have hR := Lib.hid (HE.out n (by simpa using hn) hall.out (.inl (by simp; omega)))
      go_wp2_with fail
      go_quiet (fail)
      go_wp2_with fail
      go_ret
      exact ⟨by rw [HR.out, hR.out]; rfl, below_drewN hbr _⟩
end
end Go.Proofs.YtajfnmohlnkncaaGreatDoor
