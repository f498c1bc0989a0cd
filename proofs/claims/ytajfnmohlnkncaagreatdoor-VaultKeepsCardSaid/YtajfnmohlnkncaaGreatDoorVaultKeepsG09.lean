/- WHAT IT HOLDS: copy of elements of several cells, plainly. | WHAT IT HOLDS: the cursor's taker, walked: an address. A part's steps. | WHAT IT HOLDS: the cursor that bytes are, plainly (no program). | WHAT IT HOLDS: a call's own blocks, carried together through a walk. | WHAT IT HOLDS: cursor.Take, walked, for all bytes. | WHAT IT HOLDS: two parts, two slices of parts, two cursors, compared. | WHAT IT HOLDS: the document's parts, walked: compared, appended, made of the program's. | WHAT IT HOLDS: a manifest as the document's, walked. | WHAT IT HOLDS: which manifests there are, by the document, walked. | WHAT IT HOLDS: digests and parts out of a reader, as package manifest takes them, walked; a store into the midst of a block. -/
import Derived.Test.YtajfnmohlnkncaaGreatDoorVaultKeepsG01
import Derived.Test.YtajfnmohlnkncaaGreatDoorVaultKeepsG08
import Derived.Laws.CopyOwn
import Derived.Test.YtajfnmohlnkncaaGreatDoorVaultKeepsG04
namespace Go.Proofs.YtajfnmohlnkncaaGreatDoor
section
open Go.RowKit
theorem run_copy_rowK {P : Program} (w : World) (dT sT ty elem : TypeId) (k : Nat) (g o dLen dCap : Nat) (a : Addr) (sLen sCap : Nat) (cur : Array Value) (t : TypeId) (cs : List Value)
 (hu : P.underlying dT = some (.slice elem)) (hs : (P.info? elem).map (·.size) = some k)
 (hg : w.heap[g]? = some (.cells cur t (0, 0))) (hn : cs.length = Nat.min sLen dLen * k)
 (hsrc : ∀ j v, cs[j]? = some v → w.cell? (a.add j) = some v) (hfit : o + cs.length ≤ cur.size) (h1 : ∀ v ∈ cs, v.oneCell' = true) :
 (Builtin.copy_ #[dT, sT] ty #[.slice (some ⟨g, o, none⟩) dLen dCap, .slice (some a) sLen sCap]).run P w =
  .ok (goInt (Nat.min sLen dLen)) (w.setRow g (cur.toList.take o ++ cs ++ cur.toList.drop (o + cs.length)).toArray) := by
 have hl := run_loadCells_list (P := P) w a cs hsrc
 have hst := run_storeCells_at P g o t cs 0 cur w hg (by simpa using hfit) h1
 cases hq : P.info? elem with
 | none => simp [hq] at hs
 | some i =>
  have hi : i.size = k := by simpa [hq] using hs
  simp [Builtin.copy_, run_underlying hu, Builtin.lenOf, Builtin.firstCells, sizeOf, typeInfo, hq, hi, ← hn, hl, hst]
theorem wpl_copyK {P : Program} {w : World} {ops : Array Oper} {rest : List Oper} {o : Oper} {a : Act} {Q : Exit → Act → World → Prop} (hgd : o.guard = none) (d s : Operand) (dT sT : TypeId)
 (ho : o.op = .call { callee := .builtin .copy, args := #[d, s], argTypes := #[dT, sT] }) (elem : TypeId) (k : Nat) (hu : P.underlying dT = some (.slice elem)) (hsz : (P.info? elem).map (·.size) = some k)
 (g off dLen dCap : Nat) (ad : Addr) (sLen sCap : Nat) (hd : a.eval d = .slice (some ⟨g, off, none⟩) dLen dCap) (hs : a.eval s = .slice (some ad) sLen sCap)
 (cur : List Value) (t : TypeId) (hg : w.heap[g]? = some (.cells cur.toArray t (0, 0))) (cs : List Value) (hn : cs.length = Nat.min sLen dLen * k)
 (hsrc : ∀ j v, cs[j]? = some v → w.cell? (ad.add j) = some v) (hfit : off + cs.length ≤ cur.length) (h1 : ∀ v ∈ cs, v.oneCell' = true) (B : Nat) (w0 : World) (hb : Below B w0 w) (hBg : B ≤ g)
 (h : ∀ w', Hid (w'.heap[g]? = some (.cells (splice cur off cs).toArray t (0, 0))) → Below B w0 w' → wpList P ops Q rest (a.put o.dst (goInt (Nat.min sLen dLen))) w') : wpList P ops Q (o :: rest) a w := by
 refine wpList_plain hgd fun K hK => ?_
 have hrun := run_copy_rowK (P := P) w dT sT o.type elem k g off dLen dCap ad sLen sCap cur.toArray t cs hu hsz hg hn hsrc (by simpa using hfit) h1
 unfold Oper.wp
 simp [execOp, ho, resolve, invoke, builtin, hd, hs, hrun, Result.andThen]
 exact hK _ _ (h _ (show _ = _ by simpa [splice] using setRow_heap w g _ _ t _ hg) (below_setRow hb hBg _))
theorem step_copyK {P : Program} {ops : Array Oper} {o : Oper} {a : Act} {w : World} {K : Act → World → Prop} {Q : Exit → Act → World → Prop} {E : Prop} (hgd : o.guard = none) (d s : Operand) (dT sT : TypeId)
 (ho : o.op = .call { callee := .builtin .copy, args := #[d, s], argTypes := #[dT, sT] }) (elem : TypeId) (k : Nat) (hu : P.underlying dT = some (.slice elem)) (hsz : (P.info? elem).map (·.size) = some k)
 (g off dLen dCap : Nat) (ad : Addr) (sLen sCap : Nat) (hd : a.eval d = .slice (some ⟨g, off, none⟩) dLen dCap) (hs : a.eval s = .slice (some ad) sLen sCap)
 (cur : List Value) (t : TypeId) (hg : w.heap[g]? = some (.cells cur.toArray t (0, 0))) (cs : List Value) (q : Nat) (hq : Nat.min sLen dLen = q) (hn : cs.length = q * k)
 (hsrc : ∀ j v, cs[j]? = some v → w.cell? (ad.add j) = some v) (hfit : off + cs.length ≤ cur.length) (h1 : ∀ v ∈ cs, v.oneCell' = true) (B : Nat) (w0 : World) (hb : Below B w0 w) (hBg : B ≤ g)
 (h : ∀ w', Hid (w'.heap[g]? = some (.cells (splice cur off cs).toArray t (0, 0))) → Below B w0 w' → K (a.put o.dst (goInt q)) w') :
 if Region.wanted o (yielded ops a.tmps) = true then Oper.wp P o a w K Q else E := by
 subst hq
 have hw : Region.wanted o (yielded ops a.tmps) = true := by simp [Region.wanted, hgd]
 rw [if_pos hw]
 have hrun := run_copy_rowK (P := P) w dT sT o.type elem k g off dLen dCap ad sLen sCap cur.toArray t cs hu hsz hg hn hsrc (by simpa using hfit) h1
 unfold Oper.wp
 simp [execOp, ho, resolve, invoke, builtin, hd, hs, hrun, Result.andThen]
 exact h _ (show _ = _ by simpa [splice] using setRow_heap w g _ _ t _ hg) (below_setRow hb hBg _)
end
section
open Go.RowKit
attribute [local go_sem ↓] Go.wp_at_zero Go.wp_at_succ
theorem step_storeP {ops : Array Oper} {o : Oper} {a : Act} {w : World} {K : Act → World → Prop} {Q : Exit → Act → World → Prop} {X : Prop} (hgd : Region.wanted o (yielded ops a.tmps) = true) (x y : Operand) (ho : o.op = .store 37 x y)
 (g : Nat) (old p : Pt5) (hx : a.eval x = .pointer (some ⟨g, 0, none⟩)) (hy : a.eval y = .agg (pta p)) (hB : Blk w g 37 (pta old))
 (h : K (a.put o.dst undef) (w.setRow g (pta p))) : if Region.wanted o (yielded ops a.tmps) = true then Oper.wp Tryz.prog o a w K Q else X := by
 rw [if_pos hgd]
 exact wp_store_row 37 x y ho g (pta p) hx hy 37 (pta old) hB (by rw [pta_size]; kernel_rfl) (by rw [pta_size, pta_size]) (pta_all p) h
theorem Blk.row {w : World} {g : Nat} {t : TypeId} {old cs : Array Value} (h : Blk w g t old) : Blk (w.setRow g cs) g t cs := setRow_heap w g old cs t (0, 0) h
theorem Blk.rowFar {w : World} {g k : Nat} {t : TypeId} {cs : Array Value} (h : Blk w k t cs) (hk : k ≠ g) (c2 : Array Value) : Blk (w.setRow g c2) k t cs := (setRow_other w g k c2 hk).trans h
theorem IsR.row {w : World} {g B gc : Nat} {s : List UInt8 × Nat} (h : IsR w g B s) (h1 : g < gc) (h2 : B ≤ gc) (cs : Array Value) : IsR (w.setRow gc cs) g B s := h.apart (C := gc) h1 h2 (below_setRow (Below.refl _ _) (Nat.le_refl gc) cs)
section
variable {w W W' : World} {g gc B : Nat} {p : Pt5}
end
theorem run_copy_none {P : Program} (w : World) (dT sT ty elem : TypeId) (k : Nat) (d : Option Addr) (dLen dCap sCap : Nat) (hu : P.underlying dT = some (.slice elem)) (hs : (P.info? elem).map (·.size) = some k) :
 (Builtin.copy_ #[dT, sT] ty #[.slice d dLen dCap, .slice none 0 sCap]).run P w = .ok (goInt 0) w := by
 cases hq : P.info? elem with
 | none => simp [hq] at hs
 | some i => cases d <;> simp [Builtin.copy_, run_underlying hu, Builtin.lenOf, Builtin.firstCells, sizeOf, typeInfo, hq, loadCells, storeCells]
theorem splice_nil (l : List Value) (k : Nat) : splice l k [] = l := by simp [splice]
def rDg (s : List UInt8 × Nat) : Dg × (List UInt8 × Nat) := (if h : (rFixed 32 s).1.length = 32 then ⟨(rFixed 32 s).1, h⟩ else dg0, (rFixed 32 s).2)
def rPart (f : Int) (s : List UInt8 × Nat) : Pt5 × (List UInt8 × Nat) := ((f, ((rWithin 64 s).1 : Nat), ((rWithin 65536 (rWithin 64 s).2).1 : Nat), (rDg (rWithin 65536 (rWithin 64 s).2).2).1), (rDg (rWithin 65536 (rWithin 64 s).2).2).2)
theorem rDg_eq {m : List UInt8} {s : List UInt8 × Nat} (h : m = (rFixed 32 s).1) : (if h : m.length = 32 then (⟨m, h⟩ : Dg) else dg0) = (rDg s).1 := by subst h; rfl
theorem rFixed32 (s : List UInt8 × Nat) : (rFixed 32 s).1.length = 0 ∨ (rFixed 32 s).1.length = 32 := by
 unfold rFixed
 split
 · exact .inl rfl
 · split
   · exact .inl rfl
   · right
     simp only [List.length_take]
     omega
theorem Fixed_s {g B : Nat} {s : List UInt8 × Nat} {w : World} (many : Int) (hl : s.1.length ≤ 1000000000) (hR : IsR w g B s) : Calls Tryz.prog 102 #[.pointer (some ⟨g, 0, none⟩), .int .i64 many] w (GivesR w g B (rFixed many s)) := by obtain ⟨l, b⟩ := s; exact Fixed_any many hl hR
theorem res_pt {fn : Func} {a : Nat} {tmps : Array Value} {w : World} {g : Nat} {p : Pt5} (hres : fn.results = #[.cell a 37]) (ha : tmps.getD a undef = .pointer (some ⟨g, 0, none⟩)) (hB : Blk w g 37 (pta p)) : (results fn tmps).run Tryz.prog w = .ok (.agg (pta p)) w := by
 have h := run_loadVar_at (P := Tryz.prog) w ⟨g, 0, none⟩ 37 (pta p) hB.cells _ Tryz.underlying37 rfl (by rw [pta_size]; kernel_rfl)
 have ha' : tmps[a]?.getD undef = .pointer (some ⟨g, 0, none⟩) := by simpa using ha
 simp [results, hres, asAddr, h, ha']
end
section
open Go.RowKit
def crLoop : Nat → Int → List UInt8 × Nat → List Pt5 × (List UInt8 × Nat)
 | 0, _, s => ([], s)
 | n + 1, a, s => ((rPart a s).1 :: (crLoop n (a + (rPart a s).1.2.1) (rPart a s).2).1, (crLoop n (a + (rPart a s).1.2.1) (rPart a s).2).2)
theorem crLoop_succ : ∀ (k : Nat) (a : Int) (s : List UInt8 × Nat), crLoop (k + 1) a s = ((crLoop k a s).1 ++ [(rPart (pend a (crLoop k a s).1) (crLoop k a s).2).1], (rPart (pend a (crLoop k a s).1) (crLoop k a s).2).2)
 | 0, a, s => by simp [crLoop, pend]
 | k + 1, a, s => by
  have ih := crLoop_succ k (a + (rPart a s).1.2.1) (rPart a s).2
  have h1 : crLoop (k + 1 + 1) a s = ((rPart a s).1 :: (crLoop (k + 1) (a + (rPart a s).1.2.1) (rPart a s).2).1, (crLoop (k + 1) (a + (rPart a s).1.2.1) (rPart a s).2).2) := rfl
  have h2 : crLoop (k + 1) a s = ((rPart a s).1 :: (crLoop k (a + (rPart a s).1.2.1) (rPart a s).2).1, (crLoop k (a + (rPart a s).1.2.1) (rPart a s).2).2) := rfl
  rw [h1, ih, h2]
  rfl
theorem crLoop_len : ∀ (k : Nat) (a : Int) (s : List UInt8 × Nat), (crLoop k a s).1.length = k
 | 0, _, _ => rfl
 | k + 1, a, s => by
  have ih := crLoop_len k (a + (rPart a s).1.2.1) (rPart a s).2
  show ((rPart a s).1 :: (crLoop k (a + (rPart a s).1.2.1) (rPart a s).2).1).length = k + 1
  rw [List.length_cons, ih]
theorem rPart_len (a : Int) (s : List UInt8 × Nat) : (rPart a s).2.1.length ≤ s.1.length := by
 have h1 := rWithin_len 64 s
 have h2 := rWithin_len 65536 (rWithin 64 s).2
 have h3 := rFixed_len 32 (rWithin 65536 (rWithin 64 s).2).2
 exact Nat.le_trans h3 (Nat.le_trans h2 h1)
theorem crLoop_left : ∀ (k : Nat) (a : Int) (s : List UInt8 × Nat), (crLoop k a s).2.1.length ≤ s.1.length
 | 0, _, _ => Nat.le_refl _
 | k + 1, a, s => Nat.le_trans (crLoop_left k (a + (rPart a s).1.2.1) (rPart a s).2) (rPart_len a s)
theorem gen1 {T R : World → Prop} {W : World} (hT : T W) (k : ∀ W, T W → R W) : R W := k W hT
abbrev BL := List (Nat × TypeId × Array Value)
structure Mm (w W : World) (L : BL) (G : List (Option Nat)) : Prop where
 bel : Below w.heap.size w W
 blk : ∀ x ∈ L, Blk W x.1 x.2.1 x.2.2
 low : ∀ x ∈ L, w.heap.size ≤ x.1
 dis : L.Pairwise fun x y => x.1 ≠ y.1
 far : ∀ g, some g ∈ G → g < W.heap.size ∧ ∀ x ∈ L, x.1 ≠ g
section
variable {w W W' : World} {L : BL} {G : List (Option Nat)} {g : Nat} {t : TypeId} {cs : Array Value}
theorem Mm.start (w : World) : Mm w w [] [] := ⟨Below.refl _ _, by simp, by simp, List.Pairwise.nil, by simp⟩
theorem Mm.allocO (h : Mm w W L G) (o : Obj) : Mm w (W.alloc o) L G :=
 ⟨bel_alloc h.bel o, fun x hx => (h.blk x hx).alloc o, h.low, h.dis, fun g hg => ⟨by have := (h.far g hg).1; simp; omega, (h.far g hg).2⟩⟩
theorem Mm.alloc (h : Mm w W L G) (cs : Array Value) (t : TypeId) : Mm w (W.alloc (.cells cs t)) ((W.heap.size, t, cs) :: L) G := by
 refine ⟨bel_alloc h.bel _, fun x hx => ?_, fun x hx => ?_, List.pairwise_cons.2 ⟨fun x hx => ?_, h.dis⟩, fun g hg => ⟨by have := (h.far g hg).1; simp; omega, fun x hx => ?_⟩⟩
 · rcases List.mem_cons.1 hx with rfl | hx
   · exact Blk.new W t cs
   · exact (h.blk x hx).alloc _
 · rcases List.mem_cons.1 hx with rfl | hx
   · exact h.bel.size
   · exact h.low x hx
 · have := (h.blk x hx).lt
   dsimp only
   omega
 · rcases List.mem_cons.1 hx with rfl | hx
   · have := (h.far g hg).1
     dsimp only
     omega
   · exact (h.far g hg).2 x hx
theorem Mm.call (h : Mm w W L G) (hb : Below W.heap.size W W') : Mm w W' L G :=
 ⟨bel_call h.bel hb, fun x hx => (h.blk x hx).below hb, h.low, h.dis, fun g hg => ⟨Nat.lt_of_lt_of_le (h.far g hg).1 hb.size, (h.far g hg).2⟩⟩
theorem Mm.drew (h : Mm w W L G) : Mm w W.drew L G := ⟨h.bel.drew, fun x hx => (h.blk x hx).drew, h.low, h.dis, h.far⟩
theorem Mm.drewN (h : Mm w W L G) (n : Nat) : Mm w (W.drewN n) L G := ⟨below_drewN h.bel n, fun x hx => (h.blk x hx).drewN n, h.low, h.dis, h.far⟩
theorem Mm.callAdd (h : Mm w W L G) (hb : Below W.heap.size W W') {a : Option Nat} (hA : ∀ k, a = some k → W.heap.size ≤ k ∧ k < W'.heap.size) : Mm w W' L (a :: G) := by
 have h' := h.call hb
 refine ⟨h'.bel, h'.blk, h'.low, h'.dis, fun g hg => ?_⟩
 rcases List.mem_cons.1 hg with e | hg
 · obtain ⟨h1, h2⟩ := hA g e.symm
   exact ⟨h2, fun x hx => by have := (h.blk x hx).lt; omega⟩
 · exact h'.far g hg
theorem Mm.add (h : Mm w W L G) {a : Option Nat} (hA : ∀ k, a = some k → k < W.heap.size ∧ ∀ x ∈ L, x.1 ≠ k) : Mm w W L (a :: G) := by
 refine ⟨h.bel, h.blk, h.low, h.dis, fun g hg => ?_⟩
 rcases List.mem_cons.1 hg with e | hg
 · exact hA g e.symm
 · exact h.far g hg
theorem Mm.sub (h : Mm w W L G) {L' : BL} (hL : L'.Sublist L) : Mm w W L' G :=
 ⟨h.bel, fun x hx => h.blk x (hL.subset hx), fun x hx => h.low x (hL.subset hx), h.dis.sublist hL, fun g hg => ⟨(h.far g hg).1, fun x hx => (h.far g hg).2 x (hL.subset hx)⟩⟩
theorem Mm.subG (h : Mm w W L G) {G' : List (Option Nat)} (hG : ∀ x ∈ G', x ∈ G) : Mm w W L G' := ⟨h.bel, h.blk, h.low, h.dis, fun g hg => h.far g (hG _ hg)⟩
theorem Mm.wr (h : Mm w W L G) (hr : Wr W W' g) (hg : some g ∈ G) (hlo : w.heap.size ≤ g) : Mm w W' L G :=
 ⟨h.bel.trans (hr.below h.bel.size hlo), fun x hx => (h.blk x hx).wr hr ((h.far g hg).2 x hx), h.low, h.dis, fun k hk => ⟨Nat.lt_of_lt_of_le (h.far k hk).1 hr.size, (h.far k hk).2⟩⟩
theorem Mm.cons (h : Mm w W L G) (hB : Blk W g t cs) (hlo : w.heap.size ≤ g) (hd : ∀ x ∈ L, g ≠ x.1) (hf : some g ∉ G) : Mm w W ((g, t, cs) :: L) G := by
 refine ⟨h.bel, fun x hx => ?_, fun x hx => ?_, List.pairwise_cons.2 ⟨hd, h.dis⟩, fun k hk => ⟨(h.far k hk).1, fun x hx => ?_⟩⟩
 · rcases List.mem_cons.1 hx with rfl | hx
   · exact hB
   · exact h.blk x hx
 · rcases List.mem_cons.1 hx with rfl | hx
   · exact hlo
   · exact h.low x hx
 · rcases List.mem_cons.1 hx with rfl | hx
   · rintro rfl; exact hf hk
   · exact (h.far k hk).2 x hx
theorem Mm.turn (h : Mm w W L G) (j : Nat) {cs' : Array Value} (hj : L[j]? = some (g, t, cs)) (hB : Blk W' g t cs') (hr : Wr W W' g) : Mm w W' (L.set j (g, t, cs')) G := by
 have hjl : j < L.length := (List.getElem?_eq_some_iff.1 hj).1
 have hje : L[j] = (g, t, cs) := (List.getElem?_eq_some_iff.1 hj).2
 have hmem : (g, t, cs) ∈ L := by rw [← hje]; exact List.getElem_mem hjl
 have hmap : (L.set j (g, t, cs')).map (·.1) = L.map (·.1) := by
  rw [List.map_set]
  apply List.ext_getElem?
  intro i
  rw [List.getElem?_set]
  split
  · rename_i e
    subst e
    simp [hjl, hje]
  · rfl
 have hin : ∀ x ∈ L.set j (g, t, cs'), ∃ y ∈ L, y.1 = x.1 := fun x hx => by
  have : x.1 ∈ (L.set j (g, t, cs')).map (·.1) := List.mem_map_of_mem hx
  rw [hmap] at this
  obtain ⟨y, hy, e⟩ := List.mem_map.1 this
  exact ⟨y, hy, e⟩
 refine ⟨h.bel.trans (hr.below h.bel.size (h.low _ hmem)), fun x hx => ?_, fun x hx => ?_, ?_, fun k hk => ⟨Nat.lt_of_lt_of_le (h.far k hk).1 hr.size, fun x hx => ?_⟩⟩
 · rw [List.mem_iff_getElem?] at hx
   obtain ⟨i, hi⟩ := hx
   rw [List.getElem?_set] at hi
   split at hi
   · rename_i e
     injection hi with hi
     subst hi
     exact hB
   · rename_i e
     have hm := List.mem_of_getElem? hi
     refine (h.blk x hm).wr hr ?_
     obtain ⟨hil, hie⟩ := List.getElem?_eq_some_iff.1 hi
     have hp := List.pairwise_iff_getElem.1 h.dis
     rcases Nat.lt_or_gt_of_ne e with hlt | hlt
     · have := hp j i hjl hil hlt
       rw [hje, hie] at this
       exact fun e => this e.symm
     · have := hp i j hil hjl hlt
       rw [hje, hie] at this
       exact this
 · obtain ⟨y, hy, e⟩ := hin x hx
   rw [← e]
   exact h.low y hy
 · have h1 := h.dis
   rw [show (fun x y : Nat × TypeId × Array Value => x.1 ≠ y.1) = (fun x y => (fun a b : Nat => a ≠ b) x.1 y.1) from rfl, ← List.pairwise_map] at h1 ⊢
   rw [hmap]
   exact h1
 · obtain ⟨y, hy, e⟩ := hin x hx
   rw [← e]
   exact (h.far k hk).2 y hy
theorem Mm.set (h : Mm w W L G) (j i : Nat) (v : Value) (hj : L[j]? = some (g, t, cs)) : Mm w (W.setCell ⟨g, i, none⟩ v) (L.set j (g, t, cs.setIfInBounds i v)) G :=
 h.turn j hj ((h.blk _ (List.mem_of_getElem? hj)).set_ i v) ((Wr.refl _ _).set_ i v)
theorem Wr.row (cs2 : Array Value) : Wr W (W.setRow g cs2) g := ⟨rfl, rfl, rfl, by simp, fun i _ hn => setRow_other W g i cs2 (fun e => hn (by rw [e]))⟩
theorem Mm.row (h : Mm w W L G) (j : Nat) {cs' : Array Value} (hj : L[j]? = some (g, t, cs)) (hB : Blk (W.setRow g cs') g t cs') : Mm w (W.setRow g cs') (L.set j (g, t, cs')) G := h.turn j hj hB (Wr.row cs')
theorem Mm.b0 {L : BL} (h : Mm w W ((g, t, cs) :: L) G) : Blk W g t cs := h.blk _ (.head _)
theorem Mm.b1 {a : Nat × TypeId × Array Value} {L : BL} (h : Mm w W (a :: (g, t, cs) :: L) G) : Blk W g t cs := h.blk _ (.tail _ (.head _))
theorem Mm.b2 {a b : Nat × TypeId × Array Value} {L : BL} (h : Mm w W (a :: b :: (g, t, cs) :: L) G) : Blk W g t cs := h.blk _ (.tail _ (.tail _ (.head _)))
theorem Mm.off (h : Mm w W L G) (hr : Wr W W' g) (hg : ∀ x ∈ L, x.1 ≠ g) (hlo : w.heap.size ≤ g) : Mm w W' L G :=
 ⟨h.bel.trans (hr.below h.bel.size hlo), fun x hx => (h.blk x hx).wr hr (hg x hx), h.low, h.dis, fun k hk => ⟨Nat.lt_of_lt_of_le (h.far k hk).1 hr.size, (h.far k hk).2⟩⟩
theorem Mm.base (h : Mm w W L G) {B : Nat} (hb : Below B W W') (hL : ∀ x ∈ L, x.1 < B) (hlo : w.heap.size ≤ B) {a : Option Nat} (hA : ∀ k, a = some k → B ≤ k ∧ k < W'.heap.size) {G' : List (Option Nat)} (hG : ∀ x ∈ G', x ∈ G) : Mm w W' L (a :: G') := by
 refine ⟨h.bel.trans (hb.mono hlo), fun x hx => (hb.block _ (hL x hx)).trans (h.blk x hx), h.low, h.dis, fun g hg => ?_⟩
 rcases List.mem_cons.1 hg with e | hg
 · obtain ⟨h1, h2⟩ := hA g e.symm
   exact ⟨h2, fun x hx => by have := hL x hx; omega⟩
 · exact ⟨Nat.lt_of_lt_of_le (h.far g (hG _ hg)).1 hb.size, (h.far g (hG _ hg)).2⟩
theorem Mm.above (h : Mm w W L []) {B : Nat} (hb : Below B W W') (hL : ∀ x ∈ L, x.1 < B) (hlo : w.heap.size ≤ B) : Mm w W' L [] :=
 (h.base hb hL hlo (a := none) (fun _ h => by cases h) (G' := []) (fun _ h => h)).subG (fun _ h => .tail _ h)
theorem Mm.grow {k k' : Option Nat} (h : Mm w W L (k :: G)) (hg : W.grownBy W' k) (hk : ∀ g, k = some g → w.heap.size ≤ g) (hk' : k' = k ∨ k' = some W.heap.size) (hlt : ∀ g, k' = some g → g < W'.heap.size) : Mm w W' L (k' :: G) := by
 refine ⟨⟨hg.os.trans h.bel.os, hg.tape.trans h.bel.tape, hg.output.trans h.bel.output, Nat.le_trans h.bel.size hg.size, fun i hi => (hg.block i (Nat.lt_of_lt_of_le hi h.bel.size) (fun e => by have := hk i e.symm; omega)).trans (h.bel.block i hi)⟩, fun x hx => (hg.block x.1 (h.blk x hx).lt (fun e => (h.far x.1 (by rw [e]; exact .head _)).2 x hx rfl)).trans (h.blk x hx), h.low, h.dis, fun g hgm => ?_⟩
 rcases List.mem_cons.1 hgm with e | hgm
 · refine ⟨hlt g e.symm, fun x hx => ?_⟩
   rcases hk' with e2 | e2
   · exact (h.far g (by rw [e, e2]; exact .head _)).2 x hx
   · have := (h.blk x hx).lt
     rw [e2] at e
     injection e with e
     omega
 · exact ⟨Nat.lt_of_lt_of_le (h.far g (.tail _ hgm)).1 hg.size, (h.far g (.tail _ hgm)).2⟩
end
end
section
open Go.RowKit
attribute [local go_sem ↓] Go.wp_at_zero Go.wp_at_succ
theorem wpl_lit1 {w : World} {ops : Array Oper} {rest : List Oper} {o : Oper} {a : Act} {Q : Exit → Act → World → Prop} (hgd : Region.wanted o (yielded ops a.tmps) = true) (x : Operand) (ho : o.op = .buildSlice 44 1 #[(0, x)])
 (p : Pt5) (hx : a.eval x = .agg (pta p)) (h : wpList Tryz.prog ops Q rest (a.put o.dst (.slice (some ⟨w.heap.size, 0, none⟩) 1 1)) (w.alloc (.cells (pta p) 37))) : wpList Tryz.prog ops Q (o :: rest) a w :=
 wpList_step fun _ hK => step_lit1 hgd x ho p hx (hK _ _ h)
theorem IsR.set {w : World} {g B k i : Nat} {s : List UInt8 × Nat} (h : IsR w g B s) (hk : k ≠ g) (hB : B ≤ k) (v : Value) : IsR (w.setCell ⟨k, i, none⟩ v) g B s := by
 obtain ⟨A, c, h1, h2, h3⟩ := h
 refine ⟨A, c, h1.far (by dsimp only; omega) v, ⟨h2.1, h2.2.1, h2.2.2.1, h2.2.2.2.1, fun j u hj => ?_⟩, h3⟩
 obtain ⟨ad, hA, hc⟩ := h2.2.2.2.2 j u hj
 have hne : s.1 ≠ [] := by rintro e; rw [e] at hj; simp at hj
 have hlt := h3 hne ad hA
 exact ⟨ad, hA, by rw [← hc]; exact World.cell?_setCell_far _ _ _ _ (by rw [addr_add_block]; dsimp only; omega)⟩
theorem rPart_first (f : Int) (s : List UInt8 × Nat) : (rPart f s).1.1 = f := rfl
theorem rPart_many (f : Int) (s : List UInt8 × Nat) : (rPart f s).1.2.1 = ((rWithin 64 s).1 : Nat) := rfl
theorem rWithin_le (n : Nat) (s : List UInt8 × Nat) : (rWithin n s).1 ≤ n := by
 unfold rWithin
 split
 · exact Nat.zero_le _
 · rename_i h
   omega
theorem pend_snoc : ∀ (l : List Pt5) (a : Int) (p : Pt5), pend a (l ++ [p]) = pend a l + p.2.1
 | [], _, _ => rfl
 | q :: r, a, p => pend_snoc r (a + q.2.1) p
theorem crLoop_bd (s : List UInt8 × Nat) (a : Int) : ∀ k, a ≤ pend a (crLoop k a s).1 ∧ pend a (crLoop k a s).1 ≤ a + 64 * k
 | 0 => by simp [crLoop, pend]
 | k + 1 => by
  have ih := crLoop_bd s a k
  rw [crLoop_succ]
  dsimp only
  rw [pend_snoc, rPart_many]
  have := rWithin_le 64 (crLoop k a s).2
  omega
theorem Number_s {g B : Nat} {s : List UInt8 × Nat} {w : World} (hR : IsR w g B s) :
 Calls Tryz.prog 70 #[.pointer (some ⟨g, 0, none⟩)] w fun e w' => e = .returned (.int .u64 ((rNum s).1 : Nat)) ∧ IsR w' g B (rNum s).2 ∧ Wr w w' g := by obtain ⟨l, b⟩ := s; exact Number_any hR
theorem Fail_s {g B : Nat} {s : List UInt8 × Nat} {w : World} (k : Nat) (hR : IsR w g B s) :
 Calls Tryz.prog 71 #[.pointer (some ⟨g, 0, none⟩), errv k] w fun e w' => e = .returned (.tuple #[]) ∧ IsR w' g B (rFail k s) ∧ Wr w w' g := by obtain ⟨l, b⟩ := s; exact Fail_any k hR
theorem End_s18 {g B : Nat} {s : List UInt8 × Nat} {w : World} (hR : IsR w g B s) : Calls Tryz.prog 73 #[.pointer (some ⟨g, 0, none⟩)] w fun e w' => e = .returned (errv (rEnd s)) ∧ w = w' := by obtain ⟨l, b⟩ := s; exact End_any hR
theorem foneLen (b : List UInt8) : (fone b).1.length ≤ b.length := by
 unfold fone
 split
 · simp
 · split
   · simp
   · unfold ftake
     split
     · simp
     · split
       · simp
       · split
         · simp
         · split
           · simp only [List.length_drop, List.length_take]; omega
           · simp
theorem rFail_fst18 (k : Nat) (s : List UInt8 × Nat) : (rFail k s).1 = s.1 := by unfold rFail; split <;> rfl
theorem crLoop_I : ∀ (k : Nat) (a : Int) (s : List UInt8 × Nat), 0 ≤ a → a + 64 * k ≤ 1000000000 → PtsI (crLoop k a s).1
 | 0, _, _, _, _ => fun p hp => by cases hp
 | k + 1, a, s, h0, h1 => fun p hp => by
  have hl := rWithin_le 64 s
  have hl2 := rWithin_le 65536 (rWithin 64 s).2
  rcases List.mem_cons.1 (show p ∈ (rPart a s).1 :: (crLoop k (a + (rPart a s).1.2.1) (rPart a s).2).1 from hp) with rfl | hp
  · refine ⟨?_, ?_, ?_⟩
    · rw [rPart_first]; unfold I64; omega
    · rw [rPart_many]; unfold I64; omega
    · show I64 (((rWithin 65536 (rWithin 64 s).2).1 : Nat) : Int); unfold I64; omega
  · exact crLoop_I k _ _ (by rw [rPart_many]; omega) (by rw [rPart_many]; omega) p hp
theorem equalIn_dg (a b : Dg) (n : Nat) (w : World) : (Op.equalIn (n + 2) 35 (.agg (dga a)) (.agg (dga b))).run Tryz.prog w = .ok (decide (a = b)) w := by
 unfold dga
 obtain ⟨i, hi⟩ : ∃ i, Tryz.prog.info? 5 = some i := Option.isSome_iff_exists.1 (by kernel_rfl)
 rw [run_equalIn_array (P := Tryz.prog) (w := w) (n + 1) (t := 35) (e := 5) (n := 32) (i := i) _ _ Tryz.underlying35 hi]
 rw [show Tryz.prog.cellsOf 5 = 1 from by kernel_rfl]
 rw [eqItems_bytes (P := Tryz.prog) Tryz.underlying5 n a.1 b.1 w _ (fun i hi => by have := List.mem_range.1 hi; rw [a.2, b.2]; exact ⟨this, this⟩)]
 rw [dg_all]
theorem dg_cases {Q : Dg → Prop} (h : ∀ b0 b1 b2 b3 b4 b5 b6 b7 b8 b9 b10 b11 b12 b13 b14 b15 b16 b17 b18 b19 b20 b21 b22 b23 b24 b25 b26 b27 b28 b29 b30 b31 : UInt8, Q ⟨[b0, b1, b2, b3, b4, b5, b6, b7, b8, b9, b10, b11, b12, b13, b14, b15, b16, b17, b18, b19, b20, b21, b22, b23, b24, b25, b26, b27, b28, b29, b30, b31], rfl⟩) : ∀ d, Q d := by
 rintro ⟨l, hl⟩
 match l, hl with
 | [b0, b1, b2, b3, b4, b5, b6, b7, b8, b9, b10, b11, b12, b13, b14, b15, b16, b17, b18, b19, b20, b21, b22, b23, b24, b25, b26, b27, b28, b29, b30, b31], _ => exact h b0 b1 b2 b3 b4 b5 b6 b7 b8 b9 b10 b11 b12 b13 b14 b15 b16 b17 b18 b19 b20 b21 b22 b23 b24 b25 b26 b27 b28 b29 b30 b31
theorem mfa_set (n f t r : Int) (A A' : Option Addr) (k c k' c' : Nat) : ∀ d : Dg, (mfa n f t r d A k c).setIfInBounds 36 (.slice A' k' c') = mfa n f t r d A' k' c' := by
 refine dg_cases ?_
 intros
 rfl
section
variable {w : World} {g : Nat} {T : TypeId} {n f t r : Int} {d : Dg} {A : Option Addr} {k c : Nat}
theorem Blm.five (h : Blk w g T (mfa n f t r d A k c)) : w.cell? ⟨g, 0, none⟩ = some (.int .i64 n) ∧ w.cell? ⟨g, 1, none⟩ = some (.int .i64 f) ∧ w.cell? ⟨g, 2, none⟩ = some (.int .i64 t) ∧ w.cell? ⟨g, 3, none⟩ = some (.int .i64 r) ∧ w.cell? ⟨g, 36, none⟩ = some (.slice A k c) := by
 refine ⟨(h.cell 0).trans rfl, (h.cell 1).trans rfl, (h.cell 2).trans rfl, (h.cell 3).trans rfl, (h.cell 36).trans ?_⟩
 have := d.2
 simp [mfa, mfl, this]
end
theorem Bl3 {w : World} {g : Nat} {T : TypeId} {p : Pt5} (h : Blk w g T (pta p)) : w.cell? ⟨g, 0, none⟩ = some (.int .i64 p.1) ∧ w.cell? ⟨g, 1, none⟩ = some (.int .i64 p.2.1) ∧ w.cell? ⟨g, 2, none⟩ = some (.int .i64 p.2.2.1) :=
 ⟨(h.cell 0).trans rfl, (h.cell 1).trans rfl, (h.cell 2).trans rfl⟩
section
variable {P : Program}
theorem run_storeVar_at (w : World) (g off : Nat) (t ty : TypeId) (old cells : Array Value) (hg : w.heap[g]? = some (.cells old t (0, 0))) (hi : (P.info? ty).map (·.size) = some cells.size) (hfit : off + cells.size ≤ old.size) (h1 : cells.all (·.oneCell') = true) :
 (storeVar ty ⟨g, off, none⟩ (.agg cells)).run P w = .ok () (w.setRow g (splice old.toList off cells.toList).toArray) := by
 have := run_storeCells_at P g off t cells.toList 0 old w hg (by simp; omega) (fun v hv => (Array.all_eq_true_iff_forall_mem.1 h1) v (by simpa using hv))
 cases hq : P.info? ty with
 | none => simp [hq] at hi
 | some i =>
  have hs : cells.size = i.size := by simp [hq] at hi; omega
  simp only [Nat.add_zero] at this
  simp [storeVar, sizeOf, typeInfo, hq, Value.cells, hs, this, splice]
end
theorem dga_all (d : Dg) : (dga d).all (·.oneCell') = true := by
 rw [Array.all_eq_true_iff_forall_mem]
 intro u hu
 exact one_bvs _ u (by simpa [dga] using hu)
set_option maxRecDepth 100000 in
theorem step_copyD0 {ops : Array Oper} {o : Oper} {a : Act} {w : World} {K : Act → World → Prop} {Q : Exit → Act → World → Prop} {E : Prop} (hgd : o.guard = none) (d s : Operand)
 (ho : o.op = .call { callee := .builtin .copy, args := #[d, s], argTypes := #[52, 52] }) (gc : Nat) (hB : Blk w gc 35 (dga dg0)) (hd : a.eval d = .slice (some ⟨gc, 0, none⟩) 32 32)
 (A : Option Addr) (c : Nat) (m : List UInt8) (hs : a.eval s = .slice A m.length c) (hS : SlB w A c m) (hm : m.length = 0 ∨ m.length = 32)
 (h : ∀ w' v, Blk w' gc 35 (dga (if h : m.length = 32 then ⟨m, h⟩ else dg0)) → Below gc w w' → K (a.put o.dst v) w') :
 if Region.wanted o (yielded ops a.tmps) = true then Oper.wp Tryz.prog o a w K Q else E := by
 have hu8 : (Tryz.prog.info? 5).map (·.size) = some 1 := by kernel_rfl
 have h0l : (bvs dg0.1).length = 32 := by have := dg0.2; simp [this]
 cases A with
 | none =>
  have h0 := hS.2.2.2.1 rfl
  have h1 := hS.2.1
  have hl : m.length = 0 := by omega
  have hw : Region.wanted o (yielded ops a.tmps) = true := by simp [Region.wanted, hgd]
  rw [if_pos hw]
  rw [hl] at hs
  have hrun := run_copy_none (P := Tryz.prog) w 52 52 o.type 5 1 (some ⟨gc, 0, none⟩) 32 32 c Tryz.underlying52 hu8
  unfold Oper.wp
  simp [execOp, ho, resolve, invoke, builtin, hd, hs, hrun, Result.andThen]
  refine h _ _ ?_ (Below.refl _ _)
  rw [dif_neg (by omega)]
  exact hB
 | some ad =>
  have hsrc : ∀ j v, (bvs m)[j]? = some v → w.cell? (ad.add j) = some v := fun j v hj => by
   obtain ⟨ad', hA, hc⟩ := hS.2.2.2.2 j v hj
   injection hA with hA
   subst hA
   exact hc
  rcases hm with hm | hm
  · have hn : m = [] := List.eq_nil_of_length_eq_zero hm
    refine step_copyK (E := E) hgd d s 52 52 ho 5 1 Tryz.underlying52 hu8 gc 0 32 32 ad m.length c hd hs (bvs dg0.1) 35 hB [] 0 (by simp [hm]) rfl (by simp) (by simp) (by simp) gc w (Below.refl _ _) (Nat.le_refl _) ?_
    intro w' hw' hb'
    refine h _ _ ?_ hb'
    rw [dif_neg (by omega)]
    have := hw'.out
    rw [splice_nil] at this
    exact this
  · refine step_copyK (E := E) hgd d s 52 52 ho 5 1 Tryz.underlying52 hu8 gc 0 32 32 ad m.length c hd hs (bvs dg0.1) 35 hB (bvs m) 32 (by simp [hm]) (by simp [hm]) hsrc (by rw [h0l]; simp [hm]) (one_bvs m) gc w (Below.refl _ _) (Nat.le_refl _) ?_
    intro w' hw' hb'
    refine h _ _ ?_ hb'
    rw [dif_pos hm]
    have := hw'.out
    rw [show splice (bvs dg0.1) 0 (bvs m) = bvs m from by unfold splice; rw [List.take_zero, List.drop_eq_nil_of_le (by rw [h0l]; simp [hm])]; simp] at this
    exact this
theorem res_dg {fn : Func} {a : Nat} {tmps : Array Value} {w : World} {g : Nat} {d : Dg} (hres : fn.results = #[.cell a 35]) (ha : tmps.getD a undef = .pointer (some ⟨g, 0, none⟩)) (hB : Blk w g 35 (dga d)) : (results fn tmps).run Tryz.prog w = .ok (.agg (dga d)) w := by
 have h := run_loadVar_at (P := Tryz.prog) w ⟨g, 0, none⟩ 35 (dga d) hB.cells _ Tryz.underlying35 rfl (by rw [dga_size]; kernel_rfl)
 have ha' : tmps[a]?.getD undef = .pointer (some ⟨g, 0, none⟩) := by simpa using ha
 simp [results, hres, asAddr, h, ha']
theorem IsR.row2 {w : World} {g B gc : Nat} {s : List UInt8 × Nat} (h : IsR w g B s) (h1 : g < gc) (h2 : B ≤ gc) (cs : Array Value) : IsR (w.setRow gc cs) g B s := IsR.row h h1 h2 cs
set_option maxRecDepth 100000 in
set_option maxHeartbeats 1000000 in
theorem MDig_any {w : World} {g B : Nat} {s : List UInt8 × Nat} (hR : IsR w g B s) (hB : B ≤ w.heap.size) (hl : s.1.length ≤ 1000000000) : Calls Tryz.prog 69 #[.pointer (some ⟨g, 0, none⟩)] w fun e w' => e = .returned (.agg (dga (rDg s).1)) ∧ IsR w' g B (rDg s).2 ∧ Wr w w' g := by
 have hg := hR.lt
 have hst0 : Wr w ((w.alloc (.cells (dga dg0) 35)).alloc (.cells (dga dg0) 35)) g ∧ Blk ((w.alloc (.cells (dga dg0) 35)).alloc (.cells (dga dg0) 35)) w.heap.size 35 (dga dg0) := ⟨((Wr.refl _ _).alloc _).alloc _, (Blk.new w _ _).alloc _⟩
 have hL0 : Blk ((w.alloc (.cells (dga dg0) 35)).alloc (.cells (dga dg0) 35)) (w.heap.size + 1) 35 (dga dg0) := Blk.newAt (by simp) _ _
 have hR0 := (hR.alloc (.cells (dga dg0) 35)).alloc (.cells (dga dg0) 35)
 have hds := Lib.hid (dga_size (rDg s).1)
 have hd0 := Lib.hid (dga_size dg0)
 have hda := Lib.hid (dga_all (rDg s).1)
 go_enter Tryz.func69, Tryz.ntmps69
 go_upto_region 2 with (fail)
 refine gen1 (T := fun W => ((Wr w W g ∧ Blk W w.heap.size 35 (dga dg0)) ∧ Blk W (w.heap.size + 1) 35 (dga dg0)) ∧ IsR W g B s) ⟨⟨hst0, hL0⟩, hR0⟩ (fun w0 hT => ?_)
 clear hst0 hL0 hR0
 obtain ⟨⟨hst, hL⟩, hR0⟩ := hT
 have hstd : Wr w w0.drew g ∧ Blk w0.drew w.heap.size 35 (dga dg0) := ⟨hst.1.drew, hst.2.drew⟩
 have hLd := hL.drew
 have hRd := hR0.drew
 have hlt := hL.lt
 clear hst hL hR0
 refine wp_region_held_drew (S := (fun W => Wr w W g ∧ Blk W w.heap.size 35 (dga dg0))) (by kernel_rfl) ?_ (fun hHeld => ?_)
 · exact hstd
 refine gen0 (T := fun W => ((fun W => Wr w W g ∧ Blk W w.heap.size 35 (dga dg0))) W ∧ IsR W g B s ∧ Blk W (w.heap.size + 1) 35 (dga dg0) ∧ True) ?_ (fun wq1 hT => ?_)
 · exact ⟨by (with_reducible exact hstd), by (with_reducible assumption), by (with_reducible assumption), trivial⟩
 (try clear f0 f1 f2 f3 f4 f5 f6 f7 f8 f9 f10 f11)
 obtain ⟨hHeld, f0, f1, -⟩ := hT
 refine wTk (i := 0) (oi := ⟨some 4, _, _, _, _, _⟩) (v := ?_) rfl ⟨by kernel_rfl, ?_⟩ (by assumption) ?_
 rotate_left
 · (intro wS hSw; (try dsimp only at hSw); clear hSw; go_simp; (try with_reducible rfl))
 (try simp only [Act.put, pS0, pS1, pS2])
 refine wTk (i := 1) (oi := ⟨some 5, _, _, _, _, _⟩) (v := ?_) rfl ⟨by kernel_rfl, ?_⟩ (by assumption) ?_
 rotate_left
 · (intro wS hSw; (try dsimp only at hSw); clear hSw; go_simp; (try with_reducible rfl))
 (try simp only [Act.put, pS0, pS1, pS2])
 refine wR1 (i := 2) (o := ⟨some 6, _, _, _, _, _⟩) rfl (fun K hK => ?_)
 go_simp
 (refine (Fixed_s 32 hl f0).mono ?_; rintro e w9 ⟨A9, c9, m9, rfl, hm9, ho9, hR9, hr9⟩)
 go_wp2_with fail
 refine hK.out _ _ ?_ (fun _ => ?_)
 · ((try dsimp only); (with_reducible exact ⟨hHeld.1.trans hr9, hHeld.2.wr hr9 (by omega)⟩))
 clear hK K
 (try simp only [Act.put, pS0, pS1, pS2])
 refine gen0 (T := fun W => ((fun W => Wr w W g ∧ Blk W w.heap.size 35 (dga dg0))) W ∧ IsR W g B (rFixed 32 s).2 ∧ Blk W (w.heap.size + 1) 35 (dga dg0) ∧ SlB W A9 c9 m9 ∧ True) ?_ (fun wq2 hT => ?_)
 · exact ⟨by (with_reducible exact ⟨hHeld.1.trans hr9, hHeld.2.wr hr9 (by omega)⟩), by (with_reducible assumption), by (with_reducible exact Blk.wr (by with_reducible assumption) hr9 (by omega)), by (exact ho9.sl), trivial⟩
 (try clear f0 f1 f2 f3 f4 f5 f6 f7 f8 f9 f10 f11)
 obtain ⟨hHeld, f0, f1, f2, -⟩ := hT
 refine wR1 (i := 3) (o := ⟨some 7, _, _, _, _, _⟩) rfl (fun K hK => ?_)
 ((refine step_copyD0 rfl (.tmp 4) (.tmp 6) rfl (w.heap.size + 1) (by with_reducible assumption) rfl A9 c9 m9 rfl (by with_reducible assumption) (by rw [hm9.out]; exact rFixed32 s) ?_; intro w10 v10 hB10 hb10))
 refine hK.out _ _ ?_ (fun _ => ?_)
 · ((try dsimp only); (exact ⟨⟨hb10.os.trans hHeld.1.os, hb10.tape.trans hHeld.1.tape, hb10.output.trans hHeld.1.output, Nat.le_trans hHeld.1.size hb10.size, fun i hi hn => (hb10.block i (by omega)).trans (hHeld.1.block i hi hn)⟩, (hb10.block _ (by omega)).trans hHeld.2⟩))
 clear hK K
 (try simp only [Act.put, pS0, pS1, pS2])
 refine gen0 (T := fun W => ((fun W => Wr w W g ∧ Blk W w.heap.size 35 (dga dg0))) W ∧ IsR W g B (rFixed 32 s).2 ∧ Blk W (w.heap.size + 1) 35 (dga (rDg s).1) ∧ True) ?_ (fun wq3 hT => ?_)
 · exact ⟨by (exact ⟨⟨hb10.os.trans hHeld.1.os, hb10.tape.trans hHeld.1.tape, hb10.output.trans hHeld.1.output, Nat.le_trans hHeld.1.size hb10.size, fun i hi hn => (hb10.block i (by omega)).trans (hHeld.1.block i hi hn)⟩, (hb10.block _ (by omega)).trans hHeld.2⟩), by (exact IsR.apart (by with_reducible assumption) (C := w.heap.size + 1) (by omega) (by omega) hb10), by (exact (by rw [← rDg_eq hm9.out]; exact hB10)), trivial⟩
 (try clear f0 f1 f2 f3 f4 f5 f6 f7 f8 f9 f10 f11)
 obtain ⟨hHeld, f0, f1, -⟩ := hT
 refine wpAnyH_done (by kernel_rfl) ?_ _
 have hq := f1.cells
 go_wp2_with (first | (refine wpl_loadG rfl 35 _ rfl ⟨w.heap.size + 1, 0, none⟩ (dga (rDg s).1) rfl hq _ Tryz.underlying35 rfl (by rw [hds.out]; kernel_rfl) ?_) | (refine wpList_store_row rfl 35 _ _ rfl w.heap.size (dga (rDg s).1) rfl rfl 35 _ hHeld.2 (by rw [hds.out]; kernel_rfl) (by rw [hds.out, hd0.out]) hda.out ?_))
 exact bodyPost_ret (res_dg rfl rfl (g := w.heap.size) hHeld.2.row) rfl ⟨rfl, IsR.row2 f0 (by omega) hB _, ⟨hHeld.1.os, hHeld.1.tape, hHeld.1.output, by simpa using hHeld.1.size, fun i hi hn => (setRow_other _ _ i _ (by omega)).trans (hHeld.1.block i hi hn)⟩⟩
theorem built_ptM (f x y : Int) : ∀ d : Dg, Tryz.prog.built 37 [(0, .int .i64 f), (1, .int .i64 x), (2, .int .i64 y), (3, .agg (dga d))] = some (pta (f, x, y, d)) := by
 refine dg_cases ?_
 intros
 kernel_rfl
theorem wpl_buildPM {w : World} {ops : Array Oper} {rest : List Oper} {o : Oper} {a : Act} {Q : Exit → Act → World → Prop} (hgd : o.guard = none) (x0 x1 x2 x3 : Operand) (ho : o.op = .build 37 #[(0, x0), (1, x1), (2, x2), (3, x3)])
 {f x y : Int} {d : Dg} (h0 : a.eval x0 = .int .i64 f) (h1 : a.eval x1 = .int .i64 x) (h2 : a.eval x2 = .int .i64 y) (h3 : a.eval x3 = .agg (dga d))
 (h : wpList Tryz.prog ops Q rest (a.put o.dst (.agg (pta (f, x, y, d)))) w) : wpList Tryz.prog ops Q (o :: rest) a w := by
 have hl : ((#[(0, x0), (1, x1), (2, x2), (3, x3)] : Array (Nat × Operand)).map fun (i, x) => (i, a.eval x)).toList = [(0, .int .i64 f), (1, .int .i64 x), (2, .int .i64 y), (3, .agg (dga d))] := by
  simp [h0, h1, h2, h3]
 refine wpList_build hgd 37 _ ho ?_ ?_
 · rw [hl, built_ptM]; rfl
 · rw [hl, built_ptM]; exact h
theorem MDig_eq {w : World} {g B : Nat} {s s' : List UInt8 × Nat} {d : Dg} (he : rDg s = (d, s')) (hR : IsR w g B s) (hB : B ≤ w.heap.size) (hl : s.1.length ≤ 1000000000) : Calls Tryz.prog 69 #[.pointer (some ⟨g, 0, none⟩)] w fun e w' => e = .returned (.agg (dga d)) ∧ IsR w' g B s' ∧ Wr w w' g := by
 have h := MDig_any hR hB hl
 rw [he] at h
 exact h
theorem Within_eq {g B n most : Nat} {s s' : List UInt8 × Nat} {w : World} (he : rWithin most s = (n, s')) (hR : IsR w g B s) :
 Calls Tryz.prog 68 #[.pointer (some ⟨g, 0, none⟩), .int .u64 most] w fun e w' => e = .returned (.int .i64 (n : Nat)) ∧ IsR w' g B s' ∧ Wr w w' g := by
 have h := Within_any most hR
 rw [he] at h
 exact h
set_option maxRecDepth 100000 in
set_option maxHeartbeats 1000000 in
theorem MPart_any {w : World} {g B : Nat} {s : List UInt8 × Nat} (f : Int) (hR : IsR w g B s) (hB : B ≤ w.heap.size) (hl : s.1.length ≤ 1000000000) : Calls Tryz.prog 72 #[.pointer (some ⟨g, 0, none⟩), .int .i64 f] w fun e w' => e = .returned (.agg (pta (rPart f s).1)) ∧ IsR w' g B (rPart f s).2 ∧ Wr w w' g := by
 have hg := hR.lt
 obtain ⟨y1, s6, h6⟩ : ∃ n s', rWithin 64 s = (n, s') := ⟨_, _, rfl⟩
 obtain ⟨y2, s7, h7⟩ : ∃ n s', rWithin 65536 s6 = (n, s') := ⟨_, _, rfl⟩
 obtain ⟨d, s8, h8⟩ : ∃ n s', rDg s7 = (n, s') := ⟨_, _, rfl⟩
 have hrp : rPart f s = ((f, (y1 : Int), (y2 : Int), d), s8) := by
  unfold rPart
  simp only [h6, h7, h8]
 have hl7 : s7.1.length ≤ 1000000000 := by
  have l1 := rWithin_len 64 s
  have l2 := rWithin_len 65536 s6
  rw [h6] at l1
  rw [h7] at l2
  dsimp only at l1 l2
  omega
 rw [hrp]
 have H6 := Lib.hid h6
 have H7 := Lib.hid h7
 have H8 := Lib.hid h8
 clear h6 h7 h8 hrp
 have hst0 : Wr w (w.alloc (.cells (pta (0, 0, 0, dg0)) 37)) g ∧ Blk (w.alloc (.cells (pta (0, 0, 0, dg0)) 37)) w.heap.size 37 (pta (0, 0, 0, dg0)) := ⟨(Wr.refl _ _).alloc _, Blk.new w _ _⟩
 have hR0 := hR.alloc (.cells (pta (0, 0, 0, dg0)) 37)
 have hz0 : (w.alloc (.cells (pta (0, 0, 0, dg0)) 37)).heap.size = w.heap.size + 1 := by simp
 go_enter Tryz.func72, Tryz.ntmps72
 go_upto_region 1 with (fail)
 refine gen1 (T := fun W => ((Wr w W g ∧ Blk W w.heap.size 37 (pta (0, 0, 0, dg0)))) ∧ IsR W g B s) ⟨hst0, hR0⟩ (fun w0 hT => ?_)
 clear hst0 hR0 hR
 obtain ⟨⟨hw, hP⟩, hR⟩ := hT
 go_wp2_with fail
 refine (Within_eq H6.out hR).mono ?_
 rintro e w1 ⟨rfl, hR1, hr1⟩
 replace hw := hw.trans hr1
 replace hP := hP.wr hr1 (by omega)
 clear hR hr1
 go_wp2_with fail
 refine (Within_eq H7.out hR1).mono ?_
 rintro e w2 ⟨rfl, hR2, hr2⟩
 replace hw := hw.trans hr2
 replace hP := hP.wr hr2 (by omega)
 clear hR1 hr2
 go_wp2_with fail
 refine (MDig_eq H8.out hR2 (Nat.le_trans hB hw.size) hl7).mono ?_
 rintro e w3 ⟨rfl, hR3, hr3⟩
 replace hw := hw.trans hr3
 replace hP := hP.wr hr3 (by omega)
 clear hR2 hr3
 have hps := Lib.hid (pta_size (f, (y1 : Int), (y2 : Int), d))
 have hp0 := Lib.hid (pta_size (0, 0, 0, dg0))
 have hpa := Lib.hid (pta_all (f, (y1 : Int), (y2 : Int), d))
 go_wp2_with (first | (refine wpl_buildPM rfl _ _ _ _ rfl (f := f) (x := y1) (y := y2) (d := d) rfl rfl rfl rfl ?_) | (refine wpList_store_row rfl 37 _ _ rfl w.heap.size (pta (f, (y1 : Int), (y2 : Int), d)) rfl rfl 37 _ hP (by rw [hps.out]; kernel_rfl) (by rw [hps.out, hp0.out]) hpa.out ?_))
 exact bodyPost_ret (res_pt rfl rfl (g := w.heap.size) hP.row) rfl ⟨rfl, IsR.row2 hR3 (by omega) hB _, ⟨hw.os, hw.tape, hw.output, by simpa using hw.size, fun i hi hn => (setRow_other _ _ i _ (by omega)).trans (hw.block i hi hn)⟩⟩
end
end Go.Proofs.YtajfnmohlnkncaaGreatDoor
