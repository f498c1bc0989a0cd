/- WHAT IT HOLDS: copy of elements of several cells, plainly. | WHAT IT HOLDS: the cursor's taker, walked: an address. A part's steps. | WHAT IT HOLDS: the cursor that bytes are, plainly (no program). | WHAT IT HOLDS: a call's own blocks, carried together through a walk. | WHAT IT HOLDS: cursor.Take, walked, for all bytes. | WHAT IT HOLDS: two parts, two slices of parts, two cursors, compared. | WHAT IT HOLDS: the document's parts, walked: compared, appended, made of the program's. | WHAT IT HOLDS: a manifest as the document's, walked. | WHAT IT HOLDS: which manifests there are, by the document, walked. | WHAT IT HOLDS: digests and parts out of a reader, as package manifest takes them, walked; a store into the midst of a block. | WHAT IT HOLDS: the manifest that bytes are, plainly; manifest.Take, walked, for all bytes. -/
import Derived.Test.YtajfnmohlnkncaaGreatDoorVaultAgreesG01
import Derived.Test.YtajfnmohlnkncaaGreatDoorVaultAgreesG08
import Derived.Laws.CopyOwn
import Derived.Test.YtajfnmohlnkncaaGreatDoorVaultAgreesG04
namespace Go.Proofs.YtajfnmohlnkncaaGreatDoor
section
open Go.RowKit
theorem run_copy_rowK {P : Program} (w : World) (dT sT ty elem : TypeId) (k : Nat) (g o dLen dCap : Nat) (a : Addr) (sLen sCap : Nat) (cur : Array Value) (t : TypeId) (cs : List Value)
 (hu : P.underlying dT = some (.slice elem)) (hs : (P.info? elem).map (·.size) = some k)
 (hg : w.heap[g]? = some (.cells cur t (0, 0))) (hn : cs.length = Nat.min sLen dLen * k)
 (hsrc : ∀ j v, cs[j]? = some v → w.cell? (a.add j) = some v) (hfit : o + cs.length ≤ cur.size) (h1 : ∀ v ∈ cs, v.oneCell' = true) :
 (Builtin.copy_ #[dT, sT] ty #[.slice (some ⟨g, o, none⟩) dLen dCap, .slice (some a) sLen sCap]).run P w =
  .ok (goInt (Nat.min sLen dLen)) (w.setRow g (cur.toList.take o ++ cs ++ cur.toList.drop (o + cs.length)).toArray) := by
 have hl := run_loadCells_list (P := P) w a cs hsrc
 have hst := run_storeCells_at P g o t cs 0 cur w hg (by simpa using hfit) h1
 cases hq : P.info? elem with
 | none => simp [hq] at hs
 | some i =>
  have hi : i.size = k := by simpa [hq] using hs
  simp [Builtin.copy_, run_underlying hu, Builtin.lenOf, Builtin.firstCells, sizeOf, typeInfo, hq, hi, ← hn, hl, hst]
theorem wpl_copyK {P : Program} {w : World} {ops : Array Oper} {rest : List Oper} {o : Oper} {a : Act} {Q : Exit → Act → World → Prop} (hgd : o.guard = none) (d s : Operand) (dT sT : TypeId)
 (ho : o.op = .call { callee := .builtin .copy, args := #[d, s], argTypes := #[dT, sT] }) (elem : TypeId) (k : Nat) (hu : P.underlying dT = some (.slice elem)) (hsz : (P.info? elem).map (·.size) = some k)
 (g off dLen dCap : Nat) (ad : Addr) (sLen sCap : Nat) (hd : a.eval d = .slice (some ⟨g, off, none⟩) dLen dCap) (hs : a.eval s = .slice (some ad) sLen sCap)
 (cur : List Value) (t : TypeId) (hg : w.heap[g]? = some (.cells cur.toArray t (0, 0))) (cs : List Value) (hn : cs.length = Nat.min sLen dLen * k)
 (hsrc : ∀ j v, cs[j]? = some v → w.cell? (ad.add j) = some v) (hfit : off + cs.length ≤ cur.length) (h1 : ∀ v ∈ cs, v.oneCell' = true) (B : Nat) (w0 : World) (hb : Below B w0 w) (hBg : B ≤ g)
 (h : ∀ w', Hid (w'.heap[g]? = some (.cells (splice cur off cs).toArray t (0, 0))) → Below B w0 w' → wpList P ops Q rest (a.put o.dst (goInt (Nat.min sLen dLen))) w') : wpList P ops Q (o :: rest) a w := by
 refine wpList_plain hgd fun K hK => ?_
 have hrun := run_copy_rowK (P := P) w dT sT o.type elem k g off dLen dCap ad sLen sCap cur.toArray t cs hu hsz hg hn hsrc (by simpa using hfit) h1
 unfold Oper.wp
 simp [execOp, ho, resolve, invoke, builtin, hd, hs, hrun, Result.andThen]
 exact hK _ _ (h _ (show _ = _ by simpa [splice] using setRow_heap w g _ _ t _ hg) (below_setRow hb hBg _))
theorem step_copyK {P : Program} {ops : Array Oper} {o : Oper} {a : Act} {w : World} {K : Act → World → Prop} {Q : Exit → Act → World → Prop} {E : Prop} (hgd : o.guard = none) (d s : Operand) (dT sT : TypeId)
 (ho : o.op = .call { callee := .builtin .copy, args := #[d, s], argTypes := #[dT, sT] }) (elem : TypeId) (k : Nat) (hu : P.underlying dT = some (.slice elem)) (hsz : (P.info? elem).map (·.size) = some k)
 (g off dLen dCap : Nat) (ad : Addr) (sLen sCap : Nat) (hd : a.eval d = .slice (some ⟨g, off, none⟩) dLen dCap) (hs : a.eval s = .slice (some ad) sLen sCap)
 (cur : List Value) (t : TypeId) (hg : w.heap[g]? = some (.cells cur.toArray t (0, 0))) (cs : List Value) (q : Nat) (hq : Nat.min sLen dLen = q) (hn : cs.length = q * k)
 (hsrc : ∀ j v, cs[j]? = some v → w.cell? (ad.add j) = some v) (hfit : off + cs.length ≤ cur.length) (h1 : ∀ v ∈ cs, v.oneCell' = true) (B : Nat) (w0 : World) (hb : Below B w0 w) (hBg : B ≤ g)
 (h : ∀ w', Hid (w'.heap[g]? = some (.cells (splice cur off cs).toArray t (0, 0))) → Below B w0 w' → K (a.put o.dst (goInt q)) w') :
 if Region.wanted o (yielded ops a.tmps) = true then Oper.wp P o a w K Q else E := by
 subst hq
 have hw : Region.wanted o (yielded ops a.tmps) = true := by simp [Region.wanted, hgd]
 rw [if_pos hw]
 have hrun := run_copy_rowK (P := P) w dT sT o.type elem k g off dLen dCap ad sLen sCap cur.toArray t cs hu hsz hg hn hsrc (by simpa using hfit) h1
 unfold Oper.wp
 simp [execOp, ho, resolve, invoke, builtin, hd, hs, hrun, Result.andThen]
 exact h _ (show _ = _ by simpa [splice] using setRow_heap w g _ _ t _ hg) (below_setRow hb hBg _)
end
section
open Go.RowKit
attribute [local go_sem ↓] Go.wp_at_zero Go.wp_at_succ
theorem step_storeP {ops : Array Oper} {o : Oper} {a : Act} {w : World} {K : Act → World → Prop} {Q : Exit → Act → World → Prop} {X : Prop} (hgd : Region.wanted o (yielded ops a.tmps) = true) (x y : Operand) (ho : o.op = .store 37 x y)
 (g : Nat) (old p : Pt5) (hx : a.eval x = .pointer (some ⟨g, 0, none⟩)) (hy : a.eval y = .agg (pta p)) (hB : Blk w g 37 (pta old))
 (h : K (a.put o.dst undef) (w.setRow g (pta p))) : if Region.wanted o (yielded ops a.tmps) = true then Oper.wp Tryz.prog o a w K Q else X := by
 rw [if_pos hgd]
 exact wp_store_row 37 x y ho g (pta p) hx hy 37 (pta old) hB (by rw [pta_size]; kernel_rfl) (by rw [pta_size, pta_size]) (pta_all p) h
theorem Blk.row {w : World} {g : Nat} {t : TypeId} {old cs : Array Value} (h : Blk w g t old) : Blk (w.setRow g cs) g t cs := setRow_heap w g old cs t (0, 0) h
theorem Blk.rowFar {w : World} {g k : Nat} {t : TypeId} {cs : Array Value} (h : Blk w k t cs) (hk : k ≠ g) (c2 : Array Value) : Blk (w.setRow g c2) k t cs := (setRow_other w g k c2 hk).trans h
theorem IsR.row {w : World} {g B gc : Nat} {s : List UInt8 × Nat} (h : IsR w g B s) (h1 : g < gc) (h2 : B ≤ gc) (cs : Array Value) : IsR (w.setRow gc cs) g B s := h.apart (C := gc) h1 h2 (below_setRow (Below.refl _ _) (Nat.le_refl gc) cs)
section
variable {w W W' : World} {g gc B : Nat} {p : Pt5}
end
theorem run_copy_none {P : Program} (w : World) (dT sT ty elem : TypeId) (k : Nat) (d : Option Addr) (dLen dCap sCap : Nat) (hu : P.underlying dT = some (.slice elem)) (hs : (P.info? elem).map (·.size) = some k) :
 (Builtin.copy_ #[dT, sT] ty #[.slice d dLen dCap, .slice none 0 sCap]).run P w = .ok (goInt 0) w := by
 cases hq : P.info? elem with
 | none => simp [hq] at hs
 | some i => cases d <;> simp [Builtin.copy_, run_underlying hu, Builtin.lenOf, Builtin.firstCells, sizeOf, typeInfo, hq, loadCells, storeCells]
theorem splice_nil (l : List Value) (k : Nat) : splice l k [] = l := by simp [splice]
def rDg (s : List UInt8 × Nat) : Dg × (List UInt8 × Nat) := (if h : (rFixed 32 s).1.length = 32 then ⟨(rFixed 32 s).1, h⟩ else dg0, (rFixed 32 s).2)
def rPart (f : Int) (s : List UInt8 × Nat) : Pt5 × (List UInt8 × Nat) := ((f, ((rWithin 64 s).1 : Nat), ((rWithin 65536 (rWithin 64 s).2).1 : Nat), (rDg (rWithin 65536 (rWithin 64 s).2).2).1), (rDg (rWithin 65536 (rWithin 64 s).2).2).2)
theorem rDg_eq {m : List UInt8} {s : List UInt8 × Nat} (h : m = (rFixed 32 s).1) : (if h : m.length = 32 then (⟨m, h⟩ : Dg) else dg0) = (rDg s).1 := by subst h; rfl
theorem rFixed32 (s : List UInt8 × Nat) : (rFixed 32 s).1.length = 0 ∨ (rFixed 32 s).1.length = 32 := by
 unfold rFixed
 split
 · exact .inl rfl
 · split
   · exact .inl rfl
   · right
     simp only [List.length_take]
     omega
theorem Fixed_s {g B : Nat} {s : List UInt8 × Nat} {w : World} (many : Int) (hl : s.1.length ≤ 1000000000) (hR : IsR w g B s) : Calls Tryz.prog 102 #[.pointer (some ⟨g, 0, none⟩), .int .i64 many] w (GivesR w g B (rFixed many s)) := by obtain ⟨l, b⟩ := s; exact Fixed_any many hl hR
theorem res_pt {fn : Func} {a : Nat} {tmps : Array Value} {w : World} {g : Nat} {p : Pt5} (hres : fn.results = #[.cell a 37]) (ha : tmps.getD a undef = .pointer (some ⟨g, 0, none⟩)) (hB : Blk w g 37 (pta p)) : (results fn tmps).run Tryz.prog w = .ok (.agg (pta p)) w := by
 have h := run_loadVar_at (P := Tryz.prog) w ⟨g, 0, none⟩ 37 (pta p) hB.cells _ Tryz.underlying37 rfl (by rw [pta_size]; kernel_rfl)
 have ha' : tmps[a]?.getD undef = .pointer (some ⟨g, 0, none⟩) := by simpa using ha
 simp [results, hres, asAddr, h, ha']
end
section
open Go.RowKit
def crLoop : Nat → Int → List UInt8 × Nat → List Pt5 × (List UInt8 × Nat)
 | 0, _, s => ([], s)
 | n + 1, a, s => ((rPart a s).1 :: (crLoop n (a + (rPart a s).1.2.1) (rPart a s).2).1, (crLoop n (a + (rPart a s).1.2.1) (rPart a s).2).2)
theorem crLoop_succ : ∀ (k : Nat) (a : Int) (s : List UInt8 × Nat), crLoop (k + 1) a s = ((crLoop k a s).1 ++ [(rPart (pend a (crLoop k a s).1) (crLoop k a s).2).1], (rPart (pend a (crLoop k a s).1) (crLoop k a s).2).2)
 | 0, a, s => by simp [crLoop, pend]
 | k + 1, a, s => by
  have ih := crLoop_succ k (a + (rPart a s).1.2.1) (rPart a s).2
  have h1 : crLoop (k + 1 + 1) a s = ((rPart a s).1 :: (crLoop (k + 1) (a + (rPart a s).1.2.1) (rPart a s).2).1, (crLoop (k + 1) (a + (rPart a s).1.2.1) (rPart a s).2).2) := rfl
  have h2 : crLoop (k + 1) a s = ((rPart a s).1 :: (crLoop k (a + (rPart a s).1.2.1) (rPart a s).2).1, (crLoop k (a + (rPart a s).1.2.1) (rPart a s).2).2) := rfl
  rw [h1, ih, h2]
  rfl
theorem crLoop_len : ∀ (k : Nat) (a : Int) (s : List UInt8 × Nat), (crLoop k a s).1.length = k
 | 0, _, _ => rfl
 | k + 1, a, s => by
  have ih := crLoop_len k (a + (rPart a s).1.2.1) (rPart a s).2
  show ((rPart a s).1 :: (crLoop k (a + (rPart a s).1.2.1) (rPart a s).2).1).length = k + 1
  rw [List.length_cons, ih]
theorem rPart_len (a : Int) (s : List UInt8 × Nat) : (rPart a s).2.1.length ≤ s.1.length := by
 have h1 := rWithin_len 64 s
 have h2 := rWithin_len 65536 (rWithin 64 s).2
 have h3 := rFixed_len 32 (rWithin 65536 (rWithin 64 s).2).2
 exact Nat.le_trans h3 (Nat.le_trans h2 h1)
theorem crLoop_left : ∀ (k : Nat) (a : Int) (s : List UInt8 × Nat), (crLoop k a s).2.1.length ≤ s.1.length
 | 0, _, _ => Nat.le_refl _
 | k + 1, a, s => Nat.le_trans (crLoop_left k (a + (rPart a s).1.2.1) (rPart a s).2) (rPart_len a s)
theorem gen1 {T R : World → Prop} {W : World} (hT : T W) (k : ∀ W, T W → R W) : R W := k W hT
abbrev BL := List (Nat × TypeId × Array Value)
structure Mm (w W : World) (L : BL) (G : List (Option Nat)) : Prop where
 bel : Below w.heap.size w W
 blk : ∀ x ∈ L, Blk W x.1 x.2.1 x.2.2
 low : ∀ x ∈ L, w.heap.size ≤ x.1
 dis : L.Pairwise fun x y => x.1 ≠ y.1
 far : ∀ g, some g ∈ G → g < W.heap.size ∧ ∀ x ∈ L, x.1 ≠ g
section
variable {w W W' : World} {L : BL} {G : List (Option Nat)} {g : Nat} {t : TypeId} {cs : Array Value}
theorem Mm.start (w : World) : Mm w w [] [] := ⟨Below.refl _ _, by simp, by simp, List.Pairwise.nil, by simp⟩
theorem Mm.allocO (h : Mm w W L G) (o : Obj) : Mm w (W.alloc o) L G :=
 ⟨bel_alloc h.bel o, fun x hx => (h.blk x hx).alloc o, h.low, h.dis, fun g hg => ⟨by have := (h.far g hg).1; simp; omega, (h.far g hg).2⟩⟩
theorem Mm.alloc (h : Mm w W L G) (cs : Array Value) (t : TypeId) : Mm w (W.alloc (.cells cs t)) ((W.heap.size, t, cs) :: L) G := by
 refine ⟨bel_alloc h.bel _, fun x hx => ?_, fun x hx => ?_, List.pairwise_cons.2 ⟨fun x hx => ?_, h.dis⟩, fun g hg => ⟨by have := (h.far g hg).1; simp; omega, fun x hx => ?_⟩⟩
 · rcases List.mem_cons.1 hx with rfl | hx
   · exact Blk.new W t cs
   · exact (h.blk x hx).alloc _
 · rcases List.mem_cons.1 hx with rfl | hx
   · exact h.bel.size
   · exact h.low x hx
 · have := (h.blk x hx).lt
   dsimp only
   omega
 · rcases List.mem_cons.1 hx with rfl | hx
   · have := (h.far g hg).1
     dsimp only
     omega
   · exact (h.far g hg).2 x hx
theorem Mm.call (h : Mm w W L G) (hb : Below W.heap.size W W') : Mm w W' L G :=
 ⟨bel_call h.bel hb, fun x hx => (h.blk x hx).below hb, h.low, h.dis, fun g hg => ⟨Nat.lt_of_lt_of_le (h.far g hg).1 hb.size, (h.far g hg).2⟩⟩
theorem Mm.drew (h : Mm w W L G) : Mm w W.drew L G := ⟨h.bel.drew, fun x hx => (h.blk x hx).drew, h.low, h.dis, h.far⟩
theorem Mm.drewN (h : Mm w W L G) (n : Nat) : Mm w (W.drewN n) L G := ⟨below_drewN h.bel n, fun x hx => (h.blk x hx).drewN n, h.low, h.dis, h.far⟩
theorem Mm.callAdd (h : Mm w W L G) (hb : Below W.heap.size W W') {a : Option Nat} (hA : ∀ k, a = some k → W.heap.size ≤ k ∧ k < W'.heap.size) : Mm w W' L (a :: G) := by
 have h' := h.call hb
 refine ⟨h'.bel, h'.blk, h'.low, h'.dis, fun g hg => ?_⟩
 rcases List.mem_cons.1 hg with e | hg
 · obtain ⟨h1, h2⟩ := hA g e.symm
   exact ⟨h2, fun x hx => by have := (h.blk x hx).lt; omega⟩
 · exact h'.far g hg
theorem Mm.add (h : Mm w W L G) {a : Option Nat} (hA : ∀ k, a = some k → k < W.heap.size ∧ ∀ x ∈ L, x.1 ≠ k) : Mm w W L (a :: G) := by
 refine ⟨h.bel, h.blk, h.low, h.dis, fun g hg => ?_⟩
 rcases List.mem_cons.1 hg with e | hg
 · exact hA g e.symm
 · exact h.far g hg
theorem Mm.sub (h : Mm w W L G) {L' : BL} (hL : L'.Sublist L) : Mm w W L' G :=
 ⟨h.bel, fun x hx => h.blk x (hL.subset hx), fun x hx => h.low x (hL.subset hx), h.dis.sublist hL, fun g hg => ⟨(h.far g hg).1, fun x hx => (h.far g hg).2 x (hL.subset hx)⟩⟩
theorem Mm.subG (h : Mm w W L G) {G' : List (Option Nat)} (hG : ∀ x ∈ G', x ∈ G) : Mm w W L G' := ⟨h.bel, h.blk, h.low, h.dis, fun g hg => h.far g (hG _ hg)⟩
theorem Mm.wr (h : Mm w W L G) (hr : Wr W W' g) (hg : some g ∈ G) (hlo : w.heap.size ≤ g) : Mm w W' L G :=
 ⟨h.bel.trans (hr.below h.bel.size hlo), fun x hx => (h.blk x hx).wr hr ((h.far g hg).2 x hx), h.low, h.dis, fun k hk => ⟨Nat.lt_of_lt_of_le (h.far k hk).1 hr.size, (h.far k hk).2⟩⟩
theorem Mm.cons (h : Mm w W L G) (hB : Blk W g t cs) (hlo : w.heap.size ≤ g) (hd : ∀ x ∈ L, g ≠ x.1) (hf : some g ∉ G) : Mm w W ((g, t, cs) :: L) G := by
 refine ⟨h.bel, fun x hx => ?_, fun x hx => ?_, List.pairwise_cons.2 ⟨hd, h.dis⟩, fun k hk => ⟨(h.far k hk).1, fun x hx => ?_⟩⟩
 · rcases List.mem_cons.1 hx with rfl | hx
   · exact hB
   · exact h.blk x hx
 · rcases List.mem_cons.1 hx with rfl | hx
   · exact hlo
   · exact h.low x hx
 · rcases List.mem_cons.1 hx with rfl | hx
   · rintro rfl; exact hf hk
   · exact (h.far k hk).2 x hx
theorem Mm.turn (h : Mm w W L G) (j : Nat) {cs' : Array Value} (hj : L[j]? = some (g, t, cs)) (hB : Blk W' g t cs') (hr : Wr W W' g) : Mm w W' (L.set j (g, t, cs')) G := by
 have hjl : j < L.length := (List.getElem?_eq_some_iff.1 hj).1
 have hje : L[j] = (g, t, cs) := (List.getElem?_eq_some_iff.1 hj).2
 have hmem : (g, t, cs) ∈ L := by rw [← hje]; exact List.getElem_mem hjl
 have hmap : (L.set j (g, t, cs')).map (·.1) = L.map (·.1) := by
  rw [List.map_set]
  apply List.ext_getElem?
  intro i
  rw [List.getElem?_set]
  split
  · rename_i e
    subst e
    simp [hjl, hje]
  · rfl
 have hin : ∀ x ∈ L.set j (g, t, cs'), ∃ y ∈ L, y.1 = x.1 := fun x hx => by
  have : x.1 ∈ (L.set j (g, t, cs')).map (·.1) := List.mem_map_of_mem hx
  rw [hmap] at this
  obtain ⟨y, hy, e⟩ := List.mem_map.1 this
  exact ⟨y, hy, e⟩
 refine ⟨h.bel.trans (hr.below h.bel.size (h.low _ hmem)), fun x hx => ?_, fun x hx => ?_, ?_, fun k hk => ⟨Nat.lt_of_lt_of_le (h.far k hk).1 hr.size, fun x hx => ?_⟩⟩
 · rw [List.mem_iff_getElem?] at hx
   obtain ⟨i, hi⟩ := hx
   rw [List.getElem?_set] at hi
   split at hi
   · rename_i e
     injection hi with hi
     subst hi
     exact hB
   · rename_i e
     have hm := List.mem_of_getElem? hi
     refine (h.blk x hm).wr hr ?_
     obtain ⟨hil, hie⟩ := List.getElem?_eq_some_iff.1 hi
     have hp := List.pairwise_iff_getElem.1 h.dis
     rcases Nat.lt_or_gt_of_ne e with hlt | hlt
     · have := hp j i hjl hil hlt
       rw [hje, hie] at this
       exact fun e => this e.symm
     · have := hp i j hil hjl hlt
       rw [hje, hie] at this
       exact this
 · obtain ⟨y, hy, e⟩ := hin x hx
   rw [← e]
   exact h.low y hy
 · have h1 := h.dis
   rw [show (fun x y : Nat × TypeId × Array Value => x.1 ≠ y.1) = (fun x y => (fun a b : Nat => a ≠ b) x.1 y.1) from rfl, ← List.pairwise_map] at h1 ⊢
   rw [hmap]
   exact h1
 · obtain ⟨y, hy, e⟩ := hin x hx
   rw [← e]
   exact (h.far k hk).2 y hy
theorem Mm.set (h : Mm w W L G) (j i : Nat) (v : Value) (hj : L[j]? = some (g, t, cs)) : Mm w (W.setCell ⟨g, i, none⟩ v) (L.set j (g, t, cs.setIfInBounds i v)) G :=
 h.turn j hj ((h.blk _ (List.mem_of_getElem? hj)).set_ i v) ((Wr.refl _ _).set_ i v)
theorem Wr.row (cs2 : Array Value) : Wr W (W.setRow g cs2) g := ⟨rfl, rfl, rfl, by simp, fun i _ hn => setRow_other W g i cs2 (fun e => hn (by rw [e]))⟩
theorem Mm.row (h : Mm w W L G) (j : Nat) {cs' : Array Value} (hj : L[j]? = some (g, t, cs)) (hB : Blk (W.setRow g cs') g t cs') : Mm w (W.setRow g cs') (L.set j (g, t, cs')) G := h.turn j hj hB (Wr.row cs')
theorem Mm.b0 {L : BL} (h : Mm w W ((g, t, cs) :: L) G) : Blk W g t cs := h.blk _ (.head _)
theorem Mm.b1 {a : Nat × TypeId × Array Value} {L : BL} (h : Mm w W (a :: (g, t, cs) :: L) G) : Blk W g t cs := h.blk _ (.tail _ (.head _))
theorem Mm.b2 {a b : Nat × TypeId × Array Value} {L : BL} (h : Mm w W (a :: b :: (g, t, cs) :: L) G) : Blk W g t cs := h.blk _ (.tail _ (.tail _ (.head _)))
theorem Mm.off (h : Mm w W L G) (hr : Wr W W' g) (hg : ∀ x ∈ L, x.1 ≠ g) (hlo : w.heap.size ≤ g) : Mm w W' L G :=
 ⟨h.bel.trans (hr.below h.bel.size hlo), fun x hx => (h.blk x hx).wr hr (hg x hx), h.low, h.dis, fun k hk => ⟨Nat.lt_of_lt_of_le (h.far k hk).1 hr.size, (h.far k hk).2⟩⟩
theorem Mm.base (h : Mm w W L G) {B : Nat} (hb : Below B W W') (hL : ∀ x ∈ L, x.1 < B) (hlo : w.heap.size ≤ B) {a : Option Nat} (hA : ∀ k, a = some k → B ≤ k ∧ k < W'.heap.size) {G' : List (Option Nat)} (hG : ∀ x ∈ G', x ∈ G) : Mm w W' L (a :: G') := by
 refine ⟨h.bel.trans (hb.mono hlo), fun x hx => (hb.block _ (hL x hx)).trans (h.blk x hx), h.low, h.dis, fun g hg => ?_⟩
 rcases List.mem_cons.1 hg with e | hg
 · obtain ⟨h1, h2⟩ := hA g e.symm
   exact ⟨h2, fun x hx => by have := hL x hx; omega⟩
 · exact ⟨Nat.lt_of_lt_of_le (h.far g (hG _ hg)).1 hb.size, (h.far g (hG _ hg)).2⟩
theorem Mm.above (h : Mm w W L []) {B : Nat} (hb : Below B W W') (hL : ∀ x ∈ L, x.1 < B) (hlo : w.heap.size ≤ B) : Mm w W' L [] :=
 (h.base hb hL hlo (a := none) (fun _ h => by cases h) (G' := []) (fun _ h => h)).subG (fun _ h => .tail _ h)
end
end
section
open Go.RowKit
attribute [local go_sem ↓] Go.wp_at_zero Go.wp_at_succ
theorem wpl_lit1 {w : World} {ops : Array Oper} {rest : List Oper} {o : Oper} {a : Act} {Q : Exit → Act → World → Prop} (hgd : Region.wanted o (yielded ops a.tmps) = true) (x : Operand) (ho : o.op = .buildSlice 44 1 #[(0, x)])
 (p : Pt5) (hx : a.eval x = .agg (pta p)) (h : wpList Tryz.prog ops Q rest (a.put o.dst (.slice (some ⟨w.heap.size, 0, none⟩) 1 1)) (w.alloc (.cells (pta p) 37))) : wpList Tryz.prog ops Q (o :: rest) a w :=
 wpList_step fun _ hK => step_lit1 hgd x ho p hx (hK _ _ h)
theorem IsR.set {w : World} {g B k i : Nat} {s : List UInt8 × Nat} (h : IsR w g B s) (hk : k ≠ g) (hB : B ≤ k) (v : Value) : IsR (w.setCell ⟨k, i, none⟩ v) g B s := by
 obtain ⟨A, c, h1, h2, h3⟩ := h
 refine ⟨A, c, h1.far (by dsimp only; omega) v, ⟨h2.1, h2.2.1, h2.2.2.1, h2.2.2.2.1, fun j u hj => ?_⟩, h3⟩
 obtain ⟨ad, hA, hc⟩ := h2.2.2.2.2 j u hj
 have hne : s.1 ≠ [] := by rintro e; rw [e] at hj; simp at hj
 have hlt := h3 hne ad hA
 exact ⟨ad, hA, by rw [← hc]; exact World.cell?_setCell_far _ _ _ _ (by rw [addr_add_block]; dsimp only; omega)⟩
theorem rPart_first (f : Int) (s : List UInt8 × Nat) : (rPart f s).1.1 = f := rfl
theorem rPart_many (f : Int) (s : List UInt8 × Nat) : (rPart f s).1.2.1 = ((rWithin 64 s).1 : Nat) := rfl
theorem rWithin_le (n : Nat) (s : List UInt8 × Nat) : (rWithin n s).1 ≤ n := by
 unfold rWithin
 split
 · exact Nat.zero_le _
 · rename_i h
   omega
theorem pend_snoc : ∀ (l : List Pt5) (a : Int) (p : Pt5), pend a (l ++ [p]) = pend a l + p.2.1
 | [], _, _ => rfl
 | q :: r, a, p => pend_snoc r (a + q.2.1) p
theorem crLoop_bd (s : List UInt8 × Nat) (a : Int) : ∀ k, a ≤ pend a (crLoop k a s).1 ∧ pend a (crLoop k a s).1 ≤ a + 64 * k
 | 0 => by simp [crLoop, pend]
 | k + 1 => by
  have ih := crLoop_bd s a k
  rw [crLoop_succ]
  dsimp only
  rw [pend_snoc, rPart_many]
  have := rWithin_le 64 (crLoop k a s).2
  omega
theorem Number_s {g B : Nat} {s : List UInt8 × Nat} {w : World} (hR : IsR w g B s) :
 Calls Tryz.prog 70 #[.pointer (some ⟨g, 0, none⟩)] w fun e w' => e = .returned (.int .u64 ((rNum s).1 : Nat)) ∧ IsR w' g B (rNum s).2 ∧ Wr w w' g := by obtain ⟨l, b⟩ := s; exact Number_any hR
theorem Fail_s {g B : Nat} {s : List UInt8 × Nat} {w : World} (k : Nat) (hR : IsR w g B s) :
 Calls Tryz.prog 71 #[.pointer (some ⟨g, 0, none⟩), errv k] w fun e w' => e = .returned (.tuple #[]) ∧ IsR w' g B (rFail k s) ∧ Wr w w' g := by obtain ⟨l, b⟩ := s; exact Fail_any k hR
theorem End_s18 {g B : Nat} {s : List UInt8 × Nat} {w : World} (hR : IsR w g B s) : Calls Tryz.prog 73 #[.pointer (some ⟨g, 0, none⟩)] w fun e w' => e = .returned (errv (rEnd s)) ∧ w = w' := by obtain ⟨l, b⟩ := s; exact End_any hR
theorem foneLen (b : List UInt8) : (fone b).1.length ≤ b.length := by
 unfold fone
 split
 · simp
 · split
   · simp
   · unfold ftake
     split
     · simp
     · split
       · simp
       · split
         · simp
         · split
           · simp only [List.length_drop, List.length_take]; omega
           · simp
theorem rFail_fst18 (k : Nat) (s : List UInt8 × Nat) : (rFail k s).1 = s.1 := by unfold rFail; split <;> rfl
theorem crLoop_I : ∀ (k : Nat) (a : Int) (s : List UInt8 × Nat), 0 ≤ a → a + 64 * k ≤ 1000000000 → PtsI (crLoop k a s).1
 | 0, _, _, _, _ => fun p hp => by cases hp
 | k + 1, a, s, h0, h1 => fun p hp => by
  have hl := rWithin_le 64 s
  have hl2 := rWithin_le 65536 (rWithin 64 s).2
  rcases List.mem_cons.1 (show p ∈ (rPart a s).1 :: (crLoop k (a + (rPart a s).1.2.1) (rPart a s).2).1 from hp) with rfl | hp
  · refine ⟨?_, ?_, ?_⟩
    · rw [rPart_first]; unfold I64; omega
    · rw [rPart_many]; unfold I64; omega
    · show I64 (((rWithin 65536 (rWithin 64 s).2).1 : Nat) : Int); unfold I64; omega
  · exact crLoop_I k _ _ (by rw [rPart_many]; omega) (by rw [rPart_many]; omega) p hp
theorem equalIn_dg (a b : Dg) (n : Nat) (w : World) : (Op.equalIn (n + 2) 35 (.agg (dga a)) (.agg (dga b))).run Tryz.prog w = .ok (decide (a = b)) w := by
 unfold dga
 obtain ⟨i, hi⟩ : ∃ i, Tryz.prog.info? 5 = some i := Option.isSome_iff_exists.1 (by kernel_rfl)
 rw [run_equalIn_array (P := Tryz.prog) (w := w) (n + 1) (t := 35) (e := 5) (n := 32) (i := i) _ _ Tryz.underlying35 hi]
 rw [show Tryz.prog.cellsOf 5 = 1 from by kernel_rfl]
 rw [eqItems_bytes (P := Tryz.prog) Tryz.underlying5 n a.1 b.1 w _ (fun i hi => by have := List.mem_range.1 hi; rw [a.2, b.2]; exact ⟨this, this⟩)]
 rw [dg_all]
theorem dg_cases {Q : Dg → Prop} (h : ∀ b0 b1 b2 b3 b4 b5 b6 b7 b8 b9 b10 b11 b12 b13 b14 b15 b16 b17 b18 b19 b20 b21 b22 b23 b24 b25 b26 b27 b28 b29 b30 b31 : UInt8, Q ⟨[b0, b1, b2, b3, b4, b5, b6, b7, b8, b9, b10, b11, b12, b13, b14, b15, b16, b17, b18, b19, b20, b21, b22, b23, b24, b25, b26, b27, b28, b29, b30, b31], rfl⟩) : ∀ d, Q d := by
 rintro ⟨l, hl⟩
 match l, hl with
 | [b0, b1, b2, b3, b4, b5, b6, b7, b8, b9, b10, b11, b12, b13, b14, b15, b16, b17, b18, b19, b20, b21, b22, b23, b24, b25, b26, b27, b28, b29, b30, b31], _ => exact h b0 b1 b2 b3 b4 b5 b6 b7 b8 b9 b10 b11 b12 b13 b14 b15 b16 b17 b18 b19 b20 b21 b22 b23 b24 b25 b26 b27 b28 b29 b30 b31
theorem mfa_set (n f t r : Int) (A A' : Option Addr) (k c k' c' : Nat) : ∀ d : Dg, (mfa n f t r d A k c).setIfInBounds 36 (.slice A' k' c') = mfa n f t r d A' k' c' := by
 refine dg_cases ?_
 intros
 rfl
section
variable {w : World} {g : Nat} {T : TypeId} {n f t r : Int} {d : Dg} {A : Option Addr} {k c : Nat}
theorem Blm.five (h : Blk w g T (mfa n f t r d A k c)) : w.cell? ⟨g, 0, none⟩ = some (.int .i64 n) ∧ w.cell? ⟨g, 1, none⟩ = some (.int .i64 f) ∧ w.cell? ⟨g, 2, none⟩ = some (.int .i64 t) ∧ w.cell? ⟨g, 3, none⟩ = some (.int .i64 r) ∧ w.cell? ⟨g, 36, none⟩ = some (.slice A k c) := by
 refine ⟨(h.cell 0).trans rfl, (h.cell 1).trans rfl, (h.cell 2).trans rfl, (h.cell 3).trans rfl, (h.cell 36).trans ?_⟩
 have := d.2
 simp [mfa, mfl, this]
end
theorem Bl3 {w : World} {g : Nat} {T : TypeId} {p : Pt5} (h : Blk w g T (pta p)) : w.cell? ⟨g, 0, none⟩ = some (.int .i64 p.1) ∧ w.cell? ⟨g, 1, none⟩ = some (.int .i64 p.2.1) ∧ w.cell? ⟨g, 2, none⟩ = some (.int .i64 p.2.2.1) :=
 ⟨(h.cell 0).trans rfl, (h.cell 1).trans rfl, (h.cell 2).trans rfl⟩
section
variable {P : Program}
theorem run_storeVar_at (w : World) (g off : Nat) (t ty : TypeId) (old cells : Array Value) (hg : w.heap[g]? = some (.cells old t (0, 0))) (hi : (P.info? ty).map (·.size) = some cells.size) (hfit : off + cells.size ≤ old.size) (h1 : cells.all (·.oneCell') = true) :
 (storeVar ty ⟨g, off, none⟩ (.agg cells)).run P w = .ok () (w.setRow g (splice old.toList off cells.toList).toArray) := by
 have := run_storeCells_at P g off t cells.toList 0 old w hg (by simp; omega) (fun v hv => (Array.all_eq_true_iff_forall_mem.1 h1) v (by simpa using hv))
 cases hq : P.info? ty with
 | none => simp [hq] at hi
 | some i =>
  have hs : cells.size = i.size := by simp [hq] at hi; omega
  simp only [Nat.add_zero] at this
  simp [storeVar, sizeOf, typeInfo, hq, Value.cells, hs, this, splice]
end
theorem dga_all (d : Dg) : (dga d).all (·.oneCell') = true := by
 rw [Array.all_eq_true_iff_forall_mem]
 intro u hu
 exact one_bvs _ u (by simpa [dga] using hu)
set_option maxRecDepth 100000 in
theorem step_copyD0 {ops : Array Oper} {o : Oper} {a : Act} {w : World} {K : Act → World → Prop} {Q : Exit → Act → World → Prop} {E : Prop} (hgd : o.guard = none) (d s : Operand)
 (ho : o.op = .call { callee := .builtin .copy, args := #[d, s], argTypes := #[52, 52] }) (gc : Nat) (hB : Blk w gc 35 (dga dg0)) (hd : a.eval d = .slice (some ⟨gc, 0, none⟩) 32 32)
 (A : Option Addr) (c : Nat) (m : List UInt8) (hs : a.eval s = .slice A m.length c) (hS : SlB w A c m) (hm : m.length = 0 ∨ m.length = 32)
 (h : ∀ w' v, Blk w' gc 35 (dga (if h : m.length = 32 then ⟨m, h⟩ else dg0)) → Below gc w w' → K (a.put o.dst v) w') :
 if Region.wanted o (yielded ops a.tmps) = true then Oper.wp Tryz.prog o a w K Q else E := by
 have hu8 : (Tryz.prog.info? 5).map (·.size) = some 1 := by kernel_rfl
 have h0l : (bvs dg0.1).length = 32 := by have := dg0.2; simp [this]
 cases A with
 | none =>
  have h0 := hS.2.2.2.1 rfl
  have h1 := hS.2.1
  have hl : m.length = 0 := by omega
  have hw : Region.wanted o (yielded ops a.tmps) = true := by simp [Region.wanted, hgd]
  rw [if_pos hw]
  rw [hl] at hs
  have hrun := run_copy_none (P := Tryz.prog) w 52 52 o.type 5 1 (some ⟨gc, 0, none⟩) 32 32 c Tryz.underlying52 hu8
  unfold Oper.wp
  simp [execOp, ho, resolve, invoke, builtin, hd, hs, hrun, Result.andThen]
  refine h _ _ ?_ (Below.refl _ _)
  rw [dif_neg (by omega)]
  exact hB
 | some ad =>
  have hsrc : ∀ j v, (bvs m)[j]? = some v → w.cell? (ad.add j) = some v := fun j v hj => by
   obtain ⟨ad', hA, hc⟩ := hS.2.2.2.2 j v hj
   injection hA with hA
   subst hA
   exact hc
  rcases hm with hm | hm
  · have hn : m = [] := List.eq_nil_of_length_eq_zero hm
    refine step_copyK (E := E) hgd d s 52 52 ho 5 1 Tryz.underlying52 hu8 gc 0 32 32 ad m.length c hd hs (bvs dg0.1) 35 hB [] 0 (by simp [hm]) rfl (by simp) (by simp) (by simp) gc w (Below.refl _ _) (Nat.le_refl _) ?_
    intro w' hw' hb'
    refine h _ _ ?_ hb'
    rw [dif_neg (by omega)]
    have := hw'.out
    rw [splice_nil] at this
    exact this
  · refine step_copyK (E := E) hgd d s 52 52 ho 5 1 Tryz.underlying52 hu8 gc 0 32 32 ad m.length c hd hs (bvs dg0.1) 35 hB (bvs m) 32 (by simp [hm]) (by simp [hm]) hsrc (by rw [h0l]; simp [hm]) (one_bvs m) gc w (Below.refl _ _) (Nat.le_refl _) ?_
    intro w' hw' hb'
    refine h _ _ ?_ hb'
    rw [dif_pos hm]
    have := hw'.out
    rw [show splice (bvs dg0.1) 0 (bvs m) = bvs m from by unfold splice; rw [List.take_zero, List.drop_eq_nil_of_le (by rw [h0l]; simp [hm])]; simp] at this
    exact this
theorem res_dg {fn : Func} {a : Nat} {tmps : Array Value} {w : World} {g : Nat} {d : Dg} (hres : fn.results = #[.cell a 35]) (ha : tmps.getD a undef = .pointer (some ⟨g, 0, none⟩)) (hB : Blk w g 35 (dga d)) : (results fn tmps).run Tryz.prog w = .ok (.agg (dga d)) w := by
 have h := run_loadVar_at (P := Tryz.prog) w ⟨g, 0, none⟩ 35 (dga d) hB.cells _ Tryz.underlying35 rfl (by rw [dga_size]; kernel_rfl)
 have ha' : tmps[a]?.getD undef = .pointer (some ⟨g, 0, none⟩) := by simpa using ha
 simp [results, hres, asAddr, h, ha']
theorem IsR.row2 {w : World} {g B gc : Nat} {s : List UInt8 × Nat} (h : IsR w g B s) (h1 : g < gc) (h2 : B ≤ gc) (cs : Array Value) : IsR (w.setRow gc cs) g B s := IsR.row h h1 h2 cs
set_option maxRecDepth 100000 in
set_option maxHeartbeats 1000000 in
theorem MDig_any {w : World} {g B : Nat} {s : List UInt8 × Nat} (hR : IsR w g B s) (hB : B ≤ w.heap.size) (hl : s.1.length ≤ 1000000000) : Calls Tryz.prog 69 #[.pointer (some ⟨g, 0, none⟩)] w fun e w' => e = .returned (.agg (dga (rDg s).1)) ∧ IsR w' g B (rDg s).2 ∧ Wr w w' g := by
 have hg := hR.lt
 have hst0 : Wr w ((w.alloc (.cells (dga dg0) 35)).alloc (.cells (dga dg0) 35)) g ∧ Blk ((w.alloc (.cells (dga dg0) 35)).alloc (.cells (dga dg0) 35)) w.heap.size 35 (dga dg0) := ⟨((Wr.refl _ _).alloc _).alloc _, (Blk.new w _ _).alloc _⟩
 have hL0 : Blk ((w.alloc (.cells (dga dg0) 35)).alloc (.cells (dga dg0) 35)) (w.heap.size + 1) 35 (dga dg0) := Blk.newAt (by simp) _ _
 have hR0 := (hR.alloc (.cells (dga dg0) 35)).alloc (.cells (dga dg0) 35)
 have hds := Lib.hid (dga_size (rDg s).1)
 have hd0 := Lib.hid (dga_size dg0)
 have hda := Lib.hid (dga_all (rDg s).1)
 go_enter Tryz.func69, Tryz.ntmps69
 go_upto_region 2 with (fail)
 refine gen1 (T := fun W => ((Wr w W g ∧ Blk W w.heap.size 35 (dga dg0)) ∧ Blk W (w.heap.size + 1) 35 (dga dg0)) ∧ IsR W g B s) ⟨⟨hst0, hL0⟩, hR0⟩ (fun w0 hT => ?_)
 clear hst0 hL0 hR0
 obtain ⟨⟨hst, hL⟩, hR0⟩ := hT
 have hstd : Wr w w0.drew g ∧ Blk w0.drew w.heap.size 35 (dga dg0) := ⟨hst.1.drew, hst.2.drew⟩
 have hLd := hL.drew
 have hRd := hR0.drew
 have hlt := hL.lt
 clear hst hL hR0
 refine wp_region_held_drew (S := (fun W => Wr w W g ∧ Blk W w.heap.size 35 (dga dg0))) (by kernel_rfl) ?_ (fun hHeld => ?_)
 · exact hstd
 refine gen0 (T := fun W => ((fun W => Wr w W g ∧ Blk W w.heap.size 35 (dga dg0))) W ∧ IsR W g B s ∧ Blk W (w.heap.size + 1) 35 (dga dg0) ∧ True) ?_ (fun wq1 hT => ?_)
 · exact ⟨by (with_reducible exact hstd), by (with_reducible assumption), by (with_reducible assumption), trivial⟩
 (try clear f0 f1 f2 f3 f4 f5 f6 f7 f8 f9 f10 f11)
 obtain ⟨hHeld, f0, f1, -⟩ := hT
 refine wTk (i := 0) (oi := ⟨some 4, _, _, _, _, _⟩) (v := ?_) rfl ⟨by kernel_rfl, ?_⟩ (by assumption) ?_
 rotate_left
 · (intro wS hSw; (try dsimp only at hSw); clear hSw; go_simp; (try with_reducible rfl))
 (try simp only [Act.put, pS0, pS1, pS2])
 refine wTk (i := 1) (oi := ⟨some 5, _, _, _, _, _⟩) (v := ?_) rfl ⟨by kernel_rfl, ?_⟩ (by assumption) ?_
 rotate_left
 · (intro wS hSw; (try dsimp only at hSw); clear hSw; go_simp; (try with_reducible rfl))
 (try simp only [Act.put, pS0, pS1, pS2])
 refine wR1 (i := 2) (o := ⟨some 6, _, _, _, _, _⟩) rfl (fun K hK => ?_)
 go_simp
 (refine (Fixed_s 32 hl f0).mono ?_; rintro e w9 ⟨A9, c9, m9, rfl, hm9, ho9, hR9, hr9⟩)
 go_wp2_with fail
 refine hK.out _ _ ?_ (fun _ => ?_)
 · ((try dsimp only); (with_reducible exact ⟨hHeld.1.trans hr9, hHeld.2.wr hr9 (by omega)⟩))
 clear hK K
 (try simp only [Act.put, pS0, pS1, pS2])
 refine gen0 (T := fun W => ((fun W => Wr w W g ∧ Blk W w.heap.size 35 (dga dg0))) W ∧ IsR W g B (rFixed 32 s).2 ∧ Blk W (w.heap.size + 1) 35 (dga dg0) ∧ SlB W A9 c9 m9 ∧ True) ?_ (fun wq2 hT => ?_)
 · exact ⟨by (with_reducible exact ⟨hHeld.1.trans hr9, hHeld.2.wr hr9 (by omega)⟩), by (with_reducible assumption), by (with_reducible exact Blk.wr (by with_reducible assumption) hr9 (by omega)), by (exact ho9.sl), trivial⟩
 (try clear f0 f1 f2 f3 f4 f5 f6 f7 f8 f9 f10 f11)
 obtain ⟨hHeld, f0, f1, f2, -⟩ := hT
 refine wR1 (i := 3) (o := ⟨some 7, _, _, _, _, _⟩) rfl (fun K hK => ?_)
 ((refine step_copyD0 rfl (.tmp 4) (.tmp 6) rfl (w.heap.size + 1) (by with_reducible assumption) rfl A9 c9 m9 rfl (by with_reducible assumption) (by rw [hm9.out]; exact rFixed32 s) ?_; intro w10 v10 hB10 hb10))
 refine hK.out _ _ ?_ (fun _ => ?_)
 · ((try dsimp only); (exact ⟨⟨hb10.os.trans hHeld.1.os, hb10.tape.trans hHeld.1.tape, hb10.output.trans hHeld.1.output, Nat.le_trans hHeld.1.size hb10.size, fun i hi hn => (hb10.block i (by omega)).trans (hHeld.1.block i hi hn)⟩, (hb10.block _ (by omega)).trans hHeld.2⟩))
 clear hK K
 (try simp only [Act.put, pS0, pS1, pS2])
 refine gen0 (T := fun W => ((fun W => Wr w W g ∧ Blk W w.heap.size 35 (dga dg0))) W ∧ IsR W g B (rFixed 32 s).2 ∧ Blk W (w.heap.size + 1) 35 (dga (rDg s).1) ∧ True) ?_ (fun wq3 hT => ?_)
 · exact ⟨by (exact ⟨⟨hb10.os.trans hHeld.1.os, hb10.tape.trans hHeld.1.tape, hb10.output.trans hHeld.1.output, Nat.le_trans hHeld.1.size hb10.size, fun i hi hn => (hb10.block i (by omega)).trans (hHeld.1.block i hi hn)⟩, (hb10.block _ (by omega)).trans hHeld.2⟩), by (exact IsR.apart (by with_reducible assumption) (C := w.heap.size + 1) (by omega) (by omega) hb10), by (exact (by rw [← rDg_eq hm9.out]; exact hB10)), trivial⟩
 (try clear f0 f1 f2 f3 f4 f5 f6 f7 f8 f9 f10 f11)
 obtain ⟨hHeld, f0, f1, -⟩ := hT
 refine wpAnyH_done (by kernel_rfl) ?_ _
 have hq := f1.cells
 go_wp2_with (first | (refine wpl_loadG rfl 35 _ rfl ⟨w.heap.size + 1, 0, none⟩ (dga (rDg s).1) rfl hq _ Tryz.underlying35 rfl (by rw [hds.out]; kernel_rfl) ?_) | (refine wpList_store_row rfl 35 _ _ rfl w.heap.size (dga (rDg s).1) rfl rfl 35 _ hHeld.2 (by rw [hds.out]; kernel_rfl) (by rw [hds.out, hd0.out]) hda.out ?_))
 exact bodyPost_ret (res_dg rfl rfl (g := w.heap.size) hHeld.2.row) rfl ⟨rfl, IsR.row2 f0 (by omega) hB _, ⟨hHeld.1.os, hHeld.1.tape, hHeld.1.output, by simpa using hHeld.1.size, fun i hi hn => (setRow_other _ _ i _ (by omega)).trans (hHeld.1.block i hi hn)⟩⟩
theorem built_ptM (f x y : Int) : ∀ d : Dg, Tryz.prog.built 37 [(0, .int .i64 f), (1, .int .i64 x), (2, .int .i64 y), (3, .agg (dga d))] = some (pta (f, x, y, d)) := by
 refine dg_cases ?_
 intros
 kernel_rfl
theorem wpl_buildPM {w : World} {ops : Array Oper} {rest : List Oper} {o : Oper} {a : Act} {Q : Exit → Act → World → Prop} (hgd : o.guard = none) (x0 x1 x2 x3 : Operand) (ho : o.op = .build 37 #[(0, x0), (1, x1), (2, x2), (3, x3)])
 {f x y : Int} {d : Dg} (h0 : a.eval x0 = .int .i64 f) (h1 : a.eval x1 = .int .i64 x) (h2 : a.eval x2 = .int .i64 y) (h3 : a.eval x3 = .agg (dga d))
 (h : wpList Tryz.prog ops Q rest (a.put o.dst (.agg (pta (f, x, y, d)))) w) : wpList Tryz.prog ops Q (o :: rest) a w := by
 have hl : ((#[(0, x0), (1, x1), (2, x2), (3, x3)] : Array (Nat × Operand)).map fun (i, x) => (i, a.eval x)).toList = [(0, .int .i64 f), (1, .int .i64 x), (2, .int .i64 y), (3, .agg (dga d))] := by
  simp [h0, h1, h2, h3]
 refine wpList_build hgd 37 _ ho ?_ ?_
 · rw [hl, built_ptM]; rfl
 · rw [hl, built_ptM]; exact h
theorem MDig_eq {w : World} {g B : Nat} {s s' : List UInt8 × Nat} {d : Dg} (he : rDg s = (d, s')) (hR : IsR w g B s) (hB : B ≤ w.heap.size) (hl : s.1.length ≤ 1000000000) : Calls Tryz.prog 69 #[.pointer (some ⟨g, 0, none⟩)] w fun e w' => e = .returned (.agg (dga d)) ∧ IsR w' g B s' ∧ Wr w w' g := by
 have h := MDig_any hR hB hl
 rw [he] at h
 exact h
theorem Within_eq {g B n most : Nat} {s s' : List UInt8 × Nat} {w : World} (he : rWithin most s = (n, s')) (hR : IsR w g B s) :
 Calls Tryz.prog 68 #[.pointer (some ⟨g, 0, none⟩), .int .u64 most] w fun e w' => e = .returned (.int .i64 (n : Nat)) ∧ IsR w' g B s' ∧ Wr w w' g := by
 have h := Within_any most hR
 rw [he] at h
 exact h
set_option maxRecDepth 100000 in
set_option maxHeartbeats 1000000 in
theorem MPart_any {w : World} {g B : Nat} {s : List UInt8 × Nat} (f : Int) (hR : IsR w g B s) (hB : B ≤ w.heap.size) (hl : s.1.length ≤ 1000000000) : Calls Tryz.prog 72 #[.pointer (some ⟨g, 0, none⟩), .int .i64 f] w fun e w' => e = .returned (.agg (pta (rPart f s).1)) ∧ IsR w' g B (rPart f s).2 ∧ Wr w w' g := by
 have hg := hR.lt
 obtain ⟨y1, s6, h6⟩ : ∃ n s', rWithin 64 s = (n, s') := ⟨_, _, rfl⟩
 obtain ⟨y2, s7, h7⟩ : ∃ n s', rWithin 65536 s6 = (n, s') := ⟨_, _, rfl⟩
 obtain ⟨d, s8, h8⟩ : ∃ n s', rDg s7 = (n, s') := ⟨_, _, rfl⟩
 have hrp : rPart f s = ((f, (y1 : Int), (y2 : Int), d), s8) := by
  unfold rPart
  simp only [h6, h7, h8]
 have hl7 : s7.1.length ≤ 1000000000 := by
  have l1 := rWithin_len 64 s
  have l2 := rWithin_len 65536 s6
  rw [h6] at l1
  rw [h7] at l2
  dsimp only at l1 l2
  omega
 rw [hrp]
 have H6 := Lib.hid h6
 have H7 := Lib.hid h7
 have H8 := Lib.hid h8
 clear h6 h7 h8 hrp
 have hst0 : Wr w (w.alloc (.cells (pta (0, 0, 0, dg0)) 37)) g ∧ Blk (w.alloc (.cells (pta (0, 0, 0, dg0)) 37)) w.heap.size 37 (pta (0, 0, 0, dg0)) := ⟨(Wr.refl _ _).alloc _, Blk.new w _ _⟩
 have hR0 := hR.alloc (.cells (pta (0, 0, 0, dg0)) 37)
 have hz0 : (w.alloc (.cells (pta (0, 0, 0, dg0)) 37)).heap.size = w.heap.size + 1 := by simp
 go_enter Tryz.func72, Tryz.ntmps72
 go_upto_region 1 with (fail)
 refine gen1 (T := fun W => ((Wr w W g ∧ Blk W w.heap.size 37 (pta (0, 0, 0, dg0)))) ∧ IsR W g B s) ⟨hst0, hR0⟩ (fun w0 hT => ?_)
 clear hst0 hR0 hR
 obtain ⟨⟨hw, hP⟩, hR⟩ := hT
 go_wp2_with fail
 refine (Within_eq H6.out hR).mono ?_
 rintro e w1 ⟨rfl, hR1, hr1⟩
 replace hw := hw.trans hr1
 replace hP := hP.wr hr1 (by omega)
 clear hR hr1
 go_wp2_with fail
 refine (Within_eq H7.out hR1).mono ?_
 rintro e w2 ⟨rfl, hR2, hr2⟩
 replace hw := hw.trans hr2
 replace hP := hP.wr hr2 (by omega)
 clear hR1 hr2
 go_wp2_with fail
 refine (MDig_eq H8.out hR2 (Nat.le_trans hB hw.size) hl7).mono ?_
 rintro e w3 ⟨rfl, hR3, hr3⟩
 replace hw := hw.trans hr3
 replace hP := hP.wr hr3 (by omega)
 clear hR2 hr3
 have hps := Lib.hid (pta_size (f, (y1 : Int), (y2 : Int), d))
 have hp0 := Lib.hid (pta_size (0, 0, 0, dg0))
 have hpa := Lib.hid (pta_all (f, (y1 : Int), (y2 : Int), d))
 go_wp2_with (first | (refine wpl_buildPM rfl _ _ _ _ rfl (f := f) (x := y1) (y := y2) (d := d) rfl rfl rfl rfl ?_) | (refine wpList_store_row rfl 37 _ _ rfl w.heap.size (pta (f, (y1 : Int), (y2 : Int), d)) rfl rfl 37 _ hP (by rw [hps.out]; kernel_rfl) (by rw [hps.out, hp0.out]) hpa.out ?_))
 exact bodyPost_ret (res_pt rfl rfl (g := w.heap.size) hP.row) rfl ⟨rfl, IsR.row2 hR3 (by omega) hB _, ⟨hw.os, hw.tape, hw.output, by simpa using hw.size, fun i hi hn => (setRow_other _ _ i _ (by omega)).trans (hw.block i hi hn)⟩⟩
def mfRead (s : List UInt8 × Nat) : Mf × (List UInt8 × Nat) :=
 let r0 := rWithin 999999 s
 let r1 := rWithin 1048576 r0.2
 let r2 := rWithin 1048576 r1.2
 let r3 := rWithin 1048576 r2.2
 let rd := rDg r3.2
 let rn := rNum rd.2
 let s5 := if 1024 < rn.1 then rFail 3 rn.2 else rn.2
 let l := crLoop (min rn.1 1024) (r1.1 : Int) s5
 (((r0.1 : Int), (r1.1 : Int), (r2.1 : Int), (r3.1 : Int), rd.1, l.1), l.2)
def mfz : Mf := (0, 0, 0, 0, dg0, [])
def mfEnd (x : Mf × (List UInt8 × Nat)) : Mf × Nat := if rEnd x.2 ≠ 0 then (mfz, rEnd x.2) else if mchk x.1 ≠ 0 then (mfz, mchk x.1) else (x.1, 0)
def mfTake (b : List UInt8) : Mf × Nat := if (fone b).2 ≠ 0 then (mfz, (fone b).2) else mfEnd (mfRead ((fone b).1, 0))
theorem mfRead_eq {s s0 s1 s2 s3 s4 s5 s6 : List UInt8 × Nat} {nu f tt q n : Nat} {d : Dg} (h0 : rWithin 999999 s = (nu, s0)) (h1 : rWithin 1048576 s0 = (f, s1)) (h2 : rWithin 1048576 s1 = (tt, s2)) (h3 : rWithin 1048576 s2 = (q, s3)) (h4 : rDg s3 = (d, s4)) (h5 : rNum s4 = (n, s5)) (h6 : (if 1024 < n then rFail 3 s5 else s5) = s6) :
 mfRead s = (((nu : Int), (f : Int), (tt : Int), (q : Int), d, (crLoop (min n 1024) f s6).1), (crLoop (min n 1024) f s6).2) := by
 unfold mfRead
 simp only [h0, h1, h2, h3, h4, h5, h6]
theorem mfEnd_1 {x : Mf × (List UInt8 × Nat)} (h : rEnd x.2 ≠ 0) : mfEnd x = (mfz, rEnd x.2) := by unfold mfEnd; rw [if_pos h]
theorem mfEnd_2 {x : Mf × (List UInt8 × Nat)} (h : rEnd x.2 = 0) (h2 : mchk x.1 ≠ 0) : mfEnd x = (mfz, mchk x.1) := by unfold mfEnd; rw [if_neg (by omega), if_pos h2]
theorem mfEnd_3 {x : Mf × (List UInt8 × Nat)} (h : rEnd x.2 = 0) (h2 : mchk x.1 = 0) : mfEnd x = (x.1, 0) := by unfold mfEnd; rw [if_neg (by omega), if_neg (by omega)]
theorem rDg_len (s : List UInt8 × Nat) : (rDg s).2.1.length ≤ s.1.length := rFixed_len 32 s
abbrev mza : Array Value := mfa 0 0 0 0 dg0 none 0 0
theorem res_mf2 {fn : Func} {a b : Nat} {tmps : Array Value} {w : World} {g : Nat} {n f t r : Int} {d : Dg} {A : Option Addr} {k c : Nat} (hres : fn.results = #[.cell a 46, .tmp b]) (ha : tmps.getD a undef = .pointer (some ⟨g, 0, none⟩)) (hB : Blk w g 46 (mfa n f t r d A k c)) : (results fn tmps).run Tryz.prog w = .ok (.tuple #[.agg (mfa n f t r d A k c), tmps.getD b undef]) w := by
 have h := run_loadVar_at (P := Tryz.prog) w ⟨g, 0, none⟩ 46 (mfa n f t r d A k c) hB.cells _ Tryz.underlying46 rfl (by rw [mfa_size]; kernel_rfl)
 have ha' : tmps[a]?.getD undef = .pointer (some ⟨g, 0, none⟩) := by simpa using ha
 simp [results, hres, asAddr, h, ha']
theorem built_mz : Tryz.prog.built 46 [] = some mza := by kernel_rfl
theorem wpl_buildMz {ops : Array Oper} {rest : List Oper} {o : Oper} {a : Act} {w : World} {Q : Exit → Act → World → Prop} (hgd : o.guard = none) (ho : o.op = .build 46 #[])
 (h : wpList Tryz.prog ops Q rest (a.put o.dst (.agg mza)) w) : wpList Tryz.prog ops Q (o :: rest) a w := by
 have hl : ((#[] : Array (Nat × Operand)).map fun (i, x) => (i, a.eval x)).toList = [] := by simp
 refine wpList_build hgd 46 _ ho ?_ ?_
 · rw [hl, built_mz]; rfl
 · rw [hl, built_mz]; exact h
theorem built_mM (n f t r : Int) : ∀ d : Dg, Tryz.prog.built 46 [(0, .int .i64 n), (1, .int .i64 f), (2, .int .i64 t), (3, .int .i64 r), (4, .agg (dga d))] = some (mfa n f t r d none 0 0) := by
 refine dg_cases ?_
 intros
 kernel_rfl
theorem wpl_buildMM {ops : Array Oper} {rest : List Oper} {o : Oper} {a : Act} {w : World} {Q : Exit → Act → World → Prop} (hgd : o.guard = none) (x0 x1 x2 x3 x5 : Operand) (ho : o.op = .build 46 #[(0, x0), (1, x1), (2, x2), (3, x3), (4, x5)])
 {n f t r : Int} {d : Dg} (h0 : a.eval x0 = .int .i64 n) (h1 : a.eval x1 = .int .i64 f) (h2 : a.eval x2 = .int .i64 t) (h3 : a.eval x3 = .int .i64 r) (h5 : a.eval x5 = .agg (dga d))
 (h : wpList Tryz.prog ops Q rest (a.put o.dst (.agg (mfa n f t r d none 0 0))) w) : wpList Tryz.prog ops Q (o :: rest) a w := by
 have hl : ((#[(0, x0), (1, x1), (2, x2), (3, x3), (4, x5)] : Array (Nat × Operand)).map fun (i, x) => (i, a.eval x)).toList = [(0, .int .i64 n), (1, .int .i64 f), (2, .int .i64 t), (3, .int .i64 r), (4, .agg (dga d))] := by
  simp [h0, h1, h2, h3, h5]
 refine wpList_build hgd 46 _ ho ?_ ?_
 · rw [hl, built_mM]; rfl
 · rw [hl, built_mM]; exact h
def GivesMf (w0 : World) (r : Mf × Nat) (e : Ending) (w' : World) : Prop :=
 ∃ A c m, e = .returned (.tuple #[.agg (mfa r.1.1 r.1.2.1 r.1.2.2.1 r.1.2.2.2.1 r.1.2.2.2.2.1 A (List.length m) c), errv r.2]) ∧ Hid (m = r.1.2.2.2.2.2) ∧ OwnP w' w0.heap.size A c m ∧ Below w0.heap.size w0 w'
set_option maxRecDepth 100000 in
set_option maxHeartbeats 2000000 in
theorem MTake_any (A : Option Addr) (c : Nat) (b : List UInt8) (w : World) (hs : SlB w A c b) (hl : b.length ≤ 1000000) :
 Calls Tryz.prog 32 #[.slice A b.length c] w (GivesMf w (mfTake b)) := by
 have hM := (Mm.start w).alloc mza 46
 have hfl := foneLen b
 have hzw : (w.alloc (.cells mza 46)).heap.size = w.heap.size + 1 := by simp
 go_enter Tryz.func32, Tryz.ntmps32
 go_upto_region 1 with (fail)
 refine gen1 (T := fun W => Mm w W [(w.heap.size, 46, mza)] []) hM (fun w0 hM => ?_)
 clear hzw
 go_wp2_with fail
 refine (FOne_any A c b _ (hs.below hM.bel) (by omega)).mono ?_
 rintro e w1 ⟨A1, c1, m1, rfl, hm1, hs1, hb1⟩
 replace hM := hM.call hb1
 clear hb1
 rcases errv_cases (fone b).2 with ⟨h0, hev⟩ | ⟨k, hk, hke, hev⟩
 · have HT0 := Lib.hid (show mfTake b = mfEnd (mfRead (m1, 0)) from by unfold mfTake; rw [if_neg (by omega), hm1.out])
   have hm1l : m1.length ≤ 1000000 := by rw [hm1.out]; omega
   rw [hev]
   clear hev h0 hfl hm1
   go_wp2_with fail
   refine (RNew_any A1 c1 m1 _ hs1).mono ?_
   rintro e w2 ⟨g, rfl, hg, hR, hb2⟩
   have hM2 := hM.callAdd hb2 (a := some g) (fun k hk => by injection hk with hk; subst hk; exact ⟨hg, hR.lt⟩)
   have hB0 : w.heap.size < w1.heap.size := hM.b0.lt
   have hB2 := hb2.size
   obtain ⟨nu, s0, h0⟩ : ∃ n s, rWithin 999999 (m1, 0) = (n, s) := ⟨_, _, rfl⟩
   obtain ⟨f, s1, h1⟩ : ∃ n s, rWithin 1048576 s0 = (n, s) := ⟨_, _, rfl⟩
   obtain ⟨tt, s2, h2⟩ : ∃ n s, rWithin 1048576 s1 = (n, s) := ⟨_, _, rfl⟩
   obtain ⟨q, s3, h3⟩ : ∃ n s, rWithin 1048576 s2 = (n, s) := ⟨_, _, rfl⟩
   obtain ⟨d, s4, h4⟩ : ∃ n s, rDg s3 = (n, s) := ⟨_, _, rfl⟩
   obtain ⟨n, s5, h5⟩ : ∃ n s, rNum s4 = (n, s) := ⟨_, _, rfl⟩
   obtain ⟨s6, h6⟩ : ∃ s, (if 1024 < n then rFail 3 s5 else s5) = s := ⟨_, rfl⟩
   have hfb : f ≤ 1048576 := by have := rWithin_le 1048576 s0; rw [h1] at this; exact this
   have HC := Lib.hid (mfRead_eq h0 h1 h2 h3 h4 h5 h6)
   have hl3 : s3.1.length ≤ 1000000 := by
    have l0 := rWithin_len 999999 (m1, 0)
    have l1 := rWithin_len 1048576 s0
    have l2 := rWithin_len 1048576 s1
    have l3 := rWithin_len 1048576 s2
    rw [h0] at l0
    rw [h1] at l1
    rw [h2] at l2
    rw [h3] at l3
    dsimp only at l0 l1 l2 l3
    omega
   have hs6l : s6.1.length ≤ 1000000 := by
    have l4 := rDg_len s3
    have l5 := rNum_len s4
    rw [h4] at l4
    rw [h5] at l5
    dsimp only at l4 l5
    rw [← h6]
    split
    · rw [rFail_fst18]; omega
    · omega
   have H0 := Lib.hid h0
   have H1 := Lib.hid h1
   have H2 := Lib.hid h2
   have H3 := Lib.hid h3
   have H4 := Lib.hid h4
   have H5 := Lib.hid h5
   have H6 := Lib.hid h6
   clear h0 h1 h2 h3 h4 h5 h6 hM hb2 hs1
   generalize w1.heap.size = B at *
   have hgg : g < w2.heap.size := hR.lt
   go_wp2_with fail
   refine (Within_eq H0.out hR).mono ?_
   rintro e wa ⟨rfl, hRa, hra⟩
   have hM := hM2.wr hra (List.mem_cons_self ..) (by omega)
   clear hM2 hR hra
   go_wp2_with fail
   refine (Within_eq H1.out hRa).mono ?_
   rintro e wb ⟨rfl, hRb, hrb⟩
   replace hM := hM.wr hrb (List.mem_cons_self ..) (by omega)
   clear hRa hrb
   go_wp2_with fail
   refine (Within_eq H2.out hRb).mono ?_
   rintro e wa ⟨rfl, hRa, hra⟩
   replace hM := hM.wr hra (List.mem_cons_self ..) (by omega)
   clear hRb hra
   go_wp2_with fail
   refine (Within_eq H3.out hRa).mono ?_
   rintro e wb ⟨rfl, hRb, hrb⟩
   replace hM := hM.wr hrb (List.mem_cons_self ..) (by omega)
   have hwb : B ≤ wb.heap.size := by have := (hM.far g (List.mem_cons_self ..)).1; omega
   clear hRa hrb
   go_wp2_with fail
   refine (MDig_eq H4.out hRb hwb (by omega)).mono ?_
   rintro e wc ⟨rfl, hRc, hrc⟩
   replace hM := hM.wr hrc (List.mem_cons_self ..) (by omega)
   have hgc0 : g < wc.heap.size := hRc.lt
   clear hRb hrc hwb
   have hmz0 := Lib.hid (mfa_size nu f tt q d none 0 0)
   have hmb0 := Lib.hid (mfa_all nu f tt q d none 0 0)
   go_upto_region 6 with (first | (refine wpl_buildMM rfl _ _ _ _ _ rfl (n := nu) (f := f) (t := tt) (r := q) (d := d) rfl rfl rfl rfl rfl ?_) | (refine wpl_storeN rfl 46 _ _ rfl _ (mfa nu f tt q d none 0 0) 46 rfl rfl (by rw [hmz0.out]; kernel_rfl) (by rw [hmz0.out]; rfl) hmb0.out ?_))
   have hMx := hM.alloc (mfa nu f tt q d none 0 0) 46
   have hRx := hRc.alloc (.cells (mfa nu f tt q d none 0 0) 46)
   have hBx : B ≤ wc.heap.size := by omega
   generalize wc.heap.size = gc at *
   refine gen1 (T := fun W => Mm w W [(gc, 46, mfa nu f tt q d none 0 0), (w.heap.size, 46, mza)] [some g] ∧ IsR W g B s4) ⟨hMx, hRx⟩ (fun w3 hT => ?_)
   clear hMx hRx hM hRc hmz0 hmb0
   obtain ⟨hM, hR⟩ := hT
   go_wp2_with fail
   refine (Number_s hR).mono ?_
   rintro e w3 ⟨rfl, hR3, hr3⟩
   rw [H5.out] at hR3 ⊢
   dsimp only at hR3 ⊢
   replace hM := hM.wr hr3 (List.mem_cons_self ..) (by omega)
   have hs6 := H6.out
   clear hR hr3 H0 H1 H2 H3 H4 H5 H6
   go_upto_if 38 with (fail)
   go_cut [] (fun wz => Mm w wz [(gc, 46, mfa nu f tt q d none 0 0), (w.heap.size, 46, mza)] [some g] ∧ IsR wz g B s6)
   case first =>
    rcases Decidable.em (1024 < n) with h | h
    · have hI : (1024 : Int) < (n : Int) := by omega
      rw [if_pos h] at hs6
      subst hs6
      clear h
      go_wp2_with fail
      refine (Fail_s 3 hR3).mono ?_
      rintro e w5 ⟨rfl, hR5, hr5⟩
      go_wp2_with fail
      go_meet
      exact ⟨hM.wr hr5 (List.mem_cons_self ..) (by omega), hR5⟩
    · have hI : (n : Int) ≤ (1024 : Int) := by omega
      rw [if_neg h] at hs6
      subst hs6
      clear h
      go_wp2_with fail
      go_meet
      exact ⟨hM, hR3⟩
   case rest =>
    clear hM hR3 hs6
    obtain ⟨hM, hR⟩ := hcut
    obtain ⟨c0, c1', c2, c3, c4⟩ := Blm.five hM.b0
    obtain ⟨N, hN⟩ : ∃ N : Nat, min n 1024 = N := ⟨_, rfl⟩
    have hNi : min (n : Int) 1024 = (N : Int) := by omega
    have hN2 : N ≤ 1024 := by omega
    rw [hN] at HC
    clear hN
    go_upto_region 10 with (fail)
    go_cut [45, 46] (fun x y wz => x = .int .u64 (N : Nat) ∧ y = .int .u64 0 ∧ wz = wc)
    case first =>
     go_wp2_with fail
     all_goals
      go_meet
      exact ⟨by first | (congr 1; omega) | congr 1, rfl, rfl⟩
    case rest =>
     obtain ⟨rfl, rfl, rfl⟩ := hcut
     clear hNi
     go_wp2_with fail
     go_loopw [46, 9] (fun x y wr => ∃ (k : Nat) (E : Option Addr) (cE : Nat) (m : List Pt5), k ≤ N ∧ x = .int .u64 (k : Nat) ∧ y = .int .i64 (pend (f : Nat) m) ∧ Hid (m = (crLoop k (f : Nat) s6).1) ∧ Mm w wr [(gc, 46, mfa nu f tt q d E m.length cE), (w.heap.size, 46, mza)] [E.map (·.block), some g] ∧ IsR wr g B (crLoop k (f : Nat) s6).2 ∧ OwnP wr (gc + 1) E cE m) (fun x y wr => N - (intOf x).toNat)
     case atStart => exact ⟨0, none, 0, [], Nat.zero_le _, rfl, rfl, (show _ = _ from rfl), hM.add (by simp), hR, Own.none_ _ _ _ _⟩
     case round =>
      obtain ⟨k, E, cE, m, hk, rfl, rfl, hm, hMr, hRr, hOr⟩ := hrel
      have hml : Hid (m.length = k) := (show _ = _ from by rw [hm.out, crLoop_len])
      clear hM hR
      rcases Nat.lt_or_ge k N with hlt | hge
      · have hkI : (k : Int) < (N : Int) := by omega
        have hsl := crLoop_left k (f : Int) s6
        have hbd := crLoop_bd s6 (f : Int) k
        have hbd2 := crLoop_bd s6 (f : Int) (k + 1)
        have hsuc := crLoop_succ k (f : Int) s6
        rw [hsuc] at hbd2
        dsimp only at hbd2
        rw [pend_snoc] at hbd2
        rw [← hm.out] at hbd hbd2 hsuc
        have HSU := Lib.hid hsuc
        clear hsuc c0 c1' c2 c3 c4
        have hbsz : gc < wr.heap.size := hMr.b0.lt
        go_wp2_with fail
        refine (MPart_any (pend (f : Int) m) hRr (by omega) (by omega)).mono ?_
        rintro e w7 ⟨rfl, hR7, hr7⟩
        replace hMr := hMr.wr hr7 (by simp) (by omega)
        replace hOr := Own.wr hOr (by omega) hr7
        obtain ⟨p, s8, hp⟩ : ∃ p s, rPart (pend (f : Int) m) (crLoop k (f : Int) s6).2 = (p, s) := ⟨_, _, rfl⟩
        rw [hp] at hR7 ⊢
        have hsu2 := HSU.out
        rw [hp] at hsu2 hbd2
        dsimp only at hR7 hsu2 hbd2 ⊢
        have HS := Lib.hid hsu2
        have hps := Lib.hid (pta_size p)
        have hpa := Lib.hid (pta_all p)
        have hwrp : wrap64 (pend (f : Int) m + p.2.1) = pend (f : Int) m + p.2.1 := by simp only [wrap64]; omega
        have hwrp2 : IntKind.i64.wrap (pend (f : Int) m + p.2.1) = pend (f : Int) m + p.2.1 := by rw [IntKind.wrap_i64]; omega
        have hsz7 := hr7.size
        clear hsu2 HSU hp hRr hr7 hsl hm
        have hM8 := hMr.alloc (pta p) 37
        have hR8 := hR7.alloc (.cells (pta p) 37)
        have hO8 := World.ownsRow.alloc hOr (.cells (pta p) 37)
        go_upto_region 13 with (refine wpl_storeN rfl 37 _ _ rfl _ (pta p) 37 rfl rfl (by rw [hps.out]; kernel_rfl) (by rw [hps.out]; rfl) hpa.out ?_)
        generalize hWe : w7.alloc (.cells (pta p) 37) = w8 at *
        clear hWe
        have hgp : gc < w7.heap.size := hMr.b0.lt
        generalize w7.heap.size = gp at *
        clear hMr hR7 hOr
        obtain ⟨x0, x1, x2⟩ := BlP.three hM8.b0
        obtain ⟨c0, c1', c2, c3, c4⟩ := Blm.five hM8.b1
        have cf4 := hM8.b1.frozen 36
        go_upto_region 14 with (fail)
        have hL9 := litP w8 p
        have hO9 := World.ownsRow.alloc hO8 (.cells (pta p) 37)
        have hM9 := hM8.allocO (.cells (pta p) 37)
        have hR9 := hR8.alloc (.cells (pta p) 37)
        have hgc8 : gc + 1 ≤ w8.heap.size := by have := hM8.b1.lt; omega
        go_wp2_with (first | (refine wpl_loadG rfl 37 _ rfl ⟨gp, 0, none⟩ (pta p) rfl hM8.b0.cells _ Tryz.underlying37 rfl (by rw [hps.out]; kernel_rfl) ?_) | (refine wpl_lit1 rfl _ rfl p rfl ?_) | (at_builtin; refine wpl_parts rfl _ _ rfl (gc + 1) E cE m rfl hO9 (some ⟨w8.heap.size, 0, none⟩) 1 1 [p] rfl rfl hL9 (by rw [hml.out]; simp; omega) (by simp; omega) ?_; intro A10 c10 m10 w10 hm10 hO10 hg10 hb10; have hB10 : Blk w10 gc 46 _ := (hb10.block gc (Nat.lt_succ_self _)).trans hM9.b1; have df4 := hB10.frozen 36; obtain ⟨d0, d1, d2, d3, d4⟩ := Blm.five hB10))
        have hM10 := (hM9.sub (List.sublist_cons_self _ _)).base hb10 (by simp; omega) (by omega) (a := A10.map (·.block)) (fun k hk => hO10.lt k hk) (G' := [some g]) (by simp)
        have hM11 := hM10.set 0 36 (.slice A10 m10.length c10) rfl
        rw [mfa_set] at hM11
        have hR11 := (hR9.apart (C := gc + 1) (by omega) (by omega) hb10).set (k := gc) (i := 36) (by omega) (by omega) (.slice A10 m10.length c10)
        have hO11 := Own.set1 hO10 (g := gc) (i := 36) (Nat.lt_succ_self _) (.slice A10 m10.length c10)
        go_roundw
        case rel => exact ⟨k + 1, A10, c10, m10, hlt, by go_num, by rw [hm10.out, pend_snoc], (show _ = _ from by rw [hm10.out, HS.out]), hM11, by rw [HS.out]; exact hR11, hO11⟩
        case measure => simp [intOf]; omega
      · obtain rfl : k = N := by omega
        have HT1 : Hid (mfTake b = mfEnd (((nu : Int), (f : Int), (tt : Int), (q : Int), d, m), (crLoop k (f : Int) s6).2)) := (show _ = _ from by rw [HT0.out, HC.out, hm.out])
        have hmI : PtsI m := by rw [hm.out]; exact crLoop_I k _ _ (by omega) (by omega)
        have HMI := Lib.hid hmI
        generalize (crLoop k (f : Int) s6).2 = sF at *
        clear HT0 HC hm hmI c0 c1' c2 c3 c4
        have hE := End_s18 hRr
        have hmz := Lib.hid (mfa_size nu f tt q d E m.length cE)
        have hmb := Lib.hid (mfa_all nu f tt q d E m.length cE)
        go_wp2_with fail
        rcases errv_cases (rEnd sF) with ⟨h0, hev⟩ | ⟨k, hk, hke, hev⟩
        · rw [hev] at hE
          have HE := Lib.hid hE
          have HN0 := Lib.hid h0
          clear hE hev h0
          refine HE.out.mono ?_
          rintro e w7 ⟨rfl, rfl⟩
          go_wp2_with (refine wpl_loadG rfl 46 _ rfl ⟨gc, 0, none⟩ (mfa nu f tt q d E m.length cE) rfl hMr.b0.cells _ Tryz.underlying46 rfl (by rw [hmz.out]; kernel_rfl) ?_)
          refine (MCheck_any nu f tt q d m _ (Own.sl hOr) HMI.out).mono ?_
          rintro e w8 ⟨rfl, hb8⟩
          replace hMr := hMr.call hb8
          have hO8 := Own.below hOr hb8
          clear hb8 hRr hOr HE
          rcases errv_cases (mchk ((nu : Int), (f : Int), (tt : Int), (q : Int), d, m)) with ⟨h0, hev⟩ | ⟨k, hk, hke, hev⟩
          · have HT := Lib.hid (show mfTake b = (((nu : Int), (f : Int), (tt : Int), (q : Int), d, m), 0) from by rw [HT1.out]; exact mfEnd_3 HN0.out h0)
            rw [hev]
            clear hev h0
            go_wp2_with (first | (refine wpl_loadG rfl 46 _ rfl ⟨gc, 0, none⟩ (mfa nu f tt q d E m.length cE) rfl hMr.b0.cells _ Tryz.underlying46 rfl (by rw [hmz.out]; kernel_rfl) ?_) | (refine wpList_store_row rfl 46 _ _ rfl w.heap.size (mfa nu f tt q d E m.length cE) rfl rfl 46 mza hMr.b1 (by rw [hmz.out]; kernel_rfl) (by rw [hmz.out, mfa_size]) hmb.out ?_))
            exact bodyPost_ret (res_mf2 rfl rfl (g := w.heap.size) hMr.b1.row) rfl ⟨E, cE, m, by rw [HT.out]; rfl, (show _ = _ from by rw [HT.out]), (Own.wr hO8 (g := w.heap.size) (by omega) (Wr.row _)).more (by omega), below_setRow hMr.bel (Nat.le_refl _) _⟩
          · have HT := Lib.hid (show mfTake b = (mfz, mchk ((nu : Int), (f : Int), (tt : Int), (q : Int), d, m)) from by rw [HT1.out]; exact mfEnd_2 HN0.out (by dsimp only; omega))
            have HEV := Lib.hid hev
            rw [hev]
            have hRes := hMr.b1
            have hw := hMr.bel
            clear hev hke hMr hO8
            go_wp2_with (first | (refine wpl_buildMz rfl rfl ?_) | (refine wpList_store_row rfl 46 _ _ rfl w.heap.size mza rfl rfl 46 mza hRes (by rw [mfa_size]; kernel_rfl) rfl (mfa_all _ _ _ _ _ _ _ _) ?_))
            exact bodyPost_ret (res_mf2 rfl rfl (g := w.heap.size) hRes.row) rfl ⟨none, 0, [], by rw [HT.out]; dsimp only [mfz]; rw [HEV.out]; rfl, (show _ = _ from by rw [HT.out]; rfl), Own.none_ _ _ _ _, below_setRow hw (Nat.le_refl _) _⟩
        · have HT := Lib.hid (show mfTake b = (mfz, rEnd sF) from by rw [HT1.out]; exact mfEnd_1 (by dsimp only; omega))
          have HEV := Lib.hid hev
          rw [hev] at hE
          have HE := Lib.hid hE
          clear hev hke hE
          refine HE.out.mono ?_
          rintro e w7 ⟨rfl, rfl⟩
          have hRes := hMr.b1
          have hw := hMr.bel
          clear hMr hOr
          go_wp2_with (first | (refine wpl_buildMz rfl rfl ?_) | (refine wpList_store_row rfl 46 _ _ rfl w.heap.size mza rfl rfl 46 mza hRes (by rw [mfa_size]; kernel_rfl) rfl (mfa_all _ _ _ _ _ _ _ _) ?_))
          exact bodyPost_ret (res_mf2 rfl rfl (g := w.heap.size) hRes.row) rfl ⟨none, 0, [], by rw [HT.out]; dsimp only [mfz]; rw [HEV.out]; rfl, (show _ = _ from by rw [HT.out]; rfl), Own.none_ _ _ _ _, below_setRow hw (Nat.le_refl _) _⟩
 · have HT := Lib.hid (show mfTake b = (mfz, (fone b).2) from by unfold mfTake; rw [if_pos (by omega)])
   have HEV := Lib.hid hev
   rw [hev]
   have hRes := hM.b0
   have hw := hM.bel
   clear hev hke hfl
   go_wp2_with (first | (refine wpl_buildMz rfl rfl ?_) | (refine wpList_store_row rfl 46 _ _ rfl w.heap.size mza rfl rfl 46 mza hRes (by rw [mfa_size]; kernel_rfl) rfl (mfa_all _ _ _ _ _ _ _ _) ?_))
   exact bodyPost_ret (res_mf2 rfl rfl (g := w.heap.size) hRes.row) rfl ⟨none, 0, [], by rw [HT.out]; dsimp only [mfz]; rw [HEV.out]; rfl, (show _ = _ from by rw [HT.out]; rfl), Own.none_ _ _ _ _, below_setRow hw (Nat.le_refl _) _⟩
end
end Go.Proofs.YtajfnmohlnkncaaGreatDoor
