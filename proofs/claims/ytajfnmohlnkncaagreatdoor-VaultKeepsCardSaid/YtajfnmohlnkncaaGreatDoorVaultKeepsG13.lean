/- WHAT IT HOLDS: sha.Of of one part, sha.Sum: walked. | WHAT IT HOLDS: manifest.Put and manifest.Digest, walked, for any manifest. | WHAT IT HOLDS: chain.last, End, Mark, Head. -/
import Derived.Test.YtajfnmohlnkncaaGreatDoorVaultKeepsG01
import Derived.Test.YtajfnmohlnkncaaGreatDoorVaultKeepsG12
import Derived.Test.YtajfnmohlnkncaaGreatDoorVaultKeepsG09
import Derived.Test.YtajfnmohlnkncaaGreatDoorVaultKeepsG10
import Derived.Deep.DeepCutAuto
import Derived.Deep.CutBlock
import Derived.Test.YtajfnmohlnkncaaGreatDoorVaultKeepsG08
namespace Go.Proofs.YtajfnmohlnkncaaGreatDoor
section
open Go.RowKit Go.Shelf
attribute [local go_sem ↓] Go.wp_at_zero Go.wp_at_succ
attribute [local go_sem] Oper.semAt_some
theorem Shg.row {w : World} (h : Shg w) : ∀ j u, (s8a shaH)[j]? = some u → w.cell? ((⟨0, 0, none⟩ : Addr).add j) = some u := fun j u hj => by
 have hj8 : j < 8 := by
  have := (Array.getElem?_eq_some_iff.1 hj).1
  rw [s8a_size] at this
  exact this
 rw [addr_lit, Nat.zero_add, h.f j hj8, ← hj, s8a_at _ hj8]
section
variable {F : Fence} {n : Nat} {P : Program} {ops : Array Oper} {rest : List Oper} {o : Oper} {a : Act} {w : World} {Q : Exit → Act → World → Prop}
theorem wplIn_loadG (hgd : o.guard = none) (ty : TypeId) (x : Operand) (ho : o.op = .load ty x)
 (ad : Addr) (cs : Array Value) (hx : a.eval x = .pointer (some ad)) (hc : ∀ j u, cs[j]? = some u → w.cell? (ad.add j) = some u) (d : TypeDesc) (hu : P.underlying ty = some d) (hd : (match d with | .struct _ | .array _ _ => true | _ => false) = true) (hi : (P.info? ty).map (·.size) = some cs.size)
 (h : wpListIn F n P ops Q rest (a.put o.dst (.agg cs)) w) : wpListIn F n P ops Q (o :: rest) a w :=
 wpListIn_plain hgd fun K hK => by
  unfold Oper.wpIn
  refine ⟨by simp [Oper.about, ho], ?_⟩
  rw [Oper.semAt_plain F _ _ (by rw [ho]; intro c hc'; cases hc')]
  unfold execOp
  simp only [ho, hx, Instr.loadAt, Instr.sureAddr, Sem.run_bind, Sem.run_pure, Result.andThen_ok, run_loadVar_at w ad ty cs hc d hu hd hi]
  exact hK _ _ h
theorem wplIn_storeRow (hgd : o.guard = none) (ty : TypeId) (x y : Operand) (ho : o.op = .store ty x y)
 (g : Nat) (cells : Array Value) (hx : a.eval x = .pointer (some ⟨g, 0, none⟩)) (hy : a.eval y = .agg cells)
 (t : TypeId) (old : Array Value) (hg : Blk w g t old) (hi : (P.info? ty).map (·.size) = some cells.size) (hold : old.size = cells.size) (h1 : cells.all (·.oneCell') = true)
 (h : wpListIn F n P ops Q rest (a.put o.dst undef) (w.setRow g cells)) : wpListIn F n P ops Q (o :: rest) a w :=
 wpListIn_plain hgd fun K hK => by
  have hs : (splice old.toList 0 cells.toList).toArray = cells := by
   unfold splice
   rw [List.take_zero, List.drop_eq_nil_of_le (by simp; omega)]
   simp
  have hr := run_storeVar_at (P := P) w g 0 t ty old cells hg hi (by omega) h1
  rw [hs] at hr
  unfold Oper.wpIn
  refine ⟨by simp [Oper.about, ho], ?_⟩
  rw [Oper.semAt_plain F _ _ (by rw [ho]; intro c hc'; cases hc')]
  unfold execOp
  simp only [ho, hx, hy, Instr.storeAt, Instr.sureAddr, Sem.run_bind, Sem.run_pure, Result.andThen_ok, hr]
  exact hK _ _ h
end
def blkN (m : List UInt8) (k : Nat) : List UInt8 := (m.drop (64 * k)).take 64
def foldB (m : List UInt8) (K : Nat) (pre : List Nat) : S8 := pre.foldl (fun s x => stp s (blkN m (min x (K - 1)))) shaH
theorem foldB_snoc (m : List UInt8) (K : Nat) (pre : List Nat) (x : Nat) : foldB m K (pre ++ [x]) = stp (foldB m K pre) (blkN m (min x (K - 1))) := by simp [foldB]
theorem foldB_all (m : List UInt8) (K : Nat) : ∀ n, n ≤ K → foldB m K (List.range n) = blks m shaH n
 | 0, _ => rfl
 | n + 1, h => by
  rw [List.range_succ, foldB_snoc, foldB_all m K n (by omega), show min n (K - 1) = n from by omega]
  rfl
theorem SlB.part {W : World} {b o c k n : Nat} {m : List UInt8} (h : SlB W (some ⟨b, o, none⟩) c m) (hk : k + n ≤ m.length) : SlB W (some ⟨b, o + k, none⟩) n ((m.drop k).take n) := by
 have hl : ((m.drop k).take n).length = n := by simp; omega
 refine ⟨by simp, by omega, by have h1 := h.2.1; have h2 := h.2.2.1; omega, (fun h => by cases h), fun j u hj => ⟨_, rfl, ?_⟩⟩
 have hj2 : j < n := by
  have h9 := (List.getElem?_eq_some_iff.1 hj).1
  rw [List.length_map, hl] at h9
  exact h9
 have he : (bvs m)[k + j]? = some u := by
  rw [← hj, List.getElem?_map, List.getElem?_map, List.getElem?_take, if_pos hj2, List.getElem?_drop]
 obtain ⟨ad, hA, hc⟩ := h.2.2.2.2 (k + j) u he
 injection hA with hA
 subst hA
 rw [addr_lit] at hc ⊢
 rw [Nat.add_assoc]
 exact hc
theorem Kg.of_below {n g : Nat} {A B : World} (h : Below A.heap.size A B) (hn : n ≤ A.heap.size) : Kg n g A B := ⟨h.size, fun k h1 _ => h.block k (by omega)⟩
theorem Kg.row (n g : Nat) (A : World) (cs : Array Value) : Kg n g A (A.setRow g cs) := ⟨by simp, fun k _ h2 => setRow_other A g k cs h2⟩
theorem SlB.offR {W : World} {b o c g : Nat} {m : List UInt8} (h : SlB W (some ⟨b, o, none⟩) c m) (hne : b ≠ g) (cs : Array Value) : SlB (W.setRow g cs) (some ⟨b, o, none⟩) c m :=
 ⟨h.1, h.2.1, h.2.2.1, h.2.2.2.1, fun j u hj => by
  obtain ⟨ad, hA, hc⟩ := h.2.2.2.2 j u hj
  injection hA with hA
  subst hA
  refine ⟨_, rfl, ?_⟩
  rw [← hc]
  exact World.cell?_of_block (setRow_other W g _ cs (by rw [addr_add_block]; exact hne))⟩
theorem KeepsOthers.stepRow {W W5 : World} {g : Nat} {t : TypeId} {cs : Array Value} (hB : Blk W g t cs) (hb : Below W.heap.size W W5) (c2 : Array Value) : KeepsOthers W (W5.setRow g c2) :=
 ⟨by have := hb.size; simpa using this, fun k o hk ho => by
  have hlt := (Array.getElem?_eq_some_iff.1 hk).1
  rw [setRow_other W5 g k c2 (fun e => by subst e; rw [show W.heap[k]? = _ from hB] at hk; injection hk with hk; subst hk; cases ho), hb.block k hlt]
  exact hk⟩
def dgp (l : List UInt8) (k : Nat) : List Value := bvs (l.take k ++ List.replicate (32 - k) 0)
theorem dgp_zero (l : List UInt8) : (dgp l 0).toArray = dga dg0 := by unfold dgp dga dg0; simp
theorem dgp_full (l : List UInt8) (h : l.length = 32) : (dgp l 32).toArray = dga ⟨l, h⟩ := by
 unfold dgp dga
 rw [List.take_of_length_le (by omega)]
 simp
theorem dgp_len (l : List UInt8) {k : Nat} (h : l.length = 32) (hk : k ≤ 32) : (dgp l k).length = 32 := by unfold dgp; simp; omega
theorem dgp_step (l : List UInt8) {k : Nat} (h : l.length = 32) (hk : k + 4 ≤ 32) : splice (dgp l k) k (bvs ((l.drop k).take 4)) = dgp l (k + 4) := by
 unfold splice dgp
 rw [← List.map_take, ← List.map_drop, ← List.map_append, ← List.map_append]
 congr 1
 have h1 : (l.take k).length = k := by simp; omega
 have h2 : ((l.drop k).take 4).length = 4 := by simp; omega
 have e1 : (l.take k ++ List.replicate (32 - k) (0 : UInt8)).take k = l.take k := List.take_left' h1
 have e2 : (l.take k ++ List.replicate (32 - k) (0 : UInt8)).drop (k + 4) = List.replicate (32 - (k + 4)) 0 := by
  rw [show 32 - k = 4 + (32 - (k + 4)) from by omega, ← List.replicate_append_replicate, ← List.append_assoc]
  exact List.drop_left' (by simp; omega)
 rw [List.length_map, h2, e1, e2, List.take_add]
 simp
theorem four_part (s : S8) {i : Nat} (h : i < 8) : ((s.l.flatMap four).drop (4 * i)).take 4 = four (s.l.getD i 0) := by
 rcases s8_lt h with rfl | rfl | rfl | rfl | rfl | rfl | rfl | rfl <;> rfl
theorem four_wn (x : W32) : ∃ b0 b1 b2 b3 : UInt8, four x = [b0, b1, b2, b3] ∧ IntKind.u8.wrap (wn x / 16777216) = (b0.toNat : Int) ∧ IntKind.u8.wrap (wn x / 65536) = (b1.toNat : Int) ∧ IntKind.u8.wrap (wn x / 256) = (b2.toNat : Int) ∧ IntKind.u8.wrap (wn x) = (b3.toNat : Int) := by
 refine ⟨_, _, _, _, rfl, ?_, ?_, ?_, ?_⟩
 all_goals
  rw [ofNat_byte]
  have := x.isLt
  show _ % 256 = _
  unfold wn
  omega
structure OfI (w : World) (g b o c K N : Nat) (m : List UInt8) (pre : List Nat) (W : World) : Prop where
 blk : Blk W g 199 (s8a (foldB m K pre))
 sl : SlB W (some ⟨b, o, none⟩) c m
 res : Blk W w.heap.size 35 (dga dg0)
 bel : Below w.heap.size w W
 big : N ≤ W.heap.size
theorem SlB.grownC {W W' : World} {row : Option Nat} {A : Option Addr} {c : Nat} {m : List UInt8} (h : SlB W A c m) (hg : W.grownBy W' row) (hr : ∀ r, row = some r → ∃ o : Obj, W.heap[r]? = some o ∧ o.isCells = false) : SlB W' A c m :=
 ⟨h.1, h.2.1, h.2.2.1, h.2.2.2.1, fun j u hj => by
  obtain ⟨ad, hA, hc⟩ := h.2.2.2.2 j u hj
  exact ⟨ad, hA, cell_kept hc hg hr⟩⟩
theorem OfI.from {w : World} {g b o c K N : Nat} {m : List UInt8} {B : Nat} (hB : w.heap.size ≤ B) : OwnFrom B (OfI w g b o c K N m) := by
 intro s W W' row hs hg hr
 exact ⟨(grownBy_keeps_cells hg (fun r e => (hr r e).2) hs.blk rfl).trans hs.blk, hs.sl.grownC hg (fun r e => (hr r e).2), (grownBy_keeps_cells hg (fun r e => (hr r e).2) hs.res rfl).trans hs.res,
  hs.bel.grown hg hs.bel.size (fun k e => Nat.le_trans hB (hr k e).1), Nat.le_trans hs.big hg.size⟩
set_option maxRecDepth 100000 in
set_option maxHeartbeats 2000000 in
theorem Of_any {A : Option Addr} {c gp : Nat} (t : List UInt8) (w : World) (hG : Shg w) (h : SlB w A c t) (hl : t.length ≤ 1000000) (hp : w.cell? ⟨gp, 0, none⟩ = some (.slice A t.length c)) :
 Calls Tryz.prog 109 #[.slice (some ⟨gp, 0, none⟩) 1 1] w fun e w' => e = .returned (.agg (dga (shaD t))) ∧ Below w.heap.size w w' := by
 have hM := (Mm.start w).alloc (dga dg0) 35
 have hsz0 : (w.alloc (.cells (dga dg0) 35)).heap.size = w.heap.size + 1 := by simp
 have hs8 := Lib.hid (s8a_size shaH)
 have hsa := Lib.hid (s8a_all shaH)
 refine (callsIn_wide (n := 8)).1 ?_
 refine callsIn_of_wp_marks Tryz.func109 rfl trivial ?_ rfl
 simp only [Tryz.ntmps109, List.size_toArray, List.length_cons, List.length_nil, Nat.reduceAdd, Nat.reduceSub, Array.replicate_succ, Array.replicate_zero, List.push_toArray, List.append_toArray, List.nil_append, List.cons_append]
 refine wpIn_wide.2 ?_
 go_upto_region 1 with (fail)
 refine gen1 (T := fun W => Mm w W [(w.heap.size, 35, dga dg0)] []) hM (fun w0 hM => ?_)
 have hM1 := hM.alloc (s8a shaH) 199
 have hlo := hM.bel.size
 have hz1 := hM.b0.lt
 have hrow := (hG.below hM.bel).row
 go_upto_region 2 with (first | (refine wpl_loadG rfl 199 _ rfl ⟨0, 0, none⟩ (s8a shaH) rfl hrow _ Tryz.underlying199 rfl (by rw [hs8.out]; kernel_rfl) ?_) | (refine wpl_storeN rfl 199 _ _ rfl _ (s8a shaH) 199 rfl rfl (by rw [hs8.out]; kernel_rfl) (by rw [hs8.out]; rfl) hsa.out ?_))
 generalize hWe : w0.alloc (.cells (s8a shaH) 199) = w1 at *
 clear hWe hrow
 obtain ⟨g, hg⟩ : ∃ g, w0.heap.size = g := ⟨_, rfl⟩
 rw [hg] at hM1 hz1 hlo ⊢
 clear hM hg
 have hgl := hM1.b0.lt
 go_upto_region 4 with (fail)
 go_wp2_with fail
 go_loopw [15, 4, 5] (fun x y z wr => ∃ (i : Nat) (E : Option Addr) (d : Nat) (r : List UInt8), i ≤ 1 ∧ x = .int .i64 i ∧ y = .slice E r.length d ∧ z = .int .i64 r.length ∧ Hid (r = if i = 0 then [] else t) ∧ OwnB wr (g + 1) 5 E d r ∧ Mm w wr [(g, 199, s8a shaH), (w.heap.size, 35, dga dg0)] []) (fun x _ _ wr => 1 - (intOf x).toNat)
 case atStart => exact ⟨0, none, 0, [], by omega, rfl, rfl, rfl, Lib.hid rfl, Own.none_ _ _ _ _, hM1⟩
 case round =>
  clear hM1 hgl
  obtain ⟨i, E, d, r, hi, rfl, rfl, rfl, hr, ho, hM⟩ := hrel
  rcases Nat.lt_or_ge i 1 with hlt | hge
  · obtain rfl : i = 0 := by omega
    have hr0 : r = [] := by rw [hr.out]; rfl
    subst hr0
    clear hr
    have hpc := (hM.bel.cell (p := ⟨gp, 0, none⟩) (World.block_lt_of_cell? _ _ hp)).trans hp
    have hw1 : IntKind.i64.wrap (0 + (t.length : Int)) = (t.length : Int) := by rw [IntKind.wrap_i64]; omega
    have hgl := hM.b0.lt
    have hln : ([] : List UInt8).length + t.length ≤ 140737488355328 := by simp; omega
    rw [show ((0 : Nat) : Int) = 0 from rfl]
    go_wp2_with (at_builtin; go_must (refine wpl_bytes 52 5 Tryz.underlying52 u8_info rfl _ _ rfl (g + 1) E d [] rfl ho A c t rfl (Sl.below h hM.bel) hln hgl ?_; intro E2 d2 r2 w2 hr2 ho2 _ _ hb2))
    refine ⟨⟨1, E2, d2, r2, by omega, rfl, rfl, by rw [hr2.out]; rfl, (show _ = _ from by rw [hr2.out]; rfl), ho2, hM.above hb2 (by simp; omega) (by omega)⟩, by simp [intOf]⟩
  · obtain rfl : i = 1 := by omega
    have hr1 : r = t := hr.out
    subst hr1
    clear hr
    rw [show ((1 : Nat) : Int) = 1 from rfl]
    have hgl := hM.b0.lt
    have hP := Lib.hid (Pad_any r.length (by omega) wr)
    go_wp2_with fail
    refine hP.out.mono ?_
    clear hP
    rintro e w2 ⟨A2, c2, m2, rfl, hm2, ho2, hb2⟩
    have hM2 := hM.call hb2
    have hor := Own.below ho hb2
    have hgl2 : g + 1 ≤ w2.heap.size := hM2.b0.lt
    have hm2l : m2.length = 9 + padZ r.length := by rw [hm2.out, padT_len]
    have hpz : padZ r.length < 64 := by unfold padZ; omega
    have hln : r.length + m2.length ≤ 140737488355328 := by omega
    have HM2 := Lib.hid hM2
    clear hM hM2 ho hb2 hgl hm2l hpz
    go_wp2_with (at_builtin; go_must (refine wpl_bytes 52 5 Tryz.underlying52 u8_info rfl _ _ rfl (g + 1) E d r rfl hor A2 c2 m2 rfl (Own.sl ho2) hln hgl2 ?_; intro A3 c3 m3 w3 hm3 ho3 _ _ hb3))
    have hM3 := HM2.out.above hb3 (by simp; omega) (by omega)
    have hm3e : Hid (m3 = shaM r) := (show _ = _ from by rw [hm3.out, hm2.out]; rfl)
    clear hm3 hm2 hor ho2 hb3 hgl2 hln HM2
    obtain ⟨K, hK⟩ : ∃ K, m3.length = 64 * K := ⟨m3.length / 64, by
     have h1 := pad_mod r.length
     have h2 : m3.length = r.length + (padT r.length).length := by rw [hm3e.out]; simp [shaM]
     omega⟩
    have hK1 : K ≤ 100000000 ∧ 1 ≤ K := by
     have h2 : m3.length = r.length + (padT r.length).length := by rw [hm3e.out]; simp [shaM]
     rw [padT_len] at h2
     have : padZ r.length < 64 := by unfold padZ; omega
     omega
    have hs3 : SlB w3 A3 c3 m3 := Own.sl ho3
    obtain ⟨b, o, rfl, -⟩ := SlB.at4 (k := 0) hs3 (by omega)
    have hb9 := ho3.lt b rfl
    have hc9 := hs3.2.1
    rw [hK] at hc9 ⊢
    have HC := Lib.hid (Chunk_any (some ⟨b, o, none⟩) (64 * K) c3 w3)
    refine HC.out.mono ?_
    rintro e w4 ⟨rfl, rfl⟩
    clear HC
    have hM4 := (hM3.allocO (.cells #[.slice (some ⟨b, o, none⟩) (64 * K) c3] 52)).allocO (.cells #[.int .i64 64] 3)
    have hs4 : SlB ((w3.alloc (.cells #[.slice (some ⟨b, o, none⟩) (64 * K) c3] 52)).alloc (.cells #[.int .i64 64] 3)) (some ⟨b, o, none⟩) c3 m3 := Sl.below hs3 (bel_alloc (below_new _ _) _)
    have hx1 := ((Blk.new w3 52 #[.slice (some ⟨b, o, none⟩) (64 * K) c3]).alloc (.cells #[.int .i64 64] 3)).cell 0
    have hx2 := (Blk.newAt (w := w3.alloc (.cells #[.slice (some ⟨b, o, none⟩) (64 * K) c3] 52)) (g := w3.heap.size + 1) (by simp) 3 #[.int .i64 64]).cell 0
    have hz4 : ((w3.alloc (.cells #[.slice (some ⟨b, o, none⟩) (64 * K) c3] 52)).alloc (.cells #[.int .i64 64] 3)).heap.size = w3.heap.size + 2 := by simp
    have hg3 := hM3.b0.lt
    have hbl : ((w3.alloc (.cells #[.slice (some ⟨b, o, none⟩) (64 * K) c3] 52)).alloc (.cells #[.int .i64 64] 3)).heap.size = w3.heap.size + 2 := by simp
    generalize (w3.alloc (.cells #[.slice (some ⟨b, o, none⟩) (64 * K) c3] 52)).alloc (.cells #[.int .i64 64] 3) = w4 at *
    obtain ⟨gb, hgb⟩ : ∃ gb, w3.heap.size = gb := ⟨_, rfl⟩
    rw [hgb] at hz4 hx1 hx2 hg3 hb9 ⊢
    clear hM3 hs3 ho3
    have h00 : OfI w g b o c3 K (gb + 2) m3 [] w4 := ⟨hM4.b0, hs4, hM4.b1, hM4.bel, by omega⟩
    have hs8s := fun s => Lib.hid (s8a_size s)
    have hsas := fun s => Lib.hid (s8a_all s)
    go_wp2_with fail
    refine (wpIn_wide (n := 8)).1 ?_
    refine wpIn_rangeFunc_ownF (F := Fence.wide) (n := 8) rfl (by omega) (gf := 159) (lb := #[.pointer (some ⟨gb, 0, none⟩), .pointer (some ⟨gb + 1, 0, none⟩)]) rfl trivial (enters_of Tryz.func159 (by kernel_rfl) rfl)
     (Chunk_stops (8 - 1) (by omega) gb (gb + 2) g b o K c3 hK1.1 hc9 (by omega) (by omega) w4 (by omega) hx1 hx2) (fun h k => h.trans k) (Kg.put (by omega)) (Below.refl _ _) (fun _ => rfl)
     (OfI w g b o c3 K (gb + 2) m3) (fun _ _ _ => False) (OfI.from (by omega)) (fun _ _ _ _ _ hs _ _ => hs) h00 ?a1 ?assign ?body ?done ?stop
    case assign =>
     intro l x W K hK
     gi_wp2
     exact hK
    case body =>
     intro l pre x W hI hlen
     obtain ⟨y, hy⟩ : ∃ y, min x (K - 1) = y := ⟨_, rfl⟩
     have hyK : y < K := by omega
     have hps : SlB W (some ⟨b, o + 64 * y, none⟩) 64 (blkN m3 y) := SlB.part hI.sl (by omega)
     have hpl : (blkN m3 y).length = 64 := by unfold blkN; simp; omega
     have hfs := Lib.hid (foldB_snoc m3 K pre x)
     rw [hy] at hfs ⊢
     have hB := hI.blk
     have hSt := Step_any (foldB m3 K pre) (blkN m3 y) W hps hpl (hG.below hI.bel)
     rw [hpl] at hSt
     generalize blkN m3 y = bk at *
     generalize foldB m3 K pre = s at *
     have HSt := Lib.hid hSt
     have HI := Lib.hid hI
     have hn1 : 1 ≤ 8 - 1 - 1 := by decide
     clear hSt hI hps hpl
     unfold chkS
     gi_wp2_with (first | (refine wplIn_loadG rfl 199 _ rfl ⟨g, 0, none⟩ (s8a s) rfl hB.cells _ Tryz.underlying199 rfl (by rw [(hs8s s).out]; kernel_rfl) ?_) | (refine ⟨trivial, ?_⟩; gi_at_call 135; refine (CallsIn.inRound l (callsIn_wide.2 HSt.out)).mono ?_; rintro e W5 ⟨rfl, hb5⟩; have hB5 := hB.below hb5) | (refine wplIn_storeRow rfl 199 _ _ rfl g (s8a (stp s bk)) rfl rfl 199 (s8a s) hB5 (by rw [(hs8s _).out]; kernel_rfl) (by rw [(hs8s _).out, (hs8s _).out]) (hsas _).out ?_))
     exact ⟨KeepsOthers.stepRow hB hb5 _, (Kg.of_below hb5 (by have := HI.out.big; omega)).trans (Kg.row _ _ _ _),
      ⟨by rw [hfs.out]; exact hB5.row, SlB.offR (Sl.below HI.out.sl hb5) (by omega) _, (HI.out.res.below hb5).rowFar (by omega) _, below_setRow (HI.out.bel.trans (hb5.mono HI.out.bel.size)) (by omega) _, by have h1 := HI.out.big; have h2 := hb5.size; simp; omega⟩⟩
    case done =>
     intro D xs W hD hxs hI hKD
     have hfa : Hid (foldB m3 K xs = shaS r) := (show _ = _ from by
      rw [hxs, foldB_all m3 K K (Nat.le_refl _)]
      unfold shaS
      rw [← hm3e.out, hK, Nat.mul_div_cancel_left _ (by omega)])
     have hB := hI.blk
     have hRes := hI.res
     have hbel := hI.bel
     have hgW := hI.blk.lt
     clear hI hxs
     generalize foldB m3 K xs = s at *
     dsimp only
     have hBd := Blk.new W 35 (dga dg0)
     have hD1 := (Array.getElem?_eq_some_iff.1 hKD).1
     have hBa := hB.alloc (.cells (dga dg0) 35)
     have hRa := hRes.alloc (.cells (dga dg0) 35)
     have hKa : (W.alloc (.cells (dga dg0) 35)).heap[D]? = some (.deferred (some [])) := (Below.heap_alloc _ _ _ hD1).trans hKD
     have hba := bel_alloc hbel (.cells (dga dg0) 35)
     go_upto_region 14 with (fail)
     refine gen1 (T := fun W2 => (Blk W2 g 199 (s8a s) ∧ Blk W2 w.heap.size 35 (dga dg0) ∧ Blk W2 W.heap.size 35 (dga dg0)) ∧ W2.heap[D]? = some (.deferred (some [])) ∧ Below w.heap.size w W2) ⟨⟨hBa, hRa, hBd⟩, hKa, hba⟩ (fun W2 hT => ?_)
     obtain ⟨⟨hB, hRes, hBd⟩, hKD, hbel⟩ := hT
     clear hBa hRa hKa hba
     generalize hgd : W.heap.size = gd at *
     have hfl : (s.l.flatMap four).length = 32 := s.dg.2
     have hsd : Hid (shaD r = s.dg) := (show _ = _ from by unfold shaD; rw [← hfa.out])
     clear hgd hfa
     rw [← dgp_zero (s.l.flatMap four)] at hBd
     go_wp2_with (refine wpl_loadG rfl 199 _ rfl ⟨g, 0, none⟩ (s8a s) rfl hB.cells _ Tryz.underlying199 rfl (by rw [(hs8s s).out]; kernel_rfl) ?_)
     go_loopw [37] (fun x wr => ∃ i : Nat, i ≤ 8 ∧ x = .int .i64 i ∧ Blk wr gd 35 (dgp (s.l.flatMap four) (4 * i)).toArray ∧ Blk wr w.heap.size 35 (dga dg0) ∧ wr.heap[D]? = some (.deferred (some [])) ∧ Below w.heap.size w wr) (fun x _ => 8 - (intOf x).toNat)
     case atStart => exact ⟨0, by omega, rfl, hBd, hRes, hKD, hbel⟩
     case round =>
      clear hB hRes hBd hKD hbel
      obtain ⟨i, hi, rfl, hBd, hRes, hKD, hbel⟩ := hrel
      by_cases hlt : i < 8
      · have hiI : (i : Int) < 8 := by omega
        have hix : ∀ V : World, (Instr.index 199 (.agg (s8a s)) (.int .i64 i)).run Tryz.prog V = .ok (wv (s.l.getD i 0)) V := fun V => ix_word 199 198 Tryz.underlying199 Tryz.underlying198 (by kernel_rfl) _ _ (s8a_at s hlt) hlt V
        have hfp := four_part s hlt
        generalize s.l.getD i 0 = x at *
        obtain ⟨b0, b1, b2, b3, hf4, q0, q1, q2, q3⟩ := four_wn x
        rw [hf4] at hfp
        have HFP := Lib.hid hfp
        have hw4 : IntKind.i64.wrap (4 * (i : Int)) = ((4 * i : Nat) : Int) := by rw [IntKind.wrap_i64]; omega
        have hb1 : 4 * (i : Int) ≤ 32 := by omega
        have hb2 : 0 ≤ 4 * (i : Int) := by omega
        clear hf4 hfp
        have hu8 : (Tryz.prog.info? 5).map (·.size) = some 1 := by kernel_rfl
        have hBd2 := hBd.alloc (.cells #[bv b0, bv b1, bv b2, bv b3] 5)
        have hKl := (Array.getElem?_eq_some_iff.1 hKD).1
        have hgl := hBd.lt
        have hK2 : (wr.alloc (.cells #[bv b0, bv b1, bv b2, bv b3] 5)).heap[D]? = some (.deferred (some [])) := (Below.heap_alloc _ _ _ hKl).trans hKD
        have hbe2 := bel_alloc hbel (.cells #[bv b0, bv b1, bv b2, bv b3] 5)
        have hre2 := hRes.alloc (.cells #[bv b0, bv b1, bv b2, bv b3] 5)
        have hsrc : ∀ j v, (bvs [b0, b1, b2, b3])[j]? = some v → (wr.alloc (.cells #[bv b0, bv b1, bv b2, bv b3] 5)).cell? ((⟨wr.heap.size, 0, none⟩ : Addr).add j) = some v := fun j v hj => (Blk.new wr 5 #[bv b0, bv b1, bv b2, bv b3]).cells j v (by rw [← hj, List.getElem?_toArray]; rfl)
        have hmn : Nat.min 4 (32 - 4 * i) = 4 := by show min 4 (32 - 4 * i) = 4; omega
        have hln := dgp_len (s.l.flatMap four) (k := 4 * i) hfl (by omega)
        have hds := dgp_step (s.l.flatMap four) (k := 4 * i) hfl (by omega)
        rw [HFP.out] at hds
        have HDS := Lib.hid hds
        clear hds hw4
        go_wp2_with (refine wpl_copyK rfl _ _ 52 52 rfl 5 1 Tryz.underlying52 hu8 gd (4 * i) (32 - 4 * i) (32 - 4 * i) ⟨wr.heap.size, 0, none⟩ 4 4 rfl rfl (dgp (s.l.flatMap four) (4 * i)) 35 hBd2 (bvs [b0, b1, b2, b3]) (by rw [hmn]; rfl) hsrc (by rw [hln]; simp; omega) (one_bvs _) gd _ (Below.refl _ _) (Nat.le_refl _) ?_; intro w6 hw6 hb6)
        have hw6b := hw6.out
        rw [HDS.out] at hw6b
        have HW6 := Lib.hid hw6b
        clear hw6b hw6
        have hD2 : D < gd := by omega
        have hK6 := (hb6.block D hD2).trans hK2
        have hR6 := (hb6.block w.heap.size (by omega)).trans hre2
        have hB6 := hbe2.trans (hb6.mono (show w.heap.size ≤ gd by omega))
        clear hK2 hre2 hbe2 hb6 hBd2 hsrc hKD hRes hbel
        go_roundw
        case rel => exact ⟨i + 1, hlt, by go_num, HW6.out, hR6, hK6, hB6⟩
        case measure => simp [intOf]; omega
      · obtain rfl : i = 8 := by omega
        rw [show ((8 : Nat) : Int) = 8 from rfl]
        rw [show 4 * 8 = 32 from rfl, dgp_full _ hfl] at hBd
        have hds := Lib.hid (dga_size s.dg)
        have hda := Lib.hid (dga_all s.dg)
        have hd0 := Lib.hid (dga_size dg0)
        change Blk wr gd 35 (dga s.dg) at hBd
        have hrl := hRes.lt
        have hKR := (setRow_other wr w.heap.size D (dga s.dg) (by omega)).trans hKD
        have hRR := hRes.row (cs := dga s.dg)
        have hbR := below_setRow hbel (Nat.le_refl _) (dga s.dg)
        go_wp2_with (first | (refine wpl_loadG rfl 35 _ rfl ⟨gd, 0, none⟩ (dga s.dg) rfl hBd.cells _ Tryz.underlying35 rfl (by rw [hds.out]; kernel_rfl) ?_) | (refine wpList_store_row rfl 35 _ _ rfl w.heap.size (dga s.dg) rfl rfl 35 (dga dg0) hRes (by rw [hds.out]; kernel_rfl) (by rw [hd0.out, hds.out]) hda.out ?_))
        refine ⟨by simp, .inl ⟨_, _, rfl, run_takeDeferred hKR, ?_⟩⟩
        have hRP : Blk ((wr.setRow w.heap.size (dga s.dg)).putObj D (.deferred none)) w.heap.size 35 (dga s.dg) := (World.putObj_heap_other (by omega)).trans hRR
        refine ⟨_, res_dg rfl rfl hRP, ?_, ?_⟩
        · rw [hsd.out]
        · exact hbR.trans ((Below.refl w.heap.size _).grown (grownBy_putObj' _ D _) (by have := hbR.size; omega) (fun k e => by cases e; omega))
    case stop =>
     intro D c pre W _ _ h _
     exact h.elim
theorem Shg.alloc {w : World} (h : Shg w) (o : Obj) : Shg (w.alloc o) := h.below (below_new w o)
set_option maxRecDepth 100000 in
set_option maxHeartbeats 1000000 in
theorem Sum_any {A : Option Addr} {c : Nat} (t : List UInt8) (w : World) (hG : Shg w) (h : SlB w A c t) (hl : t.length ≤ 1000000) :
 Calls Tryz.prog 76 #[.slice A t.length c] w fun e w' => e = .returned (.agg (dga (shaD t))) ∧ Below w.heap.size w w' := by
 have hM := ((Mm.start w).alloc (dga dg0) 35).alloc #[.slice A t.length c] 52
 rw [show (w.alloc (.cells (dga dg0) 35)).heap.size = w.heap.size + 1 from by simp] at hM
 have hG2 := (hG.alloc (.cells (dga dg0) 35)).alloc (.cells #[.slice A t.length c] 52)
 have hs2 : SlB ((w.alloc (.cells (dga dg0) 35)).alloc (.cells #[.slice A t.length c] 52)) A c t := Sl.below h hM.bel
 have HO := Lib.hid (Of_any t _ hG2 hs2 hl (hM.b0.cell 0))
 have hds := Lib.hid (dga_size (shaD t))
 have hda := Lib.hid (dga_all (shaD t))
 have hd0 := Lib.hid (dga_size dg0)
 generalize shaD t = d at *
 have HM := Lib.hid hM
 clear hM hG2 hs2
 go_enter Tryz.func76, Tryz.ntmps76
 go_wp2_with fail
 refine HO.out.mono ?_
 rintro e w1 ⟨rfl, hb1⟩
 have hM1 := HM.out.call hb1
 clear HO HM hb1
 go_wp2_with (refine wpList_store_row rfl 35 _ _ rfl w.heap.size (dga d) rfl rfl 35 (dga dg0) hM1.b1 (by rw [hds.out]; kernel_rfl) (by rw [hd0.out, hds.out]) hda.out ?_)
 exact bodyPost_ret (res_dg rfl rfl (g := w.heap.size) hM1.b1.row) rfl ⟨rfl, below_setRow hM1.bel (Nat.le_refl _) _⟩
end
section
open Go.RowKit
attribute [local go_sem ↓] Go.wp_at_zero Go.wp_at_succ
def GivesMfb (w0 : World) (x : Mf) (e : Ending) (w' : World) : Prop :=
 ∃ A c m, e = .returned (.tuple #[.slice A (List.length m) c, errv (mchk x)]) ∧ Hid (m = mfput x) ∧ OwnB w' w0.heap.size 5 A c m ∧ Below w0.heap.size w0 w'
set_option maxRecDepth 100000 in
set_option maxHeartbeats 2000000 in
theorem MPut_any {A : Option Addr} {c : Nat} (n f t q : Int) (d : Dg) (ps : List Pt5) (w : World) (h : SlP w A c ps) (hI : PtsI ps) :
 Calls Tryz.prog 45 #[.agg (mfa n f t q d A ps.length c)] w (GivesMfb w (n, f, t, q, d, ps)) := by
 have hB := Blk.new w 46 (mfa n f t q d A ps.length c)
 have hbw := below_new w (.cells (mfa n f t q d A ps.length c) 46)
 have hmz := Lib.hid (mfa_size n f t q d A ps.length c)
 have HC := Lib.hid (MCheck_any n f t q d ps _ (h.below hbw) hI)
 rcases Decidable.em (mchk (n, f, t, q, d, ps) = 0) with h0 | h0
 rotate_left
 · obtain ⟨ev, hev⟩ : ∃ ev : Int, errv (mchk (n, f, t, q, d, ps)) = .iface 60 (.int .i64 ev) := by
    rcases errv_cases (mchk (n, f, t, q, d, ps)) with ⟨h1, -⟩ | ⟨k, -, -, h1⟩
    · exact absurd h1 h0
    · exact ⟨k, h1⟩
   have HP := Lib.hid (show mfput (n, f, t, q, d, ps) = [] from if_neg h0)
   have HE := Lib.hid hev
   rw [hev] at HC
   clear hev h0
   go_enter Tryz.func45, Tryz.ntmps45
   go_upto_region 1 with (fail)
   refine gen1 (T := fun W => Blk W w.heap.size 46 (mfa n f t q d A ps.length c) ∧ Below w.heap.size w W ∧ Hid (Calls Tryz.prog 41 #[.agg (mfa n f t q d A ps.length c)] W fun e w' => e = .returned (.iface 60 (.int .i64 ev)) ∧ Below W.heap.size W w')) ⟨hB, hbw, HC⟩ (fun w0 hT => ?_)
   obtain ⟨hB0, hb0, HC0⟩ := hT
   go_wp2_with (refine wpl_loadG rfl 46 _ rfl ⟨w.heap.size, 0, none⟩ (mfa n f t q d A ps.length c) rfl hB0.cells _ Tryz.underlying46 rfl (by rw [hmz.out]; kernel_rfl) ?_)
   refine HC0.out.mono ?_
   rintro e w1 ⟨rfl, hb1⟩
   have hw1 := bel_call hb0 hb1
   clear HC HC0 hb1
   go_wp2_with fail
   go_ret2
   exact ⟨none, 0, [], by rw [HE.out]; rfl, (show _ = _ from HP.out.symm), Own.none_ _ _ _ _, hw1⟩
 have HP := Lib.hid (show mfput (n, f, t, q, d, ps) = frm (mftxt (n, f, t, q, d, ps)) from if_pos h0)
 have H0 := Lib.hid h0
 have HL := Lib.hid (mftxt_len h0)
 obtain ⟨k1, k2, k3, k4, -, -, k5, k6⟩ := mchk_ok h0
 dsimp only at k1 k2 k3 k4 k5 k6
 have HG := Lib.hid k6
 rw [h0, show errv 0 = Value.nilIface from rfl] at HC
 obtain ⟨nn, hn⟩ : ∃ z : Nat, n = z := ⟨n.toNat, by omega⟩
 obtain ⟨nf, hf⟩ : ∃ z : Nat, f = z := ⟨f.toNat, by omega⟩
 obtain ⟨nt, ht⟩ : ∃ z : Nat, t = z := ⟨t.toNat, by omega⟩
 obtain ⟨nq, hq⟩ : ∃ z : Nat, q = z := ⟨q.toNat, by omega⟩
 subst hn hf ht hq
 have c1 : IntKind.u64.wrap (nn : Int) = (nn : Int) := wrap_u64_of (by unfold U64; omega)
 have c2 : IntKind.u64.wrap (nf : Int) = (nf : Int) := wrap_u64_of (by unfold U64; omega)
 have c3 : IntKind.u64.wrap (nt : Int) = (nt : Int) := wrap_u64_of (by unfold U64; omega)
 have c4 : IntKind.u64.wrap (nq : Int) = (nq : Int) := wrap_u64_of (by unfold U64; omega)
 have c5 : IntKind.u64.wrap (ps.length : Int) = (ps.length : Int) := wrap_u64_of (by unfold U64; omega)
 have Hh := Lib.hid h
 clear h h0 k6
 go_enter Tryz.func45, Tryz.ntmps45
 go_upto_region 1 with (fail)
 refine gen1 (T := fun W => Blk W w.heap.size 46 (mfa nn nf nt nq d A ps.length c) ∧ Below w.heap.size w W ∧ Hid (Calls Tryz.prog 41 #[.agg (mfa nn nf nt nq d A ps.length c)] W fun e w' => e = .returned .nilIface ∧ Below W.heap.size W w')) ⟨hB, hbw, HC⟩ (fun w0 hT => ?_)
 clear hB hbw HC
 obtain ⟨hB0, hb0, HC⟩ := hT
 go_wp2_with (refine wpl_loadG rfl 46 _ rfl ⟨w.heap.size, 0, none⟩ (mfa nn nf nt nq d A ps.length c) rfl hB0.cells _ Tryz.underlying46 rfl (by rw [hmz.out]; kernel_rfl) ?_)
 refine HC.out.mono ?_
 rintro e w1 ⟨rfl, hb1⟩
 have hB1 := Blk.below hB0 hb1
 have hw1 := bel_call hb0 hb1
 clear hB0 hb0 hb1 HC
 obtain ⟨a0, a1, a2, a3, a4⟩ := Blm.five hB1
 have hLn : SlN (w1.alloc (.cells #[.int .u64 nn, .int .u64 nf, .int .u64 nt, .int .u64 nq] 138)) (some ⟨w1.heap.size, 0, none⟩) 4 [nn, nf, nt, nq] := Sl.lits w1 [nv nn, nv nf, nv nt, nv nq] 138 (by simp [maxLen])
 have HLn := Lib.hid hLn
 clear hLn
 go_wp2_with fail
 refine (Put_any none 0 [] _ 4 [nn, nf, nt, nq] _ (by simp) (Sl.none_ _ _) HLn.out (by simp) (by intro z hz; simp at hz; unfold U64; rcases hz with rfl | rfl | rfl | rfl <;> omega)).mono ?_
 rintro e w2 ⟨A2, c2', m2, rfl, hm2, ho2, hb2⟩
 have hB2 := Blk.below (Blk.alloc hB1 (.cells #[.int .u64 nn, .int .u64 nf, .int .u64 nt, .int .u64 nq] 138)) hb2
 have hw2 := bel_call (bel_alloc hw1 (.cells #[.int .u64 nn, .int .u64 nf, .int .u64 nt, .int .u64 nq] 138)) hb2
 have hzz : w1.heap.size + 1 ≤ w2.heap.size := Nat.le_trans (by simp) hb2.size
 have hm2l : m2.length ≤ 40 := by
  rw [hm2.out]
  have l1 := vb_le10 (n := nn) (by omega)
  have l2 := vb_le10 (n := nf) (by omega)
  have l3 := vb_le10 (n := nt) (by omega)
  have l4 := vb_le10 (n := nq) (by omega)
  simp only [vbs, List.flatMap_cons, List.flatMap_nil, List.length_append, List.length_nil]
  omega
 have hb01 : w.heap.size < w1.heap.size := hB1.lt
 clear hB1 hw1 hb2 HLn a0 a1 a2 a3 a4 c1 c2 c3 c4
 go_upto_region 5 with (fail)
 go_cut [5] (fun y wz => ∃ (E' : Option Addr) (n' : Nat) (m' : List UInt8), y = .slice E' (List.length m') n' ∧ Hid (m' = vbs [nn, nf, nt, nq] ++ (d.1 ++ vb ps.length)) ∧ SlB wz E' n' m' ∧ Blk wz w.heap.size 46 (mfa nn nf nt nq d A ps.length c) ∧ Below w.heap.size w wz)
 case first =>
  have ho2b := Own.more (base' := w.heap.size + 1) ho2 (by simp; omega)
  have hst : Blk w2.drew w.heap.size 46 (mfa nn nf nt nq d A ps.length c) ∧ Below w.heap.size w w2.drew := ⟨hB2.drew, hw2.drew⟩
  have hoS := World.ownsRow.drew ho2b
  have hd2 := d.2
  have u5 : U64 ps.length := by unfold U64; omega
  clear hB2 hw2 ho2 ho2b
  refine wp_region_held_drew (S := (fun W => Blk W w.heap.size 46 (mfa nn nf nt nq d A ps.length c) ∧ Below w.heap.size w W)) (by kernel_rfl) ?_ (fun hHeld => ?_)
  · exact hst
  refine gen0 (T := fun W => ((fun W => Blk W w.heap.size 46 (mfa nn nf nt nq d A ps.length c) ∧ Below w.heap.size w W)) W ∧ OwnB W (w.heap.size + 1) 5 A2 c2' m2 ∧ True) ?_ (fun wq1 hT => ?_)
  · exact ⟨by (with_reducible exact hst), by (with_reducible assumption), trivial⟩
  (try clear f0 f1 f2 f3 f4 f5 f6 f7 f8 f9 f10 f11)
  obtain ⟨hHeld, f0, -⟩ := hT
  refine wTk (i := 0) (oi := ⟨some 27, _, _, _, _, _⟩) (v := ?_) rfl ⟨by kernel_rfl, ?_⟩ (by assumption) ?_
  rotate_left
  · (intro wS hSw; (try dsimp only at hSw); obtain ⟨q0, q1, q2, q3, q4⟩ := Blm.five hSw.1; clear hSw; go_simp; (try with_reducible rfl))
  (try simp only [Act.put, pS0, pS1, pS2])
  refine wTk (i := 1) (oi := ⟨some 28, _, _, _, _, _⟩) (v := ?_) rfl ⟨by kernel_rfl, ?_⟩ (by assumption) ?_
  rotate_left
  · (intro wS hSw; (try dsimp only at hSw); obtain ⟨q0, q1, q2, q3, q4⟩ := Blm.five hSw.1; clear hSw; go_simp; (try with_reducible rfl))
  (try simp only [Act.put, pS0, pS1, pS2])
  refine wTk (i := 2) (oi := ⟨some 29, _, _, _, _, _⟩) (v := ?_) rfl ⟨by kernel_rfl, ?_⟩ (by assumption) ?_
  rotate_left
  · (intro wS hSw; (try dsimp only at hSw); obtain ⟨q0, q1, q2, q3, q4⟩ := Blm.five hSw.1; clear hSw; go_simp; (try with_reducible rfl))
  (try simp only [Act.put, pS0, pS1, pS2])
  refine wTk (i := 4) (oi := ⟨some 31, _, _, _, _, _⟩) (v := ?_) rfl ⟨by kernel_rfl, ?_⟩ (by assumption) ?_
  rotate_left
  · (intro wS hSw; (try dsimp only at hSw); obtain ⟨q0, q1, q2, q3, q4⟩ := Blm.five hSw.1; clear hSw; go_simp; (try with_reducible rfl))
  (try simp only [Act.put, pS0, pS1, pS2])
  refine wTk (i := 5) (oi := ⟨some 32, _, _, _, _, _⟩) (v := ?_) rfl ⟨by kernel_rfl, ?_⟩ (by assumption) ?_
  rotate_left
  · (intro wS hSw; (try dsimp only at hSw); obtain ⟨q0, q1, q2, q3, q4⟩ := Blm.five hSw.1; clear hSw; go_simp; (try with_reducible rfl))
  (try simp only [Act.put, pS0, pS1, pS2])
  refine wTk (i := 6) (oi := ⟨some 33, _, _, _, _, _⟩) (v := ?_) rfl ⟨by kernel_rfl, ?_⟩ (by assumption) ?_
  rotate_left
  · (intro wS hSw; (try dsimp only at hSw); obtain ⟨q0, q1, q2, q3, q4⟩ := Blm.five hSw.1; clear hSw; go_simp; (try with_reducible rfl))
  (try simp only [Act.put, pS0, pS1, pS2])
  refine wTk (i := 7) (oi := ⟨some 34, _, _, _, _, _⟩) (v := ?_) rfl ⟨by kernel_rfl, ?_⟩ (by assumption) ?_
  rotate_left
  · (intro wS hSw; (try dsimp only at hSw); obtain ⟨q0, q1, q2, q3, q4⟩ := Blm.five hSw.1; clear hSw; go_simp; (try with_reducible rfl))
  (try simp only [Act.put, pS0, pS1, pS2])
  refine wpAnyH_ready (rs := [3, 8]) (by kernel_rfl) (by simp) ?_
  refine AllReadyH.cons (o := ⟨some 30, _, _, _, _, _⟩) rfl (fun K hK => ?_) ?_
  · (refine step_bytesG 52 5 Tryz.underlying52 u8_info (by kernel_rfl) (.tmp 27) (.tmp 29) rfl (w.heap.size + 1) A2 c2' m2 rfl f0 (some ⟨w.heap.size, 4, none⟩) 32 32 d.1 hd2.symm rfl (SlB.dg hHeld.1) (by omega) (Blk.lt hHeld.1) ?_; intro A8 c8 m8 w8 hm8 ho8 hg8 hb8)
    refine hK.out _ _ ?_ (fun _ => ?_)
    · ((try dsimp only); (exact ⟨(hb8.block w.heap.size (Nat.lt_succ_self _)).trans hHeld.1, hHeld.2.trans (hb8.mono (Nat.le_succ _))⟩))
    clear hK K
    (try simp only [Act.put, pS0, pS1, pS2])
    refine gen0 (T := fun W => ((fun W => Blk W w.heap.size 46 (mfa nn nf nt nq d A ps.length c) ∧ Below w.heap.size w W)) W ∧ OwnB W (w.heap.size + 1) 5 A8 c8 m8 ∧ True) ?_ (fun wq2 hT => ?_)
    · exact ⟨by (exact ⟨(hb8.block w.heap.size (Nat.lt_succ_self _)).trans hHeld.1, hHeld.2.trans (hb8.mono (Nat.le_succ _))⟩), by (with_reducible assumption), trivial⟩
    (try clear f0 f1 f2 f3 f4 f5 f6 f7 f8 f9 f10 f11)
    obtain ⟨hHeld, f0, -⟩ := hT
    refine wR1 (i := 8) (o := ⟨some 35, _, _, _, _, _⟩) rfl (fun K hK => ?_)
    go_simp
    refine hK.out _ _ ?_ (fun _ => ?_)
    · ((try dsimp only); (exact ⟨Blk.alloc hHeld.1 _, bel_alloc hHeld.2 _⟩))
    clear hK K
    (try simp only [Act.put, pS0, pS1, pS2])
    refine gen0 (T := fun W => ((fun W => Blk W w.heap.size 46 (mfa nn nf nt nq d A ps.length c) ∧ Below w.heap.size w W)) W ∧ OwnB W (w.heap.size + 1) 5 A8 c8 m8 ∧ Own W w.heap.size 138 1 (some ⟨wq2.heap.size, 0, none⟩) 1 1 [nv ps.length] ∧ True) ?_ (fun wq3 hT => ?_)
    · exact ⟨by (exact ⟨Blk.alloc hHeld.1 _, bel_alloc hHeld.2 _⟩), by (exact Own.below f0 (below_new _ _)), by (exact lit64 hHeld.2.size ps.length), trivial⟩
    (try clear f0 f1 f2 f3 f4 f5 f6 f7 f8 f9 f10 f11)
    obtain ⟨hHeld, f0, f1, -⟩ := hT
    refine wR1 (i := 9) (o := ⟨some 36, _, _, _, _, _⟩) rfl (fun K hK => ?_)
    go_simp
    (refine (Put_any A8 c8 m8 _ 1 [ps.length] _ (by rw [hm8.out, List.length_append]; omega) f0.sl f1.sl (by simp) (by intro z hz; simp at hz; subst hz; exact u5)).mono ?_; rintro e w9 ⟨A9, c9, m9, rfl, hm9, ho9, hb9⟩)
    go_wp2_with fail
    refine hK.out _ _ ?_ (fun _ => ?_)
    · ((try dsimp only); (exact ⟨Blk.below hHeld.1 hb9, bel_call hHeld.2 hb9⟩))
    clear hK K
    (try simp only [Act.put, pS0, pS1, pS2])
    refine gen0 (T := fun W => ((fun W => Blk W w.heap.size 46 (mfa nn nf nt nq d A ps.length c) ∧ Below w.heap.size w W)) W ∧ SlB W A9 c9 m9 ∧ True) ?_ (fun wq4 hT => ?_)
    · exact ⟨by (exact ⟨Blk.below hHeld.1 hb9, bel_call hHeld.2 hb9⟩), by (exact ho9.sl), trivial⟩
    (try clear f0 f1 f2 f3 f4 f5 f6 f7 f8 f9 f10 f11)
    obtain ⟨hHeld, f0, -⟩ := hT
    refine wTk (i := 10) (oi := ⟨some 5, _, _, _, _, _⟩) (v := ?_) rfl ⟨by kernel_rfl, ?_⟩ (by assumption) ?_
    rotate_left
    · (intro wS hSw; (try dsimp only at hSw); obtain ⟨q0, q1, q2, q3, q4⟩ := Blm.five hSw.1; clear hSw; go_simp; (try with_reducible rfl))
    (try simp only [Act.put, pS0, pS1, pS2])
    refine wpAnyH_done (by kernel_rfl) ?_ _
    (go_wp2_with fail; go_meet; exact ⟨A9, c9, m9, rfl, (show _ = _ from by rw [hm9.out, hm8.out, hm2.out]; simp [vbs]), f0, hHeld.1, hHeld.2⟩)
  refine AllReadyH.cons (o := ⟨some 35, _, _, _, _, _⟩) rfl (fun K hK => ?_) ?_
  · go_simp
    refine hK.out _ _ ?_ (fun _ => ?_)
    · ((try dsimp only); (exact ⟨Blk.alloc hHeld.1 _, bel_alloc hHeld.2 _⟩))
    clear hK K
    (try simp only [Act.put, pS0, pS1, pS2])
    refine gen0 (T := fun W => ((fun W => Blk W w.heap.size 46 (mfa nn nf nt nq d A ps.length c) ∧ Below w.heap.size w W)) W ∧ OwnB W (w.heap.size + 1) 5 A2 c2' m2 ∧ Own W w.heap.size 138 1 (some ⟨wq1.heap.size, 0, none⟩) 1 1 [nv ps.length] ∧ True) ?_ (fun wq5 hT => ?_)
    · exact ⟨by (exact ⟨Blk.alloc hHeld.1 _, bel_alloc hHeld.2 _⟩), by (exact Own.below f0 (below_new _ _)), by (exact lit64 hHeld.2.size ps.length), trivial⟩
    (try clear f0 f1 f2 f3 f4 f5 f6 f7 f8 f9 f10 f11)
    obtain ⟨hHeld, f0, f1, -⟩ := hT
    refine wR1 (i := 3) (o := ⟨some 30, _, _, _, _, _⟩) rfl (fun K hK => ?_)
    (refine step_bytesG 52 5 Tryz.underlying52 u8_info (by kernel_rfl) (.tmp 27) (.tmp 29) rfl (w.heap.size + 1) A2 c2' m2 rfl f0 (some ⟨w.heap.size, 4, none⟩) 32 32 d.1 hd2.symm rfl (SlB.dg hHeld.1) (by omega) (Blk.lt hHeld.1) ?_; intro A8 c8 m8 w8 hm8 ho8 hg8 hb8)
    refine hK.out _ _ ?_ (fun _ => ?_)
    · ((try dsimp only); (exact ⟨(hb8.block w.heap.size (Nat.lt_succ_self _)).trans hHeld.1, hHeld.2.trans (hb8.mono (Nat.le_succ _))⟩))
    clear hK K
    (try simp only [Act.put, pS0, pS1, pS2])
    refine gen0 (T := fun W => ((fun W => Blk W w.heap.size 46 (mfa nn nf nt nq d A ps.length c) ∧ Below w.heap.size w W)) W ∧ OwnB W (w.heap.size + 1) 5 A8 c8 m8 ∧ Own W w.heap.size 138 1 (some ⟨wq1.heap.size, 0, none⟩) 1 1 [nv ps.length] ∧ True) ?_ (fun wq6 hT => ?_)
    · exact ⟨by (exact ⟨(hb8.block w.heap.size (Nat.lt_succ_self _)).trans hHeld.1, hHeld.2.trans (hb8.mono (Nat.le_succ _))⟩), by (with_reducible assumption), by (exact Own.other f1 f0 hg8 (by decide)), trivial⟩
    (try clear f0 f1 f2 f3 f4 f5 f6 f7 f8 f9 f10 f11)
    obtain ⟨hHeld, f0, f1, -⟩ := hT
    refine wR1 (i := 9) (o := ⟨some 36, _, _, _, _, _⟩) rfl (fun K hK => ?_)
    go_simp
    (refine (Put_any A8 c8 m8 _ 1 [ps.length] _ (by rw [hm8.out, List.length_append]; omega) f0.sl f1.sl (by simp) (by intro z hz; simp at hz; subst hz; exact u5)).mono ?_; rintro e w9 ⟨A9, c9, m9, rfl, hm9, ho9, hb9⟩)
    go_wp2_with fail
    refine hK.out _ _ ?_ (fun _ => ?_)
    · ((try dsimp only); (exact ⟨Blk.below hHeld.1 hb9, bel_call hHeld.2 hb9⟩))
    clear hK K
    (try simp only [Act.put, pS0, pS1, pS2])
    refine gen0 (T := fun W => ((fun W => Blk W w.heap.size 46 (mfa nn nf nt nq d A ps.length c) ∧ Below w.heap.size w W)) W ∧ SlB W A9 c9 m9 ∧ True) ?_ (fun wq7 hT => ?_)
    · exact ⟨by (exact ⟨Blk.below hHeld.1 hb9, bel_call hHeld.2 hb9⟩), by (exact ho9.sl), trivial⟩
    (try clear f0 f1 f2 f3 f4 f5 f6 f7 f8 f9 f10 f11)
    obtain ⟨hHeld, f0, -⟩ := hT
    refine wTk (i := 10) (oi := ⟨some 5, _, _, _, _, _⟩) (v := ?_) rfl ⟨by kernel_rfl, ?_⟩ (by assumption) ?_
    rotate_left
    · (intro wS hSw; (try dsimp only at hSw); obtain ⟨q0, q1, q2, q3, q4⟩ := Blm.five hSw.1; clear hSw; go_simp; (try with_reducible rfl))
    (try simp only [Act.put, pS0, pS1, pS2])
    refine wpAnyH_done (by kernel_rfl) ?_ _
    (go_wp2_with fail; go_meet; exact ⟨A9, c9, m9, rfl, (show _ = _ from by rw [hm9.out, hm8.out, hm2.out]; simp [vbs]), f0, hHeld.1, hHeld.2⟩)
  exact AllReadyH.nil
 obtain ⟨A5, k5', m5, rfl, hm5, hs5, hB5, hw5⟩ := hcut
 clear hB2 hw2 ho2 hzz hm2l hb01 hm2
 obtain ⟨a0, a1, a2, a3, a4⟩ := Blm.five hB5
 go_wp2_with fail
 clear a0 a1 a2 a3 a4
 go_loopw [40, 5] (fun x y wr => ∃ (k : Nat) (E : Option Addr) (n : Nat) (m : List UInt8), k ≤ ps.length ∧ x = .int .i64 k ∧ y = .slice E m.length n ∧ Hid (m = vbs [nn, nf, nt, nq] ++ (d.1 ++ (vb ps.length ++ (ps.take k).flatMap ptb))) ∧ SlB wr E n m ∧ Blk wr w.heap.size 46 (mfa nn nf nt nq d A ps.length c) ∧ Below w.heap.size w wr) (fun x _ w => ps.length - (intOf x).toNat)
 case atStart => exact ⟨0, A5, k5', m5, Nat.zero_le _, rfl, rfl, (show _ = _ from by rw [hm5.out]; simp), hs5, hB5, hw5⟩
 case round =>
  clear hs5 hB5 hw5 hm5
  obtain ⟨k, E, n, m, hk, rfl, rfl, hm, hsm, hBr, hbr⟩ := hrel
  have hml : m.length ≤ 60000 := by
   rw [hm.out]
   have h1 := ptb_le HG.out k
   have l1 := vb_le10 (n := nf) (by omega)
   have l2 := vb_le10 (n := nn) (by omega)
   have l3 := vb_le10 (n := nt) (by omega)
   have l4 := vb_le10 (n := nq) (by omega)
   have l5 := vb_le10 (n := ps.length) (by omega)
   have l6 := d.2
   simp only [vbs, List.flatMap_cons, List.flatMap_nil, List.length_append, List.length_nil]
   omega
  by_cases hlt : k < ps.length
  · have hI1 : (k : Int) < (ps.length : Int) := by omega
    obtain ⟨ad, b, o, rfl, had, hcc⟩ := (Hh.out.below hbr).at hlt
    obtain ⟨⟨g1, g2⟩, g3, g4⟩ := pgo_at hlt HG.out
    have HNx := Lib.hid (ptb_take hlt)
    generalize ps[k] = p at *
    obtain ⟨nm, hnm⟩ : ∃ n : Nat, p.2.1.toNat = n := ⟨_, rfl⟩
    obtain ⟨nz, hnz⟩ : ∃ n : Nat, p.2.2.1.toNat = n := ⟨_, rfl⟩
    have c6 : IntKind.u64.wrap p.2.1 = (nm : Int) := by
     rw [show p.2.1 = (nm : Int) by omega]
     exact wrap_u64_of (by unfold U64; omega)
    have c7 : IntKind.u64.wrap p.2.2.1 = (nz : Int) := by
     rw [show p.2.2.1 = (nz : Int) by omega]
     exact wrap_u64_of (by unfold U64; omega)
    have u6 : U64 nm := by unfold U64; omega
    have u7 : U64 nz := by unfold U64; omega
    have HPb := Lib.hid (show ptb p = vb nm ++ (vb nz ++ p.2.2.2.1) from by unfold ptb; rw [hnm, hnz])
    have hX := Blk.new wr 37 (pta p)
    obtain ⟨x0, x1, x2⟩ := BlP.three hX
    have hbx := below_new wr (.cells (pta p) 37)
    have hps := Lib.hid (pta_size p)
    have hpa := Lib.hid (pta_all p)
    have HCC := Lib.hid hcc
    obtain ⟨a0, a1, a2, a3, a4⟩ := Blm.five hBr
    clear hcc g1 g2 g3 g4 hnm hnz
    have hlo := hbr.size
    go_upto_block 1 with (fail)
    go_cut [5] (fun y wz => ∃ (E' : Option Addr) (n' : Nat) (m' : List UInt8), y = .slice E' (List.length m') n' ∧ Hid (m' = m ++ ptb p) ∧ SlB wz E' n' m' ∧ Blk wz w.heap.size 46 (mfa nn nf nt nq d (some ad) ps.length c) ∧ Below w.heap.size w wz)
    case first =>
     go_upto_region 9 with (first | (refine wpl_loadG rfl 37 _ rfl ⟨b, o, none⟩ (pta p) rfl HCC.out _ Tryz.underlying37 rfl (by rw [hps.out]; kernel_rfl) ?_) | (refine wpl_storeN rfl 37 _ _ rfl _ (pta p) 37 rfl rfl (by rw [hps.out]; kernel_rfl) (by rw [hps.out]; rfl) hpa.out ?_))
     have hst : BlP (World.drew (wr.alloc (.cells (pta p) 37))) wr.heap.size p ∧ Blk (World.drew (wr.alloc (.cells (pta p) 37))) w.heap.size 46 (mfa nn nf nt nq d (some ad) ps.length c) ∧ Below w.heap.size w (World.drew (wr.alloc (.cells (pta p) 37))) := ⟨hX.drew, (hBr.alloc _).drew, (bel_call hbr hbx).drew⟩
     have hsm2 : SlB (World.drew (wr.alloc (.cells (pta p) 37))) E n m := Sl.below hsm (show Below wr.heap.size wr (World.drew (wr.alloc (.cells (pta p) 37))) from hbx.drew)
     clear x0 x1 x2 a0 a1 a2 a3 a4 hX hbx hsm hBr
     refine wp_region_held_drew (S := (fun W => BlP W wr.heap.size p ∧ Blk W w.heap.size 46 (mfa nn nf nt nq d (some ad) ps.length c) ∧ Below w.heap.size w W)) (by kernel_rfl) ?_ (fun hHeld => ?_)
     · exact hst
     refine gen0 (T := fun W => ((fun W => BlP W wr.heap.size p ∧ Blk W w.heap.size 46 (mfa nn nf nt nq d (some ad) ps.length c) ∧ Below w.heap.size w W)) W ∧ SlB W E n m ∧ True) ?_ (fun wq1 hT => ?_)
     · exact ⟨by (with_reducible exact hst), by (with_reducible assumption), trivial⟩
     (try clear f0 f1 f2 f3 f4 f5 f6 f7 f8 f9 f10 f11)
     obtain ⟨hHeld, f0, -⟩ := hT
     refine wTk (i := 0) (oi := ⟨some 44, _, _, _, _, _⟩) (v := ?_) rfl ⟨by kernel_rfl, ?_⟩ (by assumption) ?_
     rotate_left
     · (intro wS hSw; (try dsimp only at hSw); obtain ⟨x0, x1, x2⟩ := BlP.three hSw.1; clear hSw; go_simp; (try with_reducible rfl))
     (try simp only [Act.put, pS0, pS1, pS2])
     refine wTk (i := 1) (oi := ⟨some 45, _, _, _, _, _⟩) (v := ?_) rfl ⟨by kernel_rfl, ?_⟩ (by assumption) ?_
     rotate_left
     · (intro wS hSw; (try dsimp only at hSw); obtain ⟨x0, x1, x2⟩ := BlP.three hSw.1; clear hSw; go_simp; (try with_reducible rfl))
     (try simp only [Act.put, pS0, pS1, pS2])
     refine wTk (i := 2) (oi := ⟨some 46, _, _, _, _, _⟩) (v := ?_) rfl ⟨by kernel_rfl, ?_⟩ (by assumption) ?_
     rotate_left
     · (intro wS hSw; (try dsimp only at hSw); obtain ⟨x0, x1, x2⟩ := BlP.three hSw.1; clear hSw; go_simp; (try with_reducible rfl))
     (try simp only [Act.put, pS0, pS1, pS2])
     refine wTk (i := 3) (oi := ⟨some 47, _, _, _, _, _⟩) (v := ?_) rfl ⟨by kernel_rfl, ?_⟩ (by assumption) ?_
     rotate_left
     · (intro wS hSw; (try dsimp only at hSw); obtain ⟨x0, x1, x2⟩ := BlP.three hSw.1; clear hSw; go_simp; (try with_reducible rfl))
     (try simp only [Act.put, pS0, pS1, pS2])
     refine wTk (i := 4) (oi := ⟨some 48, _, _, _, _, _⟩) (v := ?_) rfl ⟨by kernel_rfl, ?_⟩ (by assumption) ?_
     rotate_left
     · (intro wS hSw; (try dsimp only at hSw); obtain ⟨x0, x1, x2⟩ := BlP.three hSw.1; clear hSw; go_simp; (try with_reducible rfl))
     (try simp only [Act.put, pS0, pS1, pS2])
     refine wTk (i := 5) (oi := ⟨some 49, _, _, _, _, _⟩) (v := ?_) rfl ⟨by kernel_rfl, ?_⟩ (by assumption) ?_
     rotate_left
     · (intro wS hSw; (try dsimp only at hSw); obtain ⟨x0, x1, x2⟩ := BlP.three hSw.1; clear hSw; go_simp; (try with_reducible rfl))
     (try simp only [Act.put, pS0, pS1, pS2])
     refine wTk (i := 6) (oi := ⟨some 50, _, _, _, _, _⟩) (v := ?_) rfl ⟨by kernel_rfl, ?_⟩ (by assumption) ?_
     rotate_left
     · (intro wS hSw; (try dsimp only at hSw); obtain ⟨x0, x1, x2⟩ := BlP.three hSw.1; clear hSw; go_simp; (try with_reducible rfl))
     (try simp only [Act.put, pS0, pS1, pS2])
     refine wTk (i := 9) (oi := ⟨some 53, _, _, _, _, _⟩) (v := ?_) rfl ⟨by kernel_rfl, ?_⟩ (by assumption) ?_
     rotate_left
     · (intro wS hSw; (try dsimp only at hSw); obtain ⟨x0, x1, x2⟩ := BlP.three hSw.1; clear hSw; go_simp; (try with_reducible rfl))
     (try simp only [Act.put, pS0, pS1, pS2])
     refine wTk (i := 10) (oi := ⟨some 54, _, _, _, _, _⟩) (v := ?_) rfl ⟨by kernel_rfl, ?_⟩ (by assumption) ?_
     rotate_left
     · (intro wS hSw; (try dsimp only at hSw); obtain ⟨x0, x1, x2⟩ := BlP.three hSw.1; clear hSw; go_simp; (try with_reducible rfl))
     (try simp only [Act.put, pS0, pS1, pS2])
     refine wR1 (i := 7) (o := ⟨some 51, _, _, _, _, _⟩) rfl (fun K hK => ?_)
     go_simp
     refine hK.out _ _ ?_ (fun _ => ?_)
     · ((try dsimp only); (exact ⟨Blk.alloc hHeld.1 _, Blk.alloc hHeld.2.1 _, bel_alloc hHeld.2.2 _⟩))
     clear hK K
     (try simp only [Act.put, pS0, pS1, pS2])
     refine gen0 (T := fun W => ((fun W => BlP W wr.heap.size p ∧ Blk W w.heap.size 46 (mfa nn nf nt nq d (some ad) ps.length c) ∧ Below w.heap.size w W)) W ∧ SlB W E n m ∧ SlN W (some ⟨wq1.heap.size, 0, none⟩) 2 [nm, nz] ∧ True) ?_ (fun wq2 hT => ?_)
     · exact ⟨by (exact ⟨Blk.alloc hHeld.1 _, Blk.alloc hHeld.2.1 _, bel_alloc hHeld.2.2 _⟩), by (exact Sl.below f0 (below_new _ _)), by (exact Sl.lits _ [nv nm, nv nz] 138 (by simp [maxLen])), trivial⟩
     (try clear f0 f1 f2 f3 f4 f5 f6 f7 f8 f9 f10 f11)
     obtain ⟨hHeld, f0, f1, -⟩ := hT
     refine wR1 (i := 8) (o := ⟨some 52, _, _, _, _, _⟩) rfl (fun K hK => ?_)
     go_simp
     (refine (Put_any E n m _ 2 [nm, nz] _ (by omega) f0 f1 (by simp) (by intro z hz; simp at hz; rcases hz with rfl | rfl; exact u6; exact u7)).mono ?_; rintro e w9 ⟨A9, c9, m9, rfl, hm9, ho9, hb9⟩; have hml9 : m9.length ≤ 61000 := (by rw [hm9.out]; have h1 := vb_le10 u6; have h2 := vb_le10 u7; simp only [vbs, List.flatMap_cons, List.flatMap_nil, List.length_append, List.length_nil]; omega))
     go_wp2_with fail
     refine hK.out _ _ ?_ (fun _ => ?_)
     · ((try dsimp only); (exact ⟨Blk.below hHeld.1 hb9, Blk.below hHeld.2.1 hb9, bel_call hHeld.2.2 hb9⟩))
     clear hK K
     (try simp only [Act.put, pS0, pS1, pS2])
     refine gen0 (T := fun W => ((fun W => BlP W wr.heap.size p ∧ Blk W w.heap.size 46 (mfa nn nf nt nq d (some ad) ps.length c) ∧ Below w.heap.size w W)) W ∧ OwnB W (wr.heap.size + 1) 5 A9 c9 m9 ∧ True) ?_ (fun wq3 hT => ?_)
     · exact ⟨by (exact ⟨Blk.below hHeld.1 hb9, Blk.below hHeld.2.1 hb9, bel_call hHeld.2.2 hb9⟩), by (exact Own.more ho9 (Blk.lt hHeld.1)), trivial⟩
     (try clear f0 f1 f2 f3 f4 f5 f6 f7 f8 f9 f10 f11)
     obtain ⟨hHeld, f0, -⟩ := hT
     refine wR1 (i := 11) (o := ⟨some 55, _, _, _, _, _⟩) rfl (fun K hK => ?_)
     (refine step_bytesG 52 5 Tryz.underlying52 u8_info (by kernel_rfl) (.tmp 52) (.tmp 54) rfl (wr.heap.size + 1) A9 c9 m9 rfl f0 (some ⟨wr.heap.size, 3, none⟩) 32 32 p.2.2.2.1 p.2.2.2.2.symm rfl (SlB.dgP hHeld.1) (by rw [p.2.2.2.2]; omega) (Blk.lt hHeld.1) ?_; intro A8 c8 m8 w8 hm8 ho8 hg8 hb8)
     refine hK.out _ _ ?_ (fun _ => ?_)
     · ((try dsimp only); (exact ⟨(hb8.block _ (Nat.lt_succ_self _)).trans hHeld.1, (hb8.block _ (by omega)).trans hHeld.2.1, hHeld.2.2.trans (hb8.mono (by omega))⟩))
     clear hK K
     (try simp only [Act.put, pS0, pS1, pS2])
     refine gen0 (T := fun W => ((fun W => BlP W wr.heap.size p ∧ Blk W w.heap.size 46 (mfa nn nf nt nq d (some ad) ps.length c) ∧ Below w.heap.size w W)) W ∧ SlB W A8 c8 m8 ∧ True) ?_ (fun wq4 hT => ?_)
     · exact ⟨by (exact ⟨(hb8.block _ (Nat.lt_succ_self _)).trans hHeld.1, (hb8.block _ (by omega)).trans hHeld.2.1, hHeld.2.2.trans (hb8.mono (by omega))⟩), by (exact ho8.sl), trivial⟩
     (try clear f0 f1 f2 f3 f4 f5 f6 f7 f8 f9 f10 f11)
     obtain ⟨hHeld, f0, -⟩ := hT
     refine wTk (i := 12) (oi := ⟨some 5, _, _, _, _, _⟩) (v := ?_) rfl ⟨by kernel_rfl, ?_⟩ (by assumption) ?_
     rotate_left
     · (intro wS hSw; (try dsimp only at hSw); obtain ⟨x0, x1, x2⟩ := BlP.three hSw.1; clear hSw; go_simp; (try with_reducible rfl))
     (try simp only [Act.put, pS0, pS1, pS2])
     refine wpAnyH_done (by kernel_rfl) ?_ _
     go_wp2_with fail
     go_meet
     exact ⟨A8, c8, m8, rfl, (show _ = _ from by rw [hm8.out, hm9.out, HPb.out]; simp [vbs, List.append_assoc]), f0, hHeld.2.1, hHeld.2.2⟩
    obtain ⟨E', n', m', rfl, hm', hs', hB', hb'⟩ := hcut
    clear x0 x1 x2 a0 a1 a2 a3 a4 hX hbx hsm hBr
    go_wp2_with fail
    go_roundw
    case rel => exact ⟨k + 1, E', n', m', hlt, by go_num, rfl, (show _ = _ from by rw [hm'.out, hm.out, HNx.out]; simp only [List.append_assoc]), hs', hB', hb'⟩
    case measure => simp [intOf]; omega
  · have hI1 : (ps.length : Int) ≤ (k : Int) := by omega
    have hcm : mftxt ((nn : Int), (nf : Int), (nt : Int), (nq : Int), d, ps) = m := by
     rw [hm.out, List.take_of_length_le (by omega)]
     unfold mftxt
     simp [vbs, List.append_assoc]
    have HCm := Lib.hid hcm
    have hfp : fput [] m = (frm m, 0) := by
     unfold fput
     rw [if_neg (by omega)]
     rfl
    have HFp := Lib.hid hfp
    obtain ⟨a0, a1, a2, a3, a4⟩ := Blm.five hBr
    clear hcm hfp
    go_wp2_with fail
    refine (FPut_any none 0 [] E n m _ (by simp) (Sl.none_ _ _) hsm (by omega)).mono ?_
    rintro e w6 ⟨A6, c6, m6, he, hm6, ho6, hb6⟩
    rw [HFp.out] at he hm6
    dsimp only at he hm6
    rw [show errv 0 = .nilIface from rfl] at he
    subst he
    have HR := Lib.hid (show GivesMfb w ((nn : Int), (nf : Int), (nt : Int), (nq : Int), d, ps) (.returned (.tuple #[.slice A6 (List.length m6) c6, .nilIface])) w6 from ⟨A6, c6, m6, by rw [H0.out]; rfl, (show _ = _ from by rw [hm6.out, HP.out, HCm.out]), Own.more ho6 hbr.size, bel_call hbr hb6⟩)
    clear ho6 hb6 hm6
    go_wp2_with fail
    go_ret2
    exact HR.out
def mfdig (x : Mf) : Dg × Nat := if mchk x = 0 then (shaD (mfput x), 0) else (dg0, mchk x)
theorem res_dgM2 {fn : Func} {a b : Nat} {tmps : Array Value} {w : World} {g : Nat} {d : Dg} (hres : fn.results = #[.cell a 35, .tmp b]) (ha : tmps.getD a undef = .pointer (some ⟨g, 0, none⟩)) (hB : Blk w g 35 (dga d)) : (results fn tmps).run Tryz.prog w = .ok (.tuple #[.agg (dga d), tmps.getD b undef]) w := by
 have h := run_loadVar_at (P := Tryz.prog) w ⟨g, 0, none⟩ 35 (dga d) hB.cells _ Tryz.underlying35 rfl (by rw [dga_size]; kernel_rfl)
 have ha' : tmps[a]?.getD undef = .pointer (some ⟨g, 0, none⟩) := by simpa using ha
 simp [results, hres, asAddr, h, ha']
theorem built_dgzM : Tryz.prog.built 35 [] = some (dga dg0) := by kernel_rfl
theorem wpl_buildDzM {w : World} {ops : Array Oper} {rest : List Oper} {o : Oper} {a : Act} {Q : Exit → Act → World → Prop} (hgd : Region.wanted o (yielded ops a.tmps) = true) (ho : o.op = .build 35 #[])
 (h : wpList Tryz.prog ops Q rest (a.put o.dst (.agg (dga dg0))) w) : wpList Tryz.prog ops Q (o :: rest) a w := wpList_step fun _ hK => by
 have hl : ((#[] : Array (Nat × Operand)).map fun (i, x) => (i, a.eval x)).toList = [] := by simp
 rw [if_pos hgd]
 refine wp_build 35 _ ho ?_ ?_
 · rw [hl, built_dgzM]; rfl
 · rw [hl, built_dgzM]; exact hK _ _ h
set_option maxRecDepth 100000 in
set_option maxHeartbeats 1000000 in
theorem MDigest_any {A : Option Addr} {c : Nat} (n f t q : Int) (d : Dg) (ps : List Pt5) (w : World) (hG : Shg w) (h : SlP w A c ps) (hI : PtsI ps) :
 Calls Tryz.prog 79 #[.agg (mfa n f t q d A ps.length c)] w fun e w' => e = .returned (.tuple #[.agg (dga (mfdig (n, f, t, q, d, ps)).1), errv (mfdig (n, f, t, q, d, ps)).2]) ∧ Below w.heap.size w w' := by
 have hM := ((Mm.start w).alloc (mfa n f t q d A ps.length c) 46).alloc (dga dg0) 35
 rw [show (w.alloc (.cells (mfa n f t q d A ps.length c) 46)).heap.size = w.heap.size + 1 from by simp] at hM
 have hmz := Lib.hid (mfa_size n f t q d A ps.length c)
 have hds := fun d => Lib.hid (dga_size d)
 have hda := fun d => Lib.hid (dga_all d)
 have HC := Lib.hid (fun W (hh : Below w.heap.size w W) => MPut_any n f t q d ps W (h.below hh) hI)
 have HL := Lib.hid (mfput_len (n, f, t, q, d, ps))
 have HG := Lib.hid (show mfdig (n, f, t, q, d, ps) = if mchk (n, f, t, q, d, ps) = 0 then (shaD (mfput (n, f, t, q, d, ps)), 0) else (dg0, mchk (n, f, t, q, d, ps)) from rfl)
 go_enter Tryz.func79, Tryz.ntmps79
 go_upto_region 1 with (fail)
 refine gen1 (T := fun W => Mm w W [(w.heap.size + 1, 35, dga dg0), (w.heap.size, 46, mfa n f t q d A ps.length c)] []) hM (fun w1 hM => ?_)
 go_wp2_with (refine wpl_loadG rfl 46 _ rfl ⟨w.heap.size, 0, none⟩ (mfa n f t q d A ps.length c) rfl hM.b1.cells _ Tryz.underlying46 rfl (by rw [hmz.out]; kernel_rfl) ?_)
 refine (HC.out _ hM.bel).mono ?_
 rintro e w2 ⟨A1, c1, m1, rfl, hm1, ho1, hb1⟩
 have hM2 := hM.call hb1
 have hs1 : SlB w2 A1 c1 m1 := Own.sl ho1
 clear hM hb1 ho1 HC
 generalize mchk (n, f, t, q, d, ps) = k at *
 rcases errv_cases k with ⟨h0, hev⟩ | ⟨ke, hk1, hke, hev⟩
 · rw [if_pos h0] at HG
   rw [hev]
   have HS := Lib.hid (Sum_any m1 w2 (hG.below hM2.bel) hs1 (by rw [hm1.out]; have := HL.out; omega))
   go_wp2_with fail
   refine HS.out.mono ?_
   clear HS
   rintro e w3 ⟨rfl, hb3⟩
   have hM3 := hM2.call hb3
   rw [hm1.out]
   generalize shaD (mfput (n, f, t, q, d, ps)) = dx at *
   go_wp2_with (refine wpList_store_row rfl 35 _ _ rfl (w.heap.size + 1) (dga dx) rfl rfl 35 (dga dg0) hM3.b0 (by rw [(hds dx).out]; kernel_rfl) (by rw [(hds dg0).out, (hds dx).out]) (hda dx).out ?_)
   exact bodyPost_ret (res_dgM2 rfl rfl (g := w.heap.size + 1) hM3.b0.row) rfl ⟨by rw [HG.out]; rfl, below_setRow hM3.bel (by omega) _⟩
 · rw [if_neg (by omega)] at HG
   rw [hev]
   have HEV := Lib.hid hev
   clear hev hke
   go_wp2_with (first | (refine wpl_buildDzM (by kernel_rfl) rfl ?_) | (refine wpList_store_row rfl 35 _ _ rfl (w.heap.size + 1) (dga dg0) rfl rfl 35 (dga dg0) hM2.b0 (by rw [(hds dg0).out]; kernel_rfl) rfl (hda dg0).out ?_))
   exact bodyPost_ret (res_dgM2 rfl rfl (g := w.heap.size + 1) hM2.b0.row) rfl ⟨by rw [HG.out]; dsimp only; rw [HEV.out]; rfl, below_setRow hM2.bel (by omega) _⟩
end
section
open Go.RowKit Go.Shelf
theorem mva_all (x : MfV) : (mva x).all (·.oneCell') = true := by
 rw [Array.all_eq_true']
 intro v hv
 simp only [mva, mfa, mfl, List.mem_toArray, List.mem_cons, List.mem_append] at hv
 rcases hv with rfl | rfl | rfl | rfl | hv | rfl | hv
 · rfl
 · rfl
 · rfl
 · rfl
 · obtain ⟨b, -, rfl⟩ := List.mem_map.1 hv
   rfl
 · rfl
 · exact (List.not_mem_nil hv).elim
theorem res_mfL {fn : Func} {a : Nat} {tmps : Array Value} {w : World} {g : Nat} {x : MfV} (hres : fn.results = #[.cell a 46]) (ha : tmps.getD a undef = .pointer (some ⟨g, 0, none⟩)) (hB : Blk w g 46 (mva x)) : (results fn tmps).run Tryz.prog w = .ok (.agg (mva x)) w := by
 have h := run_loadVar_at (P := Tryz.prog) w ⟨g, 0, none⟩ 46 (mva x) hB.cells _ Tryz.underlying46 rfl (by rw [mva_size]; kernel_rfl)
 have ha' : tmps[a]?.getD undef = .pointer (some ⟨g, 0, none⟩) := by simpa using ha
 simp [results, hres, asAddr, h, ha']
theorem mvlast_at {l : List MfV} (h : 0 < l.length) : mvlast l = l[l.length - 1] := by
 unfold mvlast
 rw [List.getLast?_eq_getElem?, List.getElem?_eq_getElem (by omega)]
 rfl
set_option maxRecDepth 100000 in
set_option maxHeartbeats 1000000 in
theorem Last_any {E : Option Addr} {cap : Nat} (l : List MfV) (w : World) (h : SlM w E cap l) :
 Calls Tryz.prog 42 #[.slice E l.length cap] w fun e w' => e = .returned (.agg (mva (mvlast l))) ∧ Below w.heap.size w w' := by
 have hM := ((Mm.start w).alloc (mva mvz) 46).alloc (mva mvz) 46
 rw [show (w.alloc (.cells (mva mvz) 46)).heap.size = w.heap.size + 1 from by simp] at hM
 have hms := fun x => Lib.hid (mva_size x)
 have hma := fun x => Lib.hid (mva_all x)
 have hmax := h.1.2.1
 have hmax2 := h.1.2.2.1
 unfold maxLen at hmax2
 rcases Nat.eq_zero_or_pos l.length with h0 | h0
 · obtain rfl : l = [] := List.length_eq_zero_iff.1 h0
   clear h0
   rw [show mvlast ([] : List MfV) = mvz from rfl]
   go_enter Tryz.func42, Tryz.ntmps42
   go_upto_region 2 with (fail)
   refine gen1 (T := fun W => Mm w W [(w.heap.size + 1, 46, mva mvz), (w.heap.size, 46, mva mvz)] []) hM (fun w1 hM => ?_)
   go_wp2_with (first | (refine wpl_loadG rfl 46 _ rfl ⟨w.heap.size + 1, 0, none⟩ (mva mvz) rfl hM.b0.cells _ Tryz.underlying46 rfl (by rw [(hms mvz).out]; kernel_rfl) ?_) | (refine wpList_store_row rfl 46 _ _ rfl w.heap.size (mva mvz) rfl rfl 46 (mva mvz) hM.b1 (by rw [(hms mvz).out]; kernel_rfl) rfl (hma mvz).out ?_))
   exact bodyPost_ret (res_mfL rfl rfl (g := w.heap.size) hM.b1.row) rfl ⟨rfl, below_setRow hM.bel (by omega) _⟩
 · have hat := fun (W : World) (hW : Below w.heap.size w W) => (h.below hW).at (k := l.length - 1) (by omega)
   rw [mvlast_at h0]
   have hlm : ((l.length : Int) == 0) = false := by rw [beq_eq_false_iff_ne]; omega
   have hix : (l.length : Int) - 1 = ((l.length - 1 : Nat) : Int) := by omega
   generalize l[l.length - 1] = x at *
   clear h
   go_enter Tryz.func42, Tryz.ntmps42
   go_upto_region 2 with (fail)
   refine gen1 (T := fun W => Mm w W [(w.heap.size + 1, 46, mva mvz), (w.heap.size, 46, mva mvz)] []) hM (fun w1 hM => ?_)
   obtain ⟨ad, b, o, rfl, had, hcc⟩ := hat w1 hM.bel
   have HCC := Lib.hid hcc
   clear hcc hat
   go_wp2_with (first | (refine wpl_loadG rfl 46 _ rfl ⟨b, o, none⟩ (mva x) rfl HCC.out _ Tryz.underlying46 rfl (by rw [(hms x).out]; kernel_rfl) ?_) | (refine wpList_store_row rfl 46 _ _ rfl w.heap.size (mva x) rfl rfl 46 (mva mvz) hM.b1 (by rw [(hms x).out]; kernel_rfl) (by rw [(hms mvz).out, (hms x).out]) (hma x).out ?_))
   exact bodyPost_ret (res_mfL rfl rfl (g := w.heap.size) hM.b1.row) rfl ⟨rfl, below_setRow hM.bel (by omega) _⟩
theorem field_mvt (n f t r : Int) (A : Option Addr) (k c : Nat) (w : World) : ∀ d : Dg, (Instr.field 46 (.agg (mfa n f t r d A k c)) 2).run Tryz.prog w = .ok (.int .i64 t) w := by
 refine dg_cases ?_
 intros
 kernel_rfl
theorem field_mvr (n f t r : Int) (A : Option Addr) (k c : Nat) (w : World) : ∀ d : Dg, (Instr.field 46 (.agg (mfa n f t r d A k c)) 3).run Tryz.prog w = .ok (.int .i64 r) w := by
 refine dg_cases ?_
 intros
 kernel_rfl
set_option maxRecDepth 100000 in
set_option maxHeartbeats 1000000 in
theorem ChEnd_any {E : Option Addr} {cap : Nat} (l : List MfV) (w : World) (h : SlM w E cap l) :
 Calls Tryz.prog 38 #[.slice E l.length cap] w fun e w' => e = .returned (.int .i64 (cend (mvs l))) ∧ Below w.heap.size w w' := by
 have HC := Lib.hid (Last_any l w h)
 have hf : ∀ W, (Instr.field 46 (.agg (mva (mvlast l))) 2).run Tryz.prog W = .ok (.int .i64 (cend (mvs l))) W := fun W => by
  rw [cend_mvs]
  exact field_mvt _ _ _ _ _ _ _ W _
 generalize mva (mvlast l) = x at *
 generalize cend (mvs l) = y at *
 clear h
 go_enter Tryz.func38, Tryz.ntmps38
 go_wp2_with fail
 refine HC.out.mono ?_
 rintro e w1 ⟨rfl, hb1⟩
 go_wp2_with fail
 go_ret
 exact ⟨rfl, hb1⟩
set_option maxRecDepth 100000 in
set_option maxHeartbeats 1000000 in
theorem ChMark_any {E : Option Addr} {cap : Nat} (l : List MfV) (w : World) (h : SlM w E cap l) :
 Calls Tryz.prog 13 #[.slice E l.length cap] w fun e w' => e = .returned (.int .i64 (cmark (mvs l))) ∧ Below w.heap.size w w' := by
 have HC := Lib.hid (Last_any l w h)
 have hf : ∀ W, (Instr.field 46 (.agg (mva (mvlast l))) 3).run Tryz.prog W = .ok (.int .i64 (cmark (mvs l))) W := fun W => by
  rw [cmark_mvs]
  exact field_mvr _ _ _ _ _ _ _ W _
 generalize mva (mvlast l) = x at *
 generalize cmark (mvs l) = y at *
 clear h
 go_enter Tryz.func13, Tryz.ntmps13
 go_wp2_with fail
 refine HC.out.mono ?_
 rintro e w1 ⟨rfl, hb1⟩
 go_wp2_with fail
 go_ret
 exact ⟨rfl, hb1⟩
def mvhead (l : List MfV) : Dg × Nat := if l.length = 0 then (dg0, 0) else mfdig (mvlast l).1
set_option maxRecDepth 100000 in
set_option maxHeartbeats 1000000 in
theorem ChHead_any {E : Option Addr} {cap : Nat} (l : List MfV) (w : World) (hG : Shg w) (h : SlM w E cap l) :
 Calls Tryz.prog 39 #[.slice E l.length cap] w fun e w' => e = .returned (.tuple #[.agg (dga (mvhead l).1), errv (mvhead l).2]) ∧ Below w.heap.size w w' := by
 have hM := (Mm.start w).alloc (dga dg0) 35
 have hds := fun d => Lib.hid (dga_size d)
 have hda := fun d => Lib.hid (dga_all d)
 have hmax := h.1.2.1
 have hmax2 := h.1.2.2.1
 unfold maxLen at hmax2
 rcases Nat.eq_zero_or_pos l.length with h0 | h0
 · obtain rfl : l = [] := List.length_eq_zero_iff.1 h0
   clear h0
   rw [show mvhead [] = (dg0, 0) from rfl]
   go_enter Tryz.func39, Tryz.ntmps39
   go_upto_region 1 with (fail)
   refine gen1 (T := fun W => Mm w W [(w.heap.size, 35, dga dg0)] []) hM (fun w1 hM => ?_)
   go_wp2_with (first | (refine wpl_buildDzM rfl rfl ?_) | (refine wpList_store_row rfl 35 _ _ rfl w.heap.size (dga dg0) rfl rfl 35 (dga dg0) hM.b0 (by rw [(hds dg0).out]; kernel_rfl) rfl (hda dg0).out ?_))
   exact bodyPost_ret (res_dgM2 rfl rfl (g := w.heap.size) hM.b0.row) rfl ⟨rfl, below_setRow hM.bel (by omega) _⟩
 · have hlm : ((l.length : Int) == 0) = false := by rw [beq_eq_false_iff_ne]; omega
   have hx : mvlast l ∈ l := by rw [mvlast_at h0]; exact List.getElem_mem _
   have HL := Lib.hid (fun W (hh : Below w.heap.size w W) => Last_any l W (h.below hh))
   have hsp := (h.2 _ hx).1
   have hpi := (h.2 _ hx).2.2.2.2.2
   rw [show mvhead l = mfdig (mvlast l).1 from if_neg (by omega)]
   have HD := Lib.hid (fun W (hh : Below w.heap.size w W) => MDigest_any (mvlast l).1.1 (mvlast l).1.2.1 (mvlast l).1.2.2.1 (mvlast l).1.2.2.2.1 (mvlast l).1.2.2.2.2.1 (mvlast l).1.2.2.2.2.2 W (hG.below hh) (hsp.below hh) hpi)
   rw [show mfa (mvlast l).1.1 (mvlast l).1.2.1 (mvlast l).1.2.2.1 (mvlast l).1.2.2.2.1 (mvlast l).1.2.2.2.2.1 (mvlast l).2.1 (mvlast l).1.2.2.2.2.2.length (mvlast l).2.2 = mva (mvlast l) from rfl, show ((mvlast l).1.1, (mvlast l).1.2.1, (mvlast l).1.2.2.1, (mvlast l).1.2.2.2.1, (mvlast l).1.2.2.2.2.1, (mvlast l).1.2.2.2.2.2) = (mvlast l).1 from rfl] at HD
   generalize mva (mvlast l) = va at *
   generalize mfdig (mvlast l).1 = g at *
   obtain ⟨gd, ge⟩ := g
   clear hx hsp hpi h hG h0
   go_enter Tryz.func39, Tryz.ntmps39
   go_upto_region 1 with (fail)
   refine gen1 (T := fun W => Mm w W [(w.heap.size, 35, dga dg0)] []) hM (fun w1 hM => ?_)
   go_wp2_with fail
   refine (HL.out _ hM.bel).mono ?_
   rintro e w2 ⟨rfl, hb2⟩
   have hM2 := hM.call hb2
   clear hM hb2
   go_wp2_with fail
   refine (HD.out _ hM2.bel).mono ?_
   rintro e w3 ⟨rfl, hb3⟩
   have hM3 := hM2.call hb3
   clear hM2 hb3 HD HL
   dsimp only
   go_wp2_with (refine wpList_store_row rfl 35 _ _ rfl w.heap.size (dga gd) rfl rfl 35 (dga dg0) hM3.b0 (by rw [(hds gd).out]; kernel_rfl) (by rw [(hds dg0).out, (hds gd).out]) (hda gd).out ?_)
   exact bodyPost_ret (res_dgM2 rfl rfl (g := w.heap.size) hM3.b0.row) rfl ⟨rfl, below_setRow hM3.bel (by omega) _⟩
end
end Go.Proofs.YtajfnmohlnkncaaGreatDoor
