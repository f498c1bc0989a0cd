/- WHAT IT HOLDS: how many bytes files have, walked; which texts are names, walked; a map's copy. | WHAT IT HOLDS: which texts are names, walked. | WHAT IT HOLDS: a disk in memory; what it looks at, counts, and is told, walked. | WHAT IT HOLDS: a change added to a disk, walked. | WHAT IT HOLDS: a file struck from a disk, walked. | WHAT IT HOLDS: a disk made sure, walked. -/
import Derived.Test.YtajfnmohlnkncaaGreatDoorVaultAgreesG13
import Derived.Test.YtajfnmohlnkncaaGreatDoorShelf
import Derived.Test.YtajfnmohlnkncaaGreatDoorVaultAgreesG01
namespace Go.Proofs.YtajfnmohlnkncaaGreatDoor
section
open Go.RowKit Go.Maps Go.Sort
attribute [local go_sem ↓] Go.wp_at_zero Go.wp_at_succ
def gone (left : Lit → Bool) (l : List (Bs × Sv)) : Nat := ((l.filter fun p => !left (.string p.1)).map fun p => p.2.l.length).sum
def svl (s : Sv) : Nat := s.l.length
theorem gone_start (l : List (Bs × Sv)) : gone (Maps.has (dat l)) l = 0 := by
 unfold gone
 have : l.filter (fun p => !Maps.has (dat l) (.string p.1)) = [] := by
  rw [List.filter_eq_nil_iff]
  intro p hp
  have h : (gget p.1 l).isSome = true := by
   cases hg : gget p.1 l with
   | none => exact absurd rfl (gget_none.1 hg p hp)
   | some _ => rfl
  rw [dat_has, h]
  simp
 rw [this]
 rfl
theorem gone_end {left : Lit → Bool} (h : ∀ kl, left kl = false) (l : List (Bs × Sv)) : gone left l = fused svl l := by
 unfold gone fused
 rw [List.filter_eq_self.2 (fun p _ => by rw [h]; rfl)]
 rfl
theorem gone_le (left : Lit → Bool) (l : List (Bs × Sv)) : gone left l ≤ fused svl l := by
 unfold gone fused
 induction l with
 | nil => exact Nat.le_refl _
 | cons y r ih =>
  rw [List.filter_cons]
  split
  · simp only [List.map_cons, List.sum_cons]; unfold svl at *; omega
  · simp only [List.map_cons, List.sum_cons]; unfold svl at *; omega
theorem gone_step {left : Lit → Bool} {k : Bs} {s : Sv} (hl : left (.string k) = true) : ∀ {l : List (Bs × Sv)}, Ris l → (k, s) ∈ l → gone (fun z => left z && !z.sameKey (.string k)) l = gone left l + s.l.length
 | y :: r, hr, hm => by
  obtain ⟨h1, h2⟩ := List.pairwise_cons.1 hr
  have hcons : ∀ (f : Lit → Bool), gone f (y :: r) = (if f (.string y.1) = true then 0 else y.2.l.length) + gone f r := fun f => by
   unfold gone
   rw [List.filter_cons]
   cases f (.string y.1) <;> simp
  rw [hcons, hcons]
  rcases List.mem_cons.1 hm with e | hm
  · subst e
    have hno : gone (fun z => left z && !z.sameKey (.string k)) r = gone left r := by
     unfold gone
     congr 2
     refine List.filter_congr fun p hp => ?_
     have hne : p.1 ≠ k := by
      intro e
      have := h1 p hp
      rw [e, bb_irrefl] at this
      cases this
     have : (Lit.string p.1).sameKey (.string k) = false := by rw [sameKey_str]; exact beq_eq_false_iff_ne.2 hne
     dsimp only
     rw [this]
     simp
    rw [hno]
    dsimp only
    rw [show (Lit.string k).sameKey (.string k) = true from by rw [sameKey_str]; simp]
    simp [hl]
    omega
  · have hne : y.1 ≠ k := by
     intro e
     have := h1 _ hm
     rw [e, bb_irrefl] at this
     cases this
    have : (Lit.string y.1).sameKey (.string k) = false := by rw [sameKey_str]; exact beq_eq_false_iff_ne.2 hne
    rw [gone_step hl h2 hm]
    simp only [this, Bool.not_false, Bool.and_true]
    omega
theorem dat_at_mem {k : Bs} {l : List (Bs × Sv)} {y : DataW Value} (h : ∀ zd, (dat l).atKey (.string k) zd = y) : ∃ s, (k, s) ∈ l ∧ y = .held s.v := by
 cases hg : gget k l with
 | none =>
  have hz : ∀ zd, (dat l).atKey (.string k) zd = zd := fun zd => by
   unfold dat DataW.atKey
   dsimp only
   rw [List.find?_map]
   have hf : ((fun p : Lit × DataW Value => p.1.sameKey (Lit.string k)) ∘ fun p : Bs × Sv => ((Lit.string p.1, DataW.held p.2.v) : Lit × DataW Value)) = fun p => p.1 == k := rfl
   rw [hf]
   unfold gget at hg
   rw [Option.map_eq_none_iff] at hg
   rw [hg]
   rfl
  have h1 := h .nil
  have h2 := h (.agg [])
  rw [hz] at h1 h2
  rw [← h1] at h2
  cases h2
 | some s =>
  refine ⟨s, gget_mem hg, ?_⟩
  rw [← h (.held (.slice none 0 0)), dat_at, hg]
  rfl
theorem wrap_ok {x : Int} (h0 : 0 ≤ x) (h1 : x ≤ 4611686018427387904) : wrap64 x = x ∧ IntKind.i64.wrap x = x := by
 constructor
 · simp only [wrap64]; omega
 · rw [IntKind.wrap_i64]; omega
set_option maxRecDepth 100000 in
set_option maxHeartbeats 1000000 in
theorem Used_any {w : World} {b : Nat} {l : List (Bs × Sv)} (h : OmD w b l) (hr : Ris l) (hs : fused svl l ≤ 4611686018427387904) :
 Calls Tryz.prog 110 #[.map (some b)] w fun e w' => e = .returned (.int .i64 (fused svl l : Nat)) ∧ Below w.heap.size w w' := by
 have hbl : b < w.heap.size := h.lt
 have h0 : w.ownsMap Tryz.prog 9 tok b l.length (dat l) := h
 go_enter Tryz.func110, Tryz.ntmps110
 go_wp2_with (at_range; refine wpList_range_own _ rfl _ 87 rfl 9 52 (string_keyed Tryz.underlying9) Tryz.underlying87 _ b l.length _ rfl h0 ?_; intro w0 hrg0 hg0 hs0)
 go_frame
 clear h0
 go_loopw [3] (fun x wr => ∃ (left : Lit → Bool) (cnt : Nat), wr.ranges Tryz.prog 9 tok b w.heap.size l.length (dat l) left cnt ∧ x = .int .i64 (gone left l : Nat) ∧ Below w.heap.size w wr) (fun x wr => wr.rangeLeft b w.heap.size)
 case atStart => exact ⟨_, _, hrg0, by rw [gone_start]; rfl, ⟨hg0.os, hg0.tape, hg0.output, hg0.size, fun i hi => hg0.block i hi (by simp)⟩⟩
 case round =>
  obtain ⟨left, cnt, hrg, rfl, hbw⟩ := hrel
  have hgl := gone_le left l
  go_wp2_with (at_next; refine wpList_next_ranges _ rfl _ rfl 9 (string_keyed Tryz.underlying9) tok encStr id (fun key kl hk => by obtain ⟨x, hx, _⟩ := Maps.keyOf_str Tryz.underlying9 hk; exact ⟨x, hx⟩) (fun v _ _ => ⟨v, rfl⟩) b w.heap.size l.length _ _ _ rfl hrg ?_ ?_)
  · intro hc0 hl0
    have HG := Lib.hid (gone_end hl0 l)
    go_wp2_with fail
    go_ret
    exact ⟨by rw [HG.out]; rfl, hbw⟩
  · intro x c kl yd yp w2 cnt2 hkey hlk hv hat hrg2 hlt hg2 hs2 hen
    obtain ⟨x', ex, rfl, _⟩ := Maps.keyOf_str Tryz.underlying9 hkey
    obtain rfl : x = x' := encStr_inj ex
    obtain ⟨s, hms, hyd⟩ := dat_at_mem hat
    have hcs : c = s.v := by
     unfold tok at hv
     injection hv with hv
     injection hv with hv _
     rw [hyd] at hv
     injection hv with hv
    subst hcs
    obtain ⟨A, cc, ll⟩ := s
    have HST := Lib.hid (gone_step hlk hr hms)
    have hgl2 := gone_le (fun z => left z && !z.sameKey (.string x)) l
    have hsum : gone left l + ll.length ≤ 4611686018427387904 := by rw [HST.out] at hgl2; dsimp only at hgl2; omega
    obtain ⟨hwr, hwr2⟩ := wrap_ok (x := (gone left l : Nat) + (ll.length : Nat)) (by omega) (by omega)
    have hb2 : Below w.heap.size w w2 := ⟨hg2.os.trans hbw.os, hg2.tape.trans hbw.tape, hg2.output.trans hbw.output, Nat.le_trans hbw.size hg2.size, fun i hi => (hg2.block i (Nat.lt_of_lt_of_le hi hbw.size) (fun e => by injection e; omega)).trans (hbw.block i hi)⟩
    have hen' : (Instr.entry (.pointer (some ⟨w.heap.size, 0, none⟩))).run Tryz.prog w2 = .ok (.tuple #[encStr x, .slice A ll.length cc]) w2 := hen
    clear hs2 hen hat hyd hv hms hgl2 hgl
    go_wp2_with fail
    go_roundw
    case rel => exact ⟨_, _, hrg2, by rw [HST.out]; go_num, hb2⟩
    case measure => rw [hrg2.left_eq, hrg.left_eq]; omega
def signs : Bs := [97, 98, 99, 100, 101, 102, 103, 104, 105, 106, 107, 108, 109, 110, 111, 112, 113, 114, 115, 116, 117, 118, 119, 120, 121, 122, 48, 49, 50, 51, 52, 53, 54, 55, 56, 57, 45, 46, 126]
theorem signs_all : ((List.range 256).all fun n => signs.contains (UInt8.ofNat n) == isSign (UInt8.ofNat n)) = true := by decide +kernel
theorem signs_is (c : UInt8) : signs.contains c = isSign c := by
 have h := List.all_eq_true.1 signs_all c.toNat (List.mem_range.2 (UInt8.toNat_lt c))
 rw [UInt8.ofNat_toNat] at h
 simpa using h
theorem dropWhile_nil {p : UInt8 → Bool} : ∀ {l : Bs}, l.dropWhile p = [] ↔ l.all p = true
 | [] => by simp
 | x :: r => by
  rw [List.dropWhile_cons, List.all_cons]
  cases hx : p x
  · simp
  · simpa using dropWhile_nil (l := r)
theorem trim_nil (l : Bs) : Lib.trimS l signs = [] ↔ l.all isSign = true := by
 have hp : (fun x => signs.contains x) = isSign := funext signs_is
 unfold Lib.trimS Lib.trimRightS Lib.trimLeftS
 rw [hp]
 constructor
 · intro h
   rw [dropWhile_nil, List.all_reverse] at h
   rw [← List.all_reverse, ← dropWhile_nil]
   cases hd : l.reverse.dropWhile isSign with
   | nil => rfl
   | cons y r =>
    rw [hd, List.all_cons, Bool.and_eq_true] at h
    have := List.head?_dropWhile_not isSign l.reverse
    rw [hd] at this
    simp [h.1] at this
 · intro h
   rw [← List.all_reverse, ← dropWhile_nil] at h
   rw [h]
   rfl
set_option maxRecDepth 100000 in
set_option maxHeartbeats 1000000 in
theorem Named_any (s : Bs) (w : World) (hs : s.length ≤ 9223372036854775807) :
 Calls Tryz.prog 97 #[.string ⟨s.toArray⟩] w fun e w' => e = .returned (.bool (named s)) ∧ Below w.heap.size w w' := by
 have hT := fun W => Tryz.strings_Trim_any ⟨s.toArray⟩ ⟨signs.toArray⟩ W (by simpa [ByteArray.size] using (by omega : s.length ≤ 9223372036854775807)) (by decide) (fun j b hb => by
  have hall : ∀ b ∈ signs, b.toNat < 128 := by decide
  exact hall b (List.mem_of_getElem? hb))
 have htn := trim_nil s
 rw [show (⟨s.toArray⟩ : ByteArray).data.toList = s from rfl, show (⟨signs.toArray⟩ : ByteArray).data.toList = signs from rfl] at hT
 generalize Lib.trimS s signs = t at *
 have HT := Lib.hid hT
 have hsz : (ByteArray.size ⟨s.toArray⟩) = s.length := by simp [ByteArray.size]
 clear hT
 rcases Nat.lt_or_ge s.length 1 with h1 | h1
 · have hI : (s.length : Int) < 1 := by omega
   have HN := Lib.hid (show named s = false from by unfold named; simp; omega)
   go_enter Tryz.func97, Tryz.ntmps97
   go_wp2_with fail
   go_ret
   exact ⟨by rw [HN.out]; rfl, Below.refl _ _⟩
 have hI : (1 : Int) ≤ (s.length : Int) := by omega
 rcases Nat.lt_or_ge 24 s.length with h2 | h2
 · have hI2 : (24 : Int) < (s.length : Int) := by omega
   have HN := Lib.hid (show named s = false from by unfold named; simp; omega)
   go_enter Tryz.func97, Tryz.ntmps97
   go_wp2_with fail
   go_ret
   exact ⟨by rw [HN.out]; rfl, Below.refl _ _⟩
 have hI2 : (s.length : Int) ≤ 24 := by omega
 go_enter Tryz.func97, Tryz.ntmps97
 go_wp2_with fail
 refine (HT.out _).mono ?_
 rintro e w2 ⟨rfl, hb2⟩
 cases t with
 | nil =>
  have HN := Lib.hid (show named s = true from by unfold named; simp [htn.1 rfl]; omega)
  go_wp2_with fail
  go_ret
  exact ⟨by rw [HN.out]; rfl, hb2⟩
 | cons y r =>
  have HN := Lib.hid (show named s = false from by
   have : s.all isSign = false := by
    rw [Bool.eq_false_iff]
    intro h
    have := htn.2 h
    cases this
   unfold named
   rw [this]
   simp)
  go_wp2_with fail
  go_ret
  exact ⟨by rw [HN.out]; rfl, hb2⟩
structure Fp where
 g : Nat
 bs : Nat
 bm : Nat
 A : Option Addr
 c : Nat
def Fp.M (q : Fp) (i : Nat) : Prop := i = q.g ∨ i = q.bs ∨ i = q.bm ∨ q.A.map (·.block) = some i
def dka (q : Fp) (d : Dk Sv) : Array Value := #[.int .i64 d.room, .map (some q.bs), .map (some q.bm), .slice q.A d.pend.length q.c, .int .i64 d.fuse, .bool d.down]
def svs (d : Dk Sv) : List Sv := d.sure.map (·.2) ++ d.pend.map (·.val)
def Tc (q : Fp) (d : Dk Sv) (i : Nat) : Prop := q.M i ∨ ∃ s ∈ svs d, s.l ≠ [] ∧ s.A.map (·.block) = some i
structure Dsk (w : World) (q : Fp) (d : Dk Sv) : Prop where
 blk : Blk w q.g 90 (dka q d)
 sure : OmD w q.bs d.sure
 shown : OmD w q.bm d.shown
 pend : Own w 0 119 4 q.A d.pend.length q.c (d.pend.flatMap chl)
 ne : q.bs ≠ q.bm
 rd : ∀ s ∈ svs d, SlB w s.A s.c s.l
 ap : ∀ s ∈ svs d, s.l ≠ [] → ∀ ad, s.A = some ad → ¬ q.M ad.block
 ris : Ris d.sure
 len : ∀ s ∈ svs d, s.l.length ≤ 65536
 nm : (∀ p ∈ d.sure, p.1.length ≤ 24) ∧ ∀ x ∈ d.pend, x.name.length ≤ 24 ∧ x.to.length ≤ 24
structure Frd (q : Fp) (w w' : World) : Prop where
 os : w'.os = w.os
 tape : w'.tape = w.tape
 output : w'.output = w.output
 size : w.heap.size ≤ w'.heap.size
 block : ∀ i, i < w.heap.size → ¬ q.M i → w'.heap[i]? = w.heap[i]?
def Dgo (w : World) (q : Fp) (d d' : Dk Sv) (w' : World) : Prop := ∃ q', q'.g = q.g ∧ Dsk w' q' d' ∧ Frd q w w' ∧ (∀ i, q'.M i → q.M i ∨ w.heap.size ≤ i) ∧ ∀ i, Tc q' d' i → Tc q d i ∨ w.heap.size ≤ i
section
variable {w w' : World} {q : Fp} {d d' : Dk Sv}
theorem Dsk.neg (h : Dsk w q d) : q.bs ≠ q.g ∧ q.bm ≠ q.g := by
 have h1 := h.blk
 obtain ⟨es, cl, hb, _⟩ := h.sure
 obtain ⟨es2, cl2, hb2, _⟩ := h.shown
 constructor
 · intro e
   rw [e] at hb
   rw [show w.heap[q.g]? = _ from h1] at hb
   cases hb
 · intro e
   rw [e] at hb2
   rw [show w.heap[q.g]? = _ from h1] at hb2
   cases hb2
theorem Dsk.negA (h : Dsk w q d) {k : Nat} (hk : q.A.map (·.block) = some k) : k ≠ q.g ∧ k ≠ q.bs ∧ k ≠ q.bm := by
 obtain ⟨es, cl, hb, _⟩ := h.sure
 obtain ⟨es2, cl2, hb2, _⟩ := h.shown
 have h1 := h.blk
 rcases h.pend.2 with ⟨hv, _⟩ | ⟨g1, _, cur, hv, _, hh, _⟩
 · injection hv with hA
   rw [hA] at hk
   cases hk
 · injection hv with hA
   rw [hA] at hk
   injection hk with hk
   dsimp only at hk
   subst hk
   refine ⟨fun e => ?_, fun e => ?_, fun e => ?_⟩
   · rw [e, show w.heap[q.g]? = _ from h1] at hh
     injection hh with hh
     injection hh with _ hh _
     revert hh
     decide
   · rw [e, hb] at hh; cases hh
   · rw [e, hb2] at hh; cases hh
theorem Dsk.ltM (h : Dsk w q d) {i : Nat} (hi : q.M i) : i < w.heap.size := by
 rcases hi with rfl | rfl | rfl | hi
 · exact h.blk.lt
 · exact h.sure.lt
 · exact h.shown.lt
 · exact (Own.lt h.pend i hi).2
theorem Dsk.lt (h : Dsk w q d) {i : Nat} (hi : Tc q d i) : i < w.heap.size := by
 rcases hi with hi | ⟨s, hs, hne, hA⟩
 · exact h.ltM hi
 · obtain ⟨A, c, l⟩ := s
   dsimp only at hne hA
   cases A with
   | none => cases hA
   | some ad =>
    injection hA with hA
    subst hA
    have hl : 0 < l.length := List.length_pos_iff.2 hne
    obtain ⟨ad', e, hc⟩ := Sl.at1 (f := bv) (l := l) (h.rd _ hs) (k := 0) hl
    injection e with e
    subst e
    have := World.block_lt_of_cell? _ _ hc
    rwa [addr_add_block] at this
theorem SlB.sameB {A : Option Addr} {c : Nat} {l : Bs} (h : SlB w A c l) (hs : l ≠ [] → ∀ ad, A = some ad → w'.heap[ad.block]? = w.heap[ad.block]?) : SlB w' A c l :=
 ⟨h.1, h.2.1, h.2.2.1, h.2.2.2.1, fun j u hj => by
  obtain ⟨ad, hA, hc⟩ := h.2.2.2.2 j u hj
  have hne : l ≠ [] := by rintro e; rw [e] at hj; simp at hj
  refine ⟨ad, hA, ?_⟩
  rw [← hc]
  unfold World.cell?
  rw [addr_add_block, hs hne ad hA]⟩
theorem Dsk.frame (h : Dsk w q d) (hf : ∀ i, Tc q d i → w'.heap[i]? = w.heap[i]?) : Dsk w' q d where
 blk := (hf _ (.inl (.inl rfl))).trans h.blk
 sure := h.sure.same (hf _ (.inl (.inr (.inl rfl))))
 shown := h.shown.same (hf _ (.inl (.inr (.inr (.inl rfl)))))
 pend := by
  obtain ⟨h1, h2⟩ := h.pend
  refine ⟨h1, ?_⟩
  rcases h2 with h2 | ⟨g1, cap, cur, hv, hb, hh, r⟩
  · exact .inl h2
  · refine .inr ⟨g1, cap, cur, hv, hb, ?_, r⟩
    injection hv with hA
    exact (hf g1 (.inl (.inr (.inr (.inr (by rw [hA]; rfl)))))).trans hh
 ne := h.ne
 rd := fun s hs => SlB.sameB (h.rd s hs) fun hne ad hA => hf _ (.inr ⟨s, hs, hne, by rw [hA]; rfl⟩)
 ap := h.ap
 ris := h.ris
 len := h.len
 nm := h.nm
theorem Dsk.below (h : Dsk w q d) (hb : Below w.heap.size w w') : Dsk w' q d := h.frame fun i hi => hb.block i (h.lt hi)
theorem Frd.of_below (hb : Below w.heap.size w w') : Frd q w w' := ⟨hb.os, hb.tape, hb.output, hb.size, fun i hi _ => hb.block i hi⟩
theorem Frd.of_wr {k : Nat} (hk : q.M k) (hb : Wr w w' k) : Frd q w w' := ⟨hb.os, hb.tape, hb.output, hb.size, fun i hi hn => hb.block i hi (fun e => by injection e with e; exact hn (e ▸ hk))⟩
theorem Frd.trans {w2 : World} {q2 : Fp} (h : Frd q w w') (k : Frd q2 w' w2) (hq : ∀ i, q2.M i → q.M i ∨ w.heap.size ≤ i) : Frd q w w2 :=
 ⟨k.os.trans h.os, k.tape.trans h.tape, k.output.trans h.output, Nat.le_trans h.size k.size, fun i hi hn => (k.block i (Nat.lt_of_lt_of_le hi h.size) (fun e => by
  rcases hq i e with h1 | h1
  · exact hn h1
  · omega)).trans (h.block i hi hn)⟩
theorem Dsk.turn (h : Dsk w q d) (hB : Blk w' q.g 90 (dka q d')) (hw : Wr w w' q.g) (h1 : d'.sure = d.sure) (h2 : d'.pend = d.pend) : Dsk w' q d' := by
 have hsv : svs d' = svs d := by unfold svs; rw [h1, h2]
 have hn := h.neg
 refine ⟨hB, ?_, ?_, ?_, h.ne, ?_, ?_, ?_, ?_, ?_⟩
 · rw [h1]; exact OmD.wr h.sure hw hn.1
 · have : d'.shown = d.shown := by unfold Dk.shown; rw [h1, h2]
   rw [this]; exact OmD.wr h.shown hw hn.2
 · rw [h2]
   exact World.ownsRow.kept h.pend hw (.inr fun e => (h.negA (by rw [← ownBlock_slice]; exact e)).1 rfl)
 · rw [hsv]
   intro s hs
   refine SlB.sameB (h.rd s hs) fun hne ad hA => hw.block _ ?_ fun e => h.ap s hs hne ad hA (.inl (by injection e))
   exact h.lt (.inr ⟨s, hs, hne, by rw [hA]; rfl⟩)
 · rw [hsv]; exact h.ap
 · rw [h1]; exact h.ris
 · rw [hsv]; exact h.len
 · rw [h1, h2]; exact h.nm
theorem Tc.same (h1 : d'.sure = d.sure) (h2 : d'.pend = d.pend) {i : Nat} (h : Tc q d' i) : Tc q d i := by
 unfold Tc svs at *
 rw [h1, h2] at h
 exact h
theorem Dsk.six (h : Dsk w q d) : w.cell? ⟨q.g, 0, none⟩ = some (.int .i64 d.room) ∧ w.cell? ⟨q.g, 1, none⟩ = some (.map (some q.bs)) ∧ w.cell? ⟨q.g, 2, none⟩ = some (.map (some q.bm)) ∧ w.cell? ⟨q.g, 3, none⟩ = some (.slice q.A d.pend.length q.c) ∧ w.cell? ⟨q.g, 4, none⟩ = some (.int .i64 d.fuse) ∧ w.cell? ⟨q.g, 5, none⟩ = some (.bool d.down) ∧
 w.frozen? ⟨q.g, 1, none⟩ = false ∧ w.frozen? ⟨q.g, 2, none⟩ = false ∧ w.frozen? ⟨q.g, 3, none⟩ = false ∧ w.frozen? ⟨q.g, 4, none⟩ = false ∧ w.frozen? ⟨q.g, 5, none⟩ = false :=
 ⟨h.blk.cell 0, h.blk.cell 1, h.blk.cell 2, h.blk.cell 3, h.blk.cell 4, h.blk.cell 5, h.blk.frozen 1, h.blk.frozen 2, h.blk.frozen 3, h.blk.frozen 4, h.blk.frozen 5⟩
end
set_option maxRecDepth 100000 in
set_option maxHeartbeats 400000 in
theorem Looks_any {w : World} {q : Fp} {d : Dk Sv} (h : Dsk w q d) : Calls Tryz.prog 92 #[.pointer (some ⟨q.g, 0, none⟩)] w fun e w' => e = .returned (errv (if d.down = true then 14 else 0)) ∧ w' = w := by
 obtain ⟨a0, a1, a2, a3, a4, a5, -⟩ := h.six
 obtain ⟨room, sure, pend, fuse, down⟩ := d
 dsimp only at a0 a1 a2 a3 a4 a5 ⊢
 clear h
 cases down
 · go_enter Tryz.func92, Tryz.ntmps92
   go_wp2_with fail
   go_ret
   exact ⟨rfl, rfl⟩
 · go_enter Tryz.func92, Tryz.ntmps92
   go_wp2_with fail
   go_ret
   exact ⟨rfl, rfl⟩
set_option maxRecDepth 100000 in
set_option maxHeartbeats 400000 in
theorem Works_any {w : World} {q : Fp} {d : Dk Sv} (h : Dsk w q d) (hf : -1 ≤ d.fuse ∧ d.fuse ≤ 9223372036854775807) : Calls Tryz.prog 96 #[.pointer (some ⟨q.g, 0, none⟩)] w fun e w' => e = .returned (errv (dWorks d).2) ∧ Dsk w' q (dWorks d).1 ∧ Wr w w' q.g := by
 have hL := Looks_any h
 have H := Lib.hid h
 obtain ⟨a0, a1, a2, a3, a4, a5, af1, af2, af3, af4, af5⟩ := h.six
 obtain ⟨room, sure, pend, fuse, down⟩ := d
 dsimp only at a0 a1 a2 a3 a4 a5 hL hf ⊢
 clear h
 cases down
 case true =>
  have HW := Lib.hid (show dWorks (⟨room, sure, pend, fuse, true⟩ : Dk Sv) = (⟨room, sure, pend, fuse, true⟩, 14) from rfl)
  rw [if_pos rfl, show errv 14 = Value.iface 60 (.int .i64 14) from rfl] at hL
  have HL := Lib.hid hL
  clear hL
  go_enter Tryz.func96, Tryz.ntmps96
  go_wp2_with fail
  refine HL.out.mono ?_
  rintro e w2 ⟨rfl, rfl⟩
  go_wp2_with fail
  go_ret
  exact ⟨by rw [HW.out]; rfl, by rw [HW.out]; exact H.out, Wr.refl _ _⟩
 case false =>
  rw [if_neg (by simp), show errv 0 = Value.nilIface from rfl] at hL
  have HL := Lib.hid hL
  clear hL
  rcases Decidable.em (fuse = 0) with h0 | h0
  · have hb : (fuse == 0) = true := by simp [h0]
    have HW := Lib.hid (show dWorks (⟨room, sure, pend, fuse, false⟩ : Dk Sv) = (⟨room, sure, pend, fuse, true⟩, 14) from by unfold dWorks; simp [h0])
    clear h0 hf
    go_enter Tryz.func96, Tryz.ntmps96
    go_wp2_with fail
    refine HL.out.mono ?_
    rintro e w2 ⟨rfl, rfl⟩
    go_wp2_with fail
    go_ret
    have hT := H.out.turn (d' := ⟨room, sure, pend, fuse, true⟩) (H.out.blk.set_ 5 (.bool true)) ((Wr.refl _ _).set_ 5 (.bool true)) rfl rfl
    exact ⟨by rw [HW.out]; rfl, by rw [HW.out]; exact hT, (Wr.refl _ _).set_ 5 (.bool true)⟩
  · have hb : (fuse == 0) = false := by simpa using h0
    rcases Decidable.em (0 < fuse) with h1 | h1
    · have HW := Lib.hid (show dWorks (⟨room, sure, pend, fuse, false⟩ : Dk Sv) = (⟨room, sure, pend, fuse - 1, false⟩, 0) from by unfold dWorks; simp [h0, h1])
      have hwr : wrap64 (fuse - 1) = fuse - 1 := by simp only [wrap64]; omega
      have hwr2 : IntKind.i64.wrap (fuse - 1) = fuse - 1 := by rw [IntKind.wrap_i64]; omega
      clear h0 hf
      go_enter Tryz.func96, Tryz.ntmps96
      go_wp2_with fail
      refine HL.out.mono ?_
      rintro e w2 ⟨rfl, rfl⟩
      go_wp2_with fail
      go_ret
      have hT := H.out.turn (d' := ⟨room, sure, pend, fuse - 1, false⟩) (H.out.blk.set_ 4 (.int .i64 (fuse - 1))) ((Wr.refl _ _).set_ 4 (.int .i64 (fuse - 1))) rfl rfl
      exact ⟨by rw [HW.out]; rfl, by rw [HW.out]; exact hT, (Wr.refl _ _).set_ 4 (.int .i64 (fuse - 1))⟩
    · have HW := Lib.hid (show dWorks (⟨room, sure, pend, fuse, false⟩ : Dk Sv) = (⟨room, sure, pend, fuse, false⟩, 0) from by unfold dWorks; simp [h0, h1])
      clear h0 hf
      go_enter Tryz.func96, Tryz.ntmps96
      go_wp2_with fail
      refine HL.out.mono ?_
      rintro e w2 ⟨rfl, rfl⟩
      go_wp2_with fail
      go_ret
      exact ⟨by rw [HW.out]; rfl, by rw [HW.out]; exact H.out, Wr.refl _ _⟩
theorem ch_info : (Tryz.prog.info? 119).map (fun i => (i.zero, i.size, i.bytes)) = some (some (.agg #[.int .i64 0, .string ⟨#[]⟩, .string ⟨#[]⟩, .slice none 0 0]), 4, 64) := by kernel_rfl
theorem one_chl (x : Chg Sv) : ∀ u ∈ chl x, u.oneCell' = true := by
 intro u hu
 simp only [chl, Sv.v, List.mem_cons, List.not_mem_nil, or_false] at hu
 rcases hu with rfl | rfl | rfl | rfl <;> rfl
theorem lit_ch (w : World) (x : Chg Sv) : Sl (w.alloc (.cells (cha x) 119)) 4 (some ⟨w.heap.size, 0, none⟩) 1 1 (chl x) :=
 ⟨by simp [chl], by omega, by simp [maxLen], (fun h => by cases h), fun j u hj => ⟨_, rfl, by
  rw [addr_lit, cell_of_row _ _ _ _ 119 (0, 0) (heap_alloc_new w _)]
  simpa [chl] using hj⟩⟩
theorem step_chg {w : World} {ops : Array Oper} {o : Oper} {a : Act} {K : Act → World → Prop} {Q : Exit → Act → World → Prop} {E : Prop} (hw : Region.wanted o (yielded ops a.tmps) = true) (s x : Operand)
 (ho : o.op = .call { callee := .builtin .append, args := #[s, x], argTypes := #[88, 88] })
 (A : Option Addr) (n c : Nat) (xs : List Value) (hs : a.eval s = .slice A n c) (hown : Own w 0 119 4 A n c xs) (hn : n ≤ 100000000)
 (A2 : Option Addr) (y : Chg Sv) (hx : a.eval x = .slice A2 1 1) (hr : Sl w 4 A2 1 1 (chl y))
 (h : ∀ A' c' w', Own w' 0 119 4 A' (n + 1) c' (xs ++ chl y) → w.grownBy w' (A.map (·.block)) → (A'.map (·.block) = A.map (·.block) ∨ A'.map (·.block) = some w.heap.size) → K (a.put o.dst (.slice A' (n + 1) c')) w') :
 if Region.wanted o (yielded ops a.tmps) = true then Oper.wp Tryz.prog o a w K Q else E := by
 obtain ⟨i0, hi, hz0, hz1, hz2⟩ := info_parts ch_info
 refine step_append hw s x 88 ho 0 119 i0 _ 4 64 Tryz.underlying88 hi hz0 hz1 hz2 rfl (by decide) A n c xs hs hown A2 1 1 (chl y) hx hr (one_chl y) (by omega) (by unfold maxLen; omega) (Nat.zero_le _) ?_
 intro A' c' w' hap
 exact h A' c' w' hap.own hap.grown hap.place
structure AdC (w W : World) (q : Fp) (d : Dk Sv) (x : Chg Sv) : Prop where
 bx : Blk W w.heap.size 119 (cha x)
 fr : Frd q w W
 s : OmD W q.bs d.sure
 m : OmD W q.bm d.shown
 k0 : ∀ i, q.M i → i < w.heap.size
 k1 : q.bs ≠ q.g ∧ q.bm ≠ q.g
 k2 : ∀ k, q.A.map (·.block) = some k → k ≠ q.g ∧ k ≠ q.bs ∧ k ≠ q.bm
section
variable {w W W' : World} {q : Fp} {d : Dk Sv} {x : Chg Sv}
theorem Frd.wr2 {k : Option Nat} (h : Frd q w W) (hb : W.grownBy W' k) (hk : ∀ j, k = some j → q.M j ∨ w.heap.size ≤ j) : Frd q w W' :=
 ⟨hb.os.trans h.os, hb.tape.trans h.tape, hb.output.trans h.output, Nat.le_trans h.size hb.size, fun i hi hn => (hb.block i (Nat.lt_of_lt_of_le hi h.size) (fun e => by
  rcases hk i e.symm with h1 | h1
  · exact hn h1
  · omega)).trans (h.block i hi hn)⟩
theorem AdC.drew (h : AdC w W q d x) : AdC w W.drew q d x := ⟨h.bx.drew, ⟨h.fr.os, h.fr.tape, h.fr.output, h.fr.size, h.fr.block⟩, h.s, h.m, h.k0, h.k1, h.k2⟩
theorem AdC.grown {k : Option Nat} (h : AdC w W q d x) (hb : W.grownBy W' k) (hk : ∀ j, k = some j → q.M j ∧ j ≠ q.bs ∧ j ≠ q.bm) : AdC w W' q d x where
 bx := (hb.block _ h.bx.lt (fun e => by have := h.k0 _ (hk _ e.symm).1; omega)).trans h.bx
 fr := h.fr.wr2 hb fun j e => .inl (hk j e).1
 s := Om.same h.s (hb.block _ h.s.lt (fun e => (hk _ e.symm).2.1 rfl))
 m := Om.same h.m (hb.block _ h.m.lt (fun e => (hk _ e.symm).2.2 rfl))
 k0 := h.k0
 k1 := h.k1
 k2 := h.k2
theorem AdC.alloc (h : AdC w W q d x) (o : Obj) : AdC w (W.alloc o) q d x := h.grown (k := none) (let k := below_new W o; ⟨k.os, k.tape, k.output, k.size, fun i hi _ => k.block i hi⟩) (fun j e => by cases e)
theorem AdC.place {A : Option Addr} (h : AdC w W q d x) (hp : A.map (·.block) = q.A.map (·.block) ∨ A.map (·.block) = some W.heap.size) : (∀ k, A.map (·.block) = some k → k ≠ q.g) ∧ (A.map (·.block) = q.A.map (·.block) ∨ ∃ k, A.map (·.block) = some k ∧ w.heap.size ≤ k) := by
 have hs := h.fr.size
 have hg := h.k0 q.g (.inl rfl)
 rcases hp with hp | hp
 · exact ⟨fun k e => (h.k2 k (by rw [← hp]; exact e)).1, .inl hp⟩
 · exact ⟨fun k e => by rw [hp] at e; injection e with e; omega, .inr ⟨_, hp, hs⟩⟩
theorem Blk.dk3 (h : Blk W q.g 90 (dka q d)) : W.cell? ⟨q.g, 2, none⟩ = some (.map (some q.bm)) ∧ W.cell? ⟨q.g, 3, none⟩ = some (.slice q.A d.pend.length q.c) ∧ W.frozen? ⟨q.g, 3, none⟩ = false := ⟨h.cell 2, h.cell 3, h.frozen 3⟩
theorem AdC.setG (h : AdC w W q d x) (i : Nat) (u : Value) : AdC w (W.setCell ⟨q.g, i, none⟩ u) q d x :=
 h.grown (k := some q.g) ((Wr.refl _ _).set_ i u) (fun j e => by injection e with e; subst e; exact ⟨.inl rfl, h.k1.1.symm, h.k1.2.symm⟩)
theorem Own.setG {A : Option Addr} {n c g i : Nat} {xs : List Value} (h : Own W 0 119 4 A n c xs) (hk : ∀ k, A.map (·.block) = some k → k ≠ g) (u : Value) : Own (W.setCell ⟨g, i, none⟩ u) 0 119 4 A n c xs :=
 World.ownsRow.kept h ((Wr.refl _ _).set_ i u) (.inr fun e => hk _ (by rw [← ownBlock_slice]; exact e) rfl)
theorem Blk.dkAdd (h : Blk W q.g 90 (dka q d)) (x : Chg Sv) (A : Option Addr) (c : Nat) : Blk (W.setCell ⟨q.g, 3, none⟩ (.slice A (d.pend.length + 1) c)) q.g 90 (dka ⟨q.g, q.bs, q.bm, A, c⟩ (dAdd d x)) := by
 have h2 := h.set_ 3 (.slice A (d.pend.length + 1) c)
 have e : dka ⟨q.g, q.bs, q.bm, A, c⟩ (dAdd d x) = #[.int .i64 d.room, .map (some q.bs), .map (some q.bm), .slice A (d.pend.length + 1) c, .int .i64 d.fuse, .bool d.down] := by simp [dka, dAdd]
 rw [e]
 exact h2
end
def AddG (w w' : World) (q : Fp) (d : Dk Sv) (x : Chg Sv) : Prop := ∃ A c, Blk w' q.g 90 (dka ⟨q.g, q.bs, q.bm, A, c⟩ (dAdd d x)) ∧ OmD w' q.bs d.sure ∧ OmD w' q.bm (fdo d.shown x) ∧ Own w' 0 119 4 A (d.pend.length + 1) c (d.pend.flatMap chl ++ chl x) ∧
 (A.map (·.block) = q.A.map (·.block) ∨ ∃ k, A.map (·.block) = some k ∧ w.heap.size ≤ k) ∧ Frd q w w'
theorem AddG.of {w W w' : World} {q : Fp} {d : Dk Sv} {x : Chg Sv} {A : Option Addr} {c : Nat} (hA : AdC w W q d x) (hB : Blk W q.g 90 (dka ⟨q.g, q.bs, q.bm, A, c⟩ (dAdd d x)))
 (hO : Own W 0 119 4 A (d.pend.length + 1) c (d.pend.flatMap chl ++ chl x)) (hp : A.map (·.block) = q.A.map (·.block) ∨ ∃ k, A.map (·.block) = some k ∧ w.heap.size ≤ k) (hne : q.bs ≠ q.bm) (hm : OmD w' q.bm (fdo d.shown x)) (hw : Wr W w' q.bm) : AddG w w' q d x := by
 have h0 := hA.k0 q.bm (.inr (.inr (.inl rfl)))
 refine ⟨A, c, hB.wr hw (fun e => hA.k1.2 e.symm), OmD.wr hA.s hw hne, hm, ?_, hp, hA.fr.wr2 hw fun j e => by injection e with e; subst e; exact .inl (.inr (.inr (.inl rfl)))⟩
 refine World.ownsRow.kept hO hw (.inr fun e => ?_)
 rw [ownBlock_slice] at e
 rcases hp with hp | ⟨k, hk, hs⟩
 · exact (hA.k2 _ (hp.symm.trans e)).2.2 rfl
 · rw [e] at hk
   injection hk with hk
   omega
set_option maxRecDepth 100000 in
set_option maxHeartbeats 1000000 in
theorem Add_any {w : World} {q : Fp} {d : Dk Sv} {x : Chg Sv} (h : Dsk w q d) (hn : d.pend.length ≤ 1000000) (hL : d.shown.length ≤ 100000000) (h1 : x.name.length ≤ 24) (h2 : x.to.length ≤ 24) :
 Calls Tryz.prog 98 #[.pointer (some ⟨q.g, 0, none⟩), .agg (cha x)] w fun e w' => e = .returned (.tuple #[]) ∧ AddG w w' q d x := by
 have hne := h.ne
 have hst : AdC w (w.alloc (.cells (cha x) 119)).drew q d x := by
  have hbx := below_new w (.cells (cha x) 119)
  exact ⟨(Blk.new w _ _).drew, Frd.of_below ⟨hbx.os, hbx.tape, hbx.output, hbx.size, hbx.block⟩, Om.same h.sure (hbx.block _ h.sure.lt), Om.same h.shown (hbx.block _ h.shown.lt), fun i => h.ltM, h.neg, fun k => h.negA⟩
 have hB0 : Blk (w.alloc (.cells (cha x) 119)).drew q.g 90 (dka q d) := (h.blk.alloc _).drew
 have hO0 : Own (w.alloc (.cells (cha x) 119)).drew 0 119 4 q.A d.pend.length q.c (d.pend.flatMap chl) := World.ownsRow.drew (World.ownsRow.alloc h.pend _)
 clear h
 go_enter Tryz.func98, Tryz.ntmps98
 go_upto_region 1 with (fail)
 go_cut [] (fun wz => ∃ A c, AdC w wz q d x ∧ Blk wz q.g 90 (dka ⟨q.g, q.bs, q.bm, A, c⟩ (dAdd d x)) ∧ Own wz 0 119 4 A (d.pend.length + 1) c (d.pend.flatMap chl ++ chl x) ∧ (A.map (·.block) = q.A.map (·.block) ∨ ∃ k, A.map (·.block) = some k ∧ w.heap.size ≤ k))
 case first =>
  refine wp_region_held_drew (S := (fun W => AdC w W q d x)) (by kernel_rfl) ?_ (fun hHeld => ?_)
  · exact hst
  refine gen0 (T := fun W => ((fun W => AdC w W q d x)) W ∧ Blk W q.g 90 (dka q d) ∧ Own W 0 119 4 q.A d.pend.length q.c (d.pend.flatMap chl) ∧ True) ?_ (fun wq1 hT => ?_)
  · exact ⟨by (with_reducible exact hst), by (with_reducible assumption), by (with_reducible assumption), trivial⟩
  (try clear f0 f1 f2 f3 f4 f5 f6 f7 f8 f9 f10 f11)
  obtain ⟨hHeld, f0, f1, -⟩ := hT
  refine wTk (i := 0) (oi := ⟨some 4, _, _, _, _, _⟩) (v := ?_) rfl ⟨by kernel_rfl, ?_⟩ (by assumption) ?_
  rotate_left
  · (intro wS hSw; (try dsimp only at hSw); obtain ⟨q0, q1, q2, q3⟩ := hSw.bx.fourC; clear hSw; go_simp; (try with_reducible rfl))
  (try simp only [Act.put, pS0, pS1, pS2])
  refine wTk (i := 1) (oi := ⟨some 5, _, _, _, _, _⟩) (v := ?_) rfl ⟨by kernel_rfl, ?_⟩ (by assumption) ?_
  rotate_left
  · (intro wS hSw; (try dsimp only at hSw); obtain ⟨q0, q1, q2, q3⟩ := hSw.bx.fourC; clear hSw; go_simp; (try with_reducible rfl))
  (try simp only [Act.put, pS0, pS1, pS2])
  refine wTk (i := 2) (oi := ⟨some 6, _, _, _, _, _⟩) (v := ?_) rfl ⟨by kernel_rfl, ?_⟩ (by assumption) ?_
  rotate_left
  · (intro wS hSw; (try dsimp only at hSw); obtain ⟨q0, q1, q2, q3⟩ := hSw.bx.fourC; clear hSw; go_simp; (try with_reducible rfl))
  (try simp only [Act.put, pS0, pS1, pS2])
  refine wTk (i := 3) (oi := ⟨some 7, _, _, _, _, _⟩) (v := ?_) rfl ⟨by kernel_rfl, ?_⟩ (by assumption) ?_
  rotate_left
  · (intro wS hSw; (try dsimp only at hSw); obtain ⟨q0, q1, q2, q3⟩ := hSw.bx.fourC; clear hSw; go_simp; (try with_reducible rfl))
  (try simp only [Act.put, pS0, pS1, pS2])
  refine wTk (i := 5) (oi := ⟨some 9, _, _, _, _, _⟩) (v := ?_) rfl ⟨by kernel_rfl, ?_⟩ (by assumption) ?_
  rotate_left
  · (intro wS hSw; (try dsimp only at hSw); obtain ⟨q0, q1, q2, q3⟩ := hSw.bx.fourC; clear hSw; go_simp; (try with_reducible rfl))
  (try simp only [Act.put, pS0, pS1, pS2])
  refine wpAnyH_ready (rs := [4, 6]) (by kernel_rfl) (by simp) ?_
  refine AllReadyH.cons (o := ⟨some 8, _, _, _, _, _⟩) rfl (fun K hK => ?_) ?_
  · ((obtain ⟨s2, s3, sf3⟩ := f0.dk3)); go_simp
    refine hK.out _ _ ?_ (fun _ => ?_)
    · ((try dsimp only); (with_reducible exact hHeld))
    clear hK K
    (try simp only [Act.put, pS0, pS1, pS2])
    refine gen0 (T := fun W => ((fun W => AdC w W q d x)) W ∧ Blk W q.g 90 (dka q d) ∧ Own W 0 119 4 q.A d.pend.length q.c (d.pend.flatMap chl) ∧ True) ?_ (fun wq2 hT => ?_)
    · exact ⟨by (with_reducible exact hHeld), by (with_reducible assumption), by (with_reducible assumption), trivial⟩
    (try clear f0 f1 f2 f3 f4 f5 f6 f7 f8 f9 f10 f11)
    obtain ⟨hHeld, f0, f1, -⟩ := hT
    refine wR1 (i := 6) (o := ⟨some 10, _, _, _, _, _⟩) rfl (fun K hK => ?_)
    ((obtain ⟨s2, s3, sf3⟩ := f0.dk3)); go_simp
    refine hK.out _ _ ?_ (fun _ => ?_)
    · ((try dsimp only); (with_reducible exact hHeld.alloc _))
    clear hK K
    (try simp only [Act.put, pS0, pS1, pS2])
    refine gen0 (T := fun W => ((fun W => AdC w W q d x)) W ∧ Blk W q.g 90 (dka q d) ∧ Own W 0 119 4 q.A d.pend.length q.c (d.pend.flatMap chl) ∧ Sl W 4 (some ⟨wq2.heap.size, 0, none⟩) 1 1 (chl x) ∧ True) ?_ (fun wq3 hT => ?_)
    · exact ⟨by (with_reducible exact hHeld.alloc _), by (with_reducible exact f0.alloc _), by (with_reducible exact World.ownsRow.alloc f1 _), by (with_reducible exact lit_ch _ _), trivial⟩
    (try clear f0 f1 f2 f3 f4 f5 f6 f7 f8 f9 f10 f11)
    obtain ⟨hHeld, f0, f1, f2, -⟩ := hT
    refine wR1 (i := 7) (o := ⟨some 11, _, _, _, _, _⟩) rfl (fun K hK => ?_)
    (refine step_chg (by kernel_rfl) (.tmp 8) (.tmp 10) rfl q.A d.pend.length q.c _ rfl f1 (by omega) _ x rfl f2 ?_; intro A7 c7 w7 ho7 hg7 hp7; have hk7 := hHeld.place hp7)
    refine hK.out _ _ ?_ (fun _ => ?_)
    · ((try dsimp only); (exact hHeld.grown hg7 (fun k e => ⟨.inr (.inr (.inr e)), (hHeld.k2 k e).2⟩)))
    clear hK K
    (try simp only [Act.put, pS0, pS1, pS2])
    refine gen0 (T := fun W => ((fun W => AdC w W q d x)) W ∧ Blk W q.g 90 (dka q d) ∧ Own W 0 119 4 A7 (d.pend.length + 1) c7 (d.pend.flatMap chl ++ chl x) ∧ True) ?_ (fun wq4 hT => ?_)
    · exact ⟨by (exact hHeld.grown hg7 (fun k e => ⟨.inr (.inr (.inr e)), (hHeld.k2 k e).2⟩)), by (exact (hg7.block _ f0.lt (fun e => (hHeld.k2 _ e.symm).1 rfl)).trans f0), by (with_reducible assumption), trivial⟩
    (try clear f0 f1 f2 f3 f4 f5 f6 f7 f8 f9 f10 f11)
    obtain ⟨hHeld, f0, f1, -⟩ := hT
    refine wTk (i := 8) (oi := ⟨some 12, _, _, _, _, _⟩) (v := ?_) rfl ⟨by kernel_rfl, ?_⟩ (by assumption) ?_
    rotate_left
    · (intro wS hSw; (try dsimp only at hSw); obtain ⟨q0, q1, q2, q3⟩ := hSw.bx.fourC; clear hSw; go_simp; (try with_reducible rfl))
    (try simp only [Act.put, pS0, pS1, pS2])
    refine wTk (i := 9) (oi := ⟨some 13, _, _, _, _, _⟩) (v := ?_) rfl ⟨by kernel_rfl, ?_⟩ (by assumption) ?_
    rotate_left
    · (intro wS hSw; (try dsimp only at hSw); obtain ⟨q0, q1, q2, q3⟩ := hSw.bx.fourC; clear hSw; go_simp; (try with_reducible rfl))
    (try simp only [Act.put, pS0, pS1, pS2])
    refine wR1 (i := 10) (o := ⟨none, _, _, _, _, _⟩) rfl (fun K hK => ?_)
    obtain ⟨s2, s3, sf3⟩ := f0.dk3
    ((obtain ⟨s2, s3, sf3⟩ := f0.dk3)); go_simp
    refine hK.out _ _ ?_ (fun _ => ?_)
    · ((try dsimp only); (with_reducible exact hHeld.setG _ _))
    clear hK K
    (try simp only [Act.put, pS0, pS1, pS2])
    refine gen0 (T := fun W => ((fun W => AdC w W q d x)) W ∧ Own W 0 119 4 A7 (d.pend.length + 1) c7 (d.pend.flatMap chl ++ chl x) ∧ Blk W q.g 90 (dka ⟨q.g, q.bs, q.bm, A7, c7⟩ (dAdd d x)) ∧ True) ?_ (fun wq5 hT => ?_)
    · exact ⟨by (with_reducible exact hHeld.setG _ _), by (exact f1.setG hk7.1 _), by (exact f0.dkAdd x _ _), trivial⟩
    (try clear f0 f1 f2 f3 f4 f5 f6 f7 f8 f9 f10 f11)
    obtain ⟨hHeld, f0, f1, -⟩ := hT
    refine wpAnyH_done (by kernel_rfl) ?_ _
    (go_wp2_with fail; go_meet; exact ⟨_, _, hHeld, f1, f0, hk7.2⟩)
  refine AllReadyH.cons (o := ⟨some 10, _, _, _, _, _⟩) rfl (fun K hK => ?_) ?_
  · ((obtain ⟨s2, s3, sf3⟩ := f0.dk3)); go_simp
    refine hK.out _ _ ?_ (fun _ => ?_)
    · ((try dsimp only); (with_reducible exact hHeld.alloc _))
    clear hK K
    (try simp only [Act.put, pS0, pS1, pS2])
    refine gen0 (T := fun W => ((fun W => AdC w W q d x)) W ∧ Blk W q.g 90 (dka q d) ∧ Own W 0 119 4 q.A d.pend.length q.c (d.pend.flatMap chl) ∧ Sl W 4 (some ⟨wq1.heap.size, 0, none⟩) 1 1 (chl x) ∧ True) ?_ (fun wq6 hT => ?_)
    · exact ⟨by (with_reducible exact hHeld.alloc _), by (with_reducible exact f0.alloc _), by (with_reducible exact World.ownsRow.alloc f1 _), by (with_reducible exact lit_ch _ _), trivial⟩
    (try clear f0 f1 f2 f3 f4 f5 f6 f7 f8 f9 f10 f11)
    obtain ⟨hHeld, f0, f1, f2, -⟩ := hT
    refine wR1 (i := 4) (o := ⟨some 8, _, _, _, _, _⟩) rfl (fun K hK => ?_)
    ((obtain ⟨s2, s3, sf3⟩ := f0.dk3)); go_simp
    refine hK.out _ _ ?_ (fun _ => ?_)
    · ((try dsimp only); (with_reducible exact hHeld))
    clear hK K
    (try simp only [Act.put, pS0, pS1, pS2])
    refine gen0 (T := fun W => ((fun W => AdC w W q d x)) W ∧ Blk W q.g 90 (dka q d) ∧ Own W 0 119 4 q.A d.pend.length q.c (d.pend.flatMap chl) ∧ Sl W 4 (some ⟨wq1.heap.size, 0, none⟩) 1 1 (chl x) ∧ True) ?_ (fun wq7 hT => ?_)
    · exact ⟨by (with_reducible exact hHeld), by (with_reducible assumption), by (with_reducible assumption), by (with_reducible assumption), trivial⟩
    (try clear f0 f1 f2 f3 f4 f5 f6 f7 f8 f9 f10 f11)
    obtain ⟨hHeld, f0, f1, f2, -⟩ := hT
    refine wR1 (i := 7) (o := ⟨some 11, _, _, _, _, _⟩) rfl (fun K hK => ?_)
    (refine step_chg (by kernel_rfl) (.tmp 8) (.tmp 10) rfl q.A d.pend.length q.c _ rfl f1 (by omega) _ x rfl f2 ?_; intro A7 c7 w7 ho7 hg7 hp7; have hk7 := hHeld.place hp7)
    refine hK.out _ _ ?_ (fun _ => ?_)
    · ((try dsimp only); (exact hHeld.grown hg7 (fun k e => ⟨.inr (.inr (.inr e)), (hHeld.k2 k e).2⟩)))
    clear hK K
    (try simp only [Act.put, pS0, pS1, pS2])
    refine gen0 (T := fun W => ((fun W => AdC w W q d x)) W ∧ Blk W q.g 90 (dka q d) ∧ Own W 0 119 4 A7 (d.pend.length + 1) c7 (d.pend.flatMap chl ++ chl x) ∧ True) ?_ (fun wq8 hT => ?_)
    · exact ⟨by (exact hHeld.grown hg7 (fun k e => ⟨.inr (.inr (.inr e)), (hHeld.k2 k e).2⟩)), by (exact (hg7.block _ f0.lt (fun e => (hHeld.k2 _ e.symm).1 rfl)).trans f0), by (with_reducible assumption), trivial⟩
    (try clear f0 f1 f2 f3 f4 f5 f6 f7 f8 f9 f10 f11)
    obtain ⟨hHeld, f0, f1, -⟩ := hT
    refine wTk (i := 8) (oi := ⟨some 12, _, _, _, _, _⟩) (v := ?_) rfl ⟨by kernel_rfl, ?_⟩ (by assumption) ?_
    rotate_left
    · (intro wS hSw; (try dsimp only at hSw); obtain ⟨q0, q1, q2, q3⟩ := hSw.bx.fourC; clear hSw; go_simp; (try with_reducible rfl))
    (try simp only [Act.put, pS0, pS1, pS2])
    refine wTk (i := 9) (oi := ⟨some 13, _, _, _, _, _⟩) (v := ?_) rfl ⟨by kernel_rfl, ?_⟩ (by assumption) ?_
    rotate_left
    · (intro wS hSw; (try dsimp only at hSw); obtain ⟨q0, q1, q2, q3⟩ := hSw.bx.fourC; clear hSw; go_simp; (try with_reducible rfl))
    (try simp only [Act.put, pS0, pS1, pS2])
    refine wR1 (i := 10) (o := ⟨none, _, _, _, _, _⟩) rfl (fun K hK => ?_)
    obtain ⟨s2, s3, sf3⟩ := f0.dk3
    ((obtain ⟨s2, s3, sf3⟩ := f0.dk3)); go_simp
    refine hK.out _ _ ?_ (fun _ => ?_)
    · ((try dsimp only); (with_reducible exact hHeld.setG _ _))
    clear hK K
    (try simp only [Act.put, pS0, pS1, pS2])
    refine gen0 (T := fun W => ((fun W => AdC w W q d x)) W ∧ Own W 0 119 4 A7 (d.pend.length + 1) c7 (d.pend.flatMap chl ++ chl x) ∧ Blk W q.g 90 (dka ⟨q.g, q.bs, q.bm, A7, c7⟩ (dAdd d x)) ∧ True) ?_ (fun wq9 hT => ?_)
    · exact ⟨by (with_reducible exact hHeld.setG _ _), by (exact f1.setG hk7.1 _), by (exact f0.dkAdd x _ _), trivial⟩
    (try clear f0 f1 f2 f3 f4 f5 f6 f7 f8 f9 f10 f11)
    obtain ⟨hHeld, f0, f1, -⟩ := hT
    refine wpAnyH_done (by kernel_rfl) ?_ _
    (go_wp2_with fail; go_meet; exact ⟨_, _, hHeld, f1, f0, hk7.2⟩)
  exact AllReadyH.nil
 case rest =>
  obtain ⟨A, c, hA, hB, hO, hp⟩ := hcut
  go_upto_region 2 with (fail)
  have hst2 := hA.drew
  have hBd := hB.drew
  have hOd := World.ownsRow.drew hO
  clear hst hB0 hO0 hA hB hO
  have hk1 : w.heap.size ≠ q.bm := by
   have := hst2.k0 q.bm (.inr (.inr (.inl rfl)))
   omega
  have hk2 : q.g ≠ q.bm := fun e => hst2.k1.2 e.symm
  refine wp_region_held_drew (S := (fun W => Blk W w.heap.size 119 (cha x) ∧ Blk W q.g 90 (dka ⟨q.g, q.bs, q.bm, A, c⟩ (dAdd d x)))) (by kernel_rfl) ?_ (fun hHeld => ?_)
  · exact ⟨hst2.bx, hBd⟩
  refine gen0 (T := fun W => ((fun W => Blk W w.heap.size 119 (cha x) ∧ Blk W q.g 90 (dka ⟨q.g, q.bs, q.bm, A, c⟩ (dAdd d x)))) W ∧ AdC w W q d x ∧ Own W 0 119 4 A (d.pend.length + 1) c (d.pend.flatMap chl ++ chl x) ∧ True) ?_ (fun wq1 hT => ?_)
  · exact ⟨by (with_reducible exact ⟨hst2.bx, hBd⟩), by (with_reducible assumption), by (with_reducible assumption), trivial⟩
  (try clear f0 f1 f2 f3 f4 f5 f6 f7 f8 f9 f10 f11)
  obtain ⟨hHeld, f0, f1, -⟩ := hT
  refine wTk (i := 0) (oi := ⟨some 14, _, _, _, _, _⟩) (v := ?_) rfl ⟨by kernel_rfl, ?_⟩ (by assumption) ?_
  rotate_left
  · (intro wS hSw; (try dsimp only at hSw); obtain ⟨q0, q1, q2, q3⟩ := hSw.1.fourC; obtain ⟨s2, _, _⟩ := Blk.dk3 (q := ⟨q.g, q.bs, q.bm, A, c⟩) hSw.2; clear hSw; go_simp; (try with_reducible rfl))
  (try simp only [Act.put, pS0, pS1, pS2])
  refine wTk (i := 1) (oi := ⟨some 15, _, _, _, _, _⟩) (v := ?_) rfl ⟨by kernel_rfl, ?_⟩ (by assumption) ?_
  rotate_left
  · (intro wS hSw; (try dsimp only at hSw); obtain ⟨q0, q1, q2, q3⟩ := hSw.1.fourC; obtain ⟨s2, _, _⟩ := Blk.dk3 (q := ⟨q.g, q.bs, q.bm, A, c⟩) hSw.2; clear hSw; go_simp; (try with_reducible rfl))
  (try simp only [Act.put, pS0, pS1, pS2])
  refine wTk (i := 2) (oi := ⟨some 16, _, _, _, _, _⟩) (v := ?_) rfl ⟨by kernel_rfl, ?_⟩ (by assumption) ?_
  rotate_left
  · (intro wS hSw; (try dsimp only at hSw); obtain ⟨q0, q1, q2, q3⟩ := hSw.1.fourC; obtain ⟨s2, _, _⟩ := Blk.dk3 (q := ⟨q.g, q.bs, q.bm, A, c⟩) hSw.2; clear hSw; go_simp; (try with_reducible rfl))
  (try simp only [Act.put, pS0, pS1, pS2])
  refine wTk (i := 3) (oi := ⟨some 17, _, _, _, _, _⟩) (v := ?_) rfl ⟨by kernel_rfl, ?_⟩ (by assumption) ?_
  rotate_left
  · (intro wS hSw; (try dsimp only at hSw); obtain ⟨q0, q1, q2, q3⟩ := hSw.1.fourC; obtain ⟨s2, _, _⟩ := Blk.dk3 (q := ⟨q.g, q.bs, q.bm, A, c⟩) hSw.2; clear hSw; go_simp; (try with_reducible rfl))
  (try simp only [Act.put, pS0, pS1, pS2])
  refine wTk (i := 4) (oi := ⟨some 18, _, _, _, _, _⟩) (v := ?_) rfl ⟨by kernel_rfl, ?_⟩ (by assumption) ?_
  rotate_left
  · (intro wS hSw; (try dsimp only at hSw); obtain ⟨q0, q1, q2, q3⟩ := hSw.1.fourC; obtain ⟨s2, _, _⟩ := Blk.dk3 (q := ⟨q.g, q.bs, q.bm, A, c⟩) hSw.2; clear hSw; go_simp; (try with_reducible rfl))
  (try simp only [Act.put, pS0, pS1, pS2])
  refine wR1 (i := 5) (o := ⟨some 19, _, _, _, _, _⟩) rfl (fun K hK => ?_)
  go_simp
  (refine (Do_any x f0.m hL (by omega) (by omega)).mono ?_; rintro e w5 ⟨rfl, hO5, hw5⟩)
  go_wp2_with fail
  refine hK.out _ _ ?_ (fun _ => ?_)
  · ((try dsimp only); (exact ⟨hHeld.1.wr hw5 hk1, hHeld.2.wr hw5 hk2⟩))
  clear hK K
  (try simp only [Act.put, pS0, pS1, pS2])
  refine gen0 (T := fun W => ((fun W => Blk W w.heap.size 119 (cha x) ∧ Blk W q.g 90 (dka ⟨q.g, q.bs, q.bm, A, c⟩ (dAdd d x)))) W ∧ AddG w W q d x ∧ True) ?_ (fun wq2 hT => ?_)
  · exact ⟨by (exact ⟨hHeld.1.wr hw5 hk1, hHeld.2.wr hw5 hk2⟩), by (exact AddG.of f0 hHeld.2 f1 hp hne hO5 hw5), trivial⟩
  (try clear f0 f1 f2 f3 f4 f5 f6 f7 f8 f9 f10 f11)
  obtain ⟨hHeld, f0, -⟩ := hT
  refine wpAnyH_done (by kernel_rfl) ?_ _
  go_wp2_with fail
  go_end0
  exact ⟨rfl, f0⟩
theorem Dsk.add {w w' : World} {q : Fp} {d : Dk Sv} {x : Chg Sv} (h : Dsk w q d) (h1 : x.name.length ≤ 24) (h2 : x.to.length ≤ 24) (hx : SlB w x.val.A x.val.c x.val.l) (hxa : x.val.l ≠ [] → ∀ ad, x.val.A = some ad → ¬ q.M ad.block) (hxl : x.val.l.length ≤ 65536) (hG : AddG w w' q d x) :
 ∃ q', q'.g = q.g ∧ Dsk w' q' (dAdd d x) ∧ Frd q w w' ∧ (∀ i, q'.M i → q.M i ∨ w.heap.size ≤ i) ∧ ∀ i, Tc q' (dAdd d x) i → Tc q d i ∨ w.heap.size ≤ i ∨ x.val.l ≠ [] ∧ x.val.A.map (·.block) = some i := by
 obtain ⟨A, c, hB, hs, hm, hO, hp, hF⟩ := hG
 have hsv : ∀ s ∈ svs (dAdd d x), s ∈ svs d ∨ s = x.val := by
  intro s hs
  simp only [svs, dAdd, List.mem_append, List.mem_map, List.mem_singleton] at hs ⊢
  rcases hs with hs | ⟨y, hy | hy, rfl⟩
  · exact .inl (.inl hs)
  · exact .inl (.inr ⟨y, hy, rfl⟩)
  · exact .inr (by rw [hy])
 have hM : ∀ i, Fp.M ⟨q.g, q.bs, q.bm, A, c⟩ i → q.M i ∨ w.heap.size ≤ i := by
  rintro i (e | e | e | e)
  · exact .inl (.inl e)
  · exact .inl (.inr (.inl e))
  · exact .inl (.inr (.inr (.inl e)))
  · dsimp only at e
    rcases hp with hp | ⟨k, hk, hz⟩
    · exact .inl (.inr (.inr (.inr (hp.symm.trans e))))
    · rw [e] at hk
      injection hk with hk
      exact .inr (by omega)
 have hR : ∀ s ∈ svs (dAdd d x), SlB w s.A s.c s.l ∧ (s.l ≠ [] → ∀ ad, s.A = some ad → ¬ q.M ad.block) := by
  intro s hs
  rcases hsv s hs with hs | rfl
  · exact ⟨h.rd s hs, h.ap s hs⟩
  · exact ⟨hx, hxa⟩
 have hlt : ∀ s ∈ svs (dAdd d x), s.l ≠ [] → ∀ ad, s.A = some ad → ad.block < w.heap.size := by
  intro s hs hne ad hA
  obtain ⟨ad', e, hc⟩ := Sl.at1 (f := bv) (l := s.l) (hR s hs).1 (k := 0) (List.length_pos_iff.2 hne)
  rw [hA] at e
  injection e with e
  subst e
  have := World.block_lt_of_cell? _ _ hc
  rwa [addr_add_block] at this
 refine ⟨⟨q.g, q.bs, q.bm, A, c⟩, rfl, ⟨hB, hs, ?_, ?_, h.ne, ?_, ?_, h.ris, ?_, ?_⟩, hF, hM, ?_⟩
 · have : (dAdd d x).shown = fdo d.shown x := fdos_snoc _ _ _
   rw [this]
   exact hm
 · have e1 : (dAdd d x).pend.length = d.pend.length + 1 := by simp [dAdd]
   have e2 : (dAdd d x).pend.flatMap chl = d.pend.flatMap chl ++ chl x := by simp [dAdd]
   rw [e1, e2]
   exact hO
 · intro s hs
   exact SlB.sameB (hR s hs).1 fun hne ad hA => hF.block _ (hlt s hs hne ad hA) ((hR s hs).2 hne ad hA)
 · intro s hs hne ad hA hm
   rcases hM _ hm with hm | hm
   · exact (hR s hs).2 hne ad hA hm
   · have := hlt s hs hne ad hA
     omega
 · intro s hs
   rcases hsv s hs with hs | rfl
   · exact h.len s hs
   · exact hxl
 · refine ⟨h.nm.1, fun y hy => ?_⟩
   simp only [dAdd, List.mem_append, List.mem_singleton] at hy
   rcases hy with hy | rfl
   · exact h.nm.2 y hy
   · exact ⟨h1, h2⟩
 · rintro i (hi | ⟨s, hs, hne, hA⟩)
   · rcases hM i hi with hi | hi
     · exact .inl (.inl hi)
     · exact .inr (.inl hi)
   · rcases hsv s hs with hs | rfl
     · exact .inl (.inr ⟨s, hs, hne, hA⟩)
     · exact .inr (.inr ⟨hne, hA⟩)
theorem dWorks_same {α : Type} (d : Dk α) : (dWorks d).1.sure = d.sure ∧ (dWorks d).1.pend = d.pend ∧ (dWorks d).1.room = d.room ∧ ((dWorks d).2 = 0 ∨ (dWorks d).2 = 14) := by
 unfold dWorks
 split
 · exact ⟨rfl, rfl, rfl, .inr rfl⟩
 split
 · exact ⟨rfl, rfl, rfl, .inr rfl⟩
 split
 · exact ⟨rfl, rfl, rfl, .inl rfl⟩
 · exact ⟨rfl, rfl, rfl, .inl rfl⟩
section
variable {w w1 w2 : World} {q q1 : Fp} {d d1 d2 : Dk Sv}
theorem Dgo.of (h : Dsk w1 q d1) (hF : Frd q w w1) (h1 : d1.sure = d.sure) (h2 : d1.pend = d.pend) : Dgo w q d d1 w1 := ⟨q, rfl, h, hF, fun _ hi => .inl hi, fun _ hi => .inl (hi.same h1 h2)⟩
theorem Dgo.next (hF : Frd q w w1) (h1 : d1.sure = d.sure) (h2 : d1.pend = d.pend) (h : Dgo w1 q d1 d2 w2) : Dgo w q d d2 w2 := by
 obtain ⟨q2, hg, hD, hF2, hM, hT⟩ := h
 have hs := hF.size
 refine ⟨q2, hg, hD, hF.trans hF2 fun i hi => .inl hi, fun i hi => ?_, fun i hi => ?_⟩
 · rcases hM i hi with hi | hi
   · exact .inl hi
   · exact .inr (by omega)
 · rcases hT i hi with hi | hi
   · exact .inl (hi.same h1 h2)
   · exact .inr (by omega)
end
theorem SlB.nilv (w : World) : SlB w Sv.nil.A Sv.nil.c Sv.nil.l := Sl.none_ _ _
theorem Dgo.add {w w' : World} {q : Fp} {d : Dk Sv} {k : Nat} {n t : Bs} (h : Dsk w q d) (h1 : n.length ≤ 24) (h2 : t.length ≤ 24) (hG : AddG w w' q d ⟨k, n, t, Sv.nil⟩) : Dgo w q d (dAdd d ⟨k, n, t, Sv.nil⟩) w' := by
 obtain ⟨q2, hg, hD, hF, hM, hT⟩ := h.add h1 h2 (SlB.nilv w) (fun e => absurd rfl e) (by simp [Sv.nil]) hG
 refine ⟨q2, hg, hD, hF, hM, fun i hi => ?_⟩
 rcases hT i hi with hi | hi | ⟨hi, _⟩
 · exact .inl hi
 · exact .inr hi
 · exact absurd rfl hi
theorem named_len {s : Bs} (h : named s = true) : s.length ≤ 24 := by
 unfold named at h
 simp at h
 omega
set_option maxRecDepth 100000 in
set_option maxHeartbeats 1000000 in
theorem Remove_any {w : World} {q : Fp} {d : Dk Sv} (h : Dsk w q d) (hf : -1 ≤ d.fuse ∧ d.fuse ≤ 9223372036854775807) (hp : d.pend.length ≤ 1000000) (hL : d.shown.length ≤ 100000000) (n : Bs) (hn : n.length ≤ 100000000) :
 Calls Tryz.prog 61 #[.pointer (some ⟨q.g, 0, none⟩), .string ⟨n.toArray⟩] w fun e w' => e = .returned (errv (dRemove Sv.nil d n).2) ∧ Dgo w q d (dRemove Sv.nil d n).1 w' := by
 have hW := Works_any h hf
 obtain ⟨s1, s2, s3, s4⟩ := dWorks_same d
 have hR : dRemove Sv.nil d n = if (dWorks d).2 ≠ 0 then dWorks d else if named n = false then ((dWorks d).1, 2) else if (gget n d.shown).isNone = true then ((dWorks d).1, 4) else (dAdd (dWorks d).1 ⟨2, n, [], Sv.nil⟩, 0) := rfl
 generalize dWorks d = dw at *
 obtain ⟨d1, k⟩ := dw
 dsimp only at *
 have hsh : d1.shown = d.shown := by unfold Dk.shown; rw [s1, s2]
 clear h hf
 rcases s4 with rfl | rfl
 · rw [if_neg (by simp)] at hR
   rw [show errv 0 = Value.nilIface from rfl] at hW
   have HW := Lib.hid hW
   clear hW
   go_enter Tryz.func61, Tryz.ntmps61
   go_wp2_with fail
   refine HW.out.mono ?_
   rintro e w1 ⟨rfl, hD1, hw1⟩
   have hF1 : Frd q w w1 := Frd.of_wr (.inl rfl) hw1
   go_wp2_with fail
   refine (Named_any n w1 (by omega)).mono ?_
   rintro e w2 ⟨rfl, hb2⟩
   have hD2 := hD1.below hb2
   have hF2 : Frd q w w2 := hF1.trans (Frd.of_below (q := q) hb2) fun i hi => .inl hi
   cases hnm : named n
   · have HR := Lib.hid (show dRemove Sv.nil d n = (d1, 2) from by rw [hR, if_pos hnm])
     clear hR hnm
     go_wp2_with fail
     go_ret
     exact ⟨by rw [HR.out]; rfl, by rw [HR.out]; exact Dgo.of hD2 hF2 s1 s2⟩
   · rw [if_neg (by simp [hnm])] at hR
     have hlk := hD2.shown.look (T := 87) (E := 52) Tryz.underlying9 Tryz.underlying87 (zero_bs _) (k := n) (by unfold maxLen; omega)
     rw [hsh] at hlk
     obtain ⟨a0, a1, a2, -⟩ := hD2.six
     cases hgt : gget n d.shown with
     | none =>
      rw [hgt] at hlk
      have HR := Lib.hid (show dRemove Sv.nil d n = (d1, 4) from by rw [hR, hgt]; rfl)
      clear hR hgt
      go_wp2_with fail
      go_ret
      exact ⟨by rw [HR.out]; rfl, by rw [HR.out]; exact Dgo.of hD2 hF2 s1 s2⟩
     | some u =>
      rw [hgt] at hlk
      dsimp only [Option.map_some, Option.getD_some, Option.isSome_some] at hlk
      have HR := Lib.hid (show dRemove Sv.nil d n = (dAdd d1 ⟨2, n, [], Sv.nil⟩, 0) from by rw [hR, hgt]; rfl)
      clear hR hgt
      go_wp2_with fail
      refine (Add_any (x := ⟨2, n, [], Sv.nil⟩) hD2 (by rw [s2]; omega) (by rw [hsh]; omega) (named_len hnm) (by simp)).mono ?_
      rintro e w3 ⟨rfl, hG⟩
      have hE := (Dgo.add hD2 (named_len hnm) (by simp) hG).next hF2 s1 s2
      clear hlk a0 a1 a2
      go_wp2_with fail
      go_ret
      exact ⟨by rw [HR.out]; rfl, by rw [HR.out]; exact hE⟩
 · have HR := Lib.hid (show dRemove Sv.nil d n = (d1, 14) from by rw [hR, if_pos (by simp)])
   rw [show errv 14 = Value.iface 60 (.int .i64 14) from rfl] at hW
   have HW := Lib.hid hW
   clear hW hR
   go_enter Tryz.func61, Tryz.ntmps61
   go_wp2_with fail
   refine HW.out.mono ?_
   rintro e w1 ⟨rfl, hD1, hw1⟩
   go_wp2_with fail
   go_ret
   exact ⟨by rw [HR.out]; rfl, by rw [HR.out]; exact Dgo.of hD1 (Frd.of_wr (.inl rfl) hw1) s1 s2⟩
section
variable {α : Type} {N : Bs → Prop} {V : α → Prop} {l : List (Bs × α)}
theorem fdo_all (hl : ∀ p ∈ l, N p.1 ∧ V p.2) {x : Chg α} (h1 : N x.name) (h2 : N x.to) (h3 : V x.val) : ∀ p ∈ fdo l x, N p.1 ∧ V p.2 := by
 intro p hp
 rcases Decidable.em (x.kind = 0) with hk | hk
 · rw [fdo_w hk] at hp
   rcases gmem_put.1 hp with e | e
   · rw [e]; exact ⟨h1, h3⟩
   · exact hl p e.1
 cases hg : gget x.name l with
 | none => rw [fdo_n hk hg] at hp; exact hl p hp
 | some b =>
  rcases Decidable.em (x.kind = 1) with hk1 | hk1
  · rw [fdo_r hk1 hg] at hp
    rcases gmem_put.1 hp with e | e
    · rw [e]; exact ⟨h2, (hl _ (gget_mem hg)).2⟩
    · exact hl p (gmem_del.1 e.1).1
  · rw [fdo_d hk hk1 hg] at hp
    exact hl p (gmem_del.1 hp).1
theorem fdos_all (cs : List (Chg α)) : ∀ {l : List (Bs × α)}, (∀ p ∈ l, N p.1 ∧ V p.2) → (∀ x ∈ cs, N x.name ∧ N x.to ∧ V x.val) → ∀ p ∈ fdos l cs, N p.1 ∧ V p.2 := by
 induction cs with
 | nil => exact fun hl _ => hl
 | cons x r ih =>
  intro l hl hc
  obtain ⟨h1, h2, h3⟩ := hc x (List.mem_cons_self ..)
  exact ih (fdo_all hl h1 h2 h3) fun y hy => hc y (List.mem_cons_of_mem _ hy)
end
theorem Dsk.shown_mem {w : World} {q : Fp} {d : Dk Sv} (h : Dsk w q d) : ∀ p ∈ d.shown, p.1.length ≤ 24 ∧ p.2 ∈ svs d := by
 refine fdos_all d.pend (N := fun s => s.length ≤ 24) (V := fun s => s ∈ svs d) (fun p hp => ⟨h.nm.1 p hp, ?_⟩) fun x hx => ⟨(h.nm.2 x hx).1, (h.nm.2 x hx).2, ?_⟩
 · exact List.mem_append.2 (.inl (List.mem_map_of_mem hp))
 · exact List.mem_append.2 (.inr (List.mem_map_of_mem (f := fun y : Chg Sv => y.val) hx))
theorem Dsk.synced {w : World} {q : Fp} {d : Dk Sv} (h : Dsk w q d) {es : Array MapEntry} {clock : Nat} (hb : w.heap[q.bm]? = some (.map es clock)) :
 Dgo w q d { d with sure := d.shown, pend := [] } (((w.alloc (.map es clock)).setCell ⟨q.g, 1, none⟩ (.map (some w.heap.size))).setCell ⟨q.g, 3, none⟩ (.slice none 0 0)) := by
 have hw : Wr w (((w.alloc (.map es clock)).setCell ⟨q.g, 1, none⟩ (.map (some w.heap.size))).setCell ⟨q.g, 3, none⟩ (.slice none 0 0)) q.g := (((Wr.refl _ _).alloc _).set_ 1 _).set_ 3 _
 have hw2 : Wr (w.alloc (.map es clock)) (((w.alloc (.map es clock)).setCell ⟨q.g, 1, none⟩ (.map (some w.heap.size))).setCell ⟨q.g, 3, none⟩ (.slice none 0 0)) q.g := ((Wr.refl _ _).set_ 1 _).set_ 3 _
 have hBlk := ((h.blk.alloc (.map es clock)).set_ 1 (.map (some w.heap.size))).set_ 3 (.slice none 0 0)
 have hg := h.blk.lt
 have hs : OmD (w.alloc (.map es clock)) w.heap.size d.shown := by
  obtain ⟨es2, clock2, hb2, r⟩ := h.shown
  rw [hb] at hb2
  injection hb2 with hb2
  injection hb2 with e1 e2
  subst e1
  subst e2
  exact ⟨es, clock, heap_alloc_new w _, r⟩
 have hsv : ∀ s ∈ svs ({ d with sure := d.shown, pend := [] } : Dk Sv), s ∈ svs d := by
  intro s hs
  simp only [svs, List.map_nil, List.append_nil, List.mem_map] at hs
  obtain ⟨p, hp, rfl⟩ := hs
  exact (h.shown_mem p hp).2
 generalize (((w.alloc (.map es clock)).setCell ⟨q.g, 1, none⟩ (.map (some w.heap.size))).setCell ⟨q.g, 3, none⟩ (.slice none 0 0)) = w' at *
 have hM : ∀ i, Fp.M ⟨q.g, w.heap.size, q.bm, none, 0⟩ i → q.M i ∨ w.heap.size ≤ i := by
  rintro i (e | e | e | e)
  · exact .inl (.inl e)
  · exact .inr (by dsimp only at e; omega)
  · exact .inl (.inr (.inr (.inl e)))
  · cases e
 refine ⟨⟨q.g, w.heap.size, q.bm, none, 0⟩, rfl, ⟨hBlk, ?_, ?_, Own.none_ _ _ _ _, ?_, ?_, ?_, h.ris.fdos _, ?_, ?_⟩, Frd.of_wr (.inl rfl) hw, hM, ?_⟩
 · exact OmD.wr hs hw2 (by dsimp only; omega)
 · exact OmD.wr h.shown hw h.neg.2
 · have := h.shown.lt
   dsimp only
   omega
 · intro s hs
   refine SlB.sameB (h.rd s (hsv s hs)) fun hne ad hA => hw.block _ ?_ fun e => h.ap s (hsv s hs) hne ad hA (.inl (by injection e))
   exact h.lt (.inr ⟨s, hsv s hs, hne, by rw [hA]; rfl⟩)
 · intro s hs hne ad hA hm
   rcases hM _ hm with hm | hm
   · exact h.ap s (hsv s hs) hne ad hA hm
   · have h5 : ad.block < w.heap.size := h.lt (.inr ⟨s, hsv s hs, hne, by rw [hA]; rfl⟩)
     omega
 · exact fun s hs => h.len s (hsv s hs)
 · exact ⟨fun p hp => (h.shown_mem p hp).1, fun x hx => by simp at hx⟩
 · rintro i (hi | ⟨s, hs, hne, hA⟩)
   · rcases hM i hi with hi | hi
     · exact .inl (.inl hi)
     · exact .inr hi
   · exact .inl (.inr ⟨s, hsv s hs, hne, hA⟩)
set_option maxRecDepth 100000 in
set_option maxHeartbeats 1000000 in
theorem Sync_any {w : World} {q : Fp} {d : Dk Sv} (h : Dsk w q d) (hf : -1 ≤ d.fuse ∧ d.fuse ≤ 9223372036854775807) :
 Calls Tryz.prog 62 #[.pointer (some ⟨q.g, 0, none⟩)] w fun e w' => e = .returned (errv (dSync d).2) ∧ Dgo w q d (dSync d).1 w' := by
 have hW := Works_any h hf
 obtain ⟨s1, s2, s3, s4⟩ := dWorks_same d
 have hR : dSync d = if (dWorks d).2 ≠ 0 then dWorks d else ({ (dWorks d).1 with sure := d.shown, pend := [] }, 0) := rfl
 generalize dWorks d = dw at *
 obtain ⟨d1, k⟩ := dw
 dsimp only at *
 have hsh : d1.shown = d.shown := by unfold Dk.shown; rw [s1, s2]
 clear h hf
 rcases s4 with rfl | rfl
 · rw [if_neg (by simp), ← hsh] at hR
   rw [show errv 0 = Value.nilIface from rfl] at hW
   have HW := Lib.hid hW
   have HR := Lib.hid hR
   clear hW hR
   go_enter Tryz.func62, Tryz.ntmps62
   go_wp2_with fail
   refine HW.out.mono ?_
   rintro e w1 ⟨rfl, hD1, hw1⟩
   have hF1 : Frd q w w1 := Frd.of_wr (.inl rfl) hw1
   obtain ⟨a0, a1, a2, a3, a4, a5, af1, af2, af3, af4, af5⟩ := hD1.six
   obtain ⟨es, clock, hb, -⟩ := hD1.shown
   have hE := (hD1.synced hb).next hF1 s1 s2
   go_wp2_with fail
   refine (Tryz.maps_Clone_any q.bm es clock w1 hb).mono ?_
   rintro e w2 ⟨rfl, rfl⟩
   have hB2 := hD1.blk.alloc (.map es clock)
   have g1 : (w1.alloc (.map es clock)).frozen? ⟨q.g, 1, none⟩ = false := hB2.frozen 1
   have b1 : (w1.alloc (.map es clock)).cell? ⟨q.g, 1, none⟩ = some (.map (some q.bs)) := hB2.cell 1
   have g3 : ((w1.alloc (.map es clock)).setCell ⟨q.g, 1, none⟩ (.map (some w1.heap.size))).frozen? ⟨q.g, 3, none⟩ = false := (hB2.set_ 1 _).frozen 3
   have b3 : ((w1.alloc (.map es clock)).setCell ⟨q.g, 1, none⟩ (.map (some w1.heap.size))).cell? ⟨q.g, 3, none⟩ = some (.slice q.A d1.pend.length q.c) := (hB2.set_ 1 _).cell 3
   clear a0 a1 a2 a3 a4 a5 af1 af2 af3 af4 af5 hB2
   go_wp2_with fail
   go_ret
   exact ⟨by rw [HR.out]; rfl, by rw [HR.out]; exact hE⟩
 · have HR := Lib.hid (show dSync d = (d1, 14) from by rw [hR, if_pos (by simp)])
   rw [show errv 14 = Value.iface 60 (.int .i64 14) from rfl] at hW
   have HW := Lib.hid hW
   clear hW hR
   go_enter Tryz.func62, Tryz.ntmps62
   go_wp2_with fail
   refine HW.out.mono ?_
   rintro e w1 ⟨rfl, hD1, hw1⟩
   go_wp2_with fail
   go_ret
   exact ⟨by rw [HR.out]; rfl, by rw [HR.out]; exact Dgo.of hD1 (Frd.of_wr (.inl rfl) hw1) s1 s2⟩
end
end Go.Proofs.YtajfnmohlnkncaaGreatDoor
