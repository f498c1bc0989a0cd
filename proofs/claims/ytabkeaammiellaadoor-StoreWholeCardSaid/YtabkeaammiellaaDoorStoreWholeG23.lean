/- WHAT IT HOLDS: a store's objects told: walked. | WHAT IT HOLDS: arguments that are acts of a store, opened to the words of Kit. -/
import Derived.Test.YtabkeaammiellaaDoorStoreWholeG19
import Derived.Test.YtabkeaammiellaaDoorStoreWholeG06
import Derived.Test.YtabkeaammiellaaDoorStoreWholeG20
namespace Go.Proofs.YtabkeaammiellaaDoor
open Go.RowKit Go.Maps Go.Sort
attribute [local go_sem ↓] Go.wp_at_zero Go.wp_at_succ

theorem bel_grown2 {w0 w w' : World} {B : Nat} {A : Option Addr} {o : Obj} (h : Below B w0 w) (hlo : B ≤ w.heap.size) (hA : ∀ k, A.map (·.block) = some k → B ≤ k) (hg : (w.alloc o).grownBy w' (A.map (·.block))) (hs : B ≤ w0.heap.size) : Below B w0 w' := by
  have h2 := h.alloc hlo o
  refine ⟨hg.os.trans h2.os, hg.tape.trans h2.tape, hg.output.trans h2.output, Nat.le_trans h2.size hg.size, fun i hi => (hg.block i (Nat.lt_of_lt_of_le hi (Nat.le_trans hs h2.size)) (fun e => ?_)).trans (h2.block i hi)⟩
  have := hA i e.symm
  omega
theorem tx_info2 : (Tryd.prog.info? 9).map (fun i => (i.zero, i.size, i.bytes)) = some (some (.string ⟨#[]⟩), 1, 16) := by kernel_rfl
theorem lit_tx2 (w : World) (x : Bs) : Sl (w.alloc (.cells #[.string ⟨x.toArray⟩] 9)) 1 (some ⟨w.heap.size, 0, none⟩) 1 1 (tx [x]) :=
  ⟨by simp [tx], by omega, by simp [maxLen], (fun h => by cases h), fun j u hj => ⟨_, rfl, by
    rw [addr_lit, cell_of_row _ _ _ _ 9 (0, 0) (heap_alloc_new w _)]
    simpa [tx, encStr] using hj⟩⟩
theorem wpl_tx2 {w : World} {ops : Array Oper} {rest : List Oper} {o : Oper} {a : Act} {Q : Exit → Act → World → Prop} (hgd : o.guard = none) (s x : Operand)
    (ho : o.op = .call { callee := .builtin .append, args := #[s, x], argTypes := #[47, 47] })
    (base : Nat) (A : Option Addr) (c : Nat) (l : List Bs) (hs : a.eval s = .slice A l.length c) (hown : OwnT w base A c l) (hn : l.length ≤ 1000000000000)
    (p : Bs) (gx : Nat) (hgx : gx = w.heap.size) (hx : a.eval x = .slice (some ⟨gx, 0, none⟩) 1 1) (hbase : base ≤ w.heap.size)
    (h : ∀ A' c' m w', Hid (m = l ++ [p]) → OwnT w' base A' c' m → (w.alloc (.cells #[.string ⟨p.toArray⟩] 9)).grownBy w' (A.map (·.block)) → (A'.map (·.block) = A.map (·.block) ∨ A'.map (·.block) = some (w.alloc (.cells #[.string ⟨p.toArray⟩] 9)).heap.size) → wpList Tryd.prog ops Q rest (a.put o.dst (.slice A' m.length c')) w') : wpList Tryd.prog ops Q (o :: rest) a (w.alloc (.cells #[.string ⟨p.toArray⟩] 9)) := by
  subst hgx
  obtain ⟨i0, hi, hz0, hz1, hz2⟩ := info_parts tx_info2
  have hown2 : OwnT (w.alloc (.cells #[.string ⟨p.toArray⟩] 9)) base A c l := World.ownsRow.alloc hown _
  refine wpl_append hgd s x 47 ho base 9 i0 _ 1 16 Tryd.underlying47 hi hz0 hz1 hz2 rfl (by decide) A l.length c _ hs hown2 _ 1 1 (tx [p]) hx (lit_tx2 w p) (by intro u hu; simp [tx, encStr] at hu; subst hu; rfl) (by omega) (by unfold maxLen; omega) (by simp; omega) ?_
  intro A' c' w' hap
  have hlen : l.length + 1 = (l ++ [p]).length := by simp
  rw [hlen]
  exact h A' c' (l ++ [p]) w' (show _ = _ from rfl) (by have := hap.own; unfold OwnT tx; rw [List.map_append]; simpa using this) hap.grown hap.place
set_option maxRecDepth 100000 in
set_option maxHeartbeats 1000000 in
theorem SList_any {w : World} {gs : Nat} {q : Fp} {d : Dk Sv} (h : StM w gs q d) (hl : d.sure.length + d.pend.length ≤ 1000) (p : Bs) :
    Calls Tryd.prog 36 #[.pointer (some ⟨gs, 0, none⟩), .string ⟨p.toArray⟩] w fun e w' => ∃ A c m, e = .returned (.tuple #[.slice A (List.length m) c, errv (sList d p).2]) ∧ Hid (m = (sList d p).1) ∧ OwnT w' w.heap.size A c m ∧ Below w.heap.size w w' := by
  obtain ⟨p1, p2, p3, -⟩ := h.dsk.fits hl (by omega)
  have HL := Lib.hid (DList_any h.dsk p2)
  have hb := h.cl
  have hshn := h.dsk.shown_mem
  have hshl : d.shown.length ≤ 1000 := by have := flen_dos d.sure d.pend; unfold Dk.shown; omega
  clear h
  cases hd : d.down with
  | true =>
    rw [hd, if_pos rfl, if_pos rfl, show errv 14 = Value.iface 64 (.int .i64 14) from rfl] at HL
    have HX := Lib.hid (show sList d p = ([], 14) from by unfold sList; rw [if_pos hd])
    go_enter Tryd.func36, Tryd.ntmps36
    go_wp2_with fail
    refine HL.out.mono ?_
    rintro e w1 ⟨A, c, m, rfl, hm, ho, hb⟩
    go_wp2_with fail
    go_ret2
    exact ⟨none, 0, [], by rw [HX.out]; rfl, (show _ = _ from by rw [HX.out]), Own.none_ _ _ _ _, hb⟩
  | false =>
    rw [hd, if_neg (by simp), if_neg (by simp), show errv 0 = Value.nilIface from rfl] at HL
    have HX := Lib.hid (show sList d p = ((names d.shown).filter (sPick p), 0) from by unfold sList; rw [if_neg (by simp [hd])])
    go_enter Tryd.func36, Tryd.ntmps36
    go_wp2_with fail
    refine HL.out.mono ?_
    rintro e w1 ⟨A, c, m, rfl, hm, ho, hb1⟩
    have hml : m.length ≤ 1000 := by rw [hm.out]; unfold names; rw [List.length_map]; exact hshl
    have HN := Lib.hid (show ∀ x ∈ m, x.length ≤ 24 from by
      rw [hm.out]
      intro x hx
      obtain ⟨p, hp, rfl⟩ := List.mem_map.1 hx
      exact (hshn p hp).1)
    rw [← hm.out] at HX
    have HT := Lib.hid (show SlT w1 A c m from Own.sl ho)
    have HB1 := Lib.hid hb1
    clear HL hm ho hshn hb hb1
    go_wp2_with fail
    go_loopw [27, 8] (fun x y wr => ∃ (i : Nat) (B : Option Addr) (k : Nat) (l : List Bs), i ≤ m.length ∧ x = .int .i64 i ∧ y = .slice B l.length k ∧ Hid (l = (m.take i).filter (sPick p)) ∧ OwnT wr w1.heap.size B k l ∧ Below w1.heap.size w1 wr) (fun x _ w => m.length - (intOf x).toNat)
    case atStart => exact ⟨0, none, 0, [], Nat.zero_le _, rfl, rfl, Lib.hid rfl, Own.none_ _ _ _ _, Below.refl _ _⟩
    case round =>
      obtain ⟨i, B, k, l, hi, rfl, rfl, hlm, ho, hbr⟩ := hrel
      have hll : l.length ≤ 1000 := by
        rw [hlm.out]
        have := List.length_filter_le (sPick p) (m.take i)
        rw [List.length_take] at this
        omega
      by_cases hlt : i < m.length
      · have hI : (i : Int) < (m.length : Int) := by omega
        obtain ⟨ad, b, o, hA, had, hc⟩ := SlT.at1 (HT.out.below hbr) hlt
        have hxn := HN.out _ (List.getElem_mem hlt)
        have HF := Lib.hid (show (m.take (i + 1)).filter (sPick p) = (m.take i).filter (sPick p) ++ (if sPick p m[i] = true then [m[i]] else []) from by
          rw [List.take_succ_eq_append_getElem hlt, List.filter_append]
          congr 1
          by_cases h : sPick p m[i] = true
          · rw [if_pos h]; simp [h]
          · rw [if_neg h]; simp [h])
        generalize m[i] = x at *
        subst hA
        have HNm := Lib.hid (fun W => SNamed_any x W (by omega))
        have hpx : ∀ W : World, Calls Tryd.prog 55 #[.string ⟨x.toArray⟩, .string ⟨p.toArray⟩] W fun e w' => e = .returned (.bool (Lib.hasPrefix x p)) ∧ w' = W := fun W => Tryd.strings_HasPrefix ⟨x.toArray⟩ ⟨p.toArray⟩ W
        have HP := Lib.hid hpx
        clear hpx
        have HO := Lib.hid ho
        clear ho
        go_wp2_with fail
        refine (HNm.out _).mono ?_
        rintro e w5 ⟨rfl, hb5⟩
        have hb6 := bel_call hbr hb5
        have ho6 := Own.below HO.out hb5
        cases hsn : snamed x with
        | false =>
          rw [show sPick p x = false from by unfold sPick; rw [hsn]; rfl, if_neg (by simp), List.append_nil] at HF
          have HO6 := Lib.hid ho6
          clear ho6 HO hb5
          go_wp2_with fail
          go_roundw
          case rel => exact ⟨i + 1, B, k, l, hlt, by go_num, rfl, Lib.hid (by rw [HF.out, hlm.out]), HO6.out, hb6⟩
          case measure => simp [intOf]; omega
        | true =>
          have hpk : sPick p x = Lib.hasPrefix x p := by unfold sPick; rw [hsn]; rfl
          have HO6 := Lib.hid ho6
          clear ho6 HO hb5
          go_wp2_with fail
          refine (HP.out _).mono ?_
          rintro e w6 ⟨rfl, rfl⟩
          cases hhp : Lib.hasPrefix x p with
          | false =>
            rw [hpk, hhp, if_neg (by simp), List.append_nil] at HF
            go_wp2_with fail
            go_roundw
            case rel => exact ⟨i + 1, B, k, l, hlt, by go_num, rfl, Lib.hid (by rw [HF.out, hlm.out]), HO6.out, hb6⟩
            case measure => simp [intOf]; omega
          | true =>
            rw [hpk, hhp, if_pos rfl, ← hlm.out] at HF
            have ho7 := HO6.out
            have hbs := hb6.size
            go_wp2_with (at_builtin; go_must (refine wpl_tx2 rfl _ _ rfl w1.heap.size B k l rfl ho7 (by omega) x _ rfl rfl hbs ?_); intro A8 c8 m8 w8 hm8 ho8 hg8 hp8)
            have hb8 := bel_grown2 hb6 hbs (fun k hk => (Own.lt ho7 k hk).1) hg8 (Nat.le_refl _)
            go_roundw
            case rel => exact ⟨i + 1, A8, c8, m8, hlt, by go_num, rfl, Lib.hid (by rw [hm8.out, HF.out]), ho8, hb8⟩
            case measure => simp [intOf]; omega
      · have hI : (m.length : Int) ≤ (i : Int) := by omega
        have HM := Lib.hid (show l = (sList d p).1 from by rw [hlm.out, HX.out, List.take_of_length_le (by omega)])
        have HBB := Lib.hid (bel_call HB1.out hbr)
        have HO := Lib.hid (show OwnT wr w.heap.size B k l from Own.more ho HB1.out.size)
        clear ho hbr hlm
        go_wp2_with fail
        go_ret2
        exact ⟨B, k, l, by rw [HX.out]; rfl, HM, HO.out, HBB.out⟩
end Go.Proofs.YtabkeaammiellaaDoor

namespace Go.Proofs.YtabkeaammiellaaDoor
open Go.ChangeShapes Go.WideShapes Go.ChangeAt Go.RowKit Go.Deep

/-- an act on a store: its kind, its name, its bytes, an act on its disk, what is kept -/
structure SA where
  k : Int
  n : List UInt8
  A : Option Addr
  c : Nat
  l : List UInt8
  d : DA
  B : Option Addr
  kc : Nat
  ks : List Bool
def sac (a : SA) : List Value := [.int .i64 a.k, .string ⟨a.n.toArray⟩, .slice a.A a.l.length a.c, .int .i64 a.d.k, .string ⟨a.d.n.toArray⟩, .string ⟨a.d.t.toArray⟩, .slice a.d.A a.d.l.length a.d.c, .int .i64 a.d.f, .slice a.d.B a.d.ks.length a.d.kc, .slice a.B a.ks.length a.kc]
theorem sac_len (a : SA) : (sac a).length = 10 := rfl
def SAok (w : World) (a : SA) : Prop := SlB w a.A a.c a.l ∧ SlZ w a.B a.kc a.ks ∧ DAok w a.d ∧ I64 a.k ∧ a.n.length ≤ maxLen
def SlSA (w : World) (A : Option Addr) (c : Nat) (s : List SA) : Prop := Sl w 10 A s.length c (s.flatMap sac) ∧ ∀ a ∈ s, SAok w a
theorem SAok.below {w w' : World} {a : SA} (h : SAok w a) (hb : Below w.heap.size w w') : SAok w' a := ⟨Sl.below h.1 hb, Sl.below h.2.1 hb, h.2.2.1.below hb, h.2.2.2⟩
theorem SlSA.below {w w' : World} {A : Option Addr} {c : Nat} {s : List SA} (h : SlSA w A c s) (hb : Below w.heap.size w w') : SlSA w' A c s := ⟨h.1.below hb, fun a ha => (h.2 a ha).below hb⟩
section
variable {H : Type} {enc : TypeId × Value → H} {P : Program} {w : World} {base b0 : Nat} {held : Bool} {r : Reach} {t e b z u : TypeId} {v : Value} {d : DataW H} {p : List MemPlace}
/-- a slice of elements of so many cells -/
theorem open_sliceH {T : Type} (f : T → List Value) (Q : T → Prop) {k : Nat} (hfl : ∀ x, (f x).length = k) (hk : 0 < k) (ht : P.underlying t = some (.slice e)) (hC : P.cellsOf e = k)
    (hel : ∀ (cs' : List Value) (n : Nat) (y : DataW H × List MemPlace), DataW.trod enc P w base (fun _ => true) held n e cs' = some y → ∃ x : T, f x = cs' ∧ Q x)
    {fuel : Nat} {yy : DataW H × List MemPlace} (hf : DataW.trod enc P w base (fun _ => true) held fuel t [v] = some yy) :
    ∃ (A : Option Addr) (c : Nat) (l : List T), v = .slice A l.length c ∧ Sl w k A l.length c (l.flatMap f) ∧ ∀ x ∈ l, Q x := by
  rcases open_slice ht hf with ⟨hcs, _⟩ | ⟨a, n, c, m, nn, D, Pl, hcs, _, hl, hm, hmm, _, hi⟩
  · simp at hcs
    subst hcs
    exact ⟨none, 0, [], rfl, by simpa using Sl.none_ w k, fun x hx => by simp at hx⟩
  · simp at hcs
    subst hcs
    simp only [if_true] at hmm
    subst hmm
    have hx : ∀ i, i < n → ∃ x : T, Q x ∧ ∀ j u, (f x)[j]? = some u → w.cell? (a.add (i * k + j)) = some u := by
      intro i hin
      obtain ⟨cs', hc, ht'⟩ := hi i (by omega)
      rw [hC] at hc
      obtain ⟨_, hcl, hat⟩ := World.cells?_some hc
      obtain ⟨x, hxe, hxq⟩ := hel cs' nn _ ht'
      refine ⟨x, hxq, fun j u hj => ?_⟩
      have hjk : j < k := by rw [← hfl x]; exact (List.getElem?_eq_some_iff.1 hj).1
      rw [hxe] at hj
      rw [← Go.Deep.add_add, hat j hjk, hj]
    obtain ⟨l, hll, hlr⟩ := list_choice _ n hx
    refine ⟨some a, _, l, by rw [hll], ⟨flat_len hfl l, by omega, hm, (fun h => by cases h), fun j u hj => ⟨a, rfl, ?_⟩⟩, fun x hx => ?_⟩
    · have hjl := (List.getElem?_eq_some_iff.1 hj).1
      rw [flat_len hfl] at hjl
      have hkk : j / k < l.length := by rw [Nat.div_lt_iff_lt_mul hk]; exact hjl
      have hr : j % k < k := Nat.mod_lt _ hk
      have he := flat_get hfl l (j / k) (j % k) hkk hr
      have hj2 : j / k * k + j % k = j := by rw [Nat.mul_comm]; exact Nat.div_add_mod _ _
      rw [hj2, hj] at he
      have := (hlr _ hkk).2 _ _ he.symm
      rwa [hj2] at this
    · obtain ⟨i, hi, rfl⟩ := List.getElem_of_mem hx
      exact (hlr i hi).1
/-- an act on a disk inside of another struct -/
theorem open_da {f0 f1 f2 f3 f4 f5 : Field} (hs : P.underlying t = some (.struct #[f0, f1, f2, f3, f4, f5])) (h0 : P.underlying f0.type = some (.int .i64)) (h1 : P.underlying f1.type = some .string) (h2 : P.underlying f2.type = some .string) (h3 : P.underlying f3.type = some (.slice e)) (h4 : P.underlying f4.type = some (.int .i64)) (h5 : P.underlying f5.type = some (.slice z))
    (he : P.underlying e = some (.int .u8)) (hz : P.underlying z = some .bool) (hCe : P.cellsOf e = 1) (hCz : P.cellsOf z = 1) (hone : oneCellFields P #[f0, f1, f2, f3, f4, f5] = true) (hC : P.cellsOf t = 6)
    (cs : List Value) (fuel : Nat) (y : DataW H × List MemPlace) (h : DataW.trod enc P w base (fun _ => true) held fuel t cs = some y) : ∃ a : DA, dac a = cs ∧ DAok w a := by
  obtain ⟨xs, n, _, _, hl, hxl, hf⟩ := DataW.trod_struct hs h
  rw [hC] at hl
  have q0 := hf 0 f0 rfl
  have q1 := hf 1 f1 rfl
  have q2 := hf 2 f2 rfl
  have q3 := hf 3 f3 rfl
  have q4 := hf 4 f4 rfl
  have q5 := hf 5 f5 rfl
  obtain ⟨o0, k0⟩ := hone_of hone 0 f0 rfl
  obtain ⟨o1, k1⟩ := hone_of hone 1 f1 rfl
  obtain ⟨o2, k2⟩ := hone_of hone 2 f2 rfl
  obtain ⟨o3, k3⟩ := hone_of hone 3 f3 rfl
  obtain ⟨o4, k4⟩ := hone_of hone 4 f4 rfl
  obtain ⟨o5, k5⟩ := hone_of hone 5 f5 rfl
  have hxl6 : xs.length = 6 := hxl
  rw [List.getElem?_eq_getElem (by omega)] at q0 q1 q2 q3 q4 q5
  match cs, hl with
  | [c0, c1, c2, c3, c4, c5], _ =>
    simp only [o0, k0, List.drop_zero, List.take_succ_cons, List.take_zero] at q0
    simp only [o1, k1, List.drop_succ_cons, List.drop_zero, List.take_succ_cons, List.take_zero] at q1
    simp only [o2, k2, List.drop_succ_cons, List.drop_zero, List.take_succ_cons, List.take_zero] at q2
    simp only [o3, k3, List.drop_succ_cons, List.drop_zero, List.take_succ_cons, List.take_zero] at q3
    simp only [o4, k4, List.drop_succ_cons, List.drop_zero, List.take_succ_cons, List.take_zero] at q4
    simp only [o5, k5, List.drop_succ_cons, List.drop_zero, List.take_succ_cons, List.take_zero] at q5
    obtain ⟨k, rfl, hk⟩ := int_cell h0 q0
    obtain ⟨nm, rfl, hn⟩ := string_cell h1 q1
    obtain ⟨tw, rfl, ht⟩ := string_cell h2 q2
    obtain ⟨A, c, l, rfl, hb⟩ := bytes_cellD h3 he hCe q3
    obtain ⟨f, rfl, hfi⟩ := int_cell h4 q4
    obtain ⟨B, kc, ks, rfl, hks⟩ := bools_cell h5 hz hCz q5
    exact ⟨⟨k, nm, tw, A, c, l, f, B, kc, ks⟩, rfl, hb, hks, hk, hfi, hn, ht⟩
/-- an act on a store -/
theorem open_sa {g0 g1 g2 g3 g4 f0 f1 f2 f3 f4 f5 : Field} (hg : P.underlying t = some (.struct #[g0, g1, g2, g3, g4])) (i0 : P.underlying g0.type = some (.int .i64)) (i1 : P.underlying g1.type = some .string) (i2 : P.underlying g2.type = some (.slice e)) (hs : P.underlying g3.type = some (.struct #[f0, f1, f2, f3, f4, f5])) (i4 : P.underlying g4.type = some (.slice z))
    (h0 : P.underlying f0.type = some (.int .i64)) (h1 : P.underlying f1.type = some .string) (h2 : P.underlying f2.type = some .string) (h3 : P.underlying f3.type = some (.slice e)) (h4 : P.underlying f4.type = some (.int .i64)) (h5 : P.underlying f5.type = some (.slice z))
    (he : P.underlying e = some (.int .u8)) (hz : P.underlying z = some .bool) (hCe : P.cellsOf e = 1) (hCz : P.cellsOf z = 1) (hone : oneCellFields P #[f0, f1, f2, f3, f4, f5] = true) (hC3 : P.cellsOf g3.type = 6) (hC : P.cellsOf t = 10)
    (o0 : g0.offset = 0) (o1 : g1.offset = 1) (o2 : g2.offset = 2) (o3 : g3.offset = 3) (o4 : g4.offset = 9) (k0 : P.cellsOf g0.type = 1) (k1 : P.cellsOf g1.type = 1) (k2 : P.cellsOf g2.type = 1) (k4 : P.cellsOf g4.type = 1)
    (cs : List Value) (fuel : Nat) (y : DataW H × List MemPlace) (h : DataW.trod enc P w base (fun _ => true) held fuel t cs = some y) : ∃ a : SA, sac a = cs ∧ SAok w a := by
  obtain ⟨xs, n, _, _, hl, hxl, hf⟩ := DataW.trod_struct hg h
  rw [hC] at hl
  have q0 := hf 0 g0 rfl
  have q1 := hf 1 g1 rfl
  have q2 := hf 2 g2 rfl
  have q3 := hf 3 g3 rfl
  have q4 := hf 4 g4 rfl
  have hxl6 : xs.length = 5 := hxl
  rw [List.getElem?_eq_getElem (by omega)] at q0 q1 q2 q3 q4
  match cs, hl with
  | [c0, c1, c2, c3, c4, c5, c6, c7, c8, c9], _ =>
    simp only [o0, k0, List.drop_zero, List.take_succ_cons, List.take_zero] at q0
    simp only [o1, k1, List.drop_succ_cons, List.drop_zero, List.take_succ_cons, List.take_zero] at q1
    simp only [o2, k2, List.drop_succ_cons, List.drop_zero, List.take_succ_cons, List.take_zero] at q2
    simp only [o3, hC3, List.drop_succ_cons, List.drop_zero, List.take_succ_cons, List.take_zero] at q3
    simp only [o4, k4, List.drop_succ_cons, List.drop_zero, List.take_succ_cons, List.take_zero] at q4
    obtain ⟨k, rfl, hk⟩ := int_cell i0 q0
    obtain ⟨nm, rfl, hn⟩ := string_cell i1 q1
    obtain ⟨A, c, l, rfl, hb⟩ := bytes_cellD i2 he hCe q2
    obtain ⟨da, hda, hok⟩ := open_da hs h0 h1 h2 h3 h4 h5 he hz hCe hCz hone hC3 _ _ _ q3
    obtain ⟨B, kc, ks, rfl, hks⟩ := bools_cell i4 hz hCz q4
    refine ⟨⟨k, nm, A, c, l, da, B, kc, ks⟩, ?_, hb, hks, hok, hk, hn⟩
    show [_, _, _] ++ dac da ++ [_] = _
    rw [hda]
    rfl
theorem open_sacts {g0 g1 g2 g3 g4 f0 f1 f2 f3 f4 f5 : Field} (ht : P.underlying u = some (.slice t)) (hg : P.underlying t = some (.struct #[g0, g1, g2, g3, g4])) (i0 : P.underlying g0.type = some (.int .i64)) (i1 : P.underlying g1.type = some .string) (i2 : P.underlying g2.type = some (.slice e)) (hs : P.underlying g3.type = some (.struct #[f0, f1, f2, f3, f4, f5])) (i4 : P.underlying g4.type = some (.slice z))
    (h0 : P.underlying f0.type = some (.int .i64)) (h1 : P.underlying f1.type = some .string) (h2 : P.underlying f2.type = some .string) (h3 : P.underlying f3.type = some (.slice e)) (h4 : P.underlying f4.type = some (.int .i64)) (h5 : P.underlying f5.type = some (.slice z))
    (he : P.underlying e = some (.int .u8)) (hz : P.underlying z = some .bool) (hCe : P.cellsOf e = 1) (hCz : P.cellsOf z = 1) (hone : oneCellFields P #[f0, f1, f2, f3, f4, f5] = true) (hC3 : P.cellsOf g3.type = 6) (hC : P.cellsOf t = 10)
    (o0 : g0.offset = 0) (o1 : g1.offset = 1) (o2 : g2.offset = 2) (o3 : g3.offset = 3) (o4 : g4.offset = 9) (k0 : P.cellsOf g0.type = 1) (k1 : P.cellsOf g1.type = 1) (k2 : P.cellsOf g2.type = 1) (k4 : P.cellsOf g4.type = 1)
    (hv : Value.okWide P w r b0 u v) (h : DataW.Trod enc P w base (fun _ => true) held u v d p) :
    ∃ (A : Option Addr) (c : Nat) (l : List SA), v = .slice A l.length c ∧ SlSA w A c l := by
  obtain ⟨A0, n0, c0, rfl⟩ := okWide_slice ht hv
  obtain ⟨fuel, hf⟩ := h
  obtain ⟨A, c, l, hvv, hl, hq⟩ := open_sliceH sac (SAok w) sac_len (by decide) ht hC (fun cs' nn y hy => open_sa hg i0 i1 i2 hs i4 h0 h1 h2 h3 h4 h5 he hz hCe hCz hone hC3 hC o0 o1 o2 o3 o4 k0 k1 k2 k4 cs' nn y hy) hf
  exact ⟨A, c, l, hvv, hl, hq⟩
end
end Go.Proofs.YtabkeaammiellaaDoor
