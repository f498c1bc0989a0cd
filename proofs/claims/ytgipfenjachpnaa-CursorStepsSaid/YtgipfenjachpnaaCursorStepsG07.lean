/- WHAT IT HOLDS: Later, Put, Word of the package cell, and the law's Document and Long, walked. | WHAT IT HOLDS: the document's small functions of layer 5, walked. | WHAT IT HOLDS: row and alike of the package cell, walked; append as a step of a region that draws. -/
import Derived.Test.YtgipfenjachpnaaCursorStepsG06
import Derived.Laws.StructEq
import Derived.Test.YtgipfenjachpnaaCursorStepsG02
namespace Go.Proofs.Ytgipfenjachpnaa
open Go.RowKit
attribute [local go_sem ↓] Go.wp_at_zero Go.wp_at_succ

/-- the later cell, and whether there is one -/
def LaterOut (w0 : World) (x : Ce × Bool) (e : Ending) (w' : World) : Prop :=
  ∃ A c m, e = .returned (.tuple #[cv x.1.1 A (List.length m) c, .bool x.2]) ∧ Hid (m = x.1.2) ∧ SlB w' A c m ∧ Below w0.heap.size w0 w'


set_option maxRecDepth 100000 in
set_option maxHeartbeats 1000000 in
theorem CLater_any {A A2 : Option Addr} {c c2 : Nat} (k k2 : Int) (d d2 : List UInt8) (w : World) (ha : SlB w A c d) (hb : SlB w A2 c2 d2) (hl : d.length ≤ 1000000000) (hl2 : d2.length ≤ 1000000000) :
    Calls Try.prog 20 #[cv k A d.length c, cv k2 A2 d2.length c2] w (LaterOut w (later (k, d) (k2, d2))) := by
  have hB0 := ((Blk.new w 24 #[.int .i64 k, .slice A d.length c]).alloc (.cells #[.int .i64 k2, .slice A2 d2.length c2] 24)).alloc (.cells #[.int .i64 0, .slice none 0 0] 24)
  have hB1 := (Blk.newAt (w := w.alloc (.cells #[.int .i64 k, .slice A d.length c] 24)) (g := w.heap.size + 1) (by simp) 24 #[.int .i64 k2, .slice A2 d2.length c2]).alloc (.cells #[.int .i64 0, .slice none 0 0] 24)
  have hB2 := Blk.newAt (w := (w.alloc (.cells #[.int .i64 k, .slice A d.length c] 24)).alloc (.cells #[.int .i64 k2, .slice A2 d2.length c2] 24)) (g := w.heap.size + 1 + 1) (by simp) 24 #[.int .i64 0, .slice none 0 0]
  have hbw := bel_alloc (bel_alloc (below_new w (.cells #[.int .i64 k, .slice A d.length c] 24)) (.cells #[.int .i64 k2, .slice A2 d2.length c2] 24)) (.cells #[.int .i64 0, .slice none 0 0] 24)
  have hM := fun W a b => CMay_any (c := c) (c2 := c2) (A := A) (A2 := A2) k k2 d d2 W a b
  have hM2 := fun W a b => CMay_any (c := c2) (c2 := c) (A := A2) (A2 := A) k2 k d2 d W b a
  have hC := fun W h => CCopy_any (A := A) (c := c) k d W h hl
  have hC2 := fun W h => CCopy_any (A := A2) (c := c2) k2 d2 W h hl2
  have hL0 : later (k, d) (k2, d2) = if mayb (k, d) (k2, d2) then ((k2, d2), true) else if mayb (k2, d2) (k, d) then ((k, d), true) else ((0, []), false) := rfl
  generalize mayb (k, d) (k2, d2) = x at *
  generalize mayb (k2, d2) (k, d) = y at *
  have HM := Lib.hid hM
  have HM2 := Lib.hid hM2
  have HC := Lib.hid hC
  have HC2 := Lib.hid hC2
  clear hM hM2 hC hC2
  cases x
  · cases y
    · have hL : Hid (later (k, d) (k2, d2) = ((0, []), false)) := hL0
      clear hL0
      go_enter Try.func20, Try.ntmps20
      go_wp2_with fail
      refine (HM.out _ ?_ ?_).mono ?_
      exact ha.below hbw
      exact hb.below hbw
      rintro e w1 ⟨rfl, hb1⟩
      have hB0 := hB0.below hb1
      have hB1 := hB1.below hb1
      have hB2 := hB2.below hb1
      have hw1 := bel_call hbw hb1
      have hz : w.heap.size + 1 + 1 < w1.heap.size := hB2.lt
      obtain ⟨a0, a1, _, _⟩ := hB0.two
      obtain ⟨b0, b1, _, _⟩ := hB1.two
      obtain ⟨e0, e1, f0, f1⟩ := hB2.two
      clear hb1
      go_wp2_with fail
      refine (HM2.out _ ?_ ?_).mono ?_
      exact ha.below hw1
      exact hb.below hw1
      rintro e w2 ⟨rfl, hb2⟩
      have hB0 := hB0.below hb2
      have hB1 := hB1.below hb2
      have hB2 := hB2.below hb2
      have hw2 := bel_call hw1 hb2
      have hz : w.heap.size + 1 + 1 < w2.heap.size := hB2.lt
      obtain ⟨a0, a1, _, _⟩ := hB0.two
      obtain ⟨b0, b1, _, _⟩ := hB1.two
      obtain ⟨e0, e1, f0, f1⟩ := hB2.two
      clear hb2
      go_wp2_with fail
      refine bodyPost_ret (res_c2 rfl rfl (g := w.heap.size + 1 + 1) (x := .int .i64 0) (y := .slice none 0 0) (hB2.set2 _ _)) rfl ⟨none, 0, [], by rw [hL.out]; rfl, by rw [hL.out]; rfl, Sl.none_ _ _, below_two hw2 (by omega) _ _⟩
    · have hL : Hid (later (k, d) (k2, d2) = ((k, d), true)) := hL0
      clear hL0
      go_enter Try.func20, Try.ntmps20
      go_wp2_with fail
      refine (HM.out _ ?_ ?_).mono ?_
      exact ha.below hbw
      exact hb.below hbw
      rintro e w1 ⟨rfl, hb1⟩
      have hB0 := hB0.below hb1
      have hB1 := hB1.below hb1
      have hB2 := hB2.below hb1
      have hw1 := bel_call hbw hb1
      have hz : w.heap.size + 1 + 1 < w1.heap.size := hB2.lt
      obtain ⟨a0, a1, _, _⟩ := hB0.two
      obtain ⟨b0, b1, _, _⟩ := hB1.two
      obtain ⟨e0, e1, f0, f1⟩ := hB2.two
      clear hb1
      go_wp2_with fail
      refine (HM2.out _ ?_ ?_).mono ?_
      exact ha.below hw1
      exact hb.below hw1
      rintro e w2 ⟨rfl, hb2⟩
      have hB0 := hB0.below hb2
      have hB1 := hB1.below hb2
      have hB2 := hB2.below hb2
      have hw2 := bel_call hw1 hb2
      have hz : w.heap.size + 1 + 1 < w2.heap.size := hB2.lt
      obtain ⟨a0, a1, _, _⟩ := hB0.two
      obtain ⟨b0, b1, _, _⟩ := hB1.two
      obtain ⟨e0, e1, f0, f1⟩ := hB2.two
      clear hb2
      go_wp2_with fail
      refine (HC.out _ (ha.below hw2)).mono ?_
      rintro e w3 ⟨A5, c5, m5, rfl, hm5, ho5, hb3⟩
      have hB2 := hB2.below hb3
      have hw3 := bel_call hw2 hb3
      have hz : w.heap.size + 1 + 1 < w3.heap.size := hB2.lt
      obtain ⟨e0, e1, f0, f1⟩ := hB2.two
      go_wp2_with fail
      refine bodyPost_ret (res_c2 rfl rfl (g := w.heap.size + 1 + 1) (x := .int .i64 k) (y := .slice A5 m5.length c5) (hB2.set2 _ _)) rfl ⟨A5, c5, m5, by rw [hL.out]; rfl, by rw [hL.out]; exact hm5, ?_, below_two hw3 (by omega) _ _⟩
      exact Own.sl (ownsRow_setCell_below (a := ⟨w.heap.size + 1 + 1, 1, none⟩) (ownsRow_setCell_below (a := ⟨w.heap.size + 1 + 1, 0, none⟩) ho5 (by dsimp only; omega) _) (by dsimp only; omega) _)
  · have hL : Hid (later (k, d) (k2, d2) = ((k2, d2), true)) := hL0
    clear hL0
    go_enter Try.func20, Try.ntmps20
    go_wp2_with fail
    refine (HM.out _ ?_ ?_).mono ?_
    exact ha.below hbw
    exact hb.below hbw
    rintro e w1 ⟨rfl, hb1⟩
    have hB0 := hB0.below hb1
    have hB1 := hB1.below hb1
    have hB2 := hB2.below hb1
    have hw1 := bel_call hbw hb1
    have hz : w.heap.size + 1 + 1 < w1.heap.size := hB2.lt
    obtain ⟨a0, a1, _, _⟩ := hB0.two
    obtain ⟨b0, b1, _, _⟩ := hB1.two
    obtain ⟨e0, e1, f0, f1⟩ := hB2.two
    clear hb1
    go_wp2_with fail
    refine (HC2.out _ (hb.below hw1)).mono ?_
    rintro e w2 ⟨A5, c5, m5, rfl, hm5, ho5, hb2⟩
    have hB2 := hB2.below hb2
    have hw2 := bel_call hw1 hb2
    have hz : w.heap.size + 1 + 1 < w2.heap.size := hB2.lt
    obtain ⟨e0, e1, f0, f1⟩ := hB2.two
    go_wp2_with fail
    refine bodyPost_ret (res_c2 rfl rfl (g := w.heap.size + 1 + 1) (x := .int .i64 k2) (y := .slice A5 m5.length c5) (hB2.set2 _ _)) rfl ⟨A5, c5, m5, by rw [hL.out]; rfl, by rw [hL.out]; exact hm5, ?_, below_two hw2 (by omega) _ _⟩
    exact Own.sl (ownsRow_setCell_below (a := ⟨w.heap.size + 1 + 1, 1, none⟩) (ownsRow_setCell_below (a := ⟨w.heap.size + 1 + 1, 0, none⟩) ho5 (by dsimp only; omega) _) (by dsimp only; omega) _)

theorem u64_of_k {k : Int} (h1 : 0 ≤ k) (h2 : k ≤ 3) : ∃ n : Nat, k = (n : Int) ∧ n ≤ 3 := ⟨k.toNat, by omega, by omega⟩
/-- bytes and a cell's bytes, or an error -/
def CPutOut (w0 : World) (l : List UInt8) (x : Ce) (e : Ending) (w' : World) : Prop :=
  Below w0.heap.size w0 w' ∧ ((∃ A c m, cchk x = 0 ∧ e = .returned (.tuple #[.slice A (List.length m) c, .nilIface]) ∧ Hid (m = l ++ cbytes x) ∧ OwnB w' w0.heap.size 5 A c m) ∨ (cchk x ≠ 0 ∧ e = .returned (.tuple #[.slice none 0 0, errv (cchk x)])))

set_option maxRecDepth 100000 in
set_option maxHeartbeats 1000000 in
theorem CPut_any {A E : Option Addr} {c f : Nat} {l : List UInt8} (k : Int) (d : List UInt8) (w : World) (hs : SlB w E f l) (ha : SlB w A c d) (hl : l.length ≤ 1000000) :
    Calls Try.prog 21 #[.slice E l.length f, cv k A d.length c] w (CPutOut w l (k, d)) := by
  have hB0 := Blk.new w 24 #[.int .i64 k, .slice A d.length c]
  have hbw := below_new w (.cells #[.int .i64 k, .slice A d.length c] 24)
  have hC := fun W => CCheck_any (A := A) (c := c) k d W
  have hx : CPutOut w l (k, d) = CPutOut w l (k, d) := rfl
  rcases errv_cases (cchk (k, d)) with ⟨h1, e1⟩ | ⟨n1, p1, q1, e1⟩
  · obtain ⟨hk1, hk2, hdl, hd0⟩ := cchk_ok h1
    dsimp only at hk1 hk2 hdl hd0
    simp only [e1] at hC
    have H1 := Lib.hid h1
    have HC := Lib.hid hC
    clear hC h1 e1
    obtain ⟨n, rfl, hn⟩ := u64_of_k hk1 hk2
    have hu : U64 n := by unfold U64; omega
    have hw := wrap_u64_of hu
    have hvn : Hid (vb n = [UInt8.ofNat n]) := vb_small (by omega)
    rcases Decidable.em (n = 1) with rfl | h11
    · have hcb : Hid (cbytes ((1 : Nat), d) = [1] ++ (vb d.length ++ d)) := (show _ = _ by simp [cbytes])
      go_enter Try.func21, Try.ntmps21
      go_wp2_with fail
      refine (HC.out _).mono ?_
      rintro e w1 ⟨rfl, hb1⟩
      have hB1 := hB0.below hb1
      have hw1 := bel_call hbw hb1
      have hz : w.heap.size < w1.heap.size := hB1.lt
      obtain ⟨a0, a1, _, _⟩ := hB1.two
      go_wp2_with fail
      refine (Put_any E f l (some ⟨w1.heap.size, 0, none⟩) 1 [1] _ (by omega) ((hs.below hw1).below (below_new _ _)) (Sl.lits w1 [nv 1] 118 (by simp [maxLen])) (by simp) (by simp [U64])).mono ?_
      rintro e w2 ⟨A2, c2, m2, rfl, hm2, ho2, hb2⟩
      have hB2 := (hB1.alloc (.cells #[.int .u64 1] 118)).below hb2
      have hw2 := bel_call (bel_alloc hw1 (.cells #[.int .u64 1] 118)) hb2
      have hz2 : w.heap.size < w2.heap.size := hB2.lt
      obtain ⟨a0, a1, _, _⟩ := hB2.two
      have hml : m2.length ≤ 2000000 := by
        rw [hm2.out]
        have : (vb 1).length ≤ 10 := vb_le10 (by omega)
        simp [vbs]
        omega
      go_wp2_with fail
      refine (PutText_any A2 c2 m2 A c d _ (by omega) ho2.sl (ha.below hw2) (by omega)).mono ?_
      rintro e w3 ⟨A3, c3, m3, rfl, hm3, ho3, hb3⟩
      have hw3 := bel_call hw2 hb3
      go_wp2_with fail
      go_ret2
      exact ⟨hw3, .inl ⟨A3, c3, m3, H1.out, rfl, (show _ = _ by rw [hm3.out, hm2.out, hcb.out]; simp [vbs, hvn.out]), ho3.more hw2.size⟩⟩
    · have hcb : Hid (cbytes ((n : Int), d) = [UInt8.ofNat n]) := (show _ = _ by unfold cbytes; rw [if_neg (by simp; omega)]; simp)
      have hnb : ((n : Int) == 1) = false := by simp; omega
      have hnw : IntKind.u64.wrap (n : Int) = (n : Int) := hw
      clear h11
      go_enter Try.func21, Try.ntmps21
      go_wp2_with fail
      refine (HC.out _).mono ?_
      rintro e w1 ⟨rfl, hb1⟩
      have hB1 := hB0.below hb1
      have hw1 := bel_call hbw hb1
      have hz : w.heap.size < w1.heap.size := hB1.lt
      obtain ⟨a0, a1, _, _⟩ := hB1.two
      go_wp2_with fail
      refine (Put_any E f l (some ⟨w1.heap.size, 0, none⟩) 1 [n] _ (by omega) ((hs.below hw1).below (below_new _ _)) (Sl.lits w1 [nv n] 118 (by simp [maxLen])) (by simp) (by intro k hk; simp at hk; subst hk; exact hu)).mono ?_
      rintro e w2 ⟨A2, c2, m2, rfl, hm2, ho2, hb2⟩
      have hB2 := (hB1.alloc (.cells #[.int .u64 (n : Int)] 118)).below hb2
      have hw2 := bel_call (bel_alloc hw1 (.cells #[.int .u64 (n : Int)] 118)) hb2
      have hz2 : w.heap.size < w2.heap.size := hB2.lt
      obtain ⟨a0, a1, _, _⟩ := hB2.two
      go_wp2_with fail
      go_ret2
      exact ⟨hw2, .inl ⟨A2, c2, m2, H1.out, rfl, (show _ = _ by rw [hm2.out, hcb.out]; simp [vbs, hvn.out]), ho2.more (bel_alloc hw1 (.cells #[.int .u64 (n : Int)] 118)).size⟩⟩
  · simp only [e1] at hC
    have HC := Lib.hid hC
    have hne : Hid (cchk (k, d) ≠ 0) := (show _ ≠ _ by omega)
    have he : Hid (errv (cchk (k, d)) = .iface 115 (.int .i64 n1)) := e1
    clear hC q1 e1
    go_enter Try.func21, Try.ntmps21
    go_wp2_with fail
    refine (HC.out _).mono ?_
    rintro e w1 ⟨rfl, hb1⟩
    go_wp2_with fail
    go_ret2
    exact ⟨bel_call hbw hb1, .inr ⟨hne.out, by rw [he.out]; rfl⟩⟩

def cword (k : Int) : List UInt8 := if k = 0 then [101, 109, 112, 116, 121] else if k = 1 then [100, 97, 116, 97] else if k = 2 then [104, 111, 108, 101] else if k = 3 then [116, 114, 105, 109, 109, 101, 100] else []
theorem CWord_any (k : Int) (w : World) : Calls Try.prog 19 #[.int .i64 k] w fun e w' => e = .returned (.string ⟨(cword k).toArray⟩) ∧ w = w' := by
  rcases Decidable.em (k = 0) with rfl | h0
  · go_enter Try.func19, Try.ntmps19
    go_wp2_with fail
    go_ret
    exact ⟨rfl, rfl⟩
  rcases Decidable.em (k = 1) with rfl | h1
  · go_enter Try.func19, Try.ntmps19
    go_wp2_with fail
    go_ret
    exact ⟨rfl, rfl⟩
  rcases Decidable.em (k = 2) with rfl | h2
  · go_enter Try.func19, Try.ntmps19
    go_wp2_with fail
    go_ret
    exact ⟨rfl, rfl⟩
  rcases Decidable.em (k = 3) with rfl | h3
  · go_enter Try.func19, Try.ntmps19
    go_wp2_with fail
    go_ret
    exact ⟨rfl, rfl⟩
  have hc : Hid (cword k = []) := (show _ = _ by unfold cword; rw [if_neg h0, if_neg h1, if_neg h2, if_neg h3])
  have b0 : (k == 0) = false := by simpa using h0
  have b1 : (k == 1) = false := by simpa using h1
  have b2 : (k == 2) = false := by simpa using h2
  have b3 : (k == 3) = false := by simpa using h3
  clear h0 h1 h2 h3
  go_enter Try.func19, Try.ntmps19
  go_wp2_with fail
  go_ret
  exact ⟨by rw [hc.out]; rfl, rfl⟩

/-- the document's cell as a value -/
abbrev dv (k : Int) (d : List UInt8) : Value := .agg #[.int .i64 k, .string ⟨d.toArray⟩]
theorem res_d1 {fn : Func} {a : Nat} {tmps : Array Value} {w : World} {g : Nat} {x y : Value} (hres : fn.results = #[.cell a 29]) (ha : tmps.getD a undef = .pointer (some ⟨g, 0, none⟩)) (hB : Blk w g 29 #[x, y]) :
    (results fn tmps).run Try.prog w = .ok (.agg #[x, y]) w := by
  obtain ⟨b0, b1, _, _⟩ := hB.two
  have ha' : tmps[a]?.getD undef = .pointer (some ⟨g, 0, none⟩) := by simpa using ha
  simp [results, hres, go_sem, b0, b1, ha']
set_option maxRecDepth 100000 in
set_option maxHeartbeats 400000 in
theorem Document_any {A : Option Addr} {c : Nat} (k : Int) (d : List UInt8) (w : World) (ha : SlB w A c d) : Calls Try.prog 12 #[cv k A d.length c] w fun e w' => e = .returned (dv k d) ∧ Below w.heap.size w w' := by
  have hbw := below_new w (.cells #[.int .i64 k, .slice A d.length c] 24)
  have hc := fun o => conv_str (P := Try.prog) 22 9 5 Try.underlying22 Try.underlying5 Try.underlying9 (ha.below (bel_alloc hbw o)) rfl
  have hc0 := conv_str (P := Try.prog) 22 9 5 Try.underlying22 Try.underlying5 Try.underlying9 (ha.below hbw) rfl
  go_enter Try.func12, Try.ntmps12
  go_wp2_with fail
  refine bodyPost_ret (res_d1 rfl rfl (g := w.heap.size + 1) (x := .int .i64 k) (y := .string ⟨d.toArray⟩) (Blk.newAt (by simp) _ _)) rfl ⟨rfl, bel_alloc hbw _⟩

/-- a cell in a slice: kind, address, capacity, bytes -/
abbrev CeV := Int × Option Addr × Nat × List UInt8
abbrev cf (x : CeV) : List Value := [.int .i64 x.1, .slice x.2.1 x.2.2.2.length x.2.2.1]
abbrev ceOf (x : CeV) : Ce := (x.1, x.2.2.2)
/-- cells that can be read -/
def SlC (w : World) (E : Option Addr) (cap : Nat) (l : List CeV) : Prop := Sl w 2 E l.length cap (l.flatMap cf) ∧ ∀ x ∈ l, SlB w x.2.1 x.2.2.1 x.2.2.2
theorem SlC.below {w w' : World} {E : Option Addr} {cap : Nat} {l : List CeV} (h : SlC w E cap l) (hb : Below w.heap.size w w') : SlC w' E cap l := ⟨h.1.below hb, fun x hx => (h.2 x hx).below hb⟩
theorem SlC.at2 {w : World} {E : Option Addr} {cap : Nat} {l : List CeV} (h : SlC w E cap l) {k : Nat} (hk : k < l.length) :
    ∃ ad b o, E = some ad ∧ ad.add (k * 2) = ⟨b, o, none⟩ ∧ w.cell? ⟨b, o, none⟩ = some (.int .i64 l[k].1) ∧ w.cell? ⟨b, o + 1, none⟩ = some (.slice l[k].2.1 l[k].2.2.2.length l[k].2.2.1) ∧ SlB w l[k].2.1 l[k].2.2.1 l[k].2.2.2 := by
  obtain ⟨ad, b, o, h1, h2, h3⟩ := Sl.atS (f := cf) (size := 2) (fun _ => rfl) (by omega) h.1 hk
  exact ⟨ad, b, o, h1, h2, h3 0 _ rfl, h3 1 _ rfl, h.2 _ (List.getElem_mem hk)⟩
def longb (l : List Ce) (most : Int) : Bool := l.any (fun c => decide (100 < c.2.length)) || decide (most < (l.length : Int))

set_option maxRecDepth 100000 in
set_option maxHeartbeats 1000000 in
theorem Long_any {E : Option Addr} {cap : Nat} (l : List CeV) (most : Int) (w : World) (h : SlC w E cap l) : Calls Try.prog 11 #[.slice E l.length cap, .int .i64 most] w fun e w' => e = .returned (.bool (longb (l.map ceOf) most)) ∧ Below w.heap.size w w' := by
  have hmax := h.1.len_le
  unfold maxLen at hmax
  go_enter Try.func11, Try.ntmps11
  go_wp2_with fail
  go_loopw [9] (fun x wr => ∃ k : Nat, k ≤ l.length ∧ x = .int .i64 k ∧ Hid (((l.map ceOf).take k).any (fun c => decide (100 < c.2.length)) = false) ∧ Below w.heap.size w wr) (fun x w => l.length - (intOf x).toNat)
  case atStart => exact ⟨0, Nat.zero_le _, rfl, (show _ = _ from rfl), Below.refl _ _⟩
  case round =>
    obtain ⟨k, hk, rfl, ht, hbr⟩ := hrel
    by_cases hlt : k < l.length
    · obtain ⟨ad, b, o, rfl, had, hc0, hc1, _⟩ := (h.below hbr).at2 hlt
      have hn1 : Hid (100 < l[k].2.2.2.length → longb (l.map ceOf) most = true) := (show _ → _ from fun h => by
        unfold longb
        rw [Bool.or_eq_true]
        left
        rw [List.any_eq_true]
        exact ⟨ceOf l[k], List.mem_map_of_mem (List.getElem_mem hlt), by simpa using h⟩)
      have hn2 : Hid (¬ 100 < l[k].2.2.2.length → ((l.map ceOf).take (k + 1)).any (fun c => decide (100 < c.2.length)) = false) := (show _ → _ from fun h => by
        rw [List.take_succ_eq_append_getElem (by simpa using hlt), List.any_append, ht.out]
        simp at h ⊢
        exact h)
      generalize l[k] = x at *
      obtain ⟨kk, A, c, d⟩ := x
      dsimp only at *
      by_cases hlong : 100 < d.length
      · have hr := hn1.out hlong
        have HR := Lib.hid hr
        clear hr
        go_wp2_with fail
        go_ret
        exact ⟨by rw [HR.out]; rfl, bel_alloc hbr _⟩
      · have hr := Lib.hid (hn2.out hlong)
        go_wp2_with fail
        go_roundw
        case rel => exact ⟨k + 1, hlt, by go_num, hr.out, bel_alloc hbr _⟩
        case measure => simp [intOf]; omega
    · have hf : Hid (longb (l.map ceOf) most = decide (most < (l.length : Int))) := (show _ = _ by
        have h1 := ht.out
        rw [List.take_of_length_le (by simp; omega)] at h1
        unfold longb
        rw [h1]
        simp)
      go_wp2_with fail
      go_ret
      exact ⟨by rw [hf.out]; rfl, hbr⟩
end Go.Proofs.Ytgipfenjachpnaa

namespace Go.Proofs.Ytgipfenjachpnaa
open Go.RowKit
attribute [local go_sem ↓] Go.wp_at_zero Go.wp_at_succ

/-- what '[]byte(s)' leaves -/
def cvCap (w : World) (e : TypeId) (d : List UInt8) : Nat := grownCap w d.length 0 e
def cvWorld (w : World) (e : TypeId) (d : List UInt8) : World := w.drew.alloc (.cells (bytesRow ⟨d.toArray⟩ (cvCap w e d)) e ((bytesRow ⟨d.toArray⟩ (cvCap w e d)).size, (bytesRow ⟨d.toArray⟩ (cvCap w e d)).size + 1))
theorem conv_bytes {P : Program} (w : World) (src dst e : TypeId) (d : List UInt8) (hs : P.underlying src = some .string) (hd : P.underlying dst = some (.slice e)) (he : P.underlying e = some (.int .u8)) :
    (convert src dst (.string ⟨d.toArray⟩)).run P w = .ok (.slice (some ⟨w.heap.size, 0, none⟩) d.length (cvCap w e d)) (cvWorld w e d) := run_bytes_of_string w src dst e ⟨d.toArray⟩ hs hd he
theorem conv_below (w : World) (e : TypeId) (d : List UInt8) : Below w.heap.size w (cvWorld w e d) := (Below.refl _ _).drew.alloc (Nat.le_refl _) _
theorem conv_sl (w : World) (e : TypeId) (d : List UInt8) (h : d.length ≤ maxLen) {g : Nat} (hg : g = w.heap.size) : SlB (cvWorld w e d) (some ⟨g, 0, none⟩) (cvCap w e d) d := by
  subst hg
  refine ⟨by simp, grownCap_ge _ _ _ _, grownCap_le_maxLen _ _ _ _ h, (fun h => by cases h), fun j u hj => ⟨_, rfl, ?_⟩⟩
  rw [addr_lit, Nat.zero_add]
  have hl : j < d.length := by
    have := (List.getElem?_eq_some_iff.1 hj).1
    simpa using this
  have h1 := cell_of_row (cvWorld w e d) w.heap.size j _ e _ (heap_alloc_new w.drew _)
  rw [h1, bytesRow_at ⟨d.toArray⟩ _ j hl]
  rw [← hj]
  simp [List.getElem?_eq_getElem hl]
theorem beq_arr (d d2 : List UInt8) : ((⟨d.toArray⟩ : ByteArray) == ⟨d2.toArray⟩) = (d == d2) := by
  rw [beq_toListBytes]
  simp [ByteArray.toList_eq]
theorem same_beq (k k2 : Int) (d d2 : List UInt8) : same (k, d) (k2, d2) = (k == k2 && d == d2) := by unfold same; rw [Bool.eq_iff_iff]; simp
theorem eq_dv (k k2 : Int) (d d2 : List UInt8) (w : World) : (binOp .eql 29 (dv k d) (dv k2 d2)).run Try.prog w = .ok (.bool (same (k, d) (k2, d2))) w := by
  rw [same_beq]
  simp only [binOp]
  cases hk : k == k2 <;> by_cases hd : d = d2 <;> simp [go_sem, Op.equal, Op.maxDepth, Try.underlying29, Try.underlying3, Try.underlying9, hk, hd]
theorem neq_dv (k k2 : Int) (d d2 : List UInt8) (w : World) : (binOp .neq 29 (dv k d) (dv k2 d2)).run Try.prog w = .ok (.bool (!same (k, d) (k2, d2))) w := by
  rw [same_beq]
  simp only [binOp]
  cases hk : k == k2 <;> by_cases hd : d = d2 <;> simp [go_sem, Op.equal, Op.maxDepth, Try.underlying29, Try.underlying3, Try.underlying9, hk, hd]

set_option maxRecDepth 100000 in
set_option maxHeartbeats 400000 in
theorem rCheck_any (k : Int) (d : List UInt8) (w : World) : Calls Try.prog 13 #[dv k d] w fun e w' => e = .returned (.int .i64 (cchk (k, d) : Nat)) ∧ Below w.heap.size w w' := by
  rcases cchk_cases (k, d) with ⟨h1, hc⟩ | ⟨h1, h2, hc⟩ | ⟨h1, h2, h3, hc⟩ | ⟨h1, h2, h3, h4, h5, hc⟩ | ⟨h1, h2, h3, hc⟩ | ⟨h1, h2, h3, hc⟩
  case inr.inr.inr.inl =>
    have hb : (k != 1) = true := by simpa using h5
    have HC := Lib.hid hc
    clear hc h5
    dsimp only at *
    go_enter Try.func13, Try.ntmps13
    go_wp2_with fail
    go_ret
    exact ⟨by rw [HC.out]; rfl, below_new _ _⟩
  case inr.inr.inr.inr.inl =>
    obtain rfl : d = [] := List.eq_nil_of_length_eq_zero h3
    have HC := Lib.hid hc
    clear hc h3
    dsimp only at *
    by_cases hk : k = 1
    · subst hk
      go_enter Try.func13, Try.ntmps13
      go_wp2_with fail
      go_ret
      exact ⟨by rw [HC.out]; rfl, below_new _ _⟩
    · have hb : (k != 1) = true := by simpa using hk
      clear hk
      go_enter Try.func13, Try.ntmps13
      go_wp2_with fail
      go_ret
      exact ⟨by rw [HC.out]; rfl, below_new _ _⟩
  case inr.inr.inr.inr.inr =>
    dsimp only at h3
    subst h3
    have HC := Lib.hid hc
    clear hc
    dsimp only at *
    go_enter Try.func13, Try.ntmps13
    go_wp2_with fail
    go_ret
    exact ⟨by rw [HC.out]; rfl, below_new _ _⟩
  all_goals
    have HC := Lib.hid hc
    clear hc
    dsimp only at *
    go_enter Try.func13, Try.ntmps13
    go_wp2_with fail
    go_ret
    exact ⟨by rw [HC.out]; rfl, below_new _ _⟩

set_option maxRecDepth 100000 in
set_option maxHeartbeats 1000000 in
theorem rMay_any (k k2 : Int) (d d2 : List UInt8) (w : World) : Calls Try.prog 18 #[dv k d, dv k2 d2] w fun e w' => e = .returned (.bool (rmay (k, d) (k2, d2))) ∧ Below w.heap.size w w' := by
  have hB0 := (Blk.new w 29 #[.int .i64 k, .string ⟨d.toArray⟩]).alloc (.cells #[.int .i64 k2, .string ⟨d2.toArray⟩] 29)
  have hB1 := Blk.newAt (w := w.alloc (.cells #[.int .i64 k, .string ⟨d.toArray⟩] 29)) (g := w.heap.size + 1) (by simp) 29 #[.int .i64 k2, .string ⟨d2.toArray⟩]
  have hbw := bel_alloc (below_new w (.cells #[.int .i64 k, .string ⟨d.toArray⟩] 29)) (.cells #[.int .i64 k2, .string ⟨d2.toArray⟩] 29)
  have hC1 := fun W => rCheck_any k d W
  have hC2 := fun W => rCheck_any k2 d2 W
  have he : ∀ W, (binOp .eql 29 (dv k d) (dv k2 d2)).run Try.prog W = .ok (.bool (same (k, d) (k2, d2))) W := fun W => eq_dv k k2 d d2 W
  rcases Decidable.em (cchk (k, d) = 0) with h1 | h1
  · rcases Decidable.em (cchk (k2, d2) = 0) with h2 | h2
    · have hk1 : 0 ≤ k := (cchk_ok h1).1
      have hk2 : k ≤ 3 := (cchk_ok h1).2.1
      rw [h1] at hC1
      rw [h2] at hC2
      have hR : Hid (rmay (k, d) (k2, d2) = (same (k, d) (k2, d2) || (decide (k = 0) || ((decide (k = 1) || decide (k = 2)) && decide (k2 = 3))))) := (show _ = _ by
        unfold rmay same
        rw [Bool.eq_iff_iff]
        simp [h1, h2])
      have C1 := Lib.hid hC1
      have C2 := Lib.hid hC2
      clear hC1 hC2 h1 h2
      cases hs : same (k, d) (k2, d2)
      · rw [hs] at hR he
        have hk : k = 0 ∨ k = 1 ∨ k = 2 ∨ k = 3 := by omega
        clear hk1 hk2 hs
        rcases hk with rfl | rfl | rfl | rfl
        · have hM : Hid (rmay (0, d) (k2, d2) = true) := (show _ = _ by rw [hR.out]; simp)
          go_enter Try.func18, Try.ntmps18
          go_wp2_with fail
          refine (C1.out _).mono ?_
          rintro e w1 ⟨rfl, hb1⟩
          obtain ⟨a0, a1, _, _⟩ := (hB0.below hb1).two
          obtain ⟨b0, b1, _, _⟩ := (hB1.below hb1).two
          have hw1 := bel_call hbw hb1
          have hz : w.heap.size + 1 < w1.heap.size := by have := hb1.size; simp at this; omega
          go_wp2_with fail
          refine (C2.out _).mono ?_
          rintro e w2 ⟨rfl, hb2⟩
          obtain ⟨a0, a1, _, _⟩ := ((hB0.below hb1).below hb2).two
          obtain ⟨b0, b1, _, _⟩ := ((hB1.below hb1).below hb2).two
          have hw2 := bel_call hw1 hb2
          have hz2 : w.heap.size + 1 < w2.heap.size := by have := hb2.size; omega
          go_wp2_with fail
          go_ret
          exact ⟨by rw [hM.out]; rfl, hw2⟩
        · rcases Decidable.em (k2 = 3) with rfl | h3
          · have hM : Hid (rmay (1, d) (3, d2) = true) := (show _ = _ by rw [hR.out]; simp)
            go_enter Try.func18, Try.ntmps18
            go_wp2_with fail
            refine (C1.out _).mono ?_
            rintro e w1 ⟨rfl, hb1⟩
            obtain ⟨a0, a1, _, _⟩ := (hB0.below hb1).two
            obtain ⟨b0, b1, _, _⟩ := (hB1.below hb1).two
            have hw1 := bel_call hbw hb1
            have hz : w.heap.size + 1 < w1.heap.size := by have := hb1.size; simp at this; omega
            go_wp2_with fail
            refine (C2.out _).mono ?_
            rintro e w2 ⟨rfl, hb2⟩
            obtain ⟨a0, a1, _, _⟩ := ((hB0.below hb1).below hb2).two
            obtain ⟨b0, b1, _, _⟩ := ((hB1.below hb1).below hb2).two
            have hw2 := bel_call hw1 hb2
            have hz2 : w.heap.size + 1 < w2.heap.size := by have := hb2.size; omega
            go_wp2_with fail
            go_ret
            exact ⟨by rw [hM.out]; rfl, hw2⟩
          · have hM : Hid (rmay (1, d) (k2, d2) = false) := (show _ = _ by rw [hR.out]; simp [h3])
            have hb3 : (k2 == 3) = false := by simpa using h3
            clear h3
            go_enter Try.func18, Try.ntmps18
            go_wp2_with fail
            refine (C1.out _).mono ?_
            rintro e w1 ⟨rfl, hb1⟩
            obtain ⟨a0, a1, _, _⟩ := (hB0.below hb1).two
            obtain ⟨b0, b1, _, _⟩ := (hB1.below hb1).two
            have hw1 := bel_call hbw hb1
            have hz : w.heap.size + 1 < w1.heap.size := by have := hb1.size; simp at this; omega
            go_wp2_with fail
            refine (C2.out _).mono ?_
            rintro e w2 ⟨rfl, hb2⟩
            obtain ⟨a0, a1, _, _⟩ := ((hB0.below hb1).below hb2).two
            obtain ⟨b0, b1, _, _⟩ := ((hB1.below hb1).below hb2).two
            have hw2 := bel_call hw1 hb2
            have hz2 : w.heap.size + 1 < w2.heap.size := by have := hb2.size; omega
            go_wp2_with fail
            go_ret
            exact ⟨by rw [hM.out]; rfl, hw2⟩
        · rcases Decidable.em (k2 = 3) with rfl | h3
          · have hM : Hid (rmay (2, d) (3, d2) = true) := (show _ = _ by rw [hR.out]; simp)
            go_enter Try.func18, Try.ntmps18
            go_wp2_with fail
            refine (C1.out _).mono ?_
            rintro e w1 ⟨rfl, hb1⟩
            obtain ⟨a0, a1, _, _⟩ := (hB0.below hb1).two
            obtain ⟨b0, b1, _, _⟩ := (hB1.below hb1).two
            have hw1 := bel_call hbw hb1
            have hz : w.heap.size + 1 < w1.heap.size := by have := hb1.size; simp at this; omega
            go_wp2_with fail
            refine (C2.out _).mono ?_
            rintro e w2 ⟨rfl, hb2⟩
            obtain ⟨a0, a1, _, _⟩ := ((hB0.below hb1).below hb2).two
            obtain ⟨b0, b1, _, _⟩ := ((hB1.below hb1).below hb2).two
            have hw2 := bel_call hw1 hb2
            have hz2 : w.heap.size + 1 < w2.heap.size := by have := hb2.size; omega
            go_wp2_with fail
            go_ret
            exact ⟨by rw [hM.out]; rfl, hw2⟩
          · have hM : Hid (rmay (2, d) (k2, d2) = false) := (show _ = _ by rw [hR.out]; simp [h3])
            have hb3 : (k2 == 3) = false := by simpa using h3
            clear h3
            go_enter Try.func18, Try.ntmps18
            go_wp2_with fail
            refine (C1.out _).mono ?_
            rintro e w1 ⟨rfl, hb1⟩
            obtain ⟨a0, a1, _, _⟩ := (hB0.below hb1).two
            obtain ⟨b0, b1, _, _⟩ := (hB1.below hb1).two
            have hw1 := bel_call hbw hb1
            have hz : w.heap.size + 1 < w1.heap.size := by have := hb1.size; simp at this; omega
            go_wp2_with fail
            refine (C2.out _).mono ?_
            rintro e w2 ⟨rfl, hb2⟩
            obtain ⟨a0, a1, _, _⟩ := ((hB0.below hb1).below hb2).two
            obtain ⟨b0, b1, _, _⟩ := ((hB1.below hb1).below hb2).two
            have hw2 := bel_call hw1 hb2
            have hz2 : w.heap.size + 1 < w2.heap.size := by have := hb2.size; omega
            go_wp2_with fail
            go_ret
            exact ⟨by rw [hM.out]; rfl, hw2⟩
        · have hM : Hid (rmay (3, d) (k2, d2) = false) := (show _ = _ by rw [hR.out]; simp)
          go_enter Try.func18, Try.ntmps18
          go_wp2_with fail
          refine (C1.out _).mono ?_
          rintro e w1 ⟨rfl, hb1⟩
          obtain ⟨a0, a1, _, _⟩ := (hB0.below hb1).two
          obtain ⟨b0, b1, _, _⟩ := (hB1.below hb1).two
          have hw1 := bel_call hbw hb1
          have hz : w.heap.size + 1 < w1.heap.size := by have := hb1.size; simp at this; omega
          go_wp2_with fail
          refine (C2.out _).mono ?_
          rintro e w2 ⟨rfl, hb2⟩
          obtain ⟨a0, a1, _, _⟩ := ((hB0.below hb1).below hb2).two
          obtain ⟨b0, b1, _, _⟩ := ((hB1.below hb1).below hb2).two
          have hw2 := bel_call hw1 hb2
          have hz2 : w.heap.size + 1 < w2.heap.size := by have := hb2.size; omega
          go_wp2_with fail
          go_ret
          exact ⟨by rw [hM.out]; rfl, hw2⟩
      · rw [hs] at hR he
        have hM : Hid (rmay (k, d) (k2, d2) = true) := (show _ = _ by rw [hR.out]; simp)
        clear hk1 hk2 hs
        go_enter Try.func18, Try.ntmps18
        go_wp2_with fail
        refine (C1.out _).mono ?_
        rintro e w1 ⟨rfl, hb1⟩
        obtain ⟨a0, a1, _, _⟩ := (hB0.below hb1).two
        obtain ⟨b0, b1, _, _⟩ := (hB1.below hb1).two
        have hw1 := bel_call hbw hb1
        have hz : w.heap.size + 1 < w1.heap.size := by have := hb1.size; simp at this; omega
        go_wp2_with fail
        refine (C2.out _).mono ?_
        rintro e w2 ⟨rfl, hb2⟩
        obtain ⟨a0, a1, _, _⟩ := ((hB0.below hb1).below hb2).two
        obtain ⟨b0, b1, _, _⟩ := ((hB1.below hb1).below hb2).two
        have hw2 := bel_call hw1 hb2
        have hz2 : w.heap.size + 1 < w2.heap.size := by have := hb2.size; omega
        go_wp2_with fail
        go_ret
        exact ⟨by rw [hM.out]; rfl, hw2⟩
    · rw [h1] at hC1
      have hn2 : (((cchk (k2, d2) : Nat) : Int) != 0) = true := by simp; omega
      have C1 := Lib.hid hC1
      have C2 := Lib.hid hC2
      have hM : Hid (rmay (k, d) (k2, d2) = false) := (show _ = _ by unfold rmay; rw [decide_eq_false (by omega)])
      clear hC1 hC2 h1 h2 he
      go_enter Try.func18, Try.ntmps18
      go_wp2_with fail
      refine (C1.out _).mono ?_
      rintro e w1 ⟨rfl, hb1⟩
      obtain ⟨a0, a1, _, _⟩ := (hB0.below hb1).two
      obtain ⟨b0, b1, _, _⟩ := (hB1.below hb1).two
      have hw1 := bel_call hbw hb1
      have hz : w.heap.size + 1 < w1.heap.size := by have := hb1.size; simp at this; omega
      go_wp2_with fail
      refine (C2.out _).mono ?_
      rintro e w2 ⟨rfl, hb2⟩
      obtain ⟨a0, a1, _, _⟩ := ((hB0.below hb1).below hb2).two
      obtain ⟨b0, b1, _, _⟩ := ((hB1.below hb1).below hb2).two
      have hw2 := bel_call hw1 hb2
      have hz2 : w.heap.size + 1 < w2.heap.size := by have := hb2.size; omega
      go_wp2_with fail
      go_ret
      exact ⟨by rw [hM.out]; rfl, hw2⟩
  · have hn1 : (((cchk (k, d) : Nat) : Int) != 0) = true := by simp; omega
    have C1 := Lib.hid hC1
    have hM : Hid (rmay (k, d) (k2, d2) = false) := (show _ = _ by unfold rmay; rw [decide_eq_false (by omega)])
    clear hC1 hC2 h1 he
    go_enter Try.func18, Try.ntmps18
    go_wp2_with fail
    refine (C1.out _).mono ?_
    rintro e w1 ⟨rfl, hb1⟩
    obtain ⟨a0, a1, _, _⟩ := (hB0.below hb1).two
    obtain ⟨b0, b1, _, _⟩ := (hB1.below hb1).two
    have hw1 := bel_call hbw hb1
    have hz : w.heap.size + 1 < w1.heap.size := by have := hb1.size; simp at this; omega
    go_wp2_with fail
    go_ret
    exact ⟨by rw [hM.out]; rfl, hw1⟩

/-- one byte, laid in a block of its own -/
theorem Own.lits1 {w : World} {g : Nat} (hg : g = w.heap.size) (e : TypeId) (b : UInt8) : OwnB (w.alloc (.cells #[bv b] e)) w.heap.size e (some ⟨g, 0, none⟩) 1 [b] := by
  subst hg
  exact World.ownsRow_lit w #[bv b] 1 (Nat.le_refl _) (by simp [maxLen]) (by simp)
set_option maxRecDepth 100000 in
set_option maxHeartbeats 400000 in
theorem rBytes5_any (k : Int) (d : List UInt8) (w : World) (hk : 0 ≤ k ∧ k ≤ 3) (hd : d.length ≤ 1000000) : Calls Try.prog 24 #[dv k d] w (GivesB w (cbytes (k, d))) := by
  rcases Decidable.em (k = 1) with rfl | h1
  · have hcb : Hid (cbytes (1, d) = [1] ++ (vb d.length ++ d)) := (show _ = _ by simp [cbytes])
    have hbw := below_new w (.cells #[.int .i64 1, .string ⟨d.toArray⟩] 29)
    clear hk
    have hcs := fun W => conv_bytes (P := Try.prog) W 9 22 5 d Try.underlying9 Try.underlying22 Try.underlying5
    go_enter Try.func24, Try.ntmps24
    go_wp2_with fail
    have hbd := bel_alloc hbw (.cells #[.int .u8 1] 5)
    have hbc := bel_call hbd (conv_below _ 5 d)
    have hsc := conv_sl ((w.alloc (.cells #[.int .i64 1, .string ⟨d.toArray⟩] 29)).alloc (.cells #[.int .u8 1] 5)) 5 d (by unfold maxLen; omega) (g := w.heap.size + 1 + 1) (by simp)
    have hon0 : OwnB ((w.alloc (.cells #[.int .i64 1, .string ⟨d.toArray⟩] 29)).alloc (.cells #[.int .u8 1] 5)) w.heap.size 5 (some ⟨w.heap.size + 1, 0, none⟩) 1 [1] := Own.more (Own.lits1 (w := w.alloc (.cells #[.int .i64 1, .string ⟨d.toArray⟩] 29)) (g := w.heap.size + 1) (by simp) 5 1) (by simp)
    have hon := hon0.below (conv_below _ 5 d)
    generalize cvWorld _ _ _ = w2 at *
    generalize cvCap _ _ _ = c2 at *
    clear hcs
    refine (rText_any _ c2 d w2 hsc (by omega)).mono ?_
    rintro e w3 ⟨A3, c3, m3, rfl, hm3, ho3, hb3⟩
    have hml : m3.length ≤ 2000000 := by
      have hu : U64 d.length := by unfold U64; omega
      have := vb_le10 hu
      rw [hm3.out]
      simp only [List.length_append]
      omega
    go_wp2_with (at_builtin; go_must (refine wpl_bytes 22 5 Try.underlying22 u8_info rfl (.tmp 6) (.tmp 10) rfl w.heap.size (some ⟨w.heap.size + 1, 0, none⟩) 1 [1] rfl (hon.below hb3) A3 c3 m3 rfl ho3.sl (by simp; omega) (bel_call hbc hb3).size ?_; intro A4 c4 m4 w4 hm4 ho4 _ _ hb4))
    go_ret
    exact ⟨A4, c4, m4, rfl, (show _ = _ by rw [hm4.out, hm3.out, hcb.out]), ho4, (bel_call hbc hb3).trans hb4⟩
  · have hcb : Hid (cbytes (k, d) = [UInt8.ofNat k.toNat]) := (show _ = _ by unfold cbytes; rw [if_neg h1])
    have hkb : (k == 1) = false := by simpa using h1
    obtain ⟨hk1, hk2⟩ := hk
    have hu : ((UInt8.ofNat k.toNat).toNat : Int) = k := by simp; omega
    have HU := Lib.hid hu
    clear h1 hu
    go_enter Try.func24, Try.ntmps24
    go_wp2_with fail
    go_ret
    refine ⟨some ⟨w.heap.size + 1, 0, none⟩, 1, [UInt8.ofNat k.toNat], rfl, (show _ = _ by rw [hcb.out]), ?_, bel_alloc (below_new w _) _⟩
    have := (Own.lits1 (w := w.alloc (.cells #[.int .i64 k, .string ⟨d.toArray⟩] 29)) (g := w.heap.size + 1) (by simp) 5 (UInt8.ofNat k.toNat)).more (base' := w.heap.size) (by simp)
    simp only [bv, HU.out] at this
    exact this
end Go.Proofs.Ytgipfenjachpnaa

namespace Go.Proofs.Ytgipfenjachpnaa
open Go.RowKit
attribute [local go_sem ↓] Go.wp_at_zero Go.wp_at_succ


theorem u8_eq_iff {x y : UInt8} : ((x.toNat : Int) == (y.toNat : Int)) = true ↔ x = y := by
  rw [beq_iff_eq]
  constructor
  · intro h; exact UInt8.toNat_inj.1 (by omega)
  · rintro rfl; rfl
set_option maxRecDepth 100000 in
set_option maxHeartbeats 1000000 in
theorem alike_any (A B : Option Addr) (c d : Nat) (xs ys : List UInt8) (w : World) (ha : SlB w A c xs) (hb : SlB w B d ys) :
    Calls Try.prog 110 #[.slice A xs.length c, .slice B ys.length d] w fun e w' => e = .returned (.int .i64 (cpl xs ys : Nat)) ∧ Below w.heap.size w w' := by
  have hm1 := ha.len_le
  have hm2 := hb.len_le
  unfold maxLen at hm1 hm2
  go_enter Try.func110, Try.ntmps110
  go_wp2_with fail
  go_loopw [5] (fun x wr => ∃ k : Nat, k ≤ xs.length ∧ k ≤ ys.length ∧ x = .int .i64 k ∧ Hid (xs.take k = ys.take k) ∧ Below w.heap.size w wr) (fun x w => xs.length - (intOf x).toNat)
  case atStart => exact ⟨0, Nat.zero_le _, Nat.zero_le _, rfl, (show _ = _ by simp), Below.refl _ _⟩
  case round =>
    obtain ⟨k, hk1, hk2, rfl, ht, hbr⟩ := hrel
    rcases Decidable.em (k < xs.length ∧ k < ys.length) with hlt | hlt
    · obtain ⟨hl1, hl2⟩ := hlt
      obtain ⟨ad, rfl, hc⟩ := (ha.below hbr).at1 hl1
      obtain ⟨ad2, rfl, hc2⟩ := (hb.below hbr).at1 hl2
      have hts := Lib.hid (take_succ_eq ht.out hl1 hl2)
      have hend := Lib.hid (fun h => cpl_end hk1 hk2 ht.out (.inr (.inr ⟨hl1, hl2, h⟩)))
      have hmin : decide ((k : Int) < min (xs.length : Int) (ys.length : Int)) = true := by simp; omega
      generalize xs[k] = x at *
      generalize ys[k] = y at *
      by_cases hxy : x = y
      · have hxb : ((x.toNat : Int) == (y.toNat : Int)) = true := u8_eq_iff.2 hxy
        have Hxy := Lib.hid hxy
        clear hxy
        go_wp2_with fail
        go_quiet (fail)
        go_wp2_with fail
        go_roundw
        case rel => exact ⟨k + 1, hl1, hl2, by go_num, hts.out.2 Hxy.out, below_drewN hbr _⟩
        case measure => simp [intOf]; omega
      · have hxb : ((x.toNat : Int) == (y.toNat : Int)) = false := by rw [Bool.eq_false_iff]; exact fun h => hxy (u8_eq_iff.1 h)
        have he := Lib.hid (hend.out hxy)
        clear hxy
        go_wp2_with fail
        go_quiet (fail)
        go_wp2_with fail
        go_ret
        exact ⟨by rw [he.out]; rfl, below_drewN hbr _⟩
    · have hmin : decide ((k : Int) < min (xs.length : Int) (ys.length : Int)) = false := by simp; omega
      have he := Lib.hid (cpl_end hk1 hk2 ht.out (by omega))
      go_wp2_with fail
      go_quiet (fail)
      go_wp2_with fail
      go_ret
      exact ⟨by rw [he.out]; rfl, below_drewN hbr _⟩

set_option maxRecDepth 100000 in
set_option maxHeartbeats 1000000 in
theorem row_any {E : Option Addr} {cap : Nat} (l : List CeV) (w : World) (h : SlC w E cap l) : Calls Try.prog 116 #[.slice E l.length cap] w fun e w' => e = .returned (.int .i64 (rowN (l.map ceOf) : Nat)) ∧ Below w.heap.size w w' := by
  have hmax := h.1.len_le
  unfold maxLen at hmax
  rcases Nat.eq_zero_or_pos l.length with h0 | hpos
  · obtain rfl := List.eq_nil_of_length_eq_zero h0
    clear h0
    go_enter Try.func116, Try.ntmps116
    go_wp2_with fail
    refine wp_loop_rounds 1 ?_
    rw [rounds_succ]
    have hlt : decide ((0 : Int) < 0) = false := by decide
    go_wp2_with fail
    go_quiet (fail)
    go_wp2_with fail
    go_ret
    exact ⟨rfl, below_drewN (Below.refl _ _) _⟩
  · have hend : ∀ n, n ≤ (l.map ceOf).length → (∀ j (h : j < (l.map ceOf).length), j < n → (l.map ceOf)[j].1 ≠ 1 ∧ (l.map ceOf)[j].1 = (l[0]'hpos).1) → (n = (l.map ceOf).length ∨ ∃ h : n < (l.map ceOf).length, ¬ ((l.map ceOf)[n].1 ≠ 1 ∧ (l.map ceOf)[n].1 = (l[0]'hpos).1)) → rowGo (l[0]'hpos).1 (l.map ceOf) = n := fun n hn ha hs => rowGo_end hn ha hs
    have hrow : rowN (l.map ceOf) = rowGo (l[0]'hpos).1 (l.map ceOf) := by
      cases l
      · simp at hpos
      · rfl
    obtain ⟨ad0, b0, o0, hE0, had0, hc00, _, _⟩ := h.at2 (k := 0) hpos
    have HE := Lib.hid hend
    have HR := Lib.hid hrow
    clear hend hrow
    obtain rfl : ad0 = ⟨b0, o0, none⟩ := by simpa [Addr.add] using had0
    subst hE0
    generalize l[0].1 = k0 at *
    clear had0
    go_enter Try.func116, Try.ntmps116
    go_wp2_with fail
    go_loopw [3] (fun x wr => ∃ n : Nat, n ≤ l.length ∧ x = .int .i64 n ∧ Hid (∀ j (h : j < (l.map ceOf).length), j < n → (l.map ceOf)[j].1 ≠ 1 ∧ (l.map ceOf)[j].1 = k0) ∧ Below w.heap.size w wr) (fun x w => l.length - (intOf x).toNat)
    case atStart => exact ⟨0, Nat.zero_le _, rfl, (fun j _ hj => by omega), Below.refl _ _⟩
    case round =>
      obtain ⟨n, hn, rfl, hall, hbr⟩ := hrel
      have hbl := World.block_lt_of_cell? w _ hc00
      have hc00r := (hbr.cell (p := ⟨b0, o0, none⟩) hbl).trans hc00
      by_cases hlt : n < l.length
      · obtain ⟨ad, b, o, hE, had, hc0, _, _⟩ := (h.below hbr).at2 hlt
        injection hE with hE
        subst hE
        rw [addr_lit] at had
        injection had with hb hoo
        subst hb
        subst hoo
        have hst := Lib.hid (fun hc => HE.out n (by simpa using hn) hall.out (.inr ⟨by simpa using hlt, by simpa using hc⟩))
        have hnx : Hid (l[n].1 ≠ 1 → l[n].1 = k0 → ∀ j (h : j < (l.map ceOf).length), j < n + 1 → (l.map ceOf)[j].1 ≠ 1 ∧ (l.map ceOf)[j].1 = k0) := (show _ → _ → _ from fun h1 h2 j hj hjn => by
          by_cases e : j = n
          · subst e; simpa using ⟨h1, h2⟩
          · exact hall.out j hj (by omega))
        generalize l[n].1 = k at *
        rcases Decidable.em (k = 1) with h1 | h1
        · have hb1 : (k != 1) = false := by simpa using h1
          have hR := Lib.hid (hst.out (fun h => absurd h1 h))
          clear h1
          go_wp2_with fail
          go_quiet (fail)
          go_wp2_with fail
          go_ret
          exact ⟨by rw [HR.out, hR.out]; rfl, below_drewN hbr _⟩
        · have hb1 : (k != 1) = true := by simpa using h1
          rcases Decidable.em (k = k0) with h2 | h2
          · have hb2 : (k == k0) = true := by simpa using h2
            have hN := Lib.hid (hnx.out h1 h2)
            clear h1 h2
            go_wp2_with fail
            go_quiet (fail)
            go_wp2_with fail
            go_roundw
            case rel => exact ⟨n + 1, hlt, by go_num, hN.out, below_drewN hbr _⟩
            case measure => simp [intOf]; omega
          · have hb2 : (k == k0) = false := by simpa using h2
            have hR := Lib.hid (hst.out (fun _ => h2))
            clear h1 h2
            go_wp2_with fail
            go_quiet (fail)
            go_wp2_with fail
            go_ret
            exact ⟨by rw [HR.out, hR.out]; rfl, below_drewN hbr _⟩
      · have hR := Lib.hid (HE.out n (by simpa using hn) hall.out (.inl (by simp; omega)))
        go_wp2_with fail
        go_quiet (fail)
        go_wp2_with fail
        go_ret
        exact ⟨by rw [HR.out, hR.out]; rfl, below_drewN hbr _⟩
end Go.Proofs.Ytgipfenjachpnaa
