/- WHAT IT HOLDS: the bytes of parcels, and Same of parcels, walked. | WHAT IT HOLDS: cell.Take, and cells held against the document's, walked. | WHAT IT HOLDS: cells that are the document's, walked. | WHAT IT HOLDS: the law CellBack, plainly and walked. | WHAT IT HOLDS: the law ParcelBack, walked. | WHAT IT HOLDS: the document's open and TakeReceipt, walked. | WHAT IT HOLDS: the document's Check, TakeReceipt and Take of parcels, walked. | WHAT IT HOLDS: the document's Take and Same of parcels, a parcel as the document's, walked. -/
import Derived.Test.YtgipfenjachpnaaGreatParcelPutsG14
import Derived.Test.YtgipfenjachpnaaGreatParcelPutsG09
import Derived.Test.YtgipfenjachpnaaGreatParcelPutsG06
import Derived.Test.YtgipfenjachpnaaGreatParcelPutsG11
namespace Go.Proofs.YtgipfenjachpnaaGreat
open Go.RowKit
attribute [local go_sem ↓] Go.wp_at_zero Go.wp_at_succ

set_option maxRecDepth 100000 in
set_option maxHeartbeats 2000000 in
theorem PPut_any {E : Option Addr} {cap : Nat} (x t f : Int) (cs : List CeV) (w : World) (h : SlC w E cap cs) :
    Calls Tryz.prog 16 #[pcv x t f E cs.length cap] w (PutsB w (pput (x, t, f, cs.map ceOf))) := by
  have hB := Blk.new w 28 #[.int .i64 x, .int .i64 t, .int .i64 f, .slice E cs.length cap]
  have hbw := below_new w (.cells #[.int .i64 x, .int .i64 t, .int .i64 f, .slice E cs.length cap] 28)
  obtain ⟨a0, a1, a2, a3, _⟩ := hB.four
  go_enter Tryz.func16, Tryz.ntmps16
  go_wp2_with fail
  refine (PCheck_any x t f cs _ (h.below hbw)).mono ?_
  rintro e w1 ⟨rfl, hb1⟩
  have hB1 := hB.below hb1
  have hw1 := bel_call hbw hb1
  clear hB hbw hb1 a0 a1 a2 a3
  rcases errv_cases (pchk (x, t, f, cs.map ceOf)) with ⟨h0, hev⟩ | ⟨k, hk, hke, hev⟩
  · obtain ⟨g1, g2, g3, g4, g5⟩ := pchk_ok h0
    dsimp only at g1 g2 g3 g4 g5
    obtain ⟨hf0, hf1, hn64, hne, hr0⟩ := schk_ok g5
    dsimp only at hf0 hf1 hn64 hne hr0
    have HLEN := Lib.hid (stxt_len g5)
    have HS := Lib.hid (show pput (x, t, f, cs.map ceOf) = fput [] (ptxt (x, t, f, cs.map ceOf)) from by unfold pput; rw [if_neg (by rw [h0]; simp)])
    rw [hev]
    clear hev h0 g5
    obtain ⟨n, rfl⟩ : ∃ n : Nat, x = n := ⟨x.toNat, by omega⟩
    obtain ⟨m, rfl⟩ : ∃ n : Nat, t = n := ⟨t.toNat, by omega⟩
    obtain ⟨j, rfl⟩ : ∃ n : Nat, f = n := ⟨f.toNat, by omega⟩
    have hun : U64 n := by unfold U64; omega
    have hum : U64 m := by unfold U64; omega
    have huj : U64 j := by unfold U64; omega
    have hwn := wrap_u64_of hun
    have hwm := wrap_u64_of hum
    have hwj := wrap_u64_of huj
    have hPR := Lib.hid (fun (B : Option Addr) (b : Nat) (l : List UInt8) (W : World) (hs : SlB W B b l) (hh : SlC W E cap cs) (hl : l.length ≤ 1000000) => PutRun_ok cs W hs hh hl (by simpa using hn64) hr0)
    clear hr0 hne hn64 g1 g2 g3 g4 hf0 hf1
    obtain ⟨a0, a1, a2, a3, _⟩ := hB1.four
    have hL : SlN (w1.alloc (.cells #[.int .u64 1, .int .u64 (n : Int), .int .u64 (m : Int), .int .u64 (j : Int)] 67)) (some ⟨w1.heap.size, 0, none⟩) 4 [1, n, m, j] := Sl.lits w1 [nv 1, nv n, nv m, nv j] 67 (by simp [maxLen])
    have HL := Lib.hid hL
    clear hL
    go_wp2_with fail
    refine (Put_any none 0 [] _ 4 [1, n, m, j] _ (by simp) (Sl.none_ _ _) HL.out (by simp) (by intro z hz; simp at hz; rcases hz with hz | hz | hz | hz <;> rw [hz] <;> first | exact hun | exact hum | exact huj | (unfold U64; omega))).mono ?_
    rintro e w2 ⟨A2, c2, m2, rfl, hm2, ho2, hb2⟩
    have hw2 := bel_call (bel_alloc hw1 _) hb2
    have hB2 := (hB1.alloc (.cells #[.int .u64 1, .int .u64 (n : Int), .int .u64 (m : Int), .int .u64 (j : Int)] 67)).below hb2
    have hl1 := vb_le10 (n := 1) (by omega)
    have hl2 := vb_le10 hun
    have hl3 := vb_le10 hum
    have hl4 := vb_le10 huj
    have hml2 : m2.length ≤ 40 := by rw [hm2.out]; simp [vbs]; omega
    clear hl1 hl2 hl3 hl4 a0 a1 a2 a3 hB1 hw1 HL
    obtain ⟨a0, a1, a2, a3, _⟩ := hB2.four
    go_wp2_with fail
    refine (hPR.out A2 c2 m2 _ ho2.sl (h.below hw2) (by omega)).mono ?_
    rintro e w3 ⟨A3, c3, m3, rfl, hm3, ho3, hb3⟩
    have hw3 := bel_call hw2 hb3
    have htx : m3 = ptxt ((n : Int), (m : Int), (j : Int), cs.map ceOf) := by rw [hm3.out, hm2.out]; unfold ptxt stxt; simp [vbs]
    have HT := Lib.hid htx
    have hml3 : m3.length ≤ 8000 := by
      have h1 := HLEN.out
      have hl1 := vb_le10 (n := 1) (by omega)
      have hl2 := vb_le10 hun
      have hl3 := vb_le10 hum
      rw [htx]; unfold ptxt; simp only [List.length_append, Int.toNat_natCast]; omega
    clear htx hB2 a0 a1 a2 a3
    go_wp2_with fail
    refine (FPut_any none 0 [] A3 c3 m3 _ (by simp) (Sl.none_ _ _) ho3.sl (by omega)).mono ?_
    rintro e w4 ⟨A4, c4, m4, rfl, hm4, ho4, hb4⟩
    go_wp2_with fail
    go_ret2
    exact ⟨A4, c4, m4, by rw [HS.out, ← HT.out]; rfl, (show _ = _ from by rw [hm4.out, HS.out, HT.out]), ho4.more hw3.size, bel_call hw3 hb4⟩
  · have HJ : Hid (pput (x, t, f, cs.map ceOf) = ([], pchk (x, t, f, cs.map ceOf))) := (show _ = _ from by
      unfold pput
      rw [if_pos (by omega)])
    have HEV := Lib.hid hev
    rw [hev]
    clear hev hke
    go_wp2_with fail
    go_ret2
    exact ⟨none, 0, [], by rw [HJ.out]; dsimp only; rw [HEV.out]; rfl, (show _ = _ from by rw [HJ.out]), Own.none_ _ _ _ _, hw1⟩
/-- two parcels are the same -/
def psame (p q : Pc) : Bool := decide (p = q)
theorem psame_eq {x t f f2 : Int} {l m : List Ce} : psame (x, t, f, l) (x, t, f2, m) = ssame (f, l) (f2, m) := by
  unfold psame ssame
  rw [decide_eq_decide]
  constructor
  · intro h; exact congrArg (fun z => z.2.2) h
  · intro h; rw [h]
theorem psame_ne {p q : Pc} (h : (p.1 == q.1) = false ∨ (p.2.1 == q.2.1) = false) : psame p q = false := by
  unfold psame
  rw [decide_eq_false_iff_not]
  rintro rfl
  simp at h
set_option maxRecDepth 100000 in
set_option maxHeartbeats 1000000 in
theorem PSame_any {E G : Option Addr} {cap cap2 : Nat} (x t f x2 t2 f2 : Int) (cs ds : List CeV) (w : World) (h : SlC w E cap cs) (h2 : SlC w G cap2 ds) :
    Calls Tryz.prog 18 #[pcv x t f E cs.length cap, pcv x2 t2 f2 G ds.length cap2] w fun e w' => e = .returned (.bool (psame (x, t, f, cs.map ceOf) (x2, t2, f2, ds.map ceOf))) ∧ Below w.heap.size w w' := by
  have hbb := bel_alloc (below_new w (.cells #[.int .i64 x, .int .i64 t, .int .i64 f, .slice E cs.length cap] 28)) (.cells #[.int .i64 x2, .int .i64 t2, .int .i64 f2, .slice G ds.length cap2] 28)
  have hne := fun h => Lib.hid (psame_ne (p := (x, t, f, cs.map ceOf)) (q := (x2, t2, f2, ds.map ceOf)) h)
  dsimp only at hne
  cases h1 : x == x2 with
  | false =>
    have hr := hne (.inl h1)
    clear hne
    go_enter Tryz.func18, Tryz.ntmps18
    go_wp2_with fail
    go_ret
    exact ⟨by rw [hr.out]; rfl, hbb⟩
  | true =>
    cases h3 : t == t2 with
    | false =>
      have hr := hne (.inr h3)
      clear hne
      go_enter Tryz.func18, Tryz.ntmps18
      go_wp2_with fail
      go_ret
      exact ⟨by rw [hr.out]; rfl, hbb⟩
    | true =>
      obtain rfl : x = x2 := by simpa using h1
      obtain rfl : t = t2 := by simpa using h3
      have hr := Lib.hid (psame_eq (x := x) (t := t) (f := f) (f2 := f2) (l := cs.map ceOf) (m := ds.map ceOf))
      clear hne
      go_enter Tryz.func18, Tryz.ntmps18
      go_wp2_with fail
      refine (SSame_any f f2 cs ds _ (h.below hbb) (h2.below hbb)).mono ?_
      rintro e w2 ⟨rfl, hb2⟩
      go_wp2_with fail
      go_ret
      exact ⟨by rw [hr.out]; rfl, bel_call hbb hb2⟩
end Go.Proofs.YtgipfenjachpnaaGreat

namespace Go.Proofs.YtgipfenjachpnaaGreat
open Go.RowKit
attribute [local go_sem ↓] Go.wp_at_zero Go.wp_at_succ

/-- a cell out of a reader -/
def rCellRaw (s : Rs) : Ce × Rs := if (rWithin 3 s).1 = 1 then ((1, (rText 64 (rWithin 3 s).2).1), (rText 64 (rWithin 3 s).2).2) else ((((rWithin 3 s).1 : Int), []), (rWithin 3 s).2)
def rCell (s : Rs) : Ce × Rs := if (rCellRaw s).2.2 ≠ 0 then ((0, []), (rCellRaw s).2) else rCellRaw s
def GivesCellR (w0 : World) (g B : Nat) (r : Ce × Rs) (e : Ending) (w' : World) : Prop :=
  ∃ A c m, e = .returned (cv r.1.1 A (List.length m) c) ∧ Hid (m = r.1.2) ∧ OwnB w' w0.heap.size 5 A c m ∧ IsR w' g B r.2 ∧ Wr w0 w' g
end Go.Proofs.YtgipfenjachpnaaGreat

namespace Go.Proofs.YtgipfenjachpnaaGreat
open Go.RowKit
attribute [local go_sem ↓] Go.wp_at_zero Go.wp_at_succ

end Go.Proofs.YtgipfenjachpnaaGreat

namespace Go.Proofs.YtgipfenjachpnaaGreat
open Go.RowKit
attribute [local go_sem ↓] Go.wp_at_zero Go.wp_at_succ

theorem rCell_put {c : Ce} (h : cchk c = 0) (rest : List UInt8) : rCell (cbytes c ++ rest, 0) = (c, (rest, 0)) := by
  obtain ⟨h0, h3, h64, hd⟩ := cchk_ok h
  obtain ⟨k, d⟩ := c
  dsimp only at *
  obtain ⟨n, rfl⟩ : ∃ n : Nat, k = n := ⟨k.toNat, by omega⟩
  by_cases h1 : (n : Int) = 1
  · have hn : n = 1 := by omega
    subst hn
    have e1 : rWithin 3 (cbytes (((1 : Nat) : Int), d) ++ rest, 0) = (1, (vb d.length ++ (d ++ rest), 0)) := by
      have := rWithin_vb (k := 1) (m := 3) (by unfold U64; omega) (by omega) (by omega) (vb d.length ++ (d ++ rest))
      rw [← this]
      have hcb : cbytes (((1 : Nat) : Int), d) = 1 :: (vb d.length ++ d) := by simp [cbytes]
      rw [hcb, show vb 1 = [1] from vb_small (by omega)]
      simp
    have e2 : rText 64 (vb d.length ++ (d ++ rest), 0) = (d, (rest, 0)) := rText_tb (by unfold U64; omega) (by omega) rest
    have e3 : rCellRaw (cbytes (((1 : Nat) : Int), d) ++ rest, 0) = ((1, d), (rest, 0)) := by
      unfold rCellRaw
      rw [e1]
      dsimp only
      rw [if_pos rfl, e2]
    unfold rCell
    rw [e3, if_neg (by simp)]
    rfl
  · have hd0 := hd h1
    subst hd0
    have e1 : rWithin 3 (cbytes ((n : Int), []) ++ rest, 0) = (n, (rest, 0)) := by
      have := rWithin_vb (k := n) (m := 3) (by unfold U64; omega) (by omega) (by omega) rest
      rw [← this]
      have hcb : cbytes ((n : Int), []) = [UInt8.ofNat n] := by unfold cbytes; rw [if_neg h1, Int.toNat_natCast]
      rw [hcb, vb_small (by omega)]
    have e3 : rCellRaw (cbytes ((n : Int), []) ++ rest, 0) = (((n : Int), []), (rest, 0)) := by
      unfold rCellRaw
      rw [e1]
      dsimp only
      rw [if_neg (by omega)]
    unfold rCell
    rw [e3, if_neg (by simp)]
def rput (cs : List Ce) : List UInt8 × Nat := if 64 < cs.length then ([], 3) else if rchk cs ≠ 0 then ([], rchk cs) else (vb cs.length ++ prun [] cs, 0)
theorem PutRun_u {E : Option Addr} {cap : Nat} (cs : List CeV) (w : World) (h : SlC w E cap cs) : Calls Tryz.prog 35 #[.slice none 0 0, .slice E cs.length cap] w (PutsB w (rput (cs.map ceOf))) := by
  refine (PutRun_any (B := none) (f := 0) (l := []) cs w (Sl.none_ _ _) h (by simp)).mono ?_
  rintro e w3 ⟨hb3, ⟨A3, c3, m3, hl3, hr3, rfl, hm3, ho3⟩ | ⟨bad, hbad, hbe, rfl⟩⟩
  · have he : rput (cs.map ceOf) = (vb (cs.map ceOf).length ++ prun [] (cs.map ceOf), 0) := by
      unfold rput
      rw [if_neg (by omega), if_neg (by rw [hr3]; simp)]
    exact ⟨A3, c3, m3, by rw [he]; rfl, (show _ = _ from by rw [he, hm3.out]; simp), ho3, hb3⟩
  · have he : rput (cs.map ceOf) = ([], bad) := by
      unfold rput
      by_cases hl : 64 < (cs.map ceOf).length
      · rw [if_pos hl] at hbe ⊢; rw [hbe]
      · rw [if_neg hl] at hbe ⊢; rw [if_pos (by rw [← hbe]; exact hbad), hbe]
    exact ⟨none, 0, [], by rw [he]; rfl, (show _ = _ from by rw [he]), Own.none_ _ _ _ _, hb3⟩
theorem rput_ok {cs : List Ce} (h : (rput cs).2 = 0) : cs.length ≤ 64 ∧ rchk cs = 0 ∧ (rput cs).1 = vb cs.length ++ prun [] cs := by
  unfold rput at h ⊢
  by_cases h1 : 64 < cs.length
  · rw [if_pos h1] at h; exact absurd h (Nat.succ_ne_zero 2)
  · rw [if_neg h1] at h ⊢
    by_cases h2 : rchk cs ≠ 0
    · rw [if_pos h2] at h; exact absurd h h2
    · rw [if_neg h2]
      exact ⟨by omega, Decidable.byContradiction h2, rfl⟩
def cput (c : Ce) : List UInt8 × Nat := if cchk c ≠ 0 then ([], cchk c) else (cbytes c, 0)
set_option maxRecDepth 100000 in
theorem errv_eql (n : Nat) (W : World) : (binOp .eql 30 (errv n) .nilIface).run Tryz.prog W = .ok (.bool (decide (n = 0))) W := by
  rcases errv_cases n with ⟨h0, he⟩ | ⟨k, hk, hke, he⟩
  · subst h0
    rw [he]
    go_simp
  · rw [he, show decide (n = 0) = false from by simp; omega]
    go_simp
set_option maxRecDepth 100000 in
theorem errv_guard (n : Nat) (x : Operand) (W : World) : (eqGuard .eql 30 x (.const .nilIface) (errv n) .nilIface).run Tryz.prog W = .ok () W := by
  rcases errv_cases n with ⟨h0, he⟩ | ⟨k, hk, hke, he⟩
  · rw [he]
    go_simp
  · rw [he]
    go_simp
theorem End_nilv {g B : Nat} {w : World} (hR : IsR w g B ([], 0)) : Calls Tryz.prog 26 #[.pointer (some ⟨g, 0, none⟩)] w fun e w' => e = .returned .nilIface ∧ w = w' := End_s hR
theorem Left_s {g B : Nat} {s : Rs} {w : World} (hR : IsR w g B s) : Calls Tryz.prog 50 #[.pointer (some ⟨g, 0, none⟩)] w fun e w' => e = .returned (.int .i64 (rLeft s : Nat)) ∧ w = w' := by obtain ⟨l, b⟩ := s; exact Left_any hR
theorem takeRun_nil {s : Rs} (h : (takeRun s).2.2 ≠ 0) : (takeRun s).1 = [] := by
  unfold takeRun at h ⊢
  by_cases hb : (tkEnd (tkNew s)).s.2 ≠ 0
  · rw [if_pos hb]
  · rw [if_neg hb] at h; exact absurd h hb
end Go.Proofs.YtgipfenjachpnaaGreat

namespace Go.Proofs.YtgipfenjachpnaaGreat
open Go.RowKit
attribute [local go_sem ↓] Go.wp_at_zero Go.wp_at_succ

theorem a23_ok : qchk (1, 3) = 0 := by decide
theorem a23_txt : qtxt (1, 3) = [2, 1, 3] := by simp [qtxt, vb_small]
theorem neq_rc (a b c d : Int) (w : World) : (binOp .neq 41 (.agg #[.int .i64 a, .int .i64 b]) (.agg #[.int .i64 c, .int .i64 d])).run Tryz.prog w = .ok (.bool (!(a == c && b == d))) w := by
  simp only [binOp]
  cases h1 : a == c <;> cases h2 : b == d <;> simp [go_sem, Op.equal, Op.maxDepth, Tryz.underlying41, Tryz.underlying3, h1, h2]
set_option maxRecDepth 100000 in
set_option maxHeartbeats 1000000 in
theorem alive23_any (w : World) : Calls Tryz.prog 5 #[] w fun e w' => e = .returned (.bool true) ∧ Below w.heap.size w w' := by
  go_enter Tryz.func5, Tryz.ntmps5
  go_wp2_with fail
  refine (QPut_any 1 3 _).mono ?_
  rintro e w1 ⟨A1, c1, m1, he, hm1, ho1, hb1⟩
  have hp : qput (1, 3) = ([3, 2, 1, 3] ++ four (sumW (txb [2, 1, 3])), 0) := by
    rw [qput_ok a23_ok, a23_txt]
    have h4 : txb [2, 1, 3] = [3, 2, 1, 3] := by simp [txb, vb_small]
    unfold frm
    rw [h4]
  have hT := qcTake_put a23_ok
  rw [show frm (qtxt (1, 3)) = m1 from by rw [hm1.out, qput_ok a23_ok]] at hT
  rw [hp] at he hm1
  have h8 : m1.length = 8 := by rw [hm1.out]; simp [four_len]
  have h4 : m1.take 4 = [3, 2, 1, 3] := by rw [hm1.out]; rfl
  have hQ := QTake_any A1 c1 m1 w1 ho1.sl (by omega)
  rw [hT] at hQ
  unfold GivesRc at hQ
  have hev : errv 0 = .nilIface := rfl
  dsimp only at he hQ
  rw [hev, h8] at he
  rw [hev, h8] at hQ
  subst he
  have hsl := Sl.takeB ho1.sl 4
  rw [h4] at hsl
  have hc8 : 8 ≤ c1 := by have := ho1.sl.2.1; omega
  have HQ := Lib.hid hQ
  clear hQ hT hm1 hp hev h8 h4
  go_wp2_with fail
  refine HQ.out.mono ?_
  rintro e w2 ⟨rfl, hb2⟩
  have hX := Blk.new w2 41 #[.int .i64 1, .int .i64 3]
  have hbx := bel_call hb2 (below_new w2 (.cells #[.int .i64 1, .int .i64 3] 41))
  have hw2 := bel_call hb1 hbx
  have hsl2 := Sl.below hsl hbx
  go_upto_region 3 with (fail)
  generalize hWe : w2.alloc (.cells #[.int .i64 1, .int .i64 3] 41) = w3 at *
  clear hWe
  have hcv := conv_str (P := Tryz.prog) 22 9 5 Tryz.underlying22 Tryz.underlying5 Tryz.underlying9 (n := 4) hsl2 rfl
  obtain ⟨x0, x1, xf0, xf1⟩ := hX.two
  go_wp2_with fail
  go_ret
  exact ⟨rfl, hw2⟩
end Go.Proofs.YtgipfenjachpnaaGreat

namespace Go.Proofs.YtgipfenjachpnaaGreat
open Go.RowKit
attribute [local go_sem ↓] Go.wp_at_zero Go.wp_at_succ

theorem SlB.low {W W' : World} {B c : Nat} {A : Option Addr} {l : List UInt8} (h : SlB W A c l) (hBd : l ≠ [] → ∀ ad, A = some ad → ad.block < B) (hb : Below B W W') : SlB W' A c l :=
  ⟨h.1, h.2.1, h.2.2.1, h.2.2.2.1, fun j u hj => by
    obtain ⟨ad, hA, hc⟩ := h.2.2.2.2 j u hj
    have hlt := hBd (by rintro rfl; simp at hj) ad hA
    exact ⟨ad, hA, (hb.cell (p := ad.add j) (by rw [addr_add_block]; exact hlt)).trans hc⟩⟩
theorem res_r3 {fn : Func} {a b : Nat} {tmps : Array Value} {w : World} {g : Nat} {x y : Value} (hres : fn.results = #[.cell a 72, .tmp b]) (ha : tmps.getD a undef = .pointer (some ⟨g, 0, none⟩)) (hB : Blk w g 72 #[x, y]) :
    (results fn tmps).run Tryz.prog w = .ok (.tuple #[.agg #[x, y], tmps.getD b undef]) w := by
  obtain ⟨b0, b1, _, _⟩ := hB.two
  have ha' : tmps[a]?.getD undef = .pointer (some ⟨g, 0, none⟩) := by simpa using ha
  simp [results, hres, go_sem, b0, b1, ha']
/-- a reader behind the kind, and an error's number of the frame -/
def ROpen (w : World) (k : Nat) (b : List UInt8) (e : Ending) (w' : World) : Prop := ∃ v, e = .returned (.tuple #[v, .int .i64 ((fone b).2 : Nat)]) ∧ RV w' w'.heap.size v (pkind k ((ftake b).1, 0)) ∧ Below w.heap.size w w'
theorem ropen_mk {w w' : World} {k bd c : Nat} {b m : List UInt8} {A : Option Addr} {s : Rs} {v : Value} (h1 : (fone b).2 = bd) (h2 : m = (ftake b).1) (h3 : pkind k (m, 0) = s) (hv : v = rv A s.1.length c s.2) (h4 : SlB w' A c s.1) (h5 : s.1 ≠ [] → ∀ ad, A = some ad → ad.block < w'.heap.size) (h6 : Below w.heap.size w w') :
    ROpen w k b (.returned (.tuple #[v, .int .i64 (bd : Nat)])) w' := by
  refine ⟨v, by rw [h1], ?_, h6⟩
  rw [← h2, h3]
  exact ⟨A, c, hv, h4, h5⟩
set_option maxRecDepth 100000 in
set_option maxHeartbeats 2000000 in
theorem rOpen_any (k : Nat) (A : Option Addr) (c : Nat) (b : List UInt8) (w : World) (hs : SlB w A c b) (hl : b.length ≤ 1000000) :
    Calls Tryz.prog 27 #[.slice A b.length c, .int .u64 k] w (ROpen w k b) := by
  have hRes := Blk.new w 72 #[.slice none 0 0, .int .i64 0]
  have hw := below_new w (.cells #[.slice none 0 0, .int .i64 0] 72)
  go_enter Tryz.func27, Tryz.ntmps27
  go_wp2_with fail
  refine (rFTake_any A c b _ (hs.below hw) (by omega)).mono ?_
  rintro e w1 ⟨A1, c1, m1, rfl, hm1, hs1, hb1, -⟩
  replace hRes := hRes.below hb1
  replace hw := bel_call hw hb1
  clear hb1
  have hfo : fone b = if (ftake b).2.2 ≠ 0 then ([], (ftake b).2.2) else if (ftake b).2.1 < b.length then ([], 2) else ((ftake b).1, 0) := rfl
  obtain ⟨bd, hbd⟩ : ∃ n, (fone b).2 = n := ⟨_, rfl⟩
  have hBd : m1 ≠ [] → ∀ ad, A1 = some ad → ad.block < w1.heap.size := fun hne ad hA => Sl.lt0 hs1 (by cases m1 with | nil => exact absurd rfl hne | cons x r => exact List.cons_ne_nil _ _) ad.block (by rw [hA]; rfl)
  have HBD := Lib.hid hbd
  clear hbd
  go_upto_region 2 with (fail)
  generalize hfb : ftake b = fb at *
  obtain ⟨ft, fn, fbad⟩ := fb
  dsimp only at *
  obtain ⟨kb, hkb⟩ : ∃ kb, kb = (decide (fbad = 0) && decide (fn < b.length)) := ⟨_, rfl⟩
  have HKB := Lib.hid hkb
  have HFO := Lib.hid hfo
  have HFB := Lib.hid hfb
  clear hkb hfo hfb
  go_cut [24] (fun s24 wx => s24 = .bool kb ∧ wx = w1)
  case first =>
    clear hRes hw hs1 hBd
    by_cases h0 : fbad = 0
    · have hb1 : ((fbad : Int) == 0) = true := by rw [h0]; rfl
      by_cases h1 : fn < b.length
      · have hnI : (fn : Int) < (b.length : Int) := by omega
        have hkt : kb = true := by rw [HKB.out]; simp [h0, h1]
        subst hkt
        clear h0 HKB
        go_wp2_with fail
        go_meet
        exact ⟨by first | rfl | simp [h1], rfl⟩
      · have hnI : (b.length : Int) ≤ (fn : Int) := by omega
        have hkt : kb = false := by rw [HKB.out]; simp [h0, h1]
        subst hkt
        clear h0 HKB
        go_wp2_with fail
        go_meet
        exact ⟨by first | rfl | simp [h1], rfl⟩
    · have hb1 : ((fbad : Int) == 0) = false := by rw [beq_eq_false_iff_ne]; omega
      have hkt : kb = false := by rw [HKB.out]; simp [h0]
      subst hkt
      clear h0 HKB
      go_wp2_with fail
      go_meet
      exact ⟨rfl, rfl⟩
  case rest =>
    obtain ⟨rfl, rfl⟩ := hcut
    go_upto_if 24 with (fail)
    go_cut [8] (fun s8 wz => s8 = .int .i64 (bd : Nat) ∧ wz = wc)
    case first =>
      have h4 := HKB.out
      have h5 := HFO.out
      have h6 := HBD.out
      cases kb
      case true =>
        simp only [Bool.and_eq_true, decide_eq_true_eq, eq_comm (a := true)] at h4
        rw [if_neg (by omega), if_pos h4.2] at h5
        rw [h5] at h6
        dsimp only at h6
        subst h6
        clear h4 h5 HKB HFO HBD hRes hw hs1 hBd
        go_wp2_with fail
        go_meet
        exact ⟨rfl, rfl⟩
      case false =>
        have h7 : bd = fbad := by
          rw [← h6, h5]
          by_cases h8 : fbad = 0
          · have h9 : ¬ fn < b.length := by
              intro h9
              rw [decide_eq_true h8, decide_eq_true h9] at h4
              cases h4
            rw [if_neg (by omega), if_neg h9, h8]
          · rw [if_pos h8]
        subst h7
        clear h4 h5 h6 HKB HFO HBD hRes hw hs1 hBd
        go_wp2_with fail
        go_meet
        exact ⟨rfl, rfl⟩
    case rest =>
      obtain ⟨rfl, rfl⟩ := hcut
      clear HKB HFO
      go_upto_region 4 with (fail)
      go_wp2_with fail
      refine (rNumber_any (bad := 0) _ hs1 hBd).mono ?_
      rintro e w3 ⟨v, rfl, ⟨A3, c3, rfl, hS3, hBd3⟩, hb3⟩
      have HP : Hid (pkind k (m1, 0) = if (rNum (m1, 0)).1 ≠ k then rFail 2 (rNum (m1, 0)).2 else (rNum (m1, 0)).2) := (rfl : _ = _)
      have HM : Hid (m1 = (ftake b).1) := (show _ = _ from by rw [HFB.out]; exact hm1.out)
      have hu := rNum_u64 (m1, 0)
      generalize rNum (m1, 0) = q at *
      obtain ⟨n, ⟨sl, sb⟩⟩ := q
      dsimp only at hS3 hBd3 HP hu ⊢
      go_upto_region 5 with (fail)
      have hX := Blk.new w3 72 #[.slice A3 sl.length c3, .int .i64 (sb : Nat)]
      have hbx := bel_call hb3 (below_new w3 (.cells #[.slice A3 sl.length c3, .int .i64 (sb : Nat)] 72))
      have hrl := hRes.lt
      have hS4 := Sl.below hS3 (below_new w3 (.cells #[.slice A3 sl.length c3, .int .i64 (sb : Nat)] 72))
      have hsz := hb3.size
      have hR2 := hRes.below hbx
      have hw2 := bel_call hw hbx
      have hW2 : w3.heap.size < (w3.alloc (.cells #[.slice A3 sl.length c3, .int .i64 (sb : Nat)] 72)).heap.size := by simp
      have hgw : w.heap.size < w3.heap.size := by omega
      have hLt : sl ≠ [] → ∀ ad, A3 = some ad → ad.block < w3.heap.size := fun h1 ad h2 => by have := hBd3 h1 ad h2; omega
      clear hS3 hs1 hBd hb3 hbx hRes hw hBd3
      generalize hWe : w3.alloc (.cells #[.slice A3 sl.length c3, .int .i64 (sb : Nat)] 72) = w4 at *
      clear hWe
      generalize hge : w3.heap.size = gx at *
      clear hge
      rcases Decidable.em (sb = 0) with h0 | h0
      · have hz : ((sb : Int) == 0) = true := by rw [h0]; rfl
        by_cases hnk : n = k
        · have hE : ((n : Int) != (k : Int)) = false := by simp [hnk]
          have HP2 : Hid (pkind k (m1, 0) = (sl, sb)) := (show _ = _ from by rw [HP.out, if_neg (by simp [hnk])])
          clear HP hnk h0
          obtain ⟨x0, x1, xf0, xf1⟩ := hX.two
          obtain ⟨r0, r1, rf0, rf1⟩ := hR2.two
          go_wp2_with fail
          exact bodyPost_ret (res_r3 rfl rfl (g := w.heap.size) (hR2.set2 _ _)) rfl (ropen_mk (s := (sl, sb)) HBD.out HM.out HP2.out rfl (SlB.wr hS4 hR2 (slice_ne _ _ _) (inti_ne _) (((Wr.refl _ _).set_ 0 _).set_ 1 _)) (fun h1 ad h2 => by have := hLt h1 ad h2; simp; omega) (bel_set (bel_set hw2 (Nat.le_refl _) _) (Nat.le_refl _) _))
        · have hE : ((n : Int) != (k : Int)) = true := by rw [bne_iff_ne]; omega
          have HP2 : Hid (pkind k (m1, 0) = (sl, 2)) := (show _ = _ from by rw [HP.out, if_pos hnk]; unfold rFail; rw [if_pos h0])
          clear HP hnk h0
          obtain ⟨x0, x1, xf0, xf1⟩ := hX.two
          obtain ⟨r0, r1, rf0, rf1⟩ := hR2.two
          have hX2 := hX.set_ 1 (.int .i64 2)
          go_upto_region 7 with (fail)
          replace hR2 := hR2.far (p := ⟨gx, 1, none⟩) (by dsimp only; omega) (.int .i64 2)
          replace hw2 := bel_set hw2 (p := ⟨gx, 1, none⟩) (by dsimp only; omega) (.int .i64 2)
          replace hS4 := SlB.low hS4 (B := gx) hLt ((Below.refl _ _).setCell (p := ⟨gx, 1, none⟩) (Nat.le_refl _) (.int .i64 2))
          replace hX := hX2
          have hsz3 : (w4.setCell ⟨gx, 1, none⟩ (.int .i64 2)).heap.size = w4.heap.size := by simp
          clear x0 x1 xf0 xf1 r0 r1 rf0 rf1 hX2
          rw [← hsz3] at hW2
          generalize hWe : w4.setCell ⟨gx, 1, none⟩ (.int .i64 2) = w5 at *
          clear hWe hsz3
          obtain ⟨x0, x1, xf0, xf1⟩ := hX.two
          obtain ⟨r0, r1, rf0, rf1⟩ := hR2.two
          go_wp2_with fail
          exact bodyPost_ret (res_r3 rfl rfl (g := w.heap.size) (hR2.set2 _ _)) rfl (ropen_mk (s := (sl, 2)) HBD.out HM.out HP2.out rfl (SlB.wr hS4 hR2 (slice_ne _ _ _) (inti_ne _) (((Wr.refl _ _).set_ 0 _).set_ 1 _)) (fun h1 ad h2 => by have := hLt h1 ad h2; simp; omega) (bel_set (bel_set hw2 (Nat.le_refl _) _) (Nat.le_refl _) _))
      · have hz : ((sb : Int) == 0) = false := by rw [beq_eq_false_iff_ne]; omega
        have HP2 : Hid (pkind k (m1, 0) = (sl, sb)) := (show _ = _ from by
          rw [HP.out]
          by_cases hnk : n ≠ k
          · rw [if_pos hnk]; unfold rFail; rw [if_neg h0]
          · rw [if_neg hnk])
        clear HP h0
        obtain ⟨x0, x1, xf0, xf1⟩ := hX.two
        obtain ⟨r0, r1, rf0, rf1⟩ := hR2.two
        go_wp2_with fail
        exact bodyPost_ret (res_r3 rfl rfl (g := w.heap.size) (hR2.set2 _ _)) rfl (ropen_mk (s := (sl, sb)) HBD.out HM.out HP2.out rfl (SlB.wr hS4 hR2 (slice_ne _ _ _) (inti_ne _) (((Wr.refl _ _).set_ 0 _).set_ 1 _)) (fun h1 ad h2 => by have := hLt h1 ad h2; simp; omega) (bel_set (bel_set hw2 (Nat.le_refl _) _) (Nat.le_refl _) _))
end Go.Proofs.YtgipfenjachpnaaGreat

namespace Go.Proofs.YtgipfenjachpnaaGreat
open Go.RowKit
attribute [local go_sem ↓] Go.wp_at_zero Go.wp_at_succ

/-- a taking of the document under way: the result's block, what is taken, the reader -/
structure RTt (w W : World) (B gq gr : Nat) (tz tq : TypeId) (zs qs : Array Value) (A : Option Addr) (c : Nat) (s : Rs) : Prop where
  bel : Below w.heap.size w W
  res : Blk W w.heap.size tz zs
  q : Blk W gq tq qs
  r : Blk W gr 72 #[.slice A s.1.length c, .int .i64 (s.2 : Nat)]
  sl : SlB W A c s.1
  bd : s.1 ≠ [] → ∀ ad, A = some ad → ad.block < B
  n1 : B ≤ gq
  n2 : B ≤ gr
  n3 : w.heap.size < gq
  n4 : w.heap.size < gr
  n5 : gq ≠ gr
section
variable {w W W1 : World} {B gq gr : Nat} {tz tq : TypeId} {zs qs : Array Value} {A A' : Option Addr} {c c' : Nat} {s s' : Rs}
theorem RTt.below (h : RTt w W B gq gr tz tq zs qs A c s) (hb : Below W.heap.size W W1) : RTt w W1 B gq gr tz tq zs qs A c s :=
  ⟨bel_call h.bel hb, h.res.below hb, h.q.below hb, h.r.below hb, Sl.below h.sl hb, h.bd, h.n1, h.n2, h.n3, h.n4, h.n5⟩
/-- behind a number: it is laid, and the reader -/
theorem RTt.step (h : RTt w W B gq gr tz tq zs qs A c s) (hb : Below W.heap.size W W1) (hS : SlB W1 A' c' s'.1) (hBd : s'.1 ≠ [] → ∀ ad, A' = some ad → ad.block < B) (i : Nat) (u : Value) :
    RTt w (((W1.setCell ⟨gq, i, none⟩ u).setCell ⟨gr, 0, none⟩ (.slice A' s'.1.length c')).setCell ⟨gr, 1, none⟩ (.int .i64 (s'.2 : Nat))) B gq gr tz tq zs (qs.setIfInBounds i u) A' c' s' := by
  have h2 := h.below hb
  have n1 := h.n1
  have n2 := h.n2
  have n3 := h.n3
  have n4 := h.n4
  have n5 := h.n5
  refine ⟨?_, ?_, ?_, ?_, ?_, hBd, n1, n2, n3, n4, n5⟩
  · exact bel_set (bel_set (bel_set h2.bel (by dsimp only; omega) _) (by dsimp only; omega) _) (by dsimp only; omega) _
  · exact ((h2.res.far (by dsimp only; omega) _).far (by dsimp only; omega) _).far (by dsimp only; omega) _
  · exact ((h2.q.set_ i u).far (by dsimp only; omega) _).far (by dsimp only; omega) _
  · exact (h2.r.far (by dsimp only; omega) _).set2 _ _
  · exact SlB.low hS hBd ((((Below.refl _ _).setCell (p := ⟨gq, i, none⟩) n1 _).setCell (p := ⟨gr, 0, none⟩) n2 _).setCell (p := ⟨gr, 1, none⟩) n2 _)
end
theorem pchk_range {p : Pc} (h : p.1 < 0 ∨ 1099511627776 < p.1 ∨ p.2.1 < 0 ∨ 1048576 < p.2.1) : pchk p = 1 := by unfold pchk; rw [if_pos h]
theorem pchk_seg {p : Pc} (h : ¬ (p.1 < 0 ∨ 1099511627776 < p.1 ∨ p.2.1 < 0 ∨ 1048576 < p.2.1)) : pchk p = schk p.2.2 := by unfold pchk; rw [if_neg h]
set_option maxRecDepth 100000 in
set_option maxHeartbeats 1000000 in
theorem rPCheck_any {E : Option Addr} {cap : Nat} (x t f : Int) (ds : List Ce) (w : World) (h : SlD w E cap ds) :
    Calls Tryz.prog 15 #[pcv x t f E ds.length cap] w fun e w' => e = .returned (.int .i64 (pchk (x, t, f, ds) : Nat)) ∧ Below w.heap.size w w' := by
  have hbw := below_new w (.cells #[.int .i64 x, .int .i64 t, .int .i64 f, .slice E ds.length cap] 37)
  by_cases h1 : x < 0
  · have hc := Lib.hid (pchk_range (p := (x, t, f, ds)) (.inl h1))
    go_enter Tryz.func15, Tryz.ntmps15
    go_wp2_with fail
    go_ret
    exact ⟨by rw [hc.out]; rfl, hbw⟩
  by_cases h2 : 1099511627776 < x
  · have hc := Lib.hid (pchk_range (p := (x, t, f, ds)) (.inr (.inl h2)))
    go_enter Tryz.func15, Tryz.ntmps15
    go_wp2_with fail
    go_ret
    exact ⟨by rw [hc.out]; rfl, hbw⟩
  by_cases h3 : t < 0
  · have hc := Lib.hid (pchk_range (p := (x, t, f, ds)) (.inr (.inr (.inl h3))))
    go_enter Tryz.func15, Tryz.ntmps15
    go_wp2_with fail
    go_ret
    exact ⟨by rw [hc.out]; rfl, hbw⟩
  by_cases h4 : 1048576 < t
  · have hc := Lib.hid (pchk_range (p := (x, t, f, ds)) (.inr (.inr (.inr h4))))
    go_enter Tryz.func15, Tryz.ntmps15
    go_wp2_with fail
    go_ret
    exact ⟨by rw [hc.out]; rfl, hbw⟩
  have hc := Lib.hid (pchk_seg (p := (x, t, f, ds)) (by dsimp only; omega))
  go_enter Tryz.func15, Tryz.ntmps15
  go_wp2_with fail
  refine (rSCheck_any f ds _ (Sl.below h hbw)).mono ?_
  rintro e w1 ⟨rfl, hb1⟩
  go_wp2_with fail
  go_ret
  exact ⟨by rw [hc.out]; rfl, bel_call hbw hb1⟩
/-- a receipt and an error's number -/
def RGivesRc (w0 : World) (x : Rc × Nat) (e : Ending) (w' : World) : Prop := e = .returned (.tuple #[.agg #[.int .i64 x.1.1, .int .i64 x.1.2], .int .i64 (x.2 : Nat)]) ∧ Below w0.heap.size w0 w'
theorem res_rrc {fn : Func} {a b : Nat} {tmps : Array Value} {w : World} {g : Nat} {x y : Value} (hres : fn.results = #[.cell a 44, .tmp b]) (ha : tmps.getD a undef = .pointer (some ⟨g, 0, none⟩)) (hB : Blk w g 44 #[x, y]) :
    (results fn tmps).run Tryz.prog w = .ok (.tuple #[.agg #[x, y], tmps.getD b undef]) w := by
  obtain ⟨b0, b1, _, _⟩ := hB.two
  have ha' : tmps[a]?.getD undef = .pointer (some ⟨g, 0, none⟩) := by simpa using ha
  simp [results, hres, go_sem, b0, b1, ha']
theorem fone_zero {b : List UInt8} (h : (fone b).2 = 0) : (ftake b).1 = (fone b).1 := by
  unfold fone at h ⊢
  by_cases h1 : (ftake b).2.2 ≠ 0
  · rw [if_pos h1] at h; exact absurd h h1
  rw [if_neg h1] at h ⊢
  by_cases h2 : (ftake b).2.1 < b.length
  · rw [if_pos h2] at h; cases h
  · rw [if_neg h2]
set_option maxRecDepth 100000 in
set_option maxHeartbeats 4000000 in
theorem rQTake_any (A : Option Addr) (c : Nat) (b : List UInt8) (w : World) (hs : SlB w A c b) (hl : b.length ≤ 1000000) :
    Calls Tryz.prog 9 #[.slice A b.length c] w (RGivesRc w (qcTake b)) := by
  have hRes := Blk.new w 44 #[.int .i64 0, .int .i64 0]
  have hw := below_new w (.cells #[.int .i64 0, .int .i64 0] 44)
  have hf0 := fone_zero (b := b)
  go_enter Tryz.func9, Tryz.ntmps9
  go_wp2_with fail
  refine (rOpen_any 2 A c b _ (hs.below hw) (by omega)).mono ?_
  rintro e w1 ⟨v, rfl, ⟨A1, c1, rfl, hS1, hBd1⟩, hb1⟩
  replace hRes := hRes.below hb1
  replace hw := bel_call hw hb1
  clear hb1
  by_cases hf : (fone b).2 = 0
  · have HT0 := Lib.hid (show qcTake b = qcEnd (qread (pkind 2 ((ftake b).1, 0))) from by unfold qcTake; rw [if_neg (by rw [hf]; simp), hf0 hf])
    have hE : (((fone b).2 : Int) != 0) = false := by rw [hf]; rfl
    generalize pkind 2 ((ftake b).1, 0) = s0 at *
    obtain ⟨bd, hbd⟩ : ∃ n, (fone b).2 = n := ⟨_, rfl⟩
    rw [hbd] at hE ⊢
    clear hf hf0 hbd
    go_upto_region 5 with (fail)
    have hR1 := (Blk.new w1 72 #[.slice A1 s0.1.length c1, .int .i64 (s0.2 : Nat)]).alloc (.cells #[.int .i64 0, .int .i64 0] 44)
    have hQ1 := Blk.newAt (w := w1.alloc (.cells #[.slice A1 s0.1.length c1, .int .i64 (s0.2 : Nat)] 72)) (g := w1.heap.size + 1) (by simp) 44 #[.int .i64 0, .int .i64 0]
    have hbx := bel_alloc (below_new w1 (.cells #[.slice A1 s0.1.length c1, .int .i64 (s0.2 : Nat)] 72)) (.cells #[.int .i64 0, .int .i64 0] 44)
    have hwl := hRes.lt
    have hJ : RTt w _ w1.heap.size (w1.heap.size + 1) w1.heap.size 44 44 #[.int .i64 0, .int .i64 0] #[.int .i64 0, .int .i64 0] A1 c1 s0 := ⟨bel_call hw hbx, hRes.below hbx, hQ1, hR1, Sl.below hS1 hbx, hBd1, by omega, by omega, by omega, by omega, by omega⟩
    clear hR1 hQ1 hbx hw hRes hS1 hBd1
    generalize hWe : (w1.alloc (.cells #[.slice A1 s0.1.length c1, .int .i64 (s0.2 : Nat)] 72)).alloc (.cells #[.int .i64 0, .int .i64 0] 44) = w2 at *
    clear hWe
    obtain ⟨x0, x1, xf0, xf1⟩ := hJ.r.two
    go_wp2_with fail
    refine (rWithin_v (s := s0) 1099511627776 _ hJ.sl hJ.bd).mono ?_
    rintro e w3 ⟨v, rfl, ⟨A3, c3, rfl, hS3, hBd3⟩, hb3⟩
    have HT1 : Hid (qcTake b = qcEnd ((((rWithin 1099511627776 s0).1 : Int), ((rWithin 1048576 (rWithin 1099511627776 s0).2).1 : Int)), (rWithin 1048576 (rWithin 1099511627776 s0).2).2)) := HT0
    clear HT0
    generalize rWithin 1099511627776 s0 = q1 at *
    obtain ⟨x, s1⟩ := q1
    dsimp only at hS3 hBd3 HT1 ⊢
    have hJ2 := hJ.step hb3 hS3 hBd3 0 (.int .i64 (x : Nat))
    replace hJ := hJ.below hb3
    obtain ⟨y0, y1, yf0, yf1⟩ := hJ.q.two
    clear x0 x1 xf0 xf1
    obtain ⟨x0, x1, xf0, xf1⟩ := hJ.r.two
    go_upto_region 6 with (fail)
    simp only [List.setIfInBounds_toArray, List.set_cons_zero] at hJ2
    clear hJ hS3 hBd3 hb3 x0 x1 xf0 xf1 y0 y1 yf0 yf1
    generalize hWe : ((w3.setCell ⟨w1.heap.size + 1, 0, none⟩ (.int .i64 (x : Nat))).setCell ⟨w1.heap.size, 0, none⟩ (.slice A3 s1.1.length c3)).setCell ⟨w1.heap.size, 1, none⟩ (.int .i64 (s1.2 : Nat)) = w4 at *
    clear hWe
    obtain ⟨x0, x1, xf0, xf1⟩ := hJ2.r.two
    go_wp2_with fail
    refine (rWithin_v (s := s1) 1048576 _ hJ2.sl hJ2.bd).mono ?_
    rintro e w5 ⟨v, rfl, ⟨A5, c5, rfl, hS5, hBd5⟩, hb5⟩
    generalize rWithin 1048576 s1 = q2 at *
    obtain ⟨y, s2⟩ := q2
    dsimp only at hS5 hBd5 HT1 ⊢
    have hJ3 := hJ2.step hb5 hS5 hBd5 1 (.int .i64 (y : Nat))
    replace hJ2 := hJ2.below hb5
    clear x0 x1 xf0 xf1
    obtain ⟨y0, y1, yf0, yf1⟩ := hJ2.q.two
    obtain ⟨x0, x1, xf0, xf1⟩ := hJ2.r.two
    go_upto_region 7 with (fail)
    simp only [List.setIfInBounds_toArray, List.set_cons_zero, List.set_cons_succ] at hJ3
    clear hJ2 hS5 hBd5 hb5 x0 x1 xf0 xf1 y0 y1 yf0 yf1
    generalize hWe : ((w5.setCell ⟨w1.heap.size + 1, 1, none⟩ (.int .i64 (y : Nat))).setCell ⟨w1.heap.size, 0, none⟩ (.slice A5 s2.1.length c5)).setCell ⟨w1.heap.size, 1, none⟩ (.int .i64 (s2.2 : Nat)) = w6 at *
    clear hWe
    obtain ⟨x0, x1, xf0, xf1⟩ := hJ3.r.two
    go_wp2_with fail
    refine (rEnd_v (s := s2) _).mono ?_
    rintro e w7 ⟨rfl, hb7⟩
    replace hJ3 := hJ3.below hb7
    clear x0 x1 xf0 xf1 hb7
    have hRes := hJ3.res
    have hw := hJ3.bel
    rcases Decidable.em (rEnd s2 = 0) with h0 | h0
    · have hbb : (((rEnd s2 : Nat) : Int) != 0) = false := by simp [h0]
      have HT := Lib.hid (show qcTake b = (((x : Int), (y : Int)), 0) from by rw [HT1.out]; unfold qcEnd; rw [if_neg (by rw [h0]; simp)])
      clear h0
      obtain ⟨q0, q1, _, _⟩ := hJ3.q.two
      obtain ⟨r0, r1, rf0, rf1⟩ := hRes.two
      go_wp2_with fail
      exact bodyPost_ret (res_rrc rfl rfl (g := w.heap.size) (hRes.set2 _ _)) rfl ⟨by rw [HT.out]; rfl, bel_set (bel_set hw (Nat.le_refl _) _) (Nat.le_refl _) _⟩
    · have hbb : (((rEnd s2 : Nat) : Int) != 0) = true := by simp; omega
      have HT := Lib.hid (show qcTake b = ((0, 0), rEnd s2) from by rw [HT1.out]; unfold qcEnd; rw [if_pos (by dsimp only; omega)])
      clear h0
      obtain ⟨r0, r1, rf0, rf1⟩ := hRes.two
      go_wp2_with fail
      exact bodyPost_ret (res_rrc rfl rfl (g := w.heap.size) (hRes.set2 _ _)) rfl ⟨by rw [HT.out]; rfl, bel_set (bel_set hw (Nat.le_refl _) _) (Nat.le_refl _) _⟩
  · have HT := Lib.hid (show qcTake b = ((0, 0), (fone b).2) from by unfold qcTake; rw [if_pos hf])
    have hE : (((fone b).2 : Int) != 0) = true := by rw [bne_iff_ne]; omega
    generalize (fone b).2 = bd at *
    generalize pkind 2 ((ftake b).1, 0) = s0 at *
    clear hf hf0
    go_upto_region 3 with (fail)
    have hbx := below_new w1 (.cells #[.slice A1 s0.1.length c1, .int .i64 (s0.2 : Nat)] 72)
    replace hRes := hRes.below hbx
    replace hw := bel_call hw hbx
    clear hbx hS1 hBd1
    generalize hWe : w1.alloc (.cells #[.slice A1 s0.1.length c1, .int .i64 (s0.2 : Nat)] 72) = w2 at *
    clear hWe
    obtain ⟨r0, r1, rf0, rf1⟩ := hRes.two
    go_wp2_with fail
    exact bodyPost_ret (res_rrc rfl rfl (g := w.heap.size) (hRes.set2 _ _)) rfl ⟨by rw [HT.out]; rfl, bel_set (bel_set hw (Nat.le_refl _) _) (Nat.le_refl _) _⟩
end Go.Proofs.YtgipfenjachpnaaGreat

namespace Go.Proofs.YtgipfenjachpnaaGreat
open Go.RowKit
attribute [local go_sem ↓] Go.wp_at_zero Go.wp_at_succ

theorem res_rpc {fn : Func} {a b : Nat} {tmps : Array Value} {w : World} {g : Nat} {x y z u : Value} (hres : fn.results = #[.cell a 37, .tmp b]) (ha : tmps.getD a undef = .pointer (some ⟨g, 0, none⟩)) (hB : Blk w g 37 #[x, y, z, u]) :
    (results fn tmps).run Tryz.prog w = .ok (.tuple #[.agg #[x, y, z, u], tmps.getD b undef]) w := by
  obtain ⟨b0, b1, b2, b3, _⟩ := hB.four
  have ha' : tmps[a]?.getD undef = .pointer (some ⟨g, 0, none⟩) := by simpa using ha
  simp [results, hres, go_sem, b0, b1, b2, b3, ha']
theorem res_rpc1 {fn : Func} {a : Nat} {tmps : Array Value} {w : World} {g : Nat} {x y z u : Value} (hres : fn.results = #[.cell a 37]) (ha : tmps.getD a undef = .pointer (some ⟨g, 0, none⟩)) (hB : Blk w g 37 #[x, y, z, u]) :
    (results fn tmps).run Tryz.prog w = .ok (.agg #[x, y, z, u]) w := by
  obtain ⟨b0, b1, b2, b3, _⟩ := hB.four
  have ha' : tmps[a]?.getD undef = .pointer (some ⟨g, 0, none⟩) := by simpa using ha
  simp [results, hres, go_sem, b0, b1, b2, b3, ha']
/-- a parcel of the document's with new cells, and an error's number -/
def RGivesPc (w0 : World) (x : Pc × Nat) (e : Ending) (w' : World) : Prop :=
  ∃ A c m, e = .returned (.tuple #[pcv x.1.1 x.1.2.1 x.1.2.2.1 A (List.length m) c, .int .i64 (x.2 : Nat)]) ∧ Hid (m = x.1.2.2.2) ∧ Own w' w0.heap.size 112 2 A m.length c (m.flatMap df) ∧ Below w0.heap.size w0 w'
theorem Own.set4 {w : World} {base : Nat} {e : TypeId} {size n c : Nat} {A : Option Addr} {xs : List Value} (h : Own w base e size A n c xs) {g : Nat} (hg : g < base) (x y z u : Value) : Own ((((w.setCell ⟨g, 0, none⟩ x).setCell ⟨g, 1, none⟩ y).setCell ⟨g, 2, none⟩ z).setCell ⟨g, 3, none⟩ u) base e size A n c xs :=
  Own.set1 (Own.set1 (Own.set1 (Own.set1 h hg _) hg _) hg _) hg _
set_option maxRecDepth 100000 in
set_option maxHeartbeats 4000000 in
theorem rPTake_any (A : Option Addr) (c : Nat) (b : List UInt8) (w : World) (hs : SlB w A c b) (hl : b.length ≤ 1000000) :
    Calls Tryz.prog 7 #[.slice A b.length c] w (RGivesPc w (pcTake b)) := by
  have hRes := Blk.new w 37 #[.int .i64 0, .int .i64 0, .int .i64 0, .slice none 0 0]
  have hw := below_new w (.cells #[.int .i64 0, .int .i64 0, .int .i64 0, .slice none 0 0] 37)
  have hf0 := fone_zero (b := b)
  have hfl := fone_len b
  go_enter Tryz.func7, Tryz.ntmps7
  go_wp2_with fail
  refine (rOpen_any 1 A c b _ (hs.below hw) (by omega)).mono ?_
  rintro e w1 ⟨v, rfl, ⟨A1, c1, rfl, hS1, hBd1⟩, hb1⟩
  replace hRes := hRes.below hb1
  replace hw := bel_call hw hb1
  clear hb1
  by_cases hf : (fone b).2 = 0
  · have HT0 := Lib.hid (show pcTake b = pcEnd (pread (pkind 1 ((ftake b).1, 0))) from by unfold pcTake; rw [if_neg (by rw [hf]; simp), hf0 hf])
    have hE : (((fone b).2 : Int) != 0) = false := by rw [hf]; rfl
    have hkl := pkind_len 1 ((ftake b).1, 0)
    rw [← hf0 hf] at hfl
    generalize pkind 1 ((ftake b).1, 0) = s0 at *
    have hs0 : s0.1.length ≤ 1000000 := by dsimp only at hkl; omega
    obtain ⟨bd, hbd⟩ : ∃ n, (fone b).2 = n := ⟨_, rfl⟩
    rw [hbd] at hE ⊢
    clear hf hf0 hbd hkl hfl
    go_upto_region 5 with (fail)
    have hR1 := (Blk.new w1 72 #[.slice A1 s0.1.length c1, .int .i64 (s0.2 : Nat)]).alloc (.cells #[.int .i64 0, .int .i64 0, .int .i64 0, .slice none 0 0] 37)
    have hQ1 := Blk.newAt (w := w1.alloc (.cells #[.slice A1 s0.1.length c1, .int .i64 (s0.2 : Nat)] 72)) (g := w1.heap.size + 1) (by simp) 37 #[.int .i64 0, .int .i64 0, .int .i64 0, .slice none 0 0]
    have hbx := bel_alloc (below_new w1 (.cells #[.slice A1 s0.1.length c1, .int .i64 (s0.2 : Nat)] 72)) (.cells #[.int .i64 0, .int .i64 0, .int .i64 0, .slice none 0 0] 37)
    have hwl := hRes.lt
    have hJ : RTt w _ w1.heap.size (w1.heap.size + 1) w1.heap.size 37 37 #[.int .i64 0, .int .i64 0, .int .i64 0, .slice none 0 0] #[.int .i64 0, .int .i64 0, .int .i64 0, .slice none 0 0] A1 c1 s0 := ⟨bel_call hw hbx, hRes.below hbx, hQ1, hR1, Sl.below hS1 hbx, hBd1, by omega, by omega, by omega, by omega, by omega⟩
    clear hR1 hQ1 hbx hw hRes hS1 hBd1
    generalize hWe : (w1.alloc (.cells #[.slice A1 s0.1.length c1, .int .i64 (s0.2 : Nat)] 72)).alloc (.cells #[.int .i64 0, .int .i64 0, .int .i64 0, .slice none 0 0] 37) = w2 at *
    clear hWe
    generalize hge : w1.heap.size = gr at *
    clear hge
    have HTa := Lib.hid (show pcTake b = pcEnd ((((rWithin 1099511627776 s0).1 : Int), ((rWithin 1048576 (rWithin 1099511627776 s0).2).1 : Int), ((rWithin 1048576 (rWithin 1048576 (rWithin 1099511627776 s0).2).2).1 : Int), (takeRun (rWithin 1048576 (rWithin 1048576 (rWithin 1099511627776 s0).2).2).2).1), (takeRun (rWithin 1048576 (rWithin 1048576 (rWithin 1099511627776 s0).2).2).2).2) from by have h := HT0.out; unfold pread sgRead at h; exact h)
    clear HT0
    have HTq := HTa
    clear HTa
    obtain ⟨x0, x1, xf0, xf1⟩ := hJ.r.two
    go_wp2_with fail
    refine (rWithin_v (s := s0) 1099511627776 _ hJ.sl hJ.bd).mono ?_
    rintro e v3 ⟨v, rfl, ⟨A3, c3, rfl, hS3, hBd3⟩, hb3⟩
    have hl3 := rWithin_len 1099511627776 s0
    generalize rWithin 1099511627776 s0 = q3 at *
    obtain ⟨x, s1⟩ := q3
    dsimp only at hS3 hBd3 hl3 HTq ⊢
    have hJ2 := hJ.step hb3 hS3 hBd3 0 (.int .i64 (x : Nat))
    replace hJ := hJ.below hb3
    clear x0 x1 xf0 xf1
    obtain ⟨y0, y1, y2, y3, yf0, yf1, yf2, yf3⟩ := hJ.q.four
    obtain ⟨x0, x1, xf0, xf1⟩ := hJ.r.two
    go_upto_region 6 with (fail)
    simp only [List.setIfInBounds_toArray, List.set_cons_zero, List.set_cons_succ] at hJ2
    clear hJ hS3 hBd3 hb3 x0 x1 xf0 xf1 y0 y1 y2 y3 yf0 yf1 yf2 yf3
    have hJ := hJ2
    clear hJ2
    generalize hWe : ((v3.setCell ⟨gr + 1, 0, none⟩ (.int .i64 (x : Nat))).setCell ⟨gr, 0, none⟩ (.slice A3 (List.length s1.1) c3)).setCell ⟨gr, 1, none⟩ (.int .i64 (s1.2 : Nat)) = w4 at *
    clear hWe
    have HTa := HTq
    clear HTq
    have HTq := HTa
    clear HTa
    obtain ⟨x0, x1, xf0, xf1⟩ := hJ.r.two
    go_wp2_with fail
    refine (rWithin_v (s := s1) 1048576 _ hJ.sl hJ.bd).mono ?_
    rintro e v5 ⟨v, rfl, ⟨A5, c5, rfl, hS5, hBd5⟩, hb5⟩
    have hl5 := rWithin_len 1048576 s1
    generalize rWithin 1048576 s1 = q5 at *
    obtain ⟨y, s2⟩ := q5
    dsimp only at hS5 hBd5 hl5 HTq ⊢
    have hJ2 := hJ.step hb5 hS5 hBd5 1 (.int .i64 (y : Nat))
    replace hJ := hJ.below hb5
    clear x0 x1 xf0 xf1
    obtain ⟨y0, y1, y2, y3, yf0, yf1, yf2, yf3⟩ := hJ.q.four
    obtain ⟨x0, x1, xf0, xf1⟩ := hJ.r.two
    go_upto_region 7 with (fail)
    simp only [List.setIfInBounds_toArray, List.set_cons_zero, List.set_cons_succ] at hJ2
    clear hJ hS5 hBd5 hb5 x0 x1 xf0 xf1 y0 y1 y2 y3 yf0 yf1 yf2 yf3
    have hJ := hJ2
    clear hJ2
    generalize hWe : ((v5.setCell ⟨gr + 1, 1, none⟩ (.int .i64 (y : Nat))).setCell ⟨gr, 0, none⟩ (.slice A5 (List.length s2.1) c5)).setCell ⟨gr, 1, none⟩ (.int .i64 (s2.2 : Nat)) = w6 at *
    clear hWe
    have HTa := HTq
    clear HTq
    have HTq := HTa
    clear HTa
    obtain ⟨x0, x1, xf0, xf1⟩ := hJ.r.two
    go_wp2_with fail
    refine (rWithin_v (s := s2) 1048576 _ hJ.sl hJ.bd).mono ?_
    rintro e v7 ⟨v, rfl, ⟨A7, c7, rfl, hS7, hBd7⟩, hb7⟩
    have hl7 := rWithin_len 1048576 s2
    generalize rWithin 1048576 s2 = q7 at *
    obtain ⟨f, s3⟩ := q7
    dsimp only at hS7 hBd7 hl7 HTq ⊢
    have hJ2 := hJ.step hb7 hS7 hBd7 2 (.int .i64 (f : Nat))
    replace hJ := hJ.below hb7
    clear x0 x1 xf0 xf1
    obtain ⟨y0, y1, y2, y3, yf0, yf1, yf2, yf3⟩ := hJ.q.four
    obtain ⟨x0, x1, xf0, xf1⟩ := hJ.r.two
    go_upto_region 8 with (fail)
    simp only [List.setIfInBounds_toArray, List.set_cons_zero, List.set_cons_succ] at hJ2
    clear hJ hS7 hBd7 hb7 x0 x1 xf0 xf1 y0 y1 y2 y3 yf0 yf1 yf2 yf3
    have hJ := hJ2
    clear hJ2
    generalize hWe : ((v7.setCell ⟨gr + 1, 2, none⟩ (.int .i64 (f : Nat))).setCell ⟨gr, 0, none⟩ (.slice A7 (List.length s3.1) c7)).setCell ⟨gr, 1, none⟩ (.int .i64 (s3.2 : Nat)) = w8 at *
    clear hWe
    have hs3 : s3.1.length ≤ 1000000 := by omega
    clear hl3 hl5 hl7
    have hB8 : gr ≤ w8.heap.size := by have := hJ.r.lt; omega
    have hql := hJ.q.lt
    obtain ⟨x0, x1, xf0, xf1⟩ := hJ.r.two
    go_wp2_with fail
    refine (rTakeRun_any (s := s3) _ hJ.sl hJ.bd hB8 hs3).mono ?_
    rintro e w9 ⟨A9, c9, m9, v, rfl, hm9, hO9, ⟨A10, c10, rfl, hS10, hBd10⟩, hb9⟩
    generalize takeRun s3 = q9 at *
    obtain ⟨rn, s4⟩ := q9
    dsimp only at hm9 hS10 hBd10 HTq ⊢
    obtain rfl := hm9.out
    clear hm9
    have hJ2 := hJ.step hb9 hS10 hBd10 3 (.slice A9 m9.length c9)
    have hO10 := Own.set1 (Own.set1 (Own.set1 hO9 (g := gr + 1) (i := 3) (by omega) (.slice A9 m9.length c9)) (g := gr) (i := 0) (by omega) (.slice A10 s4.1.length c10)) (g := gr) (i := 1) (by omega) (.int .i64 (s4.2 : Nat))
    replace hJ := hJ.below hb9
    clear x0 x1 xf0 xf1
    obtain ⟨y0, y1, y2, y3, yf0, yf1, yf2, yf3⟩ := hJ.q.four
    obtain ⟨x0, x1, xf0, xf1⟩ := hJ.r.two
    go_upto_region 9 with (fail)
    simp only [List.setIfInBounds_toArray, List.set_cons_zero, List.set_cons_succ] at hJ2
    clear hJ hS10 hBd10 hb9 hO9 x0 x1 xf0 xf1 y0 y1 y2 y3 yf0 yf1 yf2 yf3
    have hJ := hJ2
    clear hJ2
    generalize hWe : ((w9.setCell ⟨gr + 1, 3, none⟩ (.slice A9 m9.length c9)).setCell ⟨gr, 0, none⟩ (.slice A10 s4.1.length c10)).setCell ⟨gr, 1, none⟩ (.int .i64 (s4.2 : Nat)) = w10 at *
    clear hWe
    obtain ⟨x0, x1, xf0, xf1⟩ := hJ.r.two
    go_wp2_with fail
    refine (rEnd_v (s := s4) _).mono ?_
    rintro e w11 ⟨rfl, hb11⟩
    replace hJ := hJ.below hb11
    replace hO10 := Own.below hO10 hb11
    clear x0 x1 xf0 xf1 hb11
    rcases Decidable.em (rEnd s4 = 0) with h0 | h0
    · have hbb : (((rEnd s4 : Nat) : Int) != 0) = false := by simp [h0]
      have HN0 := Lib.hid h0
      clear h0
      obtain ⟨y0, y1, y2, y3, yf0, yf1, yf2, yf3⟩ := hJ.q.four
      go_wp2_with fail
      refine (rPCheck_any (x : Nat) (y : Nat) (f : Nat) m9 _ hO10.sl).mono ?_
      rintro e w12 ⟨rfl, hb12⟩
      replace hJ := hJ.below hb12
      replace hO10 := Own.below hO10 hb12
      clear hb12 y0 y1 y2 y3 yf0 yf1 yf2 yf3
      have hRes := hJ.res
      have hw := hJ.bel
      rcases Decidable.em (pchk ((x : Int), (y : Int), (f : Int), m9) = 0) with h1 | h1
      · have hbc : (((pchk ((x : Int), (y : Int), (f : Int), m9) : Nat) : Int) != 0) = false := by simp [h1]
        have HT := Lib.hid (show pcTake b = (((x : Int), (y : Int), (f : Int), m9), 0) from by rw [HTq.out]; unfold pcEnd; rw [if_neg (by rw [HN0.out]; simp), if_neg (by rw [h1]; simp)])
        clear h1
        obtain ⟨y0, y1, y2, y3, yf0, yf1, yf2, yf3⟩ := hJ.q.four
        obtain ⟨r0, r1, r2, r3, rf0, rf1, rf2, rf3⟩ := hRes.four
        have hwl := hJ.n4
        go_wp2_with fail
        exact bodyPost_ret (res_rpc rfl rfl (g := w.heap.size) (hRes.set4 _ _ _ _)) rfl ⟨A9, c9, m9, by rw [HT.out]; rfl, (show _ = _ from by rw [HT.out]), (Own.set4 hO10 (by omega) _ _ _ _).more (by omega), bel_set4 hw (Nat.le_refl _) _ _ _ _⟩
      · have hbc : (((pchk ((x : Int), (y : Int), (f : Int), m9) : Nat) : Int) != 0) = true := by simp; omega
        have HT := Lib.hid (show pcTake b = ((0, 0, 0, []), pchk ((x : Int), (y : Int), (f : Int), m9)) from by rw [HTq.out]; unfold pcEnd; rw [if_neg (by rw [HN0.out]; simp), if_pos (by dsimp only; omega)])
        clear h1
        obtain ⟨r0, r1, r2, r3, rf0, rf1, rf2, rf3⟩ := hRes.four
        go_wp2_with fail
        exact bodyPost_ret (res_rpc rfl rfl (g := w.heap.size) (hRes.set4 _ _ _ _)) rfl ⟨none, 0, [], by rw [HT.out]; rfl, (show _ = _ from by rw [HT.out]), Own.none_ _ _ _ _, bel_set4 hw (Nat.le_refl _) _ _ _ _⟩
    · have hbb : (((rEnd s4 : Nat) : Int) != 0) = true := by simp; omega
      have HT := Lib.hid (show pcTake b = ((0, 0, 0, []), rEnd s4) from by rw [HTq.out]; unfold pcEnd; rw [if_pos (by dsimp only; omega)])
      have hRes := hJ.res
      have hw := hJ.bel
      clear h0
      obtain ⟨r0, r1, r2, r3, rf0, rf1, rf2, rf3⟩ := hRes.four
      go_wp2_with fail
      exact bodyPost_ret (res_rpc rfl rfl (g := w.heap.size) (hRes.set4 _ _ _ _)) rfl ⟨none, 0, [], by rw [HT.out]; rfl, (show _ = _ from by rw [HT.out]), Own.none_ _ _ _ _, bel_set4 hw (Nat.le_refl _) _ _ _ _⟩
  · have HT := Lib.hid (show pcTake b = ((0, 0, 0, []), (fone b).2) from by unfold pcTake; rw [if_pos hf])
    have hE : (((fone b).2 : Int) != 0) = true := by rw [bne_iff_ne]; omega
    generalize (fone b).2 = bd at *
    generalize pkind 1 ((ftake b).1, 0) = s0 at *
    clear hf hf0 hfl
    go_upto_region 3 with (fail)
    have hbx := below_new w1 (.cells #[.slice A1 s0.1.length c1, .int .i64 (s0.2 : Nat)] 72)
    replace hRes := hRes.below hbx
    replace hw := bel_call hw hbx
    clear hbx hS1 hBd1
    generalize hWe : w1.alloc (.cells #[.slice A1 s0.1.length c1, .int .i64 (s0.2 : Nat)] 72) = w2 at *
    clear hWe
    obtain ⟨r0, r1, r2, r3, rf0, rf1, rf2, rf3⟩ := hRes.four
    go_wp2_with fail
    exact bodyPost_ret (res_rpc rfl rfl (g := w.heap.size) (hRes.set4 _ _ _ _)) rfl ⟨none, 0, [], by rw [HT.out]; rfl, (show _ = _ from by rw [HT.out]), Own.none_ _ _ _ _, bel_set4 hw (Nat.le_refl _) _ _ _ _⟩
end Go.Proofs.YtgipfenjachpnaaGreat
