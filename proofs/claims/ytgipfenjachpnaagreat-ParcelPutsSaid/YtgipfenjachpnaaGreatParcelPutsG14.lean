/- WHAT IT HOLDS: lists of texts side by side; frame.All, walked. | WHAT IT HOLDS: the law FrameTakes, walked. | WHAT IT HOLDS: the document's Put of segments, and a segment's cell, walked. | WHAT IT HOLDS: what it says that cells are not too long, plainly. | WHAT IT HOLDS: taking segments, the program's and the document's, walked; the law SegmentTakes, walked. | WHAT IT HOLDS: the document's taking of segments, walked. | WHAT IT HOLDS: a segment that was put is taken as it was, what is taken has just those bytes, and a segment is its parts, joined; plainly (no program). | WHAT IT HOLDS: parcels and receipts, plainly (no program). | WHAT IT HOLDS: Check of parcels, receipts' bytes, walked. | WHAT IT HOLDS: the bytes of receipts, walked. | WHAT IT HOLDS: parcel.open, walked. | WHAT IT HOLDS: parcel.TakeReceipt, walked. | WHAT IT HOLDS: parcel.Take, walked. | WHAT IT HOLDS: parcel.Kind, walked. -/
import Derived.Test.YtgipfenjachpnaaGreatParcelPutsG13
import Derived.Test.YtgipfenjachpnaaGreatParcelPutsG10
import Derived.Test.YtgipfenjachpnaaGreatParcelPutsG07
import Derived.Test.YtgipfenjachpnaaGreatParcelPutsG11
namespace Go.Proofs.YtgipfenjachpnaaGreat
open Go.RowKit
attribute [local go_sem ↓] Go.wp_at_zero Go.wp_at_succ

def fall (l : List UInt8) : List (List UInt8) := if (fpre l).2 = l.length then (fpre l).1 else []
/-- what All answers -/
def AllsB (w0 : World) (o : List (List UInt8)) (bad : Nat) (e : Ending) (w' : World) : Prop :=
  ∃ A c ps, e = .returned (.tuple #[.slice A (List.length ps) c, errv bad]) ∧ Hid (ptx ps = o) ∧ SlT w' A c ps ∧ (∀ x ∈ ps, SlB w' x.1 x.2.1 x.2.2 ∧ (x.2.2 ≠ [] → From w0.heap.size (x.1.map (·.block)))) ∧ From w0.heap.size (A.map (·.block)) ∧ Below w0.heap.size w0 w'
theorem fbad_ne {l : List UInt8} (h : (fpre l).2 ≠ l.length) : fbad l = (ftake (l.drop (fpre l).2)).2.2 ∧ fbad l ≠ 0 := by
  have h1 : fbad l = (ftake (l.drop (fpre l).2)).2.2 := by unfold fbad; rw [if_neg h]
  exact ⟨h1, by rw [h1]; exact (fpre_end _ l (Nat.le_refl _)).2⟩
end Go.Proofs.YtgipfenjachpnaaGreat

namespace Go.Proofs.YtgipfenjachpnaaGreat
open Go.RowKit
attribute [local go_sem ↓] Go.wp_at_zero Go.wp_at_succ

theorem ftake_empty {l : List UInt8} (h : (ftake l).2.2 ≠ 0) : (ftake l).1 = [] := by
  unfold ftake at h ⊢
  split at h
  · rfl
  · rename_i n k hv
    by_cases h1 : 65536 < n
    · rw [if_pos h1]
    · rw [if_neg h1] at h ⊢
      by_cases h2 : l.length < k + n + 4
      · rw [if_pos h2]
      · rw [if_neg h2] at h ⊢
        by_cases h3 : four (sumW (l.take (k + n))) = (l.drop (k + n)).take 4
        · rw [if_pos h3] at h; simp at h
        · rw [if_neg h3]
/-- bytes that can be read, each a place, a capacity, its bytes -/
structure BSt (w : World) (ls : List Pt) (W : World) : Prop where
  bel : Below w.heap.size w W
  sl : ∀ x ∈ ls, SlB W x.1 x.2.1 x.2.2
theorem BSt.at {w W : World} {ls : List Pt} (h : BSt w ls W) {A : Option Addr} {c : Nat} {l : List UInt8} (hm : (A, c, l) ∈ ls) : SlB W A c l := h.sl _ hm
theorem BSt.below {w W W' : World} {ls : List Pt} (h : BSt w ls W) (hb : Below W.heap.size W W') : BSt w ls W' := ⟨bel_call h.bel hb, fun x hx => (h.sl x hx).below hb⟩
theorem BSt.add {w W : World} {ls : List Pt} (h : BSt w ls W) {A : Option Addr} {c : Nat} {l : List UInt8} (hs : SlB W A c l) : BSt w ((A, c, l) :: ls) W := ⟨h.bel, fun x hx => by
  rw [List.mem_cons] at hx
  rcases hx with rfl | hx
  · exact hs
  · exact h.sl x hx⟩

/-- a row of bytes that can be written -/
structure Wri (w : World) (g off : Nat) (m : List UInt8) : Prop where
  blk : ∃ cur, w.heap[g]? = some (.cells cur 5)
  at_ : ∀ j (h : j < m.length), w.cell? ⟨g, off + j, none⟩ = some (bv m[j])
theorem Wri.frozen {w : World} {g off : Nat} {m : List UInt8} (h : Wri w g off m) (i : Nat) : w.frozen? ⟨g, i, none⟩ = false := by
  obtain ⟨cur, hc⟩ := h.blk
  simp [World.frozen?, hc]
theorem Wri.set {w : World} {g off : Nat} {m : List UInt8} (h : Wri w g off m) {k : Nat} (_hk : k < m.length) (x : UInt8) : Wri (w.setCell ⟨g, off + k, none⟩ (bv x)) g off (m.set k x) := by
  obtain ⟨cur, hc⟩ := h.blk
  refine ⟨⟨cur.setIfInBounds (off + k) (bv x), by simp [World.setCell, Array.getElem?_modify, hc]⟩, fun j hj => ?_⟩
  have hj2 : j < m.length := by simpa using hj
  have h1 := h.at_ j hj2
  rw [cell_of_row w g _ cur 5 (0, 0) hc] at h1
  rw [cell_of_row _ g _ (cur.setIfInBounds (off + k) (bv x)) 5 (0, 0) (by simp [World.setCell, Array.getElem?_modify, hc])]
  rw [Array.getElem?_setIfInBounds, List.getElem_set]
  by_cases e : k = j
  · subst e
    rw [if_pos rfl, if_pos rfl, if_pos (Array.getElem?_eq_some_iff.1 h1).1]
  · rw [if_neg (by omega), if_neg e]; exact h1
/-- all blocks but those between lo and hi stay -/
structure Beside (lo hi : Nat) (W W' : World) : Prop where
  size : W.heap.size ≤ W'.heap.size
  block : ∀ k, k < W.heap.size → (k < lo ∨ hi ≤ k) → W'.heap[k]? = W.heap[k]?
theorem Beside.refl (lo hi : Nat) (W : World) : Beside lo hi W W := ⟨Nat.le_refl _, fun _ _ _ => rfl⟩
theorem Beside.set {lo hi : Nat} {W W' : World} (h : Beside lo hi W W') {g i : Nat} (h1 : lo ≤ g) (h2 : g < hi) (u : Value) : Beside lo hi W (W'.setCell ⟨g, i, none⟩ u) :=
  ⟨by simpa using h.size, fun k hk hs => (Below.heap_setCell W' ⟨g, i, none⟩ u k (by show k ≠ g; omega)).trans (h.block k hk hs)⟩
theorem Beside.sl {lo hi : Nat} {W W' : World} (h : Beside lo hi W W') {size n c : Nat} {A : Option Addr} {xs : List Value} (hs : Sl W size A n c xs) (hA : xs ≠ [] → ∀ g, A.map (·.block) = some g → g < lo ∨ hi ≤ g) : Sl W' size A n c xs := by
  refine ⟨hs.1, hs.2.1, hs.2.2.1, hs.2.2.2.1, fun j u hj => ?_⟩
  obtain ⟨ad, rfl, hc⟩ := hs.2.2.2.2 j u hj
  have hne : xs ≠ [] := by intro e; rw [e] at hj; simp at hj
  refine ⟨ad, rfl, ?_⟩
  have hlt := World.block_lt_of_cell? W _ hc
  have hb := h.block _ hlt (by rw [addr_add_block]; exact hA hne _ rfl)
  rw [← hc]
  unfold World.cell?
  rw [hb]

theorem meas_one {n k : Nat} (h : k < n) : n - (intOf (.int .i64 ((k : Int) + 1))).toNat < n - (intOf (.int .i64 (k : Int))).toNat := by
  have h1 : (intOf (.int .i64 ((k : Int) + 1))).toNat = k + 1 := by show ((k : Int) + 1).toNat = k + 1; omega
  have h2 : (intOf (.int .i64 (k : Int))).toNat = k := by show (k : Int).toNat = k; omega
  rw [h1, h2]
  omega
theorem val_one (k : Nat) : Value.int .i64 ((k : Int) + 1) = .int .i64 ((k + 1 : Nat) : Int) := rfl

end Go.Proofs.YtgipfenjachpnaaGreat

namespace Go.Proofs.YtgipfenjachpnaaGreat
open Go.RowKit
attribute [local go_sem ↓] Go.wp_at_zero Go.wp_at_succ

def sat (s : Sg) (a : Int) : Ce × Bool := if a < s.1 ∨ (s.2.length : Int) ≤ a - s.1 then ((0, []), false) else (s.2.getD (a - s.1).toNat (0, []), true)
/-- the cell of a segment, and whether there is one -/
def GivesAt (w0 : World) (x : Ce × Bool) (e : Ending) (w' : World) : Prop :=
  ∃ A c m, e = .returned (.tuple #[cv x.1.1 A (List.length m) c, .bool x.2]) ∧ Hid (m = x.1.2) ∧ SlB w' A c m ∧ Below w0.heap.size w0 w'
end Go.Proofs.YtgipfenjachpnaaGreat

namespace Go.Proofs.YtgipfenjachpnaaGreat
theorem longb_all {l : List CeV} {n : Int} (h : longb (l.map ceOf) n = false) (hn : n ≤ 1000) : (∀ x ∈ l, x.2.2.2.length ≤ 1000000000) ∧ l.length ≤ 1000 := by
  unfold longb at h
  simp only [Bool.or_eq_false_iff, decide_eq_false_iff_not, List.any_eq_false] at h
  refine ⟨fun x hx => ?_, ?_⟩
  · have := h.1 (ceOf x) (List.mem_map_of_mem hx)
    simp at this
    omega
  · have := h.2
    simp at this
    omega
end Go.Proofs.YtgipfenjachpnaaGreat

namespace Go.Proofs.YtgipfenjachpnaaGreat
open Go.RowKit
attribute [local go_sem ↓] Go.wp_at_zero Go.wp_at_succ

/-- the segment that bytes are; an error's number -/
def sgEnd (x : Sg × Rs) : Sg × Nat := if rEnd x.2 ≠ 0 then ((0, []), rEnd x.2) else if schk x.1 ≠ 0 then ((0, []), schk x.1) else (x.1, 0)
def sgRead (s : Rs) : Sg × Rs := ((((rWithin 1048576 s).1 : Int), (takeRun (rWithin 1048576 s).2).1), (takeRun (rWithin 1048576 s).2).2)
def sgTake (b : List UInt8) : Sg × Nat := if (fone b).2 ≠ 0 then ((0, []), (fone b).2) else sgEnd (sgRead ((fone b).1, 0))
theorem End_s {g B : Nat} {s : Rs} {w : World} (hR : IsR w g B s) : Calls Tryz.prog 26 #[.pointer (some ⟨g, 0, none⟩)] w fun e w' => e = .returned (errv (rEnd s)) ∧ w = w' := by obtain ⟨l, b⟩ := s; exact End_any hR
theorem NewS.setLow {w : World} {base g c : Nat} {A : Option Addr} {m : List CeV} (h : NewS w base A c m) (hg : g < base) (i : Nat) (u : Value) : NewS (w.setCell ⟨g, i, none⟩ u) base A c m := ⟨Own.set1 h.1 hg _, fun x hx => Own.set1 (h.2 x hx) hg _⟩
theorem fone_len (b : List UInt8) : (fone b).1.length ≤ b.length := by
  unfold fone
  split
  · simp
  · split
    · simp
    · unfold ftake
      split
      · simp
      · split
        · simp
        · split
          · simp
          · split
            · simp only [List.length_drop, List.length_take]; omega
            · simp
end Go.Proofs.YtgipfenjachpnaaGreat

namespace Go.Proofs.YtgipfenjachpnaaGreat
open Go.RowKit
attribute [local go_sem ↓] Go.wp_at_zero Go.wp_at_succ

theorem rEnd_v {A : Option Addr} {c : Nat} {s : Rs} (w : World) : Calls Tryz.prog 30 #[rv A s.1.length c s.2] w fun e w' => e = .returned (.int .i64 (rEnd s : Nat)) ∧ Below w.heap.size w w' := by obtain ⟨l, b⟩ := s; exact rEnd_any w
theorem rWithin_v {A : Option Addr} {c : Nat} {s : Rs} (most : Nat) (w : World) (hS : SlB w A c s.1) {B : Nat} (hBd : s.1 ≠ [] → ∀ ad, A = some ad → ad.block < B) : Calls Tryz.prog 28 #[rv A s.1.length c s.2, .int .u64 most] w (RGives .i64 B (rWithin most s) w) := by obtain ⟨l, b⟩ := s; exact rWithin_any most w hS hBd
end Go.Proofs.YtgipfenjachpnaaGreat

namespace Go.Proofs.YtgipfenjachpnaaGreat
open Go.RowKit

theorem stxt_short {s : Sg} (h : schk s = 0) : (stxt s).length ≤ 65536 := Nat.le_trans (stxt_len h) (by decide)
theorem sput_ok {s : Sg} (h : schk s = 0) : sput s = (frm (stxt s), 0) := by
  unfold sput fput
  have := stxt_short h
  rw [if_neg (by rw [h]; simp), if_neg (by omega)]
  rfl
theorem sput_bad {s : Sg} (h : (sput s).2 = 0) : schk s = 0 := by
  unfold sput at h
  by_cases h0 : schk s = 0
  · exact h0
  · rw [if_pos h0] at h
    exact h
theorem sgTake_put {s : Sg} (h : schk s = 0) : sgTake (sput s).1 = (s, 0) := by
  obtain ⟨h0, h1, h2, h3, h4⟩ := schk_ok h
  obtain ⟨n, hn⟩ : ∃ n : Nat, s.1 = n := ⟨s.1.toNat, by omega⟩
  rw [sput_ok h]
  unfold sgTake
  rw [fone_frm (stxt_short h), if_neg (by simp)]
  have e1 : rWithin 1048576 (stxt s, 0) = (n, (vb s.2.length ++ (prun [] s.2 ++ []), 0)) := by
    unfold stxt
    rw [hn, Int.toNat_natCast, List.append_nil]
    exact rWithin_vb (by unfold U64; omega) (by omega) (by omega) _
  have e2 := takeRun_put (rchk_zero h4) h2 []
  have e3 : sgRead (stxt s, 0) = (s, ([], 0)) := by
    unfold sgRead
    rw [e1]
    dsimp only
    rw [e2]
    obtain ⟨s1, s2⟩ := s
    dsimp only at hn ⊢
    rw [hn]
  rw [show ((stxt s, (0 : Nat)).1, 0) = (stxt s, 0) from rfl, e3]
  unfold sgEnd
  rw [if_neg (by simp [rEnd]), if_neg (by rw [h]; simp)]
theorem rEnd_zero {s : Rs} (h : rEnd s = 0) : s = ([], 0) := by
  obtain ⟨l, b⟩ := s
  unfold rEnd at h
  split at h
  · exact absurd h (by decide)
  · rename_i hc
    dsimp only at hc h
    subst h
    cases l with
    | nil => rfl
    | cons x r => exact absurd ⟨rfl, by simp⟩ hc
theorem sgTake_back {b : List UInt8} {s : Sg} (_hl : b.length ≤ 1000000) (h : sgTake b = (s, 0)) : schk s = 0 ∧ sput s = (b, 0) := by
  unfold sgTake at h
  by_cases hf : (fone b).2 ≠ 0
  · rw [if_pos hf] at h
    injection h with _ h
    exact absurd h hf
  · rw [if_neg hf] at h
    obtain ⟨hb1, hb2⟩ := fone_back (Decidable.byContradiction hf)
    have hfl := fone_len b
    generalize (fone b).1 = t at *
    unfold sgEnd at h
    by_cases he : rEnd (sgRead (t, 0)).2 ≠ 0
    · rw [if_pos he] at h
      injection h with _ h
      exact absurd h he
    · rw [if_neg he] at h
      by_cases hc : schk (sgRead (t, 0)).1 ≠ 0
      · rw [if_pos hc] at h
        injection h with _ h
        exact absurd h hc
      · rw [if_neg hc] at h
        injection h with h _
        have hc0 : schk s = 0 := by rw [← h]; exact Decidable.byContradiction hc
        have he0 := rEnd_zero (Decidable.byContradiction he)
        obtain ⟨f, s3, e1⟩ : ∃ f s, rWithin 1048576 (t, 0) = (f, s) := ⟨_, _, rfl⟩
        obtain ⟨cs, s5, e2⟩ : ∃ r s, takeRun s3 = (r, s) := ⟨_, _, rfl⟩
        have hsr : sgRead (t, 0) = (((f : Int), cs), s5) := by unfold sgRead; rw [e1]; dsimp only; rw [e2]
        rw [hsr] at he0 h
        dsimp only at he0 h
        subst he0
        have hs3 : s3.2 = 0 := by
          rcases Decidable.em (s3.2 = 0) with h' | h'
          · exact h'
          · have hz : takeRun s3 = ([], rFail 3 s3) := tr_start (rNum_of h') (.inl h')
            rw [e2] at hz
            injection hz with _ hz
            rw [rFail_of h'] at hz
            rw [← hz] at h'
            exact absurd rfl h'
        obtain ⟨_, _, hl1⟩ := rWithin_someB e1 hs3
        obtain ⟨l3, b3⟩ := s3
        dsimp only at hs3 hl1
        subst hs3
        have hl3 : l3.length ≤ 1000000000 := by
          have := congrArg List.length hl1
          rw [List.length_append] at this
          omega
        obtain ⟨hl2, _, _⟩ := takeRun_back hl3 e2 rfl
        refine ⟨hc0, ?_⟩
        rw [sput_ok hc0]
        have hst : stxt s = t := by
          rw [← h]
          unfold stxt
          dsimp only
          rw [Int.toNat_natCast, hl1, hl2]
          simp
        rw [hst, ← hb2]
/-- a segment's parts -/
theorem spart_head {s : Sg} (h : schk s = 0) {m : Nat} (hm : m ≤ s.2.length) : spart s s.1 (s.1 + m) = ((s.1, s.2.take m), 0) := by
  unfold spart
  rw [if_neg (by rw [h]; simp), if_neg (by omega)]
  have e1 : (s.1 - s.1).toNat = 0 := by omega
  have e2 : (s.1 + (m : Int) - s.1).toNat = m := by omega
  rw [e1, e2, List.drop_zero]
theorem spart_tail {s : Sg} (h : schk s = 0) {m : Nat} (hm : m ≤ s.2.length) : spart s (s.1 + m) (s.1 + s.2.length) = ((s.1 + m, s.2.drop m), 0) := by
  unfold spart
  rw [if_neg (by rw [h]; simp), if_neg (by omega)]
  have e1 : (s.1 + (m : Int) - s.1).toNat = m := by omega
  have e2 : (s.1 + (s.2.length : Int) - (s.1 + (m : Int))).toNat = s.2.length - m := by omega
  rw [e1, e2, List.take_of_length_le (by simp)]
theorem schk_cut {s : Sg} (h : schk s = 0) {a m n : Nat} (hm : m + n ≤ s.2.length) (ha : a ≤ m) : schk (s.1 + a, (s.2.drop m).take n) = 0 := by
  obtain ⟨h0, h1, h2, h3, h4⟩ := schk_ok h
  have hl : ((s.2.drop m).take n).length = n := by simp; omega
  rw [schk_cells (by dsimp only; omega) (by dsimp only; omega) (by dsimp only; omega)]
  exact rchk_part h4 m n
theorem sjoin_parts {s : Sg} (h : schk s = 0) {m : Nat} (hm : m ≤ s.2.length) : sjoin (s.1, s.2.take m) (s.1 + m, s.2.drop m) = (s, 0) := by
  have c1 : schk (s.1, s.2.take m) = 0 := by
    have := schk_cut h (a := 0) (m := 0) (n := m) (by omega) (Nat.le_refl _)
    simpa using this
  have c2 : schk (s.1 + m, s.2.drop m) = 0 := by
    have := schk_cut h (a := m) (m := m) (n := s.2.length - m) (by omega) (Nat.le_refl _)
    rw [List.take_of_length_le (by simp)] at this
    exact this
  unfold sjoin
  rw [if_neg (by rw [c1]; simp), if_neg (by rw [c2]; simp), if_neg (by simp; omega)]
  dsimp only
  rw [List.take_append_drop, if_neg (by rw [h]; simp)]
theorem sgTake_len64 (b : List UInt8) : (sgTake b).1.2.length ≤ 64 := by
  unfold sgTake
  split
  · simp
  · unfold sgEnd
    split
    · simp
    · split
      · simp
      · rename_i h
        obtain ⟨_, _, h3, _⟩ := schk_ok (Decidable.byContradiction h)
        exact h3
end Go.Proofs.YtgipfenjachpnaaGreat

namespace Go.Proofs.YtgipfenjachpnaaGreat
open Go.RowKit

/-- a parcel: its epoch, its trim, its segment -/
abbrev Pc := Int × Int × Sg
abbrev Rc := Int × Int
/-- an error's number -/
def pchk (p : Pc) : Nat := if p.1 < 0 ∨ 1099511627776 < p.1 ∨ p.2.1 < 0 ∨ 1048576 < p.2.1 then 1 else schk p.2.2
def ptxt (p : Pc) : List UInt8 := vb 1 ++ (vb p.1.toNat ++ (vb p.2.1.toNat ++ stxt p.2.2))
def pput (p : Pc) : List UInt8 × Nat := if pchk p ≠ 0 then ([], pchk p) else fput [] (ptxt p)
def qchk (r : Rc) : Nat := if r.1 < 0 ∨ 1099511627776 < r.1 ∨ r.2 < 0 ∨ 1048576 < r.2 then 1 else 0
def qtxt (r : Rc) : List UInt8 := vb 2 ++ (vb r.1.toNat ++ vb r.2.toNat)
def qput (r : Rc) : List UInt8 × Nat := if qchk r ≠ 0 then ([], qchk r) else fput [] (qtxt r)
/-- the reader behind the kind -/
def pkind (k : Nat) (s : Rs) : Rs := if (rNum s).1 ≠ k then rFail 2 (rNum s).2 else (rNum s).2
def pread (s : Rs) : Pc × Rs :=
  ((((rWithin 1099511627776 s).1 : Int), ((rWithin 1048576 (rWithin 1099511627776 s).2).1 : Int), (sgRead (rWithin 1048576 (rWithin 1099511627776 s).2).2).1), (sgRead (rWithin 1048576 (rWithin 1099511627776 s).2).2).2)
def qread (s : Rs) : Rc × Rs :=
  ((((rWithin 1099511627776 s).1 : Int), ((rWithin 1048576 (rWithin 1099511627776 s).2).1 : Int)), (rWithin 1048576 (rWithin 1099511627776 s).2).2)
def pcEnd (x : Pc × Rs) : Pc × Nat := if rEnd x.2 ≠ 0 then ((0, 0, 0, []), rEnd x.2) else if pchk x.1 ≠ 0 then ((0, 0, 0, []), pchk x.1) else (x.1, 0)
def qcEnd (x : Rc × Rs) : Rc × Nat := if rEnd x.2 ≠ 0 then ((0, 0), rEnd x.2) else (x.1, 0)
def pcTake (b : List UInt8) : Pc × Nat := if (fone b).2 ≠ 0 then ((0, 0, 0, []), (fone b).2) else pcEnd (pread (pkind 1 ((fone b).1, 0)))
def qcTake (b : List UInt8) : Rc × Nat := if (fone b).2 ≠ 0 then ((0, 0), (fone b).2) else qcEnd (qread (pkind 2 ((fone b).1, 0)))
def pcKind (b : List UInt8) : Nat := if (pcTake b).2 = 0 then 1 else if (qcTake b).2 = 0 then 2 else 0

theorem pchk_ok {p : Pc} (h : pchk p = 0) : 0 ≤ p.1 ∧ p.1 ≤ 1099511627776 ∧ 0 ≤ p.2.1 ∧ p.2.1 ≤ 1048576 ∧ schk p.2.2 = 0 := by
  unfold pchk at h
  split at h
  · exact absurd h (by decide)
  · exact ⟨by omega, by omega, by omega, by omega, h⟩
theorem qchk_ok {r : Rc} (h : qchk r = 0) : 0 ≤ r.1 ∧ r.1 ≤ 1099511627776 ∧ 0 ≤ r.2 ∧ r.2 ≤ 1048576 := by
  unfold qchk at h
  split at h
  · exact absurd h (by decide)
  · exact ⟨by omega, by omega, by omega, by omega⟩
theorem pkind_len (k : Nat) (s : Rs) : (pkind k s).1.length ≤ s.1.length := by
  have := rNum_len s
  unfold pkind
  split
  · unfold rFail
    split
    · exact this
    · exact this
  · exact this
theorem rFail2_ne (s : Rs) : (rFail 2 s).2 ≠ 0 := by
  unfold rFail
  split
  · simp
  · assumption
/-- behind the kind nothing is wrong: it was the kind -/
theorem pkind_ok {k : Nat} {s : Rs} (h : (pkind k s).2 = 0) : s.2 = 0 ∧ s.1 = vb k ++ (pkind k s).1 := by
  unfold pkind at h ⊢
  by_cases hk : (rNum s).1 ≠ k
  · rw [if_pos hk] at h
    exact absurd h (rFail2_ne _)
  · rw [if_neg hk] at h ⊢
    obtain ⟨h1, _, h3⟩ := rNum_someB (s := s) (n := (rNum s).1) (s1 := (rNum s).2) rfl h
    refine ⟨h1, ?_⟩
    rw [h3]
    have : (rNum s).1 = k := Decidable.byContradiction hk
    rw [this]
theorem pkind_vb {k : Nat} (hk : U64 k) (r : List UInt8) : pkind k (vb k ++ r, 0) = (r, 0) := by
  unfold pkind
  rw [rNum_vb hk, if_neg (by simp)]
theorem pput_ok {p : Pc} (h : pchk p = 0) : pput p = (frm (ptxt p), 0) := by
  obtain ⟨h1, h2, h3, h4, h5⟩ := pchk_ok h
  have l1 := vb_le10 (n := 1) (by omega)
  have l2 := vb_le10 (n := p.1.toNat) (by omega)
  have l3 := vb_le10 (n := p.2.1.toNat) (by omega)
  have l4 := stxt_len h5
  have hl : (ptxt p).length ≤ 65536 := by
    unfold ptxt
    simp only [List.length_append]
    omega
  unfold pput fput
  rw [if_neg (by rw [h]; simp), if_neg (by omega)]
  rfl
theorem qput_ok {r : Rc} (h : qchk r = 0) : qput r = (frm (qtxt r), 0) := by
  obtain ⟨h1, h2, h3, h4⟩ := qchk_ok h
  have l1 := vb_le10 (n := 2) (by omega)
  have l2 := vb_le10 (n := r.1.toNat) (by omega)
  have l3 := vb_le10 (n := r.2.toNat) (by omega)
  have hl : (qtxt r).length ≤ 65536 := by
    unfold qtxt
    simp only [List.length_append]
    omega
  unfold qput fput
  rw [if_neg (by rw [h]; simp), if_neg (by omega)]
  rfl
theorem sgRead_put {s : Sg} (h : schk s = 0) : sgRead (stxt s, 0) = (s, ([], 0)) := by
  obtain ⟨h0, h1, h2, h3, h4⟩ := schk_ok h
  obtain ⟨n, hn⟩ : ∃ n : Nat, s.1 = n := ⟨s.1.toNat, by omega⟩
  have e1 : rWithin 1048576 (stxt s, 0) = (n, (vb s.2.length ++ (prun [] s.2 ++ []), 0)) := by
    unfold stxt
    rw [hn, Int.toNat_natCast, List.append_nil]
    exact rWithin_vb (by unfold U64; omega) (by omega) (by omega) _
  have e2 := takeRun_put (rchk_zero h4) h2 []
  unfold sgRead
  rw [e1]
  dsimp only
  rw [e2]
  obtain ⟨s1, s2⟩ := s
  dsimp only at hn ⊢
  rw [hn]
theorem sgRead_back {t : Rs} {s : Sg} (hl : t.1.length ≤ 1000000) (h : sgRead t = (s, ([], 0))) : t.2 = 0 ∧ t.1 = stxt s := by
  obtain ⟨f, s3, e1⟩ : ∃ f s, rWithin 1048576 t = (f, s) := ⟨_, _, rfl⟩
  obtain ⟨cs, s5, e2⟩ : ∃ r s, takeRun s3 = (r, s) := ⟨_, _, rfl⟩
  have hsr : sgRead t = (((f : Int), cs), s5) := by unfold sgRead; rw [e1]; dsimp only; rw [e2]
  rw [hsr] at h
  injection h with h he0
  subst he0
  have hs3 : s3.2 = 0 := by
    rcases Decidable.em (s3.2 = 0) with h' | h'
    · exact h'
    · have hz : takeRun s3 = ([], rFail 3 s3) := tr_start (rNum_of h') (.inl h')
      rw [e2] at hz
      injection hz with _ hz
      rw [rFail_of h'] at hz
      rw [← hz] at h'
      exact absurd rfl h'
  obtain ⟨ht, _, hl1⟩ := rWithin_someB e1 hs3
  refine ⟨ht, ?_⟩
  obtain ⟨l3, b3⟩ := s3
  dsimp only at hs3 hl1
  subst hs3
  have hl3 : l3.length ≤ 1000000000 := by
    have := congrArg List.length hl1
    rw [List.length_append] at this
    omega
  obtain ⟨hl2, _, _⟩ := takeRun_back hl3 e2 rfl
  rw [← h]
  unfold stxt
  dsimp only
  rw [Int.toNat_natCast, hl1, hl2]
  simp
theorem wr_put {m : Nat} {x : Int} (_h0 : 0 ≤ x) (h1 : x ≤ m) (hm : m ≤ 4611686018427387904) (r : List UInt8) : rWithin m (vb x.toNat ++ r, 0) = (x.toNat, (r, 0)) := rWithin_vb (by unfold U64; omega) (by omega) (by omega) r
theorem pcTake_put {p : Pc} (h : pchk p = 0) : pcTake (frm (ptxt p)) = (p, 0) := by
  have hl : (ptxt p).length ≤ 65536 := by
    obtain ⟨h1, h2, h3, h4, h5⟩ := pchk_ok h
    have l1 := vb_le10 (n := 1) (by omega)
    have l2 := vb_le10 (n := p.1.toNat) (by omega)
    have l3 := vb_le10 (n := p.2.1.toNat) (by omega)
    have l4 := stxt_len h5
    unfold ptxt
    simp only [List.length_append]
    omega
  obtain ⟨h1, h2, h3, h4, h5⟩ := pchk_ok h
  unfold pcTake
  rw [fone_frm hl, if_neg (by simp)]
  dsimp only
  have e : pread (pkind 1 (ptxt p, 0)) = (p, ([], 0)) := by
    unfold pread ptxt
    rw [pkind_vb (by unfold U64; omega), wr_put (m := 1099511627776) h1 (by omega) (by omega)]
    dsimp only
    rw [wr_put (m := 1048576) h3 (by omega) (by omega)]
    dsimp only
    rw [sgRead_put h5]
    obtain ⟨p1, p2, p3⟩ := p
    dsimp only at h1 h3 ⊢
    rw [Int.toNat_of_nonneg h1, Int.toNat_of_nonneg h3]
  rw [e]
  unfold pcEnd
  rw [if_neg (by simp [rEnd]), if_neg (by rw [h]; simp)]
theorem qcTake_put {r : Rc} (h : qchk r = 0) : qcTake (frm (qtxt r)) = (r, 0) := by
  have hl : (qtxt r).length ≤ 65536 := by
    obtain ⟨h1, h2, h3, h4⟩ := qchk_ok h
    have l1 := vb_le10 (n := 2) (by omega)
    have l2 := vb_le10 (n := r.1.toNat) (by omega)
    have l3 := vb_le10 (n := r.2.toNat) (by omega)
    unfold qtxt
    simp only [List.length_append]
    omega
  obtain ⟨h1, h2, h3, h4⟩ := qchk_ok h
  unfold qcTake
  rw [fone_frm hl, if_neg (by simp)]
  dsimp only
  have e : qread (pkind 2 (qtxt r, 0)) = (r, ([], 0)) := by
    unfold qread qtxt
    rw [pkind_vb (by unfold U64; omega), wr_put (m := 1099511627776) h1 (by omega) (by omega)]
    dsimp only
    have := wr_put (m := 1048576) h3 (by omega) (by omega) []
    rw [List.append_nil] at this
    rw [this]
    obtain ⟨p1, p2⟩ := r
    dsimp only at h1 h3 ⊢
    rw [Int.toNat_of_nonneg h1, Int.toNat_of_nonneg h3]
  rw [e]
  unfold qcEnd
  rw [if_neg (by simp [rEnd])]
theorem pcTake_ok {b : List UInt8} (_hl : b.length ≤ 1000000) {p : Pc} (h : pcTake b = (p, 0)) : pchk p = 0 ∧ b = frm (ptxt p) := by
  unfold pcTake at h
  by_cases hf : (fone b).2 ≠ 0
  · rw [if_pos hf] at h
    injection h with _ h
    exact absurd h hf
  · rw [if_neg hf] at h
    obtain ⟨hb1, hb2⟩ := fone_back (Decidable.byContradiction hf)
    have hfl := fone_len b
    generalize (fone b).1 = t at *
    unfold pcEnd at h
    by_cases he : rEnd (pread (pkind 1 (t, 0))).2 ≠ 0
    · rw [if_pos he] at h
      injection h with _ h
      exact absurd h he
    rw [if_neg he] at h
    by_cases hc : pchk (pread (pkind 1 (t, 0))).1 ≠ 0
    · rw [if_pos hc] at h
      injection h with _ h
      exact absurd h hc
    rw [if_neg hc] at h
    injection h with h _
    have hc0 : pchk p = 0 := by rw [← h]; exact Decidable.byContradiction hc
    have he0 := rEnd_zero (Decidable.byContradiction he)
    have hkl := pkind_len 1 (t, 0)
    have hko := pkind_ok (k := 1) (s := (t, 0))
    generalize pkind 1 (t, 0) = s1 at *
    obtain ⟨x, s2, e1⟩ : ∃ f s, rWithin 1099511627776 s1 = (f, s) := ⟨_, _, rfl⟩
    obtain ⟨y, s3, e2⟩ : ∃ f s, rWithin 1048576 s2 = (f, s) := ⟨_, _, rfl⟩
    obtain ⟨z, s4, e3⟩ : ∃ f s, sgRead s3 = (f, s) := ⟨_, _, rfl⟩
    have e4 : pread s1 = (((x : Int), (y : Int), z), s4) := by unfold pread; rw [e1]; dsimp only; rw [e2]; dsimp only; rw [e3]
    rw [e4] at he0 h
    dsimp only at he0 h hkl
    subst he0
    have l2 := rWithin_len 1099511627776 s1
    have l3 := rWithin_len 1048576 s2
    rw [e1] at l2
    rw [e2] at l3
    dsimp only at l2 l3
    obtain ⟨g3, q3⟩ := sgRead_back (by omega) e3
    obtain ⟨g2, _, q2⟩ := rWithin_someB e2 g3
    obtain ⟨g1, _, q1⟩ := rWithin_someB e1 g2
    obtain ⟨_, q0⟩ := hko g1
    refine ⟨hc0, ?_⟩
    rw [hb2]
    congr 1
    dsimp only at q0
    rw [q0, q1, q2, q3, ← h]
    rfl
theorem qcTake_ok {b : List UInt8} {r : Rc} (h : qcTake b = (r, 0)) : qchk r = 0 ∧ b = frm (qtxt r) := by
  unfold qcTake at h
  by_cases hf : (fone b).2 ≠ 0
  · rw [if_pos hf] at h
    injection h with _ h
    exact absurd h hf
  · rw [if_neg hf] at h
    obtain ⟨hb1, hb2⟩ := fone_back (Decidable.byContradiction hf)
    generalize (fone b).1 = t at *
    unfold qcEnd at h
    by_cases he : rEnd (qread (pkind 2 (t, 0))).2 ≠ 0
    · rw [if_pos he] at h
      injection h with _ h
      exact absurd h he
    rw [if_neg he] at h
    injection h with h _
    have he0 := rEnd_zero (Decidable.byContradiction he)
    have hko := pkind_ok (k := 2) (s := (t, 0))
    generalize pkind 2 (t, 0) = s1 at *
    obtain ⟨x, s2, e1⟩ : ∃ f s, rWithin 1099511627776 s1 = (f, s) := ⟨_, _, rfl⟩
    obtain ⟨y, s3, e2⟩ : ∃ f s, rWithin 1048576 s2 = (f, s) := ⟨_, _, rfl⟩
    have e4 : qread s1 = (((x : Int), (y : Int)), s3) := by unfold qread; rw [e1]; dsimp only; rw [e2]
    rw [e4] at he0 h
    dsimp only at he0 h
    subst he0
    obtain ⟨g2, hy, q2⟩ := rWithin_someB e2 rfl
    obtain ⟨g1, hx, q1⟩ := rWithin_someB e1 g2
    obtain ⟨_, q0⟩ := hko g1
    dsimp only at q0
    rw [← h]
    refine ⟨?_, ?_⟩
    · unfold qchk
      rw [if_neg (by dsimp only; omega)]
    · rw [hb2]
      congr 1
      rw [q0, q1, q2]
      unfold qtxt
      simp
/-- no bytes are both -/
theorem pc_not_qc {b : List UInt8} (hl : b.length ≤ 1000000) {p : Pc} {r : Rc} (h : pcTake b = (p, 0)) (h2 : qcTake b = (r, 0)) : False := by
  obtain ⟨a1, a2⟩ := pcTake_ok hl h
  have h3 : (fone b).1 = ptxt p := by
    obtain ⟨h1, h2, h3, h4, h5⟩ := pchk_ok a1
    have l1 := vb_le10 (n := 1) (by omega)
    have l2 := vb_le10 (n := p.1.toNat) (by omega)
    have l3 := vb_le10 (n := p.2.1.toNat) (by omega)
    have l4 := stxt_len h5
    rw [a2, fone_frm (by unfold ptxt; simp only [List.length_append]; omega)]
  obtain ⟨c1, c2⟩ := qcTake_ok h2
  have h4 : (fone b).1 = qtxt r := by
    obtain ⟨h1, h2, h3, h4⟩ := qchk_ok c1
    have l1 := vb_le10 (n := 2) (by omega)
    have l2 := vb_le10 (n := r.1.toNat) (by omega)
    have l3 := vb_le10 (n := r.2.toNat) (by omega)
    rw [c2, fone_frm (by unfold qtxt; simp only [List.length_append]; omega)]
  rw [h3] at h4
  have e1 : vb 1 = [1] := by rw [vb]; rfl
  have e2 : vb 2 = [2] := by rw [vb]; rfl
  unfold ptxt qtxt at h4
  rw [e1, e2] at h4
  simp at h4
end Go.Proofs.YtgipfenjachpnaaGreat

namespace Go.Proofs.YtgipfenjachpnaaGreat
open Go.RowKit
attribute [local go_sem ↓] Go.wp_at_zero Go.wp_at_succ

abbrev pcv (e t f : Int) (A : Option Addr) (n c : Nat) : Value := .agg #[.int .i64 e, .int .i64 t, .int .i64 f, .slice A n c]
set_option maxRecDepth 100000 in
set_option maxHeartbeats 400000 in
theorem PIn_any (x m : Int) (w : World) : Calls Tryz.prog 37 #[.int .i64 x, .int .i64 m] w fun e w' => e = .returned (.bool (decide (0 ≤ x) && decide (x ≤ m))) ∧ w = w' := by
  go_enter Tryz.func37, Tryz.ntmps37
  by_cases h : 0 ≤ x
  · have h2 : decide (0 ≤ x) = true := by simp [h]
    go_wp2_with fail
    go_ret
    exact ⟨by simp [h], rfl⟩
  · have h2 : decide (0 ≤ x) = false := by simp [h]
    go_wp2_with fail
    go_ret
    exact ⟨by simp, rfl⟩
theorem pchk_bad {p : Pc} (h : (decide (0 ≤ p.1) && decide (p.1 ≤ 1099511627776)) = false ∨ (decide (0 ≤ p.2.1) && decide (p.2.1 ≤ 1048576)) = false) : pchk p = 1 := by
  unfold pchk
  simp only [Bool.and_eq_false_iff, decide_eq_false_iff_not] at h
  rw [if_pos (by omega)]
theorem pchk_good {p : Pc} (h : (decide (0 ≤ p.1) && decide (p.1 ≤ 1099511627776)) = true) (h2 : (decide (0 ≤ p.2.1) && decide (p.2.1 ≤ 1048576)) = true) : pchk p = schk p.2.2 := by
  unfold pchk
  simp only [Bool.and_eq_true, decide_eq_true_eq] at h h2
  rw [if_neg (by omega)]
set_option maxRecDepth 100000 in
set_option maxHeartbeats 1000000 in
theorem PCheck_any {E : Option Addr} {cap : Nat} (x t f : Int) (cs : List CeV) (w : World) (h : SlC w E cap cs) :
    Calls Tryz.prog 17 #[pcv x t f E cs.length cap] w fun e w' => e = .returned (errv (pchk (x, t, f, cs.map ceOf))) ∧ Below w.heap.size w w' := by
  have hbw := below_new w (.cells #[.int .i64 x, .int .i64 t, .int .i64 f, .slice E cs.length cap] 28)
  have hB := Blk.new w 28 #[.int .i64 x, .int .i64 t, .int .i64 f, .slice E cs.length cap]
  have hbad := fun h => Lib.hid (pchk_bad (p := (x, t, f, cs.map ceOf)) h)
  have hgood := fun h h2 => Lib.hid (pchk_good (p := (x, t, f, cs.map ceOf)) h h2)
  have hI1 := fun W => PIn_any x 1099511627776 W
  have hI2 := fun W => PIn_any t 1048576 W
  dsimp only at hbad hgood
  generalize (decide (0 ≤ x) && decide (x ≤ 1099511627776)) = b1 at *
  generalize (decide (0 ≤ t) && decide (t ≤ 1048576)) = b2 at *
  have H1 := Lib.hid hI1
  have H2 := Lib.hid hI2
  clear hI1 hI2
  go_enter Tryz.func17, Tryz.ntmps17
  go_wp2_with fail
  refine (H1.out _).mono ?_
  rintro e w1 ⟨rfl, rfl⟩
  cases b1 with
  | false =>
    have hc := hbad (.inl rfl)
    clear hbad hgood
    go_wp2_with fail
    go_ret
    exact ⟨by rw [hc.out]; rfl, hbw⟩
  | true =>
    go_wp2_with fail
    refine (H2.out _).mono ?_
    rintro e w1 ⟨rfl, rfl⟩
    cases b2 with
    | false =>
      have hc := hbad (.inr rfl)
      clear hbad hgood
      go_wp2_with fail
      go_ret
      exact ⟨by rw [hc.out]; rfl, hbw⟩
    | true =>
      have hc := hgood trivial rfl
      clear hbad hgood
      go_wp2_with fail
      refine (SCheck_any f cs _ (h.below hbw)).mono ?_
      rintro e w1 ⟨rfl, hb1⟩
      go_wp2_with fail
      go_ret
      exact ⟨by rw [hc.out]; rfl, bel_call hbw hb1⟩
theorem qchk_bad {p : Rc} (h : (decide (0 ≤ p.1) && decide (p.1 ≤ 1099511627776)) = false ∨ (decide (0 ≤ p.2) && decide (p.2 ≤ 1048576)) = false) : qchk p = 1 := by
  unfold qchk
  simp only [Bool.and_eq_false_iff, decide_eq_false_iff_not] at h
  rw [if_pos (by omega)]
theorem qchk_good {p : Rc} (h : (decide (0 ≤ p.1) && decide (p.1 ≤ 1099511627776)) = true) (h2 : (decide (0 ≤ p.2) && decide (p.2 ≤ 1048576)) = true) : qchk p = 0 := by
  unfold qchk
  simp only [Bool.and_eq_true, decide_eq_true_eq] at h h2
  rw [if_neg (by omega)]
end Go.Proofs.YtgipfenjachpnaaGreat

namespace Go.Proofs.YtgipfenjachpnaaGreat
open Go.RowKit
attribute [local go_sem ↓] Go.wp_at_zero Go.wp_at_succ

set_option maxRecDepth 100000 in
set_option maxHeartbeats 1000000 in
theorem QPut_any (x t : Int) (w : World) :
    Calls Tryz.prog 19 #[.agg #[.int .i64 x, .int .i64 t]] w (PutsB w (qput (x, t))) := by
  have hbw := below_new w (.cells #[.int .i64 x, .int .i64 t] 41)
  have hB := Blk.new w 41 #[.int .i64 x, .int .i64 t]
  have hbad := fun h => Lib.hid (qchk_bad (p := (x, t)) h)
  have hgood := fun h h2 => Lib.hid (qchk_good (p := (x, t)) h h2)
  have hI1 := fun W => PIn_any x 1099511627776 W
  have hI2 := fun W => PIn_any t 1048576 W
  dsimp only at hbad hgood
  generalize (decide (0 ≤ x) && decide (x ≤ 1099511627776)) = b1 at *
  generalize (decide (0 ≤ t) && decide (t ≤ 1048576)) = b2 at *
  have H1 := Lib.hid hI1
  have H2 := Lib.hid hI2
  clear hI1 hI2
  go_enter Tryz.func19, Tryz.ntmps19
  go_wp2_with fail
  refine (H1.out _).mono ?_
  rintro e w1 ⟨rfl, rfl⟩
  cases b1 with
  | false =>
    have hc := hbad (.inl rfl)
    have HQ : Hid (qput (x, t) = ([], 1)) := (show _ = _ from by unfold qput; rw [hc.out]; rfl)
    clear hbad hgood
    go_wp2_with fail
    go_ret2
    exact ⟨none, 0, [], by rw [HQ.out]; rfl, (show _ = _ from by rw [HQ.out]), Own.none_ _ _ _ _, hbw⟩
  | true =>
    go_wp2_with fail
    refine (H2.out _).mono ?_
    rintro e w1 ⟨rfl, rfl⟩
    cases b2 with
    | false =>
      have hc := hbad (.inr rfl)
      have HQ : Hid (qput (x, t) = ([], 1)) := (show _ = _ from by unfold qput; rw [hc.out]; rfl)
      clear hbad hgood
      go_wp2_with fail
      go_ret2
      exact ⟨none, 0, [], by rw [HQ.out]; rfl, (show _ = _ from by rw [HQ.out]), Own.none_ _ _ _ _, hbw⟩
    | true =>
      have hc : Hid (qchk (x, t) = 0) := hgood trivial rfl
      clear hbad hgood
      obtain ⟨g0, g1, g2, g3⟩ := qchk_ok hc.out
      dsimp only at g0 g1 g2 g3
      have HQ : Hid (qput (x, t) = fput [] (qtxt (x, t))) := (show _ = _ from by unfold qput; rw [hc.out]; rfl)
      obtain ⟨n, rfl⟩ : ∃ n : Nat, x = n := ⟨x.toNat, by omega⟩
      obtain ⟨m, rfl⟩ : ∃ m : Nat, t = m := ⟨t.toNat, by omega⟩
      have hun : U64 n := by unfold U64; omega
      have hum : U64 m := by unfold U64; omega
      have hwn := wrap_u64_of hun
      have hwm := wrap_u64_of hum
      clear g0 g1 g2 g3
      obtain ⟨a0, a1, _, _⟩ := hB.two
      have hL : SlN ((w.alloc (.cells #[.int .i64 (n : Int), .int .i64 (m : Int)] 41)).alloc (.cells #[.int .u64 2, .int .u64 (n : Int), .int .u64 (m : Int)] 67)) (some ⟨w.heap.size + 1, 0, none⟩) 3 [2, n, m] := by
        have h := Sl.lits (w.alloc (.cells #[.int .i64 (n : Int), .int .i64 (m : Int)] 41)) [nv 2, nv n, nv m] 67 (by simp [maxLen])
        rw [show (w.alloc (.cells #[.int .i64 (n : Int), .int .i64 (m : Int)] 41)).heap.size = w.heap.size + 1 from by simp] at h
        exact h
      have HL := Lib.hid hL
      clear hL
      go_wp2_with fail
      refine (Put_any none 0 [] _ 3 [2, n, m] _ (by simp) (Sl.none_ _ _) HL.out (by simp) (by intro z hz; simp at hz; rcases hz with hz | hz | hz <;> rw [hz] <;> first | exact hun | exact hum | (unfold U64; omega))).mono ?_
      rintro e w2 ⟨A2, c2, m2, rfl, hm2, ho2, hb2⟩
      have htx : m2 = qtxt ((n : Int), (m : Int)) := by rw [hm2.out]; unfold qtxt; simp [vbs]
      have l1 := vb_le10 (n := 2) (by omega)
      have l2 := vb_le10 hun
      have l3 := vb_le10 hum
      have hml : m2.length ≤ 100 := by rw [htx]; unfold qtxt; simp only [List.length_append, Int.toNat_natCast]; omega
      have HT := Lib.hid htx
      have hw2 := bel_call (bel_alloc hbw _) hb2
      clear htx l1 l2 l3 a0 a1
      go_wp2_with fail
      refine (FPut_any none 0 [] A2 c2 m2 _ (by simp) (Sl.none_ _ _) ho2.sl (by omega)).mono ?_
      rintro e w4 ⟨A4, c4, m4, rfl, hm4, ho4, hb4⟩
      go_wp2_with fail
      go_ret2
      exact ⟨A4, c4, m4, by rw [HQ.out, ← HT.out]; rfl, (show _ = _ from by rw [hm4.out, HQ.out, HT.out]), ho4.more hw2.size, bel_call hw2 hb4⟩
end Go.Proofs.YtgipfenjachpnaaGreat

namespace Go.Proofs.YtgipfenjachpnaaGreat
open Go.RowKit
attribute [local go_sem ↓] Go.wp_at_zero Go.wp_at_succ

theorem Num_s {g B : Nat} {s : Rs} {w : World} (hR : IsR w g B s) : Calls Tryz.prog 45 #[.pointer (some ⟨g, 0, none⟩)] w fun e w' => e = .returned (.int .u64 ((rNum s).1 : Nat)) ∧ IsR w' g B (rNum s).2 ∧ Wr w w' g := Number_any hR
theorem Fail2_s {g B : Nat} {s : Rs} {w : World} (hR : IsR w g B s) : Calls Tryz.prog 46 #[.pointer (some ⟨g, 0, none⟩), .iface 82 (.int .i64 2)] w fun e w' => e = .returned (.tuple #[]) ∧ IsR w' g B (rFail 2 s) ∧ Wr w w' g := by obtain ⟨l, b⟩ := s; exact Fail_any 2 hR
/-- what open gives: a reader behind the kind, or none and an error -/
def OpenG (w : World) (k : Nat) (b : List UInt8) : Ending → World → Prop := fun e w' => if (fone b).2 ≠ 0 then e = .returned (.tuple #[.pointer none, errv (fone b).2]) ∧ Below w.heap.size w w' else
  ∃ g B, e = .returned (.tuple #[.pointer (some ⟨g, 0, none⟩), .nilIface]) ∧ w.heap.size ≤ g ∧ B ≤ g ∧ IsR w' g B (pkind k ((fone b).1, 0)) ∧ Below w.heap.size w w'
theorem openG_ok {w w' : World} {k : Nat} {b : List UInt8} {e : Ending} (h : (fone b).2 = 0) (h2 : ∃ g B, e = .returned (.tuple #[.pointer (some ⟨g, 0, none⟩), .nilIface]) ∧ w.heap.size ≤ g ∧ B ≤ g ∧ IsR w' g B (pkind k ((fone b).1, 0)) ∧ Below w.heap.size w w') : OpenG w k b e w' := by
  unfold OpenG
  rw [if_neg (by rw [h]; simp)]
  exact h2
theorem openG_bad {w w' : World} {k : Nat} {b : List UInt8} {e : Ending} (h : (fone b).2 ≠ 0) (h2 : e = .returned (.tuple #[.pointer none, errv (fone b).2]) ∧ Below w.heap.size w w') : OpenG w k b e w' := by
  unfold OpenG
  rw [if_pos h]
  exact h2
set_option maxRecDepth 100000 in
set_option maxHeartbeats 1000000 in
theorem POpen_any (k : Nat) (_hk : U64 k) (A : Option Addr) (c : Nat) (b : List UInt8) (w : World) (hs : SlB w A c b) (hl : b.length ≤ 1000000) :
    Calls Tryz.prog 23 #[.slice A b.length c, .int .u64 k] w (OpenG w k b) := by
  have hfl := fone_len b
  go_enter Tryz.func23, Tryz.ntmps23
  go_wp2_with fail
  refine (FOne_any A c b _ hs (by omega)).mono ?_
  rintro e w1 ⟨A1, c1, m1, rfl, hm1, hs1, hb1⟩
  rcases errv_cases (fone b).2 with ⟨h0, hev⟩ | ⟨j, hj, hje, hev⟩
  · have hm1l : m1.length ≤ 1000000 := by rw [hm1.out]; omega
    rw [hev]
    have H0 := Lib.hid h0
    clear hev h0 hfl
    go_wp2_with fail
    refine (RNew_any A1 c1 m1 _ hs1).mono ?_
    rintro e w2 ⟨g, rfl, hg, hR, hb2⟩
    have hw2 := bel_call hb1 hb2
    have hgl := hR.lt
    have hbs := hb1.size
    go_wp2_with fail
    refine (Num_s (s := (m1, 0)) hR).mono ?_
    rintro e w3 ⟨rfl, hR3, hr3⟩
    have hw3 := hw2.trans (hr3.below hw2.size (by omega))
    have hu := rNum_u64 (m1, 0)
    have HP : Hid (pkind k (m1, 0) = if (rNum (m1, 0)).1 ≠ k then rFail 2 (rNum (m1, 0)).2 else (rNum (m1, 0)).2) := (rfl : _ = _)
    generalize rNum (m1, 0) = q at *
    obtain ⟨n, s⟩ := q
    dsimp only at hR3 hu HP ⊢
    by_cases hnk : n = k
    · have hE : ((n : Int) != (k : Int)) = false := by simp [hnk]
      have HP2 : Hid (pkind k (m1, 0) = s) := (show _ = _ from by rw [HP.out, if_neg (by simp [hnk])])
      clear HP hnk hR
      go_wp2_with fail
      go_ret2
      exact openG_ok H0.out ⟨g, _, rfl, by omega, by omega, by rw [← hm1.out, HP2.out]; exact hR3, hw3⟩
    · have hE : ((n : Int) != (k : Int)) = true := by rw [bne_iff_ne]; omega
      have HP2 : Hid (pkind k (m1, 0) = rFail 2 s) := (show _ = _ from by rw [HP.out, if_pos hnk])
      clear HP hnk hR
      go_wp2_with fail
      refine (Fail2_s hR3).mono ?_
      rintro e w4 ⟨rfl, hR4, hr4⟩
      have hw4 := hw3.trans (hr4.below hw3.size (by omega))
      go_wp2_with fail
      go_ret2
      exact openG_ok H0.out ⟨g, _, rfl, by omega, by omega, by rw [← hm1.out, HP2.out]; exact hR4, hw4⟩
  · have HEV := Lib.hid hev
    have HJ := Lib.hid (show (fone b).2 ≠ 0 from by omega)
    rw [hev]
    clear hev hje hfl
    go_wp2_with fail
    go_ret2
    exact openG_bad HJ.out ⟨by rw [HEV.out]; rfl, hb1⟩
end Go.Proofs.YtgipfenjachpnaaGreat

namespace Go.Proofs.YtgipfenjachpnaaGreat
open Go.RowKit
attribute [local go_sem ↓] Go.wp_at_zero Go.wp_at_succ

theorem res_rc2 {fn : Func} {a b : Nat} {tmps : Array Value} {w : World} {g : Nat} {x y : Value} (hres : fn.results = #[.cell a 41, .tmp b]) (ha : tmps.getD a undef = .pointer (some ⟨g, 0, none⟩)) (hB : Blk w g 41 #[x, y]) :
    (results fn tmps).run Tryz.prog w = .ok (.tuple #[.agg #[x, y], tmps.getD b undef]) w := by
  obtain ⟨b0, b1, _, _⟩ := hB.two
  have ha' : tmps[a]?.getD undef = .pointer (some ⟨g, 0, none⟩) := by simpa using ha
  simp [results, hres, go_sem, b0, b1, ha']
/-- a receipt and an error -/
def GivesRc (w0 : World) (x : Rc × Nat) (e : Ending) (w' : World) : Prop :=
  e = .returned (.tuple #[.agg #[.int .i64 x.1.1, .int .i64 x.1.2], errv x.2]) ∧ Below w0.heap.size w0 w'
set_option maxRecDepth 100000 in
set_option maxHeartbeats 4000000 in
theorem QTake_any (A : Option Addr) (c : Nat) (b : List UInt8) (w : World) (hs : SlB w A c b) (hl : b.length ≤ 1000000) :
    Calls Tryz.prog 8 #[.slice A b.length c] w (GivesRc w (qcTake b)) := by
  have hRes := Blk.new w 41 #[.int .i64 0, .int .i64 0]
  have hw := below_new w (.cells #[.int .i64 0, .int .i64 0] 41)
  go_enter Tryz.func8, Tryz.ntmps8
  go_wp2_with fail
  refine (POpen_any 2 (by unfold U64; omega) A c b _ (hs.below hw) (by omega)).mono ?_
  intro e w1 ho
  unfold OpenG at ho
  by_cases hf : (fone b).2 ≠ 0
  · rw [if_pos hf] at ho
    obtain ⟨rfl, hb1⟩ := ho
    replace hRes := hRes.below hb1
    replace hw := bel_call hw hb1
    have HT := Lib.hid (show qcTake b = ((0, 0), (fone b).2) from by unfold qcTake; rw [if_pos hf])
    rcases errv_cases (fone b).2 with ⟨h0, hev⟩ | ⟨k, hk, hke, hev⟩
    · exact absurd h0 hf
    · have HEV := Lib.hid hev
      rw [hev]
      clear hev hke hf
      obtain ⟨r0, r1, rf0, rf1⟩ := hRes.two
      go_wp2_with fail
      exact bodyPost_ret (res_rc2 rfl rfl (g := w.heap.size) (hRes.set2 _ _)) rfl ⟨by rw [HT.out]; dsimp only; rw [HEV.out]; rfl, bel_set (bel_set hw (Nat.le_refl _) _) (Nat.le_refl _) _⟩
  · rw [if_neg hf] at ho
    obtain ⟨g, B, rfl, hg, hB, hR, hb1⟩ := ho
    have HT0 := Lib.hid (show qcTake b = qcEnd (qread (pkind 2 ((fone b).1, 0))) from by unfold qcTake; rw [if_neg hf])
    generalize pkind 2 ((fone b).1, 0) = s0 at *
    clear hf
    replace hRes := hRes.below hb1
    replace hw := bel_call hw hb1
    have hgl := hR.lt
    simp at hg
    go_wp2_with fail
    refine (Within_any 1099511627776 hR).mono ?_
    rintro e w2 ⟨rfl, hR2, hr2⟩
    have hb2 : Below w.heap.size w1 w2 := hr2.below hw.size (by omega)
    replace hRes := hRes.wr hr2 (by omega)
    replace hw := hw.trans hb2
    clear hR hr2 hb2 hb1
    go_wp2_with fail
    refine (Within_any 1048576 hR2).mono ?_
    rintro e w3 ⟨rfl, hR3, hr3⟩
    have hb3 : Below w.heap.size w2 w3 := hr3.below hw.size (by omega)
    replace hRes := hRes.wr hr3 (by omega)
    replace hw := hw.trans hb3
    have hgl3 := hR3.lt
    clear hR2 hr3 hb3 hgl
    have HT1 : Hid (qcTake b = qcEnd ((((rWithin 1099511627776 s0).1 : Int), ((rWithin 1048576 (rWithin 1099511627776 s0).2).1 : Int)), (rWithin 1048576 (rWithin 1099511627776 s0).2).2)) := HT0
    clear HT0
    generalize (rWithin 1048576 (rWithin 1099511627776 s0).2) = q2 at *
    generalize (rWithin 1099511627776 s0) = q1 at *
    obtain ⟨x1, s1⟩ := q1
    obtain ⟨x2, s2⟩ := q2
    dsimp only at *
    go_upto_region 5 with (fail)
    have hbx := below_new w3 (.cells #[.int .i64 (x1 : Nat), .int .i64 (x2 : Nat)] 41)
    have hS4 := Blk.new w3 41 #[.int .i64 (x1 : Nat), .int .i64 (x2 : Nat)]
    have hR4 := hR3.below hbx
    replace hRes := hRes.below hbx
    replace hw := bel_call hw hbx
    clear hR3 hbx
    generalize hWe : w3.alloc (.cells #[.int .i64 (x1 : Nat), .int .i64 (x2 : Nat)] 41) = w4 at *
    clear hWe
    generalize hg7e : w3.heap.size = g7 at *
    clear hg7e
    have hE := End_s hR4
    go_wp2_with fail
    rcases errv_cases (rEnd s2) with ⟨h0, hev⟩ | ⟨k, hk, hke, hev⟩
    · rw [hev] at hE
      have HE := Lib.hid hE
      have HT := Lib.hid (show qcTake b = (((x1 : Int), (x2 : Int)), 0) from by rw [HT1.out]; unfold qcEnd; rw [if_neg (by rw [h0]; simp)])
      clear hE hev h0
      refine HE.out.mono ?_
      rintro e w7 ⟨rfl, rfl⟩
      obtain ⟨x0, x1, xf0, xf1⟩ := hS4.two
      obtain ⟨r0, r1, rf0, rf1⟩ := hRes.two
      go_wp2_with fail
      exact bodyPost_ret (res_rc2 rfl rfl (g := w.heap.size) (hRes.set2 _ _)) rfl ⟨by rw [HT.out]; rfl, bel_set (bel_set hw (Nat.le_refl _) _) (Nat.le_refl _) _⟩
    · have HT := Lib.hid (show qcTake b = ((0, 0), rEnd s2) from by rw [HT1.out]; unfold qcEnd; rw [if_pos (by dsimp only; omega)])
      have HEV := Lib.hid hev
      rw [hev] at hE
      have HE := Lib.hid hE
      clear hev hke hE
      refine HE.out.mono ?_
      rintro e w7 ⟨rfl, rfl⟩
      obtain ⟨r0, r1, rf0, rf1⟩ := hRes.two
      go_wp2_with fail
      exact bodyPost_ret (res_rc2 rfl rfl (g := w.heap.size) (hRes.set2 _ _)) rfl ⟨by rw [HT.out]; dsimp only; rw [HEV.out]; rfl, bel_set (bel_set hw (Nat.le_refl _) _) (Nat.le_refl _) _⟩
end Go.Proofs.YtgipfenjachpnaaGreat

namespace Go.Proofs.YtgipfenjachpnaaGreat
open Go.RowKit
attribute [local go_sem ↓] Go.wp_at_zero Go.wp_at_succ

theorem Blk.four {w : World} {g : Nat} {t : TypeId} {a b c d : Value} (h : Blk w g t #[a, b, c, d]) : w.cell? ⟨g, 0, none⟩ = some a ∧ w.cell? ⟨g, 1, none⟩ = some b ∧ w.cell? ⟨g, 2, none⟩ = some c ∧ w.cell? ⟨g, 3, none⟩ = some d ∧
    w.frozen? ⟨g, 0, none⟩ = false ∧ w.frozen? ⟨g, 1, none⟩ = false ∧ w.frozen? ⟨g, 2, none⟩ = false ∧ w.frozen? ⟨g, 3, none⟩ = false := ⟨h.cell 0, h.cell 1, h.cell 2, h.cell 3, h.frozen 0, h.frozen 1, h.frozen 2, h.frozen 3⟩
theorem Blk.set4 {w : World} {g : Nat} {t : TypeId} {a b c d : Value} (h : Blk w g t #[a, b, c, d]) (x y z u : Value) : Blk ((((w.setCell ⟨g, 0, none⟩ x).setCell ⟨g, 1, none⟩ y).setCell ⟨g, 2, none⟩ z).setCell ⟨g, 3, none⟩ u) g t #[x, y, z, u] :=
  (((h.set_ 0 x).set_ 1 y).set_ 2 z).set_ 3 u
theorem res_pc2 {fn : Func} {a b : Nat} {tmps : Array Value} {w : World} {g : Nat} {x y z u : Value} (hres : fn.results = #[.cell a 28, .tmp b]) (ha : tmps.getD a undef = .pointer (some ⟨g, 0, none⟩)) (hB : Blk w g 28 #[x, y, z, u]) :
    (results fn tmps).run Tryz.prog w = .ok (.tuple #[.agg #[x, y, z, u], tmps.getD b undef]) w := by
  obtain ⟨b0, b1, b2, b3, _⟩ := hB.four
  have ha' : tmps[a]?.getD undef = .pointer (some ⟨g, 0, none⟩) := by simpa using ha
  simp [results, hres, go_sem, b0, b1, b2, b3, ha']
/-- a parcel with new cells and an error -/
def GivesPcN (w0 : World) (x : Pc × Nat) (e : Ending) (w' : World) : Prop :=
  ∃ A c m, e = .returned (.tuple #[pcv x.1.1 x.1.2.1 x.1.2.2.1 A (List.length m) c, errv x.2]) ∧ Hid (m.map ceOf = x.1.2.2.2) ∧ NewS w' w0.heap.size A c m ∧ Below w0.heap.size w0 w'
theorem NewS.set4 {w : World} {base g c : Nat} {A : Option Addr} {m : List CeV} (h : NewS w base A c m) (hg : g < base) (x y z u : Value) : NewS ((((w.setCell ⟨g, 0, none⟩ x).setCell ⟨g, 1, none⟩ y).setCell ⟨g, 2, none⟩ z).setCell ⟨g, 3, none⟩ u) base A c m := (((h.setLow hg 0 x).setLow hg 1 y).setLow hg 2 z).setLow hg 3 u
theorem bel_set4 {w w' : World} {g : Nat} (h : Below w.heap.size w w') (hg : w.heap.size ≤ g) (x y z u : Value) : Below w.heap.size w ((((w'.setCell ⟨g, 0, none⟩ x).setCell ⟨g, 1, none⟩ y).setCell ⟨g, 2, none⟩ z).setCell ⟨g, 3, none⟩ u) := bel_set (bel_set (bel_set (bel_set h hg _) hg _) hg _) hg _
set_option maxRecDepth 100000 in
set_option maxHeartbeats 4000000 in
theorem PTake_any (A : Option Addr) (c : Nat) (b : List UInt8) (w : World) (hs : SlB w A c b) (hl : b.length ≤ 1000000) :
    Calls Tryz.prog 6 #[.slice A b.length c] w (GivesPcN w (pcTake b)) := by
  have hRes := Blk.new w 28 #[.int .i64 0, .int .i64 0, .int .i64 0, .slice none 0 0]
  have hw := below_new w (.cells #[.int .i64 0, .int .i64 0, .int .i64 0, .slice none 0 0] 28)
  have hfl := fone_len b
  go_enter Tryz.func6, Tryz.ntmps6
  go_wp2_with fail
  refine (POpen_any 1 (by unfold U64; omega) A c b _ (hs.below hw) (by omega)).mono ?_
  intro e w1 ho
  unfold OpenG at ho
  by_cases hf : (fone b).2 ≠ 0
  · rw [if_pos hf] at ho
    obtain ⟨rfl, hb1⟩ := ho
    replace hRes := hRes.below hb1
    replace hw := bel_call hw hb1
    have HT := Lib.hid (show pcTake b = ((0, 0, 0, []), (fone b).2) from by unfold pcTake; rw [if_pos hf])
    rcases errv_cases (fone b).2 with ⟨h0, hev⟩ | ⟨k, hk, hke, hev⟩
    · exact absurd h0 hf
    · have HEV := Lib.hid hev
      rw [hev]
      clear hev hke hf hfl
      obtain ⟨r0, r1, r2, r3, rf0, rf1, rf2, rf3⟩ := hRes.four
      go_wp2_with fail
      exact bodyPost_ret (res_pc2 rfl rfl (g := w.heap.size) (hRes.set4 _ _ _ _)) rfl ⟨none, 0, [], by rw [HT.out]; dsimp only; rw [HEV.out]; rfl, (show _ = _ from by rw [HT.out]; rfl), NewS.nil _ _, bel_set4 hw (Nat.le_refl _) _ _ _ _⟩
  · rw [if_neg hf] at ho
    obtain ⟨g, B, rfl, hg, hB, hR, hb1⟩ := ho
    have HT0 := Lib.hid (show pcTake b = pcEnd (pread (pkind 1 ((fone b).1, 0))) from by unfold pcTake; rw [if_neg hf])
    have hkl := pkind_len 1 ((fone b).1, 0)
    generalize pkind 1 ((fone b).1, 0) = s0 at *
    have hs0 : s0.1.length ≤ 1000000 := by dsimp only at hkl; omega
    clear hf hkl hfl
    replace hRes := hRes.below hb1
    replace hw := bel_call hw hb1
    have hgl := hR.lt
    simp at hg
    go_wp2_with fail
    refine (Within_any 1099511627776 hR).mono ?_
    rintro e w2 ⟨rfl, hR2, hr2⟩
    have hb2 : Below w.heap.size w1 w2 := hr2.below hw.size (by omega)
    replace hRes := hRes.wr hr2 (by omega)
    replace hw := hw.trans hb2
    clear hR hr2 hb2 hb1
    go_wp2_with fail
    refine (Within_any 1048576 hR2).mono ?_
    rintro e w3 ⟨rfl, hR3, hr3⟩
    have hb3 : Below w.heap.size w2 w3 := hr3.below hw.size (by omega)
    replace hRes := hRes.wr hr3 (by omega)
    replace hw := hw.trans hb3
    have hgl3 := hR3.lt
    clear hR2 hr3 hb3 hgl
    have HT1 : Hid (pcTake b = pcEnd ((((rWithin 1099511627776 s0).1 : Int), ((rWithin 1048576 (rWithin 1099511627776 s0).2).1 : Int), (sgRead (rWithin 1048576 (rWithin 1099511627776 s0).2).2).1), (sgRead (rWithin 1048576 (rWithin 1099511627776 s0).2).2).2)) := HT0
    have l1 := rWithin_len 1099511627776 s0
    have l2 := rWithin_len 1048576 (rWithin 1099511627776 s0).2
    clear HT0
    generalize (rWithin 1048576 (rWithin 1099511627776 s0).2) = q2 at *
    generalize (rWithin 1099511627776 s0) = q1 at *
    obtain ⟨x1, s1⟩ := q1
    obtain ⟨x2, s2⟩ := q2
    dsimp only at *
    have hs2 : s2.1.length ≤ 1000000 := by omega
    clear l1 l2 hs0
    go_upto_region 5 with (fail)
    have hbx := below_new w3 (.cells #[.int .i64 (x1 : Nat), .int .i64 (x2 : Nat), .int .i64 0, .slice none 0 0] 28)
    have hS4 := Blk.new w3 28 #[.int .i64 (x1 : Nat), .int .i64 (x2 : Nat), .int .i64 0, .slice none 0 0]
    have hR4 := hR3.below hbx
    replace hRes := hRes.below hbx
    replace hw := bel_call hw hbx
    have hW4 : w3.heap.size < (w3.alloc (.cells #[.int .i64 (x1 : Nat), .int .i64 (x2 : Nat), .int .i64 0, .slice none 0 0] 28)).heap.size := by simp
    clear hR3 hbx
    generalize hWe : w3.alloc (.cells #[.int .i64 (x1 : Nat), .int .i64 (x2 : Nat), .int .i64 0, .slice none 0 0] 28) = w4 at *
    clear hWe
    generalize hg7e : w3.heap.size = g7 at *
    clear hg7e
    have hwl := hRes.lt
    go_wp2_with fail
    refine (Within_any 1048576 hR4).mono ?_
    rintro e w5 ⟨rfl, hR5, hr5⟩
    have hb5 : Below w.heap.size w4 w5 := hr5.below hw.size (by omega)
    replace hRes := hRes.wr hr5 (by omega)
    have hS5 := hS4.wr hr5 (by omega)
    replace hw := hw.trans hb5
    have h45 := hr5.size
    have hl5 := rWithin_len 1048576 s2
    clear hR4 hr5 hb5 hS4
    have HT2 : Hid (pcTake b = pcEnd (((x1 : Int), (x2 : Int), (((rWithin 1048576 s2).1 : Int), (takeRun (rWithin 1048576 s2).2).1)), (takeRun (rWithin 1048576 s2).2).2)) := HT1
    clear HT1
    generalize rWithin 1048576 s2 = q at *
    obtain ⟨f, s3⟩ := q
    dsimp only at *
    have hs3 : s3.1.length ≤ 1000000 := by omega
    clear hl5 hs2
    obtain ⟨x0, x1', x2', x3, xf0, xf1, xf2, xf3⟩ := hS5.four
    go_upto_region 6 with (fail)
    have hS6 : Blk (w5.setCell ⟨g7, 2, none⟩ (.int .i64 (f : Nat))) g7 28 #[.int .i64 (x1 : Nat), .int .i64 (x2 : Nat), .int .i64 (f : Nat), .slice none 0 0] := hS5.set_ 2 (.int .i64 (f : Nat))
    have hR6 := hR5.apart (C := g7) (by omega) (by omega) (Below.setCell (p := ⟨g7, 2, none⟩) (Below.refl _ _) (Nat.le_refl _) (.int .i64 (f : Nat)))
    replace hRes := hRes.far (p := ⟨g7, 2, none⟩) (by dsimp only; omega) (.int .i64 (f : Nat))
    replace hw := bel_set hw (p := ⟨g7, 2, none⟩) (by dsimp only; omega) (.int .i64 (f : Nat))
    have hsz6 : (w5.setCell ⟨g7, 2, none⟩ (.int .i64 (f : Nat))).heap.size = w5.heap.size := by simp
    clear hS5 hR5 x0 x1' x2' x3 xf0 xf1 xf2 xf3
    generalize hWe : w5.setCell ⟨g7, 2, none⟩ (.int .i64 (f : Nat)) = w6 at *
    clear hWe
    go_wp2_with fail
    refine (TakeRun_any hR6 (by omega) (by omega)).mono ?_
    rintro e w7 ⟨A7, c7, m7, rfl, hm7, hN7, hR7, hr7⟩
    have hb7 : Below w.heap.size w6 w7 := hr7.below hw.size (by omega)
    replace hRes := hRes.wr hr7 (by omega)
    have hS7 := hS6.wr hr7 (by omega)
    replace hw := hw.trans hb7
    have h67 := hr7.size
    clear hR6 hr7 hb7 hS6
    obtain ⟨x0, x1', x2', x3, xf0, xf1, xf2, xf3⟩ := hS7.four
    go_upto_region 7 with (fail)
    have hS8 : Blk (w7.setCell ⟨g7, 3, none⟩ (.slice A7 m7.length c7)) g7 28 #[.int .i64 (x1 : Nat), .int .i64 (x2 : Nat), .int .i64 (f : Nat), .slice A7 m7.length c7] := hS7.set_ 3 (.slice A7 m7.length c7)
    have hR8 := hR7.apart (C := g7) (by omega) (by omega) (Below.setCell (p := ⟨g7, 3, none⟩) (Below.refl _ _) (Nat.le_refl _) (.slice A7 m7.length c7))
    replace hRes := hRes.far (p := ⟨g7, 3, none⟩) (by dsimp only; omega) (.slice A7 m7.length c7)
    replace hw := bel_set hw (p := ⟨g7, 3, none⟩) (by dsimp only; omega) (.slice A7 m7.length c7)
    have hN8 := hN7.setLow (g := g7) (by omega) 3 (.slice A7 m7.length c7)
    clear hS7 hR7 hN7 x0 x1' x2' x3 xf0 xf1 xf2 xf3
    generalize hWe : w7.setCell ⟨g7, 3, none⟩ (.slice A7 m7.length c7) = w8 at *
    clear hWe
    have hE := End_s hR8
    generalize takeRun s3 = q at *
    obtain ⟨rn, s5⟩ := q
    dsimp only at hE hm7 HT2
    clear hR8
    go_wp2_with fail
    rcases errv_cases (rEnd s5) with ⟨h0, hev⟩ | ⟨k, hk, hke, hev⟩
    · rw [hev] at hE
      have HE := Lib.hid hE
      have HN0 := Lib.hid h0
      clear hE hev h0
      refine HE.out.mono ?_
      rintro e w9 ⟨rfl, rfl⟩
      obtain ⟨x0, x1', x2', x3, xf0, xf1, xf2, xf3⟩ := hS8.four
      go_wp2_with fail
      refine (PCheck_any (x1 : Nat) (x2 : Nat) (f : Nat) m7 _ hN8.slc).mono ?_
      rintro e w10 ⟨rfl, hb10⟩
      replace hRes := hRes.below hb10
      replace hw := bel_call hw hb10
      replace hS8 := hS8.below hb10
      replace hN8 := hN8.below hb10
      clear hb10 x0 x1' x2' x3 xf0 xf1 xf2 xf3
      rw [hm7.out]
      rcases errv_cases (pchk ((x1 : Int), (x2 : Int), (f : Int), rn)) with ⟨h0, hev⟩ | ⟨k, hk, hke, hev⟩
      · have HT := Lib.hid (show pcTake b = (((x1 : Int), (x2 : Int), (f : Int), rn), 0) from by rw [HT2.out]; unfold pcEnd; rw [if_neg (by rw [HN0.out]; simp), if_neg (by rw [h0]; simp)])
        rw [hev]
        clear hev h0
        obtain ⟨x0, x1', x2', x3, xf0, xf1, xf2, xf3⟩ := hS8.four
        obtain ⟨r0, r1, r2, r3, rf0, rf1, rf2, rf3⟩ := hRes.four
        go_wp2_with fail
        exact bodyPost_ret (res_pc2 rfl rfl (g := w.heap.size) (hRes.set4 _ _ _ _)) rfl ⟨A7, c7, m7, by rw [HT.out]; rfl, (show _ = _ from by rw [HT.out, hm7.out]), NewS.more (hN8.set4 (g := w.heap.size) (by omega) _ _ _ _) (by omega), bel_set4 hw (Nat.le_refl _) _ _ _ _⟩
      · have HT := Lib.hid (show pcTake b = ((0, 0, 0, []), pchk ((x1 : Int), (x2 : Int), (f : Int), rn)) from by rw [HT2.out]; unfold pcEnd; rw [if_neg (by rw [HN0.out]; simp), if_pos (by dsimp only; omega)])
        have HEV := Lib.hid hev
        rw [hev]
        clear hev hke
        obtain ⟨r0, r1, r2, r3, rf0, rf1, rf2, rf3⟩ := hRes.four
        go_wp2_with fail
        exact bodyPost_ret (res_pc2 rfl rfl (g := w.heap.size) (hRes.set4 _ _ _ _)) rfl ⟨none, 0, [], by rw [HT.out]; dsimp only; rw [HEV.out]; rfl, (show _ = _ from by rw [HT.out]; rfl), NewS.nil _ _, bel_set4 hw (Nat.le_refl _) _ _ _ _⟩
    · have HT := Lib.hid (show pcTake b = ((0, 0, 0, []), rEnd s5) from by rw [HT2.out]; unfold pcEnd; rw [if_pos (by dsimp only; omega)])
      have HEV := Lib.hid hev
      rw [hev] at hE
      have HE := Lib.hid hE
      clear hev hke hE
      refine HE.out.mono ?_
      rintro e w9 ⟨rfl, rfl⟩
      obtain ⟨r0, r1, r2, r3, rf0, rf1, rf2, rf3⟩ := hRes.four
      go_wp2_with fail
      exact bodyPost_ret (res_pc2 rfl rfl (g := w.heap.size) (hRes.set4 _ _ _ _)) rfl ⟨none, 0, [], by rw [HT.out]; dsimp only; rw [HEV.out]; rfl, (show _ = _ from by rw [HT.out]; rfl), NewS.nil _ _, bel_set4 hw (Nat.le_refl _) _ _ _ _⟩
end Go.Proofs.YtgipfenjachpnaaGreat

namespace Go.Proofs.YtgipfenjachpnaaGreat
open Go.RowKit
attribute [local go_sem ↓] Go.wp_at_zero Go.wp_at_succ

set_option maxRecDepth 100000 in
set_option maxHeartbeats 1000000 in
theorem PKind_any (A : Option Addr) (c : Nat) (b : List UInt8) (w : World) (hs : SlB w A c b) (hl : b.length ≤ 1000000) :
    Calls Tryz.prog 13 #[.slice A b.length c] w fun e w' => e = .returned (.int .i64 (pcKind b : Nat)) ∧ Below w.heap.size w w' := by
  have HK : Hid (pcKind b = if (pcTake b).2 = 0 then 1 else if (qcTake b).2 = 0 then 2 else 0) := (rfl : _ = _)
  go_enter Tryz.func13, Tryz.ntmps13
  go_wp2_with fail
  refine (PTake_any A c b _ hs hl).mono ?_
  rintro e w1 ⟨A1, c1, m1, rfl, -, -, hb1⟩
  generalize pcTake b = p at *
  obtain ⟨⟨p1, p2, p3, p4⟩, pe⟩ := p
  dsimp only at *
  have hw1 := bel_alloc hb1 (.cells #[.int .i64 p1, .int .i64 p2, .int .i64 p3, .slice A1 m1.length c1] 28)
  rcases errv_cases pe with ⟨h0, hev⟩ | ⟨k, hk, hke, hev⟩
  · have HK1 : Hid (pcKind b = 1) := (show _ = _ from by rw [HK.out, if_pos h0])
    rw [hev]
    clear hev h0
    go_wp2_with fail
    go_ret
    exact ⟨by rw [HK1.out]; rfl, hw1⟩
  · have HK1 : Hid (pcKind b = if (qcTake b).2 = 0 then 2 else 0) := (show _ = _ from by rw [HK.out, if_neg (by omega)])
    rw [hev]
    clear hev hke HK hk
    go_wp2_with fail
    refine (QTake_any A c b _ (hs.below hw1) hl).mono ?_
    rintro e w2 ⟨rfl, hb2⟩
    generalize qcTake b = q at *
    obtain ⟨⟨q1, q2⟩, qe⟩ := q
    dsimp only at *
    have hw2 := bel_alloc (bel_call hw1 hb2) (.cells #[.int .i64 q1, .int .i64 q2] 41)
    rcases errv_cases qe with ⟨h0, hev⟩ | ⟨k, hk, hke, hev⟩
    · have HK2 : Hid (pcKind b = 2) := (show _ = _ from by rw [HK1.out, if_pos h0])
      rw [hev]
      clear hev h0
      go_wp2_with fail
      go_ret
      exact ⟨by rw [HK2.out]; rfl, hw2⟩
    · have HK2 : Hid (pcKind b = 0) := (show _ = _ from by rw [HK1.out, if_neg (by omega)])
      rw [hev]
      clear hev hke hk
      go_wp2_with fail
      go_ret
      exact ⟨by rw [HK2.out]; rfl, hw2⟩
end Go.Proofs.YtgipfenjachpnaaGreat
