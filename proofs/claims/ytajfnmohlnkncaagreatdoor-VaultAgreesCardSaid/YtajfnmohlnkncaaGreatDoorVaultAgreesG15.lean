/- WHAT IT HOLDS: bytes cloned; a file written to a disk, walked. | WHAT IT HOLDS: a disk made, read, fused, asked whether it is down, walked. | WHAT IT HOLDS: a new disk, walked. | WHAT IT HOLDS: a disk cut, walked. | WHAT IT HOLDS: a disk started anew, walked. -/
import Derived.Test.YtajfnmohlnkncaaGreatDoorVaultAgreesG01
import Derived.Test.YtajfnmohlnkncaaGreatDoorVaultAgreesG14
import Derived.Carry
namespace Go.Proofs.YtajfnmohlnkncaaGreatDoor
section
open Go.RowKit Go.Maps Go.Sort
attribute [local go_sem ↓] Go.wp_at_zero Go.wp_at_succ
set_option maxRecDepth 100000 in
set_option maxHeartbeats 1000000 in
theorem BClone_any {A : Option Addr} {c : Nat} (l : Bs) (w : World) (h : SlB w A c l) (hl : l.length ≤ 100000000) :
 Calls Tryz.prog 88 #[.slice A l.length c] w fun e w' => ∃ A' c' m, e = .returned (.slice A' (List.length m) c') ∧ Hid (m = l) ∧ OwnB w' w.heap.size 5 A' c' m ∧ Below w.heap.size w w' := by
 have hq := fun (w : World) (A : Option Addr) (n c : Nat) => Lib.run_eql_slice_nil (P := Tryz.prog) w 52 5 A n c 0 0 Tryz.underlying52
 cases A with
 | none =>
  have h0 := h.2.2.2.1 rfl
  have h1 : l = [] := List.eq_nil_of_length_eq_zero (by have := h.2.1; omega)
  subst h0
  subst h1
  go_enter Tryz.func88, Tryz.ntmps88
  go_wp2_with fail
  go_ret
  exact ⟨none, 0, [], rfl, (show _ = _ from rfl), Own.none_ _ _ _ _, Below.refl _ _⟩
 | some ad =>
  go_enter Tryz.func88, Tryz.ntmps88
  go_wp2_with (at_builtin; go_must (refine wpl_fresh 52 5 Tryz.underlying52 (by kernel_rfl) rfl (.tmp 5) (.tmp 6) rfl rfl (some ad) c l rfl h (by omega) ?_; intro A3 c3 m3 w3 hm3 ho3 hb3))
  go_ret
  exact ⟨A3, c3, m3, rfl, (show _ = _ from hm3.out), ho3, hb3⟩
theorem fused_mem {n : Bs} {s : Sv} : ∀ {l : List (Bs × Sv)}, (n, s) ∈ l → s.l.length ≤ fused svl l
 | y :: r, h => by
  have e : fused svl (y :: r) = y.2.l.length + fused svl r := by simp [fused, svl]
  rw [e]
  rcases List.mem_cons.1 h with h | h
  · rw [← h]; exact Nat.le_add_right _ _
  · have := fused_mem h; omega
theorem old_is (n : Bs) (l : List (Bs × Sv)) : ∃ A c k, ((gget n l).map Sv.v).getD (.slice none 0 0) = .slice A k c ∧ k = ((gget n l).map svl).getD 0 ∧ k ≤ fused svl l := by
 cases h : gget n l with
 | none => exact ⟨none, 0, 0, rfl, rfl, Nat.zero_le _⟩
 | some s => exact ⟨s.A, s.c, s.l.length, rfl, rfl, fused_mem (gget_mem h)⟩
theorem Dgo.addB {w w1 w2 w' : World} {q : Fp} {d d1 : Dk Sv} {k : Nat} {n t : Bs} {A : Option Addr} {c : Nat} {l : Bs} (h : Dsk w1 q d1) (hF : Frd q w w1) (s1 : d1.sure = d.sure) (s2 : d1.pend = d.pend) (hb : Below w1.heap.size w1 w2) (ho : OwnB w2 w1.heap.size 5 A c l)
 (h1 : n.length ≤ 24) (h2 : t.length ≤ 24) (hl : l.length ≤ 65536) (hG : AddG w2 w' q d1 ⟨k, n, t, ⟨A, c, l⟩⟩) : Dgo w q d (dAdd d1 ⟨k, n, t, ⟨A, c, l⟩⟩) w' := by
 have hs1 := hF.size
 have hs2 := hb.size
 obtain ⟨q2, hg, hD, hF2, hM, hT⟩ := (h.below hb).add h1 h2 ho.sl (fun _ ad hA hm => by
  have a1 : ad.block < w1.heap.size := h.ltM hm
  have a2 : w1.heap.size ≤ ad.block := (Own.lt ho ad.block (by dsimp only at hA; rw [hA]; rfl)).1
  omega) hl hG
 refine ⟨q2, hg, hD, (hF.trans (Frd.of_below (q := q) hb) fun i hi => .inl hi).trans hF2 fun i hi => .inl hi, fun i hi => ?_, fun i hi => ?_⟩
 · rcases hM i hi with hi | hi
   · exact .inl hi
   · exact .inr (by omega)
 · rcases hT i hi with hi | hi | ⟨_, hi⟩
   · exact .inl (hi.same s1 s2)
   · exact .inr (by omega)
   · have := (Own.lt ho i hi).1
     exact .inr (by omega)
set_option maxRecDepth 100000 in
set_option maxHeartbeats 1000000 in
theorem Write_any {w : World} {q : Fp} {d : Dk Sv} (h : Dsk w q d) (hf : -1 ≤ d.fuse ∧ d.fuse ≤ 9223372036854775807) (hp : d.pend.length ≤ 1000000) (hL : d.shown.length ≤ 100000000) (hu : fused svl d.shown ≤ 1000000000000) (n : Bs) (hn : n.length ≤ 9223372036854775807) {A : Option Addr} {c : Nat} (l : Bs) (hS : SlB w A c l) (hSM : l ≠ [] → ∀ ad, A = some ad → ad.block ≠ q.g) (hl : l.length ≤ 100000000) :
 Calls Tryz.prog 77 #[.pointer (some ⟨q.g, 0, none⟩), .string ⟨n.toArray⟩, .slice A l.length c] w fun e w' => ∃ A' c', e = .returned (errv (dWrite svl d n ⟨A', c', l⟩).2) ∧ Dgo w q d (dWrite svl d n ⟨A', c', l⟩).1 w' := by
 have hW := Works_any h hf
 obtain ⟨s1, s2, s3, s4⟩ := dWorks_same d
 have hR : ∀ v, dWrite svl d n v = if (dWorks d).2 ≠ 0 then dWorks d else if named n = false then ((dWorks d).1, 2) else if 65536 < svl v then ((dWorks d).1, 3) else if (gget n d.shown).isNone = true ∧ 512 ≤ d.shown.length ∨ d.room < (fused svl d.shown : Int) - ((gget n d.shown).map svl).getD 0 + svl v then ((dWorks d).1, 5) else (dAdd (dWorks d).1 ⟨0, n, [], v⟩, 0) := fun v => rfl
 generalize dWorks d = dw at *
 obtain ⟨d1, k⟩ := dw
 dsimp only at *
 have hsh : d1.shown = d.shown := by unfold Dk.shown; rw [s1, s2]
 have hlw : ∀ w1, Wr w w1 q.g → SlB w1 A c l := fun w1 hw1 => SlB.sameB hS fun hne ad hA => hw1.block _ (by
  obtain ⟨ad', e, hc⟩ := Sl.at1 (f := bv) (l := l) hS (k := 0) (List.length_pos_iff.2 hne)
  rw [hA] at e
  injection e with e
  subst e
  have := World.block_lt_of_cell? _ _ hc
  rwa [addr_add_block] at this) (fun e => hSM hne ad hA (by injection e))
 clear h hf hS hSM
 rcases s4 with rfl | rfl
 · rw [← hsh, ← s3] at hR
   rw [← hsh] at hL hu
   rw [← s2] at hp
   clear hsh
   rw [show errv 0 = Value.nilIface from rfl] at hW
   have HW := Lib.hid hW
   clear hW
   go_enter Tryz.func77, Tryz.ntmps77
   go_wp2_with fail
   refine HW.out.mono ?_
   rintro e w1 ⟨rfl, hD1, hw1⟩
   have hF1 : Frd q w w1 := Frd.of_wr (.inl rfl) hw1
   have hS1 := hlw w1 hw1
   clear hlw hw1
   obtain ⟨oA, oc, ol, e1, e2, e3⟩ := old_is n d1.shown
   have hlk := hD1.shown.look (T := 87) (E := 52) Tryz.underlying9 Tryz.underlying87 (zero_bs _) (k := n) (by unfold maxLen; omega)
   rw [e1] at hlk
   rw [← e2] at hR
   obtain ⟨a0, a1, a2, -⟩ := hD1.six
   clear e1 e2
   have hnone : (gget n d1.shown).isNone = !(gget n d1.shown).isSome := by cases gget n d1.shown <;> rfl
   rw [hnone] at hR
   clear hnone
   generalize (gget n d1.shown).isSome = has at *
   go_wp2_with fail
   refine (Named_any n w1 (by omega)).mono ?_
   rintro e w2 ⟨rfl, hb2⟩
   have hD2 := hD1.below hb2
   have hF2 : Frd q w w2 := hF1.trans (Frd.of_below (q := q) hb2) fun i hi => .inl hi
   have hS2 := hS1.below hb2
   clear hlk a0 a1 a2 hS1 hF1 hD1 hb2
   cases hnm : named n
   · have HR := Lib.hid (show dWrite svl d n ⟨A, c, l⟩ = (d1, 2) from by rw [hR, if_neg (by simp), if_pos hnm])
     clear hR hnm
     go_wp2_with fail
     go_ret
     exact ⟨A, c, by rw [HR.out]; rfl, by rw [HR.out]; exact Dgo.of hD2 hF2 s1 s2⟩
   rcases Nat.lt_or_ge 65536 l.length with hl2 | hl2
   · have HR := Lib.hid (show dWrite svl d n ⟨A, c, l⟩ = (d1, 3) from by rw [hR, if_neg (by simp), if_neg (by simp [hnm]), if_pos (by exact hl2)])
     have hI : (65536 : Int) < (l.length : Int) := by omega
     clear hR hnm
     go_wp2_with fail
     go_ret
     exact ⟨A, c, by rw [HR.out]; rfl, by rw [HR.out]; exact Dgo.of hD2 hF2 s1 s2⟩
   have hI : (l.length : Int) ≤ 65536 := by omega
   have hU := fun W (hbW : Below w2.heap.size w2 W) => Used_any (hD2.below hbW).shown (hD2.ris.fdos _) (by omega)
   have hR2 : ∀ v : Sv, v.l = l → dWrite svl d n v = if (!has) = true ∧ 512 ≤ d1.shown.length ∨ d1.room < (fused svl d1.shown : Int) - ol + (l.length : Int) then (d1, 5) else (dAdd d1 ⟨0, n, [], v⟩, 0) := by
    intro v hv
    rw [hR v, if_neg (by simp), if_neg (by simp [hnm]), if_neg (by unfold svl; rw [hv]; omega)]
    rw [show svl v = l.length from by unfold svl; rw [hv]]
   clear hR
   clear hU
   have hris : Ris d1.shown := hD2.ris.fdos _
   have hU := fun W (hbW : Below w2.heap.size w2 W) => Used_any (hD2.below hbW).shown hris (by omega)
   have HU := Lib.hid hU
   clear hU
   generalize hFF : fused svl d1.shown = F at *
   obtain ⟨x1, x2⟩ := wrap_ok (x := (F : Int) - (ol : Int)) (by omega) (by omega)
   obtain ⟨y1, y2⟩ := wrap_ok (x := (F : Int) - (ol : Int) + (l.length : Int)) (by omega) (by omega)
   have hst : Below w2.heap.size w2 w2.drew := (Below.refl _ _).drew
   go_upto_region 9 with (fail)
   go_cut [34] (fun s wz => s = .bool (decide ((!has) = true ∧ 512 ≤ d1.shown.length ∨ d1.room < (F : Int) - ol + (l.length : Int))) ∧ Below w2.heap.size w2 wz)
   case first =>
    cases has
    · rcases Nat.lt_or_ge d1.shown.length 512 with h5 | h5
      · have hI5 : (d1.shown.length : Int) < 512 := by omega
        have hfin : decide ((!false) = true ∧ 512 ≤ d1.shown.length ∨ d1.room < (F : Int) - ol + (l.length : Int)) = decide (d1.room < (F : Int) - ol + (l.length : Int)) := by
         congr 1
         exact propext ⟨fun h => h.elim (fun h => absurd h.2 (by omega)) id, .inr⟩
        have hge : decide ((512 : Int) ≤ (d1.shown.length : Int)) = false := decide_eq_false (by omega)
        have HFin := Lib.hid hfin
        clear hfin
        refine wp_region_held_drew (S := (fun W => Below w2.heap.size w2 W)) (by kernel_rfl) ?_ (fun hHeld => ?_)
        · exact hst
        refine gen0 (T := fun W => ((fun W => Below w2.heap.size w2 W)) W ∧ True) ?_ (fun wq1 hT => ?_)
        · exact ⟨by (with_reducible exact hst), trivial⟩
        (try clear f0 f1 f2 f3 f4 f5 f6 f7 f8 f9 f10 f11)
        obtain ⟨hHeld, -⟩ := hT
        refine wTk (i := 0) (oi := ⟨some 35, _, _, _, _, _⟩) (v := ?_) rfl ⟨by kernel_rfl, ?_⟩ (by assumption) ?_
        rotate_left
        · (intro wS hSw; (try dsimp only at hSw); have hDz := hD2.below hSw; obtain ⟨a0, a1, a2, -⟩ := hDz.six; have hlen := hDz.shown.len Tryz.underlying87; clear hSw hDz; go_simp; (try with_reducible rfl))
        (try simp only [Act.put, pS0, pS1, pS2])
        refine wTk (i := 1) (oi := ⟨some 36, _, _, _, _, _⟩) (v := ?_) rfl ⟨by kernel_rfl, ?_⟩ (by assumption) ?_
        rotate_left
        · (intro wS hSw; (try dsimp only at hSw); have hDz := hD2.below hSw; obtain ⟨a0, a1, a2, -⟩ := hDz.six; have hlen := hDz.shown.len Tryz.underlying87; clear hSw hDz; go_simp; (try with_reducible rfl))
        (try simp only [Act.put, pS0, pS1, pS2])
        refine wTk (i := 2) (oi := ⟨some 37, _, _, _, _, _⟩) (v := ?_) rfl ⟨by kernel_rfl, ?_⟩ (by assumption) ?_
        rotate_left
        · (intro wS hSw; (try dsimp only at hSw); have hDz := hD2.below hSw; obtain ⟨a0, a1, a2, -⟩ := hDz.six; have hlen := hDz.shown.len Tryz.underlying87; clear hSw hDz; go_simp; (try with_reducible rfl))
        (try simp only [Act.put, pS0, pS1, pS2])
        refine wTk (i := 3) (oi := ⟨some 38, _, _, _, _, _⟩) (v := ?_) rfl ⟨by kernel_rfl, ?_⟩ (by assumption) ?_
        rotate_left
        · (intro wS hSw; (try dsimp only at hSw); have hDz := hD2.below hSw; obtain ⟨a0, a1, a2, -⟩ := hDz.six; have hlen := hDz.shown.len Tryz.underlying87; clear hSw hDz; go_simp; (try with_reducible rfl))
        (try simp only [Act.put, pS0, pS1, pS2])
        refine wTk (i := 4) (oi := ⟨some 39, _, _, _, _, _⟩) (v := ?_) rfl ⟨by kernel_rfl, ?_⟩ (by assumption) ?_
        rotate_left
        · (intro wS hSw; (try dsimp only at hSw); have hDz := hD2.below hSw; obtain ⟨a0, a1, a2, -⟩ := hDz.six; have hlen := hDz.shown.len Tryz.underlying87; clear hSw hDz; go_simp; (try with_reducible rfl))
        (try simp only [Act.put, pS0, pS1, pS2])
        refine wTk (i := 5) (oi := ⟨some 40, _, _, _, _, _⟩) (v := ?_) rfl ⟨by kernel_rfl, ?_⟩ (by assumption) ?_
        rotate_left
        · (intro wS hSw; (try dsimp only at hSw); have hDz := hD2.below hSw; obtain ⟨a0, a1, a2, -⟩ := hDz.six; have hlen := hDz.shown.len Tryz.underlying87; clear hSw hDz; go_simp; (try with_reducible rfl))
        (try simp only [Act.put, pS0, pS1, pS2])
        refine wTk (i := 6) (oi := ⟨some 41, _, _, _, _, _⟩) (v := ?_) rfl ⟨by kernel_rfl, ?_⟩ (by assumption) ?_
        rotate_left
        · (intro wS hSw; (try dsimp only at hSw); have hDz := hD2.below hSw; obtain ⟨a0, a1, a2, -⟩ := hDz.six; have hlen := hDz.shown.len Tryz.underlying87; clear hSw hDz; go_simp; (try with_reducible rfl))
        (try simp only [Act.put, pS0, pS1, pS2])
        refine wTk (i := 7) (oi := ⟨some 42, _, _, _, _, _⟩) (v := ?_) rfl ⟨by kernel_rfl, ?_⟩ (by assumption) ?_
        rotate_left
        · (intro wS hSw; (try dsimp only at hSw); have hDz := hD2.below hSw; obtain ⟨a0, a1, a2, -⟩ := hDz.six; have hlen := hDz.shown.len Tryz.underlying87; clear hSw hDz; go_simp; (try with_reducible rfl))
        (try simp only [Act.put, pS0, pS1, pS2])
        refine wTk (i := 8) (oi := ⟨some 43, _, _, _, _, _⟩) (v := ?_) rfl ⟨by kernel_rfl, ?_⟩ (by assumption) ?_
        rotate_left
        · (intro wS hSw; (try dsimp only at hSw); (go_simp; rfl))
        (try simp only [Act.put, pS0, pS1, pS2])
        refine wTk (i := 9) (oi := ⟨some 44, _, _, _, _, _⟩) (v := ?_) rfl ⟨by kernel_rfl, ?_⟩ (by assumption) ?_
        rotate_left
        · (intro wS hSw; (try dsimp only at hSw); have hDz := hD2.below hSw; obtain ⟨a0, a1, a2, -⟩ := hDz.six; have hlen := hDz.shown.len Tryz.underlying87; clear hSw hDz; go_simp; (try with_reducible rfl))
        (try simp only [Act.put, pS0, pS1, pS2])
        refine wTk (i := 10) (oi := ⟨some 45, _, _, _, _, _⟩) (v := ?_) rfl ⟨by kernel_rfl, ?_⟩ (by assumption) ?_
        rotate_left
        · (intro wS hSw; (try dsimp only at hSw); have hDz := hD2.below hSw; obtain ⟨a0, a1, a2, -⟩ := hDz.six; have hlen := hDz.shown.len Tryz.underlying87; clear hSw hDz; go_simp; (try with_reducible rfl))
        (try simp only [Act.put, pS0, pS1, pS2])
        refine wTk (i := 11) (oi := ⟨some 46, _, _, _, _, _⟩) (v := ?_) rfl ⟨by kernel_rfl, ?_⟩ (by assumption) ?_
        rotate_left
        · (intro wS hSw; (try dsimp only at hSw); have hDz := hD2.below hSw; obtain ⟨a0, a1, a2, -⟩ := hDz.six; have hlen := hDz.shown.len Tryz.underlying87; clear hSw hDz; go_simp; (try with_reducible rfl))
        (try simp only [Act.put, pS0, pS1, pS2])
        refine wTk (i := 12) (oi := ⟨some 47, _, _, _, _, _⟩) (v := ?_) rfl ⟨by kernel_rfl, ?_⟩ (by assumption) ?_
        rotate_left
        · (intro wS hSw; (try dsimp only at hSw); have hDz := hD2.below hSw; obtain ⟨a0, a1, a2, -⟩ := hDz.six; have hlen := hDz.shown.len Tryz.underlying87; clear hSw hDz; go_simp; (try with_reducible rfl))
        (try simp only [Act.put, pS0, pS1, pS2])
        refine wTk (i := 13) (oi := ⟨some 48, _, _, _, _, _⟩) (v := ?_) rfl ⟨by kernel_rfl, ?_⟩ (by assumption) ?_
        rotate_left
        · (intro wS hSw; (try dsimp only at hSw); have hDz := hD2.below hSw; obtain ⟨a0, a1, a2, -⟩ := hDz.six; have hlen := hDz.shown.len Tryz.underlying87; clear hSw hDz; go_simp; (try with_reducible rfl))
        (try simp only [Act.put, pS0, pS1, pS2])
        refine wTk (i := 14) (oi := ⟨some 49, _, _, _, _, _⟩) (v := ?_) rfl ⟨by kernel_rfl, ?_⟩ (by assumption) ?_
        rotate_left
        · (intro wS hSw; (try dsimp only at hSw); have hDz := hD2.below hSw; obtain ⟨a0, a1, a2, -⟩ := hDz.six; have hlen := hDz.shown.len Tryz.underlying87; clear hSw hDz; go_simp; (try with_reducible rfl))
        (try simp only [Act.put, pS0, pS1, pS2])
        refine wTk (i := 16) (oi := ⟨some 51, _, _, _, _, _⟩) (v := ?_) rfl ⟨by kernel_rfl, ?_⟩ (by assumption) ?_
        rotate_left
        · (intro wS hSw; (try dsimp only at hSw); have hDz := hD2.below hSw; obtain ⟨a0, a1, a2, -⟩ := hDz.six; have hlen := hDz.shown.len Tryz.underlying87; clear hSw hDz; go_simp; (try with_reducible rfl))
        (try simp only [Act.put, pS0, pS1, pS2])
        refine wTk (i := 17) (oi := ⟨some 52, _, _, _, _, _⟩) (v := ?_) rfl ⟨by kernel_rfl, ?_⟩ (by assumption) ?_
        rotate_left
        · (intro wS hSw; (try dsimp only at hSw); have hDz := hD2.below hSw; obtain ⟨a0, a1, a2, -⟩ := hDz.six; have hlen := hDz.shown.len Tryz.underlying87; clear hSw hDz; go_simp; (try with_reducible rfl))
        (try simp only [Act.put, pS0, pS1, pS2])
        refine wTk (i := 19) (oi := ⟨some 54, _, _, _, _, _⟩) (v := ?_) rfl ⟨by kernel_rfl, ?_⟩ (by assumption) ?_
        rotate_left
        · (intro wS hSw; (try dsimp only at hSw); have hDz := hD2.below hSw; obtain ⟨a0, a1, a2, -⟩ := hDz.six; have hlen := hDz.shown.len Tryz.underlying87; clear hSw hDz; go_simp; (try with_reducible rfl))
        (try simp only [Act.put, pS0, pS1, pS2])
        refine wTk (i := 20) (oi := ⟨some 55, _, _, _, _, _⟩) (v := ?_) rfl ⟨by kernel_rfl, ?_⟩ (by assumption) ?_
        rotate_left
        · (intro wS hSw; (try dsimp only at hSw); have hDz := hD2.below hSw; obtain ⟨a0, a1, a2, -⟩ := hDz.six; have hlen := hDz.shown.len Tryz.underlying87; clear hSw hDz; go_simp; (try with_reducible rfl))
        (try simp only [Act.put, pS0, pS1, pS2])
        refine wTk (i := 22) (oi := ⟨some 57, _, _, _, _, _⟩) (v := ?_) rfl ⟨by kernel_rfl, ?_⟩ (by assumption) ?_
        rotate_left
        · (intro wS hSw; (try dsimp only at hSw); have hDz := hD2.below hSw; obtain ⟨a0, a1, a2, -⟩ := hDz.six; have hlen := hDz.shown.len Tryz.underlying87; clear hSw hDz; go_simp; (try with_reducible rfl))
        (try simp only [Act.put, pS0, pS1, pS2])
        refine wTk (i := 23) (oi := ⟨some 58, _, _, _, _, _⟩) (v := ?_) rfl ⟨by kernel_rfl, ?_⟩ (by assumption) ?_
        rotate_left
        · (intro wS hSw; (try dsimp only at hSw); have hDz := hD2.below hSw; obtain ⟨a0, a1, a2, -⟩ := hDz.six; have hlen := hDz.shown.len Tryz.underlying87; clear hSw hDz; go_simp; (try with_reducible rfl))
        (try simp only [Act.put, pS0, pS1, pS2])
        refine wTk (i := 24) (oi := ⟨some 59, _, _, _, _, _⟩) (v := ?_) rfl ⟨by kernel_rfl, ?_⟩ (by assumption) ?_
        rotate_left
        · (intro wS hSw; (try dsimp only at hSw); have hDz := hD2.below hSw; obtain ⟨a0, a1, a2, -⟩ := hDz.six; have hlen := hDz.shown.len Tryz.underlying87; clear hSw hDz; go_simp; (try with_reducible rfl))
        (try simp only [Act.put, pS0, pS1, pS2])
        refine wTk (i := 25) (oi := ⟨some 60, _, _, _, _, _⟩) (v := ?_) rfl ⟨by kernel_rfl, ?_⟩ (by assumption) ?_
        rotate_left
        · (intro wS hSw; (try dsimp only at hSw); have hDz := hD2.below hSw; obtain ⟨a0, a1, a2, -⟩ := hDz.six; have hlen := hDz.shown.len Tryz.underlying87; clear hSw hDz; go_simp; (try with_reducible rfl))
        (try simp only [Act.put, pS0, pS1, pS2])
        refine wR1 (i := 15) (o := ⟨some 50, _, _, _, _, _⟩) rfl (fun K hK => ?_)
        go_simp
        (refine (HU.out _ hHeld).mono ?_; rintro e w15 ⟨rfl, hb15⟩)
        go_wp2_with fail
        refine hK.out _ _ ?_ (fun _ => ?_)
        · ((try dsimp only); (exact bel_call hHeld hb15))
        clear hK K
        (try simp only [Act.put, pS0, pS1, pS2])
        refine gen0 (T := fun W => ((fun W => Below w2.heap.size w2 W)) W ∧ True) ?_ (fun wq2 hT => ?_)
        · exact ⟨by (exact bel_call hHeld hb15), trivial⟩
        (try clear f0 f1 f2 f3 f4 f5 f6 f7 f8 f9 f10 f11)
        obtain ⟨hHeld, -⟩ := hT
        refine wTk (i := 18) (oi := ⟨some 53, _, _, _, _, _⟩) (v := ?_) rfl ⟨by kernel_rfl, ?_⟩ (by assumption) ?_
        rotate_left
        · (intro wS hSw; (try dsimp only at hSw); have hDz := hD2.below hSw; obtain ⟨a0, a1, a2, -⟩ := hDz.six; have hlen := hDz.shown.len Tryz.underlying87; clear hSw hDz; go_simp; (try with_reducible rfl))
        (try simp only [Act.put, pS0, pS1, pS2])
        refine wTk (i := 21) (oi := ⟨some 56, _, _, _, _, _⟩) (v := ?_) rfl ⟨by kernel_rfl, ?_⟩ (by assumption) ?_
        rotate_left
        · (intro wS hSw; (try dsimp only at hSw); have hDz := hD2.below hSw; obtain ⟨a0, a1, a2, -⟩ := hDz.six; have hlen := hDz.shown.len Tryz.underlying87; clear hSw hDz; go_simp; (try with_reducible rfl))
        (try simp only [Act.put, pS0, pS1, pS2])
        refine wTk (i := 26) (oi := ⟨some 61, _, _, _, _, _⟩) (v := ?_) rfl ⟨by kernel_rfl, ?_⟩ (by assumption) ?_
        rotate_left
        · (intro wS hSw; (try dsimp only at hSw); have hDz := hD2.below hSw; obtain ⟨a0, a1, a2, -⟩ := hDz.six; have hlen := hDz.shown.len Tryz.underlying87; clear hSw hDz; go_simp; (try with_reducible rfl))
        (try simp only [Act.put, pS0, pS1, pS2])
        refine wTk (i := 27) (oi := ⟨some 62, _, _, _, _, _⟩) (v := ?_) rfl ⟨by kernel_rfl, ?_⟩ (by assumption) ?_
        rotate_left
        · (intro wS hSw; (try dsimp only at hSw); have hDz := hD2.below hSw; obtain ⟨a0, a1, a2, -⟩ := hDz.six; have hlen := hDz.shown.len Tryz.underlying87; clear hSw hDz; go_simp; (try with_reducible rfl))
        (try simp only [Act.put, pS0, pS1, pS2])
        refine wTk (i := 28) (oi := ⟨some 34, _, _, _, _, _⟩) (v := ?_) rfl ⟨by kernel_rfl, ?_⟩ (by assumption) ?_
        rotate_left
        · (intro wS hSw; (try dsimp only at hSw); have hDz := hD2.below hSw; obtain ⟨a0, a1, a2, -⟩ := hDz.six; have hlen := hDz.shown.len Tryz.underlying87; clear hSw hDz; go_simp; (try with_reducible rfl))
        (try simp only [Act.put, pS0, pS1, pS2])
        refine wpAnyH_done (by kernel_rfl) ?_ _
        go_wp2_with fail
        go_meet
        exact ⟨by rw [HFin.out, s3], hHeld⟩
      · have hI5 : (512 : Int) ≤ (d1.shown.length : Int) := by omega
        have hfin : decide ((!false) = true ∧ 512 ≤ d1.shown.length ∨ d1.room < (F : Int) - ol + (l.length : Int)) = true := by
         exact decide_eq_true (.inl ⟨rfl, h5⟩)
        have hge : decide ((512 : Int) ≤ (d1.shown.length : Int)) = true := decide_eq_true (by omega)
        have HFin := Lib.hid hfin
        clear hfin
        refine wp_region_held_drew (S := (fun W => Below w2.heap.size w2 W)) (by kernel_rfl) ?_ (fun hHeld => ?_)
        · exact hst
        refine gen0 (T := fun W => ((fun W => Below w2.heap.size w2 W)) W ∧ True) ?_ (fun wq1 hT => ?_)
        · exact ⟨by (with_reducible exact hst), trivial⟩
        (try clear f0 f1 f2 f3 f4 f5 f6 f7 f8 f9 f10 f11)
        obtain ⟨hHeld, -⟩ := hT
        refine wTk (i := 0) (oi := ⟨some 35, _, _, _, _, _⟩) (v := ?_) rfl ⟨by kernel_rfl, ?_⟩ (by assumption) ?_
        rotate_left
        · (intro wS hSw; (try dsimp only at hSw); have hDz := hD2.below hSw; obtain ⟨a0, a1, a2, -⟩ := hDz.six; have hlen := hDz.shown.len Tryz.underlying87; clear hSw hDz; go_simp; (try with_reducible rfl))
        (try simp only [Act.put, pS0, pS1, pS2])
        refine wTk (i := 1) (oi := ⟨some 36, _, _, _, _, _⟩) (v := ?_) rfl ⟨by kernel_rfl, ?_⟩ (by assumption) ?_
        rotate_left
        · (intro wS hSw; (try dsimp only at hSw); have hDz := hD2.below hSw; obtain ⟨a0, a1, a2, -⟩ := hDz.six; have hlen := hDz.shown.len Tryz.underlying87; clear hSw hDz; go_simp; (try with_reducible rfl))
        (try simp only [Act.put, pS0, pS1, pS2])
        refine wTk (i := 2) (oi := ⟨some 37, _, _, _, _, _⟩) (v := ?_) rfl ⟨by kernel_rfl, ?_⟩ (by assumption) ?_
        rotate_left
        · (intro wS hSw; (try dsimp only at hSw); have hDz := hD2.below hSw; obtain ⟨a0, a1, a2, -⟩ := hDz.six; have hlen := hDz.shown.len Tryz.underlying87; clear hSw hDz; go_simp; (try with_reducible rfl))
        (try simp only [Act.put, pS0, pS1, pS2])
        refine wTk (i := 3) (oi := ⟨some 38, _, _, _, _, _⟩) (v := ?_) rfl ⟨by kernel_rfl, ?_⟩ (by assumption) ?_
        rotate_left
        · (intro wS hSw; (try dsimp only at hSw); have hDz := hD2.below hSw; obtain ⟨a0, a1, a2, -⟩ := hDz.six; have hlen := hDz.shown.len Tryz.underlying87; clear hSw hDz; go_simp; (try with_reducible rfl))
        (try simp only [Act.put, pS0, pS1, pS2])
        refine wTk (i := 4) (oi := ⟨some 39, _, _, _, _, _⟩) (v := ?_) rfl ⟨by kernel_rfl, ?_⟩ (by assumption) ?_
        rotate_left
        · (intro wS hSw; (try dsimp only at hSw); have hDz := hD2.below hSw; obtain ⟨a0, a1, a2, -⟩ := hDz.six; have hlen := hDz.shown.len Tryz.underlying87; clear hSw hDz; go_simp; (try with_reducible rfl))
        (try simp only [Act.put, pS0, pS1, pS2])
        refine wTk (i := 5) (oi := ⟨some 40, _, _, _, _, _⟩) (v := ?_) rfl ⟨by kernel_rfl, ?_⟩ (by assumption) ?_
        rotate_left
        · (intro wS hSw; (try dsimp only at hSw); have hDz := hD2.below hSw; obtain ⟨a0, a1, a2, -⟩ := hDz.six; have hlen := hDz.shown.len Tryz.underlying87; clear hSw hDz; go_simp; (try with_reducible rfl))
        (try simp only [Act.put, pS0, pS1, pS2])
        refine wTk (i := 6) (oi := ⟨some 41, _, _, _, _, _⟩) (v := ?_) rfl ⟨by kernel_rfl, ?_⟩ (by assumption) ?_
        rotate_left
        · (intro wS hSw; (try dsimp only at hSw); have hDz := hD2.below hSw; obtain ⟨a0, a1, a2, -⟩ := hDz.six; have hlen := hDz.shown.len Tryz.underlying87; clear hSw hDz; go_simp; (try with_reducible rfl))
        (try simp only [Act.put, pS0, pS1, pS2])
        refine wTk (i := 7) (oi := ⟨some 42, _, _, _, _, _⟩) (v := ?_) rfl ⟨by kernel_rfl, ?_⟩ (by assumption) ?_
        rotate_left
        · (intro wS hSw; (try dsimp only at hSw); have hDz := hD2.below hSw; obtain ⟨a0, a1, a2, -⟩ := hDz.six; have hlen := hDz.shown.len Tryz.underlying87; clear hSw hDz; go_simp; (try with_reducible rfl))
        (try simp only [Act.put, pS0, pS1, pS2])
        refine wTk (i := 8) (oi := ⟨some 43, _, _, _, _, _⟩) (v := ?_) rfl ⟨by kernel_rfl, ?_⟩ (by assumption) ?_
        rotate_left
        · (intro wS hSw; (try dsimp only at hSw); (go_simp; rfl))
        (try simp only [Act.put, pS0, pS1, pS2])
        refine wTk (i := 9) (oi := ⟨some 44, _, _, _, _, _⟩) (v := ?_) rfl ⟨by kernel_rfl, ?_⟩ (by assumption) ?_
        rotate_left
        · (intro wS hSw; (try dsimp only at hSw); have hDz := hD2.below hSw; obtain ⟨a0, a1, a2, -⟩ := hDz.six; have hlen := hDz.shown.len Tryz.underlying87; clear hSw hDz; go_simp; (try with_reducible rfl))
        (try simp only [Act.put, pS0, pS1, pS2])
        refine wTk (i := 10) (oi := ⟨some 45, _, _, _, _, _⟩) (v := ?_) rfl ⟨by kernel_rfl, ?_⟩ (by assumption) ?_
        rotate_left
        · (intro wS hSw; (try dsimp only at hSw); have hDz := hD2.below hSw; obtain ⟨a0, a1, a2, -⟩ := hDz.six; have hlen := hDz.shown.len Tryz.underlying87; clear hSw hDz; go_simp; (try with_reducible rfl))
        (try simp only [Act.put, pS0, pS1, pS2])
        refine wpAnyH_take (i := 11) (oi := ⟨some 46, _, _, _, _, _⟩) (v := undef) rfl (by kernel_rfl) (by kernel_rfl) (by kernel_rfl) (fun _ _ _ h => h) (Or.inr ⟨by kernel_rfl, rfl⟩) (by assumption) ?_
        (try simp only [Act.put, pS0, pS1, pS2])
        refine wpAnyH_take (i := 12) (oi := ⟨some 47, _, _, _, _, _⟩) (v := undef) rfl (by kernel_rfl) (by kernel_rfl) (by kernel_rfl) (fun _ _ _ h => h) (Or.inr ⟨by kernel_rfl, rfl⟩) (by assumption) ?_
        (try simp only [Act.put, pS0, pS1, pS2])
        refine wpAnyH_take (i := 13) (oi := ⟨some 48, _, _, _, _, _⟩) (v := undef) rfl (by kernel_rfl) (by kernel_rfl) (by kernel_rfl) (fun _ _ _ h => h) (Or.inr ⟨by kernel_rfl, rfl⟩) (by assumption) ?_
        (try simp only [Act.put, pS0, pS1, pS2])
        refine wpAnyH_take (i := 14) (oi := ⟨some 49, _, _, _, _, _⟩) (v := undef) rfl (by kernel_rfl) (by kernel_rfl) (by kernel_rfl) (fun _ _ _ h => h) (Or.inr ⟨by kernel_rfl, rfl⟩) (by assumption) ?_
        (try simp only [Act.put, pS0, pS1, pS2])
        refine wpAnyH_take (i := 15) (oi := ⟨some 50, _, _, _, _, _⟩) (v := undef) rfl (by kernel_rfl) (by kernel_rfl) (by kernel_rfl) (fun _ _ _ h => h) (Or.inr ⟨by kernel_rfl, rfl⟩) (by assumption) ?_
        (try simp only [Act.put, pS0, pS1, pS2])
        refine wpAnyH_take (i := 16) (oi := ⟨some 51, _, _, _, _, _⟩) (v := undef) rfl (by kernel_rfl) (by kernel_rfl) (by kernel_rfl) (fun _ _ _ h => h) (Or.inr ⟨by kernel_rfl, rfl⟩) (by assumption) ?_
        (try simp only [Act.put, pS0, pS1, pS2])
        refine wpAnyH_take (i := 17) (oi := ⟨some 52, _, _, _, _, _⟩) (v := undef) rfl (by kernel_rfl) (by kernel_rfl) (by kernel_rfl) (fun _ _ _ h => h) (Or.inr ⟨by kernel_rfl, rfl⟩) (by assumption) ?_
        (try simp only [Act.put, pS0, pS1, pS2])
        refine wpAnyH_take (i := 18) (oi := ⟨some 53, _, _, _, _, _⟩) (v := undef) rfl (by kernel_rfl) (by kernel_rfl) (by kernel_rfl) (fun _ _ _ h => h) (Or.inr ⟨by kernel_rfl, rfl⟩) (by assumption) ?_
        (try simp only [Act.put, pS0, pS1, pS2])
        refine wpAnyH_take (i := 19) (oi := ⟨some 54, _, _, _, _, _⟩) (v := undef) rfl (by kernel_rfl) (by kernel_rfl) (by kernel_rfl) (fun _ _ _ h => h) (Or.inr ⟨by kernel_rfl, rfl⟩) (by assumption) ?_
        (try simp only [Act.put, pS0, pS1, pS2])
        refine wpAnyH_take (i := 20) (oi := ⟨some 55, _, _, _, _, _⟩) (v := undef) rfl (by kernel_rfl) (by kernel_rfl) (by kernel_rfl) (fun _ _ _ h => h) (Or.inr ⟨by kernel_rfl, rfl⟩) (by assumption) ?_
        (try simp only [Act.put, pS0, pS1, pS2])
        refine wpAnyH_take (i := 21) (oi := ⟨some 56, _, _, _, _, _⟩) (v := undef) rfl (by kernel_rfl) (by kernel_rfl) (by kernel_rfl) (fun _ _ _ h => h) (Or.inr ⟨by kernel_rfl, rfl⟩) (by assumption) ?_
        (try simp only [Act.put, pS0, pS1, pS2])
        refine wpAnyH_take (i := 22) (oi := ⟨some 57, _, _, _, _, _⟩) (v := undef) rfl (by kernel_rfl) (by kernel_rfl) (by kernel_rfl) (fun _ _ _ h => h) (Or.inr ⟨by kernel_rfl, rfl⟩) (by assumption) ?_
        (try simp only [Act.put, pS0, pS1, pS2])
        refine wpAnyH_take (i := 23) (oi := ⟨some 58, _, _, _, _, _⟩) (v := undef) rfl (by kernel_rfl) (by kernel_rfl) (by kernel_rfl) (fun _ _ _ h => h) (Or.inr ⟨by kernel_rfl, rfl⟩) (by assumption) ?_
        (try simp only [Act.put, pS0, pS1, pS2])
        refine wpAnyH_take (i := 24) (oi := ⟨some 59, _, _, _, _, _⟩) (v := undef) rfl (by kernel_rfl) (by kernel_rfl) (by kernel_rfl) (fun _ _ _ h => h) (Or.inr ⟨by kernel_rfl, rfl⟩) (by assumption) ?_
        (try simp only [Act.put, pS0, pS1, pS2])
        refine wpAnyH_take (i := 25) (oi := ⟨some 60, _, _, _, _, _⟩) (v := undef) rfl (by kernel_rfl) (by kernel_rfl) (by kernel_rfl) (fun _ _ _ h => h) (Or.inr ⟨by kernel_rfl, rfl⟩) (by assumption) ?_
        (try simp only [Act.put, pS0, pS1, pS2])
        refine wpAnyH_take (i := 26) (oi := ⟨some 61, _, _, _, _, _⟩) (v := undef) rfl (by kernel_rfl) (by kernel_rfl) (by kernel_rfl) (fun _ _ _ h => h) (Or.inr ⟨by kernel_rfl, rfl⟩) (by assumption) ?_
        (try simp only [Act.put, pS0, pS1, pS2])
        refine wTk (i := 27) (oi := ⟨some 62, _, _, _, _, _⟩) (v := ?_) rfl ⟨by kernel_rfl, ?_⟩ (by assumption) ?_
        rotate_left
        · (intro wS hSw; (try dsimp only at hSw); have hDz := hD2.below hSw; obtain ⟨a0, a1, a2, -⟩ := hDz.six; have hlen := hDz.shown.len Tryz.underlying87; clear hSw hDz; go_simp; (try with_reducible rfl))
        (try simp only [Act.put, pS0, pS1, pS2])
        refine wTk (i := 28) (oi := ⟨some 34, _, _, _, _, _⟩) (v := ?_) rfl ⟨by kernel_rfl, ?_⟩ (by assumption) ?_
        rotate_left
        · (intro wS hSw; (try dsimp only at hSw); have hDz := hD2.below hSw; obtain ⟨a0, a1, a2, -⟩ := hDz.six; have hlen := hDz.shown.len Tryz.underlying87; clear hSw hDz; go_simp; (try with_reducible rfl))
        (try simp only [Act.put, pS0, pS1, pS2])
        refine wpAnyH_done (by kernel_rfl) ?_ _
        go_wp2_with fail
        go_meet
        exact ⟨by rw [HFin.out], hHeld⟩
    · have hfin : decide ((!true) = true ∧ 512 ≤ d1.shown.length ∨ d1.room < (F : Int) - ol + (l.length : Int)) = decide (d1.room < (F : Int) - ol + (l.length : Int)) := by
       congr 1
       simp
      have HFin := Lib.hid hfin
      clear hfin
      refine wp_region_held_drew (S := (fun W => Below w2.heap.size w2 W)) (by kernel_rfl) ?_ (fun hHeld => ?_)
      · exact hst
      refine gen0 (T := fun W => ((fun W => Below w2.heap.size w2 W)) W ∧ True) ?_ (fun wq1 hT => ?_)
      · exact ⟨by (with_reducible exact hst), trivial⟩
      (try clear f0 f1 f2 f3 f4 f5 f6 f7 f8 f9 f10 f11)
      obtain ⟨hHeld, -⟩ := hT
      refine wTk (i := 0) (oi := ⟨some 35, _, _, _, _, _⟩) (v := ?_) rfl ⟨by kernel_rfl, ?_⟩ (by assumption) ?_
      rotate_left
      · (intro wS hSw; (try dsimp only at hSw); have hDz := hD2.below hSw; obtain ⟨a0, a1, a2, -⟩ := hDz.six; have hlen := hDz.shown.len Tryz.underlying87; clear hSw hDz; go_simp; (try with_reducible rfl))
      (try simp only [Act.put, pS0, pS1, pS2])
      refine wTk (i := 1) (oi := ⟨some 36, _, _, _, _, _⟩) (v := ?_) rfl ⟨by kernel_rfl, ?_⟩ (by assumption) ?_
      rotate_left
      · (intro wS hSw; (try dsimp only at hSw); have hDz := hD2.below hSw; obtain ⟨a0, a1, a2, -⟩ := hDz.six; have hlen := hDz.shown.len Tryz.underlying87; clear hSw hDz; go_simp; (try with_reducible rfl))
      (try simp only [Act.put, pS0, pS1, pS2])
      refine wTk (i := 2) (oi := ⟨some 37, _, _, _, _, _⟩) (v := ?_) rfl ⟨by kernel_rfl, ?_⟩ (by assumption) ?_
      rotate_left
      · (intro wS hSw; (try dsimp only at hSw); have hDz := hD2.below hSw; obtain ⟨a0, a1, a2, -⟩ := hDz.six; have hlen := hDz.shown.len Tryz.underlying87; clear hSw hDz; go_simp; (try with_reducible rfl))
      (try simp only [Act.put, pS0, pS1, pS2])
      refine wpAnyH_take (i := 3) (oi := ⟨some 38, _, _, _, _, _⟩) (v := undef) rfl (by kernel_rfl) (by kernel_rfl) (by kernel_rfl) (fun _ _ _ h => h) (Or.inr ⟨by kernel_rfl, rfl⟩) (by assumption) ?_
      (try simp only [Act.put, pS0, pS1, pS2])
      refine wpAnyH_take (i := 4) (oi := ⟨some 39, _, _, _, _, _⟩) (v := undef) rfl (by kernel_rfl) (by kernel_rfl) (by kernel_rfl) (fun _ _ _ h => h) (Or.inr ⟨by kernel_rfl, rfl⟩) (by assumption) ?_
      (try simp only [Act.put, pS0, pS1, pS2])
      refine wpAnyH_take (i := 5) (oi := ⟨some 40, _, _, _, _, _⟩) (v := undef) rfl (by kernel_rfl) (by kernel_rfl) (by kernel_rfl) (fun _ _ _ h => h) (Or.inr ⟨by kernel_rfl, rfl⟩) (by assumption) ?_
      (try simp only [Act.put, pS0, pS1, pS2])
      refine wpAnyH_take (i := 6) (oi := ⟨some 41, _, _, _, _, _⟩) (v := undef) rfl (by kernel_rfl) (by kernel_rfl) (by kernel_rfl) (fun _ _ _ h => h) (Or.inr ⟨by kernel_rfl, rfl⟩) (by assumption) ?_
      (try simp only [Act.put, pS0, pS1, pS2])
      refine wpAnyH_take (i := 7) (oi := ⟨some 42, _, _, _, _, _⟩) (v := undef) rfl (by kernel_rfl) (by kernel_rfl) (by kernel_rfl) (fun _ _ _ h => h) (Or.inr ⟨by kernel_rfl, rfl⟩) (by assumption) ?_
      (try simp only [Act.put, pS0, pS1, pS2])
      refine wpAnyH_take (i := 8) (oi := ⟨some 43, _, _, _, _, _⟩) (v := undef) rfl (by kernel_rfl) (by kernel_rfl) (by kernel_rfl) (fun _ _ _ h => h) (Or.inr ⟨by kernel_rfl, rfl⟩) (by assumption) ?_
      (try simp only [Act.put, pS0, pS1, pS2])
      refine wTk (i := 9) (oi := ⟨some 44, _, _, _, _, _⟩) (v := ?_) rfl ⟨by kernel_rfl, ?_⟩ (by assumption) ?_
      rotate_left
      · (intro wS hSw; (try dsimp only at hSw); have hDz := hD2.below hSw; obtain ⟨a0, a1, a2, -⟩ := hDz.six; have hlen := hDz.shown.len Tryz.underlying87; clear hSw hDz; go_simp; (try with_reducible rfl))
      (try simp only [Act.put, pS0, pS1, pS2])
      refine wTk (i := 10) (oi := ⟨some 45, _, _, _, _, _⟩) (v := ?_) rfl ⟨by kernel_rfl, ?_⟩ (by assumption) ?_
      rotate_left
      · (intro wS hSw; (try dsimp only at hSw); have hDz := hD2.below hSw; obtain ⟨a0, a1, a2, -⟩ := hDz.six; have hlen := hDz.shown.len Tryz.underlying87; clear hSw hDz; go_simp; (try with_reducible rfl))
      (try simp only [Act.put, pS0, pS1, pS2])
      refine wTk (i := 11) (oi := ⟨some 46, _, _, _, _, _⟩) (v := ?_) rfl ⟨by kernel_rfl, ?_⟩ (by assumption) ?_
      rotate_left
      · (intro wS hSw; (try dsimp only at hSw); have hDz := hD2.below hSw; obtain ⟨a0, a1, a2, -⟩ := hDz.six; have hlen := hDz.shown.len Tryz.underlying87; clear hSw hDz; go_simp; (try with_reducible rfl))
      (try simp only [Act.put, pS0, pS1, pS2])
      refine wTk (i := 12) (oi := ⟨some 47, _, _, _, _, _⟩) (v := ?_) rfl ⟨by kernel_rfl, ?_⟩ (by assumption) ?_
      rotate_left
      · (intro wS hSw; (try dsimp only at hSw); have hDz := hD2.below hSw; obtain ⟨a0, a1, a2, -⟩ := hDz.six; have hlen := hDz.shown.len Tryz.underlying87; clear hSw hDz; go_simp; (try with_reducible rfl))
      (try simp only [Act.put, pS0, pS1, pS2])
      refine wTk (i := 13) (oi := ⟨some 48, _, _, _, _, _⟩) (v := ?_) rfl ⟨by kernel_rfl, ?_⟩ (by assumption) ?_
      rotate_left
      · (intro wS hSw; (try dsimp only at hSw); have hDz := hD2.below hSw; obtain ⟨a0, a1, a2, -⟩ := hDz.six; have hlen := hDz.shown.len Tryz.underlying87; clear hSw hDz; go_simp; (try with_reducible rfl))
      (try simp only [Act.put, pS0, pS1, pS2])
      refine wTk (i := 14) (oi := ⟨some 49, _, _, _, _, _⟩) (v := ?_) rfl ⟨by kernel_rfl, ?_⟩ (by assumption) ?_
      rotate_left
      · (intro wS hSw; (try dsimp only at hSw); have hDz := hD2.below hSw; obtain ⟨a0, a1, a2, -⟩ := hDz.six; have hlen := hDz.shown.len Tryz.underlying87; clear hSw hDz; go_simp; (try with_reducible rfl))
      (try simp only [Act.put, pS0, pS1, pS2])
      refine wTk (i := 16) (oi := ⟨some 51, _, _, _, _, _⟩) (v := ?_) rfl ⟨by kernel_rfl, ?_⟩ (by assumption) ?_
      rotate_left
      · (intro wS hSw; (try dsimp only at hSw); have hDz := hD2.below hSw; obtain ⟨a0, a1, a2, -⟩ := hDz.six; have hlen := hDz.shown.len Tryz.underlying87; clear hSw hDz; go_simp; (try with_reducible rfl))
      (try simp only [Act.put, pS0, pS1, pS2])
      refine wTk (i := 17) (oi := ⟨some 52, _, _, _, _, _⟩) (v := ?_) rfl ⟨by kernel_rfl, ?_⟩ (by assumption) ?_
      rotate_left
      · (intro wS hSw; (try dsimp only at hSw); have hDz := hD2.below hSw; obtain ⟨a0, a1, a2, -⟩ := hDz.six; have hlen := hDz.shown.len Tryz.underlying87; clear hSw hDz; go_simp; (try with_reducible rfl))
      (try simp only [Act.put, pS0, pS1, pS2])
      refine wTk (i := 19) (oi := ⟨some 54, _, _, _, _, _⟩) (v := ?_) rfl ⟨by kernel_rfl, ?_⟩ (by assumption) ?_
      rotate_left
      · (intro wS hSw; (try dsimp only at hSw); have hDz := hD2.below hSw; obtain ⟨a0, a1, a2, -⟩ := hDz.six; have hlen := hDz.shown.len Tryz.underlying87; clear hSw hDz; go_simp; (try with_reducible rfl))
      (try simp only [Act.put, pS0, pS1, pS2])
      refine wTk (i := 20) (oi := ⟨some 55, _, _, _, _, _⟩) (v := ?_) rfl ⟨by kernel_rfl, ?_⟩ (by assumption) ?_
      rotate_left
      · (intro wS hSw; (try dsimp only at hSw); have hDz := hD2.below hSw; obtain ⟨a0, a1, a2, -⟩ := hDz.six; have hlen := hDz.shown.len Tryz.underlying87; clear hSw hDz; go_simp; (try with_reducible rfl))
      (try simp only [Act.put, pS0, pS1, pS2])
      refine wTk (i := 22) (oi := ⟨some 57, _, _, _, _, _⟩) (v := ?_) rfl ⟨by kernel_rfl, ?_⟩ (by assumption) ?_
      rotate_left
      · (intro wS hSw; (try dsimp only at hSw); have hDz := hD2.below hSw; obtain ⟨a0, a1, a2, -⟩ := hDz.six; have hlen := hDz.shown.len Tryz.underlying87; clear hSw hDz; go_simp; (try with_reducible rfl))
      (try simp only [Act.put, pS0, pS1, pS2])
      refine wTk (i := 23) (oi := ⟨some 58, _, _, _, _, _⟩) (v := ?_) rfl ⟨by kernel_rfl, ?_⟩ (by assumption) ?_
      rotate_left
      · (intro wS hSw; (try dsimp only at hSw); have hDz := hD2.below hSw; obtain ⟨a0, a1, a2, -⟩ := hDz.six; have hlen := hDz.shown.len Tryz.underlying87; clear hSw hDz; go_simp; (try with_reducible rfl))
      (try simp only [Act.put, pS0, pS1, pS2])
      refine wTk (i := 24) (oi := ⟨some 59, _, _, _, _, _⟩) (v := ?_) rfl ⟨by kernel_rfl, ?_⟩ (by assumption) ?_
      rotate_left
      · (intro wS hSw; (try dsimp only at hSw); have hDz := hD2.below hSw; obtain ⟨a0, a1, a2, -⟩ := hDz.six; have hlen := hDz.shown.len Tryz.underlying87; clear hSw hDz; go_simp; (try with_reducible rfl))
      (try simp only [Act.put, pS0, pS1, pS2])
      refine wTk (i := 25) (oi := ⟨some 60, _, _, _, _, _⟩) (v := ?_) rfl ⟨by kernel_rfl, ?_⟩ (by assumption) ?_
      rotate_left
      · (intro wS hSw; (try dsimp only at hSw); have hDz := hD2.below hSw; obtain ⟨a0, a1, a2, -⟩ := hDz.six; have hlen := hDz.shown.len Tryz.underlying87; clear hSw hDz; go_simp; (try with_reducible rfl))
      (try simp only [Act.put, pS0, pS1, pS2])
      refine wR1 (i := 15) (o := ⟨some 50, _, _, _, _, _⟩) rfl (fun K hK => ?_)
      go_simp
      (refine (HU.out _ hHeld).mono ?_; rintro e w15 ⟨rfl, hb15⟩)
      go_wp2_with fail
      refine hK.out _ _ ?_ (fun _ => ?_)
      · ((try dsimp only); (exact bel_call hHeld hb15))
      clear hK K
      (try simp only [Act.put, pS0, pS1, pS2])
      refine gen0 (T := fun W => ((fun W => Below w2.heap.size w2 W)) W ∧ True) ?_ (fun wq2 hT => ?_)
      · exact ⟨by (exact bel_call hHeld hb15), trivial⟩
      (try clear f0 f1 f2 f3 f4 f5 f6 f7 f8 f9 f10 f11)
      obtain ⟨hHeld, -⟩ := hT
      refine wTk (i := 18) (oi := ⟨some 53, _, _, _, _, _⟩) (v := ?_) rfl ⟨by kernel_rfl, ?_⟩ (by assumption) ?_
      rotate_left
      · (intro wS hSw; (try dsimp only at hSw); have hDz := hD2.below hSw; obtain ⟨a0, a1, a2, -⟩ := hDz.six; have hlen := hDz.shown.len Tryz.underlying87; clear hSw hDz; go_simp; (try with_reducible rfl))
      (try simp only [Act.put, pS0, pS1, pS2])
      refine wTk (i := 21) (oi := ⟨some 56, _, _, _, _, _⟩) (v := ?_) rfl ⟨by kernel_rfl, ?_⟩ (by assumption) ?_
      rotate_left
      · (intro wS hSw; (try dsimp only at hSw); have hDz := hD2.below hSw; obtain ⟨a0, a1, a2, -⟩ := hDz.six; have hlen := hDz.shown.len Tryz.underlying87; clear hSw hDz; go_simp; (try with_reducible rfl))
      (try simp only [Act.put, pS0, pS1, pS2])
      refine wTk (i := 26) (oi := ⟨some 61, _, _, _, _, _⟩) (v := ?_) rfl ⟨by kernel_rfl, ?_⟩ (by assumption) ?_
      rotate_left
      · (intro wS hSw; (try dsimp only at hSw); have hDz := hD2.below hSw; obtain ⟨a0, a1, a2, -⟩ := hDz.six; have hlen := hDz.shown.len Tryz.underlying87; clear hSw hDz; go_simp; (try with_reducible rfl))
      (try simp only [Act.put, pS0, pS1, pS2])
      refine wTk (i := 27) (oi := ⟨some 62, _, _, _, _, _⟩) (v := ?_) rfl ⟨by kernel_rfl, ?_⟩ (by assumption) ?_
      rotate_left
      · (intro wS hSw; (try dsimp only at hSw); have hDz := hD2.below hSw; obtain ⟨a0, a1, a2, -⟩ := hDz.six; have hlen := hDz.shown.len Tryz.underlying87; clear hSw hDz; go_simp; (try with_reducible rfl))
      (try simp only [Act.put, pS0, pS1, pS2])
      refine wTk (i := 28) (oi := ⟨some 34, _, _, _, _, _⟩) (v := ?_) rfl ⟨by kernel_rfl, ?_⟩ (by assumption) ?_
      rotate_left
      · (intro wS hSw; (try dsimp only at hSw); have hDz := hD2.below hSw; obtain ⟨a0, a1, a2, -⟩ := hDz.six; have hlen := hDz.shown.len Tryz.underlying87; clear hSw hDz; go_simp; (try with_reducible rfl))
      (try simp only [Act.put, pS0, pS1, pS2])
      refine wpAnyH_done (by kernel_rfl) ?_ _
      go_wp2_with fail
      go_meet
      exact ⟨by rw [HFin.out, s3], hHeld⟩
   case rest =>
    obtain ⟨rfl, hbc⟩ := hcut
    have hD3 := hD2.below hbc
    have hF3 : Frd q w wc := hF2.trans (Frd.of_below (q := q) hbc) fun i hi => .inl hi
    have hS3 := hS2.below hbc
    clear hst hS2 HU hD2
    rcases Decidable.em ((!has) = true ∧ 512 ≤ d1.shown.length ∨ d1.room < (F : Int) - ol + (l.length : Int)) with hb | hb
    · have HR := Lib.hid (show dWrite svl d n ⟨A, c, l⟩ = (d1, 5) from by rw [hR2 _ rfl, if_pos hb])
      rw [decide_eq_true hb]
      clear hR2 hb
      go_wp2_with fail
      go_ret
      exact ⟨A, c, by rw [HR.out]; rfl, by rw [HR.out]; exact Dgo.of hD3 hF3 s1 s2⟩
    · have HR := Lib.hid (show ∀ v : Sv, v.l = l → dWrite svl d n v = (dAdd d1 ⟨0, n, [], v⟩, 0) from fun v hv => by rw [hR2 _ hv, if_neg hb])
      rw [decide_eq_false hb]
      clear hR2 hb
      go_wp2_with fail
      refine (BClone_any l wc hS3 hl).mono ?_
      rintro e w4 ⟨A4, c4, m4, rfl, hm4, ho4, hb4⟩
      go_wp2_with fail
      obtain rfl : l = m4 := hm4.out.symm
      refine (Add_any (x := ⟨0, n, [], ⟨A4, c4, l⟩⟩) (hD3.below hb4) hp hL (named_len hnm) (by simp)).mono ?_
      rintro e w5 ⟨rfl, hG⟩
      have hE := Dgo.addB hD3 hF3 s1 s2 hb4 ho4 (named_len hnm) (by simp) hl2 hG
      clear hS3 hF3 hD3 hG
      go_wp2_with fail
      go_ret
      exact ⟨A4, c4, by rw [HR.out _ rfl]; rfl, by rw [HR.out _ rfl]; exact hE⟩
 · have HR := Lib.hid (show ∀ v, dWrite svl d n v = (d1, 14) from fun v => by rw [hR, if_pos (by simp)])
   rw [show errv 14 = Value.iface 60 (.int .i64 14) from rfl] at hW
   have HW := Lib.hid hW
   clear hW hR
   go_enter Tryz.func77, Tryz.ntmps77
   go_wp2_with fail
   refine HW.out.mono ?_
   rintro e w1 ⟨rfl, hD1, hw1⟩
   go_wp2_with fail
   go_ret
   exact ⟨A, c, by rw [HR.out]; rfl, by rw [HR.out]; exact Dgo.of hD1 (Frd.of_wr (.inl rfl) hw1) s1 s2⟩
def dRead {α : Type} (d : Dk α) (n : Bs) : Option α × Nat := if d.down = true then (none, 14) else match gget n d.shown with | none => (none, 4) | some v => (some v, 0)
set_option maxRecDepth 100000 in
set_option maxHeartbeats 1000000 in
theorem Read_any {w : World} {q : Fp} {d : Dk Sv} (h : Dsk w q d) (n : Bs) (hn : n.length ≤ 100000000) :
 Calls Tryz.prog 64 #[.pointer (some ⟨q.g, 0, none⟩), .string ⟨n.toArray⟩] w fun e w' => ∃ A c m, e = .returned (.tuple #[.slice A (List.length m) c, errv (dRead d n).2]) ∧ Hid (m = (((dRead d n).1.map Sv.l).getD [])) ∧ OwnB w' w.heap.size 5 A c m ∧ Below w.heap.size w w' := by
 have hL := Looks_any h
 cases hd : d.down
 · rw [hd, if_neg (by simp), show errv 0 = Value.nilIface from rfl] at hL
   have HL := Lib.hid hL
   clear hL
   have hlk := h.shown.look (T := 87) (E := 52) Tryz.underlying9 Tryz.underlying87 (zero_bs _) (k := n) (by unfold maxLen; omega)
   obtain ⟨a0, a1, a2, -⟩ := h.six
   cases hgt : gget n d.shown with
   | none =>
    rw [hgt] at hlk
    have HR := Lib.hid (show dRead d n = (none, 4) from by unfold dRead; rw [hd, if_neg (by simp), hgt])
    clear hgt hd
    go_enter Tryz.func64, Tryz.ntmps64
    go_wp2_with fail
    refine HL.out.mono ?_
    rintro e w1 ⟨rfl, rfl⟩
    go_wp2_with fail
    go_ret2
    exact ⟨none, 0, [], by rw [HR.out]; rfl, (show _ = _ from by rw [HR.out]; rfl), Own.none_ _ _ _ _, Below.refl _ _⟩
   | some u =>
    rw [hgt] at hlk
    have hmem := (h.shown_mem _ (gget_mem hgt)).2
    have hrd := h.rd u hmem
    have hln := h.len u hmem
    obtain ⟨A, c, l⟩ := u
    dsimp only [Option.map_some, Option.getD_some, Option.isSome_some, Sv.v] at hlk hrd hln
    have HR := Lib.hid (show dRead d n = (some ⟨A, c, l⟩, 0) from by unfold dRead; rw [hd, if_neg (by simp), hgt])
    clear hgt hd h hmem
    go_enter Tryz.func64, Tryz.ntmps64
    go_wp2_with fail
    refine HL.out.mono ?_
    rintro e w1 ⟨rfl, rfl⟩
    go_wp2_with fail
    refine (BClone_any l _ hrd (by omega)).mono ?_
    rintro e w2 ⟨A2, c2, m2, rfl, hm2, ho2, hb2⟩
    go_wp2_with fail
    go_ret2
    exact ⟨A2, c2, m2, by rw [HR.out]; rfl, (show _ = _ from by rw [HR.out, hm2.out]; rfl), ho2, hb2⟩
 · rw [hd, if_pos rfl, show errv 14 = Value.iface 60 (.int .i64 14) from rfl] at hL
   have HL := Lib.hid hL
   have HR := Lib.hid (show dRead d n = (none, 14) from by unfold dRead; rw [hd, if_pos rfl])
   clear hL h hd
   go_enter Tryz.func64, Tryz.ntmps64
   go_wp2_with fail
   refine HL.out.mono ?_
   rintro e w1 ⟨rfl, rfl⟩
   go_wp2_with fail
   go_ret2
   exact ⟨none, 0, [], by rw [HR.out]; rfl, (show _ = _ from by rw [HR.out]; rfl), Own.none_ _ _ _ _, Below.refl _ _⟩
def dk0 (room : Int) : Dk Sv := ⟨room, [], [], -1, false⟩
theorem Dsk.new (w : World) (room : Int) : Dsk (((w.alloc (.map #[] 0)).alloc (.map #[] 0)).alloc (.cells (dka ⟨w.heap.size + 1 + 1, w.heap.size, w.heap.size + 1, none, 0⟩ (dk0 room)) 90)) ⟨w.heap.size + 1 + 1, w.heap.size, w.heap.size + 1, none, 0⟩ (dk0 room) where
 blk := Blk.newAt (by simp) _ _
 sure := Om.same (Om.same (Om.new w) ((below_new (w.alloc (.map #[] 0)) (.map #[] 0)).block _ (by simp))) ((below_new ((w.alloc (.map #[] 0)).alloc (.map #[] 0)) _).block _ (by simp; omega))
 shown := by
  have h := Om.new (P := Tryz.prog) (K := 9) (w.alloc (.map #[] 0))
  rw [show (w.alloc (.map #[] 0)).heap.size = w.heap.size + 1 from by simp] at h
  exact Om.same h ((below_new ((w.alloc (.map #[] 0)).alloc (.map #[] 0)) _).block _ (by simp))
 pend := Own.none_ _ _ _ _
 ne := by dsimp only; omega
 rd := fun s hs => by simp [svs, dk0] at hs
 ap := fun s hs => by simp [svs, dk0] at hs
 ris := Ris.nil
 len := fun s hs => by simp [svs, dk0] at hs
 nm := ⟨fun p hp => by simp [dk0] at hp, fun p hp => by simp [dk0] at hp⟩
set_option maxRecDepth 100000 in
set_option maxHeartbeats 1000000 in
theorem New_any (room : Int) (w : World) : Calls Tryz.prog 7 #[.int .i64 room] w fun e w' =>
 (room < 0 ∨ 1073741824 < room) ∧ e = .returned (.tuple #[.pointer none, errv 1]) ∧ Below w.heap.size w w' ∨
 (0 ≤ room ∧ room ≤ 1073741824) ∧ ∃ q : Fp, e = .returned (.tuple #[.pointer (some ⟨q.g, 0, none⟩), errv 0]) ∧ Dsk w' q (dk0 room) ∧ (∀ i, q.M i → w.heap.size ≤ i) ∧ Below w.heap.size w w' := by
 rcases Int.lt_or_le room 0 with h0 | h0
 · go_enter Tryz.func7, Tryz.ntmps7
   go_wp2_with fail
   go_ret2
   exact .inl ⟨.inl h0, rfl, Below.refl _ _⟩
 rcases Int.lt_or_le 1073741824 room with h1 | h1
 · go_enter Tryz.func7, Tryz.ntmps7
   go_wp2_with fail
   go_ret2
   exact .inl ⟨.inr h1, rfl, Below.refl _ _⟩
 · have hmm := @run_makeMap Tryz.prog
   have HD := Lib.hid (Dsk.new w room)
   go_enter Tryz.func7, Tryz.ntmps7
   go_wp2_with fail
   go_ret2
   exact .inr ⟨⟨h0, h1⟩, _, rfl, HD.out, (by rintro i (e | e | e | e) <;> dsimp only at e <;> first | omega | (cases e)), bel_alloc (bel_alloc (below_new w _) _) _⟩
end
end Go.Proofs.YtajfnmohlnkncaaGreatDoor
