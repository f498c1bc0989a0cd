/- WHAT IT HOLDS: vault.Check. | WHAT IT HOLDS: a store's objects told: walked. | WHAT IT HOLDS: vault.Sweep. | WHAT IT HOLDS: a disk with room enough; a step of a backup of segments on it, plainly (no program). | WHAT IT HOLDS: a step of a backup of segments on a disk that may go down at any operation, and what is there when it comes again, plainly (no program). | WHAT IT HOLDS: what is done to a vault and its disk, at large. -/
import Derived.Test.YtajfnmohlnkncaaGreatDoorVaultAgreesG24
import Derived.Test.YtajfnmohlnkncaaGreatDoorVaultAgreesG16
import Derived.Test.YtajfnmohlnkncaaGreatDoorShelfV
import Derived.Test.YtajfnmohlnkncaaGreatDoorVaultAgreesG23
import Derived.Test.YtajfnmohlnkncaaGreatDoorVaultAgreesG27
import Derived.Test.YtajfnmohlnkncaaGreatDoorVaultAgreesG15
namespace Go.Proofs.YtajfnmohlnkncaaGreatDoor
section
open Go.RowKit Go.Shelf
attribute [local go_sem ↓] Go.wp_at_zero Go.wp_at_succ
end
section
open Go.RowKit Go.Maps Go.Sort
attribute [local go_sem ↓] Go.wp_at_zero Go.wp_at_succ
end
section
open Go.RowKit Go.Shelf
attribute [local go_sem ↓] Go.wp_at_zero Go.wp_at_succ
end
section
open Go.RowKit
section
variable {α : Type}
theorem fusedV_ins (len : α → Nat) (x : Bs × α) : ∀ l : List (Bs × α), fused len (gins x l) = fused len l + len x.2
 | [] => by simp [gins, fused]
 | p :: r => by
  unfold gins
  split
  · simp [fused]; omega
  · have h := fusedV_ins len x r
    unfold fused at h ⊢
    simp only [List.map_cons, List.sum_cons]
    omega
theorem fusedV_del (len : α → Nat) (k : Bs) : ∀ l : List (Bs × α), fused len (gdel k l) ≤ fused len l
 | [] => Nat.le_refl _
 | p :: r => by
  have h := fusedV_del len k r
  unfold gdel at h ⊢
  rw [List.filter_cons]
  split
  · unfold fused at h ⊢
    simp only [List.map_cons, List.sum_cons]
    omega
  · unfold fused at h ⊢
    simp only [List.map_cons, List.sum_cons]
    omega
structure Rm (len : α → Nat) (d : Dk α) (i F : Nat) : Prop where
 fr : Fre d
 rm : 1000000 ≤ d.room
 fw : d.sure.length ≤ i
 sm : fused len d.sure ≤ F
theorem Rm.put {len : α → Nat} {z : α} {d : Dk α} {i F : Nat} (h : Rm len d i F) (hU : Upd d) (hi : i ≤ 200) {n : Bs} (hn : snamed n = true) {v : α} {k : Nat} (hv : len v ≤ k) (hk : k ≤ 65536) (hF : F + k ≤ 1000000) :
 ∃ d', sPut len z d n v = (d', 0) ∧ Rm len d' (i + 1) (F + k) ∧ d'.down = false ∧ d'.pend = [] ∧ d'.sure = gput n v d.sure := by
 have hb := named_begun hn
 have hnn := snamed_named hn
 have hf := h.fr
 have hg0 : gget (begun n) d.shown = none := by rw [shown_nil hU.pn]; exact hU.na.begun (isBegun_begun n)
 have hfu := h.sm
 have hrm := h.rm
 have hfw := h.fw
 have hw : dWrite len d (begun n) v = (dAdd d ⟨0, begun n, [], v⟩, 0) := by
  unfold dWrite
  rw [dWorks_fre hf, if_neg (by simp), if_neg (by rw [hb]; simp), if_neg (by omega), if_neg]
  rw [hg0, shown_nil hU.pn]
  simp only [Option.map_none, Option.getD_none]
  omega
 have hf1 : Fre (dAdd d ⟨0, begun n, [], v⟩) := hf
 obtain ⟨e1, e2, e3, e4⟩ := dSync_fre hf1
 have hs1 : (dAdd d ⟨0, begun n, [], v⟩).shown = gput (begun n) v d.sure := by
  unfold Dk.shown dAdd
  rw [hU.pn]
  exact fdo_putW d.sure n v
 generalize hd2 : (dSync (dAdd d ⟨0, begun n, [], v⟩)).1 = d2 at *
 have hy1 : dSync (dAdd d ⟨0, begun n, [], v⟩) = (d2, 0) := Prod.ext hd2 e1
 have hr2 : d2.room = d.room := by
  rw [← hd2]
  unfold dSync
  rw [dWorks_fre hf1, if_neg (by simp)]
  rfl
 have hn2 : dRename z d2 (begun n) n = (dAdd d2 (putR z n), 0) := by
  unfold dRename
  rw [dWorks_fre e4, if_neg (by simp), if_neg (by rw [hb, hnn]; simp), if_neg]
  · rfl
  · rw [shown_nil e3, e2, hs1, gget_put_same]
    simp
 have hf3 : Fre (dAdd d2 (putR z n)) := e4
 obtain ⟨g1, g2, g3, g4⟩ := dSync_fre hf3
 have hs3 : (dAdd d2 (putR z n)).shown = gput n v d.sure := by
  unfold Dk.shown dAdd
  rw [e3, e2, hs1]
  have := put_two hU.rs hU.na z n v
  rw [fdo_putW] at this
  exact this
 have hr4 : (dSync (dAdd d2 (putR z n))).1.room = d2.room := by
  unfold dSync
  rw [dWorks_fre hf3, if_neg (by simp)]
  rfl
 refine ⟨(dSync (dAdd d2 (putR z n))).1, ?_, ⟨g4, by rw [hr4, hr2]; exact hrm, ?_, ?_⟩, g4.2, g3, g2.trans hs3⟩
 · unfold sPut
   rw [if_neg (by rw [hn]; simp), hw, andThen_ok, hy1, andThen_ok, hn2, andThen_ok]
   exact Prod.ext rfl g1
 · rw [g2, hs3]
   have := glen_put n v d.sure
   omega
 · rw [g2, hs3]
   have h1 := fusedV_ins len (n, v) (gdel n d.sure)
   have h2 := fusedV_del len n d.sure
   unfold gput
   dsimp only at h1
   omega
theorem Kv.step {f0 : Int} {dec : α → Bs} {enc enc2 : Bs → α} {len : α → Nat} {z : α} {d : Dk α} {l : List Mf} {done cs : List Ce} {i : Nat} (h : Kv dec f0 d l done) (hR : Rm len d (2 * i) (70000 * i)) (hi : i ≤ 12) (hf : l.length < 1000000) (hde : ∀ b, dec (enc b) = b) (hle : ∀ b, len (enc b) = b.length) (hde2 : ∀ b, dec (enc2 b) = b) (hle2 : ∀ b, len (enc2 b) = b.length) {t : Int} (ht0 : cmark l ≤ t) (ht : 0 ≤ t ∧ t ≤ 1048576) :
 ((mof (f0 + done.length, cs)).2.2 ≠ 0 ∧ vadd len z enc ⟨d, l⟩ l.length 0 (f0 + done.length, cs) = (ptz, ⟨d, l⟩, (mof (f0 + done.length, cs)).2.2)) ∨
 ∃ p d1 d2, vadd len z enc ⟨d, l⟩ l.length 0 (f0 + done.length, cs) = (p, ⟨d1, l⟩, 0) ∧ (cnext l (f0 + done.length) t [p]).2 = 0 ∧
  vcommit len z dec enc2 ⟨d1, l⟩ (cnext l (f0 + done.length) t [p]).1 = (⟨d2, l ++ [(cnext l (f0 + done.length) t [p]).1]⟩, 0) ∧ Kv dec f0 d2 (l ++ [(cnext l (f0 + done.length) t [p]).1]) (done ++ cs) ∧ Rm len d2 (2 * (i + 1)) (70000 * (i + 1)) ∧ cmark (l ++ [(cnext l (f0 + done.length) t [p]).1]) = t := by
 by_cases hk : (mof (f0 + (done.length : Int), cs)).2.2 = 0
 · right
   obtain ⟨p, b, hm⟩ : ∃ p b, mof (f0 + (done.length : Int), cs) = (p, b, 0) := ⟨_, _, Prod.ext rfl (Prod.ext rfl hk)⟩
   have hb := mof_size hm
   obtain ⟨d1, e1, hR1, u1, u2, u3⟩ := hR.put (z := z) h.toUpd (by omega) (n := label l.length 0) (label_named hf (by omega)) (v := enc b) (k := 10000) (by rw [hle]; omega) (by omega) (by omega)
   obtain ⟨hK1, hx⟩ := h.added hf u1 u2 u3
   have hN := hK1.next hf ht0 ht hm rfl
   have hC := hK1.commits (enc := enc2) (len := len) (z := z) hf ht0 ht hm rfl hx (hde b)
   obtain ⟨d2, e2, hR2, v1, v2, v3⟩ := hR1.put (z := z) hK1.toUpd (by omega) (n := title l.length) (title_named hf) (v := enc2 (mfput (cnext l (f0 + done.length) t [p]).1)) (k := 60000) (by rw [hle2]; exact mfput_len _) (by omega) (by omega)
   rw [e2, if_neg (by simp)] at hC
   refine ⟨p, d1, d2, ?_, by rw [hN], hC, hK1.committed hf hde2 ht0 ht hm rfl hx (hde b) v1 v2 v3, by rw [show 70000 * (i + 1) = 70000 * i + 10000 + 60000 from by omega]; exact hR2, ?_⟩
   · unfold vadd
     dsimp only
     rw [if_neg (by omega), hm]
     dsimp only
     rw [if_neg (by simp), Int.toNat_natCast, show (0 : Int).toNat = 0 from rfl, e1, if_neg (by simp)]
   · unfold cmark
     rw [List.getLast?_concat, hN]
 · left
   refine ⟨hk, ?_⟩
   unfold vadd
   dsimp only
   rw [if_neg (by omega), if_pos hk]
end
theorem Kv.nil {f0 : Int} {dec : Sv → Bs} (room : Int) : Kv dec f0 (dk0 room : Dk Sv) [] [] :=
 ⟨⟨⟨rfl, rfl, Ris.nil, fun _ _ => rfl⟩, rfl, fun _ hn => absurd hn (Nat.not_lt_zero _), fun _ _ => rfl⟩, fun h => absurd rfl h, fun h => absurd rfl h, fun _ => rfl, fun _ hn => absurd hn (Nat.not_lt_zero _)⟩
section
variable {α : Type}
theorem Kv.opens {f0 : Int} {dec : α → Bs} {z : α} {d d0 : Dk α} {l : List Mf} {done : List Ce} (h : Kv dec f0 d l done) (hf : l.length < 1000000) (ho : sOpen z d0 = (d, 0)) : vopen z dec d0 = (⟨d, l⟩, 0) := h.toGv.opens hf ho
end
end
section
open Go.RowKit Go.Shelf
section
variable {w W W' : World} {S : Nat → Prop} {g gv gs : Nat} {d d' : Dk Sv} {l : List Mf} {q : Fp} {lv lv' : List MfV} {E : Option Addr} {cap : Nat}
theorem Vgx.va (h : Vgx W gv gs q d d' lv E lv' W') (hg : q.g = g) (hS : ∀ i, Vtc q d gv gs lv E i → S i) : Va W S W' ∧ Vs W' (grow S W W') g gv d' (mvs lv') := by
 obtain ⟨q', E', cap', hg', hV, hF, hT⟩ := h
 refine ⟨⟨hF.os, hF.tape, hF.output, hF.size, fun i hi hn => hF.block i hi (fun hq => hn (hS i (.inl (.inl hq)))) (fun e => hn (hS i (.inr (.inl e))))⟩, q', gs, lv', E', cap', hg'.trans hg, rfl, hV, fun i hi => ?_⟩
 rcases hT i hi with h1 | h1
 · exact .inl (hS i h1)
 · exact .inr ⟨h1, hV.lt hi⟩
theorem LNew (room : Int) (hr : 0 ≤ room ∧ room ≤ 1073741824) (S : Nat → Prop) (W : World) : Calls Tryz.prog 7 #[.int .i64 room] W fun e W' => ∃ g, e = .returned (.tuple #[.pointer (some ⟨g, 0, none⟩), .nilIface]) ∧ Below W.heap.size W W' ∧ Ds W' (grow S W W') g (dk0 room) := by
 refine (New_any room W).mono ?_
 rintro e W' (⟨h, -⟩ | ⟨-, q, rfl, hD, hM, hb⟩)
 · omega
 · refine ⟨q.g, rfl, hb, q, rfl, hD, fun i hi => ?_⟩
   rcases hi with hi | ⟨s, hs, -⟩
   · exact .inr ⟨hM i hi, hD.ltM hi⟩
   · simp [svs, dk0] at hs
theorem LOpen (h : Ds W S g d) (hK : Kin w W S) (hb : Below w.heap.size w W) (hG : Shg w) (hf : Fok d) (hl : d.sure.length + d.pend.length ≤ 98) :
 Calls Tryz.prog 8 #[.pointer (some ⟨g, 0, none⟩)] W fun e W' => Va W S W' ∧
  ((vopen Sv.nil Sv.l d).2 = 0 ∧ (∃ gv, e = .returned (.tuple #[.pointer (some ⟨gv, 0, none⟩), .nilIface]) ∧ Vs W' (grow S W W') g gv (vopen Sv.nil Sv.l d).1.d (vopen Sv.nil Sv.l d).1.l) ∨
   (vopen Sv.nil Sv.l d).2 ≠ 0 ∧ e = .returned (.tuple #[.pointer none, errv (vopen Sv.nil Sv.l d).2]) ∧ Ds W' (grow S W W') g (vopen Sv.nil Sv.l d).1.d) := by
 obtain ⟨q, rfl, hD, hS⟩ := h
 refine (VOpen_any hD (fun W2 hF => hG.below ?_) hf hl).mono ?_
 · refine Va.below (S := S) ⟨hF.os, hF.tape, hF.output, hF.size, fun i hi hn => hF.block i hi (fun hq => hn (hS i (.inl hq)))⟩ hb hK
 · rintro e W' ⟨q', hg', hD', hF, hT, hor⟩
   refine ⟨⟨hF.os, hF.tape, hF.output, hF.size, fun i hi hn => hF.block i hi (fun hq => hn (hS i (.inl hq)))⟩, ?_⟩
   rcases hor with ⟨h0, gv, gs, lv, E, cap, rfl, hV, hm, hgv, hTc⟩ | ⟨h0, rfl⟩
   · refine .inl ⟨h0, gv, rfl, q', gs, lv, E, cap, hg', hm, hV, fun i hi => ?_⟩
     rcases hTc i hi with h1 | h1
     · exact .inl (hS i h1)
     · exact .inr ⟨h1, hV.lt hi⟩
   · refine .inr ⟨h0, rfl, q', hg', hD', fun i hi => ?_⟩
     rcases hT i hi with h1 | h1
     · exact .inl (hS i h1)
     · exact .inr ⟨h1, hD'.lt hi⟩
theorem LAdd (h : Vs W S g gv d l) (hG : Shg W) (hfo : Fok d) (hd9 : d.sure.length + d.pend.length ≤ 900) {B : Option Addr} {k : Nat} (number place f : Int) (cs : List CeV) (hs : SlC W B k cs) (hl : l.length < 100) (hp : place < 100) :
 Calls Tryz.prog 10 #[.pointer (some ⟨gv, 0, none⟩), .int .i64 number, .int .i64 place, cv f B cs.length k] W fun e W' => ∃ A' c', e = .returned (.tuple #[.agg (pta (vadd svl Sv.nil (fun x => ⟨A', c', x⟩) ⟨d, l⟩ number place (f, cs.map ceOf)).1), errv (vadd svl Sv.nil (fun x => ⟨A', c', x⟩) ⟨d, l⟩ number place (f, cs.map ceOf)).2.2]) ∧ Va W S W' ∧ Vs W' (grow S W W') g gv (vadd svl Sv.nil (fun x => ⟨A', c', x⟩) ⟨d, l⟩ number place (f, cs.map ceOf)).2.1.d l := by
 obtain ⟨q, gs, lv, E, cap, hg, rfl, hV, hS⟩ := h
 refine (VAdd_any hV hG hfo hd9 number place f cs hs (by rwa [mvs_len] at hl) hp).mono ?_
 rintro e W' ⟨A', c', rfl, hO⟩
 exact ⟨A', c', rfl, hO.vgx.va hg hS⟩
theorem LCommit (h : Vs W S g gv d l) (hG : Shg W) (hfo : Fok d) (hd9 : d.sure.length + d.pend.length ≤ 900) (hl9 : l.length ≤ 98) {A : Option Addr} {c : Nat} (x : Mf) (hsp : SlP W A c x.2.2.2.2.2) (hI : MfI x) (hps : x.2.2.2.2.2.length ≤ 99) :
 Calls Tryz.prog 14 #[.pointer (some ⟨gv, 0, none⟩), .agg (mfa x.1 x.2.1 x.2.2.1 x.2.2.2.1 x.2.2.2.2.1 A x.2.2.2.2.2.length c)] W fun e W' => ∃ A' c', e = .returned (errv (vcommit svl Sv.nil Sv.l (fun b => ⟨A', c', b⟩) ⟨d, l⟩ x).2) ∧ Va W S W' ∧ Vs W' (grow S W W') g gv (vcommit svl Sv.nil Sv.l (fun b => ⟨A', c', b⟩) ⟨d, l⟩ x).1.d (vcommit svl Sv.nil Sv.l (fun b => ⟨A', c', b⟩) ⟨d, l⟩ x).1.l := by
 obtain ⟨q, gs, lv, E, cap, hg, rfl, hV, hS⟩ := h
 refine (VCommit_any hV hG hfo hd9 (by rwa [mvs_len] at hl9) x.1 x.2.1 x.2.2.1 x.2.2.2.1 x.2.2.2.2.1 x.2.2.2.2.2 hsp hI hps).mono ?_
 rintro e W' ⟨A', c', lv', rfl, hm, hO⟩
 have h1 := hO.va hg hS
 rw [hm.out] at h1
 exact ⟨A', c', rfl, h1⟩
theorem LRead (h : Vs W S g gv d l) (hG : Shg W) (hF : Few l) (a : Int) (ha : I64 a) : Calls Tryz.prog 15 #[.pointer (some ⟨gv, 0, none⟩), .int .i64 a] W (GivesRd W (vread Sv.l ⟨d, l⟩ a)) := by
 obtain ⟨q, gs, lv, E, cap, hg, rfl, hV, hS⟩ := h
 exact VRead_any hV hG hF a ha
theorem LGet (h : Vs W S g gv d l) (hG : Shg W) (hF : Few l) (number place : Int) : Calls Tryz.prog 18 #[.pointer (some ⟨gv, 0, none⟩), .int .i64 number, .int .i64 place] W (GivesSgN W (vget Sv.l ⟨d, l⟩ number place)) := by
 obtain ⟨q, gs, lv, E, cap, hg, rfl, hV, hS⟩ := h
 exact VGet_any hV hG number place (by have := hF.len; rw [mvs_len] at this; omega) (fun x hx => by have := hF.ps _ (hF.snd hx); omega)
theorem LChain (h : Vs W S g gv d l) (hF : Few l) : Calls Tryz.prog 11 #[.pointer (some ⟨gv, 0, none⟩)] W fun e W' => ∃ A c m, e = .returned (.slice A (List.length m) c) ∧ Hid (mvs m = l) ∧ NewM W' W.heap.size A c m ∧ Below W.heap.size W W' := by
 obtain ⟨q, gs, lv, E, cap, hg, rfl, hV, hS⟩ := h
 exact VChain_any hV (by have := hF.len; rw [mvs_len] at this; omega) (fun x hx => by have := hF.ps _ (hF.snd hx); omega)
end
/-! ### what adding and committing leave of a disk -/
theorem vadd_fok {d : Dk Sv} {l : List Mf} {number place : Int} {s : Sg} {enc : Bs → Sv} (h : Fok d) : Fok (vadd svl Sv.nil enc ⟨d, l⟩ number place s).2.1.d := by
 unfold vadd
 split
 · exact h
 · split
   · exact h
   · split <;> exact h.put _ _
theorem vadd_grow {d : Dk Sv} {l : List Mf} {number place : Int} {s : Sg} {enc : Bs → Sv} : (vadd svl Sv.nil enc ⟨d, l⟩ number place s).2.1.d.sure.length + (vadd svl Sv.nil enc ⟨d, l⟩ number place s).2.1.d.pend.length ≤ d.sure.length + d.pend.length + 4 := by
 unfold vadd
 split
 · exact Nat.le_add_right _ _
 · split
   · exact Nat.le_add_right _ _
   · split <;> exact sPut_len _ _ _ _ _
theorem vcommit_fok {d : Dk Sv} {l : List Mf} {x : Mf} {enc : Bs → Sv} (h : Fok d) : Fok (vcommit svl Sv.nil Sv.l enc ⟨d, l⟩ x).1.d := by
 unfold vcommit
 split
 · exact h
 · split
   · exact h
   · split <;> exact h.put _ _
end
end Go.Proofs.YtajfnmohlnkncaaGreatDoor
