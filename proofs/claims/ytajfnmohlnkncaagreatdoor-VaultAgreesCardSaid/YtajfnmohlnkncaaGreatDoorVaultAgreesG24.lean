/- WHAT IT HOLDS: a disk whose files all have names, plainly; how much an opened store's disk holds. | WHAT IT HOLDS: an act done to a disk and to the document's: walked. | WHAT IT HOLDS: a vault at large: the blocks that it hangs on; its acts turn nothing else. | WHAT IT HOLDS: vault.held. | WHAT IT HOLDS: manifests appended, cloned. | WHAT IT HOLDS: manifest.Copy. | WHAT IT HOLDS: vault.Chain. | WHAT IT HOLDS: an error beside nil, as a Bool. | WHAT IT HOLDS: an error compared with the number 4. | WHAT IT HOLDS: the law ManifestFinds, walked. | WHAT IT HOLDS: vault.Drop. -/
import Derived.Test.YtajfnmohlnkncaaGreatDoorVaultAgreesG01
import Derived.Test.YtajfnmohlnkncaaGreatDoorVaultAgreesG16
import Derived.Test.YtajfnmohlnkncaaGreatDoorVaultAgreesG17
import Derived.Test.YtajfnmohlnkncaaGreatDoorVaultAgreesG18
import Derived.Test.YtajfnmohlnkncaaGreatDoorVaultAgreesG08
import Derived.Deep.CutBlock
import Derived.Deep.DeepCutAuto
import Derived.Test.YtajfnmohlnkncaaGreatDoorVaultAgreesG23
import Derived.Test.YtajfnmohlnkncaaGreatDoorVaultAgreesG09
import Derived.Test.YtajfnmohlnkncaaGreatDoorVaultAgreesG22
import Derived.Test.YtajfnmohlnkncaaGreatDoorVaultAgreesG13
import Derived.Test.YtajfnmohlnkncaaGreatDoorVaultAgreesG10
import Derived.Test.YtajfnmohlnkncaaGreatDoorVaultAgreesG06
import Derived.Great.BuildSlice
import Derived.Test.YtajfnmohlnkncaaGreatDoorVaultAgreesG02
import Derived.LaidEql
namespace Go.Proofs.YtajfnmohlnkncaaGreatDoor
section
section
variable {α : Type} {d : Dk α}
/-! ### how much there is -/
theorem andThen_len {r : Dk α × Nat} {f : Dk α → Dk α × Nat} {k m : Nat} (h : r.1.sure.length + r.1.pend.length ≤ k) (hkm : k ≤ m) (hf : ∀ d : Dk α, d.sure.length + d.pend.length ≤ k → (f d).1.sure.length + (f d).1.pend.length ≤ m) : (andThen r f).1.sure.length + (andThen r f).1.pend.length ≤ m := by
 unfold andThen
 split
 · omega
 · exact hf _ h
theorem sPut_len (len : α → Nat) (z : α) (d : Dk α) (n : Bs) (v : α) : (sPut len z d n v).1.sure.length + (sPut len z d n v).1.pend.length ≤ d.sure.length + d.pend.length + 4 := by
 unfold sPut
 split
 · dsimp only; omega
 · exact andThen_len (opd_len (Opd.write len d _ v) (Nat.le_refl _)) (by omega) fun d h => andThen_len (opd_len (Opd.sync d) h) (by omega) fun d h => andThen_len (opd_len (Opd.rename z d _ _) h) (by omega) fun d h => opd_len (Opd.sync d) h
theorem sSweep_len {z : α} : ∀ (l : List Bs) (d : Dk α) (b : Bool), (sSweep z l d b).1.sure.length + (sSweep z l d b).1.pend.length ≤ d.sure.length + d.pend.length + l.length
 | [], d, b => Nat.le_refl _
 | n :: r, d, b => by
  have h1 := opd_len (Opd.remove z d n) (Nat.le_refl _)
  have h2 := sSweep_len (z := z) r (dRemove z d n).1 true
  have h3 := sSweep_len (z := z) r d b
  unfold sSweep
  split
  · split
    · dsimp only; simp only [List.length_cons]; omega
    · simp only [List.length_cons]; omega
  · simp only [List.length_cons]; omega
theorem gdel_le {l : List (Bs × α)} (k : Bs) : (gdel k l).length ≤ l.length := List.length_filter_le _ _
theorem remove_shown {z : α} (d : Dk α) (n : Bs) : (dRemove z d n).1.shown.length ≤ d.shown.length := by
 obtain ⟨s1, s2, -, -⟩ := dWorks_same d
 have hs : (dWorks d).1.shown = d.shown := by unfold Dk.shown; rw [s1, s2]
 unfold dRemove
 split
 · rw [hs]; exact Nat.le_refl _
 · split
   · dsimp only; rw [hs]; exact Nat.le_refl _
   · split
     · dsimp only; rw [hs]; exact Nat.le_refl _
     · dsimp only
       rw [shown_add, hs]
       cases hg : gget n d.shown with
       | none => rw [fdo_n (show (2 : Nat) ≠ 0 by decide) hg]; exact Nat.le_refl _
       | some v => rw [fdo_d (show (2 : Nat) ≠ 0 by decide) (show (2 : Nat) ≠ 1 by decide) hg]; exact gdel_le n
theorem sSweep_shown {z : α} : ∀ (l : List Bs) (d : Dk α) (b : Bool), (sSweep z l d b).1.shown.length ≤ d.shown.length
 | [], d, b => Nat.le_refl _
 | n :: r, d, b => by
  have h1 := remove_shown (z := z) d n
  have h2 := sSweep_shown (z := z) r (dRemove z d n).1 true
  have h3 := sSweep_shown (z := z) r d b
  unfold sSweep
  split
  · split
    · exact h1
    · omega
  · exact h3
theorem sSweep_same {z : α} : ∀ (l : List Bs) (d : Dk α) (b : Bool), (sSweep z l d b).2.1 = 0 → (sSweep z l d b).2.2 = false → b = false ∧ (sSweep z l d b).1 = d
 | [], d, b, _, h => ⟨h, rfl⟩
 | n :: r, d, b, h0, h => by
  have h2 := sSweep_same (z := z) r (dRemove z d n).1 true
  have h3 := sSweep_same (z := z) r d b
  by_cases hb : isBegun n = true
  · by_cases h9 : (dRemove z d n).2 ≠ 0
    · have e : sSweep z (n :: r) d b = ((dRemove z d n).1, (dRemove z d n).2, b) := by
       conv => lhs; unfold sSweep
       rw [if_pos hb, if_pos h9]
      rw [e] at h0
      exact absurd h0 h9
    · have e : sSweep z (n :: r) d b = sSweep z r (dRemove z d n).1 true := by
       conv => lhs; unfold sSweep
       rw [if_pos hb, if_neg h9]
      rw [e] at h0 h
      exact absurd (h2 h0 h).1 (by simp)
  · have e : sSweep z (n :: r) d b = sSweep z r d b := by
     conv => lhs; unfold sSweep
     rw [if_neg hb]
    rw [e] at h0 h ⊢
    exact h3 h0 h
theorem sOpen_len {z : α} {d : Dk α} (h : (sOpen z d).2 = 0) : (sOpen z d).1.sure.length + (sOpen z d).1.pend.length ≤ d.sure.length + d.pend.length := by
 have hsh : d.shown.length ≤ d.sure.length + d.pend.length := flen_dos d.sure d.pend
 have h1 := sSweep_shown (z := z) (names d.shown) d false
 have h2 := sSweep_same (z := z) (names d.shown) d false
 unfold sOpen at *
 generalize sSweep z (names d.shown) d false = s at *
 split at h
 · cases h
 · rename_i hd
   rw [if_neg hd]
   split at h
   · rename_i h0
     exact absurd h h0
   · rename_i h0
     rw [if_neg h0]
     have h0' : s.2.1 = 0 := Decidable.byContradiction h0
     cases hb : s.2.2 with
     | false =>
      rw [if_neg (by simp)]
      obtain ⟨-, e⟩ := h2 h0' hb
      dsimp only
      rw [e]
      exact Nat.le_refl _
     | true =>
      rw [hb, if_pos rfl] at h
      rw [if_pos rfl]
      unfold dSync at *
      split at h
      · rename_i h9
        exact absurd h h9
      · rename_i h9
        rw [if_neg h9]
        dsimp only
        simp
        omega
end
theorem Fok.andThen {r : Dk Sv × Nat} {f : Dk Sv → Dk Sv × Nat} (h : Fok r.1) (hf : ∀ d, Fok d → Fok (f d).1) : Fok (Go.Proofs.YtajfnmohlnkncaaGreatDoor.andThen r f).1 := by
 unfold Go.Proofs.YtajfnmohlnkncaaGreatDoor.andThen
 split
 · exact h
 · exact hf _ h
theorem Fok.put {d : Dk Sv} (h : Fok d) (n : Bs) (v : Sv) : Fok (sPut svl Sv.nil d n v).1 := by
 unfold sPut
 split
 · exact h
 · exact Fok.andThen (h.opd (Opd.write svl d _ v)) fun d h => Fok.andThen (h.opd (Opd.sync d)) fun d h => Fok.andThen (h.opd (Opd.rename Sv.nil d _ _)) fun d h => h.opd (Opd.sync d)
end
section
open Go.RowKit Go.Maps Go.Sort
attribute [local go_sem ↓] Go.wp_at_zero Go.wp_at_succ
theorem Own.sameH {w w' : World} {B size n c : Nat} {e : TypeId} {A : Option Addr} {xs : List Value} (h : Own w B e size A n c xs) (hs : ∀ k, A.map (·.block) = some k → w'.heap[k]? = w.heap[k]?) : Own w' B e size A n c xs := by
 obtain ⟨h1, h2⟩ := h
 refine ⟨h1, ?_⟩
 rcases h2 with h2 | ⟨g, cap, cur, hv, hg, hh, r⟩
 · exact .inl h2
 · have hA : A = some ⟨g, 0, none⟩ := by injection hv
   exact .inr ⟨g, cap, cur, hv, hg, (hs g (by rw [hA]; rfl)).trans hh, r⟩
section
variable {P : Nat → Prop} {w W W' : World} {q0 q q' : Fp} {d d' : Dk Sv} {O : Option Addr} {co : Nat} {own : Bs} {m m' : Dk Bs} {A A' B B' : Option Addr} {c c' k k' : Nat} {x : DA}
end
end
section
open Go.RowKit Go.Shelf
def Vtc (q : Fp) (d : Dk Sv) (gv gs : Nat) (l : List MfV) (E : Option Addr) (i : Nat) : Prop := Tc q d i ∨ i = gv ∨ i = gs ∨ E.map (·.block) = some i ∨ ∃ x ∈ l, x.2.1.map (·.block) = some i
theorem VtM.lt {w : World} {gv gs : Nat} {q : Fp} {d : Dk Sv} {l : List MfV} {E : Option Addr} {cap i : Nat} (h : VtM w gv gs q d l E cap) (hi : Vtc q d gv gs l E i) : i < w.heap.size := by
 rcases hi with hi | rfl | rfl | hi | ⟨x, hx, hi⟩
 · exact h.st.dsk.lt hi
 · exact h.bl.lt
 · exact h.st.blk.lt
 · exact (h.al i hi).1
 · exact (h.ap x hx i hi).1
structure Frv (q : Fp) (gv : Nat) (w w' : World) : Prop where
 os : w'.os = w.os
 tape : w'.tape = w.tape
 output : w'.output = w.output
 size : w.heap.size ≤ w'.heap.size
 block : ∀ i, i < w.heap.size → ¬ q.M i → i ≠ gv → w'.heap[i]? = w.heap[i]?
def Vgx (w : World) (gv gs : Nat) (q : Fp) (d d' : Dk Sv) (l : List MfV) (E : Option Addr) (l' : List MfV) (w' : World) : Prop :=
 ∃ q' E' cap', q'.g = q.g ∧ VtM w' gv gs q' d' l' E' cap' ∧ Frv q gv w w' ∧ ∀ i, Vtc q' d' gv gs l' E' i → Vtc q d gv gs l E i ∨ w.heap.size ≤ i
theorem Vgo.vgx {w w' : World} {gv gs : Nat} {q : Fp} {d d' : Dk Sv} {l : List MfV} {E : Option Addr} {cap : Nat} (h : Vgo w gv gs q d d' l E cap w') : Vgx w gv gs q d d' l E l w' := by
 obtain ⟨q', hg, hV, hF, hM, hT⟩ := h
 refine ⟨q', E, cap, hg, hV, ⟨hF.os, hF.tape, hF.output, hF.size, fun i hi hn _ => hF.block i hi hn⟩, fun i hi => ?_⟩
 rcases hi with hi | hi
 · exact (hT i hi).imp .inl id
 · exact .inl (.inr hi)
/-! ### at large -/
structure Va (W : World) (S : Nat → Prop) (W' : World) : Prop where
 os : W'.os = W.os
 tape : W'.tape = W.tape
 output : W'.output = W.output
 size : W.heap.size ≤ W'.heap.size
 block : ∀ i, i < W.heap.size → ¬ S i → W'.heap[i]? = W.heap[i]?
def grow (S : Nat → Prop) (W W' : World) (i : Nat) : Prop := S i ∨ W.heap.size ≤ i ∧ i < W'.heap.size
def Kin (w W : World) (S : Nat → Prop) : Prop := ∀ i, S i → w.heap.size ≤ i ∧ i < W.heap.size
theorem Kin.grow {w W W' : World} {S : Nat → Prop} (h : Kin w W S) (hs : W.heap.size ≤ W'.heap.size) (hw : w.heap.size ≤ W.heap.size) : Kin w W' (grow S W W') := fun i hi => by
 rcases hi with hi | hi
 · have := h i hi
   omega
 · omega
theorem Kin.more {w W W' : World} {S : Nat → Prop} (h : Kin w W S) (hs : W.heap.size ≤ W'.heap.size) : Kin w W' S := fun i hi => by
 have := h i hi
 omega
theorem Va.below {w W W' : World} {S : Nat → Prop} (h : Va W S W') (hb : Below w.heap.size w W) (hS : Kin w W S) : Below w.heap.size w W' :=
 ⟨h.os.trans hb.os, h.tape.trans hb.tape, h.output.trans hb.output, Nat.le_trans hb.size h.size, fun i hi => (h.block i (Nat.lt_of_lt_of_le hi hb.size) (fun hs => by have := (hS i hs).1; omega)).trans (hb.block i hi)⟩
theorem Va.of_below {W W' : World} {S : Nat → Prop} (hb : Below W.heap.size W W') : Va W S W' := ⟨hb.os, hb.tape, hb.output, hb.size, fun i hi _ => hb.block i hi⟩
theorem Va.blk {W W' : World} {S : Nat → Prop} (h : Va W S W') {g : Nat} {t : TypeId} {cs : Array Value} (hB : Blk W g t cs) (hn : ¬ S g) : Blk W' g t cs := (h.block g hB.lt hn).trans hB
structure Mo (w W : World) (S : Nat → Prop) (L : BL) (G : List (Option Nat)) : Prop where
 mm : Mm w W L G
 kin : Kin w W S
 off : ∀ x ∈ L, ¬ S x.1
 offG : ∀ g, some g ∈ G → ¬ S g
section
variable {w W W' : World} {S : Nat → Prop} {L : BL} {G : List (Option Nat)} {g : Nat} {t : TypeId} {cs : Array Value}
theorem Mo.alloc (h : Mo w W S L G) (cs : Array Value) (t : TypeId) : Mo w (W.alloc (.cells cs t)) S ((W.heap.size, t, cs) :: L) G :=
 ⟨h.mm.alloc cs t, h.kin.more (by simp), fun x hx => by
  rcases List.mem_cons.1 hx with rfl | hx
  · intro hS
    have h9 := (h.kin _ hS).2
    exact Nat.lt_irrefl _ h9
  · exact h.off x hx, h.offG⟩
theorem Mo.allocO (h : Mo w W S L G) (o : Obj) : Mo w (W.alloc o) S L G := ⟨h.mm.allocO o, h.kin.more (by simp), h.off, h.offG⟩
theorem Mo.call (h : Mo w W S L G) (hb : Below W.heap.size W W') : Mo w W' S L G := ⟨h.mm.call hb, h.kin.more hb.size, h.off, h.offG⟩
theorem Mo.sub (h : Mo w W S L G) {L' : BL} (hL : L'.Sublist L) : Mo w W S L' G := ⟨h.mm.sub hL, h.kin, fun x hx => h.off x (hL.subset hx), h.offG⟩
theorem Mo.act (h : Mo w W S L G) (hV : Va W S W') : Mo w W' (grow S W W') L G := by
 have hbl := hV.below h.mm.bel h.kin
 refine ⟨⟨hbl, fun x hx => hV.blk (h.mm.blk x hx) (h.off x hx), h.mm.low, h.mm.dis, fun g hg => ⟨Nat.lt_of_lt_of_le (h.mm.far g hg).1 hV.size, (h.mm.far g hg).2⟩⟩, h.kin.grow hV.size h.mm.bel.size, fun x hx hS => ?_, fun g hg hS => ?_⟩
 · rcases hS with hS | hS
   · exact h.off x hx hS
   · have := (h.mm.blk x hx).lt
     omega
 · rcases hS with hS | hS
   · exact h.offG g hg hS
   · have := (h.mm.far g hg).1
     omega
theorem Mo.b0 {L : BL} (h : Mo w W S ((g, t, cs) :: L) G) : Blk W g t cs := h.mm.b0
end
def Ds (W : World) (S : Nat → Prop) (g : Nat) (d : Dk Sv) : Prop := ∃ q : Fp, q.g = g ∧ Dsk W q d ∧ ∀ i, Tc q d i → S i
def Vs (W : World) (S : Nat → Prop) (g gv : Nat) (d : Dk Sv) (l : List Mf) : Prop := ∃ (q : Fp) (gs : Nat) (lv : List MfV) (E : Option Addr) (cap : Nat), q.g = g ∧ mvs lv = l ∧ VtM W gv gs q d lv E cap ∧ ∀ i, Vtc q d gv gs lv E i → S i
section
variable {w W W' : World} {S : Nat → Prop} {g gv : Nat} {d : Dk Sv} {l : List Mf}
theorem Vs.below (h : Vs W S g gv d l) (hb : Below W.heap.size W W') : Vs W' S g gv d l := by
 obtain ⟨q, gs, lv, E, cap, h1, h2, h3, h4⟩ := h
 exact ⟨q, gs, lv, E, cap, h1, h2, h3.below hb, h4⟩
end
theorem vheld_step {dec : Sv → Bs} {d : Dk Sv} {n k : Nat} {ps : List Pt5} (hk : k < ps.length) : vheld dec d n k (ps.drop k) = (if (sGetL dec d (label n k)).2 ≠ 0 then (sGetL dec d (label n k)).2 else if (mholds ps[k] (sGetL dec d (label n k)).1).2 ≠ 0 then 11 else vheld dec d n (k + 1) (ps.drop (k + 1))) := by
 rw [List.drop_eq_getElem_cons hk]
 rfl
set_option maxRecDepth 100000 in
set_option maxHeartbeats 2000000 in
theorem VHeld_any {w : World} {gv gs : Nat} {q : Fp} {d : Dk Sv} {l : List MfV} {E : Option Addr} {cap : Nat} (h : VtM w gv gs q d l E cap) (hG : Shg w) {A : Option Addr} {c : Nat} (n : Nat) (f t r : Int) (dg : Dg) (ps : List Pt5) (hsl : SlP w A c ps) (hn : n < 100) (hps : ps.length ≤ 100) :
 Calls Tryz.prog 44 #[.pointer (some ⟨gv, 0, none⟩), .agg (mfa n f t r dg A ps.length c)] w fun e w' => e = .returned (errv (vheld Sv.l d n 0 ps)) ∧ Below w.heap.size w w' := by
 have hM := (Mm.start w).alloc (mfa n f t r dg A ps.length c) 46
 have HS := Lib.hid (fun W (hh : Below w.heap.size w W) => (h.below hh).two)
 have HG := Lib.hid (fun W (hh : Below w.heap.size w W) => hG.below hh)
 have HP := Lib.hid (fun W (hh : Below w.heap.size w W) => hsl.below hh)
 have HGt := fun k (hk : k < 100) => Lib.hid (fun W (hh : Below w.heap.size w W) => SGet_any (h.st.below hh) (label n k) (by rw [label_len (by omega) (by omega)]; decide))
 have hsh := fun k => h.st.dsk.short (label n k)
 have hmz := Lib.hid (mfa_size n f t r dg A ps.length c)
 clear h hG hsl
 go_enter Tryz.func44, Tryz.ntmps44
 go_upto_region 1 with (fail)
 refine gen1 (T := fun W => Mm w W [(w.heap.size, 46, mfa n f t r dg A ps.length c)] []) hM (fun w1 hM => ?_)
 obtain ⟨a0, a1, a2, a3, a4⟩ := BlM.five hM.b0
 go_wp2_with fail
 go_loopw [14] (fun y wr => ∃ k : Nat, k ≤ ps.length ∧ y = .int .i64 k ∧ Hid (vheld Sv.l d n k (ps.drop k) = vheld Sv.l d n 0 ps) ∧ Mm w wr [(w.heap.size, 46, mfa n f t r dg A ps.length c)] []) (fun y w => ps.length - (intOf y).toNat)
 case atStart => exact ⟨0, Nat.zero_le _, rfl, (show _ = _ from rfl), hM⟩
 case round =>
  obtain ⟨k, hk, rfl, hall, hMr⟩ := hrel
  by_cases hlt : k < ps.length
  · obtain ⟨ad, b, o, rfl, had, hcc⟩ := (HP.out _ hMr.bel).at hlt
    have HV := Lib.hid ((vheld_step (dec := Sv.l) (d := d) (n := n) hlt).symm.trans hall.out)
    have HL := Lib.hid (fun W => Label_any n k W hn (by omega))
    have HGk := HGt k (by omega)
    have hsk := hsh k
    have hgb := Lib.hid (show ((sGet d (label n k)).1.map Sv.l).getD [] = (sGetL Sv.l d (label n k)).1 from rfl)
    have hgn := Lib.hid (show (sGet d (label n k)).2 = (sGetL Sv.l d (label n k)).2 from rfl)
    rw [hgb.out, hgn.out] at HGk
    generalize sGetL Sv.l d (label n k) = rr at *
    obtain ⟨rb, rn⟩ := rr
    generalize label n k = lb at *
    dsimp only at HGk HV hsk
    generalize ps[k] = p at *
    have hpp := Lib.hid (pta_size p)
    have hpa := Lib.hid (pta_all p)
    have HCC := Lib.hid hcc
    clear hgb hgn hcc hall HGt hsh hM
    go_upto_region 4 with (first | (refine wpl_loadG rfl 37 _ rfl ⟨b, o, none⟩ (pta p) rfl HCC.out _ Tryz.underlying37 rfl (by rw [hpp.out]; kernel_rfl) ?_) | (refine wpl_storeN rfl 37 _ _ rfl _ (pta p) 37 rfl rfl (by rw [hpp.out]; kernel_rfl) (by rw [hpp.out]; rfl) hpa.out ?_))
    refine gen1 (T := fun W => Mm w W [(wr.heap.size, 37, pta p), (w.heap.size, 46, mfa n f t r dg (some ad) ps.length c)] []) (hMr.alloc _ _) (fun w3 hM => ?_)
    generalize wr.heap.size = g8 at *
    clear hMr
    have hMd := hM.drew
    clear hM
    refine wp_region_seq (S := (fun W => Mm w W [(g8, 37, pta p), (w.heap.size, 46, mfa n f t r dg (some ad) ps.length c)] [])) [(0, true), (1, true), (2, true), (3, true), (4, true), (5, true), (6, true), (7, false), (8, false), (9, true), (10, true), (11, true), (12, true), (13, true)] (by kernel_rfl) (by kernel_rfl) (fun _ _ _ _ _ h => h) ?_ (fun hHeld => ?_)
    · first | with_reducible exact hMd | with_reducible exact hHeld
    refine gen0 (T := fun W => ((fun W => Mm w W [(g8, 37, pta p), (w.heap.size, 46, mfa n f t r dg (some ad) ps.length c)] [])) W ∧ Below w.heap.size w W ∧ True) ?_ (fun wq1 hT => ?_)
    · exact ⟨by (with_reducible exact hMd), by (with_reducible exact hMd.bel), trivial⟩
    (try clear f0 f1 f2 f3 f4 f5 f6 f7 f8 f9 f10 f11)
    obtain ⟨hHeld, f0, -⟩ := hT
    refine seq_take (oi := ⟨some 20, _, _, _, _, _⟩) (v := ?_) rfl (Or.inl ⟨by kernel_rfl, ?_⟩) (by assumption) ?_
    rotate_left
    · (intro wS hSw; (try dsimp only at hSw); obtain ⟨z0, z1⟩ := HS.out _ hSw.bel; obtain ⟨b0, b1, b2, b3, b4⟩ := BlM.five hSw.b1; clear hSw; refine execV (fun rho hk1 hk2 hk3 hk => ?_); have e0_ := (hk 0).trans (evalP fg0); clear hk; go_simp; (try with_reducible rfl))
    ((try simp only [Act.put, pS0, pS1, pS2]))
    refine seq_take (oi := ⟨some 21, _, _, _, _, _⟩) (v := ?_) rfl (Or.inl ⟨by kernel_rfl, ?_⟩) (by assumption) ?_
    rotate_left
    · (intro wS hSw; (try dsimp only at hSw); obtain ⟨z0, z1⟩ := HS.out _ hSw.bel; obtain ⟨b0, b1, b2, b3, b4⟩ := BlM.five hSw.b1; clear hSw; refine execV (fun rho hk1 hk2 hk3 hk => ?_); have e20_ := (hk 20).trans (evalP (fg8 (fg8 (fg1 (fg1 (fg1 (fg1 fg0))))))); clear hk; go_simp; (try with_reducible rfl))
    ((with_reducible refine wpSeq_put ?_; go_big_move))
    refine seq_take (oi := ⟨some 22, _, _, _, _, _⟩) (v := ?_) rfl (Or.inl ⟨by kernel_rfl, ?_⟩) (by assumption) ?_
    rotate_left
    · (intro wS hSw; (try dsimp only at hSw); obtain ⟨z0, z1⟩ := HS.out _ hSw.bel; obtain ⟨b0, b1, b2, b3, b4⟩ := BlM.five hSw.b1; clear hSw; refine execV (fun rho hk1 hk2 hk3 hk => ?_); have e21_ := (hk 21).trans (evalP (fg8 (fg8 (fg1 (fg1 (fg1 (fg1 (fg1 fg0)))))))); clear hk; go_simp; (try with_reducible rfl))
    ((with_reducible refine wpSeq_put ?_; go_big_move))
    refine seq_take (oi := ⟨some 23, _, _, _, _, _⟩) (v := ?_) rfl (Or.inl ⟨by kernel_rfl, ?_⟩) (by assumption) ?_
    rotate_left
    · (intro wS hSw; (try dsimp only at hSw); obtain ⟨z0, z1⟩ := HS.out _ hSw.bel; obtain ⟨b0, b1, b2, b3, b4⟩ := BlM.five hSw.b1; clear hSw; refine execV (fun rho hk1 hk2 hk3 hk => ?_); have e22_ := (hk 22).trans (evalP (fg8 (fg8 (fg1 (fg1 (fg1 (fg1 (fg1 (fg1 fg0))))))))); clear hk; go_simp; (try with_reducible rfl))
    ((with_reducible refine wpSeq_put ?_; go_big_move))
    refine seq_take (oi := ⟨some 24, _, _, _, _, _⟩) (v := ?_) rfl (Or.inl ⟨by kernel_rfl, ?_⟩) (by assumption) ?_
    rotate_left
    · (intro wS hSw; (try dsimp only at hSw); obtain ⟨z0, z1⟩ := HS.out _ hSw.bel; obtain ⟨b0, b1, b2, b3, b4⟩ := BlM.five hSw.b1; clear hSw; refine execV (fun rho hk1 hk2 hk3 hk => ?_); have e3_ := (hk 3).trans (evalP (fg1 (fg1 (fg1 fg0)))); clear hk; go_simp; (try with_reducible rfl))
    ((with_reducible refine wpSeq_put ?_; go_big_move))
    refine seq_take (oi := ⟨some 25, _, _, _, _, _⟩) (v := ?_) rfl (Or.inl ⟨by kernel_rfl, ?_⟩) (by assumption) ?_
    rotate_left
    · (intro wS hSw; (try dsimp only at hSw); obtain ⟨z0, z1⟩ := HS.out _ hSw.bel; obtain ⟨b0, b1, b2, b3, b4⟩ := BlM.five hSw.b1; clear hSw; refine execV (fun rho hk1 hk2 hk3 hk => ?_); have e24_ := (hk 24).trans (evalP (fg8 (fg8 (fg8 fg0)))); clear hk; go_simp; (try with_reducible rfl))
    ((with_reducible refine wpSeq_put ?_; go_big_move))
    refine seq_take (oi := ⟨some 26, _, _, _, _, _⟩) (v := ?_) rfl (Or.inl ⟨by kernel_rfl, ?_⟩) (by assumption) ?_
    rotate_left
    · (intro wS hSw; (try dsimp only at hSw); obtain ⟨z0, z1⟩ := HS.out _ hSw.bel; obtain ⟨b0, b1, b2, b3, b4⟩ := BlM.five hSw.b1; clear hSw; refine execV (fun rho hk1 hk2 hk3 hk => ?_); have e5_ := (hk 5).trans (evalP (fg1 (fg1 (fg1 (fg1 (fg1 fg0)))))); clear hk; go_simp; (try with_reducible rfl))
    ((with_reducible refine wpSeq_put ?_; go_big_move))
    refine seq_step (o := ⟨some 27, _, _, _, _, _⟩) rfl (fun K hK => ?_)
    with_reducible refine wantedP (by kernel_rfl) ?_
    (go_big_op)
    (refine (HL.out _).mono ?_; rintro e w12 ⟨rfl, hb9⟩)
    go_wp2_with fail
    refine hK.out _ _ ?_ (fun _ => ?_)
    · ((try dsimp only); (with_reducible exact hHeld.call hb9))
    clear hK K
    ((try simp only [Act.put, pS0, pS1, pS2]))
    refine gen0 (T := fun W => ((fun W => Mm w W [(g8, 37, pta p), (w.heap.size, 46, mfa n f t r dg (some ad) ps.length c)] [])) W ∧ Below w.heap.size w W ∧ True) ?_ (fun wq2 hT => ?_)
    · exact ⟨by (with_reducible exact hHeld.call hb9), by (exact bel_call f0 hb9), trivial⟩
    (try clear f0 f1 f2 f3 f4 f5 f6 f7 f8 f9 f10 f11)
    obtain ⟨hHeld, f0, -⟩ := hT
    refine seq_step (o := ⟨some 28, _, _, _, _, _⟩) rfl (fun K hK => ?_)
    with_reducible refine wantedP (by kernel_rfl) ?_
    (go_big_op)
    (refine (HGk.out _ f0).mono ?_; rintro e w12 ⟨A9, c9, m9, rfl, hm9, ho9, hb9⟩)
    go_wp2_with fail
    refine hK.out _ _ ?_ (fun _ => ?_)
    · ((try dsimp only); (with_reducible exact hHeld.call hb9))
    clear hK K
    ((try simp only [Act.put, pS0, pS1, pS2]))
    refine gen0 (T := fun W => ((fun W => Mm w W [(g8, 37, pta p), (w.heap.size, 46, mfa n f t r dg (some ad) ps.length c)] [])) W ∧ Below w.heap.size w W ∧ SlB W A9 c9 m9 ∧ True) ?_ (fun wq3 hT => ?_)
    · exact ⟨by (with_reducible exact hHeld.call hb9), by (exact bel_call f0 hb9), by (exact ho9.sl), trivial⟩
    (try clear f0 f1 f2 f3 f4 f5 f6 f7 f8 f9 f10 f11)
    obtain ⟨hHeld, f0, f1, -⟩ := hT
    refine seq_take (oi := ⟨some 19, _, _, _, _, _⟩) (v := ?_) rfl (Or.inl ⟨by kernel_rfl, ?_⟩) (by assumption) ?_
    rotate_left
    · (intro wS hSw; (try dsimp only at hSw); obtain ⟨z0, z1⟩ := HS.out _ hSw.bel; obtain ⟨b0, b1, b2, b3, b4⟩ := BlM.five hSw.b1; clear hSw; refine execV (fun rho hk1 hk2 hk3 hk => ?_); have e28_ := (hk 28).trans (evalP (fg8 (fg8 (fg8 (fg1 (fg1 (fg1 (fg1 fg0)))))))); clear hk; go_simp; (try with_reducible rfl))
    ((with_reducible refine wpSeq_put ?_; go_big_move))
    refine seq_take (oi := ⟨some 29, _, _, _, _, _⟩) (v := ?_) rfl (Or.inl ⟨by kernel_rfl, ?_⟩) (by assumption) ?_
    rotate_left
    · (intro wS hSw; (try dsimp only at hSw); obtain ⟨z0, z1⟩ := HS.out _ hSw.bel; obtain ⟨b0, b1, b2, b3, b4⟩ := BlM.five hSw.b1; clear hSw; refine execV (fun rho hk1 hk2 hk3 hk => ?_); have e19_ := (hk 19).trans (evalP (fg8 (fg8 (fg1 (fg1 (fg1 fg0)))))); clear hk; go_simp; (try with_reducible rfl))
    ((with_reducible refine wpSeq_put ?_; go_big_move))
    refine seq_take (oi := ⟨some 30, _, _, _, _, _⟩) (v := ?_) rfl (Or.inl ⟨by kernel_rfl, ?_⟩) (by assumption) ?_
    rotate_left
    · (intro wS hSw; (try dsimp only at hSw); obtain ⟨z0, z1⟩ := HS.out _ hSw.bel; obtain ⟨b0, b1, b2, b3, b4⟩ := BlM.five hSw.b1; clear hSw; refine execV (fun rho hk1 hk2 hk3 hk => ?_); have e19_ := (hk 19).trans (evalP (fg8 (fg8 (fg1 (fg1 (fg1 fg0)))))); clear hk; go_simp; (try with_reducible rfl))
    ((with_reducible refine wpSeq_put ?_; go_big_move))
    refine seq_take (oi := ⟨some 7, _, _, _, _, _⟩) (v := ?_) rfl (Or.inl ⟨by kernel_rfl, ?_⟩) (by assumption) ?_
    rotate_left
    · (intro wS hSw; (try dsimp only at hSw); obtain ⟨z0, z1⟩ := HS.out _ hSw.bel; obtain ⟨b0, b1, b2, b3, b4⟩ := BlM.five hSw.b1; clear hSw; refine execV (fun rho hk1 hk2 hk3 hk => ?_); have e29_ := (hk 29).trans (evalP (fg8 (fg8 (fg8 (fg1 (fg1 (fg1 (fg1 (fg1 fg0))))))))); clear hk; go_simp; (try with_reducible rfl))
    ((with_reducible refine wpSeq_put ?_; go_big_move))
    refine seq_take (oi := ⟨some 8, _, _, _, _, _⟩) (v := ?_) rfl (Or.inl ⟨by kernel_rfl, ?_⟩) (by assumption) ?_
    rotate_left
    · (intro wS hSw; (try dsimp only at hSw); obtain ⟨z0, z1⟩ := HS.out _ hSw.bel; obtain ⟨b0, b1, b2, b3, b4⟩ := BlM.five hSw.b1; clear hSw; refine execV (fun rho hk1 hk2 hk3 hk => ?_); have e30_ := (hk 30).trans (evalP (fg8 (fg8 (fg8 (fg1 (fg1 (fg1 (fg1 (fg1 (fg1 fg0)))))))))); clear hk; go_simp; (try with_reducible rfl))
    ((with_reducible refine wpSeq_put ?_; go_big_move))
    refine seq_done ?_
    have hM := hHeld
    clear hHeld hMd HL HGk HS
    rcases errv_cases rn with ⟨h0, hev⟩ | ⟨ke, hk1, hke, hev⟩
    rotate_left
    · have HT := Lib.hid (show vheld Sv.l d n 0 ps = rn from by rw [← HV.out, if_pos (by omega)])
      have HEV := Lib.hid hev
      rw [hev]
      clear hev HV
      go_wp2_with fail
      go_ret
      exact ⟨by rw [HT.out, HEV.out]; rfl, hM.bel⟩
    · rw [hev]
      have HH := Lib.hid (MHolds_any (A := A9) (c := c9) p m9 _ (HG.out _ hM.bel) (by with_reducible assumption) (by rw [hm9.out]; omega))
      clear hev
      go_wp2_with (refine wpl_loadG rfl 37 _ rfl ⟨g8, 0, none⟩ (pta p) rfl hM.b0.cells _ Tryz.underlying37 rfl (by rw [hpp.out]; kernel_rfl) ?_)
      refine HH.out.mono ?_
      rintro e w5 ⟨A5, c5, m5, rfl, hm5, hN5, hb5⟩
      have hM5 := hM.call hb5
      clear HH hM
      rw [hm9.out] at hm5 ⊢
      generalize mholds p rb = x at *
      obtain ⟨⟨x0, x1⟩, x2⟩ := x
      dsimp only at hm5 HV ⊢
      rcases errv_cases x2 with ⟨h2, hev⟩ | ⟨ke, hk1, hke, hev⟩
      · have HT := Lib.hid (show vheld Sv.l d n (k + 1) (ps.drop (k + 1)) = vheld Sv.l d n 0 ps from by rw [← HV.out, if_neg (by omega), if_neg (by omega)])
        rw [hev]
        clear hev HV
        go_upto_region 8 with (fail)
        refine gen1 (T := fun W => Mm w W [(w.heap.size, 46, mfa n f t r dg (some ad) ps.length c)] []) ((hM5.alloc _ _).sub (by simp)) (fun w6 hM => ?_)
        clear hM5
        go_wp2_with fail
        go_roundw
        case rel => exact ⟨k + 1, hlt, by go_num, HT, hM⟩
        case measure => simp [intOf]; omega
      · have HT := Lib.hid (show vheld Sv.l d n 0 ps = 11 from by rw [← HV.out, if_neg (by omega), if_pos (by omega)])
        rw [hev]
        clear hev HV
        go_upto_region 8 with (fail)
        refine gen1 (T := fun W => Mm w W [(w.heap.size, 46, mfa n f t r dg (some ad) ps.length c)] []) ((hM5.alloc _ _).sub (by simp)) (fun w6 hM => ?_)
        clear hM5
        go_wp2_with fail
        go_ret
        exact ⟨by rw [HT.out]; rfl, hM.bel⟩
  · have hz : Hid (vheld Sv.l d n 0 ps = 0) := (show _ = _ from by rw [← hall.out, List.drop_eq_nil_of_le (by omega)]; rfl)
    obtain rfl : k = ps.length := by omega
    clear hall
    go_wp2_with fail
    go_ret
    exact ⟨by rw [hz.out]; rfl, hMr.bel⟩
end
section
open Go.RowKit Go.Shelf
attribute [local go_sem ↓] Go.wp_at_zero Go.wp_at_succ
theorem mf_info : (Tryz.prog.info? 46).map (fun i => (i.zero, i.size, i.bytes)) = some (some (.agg mza), 37, 88) := by kernel_rfl
theorem one_mvl (l : List MfV) : ∀ u ∈ l.flatMap mvl, u.oneCell' = true := by
 intro u hu
 simp only [List.mem_flatMap] at hu
 obtain ⟨x, _, hx⟩ := hu
 have h := mva_all x
 rw [Array.all_eq_true'] at h
 exact h u (by simpa [mva, mfa, mvl] using hx)
abbrev OwnM (w : World) (base : Nat) (A : Option Addr) (c : Nat) (l : List MfV) : Prop := Own w base 46 37 A l.length c (l.flatMap mvl)
theorem step_mans {w : World} {ops : Array Oper} {o : Oper} {a : Act} {K : Act → World → Prop} {Q : Exit → Act → World → Prop} {X : Prop} (hw : Region.wanted o (yielded ops a.tmps) = true) (s x : Operand)
 (ho : o.op = .call { callee := .builtin .append, args := #[s, x], argTypes := #[40, 40] })
 (base : Nat) (A : Option Addr) (c : Nat) (l : List MfV) (hs : a.eval s = .slice A l.length c) (hown : OwnM w base A c l)
 (A2 : Option Addr) (c2 n2 : Nat) (l2 : List MfV) (hn2 : n2 = l2.length) (hx : a.eval x = .slice A2 n2 c2) (hr : Sl w 37 A2 l2.length c2 (l2.flatMap mvl)) (hlen : l.length + l2.length ≤ 1000000000) (hbase : base ≤ w.heap.size)
 (h : ∀ A' c' (m : List MfV) w', Hid (m = l ++ l2) → OwnM w' base A' c' m → w.grownBy w' (A.map (·.block)) → Below base w w' → K (a.put o.dst (.slice A' m.length c')) w') :
 if Region.wanted o (yielded ops a.tmps) = true then Oper.wp Tryz.prog o a w K Q else X := by
 subst hn2
 obtain ⟨i0, hi, hz0, hz1, hz2⟩ := info_parts mf_info
 refine step_append hw s x 40 ho base 46 i0 _ 37 88 Tryz.underlying40 hi hz0 hz1 hz2 (by rw [show (Value.agg mza).cells.size = mza.size from rfl, mfa_size]) (by decide) A l.length c (l.flatMap mvl) hs hown A2 l2.length c2 (l2.flatMap mvl) hx hr (one_mvl l2) (by omega) (by simp only [maxLen]; omega) hbase ?_
 intro A' c' w' hap
 rw [← List.length_append]
 refine h A' c' (l ++ l2) w' rfl ?_ hap.grown (hap.below hown hbase)
 show Own w' base 46 37 A' (l ++ l2).length c' ((l ++ l2).flatMap mvl)
 rw [List.length_append, List.flatMap_append]
 exact hap.own
theorem wpl_mans {w : World} {ops : Array Oper} {rest : List Oper} {o : Oper} {a : Act} {Q : Exit → Act → World → Prop} (hw : Region.wanted o (yielded ops a.tmps) = true) (s x : Operand)
 (ho : o.op = .call { callee := .builtin .append, args := #[s, x], argTypes := #[40, 40] })
 (base : Nat) (A : Option Addr) (c : Nat) (l : List MfV) (hs : a.eval s = .slice A l.length c) (hown : OwnM w base A c l)
 (A2 : Option Addr) (c2 n2 : Nat) (l2 : List MfV) (hn2 : n2 = l2.length) (hx : a.eval x = .slice A2 n2 c2) (hr : Sl w 37 A2 l2.length c2 (l2.flatMap mvl)) (hlen : l.length + l2.length ≤ 1000000000) (hbase : base ≤ w.heap.size)
 (h : ∀ A' c' (m : List MfV) w', Hid (m = l ++ l2) → OwnM w' base A' c' m → w.grownBy w' (A.map (·.block)) → Below base w w' → wpList Tryz.prog ops Q rest (a.put o.dst (.slice A' m.length c')) w') : wpList Tryz.prog ops Q (o :: rest) a w :=
 wpList_step fun _ hK => step_mans hw s x ho base A c l hs hown A2 c2 n2 l2 hn2 hx hr hlen hbase fun A' c' m w' h1 h2 h3 h4 => hK _ _ (h A' c' m w' h1 h2 h3 h4)
def GivesMs (w0 : World) (l : List MfV) (e : Ending) (w' : World) : Prop := ∃ A c m, e = .returned (.slice A (List.length m) c) ∧ Hid (m = l) ∧ OwnM w' w0.heap.size A c m ∧ Below w0.heap.size w0 w'
set_option maxRecDepth 100000 in
set_option maxHeartbeats 1000000 in
theorem MsClone_any {E : Option Addr} {cap : Nat} (l : List MfV) (w : World) (h : SlM w E cap l) (hl : l.length ≤ 1000000) :
 Calls Tryz.prog 43 #[.slice E l.length cap] w (GivesMs w l) := by
 have hq := fun (w : World) (A : Option Addr) (n c : Nat) => Lib.run_eql_slice_nil (P := Tryz.prog) w 40 46 A n c 0 0 Tryz.underlying40
 cases E with
 | none =>
  have h0 := h.1.2.2.2.1 rfl
  have h1 : l = [] := List.eq_nil_of_length_eq_zero (by have := h.1.2.1; omega)
  subst h0
  subst h1
  go_enter Tryz.func43, Tryz.ntmps43
  go_wp2_with fail
  go_ret
  exact ⟨none, 0, [], rfl, (show _ = _ from rfl), Own.none_ _ _ _ _, Below.refl _ _⟩
 | some ad =>
  go_enter Tryz.func43, Tryz.ntmps43
  go_wp2_with (at_builtin; go_must (refine wpl_mans rfl (.tmp 5) (.tmp 6) rfl w.heap.size (some ⟨w.heap.size, 0, none⟩) 0 [] rfl (Own.lit 37 (Nat.le_refl _)) (some ad) cap l.length l rfl rfl (Sl.below h.1 (below_new _ _)) (by simp; omega) (by simp) ?_; intro A3 c3 m3 w3 hm3 ho3 _ hb3))
  go_ret
  exact ⟨A3, c3, m3, rfl, (show _ = _ from by rw [hm3.out]; rfl), ho3, (below_new _ _).trans hb3⟩
end
section
open Go.RowKit Go.Shelf
theorem mfa_setC (n f t r : Int) (A A2 : Option Addr) (k c k2 c2 : Nat) : ∀ d : Dg, (mfa n f t r d A k c).setIfInBounds 36 (.slice A2 k2 c2) = mfa n f t r d A2 k2 c2 := by
 refine dg_cases ?_
 intros
 rfl
def GivesCp (w0 : World) (n f t r : Int) (d : Dg) (ps : List Pt5) (e : Ending) (w' : World) : Prop :=
 ∃ A c m, e = .returned (.agg (mfa n f t r d A (List.length m) c)) ∧ Hid (m = ps) ∧ OwnP w' w0.heap.size A c m ∧ Below w0.heap.size w0 w'
theorem res_mf1 {fn : Func} {a : Nat} {tmps : Array Value} {w : World} {g : Nat} {n f t r : Int} {d : Dg} {A : Option Addr} {k c : Nat} (hres : fn.results = #[.cell a 46]) (ha : tmps.getD a undef = .pointer (some ⟨g, 0, none⟩)) (hB : Blk w g 46 (mfa n f t r d A k c)) : (results fn tmps).run Tryz.prog w = .ok (.agg (mfa n f t r d A k c)) w := by
 have h := run_loadVar_at (P := Tryz.prog) w ⟨g, 0, none⟩ 46 (mfa n f t r d A k c) hB.cells _ Tryz.underlying46 rfl (by rw [mfa_size]; kernel_rfl)
 have ha' : tmps[a]?.getD undef = .pointer (some ⟨g, 0, none⟩) := by simpa using ha
 simp [results, hres, asAddr, h, ha']
set_option maxRecDepth 100000 in
set_option maxHeartbeats 1000000 in
theorem MCopy_any {A : Option Addr} {c : Nat} (n f t r : Int) (d : Dg) (ps : List Pt5) (w : World) (h : SlP w A c ps) (hl : ps.length ≤ 1000000) :
 Calls Tryz.prog 37 #[.agg (mfa n f t r d A ps.length c)] w (GivesCp w n f t r d ps) := by
 have hM := ((Mm.start w).alloc (mfa n f t r d A ps.length c) 46).alloc mza 46
 rw [show (w.alloc (.cells (mfa n f t r d A ps.length c) 46)).heap.size = w.heap.size + 1 from by simp] at hM
 have HC := Lib.hid (fun W (hh : Below w.heap.size w W) => PtClone_any ps W (h.below hh) hl)
 clear h
 go_enter Tryz.func37, Tryz.ntmps37
 go_upto_region 1 with (fail)
 refine gen1 (T := fun W => Mm w W [(w.heap.size + 1, 46, mza), (w.heap.size, 46, mfa n f t r d A ps.length c)] []) hM (fun w1 hM => ?_)
 obtain ⟨a0, a1, a2, a3, a4⟩ := BlM.five hM.b1
 go_wp2_with fail
 refine (HC.out _ hM.bel).mono ?_
 rintro e w2 ⟨A2, c2, m2, rfl, hm2, ho2, hb2⟩
 have hM2 := hM.call hb2
 have hO := Own.more ho2 hM.bel.size
 obtain rfl : m2 = ps := hm2.out
 clear hM hb2 ho2 a0 a1 a2 a3 a4 HC hm2
 obtain ⟨a0, a1, a2, a3, a4⟩ := BlM.five hM2.b1
 have hfz := hM2.b1.frozen 36
 have hset := hM2.set 1 36 (.slice A2 m2.length c2) rfl
 rw [mfa_setC] at hset
 have hO2 : OwnP (w2.setCell ⟨w.heap.size, 36, none⟩ (.slice A2 m2.length c2)) w.heap.size A2 c2 m2 := Own.setT hO hM2.b1 (by decide) _
 go_upto_region 2 with (fail)
 refine gen1 (T := fun W => Mm w W [(w.heap.size + 1, 46, mza), (w.heap.size, 46, mfa n f t r d A2 m2.length c2)] [] ∧ OwnP W w.heap.size A2 c2 m2) ⟨hset, hO2⟩ (fun w3 hT => ?_)
 clear hset hO2 hM2 hO a0 a1 a2 a3 a4 hfz
 obtain ⟨hM, hO⟩ := hT
 go_wp2_with (first | (refine wpl_loadG rfl 46 _ rfl ⟨w.heap.size, 0, none⟩ (mfa n f t r d A2 m2.length c2) rfl hM.b1.cells _ Tryz.underlying46 rfl (by rw [mfa_size]; kernel_rfl) ?_) | (refine wpList_store_row rfl 46 _ _ rfl (w.heap.size + 1) (mfa n f t r d A2 m2.length c2) rfl rfl 46 mza hM.b0 (by rw [mfa_size]; kernel_rfl) (by rw [mfa_size, mfa_size]) (mfa_all _ _ _ _ _ _ _ _) ?_))
 exact bodyPost_ret (res_mf1 rfl rfl (g := w.heap.size + 1) hM.b0.row) rfl ⟨A2, c2, m2, rfl, (show _ = _ from rfl), Own.wrT hO (Wr.row _) hM.b0 (by decide), below_setRow hM.bel (by omega) _⟩
end
section
open Go.RowKit Go.Shelf
attribute [local go_sem ↓] Go.wp_at_zero Go.wp_at_succ
theorem step_litM {w : World} {ops : Array Oper} {o : Oper} {a : Act} {K : Act → World → Prop} {Q : Exit → Act → World → Prop} {X : Prop} (hgd : Region.wanted o (yielded ops a.tmps) = true) (x : Operand) (ho : o.op = .buildSlice 40 1 #[(0, x)])
 (p : MfV) (hx : a.eval x = .agg (mva p)) (h : K (a.put o.dst (.slice (some ⟨w.heap.size, 0, none⟩) 1 1)) (w.alloc (.cells (mva p) 46))) : if Region.wanted o (yielded ops a.tmps) = true then Oper.wp Tryz.prog o a w K Q else X := by
 rw [if_pos hgd]
 obtain ⟨i0, hi, hz0, hz1, hz2⟩ := info_parts mf_info
 refine wp_buildSlice 40 46 1 _ ho (mva p) i0 _ Tryz.underlying40 hi hz0 (by rw [hz1]; decide) (by rw [hz1]; decide) ?_ h
 rw [hz1]
 have hl : ((#[(0, x)] : Array (Nat × Operand)).map fun (i, x) => (i, a.eval x)).toList = ([Value.agg (mva p)].zipIdx 0).map fun x => (x.2, x.1) := by simp [hx]
 have hps := mva_size p
 rw [hl, Go.Great.fill_whole (s := 37) (by decide) [Value.agg (mva p)] _ (by intro v hv; rw [List.mem_singleton.1 hv]; exact hps) (by simp)]
 simp [Value.cells]
theorem litM (W : World) (p : MfV) : Sl (W.alloc (.cells (mva p) 46)) 37 (some ⟨W.heap.size, 0, none⟩) 1 1 ([p].flatMap mvl) := by
 have h := Sl.litsS W 37 1 (mvl p) 46 (by rw [mvl_len]) (by simp [maxLen])
 simpa [mva, mfa, mvl] using h
theorem wpl_litM {w : World} {ops : Array Oper} {rest : List Oper} {o : Oper} {a : Act} {Q : Exit → Act → World → Prop} (hgd : Region.wanted o (yielded ops a.tmps) = true) (x : Operand) (ho : o.op = .buildSlice 40 1 #[(0, x)])
 (p : MfV) (hx : a.eval x = .agg (mva p)) (h : wpList Tryz.prog ops Q rest (a.put o.dst (.slice (some ⟨w.heap.size, 0, none⟩) 1 1)) (w.alloc (.cells (mva p) 46))) : wpList Tryz.prog ops Q (o :: rest) a w :=
 wpList_step fun _ hK => step_litM hgd x ho p hx (hK _ _ h)
def NewM (w : World) (base : Nat) (A : Option Addr) (c : Nat) (m : List MfV) : Prop := OwnM w base A c m ∧ ∀ x ∈ m, OwnP w base x.2.1 x.2.2 x.1.2.2.2.2.2 ∧ MfI x.1
theorem NewM.slm {w : World} {base : Nat} {A : Option Addr} {c : Nat} {m : List MfV} (h : NewM w base A c m) : SlM w A c m := ⟨h.1.sl, fun x hx => ⟨(h.2 x hx).1.sl, (h.2 x hx).2⟩⟩
theorem NewM.below {w w' : World} {base : Nat} {A : Option Addr} {c : Nat} {m : List MfV} (h : NewM w base A c m) (hb : Below w.heap.size w w') : NewM w' base A c m := ⟨Own.below h.1 hb, fun x hx => ⟨Own.below (h.2 x hx).1 hb, (h.2 x hx).2⟩⟩
def GivesCh (w0 : World) (l : List MfV) (e : Ending) (w' : World) : Prop := ∃ A c m, e = .returned (.slice A (List.length m) c) ∧ Hid (mvs m = mvs l) ∧ NewM w' w0.heap.size A c m ∧ Below w0.heap.size w0 w'
set_option maxRecDepth 100000 in
set_option maxHeartbeats 2000000 in
theorem VChain_any {w : World} {gv gs : Nat} {q : Fp} {d : Dk Sv} {l : List MfV} {E : Option Addr} {cap : Nat} (h : VtM w gv gs q d l E cap) (hl : l.length ≤ 1000000) (hps : ∀ x ∈ l, x.1.2.2.2.2.2.length ≤ 1000000) :
 Calls Tryz.prog 11 #[.pointer (some ⟨gv, 0, none⟩)] w (GivesCh w l) := by
 have hms := fun x => Lib.hid (mva_size x)
 have hma := fun x => Lib.hid (mva_all x)
 have hsl := h.sl
 obtain ⟨a0, a1⟩ := h.two
 have hmax := hsl.1.2.1
 have hmax2 := hsl.1.2.2.1
 unfold maxLen at hmax2
 clear h
 go_enter Tryz.func11, Tryz.ntmps11
 go_wp2_with fail
 go_loopw [3, 13] (fun v y wr => ∃ (k : Nat) (A' : Option Addr) (c' : Nat) (m : List MfV), k ≤ l.length ∧ y = .int .i64 k ∧ v = .slice A' m.length c' ∧ Hid (mvs m = (mvs l).take k) ∧ NewM wr w.heap.size A' c' m ∧ Below w.heap.size w wr) (fun v y w => l.length - (intOf y).toNat)
 case atStart => exact ⟨0, none, 0, [], Nat.zero_le _, rfl, rfl, (show _ = _ from rfl), ⟨Own.none_ _ _ _ _, fun x hx => by simp at hx⟩, Below.refl _ _⟩
 case round =>
  obtain ⟨k, A', c', m, hk, rfl, rfl, hm, hN, hbr⟩ := hrel
  have hml : Hid (m.length = k) := by
   show m.length = k
   have h9 := congrArg List.length hm.out
   rw [mvs_len, List.length_take, mvs_len] at h9
   omega
  by_cases hlt : k < l.length
  · obtain ⟨ad, b, o, rfl, had, hcc⟩ := (hsl.below hbr).at hlt
    have hx := hsl.2 _ (List.getElem_mem hlt)
    have HC := Lib.hid (fun W (hh : Below w.heap.size w W) => MCopy_any l[k].1.1 l[k].1.2.1 l[k].1.2.2.1 l[k].1.2.2.2.1 l[k].1.2.2.2.2.1 l[k].1.2.2.2.2.2 W (hx.1.below hh) (hps _ (List.getElem_mem hlt)))
    rw [show mfa l[k].1.1 l[k].1.2.1 l[k].1.2.2.1 l[k].1.2.2.2.1 l[k].1.2.2.2.2.1 l[k].2.1 l[k].1.2.2.2.2.2.length l[k].2.2 = mva l[k] from rfl] at HC
    have hnx : Hid ((mvs l).take (k + 1) = (mvs l).take k ++ [l[k].1]) := (show _ = _ from by rw [List.take_succ_eq_append_getElem (by rw [mvs_len]; exact hlt)]; simp [mvs])
    have hxI := hx.2
    generalize l[k] = x at *
    have HCC := Lib.hid hcc
    clear hcc hx
    go_upto_region 7 with (first | (refine wpl_loadG rfl 46 _ rfl ⟨b, o, none⟩ (mva x) rfl HCC.out _ Tryz.underlying46 rfl (by rw [(hms x).out]; kernel_rfl) ?_) | (refine wpl_storeN rfl 46 _ _ rfl _ (mva x) 46 rfl rfl (by rw [(hms x).out]; kernel_rfl) (by rw [(hms x).out]; rfl) (hma x).out ?_))
    refine gen1 (T := fun W => Mm w W [(wr.heap.size, 46, mva x)] [] ∧ NewM W w.heap.size A' c' m) ⟨((Mm.start w).call hbr).alloc _ _, hN.below (below_new _ _)⟩ (fun w1 hT => ?_)
    obtain ⟨hM, hN1⟩ := hT
    generalize wr.heap.size = g5 at *
    clear hN hbr
    go_wp2_with (refine wpl_loadG rfl 46 _ rfl ⟨g5, 0, none⟩ (mva x) rfl hM.b0.cells _ Tryz.underlying46 rfl (by rw [(hms x).out]; kernel_rfl) ?_)
    refine (HC.out _ hM.bel).mono ?_
    rintro e w2 ⟨A5, c5, m5, rfl, hm5, ho5, hb5⟩
    have hlo := hM.bel.size
    have hM2 := hM.call hb5
    have hN2 := hN1.below hb5
    have hO5 := Own.more ho5 hlo
    obtain rfl : m5 = x.1.2.2.2.2.2 := hm5.out
    clear hM hN1 hb5 ho5 HC hm5
    rw [show mfa x.1.1 x.1.2.1 x.1.2.2.1 x.1.2.2.2.1 x.1.2.2.2.2.1 A5 x.1.2.2.2.2.2.length c5 = mva (x.1, A5, c5) from rfl]
    have hsz := hM2.bel.size
    have hlen : m.length + [(x.1, A5, c5)].length ≤ 1000000000 := by have h9 := hml.out; simp; omega
    have hba : w.heap.size ≤ (w2.alloc (.cells (mva (x.1, A5, c5)) 46)).heap.size := by simp; omega
    go_wp2_with (first | (refine wpl_litM rfl _ rfl (x.1, A5, c5) rfl ?_) | (at_builtin; go_must (refine wpl_mans rfl _ _ rfl w.heap.size A' c' m rfl (hN2.below (below_new _ _)).1 (some ⟨w2.heap.size, 0, none⟩) 1 1 [(x.1, A5, c5)] rfl rfl (litM w2 (x.1, A5, c5)) hlen hba ?_; intro A3 c3 m3 w3 hm3 ho3 hg3 hb3)))
    have hN3 := hN2.below (below_new w2 (.cells (mva (x.1, A5, c5)) 46))
    have hO6 := Own.below hO5 (below_new w2 (.cells (mva (x.1, A5, c5)) 46))
    have hbel : Below w.heap.size w w3 := hM2.bel.trans ((Below.mono (below_new w2 (.cells (mva (x.1, A5, c5)) 46)) hsz).trans hb3)
    have hfin : NewM w3 w.heap.size A3 c3 m3 := ⟨ho3, fun y hy => by
     rw [hm3.out, List.mem_append] at hy
     rcases hy with hy | hy
     · exact ⟨Own.other (hN3.2 y hy).1 hN3.1 hg3 (by decide), (hN3.2 y hy).2⟩
     · rw [List.mem_singleton.1 hy]
       exact ⟨Own.other hO6 hN3.1 hg3 (by decide), hxI⟩⟩
    have hmn : Hid (mvs m3 = (mvs l).take (k + 1)) := (show _ = _ from by rw [hnx.out, hm3.out, ← hm.out]; simp [mvs])
    clear hm hN2 hO5 hM2 hN3 hO6 hg3 ho3 hb3
    go_wp2_with fail
    go_roundw
    case rel => exact ⟨k + 1, A3, c3, m3, hlt, by go_num, rfl, hmn, hfin, hbel⟩
    case measure => simp [intOf]; omega
  · obtain rfl : k = l.length := by omega
    have hf : Hid (mvs m = mvs l) := (show _ = _ from by rw [hm.out, List.take_of_length_le (by rw [mvs_len]; omega)])
    clear hm
    go_wp2_with fail
    go_ret
    exact ⟨A', c', m, rfl, hf, hN, hbr⟩
end
section
open Go.RowKit
theorem errno_compN : ∃ i, Tryz.prog.info? 60 = some i ∧ i.comparable = true := by
 have h : (Tryz.prog.info? 60).map (fun i => i.comparable) = some true := by kernel_rfl
 cases hq : Tryz.prog.info? 60 with
 | none => rw [hq] at h; cases h
 | some i => rw [hq] at h; exact ⟨i, rfl, by injection h⟩
theorem errv_is4N (n : Nat) (W : World) : (binOp .eql 26 (errv n) (.iface 60 (.int .i64 4))).run Tryz.prog W = .ok (.bool (decide (n = 4))) W := by
 rcases errv_cases n with ⟨h0, he⟩ | ⟨k, hk, hke, he⟩
 · subst h0
   rw [he]
   exact run_eql_iface_nil_left W _ _ Tryz.underlying26
 · have h2 : decide (n = 4) = (k == 4) := by
    rw [Bool.eq_iff_iff, decide_eq_true_iff, beq_iff_eq]
    omega
   obtain ⟨i, hi, hc⟩ := errno_compN
   have h : ∀ d : Nat, (Op.equalIn (d + 2) 26 (.iface 60 (.int .i64 k)) (.iface 60 (.int .i64 4))).run Tryz.prog W = .ok (k == 4) W := fun d => by
    simp [Op.equalIn, run_underlying Tryz.underlying26, run_underlying Tryz.underlying60, typeInfo, hi, hc]
   rw [he, h2]
   simp only [binOp]
   simp [Op.equal, Op.maxDepth, h 9998]
theorem errv_g4N (n : Nat) (x y : Operand) (W : World) : (eqGuard .eql 26 x y (errv n) (.iface 60 (.int .i64 4))).run Tryz.prog W = .ok () W := by
 rcases errv_cases n with ⟨h0, he⟩ | ⟨k, hk, hke, he⟩
 · rw [he]
   go_simp
 · rw [he]
   go_simp
end
section
open Go.RowKit
attribute [local go_sem ↓] Go.wp_at_zero Go.wp_at_succ
theorem pgo_fit {z : Int} (hz : z ≤ 1048576) : ∀ {l : List Pt5} {a : Int}, 0 ≤ a → pgo z a l = 0 → ∀ p ∈ l, PtFit p
 | [], _, _, _ => fun p hp => by cases hp
 | q :: r, a, ha, h => fun p hp => by
  have hle := (pgo_end h).2
  unfold pgo at h
  by_cases h1 : ptchk q a ≠ 0
  · rw [if_pos h1] at h; exact absurd h h1
  rw [if_neg h1] at h
  obtain ⟨g1, g2, _, _, g5⟩ := ptchk_ok (Decidable.byContradiction h1)
  rcases List.mem_cons.1 hp with rfl | hp
  · exact ⟨by omega, by omega, g1, g2⟩
  · exact pgo_fit hz (by omega) h p hp
end
section
open Go.RowKit Go.Shelf
theorem Vgo.below {w W W' : World} {gv gs : Nat} {q : Fp} {d d' : Dk Sv} {l : List MfV} {E : Option Addr} {cap : Nat} (hb : Below w.heap.size w W) (h : Vgo W gv gs q d d' l E cap W') : Vgo w gv gs q d d' l E cap W' := by
 obtain ⟨q', hg, hV, hF, hM, hT⟩ := h
 exact ⟨q', hg, hV, (Frd.of_below hb).trans hF fun i hi => .inl hi, fun i hi => (hM i hi).imp id (Nat.le_trans hb.size), fun i hi => (hT i hi).imp id (Nat.le_trans hb.size)⟩
structure Few (l : List Mf) : Prop where
 len : l.length ≤ 99
 ps : ∀ m ∈ l, m.2.2.2.2.2.length ≤ 99
 fit : ∀ m ∈ l, ∀ p ∈ m.2.2.2.2.2, PtFit p
 num : ∀ k (hk : k < l.length), (l[k]).1 = (k : Int)
theorem Few.of {l : List Mf} (h : (ckl l).2 = 0) (h1 : l.length ≤ 99) (h2 : ∀ m ∈ l, m.2.2.2.2.2.length ≤ 99) : Few l :=
 ⟨h1, h2, fun m hm => by
  obtain ⟨k, hk, rfl⟩ := List.getElem_of_mem hm
  obtain ⟨a1, a2, a3, a4, a5, a6, a7, a8⟩ := mchk_ok (ckl_ok h k hk).1
  exact pgo_fit (by omega) (by omega) a8, ckl_num h⟩
theorem Few.snd {l : List MfV} (h : Few (mvs l)) {x : MfV} (hx : x ∈ l) : x.1 ∈ mvs l := List.mem_map_of_mem hx
end
end Go.Proofs.YtajfnmohlnkncaaGreatDoor
