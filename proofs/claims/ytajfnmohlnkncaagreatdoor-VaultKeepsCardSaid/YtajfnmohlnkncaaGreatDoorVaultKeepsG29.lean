/- WHAT IT HOLDS: vault.Read. | WHAT IT HOLDS: vault.Check. | WHAT IT HOLDS: a store's objects told: walked. | WHAT IT HOLDS: vault.Sweep. | WHAT IT HOLDS: a disk with room enough; a step of a backup of segments on it, plainly (no program). | WHAT IT HOLDS: a step of a backup of segments on a disk that may go down at any operation, and what is there when it comes again, plainly (no program). | WHAT IT HOLDS: what is done to a vault and its disk, at large. -/
import Derived.Test.YtajfnmohlnkncaaGreatDoorVaultKeepsG25
import Derived.Test.YtajfnmohlnkncaaGreatDoorVaultKeepsG28
import Derived.Test.YtajfnmohlnkncaaGreatDoorVaultKeepsG19
import Derived.Test.YtajfnmohlnkncaaGreatDoorVaultKeepsG24
import Derived.Test.YtajfnmohlnkncaaGreatDoorVaultKeepsG17
import Derived.Test.YtajfnmohlnkncaaGreatDoorShelfV
import Derived.Test.YtajfnmohlnkncaaGreatDoorVaultKeepsG16
namespace Go.Proofs.YtajfnmohlnkncaaGreatDoor
section
open Go.RowKit Go.Shelf
attribute [local go_sem ↓] Go.wp_at_zero Go.wp_at_succ
theorem rchk_mem : ∀ {l : List Ce}, rchk l = 0 → ∀ c ∈ l, cchk c = 0
 | [], _ => fun c hc => by cases hc
 | x :: r, h => fun c hc => by
  unfold rchk at h
  by_cases h1 : cchk x ≠ 0
  · rw [if_pos h1] at h
    exact absurd h h1
  · rw [if_neg h1] at h
    rcases List.mem_cons.1 hc with rfl | hc
    · exact Decidable.byContradiction h1
    · exact rchk_mem h c hc
theorem mholds_fit {p : Pt5} {b : List UInt8} (hl : b.length ≤ 1000000) (h : (mholds p b).2 = 0) : (mholds p b).1.1 = p.1 ∧ ((mholds p b).1.2.length : Int) = p.2.1 ∧ ∀ c ∈ (mholds p b).1.2, c.2.length ≤ 64 := by
 have h1 : mholds p b = ((mholds p b).1, 0) := Prod.ext rfl h
 obtain ⟨h2, h3⟩ := mholds_ok h1
 refine ⟨h2, h3, fun c hc => ?_⟩
 have h4 : sgTake b = ((mholds p b).1, 0) := by
  unfold mholds at h ⊢
  split
  · rename_i h9; rw [if_pos h9] at h; cases h
  rename_i h9
  rw [if_neg h9] at h
  split
  · rename_i h9; rw [if_pos h9] at h; cases h
  rename_i h9
  rw [if_neg h9] at h
  split
  · rename_i h9; rw [if_pos h9] at h; exact absurd h h9
  rename_i h8
  rw [if_neg h8] at h
  split
  · rename_i h9; rw [if_pos h9] at h; cases h
  rename_i h9
  rw [if_neg h9] at h
  split
  · rename_i h9; rw [if_pos h9] at h; cases h
  exact Prod.ext rfl (Decidable.byContradiction h8)
 have h5 := (schk_ok (sgTake_back hl h4).1).2.2.2.2
 exact (cchk_ok (rchk_mem h5 c hc)).2.2.1
theorem vget_fit {d : Dk Sv} {l : List Mf} {n k : Nat} {p : Pt5} (hp : vpart l n k = some p) (hs : (sGetL Sv.l d (label n k)).1.length ≤ 1000000) (h : (vget Sv.l ⟨d, l⟩ n k).2 = 0) :
 (vget Sv.l ⟨d, l⟩ n k).1.1 = p.1 ∧ ((vget Sv.l ⟨d, l⟩ n k).1.2.length : Int) = p.2.1 ∧ ∀ c ∈ (vget Sv.l ⟨d, l⟩ n k).1.2, c.2.length ≤ 64 := by
 have e : vget Sv.l ⟨d, l⟩ n k = if (sGetL Sv.l d (label n k)).2 ≠ 0 then ((0, []), (sGetL Sv.l d (label n k)).2) else mholds p (sGetL Sv.l d (label n k)).1 := by
  unfold vget
  dsimp only
  rw [hp]
  dsimp only
  rw [Int.toNat_natCast, Int.toNat_natCast]
 rw [e] at h ⊢
 by_cases h1 : (sGetL Sv.l d (label n k)).2 ≠ 0
 · rw [if_pos h1] at h
   exact absurd h h1
 · rw [if_neg h1] at h ⊢
   exact mholds_fit hs h
def GivesAtN (w0 : World) (x : Ce × Bool) (e : Ending) (w' : World) : Prop :=
 ∃ A c m, e = .returned (.tuple #[cv x.1.1 A (List.length m) c, .bool x.2]) ∧ Hid (m = x.1.2) ∧ OwnB w' w0.heap.size 5 A c m ∧ Below w0.heap.size w0 w'
set_option maxRecDepth 100000 in
set_option maxHeartbeats 2000000 in
theorem SAtN_any {E : Option Addr} {cap : Nat} (f a : Int) (cs : List CeV) (w : World) (h : SlC w E cap cs) (hl : cs.length ≤ 1000) (hd : ∀ x ∈ cs, x.2.2.2.length ≤ 1000000000) (hf : I64 f) (ha : I64 a) :
 Calls Tryz.prog 19 #[cv f E cs.length cap, .int .i64 a] w (GivesAtN w (sat (f, cs.map ceOf) a)) := by
 have hB0 := (Blk.new w 43 #[.int .i64 f, .slice E cs.length cap]).alloc (.cells #[.int .i64 0, .slice none 0 0] 54)
 have hB1 := Blk.newAt (w := w.alloc (.cells #[.int .i64 f, .slice E cs.length cap] 43)) (g := w.heap.size + 1) (by simp) 54 #[.int .i64 0, .slice none 0 0]
 have hbw := bel_alloc (below_new w (.cells #[.int .i64 f, .slice E cs.length cap] 43)) (.cells #[.int .i64 0, .slice none 0 0] 54)
 unfold I64 at ha hf
 obtain ⟨hf0, hf1⟩ := hf
 obtain ⟨ha0, ha1⟩ := ha
 obtain ⟨a0, a1, _, _⟩ := hB0.two
 obtain ⟨b0, b1, bf0, bf1⟩ := hB1.two
 by_cases c1 : a < f
 · have HS := Lib.hid (show sat (f, cs.map ceOf) a = ((0, []), false) from by unfold sat; rw [if_pos (.inl c1)])
   go_enter Tryz.func19, Tryz.ntmps19
   go_wp2_with fail
   exact bodyPost_ret (res_c2 rfl rfl (g := w.heap.size + 1) hB1) rfl ⟨none, 0, [], by rw [HS.out]; rfl, (show _ = _ from by rw [HS.out]), Own.none_ _ _ _ _, hbw⟩
 by_cases c2 : (cs.length : Int) ≤ a - f
 · have HS := Lib.hid (show sat (f, cs.map ceOf) a = ((0, []), false) from by unfold sat; rw [if_pos (.inr (by simpa using c2))])
   by_cases c3 : a - f ≤ 9223372036854775807
   · go_enter Tryz.func19, Tryz.ntmps19
     go_wp2_with fail
     exact bodyPost_ret (res_c2 rfl rfl (g := w.heap.size + 1) hB1) rfl ⟨none, 0, [], by rw [HS.out]; rfl, (show _ = _ from by rw [HS.out]), Own.none_ _ _ _ _, hbw⟩
   · obtain ⟨z, hz⟩ : ∃ z : Int, wrap64 (a - f) = z := ⟨_, rfl⟩
     have hz0 : z < 0 := by rw [← hz]; simp only [wrap64]; omega
     have hz1 : z < (cs.length : Int) := by omega
     go_enter Tryz.func19, Tryz.ntmps19
     go_wp2_with fail
     exact bodyPost_ret (res_c2 rfl rfl (g := w.heap.size + 1) hB1) rfl ⟨none, 0, [], by rw [HS.out]; rfl, (show _ = _ from by rw [HS.out]), Own.none_ _ _ _ _, hbw⟩
 obtain ⟨i, hi⟩ : ∃ i : Nat, a = f + i := ⟨(a - f).toNat, by omega⟩
 subst hi
 have hlt : i < cs.length := by omega
 have HS := Lib.hid (show sat (f, cs.map ceOf) (f + i) = (ceOf cs[i], true) from by
  unfold sat
  rw [if_neg (by simp only [List.length_map]; omega)]
  have e1 : (f + (i : Int) - f).toNat = i := by omega
  dsimp only
  rw [e1, List.getD_eq_getElem?_getD, List.getElem?_map, List.getElem?_eq_getElem hlt]
  rfl)
 obtain ⟨ad, b, o, rfl, had, hc0, hc1, hsx⟩ := (h.below hbw).at2 hlt
 have hdl := hd _ (List.getElem_mem hlt)
 generalize cs[i] = x at *
 obtain ⟨kk, A, c, d⟩ := x
 dsimp only [ceOf] at *
 clear hd
 have hfi : f + (i : Int) - f = (i : Int) := by omega
 go_enter Tryz.func19, Tryz.ntmps19
 go_wp2_with fail
 refine (CCopy_any kk d _ hsx hdl).mono ?_
 rintro e w2 ⟨A2, c2, m2, rfl, hm2, ho2, hb2⟩
 have hw2 := bel_call hbw hb2
 have hB2 := hB1.below hb2
 obtain ⟨b0, b1, bf0, bf1⟩ := hB2.two
 clear hB0 hB1 hbw hb2
 go_wp2_with fail
 exact bodyPost_ret (res_c2 rfl rfl (g := w.heap.size + 1) (hB2.set2 _ _)) rfl ⟨A2, c2, m2, by rw [HS.out]; rfl, (show _ = _ from by rw [HS.out, hm2.out]), Own.more (Own.set2 (Own.more (base' := w.heap.size + 1 + 1) ho2 (by simp)) (by omega) _ _) (by omega), bel_set (bel_set hw2 (by dsimp only; omega) _) (by dsimp only; omega) _⟩
def GivesRd (w0 : World) (r : Ce × Nat) (e : Ending) (w' : World) : Prop :=
 ∃ A c m, e = .returned (.tuple #[cv r.1.1 A (List.length m) c, errv r.2]) ∧ Hid (m = r.1.2) ∧ OwnB w' w0.heap.size 5 A c m ∧ Below w0.heap.size w0 w'
set_option maxRecDepth 100000 in
set_option maxHeartbeats 2000000 in
theorem VRead_any {w : World} {gv gs : Nat} {q : Fp} {d : Dk Sv} {l : List MfV} {E : Option Addr} {cap : Nat} (h : VtM w gv gs q d l E cap) (hG : Shg w) (hF : Few (mvs l)) (a : Int) (ha : I64 a) :
 Calls Tryz.prog 15 #[.pointer (some ⟨gv, 0, none⟩), .int .i64 a] w (GivesRd w (vread Sv.l ⟨d, mvs l⟩ a)) := by
 have hM := (Mm.start w).alloc #[.int .i64 0, .slice none 0 0] 54
 have HFi := Lib.hid (fun W (hh : Below w.heap.size w W) => ChFind_any l a W (h.below hh).sl (fun x hx => hF.fit _ (hF.snd hx)) ha)
 have HMk := Lib.hid (fun W (hh : Below w.heap.size w W) => ChMark_any l W (h.below hh).sl)
 have HS := Lib.hid (fun W (hh : Below w.heap.size w W) => (h.below hh).two)
 have HV := Lib.hid (show vread Sv.l ⟨d, mvs l⟩ a = (match cfind a 0 (mvs l) with
  | none => ((0, []), 4)
  | some (n, k) =>
   if a < cmark (mvs l) then ((3, []), 0)
   else if (vget Sv.l ⟨d, mvs l⟩ n k).2 ≠ 0 then ((0, []), (vget Sv.l ⟨d, mvs l⟩ n k).2)
   else ((vget Sv.l ⟨d, mvs l⟩ n k).1.2.getD (a - (vget Sv.l ⟨d, mvs l⟩ n k).1.1).toNat (0, []), 0)) from rfl)
 rcases hv : cfind a 0 (mvs l) with _ | ⟨n, k⟩
 · rw [hv] at HFi HV
   have HT := HV
   dsimp only at HT
   dsimp only [cfv] at HFi
   clear hv HV h hG hF HMk
   go_enter Tryz.func15, Tryz.ntmps15
   go_upto_region 1 with (fail)
   refine gen1 (T := fun W => Mm w W [(w.heap.size, 54, #[.int .i64 0, .slice none 0 0])] []) hM (fun w1 hM => ?_)
   obtain ⟨a0, a1⟩ := HS.out _ hM.bel
   go_wp2_with fail
   refine (HFi.out _ hM.bel).mono ?_
   rintro e w2 ⟨rfl, hb2⟩
   have hM2 := hM.call hb2
   obtain ⟨r0, r1, rf0, rf1⟩ := hM2.b0.two
   clear hM a0 a1
   go_wp2_with fail
   exact bodyPost_ret (res_c2 rfl rfl (g := w.heap.size) (hM2.b0.set2 _ _)) rfl ⟨none, 0, [], by rw [HT.out]; rfl, (show _ = _ from by rw [HT.out]), Own.none_ _ _ _ _, bel_set (bel_set hM2.bel (by dsimp only; omega) _) (by dsimp only; omega) _⟩
 · obtain ⟨hn, hk, hph, hvp⟩ := cfind_part hv
   have hps := hF.ps _ (List.getElem_mem hn)
   have hpf := hF.fit _ (List.getElem_mem hn) _ (List.getElem_mem hk)
   have hl9 := hF.len
   generalize ((mvs l)[n]).2.2.2.2.2[k] = p at *
   have hvg := vget_fit hvp (Nat.le_trans (h.st.dsk.short (label n k)) (by omega))
   have HGt := Lib.hid (fun W (hh : Below w.heap.size w W) => VGet_any (h.below hh) (hG.below hh) (n : Int) (k : Int) (by rw [mvs_len] at hl9; omega) (fun x hx => by have := hF.ps _ (hF.snd hx); omega))
   rw [hv] at HFi HV
   dsimp only at HV
   dsimp only [cfv] at HFi
   generalize vget Sv.l ⟨d, mvs l⟩ n k = rg at *
   obtain ⟨⟨r0, r1⟩, r2⟩ := rg
   dsimp only at hvg HV
   obtain ⟨p1, p2, p3, p4⟩ := hpf
   unfold phit at hph
   have hn9 : n < 100 := by omega
   have hk9 : k < 100 := by omega
   clear hv h hG hF hvp hps hn hk
   go_enter Tryz.func15, Tryz.ntmps15
   go_upto_region 1 with (fail)
   refine gen1 (T := fun W => Mm w W [(w.heap.size, 54, #[.int .i64 0, .slice none 0 0])] []) hM (fun w1 hM => ?_)
   obtain ⟨a0, a1⟩ := HS.out _ hM.bel
   go_wp2_with fail
   refine (HFi.out _ hM.bel).mono ?_
   rintro e w2 ⟨rfl, hb2⟩
   have hM2 := hM.call hb2
   obtain ⟨a0, a1⟩ := HS.out _ hM2.bel
   clear hM hb2 HFi
   go_wp2_with fail
   refine (HMk.out _ hM2.bel).mono ?_
   rintro e w3 ⟨rfl, hb3⟩
   have hM3 := hM2.call hb3
   clear hM2 hb3 HMk a0 a1
   generalize cmark (mvs l) = mk at *
   by_cases hmk : a < mk
   · have HT := Lib.hid (HV.out.trans (if_pos hmk))
     obtain ⟨z0, z1, zf0, zf1⟩ := hM3.b0.two
     clear HV HGt
     go_wp2_with fail
     exact bodyPost_ret (res_c2 rfl rfl (g := w.heap.size) (hM3.b0.set2 _ _)) rfl ⟨none, 0, [], by rw [HT.out]; rfl, (show _ = _ from by rw [HT.out]), Own.none_ _ _ _ _, bel_set (bel_set hM3.bel (by dsimp only; omega) _) (by dsimp only; omega) _⟩
   · have HV2 := Lib.hid (HV.out.trans (if_neg hmk))
     clear HV
     go_wp2_with fail
     refine (HGt.out _ hM3.bel).mono ?_
     rintro e w4 ⟨A4, c4, m4, rfl, hm4, hN4, hb4⟩
     dsimp only at hm4 ⊢
     have hM4 := hM3.call hb4
     clear hM3 hb4 HGt
     go_upto_region 9 with (fail)
     refine gen1 (T := fun W => Mm w W [(w4.heap.size, 43, #[.int .i64 r0, .slice A4 m4.length c4]), (w.heap.size, 54, #[.int .i64 0, .slice none 0 0])] [] ∧ SlC W A4 c4 m4) ⟨hM4.alloc _ _, (NewS.slc hN4).below (below_new _ _)⟩ (fun w5 hT => ?_)
     generalize w4.heap.size = g9 at *
     clear hM4 hN4
     obtain ⟨hM5, hs5⟩ := hT
     rcases errv_cases r2 with ⟨h2, hev⟩ | ⟨ke, hk1, hke, hev⟩
     rotate_left
     · have HT := Lib.hid (HV2.out.trans (if_pos (by omega)))
       have HEV := Lib.hid hev
       rw [hev]
       obtain ⟨z0, z1, zf0, zf1⟩ := hM5.b1.two
       clear hev HV2 hke hvg
       go_wp2_with fail
       exact bodyPost_ret (res_c2 rfl rfl (g := w.heap.size) (hM5.b1.set2 _ _)) rfl ⟨none, 0, [], by rw [HT.out]; dsimp only; rw [HEV.out]; rfl, (show _ = _ from by rw [HT.out]), Own.none_ _ _ _ _, bel_set (bel_set hM5.bel (by dsimp only; omega) _) (by dsimp only; omega) _⟩
     · obtain ⟨e1, e2, e3⟩ := hvg h2
       have hml : (m4.length : Int) = p.2.1 := by rw [← e2, ← hm4.out, List.length_map]
       have hph2 : p.1 ≤ a ∧ a < p.1 + p.2.1 := by simpa using hph
       have HT := Lib.hid (HV2.out.trans (if_neg (by omega)))
       have hI0 : I64 r0 := by unfold I64; omega
       have HA := Lib.hid (SAtN_any r0 a m4 w5 hs5 (by omega) (fun x hx => by
        have h9 := e3 (ceOf x) (by rw [← hm4.out]; exact List.mem_map_of_mem hx)
        exact Nat.le_trans h9 (by omega)) hI0 ha)
       have hsat := Lib.hid (show sat (r0, m4.map ceOf) a = (r1.getD (a - r0).toNat (0, []), true) from by
        unfold sat
        rw [if_neg (by simp only [List.length_map]; omega), hm4.out])
       rw [hsat.out] at HA
       rw [hev]
       obtain ⟨s0, s1, sf0, sf1⟩ := hM5.b0.two
       clear hev HV2 hvg hsat e3 e1 e2 hml hph2 hph p1 p2 p3 p4 h2 hmk
       generalize r1.getD (a - r0).toNat (0, []) = ce at *
       obtain ⟨ck, cd⟩ := ce
       go_wp2_with fail
       refine HA.out.mono ?_
       rintro e w6 ⟨A6, c6, m6, rfl, hm6, ho6, hb6⟩
       dsimp only at hm6 ⊢
       have hM6 := hM5.call hb6
       have hsz := hM5.bel.size
       have hlt5 := hM5.b1.lt
       clear hM5 hb6 HA s0 s1 sf0 sf1
       go_upto_region 12 with (fail)
       refine gen1 (T := fun W => Mm w W [(w6.heap.size, 54, #[.int .i64 ck, .slice A6 m6.length c6]), (g9, 43, #[.int .i64 r0, .slice A4 m4.length c4]), (w.heap.size, 54, #[.int .i64 0, .slice none 0 0])] [] ∧ OwnB W w5.heap.size 5 A6 c6 m6) ⟨hM6.alloc _ _, Own.below ho6 (below_new _ _)⟩ (fun w7 hT => ?_)
       obtain ⟨hM7, ho7⟩ := hT
       obtain ⟨s0, s1, sf0, sf1⟩ := hM7.b0.two
       obtain ⟨z0, z1, zf0, zf1⟩ := hM7.b2.two
       clear hM6 ho6
       go_wp2_with fail
       exact bodyPost_ret (res_c2 rfl rfl (g := w.heap.size) (hM7.b2.set2 _ _)) rfl ⟨A6, c6, m6, by rw [HT.out]; rfl, (show _ = _ from by rw [HT.out, hm6.out]), Own.more (Own.set2 ho7 (by omega) _ _) (by omega), bel_set (bel_set hM7.bel (by dsimp only; omega) _) (by dsimp only; omega) _⟩
theorem vckM_step {dec : Sv → Bs} {v : Vt Sv} {many k : Nat} {l : List Mf} (hk : k < l.length) : vckM dec v many k (l.drop k) = if (vckP dec v k many 0 (l[k]).2.2.2.2.2).2 ≠ 0 then vckP dec v k many 0 (l[k]).2.2.2.2.2 else vckM dec v (vckP dec v k many 0 (l[k]).2.2.2.2.2).1 (k + 1) (l.drop (k + 1)) := by
 rw [List.drop_eq_getElem_cons hk]
 rfl
theorem vckP_step {dec : Sv → Bs} {v : Vt Sv} {n many j : Nat} {ps : List Pt5} (hj : j < ps.length) : vckP dec v n many j (ps.drop j) = if vneeded v.l ps[j] = true then (if (vget dec v n j).2 ≠ 0 then (many, (vget dec v n j).2) else vckP dec v n (many + 1) (j + 1) (ps.drop (j + 1))) else vckP dec v n many (j + 1) (ps.drop (j + 1)) := by
 rw [List.drop_eq_getElem_cons hj]
 rfl
set_option maxRecDepth 100000 in
set_option maxHeartbeats 2000000 in
theorem VCheck_any {w : World} {gv gs : Nat} {q : Fp} {d : Dk Sv} {l : List MfV} {E : Option Addr} {cap : Nat} (h : VtM w gv gs q d l E cap) (hG : Shg w) (hF : Few (mvs l)) :
 Calls Tryz.prog 24 #[.pointer (some ⟨gv, 0, none⟩)] w fun e w' => e = .returned (.tuple #[.int .i64 ((vcheck Sv.l ⟨d, mvs l⟩).1 : Nat), errv (vcheck Sv.l ⟨d, mvs l⟩).2]) ∧ Below w.heap.size w w' := by
 have hmax := h.sl.1.2.1
 have hmax2 := h.sl.1.2.2.1
 unfold maxLen at hmax2
 have hl9 : l.length ≤ 99 := by have := hF.len; rwa [mvs_len] at this
 have H0 := Lib.hid h
 have HFw := Lib.hid hF
 have HG := Lib.hid (fun W (hh : Below w.heap.size w W) => hG.below hh)
 have HGt := Lib.hid (fun (k j : Nat) W (hh : Below w.heap.size w W) => VGet_any (h.below hh) (hG.below hh) (k : Int) (j : Int) (by omega) (fun x hx => by have := hF.ps _ (hF.snd hx); omega))
 have HV := Lib.hid (show vcheck Sv.l ⟨d, mvs l⟩ = vckM Sv.l ⟨d, mvs l⟩ 0 0 (mvs l) from rfl)
 obtain ⟨a0, a1⟩ := h.two
 clear h hG hF
 go_enter Tryz.func24, Tryz.ntmps24
 go_wp2_with fail
 go_loopw [19, 4] (fun y v wr => ∃ (k many : Nat), k ≤ l.length ∧ y = .int .i64 k ∧ v = .int .i64 many ∧ many ≤ 99 * k ∧ Hid (vckM Sv.l ⟨d, mvs l⟩ many k ((mvs l).drop k) = vcheck Sv.l ⟨d, mvs l⟩) ∧ Below w.heap.size w wr) (fun y v w => l.length - (intOf y).toNat)
 case atStart => exact ⟨0, 0, Nat.zero_le _, rfl, rfl, Nat.zero_le _, (show _ = _ from rfl), Below.refl _ _⟩
 case round =>
  obtain ⟨k, many, hk, rfl, rfl, hmk, hall, hbr⟩ := hrel
  by_cases hlt : k < l.length
  · obtain ⟨ad, b, o, hE, had, hcc⟩ := (H0.out.sl.below hbr).at hlt
    have hx := H0.out.sl.2 _ (List.getElem_mem hlt)
    have hkm : k < (mvs l).length := by rw [mvs_len]; exact hlt
    have hst := (vckM_step (dec := Sv.l) (v := ⟨d, mvs l⟩) (many := many) hkm).symm.trans hall.out
    have hgk : (mvs l)[k] = l[k].1 := by simp [mvs]
    have hnum := HFw.out.num k hkm
    have hpl := HFw.out.ps _ (List.getElem_mem hkm)
    have hpf := HFw.out.fit _ (List.getElem_mem hkm)
    rw [hgk] at hst hnum hpl hpf
    have hsp := hx.1
    generalize l[k] = x at *
    obtain ⟨⟨xn, xf, xt, xr, xd, xp⟩, xA, xc⟩ := x
    dsimp only at hnum hpl hst hsp hpf
    subst hnum
    have HSt := Lib.hid hst
    rw [show mva (((k : Int), xf, xt, xr, xd, xp), xA, xc) = mfa k xf xt xr xd xA xp.length xc from rfl] at hcc
    have HCC := Lib.hid hcc
    have hmz := Lib.hid (mfa_size k xf xt xr xd xA xp.length xc)
    have hmy := Lib.hid (mfa_all k xf xt xr xd xA xp.length xc)
    have HP := Lib.hid (fun W (hh : Below w.heap.size w W) => hsp.below hh)
    have hpm := hsp.2.1
    have hpm2 := hsp.2.2.1
    unfold maxLen at hpm2
    subst hE
    clear hcc hx hgk hsp hst hall
    go_upto_region 7 with (first | (refine wpl_loadG rfl 46 _ rfl ⟨b, o, none⟩ (mfa k xf xt xr xd xA xp.length xc) rfl HCC.out _ Tryz.underlying46 rfl (by rw [hmz.out]; kernel_rfl) ?_) | (refine wpl_storeN rfl 46 _ _ rfl _ (mfa k xf xt xr xd xA xp.length xc) 46 rfl rfl (by rw [hmz.out]; kernel_rfl) (by rw [hmz.out]; rfl) hmy.out ?_))
    refine gen1 (T := fun W => Mm w W [(wr.heap.size, 46, mfa k xf xt xr xd xA xp.length xc)] []) (((Mm.start w).call hbr).alloc _ _) (fun w3 hM => ?_)
    generalize wr.heap.size = g5 at *
    clear hbr HCC
    obtain ⟨b0, b1, b2, b3, b4⟩ := BlM.five hM.b0
    go_wp2_with fail
    go_loopw [26, 4] (fun y v wr => ∃ (j mn : Nat), j ≤ xp.length ∧ y = .int .i64 j ∧ v = .int .i64 mn ∧ mn ≤ 99 * k + j ∧ Hid (vckP Sv.l ⟨d, mvs l⟩ k mn j (xp.drop j) = vckP Sv.l ⟨d, mvs l⟩ k many 0 xp) ∧ Mm w wr [(g5, 46, mfa k xf xt xr xd xA xp.length xc)] []) (fun y v w => xp.length - (intOf y).toNat)
    case atStart => exact ⟨0, many, Nat.zero_le _, rfl, rfl, by omega, (show _ = _ from rfl), hM⟩
    case round =>
     obtain ⟨j, mn, hj, rfl, rfl, hmn, hall, hM⟩ := hrel
     by_cases hjl : j < xp.length
     · obtain ⟨ad2, b2, o2, rfl, had2, hcc2⟩ := (HP.out _ hM.bel).at hjl
       have hst := (vckP_step (dec := Sv.l) (v := ⟨d, mvs l⟩) (n := k) (many := mn) hjl).symm.trans hall.out
       have hfit := hpf _ (List.getElem_mem hjl)
       generalize xp[j] = p at *
       have HN := Lib.hid (fun W (hh : Below w.heap.size w W) => VNeeded_any (H0.out.below hh) p hfit)
       have HSp := Lib.hid hst
       have HGk := Lib.hid (fun W (hh : Below w.heap.size w W) => HGt.out k j W hh)
       generalize vget Sv.l ⟨d, mvs l⟩ k j = rg at *
       obtain ⟨⟨r0, r1⟩, r2⟩ := rg
       dsimp only at HSp
       have hpp := Lib.hid (pta_size p)
       have hpa := Lib.hid (pta_all p)
       have HCC := Lib.hid hcc2
       clear hst hall hcc2
       go_upto_region 10 with (first | (refine wpl_loadG rfl 37 _ rfl ⟨b2, o2, none⟩ (pta p) rfl HCC.out _ Tryz.underlying37 rfl (by rw [hpp.out]; kernel_rfl) ?_) | (refine wpl_storeN rfl 37 _ _ rfl _ (pta p) 37 rfl rfl (by rw [hpp.out]; kernel_rfl) (by rw [hpp.out]; rfl) hpa.out ?_))
       refine gen1 (T := fun W => Mm w W [(wr.heap.size, 37, pta p), (g5, 46, mfa k xf xt xr xd (some ad2) xp.length xc)] []) (hM.alloc _ _) (fun w4 hM4 => ?_)
       generalize wr.heap.size = g8 at *
       clear hM HCC
       go_wp2_with (refine wpl_loadG rfl 37 _ rfl ⟨g8, 0, none⟩ (pta p) rfl hM4.b0.cells _ Tryz.underlying37 rfl (by rw [hpp.out]; kernel_rfl) ?_)
       refine (HN.out _ hM4.bel).mono ?_
       rintro e w5 ⟨rfl, hb5⟩
       have hM5 := hM4.call hb5
       clear hM4 hb5 HN
       cases hnd : vneeded (mvs l) p with
       | false =>
        have HSq := Lib.hid (HSp.out.symm.trans (if_neg (by rw [hnd]; simp)))
        clear HSp hnd
        go_wp2_with fail
        go_roundw
        case rel => exact ⟨j + 1, mn, hjl, by go_num, rfl, by omega, (show _ = _ from HSq.out.symm), hM5.sub (by simp)⟩
        case measure => simp [intOf]; omega
       | true =>
        have HSq := Lib.hid (HSp.out.symm.trans (if_pos hnd))
        clear HSp hnd
        obtain ⟨b0, b1, b2, b3, b4⟩ := BlM.five hM5.b1
        go_wp2_with fail
        refine (HGk.out _ hM5.bel).mono ?_
        rintro e w6 ⟨A6, c6, m6, rfl, hm6, hN6, hb6⟩
        have hM6 := hM5.call hb6
        clear hM5 hb6 HGk b0 b1 b2 b3 b4
        go_upto_region 12 with (fail)
        refine gen1 (T := fun W => Mm w W [(g5, 46, mfa k xf xt xr xd (some ad2) xp.length xc)] []) ((hM6.alloc _ _).sub (by simp)) (fun w7 hM7 => ?_)
        clear hM6 hN6 hm6
        rcases errv_cases r2 with ⟨h2, hev⟩ | ⟨ke, hk1, hke, hev⟩
        · have HSy := Lib.hid (HSq.out.trans (if_neg (by omega)))
          rw [hev]
          clear hev HSq
          go_wp2_with fail
          go_roundw
          case rel => exact ⟨j + 1, mn + 1, hjl, by go_num, by go_num, by omega, (show _ = _ from HSy.out.symm), hM7⟩
          case measure => simp [intOf]; omega
        · have HSy := Lib.hid (HSq.out.trans (if_pos (by omega)))
          have HEV := Lib.hid hev
          have HT := Lib.hid (HSt.out.symm.trans (if_pos (by rw [HSy.out]; dsimp only; omega)))
          rw [hev]
          clear hev HSq hke
          go_wp2_with fail
          go_ret2
          exact ⟨by rw [HT.out, HSy.out]; dsimp only; rw [HEV.out]; rfl, hM7.bel⟩
     · have hz := Lib.hid (hall.out.symm.trans (by rw [List.drop_eq_nil_of_le (by omega)]; rfl : vckP Sv.l ⟨d, mvs l⟩ k mn j (xp.drop j) = (mn, 0)))
       have HT := Lib.hid (HSt.out.symm.trans (if_neg (by rw [hz.out]; simp)))
       rw [hz.out] at HT
       clear hall
       go_wp2_with fail
       go_roundw
       case rel => exact ⟨k + 1, mn, hlt, by go_num, rfl, by omega, (show _ = _ from HT.out.symm), hM.bel⟩
       case measure => simp [intOf]; omega
  · have hz := Lib.hid (hall.out.symm.trans (by rw [List.drop_eq_nil_of_le (by rw [mvs_len]; omega)]; rfl : vckM Sv.l ⟨d, mvs l⟩ many k ((mvs l).drop k) = (many, 0)))
    clear hall
    go_wp2_with fail
    go_ret2
    exact ⟨by rw [hz.out]; rfl, hbr⟩
end
section
open Go.RowKit Go.Maps Go.Sort
attribute [local go_sem ↓] Go.wp_at_zero Go.wp_at_succ
end
section
open Go.RowKit Go.Shelf
attribute [local go_sem ↓] Go.wp_at_zero Go.wp_at_succ
end
section
open Go.RowKit
section
variable {α : Type}
theorem fusedV_ins (len : α → Nat) (x : Bs × α) : ∀ l : List (Bs × α), fused len (gins x l) = fused len l + len x.2
 | [] => by simp [gins, fused]
 | p :: r => by
  unfold gins
  split
  · simp [fused]; omega
  · have h := fusedV_ins len x r
    unfold fused at h ⊢
    simp only [List.map_cons, List.sum_cons]
    omega
theorem fusedV_del (len : α → Nat) (k : Bs) : ∀ l : List (Bs × α), fused len (gdel k l) ≤ fused len l
 | [] => Nat.le_refl _
 | p :: r => by
  have h := fusedV_del len k r
  unfold gdel at h ⊢
  rw [List.filter_cons]
  split
  · unfold fused at h ⊢
    simp only [List.map_cons, List.sum_cons]
    omega
  · unfold fused at h ⊢
    simp only [List.map_cons, List.sum_cons]
    omega
structure Rm (len : α → Nat) (d : Dk α) (i F : Nat) : Prop where
 fr : Fre d
 rm : 1000000 ≤ d.room
 fw : d.sure.length ≤ i
 sm : fused len d.sure ≤ F
theorem Rm.put {len : α → Nat} {z : α} {d : Dk α} {i F : Nat} (h : Rm len d i F) (hU : Upd d) (hi : i ≤ 200) {n : Bs} (hn : snamed n = true) {v : α} {k : Nat} (hv : len v ≤ k) (hk : k ≤ 65536) (hF : F + k ≤ 1000000) :
 ∃ d', sPut len z d n v = (d', 0) ∧ Rm len d' (i + 1) (F + k) ∧ d'.down = false ∧ d'.pend = [] ∧ d'.sure = gput n v d.sure := by
 have hb := named_begun hn
 have hnn := snamed_named hn
 have hf := h.fr
 have hg0 : gget (begun n) d.shown = none := by rw [shown_nil hU.pn]; exact hU.na.begun (isBegun_begun n)
 have hfu := h.sm
 have hrm := h.rm
 have hfw := h.fw
 have hw : dWrite len d (begun n) v = (dAdd d ⟨0, begun n, [], v⟩, 0) := by
  unfold dWrite
  rw [dWorks_fre hf, if_neg (by simp), if_neg (by rw [hb]; simp), if_neg (by omega), if_neg]
  rw [hg0, shown_nil hU.pn]
  simp only [Option.map_none, Option.getD_none]
  omega
 have hf1 : Fre (dAdd d ⟨0, begun n, [], v⟩) := hf
 obtain ⟨e1, e2, e3, e4⟩ := dSync_fre hf1
 have hs1 : (dAdd d ⟨0, begun n, [], v⟩).shown = gput (begun n) v d.sure := by
  unfold Dk.shown dAdd
  rw [hU.pn]
  exact fdo_putW d.sure n v
 generalize hd2 : (dSync (dAdd d ⟨0, begun n, [], v⟩)).1 = d2 at *
 have hy1 : dSync (dAdd d ⟨0, begun n, [], v⟩) = (d2, 0) := Prod.ext hd2 e1
 have hr2 : d2.room = d.room := by
  rw [← hd2]
  unfold dSync
  rw [dWorks_fre hf1, if_neg (by simp)]
  rfl
 have hn2 : dRename z d2 (begun n) n = (dAdd d2 (putR z n), 0) := by
  unfold dRename
  rw [dWorks_fre e4, if_neg (by simp), if_neg (by rw [hb, hnn]; simp), if_neg]
  · rfl
  · rw [shown_nil e3, e2, hs1, gget_put_same]
    simp
 have hf3 : Fre (dAdd d2 (putR z n)) := e4
 obtain ⟨g1, g2, g3, g4⟩ := dSync_fre hf3
 have hs3 : (dAdd d2 (putR z n)).shown = gput n v d.sure := by
  unfold Dk.shown dAdd
  rw [e3, e2, hs1]
  have := put_two hU.rs hU.na z n v
  rw [fdo_putW] at this
  exact this
 have hr4 : (dSync (dAdd d2 (putR z n))).1.room = d2.room := by
  unfold dSync
  rw [dWorks_fre hf3, if_neg (by simp)]
  rfl
 refine ⟨(dSync (dAdd d2 (putR z n))).1, ?_, ⟨g4, by rw [hr4, hr2]; exact hrm, ?_, ?_⟩, g4.2, g3, g2.trans hs3⟩
 · unfold sPut
   rw [if_neg (by rw [hn]; simp), hw, andThen_ok, hy1, andThen_ok, hn2, andThen_ok]
   exact Prod.ext rfl g1
 · rw [g2, hs3]
   have := glen_put n v d.sure
   omega
 · rw [g2, hs3]
   have h1 := fusedV_ins len (n, v) (gdel n d.sure)
   have h2 := fusedV_del len n d.sure
   unfold gput
   dsimp only at h1
   omega
theorem Kv.step {f0 : Int} {dec : α → Bs} {enc enc2 : Bs → α} {len : α → Nat} {z : α} {d : Dk α} {l : List Mf} {done cs : List Ce} {i : Nat} (h : Kv dec f0 d l done) (hR : Rm len d (2 * i) (70000 * i)) (hi : i ≤ 12) (hf : l.length < 1000000) (hde : ∀ b, dec (enc b) = b) (hle : ∀ b, len (enc b) = b.length) (hde2 : ∀ b, dec (enc2 b) = b) (hle2 : ∀ b, len (enc2 b) = b.length) {t : Int} (ht0 : cmark l ≤ t) (ht : 0 ≤ t ∧ t ≤ 1048576) :
 ((mof (f0 + done.length, cs)).2.2 ≠ 0 ∧ vadd len z enc ⟨d, l⟩ l.length 0 (f0 + done.length, cs) = (ptz, ⟨d, l⟩, (mof (f0 + done.length, cs)).2.2)) ∨
 ∃ p d1 d2, vadd len z enc ⟨d, l⟩ l.length 0 (f0 + done.length, cs) = (p, ⟨d1, l⟩, 0) ∧ (cnext l (f0 + done.length) t [p]).2 = 0 ∧
  vcommit len z dec enc2 ⟨d1, l⟩ (cnext l (f0 + done.length) t [p]).1 = (⟨d2, l ++ [(cnext l (f0 + done.length) t [p]).1]⟩, 0) ∧ Kv dec f0 d2 (l ++ [(cnext l (f0 + done.length) t [p]).1]) (done ++ cs) ∧ Rm len d2 (2 * (i + 1)) (70000 * (i + 1)) ∧ cmark (l ++ [(cnext l (f0 + done.length) t [p]).1]) = t := by
 by_cases hk : (mof (f0 + (done.length : Int), cs)).2.2 = 0
 · right
   obtain ⟨p, b, hm⟩ : ∃ p b, mof (f0 + (done.length : Int), cs) = (p, b, 0) := ⟨_, _, Prod.ext rfl (Prod.ext rfl hk)⟩
   have hb := mof_size hm
   obtain ⟨d1, e1, hR1, u1, u2, u3⟩ := hR.put (z := z) h.toUpd (by omega) (n := label l.length 0) (label_named hf (by omega)) (v := enc b) (k := 10000) (by rw [hle]; omega) (by omega) (by omega)
   obtain ⟨hK1, hx⟩ := h.added hf u1 u2 u3
   have hN := hK1.next hf ht0 ht hm rfl
   have hC := hK1.commits (enc := enc2) (len := len) (z := z) hf ht0 ht hm rfl hx (hde b)
   obtain ⟨d2, e2, hR2, v1, v2, v3⟩ := hR1.put (z := z) hK1.toUpd (by omega) (n := title l.length) (title_named hf) (v := enc2 (mfput (cnext l (f0 + done.length) t [p]).1)) (k := 60000) (by rw [hle2]; exact mfput_len _) (by omega) (by omega)
   rw [e2, if_neg (by simp)] at hC
   refine ⟨p, d1, d2, ?_, by rw [hN], hC, hK1.committed hf hde2 ht0 ht hm rfl hx (hde b) v1 v2 v3, by rw [show 70000 * (i + 1) = 70000 * i + 10000 + 60000 from by omega]; exact hR2, ?_⟩
   · unfold vadd
     dsimp only
     rw [if_neg (by omega), hm]
     dsimp only
     rw [if_neg (by simp), Int.toNat_natCast, show (0 : Int).toNat = 0 from rfl, e1, if_neg (by simp)]
   · unfold cmark
     rw [List.getLast?_concat, hN]
 · left
   refine ⟨hk, ?_⟩
   unfold vadd
   dsimp only
   rw [if_neg (by omega), if_pos hk]
end
theorem Kv.nil {f0 : Int} {dec : Sv → Bs} (room : Int) : Kv dec f0 (dk0 room : Dk Sv) [] [] :=
 ⟨⟨⟨rfl, rfl, Ris.nil, fun _ _ => rfl⟩, rfl, fun _ hn => absurd hn (Nat.not_lt_zero _), fun _ _ => rfl⟩, fun h => absurd rfl h, fun h => absurd rfl h, fun _ => rfl, fun _ hn => absurd hn (Nat.not_lt_zero _)⟩
section
variable {α : Type}
theorem cchk_few (c : Ce) : cchk c ≤ 3 := by
 unfold cchk
 split
 · decide
 · split
   · decide
   · split <;> decide
theorem rchk_few : ∀ l : List Ce, rchk l ≤ 3
 | [] => Nat.zero_le _
 | c :: r => by
  unfold rchk
  split
  · exact cchk_few c
  · exact rchk_few r
theorem schk_few (s : Sg) : schk s ≤ 3 := by
 unfold schk
 split
 · decide
 · split
   · decide
   · split
     · decide
     · exact rchk_few _
theorem mof_few (s : Sg) : (mof s).2.2 ≤ 3 := by
 unfold mof
 split
 · exact schk_few s
 · split
   · exact Nat.le_succ 2
   · exact Nat.zero_le _
def Again (z : α) (d : Dk α) (P : Dk α → Prop) : Prop := ∀ ks, ∃ d2, sOpen z (dStart (dCut ks d)) = (d2, 0) ∧ Fre d2 ∧ d2.pend = [] ∧ (Ris d2.sure → P d2)
theorem Again.mono {z : α} {d : Dk α} {P Q : Dk α → Prop} (h : Again z d P) (hPQ : ∀ d2, Fre d2 → d2.pend = [] → P d2 → Q d2) : Again z d Q := fun ks => by
 obtain ⟨d2, h1, h2, h3, h4⟩ := h ks
 exact ⟨d2, h1, h2, h3, fun hr => hPQ d2 h2 h3 (h4 hr)⟩
theorem Upd.again {z : α} {d : Dk α} (h : Upd d) : Again z d fun d2 => d2.sure = d.sure := fun ks => by
 obtain ⟨c1, c2, c3⟩ := dCut_nil ks h.pn
 have e : dStart (dCut ks d) = ⟨d.room, d.sure, [], -1, false⟩ := by
  unfold dStart
  rw [if_pos c3]
  unfold dCut
  rw [h.pn, kept_non]
  rfl
 rw [e]
 obtain ⟨d2, h1, h2, h3, h4⟩ := open_up (z := z) (room := d.room) h.rs h.rs h.na (names_of h.na) (fun _ _ => rfl)
 exact ⟨d2, h1, h2, h3, h4⟩
theorem Kv.again {f0 : Int} {dec : α → Bs} {z : α} {d : Dk α} {l : List Mf} {done : List Ce} (h : Kv dec f0 d l done) : Again z d fun d2 => Kv dec f0 d2 l done :=
 h.toUpd.again.mono fun _ h2 h3 h4 => h.same h2.2 h3 h4
inductive AddO (f0 : Int) (dec : α → Bs) (z : α) (l : List Mf) (done cs : List Ce) : Pt5 × Vt α × Nat → Prop where
 | left (d : Dk α) (k : Nat) (h0 : k ≠ 0) (h1 : k ≠ 14) (h : Kv dec f0 d l done) : AddO f0 dec z l done cs (ptz, ⟨d, l⟩, k)
 | down (d : Dk α) (hd : d.down = true) (h : Again z d fun d2 => Kv dec f0 d2 l done) : AddO f0 dec z l done cs (ptz, ⟨d, l⟩, 14)
 | done (p : Pt5) (b : List UInt8) (d : Dk α) (x : α) (hm : mof (f0 + done.length, cs) = (p, b, 0)) (h : Kv dec f0 d l done) (hx : gget (label l.length 0) d.sure = some x) (hxb : dec x = b) : AddO f0 dec z l done cs (p, ⟨d, l⟩, 0)
theorem Kv.add {f0 : Int} {dec : α → Bs} {enc : Bs → α} {len : α → Nat} {z : α} {d : Dk α} {l : List Mf} {done cs : List Ce} (h : Kv dec f0 d l done) (hf : l.length < 1000000) (hde : ∀ b, dec (enc b) = b) : AddO f0 dec z l done cs (vadd len z enc ⟨d, l⟩ l.length 0 (f0 + done.length, cs)) := by
 by_cases hk : (mof (f0 + (done.length : Int), cs)).2.2 = 0
 · obtain ⟨p, b, hm⟩ : ∃ p b, mof (f0 + (done.length : Int), cs) = (p, b, 0) := ⟨_, _, Prod.ext rfl (Prod.ext rfl hk)⟩
   have hv : vadd len z enc ⟨d, l⟩ l.length 0 (f0 + done.length, cs) = (if (sPut len z d (label l.length 0) (enc b)).2 ≠ 0 then (ptz, ⟨(sPut len z d (label l.length 0) (enc b)).1, l⟩, (sPut len z d (label l.length 0) (enc b)).2) else (p, ⟨(sPut len z d (label l.length 0) (enc b)).1, l⟩, 0)) := by
    unfold vadd
    dsimp only
    rw [if_neg (by omega), hm]
    dsimp only
    rw [if_neg (by simp), Int.toNat_natCast, show (0 : Int).toNat = 0 from rfl]
   rw [hv]
   have hO := put_out len z h.up h.pn h.rs h.na (label l.length 0) (enc b)
   generalize sPut len z d (label l.length 0) (enc b) = r at hO ⊢
   cases hO with
   | done d1 h1 h2 h3 hn =>
    rw [if_neg (by simp)]
    obtain ⟨g1, g2⟩ := h.added hf h1 h2 h3
    exact .done p b d1 (enc b) hm g1 g2 (hde b)
   | left d1 h1 h2 h3 k h0 h14 =>
    rw [if_pos h0]
    exact .left d1 k h0 h14 (h.same h1 h2 h3)
   | down d1 h1 hn hl hO =>
    rw [if_pos (by simp)]
    refine .down d1 h1 fun ks => ?_
    obtain ⟨d2, e1, e2, e3, e4⟩ := hO ks
    refine ⟨d2, e1, e2, e3, fun hr => ?_⟩
    rcases e4 hr with e | e
    · exact h.same e2.2 e3 e
    · exact (h.added hf e2.2 e3 e).1
 · have hv : vadd len z enc ⟨d, l⟩ l.length 0 (f0 + done.length, cs) = (ptz, ⟨d, l⟩, (mof (f0 + done.length, cs)).2.2) := by
    unfold vadd
    dsimp only
    rw [if_neg (by omega), if_pos hk]
   rw [hv]
   have := mof_few (f0 + (done.length : Int), cs)
   exact .left d _ hk (by omega) h
inductive ComO (f0 : Int) (dec : α → Bs) (z : α) (l : List Mf) (done cs : List Ce) (m : Mf) : Vt α × Nat → Prop where
 | left (d : Dk α) (k : Nat) (h0 : k ≠ 0) (h1 : k ≠ 14) (h : Kv dec f0 d l done) : ComO f0 dec z l done cs m (⟨d, l⟩, k)
 | down (d : Dk α) (hd : d.down = true) (h : Again z d fun d2 => Kv dec f0 d2 l done ∨ Kv dec f0 d2 (l ++ [m]) (done ++ cs)) : ComO f0 dec z l done cs m (⟨d, l⟩, 14)
 | done (d : Dk α) (h : Kv dec f0 d (l ++ [m]) (done ++ cs)) : ComO f0 dec z l done cs m (⟨d, l ++ [m]⟩, 0)
theorem Kv.commit {f0 : Int} {dec : α → Bs} {enc : Bs → α} {len : α → Nat} {z : α} {d : Dk α} {l : List Mf} {done cs : List Ce} (h : Kv dec f0 d l done) (hf : l.length < 1000000) (hde : ∀ b, dec (enc b) = b) {t : Int} (ht0 : cmark l ≤ t) (ht : 0 ≤ t ∧ t ≤ 1048576) {p : Pt5} {b : List UInt8} (hm : mof (f0 + done.length, cs) = (p, b, 0)) {x : α} (hx : gget (label l.length 0) d.sure = some x) (hxb : dec x = b) :
 ComO f0 dec z l done cs (cnext l (f0 + done.length) t [p]).1 (vcommit len z dec enc ⟨d, l⟩ (cnext l (f0 + done.length) t [p]).1) := by
 rw [h.commits (enc := enc) (len := len) (z := z) hf ht0 ht hm rfl hx hxb]
 have hO := put_out len z h.up h.pn h.rs h.na (title l.length) (enc (mfput (cnext l (f0 + done.length) t [p]).1))
 generalize sPut len z d (title l.length) (enc (mfput (cnext l (f0 + done.length) t [p]).1)) = r at hO ⊢
 cases hO with
 | done d1 h1 h2 h3 hn =>
  rw [if_neg (by simp)]
  exact .done d1 (h.committed hf hde ht0 ht hm rfl hx hxb h1 h2 h3)
 | left d1 h1 h2 h3 k h0 h14 =>
  rw [if_pos h0]
  exact .left d1 k h0 h14 (h.same h1 h2 h3)
 | down d1 h1 hn hl hO =>
  rw [if_pos (by simp)]
  refine .down d1 h1 fun ks => ?_
  obtain ⟨d2, e1, e2, e3, e4⟩ := hO ks
  refine ⟨d2, e1, e2, e3, fun hr => ?_⟩
  rcases e4 hr with e | e
  · exact .inl (h.same e2.2 e3 e)
  · exact .inr (h.committed hf hde ht0 ht hm rfl hx hxb e2.2 e3 e)
theorem Kv.opens {f0 : Int} {dec : α → Bs} {z : α} {d d0 : Dk α} {l : List Mf} {done : List Ce} (h : Kv dec f0 d l done) (hf : l.length < 1000000) (ho : sOpen z d0 = (d, 0)) : vopen z dec d0 = (⟨d, l⟩, 0) := h.toGv.opens hf ho
theorem Kv.fuse {f0 : Int} {dec : α → Bs} {d : Dk α} {l : List Mf} {done : List Ce} (h : Kv dec f0 d l done) (k : Int) : Kv dec f0 ({ d with fuse := k } : Dk α) l done := h.same h.up h.pn rfl
theorem cmark_snoc (l : List Mf) (m : Mf) : cmark (l ++ [m]) = m.2.2.2.1 := by
 unfold cmark
 rw [List.getLast?_concat]
end
end
section
open Go.RowKit Go.Shelf
section
variable {w W W' : World} {S : Nat → Prop} {g gv gs : Nat} {d d' : Dk Sv} {l : List Mf} {q : Fp} {lv lv' : List MfV} {E : Option Addr} {cap : Nat}
theorem Vgx.va (h : Vgx W gv gs q d d' lv E lv' W') (hg : q.g = g) (hS : ∀ i, Vtc q d gv gs lv E i → S i) : Va W S W' ∧ Vs W' (grow S W W') g gv d' (mvs lv') := by
 obtain ⟨q', E', cap', hg', hV, hF, hT⟩ := h
 refine ⟨⟨hF.os, hF.tape, hF.output, hF.size, fun i hi hn => hF.block i hi (fun hq => hn (hS i (.inl (.inl hq)))) (fun e => hn (hS i (.inr (.inl e))))⟩, q', gs, lv', E', cap', hg'.trans hg, rfl, hV, fun i hi => ?_⟩
 rcases hT i hi with h1 | h1
 · exact .inl (hS i h1)
 · exact .inr ⟨h1, hV.lt hi⟩
theorem Dgo.va (h : Dgo W q d d' W') (hg : q.g = g) (hS : ∀ i, Tc q d i → S i) : Va W S W' ∧ Ds W' (grow S W W') g d' := by
 obtain ⟨q', hg', hD, hF, hM, hT⟩ := h
 refine ⟨⟨hF.os, hF.tape, hF.output, hF.size, fun i hi hn => hF.block i hi (fun hq => hn (hS i (.inl hq)))⟩, q', hg'.trans hg, hD, fun i hi => ?_⟩
 rcases hT i hi with h1 | h1
 · exact .inl (hS i h1)
 · exact .inr ⟨h1, hD.lt hi⟩
theorem LNew (room : Int) (hr : 0 ≤ room ∧ room ≤ 1073741824) (S : Nat → Prop) (W : World) : Calls Tryz.prog 7 #[.int .i64 room] W fun e W' => ∃ g, e = .returned (.tuple #[.pointer (some ⟨g, 0, none⟩), .nilIface]) ∧ Below W.heap.size W W' ∧ Ds W' (grow S W W') g (dk0 room) := by
 refine (New_any room W).mono ?_
 rintro e W' (⟨h, -⟩ | ⟨-, q, rfl, hD, hM, hb⟩)
 · omega
 · refine ⟨q.g, rfl, hb, q, rfl, hD, fun i hi => ?_⟩
   rcases hi with hi | ⟨s, hs, -⟩
   · exact .inr ⟨hM i hi, hD.ltM hi⟩
   · simp [svs, dk0] at hs
theorem LOpen (h : Ds W S g d) (hK : Kin w W S) (hb : Below w.heap.size w W) (hG : Shg w) (hf : Fok d) (hl : d.sure.length + d.pend.length ≤ 98) :
 Calls Tryz.prog 8 #[.pointer (some ⟨g, 0, none⟩)] W fun e W' => Va W S W' ∧
  ((vopen Sv.nil Sv.l d).2 = 0 ∧ (∃ gv, e = .returned (.tuple #[.pointer (some ⟨gv, 0, none⟩), .nilIface]) ∧ Vs W' (grow S W W') g gv (vopen Sv.nil Sv.l d).1.d (vopen Sv.nil Sv.l d).1.l) ∨
   (vopen Sv.nil Sv.l d).2 ≠ 0 ∧ e = .returned (.tuple #[.pointer none, errv (vopen Sv.nil Sv.l d).2]) ∧ Ds W' (grow S W W') g (vopen Sv.nil Sv.l d).1.d) := by
 obtain ⟨q, rfl, hD, hS⟩ := h
 refine (VOpen_any hD (fun W2 hF => hG.below ?_) hf hl).mono ?_
 · refine Va.below (S := S) ⟨hF.os, hF.tape, hF.output, hF.size, fun i hi hn => hF.block i hi (fun hq => hn (hS i (.inl hq)))⟩ hb hK
 · rintro e W' ⟨q', hg', hD', hF, hT, hor⟩
   refine ⟨⟨hF.os, hF.tape, hF.output, hF.size, fun i hi hn => hF.block i hi (fun hq => hn (hS i (.inl hq)))⟩, ?_⟩
   rcases hor with ⟨h0, gv, gs, lv, E, cap, rfl, hV, hm, hgv, hTc⟩ | ⟨h0, rfl⟩
   · refine .inl ⟨h0, gv, rfl, q', gs, lv, E, cap, hg', hm, hV, fun i hi => ?_⟩
     rcases hTc i hi with h1 | h1
     · exact .inl (hS i h1)
     · exact .inr ⟨h1, hV.lt hi⟩
   · refine .inr ⟨h0, rfl, q', hg', hD', fun i hi => ?_⟩
     rcases hT i hi with h1 | h1
     · exact .inl (hS i h1)
     · exact .inr ⟨h1, hD'.lt hi⟩
theorem LAdd (h : Vs W S g gv d l) (hG : Shg W) (hfo : Fok d) (hd9 : d.sure.length + d.pend.length ≤ 900) {B : Option Addr} {k : Nat} (number place f : Int) (cs : List CeV) (hs : SlC W B k cs) (hl : l.length < 100) (hp : place < 100) :
 Calls Tryz.prog 10 #[.pointer (some ⟨gv, 0, none⟩), .int .i64 number, .int .i64 place, cv f B cs.length k] W fun e W' => ∃ A' c', e = .returned (.tuple #[.agg (pta (vadd svl Sv.nil (fun x => ⟨A', c', x⟩) ⟨d, l⟩ number place (f, cs.map ceOf)).1), errv (vadd svl Sv.nil (fun x => ⟨A', c', x⟩) ⟨d, l⟩ number place (f, cs.map ceOf)).2.2]) ∧ Va W S W' ∧ Vs W' (grow S W W') g gv (vadd svl Sv.nil (fun x => ⟨A', c', x⟩) ⟨d, l⟩ number place (f, cs.map ceOf)).2.1.d l := by
 obtain ⟨q, gs, lv, E, cap, hg, rfl, hV, hS⟩ := h
 refine (VAdd_any hV hG hfo hd9 number place f cs hs (by rwa [mvs_len] at hl) hp).mono ?_
 rintro e W' ⟨A', c', rfl, hO⟩
 exact ⟨A', c', rfl, hO.vgx.va hg hS⟩
theorem LCommit (h : Vs W S g gv d l) (hG : Shg W) (hfo : Fok d) (hd9 : d.sure.length + d.pend.length ≤ 900) (hl9 : l.length ≤ 98) {A : Option Addr} {c : Nat} (x : Mf) (hsp : SlP W A c x.2.2.2.2.2) (hI : MfI x) (hps : x.2.2.2.2.2.length ≤ 99) :
 Calls Tryz.prog 14 #[.pointer (some ⟨gv, 0, none⟩), .agg (mfa x.1 x.2.1 x.2.2.1 x.2.2.2.1 x.2.2.2.2.1 A x.2.2.2.2.2.length c)] W fun e W' => ∃ A' c', e = .returned (errv (vcommit svl Sv.nil Sv.l (fun b => ⟨A', c', b⟩) ⟨d, l⟩ x).2) ∧ Va W S W' ∧ Vs W' (grow S W W') g gv (vcommit svl Sv.nil Sv.l (fun b => ⟨A', c', b⟩) ⟨d, l⟩ x).1.d (vcommit svl Sv.nil Sv.l (fun b => ⟨A', c', b⟩) ⟨d, l⟩ x).1.l := by
 obtain ⟨q, gs, lv, E, cap, hg, rfl, hV, hS⟩ := h
 refine (VCommit_any hV hG hfo hd9 (by rwa [mvs_len] at hl9) x.1 x.2.1 x.2.2.1 x.2.2.2.1 x.2.2.2.2.1 x.2.2.2.2.2 hsp hI hps).mono ?_
 rintro e W' ⟨A', c', lv', rfl, hm, hO⟩
 have h1 := hO.va hg hS
 rw [hm.out] at h1
 exact ⟨A', c', rfl, h1⟩
theorem LRead (h : Vs W S g gv d l) (hG : Shg W) (hF : Few l) (a : Int) (ha : I64 a) : Calls Tryz.prog 15 #[.pointer (some ⟨gv, 0, none⟩), .int .i64 a] W (GivesRd W (vread Sv.l ⟨d, l⟩ a)) := by
 obtain ⟨q, gs, lv, E, cap, hg, rfl, hV, hS⟩ := h
 exact VRead_any hV hG hF a ha
theorem LCheck (h : Vs W S g gv d l) (hG : Shg W) (hF : Few l) : Calls Tryz.prog 24 #[.pointer (some ⟨gv, 0, none⟩)] W fun e W' => e = .returned (.tuple #[.int .i64 ((vcheck Sv.l ⟨d, l⟩).1 : Nat), errv (vcheck Sv.l ⟨d, l⟩).2]) ∧ Below W.heap.size W W' := by
 obtain ⟨q, gs, lv, E, cap, hg, rfl, hV, hS⟩ := h
 exact VCheck_any hV hG hF
theorem LChain (h : Vs W S g gv d l) (hF : Few l) : Calls Tryz.prog 11 #[.pointer (some ⟨gv, 0, none⟩)] W fun e W' => ∃ A c m, e = .returned (.slice A (List.length m) c) ∧ Hid (mvs m = l) ∧ NewM W' W.heap.size A c m ∧ Below W.heap.size W W' := by
 obtain ⟨q, gs, lv, E, cap, hg, rfl, hV, hS⟩ := h
 exact VChain_any hV (by have := hF.len; rw [mvs_len] at this; omega) (fun x hx => by have := hF.ps _ (hF.snd hx); omega)
theorem LFuse (h : Vs W S g gv d l) (k : Int) : Calls Tryz.prog 21 #[.pointer (some ⟨g, 0, none⟩), .int .i64 k] W fun e W' => e = .returned (errv (dFuse d k).2) ∧ Va W S W' ∧ Vs W' (grow S W W') g gv (dFuse d k).1 l := by
 obtain ⟨q, gs, lv, E, cap, rfl, rfl, hV, hS⟩ := h
 refine (Fuse_any hV.st.dsk k).mono ?_
 rintro e W' ⟨rfl, hD, hw⟩
 have h1 : (dFuse d k).1.sure = d.sure ∧ (dFuse d k).1.pend = d.pend := by unfold dFuse; split <;> exact ⟨rfl, rfl⟩
 exact ⟨rfl, (hV.dgo (Dgo.of hD (Frd.of_wr (.inl rfl) hw) h1.1 h1.2)).vgx.va rfl hS⟩
theorem LCut (h : Ds W S g d) (hn : d.pend.length ≤ 1000000) (hL : d.sure.length ≤ 1000000) (keep : List Bool) {B : Option Addr} {kc : Nat} (hK : Sl W 1 B keep.length kc (keep.map Value.bool)) (hKM : keep ≠ [] → ∀ k, B.map (·.block) = some k → ¬ S k) :
 Calls Tryz.prog 22 #[.pointer (some ⟨g, 0, none⟩), .slice B keep.length kc] W fun e W' => e = .returned (.tuple #[]) ∧ Va W S W' ∧ Ds W' (grow S W W') g (dCut keep d) := by
 obtain ⟨q, rfl, hD, hS⟩ := h
 refine (Cut_any hD hn hL keep hK (fun hne ad hA e => hKM hne ad.block (by rw [hA]; rfl) (hS _ (.inl (.inr (.inl e)))))).mono ?_
 rintro e W' ⟨rfl, hO⟩
 exact ⟨rfl, hO.va rfl hS⟩
theorem LStart (h : Ds W S g d) (hn : d.pend.length ≤ 1000000) (hL : d.sure.length ≤ 1000000) :
 Calls Tryz.prog 23 #[.pointer (some ⟨g, 0, none⟩)] W fun e W' => e = .returned (.tuple #[]) ∧ Va W S W' ∧ Ds W' (grow S W W') g (dStart d) := by
 obtain ⟨q, rfl, hD, hS⟩ := h
 cases hd : d.down with
 | true =>
  refine (StartDown_any hD hn hL hd).mono ?_
  rintro e W' ⟨rfl, hO⟩
  exact ⟨rfl, hO.va rfl hS⟩
 | false =>
  refine (StartUp_any hD hd).mono ?_
  rintro e W' ⟨rfl, hO⟩
  exact ⟨rfl, hO.va rfl hS⟩
end
/-! ### what adding and committing leave of a disk -/
theorem vadd_fok {d : Dk Sv} {l : List Mf} {number place : Int} {s : Sg} {enc : Bs → Sv} (h : Fok d) : Fok (vadd svl Sv.nil enc ⟨d, l⟩ number place s).2.1.d := by
 unfold vadd
 split
 · exact h
 · split
   · exact h
   · split <;> exact h.put _ _
theorem vadd_grow {d : Dk Sv} {l : List Mf} {number place : Int} {s : Sg} {enc : Bs → Sv} : (vadd svl Sv.nil enc ⟨d, l⟩ number place s).2.1.d.sure.length + (vadd svl Sv.nil enc ⟨d, l⟩ number place s).2.1.d.pend.length ≤ d.sure.length + d.pend.length + 4 := by
 unfold vadd
 split
 · exact Nat.le_add_right _ _
 · split
   · exact Nat.le_add_right _ _
   · split <;> exact sPut_len _ _ _ _ _
theorem vcommit_fok {d : Dk Sv} {l : List Mf} {x : Mf} {enc : Bs → Sv} (h : Fok d) : Fok (vcommit svl Sv.nil Sv.l enc ⟨d, l⟩ x).1.d := by
 unfold vcommit
 split
 · exact h
 · split
   · exact h
   · split <;> exact h.put _ _
theorem vcommit_grow {d : Dk Sv} {l : List Mf} {x : Mf} {enc : Bs → Sv} : (vcommit svl Sv.nil Sv.l enc ⟨d, l⟩ x).1.d.sure.length + (vcommit svl Sv.nil Sv.l enc ⟨d, l⟩ x).1.d.pend.length ≤ d.sure.length + d.pend.length + 4 := by
 unfold vcommit
 split
 · exact Nat.le_add_right _ _
 · split
   · exact Nat.le_add_right _ _
   · split <;> exact sPut_len _ _ _ _ _
end
end Go.Proofs.YtajfnmohlnkncaaGreatDoor
