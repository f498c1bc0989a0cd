/- WHAT IT HOLDS: vault.Open. | WHAT IT HOLDS: chain.Find. | WHAT IT HOLDS: vault.Read. -/
import Derived.Test.YtajfnmohlnkncaaGreatDoorVaultAgreesG01
import Derived.Test.YtajfnmohlnkncaaGreatDoorVaultAgreesG26
import Derived.Test.YtajfnmohlnkncaaGreatDoorVaultAgreesG24
import Derived.Test.YtajfnmohlnkncaaGreatDoorVaultAgreesG09
import Derived.Test.YtajfnmohlnkncaaGreatDoorVaultAgreesG13
import Derived.Test.YtajfnmohlnkncaaGreatDoorVaultAgreesG16
import Derived.Test.YtajfnmohlnkncaaGreatDoorVaultAgreesG18
import Derived.Test.YtajfnmohlnkncaaGreatDoorVaultAgreesG23
namespace Go.Proofs.YtajfnmohlnkncaaGreatDoor
section
open Go.RowKit Go.Shelf
attribute [local go_sem ↓] Go.wp_at_zero Go.wp_at_succ
theorem pgo_I {z : Int} (hz : z ≤ 1048576) {l : List Pt5} {a : Int} (ha : 0 ≤ a) (h : pgo z a l = 0) : PtsI l := fun p hp => by
 obtain ⟨h1, h2, h3, h4⟩ := pgo_fit hz ha h p hp
 have h5 : ∀ (l : List Pt5) (a : Int), pgo z a l = 0 → p ∈ l → p.2.2.1 ≤ 65536 ∧ 1 ≤ p.2.2.1 := by
  intro l
  induction l with
  | nil => intro a _ hp; cases hp
  | cons q r ih =>
   intro a h hp
   unfold pgo at h
   by_cases h1 : ptchk q a ≠ 0
   · rw [if_pos h1] at h; exact absurd h h1
   rw [if_neg h1] at h
   obtain ⟨g1, g2, g3, g4, g5⟩ := ptchk_ok (Decidable.byContradiction h1)
   rcases List.mem_cons.1 hp with rfl | hp
   · exact ⟨g4, g3⟩
   · exact ih _ h hp
 have h6 := h5 l a h hp
 unfold I64
 exact ⟨by omega, by omega, by omega⟩
theorem mchk_MfI2 {m : Mf} (h : mchk m = 0) : MfI m := by
 obtain ⟨h1, h2, h3, h4, h5, h6, h7, h8⟩ := mchk_ok h
 exact mchk_MfI h (pgo_I (by omega) (by omega) h8)
theorem step_loadM {w : World} {ops : Array Oper} {o : Oper} {a : Act} {K : Act → World → Prop} {Q : Exit → Act → World → Prop} {X : Prop} (hgd : Region.wanted o (yielded ops a.tmps) = true) (x : Operand) (ho : o.op = .load 46 x)
 (ad : Addr) (p : MfV) (hx : a.eval x = .pointer (some ad)) (hc : ∀ j u, (mva p)[j]? = some u → w.cell? (ad.add j) = some u)
 (h : K (a.put o.dst (.agg (mva p))) w) : if Region.wanted o (yielded ops a.tmps) = true then Oper.wp Tryz.prog o a w K Q else X := by
 rw [if_pos hgd]
 exact wp_loadA 46 x ho ad (mva p) hx hc _ Tryz.underlying46 rfl (by rw [mva_size]; kernel_rfl) h
theorem NewM.setLow {w : World} {base g c : Nat} {A : Option Addr} {m : List MfV} (h : NewM w base A c m) (hg : g < base) (i : Nat) (u : Value) : NewM (w.setCell ⟨g, i, none⟩ u) base A c m := ⟨Own.set1 h.1 hg _, fun x hx => ⟨Own.set1 (h.2 x hx).1 hg _, (h.2 x hx).2⟩⟩
theorem NewM.more1 {w w' : World} {base : Nat} {A A' : Option Addr} {c c' : Nat} {m m' : List MfV} {x : MfV} (h : NewM w base A c m) (hp : OwnP w base x.2.1 x.2.2 x.1.2.2.2.2.2) (hI : MfI x.1) (hm : m' = m ++ [x]) (ho : OwnM w' base A' c' m') (hg : w.grownBy w' (A.map (·.block))) : NewM w' base A' c' m' :=
 ⟨ho, fun y hy => by
  rw [hm, List.mem_append] at hy
  rcases hy with hy | hy
  · exact ⟨Own.other (h.2 y hy).1 h.1 hg (by decide), (h.2 y hy).2⟩
  · rw [List.mem_singleton.1 hy]
    exact ⟨Own.other hp h.1 hg (by decide), hI⟩⟩
structure OpS (w1 W : World) (gv gs : Nat) (lv : List MfV) (E : Option Addr) (cap : Nat) : Prop where
 bel : Below w1.heap.size w1 W
 bl : Blk W gv 94 #[.pointer (some ⟨gs, 0, none⟩), .slice E lv.length cap]
 ms : NewM W (gv + 1) E cap lv
theorem OpS.below {w1 W W' : World} {gv gs : Nat} {lv : List MfV} {E : Option Addr} {cap : Nat} (h : OpS w1 W gv gs lv E cap) (hb : Below W.heap.size W W') : OpS w1 W' gv gs lv E cap := ⟨bel_call h.bel hb, h.bl.below hb, h.ms.below hb⟩
theorem OpS.vt {w1 W : World} {gv gs : Nat} {lv : List MfV} {E : Option Addr} {cap : Nat} {q : Fp} {d : Dk Sv} (h : OpS w1 W gv gs lv E cap) (hS : StM w1 gs q d) (hgv : w1.heap.size ≤ gv) : VtM W gv gs q d lv E cap := by
 have hoff : ∀ k, gv + 1 ≤ k → ¬ q.M k := fun k h1 h2 => by have := hS.dsk.ltM h2; omega
 exact ⟨hS.below h.bel, h.bl, h.ms.slm, fun h2 => by have := hS.dsk.ltM h2; omega, fun k hk => ⟨(Own.lt h.ms.1 k hk).2, hoff k (Own.lt h.ms.1 k hk).1⟩, fun x hx k hk => ⟨(Own.lt (h.ms.2 x hx).1 k hk).2, hoff k (Own.lt (h.ms.2 x hx).1 k hk).1⟩, fun h2 => by have := hS.dsk.lt h2; omega,
  ⟨by have := hS.blk.lt; omega, fun k hk => by have := (Own.lt h.ms.1 k hk).1; omega, fun x hx k hk => by have := (Own.lt (h.ms.2 x hx).1 k hk).1; omega⟩⟩
theorem OpS.vtc {w1 W : World} {gv gs : Nat} {lv : List MfV} {E : Option Addr} {cap i : Nat} {q : Fp} {d : Dk Sv} (h : OpS w1 W gv gs lv E cap) (hi : Vtc q d gv gs lv E i) : Tc q d i ∨ i = gs ∨ gv ≤ i := by
 rcases hi with hi | hi | hi | hi | ⟨x, hx, hi⟩
 · exact .inl hi
 · exact .inr (.inr (by omega))
 · exact .inr (.inl hi)
 · have := (Own.lt h.ms.1 i hi).1
   exact .inr (.inr (by omega))
 · have := (Own.lt (h.ms.2 x hx).1 i hi).1
   exact .inr (.inr (by omega))
def msv (g : Nat) (W : World) : Nat := 100 - (match W.cell? ⟨g, 1, none⟩ with | some (.slice _ n _) => n | _ => 0)
theorem msv_eq {W : World} {g gs n c : Nat} {E : Option Addr} (h : Blk W g 94 #[.pointer (some ⟨gs, 0, none⟩), .slice E n c]) : msv g W = 100 - n := by
 have e : W.cell? ⟨g, 1, none⟩ = some (.slice E n c) := h.cell 1
 unfold msv
 rw [e]
theorem vgo_succ (d : Dk Sv) (k : Nat) (l : List Mf) : vgo Sv.l d (k + 1) l = if (sGetL Sv.l d (title l.length)).2 = 4 then (l, 0)
 else if (sGetL Sv.l d (title l.length)).2 ≠ 0 then ([], (sGetL Sv.l d (title l.length)).2)
 else if (mfTake (sGetL Sv.l d (title l.length)).1).2 ≠ 0 then ([], (mfTake (sGetL Sv.l d (title l.length)).1).2)
 else vgo Sv.l d k (l ++ [(mfTake (sGetL Sv.l d (title l.length)).1).1]) := rfl
theorem sGetL_there {d : Dk Sv} {n : Bs} (h : (sGetL Sv.l d n).2 = 0) : (gget n d.shown).isSome = true := by
 unfold sGetL sGet dRead at h
 split at h
 · cases h
 · split at h
   · cases h
   · cases hg : gget n d.shown with
     | none => rw [hg] at h; cases h
     | some v => rfl
def VOp (w : World) (q : Fp) (d : Dk Sv) (e : Ending) (w' : World) : Prop :=
 ∃ q', q'.g = q.g ∧ Dsk w' q' (vopen Sv.nil Sv.l d).1.d ∧ Frd q w w' ∧ (∀ i, Tc q' (vopen Sv.nil Sv.l d).1.d i → Tc q d i ∨ w.heap.size ≤ i) ∧
  ((vopen Sv.nil Sv.l d).2 = 0 ∧ (∃ gv gs l E cap, e = .returned (.tuple #[.pointer (some ⟨gv, 0, none⟩), .nilIface]) ∧ VtM w' gv gs q' (vopen Sv.nil Sv.l d).1.d l E cap ∧ mvs l = (vopen Sv.nil Sv.l d).1.l ∧ w.heap.size ≤ gv ∧ ∀ i, Vtc q' (vopen Sv.nil Sv.l d).1.d gv gs l E i → Tc q d i ∨ w.heap.size ≤ i)
   ∨ (vopen Sv.nil Sv.l d).2 ≠ 0 ∧ e = .returned (.tuple #[.pointer none, errv (vopen Sv.nil Sv.l d).2]))
set_option maxRecDepth 100000 in
set_option maxHeartbeats 4000000 in
theorem VOpen_any {w : World} {q : Fp} {d : Dk Sv} (h : Dsk w q d) (hG : ∀ W, Frd q w W → Shg W) (hf : Fok d) (hl : d.sure.length + d.pend.length ≤ 98) :
 Calls Tryz.prog 8 #[.pointer (some ⟨q.g, 0, none⟩)] w fun e w' => VOp w q d e w' := by
 have HO := Lib.hid (SOpen_any h hf (by omega))
 have hln := fun h0 => sOpen_len (z := Sv.nil) (d := d) h0
 have HV := Lib.hid (show vopen Sv.nil Sv.l d = if (sOpen Sv.nil d).2 ≠ 0 then (⟨(sOpen Sv.nil d).1, []⟩, (sOpen Sv.nil d).2)
  else (⟨(sOpen Sv.nil d).1, (vend (vgo Sv.l (sOpen Sv.nil d).1 ((sOpen Sv.nil d).1.shown.length + 1) [])).1⟩, (vend (vgo Sv.l (sOpen Sv.nil d).1 ((sOpen Sv.nil d).1.shown.length + 1) [])).2) from rfl)
 have HG := Lib.hid hG
 obtain ⟨g0, hgq⟩ : ∃ g0, q.g = g0 := ⟨_, rfl⟩
 rw [hgq] at HO ⊢
 have Hgq := Lib.hid hgq
 clear hG h hf hgq
 unfold OpG at HO
 generalize sOpen Sv.nil d = so at *
 obtain ⟨d1, k1⟩ := so
 dsimp only at HO HV hln
 go_enter Tryz.func8, Tryz.ntmps8
 go_wp2_with fail
 refine HO.out.mono ?_
 clear HO
 rintro e w1 ⟨q1, hg1, hD1, hF1, hM1, hT1, hor⟩
 have Hg1 := Lib.hid hg1
 have HD1 := Lib.hid hD1
 clear hg1 hD1
 rcases hor with ⟨h0, gs, rfl, hS1, hgs⟩ | ⟨h0, rfl⟩
 rotate_left
 · have HT := Lib.hid (HV.out.trans (if_pos h0))
   obtain ⟨ev, hev⟩ : ∃ ev : Int, errv k1 = .iface 60 (.int .i64 ev) := by
    rcases errv_cases k1 with ⟨h1, -⟩ | ⟨k', -, -, h1⟩
    · exact absurd h1 h0
    · exact ⟨k', h1⟩
   have HE := Lib.hid hev
   rw [hev]
   clear hev HV
   go_wp2_with fail
   go_ret2
   exact ⟨q1, Hg1.out, by rw [HT.out]; exact HD1.out, hF1, by rw [HT.out]; exact hT1, .inr ⟨by rw [HT.out]; exact h0, by rw [HT.out]; dsimp only; rw [HE.out]; rfl⟩⟩
 · have HT0 := Lib.hid (HV.out.trans (if_neg (by omega)))
   have hsh : d1.shown.length ≤ 98 := by
    have h1 := hln h0
    have h2 := flen_dos d1.sure d1.pend
    unfold Dk.shown
    omega
   generalize hgo : vgo Sv.l d1 (d1.shown.length + 1) [] = G at HT0
   have HGo := Lib.hid hgo
   have HS1 := Lib.hid hS1
   have HG1 := Lib.hid (fun W (hh : Below w1.heap.size w1 W) => HG.out W (hF1.trans (Frd.of_below (q := q1) hh) hM1))
   have hst0 : OpS w1 (w1.alloc (.cells #[.pointer (some ⟨gs, 0, none⟩), .slice none 0 0] 94)) w1.heap.size gs [] none 0 := ⟨below_new _ _, Blk.new _ _ _, Own.none_ _ _ _ _, fun x hx => by simp at hx⟩
   clear HV hln hgo hS1 HG h0
   go_wp2_with fail
   go_loopw [] (fun wr => ∃ (lv : List MfV) (E : Option Addr) (cap : Nat), OpS w1 wr w1.heap.size gs lv E cap ∧ lv.length ≤ d1.shown.length ∧ Hid (∀ n, n < lv.length → (gget (title n) d1.shown).isSome = true) ∧ Hid (vgo Sv.l d1 (d1.shown.length + 1 - lv.length) (mvs lv) = G)) (fun wr => msv w1.heap.size wr)
   case atStart => exact ⟨[], none, 0, hst0, Nat.zero_le _, Lib.hid (fun n hn => absurd hn (Nat.not_lt_zero n)), HGo⟩
   case round =>
    clear hst0 HGo
    obtain ⟨lv, E, cap, hO, hlN, hti, hgo⟩ := hrel
    have HSt := Lib.hid (((vgo_succ d1 (d1.shown.length - lv.length) (mvs lv)).symm.trans (by rw [show d1.shown.length - lv.length + 1 = d1.shown.length + 1 - lv.length from by omega])).trans hgo.out)
    rw [mvs_len] at HSt
    have HTl := Lib.hid (fun W => Title_any lv.length W (by omega))
    have hlab : (title lv.length).length ≤ 9223372036854775807 := by rw [title_len (by omega)]; decide
    have HGt := Lib.hid (fun W (hh : Below w1.heap.size w1 W) => SGet_any (HS1.out.below hh) (title lv.length) hlab)
    have hsk := HS1.out.dsk.short (title lv.length)
    have hgb := Lib.hid (show ((sGet d1 (title lv.length)).1.map Sv.l).getD [] = (sGetL Sv.l d1 (title lv.length)).1 from rfl)
    have hgn := Lib.hid (show (sGet d1 (title lv.length)).2 = (sGetL Sv.l d1 (title lv.length)).2 from rfl)
    have HSo := Lib.hid (fun h => sGetL_there (d := d1) (n := title lv.length) h)
    rw [hgb.out, hgn.out] at HGt
    have HTi := Lib.hid (fun (hh : (gget (title lv.length) d1.shown).isSome = true) n (hn : n < lv.length + 1) => (show (gget (title n) d1.shown).isSome = true from by
     rcases Nat.lt_or_ge n lv.length with h9 | h9
     · exact hti.out n h9
     · obtain rfl : n = lv.length := by omega
       exact hh))
    generalize sGetL Sv.l d1 (title lv.length) = rr at *
    obtain ⟨rb, rn⟩ := rr
    dsimp only at HGt HSt hsk HSo
    have HMs := Lib.hid (msv_eq hO.bl)
    have he4 := errv_is4N rn
    have hg4 := errv_g4N rn
    have hmx := hO.ms.1.sl.2.1
    have hmx2 := hO.ms.1.sl.2.2.1
    unfold maxLen at hmx2
    obtain ⟨v0, v1, -, -⟩ := hO.bl.two
    generalize title lv.length = tl at *
    clear hgo hgb hgn hlab hti
    go_wp2_with fail
    refine (HTl.out _).mono ?_
    rintro e w5 ⟨rfl, hb5⟩
    have hO5 := hO.below hb5
    clear hO hb5 HTl v0 v1
    go_wp2_with fail
    refine (HGt.out _ hO5.bel).mono ?_
    rintro e w6 ⟨A6, c6, m6, rfl, hm6, ho6, hb6⟩
    have hO6 := hO5.below hb6
    have hlo := hO5.bel.size
    have hlv := hO5.bl.lt
    clear hO5 hb6 HGt
    by_cases h4 : rn = 4
    · -- the last one
      have HEnd := Lib.hid (HSt.out.symm.trans (if_pos h4))
      subst h4
      have hd4 : decide ((4 : Nat) = 4) = true := rfl
      rw [hd4] at he4
      generalize errv 4 = ev at *
      have HV := Lib.hid (show vopen Sv.nil Sv.l d = (⟨d1, (if (ckl (mvs lv)).2 ≠ 0 then ([], (ckl (mvs lv)).2) else (mvs lv, 0)).1⟩, (if (ckl (mvs lv)).2 ≠ 0 then (([] : List Mf), (ckl (mvs lv)).2) else (mvs lv, 0)).2) from by
       rw [HT0.out, HEnd.out]
       rfl)
      have HCk := Lib.hid (ChCheck_any lv w6 (HG1.out _ hO6.bel) hO6.ms.slm)
      have HVt := Lib.hid (fun W (hh : Below w6.heap.size w6 W) => (hO6.below hh).vt HS1.out (Nat.le_refl _))
      have HVc := Lib.hid (fun i (hi : Vtc q1 d1 w1.heap.size gs lv E i) => hO6.vtc hi)
      have hbl := hO6.bel
      obtain ⟨v0, v1, -, -⟩ := hO6.bl.two
      generalize ckl (mvs lv) = ck at *
      obtain ⟨ck1, ck2⟩ := ck
      dsimp only at HV
      clear hd4 HSt HT0 HEnd hm6 ho6 HSo HTi
      go_wp2_with fail
      refine HCk.out.mono ?_
      rintro e w7 ⟨rfl, hb7⟩
      dsimp only
      rcases errv_cases ck2 with ⟨h2, hev⟩ | ⟨ke, hk1, hke, hev⟩
      · have HT := Lib.hid (show vopen Sv.nil Sv.l d = (⟨d1, mvs lv⟩, 0) from by rw [HV.out, if_neg (by omega)])
        rw [hev]
        clear hev HV HCk v0 v1
        go_wp2_with fail
        go_ret2
        exact ⟨q1, Hg1.out, by rw [HT.out]; exact HD1.out.below (bel_call hbl hb7), hF1.trans (Frd.of_below (q := q1) (bel_call hbl hb7)) hM1, by rw [HT.out]; exact hT1, .inl ⟨by rw [HT.out], w1.heap.size, gs, lv, E, cap, rfl, by rw [HT.out]; exact HVt.out _ hb7, by rw [HT.out], hF1.size, fun i hi => by
         rw [HT.out] at hi
         rcases HVc.out i hi with h9 | h9 | h9
         · exact hT1 i h9
         · exact .inr (by omega)
         · exact .inr (Nat.le_trans hF1.size h9)⟩⟩
      · have HT := Lib.hid (show vopen Sv.nil Sv.l d = (⟨d1, []⟩, ck2) from by rw [HV.out, if_pos (by omega)])
        have HEV := Lib.hid hev
        have hne : ck2 ≠ 0 := by omega
        rw [hev]
        clear hev HV HCk v0 v1 hke
        go_wp2_with fail
        go_ret2
        exact ⟨q1, Hg1.out, by rw [HT.out]; exact HD1.out.below (bel_call hbl hb7), hF1.trans (Frd.of_below (q := q1) (bel_call hbl hb7)) hM1, by rw [HT.out]; exact hT1, .inr ⟨by rw [HT.out]; exact hne, by rw [HT.out]; dsimp only; rw [HEV.out]; rfl⟩⟩
    have hd4 : decide (rn = 4) = false := decide_eq_false h4
    rw [hd4] at he4
    have HS2 := Lib.hid (HSt.out.symm.trans (if_neg h4))
    clear hd4 h4 HSt
    by_cases h0 : rn = 0
    rotate_left
    · have HEnd := Lib.hid (HS2.out.trans (if_pos h0))
      have HT := Lib.hid (show vopen Sv.nil Sv.l d = (⟨d1, []⟩, rn) from by
       rw [HT0.out, HEnd.out]
       unfold vend
       rw [if_pos h0])
      obtain ⟨ev, hev⟩ : ∃ ev : Int, errv rn = .iface 60 (.int .i64 ev) := by
       rcases errv_cases rn with ⟨h1, -⟩ | ⟨k', -, -, h1⟩
       · exact absurd h1 h0
       · exact ⟨k', h1⟩
      have HE := Lib.hid hev
      have hbl := hO6.bel
      rw [hev] at he4 hg4 ⊢
      clear hev HS2 HT0 HEnd hm6 ho6 hO6
      go_wp2_with fail
      go_ret2
      exact ⟨q1, Hg1.out, by rw [HT.out]; exact HD1.out.below hbl, hF1.trans (Frd.of_below (q := q1) hbl) hM1, by rw [HT.out]; exact hT1, .inr ⟨by rw [HT.out]; exact h0, by rw [HT.out]; dsimp only; rw [HE.out]; rfl⟩⟩
    have HTi2 := Lib.hid (HTi.out (HSo.out h0))
    have HS3 := Lib.hid (HS2.out.trans (if_neg (by omega)))
    subst h0
    rw [show errv 0 = Value.nilIface from rfl] at he4 hg4 ⊢
    have HTk := Lib.hid (MTake_any A6 c6 m6 w6 ho6.sl (by rw [hm6.out]; omega))
    rw [hm6.out] at HTk
    have HBk := Lib.hid (fun (hb : (mfTake rb).2 = 0) => mchk_MfI2 (mfTake_back (b := rb) (x := (mfTake rb).1) (Prod.ext rfl hb)).1)
    generalize mfTake rb = tk at *
    obtain ⟨x, xe⟩ := tk
    obtain ⟨xn, xf, xt, xr, xd, xp⟩ := x
    unfold GivesMf at HTk
    dsimp only at HTk HS3 HBk
    obtain rfl : rb = m6 := hm6.out.symm
    clear HS2 hm6 HSo HTi ho6
    go_wp2_with fail
    refine HTk.out.mono ?_
    clear HTk he4 hg4
    rintro e w7 ⟨A7, c7, m7, rfl, hm7, ho7, hb7⟩
    have hO7 := hO6.below hb7
    obtain rfl : xp = m7 := hm7.out.symm
    have hmz := Lib.hid (mfa_size xn xf xt xr xd A7 xp.length c7)
    have hmy := Lib.hid (mfa_all xn xf xt xr xd A7 xp.length c7)
    have hO7p := Own.more (base' := w1.heap.size + 1) ho7 hO6.bl.lt
    clear hO6 hb7 hm7 ho7
    go_upto_region 10 with ((refine wpl_storeN rfl 46 _ _ rfl _ (mfa xn xf xt xr xd A7 xp.length c7) 46 rfl rfl (by rw [hmz.out]; kernel_rfl) (by rw [hmz.out]; rfl) hmy.out ?_))
    refine gen1 (T := fun W => OpS w1 W w1.heap.size gs lv E cap ∧ OwnP W (w1.heap.size + 1) A7 c7 xp ∧ Blk W w7.heap.size 46 (mva ((xn, xf, xt, xr, xd, xp), A7, c7))) ⟨hO7.below (below_new _ _), Own.below hO7p (below_new _ _), Blk.new _ _ _⟩ (fun w8 hT => ?_)
    generalize w7.heap.size = g9 at *
    clear hO7 hO7p
    obtain ⟨hO8, hP8, hB8⟩ := hT
    rcases errv_cases xe with ⟨h2, hev⟩ | ⟨ke, hk1, hke, hev⟩
    rotate_left
    · have HEnd := Lib.hid (HS3.out.trans (if_pos (by omega)))
      have HT := Lib.hid (show vopen Sv.nil Sv.l d = (⟨d1, []⟩, xe) from by
       rw [HT0.out, HEnd.out]
       unfold vend
       rw [if_pos (by dsimp only; omega)])
      have HEV := Lib.hid hev
      have hbl := hO8.bel
      have hne : xe ≠ 0 := by omega
      rw [hev]
      clear hev hke HS3 HT0 HEnd hO8 hP8 hB8
      go_wp2_with fail
      go_ret2
      exact ⟨q1, Hg1.out, by rw [HT.out]; exact HD1.out.below hbl, hF1.trans (Frd.of_below (q := q1) hbl) hM1, by rw [HT.out]; exact hT1, .inr ⟨by rw [HT.out]; exact hne, by rw [HT.out]; dsimp only; rw [HEV.out]; rfl⟩⟩
    have HS4 := Lib.hid (HS3.out.trans (if_neg (by omega)))
    have HI := Lib.hid (HBk.out h2)
    rw [hev]
    clear hev HS3 HBk h2
    go_upto_region 12 with (fail)
    have hbd : Below w1.heap.size w1 w8.drew := hO8.bel.drew
    have hcd : Blk w8.drew w1.heap.size 94 #[.pointer (some ⟨gs, 0, none⟩), .slice E lv.length cap] := hO8.bl.drew
    have hmd : NewM w8.drew (w1.heap.size + 1) E cap lv := hO8.ms
    have hpd : OwnP w8.drew (w1.heap.size + 1) A7 c7 xp := hP8
    have hkd : Blk w8.drew g9 46 (mva ((xn, xf, xt, xr, xd, xp), A7, c7)) := hB8.drew
    clear hO8 hP8 hB8
    refine wp_region_held_drew (S := (fun W => Below w1.heap.size w1 W)) (by kernel_rfl) ?_ (fun hHeld => ?_)
    · first | with_reducible exact hbd | with_reducible exact hHeld
    refine gen0 (T := fun W => ((fun W => Below w1.heap.size w1 W)) W ∧ OwnP W (w1.heap.size + 1) A7 c7 xp ∧ Blk W w1.heap.size 94 #[.pointer (some ⟨gs, 0, none⟩), .slice E lv.length cap] ∧ NewM W (w1.heap.size + 1) E cap lv ∧ Blk W g9 46 (mva ((xn, xf, xt, xr, xd, xp), A7, c7)) ∧ True) ?_ (fun wq1 hT => ?_)
    · exact ⟨by (with_reducible exact hbd), by (with_reducible assumption), by (with_reducible assumption), by (with_reducible assumption), by (with_reducible assumption), trivial⟩
    (try clear f0 f1 f2 f3 f4 f5 f6 f7 f8 f9 f10 f11)
    obtain ⟨hHeld, f0, f1, f2, f3, -⟩ := hT
    refine wTk (i := 0) (oi := ⟨some 48, _, _, _, _, _⟩) (v := ?_) rfl ⟨by kernel_rfl, ?_⟩ (by assumption) ?_
    rotate_left
    · (intro wS hSw; (try dsimp only at hSw); clear hSw; go_simp; (try with_reducible rfl))
    (try simp only [Act.put, pS0, pS1, pS2])
    refine wTk (i := 1) (oi := ⟨some 49, _, _, _, _, _⟩) (v := ?_) rfl ⟨by kernel_rfl, ?_⟩ (by assumption) ?_
    rotate_left
    · (intro wS hSw; (try dsimp only at hSw); clear hSw; go_simp; (try with_reducible rfl))
    (try simp only [Act.put, pS0, pS1, pS2])
    refine wTk (i := 2) (oi := ⟨some 50, _, _, _, _, _⟩) (v := ?_) rfl ⟨by kernel_rfl, ?_⟩ (by assumption) ?_
    rotate_left
    · (intro wS hSw; (try dsimp only at hSw); clear hSw; go_simp; (try with_reducible rfl))
    (try simp only [Act.put, pS0, pS1, pS2])
    refine wTk (i := 3) (oi := ⟨some 51, _, _, _, _, _⟩) (v := ?_) rfl ⟨by kernel_rfl, ?_⟩ (by assumption) ?_
    rotate_left
    · (intro wS hSw; (try dsimp only at hSw); clear hSw; go_simp; (try with_reducible rfl))
    (try simp only [Act.put, pS0, pS1, pS2])
    refine wpAnyH_ready (rs := [4, 5]) (by kernel_rfl) (by simp) ?_
    refine AllReadyH.cons (o := ⟨some 52, _, _, _, _, _⟩) rfl (fun K hK => ?_) ?_
    · ((obtain ⟨s0, s1, sf0, sf1⟩ := f1.two; go_simp))
      refine hK.out _ _ ?_ (fun _ => ?_)
      · ((try dsimp only); (with_reducible exact hHeld))
      clear hK K
      (try simp only [Act.put, pS0, pS1, pS2])
      refine gen0 (T := fun W => ((fun W => Below w1.heap.size w1 W)) W ∧ OwnP W (w1.heap.size + 1) A7 c7 xp ∧ Blk W w1.heap.size 94 #[.pointer (some ⟨gs, 0, none⟩), .slice E lv.length cap] ∧ NewM W (w1.heap.size + 1) E cap lv ∧ Blk W g9 46 (mva ((xn, xf, xt, xr, xd, xp), A7, c7)) ∧ True) ?_ (fun wq2 hT => ?_)
      · exact ⟨by (with_reducible exact hHeld), by (with_reducible assumption), by (with_reducible assumption), by (with_reducible assumption), by (with_reducible assumption), trivial⟩
      (try clear f0 f1 f2 f3 f4 f5 f6 f7 f8 f9 f10 f11)
      obtain ⟨hHeld, f0, f1, f2, f3, -⟩ := hT
      refine wR1 (i := 5) (o := ⟨some 53, _, _, _, _, _⟩) rfl (fun K hK => ?_)
      ((refine step_loadM (by kernel_rfl) _ rfl ⟨g9, 0, none⟩ ((xn, xf, xt, xr, xd, xp), A7, c7) rfl f3.cells ?_))
      refine hK.out _ _ ?_ (fun _ => ?_)
      · ((try dsimp only); (with_reducible exact hHeld))
      clear hK K
      (try simp only [Act.put, pS0, pS1, pS2])
      refine gen0 (T := fun W => ((fun W => Below w1.heap.size w1 W)) W ∧ OwnP W (w1.heap.size + 1) A7 c7 xp ∧ Blk W w1.heap.size 94 #[.pointer (some ⟨gs, 0, none⟩), .slice E lv.length cap] ∧ NewM W (w1.heap.size + 1) E cap lv ∧ True) ?_ (fun wq3 hT => ?_)
      · exact ⟨by (with_reducible exact hHeld), by (with_reducible assumption), by (with_reducible assumption), by (with_reducible assumption), trivial⟩
      (try clear f0 f1 f2 f3 f4 f5 f6 f7 f8 f9 f10 f11)
      obtain ⟨hHeld, f0, f1, f2, -⟩ := hT
      refine wR1 (i := 6) (o := ⟨some 54, _, _, _, _, _⟩) rfl (fun K hK => ?_)
      ((refine step_litM (by kernel_rfl) _ rfl ((xn, xf, xt, xr, xd, xp), A7, c7) rfl ?_))
      refine hK.out _ _ ?_ (fun _ => ?_)
      · ((try dsimp only); (with_reducible exact bel_alloc hHeld _))
      clear hK K
      (try simp only [Act.put, pS0, pS1, pS2])
      refine gen0 (T := fun W => ((fun W => Below w1.heap.size w1 W)) W ∧ OwnP W (w1.heap.size + 1) A7 c7 xp ∧ Blk W w1.heap.size 94 #[.pointer (some ⟨gs, 0, none⟩), .slice E lv.length cap] ∧ NewM W (w1.heap.size + 1) E cap lv ∧ Sl W 37 (some ⟨wq3.heap.size, 0, none⟩) 1 1 ([((xn, xf, xt, xr, xd, xp), A7, c7)].flatMap mvl) ∧ True) ?_ (fun wq4 hT => ?_)
      · exact ⟨by (with_reducible exact bel_alloc hHeld _), by (with_reducible exact World.ownsRow.alloc f0 _), by (with_reducible exact f1.alloc _), by (with_reducible exact f2.below (below_new _ _)), by (with_reducible exact litM _ _), trivial⟩
      (try clear f0 f1 f2 f3 f4 f5 f6 f7 f8 f9 f10 f11)
      obtain ⟨hHeld, f0, f1, f2, f3, -⟩ := hT
      refine wR1 (i := 7) (o := ⟨some 55, _, _, _, _, _⟩) rfl (fun K hK => ?_)
      (refine step_mans (by kernel_rfl) (.tmp 52) (.tmp 54) rfl (w1.heap.size + 1) E cap lv rfl f2.1 (some ⟨_, 0, none⟩) 1 1 [((xn, xf, xt, xr, xd, xp), A7, c7)] rfl rfl f3 (by simp; omega) (Blk.lt f1) ?_; intro A3 c3 m3 w3 hm3 ho3 hg7 hb7; have hN3 := NewM.more1 (x := ((xn, xf, xt, xr, xd, xp), A7, c7)) f2 f0 HI.out hm3.out ho3 hg7)
      refine hK.out _ _ ?_ (fun _ => ?_)
      · ((try dsimp only); (exact hHeld.trans (hb7.mono (by omega))))
      clear hK K
      (try simp only [Act.put, pS0, pS1, pS2])
      refine gen0 (T := fun W => ((fun W => Below w1.heap.size w1 W)) W ∧ OwnP W (w1.heap.size + 1) A7 c7 xp ∧ Blk W w1.heap.size 94 #[.pointer (some ⟨gs, 0, none⟩), .slice E lv.length cap] ∧ NewM W (w1.heap.size + 1) A3 c3 m3 ∧ True) ?_ (fun wq5 hT => ?_)
      · exact ⟨by (exact hHeld.trans (hb7.mono (by omega))), by (exact Own.other f0 f2.1 hg7 (by decide)), by (exact (hb7.block _ (Nat.lt_succ_self _)).trans f1), by (with_reducible assumption), trivial⟩
      (try clear f0 f1 f2 f3 f4 f5 f6 f7 f8 f9 f10 f11)
      obtain ⟨hHeld, f0, f1, f2, -⟩ := hT
      refine wTk (i := 8) (oi := ⟨some 56, _, _, _, _, _⟩) (v := ?_) rfl ⟨by kernel_rfl, ?_⟩ (by assumption) ?_
      rotate_left
      · (intro wS hSw; (try dsimp only at hSw); clear hSw; go_simp; (try with_reducible rfl))
      (try simp only [Act.put, pS0, pS1, pS2])
      refine wTk (i := 9) (oi := ⟨some 57, _, _, _, _, _⟩) (v := ?_) rfl ⟨by kernel_rfl, ?_⟩ (by assumption) ?_
      rotate_left
      · (intro wS hSw; (try dsimp only at hSw); clear hSw; go_simp; (try with_reducible rfl))
      (try simp only [Act.put, pS0, pS1, pS2])
      refine wR1 (i := 10) (o := ⟨none, _, _, _, _, _⟩) rfl (fun K hK => ?_)
      ((obtain ⟨s0, s1, sf0, sf1⟩ := f1.two; go_simp))
      refine hK.out _ _ ?_ (fun _ => ?_)
      · ((try dsimp only); (exact bel_set hHeld (by dsimp only; omega) _))
      clear hK K
      (try simp only [Act.put, pS0, pS1, pS2])
      refine gen0 (T := fun W => ((fun W => Below w1.heap.size w1 W)) W ∧ OwnP W (w1.heap.size + 1) A7 c7 xp ∧ Blk W w1.heap.size 94 #[.pointer (some ⟨gs, 0, none⟩), .slice A3 m3.length c3] ∧ NewM W (w1.heap.size + 1) A3 c3 m3 ∧ True) ?_ (fun wq6 hT => ?_)
      · exact ⟨by (exact bel_set hHeld (by dsimp only; omega) _), by (exact Own.set1 f0 (Nat.lt_succ_self _) _), by (exact f1.set_ 1 _), by (exact NewM.setLow f2 (Nat.lt_succ_self _) _ _), trivial⟩
      (try clear f0 f1 f2 f3 f4 f5 f6 f7 f8 f9 f10 f11)
      obtain ⟨hHeld, f0, f1, f2, -⟩ := hT
      refine wpAnyH_done (by kernel_rfl) ?_ _
      (go_wp2_with fail; go_roundw; (case rel => exact ⟨m3, A3, c3, ⟨hHeld, f1, f2⟩, by rw [hm3.out]; simp; have := titles_few (lv.length + 1) d1.shown (fun n hn => HTi2.out n hn); omega, Lib.hid (fun n hn => HTi2.out n (by rw [hm3.out] at hn; simpa using hn)), Lib.hid (by rw [show mvs m3 = mvs lv ++ [(xn, xf, xt, xr, xd, xp)] from by rw [hm3.out]; simp [mvs], show d1.shown.length + 1 - m3.length = d1.shown.length - lv.length from by rw [hm3.out]; simp <;> omega]; exact HS4.out.symm)⟩); (case measure => (rw [msv_eq f1, HMs.out, hm3.out]; simp; omega)))
    refine AllReadyH.cons (o := ⟨some 53, _, _, _, _, _⟩) rfl (fun K hK => ?_) ?_
    · ((refine step_loadM (by kernel_rfl) _ rfl ⟨g9, 0, none⟩ ((xn, xf, xt, xr, xd, xp), A7, c7) rfl f3.cells ?_))
      refine hK.out _ _ ?_ (fun _ => ?_)
      · ((try dsimp only); (with_reducible exact hHeld))
      clear hK K
      (try simp only [Act.put, pS0, pS1, pS2])
      refine gen0 (T := fun W => ((fun W => Below w1.heap.size w1 W)) W ∧ OwnP W (w1.heap.size + 1) A7 c7 xp ∧ Blk W w1.heap.size 94 #[.pointer (some ⟨gs, 0, none⟩), .slice E lv.length cap] ∧ NewM W (w1.heap.size + 1) E cap lv ∧ True) ?_ (fun wq7 hT => ?_)
      · exact ⟨by (with_reducible exact hHeld), by (with_reducible assumption), by (with_reducible assumption), by (with_reducible assumption), trivial⟩
      (try clear f0 f1 f2 f3 f4 f5 f6 f7 f8 f9 f10 f11)
      obtain ⟨hHeld, f0, f1, f2, -⟩ := hT
      refine wpAnyH_ready (rs := [4, 6]) (by kernel_rfl) (by simp) ?_
      refine AllReadyH.cons (o := ⟨some 52, _, _, _, _, _⟩) rfl (fun K hK => ?_) ?_
      · ((obtain ⟨s0, s1, sf0, sf1⟩ := f1.two; go_simp))
        refine hK.out _ _ ?_ (fun _ => ?_)
        · ((try dsimp only); (with_reducible exact hHeld))
        clear hK K
        (try simp only [Act.put, pS0, pS1, pS2])
        refine gen0 (T := fun W => ((fun W => Below w1.heap.size w1 W)) W ∧ OwnP W (w1.heap.size + 1) A7 c7 xp ∧ Blk W w1.heap.size 94 #[.pointer (some ⟨gs, 0, none⟩), .slice E lv.length cap] ∧ NewM W (w1.heap.size + 1) E cap lv ∧ True) ?_ (fun wq8 hT => ?_)
        · exact ⟨by (with_reducible exact hHeld), by (with_reducible assumption), by (with_reducible assumption), by (with_reducible assumption), trivial⟩
        (try clear f0 f1 f2 f3 f4 f5 f6 f7 f8 f9 f10 f11)
        obtain ⟨hHeld, f0, f1, f2, -⟩ := hT
        refine wR1 (i := 6) (o := ⟨some 54, _, _, _, _, _⟩) rfl (fun K hK => ?_)
        ((refine step_litM (by kernel_rfl) _ rfl ((xn, xf, xt, xr, xd, xp), A7, c7) rfl ?_))
        refine hK.out _ _ ?_ (fun _ => ?_)
        · ((try dsimp only); (with_reducible exact bel_alloc hHeld _))
        clear hK K
        (try simp only [Act.put, pS0, pS1, pS2])
        refine gen0 (T := fun W => ((fun W => Below w1.heap.size w1 W)) W ∧ OwnP W (w1.heap.size + 1) A7 c7 xp ∧ Blk W w1.heap.size 94 #[.pointer (some ⟨gs, 0, none⟩), .slice E lv.length cap] ∧ NewM W (w1.heap.size + 1) E cap lv ∧ Sl W 37 (some ⟨wq8.heap.size, 0, none⟩) 1 1 ([((xn, xf, xt, xr, xd, xp), A7, c7)].flatMap mvl) ∧ True) ?_ (fun wq9 hT => ?_)
        · exact ⟨by (with_reducible exact bel_alloc hHeld _), by (with_reducible exact World.ownsRow.alloc f0 _), by (with_reducible exact f1.alloc _), by (with_reducible exact f2.below (below_new _ _)), by (with_reducible exact litM _ _), trivial⟩
        (try clear f0 f1 f2 f3 f4 f5 f6 f7 f8 f9 f10 f11)
        obtain ⟨hHeld, f0, f1, f2, f3, -⟩ := hT
        refine wR1 (i := 7) (o := ⟨some 55, _, _, _, _, _⟩) rfl (fun K hK => ?_)
        (refine step_mans (by kernel_rfl) (.tmp 52) (.tmp 54) rfl (w1.heap.size + 1) E cap lv rfl f2.1 (some ⟨_, 0, none⟩) 1 1 [((xn, xf, xt, xr, xd, xp), A7, c7)] rfl rfl f3 (by simp; omega) (Blk.lt f1) ?_; intro A3 c3 m3 w3 hm3 ho3 hg7 hb7; have hN3 := NewM.more1 (x := ((xn, xf, xt, xr, xd, xp), A7, c7)) f2 f0 HI.out hm3.out ho3 hg7)
        refine hK.out _ _ ?_ (fun _ => ?_)
        · ((try dsimp only); (exact hHeld.trans (hb7.mono (by omega))))
        clear hK K
        (try simp only [Act.put, pS0, pS1, pS2])
        refine gen0 (T := fun W => ((fun W => Below w1.heap.size w1 W)) W ∧ OwnP W (w1.heap.size + 1) A7 c7 xp ∧ Blk W w1.heap.size 94 #[.pointer (some ⟨gs, 0, none⟩), .slice E lv.length cap] ∧ NewM W (w1.heap.size + 1) A3 c3 m3 ∧ True) ?_ (fun wq10 hT => ?_)
        · exact ⟨by (exact hHeld.trans (hb7.mono (by omega))), by (exact Own.other f0 f2.1 hg7 (by decide)), by (exact (hb7.block _ (Nat.lt_succ_self _)).trans f1), by (with_reducible assumption), trivial⟩
        (try clear f0 f1 f2 f3 f4 f5 f6 f7 f8 f9 f10 f11)
        obtain ⟨hHeld, f0, f1, f2, -⟩ := hT
        refine wTk (i := 8) (oi := ⟨some 56, _, _, _, _, _⟩) (v := ?_) rfl ⟨by kernel_rfl, ?_⟩ (by assumption) ?_
        rotate_left
        · (intro wS hSw; (try dsimp only at hSw); clear hSw; go_simp; (try with_reducible rfl))
        (try simp only [Act.put, pS0, pS1, pS2])
        refine wTk (i := 9) (oi := ⟨some 57, _, _, _, _, _⟩) (v := ?_) rfl ⟨by kernel_rfl, ?_⟩ (by assumption) ?_
        rotate_left
        · (intro wS hSw; (try dsimp only at hSw); clear hSw; go_simp; (try with_reducible rfl))
        (try simp only [Act.put, pS0, pS1, pS2])
        refine wR1 (i := 10) (o := ⟨none, _, _, _, _, _⟩) rfl (fun K hK => ?_)
        ((obtain ⟨s0, s1, sf0, sf1⟩ := f1.two; go_simp))
        refine hK.out _ _ ?_ (fun _ => ?_)
        · ((try dsimp only); (exact bel_set hHeld (by dsimp only; omega) _))
        clear hK K
        (try simp only [Act.put, pS0, pS1, pS2])
        refine gen0 (T := fun W => ((fun W => Below w1.heap.size w1 W)) W ∧ OwnP W (w1.heap.size + 1) A7 c7 xp ∧ Blk W w1.heap.size 94 #[.pointer (some ⟨gs, 0, none⟩), .slice A3 m3.length c3] ∧ NewM W (w1.heap.size + 1) A3 c3 m3 ∧ True) ?_ (fun wq11 hT => ?_)
        · exact ⟨by (exact bel_set hHeld (by dsimp only; omega) _), by (exact Own.set1 f0 (Nat.lt_succ_self _) _), by (exact f1.set_ 1 _), by (exact NewM.setLow f2 (Nat.lt_succ_self _) _ _), trivial⟩
        (try clear f0 f1 f2 f3 f4 f5 f6 f7 f8 f9 f10 f11)
        obtain ⟨hHeld, f0, f1, f2, -⟩ := hT
        refine wpAnyH_done (by kernel_rfl) ?_ _
        (go_wp2_with fail; go_roundw; (case rel => exact ⟨m3, A3, c3, ⟨hHeld, f1, f2⟩, by rw [hm3.out]; simp; have := titles_few (lv.length + 1) d1.shown (fun n hn => HTi2.out n hn); omega, Lib.hid (fun n hn => HTi2.out n (by rw [hm3.out] at hn; simpa using hn)), Lib.hid (by rw [show mvs m3 = mvs lv ++ [(xn, xf, xt, xr, xd, xp)] from by rw [hm3.out]; simp [mvs], show d1.shown.length + 1 - m3.length = d1.shown.length - lv.length from by rw [hm3.out]; simp <;> omega]; exact HS4.out.symm)⟩); (case measure => (rw [msv_eq f1, HMs.out, hm3.out]; simp; omega)))
      refine AllReadyH.cons (o := ⟨some 54, _, _, _, _, _⟩) rfl (fun K hK => ?_) ?_
      · ((refine step_litM (by kernel_rfl) _ rfl ((xn, xf, xt, xr, xd, xp), A7, c7) rfl ?_))
        refine hK.out _ _ ?_ (fun _ => ?_)
        · ((try dsimp only); (with_reducible exact bel_alloc hHeld _))
        clear hK K
        (try simp only [Act.put, pS0, pS1, pS2])
        refine gen0 (T := fun W => ((fun W => Below w1.heap.size w1 W)) W ∧ OwnP W (w1.heap.size + 1) A7 c7 xp ∧ Blk W w1.heap.size 94 #[.pointer (some ⟨gs, 0, none⟩), .slice E lv.length cap] ∧ NewM W (w1.heap.size + 1) E cap lv ∧ Sl W 37 (some ⟨wq7.heap.size, 0, none⟩) 1 1 ([((xn, xf, xt, xr, xd, xp), A7, c7)].flatMap mvl) ∧ True) ?_ (fun wq12 hT => ?_)
        · exact ⟨by (with_reducible exact bel_alloc hHeld _), by (with_reducible exact World.ownsRow.alloc f0 _), by (with_reducible exact f1.alloc _), by (with_reducible exact f2.below (below_new _ _)), by (with_reducible exact litM _ _), trivial⟩
        (try clear f0 f1 f2 f3 f4 f5 f6 f7 f8 f9 f10 f11)
        obtain ⟨hHeld, f0, f1, f2, f3, -⟩ := hT
        refine wR1 (i := 4) (o := ⟨some 52, _, _, _, _, _⟩) rfl (fun K hK => ?_)
        ((obtain ⟨s0, s1, sf0, sf1⟩ := f1.two; go_simp))
        refine hK.out _ _ ?_ (fun _ => ?_)
        · ((try dsimp only); (with_reducible exact hHeld))
        clear hK K
        (try simp only [Act.put, pS0, pS1, pS2])
        refine gen0 (T := fun W => ((fun W => Below w1.heap.size w1 W)) W ∧ OwnP W (w1.heap.size + 1) A7 c7 xp ∧ Blk W w1.heap.size 94 #[.pointer (some ⟨gs, 0, none⟩), .slice E lv.length cap] ∧ NewM W (w1.heap.size + 1) E cap lv ∧ Sl W 37 (some ⟨wq7.heap.size, 0, none⟩) 1 1 ([((xn, xf, xt, xr, xd, xp), A7, c7)].flatMap mvl) ∧ True) ?_ (fun wq13 hT => ?_)
        · exact ⟨by (with_reducible exact hHeld), by (with_reducible assumption), by (with_reducible assumption), by (with_reducible assumption), by (with_reducible assumption), trivial⟩
        (try clear f0 f1 f2 f3 f4 f5 f6 f7 f8 f9 f10 f11)
        obtain ⟨hHeld, f0, f1, f2, f3, -⟩ := hT
        refine wR1 (i := 7) (o := ⟨some 55, _, _, _, _, _⟩) rfl (fun K hK => ?_)
        (refine step_mans (by kernel_rfl) (.tmp 52) (.tmp 54) rfl (w1.heap.size + 1) E cap lv rfl f2.1 (some ⟨_, 0, none⟩) 1 1 [((xn, xf, xt, xr, xd, xp), A7, c7)] rfl rfl f3 (by simp; omega) (Blk.lt f1) ?_; intro A3 c3 m3 w3 hm3 ho3 hg7 hb7; have hN3 := NewM.more1 (x := ((xn, xf, xt, xr, xd, xp), A7, c7)) f2 f0 HI.out hm3.out ho3 hg7)
        refine hK.out _ _ ?_ (fun _ => ?_)
        · ((try dsimp only); (exact hHeld.trans (hb7.mono (by omega))))
        clear hK K
        (try simp only [Act.put, pS0, pS1, pS2])
        refine gen0 (T := fun W => ((fun W => Below w1.heap.size w1 W)) W ∧ OwnP W (w1.heap.size + 1) A7 c7 xp ∧ Blk W w1.heap.size 94 #[.pointer (some ⟨gs, 0, none⟩), .slice E lv.length cap] ∧ NewM W (w1.heap.size + 1) A3 c3 m3 ∧ True) ?_ (fun wq14 hT => ?_)
        · exact ⟨by (exact hHeld.trans (hb7.mono (by omega))), by (exact Own.other f0 f2.1 hg7 (by decide)), by (exact (hb7.block _ (Nat.lt_succ_self _)).trans f1), by (with_reducible assumption), trivial⟩
        (try clear f0 f1 f2 f3 f4 f5 f6 f7 f8 f9 f10 f11)
        obtain ⟨hHeld, f0, f1, f2, -⟩ := hT
        refine wTk (i := 8) (oi := ⟨some 56, _, _, _, _, _⟩) (v := ?_) rfl ⟨by kernel_rfl, ?_⟩ (by assumption) ?_
        rotate_left
        · (intro wS hSw; (try dsimp only at hSw); clear hSw; go_simp; (try with_reducible rfl))
        (try simp only [Act.put, pS0, pS1, pS2])
        refine wTk (i := 9) (oi := ⟨some 57, _, _, _, _, _⟩) (v := ?_) rfl ⟨by kernel_rfl, ?_⟩ (by assumption) ?_
        rotate_left
        · (intro wS hSw; (try dsimp only at hSw); clear hSw; go_simp; (try with_reducible rfl))
        (try simp only [Act.put, pS0, pS1, pS2])
        refine wR1 (i := 10) (o := ⟨none, _, _, _, _, _⟩) rfl (fun K hK => ?_)
        ((obtain ⟨s0, s1, sf0, sf1⟩ := f1.two; go_simp))
        refine hK.out _ _ ?_ (fun _ => ?_)
        · ((try dsimp only); (exact bel_set hHeld (by dsimp only; omega) _))
        clear hK K
        (try simp only [Act.put, pS0, pS1, pS2])
        refine gen0 (T := fun W => ((fun W => Below w1.heap.size w1 W)) W ∧ OwnP W (w1.heap.size + 1) A7 c7 xp ∧ Blk W w1.heap.size 94 #[.pointer (some ⟨gs, 0, none⟩), .slice A3 m3.length c3] ∧ NewM W (w1.heap.size + 1) A3 c3 m3 ∧ True) ?_ (fun wq15 hT => ?_)
        · exact ⟨by (exact bel_set hHeld (by dsimp only; omega) _), by (exact Own.set1 f0 (Nat.lt_succ_self _) _), by (exact f1.set_ 1 _), by (exact NewM.setLow f2 (Nat.lt_succ_self _) _ _), trivial⟩
        (try clear f0 f1 f2 f3 f4 f5 f6 f7 f8 f9 f10 f11)
        obtain ⟨hHeld, f0, f1, f2, -⟩ := hT
        refine wpAnyH_done (by kernel_rfl) ?_ _
        (go_wp2_with fail; go_roundw; (case rel => exact ⟨m3, A3, c3, ⟨hHeld, f1, f2⟩, by rw [hm3.out]; simp; have := titles_few (lv.length + 1) d1.shown (fun n hn => HTi2.out n hn); omega, Lib.hid (fun n hn => HTi2.out n (by rw [hm3.out] at hn; simpa using hn)), Lib.hid (by rw [show mvs m3 = mvs lv ++ [(xn, xf, xt, xr, xd, xp)] from by rw [hm3.out]; simp [mvs], show d1.shown.length + 1 - m3.length = d1.shown.length - lv.length from by rw [hm3.out]; simp <;> omega]; exact HS4.out.symm)⟩); (case measure => (rw [msv_eq f1, HMs.out, hm3.out]; simp; omega)))
      exact AllReadyH.nil
    exact AllReadyH.nil
end
section
open Go.RowKit Go.Shelf
def cfv (r : Option (Nat × Nat)) : Value := .tuple (match r with
 | none => #[.int .i64 0, .int .i64 0, .bool false]
 | some (n, k) => #[.int .i64 n, .int .i64 k, .bool true])
set_option maxRecDepth 100000 in
set_option maxHeartbeats 2000000 in
theorem ChFind_any {E : Option Addr} {cap : Nat} (l : List MfV) (a : Int) (w : World) (h : SlM w E cap l) (hp : ∀ x ∈ l, ∀ p ∈ x.1.2.2.2.2.2, PtFit p) (ha : I64 a) :
 Calls Tryz.prog 16 #[.slice E l.length cap, .int .i64 a] w fun e w' => e = .returned (cfv (cfind a 0 (mvs l))) ∧ Below w.heap.size w w' := by
 have hmax := h.1.2.1
 have hmax2 := h.1.2.2.1
 unfold maxLen at hmax2
 have hms := fun x => Lib.hid (mva_size x)
 have hma := fun x => Lib.hid (mva_all x)
 go_enter Tryz.func16, Tryz.ntmps16
 go_wp2_with fail
 go_loopw [13] (fun y wr => ∃ k : Nat, k ≤ l.length ∧ y = .int .i64 k ∧ Hid (cfind a k ((mvs l).drop k) = cfind a 0 (mvs l)) ∧ Below w.heap.size w wr) (fun y w => l.length - (intOf y).toNat)
 case atStart => exact ⟨0, Nat.zero_le _, rfl, (show _ = _ from rfl), Below.refl _ _⟩
 case round =>
  obtain ⟨k, hk, rfl, hall, hbr⟩ := hrel
  by_cases hlt : k < l.length
  · obtain ⟨ad, b, o, rfl, had, hcc⟩ := (h.below hbr).at hlt
    have hkm : k < (mvs l).length := by rw [mvs_len]; exact hlt
    have hgk : (mvs l)[k] = l[k].1 := by simp [mvs]
    have hx := h.2 _ (List.getElem_mem hlt)
    have hpx := hp _ (List.getElem_mem hlt)
    have hF := fun W (hh : Below w.heap.size w W) => Find_any l[k].1.1 l[k].1.2.1 l[k].1.2.2.1 l[k].1.2.2.2.1 l[k].1.2.2.2.2.1 l[k].1.2.2.2.2.2 a W (hx.1.below hh) hpx ha
    rw [show mfa l[k].1.1 l[k].1.2.1 l[k].1.2.2.1 l[k].1.2.2.2.1 l[k].1.2.2.2.2.1 l[k].2.1 l[k].1.2.2.2.2.2.length l[k].2.2 = mva l[k] from rfl] at hF
    have HHit := Lib.hid (fun e => (cfind_hit (x := a) hkm e).symm.trans hall.out)
    have HDrop := Lib.hid (fun e => (cfind_drop (x := a) hkm e).symm.trans hall.out)
    rw [hgk] at HHit HDrop
    have hF := Lib.hid hF
    clear hx hgk hall hpx
    generalize hxe : l[k] = x at *
    clear hxe
    have HCC := Lib.hid hcc
    clear hcc
    generalize hpi : pidx a x.1.2.2.2.2.2 = pi at *
    clear hpi
    go_upto_region 4 with (first | (refine wpl_loadG rfl 46 _ rfl ⟨b, o, none⟩ (mva x) rfl HCC.out _ Tryz.underlying46 rfl (by rw [(hms x).out]; kernel_rfl) ?_) | (refine wpl_storeN rfl 46 _ _ rfl _ (mva x) 46 rfl rfl (by rw [(hms x).out]; kernel_rfl) (by rw [(hms x).out]; rfl) (hma x).out ?_))
    refine gen1 (T := fun W => Mm w W [(wr.heap.size, 46, mva x)] []) (((Mm.start w).call hbr).alloc _ _) (fun w1 hM => ?_)
    generalize wr.heap.size = g5 at *
    go_wp2_with (refine wpl_loadG rfl 46 _ rfl ⟨g5, 0, none⟩ (mva x) rfl hM.b0.cells _ Tryz.underlying46 rfl (by rw [(hms x).out]; kernel_rfl) ?_)
    refine (hF.out _ hM.bel).mono ?_
    rintro e w2 ⟨rfl, hb2⟩
    have hM2 := hM.call hb2
    clear hM hb2 hF HCC
    by_cases h0 : 0 ≤ pi
    · obtain ⟨j, rfl⟩ : ∃ j : Nat, pi = (j : Int) := ⟨pi.toNat, by omega⟩
      have HN := Lib.hid (HHit.out h0)
      have hd : decide ((0 : Int) ≤ (j : Int)) = true := by simp
      have hmx : max (j : Int) 0 = (j : Int) := by omega
      rw [hd, hmx]
      clear HHit HDrop h0
      go_wp2_with fail
      go_ret3
      exact ⟨by rw [← HN.out]; simp [cfv], hM2.bel⟩
    · have HN := Lib.hid (HDrop.out (by omega))
      have hd : decide ((0 : Int) ≤ pi) = false := by simp; omega
      rw [hd]
      clear HHit HDrop
      go_wp2_with fail
      go_roundw
      case rel => exact ⟨k + 1, hlt, by go_num, HN, hM2.bel⟩
      case measure => simp [intOf]; omega
  · have HN := Lib.hid (show cfind a 0 (mvs l) = none from by
     rw [← hall.out, List.drop_eq_nil_of_le (by rw [mvs_len]; omega)]
     rfl)
    obtain rfl : k = l.length := by omega
    clear hall
    go_wp2_with fail
    go_ret3
    exact ⟨by rw [HN.out]; rfl, hbr⟩
end
section
open Go.RowKit Go.Shelf
attribute [local go_sem ↓] Go.wp_at_zero Go.wp_at_succ
theorem rchk_mem : ∀ {l : List Ce}, rchk l = 0 → ∀ c ∈ l, cchk c = 0
 | [], _ => fun c hc => by cases hc
 | x :: r, h => fun c hc => by
  unfold rchk at h
  by_cases h1 : cchk x ≠ 0
  · rw [if_pos h1] at h
    exact absurd h h1
  · rw [if_neg h1] at h
    rcases List.mem_cons.1 hc with rfl | hc
    · exact Decidable.byContradiction h1
    · exact rchk_mem h c hc
theorem mholds_fit {p : Pt5} {b : List UInt8} (hl : b.length ≤ 1000000) (h : (mholds p b).2 = 0) : (mholds p b).1.1 = p.1 ∧ ((mholds p b).1.2.length : Int) = p.2.1 ∧ ∀ c ∈ (mholds p b).1.2, c.2.length ≤ 64 := by
 have h1 : mholds p b = ((mholds p b).1, 0) := Prod.ext rfl h
 obtain ⟨h2, h3⟩ := mholds_ok h1
 refine ⟨h2, h3, fun c hc => ?_⟩
 have h4 : sgTake b = ((mholds p b).1, 0) := by
  unfold mholds at h ⊢
  split
  · rename_i h9; rw [if_pos h9] at h; cases h
  rename_i h9
  rw [if_neg h9] at h
  split
  · rename_i h9; rw [if_pos h9] at h; cases h
  rename_i h9
  rw [if_neg h9] at h
  split
  · rename_i h9; rw [if_pos h9] at h; exact absurd h h9
  rename_i h8
  rw [if_neg h8] at h
  split
  · rename_i h9; rw [if_pos h9] at h; cases h
  rename_i h9
  rw [if_neg h9] at h
  split
  · rename_i h9; rw [if_pos h9] at h; cases h
  exact Prod.ext rfl (Decidable.byContradiction h8)
 have h5 := (schk_ok (sgTake_back hl h4).1).2.2.2.2
 exact (cchk_ok (rchk_mem h5 c hc)).2.2.1
theorem vget_fit {d : Dk Sv} {l : List Mf} {n k : Nat} {p : Pt5} (hp : vpart l n k = some p) (hs : (sGetL Sv.l d (label n k)).1.length ≤ 1000000) (h : (vget Sv.l ⟨d, l⟩ n k).2 = 0) :
 (vget Sv.l ⟨d, l⟩ n k).1.1 = p.1 ∧ ((vget Sv.l ⟨d, l⟩ n k).1.2.length : Int) = p.2.1 ∧ ∀ c ∈ (vget Sv.l ⟨d, l⟩ n k).1.2, c.2.length ≤ 64 := by
 have e : vget Sv.l ⟨d, l⟩ n k = if (sGetL Sv.l d (label n k)).2 ≠ 0 then ((0, []), (sGetL Sv.l d (label n k)).2) else mholds p (sGetL Sv.l d (label n k)).1 := by
  unfold vget
  dsimp only
  rw [hp]
  dsimp only
  rw [Int.toNat_natCast, Int.toNat_natCast]
 rw [e] at h ⊢
 by_cases h1 : (sGetL Sv.l d (label n k)).2 ≠ 0
 · rw [if_pos h1] at h
   exact absurd h h1
 · rw [if_neg h1] at h ⊢
   exact mholds_fit hs h
def GivesAtN (w0 : World) (x : Ce × Bool) (e : Ending) (w' : World) : Prop :=
 ∃ A c m, e = .returned (.tuple #[cv x.1.1 A (List.length m) c, .bool x.2]) ∧ Hid (m = x.1.2) ∧ OwnB w' w0.heap.size 5 A c m ∧ Below w0.heap.size w0 w'
set_option maxRecDepth 100000 in
set_option maxHeartbeats 2000000 in
theorem SAtN_any {E : Option Addr} {cap : Nat} (f a : Int) (cs : List CeV) (w : World) (h : SlC w E cap cs) (hl : cs.length ≤ 1000) (hd : ∀ x ∈ cs, x.2.2.2.length ≤ 1000000000) (hf : I64 f) (ha : I64 a) :
 Calls Tryz.prog 19 #[cv f E cs.length cap, .int .i64 a] w (GivesAtN w (sat (f, cs.map ceOf) a)) := by
 have hB0 := (Blk.new w 43 #[.int .i64 f, .slice E cs.length cap]).alloc (.cells #[.int .i64 0, .slice none 0 0] 54)
 have hB1 := Blk.newAt (w := w.alloc (.cells #[.int .i64 f, .slice E cs.length cap] 43)) (g := w.heap.size + 1) (by simp) 54 #[.int .i64 0, .slice none 0 0]
 have hbw := bel_alloc (below_new w (.cells #[.int .i64 f, .slice E cs.length cap] 43)) (.cells #[.int .i64 0, .slice none 0 0] 54)
 unfold I64 at ha hf
 obtain ⟨hf0, hf1⟩ := hf
 obtain ⟨ha0, ha1⟩ := ha
 obtain ⟨a0, a1, _, _⟩ := hB0.two
 obtain ⟨b0, b1, bf0, bf1⟩ := hB1.two
 by_cases c1 : a < f
 · have HS := Lib.hid (show sat (f, cs.map ceOf) a = ((0, []), false) from by unfold sat; rw [if_pos (.inl c1)])
   go_enter Tryz.func19, Tryz.ntmps19
   go_wp2_with fail
   exact bodyPost_ret (res_c2 rfl rfl (g := w.heap.size + 1) hB1) rfl ⟨none, 0, [], by rw [HS.out]; rfl, (show _ = _ from by rw [HS.out]), Own.none_ _ _ _ _, hbw⟩
 by_cases c2 : (cs.length : Int) ≤ a - f
 · have HS := Lib.hid (show sat (f, cs.map ceOf) a = ((0, []), false) from by unfold sat; rw [if_pos (.inr (by simpa using c2))])
   by_cases c3 : a - f ≤ 9223372036854775807
   · go_enter Tryz.func19, Tryz.ntmps19
     go_wp2_with fail
     exact bodyPost_ret (res_c2 rfl rfl (g := w.heap.size + 1) hB1) rfl ⟨none, 0, [], by rw [HS.out]; rfl, (show _ = _ from by rw [HS.out]), Own.none_ _ _ _ _, hbw⟩
   · obtain ⟨z, hz⟩ : ∃ z : Int, wrap64 (a - f) = z := ⟨_, rfl⟩
     have hz0 : z < 0 := by rw [← hz]; simp only [wrap64]; omega
     have hz1 : z < (cs.length : Int) := by omega
     go_enter Tryz.func19, Tryz.ntmps19
     go_wp2_with fail
     exact bodyPost_ret (res_c2 rfl rfl (g := w.heap.size + 1) hB1) rfl ⟨none, 0, [], by rw [HS.out]; rfl, (show _ = _ from by rw [HS.out]), Own.none_ _ _ _ _, hbw⟩
 obtain ⟨i, hi⟩ : ∃ i : Nat, a = f + i := ⟨(a - f).toNat, by omega⟩
 subst hi
 have hlt : i < cs.length := by omega
 have HS := Lib.hid (show sat (f, cs.map ceOf) (f + i) = (ceOf cs[i], true) from by
  unfold sat
  rw [if_neg (by simp only [List.length_map]; omega)]
  have e1 : (f + (i : Int) - f).toNat = i := by omega
  dsimp only
  rw [e1, List.getD_eq_getElem?_getD, List.getElem?_map, List.getElem?_eq_getElem hlt]
  rfl)
 obtain ⟨ad, b, o, rfl, had, hc0, hc1, hsx⟩ := (h.below hbw).at2 hlt
 have hdl := hd _ (List.getElem_mem hlt)
 generalize cs[i] = x at *
 obtain ⟨kk, A, c, d⟩ := x
 dsimp only [ceOf] at *
 clear hd
 have hfi : f + (i : Int) - f = (i : Int) := by omega
 go_enter Tryz.func19, Tryz.ntmps19
 go_wp2_with fail
 refine (CCopy_any kk d _ hsx hdl).mono ?_
 rintro e w2 ⟨A2, c2, m2, rfl, hm2, ho2, hb2⟩
 have hw2 := bel_call hbw hb2
 have hB2 := hB1.below hb2
 obtain ⟨b0, b1, bf0, bf1⟩ := hB2.two
 clear hB0 hB1 hbw hb2
 go_wp2_with fail
 exact bodyPost_ret (res_c2 rfl rfl (g := w.heap.size + 1) (hB2.set2 _ _)) rfl ⟨A2, c2, m2, by rw [HS.out]; rfl, (show _ = _ from by rw [HS.out, hm2.out]), Own.more (Own.set2 (Own.more (base' := w.heap.size + 1 + 1) ho2 (by simp)) (by omega) _ _) (by omega), bel_set (bel_set hw2 (by dsimp only; omega) _) (by dsimp only; omega) _⟩
def GivesRd (w0 : World) (r : Ce × Nat) (e : Ending) (w' : World) : Prop :=
 ∃ A c m, e = .returned (.tuple #[cv r.1.1 A (List.length m) c, errv r.2]) ∧ Hid (m = r.1.2) ∧ OwnB w' w0.heap.size 5 A c m ∧ Below w0.heap.size w0 w'
set_option maxRecDepth 100000 in
set_option maxHeartbeats 2000000 in
theorem VRead_any {w : World} {gv gs : Nat} {q : Fp} {d : Dk Sv} {l : List MfV} {E : Option Addr} {cap : Nat} (h : VtM w gv gs q d l E cap) (hG : Shg w) (hF : Few (mvs l)) (a : Int) (ha : I64 a) :
 Calls Tryz.prog 15 #[.pointer (some ⟨gv, 0, none⟩), .int .i64 a] w (GivesRd w (vread Sv.l ⟨d, mvs l⟩ a)) := by
 have hM := (Mm.start w).alloc #[.int .i64 0, .slice none 0 0] 54
 have HFi := Lib.hid (fun W (hh : Below w.heap.size w W) => ChFind_any l a W (h.below hh).sl (fun x hx => hF.fit _ (hF.snd hx)) ha)
 have HMk := Lib.hid (fun W (hh : Below w.heap.size w W) => ChMark_any l W (h.below hh).sl)
 have HS := Lib.hid (fun W (hh : Below w.heap.size w W) => (h.below hh).two)
 have HV := Lib.hid (show vread Sv.l ⟨d, mvs l⟩ a = (match cfind a 0 (mvs l) with
  | none => ((0, []), 4)
  | some (n, k) =>
   if a < cmark (mvs l) then ((3, []), 0)
   else if (vget Sv.l ⟨d, mvs l⟩ n k).2 ≠ 0 then ((0, []), (vget Sv.l ⟨d, mvs l⟩ n k).2)
   else ((vget Sv.l ⟨d, mvs l⟩ n k).1.2.getD (a - (vget Sv.l ⟨d, mvs l⟩ n k).1.1).toNat (0, []), 0)) from rfl)
 rcases hv : cfind a 0 (mvs l) with _ | ⟨n, k⟩
 · rw [hv] at HFi HV
   have HT := HV
   dsimp only at HT
   dsimp only [cfv] at HFi
   clear hv HV h hG hF HMk
   go_enter Tryz.func15, Tryz.ntmps15
   go_upto_region 1 with (fail)
   refine gen1 (T := fun W => Mm w W [(w.heap.size, 54, #[.int .i64 0, .slice none 0 0])] []) hM (fun w1 hM => ?_)
   obtain ⟨a0, a1⟩ := HS.out _ hM.bel
   go_wp2_with fail
   refine (HFi.out _ hM.bel).mono ?_
   rintro e w2 ⟨rfl, hb2⟩
   have hM2 := hM.call hb2
   obtain ⟨r0, r1, rf0, rf1⟩ := hM2.b0.two
   clear hM a0 a1
   go_wp2_with fail
   exact bodyPost_ret (res_c2 rfl rfl (g := w.heap.size) (hM2.b0.set2 _ _)) rfl ⟨none, 0, [], by rw [HT.out]; rfl, (show _ = _ from by rw [HT.out]), Own.none_ _ _ _ _, bel_set (bel_set hM2.bel (by dsimp only; omega) _) (by dsimp only; omega) _⟩
 · obtain ⟨hn, hk, hph, hvp⟩ := cfind_part hv
   have hps := hF.ps _ (List.getElem_mem hn)
   have hpf := hF.fit _ (List.getElem_mem hn) _ (List.getElem_mem hk)
   have hl9 := hF.len
   generalize ((mvs l)[n]).2.2.2.2.2[k] = p at *
   have hvg := vget_fit hvp (Nat.le_trans (h.st.dsk.short (label n k)) (by omega))
   have HGt := Lib.hid (fun W (hh : Below w.heap.size w W) => VGet_any (h.below hh) (hG.below hh) (n : Int) (k : Int) (by rw [mvs_len] at hl9; omega) (fun x hx => by have := hF.ps _ (hF.snd hx); omega))
   rw [hv] at HFi HV
   dsimp only at HV
   dsimp only [cfv] at HFi
   generalize vget Sv.l ⟨d, mvs l⟩ n k = rg at *
   obtain ⟨⟨r0, r1⟩, r2⟩ := rg
   dsimp only at hvg HV
   obtain ⟨p1, p2, p3, p4⟩ := hpf
   unfold phit at hph
   have hn9 : n < 100 := by omega
   have hk9 : k < 100 := by omega
   clear hv h hG hF hvp hps hn hk
   go_enter Tryz.func15, Tryz.ntmps15
   go_upto_region 1 with (fail)
   refine gen1 (T := fun W => Mm w W [(w.heap.size, 54, #[.int .i64 0, .slice none 0 0])] []) hM (fun w1 hM => ?_)
   obtain ⟨a0, a1⟩ := HS.out _ hM.bel
   go_wp2_with fail
   refine (HFi.out _ hM.bel).mono ?_
   rintro e w2 ⟨rfl, hb2⟩
   have hM2 := hM.call hb2
   obtain ⟨a0, a1⟩ := HS.out _ hM2.bel
   clear hM hb2 HFi
   go_wp2_with fail
   refine (HMk.out _ hM2.bel).mono ?_
   rintro e w3 ⟨rfl, hb3⟩
   have hM3 := hM2.call hb3
   clear hM2 hb3 HMk a0 a1
   generalize cmark (mvs l) = mk at *
   by_cases hmk : a < mk
   · have HT := Lib.hid (HV.out.trans (if_pos hmk))
     obtain ⟨z0, z1, zf0, zf1⟩ := hM3.b0.two
     clear HV HGt
     go_wp2_with fail
     exact bodyPost_ret (res_c2 rfl rfl (g := w.heap.size) (hM3.b0.set2 _ _)) rfl ⟨none, 0, [], by rw [HT.out]; rfl, (show _ = _ from by rw [HT.out]), Own.none_ _ _ _ _, bel_set (bel_set hM3.bel (by dsimp only; omega) _) (by dsimp only; omega) _⟩
   · have HV2 := Lib.hid (HV.out.trans (if_neg hmk))
     clear HV
     go_wp2_with fail
     refine (HGt.out _ hM3.bel).mono ?_
     rintro e w4 ⟨A4, c4, m4, rfl, hm4, hN4, hb4⟩
     dsimp only at hm4 ⊢
     have hM4 := hM3.call hb4
     clear hM3 hb4 HGt
     go_upto_region 9 with (fail)
     refine gen1 (T := fun W => Mm w W [(w4.heap.size, 43, #[.int .i64 r0, .slice A4 m4.length c4]), (w.heap.size, 54, #[.int .i64 0, .slice none 0 0])] [] ∧ SlC W A4 c4 m4) ⟨hM4.alloc _ _, (NewS.slc hN4).below (below_new _ _)⟩ (fun w5 hT => ?_)
     generalize w4.heap.size = g9 at *
     clear hM4 hN4
     obtain ⟨hM5, hs5⟩ := hT
     rcases errv_cases r2 with ⟨h2, hev⟩ | ⟨ke, hk1, hke, hev⟩
     rotate_left
     · have HT := Lib.hid (HV2.out.trans (if_pos (by omega)))
       have HEV := Lib.hid hev
       rw [hev]
       obtain ⟨z0, z1, zf0, zf1⟩ := hM5.b1.two
       clear hev HV2 hke hvg
       go_wp2_with fail
       exact bodyPost_ret (res_c2 rfl rfl (g := w.heap.size) (hM5.b1.set2 _ _)) rfl ⟨none, 0, [], by rw [HT.out]; dsimp only; rw [HEV.out]; rfl, (show _ = _ from by rw [HT.out]), Own.none_ _ _ _ _, bel_set (bel_set hM5.bel (by dsimp only; omega) _) (by dsimp only; omega) _⟩
     · obtain ⟨e1, e2, e3⟩ := hvg h2
       have hml : (m4.length : Int) = p.2.1 := by rw [← e2, ← hm4.out, List.length_map]
       have hph2 : p.1 ≤ a ∧ a < p.1 + p.2.1 := by simpa using hph
       have HT := Lib.hid (HV2.out.trans (if_neg (by omega)))
       have hI0 : I64 r0 := by unfold I64; omega
       have HA := Lib.hid (SAtN_any r0 a m4 w5 hs5 (by omega) (fun x hx => by
        have h9 := e3 (ceOf x) (by rw [← hm4.out]; exact List.mem_map_of_mem hx)
        exact Nat.le_trans h9 (by omega)) hI0 ha)
       have hsat := Lib.hid (show sat (r0, m4.map ceOf) a = (r1.getD (a - r0).toNat (0, []), true) from by
        unfold sat
        rw [if_neg (by simp only [List.length_map]; omega), hm4.out])
       rw [hsat.out] at HA
       rw [hev]
       obtain ⟨s0, s1, sf0, sf1⟩ := hM5.b0.two
       clear hev HV2 hvg hsat e3 e1 e2 hml hph2 hph p1 p2 p3 p4 h2 hmk
       generalize r1.getD (a - r0).toNat (0, []) = ce at *
       obtain ⟨ck, cd⟩ := ce
       go_wp2_with fail
       refine HA.out.mono ?_
       rintro e w6 ⟨A6, c6, m6, rfl, hm6, ho6, hb6⟩
       dsimp only at hm6 ⊢
       have hM6 := hM5.call hb6
       have hsz := hM5.bel.size
       have hlt5 := hM5.b1.lt
       clear hM5 hb6 HA s0 s1 sf0 sf1
       go_upto_region 12 with (fail)
       refine gen1 (T := fun W => Mm w W [(w6.heap.size, 54, #[.int .i64 ck, .slice A6 m6.length c6]), (g9, 43, #[.int .i64 r0, .slice A4 m4.length c4]), (w.heap.size, 54, #[.int .i64 0, .slice none 0 0])] [] ∧ OwnB W w5.heap.size 5 A6 c6 m6) ⟨hM6.alloc _ _, Own.below ho6 (below_new _ _)⟩ (fun w7 hT => ?_)
       obtain ⟨hM7, ho7⟩ := hT
       obtain ⟨s0, s1, sf0, sf1⟩ := hM7.b0.two
       obtain ⟨z0, z1, zf0, zf1⟩ := hM7.b2.two
       clear hM6 ho6
       go_wp2_with fail
       exact bodyPost_ret (res_c2 rfl rfl (g := w.heap.size) (hM7.b2.set2 _ _)) rfl ⟨A6, c6, m6, by rw [HT.out]; rfl, (show _ = _ from by rw [HT.out, hm6.out]), Own.more (Own.set2 ho7 (by omega) _ _) (by omega), bel_set (bel_set hM7.bel (by dsimp only; omega) _) (by dsimp only; omega) _⟩
end
end Go.Proofs.YtajfnmohlnkncaaGreatDoor
