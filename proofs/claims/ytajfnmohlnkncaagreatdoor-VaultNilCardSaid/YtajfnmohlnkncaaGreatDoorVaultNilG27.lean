/- WHAT IT HOLDS: vault.Chain. | WHAT IT HOLDS: an error beside nil, as a Bool. | WHAT IT HOLDS: an error compared with the number 4. | WHAT IT HOLDS: the law ManifestFinds, walked. | WHAT IT HOLDS: vault.Drop. | WHAT IT HOLDS: chain.follows, chain.Check. -/
import Derived.Test.YtajfnmohlnkncaaGreatDoorVaultNilG01
import Derived.Test.YtajfnmohlnkncaaGreatDoorVaultNilG24
import Derived.Test.YtajfnmohlnkncaaGreatDoorVaultNilG26
import Derived.Test.YtajfnmohlnkncaaGreatDoorVaultNilG06
import Derived.Great.BuildSlice
import Derived.Test.YtajfnmohlnkncaaGreatDoorVaultNilG03
import Derived.LaidEql
import Derived.Test.YtajfnmohlnkncaaGreatDoorVaultNilG18
import Derived.Test.YtajfnmohlnkncaaGreatDoorVaultNilG08
import Derived.Test.YtajfnmohlnkncaaGreatDoorVaultNilG17
import Derived.Test.YtajfnmohlnkncaaGreatDoorVaultNilG20
namespace Go.Proofs.YtajfnmohlnkncaaGreatDoor
open Go.RowKit Go.Shelf
attribute [local go_sem ↓] Go.wp_at_zero Go.wp_at_succ

theorem step_litM {w : World} {ops : Array Oper} {o : Oper} {a : Act} {K : Act → World → Prop} {Q : Exit → Act → World → Prop} {X : Prop} (hgd : Region.wanted o (yielded ops a.tmps) = true) (x : Operand) (ho : o.op = .buildSlice 40 1 #[(0, x)])
    (p : MfV) (hx : a.eval x = .agg (mva p)) (h : K (a.put o.dst (.slice (some ⟨w.heap.size, 0, none⟩) 1 1)) (w.alloc (.cells (mva p) 46))) : if Region.wanted o (yielded ops a.tmps) = true then Oper.wp Tryz.prog o a w K Q else X := by
  rw [if_pos hgd]
  obtain ⟨i0, hi, hz0, hz1, hz2⟩ := info_parts mf_info
  refine wp_buildSlice 40 46 1 _ ho (mva p) i0 _ Tryz.underlying40 hi hz0 (by rw [hz1]; decide) (by rw [hz1]; decide) ?_ h
  rw [hz1]
  have hl : ((#[(0, x)] : Array (Nat × Operand)).map fun (i, x) => (i, a.eval x)).toList = ([Value.agg (mva p)].zipIdx 0).map fun x => (x.2, x.1) := by simp [hx]
  have hps := mva_size p
  rw [hl, Go.Great.fill_whole (s := 37) (by decide) [Value.agg (mva p)] _ (by intro v hv; rw [List.mem_singleton.1 hv]; exact hps) (by simp)]
  simp [Value.cells]
theorem litM (W : World) (p : MfV) : Sl (W.alloc (.cells (mva p) 46)) 37 (some ⟨W.heap.size, 0, none⟩) 1 1 ([p].flatMap mvl) := by
  have h := Sl.litsS W 37 1 (mvl p) 46 (by rw [mvl_len]) (by simp [maxLen])
  simpa [mva, mfa, mvl] using h
theorem wpl_litM {w : World} {ops : Array Oper} {rest : List Oper} {o : Oper} {a : Act} {Q : Exit → Act → World → Prop} (hgd : Region.wanted o (yielded ops a.tmps) = true) (x : Operand) (ho : o.op = .buildSlice 40 1 #[(0, x)])
    (p : MfV) (hx : a.eval x = .agg (mva p)) (h : wpList Tryz.prog ops Q rest (a.put o.dst (.slice (some ⟨w.heap.size, 0, none⟩) 1 1)) (w.alloc (.cells (mva p) 46))) : wpList Tryz.prog ops Q (o :: rest) a w :=
  wpList_step fun _ hK => step_litM hgd x ho p hx (hK _ _ h)
/-- new manifests, with new parts -/
def NewM (w : World) (base : Nat) (A : Option Addr) (c : Nat) (m : List MfV) : Prop := OwnM w base A c m ∧ ∀ x ∈ m, OwnP w base x.2.1 x.2.2 x.1.2.2.2.2.2 ∧ MfI x.1
theorem NewM.slm {w : World} {base : Nat} {A : Option Addr} {c : Nat} {m : List MfV} (h : NewM w base A c m) : SlM w A c m := ⟨h.1.sl, fun x hx => ⟨(h.2 x hx).1.sl, (h.2 x hx).2⟩⟩
theorem NewM.below {w w' : World} {base : Nat} {A : Option Addr} {c : Nat} {m : List MfV} (h : NewM w base A c m) (hb : Below w.heap.size w w') : NewM w' base A c m := ⟨Own.below h.1 hb, fun x hx => ⟨Own.below (h.2 x hx).1 hb, (h.2 x hx).2⟩⟩
/-- a copy of manifests -/
def GivesCh (w0 : World) (l : List MfV) (e : Ending) (w' : World) : Prop := ∃ A c m, e = .returned (.slice A (List.length m) c) ∧ Hid (mvs m = mvs l) ∧ NewM w' w0.heap.size A c m ∧ Below w0.heap.size w0 w'
set_option maxRecDepth 100000 in
set_option maxHeartbeats 2000000 in
theorem VChain_any {w : World} {gv gs : Nat} {q : Fp} {d : Dk Sv} {l : List MfV} {E : Option Addr} {cap : Nat} (h : VtM w gv gs q d l E cap) (hl : l.length ≤ 1000000) (hps : ∀ x ∈ l, x.1.2.2.2.2.2.length ≤ 1000000) :
    Calls Tryz.prog 11 #[.pointer (some ⟨gv, 0, none⟩)] w (GivesCh w l) := by
  have hms := fun x => Lib.hid (mva_size x)
  have hma := fun x => Lib.hid (mva_all x)
  have hsl := h.sl
  obtain ⟨a0, a1⟩ := h.two
  have hmax := hsl.1.2.1
  have hmax2 := hsl.1.2.2.1
  unfold maxLen at hmax2
  clear h
  go_enter Tryz.func11, Tryz.ntmps11
  go_wp2_with fail
  go_loopw [3, 13] (fun v y wr => ∃ (k : Nat) (A' : Option Addr) (c' : Nat) (m : List MfV), k ≤ l.length ∧ y = .int .i64 k ∧ v = .slice A' m.length c' ∧ Hid (mvs m = (mvs l).take k) ∧ NewM wr w.heap.size A' c' m ∧ Below w.heap.size w wr) (fun v y w => l.length - (intOf y).toNat)
  case atStart => exact ⟨0, none, 0, [], Nat.zero_le _, rfl, rfl, (show _ = _ from rfl), ⟨Own.none_ _ _ _ _, fun x hx => by simp at hx⟩, Below.refl _ _⟩
  case round =>
    obtain ⟨k, A', c', m, hk, rfl, rfl, hm, hN, hbr⟩ := hrel
    have hml : Hid (m.length = k) := by
      show m.length = k
      have h9 := congrArg List.length hm.out
      rw [mvs_len, List.length_take, mvs_len] at h9
      omega
    by_cases hlt : k < l.length
    · obtain ⟨ad, b, o, rfl, had, hcc⟩ := (hsl.below hbr).at hlt
      have hx := hsl.2 _ (List.getElem_mem hlt)
      have HC := Lib.hid (fun W (hh : Below w.heap.size w W) => MCopy_any l[k].1.1 l[k].1.2.1 l[k].1.2.2.1 l[k].1.2.2.2.1 l[k].1.2.2.2.2.1 l[k].1.2.2.2.2.2 W (hx.1.below hh) (hps _ (List.getElem_mem hlt)))
      rw [show mfa l[k].1.1 l[k].1.2.1 l[k].1.2.2.1 l[k].1.2.2.2.1 l[k].1.2.2.2.2.1 l[k].2.1 l[k].1.2.2.2.2.2.length l[k].2.2 = mva l[k] from rfl] at HC
      have hnx : Hid ((mvs l).take (k + 1) = (mvs l).take k ++ [l[k].1]) := (show _ = _ from by rw [List.take_succ_eq_append_getElem (by rw [mvs_len]; exact hlt)]; simp [mvs])
      have hxI := hx.2
      generalize l[k] = x at *
      have HCC := Lib.hid hcc
      clear hcc hx
      go_upto_region 7 with (first | (refine wpl_loadG rfl 46 _ rfl ⟨b, o, none⟩ (mva x) rfl HCC.out _ Tryz.underlying46 rfl (by rw [(hms x).out]; kernel_rfl) ?_) | (refine wpl_storeN rfl 46 _ _ rfl _ (mva x) 46 rfl rfl (by rw [(hms x).out]; kernel_rfl) (by rw [(hms x).out]; rfl) (hma x).out ?_))
      refine gen1 (T := fun W => Mm w W [(wr.heap.size, 46, mva x)] [] ∧ NewM W w.heap.size A' c' m) ⟨((Mm.start w).call hbr).alloc _ _, hN.below (below_new _ _)⟩ (fun w1 hT => ?_)
      obtain ⟨hM, hN1⟩ := hT
      generalize wr.heap.size = g5 at *
      clear hN hbr
      go_wp2_with (refine wpl_loadG rfl 46 _ rfl ⟨g5, 0, none⟩ (mva x) rfl hM.b0.cells _ Tryz.underlying46 rfl (by rw [(hms x).out]; kernel_rfl) ?_)
      refine (HC.out _ hM.bel).mono ?_
      rintro e w2 ⟨A5, c5, m5, rfl, hm5, ho5, hb5⟩
      have hlo := hM.bel.size
      have hM2 := hM.call hb5
      have hN2 := hN1.below hb5
      have hO5 := Own.more ho5 hlo
      obtain rfl : m5 = x.1.2.2.2.2.2 := hm5.out
      clear hM hN1 hb5 ho5 HC hm5
      rw [show mfa x.1.1 x.1.2.1 x.1.2.2.1 x.1.2.2.2.1 x.1.2.2.2.2.1 A5 x.1.2.2.2.2.2.length c5 = mva (x.1, A5, c5) from rfl]
      have hsz := hM2.bel.size
      have hlen : m.length + [(x.1, A5, c5)].length ≤ 1000000000 := by have h9 := hml.out; simp; omega
      have hba : w.heap.size ≤ (w2.alloc (.cells (mva (x.1, A5, c5)) 46)).heap.size := by simp; omega
      go_wp2_with (first | (refine wpl_litM rfl _ rfl (x.1, A5, c5) rfl ?_) | (at_builtin; go_must (refine wpl_mans rfl _ _ rfl w.heap.size A' c' m rfl (hN2.below (below_new _ _)).1 (some ⟨w2.heap.size, 0, none⟩) 1 1 [(x.1, A5, c5)] rfl rfl (litM w2 (x.1, A5, c5)) hlen hba ?_; intro A3 c3 m3 w3 hm3 ho3 hg3 hb3)))
      have hN3 := hN2.below (below_new w2 (.cells (mva (x.1, A5, c5)) 46))
      have hO6 := Own.below hO5 (below_new w2 (.cells (mva (x.1, A5, c5)) 46))
      have hbel : Below w.heap.size w w3 := hM2.bel.trans ((Below.mono (below_new w2 (.cells (mva (x.1, A5, c5)) 46)) hsz).trans hb3)
      have hfin : NewM w3 w.heap.size A3 c3 m3 := ⟨ho3, fun y hy => by
        rw [hm3.out, List.mem_append] at hy
        rcases hy with hy | hy
        · exact ⟨Own.other (hN3.2 y hy).1 hN3.1 hg3 (by decide), (hN3.2 y hy).2⟩
        · rw [List.mem_singleton.1 hy]
          exact ⟨Own.other hO6 hN3.1 hg3 (by decide), hxI⟩⟩
      have hmn : Hid (mvs m3 = (mvs l).take (k + 1)) := (show _ = _ from by rw [hnx.out, hm3.out, ← hm.out]; simp [mvs])
      clear hm hN2 hO5 hM2 hN3 hO6 hg3 ho3 hb3
      go_wp2_with fail
      go_roundw
      case rel => exact ⟨k + 1, A3, c3, m3, hlt, by go_num, rfl, hmn, hfin, hbel⟩
      case measure => simp [intOf]; omega
    · obtain rfl : k = l.length := by omega
      have hf : Hid (mvs m = mvs l) := (show _ = _ from by rw [hm.out, List.take_of_length_le (by rw [mvs_len]; omega)])
      clear hm
      go_wp2_with fail
      go_ret
      exact ⟨A', c', m, rfl, hf, hN, hbr⟩
end Go.Proofs.YtajfnmohlnkncaaGreatDoor

namespace Go.Proofs.YtajfnmohlnkncaaGreatDoor
open Go.RowKit

end Go.Proofs.YtajfnmohlnkncaaGreatDoor

namespace Go.Proofs.YtajfnmohlnkncaaGreatDoor
open Go.RowKit

theorem errno_compN : ∃ i, Tryz.prog.info? 60 = some i ∧ i.comparable = true := by
  have h : (Tryz.prog.info? 60).map (fun i => i.comparable) = some true := by kernel_rfl
  cases hq : Tryz.prog.info? 60 with
  | none => rw [hq] at h; cases h
  | some i => rw [hq] at h; exact ⟨i, rfl, by injection h⟩
theorem errv_is4N (n : Nat) (W : World) : (binOp .eql 26 (errv n) (.iface 60 (.int .i64 4))).run Tryz.prog W = .ok (.bool (decide (n = 4))) W := by
  rcases errv_cases n with ⟨h0, he⟩ | ⟨k, hk, hke, he⟩
  · subst h0
    rw [he]
    exact run_eql_iface_nil_left W _ _ Tryz.underlying26
  · have h2 : decide (n = 4) = (k == 4) := by
      rw [Bool.eq_iff_iff, decide_eq_true_iff, beq_iff_eq]
      omega
    obtain ⟨i, hi, hc⟩ := errno_compN
    have h : ∀ d : Nat, (Op.equalIn (d + 2) 26 (.iface 60 (.int .i64 k)) (.iface 60 (.int .i64 4))).run Tryz.prog W = .ok (k == 4) W := fun d => by
      simp [Op.equalIn, run_underlying Tryz.underlying26, run_underlying Tryz.underlying60, typeInfo, hi, hc]
    rw [he, h2]
    simp only [binOp]
    simp [Op.equal, Op.maxDepth, h 9998]
theorem errv_g4N (n : Nat) (x y : Operand) (W : World) : (eqGuard .eql 26 x y (errv n) (.iface 60 (.int .i64 4))).run Tryz.prog W = .ok () W := by
  rcases errv_cases n with ⟨h0, he⟩ | ⟨k, hk, hke, he⟩
  · rw [he]
    go_simp
  · rw [he]
    go_simp
end Go.Proofs.YtajfnmohlnkncaaGreatDoor

namespace Go.Proofs.YtajfnmohlnkncaaGreatDoor
open Go.RowKit
attribute [local go_sem ↓] Go.wp_at_zero Go.wp_at_succ

theorem pgo_fit {z : Int} (hz : z ≤ 1048576) : ∀ {l : List Pt5} {a : Int}, 0 ≤ a → pgo z a l = 0 → ∀ p ∈ l, PtFit p
  | [], _, _, _ => fun p hp => by cases hp
  | q :: r, a, ha, h => fun p hp => by
    have hle := (pgo_end h).2
    unfold pgo at h
    by_cases h1 : ptchk q a ≠ 0
    · rw [if_pos h1] at h; exact absurd h h1
    rw [if_neg h1] at h
    obtain ⟨g1, g2, _, _, g5⟩ := ptchk_ok (Decidable.byContradiction h1)
    rcases List.mem_cons.1 hp with rfl | hp
    · exact ⟨by omega, by omega, g1, g2⟩
    · exact pgo_fit hz (by omega) h p hp
end Go.Proofs.YtajfnmohlnkncaaGreatDoor

namespace Go.Proofs.YtajfnmohlnkncaaGreatDoor
open Go.RowKit Go.Shelf

theorem Vgo.below {w W W' : World} {gv gs : Nat} {q : Fp} {d d' : Dk Sv} {l : List MfV} {E : Option Addr} {cap : Nat} (hb : Below w.heap.size w W) (h : Vgo W gv gs q d d' l E cap W') : Vgo w gv gs q d d' l E cap W' := by
  obtain ⟨q', hg, hV, hF, hM, hT⟩ := h
  exact ⟨q', hg, hV, (Frd.of_below hb).trans hF fun i hi => .inl hi, fun i hi => (hM i hi).imp id (Nat.le_trans hb.size), fun i hi => (hT i hi).imp id (Nat.le_trans hb.size)⟩
/-- a chain that is told in few figures -/
structure Few (l : List Mf) : Prop where
  len : l.length ≤ 99
  ps : ∀ m ∈ l, m.2.2.2.2.2.length ≤ 99
  fit : ∀ m ∈ l, ∀ p ∈ m.2.2.2.2.2, PtFit p
  num : ∀ k (hk : k < l.length), (l[k]).1 = (k : Int)
theorem Few.of {l : List Mf} (h : (ckl l).2 = 0) (h1 : l.length ≤ 99) (h2 : ∀ m ∈ l, m.2.2.2.2.2.length ≤ 99) : Few l :=
  ⟨h1, h2, fun m hm => by
    obtain ⟨k, hk, rfl⟩ := List.getElem_of_mem hm
    obtain ⟨a1, a2, a3, a4, a5, a6, a7, a8⟩ := mchk_ok (ckl_ok h k hk).1
    exact pgo_fit (by omega) (by omega) a8, ckl_num h⟩
theorem Few.snd {l : List MfV} (h : Few (mvs l)) {x : MfV} (hx : x ∈ l) : x.1 ∈ mvs l := List.mem_map_of_mem hx
end Go.Proofs.YtajfnmohlnkncaaGreatDoor

namespace Go.Proofs.YtajfnmohlnkncaaGreatDoor
open Go.RowKit Go.Shelf

theorem mvs_at (l : List MfV) (h : 0 < l.length) : (mvs l).getLast? = some (mvlast l).1 := by
  rw [mvs_last, mvlast_at h, List.getLast?_eq_getElem?, List.getElem?_eq_getElem (by omega)]
  rfl
theorem mvhead_ok {l : List MfV} (h : 0 < l.length) (hc : mchk (mvlast l).1 = 0) : mvhead l = (mdg (mvlast l).1, 0) := by
  unfold mvhead mfdig
  rw [if_neg (by omega), if_pos hc]
  rfl
set_option maxRecDepth 100000 in
set_option maxHeartbeats 1000000 in
theorem Follows_any {E A : Option Addr} {cap c : Nat} (l : List MfV) (n f t q : Int) (d : Dg) (ps : List Pt5) (w : World) (hG : Shg w) (h : SlM w E cap l) (hc : ∀ m ∈ mvs l, mchk m = 0) :
    Calls Tryz.prog 74 #[.slice E l.length cap, .agg (mfa n f t q d A ps.length c)] w fun e w' => e = .returned (.bool (cfol ((mvs l).getLast?) l.length (n, f, t, q, d, ps))) ∧ Below w.heap.size w w' := by
  have hM := (Mm.start w).alloc (mfa n f t q d A ps.length c) 46
  have hmz := Lib.hid (mfa_size n f t q d A ps.length c)
  have hds := fun d => Lib.hid (dga_size d)
  have hda := fun d => Lib.hid (dga_all d)
  have hmax := h.1.2.1
  have hmax2 := h.1.2.2.1
  unfold maxLen at hmax2
  obtain ⟨a0, a1, a2, a3, a4⟩ := BlM.five hM.b0
  by_cases hn : n = (l.length : Int)
  · have hnb : ((n : Int) != (l.length : Int)) = false := by simp [hn]
    rcases Nat.eq_zero_or_pos l.length with h0 | h0
    · obtain rfl : l = [] := List.length_eq_zero_iff.1 h0
      have hr : Hid (cfol ((mvs []).getLast?) 0 (n, f, t, q, d, ps) = true) := (show _ = _ from by unfold cfol; simp [hn, mvs])
      simp only [List.length_nil] at hnb ⊢
      clear h0 hn h hc
      go_enter Tryz.func74, Tryz.ntmps74
      go_wp2_with fail
      go_ret
      exact ⟨by rw [hr.out]; rfl, hM.bel⟩
    · have hl0 : ((l.length : Int) == 0) = false := by rw [beq_eq_false_iff_ne]; omega
      have hml : (mvlast l).1 ∈ mvs l := by rw [mvlast_at h0]; exact List.mem_map.2 ⟨_, List.getElem_mem _, rfl⟩
      have hH := fun W (hh : Below w.heap.size w W) => ChHead_any l W (hG.below hh) (h.below hh)
      rw [mvhead_ok h0 (hc _ hml)] at hH
      simp only [show errv 0 = Value.nilIface from rfl] at hH
      have HH := Lib.hid hH
      have HE := Lib.hid (fun W (hh : Below w.heap.size w W) => ChEnd_any l W (h.below hh))
      have HK := Lib.hid (fun W (hh : Below w.heap.size w W) => ChMark_any l W (h.below hh))
      rw [cend_mvs] at HE
      rw [cmark_mvs] at HK
      have hr := Lib.hid (show cfol ((mvs l).getLast?) l.length (n, f, t, q, d, ps) = (decide (d = mdg (mvlast l).1) && decide (f = (mvlast l).1.2.2.1) && decide ((mvlast l).1.2.2.2.1 ≤ q)) from by
        rw [mvs_at l h0]
        unfold cfol
        rw [Bool.eq_iff_iff]
        simp only [hn, Bool.and_eq_true, decide_eq_true_eq, true_and]
        constructor
        · rintro ⟨⟨h1, h2⟩, h3⟩
          exact ⟨⟨h3, h1⟩, h2⟩
        · rintro ⟨⟨h3, h1⟩, h2⟩
          exact ⟨⟨h1, h2⟩, h3⟩)
      generalize mdg (mvlast l).1 = hd at *
      generalize (mvlast l).1.2.2.1 = et at *
      generalize (mvlast l).1.2.2.2.1 = mk at *
      clear hH hml h hc hG h0 hn
      go_enter Tryz.func74, Tryz.ntmps74
      go_wp2_with fail
      refine (HH.out _ hM.bel).mono ?_
      rintro e w2 ⟨rfl, hb2⟩
      have hM2 := hM.call hb2
      clear hM hb2 a0 a1 a2 a3 a4 HH
      dsimp only
      go_upto_region 6 with ((refine wpl_storeN rfl 35 _ _ rfl _ (dga hd) 35 rfl rfl (by rw [(hds hd).out]; kernel_rfl) (by rw [(hds hd).out]; rfl) (hda hd).out ?_))
      refine gen1 (T := fun W => Mm w W [(w2.heap.size, 35, dga hd), (w.heap.size, 46, mfa n f t q d A ps.length c)] []) (hM2.alloc _ _) (fun w3 hM3 => ?_)
      generalize w2.heap.size = g5 at *
      clear hM2
      have hMd := hM3.drew
      have hq := fun W => eql_dg d hd W
      cases hd1 : decide (d = hd)
      · rw [hd1] at hq hr
        clear hM3 hd1
        refine wp_region_seq (S := (fun W => Mm w W [(g5, 35, dga hd), (w.heap.size, 46, mfa n f t q d A ps.length c)] [])) [(0, true), (1, true), (2, true), (3, true), (4, true), (5, true), (6, true), (7, true), (8, true), (9, true), (10, true), (11, true), (12, true), (13, true), (14, true), (15, true), (16, true), (17, true), (18, true), (19, true), (20, true), (21, true), (22, true)] (by kernel_rfl) (by kernel_rfl) (fun _ _ _ _ _ h => h) ?_ (fun hHeld => ?_)
        · first | with_reducible exact hMd | with_reducible exact hHeld
        refine gen0 (T := fun W => ((fun W => Mm w W [(g5, 35, dga hd), (w.heap.size, 46, mfa n f t q d A ps.length c)] [])) W ∧ Below w.heap.size w W ∧ True) ?_ (fun wq1 hT => ?_)
        · exact ⟨by (with_reducible exact hMd), by (with_reducible exact hMd.bel), trivial⟩
        (try clear f0 f1 f2 f3 f4 f5 f6 f7 f8 f9 f10 f11)
        obtain ⟨hHeld, f0, -⟩ := hT
        refine seq_take (oi := ⟨some 20, _, _, _, _, _⟩) (v := ?_) rfl (Or.inl ⟨by kernel_rfl, ?_⟩) (by assumption) ?_
        rotate_left
        · (intro wS hSw; (try dsimp only at hSw); obtain ⟨a0, a1, a2, a3, a4⟩ := BlM.five hSw.b1; refine execV (fun rho hk1 hk2 hk3 hk => ?_); have e6_ := (hk 6).trans (evalP (fg1 (fg1 (fg1 (fg1 (fg1 (fg1 fg0))))))); clear hk; go_simp; (try with_reducible rfl))
        ((with_reducible refine wpSeq_put ?_; go_big_move))
        refine seq_take (oi := ⟨some 21, _, _, _, _, _⟩) (v := ?_) rfl (Or.inl ⟨by kernel_rfl, ?_⟩) (by assumption) ?_
        rotate_left
        · (intro wS hSw; (try dsimp only at hSw); obtain ⟨a0, a1, a2, a3, a4⟩ := BlM.five hSw.b1; refine execV (fun rho hk1 hk2 hk3 hk => ?_); have e20_ := (hk 20).trans (evalP (fg8 (fg8 (fg1 (fg1 (fg1 (fg1 fg0))))))); clear hk; go_simp; (try with_reducible rfl))
        ((with_reducible refine wpSeq_put ?_; go_big_move))
        refine seq_take (oi := ⟨some 22, _, _, _, _, _⟩) (v := ?_) rfl (Or.inl ⟨by kernel_rfl, ?_⟩) (by assumption) ?_
        rotate_left
        · (intro wS hSw; (try dsimp only at hSw); obtain ⟨a0, a1, a2, a3, a4⟩ := BlM.five hSw.b1; refine execV (fun rho hk1 hk2 hk3 hk => ?_); have e21_ := (hk 21).trans (evalP (fg8 (fg8 (fg1 (fg1 (fg1 (fg1 (fg1 fg0)))))))); clear hk; go_simp; (try with_reducible rfl))
        ((with_reducible refine wpSeq_put ?_; go_big_move))
        refine seq_take (oi := ⟨some 23, _, _, _, _, _⟩) (v := ?_) rfl (Or.inl ⟨by kernel_rfl, ?_⟩) (by assumption) ?_
        rotate_left
        · (intro wS hSw; (try dsimp only at hSw); obtain ⟨a0, a1, a2, a3, a4⟩ := BlM.five hSw.b1; refine execV (fun rho hk1 hk2 hk3 hk => ?_); have e3_ := (hk 3).trans (evalP (fg1 (fg1 (fg1 fg0)))); clear hk; go_simp; (try with_reducible rfl))
        ((with_reducible refine wpSeq_put ?_; go_big_move))
        refine seq_take (oi := ⟨some 24, _, _, _, _, _⟩) (v := ?_) rfl (Or.inl ⟨by kernel_rfl, ?_⟩) (by assumption) ?_
        rotate_left
        · (intro wS hSw; (try dsimp only at hSw); (refine yld_load 35 (.tmp 23) ?_ ⟨w.heap.size, 4, none⟩ (dga d) ?_ (BlM.dg hSw.b1) _ Tryz.underlying35 rfl (by rw [(hds d).out]; kernel_rfl) <;> rfl))
        ((with_reducible refine wpSeq_put ?_; go_big_move))
        refine seq_take (oi := ⟨some 25, _, _, _, _, _⟩) (v := ?_) rfl (Or.inl ⟨by kernel_rfl, ?_⟩) (by assumption) ?_
        rotate_left
        · (intro wS hSw; (try dsimp only at hSw); (refine yld_load 35 (.tmp 5) ?_ ⟨g5, 0, none⟩ (dga hd) ?_ hSw.b0.cells _ Tryz.underlying35 rfl (by rw [(hds hd).out]; kernel_rfl) <;> rfl))
        ((with_reducible refine wpSeq_put ?_; go_big_move))
        refine seq_take (oi := ⟨some 26, _, _, _, _, _⟩) (v := ?_) rfl (Or.inl ⟨by kernel_rfl, ?_⟩) (by assumption) ?_
        rotate_left
        · (intro wS hSw; (try dsimp only at hSw); obtain ⟨a0, a1, a2, a3, a4⟩ := BlM.five hSw.b1; refine execV (fun rho hk1 hk2 hk3 hk => ?_); have e24_ := (hk 24).trans (evalP (fg8 (fg8 (fg8 fg0)))); have e25_ := (hk 25).trans (evalP (fg8 (fg8 (fg8 (fg1 fg0))))); clear hk; go_simp; (try with_reducible rfl))
        ((with_reducible refine wpSeq_put ?_; go_big_move))
        refine seq_take (oi := ⟨some 27, _, _, _, _, _⟩) (v := ?_) rfl (Or.inl ⟨by kernel_rfl, ?_⟩) (by assumption) ?_
        rotate_left
        · (intro wS hSw; (try dsimp only at hSw); obtain ⟨a0, a1, a2, a3, a4⟩ := BlM.five hSw.b1; refine execV (fun rho hk1 hk2 hk3 hk => ?_); have e22_ := (hk 22).trans (evalP (fg8 (fg8 (fg1 (fg1 (fg1 (fg1 (fg1 (fg1 fg0))))))))); have e26_ := (hk 26).trans (evalP (fg8 (fg8 (fg8 (fg1 (fg1 fg0)))))); clear hk; go_simp; (try with_reducible rfl))
        ((with_reducible refine wpSeq_put ?_; go_big_move))
        refine seq_take (oi := ⟨some 28, _, _, _, _, _⟩) (v := ?_) rfl (Or.inl ⟨by kernel_rfl, ?_⟩) (by assumption) ?_
        rotate_left
        · (intro wS hSw; (try dsimp only at hSw); obtain ⟨a0, a1, a2, a3, a4⟩ := BlM.five hSw.b1; refine execV (fun rho hk1 hk2 hk3 hk => ?_); have e27_ := (hk 27).trans (evalP (fg8 (fg8 (fg8 (fg1 (fg1 (fg1 fg0))))))); clear hk; go_simp; (try with_reducible rfl))
        ((with_reducible refine wpSeq_put ?_; go_big_move))
        refine seq_take (oi := ⟨some 29, _, _, _, _, _⟩) (v := undef) rfl (Or.inr ⟨by kernel_rfl, rfl⟩) (by assumption) ?_
        ((with_reducible refine wpSeq_put ?_; go_big_move))
        refine seq_take (oi := ⟨some 30, _, _, _, _, _⟩) (v := undef) rfl (Or.inr ⟨by kernel_rfl, rfl⟩) (by assumption) ?_
        ((with_reducible refine wpSeq_put ?_; go_big_move))
        refine seq_take (oi := ⟨some 31, _, _, _, _, _⟩) (v := undef) rfl (Or.inr ⟨by kernel_rfl, rfl⟩) (by assumption) ?_
        ((with_reducible refine wpSeq_put ?_; go_big_move))
        refine seq_take (oi := ⟨some 32, _, _, _, _, _⟩) (v := undef) rfl (Or.inr ⟨by kernel_rfl, rfl⟩) (by assumption) ?_
        ((with_reducible refine wpSeq_put ?_; go_big_move))
        refine seq_take (oi := ⟨some 33, _, _, _, _, _⟩) (v := undef) rfl (Or.inr ⟨by kernel_rfl, rfl⟩) (by assumption) ?_
        ((with_reducible refine wpSeq_put ?_; go_big_move))
        refine seq_take (oi := ⟨some 34, _, _, _, _, _⟩) (v := ?_) rfl (Or.inl ⟨by kernel_rfl, ?_⟩) (by assumption) ?_
        rotate_left
        · (intro wS hSw; (try dsimp only at hSw); obtain ⟨a0, a1, a2, a3, a4⟩ := BlM.five hSw.b1; refine execV (fun rho hk1 hk2 hk3 hk => ?_); have e28_ := (hk 28).trans (evalP (fg8 (fg8 (fg8 (fg1 (fg1 (fg1 (fg1 fg0)))))))); have e33_ := (hk 33).trans (evalP (fg8 (fg8 (fg8 (fg8 (fg1 fg0)))))); clear hk; go_simp; (try with_reducible rfl))
        ((with_reducible refine wpSeq_put ?_; go_big_move))
        refine seq_take (oi := ⟨some 35, _, _, _, _, _⟩) (v := ?_) rfl (Or.inl ⟨by kernel_rfl, ?_⟩) (by assumption) ?_
        rotate_left
        · (intro wS hSw; (try dsimp only at hSw); obtain ⟨a0, a1, a2, a3, a4⟩ := BlM.five hSw.b1; refine execV (fun rho hk1 hk2 hk3 hk => ?_); have e34_ := (hk 34).trans (evalP (fg8 (fg8 (fg8 (fg8 (fg1 (fg1 fg0))))))); clear hk; go_simp; (try with_reducible rfl))
        ((with_reducible refine wpSeq_put ?_; go_big_move))
        refine seq_take (oi := ⟨some 36, _, _, _, _, _⟩) (v := undef) rfl (Or.inr ⟨by kernel_rfl, rfl⟩) (by assumption) ?_
        ((with_reducible refine wpSeq_put ?_; go_big_move))
        refine seq_take (oi := ⟨some 37, _, _, _, _, _⟩) (v := undef) rfl (Or.inr ⟨by kernel_rfl, rfl⟩) (by assumption) ?_
        ((with_reducible refine wpSeq_put ?_; go_big_move))
        refine seq_take (oi := ⟨some 38, _, _, _, _, _⟩) (v := undef) rfl (Or.inr ⟨by kernel_rfl, rfl⟩) (by assumption) ?_
        ((with_reducible refine wpSeq_put ?_; go_big_move))
        refine seq_take (oi := ⟨some 39, _, _, _, _, _⟩) (v := undef) rfl (Or.inr ⟨by kernel_rfl, rfl⟩) (by assumption) ?_
        ((with_reducible refine wpSeq_put ?_; go_big_move))
        refine seq_take (oi := ⟨some 40, _, _, _, _, _⟩) (v := undef) rfl (Or.inr ⟨by kernel_rfl, rfl⟩) (by assumption) ?_
        ((with_reducible refine wpSeq_put ?_; go_big_move))
        refine seq_take (oi := ⟨some 41, _, _, _, _, _⟩) (v := ?_) rfl (Or.inl ⟨by kernel_rfl, ?_⟩) (by assumption) ?_
        rotate_left
        · (intro wS hSw; (try dsimp only at hSw); obtain ⟨a0, a1, a2, a3, a4⟩ := BlM.five hSw.b1; refine execV (fun rho hk1 hk2 hk3 hk => ?_); have e35_ := (hk 35).trans (evalP (fg8 (fg8 (fg8 (fg8 (fg1 (fg1 (fg1 fg0)))))))); have e40_ := (hk 40).trans (evalP (fg8 (fg8 (fg8 (fg8 (fg8 fg0)))))); clear hk; go_simp; (try with_reducible rfl))
        ((with_reducible refine wpSeq_put ?_; go_big_move))
        refine seq_take (oi := ⟨some 4, _, _, _, _, _⟩) (v := ?_) rfl (Or.inl ⟨by kernel_rfl, ?_⟩) (by assumption) ?_
        rotate_left
        · (intro wS hSw; (try dsimp only at hSw); obtain ⟨a0, a1, a2, a3, a4⟩ := BlM.five hSw.b1; refine execV (fun rho hk1 hk2 hk3 hk => ?_); have e41_ := (hk 41).trans (evalP (fg8 (fg8 (fg8 (fg8 (fg8 (fg1 fg0))))))); clear hk; go_simp; (try with_reducible rfl))
        ((with_reducible refine wpSeq_put ?_; go_big_move))
        refine seq_done ?_
        go_wp2_with fail
        go_ret
        exact ⟨by rw [hr.out]; rfl, hHeld.bel⟩
      · rw [hd1] at hq hr
        cases hd2 : decide (f = et)
        · have hf2 : (f == et) = false := by simpa using hd2
          rw [hd2] at hr
          clear hM3 hd1 hd2
          refine wp_region_seq (S := (fun W => Mm w W [(g5, 35, dga hd), (w.heap.size, 46, mfa n f t q d A ps.length c)] [])) [(0, true), (1, true), (2, true), (3, true), (4, true), (5, true), (6, true), (7, true), (8, true), (9, true), (10, true), (11, true), (12, false), (13, true), (14, true), (15, true), (16, true), (17, true), (18, true), (19, true), (20, true), (21, true), (22, true)] (by kernel_rfl) (by kernel_rfl) (fun _ _ _ _ _ h => h) ?_ (fun hHeld => ?_)
          · first | with_reducible exact hMd | with_reducible exact hHeld
          refine gen0 (T := fun W => ((fun W => Mm w W [(g5, 35, dga hd), (w.heap.size, 46, mfa n f t q d A ps.length c)] [])) W ∧ Below w.heap.size w W ∧ True) ?_ (fun wq1 hT => ?_)
          · exact ⟨by (with_reducible exact hMd), by (with_reducible exact hMd.bel), trivial⟩
          (try clear f0 f1 f2 f3 f4 f5 f6 f7 f8 f9 f10 f11)
          obtain ⟨hHeld, f0, -⟩ := hT
          refine seq_take (oi := ⟨some 20, _, _, _, _, _⟩) (v := ?_) rfl (Or.inl ⟨by kernel_rfl, ?_⟩) (by assumption) ?_
          rotate_left
          · (intro wS hSw; (try dsimp only at hSw); obtain ⟨a0, a1, a2, a3, a4⟩ := BlM.five hSw.b1; refine execV (fun rho hk1 hk2 hk3 hk => ?_); have e6_ := (hk 6).trans (evalP (fg1 (fg1 (fg1 (fg1 (fg1 (fg1 fg0))))))); clear hk; go_simp; (try with_reducible rfl))
          ((with_reducible refine wpSeq_put ?_; go_big_move))
          refine seq_take (oi := ⟨some 21, _, _, _, _, _⟩) (v := ?_) rfl (Or.inl ⟨by kernel_rfl, ?_⟩) (by assumption) ?_
          rotate_left
          · (intro wS hSw; (try dsimp only at hSw); obtain ⟨a0, a1, a2, a3, a4⟩ := BlM.five hSw.b1; refine execV (fun rho hk1 hk2 hk3 hk => ?_); have e20_ := (hk 20).trans (evalP (fg8 (fg8 (fg1 (fg1 (fg1 (fg1 fg0))))))); clear hk; go_simp; (try with_reducible rfl))
          ((with_reducible refine wpSeq_put ?_; go_big_move))
          refine seq_take (oi := ⟨some 22, _, _, _, _, _⟩) (v := ?_) rfl (Or.inl ⟨by kernel_rfl, ?_⟩) (by assumption) ?_
          rotate_left
          · (intro wS hSw; (try dsimp only at hSw); obtain ⟨a0, a1, a2, a3, a4⟩ := BlM.five hSw.b1; refine execV (fun rho hk1 hk2 hk3 hk => ?_); have e21_ := (hk 21).trans (evalP (fg8 (fg8 (fg1 (fg1 (fg1 (fg1 (fg1 fg0)))))))); clear hk; go_simp; (try with_reducible rfl))
          ((with_reducible refine wpSeq_put ?_; go_big_move))
          refine seq_take (oi := ⟨some 23, _, _, _, _, _⟩) (v := ?_) rfl (Or.inl ⟨by kernel_rfl, ?_⟩) (by assumption) ?_
          rotate_left
          · (intro wS hSw; (try dsimp only at hSw); obtain ⟨a0, a1, a2, a3, a4⟩ := BlM.five hSw.b1; refine execV (fun rho hk1 hk2 hk3 hk => ?_); have e3_ := (hk 3).trans (evalP (fg1 (fg1 (fg1 fg0)))); clear hk; go_simp; (try with_reducible rfl))
          ((with_reducible refine wpSeq_put ?_; go_big_move))
          refine seq_take (oi := ⟨some 24, _, _, _, _, _⟩) (v := ?_) rfl (Or.inl ⟨by kernel_rfl, ?_⟩) (by assumption) ?_
          rotate_left
          · (intro wS hSw; (try dsimp only at hSw); (refine yld_load 35 (.tmp 23) ?_ ⟨w.heap.size, 4, none⟩ (dga d) ?_ (BlM.dg hSw.b1) _ Tryz.underlying35 rfl (by rw [(hds d).out]; kernel_rfl) <;> rfl))
          ((with_reducible refine wpSeq_put ?_; go_big_move))
          refine seq_take (oi := ⟨some 25, _, _, _, _, _⟩) (v := ?_) rfl (Or.inl ⟨by kernel_rfl, ?_⟩) (by assumption) ?_
          rotate_left
          · (intro wS hSw; (try dsimp only at hSw); (refine yld_load 35 (.tmp 5) ?_ ⟨g5, 0, none⟩ (dga hd) ?_ hSw.b0.cells _ Tryz.underlying35 rfl (by rw [(hds hd).out]; kernel_rfl) <;> rfl))
          ((with_reducible refine wpSeq_put ?_; go_big_move))
          refine seq_take (oi := ⟨some 26, _, _, _, _, _⟩) (v := ?_) rfl (Or.inl ⟨by kernel_rfl, ?_⟩) (by assumption) ?_
          rotate_left
          · (intro wS hSw; (try dsimp only at hSw); obtain ⟨a0, a1, a2, a3, a4⟩ := BlM.five hSw.b1; refine execV (fun rho hk1 hk2 hk3 hk => ?_); have e24_ := (hk 24).trans (evalP (fg8 (fg8 (fg8 fg0)))); have e25_ := (hk 25).trans (evalP (fg8 (fg8 (fg8 (fg1 fg0))))); clear hk; go_simp; (try with_reducible rfl))
          ((with_reducible refine wpSeq_put ?_; go_big_move))
          refine seq_take (oi := ⟨some 27, _, _, _, _, _⟩) (v := ?_) rfl (Or.inl ⟨by kernel_rfl, ?_⟩) (by assumption) ?_
          rotate_left
          · (intro wS hSw; (try dsimp only at hSw); obtain ⟨a0, a1, a2, a3, a4⟩ := BlM.five hSw.b1; refine execV (fun rho hk1 hk2 hk3 hk => ?_); have e22_ := (hk 22).trans (evalP (fg8 (fg8 (fg1 (fg1 (fg1 (fg1 (fg1 (fg1 fg0))))))))); have e26_ := (hk 26).trans (evalP (fg8 (fg8 (fg8 (fg1 (fg1 fg0)))))); clear hk; go_simp; (try with_reducible rfl))
          ((with_reducible refine wpSeq_put ?_; go_big_move))
          refine seq_take (oi := ⟨some 28, _, _, _, _, _⟩) (v := ?_) rfl (Or.inl ⟨by kernel_rfl, ?_⟩) (by assumption) ?_
          rotate_left
          · (intro wS hSw; (try dsimp only at hSw); obtain ⟨a0, a1, a2, a3, a4⟩ := BlM.five hSw.b1; refine execV (fun rho hk1 hk2 hk3 hk => ?_); have e27_ := (hk 27).trans (evalP (fg8 (fg8 (fg8 (fg1 (fg1 (fg1 fg0))))))); clear hk; go_simp; (try with_reducible rfl))
          ((with_reducible refine wpSeq_put ?_; go_big_move))
          refine seq_take (oi := ⟨some 29, _, _, _, _, _⟩) (v := ?_) rfl (Or.inl ⟨by kernel_rfl, ?_⟩) (by assumption) ?_
          rotate_left
          · (intro wS hSw; (try dsimp only at hSw); obtain ⟨a0, a1, a2, a3, a4⟩ := BlM.five hSw.b1; refine execV (fun rho hk1 hk2 hk3 hk => ?_); have e3_ := (hk 3).trans (evalP (fg1 (fg1 (fg1 fg0)))); clear hk; go_simp; (try with_reducible rfl))
          ((with_reducible refine wpSeq_put ?_; go_big_move))
          refine seq_take (oi := ⟨some 30, _, _, _, _, _⟩) (v := ?_) rfl (Or.inl ⟨by kernel_rfl, ?_⟩) (by assumption) ?_
          rotate_left
          · (intro wS hSw; (try dsimp only at hSw); obtain ⟨a0, a1, a2, a3, a4⟩ := BlM.five hSw.b1; refine execV (fun rho hk1 hk2 hk3 hk => ?_); have e29_ := (hk 29).trans (evalP (fg8 (fg8 (fg8 (fg1 (fg1 (fg1 (fg1 (fg1 fg0))))))))); clear hk; go_simp; (try with_reducible rfl))
          ((with_reducible refine wpSeq_put ?_; go_big_move))
          refine seq_take (oi := ⟨some 31, _, _, _, _, _⟩) (v := ?_) rfl (Or.inl ⟨by kernel_rfl, ?_⟩) (by assumption) ?_
          rotate_left
          · (intro wS hSw; (try dsimp only at hSw); obtain ⟨a0, a1, a2, a3, a4⟩ := BlM.five hSw.b1; refine execV (fun rho hk1 hk2 hk3 hk => ?_); have e0_ := (hk 0).trans (evalP fg0); clear hk; go_simp; (try with_reducible rfl))
          ((with_reducible refine wpSeq_put ?_; go_big_move))
          refine seq_step (o := ⟨some 32, _, _, _, _, _⟩) rfl (fun K hK => ?_)
          with_reducible refine wantedP (by kernel_rfl) ?_
          (go_big_op)
          (refine (HE.out _ f0).mono ?_; rintro e w12 ⟨rfl, hb9⟩)
          go_wp2_with fail
          refine hK.out _ _ ?_ (fun _ => ?_)
          · ((try dsimp only); (with_reducible exact hHeld.call hb9))
          clear hK K
          ((try simp only [Act.put, pS0, pS1, pS2]))
          refine gen0 (T := fun W => ((fun W => Mm w W [(g5, 35, dga hd), (w.heap.size, 46, mfa n f t q d A ps.length c)] [])) W ∧ Below w.heap.size w W ∧ True) ?_ (fun wq2 hT => ?_)
          · exact ⟨by (with_reducible exact hHeld.call hb9), by (exact bel_call f0 hb9), trivial⟩
          (try clear f0 f1 f2 f3 f4 f5 f6 f7 f8 f9 f10 f11)
          obtain ⟨hHeld, f0, -⟩ := hT
          refine seq_take (oi := ⟨some 33, _, _, _, _, _⟩) (v := ?_) rfl (Or.inl ⟨by kernel_rfl, ?_⟩) (by assumption) ?_
          rotate_left
          · (intro wS hSw; (try dsimp only at hSw); obtain ⟨a0, a1, a2, a3, a4⟩ := BlM.five hSw.b1; refine execV (fun rho hk1 hk2 hk3 hk => ?_); have e30_ := (hk 30).trans (evalP (fg8 (fg8 (fg8 (fg1 (fg1 (fg1 (fg1 (fg1 (fg1 fg0)))))))))); have e32_ := (hk 32).trans (evalP (fg8 (fg8 (fg8 (fg8 fg0))))); clear hk; go_simp; (try with_reducible rfl))
          ((with_reducible refine wpSeq_put ?_; go_big_move))
          refine seq_take (oi := ⟨some 34, _, _, _, _, _⟩) (v := ?_) rfl (Or.inl ⟨by kernel_rfl, ?_⟩) (by assumption) ?_
          rotate_left
          · (intro wS hSw; (try dsimp only at hSw); obtain ⟨a0, a1, a2, a3, a4⟩ := BlM.five hSw.b1; refine execV (fun rho hk1 hk2 hk3 hk => ?_); have e28_ := (hk 28).trans (evalP (fg8 (fg8 (fg8 (fg1 (fg1 (fg1 (fg1 fg0)))))))); have e33_ := (hk 33).trans (evalP (fg8 (fg8 (fg8 (fg8 (fg1 fg0)))))); clear hk; go_simp; (try with_reducible rfl))
          ((with_reducible refine wpSeq_put ?_; go_big_move))
          refine seq_take (oi := ⟨some 35, _, _, _, _, _⟩) (v := ?_) rfl (Or.inl ⟨by kernel_rfl, ?_⟩) (by assumption) ?_
          rotate_left
          · (intro wS hSw; (try dsimp only at hSw); obtain ⟨a0, a1, a2, a3, a4⟩ := BlM.five hSw.b1; refine execV (fun rho hk1 hk2 hk3 hk => ?_); have e34_ := (hk 34).trans (evalP (fg8 (fg8 (fg8 (fg8 (fg1 (fg1 fg0))))))); clear hk; go_simp; (try with_reducible rfl))
          ((with_reducible refine wpSeq_put ?_; go_big_move))
          refine seq_take (oi := ⟨some 36, _, _, _, _, _⟩) (v := undef) rfl (Or.inr ⟨by kernel_rfl, rfl⟩) (by assumption) ?_
          ((with_reducible refine wpSeq_put ?_; go_big_move))
          refine seq_take (oi := ⟨some 37, _, _, _, _, _⟩) (v := undef) rfl (Or.inr ⟨by kernel_rfl, rfl⟩) (by assumption) ?_
          ((with_reducible refine wpSeq_put ?_; go_big_move))
          refine seq_take (oi := ⟨some 38, _, _, _, _, _⟩) (v := undef) rfl (Or.inr ⟨by kernel_rfl, rfl⟩) (by assumption) ?_
          ((with_reducible refine wpSeq_put ?_; go_big_move))
          refine seq_take (oi := ⟨some 39, _, _, _, _, _⟩) (v := undef) rfl (Or.inr ⟨by kernel_rfl, rfl⟩) (by assumption) ?_
          ((with_reducible refine wpSeq_put ?_; go_big_move))
          refine seq_take (oi := ⟨some 40, _, _, _, _, _⟩) (v := undef) rfl (Or.inr ⟨by kernel_rfl, rfl⟩) (by assumption) ?_
          ((with_reducible refine wpSeq_put ?_; go_big_move))
          refine seq_take (oi := ⟨some 41, _, _, _, _, _⟩) (v := ?_) rfl (Or.inl ⟨by kernel_rfl, ?_⟩) (by assumption) ?_
          rotate_left
          · (intro wS hSw; (try dsimp only at hSw); obtain ⟨a0, a1, a2, a3, a4⟩ := BlM.five hSw.b1; refine execV (fun rho hk1 hk2 hk3 hk => ?_); have e35_ := (hk 35).trans (evalP (fg8 (fg8 (fg8 (fg8 (fg1 (fg1 (fg1 fg0)))))))); have e40_ := (hk 40).trans (evalP (fg8 (fg8 (fg8 (fg8 (fg8 fg0)))))); clear hk; go_simp; (try with_reducible rfl))
          ((with_reducible refine wpSeq_put ?_; go_big_move))
          refine seq_take (oi := ⟨some 4, _, _, _, _, _⟩) (v := ?_) rfl (Or.inl ⟨by kernel_rfl, ?_⟩) (by assumption) ?_
          rotate_left
          · (intro wS hSw; (try dsimp only at hSw); obtain ⟨a0, a1, a2, a3, a4⟩ := BlM.five hSw.b1; refine execV (fun rho hk1 hk2 hk3 hk => ?_); have e41_ := (hk 41).trans (evalP (fg8 (fg8 (fg8 (fg8 (fg8 (fg1 fg0))))))); clear hk; go_simp; (try with_reducible rfl))
          ((with_reducible refine wpSeq_put ?_; go_big_move))
          refine seq_done ?_
          go_wp2_with fail
          go_ret
          exact ⟨by rw [hr.out]; rfl, hHeld.bel⟩
        · have hf2 : (f == et) = true := by simpa using hd2
          rw [hd2] at hr
          clear hM3 hd1 hd2
          refine wp_region_seq (S := (fun W => Mm w W [(g5, 35, dga hd), (w.heap.size, 46, mfa n f t q d A ps.length c)] [])) [(0, true), (1, true), (2, true), (3, true), (4, true), (5, true), (6, true), (7, true), (8, true), (9, true), (10, true), (11, true), (12, false), (13, true), (14, true), (15, true), (16, true), (17, true), (18, true), (19, false), (20, true), (21, true), (22, true)] (by kernel_rfl) (by kernel_rfl) (fun _ _ _ _ _ h => h) ?_ (fun hHeld => ?_)
          · first | with_reducible exact hMd | with_reducible exact hHeld
          refine gen0 (T := fun W => ((fun W => Mm w W [(g5, 35, dga hd), (w.heap.size, 46, mfa n f t q d A ps.length c)] [])) W ∧ Below w.heap.size w W ∧ True) ?_ (fun wq1 hT => ?_)
          · exact ⟨by (with_reducible exact hMd), by (with_reducible exact hMd.bel), trivial⟩
          (try clear f0 f1 f2 f3 f4 f5 f6 f7 f8 f9 f10 f11)
          obtain ⟨hHeld, f0, -⟩ := hT
          refine seq_take (oi := ⟨some 20, _, _, _, _, _⟩) (v := ?_) rfl (Or.inl ⟨by kernel_rfl, ?_⟩) (by assumption) ?_
          rotate_left
          · (intro wS hSw; (try dsimp only at hSw); obtain ⟨a0, a1, a2, a3, a4⟩ := BlM.five hSw.b1; refine execV (fun rho hk1 hk2 hk3 hk => ?_); have e6_ := (hk 6).trans (evalP (fg1 (fg1 (fg1 (fg1 (fg1 (fg1 fg0))))))); clear hk; go_simp; (try with_reducible rfl))
          ((with_reducible refine wpSeq_put ?_; go_big_move))
          refine seq_take (oi := ⟨some 21, _, _, _, _, _⟩) (v := ?_) rfl (Or.inl ⟨by kernel_rfl, ?_⟩) (by assumption) ?_
          rotate_left
          · (intro wS hSw; (try dsimp only at hSw); obtain ⟨a0, a1, a2, a3, a4⟩ := BlM.five hSw.b1; refine execV (fun rho hk1 hk2 hk3 hk => ?_); have e20_ := (hk 20).trans (evalP (fg8 (fg8 (fg1 (fg1 (fg1 (fg1 fg0))))))); clear hk; go_simp; (try with_reducible rfl))
          ((with_reducible refine wpSeq_put ?_; go_big_move))
          refine seq_take (oi := ⟨some 22, _, _, _, _, _⟩) (v := ?_) rfl (Or.inl ⟨by kernel_rfl, ?_⟩) (by assumption) ?_
          rotate_left
          · (intro wS hSw; (try dsimp only at hSw); obtain ⟨a0, a1, a2, a3, a4⟩ := BlM.five hSw.b1; refine execV (fun rho hk1 hk2 hk3 hk => ?_); have e21_ := (hk 21).trans (evalP (fg8 (fg8 (fg1 (fg1 (fg1 (fg1 (fg1 fg0)))))))); clear hk; go_simp; (try with_reducible rfl))
          ((with_reducible refine wpSeq_put ?_; go_big_move))
          refine seq_take (oi := ⟨some 23, _, _, _, _, _⟩) (v := ?_) rfl (Or.inl ⟨by kernel_rfl, ?_⟩) (by assumption) ?_
          rotate_left
          · (intro wS hSw; (try dsimp only at hSw); obtain ⟨a0, a1, a2, a3, a4⟩ := BlM.five hSw.b1; refine execV (fun rho hk1 hk2 hk3 hk => ?_); have e3_ := (hk 3).trans (evalP (fg1 (fg1 (fg1 fg0)))); clear hk; go_simp; (try with_reducible rfl))
          ((with_reducible refine wpSeq_put ?_; go_big_move))
          refine seq_take (oi := ⟨some 24, _, _, _, _, _⟩) (v := ?_) rfl (Or.inl ⟨by kernel_rfl, ?_⟩) (by assumption) ?_
          rotate_left
          · (intro wS hSw; (try dsimp only at hSw); (refine yld_load 35 (.tmp 23) ?_ ⟨w.heap.size, 4, none⟩ (dga d) ?_ (BlM.dg hSw.b1) _ Tryz.underlying35 rfl (by rw [(hds d).out]; kernel_rfl) <;> rfl))
          ((with_reducible refine wpSeq_put ?_; go_big_move))
          refine seq_take (oi := ⟨some 25, _, _, _, _, _⟩) (v := ?_) rfl (Or.inl ⟨by kernel_rfl, ?_⟩) (by assumption) ?_
          rotate_left
          · (intro wS hSw; (try dsimp only at hSw); (refine yld_load 35 (.tmp 5) ?_ ⟨g5, 0, none⟩ (dga hd) ?_ hSw.b0.cells _ Tryz.underlying35 rfl (by rw [(hds hd).out]; kernel_rfl) <;> rfl))
          ((with_reducible refine wpSeq_put ?_; go_big_move))
          refine seq_take (oi := ⟨some 26, _, _, _, _, _⟩) (v := ?_) rfl (Or.inl ⟨by kernel_rfl, ?_⟩) (by assumption) ?_
          rotate_left
          · (intro wS hSw; (try dsimp only at hSw); obtain ⟨a0, a1, a2, a3, a4⟩ := BlM.five hSw.b1; refine execV (fun rho hk1 hk2 hk3 hk => ?_); have e24_ := (hk 24).trans (evalP (fg8 (fg8 (fg8 fg0)))); have e25_ := (hk 25).trans (evalP (fg8 (fg8 (fg8 (fg1 fg0))))); clear hk; go_simp; (try with_reducible rfl))
          ((with_reducible refine wpSeq_put ?_; go_big_move))
          refine seq_take (oi := ⟨some 27, _, _, _, _, _⟩) (v := ?_) rfl (Or.inl ⟨by kernel_rfl, ?_⟩) (by assumption) ?_
          rotate_left
          · (intro wS hSw; (try dsimp only at hSw); obtain ⟨a0, a1, a2, a3, a4⟩ := BlM.five hSw.b1; refine execV (fun rho hk1 hk2 hk3 hk => ?_); have e22_ := (hk 22).trans (evalP (fg8 (fg8 (fg1 (fg1 (fg1 (fg1 (fg1 (fg1 fg0))))))))); have e26_ := (hk 26).trans (evalP (fg8 (fg8 (fg8 (fg1 (fg1 fg0)))))); clear hk; go_simp; (try with_reducible rfl))
          ((with_reducible refine wpSeq_put ?_; go_big_move))
          refine seq_take (oi := ⟨some 28, _, _, _, _, _⟩) (v := ?_) rfl (Or.inl ⟨by kernel_rfl, ?_⟩) (by assumption) ?_
          rotate_left
          · (intro wS hSw; (try dsimp only at hSw); obtain ⟨a0, a1, a2, a3, a4⟩ := BlM.five hSw.b1; refine execV (fun rho hk1 hk2 hk3 hk => ?_); have e27_ := (hk 27).trans (evalP (fg8 (fg8 (fg8 (fg1 (fg1 (fg1 fg0))))))); clear hk; go_simp; (try with_reducible rfl))
          ((with_reducible refine wpSeq_put ?_; go_big_move))
          refine seq_take (oi := ⟨some 29, _, _, _, _, _⟩) (v := ?_) rfl (Or.inl ⟨by kernel_rfl, ?_⟩) (by assumption) ?_
          rotate_left
          · (intro wS hSw; (try dsimp only at hSw); obtain ⟨a0, a1, a2, a3, a4⟩ := BlM.five hSw.b1; refine execV (fun rho hk1 hk2 hk3 hk => ?_); have e3_ := (hk 3).trans (evalP (fg1 (fg1 (fg1 fg0)))); clear hk; go_simp; (try with_reducible rfl))
          ((with_reducible refine wpSeq_put ?_; go_big_move))
          refine seq_take (oi := ⟨some 30, _, _, _, _, _⟩) (v := ?_) rfl (Or.inl ⟨by kernel_rfl, ?_⟩) (by assumption) ?_
          rotate_left
          · (intro wS hSw; (try dsimp only at hSw); obtain ⟨a0, a1, a2, a3, a4⟩ := BlM.five hSw.b1; refine execV (fun rho hk1 hk2 hk3 hk => ?_); have e29_ := (hk 29).trans (evalP (fg8 (fg8 (fg8 (fg1 (fg1 (fg1 (fg1 (fg1 fg0))))))))); clear hk; go_simp; (try with_reducible rfl))
          ((with_reducible refine wpSeq_put ?_; go_big_move))
          refine seq_take (oi := ⟨some 31, _, _, _, _, _⟩) (v := ?_) rfl (Or.inl ⟨by kernel_rfl, ?_⟩) (by assumption) ?_
          rotate_left
          · (intro wS hSw; (try dsimp only at hSw); obtain ⟨a0, a1, a2, a3, a4⟩ := BlM.five hSw.b1; refine execV (fun rho hk1 hk2 hk3 hk => ?_); have e0_ := (hk 0).trans (evalP fg0); clear hk; go_simp; (try with_reducible rfl))
          ((with_reducible refine wpSeq_put ?_; go_big_move))
          refine seq_step (o := ⟨some 32, _, _, _, _, _⟩) rfl (fun K hK => ?_)
          with_reducible refine wantedP (by kernel_rfl) ?_
          (go_big_op)
          (refine (HE.out _ f0).mono ?_; rintro e w12 ⟨rfl, hb9⟩)
          go_wp2_with fail
          refine hK.out _ _ ?_ (fun _ => ?_)
          · ((try dsimp only); (with_reducible exact hHeld.call hb9))
          clear hK K
          ((try simp only [Act.put, pS0, pS1, pS2]))
          refine gen0 (T := fun W => ((fun W => Mm w W [(g5, 35, dga hd), (w.heap.size, 46, mfa n f t q d A ps.length c)] [])) W ∧ Below w.heap.size w W ∧ True) ?_ (fun wq2 hT => ?_)
          · exact ⟨by (with_reducible exact hHeld.call hb9), by (exact bel_call f0 hb9), trivial⟩
          (try clear f0 f1 f2 f3 f4 f5 f6 f7 f8 f9 f10 f11)
          obtain ⟨hHeld, f0, -⟩ := hT
          refine seq_take (oi := ⟨some 33, _, _, _, _, _⟩) (v := ?_) rfl (Or.inl ⟨by kernel_rfl, ?_⟩) (by assumption) ?_
          rotate_left
          · (intro wS hSw; (try dsimp only at hSw); obtain ⟨a0, a1, a2, a3, a4⟩ := BlM.five hSw.b1; refine execV (fun rho hk1 hk2 hk3 hk => ?_); have e30_ := (hk 30).trans (evalP (fg8 (fg8 (fg8 (fg1 (fg1 (fg1 (fg1 (fg1 (fg1 fg0)))))))))); have e32_ := (hk 32).trans (evalP (fg8 (fg8 (fg8 (fg8 fg0))))); clear hk; go_simp; (try with_reducible rfl))
          ((with_reducible refine wpSeq_put ?_; go_big_move))
          refine seq_take (oi := ⟨some 34, _, _, _, _, _⟩) (v := ?_) rfl (Or.inl ⟨by kernel_rfl, ?_⟩) (by assumption) ?_
          rotate_left
          · (intro wS hSw; (try dsimp only at hSw); obtain ⟨a0, a1, a2, a3, a4⟩ := BlM.five hSw.b1; refine execV (fun rho hk1 hk2 hk3 hk => ?_); have e28_ := (hk 28).trans (evalP (fg8 (fg8 (fg8 (fg1 (fg1 (fg1 (fg1 fg0)))))))); have e33_ := (hk 33).trans (evalP (fg8 (fg8 (fg8 (fg8 (fg1 fg0)))))); clear hk; go_simp; (try with_reducible rfl))
          ((with_reducible refine wpSeq_put ?_; go_big_move))
          refine seq_take (oi := ⟨some 35, _, _, _, _, _⟩) (v := ?_) rfl (Or.inl ⟨by kernel_rfl, ?_⟩) (by assumption) ?_
          rotate_left
          · (intro wS hSw; (try dsimp only at hSw); obtain ⟨a0, a1, a2, a3, a4⟩ := BlM.five hSw.b1; refine execV (fun rho hk1 hk2 hk3 hk => ?_); have e34_ := (hk 34).trans (evalP (fg8 (fg8 (fg8 (fg8 (fg1 (fg1 fg0))))))); clear hk; go_simp; (try with_reducible rfl))
          ((with_reducible refine wpSeq_put ?_; go_big_move))
          refine seq_take (oi := ⟨some 36, _, _, _, _, _⟩) (v := ?_) rfl (Or.inl ⟨by kernel_rfl, ?_⟩) (by assumption) ?_
          rotate_left
          · (intro wS hSw; (try dsimp only at hSw); obtain ⟨a0, a1, a2, a3, a4⟩ := BlM.five hSw.b1; refine execV (fun rho hk1 hk2 hk3 hk => ?_); have e3_ := (hk 3).trans (evalP (fg1 (fg1 (fg1 fg0)))); clear hk; go_simp; (try with_reducible rfl))
          ((with_reducible refine wpSeq_put ?_; go_big_move))
          refine seq_take (oi := ⟨some 37, _, _, _, _, _⟩) (v := ?_) rfl (Or.inl ⟨by kernel_rfl, ?_⟩) (by assumption) ?_
          rotate_left
          · (intro wS hSw; (try dsimp only at hSw); obtain ⟨a0, a1, a2, a3, a4⟩ := BlM.five hSw.b1; refine execV (fun rho hk1 hk2 hk3 hk => ?_); have e36_ := (hk 36).trans (evalP (fg8 (fg8 (fg8 (fg8 (fg1 (fg1 (fg1 (fg1 fg0))))))))); clear hk; go_simp; (try with_reducible rfl))
          ((with_reducible refine wpSeq_put ?_; go_big_move))
          refine seq_take (oi := ⟨some 38, _, _, _, _, _⟩) (v := ?_) rfl (Or.inl ⟨by kernel_rfl, ?_⟩) (by assumption) ?_
          rotate_left
          · (intro wS hSw; (try dsimp only at hSw); obtain ⟨a0, a1, a2, a3, a4⟩ := BlM.five hSw.b1; refine execV (fun rho hk1 hk2 hk3 hk => ?_); have e0_ := (hk 0).trans (evalP fg0); clear hk; go_simp; (try with_reducible rfl))
          ((with_reducible refine wpSeq_put ?_; go_big_move))
          refine seq_step (o := ⟨some 39, _, _, _, _, _⟩) rfl (fun K hK => ?_)
          with_reducible refine wantedP (by kernel_rfl) ?_
          (go_big_op)
          (refine (HK.out _ f0).mono ?_; rintro e w12 ⟨rfl, hb9⟩)
          go_wp2_with fail
          refine hK.out _ _ ?_ (fun _ => ?_)
          · ((try dsimp only); (with_reducible exact hHeld.call hb9))
          clear hK K
          ((try simp only [Act.put, pS0, pS1, pS2]))
          refine gen0 (T := fun W => ((fun W => Mm w W [(g5, 35, dga hd), (w.heap.size, 46, mfa n f t q d A ps.length c)] [])) W ∧ Below w.heap.size w W ∧ True) ?_ (fun wq3 hT => ?_)
          · exact ⟨by (with_reducible exact hHeld.call hb9), by (exact bel_call f0 hb9), trivial⟩
          (try clear f0 f1 f2 f3 f4 f5 f6 f7 f8 f9 f10 f11)
          obtain ⟨hHeld, f0, -⟩ := hT
          refine seq_take (oi := ⟨some 40, _, _, _, _, _⟩) (v := ?_) rfl (Or.inl ⟨by kernel_rfl, ?_⟩) (by assumption) ?_
          rotate_left
          · (intro wS hSw; (try dsimp only at hSw); obtain ⟨a0, a1, a2, a3, a4⟩ := BlM.five hSw.b1; refine execV (fun rho hk1 hk2 hk3 hk => ?_); have e37_ := (hk 37).trans (evalP (fg8 (fg8 (fg8 (fg8 (fg1 (fg1 (fg1 (fg1 (fg1 fg0)))))))))); have e39_ := (hk 39).trans (evalP (fg8 (fg8 (fg8 (fg8 (fg1 (fg1 (fg1 (fg1 (fg1 (fg1 (fg1 fg0)))))))))))); clear hk; go_simp; (try with_reducible rfl))
          ((with_reducible refine wpSeq_put ?_; go_big_move))
          refine seq_take (oi := ⟨some 41, _, _, _, _, _⟩) (v := ?_) rfl (Or.inl ⟨by kernel_rfl, ?_⟩) (by assumption) ?_
          rotate_left
          · (intro wS hSw; (try dsimp only at hSw); obtain ⟨a0, a1, a2, a3, a4⟩ := BlM.five hSw.b1; refine execV (fun rho hk1 hk2 hk3 hk => ?_); have e35_ := (hk 35).trans (evalP (fg8 (fg8 (fg8 (fg8 (fg1 (fg1 (fg1 fg0)))))))); have e40_ := (hk 40).trans (evalP (fg8 (fg8 (fg8 (fg8 (fg8 fg0)))))); clear hk; go_simp; (try with_reducible rfl))
          ((with_reducible refine wpSeq_put ?_; go_big_move))
          refine seq_take (oi := ⟨some 4, _, _, _, _, _⟩) (v := ?_) rfl (Or.inl ⟨by kernel_rfl, ?_⟩) (by assumption) ?_
          rotate_left
          · (intro wS hSw; (try dsimp only at hSw); obtain ⟨a0, a1, a2, a3, a4⟩ := BlM.five hSw.b1; refine execV (fun rho hk1 hk2 hk3 hk => ?_); have e41_ := (hk 41).trans (evalP (fg8 (fg8 (fg8 (fg8 (fg8 (fg1 fg0))))))); clear hk; go_simp; (try with_reducible rfl))
          ((with_reducible refine wpSeq_put ?_; go_big_move))
          refine seq_done ?_
          go_wp2_with fail
          go_ret
          exact ⟨by rw [hr.out]; simp, hHeld.bel⟩
  · have hnb : ((n : Int) != (l.length : Int)) = true := by simpa using hn
    have hr : Hid (cfol ((mvs l).getLast?) l.length (n, f, t, q, d, ps) = false) := (show _ = _ from by unfold cfol; simp [hn])
    clear hn h hc
    go_enter Tryz.func74, Tryz.ntmps74
    go_wp2_with fail
    go_ret
    exact ⟨by rw [hr.out]; rfl, hM.bel⟩
end Go.Proofs.YtajfnmohlnkncaaGreatDoor
