/- WHAT IT HOLDS: an act done to a store and to the document's: walked. | WHAT IT HOLDS: a pointer to a disk is the same as itself. -/
import Derived.Test.YtnndlmkcckgkhaaGreatDoorStorePlaysG24
import Derived.LaidEqlPtr
namespace Go.Proofs.YtnndlmkcckgkhaaGreatDoor
open Go.RowKit Go.Maps Go.Sort
attribute [local go_sem ↓] Go.wp_at_zero Go.wp_at_succ

set_option maxRecDepth 100000 in
theorem SDisk_any {w : World} {gs : Nat} {q : Fp} {d : Dk Sv} (h : StM w gs q d) : Calls Tryz.prog 32 #[.pointer (some ⟨gs, 0, none⟩)] w fun e w' => e = .returned (.pointer (some ⟨q.g, 0, none⟩)) ∧ w' = w := by
  have hc := h.cl
  go_enter Tryz.func32, Tryz.ntmps32
  go_wp2_with fail
  go_ret
  exact ⟨rfl, rfl⟩
theorem errv_isnil (n : Nat) (W : World) : (binOp .eql 37 (errv n) .nilIface).run Tryz.prog W = .ok (.bool ((n : Int) == 0)) W := by
  rcases errv_cases n with ⟨h0, he⟩ | ⟨k, hk, hke, he⟩
  · subst h0
    rw [he]
    go_simp
  · rw [he]
    have h1 : ¬ (n : Int) = 0 := by omega
    have h2 : ((n : Int) == 0) = false := by simpa using h1
    rw [h2]
    go_simp
theorem errv_isguard (n : Nat) (x : Operand) (W : World) : (eqGuard .eql 37 x (.const .nilIface) (errv n) .nilIface).run Tryz.prog W = .ok () W := by
  rcases errv_cases n with ⟨h0, he⟩ | ⟨k, hk, hke, he⟩
  · rw [he]
    go_simp
  · rw [he]
    go_simp
set_option maxRecDepth 100000 in
set_option maxHeartbeats 1000000 in
theorem SHas_any {w : World} {gs : Nat} {q : Fp} {d : Dk Sv} (h : StM w gs q d) (n : Bs) (hn : n.length ≤ 100000000) :
    Calls Tryz.prog 39 #[.pointer (some ⟨gs, 0, none⟩), .string ⟨n.toArray⟩] w fun e w' => e = .returned (.bool (((sGet d n).2 : Int) == 0)) ∧ Below w.heap.size w w' := by
  have HG := Lib.hid (SGet_any h n hn)
  clear h
  generalize sGet d n = r at *
  obtain ⟨v, bad⟩ := r
  dsimp only at HG ⊢
  have he := errv_isnil bad
  have hgd := errv_isguard bad
  go_enter Tryz.func39, Tryz.ntmps39
  go_wp2_with fail
  refine HG.out.mono ?_
  rintro e w1 ⟨A, c, m, rfl, hm, ho, hb⟩
  clear HG hm ho
  generalize errv bad = ev at *
  go_wp2_with fail
  go_ret
  exact ⟨rfl, hb⟩
theorem Blk.tenC {w : World} {g : Nat} {t : TypeId} {a0 a1 a2 a3 a4 a5 a6 a7 a8 a9 : Value} (h : Blk w g t #[a0, a1, a2, a3, a4, a5, a6, a7, a8, a9]) : w.cell? ⟨g, 0, none⟩ = some a0 ∧ w.cell? ⟨g, 1, none⟩ = some a1 ∧ w.cell? ⟨g, 2, none⟩ = some a2 ∧ w.cell? ⟨g, 3, none⟩ = some a3 ∧ w.cell? ⟨g, 4, none⟩ = some a4 ∧ w.cell? ⟨g, 5, none⟩ = some a5 ∧ w.cell? ⟨g, 6, none⟩ = some a6 ∧ w.cell? ⟨g, 7, none⟩ = some a7 ∧ w.cell? ⟨g, 8, none⟩ = some a8 ∧ w.cell? ⟨g, 9, none⟩ = some a9 := ⟨h.cell 0, h.cell 1, h.cell 2, h.cell 3, h.cell 4, h.cell 5, h.cell 6, h.cell 7, h.cell 8, h.cell 9⟩
/-- behind the store's act -/
theorem sGetK_map (d : Dk Sv) (n : Bs) : sGetK (d.map Sv.l) n = (((sGet d n).1.map Sv.l).getD [], (sGet d n).2) := by
  unfold sGetK sGet
  by_cases h : snamed n = false
  · rw [if_pos h, if_pos h]
    rfl
  · rw [if_neg h, if_neg h]
    exact rRead_map d n
set_option maxRecDepth 100000 in
theorem Driven_any (x : DA) (w : World) : Calls Tryz.prog 76 #[.agg (acta x)] w fun e w' => (∃ b, e = .returned (.bool b)) ∧ Below w.heap.size w w' := by
  obtain ⟨y0, y1, y2, y3, y4, y5⟩ := (Blk.new w 88 (acta x)).six
  have hb := below_new w (.cells (acta x) 88)
  go_enter Tryz.func76, Tryz.ntmps76
  go_wp2_with fail
  go_ret
  exact ⟨⟨_, rfl⟩, hb⟩
theorem res_k3 {fn : Func} {a b c : Nat} {tmps : Array Value} {w : World} {g : Nat} {x y z u v : Value} (hres : fn.results = #[.tmp a, .cell b 79, .tmp c]) (hb : tmps.getD b undef = .pointer (some ⟨g, 0, none⟩)) (hB : Blk w g 79 #[x, y, z, u, v]) :
    (results fn tmps).run Tryz.prog w = .ok (.tuple #[tmps.getD a undef, .agg #[x, y, z, u, v], tmps.getD c undef]) w := by
  obtain ⟨b0, b1, b2, b3, b4, -⟩ := Blk.fiveC hB
  have hb' : tmps[b]?.getD undef = .pointer (some ⟨g, 0, none⟩) := by simpa using hb
  simp [results, hres, go_sem, b0, b1, b2, b3, b4, hb']
set_option maxRecDepth 100000 in
set_option maxHeartbeats 1000000 in
theorem SDo_any {P : Nat → Prop} {w : World} {q0 : Fp} {gs : Nat} {d : Dk Sv} {A B : Option Addr} {c k L : Nat} (x : SA) (h : StM w gs q0 d) (hf : Fok d) (hn : Nmd d) (hR : Rdk (fun i => ¬ q0.M i ∧ P i) w (d.map Sv.l) A c B k) (hP : ∀ i, w.heap.size ≤ i → P i) (hok : SlB w x.A x.c x.l ∧ SlZ w x.B x.kc x.ks ∧ SlB w x.d.A x.d.c x.d.l ∧ SlZ w x.d.B x.d.kc x.d.ks) (hx1 : x.l ≠ [] → ∀ ad, x.A = some ad → ad.block < L) (hx2 : x.ks ≠ [] → ∀ ad, x.B = some ad → ad.block < L) (hx3 : x.d.l ≠ [] → ∀ ad, x.d.A = some ad → ad.block < L) (hx4 : x.d.ks ≠ [] → ∀ ad, x.d.B = some ad → ad.block < L) (hL : ∀ i, q0.M i → L ≤ i) (hLw : L ≤ w.heap.size) (hfx : x.d.f ≤ 9223372036854775807) (hsh : x.long = false) (hl : d.sure.length + d.pend.length ≤ 160) :
    Calls Tryz.prog 33 #[.pointer (some ⟨gs, 0, none⟩), .agg (rda (d.map Sv.l) A c B k), .agg (sacta x)] w fun e w' => SoG P w q0 gs d e w' := by
  have hs0 : (((w.alloc (.cells (rda (d.map Sv.l) A c B k) 79)).alloc (.cells (sacta x) 90)).alloc (.cells rdz 79)).heap.size = w.heap.size + 3 := by simp
  have hb1 := bel_alloc (bel_alloc (below_new w (.cells (rda (d.map Sv.l) A c B k) 79)) (.cells (sacta x) 90)) (.cells rdz 79)
  have hB0 := ((Blk.new w 79 (rda (d.map Sv.l) A c B k)).alloc (.cells (sacta x) 90)).alloc (.cells rdz 79)
  have hB1 := (Blk.newAt (w := w.alloc (.cells (rda (d.map Sv.l) A c B k) 79)) (g := w.heap.size + 1) (by simp) 90 (sacta x)).alloc (.cells rdz 79)
  have hB2 := Blk.newAt (w := (w.alloc (.cells (rda (d.map Sv.l) A c B k) 79)).alloc (.cells (sacta x) 90)) (g := w.heap.size + 2) (by simp) 79 rdz
  obtain ⟨y0, y1, y2, y3, y4, y5, y6, y7, y8, y9⟩ := (hB1.alloc (.cells #[] 5)).tenC
  have hsl := Sl.below hok.1 hb1
  have hshs := SA.short hsh
  have HDk := Lib.hid (SDisk_any (h.below hb1))
  have HW0 := Lib.hid hb1
  have HB0 := Lib.hid hB0
  have HB1 := Lib.hid hB1
  have HB2 := Lib.hid hB2
  have HD := Lib.hid h
  have HR := Lib.hid hR
  have HZ := Lib.hid hs0
  clear hb1 hB0 hB1 hB2 hs0
  go_enter Tryz.func33, Tryz.ntmps33
  go_wp2_with fail
  refine HDk.out.mono ?_
  rintro e w3 ⟨rfl, rfl⟩
  go_upto_region 3 with (at_builtin; go_must (refine wpl_freshG (w.heap.size + 1 + 1 + 1) (by simp) 29 5 Tryz.underlying29 (by kernel_rfl) rfl _ _ rfl rfl x.A x.c x.l rfl hsl (by omega) ?_); intro O co own w4 hown ho4 hb4)
  rw [HZ.out] at ho4
  have hb5 := HW0.out.trans (hb4.mono HW0.out.size)
  have hS : SoS P w w4 q0 q0 gs d O co own (d.map Sv.l) A c B k x := by
    have hO : ∀ i, O.map (·.block) = some i → w.heap.size + 3 ≤ i := fun i hi => (Own.lt ho4 i hi).1
    have hq : ∀ i, w.heap.size ≤ i → ¬ q0.M i := fun i hi hm => by
      have := HD.out.dsk.ltM hm
      omega
    have hg := HD.out.blk.lt
    refine ⟨HD.out.below hb5, rfl, Frd.of_below hb5, fun i hi => .inl hi, HB0.out.below hb4, HB1.out.below hb4, HB2.out.below hb4, ho4, ⟨hq _ (by omega), hq _ (by omega), hq _ (by omega), fun i hi => hq _ (by have := hO i hi; omega)⟩, ⟨by omega, by omega, by omega⟩, ?_, hP⟩
    have hX : ∀ {E : Option Addr}, Okb (fun i => ¬ q0.M i ∧ P i) w E → Okb (Yt P w q0) w4 E := fun h i hi => by
      obtain ⟨h1, h2⟩ := h i hi
      have := hb5.size
      exact ⟨⟨h1.1, h1.2, by omega, by omega⟩, by omega⟩
    exact ⟨HR.out.s.below hb5, hX HR.out.sa, HR.out.p.below hb5, hX HR.out.pa⟩
  have HS := Lib.hid hS
  have HF := Lib.hid hf
  have HNm := Lib.hid hn
  have HL := Lib.hid hL
  have HX := Lib.hid (And.intro hx1 (And.intro hx2 (And.intro hx3 hx4)))
  have HOwn := Lib.hid hown.out
  have HFx := Lib.hid hfx
  have hno : ∀ W, Frd q0 w W → ∀ i, i < L → W.heap[i]? = w.heap[i]? := fun W hF i hi => hF.block i (by omega) (fun hq => by have := hL _ hq; omega)
  have HSx := Lib.hid (show ∀ W, Frd q0 w W → SlB W x.A x.c x.l from fun W hF => SlB.sameB hok.1 fun hne ad hA => hno W hF _ (hx1 hne ad hA))
  have HSz := Lib.hid (show ∀ W, Frd q0 w W → SlZ W x.B x.kc x.ks from fun W hF => SlZ.sameB hok.2.1 fun hne ad hA => hno W hF _ (hx2 hne ad hA))
  have HSdx := Lib.hid (show ∀ W, Frd q0 w W → SlB W x.d.A x.d.c x.d.l from fun W hF => SlB.sameB hok.2.2.1 fun hne ad hA => hno W hF _ (hx3 hne ad hA))
  have HSdz := Lib.hid (show ∀ W, Frd q0 w W → SlZ W x.d.B x.d.kc x.d.ks from fun W hF => SlZ.sameB hok.2.2.2 fun hne ad hA => hno W hF _ (hx4 hne ad hA))
  clear y0 y1 y2 y3 y4 y5 y6 y7 y8 y9
  obtain ⟨y0, y1, y2, y3, y4, y5, y6, y7, y8, y9⟩ := (hS).b1.tenC
  obtain ⟨r0, r1, r2, r3, r4, rf0, rf1, rf2, rf3, rf4⟩ := (hS).b0.fiveC
  obtain ⟨s1, s2, s3, s4, s5⟩ := hshs
  obtain ⟨p1, p2, p3, -⟩ := hS.st.dsk.fits (k := 400) (by omega) (by omega)
  clear hS HW0 HB0 HB1 HB2 HD HR HZ hf hn hok hx1 hx2 hx3 hx4 hL ho4 hb4 hb5 hown hsl h hR hno HDk
  rw [show w.heap.size + 1 + 1 = w.heap.size + 2 from rfl]
  go_upto_block 0 with (fail)
  have hkd := kind8 x.k
  generalize (IntKind.u64.wrap x.k).tmod 8 = kk at hkd ⊢
  go_cut [11, 0] (fun v s wz => v = .bool true ∧ ∃ (q : Fp) (d' : Dk Sv) (gs' : Nat) (A' : Option Addr) (c' : Nat) (B' : Option Addr) (k' : Nat), s = .pointer (some ⟨gs', 0, none⟩) ∧ SoS P w wz q0 q gs' d' O co own (d'.map Sv.l) A' c' B' k' x ∧ Fok d' ∧ Nmd d' ∧ d'.sure.length + d'.pend.length ≤ d.sure.length + d.pend.length + 4 ∧ (gs' = gs ∨ w.heap.size ≤ gs'))
  case first =>
    rcases hkd with rfl | rfl | rfl | rfl | rfl | rfl | rfl | rfl
    · have HK := Lib.hid (KSPut_any (T := Yt P w q0) (d.map Sv.l) x.n x.l w4 HS.out.up HS.out.R (by rw [len_mapD]; omega) HF.out.2 (by omega) (by omega) HS.out.st.dsk.ris.mapD (by rw [shown_map, fused_map]; exact p3))
      have HMp := Lib.hid (show ∀ A' c', sPut bln ([] : Bs) (d.map Sv.l) x.n x.l = ((sPut svl Sv.nil d x.n ⟨A', c', own⟩).1.map Sv.l, (sPut svl Sv.nil d x.n ⟨A', c', own⟩).2) from fun A' c' => by rw [← sPut_map]; dsimp only; rw [HOwn.out])
      generalize sPut bln ([] : Bs) (d.map Sv.l) x.n x.l = rm at *
      have v1 := conv_str (P := Tryz.prog) 29 9 5 Tryz.underlying29 Tryz.underlying5 Tryz.underlying9 (HSx.out w4 HS.out.fr) rfl
      go_wp2_with fail
      refine HK.out.mono ?_
      clear HK
      rintro e w5 ⟨A5, c5, B5, k5, rfl, hR5, hb5⟩
      have hS5 := HS.out.call hb5
      have HS6 := Lib.hid (hS5.ref hR5)
      clear y0 y1 y2 y3 y4 y5 y6 y7 y8 y9 r0 r1 r2 r3 r4 rf0 rf1 rf2 rf3 rf4
      obtain ⟨y0, y1, y2, y3, y4, y5, y6, y7, y8, y9⟩ := (hS5).b1.tenC
      obtain ⟨r0, r1, r2, r3, r4, rf0, rf1, rf2, rf3, rf4⟩ := (hS5).b0.fiveC
      clear hR5 hb5 hS5 HS
      unfold rda
      go_upto_region 6 with (fail)
      refine gen1 (T := fun W => SoS P w W q0 q0 gs d O co own rm.1 A5 c5 B5 k5 x) HS6.out (fun w6 hS7 => ?_)
      clear y0 y1 y2 y3 y4 y5 y6 y7 y8 y9 r0 r1 r2 r3 r4 rf0 rf1 rf2 rf3 rf4
      clear HS6 w5
      obtain ⟨y0, y1, y2, y3, y4, y5, y6, y7, y8, y9⟩ := (hS7).b1.tenC
      obtain ⟨r0, r1, r2, r3, r4, rf0, rf1, rf2, rf3, rf4⟩ := (hS7).b0.fiveC
      have HS := Lib.hid hS7
      have HWr := Lib.hid (SPut_any HS.out.st HF.out (by omega) x.n (by omega) own (Own.sl HS.out.own) (fun hne ad hA e => HS.out.aM.2.2.2 q0.g (by rw [hA, ← e]; rfl) (.inl rfl)) (by rw [HOwn.out]; omega))
      clear v1
      go_wp2_with fail
      refine HWr.out.mono ?_
      clear HWr
      rintro e w7 ⟨A7, c7, rfl, hG⟩
      have HE := Lib.hid (HMp.out A7 c7)
      have hfk := HF.out.put x.n ⟨A7, c7, own⟩
      have hnd := HNm.out.put svl Sv.nil x.n ⟨A7, c7, own⟩
      have hln := sPut_len svl Sv.nil d x.n ⟨A7, c7, own⟩
      generalize sPut svl Sv.nil d x.n ⟨A7, c7, own⟩ = r8 at *
      clear HMp
      obtain ⟨q8, hg8, hD8, hF8, hM8, -⟩ := hG
      have hS8 := HS.out.act hg8 hD8 hF8 hM8
      clear y0 y1 y2 y3 y4 y5 y6 y7 y8 y9 r0 r1 r2 r3 r4 rf0 rf1 rf2 rf3 rf4
      clear hg8 hD8 hF8 hM8 HS hS7
      obtain ⟨d8, n8⟩ := r8
      obtain rfl : rm = (d8.map Sv.l, n8) := HE.out
      dsimp only at hS8 hfk hnd hln
      have HN8 := Lib.hid (fun W => num_any n8 W)
      have HS8 := Lib.hid hS8
      have HFk := Lib.hid hfk
      have HNd := Lib.hid hnd
      have HLn := Lib.hid hln
      have hbe : ((n8 : Int) == (n8 : Int)) = true := by simp
      clear hS8 hfk hnd hln HE
      generalize errv n8 = ev at *
      go_wp2_with fail
      refine (HN8.out _).mono ?_
      rintro e w9 ⟨rfl, rfl⟩
      go_wp2_with fail
      go_meet
      exact ⟨rfl, q8, d8, gs, A5, c5, B5, k5, rfl, HS8.out, HFk.out, HNd.out, HLn.out, .inl rfl⟩
    · have HK := Lib.hid (KSPut_any (T := Yt P w q0) (d.map Sv.l) x.n x.l w4 HS.out.up HS.out.R (by rw [len_mapD]; omega) HF.out.2 (by omega) (by omega) HS.out.st.dsk.ris.mapD (by rw [shown_map, fused_map]; exact p3))
      have HMp := Lib.hid (show ∀ A' c', sPut bln ([] : Bs) (d.map Sv.l) x.n x.l = ((sPut svl Sv.nil d x.n ⟨A', c', own⟩).1.map Sv.l, (sPut svl Sv.nil d x.n ⟨A', c', own⟩).2) from fun A' c' => by rw [← sPut_map]; dsimp only; rw [HOwn.out])
      generalize sPut bln ([] : Bs) (d.map Sv.l) x.n x.l = rm at *
      have v1 := conv_str (P := Tryz.prog) 29 9 5 Tryz.underlying29 Tryz.underlying5 Tryz.underlying9 (HSx.out w4 HS.out.fr) rfl
      go_wp2_with fail
      refine HK.out.mono ?_
      clear HK
      rintro e w5 ⟨A5, c5, B5, k5, rfl, hR5, hb5⟩
      have hS5 := HS.out.call hb5
      have HS6 := Lib.hid (hS5.ref hR5)
      clear y0 y1 y2 y3 y4 y5 y6 y7 y8 y9 r0 r1 r2 r3 r4 rf0 rf1 rf2 rf3 rf4
      obtain ⟨y0, y1, y2, y3, y4, y5, y6, y7, y8, y9⟩ := (hS5).b1.tenC
      obtain ⟨r0, r1, r2, r3, r4, rf0, rf1, rf2, rf3, rf4⟩ := (hS5).b0.fiveC
      clear hR5 hb5 hS5 HS
      unfold rda
      go_upto_region 6 with (fail)
      refine gen1 (T := fun W => SoS P w W q0 q0 gs d O co own rm.1 A5 c5 B5 k5 x) HS6.out (fun w6 hS7 => ?_)
      clear y0 y1 y2 y3 y4 y5 y6 y7 y8 y9 r0 r1 r2 r3 r4 rf0 rf1 rf2 rf3 rf4
      clear HS6 w5
      obtain ⟨y0, y1, y2, y3, y4, y5, y6, y7, y8, y9⟩ := (hS7).b1.tenC
      obtain ⟨r0, r1, r2, r3, r4, rf0, rf1, rf2, rf3, rf4⟩ := (hS7).b0.fiveC
      have HS := Lib.hid hS7
      have HWr := Lib.hid (SPut_any HS.out.st HF.out (by omega) x.n (by omega) own (Own.sl HS.out.own) (fun hne ad hA e => HS.out.aM.2.2.2 q0.g (by rw [hA, ← e]; rfl) (.inl rfl)) (by rw [HOwn.out]; omega))
      clear v1
      go_wp2_with fail
      refine HWr.out.mono ?_
      clear HWr
      rintro e w7 ⟨A7, c7, rfl, hG⟩
      have HE := Lib.hid (HMp.out A7 c7)
      have hfk := HF.out.put x.n ⟨A7, c7, own⟩
      have hnd := HNm.out.put svl Sv.nil x.n ⟨A7, c7, own⟩
      have hln := sPut_len svl Sv.nil d x.n ⟨A7, c7, own⟩
      generalize sPut svl Sv.nil d x.n ⟨A7, c7, own⟩ = r8 at *
      clear HMp
      obtain ⟨q8, hg8, hD8, hF8, hM8, -⟩ := hG
      have hS8 := HS.out.act hg8 hD8 hF8 hM8
      clear y0 y1 y2 y3 y4 y5 y6 y7 y8 y9 r0 r1 r2 r3 r4 rf0 rf1 rf2 rf3 rf4
      clear hg8 hD8 hF8 hM8 HS hS7
      obtain ⟨d8, n8⟩ := r8
      obtain rfl : rm = (d8.map Sv.l, n8) := HE.out
      dsimp only at hS8 hfk hnd hln
      have HN8 := Lib.hid (fun W => num_any n8 W)
      have HS8 := Lib.hid hS8
      have HFk := Lib.hid hfk
      have HNd := Lib.hid hnd
      have HLn := Lib.hid hln
      have hbe : ((n8 : Int) == (n8 : Int)) = true := by simp
      clear hS8 hfk hnd hln HE
      generalize errv n8 = ev at *
      go_wp2_with fail
      refine (HN8.out _).mono ?_
      rintro e w9 ⟨rfl, rfl⟩
      go_wp2_with fail
      go_meet
      exact ⟨rfl, q8, d8, gs, A5, c5, B5, k5, rfl, HS8.out, HFk.out, HNd.out, HLn.out, .inl rfl⟩
    · have HK := Lib.hid (KSPut_any (T := Yt P w q0) (d.map Sv.l) x.n x.l w4 HS.out.up HS.out.R (by rw [len_mapD]; omega) HF.out.2 (by omega) (by omega) HS.out.st.dsk.ris.mapD (by rw [shown_map, fused_map]; exact p3))
      have HMp := Lib.hid (show ∀ A' c', sPut bln ([] : Bs) (d.map Sv.l) x.n x.l = ((sPut svl Sv.nil d x.n ⟨A', c', own⟩).1.map Sv.l, (sPut svl Sv.nil d x.n ⟨A', c', own⟩).2) from fun A' c' => by rw [← sPut_map]; dsimp only; rw [HOwn.out])
      generalize sPut bln ([] : Bs) (d.map Sv.l) x.n x.l = rm at *
      have v1 := conv_str (P := Tryz.prog) 29 9 5 Tryz.underlying29 Tryz.underlying5 Tryz.underlying9 (HSx.out w4 HS.out.fr) rfl
      go_wp2_with fail
      refine HK.out.mono ?_
      clear HK
      rintro e w5 ⟨A5, c5, B5, k5, rfl, hR5, hb5⟩
      have hS5 := HS.out.call hb5
      have HS6 := Lib.hid (hS5.ref hR5)
      clear y0 y1 y2 y3 y4 y5 y6 y7 y8 y9 r0 r1 r2 r3 r4 rf0 rf1 rf2 rf3 rf4
      obtain ⟨y0, y1, y2, y3, y4, y5, y6, y7, y8, y9⟩ := (hS5).b1.tenC
      obtain ⟨r0, r1, r2, r3, r4, rf0, rf1, rf2, rf3, rf4⟩ := (hS5).b0.fiveC
      clear hR5 hb5 hS5 HS
      unfold rda
      go_upto_region 6 with (fail)
      refine gen1 (T := fun W => SoS P w W q0 q0 gs d O co own rm.1 A5 c5 B5 k5 x) HS6.out (fun w6 hS7 => ?_)
      clear y0 y1 y2 y3 y4 y5 y6 y7 y8 y9 r0 r1 r2 r3 r4 rf0 rf1 rf2 rf3 rf4
      clear HS6 w5
      obtain ⟨y0, y1, y2, y3, y4, y5, y6, y7, y8, y9⟩ := (hS7).b1.tenC
      obtain ⟨r0, r1, r2, r3, r4, rf0, rf1, rf2, rf3, rf4⟩ := (hS7).b0.fiveC
      have HS := Lib.hid hS7
      have HWr := Lib.hid (SPut_any HS.out.st HF.out (by omega) x.n (by omega) own (Own.sl HS.out.own) (fun hne ad hA e => HS.out.aM.2.2.2 q0.g (by rw [hA, ← e]; rfl) (.inl rfl)) (by rw [HOwn.out]; omega))
      clear v1
      go_wp2_with fail
      refine HWr.out.mono ?_
      clear HWr
      rintro e w7 ⟨A7, c7, rfl, hG⟩
      have HE := Lib.hid (HMp.out A7 c7)
      have hfk := HF.out.put x.n ⟨A7, c7, own⟩
      have hnd := HNm.out.put svl Sv.nil x.n ⟨A7, c7, own⟩
      have hln := sPut_len svl Sv.nil d x.n ⟨A7, c7, own⟩
      generalize sPut svl Sv.nil d x.n ⟨A7, c7, own⟩ = r8 at *
      clear HMp
      obtain ⟨q8, hg8, hD8, hF8, hM8, -⟩ := hG
      have hS8 := HS.out.act hg8 hD8 hF8 hM8
      clear y0 y1 y2 y3 y4 y5 y6 y7 y8 y9 r0 r1 r2 r3 r4 rf0 rf1 rf2 rf3 rf4
      clear hg8 hD8 hF8 hM8 HS hS7
      obtain ⟨d8, n8⟩ := r8
      obtain rfl : rm = (d8.map Sv.l, n8) := HE.out
      dsimp only at hS8 hfk hnd hln
      have HN8 := Lib.hid (fun W => num_any n8 W)
      have HS8 := Lib.hid hS8
      have HFk := Lib.hid hfk
      have HNd := Lib.hid hnd
      have HLn := Lib.hid hln
      have hbe : ((n8 : Int) == (n8 : Int)) = true := by simp
      clear hS8 hfk hnd hln HE
      generalize errv n8 = ev at *
      go_wp2_with fail
      refine (HN8.out _).mono ?_
      rintro e w9 ⟨rfl, rfl⟩
      go_wp2_with fail
      go_meet
      exact ⟨rfl, q8, d8, gs, A5, c5, B5, k5, rfl, HS8.out, HFk.out, HNd.out, HLn.out, .inl rfl⟩
    · have HK := Lib.hid (KSDelete_any (T := Yt P w q0) (d.map Sv.l) x.n w4 HS.out.up HS.out.R (by rw [len_mapD]; omega) HF.out.2 (by omega))
      have HMp := Lib.hid (sDelete_map d x.n)
      generalize sDelete ([] : Bs) (d.map Sv.l) x.n = rm at *
      go_wp2_with fail
      refine HK.out.mono ?_
      clear HK
      rintro e w5 ⟨A5, c5, B5, k5, rfl, hR5, hb5⟩
      have hS5 := HS.out.call hb5
      have HS6 := Lib.hid (hS5.ref hR5)
      clear y0 y1 y2 y3 y4 y5 y6 y7 y8 y9 r0 r1 r2 r3 r4 rf0 rf1 rf2 rf3 rf4
      obtain ⟨y0, y1, y2, y3, y4, y5, y6, y7, y8, y9⟩ := (hS5).b1.tenC
      obtain ⟨r0, r1, r2, r3, r4, rf0, rf1, rf2, rf3, rf4⟩ := (hS5).b0.fiveC
      clear hR5 hb5 hS5 HS
      unfold rda
      go_upto_region 9 with (fail)
      refine gen1 (T := fun W => SoS P w W q0 q0 gs d O co own rm.1 A5 c5 B5 k5 x) HS6.out (fun w6 hS7 => ?_)
      clear y0 y1 y2 y3 y4 y5 y6 y7 y8 y9 r0 r1 r2 r3 r4 rf0 rf1 rf2 rf3 rf4
      clear HS6 w5
      obtain ⟨y0, y1, y2, y3, y4, y5, y6, y7, y8, y9⟩ := (hS7).b1.tenC
      obtain ⟨r0, r1, r2, r3, r4, rf0, rf1, rf2, rf3, rf4⟩ := (hS7).b0.fiveC
      have HS := Lib.hid hS7
      have HWr := Lib.hid (SDelete_any HS.out.st HF.out (by omega) x.n (by omega))
      go_wp2_with fail
      refine HWr.out.mono ?_
      clear HWr
      rintro e w7 ⟨rfl, hG⟩
      have HE := Lib.hid HMp.out
      have hfk := HF.out.del x.n
      have hnd := HNm.out.del Sv.nil x.n
      have hln := Nat.le_trans (sDelete_len Sv.nil d x.n) (show _ ≤ d.sure.length + d.pend.length + 4 by omega)
      generalize sDelete Sv.nil d x.n = r8 at *
      clear HMp
      obtain ⟨q8, hg8, hD8, hF8, hM8, -⟩ := hG
      have hS8 := HS.out.act hg8 hD8 hF8 hM8
      clear y0 y1 y2 y3 y4 y5 y6 y7 y8 y9 r0 r1 r2 r3 r4 rf0 rf1 rf2 rf3 rf4
      clear hg8 hD8 hF8 hM8 HS hS7
      obtain ⟨d8, n8⟩ := r8
      obtain rfl : rm = (d8.map Sv.l, n8) := HE.out
      dsimp only at hS8 hfk hnd hln
      have HN8 := Lib.hid (fun W => num_any n8 W)
      have HS8 := Lib.hid hS8
      have HFk := Lib.hid hfk
      have HNd := Lib.hid hnd
      have HLn := Lib.hid hln
      have hbe : ((n8 : Int) == (n8 : Int)) = true := by simp
      clear hS8 hfk hnd hln HE
      generalize errv n8 = ev at *
      go_wp2_with fail
      refine (HN8.out _).mono ?_
      rintro e w9 ⟨rfl, rfl⟩
      go_wp2_with fail
      go_meet
      exact ⟨rfl, q8, d8, gs, A5, c5, B5, k5, rfl, HS8.out, HFk.out, HNd.out, HLn.out, .inl rfl⟩
    · have HK := Lib.hid (KSGet_any (T := Yt P w q0) (d.map Sv.l) x.n w4 HS.out.up HS.out.R (by rw [len_mapD]; omega) (by omega))
      have HMp := Lib.hid (sGetK_map d x.n)
      rw [HMp.out] at HK
      dsimp only at HK
      go_wp2_with fail
      refine HK.out.mono ?_
      clear HK
      rintro e w6 ⟨rfl, hb6⟩
      have hS7 := HS.out.call hb6
      clear y0 y1 y2 y3 y4 y5 y6 y7 y8 y9 r0 r1 r2 r3 r4 rf0 rf1 rf2 rf3 rf4
      obtain ⟨y0, y1, y2, y3, y4, y5, y6, y7, y8, y9⟩ := (hS7).b1.tenC
      obtain ⟨r0, r1, r2, r3, r4, rf0, rf1, rf2, rf3, rf4⟩ := (hS7).b0.fiveC
      have HWr := Lib.hid (SGet_any hS7.st x.n (by omega))
      have HHs := Lib.hid (fun W (hW : StM W gs q0 d) => SHas_any hW x.n (by omega))
      have HS := Lib.hid hS7
      generalize sGet d x.n = rr at *
      obtain ⟨r1', r2'⟩ := rr
      dsimp only at HWr HHs ⊢
      generalize (r1'.map Sv.l).getD [] = rl at *
      clear HMp hb6 hS7
      go_wp2_with fail
      refine HWr.out.mono ?_
      clear HWr
      rintro e w7 ⟨A7, c7, m7, rfl, hm7, ho7, hb7⟩
      obtain rfl := hm7.out
      have HN8 := Lib.hid (fun W => num_any r2' W)
      have hbe : ((r2' : Int) == (r2' : Int)) = true := by simp
      have hbm : (m7 == m7) = true := by simp
      have v1 := conv_str (P := Tryz.prog) 29 9 5 Tryz.underlying29 Tryz.underlying5 Tryz.underlying9 (Own.sl ho7) rfl
      have hm7l : m7.length ≤ 9223372036854775807 := Sl.len_le (Own.sl ho7)
      have hS8 := HS.out.call hb7
      clear y0 y1 y2 y3 y4 y5 y6 y7 y8 y9 r0 r1 r2 r3 r4 rf0 rf1 rf2 rf3 rf4
      obtain ⟨y0, y1, y2, y3, y4, y5, y6, y7, y8, y9⟩ := (hS8).b1.tenC
      obtain ⟨r0, r1, r2, r3, r4, rf0, rf1, rf2, rf3, rf4⟩ := (hS8).b0.fiveC
      have HHs := Lib.hid (HHs.out _ hS8.st)
      have HS := Lib.hid hS8
      clear ho7 hb7 hm7 hS8
      generalize errv r2' = ev at *
      generalize hkb : ((r2' : Int) == 0) = kb at *
      have HKb := Lib.hid hkb
      clear hkb
      go_wp2_with fail
      refine (HN8.out _).mono ?_
      rintro e w9 ⟨rfl, rfl⟩
      go_wp2_with fail
      refine HHs.out.mono ?_
      rintro e w8 ⟨rfl, hb8⟩
      have HS9 := Lib.hid (HS.out.call hb8)
      clear y0 y1 y2 y3 y4 y5 y6 y7 y8 y9 r0 r1 r2 r3 r4 rf0 rf1 rf2 rf3 rf4
      clear hb8
      go_wp2_with fail
      go_meet
      exact ⟨(by rw [HKb.out]; simp), q0, d, gs, A, c, B, k, rfl, HS9.out, HF.out, HNm.out, Nat.le_add_right _ 4, .inl rfl⟩
    · have HDr := Lib.hid (Driven_any x.d w4)
      unfold acta at HDr
      go_wp2_with fail
      refine HDr.out.mono ?_
      clear HDr
      rintro e w5 ⟨⟨b, rfl⟩, hb5⟩
      have hS5 := HS.out.call hb5
      clear y0 y1 y2 y3 y4 y5 y6 y7 y8 y9 r0 r1 r2 r3 r4 rf0 rf1 rf2 rf3 rf4
      obtain ⟨y0, y1, y2, y3, y4, y5, y6, y7, y8, y9⟩ := (hS5).b1.tenC
      obtain ⟨r0, r1, r2, r3, r4, rf0, rf1, rf2, rf3, rf4⟩ := (hS5).b0.fiveC
      have HS5 := Lib.hid hS5
      clear hb5 hS5 HS
      cases b with
      | false =>
        clear y0 y1 y2 y3 y4 y5 y6 y7 y8 y9 r0 r1 r2 r3 r4 rf0 rf1 rf2 rf3 rf4
        go_wp2_with fail
        go_meet
        exact ⟨rfl, q0, d, gs, A, c, B, k, rfl, HS5.out, HF.out, HNm.out, Nat.le_add_right _ 4, .inl rfl⟩
      | true =>
        have HDo := Lib.hid (DoA_any (P := fun i => P i ∧ i ≠ w.heap.size ∧ i ≠ w.heap.size + 2) (L := L) x.d HS5.out.st.dsk HF.out HS5.out.R (fun i hi => (HS5.out.up i hi).2) ⟨HSdx.out w5 HS5.out.fr, HSdz.out w5 HS5.out.fr⟩ HX.out.2.2.1 HX.out.2.2.2 HL.out (Nat.le_trans hLw HS5.out.fr.size) HFx.out ((dLong_short s5).2 x.d (List.mem_cons_self ..)) (by omega))
        unfold acta at HDo
        unfold rda
        unfold rda at HDo
        go_wp2_with fail
        refine HDo.out.mono ?_
        clear HDo
        rintro e w7 ⟨q8, d8, A8, c8, B8, k8, rfl, hg8, hD8, hf8, hF8, hM8, hR8, hl8, hn8⟩
        have hS8 := HS5.out.act hg8 hD8 hF8 hM8
        clear y0 y1 y2 y3 y4 y5 y6 y7 y8 y9 r0 r1 r2 r3 r4 rf0 rf1 rf2 rf3 rf4
        obtain ⟨y0, y1, y2, y3, y4, y5, y6, y7, y8, y9⟩ := (hS8).b1.tenC
        obtain ⟨r0, r1, r2, r3, r4, rf0, rf1, rf2, rf3, rf4⟩ := (hS8).b0.fiveC
        have HS8 := Lib.hid (hS8.ref (m' := d8.map Sv.l) (A' := A8) (c' := c8) (B' := B8) (k' := k8) hR8)
        have HFk := Lib.hid hf8
        have HNd := Lib.hid (hn8 HNm.out)
        have HLn := Lib.hid (Nat.le_trans hl8 (show _ ≤ d.sure.length + d.pend.length + 4 by omega))
        clear hg8 hD8 hf8 hF8 hM8 hR8 hl8 hn8 hS8 HS5
        unfold rda
        go_wp2_with fail
        go_meet
        exact ⟨rfl, q8, d8, gs, A8, c8, B8, k8, rfl, HS8.out, HFk.out, HNd.out, HLn.out, .inl rfl⟩
    · have HC := Lib.hid (Cut_any HS.out.st.dsk p1 (by omega) x.ks (HSz.out w4 HS.out.fr) (fun hne ad hA e => by
        have h1 := HX.out.2.1 hne ad hA
        have h2 := HL.out q0.bs (.inr (.inl rfl))
        omega))
      go_wp2_with fail
      refine HC.out.mono ?_
      clear HC
      rintro e w5 ⟨rfl, q5, hg5, hD5, hF5, hM5, -⟩
      have hS5 := HS.out.act hg5 hD5 hF5 hM5
      clear y0 y1 y2 y3 y4 y5 y6 y7 y8 y9 r0 r1 r2 r3 r4 rf0 rf1 rf2 rf3 rf4
      have hcl := cut_len x.ks d
      have HSt := StartDown_any hS5.st.dsk (Nat.zero_le _) (by omega) rfl
      rw [hg5] at HSt
      replace HSt := Lib.hid HSt
      have HS5 := Lib.hid hS5
      clear hg5 hD5 hF5 hM5 hS5 HS
      obtain ⟨y0, y1, y2, y3, y4, y5, y6, y7, y8, y9⟩ := (HS5.out).b1.tenC
      obtain ⟨r0, r1, r2, r3, r4, rf0, rf1, rf2, rf3, rf4⟩ := (HS5.out).b0.fiveC
      go_wp2_with fail
      refine HSt.out.mono ?_
      clear HSt
      rintro e w6 ⟨rfl, q6, hg6, hD6, hF6, hM6, -⟩
      have hS6 := HS5.out.act hg6 hD6 hF6 hM6
      clear y0 y1 y2 y3 y4 y5 y6 y7 y8 y9 r0 r1 r2 r3 r4 rf0 rf1 rf2 rf3 rf4
      have HS6 := Lib.hid hS6
      clear hg6 hD6 hF6 hM6 hS6 HS5
      obtain ⟨y0, y1, y2, y3, y4, y5, y6, y7, y8, y9⟩ := (HS6.out).b1.tenC
      obtain ⟨r0, r1, r2, r3, r4, rf0, rf1, rf2, rf3, rf4⟩ := (HS6.out).b0.fiveC
      have hK := KCut_any (T := Yt P w q6) (d.map Sv.l) x.ks w6 HS6.out.up HS6.out.R (HSz.out w6 HS6.out.fr) (by rw [len_mapD]; omega) (by omega)
      rw [dCut_map] at hK
      have HK := Lib.hid hK
      clear hK
      go_wp2_with fail
      refine HK.out.mono ?_
      clear HK
      rintro e w7 ⟨A7, c7, B7, k7, rfl, hR7, hb7⟩
      have hS7 := HS6.out.call hb7
      clear y0 y1 y2 y3 y4 y5 y6 y7 y8 y9 r0 r1 r2 r3 r4 rf0 rf1 rf2 rf3 rf4
      have HS7 := Lib.hid hS7
      have HR7 := Lib.hid hR7
      clear hb7 hS7 HS6 hR7
      have hK := KStart_any (A := A7) (B := B7) (c := c7) (k := k7) ((dCut x.ks d).map Sv.l) w7
      rw [dStart_map] at hK
      have HK := Lib.hid hK
      clear hK
      obtain ⟨y0, y1, y2, y3, y4, y5, y6, y7, y8, y9⟩ := (HS7.out).b1.tenC
      obtain ⟨r0, r1, r2, r3, r4, rf0, rf1, rf2, rf3, rf4⟩ := (HS7.out).b0.fiveC
      unfold rda
      unfold rda at HK
      go_wp2_with fail
      refine HK.out.mono ?_
      clear HK
      rintro e w8 ⟨B8, k8, rfl, hc8, hb8⟩
      obtain ⟨rfl, rfl⟩ : B8 = none ∧ k8 = 0 := by
        rcases hc8 with ⟨-, h1, h2⟩ | ⟨h, -⟩
        · exact ⟨h1, h2⟩
        · cases h
      have hcl2 := start_len (dCut x.ks d)
      have hfk1 := start_fok (dCut x.ks d)
      have hnm1 : Nmd (dStart (dCut x.ks d)) := (HNm.out.cut x.ks).start
      have hfre : Fre (dStart (dCut x.ks d)) := ⟨rfl, rfl⟩
      have hR8 : Rdk (Yt P w q6) w8 ((dStart (dCut x.ks d)).map Sv.l) A7 c7 none 0 := ⟨HR7.out.s.below hb8, HR7.out.sa.below hb8.size, Sl.none_ _ _, fun i hi => by cases hi⟩
      have hS8 := HS7.out.call hb8
      have hris := hS8.st.dsk.ris
      clear y0 y1 y2 y3 y4 y5 y6 y7 y8 y9 r0 r1 r2 r3 r4 rf0 rf1 rf2 rf3 rf4
      obtain ⟨y0, y1, y2, y3, y4, y5, y6, y7, y8, y9⟩ := (hS8).b1.tenC
      obtain ⟨r0, r1, r2, r3, r4, rf0, rf1, rf2, rf3, rf4⟩ := (hS8).b0.fiveC
      have HS9 := Lib.hid (hS8.ref hR8)
      clear hc8 hb8 hR8 hS8 HS7 HR7
      generalize dStart (dCut x.ks d) = d1 at *
      obtain ⟨d2, hO2, hfr2, -, -⟩ := open_ok (z := Sv.nil) hfre hris hnm1.names
      have HO2 := Lib.hid hO2
      have HLn := Lib.hid (show d2.sure.length + d2.pend.length ≤ d.sure.length + d.pend.length + 4 from by
        have := sOpen_len (z := Sv.nil) (d := d1) (by rw [hO2])
        rw [hO2] at this
        dsimp only at this
        omega)
      have HFk := Lib.hid (show Fok d2 from by have := hfk1.open_; rw [hO2] at this; exact this)
      have HNd := Lib.hid (show Nmd d2 from by have := hnm1.open_ Sv.nil; rw [hO2] at this; exact this)
      have HF1 := Lib.hid hfk1
      have HN1 := Lib.hid hnm1
      have hl1 : d1.sure.length + d1.pend.length ≤ 400 := by omega
      clear hris hO2 hfr2 hfk1 hnm1 hfre hcl hcl2
      go_upto_region 21 with (fail)
      refine gen1 (T := fun W => SoS P w W q0 q6 gs d1 O co own (d1.map Sv.l) A7 c7 none 0 x) HS9.out (fun w10 hS10 => ?_)
      clear y0 y1 y2 y3 y4 y5 y6 y7 y8 y9 r0 r1 r2 r3 r4 rf0 rf1 rf2 rf3 rf4
      clear HS9
      obtain ⟨y0, y1, y2, y3, y4, y5, y6, y7, y8, y9⟩ := (hS10).b1.tenC
      obtain ⟨r0, r1, r2, r3, r4, rf0, rf1, rf2, rf3, rf4⟩ := (hS10).b0.fiveC
      have hK := KSOpen_any (T := Yt P w q6) (d1.map Sv.l) w10 hS10.up hS10.R (by rw [len_mapD]; omega) HF1.out.2 HN1.out.mapD
      rw [sOpen_map, HO2.out] at hK
      have HK := Lib.hid hK
      have HS10 := Lib.hid hS10
      clear hK hS10
      unfold rda at HK
      go_wp2_with fail
      refine HK.out.mono ?_
      clear HK
      rintro e w11 ⟨A11, c11, B11, k11, rfl, hR11, hb11⟩
      have hS11 := HS10.out.call hb11
      clear y0 y1 y2 y3 y4 y5 y6 y7 y8 y9 r0 r1 r2 r3 r4 rf0 rf1 rf2 rf3 rf4
      obtain ⟨y0, y1, y2, y3, y4, y5, y6, y7, y8, y9⟩ := (hS11).b1.tenC
      obtain ⟨r0, r1, r2, r3, r4, rf0, rf1, rf2, rf3, rf4⟩ := (hS11).b0.fiveC
      have HS11 := Lib.hid (hS11.ref hR11)
      clear hR11 hb11 hS11 HS10
      unfold rda
      go_upto_region 22 with (fail)
      refine gen1 (T := fun W => SoS P w W q0 q6 gs d1 O co own (d2.map Sv.l) A11 c11 B11 k11 x) HS11.out (fun w12 hS12 => ?_)
      clear y0 y1 y2 y3 y4 y5 y6 y7 y8 y9 r0 r1 r2 r3 r4 rf0 rf1 rf2 rf3 rf4
      clear HS11
      have hOp := SOpen_any hS12.st.dsk HF1.out hl1
      rw [hS12.g] at hOp
      have HOp := Lib.hid hOp
      have HS12 := Lib.hid hS12
      clear hOp hS12
      go_wp2_with fail
      refine HOp.out.mono ?_
      clear HOp
      rintro e w13 hOO
      obtain ⟨q13, g13, rfl, hg13, hF13, hM13, hS13, hgs13⟩ := hOO.ok HO2.out
      have HS13 := Lib.hid (((HS12.out.act hg13 hS13.dsk hF13 hM13).store hS13 (by have := HS12.out.b2.lt; omega)))
      have HG13 := Lib.hid (show g13 = gs ∨ w.heap.size ≤ g13 from .inr (by have := HS12.out.b2.lt; omega))
      have HN8 := Lib.hid (fun W => num_any 0 W)
      rw [show errv 0 = Value.nilIface from rfl] at HN8
      clear hOO hg13 hF13 hM13 hS13 hgs13 HS12
      go_wp2_with fail
      refine (HN8.out _).mono ?_
      rintro e w14 ⟨rfl, rfl⟩
      go_wp2_with fail
      go_meet
      exact ⟨rfl, q13, d2, g13, A11, c11, B11, k11, rfl, HS13.out, HFk.out, HNd.out, HLn.out, HG13.out⟩
    · have hK := KSList_any (T := Yt P w q0) (d.map Sv.l) x.n w4 HS.out.R (by rw [len_mapD]; omega) HNm.out.mapD (by omega)
      rw [sList_map] at hK
      have HK := Lib.hid hK
      clear hK
      go_wp2_with fail
      refine HK.out.mono ?_
      clear HK
      rintro e w5 ⟨A5, c5, m5, rfl, hm5, ho5, hb5⟩
      have hS5 := HS.out.call hb5
      clear y0 y1 y2 y3 y4 y5 y6 y7 y8 y9 r0 r1 r2 r3 r4 rf0 rf1 rf2 rf3 rf4
      obtain ⟨y0, y1, y2, y3, y4, y5, y6, y7, y8, y9⟩ := (hS5).b1.tenC
      obtain ⟨r0, r1, r2, r3, r4, rf0, rf1, rf2, rf3, rf4⟩ := (hS5).b0.fiveC
      have HWr := Lib.hid (SList_any hS5.st (by omega) x.n)
      have HS := Lib.hid hS5
      have HO5 := Lib.hid (show SlT w5 A5 c5 m5 from Own.sl ho5)
      clear hb5 hS5 ho5
      go_wp2_with fail
      refine HWr.out.mono ?_
      clear HWr
      rintro e w6 ⟨A6, c6, m6, rfl, hm6, ho6, hb6⟩
      have hTx := Texts_any w6 (show SlT w6 A6 c6 m6 from Own.sl ho6) (HO5.out.below hb6)
      rw [show decide (m6 = m5) = true from decide_eq_true (by rw [hm6.out, hm5.out])] at hTx
      have HTx := Lib.hid hTx
      have hS6 := HS.out.call hb6
      clear y0 y1 y2 y3 y4 y5 y6 y7 y8 y9 r0 r1 r2 r3 r4 rf0 rf1 rf2 rf3 rf4
      have HS := Lib.hid hS6
      clear hTx hm5 hm6 ho6 hb6 hS6 HO5
      generalize (sList d x.n).2 = n8 at *
      have HN8 := Lib.hid (fun W => num_any n8 W)
      have hbe : ((n8 : Int) == (n8 : Int)) = true := by simp
      generalize errv n8 = ev at *
      go_wp2_with fail
      refine HTx.out.mono ?_
      rintro e w7 ⟨rfl, hb7⟩
      have HS8 := Lib.hid (HS.out.call hb7)
      clear hb7 HS
      go_wp2_with fail
      refine (HN8.out _).mono ?_
      rintro e w9 ⟨rfl, rfl⟩
      go_wp2_with fail
      go_meet
      exact ⟨rfl, q0, d, gs, A, c, B, k, rfl, HS8.out, HF.out, HNm.out, Nat.le_add_right _ 4, .inl rfl⟩
  case rest =>
    obtain ⟨rfl, q, d8, gs8, A8, c8, B8, k8, rfl, hS8, hFk8, hNd8, hLn8, hgs8⟩ := hcut
    have HFk := Lib.hid hFk8
    have HNd := Lib.hid hNd8
    have HLn := Lib.hid hLn8
    have HGs := Lib.hid hgs8
    have hst := hS8.call (Below.drew (Below.refl _ _))
    have hSh := Shows_any hst.st.dsk hst.R (by omega)
    rw [hst.g] at hSh
    have HSh := Lib.hid hSh
    have hBy := nBytes_any O x.A co x.c own x.l wc.drew (Own.sl hst.own) (HSx.out _ hst.fr)
    rw [show (own == x.l) = true from by rw [HOwn.out]; simp] at hBy
    have HBy := Lib.hid hBy
    clear y0 y1 y2 y3 y4 y5 y6 y7 y8 y9 r0 r1 r2 r3 r4 rf0 rf1 rf2 rf3 rf4
    clear HS HF hS8 hFk8 hNd8 hLn8 hgs8 hSh hBy HNm
    go_upto_region 30 with (fail)
    have hst0 : Blk (World.drew wc) w.heap.size 79 (rda (d8.map Sv.l) A8 c8 B8 k8) ∧ Blk (World.drew wc) (w.heap.size + 1) 90 (sacta x) := ⟨hst.b0, hst.b1⟩
    have hne2 : w.heap.size ≠ w.heap.size + 2 := by omega
    have hne3 : w.heap.size + 1 ≠ w.heap.size + 2 := by omega
    refine wp_region_held_drew (S := (fun W => Blk W w.heap.size 79 (rda (d8.map Sv.l) A8 c8 B8 k8) ∧ Blk W (w.heap.size + 1) 90 (sacta x))) (by kernel_rfl) ?_ (fun hHeld => ?_)
    · first | with_reducible exact hst0 | with_reducible exact hHeld | exact ⟨hHeld.1.below hb7, hHeld.2.below hb7⟩ | exact ⟨((((hHeld.1.far hne2 _).far hne2 _).far hne2 _).far hne2 _).far hne2 _, ((((hHeld.2.far hne3 _).far hne3 _).far hne3 _).far hne3 _).far hne3 _⟩
    refine wpAnyH_take (i := 0) (oi := ⟨some 174, _, _, _, _, _⟩) (v := ?_) rfl (by kernel_rfl) (by kernel_rfl) (by kernel_rfl) (fun _ _ _ h => h) (Or.inl ⟨by kernel_rfl, ?_⟩) (by assumption) ?_
    rotate_left
    · (intro wS hSw; (try dsimp only at hSw); obtain ⟨z0, z1, z2, z3, z4, -⟩ := hSw.1.fiveC; obtain ⟨y0, y1, y2, y3, y4, y5, y6, y7, y8, y9⟩ := hSw.2.tenC; clear hSw; go_simp; (try with_reducible rfl))
    (try simp only [Act.put, List.setIfInBounds_toArray, List.set_cons_zero, List.set_cons_succ])
    refine wpAnyH_take (i := 1) (oi := ⟨some 175, _, _, _, _, _⟩) (v := ?_) rfl (by kernel_rfl) (by kernel_rfl) (by kernel_rfl) (fun _ _ _ h => h) (Or.inl ⟨by kernel_rfl, ?_⟩) (by assumption) ?_
    rotate_left
    · (intro wS hSw; (try dsimp only at hSw); obtain ⟨z0, z1, z2, z3, z4, -⟩ := hSw.1.fiveC; obtain ⟨y0, y1, y2, y3, y4, y5, y6, y7, y8, y9⟩ := hSw.2.tenC; clear hSw; go_simp; (try with_reducible rfl))
    (try simp only [Act.put, List.setIfInBounds_toArray, List.set_cons_zero, List.set_cons_succ])
    refine wpAnyH_take (i := 2) (oi := ⟨some 176, _, _, _, _, _⟩) (v := ?_) rfl (by kernel_rfl) (by kernel_rfl) (by kernel_rfl) (fun _ _ _ h => h) (Or.inl ⟨by kernel_rfl, ?_⟩) (by assumption) ?_
    rotate_left
    · (intro wS hSw; (try dsimp only at hSw); obtain ⟨z0, z1, z2, z3, z4, -⟩ := hSw.1.fiveC; obtain ⟨y0, y1, y2, y3, y4, y5, y6, y7, y8, y9⟩ := hSw.2.tenC; clear hSw; go_simp; (try with_reducible rfl))
    (try simp only [Act.put, List.setIfInBounds_toArray, List.set_cons_zero, List.set_cons_succ])
    refine wpAnyH_take (i := 3) (oi := ⟨some 177, _, _, _, _, _⟩) (v := ?_) rfl (by kernel_rfl) (by kernel_rfl) (by kernel_rfl) (fun _ _ _ h => h) (Or.inl ⟨by kernel_rfl, ?_⟩) (by assumption) ?_
    rotate_left
    · (intro wS hSw; (try dsimp only at hSw); obtain ⟨z0, z1, z2, z3, z4, -⟩ := hSw.1.fiveC; obtain ⟨y0, y1, y2, y3, y4, y5, y6, y7, y8, y9⟩ := hSw.2.tenC; clear hSw; go_simp; (try with_reducible rfl))
    (try simp only [Act.put, List.setIfInBounds_toArray, List.set_cons_zero, List.set_cons_succ])
    refine wpAnyH_take (i := 4) (oi := ⟨some 178, _, _, _, _, _⟩) (v := ?_) rfl (by kernel_rfl) (by kernel_rfl) (by kernel_rfl) (fun _ _ _ h => h) (Or.inl ⟨by kernel_rfl, ?_⟩) (by assumption) ?_
    rotate_left
    · (intro wS hSw; (try dsimp only at hSw); obtain ⟨z0, z1, z2, z3, z4, -⟩ := hSw.1.fiveC; obtain ⟨y0, y1, y2, y3, y4, y5, y6, y7, y8, y9⟩ := hSw.2.tenC; clear hSw; go_simp; (try with_reducible rfl))
    (try simp only [Act.put, List.setIfInBounds_toArray, List.set_cons_zero, List.set_cons_succ])
    refine wpAnyH_take (i := 5) (oi := ⟨some 179, _, _, _, _, _⟩) (v := ?_) rfl (by kernel_rfl) (by kernel_rfl) (by kernel_rfl) (fun _ _ _ h => h) (Or.inl ⟨by kernel_rfl, ?_⟩) (by assumption) ?_
    rotate_left
    · (intro wS hSw; (try dsimp only at hSw); obtain ⟨z0, z1, z2, z3, z4, -⟩ := hSw.1.fiveC; obtain ⟨y0, y1, y2, y3, y4, y5, y6, y7, y8, y9⟩ := hSw.2.tenC; clear hSw; go_simp; (try with_reducible rfl))
    (try simp only [Act.put, List.setIfInBounds_toArray, List.set_cons_zero, List.set_cons_succ])
    refine wpAnyH_take (i := 6) (oi := ⟨some 180, _, _, _, _, _⟩) (v := ?_) rfl (by kernel_rfl) (by kernel_rfl) (by kernel_rfl) (fun _ _ _ h => h) (Or.inl ⟨by kernel_rfl, ?_⟩) (by assumption) ?_
    rotate_left
    · (intro wS hSw; (try dsimp only at hSw); obtain ⟨z0, z1, z2, z3, z4, -⟩ := hSw.1.fiveC; obtain ⟨y0, y1, y2, y3, y4, y5, y6, y7, y8, y9⟩ := hSw.2.tenC; clear hSw; go_simp; (try with_reducible rfl))
    (try simp only [Act.put, List.setIfInBounds_toArray, List.set_cons_zero, List.set_cons_succ])
    refine wpAnyH_ready (rs := [7]) (by kernel_rfl) (by simp) ?_
    refine AllReadyH.cons (o := ⟨some 181, _, _, _, _, _⟩) rfl (fun K hK => ?_) AllReadyH.nil
    go_simp
    (refine HBy.out.mono ?_; rintro e w6 ⟨rfl, rfl⟩)
    go_wp2_with fail
    refine hK.out _ _ ?_ (fun hHeld => ?_)
    · ((try dsimp only); (first | with_reducible exact hst0 | with_reducible exact hHeld | exact ⟨hHeld.1.below hb7, hHeld.2.below hb7⟩ | exact ⟨((((hHeld.1.far hne2 _).far hne2 _).far hne2 _).far hne2 _).far hne2 _, ((((hHeld.2.far hne3 _).far hne3 _).far hne3 _).far hne3 _).far hne3 _⟩))
    clear hK K
    (try simp only [Act.put, List.setIfInBounds_toArray, List.set_cons_zero, List.set_cons_succ])
    refine wpAnyH_take (i := 8) (oi := ⟨some 182, _, _, _, _, _⟩) (v := ?_) rfl (by kernel_rfl) (by kernel_rfl) (by kernel_rfl) (fun _ _ _ h => h) (Or.inl ⟨by kernel_rfl, ?_⟩) (by assumption) ?_
    rotate_left
    · (intro wS hSw; (try dsimp only at hSw); obtain ⟨z0, z1, z2, z3, z4, -⟩ := hSw.1.fiveC; obtain ⟨y0, y1, y2, y3, y4, y5, y6, y7, y8, y9⟩ := hSw.2.tenC; clear hSw; go_simp; (try with_reducible rfl))
    (try simp only [Act.put, List.setIfInBounds_toArray, List.set_cons_zero, List.set_cons_succ])
    refine wpAnyH_take (i := 9) (oi := ⟨some 183, _, _, _, _, _⟩) (v := ?_) rfl (by kernel_rfl) (by kernel_rfl) (by kernel_rfl) (fun _ _ _ h => h) (Or.inl ⟨by kernel_rfl, ?_⟩) (by assumption) ?_
    rotate_left
    · (intro wS hSw; (try dsimp only at hSw); obtain ⟨z0, z1, z2, z3, z4, -⟩ := hSw.1.fiveC; obtain ⟨y0, y1, y2, y3, y4, y5, y6, y7, y8, y9⟩ := hSw.2.tenC; clear hSw; go_simp; (try with_reducible rfl))
    (try simp only [Act.put, List.setIfInBounds_toArray, List.set_cons_zero, List.set_cons_succ])
    refine wpAnyH_take (i := 10) (oi := ⟨some 184, _, _, _, _, _⟩) (v := ?_) rfl (by kernel_rfl) (by kernel_rfl) (by kernel_rfl) (fun _ _ _ h => h) (Or.inl ⟨by kernel_rfl, ?_⟩) (by assumption) ?_
    rotate_left
    · (intro wS hSw; (try dsimp only at hSw); obtain ⟨z0, z1, z2, z3, z4, -⟩ := hSw.1.fiveC; obtain ⟨y0, y1, y2, y3, y4, y5, y6, y7, y8, y9⟩ := hSw.2.tenC; clear hSw; go_simp; (try with_reducible rfl))
    (try simp only [Act.put, List.setIfInBounds_toArray, List.set_cons_zero, List.set_cons_succ])
    refine wpAnyH_take (i := 11) (oi := ⟨some 185, _, _, _, _, _⟩) (v := ?_) rfl (by kernel_rfl) (by kernel_rfl) (by kernel_rfl) (fun _ _ _ h => h) (Or.inl ⟨by kernel_rfl, ?_⟩) (by assumption) ?_
    rotate_left
    · (intro wS hSw; (try dsimp only at hSw); obtain ⟨z0, z1, z2, z3, z4, -⟩ := hSw.1.fiveC; obtain ⟨y0, y1, y2, y3, y4, y5, y6, y7, y8, y9⟩ := hSw.2.tenC; clear hSw; go_simp; (try with_reducible rfl))
    (try simp only [Act.put, List.setIfInBounds_toArray, List.set_cons_zero, List.set_cons_succ])
    refine wpAnyH_ready (rs := [12]) (by kernel_rfl) (by simp) ?_
    refine AllReadyH.cons (o := ⟨some 186, _, _, _, _, _⟩) rfl (fun K hK => ?_) AllReadyH.nil
    go_simp
    (refine HSh.out.mono ?_; rintro e w7 ⟨rfl, hb7⟩; have hS7 := hst.call hb7; obtain ⟨x0, x1, x2, x3, x4, xf0, xf1, xf2, xf3, xf4⟩ := hS7.b2.fiveC)
    go_wp2_with fail
    refine hK.out _ _ ?_ (fun hHeld => ?_)
    · ((try dsimp only); (first | with_reducible exact hst0 | with_reducible exact hHeld | exact ⟨hHeld.1.below hb7, hHeld.2.below hb7⟩ | exact ⟨((((hHeld.1.far hne2 _).far hne2 _).far hne2 _).far hne2 _).far hne2 _, ((((hHeld.2.far hne3 _).far hne3 _).far hne3 _).far hne3 _).far hne3 _⟩))
    clear hK K
    (try simp only [Act.put, List.setIfInBounds_toArray, List.set_cons_zero, List.set_cons_succ])
    refine wpAnyH_take (i := 13) (oi := ⟨some 187, _, _, _, _, _⟩) (v := ?_) rfl (by kernel_rfl) (by kernel_rfl) (by kernel_rfl) (fun _ _ _ h => h) (Or.inl ⟨by kernel_rfl, ?_⟩) (by assumption) ?_
    rotate_left
    · (intro wS hSw; (try dsimp only at hSw); obtain ⟨z0, z1, z2, z3, z4, -⟩ := hSw.1.fiveC; obtain ⟨y0, y1, y2, y3, y4, y5, y6, y7, y8, y9⟩ := hSw.2.tenC; clear hSw; go_simp; (try with_reducible rfl))
    (try simp only [Act.put, List.setIfInBounds_toArray, List.set_cons_zero, List.set_cons_succ])
    refine wpAnyH_take (i := 14) (oi := ⟨some 6, _, _, _, _, _⟩) (v := ?_) rfl (by kernel_rfl) (by kernel_rfl) (by kernel_rfl) (fun _ _ _ h => h) (Or.inl ⟨by kernel_rfl, ?_⟩) (by assumption) ?_
    rotate_left
    · (intro wS hSw; (try dsimp only at hSw); obtain ⟨z0, z1, z2, z3, z4, -⟩ := hSw.1.fiveC; obtain ⟨y0, y1, y2, y3, y4, y5, y6, y7, y8, y9⟩ := hSw.2.tenC; clear hSw; go_simp; (try with_reducible rfl))
    (try simp only [Act.put, List.setIfInBounds_toArray, List.set_cons_zero, List.set_cons_succ])
    refine wpAnyH_ready (rs := [15]) (by kernel_rfl) (by simp) ?_
    refine AllReadyH.cons (o := ⟨none, _, _, _, _, _⟩) rfl (fun K hK => ?_) AllReadyH.nil
    go_simp
    refine hK.out _ _ ?_ (fun hHeld => ?_)
    · ((try dsimp only); (first | with_reducible exact hst0 | with_reducible exact hHeld | exact ⟨hHeld.1.below hb7, hHeld.2.below hb7⟩ | exact ⟨((((hHeld.1.far hne2 _).far hne2 _).far hne2 _).far hne2 _).far hne2 _, ((((hHeld.2.far hne3 _).far hne3 _).far hne3 _).far hne3 _).far hne3 _⟩))
    clear hK K
    (try simp only [Act.put, List.setIfInBounds_toArray, List.set_cons_zero, List.set_cons_succ])
    refine wpAnyH_take (i := 16) (oi := ⟨some 8, _, _, _, _, _⟩) (v := ?_) rfl (by kernel_rfl) (by kernel_rfl) (by kernel_rfl) (fun _ _ _ h => h) (Or.inl ⟨by kernel_rfl, ?_⟩) (by assumption) ?_
    rotate_left
    · (intro wS hSw; (try dsimp only at hSw); obtain ⟨z0, z1, z2, z3, z4, -⟩ := hSw.1.fiveC; obtain ⟨y0, y1, y2, y3, y4, y5, y6, y7, y8, y9⟩ := hSw.2.tenC; clear hSw; go_simp; (try with_reducible rfl))
    (try simp only [Act.put, List.setIfInBounds_toArray, List.set_cons_zero, List.set_cons_succ])
    refine wpAnyH_done (by kernel_rfl) ?_ _
    have hw9 : Wr w7 (((((w7.setCell ⟨w.heap.size + 2, 0, none⟩ (.int .i64 (d8.map Sv.l).room)).setCell ⟨w.heap.size + 2, 1, none⟩ (.slice A8 (d8.map Sv.l).sure.length c8)).setCell ⟨w.heap.size + 2, 2, none⟩ (.slice B8 (d8.map Sv.l).pend.length k8)).setCell ⟨w.heap.size + 2, 3, none⟩ (.int .i64 (d8.map Sv.l).fuse)).setCell ⟨w.heap.size + 2, 4, none⟩ (.bool (d8.map Sv.l).down)) (w.heap.size + 2) := (((((Wr.refl _ _).set_ 0 _).set_ 1 _).set_ 2 _).set_ 3 _).set_ 4 _
    obtain ⟨o1, o2, o3⟩ := hS7.out hw9
    have HO := Lib.hid (show SoG P w q0 gs d (.returned (.tuple #[.pointer (some ⟨gs8, 0, none⟩), .agg (rda (d8.map Sv.l) A8 c8 B8 k8), .bool true])) _ from ⟨q, d8, gs8, A8, c8, B8, k8, rfl, hS7.g, o1, HFk.out, HNd.out, o2, hS7.M, o3, HLn.out, HGs.out⟩)
    clear o1 o2 o3 hw9
    go_wp2_with fail
    exact bodyPost_ret (res_k3 rfl rfl (g := w.heap.size + 2) (hS7.b2.st5 _ _ _ _ _)) rfl HO.out
end Go.Proofs.YtnndlmkcckgkhaaGreatDoor

namespace Go.Proofs.YtnndlmkcckgkhaaGreatDoor
open Go.RowKit Go.Maps Go.Sort
theorem ptr_neq (g : Nat) (W : World) : (binOp .neq 73 (.pointer (some ⟨g, 0, none⟩)) (.pointer (some ⟨g, 0, none⟩))).run Tryz.prog W = .ok (.bool false) W := by
  obtain ⟨j, hj⟩ := Option.isSome_iff_exists.1 (show (Tryz.prog.info? 145).isSome = true by kernel_rfl)
  have h : ∀ d : Nat, (Op.equalIn (d + 1) 73 (.pointer (some ⟨g, 0, none⟩)) (.pointer (some ⟨g, 0, none⟩))).run Tryz.prog W = .ok true W := fun d => by
    simp [Op.equalIn, run_underlying Tryz.underlying73, sizeOf, typeInfo, hj, run_sameAddr_same]
  simp only [binOp]
  simp [Op.equal, Op.maxDepth, h 9999]
theorem ptr_guard (g : Nat) (x y : Operand) (W : World) : (eqGuard .neq 73 x y (.pointer (some ⟨g, 0, none⟩)) (.pointer (some ⟨g, 0, none⟩))).run Tryz.prog W = .ok () W := by
  go_simp
end Go.Proofs.YtnndlmkcckgkhaaGreatDoor
