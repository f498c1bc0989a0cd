/- WHAT IT HOLDS: the manifest that bytes are, plainly; manifest.Take, walked, for all bytes. | WHAT IT HOLDS: the document's cursors, walked: Check, Same, a cursor as the document's. | WHAT IT HOLDS: the document's Same of equal cursors, walked. -/
import Derived.Test.YtgfigkenpmmdeaaManifestTakesG15
namespace Go.Proofs.Ytgfigkenpmmdeaa
open Go.RowKit
attribute [local go_sem ↓] Go.wp_at_zero Go.wp_at_succ

/-- a manifest out of a reader -/
def mfRead (s : List UInt8 × Nat) : Mf × (List UInt8 × Nat) :=
  let r0 := rWithin 999999 s
  let r1 := rWithin 1048576 r0.2
  let r2 := rWithin 1048576 r1.2
  let r3 := rWithin 1048576 r2.2
  let rd := rDg r3.2
  let rn := rNum rd.2
  let s5 := if 1024 < rn.1 then rFail 3 rn.2 else rn.2
  let l := crLoop (min rn.1 1024) (r1.1 : Int) s5
  (((r0.1 : Int), (r1.1 : Int), (r2.1 : Int), (r3.1 : Int), rd.1, l.1), l.2)
def mfz : Mf := (0, 0, 0, 0, dg0, [])
def mfEnd (x : Mf × (List UInt8 × Nat)) : Mf × Nat := if rEnd x.2 ≠ 0 then (mfz, rEnd x.2) else if mchk x.1 ≠ 0 then (mfz, mchk x.1) else (x.1, 0)
/-- the manifest that bytes are; an error's number -/
def mfTake (b : List UInt8) : Mf × Nat := if (fone b).2 ≠ 0 then (mfz, (fone b).2) else mfEnd (mfRead ((fone b).1, 0))
theorem mfRead_eq {s s0 s1 s2 s3 s4 s5 s6 : List UInt8 × Nat} {nu f tt q n : Nat} {d : Dg} (h0 : rWithin 999999 s = (nu, s0)) (h1 : rWithin 1048576 s0 = (f, s1)) (h2 : rWithin 1048576 s1 = (tt, s2)) (h3 : rWithin 1048576 s2 = (q, s3)) (h4 : rDg s3 = (d, s4)) (h5 : rNum s4 = (n, s5)) (h6 : (if 1024 < n then rFail 3 s5 else s5) = s6) :
    mfRead s = (((nu : Int), (f : Int), (tt : Int), (q : Int), d, (crLoop (min n 1024) f s6).1), (crLoop (min n 1024) f s6).2) := by
  unfold mfRead
  simp only [h0, h1, h2, h3, h4, h5, h6]
theorem mfEnd_1 {x : Mf × (List UInt8 × Nat)} (h : rEnd x.2 ≠ 0) : mfEnd x = (mfz, rEnd x.2) := by unfold mfEnd; rw [if_pos h]
theorem mfEnd_2 {x : Mf × (List UInt8 × Nat)} (h : rEnd x.2 = 0) (h2 : mchk x.1 ≠ 0) : mfEnd x = (mfz, mchk x.1) := by unfold mfEnd; rw [if_neg (by omega), if_pos h2]
theorem mfEnd_3 {x : Mf × (List UInt8 × Nat)} (h : rEnd x.2 = 0) (h2 : mchk x.1 = 0) : mfEnd x = (x.1, 0) := by unfold mfEnd; rw [if_neg (by omega), if_neg (by omega)]
theorem rDg_len (s : List UInt8 × Nat) : (rDg s).2.1.length ≤ s.1.length := rFixed_len 32 s
abbrev mza : Array Value := mfa 0 0 0 0 dg0 none 0 0
theorem res_mf2 {fn : Func} {a b : Nat} {tmps : Array Value} {w : World} {g : Nat} {n f t r : Int} {d : Dg} {A : Option Addr} {k c : Nat} (hres : fn.results = #[.cell a 27, .tmp b]) (ha : tmps.getD a undef = .pointer (some ⟨g, 0, none⟩)) (hB : Blk w g 27 (mfa n f t r d A k c)) : (results fn tmps).run Try.prog w = .ok (.tuple #[.agg (mfa n f t r d A k c), tmps.getD b undef]) w := by
  have h := run_loadVar_at (P := Try.prog) w ⟨g, 0, none⟩ 27 (mfa n f t r d A k c) hB.cells _ Try.underlying27 rfl (by rw [mfa_size]; kernel_rfl)
  have ha' : tmps[a]?.getD undef = .pointer (some ⟨g, 0, none⟩) := by simpa using ha
  simp [results, hres, asAddr, h, ha']
theorem built_mz : Try.prog.built 27 [] = some mza := by kernel_rfl
theorem wpl_buildMz {ops : Array Oper} {rest : List Oper} {o : Oper} {a : Act} {w : World} {Q : Exit → Act → World → Prop} (hgd : o.guard = none) (ho : o.op = .build 27 #[])
    (h : wpList Try.prog ops Q rest (a.put o.dst (.agg mza)) w) : wpList Try.prog ops Q (o :: rest) a w := by
  have hl : ((#[] : Array (Nat × Operand)).map fun (i, x) => (i, a.eval x)).toList = [] := by simp
  refine wpList_build hgd 27 _ ho ?_ ?_
  · rw [hl, built_mz]; rfl
  · rw [hl, built_mz]; exact h
theorem built_mM (n f t r : Int) : ∀ d : Dg, Try.prog.built 27 [(0, .int .i64 n), (1, .int .i64 f), (2, .int .i64 t), (3, .int .i64 r), (4, .agg (dga d))] = some (mfa n f t r d none 0 0) := by
  refine dg_cases ?_
  intros
  kernel_rfl
theorem wpl_buildMM {ops : Array Oper} {rest : List Oper} {o : Oper} {a : Act} {w : World} {Q : Exit → Act → World → Prop} (hgd : o.guard = none) (x0 x1 x2 x3 x5 : Operand) (ho : o.op = .build 27 #[(0, x0), (1, x1), (2, x2), (3, x3), (4, x5)])
    {n f t r : Int} {d : Dg} (h0 : a.eval x0 = .int .i64 n) (h1 : a.eval x1 = .int .i64 f) (h2 : a.eval x2 = .int .i64 t) (h3 : a.eval x3 = .int .i64 r) (h5 : a.eval x5 = .agg (dga d))
    (h : wpList Try.prog ops Q rest (a.put o.dst (.agg (mfa n f t r d none 0 0))) w) : wpList Try.prog ops Q (o :: rest) a w := by
  have hl : ((#[(0, x0), (1, x1), (2, x2), (3, x3), (4, x5)] : Array (Nat × Operand)).map fun (i, x) => (i, a.eval x)).toList = [(0, .int .i64 n), (1, .int .i64 f), (2, .int .i64 t), (3, .int .i64 r), (4, .agg (dga d))] := by
    simp [h0, h1, h2, h3, h5]
  refine wpList_build hgd 27 _ ho ?_ ?_
  · rw [hl, built_mM]; rfl
  · rw [hl, built_mM]; exact h
/-- a manifest, and an error's number -/
def GivesMf (w0 : World) (r : Mf × Nat) (e : Ending) (w' : World) : Prop :=
  ∃ A c m, e = .returned (.tuple #[.agg (mfa r.1.1 r.1.2.1 r.1.2.2.1 r.1.2.2.2.1 r.1.2.2.2.2.1 A (List.length m) c), errv r.2]) ∧ Hid (m = r.1.2.2.2.2.2) ∧ OwnP w' w0.heap.size A c m ∧ Below w0.heap.size w0 w'
set_option maxRecDepth 100000 in
set_option maxHeartbeats 2000000 in
theorem MTake_any (A : Option Addr) (c : Nat) (b : List UInt8) (w : World) (hs : SlB w A c b) (hl : b.length ≤ 1000000) :
    Calls Try.prog 6 #[.slice A b.length c] w (GivesMf w (mfTake b)) := by
  have hM := (Mm.start w).alloc mza 27
  have hfl := foneLen b
  have hzw : (w.alloc (.cells mza 27)).heap.size = w.heap.size + 1 := by simp
  go_enter Try.func6, Try.ntmps6
  go_upto_region 1 with (fail)
  refine gen1 (T := fun W => Mm w W [(w.heap.size, 27, mza)] []) hM (fun w0 hM => ?_)
  clear hzw
  go_wp2_with fail
  refine (FOne_any A c b _ (hs.below hM.bel) (by omega)).mono ?_
  rintro e w1 ⟨A1, c1, m1, rfl, hm1, hs1, hb1⟩
  replace hM := hM.call hb1
  clear hb1
  rcases errv_cases (fone b).2 with ⟨h0, hev⟩ | ⟨k, hk, hke, hev⟩
  · have HT0 := Lib.hid (show mfTake b = mfEnd (mfRead (m1, 0)) from by unfold mfTake; rw [if_neg (by omega), hm1.out])
    have hm1l : m1.length ≤ 1000000 := by rw [hm1.out]; omega
    rw [hev]
    clear hev h0 hfl hm1
    go_wp2_with fail
    refine (RNew_any A1 c1 m1 _ hs1).mono ?_
    rintro e w2 ⟨g, rfl, hg, hR, hb2⟩
    have hM2 := hM.callAdd hb2 (a := some g) (fun k hk => by injection hk with hk; subst hk; exact ⟨hg, hR.lt⟩)
    have hB0 : w.heap.size < w1.heap.size := hM.b0.lt
    have hB2 := hb2.size
    obtain ⟨nu, s0, h0⟩ : ∃ n s, rWithin 999999 (m1, 0) = (n, s) := ⟨_, _, rfl⟩
    obtain ⟨f, s1, h1⟩ : ∃ n s, rWithin 1048576 s0 = (n, s) := ⟨_, _, rfl⟩
    obtain ⟨tt, s2, h2⟩ : ∃ n s, rWithin 1048576 s1 = (n, s) := ⟨_, _, rfl⟩
    obtain ⟨q, s3, h3⟩ : ∃ n s, rWithin 1048576 s2 = (n, s) := ⟨_, _, rfl⟩
    obtain ⟨d, s4, h4⟩ : ∃ n s, rDg s3 = (n, s) := ⟨_, _, rfl⟩
    obtain ⟨n, s5, h5⟩ : ∃ n s, rNum s4 = (n, s) := ⟨_, _, rfl⟩
    obtain ⟨s6, h6⟩ : ∃ s, (if 1024 < n then rFail 3 s5 else s5) = s := ⟨_, rfl⟩
    have hfb : f ≤ 1048576 := by have := rWithin_le 1048576 s0; rw [h1] at this; exact this
    have HC := Lib.hid (mfRead_eq h0 h1 h2 h3 h4 h5 h6)
    have hl3 : s3.1.length ≤ 1000000 := by
      have l0 := rWithin_len 999999 (m1, 0)
      have l1 := rWithin_len 1048576 s0
      have l2 := rWithin_len 1048576 s1
      have l3 := rWithin_len 1048576 s2
      rw [h0] at l0
      rw [h1] at l1
      rw [h2] at l2
      rw [h3] at l3
      dsimp only at l0 l1 l2 l3
      omega
    have hs6l : s6.1.length ≤ 1000000 := by
      have l4 := rDg_len s3
      have l5 := rNum_len s4
      rw [h4] at l4
      rw [h5] at l5
      dsimp only at l4 l5
      rw [← h6]
      split
      · rw [rFail_fst18]; omega
      · omega
    have H0 := Lib.hid h0
    have H1 := Lib.hid h1
    have H2 := Lib.hid h2
    have H3 := Lib.hid h3
    have H4 := Lib.hid h4
    have H5 := Lib.hid h5
    have H6 := Lib.hid h6
    clear h0 h1 h2 h3 h4 h5 h6 hM hb2 hs1
    generalize w1.heap.size = B at *
    have hgg : g < w2.heap.size := hR.lt
    go_wp2_with fail
    refine (Within_eq H0.out hR).mono ?_
    rintro e wa ⟨rfl, hRa, hra⟩
    have hM := hM2.wr hra (List.mem_cons_self ..) (by omega)
    clear hM2 hR hra
    go_wp2_with fail
    refine (Within_eq H1.out hRa).mono ?_
    rintro e wb ⟨rfl, hRb, hrb⟩
    replace hM := hM.wr hrb (List.mem_cons_self ..) (by omega)
    clear hRa hrb
    go_wp2_with fail
    refine (Within_eq H2.out hRb).mono ?_
    rintro e wa ⟨rfl, hRa, hra⟩
    replace hM := hM.wr hra (List.mem_cons_self ..) (by omega)
    clear hRb hra
    go_wp2_with fail
    refine (Within_eq H3.out hRa).mono ?_
    rintro e wb ⟨rfl, hRb, hrb⟩
    replace hM := hM.wr hrb (List.mem_cons_self ..) (by omega)
    have hwb : B ≤ wb.heap.size := by have := (hM.far g (List.mem_cons_self ..)).1; omega
    clear hRa hrb
    go_wp2_with fail
    refine (MDig_eq H4.out hRb hwb (by omega)).mono ?_
    rintro e wc ⟨rfl, hRc, hrc⟩
    replace hM := hM.wr hrc (List.mem_cons_self ..) (by omega)
    have hgc0 : g < wc.heap.size := hRc.lt
    clear hRb hrc hwb
    have hmz0 := Lib.hid (mfa_size nu f tt q d none 0 0)
    have hmb0 := Lib.hid (mfa_all nu f tt q d none 0 0)
    go_upto_region 6 with (first | (refine wpl_buildMM rfl _ _ _ _ _ rfl (n := nu) (f := f) (t := tt) (r := q) (d := d) rfl rfl rfl rfl rfl ?_) | (refine wpl_storeN rfl 27 _ _ rfl _ (mfa nu f tt q d none 0 0) 27 rfl rfl (by rw [hmz0.out]; kernel_rfl) (by rw [hmz0.out]; rfl) hmb0.out ?_))
    have hMx := hM.alloc (mfa nu f tt q d none 0 0) 27
    have hRx := hRc.alloc (.cells (mfa nu f tt q d none 0 0) 27)
    have hBx : B ≤ wc.heap.size := by omega
    generalize wc.heap.size = gc at *
    refine gen1 (T := fun W => Mm w W [(gc, 27, mfa nu f tt q d none 0 0), (w.heap.size, 27, mza)] [some g] ∧ IsR W g B s4) ⟨hMx, hRx⟩ (fun w3 hT => ?_)
    clear hMx hRx hM hRc hmz0 hmb0
    obtain ⟨hM, hR⟩ := hT
    go_wp2_with fail
    refine (Number_s hR).mono ?_
    rintro e w3 ⟨rfl, hR3, hr3⟩
    rw [H5.out] at hR3 ⊢
    dsimp only at hR3 ⊢
    replace hM := hM.wr hr3 (List.mem_cons_self ..) (by omega)
    have hs6 := H6.out
    clear hR hr3 H0 H1 H2 H3 H4 H5 H6
    go_upto_if 38 with (fail)
    go_cut [] (fun wz => Mm w wz [(gc, 27, mfa nu f tt q d none 0 0), (w.heap.size, 27, mza)] [some g] ∧ IsR wz g B s6)
    case first =>
      rcases Decidable.em (1024 < n) with h | h
      · have hI : (1024 : Int) < (n : Int) := by omega
        rw [if_pos h] at hs6
        subst hs6
        clear h
        go_wp2_with fail
        refine (Fail_s 3 hR3).mono ?_
        rintro e w5 ⟨rfl, hR5, hr5⟩
        go_wp2_with fail
        go_meet
        exact ⟨hM.wr hr5 (List.mem_cons_self ..) (by omega), hR5⟩
      · have hI : (n : Int) ≤ (1024 : Int) := by omega
        rw [if_neg h] at hs6
        subst hs6
        clear h
        go_wp2_with fail
        go_meet
        exact ⟨hM, hR3⟩
    case rest =>
      clear hM hR3 hs6
      obtain ⟨hM, hR⟩ := hcut
      obtain ⟨c0, c1', c2, c3, c4⟩ := Blm.five hM.b0
      obtain ⟨N, hN⟩ : ∃ N : Nat, min n 1024 = N := ⟨_, rfl⟩
      have hNi : min (n : Int) 1024 = (N : Int) := by omega
      have hN2 : N ≤ 1024 := by omega
      rw [hN] at HC
      clear hN
      go_upto_region 10 with (fail)
      go_cut [45, 46] (fun x y wz => x = .int .u64 (N : Nat) ∧ y = .int .u64 0 ∧ wz = wc)
      case first =>
        go_wp2_with fail
        all_goals
          go_meet
          exact ⟨by congr 1; omega, rfl, rfl⟩
      case rest =>
        obtain ⟨rfl, rfl, rfl⟩ := hcut
        clear hNi
        go_wp2_with fail
        go_loopw [46, 9] (fun x y wr => ∃ (k : Nat) (E : Option Addr) (cE : Nat) (m : List Pt5), k ≤ N ∧ x = .int .u64 (k : Nat) ∧ y = .int .i64 (pend (f : Nat) m) ∧ Hid (m = (crLoop k (f : Nat) s6).1) ∧ Mm w wr [(gc, 27, mfa nu f tt q d E m.length cE), (w.heap.size, 27, mza)] [E.map (·.block), some g] ∧ IsR wr g B (crLoop k (f : Nat) s6).2 ∧ OwnP wr (gc + 1) E cE m) (fun x y wr => N - (intOf x).toNat)
        case atStart => exact ⟨0, none, 0, [], Nat.zero_le _, rfl, rfl, (show _ = _ from rfl), hM.add (by simp), hR, Own.none_ _ _ _ _⟩
        case round =>
          obtain ⟨k, E, cE, m, hk, rfl, rfl, hm, hMr, hRr, hOr⟩ := hrel
          have hml : Hid (m.length = k) := (show _ = _ from by rw [hm.out, crLoop_len])
          clear hM hR
          rcases Nat.lt_or_ge k N with hlt | hge
          · have hkI : (k : Int) < (N : Int) := by omega
            have hsl := crLoop_left k (f : Int) s6
            have hbd := crLoop_bd s6 (f : Int) k
            have hbd2 := crLoop_bd s6 (f : Int) (k + 1)
            have hsuc := crLoop_succ k (f : Int) s6
            rw [hsuc] at hbd2
            dsimp only at hbd2
            rw [pend_snoc] at hbd2
            rw [← hm.out] at hbd hbd2 hsuc
            have HSU := Lib.hid hsuc
            clear hsuc c0 c1' c2 c3 c4
            have hbsz : gc < wr.heap.size := hMr.b0.lt
            go_wp2_with fail
            refine (MPart_any (pend (f : Int) m) hRr (by omega) (by omega)).mono ?_
            rintro e w7 ⟨rfl, hR7, hr7⟩
            replace hMr := hMr.wr hr7 (by simp) (by omega)
            replace hOr := Own.wr hOr (by omega) hr7
            obtain ⟨p, s8, hp⟩ : ∃ p s, rPart (pend (f : Int) m) (crLoop k (f : Int) s6).2 = (p, s) := ⟨_, _, rfl⟩
            rw [hp] at hR7 ⊢
            have hsu2 := HSU.out
            rw [hp] at hsu2 hbd2
            dsimp only at hR7 hsu2 hbd2 ⊢
            have HS := Lib.hid hsu2
            have hps := Lib.hid (pta_size p)
            have hpa := Lib.hid (pta_all p)
            have hwrp : wrap64 (pend (f : Int) m + p.2.1) = pend (f : Int) m + p.2.1 := by simp only [wrap64]; omega
            have hwrp2 : IntKind.i64.wrap (pend (f : Int) m + p.2.1) = pend (f : Int) m + p.2.1 := by rw [IntKind.wrap_i64]; omega
            have hsz7 := hr7.size
            clear hsu2 HSU hp hRr hr7 hsl hm
            have hM8 := hMr.alloc (pta p) 68
            have hR8 := hR7.alloc (.cells (pta p) 68)
            have hO8 := World.ownsRow.alloc hOr (.cells (pta p) 68)
            go_upto_region 13 with (refine wpl_storeN rfl 68 _ _ rfl _ (pta p) 68 rfl rfl (by rw [hps.out]; kernel_rfl) (by rw [hps.out]; rfl) hpa.out ?_)
            generalize hWe : w7.alloc (.cells (pta p) 68) = w8 at *
            clear hWe
            have hgp : gc < w7.heap.size := hMr.b0.lt
            generalize w7.heap.size = gp at *
            clear hMr hR7 hOr
            obtain ⟨x0, x1, x2⟩ := BlP.three hM8.b0
            obtain ⟨c0, c1', c2, c3, c4⟩ := Blm.five hM8.b1
            have cf4 := hM8.b1.frozen 36
            go_upto_region 14 with (fail)
            have hL9 := litP w8 p
            have hO9 := World.ownsRow.alloc hO8 (.cells (pta p) 68)
            have hM9 := hM8.allocO (.cells (pta p) 68)
            have hR9 := hR8.alloc (.cells (pta p) 68)
            have hgc8 : gc + 1 ≤ w8.heap.size := by have := hM8.b1.lt; omega
            go_wp2_with (first | (refine wpl_loadG rfl 68 _ rfl ⟨gp, 0, none⟩ (pta p) rfl hM8.b0.cells _ Try.underlying68 rfl (by rw [hps.out]; kernel_rfl) ?_) | (refine wpl_lit1 rfl _ rfl p rfl ?_) | (at_builtin; refine wpl_parts rfl _ _ rfl (gc + 1) E cE m rfl hO9 (some ⟨w8.heap.size, 0, none⟩) 1 1 [p] rfl rfl hL9 (by rw [hml.out]; simp; omega) (by simp; omega) ?_; intro A10 c10 m10 w10 hm10 hO10 hg10 hb10; have hB10 : Blk w10 gc 27 _ := (hb10.block gc (Nat.lt_succ_self _)).trans hM9.b1; have df4 := hB10.frozen 36; obtain ⟨d0, d1, d2, d3, d4⟩ := Blm.five hB10))
            have hM10 := (hM9.sub (List.sublist_cons_self _ _)).base hb10 (by simp; omega) (by omega) (a := A10.map (·.block)) (fun k hk => hO10.lt k hk) (G' := [some g]) (by simp)
            have hM11 := hM10.set 0 36 (.slice A10 m10.length c10) rfl
            rw [mfa_set] at hM11
            have hR11 := (hR9.apart (C := gc + 1) (by omega) (by omega) hb10).set (k := gc) (i := 36) (by omega) (by omega) (.slice A10 m10.length c10)
            have hO11 := Own.set1 hO10 (g := gc) (i := 36) (Nat.lt_succ_self _) (.slice A10 m10.length c10)
            go_roundw
            case rel => exact ⟨k + 1, A10, c10, m10, hlt, by go_num, by rw [hm10.out, pend_snoc], (show _ = _ from by rw [hm10.out, HS.out]), hM11, by rw [HS.out]; exact hR11, hO11⟩
            case measure => simp [intOf]; omega
          · obtain rfl : k = N := by omega
            have HT1 : Hid (mfTake b = mfEnd (((nu : Int), (f : Int), (tt : Int), (q : Int), d, m), (crLoop k (f : Int) s6).2)) := (show _ = _ from by rw [HT0.out, HC.out, hm.out])
            have hmI : PtsI m := by rw [hm.out]; exact crLoop_I k _ _ (by omega) (by omega)
            have HMI := Lib.hid hmI
            generalize (crLoop k (f : Int) s6).2 = sF at *
            clear HT0 HC hm hmI c0 c1' c2 c3 c4
            have hE := End_s18 hRr
            have hmz := Lib.hid (mfa_size nu f tt q d E m.length cE)
            have hmb := Lib.hid (mfa_all nu f tt q d E m.length cE)
            go_wp2_with fail
            rcases errv_cases (rEnd sF) with ⟨h0, hev⟩ | ⟨k, hk, hke, hev⟩
            · rw [hev] at hE
              have HE := Lib.hid hE
              have HN0 := Lib.hid h0
              clear hE hev h0
              refine HE.out.mono ?_
              rintro e w7 ⟨rfl, rfl⟩
              go_wp2_with (refine wpl_loadG rfl 27 _ rfl ⟨gc, 0, none⟩ (mfa nu f tt q d E m.length cE) rfl hMr.b0.cells _ Try.underlying27 rfl (by rw [hmz.out]; kernel_rfl) ?_)
              refine (MCheck_any nu f tt q d m _ (Own.sl hOr) HMI.out).mono ?_
              rintro e w8 ⟨rfl, hb8⟩
              replace hMr := hMr.call hb8
              have hO8 := Own.below hOr hb8
              clear hb8 hRr hOr HE
              rcases errv_cases (mchk ((nu : Int), (f : Int), (tt : Int), (q : Int), d, m)) with ⟨h0, hev⟩ | ⟨k, hk, hke, hev⟩
              · have HT := Lib.hid (show mfTake b = (((nu : Int), (f : Int), (tt : Int), (q : Int), d, m), 0) from by rw [HT1.out]; exact mfEnd_3 HN0.out h0)
                rw [hev]
                clear hev h0
                go_wp2_with (first | (refine wpl_loadG rfl 27 _ rfl ⟨gc, 0, none⟩ (mfa nu f tt q d E m.length cE) rfl hMr.b0.cells _ Try.underlying27 rfl (by rw [hmz.out]; kernel_rfl) ?_) | (refine wpList_store_row rfl 27 _ _ rfl w.heap.size (mfa nu f tt q d E m.length cE) rfl rfl 27 mza hMr.b1 (by rw [hmz.out]; kernel_rfl) (by rw [hmz.out, mfa_size]) hmb.out ?_))
                exact bodyPost_ret (res_mf2 rfl rfl (g := w.heap.size) hMr.b1.row) rfl ⟨E, cE, m, by rw [HT.out]; rfl, (show _ = _ from by rw [HT.out]), (Own.wr hO8 (g := w.heap.size) (by omega) (Wr.row _)).more (by omega), below_setRow hMr.bel (Nat.le_refl _) _⟩
              · have HT := Lib.hid (show mfTake b = (mfz, mchk ((nu : Int), (f : Int), (tt : Int), (q : Int), d, m)) from by rw [HT1.out]; exact mfEnd_2 HN0.out (by dsimp only; omega))
                have HEV := Lib.hid hev
                rw [hev]
                have hRes := hMr.b1
                have hw := hMr.bel
                clear hev hke hMr hO8
                go_wp2_with (first | (refine wpl_buildMz rfl rfl ?_) | (refine wpList_store_row rfl 27 _ _ rfl w.heap.size mza rfl rfl 27 mza hRes (by rw [mfa_size]; kernel_rfl) rfl (mfa_all _ _ _ _ _ _ _ _) ?_))
                exact bodyPost_ret (res_mf2 rfl rfl (g := w.heap.size) hRes.row) rfl ⟨none, 0, [], by rw [HT.out]; dsimp only [mfz]; rw [HEV.out]; rfl, (show _ = _ from by rw [HT.out]; rfl), Own.none_ _ _ _ _, below_setRow hw (Nat.le_refl _) _⟩
            · have HT := Lib.hid (show mfTake b = (mfz, rEnd sF) from by rw [HT1.out]; exact mfEnd_1 (by dsimp only; omega))
              have HEV := Lib.hid hev
              rw [hev] at hE
              have HE := Lib.hid hE
              clear hev hke hE
              refine HE.out.mono ?_
              rintro e w7 ⟨rfl, rfl⟩
              have hRes := hMr.b1
              have hw := hMr.bel
              clear hMr hOr
              go_wp2_with (first | (refine wpl_buildMz rfl rfl ?_) | (refine wpList_store_row rfl 27 _ _ rfl w.heap.size mza rfl rfl 27 mza hRes (by rw [mfa_size]; kernel_rfl) rfl (mfa_all _ _ _ _ _ _ _ _) ?_))
              exact bodyPost_ret (res_mf2 rfl rfl (g := w.heap.size) hRes.row) rfl ⟨none, 0, [], by rw [HT.out]; dsimp only [mfz]; rw [HEV.out]; rfl, (show _ = _ from by rw [HT.out]; rfl), Own.none_ _ _ _ _, below_setRow hw (Nat.le_refl _) _⟩
  · have HT := Lib.hid (show mfTake b = (mfz, (fone b).2) from by unfold mfTake; rw [if_pos (by omega)])
    have HEV := Lib.hid hev
    rw [hev]
    have hRes := hM.b0
    have hw := hM.bel
    clear hev hke hfl
    go_wp2_with (first | (refine wpl_buildMz rfl rfl ?_) | (refine wpList_store_row rfl 27 _ _ rfl w.heap.size mza rfl rfl 27 mza hRes (by rw [mfa_size]; kernel_rfl) rfl (mfa_all _ _ _ _ _ _ _ _) ?_))
    exact bodyPost_ret (res_mf2 rfl rfl (g := w.heap.size) hRes.row) rfl ⟨none, 0, [], by rw [HT.out]; dsimp only [mfz]; rw [HEV.out]; rfl, (show _ = _ from by rw [HT.out]; rfl), Own.none_ _ _ _ _, below_setRow hw (Nat.le_refl _) _⟩
end Go.Proofs.Ytgfigkenpmmdeaa

namespace Go.Proofs.Ytgfigkenpmmdeaa
open Go.RowKit
attribute [local go_sem ↓] Go.wp_at_zero Go.wp_at_succ

theorem built_mR5 (n f t r : Int) (A : Option Addr) (k c : Nat) : Try.prog.built 36 [(0, .int .i64 n), (1, .int .i64 f), (2, .int .i64 t), (3, .int .i64 r), (5, .slice A k c)] = some (mfa n f t r dg0 A k c) := by kernel_rfl
theorem wpl_buildMR5 {ops : Array Oper} {rest : List Oper} {o : Oper} {a : Act} {w : World} {Q : Exit → Act → World → Prop} (hgd : o.guard = none) (x0 x1 x2 x3 x5 : Operand) (ho : o.op = .build 36 #[(0, x0), (1, x1), (2, x2), (3, x3), (5, x5)])
    {n f t r : Int} {A : Option Addr} {k c : Nat} (h0 : a.eval x0 = .int .i64 n) (h1 : a.eval x1 = .int .i64 f) (h2 : a.eval x2 = .int .i64 t) (h3 : a.eval x3 = .int .i64 r) (h5 : a.eval x5 = .slice A k c)
    (h : wpList Try.prog ops Q rest (a.put o.dst (.agg (mfa n f t r dg0 A k c))) w) : wpList Try.prog ops Q (o :: rest) a w := by
  have hl : ((#[(0, x0), (1, x1), (2, x2), (3, x3), (5, x5)] : Array (Nat × Operand)).map fun (i, x) => (i, a.eval x)).toList = [(0, .int .i64 n), (1, .int .i64 f), (2, .int .i64 t), (3, .int .i64 r), (5, .slice A k c)] := by
    simp [h0, h1, h2, h3, h5]
  refine wpList_build hgd 36 _ ho ?_ ?_
  · rw [hl, built_mR5]; rfl
  · rw [hl, built_mR5]; exact h
set_option maxRecDepth 100000 in
set_option maxHeartbeats 1000000 in
theorem rCCheck_any {A : Option Addr} {c : Nat} (f nx t q : Int) (ps : List Pt5) (w : World) (h : SlP w A c ps) (hI : PtsI ps) :
    Calls Try.prog 42 #[crv f nx t q A ps.length c] w fun e w' => e = .returned (.int .i64 (crchk (f, nx, t, q, ps) : Nat)) ∧ Below w.heap.size w w' := by
  have hM := (Mm.start w).alloc #[.int .i64 f, .int .i64 nx, .int .i64 t, .int .i64 q, .slice A ps.length c] 50
  have hc1 := fun h => Lib.hid (crchk_m (x := (f, nx, t, q, ps)) h)
  have hc2 := fun h h2 => Lib.hid (crchk_to (x := (f, nx, t, q, ps)) h h2)
  have hc3 := fun h h2 h3 => Lib.hid (crchk_far (x := (f, nx, t, q, ps)) h h2 h3)
  have hc4 := fun h h2 h3 => Lib.hid (crchk_fine (x := (f, nx, t, q, ps)) h h2 h3)
  have hC := rMCheck_any 1 f nx q dg0 ps _ (h.below hM.bel) hI
  dsimp only at hc1 hc2 hc3 hc4
  obtain ⟨bad, hbad⟩ : ∃ b, mchk (1, f, nx, q, dg0, ps) = b := ⟨_, rfl⟩
  rw [hbad] at hc1 hc2 hc3 hc4 hC
  have HC := Lib.hid hC
  clear hC hbad
  go_enter Try.func42, Try.ntmps42
  obtain ⟨a0, a1, a2, a3, a4, -⟩ := Blk.five hM.b0
  go_wp2_with (refine wpl_buildMR5 rfl _ _ _ _ _ rfl (n := 1) (f := f) (t := nx) (r := q) (A := A) (k := ps.length) (c := c) rfl rfl rfl rfl rfl ?_)
  refine HC.out.mono ?_
  rintro e w2 ⟨rfl, hb2⟩
  replace hM := hM.call hb2
  clear hb2 HC a0 a1 a2 a3 a4
  obtain ⟨a0, a1, a2, a3, a4, -⟩ := Blk.five hM.b0
  by_cases h0 : bad = 0
  · have hb : (((bad : Nat) : Int) != 0) = false := by simp [h0]
    have H0 := Lib.hid h0
    clear h0 hc1
    by_cases g1 : t < 0
    · have hr := hc2 H0.out (.inl g1)
      clear hc2 hc3 hc4
      go_wp2_with fail
      go_ret
      exact ⟨by rw [hr.out]; rfl, hM.bel⟩
    by_cases g2 : 1048576 < t
    · have hr := hc2 H0.out (.inr g2)
      clear hc2 hc3 hc4
      go_wp2_with fail
      go_ret
      exact ⟨by rw [hr.out]; rfl, hM.bel⟩
    by_cases g3 : t < nx
    · have hr := hc3 H0.out (by omega) (by omega)
      clear hc2 hc3 hc4
      go_wp2_with fail
      go_ret
      exact ⟨by rw [hr.out]; rfl, hM.bel⟩
    · have hr := hc4 H0.out (by omega) (by omega)
      clear hc2 hc3 hc4
      go_wp2_with fail
      go_ret
      exact ⟨by rw [hr.out]; rfl, hM.bel⟩
  · have hb : (((bad : Nat) : Int) != 0) = true := by simp; omega
    have hr := hc1 h0
    clear hc1 hc2 hc3 hc4 h0
    go_wp2_with fail
    go_ret
    exact ⟨by rw [hr.out]; rfl, hM.bel⟩
theorem res_rc1 {fn : Func} {a : Nat} {tmps : Array Value} {w : World} {g : Nat} {x y z u v : Value} (hres : fn.results = #[.cell a 50]) (ha : tmps.getD a undef = .pointer (some ⟨g, 0, none⟩)) (hB : Blk w g 50 #[x, y, z, u, v]) :
    (results fn tmps).run Try.prog w = .ok (.agg #[x, y, z, u, v]) w := by
  obtain ⟨b0, b1, b2, b3, b4, -⟩ := Blk.five hB
  have ha' : tmps[a]?.getD undef = .pointer (some ⟨g, 0, none⟩) := by simpa using ha
  simp [results, hres, go_sem, b0, b1, b2, b3, b4, ha']
theorem res_rc2 {fn : Func} {a b : Nat} {tmps : Array Value} {w : World} {g : Nat} {x y z u v : Value} (hres : fn.results = #[.cell a 50, .tmp b]) (ha : tmps.getD a undef = .pointer (some ⟨g, 0, none⟩)) (hB : Blk w g 50 #[x, y, z, u, v]) :
    (results fn tmps).run Try.prog w = .ok (.tuple #[.agg #[x, y, z, u, v], tmps.getD b undef]) w := by
  obtain ⟨b0, b1, b2, b3, b4, -⟩ := Blk.five hB
  have ha' : tmps[a]?.getD undef = .pointer (some ⟨g, 0, none⟩) := by simpa using ha
  simp [results, hres, go_sem, b0, b1, b2, b3, b4, ha']
/-- a cursor as the document's -/
def GivesCd (w0 : World) (x : Cur) (e : Ending) (w' : World) : Prop := ∃ A c m, e = .returned (crv x.1 x.2.1 x.2.2.1 x.2.2.2.1 A (List.length m) c) ∧ Hid (m = x.2.2.2.2) ∧ OwnR w' w0.heap.size A c m ∧ Below w0.heap.size w0 w'
theorem field_m5 (n f t r : Int) (A : Option Addr) (k c : Nat) (w : World) : ∀ d : Dg, (Instr.field 36 (.agg (mfa n f t r d A k c)) 5).run Try.prog w = .ok (.slice A k c) w := by
  refine dg_cases ?_
  intros
  kernel_rfl
theorem built_m5 (A : Option Addr) (k c : Nat) : Try.prog.built 27 [(5, .slice A k c)] = some (mfa 0 0 0 0 dg0 A k c) := by kernel_rfl
theorem step_buildM5 {ops : Array Oper} {o : Oper} {a : Act} {w : World} {K : Act → World → Prop} {Q : Exit → Act → World → Prop} {X : Prop} (hgd : Region.wanted o (yielded ops a.tmps) = true) (x : Operand) (ho : o.op = .build 27 #[(5, x)])
    {A : Option Addr} {k c : Nat} (h5 : a.eval x = .slice A k c)
    (h : K (a.put o.dst (.agg (mfa 0 0 0 0 dg0 A k c))) w) : if Region.wanted o (yielded ops a.tmps) = true then Oper.wp Try.prog o a w K Q else X := by
  rw [if_pos hgd]
  have hl : ((#[(5, x)] : Array (Nat × Operand)).map fun (i, x) => (i, a.eval x)).toList = [(5, .slice A k c)] := by
    simp [h5]
  refine wp_build 27 _ ho ?_ ?_
  · rw [hl, built_m5]; rfl
  · rw [hl, built_m5]; exact h
set_option maxRecDepth 100000 in
set_option maxHeartbeats 1000000 in
theorem Doc18_any {E : Option Addr} {cap : Nat} (f nx t q : Int) (ps : List Pt5) (w : World) (h : SlP w E cap ps) (hl : ps.length ≤ 1000000) :
    Calls Try.prog 17 #[crv f nx t q E ps.length cap] w (GivesCd w (f, nx, t, q, ps)) := by
  have hM := (Mm.start w).alloc #[.int .i64 f, .int .i64 nx, .int .i64 t, .int .i64 q, .slice E ps.length cap] 46
  have hf5 := fun A k c W => field_m5 0 0 0 0 A k c W dg0
  go_enter Try.func17, Try.ntmps17
  go_upto_region 1 with (fail)
  have hM2 := (hM.allocO (.cells #[.int .i64 0, .int .i64 0, .int .i64 0, .int .i64 0, .slice none 0 0] 50)).drew
  have hD2 := (Blk.newAt (w := w.alloc (.cells #[.int .i64 f, .int .i64 nx, .int .i64 t, .int .i64 q, .slice E ps.length cap] 46)) (g := w.heap.size + 1) (by simp) 50 #[.int .i64 0, .int .i64 0, .int .i64 0, .int .i64 0, .slice none 0 0]).drew
  clear hM
  refine wp_region_held_drew (S := (fun W => Mm w W [(w.heap.size, 46, #[.int .i64 f, .int .i64 nx, .int .i64 t, .int .i64 q, .slice E ps.length cap])] [])) (by kernel_rfl) ?_ (fun hHeld => ?_)
  · exact hM2
  refine gen0 (T := fun W => ((fun W => Mm w W [(w.heap.size, 46, #[.int .i64 f, .int .i64 nx, .int .i64 t, .int .i64 q, .slice E ps.length cap])] [])) W ∧ Blk W (w.heap.size + 1) 50 #[.int .i64 0, .int .i64 0, .int .i64 0, .int .i64 0, .slice none 0 0] ∧ True) ?_ (fun wq1 hT => ?_)
  · exact ⟨by (first | with_reducible exact hM2 | with_reducible exact hHeld | with_reducible exact hHeld.call hb9 | with_reducible exact hHeld.off (wr5 _ _ _ _ _ _ _) (by simp) (by omega)), by (first | with_reducible assumption | with_reducible exact hD2 | with_reducible exact Blk.below (by with_reducible assumption) hb9 | exact Blk.set5 f0 _ _ _ _ _ | with_reducible exact Own.more ho9 (by have := Blk.lt f0; omega) | with_reducible exact Own.set5 f1 (by omega) _ _ _ _ _), trivial⟩
  (try clear f0 f1 f2 f3 f4 f5 f6 f7 f8 f9 f10 f11)
  obtain ⟨hHeld, f0, -⟩ := hT
  refine wpAnyH_take (i := 0) (oi := ⟨some 3, _, _, _, _, _⟩) (v := ?_) rfl (by kernel_rfl) (by kernel_rfl) (by kernel_rfl) (fun _ _ _ h => h) (Or.inl ⟨by kernel_rfl, ?_⟩) (by assumption) ?_
  rotate_left
  · (intro wS hSw; (try dsimp only at hSw); obtain ⟨q0, q1, q2, q3, q4, -⟩ := Blk.five hSw.b0; clear hSw; go_simp; (try with_reducible rfl))
  (try simp only [Act.put, List.setIfInBounds_toArray, List.set_cons_zero, List.set_cons_succ])
  refine wpAnyH_take (i := 1) (oi := ⟨some 4, _, _, _, _, _⟩) (v := ?_) rfl (by kernel_rfl) (by kernel_rfl) (by kernel_rfl) (fun _ _ _ h => h) (Or.inl ⟨by kernel_rfl, ?_⟩) (by assumption) ?_
  rotate_left
  · (intro wS hSw; (try dsimp only at hSw); obtain ⟨q0, q1, q2, q3, q4, -⟩ := Blk.five hSw.b0; clear hSw; go_simp; (try with_reducible rfl))
  (try simp only [Act.put, List.setIfInBounds_toArray, List.set_cons_zero, List.set_cons_succ])
  refine wpAnyH_take (i := 2) (oi := ⟨some 5, _, _, _, _, _⟩) (v := ?_) rfl (by kernel_rfl) (by kernel_rfl) (by kernel_rfl) (fun _ _ _ h => h) (Or.inl ⟨by kernel_rfl, ?_⟩) (by assumption) ?_
  rotate_left
  · (intro wS hSw; (try dsimp only at hSw); obtain ⟨q0, q1, q2, q3, q4, -⟩ := Blk.five hSw.b0; clear hSw; go_simp; (try with_reducible rfl))
  (try simp only [Act.put, List.setIfInBounds_toArray, List.set_cons_zero, List.set_cons_succ])
  refine wpAnyH_take (i := 3) (oi := ⟨some 6, _, _, _, _, _⟩) (v := ?_) rfl (by kernel_rfl) (by kernel_rfl) (by kernel_rfl) (fun _ _ _ h => h) (Or.inl ⟨by kernel_rfl, ?_⟩) (by assumption) ?_
  rotate_left
  · (intro wS hSw; (try dsimp only at hSw); obtain ⟨q0, q1, q2, q3, q4, -⟩ := Blk.five hSw.b0; clear hSw; go_simp; (try with_reducible rfl))
  (try simp only [Act.put, List.setIfInBounds_toArray, List.set_cons_zero, List.set_cons_succ])
  refine wpAnyH_take (i := 4) (oi := ⟨some 7, _, _, _, _, _⟩) (v := ?_) rfl (by kernel_rfl) (by kernel_rfl) (by kernel_rfl) (fun _ _ _ h => h) (Or.inl ⟨by kernel_rfl, ?_⟩) (by assumption) ?_
  rotate_left
  · (intro wS hSw; (try dsimp only at hSw); obtain ⟨q0, q1, q2, q3, q4, -⟩ := Blk.five hSw.b0; clear hSw; go_simp; (try with_reducible rfl))
  (try simp only [Act.put, List.setIfInBounds_toArray, List.set_cons_zero, List.set_cons_succ])
  refine wpAnyH_take (i := 5) (oi := ⟨some 8, _, _, _, _, _⟩) (v := ?_) rfl (by kernel_rfl) (by kernel_rfl) (by kernel_rfl) (fun _ _ _ h => h) (Or.inl ⟨by kernel_rfl, ?_⟩) (by assumption) ?_
  rotate_left
  · (intro wS hSw; (try dsimp only at hSw); obtain ⟨q0, q1, q2, q3, q4, -⟩ := Blk.five hSw.b0; clear hSw; go_simp; (try with_reducible rfl))
  (try simp only [Act.put, List.setIfInBounds_toArray, List.set_cons_zero, List.set_cons_succ])
  refine wpAnyH_take (i := 6) (oi := ⟨some 9, _, _, _, _, _⟩) (v := ?_) rfl (by kernel_rfl) (by kernel_rfl) (by kernel_rfl) (fun _ _ _ h => h) (Or.inl ⟨by kernel_rfl, ?_⟩) (by assumption) ?_
  rotate_left
  · (intro wS hSw; (try dsimp only at hSw); obtain ⟨q0, q1, q2, q3, q4, -⟩ := Blk.five hSw.b0; clear hSw; go_simp; (try with_reducible rfl))
  (try simp only [Act.put, List.setIfInBounds_toArray, List.set_cons_zero, List.set_cons_succ])
  refine wpAnyH_take (i := 7) (oi := ⟨some 10, _, _, _, _, _⟩) (v := ?_) rfl (by kernel_rfl) (by kernel_rfl) (by kernel_rfl) (fun _ _ _ h => h) (Or.inl ⟨by kernel_rfl, ?_⟩) (by assumption) ?_
  rotate_left
  · (intro wS hSw; (try dsimp only at hSw); obtain ⟨q0, q1, q2, q3, q4, -⟩ := Blk.five hSw.b0; clear hSw; go_simp; (try with_reducible rfl))
  (try simp only [Act.put, List.setIfInBounds_toArray, List.set_cons_zero, List.set_cons_succ])
  refine wpAnyH_take (i := 8) (oi := ⟨some 11, _, _, _, _, _⟩) (v := ?_) rfl (by kernel_rfl) (by kernel_rfl) (by kernel_rfl) (fun _ _ _ h => h) (Or.inl ⟨by kernel_rfl, ?_⟩) (by assumption) ?_
  rotate_left
  · (intro wS hSw; (try dsimp only at hSw); obtain ⟨q0, q1, q2, q3, q4, -⟩ := Blk.five hSw.b0; clear hSw; go_simp; (try with_reducible rfl))
  (try simp only [Act.put, List.setIfInBounds_toArray, List.set_cons_zero, List.set_cons_succ])
  refine wpAnyH_take (i := 9) (oi := ⟨some 12, _, _, _, _, _⟩) (v := ?_) rfl (by kernel_rfl) (by kernel_rfl) (by kernel_rfl) (fun _ _ _ h => h) (Or.inl ⟨by kernel_rfl, ?_⟩) (by assumption) ?_
  rotate_left
  · (intro wS hSw; (try dsimp only at hSw); obtain ⟨q0, q1, q2, q3, q4, -⟩ := Blk.five hSw.b0; clear hSw; go_simp; (try with_reducible rfl))
  (try simp only [Act.put, List.setIfInBounds_toArray, List.set_cons_zero, List.set_cons_succ])
  refine wpAnyH_ready (rs := [10]) (by kernel_rfl) (by simp) ?_
  refine AllReadyH.cons (o := ⟨some 13, _, _, _, _, _⟩) rfl (fun K hK => ?_) AllReadyH.nil
  (first | (refine step_buildM5 (by kernel_rfl) _ rfl (A := E) (k := ps.length) (c := cap) rfl ?_) | go_simp)
  refine hK.out _ _ ?_ (fun _ => ?_)
  · ((try dsimp only); (first | with_reducible exact hM2 | with_reducible exact hHeld | with_reducible exact hHeld.call hb9 | with_reducible exact hHeld.off (wr5 _ _ _ _ _ _ _) (by simp) (by omega)))
  clear hK K
  (try simp only [Act.put, List.setIfInBounds_toArray, List.set_cons_zero, List.set_cons_succ])
  refine gen0 (T := fun W => ((fun W => Mm w W [(w.heap.size, 46, #[.int .i64 f, .int .i64 nx, .int .i64 t, .int .i64 q, .slice E ps.length cap])] [])) W ∧ Blk W (w.heap.size + 1) 50 #[.int .i64 0, .int .i64 0, .int .i64 0, .int .i64 0, .slice none 0 0] ∧ True) ?_ (fun wq2 hT => ?_)
  · exact ⟨by (first | with_reducible exact hM2 | with_reducible exact hHeld | with_reducible exact hHeld.call hb9 | with_reducible exact hHeld.off (wr5 _ _ _ _ _ _ _) (by simp) (by omega)), by (first | with_reducible assumption | with_reducible exact hD2 | with_reducible exact Blk.below (by with_reducible assumption) hb9 | exact Blk.set5 f0 _ _ _ _ _ | with_reducible exact Own.more ho9 (by have := Blk.lt f0; omega) | with_reducible exact Own.set5 f1 (by omega) _ _ _ _ _), trivial⟩
  (try clear f0 f1 f2 f3 f4 f5 f6 f7 f8 f9 f10 f11)
  obtain ⟨hHeld, f0, -⟩ := hT
  refine wpAnyH_ready (rs := [11]) (by kernel_rfl) (by simp) ?_
  refine AllReadyH.cons (o := ⟨some 14, _, _, _, _, _⟩) rfl (fun K hK => ?_) AllReadyH.nil
  go_simp
  (refine (Doc15_any 0 0 0 0 dg0 ps _ (h.below hHeld.bel) hl).mono ?_; rintro e w9 ⟨A9, c9, m9, rfl, hm9, ho9, hb9⟩)
  go_wp2_with fail
  refine hK.out _ _ ?_ (fun _ => ?_)
  · ((try dsimp only); (first | with_reducible exact hM2 | with_reducible exact hHeld | with_reducible exact hHeld.call hb9 | with_reducible exact hHeld.off (wr5 _ _ _ _ _ _ _) (by simp) (by omega)))
  clear hK K
  (try simp only [Act.put, List.setIfInBounds_toArray, List.set_cons_zero, List.set_cons_succ])
  refine gen0 (T := fun W => ((fun W => Mm w W [(w.heap.size, 46, #[.int .i64 f, .int .i64 nx, .int .i64 t, .int .i64 q, .slice E ps.length cap])] [])) W ∧ Blk W (w.heap.size + 1) 50 #[.int .i64 0, .int .i64 0, .int .i64 0, .int .i64 0, .slice none 0 0] ∧ OwnR W (w.heap.size + 2) A9 c9 m9 ∧ True) ?_ (fun wq3 hT => ?_)
  · exact ⟨by (first | with_reducible exact hM2 | with_reducible exact hHeld | with_reducible exact hHeld.call hb9 | with_reducible exact hHeld.off (wr5 _ _ _ _ _ _ _) (by simp) (by omega)), by (first | with_reducible assumption | with_reducible exact hD2 | with_reducible exact Blk.below (by with_reducible assumption) hb9 | exact Blk.set5 f0 _ _ _ _ _ | with_reducible exact Own.more ho9 (by have := Blk.lt f0; omega) | with_reducible exact Own.set5 f1 (by omega) _ _ _ _ _), by (first | with_reducible assumption | with_reducible exact hD2 | with_reducible exact Blk.below (by with_reducible assumption) hb9 | exact Blk.set5 f0 _ _ _ _ _ | with_reducible exact Own.more ho9 (by have := Blk.lt f0; omega) | with_reducible exact Own.set5 f1 (by omega) _ _ _ _ _), trivial⟩
  (try clear f0 f1 f2 f3 f4 f5 f6 f7 f8 f9 f10 f11)
  obtain ⟨hHeld, f0, f1, -⟩ := hT
  refine wpAnyH_take (i := 12) (oi := ⟨some 15, _, _, _, _, _⟩) (v := ?_) rfl (by kernel_rfl) (by kernel_rfl) (by kernel_rfl) (fun _ _ _ h => h) (Or.inl ⟨by kernel_rfl, ?_⟩) (by assumption) ?_
  rotate_left
  · (intro wS hSw; (try dsimp only at hSw); obtain ⟨q0, q1, q2, q3, q4, -⟩ := Blk.five hSw.b0; clear hSw; go_simp; (try with_reducible rfl))
  (try simp only [Act.put, List.setIfInBounds_toArray, List.set_cons_zero, List.set_cons_succ])
  refine wpAnyH_take (i := 13) (oi := ⟨some 16, _, _, _, _, _⟩) (v := ?_) rfl (by kernel_rfl) (by kernel_rfl) (by kernel_rfl) (fun _ _ _ h => h) (Or.inl ⟨by kernel_rfl, ?_⟩) (by assumption) ?_
  rotate_left
  · (intro wS hSw; (try dsimp only at hSw); obtain ⟨q0, q1, q2, q3, q4, -⟩ := Blk.five hSw.b0; clear hSw; go_simp; (try with_reducible rfl))
  (try simp only [Act.put, List.setIfInBounds_toArray, List.set_cons_zero, List.set_cons_succ])
  refine wpAnyH_ready (rs := [14]) (by kernel_rfl) (by simp) ?_
  refine AllReadyH.cons (o := ⟨none, _, _, _, _, _⟩) rfl (fun K hK => ?_) AllReadyH.nil
  obtain ⟨s0, s1, s2, s3, s4, sf0, sf1, sf2, sf3, sf4⟩ := f0.five
  (first | (refine step_buildM5 (by kernel_rfl) _ rfl (A := E) (k := ps.length) (c := cap) rfl ?_) | go_simp)
  refine hK.out _ _ ?_ (fun _ => ?_)
  · ((try dsimp only); (first | with_reducible exact hM2 | with_reducible exact hHeld | with_reducible exact hHeld.call hb9 | with_reducible exact hHeld.off (wr5 _ _ _ _ _ _ _) (by simp) (by omega)))
  clear hK K
  (try simp only [Act.put, List.setIfInBounds_toArray, List.set_cons_zero, List.set_cons_succ])
  refine gen0 (T := fun W => ((fun W => Mm w W [(w.heap.size, 46, #[.int .i64 f, .int .i64 nx, .int .i64 t, .int .i64 q, .slice E ps.length cap])] [])) W ∧ OwnR W (w.heap.size + 2) A9 c9 m9 ∧ Blk W (w.heap.size + 1) 50 #[.int .i64 f, .int .i64 nx, .int .i64 t, .int .i64 q, .slice A9 m9.length c9] ∧ True) ?_ (fun wq4 hT => ?_)
  · exact ⟨by (first | with_reducible exact hM2 | with_reducible exact hHeld | with_reducible exact hHeld.call hb9 | with_reducible exact hHeld.off (wr5 _ _ _ _ _ _ _) (by simp) (by omega)), by (first | with_reducible assumption | with_reducible exact hD2 | with_reducible exact Blk.below (by with_reducible assumption) hb9 | exact Blk.set5 f0 _ _ _ _ _ | with_reducible exact Own.more ho9 (by have := Blk.lt f0; omega) | with_reducible exact Own.set5 f1 (by omega) _ _ _ _ _), by (first | with_reducible assumption | with_reducible exact hD2 | with_reducible exact Blk.below (by with_reducible assumption) hb9 | exact Blk.set5 f0 _ _ _ _ _ | with_reducible exact Own.more ho9 (by have := Blk.lt f0; omega) | with_reducible exact Own.set5 f1 (by omega) _ _ _ _ _), trivial⟩
  (try clear f0 f1 f2 f3 f4 f5 f6 f7 f8 f9 f10 f11)
  obtain ⟨hHeld, f0, f1, -⟩ := hT
  refine wpAnyH_done (by kernel_rfl) ?_ _
  go_wp2_with fail
  exact bodyPost_ret (res_rc1 rfl rfl (g := w.heap.size + 1) (by with_reducible assumption)) rfl ⟨A9, c9, m9, rfl, hm9, Own.more (base := w.heap.size + 2) (by with_reducible assumption) (by omega), hHeld.bel⟩
end Go.Proofs.Ytgfigkenpmmdeaa

namespace Go.Proofs.Ytgfigkenpmmdeaa
open Go.RowKit
attribute [local go_sem ↓] Go.wp_at_zero Go.wp_at_succ

set_option maxRecDepth 100000 in
set_option maxHeartbeats 1000000 in
theorem rCSame_true {E G : Option Addr} {cap cap2 : Nat} (f nx t q : Int) (ps qs : List Pt5) (w : World) (h : SlP w E cap ps) (h2 : SlP w G cap2 qs) (he : qs = ps) :
    Calls Try.prog 16 #[crv f nx t q E ps.length cap, crv f nx t q G qs.length cap2] w fun e w' => e = .returned (.bool true) ∧ Below w.heap.size w w' := by
  subst he
  have hM := ((Mm.start w).alloc #[.int .i64 f, .int .i64 nx, .int .i64 t, .int .i64 q, .slice E qs.length cap] 50).alloc #[.int .i64 f, .int .i64 nx, .int .i64 t, .int .i64 q, .slice G qs.length cap2] 50
  rw [show (w.alloc (.cells #[.int .i64 f, .int .i64 nx, .int .i64 t, .int .i64 q, .slice E qs.length cap] 50)).heap.size = w.heap.size + 1 from by simp] at hM
  have hmax := h.len_le
  unfold maxLen at hmax
  go_enter Try.func16, Try.ntmps16
  go_upto_region 1 with (fail)
  refine gen1 (T := fun W => Mm w W [(w.heap.size + 1, 50, #[.int .i64 f, .int .i64 nx, .int .i64 t, .int .i64 q, .slice G qs.length cap2]), (w.heap.size, 50, #[.int .i64 f, .int .i64 nx, .int .i64 t, .int .i64 q, .slice E qs.length cap])] []) hM (fun w1 hM => ?_)
  obtain ⟨a0, a1, a2, a3, a4, -⟩ := Blk.five hM.b1
  obtain ⟨c0, c1, c2, c3, c4, -⟩ := Blk.five hM.b0
  go_wp2_with fail
  go_loopw [5] (fun x wr => ∃ k : Nat, k ≤ qs.length ∧ x = .int .i64 (k : Nat) ∧ Mm w wr [(w.heap.size + 1, 50, #[.int .i64 f, .int .i64 nx, .int .i64 t, .int .i64 q, .slice G qs.length cap2]), (w.heap.size, 50, #[.int .i64 f, .int .i64 nx, .int .i64 t, .int .i64 q, .slice E qs.length cap])] []) (fun x wr => qs.length - (intOf x).toNat)
  case atStart => exact ⟨0, Nat.zero_le _, rfl, hM⟩
  case round =>
    obtain ⟨k, hk, rfl, hMr⟩ := hrel
    clear hM a0 a1 a2 a3 a4 c0 c1 c2 c3 c4
    obtain ⟨a0, a1, a2, a3, a4, -⟩ := Blk.five hMr.b1
    obtain ⟨c0, c1, c2, c3, c4, -⟩ := Blk.five hMr.b0
    rcases Nat.lt_or_ge k qs.length with hlt | hge
    · have hkI : (k : Int) < (qs.length : Int) := by omega
      have hk0 : 0 ≤ (k : Int) := by omega
      obtain ⟨ad, b, o, rfl, had, hcc⟩ := (h.below hMr.bel).at hlt
      obtain ⟨ad2, b2, o2, rfl, had2, hdd⟩ := (h2.below hMr.bel).at hlt
      generalize qs[k] = p at *
      have hnn := neq_ptR p p
      rw [show (!decide (p = p)) = false from by simp] at hnn
      have HC1 := Lib.hid (fun W (hW : Below wr.heap.size wr W) => cells_below hcc hW)
      have HC2 := Lib.hid (fun W (hW : Below wr.heap.size wr W) => cells_below hdd hW)
      clear hcc hdd
      go_upto_region 6 with (fail)
      have hst : Mm w wr.drew [(w.heap.size + 1, 50, #[.int .i64 f, .int .i64 nx, .int .i64 t, .int .i64 q, .slice (some ad2) qs.length cap2]), (w.heap.size, 50, #[.int .i64 f, .int .i64 nx, .int .i64 t, .int .i64 q, .slice (some ad) qs.length cap])] [] ∧ Below wr.heap.size wr wr.drew := ⟨hMr.drew, (Below.refl _ _).drew⟩
      clear hMr a0 a1 a2 a3 a4 c0 c1 c2 c3 c4
      go_cut [58] (fun s58 wz => s58 = .bool false ∧ Mm w wz [(w.heap.size + 1, 50, #[.int .i64 f, .int .i64 nx, .int .i64 t, .int .i64 q, .slice (some ad2) qs.length cap2]), (w.heap.size, 50, #[.int .i64 f, .int .i64 nx, .int .i64 t, .int .i64 q, .slice (some ad) qs.length cap])] [])
      case first =>
        refine wp_region_held_drew (S := (fun W => Mm w W [(w.heap.size + 1, 50, #[.int .i64 f, .int .i64 nx, .int .i64 t, .int .i64 q, .slice (some ad2) qs.length cap2]), (w.heap.size, 50, #[.int .i64 f, .int .i64 nx, .int .i64 t, .int .i64 q, .slice (some ad) qs.length cap])] [] ∧ Below wr.heap.size wr W)) (by kernel_rfl) ?_ (fun hHeld => ?_)
        · first | exact hst | exact hHeld
        refine wpAnyH_take (i := 0) (oi := ⟨some 48, _, _, _, _, _⟩) (v := ?_) rfl (by kernel_rfl) (by kernel_rfl) (by kernel_rfl) (fun _ _ _ h => h) (Or.inl ⟨by kernel_rfl, ?_⟩) (by assumption) ?_
        rotate_left
        · (intro wS hSw; (try dsimp only at hSw); obtain ⟨a0, a1, a2, a3, a4, -⟩ := Blk.five hSw.1.b1; obtain ⟨c0, c1, c2, c3, c4, -⟩ := Blk.five hSw.1.b0; clear hSw; go_simp; (try with_reducible rfl))
        (try simp only [Act.put, List.setIfInBounds_toArray, List.set_cons_zero, List.set_cons_succ])
        refine wpAnyH_take (i := 1) (oi := ⟨some 49, _, _, _, _, _⟩) (v := ?_) rfl (by kernel_rfl) (by kernel_rfl) (by kernel_rfl) (fun _ _ _ h => h) (Or.inl ⟨by kernel_rfl, ?_⟩) (by assumption) ?_
        rotate_left
        · (intro wS hSw; (try dsimp only at hSw); obtain ⟨a0, a1, a2, a3, a4, -⟩ := Blk.five hSw.1.b1; obtain ⟨c0, c1, c2, c3, c4, -⟩ := Blk.five hSw.1.b0; clear hSw; go_simp; (try with_reducible rfl))
        (try simp only [Act.put, List.setIfInBounds_toArray, List.set_cons_zero, List.set_cons_succ])
        refine wpAnyH_take (i := 2) (oi := ⟨some 50, _, _, _, _, _⟩) (v := ?_) rfl (by kernel_rfl) (by kernel_rfl) (by kernel_rfl) (fun _ _ _ h => h) (Or.inl ⟨by kernel_rfl, ?_⟩) (by assumption) ?_
        rotate_left
        · (intro wS hSw; (try dsimp only at hSw); obtain ⟨a0, a1, a2, a3, a4, -⟩ := Blk.five hSw.1.b1; obtain ⟨c0, c1, c2, c3, c4, -⟩ := Blk.five hSw.1.b0; clear hSw; go_simp; (try with_reducible rfl))
        (try simp only [Act.put, List.setIfInBounds_toArray, List.set_cons_zero, List.set_cons_succ])
        refine wpAnyH_take (i := 3) (oi := ⟨some 51, _, _, _, _, _⟩) (v := ?_) rfl (by kernel_rfl) (by kernel_rfl) (by kernel_rfl) (fun _ _ _ h => h) (Or.inl ⟨by kernel_rfl, ?_⟩) (by assumption) ?_
        rotate_left
        · (intro wS hSw; (try dsimp only at hSw); obtain ⟨a0, a1, a2, a3, a4, -⟩ := Blk.five hSw.1.b1; obtain ⟨c0, c1, c2, c3, c4, -⟩ := Blk.five hSw.1.b0; clear hSw; go_simp; (try with_reducible rfl))
        (try simp only [Act.put, List.setIfInBounds_toArray, List.set_cons_zero, List.set_cons_succ])
        refine wpAnyH_take (i := 5) (oi := ⟨some 53, _, _, _, _, _⟩) (v := ?_) rfl (by kernel_rfl) (by kernel_rfl) (by kernel_rfl) (fun _ _ _ h => h) (Or.inl ⟨by kernel_rfl, ?_⟩) (by assumption) ?_
        rotate_left
        · (intro wS hSw; (try dsimp only at hSw); obtain ⟨a0, a1, a2, a3, a4, -⟩ := Blk.five hSw.1.b1; obtain ⟨c0, c1, c2, c3, c4, -⟩ := Blk.five hSw.1.b0; clear hSw; go_simp; (try with_reducible rfl))
        (try simp only [Act.put, List.setIfInBounds_toArray, List.set_cons_zero, List.set_cons_succ])
        refine wpAnyH_take (i := 6) (oi := ⟨some 54, _, _, _, _, _⟩) (v := ?_) rfl (by kernel_rfl) (by kernel_rfl) (by kernel_rfl) (fun _ _ _ h => h) (Or.inl ⟨by kernel_rfl, ?_⟩) (by assumption) ?_
        rotate_left
        · (intro wS hSw; (try dsimp only at hSw); obtain ⟨a0, a1, a2, a3, a4, -⟩ := Blk.five hSw.1.b1; obtain ⟨c0, c1, c2, c3, c4, -⟩ := Blk.five hSw.1.b0; clear hSw; go_simp; (try with_reducible rfl))
        (try simp only [Act.put, List.setIfInBounds_toArray, List.set_cons_zero, List.set_cons_succ])
        refine wpAnyH_take (i := 7) (oi := ⟨some 55, _, _, _, _, _⟩) (v := ?_) rfl (by kernel_rfl) (by kernel_rfl) (by kernel_rfl) (fun _ _ _ h => h) (Or.inl ⟨by kernel_rfl, ?_⟩) (by assumption) ?_
        rotate_left
        · (intro wS hSw; (try dsimp only at hSw); obtain ⟨a0, a1, a2, a3, a4, -⟩ := Blk.five hSw.1.b1; obtain ⟨c0, c1, c2, c3, c4, -⟩ := Blk.five hSw.1.b0; clear hSw; go_simp; (try with_reducible rfl))
        (try simp only [Act.put, List.setIfInBounds_toArray, List.set_cons_zero, List.set_cons_succ])
        refine wpAnyH_take (i := 8) (oi := ⟨some 56, _, _, _, _, _⟩) (v := ?_) rfl (by kernel_rfl) (by kernel_rfl) (by kernel_rfl) (fun _ _ _ h => h) (Or.inl ⟨by kernel_rfl, ?_⟩) (by assumption) ?_
        rotate_left
        · (intro wS hSw; (try dsimp only at hSw); obtain ⟨a0, a1, a2, a3, a4, -⟩ := Blk.five hSw.1.b1; obtain ⟨c0, c1, c2, c3, c4, -⟩ := Blk.five hSw.1.b0; clear hSw; go_simp; (try with_reducible rfl))
        (try simp only [Act.put, List.setIfInBounds_toArray, List.set_cons_zero, List.set_cons_succ])
        refine wpAnyH_ready (rs := [4, 9]) (by kernel_rfl) (by simp) ?_
        refine AllReadyH.cons (o := ⟨some 52, _, _, _, _, _⟩) rfl (fun K hK => ?_) ?_
        · (first | (refine step_loadR (by kernel_rfl) _ rfl ⟨b, o, none⟩ p rfl (HC1.out _ hHeld.2) ?_) | (refine step_loadR (by kernel_rfl) _ rfl ⟨b2, o2, none⟩ p rfl (HC2.out _ hHeld.2) ?_))
          refine hK.out _ _ ?_ (fun hHeld => ?_)
          · ((try dsimp only); (first | exact hst | exact hHeld))
          clear hK K
          (try simp only [Act.put, List.setIfInBounds_toArray, List.set_cons_zero, List.set_cons_succ])
          refine wpAnyH_ready (rs := [9]) (by kernel_rfl) (by simp) ?_
          refine AllReadyH.cons (o := ⟨some 57, _, _, _, _, _⟩) rfl (fun K hK => ?_) AllReadyH.nil
          (first | (refine step_loadR (by kernel_rfl) _ rfl ⟨b, o, none⟩ p rfl (HC1.out _ hHeld.2) ?_) | (refine step_loadR (by kernel_rfl) _ rfl ⟨b2, o2, none⟩ p rfl (HC2.out _ hHeld.2) ?_))
          refine hK.out _ _ ?_ (fun hHeld => ?_)
          · ((try dsimp only); (first | exact hst | exact hHeld))
          clear hK K
          (try simp only [Act.put, List.setIfInBounds_toArray, List.set_cons_zero, List.set_cons_succ])
          refine wpAnyH_take (i := 10) (oi := ⟨some 58, _, _, _, _, _⟩) (v := ?_) rfl (by kernel_rfl) (by kernel_rfl) (by kernel_rfl) (fun _ _ _ h => h) (Or.inl ⟨by kernel_rfl, ?_⟩) (by assumption) ?_
          rotate_left
          · (intro wS hSw; (try dsimp only at hSw); obtain ⟨a0, a1, a2, a3, a4, -⟩ := Blk.five hSw.1.b1; obtain ⟨c0, c1, c2, c3, c4, -⟩ := Blk.five hSw.1.b0; clear hSw; go_simp; (try with_reducible rfl))
          (try simp only [Act.put, List.setIfInBounds_toArray, List.set_cons_zero, List.set_cons_succ])
          refine wpAnyH_done (by kernel_rfl) ?_ _
          (go_wp2_with fail; go_meet; exact ⟨rfl, hHeld.1⟩)
        refine AllReadyH.cons (o := ⟨some 57, _, _, _, _, _⟩) rfl (fun K hK => ?_) ?_
        · (first | (refine step_loadR (by kernel_rfl) _ rfl ⟨b, o, none⟩ p rfl (HC1.out _ hHeld.2) ?_) | (refine step_loadR (by kernel_rfl) _ rfl ⟨b2, o2, none⟩ p rfl (HC2.out _ hHeld.2) ?_))
          refine hK.out _ _ ?_ (fun hHeld => ?_)
          · ((try dsimp only); (first | exact hst | exact hHeld))
          clear hK K
          (try simp only [Act.put, List.setIfInBounds_toArray, List.set_cons_zero, List.set_cons_succ])
          refine wpAnyH_ready (rs := [4]) (by kernel_rfl) (by simp) ?_
          refine AllReadyH.cons (o := ⟨some 52, _, _, _, _, _⟩) rfl (fun K hK => ?_) AllReadyH.nil
          (first | (refine step_loadR (by kernel_rfl) _ rfl ⟨b, o, none⟩ p rfl (HC1.out _ hHeld.2) ?_) | (refine step_loadR (by kernel_rfl) _ rfl ⟨b2, o2, none⟩ p rfl (HC2.out _ hHeld.2) ?_))
          refine hK.out _ _ ?_ (fun hHeld => ?_)
          · ((try dsimp only); (first | exact hst | exact hHeld))
          clear hK K
          (try simp only [Act.put, List.setIfInBounds_toArray, List.set_cons_zero, List.set_cons_succ])
          refine wpAnyH_take (i := 10) (oi := ⟨some 58, _, _, _, _, _⟩) (v := ?_) rfl (by kernel_rfl) (by kernel_rfl) (by kernel_rfl) (fun _ _ _ h => h) (Or.inl ⟨by kernel_rfl, ?_⟩) (by assumption) ?_
          rotate_left
          · (intro wS hSw; (try dsimp only at hSw); obtain ⟨a0, a1, a2, a3, a4, -⟩ := Blk.five hSw.1.b1; obtain ⟨c0, c1, c2, c3, c4, -⟩ := Blk.five hSw.1.b0; clear hSw; go_simp; (try with_reducible rfl))
          (try simp only [Act.put, List.setIfInBounds_toArray, List.set_cons_zero, List.set_cons_succ])
          refine wpAnyH_done (by kernel_rfl) ?_ _
          (go_wp2_with fail; go_meet; exact ⟨rfl, hHeld.1⟩)
        exact AllReadyH.nil
      case rest =>
        obtain ⟨rfl, hM5⟩ := hcut
        go_wp2_with fail
        go_roundw
        case rel => exact ⟨k + 1, hlt, by go_num, hM5⟩
        case measure => simp [intOf]; omega
    · go_wp2_with fail
      go_ret
      exact ⟨rfl, hMr.bel⟩
end Go.Proofs.Ytgfigkenpmmdeaa
