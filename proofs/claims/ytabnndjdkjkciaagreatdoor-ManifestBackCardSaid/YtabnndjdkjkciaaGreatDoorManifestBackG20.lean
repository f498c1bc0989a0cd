/- WHAT IT HOLDS: the document's digest: a block's 64 words, walked. -/
import Derived.Test.YtabnndjdkjkciaaGreatDoorManifestBackG19
namespace Go.Proofs.YtabnndjdkjkciaaGreatDoor
open Go.RowKit
attribute [local go_sem ↓] Go.wp_at_zero Go.wp_at_succ

noncomputable def sumBlk6 : Code := ((Tryz.f66.body.bind (pickB 6)).getD .skip)
set_option maxRecDepth 1000000 in
set_option maxHeartbeats 4000000 in
theorem sumBlk6_any {c0_ c1_ c2_ c3_ c4_ c5_ c6_ c8_ c9_ c10_ c14_ c15_ c16_ c17_ c18_ c19_ c20_ c21_ c22_ c23_ c24_ c25_ c26_ c27_ c28_ c29_ c30_ c31_ c32_ c33_ c34_ c35_ c36_ c37_ c38_ c39_ c40_ c41_ c42_ c43_ c44_ c45_ c46_ c47_ c48_ c49_ c50_ c51_ c52_ c53_ c54_ c55_ c56_ c57_ c58_ c59_ c60_ c61_ c62_ c63_ c64_ c65_ c66_ c67_ c68_ c69_ c70_ c71_ c72_ c73_ c74_ c75_ c76_ c77_ c78_ c79_ c80_ c81_ c82_ c83_ c84_ c85_ c86_ c87_ c88_ c89_ c90_ c91_ c92_ c93_ c94_ c95_ c96_ c97_ c98_ c99_ c100_ c101_ c102_ c103_ c104_ c105_ c106_ c107_ c108_ c109_ c110_ c111_ c112_ c113_ c114_ c115_ c116_ c117_ c118_ c119_ c120_ c121_ c122_ c123_ c124_ c125_ c126_ c127_ c128_ c129_ c130_ c131_ c132_ c133_ c134_ c135_ c136_ c137_ c138_ c139_ c140_ c141_ c142_ c143_ c144_ c145_ c146_ c147_ c148_ c149_ c150_ c151_ c152_ c153_ c154_ c155_ c156_ c157_ c158_ c159_ c160_ c161_ c162_ c163_ c164_ c165_ c166_ c167_ c168_ c169_ c170_ c171_ c172_ c173_ c174_ c175_ c176_ c177_ c178_ c179_ c180_ c181_ c182_ c183_ c184_ c185_ c186_ c187_ c188_ c189_ c190_ c191_ c192_ c193_ c194_ c195_ c196_ c197_ c198_ c199_ c200_ c201_ c202_ c203_ c204_ c205_ c206_ c207_ c208_ c209_ c210_ c211_ c212_ c213_ c214_ c215_ c216_ c217_ c218_ c219_ c220_ c221_ c222_ c223_ c224_ c225_ c226_ c227_ c228_ c229_ c230_ c231_ c232_ c233_ c234_ c235_ c236_ c237_ c238_ c239_ c240_ c241_ c242_ c243_ c244_ c245_ c246_ c247_ c248_ c249_ c250_ c251_ c252_ c253_ c254_ c255_ c256_ c257_ c258_ c259_ c260_ c261_ c262_ c263_ c264_ c265_ c266_ c267_ c268_ c269_ c270_ c271_ c272_ c273_ c274_ c275_ c276_ c277_ c278_ c279_ c280_ c281_ c282_ c283_ c284_ c285_ c286_ c287_ c288_ c289_ c290_ c291_ c292_ c293_ c294_ c295_ c296_ c297_ c298_ c299_ c300_ c301_ c302_ c303_ : Value} {E : Option Addr} {d Q q B : Nat} (m bk : List UInt8) (w : World) (hE : SlB w E d m) (hEB : ∀ ad, E = some ad → ad.block < B) (hm : m.length = 64 * Q) (hQ : Q ≤ 100000) (hqQ : q < Q) (hbg : ∀ j, j < 64 → bk.getD j 0 = m.getD (64 * q + j) 0)
    (hL : OwnW w B (some ⟨B, 0, none⟩) 0 []) (hBl : B ≤ w.heap.size) (Q0 : Exit → Act → World → Prop) (HQ : Hid (∀ c a d v w, Q0 (.panic c) (a.put (some d) v) w → Q0 (.panic c) a w))
    (HX : Hid (∀ {u14_ u15_ u16_ u70_ u71_ u72_ u73_ u74_ u75_ u76_ u77_ u78_ u79_ u80_ u81_ u82_ u83_ u84_ u85_ u86_ u87_ u88_ u89_ u90_ u91_ u92_ u93_ u94_ u95_ u96_ u97_ u98_ u99_ u100_ u101_ u102_ u103_ u104_ u105_ u106_ u107_ u108_ u109_ u110_ u111_ u112_ u113_ u114_ u115_ u116_ u117_ u118_ u119_ u120_ u121_ u122_ u123_ u124_ u125_ u126_ u127_ u128_ u129_ u130_ u131_ u132_ u133_ u134_ u135_ u136_ u137_ u138_ u139_ u140_ u141_ u142_ u143_ u144_ u145_ u146_ u147_ u148_ u149_ u150_ u151_ u152_ u153_ : Value} (gw wc : Nat) (ws : List W32) (W : World), Hid (ws = sch bk 64) → SlW W (some ⟨gw, 0, none⟩) wc ws → Below B w W → Q0 .normal ⟨#[c0_, c1_, c2_, c3_, c4_, c5_, c6_, .slice E (64 * Q) d, c8_, c9_, c10_, .int .i64 (64 * (q : Int)), .slice (some ⟨gw, 0, none⟩) 64 wc, .int .i64 64, u14_, u15_, u16_, c17_, c18_, c19_, c20_, c21_, c22_, c23_, c24_, c25_, c26_, c27_, c28_, c29_, c30_, c31_, c32_, c33_, c34_, c35_, c36_, c37_, c38_, c39_, c40_, c41_, c42_, c43_, c44_, c45_, c46_, c47_, c48_, c49_, c50_, c51_, c52_, c53_, c54_, c55_, c56_, c57_, c58_, c59_, c60_, c61_, c62_, c63_, c64_, c65_, c66_, c67_, c68_, c69_, u70_, u71_, u72_, u73_, u74_, u75_, u76_, u77_, u78_, u79_, u80_, u81_, u82_, u83_, u84_, u85_, u86_, u87_, u88_, u89_, u90_, u91_, u92_, u93_, u94_, u95_, u96_, u97_, u98_, u99_, u100_, u101_, u102_, u103_, u104_, u105_, u106_, u107_, u108_, u109_, u110_, u111_, u112_, u113_, u114_, u115_, u116_, u117_, u118_, u119_, u120_, u121_, u122_, u123_, u124_, u125_, u126_, u127_, u128_, u129_, u130_, u131_, u132_, u133_, u134_, u135_, u136_, u137_, u138_, u139_, u140_, u141_, u142_, u143_, u144_, u145_, u146_, u147_, u148_, u149_, u150_, u151_, u152_, u153_, c154_, c155_, c156_, c157_, c158_, c159_, c160_, c161_, c162_, c163_, c164_, c165_, c166_, c167_, c168_, c169_, c170_, c171_, c172_, c173_, c174_, c175_, c176_, c177_, c178_, c179_, c180_, c181_, c182_, c183_, c184_, c185_, c186_, c187_, c188_, c189_, c190_, c191_, c192_, c193_, c194_, c195_, c196_, c197_, c198_, c199_, c200_, c201_, c202_, c203_, c204_, c205_, c206_, c207_, c208_, c209_, c210_, c211_, c212_, c213_, c214_, c215_, c216_, c217_, c218_, c219_, c220_, c221_, c222_, c223_, c224_, c225_, c226_, c227_, c228_, c229_, c230_, c231_, c232_, c233_, c234_, c235_, c236_, c237_, c238_, c239_, c240_, c241_, c242_, c243_, c244_, c245_, c246_, c247_, c248_, c249_, c250_, c251_, c252_, c253_, c254_, c255_, c256_, c257_, c258_, c259_, c260_, c261_, c262_, c263_, c264_, c265_, c266_, c267_, c268_, c269_, c270_, c271_, c272_, c273_, c274_, c275_, c276_, c277_, c278_, c279_, c280_, c281_, c282_, c283_, c284_, c285_, c286_, c287_, c288_, c289_, c290_, c291_, c292_, c293_, c294_, c295_, c296_, c297_, c298_, c299_, c300_, c301_, c302_, c303_], []⟩ W)) :
    Code.wp Tryz.prog sumBlk6 Q0 ⟨#[c0_, c1_, c2_, c3_, c4_, c5_, c6_, .slice E (64 * Q) d, c8_, c9_, c10_, .int .i64 (64 * (q : Int)), .slice (some ⟨B, 0, none⟩) 0 0, .int .i64 0, c14_, c15_, c16_, c17_, c18_, c19_, c20_, c21_, c22_, c23_, c24_, c25_, c26_, c27_, c28_, c29_, c30_, c31_, c32_, c33_, c34_, c35_, c36_, c37_, c38_, c39_, c40_, c41_, c42_, c43_, c44_, c45_, c46_, c47_, c48_, c49_, c50_, c51_, c52_, c53_, c54_, c55_, c56_, c57_, c58_, c59_, c60_, c61_, c62_, c63_, c64_, c65_, c66_, c67_, c68_, c69_, c70_, c71_, c72_, c73_, c74_, c75_, c76_, c77_, c78_, c79_, c80_, c81_, c82_, c83_, c84_, c85_, c86_, c87_, c88_, c89_, c90_, c91_, c92_, c93_, c94_, c95_, c96_, c97_, c98_, c99_, c100_, c101_, c102_, c103_, c104_, c105_, c106_, c107_, c108_, c109_, c110_, c111_, c112_, c113_, c114_, c115_, c116_, c117_, c118_, c119_, c120_, c121_, c122_, c123_, c124_, c125_, c126_, c127_, c128_, c129_, c130_, c131_, c132_, c133_, c134_, c135_, c136_, c137_, c138_, c139_, c140_, c141_, c142_, c143_, c144_, c145_, c146_, c147_, c148_, c149_, c150_, c151_, c152_, c153_, c154_, c155_, c156_, c157_, c158_, c159_, c160_, c161_, c162_, c163_, c164_, c165_, c166_, c167_, c168_, c169_, c170_, c171_, c172_, c173_, c174_, c175_, c176_, c177_, c178_, c179_, c180_, c181_, c182_, c183_, c184_, c185_, c186_, c187_, c188_, c189_, c190_, c191_, c192_, c193_, c194_, c195_, c196_, c197_, c198_, c199_, c200_, c201_, c202_, c203_, c204_, c205_, c206_, c207_, c208_, c209_, c210_, c211_, c212_, c213_, c214_, c215_, c216_, c217_, c218_, c219_, c220_, c221_, c222_, c223_, c224_, c225_, c226_, c227_, c228_, c229_, c230_, c231_, c232_, c233_, c234_, c235_, c236_, c237_, c238_, c239_, c240_, c241_, c242_, c243_, c244_, c245_, c246_, c247_, c248_, c249_, c250_, c251_, c252_, c253_, c254_, c255_, c256_, c257_, c258_, c259_, c260_, c261_, c262_, c263_, c264_, c265_, c266_, c267_, c268_, c269_, c270_, c271_, c272_, c273_, c274_, c275_, c276_, c277_, c278_, c279_, c280_, c281_, c282_, c283_, c284_, c285_, c286_, c287_, c288_, c289_, c290_, c291_, c292_, c293_, c294_, c295_, c296_, c297_, c298_, c299_, c300_, c301_, c302_, c303_], []⟩ w := by
  have HM9 := Lib.hid hm
  have HBG := Lib.hid hbg
  have HD := Lib.hid hE
  have hLw := hL
  have hbw := Below.refl B w
  clear hm hbg hE hL
  rename World => wg2
  conv => arg 2; whnf
  go_wp2_with fail
  go_loopw [13, 12] (fun x y wr => ∃ (n : Nat) (Wa : Option Addr) (wc : Nat) (ws : List W32), n ≤ 64 ∧ x = .int .i64 n ∧ y = .slice Wa ws.length wc ∧ ws.length = n ∧ Hid (ws = sch bk n) ∧ OwnW wr B Wa wc ws ∧ Below B wg2 wr) (fun x y wr => 64 - (intOf x).toNat)
  case atStart => exact ⟨0, _, _, [], by omega, rfl, rfl, rfl, Lib.hid rfl, hLw, hbw⟩
  case round =>
    clear hLw hbw
    obtain ⟨n, Wa, wc, ws, hn, rfl, rfl, hwl, hws, how, hbw⟩ := hrel
    have HWL := Lib.hid hwl
    by_cases hn64 : n < 64
    · have hnI : (n : Int) < 64 := by omega
      by_cases h16 : n < 16
      · have h16I : (n : Int) < 16 := by omega
        obtain ⟨k, hk⟩ : ∃ k, 64 * q + 4 * n = k := ⟨_, rfl⟩
        have hw4 : IntKind.i64.wrap (4 * (n : Int)) = 4 * (n : Int) := by rw [IntKind.wrap_i64]; omega
        have hwk : IntKind.i64.wrap (64 * (q : Int) + 4 * (n : Int)) = (k : Int) := by rw [IntKind.wrap_i64]; omega
        have hkQ : k + 3 < m.length := by have := HM9.out; omega
        obtain ⟨b9, o9, e9, -, d0, d1, d2, d3⟩ := SlB.at4 (k := k) (SlB.apart HD.out (fun _ => hEB) (Nat.le_refl _) hbw) hkQ
        have hb9 : b9 < B := hEB _ e9
        have hsn : Hid (sch bk (n + 1) = sch bk n ++ [be4 (m.getD k 0) (m.getD (k + 1) 0) (m.getD (k + 2) 0) (m.getD (k + 3) 0)]) := (show _ = _ from by
          rw [sch, if_pos h16, HBG.out _ (by omega), HBG.out _ (by omega), HBG.out _ (by omega), HBG.out _ (by omega), ← Nat.add_assoc, ← Nat.add_assoc, ← Nat.add_assoc, hk])
        have hq := be4_sum (m.getD k 0) (m.getD (k + 1) 0) (m.getD (k + 2) 0) (m.getD (k + 3) 0)
        generalize m.getD k 0 = x0 at *
        generalize m.getD (k + 1) 0 = x1 at *
        generalize m.getD (k + 2) 0 = x2 at *
        generalize m.getD (k + 3) 0 = x3 at *
        have hk3 : k + 3 < 64 * Q := by have := HM9.out; omega
        have hj0 : (k : Int) < 64 * (Q : Int) := by omega
        have hj1 : (k : Int) + 1 < 64 * (Q : Int) := by omega
        have hj2 : (k : Int) + 2 < 64 * (Q : Int) := by omega
        have hj3 : (k : Int) + 3 < 64 * (Q : Int) := by omega
        have hp1 : 0 ≤ (k : Int) + 1 := by omega
        have hp2 : 0 ≤ (k : Int) + 2 := by omega
        have hp3 : 0 ≤ (k : Int) + 3 := by omega
        have ht1 : ((k : Int) + 1).toNat = k + 1 := by omega
        have ht2 : ((k : Int) + 2).toNat = k + 2 := by omega
        have ht3 : ((k : Int) + 3).toNat = k + 3 := by omega
        have hv1 : IntKind.i64.wrap ((k : Int) + 1) = (k : Int) + 1 := by rw [IntKind.wrap_i64]; omega
        have hv2 : IntKind.i64.wrap ((k : Int) + 2) = (k : Int) + 2 := by rw [IntKind.wrap_i64]; omega
        have hv3 : IntKind.i64.wrap ((k : Int) + 3) = (k : Int) + 3 := by rw [IntKind.wrap_i64]; omega
        have hBw : B ≤ wr.drew.heap.size := Nat.le_trans hBl hbw.size
        have hlw : ws.length ≤ 1000000 := by have := HWL.out; omega
        have hod := World.ownsRow.drew how
        have dd0 : wr.drew.cell? ⟨b9, o9 + k, none⟩ = some (bv x0) := d0
        have dd1 : wr.drew.cell? ⟨b9, o9 + (k + 1), none⟩ = some (bv x1) := d1
        have dd2 : wr.drew.cell? ⟨b9, o9 + (k + 2), none⟩ = some (bv x2) := d2
        have dd3 : wr.drew.cell? ⟨b9, o9 + (k + 3), none⟩ = some (bv x3) := d3
        have HBW := Lib.hid hbw
        rw [e9]
        clear hwl d0 d1 d2 d3 hk hkQ how hbw hBl
        go_upto_region 20 with (fail)
        refine wp_region_seq (S := (fun W => Below B wr.drew W)) [(0, true), (1, true), (2, true), (3, true), (4, true), (5, true), (6, true), (7, true), (8, true), (9, true), (10, true), (11, true), (12, true), (13, true), (14, true), (15, true), (16, true), (17, true), (18, true), (19, true), (20, true), (21, true), (22, true), (23, true), (24, true), (25, true), (26, true), (27, true), (28, true), (29, true), (30, false), (31, false), (32, true)] (by kernel_rfl) (by kernel_rfl) (fun c a d v w h => HQ.out c a d v w h) ?_ (fun hHeld => ?_)
        · exact Below.refl _ _
        refine gen0 (T := fun W => ((fun W => Below B wr.drew W)) W ∧ OwnW W B Wa wc ws ∧ True) ?_ (fun wq1 hT => ?_)
        · exact ⟨by (first | with_reducible exact Below.refl _ _ | exact hHeld.trans hb99 | exact hHeld.alloc (Nat.le_trans hBw hHeld.size) _), by (first | with_reducible assumption | exact hod | exact ho9 | exact World.ownsRow.alloc f0 _ | exact Sl.one), trivial⟩
        (try clear f0 f1 f2 f3 f4 f5 f6 f7 f8 f9 f10 f11)
        obtain ⟨hHeld, f0, -⟩ := hT
        refine seq_take (oi := ⟨some 80, _, _, _, _, _⟩) (v := ?_) rfl (Or.inl ⟨by kernel_rfl, ?_⟩) (by assumption) ?_
        rotate_left
        · (intro wS hSw; (try dsimp only at hSw); have c0 := (hSw.cell (p := ⟨b9, o9 + k, none⟩) hb9).trans dd0; have c1 := (hSw.cell (p := ⟨b9, o9 + (k + 1), none⟩) hb9).trans dd1; have c2 := (hSw.cell (p := ⟨b9, o9 + (k + 2), none⟩) hb9).trans dd2; have c3 := (hSw.cell (p := ⟨b9, o9 + (k + 3), none⟩) hb9).trans dd3; clear hSw; refine execV (fun rho hk1 hk2 hk3 hk => ?_); have e12_ := (hk 12).trans (evalP (fg8 (fg1 (fg1 (fg1 (fg1 fg0)))))); clear hk; go_simp; (try with_reducible rfl))
        (first | (with_reducible refine wpSeq_put ?_; go_big_move) | (try simp only [Act.put, List.setIfInBounds_toArray, List.set_cons_zero, List.set_cons_succ]))
        refine seq_take (oi := ⟨some 81, _, _, _, _, _⟩) (v := ?_) rfl (Or.inl ⟨by kernel_rfl, ?_⟩) (by assumption) ?_
        rotate_left
        · (intro wS hSw; (try dsimp only at hSw); have c0 := (hSw.cell (p := ⟨b9, o9 + k, none⟩) hb9).trans dd0; have c1 := (hSw.cell (p := ⟨b9, o9 + (k + 1), none⟩) hb9).trans dd1; have c2 := (hSw.cell (p := ⟨b9, o9 + (k + 2), none⟩) hb9).trans dd2; have c3 := (hSw.cell (p := ⟨b9, o9 + (k + 3), none⟩) hb9).trans dd3; clear hSw; refine execV (fun rho hk1 hk2 hk3 hk => ?_); have e7_ := (hk 7).trans (evalP (fg1 (fg1 (fg1 (fg1 (fg1 (fg1 (fg1 fg0)))))))); clear hk; go_simp; (try with_reducible rfl))
        (first | (with_reducible refine wpSeq_put ?_; go_big_move) | (try simp only [Act.put, List.setIfInBounds_toArray, List.set_cons_zero, List.set_cons_succ]))
        refine seq_take (oi := ⟨some 82, _, _, _, _, _⟩) (v := ?_) rfl (Or.inl ⟨by kernel_rfl, ?_⟩) (by assumption) ?_
        rotate_left
        · (intro wS hSw; (try dsimp only at hSw); have c0 := (hSw.cell (p := ⟨b9, o9 + k, none⟩) hb9).trans dd0; have c1 := (hSw.cell (p := ⟨b9, o9 + (k + 1), none⟩) hb9).trans dd1; have c2 := (hSw.cell (p := ⟨b9, o9 + (k + 2), none⟩) hb9).trans dd2; have c3 := (hSw.cell (p := ⟨b9, o9 + (k + 3), none⟩) hb9).trans dd3; clear hSw; refine execV (fun rho hk1 hk2 hk3 hk => ?_); have e14_ := (hk 14).trans (evalP (fg8 (fg1 (fg1 (fg1 (fg1 (fg1 (fg1 fg0)))))))); clear hk; go_simp; (try with_reducible rfl))
        (first | (with_reducible refine wpSeq_put ?_; go_big_move) | (try simp only [Act.put, List.setIfInBounds_toArray, List.set_cons_zero, List.set_cons_succ]))
        refine seq_take (oi := ⟨some 83, _, _, _, _, _⟩) (v := ?_) rfl (Or.inl ⟨by kernel_rfl, ?_⟩) (by assumption) ?_
        rotate_left
        · (intro wS hSw; (try dsimp only at hSw); have c0 := (hSw.cell (p := ⟨b9, o9 + k, none⟩) hb9).trans dd0; have c1 := (hSw.cell (p := ⟨b9, o9 + (k + 1), none⟩) hb9).trans dd1; have c2 := (hSw.cell (p := ⟨b9, o9 + (k + 2), none⟩) hb9).trans dd2; have c3 := (hSw.cell (p := ⟨b9, o9 + (k + 3), none⟩) hb9).trans dd3; clear hSw; refine execV (fun rho hk1 hk2 hk3 hk => ?_); have e81_ := (hk 81).trans (evalP (fg64 (fg8 (fg8 (fg1 fg0))))); have e82_ := (hk 82).trans (evalP (fg64 (fg8 (fg8 (fg1 (fg1 fg0)))))); clear hk; go_simp; (try with_reducible rfl))
        (first | (with_reducible refine wpSeq_put ?_; go_big_move) | (try simp only [Act.put, List.setIfInBounds_toArray, List.set_cons_zero, List.set_cons_succ]))
        refine seq_take (oi := ⟨some 84, _, _, _, _, _⟩) (v := ?_) rfl (Or.inl ⟨by kernel_rfl, ?_⟩) (by assumption) ?_
        rotate_left
        · (intro wS hSw; (try dsimp only at hSw); have c0 := (hSw.cell (p := ⟨b9, o9 + k, none⟩) hb9).trans dd0; have c1 := (hSw.cell (p := ⟨b9, o9 + (k + 1), none⟩) hb9).trans dd1; have c2 := (hSw.cell (p := ⟨b9, o9 + (k + 2), none⟩) hb9).trans dd2; have c3 := (hSw.cell (p := ⟨b9, o9 + (k + 3), none⟩) hb9).trans dd3; clear hSw; refine execV (fun rho hk1 hk2 hk3 hk => ?_); have e83_ := (hk 83).trans (evalP (fg64 (fg8 (fg8 (fg1 (fg1 (fg1 fg0))))))); clear hk; go_simp; (try with_reducible rfl))
        (first | (with_reducible refine wpSeq_put ?_; go_big_move) | (try simp only [Act.put, List.setIfInBounds_toArray, List.set_cons_zero, List.set_cons_succ]))
        refine seq_take (oi := ⟨some 85, _, _, _, _, _⟩) (v := ?_) rfl (Or.inl ⟨by kernel_rfl, ?_⟩) (by assumption) ?_
        rotate_left
        · (intro wS hSw; (try dsimp only at hSw); have c0 := (hSw.cell (p := ⟨b9, o9 + k, none⟩) hb9).trans dd0; have c1 := (hSw.cell (p := ⟨b9, o9 + (k + 1), none⟩) hb9).trans dd1; have c2 := (hSw.cell (p := ⟨b9, o9 + (k + 2), none⟩) hb9).trans dd2; have c3 := (hSw.cell (p := ⟨b9, o9 + (k + 3), none⟩) hb9).trans dd3; clear hSw; refine execV (fun rho hk1 hk2 hk3 hk => ?_); have e84_ := (hk 84).trans (evalP (fg64 (fg8 (fg8 (fg1 (fg1 (fg1 (fg1 fg0)))))))); clear hk; go_simp; (try with_reducible rfl))
        (first | (with_reducible refine wpSeq_put ?_; go_big_move) | (try simp only [Act.put, List.setIfInBounds_toArray, List.set_cons_zero, List.set_cons_succ]))
        refine seq_take (oi := ⟨some 86, _, _, _, _, _⟩) (v := ?_) rfl (Or.inl ⟨by kernel_rfl, ?_⟩) (by assumption) ?_
        rotate_left
        · (intro wS hSw; (try dsimp only at hSw); have c0 := (hSw.cell (p := ⟨b9, o9 + k, none⟩) hb9).trans dd0; have c1 := (hSw.cell (p := ⟨b9, o9 + (k + 1), none⟩) hb9).trans dd1; have c2 := (hSw.cell (p := ⟨b9, o9 + (k + 2), none⟩) hb9).trans dd2; have c3 := (hSw.cell (p := ⟨b9, o9 + (k + 3), none⟩) hb9).trans dd3; clear hSw; refine execV (fun rho hk1 hk2 hk3 hk => ?_); have e85_ := (hk 85).trans (evalP (fg64 (fg8 (fg8 (fg1 (fg1 (fg1 (fg1 (fg1 fg0))))))))); clear hk; go_simp; (try with_reducible rfl))
        (first | (with_reducible refine wpSeq_put ?_; go_big_move) | (try simp only [Act.put, List.setIfInBounds_toArray, List.set_cons_zero, List.set_cons_succ]))
        refine seq_take (oi := ⟨some 87, _, _, _, _, _⟩) (v := ?_) rfl (Or.inl ⟨by kernel_rfl, ?_⟩) (by assumption) ?_
        rotate_left
        · (intro wS hSw; (try dsimp only at hSw); have c0 := (hSw.cell (p := ⟨b9, o9 + k, none⟩) hb9).trans dd0; have c1 := (hSw.cell (p := ⟨b9, o9 + (k + 1), none⟩) hb9).trans dd1; have c2 := (hSw.cell (p := ⟨b9, o9 + (k + 2), none⟩) hb9).trans dd2; have c3 := (hSw.cell (p := ⟨b9, o9 + (k + 3), none⟩) hb9).trans dd3; clear hSw; refine execV (fun rho hk1 hk2 hk3 hk => ?_); have e7_ := (hk 7).trans (evalP (fg1 (fg1 (fg1 (fg1 (fg1 (fg1 (fg1 fg0)))))))); clear hk; go_simp; (try with_reducible rfl))
        (first | (with_reducible refine wpSeq_put ?_; go_big_move) | (try simp only [Act.put, List.setIfInBounds_toArray, List.set_cons_zero, List.set_cons_succ]))
        refine seq_take (oi := ⟨some 88, _, _, _, _, _⟩) (v := ?_) rfl (Or.inl ⟨by kernel_rfl, ?_⟩) (by assumption) ?_
        rotate_left
        · (intro wS hSw; (try dsimp only at hSw); have c0 := (hSw.cell (p := ⟨b9, o9 + k, none⟩) hb9).trans dd0; have c1 := (hSw.cell (p := ⟨b9, o9 + (k + 1), none⟩) hb9).trans dd1; have c2 := (hSw.cell (p := ⟨b9, o9 + (k + 2), none⟩) hb9).trans dd2; have c3 := (hSw.cell (p := ⟨b9, o9 + (k + 3), none⟩) hb9).trans dd3; clear hSw; refine execV (fun rho hk1 hk2 hk3 hk => ?_); have e14_ := (hk 14).trans (evalP (fg8 (fg1 (fg1 (fg1 (fg1 (fg1 (fg1 fg0)))))))); clear hk; go_simp; (try with_reducible rfl))
        (first | (with_reducible refine wpSeq_put ?_; go_big_move) | (try simp only [Act.put, List.setIfInBounds_toArray, List.set_cons_zero, List.set_cons_succ]))
        refine seq_take (oi := ⟨some 89, _, _, _, _, _⟩) (v := ?_) rfl (Or.inl ⟨by kernel_rfl, ?_⟩) (by assumption) ?_
        rotate_left
        · (intro wS hSw; (try dsimp only at hSw); have c0 := (hSw.cell (p := ⟨b9, o9 + k, none⟩) hb9).trans dd0; have c1 := (hSw.cell (p := ⟨b9, o9 + (k + 1), none⟩) hb9).trans dd1; have c2 := (hSw.cell (p := ⟨b9, o9 + (k + 2), none⟩) hb9).trans dd2; have c3 := (hSw.cell (p := ⟨b9, o9 + (k + 3), none⟩) hb9).trans dd3; clear hSw; refine execV (fun rho hk1 hk2 hk3 hk => ?_); have e88_ := (hk 88).trans (evalP (fg64 (fg8 (fg8 (fg8 fg0))))); clear hk; go_simp; (try with_reducible rfl))
        (first | (with_reducible refine wpSeq_put ?_; go_big_move) | (try simp only [Act.put, List.setIfInBounds_toArray, List.set_cons_zero, List.set_cons_succ]))
        refine seq_take (oi := ⟨some 90, _, _, _, _, _⟩) (v := ?_) rfl (Or.inl ⟨by kernel_rfl, ?_⟩) (by assumption) ?_
        rotate_left
        · (intro wS hSw; (try dsimp only at hSw); have c0 := (hSw.cell (p := ⟨b9, o9 + k, none⟩) hb9).trans dd0; have c1 := (hSw.cell (p := ⟨b9, o9 + (k + 1), none⟩) hb9).trans dd1; have c2 := (hSw.cell (p := ⟨b9, o9 + (k + 2), none⟩) hb9).trans dd2; have c3 := (hSw.cell (p := ⟨b9, o9 + (k + 3), none⟩) hb9).trans dd3; clear hSw; refine execV (fun rho hk1 hk2 hk3 hk => ?_); have e87_ := (hk 87).trans (evalP (fg64 (fg8 (fg8 (fg1 (fg1 (fg1 (fg1 (fg1 (fg1 (fg1 fg0))))))))))); have e89_ := (hk 89).trans (evalP (fg64 (fg8 (fg8 (fg8 (fg1 fg0)))))); clear hk; go_simp; (try with_reducible rfl))
        (first | (with_reducible refine wpSeq_put ?_; go_big_move) | (try simp only [Act.put, List.setIfInBounds_toArray, List.set_cons_zero, List.set_cons_succ]))
        refine seq_take (oi := ⟨some 91, _, _, _, _, _⟩) (v := ?_) rfl (Or.inl ⟨by kernel_rfl, ?_⟩) (by assumption) ?_
        rotate_left
        · (intro wS hSw; (try dsimp only at hSw); have c0 := (hSw.cell (p := ⟨b9, o9 + k, none⟩) hb9).trans dd0; have c1 := (hSw.cell (p := ⟨b9, o9 + (k + 1), none⟩) hb9).trans dd1; have c2 := (hSw.cell (p := ⟨b9, o9 + (k + 2), none⟩) hb9).trans dd2; have c3 := (hSw.cell (p := ⟨b9, o9 + (k + 3), none⟩) hb9).trans dd3; clear hSw; refine execV (fun rho hk1 hk2 hk3 hk => ?_); have e90_ := (hk 90).trans (evalP (fg64 (fg8 (fg8 (fg8 (fg1 (fg1 fg0))))))); clear hk; go_simp; (try with_reducible rfl))
        (first | (with_reducible refine wpSeq_put ?_; go_big_move) | (try simp only [Act.put, List.setIfInBounds_toArray, List.set_cons_zero, List.set_cons_succ]))
        refine seq_take (oi := ⟨some 92, _, _, _, _, _⟩) (v := ?_) rfl (Or.inl ⟨by kernel_rfl, ?_⟩) (by assumption) ?_
        rotate_left
        · (intro wS hSw; (try dsimp only at hSw); have c0 := (hSw.cell (p := ⟨b9, o9 + k, none⟩) hb9).trans dd0; have c1 := (hSw.cell (p := ⟨b9, o9 + (k + 1), none⟩) hb9).trans dd1; have c2 := (hSw.cell (p := ⟨b9, o9 + (k + 2), none⟩) hb9).trans dd2; have c3 := (hSw.cell (p := ⟨b9, o9 + (k + 3), none⟩) hb9).trans dd3; clear hSw; refine execV (fun rho hk1 hk2 hk3 hk => ?_); have e91_ := (hk 91).trans (evalP (fg64 (fg8 (fg8 (fg8 (fg1 (fg1 (fg1 fg0)))))))); clear hk; go_simp; (try with_reducible rfl))
        (first | (with_reducible refine wpSeq_put ?_; go_big_move) | (try simp only [Act.put, List.setIfInBounds_toArray, List.set_cons_zero, List.set_cons_succ]))
        refine seq_take (oi := ⟨some 93, _, _, _, _, _⟩) (v := ?_) rfl (Or.inl ⟨by kernel_rfl, ?_⟩) (by assumption) ?_
        rotate_left
        · (intro wS hSw; (try dsimp only at hSw); have c0 := (hSw.cell (p := ⟨b9, o9 + k, none⟩) hb9).trans dd0; have c1 := (hSw.cell (p := ⟨b9, o9 + (k + 1), none⟩) hb9).trans dd1; have c2 := (hSw.cell (p := ⟨b9, o9 + (k + 2), none⟩) hb9).trans dd2; have c3 := (hSw.cell (p := ⟨b9, o9 + (k + 3), none⟩) hb9).trans dd3; clear hSw; refine execV (fun rho hk1 hk2 hk3 hk => ?_); have e92_ := (hk 92).trans (evalP (fg64 (fg8 (fg8 (fg8 (fg1 (fg1 (fg1 (fg1 fg0))))))))); clear hk; go_simp; (try with_reducible rfl))
        (first | (with_reducible refine wpSeq_put ?_; go_big_move) | (try simp only [Act.put, List.setIfInBounds_toArray, List.set_cons_zero, List.set_cons_succ]))
        refine seq_take (oi := ⟨some 94, _, _, _, _, _⟩) (v := ?_) rfl (Or.inl ⟨by kernel_rfl, ?_⟩) (by assumption) ?_
        rotate_left
        · (intro wS hSw; (try dsimp only at hSw); have c0 := (hSw.cell (p := ⟨b9, o9 + k, none⟩) hb9).trans dd0; have c1 := (hSw.cell (p := ⟨b9, o9 + (k + 1), none⟩) hb9).trans dd1; have c2 := (hSw.cell (p := ⟨b9, o9 + (k + 2), none⟩) hb9).trans dd2; have c3 := (hSw.cell (p := ⟨b9, o9 + (k + 3), none⟩) hb9).trans dd3; clear hSw; refine execV (fun rho hk1 hk2 hk3 hk => ?_); have e86_ := (hk 86).trans (evalP (fg64 (fg8 (fg8 (fg1 (fg1 (fg1 (fg1 (fg1 (fg1 fg0)))))))))); have e93_ := (hk 93).trans (evalP (fg64 (fg8 (fg8 (fg8 (fg1 (fg1 (fg1 (fg1 (fg1 fg0)))))))))); clear hk; go_simp; (try with_reducible rfl))
        (first | (with_reducible refine wpSeq_put ?_; go_big_move) | (try simp only [Act.put, List.setIfInBounds_toArray, List.set_cons_zero, List.set_cons_succ]))
        refine seq_take (oi := ⟨some 95, _, _, _, _, _⟩) (v := ?_) rfl (Or.inl ⟨by kernel_rfl, ?_⟩) (by assumption) ?_
        rotate_left
        · (intro wS hSw; (try dsimp only at hSw); have c0 := (hSw.cell (p := ⟨b9, o9 + k, none⟩) hb9).trans dd0; have c1 := (hSw.cell (p := ⟨b9, o9 + (k + 1), none⟩) hb9).trans dd1; have c2 := (hSw.cell (p := ⟨b9, o9 + (k + 2), none⟩) hb9).trans dd2; have c3 := (hSw.cell (p := ⟨b9, o9 + (k + 3), none⟩) hb9).trans dd3; clear hSw; refine execV (fun rho hk1 hk2 hk3 hk => ?_); have e7_ := (hk 7).trans (evalP (fg1 (fg1 (fg1 (fg1 (fg1 (fg1 (fg1 fg0)))))))); clear hk; go_simp; (try with_reducible rfl))
        (first | (with_reducible refine wpSeq_put ?_; go_big_move) | (try simp only [Act.put, List.setIfInBounds_toArray, List.set_cons_zero, List.set_cons_succ]))
        refine seq_take (oi := ⟨some 96, _, _, _, _, _⟩) (v := ?_) rfl (Or.inl ⟨by kernel_rfl, ?_⟩) (by assumption) ?_
        rotate_left
        · (intro wS hSw; (try dsimp only at hSw); have c0 := (hSw.cell (p := ⟨b9, o9 + k, none⟩) hb9).trans dd0; have c1 := (hSw.cell (p := ⟨b9, o9 + (k + 1), none⟩) hb9).trans dd1; have c2 := (hSw.cell (p := ⟨b9, o9 + (k + 2), none⟩) hb9).trans dd2; have c3 := (hSw.cell (p := ⟨b9, o9 + (k + 3), none⟩) hb9).trans dd3; clear hSw; refine execV (fun rho hk1 hk2 hk3 hk => ?_); have e14_ := (hk 14).trans (evalP (fg8 (fg1 (fg1 (fg1 (fg1 (fg1 (fg1 fg0)))))))); clear hk; go_simp; (try with_reducible rfl))
        (first | (with_reducible refine wpSeq_put ?_; go_big_move) | (try simp only [Act.put, List.setIfInBounds_toArray, List.set_cons_zero, List.set_cons_succ]))
        refine seq_take (oi := ⟨some 97, _, _, _, _, _⟩) (v := ?_) rfl (Or.inl ⟨by kernel_rfl, ?_⟩) (by assumption) ?_
        rotate_left
        · (intro wS hSw; (try dsimp only at hSw); have c0 := (hSw.cell (p := ⟨b9, o9 + k, none⟩) hb9).trans dd0; have c1 := (hSw.cell (p := ⟨b9, o9 + (k + 1), none⟩) hb9).trans dd1; have c2 := (hSw.cell (p := ⟨b9, o9 + (k + 2), none⟩) hb9).trans dd2; have c3 := (hSw.cell (p := ⟨b9, o9 + (k + 3), none⟩) hb9).trans dd3; clear hSw; refine execV (fun rho hk1 hk2 hk3 hk => ?_); have e96_ := (hk 96).trans (evalP (fg64 (fg8 (fg8 (fg8 (fg8 fg0)))))); clear hk; go_simp; (try with_reducible rfl))
        (first | (with_reducible refine wpSeq_put ?_; go_big_move) | (try simp only [Act.put, List.setIfInBounds_toArray, List.set_cons_zero, List.set_cons_succ]))
        refine seq_take (oi := ⟨some 98, _, _, _, _, _⟩) (v := ?_) rfl (Or.inl ⟨by kernel_rfl, ?_⟩) (by assumption) ?_
        rotate_left
        · (intro wS hSw; (try dsimp only at hSw); have c0 := (hSw.cell (p := ⟨b9, o9 + k, none⟩) hb9).trans dd0; have c1 := (hSw.cell (p := ⟨b9, o9 + (k + 1), none⟩) hb9).trans dd1; have c2 := (hSw.cell (p := ⟨b9, o9 + (k + 2), none⟩) hb9).trans dd2; have c3 := (hSw.cell (p := ⟨b9, o9 + (k + 3), none⟩) hb9).trans dd3; clear hSw; refine execV (fun rho hk1 hk2 hk3 hk => ?_); have e95_ := (hk 95).trans (evalP (fg64 (fg8 (fg8 (fg8 (fg1 (fg1 (fg1 (fg1 (fg1 (fg1 (fg1 fg0)))))))))))); have e97_ := (hk 97).trans (evalP (fg64 (fg8 (fg8 (fg8 (fg8 (fg1 fg0))))))); clear hk; go_simp; (try with_reducible rfl))
        (first | (with_reducible refine wpSeq_put ?_; go_big_move) | (try simp only [Act.put, List.setIfInBounds_toArray, List.set_cons_zero, List.set_cons_succ]))
        refine seq_take (oi := ⟨some 99, _, _, _, _, _⟩) (v := ?_) rfl (Or.inl ⟨by kernel_rfl, ?_⟩) (by assumption) ?_
        rotate_left
        · (intro wS hSw; (try dsimp only at hSw); have c0 := (hSw.cell (p := ⟨b9, o9 + k, none⟩) hb9).trans dd0; have c1 := (hSw.cell (p := ⟨b9, o9 + (k + 1), none⟩) hb9).trans dd1; have c2 := (hSw.cell (p := ⟨b9, o9 + (k + 2), none⟩) hb9).trans dd2; have c3 := (hSw.cell (p := ⟨b9, o9 + (k + 3), none⟩) hb9).trans dd3; clear hSw; refine execV (fun rho hk1 hk2 hk3 hk => ?_); have e98_ := (hk 98).trans (evalP (fg64 (fg8 (fg8 (fg8 (fg8 (fg1 (fg1 fg0)))))))); clear hk; go_simp; (try with_reducible rfl))
        (first | (with_reducible refine wpSeq_put ?_; go_big_move) | (try simp only [Act.put, List.setIfInBounds_toArray, List.set_cons_zero, List.set_cons_succ]))
        refine seq_take (oi := ⟨some 100, _, _, _, _, _⟩) (v := ?_) rfl (Or.inl ⟨by kernel_rfl, ?_⟩) (by assumption) ?_
        rotate_left
        · (intro wS hSw; (try dsimp only at hSw); have c0 := (hSw.cell (p := ⟨b9, o9 + k, none⟩) hb9).trans dd0; have c1 := (hSw.cell (p := ⟨b9, o9 + (k + 1), none⟩) hb9).trans dd1; have c2 := (hSw.cell (p := ⟨b9, o9 + (k + 2), none⟩) hb9).trans dd2; have c3 := (hSw.cell (p := ⟨b9, o9 + (k + 3), none⟩) hb9).trans dd3; clear hSw; refine execV (fun rho hk1 hk2 hk3 hk => ?_); have e99_ := (hk 99).trans (evalP (fg64 (fg8 (fg8 (fg8 (fg8 (fg1 (fg1 (fg1 fg0))))))))); clear hk; go_simp; (try with_reducible rfl))
        (first | (with_reducible refine wpSeq_put ?_; go_big_move) | (try simp only [Act.put, List.setIfInBounds_toArray, List.set_cons_zero, List.set_cons_succ]))
        refine seq_take (oi := ⟨some 101, _, _, _, _, _⟩) (v := ?_) rfl (Or.inl ⟨by kernel_rfl, ?_⟩) (by assumption) ?_
        rotate_left
        · (intro wS hSw; (try dsimp only at hSw); have c0 := (hSw.cell (p := ⟨b9, o9 + k, none⟩) hb9).trans dd0; have c1 := (hSw.cell (p := ⟨b9, o9 + (k + 1), none⟩) hb9).trans dd1; have c2 := (hSw.cell (p := ⟨b9, o9 + (k + 2), none⟩) hb9).trans dd2; have c3 := (hSw.cell (p := ⟨b9, o9 + (k + 3), none⟩) hb9).trans dd3; clear hSw; refine execV (fun rho hk1 hk2 hk3 hk => ?_); have e100_ := (hk 100).trans (evalP (fg64 (fg8 (fg8 (fg8 (fg8 (fg1 (fg1 (fg1 (fg1 fg0)))))))))); clear hk; go_simp; (try with_reducible rfl))
        (first | (with_reducible refine wpSeq_put ?_; go_big_move) | (try simp only [Act.put, List.setIfInBounds_toArray, List.set_cons_zero, List.set_cons_succ]))
        refine seq_take (oi := ⟨some 102, _, _, _, _, _⟩) (v := ?_) rfl (Or.inl ⟨by kernel_rfl, ?_⟩) (by assumption) ?_
        rotate_left
        · (intro wS hSw; (try dsimp only at hSw); have c0 := (hSw.cell (p := ⟨b9, o9 + k, none⟩) hb9).trans dd0; have c1 := (hSw.cell (p := ⟨b9, o9 + (k + 1), none⟩) hb9).trans dd1; have c2 := (hSw.cell (p := ⟨b9, o9 + (k + 2), none⟩) hb9).trans dd2; have c3 := (hSw.cell (p := ⟨b9, o9 + (k + 3), none⟩) hb9).trans dd3; clear hSw; refine execV (fun rho hk1 hk2 hk3 hk => ?_); have e94_ := (hk 94).trans (evalP (fg64 (fg8 (fg8 (fg8 (fg1 (fg1 (fg1 (fg1 (fg1 (fg1 fg0))))))))))); have e101_ := (hk 101).trans (evalP (fg64 (fg8 (fg8 (fg8 (fg8 (fg1 (fg1 (fg1 (fg1 (fg1 fg0))))))))))); clear hk; go_simp; (try with_reducible rfl))
        (first | (with_reducible refine wpSeq_put ?_; go_big_move) | (try simp only [Act.put, List.setIfInBounds_toArray, List.set_cons_zero, List.set_cons_succ]))
        refine seq_take (oi := ⟨some 103, _, _, _, _, _⟩) (v := ?_) rfl (Or.inl ⟨by kernel_rfl, ?_⟩) (by assumption) ?_
        rotate_left
        · (intro wS hSw; (try dsimp only at hSw); have c0 := (hSw.cell (p := ⟨b9, o9 + k, none⟩) hb9).trans dd0; have c1 := (hSw.cell (p := ⟨b9, o9 + (k + 1), none⟩) hb9).trans dd1; have c2 := (hSw.cell (p := ⟨b9, o9 + (k + 2), none⟩) hb9).trans dd2; have c3 := (hSw.cell (p := ⟨b9, o9 + (k + 3), none⟩) hb9).trans dd3; clear hSw; refine execV (fun rho hk1 hk2 hk3 hk => ?_); have e7_ := (hk 7).trans (evalP (fg1 (fg1 (fg1 (fg1 (fg1 (fg1 (fg1 fg0)))))))); clear hk; go_simp; (try with_reducible rfl))
        (first | (with_reducible refine wpSeq_put ?_; go_big_move) | (try simp only [Act.put, List.setIfInBounds_toArray, List.set_cons_zero, List.set_cons_succ]))
        refine seq_take (oi := ⟨some 104, _, _, _, _, _⟩) (v := ?_) rfl (Or.inl ⟨by kernel_rfl, ?_⟩) (by assumption) ?_
        rotate_left
        · (intro wS hSw; (try dsimp only at hSw); have c0 := (hSw.cell (p := ⟨b9, o9 + k, none⟩) hb9).trans dd0; have c1 := (hSw.cell (p := ⟨b9, o9 + (k + 1), none⟩) hb9).trans dd1; have c2 := (hSw.cell (p := ⟨b9, o9 + (k + 2), none⟩) hb9).trans dd2; have c3 := (hSw.cell (p := ⟨b9, o9 + (k + 3), none⟩) hb9).trans dd3; clear hSw; refine execV (fun rho hk1 hk2 hk3 hk => ?_); have e14_ := (hk 14).trans (evalP (fg8 (fg1 (fg1 (fg1 (fg1 (fg1 (fg1 fg0)))))))); clear hk; go_simp; (try with_reducible rfl))
        (first | (with_reducible refine wpSeq_put ?_; go_big_move) | (try simp only [Act.put, List.setIfInBounds_toArray, List.set_cons_zero, List.set_cons_succ]))
        refine seq_take (oi := ⟨some 105, _, _, _, _, _⟩) (v := ?_) rfl (Or.inl ⟨by kernel_rfl, ?_⟩) (by assumption) ?_
        rotate_left
        · (intro wS hSw; (try dsimp only at hSw); have c0 := (hSw.cell (p := ⟨b9, o9 + k, none⟩) hb9).trans dd0; have c1 := (hSw.cell (p := ⟨b9, o9 + (k + 1), none⟩) hb9).trans dd1; have c2 := (hSw.cell (p := ⟨b9, o9 + (k + 2), none⟩) hb9).trans dd2; have c3 := (hSw.cell (p := ⟨b9, o9 + (k + 3), none⟩) hb9).trans dd3; clear hSw; refine execV (fun rho hk1 hk2 hk3 hk => ?_); have e104_ := (hk 104).trans (evalP (fg64 (fg8 (fg8 (fg8 (fg8 (fg8 fg0))))))); clear hk; go_simp; (try with_reducible rfl))
        (first | (with_reducible refine wpSeq_put ?_; go_big_move) | (try simp only [Act.put, List.setIfInBounds_toArray, List.set_cons_zero, List.set_cons_succ]))
        refine seq_take (oi := ⟨some 106, _, _, _, _, _⟩) (v := ?_) rfl (Or.inl ⟨by kernel_rfl, ?_⟩) (by assumption) ?_
        rotate_left
        · (intro wS hSw; (try dsimp only at hSw); have c0 := (hSw.cell (p := ⟨b9, o9 + k, none⟩) hb9).trans dd0; have c1 := (hSw.cell (p := ⟨b9, o9 + (k + 1), none⟩) hb9).trans dd1; have c2 := (hSw.cell (p := ⟨b9, o9 + (k + 2), none⟩) hb9).trans dd2; have c3 := (hSw.cell (p := ⟨b9, o9 + (k + 3), none⟩) hb9).trans dd3; clear hSw; refine execV (fun rho hk1 hk2 hk3 hk => ?_); have e103_ := (hk 103).trans (evalP (fg64 (fg8 (fg8 (fg8 (fg8 (fg1 (fg1 (fg1 (fg1 (fg1 (fg1 (fg1 fg0))))))))))))); have e105_ := (hk 105).trans (evalP (fg64 (fg8 (fg8 (fg8 (fg8 (fg8 (fg1 fg0)))))))); clear hk; go_simp; (try with_reducible rfl))
        (first | (with_reducible refine wpSeq_put ?_; go_big_move) | (try simp only [Act.put, List.setIfInBounds_toArray, List.set_cons_zero, List.set_cons_succ]))
        refine seq_take (oi := ⟨some 107, _, _, _, _, _⟩) (v := ?_) rfl (Or.inl ⟨by kernel_rfl, ?_⟩) (by assumption) ?_
        rotate_left
        · (intro wS hSw; (try dsimp only at hSw); have c0 := (hSw.cell (p := ⟨b9, o9 + k, none⟩) hb9).trans dd0; have c1 := (hSw.cell (p := ⟨b9, o9 + (k + 1), none⟩) hb9).trans dd1; have c2 := (hSw.cell (p := ⟨b9, o9 + (k + 2), none⟩) hb9).trans dd2; have c3 := (hSw.cell (p := ⟨b9, o9 + (k + 3), none⟩) hb9).trans dd3; clear hSw; refine execV (fun rho hk1 hk2 hk3 hk => ?_); have e106_ := (hk 106).trans (evalP (fg64 (fg8 (fg8 (fg8 (fg8 (fg8 (fg1 (fg1 fg0))))))))); clear hk; go_simp; (try with_reducible rfl))
        (first | (with_reducible refine wpSeq_put ?_; go_big_move) | (try simp only [Act.put, List.setIfInBounds_toArray, List.set_cons_zero, List.set_cons_succ]))
        refine seq_take (oi := ⟨some 108, _, _, _, _, _⟩) (v := ?_) rfl (Or.inl ⟨by kernel_rfl, ?_⟩) (by assumption) ?_
        rotate_left
        · (intro wS hSw; (try dsimp only at hSw); have c0 := (hSw.cell (p := ⟨b9, o9 + k, none⟩) hb9).trans dd0; have c1 := (hSw.cell (p := ⟨b9, o9 + (k + 1), none⟩) hb9).trans dd1; have c2 := (hSw.cell (p := ⟨b9, o9 + (k + 2), none⟩) hb9).trans dd2; have c3 := (hSw.cell (p := ⟨b9, o9 + (k + 3), none⟩) hb9).trans dd3; clear hSw; refine execV (fun rho hk1 hk2 hk3 hk => ?_); have e107_ := (hk 107).trans (evalP (fg64 (fg8 (fg8 (fg8 (fg8 (fg8 (fg1 (fg1 (fg1 fg0)))))))))); clear hk; go_simp; (try with_reducible rfl))
        (first | (with_reducible refine wpSeq_put ?_; go_big_move) | (try simp only [Act.put, List.setIfInBounds_toArray, List.set_cons_zero, List.set_cons_succ]))
        refine seq_take (oi := ⟨some 109, _, _, _, _, _⟩) (v := ?_) rfl (Or.inl ⟨by kernel_rfl, ?_⟩) (by assumption) ?_
        rotate_left
        · (intro wS hSw; (try dsimp only at hSw); have c0 := (hSw.cell (p := ⟨b9, o9 + k, none⟩) hb9).trans dd0; have c1 := (hSw.cell (p := ⟨b9, o9 + (k + 1), none⟩) hb9).trans dd1; have c2 := (hSw.cell (p := ⟨b9, o9 + (k + 2), none⟩) hb9).trans dd2; have c3 := (hSw.cell (p := ⟨b9, o9 + (k + 3), none⟩) hb9).trans dd3; clear hSw; refine execV (fun rho hk1 hk2 hk3 hk => ?_); have e102_ := (hk 102).trans (evalP (fg64 (fg8 (fg8 (fg8 (fg8 (fg1 (fg1 (fg1 (fg1 (fg1 (fg1 fg0)))))))))))); have e108_ := (hk 108).trans (evalP (fg64 (fg8 (fg8 (fg8 (fg8 (fg8 (fg1 (fg1 (fg1 (fg1 fg0))))))))))); clear hk; go_simp; (try with_reducible rfl))
        (first | (with_reducible refine wpSeq_put ?_; go_big_move) | (try simp only [Act.put, List.setIfInBounds_toArray, List.set_cons_zero, List.set_cons_succ]))
        refine seq_step (o := ⟨some 110, _, _, _, _, _⟩) rfl (fun K hK => ?_)
        with_reducible refine wantedP (by kernel_rfl) ?_
        (first | go_big_op | go_simp)
        refine hK.out _ _ ?_ (fun _ => ?_)
        · ((try dsimp only); (first | with_reducible exact Below.refl _ _ | exact hHeld.trans hb99 | exact hHeld.alloc (Nat.le_trans hBw hHeld.size) _))
        clear hK K
        (first | (with_reducible refine wpSeq_put ?_; go_big_move) | (try simp only [Act.put, List.setIfInBounds_toArray, List.set_cons_zero, List.set_cons_succ]))
        refine gen0 (T := fun W => ((fun W => Below B wr.drew W)) W ∧ OwnW W B Wa wc ws ∧ SlW W (some ⟨wq1.heap.size, 0, none⟩) 1 [be4 x0 x1 x2 x3] ∧ True) ?_ (fun wq2 hT => ?_)
        · exact ⟨by (first | with_reducible exact Below.refl _ _ | exact hHeld.trans hb99 | exact hHeld.alloc (Nat.le_trans hBw hHeld.size) _), by (first | with_reducible assumption | exact hod | exact ho9 | exact World.ownsRow.alloc f0 _ | exact Sl.one), by (first | with_reducible assumption | exact hod | exact ho9 | exact World.ownsRow.alloc f0 _ | exact Sl.one), trivial⟩
        (try clear f0 f1 f2 f3 f4 f5 f6 f7 f8 f9 f10 f11)
        obtain ⟨hHeld, f0, f1, -⟩ := hT
        refine seq_step (o := ⟨some 111, _, _, _, _, _⟩) rfl (fun K hK => ?_)
        (refine step_words (by kernel_rfl) (.tmp 80) (.tmp 110) rfl B Wa wc ws rfl f0 _ 1 (be4 x0 x1 x2 x3) rfl f1 hlw (Nat.le_trans hBw hHeld.size) ?_; intro A9 c9 m9 w9 hm9 ho9 hb99)
        refine hK.out _ _ ?_ (fun _ => ?_)
        · ((try dsimp only); (first | with_reducible exact Below.refl _ _ | exact hHeld.trans hb99 | exact hHeld.alloc (Nat.le_trans hBw hHeld.size) _))
        clear hK K
        (first | (with_reducible refine wpSeq_put ?_; go_big_move) | (try simp only [Act.put, List.setIfInBounds_toArray, List.set_cons_zero, List.set_cons_succ]))
        refine gen0 (T := fun W => ((fun W => Below B wr.drew W)) W ∧ OwnW W B A9 c9 m9 ∧ True) ?_ (fun wq3 hT => ?_)
        · exact ⟨by (first | with_reducible exact Below.refl _ _ | exact hHeld.trans hb99 | exact hHeld.alloc (Nat.le_trans hBw hHeld.size) _), by (first | with_reducible assumption | exact hod | exact ho9 | exact World.ownsRow.alloc f0 _ | exact Sl.one), trivial⟩
        (try clear f0 f1 f2 f3 f4 f5 f6 f7 f8 f9 f10 f11)
        obtain ⟨hHeld, f0, -⟩ := hT
        refine seq_take (oi := ⟨some 12, _, _, _, _, _⟩) (v := ?_) rfl (Or.inl ⟨by kernel_rfl, ?_⟩) (by assumption) ?_
        rotate_left
        · (intro wS hSw; (try dsimp only at hSw); have c0 := (hSw.cell (p := ⟨b9, o9 + k, none⟩) hb9).trans dd0; have c1 := (hSw.cell (p := ⟨b9, o9 + (k + 1), none⟩) hb9).trans dd1; have c2 := (hSw.cell (p := ⟨b9, o9 + (k + 2), none⟩) hb9).trans dd2; have c3 := (hSw.cell (p := ⟨b9, o9 + (k + 3), none⟩) hb9).trans dd3; clear hSw; refine execV (fun rho hk1 hk2 hk3 hk => ?_); have e111_ := (hk 111).trans (evalP (fg64 (fg8 (fg8 (fg8 (fg8 (fg8 (fg1 (fg1 (fg1 (fg1 (fg1 (fg1 (fg1 fg0)))))))))))))); clear hk; go_simp; (try with_reducible rfl))
        (first | (with_reducible refine wpSeq_put ?_; go_big_move) | (try simp only [Act.put, List.setIfInBounds_toArray, List.set_cons_zero, List.set_cons_succ]))
        refine seq_done ?_
        have hl9 : m9.length = n + 1 := by rw [hm9.out, List.length_append, HWL.out]; rfl
        have hs9 : Hid (m9 = sch bk (n + 1)) := (show _ = _ from by rw [hm9.out, hws.out, hsn.out])
        have hb10 := Lib.hid ((HBW.out.drew).trans hHeld)
        clear hq hv1 hv2 hv3 hw4 hwk hHeld dd0 dd1 dd2 dd3 hod hlw hBw
        go_wp2_with fail
        go_roundw
        case rel => exact ⟨n + 1, A9, c9, m9, hn64, by go_num, rfl, hl9, hs9, f0, hb10.out⟩
        case measure => simp [intOf]; omega
      · have h16I : (16 : Int) ≤ n := by omega
        obtain ⟨j16, e16⟩ : ∃ j, n = j + 16 := ⟨n - 16, by omega⟩
        obtain ⟨j15, e15⟩ : ∃ j, n = j + 15 := ⟨n - 15, by omega⟩
        obtain ⟨j7, e7⟩ : ∃ j, n = j + 7 := ⟨n - 7, by omega⟩
        obtain ⟨j2, e2⟩ : ∃ j, n = j + 2 := ⟨n - 2, by omega⟩
        have hsn : Hid (sch bk (n + 1) = ws ++ [ws.getD j16 0 + ws.getD j7 0 + sg0 (ws.getD j15 0) + sg1 (ws.getD j2 0)]) := (show _ = _ from by
          rw [sch, if_neg h16, ← hws.out, show n - 16 = j16 from by omega, show n - 7 = j7 from by omega, show n - 15 = j15 from by omega, show n - 2 = j2 from by omega])
        have hv16 : IntKind.i64.wrap ((n : Int) - 16) = (j16 : Int) := by rw [IntKind.wrap_i64]; omega
        have hv15 : IntKind.i64.wrap ((n : Int) - 15) = (j15 : Int) := by rw [IntKind.wrap_i64]; omega
        have hv7 : IntKind.i64.wrap ((n : Int) - 7) = (j7 : Int) := by rw [IntKind.wrap_i64]; omega
        have hv2 : IntKind.i64.wrap ((n : Int) - 2) = (j2 : Int) := by rw [IntKind.wrap_i64]; omega
        obtain ⟨gw, rfl, hgB, hc⟩ := OwnW.form how (by omega)
        have c15 := hc j15 (by omega)
        have c2' := hc j2 (by omega)
        have c16 := hc j16 (by omega)
        have c7 := hc j7 (by omega)
        have hl16 : j16 < ws.length := by omega
        have hl7 : j7 < ws.length := by omega
        have hg16 : Hid (ws.getD j16 0 = ws.getD j16 0) := Lib.hid rfl
        obtain ⟨y16, hy16⟩ : ∃ y, ws.getD j16 0 = y := ⟨_, rfl⟩
        obtain ⟨y7, hy7⟩ : ∃ y, ws.getD j7 0 = y := ⟨_, rfl⟩
        obtain ⟨y15, hy15⟩ : ∃ y, ws.getD j15 0 = y := ⟨_, rfl⟩
        obtain ⟨y2, hy2⟩ : ∃ y, ws.getD j2 0 = y := ⟨_, rfl⟩
        rw [hy16] at c16 hsn
        rw [hy7] at c7 hsn
        rw [hy15] at c15 hsn
        rw [hy2] at c2' hsn
        have HY16 := Lib.hid hy16
        have HY7 := Lib.hid hy7
        have hk16 : (j16 : Int) < (ws.length : Int) := by omega
        have hk15 : (j15 : Int) < (ws.length : Int) := by omega
        have hk7 : (j7 : Int) < (ws.length : Int) := by omega
        have hk2 : (j2 : Int) < (ws.length : Int) := by omega
        have hBw : B ≤ wr.drew.heap.size := Nat.le_trans hBl hbw.size
        have hlw : ws.length ≤ 1000000 := by have := HWL.out; omega
        have hod := Lib.hid (World.ownsRow.drew how)
        have hdd := Lib.hid (show wr.drew.cell? ⟨gw, j16, none⟩ = some (wv y16) ∧ wr.drew.cell? ⟨gw, j7, none⟩ = some (wv y7) from ⟨c16, c7⟩)
        have HBW := Lib.hid hbw
        have HL := Lib.hid (And.intro hl16 hl7)
        have HLW := Lib.hid hlw
        have HBw := Lib.hid hBw
        have hV := Lib.hid (And.intro hv16 (And.intro hv7 (And.intro hk16 hk7)))
        have hws0 := Lib.hid (show 0 < ws.length from by omega)
        clear hwl hy16 hy7 hy15 hy2 hg16 hc how hbw hBl e16 e15 e7 e2 c16 c7 hl16 hl7 hlw hBw hv16 hv7 hk16 hk7
        go_upto_region 23 with (fail)
        obtain ⟨hv16, hv7, hk16, hk7⟩ := hV.out
        obtain ⟨dd16, dd7⟩ := hdd.out
        clear c15 c2' hv15 hv2 hk15 hk2
        have R7 := turn7
        have R18 := turn18
        have R17 := turn17
        have R19 := turn19
        have q1 := add_wn
        have q2 := xor_wn
        have q3 := shr3_wn
        have q4 := shr10_wn
        refine wp_region_seq (S := (fun W => Below B wr.drew W ∧ W.cell? ⟨gw, j16, none⟩ = some (wv y16) ∧ W.cell? ⟨gw, j7, none⟩ = some (wv y7))) [(0, true), (1, true), (2, true), (3, true), (4, true), (5, true), (6, true), (7, true), (8, true), (9, true), (10, true), (11, true), (12, true), (14, true), (17, true), (18, true), (21, true), (23, true), (26, true), (27, true), (13, false), (15, false), (16, true), (19, true), (20, true), (22, false), (24, false), (25, true), (28, true), (29, true), (30, false), (31, false), (32, true)] (by kernel_rfl) (by kernel_rfl) (fun c a d v w h => HQ.out c a d v w h) ?_ (fun hHeld => ?_)
        · exact ⟨Below.refl _ _, dd16, dd7⟩
        refine gen0 (T := fun W => ((fun W => Below B wr.drew W ∧ W.cell? ⟨gw, j16, none⟩ = some (wv y16) ∧ W.cell? ⟨gw, j7, none⟩ = some (wv y7))) W ∧ OwnW W B (some ⟨gw, 0, none⟩) wc ws ∧ True) ?_ (fun wq1 hT => ?_)
        · exact ⟨by (first | with_reducible exact ⟨Below.refl _ _, dd16, dd7⟩ | with_reducible exact hHeld | exact ⟨hHeld.1.trans hb99, by rw [← HY16.out]; exact hk9 j16 HL.out.1, by rw [← HY7.out]; exact hk9 j7 HL.out.2⟩ | exact ⟨hHeld.1.alloc (Nat.le_trans HBw.out hHeld.1.size) _, cell_allocW hHeld.2.1 _, cell_allocW hHeld.2.2 _⟩), by (first | with_reducible assumption | exact hod.out | exact ho9 | exact World.ownsRow.alloc f0 _ | exact Sl.one), trivial⟩
        (try clear f0 f1 f2 f3 f4 f5 f6 f7 f8 f9 f10 f11)
        obtain ⟨hHeld, f0, -⟩ := hT
        refine seq_take (oi := ⟨some 122, _, _, _, _, _⟩) (v := ?_) rfl (Or.inl ⟨by kernel_rfl, ?_⟩) (by assumption) ?_
        rotate_left
        · (intro wS hSw; (try dsimp only at hSw); obtain ⟨-, c16, c7⟩ := hSw; refine execV (fun rho hk1 hk2 hk3 hk => ?_); have e12_ := (hk 12).trans (evalP (fg8 (fg1 (fg1 (fg1 (fg1 fg0)))))); clear hk; go_simp; (try with_reducible rfl))
        (first | (with_reducible refine wpSeq_put ?_; go_big_move) | (try simp only [Act.put, List.setIfInBounds_toArray, List.set_cons_zero, List.set_cons_succ]))
        refine seq_take (oi := ⟨some 123, _, _, _, _, _⟩) (v := ?_) rfl (Or.inl ⟨by kernel_rfl, ?_⟩) (by assumption) ?_
        rotate_left
        · (intro wS hSw; (try dsimp only at hSw); obtain ⟨-, c16, c7⟩ := hSw; refine execV (fun rho hk1 hk2 hk3 hk => ?_); have e12_ := (hk 12).trans (evalP (fg8 (fg1 (fg1 (fg1 (fg1 fg0)))))); clear hk; go_simp; (try with_reducible rfl))
        (first | (with_reducible refine wpSeq_put ?_; go_big_move) | (try simp only [Act.put, List.setIfInBounds_toArray, List.set_cons_zero, List.set_cons_succ]))
        refine seq_take (oi := ⟨some 124, _, _, _, _, _⟩) (v := ?_) rfl (Or.inl ⟨by kernel_rfl, ?_⟩) (by assumption) ?_
        rotate_left
        · (intro wS hSw; (try dsimp only at hSw); obtain ⟨-, c16, c7⟩ := hSw; refine execV (fun rho hk1 hk2 hk3 hk => ?_); have e13_ := (hk 13).trans (evalP (fg8 (fg1 (fg1 (fg1 (fg1 (fg1 fg0))))))); clear hk; go_simp; (try with_reducible rfl))
        (first | (with_reducible refine wpSeq_put ?_; go_big_move) | (try simp only [Act.put, List.setIfInBounds_toArray, List.set_cons_zero, List.set_cons_succ]))
        refine seq_take (oi := ⟨some 125, _, _, _, _, _⟩) (v := ?_) rfl (Or.inl ⟨by kernel_rfl, ?_⟩) (by assumption) ?_
        rotate_left
        · (intro wS hSw; (try dsimp only at hSw); obtain ⟨-, c16, c7⟩ := hSw; refine execV (fun rho hk1 hk2 hk3 hk => ?_); have e124_ := (hk 124).trans (evalP (fg64 (fg8 (fg8 (fg8 (fg8 (fg8 (fg8 (fg8 (fg1 (fg1 (fg1 (fg1 fg0))))))))))))); clear hk; go_simp; (try with_reducible rfl))
        (first | (with_reducible refine wpSeq_put ?_; go_big_move) | (try simp only [Act.put, List.setIfInBounds_toArray, List.set_cons_zero, List.set_cons_succ]))
        refine seq_take (oi := ⟨some 126, _, _, _, _, _⟩) (v := ?_) rfl (Or.inl ⟨by kernel_rfl, ?_⟩) (by assumption) ?_
        rotate_left
        · (intro wS hSw; (try dsimp only at hSw); obtain ⟨-, c16, c7⟩ := hSw; refine execV (fun rho hk1 hk2 hk3 hk => ?_); have e123_ := (hk 123).trans (evalP (fg64 (fg8 (fg8 (fg8 (fg8 (fg8 (fg8 (fg8 (fg1 (fg1 (fg1 fg0)))))))))))); have e125_ := (hk 125).trans (evalP (fg64 (fg8 (fg8 (fg8 (fg8 (fg8 (fg8 (fg8 (fg1 (fg1 (fg1 (fg1 (fg1 fg0)))))))))))))); clear hk; go_simp; (try with_reducible rfl))
        (first | (with_reducible refine wpSeq_put ?_; go_big_move) | (try simp only [Act.put, List.setIfInBounds_toArray, List.set_cons_zero, List.set_cons_succ]))
        refine seq_take (oi := ⟨some 127, _, _, _, _, _⟩) (v := ?_) rfl (Or.inl ⟨by kernel_rfl, ?_⟩) (by assumption) ?_
        rotate_left
        · (intro wS hSw; (try dsimp only at hSw); obtain ⟨-, c16, c7⟩ := hSw; refine execV (fun rho hk1 hk2 hk3 hk => ?_); have e126_ := (hk 126).trans (evalP (fg64 (fg8 (fg8 (fg8 (fg8 (fg8 (fg8 (fg8 (fg1 (fg1 (fg1 (fg1 (fg1 (fg1 fg0))))))))))))))); clear hk; go_simp; (try with_reducible rfl))
        (first | (with_reducible refine wpSeq_put ?_; go_big_move) | (try simp only [Act.put, List.setIfInBounds_toArray, List.set_cons_zero, List.set_cons_succ]))
        refine seq_take (oi := ⟨some 128, _, _, _, _, _⟩) (v := ?_) rfl (Or.inl ⟨by kernel_rfl, ?_⟩) (by assumption) ?_
        rotate_left
        · (intro wS hSw; (try dsimp only at hSw); obtain ⟨-, c16, c7⟩ := hSw; refine execV (fun rho hk1 hk2 hk3 hk => ?_); have e12_ := (hk 12).trans (evalP (fg8 (fg1 (fg1 (fg1 (fg1 fg0)))))); clear hk; go_simp; (try with_reducible rfl))
        (first | (with_reducible refine wpSeq_put ?_; go_big_move) | (try simp only [Act.put, List.setIfInBounds_toArray, List.set_cons_zero, List.set_cons_succ]))
        refine seq_take (oi := ⟨some 129, _, _, _, _, _⟩) (v := ?_) rfl (Or.inl ⟨by kernel_rfl, ?_⟩) (by assumption) ?_
        rotate_left
        · (intro wS hSw; (try dsimp only at hSw); obtain ⟨-, c16, c7⟩ := hSw; refine execV (fun rho hk1 hk2 hk3 hk => ?_); have e13_ := (hk 13).trans (evalP (fg8 (fg1 (fg1 (fg1 (fg1 (fg1 fg0))))))); clear hk; go_simp; (try with_reducible rfl))
        (first | (with_reducible refine wpSeq_put ?_; go_big_move) | (try simp only [Act.put, List.setIfInBounds_toArray, List.set_cons_zero, List.set_cons_succ]))
        refine seq_take (oi := ⟨some 130, _, _, _, _, _⟩) (v := ?_) rfl (Or.inl ⟨by kernel_rfl, ?_⟩) (by assumption) ?_
        rotate_left
        · (intro wS hSw; (try dsimp only at hSw); obtain ⟨-, c16, c7⟩ := hSw; refine execV (fun rho hk1 hk2 hk3 hk => ?_); have e129_ := (hk 129).trans (evalP (fg64 (fg64 (fg1 fg0)))); clear hk; go_simp; (try with_reducible rfl))
        (first | (with_reducible refine wpSeq_put ?_; go_big_move) | (try simp only [Act.put, List.setIfInBounds_toArray, List.set_cons_zero, List.set_cons_succ]))
        refine seq_take (oi := ⟨some 131, _, _, _, _, _⟩) (v := ?_) rfl (Or.inl ⟨by kernel_rfl, ?_⟩) (by assumption) ?_
        rotate_left
        · (intro wS hSw; (try dsimp only at hSw); obtain ⟨-, c16, c7⟩ := hSw; refine execV (fun rho hk1 hk2 hk3 hk => ?_); have e128_ := (hk 128).trans (evalP (fg64 (fg64 fg0))); have e130_ := (hk 130).trans (evalP (fg64 (fg64 (fg1 (fg1 fg0))))); clear hk; go_simp; (try with_reducible rfl))
        (first | (with_reducible refine wpSeq_put ?_; go_big_move) | (try simp only [Act.put, List.setIfInBounds_toArray, List.set_cons_zero, List.set_cons_succ]))
        refine seq_take (oi := ⟨some 132, _, _, _, _, _⟩) (v := ?_) rfl (Or.inl ⟨by kernel_rfl, ?_⟩) (by assumption) ?_
        rotate_left
        · (intro wS hSw; (try dsimp only at hSw); obtain ⟨-, c16, c7⟩ := hSw; refine execV (fun rho hk1 hk2 hk3 hk => ?_); have e131_ := (hk 131).trans (evalP (fg64 (fg64 (fg1 (fg1 (fg1 fg0)))))); clear hk; go_simp; (try with_reducible rfl))
        (first | (with_reducible refine wpSeq_put ?_; go_big_move) | (try simp only [Act.put, List.setIfInBounds_toArray, List.set_cons_zero, List.set_cons_succ]))
        refine seq_take (oi := ⟨some 133, _, _, _, _, _⟩) (v := ?_) rfl (Or.inl ⟨by kernel_rfl, ?_⟩) (by assumption) ?_
        rotate_left
        · (intro wS hSw; (try dsimp only at hSw); obtain ⟨-, c16, c7⟩ := hSw; refine execV (fun rho hk1 hk2 hk3 hk => ?_); have e127_ := (hk 127).trans (evalP (fg64 (fg8 (fg8 (fg8 (fg8 (fg8 (fg8 (fg8 (fg1 (fg1 (fg1 (fg1 (fg1 (fg1 (fg1 fg0)))))))))))))))); have e132_ := (hk 132).trans (evalP (fg64 (fg64 (fg1 (fg1 (fg1 (fg1 fg0))))))); clear hk; go_simp; (try with_reducible rfl))
        (first | (with_reducible refine wpSeq_put ?_; go_big_move) | (try simp only [Act.put, List.setIfInBounds_toArray, List.set_cons_zero, List.set_cons_succ]))
        refine seq_take (oi := ⟨some 134, _, _, _, _, _⟩) (v := ?_) rfl (Or.inl ⟨by kernel_rfl, ?_⟩) (by assumption) ?_
        rotate_left
        · (intro wS hSw; (try dsimp only at hSw); obtain ⟨-, c16, c7⟩ := hSw; refine execV (fun rho hk1 hk2 hk3 hk => ?_); have e15_ := (hk 15).trans (evalP (fg8 (fg1 (fg1 (fg1 (fg1 (fg1 (fg1 (fg1 fg0))))))))); clear hk; go_simp; (try with_reducible rfl))
        (first | (with_reducible refine wpSeq_put ?_; go_big_move) | (try simp only [Act.put, List.setIfInBounds_toArray, List.set_cons_zero, List.set_cons_succ]))
        refine seq_take (oi := ⟨some 136, _, _, _, _, _⟩) (v := ?_) rfl (Or.inl ⟨by kernel_rfl, ?_⟩) (by assumption) ?_
        rotate_left
        · (intro wS hSw; (try dsimp only at hSw); obtain ⟨-, c16, c7⟩ := hSw; refine execV (fun rho hk1 hk2 hk3 hk => ?_); have e15_ := (hk 15).trans (evalP (fg8 (fg1 (fg1 (fg1 (fg1 (fg1 (fg1 (fg1 fg0))))))))); clear hk; go_simp; (try with_reducible rfl))
        (first | (with_reducible refine wpSeq_put ?_; go_big_move) | (try simp only [Act.put, List.setIfInBounds_toArray, List.set_cons_zero, List.set_cons_succ]))
        refine seq_take (oi := ⟨some 139, _, _, _, _, _⟩) (v := ?_) rfl (Or.inl ⟨by kernel_rfl, ?_⟩) (by assumption) ?_
        rotate_left
        · (intro wS hSw; (try dsimp only at hSw); obtain ⟨-, c16, c7⟩ := hSw; refine execV (fun rho hk1 hk2 hk3 hk => ?_); have e15_ := (hk 15).trans (evalP (fg8 (fg1 (fg1 (fg1 (fg1 (fg1 (fg1 (fg1 fg0))))))))); clear hk; go_simp; (try with_reducible rfl))
        (first | (with_reducible refine wpSeq_put ?_; go_big_move) | (try simp only [Act.put, List.setIfInBounds_toArray, List.set_cons_zero, List.set_cons_succ]))
        refine seq_take (oi := ⟨some 140, _, _, _, _, _⟩) (v := ?_) rfl (Or.inl ⟨by kernel_rfl, ?_⟩) (by assumption) ?_
        rotate_left
        · (intro wS hSw; (try dsimp only at hSw); obtain ⟨-, c16, c7⟩ := hSw; refine execV (fun rho hk1 hk2 hk3 hk => ?_); have e139_ := (hk 139).trans (evalP (fg64 (fg64 (fg8 (fg1 (fg1 (fg1 fg0))))))); clear hk; go_simp; (try with_reducible rfl))
        (first | (with_reducible refine wpSeq_put ?_; go_big_move) | (try simp only [Act.put, List.setIfInBounds_toArray, List.set_cons_zero, List.set_cons_succ]))
        refine seq_take (oi := ⟨some 143, _, _, _, _, _⟩) (v := ?_) rfl (Or.inl ⟨by kernel_rfl, ?_⟩) (by assumption) ?_
        rotate_left
        · (intro wS hSw; (try dsimp only at hSw); obtain ⟨-, c16, c7⟩ := hSw; refine execV (fun rho hk1 hk2 hk3 hk => ?_); have e16_ := (hk 16).trans (evalP (fg8 (fg8 fg0))); clear hk; go_simp; (try with_reducible rfl))
        (first | (with_reducible refine wpSeq_put ?_; go_big_move) | (try simp only [Act.put, List.setIfInBounds_toArray, List.set_cons_zero, List.set_cons_succ]))
        refine seq_take (oi := ⟨some 145, _, _, _, _, _⟩) (v := ?_) rfl (Or.inl ⟨by kernel_rfl, ?_⟩) (by assumption) ?_
        rotate_left
        · (intro wS hSw; (try dsimp only at hSw); obtain ⟨-, c16, c7⟩ := hSw; refine execV (fun rho hk1 hk2 hk3 hk => ?_); have e16_ := (hk 16).trans (evalP (fg8 (fg8 fg0))); clear hk; go_simp; (try with_reducible rfl))
        (first | (with_reducible refine wpSeq_put ?_; go_big_move) | (try simp only [Act.put, List.setIfInBounds_toArray, List.set_cons_zero, List.set_cons_succ]))
        refine seq_take (oi := ⟨some 148, _, _, _, _, _⟩) (v := ?_) rfl (Or.inl ⟨by kernel_rfl, ?_⟩) (by assumption) ?_
        rotate_left
        · (intro wS hSw; (try dsimp only at hSw); obtain ⟨-, c16, c7⟩ := hSw; refine execV (fun rho hk1 hk2 hk3 hk => ?_); have e16_ := (hk 16).trans (evalP (fg8 (fg8 fg0))); clear hk; go_simp; (try with_reducible rfl))
        (first | (with_reducible refine wpSeq_put ?_; go_big_move) | (try simp only [Act.put, List.setIfInBounds_toArray, List.set_cons_zero, List.set_cons_succ]))
        refine seq_take (oi := ⟨some 149, _, _, _, _, _⟩) (v := ?_) rfl (Or.inl ⟨by kernel_rfl, ?_⟩) (by assumption) ?_
        rotate_left
        · (intro wS hSw; (try dsimp only at hSw); obtain ⟨-, c16, c7⟩ := hSw; refine execV (fun rho hk1 hk2 hk3 hk => ?_); have e148_ := (hk 148).trans (evalP (fg64 (fg64 (fg8 (fg8 (fg1 (fg1 (fg1 (fg1 fg0))))))))); clear hk; go_simp; (try with_reducible rfl))
        (first | (with_reducible refine wpSeq_put ?_; go_big_move) | (try simp only [Act.put, List.setIfInBounds_toArray, List.set_cons_zero, List.set_cons_succ]))
        refine seq_step (o := ⟨some 135, _, _, _, _, _⟩) rfl (fun K hK => ?_)
        with_reducible refine wantedP (by kernel_rfl) ?_
        (first | go_big_op | go_simp)
        ((first | with_reducible refine (R7.out _ _).mono ?_ | with_reducible refine (R18.out _ _).mono ?_ | with_reducible refine (R17.out _ _).mono ?_ | with_reducible refine (R19.out _ _).mono ?_); rintro e w8 ⟨rfl, rfl⟩)
        go_wp2_with fail
        refine hK.out _ _ ?_ (fun _ => ?_)
        · ((try dsimp only); (first | with_reducible exact ⟨Below.refl _ _, dd16, dd7⟩ | with_reducible exact hHeld | exact ⟨hHeld.1.trans hb99, by rw [← HY16.out]; exact hk9 j16 HL.out.1, by rw [← HY7.out]; exact hk9 j7 HL.out.2⟩ | exact ⟨hHeld.1.alloc (Nat.le_trans HBw.out hHeld.1.size) _, cell_allocW hHeld.2.1 _, cell_allocW hHeld.2.2 _⟩))
        clear hK K
        (first | (with_reducible refine wpSeq_put ?_; go_big_move) | (try simp only [Act.put, List.setIfInBounds_toArray, List.set_cons_zero, List.set_cons_succ]))
        refine gen0 (T := fun W => ((fun W => Below B wr.drew W ∧ W.cell? ⟨gw, j16, none⟩ = some (wv y16) ∧ W.cell? ⟨gw, j7, none⟩ = some (wv y7))) W ∧ OwnW W B (some ⟨gw, 0, none⟩) wc ws ∧ True) ?_ (fun wq2 hT => ?_)
        · exact ⟨by (first | with_reducible exact ⟨Below.refl _ _, dd16, dd7⟩ | with_reducible exact hHeld | exact ⟨hHeld.1.trans hb99, by rw [← HY16.out]; exact hk9 j16 HL.out.1, by rw [← HY7.out]; exact hk9 j7 HL.out.2⟩ | exact ⟨hHeld.1.alloc (Nat.le_trans HBw.out hHeld.1.size) _, cell_allocW hHeld.2.1 _, cell_allocW hHeld.2.2 _⟩), by (first | with_reducible assumption | exact hod.out | exact ho9 | exact World.ownsRow.alloc f0 _ | exact Sl.one), trivial⟩
        (try clear f0 f1 f2 f3 f4 f5 f6 f7 f8 f9 f10 f11)
        obtain ⟨hHeld, f0, -⟩ := hT
        refine seq_step (o := ⟨some 137, _, _, _, _, _⟩) rfl (fun K hK => ?_)
        with_reducible refine wantedP (by kernel_rfl) ?_
        (first | go_big_op | go_simp)
        ((first | with_reducible refine (R7.out _ _).mono ?_ | with_reducible refine (R18.out _ _).mono ?_ | with_reducible refine (R17.out _ _).mono ?_ | with_reducible refine (R19.out _ _).mono ?_); rintro e w8 ⟨rfl, rfl⟩)
        go_wp2_with fail
        refine hK.out _ _ ?_ (fun _ => ?_)
        · ((try dsimp only); (first | with_reducible exact ⟨Below.refl _ _, dd16, dd7⟩ | with_reducible exact hHeld | exact ⟨hHeld.1.trans hb99, by rw [← HY16.out]; exact hk9 j16 HL.out.1, by rw [← HY7.out]; exact hk9 j7 HL.out.2⟩ | exact ⟨hHeld.1.alloc (Nat.le_trans HBw.out hHeld.1.size) _, cell_allocW hHeld.2.1 _, cell_allocW hHeld.2.2 _⟩))
        clear hK K
        (first | (with_reducible refine wpSeq_put ?_; go_big_move) | (try simp only [Act.put, List.setIfInBounds_toArray, List.set_cons_zero, List.set_cons_succ]))
        refine gen0 (T := fun W => ((fun W => Below B wr.drew W ∧ W.cell? ⟨gw, j16, none⟩ = some (wv y16) ∧ W.cell? ⟨gw, j7, none⟩ = some (wv y7))) W ∧ OwnW W B (some ⟨gw, 0, none⟩) wc ws ∧ True) ?_ (fun wq3 hT => ?_)
        · exact ⟨by (first | with_reducible exact ⟨Below.refl _ _, dd16, dd7⟩ | with_reducible exact hHeld | exact ⟨hHeld.1.trans hb99, by rw [← HY16.out]; exact hk9 j16 HL.out.1, by rw [← HY7.out]; exact hk9 j7 HL.out.2⟩ | exact ⟨hHeld.1.alloc (Nat.le_trans HBw.out hHeld.1.size) _, cell_allocW hHeld.2.1 _, cell_allocW hHeld.2.2 _⟩), by (first | with_reducible assumption | exact hod.out | exact ho9 | exact World.ownsRow.alloc f0 _ | exact Sl.one), trivial⟩
        (try clear f0 f1 f2 f3 f4 f5 f6 f7 f8 f9 f10 f11)
        obtain ⟨hHeld, f0, -⟩ := hT
        refine seq_take (oi := ⟨some 138, _, _, _, _, _⟩) (v := ?_) rfl (Or.inl ⟨by kernel_rfl, ?_⟩) (by assumption) ?_
        rotate_left
        · (intro wS hSw; (try dsimp only at hSw); obtain ⟨-, c16, c7⟩ := hSw; refine execV (fun rho hk1 hk2 hk3 hk => ?_); have e135_ := (hk 135).trans (evalP (fg64 (fg64 (fg1 (fg1 (fg1 (fg1 (fg1 (fg1 (fg1 fg0)))))))))); have e137_ := (hk 137).trans (evalP (fg64 (fg64 (fg8 (fg1 fg0))))); clear hk; go_simp; (try with_reducible rfl))
        (first | (with_reducible refine wpSeq_put ?_; go_big_move) | (try simp only [Act.put, List.setIfInBounds_toArray, List.set_cons_zero, List.set_cons_succ]))
        refine seq_take (oi := ⟨some 141, _, _, _, _, _⟩) (v := ?_) rfl (Or.inl ⟨by kernel_rfl, ?_⟩) (by assumption) ?_
        rotate_left
        · (intro wS hSw; (try dsimp only at hSw); obtain ⟨-, c16, c7⟩ := hSw; refine execV (fun rho hk1 hk2 hk3 hk => ?_); have e138_ := (hk 138).trans (evalP (fg64 (fg64 (fg8 (fg1 (fg1 fg0)))))); have e140_ := (hk 140).trans (evalP (fg64 (fg64 (fg8 (fg1 (fg1 (fg1 (fg1 fg0)))))))); clear hk; go_simp; (try with_reducible rfl))
        (first | (with_reducible refine wpSeq_put ?_; go_big_move) | (try simp only [Act.put, List.setIfInBounds_toArray, List.set_cons_zero, List.set_cons_succ]))
        refine seq_take (oi := ⟨some 142, _, _, _, _, _⟩) (v := ?_) rfl (Or.inl ⟨by kernel_rfl, ?_⟩) (by assumption) ?_
        rotate_left
        · (intro wS hSw; (try dsimp only at hSw); obtain ⟨-, c16, c7⟩ := hSw; refine execV (fun rho hk1 hk2 hk3 hk => ?_); have e133_ := (hk 133).trans (evalP (fg64 (fg64 (fg1 (fg1 (fg1 (fg1 (fg1 fg0)))))))); have e141_ := (hk 141).trans (evalP (fg64 (fg64 (fg8 (fg1 (fg1 (fg1 (fg1 (fg1 fg0))))))))); clear hk; go_simp; (try with_reducible rfl))
        (first | (with_reducible refine wpSeq_put ?_; go_big_move) | (try simp only [Act.put, List.setIfInBounds_toArray, List.set_cons_zero, List.set_cons_succ]))
        refine seq_step (o := ⟨some 144, _, _, _, _, _⟩) rfl (fun K hK => ?_)
        with_reducible refine wantedP (by kernel_rfl) ?_
        (first | go_big_op | go_simp)
        ((first | with_reducible refine (R7.out _ _).mono ?_ | with_reducible refine (R18.out _ _).mono ?_ | with_reducible refine (R17.out _ _).mono ?_ | with_reducible refine (R19.out _ _).mono ?_); rintro e w8 ⟨rfl, rfl⟩)
        go_wp2_with fail
        refine hK.out _ _ ?_ (fun _ => ?_)
        · ((try dsimp only); (first | with_reducible exact ⟨Below.refl _ _, dd16, dd7⟩ | with_reducible exact hHeld | exact ⟨hHeld.1.trans hb99, by rw [← HY16.out]; exact hk9 j16 HL.out.1, by rw [← HY7.out]; exact hk9 j7 HL.out.2⟩ | exact ⟨hHeld.1.alloc (Nat.le_trans HBw.out hHeld.1.size) _, cell_allocW hHeld.2.1 _, cell_allocW hHeld.2.2 _⟩))
        clear hK K
        (first | (with_reducible refine wpSeq_put ?_; go_big_move) | (try simp only [Act.put, List.setIfInBounds_toArray, List.set_cons_zero, List.set_cons_succ]))
        refine gen0 (T := fun W => ((fun W => Below B wr.drew W ∧ W.cell? ⟨gw, j16, none⟩ = some (wv y16) ∧ W.cell? ⟨gw, j7, none⟩ = some (wv y7))) W ∧ OwnW W B (some ⟨gw, 0, none⟩) wc ws ∧ True) ?_ (fun wq4 hT => ?_)
        · exact ⟨by (first | with_reducible exact ⟨Below.refl _ _, dd16, dd7⟩ | with_reducible exact hHeld | exact ⟨hHeld.1.trans hb99, by rw [← HY16.out]; exact hk9 j16 HL.out.1, by rw [← HY7.out]; exact hk9 j7 HL.out.2⟩ | exact ⟨hHeld.1.alloc (Nat.le_trans HBw.out hHeld.1.size) _, cell_allocW hHeld.2.1 _, cell_allocW hHeld.2.2 _⟩), by (first | with_reducible assumption | exact hod.out | exact ho9 | exact World.ownsRow.alloc f0 _ | exact Sl.one), trivial⟩
        (try clear f0 f1 f2 f3 f4 f5 f6 f7 f8 f9 f10 f11)
        obtain ⟨hHeld, f0, -⟩ := hT
        refine seq_step (o := ⟨some 146, _, _, _, _, _⟩) rfl (fun K hK => ?_)
        with_reducible refine wantedP (by kernel_rfl) ?_
        (first | go_big_op | go_simp)
        ((first | with_reducible refine (R7.out _ _).mono ?_ | with_reducible refine (R18.out _ _).mono ?_ | with_reducible refine (R17.out _ _).mono ?_ | with_reducible refine (R19.out _ _).mono ?_); rintro e w8 ⟨rfl, rfl⟩)
        go_wp2_with fail
        refine hK.out _ _ ?_ (fun _ => ?_)
        · ((try dsimp only); (first | with_reducible exact ⟨Below.refl _ _, dd16, dd7⟩ | with_reducible exact hHeld | exact ⟨hHeld.1.trans hb99, by rw [← HY16.out]; exact hk9 j16 HL.out.1, by rw [← HY7.out]; exact hk9 j7 HL.out.2⟩ | exact ⟨hHeld.1.alloc (Nat.le_trans HBw.out hHeld.1.size) _, cell_allocW hHeld.2.1 _, cell_allocW hHeld.2.2 _⟩))
        clear hK K
        (first | (with_reducible refine wpSeq_put ?_; go_big_move) | (try simp only [Act.put, List.setIfInBounds_toArray, List.set_cons_zero, List.set_cons_succ]))
        refine gen0 (T := fun W => ((fun W => Below B wr.drew W ∧ W.cell? ⟨gw, j16, none⟩ = some (wv y16) ∧ W.cell? ⟨gw, j7, none⟩ = some (wv y7))) W ∧ OwnW W B (some ⟨gw, 0, none⟩) wc ws ∧ True) ?_ (fun wq5 hT => ?_)
        · exact ⟨by (first | with_reducible exact ⟨Below.refl _ _, dd16, dd7⟩ | with_reducible exact hHeld | exact ⟨hHeld.1.trans hb99, by rw [← HY16.out]; exact hk9 j16 HL.out.1, by rw [← HY7.out]; exact hk9 j7 HL.out.2⟩ | exact ⟨hHeld.1.alloc (Nat.le_trans HBw.out hHeld.1.size) _, cell_allocW hHeld.2.1 _, cell_allocW hHeld.2.2 _⟩), by (first | with_reducible assumption | exact hod.out | exact ho9 | exact World.ownsRow.alloc f0 _ | exact Sl.one), trivial⟩
        (try clear f0 f1 f2 f3 f4 f5 f6 f7 f8 f9 f10 f11)
        obtain ⟨hHeld, f0, -⟩ := hT
        refine seq_take (oi := ⟨some 147, _, _, _, _, _⟩) (v := ?_) rfl (Or.inl ⟨by kernel_rfl, ?_⟩) (by assumption) ?_
        rotate_left
        · (intro wS hSw; (try dsimp only at hSw); obtain ⟨-, c16, c7⟩ := hSw; refine execV (fun rho hk1 hk2 hk3 hk => ?_); have e144_ := (hk 144).trans (evalP (fg64 (fg64 (fg8 (fg8 fg0))))); have e146_ := (hk 146).trans (evalP (fg64 (fg64 (fg8 (fg8 (fg1 (fg1 fg0))))))); clear hk; go_simp; (try with_reducible rfl))
        (first | (with_reducible refine wpSeq_put ?_; go_big_move) | (try simp only [Act.put, List.setIfInBounds_toArray, List.set_cons_zero, List.set_cons_succ]))
        refine seq_take (oi := ⟨some 150, _, _, _, _, _⟩) (v := ?_) rfl (Or.inl ⟨by kernel_rfl, ?_⟩) (by assumption) ?_
        rotate_left
        · (intro wS hSw; (try dsimp only at hSw); obtain ⟨-, c16, c7⟩ := hSw; refine execV (fun rho hk1 hk2 hk3 hk => ?_); have e147_ := (hk 147).trans (evalP (fg64 (fg64 (fg8 (fg8 (fg1 (fg1 (fg1 fg0)))))))); have e149_ := (hk 149).trans (evalP (fg64 (fg64 (fg8 (fg8 (fg1 (fg1 (fg1 (fg1 (fg1 fg0)))))))))); clear hk; go_simp; (try with_reducible rfl))
        (first | (with_reducible refine wpSeq_put ?_; go_big_move) | (try simp only [Act.put, List.setIfInBounds_toArray, List.set_cons_zero, List.set_cons_succ]))
        refine seq_take (oi := ⟨some 151, _, _, _, _, _⟩) (v := ?_) rfl (Or.inl ⟨by kernel_rfl, ?_⟩) (by assumption) ?_
        rotate_left
        · (intro wS hSw; (try dsimp only at hSw); obtain ⟨-, c16, c7⟩ := hSw; refine execV (fun rho hk1 hk2 hk3 hk => ?_); have e142_ := (hk 142).trans (evalP (fg64 (fg64 (fg8 (fg1 (fg1 (fg1 (fg1 (fg1 (fg1 fg0)))))))))); have e150_ := (hk 150).trans (evalP (fg64 (fg64 (fg8 (fg8 (fg1 (fg1 (fg1 (fg1 (fg1 (fg1 fg0))))))))))); clear hk; go_simp; (try with_reducible rfl))
        (first | (with_reducible refine wpSeq_put ?_; go_big_move) | (try simp only [Act.put, List.setIfInBounds_toArray, List.set_cons_zero, List.set_cons_succ]))
        refine seq_step (o := ⟨some 152, _, _, _, _, _⟩) rfl (fun K hK => ?_)
        with_reducible refine wantedP (by kernel_rfl) ?_
        (first | go_big_op | go_simp)
        refine hK.out _ _ ?_ (fun _ => ?_)
        · ((try dsimp only); (first | with_reducible exact ⟨Below.refl _ _, dd16, dd7⟩ | with_reducible exact hHeld | exact ⟨hHeld.1.trans hb99, by rw [← HY16.out]; exact hk9 j16 HL.out.1, by rw [← HY7.out]; exact hk9 j7 HL.out.2⟩ | exact ⟨hHeld.1.alloc (Nat.le_trans HBw.out hHeld.1.size) _, cell_allocW hHeld.2.1 _, cell_allocW hHeld.2.2 _⟩))
        clear hK K
        (first | (with_reducible refine wpSeq_put ?_; go_big_move) | (try simp only [Act.put, List.setIfInBounds_toArray, List.set_cons_zero, List.set_cons_succ]))
        refine gen0 (T := fun W => ((fun W => Below B wr.drew W ∧ W.cell? ⟨gw, j16, none⟩ = some (wv y16) ∧ W.cell? ⟨gw, j7, none⟩ = some (wv y7))) W ∧ OwnW W B (some ⟨gw, 0, none⟩) wc ws ∧ SlW W (some ⟨wq5.heap.size, 0, none⟩) 1 [y16 + y7 + (tr y15 7 ^^^ tr y15 18 ^^^ y15 >>> 3) + (tr y2 17 ^^^ tr y2 19 ^^^ y2 >>> 10)] ∧ True) ?_ (fun wq6 hT => ?_)
        · exact ⟨by (first | with_reducible exact ⟨Below.refl _ _, dd16, dd7⟩ | with_reducible exact hHeld | exact ⟨hHeld.1.trans hb99, by rw [← HY16.out]; exact hk9 j16 HL.out.1, by rw [← HY7.out]; exact hk9 j7 HL.out.2⟩ | exact ⟨hHeld.1.alloc (Nat.le_trans HBw.out hHeld.1.size) _, cell_allocW hHeld.2.1 _, cell_allocW hHeld.2.2 _⟩), by (first | with_reducible assumption | exact hod.out | exact ho9 | exact World.ownsRow.alloc f0 _ | exact Sl.one), by (first | with_reducible assumption | exact hod.out | exact ho9 | exact World.ownsRow.alloc f0 _ | exact Sl.one), trivial⟩
        (try clear f0 f1 f2 f3 f4 f5 f6 f7 f8 f9 f10 f11)
        obtain ⟨hHeld, f0, f1, -⟩ := hT
        refine seq_step (o := ⟨some 153, _, _, _, _, _⟩) rfl (fun K hK => ?_)
        (refine step_wordK (by kernel_rfl) (.tmp 122) (.tmp 152) rfl B gw wc ws rfl f0 hws0.out _ 1 (y16 + y7 + (tr y15 7 ^^^ tr y15 18 ^^^ y15 >>> 3) + (tr y2 17 ^^^ tr y2 19 ^^^ y2 >>> 10)) rfl f1 HLW.out (Nat.le_trans HBw.out hHeld.1.size) ?_; intro A9 c9 m9 w9 hm9 ho9 hb99 hk9)
        refine hK.out _ _ ?_ (fun _ => ?_)
        · ((try dsimp only); (first | with_reducible exact ⟨Below.refl _ _, dd16, dd7⟩ | with_reducible exact hHeld | exact ⟨hHeld.1.trans hb99, by rw [← HY16.out]; exact hk9 j16 HL.out.1, by rw [← HY7.out]; exact hk9 j7 HL.out.2⟩ | exact ⟨hHeld.1.alloc (Nat.le_trans HBw.out hHeld.1.size) _, cell_allocW hHeld.2.1 _, cell_allocW hHeld.2.2 _⟩))
        clear hK K
        (first | (with_reducible refine wpSeq_put ?_; go_big_move) | (try simp only [Act.put, List.setIfInBounds_toArray, List.set_cons_zero, List.set_cons_succ]))
        refine gen0 (T := fun W => ((fun W => Below B wr.drew W ∧ W.cell? ⟨gw, j16, none⟩ = some (wv y16) ∧ W.cell? ⟨gw, j7, none⟩ = some (wv y7))) W ∧ OwnW W B A9 c9 m9 ∧ True) ?_ (fun wq7 hT => ?_)
        · exact ⟨by (first | with_reducible exact ⟨Below.refl _ _, dd16, dd7⟩ | with_reducible exact hHeld | exact ⟨hHeld.1.trans hb99, by rw [← HY16.out]; exact hk9 j16 HL.out.1, by rw [← HY7.out]; exact hk9 j7 HL.out.2⟩ | exact ⟨hHeld.1.alloc (Nat.le_trans HBw.out hHeld.1.size) _, cell_allocW hHeld.2.1 _, cell_allocW hHeld.2.2 _⟩), by (first | with_reducible assumption | exact hod.out | exact ho9 | exact World.ownsRow.alloc f0 _ | exact Sl.one), trivial⟩
        (try clear f0 f1 f2 f3 f4 f5 f6 f7 f8 f9 f10 f11)
        obtain ⟨hHeld, f0, -⟩ := hT
        refine seq_take (oi := ⟨some 12, _, _, _, _, _⟩) (v := ?_) rfl (Or.inl ⟨by kernel_rfl, ?_⟩) (by assumption) ?_
        rotate_left
        · (intro wS hSw; (try dsimp only at hSw); obtain ⟨-, c16, c7⟩ := hSw; refine execV (fun rho hk1 hk2 hk3 hk => ?_); have e153_ := (hk 153).trans (evalP (fg64 (fg64 (fg8 (fg8 (fg8 (fg1 fg0))))))); clear hk; go_simp; (try with_reducible rfl))
        (first | (with_reducible refine wpSeq_put ?_; go_big_move) | (try simp only [Act.put, List.setIfInBounds_toArray, List.set_cons_zero, List.set_cons_succ]))
        refine seq_done ?_
        have hl9 : m9.length = n + 1 := by rw [hm9.out, List.length_append, HWL.out]; rfl
        have hs9 : Hid (m9 = sch bk (n + 1)) := (show _ = _ from by rw [hm9.out, hsn.out]; rfl)
        have hb10 := Lib.hid ((HBW.out.drew).trans hHeld.1)
        clear q1 q2 q3 q4 R7 R18 R17 R19 hv16 hv7 hHeld dd16 dd7 hod hk16 hk7
        go_wp2_with fail
        go_roundw
        case rel => exact ⟨n + 1, A9, c9, m9, hn64, by go_num, rfl, hl9, hs9, f0, hb10.out⟩
        case measure => simp [intOf]; omega
    · obtain rfl : n = 64 := by omega
      have HBW := Lib.hid hbw
      obtain ⟨gw, rfl, -, -⟩ := OwnW.form how (by omega)
      have hsw := Lib.hid (show SlW wr (some ⟨gw, 0, none⟩) wc ws from Own.sl how)
      clear hbw how
      rw [hwl, show ((64 : Nat) : Int) = 64 from rfl]
      go_wp2_with fail
      exact HX.out gw wc ws _ hws hsw.out HBW.out
end Go.Proofs.YtabnndjdkjkciaaGreatDoor
