/- WHAT IT HOLDS: the document's digest: a block's 64 rounds, walked. -/
import Derived.Test.YtabnndjdkjkciaaGreatDoorManifestPartsG21
namespace Go.Proofs.YtabnndjdkjkciaaGreatDoor
open Go.RowKit
attribute [local go_sem ↓] Go.wp_at_zero Go.wp_at_succ

noncomputable def sumBlk8 : Code := ((Tryz.f66.body.bind (pickB 8)).getD .skip)
set_option maxRecDepth 1000000 in
set_option maxHeartbeats 4000000 in
theorem sumBlk8_any {c0_ c2_ c3_ c4_ c5_ c6_ c7_ c8_ c9_ c10_ c11_ c13_ c14_ c15_ c16_ c26_ c27_ c28_ c29_ c30_ c31_ c32_ c33_ c34_ c35_ c36_ c37_ c38_ c39_ c40_ c41_ c42_ c43_ c44_ c45_ c46_ c47_ c48_ c49_ c50_ c51_ c52_ c53_ c54_ c55_ c56_ c57_ c58_ c59_ c60_ c61_ c62_ c63_ c64_ c65_ c66_ c67_ c68_ c69_ c70_ c71_ c72_ c73_ c74_ c75_ c76_ c77_ c78_ c79_ c80_ c81_ c82_ c83_ c84_ c85_ c86_ c87_ c88_ c89_ c90_ c91_ c92_ c93_ c94_ c95_ c96_ c97_ c98_ c99_ c100_ c101_ c102_ c103_ c104_ c105_ c106_ c107_ c108_ c109_ c110_ c111_ c112_ c113_ c114_ c115_ c116_ c117_ c118_ c119_ c120_ c121_ c122_ c123_ c124_ c125_ c126_ c127_ c128_ c129_ c130_ c131_ c132_ c133_ c134_ c135_ c136_ c137_ c138_ c139_ c140_ c141_ c142_ c143_ c144_ c145_ c146_ c147_ c148_ c149_ c150_ c151_ c152_ c153_ c154_ c155_ c156_ c157_ c158_ c159_ c160_ c161_ c162_ c163_ c164_ c165_ c166_ c167_ c168_ c169_ c170_ c171_ c172_ c173_ c174_ c175_ c176_ c177_ c178_ c179_ c180_ c181_ c182_ c183_ c184_ c185_ c186_ c187_ c188_ c189_ c190_ c191_ c192_ c193_ c194_ c195_ c196_ c197_ c198_ c199_ c200_ c201_ c202_ c203_ c204_ c205_ c206_ c207_ c208_ c209_ c210_ c211_ c212_ c213_ c214_ c215_ c216_ c217_ c218_ c219_ c220_ c221_ c222_ c223_ c224_ c225_ c226_ c227_ c228_ c229_ c230_ c231_ c232_ c233_ c234_ c235_ c236_ c237_ c238_ c239_ c240_ c241_ c242_ c243_ c244_ c245_ c246_ c247_ c248_ c249_ c250_ c251_ c252_ c253_ c254_ c255_ c256_ c257_ c258_ c259_ c260_ c261_ c262_ c263_ c264_ c265_ c266_ c267_ c268_ c269_ c270_ c271_ c272_ c273_ c274_ c275_ c276_ c277_ c278_ c279_ c280_ c281_ c282_ c283_ c284_ c285_ c286_ c287_ c288_ c289_ c290_ c291_ c292_ c293_ c294_ c295_ c296_ c297_ c298_ c299_ c300_ c301_ c302_ c303_ : Value} {C : Option Addr} {cc gw wc : Nat} (ks ws : List W32) (st : S8) (w : World) (hC : SlW w C cc ks) (hW : SlW w (some ⟨gw, 0, none⟩) wc ws) (hks : Hid (ks = shaK)) (hwl : ws.length = 64) (Q0 : Exit → Act → World → Prop) (HQ : Hid (∀ c a d v w, Q0 (.panic c) (a.put (some d) v) w → Q0 (.panic c) a w))
    (HX : Hid (∀ {u26_ u27_ u178_ u179_ u180_ u181_ u182_ u183_ u184_ u185_ u186_ u187_ u188_ u189_ u190_ u191_ u192_ u193_ u194_ u195_ u196_ u197_ u198_ u199_ u200_ u201_ u202_ u203_ u204_ u205_ u206_ u207_ u208_ u209_ u210_ u211_ u212_ u213_ u214_ u215_ u216_ u217_ u218_ u219_ u220_ u221_ u222_ u223_ u224_ u225_ u226_ u227_ u228_ u229_ u230_ u231_ u232_ u233_ u234_ u235_ u236_ u237_ u238_ u239_ u240_ u241_ u242_ : Value} (r : S8) (W : World), Hid (r = rnds ws st 64) → Below w.heap.size w W → Q0 .normal ⟨#[c0_, .slice C 64 cc, c2_, c3_, c4_, c5_, c6_, c7_, c8_, c9_, c10_, c11_, .slice (some ⟨gw, 0, none⟩) 64 wc, c13_, c14_, c15_, c16_, wv r.a, wv r.b, wv r.c, wv r.d, wv r.e, wv r.f, wv r.g, wv r.h, .int .i64 64, u26_, u27_, c28_, c29_, c30_, c31_, c32_, c33_, c34_, c35_, c36_, c37_, c38_, c39_, c40_, c41_, c42_, c43_, c44_, c45_, c46_, c47_, c48_, c49_, c50_, c51_, c52_, c53_, c54_, c55_, c56_, c57_, c58_, c59_, c60_, c61_, c62_, c63_, c64_, c65_, c66_, c67_, c68_, c69_, c70_, c71_, c72_, c73_, c74_, c75_, c76_, c77_, c78_, c79_, c80_, c81_, c82_, c83_, c84_, c85_, c86_, c87_, c88_, c89_, c90_, c91_, c92_, c93_, c94_, c95_, c96_, c97_, c98_, c99_, c100_, c101_, c102_, c103_, c104_, c105_, c106_, c107_, c108_, c109_, c110_, c111_, c112_, c113_, c114_, c115_, c116_, c117_, c118_, c119_, c120_, c121_, c122_, c123_, c124_, c125_, c126_, c127_, c128_, c129_, c130_, c131_, c132_, c133_, c134_, c135_, c136_, c137_, c138_, c139_, c140_, c141_, c142_, c143_, c144_, c145_, c146_, c147_, c148_, c149_, c150_, c151_, c152_, c153_, c154_, c155_, c156_, c157_, c158_, c159_, c160_, c161_, c162_, c163_, c164_, c165_, c166_, c167_, c168_, c169_, c170_, c171_, c172_, c173_, c174_, c175_, c176_, c177_, u178_, u179_, u180_, u181_, u182_, u183_, u184_, u185_, u186_, u187_, u188_, u189_, u190_, u191_, u192_, u193_, u194_, u195_, u196_, u197_, u198_, u199_, u200_, u201_, u202_, u203_, u204_, u205_, u206_, u207_, u208_, u209_, u210_, u211_, u212_, u213_, u214_, u215_, u216_, u217_, u218_, u219_, u220_, u221_, u222_, u223_, u224_, u225_, u226_, u227_, u228_, u229_, u230_, u231_, u232_, u233_, u234_, u235_, u236_, u237_, u238_, u239_, u240_, u241_, u242_, c243_, c244_, c245_, c246_, c247_, c248_, c249_, c250_, c251_, c252_, c253_, c254_, c255_, c256_, c257_, c258_, c259_, c260_, c261_, c262_, c263_, c264_, c265_, c266_, c267_, c268_, c269_, c270_, c271_, c272_, c273_, c274_, c275_, c276_, c277_, c278_, c279_, c280_, c281_, c282_, c283_, c284_, c285_, c286_, c287_, c288_, c289_, c290_, c291_, c292_, c293_, c294_, c295_, c296_, c297_, c298_, c299_, c300_, c301_, c302_, c303_], []⟩ W)) :
    Code.wp Tryz.prog sumBlk8 Q0 ⟨#[c0_, .slice C 64 cc, c2_, c3_, c4_, c5_, c6_, c7_, c8_, c9_, c10_, c11_, .slice (some ⟨gw, 0, none⟩) 64 wc, c13_, c14_, c15_, c16_, wv st.a, wv st.b, wv st.c, wv st.d, wv st.e, wv st.f, wv st.g, wv st.h, .int .i64 0, c26_, c27_, c28_, c29_, c30_, c31_, c32_, c33_, c34_, c35_, c36_, c37_, c38_, c39_, c40_, c41_, c42_, c43_, c44_, c45_, c46_, c47_, c48_, c49_, c50_, c51_, c52_, c53_, c54_, c55_, c56_, c57_, c58_, c59_, c60_, c61_, c62_, c63_, c64_, c65_, c66_, c67_, c68_, c69_, c70_, c71_, c72_, c73_, c74_, c75_, c76_, c77_, c78_, c79_, c80_, c81_, c82_, c83_, c84_, c85_, c86_, c87_, c88_, c89_, c90_, c91_, c92_, c93_, c94_, c95_, c96_, c97_, c98_, c99_, c100_, c101_, c102_, c103_, c104_, c105_, c106_, c107_, c108_, c109_, c110_, c111_, c112_, c113_, c114_, c115_, c116_, c117_, c118_, c119_, c120_, c121_, c122_, c123_, c124_, c125_, c126_, c127_, c128_, c129_, c130_, c131_, c132_, c133_, c134_, c135_, c136_, c137_, c138_, c139_, c140_, c141_, c142_, c143_, c144_, c145_, c146_, c147_, c148_, c149_, c150_, c151_, c152_, c153_, c154_, c155_, c156_, c157_, c158_, c159_, c160_, c161_, c162_, c163_, c164_, c165_, c166_, c167_, c168_, c169_, c170_, c171_, c172_, c173_, c174_, c175_, c176_, c177_, c178_, c179_, c180_, c181_, c182_, c183_, c184_, c185_, c186_, c187_, c188_, c189_, c190_, c191_, c192_, c193_, c194_, c195_, c196_, c197_, c198_, c199_, c200_, c201_, c202_, c203_, c204_, c205_, c206_, c207_, c208_, c209_, c210_, c211_, c212_, c213_, c214_, c215_, c216_, c217_, c218_, c219_, c220_, c221_, c222_, c223_, c224_, c225_, c226_, c227_, c228_, c229_, c230_, c231_, c232_, c233_, c234_, c235_, c236_, c237_, c238_, c239_, c240_, c241_, c242_, c243_, c244_, c245_, c246_, c247_, c248_, c249_, c250_, c251_, c252_, c253_, c254_, c255_, c256_, c257_, c258_, c259_, c260_, c261_, c262_, c263_, c264_, c265_, c266_, c267_, c268_, c269_, c270_, c271_, c272_, c273_, c274_, c275_, c276_, c277_, c278_, c279_, c280_, c281_, c282_, c283_, c284_, c285_, c286_, c287_, c288_, c289_, c290_, c291_, c292_, c293_, c294_, c295_, c296_, c297_, c298_, c299_, c300_, c301_, c302_, c303_], []⟩ w := by
  have hkl : ks.length = 64 := by rw [hks.out]; rfl
  have HWL4 := Lib.hid hwl
  have HC0 := Lib.hid hC
  have HW0 := Lib.hid hW
  have hbw := Below.refl w.heap.size w
  clear hwl hC hW
  conv => arg 2; whnf
  go_wp2_with fail
  go_loopw [17, 18, 19, 20, 21, 22, 23, 24, 25] (fun a1 a2 a3 a4 a5 a6 a7 a8 x wr => ∃ (n : Nat) (r : S8), n ≤ 64 ∧ a1 = wv r.a ∧ a2 = wv r.b ∧ a3 = wv r.c ∧ a4 = wv r.d ∧ a5 = wv r.e ∧ a6 = wv r.f ∧ a7 = wv r.g ∧ a8 = wv r.h ∧ x = .int .i64 n ∧ Hid (r = rnds ws st n) ∧ Below w.heap.size w wr) (fun _ _ _ _ _ _ _ _ x _ => 64 - (intOf x).toNat)
  case atStart => exact ⟨0, st, by omega, rfl, rfl, rfl, rfl, rfl, rfl, rfl, rfl, rfl, Lib.hid rfl, hbw⟩
  case round =>
    clear hbw
    obtain ⟨n, r, hn, rfl, rfl, rfl, rfl, rfl, rfl, rfl, rfl, rfl, hr, hbw⟩ := hrel
    by_cases hn64 : n < 64
    · have hnI : (n : Int) < 64 := by omega
      have HBW := Lib.hid hbw
      clear hbw
      go_upto_region 28 with (fail)
      obtain ⟨cb, co, rfl, hcc⟩ := SlW.all (Sl.below HC0.out HBW.out) (by omega)
      have dk : wr.drew.cell? ⟨cb, co + n, none⟩ = some (wv (ks.getD n 0)) := hcc n (by omega)
      obtain ⟨gb', go', e9, hcw⟩ := SlW.all (Sl.below HW0.out HBW.out) (by have := HWL4.out; omega)
      injection e9 with e9
      injection e9 with e9 e8
      subst e9 e8
      have dw : wr.drew.cell? ⟨gw, n, none⟩ = some (wv (ws.getD n 0)) := by have h9 := hcw n (by have := HWL4.out; omega); rw [Nat.zero_add] at h9; exact h9
      have hrn : Hid (rnds ws st (n + 1) = rnd r (ks.getD n 0) (ws.getD n 0)) := (show _ = _ from by rw [hr.out, hks.out]; rfl)
      generalize ks.getD n 0 = kk at *
      generalize ws.getD n 0 = xw at *
      have hst0 : wr.drew.cell? ⟨cb, co + n, none⟩ = some (wv kk) ∧ wr.drew.cell? ⟨gw, n, none⟩ = some (wv xw) := ⟨dk, dw⟩
      clear hcc hcw dk dw
      have R2 := turn2
      have R6 := turn6
      have R11 := turn11
      have R13 := turn13
      have R22 := turn22
      have R25 := turn25
      refine wp_region_seq (S := (fun W => W.cell? ⟨cb, co + n, none⟩ = some (wv kk) ∧ W.cell? ⟨gw, n, none⟩ = some (wv xw))) [(0, true), (1, true), (3, true), (6, true), (10, true), (11, true), (12, true), (13, true), (14, true), (15, true), (16, true), (17, true), (19, true), (20, true), (21, true), (22, true), (24, true), (25, true), (26, true), (27, true), (2, false), (4, false), (5, true), (7, false), (8, true), (9, true), (18, true), (23, true), (28, true), (29, true)] (by kernel_rfl) (by kernel_rfl) (fun c a d v w h => HQ.out c a d v w h) ?_ (fun hHeld => ?_)
      · first | exact hst0 | exact hHeld
      refine seq_take (oi := ⟨some 182, _, _, _, _, _⟩) (v := ?_) rfl (Or.inl ⟨by kernel_rfl, ?_⟩) (by assumption) ?_
      rotate_left
      · (intro wS hSw; (try dsimp only at hSw); have q1 := add_wn; have q2 := xor_wn; have q3 := and_wn; have q4 := not_wnM; obtain ⟨ck, cw⟩ := hSw; refine execV (fun rho hk1 hk2 hk3 hk => ?_); have e24_ := (hk 24).trans (evalP (fg8 (fg8 (fg8 fg0)))); clear hk; go_simp; (try with_reducible rfl))
      (first | (with_reducible refine wpSeq_put ?_; go_big_move) | (try simp only [Act.put, List.setIfInBounds_toArray, List.set_cons_zero, List.set_cons_succ]))
      refine seq_take (oi := ⟨some 183, _, _, _, _, _⟩) (v := ?_) rfl (Or.inl ⟨by kernel_rfl, ?_⟩) (by assumption) ?_
      rotate_left
      · (intro wS hSw; (try dsimp only at hSw); have q1 := add_wn; have q2 := xor_wn; have q3 := and_wn; have q4 := not_wnM; obtain ⟨ck, cw⟩ := hSw; refine execV (fun rho hk1 hk2 hk3 hk => ?_); have e21_ := (hk 21).trans (evalP (fg8 (fg8 (fg1 (fg1 (fg1 (fg1 (fg1 fg0)))))))); clear hk; go_simp; (try with_reducible rfl))
      (first | (with_reducible refine wpSeq_put ?_; go_big_move) | (try simp only [Act.put, List.setIfInBounds_toArray, List.set_cons_zero, List.set_cons_succ]))
      refine seq_take (oi := ⟨some 185, _, _, _, _, _⟩) (v := ?_) rfl (Or.inl ⟨by kernel_rfl, ?_⟩) (by assumption) ?_
      rotate_left
      · (intro wS hSw; (try dsimp only at hSw); have q1 := add_wn; have q2 := xor_wn; have q3 := and_wn; have q4 := not_wnM; obtain ⟨ck, cw⟩ := hSw; refine execV (fun rho hk1 hk2 hk3 hk => ?_); have e21_ := (hk 21).trans (evalP (fg8 (fg8 (fg1 (fg1 (fg1 (fg1 (fg1 fg0)))))))); clear hk; go_simp; (try with_reducible rfl))
      (first | (with_reducible refine wpSeq_put ?_; go_big_move) | (try simp only [Act.put, List.setIfInBounds_toArray, List.set_cons_zero, List.set_cons_succ]))
      refine seq_take (oi := ⟨some 188, _, _, _, _, _⟩) (v := ?_) rfl (Or.inl ⟨by kernel_rfl, ?_⟩) (by assumption) ?_
      rotate_left
      · (intro wS hSw; (try dsimp only at hSw); have q1 := add_wn; have q2 := xor_wn; have q3 := and_wn; have q4 := not_wnM; obtain ⟨ck, cw⟩ := hSw; refine execV (fun rho hk1 hk2 hk3 hk => ?_); have e21_ := (hk 21).trans (evalP (fg8 (fg8 (fg1 (fg1 (fg1 (fg1 (fg1 fg0)))))))); clear hk; go_simp; (try with_reducible rfl))
      (first | (with_reducible refine wpSeq_put ?_; go_big_move) | (try simp only [Act.put, List.setIfInBounds_toArray, List.set_cons_zero, List.set_cons_succ]))
      refine seq_take (oi := ⟨some 192, _, _, _, _, _⟩) (v := ?_) rfl (Or.inl ⟨by kernel_rfl, ?_⟩) (by assumption) ?_
      rotate_left
      · (intro wS hSw; (try dsimp only at hSw); have q1 := add_wn; have q2 := xor_wn; have q3 := and_wn; have q4 := not_wnM; obtain ⟨ck, cw⟩ := hSw; refine execV (fun rho hk1 hk2 hk3 hk => ?_); have e21_ := (hk 21).trans (evalP (fg8 (fg8 (fg1 (fg1 (fg1 (fg1 (fg1 fg0)))))))); clear hk; go_simp; (try with_reducible rfl))
      (first | (with_reducible refine wpSeq_put ?_; go_big_move) | (try simp only [Act.put, List.setIfInBounds_toArray, List.set_cons_zero, List.set_cons_succ]))
      refine seq_take (oi := ⟨some 193, _, _, _, _, _⟩) (v := ?_) rfl (Or.inl ⟨by kernel_rfl, ?_⟩) (by assumption) ?_
      rotate_left
      · (intro wS hSw; (try dsimp only at hSw); have q1 := add_wn; have q2 := xor_wn; have q3 := and_wn; have q4 := not_wnM; obtain ⟨ck, cw⟩ := hSw; refine execV (fun rho hk1 hk2 hk3 hk => ?_); have e22_ := (hk 22).trans (evalP (fg8 (fg8 (fg1 (fg1 (fg1 (fg1 (fg1 (fg1 fg0))))))))); clear hk; go_simp; (try with_reducible rfl))
      (first | (with_reducible refine wpSeq_put ?_; go_big_move) | (try simp only [Act.put, List.setIfInBounds_toArray, List.set_cons_zero, List.set_cons_succ]))
      refine seq_take (oi := ⟨some 194, _, _, _, _, _⟩) (v := ?_) rfl (Or.inl ⟨by kernel_rfl, ?_⟩) (by assumption) ?_
      rotate_left
      · (intro wS hSw; (try dsimp only at hSw); have q1 := add_wn; have q2 := xor_wn; have q3 := and_wn; have q4 := not_wnM; obtain ⟨ck, cw⟩ := hSw; refine execV (fun rho hk1 hk2 hk3 hk => ?_); have e192_ := (hk 192).trans (evalP (fg64 (fg64 (fg64 fg0)))); have e193_ := (hk 193).trans (evalP (fg64 (fg64 (fg64 (fg1 fg0))))); clear hk; go_simp; (try with_reducible rfl))
      (first | (with_reducible refine wpSeq_put ?_; go_big_move) | (try simp only [Act.put, List.setIfInBounds_toArray, List.set_cons_zero, List.set_cons_succ]))
      refine seq_take (oi := ⟨some 195, _, _, _, _, _⟩) (v := ?_) rfl (Or.inl ⟨by kernel_rfl, ?_⟩) (by assumption) ?_
      rotate_left
      · (intro wS hSw; (try dsimp only at hSw); have q1 := add_wn; have q2 := xor_wn; have q3 := and_wn; have q4 := not_wnM; obtain ⟨ck, cw⟩ := hSw; refine execV (fun rho hk1 hk2 hk3 hk => ?_); have e21_ := (hk 21).trans (evalP (fg8 (fg8 (fg1 (fg1 (fg1 (fg1 (fg1 fg0)))))))); clear hk; go_simp; (try with_reducible rfl))
      (first | (with_reducible refine wpSeq_put ?_; go_big_move) | (try simp only [Act.put, List.setIfInBounds_toArray, List.set_cons_zero, List.set_cons_succ]))
      refine seq_take (oi := ⟨some 196, _, _, _, _, _⟩) (v := ?_) rfl (Or.inl ⟨by kernel_rfl, ?_⟩) (by assumption) ?_
      rotate_left
      · (intro wS hSw; (try dsimp only at hSw); have q1 := add_wn; have q2 := xor_wn; have q3 := and_wn; have q4 := not_wnM; obtain ⟨ck, cw⟩ := hSw; refine execV (fun rho hk1 hk2 hk3 hk => ?_); have e195_ := (hk 195).trans (evalP (fg64 (fg64 (fg64 (fg1 (fg1 (fg1 fg0))))))); clear hk; go_simp; (try with_reducible rfl))
      (first | (with_reducible refine wpSeq_put ?_; go_big_move) | (try simp only [Act.put, List.setIfInBounds_toArray, List.set_cons_zero, List.set_cons_succ]))
      refine seq_take (oi := ⟨some 197, _, _, _, _, _⟩) (v := ?_) rfl (Or.inl ⟨by kernel_rfl, ?_⟩) (by assumption) ?_
      rotate_left
      · (intro wS hSw; (try dsimp only at hSw); have q1 := add_wn; have q2 := xor_wn; have q3 := and_wn; have q4 := not_wnM; obtain ⟨ck, cw⟩ := hSw; refine execV (fun rho hk1 hk2 hk3 hk => ?_); have e23_ := (hk 23).trans (evalP (fg8 (fg8 (fg1 (fg1 (fg1 (fg1 (fg1 (fg1 (fg1 fg0)))))))))); clear hk; go_simp; (try with_reducible rfl))
      (first | (with_reducible refine wpSeq_put ?_; go_big_move) | (try simp only [Act.put, List.setIfInBounds_toArray, List.set_cons_zero, List.set_cons_succ]))
      refine seq_take (oi := ⟨some 198, _, _, _, _, _⟩) (v := ?_) rfl (Or.inl ⟨by kernel_rfl, ?_⟩) (by assumption) ?_
      rotate_left
      · (intro wS hSw; (try dsimp only at hSw); have q1 := add_wn; have q2 := xor_wn; have q3 := and_wn; have q4 := not_wnM; obtain ⟨ck, cw⟩ := hSw; refine execV (fun rho hk1 hk2 hk3 hk => ?_); have e196_ := (hk 196).trans (evalP (fg64 (fg64 (fg64 (fg1 (fg1 (fg1 (fg1 fg0)))))))); have e197_ := (hk 197).trans (evalP (fg64 (fg64 (fg64 (fg1 (fg1 (fg1 (fg1 (fg1 fg0))))))))); clear hk; go_simp; (try with_reducible rfl))
      (first | (with_reducible refine wpSeq_put ?_; go_big_move) | (try simp only [Act.put, List.setIfInBounds_toArray, List.set_cons_zero, List.set_cons_succ]))
      refine seq_take (oi := ⟨some 199, _, _, _, _, _⟩) (v := ?_) rfl (Or.inl ⟨by kernel_rfl, ?_⟩) (by assumption) ?_
      rotate_left
      · (intro wS hSw; (try dsimp only at hSw); have q1 := add_wn; have q2 := xor_wn; have q3 := and_wn; have q4 := not_wnM; obtain ⟨ck, cw⟩ := hSw; refine execV (fun rho hk1 hk2 hk3 hk => ?_); have e194_ := (hk 194).trans (evalP (fg64 (fg64 (fg64 (fg1 (fg1 fg0)))))); have e198_ := (hk 198).trans (evalP (fg64 (fg64 (fg64 (fg1 (fg1 (fg1 (fg1 (fg1 (fg1 fg0)))))))))); clear hk; go_simp; (try with_reducible rfl))
      (first | (with_reducible refine wpSeq_put ?_; go_big_move) | (try simp only [Act.put, List.setIfInBounds_toArray, List.set_cons_zero, List.set_cons_succ]))
      refine seq_take (oi := ⟨some 201, _, _, _, _, _⟩) (v := ?_) rfl (Or.inl ⟨by kernel_rfl, ?_⟩) (by assumption) ?_
      rotate_left
      · (intro wS hSw; (try dsimp only at hSw); have q1 := add_wn; have q2 := xor_wn; have q3 := and_wn; have q4 := not_wnM; obtain ⟨ck, cw⟩ := hSw; refine execV (fun rho hk1 hk2 hk3 hk => ?_); have e1_ := (hk 1).trans (evalP (fg1 fg0)); clear hk; go_simp; (try with_reducible rfl))
      (first | (with_reducible refine wpSeq_put ?_; go_big_move) | (try simp only [Act.put, List.setIfInBounds_toArray, List.set_cons_zero, List.set_cons_succ]))
      refine seq_take (oi := ⟨some 202, _, _, _, _, _⟩) (v := ?_) rfl (Or.inl ⟨by kernel_rfl, ?_⟩) (by assumption) ?_
      rotate_left
      · (intro wS hSw; (try dsimp only at hSw); have q1 := add_wn; have q2 := xor_wn; have q3 := and_wn; have q4 := not_wnM; obtain ⟨ck, cw⟩ := hSw; refine execV (fun rho hk1 hk2 hk3 hk => ?_); have e25_ := (hk 25).trans (evalP (fg8 (fg8 (fg8 (fg1 fg0))))); clear hk; go_simp; (try with_reducible rfl))
      (first | (with_reducible refine wpSeq_put ?_; go_big_move) | (try simp only [Act.put, List.setIfInBounds_toArray, List.set_cons_zero, List.set_cons_succ]))
      refine seq_take (oi := ⟨some 203, _, _, _, _, _⟩) (v := ?_) rfl (Or.inl ⟨by kernel_rfl, ?_⟩) (by assumption) ?_
      rotate_left
      · (intro wS hSw; (try dsimp only at hSw); have q1 := add_wn; have q2 := xor_wn; have q3 := and_wn; have q4 := not_wnM; obtain ⟨ck, cw⟩ := hSw; refine execV (fun rho hk1 hk2 hk3 hk => ?_); have e201_ := (hk 201).trans (evalP (fg64 (fg64 (fg64 (fg8 (fg1 fg0)))))); have e202_ := (hk 202).trans (evalP (fg64 (fg64 (fg64 (fg8 (fg1 (fg1 fg0))))))); clear hk; go_simp; (try with_reducible rfl))
      (first | (with_reducible refine wpSeq_put ?_; go_big_move) | (try simp only [Act.put, List.setIfInBounds_toArray, List.set_cons_zero, List.set_cons_succ]))
      refine seq_take (oi := ⟨some 204, _, _, _, _, _⟩) (v := ?_) rfl (Or.inl ⟨by kernel_rfl, ?_⟩) (by assumption) ?_
      rotate_left
      · (intro wS hSw; (try dsimp only at hSw); have q1 := add_wn; have q2 := xor_wn; have q3 := and_wn; have q4 := not_wnM; obtain ⟨ck, cw⟩ := hSw; refine execV (fun rho hk1 hk2 hk3 hk => ?_); have e203_ := (hk 203).trans (evalP (fg64 (fg64 (fg64 (fg8 (fg1 (fg1 (fg1 fg0)))))))); clear hk; go_simp; (try with_reducible rfl))
      (first | (with_reducible refine wpSeq_put ?_; go_big_move) | (try simp only [Act.put, List.setIfInBounds_toArray, List.set_cons_zero, List.set_cons_succ]))
      refine seq_take (oi := ⟨some 206, _, _, _, _, _⟩) (v := ?_) rfl (Or.inl ⟨by kernel_rfl, ?_⟩) (by assumption) ?_
      rotate_left
      · (intro wS hSw; (try dsimp only at hSw); have q1 := add_wn; have q2 := xor_wn; have q3 := and_wn; have q4 := not_wnM; obtain ⟨ck, cw⟩ := hSw; refine execV (fun rho hk1 hk2 hk3 hk => ?_); have e12_ := (hk 12).trans (evalP (fg8 (fg1 (fg1 (fg1 (fg1 fg0)))))); clear hk; go_simp; (try with_reducible rfl))
      (first | (with_reducible refine wpSeq_put ?_; go_big_move) | (try simp only [Act.put, List.setIfInBounds_toArray, List.set_cons_zero, List.set_cons_succ]))
      refine seq_take (oi := ⟨some 207, _, _, _, _, _⟩) (v := ?_) rfl (Or.inl ⟨by kernel_rfl, ?_⟩) (by assumption) ?_
      rotate_left
      · (intro wS hSw; (try dsimp only at hSw); have q1 := add_wn; have q2 := xor_wn; have q3 := and_wn; have q4 := not_wnM; obtain ⟨ck, cw⟩ := hSw; refine execV (fun rho hk1 hk2 hk3 hk => ?_); have e25_ := (hk 25).trans (evalP (fg8 (fg8 (fg8 (fg1 fg0))))); clear hk; go_simp; (try with_reducible rfl))
      (first | (with_reducible refine wpSeq_put ?_; go_big_move) | (try simp only [Act.put, List.setIfInBounds_toArray, List.set_cons_zero, List.set_cons_succ]))
      refine seq_take (oi := ⟨some 208, _, _, _, _, _⟩) (v := ?_) rfl (Or.inl ⟨by kernel_rfl, ?_⟩) (by assumption) ?_
      rotate_left
      · (intro wS hSw; (try dsimp only at hSw); have q1 := add_wn; have q2 := xor_wn; have q3 := and_wn; have q4 := not_wnM; obtain ⟨ck, cw⟩ := hSw; refine execV (fun rho hk1 hk2 hk3 hk => ?_); have e206_ := (hk 206).trans (evalP (fg64 (fg64 (fg64 (fg8 (fg1 (fg1 (fg1 (fg1 (fg1 (fg1 fg0))))))))))); have e207_ := (hk 207).trans (evalP (fg64 (fg64 (fg64 (fg8 (fg1 (fg1 (fg1 (fg1 (fg1 (fg1 (fg1 fg0)))))))))))); clear hk; go_simp; (try with_reducible rfl))
      (first | (with_reducible refine wpSeq_put ?_; go_big_move) | (try simp only [Act.put, List.setIfInBounds_toArray, List.set_cons_zero, List.set_cons_succ]))
      refine seq_take (oi := ⟨some 209, _, _, _, _, _⟩) (v := ?_) rfl (Or.inl ⟨by kernel_rfl, ?_⟩) (by assumption) ?_
      rotate_left
      · (intro wS hSw; (try dsimp only at hSw); have q1 := add_wn; have q2 := xor_wn; have q3 := and_wn; have q4 := not_wnM; obtain ⟨ck, cw⟩ := hSw; refine execV (fun rho hk1 hk2 hk3 hk => ?_); have e208_ := (hk 208).trans (evalP (fg64 (fg64 (fg64 (fg8 (fg8 fg0)))))); clear hk; go_simp; (try with_reducible rfl))
      (first | (with_reducible refine wpSeq_put ?_; go_big_move) | (try simp only [Act.put, List.setIfInBounds_toArray, List.set_cons_zero, List.set_cons_succ]))
      refine seq_step (o := ⟨some 184, _, _, _, _, _⟩) rfl (fun K hK => ?_)
      with_reducible refine wantedP (by kernel_rfl) ?_
      (first | go_big_op | go_simp)
      ((first | with_reducible refine (R6.out _ _).mono ?_ | with_reducible refine (R11.out _ _).mono ?_ | with_reducible refine (R25.out _ _).mono ?_); rintro e w8 ⟨rfl, rfl⟩)
      go_wp2_with fail
      refine hK.out _ _ ?_ (fun hHeld => ?_)
      · ((try dsimp only); (first | exact hst0 | exact hHeld))
      clear hK K
      (first | (with_reducible refine wpSeq_put ?_; go_big_move) | (try simp only [Act.put, List.setIfInBounds_toArray, List.set_cons_zero, List.set_cons_succ]))
      refine seq_step (o := ⟨some 186, _, _, _, _, _⟩) rfl (fun K hK => ?_)
      with_reducible refine wantedP (by kernel_rfl) ?_
      (first | go_big_op | go_simp)
      ((first | with_reducible refine (R6.out _ _).mono ?_ | with_reducible refine (R11.out _ _).mono ?_ | with_reducible refine (R25.out _ _).mono ?_); rintro e w8 ⟨rfl, rfl⟩)
      go_wp2_with fail
      refine hK.out _ _ ?_ (fun hHeld => ?_)
      · ((try dsimp only); (first | exact hst0 | exact hHeld))
      clear hK K
      (first | (with_reducible refine wpSeq_put ?_; go_big_move) | (try simp only [Act.put, List.setIfInBounds_toArray, List.set_cons_zero, List.set_cons_succ]))
      refine seq_take (oi := ⟨some 187, _, _, _, _, _⟩) (v := ?_) rfl (Or.inl ⟨by kernel_rfl, ?_⟩) (by assumption) ?_
      rotate_left
      · (intro wS hSw; (try dsimp only at hSw); have q1 := add_wn; have q2 := xor_wn; have q3 := and_wn; have q4 := not_wnM; obtain ⟨ck, cw⟩ := hSw; refine execV (fun rho hk1 hk2 hk3 hk => ?_); have e184_ := (hk 184).trans (evalP (fg64 (fg64 (fg8 (fg8 (fg8 (fg8 (fg8 (fg8 (fg8 fg0)))))))))); have e186_ := (hk 186).trans (evalP (fg64 (fg64 (fg8 (fg8 (fg8 (fg8 (fg8 (fg8 (fg8 (fg1 (fg1 fg0)))))))))))); clear hk; go_simp; (try with_reducible rfl))
      (first | (with_reducible refine wpSeq_put ?_; go_big_move) | (try simp only [Act.put, List.setIfInBounds_toArray, List.set_cons_zero, List.set_cons_succ]))
      refine seq_step (o := ⟨some 189, _, _, _, _, _⟩) rfl (fun K hK => ?_)
      with_reducible refine wantedP (by kernel_rfl) ?_
      (first | go_big_op | go_simp)
      ((first | with_reducible refine (R6.out _ _).mono ?_ | with_reducible refine (R11.out _ _).mono ?_ | with_reducible refine (R25.out _ _).mono ?_); rintro e w8 ⟨rfl, rfl⟩)
      go_wp2_with fail
      refine hK.out _ _ ?_ (fun hHeld => ?_)
      · ((try dsimp only); (first | exact hst0 | exact hHeld))
      clear hK K
      (first | (with_reducible refine wpSeq_put ?_; go_big_move) | (try simp only [Act.put, List.setIfInBounds_toArray, List.set_cons_zero, List.set_cons_succ]))
      refine seq_take (oi := ⟨some 190, _, _, _, _, _⟩) (v := ?_) rfl (Or.inl ⟨by kernel_rfl, ?_⟩) (by assumption) ?_
      rotate_left
      · (intro wS hSw; (try dsimp only at hSw); have q1 := add_wn; have q2 := xor_wn; have q3 := and_wn; have q4 := not_wnM; obtain ⟨ck, cw⟩ := hSw; refine execV (fun rho hk1 hk2 hk3 hk => ?_); have e187_ := (hk 187).trans (evalP (fg64 (fg64 (fg8 (fg8 (fg8 (fg8 (fg8 (fg8 (fg8 (fg1 (fg1 (fg1 fg0))))))))))))); have e189_ := (hk 189).trans (evalP (fg64 (fg64 (fg8 (fg8 (fg8 (fg8 (fg8 (fg8 (fg8 (fg1 (fg1 (fg1 (fg1 (fg1 fg0))))))))))))))); clear hk; go_simp; (try with_reducible rfl))
      (first | (with_reducible refine wpSeq_put ?_; go_big_move) | (try simp only [Act.put, List.setIfInBounds_toArray, List.set_cons_zero, List.set_cons_succ]))
      refine seq_take (oi := ⟨some 191, _, _, _, _, _⟩) (v := ?_) rfl (Or.inl ⟨by kernel_rfl, ?_⟩) (by assumption) ?_
      rotate_left
      · (intro wS hSw; (try dsimp only at hSw); have q1 := add_wn; have q2 := xor_wn; have q3 := and_wn; have q4 := not_wnM; obtain ⟨ck, cw⟩ := hSw; refine execV (fun rho hk1 hk2 hk3 hk => ?_); have e182_ := (hk 182).trans (evalP (fg64 (fg64 (fg8 (fg8 (fg8 (fg8 (fg8 (fg8 (fg1 (fg1 (fg1 (fg1 (fg1 (fg1 fg0))))))))))))))); have e190_ := (hk 190).trans (evalP (fg64 (fg64 (fg8 (fg8 (fg8 (fg8 (fg8 (fg8 (fg8 (fg1 (fg1 (fg1 (fg1 (fg1 (fg1 fg0)))))))))))))))); clear hk; go_simp; (try with_reducible rfl))
      (first | (with_reducible refine wpSeq_put ?_; go_big_move) | (try simp only [Act.put, List.setIfInBounds_toArray, List.set_cons_zero, List.set_cons_succ]))
      refine seq_take (oi := ⟨some 200, _, _, _, _, _⟩) (v := ?_) rfl (Or.inl ⟨by kernel_rfl, ?_⟩) (by assumption) ?_
      rotate_left
      · (intro wS hSw; (try dsimp only at hSw); have q1 := add_wn; have q2 := xor_wn; have q3 := and_wn; have q4 := not_wnM; obtain ⟨ck, cw⟩ := hSw; refine execV (fun rho hk1 hk2 hk3 hk => ?_); have e191_ := (hk 191).trans (evalP (fg64 (fg64 (fg8 (fg8 (fg8 (fg8 (fg8 (fg8 (fg8 (fg1 (fg1 (fg1 (fg1 (fg1 (fg1 (fg1 fg0))))))))))))))))); have e199_ := (hk 199).trans (evalP (fg64 (fg64 (fg64 (fg1 (fg1 (fg1 (fg1 (fg1 (fg1 (fg1 fg0))))))))))); clear hk; go_simp; (try with_reducible rfl))
      (first | (with_reducible refine wpSeq_put ?_; go_big_move) | (try simp only [Act.put, List.setIfInBounds_toArray, List.set_cons_zero, List.set_cons_succ]))
      refine seq_take (oi := ⟨some 205, _, _, _, _, _⟩) (v := ?_) rfl (Or.inl ⟨by kernel_rfl, ?_⟩) (by assumption) ?_
      rotate_left
      · (intro wS hSw; (try dsimp only at hSw); have q1 := add_wn; have q2 := xor_wn; have q3 := and_wn; have q4 := not_wnM; obtain ⟨ck, cw⟩ := hSw; refine execV (fun rho hk1 hk2 hk3 hk => ?_); have e200_ := (hk 200).trans (evalP (fg64 (fg64 (fg64 (fg8 fg0))))); have e204_ := (hk 204).trans (evalP (fg64 (fg64 (fg64 (fg8 (fg1 (fg1 (fg1 (fg1 fg0))))))))); clear hk; go_simp; (try with_reducible rfl))
      (first | (with_reducible refine wpSeq_put ?_; go_big_move) | (try simp only [Act.put, List.setIfInBounds_toArray, List.set_cons_zero, List.set_cons_succ]))
      refine seq_take (oi := ⟨some 210, _, _, _, _, _⟩) (v := ?_) rfl (Or.inl ⟨by kernel_rfl, ?_⟩) (by assumption) ?_
      rotate_left
      · (intro wS hSw; (try dsimp only at hSw); have q1 := add_wn; have q2 := xor_wn; have q3 := and_wn; have q4 := not_wnM; obtain ⟨ck, cw⟩ := hSw; refine execV (fun rho hk1 hk2 hk3 hk => ?_); have e205_ := (hk 205).trans (evalP (fg64 (fg64 (fg64 (fg8 (fg1 (fg1 (fg1 (fg1 (fg1 fg0)))))))))); have e209_ := (hk 209).trans (evalP (fg64 (fg64 (fg64 (fg8 (fg8 (fg1 fg0))))))); clear hk; go_simp; (try with_reducible rfl))
      (first | (with_reducible refine wpSeq_put ?_; go_big_move) | (try simp only [Act.put, List.setIfInBounds_toArray, List.set_cons_zero, List.set_cons_succ]))
      refine seq_take (oi := ⟨some 26, _, _, _, _, _⟩) (v := ?_) rfl (Or.inl ⟨by kernel_rfl, ?_⟩) (by assumption) ?_
      rotate_left
      · (intro wS hSw; (try dsimp only at hSw); have q1 := add_wn; have q2 := xor_wn; have q3 := and_wn; have q4 := not_wnM; obtain ⟨ck, cw⟩ := hSw; refine execV (fun rho hk1 hk2 hk3 hk => ?_); have e210_ := (hk 210).trans (evalP (fg64 (fg64 (fg64 (fg8 (fg8 (fg1 (fg1 fg0)))))))); clear hk; go_simp; (try with_reducible rfl))
      (first | (with_reducible refine wpSeq_put ?_; go_big_move) | (try simp only [Act.put, List.setIfInBounds_toArray, List.set_cons_zero, List.set_cons_succ]))
      refine seq_done ?_
      obtain ⟨xx, hxx⟩ : ∃ xx, r.h + (tr r.e 6 ^^^ tr r.e 11 ^^^ tr r.e 25) + ((r.e &&& r.f) ^^^ (~~~r.e &&& r.g)) + kk + xw = xx := ⟨_, rfl⟩
      rw [hxx]
      have hrr : Hid (rnds ws st (n + 1) = ⟨xx + ((tr r.a 2 ^^^ tr r.a 13 ^^^ tr r.a 22) + ((r.a &&& r.b) ^^^ (r.a &&& r.c) ^^^ (r.b &&& r.c))), r.a, r.b, r.c, r.d + xx, r.e, r.f, r.g⟩) := (show _ = _ from by rw [hrn.out, ← hxx]; rfl)
      have HDd := Lib.hid (bel_call HBW.out (Below.drew (Below.refl _ _)))
      clear hst0 hHeld hxx hrn HBW R6 R11 R25
      generalize World.drew wr = wd at *
      have q1 := add_wn
      have q2 := xor_wn
      have q3 := and_wn
      go_upto_region 30 with (first | ((first | with_reducible refine (R2.out _ _).mono ?_ | with_reducible refine (R13.out _ _).mono ?_ | with_reducible refine (R22.out _ _).mono ?_); rintro e w8 ⟨rfl, rfl⟩))
      obtain ⟨yy, hyy⟩ : ∃ yy, (tr r.a 2 ^^^ tr r.a 13 ^^^ tr r.a 22) + ((r.a &&& r.b) ^^^ (r.a &&& r.c) ^^^ (r.b &&& r.c)) = yy := ⟨_, rfl⟩
      rw [hyy] at hrr ⊢
      clear hyy q2 q3 R2 R13 R22
      go_wp2_with fail
      refine ⟨⟨n + 1, ⟨xx + yy, r.a, r.b, r.c, r.d + xx, r.e, r.f, r.g⟩, hn64, rfl, rfl, rfl, rfl, rfl, rfl, rfl, rfl, by go_num, (show _ = _ from by rw [hrr.out]), HDd.out⟩, by simp [intOf]; omega⟩
    · obtain rfl : n = 64 := by omega
      have HBW := Lib.hid hbw
      clear hbw
      rw [show ((64 : Nat) : Int) = 64 from rfl]
      go_wp2_with fail
      exact HX.out r _ hr HBW.out
end Go.Proofs.YtabnndjdkjkciaaGreatDoor
