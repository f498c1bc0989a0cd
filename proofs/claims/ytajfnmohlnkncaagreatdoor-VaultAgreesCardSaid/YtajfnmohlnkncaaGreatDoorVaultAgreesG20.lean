/- WHAT IT HOLDS: what takes a run of cells, in memory; its methods, walked. -/
import Derived.Test.YtajfnmohlnkncaaGreatDoorVaultAgreesG01
import Derived.Test.YtajfnmohlnkncaaGreatDoorVaultAgreesG19
import Derived.Test.YtajfnmohlnkncaaGreatDoorVaultAgreesG04
namespace Go.Proofs.YtajfnmohlnkncaaGreatDoor
open Go.RowKit
attribute [local go_sem ↓] Go.wp_at_zero Go.wp_at_succ
theorem Blk.fiveT {w : World} {g : Nat} {t : TypeId} {a b c d e : Value} (h : Blk w g t #[a, b, c, d, e]) : w.cell? ⟨g, 0, none⟩ = some a ∧ w.cell? ⟨g, 1, none⟩ = some b ∧ w.cell? ⟨g, 2, none⟩ = some c ∧ w.cell? ⟨g, 3, none⟩ = some d ∧ w.cell? ⟨g, 4, none⟩ = some e ∧ ∀ i, w.frozen? ⟨g, i, none⟩ = false :=
 ⟨h.cell 0, h.cell 1, h.cell 2, h.cell 3, h.cell 4, h.frozen⟩
theorem Own.offBlk {w : World} {base g size n c : Nat} {e t : TypeId} {A : Option Addr} {xs : List Value} {cs : Array Value} (h : Own w base e size A n c xs) (k : Blk w g t cs) (hne : e ≠ t) : A.map (·.block) ≠ some g := by
 intro hg
 rcases h.2 with ⟨hv, _⟩ | ⟨g1, _, cur, hv, _, hh, _⟩
 · injection hv with hA; subst hA; simp at hg
 · injection hv with hA
   subst hA
   simp at hg
   subst hg
   unfold Blk at k
   rw [hh] at k
   injection k with k
   injection k with _ k
   exact hne k
theorem Blk.grown {w w' : World} {base g size n c : Nat} {e t : TypeId} {A : Option Addr} {xs : List Value} {cs : Array Value} (k : Blk w g t cs) (h : Own w base e size A n c xs) (hne : e ≠ t) (hg : w.grownBy w' (A.map (·.block))) : Blk w' g t cs :=
 (hg.block g k.lt (fun he => Own.offBlk h k hne he.symm)).trans k
structure TkM (w0 : World) (g gt B : Nat) (t : Tk) (A : Option Addr) (c : Nat) (E : Option Addr) (d : Nat) (m : List CeV) (W : World) : Prop where
 gl : g < w0.heap.size
 gt0 : w0.heap.size ≤ gt
 B0 : B ≤ w0.heap.size
 blk : Blk W gt 226 #[.pointer (some ⟨g, 0, none⟩), .slice A m.length c, .int .i64 (t.left : Nat), .slice E t.last.length d, .int .i64 (t.kind : Nat)]
 out : Hid (m.map ceOf = t.out)
 new : NewS W w0.heap.size A c m
 lst : OwnB W w0.heap.size 5 E d t.last
 rd : IsR W g B t.s
 fr : Wr w0 W g
section
variable {w0 W W' : World} {g gt B : Nat} {t : Tk} {A : Option Addr} {c : Nat} {E : Option Addr} {d : Nat} {m : List CeV}
theorem TkM.read (h : TkM w0 g gt B t A c E d m W) {s : Rs} (hR : IsR W' g B s) (hw : Wr W W' g) : TkM w0 g gt B { t with s := s } A c E d m W' :=
 ⟨h.gl, h.gt0, h.B0, h.blk.wr hw (by have := h.gl; have := h.gt0; omega), h.out, ⟨Own.wr h.new.1 h.gl hw, fun x hx => Own.wr (h.new.2 x hx) h.gl hw⟩, Own.wr h.lst h.gl hw, hR, h.fr.trans hw⟩
theorem TkM.size (h : TkM w0 g gt B t A c E d m W) : w0.heap.size ≤ W.heap.size := h.fr.size
theorem TkM.keepR (h : TkM w0 g gt B t A c E d m W) (hb : Below w0.heap.size W W') : IsR W' g B t.s ∧ Wr w0 W' g := ⟨h.rd.apart h.gl h.B0 hb, h.fr.callB h.size hb⟩
end
theorem Blk.fiveSet {w : World} {g : Nat} {t : TypeId} {a b c d e : Value} (h : Blk w g t #[a, b, c, d, e]) (x y : Value) : Blk ((w.setCell ⟨g, 2, none⟩ x).setCell ⟨g, 4, none⟩ y) g t #[a, b, x, d, y] := by
 have := (h.set_ 2 x).set_ 4 y
 simpa using this
def TkS (w0 : World) (g gt B : Nat) (t : Tk) (W : World) : Prop := ∃ A c E d m, TkM w0 g gt B t A c E d m W
theorem TkM.fin {w0 w2 W : World} {g gt B : Nat} {t : Tk} {A : Option Addr} {c : Nat} {E : Option Addr} {d : Nat} {m : List CeV} (h : TkM w0 g gt B t A c E d m w2) (hb : Below w0.heap.size w2 W) {t' : Tk} {A' : Option Addr} {c' : Nat} {E' : Option Addr} {d' : Nat} {m' : List CeV}
 (hN : NewS W w0.heap.size A' c' m') (hl : OwnB W w0.heap.size 5 E' d' t'.last) (ho : m'.map ceOf = t'.out) (hs : t'.s = t.s)
 (hB : Blk W gt 226 #[.pointer (some ⟨g, 0, none⟩), .slice A' m'.length c', .int .i64 (t'.left : Nat), .slice E' t'.last.length d', .int .i64 (t'.kind : Nat)]) : TkS w0 g gt B t' W :=
 ⟨A', c', E', d', m', h.gl, h.gt0, h.B0, hB, ho, hN, hl, by rw [hs]; exact (h.keepR hb).1, (h.keepR hb).2⟩
theorem NewS.setT {W : World} {base gt c : Nat} {A : Option Addr} {m : List CeV} {cs : Array Value} (hN : NewS W base A c m) (hB : Blk W gt 226 cs) (i : Nat) (u : Value) : NewS (W.setCell ⟨gt, i, none⟩ u) base A c m :=
 ⟨hN.1.setOther (Own.offBlk hN.1 hB (by decide)) _ _, fun x hx => (hN.2 x hx).setOther (Own.offBlk (hN.2 x hx) hB (by decide)) _ _⟩
theorem OwnB.setT {W : World} {base gt d : Nat} {E : Option Addr} {l : List UInt8} {cs : Array Value} (h : OwnB W base 5 E d l) (hB : Blk W gt 226 cs) (i : Nat) (u : Value) : OwnB (W.setCell ⟨gt, i, none⟩ u) base 5 E d l :=
 Own.setOther h (Own.offBlk h hB (by decide)) _ _
theorem row_fin {w0 w2 W : World} {g gt B n k : Nat} {t : Tk} {A A' : Option Addr} {c c' : Nat} {E : Option Addr} {d : Nat} {m m' : List CeV} {s2 : Rs} (h : TkM w0 g gt B { t with s := s2 } A c E d m w2) (hb : Below w0.heap.size w2 W)
 (hN2 : ∀ x ∈ m, OwnB W w0.heap.size 5 x.2.1 x.2.2.1 x.2.2.2) (hl : OwnB W w0.heap.size 5 E d t.last) (hN1 : Own W w0.heap.size 54 2 A' m'.length c' (m'.flatMap cf)) (hm : Hid (m' = m ++ List.replicate n (((k : Int), none, 0, []) : CeV)))
 (hB : Blk W gt 226 #[.pointer (some ⟨g, 0, none⟩), .slice A' m'.length c', .int .i64 (t.left : Nat), .slice E t.last.length d, .int .i64 (t.kind : Nat)]) (hn : n ≤ t.left) :
 TkS w0 g gt B ⟨s2, t.out ++ List.replicate n ((k : Int), []), t.left - n, t.last, k⟩ ((W.setCell ⟨gt, 2, none⟩ (.int .i64 ((t.left : Int) - (n : Int)))).setCell ⟨gt, 4, none⟩ (.int .i64 (k : Int))) := by
 have hN : NewS W w0.heap.size A' c' m' := ⟨hN1, fun x hx => by
  rw [hm.out] at hx
  rcases List.mem_append.1 hx with hx | hx
  · exact hN2 x hx
  · rw [List.eq_of_mem_replicate hx]; exact Own.none_ _ _ _ _⟩
 have hg := h.gt0
 refine h.fin ((hb.setCell hg _).setCell hg _) ((hN.setT hB 2 _).setT (hB.set_ 2 _) 4 _) (OwnB.setT (OwnB.setT hl hB 2 _) (hB.set_ 2 _) 4 _) ?_ rfl ?_
 · rw [hm.out, List.map_append, h.out.out, List.map_replicate]
 · have := hB.fiveSet (.int .i64 ((t.left : Int) - (n : Int))) (.int .i64 (k : Int))
   dsimp only
   rw [show ((t.left - n : Nat) : Int) = (t.left : Int) - (n : Int) from by omega]
   exact this
structure TkOk (t : Tk) : Prop where
 sum : t.left + t.out.length ≤ 64
 kind : t.kind ≤ 3
 last : t.last.length ≤ 64
 len : t.s.1.length ≤ 1000000000
theorem tkRow_cases (n : Nat) (t : Tk) {s1 s2 : Rs} {k : Nat} (h1 : (if t.left < n then rFail 2 t.s else t.s) = s1) (h2 : rWithin 3 s1 = (k, s2)) :
 ((k = 1 ∨ k = t.kind) → tkRow n t = { t with s := rFail 2 s2 }) ∧ (¬ (k = 1 ∨ k = t.kind) → s2.2 = 0 → tkRow n t = ⟨s2, t.out ++ List.replicate n ((k : Int), []), t.left - n, t.last, k⟩) ∧ (¬ (k = 1 ∨ k = t.kind) → s2.2 ≠ 0 → tkRow n t = { t with s := s2 }) := by
 unfold tkRow
 rw [h1]
 simp only [h2]
 refine ⟨fun h => ?_, fun h h0 => ?_, fun h h0 => ?_⟩
 · simp only [if_pos h]
   rw [if_neg (rFail_bad (by decide))]
 · simp only [if_neg h]
   rw [if_pos h0]
 · simp only [if_neg h]
   rw [if_neg h0]
theorem rWithin_leT (m : Nat) (s : Rs) : (rWithin m s).1 ≤ m := by
 unfold rWithin
 split
 · exact Nat.zero_le _
 · rename_i h; omega
theorem Err_s {g B : Nat} {s : Rs} {w : World} (hR : IsR w g B s) : Calls Tryz.prog 105 #[.pointer (some ⟨g, 0, none⟩)] w fun e w' => e = .returned (errv s.2) ∧ w = w' := by obtain ⟨l, b⟩ := s; exact Err_any hR
theorem Fail_sT {g B : Nat} {s : Rs} {w : World} (k : Nat) (hR : IsR w g B s) : Calls Tryz.prog 71 #[.pointer (some ⟨g, 0, none⟩), errv k] w fun e w' => e = .returned (.tuple #[]) ∧ IsR w' g B (rFail k s) ∧ Wr w w' g := by obtain ⟨l, b⟩ := s; exact Fail_any k hR
theorem Number_sT {g B : Nat} {s : Rs} {w : World} (hR : IsR w g B s) : Calls Tryz.prog 70 #[.pointer (some ⟨g, 0, none⟩)] w fun e w' => e = .returned (.int .u64 ((rNum s).1 : Nat)) ∧ IsR w' g B (rNum s).2 ∧ Wr w w' g := by obtain ⟨l, b⟩ := s; exact Number_any hR
theorem Fixed_sT {g B : Nat} {s : Rs} {w : World} (many : Int) (hl : s.1.length ≤ 1000000000) (hR : IsR w g B s) : Calls Tryz.prog 102 #[.pointer (some ⟨g, 0, none⟩), .int .i64 many] w (GivesR w g B (rFixed many s)) := by obtain ⟨l, b⟩ := s; exact Fixed_any many hl hR
set_option maxRecDepth 100000 in
set_option maxHeartbeats 2000000 in
theorem tkRow_any {w0 W : World} {g gt B n : Nat} {t : Tk} (h : TkS w0 g gt B t W) (hO : TkOk t) (_hn : U64 n) (hn1 : 1 ≤ n) :
 Calls Tryz.prog 139 #[.pointer (some ⟨gt, 0, none⟩), .int .u64 n] W fun e w' => e = .returned (.tuple #[]) ∧ TkS w0 g gt B (tkRow n t) w' := by
 obtain ⟨A, c, E, d, m, hM⟩ := h
 obtain ⟨hO1, hO2, hO3, hO4⟩ := hO
 obtain ⟨a0, -, a2, -, a4, afr⟩ := hM.blk.fiveT
 rcases Nat.lt_or_ge t.left n with hl | hl
 · have hs1 : (if t.left < n then rFail 2 t.s else t.s) = rFail 2 t.s := if_pos hl
   have hlI : (t.left : Int) < (n : Int) := by omega
   go_enter Tryz.func139, Tryz.ntmps139
   go_wp2_with fail
   refine (Fail_sT 2 hM.rd).mono ?_
   rintro e w1 ⟨rfl, hR1, hr1⟩
   replace hM := hM.read hR1 hr1
   clear hR1 hr1 a0 a2 a4 afr
   obtain ⟨a0, -, a2, -, a4, afr⟩ := hM.blk.fiveT
   go_wp2_with fail
   refine (Within_any 3 hM.rd).mono ?_
   rintro e w2 ⟨rfl, hR2, hr2⟩
   have hM2 := hM.read hR2 hr2
   have hk3 := rWithin_leT 3 (rFail 2 t.s)
   generalize hp : rWithin 3 (rFail 2 t.s) = p at *
   obtain ⟨k, s2⟩ := p
   obtain ⟨c1, c2, c3⟩ := tkRow_cases n t hs1 hp
   have hnl : s2.2 = 0 → n ≤ t.left := fun h0 => by rw [rWithin_of (rFail_bad (by decide))] at hp; injection hp with _ hp; rw [← hp] at h0; exact absurd h0 (rFail_bad (by decide))
   dsimp only at *
   clear hM hr2 hR2 hp hs1 a0 a2 a4 afr
   obtain ⟨a0, -, a2, -, a4, afr⟩ := hM2.blk.fiveT
   by_cases hk : k = 1 ∨ k = t.kind
   · have HT := Lib.hid (c1 hk)
     clear c1 c2 c3 hnl
     rcases Decidable.em (k = 1) with h1 | h1
     · have hb1 : ((k : Int) == 1) = true := by rw [h1]; rfl
       clear h1 hk
       go_wp2_with fail
       refine (Fail_sT 2 hM2.rd).mono ?_
       rintro e w3 ⟨rfl, hR3, hr3⟩
       have hM3 := hM2.read hR3 hr3
       clear hM2 hR3 hr3 a0 a2 a4 afr
       obtain ⟨a0, -, a2, -, a4, afr⟩ := hM3.blk.fiveT
       have hE := Err_s (s := rFail 2 s2) hM3.rd
       obtain ⟨q, hq, hq2, hev⟩ : ∃ q : Int, 0 < q ∧ q = ((rFail 2 s2).2 : Int) ∧ errv (rFail 2 s2).2 = .iface 60 (.int .i64 q) := by
        rcases errv_cases (rFail 2 s2).2 with ⟨h0, _⟩ | h
        · exact absurd h0 (rFail_bad (by decide))
        · exact h
       rw [hev] at hE
       have HE := Lib.hid hE
       clear hev hE hq2
       go_wp2_with fail
       refine HE.out.mono ?_
       rintro e w4 ⟨rfl, rfl⟩
       go_wp2_with fail
       go_end0
       exact ⟨rfl, by rw [HT.out]; exact ⟨A, c, E, d, m, hM3⟩⟩
     · have hb1 : ((k : Int) == 1) = false := by rw [beq_eq_false_iff_ne]; omega
       have hb2 : ((k : Int) == (t.kind : Int)) = true := by rw [beq_iff_eq]; omega
       clear h1 hk
       go_wp2_with fail
       refine (Fail_sT 2 hM2.rd).mono ?_
       rintro e w3 ⟨rfl, hR3, hr3⟩
       have hM3 := hM2.read hR3 hr3
       clear hM2 hR3 hr3 a0 a2 a4 afr
       obtain ⟨a0, -, a2, -, a4, afr⟩ := hM3.blk.fiveT
       have hE := Err_s (s := rFail 2 s2) hM3.rd
       obtain ⟨q, hq, hq2, hev⟩ : ∃ q : Int, 0 < q ∧ q = ((rFail 2 s2).2 : Int) ∧ errv (rFail 2 s2).2 = .iface 60 (.int .i64 q) := by
        rcases errv_cases (rFail 2 s2).2 with ⟨h0, _⟩ | h
        · exact absurd h0 (rFail_bad (by decide))
        · exact h
       rw [hev] at hE
       have HE := Lib.hid hE
       clear hev hE hq2
       go_wp2_with fail
       refine HE.out.mono ?_
       rintro e w4 ⟨rfl, rfl⟩
       go_wp2_with fail
       go_end0
       exact ⟨rfl, by rw [HT.out]; exact ⟨A, c, E, d, m, hM3⟩⟩
   · have hb1 : ((k : Int) == 1) = false := by rw [beq_eq_false_iff_ne]; omega
     have hb2 : ((k : Int) == (t.kind : Int)) = false := by rw [beq_eq_false_iff_ne]; omega
     go_wp2_with fail
     have hE := Err_s (s := s2) hM2.rd
     rcases errv_cases s2.2 with ⟨he0, hev⟩ | ⟨q, hq, hq2, hev⟩
     · have HT := Lib.hid (c2 hk he0)
       have hnl2 := hnl he0
       rw [hev] at hE
       have HE := Lib.hid hE
       clear c1 c2 c3 hnl hev hE hk
       (exfalso; omega)
     · have HT := Lib.hid (c3 hk (by omega))
       rw [hev] at hE
       have HE := Lib.hid hE
       clear c1 c2 c3 hnl hev hE hq2 hk
       refine HE.out.mono ?_
       rintro e w4 ⟨rfl, rfl⟩
       go_wp2_with fail
       go_end0
       exact ⟨rfl, by rw [HT.out]; exact ⟨A, c, E, d, m, hM2⟩⟩
 · have hs1 : (if t.left < n then rFail 2 t.s else t.s) = t.s := if_neg (by omega)
   have hlI : (n : Int) ≤ (t.left : Int) := by omega
   go_enter Tryz.func139, Tryz.ntmps139
   go_wp2_with fail
   refine (Within_any 3 hM.rd).mono ?_
   rintro e w2 ⟨rfl, hR2, hr2⟩
   have hM2 := hM.read hR2 hr2
   have hk3 := rWithin_leT 3 (t.s)
   generalize hp : rWithin 3 (t.s) = p at *
   obtain ⟨k, s2⟩ := p
   obtain ⟨c1, c2, c3⟩ := tkRow_cases n t hs1 hp
   have hnl : s2.2 = 0 → n ≤ t.left := fun _ => hl
   dsimp only at *
   clear hM hr2 hR2 hp hs1 a0 a2 a4 afr
   obtain ⟨a0, -, a2, -, a4, afr⟩ := hM2.blk.fiveT
   by_cases hk : k = 1 ∨ k = t.kind
   · have HT := Lib.hid (c1 hk)
     clear c1 c2 c3 hnl
     rcases Decidable.em (k = 1) with h1 | h1
     · have hb1 : ((k : Int) == 1) = true := by rw [h1]; rfl
       clear h1 hk
       go_wp2_with fail
       refine (Fail_sT 2 hM2.rd).mono ?_
       rintro e w3 ⟨rfl, hR3, hr3⟩
       have hM3 := hM2.read hR3 hr3
       clear hM2 hR3 hr3 a0 a2 a4 afr
       obtain ⟨a0, -, a2, -, a4, afr⟩ := hM3.blk.fiveT
       have hE := Err_s (s := rFail 2 s2) hM3.rd
       obtain ⟨q, hq, hq2, hev⟩ : ∃ q : Int, 0 < q ∧ q = ((rFail 2 s2).2 : Int) ∧ errv (rFail 2 s2).2 = .iface 60 (.int .i64 q) := by
        rcases errv_cases (rFail 2 s2).2 with ⟨h0, _⟩ | h
        · exact absurd h0 (rFail_bad (by decide))
        · exact h
       rw [hev] at hE
       have HE := Lib.hid hE
       clear hev hE hq2
       go_wp2_with fail
       refine HE.out.mono ?_
       rintro e w4 ⟨rfl, rfl⟩
       go_wp2_with fail
       go_end0
       exact ⟨rfl, by rw [HT.out]; exact ⟨A, c, E, d, m, hM3⟩⟩
     · have hb1 : ((k : Int) == 1) = false := by rw [beq_eq_false_iff_ne]; omega
       have hb2 : ((k : Int) == (t.kind : Int)) = true := by rw [beq_iff_eq]; omega
       clear h1 hk
       go_wp2_with fail
       refine (Fail_sT 2 hM2.rd).mono ?_
       rintro e w3 ⟨rfl, hR3, hr3⟩
       have hM3 := hM2.read hR3 hr3
       clear hM2 hR3 hr3 a0 a2 a4 afr
       obtain ⟨a0, -, a2, -, a4, afr⟩ := hM3.blk.fiveT
       have hE := Err_s (s := rFail 2 s2) hM3.rd
       obtain ⟨q, hq, hq2, hev⟩ : ∃ q : Int, 0 < q ∧ q = ((rFail 2 s2).2 : Int) ∧ errv (rFail 2 s2).2 = .iface 60 (.int .i64 q) := by
        rcases errv_cases (rFail 2 s2).2 with ⟨h0, _⟩ | h
        · exact absurd h0 (rFail_bad (by decide))
        · exact h
       rw [hev] at hE
       have HE := Lib.hid hE
       clear hev hE hq2
       go_wp2_with fail
       refine HE.out.mono ?_
       rintro e w4 ⟨rfl, rfl⟩
       go_wp2_with fail
       go_end0
       exact ⟨rfl, by rw [HT.out]; exact ⟨A, c, E, d, m, hM3⟩⟩
   · have hb1 : ((k : Int) == 1) = false := by rw [beq_eq_false_iff_ne]; omega
     have hb2 : ((k : Int) == (t.kind : Int)) = false := by rw [beq_eq_false_iff_ne]; omega
     go_wp2_with fail
     have hE := Err_s (s := s2) hM2.rd
     rcases errv_cases s2.2 with ⟨he0, hev⟩ | ⟨q, hq, hq2, hev⟩
     · have HT := Lib.hid (c2 hk he0)
       have hnl2 := hnl he0
       rw [hev] at hE
       have HE := Lib.hid hE
       clear c1 c2 c3 hnl hev hE hk
       refine HE.out.mono ?_
       rintro e w4 ⟨rfl, rfl⟩
       clear a0 a2 a4
       have hn64 : n ≤ 64 := by omega
       have hml : m.length ≤ 64 := by
        have := congrArg List.length hM2.out.out
        simp only [List.length_map] at this
        omega
       have hcn : IntKind.i64.wrap (n : Int) = (n : Int) := by rw [IntKind.wrap_i64]; omega
       have hg0 := hM2.gl
       have hg1 := hM2.gt0
       have hst : Below w0.heap.size w2 w2.drew := (Below.refl _ _).drew
       have hst0 : Blk w2.drew gt 226 #[.pointer (some ⟨g, 0, none⟩), .slice A m.length c, .int .i64 (t.left : Nat), .slice E t.last.length d, .int .i64 (t.kind : Nat)] := hM2.blk.drew
       have hst1 : Own w2.drew w0.heap.size 54 2 A m.length c (m.flatMap cf) := World.ownsRow.drew hM2.new.1
       have hst2 : ∀ x ∈ m, OwnB w2.drew w0.heap.size 5 x.2.1 x.2.2.1 x.2.2.2 := fun x hx => World.ownsRow.drew (hM2.new.2 x hx)
       have hst3 : OwnB w2.drew w0.heap.size 5 E d t.last := World.ownsRow.drew hM2.lst
       have hsz : w0.heap.size ≤ w2.heap.size := hM2.size
       go_upto_region 6 with (fail)
       clear afr
       refine wp_region_held_drew (S := (fun W => Below w0.heap.size w2 W)) (by kernel_rfl) ?_ (fun hHeld => ?_)
       · exact hst
       refine gen0 (T := fun W => ((fun W => Below w0.heap.size w2 W)) W ∧ Blk W gt 226 #[.pointer (some ⟨g, 0, none⟩), .slice A m.length c, .int .i64 (t.left : Nat), .slice E t.last.length d, .int .i64 (t.kind : Nat)] ∧ Own W w0.heap.size 54 2 A m.length c (m.flatMap cf) ∧ (∀ x ∈ m, OwnB W w0.heap.size 5 x.2.1 x.2.2.1 x.2.2.2) ∧ OwnB W w0.heap.size 5 E d t.last ∧ True) ?_ (fun wq1 hT => ?_)
       · exact ⟨by (exact hst), by (assumption), by (assumption), by (assumption), by (assumption), trivial⟩
       (try clear f0 f1 f2 f3 f4 f5 f6 f7 f8 f9 f10 f11)
       obtain ⟨hHeld, f0, f1, f2, f3, -⟩ := hT
       refine wTk (i := 0) (oi := ⟨some 45, _, _, _, _, _⟩) (v := ?_) rfl ⟨by kernel_rfl, ?_⟩ (by assumption) ?_
       rotate_left
       · (intro wS hSw; (try dsimp only at hSw); clear hSw; go_simp; (try with_reducible rfl))
       (try simp only [Act.put, pS0, pS1, pS2])
       refine wTk (i := 1) (oi := ⟨some 46, _, _, _, _, _⟩) (v := ?_) rfl ⟨by kernel_rfl, ?_⟩ (by assumption) ?_
       rotate_left
       · (intro wS hSw; (try dsimp only at hSw); clear hSw; go_simp; (try with_reducible rfl))
       (try simp only [Act.put, pS0, pS1, pS2])
       refine wTk (i := 2) (oi := ⟨some 47, _, _, _, _, _⟩) (v := ?_) rfl ⟨by kernel_rfl, ?_⟩ (by assumption) ?_
       rotate_left
       · (intro wS hSw; (try dsimp only at hSw); clear hSw; go_simp; (try with_reducible rfl))
       (try simp only [Act.put, pS0, pS1, pS2])
       refine wTk (i := 3) (oi := ⟨some 48, _, _, _, _, _⟩) (v := ?_) rfl ⟨by kernel_rfl, ?_⟩ (by assumption) ?_
       rotate_left
       · (intro wS hSw; (try dsimp only at hSw); clear hSw; go_simp; (try with_reducible rfl))
       (try simp only [Act.put, pS0, pS1, pS2])
       refine wTk (i := 5) (oi := ⟨some 50, _, _, _, _, _⟩) (v := ?_) rfl ⟨by kernel_rfl, ?_⟩ (by assumption) ?_
       rotate_left
       · (intro wS hSw; (try dsimp only at hSw); clear hSw; go_simp; (try with_reducible rfl))
       (try simp only [Act.put, pS0, pS1, pS2])
       refine wTk (i := 6) (oi := ⟨some 51, _, _, _, _, _⟩) (v := ?_) rfl ⟨by kernel_rfl, ?_⟩ (by assumption) ?_
       rotate_left
       · (intro wS hSw; (try dsimp only at hSw); clear hSw; go_simp; (try with_reducible rfl))
       (try simp only [Act.put, pS0, pS1, pS2])
       refine wTk (i := 8) (oi := ⟨some 53, _, _, _, _, _⟩) (v := ?_) rfl ⟨by kernel_rfl, ?_⟩ (by assumption) ?_
       rotate_left
       · (intro wS hSw; (try dsimp only at hSw); clear hSw; go_simp; (try with_reducible rfl))
       (try simp only [Act.put, pS0, pS1, pS2])
       refine wTk (i := 9) (oi := ⟨some 54, _, _, _, _, _⟩) (v := ?_) rfl ⟨by kernel_rfl, ?_⟩ (by assumption) ?_
       rotate_left
       · (intro wS hSw; (try dsimp only at hSw); clear hSw; go_simp; (try with_reducible rfl))
       (try simp only [Act.put, pS0, pS1, pS2])
       refine wpAnyH_ready (rs := [4, 7]) (by kernel_rfl) (by simp) ?_
       refine AllReadyH.cons (o := ⟨some 49, _, _, _, _, _⟩) rfl (fun K hK => ?_) ?_
       · ((obtain ⟨s0, s1, s2, s3, s4, sf⟩ := f0.fiveT)); go_simp
         refine hK.out _ _ ?_ (fun _ => ?_)
         · ((try dsimp only); (exact hHeld))
         clear hK K
         (try simp only [Act.put, pS0, pS1, pS2])
         refine gen0 (T := fun W => ((fun W => Below w0.heap.size w2 W)) W ∧ Blk W gt 226 #[.pointer (some ⟨g, 0, none⟩), .slice A m.length c, .int .i64 (t.left : Nat), .slice E t.last.length d, .int .i64 (t.kind : Nat)] ∧ Own W w0.heap.size 54 2 A m.length c (m.flatMap cf) ∧ (∀ x ∈ m, OwnB W w0.heap.size 5 x.2.1 x.2.2.1 x.2.2.2) ∧ OwnB W w0.heap.size 5 E d t.last ∧ True) ?_ (fun wq2 hT => ?_)
         · exact ⟨by (exact hHeld), by (assumption), by (assumption), by (assumption), by (assumption), trivial⟩
         (try clear f0 f1 f2 f3 f4 f5 f6 f7 f8 f9 f10 f11)
         obtain ⟨hHeld, f0, f1, f2, f3, -⟩ := hT
         refine wR1 (i := 7) (o := ⟨some 52, _, _, _, _, _⟩) rfl (fun K hK => ?_)
         ((obtain ⟨s0, s1, s2, s3, s4, sf⟩ := f0.fiveT)); go_simp
         refine hK.out _ _ ?_ (fun _ => ?_)
         · ((try dsimp only); (exact hHeld.alloc (Nat.le_trans hsz hHeld.size) _))
         clear hK K
         (try simp only [Act.put, pS0, pS1, pS2])
         refine gen0 (T := fun W => ((fun W => Below w0.heap.size w2 W)) W ∧ Blk W gt 226 #[.pointer (some ⟨g, 0, none⟩), .slice A m.length c, .int .i64 (t.left : Nat), .slice E t.last.length d, .int .i64 (t.kind : Nat)] ∧ Own W w0.heap.size 54 2 A m.length c (m.flatMap cf) ∧ (∀ x ∈ m, OwnB W w0.heap.size 5 x.2.1 x.2.2.1 x.2.2.2) ∧ OwnB W w0.heap.size 5 E d t.last ∧ Sl W 2 (some ⟨wq2.heap.size, 0, none⟩) 1 1 (cf ((k : Int), none, 0, [])) ∧ True) ?_ (fun wq3 hT => ?_)
         · exact ⟨by (exact hHeld.alloc (Nat.le_trans hsz hHeld.size) _), by (exact f0.alloc _), by (exact World.ownsRow.alloc f1 _), by (exact fun x hx => World.ownsRow.alloc (f2 x hx) _), by (exact World.ownsRow.alloc f3 _), by (exact Sl.litsS _ 2 1 (cf ((k : Int), none, 0, [])) 54 rfl (by simp [maxLen])), trivial⟩
         (try clear f0 f1 f2 f3 f4 f5 f6 f7 f8 f9 f10 f11)
         obtain ⟨hHeld, f0, f1, f2, f3, f4, -⟩ := hT
         refine wR1 (i := 10) (o := ⟨some 55, _, _, _, _, _⟩) rfl (fun K hK => ?_)
         go_simp
         (refine (Repeat_any (k : Int) n _ f4 (by omega) hn64).mono ?_; rintro e w9 ⟨B9, d9, rfl, ho9, hb9⟩)
         go_wp2_with fail
         refine hK.out _ _ ?_ (fun _ => ?_)
         · ((try dsimp only); (exact hHeld.trans (hb9.mono (Nat.le_trans hsz hHeld.size))))
         clear hK K
         (try simp only [Act.put, pS0, pS1, pS2])
         refine gen0 (T := fun W => ((fun W => Below w0.heap.size w2 W)) W ∧ Blk W gt 226 #[.pointer (some ⟨g, 0, none⟩), .slice A m.length c, .int .i64 (t.left : Nat), .slice E t.last.length d, .int .i64 (t.kind : Nat)] ∧ Own W w0.heap.size 54 2 A m.length c (m.flatMap cf) ∧ (∀ x ∈ m, OwnB W w0.heap.size 5 x.2.1 x.2.2.1 x.2.2.2) ∧ OwnB W w0.heap.size 5 E d t.last ∧ Own W w0.heap.size 54 2 B9 n d9 ((List.replicate n (((k : Int), none, 0, []) : CeV)).flatMap cf) ∧ True) ?_ (fun wq4 hT => ?_)
         · exact ⟨by (exact hHeld.trans (hb9.mono (Nat.le_trans hsz hHeld.size))), by (exact f0.below hb9), by (exact Own.below f1 hb9), by (exact fun x hx => Own.below (f2 x hx) hb9), by (exact Own.below f3 hb9), by (exact ho9.more (Nat.le_trans hsz hHeld.size)), trivial⟩
         (try clear f0 f1 f2 f3 f4 f5 f6 f7 f8 f9 f10 f11)
         obtain ⟨hHeld, f0, f1, f2, f3, f4, -⟩ := hT
         refine wR1 (i := 11) (o := ⟨some 56, _, _, _, _, _⟩) rfl (fun K hK => ?_)
         (refine step_cells (by kernel_rfl) (.tmp 49) (.tmp 55) rfl w0.heap.size A c m rfl f1 B9 d9 n (List.replicate n (((k : Int), none, 0, []) : CeV)) (by simp) rfl (by simpa using f4.sl) (by simp; omega) (Nat.le_trans hsz hHeld.size) ?_; intro A11 c11 m11 w11 hm11 ho11 hg11 hb11)
         refine hK.out _ _ ?_ (fun _ => ?_)
         · ((try dsimp only); (exact hHeld.trans hb11))
         clear hK K
         (try simp only [Act.put, pS0, pS1, pS2])
         refine gen0 (T := fun W => ((fun W => Below w0.heap.size w2 W)) W ∧ Blk W gt 226 #[.pointer (some ⟨g, 0, none⟩), .slice A m.length c, .int .i64 (t.left : Nat), .slice E t.last.length d, .int .i64 (t.kind : Nat)] ∧ (∀ x ∈ m, OwnB W w0.heap.size 5 x.2.1 x.2.2.1 x.2.2.2) ∧ OwnB W w0.heap.size 5 E d t.last ∧ Own W w0.heap.size 54 2 A11 m11.length c11 (m11.flatMap cf) ∧ True) ?_ (fun wq5 hT => ?_)
         · exact ⟨by (exact hHeld.trans hb11), by (exact f0.grown f1 (by decide) hg11), by (exact fun x hx => (f2 x hx).other f1 hg11 (by decide)), by (exact f3.other f1 hg11 (by decide)), by (assumption), trivial⟩
         (try clear f0 f1 f2 f3 f4 f5 f6 f7 f8 f9 f10 f11)
         obtain ⟨hHeld, f0, f1, f2, f3, -⟩ := hT
         refine wTk (i := 12) (oi := ⟨some 57, _, _, _, _, _⟩) (v := ?_) rfl ⟨by kernel_rfl, ?_⟩ (by assumption) ?_
         rotate_left
         · (intro wS hSw; (try dsimp only at hSw); clear hSw; go_simp; (try with_reducible rfl))
         (try simp only [Act.put, pS0, pS1, pS2])
         refine wTk (i := 13) (oi := ⟨some 58, _, _, _, _, _⟩) (v := ?_) rfl ⟨by kernel_rfl, ?_⟩ (by assumption) ?_
         rotate_left
         · (intro wS hSw; (try dsimp only at hSw); clear hSw; go_simp; (try with_reducible rfl))
         (try simp only [Act.put, pS0, pS1, pS2])
         refine wR1 (i := 14) (o := ⟨none, _, _, _, _, _⟩) rfl (fun K hK => ?_)
         obtain ⟨s0, s1, s2, s3, s4, sf⟩ := f0.fiveT
         ((obtain ⟨s0, s1, s2, s3, s4, sf⟩ := f0.fiveT)); go_simp
         refine hK.out _ _ ?_ (fun _ => ?_)
         · ((try dsimp only); (exact hHeld.setCell (by dsimp only; omega) _))
         clear hK K
         (try simp only [Act.put, pS0, pS1, pS2])
         refine gen0 (T := fun W => ((fun W => Below w0.heap.size w2 W)) W ∧ (∀ x ∈ m, OwnB W w0.heap.size 5 x.2.1 x.2.2.1 x.2.2.2) ∧ OwnB W w0.heap.size 5 E d t.last ∧ Own W w0.heap.size 54 2 A11 m11.length c11 (m11.flatMap cf) ∧ Blk W gt 226 #[.pointer (some ⟨g, 0, none⟩), .slice A11 m11.length c11, .int .i64 (t.left : Nat), .slice E t.last.length d, .int .i64 (t.kind : Nat)] ∧ True) ?_ (fun wq6 hT => ?_)
         · exact ⟨by (exact hHeld.setCell (by dsimp only; omega) _), by (exact fun x hx => (f1 x hx).setOther (Own.offBlk (f1 x hx) f0 (by decide)) _ _), by (exact f2.setOther (Own.offBlk f2 f0 (by decide)) _ _), by (exact f3.setOther (Own.offBlk f3 f0 (by decide)) _ _), by (exact f0.set_ 1 _), trivial⟩
         (try clear f0 f1 f2 f3 f4 f5 f6 f7 f8 f9 f10 f11)
         obtain ⟨hHeld, f0, f1, f2, f3, -⟩ := hT
         refine wpAnyH_done (by kernel_rfl) ?_ _
         (obtain ⟨s0, s1, s2, s3, s4, sf⟩ := f3.fiveT; go_wp2_with fail; go_end0; exact ⟨rfl, by rw [HT.out]; exact row_fin hM2 hHeld f0 f1 f2 hm11 f3 hnl2⟩)
       refine AllReadyH.cons (o := ⟨some 52, _, _, _, _, _⟩) rfl (fun K hK => ?_) ?_
       · ((obtain ⟨s0, s1, s2, s3, s4, sf⟩ := f0.fiveT)); go_simp
         refine hK.out _ _ ?_ (fun _ => ?_)
         · ((try dsimp only); (exact hHeld.alloc (Nat.le_trans hsz hHeld.size) _))
         clear hK K
         (try simp only [Act.put, pS0, pS1, pS2])
         refine gen0 (T := fun W => ((fun W => Below w0.heap.size w2 W)) W ∧ Blk W gt 226 #[.pointer (some ⟨g, 0, none⟩), .slice A m.length c, .int .i64 (t.left : Nat), .slice E t.last.length d, .int .i64 (t.kind : Nat)] ∧ Own W w0.heap.size 54 2 A m.length c (m.flatMap cf) ∧ (∀ x ∈ m, OwnB W w0.heap.size 5 x.2.1 x.2.2.1 x.2.2.2) ∧ OwnB W w0.heap.size 5 E d t.last ∧ Sl W 2 (some ⟨wq1.heap.size, 0, none⟩) 1 1 (cf ((k : Int), none, 0, [])) ∧ True) ?_ (fun wq7 hT => ?_)
         · exact ⟨by (exact hHeld.alloc (Nat.le_trans hsz hHeld.size) _), by (exact f0.alloc _), by (exact World.ownsRow.alloc f1 _), by (exact fun x hx => World.ownsRow.alloc (f2 x hx) _), by (exact World.ownsRow.alloc f3 _), by (exact Sl.litsS _ 2 1 (cf ((k : Int), none, 0, [])) 54 rfl (by simp [maxLen])), trivial⟩
         (try clear f0 f1 f2 f3 f4 f5 f6 f7 f8 f9 f10 f11)
         obtain ⟨hHeld, f0, f1, f2, f3, f4, -⟩ := hT
         refine wpAnyH_ready (rs := [4, 10]) (by kernel_rfl) (by simp) ?_
         refine AllReadyH.cons (o := ⟨some 49, _, _, _, _, _⟩) rfl (fun K hK => ?_) ?_
         · ((obtain ⟨s0, s1, s2, s3, s4, sf⟩ := f0.fiveT)); go_simp
           refine hK.out _ _ ?_ (fun _ => ?_)
           · ((try dsimp only); (exact hHeld))
           clear hK K
           (try simp only [Act.put, pS0, pS1, pS2])
           refine gen0 (T := fun W => ((fun W => Below w0.heap.size w2 W)) W ∧ Blk W gt 226 #[.pointer (some ⟨g, 0, none⟩), .slice A m.length c, .int .i64 (t.left : Nat), .slice E t.last.length d, .int .i64 (t.kind : Nat)] ∧ Own W w0.heap.size 54 2 A m.length c (m.flatMap cf) ∧ (∀ x ∈ m, OwnB W w0.heap.size 5 x.2.1 x.2.2.1 x.2.2.2) ∧ OwnB W w0.heap.size 5 E d t.last ∧ Sl W 2 (some ⟨wq1.heap.size, 0, none⟩) 1 1 (cf ((k : Int), none, 0, [])) ∧ True) ?_ (fun wq8 hT => ?_)
           · exact ⟨by (exact hHeld), by (assumption), by (assumption), by (assumption), by (assumption), by (assumption), trivial⟩
           (try clear f0 f1 f2 f3 f4 f5 f6 f7 f8 f9 f10 f11)
           obtain ⟨hHeld, f0, f1, f2, f3, f4, -⟩ := hT
           refine wR1 (i := 10) (o := ⟨some 55, _, _, _, _, _⟩) rfl (fun K hK => ?_)
           go_simp
           (refine (Repeat_any (k : Int) n _ f4 (by omega) hn64).mono ?_; rintro e w9 ⟨B9, d9, rfl, ho9, hb9⟩)
           go_wp2_with fail
           refine hK.out _ _ ?_ (fun _ => ?_)
           · ((try dsimp only); (exact hHeld.trans (hb9.mono (Nat.le_trans hsz hHeld.size))))
           clear hK K
           (try simp only [Act.put, pS0, pS1, pS2])
           refine gen0 (T := fun W => ((fun W => Below w0.heap.size w2 W)) W ∧ Blk W gt 226 #[.pointer (some ⟨g, 0, none⟩), .slice A m.length c, .int .i64 (t.left : Nat), .slice E t.last.length d, .int .i64 (t.kind : Nat)] ∧ Own W w0.heap.size 54 2 A m.length c (m.flatMap cf) ∧ (∀ x ∈ m, OwnB W w0.heap.size 5 x.2.1 x.2.2.1 x.2.2.2) ∧ OwnB W w0.heap.size 5 E d t.last ∧ Own W w0.heap.size 54 2 B9 n d9 ((List.replicate n (((k : Int), none, 0, []) : CeV)).flatMap cf) ∧ True) ?_ (fun wq9 hT => ?_)
           · exact ⟨by (exact hHeld.trans (hb9.mono (Nat.le_trans hsz hHeld.size))), by (exact f0.below hb9), by (exact Own.below f1 hb9), by (exact fun x hx => Own.below (f2 x hx) hb9), by (exact Own.below f3 hb9), by (exact ho9.more (Nat.le_trans hsz hHeld.size)), trivial⟩
           (try clear f0 f1 f2 f3 f4 f5 f6 f7 f8 f9 f10 f11)
           obtain ⟨hHeld, f0, f1, f2, f3, f4, -⟩ := hT
           refine wR1 (i := 11) (o := ⟨some 56, _, _, _, _, _⟩) rfl (fun K hK => ?_)
           (refine step_cells (by kernel_rfl) (.tmp 49) (.tmp 55) rfl w0.heap.size A c m rfl f1 B9 d9 n (List.replicate n (((k : Int), none, 0, []) : CeV)) (by simp) rfl (by simpa using f4.sl) (by simp; omega) (Nat.le_trans hsz hHeld.size) ?_; intro A11 c11 m11 w11 hm11 ho11 hg11 hb11)
           refine hK.out _ _ ?_ (fun _ => ?_)
           · ((try dsimp only); (exact hHeld.trans hb11))
           clear hK K
           (try simp only [Act.put, pS0, pS1, pS2])
           refine gen0 (T := fun W => ((fun W => Below w0.heap.size w2 W)) W ∧ Blk W gt 226 #[.pointer (some ⟨g, 0, none⟩), .slice A m.length c, .int .i64 (t.left : Nat), .slice E t.last.length d, .int .i64 (t.kind : Nat)] ∧ (∀ x ∈ m, OwnB W w0.heap.size 5 x.2.1 x.2.2.1 x.2.2.2) ∧ OwnB W w0.heap.size 5 E d t.last ∧ Own W w0.heap.size 54 2 A11 m11.length c11 (m11.flatMap cf) ∧ True) ?_ (fun wq10 hT => ?_)
           · exact ⟨by (exact hHeld.trans hb11), by (exact f0.grown f1 (by decide) hg11), by (exact fun x hx => (f2 x hx).other f1 hg11 (by decide)), by (exact f3.other f1 hg11 (by decide)), by (assumption), trivial⟩
           (try clear f0 f1 f2 f3 f4 f5 f6 f7 f8 f9 f10 f11)
           obtain ⟨hHeld, f0, f1, f2, f3, -⟩ := hT
           refine wTk (i := 12) (oi := ⟨some 57, _, _, _, _, _⟩) (v := ?_) rfl ⟨by kernel_rfl, ?_⟩ (by assumption) ?_
           rotate_left
           · (intro wS hSw; (try dsimp only at hSw); clear hSw; go_simp; (try with_reducible rfl))
           (try simp only [Act.put, pS0, pS1, pS2])
           refine wTk (i := 13) (oi := ⟨some 58, _, _, _, _, _⟩) (v := ?_) rfl ⟨by kernel_rfl, ?_⟩ (by assumption) ?_
           rotate_left
           · (intro wS hSw; (try dsimp only at hSw); clear hSw; go_simp; (try with_reducible rfl))
           (try simp only [Act.put, pS0, pS1, pS2])
           refine wR1 (i := 14) (o := ⟨none, _, _, _, _, _⟩) rfl (fun K hK => ?_)
           obtain ⟨s0, s1, s2, s3, s4, sf⟩ := f0.fiveT
           ((obtain ⟨s0, s1, s2, s3, s4, sf⟩ := f0.fiveT)); go_simp
           refine hK.out _ _ ?_ (fun _ => ?_)
           · ((try dsimp only); (exact hHeld.setCell (by dsimp only; omega) _))
           clear hK K
           (try simp only [Act.put, pS0, pS1, pS2])
           refine gen0 (T := fun W => ((fun W => Below w0.heap.size w2 W)) W ∧ (∀ x ∈ m, OwnB W w0.heap.size 5 x.2.1 x.2.2.1 x.2.2.2) ∧ OwnB W w0.heap.size 5 E d t.last ∧ Own W w0.heap.size 54 2 A11 m11.length c11 (m11.flatMap cf) ∧ Blk W gt 226 #[.pointer (some ⟨g, 0, none⟩), .slice A11 m11.length c11, .int .i64 (t.left : Nat), .slice E t.last.length d, .int .i64 (t.kind : Nat)] ∧ True) ?_ (fun wq11 hT => ?_)
           · exact ⟨by (exact hHeld.setCell (by dsimp only; omega) _), by (exact fun x hx => (f1 x hx).setOther (Own.offBlk (f1 x hx) f0 (by decide)) _ _), by (exact f2.setOther (Own.offBlk f2 f0 (by decide)) _ _), by (exact f3.setOther (Own.offBlk f3 f0 (by decide)) _ _), by (exact f0.set_ 1 _), trivial⟩
           (try clear f0 f1 f2 f3 f4 f5 f6 f7 f8 f9 f10 f11)
           obtain ⟨hHeld, f0, f1, f2, f3, -⟩ := hT
           refine wpAnyH_done (by kernel_rfl) ?_ _
           (obtain ⟨s0, s1, s2, s3, s4, sf⟩ := f3.fiveT; go_wp2_with fail; go_end0; exact ⟨rfl, by rw [HT.out]; exact row_fin hM2 hHeld f0 f1 f2 hm11 f3 hnl2⟩)
         refine AllReadyH.cons (o := ⟨some 55, _, _, _, _, _⟩) rfl (fun K hK => ?_) ?_
         · go_simp
           (refine (Repeat_any (k : Int) n _ f4 (by omega) hn64).mono ?_; rintro e w9 ⟨B9, d9, rfl, ho9, hb9⟩)
           go_wp2_with fail
           refine hK.out _ _ ?_ (fun _ => ?_)
           · ((try dsimp only); (exact hHeld.trans (hb9.mono (Nat.le_trans hsz hHeld.size))))
           clear hK K
           (try simp only [Act.put, pS0, pS1, pS2])
           refine gen0 (T := fun W => ((fun W => Below w0.heap.size w2 W)) W ∧ Blk W gt 226 #[.pointer (some ⟨g, 0, none⟩), .slice A m.length c, .int .i64 (t.left : Nat), .slice E t.last.length d, .int .i64 (t.kind : Nat)] ∧ Own W w0.heap.size 54 2 A m.length c (m.flatMap cf) ∧ (∀ x ∈ m, OwnB W w0.heap.size 5 x.2.1 x.2.2.1 x.2.2.2) ∧ OwnB W w0.heap.size 5 E d t.last ∧ Own W w0.heap.size 54 2 B9 n d9 ((List.replicate n (((k : Int), none, 0, []) : CeV)).flatMap cf) ∧ True) ?_ (fun wq12 hT => ?_)
           · exact ⟨by (exact hHeld.trans (hb9.mono (Nat.le_trans hsz hHeld.size))), by (exact f0.below hb9), by (exact Own.below f1 hb9), by (exact fun x hx => Own.below (f2 x hx) hb9), by (exact Own.below f3 hb9), by (exact ho9.more (Nat.le_trans hsz hHeld.size)), trivial⟩
           (try clear f0 f1 f2 f3 f4 f5 f6 f7 f8 f9 f10 f11)
           obtain ⟨hHeld, f0, f1, f2, f3, f4, -⟩ := hT
           refine wR1 (i := 4) (o := ⟨some 49, _, _, _, _, _⟩) rfl (fun K hK => ?_)
           ((obtain ⟨s0, s1, s2, s3, s4, sf⟩ := f0.fiveT)); go_simp
           refine hK.out _ _ ?_ (fun _ => ?_)
           · ((try dsimp only); (exact hHeld))
           clear hK K
           (try simp only [Act.put, pS0, pS1, pS2])
           refine gen0 (T := fun W => ((fun W => Below w0.heap.size w2 W)) W ∧ Blk W gt 226 #[.pointer (some ⟨g, 0, none⟩), .slice A m.length c, .int .i64 (t.left : Nat), .slice E t.last.length d, .int .i64 (t.kind : Nat)] ∧ Own W w0.heap.size 54 2 A m.length c (m.flatMap cf) ∧ (∀ x ∈ m, OwnB W w0.heap.size 5 x.2.1 x.2.2.1 x.2.2.2) ∧ OwnB W w0.heap.size 5 E d t.last ∧ Own W w0.heap.size 54 2 B9 n d9 ((List.replicate n (((k : Int), none, 0, []) : CeV)).flatMap cf) ∧ True) ?_ (fun wq13 hT => ?_)
           · exact ⟨by (exact hHeld), by (assumption), by (assumption), by (assumption), by (assumption), by (assumption), trivial⟩
           (try clear f0 f1 f2 f3 f4 f5 f6 f7 f8 f9 f10 f11)
           obtain ⟨hHeld, f0, f1, f2, f3, f4, -⟩ := hT
           refine wR1 (i := 11) (o := ⟨some 56, _, _, _, _, _⟩) rfl (fun K hK => ?_)
           (refine step_cells (by kernel_rfl) (.tmp 49) (.tmp 55) rfl w0.heap.size A c m rfl f1 B9 d9 n (List.replicate n (((k : Int), none, 0, []) : CeV)) (by simp) rfl (by simpa using f4.sl) (by simp; omega) (Nat.le_trans hsz hHeld.size) ?_; intro A11 c11 m11 w11 hm11 ho11 hg11 hb11)
           refine hK.out _ _ ?_ (fun _ => ?_)
           · ((try dsimp only); (exact hHeld.trans hb11))
           clear hK K
           (try simp only [Act.put, pS0, pS1, pS2])
           refine gen0 (T := fun W => ((fun W => Below w0.heap.size w2 W)) W ∧ Blk W gt 226 #[.pointer (some ⟨g, 0, none⟩), .slice A m.length c, .int .i64 (t.left : Nat), .slice E t.last.length d, .int .i64 (t.kind : Nat)] ∧ (∀ x ∈ m, OwnB W w0.heap.size 5 x.2.1 x.2.2.1 x.2.2.2) ∧ OwnB W w0.heap.size 5 E d t.last ∧ Own W w0.heap.size 54 2 A11 m11.length c11 (m11.flatMap cf) ∧ True) ?_ (fun wq14 hT => ?_)
           · exact ⟨by (exact hHeld.trans hb11), by (exact f0.grown f1 (by decide) hg11), by (exact fun x hx => (f2 x hx).other f1 hg11 (by decide)), by (exact f3.other f1 hg11 (by decide)), by (assumption), trivial⟩
           (try clear f0 f1 f2 f3 f4 f5 f6 f7 f8 f9 f10 f11)
           obtain ⟨hHeld, f0, f1, f2, f3, -⟩ := hT
           refine wTk (i := 12) (oi := ⟨some 57, _, _, _, _, _⟩) (v := ?_) rfl ⟨by kernel_rfl, ?_⟩ (by assumption) ?_
           rotate_left
           · (intro wS hSw; (try dsimp only at hSw); clear hSw; go_simp; (try with_reducible rfl))
           (try simp only [Act.put, pS0, pS1, pS2])
           refine wTk (i := 13) (oi := ⟨some 58, _, _, _, _, _⟩) (v := ?_) rfl ⟨by kernel_rfl, ?_⟩ (by assumption) ?_
           rotate_left
           · (intro wS hSw; (try dsimp only at hSw); clear hSw; go_simp; (try with_reducible rfl))
           (try simp only [Act.put, pS0, pS1, pS2])
           refine wR1 (i := 14) (o := ⟨none, _, _, _, _, _⟩) rfl (fun K hK => ?_)
           obtain ⟨s0, s1, s2, s3, s4, sf⟩ := f0.fiveT
           ((obtain ⟨s0, s1, s2, s3, s4, sf⟩ := f0.fiveT)); go_simp
           refine hK.out _ _ ?_ (fun _ => ?_)
           · ((try dsimp only); (exact hHeld.setCell (by dsimp only; omega) _))
           clear hK K
           (try simp only [Act.put, pS0, pS1, pS2])
           refine gen0 (T := fun W => ((fun W => Below w0.heap.size w2 W)) W ∧ (∀ x ∈ m, OwnB W w0.heap.size 5 x.2.1 x.2.2.1 x.2.2.2) ∧ OwnB W w0.heap.size 5 E d t.last ∧ Own W w0.heap.size 54 2 A11 m11.length c11 (m11.flatMap cf) ∧ Blk W gt 226 #[.pointer (some ⟨g, 0, none⟩), .slice A11 m11.length c11, .int .i64 (t.left : Nat), .slice E t.last.length d, .int .i64 (t.kind : Nat)] ∧ True) ?_ (fun wq15 hT => ?_)
           · exact ⟨by (exact hHeld.setCell (by dsimp only; omega) _), by (exact fun x hx => (f1 x hx).setOther (Own.offBlk (f1 x hx) f0 (by decide)) _ _), by (exact f2.setOther (Own.offBlk f2 f0 (by decide)) _ _), by (exact f3.setOther (Own.offBlk f3 f0 (by decide)) _ _), by (exact f0.set_ 1 _), trivial⟩
           (try clear f0 f1 f2 f3 f4 f5 f6 f7 f8 f9 f10 f11)
           obtain ⟨hHeld, f0, f1, f2, f3, -⟩ := hT
           refine wpAnyH_done (by kernel_rfl) ?_ _
           (obtain ⟨s0, s1, s2, s3, s4, sf⟩ := f3.fiveT; go_wp2_with fail; go_end0; exact ⟨rfl, by rw [HT.out]; exact row_fin hM2 hHeld f0 f1 f2 hm11 f3 hnl2⟩)
         exact AllReadyH.nil
       exact AllReadyH.nil
     · have HT := Lib.hid (c3 hk (by omega))
       rw [hev] at hE
       have HE := Lib.hid hE
       clear c1 c2 c3 hnl hev hE hq2 hk
       refine HE.out.mono ?_
       rintro e w4 ⟨rfl, rfl⟩
       go_wp2_with fail
       go_end0
       exact ⟨rfl, by rw [HT.out]; exact ⟨A, c, E, d, m, hM2⟩⟩
end Go.Proofs.YtajfnmohlnkncaaGreatDoor
