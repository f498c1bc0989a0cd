/- WHAT IT HOLDS: cells that are the document's, walked. | WHAT IT HOLDS: the ways through a round of taking a run, plainly. -/
import Derived.Test.YtjkdnnekagcdhaaCellBackG13
import Derived.Test.YtjkdnnekagcdhaaCellBackG08
import Derived.Test.YtjkdnnekagcdhaaCellBackG04
namespace Go.Proofs.Ytjkdnnekagcdhaa
open Go.RowKit
attribute [local go_sem ↓] Go.wp_at_zero Go.wp_at_succ

set_option maxRecDepth 100000 in
set_option maxHeartbeats 2000000 in
theorem Are_true {E G : Option Addr} {cap cap2 : Nat} (cs : List CeV) (ds : List Ce) (w : World) (h : SlC w E cap cs) (h2 : SlD w G cap2 ds) (he : cs.map ceOf = ds) (hl0 : cs.length ≤ 1000000) :
    Calls Try.prog 40 #[.slice E cs.length cap, .slice G ds.length cap2] w fun e w' => e = .returned (.bool true) ∧ Below w.heap.size w w' := by
  have hlen : ds.length = cs.length := by rw [← he]; simp
  have HE := Lib.hid he
  have hlb : ((cs.length : Int) != (ds.length : Int)) = false := by simp [hlen]
  have hdl : ds.length ≤ 1000000 := by omega
  have HLEN := Lib.hid hlen
  clear he hlen
  go_enter Try.func40, Try.ntmps40
  go_wp2_with fail
  go_loopw [13] (fun x wr => ∃ k : Nat, k ≤ cs.length ∧ x = .int .i64 k ∧ Below w.heap.size w wr) (fun x w => cs.length - (intOf x).toNat)
  case atStart => exact ⟨0, Nat.zero_le _, rfl, Below.refl _ _⟩
  case round =>
    obtain ⟨k, hk, rfl, hbr⟩ := hrel
    by_cases hlt : k < cs.length
    · have hlt2 : k < ds.length := by rw [HLEN.out]; exact hlt
      obtain ⟨ad, b, o, rfl, had, hc0, hc1, hsx⟩ := (h.below hbr).at2 hlt
      obtain ⟨ad2, b2, o2, rfl, had2, hdd⟩ := (h2.below hbr).atS (f := df) (fun _ => rfl) (by decide) hlt2
      have hx : Hid (ds[k] = ceOf cs[k]) := (show _ = _ from by
        have := HE.out
        subst this
        simp)
      rw [hx.out] at hdd
      clear hx
      generalize cs[k] = x at *
      obtain ⟨kk, A, c, d⟩ := x
      dsimp only [ceOf] at *
      have hd0 := hdd 0 _ rfl
      have hd1 := hdd 1 _ rfl
      rw [Nat.add_zero] at hd0
      have hb1 := World.block_lt_of_cell? _ _ hc0
      have hb2 := World.block_lt_of_cell? _ _ hd0
      have hcW : Hid (∀ W, Below wr.heap.size wr W → W.cell? ⟨b, o, none⟩ = some (.int .i64 kk) ∧ W.cell? ⟨b, o + 1, none⟩ = some (.slice A d.length c) ∧ W.cell? ⟨b2, o2, none⟩ = some (.int .i64 kk) ∧ W.cell? ⟨b2, o2 + 1, none⟩ = some (.string ⟨d.toArray⟩)) :=
        (show ∀ W, Below wr.heap.size wr W → _ from fun W hW => ⟨(hW.cell (p := ⟨b, o, none⟩) hb1).trans hc0, (hW.cell (p := ⟨b, o + 1, none⟩) hb1).trans hc1, (hW.cell (p := ⟨b2, o2, none⟩) hb2).trans hd0, (hW.cell (p := ⟨b2, o2 + 1, none⟩) hb2).trans hd1⟩)
      clear hdd hc0 hc1 hd0 hd1 hb1 hb2
      have hnn := neq_dv kk kk d d
      rw [show same (kk, d) (kk, d) = true from same_iff.2 rfl] at hnn
      have hst : Below wr.heap.size wr wr.drew := (Below.refl _ _).drew
      have hk0 : (0 : Int) ≤ (k : Int) := by omega
      have hk1 : (k : Int) < (cs.length : Int) := by omega
      have hk2 : (k : Int) < (ds.length : Int) := by omega
      go_upto_region 6 with (fail)
      refine wp_region_held_drew (S := (fun W => Below wr.heap.size wr W)) (by kernel_rfl) ?_ (fun hHeld => ?_)
      · exact hst
      refine gen0 (T := fun W => ((fun W => Below wr.heap.size wr W)) W ∧ True) ?_ (fun wq1 hT => ?_)
      · exact ⟨by (first | exact hst | exact hHeld | exact bel_call hHeld hb8), trivial⟩
      (try clear f0 f1 f2 f3 f4 f5 f6 f7 f8 f9 f10 f11)
      obtain ⟨hHeld, -⟩ := hT
      refine wpAnyH_take (i := 0) (oi := ⟨some 16, _, _, _, _, _⟩) (v := ?_) rfl (by kernel_rfl) (by kernel_rfl) (by kernel_rfl) (fun _ _ _ h => h) (Or.inl ⟨by kernel_rfl, ?_⟩) (by assumption) ?_
      rotate_left
      · (intro wS hSw; (try dsimp only at hSw); obtain ⟨r0, r1, r2, r3⟩ := hcW.out _ hSw; clear hSw; go_simp; (try with_reducible rfl))
      (try simp only [Act.put, List.setIfInBounds_toArray, List.set_cons_zero, List.set_cons_succ])
      refine wpAnyH_take (i := 1) (oi := ⟨some 17, _, _, _, _, _⟩) (v := ?_) rfl (by kernel_rfl) (by kernel_rfl) (by kernel_rfl) (fun _ _ _ h => h) (Or.inl ⟨by kernel_rfl, ?_⟩) (by assumption) ?_
      rotate_left
      · (intro wS hSw; (try dsimp only at hSw); obtain ⟨r0, r1, r2, r3⟩ := hcW.out _ hSw; clear hSw; go_simp; (try with_reducible rfl))
      (try simp only [Act.put, List.setIfInBounds_toArray, List.set_cons_zero, List.set_cons_succ])
      refine wpAnyH_take (i := 2) (oi := ⟨some 18, _, _, _, _, _⟩) (v := ?_) rfl (by kernel_rfl) (by kernel_rfl) (by kernel_rfl) (fun _ _ _ h => h) (Or.inl ⟨by kernel_rfl, ?_⟩) (by assumption) ?_
      rotate_left
      · (intro wS hSw; (try dsimp only at hSw); obtain ⟨r0, r1, r2, r3⟩ := hcW.out _ hSw; clear hSw; go_simp; (try with_reducible rfl))
      (try simp only [Act.put, List.setIfInBounds_toArray, List.set_cons_zero, List.set_cons_succ])
      refine wpAnyH_take (i := 3) (oi := ⟨some 19, _, _, _, _, _⟩) (v := ?_) rfl (by kernel_rfl) (by kernel_rfl) (by kernel_rfl) (fun _ _ _ h => h) (Or.inl ⟨by kernel_rfl, ?_⟩) (by assumption) ?_
      rotate_left
      · (intro wS hSw; (try dsimp only at hSw); obtain ⟨r0, r1, r2, r3⟩ := hcW.out _ hSw; clear hSw; go_simp; (try with_reducible rfl))
      (try simp only [Act.put, List.setIfInBounds_toArray, List.set_cons_zero, List.set_cons_succ])
      refine wpAnyH_take (i := 5) (oi := ⟨some 21, _, _, _, _, _⟩) (v := ?_) rfl (by kernel_rfl) (by kernel_rfl) (by kernel_rfl) (fun _ _ _ h => h) (Or.inl ⟨by kernel_rfl, ?_⟩) (by assumption) ?_
      rotate_left
      · (intro wS hSw; (try dsimp only at hSw); obtain ⟨r0, r1, r2, r3⟩ := hcW.out _ hSw; clear hSw; go_simp; (try with_reducible rfl))
      (try simp only [Act.put, List.setIfInBounds_toArray, List.set_cons_zero, List.set_cons_succ])
      refine wpAnyH_take (i := 6) (oi := ⟨some 22, _, _, _, _, _⟩) (v := ?_) rfl (by kernel_rfl) (by kernel_rfl) (by kernel_rfl) (fun _ _ _ h => h) (Or.inl ⟨by kernel_rfl, ?_⟩) (by assumption) ?_
      rotate_left
      · (intro wS hSw; (try dsimp only at hSw); obtain ⟨r0, r1, r2, r3⟩ := hcW.out _ hSw; clear hSw; go_simp; (try with_reducible rfl))
      (try simp only [Act.put, List.setIfInBounds_toArray, List.set_cons_zero, List.set_cons_succ])
      refine wpAnyH_take (i := 7) (oi := ⟨some 23, _, _, _, _, _⟩) (v := ?_) rfl (by kernel_rfl) (by kernel_rfl) (by kernel_rfl) (fun _ _ _ h => h) (Or.inl ⟨by kernel_rfl, ?_⟩) (by assumption) ?_
      rotate_left
      · (intro wS hSw; (try dsimp only at hSw); obtain ⟨r0, r1, r2, r3⟩ := hcW.out _ hSw; clear hSw; go_simp; (try with_reducible rfl))
      (try simp only [Act.put, List.setIfInBounds_toArray, List.set_cons_zero, List.set_cons_succ])
      refine wpAnyH_take (i := 8) (oi := ⟨some 24, _, _, _, _, _⟩) (v := ?_) rfl (by kernel_rfl) (by kernel_rfl) (by kernel_rfl) (fun _ _ _ h => h) (Or.inl ⟨by kernel_rfl, ?_⟩) (by assumption) ?_
      rotate_left
      · (intro wS hSw; (try dsimp only at hSw); obtain ⟨r0, r1, r2, r3⟩ := hcW.out _ hSw; clear hSw; go_simp; (try with_reducible rfl))
      (try simp only [Act.put, List.setIfInBounds_toArray, List.set_cons_zero, List.set_cons_succ])
      refine wpAnyH_ready (rs := [4]) (by kernel_rfl) (by simp) ?_
      refine AllReadyH.cons (o := ⟨some 20, _, _, _, _, _⟩) rfl (fun K hK => ?_) AllReadyH.nil
      go_simp
      (refine (Document_any kk d _ (hsx.below hHeld)).mono ?_; rintro e w8 ⟨rfl, hb8⟩)
      go_wp2_with fail
      refine hK.out _ _ ?_ (fun _ => ?_)
      · ((try dsimp only); (first | exact hst | exact hHeld | exact bel_call hHeld hb8))
      clear hK K
      (try simp only [Act.put, List.setIfInBounds_toArray, List.set_cons_zero, List.set_cons_succ])
      refine gen0 (T := fun W => ((fun W => Below wr.heap.size wr W)) W ∧ True) ?_ (fun wq2 hT => ?_)
      · exact ⟨by (first | exact hst | exact hHeld | exact bel_call hHeld hb8), trivial⟩
      (try clear f0 f1 f2 f3 f4 f5 f6 f7 f8 f9 f10 f11)
      obtain ⟨hHeld, -⟩ := hT
      refine wpAnyH_take (i := 9) (oi := ⟨some 25, _, _, _, _, _⟩) (v := ?_) rfl (by kernel_rfl) (by kernel_rfl) (by kernel_rfl) (fun _ _ _ h => h) (Or.inl ⟨by kernel_rfl, ?_⟩) (by assumption) ?_
      rotate_left
      · (intro wS hSw; (try dsimp only at hSw); obtain ⟨r0, r1, r2, r3⟩ := hcW.out _ hSw; clear hSw; go_simp; (try with_reducible rfl))
      (try simp only [Act.put, List.setIfInBounds_toArray, List.set_cons_zero, List.set_cons_succ])
      refine wpAnyH_done (by kernel_rfl) ?_ _
      go_wp2_with fail
      go_roundw
      case rel => exact ⟨k + 1, hlt, by go_num, bel_call hbr hHeld⟩
      case measure => simp [intOf]; omega
    · go_wp2_with fail
      go_ret
      exact ⟨rfl, hbr⟩
end Go.Proofs.Ytjkdnnekagcdhaa

namespace Go.Proofs.Ytjkdnnekagcdhaa
open Go.RowKit

/-- a round that fails is the end -/
theorem tr_bad {s : Rs} {t t' : Tk} (hE : tkEnd (tkNew s) = tkEnd t) (h0 : 1 ≤ t.left) (hs : t.s.2 = 0) (ht : tkStep t = t') (hb : t'.s.2 ≠ 0) : takeRun s = ([], t'.s) := by
  have h1 := tkEnd_step (t := t) (by omega) hs
  rw [ht, tkEnd_stop (.inr hb)] at h1
  unfold takeRun
  rw [hE, h1, if_pos hb]
theorem tr_done {s : Rs} {t : Tk} (hE : tkEnd (tkNew s) = tkEnd t) (h0 : t.left = 0) (hs : t.s.2 = 0) : takeRun s = (t.out, t.s) := by
  unfold takeRun
  rw [hE, tkEnd_stop (.inl h0), if_neg (by simpa using hs)]
theorem rFail_s2 {k : Nat} {s : Rs} (h : s.2 ≠ 0) : rFail k s = s := rFail_of h
section
variable {t : Tk} {many : Nat} {s1 : Rs} (h1 : rNum t.s = (many, s1))
include h1
theorem st_bad (hb : s1.2 ≠ 0) : tkStep t = { t with s := s1 } := by
  unfold tkStep
  rw [h1, if_pos hb]
theorem st_row (hb : s1.2 = 0) (hm : 0 < many) : tkStep t = tkRow many { t with s := s1 } := by
  unfold tkStep
  rw [h1, if_neg (by simpa using hb), if_pos hm]
theorem st_data (hb : s1.2 = 0) (hm : many = 0) : tkStep t = tkData { t with s := s1 } := by
  unfold tkStep
  rw [h1, if_neg (by simpa using hb), if_neg (by dsimp only; omega)]
theorem st_far (hb : s1.2 = 0) (hm : 0 < many) (hl : t.left < many) : (tkStep t).s = rFail 2 s1 := by
  rw [st_row h1 hb hm]
  have h2 : rWithin 3 (rFail 2 s1) = (0, rFail 2 s1) := rWithin_of (rFail_bad (by decide))
  obtain ⟨c1, c2, c3⟩ := tkRow_cases many { t with s := s1 } (if_pos hl) h2
  by_cases hk : 0 = 1 ∨ 0 = t.kind
  · rw [c1 hk]; exact rFail_of (rFail_bad (by decide))
  · rw [c3 hk (rFail_bad (by decide))]
theorem st_rowbad (hb : s1.2 = 0) (hm : 0 < many) (hl : many ≤ t.left) {k : Nat} {s2 : Rs} (h2 : rWithin 3 s1 = (k, s2)) (hc : s2.2 ≠ 0 ∨ k = 1 ∨ k = t.kind) : (tkStep t).s = rFail 2 s2 := by
  rw [st_row h1 hb hm]
  obtain ⟨c1, c2, c3⟩ := tkRow_cases many { t with s := s1 } (if_neg (by dsimp only; omega)) h2
  by_cases hk : k = 1 ∨ k = t.kind
  · rw [c1 hk]
  · have hb2 : s2.2 ≠ 0 := by
      rcases hc with h | h
      · exact h
      · exact absurd h hk
    rw [c3 hk hb2, rFail_of hb2]
theorem st_rowok (hb : s1.2 = 0) (hm : 0 < many) (hl : many ≤ t.left) {k : Nat} {s2 : Rs} (h2 : rWithin 3 s1 = (k, s2)) (hc : s2.2 = 0) (hk : ¬ (k = 1 ∨ k = t.kind)) : tkStep t = ⟨s2, t.out ++ List.replicate many ((k : Int), []), t.left - many, t.last, k⟩ := by
  rw [st_row h1 hb hm]
  obtain ⟨c1, c2, c3⟩ := tkRow_cases many { t with s := s1 } (if_neg (by dsimp only; omega)) h2
  exact c2 hk hc
variable {n : Nat} {s2 : Rs} (h2 : rNum s1 = (n, s2))
include h2
theorem st_long (hb : s1.2 = 0) (hm : many = 0) (hc : s2.2 ≠ 0 ∨ 64 < n) : (tkStep t).s = rFail 3 s2 := by
  rw [st_data h1 hb hm]
  have hz : s2.2 ≠ 0 → n = 0 := by
    intro h
    unfold rNum at h2
    split at h2
    · injection h2 with h2 _; exact h2.symm
    · split at h2
      · injection h2 with h2 _; exact h2.symm
      · injection h2 with _ h2; rw [← h2] at h; exact absurd rfl h
  by_cases hn : 64 < n
  · have h3 : rNum (rFail 3 s2) = (0, rFail 3 s2) := rNum_of (rFail_bad (by decide))
    obtain ⟨c1, -⟩ := tkData_cases { t with s := s1 } h2 (if_pos hn) h3 (if_neg (Nat.not_lt_zero _))
    rw [c1 (rFail_bad (by decide))]
  · have hb2 : s2.2 ≠ 0 := by
      rcases hc with h | h
      · exact h
      · exact absurd h hn
    have h3 : rNum s2 = (0, s2) := rNum_of hb2
    obtain ⟨c1, -⟩ := tkData_cases { t with s := s1 } h2 (if_neg hn) h3 (if_neg (Nat.not_lt_zero _))
    rw [c1 hb2, rFail_of hb2]
variable (hb : s1.2 = 0) (hm : many = 0) (hn : n ≤ 64) {k : Nat} {s3 : Rs} (h3 : rNum s2 = (k, s3))
include hb hm hn h3
theorem st_share (hc : s3.2 ≠ 0 ∨ n < k ∨ t.last.length < k) : (tkStep t).s = rFail 2 s3 := by
  rw [st_data h1 hb hm]
  by_cases hk : min n t.last.length < k
  · obtain ⟨c1, -⟩ := tkData_cases { t with s := s1 } h2 (if_neg (by omega)) h3 (if_pos hk)
    rw [c1 (rFail_bad (by decide))]
  · have hb3 : s3.2 ≠ 0 := by
      rcases hc with h | h | h
      · exact h
      · omega
      · omega
    obtain ⟨c1, -⟩ := tkData_cases { t with s := s1 } h2 (if_neg (by omega)) h3 (if_neg hk)
    rw [c1 hb3, rFail_of hb3]
variable (hk : k ≤ n) (hk2 : k ≤ t.last.length) (h30 : s3.2 = 0) {f : List UInt8} {s5 : Rs} (h5 : rFixed ((n - k : Nat) : Int) s3 = (f, s5))
include hk hk2 h30 h5
theorem st_fixbad (h50 : s5.2 ≠ 0) : (tkStep t).s = s5 := by
  rw [st_data h1 hb hm]
  obtain ⟨-, c2⟩ := tkData_cases { t with s := s1 } h2 (if_neg (by omega)) h3 (if_neg (by dsimp only; omega))
  rw [c2 h30 f s5 h5 _ rfl s5 (if_neg (by intro h; exact h50 h.1))]
theorem st_textbad (h50 : s5.2 = 0) {x : List UInt8} (hx : x = t.last.take k ++ f) (hc : cpl t.last x ≠ k) : (tkStep t).s = rFail 2 s5 := by
  rw [st_data h1 hb hm]
  obtain ⟨-, c2⟩ := tkData_cases { t with s := s1 } h2 (if_neg (by omega)) h3 (if_neg (by dsimp only; omega))
  rw [c2 h30 f s5 h5 x hx (rFail 2 s5) (if_pos ⟨h50, hc⟩)]
theorem st_textok (h50 : s5.2 = 0) {x : List UInt8} (hx : x = t.last.take k ++ f) (hc : cpl t.last x = k) : tkStep t = ⟨s5, t.out ++ [(1, x)], t.left - 1, x, 1⟩ := by
  rw [st_data h1 hb hm]
  obtain ⟨-, c2⟩ := tkData_cases { t with s := s1 } h2 (if_neg (by omega)) h3 (if_neg (by dsimp only; omega))
  exact c2 h30 f s5 h5 x hx s5 (if_neg (by intro h; exact h.2 hc))
end
end Go.Proofs.Ytjkdnnekagcdhaa
