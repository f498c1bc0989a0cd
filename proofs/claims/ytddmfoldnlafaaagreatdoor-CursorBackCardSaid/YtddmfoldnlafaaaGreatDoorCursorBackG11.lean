/- WHAT IT HOLDS: a disk made sure, walked. -/
import Derived.Test.YtddmfoldnlafaaaGreatDoorCursorBackG10
namespace Go.Proofs.YtddmfoldnlafaaaGreatDoor
open Go.RowKit Go.Maps Go.Sort
attribute [local go_sem ↓] Go.wp_at_zero Go.wp_at_succ

section
variable {α : Type} {N : Bs → Prop} {V : α → Prop} {l : List (Bs × α)}
theorem fdo_all (hl : ∀ p ∈ l, N p.1 ∧ V p.2) {x : Chg α} (h1 : N x.name) (h2 : N x.to) (h3 : V x.val) : ∀ p ∈ fdo l x, N p.1 ∧ V p.2 := by
  intro p hp
  rcases Decidable.em (x.kind = 0) with hk | hk
  · rw [fdo_w hk] at hp
    rcases gmem_put.1 hp with e | e
    · rw [e]; exact ⟨h1, h3⟩
    · exact hl p e.1
  cases hg : gget x.name l with
  | none => rw [fdo_n hk hg] at hp; exact hl p hp
  | some b =>
    rcases Decidable.em (x.kind = 1) with hk1 | hk1
    · rw [fdo_r hk1 hg] at hp
      rcases gmem_put.1 hp with e | e
      · rw [e]; exact ⟨h2, (hl _ (gget_mem hg)).2⟩
      · exact hl p (gmem_del.1 e.1).1
    · rw [fdo_d hk hk1 hg] at hp
      exact hl p (gmem_del.1 hp).1
theorem fdos_all (cs : List (Chg α)) : ∀ {l : List (Bs × α)}, (∀ p ∈ l, N p.1 ∧ V p.2) → (∀ x ∈ cs, N x.name ∧ N x.to ∧ V x.val) → ∀ p ∈ fdos l cs, N p.1 ∧ V p.2 := by
  induction cs with
  | nil => exact fun hl _ => hl
  | cons x r ih =>
    intro l hl hc
    obtain ⟨h1, h2, h3⟩ := hc x (List.mem_cons_self ..)
    exact ih (fdo_all hl h1 h2 h3) fun y hy => hc y (List.mem_cons_of_mem _ hy)
end
theorem Dsk.shown_mem {w : World} {q : Fp} {d : Dk Sv} (h : Dsk w q d) : ∀ p ∈ d.shown, p.1.length ≤ 24 ∧ p.2 ∈ svs d := by
  refine fdos_all d.pend (N := fun s => s.length ≤ 24) (V := fun s => s ∈ svs d) (fun p hp => ⟨h.nm.1 p hp, ?_⟩) fun x hx => ⟨(h.nm.2 x hx).1, (h.nm.2 x hx).2, ?_⟩
  · exact List.mem_append.2 (.inl (List.mem_map_of_mem hp))
  · exact List.mem_append.2 (.inr (List.mem_map_of_mem (f := fun y : Chg Sv => y.val) hx))
/-- the sure files are a map of their own, nothing is pending -/
theorem Dsk.synced {w : World} {q : Fp} {d : Dk Sv} (h : Dsk w q d) {es : Array MapEntry} {clock : Nat} (hb : w.heap[q.bm]? = some (.map es clock)) :
    Dgo w q d { d with sure := d.shown, pend := [] } (((w.alloc (.map es clock)).setCell ⟨q.g, 1, none⟩ (.map (some w.heap.size))).setCell ⟨q.g, 3, none⟩ (.slice none 0 0)) := by
  have hw : Wr w (((w.alloc (.map es clock)).setCell ⟨q.g, 1, none⟩ (.map (some w.heap.size))).setCell ⟨q.g, 3, none⟩ (.slice none 0 0)) q.g := (((Wr.refl _ _).alloc _).set_ 1 _).set_ 3 _
  have hw2 : Wr (w.alloc (.map es clock)) (((w.alloc (.map es clock)).setCell ⟨q.g, 1, none⟩ (.map (some w.heap.size))).setCell ⟨q.g, 3, none⟩ (.slice none 0 0)) q.g := ((Wr.refl _ _).set_ 1 _).set_ 3 _
  have hBlk := ((h.blk.alloc (.map es clock)).set_ 1 (.map (some w.heap.size))).set_ 3 (.slice none 0 0)
  have hg := h.blk.lt
  have hs : OmD (w.alloc (.map es clock)) w.heap.size d.shown := by
    obtain ⟨es2, clock2, hb2, r⟩ := h.shown
    rw [hb] at hb2
    injection hb2 with hb2
    injection hb2 with e1 e2
    subst e1
    subst e2
    exact ⟨es, clock, heap_alloc_new w _, r⟩
  have hsv : ∀ s ∈ svs ({ d with sure := d.shown, pend := [] } : Dk Sv), s ∈ svs d := by
    intro s hs
    simp only [svs, List.map_nil, List.append_nil, List.mem_map] at hs
    obtain ⟨p, hp, rfl⟩ := hs
    exact (h.shown_mem p hp).2
  generalize (((w.alloc (.map es clock)).setCell ⟨q.g, 1, none⟩ (.map (some w.heap.size))).setCell ⟨q.g, 3, none⟩ (.slice none 0 0)) = w' at *
  have hM : ∀ i, Fp.M ⟨q.g, w.heap.size, q.bm, none, 0⟩ i → q.M i ∨ w.heap.size ≤ i := by
    rintro i (e | e | e | e)
    · exact .inl (.inl e)
    · exact .inr (by dsimp only at e; omega)
    · exact .inl (.inr (.inr (.inl e)))
    · cases e
  refine ⟨⟨q.g, w.heap.size, q.bm, none, 0⟩, rfl, ⟨hBlk, ?_, ?_, Own.none_ _ _ _ _, ?_, ?_, ?_, h.ris.fdos _, ?_, ?_⟩, Frd.of_wr (.inl rfl) hw, hM, ?_⟩
  · exact OmD.wr hs hw2 (by dsimp only; omega)
  · exact OmD.wr h.shown hw h.neg.2
  · have := h.shown.lt
    dsimp only
    omega
  · intro s hs
    refine SlB.sameB (h.rd s (hsv s hs)) fun hne ad hA => hw.block _ ?_ fun e => h.ap s (hsv s hs) hne ad hA (.inl (by injection e))
    exact h.lt (.inr ⟨s, hsv s hs, hne, by rw [hA]; rfl⟩)
  · intro s hs hne ad hA hm
    rcases hM _ hm with hm | hm
    · exact h.ap s (hsv s hs) hne ad hA hm
    · have h5 : ad.block < w.heap.size := h.lt (.inr ⟨s, hsv s hs, hne, by rw [hA]; rfl⟩)
      omega
  · exact fun s hs => h.len s (hsv s hs)
  · exact ⟨fun p hp => (h.shown_mem p hp).1, fun x hx => by simp at hx⟩
  · rintro i (hi | ⟨s, hs, hne, hA⟩)
    · rcases hM i hi with hi | hi
      · exact .inl (.inl hi)
      · exact .inr hi
    · exact .inl (.inr ⟨s, hsv s hs, hne, hA⟩)
set_option maxRecDepth 100000 in
set_option maxHeartbeats 1000000 in
theorem Sync_any {w : World} {q : Fp} {d : Dk Sv} (h : Dsk w q d) (hf : -1 ≤ d.fuse ∧ d.fuse ≤ 9223372036854775807) :
    Calls Tryz.prog 49 #[.pointer (some ⟨q.g, 0, none⟩)] w fun e w' => e = .returned (errv (dSync d).2) ∧ Dgo w q d (dSync d).1 w' := by
  have hW := Works_any h hf
  obtain ⟨s1, s2, s3, s4⟩ := dWorks_same d
  have hR : dSync d = if (dWorks d).2 ≠ 0 then dWorks d else ({ (dWorks d).1 with sure := d.shown, pend := [] }, 0) := rfl
  generalize dWorks d = dw at *
  obtain ⟨d1, k⟩ := dw
  dsimp only at *
  have hsh : d1.shown = d.shown := by unfold Dk.shown; rw [s1, s2]
  clear h hf
  rcases s4 with rfl | rfl
  · rw [if_neg (by simp), ← hsh] at hR
    rw [show errv 0 = Value.nilIface from rfl] at hW
    have HW := Lib.hid hW
    have HR := Lib.hid hR
    clear hW hR
    go_enter Tryz.func49, Tryz.ntmps49
    go_wp2_with fail
    refine HW.out.mono ?_
    rintro e w1 ⟨rfl, hD1, hw1⟩
    have hF1 : Frd q w w1 := Frd.of_wr (.inl rfl) hw1
    obtain ⟨a0, a1, a2, a3, a4, a5, af1, af2, af3, af4, af5⟩ := hD1.six
    obtain ⟨es, clock, hb, -⟩ := hD1.shown
    have hE := (hD1.synced hb).next hF1 s1 s2
    go_wp2_with fail
    refine (Tryz.maps_Clone_any q.bm es clock w1 hb).mono ?_
    rintro e w2 ⟨rfl, rfl⟩
    have hB2 := hD1.blk.alloc (.map es clock)
    have g1 : (w1.alloc (.map es clock)).frozen? ⟨q.g, 1, none⟩ = false := hB2.frozen 1
    have b1 : (w1.alloc (.map es clock)).cell? ⟨q.g, 1, none⟩ = some (.map (some q.bs)) := hB2.cell 1
    have g3 : ((w1.alloc (.map es clock)).setCell ⟨q.g, 1, none⟩ (.map (some w1.heap.size))).frozen? ⟨q.g, 3, none⟩ = false := (hB2.set_ 1 _).frozen 3
    have b3 : ((w1.alloc (.map es clock)).setCell ⟨q.g, 1, none⟩ (.map (some w1.heap.size))).cell? ⟨q.g, 3, none⟩ = some (.slice q.A d1.pend.length q.c) := (hB2.set_ 1 _).cell 3
    clear a0 a1 a2 a3 a4 a5 af1 af2 af3 af4 af5 hB2
    go_wp2_with fail
    go_ret
    exact ⟨by rw [HR.out]; rfl, by rw [HR.out]; exact hE⟩
  · have HR := Lib.hid (show dSync d = (d1, 14) from by rw [hR, if_pos (by simp)])
    rw [show errv 14 = Value.iface 79 (.int .i64 14) from rfl] at hW
    have HW := Lib.hid hW
    clear hW hR
    go_enter Tryz.func49, Tryz.ntmps49
    go_wp2_with fail
    refine HW.out.mono ?_
    rintro e w1 ⟨rfl, hD1, hw1⟩
    go_wp2_with fail
    go_ret
    exact ⟨by rw [HR.out]; rfl, by rw [HR.out]; exact Dgo.of hD1 (Frd.of_wr (.inl rfl) hw1) s1 s2⟩
end Go.Proofs.YtddmfoldnlafaaaGreatDoor
