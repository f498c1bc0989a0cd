/- WHAT IT HOLDS: the law DiskSyncs, walked. | WHAT IT HOLDS: what a disk keeps of files that no change names, plainly; maps beside a disk in memory. | WHAT IT HOLDS: what opening a store removes, plainly; entries struck out of a map. -/
import Derived.Test.YtddmfoldnlafaaaGreatDoorRegisterAloneG18
import Derived.Test.YtddmfoldnlafaaaGreatDoorRegisterAloneG20
namespace Go.Proofs.YtddmfoldnlafaaaGreatDoor
open Go.RowKit Go.Maps Go.Sort
attribute [local go_sem ↓] Go.wp_at_zero Go.wp_at_succ

section
variable {α : Type}
/-- a disk that is up, without a fuse -/
def Fre (d : Dk α) : Prop := d.fuse = -1 ∧ d.down = false
theorem dWorks_fre {d : Dk α} (h : Fre d) : dWorks d = (d, 0) := by
  unfold dWorks
  rw [if_neg (by rw [h.2]; simp), if_neg (by rw [h.1]; decide), if_neg (by rw [h.1]; decide)]
theorem Fre.opd {d : Dk α} {r : Dk α × Nat} (h : Fre d) (ho : Opd d r) : Fre r.1 := by
  obtain ⟨-, h2, h3, -⟩ := ho
  rw [dWorks_fre h] at h2 h3
  exact ⟨h2.trans h.1, h3.trans h.2⟩
theorem dSync_fre {d : Dk α} (h : Fre d) : (dSync d).2 = 0 ∧ (dSync d).1.sure = d.shown ∧ (dSync d).1.pend = [] ∧ Fre (dSync d).1 := by
  have e : dSync d = ({ d with sure := d.shown, pend := [] }, 0) := by
    unfold dSync
    rw [dWorks_fre h, if_neg (by simp)]
  rw [e]
  exact ⟨rfl, rfl, rfl, h⟩
theorem shown_nil {d : Dk α} (h : d.pend = []) : d.shown = d.sure := by
  unfold Dk.shown
  rw [h]
  rfl
theorem kept_non (keep : List Bool) : kept keep ([] : List (Chg α)) = [] := by
  unfold kept
  rfl
theorem dCut_nil {d : Dk α} (keep : List Bool) (h : d.pend = []) : (dCut keep d).sure = d.sure ∧ (dCut keep d).pend = [] ∧ (dCut keep d).down = true := by
  unfold dCut
  rw [h, kept_non]
  exact ⟨rfl, rfl, rfl⟩
theorem dStart_up2 {d : Dk α} (hp : d.pend = []) : (dStart d).sure = d.sure ∧ (dStart d).pend = [] ∧ Fre (dStart d) := by
  unfold dStart
  cases hd : d.down
  · exact ⟨rfl, hp, rfl, rfl⟩
  · exact ⟨rfl, rfl, rfl, rfl⟩
end
theorem kind3 (k : Int) : (IntKind.u64.wrap k).tmod 3 = 0 ∨ (IntKind.u64.wrap k).tmod 3 = 1 ∨ (IntKind.u64.wrap k).tmod 3 = 2 := by
  have h : IntKind.u64.wrap k = k % 18446744073709551616 := rfl
  rw [h, Int.tmod_eq_emod_of_nonneg (by omega)]
  omega
theorem DList_up {w : World} {q : Fp} {d : Dk Sv} (h : Dsk w q d) (hd : Fre d) (hL : d.shown.length ≤ 100000000) : Calls Tryz.prog 46 #[.pointer (some ⟨q.g, 0, none⟩)] w fun e w' => ∃ A c m, e = .returned (.tuple #[.slice A (List.length m) c, .nilIface]) ∧ Hid (m = names d.shown) ∧ TxH q w' A c m ∧ Below w.heap.size w w' := by
  refine (DList_any h hL).mono ?_
  rintro e w1 ⟨A, c, m, rfl, hm, ho, hb⟩
  rw [hd.2] at hm ⊢
  exact ⟨A, c, m, rfl, hm, TxH.of h ho, hb⟩
theorem names_gmap {r l : List (Bs × Sv)} (h : gmap Sv.l r = gmap Sv.l l) : names r = names l := by
  have := congrArg (List.map (·.1)) h
  unfold gmap at this
  rw [List.map_map, List.map_map] at this
  exact this
theorem gmap_at {r l : List (Bs × Sv)} (h : gmap Sv.l r = gmap Sv.l l) {k : Nat} (hk : k < r.length) (hk2 : k < l.length) : r[k].1 = l[k].1 ∧ r[k].2.l = l[k].2.l := by
  have h1 : (gmap Sv.l r)[k]? = (gmap Sv.l l)[k]? := by rw [h]
  unfold gmap at h1
  rw [List.getElem?_map, List.getElem?_map, List.getElem?_eq_getElem hk, List.getElem?_eq_getElem hk2] at h1
  simp only [Option.map_some, Option.some.injEq, Prod.mk.injEq] at h1
  exact h1
end Go.Proofs.YtddmfoldnlafaaaGreatDoor

namespace Go.Proofs.YtddmfoldnlafaaaGreatDoor
open Go.RowKit Go.Maps Go.Sort
attribute [local go_sem ↓] Go.wp_at_zero Go.wp_at_succ

section
variable {α : Type}
theorem dWrite_fre {len : α → Nat} {d : Dk α} (h : Fre d) (n : Bs) (v : α) : (dWrite len d n v).2 = 0 ∧ (dWrite len d n v).1 = dAdd d ⟨0, n, [], v⟩ ∨ (dWrite len d n v).2 ≠ 0 ∧ (dWrite len d n v).1 = d := by
  unfold dWrite
  rw [dWorks_fre h, if_neg (by simp)]
  split
  · exact .inr ⟨by simp, rfl⟩
  · split
    · exact .inr ⟨by simp, rfl⟩
    · split
      · exact .inr ⟨by simp, rfl⟩
      · exact .inl ⟨rfl, rfl⟩
theorem dRename_fre {z : α} {d : Dk α} (h : Fre d) (n t : Bs) : (dRename z d n t).2 = 0 ∧ (dRename z d n t).1 = dAdd d ⟨1, n, t, z⟩ ∨ (dRename z d n t).2 ≠ 0 ∧ (dRename z d n t).1 = d := by
  unfold dRename
  rw [dWorks_fre h, if_neg (by simp)]
  split
  · exact .inr ⟨by simp, rfl⟩
  · split
    · exact .inr ⟨by simp, rfl⟩
    · exact .inl ⟨rfl, rfl⟩
theorem dRemove_fre {z : α} {d : Dk α} (h : Fre d) (n : Bs) : (dRemove z d n).2 = 0 ∧ (dRemove z d n).1 = dAdd d ⟨2, n, [], z⟩ ∨ (dRemove z d n).2 ≠ 0 ∧ (dRemove z d n).1 = d := by
  unfold dRemove
  rw [dWorks_fre h, if_neg (by simp)]
  split
  · exact .inr ⟨by simp, rfl⟩
  · split
    · exact .inr ⟨by simp, rfl⟩
    · exact .inl ⟨rfl, rfl⟩
theorem shown_add (d : Dk α) (c : Chg α) : (dAdd d c).shown = fdo d.shown c := fdos_snoc _ _ _
theorem shown_write (d : Dk α) (n : Bs) (v : α) : (dAdd d ⟨0, n, [], v⟩).shown = gput n v d.shown := by
  rw [shown_add]
  exact fdo_w rfl
/-- a change of other files -/
theorem fdo_off {l : List (Bs × α)} {c : Chg α} {x : Bs} (h1 : x ≠ c.name) (h2 : c.kind = 1 → x ≠ c.to) : gget x (fdo l c) = gget x l := by
  unfold fdo
  split
  · exact gget_put_other _ h1 _
  · split
    · rfl
    · split
      · rename_i h3
        rw [gget_put_other _ (h2 h3), gget_del_other h1]
      · exact gget_del_other h1 _
theorem fdos_off {cs : List (Chg α)} {x : Bs} : ∀ {l : List (Bs × α)}, (∀ c ∈ cs, x ≠ c.name ∧ (c.kind = 1 → x ≠ c.to)) → gget x (fdos l cs) = gget x l := by
  induction cs with
  | nil => exact fun _ => rfl
  | cons c r ih =>
    intro l h
    have h0 := h c (List.mem_cons_self ..)
    have h1 := ih (l := fdo l c) fun y hy => h y (List.mem_cons_of_mem _ hy)
    show gget x (fdos (fdo l c) r) = _
    rw [h1, fdo_off h0.1 h0.2]
/-- all changes are of names that are told -/
def Cov (lt : List (Bs × Unit)) (cs : List (Chg α)) : Prop := ∀ c ∈ cs, (gget c.name lt).isSome = true ∧ (c.kind = 1 → (gget c.to lt).isSome = true)
theorem Cov.nil (lt : List (Bs × Unit)) : Cov lt ([] : List (Chg α)) := fun c hc => by simp at hc
theorem gget_more {lt : List (Bs × Unit)} {x y : Bs} (h : (gget y lt).isSome = true) : (gget y (gput x () lt)).isSome = true := by
  by_cases e : y = x
  · subst e
    rw [gget_put_same]
    rfl
  · rw [gget_put_other _ e]
    exact h
theorem gget_here (lt : List (Bs × Unit)) (x : Bs) : (gget x (gput x () lt)).isSome = true := by rw [gget_put_same]; rfl
theorem Cov.more {lt lt' : List (Bs × Unit)} {cs : List (Chg α)} (h : Cov lt cs) (hl : ∀ y, (gget y lt).isSome = true → (gget y lt').isSome = true) : Cov lt' cs := fun c hc => ⟨hl _ (h c hc).1, fun hk => hl _ ((h c hc).2 hk)⟩
theorem Cov.add {lt : List (Bs × Unit)} {cs : List (Chg α)} {c : Chg α} (h : Cov lt cs) (h1 : (gget c.name lt).isSome = true) (h2 : c.kind = 1 → (gget c.to lt).isSome = true) : Cov lt (cs ++ [c]) := fun y hy => by
  rcases List.mem_append.1 hy with hy | hy
  · exact h y hy
  · rw [List.mem_singleton.1 hy]; exact ⟨h1, h2⟩
theorem Cov.off {lt : List (Bs × Unit)} {cs : List (Chg α)} (h : Cov lt cs) (keep : List Bool) {l : List (Bs × α)} {x : Bs} (hx : gget x lt = none) : gget x (fdos l (kept keep cs)) = gget x l :=
  fdos_off fun c hc => by
    have h1 := h c (kept_mem hc)
    refine ⟨fun e => ?_, fun hk e => ?_⟩
    · rw [← e, hx] at h1
      exact absurd h1.1 (by simp)
    · have h2 := h1.2 hk
      rw [← e, hx] at h2
      exact absurd h2 (by simp)
end
/-! ### maps beside a disk -/
def lS (l : Bs) : Value := .string ⟨l.toArray⟩
def lU (_ : Unit) : Value := .bool true
/-- a map of one's own behind the world w0, none of a disk's blocks -/
def Mp {β : Type} (f : β → Value) (w0 : World) (q : Fp) (w : World) (b : Nat) (l : List (Bs × β)) : Prop := OmF f Tryz.prog 9 w b l ∧ ¬ q.M b ∧ w0.heap.size ≤ b
section
variable {β γ : Type} {f : β → Value} {g : γ → Value} {w0 w w' : World} {q q' : Fp} {d : Dk Sv} {b b2 : Nat} {l : List (Bs × β)} {l2 : List (Bs × γ)}
theorem Mp.act (h : Mp f w0 q w b l) (hF : Frd q w w') (hM : ∀ i, q'.M i → q.M i ∨ w.heap.size ≤ i) : Mp f w0 q' w' b l :=
  ⟨h.1.same (hF.block b h.1.lt h.2.1), fun hq => by
    rcases hM b hq with h3 | h3
    · exact h.2.1 h3
    · have := h.1.lt
      omega, h.2.2⟩
theorem Mp.call (h : Mp f w0 q w b l) (hb : Below w.heap.size w w') : Mp f w0 q w' b l := ⟨h.1.below hb, h.2⟩
theorem Mp.grown (h : Mp f w0 q w b l) (hg : w.grownBy w' (some b2)) (hne : b ≠ b2) : Mp f w0 q w' b l := ⟨h.1.same (hg.block b h.1.lt (fun e => hne (by injection e))), h.2⟩
theorem OmF.noCell (h : OmF f Tryz.prog 9 w b l) {o : Nat} {sp : Option Nat} {v : Value} (hc : w.cell? ⟨b, o, sp⟩ = some v) : False := by
  obtain ⟨es, cl, hb, _⟩ := h
  unfold World.cell? at hc
  dsimp only at hc
  rw [hb] at hc
  simp at hc
theorem Dsk.grownMap (hD : Dsk w q d) (h : Mp f w0 q w b l) (hg : w.grownBy w' (some b)) : Dsk w' q d := hD.frame fun i hi => hg.block i (hD.lt hi) (fun e => by
  injection e with e
  rw [e] at hi
  rcases hi with hi | ⟨s, hs, hne, hA⟩
  · exact h.2.1 hi
  · obtain ⟨A, c, l⟩ := s
    dsimp only at hne hA
    cases A with
    | none => cases hA
    | some ad =>
      injection hA with hA
      obtain ⟨ad', e, hc⟩ := Sl.at1 (f := bv) (l := l) (hD.rd _ hs) (k := 0) (List.length_pos_iff.2 hne)
      injection e with e
      subst e
      have hsp : ad.add 0 = ⟨b, (ad.add 0).off, (ad.add 0).spot⟩ := by
        have h1 : (ad.add 0).block = b := by rw [addr_add_block]; exact hA
        cases h2 : ad.add 0 with
        | mk x y z => rw [h2] at h1; dsimp only at h1 ⊢; rw [h1]
      rw [hsp] at hc
      exact h.1.noCell hc)
theorem Fro.grown (h : Fro w0 w q) (hg : w.grownBy w' (some b)) (hb : w0.heap.size ≤ b) : Fro w0 w' q :=
  ⟨⟨hg.os.trans h.1.os, hg.tape.trans h.1.tape, hg.output.trans h.1.output, Nat.le_trans h.1.size hg.size, fun i hi => (hg.block i (Nat.lt_of_lt_of_le hi h.1.size) (fun e => by injection e; omega)).trans (h.1.block i hi)⟩, h.2⟩
theorem Mp.new (w : World) (hD : Dsk w q d) (hw : w0.heap.size ≤ w.heap.size) : Mp f w0 q (w.alloc (.map #[] 0)) w.heap.size [] := ⟨OmF.new w, fun hq => by have := hD.ltM hq; omega, hw⟩
end
end Go.Proofs.YtddmfoldnlafaaaGreatDoor

namespace Go.Proofs.YtddmfoldnlafaaaGreatDoor
open Go.RowKit Go.Maps Go.Sort
attribute [local go_sem ↓] Go.wp_at_zero Go.wp_at_succ

section
variable {α : Type}
theorem dRemove_there {z : α} {d : Dk α} (h : Fre d) {n : Bs} (hn : named n = true) (hs : (gget n d.shown).isSome = true) : dRemove z d n = (dAdd d ⟨2, n, [], z⟩, 0) := by
  unfold dRemove
  rw [dWorks_fre h, if_neg (by simp), if_neg (by simp [hn]), if_neg (by cases hg : gget n d.shown with | none => rw [hg] at hs; cases hs | some v => simp)]
theorem shown_remove {z : α} {d : Dk α} {n : Bs} (hs : (gget n d.shown).isSome = true) : (dAdd d ⟨2, n, [], z⟩).shown = gdel n d.shown := by
  rw [shown_add]
  cases hg : gget n d.shown with
  | none => rw [hg] at hs; cases hs
  | some v => exact fdo_d (show (2 : Nat) ≠ 0 by decide) (show (2 : Nat) ≠ 1 by decide) hg
theorem sweep_ok {z : α} : ∀ (l : List Bs) (d : Dk α) (b : Bool), Fre d → (∀ n ∈ l, named n = true) → l.Nodup → (∀ n ∈ l, (gget n d.shown).isSome = true) → ∃ d1 b1, sSweep z l d b = (d1, 0, b1) ∧ Fre d1 ∧ (∀ x, gget x d1.shown = if x ∈ l ∧ isBegun x = true then none else gget x d.shown) ∧ d1.sure.length + d1.pend.length ≤ d.sure.length + d.pend.length + l.length
  | [], d, b, h, _, _, _ => ⟨d, b, rfl, h, fun x => by simp, by simp⟩
  | n :: r, d, b, h, hn, hd, hs => by
    obtain ⟨hd1, hd2⟩ := List.nodup_cons.1 hd
    unfold sSweep
    cases hb : isBegun n with
    | false =>
      rw [if_neg (by simp)]
      obtain ⟨d1, b1, e1, e2, e3, e4⟩ := sweep_ok r d b h (fun x hx => hn x (.tail _ hx)) hd2 (fun x hx => hs x (.tail _ hx))
      refine ⟨d1, b1, e1, e2, fun x => ?_, by simp; omega⟩
      rw [e3 x]
      by_cases hx : x = n
      · subst hx
        simp [hb]
      · simp [hx]
    | true =>
      have hr := dRemove_there (z := z) h (hn n (.head _)) (hs n (.head _))
      have hsh := shown_remove (z := z) (hs n (.head _))
      rw [if_pos rfl, hr, if_neg (by simp)]
      obtain ⟨d1, b1, e1, e2, e3, e4⟩ := sweep_ok r (dAdd d ⟨2, n, [], z⟩) true h (fun x hx => hn x (.tail _ hx)) hd2 (fun x hx => by
        rw [hsh, gget_del_other (show x ≠ n from fun e => by subst e; exact hd1 hx)]
        exact hs x (.tail _ hx))
      refine ⟨d1, b1, e1, e2, fun x => ?_, by unfold dAdd at e4; simp at e4 ⊢; omega⟩
      rw [e3 x, hsh]
      by_cases hx : x = n
      · subst hx
        rw [gget_del_same]
        simp [hb]
      · rw [gget_del_other hx]
        simp [hx]
theorem names_nodup {l : List (Bs × α)} (h : Ris l) : (names l).Nodup := by
  unfold names
  rw [List.Nodup, List.pairwise_map]
  exact h.imp fun {a b} hab e => by rw [e, bb_irrefl] at hab; cases hab
theorem mem_names {l : List (Bs × α)} (h : Ris l) {x : Bs} : x ∈ names l ↔ (gget x l).isSome = true := by
  constructor
  · intro hx
    obtain ⟨p, hp, rfl⟩ := List.mem_map.1 hx
    rw [gget_of_mem h (show (p.1, p.2) ∈ l from hp)]
    rfl
  · intro hx
    cases hg : gget x l with
    | none => rw [hg] at hx; cases hx
    | some v => exact List.mem_map.2 ⟨(x, v), gget_mem hg, rfl⟩
/-- what opening leaves of a disk that is up, whose files all have names -/
theorem open_ok {z : α} {d : Dk α} (h : Fre d) (hr : Ris d.sure) (hn : ∀ x ∈ names d.shown, named x = true) : ∃ d1, sOpen z d = (d1, 0) ∧ Fre d1 ∧ (∀ x, gget x d1.shown = if isBegun x = true then none else gget x d.shown) ∧ d1.sure.length + d1.pend.length ≤ 2 * (d.sure.length + d.pend.length) := by
  have hrs : Ris d.shown := hr.fdos d.pend
  have hlen : (names d.shown).length ≤ d.sure.length + d.pend.length := by
    unfold names
    rw [List.length_map]
    exact flen_dos d.sure d.pend
  obtain ⟨d1, b1, e1, e2, e3, e4⟩ := sweep_ok (z := z) (names d.shown) d false h hn (names_nodup hrs) (fun x hx => (mem_names hrs).1 hx)
  have e5 : ∀ x, gget x d1.shown = if isBegun x = true then none else gget x d.shown := fun x => by
    rw [e3 x]
    by_cases hb : isBegun x = true
    · rw [if_pos hb]
      by_cases hx : x ∈ names d.shown
      · rw [if_pos ⟨hx, hb⟩]
      · rw [if_neg (fun h => hx h.1)]
        cases hg : gget x d.shown with
        | none => rfl
        | some v => exact absurd ((mem_names hrs).2 (by rw [hg]; rfl)) hx
    · rw [if_neg hb, if_neg (fun h => hb h.2)]
  unfold sOpen
  rw [if_neg (by rw [h.2]; simp), e1]
  dsimp only
  rw [if_neg (by simp)]
  cases b1 with
  | false => exact ⟨d1, rfl, e2, e5, by omega⟩
  | true =>
    obtain ⟨y1, y2, y3, y4⟩ := dSync_fre e2
    refine ⟨(dSync d1).1, ?_, y4, fun x => ?_, ?_⟩
    · rw [if_pos rfl]
      exact Prod.ext rfl y1
    · rw [← e5 x]
      have : (dSync d1).1.shown = d1.shown := by rw [shown_nil y3, y2]
      rw [this]
    · rw [y2, y3]
      have := flen_dos d1.sure d1.pend
      unfold Dk.shown
      simp
      omega
theorem dWrite_named {len : α → Nat} {d : Dk α} {n : Bs} {v : α} (h : Fre d) (h0 : (dWrite len d n v).2 = 0) : named n = true := by
  unfold dWrite at h0
  rw [dWorks_fre h, if_neg (by simp)] at h0
  cases hn : named n with
  | true => rfl
  | false => rw [if_pos hn] at h0; cases h0
end
theorem begun_head {b : UInt8} {r : Bs} : isBegun (b :: r) = (126 == b) := by
  show ((126 == b) && true) = _
  rw [Bool.and_true]
section
variable {β : Type} {f : β → Value} {P : Program} {K T E : TypeId} {w w' : World} {b n : Nat} {l : List (Bs × β)}
theorem datF_del (f : β → Value) (k : Bs) (l : List (Bs × β)) : (datF f l).del (.string k) = datF f (gdel k l) := by
  unfold datF gdel
  rw [DataW.del_eq]
  unfold ChangeMaps.delKey
  rw [List.filter_map]
  rfl
theorem OmF.drop (h : OmF f P K w b l) (hK : P.underlying K = some .string) (hT : P.underlying T = some (.map K E)) {k : Bs} (hk : k.length ≤ maxLen) (ty : TypeId) :
    ∃ w', (Builtin.delete_ #[T, K] ty #[.map (some b), .string ⟨k.toArray⟩]).run P w = .ok (.tuple #[]) w' ∧ OmF f P K w' b (gdel k l) ∧ w.grownBy w' (some b) := by
  obtain ⟨w', hrun, h1, h2⟩ := World.ownsMap.drop h (string_keyed hK) hT (key := .string ⟨k.toArray⟩) (kl := .string k) (key_str hK hk) ty
  rw [datF_del] at h1
  exact ⟨w', hrun, OmF.of h1, h2.grown⟩
variable {ops : Array Oper} {rest : List Oper} {o : Oper} {a : Act} {Q : Exit → Act → World → Prop}
theorem wpl_dropF (hg : o.guard = none) (m x : Operand) (hop : o.op = Op.call { callee := Callee.builtin Builtin.delete, args := #[m, x], argTypes := #[T, K] }) (hK : P.underlying K = some .string) (hT : P.underlying T = some (.map K E)) (b : Nat) (l : List (Bs × β)) (hm : a.eval m = .map (some b)) (h : OmF f P K w b l)
    (k : Bs) (hk : k.length ≤ maxLen) (hx : a.eval x = .string ⟨k.toArray⟩) (hC : ∀ w', OmF f P K w' b (gdel k l) → w.grownBy w' (some b) → wpList P ops Q rest (a.put o.dst (.tuple #[])) w') : wpList P ops Q (o :: rest) a w := by
  refine wpList_plain hg fun K' hK' => ?_
  obtain ⟨w', hrun, r1, r2⟩ := h.drop hK hT hk o.type
  unfold Oper.wp
  simp [execOp, hop, resolve, invoke, builtin, hm, hx, hrun, Result.andThen]
  exact hK' _ _ (hC w' r1 r2)
end
end Go.Proofs.YtddmfoldnlafaaaGreatDoor
