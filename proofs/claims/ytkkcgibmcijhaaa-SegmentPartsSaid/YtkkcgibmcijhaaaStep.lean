/- WHAT IT HOLDS: append as a step of a region that draws. -/
import Derived.Test.YtkkcgibmcijhaaaKit
import Derived.Deep.RegionHeld3
import Derived.Deep.DrawnRows
import Derived.Deep.DeepCutAuto
namespace Go.Proofs.Ytkkcgibmcijhaaa
open Go.RowKit

theorem step_append {P : Program} {w : World} {ops : Array Oper} {o : Oper} {a : Act} {K : Act → World → Prop} {Q : Exit → Act → World → Prop} {E : Prop} (hw : Region.wanted o (yielded ops a.tmps) = true) (s x : Operand) (t : TypeId)
    (ho : o.op = .call { callee := .builtin .append, args := #[s, x], argTypes := #[t, t] })
    (base : Nat) (e : TypeId) (i : TypeInfo) (z : Value) (size bytes : Nat) (ht : P.underlying t = some (.slice e)) (hi : P.info? e = some i) (hz : i.zero = some z)
    (hsize : i.size = size) (hby : i.bytes = bytes) (hzs : z.cells.size = size) (hsz : 0 < size)
    (A : Option Addr) (n c : Nat) (xs : List Value) (hs : a.eval s = .slice A n c) (hown : Own w base e size A n c xs)
    (A2 : Option Addr) (m c2 : Nat) (news : List Value) (hx : a.eval x = .slice A2 m c2) (hr : Sl w size A2 m c2 news) (h1 : ∀ u ∈ news, u.oneCell' = true)
    (hbytes : (n + m) * bytes ≤ 140737488355328) (hmax : n + m ≤ maxLen) (hbase : base ≤ w.heap.size)
    (h : ∀ A' c' w', Appd w w' base e size A A' (n + m) c' (xs ++ news) → K (a.put o.dst (.slice A' (n + m) c')) w') :
    if Region.wanted o (yielded ops a.tmps) = true then Oper.wp P o a w K Q else E := by
  rw [if_pos hw]
  obtain ⟨A', c', w', hrun, h2⟩ := run_append_rd (P := P) w base t o.type e i z size bytes ht hi hz hsize hby hzs hsz A n c xs hown A2 m c2 news hr h1 hbytes hmax hbase
  unfold Oper.wp execOp
  simp only [ho, resolve, invoke, builtin, Sem.run_bind, Sem.run_pure, Result.andThen_ok, List.map_toArray, List.map_cons, List.map_nil, hs, hx, hrun]
  exact h A' c' w' h2
/-- append of bytes at a step of a region that draws -/
theorem step_bytes {P : Program} {w : World} {ops : Array Oper} {o : Oper} {a : Act} {K : Act → World → Prop} {Q : Exit → Act → World → Prop} {E : Prop} (t e : TypeId) (ht : P.underlying t = some (.slice e))
    (hinfo : (P.info? e).map (fun i => (i.zero, i.size, i.bytes)) = some (some (.int .u8 0), 1, 1)) (hw : Region.wanted o (yielded ops a.tmps) = true) (s x : Operand)
    (ho : o.op = .call { callee := .builtin .append, args := #[s, x], argTypes := #[t, t] })
    (base : Nat) (A : Option Addr) (c : Nat) (l : List UInt8) (hs : a.eval s = .slice A l.length c) (hown : OwnB w base e A c l)
    (A2 : Option Addr) (c2 n2 : Nat) (l2 : List UInt8) (hn2 : n2 = l2.length) (hx : a.eval x = .slice A2 n2 c2) (hr : SlB w A2 c2 l2)
    (hlen : l.length + l2.length ≤ 140737488355328) (hbase : base ≤ w.heap.size)
    (h : ∀ A' c' (m : List UInt8) w', Hid (m = l ++ l2) → OwnB w' base e A' c' m → Below base w w' → K (a.put o.dst (.slice A' m.length c')) w') :
    if Region.wanted o (yielded ops a.tmps) = true then Oper.wp P o a w K Q else E := by
  subst hn2
  obtain ⟨i0, hi, hz0, hz1, hz2⟩ := info_parts hinfo
  refine step_append hw s x t ho base e i0 (.int .u8 0) 1 1 ht hi hz0 hz1 hz2 rfl (by decide) A l.length c (bvs l) hs hown A2 l2.length c2 (bvs l2) hx hr (one_bvs l2) (by omega) (by simp only [maxLen]; omega) hbase ?_
  intro A' c' w' hap
  rw [← List.length_append]
  refine h A' c' (l ++ l2) w' rfl ?_ (hap.below hown hbase)
  have := hap.own
  simpa [OwnB] using this
/-- append of bytes under a guard that is met -/
theorem wpg_bytes {P : Program} {w : World} {ops : Array Oper} {rest : List Oper} {o : Oper} {a : Act} {Q : Exit → Act → World → Prop} (t e : TypeId) (ht : P.underlying t = some (.slice e))
    (hinfo : (P.info? e).map (fun i => (i.zero, i.size, i.bytes)) = some (some (.int .u8 0), 1, 1)) (hw : Region.wanted o (yielded ops a.tmps) = true) (s x : Operand)
    (ho : o.op = .call { callee := .builtin .append, args := #[s, x], argTypes := #[t, t] })
    (base : Nat) (A : Option Addr) (c : Nat) (l : List UInt8) (hs : a.eval s = .slice A l.length c) (hown : OwnB w base e A c l)
    (A2 : Option Addr) (c2 : Nat) (l2 : List UInt8) (hx : a.eval x = .slice A2 l2.length c2) (hr : SlB w A2 c2 l2)
    (hlen : l.length + l2.length ≤ 140737488355328) (hbase : base ≤ w.heap.size)
    (h : ∀ A' c' (m : List UInt8) w', Hid (m = l ++ l2) → OwnB w' base e A' c' m → Below base w w' → wpList P ops Q rest (a.put o.dst (.slice A' m.length c')) w') : wpList P ops Q (o :: rest) a w :=
  wpList_step fun K hK => step_bytes t e ht hinfo hw s x ho base A c l hs hown A2 c2 l2.length l2 rfl hx hr hlen hbase fun A' c' m w' h1 h2 h3 => hK _ _ (h A' c' m w' h1 h2 h3)
/-- 'append([]byte{}, x...)' under a guard that is met -/
theorem wpg_fresh {P : Program} {w : World} {ops : Array Oper} {rest : List Oper} {o : Oper} {a : Act} {Q : Exit → Act → World → Prop} (t e : TypeId) (ht : P.underlying t = some (.slice e))
    (hinfo : (P.info? e).map (fun i => (i.zero, i.size, i.bytes)) = some (some (.int .u8 0), 1, 1)) (hw : Region.wanted o (yielded ops a.tmps) = true) (s x : Operand)
    (ho : o.op = .call { callee := .builtin .append, args := #[s, x], argTypes := #[t, t] })
    (hs : a.eval s = .slice (some ⟨w.heap.size, 0, none⟩) 0 0) (A2 : Option Addr) (c2 : Nat) (l2 : List UInt8) (hx : a.eval x = .slice A2 l2.length c2) (hr : SlB w A2 c2 l2) (hlen : l2.length ≤ 140737488355328)
    (h : ∀ A' c' (m : List UInt8) w', Hid (m = l2) → OwnB w' w.heap.size e A' c' m → Below w.heap.size w w' → wpList P ops Q rest (a.put o.dst (.slice A' m.length c')) w') : wpList P ops Q (o :: rest) a (w.alloc (.cells #[] e)) := by
  refine wpg_bytes t e ht hinfo hw s x ho w.heap.size (some ⟨w.heap.size, 0, none⟩) 0 [] hs (Own.lit 1 (Nat.le_refl _)) A2 c2 l2 hx (hr.below (below_new _ _)) (by simpa using hlen) (by simp) ?_
  intro A' c' m w' hm ho' hb
  exact h A' c' m w' hm ho' ((below_new _ _).trans hb)
end Go.Proofs.Ytkkcgibmcijhaaa
