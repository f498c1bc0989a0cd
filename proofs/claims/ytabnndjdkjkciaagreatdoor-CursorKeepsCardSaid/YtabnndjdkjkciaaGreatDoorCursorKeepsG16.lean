/- WHAT IT HOLDS: the fixed fact of the manifest's laws, walked: the bytes of the empty manifest. -/
import Derived.Test.YtabnndjdkjkciaaGreatDoorCursorKeepsG14
import Derived.Test.YtabnndjdkjkciaaGreatDoorCursorKeepsG15
import Derived.Test.YtabnndjdkjkciaaGreatDoorCursorKeepsG02
namespace Go.Proofs.YtabnndjdkjkciaaGreatDoor
open Go.RowKit
attribute [local go_sem ↓] Go.wp_at_zero Go.wp_at_succ

theorem step_bytesG {P : Program} {w : World} {ops : Array Oper} {o : Oper} {a : Act} {K : Act → World → Prop} {Q : Exit → Act → World → Prop} {E : Prop} (t e : TypeId) (ht : P.underlying t = some (.slice e))
    (hinfo : (P.info? e).map (fun i => (i.zero, i.size, i.bytes)) = some (some (.int .u8 0), 1, 1)) (hw : Region.wanted o (yielded ops a.tmps) = true) (s x : Operand)
    (ho : o.op = .call { callee := .builtin .append, args := #[s, x], argTypes := #[t, t] })
    (base : Nat) (A : Option Addr) (c : Nat) (l : List UInt8) (hs : a.eval s = .slice A l.length c) (hown : OwnB w base e A c l)
    (A2 : Option Addr) (c2 n2 : Nat) (l2 : List UInt8) (hn2 : n2 = l2.length) (hx : a.eval x = .slice A2 n2 c2) (hr : SlB w A2 c2 l2)
    (hlen : l.length + l2.length ≤ 140737488355328) (hbase : base ≤ w.heap.size)
    (h : ∀ A' c' (m : List UInt8) w', Hid (m = l ++ l2) → OwnB w' base e A' c' m → w.grownBy w' (A.map (·.block)) → Below base w w' → K (a.put o.dst (.slice A' m.length c')) w') :
    if Region.wanted o (yielded ops a.tmps) = true then Oper.wp P o a w K Q else E := by
  subst hn2
  obtain ⟨i0, hi, hz0, hz1, hz2⟩ := info_parts hinfo
  refine step_append hw s x t ho base e i0 (.int .u8 0) 1 1 ht hi hz0 hz1 hz2 rfl (by decide) A l.length c (bvs l) hs hown A2 l2.length c2 (bvs l2) hx hr (one_bvs l2) (by omega) (by simp only [maxLen]; omega) hbase ?_
  intro A' c' w' hap
  rw [← List.length_append]
  refine h A' c' (l ++ l2) w' rfl ?_ hap.grown (hap.below hown hbase)
  have := hap.own
  simpa [OwnB] using this
end Go.Proofs.YtabnndjdkjkciaaGreatDoor
