/- WHAT IT HOLDS: the cursor's taker, walked: an address. A part's steps. -/
import Derived.Test.YtabnndjdkjkciaaGreatDoorManifestPartsG12
import Derived.Test.YtabnndjdkjkciaaGreatDoorManifestPartsG06
namespace Go.Proofs.YtabnndjdkjkciaaGreatDoor
open Go.RowKit
attribute [local go_sem ↓] Go.wp_at_zero Go.wp_at_succ

/-- a part that is stored into a block of its own -/
theorem step_storeP {ops : Array Oper} {o : Oper} {a : Act} {w : World} {K : Act → World → Prop} {Q : Exit → Act → World → Prop} {X : Prop} (hgd : Region.wanted o (yielded ops a.tmps) = true) (x y : Operand) (ho : o.op = .store 28 x y)
    (g : Nat) (old p : Pt5) (hx : a.eval x = .pointer (some ⟨g, 0, none⟩)) (hy : a.eval y = .agg (pta p)) (hB : Blk w g 28 (pta old))
    (h : K (a.put o.dst undef) (w.setRow g (pta p))) : if Region.wanted o (yielded ops a.tmps) = true then Oper.wp Tryz.prog o a w K Q else X := by
  rw [if_pos hgd]
  exact wp_store_row 28 x y ho g (pta p) hx hy 28 (pta old) hB (by rw [pta_size]; kernel_rfl) (by rw [pta_size, pta_size]) (pta_all p) h
theorem Blk.row {w : World} {g : Nat} {t : TypeId} {old cs : Array Value} (h : Blk w g t old) : Blk (w.setRow g cs) g t cs := setRow_heap w g old cs t (0, 0) h
theorem Blk.rowFar {w : World} {g k : Nat} {t : TypeId} {cs : Array Value} (h : Blk w k t cs) (hk : k ≠ g) (c2 : Array Value) : Blk (w.setRow g c2) k t cs := (setRow_other w g k c2 hk).trans h
section
variable {w W W' : World} {g gc B : Nat} {p : Pt5}
end
end Go.Proofs.YtabnndjdkjkciaaGreatDoor
