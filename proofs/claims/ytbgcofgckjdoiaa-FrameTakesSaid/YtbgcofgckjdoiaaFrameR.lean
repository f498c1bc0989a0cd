/- WHAT IT HOLDS: words of 32 bits as arguments, opened. -/
import Derived.Test.YtbgcofgckjdoiaaFrame
import Derived.Test.YtbgcofgckjdoiaaCrcP
namespace Go.Proofs.Ytbgcofgckjdoiaa
open Go.ChangeShapes Go.WideShapes Go.ChangeAt Go.RowKit Go.Deep

section
variable {H : Type} {enc : TypeId × Value → H} {P : Program} {w : World} {base b0 : Nat} {held : Bool} {r : Reach} {t e : TypeId} {v : Value} {d : DataW H} {p : List MemPlace}
theorem open_w32 (ht : P.underlying t = some (.int .u32)) (hv : Value.okWide P w r b0 t v) (h : DataW.Trod enc P w base (fun _ => true) held t v d p) : ∃ a : W32, v = wv a := by
  obtain ⟨x, rfl, _, _, hw⟩ := open_int ht hv h
  have hb := bounds_u32 hw
  refine ⟨BitVec.ofNat 32 x.toNat, ?_⟩
  show Value.int .u32 x = .int .u32 ((BitVec.ofNat 32 x.toNat).toNat : Int)
  rw [BitVec.toNat_ofNat]
  congr 1
  omega
end
end Go.Proofs.Ytbgcofgckjdoiaa
