/- WHAT IT HOLDS: Size, and the document's bytes of texts and lists, walked. -/
import Derived.Test.YtkkcgibmcijhaaaVarR
import Derived.Test.YtkkcgibmcijhaaaFrame
import Derived.Test.YtkkcgibmcijhaaaSizeP
import Derived.Test.YtkkcgibmcijhaaaShelf
namespace Go.Proofs.Ytkkcgibmcijhaaa
open Go.RowKit

set_option maxRecDepth 100000 in
set_option maxHeartbeats 400000 in
theorem nBytes_any (A B : Option Addr) (c d : Nat) (l m : List UInt8) (w : World) (ha : SlB w A c l) (hb : SlB w B d m) :
    Calls Try.prog 33 #[.slice A l.length c, .slice B m.length d] w fun e w' => e = .returned (.bool (l == m)) ∧ w = w' := by
  have h1 := conv_str (P := Try.prog) 40 9 5 Try.underlying40 Try.underlying5 Try.underlying9 ha rfl
  have h2 := conv_str (P := Try.prog) 40 9 5 Try.underlying40 Try.underlying5 Try.underlying9 hb rfl
  go_enter Try.func33, Try.ntmps33
  go_wp2_with fail
  go_ret
  exact ⟨rfl, rfl⟩

set_option maxRecDepth 100000 in
set_option maxHeartbeats 400000 in
theorem rText_any (A : Option Addr) (c : Nat) (t : List UInt8) (w : World) (hs : SlB w A c t) (ht : t.length ≤ 10000000) :
    Calls Try.prog 94 #[.slice A t.length c] w (GivesB w (vb t.length ++ t)) := by
  have hu : U64 t.length := by unfold U64; omega
  have hw := wrap_u64_of hu
  go_enter Try.func94, Try.ntmps94
  go_wp2_with fail
  refine (rBytes_any t.length hu _).mono ?_
  rintro e w1 ⟨A1, c1, m1, rfl, hm1, ho1, hb1⟩
  have hml : m1.length ≤ 10 := by rw [hm1.out]; exact vb_le10 hu
  go_wp2_with (at_builtin; go_must (refine wpl_bytes 40 5 Try.underlying40 u8_info rfl _ _ rfl w.heap.size A1 c1 m1 rfl ho1 A c t rfl (hs.below hb1) (by omega) hb1.size ?_; intro A3 c3 m3 w3 hm3 ho3 _ _ hb3))
  go_ret
  exact ⟨A3, c3, m3, rfl, by rw [hm3.out, hm1.out]; rfl, ho3, hb1.trans hb3⟩

end Go.Proofs.Ytkkcgibmcijhaaa
