/- WHAT IT HOLDS: an act on a register and on the document's done: joined. | WHAT IT HOLDS: what a nil register answers, walked. -/
import Derived.Test.YtddmfoldnlafaaaGreatDoorRegisterPlaysG29
import Derived.Test.YtddmfoldnlafaaaGreatDoorRegisterPlaysG30
import Derived.Test.YtddmfoldnlafaaaGreatDoorRegisterPlaysG31
import Derived.Test.YtddmfoldnlafaaaGreatDoorRegisterPlaysG32
import Derived.Test.YtddmfoldnlafaaaGreatDoorRegisterPlaysG33
import Derived.Test.YtddmfoldnlafaaaGreatDoorRegisterPlaysG16
namespace Go.Proofs.YtddmfoldnlafaaaGreatDoor
open Go.RowKit Go.Maps Go.Sort

theorem RaAct_any {P : Nat → Prop} {w : World} {q0 : Fp} {gr gs : Nat} {d : Dk Sv} {A B : Option Addr} {c k Lb : Nat} {sp bo n : Int} {L : L3r} (x : RA) (h : RgM w gr gs q0 d sp bo L n) (hf : Fok d) (hn : Nmd d) (hR : Rdk (Yo P q0 (some (gr, gs))) w (d.map Sv.l) A c B k) (hP : ∀ i, w.heap.size ≤ i → P i) (hok : SlZ w x.B x.kc x.ks ∧ SlB w x.d.A x.d.c x.d.l ∧ SlZ w x.d.B x.d.kc x.d.ks) (hx2 : x.ks ≠ [] → ∀ ad, x.B = some ad → ad.block < Lb) (hx3 : x.d.l ≠ [] → ∀ ad, x.d.A = some ad → ad.block < Lb) (hx4 : x.d.ks ≠ [] → ∀ ad, x.d.B = some ad → ad.block < Lb) (hL : ∀ i, q0.M i → Lb ≤ i) (hLg : Lb ≤ gr) (hfx : x.d.f ≤ 9223372036854775807) (hsh : x.long = false) (hl : d.sure.length + d.pend.length ≤ 160) (hb : ¬ rgBad sp bo) :
    Calls Tryz.prog 44 #[.pointer (some ⟨gr, 0, none⟩), .agg (rrg (d.map Sv.l) A c B k sp bo L n), .agg (racta x)] w fun e w' => RaG P w q0 gr gs d sp bo e w' := by
  rcases kind8 x.k with h0 | h0 | h0 | h0 | h0 | h0 | h0 | h0
  · exact RaAct_acq x h hf hn hR hP hok hx2 hx3 hx4 hL hLg hfx hsh hl hb (by omega)
  · exact RaAct_acq x h hf hn hR hP hok hx2 hx3 hx4 hL hLg hfx hsh hl hb (by omega)
  · exact RaAct_acq x h hf hn hR hP hok hx2 hx3 hx4 hL hLg hfx hsh hl hb (by omega)
  · exact RaAct_gve x h hf hn hR hP hok hx2 hx3 hx4 hL hLg hfx hsh hl hb h0
  · exact RaAct_dsk x h hf hn hR hP hok hx2 hx3 hx4 hL hLg hfx hsh hl hb (.inl h0)
  · exact RaAct_dsk x h hf hn hR hP hok hx2 hx3 hx4 hL hLg hfx hsh hl hb (.inr h0)
  · exact RaAct_trn6 x h hf hn hR hP hok hx2 hx3 hx4 hL hLg hfx hsh hl hb h0
  · exact RaAct_trn7 x h hf hn hR hP hok hx2 hx3 hx4 hL hLg hfx hsh hl hb h0
end Go.Proofs.YtddmfoldnlafaaaGreatDoor

namespace Go.Proofs.YtddmfoldnlafaaaGreatDoor
open Go.RowKit Go.Maps Go.Sort
attribute [local go_sem ↓] Go.wp_at_zero Go.wp_at_succ

set_option maxRecDepth 100000 in
theorem NLease_any (w : World) : Calls Tryz.prog 40 #[.pointer none] w fun e w' => e = .returned (lv 0 0 0) ∧ Below w.heap.size w w' := by
  have hb := below_new w (.cells #[.int .i64 0, .int .i64 0, .int .i64 0] 56)
  have hB := Blk.new w 56 #[.int .i64 0, .int .i64 0, .int .i64 0]
  go_enter Tryz.func40, Tryz.ntmps40
  go_wp2_with fail
  exact bodyPost_ret (res_lease1 rfl rfl hB) rfl ⟨rfl, hb⟩
set_option maxRecDepth 100000 in
theorem NGive_any (o : Int) (w : World) : Calls Tryz.prog 22 #[.pointer none, .int .i64 o] w fun e w' => e = .returned (.iface 79 (.int .i64 4)) ∧ w' = w := by
  go_enter Tryz.func22, Tryz.ntmps22
  go_wp2_with fail
  go_ret
  exact ⟨rfl, rfl⟩
set_option maxRecDepth 100000 in
theorem NAcquire_any (o n : Int) (w : World) : Calls Tryz.prog 23 #[.pointer none, .int .i64 o, .int .i64 n] w fun e w' => e = .returned (.tuple #[lv 0 0 0, .iface 79 (.int .i64 4)]) ∧ Below w.heap.size w w' := by
  have hb := below_new w (.cells #[.int .i64 0, .int .i64 0, .int .i64 0] 56)
  have hB := Blk.new w 56 #[.int .i64 0, .int .i64 0, .int .i64 0]
  go_enter Tryz.func23, Tryz.ntmps23
  go_wp2_with fail
  exact bodyPost_ret (res_lease rfl rfl hB) rfl ⟨rfl, hb⟩
end Go.Proofs.YtddmfoldnlafaaaGreatDoor
