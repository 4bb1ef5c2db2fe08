import Derived.Test.YtadafohgglnneaaPlain1
import Derived.Test.YtadafohgglnneaaBase
namespace Go.Proofs.Ytadafohgglnneaa
open Go.RowKit
set_option maxRecDepth 100000 in
set_option maxHeartbeats 400000 in
theorem ref13_less (x y : Wrd) (w : World) :
    Calls Try.prog 66 #[.agg x.cells, .agg y.cells] w fun e w' => e = .returned (.bool (x.lt y)) ∧ Below w.heap.size w w' := by
  go_enter Try.func66, Try.ntmps66
  go_wp2
  refine wp_region_quiet_below (by kernel_rfl) (by kernel_rfl) ?_
  repeat (quiet_step ((first
    | (go_at_call 96; exact Calls.regrown_of (ref01_Of _ _))
    | (go_at_call 95; exact Calls.regrown_of (ref01_Compare _ _ _ (by simp) (by simp))))))
  refine wpQuiet_nil ?_
  rintro w1 ⟨p, rfl⟩
  go_wp2
  go_ret
  refine ⟨by rw [← digCmp_lt]; rfl, bel_trans ?_ (below_regrown _ _ _)⟩
  repeat (first | exact Below.refl _ _ | apply bel_drewN | apply bel_alloc)
end Go.Proofs.Ytadafohgglnneaa
