import Derived.Test.YtadafohgglnneaaFacts
namespace Go.Proofs.Ytadafohgglnneaa
open Go.RowKit
set_option maxRecDepth 100000 in
theorem nil_Account (w : World) (a : Adr) :
    Calls Try.prog 26 #[.pointer none, .agg a.cells] w fun e w' => e = .returned (.tuple #[.agg (accRow a 0 zeroWrd (.slice none 0 0) (.slice none 0 0)), .bool false]) ∧ Below w.heap.size w w' := by
  go_enter Try.func26, Try.ntmps26
  go_wp2
  refine bodyPost_ret (v := .tuple #[.agg (accRow a 0 zeroWrd (.slice none 0 0) (.slice none 0 0)), .bool false]) (by simp [results, Try.results26, go_sem]) rfl ⟨rfl, by repeat (first | exact Below.refl _ _ | apply bel_alloc)⟩
set_option maxRecDepth 100000 in
theorem nil_Want (w : World) (a : Adr) : Calls Try.prog 23 #[.pointer none, .agg a.cells] w fun e w' => e = .returned (.int .u8 0) ∧ Below w.heap.size w w' := by
  go_enter Try.func23, Try.ntmps23
  go_wp2
  go_ret
  exact ⟨rfl, by repeat (first | exact Below.refl _ _ | apply bel_alloc)⟩
set_option maxRecDepth 100000 in
theorem nil_Fill (w : World) (r : Array Value) : Calls Try.prog 25 #[.pointer none, .agg r] w fun e w' => e = .returned (.bool false) ∧ Below w.heap.size w w' := by
  go_enter Try.func25, Try.ntmps25
  go_wp2
  go_ret
  exact ⟨rfl, by repeat (first | exact Below.refl _ _ | apply bel_alloc)⟩
set_option maxRecDepth 100000 in
theorem nil_Fail (w : World) (a : Adr) : Calls Try.prog 24 #[.pointer none, .agg a.cells] w fun e w' => e = .returned (.int .u8 0) ∧ Below w.heap.size w w' := by
  go_enter Try.func24, Try.ntmps24
  go_wp2
  go_ret
  exact ⟨rfl, by repeat (first | exact Below.refl _ _ | apply bel_alloc)⟩
set_option maxRecDepth 100000 in
theorem nil_Tries (w : World) (a : Adr) : Calls Try.prog 48 #[.pointer none, .agg a.cells] w fun e w' => e = .returned (.int .i64 0) ∧ Below w.heap.size w w' := by
  go_enter Try.func48, Try.ntmps48
  go_wp2
  go_ret
  exact ⟨rfl, by repeat (first | exact Below.refl _ _ | apply bel_alloc)⟩
set_option maxRecDepth 100000 in
theorem nil_Known (w : World) : Calls Try.prog 49 #[.pointer none] w fun e w' => e = .returned (.slice none 0 0) ∧ Below w.heap.size w w' := by
  go_enter Try.func49, Try.ntmps49
  go_wp2
  go_ret
  exact ⟨rfl, Below.refl _ _⟩
set_option maxRecDepth 100000 in
theorem nil_Fetched (w : World) : Calls Try.prog 50 #[.pointer none] w fun e w' => e = .returned (.slice none 0 0) ∧ Below w.heap.size w w' := by
  go_enter Try.func50, Try.ntmps50
  go_wp2
  go_ret
  exact ⟨rfl, Below.refl _ _⟩
end Go.Proofs.Ytadafohgglnneaa
