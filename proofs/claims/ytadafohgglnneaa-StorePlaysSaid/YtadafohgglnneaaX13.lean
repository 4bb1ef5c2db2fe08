/- The document's order of addresses. No condition. -/
import Derived.Test.YtadafohgglnneaaFacts
namespace Go.Proofs.Ytadafohgglnneaa
open Go.RowKit
theorem adrLt_at {x y : Adr} (k : Nat) (hk : k < 20) (h : ∀ j, j < k → x.g j = y.g j) (hne : x.g k ≠ y.g k) : x.lt y = decide (x.g k < y.g k) := by
  have := ltFrom_at (fun i => x.g (19 - i)) (fun i => y.g (19 - i)) 20 (19 - k) (by omega) (fun j h1 h2 => h (19 - j) (by omega)) (by
    simp only [show 19 - (19 - k) = k by omega]; exact hne)
  rw [Adr.lt, this]
  simp only [show 19 - (19 - k) = k by omega]
set_option maxRecDepth 100000 in
set_option maxHeartbeats 1000000 in
theorem ref08_Less (x y : Adr) (w : World) :
    Calls Try.prog 98 #[.agg x.cells, .agg y.cells] w fun e w' => e = .returned (.bool (x.lt y)) ∧ Below w.heap.size w w' := by
  generalize hL : x.lt y = L
  have HL := Lib.hid hL; clear hL
  go_enter Try.func98, Try.ntmps98
  go_wp2
  go_loopw [5] (fun at_ wr => ∃ k n : Nat, k ≤ 20 ∧ at_ = .int .i64 k ∧ Hid (∀ j, j < k → x.g j = y.g j) ∧ wr = (((w.alloc (.cells x.cells 23)).alloc (.cells y.cells 23))).drewN n) (fun at_ _ => 20 - (intOf at_).toNat)
  case atStart => exact ⟨0, 0, by omega, rfl, Lib.hid (fun j h => by omega), rfl⟩
  case round =>
    obtain ⟨k, n, hk, rfl, hj, rfl⟩ := hrel
    by_cases hlt : k < 20
    · have hk1 : (0 : Int) ≤ (k : Int) := by omega
      have hk2 : (k : Int) < 20 := by omega
      by_cases he : x.g k = y.g k
      · have hb : (x.g k != y.g k) = false := by simpa using he
        have he' := Lib.hid he; clear he
        go_wp2
        go_quiet (fail)
        go_wp2
        go_roundw
        case rel => exact ⟨k + 1, _, by omega, by go_num, Lib.hid (fun j h1 => by
          by_cases hjk : j = k
          · subst hjk; exact he'.out
          · exact hj.out j (by omega)), rfl⟩
        case measure => simp [intOf]; omega
      · have hb : (x.g k != y.g k) = true := by simpa using he
        have hc := adrLt_at k hlt hj.out he
        have he' := Lib.hid he; clear he
        have hL := HL.out
        rw [hc] at hL
        subst hL
        clear HL hc
        go_wp2
        go_quiet (fail)
        go_wp2
        go_quiet (fail)
        go_wp2
        go_ret
        refine ⟨rfl, ?_⟩
        repeat (first | exact Below.refl _ _ | apply bel_drewN | apply bel_alloc)
    · obtain rfl : k = 20 := by omega
      have hxy : x = y := Adr.ext_g hj.out
      subst hxy
      have hL := HL.out
      rw [Adr.lt_irr] at hL
      subst hL
      clear HL
      go_wp2
      go_ret
      refine ⟨rfl, ?_⟩
      repeat (first | exact Below.refl _ _ | apply bel_drewN | apply bel_alloc)
end Go.Proofs.Ytadafohgglnneaa
