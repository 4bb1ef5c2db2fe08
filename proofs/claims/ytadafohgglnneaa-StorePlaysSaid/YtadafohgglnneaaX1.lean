import Derived.Test.YtadafohgglnneaaFacts
namespace Go.Proofs.Ytadafohgglnneaa
open Go.RowKit
theorem cmp_self (x : Wrd) : Wrd.cmp x x = 0 := by simp [Wrd.cmp]
theorem cmp_at {x y : Wrd} (k : Nat) (hk : k < 4) (h : ∀ j, k < j → j < 4 → x.g j = y.g j) (hne : x.g k ≠ y.g k) : Wrd.cmp x y = if x.g k < y.g k then -1 else 1 := by
  have e : x ≠ y := fun e => hne (by rw [e])
  have := ltFrom_at x.g y.g 4 k hk h hne
  simp [Wrd.cmp, e, Wrd.lt, this]
set_option maxRecDepth 100000 in
set_option maxHeartbeats 400000 in
theorem word_Compare (x y : Wrd) (w : World) :
    Calls Try.prog 65 #[.agg x.cells, .agg y.cells] w fun e w' => e = .returned (.int .i64 (x.cmp y)) ∧ Below w.heap.size w w' := by
  by_cases h : x = y
  · have hd : decide (x = y) = true := by simpa using h
    have H := Lib.hid h; clear h
    go_enter Try.func65, Try.ntmps65
    go_wp2
    go_ret
    refine ⟨?_, ((Below.refl _ _).alloc (Nat.le_refl _) _).alloc (by simp) _⟩
    rw [H.out, cmp_self]; rfl
  · have hd : decide (x = y) = false := by simpa using h
    have H := Lib.hid h; clear h
    go_enter Try.func65, Try.ntmps65
    go_wp2
    go_loopw [5] (fun at_ wr => ∃ k n : Nat, k < 4 ∧ at_ = .int .i64 k ∧ Hid (∀ j, k < j → j < 4 → x.g j = y.g j) ∧ wr = (((w.alloc (.cells x.cells 26)).alloc (.cells y.cells 26))).drewN n) (fun at_ _ => (intOf at_).toNat)
    case atStart => exact ⟨3, 0, by omega, rfl, Lib.hid (fun j h1 h2 => by omega), rfl⟩
    case round =>
      obtain ⟨k, n, hk, rfl, hj, rfl⟩ := hrel
      have hk1 : (0 : Int) ≤ (k : Int) := by omega
      have hk2 : (k : Int) < 4 := by omega
      by_cases he : x.g k = y.g k
      · have hb : (x.g k == y.g k) = true := by simpa using he
        have hk0 : 0 < k := by
          rcases Nat.eq_zero_or_pos k with h0 | h0
          · subst h0
            exact absurd (Wrd.ext_g fun i hi => by
              rcases Nat.eq_zero_or_pos i with h1 | h1
              · subst h1; exact he
              · exact hj.out i h1 hi) H.out
          · exact h0
        have he' := Lib.hid he; clear he
        go_wp2
        go_quiet (fail)
        go_wp2
        go_roundw
        case rel => exact ⟨k - 1, _, by omega, by go_num, Lib.hid (fun j h1 h2 => by
          by_cases hjk : j = k
          · subst hjk; exact he'.out
          · exact hj.out j (by omega) h2), rfl⟩
        case measure => simp [intOf]; omega
      · have hb : (x.g k == y.g k) = false := by simpa using he
        have hc := cmp_at k hk hj.out he
        have he' := Lib.hid he; clear he
        have hc' := Lib.hid hc; clear hc
        by_cases hl : x.g k < y.g k
        · have hlb : decide (x.g k < y.g k) = true := by simpa using hl
          go_wp2
          go_quiet (fail)
          go_wp2
          go_quiet (fail)
          go_wp2
          go_ret
          refine ⟨by rw [hc'.out, if_pos hl]; rfl, ?_⟩
          repeat (first | exact Below.refl _ _ | apply bel_drewN | apply bel_alloc)
        · have hlb : decide (x.g k < y.g k) = false := by simpa using hl
          go_wp2
          go_quiet (fail)
          go_wp2
          go_quiet (fail)
          go_wp2
          go_ret
          refine ⟨by rw [hc'.out, if_neg (by omega)]; rfl, ?_⟩
          repeat (first | exact Below.refl _ _ | apply bel_drewN | apply bel_alloc)
end Go.Proofs.Ytadafohgglnneaa
