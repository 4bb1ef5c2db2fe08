import Derived.Test.YtadafohgglnneaaX1
namespace Go.Proofs.Ytadafohgglnneaa
open Go.RowKit
/-- Digit i to the base 256. -/
def Wrd.dig (a : Wrd) (i : Nat) : Int := a.g (i / 8) / 2 ^ (8 * (i % 8)) % 256
set_option maxRecDepth 100000 in
set_option maxHeartbeats 400000 in
theorem ref01_Of (x : Wrd) (w : World) :
    Calls Try.prog 96 #[.agg x.cells] w fun e w' => e = .returned (.agg (ints .i64 ((List.range 32).map x.dig))) ∧ Below w.heap.size w w' := by
  go_enter Try.func96, Try.ntmps96
  go_wp2
  go_loopw [4] (fun i wr => ∃ (k : Nat) (l : List Int), k ≤ 32 ∧ i = .int .i64 k ∧ l.length = 32 ∧ Hid (∀ j, j < k → gi l j = x.dig j) ∧ wr = ((w.alloc (.cells x.cells 26)).alloc (.cells (ints .i64 zero32) 163)).alloc (.cells (ints .i64 l) 163)) (fun i _ => 32 - (intOf i).toNat)
  case atStart => exact ⟨0, zero32, by omega, rfl, rfl, Lib.hid (fun j h1 => by omega), rfl⟩
  case round =>
    obtain ⟨k, l, hk, rfl, hl, hj, rfl⟩ := hrel
    have hk1 : (0 : Int) ≤ (k : Int) := by omega
    have hk2 : (k : Int) ≤ 32 := by omega
    by_cases hlt : k < 32
    · have hlt' : (k : Int) < 32 := by omega
      have h8 : k / 8 < 4 := by omega
      have h9 : (0 : Int) ≤ 8 * ((k : Int) % 8) := by omega
      have h10 : 8 * ((k : Int) % 8) ≤ 64 := by omega
      have h11 : (0 : Int) ≤ x.g (k / 8) / 2 ^ (8 * (k % 8)) := Int.ediv_nonneg (x.g_bd _).1 (Int.pow_nonneg (by decide))
      have hl2 : k < l.length := by omega
      go_wp2
      go_roundw
      case rel =>
        refine ⟨k + 1, l.set k (x.dig k), by omega, by go_num, by simp [hl], Lib.hid (fun j h1 => ?_), rfl⟩
        rw [gi_set _ _ _ _ hl2]
        by_cases hjk : k = j
        · subst hjk; rw [if_pos rfl]
        · rw [if_neg hjk]; exact hj.out j (by omega)
      case measure => simp [intOf]; omega
    · have hk32 : k = 32 := by omega
      go_wp2
      refine bodyPost_ret (v := .agg (ints .i64 l)) (by simp [results, Try.results96, go_sem, hl]) rfl ⟨?_, ?_⟩
      · have : l = (List.range 32).map x.dig := by
          apply List.ext_getElem (by simp [hl])
          intro i h1 h2
          have := hj.out i (by omega)
          rw [gi_lt l i h1] at this
          simpa using this
        rw [this]
      · repeat (first | exact Below.refl _ _ | apply bel_drewN | apply bel_alloc)

/-- ref01.Compare over digits. -/
def digCmp (l m : List Int) : Int := if ltFrom (fun i => gi l i) (fun i => gi m i) 32 then -1 else if ltFrom (fun i => gi m i) (fun i => gi l i) 32 then 1 else 0
theorem digCmp_at {l m : List Int} (k : Nat) (hk : k < 32) (h : ∀ j, k < j → j < 32 → gi l j = gi m j) (hne : gi l k ≠ gi m k) : digCmp l m = if gi l k < gi m k then -1 else 1 := by
  have h1 := ltFrom_at (fun i => gi l i) (fun i => gi m i) 32 k hk h hne
  have h2 := ltFrom_at (fun i => gi m i) (fun i => gi l i) 32 k hk (fun j a b => (h j a b).symm) (Ne.symm hne)
  unfold digCmp
  rw [h1, h2]
  by_cases hl : gi l k < gi m k
  · simp [hl]
  · simp [hl, show gi m k < gi l k by omega]
theorem digCmp_eq {l m : List Int} (h : ∀ j, j < 32 → gi l j = gi m j) : digCmp l m = 0 := by
  have e : ∀ n, n ≤ 32 → ltFrom (fun i => gi l i) (fun i => gi m i) n = false ∧ ltFrom (fun i => gi m i) (fun i => gi l i) n = false := by
    intro n
    induction n with
    | zero => intro _; exact ⟨rfl, rfl⟩
    | succ n ih =>
      intro hn
      unfold ltFrom
      rw [if_pos (h n (by omega)), if_pos (h n (by omega)).symm]
      exact ih (by omega)
  simp [digCmp, e 32 (by omega)]
set_option maxRecDepth 100000 in
set_option maxHeartbeats 400000 in
theorem ref01_Compare (l m : List Int) (w : World) (hl : l.length = 32) (hm : m.length = 32) :
    Calls Try.prog 95 #[.agg (ints .i64 l), .agg (ints .i64 m)] w fun e w' => e = .returned (.int .i64 (digCmp l m)) ∧ Below w.heap.size w w' := by
  go_enter Try.func95, Try.ntmps95
  go_wp2
  go_loopw [5] (fun i wr => ∃ (k n : Nat), k ≤ 32 ∧ i = .int .i64 ((k : Int) - 1) ∧ Hid (∀ j, k ≤ j → j < 32 → gi l j = gi m j) ∧ wr = ((w.alloc (.cells (ints .i64 l) 163)).alloc (.cells (ints .i64 m) 163)).drewN n) (fun i _ => (intOf i + 1).toNat)
  case atStart => exact ⟨32, 0, by omega, rfl, Lib.hid (fun j h1 h2 => by omega), rfl⟩
  case round =>
    obtain ⟨k, n, hk, rfl, hj, rfl⟩ := hrel
    by_cases hz : k = 0
    · subst hz
      have he := Lib.hid (digCmp_eq fun j h => hj.out j (by omega) h)
      go_wp2
      go_ret
      refine ⟨by rw [he.out]; rfl, ?_⟩
      repeat (first | exact Below.refl _ _ | apply bel_drewN | apply bel_alloc)
    · obtain ⟨q, rfl⟩ : ∃ q, k = q + 1 := ⟨k - 1, by omega⟩
      have eq1 : (((q + 1 : Nat) : Int) - 1) = (q : Int) := by omega
      rw [eq1]
      clear eq1
      have hq1 : (0 : Int) ≤ (q : Int) := by omega
      have hq2 : (q : Int) < 32 := by omega
      have hq3 : q < 32 := by omega
      have hq4 : q < l.length := by omega
      have hq5 : q < m.length := by omega
      by_cases he : gi l q = gi m q
      · have h1 : decide (gi l q < gi m q) = false := by simp; omega
        have h2 : decide (gi l q > gi m q) = false := by simp; omega
        have he' := Lib.hid he; clear he
        go_wp2
        go_quiet (fail)
        go_wp2
        go_quiet (fail)
        go_wp2
        go_roundw
        case rel => exact ⟨q, _, by omega, rfl, Lib.hid (fun j h1 h2 => by
          by_cases hjk : j = q
          · subst hjk; exact he'.out
          · exact hj.out j (by omega) h2), rfl⟩
        case measure => simp [intOf]
      · have hc := Lib.hid (digCmp_at q hq3 (fun j h1 h2 => hj.out j (by omega) h2) he)
        by_cases hlt : gi l q < gi m q
        · have h1 : decide (gi l q < gi m q) = true := by simp; omega
          have he' := Lib.hid he; clear he
          go_wp2
          go_quiet (fail)
          go_wp2
          go_ret
          refine ⟨by rw [hc.out, if_pos hlt]; rfl, ?_⟩
          repeat (first | exact Below.refl _ _ | apply bel_drewN | apply bel_alloc)
        · have h1 : decide (gi l q < gi m q) = false := by simp; omega
          have h2 : decide (gi l q > gi m q) = true := by simp; omega
          have he' := Lib.hid he; clear he
          have hlt' := Lib.hid hlt; clear hlt
          go_wp2
          go_quiet (fail)
          go_wp2
          go_quiet (fail)
          go_wp2
          go_ret
          refine ⟨by rw [hc.out, if_neg (by have := hlt'.out; omega)]; rfl, ?_⟩
          repeat (first | exact Below.refl _ _ | apply bel_drewN | apply bel_alloc)
end Go.Proofs.Ytadafohgglnneaa
