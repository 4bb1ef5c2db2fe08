/- Which accounts are empty, by the store and by the document. No condition. -/
import Derived.Test.YtadafohgglnneaaF1
namespace Go.Proofs.Ytadafohgglnneaa
open Go.RowKit
/-- Has it nothing? -/
def emptyAt (x : Acc) : Bool := decide (x.nonce = 0) && decide (x.bal = zeroWrd) && decide (x.code.length = 0) && decide (x.stor.length = 0)
set_option maxRecDepth 100000 in
set_option maxHeartbeats 1000000 in
theorem store_Empty {S : Nat → Prop} (w : World) (row : Array Value) (x : Acc) (hx : AccIn S w row x) :
    Calls Try.prog 18 #[.agg row] w fun e w' => e = .returned (.bool (emptyAt x)) ∧ Below w.heap.size w w' := by
  obtain ⟨c, s, rfl, hc, hs⟩ := hx
  obtain ⟨p, k, rfl⟩ := hc.form
  obtain ⟨q, m, rfl⟩ := hs.form
  obtain ⟨adr, nonce, bal, code, stor⟩ := x
  simp only [emptyAt]
  clear hc hs
  by_cases h1 : nonce = 0
  · have h1' : (nonce == 0) = true := by simp [h1]
    by_cases h2 : bal = zeroWrd
    · have h2' : decide (bal = zeroWrd) = true := by simp [h2]
      by_cases h3 : code.length = 0
      · have h3' : ((code.length : Int) == 0) = true := by simp [h3]
        have h4 : decide (stor.length = 0) = ((stor.length : Int) == 0) := by rw [Bool.eq_iff_iff]; simp
        have e : (decide (nonce = 0) && decide (bal = zeroWrd) && decide (code.length = 0) && decide (stor.length = 0)) = ((stor.length : Int) == 0) := by rw [h4]; simp [h1, h2, h3]
        rw [e]
        subst h1 h2
        simp only [h3]
        go_enter Try.func18, Try.ntmps18
        go_wp2
        go_ret
        exact ⟨rfl, bel_alloc (Below.refl _ _) _⟩
      · have h3' : ((code.length : Int) == 0) = false := by simp; exact fun e => h3 (by rw [e]; rfl)
        have e : (decide (nonce = 0) && decide (bal = zeroWrd) && decide (code.length = 0) && decide (stor.length = 0)) = false := by simp [h3]
        rw [e]
        go_enter Try.func18, Try.ntmps18
        go_wp2
        go_ret
        exact ⟨rfl, bel_alloc (Below.refl _ _) _⟩
    · have h2' : decide (bal = zeroWrd) = false := by simp [h2]
      have e : (decide (nonce = 0) && decide (bal = zeroWrd) && decide (code.length = 0) && decide (stor.length = 0)) = false := by simp [h2]
      rw [e]
      go_enter Try.func18, Try.ntmps18
      go_wp2
      go_ret
      exact ⟨rfl, bel_alloc (Below.refl _ _) _⟩
  · have h1' : (nonce == 0) = false := by simp [h1]
    have e : (decide (nonce = 0) && decide (bal = zeroWrd) && decide (code.length = 0) && decide (stor.length = 0)) = false := by simp [h1]
    rw [e]
    go_enter Try.func18, Try.ntmps18
    go_wp2
    go_ret
    exact ⟨rfl, bel_alloc (Below.refl _ _) _⟩
set_option maxRecDepth 100000 in
set_option maxHeartbeats 1000000 in
theorem ref13_Empty {S : Nat → Prop} (w : World) (row : Array Value) (x : Acc) (hx : AccIn S w row x) :
    Calls Try.prog 19 #[.agg row] w fun e w' => e = .returned (.bool (emptyAt x)) ∧ Below w.heap.size w w' := by
  obtain ⟨c, s, rfl, hc, hs⟩ := hx
  obtain ⟨p, k, rfl⟩ := hc.form
  obtain ⟨q, m, rfl⟩ := hs.form
  obtain ⟨adr, nonce, bal, code, stor⟩ := x
  simp only [emptyAt]
  clear hc hs
  by_cases h1 : nonce = 0
  · have h1' : (nonce == 0) = true := by simp [h1]
    by_cases h2 : bal = zeroWrd
    · have h2' : decide (bal = zeroWrd) = true := by simp [h2]
      by_cases h3 : code.length = 0
      · have h3' : ((code.length : Int) == 0) = true := by simp [h3]
        have h4 : decide (stor.length = 0) = ((stor.length : Int) == 0) := by rw [Bool.eq_iff_iff]; simp
        have e : (decide (nonce = 0) && decide (bal = zeroWrd) && decide (code.length = 0) && decide (stor.length = 0)) = ((stor.length : Int) == 0) := by rw [h4]; simp [h1, h2, h3]
        rw [e]
        subst h1 h2
        simp only [h3]
        go_enter Try.func19, Try.ntmps19
        go_wp2
        go_ret
        exact ⟨rfl, bel_alloc (Below.refl _ _) _⟩
      · have h3' : ((code.length : Int) == 0) = false := by simp; exact fun e => h3 (by rw [e]; rfl)
        have e : (decide (nonce = 0) && decide (bal = zeroWrd) && decide (code.length = 0) && decide (stor.length = 0)) = false := by simp [h3]
        rw [e]
        go_enter Try.func19, Try.ntmps19
        go_wp2
        go_ret
        exact ⟨rfl, bel_alloc (Below.refl _ _) _⟩
    · have h2' : decide (bal = zeroWrd) = false := by simp [h2]
      have e : (decide (nonce = 0) && decide (bal = zeroWrd) && decide (code.length = 0) && decide (stor.length = 0)) = false := by simp [h2]
      rw [e]
      go_enter Try.func19, Try.ntmps19
      go_wp2
      go_ret
      exact ⟨rfl, bel_alloc (Below.refl _ _) _⟩
  · have h1' : (nonce == 0) = false := by simp [h1]
    have e : (decide (nonce = 0) && decide (bal = zeroWrd) && decide (code.length = 0) && decide (stor.length = 0)) = false := by simp [h1]
    rw [e]
    go_enter Try.func19, Try.ntmps19
    go_wp2
    go_ret
    exact ⟨rfl, bel_alloc (Below.refl _ _) _⟩
end Go.Proofs.Ytadafohgglnneaa
