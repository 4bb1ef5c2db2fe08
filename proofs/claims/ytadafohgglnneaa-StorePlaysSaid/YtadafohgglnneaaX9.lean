import Derived.Test.YtadafohgglnneaaFacts
namespace Go.Proofs.Ytadafohgglnneaa
open Go.RowKit
def greatAcc (x : Acc) : Bool := decide ((x.code.length : Int) > 3000) || decide ((x.stor.length : Int) > 100)
def greatB (xs : List Acc) : Bool := decide ((xs.length : Int) > 50) || xs.any greatAcc
theorem great_any {xs : List Acc} {k : Nat} (hk : k < xs.length) (h : greatAcc (accAt xs k) = true) : greatB xs = true := by
  simp only [greatB, Bool.or_eq_true, List.any_eq_true]
  exact .inr ⟨xs[k], List.getElem_mem hk, by simpa [accAt, hk] using h⟩
theorem great_none {xs : List Acc} (h0 : xs.length ≤ 50) (h : ∀ k, k < xs.length → greatAcc (accAt xs k) = false) : greatB xs = false := by
  simp only [greatB, Bool.or_eq_false_iff, List.any_eq_false]
  refine ⟨by simp; omega, fun x hx => ?_⟩
  obtain ⟨k, hk, rfl⟩ := List.getElem_of_mem hx
  have := h k hk
  simp [accAt, hk] at this
  simp [this]
set_option maxRecDepth 100000 in
set_option maxHeartbeats 1000000 in
theorem ref13_Great {S : Nat → Prop} (w : World) (v : Value) (xs : List Acc) (hx : AccsAt S w v xs) :
    Calls Try.prog 14 #[v] w fun e w' => e = .returned (.bool (greatB xs)) ∧ Below w.heap.size w w' := by
  obtain ⟨p0, c0, rfl⟩ := hx.form
  by_cases h50 : (xs.length : Int) > 50
  · have hg : greatB xs = true := by simp [greatB, h50]
    have Hg := Lib.hid hg; clear hg
    have hb : decide ((xs.length : Int) > 50) = true := by simpa using h50
    clear hx
    go_enter Try.func14, Try.ntmps14
    go_wp2
    go_ret
    exact ⟨by rw [Hg.out]; rfl, Below.refl _ _⟩
  have hb : decide ((xs.length : Int) > 50) = false := by simpa using h50
  have h50' : (xs.length : Int) ≤ 50 := by omega
  by_cases hl : xs.length = 0
  · have hg : greatB xs = false := great_none (by omega) fun k hk => by omega
    have Hg := Lib.hid hg; clear hg
    rw [hl]
    clear hx hb h50 h50' hl
    go_enter Try.func14, Try.ntmps14
    go_wp2
    go_loopw [9] (fun i wr => i = .int .i64 0 ∧ wr = w) (fun _ _ => 0)
    case atStart => exact ⟨rfl, rfl⟩
    case round =>
      obtain ⟨rfl, rfl⟩ := hrel
      go_wp2
      go_ret
      exact ⟨by rw [Hg.out]; rfl, Below.refl _ _⟩
  · obtain ⟨b, o, c, rs, e0, h1, h2, -, hbl, hsz, hall⟩ := hx.pos (by omega)
    cases e0
    unfold maxLen at h2
    have Hall := Lib.hid hall; clear hall
    have Hl := Lib.hid hl; clear hl hx
    clear h50
    go_enter Try.func14, Try.ntmps14
    go_wp2
    go_loopw [9] (fun i wr => ∃ k : Nat, k ≤ xs.length ∧ i = .int .i64 k ∧ Hid (∀ j, j < k → greatAcc (accAt xs j) = false) ∧ wr = w) (fun i _ => xs.length - (intOf i).toNat)
    case atStart => exact ⟨0, Nat.zero_le _, rfl, Lib.hid (fun j h => by omega), rfl⟩
    case round =>
      obtain ⟨k, hk, rfl, hok, rfl⟩ := hrel
      by_cases hlt : k < xs.length
      · obtain ⟨hrow, cv, sv, hr, hc, hs⟩ := Hall.out k hlt
        obtain ⟨pc, kc, rfl⟩ := hc.form
        obtain ⟨ps, ks, rfl⟩ := hs.form
        have hs1 : o + k * 27 + 27 ≤ (rowOf wr b).size := by omega
        rw [hr] at hrow
        have g : ∀ i, i < 27 → (rowOf wr b)[o + k * 27 + i]? = (accRow (accAt xs k).adr (accAt xs k).nonce (accAt xs k).bal (.slice pc (accAt xs k).code.length kc) (.slice ps (accAt xs k).stor.length ks))[i]? := fun i hi => seg_get (by simp; omega) (by simpa using hrow) (by simpa using hi)
        have hc25 : wr.cell? ⟨b, o + k * 27 + 25, none⟩ = some (.slice pc (accAt xs k).code.length kc) := by rw [cell_row, g 25 (by omega), accRow_code]
        have hc26 : wr.cell? ⟨b, o + k * 27 + 26, none⟩ = some (.slice ps (accAt xs k).stor.length ks) := by rw [cell_row, g 26 (by omega), accRow_stor]
        clear g hrow hr hc hs
        have hki : (k : Int) < (xs.length : Int) := by omega
        have hki0 : (0 : Int) ≤ (k : Int) := by omega
        by_cases g1 : ((accAt xs k).code.length : Int) > 3000
        · have gb1 : decide (((accAt xs k).code.length : Int) > 3000) = true := by simpa using g1
          have Hg := Lib.hid (great_any hlt (by simp [greatAcc, g1]))
          clear g1
          go_wp2
          go_ret
          exact ⟨by rw [Hg.out]; rfl, Below.refl _ _⟩
        · have gb1 : decide (((accAt xs k).code.length : Int) > 3000) = false := by simpa using g1
          by_cases g2 : ((accAt xs k).stor.length : Int) > 100
          · have gb2 : decide (((accAt xs k).stor.length : Int) > 100) = true := by simpa using g2
            have Hg := Lib.hid (great_any hlt (by simp [greatAcc, g2]))
            clear g1 g2
            go_wp2
            go_ret
            exact ⟨by rw [Hg.out]; rfl, Below.refl _ _⟩
          · have gb2 : decide (((accAt xs k).stor.length : Int) > 100) = false := by simpa using g2
            have Hg := Lib.hid (show greatAcc (accAt xs k) = false by simp [greatAcc]; omega)
            clear g1 g2
            go_wp2
            go_roundw
            case rel => exact ⟨k + 1, by omega, by go_num, Lib.hid (fun j h => by
              by_cases hj : j = k
              · subst hj; exact Hg.out
              · exact hok.out j (by omega)), trivial⟩
            case measure => simp [intOf]; omega
      · have Hg := Lib.hid (great_none (by omega) fun j hj => hok.out j (by omega))
        go_wp2
        go_ret
        exact ⟨by rw [Hg.out]; rfl, Below.refl _ _⟩
end Go.Proofs.Ytadafohgglnneaa
