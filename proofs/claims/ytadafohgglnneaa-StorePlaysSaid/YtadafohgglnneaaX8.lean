import Derived.Test.YtadafohgglnneaaX4
import Derived.Test.YtadafohgglnneaaX7
namespace Go.Proofs.Ytadafohgglnneaa
open Go.RowKit
set_option maxRecDepth 100000 in
set_option maxHeartbeats 1000000 in
theorem commit_1 {S : Nat → Prop} (w : World) (row : Array Value) (x : Acc) (hx : AccIn S w row x) :
    Calls Try.prog 70 #[.agg row] w fun e w' => e = .returned (.bool (!rightB x.stor)) ∧ Below w.heap.size w w' := by
  have hsz := hx.size
  have hw : row.extract 0 27 = row := by rw [← hsz]; simp
  go_enter Try.func70, Try.ntmps70
  go_wp2_with fail
  refine (store_Right (S := S) _ row x (hx.below (bel_alloc (Below.refl _ _) _))).mono ?_
  rintro e w1 ⟨rfl, hb1⟩
  go_wp2
  go_ret
  exact ⟨rfl, bel_trans (bel_alloc (Below.refl _ _) _) hb1⟩
def badIdx (xs : List Acc) : Nat → Nat → Int
  | 0, _ => -1
  | n + 1, k => if rightB (accAt xs k).stor then badIdx xs n (k + 1) else k
def badAny (xs : List Acc) : Bool := xs.any fun x => !rightB x.stor
theorem badAny_false {xs : List Acc} (h : ∀ k, k < xs.length → rightB (accAt xs k).stor = true) : badAny xs = false := by
  rw [badAny, List.any_eq_false]
  intro x hx
  obtain ⟨k, hk, rfl⟩ := List.getElem_of_mem hx
  have := h k hk
  simp [accAt, hk] at this
  simp [this]
theorem badAny_true {xs : List Acc} {k : Nat} (hk : k < xs.length) (h : rightB (accAt xs k).stor = false) : badAny xs = true := by
  rw [badAny, List.any_eq_true]
  refine ⟨xs[k], List.getElem_mem hk, ?_⟩
  simp [accAt, hk] at h
  simp [h]
/-- An index, or -1. -/
def Found (w : World) (bad : Bool) (e : Ending) (w' : World) : Prop := ∃ i : Int, e = .returned (.int .i64 i) ∧ decide (i ≥ 0) = bad ∧ Below w.heap.size w w'
set_option maxRecDepth 100000 in
set_option maxHeartbeats 1000000 in
theorem index_bad {S : Nat → Prop} (w : World) (v : Value) (xs : List Acc) (hx : AccsAt S w v xs) :
    Calls Try.prog 97 #[v, .func (.func 70) #[] #[]] w (Found w (badAny xs)) := by
  by_cases hl : xs.length = 0
  · obtain ⟨p, c, rfl⟩ := hx.form
    rw [hl]
    have hbad : badAny xs = false := badAny_false fun k hk => by omega
    have Hb := Lib.hid hbad; clear hbad hx hl
    go_enter Try.func97, Try.ntmps97
    go_wp2
    go_loopw [8] (fun i wr => i = .int .i64 0 ∧ wr = w) (fun _ _ => 0)
    case atStart => exact ⟨rfl, rfl⟩
    case round =>
      obtain ⟨rfl, rfl⟩ := hrel
      go_wp2
      go_ret
      exact ⟨-1, rfl, by rw [Hb.out]; rfl, Below.refl _ _⟩
  · obtain ⟨b, o, c, rs, rfl, h1, h2, -, hb, hsz, hall⟩ := hx.pos (by omega)
    unfold maxLen at h2
    have Hall := Lib.hid hall; clear hall
    have Hl := Lib.hid hl; clear hl hx
    have hlen : xs.length ≤ 9223372036854775807 := by omega
    go_enter Try.func97, Try.ntmps97
    go_wp2
    go_loopw [8] (fun i wr => ∃ k : Nat, k ≤ xs.length ∧ i = .int .i64 k ∧ Hid (∀ j, j < k → rightB (accAt xs j).stor = true) ∧ Below w.heap.size w wr) (fun i _ => xs.length - (intOf i).toNat)
    case atStart => exact ⟨0, Nat.zero_le _, rfl, Lib.hid (fun j h => by omega), Below.refl _ _⟩
    case round =>
      obtain ⟨k, hk, rfl, hok, hbel⟩ := hrel
      by_cases hlt : k < xs.length
      · obtain ⟨hrow, hacc⟩ := Hall.out k hlt
        have hrb := bel_row hbel b hb
        have hs1 : o + k * 27 + 27 ≤ (rowOf wr b).size := by rw [hrb]; omega
        have hp : (rowOf wr b).extract (o + k * 27) (o + k * 27 + 27) = rowAt rs k := by rw [hrb]; exact hrow
        clear hrb hrow
        have hki : (k : Int) < (xs.length : Int) := by omega
        have hki0 : (0 : Int) ≤ (k : Int) := by omega
        go_wp2_with fail
        refine (commit_1 (S := S) _ _ (accAt xs k) (hacc.below hbel)).mono ?_
        rintro e w1 ⟨rfl, hb1⟩
        cases hr : rightB (accAt xs k).stor
        · have Hr := Lib.hid hr; clear hr
          go_wp2
          go_ret
          exact ⟨k, rfl, by rw [badAny_true hlt Hr.out]; simp, bel_trans hbel hb1⟩
        · have Hr := Lib.hid hr; clear hr
          go_wp2
          go_roundw
          case rel => exact ⟨k + 1, by omega, by go_num, Lib.hid (fun j h => by
            by_cases hj : j = k
            · subst hj; exact Hr.out
            · exact hok.out j (by omega)), bel_trans hbel hb1⟩
          case measure => simp [intOf]; omega
      · have hbad : badAny xs = false := badAny_false fun j hj => hok.out j (by omega)
        have Hb := Lib.hid hbad; clear hbad
        go_wp2
        go_ret
        exact ⟨-1, rfl, by rw [Hb.out]; rfl, hbel⟩
set_option maxRecDepth 100000 in
set_option maxHeartbeats 1000000 in
theorem contains_bad {S : Nat → Prop} (w : World) (v : Value) (xs : List Acc) (hx : AccsAt S w v xs) :
    Calls Try.prog 69 #[v, .func (.func 70) #[] #[]] w fun e w' => e = .returned (.bool (badAny xs)) ∧ Below w.heap.size w w' := by
  go_enter Try.func69, Try.ntmps69
  go_wp2_with fail
  refine (index_bad _ v xs hx).mono ?_
  rintro e w1 ⟨i, rfl, hi, hb1⟩
  have Hi := Lib.hid hi; clear hi
  go_wp2
  go_ret
  exact ⟨by rw [← Hi.out]; rfl, hb1⟩
end Go.Proofs.Ytadafohgglnneaa
