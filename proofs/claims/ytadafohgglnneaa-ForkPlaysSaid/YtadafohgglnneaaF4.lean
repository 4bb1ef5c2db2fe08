import Derived.Test.YtadafohgglnneaaF3
import Derived.Deep.RegionWith
import Derived.Deep.DeepCutAuto
namespace Go.Proofs.Ytadafohgglnneaa
open Go.RowKit
/-- A variable that holds an address. -/
structure AdrAt (w : World) (b : Nat) (a : Adr) : Prop where
  row : rowOf w b = a.cells
  lt : b < w.heap.size
theorem AdrAt.kept {M : Nat → Prop} {w w' : World} {b : Nat} {a : Adr} (h : AdrAt w b a) (hk : Kept M w w') (hm : ¬ M b) : AdrAt w' b a :=
  ⟨by rw [hk.row b h.lt hm]; exact h.row, Nat.lt_of_lt_of_le h.lt hk.size⟩
theorem AdrAt.below {w w' : World} {b : Nat} {a : Adr} (h : AdrAt w b a) (hk : Below w.heap.size w w') : AdrAt w' b a := h.kept (M := fun _ => False) (.of_below hk) id
def NoBlock (_ : Nat) : Prop := False
set_option maxRecDepth 100000 in
set_option maxHeartbeats 1000000 in
theorem fixed15 (w : World) :
    Calls Try.prog 20 #[] w fun e w' => e = .returned (.bool true) ∧ Below w.heap.size w w' := by
  go_enter Try.func20, Try.ntmps20
  go_wp2_with fail
  refine (fork_New _).mono ?_
  rintro e w0 ⟨rfl, hw0⟩
  have hC0 : CacheAt NoBlock w0 (w.heap.size + 2) w.heap.size (w.heap.size + 1) [] [] := by
    subst hw0
    exact ⟨by simp [go_sem], by simp [go_sem], by simp [go_sem], ⟨[], 0, by simp [go_sem], tidy_nil, trivial⟩, ⟨[], 0, by simp [go_sem], tidy_nil, trivial⟩, ⟨by omega, by omega, by omega⟩, fun _ h => h.elim, fun _ h => by simp at h⟩
  have hz0 : w0.heap.size = w.heap.size + 3 := by subst hw0; simp
  have hb0 : Below w.heap.size w w0 := by
    subst hw0
    repeat (first | exact Below.refl _ _ | apply bel_drewN | apply bel_drew | apply bel_alloc)
  clear hw0
  have Hz0 := Lib.hid hz0; clear hz0
  go_upto_region 3 with (fail)
  have hA : AdrAt (w0.alloc (Obj.cells adr1.cells 23)) w0.heap.size adr1 := ⟨by simp [go_sem], by simp⟩
  have hC1 : CacheAt NoBlock (w0.alloc (Obj.cells adr1.cells 23)) (w.heap.size + 2) w.heap.size (w.heap.size + 1) [] [] := hC0.kept (M := fun _ => False) (Kept.alloc (Kept.refl _ _) _) (fun _ _ => id) id id id
  have hB : Below w.heap.size w (w0.alloc (Obj.cells adr1.cells 23)) := bel_alloc hb0 _
  have hbb : w.heap.size + 3 ≤ w0.heap.size := by rw [Hz0.out]; omega
  clear hC0 hb0
  generalize w0.alloc (Obj.cells adr1.cells 23) = W at *
  generalize w0.heap.size = bb at *
  have hCd : CacheAt NoBlock W.drew (w.heap.size + 2) w.heap.size (w.heap.size + 1) [] [] := hC1.kept (M := fun _ => False) (Kept.drew (Kept.refl _ _)) (fun _ _ => id) id id id
  have hr := hA.row
  have hl := hA.lt
  have hne : ¬ bb = w.heap.size + 1 := by omega
  go_cut [3, 4] (fun x y wr => x = .int .u8 3 ∧ y = .int .u8 2 ∧ CacheAt NoBlock wr (w.heap.size + 2) w.heap.size (w.heap.size + 1) [] [(adr1, 0)] ∧ AdrAt wr bb adr1 ∧ Below w.heap.size w wr)
  case first =>
    go_region_with (first
      | (go_at_call 23; refine (want_new _ _ _ _ [] [] adr1 hCd rfl rfl).mono ?_; rintro e w1 ⟨rfl, hC2, hK1⟩; clear hCd; have hA1 := hA.kept (w' := w1) ((Kept.drew (Kept.refl _ _)).trans hK1) hne; have hr1 := hA1.row; have hl1 := hA1.lt)
      | (go_at_call 23; refine (want_asked _ _ _ _ [] [(adr1, 0)] adr1 (by assumption) rfl rfl).mono ?_; rintro e w2 ⟨rfl, hB2⟩))
    all_goals
      go_wp2
      go_meet
      exact ⟨rfl, rfl, hC2.kept (M := fun _ => False) (.of_below hB2) (fun _ _ => id) id id id, hA1.below hB2, bel_trans (bel_kept (bel_drew hB) hK1 (fun x hx e => by omega)) hB2⟩
  case rest =>
    obtain ⟨rfl, rfl, hC2, hA2, hB2⟩ := hcut
    clear hCd hr hl hA hC1 hB
    go_wp2
    go_loopw [13] (fun i wr => ∃ j : Nat, j ≤ 7 ∧ i = .int .i64 j ∧ CacheAt NoBlock wr (w.heap.size + 2) w.heap.size (w.heap.size + 1) [] [(adr1, j)] ∧ AdrAt wr bb adr1 ∧ Below w.heap.size w wr) (fun i _ => 7 - (intOf i).toNat)
    case atStart => exact ⟨0, by omega, rfl, hC2, hA2, hB2⟩
    case round =>
      clear hC2 hA2 hB2
      obtain ⟨j, hj, rfl, hC, hA, hB⟩ := hrel
      have hr := hA.row
      have hl := hA.lt
      by_cases hlt : j < 7
      · have hlt' : (j : Int) < 7 := by omega
        go_wp2_with fail
        refine (fail_again _ _ _ _ [] [(adr1, j)] adr1 j hC (by simp [findT]) hlt).mono ?_
        rintro e w1 ⟨rfl, hC1, hK1⟩
        go_wp2
        go_roundw
        case rel => exact ⟨j + 1, by omega, by go_num, by simpa [setT, findT] using hC1, hA.kept hK1 hne, bel_kept hB hK1 (fun x hx e => by omega)⟩
        case measure => simp [intOf]; omega
      · obtain rfl : j = 7 := by omega
        go_wp2_with fail
        refine (fail_lost _ _ _ _ [] [(adr1, 7)] adr1 hC (by simp [findT])).mono ?_
        rintro e w1 ⟨rfl, hC1, hK1⟩
        have hA1 := hA.kept hK1 hne
        have hr1 := hA1.row
        have hl1 := hA1.lt
        go_wp2_with fail
        refine (want_new _ _ _ _ [] [] adr1 (by simpa [delT] using hC1) rfl rfl).mono ?_
        rintro e w2 ⟨rfl, hC2, hK2⟩
        go_wp2
        go_ret
        exact ⟨rfl, bel_kept (bel_kept hB hK1 (fun x hx e => by omega)) hK2 (fun x hx e => by omega)⟩
end Go.Proofs.Ytadafohgglnneaa
