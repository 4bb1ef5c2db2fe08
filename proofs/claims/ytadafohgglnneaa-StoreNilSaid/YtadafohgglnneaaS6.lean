/- What a nil store answers, call by call. No condition. -/
import Derived.Test.YtadafohgglnneaaS5
namespace Go.Proofs.Ytadafohgglnneaa
open Go.RowKit
set_option maxRecDepth 100000 in
theorem nilS_has (w : World) (v : Int) : Calls Try.prog 68 #[.pointer none, .int .i64 v] w fun e w' => e = .returned (.bool false) ∧ w' = w := by
  go_enter Try.func68, Try.ntmps68
  go_wp2
  go_ret
  exact ⟨rfl, rfl⟩
set_option maxRecDepth 100000 in
theorem nilS_Commit (w : World) (v : Int) (p : Option Addr) (n c : Nat) : Calls Try.prog 29 #[.pointer none, .int .i64 v, .slice p n c] w fun e w' => e = .returned (.tuple #[.int .i64 0, .int .i64 1]) ∧ Below w.heap.size w w' := by
  go_enter Try.func29, Try.ntmps29
  go_wp2
  refine bodyPost_ret (v := .tuple #[.int .i64 0, .int .i64 1]) (by simp [results, Try.results29, go_sem]) rfl ⟨rfl, Below.refl _ _⟩
set_option maxRecDepth 100000 in
set_option maxHeartbeats 1000000 in
theorem nilS_find (w : World) (v : Int) (a : Adr) : Calls Try.prog 82 #[.pointer none, .int .i64 v, .agg a.cells] w fun e w' => e = .returned (.tuple #[.agg zeroRow, .bool false]) ∧ Below w.heap.size w w' := by
  go_enter Try.func82, Try.ntmps82
  go_wp2_with fail
  refine (nilS_has _ v).mono ?_
  rintro e w1 ⟨rfl, rfl⟩
  go_wp2
  refine bodyPost_ret (v := .tuple #[.agg zeroRow, .bool false]) (by simp [results, Try.results82, go_sem, zeroRow]) rfl ⟨rfl, ?_⟩
  repeat (first | exact Below.refl _ _ | apply bel_alloc | (apply bel_setSeg <;> simp))
set_option maxRecDepth 100000 in
set_option maxHeartbeats 1000000 in
theorem nilS_Find (w : World) (v : Int) (a : Adr) : Calls Try.prog 44 #[.pointer none, .int .i64 v, .agg a.cells] w (GotOwn w none) := by
  have B1 : Below w.heap.size w ((w.alloc (.cells a.cells 23)).alloc (.cells zeroRow 30)) := bel_alloc (bel_alloc (Below.refl _ _) _) _
  unfold zeroRow at B1
  go_enter Try.func44, Try.ntmps44
  go_wp2_with fail
  refine (nilS_find _ v a).mono ?_
  rintro e w1 ⟨rfl, hb1⟩
  have hr : AccIn Anywhere w1 zeroRow zeroAcc := AccIn.empty _ _ _
  have hrs := hr.size
  have hr1 := hr.one
  have hrw : zeroRow.extract 0 27 = zeroRow := by rw [← hrs]; simp
  have z1 : rowOf w1 (w.heap.size + 1) = accRow zeroAdr 0 zeroWrd (.slice none 0 0) (.slice none 0 0) := by rw [bel_row hb1 _ (by simp)]; simp [go_sem]
  have z2 : isRow w1 (w.heap.size + 1) = true := by rw [bel_isRow hb1 _ (by simp)]; simp [go_sem]
  have z3 : rowFr w1 (w.heap.size + 1) = (0, 0) := by rw [bel_rowFr hb1 _ (by simp)]; simp [go_sem]
  have B2 := bel_trans B1 hb1
  have z4 := isRow_lt z2
  clear hb1
  have B3 : Below w1.heap.size w1 (w1.alloc (.cells zeroRow 30)) := bel_alloc (Below.refl _ _) _
  go_wp2_with fail
  refine (store_own _ zeroRow zeroAcc (hr.below B3) ⟨by simp [zeroAcc, emptyAcc], by simp [zeroAcc, emptyAcc]⟩).mono ?_
  rintro e w2 ⟨r2, rfl, hr2, hb2⟩
  have hrs2 := hr2.size
  have hr21 := hr2.one
  have hrw2 : r2.extract 0 27 = r2 := by rw [← hrs2]; simp
  have y1 : rowOf w2 (w.heap.size + 1) = accRow zeroAdr 0 zeroWrd (.slice none 0 0) (.slice none 0 0) := by rw [bel_row hb2 _ (by simp; omega)]; simp [go_sem, z1, z4]
  have y2 : isRow w2 (w.heap.size + 1) = true := by rw [bel_isRow hb2 _ (by simp; omega)]; simp [go_sem, z2, z4]
  have y3 : rowFr w2 (w.heap.size + 1) = (0, 0) := by rw [bel_rowFr hb2 _ (by simp; omega)]; simp [go_sem, z3, z4]
  have y4 := isRow_lt y2
  have B4 := bel_trans (bel_trans B2 B3) hb2
  have hz := hb2.size
  clear hb2
  go_wp2
  refine bodyPost_ret (v := .tuple #[.agg r2, .bool false]) (by simp [results, Try.results44, go_sem, hrs2, hrw2, y1]) rfl ⟨r2, rfl, ?_, ?_⟩
  · refine (hr2.same fun b hb hF => ?_).mono fun b hb => ?_
    · have := hF.1
      simp at this
      rw [setSeg_block_ne _ _ _ _ _ (by omega)]
    · obtain ⟨p1, p2⟩ := hb
      simp at p1
      exact ⟨by omega, by simp; omega⟩
  · exact bel_setSeg B4 _ _ _ (by omega)
set_option maxRecDepth 100000 in
theorem nilS_Parent (w : World) (v : Int) : Calls Try.prog 53 #[.pointer none, .int .i64 v] w fun e w' => e = .returned (.tuple #[.int .i64 0, .bool false]) ∧ Below w.heap.size w w' := by
  go_enter Try.func53, Try.ntmps53
  go_wp2_with fail
  refine (nilS_has _ v).mono ?_
  rintro e w1 ⟨rfl, rfl⟩
  go_wp2
  refine bodyPost_ret (v := .tuple #[.int .i64 0, .bool false]) (by simp [results, Try.results53, go_sem]) rfl ⟨rfl, Below.refl _ _⟩
set_option maxRecDepth 100000 in
theorem nilS_All (w : World) (v : Int) : Calls Try.prog 42 #[.pointer none, .int .i64 v] w fun e w' => e = .returned (.slice none 0 0) ∧ Below w.heap.size w w' := by
  go_enter Try.func42, Try.ntmps42
  go_wp2_with fail
  refine (nilS_has _ v).mono ?_
  rintro e w1 ⟨rfl, rfl⟩
  go_wp2
  go_ret
  exact ⟨rfl, Below.refl _ _⟩
set_option maxRecDepth 100000 in
theorem nilS_Len (w : World) : Calls Try.prog 41 #[.pointer none] w fun e w' => e = .returned (.int .i64 0) ∧ Below w.heap.size w w' := by
  go_enter Try.func41, Try.ntmps41
  go_wp2
  go_ret
  exact ⟨rfl, Below.refl _ _⟩
set_option maxRecDepth 100000 in
set_option maxHeartbeats 1000000 in
theorem search_nil (w : World) (k : Wrd) : Calls Try.prog 84 #[.slice none 0 0, .agg k.cells, .func (.func 85) #[] #[]] w fun e w' => e = .returned (.tuple #[.int .i64 0, .bool false]) ∧ Below w.heap.size w w' := by
  go_enter Try.func84, Try.ntmps84
  go_wp2
  go_loopw [9, 10] (fun i j wr => i = .int .i64 0 ∧ j = .int .i64 0 ∧ Below w.heap.size w wr) (fun _ _ _ => 0)
  case atStart => exact ⟨rfl, rfl, bel_alloc (Below.refl _ _) _⟩
  case round =>
    obtain ⟨rfl, rfl, hbel⟩ := hrel
    go_wp2
    go_quiet (fail)
    go_wp2
    refine bodyPost_ret (v := .tuple #[.int .i64 0, .bool false]) (by simp [results, Try.results84, go_sem]) rfl ⟨rfl, bel_drewN hbel _⟩
set_option maxRecDepth 100000 in
set_option maxHeartbeats 1000000 in
theorem nilS_Slot (w : World) (v : Int) (a : Adr) (k : Wrd) : Calls Try.prog 54 #[.pointer none, .int .i64 v, .agg a.cells, .agg k.cells] w fun e w' => e = .returned (.agg zeroWrd.cells) ∧ Below w.heap.size w w' := by
  have B1 : Below w.heap.size w (((w.alloc (.cells a.cells 23)).alloc (.cells k.cells 26)).alloc (.cells zeroWrd.cells 26)) := bel_alloc (bel_alloc (bel_alloc (Below.refl _ _) _) _) _
  go_enter Try.func54, Try.ntmps54
  go_wp2_with fail
  refine (nilS_find _ v a).mono ?_
  rintro e w1 ⟨rfl, hb1⟩
  obtain ⟨r1, i1, l1⟩ := carryRow hb1 (r := k.cells) (b := w.heap.size + 1) (by simp [go_sem]) (by simp [go_sem])
  obtain ⟨r2, i2, l2⟩ := carryRow hb1 (r := zeroWrd.cells) (b := w.heap.size + 2) (by simp [go_sem]) (by simp [go_sem])
  have f2 : rowFr w1 (w.heap.size + 2) = (0, 0) := by rw [bel_rowFr hb1 _ (by simp)]; simp [go_sem]
  have B2 := bel_trans B1 hb1
  clear hb1
  unfold zeroRow
  have c2 : (w1.alloc (.cells (accRow zeroAdr 0 zeroWrd (.slice none 0 0) (.slice none 0 0)) 30)).cell? ⟨w1.heap.size, 26, none⟩ = some (.slice none 0 0) := by rw [cell_row, rowOf_alloc_at _ _ _ _ rfl, accRow_stor]
  go_wp2_with fail
  refine (search_nil _ k).mono ?_
  rintro e w3 ⟨rfl, hb3⟩
  obtain ⟨r3, i3, l3⟩ := carryRow hb3 (r := zeroWrd.cells) (b := w.heap.size + 2) (by simp [go_sem, r2, l2]) (by simp [go_sem, i2, l2])
  have f3 : rowFr w3 (w.heap.size + 2) = (0, 0) := by rw [bel_rowFr hb3 _ (by simp; omega)]; simp [go_sem, f2, l2]
  have B3 := bel_trans (bel_alloc B2 _) hb3
  clear hb3
  go_wp2
  refine bodyPost_ret (v := .agg zeroWrd.cells) (by simp [results, Try.results54, go_sem, r3]) rfl ⟨rfl, bel_setSeg B3 _ _ _ (by omega)⟩
end Go.Proofs.Ytadafohgglnneaa
