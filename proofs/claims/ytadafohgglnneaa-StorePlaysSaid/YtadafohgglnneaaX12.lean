/- The document's Find: the first account of an address in a row. No condition. -/
import Derived.Test.YtadafohgglnneaaS2
namespace Go.Proofs.Ytadafohgglnneaa
open Go.RowKit
theorem findK_none {a : Adr} {xs : List Acc} (h : ∀ j, j < xs.length → (accAt xs j).adr ≠ a) : findK a xs = none := by
  rw [findK, List.find?_eq_none]
  intro x hx
  obtain ⟨k, hk, rfl⟩ := List.getElem_of_mem hx
  have := h k hk
  simp [accAt, hk] at this
  simpa using this
theorem findK_at {a : Adr} {xs : List Acc} {k : Nat} (hk : k < xs.length) (h0 : ∀ j, j < k → (accAt xs j).adr ≠ a) (h : (accAt xs k).adr = a) : findK a xs = some (accAt xs k) := by
  have e : xs = xs.take k ++ (xs[k] :: xs.drop (k + 1)) := by
    rw [← List.drop_eq_getElem_cons hk, List.take_append_drop]
  have ea : accAt xs k = xs[k] := by simp [accAt, hk]
  rw [ea] at h ⊢
  have hn : (xs.take k).find? (fun x => decide (x.adr = a)) = none := by
    rw [List.find?_eq_none]
    intro x hx
    obtain ⟨j, hj, rfl⟩ := List.getElem_of_mem hx
    have hj' : j < k := by simp at hj; omega
    have := h0 j hj'
    have hj2 : j < xs.length := by omega
    simp [accAt, hj2] at this
    simpa using this
  unfold findK
  have e2 := congrArg (List.find? (fun x => decide (x.adr = a))) e
  rw [e2, List.find?_append, hn, List.find?_cons]
  simp [h]
set_option maxRecDepth 100000 in
set_option maxHeartbeats 1000000 in
theorem ref13_Find {S : Nat → Prop} (w : World) (v : Value) (xs : List Acc) (a : Adr) (hx : AccsAt S w v xs) :
    Calls Try.prog 22 #[v, .agg a.cells] w (Got S w (findK a xs)) := by
  obtain ⟨p, n, rfl⟩ := hx.form
  have hxl := hx.le
  unfold maxLen at hxl
  have hX := Lib.hid hx
  clear hx
  generalize hRR : findK a xs = R
  have HR := Lib.hid hRR
  clear hRR
  go_enter Try.func22, Try.ntmps22
  go_wp2
  go_loopw [9] (fun i wr => ∃ k : Nat, k ≤ xs.length ∧ i = .int .i64 k ∧ Hid (∀ j, j < k → (accAt xs j).adr ≠ a) ∧ Below w.heap.size w wr ∧ rowOf wr w.heap.size = a.cells ∧ isRow wr w.heap.size = true ∧
      rowOf wr (w.heap.size + 1) = accRow zeroAdr 0 zeroWrd (.slice none 0 0) (.slice none 0 0) ∧ isRow wr (w.heap.size + 1) = true ∧ rowFr wr (w.heap.size + 1) = (0, 0)) (fun i _ => xs.length - (intOf i).toNat)
  case atStart => exact ⟨0, Nat.zero_le _, rfl, Lib.hid (fun j h => by omega), bel_alloc (bel_alloc (Below.refl _ _) _) _, by simp [go_sem], by simp [go_sem], by simp [go_sem], by simp [go_sem], by simp [go_sem]⟩
  case round =>
    obtain ⟨k, hk, rfl, hno, hbel, r0, i0, r1, i1, f1⟩ := hrel
    have g0 := isRow_lt i0
    have g1 := isRow_lt i1
    by_cases hlt : k < xs.length
    · obtain ⟨b, o, cc, rs, hv', q1, q2, -, hb0, hsz, hall⟩ := hX.out.pos (by omega)
      cases hv'
      obtain ⟨hrow, hacc⟩ := hall k hlt
      rw [← bel_row hbel b hb0] at hrow hsz
      have hbb : b < wr.heap.size := by have := hbel.size; omega
      have hs1 : o + k * 27 + 27 ≤ (rowOf wr b).size := by omega
      have hs2 : o + k * 27 + 20 ≤ (rowOf wr b).size := by omega
      have hki : (k : Int) < (xs.length : Int) := by omega
      have hki0 : (0 : Int) ≤ (k : Int) := by omega
      have hrz := hacc.size
      have hr1 := hacc.one
      generalize hrr : rowAt rs k = row at *
      have hw27 : row.extract 0 27 = row := by rw [← hrz]; simp
      generalize hxx : accAt xs k = x at *
      have had : row.extract 0 20 = x.adr.cells := by obtain ⟨c, s, rfl, -⟩ := hacc; simp
      have hp20 : (rowOf wr b).extract (o + k * 27) (o + k * 27 + 20) = x.adr.cells := by
        rw [← had, ← hrow, Array.extract_extract]; congr 1; omega
      clear hall
      by_cases he : x.adr = a
      · have hd : decide (x.adr = a) = true := by simp [he]
        have hR : R = some x := by rw [← HR.out, ← hxx]; exact findK_at hlt hno.out (by rw [hxx]; exact he)
        subst hR
        go_wp2
        refine wp_region_quiet_below (by kernel_rfl) (by kernel_rfl) ?_
        repeat (go_big_quiet_step (fail))
        refine wpQuiet_nil ?_
        rintro w1 ⟨q, rfl⟩
        have bw := below_regrown wr q.d q.os
        generalize Sort.grow (redrawn wr q.d) q.os = W1 at *
        have B1 := bel_trans hbel bw
        have y0 : rowOf W1 w.heap.size = a.cells := by rw [bel_row bw _ g0, r0]
        have j0 : isRow W1 w.heap.size = true := by rw [bel_isRow bw _ g0, i0]
        have y1 : rowOf W1 (w.heap.size + 1) = accRow zeroAdr 0 zeroWrd (.slice none 0 0) (.slice none 0 0) := by rw [bel_row bw _ g1, r1]
        have j1 : isRow W1 (w.heap.size + 1) = true := by rw [bel_isRow bw _ g1, i1]
        have h1 : rowFr W1 (w.heap.size + 1) = (0, 0) := by rw [bel_rowFr bw _ g1, f1]
        have yb : rowOf W1 b = rowOf wr b := by rw [bel_row bw _ hbb]
        have hs3 : o + k * 27 + 27 ≤ (rowOf W1 b).size := by rw [yb]; exact hs1
        have hp27 : (rowOf W1 b).extract (o + k * 27) (o + k * 27 + 27) = row := by rw [yb]; exact hrow
        clear yb bw
        go_wp2
        refine bodyPost_ret (v := .tuple #[.agg row, .bool true]) (by simp [results, Try.results22, go_sem, y1, hrz, hw27]) rfl ⟨row, rfl, ?_, bel_setSeg B1 _ _ _ (by omega)⟩
        exact hacc.below (bel_setSeg B1 _ _ _ (by omega))
      · have hd : decide (x.adr = a) = false := by simp [he]
        go_wp2
        refine wp_region_quiet_below (by kernel_rfl) (by kernel_rfl) ?_
        repeat (go_big_quiet_step (fail))
        refine wpQuiet_nil ?_
        rintro w1 ⟨q, rfl⟩
        have bw := below_regrown wr q.d q.os
        generalize Sort.grow (redrawn wr q.d) q.os = W1 at *
        have B1 := bel_trans hbel bw
        have y0 : rowOf W1 w.heap.size = a.cells := by rw [bel_row bw _ g0, r0]
        have j0 : isRow W1 w.heap.size = true := by rw [bel_isRow bw _ g0, i0]
        have y1 : rowOf W1 (w.heap.size + 1) = accRow zeroAdr 0 zeroWrd (.slice none 0 0) (.slice none 0 0) := by rw [bel_row bw _ g1, r1]
        have j1 : isRow W1 (w.heap.size + 1) = true := by rw [bel_isRow bw _ g1, i1]
        have h1 : rowFr W1 (w.heap.size + 1) = (0, 0) := by rw [bel_rowFr bw _ g1, f1]
        have yb : rowOf W1 b = rowOf wr b := by rw [bel_row bw _ hbb]
        have hs3 : o + k * 27 + 27 ≤ (rowOf W1 b).size := by rw [yb]; exact hs1
        have hp27 : (rowOf W1 b).extract (o + k * 27) (o + k * 27 + 27) = row := by rw [yb]; exact hrow
        clear yb bw
        go_wp2
        go_roundw
        case rel => exact ⟨k + 1, by omega, by go_num, Lib.hid (fun j h => by
          by_cases hj : j = k
          · subst hj; rw [hxx]; exact he
          · exact hno.out j (by omega)), B1, y0, j0, y1, j1, h1⟩
        case measure => simp [intOf]; omega
    · obtain rfl : k = xs.length := by omega
      have hR : R = none := by rw [← HR.out]; exact findK_none hno.out
      subst hR
      have hki : ¬ ((xs.length : Int) < (xs.length : Int)) := by omega
      go_wp2
      refine bodyPost_ret (v := .tuple #[.agg zeroRow, .bool false]) (by simp [results, Try.results22, go_sem, zeroRow, r1]) rfl ⟨zeroRow, rfl, AccIn.empty _ _ _, ?_⟩
      exact bel_setSeg hbel _ _ _ (by omega)
end Go.Proofs.Ytadafohgglnneaa
