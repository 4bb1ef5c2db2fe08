import Derived.Test.YtadafohgglnneaaX6
namespace Go.Proofs.Ytadafohgglnneaa
open Go.RowKit
/-- An account of one's own. -/
def Owned (w : World) (x : Acc) (e : Ending) (w' : World) : Prop := ∃ row, e = .returned (.agg row) ∧ AccIn (Fresh w w') w' row x ∧ Below w.heap.size w w'
def smallAcc (x : Acc) : Prop := x.code.length ≤ 1048576 ∧ x.stor.length ≤ 1048576
set_option maxRecDepth 100000 in
set_option maxHeartbeats 1000000 in
theorem store_own {S : Nat → Prop} (w : World) (row : Array Value) (x : Acc) (hx : AccIn S w row x) (hs : smallAcc x) :
    Calls Try.prog 71 #[.agg row] w (Owned w x) := by
  obtain ⟨c, s, rfl, hc, hst⟩ := hx
  obtain ⟨adr, nonce, bal, code, l⟩ := x
  simp only at hc hst ⊢
  go_enter Try.func71, Try.ntmps71
  go_wp2_with fail
  refine (clone_bytes (S := S) _ c code.length (ints .u8 (bI code)) (hc.below (bel_alloc (bel_alloc (Below.refl _ _) _) _)) (by simp) (ints_one _ _) hs.1).mono ?_
  rintro e w1 ⟨v1, rfl, hv1, hb1⟩
  obtain ⟨p1, k1, rfl⟩ := hv1.form
  have hz1 := hb1.size
  simp only [World.size_alloc] at hz1 hb1
  have hr0 : rowOf w1 w.heap.size = accRow adr nonce bal c s := by rw [bel_row hb1 _ (by omega), rowOf_alloc_past _ _ _ (by simp), rowOf_alloc_at _ _ _ _ rfl]
  have hf0 : rowFr w1 w.heap.size = (0, 0) := by rw [bel_rowFr hb1 _ (by omega), rowFr_alloc_past _ _ _ (by simp), rowFr_alloc_at _ _ _ _ rfl]
  have hc25 : w1.cell? ⟨w.heap.size, 25, none⟩ = some c := by rw [cell_row, hr0, accRow_code]
  have hc26 : w1.cell? ⟨w.heap.size, 26, none⟩ = some s := by rw [cell_row, hr0, accRow_stor]
  have hz25 : w1.frozen? ⟨w.heap.size, 25, none⟩ = false := frozen_row _ _ _ hf0
  have B1 : Below w.heap.size w w1 := bel_trans (bel_alloc (bel_alloc (Below.refl _ _) _) _) (by simpa using hb1)
  have B2 : Below w.heap.size w (w1.setCell ⟨w.heap.size, 25, none⟩ (.slice p1 code.length k1)) := bel_setCell B1 _ _ (Nat.le_refl _)
  have Hr0 := Lib.hid hr0; clear hr0
  have Hf0 := Lib.hid hf0; clear hf0
  go_wp2_with fail
  refine (clone_slots (S := S) _ s l.length (sltRow l) (hst.below B2) (sltRow_size l) (sltRow_one l) hs.2).mono ?_
  rintro e w2 ⟨v2, rfl, hv2, hb2⟩
  obtain ⟨p2, k2, rfl⟩ := hv2.form
  have hz2 := hb2.size
  simp only [World.size_setCell] at hz2
  have hr1 : rowOf w2 w.heap.size = accRow adr nonce bal (.slice p1 code.length k1) s := by
    rw [bel_row hb2 _ (by simp; omega), rowOf_setCell_same, Hr0.out, accRow_setCode]
  have hf1 : rowFr w2 w.heap.size = (0, 0) := by rw [bel_rowFr hb2 _ (by simp; omega), rowFr_setCell, Hf0.out]
  have hd26 : w2.cell? ⟨w.heap.size, 26, none⟩ = some s := by rw [cell_row, hr1, accRow_stor]
  have hz26 : w2.frozen? ⟨w.heap.size, 26, none⟩ = false := frozen_row _ _ _ hf1
  have hr2 : rowOf w2 (w.heap.size + 1) = accRow zeroAdr 0 zeroWrd (.slice none 0 0) (.slice none 0 0) := by
    rw [bel_row hb2 _ (by simp; omega), rowOf_setCell_other _ _ _ _ (by simp), bel_row hb1 _ (by omega), rowOf_alloc_at _ _ _ _ (by simp)]
  have hi2 : isRow w2 (w.heap.size + 1) = true := by
    rw [bel_isRow hb2 _ (by simp; omega), isRow_setCell, bel_isRow hb1 _ (by omega), isRow_alloc_at _ _ _ _ (by simp)]
  have hf2 : rowFr w2 (w.heap.size + 1) = (0, 0) := by
    rw [bel_rowFr hb2 _ (by simp; omega), rowFr_setCell, bel_rowFr hb1 _ (by omega), rowFr_alloc_at _ _ _ _ (by simp)]
  have hne : w.heap.size + 1 ≠ w.heap.size := by omega
  have hne' : w.heap.size ≠ w.heap.size + 1 := by omega
  clear hc25 hc26 hz25
  go_wp2
  refine bodyPost_ret (v := .agg (accRow adr nonce bal (.slice p1 code.length k1) (.slice p2 l.length k2))) (by simp [results, Try.results71, go_sem, hr2]) rfl ⟨_, rfl, ?_, ?_⟩
  · have e1 : ∀ b, w.heap.size + 1 + 1 ≤ b → b < w1.heap.size → (World.setSeg (w2.setCell ⟨w.heap.size, 26, none⟩ (.slice p2 l.length k2)) (w.heap.size + 1) 0 (accRow adr nonce bal (.slice p1 code.length k1) (.slice p2 l.length k2)).toList).heap[b]? = w1.heap[b]? := fun b h1 h2 => by
      rw [setSeg_block_ne _ _ _ _ _ (by omega), Below.heap_setCell _ _ _ _ (by simp only; omega), hb2.block b (by simp; exact h2), Below.heap_setCell _ _ _ _ (by simp only; omega)]
    have e2 : ∀ b, w1.heap.size ≤ b → b < w2.heap.size → (World.setSeg (w2.setCell ⟨w.heap.size, 26, none⟩ (.slice p2 l.length k2)) (w.heap.size + 1) 0 (accRow adr nonce bal (.slice p1 code.length k1) (.slice p2 l.length k2)).toList).heap[b]? = w2.heap[b]? := fun b h1 h2 => by
      rw [setSeg_block_ne _ _ _ _ _ (by omega), Below.heap_setCell _ _ _ _ (by simp only; omega)]
    refine ⟨_, _, rfl, ?_, ?_⟩
    · refine (hv1.same fun b hb hF => e1 b ?_ hb).mono fun b hb => ?_
      · simpa [Fresh] using hF.1
      · obtain ⟨h1, h2⟩ := hb
        simp at h1
        exact ⟨by omega, by simp; omega⟩
    · refine (hv2.same fun b hb hF => e2 b ?_ hb).mono fun b hb => ?_
      · simpa [Fresh] using hF.1
      · obtain ⟨h1, h2⟩ := hb
        simp at h1
        exact ⟨by omega, by simp; omega⟩
  · exact bel_setSeg (bel_setCell (bel_trans B2 hb2) _ _ (Nat.le_refl _)) _ _ _ (by omega)
set_option maxRecDepth 100000 in
set_option maxHeartbeats 1000000 in
theorem fork_own {S : Nat → Prop} (w : World) (row : Array Value) (x : Acc) (hx : AccIn S w row x) (hs : smallAcc x) :
    Calls Try.prog 67 #[.agg row] w (Owned w x) := by
  obtain ⟨c, s, rfl, hc, hst⟩ := hx
  obtain ⟨adr, nonce, bal, code, l⟩ := x
  simp only at hc hst ⊢
  go_enter Try.func67, Try.ntmps67
  go_wp2_with fail
  refine (clone_bytes (S := S) _ c code.length (ints .u8 (bI code)) (hc.below (bel_alloc (bel_alloc (Below.refl _ _) _) _)) (by simp) (ints_one _ _) hs.1).mono ?_
  rintro e w1 ⟨v1, rfl, hv1, hb1⟩
  obtain ⟨p1, k1, rfl⟩ := hv1.form
  have hz1 := hb1.size
  simp only [World.size_alloc] at hz1 hb1
  have hr0 : rowOf w1 w.heap.size = accRow adr nonce bal c s := by rw [bel_row hb1 _ (by omega), rowOf_alloc_past _ _ _ (by simp), rowOf_alloc_at _ _ _ _ rfl]
  have hf0 : rowFr w1 w.heap.size = (0, 0) := by rw [bel_rowFr hb1 _ (by omega), rowFr_alloc_past _ _ _ (by simp), rowFr_alloc_at _ _ _ _ rfl]
  have hc25 : w1.cell? ⟨w.heap.size, 25, none⟩ = some c := by rw [cell_row, hr0, accRow_code]
  have hc26 : w1.cell? ⟨w.heap.size, 26, none⟩ = some s := by rw [cell_row, hr0, accRow_stor]
  have hz25 : w1.frozen? ⟨w.heap.size, 25, none⟩ = false := frozen_row _ _ _ hf0
  have B1 : Below w.heap.size w w1 := bel_trans (bel_alloc (bel_alloc (Below.refl _ _) _) _) (by simpa using hb1)
  have B2 : Below w.heap.size w (w1.setCell ⟨w.heap.size, 25, none⟩ (.slice p1 code.length k1)) := bel_setCell B1 _ _ (Nat.le_refl _)
  have Hr0 := Lib.hid hr0; clear hr0
  have Hf0 := Lib.hid hf0; clear hf0
  go_wp2_with fail
  refine (clone_slots (S := S) _ s l.length (sltRow l) (hst.below B2) (sltRow_size l) (sltRow_one l) hs.2).mono ?_
  rintro e w2 ⟨v2, rfl, hv2, hb2⟩
  obtain ⟨p2, k2, rfl⟩ := hv2.form
  have hz2 := hb2.size
  simp only [World.size_setCell] at hz2
  have hr1 : rowOf w2 w.heap.size = accRow adr nonce bal (.slice p1 code.length k1) s := by
    rw [bel_row hb2 _ (by simp; omega), rowOf_setCell_same, Hr0.out, accRow_setCode]
  have hf1 : rowFr w2 w.heap.size = (0, 0) := by rw [bel_rowFr hb2 _ (by simp; omega), rowFr_setCell, Hf0.out]
  have hd26 : w2.cell? ⟨w.heap.size, 26, none⟩ = some s := by rw [cell_row, hr1, accRow_stor]
  have hz26 : w2.frozen? ⟨w.heap.size, 26, none⟩ = false := frozen_row _ _ _ hf1
  have hr2 : rowOf w2 (w.heap.size + 1) = accRow zeroAdr 0 zeroWrd (.slice none 0 0) (.slice none 0 0) := by
    rw [bel_row hb2 _ (by simp; omega), rowOf_setCell_other _ _ _ _ (by simp), bel_row hb1 _ (by omega), rowOf_alloc_at _ _ _ _ (by simp)]
  have hi2 : isRow w2 (w.heap.size + 1) = true := by
    rw [bel_isRow hb2 _ (by simp; omega), isRow_setCell, bel_isRow hb1 _ (by omega), isRow_alloc_at _ _ _ _ (by simp)]
  have hf2 : rowFr w2 (w.heap.size + 1) = (0, 0) := by
    rw [bel_rowFr hb2 _ (by simp; omega), rowFr_setCell, bel_rowFr hb1 _ (by omega), rowFr_alloc_at _ _ _ _ (by simp)]
  have hne : w.heap.size + 1 ≠ w.heap.size := by omega
  have hne' : w.heap.size ≠ w.heap.size + 1 := by omega
  clear hc25 hc26 hz25
  go_wp2
  refine bodyPost_ret (v := .agg (accRow adr nonce bal (.slice p1 code.length k1) (.slice p2 l.length k2))) (by simp [results, Try.results67, go_sem, hr2]) rfl ⟨_, rfl, ?_, ?_⟩
  · have e1 : ∀ b, w.heap.size + 1 + 1 ≤ b → b < w1.heap.size → (World.setSeg (w2.setCell ⟨w.heap.size, 26, none⟩ (.slice p2 l.length k2)) (w.heap.size + 1) 0 (accRow adr nonce bal (.slice p1 code.length k1) (.slice p2 l.length k2)).toList).heap[b]? = w1.heap[b]? := fun b h1 h2 => by
      rw [setSeg_block_ne _ _ _ _ _ (by omega), Below.heap_setCell _ _ _ _ (by simp only; omega), hb2.block b (by simp; exact h2), Below.heap_setCell _ _ _ _ (by simp only; omega)]
    have e2 : ∀ b, w1.heap.size ≤ b → b < w2.heap.size → (World.setSeg (w2.setCell ⟨w.heap.size, 26, none⟩ (.slice p2 l.length k2)) (w.heap.size + 1) 0 (accRow adr nonce bal (.slice p1 code.length k1) (.slice p2 l.length k2)).toList).heap[b]? = w2.heap[b]? := fun b h1 h2 => by
      rw [setSeg_block_ne _ _ _ _ _ (by omega), Below.heap_setCell _ _ _ _ (by simp only; omega)]
    refine ⟨_, _, rfl, ?_, ?_⟩
    · refine (hv1.same fun b hb hF => e1 b ?_ hb).mono fun b hb => ?_
      · simpa [Fresh] using hF.1
      · obtain ⟨h1, h2⟩ := hb
        simp at h1
        exact ⟨by omega, by simp; omega⟩
    · refine (hv2.same fun b hb hF => e2 b ?_ hb).mono fun b hb => ?_
      · simpa [Fresh] using hF.1
      · obtain ⟨h1, h2⟩ := hb
        simp at h1
        exact ⟨by omega, by simp; omega⟩
  · exact bel_setSeg (bel_setCell (bel_trans B2 hb2) _ _ (Nat.le_refl _)) _ _ _ (by omega)
end Go.Proofs.Ytadafohgglnneaa
