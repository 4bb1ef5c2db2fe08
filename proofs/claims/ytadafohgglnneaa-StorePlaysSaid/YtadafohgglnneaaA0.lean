/- Lists of one's own may be written: the copies' contracts, with that. No condition. -/
import Derived.Test.YtadafohgglnneaaX7
namespace Go.Proofs.Ytadafohgglnneaa
open Go.RowKit
/-- A row of cells that may be written. -/
def openB (w : World) (b : Nat) : Bool := isRow w b && decide (rowFr w b = (0, 0))
theorem openB_same {w w' : World} {b : Nat} (h : w'.heap[b]? = w.heap[b]?) : openB w' b = openB w b := by
  have h1 : isRow w' b = isRow w b := by simp only [isRow, h]
  have h2 : rowFr w' b = rowFr w b := by simp only [rowFr, h]
  simp only [openB, h1, h2]
theorem openB_of {w : World} {b : Nat} {c : Array Value} {t : TypeId} (h : w.heap[b]? = some (.cells c t (0, 0))) : openB w b = true := by simp [openB, isRow, rowFr, h]
/-- New, and may be written. -/
def FreshO (w w' : World) (b : Nat) : Prop := w.heap.size ≤ b ∧ b < w'.heap.size ∧ openB w' b = true
theorem ownsRow_segO {w : World} {base : Nat} {e : TypeId} {size : Nat} {v : Value} {n : Nat} {xs : List Value} (h : w.ownsRow base e size v n xs) : SlIn (fun b => base ≤ b ∧ b < w.heap.size ∧ openB w b = true) w v n xs.toArray := by
  obtain ⟨hl, h2⟩ := h
  rcases h2 with ⟨rfl, rfl⟩ | ⟨g, cap, cur, rfl, hb, hg, hn, hm, hs, ht⟩
  · exact .inl ⟨rfl, rfl, by simp at hl; simp [hl]⟩
  · have h3 := ownsRow_seg (w := w) (base := base) (e := e) (size := size) (v := .slice (some ⟨g, 0, none⟩) n cap) (n := n) (xs := xs) ⟨hl, .inr ⟨g, cap, cur, rfl, hb, hg, hn, hm, hs, ht⟩⟩
    rcases h3 with h4 | ⟨a, c, e1, e2, e3, e4⟩
    · exact .inl h4
    · refine .inr ⟨a, c, e1, e2, e3, ?_⟩
      cases e1
      rcases e4 with e4 | ⟨e4, e5, e6, e7⟩
      · exact .inl e4
      · exact .inr ⟨e4, ⟨e5.1, e5.2, openB_of hg⟩, e6, e7⟩
def ClonedO (w : World) (n : Nat) (cs : Array Value) (e : Ending) (w' : World) : Prop := ∃ v, e = .returned v ∧ SlIn (FreshO w w') w' v n cs ∧ Below w.heap.size w w'
set_option maxRecDepth 100000 in
set_option maxHeartbeats 1000000 in
theorem clone_bytesO {S : Nat → Prop} (w : World) (v : Value) (n : Nat) (cs : Array Value) (hv : SlIn S w v n cs) (hc : cs.size = n * 1) (h1 : ones cs = true) (hn : n ≤ 1048576) :
    Calls Try.prog 77 #[v] w (ClonedO w n cs) := by
  rcases hv with ⟨rfl, rfl, hz⟩ | ⟨a, c, rfl, hnc, hcm, hseg⟩
  · have heq := fun w => Lib.run_eql_slice_nil (P := Try.prog) w 27 5 none 0 0 0 0 Try.underlying27
    go_enter Try.func77, Try.ntmps77
    go_wp2
    go_ret
    exact ⟨_, rfl, SlIn.nil _ _ _ hz, Below.refl _ _⟩
  · have heq := fun w => Lib.run_eql_slice_nil (P := Try.prog) w 27 5 (some a) n c 0 0 Try.underlying27
    obtain ⟨i0, hi, hz0, hz1, hz2⟩ := info_parts (show (Try.prog.info? 5).map (fun i => (i.zero, i.size, i.bytes)) = some (some (.int .u8 0), 1, 1) by kernel_rfl)
    have hcells := segIn_cells hseg
    have Hc := Lib.hid hcells; clear hcells
    have Hseg := Lib.hid hseg; clear hseg
    have Hsz := Lib.hid hc; clear hc
    have H1 := Lib.hid h1; clear h1
    go_enter Try.func77, Try.ntmps77
    have hl1 : cs.toList.length = n * 1 := by simpa using Hsz.out
    have Hl1 := Lib.hid hl1; clear hl1
    go_wp2_with (at_builtin; refine wpList_append_own _ rfl _ _ 27 rfl w.heap.size 5 i0 (.int .u8 0) 1 1 Try.underlying27 hi hz0 hz1 hz2 rfl (by decide) _ 0 [] rfl (World.ownsRow_made _ _ _ (Nat.le_refl _) (Nat.zero_le _) rfl) a n c cs.toList rfl Hl1.out (fun j u hu => Lib.cell?_alloc_some _ (Hc.out j u hu)) (ones_list H1.out) (by unfold maxLen; omega) (by omega) (by simp) ?_; intro v' w' hown hgrow _)
    go_ret
    refine ⟨v', rfl, ?_, bel_grown (bel_alloc (Below.refl _ _) _) hgrow (fun k hk => by simp [Act.eval, Value.ownBlock] at hk; omega)⟩
    have := ownsRow_segO hown
    rw [Nat.zero_add, List.nil_append, Array.toArray_toList] at this
    exact this
set_option maxRecDepth 100000 in
set_option maxHeartbeats 1000000 in
theorem clone_slotsO {S : Nat → Prop} (w : World) (v : Value) (n : Nat) (cs : Array Value) (hv : SlIn S w v n cs) (hc : cs.size = n * 8) (h1 : ones cs = true) (hn : n ≤ 1048576) :
    Calls Try.prog 78 #[v] w (ClonedO w n cs) := by
  rcases hv with ⟨rfl, rfl, hz⟩ | ⟨a, c, rfl, hnc, hcm, hseg⟩
  · have heq := fun w => Lib.run_eql_slice_nil (P := Try.prog) w 28 116 none 0 0 0 0 Try.underlying28
    go_enter Try.func78, Try.ntmps78
    go_wp2
    go_ret
    exact ⟨_, rfl, SlIn.nil _ _ _ hz, Below.refl _ _⟩
  · have heq := fun w => Lib.run_eql_slice_nil (P := Try.prog) w 28 116 (some a) n c 0 0 Try.underlying28
    obtain ⟨i0, hi, hz0, hz1, hz2⟩ := info_parts (show (Try.prog.info? 116).map (fun i => (i.zero, i.size, i.bytes)) = some (some (.agg (Slt.cells ⟨zeroWrd, zeroWrd⟩)), 8, 64) by kernel_rfl)
    have hcells := segIn_cells hseg
    have Hc := Lib.hid hcells; clear hcells
    have Hseg := Lib.hid hseg; clear hseg
    have Hsz := Lib.hid hc; clear hc
    have H1 := Lib.hid h1; clear h1
    go_enter Try.func78, Try.ntmps78
    have hl1 : cs.toList.length = n * 8 := by simpa using Hsz.out
    have Hl1 := Lib.hid hl1; clear hl1
    go_wp2_with (at_builtin; refine wpList_append_own _ rfl _ _ 28 rfl w.heap.size 116 i0 (.agg (Slt.cells ⟨zeroWrd, zeroWrd⟩)) 8 64 Try.underlying28 hi hz0 hz1 hz2 rfl (by decide) _ 0 [] rfl (World.ownsRow_made _ _ _ (Nat.le_refl _) (Nat.zero_le _) rfl) a n c cs.toList rfl Hl1.out (fun j u hu => Lib.cell?_alloc_some _ (Hc.out j u hu)) (ones_list H1.out) (by unfold maxLen; omega) (by omega) (by simp) ?_; intro v' w' hown hgrow _)
    go_ret
    refine ⟨v', rfl, ?_, bel_grown (bel_alloc (Below.refl _ _) _) hgrow (fun k hk => by simp [Act.eval, Value.ownBlock] at hk; omega)⟩
    have := ownsRow_segO hown
    rw [Nat.zero_add, List.nil_append, Array.toArray_toList] at this
    exact this
def OwnedO (w : World) (x : Acc) (e : Ending) (w' : World) : Prop := ∃ row, e = .returned (.agg row) ∧ AccIn (FreshO w w') w' row x ∧ Below w.heap.size w w'
set_option maxRecDepth 100000 in
set_option maxHeartbeats 1000000 in
theorem store_ownO {S : Nat → Prop} (w : World) (row : Array Value) (x : Acc) (hx : AccIn S w row x) (hs : smallAcc x) :
    Calls Try.prog 71 #[.agg row] w (OwnedO w x) := by
  obtain ⟨c, s, rfl, hc, hst⟩ := hx
  obtain ⟨adr, nonce, bal, code, l⟩ := x
  simp only at hc hst ⊢
  go_enter Try.func71, Try.ntmps71
  go_wp2_with fail
  refine (clone_bytesO (S := S) _ c code.length (ints .u8 (bI code)) (hc.below (bel_alloc (bel_alloc (Below.refl _ _) _) _)) (by simp) (ints_one _ _) hs.1).mono ?_
  rintro e w1 ⟨v1, rfl, hv1, hb1⟩
  obtain ⟨p1, k1, rfl⟩ := hv1.form
  have hz1 := hb1.size
  simp only [World.size_alloc] at hz1 hb1
  have hr0 : rowOf w1 w.heap.size = accRow adr nonce bal c s := by rw [bel_row hb1 _ (by omega), rowOf_alloc_past _ _ _ (by simp), rowOf_alloc_at _ _ _ _ rfl]
  have hf0 : rowFr w1 w.heap.size = (0, 0) := by rw [bel_rowFr hb1 _ (by omega), rowFr_alloc_past _ _ _ (by simp), rowFr_alloc_at _ _ _ _ rfl]
  have hc25 : w1.cell? ⟨w.heap.size, 25, none⟩ = some c := by rw [cell_row, hr0, accRow_code]
  have hc26 : w1.cell? ⟨w.heap.size, 26, none⟩ = some s := by rw [cell_row, hr0, accRow_stor]
  have hz25 : w1.frozen? ⟨w.heap.size, 25, none⟩ = false := frozen_row _ _ _ hf0
  have B1 : Below w.heap.size w w1 := bel_trans (bel_alloc (bel_alloc (Below.refl _ _) _) _) (by simpa using hb1)
  have B2 : Below w.heap.size w (w1.setCell ⟨w.heap.size, 25, none⟩ (.slice p1 code.length k1)) := bel_setCell B1 _ _ (Nat.le_refl _)
  have Hr0 := Lib.hid hr0; clear hr0
  have Hf0 := Lib.hid hf0; clear hf0
  go_wp2_with fail
  refine (clone_slotsO (S := S) _ s l.length (sltRow l) (hst.below B2) (sltRow_size l) (sltRow_one l) hs.2).mono ?_
  rintro e w2 ⟨v2, rfl, hv2, hb2⟩
  obtain ⟨p2, k2, rfl⟩ := hv2.form
  have hz2 := hb2.size
  simp only [World.size_setCell] at hz2
  have hr1 : rowOf w2 w.heap.size = accRow adr nonce bal (.slice p1 code.length k1) s := by
    rw [bel_row hb2 _ (by simp; omega), rowOf_setCell_same, Hr0.out, accRow_setCode]
  have hf1 : rowFr w2 w.heap.size = (0, 0) := by rw [bel_rowFr hb2 _ (by simp; omega), rowFr_setCell, Hf0.out]
  have hd26 : w2.cell? ⟨w.heap.size, 26, none⟩ = some s := by rw [cell_row, hr1, accRow_stor]
  have hz26 : w2.frozen? ⟨w.heap.size, 26, none⟩ = false := frozen_row _ _ _ hf1
  have hr2 : rowOf w2 (w.heap.size + 1) = accRow zeroAdr 0 zeroWrd (.slice none 0 0) (.slice none 0 0) := by
    rw [bel_row hb2 _ (by simp; omega), rowOf_setCell_other _ _ _ _ (by simp), bel_row hb1 _ (by omega), rowOf_alloc_at _ _ _ _ (by simp)]
  have hi2 : isRow w2 (w.heap.size + 1) = true := by
    rw [bel_isRow hb2 _ (by simp; omega), isRow_setCell, bel_isRow hb1 _ (by omega), isRow_alloc_at _ _ _ _ (by simp)]
  have hf2 : rowFr w2 (w.heap.size + 1) = (0, 0) := by
    rw [bel_rowFr hb2 _ (by simp; omega), rowFr_setCell, bel_rowFr hb1 _ (by omega), rowFr_alloc_at _ _ _ _ (by simp)]
  have hne : w.heap.size + 1 ≠ w.heap.size := by omega
  have hne' : w.heap.size ≠ w.heap.size + 1 := by omega
  clear hc25 hc26 hz25
  go_wp2
  refine bodyPost_ret (v := .agg (accRow adr nonce bal (.slice p1 code.length k1) (.slice p2 l.length k2))) (by simp [results, Try.results71, go_sem, hr2]) rfl ⟨_, rfl, ?_, ?_⟩
  · have e1 : ∀ b, w.heap.size + 1 + 1 ≤ b → b < w1.heap.size → (World.setSeg (w2.setCell ⟨w.heap.size, 26, none⟩ (.slice p2 l.length k2)) (w.heap.size + 1) 0 (accRow adr nonce bal (.slice p1 code.length k1) (.slice p2 l.length k2)).toList).heap[b]? = w1.heap[b]? := fun b h1 h2 => by
      rw [setSeg_block_ne _ _ _ _ _ (by omega), Below.heap_setCell _ _ _ _ (by simp only; omega), hb2.block b (by simp; exact h2), Below.heap_setCell _ _ _ _ (by simp only; omega)]
    have e2 : ∀ b, w1.heap.size ≤ b → b < w2.heap.size → (World.setSeg (w2.setCell ⟨w.heap.size, 26, none⟩ (.slice p2 l.length k2)) (w.heap.size + 1) 0 (accRow adr nonce bal (.slice p1 code.length k1) (.slice p2 l.length k2)).toList).heap[b]? = w2.heap[b]? := fun b h1 h2 => by
      rw [setSeg_block_ne _ _ _ _ _ (by omega), Below.heap_setCell _ _ _ _ (by simp only; omega)]
    refine ⟨_, _, rfl, ?_, ?_⟩
    · refine (hv1.same fun b hb hF => e1 b ?_ hb).mono fun b hb => ?_
      · simpa using hF.1
      · obtain ⟨h1, h2, h3⟩ := hb
        simp at h1
        exact ⟨by omega, by simp; omega, by rw [openB_same (e1 b (by omega) h2)]; exact h3⟩
    · refine (hv2.same fun b hb hF => e2 b ?_ hb).mono fun b hb => ?_
      · simpa using hF.1
      · obtain ⟨h1, h2, h3⟩ := hb
        simp at h1
        exact ⟨by omega, by simp; omega, by rw [openB_same (e2 b (by omega) h2)]; exact h3⟩
  · exact bel_setSeg (bel_setCell (bel_trans B2 hb2) _ _ (Nat.le_refl _)) _ _ _ (by omega)
end Go.Proofs.Ytadafohgglnneaa
