/- Slices that a call owns: what appending makes of them, in this seat's words. No condition. -/
import Derived.Test.YtadafohgglnneaaMem
import Derived.Lib.SliceRun
import Derived.Laws.BytesArg
namespace Go.Proofs.Ytadafohgglnneaa
open Go.RowKit
/-- The blocks laid between two worlds. -/
def Fresh (w w' : World) (b : Nat) : Prop := w.heap.size ≤ b ∧ b < w'.heap.size
theorem ownsRow_seg {w : World} {base : Nat} {e : TypeId} {size : Nat} {v : Value} {n : Nat} {xs : List Value} (h : w.ownsRow base e size v n xs) : SlIn (fun b => base ≤ b ∧ b < w.heap.size) w v n xs.toArray := by
  obtain ⟨hl, h2⟩ := h
  rcases h2 with ⟨rfl, rfl⟩ | ⟨g, cap, cur, rfl, hb, hg, hn, hm, hs, ht⟩
  · exact .inl ⟨rfl, rfl, by simp at hl; simp [hl]⟩
  · refine .inr ⟨_, _, rfl, hn, hm, ?_⟩
    have hr : rowOf w g = cur := by simp [rowOf, hg]
    have hle : n * size ≤ cur.size := by rw [hs]; exact Nat.mul_le_mul_right _ hn
    refine .inr ⟨rfl, ⟨hb, (Array.getElem?_eq_some_iff.1 hg).1⟩, ?_, ?_⟩
    · rw [hr]; simp [hl]; exact hle
    · rw [hr]
      simp only [Nat.zero_add, List.size_toArray]
      apply Array.ext'
      rw [Array.toList_extract, ← ht]
      simp [List.extract]
/-- Below the base nothing has turned. -/
theorem bel_grown {W w w' : World} {row : Option Nat} (h : Below W.heap.size W w) (hg : w.grownBy w' row) (hr : ∀ k, row = some k → W.heap.size ≤ k) : Below W.heap.size W w' := h.grown hg h.size hr
/-- Cells that lie somewhere are there one by one. -/
theorem segIn_cells {S : Nat → Prop} {w : World} {a : Addr} {cs : Array Value} (h : SegIn S w a cs) : ∀ j u, cs.toList[j]? = some u → w.cell? (a.add j) = some u := by
  intro j u hu
  have hj : j < cs.size := by have := (List.getElem?_eq_some_iff.1 hu).1; simpa using this
  rcases h with h | ⟨h1, h2, h3, h4⟩
  · omega
  · obtain ⟨b, o, s⟩ := a
    simp only at h1 h2 h3 h4
    subst h1
    rw [Addr.add_lit, cell_row, seg_get h3 h4 hj]
    simpa using hu
theorem ones_list {vs : Array Value} (h : ones vs = true) : ∀ u ∈ vs.toList, u.oneCell' = true := fun u hu => ones_mem h u (by simpa using hu)
theorem strOfNums_bI (l : List UInt8) : strOfNums (bI l) = ⟨l.toArray⟩ := by
  unfold strOfNums bI
  congr 1
  simp only [List.map_map]
  congr 1
  rw [List.map_congr_left (g := id) (fun b _ => by simp)]
  simp
/-- 'string(b)'. -/
theorem run_conv {P : Program} {S : Nat → Prop} (w : World) (src e dst : TypeId) (hs : P.underlying src = some (.slice e)) (he : P.underlying e = some (.int .u8)) (hd : P.underlying dst = some .string) (v : Value) (l : List UInt8) (h : SlIn S w v l.length (ints .u8 (bI l))) :
    (convert src dst v).run P w = .ok (.string ⟨l.toArray⟩) w := by
  rcases h with ⟨rfl, h1, h2⟩ | ⟨a, c, rfl, h1, h2, h3⟩
  · have : l = [] := List.eq_nil_of_length_eq_zero h1
    subst this
    exact run_convert_bytes_nil w src e hs he 0 0 dst hd
  · rw [run_convert_bytes_string w src dst e _ _ _ hs he hd, run_bytesToString w a l.length c (bI l), foldl_push_bytes]
    · have : strOfNums (bI l) = ⟨l.toArray⟩ := strOfNums_bI l
      rw [← this]
      simp [strOfNums, ByteArray.empty, ByteArray.emptyWithCapacity]
      rfl
    · have hl := run_loadCells_list (P := P) w a (ints .u8 (bI l)).toList (segIn_cells h3)
      rw [Array.toArray_toList, Array.length_toList, ints_size, bI_length] at hl
      exact hl
theorem str_eq (l m : List UInt8) : ((⟨l.toArray⟩ : ByteArray) == ⟨m.toArray⟩) = decide (l = m) := by
  show (l.toArray == m.toArray) = decide (l = m)
  rw [Bool.eq_iff_iff]; simp
end Go.Proofs.Ytadafohgglnneaa
