/- The laws of memory rows that this seat's walks use: words, addresses, accounts as opaque rows of cells; whole-row loads and stores; equality of arrays of integers. No condition. -/
import Derived.WalkKit
import Derived.WalkSpells
import Derived.WalkLawsBesides
import Derived.Deep.QuietTactic
import Derived.BigQuiet
import Derived.Lib.Hide
import Derived.Lib.QuietBelow
import Derived.Lib.SliceRun
import Derived.Laws.BytesArg
import Derived.Carry
import Derived.WideKeyRuns
import Derived.MapKept
import Derived.ArgAppend
import Derived.Deep.RegionLaw
namespace Go.Proofs.Ytadafohgglnneaa
open Go.RowKit

/-! ### small numbers (so that no side goal of the walk wants a side goal) -/
@[go_sem] theorem n_lt1 (n : Nat) : (n < n + 1) = True := eq_true (by omega)
@[go_sem] theorem n_le1 (n : Nat) : (n ≤ n + 1) = True := eq_true (by omega)
@[go_sem] theorem n_lt2 (n : Nat) : (n < n + 1 + 1) = True := eq_true (by omega)
@[go_sem] theorem n_le2 (n : Nat) : (n ≤ n + 1 + 1) = True := eq_true (by omega)
@[go_sem] theorem n_lt3 (n : Nat) : (n < n + 1 + 1 + 1) = True := eq_true (by omega)
@[go_sem] theorem n_le3 (n : Nat) : (n ≤ n + 1 + 1 + 1) = True := eq_true (by omega)
@[go_sem] theorem n_lt4 (n : Nat) : (n < n + 1 + 1 + 1 + 1) = True := eq_true (by omega)
@[go_sem] theorem n_le4 (n : Nat) : (n ≤ n + 1 + 1 + 1 + 1) = True := eq_true (by omega)
@[go_sem] theorem n_lt5 (n : Nat) : (n < n + 1 + 1 + 1 + 1 + 1) = True := eq_true (by omega)
@[go_sem] theorem n_le5 (n : Nat) : (n ≤ n + 1 + 1 + 1 + 1 + 1) = True := eq_true (by omega)
@[go_sem] theorem n_lt6 (n : Nat) : (n < n + 1 + 1 + 1 + 1 + 1 + 1) = True := eq_true (by omega)
@[go_sem] theorem n_le6 (n : Nat) : (n ≤ n + 1 + 1 + 1 + 1 + 1 + 1) = True := eq_true (by omega)
@[go_sem] theorem n_lt7 (n : Nat) : (n < n + 1 + 1 + 1 + 1 + 1 + 1 + 1) = True := eq_true (by omega)
@[go_sem] theorem n_le7 (n : Nat) : (n ≤ n + 1 + 1 + 1 + 1 + 1 + 1 + 1) = True := eq_true (by omega)
@[go_sem] theorem n_lt8 (n : Nat) : (n < n + 1 + 1 + 1 + 1 + 1 + 1 + 1 + 1) = True := eq_true (by omega)
@[go_sem] theorem n_le8 (n : Nat) : (n ≤ n + 1 + 1 + 1 + 1 + 1 + 1 + 1 + 1) = True := eq_true (by omega)
@[go_sem] theorem n_lt9 (n : Nat) : (n < n + 1 + 1 + 1 + 1 + 1 + 1 + 1 + 1 + 1) = True := eq_true (by omega)
@[go_sem] theorem n_le9 (n : Nat) : (n ≤ n + 1 + 1 + 1 + 1 + 1 + 1 + 1 + 1 + 1) = True := eq_true (by omega)
@[go_sem] theorem n_lt10 (n : Nat) : (n < n + 1 + 1 + 1 + 1 + 1 + 1 + 1 + 1 + 1 + 1) = True := eq_true (by omega)
@[go_sem] theorem n_le10 (n : Nat) : (n ≤ n + 1 + 1 + 1 + 1 + 1 + 1 + 1 + 1 + 1 + 1) = True := eq_true (by omega)
@[go_sem] theorem n_lt11 (n : Nat) : (n < n + 1 + 1 + 1 + 1 + 1 + 1 + 1 + 1 + 1 + 1 + 1) = True := eq_true (by omega)
@[go_sem] theorem n_le11 (n : Nat) : (n ≤ n + 1 + 1 + 1 + 1 + 1 + 1 + 1 + 1 + 1 + 1 + 1) = True := eq_true (by omega)
@[go_sem] theorem n_lt12 (n : Nat) : (n < n + 1 + 1 + 1 + 1 + 1 + 1 + 1 + 1 + 1 + 1 + 1 + 1) = True := eq_true (by omega)
@[go_sem] theorem n_le12 (n : Nat) : (n ≤ n + 1 + 1 + 1 + 1 + 1 + 1 + 1 + 1 + 1 + 1 + 1 + 1) = True := eq_true (by omega)
/-! ### rows -/
/-- The cells of a block. -/
def rowOf (w : World) (b : Nat) : Array Value := match w.heap[b]? with | some (.cells c _ _) => c | _ => #[]
def isRow (w : World) (b : Nat) : Bool := match w.heap[b]? with | some (.cells _ _ _) => true | _ => false
def rowFr (w : World) (b : Nat) : Nat × Nat := match w.heap[b]? with | some (.cells _ _ f) => f | _ => (0, 0)

theorem cell_row (w : World) (b o : Nat) : w.cell? ⟨b, o, none⟩ = (rowOf w b)[o]? := by
  unfold World.cell? rowOf
  cases h : w.heap[b]? with
  | none => simp
  | some x => cases x <;> simp

@[go_sem] theorem rowOf_alloc_at (w : World) (c : Array Value) (t : TypeId) (n : Nat) (hn : n = w.heap.size) : rowOf (w.alloc (.cells c t)) n = c := by
  subst hn; simp only [rowOf, heap_alloc_new]
@[go_sem] theorem rowOf_alloc_past (w : World) (x : Obj) (n : Nat) (hn : n < w.heap.size) : rowOf (w.alloc x) n = rowOf w n := by
  simp only [rowOf, heap_alloc_old w x hn]
@[go_sem] theorem rowOf_drew (w : World) (n : Nat) : rowOf w.drew n = rowOf w n := rfl
@[go_sem] theorem rowOf_drewN (w : World) (k n : Nat) : rowOf (w.drewN k) n = rowOf w n := rfl
@[go_sem] theorem isRow_alloc_at (w : World) (c : Array Value) (t : TypeId) (n : Nat) (hn : n = w.heap.size) : isRow (w.alloc (.cells c t)) n = true := by
  subst hn; simp only [isRow, heap_alloc_new]
@[go_sem] theorem isRow_alloc_past (w : World) (x : Obj) (n : Nat) (hn : n < w.heap.size) : isRow (w.alloc x) n = isRow w n := by
  simp only [isRow, heap_alloc_old w x hn]
@[go_sem] theorem isRow_drew (w : World) (n : Nat) : isRow w.drew n = isRow w n := rfl
@[go_sem] theorem isRow_drewN (w : World) (k n : Nat) : isRow (w.drewN k) n = isRow w n := rfl
theorem isRow_lt {w : World} {b : Nat} (h : isRow w b = true) : b < w.heap.size := by
  rcases Nat.lt_or_ge b w.heap.size with h' | h'
  · exact h'
  · simp [isRow, Array.getElem?_eq_none h'] at h
theorem rowOf_lt {w : World} {b : Nat} (h : 0 < (rowOf w b).size) : b < w.heap.size := by
  rcases Nat.lt_or_ge b w.heap.size with h' | h'
  · exact h'
  · simp [rowOf, Array.getElem?_eq_none h'] at h

/-! ### a whole row (or a part of one) loaded -/
def loadRow (a : Addr) (n : Nat) : Sem (Array Value) := loadCells a n
@[go_sem ↓] theorem loadCells_row (a : Addr) (n : Nat) : loadCells a n = loadRow a n := rfl
section
variable {P : Program} (w : World)
@[go_sem] theorem run_loadRow (b o n : Nat) (h : o + n ≤ (rowOf w b).size) : (loadRow ⟨b, o, none⟩ n).run P w = .ok ((rowOf w b).extract o (o + n)) w := by
  have hl := run_loadCells_list (P := P) w ⟨b, o, none⟩ ((rowOf w b).extract o (o + n)).toList (fun j v hv => by
    have hadd : (⟨b, o, none⟩ : Addr).add j = ⟨b, o + j, none⟩ := Addr.add_lit b o j
    rw [hadd, cell_row]
    have hj : j < ((rowOf w b).extract o (o + n)).size := by
      have := (List.getElem?_eq_some_iff.1 hv).1
      rwa [Array.length_toList] at this
    rw [Array.getElem?_toList, Array.getElem?_extract] at hv
    rw [Array.size_extract] at hj
    rw [if_pos (by omega)] at hv
    exact hv)
  have hs : ((rowOf w b).extract o (o + n)).toList.length = n := by simp; omega
  rw [hs] at hl
  unfold loadRow
  rw [hl, Array.toArray_toList]
end

/-! ### a whole row (or a part of one) stored -/
/-- Cells written over a row from o on. -/
def putSeg (c : Array Value) (o : Nat) (vs : List Value) : Array Value := match vs with
  | [] => c
  | v :: rest => putSeg (c.setIfInBounds o v) (o + 1) rest
theorem putSeg_size (vs : List Value) : ∀ (c : Array Value) (o : Nat), (putSeg c o vs).size = c.size := by
  induction vs with
  | nil => intro c o; rfl
  | cons v vs ih => intro c o; simp [putSeg, ih]
theorem putSeg_get (vs : List Value) : ∀ (c : Array Value) (o i : Nat), o + vs.length ≤ c.size → (putSeg c o vs)[i]? = if o ≤ i ∧ i < o + vs.length then vs[i - o]? else c[i]? := by
  induction vs with
  | nil => intro c o i h; simp [putSeg]; intro h1 h2; omega
  | cons v vs ih =>
    intro c o i h
    simp only [List.length_cons] at h
    rw [putSeg, ih _ _ _ (by simp; omega)]
    by_cases h1 : o + 1 ≤ i ∧ i < o + 1 + vs.length
    · rw [if_pos h1, if_pos ⟨by omega, by simp only [List.length_cons]; omega⟩]
      have e : i - o = (i - (o + 1)) + 1 := by omega
      rw [e, List.getElem?_cons_succ]
    · rw [if_neg h1]
      by_cases h2 : i = o
      · subst h2
        rw [if_pos ⟨by omega, by simp only [List.length_cons]; omega⟩, Array.getElem?_setIfInBounds, if_pos rfl, if_pos (by omega), Nat.sub_self]; rfl
      · rw [if_neg (by simp only [List.length_cons]; omega), Array.getElem?_setIfInBounds, if_neg (by omega)]
@[go_sem] theorem putSeg_all (c d : Array Value) (h : d.size = c.size) : putSeg c 0 d.toList = d := by
  apply Array.ext_getElem?
  intro i
  rw [putSeg_get _ _ _ _ (by simp; omega)]
  by_cases hi : i < d.size
  · rw [if_pos ⟨by omega, by simp; omega⟩]; simp
  · rw [if_neg (by simp; omega), Array.getElem?_eq_none (by omega), Array.getElem?_eq_none (by omega)]

@[go_sem, simp] theorem putSeg_size' (c : Array Value) (o : Nat) (vs : List Value) : (putSeg c o vs).size = c.size := putSeg_size vs c o
theorem fold_list (k : Nat) : ∀ (xs : List Value) (j : Nat) (c : Array Value), (xs.zipIdx j).foldl (fun cs (x : Value × Nat) => cs.setIfInBounds (k + x.snd) x.fst) c = putSeg c (k + j) xs
  | [], _, _ => rfl
  | x :: xs, j, c => by
    simp only [List.zipIdx_cons, List.foldl_cons, putSeg]
    rw [fold_list k xs (j + 1)]; rfl
@[go_sem] theorem fold_put (c xs : Array Value) (n k : Nat) (h : xs.size = n) : Array.foldl (fun cs (x : Value × Nat) => cs.setIfInBounds (k + x.snd) x.fst) c xs.zipIdx 0 n = putSeg c k xs.toList := by
  have hn : n = xs.zipIdx.size := by simp [h]
  rw [hn, ← Array.foldl_toList, Array.toList_zipIdx]
  exact fold_list k xs.toList 0 c
@[go_sem] theorem fold_put0 (c xs : Array Value) (n : Nat) (h : xs.size = n) : Array.foldl (fun cs (x : Value × Nat) => cs.setIfInBounds x.snd x.fst) c xs.zipIdx 0 n = putSeg c 0 xs.toList := by
  have := fold_put c xs n 0 h
  simpa using this
theorem putSeg_mid (p q r : Array Value) (vs : List Value) (o : Nat) (ho : p.size = o) (h : q.size = vs.length) : putSeg (p ++ (q ++ r)) o vs = p ++ (vs.toArray ++ r) := by
  subst ho
  apply Array.ext_getElem?
  intro i
  rw [putSeg_get _ _ _ _ (by simp only [Array.size_append]; omega)]
  by_cases h1 : i < p.size
  · rw [if_neg (by omega), Array.getElem?_append_left h1, Array.getElem?_append_left h1]
  · have h1' : p.size ≤ i := by omega
    rw [Array.getElem?_append_right h1', Array.getElem?_append_right h1']
    by_cases h2 : i - p.size < vs.length
    · rw [if_pos ⟨by omega, by omega⟩, Array.getElem?_append_left (by simpa using h2)]; simp
    · rw [if_neg (by omega), Array.getElem?_append_right (by omega), Array.getElem?_append_right (by simp only [List.size_toArray]; omega)]
      simp [h]
/-- One zero value laid: itself. -/
@[go_sem ↓] theorem range_map_self (z : Array Value) (n : Nat) (h : z.size = n) : (Array.range n).map (fun x => z[x % z.size]!) = z := by
  subst h
  apply Array.ext_getElem?
  intro i
  by_cases hi : i < z.size
  · simp [hi, Nat.mod_eq_of_lt hi]
  · simp [hi]
/-- Each of these is the value of one cell. -/
def ones (vs : Array Value) : Bool := vs.toList.all (·.oneCell')
theorem ones_of {vs : Array Value} (h : ∀ v ∈ vs, v.oneCell' = true) : ones vs = true := by
  simp only [ones, List.all_eq_true]; intro v hv; exact h v (by simpa using hv)
theorem ones_mem {vs : Array Value} (h : ones vs = true) : ∀ v ∈ vs, v.oneCell' = true := by
  simp only [ones, List.all_eq_true] at h; intro v hv; exact h v (by simpa using hv)
@[go_sem] theorem one_slice (p : Option Addr) (n c : Nat) : (Value.slice p n c).oneCell' = true := rfl
@[go_sem] theorem one_int (k : IntKind) (n : Int) : (Value.int k n).oneCell' = true := rfl
@[go_sem] theorem one_bool (b : Bool) : (Value.bool b).oneCell' = true := rfl
@[go_sem] theorem one_pointer (p : Option Addr) : (Value.pointer p).oneCell' = true := rfl
@[go_sem] theorem one_map (r : Option Nat) : (Value.map r).oneCell' = true := rfl
theorem ones_append (a b : Array Value) : ones (a ++ b) = (ones a && ones b) := by simp [ones]
/-- The world with cells written over block b from o on. -/
def World.setSeg (w : World) (b o : Nat) (vs : List Value) : World := { w with heap := w.heap.modify b fun | .cells c e f => .cells (putSeg c o vs) e f | x => x }
def storeRow (a : Addr) (vs : List Value) (i : Nat) : Sem Unit := storeCells a vs i
@[go_sem ↓] theorem storeCells_row (a : Addr) (vs : Array Value) (i : Nat) : storeCells a vs.toList i = storeRow a vs.toList i := rfl
theorem setSeg_nil (w : World) (b o : Nat) : World.setSeg w b o [] = w := by
  unfold World.setSeg
  have : w.heap.modify b (fun | .cells c e f => .cells (putSeg c o []) e f | x => x) = w.heap := by
    apply Array.ext_getElem?
    intro i
    rw [Array.getElem?_modify]
    by_cases h : b = i
    · subst h; rw [if_pos rfl]; cases w.heap[b]? with
      | none => rfl
      | some x => cases x <;> rfl
    · rw [if_neg h]
  rw [this]
theorem setSeg_cons (w : World) (b o : Nat) (v : Value) (vs : List Value) : World.setSeg (w.setCell ⟨b, o, none⟩ v) b (o + 1) vs = World.setSeg w b o (v :: vs) := by
  unfold World.setSeg World.setCell
  congr 1
  apply Array.ext_getElem?
  intro i
  simp only [Array.getElem?_modify]
  by_cases h : b = i
  · subst h; simp only [if_true]; cases w.heap[b]? with
    | none => rfl
    | some x => cases x <;> rfl
  · simp only [if_neg h]
theorem run_storeRow {P : Program} (b : Nat) (vs : List Value) : ∀ (w : World) (o i : Nat), isRow w b = true → rowFr w b = (0, 0) → o + i + vs.length ≤ (rowOf w b).size → (∀ v ∈ vs, v.oneCell' = true) →
    (storeCells ⟨b, o, none⟩ vs i).run P w = .ok () (World.setSeg w b (o + i) vs) := by
  induction vs with
  | nil => intro w o i _ _ _ _; simp [storeCells, setSeg_nil]
  | cons v vs ih =>
    intro w o i hr hf hs h1
    have hadd : (⟨b, o, none⟩ : Addr).add i = ⟨b, o + i, none⟩ := Addr.add_lit b o i
    have hb : ∃ c e, w.heap[b]? = some (.cells c e (0, 0)) := by
      unfold isRow at hr; unfold rowFr at hf
      cases hh : w.heap[b]? with
      | none => simp [hh] at hr
      | some x => cases x <;> simp [hh] at hr hf; subst hf; exact ⟨_, _, rfl⟩
    obtain ⟨c, e, hb⟩ := hb
    have hrow : rowOf w b = c := by simp [rowOf, hb]
    rw [hrow] at hs
    simp only [List.length_cons] at hs
    have hcell : ∃ u, w.cell? ⟨b, o + i, none⟩ = some u := by
      rw [cell_row, hrow]; exact ⟨_, Array.getElem?_eq_getElem (by omega)⟩
    obtain ⟨u, hcell⟩ := hcell
    have hfz : w.frozen? ⟨b, o + i, none⟩ = false := by simp [World.frozen?, hb]
    simp only [storeCells, hadd, Sem.run_bind, run_store P w _ v .plain (h1 v (by simp)), hcell, hfz, Bool.false_eq_true, if_false, Result.andThen_ok]
    have hb' : (w.setCell ⟨b, o + i, none⟩ v).heap[b]? = some (.cells (c.setIfInBounds (o + i) v) e (0, 0)) := by
      simp [World.setCell, Array.getElem?_modify, hb]
    rw [ih (w.setCell ⟨b, o + i, none⟩ v) o (i + 1) (by simp [isRow, hb']) (by simp [rowFr, hb']) (by simp [rowOf, hb']; omega) (fun x hx => h1 x (by simp [hx]))]
    rw [← Nat.add_assoc, setSeg_cons]
@[go_sem] theorem run_storeRow' {P : Program} (w : World) (b o : Nat) (vs : Array Value) (hr : isRow w b = true) (hf : rowFr w b = (0, 0)) (hs : o + vs.size ≤ (rowOf w b).size) (h1 : ones vs = true) :
    (storeRow ⟨b, o, none⟩ vs.toList 0).run P w = .ok () (World.setSeg w b o vs.toList) := by
  unfold storeRow
  rw [run_storeRow b vs.toList w o 0 hr hf (by simpa using hs) (fun v hv => ones_mem h1 v (by simpa using hv))]
  rfl
@[go_sem] theorem storeRow_one (a : Addr) (v : Value) : storeRow a [v] 0 = store a v := by
  simp [storeRow, storeCells, Addr.add]
@[go_sem] theorem rowFr_alloc_at (w : World) (c : Array Value) (t : TypeId) (n : Nat) (hn : n = w.heap.size) : rowFr (w.alloc (.cells c t)) n = (0, 0) := by
  subst hn; simp only [rowFr, heap_alloc_new]
@[go_sem] theorem rowFr_alloc_past (w : World) (x : Obj) (n : Nat) (hn : n < w.heap.size) : rowFr (w.alloc x) n = rowFr w n := by
  simp only [rowFr, heap_alloc_old w x hn]
@[go_sem] theorem rowFr_drew (w : World) (n : Nat) : rowFr w.drew n = rowFr w n := rfl
@[go_sem] theorem rowFr_drewN (w : World) (k n : Nat) : rowFr (w.drewN k) n = rowFr w n := rfl
theorem frozen_row (w : World) (b o : Nat) (h : rowFr w b = (0, 0)) : w.frozen? ⟨b, o, none⟩ = false := by
  unfold World.frozen? ; unfold rowFr at h
  cases hh : w.heap[b]? with
  | none => rfl
  | some x => cases x <;> simp [hh] at h ⊢; subst h; simp

@[go_sem] theorem setSeg_alloc_at (w : World) (c d : Array Value) (t : TypeId) (n : Nat) (hn : n = w.heap.size) (h : d.size = c.size) : World.setSeg (w.alloc (.cells c t)) n 0 d.toList = w.alloc (.cells d t) := by
  subst hn
  have e := putSeg_all c d h
  unfold World.setSeg World.alloc
  congr 1
  apply Array.ext_getElem?
  intro i
  rw [Array.getElem?_modify]
  by_cases hi : w.heap.size = i
  · subst hi; simp [e]
  · rw [if_neg hi]; simp [Array.getElem?_push, Ne.symm hi]
@[go_sem] theorem setSeg_alloc_past (w : World) (x : Obj) (n o : Nat) (vs : List Value) (hn : n < w.heap.size) : World.setSeg (w.alloc x) n o vs = (World.setSeg w n o vs).alloc x := by
  unfold World.setSeg World.alloc
  congr 1
  apply Array.ext_getElem?
  intro i
  simp only [Array.getElem?_modify, Array.getElem?_push, Array.size_modify]
  by_cases hi : i = w.heap.size
  · subst hi; rw [if_neg (by omega), if_pos rfl, if_pos rfl]
  · rw [if_neg hi, if_neg hi]
@[go_sem] theorem setSeg_drew (w : World) (n o : Nat) (vs : List Value) : World.setSeg w.drew n o vs = (World.setSeg w n o vs).drew := rfl
@[go_sem] theorem setSeg_drewN (w : World) (k n o : Nat) (vs : List Value) : World.setSeg (w.drewN k) n o vs = (World.setSeg w n o vs).drewN k := rfl
@[go_sem, simp] theorem setSeg_size (w : World) (n o : Nat) (vs : List Value) : (World.setSeg w n o vs).heap.size = w.heap.size := by simp [World.setSeg]

/-! ### one cell stored -/
@[go_sem] theorem rowOf_setCell_same (w : World) (b o : Nat) (v : Value) : rowOf (w.setCell ⟨b, o, none⟩ v) b = (rowOf w b).setIfInBounds o v := by
  simp only [rowOf, World.setCell, Array.getElem?_modify, if_true]
  cases h : w.heap[b]? with
  | none => simp
  | some x => cases x <;> simp
@[go_sem] theorem rowOf_setCell_other (w : World) (p : Addr) (b : Nat) (v : Value) (h : b ≠ p.block) : rowOf (w.setCell p v) b = rowOf w b := by
  simp only [rowOf, World.setCell, Array.getElem?_modify, if_neg (Ne.symm h)]
@[go_sem] theorem isRow_setCell (w : World) (p : Addr) (b : Nat) (v : Value) : isRow (w.setCell p v) b = isRow w b := by
  simp only [isRow, World.setCell, Array.getElem?_modify]
  by_cases h : p.block = b
  · rw [if_pos h]; cases w.heap[b]? with
    | none => rfl
    | some x => cases x <;> rfl
  · rw [if_neg h]
@[go_sem] theorem rowFr_setCell (w : World) (p : Addr) (b : Nat) (v : Value) : rowFr (w.setCell p v) b = rowFr w b := by
  simp only [rowFr, World.setCell, Array.getElem?_modify]
  by_cases h : p.block = b
  · rw [if_pos h]; cases w.heap[b]? with
    | none => rfl
    | some x => cases x <;> rfl
  · rw [if_neg h]
theorem setSeg_block_ne (w : World) (b o k : Nat) (vs : List Value) (h : k ≠ b) : (World.setSeg w b o vs).heap[k]? = w.heap[k]? := by
  simp only [World.setSeg, Array.getElem?_modify, if_neg (Ne.symm h)]
@[go_sem] theorem rowOf_setSeg_same (w : World) (b o : Nat) (vs : List Value) : rowOf (World.setSeg w b o vs) b = putSeg (rowOf w b) o vs := by
  simp only [rowOf, World.setSeg, Array.getElem?_modify, if_true]
  cases h : w.heap[b]? with
  | none => simp; induction vs generalizing o with
    | nil => rfl
    | cons v vs ih => rw [putSeg]; simpa using ih (o + 1)
  | some x => cases x <;> simp <;> (induction vs generalizing o with
    | nil => rfl
    | cons v vs ih => rw [putSeg]; simpa using ih (o + 1))
@[go_sem] theorem rowOf_setSeg_other (w : World) (b o k : Nat) (vs : List Value) (h : k ≠ b) : rowOf (World.setSeg w b o vs) k = rowOf w k := by
  simp only [rowOf, setSeg_block_ne w b o k vs h]

/-! ### worlds of the class of Derived/Lib/QuietBelow -/
@[go_sem] theorem rowOf_grown (w : World) (d : Nat) (os : Array Obj) (b : Nat) (hb : b < w.heap.size) : rowOf (Sort.grow (redrawn w d) os) b = rowOf w b := by
  simp only [rowOf, (below_regrown w d os).block b hb]
@[go_sem] theorem isRow_grown (w : World) (d : Nat) (os : Array Obj) (b : Nat) (hb : b < w.heap.size) : isRow (Sort.grow (redrawn w d) os) b = isRow w b := by
  simp only [isRow, (below_regrown w d os).block b hb]
@[go_sem] theorem cell_grown (w : World) (d : Nat) (os : Array Obj) (p : Addr) (hb : p.block < w.heap.size) : (Sort.grow (redrawn w d) os).cell? p = w.cell? p := (below_regrown w d os).cell hb

/-! ### what lay there is as it was -/
theorem bel_alloc {W w : World} (h : Below W.heap.size W w) (o : Obj) : Below W.heap.size W (w.alloc o) := h.alloc h.size o
theorem bel_drew {W w : World} (h : Below W.heap.size W w) : Below W.heap.size W w.drew := h.drew
theorem bel_drewN {W w : World} (h : Below W.heap.size W w) (n : Nat) : Below W.heap.size W (w.drewN n) := below_drewN h n
theorem bel_trans {W w w' : World} (h : Below W.heap.size W w) (k : Below w.heap.size w w') : Below W.heap.size W w' := h.trans (k.mono h.size)
theorem bel_setSeg {W w : World} (h : Below W.heap.size W w) (b o : Nat) (vs : List Value) (hb : W.heap.size ≤ b) : Below W.heap.size W (World.setSeg w b o vs) :=
  h.trans ⟨rfl, rfl, rfl, by simp, fun k hk => by simp only [World.setSeg, Array.getElem?_modify]; rw [if_neg (by omega)]⟩
theorem bel_setCell {W w : World} (h : Below W.heap.size W w) (p : Addr) (v : Value) (hb : W.heap.size ≤ p.block) : Below W.heap.size W (w.setCell p v) := h.setCell hb v
theorem bel_row {B : Nat} {w w' : World} (h : Below B w w') (b : Nat) (hb : b < B) : rowOf w' b = rowOf w b := by simp only [rowOf, h.block b hb]
theorem bel_isRow {B : Nat} {w w' : World} (h : Below B w w') (b : Nat) (hb : b < B) : isRow w' b = isRow w b := by simp only [isRow, h.block b hb]
theorem bel_rowFr {B : Nat} {w w' : World} (h : Below B w w') (b : Nat) (hb : b < B) : rowFr w' b = rowFr w b := by simp only [rowFr, h.block b hb]

end Go.Proofs.Ytadafohgglnneaa
/- Words, addresses, slots, accounts as opaque rows of cells, and what simp is told of them. No condition. -/
namespace Go.Proofs.Ytadafohgglnneaa
open Go.RowKit

/-- A row of integers of one kind. -/
def ints (k : IntKind) (l : List Int) : Array Value := (l.map (Value.int k)).toArray
@[go_sem, simp] theorem ints_size (k : IntKind) (l : List Int) : (ints k l).size = l.length := by simp [ints]
theorem ints_get (k : IntKind) (l : List Int) (i : Nat) : (ints k l)[i]? = (l[i]?).map (Value.int k) := by simp [ints]
/-- The i-th. -/
def gi (l : List Int) (i : Nat) : Int := l.getD i 0
theorem gi_lt (l : List Int) (i : Nat) (h : i < l.length) : gi l i = l[i] := by simp [gi, h]
theorem gi_set (l : List Int) (k i : Nat) (v : Int) (h : k < l.length) : gi (l.set k v) i = if k = i then v else gi l i := by
  simp only [gi, List.getD_eq_getElem?_getD, List.getElem?_set]
  by_cases hki : k = i
  · subst hki; simp [h]
  · simp [hki]
theorem gi_ext {l m : List Int} (h : l.length = m.length) (e : ∀ i, i < l.length → gi l i = gi m i) : l = m := by
  apply List.ext_getElem h
  intro i h1 h2
  have := e i h1
  rwa [gi_lt l i h1, gi_lt m i h2] at this
@[go_sem ↓ high] theorem ints_getD (k : IntKind) (l : List Int) (i : Nat) (h : i < l.length) : (ints k l)[i]? = some (.int k (gi l i)) := by
  rw [gi, ints_get, List.getElem?_eq_getElem h, List.getD_eq_getElem?_getD, List.getElem?_eq_getElem h]; rfl
@[go_sem] theorem ints_at (k : IntKind) (l : List Int) (i : Nat) (h : i < (ints k l).size) : (ints k l)[i] = .int k (gi l i) := by
  have := ints_getD k l i (by simpa using h)
  rw [Array.getElem?_eq_getElem h] at this; exact Option.some.inj this
@[go_sem] theorem ints_set (k : IntKind) (l : List Int) (i : Nat) (v : Int) : (ints k l).setIfInBounds i (.int k v) = ints k (l.set i v) := by
  apply Array.ext_getElem?
  intro j
  rw [ints_get, Array.getElem?_setIfInBounds, List.getElem?_set, ints_size, ints_get]
  split
  · split <;> rfl
  · rfl
@[go_sem] theorem ints_one (k : IntKind) (l : List Int) : ones (ints k l) = true := by
  apply ones_of
  intro v hv
  simp [ints] at hv
  obtain ⟨x, _, rfl⟩ := hv
  rfl
@[go_sem ↓ high] theorem ints_whole (k : IntKind) (l : List Int) (n : Nat) (h : l.length = n) : (ints k l).extract 0 n = ints k l := by
  subst h; rw [show l.length = (ints k l).size by simp]; simp
theorem ints_inj {k : IntKind} {l m : List Int} (h : ints k l = ints k m) : l = m := by
  have h' : l.map (Value.int k) = m.map (Value.int k) := by simpa [ints] using h
  exact (List.map_inj_right (fun _ _ e => by cases e; rfl)).1 h'

/-- 20 bytes. -/
structure Adr where
  l : List Int
  len : l.length = 20
  wf : ∀ x ∈ l, 0 ≤ x ∧ x < 256
theorem Adr.ext' {a b : Adr} (h : a.l = b.l) : a = b := by cases a; cases b; cases h; rfl
instance : DecidableEq Adr := fun a b => if h : a.l = b.l then .isTrue (Adr.ext' h) else .isFalse (fun e => h (by rw [e]))
instance : Inhabited Adr := ⟨⟨List.replicate 20 0, rfl, by simp⟩⟩
def zeroAdr : Adr := default
def big64 : Int := 18446744073709551616
/-- Four integers of 64 bits, the lowest first. -/
structure Wrd where
  l : List Int
  len : l.length = 4
  wf : ∀ x ∈ l, 0 ≤ x ∧ x < big64
theorem Wrd.ext' {a b : Wrd} (h : a.l = b.l) : a = b := by cases a; cases b; cases h; rfl
instance : DecidableEq Wrd := fun a b => if h : a.l = b.l then .isTrue (Wrd.ext' h) else .isFalse (fun e => h (by rw [e]))
instance : Inhabited Wrd := ⟨⟨List.replicate 4 0, rfl, by intro x hx; simp at hx; subst hx; decide⟩⟩
def zeroWrd : Wrd := default

def Adr.cells (a : Adr) : Array Value := ints .u8 a.l
def Wrd.cells (a : Wrd) : Array Value := ints .u64 a.l
@[go_sem, simp] theorem Adr.cells_size (a : Adr) : a.cells.size = 20 := by simp [Adr.cells, a.len]
@[go_sem, simp] theorem Wrd.cells_size (a : Wrd) : a.cells.size = 4 := by simp [Wrd.cells, a.len]
theorem Adr.cells_inj {a b : Adr} (h : a.cells = b.cells) : a = b := Adr.ext' (ints_inj h)
theorem Wrd.cells_inj {a b : Wrd} (h : a.cells = b.cells) : a = b := Wrd.ext' (ints_inj h)
@[go_sem] theorem Adr.cells_one (a : Adr) : ones a.cells = true := ints_one _ _
@[go_sem] theorem Wrd.cells_one (a : Wrd) : ones a.cells = true := ints_one _ _
@[go_sem, simp] theorem Adr.cells_whole (a : Adr) : a.cells.extract 0 20 = a.cells := by
  have := a.cells_size; rw [← this]; simp
@[go_sem, simp] theorem Wrd.cells_whole (a : Wrd) : a.cells.extract 0 4 = a.cells := by
  have := a.cells_size; rw [← this]; simp

theorem Adr.dec (a b : Adr) : decide (a.l = b.l) = decide (a = b) := by
  rw [Bool.eq_iff_iff, decide_eq_true_eq, decide_eq_true_eq]
  exact ⟨Adr.ext', fun h => by rw [h]⟩
theorem Wrd.dec (a b : Wrd) : decide (a.l = b.l) = decide (a = b) := by
  rw [Bool.eq_iff_iff, decide_eq_true_eq, decide_eq_true_eq]
  exact ⟨Wrd.ext', fun h => by rw [h]⟩

/-- A slot: its key, its value. -/
structure Slt where
  k : Wrd
  v : Wrd
  deriving DecidableEq, Inhabited
def Slt.cells (s : Slt) : Array Value := s.k.cells ++ s.v.cells
@[go_sem, simp] theorem Slt.cells_size (s : Slt) : s.cells.size = 8 := by simp [Slt.cells]
@[go_sem] theorem Slt.cells_one (s : Slt) : ones s.cells = true := by
  simp only [Slt.cells, ones_append, Wrd.cells_one, Bool.and_self]
@[go_sem, simp] theorem Slt.cells_whole (s : Slt) : s.cells.extract 0 8 = s.cells := by
  have := s.cells_size; rw [← this]; simp
theorem extract_append_left' {α : Type} (a b : Array α) (n : Nat) (h : a.size = n) : (a ++ b).extract 0 n = a := by
  subst h; simp
theorem extract_append_right' {α : Type} (a b : Array α) (n m : Nat) (h : a.size = n) (h2 : b.size = m) : (a ++ b).extract n (n + m) = b := by
  subst h; subst h2; simp
@[go_sem, simp] theorem Slt.cells_k (s : Slt) : s.cells.extract 0 4 = s.k.cells := extract_append_left' _ _ _ s.k.cells_size
@[go_sem, simp] theorem Slt.cells_v (s : Slt) : s.cells.extract 4 8 = s.v.cells := extract_append_right' _ _ 4 4 s.k.cells_size s.v.cells_size
theorem Slt.cells_inj {a b : Slt} (h : a.cells = b.cells) : a = b := by
  have h1 : a.k = b.k := Wrd.cells_inj (by rw [← a.cells_k, ← b.cells_k, h])
  have h2 : a.v = b.v := Wrd.cells_inj (by rw [← a.cells_v, ← b.cells_v, h])
  cases a; cases b; simp_all

/-- An account's cells: its lists are values (slices). -/
def accRow (a : Adr) (n : Int) (b : Wrd) (c s : Value) : Array Value := a.cells ++ (#[.int .u64 n] ++ (b.cells ++ #[c, s]))
section
variable (a : Adr) (n : Int) (b : Wrd) (c s v : Value)
@[go_sem, simp] theorem accRow_size : (accRow a n b c s).size = 27 := by simp [accRow]
@[go_sem, simp] theorem accRow_whole : (accRow a n b c s).extract 0 27 = accRow a n b c s := by
  have := accRow_size a n b c s; rw [← this]; simp
@[go_sem, simp] theorem accRow_adr : (accRow a n b c s).extract 0 20 = a.cells := extract_append_left' _ _ _ a.cells_size
@[go_sem, simp] theorem accRow_bal : (accRow a n b c s).extract 21 25 = b.cells := by
  have h : accRow a n b c s = (a.cells ++ #[.int .u64 n]) ++ (b.cells ++ #[c, s]) := by simp [accRow]
  have e : ∀ x y : Array Value, x.size = 21 → (x ++ y).extract 21 25 = y.extract 0 4 := fun x y hx => by
    rw [show (25 : Nat) = 21 + 4 from rfl, ← hx, Array.extract_append_right]
  rw [h, e _ _ (by simp)]
  exact extract_append_left' _ _ _ b.cells_size
@[go_sem, simp] theorem accRow_nonce : (accRow a n b c s)[20]? = some (.int .u64 n) := by
  unfold accRow; rw [Array.getElem?_append_right (by simp)]; simp
@[go_sem, simp] theorem accRow_code : (accRow a n b c s)[25]? = some c := by
  unfold accRow; rw [Array.getElem?_append_right (by simp), Array.getElem?_append_right (by simp), Array.getElem?_append_right (by simp)]; simp
@[go_sem, simp] theorem accRow_stor : (accRow a n b c s)[26]? = some s := by
  unfold accRow; rw [Array.getElem?_append_right (by simp), Array.getElem?_append_right (by simp), Array.getElem?_append_right (by simp)]; simp
@[go_sem] theorem accRow_nonce' (h : 20 < (accRow a n b c s).size) : (accRow a n b c s)[20] = .int .u64 n := by
  have := accRow_nonce a n b c s; rw [Array.getElem?_eq_getElem h] at this; exact Option.some.inj this
@[go_sem] theorem accRow_code' (h : 25 < (accRow a n b c s).size) : (accRow a n b c s)[25] = c := by
  have := accRow_code a n b c s; rw [Array.getElem?_eq_getElem h] at this; exact Option.some.inj this
@[go_sem] theorem accRow_stor' (h : 26 < (accRow a n b c s).size) : (accRow a n b c s)[26] = s := by
  have := accRow_stor a n b c s; rw [Array.getElem?_eq_getElem h] at this; exact Option.some.inj this
@[go_sem, simp] theorem accRow_setCode : (accRow a n b c s).setIfInBounds 25 v = accRow a n b v s := by
  unfold accRow
  rw [Array.setIfInBounds_append_right (by simp), Array.setIfInBounds_append_right (by simp), Array.setIfInBounds_append_right (by simp)]; simp
@[go_sem, simp] theorem accRow_setStor : (accRow a n b c s).setIfInBounds 26 v = accRow a n b c v := by
  unfold accRow
  rw [Array.setIfInBounds_append_right (by simp), Array.setIfInBounds_append_right (by simp), Array.setIfInBounds_append_right (by simp)]; simp
@[go_sem, simp] theorem accRow_setNonce (m : Int) : (accRow a n b c s).setIfInBounds 20 (.int .u64 m) = accRow a m b c s := by
  unfold accRow
  rw [Array.setIfInBounds_append_right (by simp)]; simp
@[go_sem] theorem accRow_one : ones (accRow a n b c s) = (c.oneCell' && s.oneCell') := by
  simp only [accRow, ones_append, Adr.cells_one, Wrd.cells_one, Bool.true_and]
  simp [ones, Value.oneCell']
end
@[go_sem, simp] theorem accRow_putAdr (a a' : Adr) (n : Int) (b : Wrd) (c s : Value) : putSeg (accRow a n b c s) 0 a'.cells.toList = accRow a' n b c s := by
  have := putSeg_mid #[] a.cells (#[.int .u64 n] ++ (b.cells ++ #[c, s])) a'.cells.toList 0 rfl (by simp)
  simpa [accRow] using this
@[go_sem, simp] theorem accRow_putBal (a : Adr) (n : Int) (b b' : Wrd) (c s : Value) : putSeg (accRow a n b c s) 21 b'.cells.toList = accRow a n b' c s := by
  have := putSeg_mid (a.cells ++ #[.int .u64 n]) b.cells #[c, s] b'.cells.toList 21 (by simp) (by simp)
  simpa [accRow, Array.append_assoc] using this
@[go_sem, simp] theorem Slt.put_k (s : Slt) (k : Wrd) : putSeg s.cells 0 k.cells.toList = Slt.cells ⟨k, s.v⟩ := by
  have := putSeg_mid #[] s.k.cells s.v.cells k.cells.toList 0 rfl (by simp)
  simpa [Slt.cells] using this
@[go_sem, simp] theorem Slt.put_v (s : Slt) (v : Wrd) : putSeg s.cells 4 v.cells.toList = Slt.cells ⟨s.k, v⟩ := by
  have := putSeg_mid s.k.cells s.v.cells #[] v.cells.toList 4 (by simp) (by simp)
  simpa [Slt.cells] using this
theorem accRow_inj {a a' : Adr} {n n' : Int} {b b' : Wrd} {c c' s s' : Value} (h : accRow a n b c s = accRow a' n' b' c' s') : a = a' ∧ n = n' ∧ b = b' ∧ c = c' ∧ s = s' := by
  refine ⟨Adr.cells_inj (by rw [← accRow_adr a n b c s, h, accRow_adr]), ?_, Wrd.cells_inj (by rw [← accRow_bal a n b c s, h, accRow_bal]), ?_, ?_⟩
  · have := accRow_nonce a n b c s; rw [h, accRow_nonce] at this; cases this; rfl
  · have := accRow_code a n b c s; rw [h, accRow_code] at this; cases this; rfl
  · have := accRow_stor a n b c s; rw [h, accRow_stor] at this; cases this; rfl

/-- Digit i. -/
def Wrd.g (a : Wrd) (i : Nat) : Int := a.l.getD i 0
def Adr.g (a : Adr) (i : Nat) : Int := a.l.getD i 0
theorem Wrd.g_bd (a : Wrd) (i : Nat) : 0 ≤ a.g i ∧ a.g i < big64 := by
  unfold Wrd.g
  by_cases h : i < a.l.length
  · rw [List.getD_eq_getElem?_getD, List.getElem?_eq_getElem h]; exact a.wf _ (List.getElem_mem h)
  · rw [List.getD_eq_getElem?_getD, List.getElem?_eq_none (by omega)]; decide
theorem Adr.g_bd (a : Adr) (i : Nat) : 0 ≤ a.g i ∧ a.g i < 256 := by
  unfold Adr.g
  by_cases h : i < a.l.length
  · rw [List.getD_eq_getElem?_getD, List.getElem?_eq_getElem h]; exact a.wf _ (List.getElem_mem h)
  · rw [List.getD_eq_getElem?_getD, List.getElem?_eq_none (by omega)]; decide
@[go_sem ↓ high] theorem Wrd.cells_get (a : Wrd) (i : Nat) (h : i < 4) : a.cells[i]? = some (.int .u64 (a.g i)) := by
  have h' : i < a.l.length := by rw [a.len]; exact h
  rw [Wrd.cells, ints_get, List.getElem?_eq_getElem h', Wrd.g, List.getD_eq_getElem?_getD, List.getElem?_eq_getElem h']; rfl
@[go_sem ↓ high] theorem Adr.cells_get (a : Adr) (i : Nat) (h : i < 20) : a.cells[i]? = some (.int .u8 (a.g i)) := by
  have h' : i < a.l.length := by rw [a.len]; exact h
  rw [Adr.cells, ints_get, List.getElem?_eq_getElem h', Adr.g, List.getD_eq_getElem?_getD, List.getElem?_eq_getElem h']; rfl
@[go_sem] theorem Wrd.cells_at (a : Wrd) (i : Nat) (h : i < a.cells.size) : a.cells[i] = .int .u64 (a.g i) := by
  have := Wrd.cells_get a i (by simpa using h)
  rw [Array.getElem?_eq_getElem h] at this; exact Option.some.inj this
@[go_sem] theorem Adr.cells_at (a : Adr) (i : Nat) (h : i < a.cells.size) : a.cells[i] = .int .u8 (a.g i) := by
  have := Adr.cells_get a i (by simpa using h)
  rw [Array.getElem?_eq_getElem h] at this; exact Option.some.inj this
theorem Wrd.ext_g {a b : Wrd} (h : ∀ i, i < 4 → a.g i = b.g i) : a = b := by
  apply Wrd.ext'
  apply List.ext_getElem (a.len.trans b.len.symm)
  intro i h1 h2
  have := h i (by rw [a.len] at h1; exact h1)
  simpa [Wrd.g, List.getD_eq_getElem?_getD, List.getElem?_eq_getElem h1, List.getElem?_eq_getElem h2] using this
theorem Adr.ext_g {a b : Adr} (h : ∀ i, i < 20 → a.g i = b.g i) : a = b := by
  apply Adr.ext'
  apply List.ext_getElem (a.len.trans b.len.symm)
  intro i h1 h2
  have := h i (by rw [a.len] at h1; exact h1)
  simpa [Adr.g, List.getD_eq_getElem?_getD, List.getElem?_eq_getElem h1, List.getElem?_eq_getElem h2] using this

/-- Which one is the less, from the highest digit on. -/
def ltFrom (f g : Nat → Int) : Nat → Bool
  | 0 => false
  | n + 1 => if f n = g n then ltFrom f g n else decide (f n < g n)
theorem ltFrom_irr (f : Nat → Int) : ∀ n, ltFrom f f n = false
  | 0 => rfl
  | n + 1 => by simp [ltFrom, ltFrom_irr f n]
theorem ltFrom_trans (f g h : Nat → Int) : ∀ n, ltFrom f g n = true → ltFrom g h n = true → ltFrom f h n = true
  | 0 => by simp [ltFrom]
  | n + 1 => by
    intro h1 h2
    unfold ltFrom at h1 h2 ⊢
    by_cases e1 : f n = g n
    · rw [if_pos e1] at h1
      by_cases e2 : g n = h n
      · rw [if_pos e2] at h2; rw [if_pos (e1.trans e2)]; exact ltFrom_trans f g h n h1 h2
      · rw [if_neg e2] at h2; rw [if_neg (by omega)]; simp at h2 ⊢; omega
    · rw [if_neg e1] at h1
      by_cases e2 : g n = h n
      · rw [if_pos e2] at h2; rw [if_neg (by omega)]; simp at h1 ⊢; omega
      · rw [if_neg e2] at h2; simp at h1 h2; rw [if_neg (by omega)]; simp; omega
theorem ltFrom_total (f g : Nat → Int) : ∀ n, (∀ i, i < n → f i = g i) ∨ ltFrom f g n = true ∨ ltFrom g f n = true
  | 0 => .inl (fun i h => by omega)
  | n + 1 => by
    unfold ltFrom
    by_cases e : f n = g n
    · rw [if_pos e, if_pos e.symm]
      rcases ltFrom_total f g n with h | h | h
      · exact .inl (fun i hi => by by_cases hn : i = n; · subst hn; exact e
                                   · exact h i (by omega))
      · exact .inr (.inl h)
      · exact .inr (.inr h)
    · rw [if_neg e, if_neg (Ne.symm e)]
      simp; omega
/-- The first place that parts two rows tells which is the less. -/
theorem ltFrom_at (f g : Nat → Int) : ∀ n k, k < n → (∀ j, k < j → j < n → f j = g j) → f k ≠ g k → ltFrom f g n = decide (f k < g k)
  | 0, k, h, _, _ => by omega
  | n + 1, k, h, h1, h2 => by
    unfold ltFrom
    by_cases e : k = n
    · subst e; rw [if_neg h2]
    · rw [if_pos (h1 n (by omega) (by omega))]
      exact ltFrom_at f g n k (by omega) (fun j a b => h1 j a (by omega)) h2
def Wrd.lt (a b : Wrd) : Bool := ltFrom a.g b.g 4
def Adr.lt (a b : Adr) : Bool := ltFrom (fun i => a.g (19 - i)) (fun i => b.g (19 - i)) 20
theorem Wrd.lt_irr (a : Wrd) : a.lt a = false := ltFrom_irr _ _
theorem Adr.lt_irr (a : Adr) : a.lt a = false := ltFrom_irr _ _
theorem Wrd.lt_trans {a b c : Wrd} (h : a.lt b = true) (h' : b.lt c = true) : a.lt c = true := ltFrom_trans _ _ _ _ h h'
theorem Adr.lt_trans {a b c : Adr} (h : a.lt b = true) (h' : b.lt c = true) : a.lt c = true := ltFrom_trans _ _ _ _ h h'
theorem Wrd.lt_total (a b : Wrd) : a = b ∨ a.lt b = true ∨ b.lt a = true := (ltFrom_total a.g b.g 4).imp (fun h => Wrd.ext_g h) id
theorem Adr.lt_total (a b : Adr) : a = b ∨ a.lt b = true ∨ b.lt a = true := by
  refine (ltFrom_total (fun i => a.g (19 - i)) (fun i => b.g (19 - i)) 20).imp (fun h => Adr.ext_g fun i hi => ?_) id
  have := h (19 - i) (by omega)
  simpa [show 19 - (19 - i) = i by omega] using this
def Wrd.cmp (a b : Wrd) : Int := if a = b then 0 else if a.lt b then -1 else 1
def Adr.cmp (a b : Adr) : Int := if a = b then 0 else if a.lt b then -1 else 1

/-! ### equality -/
section
variable {P : Program}
theorem run_equalIn_arr (w : World) (d : Nat) (t e : TypeId) (n : Nat) (k : IntKind) (ht : P.underlying t = some (.array n e)) (he : P.underlying e = some (.int k)) (hsz : ∀ w, (sizeOf e).run P w = .ok 1 w)
    (xs ys : List Int) (hx : xs.length = n) (hy : ys.length = n) :
    (Op.equalIn (d + 2) t (.agg (ints k xs)) (.agg (ints k ys))).run P w = .ok (decide (xs = ys)) w := by
  have key : ((List.range' 0 n 1).all fun i => xs.getD i 0 == ys.getD i 0) = decide (xs = ys) := by
    rw [Bool.eq_iff_iff, List.all_eq_true, decide_eq_true_eq]
    constructor
    · intro h
      apply List.ext_getElem (hx.trans hy.symm)
      intro i h1 h2
      have := h i (by simp [List.mem_range'_1]; omega)
      simpa [List.getD, List.getElem?_eq_getElem h1, List.getElem?_eq_getElem h2] using this
    · intro h; subst h; simp
  rw [← key, Op.equalIn]
  simp only [Sem.run_bind, run_underlying ht, Result.andThen_ok, hsz, Std.Legacy.Range.forIn_eq_forIn_range', Std.Legacy.Range.size, Nat.sub_zero, Nat.add_sub_cancel, Nat.div_one]
  have hl : ∀ i ∈ List.range' 0 n 1, i < n := fun i hi => by simpa using (List.mem_range'_1.1 hi).2
  generalize List.range' 0 n 1 = l at hl ⊢
  induction l with
  | nil => simp
  | cons i l ih =>
    have hi : i < n := hl i (by simp)
    have px : (part e (ints k xs) (i * 1)).run P w = .ok (.int k (xs.getD i 0)) w := by
      simp [part, isAgg, run_underlying he, ints, List.getD, List.getElem?_eq_getElem (show i < xs.length by omega)]
    have py : (part e (ints k ys) (i * 1)).run P w = .ok (.int k (ys.getD i 0)) w := by
      simp [part, isAgg, run_underlying he, ints, List.getD, List.getElem?_eq_getElem (show i < ys.length by omega)]
    have pe : (Op.equalIn (d + 1) e (.int k (xs.getD i 0)) (.int k (ys.getD i 0))).run P w = .ok (xs.getD i 0 == ys.getD i 0) w := run_equalIn_int w d e k k _ _ he
    simp only [List.forIn_cons, Sem.run_bind, px, py, pe, Result.andThen_ok, List.all_cons]
    cases hb : (xs.getD i 0 == ys.getD i 0)
    · simp
    · simp only [Bool.not_true, Bool.false_eq_true, if_false, Sem.run_pure, Result.andThen_ok, Bool.true_and]
      exact ih fun j hj => hl j (by simp [hj])
end
end Go.Proofs.Ytadafohgglnneaa
/- How lists of bytes, slots and accounts lie in memory: read out of blocks of a given set. No condition. -/
namespace Go.Proofs.Ytadafohgglnneaa
open Go.RowKit

/-- The cells cs lie at a, in a block of S (nothing lies anywhere). -/
def SegIn (S : Nat → Prop) (w : World) (a : Addr) (cs : Array Value) : Prop :=
  cs.size = 0 ∨ (a.spot = none ∧ S a.block ∧ a.off + cs.size ≤ (rowOf w a.block).size ∧ (rowOf w a.block).extract a.off (a.off + cs.size) = cs)
/-- A slice of n elements whose cells are cs. -/
def SlIn (S : Nat → Prop) (w : World) (v : Value) (n : Nat) (cs : Array Value) : Prop :=
  (v = .slice none 0 0 ∧ n = 0 ∧ cs.size = 0) ∨ ∃ a c, v = .slice (some a) n c ∧ n ≤ c ∧ c ≤ maxLen ∧ SegIn S w a cs
theorem SegIn.mono {S T : Nat → Prop} {w : World} {a : Addr} {cs : Array Value} (h : SegIn S w a cs) (hs : ∀ b, S b → T b) : SegIn T w a cs :=
  h.imp id fun ⟨h1, h2, h3⟩ => ⟨h1, hs _ h2, h3⟩
theorem SegIn.same {S : Nat → Prop} {w w' : World} {a : Addr} {cs : Array Value} (h : SegIn S w a cs) (hs : ∀ b, b < w.heap.size → S b → w'.heap[b]? = w.heap[b]?) : SegIn S w' a cs := by
  rcases h with h | ⟨h1, h2, h3, h4⟩
  · exact .inl h
  · by_cases h0 : cs.size = 0
    · exact .inl h0
    · have hr : rowOf w' a.block = rowOf w a.block := by simp only [rowOf, hs _ (rowOf_lt (by omega)) h2]
      exact .inr ⟨h1, h2, by rw [hr]; exact h3, by rw [hr]; exact h4⟩
theorem SlIn.mono {S T : Nat → Prop} {w : World} {v : Value} {n : Nat} {cs : Array Value} (h : SlIn S w v n cs) (hs : ∀ b, S b → T b) : SlIn T w v n cs :=
  h.imp id fun ⟨a, c, h1, h2, h3, h4⟩ => ⟨a, c, h1, h2, h3, h4.mono hs⟩
theorem SlIn.same {S : Nat → Prop} {w w' : World} {v : Value} {n : Nat} {cs : Array Value} (h : SlIn S w v n cs) (hs : ∀ b, b < w.heap.size → S b → w'.heap[b]? = w.heap[b]?) : SlIn S w' v n cs :=
  h.imp id fun ⟨a, c, h1, h2, h3, h4⟩ => ⟨a, c, h1, h2, h3, h4.same hs⟩
theorem SlIn.below {S : Nat → Prop} {w w' : World} {v : Value} {n : Nat} {cs : Array Value} (h : SlIn S w v n cs) (hb : Below w.heap.size w w') : SlIn S w' v n cs :=
  h.same fun b hb' _ => hb.block b hb'
theorem SlIn.one {S : Nat → Prop} {w : World} {v : Value} {n : Nat} {cs : Array Value} (h : SlIn S w v n cs) : v.oneCell' = true := by
  rcases h with ⟨rfl, _⟩ | ⟨a, c, rfl, _⟩ <;> rfl
theorem SlIn.form {S : Nat → Prop} {w : World} {v : Value} {n : Nat} {cs : Array Value} (h : SlIn S w v n cs) : ∃ p c, v = .slice p n c := by
  rcases h with ⟨rfl, rfl, _⟩ | ⟨a, c, rfl, _⟩
  · exact ⟨none, 0, rfl⟩
  · exact ⟨some a, c, rfl⟩
theorem SlIn.nil (S : Nat → Prop) (w : World) (cs : Array Value) (h : cs.size = 0) : SlIn S w (.slice none 0 0) 0 cs := .inl ⟨rfl, rfl, h⟩
/-- With an element there is a place. -/
theorem SlIn.pos {S : Nat → Prop} {w : World} {v : Value} {n : Nat} {cs : Array Value} (h : SlIn S w v n cs) (hn : 0 < cs.size) :
    ∃ b o c, v = .slice (some ⟨b, o, none⟩) n c ∧ n ≤ c ∧ c ≤ maxLen ∧ S b ∧ b < w.heap.size ∧ o + cs.size ≤ (rowOf w b).size ∧ (rowOf w b).extract o (o + cs.size) = cs := by
  rcases h with ⟨_, _, h⟩ | ⟨⟨b, o, s⟩, c, rfl, h1, h2, h3⟩
  · omega
  · rcases h3 with h3 | ⟨h4, h5, h6, h7⟩
    · omega
    · simp only at h4 h5 h6 h7
      subst h4
      exact ⟨b, o, c, rfl, h1, h2, h5, rowOf_lt (by omega), h6, h7⟩
/-- A part of cells that lie somewhere. -/
theorem seg_part {row cs d : Array Value} {o i n : Nat} (_h1 : o + cs.size ≤ row.size) (h : row.extract o (o + cs.size) = cs) (hi : i + n ≤ cs.size) (hd : cs.extract i (i + n) = d) : row.extract (o + i) (o + i + n) = d := by
  rw [← hd, ← h, Array.extract_extract]
  congr 1 <;> omega
theorem seg_get {row cs : Array Value} {o i : Nat} (_h1 : o + cs.size ≤ row.size) (h : row.extract o (o + cs.size) = cs) (hi : i < cs.size) : row[o + i]? = cs[i]? := by
  rw [← h, Array.getElem?_extract]
  rw [if_pos (by omega)]

/-! ### rows of equal parts -/
/-- Parts laid behind one another. -/
def joinR (l : List (Array Value)) : Array Value := l.foldr (· ++ ·) #[]
@[simp] theorem joinR_nil : joinR [] = #[] := rfl
@[simp] theorem joinR_cons (x : Array Value) (l : List (Array Value)) : joinR (x :: l) = x ++ joinR l := rfl
theorem joinR_append (l m : List (Array Value)) : joinR (l ++ m) = joinR l ++ joinR m := by
  induction l with
  | nil => simp
  | cons x l ih => simp [ih, Array.append_assoc]
theorem joinR_size (k : Nat) : ∀ (l : List (Array Value)), (∀ x ∈ l, x.size = k) → (joinR l).size = l.length * k
  | [], _ => by simp
  | x :: l, h => by
    simp only [joinR_cons, Array.size_append, List.length_cons, joinR_size k l (fun y hy => h y (by simp [hy])), h x (by simp)]
    rw [Nat.add_mul]; omega
theorem joinR_part (k : Nat) : ∀ (l : List (Array Value)) (i : Nat) (hi : i < l.length), (∀ x ∈ l, x.size = k) → (joinR l).extract (i * k) (i * k + k) = l[i]
  | x :: l, 0, _, h => by
    have hx := h x (by simp)
    simp only [joinR_cons, Nat.zero_mul, Nat.zero_add, List.getElem_cons_zero]
    exact extract_append_left' _ _ _ hx
  | x :: l, i + 1, hi, h => by
    have hx := h x (by simp)
    simp only [joinR_cons, List.getElem_cons_succ]
    have := joinR_part k l i (by simpa using hi) (fun y hy => h y (by simp [hy]))
    rw [← this]
    have e1 : (i + 1) * k = x.size + i * k := by rw [hx, Nat.add_mul]; omega
    rw [e1, Nat.add_assoc, Array.extract_append, show x.size + i * k - x.size = i * k by omega, show x.size + (i * k + k) - x.size = i * k + k by omega]
    simp
theorem joinR_one {l : List (Array Value)} (h : ∀ x ∈ l, ones x = true) : ones (joinR l) = true := by
  induction l with
  | nil => rfl
  | cons x l ih => rw [joinR_cons, ones_append, h x (by simp), ih (fun y hy => h y (by simp [hy]))]; rfl

/-! ### bytes, slots, accounts -/
def sltRow (l : List Slt) : Array Value := joinR (l.map Slt.cells)
def sltAt (l : List Slt) (i : Nat) : Slt := l.getD i default
theorem sltRow_size (l : List Slt) : (sltRow l).size = l.length * 8 := by
  rw [sltRow, joinR_size 8 _ (by simp)]; simp
theorem sltRow_part (l : List Slt) (i : Nat) (hi : i < l.length) : (sltRow l).extract (i * 8) (i * 8 + 8) = (sltAt l i).cells := by
  rw [sltRow, joinR_part 8 _ i (by simpa using hi) (by simp)]
  simp [sltAt, hi]
theorem sltRow_one (l : List Slt) : ones (sltRow l) = true := joinR_one (by simp [Slt.cells_one])

/-- Bytes as numbers. -/
def bI (l : List UInt8) : List Int := l.map fun b => (b.toNat : Int)
@[go_sem, simp] theorem bI_length (l : List UInt8) : (bI l).length = l.length := by simp [bI]
theorem bI_inj {l m : List UInt8} (h : bI l = bI m) : l = m := (List.map_inj_right (fun x y e => by
  have e' : x.toNat = y.toNat := by injection e
  exact UInt8.toNat_inj.1 e')).1 h
/-- An account, as data. -/
structure Acc where
  adr : Adr
  nonce : Int
  bal : Wrd
  code : List UInt8
  stor : List Slt
  deriving DecidableEq, Inhabited
def emptyAcc (a : Adr) : Acc := ⟨a, 0, zeroWrd, [], []⟩
/-- A row of 27 cells is the account x: its lists lie in blocks of S. -/
def AccIn (S : Nat → Prop) (w : World) (row : Array Value) (x : Acc) : Prop :=
  ∃ c s, row = accRow x.adr x.nonce x.bal c s ∧ SlIn S w c x.code.length (ints .u8 (bI x.code)) ∧ SlIn S w s x.stor.length (sltRow x.stor)
theorem AccIn.mono {S T : Nat → Prop} {w : World} {row : Array Value} {x : Acc} (h : AccIn S w row x) (hs : ∀ b, S b → T b) : AccIn T w row x :=
  let ⟨c, s, h1, h2, h3⟩ := h
  ⟨c, s, h1, h2.mono hs, h3.mono hs⟩
theorem AccIn.same {S : Nat → Prop} {w w' : World} {row : Array Value} {x : Acc} (h : AccIn S w row x) (hs : ∀ b, b < w.heap.size → S b → w'.heap[b]? = w.heap[b]?) : AccIn S w' row x :=
  let ⟨c, s, h1, h2, h3⟩ := h
  ⟨c, s, h1, h2.same hs, h3.same hs⟩
theorem AccIn.below {S : Nat → Prop} {w w' : World} {row : Array Value} {x : Acc} (h : AccIn S w row x) (hb : Below w.heap.size w w') : AccIn S w' row x :=
  h.same fun b hb' _ => hb.block b hb'
theorem AccIn.size {S : Nat → Prop} {w : World} {row : Array Value} {x : Acc} (h : AccIn S w row x) : row.size = 27 := by
  obtain ⟨c, s, rfl, _⟩ := h; simp
theorem AccIn.one {S : Nat → Prop} {w : World} {row : Array Value} {x : Acc} (h : AccIn S w row x) : ones row = true := by
  obtain ⟨c, s, rfl, h1, h2⟩ := h; rw [accRow_one, h1.one, h2.one]; rfl
theorem AccIn.empty (S : Nat → Prop) (w : World) (a : Adr) : AccIn S w (accRow a 0 zeroWrd (.slice none 0 0) (.slice none 0 0)) (emptyAcc a) :=
  ⟨_, _, rfl, SlIn.nil _ _ _ rfl, SlIn.nil _ _ _ rfl⟩

/-- Rows that are accounts. -/
def AccsIn (S : Nat → Prop) (w : World) : List (Array Value) → List Acc → Prop
  | [], [] => True
  | r :: rs, x :: xs => AccIn S w r x ∧ AccsIn S w rs xs
  | _, _ => False
theorem AccsIn.length {S : Nat → Prop} {w : World} : ∀ {rs : List (Array Value)} {xs : List Acc}, AccsIn S w rs xs → rs.length = xs.length
  | [], [], _ => rfl
  | _ :: _, _ :: _, h => by simp [AccsIn.length h.2]
  | [], _ :: _, h => h.elim
  | _ :: _, [], h => h.elim
theorem AccsIn.get {S : Nat → Prop} {w : World} : ∀ {rs : List (Array Value)} {xs : List Acc} (_ : AccsIn S w rs xs) (i : Nat) (h1 : i < rs.length) (h2 : i < xs.length), AccIn S w rs[i] xs[i]
  | _ :: _, _ :: _, h, 0, _, _ => h.1
  | _ :: _, _ :: _, h, i + 1, h1, h2 => AccsIn.get h.2 i (by simpa using h1) (by simpa using h2)
theorem AccsIn.imp {S T : Nat → Prop} {w w' : World} (f : ∀ r x, AccIn S w r x → AccIn T w' r x) : ∀ {rs : List (Array Value)} {xs : List Acc}, AccsIn S w rs xs → AccsIn T w' rs xs
  | [], [], _ => trivial
  | _ :: _, _ :: _, h => ⟨f _ _ h.1, AccsIn.imp f h.2⟩
  | [], _ :: _, h => h.elim
  | _ :: _, [], h => h.elim
theorem AccsIn.append {S : Nat → Prop} {w : World} : ∀ {rs rs' : List (Array Value)} {xs xs' : List Acc}, AccsIn S w rs xs → AccsIn S w rs' xs' → AccsIn S w (rs ++ rs') (xs ++ xs')
  | [], _, [], _, _, h => h
  | _ :: _, _, _ :: _, _, h, h' => ⟨h.1, AccsIn.append h.2 h'⟩
  | [], _, _ :: _, _, h, _ => h.elim
  | _ :: _, _, [], _, h, _ => h.elim
theorem AccsIn.sizes {S : Nat → Prop} {w : World} : ∀ {rs : List (Array Value)} {xs : List Acc}, AccsIn S w rs xs → ∀ r ∈ rs, r.size = 27
  | [], [], _, _, h => by simp at h
  | r :: rs, x :: xs, h, r', hr => by
    rcases List.mem_cons.1 hr with e | e
    · rw [e]; exact h.1.size
    · exact AccsIn.sizes h.2 _ e
  | [], _ :: _, h, _, _ => h.elim
  | _ :: _, [], h, _, _ => h.elim
theorem AccsIn.ones {S : Nat → Prop} {w : World} : ∀ {rs : List (Array Value)} {xs : List Acc}, AccsIn S w rs xs → ∀ r ∈ rs, Ytadafohgglnneaa.ones r = true
  | [], [], _, _, h => by simp at h
  | r :: rs, x :: xs, h, r', hr => by
    rcases List.mem_cons.1 hr with e | e
    · rw [e]; exact h.1.one
    · exact AccsIn.ones h.2 _ e
  | [], _ :: _, h, _, _ => h.elim
  | _ :: _, [], h, _, _ => h.elim
/-- A slice of accounts. -/
def AccsAt (S : Nat → Prop) (w : World) (v : Value) (xs : List Acc) : Prop := ∃ rs, SlIn S w v xs.length (joinR rs) ∧ AccsIn S w rs xs
theorem AccsAt.same {S : Nat → Prop} {w w' : World} {v : Value} {xs : List Acc} (h : AccsAt S w v xs) (hs : ∀ b, b < w.heap.size → S b → w'.heap[b]? = w.heap[b]?) : AccsAt S w' v xs :=
  let ⟨rs, h1, h2⟩ := h
  ⟨rs, h1.same hs, h2.imp fun _ _ h => h.same hs⟩
theorem AccsAt.below {S : Nat → Prop} {w w' : World} {v : Value} {xs : List Acc} (h : AccsAt S w v xs) (hb : Below w.heap.size w w') : AccsAt S w' v xs :=
  h.same fun b hb' _ => hb.block b hb'
theorem AccsAt.mono {S T : Nat → Prop} {w : World} {v : Value} {xs : List Acc} (h : AccsAt S w v xs) (hs : ∀ b, S b → T b) : AccsAt T w v xs :=
  let ⟨rs, h1, h2⟩ := h
  ⟨rs, h1.mono hs, h2.imp fun _ _ h => h.mono hs⟩
theorem AccsAt.nil (S : Nat → Prop) (w : World) : AccsAt S w (.slice none 0 0) [] := ⟨[], SlIn.nil _ _ _ rfl, trivial⟩

def accAt (xs : List Acc) (i : Nat) : Acc := xs.getD i default
def rowAt (rs : List (Array Value)) (i : Nat) : Array Value := rs.getD i #[]
/-- With an account there is a place; each account has its row. -/
theorem AccsAt.pos {S : Nat → Prop} {w : World} {v : Value} {xs : List Acc} (h : AccsAt S w v xs) (hn : 0 < xs.length) :
    ∃ b o c rs, v = .slice (some ⟨b, o, none⟩) xs.length c ∧ xs.length ≤ c ∧ c ≤ maxLen ∧ S b ∧ b < w.heap.size ∧ o + xs.length * 27 ≤ (rowOf w b).size ∧
      ∀ k, k < xs.length → (rowOf w b).extract (o + k * 27) (o + k * 27 + 27) = rowAt rs k ∧ AccIn S w (rowAt rs k) (accAt xs k) := by
  obtain ⟨rs, h1, h2⟩ := h
  have hl := h2.length
  have hz := h2.sizes
  have hj : (joinR rs).size = xs.length * 27 := by rw [joinR_size 27 rs hz, hl]
  obtain ⟨b, o, c, rfl, e1, e2, e3, e4, e5, e6⟩ := h1.pos (by omega)
  refine ⟨b, o, c, rs, rfl, e1, e2, e3, e4, by omega, fun k hk => ?_⟩
  have hk' : k < rs.length := by omega
  have er : rowAt rs k = rs[k] := by simp [rowAt, hk']
  have ea : accAt xs k = xs[k] := by simp [accAt, hk]
  rw [er, ea]
  exact ⟨seg_part e5 e6 (by omega) (joinR_part 27 rs k hk' hz), h2.get k hk' hk⟩
/-- A slice of one account, just laid. -/
theorem AccsAt.single {S : Nat → Prop} {w : World} {row : Array Value} {x : Acc} (h : AccIn S w row x) (b : Nat) (hS : S b) (hb : b < w.heap.size) (hr : rowOf w b = row) : AccsAt S w (.slice (some ⟨b, 0, none⟩) 1 1) [x] := by
  refine ⟨[row], .inr ⟨_, _, rfl, Nat.le_refl _, by decide, ?_⟩, h, trivial⟩
  have hs := h.size
  refine .inr ⟨rfl, hS, ?_, ?_⟩
  · simp [hr]
  · simp [hr]
theorem AccsAt.form {S : Nat → Prop} {w : World} {v : Value} {xs : List Acc} (h : AccsAt S w v xs) : ∃ p c, v = .slice p xs.length c := by
  obtain ⟨rs, h1, _⟩ := h; exact h1.form
theorem AccsAt.le {S : Nat → Prop} {w : World} {p : Option Addr} {n c : Nat} {xs : List Acc} (h : AccsAt S w (.slice p n c) xs) : n ≤ c ∧ c ≤ maxLen := by
  obtain ⟨rs, h1, _⟩ := h
  rcases h1 with ⟨e, _⟩ | ⟨a, c', e, h2, h3, _⟩
  · cases e; exact ⟨Nat.le_refl _, by decide⟩
  · cases e; exact ⟨h2, h3⟩
/-- Has it its storage as it must be at place i? -/
def okAt (l : List Slt) (i : Nat) : Bool := !decide ((sltAt l i).v = zeroWrd) && (decide (i = 0) || (sltAt l (i - 1)).k.lt (sltAt l i).k)
def rightB (l : List Slt) : Bool := (List.range l.length).all (okAt l)
theorem rightB_true {l : List Slt} (h : ∀ i, i < l.length → okAt l i = true) : rightB l = true := by
  rw [rightB, List.all_eq_true]; intro i hi; exact h i (by simpa using hi)
theorem rightB_false {l : List Slt} {i : Nat} (hi : i < l.length) (h : okAt l i = false) : rightB l = false := by
  rw [rightB, List.all_eq_false]; exact ⟨i, by simpa using hi, by simp [h]⟩
end Go.Proofs.Ytadafohgglnneaa
/- Slices that a call owns: what appending makes of them, in this seat's words. No condition. -/
namespace Go.Proofs.Ytadafohgglnneaa
open Go.RowKit
/-- The blocks laid between two worlds. -/
def Fresh (w w' : World) (b : Nat) : Prop := w.heap.size ≤ b ∧ b < w'.heap.size
theorem ownsRow_seg {w : World} {base : Nat} {e : TypeId} {size : Nat} {v : Value} {n : Nat} {xs : List Value} (h : w.ownsRow base e size v n xs) : SlIn (fun b => base ≤ b ∧ b < w.heap.size) w v n xs.toArray := by
  obtain ⟨hl, h2⟩ := h
  rcases h2 with ⟨rfl, rfl⟩ | ⟨g, cap, cur, rfl, hb, hg, hn, hm, hs, ht⟩
  · exact .inl ⟨rfl, rfl, by simp at hl; simp [hl]⟩
  · refine .inr ⟨_, _, rfl, hn, hm, ?_⟩
    have hr : rowOf w g = cur := by simp [rowOf, hg]
    have hle : n * size ≤ cur.size := by rw [hs]; exact Nat.mul_le_mul_right _ hn
    refine .inr ⟨rfl, ⟨hb, (Array.getElem?_eq_some_iff.1 hg).1⟩, ?_, ?_⟩
    · rw [hr]; simp [hl]; exact hle
    · rw [hr]
      simp only [Nat.zero_add, List.size_toArray]
      apply Array.ext'
      rw [Array.toList_extract, ← ht]
      simp [List.extract]
/-- Below the base nothing has turned. -/
theorem bel_grown {W w w' : World} {row : Option Nat} (h : Below W.heap.size W w) (hg : w.grownBy w' row) (hr : ∀ k, row = some k → W.heap.size ≤ k) : Below W.heap.size W w' := h.grown hg h.size hr
/-- Cells that lie somewhere are there one by one. -/
theorem segIn_cells {S : Nat → Prop} {w : World} {a : Addr} {cs : Array Value} (h : SegIn S w a cs) : ∀ j u, cs.toList[j]? = some u → w.cell? (a.add j) = some u := by
  intro j u hu
  have hj : j < cs.size := by have := (List.getElem?_eq_some_iff.1 hu).1; simpa using this
  rcases h with h | ⟨h1, h2, h3, h4⟩
  · omega
  · obtain ⟨b, o, s⟩ := a
    simp only at h1 h2 h3 h4
    subst h1
    rw [Addr.add_lit, cell_row, seg_get h3 h4 hj]
    simpa using hu
theorem ones_list {vs : Array Value} (h : ones vs = true) : ∀ u ∈ vs.toList, u.oneCell' = true := fun u hu => ones_mem h u (by simpa using hu)
theorem strOfNums_bI (l : List UInt8) : strOfNums (bI l) = ⟨l.toArray⟩ := by
  unfold strOfNums bI
  congr 1
  simp only [List.map_map]
  congr 1
  rw [List.map_congr_left (g := id) (fun b _ => by simp)]
  simp
/-- 'string(b)'. -/
theorem run_conv {P : Program} {S : Nat → Prop} (w : World) (src e dst : TypeId) (hs : P.underlying src = some (.slice e)) (he : P.underlying e = some (.int .u8)) (hd : P.underlying dst = some .string) (v : Value) (l : List UInt8) (h : SlIn S w v l.length (ints .u8 (bI l))) :
    (convert src dst v).run P w = .ok (.string ⟨l.toArray⟩) w := by
  rcases h with ⟨rfl, h1, h2⟩ | ⟨a, c, rfl, h1, h2, h3⟩
  · have : l = [] := List.eq_nil_of_length_eq_zero h1
    subst this
    exact run_convert_bytes_nil w src e hs he 0 0 dst hd
  · rw [run_convert_bytes_string w src dst e _ _ _ hs he hd, run_bytesToString w a l.length c (bI l), foldl_push_bytes]
    · have : strOfNums (bI l) = ⟨l.toArray⟩ := strOfNums_bI l
      rw [← this]
      simp [strOfNums, ByteArray.empty, ByteArray.emptyWithCapacity]
      rfl
    · have hl := run_loadCells_list (P := P) w a (ints .u8 (bI l)).toList (segIn_cells h3)
      rw [Array.toArray_toList, Array.length_toList, ints_size, bI_length] at hl
      exact hl
theorem str_eq (l m : List UInt8) : ((⟨l.toArray⟩ : ByteArray) == ⟨m.toArray⟩) = decide (l = m) := by
  show (l.toArray == m.toArray) = decide (l = m)
  rw [Bool.eq_iff_iff]; simp
end Go.Proofs.Ytadafohgglnneaa
/- Maps keyed by arrays: look-up, store, delete, range, in the words of a list of entries. No condition. -/
namespace Go.Proofs.Ytadafohgglnneaa
open Go.RowKit

/-- A block, whatever it is. -/
def objAt (w : World) (r : Nat) : Option Obj := w.heap[r]?
def World.setMap (w : World) (r : Nat) (o : Obj) : World := { w with heap := w.heap.setIfInBounds r o }
@[go_sem] theorem objAt_alloc_at (w : World) (x : Obj) (n : Nat) (hn : n = w.heap.size) : objAt (w.alloc x) n = some x := by subst hn; exact heap_alloc_new w x
@[go_sem] theorem objAt_alloc_past (w : World) (x : Obj) (n : Nat) (hn : n < w.heap.size) : objAt (w.alloc x) n = objAt w n := heap_alloc_old w x hn
@[go_sem] theorem objAt_drew (w : World) (n : Nat) : objAt w.drew n = objAt w n := rfl
@[go_sem] theorem objAt_drewN (w : World) (k n : Nat) : objAt (w.drewN k) n = objAt w n := rfl
@[go_sem] theorem objAt_setCell (w : World) (p : Addr) (v : Value) (n : Nat) (hn : n ≠ p.block) : objAt (w.setCell p v) n = objAt w n := Below.heap_setCell w p v n hn
@[go_sem] theorem objAt_setSeg (w : World) (b o : Nat) (vs : List Value) (n : Nat) (hn : n ≠ b) : objAt (World.setSeg w b o vs) n = objAt w n := setSeg_block_ne w b o n vs hn
@[go_sem] theorem objAt_grown (w : World) (d : Nat) (os : Array Obj) (b : Nat) (hb : b < w.heap.size) : objAt (Sort.grow (redrawn w d) os) b = objAt w b := (below_regrown w d os).block b hb
@[go_sem] theorem objAt_setMap_same (w : World) (r : Nat) (o : Obj) (h : r < w.heap.size) : objAt (World.setMap w r o) r = some o := by
  simp [objAt, World.setMap, h]
@[go_sem] theorem objAt_setMap_other (w : World) (r n : Nat) (o : Obj) (h : n ≠ r) : objAt (World.setMap w r o) n = objAt w n := by
  simp only [objAt, World.setMap, Array.getElem?_setIfInBounds, if_neg (Ne.symm h)]
@[go_sem, simp] theorem setMap_size (w : World) (r : Nat) (o : Obj) : (World.setMap w r o).heap.size = w.heap.size := by simp [World.setMap]
@[go_sem] theorem rowOf_setMap (w : World) (r n : Nat) (o : Obj) (h : n ≠ r) : rowOf (World.setMap w r o) n = rowOf w n := by
  have := objAt_setMap_other w r n o h; simp only [objAt] at this; simp only [rowOf, this]
@[go_sem] theorem isRow_setMap (w : World) (r n : Nat) (o : Obj) (h : n ≠ r) : isRow (World.setMap w r o) n = isRow w n := by
  have := objAt_setMap_other w r n o h; simp only [objAt] at this; simp only [isRow, this]
@[go_sem] theorem rowFr_setMap (w : World) (r n : Nat) (o : Obj) (h : n ≠ r) : rowFr (World.setMap w r o) n = rowFr w n := by
  have := objAt_setMap_other w r n o h; simp only [objAt] at this; simp only [rowFr, this]
@[go_sem] theorem cell_setMap (w : World) (r : Nat) (o : Obj) (p : Addr) (h : p.block ≠ r) : (World.setMap w r o).cell? p = w.cell? p := by
  have := objAt_setMap_other w r p.block o h; simp only [objAt] at this; exact World.cell?_of_block this
@[go_sem] theorem frozen_setMap (w : World) (r : Nat) (o : Obj) (p : Addr) (h : p.block ≠ r) : (World.setMap w r o).frozen? p = w.frozen? p := by
  have := objAt_setMap_other w r p.block o h; simp only [objAt] at this; exact World.frozen?_of_block this
theorem bel_objAt {B : Nat} {w w' : World} (h : Below B w w') (b : Nat) (hb : b < B) : objAt w' b = objAt w b := h.block b hb
theorem objAt_lt {w : World} {r : Nat} {o : Obj} (h : objAt w r = some o) : r < w.heap.size := (Array.getElem?_eq_some_iff.1 h).1

theorem map_eraseIdx {α β : Type} (f : α → β) : ∀ (l : List α) (i : Nat), (l.eraseIdx i).map f = (l.map f).eraseIdx i
  | [], _ => rfl
  | _ :: _, 0 => rfl
  | _ :: l, i + 1 => by simp [map_eraseIdx f l i]
theorem nodup_inj {α β : Type} {f : α → β} {l : List α} (h : (l.map f).Nodup) {i j : Nat} (hi : i < l.length) (hj : j < l.length) (e : f l[i] = f l[j]) : i = j := by
  have hp := List.pairwise_iff_getElem.1 h
  rcases Nat.lt_trichotomy i j with h1 | h1 | h1
  · exact absurd (by rw [List.getElem_map, List.getElem_map]; exact e) (hp i j (by simpa using hi) (by simpa using hj) h1)
  · exact h1
  · exact absurd (by rw [List.getElem_map, List.getElem_map]; exact e.symm) (hp j i (by simpa using hj) (by simpa using hi) h1)

/-! ### entries -/
/-- An entry, its key as data. -/
structure Ent (K : Type) where
  a : K
  v : Value
  n : Nat
section
variable {K : Type} [DecidableEq K] (enc : K → Array Value)
def Ent.e (x : Ent K) : MapEntry := { key := .agg (enc x.a), val := x.v, born := x.n }
def mapObj (l : List (Ent K)) (c : Nat) : Obj := .map ((l.map (Ent.e enc)).toArray) c
omit [DecidableEq K] in
theorem mapObj_nil : mapObj enc [] 0 = .map #[] 0 := rfl
/-- The place of a key. -/
def placeE (a : K) : List (Ent K) → Nat → Option (Nat × Value)
  | [], _ => none
  | x :: l, i => if a = x.a then some (i, x.v) else placeE a l (i + 1)
def findE (a : K) (l : List (Ent K)) : Option Value := (l.find? fun x => decide (x.a = a)).map (·.v)
def putE (a : K) (v : Value) (c : Nat) (l : List (Ent K)) : List (Ent K) := if (findE a l).isSome then l.map fun x => if x.a = a then { x with v := v } else x else l ++ [⟨a, v, c⟩]
def putC (a : K) (c : Nat) (l : List (Ent K)) : Nat := if (findE a l).isSome then c else c + 1
def delE (a : K) (l : List (Ent K)) : List (Ent K) := l.filter fun x => !decide (x.a = a)
/-- Keys and stamps are each once, and the stamps lie below the clock. -/
def Tidy (l : List (Ent K)) (c : Nat) : Prop := (l.map (·.a)).Nodup ∧ (l.map (·.n)).Nodup ∧ ∀ x ∈ l, x.n < c
omit [DecidableEq K] in
theorem tidy_nil : Tidy ([] : List (Ent K)) 0 := ⟨List.nodup_nil, List.nodup_nil, fun _ h => by simp at h⟩
theorem placeE_find (a : K) : ∀ (l : List (Ent K)) (i : Nat), (placeE a l i).map (·.2) = findE a l
  | [], _ => rfl
  | x :: l, i => by
    unfold placeE findE
    by_cases h : a = x.a
    · rw [if_pos h]; simp [h]
    · rw [if_neg h, placeE_find a l (i + 1)]; simp [findE, Ne.symm h]
theorem placeE_spec (a : K) : ∀ (l : List (Ent K)) (i j : Nat) (v : Value), placeE a l i = some (j, v) → ∃ k x, j = i + k ∧ l[k]? = some x ∧ x.a = a ∧ x.v = v
  | [], _, _, _, h => by simp [placeE] at h
  | x :: l, i, j, v, h => by
    unfold placeE at h
    by_cases e : a = x.a
    · rw [if_pos e] at h; cases h; exact ⟨0, x, rfl, rfl, e.symm, rfl⟩
    · rw [if_neg e] at h
      obtain ⟨k, y, h1, h2, h3⟩ := placeE_spec a l (i + 1) j v h
      exact ⟨k + 1, y, by omega, by simpa using h2, h3⟩
theorem findE_some_mem {a : K} {l : List (Ent K)} {v : Value} (h : findE a l = some v) : ∃ x ∈ l, x.a = a ∧ x.v = v := by
  unfold findE at h
  cases hf : l.find? (fun x => decide (x.a = a)) with
  | none => simp [hf] at h
  | some x => simp [hf] at h; exact ⟨x, List.mem_of_find?_eq_some hf, by simpa using List.find?_some hf, h⟩
theorem findE_mem {l : List (Ent K)} (hd : (l.map (·.a)).Nodup) {x : Ent K} (hx : x ∈ l) : findE x.a l = some x.v := by
  induction l with
  | nil => simp at hx
  | cons y l ih =>
    simp only [List.map_cons, List.nodup_cons] at hd
    rcases List.mem_cons.1 hx with rfl | h
    · simp [findE]
    · have : y.a ≠ x.a := fun e => hd.1 (by rw [e]; exact List.mem_map_of_mem h)
      have := ih hd.2 h
      simp only [findE] at this ⊢
      simp [*]
theorem findE_none {a : K} {l : List (Ent K)} : findE a l = none ↔ ∀ x ∈ l, x.a ≠ a := by
  simp [findE]

/-- An array or a struct. -/
def isWide (P : Program) (T : TypeId) : Bool := match P.underlying T with
  | some (.array _ _) => true
  | some (.struct _) => true
  | _ => false
/-! ### the model's own steps -/
section
variable {P : Program} {T : TypeId} (heq : ∀ (a b : K) (w : World), (Op.equal T (.agg (enc a)) (.agg (enc b))).run P w = .ok (decide (a = b)) w)
include heq
theorem run_findAsking (w : World) (a : K) : ∀ (l : List (Ent K)) (i : Nat), (Instr.findAsking T (.agg (enc a)) (l.map (Ent.e enc)) i).run P w = .ok (placeE a l i) w
  | [], i => by simp [Instr.findAsking, placeE]
  | x :: l, i => by
    simp only [List.map_cons, Instr.findAsking, Ent.e, Sem.run_bind, heq, Result.andThen_ok, placeE]
    by_cases h : a = x.a
    · simp [h]
    · simp only [h, decide_false, Bool.false_eq_true, if_false]
      exact run_findAsking w a l (i + 1)
variable (hwide : isWide P T = true)
include hwide
theorem run_findKey (w : World) (a : K) (l : List (Ent K)) : (Instr.findKey T (.agg (enc a)) (l.map (Ent.e enc))).run P w = .ok (placeE a l 0) w := by
  rw [run_findKey_eq w (by unfold isWide at hwide; cases hu : P.underlying T with
    | none => simp [hu] at hwide
    | some d => cases d <;> simp [hu] at hwide ⊢)]; exact run_findAsking enc heq w a l 0
variable (hchk : ∀ (e : Bool) (a : K) (w : World), (Instr.checkKey e 10000 T (.agg (enc a))).run P w = .ok () w)
include hchk
variable {M E : TypeId} (hM : P.underlying M = some (.map T E))
include hM
theorem run_lookup_ent (w : World) (r : Nat) (l : List (Ent K)) (c : Nat) (h : objAt w r = some (mapObj enc l c)) (a : K) (ok : Bool) (z : Value) (hz : (zeroValue E).run P w = .ok z w) :
    (Instr.lookup M (.map (some r)) (.agg (enc a)) ok).run P w = .ok (if ok then .tuple #[(findE a l).getD z, .bool (findE a l).isSome] else (findE a l).getD z) w := by
  have hb : w.heap[r]? = some (.map ((l.map (Ent.e enc)).toArray) c) := h
  have hf := placeE_find a l 0
  have h1 := run_findKey enc heq hwide w a l
  cases hp : placeE a l 0 with
  | none =>
    rw [hp] at hf h1
    simp at hf
    simp [Instr.lookup, run_underlying hM, MapKept.run_getObj_map hb, hchk, h1, hz, ← hf]
  | some x =>
    obtain ⟨i, v⟩ := x
    rw [hp] at hf h1
    simp at hf
    simp [Instr.lookup, run_underlying hM, MapKept.run_getObj_map hb, hchk, h1, ← hf]
theorem run_delete_ent (w : World) (r : Nat) (l : List (Ent K)) (c : Nat) (h : objAt w r = some (mapObj enc l c)) (hd : (l.map (·.a)).Nodup) (a : K) (ty : TypeId) (at2 : TypeId) :
    (Builtin.delete_ #[M, at2] ty #[.map (some r), .agg (enc a)]).run P w = .ok (.tuple #[]) (World.setMap w r (mapObj enc (delE a l) c)) := by
  have hb : w.heap[r]? = some (.map ((l.map (Ent.e enc)).toArray) c) := h
  have h1 := run_findKey enc heq hwide w a l
  cases hp : placeE a l 0 with
  | none =>
    rw [hp] at h1
    have hf := placeE_find a l 0
    rw [hp] at hf
    have hn : ∀ x ∈ l, x.a ≠ a := findE_none.1 hf.symm
    have hdel : delE a l = l := by
      unfold delE; rw [List.filter_eq_self]; intro x hx; simp [hn x hx]
    simp [Builtin.delete_, run_underlying hM, MapKept.run_getObj_map hb, hchk, h1, MapKept.run_setObj_map _ hb, hdel, World.setMap, mapObj]
  | some x =>
    obtain ⟨i, v⟩ := x
    rw [hp] at h1
    obtain ⟨k, x, hk, hx, hxa, -⟩ := placeE_spec a l 0 i v hp
    obtain rfl : i = k := by omega
    have hlt := (List.getElem?_eq_some_iff.1 hx).1
    have hdel : delE a l = l.eraseIdx i := by
      clear hp h1 hb h
      induction l generalizing i with
      | nil => simp at hx
      | cons y l ih =>
        simp only [List.map_cons, List.nodup_cons] at hd
        cases i with
        | zero =>
          simp at hx; subst hx
          have : ∀ z ∈ l, z.a ≠ a := fun z hz e => hd.1 (by rw [hxa, ← e]; exact List.mem_map_of_mem hz)
          have e2 : l.filter (fun x => !decide (x.a = a)) = l := by rw [List.filter_eq_self]; intro z hz; simp [this z hz]
          simp [delE, hxa, e2]
        | succ i =>
          simp at hx
          have hya : y.a ≠ a := fun e => hd.1 (by rw [e, ← hxa]; exact List.mem_map_of_mem (List.mem_of_getElem? hx))
          have hk' : i = 0 + i := by omega
          have := ih hd.2 i hk' hx (by simpa using hlt)
          simp only [delE] at this ⊢
          simp [hya, this]
    simp [Builtin.delete_, run_underlying hM, MapKept.run_getObj_map hb, hchk, h1, MapKept.run_setObj_map _ hb, hdel, World.setMap, mapObj]
    rw [map_eraseIdx]
variable (hsame : ∀ a : K, Instr.sameBits 10000 (.agg (enc a)) (.agg (enc a)) = true)
include hsame
theorem run_update_ent (w : World) (r : Nat) (l : List (Ent K)) (c : Nat) (h : objAt w r = some (mapObj enc l c)) (hd : (l.map (·.a)).Nodup) (a : K) (v : Value) :
    (Instr.mapUpdate M (.map (some r)) (.agg (enc a)) v).run P w = .ok () (World.setMap w r (mapObj enc (putE a v c l) (putC a c l))) := by
  have hb : w.heap[r]? = some (.map ((l.map (Ent.e enc)).toArray) c) := h
  have h1 := run_findKey enc heq hwide w a l
  cases hp : placeE a l 0 with
  | none =>
    have hf := placeE_find a l 0
    rw [hp] at h1 hf
    have hf' : findE a l = none := hf.symm
    simp [Instr.mapUpdate, run_underlying hM, MapKept.run_getObj_map hb, hchk, h1, MapKept.run_setObj_map _ hb, putE, putC, hf', World.setMap, mapObj, Ent.e]
  | some x =>
    obtain ⟨i, u⟩ := x
    have hf := placeE_find a l 0
    rw [hp] at h1 hf
    have hf' : findE a l = some u := hf.symm
    obtain ⟨k, x, hk, hx, hxa, -⟩ := placeE_spec a l 0 i u hp
    obtain rfl : i = k := by omega
    have hlt := (List.getElem?_eq_some_iff.1 hx).1
    have hxl : l[i] = x := (List.getElem?_eq_some_iff.1 hx).2
    have hkey : ((((l.map (Ent.e enc)).toArray)[i]?).map (·.key)).getD (.agg (enc a)) = .agg (enc a) := by
      simp [hlt, hxl, Ent.e, hxa]
    have hput : (l.map fun x => if x.a = a then { x with v := v } else x).map (Ent.e enc) = (l.map (Ent.e enc)).modify i (fun e => { e with key := .agg (enc a), val := v }) := by
      apply List.ext_getElem (by simp)
      intro j h2 h3
      simp only [List.length_map] at h2
      rw [List.getElem_modify]
      by_cases hj : i = j
      · subst hj; simp [hxl, hxa, Ent.e]
      · have hne : l[j].a ≠ a := by
          intro e
          apply hj
          exact nodup_inj hd hlt h2 (by rw [hxl, hxa, e])
        simp [hj, hne, Ent.e]
    simp only [Instr.mapUpdate, Sem.run_bind, run_underlying hM, Result.andThen_ok, MapKept.run_getObj_map hb, hchk, h1]
    simp only [hkey, Instr.keyThatStays, hsame, if_true, Sem.run_pure, Result.andThen_ok, MapKept.run_setObj_map _ hb, putE, putC, hf', Option.isSome_some, World.setMap, mapObj, hput]
    rw [← List.modify_toArray]
end
end

/-! ### keys that are arrays of integers -/
theorem run_checkKey_ints {P : Program} (em : Bool) (d : Nat) (t e : TypeId) (n : Nat) (k : IntKind) (ht : P.underlying t = some (.array n e)) (he : P.underlying e = some (.int k)) (hsz : ∀ w, (sizeOf e).run P w = .ok 1 w)
    (xs : List Int) (hx : xs.length = n) (w : World) : (Instr.checkKey em (d + 2) t (.agg (ints k xs))).run P w = .ok () w := by
  rw [Instr.checkKey]
  simp only [Sem.run_bind, run_underlying ht, Result.andThen_ok, Std.Legacy.Range.forIn_eq_forIn_range', Std.Legacy.Range.size, Nat.sub_zero, Nat.add_sub_cancel, Nat.div_one]
  have hl : ∀ i ∈ List.range' 0 n 1, i < n := fun i hi => by simpa using (List.mem_range'_1.1 hi).2
  generalize List.range' 0 n 1 = l at hl ⊢
  induction l with
  | nil => simp
  | cons i l ih =>
    have hi : i < n := hl i (by simp)
    have px : (part e (ints k xs) (i * 1)).run P w = .ok (.int k (xs.getD i 0)) w := by
      simp [part, isAgg, run_underlying he, ints, List.getD, List.getElem?_eq_getElem (show i < xs.length by omega)]
    have pc : (Instr.checkKey em (d + 1) e (.int k (xs.getD i 0))).run P w = .ok () w := by
      rw [Instr.checkKey]; simp [run_underlying he]
    simp only [List.forIn_cons, Sem.run_bind, hsz, px, pc, Result.andThen_ok, Sem.run_pure]
    exact ih fun j hj => hl j (by simp [hj])
theorem sameBits_ints (d : Nat) (k : IntKind) (xs : List Int) : Instr.sameBits (d + 1) (.agg (ints k xs)) (.agg (ints k xs)) = true := by
  simp only [Instr.sameBits, ints, List.toList_toArray, beq_self_eq_true, Bool.true_and, List.all_eq_true]
  intro p hp
  have : p.1 = p.2 ∧ p.1 ∈ xs.map (Value.int k) := by
    have h1 := List.of_mem_zip hp
    refine ⟨?_, h1.1⟩
    obtain ⟨i, hi, hpi⟩ := List.getElem_of_mem hp
    rw [List.getElem_zip] at hpi
    rw [← hpi]
  obtain ⟨h1, h2⟩ := this
  obtain ⟨x, _, hx⟩ := List.mem_map.1 h2
  obtain ⟨p1, p2⟩ := p
  simp only at h1 hx ⊢
  subst h1; subst hx
  cases d <;> simp [Instr.sameBits]
end Go.Proofs.Ytadafohgglnneaa
/- What a call leaves as it was, but for the blocks of a set. No condition. -/
namespace Go.Proofs.Ytadafohgglnneaa
open Go.RowKit
/-- But for the blocks of M what lay in w is as it was. -/
structure Kept (M : Nat → Prop) (w w' : World) : Prop where
  os : w'.os = w.os
  tape : w'.tape = w.tape
  output : w'.output = w.output
  size : w.heap.size ≤ w'.heap.size
  block : ∀ k, k < w.heap.size → ¬ M k → w'.heap[k]? = w.heap[k]?
theorem Kept.refl (M : Nat → Prop) (w : World) : Kept M w w := ⟨rfl, rfl, rfl, Nat.le_refl _, fun _ _ _ => rfl⟩
theorem Kept.trans {M : Nat → Prop} {a b c : World} (h : Kept M a b) (k : Kept M b c) : Kept M a c :=
  ⟨k.os.trans h.os, k.tape.trans h.tape, k.output.trans h.output, Nat.le_trans h.size k.size, fun i hi hm => (k.block i (Nat.lt_of_lt_of_le hi h.size) hm).trans (h.block i hi hm)⟩
theorem Kept.mono {M N : Nat → Prop} {w w' : World} (h : Kept M w w') (hm : ∀ b, b < w.heap.size → M b → N b) : Kept N w w' :=
  ⟨h.os, h.tape, h.output, h.size, fun k hk hn => h.block k hk fun m => hn (hm k hk m)⟩
theorem Kept.of_below {M : Nat → Prop} {w w' : World} (h : Below w.heap.size w w') : Kept M w w' := ⟨h.os, h.tape, h.output, h.size, fun k hk _ => h.block k hk⟩
theorem Kept.below {M : Nat → Prop} {w w' : World} (h : Kept M w w') (B : Nat) (hB : B ≤ w.heap.size) (hm : ∀ b, b < B → ¬ M b) : Below B w w' := ⟨h.os, h.tape, h.output, h.size, fun k hk => h.block k (by omega) (hm k hk)⟩
theorem Kept.alloc {M : Nat → Prop} {a w : World} (h : Kept M a w) (o : Obj) : Kept M a (w.alloc o) := h.trans (.of_below (bel_alloc (Below.refl _ _) o))
theorem Kept.drewN {M : Nat → Prop} {a w : World} (h : Kept M a w) (n : Nat) : Kept M a (w.drewN n) := h.trans (.of_below (bel_drewN (Below.refl _ _) n))
theorem Kept.drew {M : Nat → Prop} {a w : World} (h : Kept M a w) : Kept M a w.drew := h.trans (.of_below (bel_drew (Below.refl _ _)))
theorem Kept.bel {M : Nat → Prop} {a w w' : World} (h : Kept M a w) (hb : Below w.heap.size w w') : Kept M a w' := h.trans (.of_below hb)
theorem Kept.setMap {M : Nat → Prop} {a w : World} (h : Kept M a w) (r : Nat) (o : Obj) (hr : M r ∨ a.heap.size ≤ r) : Kept M a (World.setMap w r o) :=
  ⟨h.os, h.tape, h.output, by simp; exact h.size, fun k hk hm => by
    have hne : k ≠ r := by rintro rfl; rcases hr with hr | hr; exact hm hr; omega
    have := objAt_setMap_other w r k o hne
    simp only [objAt] at this
    rw [this]; exact h.block k hk hm⟩
theorem Kept.setCell {M : Nat → Prop} {a w : World} (h : Kept M a w) (p : Addr) (v : Value) (hr : M p.block ∨ a.heap.size ≤ p.block) : Kept M a (w.setCell p v) :=
  ⟨h.os, h.tape, h.output, by simp; exact h.size, fun k hk hm => by
    have hne : k ≠ p.block := by rintro rfl; rcases hr with hr | hr; exact hm hr; omega
    rw [Below.heap_setCell _ _ _ _ hne]; exact h.block k hk hm⟩
theorem Kept.setSeg {M : Nat → Prop} {a w : World} (h : Kept M a w) (b o : Nat) (vs : List Value) (hr : M b ∨ a.heap.size ≤ b) : Kept M a (World.setSeg w b o vs) :=
  ⟨h.os, h.tape, h.output, by simp; exact h.size, fun k hk hm => by
    have hne : k ≠ b := by rintro rfl; rcases hr with hr | hr; exact hm hr; omega
    rw [setSeg_block_ne _ _ _ _ _ hne]; exact h.block k hk hm⟩
theorem Kept.row {M : Nat → Prop} {w w' : World} (h : Kept M w w') (b : Nat) (hb : b < w.heap.size) (hm : ¬ M b) : rowOf w' b = rowOf w b := by simp only [rowOf, h.block b hb hm]
theorem Kept.isRow {M : Nat → Prop} {w w' : World} (h : Kept M w w') (b : Nat) (hb : b < w.heap.size) (hm : ¬ M b) : Ytadafohgglnneaa.isRow w' b = Ytadafohgglnneaa.isRow w b := by simp only [Ytadafohgglnneaa.isRow, h.block b hb hm]
theorem Kept.rowFr {M : Nat → Prop} {w w' : World} (h : Kept M w w') (b : Nat) (hb : b < w.heap.size) (hm : ¬ M b) : Ytadafohgglnneaa.rowFr w' b = Ytadafohgglnneaa.rowFr w b := by simp only [Ytadafohgglnneaa.rowFr, h.block b hb hm]
theorem Kept.obj {M : Nat → Prop} {w w' : World} (h : Kept M w w') (b : Nat) (hb : b < w.heap.size) (hm : ¬ M b) : objAt w' b = objAt w b := h.block b hb hm
theorem bel_kept {M : Nat → Prop} {W a b : World} (h : Below W.heap.size W a) (k : Kept M a b) (hm : ∀ x, x < W.heap.size → ¬ M x) : Below W.heap.size W b := h.trans (k.below _ h.size hm)
theorem AccIn.kept {S M : Nat → Prop} {w w' : World} {row : Array Value} {x : Acc} (h : AccIn S w row x) (k : Kept M w w') (hs : ∀ b, S b → ¬ M b) : AccIn S w' row x := h.same fun b hb hS => k.block b hb (hs b hS)
theorem AccsAt.kept {S M : Nat → Prop} {w w' : World} {v : Value} {xs : List Acc} (h : AccsAt S w v xs) (k : Kept M w w') (hs : ∀ b, S b → ¬ M b) : AccsAt S w' v xs := h.same fun b hb hS => k.block b hb (hs b hS)
end Go.Proofs.Ytadafohgglnneaa
/- What appending makes of a row that one has oneself: the row itself, or a new one. No condition. -/
namespace Go.Proofs.Ytadafohgglnneaa
open Go.RowKit
theorem run_append_mine {P : Program} {w : World} (base : Nat) (t ty e : TypeId) (i : TypeInfo) (z : Value) (size bytes : Nat) (ht : P.underlying t = some (.slice e)) (hi : P.info? e = some i) (hz : i.zero = some z)
    (hsize : i.size = size) (hby : i.bytes = bytes) (hzs : z.cells.size = size) (hsz : 0 < size)
    (v : Value) (n : Nat) (xs : List Value) (hown : w.ownsRow base e size v n xs)
    (a : Addr) (m c : Nat) (news : List Value) (hm0 : 0 < m) (hl : news.length = m * size) (hnews : ∀ j u, news[j]? = some u → w.cell? (a.add j) = some u) (h1 : ∀ u ∈ news, u.oneCell' = true)
    (h63 : n + m ≤ maxLen) (hbytes : (n + m) * bytes ≤ 140737488355328) (hbase : base ≤ w.heap.size) :
    ∃ v' w', (Builtin.append_ #[t, t] ty #[v, .slice (some a) m c]).run P w = .ok v' w' ∧ w'.ownsRow base e size v' (n + m) (xs ++ news) ∧ w.grownBy w' v.ownBlock ∧
      ∃ g' c', v' = .slice (some ⟨g', 0, none⟩) (n + m) c' ∧ (v.ownBlock = some g' ∨ w.heap.size ≤ g') := by
  obtain ⟨hlen, hv⟩ := hown
  rcases hv with ⟨rfl, rfl⟩ | ⟨g, cap, cur, rfl, hb, hg, hn, hm, hs, htk⟩
  · obtain rfl : xs = [] := List.eq_nil_of_length_eq_zero (by simpa using hlen)
    obtain ⟨v', w', hrun, r1, r2, r3⟩ := run_append_own (P := P) w w.heap.size t ty e i z size bytes ht hi hz hsize hby hzs hsz (.slice none 0 0) 0 [] (World.ownsRow_nil w _ e size) a m c news hl hnews h1 h63 hbytes (Nat.le_refl _)
    refine ⟨v', w', hrun, ?_, r2, ?_⟩
    · obtain ⟨p1, p2⟩ := r1
      exact ⟨p1, p2.imp id fun ⟨g, cap, cur, q1, q2, q3⟩ => ⟨g, cap, cur, q1, by omega, q3⟩⟩
    · obtain ⟨p1, p2⟩ := r1
      rcases p2 with ⟨p2, p3⟩ | ⟨g, cap, cur, q1, q2, q3⟩
      · omega
      · exact ⟨g, cap, q1, .inr q2⟩
  · by_cases hroom : n + m ≤ cap
    · obtain ⟨v', w', hrun, r1, r2, r3⟩ := run_append_own (P := P) w base t ty e i z size bytes ht hi hz hsize hby hzs hsz (.slice (some ⟨g, 0, none⟩) n cap) n xs ⟨hlen, .inr ⟨g, cap, cur, rfl, hb, hg, hn, hm, hs, htk⟩⟩ a m c news hl hnews h1 h63 hbytes hbase
      have hrun2 := run_append_room_cells (P := P) w t ty e i ht hi g 0 n cap a m c news (by rw [hsize]; exact hl) hnews h1 hroom
        (fun j hj => by
          have : n * size + j < cur.size := by
            rw [hs]
            have := Nat.mul_le_mul_right size hroom
            rw [Nat.add_mul] at this; omega
          rw [hsize]
          simp only [World.cell?, hg, Nat.zero_add]
          simp [this])
        (fun j hj => by simp [World.frozen?, hg])
      rw [hrun] at hrun2
      cases hrun2
      exact ⟨_, _, hrun, r1, r2, g, cap, rfl, .inl rfl⟩
    · have holds : ∀ j u, xs[j]? = some u → w.cell? ((⟨g, 0, none⟩ : Addr).add j) = some u := by
        intro j u hu
        rw [← htk, List.getElem?_take] at hu
        split at hu
        · simp only [Addr.add_lit, World.cell?, hg, Nat.zero_add]
          simpa using hu
        · simp at hu
      obtain ⟨v', w', hrun, r1, r2⟩ := run_append_arg_grows (P := P) w t ty e i z size bytes ht hi hz hsize hby hzs hsz ⟨g, 0, none⟩ n cap xs hlen holds a m c news hl hnews (by omega) h63 hbytes
      refine ⟨v', w', hrun, ?_, ⟨r2.os, r2.tape, r2.output, r2.size, fun k hk _ => r2.block k hk (by simp)⟩, ?_⟩
      · obtain ⟨p1, p2⟩ := r1
        exact ⟨p1, p2.imp id fun ⟨g, cap, cur, q1, q2, q3⟩ => ⟨g, cap, cur, q1, by omega, q3⟩⟩
      · obtain ⟨p1, p2⟩ := r1
        rcases p2 with ⟨p2, p3⟩ | ⟨g, cap, cur, q1, q2, q3⟩
        · omega
        · exact ⟨g, cap, q1, .inr q2⟩
/-- The same, as one step of a region that draws its order. -/
theorem step_append_mine {P : Program} {ops : Array Oper} {o : Oper} {a : Act} {w : World} {K : Act → World → Prop} {Q : Exit → Act → World → Prop} {E : Prop}
    (hg : o.guard = none) (s x : Operand) (t : TypeId) (hop : o.op = Op.call { callee := Callee.builtin Builtin.append, args := #[s, x], argTypes := #[t, t] })
    (base : Nat) (e : TypeId) (i : TypeInfo) (z : Value) (size bytes : Nat) (ht : P.underlying t = some (.slice e)) (hi : P.info? e = some i) (hz : i.zero = some z)
    (hsize : i.size = size) (hby : i.bytes = bytes) (hzs : z.cells.size = size) (hsz : 0 < size)
    (v : Value) (n : Nat) (xs : List Value) (hs : a.eval s = v) (hown : w.ownsRow base e size v n xs)
    (ad : Addr) (m c : Nat) (news : List Value) (hm0 : 0 < m) (hx : a.eval x = .slice (some ad) m c) (hl : news.length = m * size) (hnews : ∀ j u, news[j]? = some u → w.cell? (ad.add j) = some u) (h1 : ∀ u ∈ news, u.oneCell' = true)
    (h63 : n + m ≤ maxLen) (hbytes : (n + m) * bytes ≤ 140737488355328) (hbase : base ≤ w.heap.size)
    (hK : ∀ g' c' w', w'.ownsRow base e size (.slice (some ⟨g', 0, none⟩) (n + m) c') (n + m) (xs ++ news) → w.grownBy w' v.ownBlock → (v.ownBlock = some g' ∨ w.heap.size ≤ g') → K (a.put o.dst (.slice (some ⟨g', 0, none⟩) (n + m) c')) w') :
    if Region.wanted o (yielded ops a.tmps) = true then Oper.wp P o a w K Q else E := by
  have hw : Region.wanted o (yielded ops a.tmps) = true := by simp [Region.wanted, hg]
  rw [if_pos hw]
  obtain ⟨v', w', hrun, r1, r2, g', c', rfl, r3⟩ := run_append_mine (P := P) base t o.type e i z size bytes ht hi hz hsize hby hzs hsz v n xs hown ad m c news hm0 hl hnews h1 h63 hbytes hbase
  unfold Oper.wp
  simp [execOp, hop, resolve, invoke, builtin, hs, hx, hrun, Result.andThen]
  exact hK _ _ _ r1 r2 r3
/-- The same, in a row of operations. -/
theorem wpList_append_mine {P : Program} {ops : Array Oper} {rest : List Oper} {o : Oper} {a : Act} {w : World} {Q : Exit → Act → World → Prop} (hgd : o.guard = none) (s x : Operand) (t : TypeId)
    (hop : o.op = .call { callee := .builtin .append, args := #[s, x], argTypes := #[t, t] })
    (base : Nat) (e : TypeId) (i : TypeInfo) (z : Value) (size bytes : Nat) (ht : P.underlying t = some (.slice e)) (hi : P.info? e = some i) (hz : i.zero = some z)
    (hsize : i.size = size) (hby : i.bytes = bytes) (hzs : z.cells.size = size) (hsz : 0 < size)
    (v : Value) (n : Nat) (xs : List Value) (hs : a.eval s = v) (hown : w.ownsRow base e size v n xs)
    (ad : Addr) (m c : Nat) (news : List Value) (hm0 : 0 < m) (hx : a.eval x = .slice (some ad) m c) (hl : news.length = m * size) (hnews : ∀ j u, news[j]? = some u → w.cell? (ad.add j) = some u) (h1 : ∀ u ∈ news, u.oneCell' = true)
    (h63 : n + m ≤ maxLen) (hbytes : (n + m) * bytes ≤ 140737488355328) (hbase : base ≤ w.heap.size)
    (hK : ∀ g' c' w', w'.ownsRow base e size (.slice (some ⟨g', 0, none⟩) (n + m) c') (n + m) (xs ++ news) → w.grownBy w' v.ownBlock → (v.ownBlock = some g' ∨ w.heap.size ≤ g') → wpList P ops Q rest (a.put o.dst (.slice (some ⟨g', 0, none⟩) (n + m) c')) w') :
    wpList P ops Q (o :: rest) a w := by
  obtain ⟨v', w', hrun, r1, r2, g', c', rfl, r3⟩ := run_append_mine (P := P) base t o.type e i z size bytes ht hi hz hsize hby hzs hsz v n xs hown ad m c news hm0 hl hnews h1 h63 hbytes hbase
  refine wpList_plain hgd fun _ hKK => ?_
  unfold Oper.wp
  simp [execOp, hop, resolve, invoke, builtin, hs, hx, hrun, Result.andThen]
  exact hKK _ _ (hK _ _ _ r1 r2 r3)
end Go.Proofs.Ytadafohgglnneaa
