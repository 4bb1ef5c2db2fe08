/- The laws of memory rows that this seat's walks use: words, addresses, accounts as opaque rows of cells; whole-row loads and stores; equality of arrays of integers. No condition. -/
import Derived.WalkKit
import Derived.WalkSpells
import Derived.WalkLawsBesides
import Derived.Deep.QuietTactic
import Derived.BigQuiet
import Derived.Lib.Hide
import Derived.Lib.QuietBelow
namespace Go.Proofs.Ytadafohgglnneaa
open Go.RowKit

/-! ### small numbers (so that no side goal of the walk wants a side goal) -/
@[go_sem] theorem n_lt1 (n : Nat) : (n < n + 1) = True := eq_true (by omega)
@[go_sem] theorem n_le1 (n : Nat) : (n ≤ n + 1) = True := eq_true (by omega)
@[go_sem] theorem n_lt2 (n : Nat) : (n < n + 1 + 1) = True := eq_true (by omega)
@[go_sem] theorem n_le2 (n : Nat) : (n ≤ n + 1 + 1) = True := eq_true (by omega)
@[go_sem] theorem n_lt3 (n : Nat) : (n < n + 1 + 1 + 1) = True := eq_true (by omega)
@[go_sem] theorem n_le3 (n : Nat) : (n ≤ n + 1 + 1 + 1) = True := eq_true (by omega)
@[go_sem] theorem n_lt4 (n : Nat) : (n < n + 1 + 1 + 1 + 1) = True := eq_true (by omega)
@[go_sem] theorem n_le4 (n : Nat) : (n ≤ n + 1 + 1 + 1 + 1) = True := eq_true (by omega)
@[go_sem] theorem n_lt5 (n : Nat) : (n < n + 1 + 1 + 1 + 1 + 1) = True := eq_true (by omega)
@[go_sem] theorem n_le5 (n : Nat) : (n ≤ n + 1 + 1 + 1 + 1 + 1) = True := eq_true (by omega)
@[go_sem] theorem n_lt6 (n : Nat) : (n < n + 1 + 1 + 1 + 1 + 1 + 1) = True := eq_true (by omega)
@[go_sem] theorem n_le6 (n : Nat) : (n ≤ n + 1 + 1 + 1 + 1 + 1 + 1) = True := eq_true (by omega)
@[go_sem] theorem n_lt7 (n : Nat) : (n < n + 1 + 1 + 1 + 1 + 1 + 1 + 1) = True := eq_true (by omega)
@[go_sem] theorem n_le7 (n : Nat) : (n ≤ n + 1 + 1 + 1 + 1 + 1 + 1 + 1) = True := eq_true (by omega)
@[go_sem] theorem n_lt8 (n : Nat) : (n < n + 1 + 1 + 1 + 1 + 1 + 1 + 1 + 1) = True := eq_true (by omega)
@[go_sem] theorem n_le8 (n : Nat) : (n ≤ n + 1 + 1 + 1 + 1 + 1 + 1 + 1 + 1) = True := eq_true (by omega)
@[go_sem] theorem n_lt9 (n : Nat) : (n < n + 1 + 1 + 1 + 1 + 1 + 1 + 1 + 1 + 1) = True := eq_true (by omega)
@[go_sem] theorem n_le9 (n : Nat) : (n ≤ n + 1 + 1 + 1 + 1 + 1 + 1 + 1 + 1 + 1) = True := eq_true (by omega)
@[go_sem] theorem n_lt10 (n : Nat) : (n < n + 1 + 1 + 1 + 1 + 1 + 1 + 1 + 1 + 1 + 1) = True := eq_true (by omega)
@[go_sem] theorem n_le10 (n : Nat) : (n ≤ n + 1 + 1 + 1 + 1 + 1 + 1 + 1 + 1 + 1 + 1) = True := eq_true (by omega)
@[go_sem] theorem n_lt11 (n : Nat) : (n < n + 1 + 1 + 1 + 1 + 1 + 1 + 1 + 1 + 1 + 1 + 1) = True := eq_true (by omega)
@[go_sem] theorem n_le11 (n : Nat) : (n ≤ n + 1 + 1 + 1 + 1 + 1 + 1 + 1 + 1 + 1 + 1 + 1) = True := eq_true (by omega)
@[go_sem] theorem n_lt12 (n : Nat) : (n < n + 1 + 1 + 1 + 1 + 1 + 1 + 1 + 1 + 1 + 1 + 1 + 1) = True := eq_true (by omega)
@[go_sem] theorem n_le12 (n : Nat) : (n ≤ n + 1 + 1 + 1 + 1 + 1 + 1 + 1 + 1 + 1 + 1 + 1 + 1) = True := eq_true (by omega)
/-! ### rows -/
/-- The cells of a block. -/
def rowOf (w : World) (b : Nat) : Array Value := match w.heap[b]? with | some (.cells c _ _) => c | _ => #[]
def isRow (w : World) (b : Nat) : Bool := match w.heap[b]? with | some (.cells _ _ _) => true | _ => false
def rowFr (w : World) (b : Nat) : Nat × Nat := match w.heap[b]? with | some (.cells _ _ f) => f | _ => (0, 0)

theorem cell_row (w : World) (b o : Nat) : w.cell? ⟨b, o, none⟩ = (rowOf w b)[o]? := by
  unfold World.cell? rowOf
  cases h : w.heap[b]? with
  | none => simp
  | some x => cases x <;> simp

@[go_sem] theorem rowOf_alloc_at (w : World) (c : Array Value) (t : TypeId) (n : Nat) (hn : n = w.heap.size) : rowOf (w.alloc (.cells c t)) n = c := by
  subst hn; simp only [rowOf, heap_alloc_new]
@[go_sem] theorem rowOf_alloc_past (w : World) (x : Obj) (n : Nat) (hn : n < w.heap.size) : rowOf (w.alloc x) n = rowOf w n := by
  simp only [rowOf, heap_alloc_old w x hn]
@[go_sem] theorem rowOf_drew (w : World) (n : Nat) : rowOf w.drew n = rowOf w n := rfl
@[go_sem] theorem rowOf_drewN (w : World) (k n : Nat) : rowOf (w.drewN k) n = rowOf w n := rfl
@[go_sem] theorem isRow_alloc_at (w : World) (c : Array Value) (t : TypeId) (n : Nat) (hn : n = w.heap.size) : isRow (w.alloc (.cells c t)) n = true := by
  subst hn; simp only [isRow, heap_alloc_new]
@[go_sem] theorem isRow_alloc_past (w : World) (x : Obj) (n : Nat) (hn : n < w.heap.size) : isRow (w.alloc x) n = isRow w n := by
  simp only [isRow, heap_alloc_old w x hn]
@[go_sem] theorem isRow_drew (w : World) (n : Nat) : isRow w.drew n = isRow w n := rfl
@[go_sem] theorem isRow_drewN (w : World) (k n : Nat) : isRow (w.drewN k) n = isRow w n := rfl
theorem isRow_lt {w : World} {b : Nat} (h : isRow w b = true) : b < w.heap.size := by
  rcases Nat.lt_or_ge b w.heap.size with h' | h'
  · exact h'
  · simp [isRow, Array.getElem?_eq_none h'] at h
theorem rowOf_lt {w : World} {b : Nat} (h : 0 < (rowOf w b).size) : b < w.heap.size := by
  rcases Nat.lt_or_ge b w.heap.size with h' | h'
  · exact h'
  · simp [rowOf, Array.getElem?_eq_none h'] at h

/-! ### a whole row (or a part of one) loaded -/
def loadRow (a : Addr) (n : Nat) : Sem (Array Value) := loadCells a n
@[go_sem ↓] theorem loadCells_row (a : Addr) (n : Nat) : loadCells a n = loadRow a n := rfl
section
variable {P : Program} (w : World)
@[go_sem] theorem run_loadRow (b o n : Nat) (h : o + n ≤ (rowOf w b).size) : (loadRow ⟨b, o, none⟩ n).run P w = .ok ((rowOf w b).extract o (o + n)) w := by
  have hl := run_loadCells_list (P := P) w ⟨b, o, none⟩ ((rowOf w b).extract o (o + n)).toList (fun j v hv => by
    have hadd : (⟨b, o, none⟩ : Addr).add j = ⟨b, o + j, none⟩ := Addr.add_lit b o j
    rw [hadd, cell_row]
    have hj : j < ((rowOf w b).extract o (o + n)).size := by
      have := (List.getElem?_eq_some_iff.1 hv).1
      rwa [Array.length_toList] at this
    rw [Array.getElem?_toList, Array.getElem?_extract] at hv
    rw [Array.size_extract] at hj
    rw [if_pos (by omega)] at hv
    exact hv)
  have hs : ((rowOf w b).extract o (o + n)).toList.length = n := by simp; omega
  rw [hs] at hl
  unfold loadRow
  rw [hl, Array.toArray_toList]
end

/-! ### a whole row (or a part of one) stored -/
/-- Cells written over a row from o on. -/
def putSeg (c : Array Value) (o : Nat) (vs : List Value) : Array Value := match vs with
  | [] => c
  | v :: rest => putSeg (c.setIfInBounds o v) (o + 1) rest
theorem putSeg_size (vs : List Value) : ∀ (c : Array Value) (o : Nat), (putSeg c o vs).size = c.size := by
  induction vs with
  | nil => intro c o; rfl
  | cons v vs ih => intro c o; simp [putSeg, ih]
theorem putSeg_get (vs : List Value) : ∀ (c : Array Value) (o i : Nat), o + vs.length ≤ c.size → (putSeg c o vs)[i]? = if o ≤ i ∧ i < o + vs.length then vs[i - o]? else c[i]? := by
  induction vs with
  | nil => intro c o i h; simp [putSeg]; intro h1 h2; omega
  | cons v vs ih =>
    intro c o i h
    simp only [List.length_cons] at h
    rw [putSeg, ih _ _ _ (by simp; omega)]
    by_cases h1 : o + 1 ≤ i ∧ i < o + 1 + vs.length
    · rw [if_pos h1, if_pos ⟨by omega, by simp only [List.length_cons]; omega⟩]
      have e : i - o = (i - (o + 1)) + 1 := by omega
      rw [e, List.getElem?_cons_succ]
    · rw [if_neg h1]
      by_cases h2 : i = o
      · subst h2
        rw [if_pos ⟨by omega, by simp only [List.length_cons]; omega⟩, Array.getElem?_setIfInBounds, if_pos rfl, if_pos (by omega), Nat.sub_self]; rfl
      · rw [if_neg (by simp only [List.length_cons]; omega), Array.getElem?_setIfInBounds, if_neg (by omega)]
@[go_sem] theorem putSeg_all (c d : Array Value) (h : d.size = c.size) : putSeg c 0 d.toList = d := by
  apply Array.ext_getElem?
  intro i
  rw [putSeg_get _ _ _ _ (by simp; omega)]
  by_cases hi : i < d.size
  · rw [if_pos ⟨by omega, by simp; omega⟩]; simp
  · rw [if_neg (by simp; omega), Array.getElem?_eq_none (by omega), Array.getElem?_eq_none (by omega)]

@[go_sem, simp] theorem putSeg_size' (c : Array Value) (o : Nat) (vs : List Value) : (putSeg c o vs).size = c.size := putSeg_size vs c o
theorem fold_list (k : Nat) : ∀ (xs : List Value) (j : Nat) (c : Array Value), (xs.zipIdx j).foldl (fun cs (x : Value × Nat) => cs.setIfInBounds (k + x.snd) x.fst) c = putSeg c (k + j) xs
  | [], _, _ => rfl
  | x :: xs, j, c => by
    simp only [List.zipIdx_cons, List.foldl_cons, putSeg]
    rw [fold_list k xs (j + 1)]; rfl
@[go_sem] theorem fold_put (c xs : Array Value) (n k : Nat) (h : xs.size = n) : Array.foldl (fun cs (x : Value × Nat) => cs.setIfInBounds (k + x.snd) x.fst) c xs.zipIdx 0 n = putSeg c k xs.toList := by
  have hn : n = xs.zipIdx.size := by simp [h]
  rw [hn, ← Array.foldl_toList, Array.toList_zipIdx]
  exact fold_list k xs.toList 0 c
@[go_sem] theorem fold_put0 (c xs : Array Value) (n : Nat) (h : xs.size = n) : Array.foldl (fun cs (x : Value × Nat) => cs.setIfInBounds x.snd x.fst) c xs.zipIdx 0 n = putSeg c 0 xs.toList := by
  have := fold_put c xs n 0 h
  simpa using this
theorem putSeg_mid (p q r : Array Value) (vs : List Value) (o : Nat) (ho : p.size = o) (h : q.size = vs.length) : putSeg (p ++ (q ++ r)) o vs = p ++ (vs.toArray ++ r) := by
  subst ho
  apply Array.ext_getElem?
  intro i
  rw [putSeg_get _ _ _ _ (by simp only [Array.size_append]; omega)]
  by_cases h1 : i < p.size
  · rw [if_neg (by omega), Array.getElem?_append_left h1, Array.getElem?_append_left h1]
  · have h1' : p.size ≤ i := by omega
    rw [Array.getElem?_append_right h1', Array.getElem?_append_right h1']
    by_cases h2 : i - p.size < vs.length
    · rw [if_pos ⟨by omega, by omega⟩, Array.getElem?_append_left (by simpa using h2)]; simp
    · rw [if_neg (by omega), Array.getElem?_append_right (by omega), Array.getElem?_append_right (by simp only [List.size_toArray]; omega)]
      simp [h]
/-- One zero value laid: itself. -/
@[go_sem ↓] theorem range_map_self (z : Array Value) (n : Nat) (h : z.size = n) : (Array.range n).map (fun x => z[x % z.size]!) = z := by
  subst h
  apply Array.ext_getElem?
  intro i
  by_cases hi : i < z.size
  · simp [hi, Nat.mod_eq_of_lt hi]
  · simp [hi]
/-- Each of these is the value of one cell. -/
def ones (vs : Array Value) : Bool := vs.toList.all (·.oneCell')
theorem ones_of {vs : Array Value} (h : ∀ v ∈ vs, v.oneCell' = true) : ones vs = true := by
  simp only [ones, List.all_eq_true]; intro v hv; exact h v (by simpa using hv)
theorem ones_mem {vs : Array Value} (h : ones vs = true) : ∀ v ∈ vs, v.oneCell' = true := by
  simp only [ones, List.all_eq_true] at h; intro v hv; exact h v (by simpa using hv)
@[go_sem] theorem one_slice (p : Option Addr) (n c : Nat) : (Value.slice p n c).oneCell' = true := rfl
@[go_sem] theorem one_int (k : IntKind) (n : Int) : (Value.int k n).oneCell' = true := rfl
@[go_sem] theorem one_bool (b : Bool) : (Value.bool b).oneCell' = true := rfl
@[go_sem] theorem one_pointer (p : Option Addr) : (Value.pointer p).oneCell' = true := rfl
@[go_sem] theorem one_map (r : Option Nat) : (Value.map r).oneCell' = true := rfl
theorem ones_append (a b : Array Value) : ones (a ++ b) = (ones a && ones b) := by simp [ones]
/-- The world with cells written over block b from o on. -/
def World.setSeg (w : World) (b o : Nat) (vs : List Value) : World := { w with heap := w.heap.modify b fun | .cells c e f => .cells (putSeg c o vs) e f | x => x }
def storeRow (a : Addr) (vs : List Value) (i : Nat) : Sem Unit := storeCells a vs i
@[go_sem ↓] theorem storeCells_row (a : Addr) (vs : Array Value) (i : Nat) : storeCells a vs.toList i = storeRow a vs.toList i := rfl
theorem setSeg_nil (w : World) (b o : Nat) : World.setSeg w b o [] = w := by
  unfold World.setSeg
  have : w.heap.modify b (fun | .cells c e f => .cells (putSeg c o []) e f | x => x) = w.heap := by
    apply Array.ext_getElem?
    intro i
    rw [Array.getElem?_modify]
    by_cases h : b = i
    · subst h; rw [if_pos rfl]; cases w.heap[b]? with
      | none => rfl
      | some x => cases x <;> rfl
    · rw [if_neg h]
  rw [this]
theorem setSeg_cons (w : World) (b o : Nat) (v : Value) (vs : List Value) : World.setSeg (w.setCell ⟨b, o, none⟩ v) b (o + 1) vs = World.setSeg w b o (v :: vs) := by
  unfold World.setSeg World.setCell
  congr 1
  apply Array.ext_getElem?
  intro i
  simp only [Array.getElem?_modify]
  by_cases h : b = i
  · subst h; simp only [if_true]; cases w.heap[b]? with
    | none => rfl
    | some x => cases x <;> rfl
  · simp only [if_neg h]
theorem run_storeRow {P : Program} (b : Nat) (vs : List Value) : ∀ (w : World) (o i : Nat), isRow w b = true → rowFr w b = (0, 0) → o + i + vs.length ≤ (rowOf w b).size → (∀ v ∈ vs, v.oneCell' = true) →
    (storeCells ⟨b, o, none⟩ vs i).run P w = .ok () (World.setSeg w b (o + i) vs) := by
  induction vs with
  | nil => intro w o i _ _ _ _; simp [storeCells, setSeg_nil]
  | cons v vs ih =>
    intro w o i hr hf hs h1
    have hadd : (⟨b, o, none⟩ : Addr).add i = ⟨b, o + i, none⟩ := Addr.add_lit b o i
    have hb : ∃ c e, w.heap[b]? = some (.cells c e (0, 0)) := by
      unfold isRow at hr; unfold rowFr at hf
      cases hh : w.heap[b]? with
      | none => simp [hh] at hr
      | some x => cases x <;> simp [hh] at hr hf; subst hf; exact ⟨_, _, rfl⟩
    obtain ⟨c, e, hb⟩ := hb
    have hrow : rowOf w b = c := by simp [rowOf, hb]
    rw [hrow] at hs
    simp only [List.length_cons] at hs
    have hcell : ∃ u, w.cell? ⟨b, o + i, none⟩ = some u := by
      rw [cell_row, hrow]; exact ⟨_, Array.getElem?_eq_getElem (by omega)⟩
    obtain ⟨u, hcell⟩ := hcell
    have hfz : w.frozen? ⟨b, o + i, none⟩ = false := by simp [World.frozen?, hb]
    simp only [storeCells, hadd, Sem.run_bind, run_store P w _ v .plain (h1 v (by simp)), hcell, hfz, Bool.false_eq_true, if_false, Result.andThen_ok]
    have hb' : (w.setCell ⟨b, o + i, none⟩ v).heap[b]? = some (.cells (c.setIfInBounds (o + i) v) e (0, 0)) := by
      simp [World.setCell, Array.getElem?_modify, hb]
    rw [ih (w.setCell ⟨b, o + i, none⟩ v) o (i + 1) (by simp [isRow, hb']) (by simp [rowFr, hb']) (by simp [rowOf, hb']; omega) (fun x hx => h1 x (by simp [hx]))]
    rw [← Nat.add_assoc, setSeg_cons]
@[go_sem] theorem run_storeRow' {P : Program} (w : World) (b o : Nat) (vs : Array Value) (hr : isRow w b = true) (hf : rowFr w b = (0, 0)) (hs : o + vs.size ≤ (rowOf w b).size) (h1 : ones vs = true) :
    (storeRow ⟨b, o, none⟩ vs.toList 0).run P w = .ok () (World.setSeg w b o vs.toList) := by
  unfold storeRow
  rw [run_storeRow b vs.toList w o 0 hr hf (by simpa using hs) (fun v hv => ones_mem h1 v (by simpa using hv))]
  rfl
@[go_sem] theorem storeRow_one (a : Addr) (v : Value) : storeRow a [v] 0 = store a v := by
  simp [storeRow, storeCells, Addr.add]
@[go_sem] theorem rowFr_alloc_at (w : World) (c : Array Value) (t : TypeId) (n : Nat) (hn : n = w.heap.size) : rowFr (w.alloc (.cells c t)) n = (0, 0) := by
  subst hn; simp only [rowFr, heap_alloc_new]
@[go_sem] theorem rowFr_alloc_past (w : World) (x : Obj) (n : Nat) (hn : n < w.heap.size) : rowFr (w.alloc x) n = rowFr w n := by
  simp only [rowFr, heap_alloc_old w x hn]
@[go_sem] theorem rowFr_drew (w : World) (n : Nat) : rowFr w.drew n = rowFr w n := rfl
@[go_sem] theorem rowFr_drewN (w : World) (k n : Nat) : rowFr (w.drewN k) n = rowFr w n := rfl
theorem frozen_row (w : World) (b o : Nat) (h : rowFr w b = (0, 0)) : w.frozen? ⟨b, o, none⟩ = false := by
  unfold World.frozen? ; unfold rowFr at h
  cases hh : w.heap[b]? with
  | none => rfl
  | some x => cases x <;> simp [hh] at h ⊢; subst h; simp

@[go_sem] theorem setSeg_alloc_at (w : World) (c d : Array Value) (t : TypeId) (n : Nat) (hn : n = w.heap.size) (h : d.size = c.size) : World.setSeg (w.alloc (.cells c t)) n 0 d.toList = w.alloc (.cells d t) := by
  subst hn
  have e := putSeg_all c d h
  unfold World.setSeg World.alloc
  congr 1
  apply Array.ext_getElem?
  intro i
  rw [Array.getElem?_modify]
  by_cases hi : w.heap.size = i
  · subst hi; simp [e]
  · rw [if_neg hi]; simp [Array.getElem?_push, Ne.symm hi]
@[go_sem] theorem setSeg_alloc_past (w : World) (x : Obj) (n o : Nat) (vs : List Value) (hn : n < w.heap.size) : World.setSeg (w.alloc x) n o vs = (World.setSeg w n o vs).alloc x := by
  unfold World.setSeg World.alloc
  congr 1
  apply Array.ext_getElem?
  intro i
  simp only [Array.getElem?_modify, Array.getElem?_push, Array.size_modify]
  by_cases hi : i = w.heap.size
  · subst hi; rw [if_neg (by omega), if_pos rfl, if_pos rfl]
  · rw [if_neg hi, if_neg hi]
@[go_sem] theorem setSeg_drew (w : World) (n o : Nat) (vs : List Value) : World.setSeg w.drew n o vs = (World.setSeg w n o vs).drew := rfl
@[go_sem] theorem setSeg_drewN (w : World) (k n o : Nat) (vs : List Value) : World.setSeg (w.drewN k) n o vs = (World.setSeg w n o vs).drewN k := rfl
@[go_sem, simp] theorem setSeg_size (w : World) (n o : Nat) (vs : List Value) : (World.setSeg w n o vs).heap.size = w.heap.size := by simp [World.setSeg]

/-! ### one cell stored -/
@[go_sem] theorem rowOf_setCell_same (w : World) (b o : Nat) (v : Value) : rowOf (w.setCell ⟨b, o, none⟩ v) b = (rowOf w b).setIfInBounds o v := by
  simp only [rowOf, World.setCell, Array.getElem?_modify, if_true]
  cases h : w.heap[b]? with
  | none => simp
  | some x => cases x <;> simp
@[go_sem] theorem rowOf_setCell_other (w : World) (p : Addr) (b : Nat) (v : Value) (h : b ≠ p.block) : rowOf (w.setCell p v) b = rowOf w b := by
  simp only [rowOf, World.setCell, Array.getElem?_modify, if_neg (Ne.symm h)]
@[go_sem] theorem isRow_setCell (w : World) (p : Addr) (b : Nat) (v : Value) : isRow (w.setCell p v) b = isRow w b := by
  simp only [isRow, World.setCell, Array.getElem?_modify]
  by_cases h : p.block = b
  · rw [if_pos h]; cases w.heap[b]? with
    | none => rfl
    | some x => cases x <;> rfl
  · rw [if_neg h]
@[go_sem] theorem rowFr_setCell (w : World) (p : Addr) (b : Nat) (v : Value) : rowFr (w.setCell p v) b = rowFr w b := by
  simp only [rowFr, World.setCell, Array.getElem?_modify]
  by_cases h : p.block = b
  · rw [if_pos h]; cases w.heap[b]? with
    | none => rfl
    | some x => cases x <;> rfl
  · rw [if_neg h]
theorem setSeg_block_ne (w : World) (b o k : Nat) (vs : List Value) (h : k ≠ b) : (World.setSeg w b o vs).heap[k]? = w.heap[k]? := by
  simp only [World.setSeg, Array.getElem?_modify, if_neg (Ne.symm h)]
@[go_sem] theorem rowOf_setSeg_same (w : World) (b o : Nat) (vs : List Value) : rowOf (World.setSeg w b o vs) b = putSeg (rowOf w b) o vs := by
  simp only [rowOf, World.setSeg, Array.getElem?_modify, if_true]
  cases h : w.heap[b]? with
  | none => simp; induction vs generalizing o with
    | nil => rfl
    | cons v vs ih => rw [putSeg]; simpa using ih (o + 1)
  | some x => cases x <;> simp <;> (induction vs generalizing o with
    | nil => rfl
    | cons v vs ih => rw [putSeg]; simpa using ih (o + 1))
@[go_sem] theorem rowOf_setSeg_other (w : World) (b o k : Nat) (vs : List Value) (h : k ≠ b) : rowOf (World.setSeg w b o vs) k = rowOf w k := by
  simp only [rowOf, setSeg_block_ne w b o k vs h]

/-! ### worlds of the class of Derived/Lib/QuietBelow -/
@[go_sem] theorem rowOf_grown (w : World) (d : Nat) (os : Array Obj) (b : Nat) (hb : b < w.heap.size) : rowOf (Sort.grow (redrawn w d) os) b = rowOf w b := by
  simp only [rowOf, (below_regrown w d os).block b hb]
@[go_sem] theorem isRow_grown (w : World) (d : Nat) (os : Array Obj) (b : Nat) (hb : b < w.heap.size) : isRow (Sort.grow (redrawn w d) os) b = isRow w b := by
  simp only [isRow, (below_regrown w d os).block b hb]
@[go_sem] theorem cell_grown (w : World) (d : Nat) (os : Array Obj) (p : Addr) (hb : p.block < w.heap.size) : (Sort.grow (redrawn w d) os).cell? p = w.cell? p := (below_regrown w d os).cell hb

/-! ### what lay there is as it was -/
theorem bel_alloc {W w : World} (h : Below W.heap.size W w) (o : Obj) : Below W.heap.size W (w.alloc o) := h.alloc h.size o
theorem bel_drew {W w : World} (h : Below W.heap.size W w) : Below W.heap.size W w.drew := h.drew
theorem bel_drewN {W w : World} (h : Below W.heap.size W w) (n : Nat) : Below W.heap.size W (w.drewN n) := below_drewN h n
theorem bel_trans {W w w' : World} (h : Below W.heap.size W w) (k : Below w.heap.size w w') : Below W.heap.size W w' := h.trans (k.mono h.size)
theorem bel_setSeg {W w : World} (h : Below W.heap.size W w) (b o : Nat) (vs : List Value) (hb : W.heap.size ≤ b) : Below W.heap.size W (World.setSeg w b o vs) :=
  h.trans ⟨rfl, rfl, rfl, by simp, fun k hk => by simp only [World.setSeg, Array.getElem?_modify]; rw [if_neg (by omega)]⟩
theorem bel_setCell {W w : World} (h : Below W.heap.size W w) (p : Addr) (v : Value) (hb : W.heap.size ≤ p.block) : Below W.heap.size W (w.setCell p v) := h.setCell hb v
theorem bel_row {B : Nat} {w w' : World} (h : Below B w w') (b : Nat) (hb : b < B) : rowOf w' b = rowOf w b := by simp only [rowOf, h.block b hb]
theorem bel_isRow {B : Nat} {w w' : World} (h : Below B w w') (b : Nat) (hb : b < B) : isRow w' b = isRow w b := by simp only [isRow, h.block b hb]
theorem bel_rowFr {B : Nat} {w w' : World} (h : Below B w w') (b : Nat) (hb : b < B) : rowFr w' b = rowFr w b := by simp only [rowFr, h.block b hb]

end Go.Proofs.Ytadafohgglnneaa
