/- The store in memory: its versions, each a parent and a map of accounts; New, has. No condition. -/
import Derived.Test.YtadafohgglnneaaF1
import Derived.Test.YtadafohgglnneaaBase
namespace Go.Proofs.Ytadafohgglnneaa
open Go.RowKit
/-- A version: its parent, its map's block, what was set. -/
structure Nd where
  par : Int
  m : Option Nat
  xs : List Acc
def Nd.cells (d : Nd) : List Value := [.int .i64 d.par, .map d.m]
def ndRow (l : List Nd) : List Value := l.flatMap Nd.cells
theorem ndRow_length (l : List Nd) : (ndRow l).length = l.length * 2 := by
  induction l with
  | nil => rfl
  | cons x l ih => simp only [ndRow, List.flatMap_cons, List.length_append, List.length_cons] at ih ⊢; rw [ih]; simp [Nd.cells]; omega
theorem ndRow_append (l m : List Nd) : ndRow (l ++ m) = ndRow l ++ ndRow m := by simp [ndRow]
theorem ndRow_get (l : List Nd) (i : Nat) (hi : i < l.length) : (ndRow l)[i * 2]? = some (.int .i64 l[i].par) ∧ (ndRow l)[i * 2 + 1]? = some (.map l[i].m) := by
  induction l generalizing i with
  | nil => simp at hi
  | cons x l ih =>
    cases i with
    | zero => simp [ndRow, Nd.cells]
    | succ i =>
      have := ih i (by simpa using hi)
      have e : ndRow (x :: l) = .int .i64 x.par :: .map x.m :: ndRow l := rfl
      rw [e, show (i + 1) * 2 = i * 2 + 1 + 1 by omega]
      simpa using this
/-- What a version has set. -/
def NdIn (S : Nat → Prop) (w : World) (d : Nd) : Prop :=
  match d.m with
  | none => d.xs = []
  | some k => ∃ kn kc, objAt w k = some (mapObj Adr.cells kn kc) ∧ Tidy kn kc ∧ KnIn S w kn d.xs
theorem isRow_obj {w : World} {b : Nat} (h : isRow w b = true) {kn : List (Ent Adr)} {kc : Nat} (hk : objAt w b = some (mapObj Adr.cells kn kc)) : False := by
  simp only [isRow, objAt, mapObj] at h hk
  rw [hk] at h; simp at h
/-- Is there such a version? -/
def hasV (nds : List Nd) (v : Int) : Bool := decide (0 ≤ v) && decide (v < nds.length)
/-- A store in memory: its struct in block s, its versions in block g. -/
structure StoreAt (S : Nat → Prop) (w : World) (s g c : Nat) (nds : List Nd) : Prop where
  row : rowOf w s = #[.slice (some ⟨g, 0, none⟩) nds.length c]
  isRow : isRow w s = true
  fr : rowFr w s = (0, 0)
  owns : w.ownsRow 0 125 2 (.slice (some ⟨g, 0, none⟩) nds.length c) nds.length (ndRow nds)
  ne : s ≠ g
  nodes : ∀ d ∈ nds, NdIn S w d
  apart : ∀ b, S b → b ≠ s ∧ b ≠ g
  pos : 0 < nds.length
  fits : nds.length ≤ 1048576
  par : ∀ i (hi : i < nds.length), -1 ≤ nds[i].par ∧ nds[i].par < i
section
variable {S : Nat → Prop} {w : World} {s g c : Nat} {nds : List Nd} (h : StoreAt S w s g c nds)
include h
theorem StoreAt.cap : nds.length ≤ c ∧ c ≤ maxLen := by
  obtain ⟨_, h2⟩ := h.owns
  rcases h2 with ⟨e, _⟩ | ⟨g', cap, cur, e, _, _, h3, h4, _⟩
  · cases e
  · cases e; exact ⟨h3, h4⟩
theorem StoreAt.base : ∃ cur : Array Value, w.heap[g]? = some (.cells cur 125 (0, 0)) ∧ cur.size = c * 2 ∧ cur.toList.take (nds.length * 2) = ndRow nds := by
  obtain ⟨_, h2⟩ := h.owns
  rcases h2 with ⟨e, _⟩ | ⟨g', cap, cur, e, _, h5, h3, h4, h6, h7⟩
  · cases e
  · cases e; exact ⟨cur, h5, h6, h7⟩
theorem StoreAt.gRow : Ytadafohgglnneaa.isRow w g = true ∧ rowFr w g = (0, 0) ∧ (rowOf w g).size = c * 2 := by
  obtain ⟨cur, h1, h2, h3⟩ := h.base
  simp [Ytadafohgglnneaa.isRow, rowFr, rowOf, h1, h2]
theorem StoreAt.cell : w.cell? ⟨s, 0, none⟩ = some (.slice (some ⟨g, 0, none⟩) nds.length c) := by rw [cell_row, h.row]; rfl
theorem StoreAt.node (i : Nat) (hi : i < nds.length) : w.cell? ⟨g, i * 2, none⟩ = some (.int .i64 nds[i].par) ∧ w.cell? ⟨g, i * 2 + 1, none⟩ = some (.map nds[i].m) := by
  obtain ⟨cur, h1, h2, h3⟩ := h.base
  obtain ⟨e1, e2⟩ := ndRow_get nds i hi
  rw [← h3, List.getElem?_take] at e1 e2
  rw [if_pos (by omega)] at e1 e2
  simp only [World.cell?, h1]
  exact ⟨by simpa using e1, by simpa using e2⟩
theorem StoreAt.lt : s < w.heap.size ∧ g < w.heap.size := by
  obtain ⟨cur, h1, _⟩ := h.base
  exact ⟨isRow_lt h.isRow, (Array.getElem?_eq_some_iff.1 h1).1⟩
end
theorem NdIn.kept {S M : Nat → Prop} {w w' : World} {d : Nd} (h : NdIn S w d) (hk : Kept M w w') (hs : ∀ b, S b → ¬ M b) (hm : ∀ k, d.m = some k → ¬ M k) : NdIn S w' d := by
  unfold NdIn at h ⊢
  cases hd : d.m with
  | none => rw [hd] at h; exact h
  | some k =>
    rw [hd] at h
    obtain ⟨kn, kc, e1, e2, e3⟩ := h
    exact ⟨kn, kc, by rw [hk.obj k (objAt_lt e1) (hm k hd)]; exact e1, e2, e3.imp fun _ _ h' => h'.kept hk hs⟩
theorem NdIn.mono {S T : Nat → Prop} {w : World} {d : Nd} (h : NdIn S w d) (hs : ∀ b, S b → T b) : NdIn T w d := by
  unfold NdIn at h ⊢
  cases hd : d.m with
  | none => rw [hd] at h; exact h
  | some k =>
    rw [hd] at h
    obtain ⟨kn, kc, e1, e2, e3⟩ := h
    exact ⟨kn, kc, e1, e2, e3.imp fun _ _ h' => h'.mono hs⟩
/-- The map's block is of no row. -/
theorem StoreAt.mapNe {S : Nat → Prop} {w : World} {s g c : Nat} {nds : List Nd} (h : StoreAt S w s g c nds) {d : Nd} (hd : d ∈ nds) {k : Nat} (hk : d.m = some k) {b : Nat} (hb : Ytadafohgglnneaa.isRow w b = true) : k ≠ b := by
  rintro rfl
  have := h.nodes d hd
  unfold NdIn at this
  rw [hk] at this
  obtain ⟨kn, kc, e1, _⟩ := this
  exact isRow_obj hb e1
theorem StoreAt.kept {S M : Nat → Prop} {w w' : World} {s g c : Nat} {nds : List Nd} (h : StoreAt S w s g c nds) (hk : Kept M w w') (hs : ∀ b, S b → ¬ M b) (h1 : ¬ M s) (h2 : ¬ M g) (h3 : ∀ d ∈ nds, ∀ k, d.m = some k → ¬ M k) : StoreAt S w' s g c nds := by
  obtain ⟨l1, l2⟩ := h.lt
  refine ⟨by rw [hk.row s l1 h1]; exact h.row, by rw [hk.isRow s l1 h1]; exact h.isRow, by rw [hk.rowFr s l1 h1]; exact h.fr, ?_, h.ne, fun d hd => (h.nodes d hd).kept hk hs (h3 d hd), h.apart, h.pos, h.fits, h.par⟩
  obtain ⟨p1, p2⟩ := h.owns
  refine ⟨p1, p2.imp id ?_⟩
  rintro ⟨g', cap, cur, e, q⟩
  cases e
  exact ⟨_, _, cur, rfl, by rw [hk.block g l2 h2]; exact q⟩
theorem StoreAt.below {S : Nat → Prop} {w w' : World} {s g c : Nat} {nds : List Nd} (h : StoreAt S w s g c nds) (hb : Below w.heap.size w w') : StoreAt S w' s g c nds :=
  h.kept (M := fun _ => False) (.of_below hb) (fun _ _ => id) id id (fun _ _ _ _ => id)
theorem StoreAt.mono {S T : Nat → Prop} {w : World} {s g c : Nat} {nds : List Nd} (h : StoreAt S w s g c nds) (hs : ∀ b, S b → T b) (ht : ∀ b, T b → b ≠ s ∧ b ≠ g) : StoreAt T w s g c nds :=
  ⟨h.row, h.isRow, h.fr, h.owns, h.ne, fun d hd => (h.nodes d hd).mono hs, ht, h.pos, h.fits, h.par⟩

@[go_sem] theorem isRow_setSeg (w : World) (b o k : Nat) (vs : List Value) : isRow (World.setSeg w b o vs) k = isRow w k := by
  simp only [isRow, World.setSeg, Array.getElem?_modify]
  by_cases h : b = k
  · rw [if_pos h]; cases w.heap[k]? with
    | none => rfl
    | some x => cases x <;> rfl
  · rw [if_neg h]
@[go_sem] theorem rowFr_setSeg (w : World) (b o k : Nat) (vs : List Value) : rowFr (World.setSeg w b o vs) k = rowFr w k := by
  simp only [rowFr, World.setSeg, Array.getElem?_modify]
  by_cases h : b = k
  · rw [if_pos h]; cases w.heap[k]? with
    | none => rfl
    | some x => cases x <;> rfl
  · rw [if_neg h]
/-- A version's two cells. -/
def ndArr (p : Int) (m : Option Nat) : Array Value := #[.int .i64 p] ++ #[.map m]
@[go_sem, simp] theorem ndArr_size (p : Int) (m : Option Nat) : (ndArr p m).size = 2 := by simp [ndArr]
@[go_sem] theorem ndArr_ones (p : Int) (m : Option Nat) : ones (ndArr p m) = true := by
  rw [ndArr, ones_append]; rfl
@[go_sem, simp] theorem ndArr_whole (p : Int) (m : Option Nat) : (ndArr p m).extract 0 2 = ndArr p m := rfl
@[go_sem] theorem ndArr_set0 (p q : Int) (m : Option Nat) : (ndArr p m).setIfInBounds 0 (.int .i64 q) = ndArr q m := rfl
@[go_sem] theorem ndArr_set1 (p : Int) (m k : Option Nat) : (ndArr p m).setIfInBounds 1 (.map k) = ndArr p k := rfl
@[go_sem ↓ high] theorem build125 (w : World) (p : Int) (m : Option Nat) : (Instr.build 125 #[(0, .int .i64 p), (1, .map m)]).run Try.prog w = .ok (.agg (ndArr p m)) w := by kernel_rfl
@[go_sem ↓ high] theorem build125' (w : World) (p : Int) : (Instr.build 125 #[(0, .int .i64 p)]).run Try.prog w = .ok (.agg (ndArr p none)) w := by kernel_rfl
@[go_sem ↓ high] theorem zero125 (w : World) : (zeroValue 125).run Try.prog w = .ok (.agg (ndArr 0 none)) w := by rw [Try.zeroValue125]; rfl
@[go_sem ↓ high] theorem build128 (w : World) (a : Option Addr) (n c : Nat) : (Instr.build 128 #[(0, .slice a n c)]).run Try.prog w = .ok (.agg #[.slice a n c]) w := by kernel_rfl
set_option maxRecDepth 100000 in
set_option maxHeartbeats 1000000 in
theorem store_New (w : World) : Calls Try.prog 28 #[] w fun e w' => ∃ s g, e = .returned (.pointer (some ⟨s, 0, none⟩)) ∧ w.heap.size ≤ s ∧ w.heap.size ≤ g ∧ StoreAt (Fresh w w) w' s g 1 [⟨-1, none, []⟩] ∧ Below w.heap.size w w' := by
  go_enter Try.func28, Try.ntmps28
  go_wp2
  go_ret
  refine ⟨w.heap.size + 1, w.heap.size, rfl, by omega, by omega, ?_, ?_⟩
  · refine ⟨by simp [go_sem], by simp [go_sem], by simp [go_sem], ?_, by omega, ?_, fun b hb => by unfold Fresh at hb; omega, by simp, by simp, ?_⟩
    · refine ⟨rfl, .inr ⟨_, 1, #[.int .i64 (-1), .map none], rfl, Nat.zero_le _, ?_, by simp, by decide, rfl, rfl⟩⟩
      rw [heap_alloc_old _ _ (by simp), heap_alloc_new]
      rfl
    · intro d hd; simp at hd; subst hd; rfl
    · intro i hi; simp at hi; subst hi; simp
  · repeat (first | exact Below.refl _ _ | apply bel_alloc)
set_option maxRecDepth 100000 in
theorem store_has {S : Nat → Prop} {w : World} {s g c : Nat} {nds : List Nd} (h : StoreAt S w s g c nds) (v : Int) :
    Calls Try.prog 68 #[.pointer (some ⟨s, 0, none⟩), .int .i64 v] w fun e w' => e = .returned (.bool (hasV nds v)) ∧ w' = w := by
  have hc := h.cell
  by_cases h0 : 0 ≤ v
  · by_cases h1 : v < nds.length
    · have hv : hasV nds v = true := by simp [hasV, h0, h1]
      have e1 : decide (0 ≤ v) = true := by simp [h0]
      have e2 : decide (v < (nds.length : Int)) = true := by simp [h1]
      rw [hv]
      go_enter Try.func68, Try.ntmps68
      go_wp2
      go_ret
      exact ⟨rfl, rfl⟩
    · have hv : hasV nds v = false := by simp [hasV, h1]
      have e1 : decide (0 ≤ v) = true := by simp [h0]
      have e2 : decide (v < (nds.length : Int)) = false := by simpa using h1
      rw [hv]
      go_enter Try.func68, Try.ntmps68
      go_wp2
      go_ret
      exact ⟨rfl, rfl⟩
  · have hv : hasV nds v = false := by simp [hasV, h0]
    have e1 : decide (0 ≤ v) = false := by simpa using h0
    rw [hv]
    go_enter Try.func68, Try.ntmps68
    go_wp2
    go_ret
    exact ⟨rfl, rfl⟩
end Go.Proofs.Ytadafohgglnneaa
