/- What a cache that is filled from one remote state knows, as data; two caches laid side by side; addresses out of a row. No condition. -/
import Derived.Test.YtadafohgglnneaaF8
import Derived.Test.YtadafohgglnneaaOpen2
import Derived.Test.YtadafohgglnneaaX9
namespace Go.Proofs.Ytadafohgglnneaa
open Go.RowKit
def adrAt (l : List Adr) (i : Nat) : Adr := l.getD i default
theorem AdrsAt.pos {S : Nat → Prop} {w : World} {v : Value} {l : List Adr} (h : AdrsAt S w v l) (hn : 0 < l.length) :
    ∃ b o c, v = .slice (some ⟨b, o, none⟩) l.length c ∧ l.length ≤ c ∧ c ≤ maxLen ∧ S b ∧ b < w.heap.size ∧ o + l.length * 20 ≤ (rowOf w b).size ∧
      ∀ k, k < l.length → (rowOf w b).extract (o + k * 20) (o + k * 20 + 20) = (adrAt l k).cells := by
  unfold AdrsAt at h
  have hz : ∀ r ∈ l.map Adr.cells, r.size = 20 := by intro r hr; obtain ⟨a, _, rfl⟩ := List.mem_map.1 hr; simp
  have hj : (joinR (l.map Adr.cells)).size = l.length * 20 := by rw [joinR_size 20 _ hz]; simp
  obtain ⟨b, o, c, rfl, e1, e2, e3, e4, e5, e6⟩ := h.pos (by omega)
  refine ⟨b, o, c, rfl, e1, e2, e3, e4, by omega, fun k hk => ?_⟩
  have hk' : k < (l.map Adr.cells).length := by simpa using hk
  have := seg_part e5 e6 (by omega) (joinR_part 20 _ k hk' hz)
  rw [this]; simp [adrAt, hk]
theorem AdrsAt.form {S : Nat → Prop} {w : World} {v : Value} {l : List Adr} (h : AdrsAt S w v l) : ∃ p c, v = .slice p l.length c := SlIn.form h
theorem AdrsAt.below {S : Nat → Prop} {w w' : World} {v : Value} {l : List Adr} (h : AdrsAt S w v l) (hb : Below w.heap.size w w') : AdrsAt S w' v l := SlIn.below h hb
/-- The remote state's account. -/
def rem (r : List Acc) (a : Adr) : Acc := (findK a r).getD (emptyAcc a)
theorem findK_adr {a : Adr} {xs : List Acc} {x : Acc} (h : findK a xs = some x) : x.adr = a := by simpa using List.find?_some h
theorem rem_adr (r : List Acc) (a : Adr) : (rem r a).adr = a := by
  unfold rem
  cases h : findK a r with
  | none => rfl
  | some x => exact findK_adr h
theorem rem_right {r : List Acc} (h : ∀ x ∈ r, rightB x.stor = true) (a : Adr) : rightB (rem r a).stor = true := by
  unfold rem
  cases e : findK a r with
  | none => rfl
  | some x => exact h x (findK_mem e)
theorem rem_small {r : List Acc} (h : ∀ x ∈ r, smallAcc x) (a : Adr) : smallAcc (rem r a) := by
  unfold rem
  cases e : findK a r with
  | none => exact ⟨by simp [emptyAcc], by simp [emptyAcc]⟩
  | some x => exact h x (findK_mem e)
/-- All that is known is the remote state's. -/
def OfRem (r xs : List Acc) : Prop := ∀ x ∈ xs, x = rem r x.adr
def Has (xs : List Acc) (a : Adr) : Prop := (findK a xs).isSome = true
theorem OfRem.get {r xs : List Acc} (h : OfRem r xs) {a : Adr} (ha : Has xs a) : findK a xs = some (rem r a) := by
  unfold Has at ha
  cases e : findK a xs with
  | none => rw [e] at ha; cases ha
  | some x =>
    have := h x (findK_mem e)
    rw [this, findK_adr e]
theorem OfRem.set {r xs : List Acc} (h : OfRem r xs) (a : Adr) : OfRem r (setK (rem r a) xs) := by
  intro x hx
  rcases setK_mem' hx with rfl | hx
  · rw [rem_adr]
  · exact h x hx
theorem findK_setK_self (x : Acc) (xs : List Acc) : findK x.adr (setK x xs) = some x := by
  unfold setK
  by_cases h : (findK x.adr xs).isSome = true
  · rw [if_pos h]
    induction xs with
    | nil => cases h
    | cons y xs ih =>
      simp only [findK, List.map_cons, List.find?_cons] at h ih ⊢
      by_cases e : y.adr = x.adr
      · simp [e]
      · simp only [e, decide_false, if_false] at h ⊢
        exact ih h
  · rw [if_neg h]
    have h' : findK x.adr xs = none := by simpa using h
    unfold findK at h' ⊢
    rw [List.find?_append, h']; simp
theorem Has.self (r xs : List Acc) (a : Adr) : Has (setK (rem r a) xs) a := by
  have := findK_setK_self (rem r a) xs
  rw [rem_adr] at this
  unfold Has; rw [this]; rfl
theorem Has.set {r xs : List Acc} {b : Adr} (h : Has xs b) (a : Adr) : Has (setK (rem r a) xs) b := by
  by_cases e : b = a
  · subst e; exact Has.self r xs b
  · unfold Has
    rw [findK_setK (by rw [rem_adr]; exact e)]; exact h
theorem great_small {xs : List Acc} (h : greatB xs = false) : ∀ x ∈ xs, smallAcc x := by
  intro x hx
  simp only [greatB, Bool.or_eq_false_iff, List.any_eq_false] at h
  have := h.2 x hx
  simp [greatAcc] at this
  exact ⟨by omega, by omega⟩
/-- A cache just laid. -/
theorem new_cache {N : Nat → Prop} {w0 w W : World} (h0 : w0.heap.size ≤ w.heap.size) (hW : Below (w.heap.size + 3) (((w.alloc (mapObj Adr.cells [] 0)).alloc (mapObj Adr.cells [] 0)).alloc (.cells #[.map (some w.heap.size), .map (some (w.heap.size + 1))] 122)) W)
    (hN : ∀ b, N b → b < W.heap.size) : HoldC N w0 W (w.heap.size + 2) w.heap.size (w.heap.size + 1) [] [] := by
  refine ⟨⟨fun _ => False, fun _ h => h.elim, ?_⟩, ⟨by omega, by omega, by omega⟩, hN, fun _ h => by simp at h⟩
  exact ⟨by rw [bel_row hW _ (by omega)]; simp [go_sem], by rw [bel_isRow hW _ (by omega)]; simp [go_sem], by rw [bel_rowFr hW _ (by omega)]; simp [go_sem],
    ⟨[], 0, by rw [bel_objAt hW _ (by omega)]; simp [go_sem], tidy_nil, trivial⟩, ⟨[], 0, by rw [bel_objAt hW _ (by omega)]; simp [go_sem], tidy_nil, trivial⟩, ⟨by omega, by omega, by omega⟩, fun _ h => h.elim, fun _ h => by simp at h⟩
end Go.Proofs.Ytadafohgglnneaa
