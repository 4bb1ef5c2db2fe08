/- The document's Put: an account into its place. No condition. -/
import Derived.Test.YtadafohgglnneaaX13
import Derived.Test.YtadafohgglnneaaX12
import Derived.Test.YtadafohgglnneaaBase
import Derived.Deep.CutRange
namespace Go.Proofs.Ytadafohgglnneaa
open Go.RowKit
/-- Into its place: ahead of the first greater address, in the place of equal ones, else behind all. -/
def putL (a : Acc) : Bool → List Acc → List Acc
  | d, [] => if d then [] else [a]
  | d, x :: l => (if !d && a.adr.lt x.adr then [a] else []) ++ (if x.adr = a.adr then a :: putL a true l else x :: putL a (d || a.adr.lt x.adr) l)
theorem findK_append (b : Adr) (l m : List Acc) : findK b (l ++ m) = (findK b l).or (findK b m) := by simp [findK, List.find?_append]
theorem findK_putL_other {a : Acc} {b : Adr} (h : b ≠ a.adr) : ∀ (l : List Acc) (d : Bool), findK b (putL a d l) = findK b l
  | [], d => by
    have h' : ¬ a.adr = b := fun e => h e.symm
    cases d <;> simp [putL, findK, h']
  | x :: l, d => by
    have h' : ¬ a.adr = b := fun e => h e.symm
    unfold putL
    rw [findK_append]
    have e1 : findK b (if (!d && a.adr.lt x.adr) = true then [a] else []) = none := by split <;> simp [findK, h']
    rw [e1, Option.none_or]
    by_cases e : x.adr = a.adr
    · have hx : ¬ x.adr = b := fun e2 => h (by rw [← e2, e])
      rw [if_pos e]
      have := findK_putL_other h l true
      simp only [findK, List.find?_cons] at this ⊢
      simp only [h', hx, decide_false]; exact this
    · rw [if_neg e]
      have := findK_putL_other h l (d || a.adr.lt x.adr)
      simp only [findK, List.find?_cons] at this ⊢
      by_cases hx : x.adr = b
      · simp [hx]
      · simp only [hx, decide_false]; exact this
theorem findK_putL_self (a : Acc) : ∀ (l : List Acc), findK a.adr (putL a false l) = some a
  | [] => by simp [putL, findK]
  | x :: l => by
    unfold putL
    rw [findK_append]
    by_cases hl : a.adr.lt x.adr = true
    · simp [hl, findK]
    · have hl' : a.adr.lt x.adr = false := by simpa using hl
      simp only [hl', Bool.not_false, Bool.and_false, Bool.false_eq_true, if_false, Bool.or_false]
      by_cases e : x.adr = a.adr
      · simp [e, findK]
      · have := findK_putL_self a l
        rw [if_neg e]
        simp only [findK, List.find?_cons, List.find?_nil] at this ⊢
        simp only [e, decide_false, Option.none_or]; exact this
theorem putL_length (a : Acc) : ∀ (l : List Acc) (d : Bool), (putL a d l).length ≤ 2 * l.length + 1
  | [], d => by cases d <;> simp [putL]
  | x :: l, d => by
    unfold putL
    have h1 := putL_length a l true
    have h2 := putL_length a l (d || a.adr.lt x.adr)
    have e1 : (if (!d && a.adr.lt x.adr) = true then [a] else []).length ≤ 1 := by split <;> simp
    rw [List.length_append]
    generalize (if (!d && a.adr.lt x.adr) = true then [a] else []) = pre at *
    by_cases e : x.adr = a.adr
    · rw [if_pos e]; simp only [List.length_cons]; omega
    · rw [if_neg e]; simp only [List.length_cons]; omega
theorem ownsRow_below {base : Nat} {w w' : World} {e : TypeId} {size : Nat} {v : Value} {n : Nat} {xs : List Value} (h : w.ownsRow base e size v n xs) (hb : Below w.heap.size w w') : w'.ownsRow base e size v n xs := by
  obtain ⟨p1, p2⟩ := h
  refine ⟨p1, p2.imp id ?_⟩
  rintro ⟨g, cap, cur, q1, q2, q3, q4⟩
  exact ⟨g, cap, cur, q1, q2, by rw [hb.block g (Array.getElem?_eq_some_iff.1 q3).1]; exact q3, q4⟩
/-- A row of accounts that is being laid: its cells are the call's own, its lists lie in T. -/
structure OutAt (T : Nat → Prop) (w w' : World) (v : Value) (ys : List Acc) : Prop where
  st : ∃ rs, w'.ownsRow w.heap.size 30 27 v ys.length (joinR rs).toList ∧ AccsIn T w' rs ys
  bel : Below w.heap.size w w'
theorem OutAt.below {T : Nat → Prop} {w w' w'' : World} {v : Value} {ys : List Acc} (h : OutAt T w w' v ys) (hb : Below w'.heap.size w' w'') : OutAt T w w'' v ys := by
  obtain ⟨⟨rs, h1, h2⟩, h3⟩ := h
  exact ⟨⟨rs, ownsRow_below h1 hb, h2.imp fun _ _ h => h.below hb⟩, bel_trans h3 hb⟩
theorem OutAt.form {T : Nat → Prop} {w w' : World} {v : Value} {ys : List Acc} (h : OutAt T w w' v ys) : ∃ p c, v = .slice p ys.length c := by
  obtain ⟨⟨rs, ⟨_, h2⟩, _⟩, _⟩ := h
  rcases h2 with ⟨rfl, h0⟩ | ⟨g, cap, cur, rfl, _⟩
  · exact ⟨none, 0, by rw [h0]⟩
  · exact ⟨_, _, rfl⟩
/-- One account more. -/
theorem OutAt.snoc {T : Nat → Prop} {w w1 w' : World} {v : Value} {ys : List Acc} {rs : List (Array Value)} {row : Array Value} {y : Acc} {g c : Nat} (h2 : AccsIn T w1 rs ys) (hb : Below w.heap.size w w1) (hy : AccIn T w1 row y) (hT : ∀ b, T b → b < w.heap.size)
    (hown : w'.ownsRow w.heap.size 30 27 (.slice (some ⟨g, 0, none⟩) (ys.length + 1) c) (ys.length + 1) ((joinR rs).toList ++ row.toList)) (hgrow : w1.grownBy w' v.ownBlock) (hv : ∀ k, v.ownBlock = some k → w.heap.size ≤ k) :
    OutAt T w w' (.slice (some ⟨g, 0, none⟩) (ys.length + 1) c) (ys ++ [y]) := by
  have hbel : Below w.heap.size w w' := bel_grown hb hgrow (fun k hk => hv k hk)
  have hsame : ∀ r x, AccIn T w1 r x → AccIn T w' r x := fun r x h => h.same fun b hb' hT' => hgrow.block b hb' (fun e => by
    have := hT b hT'
    have := hv b e.symm
    omega)
  refine ⟨⟨rs ++ [row], ?_, (h2.imp hsame).append ⟨hsame _ _ hy, trivial⟩⟩, hbel⟩
  rw [joinR_append, List.length_append]
  simpa using hown
end Go.Proofs.Ytadafohgglnneaa
