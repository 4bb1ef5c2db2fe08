/- Ranging over a map that nobody writes meanwhile: whatever order the entries come in, each comes once. No condition. -/
import Derived.Test.YtadafohgglnneaaF1
import Derived.Maps.RangeRun
import Derived.Maps.RangeWalk
import Derived.Test.YtadafohgglnneaaOut
namespace Go.Proofs.Ytadafohgglnneaa
open Go.RowKit
/-- Block r is an iterator over the map in block m, whose entries are l; 'left' are those that are still to come. -/
structure IterAt {K : Type} (enc : K → Array Value) (w : World) (r m : Nat) (l : List (Ent K)) (c : Nat) (left : List (Ent K)) : Prop where
  it : ∃ since seen c0, w.heap[r]? = some (.mapIter (some m) since seen c0) ∧ (since ≤ c0 ∧ since ≤ c) ∧ (∀ x ∈ l, x.n < since) ∧ left = l.filter (fun x => !seen.contains x.n)
  map : objAt w m = some (mapObj enc l c)
  born : (l.map (·.n)).Nodup
section
variable {K : Type} {enc : K → Array Value} {P : Program} {w w' : World} {r m : Nat} {l : List (Ent K)} {c : Nat} {left : List (Ent K)}
theorem IterAt.kept {M : Nat → Prop} (h : IterAt enc w r m l c left) (hk : Kept M w w') (h1 : ¬ M r) (h2 : ¬ M m) : IterAt enc w' r m l c left := by
  obtain ⟨⟨since, seen, c0, p1, p2⟩, p3, p4⟩ := h
  exact ⟨⟨since, seen, c0, by rw [hk.block r (Array.getElem?_eq_some_iff.1 p1).1 h1]; exact p1, p2⟩, by rw [hk.obj m (objAt_lt p3) h2]; exact p3, p4⟩
theorem IterAt.below (h : IterAt enc w r m l c left) (hb : Below w.heap.size w w') : IterAt enc w' r m l c left := h.kept (M := fun _ => False) (.of_below hb) id id
theorem IterAt.lt (h : IterAt enc w r m l c left) : r < w.heap.size ∧ m < w.heap.size := by
  obtain ⟨⟨since, seen, c0, p1, p2⟩, p3, p4⟩ := h
  exact ⟨(Array.getElem?_eq_some_iff.1 p1).1, objAt_lt p3⟩
/-- 'range m'. -/
theorem run_range_mine {t k e : TypeId} (ht : P.underlying t = some (.map k e)) (hm : objAt w m = some (mapObj enc l c)) (hn : (l.map (·.n)).Nodup) (hc : ∀ x ∈ l, x.n < c) :
    (Instr.range t (.map (some m))).run P w = .ok (.pointer (some ⟨w.heap.size, 0, none⟩)) (w.alloc (.mapIter (some m) c #[] c)) ∧ IterAt enc (w.alloc (.mapIter (some m) c #[] c)) w.heap.size m l c l := by
  have hb : w.heap[m]? = some (.map ((l.map (Ent.e enc)).toArray) c) := hm
  refine ⟨run_range_map w t k e m _ c ht hb, ⟨⟨c, #[], c, heap_alloc_new _ _, ⟨Nat.le_refl _, Nat.le_refl _⟩, hc, (List.filter_eq_self.2 (fun _ _ => by simp)).symm⟩, ?_, hn⟩⟩
  rw [objAt_alloc_past _ _ _ (objAt_lt hm)]; exact hm
theorem left_filter (l : List (Ent K)) (seen : Array Nat) : (leftOf ((l.map (Ent.e enc)).toArray) seen).toList = (l.filter fun x => !seen.contains x.n).map (Ent.e enc) := by
  simp only [leftOf, Array.toList_filter, List.filter_map]
  rfl
theorem perm_strike {l : List (Ent K)} (hn : (l.map (·.n)).Nodup) {seen : Array Nat} {x : Ent K} (hx : x ∈ l.filter (fun y => !seen.contains y.n)) :
    (l.filter fun y => !seen.contains y.n).Perm (x :: l.filter fun y => !(seen.push x.n).contains y.n) := by
  have hsub : ((l.filter fun y => !seen.contains y.n).map (·.n)).Nodup := hn.sublist (List.filter_sublist.map _)
  have e : (l.filter fun y => !(seen.push x.n).contains y.n) = (l.filter fun y => !seen.contains y.n).filter fun y => !decide (y.n = x.n) := by
    rw [List.filter_filter]
    apply List.filter_congr
    intro y _
    rw [Bool.eq_iff_iff]
    simp [Array.mem_push]
    exact ⟨fun h => ⟨fun e => h.2 e, h.1⟩, fun h => ⟨h.2, h.1⟩⟩
  rw [e]
  generalize (l.filter fun y => !seen.contains y.n) = L at hx hsub
  clear e hn
  induction L with
  | nil => simp at hx
  | cons z L ih =>
    simp only [List.map_cons, List.nodup_cons] at hsub
    by_cases hz : z.n = x.n
    · have hxz : x = z := by
        rcases List.mem_cons.1 hx with h | h
        · exact h
        · exact absurd (List.mem_map_of_mem (f := fun y : Ent K => y.n) h) (by rw [← hz]; exact hsub.1)
      subst hxz
      have e2 : L.filter (fun y => !decide (y.n = x.n)) = L := by
        rw [List.filter_eq_self]
        intro y hy
        have : y.n ≠ x.n := fun e => hsub.1 (by rw [← e]; exact List.mem_map_of_mem (f := fun y : Ent K => y.n) hy)
        simp [this]
      simp [e2]
    · have hx' : x ∈ L := by
        rcases List.mem_cons.1 hx with h | h
        · exact absurd (by rw [h]) hz
        · exact h
      have := ih hx' hsub.2
      simp only [List.filter_cons, hz, decide_false, Bool.not_false, if_true]
      exact (List.Perm.cons z this).trans (List.Perm.swap ..)
theorem IterAt.next (h : IterAt enc w r m l c left) (ty : TypeId) :
    (left = [] ∧ (Instr.next (.pointer (some ⟨r, 0, none⟩)) false ty).run P w = .ok (.tuple #[.bool false]) w) ∨
    ∃ x left' w', left.Perm (x :: left') ∧ IterAt enc w' r m l c left' ∧ Kept (fun b => b = r) w w' ∧ w'.heap.size = w.heap.size ∧
      (Instr.next (.pointer (some ⟨r, 0, none⟩)) false ty).run P w = .ok (.tuple #[.bool true, .agg (enc x.a), x.v]) w' ∧
      (Instr.entry (.pointer (some ⟨r, 0, none⟩))).run P w' = .ok (.tuple #[.agg (enc x.a), x.v]) w' := by
  obtain ⟨⟨since, seen, c0, p1, p2, p3, p4⟩, p5, p6⟩ := h
  have hb : w.heap[m]? = some (.map ((l.map (Ent.e enc)).toArray) c) := p5
  have hrm : r ≠ m := fun e => by rw [e, hb] at p1; cases p1
  have hold : ∀ x ∈ ((l.map (Ent.e enc)).toArray).toList, x.born < since := by
    intro x hx
    simp only [List.mem_map] at hx
    obtain ⟨y, hy, rfl⟩ := hx
    exact p3 y hy
  rcases run_next_at (P := P) w ty r m since c0 seen _ c p1 hb hold p2.1 with ⟨h0, hrun⟩ | ⟨e, he, w1, hw1, hrun⟩
  · refine .inl ⟨?_, hrun⟩
    have := left_filter (enc := enc) l seen
    rw [← p4] at this
    have h2 : (leftOf ((l.map (Ent.e enc)).toArray) seen).toList = [] := by simpa using h0
    rw [h2] at this
    simpa using this.symm
  · rw [left_filter, List.mem_map] at he
    obtain ⟨x, hx, rfl⟩ := he
    have hxl : x ∈ l := (List.mem_filter.1 hx).1
    have hz1 : w1.heap = w.heap := by rcases hw1 with rfl | rfl <;> rfl
    have hr1 : r < w1.heap.size := by rw [hz1]; exact (Array.getElem?_eq_some_iff.1 p1).1
    have ho : (Go.ChangeMaps.setBlock w1 r (.mapIter (some m) since (seen.push x.n) c)).heap[m]? = some (.map ((l.map (Ent.e enc)).toArray) c) := by
      show (w1.heap.setIfInBounds r _)[m]? = _
      rw [Array.getElem?_setIfInBounds, if_neg hrm, hz1]; exact hb
    have hi : (Go.ChangeMaps.setBlock w1 r (.mapIter (some m) since (seen.push x.n) c)).heap[r]? = some (.mapIter (some m) since (seen.push x.n) c) := by
      show (w1.heap.setIfInBounds r _)[r]? = _
      rw [Array.getElem?_setIfInBounds, if_pos rfl, if_pos hr1]
    refine .inr ⟨x, _, _, by rw [p4]; exact perm_strike p6 hx, ⟨⟨since, seen.push x.n, c, hi, ?_, p3, rfl⟩, ho, p6⟩, ?_, ?_, hrun, ?_⟩
    · exact ⟨p2.2, p2.2⟩
    · refine ⟨?_, ?_, ?_, ?_, fun k hk hne => ?_⟩
      · show w1.os = w.os; rcases hw1 with rfl | rfl <;> rfl
      · show w1.tape = w.tape; rcases hw1 with rfl | rfl <;> rfl
      · show w1.output = w.output; rcases hw1 with rfl | rfl <;> rfl
      · show w.heap.size ≤ (w1.heap.setIfInBounds r _).size; simp [hz1]
      · show (w1.heap.setIfInBounds r _)[k]? = _
        rw [Array.getElem?_setIfInBounds, if_neg (Ne.symm hne), hz1]
    · show (w1.heap.setIfInBounds r _).size = _; simp [hz1]
    · exact run_entry_at (P := P) _ r m since seen _ c (Ent.e enc x) hi ho (by simp; exact ⟨x, hxl, rfl⟩) (by simpa [List.map_map, Function.comp_def, Ent.e] using p6)
end
end Go.Proofs.Ytadafohgglnneaa
/- Ranging over a map, at the walk's operations. No condition. -/
namespace Go.Proofs.Ytadafohgglnneaa
open Go.RowKit
section
variable {K : Type} {enc : K → Array Value} {P : Program} {w : World} {ops : Array Oper} {rest : List Oper} {o : Oper} {a : Act} {Q : Exit → Act → World → Prop}
theorem IterAt.left_eq {r m : Nat} {l : List (Ent K)} {c : Nat} {left : List (Ent K)} (h : IterAt enc w r m l c left) : w.rangeLeft m r = left.length := by
  obtain ⟨⟨since, seen, c0, p1, p2, p3, p4⟩, p5, p6⟩ := h
  have hb : w.heap[m]? = some (.map ((l.map (Ent.e enc)).toArray) c) := p5
  simp only [World.rangeLeft, hb, p1]
  rw [← Array.length_toList, left_filter, List.length_map, p4]
theorem wpList_range_mine (hg : o.guard = none) (x : Operand) (t : TypeId) (hop : o.op = Op.range t x) {k e : TypeId} (ht : P.underlying t = some (.map k e)) (m : Nat) (l : List (Ent K)) (c : Nat)
    (hm : a.eval x = .map (some m)) (ho : objAt w m = some (mapObj enc l c)) (hT : (l.map (·.n)).Nodup ∧ ∀ x ∈ l, x.n < c)
    (hK : ∀ w', IterAt enc w' w.heap.size m l c l → Below w.heap.size w w' → w'.heap.size = w.heap.size + 1 → wpList P ops Q rest (a.put o.dst (.pointer (some ⟨w.heap.size, 0, none⟩))) w') :
    wpList P ops Q (o :: rest) a w := by
  refine wpList_plain hg fun K' hK' => ?_
  obtain ⟨hrun, r1⟩ := run_range_mine (P := P) ht ho hT.1 hT.2
  unfold Oper.wp
  simp [execOp, hop, hm, hrun, Result.andThen]
  exact hK' _ _ (hK _ r1 (bel_alloc (Below.refl _ _) _) (by simp))
theorem wpList_next_mine (hg : o.guard = none) (it : Operand) (hop : o.op = Op.next it false) (r m : Nat) (l : List (Ent K)) (c : Nat) (left : List (Ent K))
    (hit : a.eval it = .pointer (some ⟨r, 0, none⟩)) (h : IterAt enc w r m l c left)
    (hDone : left = [] → wpList P ops Q rest (a.put o.dst (.tuple #[.bool false])) w)
    (hMore : ∀ (x : Ent K) (left' : List (Ent K)) (w' : World), left.Perm (x :: left') → IterAt enc w' r m l c left' → Kept (fun b => b = r) w w' → w'.heap.size = w.heap.size →
      (Instr.entry (.pointer (some ⟨r, 0, none⟩))).run P w' = .ok (.tuple #[.agg (enc x.a), x.v]) w' → wpList P ops Q rest (a.put o.dst (.tuple #[.bool true, .agg (enc x.a), x.v])) w') :
    wpList P ops Q (o :: rest) a w := by
  refine wpList_plain hg fun K' hK' => ?_
  unfold Oper.wp
  rcases h.next (P := P) o.type with ⟨h0, hrun⟩ | ⟨x, left', w', q1, q2, q3, q4, hrun, hen⟩
  · simp [execOp, hop, hit, hrun, Result.andThen]
    exact hK' _ _ (hDone h0)
  · simp [execOp, hop, hit, hrun, Result.andThen]
    exact hK' _ _ (hMore x left' w' q1 q2 q3 q4 hen)
end
/-- A row that is being laid stays while other blocks are written. -/
theorem RowOut.kept {α : Type} {e : TypeId} {size : Nat} {E : World → Array Value → α → Prop} {w0 w w' : World} {v : Value} {ys : List α} {M : Nat → Prop} (h : RowOut e size E w0 w v ys) (hs : Stab w0 E) (hk : Kept M w w') (h0 : ∀ b, b < w0.heap.size → ¬ M b) (h1 : ∀ g, v.ownBlock = some g → ¬ M g) : RowOut e size E w0 w' v ys := by
  obtain ⟨⟨rs, ⟨p1, p2⟩, h2⟩, h3⟩ := h
  have h4 := bel_kept h3 hk h0
  refine ⟨⟨rs, ⟨p1, p2.imp id ?_⟩, h2.imp fun r x hx => hs _ _ r x h3 h4 hx⟩, h4⟩
  rintro ⟨g, cap, cur, rfl, q1, q2, q3⟩
  exact ⟨g, cap, cur, rfl, q1, by rw [hk.block g (Array.getElem?_eq_some_iff.1 q2).1 (h1 g rfl)]; exact q2, q3⟩
end Go.Proofs.Ytadafohgglnneaa
