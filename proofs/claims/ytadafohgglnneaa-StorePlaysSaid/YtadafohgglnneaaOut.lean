/- Rows that a call lays by appending: one element more, a list more; told element by element. No condition. -/
import Derived.Test.YtadafohgglnneaaBase
import Derived.Test.YtadafohgglnneaaOpen2
import Derived.Test.YtadafohgglnneaaF6
import Derived.Laws.AppendOwnNone
namespace Go.Proofs.Ytadafohgglnneaa
open Go.RowKit
@[go_sem] theorem n_ne2 (n : Nat) : (n + 1 + 1 = n) = False := eq_false (by omega)
@[go_sem] theorem n_ne2' (n : Nat) : (n = n + 1 + 1) = False := eq_false (by omega)
@[go_sem] theorem n_ne3 (n : Nat) : (n + 1 + 1 + 1 = n) = False := eq_false (by omega)
@[go_sem] theorem n_ne3' (n : Nat) : (n = n + 1 + 1 + 1) = False := eq_false (by omega)
@[go_sem] theorem n_ne4 (n : Nat) : (n + 1 + 1 + 1 + 1 = n) = False := eq_false (by omega)
@[go_sem] theorem n_ne4' (n : Nat) : (n = n + 1 + 1 + 1 + 1) = False := eq_false (by omega)
@[go_sem] theorem n_ne5 (n : Nat) : (n + 1 + 1 + 1 + 1 + 1 = n) = False := eq_false (by omega)
@[go_sem] theorem n_ne5' (n : Nat) : (n = n + 1 + 1 + 1 + 1 + 1) = False := eq_false (by omega)
@[go_sem] theorem n_ne6 (n : Nat) : (n + 1 + 1 + 1 + 1 + 1 + 1 = n) = False := eq_false (by omega)
@[go_sem] theorem n_ne6' (n : Nat) : (n = n + 1 + 1 + 1 + 1 + 1 + 1) = False := eq_false (by omega)
@[go_sem] theorem n_ne7 (n : Nat) : (n + 1 + 1 + 1 + 1 + 1 + 1 + 1 = n) = False := eq_false (by omega)
@[go_sem] theorem n_ne7' (n : Nat) : (n = n + 1 + 1 + 1 + 1 + 1 + 1 + 1) = False := eq_false (by omega)
/-- What the program's table says of an element's type. -/
structure Elt (e : TypeId) (size bytes : Nat) : Prop where
  info : ∃ i z, Try.prog.info? e = some i ∧ i.zero = some z ∧ i.size = size ∧ i.bytes = bytes ∧ z.cells.size = size
  pos : 0 < size
theorem Elt.mk' {e : TypeId} {size bytes : Nat} {z : Value} (h : (Try.prog.info? e).map (fun i => (i.zero, i.size, i.bytes)) = some (some z, size, bytes)) (hz : z.cells.size = size) (hp : 0 < size) : Elt e size bytes := by
  obtain ⟨i, h1, h2, h3, h4⟩ := info_parts h
  exact ⟨⟨i, z, h1, h2, h3, h4, hz⟩, hp⟩
theorem elt30 : Elt 30 27 112 := Elt.mk' (z := .agg (accRow zeroAdr 0 zeroWrd (.slice none 0 0) (.slice none 0 0))) (by kernel_rfl) (by simp [Value.cells]) (by decide)
theorem elt23 : Elt 23 20 20 := Elt.mk' (z := .agg zeroAdr.cells) (by kernel_rfl) (by simp [Value.cells]) (by decide)
theorem elt116 : Elt 116 8 64 := Elt.mk' (z := .agg (Slt.cells ⟨zeroWrd, zeroWrd⟩)) (by kernel_rfl) (by simp [Value.cells]) (by decide)

theorem All2.imp {α : Type} {E F : Array Value → α → Prop} (f : ∀ r x, E r x → F r x) : ∀ {rs : List (Array Value)} {xs : List α}, All2 E rs xs → All2 F rs xs
  | [], [], _ => trivial
  | _ :: _, _ :: _, h => ⟨f _ _ h.1, All2.imp f h.2⟩
  | [], _ :: _, h => h.elim
  | _ :: _, [], h => h.elim
theorem All2.of_accs {S : Nat → Prop} {w : World} : ∀ {rs : List (Array Value)} {xs : List Acc}, AccsIn S w rs xs → All2 (AccIn S w) rs xs
  | [], [], _ => trivial
  | _ :: _, _ :: _, h => ⟨h.1, All2.of_accs h.2⟩
  | [], _ :: _, h => h.elim
  | _ :: _, [], h => h.elim
theorem All2.of_eq {α : Type} {f : α → Array Value} : ∀ (xs : List α), All2 (fun r x => r = f x) (xs.map f) xs
  | [] => trivial
  | _ :: xs => ⟨rfl, All2.of_eq xs⟩
theorem All2.length {α : Type} {E : Array Value → α → Prop} : ∀ {rs : List (Array Value)} {xs : List α}, All2 E rs xs → rs.length = xs.length
  | [], [], _ => rfl
  | _ :: _, _ :: _, h => by simp [All2.length h.2]
  | [], _ :: _, h => h.elim
  | _ :: _, [], h => h.elim
theorem All2.get {α : Type} {E : Array Value → α → Prop} : ∀ {rs : List (Array Value)} {xs : List α} (_ : All2 E rs xs) (i : Nat) (h1 : i < rs.length) (h2 : i < xs.length), E rs[i] xs[i]
  | _ :: _, _ :: _, h, 0, _, _ => h.1
  | _ :: _, _ :: _, h, i + 1, h1, h2 => All2.get h.2 i (by simpa using h1) (by simpa using h2)
theorem All2.rows {α : Type} {E : Array Value → α → Prop} {p : Array Value → Prop} (f : ∀ r x, E r x → p r) : ∀ {rs : List (Array Value)} {xs : List α}, All2 E rs xs → ∀ r ∈ rs, p r
  | [], [], _, _, h => by simp at h
  | r :: rs, x :: xs, h, r', hr => by
    rcases List.mem_cons.1 hr with e | e
    · rw [e]; exact f _ _ h.1
    · exact All2.rows f h.2 _ e
  | [], _ :: _, h, _, _ => h.elim
  | _ :: _, [], h, _, _ => h.elim

/-- A slice of elements of 'size' cells each. -/
def RowsAt {α : Type} (S : Nat → Prop) (E : World → Array Value → α → Prop) (w : World) (v : Value) (ys : List α) : Prop := ∃ rs, SlIn S w v ys.length (joinR rs) ∧ All2 (E w) rs ys
theorem RowsAt.of_accs {S : Nat → Prop} {w : World} {v : Value} {ys : List Acc} (h : AccsAt S w v ys) : RowsAt S (AccIn S) w v ys := let ⟨rs, h1, h2⟩ := h; ⟨rs, h1, All2.of_accs h2⟩
theorem RowsAt.accs {S : Nat → Prop} {w : World} {v : Value} {ys : List Acc} (h : RowsAt S (AccIn S) w v ys) : AccsAt S w v ys := let ⟨rs, h1, h2⟩ := h; ⟨rs, h1, h2.accs⟩
/-- What is told of an element stands as long as what lay in w0 stands. -/
def Stab {α : Type} (w0 : World) (E : World → Array Value → α → Prop) : Prop := ∀ w1 w2 r y, Below w0.heap.size w0 w1 → Below w0.heap.size w0 w2 → E w1 r y → E w2 r y
theorem Stab.acc {T : Nat → Prop} {w0 : World} (hT : ∀ b, T b → b < w0.heap.size) : Stab w0 (AccIn T) := fun _ _ _ _ h1 h2 h => h.same fun b _ hb => by rw [h2.block b (hT b hb), h1.block b (hT b hb)]
theorem Stab.eq {α : Type} {w0 : World} {f : α → Array Value} : Stab w0 (fun _ r y => r = f y) := fun _ _ _ _ _ _ h => h
/-- A row of elements that is being laid since the world w0. -/
structure RowOut {α : Type} (e : TypeId) (size : Nat) (E : World → Array Value → α → Prop) (w0 w : World) (v : Value) (ys : List α) : Prop where
  st : ∃ rs, w.ownsRow w0.heap.size e size v ys.length (joinR rs).toList ∧ All2 (E w) rs ys
  bel : Below w0.heap.size w0 w
theorem ownsRow_below' {base : Nat} {w w' : World} {e : TypeId} {size : Nat} {v : Value} {n : Nat} {xs : List Value} (h : w.ownsRow base e size v n xs) (hb : Below w.heap.size w w') : w'.ownsRow base e size v n xs := by
  obtain ⟨p1, p2⟩ := h
  refine ⟨p1, p2.imp id ?_⟩
  rintro ⟨g, cap, cur, q1, q2, q3, q4⟩
  exact ⟨g, cap, cur, q1, q2, by rw [hb.block g (Array.getElem?_eq_some_iff.1 q3).1]; exact q3, q4⟩
section
variable {α : Type} {e : TypeId} {size bytes : Nat} {E : World → Array Value → α → Prop} {w0 w w' : World} {v : Value} {ys : List α}
theorem RowOut.below (h : RowOut e size E w0 w v ys) (hs : Stab w0 E) (hb : Below w.heap.size w w') : RowOut e size E w0 w' v ys := by
  obtain ⟨⟨rs, h1, h2⟩, h3⟩ := h
  have h4 := bel_trans h3 hb
  exact ⟨⟨rs, ownsRow_below' h1 hb, h2.imp fun r x hx => hs _ _ r x h3 h4 hx⟩, h4⟩
theorem RowOut.form (h : RowOut e size E w0 w v ys) : ∃ p c, v = .slice p ys.length c := by
  obtain ⟨⟨rs, ⟨_, h2⟩, _⟩, _⟩ := h
  rcases h2 with ⟨rfl, h0⟩ | ⟨g, cap, cur, rfl, _⟩
  · exact ⟨none, 0, by rw [h0]⟩
  · exact ⟨_, _, rfl⟩
theorem RowOut.base (h : RowOut e size E w0 w v ys) : ∀ k, v.ownBlock = some k → w0.heap.size ≤ k ∧ k < w.heap.size := by
  obtain ⟨⟨rs, ⟨_, h2⟩, _⟩, _⟩ := h
  rcases h2 with ⟨rfl, h0⟩ | ⟨g, cap, cur, rfl, hb, hg, _⟩
  · intro k hk; simp [Value.ownBlock] at hk
  · intro k hk
    simp [Value.ownBlock] at hk
    subst hk
    exact ⟨hb, (Array.getElem?_eq_some_iff.1 hg).1⟩
theorem RowOut.nil (hb : Below w0.heap.size w0 w) : RowOut e size E w0 w (.slice none 0 0) [] := ⟨⟨[], ⟨by simp, .inl ⟨rfl, rfl⟩⟩, trivial⟩, hb⟩
/-- '[]T{}'. -/
theorem RowOut.made (hb : Below w0.heap.size w0 w) (g : Nat) (hg : w0.heap.size ≤ g) (ho : w.heap[g]? = some (.cells #[] e (0, 0))) : RowOut e size E w0 w (.slice (some ⟨g, 0, none⟩) 0 0) [] :=
  ⟨⟨[], ⟨by simp, .inr ⟨g, 0, #[], rfl, hg, ho, Nat.le_refl _, by decide, by simp, by simp⟩⟩, trivial⟩, hb⟩
theorem RowOut.made' (hb : Below w0.heap.size w0 w) (hg : w0.heap.size ≤ w.heap.size) : RowOut e size E w0 (w.alloc (.cells #[] e)) (.slice (some ⟨w.heap.size, 0, none⟩) 0 0) [] :=
  RowOut.made (bel_alloc hb _) _ hg (heap_alloc_new w _)
/-- Read as a slice. -/
theorem RowOut.rows (h : RowOut e size E w0 w v ys) : RowsAt (fun b => w0.heap.size ≤ b ∧ b < w.heap.size) E w v ys := by
  obtain ⟨⟨rs, h1, h2⟩, _⟩ := h
  have := ownsRow_seg h1
  rw [Array.toArray_toList] at this
  exact ⟨rs, this, h2⟩
theorem RowOut.accs {T : Nat → Prop} {w0 w : World} {v : Value} {ys : List Acc} {e : TypeId} {size : Nat} (h : RowOut e size (AccIn T) w0 w v ys) {S : Nat → Prop} (h1 : ∀ b, T b → S b) (h2 : ∀ b, w0.heap.size ≤ b → b < w.heap.size → S b) : AccsAt S w v ys := by
  obtain ⟨rs, p1, p2⟩ := h.rows
  exact ⟨rs, p1.mono (fun b hb => h2 b hb.1 hb.2), p2.accs.imp fun _ _ h => h.mono h1⟩
/-- What appending a slice's elements makes: the run. -/
theorem run_append_out (hE : Elt e size bytes) (hst : Stab w0 E) {t : TypeId} (ht : Try.prog.underlying t = some (.slice e)) (ty : TypeId) (h : RowOut e size E w0 w v ys) {S : Nat → Prop} {sv : Value} {zs : List α} {rz : List (Array Value)}
    (hz : SlIn S w sv zs.length (joinR rz)) (hzs : All2 (E w) rz zs) (hsz : ∀ r ∈ rz, r.size = size ∧ ones r = true) (hlen : (ys.length + zs.length) * bytes ≤ 140737488355328) (hmx : ys.length + zs.length ≤ maxLen) :
    ∃ v' w', (Builtin.append_ #[t, t] ty #[v, sv]).run Try.prog w = .ok v' w' ∧ RowOut e size E w0 w' v' (ys ++ zs) ∧ Kept (fun k => v.ownBlock = some k) w w' ∧
      (0 < zs.length → ∃ g' c', v' = .slice (some ⟨g', 0, none⟩) (ys.length + zs.length) c' ∧ (v.ownBlock = some g' ∨ w.heap.size ≤ g')) := by
  obtain ⟨⟨i, z, i1, i2, i3, i4, i5⟩, hp⟩ := hE
  have hbase := h.base
  have hform := h.form
  have h0 := h
  obtain ⟨⟨rs, h1, h2⟩, h3⟩ := h
  have hjz : (joinR rz).size = zs.length * size := by rw [joinR_size size rz (fun r hr => (hsz r hr).1), hzs.length]
  have hone : ones (joinR rz) = true := joinR_one fun r hr => (hsz r hr).2
  have hb0 := h3.size
  have fin : ∀ w' v', w'.ownsRow w0.heap.size e size v' (ys.length + zs.length) ((joinR rs).toList ++ (joinR rz).toList) → w.grownBy w' v.ownBlock → RowOut e size E w0 w' v' (ys ++ zs) ∧ Kept (fun k => v.ownBlock = some k) w w' := by
    intro w' v' p1 p2
    have hbel : Below w0.heap.size w0 w' := bel_grown h3 p2 (fun k hk => (hbase k hk).1)
    refine ⟨⟨⟨rs ++ rz, ?_, ?_⟩, hbel⟩, ⟨p2.os, p2.tape, p2.output, p2.size, fun k hk hm => p2.block k hk (fun e => hm e.symm)⟩⟩
    · rw [joinR_append, List.length_append, Array.toList_append]; exact p1
    · exact All2.append (h2.imp fun r x hx => hst _ _ r x h3 hbel hx) (hzs.imp fun r x hx => hst _ _ r x h3 hbel hx)
  rcases hz with ⟨rfl, hz1, hz2⟩ | ⟨a, c, rfl, hnc, hcm, hseg⟩
  · have hrun := run_append_owned_none (P := Try.prog) (w := w) w0.heap.size t ty e i size ht i1 v ys.length (joinR rs).toList h1
    have hzn : zs = [] := List.eq_nil_of_length_eq_zero hz1
    subst hzn
    refine ⟨v, w, hrun, by simpa using h0, Kept.refl _ _, fun h => by simp at h⟩
  · have hnews := segIn_cells hseg
    by_cases hm : 0 < zs.length
    · obtain ⟨v', w', hrun, r1, r2, g', c', r3, r4⟩ := run_append_mine (P := Try.prog) w0.heap.size t ty e i z size bytes ht i1 i2 i3 i4 i5 hp v ys.length (joinR rs).toList h1 a zs.length c (joinR rz).toList hm (by simpa using hjz) hnews (ones_list hone) hmx hlen hb0
      obtain ⟨f1, f2⟩ := fin w' v' r1 r2
      exact ⟨v', w', hrun, f1, f2, fun _ => ⟨g', c', r3, r4⟩⟩
    · obtain ⟨v', w', hrun, r1, r2, _⟩ := run_append_own (P := Try.prog) w w0.heap.size t ty e i z size bytes ht i1 i2 i3 i4 i5 hp v ys.length (joinR rs).toList h1 a zs.length c (joinR rz).toList (by simpa using hjz) hnews (ones_list hone) hmx hlen hb0
      obtain ⟨f1, f2⟩ := fin w' v' r1 r2
      exact ⟨v', w', hrun, f1, f2, fun h => absurd h hm⟩
/-- One element, just laid into block b. -/
theorem one_seg {b : Nat} {row : Array Value} (hb : rowOf w b = row) (hr : 0 < row.size) : SlIn (fun _ => True) w (.slice (some ⟨b, 0, none⟩) 1 1) 1 (joinR [row]) := by
  refine .inr ⟨_, _, rfl, Nat.le_refl _, by decide, .inr ⟨rfl, trivial, ?_, ?_⟩⟩
  · simp [hb]
  · simp [hb]
end
section
variable {α : Type} {e : TypeId} {size bytes : Nat} {E : World → Array Value → α → Prop} {w0 w : World} {v : Value} {ys : List α}
/-- 'append(out, y)' in a row of operations: y lies in block b. -/
theorem wpList_append_out {ops : Array Oper} {rest : List Oper} {o : Oper} {a : Act} {Q : Exit → Act → World → Prop} (hgd : o.guard = none) (s x : Operand) (t : TypeId)
    (hop : o.op = .call { callee := .builtin .append, args := #[s, x], argTypes := #[t, t] }) (hE : Elt e size bytes) (ht : Try.prog.underlying t = some (.slice e)) (hst : Stab w0 E)
    (h : RowOut e size E w0 w v ys) (hs : a.eval s = v) (b : Nat) (row : Array Value) (y : α) (hx : a.eval x = .slice (some ⟨b, 0, none⟩) 1 1) (hb : rowOf w b = row) (hr : row.size = size) (h1 : ones row = true) (hy : E w row y)
    (hlen : (ys.length + 1) * bytes ≤ 140737488355328) (hmx : ys.length + 1 ≤ maxLen)
    (hK : ∀ g' c' w', RowOut e size E w0 w' (.slice (some ⟨g', 0, none⟩) (ys.length + 1) c') (ys ++ [y]) → Kept (fun k => v.ownBlock = some k) w w' → (v.ownBlock = some g' ∨ w.heap.size ≤ g') → wpList Try.prog ops Q rest (a.put o.dst (.slice (some ⟨g', 0, none⟩) (ys.length + 1) c')) w') :
    wpList Try.prog ops Q (o :: rest) a w := by
  obtain ⟨v', w', hrun, r1, r2, r3⟩ := run_append_out hE hst ht o.type h (sv := .slice (some ⟨b, 0, none⟩) 1 1) (zs := [y]) (rz := [row]) (one_seg hb (by have := hE.pos; omega)) ⟨hy, trivial⟩ (fun r hr' => by simp at hr'; subst hr'; exact ⟨hr, h1⟩) hlen hmx
  obtain ⟨g', c', rfl, r4⟩ := r3 (by simp)
  refine wpList_plain hgd fun _ hKK => ?_
  unfold Oper.wp
  simp [execOp, hop, resolve, invoke, builtin, hs, hx, hrun, Result.andThen]
  exact hKK _ _ (hK _ _ _ r1 r2 r4)
/-- 'append(out, l...)' in a row of operations. -/
theorem wpList_append_outs {ops : Array Oper} {rest : List Oper} {o : Oper} {a : Act} {Q : Exit → Act → World → Prop} (hgd : o.guard = none) (s x : Operand) (t : TypeId)
    (hop : o.op = .call { callee := .builtin .append, args := #[s, x], argTypes := #[t, t] }) (hE : Elt e size bytes) (ht : Try.prog.underlying t = some (.slice e)) (hst : Stab w0 E)
    (h : RowOut e size E w0 w v ys) (hs : a.eval s = v) {S : Nat → Prop} (sv : Value) (zs : List α) (hx : a.eval x = sv) (hz : RowsAt S E w sv zs) (hsz : ∀ r y, E w r y → r.size = size ∧ ones r = true)
    (hlen : (ys.length + zs.length) * bytes ≤ 140737488355328) (hmx : ys.length + zs.length ≤ maxLen)
    (hK : ∀ v' w', RowOut e size E w0 w' v' (ys ++ zs) → Kept (fun k => v.ownBlock = some k) w w' → wpList Try.prog ops Q rest (a.put o.dst v') w') :
    wpList Try.prog ops Q (o :: rest) a w := by
  obtain ⟨rz, z1, z2⟩ := hz
  obtain ⟨v', w', hrun, r1, r2, r3⟩ := run_append_out hE hst ht o.type h z1 z2 (All2.rows hsz z2) hlen hmx
  refine wpList_plain hgd fun _ hKK => ?_
  unfold Oper.wp
  simp [execOp, hop, resolve, invoke, builtin, hs, hx, hrun, Result.andThen]
  exact hKK _ _ (hK _ _ r1 r2)
/-- 'append(out, y)' as one step of a region that draws its order. -/
theorem step_append_out {ops : Array Oper} {o : Oper} {a : Act} {K : Act → World → Prop} {Q : Exit → Act → World → Prop} {F : Prop} (hgd : o.guard = none) (s x : Operand) (t : TypeId)
    (hop : o.op = .call { callee := .builtin .append, args := #[s, x], argTypes := #[t, t] }) (hE : Elt e size bytes) (ht : Try.prog.underlying t = some (.slice e)) (hst : Stab w0 E)
    (h : RowOut e size E w0 w v ys) (hs : a.eval s = v) (b : Nat) (row : Array Value) (y : α) (hx : a.eval x = .slice (some ⟨b, 0, none⟩) 1 1) (hb : rowOf w b = row) (hr : row.size = size) (h1 : ones row = true) (hy : E w row y)
    (hlen : (ys.length + 1) * bytes ≤ 140737488355328) (hmx : ys.length + 1 ≤ maxLen)
    (hK : ∀ g' c' w', RowOut e size E w0 w' (.slice (some ⟨g', 0, none⟩) (ys.length + 1) c') (ys ++ [y]) → Kept (fun k => v.ownBlock = some k) w w' → (v.ownBlock = some g' ∨ w.heap.size ≤ g') → K (a.put o.dst (.slice (some ⟨g', 0, none⟩) (ys.length + 1) c')) w') :
    if Region.wanted o (yielded ops a.tmps) = true then Oper.wp Try.prog o a w K Q else F := by
  have hw : Region.wanted o (yielded ops a.tmps) = true := by simp [Region.wanted, hgd]
  rw [if_pos hw]
  obtain ⟨v', w', hrun, r1, r2, r3⟩ := run_append_out hE hst ht o.type h (sv := .slice (some ⟨b, 0, none⟩) 1 1) (zs := [y]) (rz := [row]) (one_seg hb (by have := hE.pos; omega)) ⟨hy, trivial⟩ (fun r hr' => by simp at hr'; subst hr'; exact ⟨hr, h1⟩) hlen hmx
  obtain ⟨g', c', rfl, r4⟩ := r3 (by simp)
  unfold Oper.wp
  simp [execOp, hop, resolve, invoke, builtin, hs, hx, hrun, Result.andThen]
  exact hK _ _ _ r1 r2 r4
end
end Go.Proofs.Ytadafohgglnneaa
