/- A row of accounts whose lists are one's own, too; a set of addresses in a map; ranging over a map that may be nil. No condition. -/
import Derived.Test.YtadafohgglnneaaA0
import Derived.Test.YtadafohgglnneaaR1
import Derived.Test.YtadafohgglnneaaX16
import Derived.Test.YtadafohgglnneaaX11
namespace Go.Proofs.Ytadafohgglnneaa
open Go.RowKit
/-- A row of accounts laid since w0: its cells in a row of one's own, its lists in blocks of one's own, none of them in N. -/
structure AccOut (N : Nat → Prop) (w0 w : World) (v : Value) (ys : List Acc) : Prop where
  st : ∃ rs, w.ownsRow w0.heap.size 30 27 v ys.length (joinR rs).toList ∧ AccsIn (fun b => w0.heap.size ≤ b ∧ b < w.heap.size ∧ ¬ N b ∧ v.ownBlock ≠ some b ∧ openB w b = true) w rs ys
  bel : Below w0.heap.size w0 w
  nb : ∀ g, v.ownBlock = some g → ¬ N g
section
variable {N : Nat → Prop} {w0 w w' : World} {v : Value} {ys : List Acc}
theorem AccOut.form (h : AccOut N w0 w v ys) : ∃ p c, v = .slice p ys.length c := by
  obtain ⟨⟨rs, ⟨_, h2⟩, _⟩, _⟩ := h
  rcases h2 with ⟨rfl, h0⟩ | ⟨g, cap, cur, rfl, _⟩
  · exact ⟨none, 0, by rw [h0]⟩
  · exact ⟨_, _, rfl⟩
theorem AccOut.base (h : AccOut N w0 w v ys) : ∀ k, v.ownBlock = some k → w0.heap.size ≤ k ∧ k < w.heap.size := by
  obtain ⟨⟨rs, ⟨_, h2⟩, _⟩, _⟩ := h
  rcases h2 with ⟨rfl, h0⟩ | ⟨g, cap, cur, rfl, hb, hg, _⟩
  · intro k hk; simp [Value.ownBlock] at hk
  · intro k hk
    simp [Value.ownBlock] at hk
    subst hk
    exact ⟨hb, (Array.getElem?_eq_some_iff.1 hg).1⟩
theorem AccOut.nil (hb : Below w0.heap.size w0 w) : AccOut N w0 w (.slice none 0 0) [] := ⟨⟨[], ⟨by simp, .inl ⟨rfl, rfl⟩⟩, trivial⟩, hb, fun g hg => by simp [Value.ownBlock] at hg⟩
theorem AccOut.kept {M : Nat → Prop} (h : AccOut N w0 w v ys) (hk : Kept M w w') (hM : ∀ b, M b → N b ∧ w0.heap.size ≤ b) : AccOut N w0 w' v ys := by
  obtain ⟨⟨rs, ⟨p1, p2⟩, h2⟩, h3, h4⟩ := h
  have hz := hk.size
  refine ⟨⟨rs, ⟨p1, p2.imp id ?_⟩, h2.imp fun r y hy => (hy.kept hk (fun b hb hm => hb.2.2.1 (hM b hm).1)).mono fun b hb => ⟨hb.1, by omega, hb.2.2.1, hb.2.2.2.1, by rw [openB_same (hk.block b hb.2.1 (fun hm => hb.2.2.1 (hM b hm).1))]; exact hb.2.2.2.2⟩⟩, bel_kept h3 hk (fun x hx hm => by have := (hM x hm).2; omega), h4⟩
  rintro ⟨g, cap, cur, rfl, q1, q2, q3⟩
  exact ⟨g, cap, cur, rfl, q1, by rw [hk.block g (Array.getElem?_eq_some_iff.1 q2).1 (fun hm => h4 g rfl (hM g hm).1)]; exact q2, q3⟩
theorem AccOut.below (h : AccOut N w0 w v ys) (hb : Below w.heap.size w w') : AccOut N w0 w' v ys := h.kept (M := fun _ => False) (.of_below hb) (fun _ h => h.elim)
/-- Blocks that are new are apart. -/
theorem AccOut.more {N' : Nat → Prop} (h : AccOut N w0 w v ys) (hN : ∀ b, b < w.heap.size → N' b → N b) : AccOut N' w0 w v ys := by
  have hb := h.base
  obtain ⟨⟨rs, p, h2⟩, h3, h4⟩ := h
  exact ⟨⟨rs, p, h2.imp fun r y hy => hy.mono fun b hb => ⟨hb.1, hb.2.1, fun e => hb.2.2.1 (hN b hb.2.1 e), hb.2.2.2⟩⟩, h3, fun g hg e => h4 g hg (hN g (hb g hg).2 e)⟩
theorem AccOut.accs (h : AccOut N w0 w v ys) : AccsAt (fun b => w0.heap.size ≤ b ∧ b < w.heap.size ∧ ¬ N b) w v ys := by
  have hb := h.base
  obtain ⟨⟨rs, p, h2⟩, h3, h4⟩ := h
  have hs := ownsRow_seg p
  rw [Array.toArray_toList] at hs
  refine ⟨rs, ?_, h2.imp fun r y hy => hy.mono fun b hb => ⟨hb.1, hb.2.1, hb.2.2.1⟩⟩
  rcases hs with h5 | ⟨a, c, rfl, e1, e2, e3⟩
  · exact .inl h5
  · refine .inr ⟨a, c, rfl, e1, e2, ?_⟩
    rcases e3 with e3 | ⟨e3, e4, e5, e6⟩
    · exact .inl e3
    · exact .inr ⟨e3, ⟨e4.1, e4.2, h4 _ rfl⟩, e5, e6⟩
/-- What one account more makes: the run. -/
theorem run_append_accOut {t : TypeId} (ht : Try.prog.underlying t = some (.slice 30)) (ty : TypeId) {w1 : World} (h : AccOut N w0 w1 v ys) (hb : Below w1.heap.size w1 w) (hN : ∀ b, N b → b < w1.heap.size) (b : Nat) (row : Array Value) (y : Acc) (hr : rowOf w b = row)
    (hy : AccIn (fun k => w1.heap.size ≤ k ∧ k < w.heap.size ∧ openB w k = true) w row y) (hlen : ys.length ≤ 1000000) :
    ∃ g' c' w', (Builtin.append_ #[t, t] ty #[v, .slice (some ⟨b, 0, none⟩) 1 1]).run Try.prog w = .ok (.slice (some ⟨g', 0, none⟩) (ys.length + 1) c') w' ∧ AccOut N w0 w' (.slice (some ⟨g', 0, none⟩) (ys.length + 1) c') (ys ++ [y]) ∧ Kept (fun k => v.ownBlock = some k) w w' := by
  have hbase := h.base
  have h2 := h.below hb
  obtain ⟨i30, hi, hz0, hz1, hz2⟩ := info_parts (show (Try.prog.info? 30).map (fun i => (i.zero, i.size, i.bytes)) = some (some (.agg (accRow zeroAdr 0 zeroWrd (.slice none 0 0) (.slice none 0 0))), 27, 112) by kernel_rfl)
  have hz := hb.size
  have hrz := hy.size
  have h0 := h.bel.size
  obtain ⟨⟨rs, p, q⟩, h3, h4⟩ := h2
  obtain ⟨v', w', hrun, r1, r2, g', c', rfl, r3⟩ := run_append_mine (P := Try.prog) w0.heap.size t ty 30 i30 (.agg (accRow zeroAdr 0 zeroWrd (.slice none 0 0) (.slice none 0 0))) 27 112 ht hi hz0 hz1 hz2 (by simp [Value.cells]) (by decide) v ys.length (joinR rs).toList p
    ⟨b, 0, none⟩ 1 1 row.toList (by decide) (by simp [hrz]) (fun j u hu => by rw [Addr.add_lit, cell_row, hr, Nat.zero_add]; simpa using hu) (ones_list hy.one) (by unfold maxLen; omega) (by omega) h3.size
  have hK : Kept (fun k => v.ownBlock = some k) w w' := ⟨r2.os, r2.tape, r2.output, r2.size, fun k hk hm => r2.block k hk (fun e => hm e.symm)⟩
  have hz' := r2.size
  have hg'b : w0.heap.size ≤ g' := by
    rcases r3 with r3 | r3
    · exact (hbase g' r3).1
    · omega
  refine ⟨g', c', w', hrun, ⟨⟨rs ++ [row], ?_, (q.imp fun r x hx => ?_).append ⟨?_, trivial⟩⟩, bel_kept h3 hK (fun x hx e => by have := hbase x e; omega), fun g hg => ?_⟩, hK⟩
  · rw [joinR_append, List.length_append]
    simpa using r1
  · refine (hx.kept hK (fun k hk e => hk.2.2.2.1 e)).mono fun k hk => ⟨hk.1, by omega, hk.2.2.1, fun e => ?_, by rw [openB_same (hK.block k hk.2.1 (fun e => hk.2.2.2.1 e))]; exact hk.2.2.2.2⟩
    simp [Value.ownBlock] at e
    subst e
    rcases r3 with r3 | r3
    · exact hk.2.2.2.1 r3
    · omega
  · refine (hy.kept hK (fun k hk e => by have := hbase k e; omega)).mono fun k hk => ⟨by omega, by omega, fun e => by have := hN k e; omega, fun e => ?_, by rw [openB_same (hK.block k hk.2.1 (fun e => by have := hbase k e; omega))]; exact hk.2.2⟩
    simp [Value.ownBlock] at e
    subst e
    rcases r3 with r3 | r3
    · have := hbase _ r3; omega
    · omega
  · simp [Value.ownBlock] at hg
    subst hg
    rcases r3 with r3 | r3
    · exact h4 _ r3
    · intro e; have := hN _ e; omega
theorem wpList_append_accOut {ops : Array Oper} {rest : List Oper} {o : Oper} {a : Act} {Q : Exit → Act → World → Prop} (hgd : o.guard = none) (s x : Operand) (t : TypeId)
    (hop : o.op = .call { callee := .builtin .append, args := #[s, x], argTypes := #[t, t] }) (ht : Try.prog.underlying t = some (.slice 30)) {w1 : World} (h : AccOut N w0 w1 v ys) (hs : a.eval s = v) (hb : Below w1.heap.size w1 w) (hN : ∀ b, N b → b < w1.heap.size)
    (b : Nat) (row : Array Value) (y : Acc) (hx : a.eval x = .slice (some ⟨b, 0, none⟩) 1 1) (hr : rowOf w b = row) (hy : AccIn (fun k => w1.heap.size ≤ k ∧ k < w.heap.size ∧ openB w k = true) w row y) (hlen : ys.length ≤ 1000000)
    (hK : ∀ g' c' w', AccOut N w0 w' (.slice (some ⟨g', 0, none⟩) (ys.length + 1) c') (ys ++ [y]) → Kept (fun k => v.ownBlock = some k) w w' → wpList Try.prog ops Q rest (a.put o.dst (.slice (some ⟨g', 0, none⟩) (ys.length + 1) c')) w') :
    wpList Try.prog ops Q (o :: rest) a w := by
  obtain ⟨g', c', w', hrun, r1, r2⟩ := run_append_accOut ht o.type h hb hN b row y hr hy hlen
  refine wpList_plain hgd fun _ hKK => ?_
  unfold Oper.wp
  simp [execOp, hop, resolve, invoke, builtin, hs, hx, hrun, Result.andThen]
  exact hKK _ _ (hK _ _ _ r1 r2)
end
/-! ### a set of addresses, in a map of bools (type 150) -/
theorem look150 (w : World) (r : Nat) (l : List (Ent Adr)) (c : Nat) (h : objAt w r = some (mapObj Adr.cells l c)) (a : Adr) (ok : Bool) :
    (Instr.lookup 150 (.map (some r)) (.agg a.cells) ok).run Try.prog w = .ok (if ok then .tuple #[(findE a l).getD (.bool false), .bool (findE a l).isSome] else (findE a l).getD (.bool false)) w :=
  run_lookup_ent Adr.cells equal23 wide23 check23 Try.underlying150 w r l c h a ok _ (Try.zeroValue4 w)
theorem upd150 (w : World) (r : Nat) (l : List (Ent Adr)) (c : Nat) (h : objAt w r = some (mapObj Adr.cells l c)) (hd : (l.map (·.a)).Nodup) (a : Adr) (v : Value) :
    (Instr.mapUpdate 150 (.map (some r)) (.agg a.cells) v).run Try.prog w = .ok () (World.setMap w r (mapObj Adr.cells (putE a v c l) (putC a c l))) :=
  run_update_ent Adr.cells equal23 wide23 check23 Try.underlying150 same23 w r l c h hd a v
/-- Block m is a map of bools that holds just the addresses that K says. -/
def SeenAt (w : World) (m : Nat) (K : Adr → Bool) : Prop := ∃ l c, objAt w m = some (mapObj Adr.cells l c) ∧ Tidy l c ∧ ∀ a, findE a l = if K a then some (.bool true) else none
theorem SeenAt.kept {M : Nat → Prop} {w w' : World} {m : Nat} {K : Adr → Bool} (h : SeenAt w m K) (hk : Kept M w w') (hm : ¬ M m) : SeenAt w' m K := by
  obtain ⟨l, c, h1, h2, h3⟩ := h
  exact ⟨l, c, by rw [hk.obj m (objAt_lt h1) hm]; exact h1, h2, h3⟩
theorem SeenAt.lt {w : World} {m : Nat} {K : Adr → Bool} (h : SeenAt w m K) : m < w.heap.size := by obtain ⟨l, c, h1, _⟩ := h; exact objAt_lt h1
theorem SeenAt.look {w : World} {m : Nat} {K : Adr → Bool} (h : SeenAt w m K) (a : Adr) : (Instr.lookup 150 (.map (some m)) (.agg a.cells) false).run Try.prog w = .ok (.bool (K a)) w := by
  obtain ⟨l, c, h1, h2, h3⟩ := h
  rw [look150 w m l c h1 a false, h3]
  cases K a <;> rfl
theorem findE_put {K : Type} [DecidableEq K] (a b : K) (v : Value) (c : Nat) (l : List (Ent K)) : findE b (putE a v c l) = if b = a then some v else findE b l := by
  unfold putE
  split
  · rename_i hs
    by_cases h : b = a
    · subst h
      rw [if_pos rfl]
      obtain ⟨u, hu⟩ := Option.isSome_iff_exists.1 hs
      clear hs
      induction l with
      | nil => simp [findE] at hu
      | cons x l ih =>
        simp only [findE, List.map_cons, List.find?_cons] at hu ih ⊢
        by_cases e : x.a = b
        · simp [e]
        · simp only [e, decide_false, if_false] at hu ⊢
          exact ih hu
    · rw [if_neg h]
      clear hs
      induction l with
      | nil => rfl
      | cons x l ih =>
        simp only [findE, List.map_cons, List.find?_cons] at ih ⊢
        by_cases e : x.a = a
        · have h2 : decide (x.a = b) = false := decide_eq_false fun e2 => h (by rw [← e2, e])
          rw [if_pos e]
          simp only [h2]; exact ih
        · simp only [if_neg e]
          by_cases e2 : x.a = b
          · simp [e2]
          · simp only [e2, decide_false]; exact ih
  · rename_i hs
    have hn : findE a l = none := by simpa using hs
    by_cases h : b = a
    · subst h
      simp only [findE, Option.map_eq_none_iff] at hn
      simp [findE, List.find?_append, hn]
    · have h' : ¬ a = b := fun e => h e.symm
      simp [findE, List.find?_append, h, h']
theorem SeenAt.put {w : World} {m : Nat} {K : Adr → Bool} (h : SeenAt w m K) (a : Adr) :
    ∃ w', (Instr.mapUpdate 150 (.map (some m)) (.agg a.cells) (.bool true)).run Try.prog w = .ok () w' ∧ SeenAt w' m (fun b => decide (b = a) || K b) ∧ Kept (fun b => b = m) w w' ∧ w'.heap.size = w.heap.size := by
  obtain ⟨l, c, h1, h2, h3⟩ := h
  refine ⟨_, upd150 w m l c h1 h2.1 a _, ⟨_, _, objAt_setMap_same _ _ _ (objAt_lt h1), h2.put _ _, fun b => ?_⟩, (Kept.refl _ w).setMap _ _ (.inl rfl), by simp⟩
  rw [findE_put, h3]
  by_cases e : b = a <;> simp [e]
end Go.Proofs.Ytadafohgglnneaa
