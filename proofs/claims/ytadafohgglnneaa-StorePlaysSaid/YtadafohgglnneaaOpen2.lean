/- What a call's arguments are, read as data: commits, rows of them, rows of addresses, calls of a cache. No condition. -/
import Derived.Test.YtadafohgglnneaaOpen
namespace Go.Proofs.Ytadafohgglnneaa
open Go.ChangeShapes Go.WideShapes Go.ChangeAt Go.RowKit
/-- A commit of chapter 13. -/
structure Op13 where
  par : Int
  l : List Acc
def Op13In (w : World) (row : Array Value) (o : Op13) : Prop := ∃ v, row = #[.int .i64 o.par, v] ∧ AccsAt AnyBlock w v o.l
/-- Rows of commits. -/
def Ops13At (w : World) (v : Value) (os : List Op13) : Prop := ∃ rs, SlIn AnyBlock w v os.length (joinR rs) ∧ All2 (Op13In w) rs os ∧ ∀ r ∈ rs, r.size = 2
/-- A call of a cache. -/
structure Op15 where
  kind : Int
  x : Acc
def Op15In (w : World) (row : Array Value) (o : Op15) : Prop := ∃ r, row = #[.int .i64 o.kind] ++ r ∧ AccIn AnyBlock w r o.x
def Ops15At (w : World) (v : Value) (os : List Op15) : Prop := ∃ rs, SlIn AnyBlock w v os.length (joinR rs) ∧ All2 (Op15In w) rs os ∧ ∀ r ∈ rs, r.size = 28
/-- A row of addresses. -/
def AdrsAt (S : Nat → Prop) (w : World) (v : Value) (l : List Adr) : Prop := SlIn S w v l.length (joinR (l.map Adr.cells))
theorem okWide_arr {P : Program} {w : World} {r : Reach} {base : Nat} {t e : TypeId} {n : Nat} {v : Value} (ht : P.underlying t = some (.array n e)) (h : Value.okWide P w r base t v) : ∃ cs, v = .agg cs ∧ cs.size = P.cellsOf t := by
  simp only [Value.okWide, ht] at h
  obtain ⟨cs, h1, h2, _⟩ := h
  exact ⟨cs, h1, h2⟩
section
variable {H : Type} {enc : TypeId × Value → H} {w : World} {base : Nat} {spare : Nat → Bool} {held : Bool}
theorem open_adrs2 {fuel : Nat} {cs : List Value} {x : DataW H × List MemPlace} (h : DataW.trod enc Try.prog w base spare held fuel 35 cs = some x) : ∃ (v : Value) (l : List Adr), cs = [v] ∧ AdrsAt AnyBlock w v l := open_adrs h
theorem open_op13 {fuel : Nat} {cs : List Value} {x : DataW H × List MemPlace} (h : DataW.trod enc Try.prog w base spare held fuel 73 cs = some x) : ∃ o, Op13In w cs.toArray o := by
  obtain ⟨xs, n, rfl, _, hl, hxl, hel⟩ := DataW.trod_struct Try.underlying73 h
  have hl2 : cs.length = 2 := by rw [hl]; kernel_rfl
  have h0 : DataW.trod enc Try.prog w base spare held n 3 ((cs.drop 0).take (Try.prog.cellsOf 3)) = xs[0]? := hel 0 _ rfl
  have h1 : DataW.trod enc Try.prog w base spare held n 32 ((cs.drop 1).take (Try.prog.cellsOf 32)) = xs[1]? := hel 1 _ rfl
  simp only [List.size_toArray, List.length_cons, List.length_nil] at hxl
  rw [List.getElem?_eq_getElem (by omega)] at h0 h1
  obtain ⟨m, hm, _, _⟩ := DataW.trod_int Try.underlying3 h0
  obtain ⟨v, ys, hv, hy⟩ := open_accs h1
  have c3 : Try.prog.cellsOf 3 = 1 := by kernel_rfl
  have c32 : Try.prog.cellsOf 32 = 1 := by kernel_rfl
  rw [c3] at hm
  rw [c32] at hv
  refine ⟨⟨m, ys⟩, v, ?_, hy⟩
  obtain ⟨a, b, rfl⟩ : ∃ a b, cs = [a, b] := by
    clear hm hv h0 h1 hel h hl
    cases cs with
    | nil => simp at hl2
    | cons a cs => cases cs with
      | nil => simp at hl2
      | cons b cs =>
        have : cs = [] := List.eq_nil_of_length_eq_zero (by simpa using hl2)
        exact ⟨a, b, by rw [this]⟩
  simp only [List.drop_zero, List.take_succ_cons, List.take_zero, List.drop_succ_cons, List.cons.injEq, and_true] at hm hv
  rw [hm, hv]
theorem open_ops13 {fuel : Nat} {cs : List Value} {x : DataW H × List MemPlace} (h : DataW.trod enc Try.prog w base spare held fuel 70 cs = some x) : ∃ (v : Value) (os : List Op13), cs = [v] ∧ Ops13At w v os := by
  obtain ⟨v, rs, xs, h1, h2, h3, h4⟩ := open_rows (E := Op13In w) Try.underlying70 (k := 2) (by kernel_rfl) (fun _ _ _ h => open_op13 h) h
  exact ⟨v, xs, h1, rs, h2, h3, h4⟩
theorem open_op15 {fuel : Nat} {cs : List Value} {x : DataW H × List MemPlace} (h : DataW.trod enc Try.prog w base spare held fuel 84 cs = some x) : ∃ o, Op15In w cs.toArray o := by
  obtain ⟨xs, n, rfl, _, hl, hxl, hel⟩ := DataW.trod_struct Try.underlying84 h
  have hl2 : cs.length = 28 := by rw [hl]; kernel_rfl
  have h0 : DataW.trod enc Try.prog w base spare held n 3 ((cs.drop 0).take (Try.prog.cellsOf 3)) = xs[0]? := hel 0 _ rfl
  have h1 : DataW.trod enc Try.prog w base spare held n 30 ((cs.drop 1).take (Try.prog.cellsOf 30)) = xs[1]? := hel 1 _ rfl
  simp only [List.size_toArray, List.length_cons, List.length_nil] at hxl
  rw [List.getElem?_eq_getElem (by omega)] at h0 h1
  obtain ⟨m, hm, _, _⟩ := DataW.trod_int Try.underlying3 h0
  obtain ⟨y, hy⟩ := open_acc h1
  have c3 : Try.prog.cellsOf 3 = 1 := by kernel_rfl
  have c30 : Try.prog.cellsOf 30 = 27 := by kernel_rfl
  rw [c3] at hm
  rw [c30] at hy
  refine ⟨⟨m, y⟩, _, ?_, hy⟩
  have : cs = (cs.drop 0).take 1 ++ (cs.drop 1).take 27 := by
    rw [List.take_of_length_le (l := cs.drop 1) (by simp; omega)]
    exact (List.take_append_drop 1 cs).symm
  rw [hm] at this
  conv => lhs; rw [this]
  simp
theorem open_ops15 {fuel : Nat} {cs : List Value} {x : DataW H × List MemPlace} (h : DataW.trod enc Try.prog w base spare held fuel 81 cs = some x) : ∃ (v : Value) (os : List Op15), cs = [v] ∧ Ops15At w v os := by
  obtain ⟨v, rs, xs, h1, h2, h3, h4⟩ := open_rows (E := Op15In w) Try.underlying81 (k := 28) (by kernel_rfl) (fun _ _ _ h => open_op15 h) h
  exact ⟨v, xs, h1, rs, h2, h3, h4⟩
end
end Go.Proofs.Ytadafohgglnneaa
