/- The store's All: a version's accounts that aren't empty, by rising addresses, each list one's own. No condition. -/
import Derived.Test.YtadafohgglnneaaA2
import Derived.Test.YtadafohgglnneaaK3
import Derived.Test.YtadafohgglnneaaS3
namespace Go.Proofs.Ytadafohgglnneaa
open Go.RowKit
theorem KnIn.ent {S : Nat → Prop} {w : World} {l : List (Ent Adr)} {m : List Acc} (h : KnIn S w l m) (hd : (l.map (·.a)).Nodup) {x : Ent Adr} (hx : x ∈ l) : ∃ r y, x.v = .agg r ∧ findK x.a m = some y ∧ y.adr = x.a ∧ AccIn S w r y := by
  have h1 := findE_mem hd hx
  rcases h.find x.a with ⟨h2, _⟩ | ⟨r, y, h2, h3, h4, h5⟩
  · rw [h2] at h1; cases h1
  · rw [h2] at h1
    exact ⟨r, y, (Option.some.inj h1).symm, h3, h4, h5⟩
/-- A version's map as a list of entries. -/
def RangeOk (w : World) (mo : Option Nat) (kn : List (Ent Adr)) (kc : Nat) : Prop := match mo with
  | some m => objAt w m = some (mapObj Adr.cells kn kc) ∧ (kn.map (·.n)).Nodup ∧ ∀ x ∈ kn, x.n < kc
  | none => kn = []
/-- An iterator over a map that may be nil. -/
def IterO (w : World) (r : Nat) (mo : Option Nat) (l : List (Ent Adr)) (c : Nat) (left : List (Ent Adr)) : Prop := match mo with
  | some m => IterAt Adr.cells w r m l c left
  | none => left = [] ∧ ∃ a s b, w.heap[r]? = some (.mapIter none a s b)
def World.leftAt (w : World) (r : Nat) : Nat := match w.heap[r]? with
  | some (.mapIter (some m) _ _ _) => w.rangeLeft m r
  | _ => 0
theorem IterO.left_eq {w : World} {r : Nat} {mo : Option Nat} {l : List (Ent Adr)} {c : Nat} {left : List (Ent Adr)} (h : IterO w r mo l c left) : World.leftAt w r = left.length := by
  cases mo with
  | none =>
    obtain ⟨rfl, a, s, b, h2⟩ := h
    simp [World.leftAt, h2]
  | some m =>
    have h2 := IterAt.left_eq h
    obtain ⟨⟨since, seen, c0, p1, _⟩, _⟩ := (h : IterAt Adr.cells w r m l c left)
    simp only [World.leftAt, p1]
    exact h2
theorem IterO.lt {w : World} {r : Nat} {mo : Option Nat} {l : List (Ent Adr)} {c : Nat} {left : List (Ent Adr)} (h : IterO w r mo l c left) : r < w.heap.size := by
  cases mo with
  | none => obtain ⟨_, a, s, b, h2⟩ := h; exact (Array.getElem?_eq_some_iff.1 h2).1
  | some m => exact (IterAt.lt h).1
theorem IterO.kept {M : Nat → Prop} {w w' : World} {r : Nat} {mo : Option Nat} {l : List (Ent Adr)} {c : Nat} {left : List (Ent Adr)} (h : IterO w r mo l c left) (hk : Kept M w w') (h1 : ¬ M r) (h2 : ∀ m, mo = some m → ¬ M m) : IterO w' r mo l c left := by
  cases mo with
  | none =>
    obtain ⟨h0, a, s, b, h3⟩ := h
    exact ⟨h0, a, s, b, by rw [hk.block r (Array.getElem?_eq_some_iff.1 h3).1 h1]; exact h3⟩
  | some m => exact IterAt.kept h hk h1 (h2 m rfl)
section
variable {w : World} {ops : Array Oper} {rest : List Oper} {o : Oper} {a : Act} {Q : Exit → Act → World → Prop}
theorem wpList_range_o (hg : o.guard = none) (x : Operand) (t : TypeId) (hop : o.op = Op.range t x) {k e : TypeId} (ht : Try.prog.underlying t = some (.map k e)) (mo : Option Nat) (l : List (Ent Adr)) (c : Nat)
    (hm : a.eval x = .map mo) (ho : RangeOk w mo l c)
    (hK : ∀ w', IterO w' w.heap.size mo l c l → Below w.heap.size w w' → w'.heap.size = w.heap.size + 1 → wpList Try.prog ops Q rest (a.put o.dst (.pointer (some ⟨w.heap.size, 0, none⟩))) w') :
    wpList Try.prog ops Q (o :: rest) a w := by
  cases mo with
  | some m => exact wpList_range_mine (P := Try.prog) hg x t hop ht m l c hm ho.1 ho.2 hK
  | none =>
    have ho' : l = [] := ho
    subst ho'
    refine wpList_plain hg fun K' hK' => ?_
    have hrun := run_range_nilMap (P := Try.prog) w t k e ht
    unfold Oper.wp
    simp [execOp, hop, hm, hrun, Result.andThen]
    exact hK' _ _ (hK _ ⟨rfl, 0, #[], 0, heap_alloc_new _ _⟩ (bel_alloc (Below.refl _ _) _) (by simp))
theorem wpList_next_o (hg : o.guard = none) (it : Operand) (hop : o.op = Op.next it false) (r : Nat) (mo : Option Nat) (l : List (Ent Adr)) (c : Nat) (left : List (Ent Adr))
    (hit : a.eval it = .pointer (some ⟨r, 0, none⟩)) (h : IterO w r mo l c left)
    (hDone : left = [] → wpList Try.prog ops Q rest (a.put o.dst (.tuple #[.bool false])) w)
    (hMore : ∀ (x : Ent Adr) (left' : List (Ent Adr)) (w' : World), left.Perm (x :: left') → IterO w' r mo l c left' → Kept (fun b => b = r) w w' → w'.heap.size = w.heap.size →
      (Instr.entry (.pointer (some ⟨r, 0, none⟩))).run Try.prog w' = .ok (.tuple #[.agg x.a.cells, x.v]) w' → wpList Try.prog ops Q rest (a.put o.dst (.tuple #[.bool true, .agg x.a.cells, x.v])) w') :
    wpList Try.prog ops Q (o :: rest) a w := by
  cases mo with
  | some m => exact wpList_next_mine (P := Try.prog) hg it hop r m l c left hit h hDone hMore
  | none =>
    obtain ⟨h0, x1, x2, x3, h3⟩ := h
    refine wpList_plain hg fun K' hK' => ?_
    have hrun : (Instr.next (.pointer (some ⟨r, 0, none⟩)) false o.type).run Try.prog w = .ok (.tuple #[.bool false]) w := by
      simp only [Instr.next, getObj, Sem.run_bind, Sem.run, h3, Result.andThen]
      rfl
    unfold Oper.wp
    simp [execOp, hop, hit, hrun, Result.andThen]
    exact hK' _ _ (hDone h0)
end
/-! ### what is collected -/
/-- Behind what was found ahead, and some addresses of one version. -/
def fDone (f : Adr → Option Acc) (xs : List Acc) (done : List Adr) (a : Adr) : Option Acc := (f a).or (if a ∈ done then findK a xs else none)
structure AllInv (f : Adr → Option Acc) (K : Adr → Bool) (ys : List Acc) : Prop where
  key : ∀ a, K a = (f a).isSome
  mem : ∀ x, x ∈ ys ↔ f x.adr = some x ∧ emptyAt x = false
  nod : (ys.map (·.adr)).Nodup
theorem AllInv.nil : AllInv (fun _ => none) (fun _ => false) [] := ⟨fun _ => rfl, fun x => by simp, by simp⟩
theorem AllInv.congr {f g : Adr → Option Acc} {K : Adr → Bool} {ys : List Acc} (h : AllInv f K ys) (e : ∀ a, f a = g a) : AllInv g K ys := by
  have : f = g := funext e
  subst this; exact h
theorem fDone_step (f : Adr → Option Acc) (xs : List Acc) (done : List Adr) {a : Adr} {y : Acc} (hy : findK a xs = some y) (b : Adr) : fDone f xs (done ++ [a]) b = if b = a then (fDone f xs done a).or (some y) else fDone f xs done b := by
  unfold fDone
  by_cases h : b = a
  · subst h
    simp only [List.mem_append, List.mem_singleton, or_true, if_true, hy]
    by_cases h2 : b ∈ done
    · simp [h2]
    · simp [h2]
  · simp [h]
theorem AllInv.step {f : Adr → Option Acc} {xs : List Acc} {done : List Adr} {K : Adr → Bool} {ys : List Acc} (h : AllInv (fDone f xs done) K ys) {a : Adr} {y : Acc} (hy : findK a xs = some y) (hya : y.adr = a) :
    AllInv (fDone f xs (done ++ [a])) (fun b => decide (b = a) || K b) (if !K a && !emptyAt y then ys ++ [y] else ys) := by
  have hst := fDone_step f xs done hy
  have hkey := h.key
  have hmem := h.mem
  have hnod := h.nod
  generalize fDone f xs (done ++ [a]) = f' at *
  generalize fDone f xs done = f0 at *
  cases hK : K a with
  | true =>
    have hs : (f0 a).isSome = true := by rw [← hkey a, hK]
    obtain ⟨z, hz⟩ := Option.isSome_iff_exists.1 hs
    have hff : ∀ b, f' b = f0 b := fun b => by
      rw [hst b]
      by_cases e : b = a
      · subst e; rw [if_pos rfl, hz]; rfl
      · rw [if_neg e]
    simp only [Bool.not_true, Bool.false_and, Bool.false_eq_true, if_false]
    exact ⟨fun b => by
      rw [hff b, ← hkey b]
      by_cases e : b = a
      · subst e; simp [hK]
      · simp [e], fun x => by rw [hff]; exact hmem x, hnod⟩
  | false =>
    have hn : f0 a = none := by
      have := hkey a
      rw [hK] at this
      simpa using this.symm
    have hfa : f' a = some y := by rw [hst a, if_pos rfl, hn]; rfl
    have hfb : ∀ b, b ≠ a → f' b = f0 b := fun b hb => by rw [hst b, if_neg hb]
    have hkey' : ∀ b, (decide (b = a) || K b) = (f' b).isSome := fun b => by
      by_cases e : b = a
      · subst e; simp [hfa]
      · rw [hfb b e, ← hkey b]; simp [e]
    cases hE : emptyAt y with
    | true =>
      simp only [Bool.not_true, Bool.and_false, Bool.false_eq_true, if_false]
      refine ⟨hkey', fun x => ?_, hnod⟩
      rw [hmem x]
      by_cases e : x.adr = a
      · rw [e, hn, hfa]
        simp
        intro e2
        rw [← e2, hE]
      · rw [hfb _ e]
    | false =>
      simp only [Bool.not_false, Bool.and_self, if_true]
      refine ⟨hkey', fun x => ?_, ?_⟩
      · rw [List.mem_append, List.mem_singleton, hmem x]
        by_cases e : x.adr = a
        · rw [e, hn, hfa]
          simp
          constructor
          · rintro rfl; exact ⟨rfl, hE⟩
          · rintro ⟨e2, _⟩; exact e2.symm
        · rw [hfb _ e]
          constructor
          · rintro (h1 | h1)
            · exact h1
            · subst h1; exact absurd hya e
          · exact .inl
      · rw [List.map_append, List.nodup_append]
        refine ⟨hnod, by simp, fun u hu z hz e => ?_⟩
        obtain ⟨x, hx, rfl⟩ := List.mem_map.1 hu
        simp at hz
        have := (hmem x).1 hx
        rw [e, hz, hya, hn] at this
        cases this.1
/-- How many entries versions up to u have. -/
def cntU (nds : List Nd) (u : Int) : Nat := ((nds.take (u + 1).toNat).map (·.xs.length)).sum
def totalN (nds : List Nd) : Nat := (nds.map (·.xs.length)).sum
theorem sum_take_le (l : List Nat) (n : Nat) : (l.take n).sum ≤ l.sum := by
  have := congrArg List.sum (List.take_append_drop n l)
  rw [List.sum_append] at this
  omega
theorem cntU_le (nds : List Nd) (u : Int) : cntU nds u ≤ totalN nds := by
  unfold cntU totalN
  rw [List.map_take]
  exact sum_take_le _ _
theorem cntU_mono (nds : List Nd) {u v : Int} (h : u ≤ v) : cntU nds u ≤ cntU nds v := by
  unfold cntU
  rw [List.map_take, List.map_take]
  have e : (nds.map (·.xs.length)).take (u + 1).toNat = ((nds.map (·.xs.length)).take (v + 1).toNat).take (u + 1).toNat := by
    rw [List.take_take, Nat.min_eq_left (by omega)]
  rw [e]
  exact sum_take_le _ _
theorem cntU_step (nds : List Nd) (i : Nat) (hi : i < nds.length) {u : Int} (hu : u < i) : cntU nds u + nds[i].xs.length ≤ cntU nds i := by
  have h1 := cntU_mono nds (show u ≤ (i : Int) - 1 by omega)
  have h2 : cntU nds i = cntU nds ((i : Int) - 1) + nds[i].xs.length := by
    unfold cntU
    have e1 : ((i : Int) + 1).toNat = i + 1 := by omega
    have e2 : ((i : Int) - 1 + 1).toNat = i := by omega
    rw [e1, e2, List.map_take, List.map_take]
    have hl : i < (nds.map (·.xs.length)).length := by simpa using hi
    have e3 : (nds.map (·.xs.length))[i] = nds[i].xs.length := by simp
    rw [← e3]
    generalize nds.map (·.xs.length) = L at *
    rw [List.take_succ_eq_append_getElem hl, List.sum_append]
    simp only [List.sum_cons, List.sum_nil, Nat.add_zero]
  omega
end Go.Proofs.Ytadafohgglnneaa
