import Derived.Test.YtadafohgglnneaaX7
import Derived.Test.YtadafohgglnneaaBase
import Derived.StillTailTactics
import Derived.Deep.RegionHeld3
namespace Go.Proofs.Ytadafohgglnneaa
open Go.RowKit
/-- Entries that are accounts. -/
def KnIn (S : Nat → Prop) (w : World) : List (Ent Adr) → List Acc → Prop
  | [], [] => True
  | x :: l, y :: m => (x.a = y.adr ∧ ∃ r, x.v = .agg r ∧ AccIn S w r y) ∧ KnIn S w l m
  | _, _ => False
/-- Entries that are counts of tries. -/
def TrIn : List (Ent Adr) → List (Adr × Nat) → Prop
  | [], [] => True
  | x :: l, y :: m => (x.a = y.1 ∧ x.v = .int .i64 (y.2 : Int) ∧ y.2 < 8) ∧ TrIn l m
  | _, _ => False
def findK (a : Adr) (xs : List Acc) : Option Acc := xs.find? fun x => decide (x.adr = a)
def findT (a : Adr) (ts : List (Adr × Nat)) : Option Nat := (ts.find? fun x => decide (x.1 = a)).map (·.2)
def setT (a : Adr) (n : Nat) (ts : List (Adr × Nat)) : List (Adr × Nat) := if (findT a ts).isSome then ts.map fun x => if x.1 = a then (x.1, n) else x else ts ++ [(a, n)]
def delT (a : Adr) (ts : List (Adr × Nat)) : List (Adr × Nat) := ts.filter fun x => !decide (x.1 = a)
theorem KnIn.imp {S T : Nat → Prop} {w w' : World} (f : ∀ r x, AccIn S w r x → AccIn T w' r x) : ∀ {l : List (Ent Adr)} {m : List Acc}, KnIn S w l m → KnIn T w' l m
  | [], [], _ => trivial
  | _ :: _, _ :: _, ⟨⟨h1, r, h2, h3⟩, h⟩ => ⟨⟨h1, r, h2, f _ _ h3⟩, KnIn.imp f h⟩
  | [], _ :: _, h => h.elim
  | _ :: _, [], h => h.elim
theorem KnIn.find {S : Nat → Prop} {w : World} (a : Adr) : ∀ {l : List (Ent Adr)} {m : List Acc}, KnIn S w l m →
    (findE a l = none ∧ findK a m = none) ∨ ∃ r x, findE a l = some (.agg r) ∧ findK a m = some x ∧ x.adr = a ∧ AccIn S w r x
  | [], [], _ => .inl ⟨rfl, rfl⟩
  | x :: l, y :: m, ⟨⟨h1, r, h2, h3⟩, h⟩ => by
    by_cases e : x.a = a
    · exact .inr ⟨r, y, by simp [findE, e, h2], by simp [findK, ← h1, e], by rw [← h1, e], h3⟩
    · rcases KnIn.find a h with ⟨h4, h5⟩ | ⟨r', x', h4, h5, h6⟩
      · exact .inl ⟨by simpa [findE, e] using h4, by simpa [findK, ← h1, e] using h5⟩
      · exact .inr ⟨r', x', by simpa [findE, e] using h4, by simpa [findK, ← h1, e] using h5, h6⟩
  | [], _ :: _, h => h.elim
  | _ :: _, [], h => h.elim
theorem KnIn.snoc {S : Nat → Prop} {w : World} {a : Adr} {r : Array Value} {c : Nat} {y : Acc} (h1 : a = y.adr) (h2 : AccIn S w r y) : ∀ {l : List (Ent Adr)} {m : List Acc}, KnIn S w l m → KnIn S w (l ++ [⟨a, .agg r, c⟩]) (m ++ [y])
  | [], [], _ => ⟨⟨h1, r, rfl, h2⟩, trivial⟩
  | _ :: _, _ :: _, h => ⟨h.1, KnIn.snoc h1 h2 h.2⟩
  | [], _ :: _, h => h.elim
  | _ :: _, [], h => h.elim
theorem TrIn.find (a : Adr) : ∀ {l : List (Ent Adr)} {m : List (Adr × Nat)}, TrIn l m →
    (findE a l = none ∧ findT a m = none) ∨ ∃ n : Nat, findE a l = some (.int .i64 (n : Int)) ∧ findT a m = some n ∧ n < 8
  | [], [], _ => .inl ⟨rfl, rfl⟩
  | x :: l, y :: m, ⟨⟨h1, h2, h3⟩, h⟩ => by
    by_cases e : x.a = a
    · exact .inr ⟨y.2, by simp [findE, e, h2], by simp [findT, ← h1, e], h3⟩
    · rcases TrIn.find a h with ⟨h4, h5⟩ | ⟨n, h4, h5, h6⟩
      · exact .inl ⟨by simpa [findE, e] using h4, by simpa [findT, ← h1, e] using h5⟩
      · exact .inr ⟨n, by simpa [findE, e] using h4, by simpa [findT, ← h1, e] using h5, h6⟩
  | [], _ :: _, h => h.elim
  | _ :: _, [], h => h.elim
theorem TrIn.snoc {a : Adr} {n c : Nat} (hn : n < 8) : ∀ {l : List (Ent Adr)} {m : List (Adr × Nat)}, TrIn l m → TrIn (l ++ [⟨a, .int .i64 (n : Int), c⟩]) (m ++ [(a, n)])
  | [], [], _ => ⟨⟨rfl, rfl, hn⟩, trivial⟩
  | _ :: _, _ :: _, h => ⟨h.1, TrIn.snoc hn h.2⟩
  | [], _ :: _, h => h.elim
  | _ :: _, [], h => h.elim
theorem TrIn.chg {a : Adr} {n : Nat} (hn : n < 8) : ∀ {l : List (Ent Adr)} {m : List (Adr × Nat)}, TrIn l m →
    TrIn (l.map fun x => if x.a = a then { x with v := .int .i64 (n : Int) } else x) (m.map fun x => if x.1 = a then (x.1, n) else x)
  | [], [], _ => trivial
  | x :: l, y :: m, ⟨⟨h1, h2, h3⟩, h⟩ => by
    refine ⟨?_, TrIn.chg hn h⟩
    by_cases e : x.a = a
    · have e' : y.1 = a := by rw [← h1]; exact e
      simp only [if_pos e, if_pos e']; exact ⟨h1, trivial, hn⟩
    · have e' : y.1 ≠ a := by rw [← h1]; exact e
      simp only [if_neg e, if_neg e']; exact ⟨h1, h2, h3⟩
  | [], _ :: _, h => h.elim
  | _ :: _, [], h => h.elim
theorem TrIn.put {a : Adr} {n c : Nat} (hn : n < 8) {l : List (Ent Adr)} {m : List (Adr × Nat)} (h : TrIn l m) : TrIn (putE a (.int .i64 (n : Int)) c l) (setT a n m) := by
  unfold putE setT
  rcases h.find a with ⟨h1, h2⟩ | ⟨k, h1, h2, _⟩
  · rw [h1, h2]; exact h.snoc hn
  · rw [h1, h2]; exact h.chg hn
theorem TrIn.del {a : Adr} : ∀ {l : List (Ent Adr)} {m : List (Adr × Nat)}, TrIn l m → TrIn (delE a l) (delT a m)
  | [], [], _ => trivial
  | x :: l, y :: m, ⟨⟨h1, h2, h3⟩, h⟩ => by
    have ih := TrIn.del (a := a) h
    by_cases e : x.a = a
    · have e' : y.1 = a := by rw [← h1]; exact e
      simpa [delE, delT, e, e'] using ih
    · have e' : y.1 ≠ a := by rw [← h1]; exact e
      simp only [delE, delT, List.filter_cons, e, e', decide_false, Bool.not_false, if_true]
      exact ⟨⟨h1, h2, h3⟩, ih⟩
  | [], _ :: _, h => h.elim
  | _ :: _, [], h => h.elim
theorem Tidy.put {l : List (Ent Adr)} {c : Nat} (h : Tidy l c) (a : Adr) (v : Value) : Tidy (putE a v c l) (putC a c l) := by
  obtain ⟨h1, h2, h3⟩ := h
  unfold putE putC
  split
  · have e1 : (l.map fun x => if x.a = a then { x with v := v } else x).map (·.a) = l.map (·.a) := by
      rw [List.map_map]; apply List.map_congr_left; intro x _; simp only [Function.comp_apply]; split <;> rfl
    have e2 : (l.map fun x => if x.a = a then { x with v := v } else x).map (·.n) = l.map (·.n) := by
      rw [List.map_map]; apply List.map_congr_left; intro x _; simp only [Function.comp_apply]; split <;> rfl
    refine ⟨by rw [e1]; exact h1, by rw [e2]; exact h2, fun x hx => ?_⟩
    obtain ⟨y, hy, rfl⟩ := List.mem_map.1 hx
    have := h3 y hy
    split <;> exact this
  · rename_i hn
    have hn' : findE a l = none := by simpa using hn
    refine ⟨?_, ?_, fun x hx => ?_⟩
    · rw [List.map_append, List.nodup_append]
      refine ⟨h1, by simp, fun x hx y hy e => ?_⟩
      obtain ⟨z, hz, rfl⟩ := List.mem_map.1 hx
      simp at hy
      exact findE_none.1 hn' z hz (by rw [e, hy])
    · rw [List.map_append, List.nodup_append]
      refine ⟨h2, by simp, fun x hx y hy e => ?_⟩
      obtain ⟨z, hz, rfl⟩ := List.mem_map.1 hx
      simp at hy
      have := h3 z hz
      omega
    · rcases List.mem_append.1 hx with hx | hx
      · have := h3 x hx; omega
      · simp at hx; subst hx; simp
theorem Tidy.del {l : List (Ent Adr)} {c : Nat} (h : Tidy l c) (a : Adr) : Tidy (delE a l) c := by
  obtain ⟨h1, h2, h3⟩ := h
  have hs : (delE a l).Sublist l := List.filter_sublist
  exact ⟨h1.sublist (hs.map _), h2.sublist (hs.map _), fun x hx => h3 x (hs.subset hx)⟩
/-- A cache in memory: its struct in block c, its maps in blocks k and t; what it knows lies in blocks of S. -/
structure CacheAt (S : Nat → Prop) (w : World) (c k t : Nat) (xs : List Acc) (ts : List (Adr × Nat)) : Prop where
  row : rowOf w c = #[.map (some k), .map (some t)]
  isRow : isRow w c = true
  fr : rowFr w c = (0, 0)
  objK : ∃ kn kc, objAt w k = some (mapObj Adr.cells kn kc) ∧ Tidy kn kc ∧ KnIn S w kn xs
  objT : ∃ tr tc, objAt w t = some (mapObj Adr.cells tr tc) ∧ Tidy tr tc ∧ TrIn tr ts
  ne : c ≠ k ∧ c ≠ t ∧ k ≠ t
  apart : ∀ b, S b → b ≠ c ∧ b ≠ k ∧ b ≠ t
  disj : ∀ x ∈ ts, findK x.1 xs = none
theorem CacheAt.kept {S M : Nat → Prop} {w w' : World} {c k t : Nat} {xs : List Acc} {ts : List (Adr × Nat)} (h : CacheAt S w c k t xs ts) (hk : Kept M w w') (hs : ∀ b, S b → ¬ M b) (hc : ¬ M c) (hm : ¬ M k) (ht : ¬ M t) : CacheAt S w' c k t xs ts := by
  have c1 := isRow_lt h.isRow
  obtain ⟨kn, kc, e1, e2, e3⟩ := h.objK
  obtain ⟨tr, tc, f1, f2, f3⟩ := h.objT
  exact ⟨by rw [hk.row c c1 hc]; exact h.row, by rw [hk.isRow c c1 hc]; exact h.isRow, by rw [hk.rowFr c c1 hc]; exact h.fr,
    ⟨kn, kc, by rw [hk.obj k (objAt_lt e1) hm]; exact e1, e2, e3.imp fun _ _ h => h.kept hk hs⟩, ⟨tr, tc, by rw [hk.obj t (objAt_lt f1) ht]; exact f1, f2, f3⟩, h.ne, h.apart, h.disj⟩
theorem CacheAt.tries {S : Nat → Prop} {w w' : World} {c k t : Nat} {xs : List Acc} {ts ts' : List (Adr × Nat)} (h : CacheAt S w c k t xs ts) (hk : Kept (fun b => b = t) w w') {tr : List (Ent Adr)} {tc : Nat}
    (ho : objAt w' t = some (mapObj Adr.cells tr tc)) (h1 : Tidy tr tc) (h2 : TrIn tr ts') (hd : ∀ x ∈ ts', findK x.1 xs = none) : CacheAt S w' c k t xs ts' := by
  obtain ⟨kn, kc, e1, e2, e3⟩ := h.objK
  have c1 := isRow_lt h.isRow
  have n1 : c ≠ t := h.ne.2.1
  have n2 : k ≠ t := h.ne.2.2
  exact ⟨by rw [hk.row c c1 n1]; exact h.row, by rw [hk.isRow c c1 n1]; exact h.isRow, by rw [hk.rowFr c c1 n1]; exact h.fr,
    ⟨kn, kc, by rw [hk.obj k (objAt_lt e1) n2]; exact e1, e2, e3.imp fun _ _ h' => h'.kept hk fun b hb => (h.apart b hb).2.2⟩, ⟨tr, tc, ho, h1, h2⟩, h.ne, h.apart, hd⟩
theorem disj_set {xs : List Acc} {ts : List (Adr × Nat)} (h : ∀ x ∈ ts, findK x.1 xs = none) {a : Adr} (ha : findK a xs = none) (n : Nat) : ∀ x ∈ setT a n ts, findK x.1 xs = none := by
  intro x hx
  unfold setT at hx
  split at hx
  · obtain ⟨y, hy, rfl⟩ := List.mem_map.1 hx
    have := h y hy
    split <;> exact this
  · rcases List.mem_append.1 hx with hx | hx
    · exact h x hx
    · simp at hx; subst hx; exact ha
theorem disj_del {xs : List Acc} {ts : List (Adr × Nat)} (h : ∀ x ∈ ts, findK x.1 xs = none) (a : Adr) : ∀ x ∈ delT a ts, findK x.1 xs = none := fun x hx => h x (List.filter_sublist.subset hx)
theorem mm : ∀ (t : TypeId) (w : World), (Instr.makeMap t none).run Try.prog w = .ok (.map (some w.heap.size)) (w.alloc (mapObj Adr.cells [] 0)) := fun t w => run_makeMap t w
set_option maxRecDepth 100000 in
set_option maxHeartbeats 1000000 in
theorem fork_New (w : World) :
    Calls Try.prog 21 #[] w fun e w' => e = .returned (.pointer (some ⟨w.heap.size + 2, 0, none⟩)) ∧ w' = (((w.alloc (mapObj Adr.cells [] 0)).alloc (mapObj Adr.cells [] 0)).alloc (.cells #[.map (some w.heap.size), .map (some (w.heap.size + 1))] 122)) := by
  have hmm := mm
  go_enter Try.func21, Try.ntmps21
  go_wp2
  go_ret
  exact ⟨rfl, rfl⟩
end Go.Proofs.Ytadafohgglnneaa
