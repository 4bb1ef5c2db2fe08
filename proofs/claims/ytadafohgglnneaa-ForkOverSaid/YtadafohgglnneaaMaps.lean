/- Maps keyed by arrays: look-up, store, delete, range, in the words of a list of entries. No condition. -/
import Derived.Test.YtadafohgglnneaaMem
import Derived.Carry
import Derived.WideKeyRuns
import Derived.MapKept
namespace Go.Proofs.Ytadafohgglnneaa
open Go.RowKit

/-- A block, whatever it is. -/
def objAt (w : World) (r : Nat) : Option Obj := w.heap[r]?
def World.setMap (w : World) (r : Nat) (o : Obj) : World := { w with heap := w.heap.setIfInBounds r o }
@[go_sem] theorem objAt_alloc_at (w : World) (x : Obj) (n : Nat) (hn : n = w.heap.size) : objAt (w.alloc x) n = some x := by subst hn; exact heap_alloc_new w x
@[go_sem] theorem objAt_alloc_past (w : World) (x : Obj) (n : Nat) (hn : n < w.heap.size) : objAt (w.alloc x) n = objAt w n := heap_alloc_old w x hn
@[go_sem] theorem objAt_drew (w : World) (n : Nat) : objAt w.drew n = objAt w n := rfl
@[go_sem] theorem objAt_drewN (w : World) (k n : Nat) : objAt (w.drewN k) n = objAt w n := rfl
@[go_sem] theorem objAt_setCell (w : World) (p : Addr) (v : Value) (n : Nat) (hn : n ≠ p.block) : objAt (w.setCell p v) n = objAt w n := Below.heap_setCell w p v n hn
@[go_sem] theorem objAt_setSeg (w : World) (b o : Nat) (vs : List Value) (n : Nat) (hn : n ≠ b) : objAt (World.setSeg w b o vs) n = objAt w n := setSeg_block_ne w b o n vs hn
@[go_sem] theorem objAt_grown (w : World) (d : Nat) (os : Array Obj) (b : Nat) (hb : b < w.heap.size) : objAt (Sort.grow (redrawn w d) os) b = objAt w b := (below_regrown w d os).block b hb
@[go_sem] theorem objAt_setMap_same (w : World) (r : Nat) (o : Obj) (h : r < w.heap.size) : objAt (World.setMap w r o) r = some o := by
  simp [objAt, World.setMap, h]
@[go_sem] theorem objAt_setMap_other (w : World) (r n : Nat) (o : Obj) (h : n ≠ r) : objAt (World.setMap w r o) n = objAt w n := by
  simp only [objAt, World.setMap, Array.getElem?_setIfInBounds, if_neg (Ne.symm h)]
@[go_sem, simp] theorem setMap_size (w : World) (r : Nat) (o : Obj) : (World.setMap w r o).heap.size = w.heap.size := by simp [World.setMap]
@[go_sem] theorem rowOf_setMap (w : World) (r n : Nat) (o : Obj) (h : n ≠ r) : rowOf (World.setMap w r o) n = rowOf w n := by
  have := objAt_setMap_other w r n o h; simp only [objAt] at this; simp only [rowOf, this]
@[go_sem] theorem isRow_setMap (w : World) (r n : Nat) (o : Obj) (h : n ≠ r) : isRow (World.setMap w r o) n = isRow w n := by
  have := objAt_setMap_other w r n o h; simp only [objAt] at this; simp only [isRow, this]
@[go_sem] theorem rowFr_setMap (w : World) (r n : Nat) (o : Obj) (h : n ≠ r) : rowFr (World.setMap w r o) n = rowFr w n := by
  have := objAt_setMap_other w r n o h; simp only [objAt] at this; simp only [rowFr, this]
@[go_sem] theorem cell_setMap (w : World) (r : Nat) (o : Obj) (p : Addr) (h : p.block ≠ r) : (World.setMap w r o).cell? p = w.cell? p := by
  have := objAt_setMap_other w r p.block o h; simp only [objAt] at this; exact World.cell?_of_block this
@[go_sem] theorem frozen_setMap (w : World) (r : Nat) (o : Obj) (p : Addr) (h : p.block ≠ r) : (World.setMap w r o).frozen? p = w.frozen? p := by
  have := objAt_setMap_other w r p.block o h; simp only [objAt] at this; exact World.frozen?_of_block this
theorem bel_objAt {B : Nat} {w w' : World} (h : Below B w w') (b : Nat) (hb : b < B) : objAt w' b = objAt w b := h.block b hb
theorem objAt_lt {w : World} {r : Nat} {o : Obj} (h : objAt w r = some o) : r < w.heap.size := (Array.getElem?_eq_some_iff.1 h).1

theorem map_eraseIdx {α β : Type} (f : α → β) : ∀ (l : List α) (i : Nat), (l.eraseIdx i).map f = (l.map f).eraseIdx i
  | [], _ => rfl
  | _ :: _, 0 => rfl
  | _ :: l, i + 1 => by simp [map_eraseIdx f l i]
theorem nodup_inj {α β : Type} {f : α → β} {l : List α} (h : (l.map f).Nodup) {i j : Nat} (hi : i < l.length) (hj : j < l.length) (e : f l[i] = f l[j]) : i = j := by
  have hp := List.pairwise_iff_getElem.1 h
  rcases Nat.lt_trichotomy i j with h1 | h1 | h1
  · exact absurd (by rw [List.getElem_map, List.getElem_map]; exact e) (hp i j (by simpa using hi) (by simpa using hj) h1)
  · exact h1
  · exact absurd (by rw [List.getElem_map, List.getElem_map]; exact e.symm) (hp j i (by simpa using hj) (by simpa using hi) h1)

/-! ### entries -/
/-- An entry, its key as data. -/
structure Ent (K : Type) where
  a : K
  v : Value
  n : Nat
section
variable {K : Type} [DecidableEq K] (enc : K → Array Value)
def Ent.e (x : Ent K) : MapEntry := { key := .agg (enc x.a), val := x.v, born := x.n }
def mapObj (l : List (Ent K)) (c : Nat) : Obj := .map ((l.map (Ent.e enc)).toArray) c
omit [DecidableEq K] in
theorem mapObj_nil : mapObj enc [] 0 = .map #[] 0 := rfl
/-- The place of a key. -/
def placeE (a : K) : List (Ent K) → Nat → Option (Nat × Value)
  | [], _ => none
  | x :: l, i => if a = x.a then some (i, x.v) else placeE a l (i + 1)
def findE (a : K) (l : List (Ent K)) : Option Value := (l.find? fun x => decide (x.a = a)).map (·.v)
def putE (a : K) (v : Value) (c : Nat) (l : List (Ent K)) : List (Ent K) := if (findE a l).isSome then l.map fun x => if x.a = a then { x with v := v } else x else l ++ [⟨a, v, c⟩]
def putC (a : K) (c : Nat) (l : List (Ent K)) : Nat := if (findE a l).isSome then c else c + 1
def delE (a : K) (l : List (Ent K)) : List (Ent K) := l.filter fun x => !decide (x.a = a)
/-- Keys and stamps are each once, and the stamps lie below the clock. -/
def Tidy (l : List (Ent K)) (c : Nat) : Prop := (l.map (·.a)).Nodup ∧ (l.map (·.n)).Nodup ∧ ∀ x ∈ l, x.n < c
omit [DecidableEq K] in
theorem tidy_nil : Tidy ([] : List (Ent K)) 0 := ⟨List.nodup_nil, List.nodup_nil, fun _ h => by simp at h⟩
theorem placeE_find (a : K) : ∀ (l : List (Ent K)) (i : Nat), (placeE a l i).map (·.2) = findE a l
  | [], _ => rfl
  | x :: l, i => by
    unfold placeE findE
    by_cases h : a = x.a
    · rw [if_pos h]; simp [h]
    · rw [if_neg h, placeE_find a l (i + 1)]; simp [findE, Ne.symm h]
theorem placeE_spec (a : K) : ∀ (l : List (Ent K)) (i j : Nat) (v : Value), placeE a l i = some (j, v) → ∃ k x, j = i + k ∧ l[k]? = some x ∧ x.a = a ∧ x.v = v
  | [], _, _, _, h => by simp [placeE] at h
  | x :: l, i, j, v, h => by
    unfold placeE at h
    by_cases e : a = x.a
    · rw [if_pos e] at h; cases h; exact ⟨0, x, rfl, rfl, e.symm, rfl⟩
    · rw [if_neg e] at h
      obtain ⟨k, y, h1, h2, h3⟩ := placeE_spec a l (i + 1) j v h
      exact ⟨k + 1, y, by omega, by simpa using h2, h3⟩
theorem findE_some_mem {a : K} {l : List (Ent K)} {v : Value} (h : findE a l = some v) : ∃ x ∈ l, x.a = a ∧ x.v = v := by
  unfold findE at h
  cases hf : l.find? (fun x => decide (x.a = a)) with
  | none => simp [hf] at h
  | some x => simp [hf] at h; exact ⟨x, List.mem_of_find?_eq_some hf, by simpa using List.find?_some hf, h⟩
theorem findE_mem {l : List (Ent K)} (hd : (l.map (·.a)).Nodup) {x : Ent K} (hx : x ∈ l) : findE x.a l = some x.v := by
  induction l with
  | nil => simp at hx
  | cons y l ih =>
    simp only [List.map_cons, List.nodup_cons] at hd
    rcases List.mem_cons.1 hx with rfl | h
    · simp [findE]
    · have : y.a ≠ x.a := fun e => hd.1 (by rw [e]; exact List.mem_map_of_mem h)
      have := ih hd.2 h
      simp only [findE] at this ⊢
      simp [*]
theorem findE_none {a : K} {l : List (Ent K)} : findE a l = none ↔ ∀ x ∈ l, x.a ≠ a := by
  simp [findE]

/-- An array or a struct. -/
def isWide (P : Program) (T : TypeId) : Bool := match P.underlying T with
  | some (.array _ _) => true
  | some (.struct _) => true
  | _ => false
/-! ### the model's own steps -/
section
variable {P : Program} {T : TypeId} (heq : ∀ (a b : K) (w : World), (Op.equal T (.agg (enc a)) (.agg (enc b))).run P w = .ok (decide (a = b)) w)
include heq
theorem run_findAsking (w : World) (a : K) : ∀ (l : List (Ent K)) (i : Nat), (Instr.findAsking T (.agg (enc a)) (l.map (Ent.e enc)) i).run P w = .ok (placeE a l i) w
  | [], i => by simp [Instr.findAsking, placeE]
  | x :: l, i => by
    simp only [List.map_cons, Instr.findAsking, Ent.e, Sem.run_bind, heq, Result.andThen_ok, placeE]
    by_cases h : a = x.a
    · simp [h]
    · simp only [h, decide_false, Bool.false_eq_true, if_false]
      exact run_findAsking w a l (i + 1)
variable (hwide : isWide P T = true)
include hwide
theorem run_findKey (w : World) (a : K) (l : List (Ent K)) : (Instr.findKey T (.agg (enc a)) (l.map (Ent.e enc))).run P w = .ok (placeE a l 0) w := by
  rw [run_findKey_eq w (by unfold isWide at hwide; cases hu : P.underlying T with
    | none => simp [hu] at hwide
    | some d => cases d <;> simp [hu] at hwide ⊢)]; exact run_findAsking enc heq w a l 0
variable (hchk : ∀ (e : Bool) (a : K) (w : World), (Instr.checkKey e 10000 T (.agg (enc a))).run P w = .ok () w)
include hchk
variable {M E : TypeId} (hM : P.underlying M = some (.map T E))
include hM
theorem run_lookup_ent (w : World) (r : Nat) (l : List (Ent K)) (c : Nat) (h : objAt w r = some (mapObj enc l c)) (a : K) (ok : Bool) (z : Value) (hz : (zeroValue E).run P w = .ok z w) :
    (Instr.lookup M (.map (some r)) (.agg (enc a)) ok).run P w = .ok (if ok then .tuple #[(findE a l).getD z, .bool (findE a l).isSome] else (findE a l).getD z) w := by
  have hb : w.heap[r]? = some (.map ((l.map (Ent.e enc)).toArray) c) := h
  have hf := placeE_find a l 0
  have h1 := run_findKey enc heq hwide w a l
  cases hp : placeE a l 0 with
  | none =>
    rw [hp] at hf h1
    simp at hf
    simp [Instr.lookup, run_underlying hM, MapKept.run_getObj_map hb, hchk, h1, hz, ← hf]
  | some x =>
    obtain ⟨i, v⟩ := x
    rw [hp] at hf h1
    simp at hf
    simp [Instr.lookup, run_underlying hM, MapKept.run_getObj_map hb, hchk, h1, ← hf]
theorem run_delete_ent (w : World) (r : Nat) (l : List (Ent K)) (c : Nat) (h : objAt w r = some (mapObj enc l c)) (hd : (l.map (·.a)).Nodup) (a : K) (ty : TypeId) (at2 : TypeId) :
    (Builtin.delete_ #[M, at2] ty #[.map (some r), .agg (enc a)]).run P w = .ok (.tuple #[]) (World.setMap w r (mapObj enc (delE a l) c)) := by
  have hb : w.heap[r]? = some (.map ((l.map (Ent.e enc)).toArray) c) := h
  have h1 := run_findKey enc heq hwide w a l
  cases hp : placeE a l 0 with
  | none =>
    rw [hp] at h1
    have hf := placeE_find a l 0
    rw [hp] at hf
    have hn : ∀ x ∈ l, x.a ≠ a := findE_none.1 hf.symm
    have hdel : delE a l = l := by
      unfold delE; rw [List.filter_eq_self]; intro x hx; simp [hn x hx]
    simp [Builtin.delete_, run_underlying hM, MapKept.run_getObj_map hb, hchk, h1, MapKept.run_setObj_map _ hb, hdel, World.setMap, mapObj]
  | some x =>
    obtain ⟨i, v⟩ := x
    rw [hp] at h1
    obtain ⟨k, x, hk, hx, hxa, -⟩ := placeE_spec a l 0 i v hp
    obtain rfl : i = k := by omega
    have hlt := (List.getElem?_eq_some_iff.1 hx).1
    have hdel : delE a l = l.eraseIdx i := by
      clear hp h1 hb h
      induction l generalizing i with
      | nil => simp at hx
      | cons y l ih =>
        simp only [List.map_cons, List.nodup_cons] at hd
        cases i with
        | zero =>
          simp at hx; subst hx
          have : ∀ z ∈ l, z.a ≠ a := fun z hz e => hd.1 (by rw [hxa, ← e]; exact List.mem_map_of_mem hz)
          have e2 : l.filter (fun x => !decide (x.a = a)) = l := by rw [List.filter_eq_self]; intro z hz; simp [this z hz]
          simp [delE, hxa, e2]
        | succ i =>
          simp at hx
          have hya : y.a ≠ a := fun e => hd.1 (by rw [e, ← hxa]; exact List.mem_map_of_mem (List.mem_of_getElem? hx))
          have hk' : i = 0 + i := by omega
          have := ih hd.2 i hk' hx (by simpa using hlt)
          simp only [delE] at this ⊢
          simp [hya, this]
    simp [Builtin.delete_, run_underlying hM, MapKept.run_getObj_map hb, hchk, h1, MapKept.run_setObj_map _ hb, hdel, World.setMap, mapObj]
    rw [map_eraseIdx]
variable (hsame : ∀ a : K, Instr.sameBits 10000 (.agg (enc a)) (.agg (enc a)) = true)
include hsame
theorem run_update_ent (w : World) (r : Nat) (l : List (Ent K)) (c : Nat) (h : objAt w r = some (mapObj enc l c)) (hd : (l.map (·.a)).Nodup) (a : K) (v : Value) :
    (Instr.mapUpdate M (.map (some r)) (.agg (enc a)) v).run P w = .ok () (World.setMap w r (mapObj enc (putE a v c l) (putC a c l))) := by
  have hb : w.heap[r]? = some (.map ((l.map (Ent.e enc)).toArray) c) := h
  have h1 := run_findKey enc heq hwide w a l
  cases hp : placeE a l 0 with
  | none =>
    have hf := placeE_find a l 0
    rw [hp] at h1 hf
    have hf' : findE a l = none := hf.symm
    simp [Instr.mapUpdate, run_underlying hM, MapKept.run_getObj_map hb, hchk, h1, MapKept.run_setObj_map _ hb, putE, putC, hf', World.setMap, mapObj, Ent.e]
  | some x =>
    obtain ⟨i, u⟩ := x
    have hf := placeE_find a l 0
    rw [hp] at h1 hf
    have hf' : findE a l = some u := hf.symm
    obtain ⟨k, x, hk, hx, hxa, -⟩ := placeE_spec a l 0 i u hp
    obtain rfl : i = k := by omega
    have hlt := (List.getElem?_eq_some_iff.1 hx).1
    have hxl : l[i] = x := (List.getElem?_eq_some_iff.1 hx).2
    have hkey : ((((l.map (Ent.e enc)).toArray)[i]?).map (·.key)).getD (.agg (enc a)) = .agg (enc a) := by
      simp [hlt, hxl, Ent.e, hxa]
    have hput : (l.map fun x => if x.a = a then { x with v := v } else x).map (Ent.e enc) = (l.map (Ent.e enc)).modify i (fun e => { e with key := .agg (enc a), val := v }) := by
      apply List.ext_getElem (by simp)
      intro j h2 h3
      simp only [List.length_map] at h2
      rw [List.getElem_modify]
      by_cases hj : i = j
      · subst hj; simp [hxl, hxa, Ent.e]
      · have hne : l[j].a ≠ a := by
          intro e
          apply hj
          exact nodup_inj hd hlt h2 (by rw [hxl, hxa, e])
        simp [hj, hne, Ent.e]
    simp only [Instr.mapUpdate, Sem.run_bind, run_underlying hM, Result.andThen_ok, MapKept.run_getObj_map hb, hchk, h1]
    simp only [hkey, Instr.keyThatStays, hsame, if_true, Sem.run_pure, Result.andThen_ok, MapKept.run_setObj_map _ hb, putE, putC, hf', Option.isSome_some, World.setMap, mapObj, hput]
    rw [← List.modify_toArray]
end
end

/-! ### keys that are arrays of integers -/
theorem run_checkKey_ints {P : Program} (em : Bool) (d : Nat) (t e : TypeId) (n : Nat) (k : IntKind) (ht : P.underlying t = some (.array n e)) (he : P.underlying e = some (.int k)) (hsz : ∀ w, (sizeOf e).run P w = .ok 1 w)
    (xs : List Int) (hx : xs.length = n) (w : World) : (Instr.checkKey em (d + 2) t (.agg (ints k xs))).run P w = .ok () w := by
  rw [Instr.checkKey]
  simp only [Sem.run_bind, run_underlying ht, Result.andThen_ok, Std.Legacy.Range.forIn_eq_forIn_range', Std.Legacy.Range.size, Nat.sub_zero, Nat.add_sub_cancel, Nat.div_one]
  have hl : ∀ i ∈ List.range' 0 n 1, i < n := fun i hi => by simpa using (List.mem_range'_1.1 hi).2
  generalize List.range' 0 n 1 = l at hl ⊢
  induction l with
  | nil => simp
  | cons i l ih =>
    have hi : i < n := hl i (by simp)
    have px : (part e (ints k xs) (i * 1)).run P w = .ok (.int k (xs.getD i 0)) w := by
      simp [part, isAgg, run_underlying he, ints, List.getD, List.getElem?_eq_getElem (show i < xs.length by omega)]
    have pc : (Instr.checkKey em (d + 1) e (.int k (xs.getD i 0))).run P w = .ok () w := by
      rw [Instr.checkKey]; simp [run_underlying he]
    simp only [List.forIn_cons, Sem.run_bind, hsz, px, pc, Result.andThen_ok, Sem.run_pure]
    exact ih fun j hj => hl j (by simp [hj])
theorem sameBits_ints (d : Nat) (k : IntKind) (xs : List Int) : Instr.sameBits (d + 1) (.agg (ints k xs)) (.agg (ints k xs)) = true := by
  simp only [Instr.sameBits, ints, List.toList_toArray, beq_self_eq_true, Bool.true_and, List.all_eq_true]
  intro p hp
  have : p.1 = p.2 ∧ p.1 ∈ xs.map (Value.int k) := by
    have h1 := List.of_mem_zip hp
    refine ⟨?_, h1.1⟩
    obtain ⟨i, hi, hpi⟩ := List.getElem_of_mem hp
    rw [List.getElem_zip] at hpi
    rw [← hpi]
  obtain ⟨h1, h2⟩ := this
  obtain ⟨x, _, hx⟩ := List.mem_map.1 h2
  obtain ⟨p1, p2⟩ := p
  simp only at h1 hx ⊢
  subst h1; subst hx
  cases d <;> simp [Instr.sameBits]
end Go.Proofs.Ytadafohgglnneaa
