/- Words, addresses, slots, accounts as opaque rows of cells, and what simp is told of them. No condition. -/
import Derived.Test.YtadafohgglnneaaBase
namespace Go.Proofs.Ytadafohgglnneaa
open Go.RowKit

/-- A row of integers of one kind. -/
def ints (k : IntKind) (l : List Int) : Array Value := (l.map (Value.int k)).toArray
@[go_sem, simp] theorem ints_size (k : IntKind) (l : List Int) : (ints k l).size = l.length := by simp [ints]
theorem ints_get (k : IntKind) (l : List Int) (i : Nat) : (ints k l)[i]? = (l[i]?).map (Value.int k) := by simp [ints]
/-- The i-th. -/
def gi (l : List Int) (i : Nat) : Int := l.getD i 0
theorem gi_lt (l : List Int) (i : Nat) (h : i < l.length) : gi l i = l[i] := by simp [gi, h]
theorem gi_set (l : List Int) (k i : Nat) (v : Int) (h : k < l.length) : gi (l.set k v) i = if k = i then v else gi l i := by
  simp only [gi, List.getD_eq_getElem?_getD, List.getElem?_set]
  by_cases hki : k = i
  · subst hki; simp [h]
  · simp [hki]
theorem gi_ext {l m : List Int} (h : l.length = m.length) (e : ∀ i, i < l.length → gi l i = gi m i) : l = m := by
  apply List.ext_getElem h
  intro i h1 h2
  have := e i h1
  rwa [gi_lt l i h1, gi_lt m i h2] at this
@[go_sem ↓ high] theorem ints_getD (k : IntKind) (l : List Int) (i : Nat) (h : i < l.length) : (ints k l)[i]? = some (.int k (gi l i)) := by
  rw [gi, ints_get, List.getElem?_eq_getElem h, List.getD_eq_getElem?_getD, List.getElem?_eq_getElem h]; rfl
@[go_sem] theorem ints_at (k : IntKind) (l : List Int) (i : Nat) (h : i < (ints k l).size) : (ints k l)[i] = .int k (gi l i) := by
  have := ints_getD k l i (by simpa using h)
  rw [Array.getElem?_eq_getElem h] at this; exact Option.some.inj this
@[go_sem] theorem ints_set (k : IntKind) (l : List Int) (i : Nat) (v : Int) : (ints k l).setIfInBounds i (.int k v) = ints k (l.set i v) := by
  apply Array.ext_getElem?
  intro j
  rw [ints_get, Array.getElem?_setIfInBounds, List.getElem?_set, ints_size, ints_get]
  split
  · split <;> rfl
  · rfl
@[go_sem] theorem ints_one (k : IntKind) (l : List Int) : ones (ints k l) = true := by
  apply ones_of
  intro v hv
  simp [ints] at hv
  obtain ⟨x, _, rfl⟩ := hv
  rfl
@[go_sem ↓ high] theorem ints_whole (k : IntKind) (l : List Int) (n : Nat) (h : l.length = n) : (ints k l).extract 0 n = ints k l := by
  subst h; rw [show l.length = (ints k l).size by simp]; simp
theorem ints_inj {k : IntKind} {l m : List Int} (h : ints k l = ints k m) : l = m := by
  have h' : l.map (Value.int k) = m.map (Value.int k) := by simpa [ints] using h
  exact (List.map_inj_right (fun _ _ e => by cases e; rfl)).1 h'

/-- 20 bytes. -/
structure Adr where
  l : List Int
  len : l.length = 20
  wf : ∀ x ∈ l, 0 ≤ x ∧ x < 256
theorem Adr.ext' {a b : Adr} (h : a.l = b.l) : a = b := by cases a; cases b; cases h; rfl
instance : DecidableEq Adr := fun a b => if h : a.l = b.l then .isTrue (Adr.ext' h) else .isFalse (fun e => h (by rw [e]))
instance : Inhabited Adr := ⟨⟨List.replicate 20 0, rfl, by simp⟩⟩
def zeroAdr : Adr := default
def big64 : Int := 18446744073709551616
/-- Four integers of 64 bits, the lowest first. -/
structure Wrd where
  l : List Int
  len : l.length = 4
  wf : ∀ x ∈ l, 0 ≤ x ∧ x < big64
theorem Wrd.ext' {a b : Wrd} (h : a.l = b.l) : a = b := by cases a; cases b; cases h; rfl
instance : DecidableEq Wrd := fun a b => if h : a.l = b.l then .isTrue (Wrd.ext' h) else .isFalse (fun e => h (by rw [e]))
instance : Inhabited Wrd := ⟨⟨List.replicate 4 0, rfl, by intro x hx; simp at hx; subst hx; decide⟩⟩
def zeroWrd : Wrd := default

def Adr.cells (a : Adr) : Array Value := ints .u8 a.l
def Wrd.cells (a : Wrd) : Array Value := ints .u64 a.l
@[go_sem, simp] theorem Adr.cells_size (a : Adr) : a.cells.size = 20 := by simp [Adr.cells, a.len]
@[go_sem, simp] theorem Wrd.cells_size (a : Wrd) : a.cells.size = 4 := by simp [Wrd.cells, a.len]
theorem Adr.cells_inj {a b : Adr} (h : a.cells = b.cells) : a = b := Adr.ext' (ints_inj h)
theorem Wrd.cells_inj {a b : Wrd} (h : a.cells = b.cells) : a = b := Wrd.ext' (ints_inj h)
@[go_sem] theorem Adr.cells_one (a : Adr) : ones a.cells = true := ints_one _ _
@[go_sem] theorem Wrd.cells_one (a : Wrd) : ones a.cells = true := ints_one _ _
@[go_sem, simp] theorem Adr.cells_whole (a : Adr) : a.cells.extract 0 20 = a.cells := by
  have := a.cells_size; rw [← this]; simp
@[go_sem, simp] theorem Wrd.cells_whole (a : Wrd) : a.cells.extract 0 4 = a.cells := by
  have := a.cells_size; rw [← this]; simp

theorem Adr.dec (a b : Adr) : decide (a.l = b.l) = decide (a = b) := by
  rw [Bool.eq_iff_iff, decide_eq_true_eq, decide_eq_true_eq]
  exact ⟨Adr.ext', fun h => by rw [h]⟩
theorem Wrd.dec (a b : Wrd) : decide (a.l = b.l) = decide (a = b) := by
  rw [Bool.eq_iff_iff, decide_eq_true_eq, decide_eq_true_eq]
  exact ⟨Wrd.ext', fun h => by rw [h]⟩

/-- A slot: its key, its value. -/
structure Slt where
  k : Wrd
  v : Wrd
  deriving DecidableEq, Inhabited
def Slt.cells (s : Slt) : Array Value := s.k.cells ++ s.v.cells
@[go_sem, simp] theorem Slt.cells_size (s : Slt) : s.cells.size = 8 := by simp [Slt.cells]
@[go_sem] theorem Slt.cells_one (s : Slt) : ones s.cells = true := by
  simp only [Slt.cells, ones_append, Wrd.cells_one, Bool.and_self]
@[go_sem, simp] theorem Slt.cells_whole (s : Slt) : s.cells.extract 0 8 = s.cells := by
  have := s.cells_size; rw [← this]; simp
theorem extract_append_left' {α : Type} (a b : Array α) (n : Nat) (h : a.size = n) : (a ++ b).extract 0 n = a := by
  subst h; simp
theorem extract_append_right' {α : Type} (a b : Array α) (n m : Nat) (h : a.size = n) (h2 : b.size = m) : (a ++ b).extract n (n + m) = b := by
  subst h; subst h2; simp
@[go_sem, simp] theorem Slt.cells_k (s : Slt) : s.cells.extract 0 4 = s.k.cells := extract_append_left' _ _ _ s.k.cells_size
@[go_sem, simp] theorem Slt.cells_v (s : Slt) : s.cells.extract 4 8 = s.v.cells := extract_append_right' _ _ 4 4 s.k.cells_size s.v.cells_size
theorem Slt.cells_inj {a b : Slt} (h : a.cells = b.cells) : a = b := by
  have h1 : a.k = b.k := Wrd.cells_inj (by rw [← a.cells_k, ← b.cells_k, h])
  have h2 : a.v = b.v := Wrd.cells_inj (by rw [← a.cells_v, ← b.cells_v, h])
  cases a; cases b; simp_all

/-- An account's cells: its lists are values (slices). -/
def accRow (a : Adr) (n : Int) (b : Wrd) (c s : Value) : Array Value := a.cells ++ (#[.int .u64 n] ++ (b.cells ++ #[c, s]))
section
variable (a : Adr) (n : Int) (b : Wrd) (c s v : Value)
@[go_sem, simp] theorem accRow_size : (accRow a n b c s).size = 27 := by simp [accRow]
@[go_sem, simp] theorem accRow_whole : (accRow a n b c s).extract 0 27 = accRow a n b c s := by
  have := accRow_size a n b c s; rw [← this]; simp
@[go_sem, simp] theorem accRow_adr : (accRow a n b c s).extract 0 20 = a.cells := extract_append_left' _ _ _ a.cells_size
@[go_sem, simp] theorem accRow_bal : (accRow a n b c s).extract 21 25 = b.cells := by
  have h : accRow a n b c s = (a.cells ++ #[.int .u64 n]) ++ (b.cells ++ #[c, s]) := by simp [accRow]
  have e : ∀ x y : Array Value, x.size = 21 → (x ++ y).extract 21 25 = y.extract 0 4 := fun x y hx => by
    rw [show (25 : Nat) = 21 + 4 from rfl, ← hx, Array.extract_append_right]
  rw [h, e _ _ (by simp)]
  exact extract_append_left' _ _ _ b.cells_size
@[go_sem, simp] theorem accRow_nonce : (accRow a n b c s)[20]? = some (.int .u64 n) := by
  unfold accRow; rw [Array.getElem?_append_right (by simp)]; simp
@[go_sem, simp] theorem accRow_code : (accRow a n b c s)[25]? = some c := by
  unfold accRow; rw [Array.getElem?_append_right (by simp), Array.getElem?_append_right (by simp), Array.getElem?_append_right (by simp)]; simp
@[go_sem, simp] theorem accRow_stor : (accRow a n b c s)[26]? = some s := by
  unfold accRow; rw [Array.getElem?_append_right (by simp), Array.getElem?_append_right (by simp), Array.getElem?_append_right (by simp)]; simp
@[go_sem] theorem accRow_nonce' (h : 20 < (accRow a n b c s).size) : (accRow a n b c s)[20] = .int .u64 n := by
  have := accRow_nonce a n b c s; rw [Array.getElem?_eq_getElem h] at this; exact Option.some.inj this
@[go_sem] theorem accRow_code' (h : 25 < (accRow a n b c s).size) : (accRow a n b c s)[25] = c := by
  have := accRow_code a n b c s; rw [Array.getElem?_eq_getElem h] at this; exact Option.some.inj this
@[go_sem] theorem accRow_stor' (h : 26 < (accRow a n b c s).size) : (accRow a n b c s)[26] = s := by
  have := accRow_stor a n b c s; rw [Array.getElem?_eq_getElem h] at this; exact Option.some.inj this
@[go_sem, simp] theorem accRow_setCode : (accRow a n b c s).setIfInBounds 25 v = accRow a n b v s := by
  unfold accRow
  rw [Array.setIfInBounds_append_right (by simp), Array.setIfInBounds_append_right (by simp), Array.setIfInBounds_append_right (by simp)]; simp
@[go_sem, simp] theorem accRow_setStor : (accRow a n b c s).setIfInBounds 26 v = accRow a n b c v := by
  unfold accRow
  rw [Array.setIfInBounds_append_right (by simp), Array.setIfInBounds_append_right (by simp), Array.setIfInBounds_append_right (by simp)]; simp
@[go_sem, simp] theorem accRow_setNonce (m : Int) : (accRow a n b c s).setIfInBounds 20 (.int .u64 m) = accRow a m b c s := by
  unfold accRow
  rw [Array.setIfInBounds_append_right (by simp)]; simp
@[go_sem] theorem accRow_one : ones (accRow a n b c s) = (c.oneCell' && s.oneCell') := by
  simp only [accRow, ones_append, Adr.cells_one, Wrd.cells_one, Bool.true_and]
  simp [ones, Value.oneCell']
end
@[go_sem, simp] theorem accRow_putAdr (a a' : Adr) (n : Int) (b : Wrd) (c s : Value) : putSeg (accRow a n b c s) 0 a'.cells.toList = accRow a' n b c s := by
  have := putSeg_mid #[] a.cells (#[.int .u64 n] ++ (b.cells ++ #[c, s])) a'.cells.toList 0 rfl (by simp)
  simpa [accRow] using this
@[go_sem, simp] theorem accRow_putBal (a : Adr) (n : Int) (b b' : Wrd) (c s : Value) : putSeg (accRow a n b c s) 21 b'.cells.toList = accRow a n b' c s := by
  have := putSeg_mid (a.cells ++ #[.int .u64 n]) b.cells #[c, s] b'.cells.toList 21 (by simp) (by simp)
  simpa [accRow, Array.append_assoc] using this
@[go_sem, simp] theorem Slt.put_k (s : Slt) (k : Wrd) : putSeg s.cells 0 k.cells.toList = Slt.cells ⟨k, s.v⟩ := by
  have := putSeg_mid #[] s.k.cells s.v.cells k.cells.toList 0 rfl (by simp)
  simpa [Slt.cells] using this
@[go_sem, simp] theorem Slt.put_v (s : Slt) (v : Wrd) : putSeg s.cells 4 v.cells.toList = Slt.cells ⟨s.k, v⟩ := by
  have := putSeg_mid s.k.cells s.v.cells #[] v.cells.toList 4 (by simp) (by simp)
  simpa [Slt.cells] using this
theorem accRow_inj {a a' : Adr} {n n' : Int} {b b' : Wrd} {c c' s s' : Value} (h : accRow a n b c s = accRow a' n' b' c' s') : a = a' ∧ n = n' ∧ b = b' ∧ c = c' ∧ s = s' := by
  refine ⟨Adr.cells_inj (by rw [← accRow_adr a n b c s, h, accRow_adr]), ?_, Wrd.cells_inj (by rw [← accRow_bal a n b c s, h, accRow_bal]), ?_, ?_⟩
  · have := accRow_nonce a n b c s; rw [h, accRow_nonce] at this; cases this; rfl
  · have := accRow_code a n b c s; rw [h, accRow_code] at this; cases this; rfl
  · have := accRow_stor a n b c s; rw [h, accRow_stor] at this; cases this; rfl

/-- Digit i. -/
def Wrd.g (a : Wrd) (i : Nat) : Int := a.l.getD i 0
def Adr.g (a : Adr) (i : Nat) : Int := a.l.getD i 0
theorem Wrd.g_bd (a : Wrd) (i : Nat) : 0 ≤ a.g i ∧ a.g i < big64 := by
  unfold Wrd.g
  by_cases h : i < a.l.length
  · rw [List.getD_eq_getElem?_getD, List.getElem?_eq_getElem h]; exact a.wf _ (List.getElem_mem h)
  · rw [List.getD_eq_getElem?_getD, List.getElem?_eq_none (by omega)]; decide
theorem Adr.g_bd (a : Adr) (i : Nat) : 0 ≤ a.g i ∧ a.g i < 256 := by
  unfold Adr.g
  by_cases h : i < a.l.length
  · rw [List.getD_eq_getElem?_getD, List.getElem?_eq_getElem h]; exact a.wf _ (List.getElem_mem h)
  · rw [List.getD_eq_getElem?_getD, List.getElem?_eq_none (by omega)]; decide
@[go_sem ↓ high] theorem Wrd.cells_get (a : Wrd) (i : Nat) (h : i < 4) : a.cells[i]? = some (.int .u64 (a.g i)) := by
  have h' : i < a.l.length := by rw [a.len]; exact h
  rw [Wrd.cells, ints_get, List.getElem?_eq_getElem h', Wrd.g, List.getD_eq_getElem?_getD, List.getElem?_eq_getElem h']; rfl
@[go_sem ↓ high] theorem Adr.cells_get (a : Adr) (i : Nat) (h : i < 20) : a.cells[i]? = some (.int .u8 (a.g i)) := by
  have h' : i < a.l.length := by rw [a.len]; exact h
  rw [Adr.cells, ints_get, List.getElem?_eq_getElem h', Adr.g, List.getD_eq_getElem?_getD, List.getElem?_eq_getElem h']; rfl
@[go_sem] theorem Wrd.cells_at (a : Wrd) (i : Nat) (h : i < a.cells.size) : a.cells[i] = .int .u64 (a.g i) := by
  have := Wrd.cells_get a i (by simpa using h)
  rw [Array.getElem?_eq_getElem h] at this; exact Option.some.inj this
@[go_sem] theorem Adr.cells_at (a : Adr) (i : Nat) (h : i < a.cells.size) : a.cells[i] = .int .u8 (a.g i) := by
  have := Adr.cells_get a i (by simpa using h)
  rw [Array.getElem?_eq_getElem h] at this; exact Option.some.inj this
theorem Wrd.ext_g {a b : Wrd} (h : ∀ i, i < 4 → a.g i = b.g i) : a = b := by
  apply Wrd.ext'
  apply List.ext_getElem (a.len.trans b.len.symm)
  intro i h1 h2
  have := h i (by rw [a.len] at h1; exact h1)
  simpa [Wrd.g, List.getD_eq_getElem?_getD, List.getElem?_eq_getElem h1, List.getElem?_eq_getElem h2] using this
theorem Adr.ext_g {a b : Adr} (h : ∀ i, i < 20 → a.g i = b.g i) : a = b := by
  apply Adr.ext'
  apply List.ext_getElem (a.len.trans b.len.symm)
  intro i h1 h2
  have := h i (by rw [a.len] at h1; exact h1)
  simpa [Adr.g, List.getD_eq_getElem?_getD, List.getElem?_eq_getElem h1, List.getElem?_eq_getElem h2] using this

/-- Which one is the less, from the highest digit on. -/
def ltFrom (f g : Nat → Int) : Nat → Bool
  | 0 => false
  | n + 1 => if f n = g n then ltFrom f g n else decide (f n < g n)
theorem ltFrom_irr (f : Nat → Int) : ∀ n, ltFrom f f n = false
  | 0 => rfl
  | n + 1 => by simp [ltFrom, ltFrom_irr f n]
theorem ltFrom_trans (f g h : Nat → Int) : ∀ n, ltFrom f g n = true → ltFrom g h n = true → ltFrom f h n = true
  | 0 => by simp [ltFrom]
  | n + 1 => by
    intro h1 h2
    unfold ltFrom at h1 h2 ⊢
    by_cases e1 : f n = g n
    · rw [if_pos e1] at h1
      by_cases e2 : g n = h n
      · rw [if_pos e2] at h2; rw [if_pos (e1.trans e2)]; exact ltFrom_trans f g h n h1 h2
      · rw [if_neg e2] at h2; rw [if_neg (by omega)]; simp at h2 ⊢; omega
    · rw [if_neg e1] at h1
      by_cases e2 : g n = h n
      · rw [if_pos e2] at h2; rw [if_neg (by omega)]; simp at h1 ⊢; omega
      · rw [if_neg e2] at h2; simp at h1 h2; rw [if_neg (by omega)]; simp; omega
theorem ltFrom_total (f g : Nat → Int) : ∀ n, (∀ i, i < n → f i = g i) ∨ ltFrom f g n = true ∨ ltFrom g f n = true
  | 0 => .inl (fun i h => by omega)
  | n + 1 => by
    unfold ltFrom
    by_cases e : f n = g n
    · rw [if_pos e, if_pos e.symm]
      rcases ltFrom_total f g n with h | h | h
      · exact .inl (fun i hi => by by_cases hn : i = n; · subst hn; exact e
                                   · exact h i (by omega))
      · exact .inr (.inl h)
      · exact .inr (.inr h)
    · rw [if_neg e, if_neg (Ne.symm e)]
      simp; omega
/-- The first place that parts two rows tells which is the less. -/
theorem ltFrom_at (f g : Nat → Int) : ∀ n k, k < n → (∀ j, k < j → j < n → f j = g j) → f k ≠ g k → ltFrom f g n = decide (f k < g k)
  | 0, k, h, _, _ => by omega
  | n + 1, k, h, h1, h2 => by
    unfold ltFrom
    by_cases e : k = n
    · subst e; rw [if_neg h2]
    · rw [if_pos (h1 n (by omega) (by omega))]
      exact ltFrom_at f g n k (by omega) (fun j a b => h1 j a (by omega)) h2
def Wrd.lt (a b : Wrd) : Bool := ltFrom a.g b.g 4
def Adr.lt (a b : Adr) : Bool := ltFrom (fun i => a.g (19 - i)) (fun i => b.g (19 - i)) 20
theorem Wrd.lt_irr (a : Wrd) : a.lt a = false := ltFrom_irr _ _
theorem Adr.lt_irr (a : Adr) : a.lt a = false := ltFrom_irr _ _
theorem Wrd.lt_trans {a b c : Wrd} (h : a.lt b = true) (h' : b.lt c = true) : a.lt c = true := ltFrom_trans _ _ _ _ h h'
theorem Adr.lt_trans {a b c : Adr} (h : a.lt b = true) (h' : b.lt c = true) : a.lt c = true := ltFrom_trans _ _ _ _ h h'
theorem Wrd.lt_total (a b : Wrd) : a = b ∨ a.lt b = true ∨ b.lt a = true := (ltFrom_total a.g b.g 4).imp (fun h => Wrd.ext_g h) id
theorem Adr.lt_total (a b : Adr) : a = b ∨ a.lt b = true ∨ b.lt a = true := by
  refine (ltFrom_total (fun i => a.g (19 - i)) (fun i => b.g (19 - i)) 20).imp (fun h => Adr.ext_g fun i hi => ?_) id
  have := h (19 - i) (by omega)
  simpa [show 19 - (19 - i) = i by omega] using this
def Wrd.cmp (a b : Wrd) : Int := if a = b then 0 else if a.lt b then -1 else 1
def Adr.cmp (a b : Adr) : Int := if a = b then 0 else if a.lt b then -1 else 1

/-! ### equality -/
section
variable {P : Program}
theorem run_equalIn_arr (w : World) (d : Nat) (t e : TypeId) (n : Nat) (k : IntKind) (ht : P.underlying t = some (.array n e)) (he : P.underlying e = some (.int k)) (hsz : ∀ w, (sizeOf e).run P w = .ok 1 w)
    (xs ys : List Int) (hx : xs.length = n) (hy : ys.length = n) :
    (Op.equalIn (d + 2) t (.agg (ints k xs)) (.agg (ints k ys))).run P w = .ok (decide (xs = ys)) w := by
  have key : ((List.range' 0 n 1).all fun i => xs.getD i 0 == ys.getD i 0) = decide (xs = ys) := by
    rw [Bool.eq_iff_iff, List.all_eq_true, decide_eq_true_eq]
    constructor
    · intro h
      apply List.ext_getElem (hx.trans hy.symm)
      intro i h1 h2
      have := h i (by simp [List.mem_range'_1]; omega)
      simpa [List.getD, List.getElem?_eq_getElem h1, List.getElem?_eq_getElem h2] using this
    · intro h; subst h; simp
  rw [← key, Op.equalIn]
  simp only [Sem.run_bind, run_underlying ht, Result.andThen_ok, hsz, Std.Legacy.Range.forIn_eq_forIn_range', Std.Legacy.Range.size, Nat.sub_zero, Nat.add_sub_cancel, Nat.div_one]
  have hl : ∀ i ∈ List.range' 0 n 1, i < n := fun i hi => by simpa using (List.mem_range'_1.1 hi).2
  generalize List.range' 0 n 1 = l at hl ⊢
  induction l with
  | nil => simp
  | cons i l ih =>
    have hi : i < n := hl i (by simp)
    have px : (part e (ints k xs) (i * 1)).run P w = .ok (.int k (xs.getD i 0)) w := by
      simp [part, isAgg, run_underlying he, ints, List.getD, List.getElem?_eq_getElem (show i < xs.length by omega)]
    have py : (part e (ints k ys) (i * 1)).run P w = .ok (.int k (ys.getD i 0)) w := by
      simp [part, isAgg, run_underlying he, ints, List.getD, List.getElem?_eq_getElem (show i < ys.length by omega)]
    have pe : (Op.equalIn (d + 1) e (.int k (xs.getD i 0)) (.int k (ys.getD i 0))).run P w = .ok (xs.getD i 0 == ys.getD i 0) w := run_equalIn_int w d e k k _ _ he
    simp only [List.forIn_cons, Sem.run_bind, px, py, pe, Result.andThen_ok, List.all_cons]
    cases hb : (xs.getD i 0 == ys.getD i 0)
    · simp
    · simp only [Bool.not_true, Bool.false_eq_true, if_false, Sem.run_pure, Result.andThen_ok, Bool.true_and]
      exact ih fun j hj => hl j (by simp [hj])
end
end Go.Proofs.Ytadafohgglnneaa
