/- How lists of bytes, slots and accounts lie in memory: read out of blocks of a given set. No condition. -/
import Derived.Test.YtadafohgglnneaaData
namespace Go.Proofs.Ytadafohgglnneaa
open Go.RowKit

/-- The cells cs lie at a, in a block of S (nothing lies anywhere). -/
def SegIn (S : Nat → Prop) (w : World) (a : Addr) (cs : Array Value) : Prop :=
  cs.size = 0 ∨ (a.spot = none ∧ S a.block ∧ a.off + cs.size ≤ (rowOf w a.block).size ∧ (rowOf w a.block).extract a.off (a.off + cs.size) = cs)
/-- A slice of n elements whose cells are cs. -/
def SlIn (S : Nat → Prop) (w : World) (v : Value) (n : Nat) (cs : Array Value) : Prop :=
  (v = .slice none 0 0 ∧ n = 0 ∧ cs.size = 0) ∨ ∃ a c, v = .slice (some a) n c ∧ n ≤ c ∧ c ≤ maxLen ∧ SegIn S w a cs
theorem SegIn.mono {S T : Nat → Prop} {w : World} {a : Addr} {cs : Array Value} (h : SegIn S w a cs) (hs : ∀ b, S b → T b) : SegIn T w a cs :=
  h.imp id fun ⟨h1, h2, h3⟩ => ⟨h1, hs _ h2, h3⟩
theorem SegIn.same {S : Nat → Prop} {w w' : World} {a : Addr} {cs : Array Value} (h : SegIn S w a cs) (hs : ∀ b, b < w.heap.size → S b → w'.heap[b]? = w.heap[b]?) : SegIn S w' a cs := by
  rcases h with h | ⟨h1, h2, h3, h4⟩
  · exact .inl h
  · by_cases h0 : cs.size = 0
    · exact .inl h0
    · have hr : rowOf w' a.block = rowOf w a.block := by simp only [rowOf, hs _ (rowOf_lt (by omega)) h2]
      exact .inr ⟨h1, h2, by rw [hr]; exact h3, by rw [hr]; exact h4⟩
theorem SlIn.mono {S T : Nat → Prop} {w : World} {v : Value} {n : Nat} {cs : Array Value} (h : SlIn S w v n cs) (hs : ∀ b, S b → T b) : SlIn T w v n cs :=
  h.imp id fun ⟨a, c, h1, h2, h3, h4⟩ => ⟨a, c, h1, h2, h3, h4.mono hs⟩
theorem SlIn.same {S : Nat → Prop} {w w' : World} {v : Value} {n : Nat} {cs : Array Value} (h : SlIn S w v n cs) (hs : ∀ b, b < w.heap.size → S b → w'.heap[b]? = w.heap[b]?) : SlIn S w' v n cs :=
  h.imp id fun ⟨a, c, h1, h2, h3, h4⟩ => ⟨a, c, h1, h2, h3, h4.same hs⟩
theorem SlIn.below {S : Nat → Prop} {w w' : World} {v : Value} {n : Nat} {cs : Array Value} (h : SlIn S w v n cs) (hb : Below w.heap.size w w') : SlIn S w' v n cs :=
  h.same fun b hb' _ => hb.block b hb'
theorem SlIn.one {S : Nat → Prop} {w : World} {v : Value} {n : Nat} {cs : Array Value} (h : SlIn S w v n cs) : v.oneCell' = true := by
  rcases h with ⟨rfl, _⟩ | ⟨a, c, rfl, _⟩ <;> rfl
theorem SlIn.form {S : Nat → Prop} {w : World} {v : Value} {n : Nat} {cs : Array Value} (h : SlIn S w v n cs) : ∃ p c, v = .slice p n c := by
  rcases h with ⟨rfl, rfl, _⟩ | ⟨a, c, rfl, _⟩
  · exact ⟨none, 0, rfl⟩
  · exact ⟨some a, c, rfl⟩
theorem SlIn.nil (S : Nat → Prop) (w : World) (cs : Array Value) (h : cs.size = 0) : SlIn S w (.slice none 0 0) 0 cs := .inl ⟨rfl, rfl, h⟩
/-- With an element there is a place. -/
theorem SlIn.pos {S : Nat → Prop} {w : World} {v : Value} {n : Nat} {cs : Array Value} (h : SlIn S w v n cs) (hn : 0 < cs.size) :
    ∃ b o c, v = .slice (some ⟨b, o, none⟩) n c ∧ n ≤ c ∧ c ≤ maxLen ∧ S b ∧ b < w.heap.size ∧ o + cs.size ≤ (rowOf w b).size ∧ (rowOf w b).extract o (o + cs.size) = cs := by
  rcases h with ⟨_, _, h⟩ | ⟨⟨b, o, s⟩, c, rfl, h1, h2, h3⟩
  · omega
  · rcases h3 with h3 | ⟨h4, h5, h6, h7⟩
    · omega
    · simp only at h4 h5 h6 h7
      subst h4
      exact ⟨b, o, c, rfl, h1, h2, h5, rowOf_lt (by omega), h6, h7⟩
/-- A part of cells that lie somewhere. -/
theorem seg_part {row cs d : Array Value} {o i n : Nat} (_h1 : o + cs.size ≤ row.size) (h : row.extract o (o + cs.size) = cs) (hi : i + n ≤ cs.size) (hd : cs.extract i (i + n) = d) : row.extract (o + i) (o + i + n) = d := by
  rw [← hd, ← h, Array.extract_extract]
  congr 1 <;> omega
theorem seg_get {row cs : Array Value} {o i : Nat} (_h1 : o + cs.size ≤ row.size) (h : row.extract o (o + cs.size) = cs) (hi : i < cs.size) : row[o + i]? = cs[i]? := by
  rw [← h, Array.getElem?_extract]
  rw [if_pos (by omega)]

/-! ### rows of equal parts -/
/-- Parts laid behind one another. -/
def joinR (l : List (Array Value)) : Array Value := l.foldr (· ++ ·) #[]
@[simp] theorem joinR_nil : joinR [] = #[] := rfl
@[simp] theorem joinR_cons (x : Array Value) (l : List (Array Value)) : joinR (x :: l) = x ++ joinR l := rfl
theorem joinR_append (l m : List (Array Value)) : joinR (l ++ m) = joinR l ++ joinR m := by
  induction l with
  | nil => simp
  | cons x l ih => simp [ih, Array.append_assoc]
theorem joinR_size (k : Nat) : ∀ (l : List (Array Value)), (∀ x ∈ l, x.size = k) → (joinR l).size = l.length * k
  | [], _ => by simp
  | x :: l, h => by
    simp only [joinR_cons, Array.size_append, List.length_cons, joinR_size k l (fun y hy => h y (by simp [hy])), h x (by simp)]
    rw [Nat.add_mul]; omega
theorem joinR_part (k : Nat) : ∀ (l : List (Array Value)) (i : Nat) (hi : i < l.length), (∀ x ∈ l, x.size = k) → (joinR l).extract (i * k) (i * k + k) = l[i]
  | x :: l, 0, _, h => by
    have hx := h x (by simp)
    simp only [joinR_cons, Nat.zero_mul, Nat.zero_add, List.getElem_cons_zero]
    exact extract_append_left' _ _ _ hx
  | x :: l, i + 1, hi, h => by
    have hx := h x (by simp)
    simp only [joinR_cons, List.getElem_cons_succ]
    have := joinR_part k l i (by simpa using hi) (fun y hy => h y (by simp [hy]))
    rw [← this]
    have e1 : (i + 1) * k = x.size + i * k := by rw [hx, Nat.add_mul]; omega
    rw [e1, Nat.add_assoc, Array.extract_append, show x.size + i * k - x.size = i * k by omega, show x.size + (i * k + k) - x.size = i * k + k by omega]
    simp
theorem joinR_one {l : List (Array Value)} (h : ∀ x ∈ l, ones x = true) : ones (joinR l) = true := by
  induction l with
  | nil => rfl
  | cons x l ih => rw [joinR_cons, ones_append, h x (by simp), ih (fun y hy => h y (by simp [hy]))]; rfl

/-! ### bytes, slots, accounts -/
def sltRow (l : List Slt) : Array Value := joinR (l.map Slt.cells)
def sltAt (l : List Slt) (i : Nat) : Slt := l.getD i default
theorem sltRow_size (l : List Slt) : (sltRow l).size = l.length * 8 := by
  rw [sltRow, joinR_size 8 _ (by simp)]; simp
theorem sltRow_part (l : List Slt) (i : Nat) (hi : i < l.length) : (sltRow l).extract (i * 8) (i * 8 + 8) = (sltAt l i).cells := by
  rw [sltRow, joinR_part 8 _ i (by simpa using hi) (by simp)]
  simp [sltAt, hi]
theorem sltRow_one (l : List Slt) : ones (sltRow l) = true := joinR_one (by simp [Slt.cells_one])

/-- Bytes as numbers. -/
def bI (l : List UInt8) : List Int := l.map fun b => (b.toNat : Int)
@[go_sem, simp] theorem bI_length (l : List UInt8) : (bI l).length = l.length := by simp [bI]
theorem bI_inj {l m : List UInt8} (h : bI l = bI m) : l = m := (List.map_inj_right (fun x y e => by
  have e' : x.toNat = y.toNat := by injection e
  exact UInt8.toNat_inj.1 e')).1 h
/-- An account, as data. -/
structure Acc where
  adr : Adr
  nonce : Int
  bal : Wrd
  code : List UInt8
  stor : List Slt
  deriving DecidableEq, Inhabited
def emptyAcc (a : Adr) : Acc := ⟨a, 0, zeroWrd, [], []⟩
/-- A row of 27 cells is the account x: its lists lie in blocks of S. -/
def AccIn (S : Nat → Prop) (w : World) (row : Array Value) (x : Acc) : Prop :=
  ∃ c s, row = accRow x.adr x.nonce x.bal c s ∧ SlIn S w c x.code.length (ints .u8 (bI x.code)) ∧ SlIn S w s x.stor.length (sltRow x.stor)
theorem AccIn.mono {S T : Nat → Prop} {w : World} {row : Array Value} {x : Acc} (h : AccIn S w row x) (hs : ∀ b, S b → T b) : AccIn T w row x :=
  let ⟨c, s, h1, h2, h3⟩ := h
  ⟨c, s, h1, h2.mono hs, h3.mono hs⟩
theorem AccIn.same {S : Nat → Prop} {w w' : World} {row : Array Value} {x : Acc} (h : AccIn S w row x) (hs : ∀ b, b < w.heap.size → S b → w'.heap[b]? = w.heap[b]?) : AccIn S w' row x :=
  let ⟨c, s, h1, h2, h3⟩ := h
  ⟨c, s, h1, h2.same hs, h3.same hs⟩
theorem AccIn.below {S : Nat → Prop} {w w' : World} {row : Array Value} {x : Acc} (h : AccIn S w row x) (hb : Below w.heap.size w w') : AccIn S w' row x :=
  h.same fun b hb' _ => hb.block b hb'
theorem AccIn.size {S : Nat → Prop} {w : World} {row : Array Value} {x : Acc} (h : AccIn S w row x) : row.size = 27 := by
  obtain ⟨c, s, rfl, _⟩ := h; simp
theorem AccIn.one {S : Nat → Prop} {w : World} {row : Array Value} {x : Acc} (h : AccIn S w row x) : ones row = true := by
  obtain ⟨c, s, rfl, h1, h2⟩ := h; rw [accRow_one, h1.one, h2.one]; rfl
theorem AccIn.empty (S : Nat → Prop) (w : World) (a : Adr) : AccIn S w (accRow a 0 zeroWrd (.slice none 0 0) (.slice none 0 0)) (emptyAcc a) :=
  ⟨_, _, rfl, SlIn.nil _ _ _ rfl, SlIn.nil _ _ _ rfl⟩

/-- Rows that are accounts. -/
def AccsIn (S : Nat → Prop) (w : World) : List (Array Value) → List Acc → Prop
  | [], [] => True
  | r :: rs, x :: xs => AccIn S w r x ∧ AccsIn S w rs xs
  | _, _ => False
theorem AccsIn.length {S : Nat → Prop} {w : World} : ∀ {rs : List (Array Value)} {xs : List Acc}, AccsIn S w rs xs → rs.length = xs.length
  | [], [], _ => rfl
  | _ :: _, _ :: _, h => by simp [AccsIn.length h.2]
  | [], _ :: _, h => h.elim
  | _ :: _, [], h => h.elim
theorem AccsIn.get {S : Nat → Prop} {w : World} : ∀ {rs : List (Array Value)} {xs : List Acc} (_ : AccsIn S w rs xs) (i : Nat) (h1 : i < rs.length) (h2 : i < xs.length), AccIn S w rs[i] xs[i]
  | _ :: _, _ :: _, h, 0, _, _ => h.1
  | _ :: _, _ :: _, h, i + 1, h1, h2 => AccsIn.get h.2 i (by simpa using h1) (by simpa using h2)
theorem AccsIn.imp {S T : Nat → Prop} {w w' : World} (f : ∀ r x, AccIn S w r x → AccIn T w' r x) : ∀ {rs : List (Array Value)} {xs : List Acc}, AccsIn S w rs xs → AccsIn T w' rs xs
  | [], [], _ => trivial
  | _ :: _, _ :: _, h => ⟨f _ _ h.1, AccsIn.imp f h.2⟩
  | [], _ :: _, h => h.elim
  | _ :: _, [], h => h.elim
theorem AccsIn.append {S : Nat → Prop} {w : World} : ∀ {rs rs' : List (Array Value)} {xs xs' : List Acc}, AccsIn S w rs xs → AccsIn S w rs' xs' → AccsIn S w (rs ++ rs') (xs ++ xs')
  | [], _, [], _, _, h => h
  | _ :: _, _, _ :: _, _, h, h' => ⟨h.1, AccsIn.append h.2 h'⟩
  | [], _, _ :: _, _, h, _ => h.elim
  | _ :: _, _, [], _, h, _ => h.elim
theorem AccsIn.sizes {S : Nat → Prop} {w : World} : ∀ {rs : List (Array Value)} {xs : List Acc}, AccsIn S w rs xs → ∀ r ∈ rs, r.size = 27
  | [], [], _, _, h => by simp at h
  | r :: rs, x :: xs, h, r', hr => by
    rcases List.mem_cons.1 hr with e | e
    · rw [e]; exact h.1.size
    · exact AccsIn.sizes h.2 _ e
  | [], _ :: _, h, _, _ => h.elim
  | _ :: _, [], h, _, _ => h.elim
theorem AccsIn.ones {S : Nat → Prop} {w : World} : ∀ {rs : List (Array Value)} {xs : List Acc}, AccsIn S w rs xs → ∀ r ∈ rs, Ytadafohgglnneaa.ones r = true
  | [], [], _, _, h => by simp at h
  | r :: rs, x :: xs, h, r', hr => by
    rcases List.mem_cons.1 hr with e | e
    · rw [e]; exact h.1.one
    · exact AccsIn.ones h.2 _ e
  | [], _ :: _, h, _, _ => h.elim
  | _ :: _, [], h, _, _ => h.elim
/-- A slice of accounts. -/
def AccsAt (S : Nat → Prop) (w : World) (v : Value) (xs : List Acc) : Prop := ∃ rs, SlIn S w v xs.length (joinR rs) ∧ AccsIn S w rs xs
theorem AccsAt.same {S : Nat → Prop} {w w' : World} {v : Value} {xs : List Acc} (h : AccsAt S w v xs) (hs : ∀ b, b < w.heap.size → S b → w'.heap[b]? = w.heap[b]?) : AccsAt S w' v xs :=
  let ⟨rs, h1, h2⟩ := h
  ⟨rs, h1.same hs, h2.imp fun _ _ h => h.same hs⟩
theorem AccsAt.below {S : Nat → Prop} {w w' : World} {v : Value} {xs : List Acc} (h : AccsAt S w v xs) (hb : Below w.heap.size w w') : AccsAt S w' v xs :=
  h.same fun b hb' _ => hb.block b hb'
theorem AccsAt.mono {S T : Nat → Prop} {w : World} {v : Value} {xs : List Acc} (h : AccsAt S w v xs) (hs : ∀ b, S b → T b) : AccsAt T w v xs :=
  let ⟨rs, h1, h2⟩ := h
  ⟨rs, h1.mono hs, h2.imp fun _ _ h => h.mono hs⟩
theorem AccsAt.nil (S : Nat → Prop) (w : World) : AccsAt S w (.slice none 0 0) [] := ⟨[], SlIn.nil _ _ _ rfl, trivial⟩

def accAt (xs : List Acc) (i : Nat) : Acc := xs.getD i default
def rowAt (rs : List (Array Value)) (i : Nat) : Array Value := rs.getD i #[]
/-- With an account there is a place; each account has its row. -/
theorem AccsAt.pos {S : Nat → Prop} {w : World} {v : Value} {xs : List Acc} (h : AccsAt S w v xs) (hn : 0 < xs.length) :
    ∃ b o c rs, v = .slice (some ⟨b, o, none⟩) xs.length c ∧ xs.length ≤ c ∧ c ≤ maxLen ∧ S b ∧ b < w.heap.size ∧ o + xs.length * 27 ≤ (rowOf w b).size ∧
      ∀ k, k < xs.length → (rowOf w b).extract (o + k * 27) (o + k * 27 + 27) = rowAt rs k ∧ AccIn S w (rowAt rs k) (accAt xs k) := by
  obtain ⟨rs, h1, h2⟩ := h
  have hl := h2.length
  have hz := h2.sizes
  have hj : (joinR rs).size = xs.length * 27 := by rw [joinR_size 27 rs hz, hl]
  obtain ⟨b, o, c, rfl, e1, e2, e3, e4, e5, e6⟩ := h1.pos (by omega)
  refine ⟨b, o, c, rs, rfl, e1, e2, e3, e4, by omega, fun k hk => ?_⟩
  have hk' : k < rs.length := by omega
  have er : rowAt rs k = rs[k] := by simp [rowAt, hk']
  have ea : accAt xs k = xs[k] := by simp [accAt, hk]
  rw [er, ea]
  exact ⟨seg_part e5 e6 (by omega) (joinR_part 27 rs k hk' hz), h2.get k hk' hk⟩
/-- A slice of one account, just laid. -/
theorem AccsAt.single {S : Nat → Prop} {w : World} {row : Array Value} {x : Acc} (h : AccIn S w row x) (b : Nat) (hS : S b) (hb : b < w.heap.size) (hr : rowOf w b = row) : AccsAt S w (.slice (some ⟨b, 0, none⟩) 1 1) [x] := by
  refine ⟨[row], .inr ⟨_, _, rfl, Nat.le_refl _, by decide, ?_⟩, h, trivial⟩
  have hs := h.size
  refine .inr ⟨rfl, hS, ?_, ?_⟩
  · simp [hr]
  · simp [hr]
theorem AccsAt.form {S : Nat → Prop} {w : World} {v : Value} {xs : List Acc} (h : AccsAt S w v xs) : ∃ p c, v = .slice p xs.length c := by
  obtain ⟨rs, h1, _⟩ := h; exact h1.form
theorem AccsAt.le {S : Nat → Prop} {w : World} {p : Option Addr} {n c : Nat} {xs : List Acc} (h : AccsAt S w (.slice p n c) xs) : n ≤ c ∧ c ≤ maxLen := by
  obtain ⟨rs, h1, _⟩ := h
  rcases h1 with ⟨e, _⟩ | ⟨a, c', e, h2, h3, _⟩
  · cases e; exact ⟨Nat.le_refl _, by decide⟩
  · cases e; exact ⟨h2, h3⟩
/-- Has it its storage as it must be at place i? -/
def okAt (l : List Slt) (i : Nat) : Bool := !decide ((sltAt l i).v = zeroWrd) && (decide (i = 0) || (sltAt l (i - 1)).k.lt (sltAt l i).k)
def rightB (l : List Slt) : Bool := (List.range l.length).all (okAt l)
theorem rightB_true {l : List Slt} (h : ∀ i, i < l.length → okAt l i = true) : rightB l = true := by
  rw [rightB, List.all_eq_true]; intro i hi; exact h i (by simpa using hi)
theorem rightB_false {l : List Slt} {i : Nat} (hi : i < l.length) (h : okAt l i = false) : rightB l = false := by
  rw [rightB, List.all_eq_false]; exact ⟨i, by simpa using hi, by simp [h]⟩
end Go.Proofs.Ytadafohgglnneaa
