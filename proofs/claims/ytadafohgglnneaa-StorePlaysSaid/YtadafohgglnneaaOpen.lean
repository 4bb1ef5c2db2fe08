/- What a call's arguments are, read as data: addresses, words, slots, bytes, accounts and lists of them. No condition. -/
import Derived.Test.YtadafohgglnneaaFacts
import Derived.Test.YtadafohgglnneaaBase
import Derived.WalkKit
import Derived.ProofKit
import Derived.OpenShut
import Derived.ShutString
import Derived.ChangeOld
import Derived.Below
namespace Go.Proofs.Ytadafohgglnneaa
open Go.ChangeShapes Go.WideShapes Go.ChangeAt Go.RowKit
theorem own : ownKnob Try.prog.godebug = none := by kernel_rfl
theorem laidOut : laidOutB Try.prog = true := by kernel_rfl
def AnyBlock (_ : Nat) : Prop := True
theorem add_block (b o i : Nat) : (Addr.mk b o none).add i = ⟨b, o + i, none⟩ := by
  unfold Addr.add; split
  · rename_i h; subst h; rfl
  · rfl
theorem seg_of_cells {w : World} {a : Addr} {cs : Array Value} (h : ∀ i, i < cs.size → w.cell? (a.add i) = cs[i]?) : SegIn AnyBlock w a cs := by
  by_cases h0 : cs.size = 0
  · exact .inl h0
  · have e0 := h 0 (by omega)
    rw [Array.getElem?_eq_getElem (by omega)] at e0
    have hs := World.cell?_spot e0
    obtain ⟨b, o, s⟩ := a
    have : s = none := by simpa [Addr.add] using hs
    subst this
    have hr : ∀ i, i < cs.size → (rowOf w b)[o + i]? = cs[i]? := fun i hi => by rw [← h i hi, add_block, cell_row]
    have hlast := hr (cs.size - 1) (by omega)
    rw [Array.getElem?_eq_getElem (show cs.size - 1 < cs.size by omega)] at hlast
    have hlt := (Array.getElem?_eq_some_iff.1 hlast).1
    refine .inr ⟨rfl, trivial, by show o + cs.size ≤ (rowOf w b).size; omega, ?_⟩
    show (rowOf w b).extract o (o + cs.size) = cs
    apply Array.ext_getElem?
    intro i
    rw [Array.getElem?_extract]
    by_cases hi : i < cs.size
    · rw [if_pos (by omega), hr i hi]
    · rw [if_neg (by omega), Array.getElem?_eq_none (by omega)]
/-- Rows that are told of one by one. -/
def All2 {α : Type} (E : Array Value → α → Prop) : List (Array Value) → List α → Prop
  | [], [] => True
  | r :: rs, x :: xs => E r x ∧ All2 E rs xs
  | _, _ => False
theorem All2.append {α : Type} {E : Array Value → α → Prop} : ∀ {rs rs' : List (Array Value)} {xs xs' : List α}, All2 E rs xs → All2 E rs' xs' → All2 E (rs ++ rs') (xs ++ xs')
  | [], _, [], _, _, h => h
  | _ :: _, _, _ :: _, _, h, h' => ⟨h.1, All2.append h.2 h'⟩
  | [], _, _ :: _, _, h, _ => h.elim
  | _ :: _, _, [], _, h, _ => h.elim
theorem All2.accs {S : Nat → Prop} {w : World} : ∀ {rs : List (Array Value)} {xs : List Acc}, All2 (AccIn S w) rs xs → AccsIn S w rs xs
  | [], [], _ => trivial
  | _ :: _, _ :: _, h => ⟨h.1, All2.accs h.2⟩
  | [], _ :: _, h => h.elim
  | _ :: _, [], h => h.elim
/-- Where the rows are all of one making. -/
theorem All2.eq {α : Type} {f : α → Array Value} : ∀ {rs : List (Array Value)} {xs : List α}, All2 (fun r x => r = f x) rs xs → rs = xs.map f
  | [], [], _ => rfl
  | _ :: _, _ :: _, h => by rw [List.map_cons, ← h.1, ← All2.eq h.2]
  | [], _ :: _, h => h.elim
  | _ :: _, [], h => h.elim
section
variable {H : Type} {enc : TypeId × Value → H} {w : World} {base : Nat} {spare : Nat → Bool} {held : Bool}
/-- A slice of elements that can be told of. -/
theorem open_rows {α : Type} {E : Array Value → α → Prop} {t e : TypeId} {k : Nat} {fuel : Nat} {cs : List Value} {x : DataW H × List MemPlace} (ht : Try.prog.underlying t = some (.slice e)) (hk : Try.prog.cellsOf e = k)
    (hE : ∀ fuel cs x, DataW.trod enc Try.prog w base spare held fuel e cs = some x → ∃ a, E cs.toArray a)
    (h : DataW.trod enc Try.prog w base spare held fuel t cs = some x) :
    ∃ v rs xs, cs = [v] ∧ SlIn AnyBlock w v xs.length (joinR rs) ∧ All2 E rs xs ∧ ∀ r ∈ rs, r.size = k := by
  rcases DataW.trod_slice ht h with ⟨rfl, _⟩ | ⟨a, len, cap, elems, rest, n, _, rfl, _, hb, hl, hm, hlen, hel, hsp, hns⟩
  · exact ⟨_, [], [], rfl, SlIn.nil _ _ _ rfl, trivial, by simp⟩
  rw [hk] at hel
  have all : ∀ m, m ≤ len → ∃ rs xs, List.length rs = m ∧ List.length xs = m ∧ All2 E rs xs ∧ (∀ r ∈ rs, Array.size r = k) ∧ ∀ j, j < m * k → w.cell? (a.add j) = (joinR rs)[j]? := by
    intro m
    induction m with
    | zero => intro _; exact ⟨[], [], rfl, rfl, trivial, by simp, by simp⟩
    | succ m ih =>
      intro hm'
      obtain ⟨rs, xs, h1, h2, h3, h4, h5⟩ := ih (by omega)
      have hm2 := hel m (by omega)
      rw [List.getElem?_eq_getElem (by omega), Option.bind_eq_some_iff] at hm2
      obtain ⟨cs', hcs, hy'⟩ := hm2
      obtain ⟨_, hcl, hcc⟩ := World.cells?_some hcs
      obtain ⟨y, hy⟩ := hE _ _ _ hy'
      refine ⟨rs ++ [cs'.toArray], xs ++ [y], by simp [h1], by simp [h2], h3.append ⟨hy, trivial⟩, ?_, ?_⟩
      · intro r hr
        rcases List.mem_append.1 hr with hr | hr
        · exact h4 r hr
        · simp at hr; subst hr; simpa using hcl
      · intro j hj
        have hsz : (joinR rs).size = m * k := by rw [joinR_size k rs h4, h1]
        rw [joinR_append]
        have hone : joinR [cs'.toArray] = cs'.toArray := by simp
        rw [hone]
        by_cases hjm : j < m * k
        · rw [h5 j hjm, Array.getElem?_append_left (by omega)]
        · rw [Nat.add_mul] at hj
          have e := hcc (j - m * k) (by omega)
          rw [Array.getElem?_append_right (by omega), hsz]
          have : (a.add (m * k)).add (j - m * k) = a.add j := by
            unfold Addr.add
            by_cases z1 : m * k = 0
            · simp [z1]
            · by_cases z2 : j - m * k = 0
              · have : j = m * k := by omega
                simp [this, z1]
              · have : j ≠ 0 := by omega
                simp [z1, z2, this]; omega
          rw [this] at e
          simpa using e
  obtain ⟨rs, xs, h1, h2, h3, h4, h5⟩ := all len (Nat.le_refl _)
  refine ⟨_, rs, xs, rfl, .inr ⟨a, cap, by rw [h2], by omega, hm, seg_of_cells ?_⟩, h3, h4⟩
  rw [joinR_size k rs h4, h1]; exact h5
/-- An array of integers. -/
theorem open_nums {t e : TypeId} {k : IntKind} {n : Nat} {fuel : Nat} {cs : List Value} {x : DataW H × List MemPlace} (ht : Try.prog.underlying t = some (.array n e)) (he : Try.prog.underlying e = some (.int k)) (hc : Try.prog.cellsOf e = 1) (hn : Try.prog.cellsOf t = n)
    (h : DataW.trod enc Try.prog w base spare held fuel t cs = some x) : ∃ l : List Int, cs.toArray = ints k l ∧ l.length = n ∧ ∀ z ∈ l, (Lit.int k z).wf = true := by
  obtain ⟨xs, m, rfl, _, hl, hxl, hel⟩ := DataW.trod_array ht h
  rw [hn] at hl
  rw [hc] at hel
  have each : ∀ i (hi : i < cs.length), ∃ z, cs[i] = .int k z ∧ (Lit.int k z).wf = true := by
    intro i hi
    have h1 := hel i (by omega)
    rw [List.getElem?_eq_getElem (by omega)] at h1
    obtain ⟨z, hz, _, hw⟩ := DataW.trod_int he h1
    refine ⟨z, ?_, hw⟩
    have : (cs.drop (i * 1)).take 1 = [cs[i]] := by rw [Nat.mul_one, List.drop_eq_getElem_cons hi]; rfl
    rw [this] at hz
    simpa using hz
  have num : ∀ (cs : List Value), (∀ i (hi : i < cs.length), ∃ z, cs[i] = .int k z ∧ (Lit.int k z).wf = true) → ∃ l : List Int, cs = l.map (Value.int k) ∧ ∀ z ∈ l, (Lit.int k z).wf = true := by
    intro cs
    induction cs with
    | nil => intro _; exact ⟨[], rfl, by simp⟩
    | cons c cs ih =>
      intro hcs
      obtain ⟨l, rfl, hl⟩ := ih fun i hi => hcs (i + 1) (by simpa using hi)
      obtain ⟨z, hz, hw⟩ := hcs 0 (by simp)
      refine ⟨z :: l, by simp at hz; simp [hz], ?_⟩
      intro y hy
      rcases List.mem_cons.1 hy with rfl | hy
      · exact hw
      · exact hl y hy
  obtain ⟨l, rfl, hw⟩ := num cs each
  exact ⟨l, rfl, by simpa using hl, hw⟩
theorem open_adr {fuel : Nat} {cs : List Value} {x : DataW H × List MemPlace} (h : DataW.trod enc Try.prog w base spare held fuel 23 cs = some x) : ∃ a : Adr, cs.toArray = a.cells := by
  obtain ⟨l, h1, h2, h3⟩ := open_nums Try.underlying23 Try.underlying5 (by kernel_rfl) (by kernel_rfl) h
  refine ⟨⟨l, h2, fun z hz => ?_⟩, h1⟩
  have := h3 z hz
  simp [Lit.wf, IntKind.min, IntKind.max, IntKind.bits, IntKind.signed] at this
  omega
theorem open_wrd {fuel : Nat} {cs : List Value} {x : DataW H × List MemPlace} (h : DataW.trod enc Try.prog w base spare held fuel 26 cs = some x) : ∃ a : Wrd, cs.toArray = a.cells := by
  obtain ⟨l, h1, h2, h3⟩ := open_nums Try.underlying26 Try.underlying24 (by kernel_rfl) (by kernel_rfl) h
  refine ⟨⟨l, h2, fun z hz => ?_⟩, h1⟩
  have := h3 z hz
  simp [Lit.wf, IntKind.min, IntKind.max, IntKind.bits, IntKind.signed] at this
  have : big64 = 18446744073709551616 := rfl
  omega
theorem joinR_map1 {α : Type} (f : α → Value) (l : List α) : joinR (l.map fun x => #[f x]) = (l.map f).toArray := by
  induction l with
  | nil => rfl
  | cons x l ih => simp [ih]
theorem open_byte {fuel : Nat} {cs : List Value} {x : DataW H × List MemPlace} (h : DataW.trod enc Try.prog w base spare held fuel 5 cs = some x) : ∃ b : UInt8, cs.toArray = #[.int .u8 (b.toNat : Int)] := by
  obtain ⟨n, rfl, _, hw⟩ := DataW.trod_int Try.underlying5 h
  simp [Lit.wf, IntKind.min, IntKind.max, IntKind.bits, IntKind.signed] at hw
  refine ⟨UInt8.ofNat n.toNat, ?_⟩
  have : (UInt8.ofNat n.toNat).toNat = n.toNat := by simp [UInt8.toNat_ofNat']; omega
  rw [this]; simp; omega
theorem open_bytes {fuel : Nat} {cs : List Value} {x : DataW H × List MemPlace} (h : DataW.trod enc Try.prog w base spare held fuel 27 cs = some x) :
    ∃ (v : Value) (l : List UInt8), cs = [v] ∧ SlIn AnyBlock w v l.length (ints .u8 (bI l)) := by
  obtain ⟨v, rs, xs, h1, h2, h3, h4⟩ := open_rows (E := fun r (b : UInt8) => r = #[.int .u8 (b.toNat : Int)]) Try.underlying27 (k := 1) (by kernel_rfl) (fun _ _ _ h => open_byte h) h
  refine ⟨v, xs, h1, ?_⟩
  have := h3.eq
  subst this
  rw [joinR_map1] at h2
  have e : ints .u8 (bI xs) = (xs.map fun b : UInt8 => Value.int .u8 (b.toNat : Int)).toArray := by simp [ints, bI]
  rw [e]; exact h2
theorem open_slt {fuel : Nat} {cs : List Value} {x : DataW H × List MemPlace} (h : DataW.trod enc Try.prog w base spare held fuel 116 cs = some x) : ∃ s : Slt, cs.toArray = s.cells := by
  obtain ⟨xs, n, rfl, _, hl, hxl, hel⟩ := DataW.trod_struct Try.underlying116 h
  have hl8 : cs.length = 8 := by rw [hl]; kernel_rfl
  have c26 : Try.prog.cellsOf 26 = 4 := by kernel_rfl
  have h0 : DataW.trod enc Try.prog w base spare held n 26 ((cs.drop 0).take (Try.prog.cellsOf 26)) = xs[0]? := hel 0 _ rfl
  have h1 : DataW.trod enc Try.prog w base spare held n 26 ((cs.drop 4).take (Try.prog.cellsOf 26)) = xs[1]? := hel 1 _ rfl
  simp only [List.size_toArray, List.length_cons, List.length_nil] at hxl
  rw [List.getElem?_eq_getElem (by omega)] at h0 h1
  obtain ⟨a, ha⟩ := open_wrd h0
  obtain ⟨b, hb⟩ := open_wrd h1
  rw [c26] at ha hb
  refine ⟨⟨a, b⟩, ?_⟩
  rw [Slt.cells, ← ha, ← hb]
  have : (cs.drop 4).take 4 = cs.drop 4 := List.take_of_length_le (by simp; omega)
  simp [this]
theorem open_slts {fuel : Nat} {cs : List Value} {x : DataW H × List MemPlace} (h : DataW.trod enc Try.prog w base spare held fuel 28 cs = some x) :
    ∃ (v : Value) (l : List Slt), cs = [v] ∧ SlIn AnyBlock w v l.length (sltRow l) := by
  obtain ⟨v, rs, xs, h1, h2, h3, h4⟩ := open_rows (E := fun r (s : Slt) => r = s.cells) Try.underlying28 (k := 8) (by kernel_rfl) (fun _ _ _ h => open_slt h) h
  refine ⟨v, xs, h1, ?_⟩
  have := h3.eq
  subst this
  exact h2
theorem open_acc {fuel : Nat} {cs : List Value} {x : DataW H × List MemPlace} (h : DataW.trod enc Try.prog w base spare held fuel 30 cs = some x) : ∃ a : Acc, AccIn AnyBlock w cs.toArray a := by
  obtain ⟨xs, n, rfl, _, hl, hxl, hel⟩ := DataW.trod_struct Try.underlying30 h
  have hl27 : cs.length = 27 := by rw [hl]; kernel_rfl
  have h0 : DataW.trod enc Try.prog w base spare held n 23 ((cs.drop 0).take (Try.prog.cellsOf 23)) = xs[0]? := hel 0 _ rfl
  have h1 : DataW.trod enc Try.prog w base spare held n 24 ((cs.drop 20).take (Try.prog.cellsOf 24)) = xs[1]? := hel 1 _ rfl
  have h2 : DataW.trod enc Try.prog w base spare held n 26 ((cs.drop 21).take (Try.prog.cellsOf 26)) = xs[2]? := hel 2 _ rfl
  have h3 : DataW.trod enc Try.prog w base spare held n 27 ((cs.drop 25).take (Try.prog.cellsOf 27)) = xs[3]? := hel 3 _ rfl
  have h4 : DataW.trod enc Try.prog w base spare held n 28 ((cs.drop 26).take (Try.prog.cellsOf 28)) = xs[4]? := hel 4 _ rfl
  simp only [List.size_toArray, List.length_cons, List.length_nil] at hxl
  rw [List.getElem?_eq_getElem (by omega)] at h0 h1 h2 h3 h4
  obtain ⟨a, ha⟩ := open_adr h0
  obtain ⟨m, hm, _, _⟩ := DataW.trod_int Try.underlying24 h1
  obtain ⟨b, hb⟩ := open_wrd h2
  obtain ⟨vc, code, hvc, hcode⟩ := open_bytes h3
  obtain ⟨vs, stor, hvs, hstor⟩ := open_slts h4
  have c23 : Try.prog.cellsOf 23 = 20 := by kernel_rfl
  have c24 : Try.prog.cellsOf 24 = 1 := by kernel_rfl
  have c26 : Try.prog.cellsOf 26 = 4 := by kernel_rfl
  have c27 : Try.prog.cellsOf 27 = 1 := by kernel_rfl
  have c28 : Try.prog.cellsOf 28 = 1 := by kernel_rfl
  rw [c23] at ha
  rw [c24] at hm
  rw [c26] at hb
  rw [c27] at hvc
  rw [c28] at hvs
  refine ⟨⟨a, m, b, code, stor⟩, vc, vs, ?_, hcode, hstor⟩
  have hcs : cs = cs.take 20 ++ ((cs.drop 20).take 1 ++ ((cs.drop 21).take 4 ++ ((cs.drop 25).take 1 ++ (cs.drop 26).take 1))) := by
    have st : ∀ i k, cs.drop i = (cs.drop i).take k ++ cs.drop (i + k) := fun i k => by
      rw [← List.drop_drop]; exact (List.take_append_drop _ _).symm
    have e4 : cs.drop 26 = (cs.drop 26).take 1 := (List.take_of_length_le (by simp; omega)).symm
    exact (st 0 20).trans (congrArg _ ((st 20 1).trans (congrArg _ ((st 21 4).trans (congrArg _ ((st 25 1).trans (congrArg _ e4)))))))
  rw [hcs]
  simp only [List.drop_zero] at ha
  simp only [← List.append_toArray, ha, hm, hb, hvc, hvs, accRow]
  rfl
theorem open_accs {fuel : Nat} {cs : List Value} {x : DataW H × List MemPlace} (h : DataW.trod enc Try.prog w base spare held fuel 32 cs = some x) : ∃ (v : Value) (xs : List Acc), cs = [v] ∧ AccsAt AnyBlock w v xs := by
  obtain ⟨v, rs, xs, h1, h2, h3, h4⟩ := open_rows (E := AccIn AnyBlock w) Try.underlying32 (k := 27) (by kernel_rfl) (fun _ _ _ h => open_acc h) h
  exact ⟨v, xs, h1, rs, h2, h3.accs⟩
theorem open_adrs {fuel : Nat} {cs : List Value} {x : DataW H × List MemPlace} (h : DataW.trod enc Try.prog w base spare held fuel 35 cs = some x) :
    ∃ (v : Value) (l : List Adr), cs = [v] ∧ SlIn AnyBlock w v l.length (joinR (l.map Adr.cells)) := by
  obtain ⟨v, rs, xs, h1, h2, h3, h4⟩ := open_rows (E := fun r (s : Adr) => r = s.cells) Try.underlying35 (k := 20) (by kernel_rfl) (fun _ _ _ h => open_adr h) h
  refine ⟨v, xs, h1, ?_⟩
  have := h3.eq
  subst this
  exact h2
end
end Go.Proofs.Ytadafohgglnneaa
