/- Sorting a row that one has laid: the rows of its elements in another order. No condition. -/
import Derived.Test.YtadafohgglnneaaSh
import Derived.Test.YtadafohgglnneaaC1
import Derived.Test.YtadafohgglnneaaR1
import Derived.Shelf.SlSortCmp.NoneTotal
import Derived.Test.YtadafohgglnneaaK1
namespace Go.Proofs.Ytadafohgglnneaa
open Go.RowKit
/-- Two lists, element by element. -/
def Rel2 {α β : Type} (R : α → β → Prop) : List α → List β → Prop
  | [], [] => True
  | a :: xs, b :: bs => R a b ∧ Rel2 R xs bs
  | _, _ => False
theorem Rel2.length {α β : Type} {R : α → β → Prop} : ∀ {xs : List α} {bs : List β}, Rel2 R xs bs → xs.length = bs.length
  | [], [], _ => rfl
  | _ :: _, _ :: _, h => by simp [Rel2.length h.2]
  | [], _ :: _, h => h.elim
  | _ :: _, [], h => h.elim
theorem Rel2.perm {α β : Type} {R : α → β → Prop} {xs xs' : List α} (hp : xs.Perm xs') : ∀ {bs : List β}, Rel2 R xs bs → ∃ bs', bs.Perm bs' ∧ Rel2 R xs' bs' := by
  induction hp with
  | nil => intro bs h; exact ⟨bs, List.Perm.refl _, h⟩
  | cons x _ ih =>
    intro bs h
    cases bs with
    | nil => exact h.elim
    | cons b bs =>
      obtain ⟨bs', h1, h2⟩ := ih h.2
      exact ⟨b :: bs', List.Perm.cons b h1, h.1, h2⟩
  | swap x y l =>
    intro bs h
    cases bs with
    | nil => exact h.elim
    | cons b bs => cases bs with
      | nil => exact h.2.elim
      | cons c bs => exact ⟨c :: b :: bs, List.Perm.swap .., h.2.1, h.1, h.2.2⟩
  | trans _ _ ih1 ih2 =>
    intro bs h
    obtain ⟨b1, p1, q1⟩ := ih1 h
    obtain ⟨b2, p2, q2⟩ := ih2 q1
    exact ⟨b2, p1.trans p2, q2⟩
theorem Rel2.pairwise {α β : Type} {R : α → β → Prop} {p : α → α → Prop} {q : β → β → Prop} (hpq : ∀ a b c d, R a b → R c d → p a c → q b d) : ∀ {xs : List α} {bs : List β}, Rel2 R xs bs → xs.Pairwise p → bs.Pairwise q
  | [], [], _, _ => List.Pairwise.nil
  | a :: xs, b :: bs, h, hp => by
    rw [List.pairwise_cons] at hp ⊢
    refine ⟨?_, Rel2.pairwise hpq h.2 hp.2⟩
    have aux : ∀ {xs : List α} {bs : List β}, Rel2 R xs bs → (∀ x ∈ xs, p a x) → ∀ y ∈ bs, q b y := by
      intro xs
      induction xs with
      | nil => intro bs h2 _ y hy; cases bs with
        | nil => simp at hy
        | cons c bs => exact h2.elim
      | cons x xs ih => intro bs h2 hx y hy; cases bs with
        | nil => exact h2.elim
        | cons c bs =>
          rcases List.mem_cons.1 hy with rfl | hy
          · exact hpq _ _ _ _ h.1 h2.1 (hx x (by simp))
          · exact ih h2.2 (fun z hz => hx z (by simp [hz])) y hy
    exact aux h.2 hp.1
  | [], _ :: _, h, _ => h.elim
  | _ :: _, [], h, _ => h.elim
theorem All2.rel {α β : Type} {E : Array Value → α → Prop} {enc : β → List Value} : ∀ {rs : List (Array Value)} {ys : List α}, All2 E rs ys → (∀ r y, E r y → ∃ b, r = (enc b).toArray) → ∃ bs : List β, rs = bs.map (fun b => (enc b).toArray) ∧ Rel2 (fun b y => E (enc b).toArray y) bs ys
  | [], [], _, _ => ⟨[], rfl, trivial⟩
  | r :: rs, y :: ys, h, hE => by
    obtain ⟨b, rfl⟩ := hE _ _ h.1
    obtain ⟨bs, rfl, h2⟩ := All2.rel h.2 hE
    exact ⟨b :: bs, rfl, h.1, h2⟩
  | [], _ :: _, h, _ => h.elim
  | _ :: _, [], h, _ => h.elim
theorem Rel2.all2 {α β : Type} {E : Array Value → α → Prop} {enc : β → List Value} : ∀ {bs : List β} {ys : List α}, Rel2 (fun b y => E (enc b).toArray y) bs ys → All2 E (bs.map (fun b => (enc b).toArray)) ys
  | [], [], _ => trivial
  | _ :: _, _ :: _, h => ⟨h.1, Rel2.all2 h.2⟩
  | [], _ :: _, h => h.elim
  | _ :: _, [], h => h.elim
/-- The sort's flat row is our row of rows. -/
theorem flat_joinR {β : Type} [Inhabited β] (enc : β → List Value) (k : Nat) (hk : ∀ x, (enc x).length = k) (bs : List β) : Go.Sort.flatK enc k bs.toArray = joinR (bs.map (fun b => (enc b).toArray)) := by
  have hz : ∀ r ∈ bs.map (fun b => (enc b).toArray), r.size = k := by
    intro r hr; obtain ⟨b, _, rfl⟩ := List.mem_map.1 hr; simp [hk]
  have hj := joinR_size k _ hz
  rw [List.length_map] at hj
  refine Go.Sort.ext_get! (by simp [hj]) fun t ht => ?_
  simp only [Go.Sort.size_flatK, List.size_toArray] at ht
  have k0 : 0 < k := by rcases Nat.eq_zero_or_pos k with h | h; · subst h; simp at ht
                        · exact h
  rw [Go.Sort.get_flatK _ _ _ t (by simpa using ht)]
  have hq : t / k < bs.length := Nat.div_lt_of_lt_mul (by rw [Nat.mul_comm]; exact ht)
  have hm : t % k < k := Nat.mod_lt _ k0
  have hp := joinR_part k _ (t / k) (by simpa using hq) hz
  have hte : t = t / k * k + t % k := (Nat.div_add_mod' t k).symm
  have e1 : (joinR (bs.map (fun b => (enc b).toArray)))[t]? = (enc bs[t / k]).toArray[t % k]? := by
    conv => lhs; rw [hte]
    have := congrArg (fun a : Array Value => a[t % k]?) hp
    simp only [Array.getElem?_extract, List.getElem_map] at this
    rw [if_pos (by rw [hj]; have := Nat.mul_le_mul_right k (show t / k + 1 ≤ bs.length from hq); rw [Nat.add_mul] at this; omega)] at this
    exact this
  have e2 : (enc (bs.toArray)[t / k]!)[t % k]! = (enc bs[t / k])[t % k]! := by
    congr 2
    simp [hq]
  rw [e2, Array.getElem!_eq_getD, Array.getD_eq_getD_getElem?, e1]
  simp [hk, hm]
end Go.Proofs.Ytadafohgglnneaa
/- A row that one has laid, sorted by the library: the same elements in rising order; the sort of addresses and of accounts. No condition. -/
namespace Go.Proofs.Ytadafohgglnneaa
open Go.RowKit
section
variable {α β : Type} [Inhabited β] {e : TypeId} {size : Nat} {E : World → Array Value → α → Prop} {enc : β → List Value}
theorem heap_sorted_mine {w : World} {g n : Nat} {os : Array Obj} {cur : Array Value} {fr : Nat × Nat} (F : Array Value) (hb : w.heap[g]? = some (.cells cur e fr)) :
    (Go.Sort.grow (Go.Sort.putRow id (Go.Sort.ahead w n) g 0 F) os).heap[g]? = some (.cells (Go.Sort.putCells id 0 F cur) e fr) := by
  have hlt : g < w.heap.size := (Array.getElem?_eq_some_iff.1 hb).1
  rw [Go.Sort.heap_grow_old _ _ (by simpa [Go.Sort.putRow, Go.Sort.mapBlock, Go.Sort.ahead] using hlt)]
  simp [Go.Sort.putRow, Go.Sort.mapBlock, Go.Sort.ahead, Array.getElem?_modify, hb, Go.Sort.onCells]
theorem kept_sorted {w : World} {g n : Nat} {os : Array Obj} (F : Array Value) : Kept (fun k => k = g) w (Go.Sort.grow (Go.Sort.putRow id (Go.Sort.ahead w n) g 0 F) os) := by
  refine ⟨rfl, rfl, rfl, by simp, fun k hk hne => ?_⟩
  rw [Go.Sort.heap_grow_old _ _ (by simpa using hk)]
  have : g ≠ k := fun e => hne e.symm
  simp [Go.Sort.putRow, Go.Sort.mapBlock, Go.Sort.ahead, Array.getElem?_modify, this]
theorem take_put (cur F : Array Value) (h : F.size ≤ cur.size) : (Go.Sort.putCells id 0 F cur).toList.take F.size = F.toList := by
  apply List.ext_getElem?
  intro j
  by_cases hj : j < F.size
  · rw [List.getElem?_take_of_lt hj, Array.getElem?_toList]
    simp [Go.Sort.putCells, hj, show j < cur.size by omega]
  · rw [List.getElem?_take_eq_none (by omega), List.getElem?_eq_none (by simp; omega)]
/-- What the library's sort leaves of a row that one has laid. -/
theorem sort_out (hk : ∀ x, (enc x).length = size) (cf : β → β → Int) (F : FuncId) (fv : Value)
    (hcall : ∀ (blk off cap : Nat) (d : Array β) (w : World), Go.Sort.HoldsK enc size w blk off d → blk < w.heap.size → d.size < 4611686018427387904 → Calls Try.prog F #[.slice (some ⟨blk, off, none⟩) d.size cap, fv] w fun e w' =>
      e = .returned (.tuple #[]) ∧ ∃ d' n os, Go.Sort.PermIn 0 d.size d d' ∧ Go.Sort.SortedIn (ltOf cf) 0 d.size d' ∧ w' = sortWorldK enc size w blk off n d' os)
    (hnone : ∀ (p : Option Addr) (cap : Nat) (w : World), Calls Try.prog F #[.slice p 0 cap, fv] w fun e w' => e = .returned (.tuple #[]) ∧ w' = w)
    {w0 w : World} (hS : Stab w0 E) {v : Value} {ys : List α} (h : RowOut e size E w0 w v ys) (hE : ∀ r y, E w r y → ∃ b, r = (enc b).toArray) (hl : ys.length ≤ 1048576) :
    Calls Try.prog F #[v, fv] w fun e' w' => e' = .returned (.tuple #[]) ∧ ∃ zs, ys.Perm zs ∧ (∃ bs : List β, Rel2 (fun b y => E w' (enc b).toArray y) bs zs ∧ bs.Pairwise (fun a b => ltOf cf b a = false)) ∧ RowOut e size E w0 w' v zs ∧ Kept (fun k => v.ownBlock = some k) w w' := by
  by_cases h0 : ys = []
  · subst h0
    obtain ⟨p, c, rfl⟩ := h.form
    refine (hnone p c w).mono ?_
    rintro e' w' ⟨rfl, rfl⟩
    exact ⟨rfl, [], List.Perm.refl _, ⟨[], trivial, List.Pairwise.nil⟩, h, Kept.refl _ _⟩
  · have hbase := h.base
    obtain ⟨⟨rs, ⟨p1, p2⟩, h2⟩, h3⟩ := h
    rcases p2 with ⟨_, hz⟩ | ⟨g, cap, cur, rfl, q1, q2, q3, q4, q5, q6⟩
    · exact absurd (List.eq_nil_of_length_eq_zero hz) h0
    obtain ⟨bs, rfl, hR⟩ := All2.rel h2 hE
    have hlb := hR.length
    have hflat := flat_joinR enc size hk bs
    have hjz : (joinR (bs.map fun b => (enc b).toArray)).size = ys.length * size := by rw [← hflat]; simp [hlb]
    have hcl : ys.length * size ≤ cur.size := by rw [q5]; exact Nat.mul_le_mul_right _ q3
    have hH : Go.Sort.HoldsK enc size w g 0 bs.toArray := by
      unfold Go.Sort.HoldsK
      rw [hflat]
      intro j hj
      refine ⟨?_, by simp [World.frozen?, q2]⟩
      have h5 : (cur.toList.take (ys.length * size))[j]? = (joinR (bs.map fun b => (enc b).toArray)).toList[j]? := by rw [q6]
      rw [List.getElem?_take_of_lt (by omega)] at h5
      simp only [World.cell?, q2, Nat.zero_add]
      simp only [Option.isSome_none, Bool.false_eq_true, if_false]
      rw [← Array.getElem?_toList, h5]
      simp [hj]
    have hc := hcall g 0 cap bs.toArray w hH (Array.getElem?_eq_some_iff.1 q2).1 (by simp; omega)
    have hsz : bs.toArray.size = ys.length := by simp [hlb]
    rw [hsz] at hc
    refine hc.mono ?_
    rintro e' w' ⟨rfl, d', n, os, hperm, hsorted, rfl⟩
    obtain ⟨hp1, -, hp3⟩ := hperm
    have hd1 : d'.size = ys.length := by rw [hp1, hsz]
    have hperm2 : bs.Perm d'.toList := by
      have e1 : (d'.extract 0 ys.length).toList = d'.toList := by rw [← hd1]; simp
      have e2 : (bs.toArray.extract 0 ys.length).toList = bs := by rw [← hlb]; simp
      rw [e1, e2] at hp3
      exact hp3.symm
    obtain ⟨zs, hz1, hz2⟩ := hR.perm hperm2
    have hsorted2 : d'.toList.Pairwise (fun a b => ltOf cf b a = false) := by
      rw [List.pairwise_iff_getElem]
      intro i j hi hj hij
      simp only [Array.length_toList] at hi hj
      have := hsorted i j (Nat.zero_le _) hij (by omega)
      simpa [hi, hj] using this
    have hflat2 := flat_joinR enc size hk d'.toList
    have hK : Kept (fun k => k = g) w (sortWorldK enc size w g 0 n d' os) := kept_sorted _
    have hbel : Below w0.heap.size w0 (sortWorldK enc size w g 0 n d' os) := bel_kept h3 hK (fun x hx e => by omega)
    have hzl : zs.length = ys.length := hz1.length_eq.symm
    have hz2' : Rel2 (fun b y => E (sortWorldK enc size w g 0 n d' os) (enc b).toArray y) d'.toList zs := by
      have : ∀ {xs : List β} {us : List α}, Rel2 (fun b y => E w (enc b).toArray y) xs us → Rel2 (fun b y => E (sortWorldK enc size w g 0 n d' os) (enc b).toArray y) xs us := by
        intro xs
        induction xs with
        | nil => intro us hu; cases us with
          | nil => trivial
          | cons u us => exact hu.elim
        | cons x xs ih => intro us hu; cases us with
          | nil => exact hu.elim
          | cons u us => exact ⟨hS _ _ _ _ h3 hbel hu.1, ih hu.2⟩
      exact this hz2
    refine ⟨rfl, zs, hz1, ⟨d'.toList, hz2', hsorted2⟩, ⟨⟨d'.toList.map fun b => (enc b).toArray, ⟨?_, .inr ⟨g, cap, _, by rw [hzl], q1, heap_sorted_mine _ q2, by omega, q4, by simp [Go.Sort.putCells, q5], ?_⟩⟩, Rel2.all2 hz2'⟩, hbel⟩, ?_⟩
    · rw [← hflat2]; simp [hzl, hd1]
    · rw [← hflat2]
      have hfs : (Go.Sort.flatK enc size d'.toList.toArray).size = zs.length * size := by simp [hzl, hd1]
      have := take_put cur (Go.Sort.flatK enc size d'.toList.toArray) (by rw [hfs, hzl]; exact hcl)
      rw [hfs] at this
      exact this
    · exact hK.mono fun b _ hb => by simp [Value.ownBlock]; exact hb.symm
end
end Go.Proofs.Ytadafohgglnneaa
/- The sort of addresses and of accounts, as contracts. No condition. -/
namespace Go.Proofs.Ytadafohgglnneaa
open Go.RowKit
open Go.Sort (grow)
theorem cmp_lt (x y : Adr) : decide (x.cmp y < 0) = x.lt y := by
  unfold Adr.cmp
  by_cases h : x = y
  · subst h; simp [Adr.lt_irr]
  · rw [if_neg h]; cases x.lt y <;> simp
theorem lt_ntrans {x y z : Adr} (h1 : x.lt y = false) (h2 : y.lt z = false) : x.lt z = false := by
  rcases Adr.lt_total x y with e | e | e
  · subst e; exact h2
  · rw [h1] at e; cases e
  · rcases Adr.lt_total y z with f | f | f
    · subst f; exact h1
    · rw [h2] at f; cases f
    · cases hc : x.lt z with
      | false => rfl
      | true =>
        have := Adr.lt_trans (Adr.lt_trans f e) hc
        rw [Adr.lt_irr] at this; cases this
def encAdr (a : Adr) : List Value := a.cells.toList
theorem encAdr_arr (a : Adr) : (encAdr a).toArray = a.cells := by simp [encAdr]
theorem swoAdr : Go.Sort.SWO (ltOf fun x y : Adr => x.cmp y) where
  irrefl x := by simp only [ltOf, cmp_lt]; exact Adr.lt_irr x
  trans x y z h1 h2 := by simp only [ltOf, cmp_lt] at *; exact Adr.lt_trans h1 h2
  ntrans x y z h1 h2 := by simp only [ltOf, cmp_lt] at *; exact lt_ntrans h1 h2
theorem grow_drewN (w : World) (os : Array Obj) (n : Nat) : (grow w os).drewN n = grow (w.drewN n) os := rfl
theorem lays81 (blk off size : Nat) (w : World) : CmpLays Try.prog 81 #[] encAdr 20 (fun x y : Adr => x.cmp y) blk off size w := fun m os dk _ x y => by
  have h := addr_Compare (sortWorldK encAdr 20 w blk off m dk os) x y
  rw [← encAdr_arr x, ← encAdr_arr y] at h
  refine h.mono ?_
  rintro e w' ⟨rfl, n, rfl⟩
  refine ⟨rfl, n, #[.cells (encAdr x).toArray 23] ++ #[.cells (encAdr y).toArray 23], ?_⟩
  rw [Go.Sort.alloc_eq_grow, Go.Sort.alloc_eq_grow, Go.Sort.grow_grow, grow_drewN]
theorem enters81 : ∀ args w, (callFunc 81 args).run Try.prog w = .ok (.enter 81 args) w := enters_of Try.func81 (by kernel_rfl) rfl
theorem sortsAdr : SortsAdr := by
  intro w0 w v ys h hl
  have hE : ∀ r (y : Adr), r = y.cells → ∃ b : Adr, r = (encAdr b).toArray := fun r y e => ⟨y, by rw [e, encAdr_arr]⟩
  refine (sort_out (enc := encAdr) (fun x => by simp [encAdr]) (fun x y : Adr => x.cmp y) 83 (.func (.func 81) #[] #[]) (fun blk off cap d w hH hblk hsz => ?_) (fun p cap w => ?_) Stab.eq h hE hl).mono ?_
  · exact AnyQ.slices_SortFunc sortAdr 20 Try.isAgg23 Try.sizeOf23 encAdr (fun x => by simp [encAdr]) (fun x u hu => ones_list x.cells_one u hu) _ swoAdr 81 #[] blk off cap d w enters81 (lays81 _ _ _ _) hH hblk hsz
  · exact AnyF.slices_SortFunc_none sortAdr p cap _ w
  · rintro e w' ⟨rfl, zs, h1, ⟨bs, h2, h3⟩, h4, h5⟩
    refine ⟨rfl, zs, h1.symm, ?_, h4⟩
    refine Rel2.pairwise (R := fun (b : Adr) (y : Adr) => (encAdr b).toArray = y.cells) (fun a b c d r1 r2 hp => ?_) h2 h3
    rw [encAdr_arr] at r1 r2
    have e1 := Adr.cells_inj r1
    have e2 := Adr.cells_inj r2
    subst e1; subst e2
    simpa [ltOf, cmp_lt] using hp
/-- An account's cells, its lists as values. -/
structure AR where
  adr : Adr
  n : Int
  bal : Wrd
  c : Value
  s : Value
  hc : c.oneCell' = true
  hs : s.oneCell' = true
instance : Inhabited AR := ⟨⟨zeroAdr, 0, zeroWrd, .slice none 0 0, .slice none 0 0, rfl, rfl⟩⟩
def AR.row (b : AR) : Array Value := accRow b.adr b.n b.bal b.c b.s
def encAcc (b : AR) : List Value := b.row.toList
theorem encAcc_arr (b : AR) : (encAcc b).toArray = b.row := by simp [encAcc]
theorem AR.size (b : AR) : b.row.size = 27 := by simp [AR.row]
theorem AR.one (b : AR) : ones b.row = true := by simp [AR.row, accRow_one, b.hc, b.hs]
theorem swoAcc : Go.Sort.SWO (ltOf fun x y : AR => x.adr.cmp y.adr) where
  irrefl x := by simp only [ltOf, cmp_lt]; exact Adr.lt_irr x.adr
  trans x y z h1 h2 := by simp only [ltOf, cmp_lt] at *; exact Adr.lt_trans h1 h2
  ntrans x y z h1 h2 := by simp only [ltOf, cmp_lt] at *; exact lt_ntrans h1 h2
set_option maxRecDepth 100000 in
set_option maxHeartbeats 1000000 in
theorem All_1 (w : World) (x y : AR) :
    Calls Try.prog 80 #[.agg x.row, .agg y.row] w fun e w' => e = .returned (.int .i64 (x.adr.cmp y.adr)) ∧ ∃ n, w' = ((((w.alloc (.cells x.row 30)).alloc (.cells y.row 30)).alloc (.cells x.adr.cells 23)).alloc (.cells y.adr.cells 23)).drewN n := by
  have hc := fun W => addr_Compare W x.adr y.adr
  have e1 : x.row.extract 0 20 = x.adr.cells := by simp [AR.row]
  have e2 : y.row.extract 0 20 = y.adr.cells := by simp [AR.row]
  have s1 := x.size
  have s2 := y.size
  have o1 := x.one
  have o2 := y.one
  generalize x.row = r1 at *
  generalize y.row = r2 at *
  generalize x.adr.cmp y.adr = r at *
  go_enter Try.func80, Try.ntmps80
  go_wp2_with (go_at_call 81; refine (hc _).mono ?_; rintro e w' ⟨rfl, n, rfl⟩)
  go_ret
  exact ⟨rfl, n, rfl⟩
theorem lays80 (blk off size : Nat) (w : World) : CmpLays Try.prog 80 #[] encAcc 27 (fun x y : AR => x.adr.cmp y.adr) blk off size w := fun m os dk _ x y => by
  have h := All_1 (sortWorldK encAcc 27 w blk off m dk os) x y
  rw [← encAcc_arr x, ← encAcc_arr y] at h
  refine h.mono ?_
  rintro e w' ⟨rfl, n, rfl⟩
  refine ⟨rfl, n, #[.cells (encAcc x).toArray 30] ++ #[.cells (encAcc y).toArray 30] ++ #[.cells x.adr.cells 23] ++ #[.cells y.adr.cells 23], ?_⟩
  rw [Go.Sort.alloc_eq_grow, Go.Sort.alloc_eq_grow, Go.Sort.alloc_eq_grow, Go.Sort.alloc_eq_grow, Go.Sort.grow_grow, Go.Sort.grow_grow, Go.Sort.grow_grow, grow_drewN]
  simp only [Array.append_assoc]
theorem enters80 : ∀ args w, (callFunc 80 args).run Try.prog w = .ok (.enter 80 args) w := enters_of Try.func80 (by kernel_rfl) rfl
/-- A row of accounts of one's own, sorted by their addresses. -/
theorem sortsAcc {T : Nat → Prop} {w0 w : World} {v : Value} {ys : List Acc} (hT : ∀ b, T b → b < w0.heap.size) (h : RowOut 30 27 (AccIn T) w0 w v ys) (hl : ys.length ≤ 1048576) :
    Calls Try.prog 79 #[v, .func (.func 80) #[] #[]] w fun e w' => e = .returned (.tuple #[]) ∧ ∃ zs, zs.Perm ys ∧ zs.Pairwise (fun a b => b.adr.lt a.adr = false) ∧ RowOut 30 27 (AccIn T) w0 w' v zs ∧ Kept (fun k => v.ownBlock = some k) w w' := by
  have hE : ∀ r (y : Acc), AccIn T w r y → ∃ b : AR, r = (encAcc b).toArray := fun r y e => by
    obtain ⟨c, s, rfl, h1, h2⟩ := e
    exact ⟨⟨y.adr, y.nonce, y.bal, c, s, h1.one, h2.one⟩, by rw [encAcc_arr]; rfl⟩
  refine (sort_out (enc := encAcc) (fun x => by simp [encAcc, x.size]) (fun x y : AR => x.adr.cmp y.adr) 79 (.func (.func 80) #[] #[]) (fun blk off cap d w hH hblk hsz => ?_) (fun p cap w => ?_) (Stab.acc hT) h hE hl).mono ?_
  · exact AnyQ.slices_SortFunc sortAcc 27 Try.isAgg30 Try.sizeOf30 encAcc (fun x => by simp [encAcc, x.size]) (fun x u hu => ones_list x.one u hu) _ swoAcc 80 #[] blk off cap d w enters80 (lays80 _ _ _ _) hH hblk hsz
  · exact AnyF.slices_SortFunc_none sortAcc p cap _ w
  · rintro e w' ⟨rfl, zs, h1, ⟨bs, h2, h3⟩, h4, h5⟩
    refine ⟨rfl, zs, h1.symm, ?_, h4, h5⟩
    refine Rel2.pairwise (R := fun (b : AR) (y : Acc) => AccIn T w' (encAcc b).toArray y) (fun a b c d r1 r2 hp => ?_) h2 h3
    rw [encAcc_arr] at r1 r2
    obtain ⟨c1, s1, q1, _⟩ := r1
    obtain ⟨c2, s2, q2, _⟩ := r2
    have e1 := (accRow_inj q1).1
    have e2 := (accRow_inj q2).1
    rw [← e1, ← e2]
    simpa [ltOf, cmp_lt] using hp
end Go.Proofs.Ytadafohgglnneaa
