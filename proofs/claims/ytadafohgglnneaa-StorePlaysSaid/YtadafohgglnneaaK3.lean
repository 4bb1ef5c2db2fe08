/- How many calls of a cache are gone through; rising addresses. No condition. -/
import Derived.Test.YtadafohgglnneaaT1
import Derived.Test.YtadafohgglnneaaX9
import Derived.Test.YtadafohgglnneaaX16
import Derived.Test.YtadafohgglnneaaX21
import Derived.Test.YtadafohgglnneaaK1
namespace Go.Proofs.Ytadafohgglnneaa
open Go.RowKit
/-- A call of a cache, as cells. -/
def opRow (kind : Int) (r : Array Value) : Array Value := #[.int .i64 kind] ++ r
theorem opRow_size (k : Int) (r : Array Value) (h : r.size = 27) : (opRow k r).size = 28 := by simp [opRow, h]
theorem opRow_ones (k : Int) (r : Array Value) (h : ones r = true) : ones (opRow k r) = true := by rw [opRow, ones_append, h]; rfl
theorem opRow_whole (k : Int) (r : Array Value) (h : r.size = 27) : (opRow k r).extract 0 28 = opRow k r := by
  have := opRow_size k r h; rw [← this]; simp
theorem opRow_acc (k : Int) (r : Array Value) (h : r.size = 27) : (opRow k r).extract 1 28 = r := by
  have := extract_append_right' #[.int .i64 k] r 1 27 (by simp) h
  exact this
theorem opRow_adr (k : Int) (r : Array Value) (h : r.size = 27) : (opRow k r).extract 1 21 = r.extract 0 20 := by
  have := congrArg (fun a : Array Value => a.extract 0 20) (opRow_acc k r h)
  simpa [Array.extract_extract] using this
theorem opRow_kind (k : Int) (r : Array Value) : (opRow k r)[0]? = some (.int .i64 k) := by rw [opRow, Array.getElem?_append_left (by simp)]; rfl
def Op15E (w : World) (r : Array Value) (o : Op15) : Prop := ∃ r', r = opRow o.kind r' ∧ AccIn AnyBlock w r' o.x
theorem ops15_rows {w : World} {v : Value} {os : List Op15} (h : Ops15At w v os) : RowsAt AnyBlock Op15E w v os := by
  obtain ⟨rs, h1, h2, _⟩ := h
  exact ⟨rs, h1, h2⟩
theorem rowsOp_below {S : Nat → Prop} {w w' : World} {v : Value} {os : List Op15} (h : RowsAt S Op15E w v os) (hb : Below w.heap.size w w') : RowsAt S Op15E w' v os := by
  obtain ⟨rs, h1, h2⟩ := h
  exact ⟨rs, h1.below hb, h2.imp fun r o ⟨r', e, ha⟩ => ⟨r', e, ha.below hb⟩⟩
theorem op15_size (w : World) (r : Array Value) (o : Op15) (h : Op15E w r o) : r.size = 28 := by
  obtain ⟨r', rfl, ha⟩ := h; exact opRow_size _ _ ha.size
/-- The first few. -/
def CutOut (w : World) (p : Option Addr) (c : Nat) (bad : Nat → Bool) (max len : Nat) (e : Ending) (w' : World) : Prop :=
  ∃ n, e = .returned (.slice p n c) ∧ n ≤ len ∧ n ≤ max ∧ (∀ j, j < n → bad j = false) ∧ Below w.heap.size w w'
def bad15 (os : List Op15) (j : Nat) : Bool := match os[j]? with
  | some o => greatB [o.x]
  | none => false
set_option maxRecDepth 100000 in
set_option maxHeartbeats 2000000 in
theorem cut15 (w : World) (p : Option Addr) (c : Nat) (os : List Op15) (h : RowsAt AnyBlock Op15E w (.slice p os.length c) os) :
    Calls Try.prog 45 #[.slice p os.length c] w (CutOut w p c (bad15 os) 101 os.length) := by
  have hle := RowsAt.le h
  unfold maxLen at hle
  have H := Lib.hid h
  clear h
  go_enter Try.func45, Try.ntmps45
  go_wp2
  go_loopw [7] (fun vi wr => ∃ k : Nat, k ≤ os.length ∧ k ≤ 101 ∧ vi = .int .i64 k ∧ Hid (∀ j, j < k → bad15 os j = false) ∧ Below w.heap.size w wr) (fun vi _ => os.length - (intOf vi).toNat)
  case atStart => exact ⟨0, Nat.zero_le _, by omega, rfl, Lib.hid (fun j h => by omega), Below.refl _ _⟩
  case round =>
    obtain ⟨k, hk, hk1, rfl, hok, hbel⟩ := hrel
    by_cases hlt : k < os.length
    · obtain ⟨b, o, cc, rs, hv', q1, q2, -, hbb, hsz, hall⟩ := RowsAt.pos (rowsOp_below H.out hbel) 28 (op15_size _) (by decide) (by omega)
      cases hv'
      obtain ⟨hrow, r', hr', hacc⟩ := hall k hlt
      rw [hr'] at hrow
      have hs1 : o + k * 28 + 28 ≤ (rowOf wr b).size := by omega
      have hki : (k : Int) < (os.length : Int) := by omega
      have hki0 : (0 : Int) ≤ (k : Int) := by omega
      have hkc : (k : Int) ≤ (c : Int) := by omega
      have hrz := hacc.size
      have hr1 := hacc.one
      have e1 := opRow_size os[k].kind r' hrz
      have e2 := opRow_ones os[k].kind r' hr1
      have e3 := opRow_whole os[k].kind r' hrz
      have e4 := opRow_acc os[k].kind r' hrz
      have hbad : bad15 os k = greatB [os[k].x] := by simp [bad15, hlt]
      obtain ⟨hw27, -⟩ := hacc.ext0
      generalize os[k].x = x at *
      generalize opRow os[k].kind r' = R at *
      clear hall hr'
      have hB1 : Below wr.heap.size wr (wr.alloc (.cells R 84)) := bel_alloc (Below.refl _ _) _
      have hB2 : Below wr.heap.size wr ((wr.alloc (.cells R 84)).alloc (.cells r' 30)) := bel_alloc hB1 _
      have hat : AccsAt AnyBlock ((wr.alloc (.cells R 84)).alloc (.cells r' 30)) (.slice (some ⟨wr.heap.size + 1, 0, none⟩) 1 1) [x] :=
        AccsAt.single (hacc.below hB2) _ trivial (by simp) (by simp [go_sem])
      have HB1 := Lib.hid (bel_trans hbel hB1)
      have HB2 := Lib.hid (bel_trans hbel hB2)
      have Hat := Lib.hid hat
      clear hB1 hB2 hat hacc
      by_cases h100 : k = 101
      · have hd : decide ((100 : Int) < (k : Int)) = true := by simp; omega
        clear h100
        go_wp2
        go_ret
        exact ⟨k, rfl, hk, hk1, hok.out, HB1.out⟩
      · have hd : decide ((100 : Int) < (k : Int)) = false := by simp; omega
        go_wp2_with fail
        refine (ref13_Great (S := AnyBlock) _ _ [x] Hat.out).mono ?_
        rintro e w2 ⟨rfl, hb2⟩
        have B2 := Lib.hid (bel_trans HB2.out hb2)
        clear hb2
        cases hg : greatB [x] with
        | true =>
          go_wp2
          go_ret
          exact ⟨k, rfl, hk, hk1, hok.out, B2.out⟩
        | false =>
          have hok2 : Hid (∀ j, j < k + 1 → bad15 os j = false) := Lib.hid (fun j h => by
            by_cases hj : j = k
            · subst hj; rw [hbad, hg]
            · exact hok.out j (by omega))
          clear hbad hg
          go_wp2
          go_roundw
          case rel => exact ⟨k + 1, by omega, by omega, by go_num, hok2, B2.out⟩
          case measure => simp [intOf]; omega
    · obtain rfl : k = os.length := by omega
      have hki : ¬ ((os.length : Int) < (os.length : Int)) := by omega
      go_wp2
      go_ret
      exact ⟨_, rfl, hk, hk1, hok.out, hbel⟩
end Go.Proofs.Ytadafohgglnneaa
/- Rising addresses. No condition. -/
namespace Go.Proofs.Ytadafohgglnneaa
open Go.RowKit
theorem addr_Compare_below (w : World) (x y : Adr) : Calls Try.prog 81 #[.agg x.cells, .agg y.cells] w fun e w' => e = .returned (.int .i64 (x.cmp y)) ∧ Below w.heap.size w w' :=
  (addr_Compare w x y).mono fun e w' ⟨h1, n, h2⟩ => ⟨h1, by rw [h2]; exact bel_drewN (bel_alloc (bel_alloc (Below.refl _ _) _) _) _⟩
theorem cmp_neg {x y : Adr} (h : x.lt y = true) : x.cmp y = -1 := by
  have hne : x ≠ y := fun e => by subst e; rw [Adr.lt_irr] at h; cases h
  simp [Adr.cmp, hne, h]
set_option maxRecDepth 100000 in
set_option maxHeartbeats 2000000 in
theorem rising_true {S : Nat → Prop} (w : World) (v : Value) (l : List Adr) (h : RowsAt S (fun _ r (y : Adr) => r = y.cells) w v l) (hp : l.Pairwise (fun a b => a.lt b = true)) :
    Calls Try.prog 51 #[v] w fun e w' => e = .returned (.bool true) ∧ Below w.heap.size w w' := by
  obtain ⟨p, c, rfl⟩ := h.form
  have hle := RowsAt.le h
  unfold maxLen at hle
  have H := Lib.hid h
  have HP := Lib.hid hp
  clear h hp
  go_enter Try.func51, Try.ntmps51
  go_wp2
  go_loopw [3] (fun vi wr => ∃ k : Nat, 1 ≤ k ∧ (k ≤ l.length ∨ k = 1) ∧ vi = .int .i64 k ∧ Below w.heap.size w wr) (fun vi _ => l.length - (intOf vi).toNat)
  case atStart => exact ⟨1, Nat.le_refl _, .inr rfl, rfl, Below.refl _ _⟩
  case round =>
    obtain ⟨k, hk0, hk, rfl, hbel⟩ := hrel
    by_cases hlt : k < l.length
    · obtain ⟨b, o, cc, rs, hv', q1, q2, -, hbb, hsz, hall⟩ := RowsAt.pos (RowsAt.below H.out hbel) 20 (fun r y h => by rw [h]; simp) (by decide) (by omega)
      cases hv'
      obtain ⟨m, rfl⟩ : ∃ m, k = m + 1 := ⟨k - 1, by omega⟩
      have hml : m < l.length := by omega
      obtain ⟨hrow, hacc⟩ := hall (m + 1) hlt
      rw [hacc] at hrow
      obtain ⟨hrow0, hacc0⟩ := hall m hml
      rw [hacc0] at hrow0
      have hcmp : l[m].lt l[m + 1] = true := List.pairwise_iff_getElem.1 HP.out m (m + 1) hml hlt (by omega)
      have hcm := cmp_neg hcmp
      generalize l[m] = x at *
      generalize l[m + 1] = y at *
      clear hall hacc hacc0 hcmp
      have hs1 : o + (m + 1) * 20 + 20 ≤ (rowOf wr b).size := by omega
      have hs0 : o + m * 20 + 20 ≤ (rowOf wr b).size := by omega
      have hki : ((m + 1 : Nat) : Int) < (l.length : Int) := by omega
      have hki2 : (m : Int) + 1 < (l.length : Int) := by omega
      have hki3 : (m : Int) < (l.length : Int) := by omega
      have hki0 : (0 : Int) ≤ (m : Int) := by omega
      have hki1 : (0 : Int) ≤ (m : Int) + 1 := by omega
      have hwr : IntKind.i64.wrap ((m : Int) + 1) = (m : Int) + 1 := IntWalk.i64_in _ (by omega)
      have hle2 : (m : Int) + 1 ≤ 9223372036854775806 := by omega
      go_wp2
      refine wp_region_quiet_below (by kernel_rfl) (by kernel_rfl) ?_
      repeat (go_big_quiet_step ((go_at_call 81; exact Calls.regrown_of (addr_Compare_below _ _ _))))
      refine wpQuiet_nil ?_
      rintro w1 ⟨q, rfl⟩
      have bw := below_regrown wr q.d q.os
      generalize Sort.grow (redrawn wr q.d) q.os = W1 at *
      go_wp2
      go_roundw
      case rel => exact ⟨m + 1 + 1, by omega, .inl (by omega), by go_num, bel_trans hbel bw⟩
      case measure => simp [intOf]; omega
    · have hki : decide ((k : Int) < (l.length : Int)) = false := by simp; omega
      go_wp2
      go_ret
      exact ⟨rfl, hbel⟩
end Go.Proofs.Ytadafohgglnneaa
/- A cache and the document's beside each other, call by call. No condition. -/
namespace Go.Proofs.Ytadafohgglnneaa
open Go.RowKit
theorem putL_true {a : Acc} : ∀ {l : List Acc}, (∀ y ∈ l, y.adr ≠ a.adr) → putL a true l = l
  | [], _ => by simp [putL]
  | x :: l, h => by
    unfold putL
    have hx := h x (by simp)
    simp [hx, putL_true (l := l) (fun y hy => h y (by simp [hy]))]
theorem mem_putL {a y : Acc} : ∀ {l : List Acc} {d : Bool}, y ∈ putL a d l → y = a ∨ y ∈ l
  | [], d, h => by cases d <;> simp [putL] at h; exact .inl h
  | z :: l, d, h => by
    unfold putL at h
    rcases List.mem_append.1 h with h | h
    · split at h <;> simp at h; exact .inl h
    · split at h
      · rcases List.mem_cons.1 h with h | h
        · exact .inl h
        · exact (mem_putL h).imp id (fun h => List.mem_cons_of_mem _ h)
      · rcases List.mem_cons.1 h with h | h
        · exact .inr (by rw [h]; exact List.mem_cons_self ..)
        · exact (mem_putL h).imp id (fun h => List.mem_cons_of_mem _ h)
/-- Accounts by rising addresses. -/
def Rising (l : List Acc) : Prop := l.Pairwise fun a b => a.adr.lt b.adr = true
theorem lt_ne {a b : Adr} (h : a.lt b = true) : a ≠ b := fun e => by subst e; rw [Adr.lt_irr] at h; cases h
theorem Rising.put {a : Acc} : ∀ {l : List Acc}, Rising l → Rising (putL a false l)
  | [], _ => by simp [putL, Rising]
  | x :: l, h => by
    have h' := h
    unfold Rising at h
    rw [List.pairwise_cons] at h
    obtain ⟨h1, h2⟩ := h
    unfold putL
    cases hl : a.adr.lt x.adr with
    | true =>
      have hne : ¬ x.adr = a.adr := fun e => lt_ne hl e.symm
      have hall : ∀ y ∈ l, y.adr ≠ a.adr := fun y hy e => by
        have := Adr.lt_trans hl (h1 y hy)
        rw [e, Adr.lt_irr] at this; cases this
      simp only [Bool.not_false, Bool.and_self, if_true, hne, if_false, Bool.or_true, putL_true hall, List.cons_append, List.nil_append]
      unfold Rising
      rw [List.pairwise_cons]
      refine ⟨fun y hy => ?_, h'⟩
      rcases List.mem_cons.1 hy with rfl | hy
      · exact hl
      · exact Adr.lt_trans hl (h1 y hy)
    | false =>
      by_cases e : x.adr = a.adr
      · have hall : ∀ y ∈ l, y.adr ≠ a.adr := fun y hy e2 => lt_ne (h1 y hy) (by rw [e, e2])
        simp only [Bool.not_false, Bool.and_false, Bool.false_eq_true, if_false, List.nil_append, e, if_true, putL_true hall]
        unfold Rising
        rw [List.pairwise_cons]
        exact ⟨fun y hy => by rw [← e]; exact h1 y hy, h2⟩
      · have hxa : x.adr.lt a.adr = true := by
          rcases Adr.lt_total x.adr a.adr with f | f | f
          · exact absurd f e
          · exact f
          · rw [hl] at f; cases f
        simp only [Bool.not_false, Bool.and_false, Bool.false_eq_true, if_false, List.nil_append, e, Bool.or_false]
        unfold Rising
        rw [List.pairwise_cons]
        refine ⟨fun y hy => ?_, Rising.put (l := l) h2⟩
        rcases mem_putL hy with rfl | hy
        · exact hxa
        · exact h1 y hy
/-- Two rising rows of the same addresses are one. -/
theorem rising_eq : ∀ {l m : List Adr}, l.Pairwise (fun a b => a.lt b = true) → m.Pairwise (fun a b => a.lt b = true) → (∀ x, x ∈ l ↔ x ∈ m) → l = m
  | [], [], _, _, _ => rfl
  | [], y :: m, _, _, h => by have := (h y).2 (by simp); simp at this
  | x :: l, [], _, _, h => by have := (h x).1 (by simp); simp at this
  | x :: l, y :: m, h1, h2, h => by
    rw [List.pairwise_cons] at h1 h2
    have hxy : x = y := by
      rcases List.mem_cons.1 ((h x).1 (by simp)) with e | e
      · exact e
      · rcases List.mem_cons.1 ((h y).2 (by simp)) with f | f
        · exact f.symm
        · have := Adr.lt_trans (h2.1 x e) (h1.1 y f)
          rw [Adr.lt_irr] at this; cases this
    subst hxy
    rw [rising_eq h1.2 h2.2 fun z => ?_]
    constructor
    · intro hz
      rcases List.mem_cons.1 ((h z).1 (by simp [hz])) with e | e
      · subst e; exact absurd rfl (lt_ne (h1.1 _ hz))
      · exact e
    · intro hz
      rcases List.mem_cons.1 ((h z).2 (by simp [hz])) with e | e
      · subst e; exact absurd rfl (lt_ne (h2.1 _ hz))
      · exact e
theorem rising_of {l : List Adr} (h : l.Pairwise (fun a b => b.lt a = false)) (hn : l.Nodup) : l.Pairwise (fun a b => a.lt b = true) := by
  have := h.and hn
  refine this.imp ?_
  rintro a b ⟨h1, h2⟩
  rcases Adr.lt_total a b with e | e | e
  · exact absurd e h2
  · exact e
  · rw [h1] at e; cases e
theorem mem_findK {a : Adr} {xs : List Acc} : a ∈ xs.map (·.adr) ↔ (findK a xs).isSome = true := by
  rw [findK, List.find?_isSome]
  simp only [List.mem_map, decide_eq_true_eq]
theorem same_keys {xs kr : List Acc} (h : ∀ b, findK b xs = findK b kr) (x : Adr) : x ∈ xs.map (·.adr) ↔ x ∈ kr.map (·.adr) := by rw [mem_findK, mem_findK, h x]
theorem CacheAt.nodupK {S : Nat → Prop} {w : World} {c k t : Nat} {xs : List Acc} {ts : List (Adr × Nat)} (h : CacheAt S w c k t xs ts) : (xs.map (·.adr)).Nodup := by
  obtain ⟨kn, kc, _, f2, f3⟩ := h.objK
  rw [← f3.keys]; exact f2.1
theorem TrIn.lt8 : ∀ {l : List (Ent Adr)} {m : List (Adr × Nat)}, TrIn l m → ∀ x ∈ m, x.2 < 8
  | [], [], _, _, h => by simp at h
  | _ :: _, _ :: _, h, x, hx => by
    rcases List.mem_cons.1 hx with rfl | hx
    · exact h.1.2.2
    · exact TrIn.lt8 h.2 x hx
  | [], _ :: _, h, _, _ => h.elim
  | _ :: _, [], h, _, _ => h.elim
theorem CacheAt.lt8 {S : Nat → Prop} {w : World} {c k t : Nat} {xs : List Acc} {ts : List (Adr × Nat)} (h : CacheAt S w c k t xs ts) : ∀ x ∈ ts, x.2 < 8 := by
  obtain ⟨tr, tc, _, _, f3⟩ := h.objT; exact f3.lt8
/-- A cache of one's own, and the document's in block P: what is known may be told otherwise by each, what is asked for as well. -/
structure Mid (w w' : World) (P c k t : Nat) (xs : List Acc) (ts : List (Adr × Nat)) (kr : List Acc) (ts1 : List (Adr × Nat)) (row : Array Value) : Prop where
  hc : HoldC (fun b => b = P) w w' c k t xs ts
  yP : rowOf w' P = row
  isr : isRow w' P = true
  fr : rowFr w' P = (0, 0)
  pc : PcIn (fun b => b ≠ k ∧ b ≠ t ∧ b ≠ P) w' row kr ts1
  bel : Below w.heap.size w w'
  sz : k < P ∧ t < P ∧ c < P ∧ w.heap.size ≤ k ∧ w.heap.size ≤ t
section
variable {w w' w'' : World} {P c k t : Nat} {xs xs' : List Acc} {ts ts' : List (Adr × Nat)} {kr kr' : List Acc} {ts1 ts2 : List (Adr × Nat)} {row row' : Array Value}
theorem Mid.below (h : Mid w w' P c k t xs ts kr ts1 row) (hb : Below w'.heap.size w' w'') : Mid w w'' P c k t xs ts kr ts1 row :=
  have l := isRow_lt h.isr
  ⟨h.hc.below hb, by rw [bel_row hb _ l]; exact h.yP, by rw [bel_isRow hb _ l]; exact h.isr, by rw [bel_rowFr hb _ l]; exact h.fr, h.pc.below hb, bel_trans h.bel hb, h.sz⟩
theorem Mid.cache (h : Mid w w' P c k t xs ts kr ts1 row) (hk : Kept (fun b => b = k ∨ b = t) w' w'') (hc : HoldC (fun b => b = P) w w'' c k t xs' ts') : Mid w w'' P c k t xs' ts' kr ts1 row := by
  have l := isRow_lt h.isr
  have s := h.sz
  exact ⟨hc, by rw [hk.row _ l (by omega)]; exact h.yP, by rw [hk.isRow _ l (by omega)]; exact h.isr, by rw [hk.rowFr _ l (by omega)]; exact h.fr, h.pc.kept hk (fun b hb e => by omega), bel_kept h.bel hk (fun x hx e => by omega), h.sz⟩
theorem Mid.ref (h : Mid w w' P c k t xs ts kr ts1 row) (hb : Below w'.heap.size w' w'') (hp : PcIn (fun b => ((b ≠ k ∧ b ≠ t ∧ b ≠ P) ∧ b < w'.heap.size) ∨ Fresh w' w'' b) w'' row' kr' ts2) :
    Mid w (World.setSeg w'' P 0 row'.toList) P c k t xs ts kr' ts2 row' := by
  have l := isRow_lt h.isr
  have s := h.sz
  have h2 := h.below hb
  obtain ⟨z1, -, -⟩ := hp.one
  obtain ⟨z2, -, -⟩ := h.pc.one
  have K9 : Kept (fun b => b = P) w'' (World.setSeg w'' P 0 row'.toList) := (Kept.refl _ _).setSeg _ _ _ (.inl rfl)
  have hk := objAt_lt (h.hc.st.choose_spec.2.objK.choose_spec.choose_spec.1)
  have ht := objAt_lt (h.hc.st.choose_spec.2.objT.choose_spec.choose_spec.1)
  have hp' : PcIn (fun b => b ≠ k ∧ b ≠ t ∧ b ≠ P) w'' row' kr' ts2 := hp.mono fun b hb => by
    rcases hb with hb | hb
    · exact hb.1
    · unfold Fresh at hb; omega
  refine ⟨h2.hc.kept K9 (fun b hb => ⟨hb, by omega, by omega, by omega⟩), ?_, ?_, ?_, hp'.kept K9 (fun b hb e => hb.2.2 e), bel_kept h2.bel K9 (fun x hx e => by omega), h.sz⟩
  · rw [rowOf_setSeg_same, h2.yP, putSeg_all _ _ (by omega)]
  · rw [← i_setSeg]; exact h2.isr
  · rw [← f_setSeg]; exact h2.fr
/-- What one account block of the round's own keeps through it. -/
theorem ref_keep (h : Mid w w' P c k t xs ts kr ts1 row) (hb : Below w'.heap.size w' w'') (row' : Array Value) : Kept (fun b => b = P) w' (World.setSeg w'' P 0 row'.toList) := (Kept.of_below hb).setSeg _ _ _ (.inl rfl)
end
/-- What both have to do with each other. -/
structure Rel15 (xs kr : List Acc) : Prop where
  fk : ∀ b, findK b xs = findK b kr
  sm : ∀ x ∈ kr, smallAcc x
  so : Rising kr
end Go.Proofs.Ytadafohgglnneaa
