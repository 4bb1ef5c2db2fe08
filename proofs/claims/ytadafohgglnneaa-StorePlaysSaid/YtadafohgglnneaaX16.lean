/- The document's cache as data: what is known, what is being fetched; its place of an address. No condition. -/
import Derived.Test.YtadafohgglnneaaX15
import Derived.Test.YtadafohgglnneaaF8
import Derived.Test.YtadafohgglnneaaX5
namespace Go.Proofs.Ytadafohgglnneaa
open Go.RowKit
theorem RowsAt.form {α : Type} {S : Nat → Prop} {E : World → Array Value → α → Prop} {w : World} {v : Value} {ys : List α} (h : RowsAt S E w v ys) : ∃ p c, v = .slice p ys.length c := by
  obtain ⟨rs, h1, _⟩ := h; exact h1.form
theorem RowsAt.le {α : Type} {S : Nat → Prop} {E : World → Array Value → α → Prop} {w : World} {p : Option Addr} {n c : Nat} {ys : List α} (h : RowsAt S E w (.slice p n c) ys) : n ≤ c ∧ c ≤ maxLen := by
  obtain ⟨rs, h1, _⟩ := h
  rcases h1 with ⟨e, _⟩ | ⟨a, c', e, h2, h3, _⟩
  · cases e; exact ⟨Nat.le_refl _, by decide⟩
  · cases e; exact ⟨h2, h3⟩
/-- With an element there is a place; each element has its row. -/
theorem RowsAt.pos {α : Type} {S : Nat → Prop} {E : World → Array Value → α → Prop} {w : World} {v : Value} {ys : List α} (h : RowsAt S E w v ys) (size : Nat) (hE : ∀ r y, E w r y → r.size = size) (hp : 0 < size) (hn : 0 < ys.length) :
    ∃ b o c rs, v = .slice (some ⟨b, o, none⟩) ys.length c ∧ ys.length ≤ c ∧ c ≤ maxLen ∧ S b ∧ b < w.heap.size ∧ o + ys.length * size ≤ (rowOf w b).size ∧
      ∀ k (hk : k < ys.length), (rowOf w b).extract (o + k * size) (o + k * size + size) = rowAt rs k ∧ E w (rowAt rs k) ys[k] := by
  obtain ⟨rs, h1, h2⟩ := h
  have hl := h2.length
  have hz := All2.rows hE h2
  have hj : (joinR rs).size = ys.length * size := by rw [joinR_size size rs hz, hl]
  obtain ⟨b, o, c, rfl, e1, e2, e3, e4, e5, e6⟩ := h1.pos (by rw [hj]; exact Nat.mul_pos hn hp)
  refine ⟨b, o, c, rs, rfl, e1, e2, e3, e4, by omega, fun k hk => ?_⟩
  have hk' : k < rs.length := by omega
  have er : rowAt rs k = rs[k] := by simp [rowAt, hk']
  rw [er]
  refine ⟨seg_part e5 e6 ?_ (joinR_part size rs k hk' hz), h2.get k hk' hk⟩
  rw [hj]
  have := Nat.mul_le_mul_right size (show k + 1 ≤ ys.length from hk)
  rw [Nat.add_mul] at this
  omega
theorem RowsAt.same {α : Type} {S : Nat → Prop} {f : α → Array Value} {w w' : World} {v : Value} {ys : List α} (h : RowsAt S (fun _ r y => r = f y) w v ys) (hs : ∀ b, b < w.heap.size → S b → w'.heap[b]? = w.heap[b]?) : RowsAt S (fun _ r y => r = f y) w' v ys :=
  let ⟨rs, h1, h2⟩ := h
  ⟨rs, h1.same hs, h2⟩
theorem RowsAt.below {α : Type} {S : Nat → Prop} {f : α → Array Value} {w w' : World} {v : Value} {ys : List α} (h : RowsAt S (fun _ r y => r = f y) w v ys) (hb : Below w.heap.size w w') : RowsAt S (fun _ r y => r = f y) w' v ys := h.same fun b hb' _ => hb.block b hb'
theorem RowsAt.mono {α : Type} {S T : Nat → Prop} {f : α → Array Value} {w : World} {v : Value} {ys : List α} (h : RowsAt S (fun _ r y => r = f y) w v ys) (hs : ∀ b, S b → T b) : RowsAt T (fun _ r y => r = f y) w v ys :=
  let ⟨rs, h1, h2⟩ := h
  ⟨rs, h1.mono hs, h2⟩
theorem RowsAt.bound {α : Type} {S : Nat → Prop} {f : α → Array Value} {w : World} {v : Value} {ys : List α} (h : RowsAt S (fun _ r y => r = f y) w v ys) : RowsAt (fun b => S b ∧ b < w.heap.size) (fun _ r y => r = f y) w v ys :=
  let ⟨rs, h1, h2⟩ := h
  ⟨rs, h1.bound, h2⟩
theorem RowsAt.nil {α : Type} (S : Nat → Prop) (E : World → Array Value → α → Prop) (w : World) : RowsAt S E w (.slice none 0 0) [] := ⟨[], SlIn.nil _ _ _ rfl, trivial⟩
/-- A try, as cells. -/
def tryCells (x : Adr × Nat) : Array Value := x.1.cells ++ #[.int .i64 (x.2 : Int)]
@[go_sem, simp] theorem tryCells_size (x : Adr × Nat) : (tryCells x).size = 21 := by simp [tryCells]
@[go_sem] theorem tryCells_one (x : Adr × Nat) : ones (tryCells x) = true := by simp only [tryCells, ones_append, Adr.cells_one, Bool.true_and]; rfl
@[go_sem, simp] theorem tryCells_whole (x : Adr × Nat) : (tryCells x).extract 0 21 = tryCells x := by
  have := tryCells_size x; rw [← this]; simp
@[go_sem, simp] theorem tryCells_adr (x : Adr × Nat) : (tryCells x).extract 0 20 = x.1.cells := extract_append_left' _ _ _ x.1.cells_size
@[go_sem, simp] theorem tryCells_n (x : Adr × Nat) : (tryCells x)[20]? = some (.int .i64 (x.2 : Int)) := by
  unfold tryCells; rw [Array.getElem?_append_right (by simp)]; simp
theorem tryCells_setn (x : Adr × Nat) (n : Nat) : (tryCells x).setIfInBounds 20 (.int .i64 (n : Int)) = tryCells (x.1, n) := by
  unfold tryCells
  rw [Array.setIfInBounds_append_right (by simp)]; simp
def TrysAt (S : Nat → Prop) (w : World) (v : Value) (ts : List (Adr × Nat)) : Prop := RowsAt S (fun _ r y => r = tryCells y) w v ts
theorem elt87 : Elt 87 21 32 := Elt.mk' (z := .agg (tryCells (zeroAdr, 0))) (by kernel_rfl) (by simp [Value.cells]) (by decide)
/-- A cache's cells. -/
def pcRow (vk va : Value) : Array Value := #[vk] ++ #[va]
@[go_sem, simp] theorem pcRow_size (vk va : Value) : (pcRow vk va).size = 2 := by simp [pcRow]
@[go_sem] theorem pcRow_ones (vk va : Value) : ones (pcRow vk va) = (vk.oneCell' && va.oneCell') := by rw [pcRow, ones_append]; simp [ones]
@[go_sem, simp] theorem pcRow_whole (vk va : Value) : (pcRow vk va).extract 0 2 = pcRow vk va := rfl
@[go_sem] theorem pcRow_get0 (vk va : Value) : (pcRow vk va)[0]? = some vk := rfl
@[go_sem] theorem pcRow_get1 (vk va : Value) : (pcRow vk va)[1]? = some va := rfl
@[go_sem] theorem pcRow_at0 (vk va : Value) (h : 0 < (pcRow vk va).size) : (pcRow vk va)[0] = vk := by simp [pcRow]
@[go_sem] theorem pcRow_at1 (vk va : Value) (h : 1 < (pcRow vk va).size) : (pcRow vk va)[1] = va := by simp [pcRow]
@[go_sem] theorem pcRow_set0 (vk va u : Value) : (pcRow vk va).setIfInBounds 0 u = pcRow u va := by
  simp [pcRow]
@[go_sem] theorem pcRow_set1 (vk va u : Value) : (pcRow vk va).setIfInBounds 1 u = pcRow vk u := by
  simp [pcRow]
def zeroPc : Array Value := pcRow (.slice none 0 0) (.slice none 0 0)
@[go_sem ↓ high] theorem zero51 (w : World) : (zeroValue 51).run Try.prog w = .ok (.agg (pcRow (.slice none 0 0) (.slice none 0 0))) w := by rw [Try.zeroValue51]; rfl
@[go_sem ↓ high] theorem build51 (w : World) : (Instr.build 51 #[]).run Try.prog w = .ok (.agg (pcRow (.slice none 0 0) (.slice none 0 0))) w := by kernel_rfl
/-- A row of two cells is the document's cache. -/
def PcIn (S : Nat → Prop) (w : World) (row : Array Value) (kr : List Acc) (ts : List (Adr × Nat)) : Prop := ∃ vk va, row = pcRow vk va ∧ AccsAt S w vk kr ∧ TrysAt S w va ts
theorem PcIn.same {S : Nat → Prop} {w w' : World} {row : Array Value} {kr : List Acc} {ts : List (Adr × Nat)} (h : PcIn S w row kr ts) (hs : ∀ b, b < w.heap.size → S b → w'.heap[b]? = w.heap[b]?) : PcIn S w' row kr ts :=
  let ⟨vk, va, h1, h2, h3⟩ := h
  ⟨vk, va, h1, h2.same hs, h3.same hs⟩
theorem PcIn.below {S : Nat → Prop} {w w' : World} {row : Array Value} {kr : List Acc} {ts : List (Adr × Nat)} (h : PcIn S w row kr ts) (hb : Below w.heap.size w w') : PcIn S w' row kr ts := h.same fun b hb' _ => hb.block b hb'
theorem PcIn.kept {S M : Nat → Prop} {w w' : World} {row : Array Value} {kr : List Acc} {ts : List (Adr × Nat)} (h : PcIn S w row kr ts) (hk : Kept M w w') (hs : ∀ b, S b → ¬ M b) : PcIn S w' row kr ts := h.same fun b hb hS => hk.block b hb (hs b hS)
theorem PcIn.bound {S : Nat → Prop} {w : World} {row : Array Value} {kr : List Acc} {ts : List (Adr × Nat)} (h : PcIn S w row kr ts) : PcIn (fun b => S b ∧ b < w.heap.size) w row kr ts :=
  let ⟨vk, va, h1, h2, h3⟩ := h
  ⟨vk, va, h1, h2.bound, h3.bound⟩
theorem PcIn.mono {S T : Nat → Prop} {w : World} {row : Array Value} {kr : List Acc} {ts : List (Adr × Nat)} (h : PcIn S w row kr ts) (hs : ∀ b, S b → T b) : PcIn T w row kr ts :=
  let ⟨vk, va, h1, h2, h3⟩ := h
  ⟨vk, va, h1, h2.mono hs, h3.mono hs⟩
theorem PcIn.forms {S : Nat → Prop} {w : World} {row : Array Value} {kr : List Acc} {ts : List (Adr × Nat)} (h : PcIn S w row kr ts) :
    ∃ pk ck pa ca, row = pcRow (.slice pk kr.length ck) (.slice pa ts.length ca) ∧ AccsAt S w (.slice pk kr.length ck) kr ∧ TrysAt S w (.slice pa ts.length ca) ts := by
  obtain ⟨vk, va, rfl, h2, h3⟩ := h
  obtain ⟨pk, ck, rfl⟩ := h2.form
  obtain ⟨pa, ca, rfl⟩ := RowsAt.form h3
  exact ⟨pk, ck, pa, ca, rfl, h2, h3⟩
theorem PcIn.one {S : Nat → Prop} {w : World} {row : Array Value} {kr : List Acc} {ts : List (Adr × Nat)} (h : PcIn S w row kr ts) : row.size = 2 ∧ ones row = true ∧ row.extract 0 2 = row := by
  obtain ⟨pk, ck, pa, ca, rfl, -⟩ := h.forms
  exact ⟨by simp, by rw [pcRow_ones]; rfl, by simp⟩
/-- The place of an address; -1. -/
def atI (ts : List (Adr × Nat)) (a : Adr) : Int := match ts.findIdx? (fun x => decide (x.1 = a)) with
  | some k => (k : Int)
  | none => -1
theorem atI_some {ts : List (Adr × Nat)} {a : Adr} {k : Nat} (hk : k < ts.length) (h0 : ∀ j (hj : j < k), (ts[j]'(by omega)).1 ≠ a) (h : ts[k].1 = a) : atI ts a = k := by
  have : ts.findIdx? (fun x => decide (x.1 = a)) = some k := by
    rw [List.findIdx?_eq_some_iff_getElem]
    exact ⟨hk, by simp [h], fun j hj => by simp [h0 j hj]⟩
  simp [atI, this]
theorem atI_none {ts : List (Adr × Nat)} {a : Adr} (h : ∀ j (hj : j < ts.length), ts[j].1 ≠ a) : atI ts a = -1 := by
  have : ts.findIdx? (fun x => decide (x.1 = a)) = none := by
    rw [List.findIdx?_eq_none_iff]
    intro x hx
    obtain ⟨j, hj, rfl⟩ := List.getElem_of_mem hx
    simp [h j hj]
  simp [atI, this]
theorem atI_cases (ts : List (Adr × Nat)) (a : Adr) : (atI ts a = -1 ∧ findT a ts = none) ∨ ∃ (k : Nat) (hk : k < ts.length), atI ts a = k ∧ ts[k].1 = a ∧ findT a ts = some ts[k].2 ∧ ∀ j (hj : j < k), (ts[j]'(by omega)).1 ≠ a := by
  cases h : ts.findIdx? (fun x => decide (x.1 = a)) with
  | none =>
    refine .inl ⟨by simp [atI, h], ?_⟩
    rw [List.findIdx?_eq_none_iff] at h
    simp only [findT, Option.map_eq_none_iff, List.find?_eq_none]
    intro x hx; simp [h x hx]
  | some k =>
    rw [List.findIdx?_eq_some_iff_getElem] at h
    obtain ⟨hk, h1, h2⟩ := h
    have h1' : ts[k].1 = a := by simpa using h1
    have h2' : ∀ j (hj : j < k), (ts[j]'(by omega)).1 ≠ a := fun j hj => by simpa using h2 j hj
    refine .inr ⟨k, hk, atI_some hk h2' h1', h1', ?_, h2'⟩
    have hf : ts.find? (fun x => decide (x.1 = a)) = some ts[k] := by
      rw [List.find?_eq_some_iff_getElem]
      exact ⟨by simpa using h1', k, hk, rfl, fun j hj => by simpa using h2' j hj⟩
    simp [findT, hf]
set_option maxRecDepth 100000 in
set_option maxHeartbeats 1000000 in
theorem ref15_At {S : Nat → Prop} (w : World) (row : Array Value) (kr : List Acc) (ts : List (Adr × Nat)) (a : Adr) (h : PcIn S w row kr ts) :
    Calls Try.prog 47 #[.agg row, .agg a.cells] w fun e w' => e = .returned (.int .i64 (atI ts a)) ∧ Below w.heap.size w w' := by
  obtain ⟨pk, ck, pa, ca, rfl, -, h3⟩ := h.forms
  have hle := RowsAt.le h3
  unfold maxLen at hle
  have H3 := Lib.hid h3
  clear h h3
  generalize hR : atI ts a = R
  have HR := Lib.hid hR; clear hR
  have BW := Lib.hid (show Below w.heap.size w ((w.alloc (.cells (pcRow (.slice pk kr.length ck) (.slice pa ts.length ca)) 51)).alloc (.cells a.cells 23)) from bel_alloc (bel_alloc (Below.refl _ _) _) _)
  go_enter Try.func47, Try.ntmps47
  go_wp2
  generalize hW0 : (w.alloc (.cells (pcRow (.slice pk kr.length ck) (.slice pa ts.length ca)) 51)).alloc (.cells a.cells 23) = W0 at *
  have r0 : rowOf W0 w.heap.size = pcRow (.slice pk kr.length ck) (.slice pa ts.length ca) := by rw [← hW0]; simp [go_sem]
  have i0 : isRow W0 w.heap.size = true := by rw [← hW0]; simp [go_sem]
  have r1 : rowOf W0 (w.heap.size + 1) = a.cells := by rw [← hW0]; simp [go_sem]
  have i1 : isRow W0 (w.heap.size + 1) = true := by rw [← hW0]; simp [go_sem]
  clear hW0
  go_loopw [9] (fun vi wr => ∃ k : Nat, k ≤ ts.length ∧ vi = .int .i64 k ∧ Hid (∀ j (hj : j < ts.length), j < k → ts[j].1 ≠ a) ∧ Below W0.heap.size W0 wr) (fun vi _ => ts.length - (intOf vi).toNat)
  case atStart => exact ⟨0, Nat.zero_le _, rfl, Lib.hid (fun j hj h => by omega), Below.refl _ _⟩
  case round =>
    obtain ⟨k, hk, rfl, hno, hbel⟩ := hrel
    obtain ⟨y0, j0, l0⟩ := carryRow hbel r0 i0
    obtain ⟨y1, j1, l1⟩ := carryRow hbel r1 i1
    have c1 : wr.cell? ⟨w.heap.size, 1, none⟩ = some (.slice pa ts.length ca) := by rw [cell_row, y0]; rfl
    by_cases hlt : k < ts.length
    · obtain ⟨b, o, cc, rs, hv', q1, q2, -, hbb, hsz, hall⟩ := RowsAt.pos (RowsAt.below H3.out (bel_trans BW.out hbel)) 21 (fun r y h => by rw [h]; simp) (by decide) (by omega)
      cases hv'
      obtain ⟨hrow, hacc⟩ := hall k hlt
      rw [hacc] at hrow
      clear hall hacc
      have hs1 : o + k * 21 + 20 ≤ (rowOf wr b).size := by omega
      have hki : (k : Int) < (ts.length : Int) := by omega
      have hki0 : (0 : Int) ≤ (k : Int) := by omega
      generalize hx : ts[k] = x at *
      have hp20 : (rowOf wr b).extract (o + k * 21) (o + k * 21 + 20) = x.1.cells := by
        rw [← tryCells_adr x, ← hrow, Array.extract_extract]; congr 1; omega
      have Hx := Lib.hid hx
      clear hx hrow
      by_cases he : x.1 = a
      · have hd : decide (x.1 = a) = true := by simp [he]
        have hR : R = k := by rw [← HR.out]; exact atI_some hlt (fun j hj => hno.out j (by omega) hj) (by rw [Hx.out]; exact he)
        subst hR
        clear HR
        go_wp2
        refine wp_region_quiet_below (by kernel_rfl) (by kernel_rfl) ?_
        repeat (go_big_quiet_step (fail))
        refine wpQuiet_nil ?_
        rintro w1 ⟨q, rfl⟩
        have bw := below_regrown wr q.d q.os
        generalize Sort.grow (redrawn wr q.d) q.os = W1 at *
        go_wp2
        go_ret
        exact ⟨rfl, bel_trans (bel_trans BW.out hbel) bw⟩
      · have hd : decide (x.1 = a) = false := by simp [he]
        go_wp2
        refine wp_region_quiet_below (by kernel_rfl) (by kernel_rfl) ?_
        repeat (go_big_quiet_step (fail))
        refine wpQuiet_nil ?_
        rintro w1 ⟨q, rfl⟩
        have bw := below_regrown wr q.d q.os
        generalize Sort.grow (redrawn wr q.d) q.os = W1 at *
        go_wp2
        go_roundw
        case rel => exact ⟨k + 1, by omega, by go_num, Lib.hid (fun j hj h => by
          by_cases hjk : j = k
          · subst hjk; rw [Hx.out]; exact he
          · exact hno.out j hj (by omega)), bel_trans hbel bw⟩
        case measure => simp [intOf]; omega
    · obtain rfl : k = ts.length := by omega
      have hR : R = -1 := by rw [← HR.out]; exact atI_none (fun j hj => hno.out j hj hj)
      subst hR
      have hki : ¬ ((ts.length : Int) < (ts.length : Int)) := by omega
      go_wp2
      go_ret
      exact ⟨rfl, bel_trans BW.out hbel⟩
end Go.Proofs.Ytadafohgglnneaa
/- The document's cache without one that is being fetched. No condition. -/
namespace Go.Proofs.Ytadafohgglnneaa
open Go.RowKit
theorem carryFr {w w' : World} {b : Nat} (h : Below w.heap.size w w') (hb : b < w.heap.size) (hf : rowFr w b = (0, 0)) : rowFr w' b = (0, 0) := by rw [bel_rowFr h _ hb, hf]
theorem erase_take_eq {α : Type} (l : List α) (k : Nat) (_hk : k < l.length) : (l.take (k + 1)).eraseIdx k = (l.take k).eraseIdx k := by
  have h1 : (l.take k).length = k := by simp; omega
  have h2 : (l.take k).eraseIdx k = l.take k := List.eraseIdx_of_length_le (by omega)
  rw [List.take_succ_eq_append_getElem (by omega), List.eraseIdx_append_of_length_le (by omega), h1, Nat.sub_self, h2]; simp
theorem erase_take_ne {α : Type} (l : List α) (k i : Nat) (hi : i < l.length) (h : i ≠ k) : (l.take (i + 1)).eraseIdx k = (l.take i).eraseIdx k ++ [l[i]] := by
  rw [List.take_succ_eq_append_getElem (by omega)]
  have h1 : (l.take i).length = i := by simp; omega
  by_cases hk : k < i
  · rw [List.eraseIdx_append_of_lt_length (by omega)]
  · rw [List.eraseIdx_append_of_length_le (by omega), h1, List.eraseIdx_of_length_le (l := l.take i) (by omega)]
    obtain ⟨m, hm⟩ : ∃ m, k - i = m + 1 := ⟨k - i - 1, by omega⟩
    rw [hm]; simp
/-- A cache answered. -/
def Pc15 (S : Nat → Prop) (w : World) (kr : List Acc) (ts : List (Adr × Nat)) (e : Ending) (w' : World) : Prop :=
  ∃ row, e = .returned (.agg row) ∧ PcIn (fun b => S b ∨ Fresh w w' b) w' row kr ts ∧ Below w.heap.size w w'
set_option maxRecDepth 100000 in
set_option maxHeartbeats 2000000 in
theorem ref15_without {S : Nat → Prop} (w : World) (row : Array Value) (kr : List Acc) (ts : List (Adr × Nat)) (i : Nat) (h : PcIn S w row kr ts) (hi : i < ts.length) (hsm : ts.length ≤ 100000) :
    Calls Try.prog 72 #[.agg row, .int .i64 i] w (Pc15 S w kr (ts.eraseIdx i)) := by
  obtain ⟨pk, ck, pa, ca, rfl, h2, h3⟩ := h.forms
  have hle := RowsAt.le h3
  unfold maxLen at hle
  have H2 := Lib.hid h2
  have H3 := Lib.hid h3
  clear h h2 h3
  generalize hR : ts.eraseIdx i = R
  have HR := Lib.hid hR; clear hR
  have BW := Lib.hid (show Below w.heap.size w ((w.alloc (.cells (pcRow (.slice pk kr.length ck) (.slice pa ts.length ca)) 51)).alloc (.cells (pcRow (.slice none 0 0) (.slice none 0 0)) 51)) from bel_alloc (bel_alloc (Below.refl _ _) _) _)
  go_enter Try.func72, Try.ntmps72
  go_wp2
  generalize hW0 : (w.alloc (.cells (pcRow (.slice pk kr.length ck) (.slice pa ts.length ca)) 51)).alloc (.cells (pcRow (.slice none 0 0) (.slice none 0 0)) 51) = W0 at *
  have r0 : rowOf W0 w.heap.size = pcRow (.slice pk kr.length ck) (.slice pa ts.length ca) := by rw [← hW0]; simp [go_sem]
  have i0 : isRow W0 w.heap.size = true := by rw [← hW0]; simp [go_sem]
  have f0 : rowFr W0 w.heap.size = (0, 0) := by rw [← hW0]; simp [go_sem]
  have r1 : rowOf W0 (w.heap.size + 1) = pcRow (.slice none 0 0) (.slice none 0 0) := by rw [← hW0]; simp [go_sem]
  have i1 : isRow W0 (w.heap.size + 1) = true := by rw [← hW0]; simp [go_sem]
  have f1 : rowFr W0 (w.heap.size + 1) = (0, 0) := by rw [← hW0]; simp [go_sem]
  have z0 : W0.heap.size = w.heap.size + 2 := by rw [← hW0]; simp
  clear hW0
  have ST : Stab W0 (fun _ r (y : Adr × Nat) => r = tryCells y) := Stab.eq
  have HST := Lib.hid ST; clear ST
  go_loopw [5, 11] (fun vo vi wr => ∃ (k : Nat) (q : Option Addr) (c : Nat) (ys : List (Adr × Nat)), k ≤ ts.length ∧ vi = .int .i64 k ∧ ys.length ≤ k ∧ Hid (ys = (ts.take k).eraseIdx i) ∧ vo = .slice q ys.length c ∧ RowOut 87 21 (fun _ r (y : Adr × Nat) => r = tryCells y) W0 wr vo ys) (fun _ vi _ => ts.length - (intOf vi).toNat)
  case atStart => exact ⟨0, _, _, [], Nat.zero_le _, rfl, by simp, Lib.hid (by simp), rfl, by rw [← z0]; exact RowOut.made' (Below.refl _ _) (Nat.le_refl _)⟩
  case round =>
    obtain ⟨k, q, c, ys, hk, rfl, hyl, hys, rfl, hout⟩ := hrel
    have hbel := hout.bel
    obtain ⟨y0, j0, l0⟩ := carryRow hbel r0 i0
    obtain ⟨y1, j1, l1⟩ := carryRow hbel r1 i1
    have g0 : rowFr wr w.heap.size = (0, 0) := by rw [bel_rowFr hbel _ (by omega), f0]
    have g1 : rowFr wr (w.heap.size + 1) = (0, 0) := by rw [bel_rowFr hbel _ (by omega), f1]
    have c1 : wr.cell? ⟨w.heap.size, 1, none⟩ = some (.slice pa ts.length ca) := by rw [cell_row, y0]; rfl
    have HOUT := Lib.hid hout
    by_cases hlt : k < ts.length
    · obtain ⟨b, o, cc, rs, hv', q1, q2, -, hbb, hsz, hall⟩ := RowsAt.pos (RowsAt.below H3.out (bel_trans BW.out hbel)) 21 (fun r y h => by rw [h]; simp) (by decide) (by omega)
      cases hv'
      obtain ⟨hrow, hacc⟩ := hall k hlt
      rw [hacc] at hrow
      clear hall hacc
      have hs1 : o + k * 21 + 21 ≤ (rowOf wr b).size := by omega
      have hki : (k : Int) < (ts.length : Int) := by omega
      have hki0 : (0 : Int) ≤ (k : Int) := by omega
      by_cases he : k = i
      · have hd : ((k : Int) != (i : Int)) = false := by simp [he]
        have hys2 := hys.out
        have e2 := erase_take_eq ts i hi
        have Hys2 := Lib.hid (show ys = (ts.take (k + 1)).eraseIdx i by rw [hys2, he, e2])
        clear hys hys2 e2 hrow hbel hout
        go_wp2
        go_roundw
        case rel => exact ⟨k + 1, q, c, ys, by omega, by go_num, by omega, Hys2, rfl, HOUT.out⟩
        case measure => simp [intOf]; omega
      · have hd : ((k : Int) != (i : Int)) = true := by simp; omega
        have Hys2 := Lib.hid (show ys ++ [ts[k]] = (ts.take (k + 1)).eraseIdx i by rw [erase_take_ne ts i k hlt he, hys.out])
        generalize hx : ts[k] = x at *
        have hB : Below wr.heap.size wr (wr.alloc (.cells (tryCells x) 87)) := bel_alloc (Below.refl _ _) _
        have HO3 := Lib.hid (HOUT.out.below HST.out hB)
        clear hx hB hys hbel hout he
        go_wp2_with (at_builtin; refine wpList_append_out rfl (.tmp 17) (.tmp 23) 49 rfl elt87 Try.underlying49 HST.out HO3.out (by simp [Act.eval]) wr.heap.size (tryCells x) x (by simp [Act.eval]) (rowOf_alloc_at _ _ _ _ rfl) (tryCells_size x) (tryCells_one x) rfl (by omega) (by unfold maxLen; omega) ?_; intro g5 c5 w5 ho5 hk5 hg5; have HO6 := Lib.hid ho5; clear ho5 hk5 hg5)
        go_roundw
        case rel => exact ⟨k + 1, some ⟨g5, 0, none⟩, c5, ys ++ [x], by omega, by go_num, by simp; omega, Hys2, by simp, HO6.out⟩
        case measure => simp [intOf]; omega
    · obtain rfl : k = ts.length := by omega
      have hki : ¬ ((ts.length : Int) < (ts.length : Int)) := by omega
      have hys2 : ys = R := by rw [← HR.out, hys.out, List.take_length]
      subst hys2
      have fz0 : wr.frozen? ⟨w.heap.size, 1, none⟩ = false := frozen_row _ _ _ g0
      have BR := bel_trans BW.out hbel
      clear hbel hout HR hys
      go_wp2
      refine bodyPost_ret (v := .agg (pcRow (.slice pk kr.length ck) (.slice q ys.length c))) (by simp [results, Try.results72, go_sem, y1, y0]) rfl ⟨_, rfl, ?_, ?_⟩
      · have hz0 := BW.out.size
        have K1 : Kept (fun b => b = w.heap.size ∨ b = w.heap.size + 1) wr (World.setSeg (wr.setCell ⟨w.heap.size, 1, none⟩ (.slice q ys.length c)) (w.heap.size + 1) 0 (pcRow (.slice pk kr.length ck) (.slice q ys.length c)).toList) := ((Kept.refl _ wr).setCell _ _ (.inl (.inl rfl))).setSeg _ _ _ (.inl (.inr rfl))
        have hT : TrysAt (fun b => W0.heap.size ≤ b ∧ b < wr.heap.size) wr (.slice q ys.length c) ys := HOUT.out.rows
        have hA := (H2.out.bound.below BR).kept K1 (fun b hb e => by have := hb.2; omega)
        have hT2 : TrysAt (fun b => W0.heap.size ≤ b ∧ b < wr.heap.size) _ (.slice q ys.length c) ys := RowsAt.same hT (fun b hb hS => K1.block b hb (fun e => by have := hS.1; omega))
        have hsz := K1.size
        exact ⟨_, _, rfl, hA.mono (fun b hb => .inl hb.1), RowsAt.mono hT2 (fun b hb => .inr ⟨by omega, by omega⟩)⟩
      · exact bel_setSeg (bel_setCell BR _ _ (by simp)) _ _ _ (by omega)
end Go.Proofs.Ytadafohgglnneaa
/- The document's Want. No condition. -/
namespace Go.Proofs.Ytadafohgglnneaa
open Go.RowKit
@[go_sem ↓ high] theorem zero87 (w : World) : (zeroValue 87).run Try.prog w = .ok (.agg (tryCells (zeroAdr, 0))) w := by rw [Try.zeroValue87]; rfl
@[go_sem, simp] theorem tryCells_putAdr (x : Adr × Nat) (a : Adr) : putSeg (tryCells x) 0 a.cells.toList = tryCells (a, x.2) := by
  have := putSeg_mid #[] x.1.cells #[.int .i64 (x.2 : Int)] a.cells.toList 0 rfl (by simp)
  simpa [tryCells] using this
/-- What is said, and a cache. -/
def PcAns (v : Value) (S : Nat → Prop) (w : World) (kr : List Acc) (ts : List (Adr × Nat)) (e : Ending) (w' : World) : Prop :=
  ∃ row, e = .returned (.tuple #[v, .agg row]) ∧ PcIn (fun b => S b ∨ Fresh w w' b) w' row kr ts ∧ Below w.heap.size w w'
theorem pc_end {S T : Nat → Prop} {w w8 w9 : World} {row : Array Value} {kr : List Acc} {ts : List (Adr × Nat)} {c : Nat} (v : Value) (B : Below w.heap.size w w8) (hP : PcIn T w8 row kr ts) (hT : ∀ b, T b → b ≠ c ∧ (S b ∨ Fresh w w8 b))
    (K : Kept (fun b => b = c) w8 w9) (hc : w.heap.size ≤ c) : PcAns v S w kr ts (.returned (.tuple #[v, .agg row])) w9 := by
  have hz := K.size
  refine ⟨row, rfl, (hP.kept K (fun b hb e => (hT b hb).1 e)).mono fun b hb => ?_, bel_kept B K (fun x hx e => by omega)⟩
  rcases (hT b hb).2 with h | ⟨h1, h2⟩
  · exact .inl h
  · exact .inr ⟨h1, by omega⟩
theorem want_end {S : Nat → Prop} {w w2 w6 : World} {vk : Value} {kr : List Acc} {ts : List (Adr × Nat)} {va : Value} {c : Nat} (h2 : AccsAt S w vk kr) (B2 : Below w.heap.size w w2) (ho : RowOut 87 21 (fun _ r (y : Adr × Nat) => r = tryCells y) w2 w6 va ts) (hc : c < w2.heap.size) (hc0 : w.heap.size ≤ c) (o : Nat) (v : Value) :
    PcIn (fun b => (S b ∧ b < w.heap.size) ∨ (w2.heap.size ≤ b ∧ b < w6.heap.size)) (w6.setCell ⟨c, o, none⟩ v) (pcRow vk va) kr ts := by
  have B6 := bel_trans B2 ho.bel
  have K1 : Kept (fun b => b = c) w6 (w6.setCell ⟨c, o, none⟩ v) := (Kept.refl _ w6).setCell _ _ (.inl rfl)
  have hT : TrysAt (fun b => w2.heap.size ≤ b ∧ b < w6.heap.size) w6 va ts := ho.rows
  have hA := (h2.bound.below B6).kept K1 (fun b hb e => by have := hb.2; omega)
  have hT2 : TrysAt (fun b => w2.heap.size ≤ b ∧ b < w6.heap.size) _ va ts := RowsAt.same hT (fun b hb hS => K1.block b hb (fun e => by have := hS.1; omega))
  exact ⟨_, _, rfl, hA.mono (fun b hb => .inl hb), RowsAt.mono hT2 (fun b hb => .inr hb)⟩
set_option maxRecDepth 100000 in
set_option maxHeartbeats 2000000 in
theorem ref15_Want {S : Nat → Prop} (w : World) (row : Array Value) (kr : List Acc) (ts : List (Adr × Nat)) (a : Adr) (h : PcIn S w row kr ts) (hsm : ts.length ≤ 100000) :
    Calls Try.prog 30 #[.agg row, .agg a.cells] w (PcAns (.int .u8 (wantC kr ts a)) S w kr (wantT kr ts a)) := by
  obtain ⟨pk, ck, pa, ca, rfl, h2, h3⟩ := h.forms
  have hle := RowsAt.le h3
  unfold maxLen at hle
  have H2 := Lib.hid h2
  have H3 := Lib.hid h3
  have H := Lib.hid h
  generalize hrw : pcRow (.slice pk kr.length ck) (.slice pa ts.length ca) = row at *
  have hr0 : row[0]? = some (.slice pk kr.length ck) := by rw [← hrw]; rfl
  have hr1 : row[1]? = some (.slice pa ts.length ca) := by rw [← hrw]; rfl
  obtain ⟨hrz, hro, hrx⟩ := h.one
  clear h h2 h3
  have BW := Lib.hid (show Below w.heap.size w (((w.alloc (.cells row 51)).alloc (.cells a.cells 23)).alloc (.cells (pcRow (.slice none 0 0) (.slice none 0 0)) 51)) from bel_alloc (bel_alloc (bel_alloc (Below.refl _ _) _) _) _)
  generalize hC : wantC kr ts a = C
  generalize hTT : wantT kr ts a = TT
  have HC := Lib.hid hC
  have HT := Lib.hid hTT
  clear hC hTT
  go_enter Try.func30, Try.ntmps30
  generalize hW0 : ((w.alloc (.cells row 51)).alloc (.cells a.cells 23)).alloc (.cells (pcRow (.slice none 0 0) (.slice none 0 0)) 51) = W0 at *
  have r0 : rowOf W0 w.heap.size = row := by rw [← hW0]; simp [go_sem]
  have i0 : isRow W0 w.heap.size = true := by rw [← hW0]; simp [go_sem]
  have f0 : rowFr W0 w.heap.size = (0, 0) := by rw [← hW0]; simp [go_sem]
  have r1 : rowOf W0 (w.heap.size + 1) = a.cells := by rw [← hW0]; simp [go_sem]
  have i1 : isRow W0 (w.heap.size + 1) = true := by rw [← hW0]; simp [go_sem]
  have r2 : rowOf W0 (w.heap.size + 2) = pcRow (.slice none 0 0) (.slice none 0 0) := by rw [← hW0]; simp [go_sem]
  have i2 : isRow W0 (w.heap.size + 2) = true := by rw [← hW0]; simp [go_sem]
  have f2 : rowFr W0 (w.heap.size + 2) = (0, 0) := by rw [← hW0]; simp [go_sem]
  have z0 : W0.heap.size = w.heap.size + 3 := by rw [← hW0]; simp
  have HZ := Lib.hid z0
  have HW := Lib.hid hW0
  have c0 : W0.cell? ⟨w.heap.size, 0, none⟩ = some (.slice pk kr.length ck) := by rw [cell_row, r0, hr0]
  clear hW0 z0
  have s0 : w.heap.size < W0.heap.size := isRow_lt i0
  have s1 : w.heap.size + 1 < W0.heap.size := isRow_lt i1
  have s2 : w.heap.size + 2 < W0.heap.size := isRow_lt i2
  go_upto_region 1 with (fail)
  rw [HW.out]
  go_wp2_with fail
  refine (ref13_Find (S := S) _ _ kr a (H2.out.below BW.out)).mono ?_
  rintro e w1 ⟨r, rfl, a1, hb1⟩
  have hrz1 := a1.size
  have hr11 := a1.one
  obtain ⟨hx27, -⟩ := a1.ext0
  obtain ⟨y0, j0, l0⟩ := carryRow hb1 r0 i0
  obtain ⟨y1, j1, l1⟩ := carryRow hb1 r1 i1
  obtain ⟨y2, j2, l2⟩ := carryRow hb1 r2 i2
  have g0 := carryFr hb1 s0 f0
  have g2 := carryFr hb1 s2 f2
  have B1 := Lib.hid (bel_trans BW.out hb1)
  have z1 := hb1.size
  have nn : w.heap.size + 2 ≠ w.heap.size := by omega
  clear hb1 r0 i0 f0 r1 i1 r2 i2 f2 s0 s1 s2 c0 a1
  cases hk : findK a kr with
  | some x =>
    have e1 : C = 1 := by rw [← HC.out]; simp [wantC, hk]
    have e2 : ts = TT := by rw [← HT.out]; simp [wantT, hk]
    subst e1; subst e2; clear HC HT
    clear hk
    go_wp2
    go_region
    all_goals
      go_wp2
      refine bodyPost_ret (v := .tuple #[.int .u8 1, .agg row]) (by simp [results, Try.results30, go_sem, y2, l2, hrz, hrx]) rfl ?_
      refine pc_end (T := fun b => S b ∧ b < w.heap.size) (c := w.heap.size + 2) _ B1.out (H.out.bound.below B1.out) (fun b hb => ⟨by omega, .inl hb.1⟩) ?_ (by omega)
      repeat (first | exact Kept.refl _ _ | apply Kept.drew | apply Kept.alloc | (refine Kept.setSeg ?_ _ _ _ (.inl rfl)))
  | none =>
    rcases atI_cases ts a with ⟨hat, hft⟩ | ⟨k, hk2, hat, -, hft, -⟩
    rotate_left
    · have e1 : C = 2 := by rw [← HC.out]; simp [wantC, hk, hft]
      have e2 : ts = TT := by rw [← HT.out]; simp [wantT, hk, hft]
      subst e1; subst e2; clear HC HT
      clear hk
      go_wp2_with fail
      refine (ref15_At (S := S) _ _ kr ts a (H.out.below (bel_trans B1.out (bel_alloc (Below.refl _ _) _)))).mono ?_
      rintro e w2 ⟨rfl, hb2⟩
      rw [hat]
      have hge : decide ((0 : Int) ≤ (k : Int)) = true := by simp
      have b12 : Below w1.heap.size w1 w2 := bel_trans (bel_alloc (Below.refl _ _) _) hb2
      obtain ⟨u0, k0, m0⟩ := carryRow b12 y0 j0
      obtain ⟨u2, k2, m2⟩ := carryRow b12 y2 j2
      have h2 := carryFr b12 l2 g2
      have B2 := Lib.hid (bel_trans B1.out b12)
      clear b12 hb2 hat hft y0 j0 l0 y1 j1 l1 y2 j2 l2 g0 g2
      go_wp2
      go_region
      all_goals
        go_wp2
        refine bodyPost_ret (v := .tuple #[.int .u8 2, .agg row]) (by simp [results, Try.results30, go_sem, u2, m2, hrz, hrx]) rfl ?_
        refine pc_end (T := fun b => S b ∧ b < w.heap.size) (c := w.heap.size + 2) _ B2.out (H.out.bound.below B2.out) (fun b hb => ⟨by omega, .inl hb.1⟩) ?_ (by omega)
        repeat (first | exact Kept.refl _ _ | apply Kept.drew | apply Kept.alloc | (refine Kept.setSeg ?_ _ _ _ (.inl rfl)))
    · have e1 : C = 3 := by rw [← HC.out]; simp [wantC, hk, hft]
      have e2 : TT = ts ++ [(a, 0)] := by rw [← HT.out]; simp [wantT, hk, hft, setT]
      subst e1; subst e2; clear HC HT
      clear hk
      go_wp2_with fail
      refine (ref15_At (S := S) _ _ kr ts a (H.out.below (bel_trans B1.out (bel_alloc (Below.refl _ _) _)))).mono ?_
      rintro e w2 ⟨rfl, hb2⟩
      rw [hat]
      have b12 : Below w1.heap.size w1 w2 := bel_trans (bel_alloc (Below.refl _ _) _) hb2
      obtain ⟨u0, k0, m0⟩ := carryRow b12 y0 j0
      obtain ⟨u1, k1, m1⟩ := carryRow b12 y1 j1
      obtain ⟨u2, k2, m2⟩ := carryRow b12 y2 j2
      have h0 := carryFr b12 l0 g0
      have h2 := carryFr b12 l2 g2
      have B2 := Lib.hid (bel_trans B1.out b12)
      have HM := Lib.hid (RowOut.made' (e := 87) (size := 21) (E := fun _ r (y : Adr × Nat) => r = tryCells y) (Below.refl w2.heap.size w2) (Nat.le_refl _))
      have HS := Lib.hid (RowsAt.below H3.out (bel_trans B2.out (bel_alloc (Below.refl _ _) (.cells #[] 87))))
      have cc1 : w2.cell? ⟨w.heap.size, 1, none⟩ = some (.slice pa ts.length ca) := by rw [cell_row, u0, hr1]
      have HST : Hid (Stab w2 (fun _ r (y : Adr × Nat) => r = tryCells y)) := Lib.hid Stab.eq
      have U0 := Lib.hid u0
      have K0 := Lib.hid k0
      have M0 := Lib.hid m0
      have G0 := Lib.hid h0
      have U2 := Lib.hid u2
      have K2 := Lib.hid k2
      have M2 := Lib.hid m2
      have G2 := Lib.hid h2
      clear b12 hb2 hat hft y0 j0 l0 y1 j1 l1 y2 j2 l2 g0 g2
      go_wp2_with (first
        | (at_builtin; refine wpList_append_outs rfl (.tmp 24) (.tmp 26) 49 rfl elt87 Try.underlying49 HST.out HM.out (by simp [Act.eval]) (.slice pa ts.length ca) ts (by simp [Act.eval]) HS.out (fun r y h => by rw [h]; exact ⟨tryCells_size y, tryCells_one y⟩) (by simp; omega) (by simp; unfold maxLen; omega) ?_; intro v5 w5 ho5 hk5
           rw [List.nil_append] at ho5
           obtain ⟨p5, c5, rfl⟩ := ho5.form
           have b25 := ho5.bel
           obtain ⟨u50, k50, m50⟩ := carryRow b25 u0 k0
           obtain ⟨u51, k51, m51⟩ := carryRow b25 u1 k1
           obtain ⟨u52, k52, m52⟩ := carryRow b25 u2 k2
           have g50 := carryFr b25 m0 h0
           have g52 := carryFr b25 m2 h2
           have HO5 := Lib.hid (ho5.below HST.out (bel_alloc (Below.refl w5.heap.size w5) (.cells (tryCells (a, 0)) 87)))
           clear ho5 hk5 b25 HM HS cc1 u0 k0 m0 u1 k1 m1 u2 k2 m2 h0 h2)
        | (at_builtin; refine wpList_append_out rfl (.tmp 28) (.tmp 31) 49 rfl elt87 Try.underlying49 HST.out HO5.out (by simp [Act.eval]) w5.heap.size (tryCells (a, 0)) (a, 0) (by simp [Act.eval]) (rowOf_alloc_at _ _ _ _ rfl) (tryCells_size _) (tryCells_one _) rfl (by omega) (by unfold maxLen; omega) ?_; intro g6 c6 w6 ho6 hk6 hg6
           have b26 := ho6.bel
           have HO6 := Lib.hid ho6
           have HB26 := Lib.hid b26
           obtain ⟨u60, k60, m60⟩ := carryRow b26 U0.out K0.out
           obtain ⟨u62, k62, m62⟩ := carryRow b26 U2.out K2.out
           have g60 := carryFr b26 M0.out G0.out
           have g62 := carryFr b26 M2.out G2.out
           have fz6 : w6.frozen? ⟨w.heap.size, 1, none⟩ = false := frozen_row _ _ _ g60
           have c61 : w6.cell? ⟨w.heap.size, 1, none⟩ = some (.slice pa ts.length ca) := by rw [cell_row, u60, hr1]
           have hset : row.setIfInBounds 1 (.slice (some ⟨g6, 0, none⟩) (ts.length + 1) c6) = pcRow (.slice pk kr.length ck) (.slice (some ⟨g6, 0, none⟩) (ts.length + 1) c6) := by rw [← hrw, pcRow_set1]
           clear ho6 hk6 hg6 b26)
        | fail)
      have hz6 := HB26.out.size
      have BW6 := bel_trans B2.out HB26.out
      have hP := want_end H2.out B2.out HO6.out M0.out (Nat.le_refl _) 1 (.slice (some ⟨g6, 0, none⟩) (ts.length + 1) c6)
      have HP := Lib.hid hP
      have HB6 := Lib.hid BW6
      clear hP BW6 hz6
      go_region
      all_goals
        go_wp2
        have hw9 : rowOf (World.setSeg (w6.setCell ⟨w.heap.size, 1, none⟩ (.slice (some ⟨g6, 0, none⟩) (ts.length + 1) c6)) (w.heap.size + 1 + 1) 0 (pcRow (.slice pk kr.length ck) (.slice (some ⟨g6, 0, none⟩) (ts.length + 1) c6)).toList) (w.heap.size + 1 + 1) = pcRow (.slice pk kr.length ck) (.slice (some ⟨g6, 0, none⟩) (ts.length + 1) c6) := by
          rw [rowOf_setSeg_same, rowOf_setCell_other _ _ _ _ (show w.heap.size + 1 + 1 ≠ w.heap.size by omega), u62, putSeg_all _ _ (by simp)]
        refine bodyPost_ret (v := .tuple #[.int .u8 3, .agg (pcRow (.slice pk kr.length ck) (.slice (some ⟨g6, 0, none⟩) (ts.length + 1) c6))]) (by simp [results, Try.results30, go_sem, hw9]) rfl ?_
        have Bc := bel_setCell HB6.out ⟨w.heap.size, 1, none⟩ (.slice (some ⟨g6, 0, none⟩) (ts.length + 1) c6) (Nat.le_refl _)
        have hz7 := HB26.out.size
        have hz2 := M2.out
        have hm0 := M0.out
        refine pc_end (c := w.heap.size + 2) _ Bc HP.out (fun b hb => ⟨by omega, ?_⟩) ?_ (by omega)
        · rcases hb with hb | hb
          · exact .inl hb.1
          · exact .inr ⟨by omega, by simp; omega⟩
        · repeat (first | exact Kept.refl _ _ | apply Kept.drew | apply Kept.alloc | (refine Kept.setSeg ?_ _ _ _ (.inl rfl)))
end Go.Proofs.Ytadafohgglnneaa
/- The document's Fill. No condition. -/
namespace Go.Proofs.Ytadafohgglnneaa
open Go.RowKit
theorem i_setSeg (w : World) (b o k : Nat) (vs : List Value) : isRow w k = isRow (World.setSeg w b o vs) k := by
  simp only [isRow, World.setSeg, Array.getElem?_modify]
  by_cases h : b = k
  · rw [if_pos h]; cases w.heap[k]? with
    | none => rfl
    | some x => cases x <;> rfl
  · rw [if_neg h]
theorem f_setSeg (w : World) (b o k : Nat) (vs : List Value) : rowFr w k = rowFr (World.setSeg w b o vs) k := by
  simp only [rowFr, World.setSeg, Array.getElem?_modify]
  by_cases h : b = k
  · rw [if_pos h]; cases w.heap[k]? with
    | none => rfl
    | some x => cases x <;> rfl
  · rw [if_neg h]
theorem fill15_end {S : Nat → Prop} {w w3 w4 w5 : World} {row2 : Array Value} {kr' : List Acc} {ts : List (Adr × Nat)} {vk va vk' : Value} (_hrow : row2 = pcRow vk va)
    (hp : TrysAt (fun b => (S b ∧ b < w.heap.size) ∨ (w.heap.size + 3 ≤ b ∧ b < w3.heap.size)) w3 va ts) (hS : w.heap.size + 3 ≤ w3.heap.size) (hw4 : w4 = World.setSeg w3 w.heap.size 0 row2.toList)
    (ho : RowOut 30 27 (AccIn (fun b => (S b ∧ b < w.heap.size) ∨ (w.heap.size + 3 ≤ b ∧ b < w3.heap.size))) w4 w5 vk' kr') :
    PcIn (fun b => (S b ∧ b < w.heap.size) ∨ (w.heap.size + 3 ≤ b ∧ b < w5.heap.size)) (w5.setCell ⟨w.heap.size, 0, none⟩ vk') (pcRow vk' va) kr' ts := by
  have z4 : w4.heap.size = w3.heap.size := by rw [hw4]; simp
  have b5 := ho.bel
  have z5 := b5.size
  have K3 : Kept (fun b => b = w.heap.size) w3 w4 := by rw [hw4]; exact (Kept.refl _ w3).setSeg _ _ _ (.inl rfl)
  have K5 : Kept (fun b => b = w.heap.size) w5 (w5.setCell ⟨w.heap.size, 0, none⟩ vk') := (Kept.refl _ w5).setCell _ _ (.inl rfl)
  have K : Kept (fun b => b = w.heap.size) w3 (w5.setCell ⟨w.heap.size, 0, none⟩ vk') := (K3.bel b5).trans K5
  have hA : AccsAt (fun b => (S b ∧ b < w.heap.size) ∨ (w.heap.size + 3 ≤ b ∧ b < w5.heap.size)) w5 vk' kr' := ho.accs (fun b hb => hb.imp id fun h => by omega) (fun b h1 h2 => .inr (by omega))
  refine ⟨_, _, rfl, hA.kept K5 (fun b hb e => by omega), ?_⟩
  exact RowsAt.mono (RowsAt.same hp (fun b hb hb2 => K.block b hb (fun e => by omega))) (fun b hb => hb.imp id fun h => by omega)
set_option maxRecDepth 100000 in
set_option maxHeartbeats 2000000 in
theorem ref15_Fill {S : Nat → Prop} (w : World) (row xrow : Array Value) (kr : List Acc) (ts : List (Adr × Nat)) (x : Acc) (h : PcIn S w row kr ts) (hx : AccIn S w xrow x) (hsm : ts.length ≤ 100000) (hkm : kr.length ≤ 100000) :
    Calls Try.prog 31 #[.agg row, .agg xrow] w (PcAns (.bool (fillB ts x)) S w (if fillB ts x then putL x false kr else kr) (if fillB ts x then ts.eraseIdx (atI ts x.adr).toNat else ts)) := by
  obtain ⟨pk, ck, pa, ca, rfl, h2, h3⟩ := h.forms
  have H := Lib.hid h
  have HX := Lib.hid hx
  obtain ⟨hxw27, hxad⟩ := hx.ext0
  have hxz := hx.size
  have hx1 := hx.one
  generalize hrw : pcRow (.slice pk kr.length ck) (.slice pa ts.length ca) = row at *
  obtain ⟨hrz, hro, hrx⟩ := h.one
  clear h h2 h3 hx
  have BW := Lib.hid (show Below w.heap.size w (((w.alloc (.cells row 51)).alloc (.cells xrow 30)).alloc (.cells (pcRow (.slice none 0 0) (.slice none 0 0)) 51)) from bel_alloc (bel_alloc (bel_alloc (Below.refl _ _) _) _) _)
  generalize hC : fillB ts x = C
  generalize hKK : (if C then putL x false kr else kr) = KK
  generalize hTT : (if C then ts.eraseIdx (atI ts x.adr).toNat else ts) = TT
  have HC := Lib.hid hC
  have HK := Lib.hid hKK
  have HT := Lib.hid hTT
  clear hC hTT hKK
  go_enter Try.func31, Try.ntmps31
  generalize hW0 : ((w.alloc (.cells row 51)).alloc (.cells xrow 30)).alloc (.cells (pcRow (.slice none 0 0) (.slice none 0 0)) 51) = W0 at *
  have r0 : rowOf W0 w.heap.size = row := by rw [← hW0]; simp [go_sem]
  have i0 : isRow W0 w.heap.size = true := by rw [← hW0]; simp [go_sem]
  have f0 : rowFr W0 w.heap.size = (0, 0) := by rw [← hW0]; simp [go_sem]
  have r1 : rowOf W0 (w.heap.size + 1) = xrow := by rw [← hW0]; simp [go_sem]
  have i1 : isRow W0 (w.heap.size + 1) = true := by rw [← hW0]; simp [go_sem]
  have r2 : rowOf W0 (w.heap.size + 2) = pcRow (.slice none 0 0) (.slice none 0 0) := by rw [← hW0]; simp [go_sem]
  have i2 : isRow W0 (w.heap.size + 2) = true := by rw [← hW0]; simp [go_sem]
  have f2 : rowFr W0 (w.heap.size + 2) = (0, 0) := by rw [← hW0]; simp [go_sem]
  have z0 : W0.heap.size = w.heap.size + 3 := by rw [← hW0]; simp
  have HZ := Lib.hid z0
  have HW := Lib.hid hW0
  clear hW0 z0
  have s0 : w.heap.size < W0.heap.size := isRow_lt i0
  have s1 : w.heap.size + 1 < W0.heap.size := isRow_lt i1
  have s2 : w.heap.size + 2 < W0.heap.size := isRow_lt i2
  go_upto_region 1 with (fail)
  rw [HW.out]
  go_wp2_with fail
  refine (ref15_At (S := S) _ _ kr ts x.adr (H.out.below BW.out)).mono ?_
  rintro e w1 ⟨rfl, hb1⟩
  obtain ⟨y0, j0, l0⟩ := carryRow hb1 r0 i0
  obtain ⟨y1, j1, l1⟩ := carryRow hb1 r1 i1
  obtain ⟨y2, j2, l2⟩ := carryRow hb1 r2 i2
  have g0 := carryFr hb1 s0 f0
  have g2 := carryFr hb1 s2 f2
  have B1 := Lib.hid (bel_trans BW.out hb1)
  have z1 := hb1.size
  clear hb1 r0 i0 f0 r1 i1 r2 i2 f2 s0 s1 s2
  rcases atI_cases ts x.adr with ⟨hat, hft⟩ | ⟨k, hk2, hat, -, hft, -⟩
  · have e0 : C = false := by rw [← HC.out]; simp [fillB, hft]
    have e1 : kr = KK := by rw [← HK.out, e0]; rfl
    have e2 : ts = TT := by rw [← HT.out, e0]; rfl
    subst e0; subst e1; subst e2; clear HC HT HK
    rw [hat]
    clear hat hft
    go_wp2
    go_region
    all_goals
      go_wp2
      refine bodyPost_ret (v := .tuple #[.bool false, .agg row]) (by simp [results, Try.results31, go_sem, y2, l2, hrz, hrx]) rfl ?_
      refine pc_end (T := fun b => S b ∧ b < w.heap.size) (c := w.heap.size + 2) _ B1.out (H.out.bound.below B1.out) (fun b hb => ⟨by omega, .inl hb.1⟩) ?_ (by omega)
      repeat (first | exact Kept.refl _ _ | apply Kept.drew | apply Kept.alloc | (refine Kept.setSeg ?_ _ _ _ (.inl rfl)))
  · rw [hat]
    have hge : decide ((k : Int) < 0) = false := by simp
    go_wp2_with fail
    refine (ref13_Right (S := S) _ xrow _ (HX.out.below B1.out)).mono ?_
    rintro e w2 ⟨rfl, hb2⟩
    obtain ⟨u0, k0, m0⟩ := carryRow hb2 y0 j0
    obtain ⟨u1, k1, m1⟩ := carryRow hb2 y1 j1
    obtain ⟨u2, k2, m2⟩ := carryRow hb2 y2 j2
    have h0 := carryFr hb2 l0 g0
    have h2 := carryFr hb2 l2 g2
    have B2 := Lib.hid (bel_trans B1.out hb2)
    have z2 := hb2.size
    clear hb2 y0 j0 l0 y1 j1 l1 y2 j2 l2 g0 g2
    cases hrt : rightB x.stor with
    | false =>
      have e0 : C = false := by rw [← HC.out]; simp [fillB, hrt]
      have e1 : kr = KK := by rw [← HK.out, e0]; rfl
      have e2 : ts = TT := by rw [← HT.out, e0]; rfl
      subst e0; subst e1; subst e2; clear HC HT HK
      clear hat hft hrt
      go_wp2
      go_region
      all_goals
        go_wp2
        refine bodyPost_ret (v := .tuple #[.bool false, .agg row]) (by simp [results, Try.results31, go_sem, u2, m2, hrz, hrx]) rfl ?_
        refine pc_end (T := fun b => S b ∧ b < w.heap.size) (c := w.heap.size + 2) _ B2.out (H.out.bound.below B2.out) (fun b hb => ⟨by omega, .inl hb.1⟩) ?_ (by omega)
        repeat (first | exact Kept.refl _ _ | apply Kept.drew | apply Kept.alloc | (refine Kept.setSeg ?_ _ _ _ (.inl rfl)))
    | true =>
      have e0 : C = true := by rw [← HC.out]; simp [fillB, hrt, hft]
      have e1 : putL x false kr = KK := by rw [← HK.out, e0]; rfl
      have e2 : ts.eraseIdx k = TT := by rw [← HT.out, e0, hat]; rfl
      subst e0; subst e1; subst e2; clear HC HT HK
      clear hat hft hrt
      go_wp2_with fail
      refine (ref15_without (S := fun b => S b ∧ b < w.heap.size) _ _ kr ts k (H.out.bound.below B2.out) hk2 hsm).mono ?_
      rintro e w3 ⟨row2, rfl, hp3, hb3⟩
      obtain ⟨u30, k30, m30⟩ := carryRow hb3 u0 k0
      obtain ⟨u31, k31, m31⟩ := carryRow hb3 u1 k1
      obtain ⟨u32, k32, m32⟩ := carryRow hb3 u2 k2
      have h30 := carryFr hb3 m0 h0
      have h32 := carryFr hb3 m2 h2
      have B3 := Lib.hid (bel_trans B2.out hb3)
      have z3 := hb3.size
      have HP3 : Hid (PcIn (fun b => (S b ∧ b < w.heap.size) ∨ (w.heap.size + 3 ≤ b ∧ b < w3.heap.size)) w3 row2 kr (ts.eraseIdx k)) := Lib.hid (hp3.mono fun b hb => hb.imp id fun h => by unfold Fresh at h; have := HZ.out; omega)
      obtain ⟨hr2z, hr2o, hr2x⟩ := HP3.out.one
      obtain ⟨pk2, ck2, pa2, ca2, hrow2, q2, q3⟩ := HP3.out.forms
      have Q2 := Lib.hid q2
      have Q3 := Lib.hid q3
      have HR2 := Lib.hid hrow2
      clear hb3 u0 k0 m0 u1 k1 m1 u2 k2 m2 h0 h2 hp3 q2 q3 hrow2
      have hc4 : (World.setSeg w3 w.heap.size 0 row2.toList).cell? ⟨w.heap.size, 0, none⟩ = some (.slice pk2 kr.length ck2) := by
        rw [cell_row, rowOf_setSeg_same, u30, putSeg_all _ _ (by omega), HR2.out]; rfl
      go_wp2_with fail
      have K3 : Kept (fun b => b = w.heap.size) w3 (World.setSeg w3 w.heap.size 0 row2.toList) := (Kept.refl _ w3).setSeg _ _ _ (.inl rfl)
      have z4 : (World.setSeg w3 w.heap.size 0 row2.toList).heap.size = w3.heap.size := by simp
      have r40 : rowOf (World.setSeg w3 w.heap.size 0 row2.toList) w.heap.size = row2 := by rw [rowOf_setSeg_same, u30, putSeg_all _ _ (by omega)]
      have i40 : isRow (World.setSeg w3 w.heap.size 0 row2.toList) w.heap.size = true := by rw [← i_setSeg, k30]
      have f40 : rowFr (World.setSeg w3 w.heap.size 0 row2.toList) w.heap.size = (0, 0) := by rw [← f_setSeg, h30]
      have Q24 := Q2.out.kept K3 (fun b hb e => by have := HZ.out; omega)
      have X4 := (HX.out.bound.below B3.out).kept K3 (fun b hb e => by have := hb.2; omega)
      have B4 := bel_setSeg B3.out w.heap.size 0 row2.toList (Nat.le_refl _)
      have hm4 := HZ.out
      refine (ref13_Put (T := fun b => (S b ∧ b < w.heap.size) ∨ (w.heap.size + 3 ≤ b ∧ b < w3.heap.size)) _ _ kr xrow x Q24 (X4.mono fun b hb => .inl hb) (fun b hb => by omega) hkm).mono ?_
      rintro e w5 ⟨v5, rfl, ho5⟩
      obtain ⟨p5, c5, rfl⟩ := ho5.form
      have b45 := ho5.bel
      have r42 : rowOf (World.setSeg w3 w.heap.size 0 row2.toList) (w.heap.size + 2) = pcRow (.slice none 0 0) (.slice none 0 0) := by rw [K3.row _ m32 (by omega), u32]
      have i42 : isRow (World.setSeg w3 w.heap.size 0 row2.toList) (w.heap.size + 2) = true := by rw [K3.isRow _ m32 (by omega), k32]
      have f42 : rowFr (World.setSeg w3 w.heap.size 0 row2.toList) (w.heap.size + 2) = (0, 0) := by rw [K3.rowFr _ m32 (by omega), h32]
      obtain ⟨r50, i50, l50⟩ := carryRow b45 r40 i40
      obtain ⟨r52, i52, l52⟩ := carryRow b45 r42 i42
      have f50 := carryFr b45 (isRow_lt i40) f40
      have f52 := carryFr b45 (isRow_lt i42) f42
      have c50 : w5.cell? ⟨w.heap.size, 0, none⟩ = some (.slice pk2 kr.length ck2) := by rw [cell_row, r50, HR2.out]; rfl
      have fz5 : w5.frozen? ⟨w.heap.size, 0, none⟩ = false := frozen_row _ _ _ f50
      have hend := fill15_end (vk' := .slice p5 (putL x false kr).length c5) HR2.out Q3.out (by omega) rfl ho5
      have HE := Lib.hid hend
      have B5 := Lib.hid (bel_trans B4 b45)
      have hset : row2.setIfInBounds 0 (.slice p5 (putL x false kr).length c5) = pcRow (.slice p5 (putL x false kr).length c5) (.slice pa2 (ts.eraseIdx k).length ca2) := by rw [HR2.out, pcRow_set0]
      have z5 := b45.size
      clear hend b45 r40 i40 f40 r42 i42 f42 hc4 K3 Q24 X4 B4 ho5 u30 k30 m30 u31 k31 m31 u32 k32 m32 h30 h32
      generalize (putL x false kr).length = n5 at *
      generalize (ts.eraseIdx k).length = n6 at *
      go_wp2
      go_region
      all_goals
        go_wp2
        have hw9 : rowOf (World.setSeg (w5.setCell ⟨w.heap.size, 0, none⟩ (.slice p5 n5 c5)) (w.heap.size + 1 + 1) 0 (pcRow (.slice p5 n5 c5) (.slice pa2 n6 ca2)).toList) (w.heap.size + 1 + 1) = pcRow (.slice p5 n5 c5) (.slice pa2 n6 ca2) := by
          rw [rowOf_setSeg_same, rowOf_setCell_other _ _ _ _ (show w.heap.size + 1 + 1 ≠ w.heap.size by omega), r52, putSeg_all _ _ (by simp)]
        refine bodyPost_ret (v := .tuple #[.bool true, .agg (pcRow (.slice p5 n5 c5) (.slice pa2 n6 ca2))]) (by simp [results, Try.results31, go_sem, hw9]) rfl ?_
        have Bc := bel_setCell B5.out ⟨w.heap.size, 0, none⟩ (.slice p5 n5 c5) (Nat.le_refl _)
        refine pc_end (c := w.heap.size + 2) _ Bc HE.out (fun b hb => ⟨by omega, ?_⟩) ?_ (by omega)
        · rcases hb with hb | hb
          · exact .inl hb.1
          · exact .inr ⟨by omega, by simp; omega⟩
        · repeat (first | exact Kept.refl _ _ | apply Kept.drew | apply Kept.alloc | (refine Kept.setSeg ?_ _ _ _ (.inl rfl)))
end Go.Proofs.Ytadafohgglnneaa
