/- The document's cache as data: what is known, what is being fetched; its place of an address. No condition. -/
import Derived.Test.YtadafohgglnneaaX15
namespace Go.Proofs.Ytadafohgglnneaa
open Go.RowKit
theorem RowsAt.form {α : Type} {S : Nat → Prop} {E : World → Array Value → α → Prop} {w : World} {v : Value} {ys : List α} (h : RowsAt S E w v ys) : ∃ p c, v = .slice p ys.length c := by
  obtain ⟨rs, h1, _⟩ := h; exact h1.form
theorem RowsAt.le {α : Type} {S : Nat → Prop} {E : World → Array Value → α → Prop} {w : World} {p : Option Addr} {n c : Nat} {ys : List α} (h : RowsAt S E w (.slice p n c) ys) : n ≤ c ∧ c ≤ maxLen := by
  obtain ⟨rs, h1, _⟩ := h
  rcases h1 with ⟨e, _⟩ | ⟨a, c', e, h2, h3, _⟩
  · cases e; exact ⟨Nat.le_refl _, by decide⟩
  · cases e; exact ⟨h2, h3⟩
/-- With an element there is a place; each element has its row. -/
theorem RowsAt.pos {α : Type} {S : Nat → Prop} {E : World → Array Value → α → Prop} {w : World} {v : Value} {ys : List α} (h : RowsAt S E w v ys) (size : Nat) (hE : ∀ r y, E w r y → r.size = size) (hp : 0 < size) (hn : 0 < ys.length) :
    ∃ b o c rs, v = .slice (some ⟨b, o, none⟩) ys.length c ∧ ys.length ≤ c ∧ c ≤ maxLen ∧ S b ∧ b < w.heap.size ∧ o + ys.length * size ≤ (rowOf w b).size ∧
      ∀ k (hk : k < ys.length), (rowOf w b).extract (o + k * size) (o + k * size + size) = rowAt rs k ∧ E w (rowAt rs k) ys[k] := by
  obtain ⟨rs, h1, h2⟩ := h
  have hl := h2.length
  have hz := All2.rows hE h2
  have hj : (joinR rs).size = ys.length * size := by rw [joinR_size size rs hz, hl]
  obtain ⟨b, o, c, rfl, e1, e2, e3, e4, e5, e6⟩ := h1.pos (by rw [hj]; exact Nat.mul_pos hn hp)
  refine ⟨b, o, c, rs, rfl, e1, e2, e3, e4, by omega, fun k hk => ?_⟩
  have hk' : k < rs.length := by omega
  have er : rowAt rs k = rs[k] := by simp [rowAt, hk']
  rw [er]
  refine ⟨seg_part e5 e6 ?_ (joinR_part size rs k hk' hz), h2.get k hk' hk⟩
  rw [hj]
  have := Nat.mul_le_mul_right size (show k + 1 ≤ ys.length from hk)
  rw [Nat.add_mul] at this
  omega
theorem RowsAt.same {α : Type} {S : Nat → Prop} {f : α → Array Value} {w w' : World} {v : Value} {ys : List α} (h : RowsAt S (fun _ r y => r = f y) w v ys) (hs : ∀ b, b < w.heap.size → S b → w'.heap[b]? = w.heap[b]?) : RowsAt S (fun _ r y => r = f y) w' v ys :=
  let ⟨rs, h1, h2⟩ := h
  ⟨rs, h1.same hs, h2⟩
theorem RowsAt.below {α : Type} {S : Nat → Prop} {f : α → Array Value} {w w' : World} {v : Value} {ys : List α} (h : RowsAt S (fun _ r y => r = f y) w v ys) (hb : Below w.heap.size w w') : RowsAt S (fun _ r y => r = f y) w' v ys := h.same fun b hb' _ => hb.block b hb'
theorem RowsAt.mono {α : Type} {S T : Nat → Prop} {f : α → Array Value} {w : World} {v : Value} {ys : List α} (h : RowsAt S (fun _ r y => r = f y) w v ys) (hs : ∀ b, S b → T b) : RowsAt T (fun _ r y => r = f y) w v ys :=
  let ⟨rs, h1, h2⟩ := h
  ⟨rs, h1.mono hs, h2⟩
theorem RowsAt.bound {α : Type} {S : Nat → Prop} {f : α → Array Value} {w : World} {v : Value} {ys : List α} (h : RowsAt S (fun _ r y => r = f y) w v ys) : RowsAt (fun b => S b ∧ b < w.heap.size) (fun _ r y => r = f y) w v ys :=
  let ⟨rs, h1, h2⟩ := h
  ⟨rs, h1.bound, h2⟩
theorem RowsAt.nil {α : Type} (S : Nat → Prop) (E : World → Array Value → α → Prop) (w : World) : RowsAt S E w (.slice none 0 0) [] := ⟨[], SlIn.nil _ _ _ rfl, trivial⟩
/-- A try, as cells. -/
def tryCells (x : Adr × Nat) : Array Value := x.1.cells ++ #[.int .i64 (x.2 : Int)]
@[go_sem, simp] theorem tryCells_size (x : Adr × Nat) : (tryCells x).size = 21 := by simp [tryCells]
@[go_sem] theorem tryCells_one (x : Adr × Nat) : ones (tryCells x) = true := by simp only [tryCells, ones_append, Adr.cells_one, Bool.true_and]; rfl
@[go_sem, simp] theorem tryCells_whole (x : Adr × Nat) : (tryCells x).extract 0 21 = tryCells x := by
  have := tryCells_size x; rw [← this]; simp
@[go_sem, simp] theorem tryCells_adr (x : Adr × Nat) : (tryCells x).extract 0 20 = x.1.cells := extract_append_left' _ _ _ x.1.cells_size
@[go_sem, simp] theorem tryCells_n (x : Adr × Nat) : (tryCells x)[20]? = some (.int .i64 (x.2 : Int)) := by
  unfold tryCells; rw [Array.getElem?_append_right (by simp)]; simp
theorem tryCells_setn (x : Adr × Nat) (n : Nat) : (tryCells x).setIfInBounds 20 (.int .i64 (n : Int)) = tryCells (x.1, n) := by
  unfold tryCells
  rw [Array.setIfInBounds_append_right (by simp)]; simp
def TrysAt (S : Nat → Prop) (w : World) (v : Value) (ts : List (Adr × Nat)) : Prop := RowsAt S (fun _ r y => r = tryCells y) w v ts
theorem elt87 : Elt 87 21 32 := Elt.mk' (z := .agg (tryCells (zeroAdr, 0))) (by kernel_rfl) (by simp [Value.cells]) (by decide)
/-- A cache's cells. -/
def pcRow (vk va : Value) : Array Value := #[vk] ++ #[va]
@[go_sem, simp] theorem pcRow_size (vk va : Value) : (pcRow vk va).size = 2 := by simp [pcRow]
@[go_sem] theorem pcRow_ones (vk va : Value) : ones (pcRow vk va) = (vk.oneCell' && va.oneCell') := by rw [pcRow, ones_append]; simp [ones]
@[go_sem, simp] theorem pcRow_whole (vk va : Value) : (pcRow vk va).extract 0 2 = pcRow vk va := rfl
@[go_sem] theorem pcRow_get0 (vk va : Value) : (pcRow vk va)[0]? = some vk := rfl
@[go_sem] theorem pcRow_get1 (vk va : Value) : (pcRow vk va)[1]? = some va := rfl
@[go_sem] theorem pcRow_at0 (vk va : Value) (h : 0 < (pcRow vk va).size) : (pcRow vk va)[0] = vk := by simp [pcRow]
@[go_sem] theorem pcRow_at1 (vk va : Value) (h : 1 < (pcRow vk va).size) : (pcRow vk va)[1] = va := by simp [pcRow]
@[go_sem] theorem pcRow_set0 (vk va u : Value) : (pcRow vk va).setIfInBounds 0 u = pcRow u va := by
  simp [pcRow]
@[go_sem] theorem pcRow_set1 (vk va u : Value) : (pcRow vk va).setIfInBounds 1 u = pcRow vk u := by
  simp [pcRow]
def zeroPc : Array Value := pcRow (.slice none 0 0) (.slice none 0 0)
@[go_sem ↓ high] theorem zero51 (w : World) : (zeroValue 51).run Try.prog w = .ok (.agg (pcRow (.slice none 0 0) (.slice none 0 0))) w := by rw [Try.zeroValue51]; rfl
@[go_sem ↓ high] theorem build51 (w : World) : (Instr.build 51 #[]).run Try.prog w = .ok (.agg (pcRow (.slice none 0 0) (.slice none 0 0))) w := by kernel_rfl
/-- A row of two cells is the document's cache. -/
def PcIn (S : Nat → Prop) (w : World) (row : Array Value) (kr : List Acc) (ts : List (Adr × Nat)) : Prop := ∃ vk va, row = pcRow vk va ∧ AccsAt S w vk kr ∧ TrysAt S w va ts
theorem PcIn.same {S : Nat → Prop} {w w' : World} {row : Array Value} {kr : List Acc} {ts : List (Adr × Nat)} (h : PcIn S w row kr ts) (hs : ∀ b, b < w.heap.size → S b → w'.heap[b]? = w.heap[b]?) : PcIn S w' row kr ts :=
  let ⟨vk, va, h1, h2, h3⟩ := h
  ⟨vk, va, h1, h2.same hs, h3.same hs⟩
theorem PcIn.below {S : Nat → Prop} {w w' : World} {row : Array Value} {kr : List Acc} {ts : List (Adr × Nat)} (h : PcIn S w row kr ts) (hb : Below w.heap.size w w') : PcIn S w' row kr ts := h.same fun b hb' _ => hb.block b hb'
theorem PcIn.kept {S M : Nat → Prop} {w w' : World} {row : Array Value} {kr : List Acc} {ts : List (Adr × Nat)} (h : PcIn S w row kr ts) (hk : Kept M w w') (hs : ∀ b, S b → ¬ M b) : PcIn S w' row kr ts := h.same fun b hb hS => hk.block b hb (hs b hS)
theorem PcIn.bound {S : Nat → Prop} {w : World} {row : Array Value} {kr : List Acc} {ts : List (Adr × Nat)} (h : PcIn S w row kr ts) : PcIn (fun b => S b ∧ b < w.heap.size) w row kr ts :=
  let ⟨vk, va, h1, h2, h3⟩ := h
  ⟨vk, va, h1, h2.bound, h3.bound⟩
theorem PcIn.mono {S T : Nat → Prop} {w : World} {row : Array Value} {kr : List Acc} {ts : List (Adr × Nat)} (h : PcIn S w row kr ts) (hs : ∀ b, S b → T b) : PcIn T w row kr ts :=
  let ⟨vk, va, h1, h2, h3⟩ := h
  ⟨vk, va, h1, h2.mono hs, h3.mono hs⟩
theorem PcIn.forms {S : Nat → Prop} {w : World} {row : Array Value} {kr : List Acc} {ts : List (Adr × Nat)} (h : PcIn S w row kr ts) :
    ∃ pk ck pa ca, row = pcRow (.slice pk kr.length ck) (.slice pa ts.length ca) ∧ AccsAt S w (.slice pk kr.length ck) kr ∧ TrysAt S w (.slice pa ts.length ca) ts := by
  obtain ⟨vk, va, rfl, h2, h3⟩ := h
  obtain ⟨pk, ck, rfl⟩ := h2.form
  obtain ⟨pa, ca, rfl⟩ := RowsAt.form h3
  exact ⟨pk, ck, pa, ca, rfl, h2, h3⟩
theorem PcIn.one {S : Nat → Prop} {w : World} {row : Array Value} {kr : List Acc} {ts : List (Adr × Nat)} (h : PcIn S w row kr ts) : row.size = 2 ∧ ones row = true ∧ row.extract 0 2 = row := by
  obtain ⟨pk, ck, pa, ca, rfl, -⟩ := h.forms
  exact ⟨by simp, by rw [pcRow_ones]; rfl, by simp⟩
/-- The place of an address; -1. -/
def atI (ts : List (Adr × Nat)) (a : Adr) : Int := match ts.findIdx? (fun x => decide (x.1 = a)) with
  | some k => (k : Int)
  | none => -1
theorem atI_some {ts : List (Adr × Nat)} {a : Adr} {k : Nat} (hk : k < ts.length) (h0 : ∀ j (hj : j < k), (ts[j]'(by omega)).1 ≠ a) (h : ts[k].1 = a) : atI ts a = k := by
  have : ts.findIdx? (fun x => decide (x.1 = a)) = some k := by
    rw [List.findIdx?_eq_some_iff_getElem]
    exact ⟨hk, by simp [h], fun j hj => by simp [h0 j hj]⟩
  simp [atI, this]
theorem atI_none {ts : List (Adr × Nat)} {a : Adr} (h : ∀ j (hj : j < ts.length), ts[j].1 ≠ a) : atI ts a = -1 := by
  have : ts.findIdx? (fun x => decide (x.1 = a)) = none := by
    rw [List.findIdx?_eq_none_iff]
    intro x hx
    obtain ⟨j, hj, rfl⟩ := List.getElem_of_mem hx
    simp [h j hj]
  simp [atI, this]
theorem atI_cases (ts : List (Adr × Nat)) (a : Adr) : (atI ts a = -1 ∧ findT a ts = none) ∨ ∃ (k : Nat) (hk : k < ts.length), atI ts a = k ∧ ts[k].1 = a ∧ findT a ts = some ts[k].2 ∧ ∀ j (hj : j < k), (ts[j]'(by omega)).1 ≠ a := by
  cases h : ts.findIdx? (fun x => decide (x.1 = a)) with
  | none =>
    refine .inl ⟨by simp [atI, h], ?_⟩
    rw [List.findIdx?_eq_none_iff] at h
    simp only [findT, Option.map_eq_none_iff, List.find?_eq_none]
    intro x hx; simp [h x hx]
  | some k =>
    rw [List.findIdx?_eq_some_iff_getElem] at h
    obtain ⟨hk, h1, h2⟩ := h
    have h1' : ts[k].1 = a := by simpa using h1
    have h2' : ∀ j (hj : j < k), (ts[j]'(by omega)).1 ≠ a := fun j hj => by simpa using h2 j hj
    refine .inr ⟨k, hk, atI_some hk h2' h1', h1', ?_, h2'⟩
    have hf : ts.find? (fun x => decide (x.1 = a)) = some ts[k] := by
      rw [List.find?_eq_some_iff_getElem]
      exact ⟨by simpa using h1', k, hk, rfl, fun j hj => by simpa using h2' j hj⟩
    simp [findT, hf]
set_option maxRecDepth 100000 in
set_option maxHeartbeats 1000000 in
theorem ref15_At {S : Nat → Prop} (w : World) (row : Array Value) (kr : List Acc) (ts : List (Adr × Nat)) (a : Adr) (h : PcIn S w row kr ts) :
    Calls Try.prog 47 #[.agg row, .agg a.cells] w fun e w' => e = .returned (.int .i64 (atI ts a)) ∧ Below w.heap.size w w' := by
  obtain ⟨pk, ck, pa, ca, rfl, -, h3⟩ := h.forms
  have hle := RowsAt.le h3
  unfold maxLen at hle
  have H3 := Lib.hid h3
  clear h h3
  generalize hR : atI ts a = R
  have HR := Lib.hid hR; clear hR
  have BW := Lib.hid (show Below w.heap.size w ((w.alloc (.cells (pcRow (.slice pk kr.length ck) (.slice pa ts.length ca)) 51)).alloc (.cells a.cells 23)) from bel_alloc (bel_alloc (Below.refl _ _) _) _)
  go_enter Try.func47, Try.ntmps47
  go_wp2
  generalize hW0 : (w.alloc (.cells (pcRow (.slice pk kr.length ck) (.slice pa ts.length ca)) 51)).alloc (.cells a.cells 23) = W0 at *
  have r0 : rowOf W0 w.heap.size = pcRow (.slice pk kr.length ck) (.slice pa ts.length ca) := by rw [← hW0]; simp [go_sem]
  have i0 : isRow W0 w.heap.size = true := by rw [← hW0]; simp [go_sem]
  have r1 : rowOf W0 (w.heap.size + 1) = a.cells := by rw [← hW0]; simp [go_sem]
  have i1 : isRow W0 (w.heap.size + 1) = true := by rw [← hW0]; simp [go_sem]
  clear hW0
  go_loopw [9] (fun vi wr => ∃ k : Nat, k ≤ ts.length ∧ vi = .int .i64 k ∧ Hid (∀ j (hj : j < ts.length), j < k → ts[j].1 ≠ a) ∧ Below W0.heap.size W0 wr) (fun vi _ => ts.length - (intOf vi).toNat)
  case atStart => exact ⟨0, Nat.zero_le _, rfl, Lib.hid (fun j hj h => by omega), Below.refl _ _⟩
  case round =>
    obtain ⟨k, hk, rfl, hno, hbel⟩ := hrel
    obtain ⟨y0, j0, l0⟩ := carryRow hbel r0 i0
    obtain ⟨y1, j1, l1⟩ := carryRow hbel r1 i1
    have c1 : wr.cell? ⟨w.heap.size, 1, none⟩ = some (.slice pa ts.length ca) := by rw [cell_row, y0]; rfl
    by_cases hlt : k < ts.length
    · obtain ⟨b, o, cc, rs, hv', q1, q2, -, hbb, hsz, hall⟩ := RowsAt.pos (RowsAt.below H3.out (bel_trans BW.out hbel)) 21 (fun r y h => by rw [h]; simp) (by decide) (by omega)
      cases hv'
      obtain ⟨hrow, hacc⟩ := hall k hlt
      rw [hacc] at hrow
      clear hall hacc
      have hs1 : o + k * 21 + 20 ≤ (rowOf wr b).size := by omega
      have hki : (k : Int) < (ts.length : Int) := by omega
      have hki0 : (0 : Int) ≤ (k : Int) := by omega
      generalize hx : ts[k] = x at *
      have hp20 : (rowOf wr b).extract (o + k * 21) (o + k * 21 + 20) = x.1.cells := by
        rw [← tryCells_adr x, ← hrow, Array.extract_extract]; congr 1; omega
      have Hx := Lib.hid hx
      clear hx hrow
      by_cases he : x.1 = a
      · have hd : decide (x.1 = a) = true := by simp [he]
        have hR : R = k := by rw [← HR.out]; exact atI_some hlt (fun j hj => hno.out j (by omega) hj) (by rw [Hx.out]; exact he)
        subst hR
        clear HR
        go_wp2
        refine wp_region_quiet_below (by kernel_rfl) (by kernel_rfl) ?_
        repeat (go_big_quiet_step (fail))
        refine wpQuiet_nil ?_
        rintro w1 ⟨q, rfl⟩
        have bw := below_regrown wr q.d q.os
        generalize Sort.grow (redrawn wr q.d) q.os = W1 at *
        go_wp2
        go_ret
        exact ⟨rfl, bel_trans (bel_trans BW.out hbel) bw⟩
      · have hd : decide (x.1 = a) = false := by simp [he]
        go_wp2
        refine wp_region_quiet_below (by kernel_rfl) (by kernel_rfl) ?_
        repeat (go_big_quiet_step (fail))
        refine wpQuiet_nil ?_
        rintro w1 ⟨q, rfl⟩
        have bw := below_regrown wr q.d q.os
        generalize Sort.grow (redrawn wr q.d) q.os = W1 at *
        go_wp2
        go_roundw
        case rel => exact ⟨k + 1, by omega, by go_num, Lib.hid (fun j hj h => by
          by_cases hjk : j = k
          · subst hjk; rw [Hx.out]; exact he
          · exact hno.out j hj (by omega)), bel_trans hbel bw⟩
        case measure => simp [intOf]; omega
    · obtain rfl : k = ts.length := by omega
      have hR : R = -1 := by rw [← HR.out]; exact atI_none (fun j hj => hno.out j hj hj)
      subst hR
      have hki : ¬ ((ts.length : Int) < (ts.length : Int)) := by omega
      go_wp2
      go_ret
      exact ⟨rfl, bel_trans BW.out hbel⟩
end Go.Proofs.Ytadafohgglnneaa
