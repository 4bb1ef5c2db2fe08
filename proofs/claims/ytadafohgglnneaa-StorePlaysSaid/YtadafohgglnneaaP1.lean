/- The store's Parent; the document's Some and Slot. No condition. -/
import Derived.Test.YtadafohgglnneaaS1
import Derived.Test.YtadafohgglnneaaX11
import Derived.Test.YtadafohgglnneaaX15
import Derived.Test.YtadafohgglnneaaX5
import Derived.Lib.QuietBelow
import Derived.Test.YtadafohgglnneaaS2
import Derived.Test.YtadafohgglnneaaS9
import Derived.Test.YtadafohgglnneaaS10
import Derived.Test.YtadafohgglnneaaX8
import Derived.Test.YtadafohgglnneaaN1
import Derived.Test.YtadafohgglnneaaF9
import Derived.Test.YtadafohgglnneaaN2
import Derived.Deep.MidRow
namespace Go.Proofs.Ytadafohgglnneaa
open Go.RowKit
set_option maxRecDepth 100000 in
set_option maxHeartbeats 1000000 in
theorem store_Parent_no {S : Nat → Prop} {w : World} {s g c : Nat} {nds : List Nd} (h : StoreAt S w s g c nds) (v : Int) (hv : hasV nds v = false ∨ v = 0) :
    Calls Try.prog 53 #[.pointer (some ⟨s, 0, none⟩), .int .i64 v] w fun e w' => e = .returned (.tuple #[.int .i64 0, .bool false]) ∧ w' = w := by
  by_cases hv1 : hasV nds v = true
  · obtain rfl : v = 0 := by
      rcases hv with hv | hv
      · rw [hv] at hv1; cases hv1
      · exact hv
    go_enter Try.func53, Try.ntmps53
    go_wp2_with fail
    refine (store_has h 0).mono ?_
    rintro e w1 ⟨rfl, rfl⟩
    rw [hv1]
    go_wp2
    refine bodyPost_ret (v := .tuple #[.int .i64 0, .bool false]) (by simp [results, Try.results53, go_sem]) rfl ⟨rfl, rfl⟩
  · have hv2 : hasV nds v = false := by simpa using hv1
    clear hv hv1
    go_enter Try.func53, Try.ntmps53
    go_wp2_with fail
    refine (store_has h v).mono ?_
    rintro e w1 ⟨rfl, rfl⟩
    rw [hv2]
    go_wp2
    refine bodyPost_ret (v := .tuple #[.int .i64 0, .bool false]) (by simp [results, Try.results53, go_sem]) rfl ⟨rfl, rfl⟩
set_option maxRecDepth 100000 in
set_option maxHeartbeats 1000000 in
theorem store_Parent_at {S : Nat → Prop} {w : World} {s g c : Nat} {nds : List Nd} (h : StoreAt S w s g c nds) (i : Nat) (hi : i < nds.length) (h0 : 0 < i) :
    Calls Try.prog 53 #[.pointer (some ⟨s, 0, none⟩), .int .i64 i] w fun e w' => e = .returned (.tuple #[.int .i64 nds[i].par, .bool true]) ∧ w' = w := by
  have hv : hasV nds i = true := by simp [hasV]; omega
  have hc := h.cell
  obtain ⟨n1, n2⟩ := h.node i hi
  have hcap := h.cap
  have hne : ((i : Int) == 0) = false := by simp; omega
  have hi0 : (0 : Int) ≤ (i : Int) := by omega
  have hi1 : (i : Int) < (nds.length : Int) := by omega
  unfold maxLen at hcap
  have H := Lib.hid h
  clear h
  generalize nds[i].par = p at *
  go_enter Try.func53, Try.ntmps53
  go_wp2_with fail
  refine (store_has H.out i).mono ?_
  rintro e w1 ⟨rfl, rfl⟩
  rw [hv]
  go_wp2
  refine bodyPost_ret (v := .tuple #[.int .i64 p, .bool true]) (by simp [results, Try.results53, go_sem]) rfl ⟨rfl, rfl⟩
/-- Those that aren't empty. -/
def someOf (xs : List Acc) : List Acc := xs.filter fun x => !emptyAt x
set_option maxRecDepth 100000 in
set_option maxHeartbeats 2000000 in
theorem ref13_Some {T : Nat → Prop} (w : World) (v : Value) (xs : List Acc) (hx : AccsAt T w v xs) (hT : ∀ b, T b → b < w.heap.size) (hn : xs.length ≤ 1000000) :
    Calls Try.prog 56 #[v] w (Row13 T w (someOf xs)) := by
  obtain ⟨p, n, rfl⟩ := hx.form
  have hxl := hx.le
  unfold maxLen at hxl
  have hX := Lib.hid hx
  have HST := Lib.hid (Stab.acc hT)
  clear hx
  go_enter Try.func56, Try.ntmps56
  go_wp2
  go_loopw [3, 8] (fun vo vi wr => ∃ (k : Nat) (q : Option Addr) (c : Nat), k ≤ xs.length ∧ vi = .int .i64 k ∧ vo = .slice q (someOf (xs.take k)).length c ∧ Hid (RowOut 30 27 (AccIn T) w wr vo (someOf (xs.take k)))) (fun _ vi _ => xs.length - (intOf vi).toNat)
  case atStart => exact ⟨0, some ⟨w.heap.size, 0, none⟩, 0, Nat.zero_le _, rfl, by simp [someOf], Lib.hid (by simpa [someOf] using RowOut.made' (Below.refl w.heap.size w) (Nat.le_refl _))⟩
  case round =>
    obtain ⟨k, q, c, hk, rfl, rfl, hout⟩ := hrel
    have hbel := hout.out.bel
    by_cases hlt : k < xs.length
    · obtain ⟨b, o, cc, rs0, hv', q1, q2, -, hb0, hsz, hall⟩ := (hX.out.below hbel).pos (by omega)
      cases hv'
      obtain ⟨hrow, hacc⟩ := hall k hlt
      have hs1 : o + k * 27 + 27 ≤ (rowOf wr b).size := by omega
      have hki : (k : Int) < (xs.length : Int) := by omega
      have hki0 : (0 : Int) ≤ (k : Int) := by omega
      have hx : accAt xs k = xs[k] := by simp [accAt, hlt]
      have htk : xs.take (k + 1) = xs.take k ++ [xs[k]] := List.take_succ_eq_append_getElem hlt
      have hsl : (someOf (xs.take k)).length ≤ k := by
        have := List.length_filter_le (fun x => !emptyAt x) (xs.take k)
        simp at this
        unfold someOf
        omega
      rw [hx] at hacc
      have hso : someOf (xs.take (k + 1)) = if emptyAt xs[k] then someOf (xs.take k) else someOf (xs.take k) ++ [xs[k]] := by
        rw [htk]
        unfold someOf
        rw [List.filter_append]
        cases h : emptyAt xs[k] <;> simp [h]
      have Hso := Lib.hid hso
      clear hso htk hx hall
      generalize xs[k] = x at *
      generalize rowAt rs0 k = r at *
      have hrz := hacc.size
      have hr1 := hacc.one
      have HA := Lib.hid hacc
      clear hacc
      go_wp2_with fail
      refine (ref13_Empty _ r x HA.out).mono ?_
      rintro e w3 ⟨rfl, hb3⟩
      have y3 : rowOf w3 b = rowOf wr b := bel_row hb3 _ hb0
      have hrow3 : (rowOf w3 b).extract (o + k * 27) (o + k * 27 + 27) = r := by rw [y3]; exact hrow
      have hs3 : o + k * 27 + 27 ≤ (rowOf w3 b).size := by rw [y3]; exact hs1
      have HA3 := Lib.hid ((HA.out.below hb3).below (bel_alloc (Below.refl w3.heap.size w3) (.cells r 30)))
      have HO3 := Lib.hid (hout.out.below HST.out hb3)
      have HO4 := Lib.hid (HO3.out.below HST.out (bel_alloc (Below.refl w3.heap.size w3) (.cells r 30)))
      clear hb3 y3
      cases hE : emptyAt x with
      | true =>
        rw [hE] at Hso
        have HO5 := Lib.hid (show RowOut 30 27 (AccIn T) w w3 (.slice q (someOf (xs.take k)).length c) (someOf (xs.take (k + 1))) by
          have := Hso.out
          simp only [if_true] at this
          rw [this]; exact HO3.out)
        have hlen := Lib.hid (show (someOf (xs.take k)).length = (someOf (xs.take (k + 1))).length by
          have := Hso.out
          simp only [if_true] at this
          rw [this])
        go_wp2
        go_roundw
        case rel => exact ⟨k + 1, q, c, by omega, by go_num, by rw [hlen.out], HO5⟩
        case measure => simp [intOf]; omega
      | false =>
        rw [hE] at Hso
        have hlen := Lib.hid (show (someOf (xs.take k)).length + 1 = (someOf (xs.take (k + 1))).length by
          have := Hso.out
          simp only [Bool.false_eq_true, if_false] at this
          rw [this]; simp)
        go_wp2_with (first
          | (at_builtin; refine wpList_append_out rfl (.tmp 17) (.tmp 22) 32 rfl elt30 Try.underlying32 HST.out HO4.out (by simp [Act.eval]) w3.heap.size r x (by simp [Act.eval]) (by simp [go_sem]) hrz hr1 HA3.out (by omega) (by unfold maxLen; omega) ?_; intro g5 c5 w5 ho5 hk5 hg5)
          | fail)
        have HO5 := Lib.hid (show RowOut 30 27 (AccIn T) w w5 (.slice (some ⟨g5, 0, none⟩) ((someOf (xs.take k)).length + 1) c5) (someOf (xs.take (k + 1))) by
          have := Hso.out
          simp only [Bool.false_eq_true, if_false] at this
          rw [this]; exact ho5)
        refine ⟨⟨k + 1, some ⟨g5, 0, none⟩, c5, by omega, by go_num, by rw [hlen.out], HO5⟩, ?_⟩
        simp [intOf]; omega
    · obtain rfl : k = xs.length := by omega
      have hki : ¬ ((xs.length : Int) < (xs.length : Int)) := by omega
      have hO := hout.out
      rw [List.take_length] at hO
      have HO := Lib.hid hO
      clear hO
      rw [List.take_length]
      go_wp2
      go_ret
      exact ⟨_, rfl, HO.out⟩
/-- What an account has stored. -/
def slotOf (l : List Slt) (key : Wrd) : Wrd := match l.find? (fun s => decide (s.k = key)) with
  | some s => s.v
  | none => zeroWrd
theorem slotOf_none {l : List Slt} {key : Wrd} (h : ∀ j, j < l.length → (sltAt l j).k ≠ key) : slotOf l key = zeroWrd := by
  have : l.find? (fun s => decide (s.k = key)) = none := by
    rw [List.find?_eq_none]
    intro x hx
    obtain ⟨k, hk, rfl⟩ := List.getElem_of_mem hx
    have := h k hk
    simpa [sltAt, hk] using this
  simp [slotOf, this]
theorem slotOf_at {l : List Slt} {key : Wrd} {k : Nat} (hk : k < l.length) (h0 : ∀ j, j < k → (sltAt l j).k ≠ key) (h : (sltAt l k).k = key) : slotOf l key = (sltAt l k).v := by
  have e : l = l.take k ++ (l[k] :: l.drop (k + 1)) := by
    rw [← List.drop_eq_getElem_cons hk, List.take_append_drop]
  have ea : sltAt l k = l[k] := by simp [sltAt, hk]
  rw [ea] at h ⊢
  have hn : (l.take k).find? (fun s => decide (s.k = key)) = none := by
    rw [List.find?_eq_none]
    intro x hx
    obtain ⟨j, hj, rfl⟩ := List.getElem_of_mem hx
    have hj' : j < k := by simp at hj; omega
    have := h0 j hj'
    have hj2 : j < l.length := by omega
    simp [sltAt, hj2] at this
    simpa using this
  have e2 := congrArg (List.find? (fun s => decide (s.k = key))) e
  have e3 : l.find? (fun s => decide (s.k = key)) = some l[k] := by
    rw [e2, List.find?_append, hn, List.find?_cons]
    simp [h]
  simp only [slotOf, e3]
end Go.Proofs.Ytadafohgglnneaa
/- The document's Slot; the store's Slot with the library's binary search. No condition. -/
namespace Go.Proofs.Ytadafohgglnneaa
open Go.RowKit
theorem slt_parts {row : Array Value} {o k : Nat} {l : List Slt} (hk : k < l.length) (ho : o + (sltRow l).size ≤ row.size) (hrow : row.extract o (o + (sltRow l).size) = sltRow l) :
    o + k * 8 + 8 ≤ row.size ∧ row.extract (o + k * 8) (o + k * 8 + 8) = (sltAt l k).cells ∧ row.extract (o + k * 8) (o + k * 8 + 4) = (sltAt l k).k.cells ∧ row.extract (o + k * 8 + 4) (o + k * 8 + 8) = (sltAt l k).v.cells := by
  have hsz := sltRow_size l
  have hs1 : o + k * 8 + 8 ≤ row.size := by omega
  have hp : row.extract (o + k * 8) (o + k * 8 + 8) = (sltAt l k).cells := seg_part ho hrow (by omega) (sltRow_part l k hk)
  refine ⟨hs1, hp, ?_, ?_⟩
  · have := seg_part (row := row) (cs := (sltAt l k).cells) (o := o + k * 8) (i := 0) (n := 4) (d := (sltAt l k).k.cells) (by simp; omega) (by simpa using hp) (by simp) (by simp)
    simpa using this
  · have := seg_part (row := row) (cs := (sltAt l k).cells) (o := o + k * 8) (i := 4) (n := 4) (d := (sltAt l k).v.cells) (by simp; omega) (by simpa using hp) (by simp) (by simp)
    simpa using this
set_option maxRecDepth 100000 in
set_option maxHeartbeats 2000000 in
theorem ref13_Slot {S : Nat → Prop} (w : World) (row : Array Value) (x : Acc) (hx : AccIn S w row x) (key : Wrd) :
    Calls Try.prog 55 #[.agg row, .agg key.cells] w fun e w' => e = .returned (.agg (slotOf x.stor key).cells) ∧ Below w.heap.size w w' := by
  obtain ⟨c, s, rfl, hc, hs⟩ := hx
  obtain ⟨adr, nonce, bal, code, l⟩ := x
  simp only at hs hc ⊢
  obtain ⟨pc, kc, rfl⟩ := hc.form
  obtain ⟨ps, ks, rfl⟩ := hs.form
  have Hs := Lib.hid hs
  clear hs hc
  generalize hRR : slotOf l key = R
  have HR := Lib.hid hRR
  clear hRR
  have B0 := Lib.hid (show Below w.heap.size w (((w.alloc (.cells (accRow adr nonce bal (.slice pc code.length kc) (.slice ps l.length ks)) 30)).alloc (.cells key.cells 26)).alloc (.cells zeroWrd.cells 26)) from bel_alloc (bel_alloc (bel_alloc (Below.refl _ _) _) _) _)
  go_enter Try.func55, Try.ntmps55
  go_wp2
  go_loopw [9] (fun i wr => ∃ k : Nat, k ≤ l.length ∧ i = .int .i64 k ∧ Hid (∀ j, j < k → (sltAt l j).k ≠ key) ∧ Hid (Below w.heap.size w wr) ∧ rowOf wr w.heap.size = accRow adr nonce bal (.slice pc code.length kc) (.slice ps l.length ks) ∧ isRow wr w.heap.size = true ∧
      rowOf wr (w.heap.size + 1) = key.cells ∧ isRow wr (w.heap.size + 1) = true ∧ rowOf wr (w.heap.size + 2) = zeroWrd.cells ∧ isRow wr (w.heap.size + 2) = true ∧ rowFr wr (w.heap.size + 2) = (0, 0)) (fun i _ => l.length - (intOf i).toNat)
  case atStart => exact ⟨0, Nat.zero_le _, rfl, Lib.hid (fun j h => by omega), B0, by simp [go_sem], by simp [go_sem], by simp [go_sem], by simp [go_sem], by simp [go_sem], by simp [go_sem], by simp [go_sem]⟩
  case round =>
    obtain ⟨k, hk, rfl, hno, hbel, r0, i0, r1, i1, r2, i2, f2⟩ := hrel
    have g0 := isRow_lt i0
    have g1 := isRow_lt i1
    have g2 := isRow_lt i2
    have c26 : wr.cell? ⟨w.heap.size, 26, none⟩ = some (.slice ps l.length ks) := by rw [cell_row, r0, accRow_stor]
    by_cases hlt : k < l.length
    · obtain ⟨b, o, cc, hv', hn1, hn2, -, hb, ho, hrow⟩ := (Hs.out.below hbel.out).pos (by rw [sltRow_size]; omega)
      cases hv'
      obtain ⟨hs1, hp8, hkey, hval⟩ := slt_parts hlt ho hrow
      have hs3 : o + k * 8 + 4 ≤ (rowOf wr b).size := by omega
      unfold maxLen at hn2
      have hki : (k : Int) < (l.length : Int) := by omega
      have hki0 : (0 : Int) ≤ (k : Int) := by omega
      clear ho hrow hp8
      by_cases he : (sltAt l k).k = key
      · have hd : decide ((sltAt l k).k = key) = true := by simpa using he
        have hR := Lib.hid (show R = (sltAt l k).v by rw [← HR.out]; exact slotOf_at hlt hno.out he)
        go_wp2
        refine wp_region_quiet_below (by kernel_rfl) (by kernel_rfl) ?_
        repeat (go_big_quiet_step (fail))
        refine wpQuiet_nil ?_
        rintro w1 ⟨q, rfl⟩
        have bw := below_regrown wr q.d q.os
        generalize Sort.grow (redrawn wr q.d) q.os = W1 at *
        have B1 := bel_trans hbel.out bw
        have y0 : rowOf W1 w.heap.size = accRow adr nonce bal (.slice pc code.length kc) (.slice (some ⟨b, o, none⟩) l.length ks) := by rw [bel_row bw _ g0, r0]
        have j0 : isRow W1 w.heap.size = true := by rw [bel_isRow bw _ g0, i0]
        have y2 : rowOf W1 (w.heap.size + 2) = zeroWrd.cells := by rw [bel_row bw _ g2, r2]
        have j2 : isRow W1 (w.heap.size + 2) = true := by rw [bel_isRow bw _ g2, i2]
        have h2 : rowFr W1 (w.heap.size + 2) = (0, 0) := by rw [bel_rowFr bw _ g2, f2]
        have d26 : W1.cell? ⟨w.heap.size, 26, none⟩ = some (.slice (some ⟨b, o, none⟩) l.length ks) := by rw [cell_row, y0, accRow_stor]
        have yb : rowOf W1 b = rowOf wr b := by rw [bel_row bw _ hb]
        have hs4 : o + k * 8 + 8 ≤ (rowOf W1 b).size := by rw [yb]; exact hs1
        have hval2 : (rowOf W1 b).extract (o + k * 8 + 4) (o + k * 8 + 8) = (sltAt l k).v.cells := by rw [yb]; exact hval
        clear yb bw
        go_wp2
        refine bodyPost_ret (v := .agg (sltAt l k).v.cells) (by simp [results, Try.results55, go_sem, y2]) rfl ⟨by rw [hR.out], bel_setSeg B1 _ _ _ (by omega)⟩
      · have hd : decide ((sltAt l k).k = key) = false := by simpa using he
        go_wp2
        refine wp_region_quiet_below (by kernel_rfl) (by kernel_rfl) ?_
        repeat (go_big_quiet_step (fail))
        refine wpQuiet_nil ?_
        rintro w1 ⟨q, rfl⟩
        have bw := below_regrown wr q.d q.os
        generalize Sort.grow (redrawn wr q.d) q.os = W1 at *
        have B1 := bel_trans hbel.out bw
        have y0 : rowOf W1 w.heap.size = accRow adr nonce bal (.slice pc code.length kc) (.slice (some ⟨b, o, none⟩) l.length ks) := by rw [bel_row bw _ g0, r0]
        have j0 : isRow W1 w.heap.size = true := by rw [bel_isRow bw _ g0, i0]
        have y1 : rowOf W1 (w.heap.size + 1) = key.cells := by rw [bel_row bw _ g1, r1]
        have j1 : isRow W1 (w.heap.size + 1) = true := by rw [bel_isRow bw _ g1, i1]
        have y2 : rowOf W1 (w.heap.size + 2) = zeroWrd.cells := by rw [bel_row bw _ g2, r2]
        have j2 : isRow W1 (w.heap.size + 2) = true := by rw [bel_isRow bw _ g2, i2]
        have h2 : rowFr W1 (w.heap.size + 2) = (0, 0) := by rw [bel_rowFr bw _ g2, f2]
        clear bw
        go_wp2
        go_roundw
        case rel => exact ⟨k + 1, by omega, by go_num, Lib.hid (fun j h => by
          by_cases hj : j = k
          · subst hj; exact he
          · exact hno.out j (by omega)), Lib.hid B1, y0, j0, y1, j1, y2, j2, h2⟩
        case measure => simp [intOf]; omega
    · obtain rfl : k = l.length := by omega
      have hR : R = zeroWrd := by rw [← HR.out]; exact slotOf_none hno.out
      subst hR
      have hki : ¬ ((l.length : Int) < (l.length : Int)) := by omega
      go_wp2
      refine bodyPost_ret (v := .agg zeroWrd.cells) (by simp [results, Try.results55, go_sem, r2]) rfl ⟨rfl, ?_⟩
      exact bel_setSeg hbel.out _ _ _ (by omega)
/-! ### the binary search -/
set_option maxRecDepth 100000 in
set_option maxHeartbeats 1000000 in
theorem Slot_1 (w : World) (s : Slt) (key : Wrd) : Calls Try.prog 85 #[.agg s.cells, .agg key.cells] w fun e w' => e = .returned (.int .i64 (s.k.cmp key)) ∧ Below w.heap.size w w' := by
  go_enter Try.func85, Try.ntmps85
  go_wp2_with fail
  refine (word_Compare s.k key _).mono ?_
  rintro e w1 ⟨rfl, hb⟩
  go_wp2
  go_ret
  exact ⟨rfl, bel_trans (bel_alloc (bel_alloc (Below.refl _ _) _) _) hb⟩
/-- Keys that rise. -/
def RiseK (l : List Slt) : Prop := ∀ i j, i < j → j < l.length → (sltAt l i).k.lt (sltAt l j).k = true
theorem riseK_of {l : List Slt} (h : rightB l = true) : RiseK l := by
  rw [rightB, List.all_eq_true] at h
  have hs : ∀ i, i + 1 < l.length → (sltAt l i).k.lt (sltAt l (i + 1)).k = true := fun i hi => by
    have := h (i + 1) (by simpa using hi)
    simp only [okAt, Bool.and_eq_true, Bool.or_eq_true, decide_eq_true_eq] at this
    rcases this.2 with h2 | h2
    · omega
    · simpa using h2
  intro i j hij hj
  induction j with
  | zero => omega
  | succ j ih =>
    by_cases e : i = j
    · subst e; exact hs i hj
    · exact Wrd.lt_trans (ih (by omega) (by omega)) (hs j hj)
theorem cmp_ltW (x y : Wrd) : decide (x.cmp y < 0) = x.lt y := by
  unfold Wrd.cmp
  by_cases h : x = y
  · subst h; simp [Wrd.lt_irr]
  · rw [if_neg h]; cases x.lt y <;> simp
theorem cmp_eqW (x y : Wrd) : (x.cmp y == 0) = decide (x = y) := by
  unfold Wrd.cmp
  by_cases h : x = y
  · subst h; simp
  · rw [if_neg h]
    have : decide (x = y) = false := by simpa using h
    rw [this]
    cases x.lt y <;> simp
/-- Where the search ends: all ahead are less, none from there on is. -/
def Ends (l : List Slt) (key : Wrd) (i : Nat) : Prop := i ≤ l.length ∧ (∀ t, t < i → (sltAt l t).k.lt key = true) ∧ ∀ t, i ≤ t → t < l.length → (sltAt l t).k.lt key = false
theorem ends_slot {l : List Slt} (hr : RiseK l) {key : Wrd} {i : Nat} (h : Ends l key i) : slotOf l key = if i < l.length ∧ (sltAt l i).k = key then (sltAt l i).v else zeroWrd := by
  obtain ⟨h1, h2, h3⟩ := h
  have hne : ∀ t, t < i → (sltAt l t).k ≠ key := fun t ht e => by
    have := h2 t ht
    rw [e, Wrd.lt_irr] at this; cases this
  by_cases hc : i < l.length ∧ (sltAt l i).k = key
  · rw [if_pos hc]
    exact slotOf_at hc.1 hne hc.2
  · rw [if_neg hc]
    refine slotOf_none fun j hj e => ?_
    by_cases hji : j < i
    · exact hne j hji e
    · by_cases he : j = i
      · subst he; exact hc ⟨hj, e⟩
      · have h4 := hr i j (by omega) hj
        rw [e] at h4
        rw [h3 i (Nat.le_refl _) (by omega)] at h4
        cases h4
end Go.Proofs.Ytadafohgglnneaa
/- The document's Commit: each version whole. No condition. -/
namespace Go.Proofs.Ytadafohgglnneaa
open Go.RowKit
/-- A version of the document. -/
structure Ver where
  par : Int
  xs : List Acc
def VerE (T : Nat → Prop) (w : World) (r : Array Value) (y : Ver) : Prop := ∃ a c, r = opArr y.par a y.xs.length c ∧ AccsAt T w (.slice a y.xs.length c) y.xs
def VersAt (T : Nat → Prop) (w : World) (v : Value) (vs : List Ver) : Prop := RowsAt T (VerE T) w v vs
theorem VerE.size {T : Nat → Prop} (w : World) (r : Array Value) (y : Ver) (h : VerE T w r y) : r.size = 2 := by
  obtain ⟨a, c, rfl, _⟩ := h; simp
theorem VersAt.same {T : Nat → Prop} {w w' : World} {v : Value} {vs : List Ver} (h : VersAt T w v vs) (hs : ∀ b, b < w.heap.size → T b → w'.heap[b]? = w.heap[b]?) : VersAt T w' v vs := by
  obtain ⟨rs, h1, h2⟩ := h
  exact ⟨rs, h1.same hs, h2.imp fun r y ⟨a, c, e, ha⟩ => ⟨a, c, e, ha.same hs⟩⟩
theorem VersAt.below {T : Nat → Prop} {w w' : World} {v : Value} {vs : List Ver} (h : VersAt T w v vs) (hb : Below w.heap.size w w') : VersAt T w' v vs := h.same fun b hb' _ => hb.block b hb'
theorem VersAt.mono {S T : Nat → Prop} {w : World} {v : Value} {vs : List Ver} (h : VersAt S w v vs) (hs : ∀ b, S b → T b) : VersAt T w v vs := by
  obtain ⟨rs, h1, h2⟩ := h
  exact ⟨rs, h1.mono hs, h2.imp fun r y ⟨a, c, e, ha⟩ => ⟨a, c, e, ha.mono hs⟩⟩
/-- Accounts put into a row, one by one. -/
def putAll (xs ys : List Acc) : List Acc := xs.foldl (fun ys x => putL x false ys) ys
theorem putAll_snoc (xs ys : List Acc) (x : Acc) : putAll (xs ++ [x]) ys = putL x false (putAll xs ys) := by simp [putAll]
theorem elt91 : Elt 91 2 32 := Elt.mk' (z := .agg (opArr 0 none 0 0)) (by kernel_rfl) (by simp [Value.cells]) (by decide)
@[go_sem ↓ high] theorem build91 (w : World) (p : Int) (a : Option Addr) (n c : Nat) : (Instr.build 91 #[(0, .int .i64 p), (1, .slice a n c)]).run Try.prog w = .ok (.agg (opArr p a n c)) w := by kernel_rfl
@[go_sem ↓ high] theorem build91' (w : World) (p : Int) : (Instr.build 91 #[(0, .int .i64 p)]).run Try.prog w = .ok (.agg (opArr p none 0 0)) w := by kernel_rfl
/-- What the document's Commit answers. -/
def RefCommit (T : Nat → Prop) (w : World) (vv : Value) (vs : List Ver) (par : Int) (xs : List Acc) (e : Ending) (w' : World) : Prop :=
  Below w.heap.size w w' ∧ (((par < 0 ∨ (vs.length : Int) ≤ par) ∧ e = .returned (.tuple #[.int .i64 0, .int .i64 12, vv])) ∨
    (∃ i : Nat, par = i ∧ i < vs.length ∧ badAny xs = true ∧ e = .returned (.tuple #[.int .i64 0, .int .i64 1, vv])) ∨
    ∃ (i : Nat) (h : i < vs.length) (vv' : Value), par = i ∧ badAny xs = false ∧ e = .returned (.tuple #[.int .i64 vs.length, .int .i64 0, vv']) ∧ VersAt (fun b => T b ∨ Fresh w w' b) w' vv' (vs ++ [⟨par, putAll xs vs[i].xs⟩]))
end Go.Proofs.Ytadafohgglnneaa
/- The library's binary search over slots whose keys rise; the store's Slot. No condition. -/
namespace Go.Proofs.Ytadafohgglnneaa
open Go.RowKit
set_option maxRecDepth 100000 in
set_option maxHeartbeats 2000000 in
theorem bsearch {S : Nat → Prop} (w : World) (v : Value) (l : List Slt) (key : Wrd) (hv : SlIn S w v l.length (sltRow l)) (hr : RiseK l) (hl : l.length ≤ 1048576) :
    Calls Try.prog 84 #[v, .agg key.cells, .func (.func 85) #[] #[]] w fun e w' => ∃ i : Nat, e = .returned (.tuple #[.int .i64 i, .bool (decide (i < l.length) && decide ((sltAt l i).k = key))]) ∧ Ends l key i ∧ Below w.heap.size w w' := by
  obtain ⟨ps, ks, rfl⟩ := hv.form
  have Hs := Lib.hid hv
  have Hr := Lib.hid hr
  clear hv hr
  go_enter Try.func84, Try.ntmps84
  go_wp2
  go_loopw [9, 10] (fun vi vj wr => ∃ i j : Nat, i ≤ j ∧ j ≤ l.length ∧ vi = .int .i64 i ∧ vj = .int .i64 j ∧ Hid (∀ t, t < i → (sltAt l t).k.lt key = true) ∧ Hid (∀ t, j ≤ t → t < l.length → (sltAt l t).k.lt key = false) ∧ Hid (Below w.heap.size w wr) ∧ rowOf wr w.heap.size = key.cells ∧ isRow wr w.heap.size = true) (fun vi vj _ => (intOf vj - intOf vi).toNat)
  case atStart => exact ⟨0, l.length, Nat.zero_le _, Nat.le_refl _, rfl, rfl, Lib.hid (fun t h => by omega), Lib.hid (fun t h1 h2 => by omega), Lib.hid (bel_alloc (Below.refl _ _) _), by simp [go_sem], by simp [go_sem]⟩
  case round =>
    obtain ⟨i, j, hij, hj, rfl, rfl, hlo, hhi, hbel, r0, i0⟩ := hrel
    have g0 := isRow_lt i0
    by_cases hlt : i < j
    · have hki : (i : Int) < (j : Int) := by omega
      obtain ⟨m, hm⟩ : ∃ m : Nat, ((i : Int) + (j : Int)) / 2 = (m : Int) := ⟨(i + j) / 2, by omega⟩
      have hmi : i ≤ m := by omega
      have hmj : m < j := by omega
      have hml : m < l.length := by omega
      obtain ⟨b, o, cc, hv', hn1, hn2, -, hb, ho, hrow⟩ := (Hs.out.below hbel.out).pos (by rw [sltRow_size]; omega)
      cases hv'
      obtain ⟨hs1, hp8, -, -⟩ := slt_parts hml ho hrow
      unfold maxLen at hn2
      have hkm : (m : Int) < (l.length : Int) := by omega
      have hkm0 : (0 : Int) ≤ (m : Int) := by omega
      have hc := cmp_ltW (sltAt l m).k key
      clear ho hrow
      have Hlo := Lib.hid (show (sltAt l m).k.lt key = true → ∀ t, t < m + 1 → (sltAt l t).k.lt key = true from fun e t ht => by
        by_cases h1 : t = m
        · subst h1; exact e
        · exact Wrd.lt_trans (Hr.out t m (by omega) hml) e)
      have Hhi := Lib.hid (show (sltAt l m).k.lt key = false → ∀ t, m ≤ t → t < l.length → (sltAt l t).k.lt key = false from fun e t h1 h2 => by
        by_cases h3 : t = m
        · subst h3; exact e
        · cases h4 : (sltAt l t).k.lt key with
          | false => rfl
          | true =>
            have := Wrd.lt_trans (Hr.out m t (by omega) h2) h4
            rw [e] at this; cases this)
      generalize (sltAt l m).k.lt key = L at *
      go_wp2
      refine wp_region_quiet_below (by kernel_rfl) (by kernel_rfl) ?_
      repeat (go_big_quiet_step ((go_at_call 85; exact Calls.regrown_of (Slot_1 _ (sltAt l m) key))))
      refine wpQuiet_nil ?_
      rintro w1 ⟨q, rfl⟩
      have bw := below_regrown wr q.d q.os
      generalize Sort.grow (redrawn wr q.d) q.os = W1 at *
      have B1 := Lib.hid (bel_trans hbel.out bw)
      have y0 : rowOf W1 w.heap.size = key.cells := by rw [bel_row bw _ g0, r0]
      have j0 : isRow W1 w.heap.size = true := by rw [bel_isRow bw _ g0, i0]
      clear bw
      cases L with
      | true =>
        go_wp2
        go_roundw
        case rel => exact ⟨m + 1, j, by omega, hj, by go_num, rfl, Lib.hid (Hlo.out rfl), hhi, B1, y0, j0⟩
        case measure => simp [intOf]; omega
      | false =>
        go_wp2
        go_roundw
        case rel => exact ⟨i, m, by omega, by omega, rfl, rfl, hlo, Lib.hid (Hhi.out rfl), B1, y0, j0⟩
        case measure => simp [intOf]; omega
    · obtain rfl : i = j := by omega
      have hki : ¬ ((i : Int) < (i : Int)) := by omega
      have hE := Lib.hid (show Ends l key i from ⟨hj, hlo.out, hhi.out⟩)
      by_cases hil : i < l.length
      · obtain ⟨b, o, cc, hv', hn1, hn2, -, hb, ho, hrow⟩ := (Hs.out.below hbel.out).pos (by rw [sltRow_size]; omega)
        cases hv'
        obtain ⟨hs1, hp8, -, -⟩ := slt_parts hil ho hrow
        unfold maxLen at hn2
        have hkm : decide ((i : Int) < (l.length : Int)) = true := by simp; omega
        have hkm2 : (i : Int) < (l.length : Int) := by omega
        have hkm0 : (0 : Int) ≤ (i : Int) := by omega
        have hc := cmp_eqW (sltAt l i).k key
        have hf := Lib.hid (show (decide (i < l.length) && decide ((sltAt l i).k = key)) = decide ((sltAt l i).k = key) by simp [hil])
        clear ho hrow
        go_wp2
        refine wp_region_quiet_below (by kernel_rfl) (by kernel_rfl) ?_
        repeat (go_big_quiet_step ((go_at_call 85; exact Calls.regrown_of (Slot_1 _ (sltAt l i) key))))
        refine wpQuiet_nil ?_
        rintro w1 ⟨q, rfl⟩
        have bw := below_regrown wr q.d q.os
        generalize Sort.grow (redrawn wr q.d) q.os = W1 at *
        go_wp2
        refine bodyPost_ret (v := .tuple #[.int .i64 i, .bool (decide ((sltAt l i).k = key))]) (by simp [results, Try.results84, go_sem]) rfl ⟨i, by rw [hf.out], hE.out, bel_trans hbel.out bw⟩
      · have hkm : decide ((i : Int) < (l.length : Int)) = false := by simp; omega
        have hkm2 : ¬ ((i : Int) < (l.length : Int)) := by omega
        have hf := Lib.hid (show (decide (i < l.length) && decide ((sltAt l i).k = key)) = false by simp [hil])
        go_wp2
        refine wp_region_quiet_below (by kernel_rfl) (by kernel_rfl) ?_
        repeat (go_big_quiet_step (fail))
        refine wpQuiet_nil ?_
        rintro w1 ⟨q, rfl⟩
        have bw := below_regrown wr q.d q.os
        generalize Sort.grow (redrawn wr q.d) q.os = W1 at *
        go_wp2
        refine bodyPost_ret (v := .tuple #[.int .i64 i, .bool false]) (by simp [results, Try.results84, go_sem]) rfl ⟨i, by rw [hf.out], hE.out, bel_trans hbel.out bw⟩
end Go.Proofs.Ytadafohgglnneaa
/- The store's Slot. No condition. -/
namespace Go.Proofs.Ytadafohgglnneaa
open Go.RowKit
set_option maxRecDepth 100000 in
set_option maxHeartbeats 2000000 in
theorem store_Slot {S : Nat → Prop} {w : World} {s g c : Nat} {nds : List Nd} (h : StoreAt S w s g c nds) (hsm : SmallNds nds) (hgood : ∀ d ∈ nds, ∀ x ∈ d.xs, rightB x.stor = true) (v : Int) (a : Adr) (key : Wrd) :
    Calls Try.prog 54 #[.pointer (some ⟨s, 0, none⟩), .int .i64 v, .agg a.cells, .agg key.cells] w fun e w' => e = .returned (.agg (slotOf ((findV nds v a).getD zeroAcc).stor key).cells) ∧ Below w.heap.size w w' := by
  have hrise : RiseK ((findV nds v a).getD zeroAcc).stor := by
    cases hf : findV nds v a with
    | none => intro i j hij hj; simp [zeroAcc, emptyAcc] at hj
    | some x =>
      obtain ⟨d, hd, hx⟩ := findV_mem hf
      exact riseK_of (hgood d hd x hx)
  have hsmall := findV_small hsm v a
  have B0 := Lib.hid (show Below w.heap.size w (((w.alloc (.cells a.cells 23)).alloc (.cells key.cells 26)).alloc (.cells zeroWrd.cells 26)) from bel_alloc (bel_alloc (bel_alloc (Below.refl _ _) _) _) _)
  have Hf := Lib.hid (store_find (h.below B0.out) v a)
  clear hsm hgood h
  generalize findV nds v a = o at *
  generalize hX : o.getD zeroAcc = x at *
  go_enter Try.func54, Try.ntmps54
  go_wp2_with fail
  refine Hf.out.mono ?_
  rintro e w1 ⟨r, rfl, hr, hb1⟩
  rw [hX] at hr
  clear hX Hf
  obtain ⟨vc, vsl, rfl, hc4, hs4⟩ := hr
  obtain ⟨adr, nonce, bal, code, l⟩ := x
  simp only at hc4 hs4 hrise hsmall ⊢
  obtain ⟨pc, kc, rfl⟩ := hc4.form
  obtain ⟨ps, ks, rfl⟩ := hs4.form
  have hll : l.length ≤ 1048576 := hsmall.2
  obtain ⟨y0, j0, l0⟩ := carryRow hb1 (b := w.heap.size + 1) (r := key.cells) (by simp [go_sem]) (by simp [go_sem])
  obtain ⟨y1, j1, l1⟩ := carryRow hb1 (b := w.heap.size + 2) (r := zeroWrd.cells) (by simp [go_sem]) (by simp [go_sem])
  have f1 : rowFr w1 (w.heap.size + 2) = (0, 0) := by rw [bel_rowFr hb1 _ (by simp)]; simp [go_sem]
  have B1 := Lib.hid (bel_trans B0.out hb1)
  have BA := Lib.hid (show Below w1.heap.size w1 (w1.alloc (.cells (accRow adr nonce bal (.slice pc code.length kc) (.slice ps l.length ks)) 30)) from bel_alloc (Below.refl _ _) _)
  have Hs4 := Lib.hid (hs4.below BA.out)
  have r9 : rowOf (w1.alloc (.cells (accRow adr nonce bal (.slice pc code.length kc) (.slice ps l.length ks)) 30)) w1.heap.size = accRow adr nonce bal (.slice pc code.length kc) (.slice ps l.length ks) := by simp [go_sem]
  have i9 : isRow (w1.alloc (.cells (accRow adr nonce bal (.slice pc code.length kc) (.slice ps l.length ks)) 30)) w1.heap.size = true := by simp [go_sem]
  have c9 : (w1.alloc (.cells (accRow adr nonce bal (.slice pc code.length kc) (.slice ps l.length ks)) 30)).cell? ⟨w1.heap.size, 26, none⟩ = some (.slice ps l.length ks) := by rw [cell_row, r9, accRow_stor]
  have r91 : rowOf (w1.alloc (.cells (accRow adr nonce bal (.slice pc code.length kc) (.slice ps l.length ks)) 30)) (w.heap.size + 2) = zeroWrd.cells := by rw [rowOf_alloc_past _ _ _ l1, y1]
  have i91 : isRow (w1.alloc (.cells (accRow adr nonce bal (.slice pc code.length kc) (.slice ps l.length ks)) 30)) (w.heap.size + 2) = true := by rw [isRow_alloc_past _ _ _ l1, j1]
  have f91 : rowFr (w1.alloc (.cells (accRow adr nonce bal (.slice pc code.length kc) (.slice ps l.length ks)) 30)) (w.heap.size + 2) = (0, 0) := by rw [bel_rowFr BA.out _ l1, f1]
  have Hrise := Lib.hid hrise
  have zz := Lib.hid (show w.heap.size + 2 < w1.heap.size from l1)
  clear hc4 hs4 hb1 hrise hsmall
  go_wp2_with fail
  refine (bsearch (S := S) _ _ l key Hs4.out Hrise.out hll).mono ?_
  rintro e w2 ⟨i, rfl, hE, hb2⟩
  obtain ⟨y9, j9, l9⟩ := carryRow hb2 r9 i9
  obtain ⟨y2, j2, l2⟩ := carryRow hb2 r91 i91
  have f2 : rowFr w2 (w.heap.size + 2) = (0, 0) := by rw [bel_rowFr hb2 _ (isRow_lt i91), f91]
  have d9 : w2.cell? ⟨w1.heap.size, 26, none⟩ = some (.slice ps l.length ks) := by rw [cell_row, y9, accRow_stor]
  have B2 := Lib.hid (bel_trans (bel_trans B1.out BA.out) hb2)
  have hres := Lib.hid (ends_slot Hrise.out hE)
  clear r9 i9 c9 r91 i91 f91 y0 j0 l0 y1 j1 l1 f1
  by_cases hfound : i < l.length ∧ (sltAt l i).k = key
  · have hb : (decide (i < l.length) && decide ((sltAt l i).k = key)) = true := by simp [hfound]
    have hres2 := Lib.hid (show slotOf l key = (sltAt l i).v by rw [hres.out, if_pos hfound])
    obtain ⟨b, o4, cc, hv', hn1, hn2, -, hbb, ho, hrow⟩ := (Hs4.out.below hb2).pos (by rw [sltRow_size]; omega)
    cases hv'
    obtain ⟨hs1, -, -, hval⟩ := slt_parts hfound.1 ho hrow
    unfold maxLen at hn2
    have hki : (i : Int) < (l.length : Int) := by omega
    have hki0 : (0 : Int) ≤ (i : Int) := by omega
    rw [hb]
    clear ho hrow hb2 hb hE Hs4
    go_wp2
    refine bodyPost_ret (v := .agg (sltAt l i).v.cells) (by simp [results, Try.results54, go_sem, y2]) rfl ⟨by rw [hres2.out], bel_setSeg B2.out _ _ _ (by omega)⟩
  · have hb : (decide (i < l.length) && decide ((sltAt l i).k = key)) = false := by
      rw [← Bool.decide_and]; exact decide_eq_false hfound
    have hres2 := Lib.hid (show slotOf l key = zeroWrd by rw [hres.out, if_neg hfound])
    rw [hb]
    clear hb2 hb hE Hs4
    go_wp2
    refine bodyPost_ret (v := .agg zeroWrd.cells) (by simp [results, Try.results54, go_sem, y2]) rfl ⟨by rw [hres2.out], bel_setSeg B2.out _ _ _ (by omega)⟩
end Go.Proofs.Ytadafohgglnneaa
/- The walk of the document's Commit. No condition. -/
namespace Go.Proofs.Ytadafohgglnneaa
open Go.RowKit
theorem putAll_len : ∀ (xs ys : List Acc), (putAll xs ys).length ≤ ys.length + xs.length
  | [], ys => by simp [putAll]
  | x :: xs, ys => by
    have h1 := putAll_len xs (putL x false ys)
    have h2 := (putL_len x ys).2
    simp only [putAll, List.foldl_cons, List.length_cons] at h1 ⊢
    omega
theorem Stab.ver {T : Nat → Prop} {w0 : World} (hT : ∀ b, T b → b < w0.heap.size) : Stab w0 (VerE T) := fun w1 w2 r y h1 h2 h => by
  obtain ⟨a, c, e, ha⟩ := h
  exact ⟨a, c, e, ha.same fun b _ hb => by rw [h2.block b (hT b hb), h1.block b (hT b hb)]⟩
set_option maxRecDepth 100000 in
set_option maxHeartbeats 4000000 in
theorem ref13_Commit {T : Nat → Prop} (w : World) (vv : Value) (vs : List Ver) (par : Int) (v : Value) (xs : List Acc) (hV : VersAt T w vv vs) (hx : AccsAt T w v xs) (hT : ∀ b, T b → b < w.heap.size) (hl : vs.length ≤ 1000) (hxl : xs.length ≤ 50) (hyl : ∀ y ∈ vs, y.xs.length ≤ 50000) :
    Calls Try.prog 52 #[vv, .int .i64 par, v] w (RefCommit T w vv vs par xs) := by
  obtain ⟨pv, cv, rfl⟩ := hV.form
  obtain ⟨px, cx, rfl⟩ := hx.form
  have hcv := RowsAt.le hV
  have hcx := hx.le
  unfold maxLen at hcv hcx
  by_cases h0 : par < 0
  · have hd : decide (par < 0) = true := by simpa using h0
    have H := Lib.hid h0
    clear h0 hV hx
    go_enter Try.func52, Try.ntmps52
    go_wp2
    refine bodyPost_ret (v := .tuple #[.int .i64 0, .int .i64 12, .slice pv vs.length cv]) (by simp [results, Try.results52, go_sem]) rfl ⟨Below.refl _ _, .inl ⟨.inl H.out, rfl⟩⟩
  by_cases h1 : (vs.length : Int) ≤ par
  · have hd : decide (par < 0) = false := by simpa using h0
    have hd1 : decide ((vs.length : Int) ≤ par) = true := by simpa using h1
    have H := Lib.hid h1
    clear h0 h1 hV hx
    go_enter Try.func52, Try.ntmps52
    go_wp2
    refine bodyPost_ret (v := .tuple #[.int .i64 0, .int .i64 12, .slice pv vs.length cv]) (by simp [results, Try.results52, go_sem]) rfl ⟨Below.refl _ _, .inl ⟨.inr H.out, rfl⟩⟩
  obtain ⟨i, rfl⟩ : ∃ i : Nat, par = i := ⟨par.toNat, by omega⟩
  have hi : i < vs.length := by omega
  have hd : decide ((i : Int) < 0) = false := by simp
  have hd1 : decide (vs.length ≤ i) = false := by simp; omega
  have HV := Lib.hid hV
  have HX := Lib.hid hx
  have HT := Lib.hid hT
  have Hyl := Lib.hid hyl
  clear h0 h1 hV hx hT hyl
  go_enter Try.func52, Try.ntmps52
  go_wp2
  go_loopw [24] (fun vi wr => ∃ k : Nat, k ≤ xs.length ∧ vi = .int .i64 k ∧ Hid (∀ j, j < k → rightB (accAt xs j).stor = true) ∧ Hid (Below w.heap.size w wr)) (fun vi _ => xs.length - (intOf vi).toNat)
  case atStart => exact ⟨0, Nat.zero_le _, rfl, Lib.hid (fun j h => by omega), Lib.hid (Below.refl _ _)⟩
  case round =>
    obtain ⟨k, hk, rfl, hok, hbel⟩ := hrel
    by_cases hlt : k < xs.length
    · obtain ⟨b, o, cc, rs, hv', q1, q2, -, hbb, hsz, hall⟩ := (HX.out.below hbel.out).pos (by omega)
      cases hv'
      obtain ⟨hrow, hacc⟩ := hall k hlt
      have hs1 : o + k * 27 + 27 ≤ (rowOf wr b).size := by omega
      have hki : (k : Int) < (xs.length : Int) := by omega
      have hki0 : (0 : Int) ≤ (k : Int) := by omega
      have hbad := Lib.hid (fun e : rightB (accAt xs k).stor = false => badAny_true hlt e)
      have hok2 := Lib.hid (show rightB (accAt xs k).stor = true → ∀ j, j < k + 1 → rightB (accAt xs j).stor = true from fun e j hj => by
        by_cases h : j = k
        · subst h; exact e
        · exact hok.out j (by omega))
      clear hall
      generalize accAt xs k = x at *
      generalize rowAt rs k = r at *
      have hrz := hacc.size
      have hr1 := hacc.one
      have HA := Lib.hid hacc
      clear hacc
      go_wp2_with fail
      refine (ref13_Right _ r x HA.out).mono ?_
      rintro e w3 ⟨rfl, hb3⟩
      have B3 := Lib.hid (bel_trans hbel.out hb3)
      clear hb3
      cases hR : rightB x.stor with
      | true =>
        rw [hR] at hok2
        go_wp2
        go_roundw
        case rel =>
          exact ⟨k + 1, by omega, by go_num, Lib.hid (hok2.out trivial), B3⟩
        case measure => simp [intOf]; omega
      | false =>
        rw [hR] at hbad
        go_wp2
        refine bodyPost_ret (v := .tuple #[.int .i64 0, .int .i64 1, .slice pv vs.length cv]) (by simp [results, Try.results52, go_sem]) rfl ⟨B3.out, .inr (.inl ⟨i, rfl, hi, hbad.out trivial, rfl⟩)⟩
    · obtain rfl : k = xs.length := by omega
      have hki : ¬ ((xs.length : Int) < (xs.length : Int)) := by omega
      have Hbad := Lib.hid (show badAny xs = false from badAny_false hok.out)
      obtain ⟨bv, ov, ccv, rsv, hvv, qv1, qv2, -, hbv, hszv, hallv⟩ := RowsAt.pos (HV.out.below hbel.out) 2 (VerE.size _) (by decide) (by omega)
      cases hvv
      obtain ⟨hrowv, a0, c0, hr0, hac0⟩ := hallv i hi
      rw [hr0] at hrowv
      have hsv : ov + i * 2 + 2 ≤ (rowOf wr bv).size := by omega
      have cel : wr.cell? ⟨bv, ov + i * 2 + 1, none⟩ = some (.slice a0 vs[i].xs.length c0) := by
        rw [cell_row]
        have h5 : ((rowOf wr bv).extract (ov + i * 2) (ov + i * 2 + 2))[1]? = some (.slice a0 vs[i].xs.length c0) := by rw [hrowv]; simp [opArr]
        rw [Array.getElem?_extract] at h5
        rw [if_pos (by omega)] at h5
        exact h5
      have hki2 : (i : Int) < (vs.length : Int) := by omega
      have hki20 : (0 : Int) ≤ (i : Int) := by omega
      have hylen := Hyl.out vs[i] (List.getElem_mem hi)
      have HP := Lib.hid (fun (w' : World) (vv' : Value) (hv : VersAt (fun b => T b ∨ Fresh w w' b) w' vv' (vs ++ [⟨i, putAll xs vs[i].xs⟩])) (hb : Below w.heap.size w w') => (⟨hb, .inr (.inr ⟨i, hi, vv', rfl, Hbad.out, rfl, hv⟩)⟩ : RefCommit T w (.slice (some ⟨bv, ov, none⟩) vs.length cv) vs i xs (.returned (.tuple #[.int .i64 vs.length, .int .i64 0, vv'])) w'))
      clear hallv hrowv hr0 hok
      generalize hY : vs[i].xs = Y0 at *
      have HY := Lib.hid hY
      clear hY
      have Hac := Lib.hid hac0
      clear hac0
      go_wp2
      go_loopw [10, 42] (fun vo vi wq => ∃ (k : Nat) (q : Option Addr) (cc : Nat), k ≤ xs.length ∧ vi = .int .i64 k ∧ vo = .slice q (putAll (xs.take k) Y0).length cc ∧ Hid (AccsAt (fun b => T b ∨ Fresh w wq b) wq vo (putAll (xs.take k) Y0)) ∧ Hid (Below w.heap.size w wq)) (fun _ vi _ => xs.length - (intOf vi).toNat)
      case atStart => exact ⟨0, a0, c0, Nat.zero_le _, rfl, rfl, Lib.hid (Hac.out.mono fun b hb => .inl hb), hbel⟩
      case round =>
        obtain ⟨k, q, cc, hk, rfl, rfl, hacs, hbel2⟩ := hrel
        by_cases hlt : k < xs.length
        · obtain ⟨b, o, cc2, rs, hv', q1, q2, -, hbb, hsz, hall⟩ := (HX.out.below hbel2.out).pos (by omega)
          cases hv'
          obtain ⟨hrow, hacc⟩ := hall k hlt
          have hs1 : o + k * 27 + 27 ≤ (rowOf wr b).size := by omega
          have hki3 : (k : Int) < (xs.length : Int) := by omega
          have hki0 : (0 : Int) ≤ (k : Int) := by omega
          have hx : accAt xs k = xs[k] := by simp [accAt, hlt]
          have htk := Lib.hid (show putAll (xs.take (k + 1)) Y0 = putL xs[k] false (putAll (xs.take k) Y0) by
            rw [List.take_succ_eq_append_getElem hlt, putAll_snoc])
          have hpl : (putAll (xs.take k) Y0).length ≤ 100000 := by
            have := putAll_len (xs.take k) Y0
            simp at this
            omega
          rw [hx] at hacc
          clear hall hx
          generalize xs[k] = x at *
          generalize rowAt rs k = r at *
          have hrz := hacc.size
          have hr1 := hacc.one
          have HA := Lib.hid (hacc.mono (T := fun b => T b ∨ Fresh w wr b) fun b hb => .inl hb)
          have hTw := Lib.hid (show ∀ b, (T b ∨ Fresh w wr b) → b < wr.heap.size from fun b hb => by
            rcases hb with hb | hb
            · exact Nat.lt_of_lt_of_le (HT.out b hb) hbel2.out.size
            · exact hb.2)
          clear hacc
          go_wp2_with fail
          refine (ref13_Put _ _ _ r x hacs.out HA.out hTw.out hpl).mono ?_
          rintro e w5 ⟨v5, rfl, ho5⟩
          have B5 := Lib.hid (bel_trans hbel2.out ho5.bel)
          have z2 := hbel2.out.size
          have z5 := ho5.bel.size
          have HA5 := Lib.hid (show AccsAt (fun b => T b ∨ Fresh w w5 b) w5 v5 (putAll (xs.take (k + 1)) Y0) by
            rw [htk.out]
            refine ho5.accs (fun b hb => ?_) (fun b h1 h2 => .inr ⟨by omega, h2⟩)
            rcases hb with hb | hb
            · exact .inl hb
            · exact .inr ⟨hb.1, by have := hb.2; omega⟩)
          obtain ⟨q5, c5, rfl⟩ := HA5.out.form
          clear ho5 z2 z5
          go_wp2
          go_roundw
          case rel => exact ⟨k + 1, q5, c5, by omega, by go_num, rfl, HA5, B5⟩
          case measure => simp [intOf]; omega
        · obtain rfl : k = xs.length := by omega
          have hki3 : ¬ ((xs.length : Int) < (xs.length : Int)) := by omega
          have hA := hacs.out
          rw [List.take_length] at hA
          have HA := Lib.hid hA
          clear hA
          rw [List.take_length]
          obtain ⟨W, hW⟩ : ∃ W : World, W = wr := ⟨_, rfl⟩
          subst hW
          generalize hZ : putAll xs Y0 = Z at *
          clear hZ
          have hYl : vs.length ≤ 1000 := hl
          have Hst := Lib.hid (Stab.ver (T := fun b => T b ∨ Fresh w W b) (w0 := W) fun b hb => by
            rcases hb with hb | hb
            · exact Nat.lt_of_lt_of_le (HT.out b hb) hbel2.out.size
            · exact hb.2)
          have BW := Lib.hid (show Below W.heap.size W (W.alloc (.cells #[] 91)) from bel_alloc (Below.refl _ _) _)
          have HO := Lib.hid (RowOut.made' (e := 91) (size := 2) (E := VerE (fun b => T b ∨ Fresh w W b)) (Below.refl W.heap.size W) (Nat.le_refl _))
          have HVW := Lib.hid (((HV.out.below hbel2.out).below BW.out).mono (T := fun b => T b ∨ Fresh w W b) fun b hb => .inl hb)
          have Hone := Lib.hid (show ∀ (w' : World) r y, VerE (fun b => T b ∨ Fresh w W b) w' r y → r.size = 2 ∧ ones r = true from fun w' r y h => by
            obtain ⟨a, c, rfl, _⟩ := h
            exact ⟨by simp, opArr_ones _ _ _ _⟩)
          have zwW := Lib.hid hbel2.out.size
          go_wp2_with (first
            | (at_builtin; refine wpList_append_outs rfl (.tmp 53) (.tmp 54) 92 rfl elt91 Try.underlying92 Hst.out HO.out (by simp [Act.eval]) (.slice (some ⟨bv, ov, none⟩) vs.length cv) vs (by simp [Act.eval]) HVW.out (Hone.out _) (by simp; omega) (by simp; unfold maxLen; omega) ?_; intro v6 w6 ho6 hk6;
               obtain ⟨p6, c6, rfl⟩ := ho6.form;
               rw [List.nil_append] at ho6;
               have HO6 := Lib.hid ho6;
               have HA6 := Lib.hid (((HA.out.below (ho6.bel)).below (bel_alloc (Below.refl w6.heap.size w6) (.cells (opArr i q Z.length cc) 91))));
               have HO7 := Lib.hid (ho6.below Hst.out (bel_alloc (Below.refl w6.heap.size w6) (.cells (opArr i q Z.length cc) 91)));
               clear ho6 hk6)
            | (at_builtin; refine wpList_append_out rfl (.tmp 56) (.tmp 60) 92 rfl elt91 Try.underlying92 Hst.out HO7.out (by simp [Act.eval]) w6.heap.size (opArr i q Z.length cc) ⟨i, Z⟩ (by simp [Act.eval]) (by simp [go_sem]; rfl) (by simp) (opArr_ones _ _ _ _) ⟨q, cc, rfl, HA6.out⟩ (by omega) (by unfold maxLen; omega) ?_; intro g8 c8 w8 ho8 hk8 hg8)
            | fail)
          have z8 := ho8.bel.size
          have zw := zwW.out
          refine bodyPost_ret (v := .tuple #[.int .i64 vs.length, .int .i64 0, .slice (some ⟨g8, 0, none⟩) (vs.length + 1) c8]) (by simp [results, Try.results52, go_sem]) rfl (HP.out w8 _ ?_ (bel_trans hbel2.out ho8.bel))
          obtain ⟨rs, h1, h2⟩ := ho8.rows
          refine ⟨rs, h1.mono (fun b hb => .inr ⟨by omega, hb.2⟩), h2.imp fun r y ⟨a, c, e, ha⟩ => ⟨a, c, e, ha.mono fun b hb => ?_⟩⟩
          rcases hb with hb | hb
          · exact .inl hb
          · exact .inr ⟨hb.1, by have := hb.2; omega⟩
end Go.Proofs.Ytadafohgglnneaa
/- The store's versions and the document's: the plain law. No condition. -/
namespace Go.Proofs.Ytadafohgglnneaa
open Go.RowKit
theorem hasV_nat' {nds : List Nd} {i : Nat} (h : i < nds.length) : hasV nds i = true := by simp [hasV]; omega
theorem findK_setK_if (b : Adr) (x : Acc) (ys : List Acc) : findK b (setK x ys) = if b = x.adr then some x else findK b ys := by
  by_cases h : b = x.adr
  · subst h; rw [if_pos rfl]; exact findK_setK_self x ys
  · rw [if_neg h]; exact findK_setK h
theorem findK_putL_if (b : Adr) (x : Acc) (l : List Acc) : findK b (putL x false l) = if b = x.adr then some x else findK b l := by
  by_cases h : b = x.adr
  · subst h; rw [if_pos rfl]; exact findK_putL_self x l
  · rw [if_neg h]; exact findK_putL_other h l false
theorem findK_putAll (b : Adr) (ys : List Acc) (xs : List Acc) : findK b (putAll xs ys) = (findK b (setAll xs)).or (findK b ys) := by
  have key : ∀ n (xs : List Acc), xs.length = n → findK b (putAll xs ys) = (findK b (setAll xs)).or (findK b ys) := by
    intro n
    induction n with
    | zero =>
      intro xs h
      obtain rfl : xs = [] := List.eq_nil_of_length_eq_zero h
      simp [putAll, setAll, findK]
    | succ n ih =>
      intro xs h
      have hne : xs ≠ [] := fun e => by subst e; simp at h
      obtain ⟨zs, x, rfl⟩ : ∃ zs x, xs = zs ++ [x] := ⟨xs.dropLast, xs.getLast hne, (List.dropLast_concat_getLast hne).symm⟩
      have hz : zs.length = n := by simpa using h
      rw [putAll_snoc, setAll_snoc, findK_putL_if, findK_setK_if, ih zs hz]
      by_cases e : b = x.adr
      · simp [e]
      · simp [e]
  exact key _ xs rfl
theorem Rising.putAll : ∀ {xs ys : List Acc}, Rising ys → Rising (putAll xs ys)
  | [], _, h => h
  | x :: xs, ys, h => by
    have := Rising.putAll (xs := xs) (Rising.put (a := x) h)
    simpa [Ytadafohgglnneaa.putAll] using this
/-- The store's versions beside the document's. -/
structure Rel13 (nds : List Nd) (vs : List Ver) (n : Nat) : Prop where
  len : vs.length = nds.length
  par : ∀ i (h1 : i < nds.length) (h2 : i < vs.length), nds[i].par = vs[i].par
  find : ∀ i (h : i < vs.length), ∀ a, findK a vs[i].xs = findV nds (i : Nat) a
  rise : ∀ y ∈ vs, Rising y.xs
  size : ∀ y ∈ vs, y.xs.length ≤ 50 * n
theorem Rel13.start : Rel13 [⟨-1, none, []⟩] [⟨-1, []⟩] 0 := by
  refine ⟨rfl, fun i h1 h2 => ?_, fun i h a => ?_, fun y hy => ?_, fun y hy => ?_⟩
  · simp at h1; subst h1; rfl
  · simp at h; subst h; rfl
  · simp at hy; subst hy; exact List.Pairwise.nil
  · simp at hy; subst hy; exact Nat.zero_le _
theorem Rel13.more {nds : List Nd} {vs : List Ver} {n m : Nat} (h : Rel13 nds vs n) (hm : n ≤ m) : Rel13 nds vs m :=
  ⟨h.len, h.par, h.find, h.rise, fun y hy => Nat.le_trans (h.size y hy) (Nat.mul_le_mul_left _ hm)⟩
theorem Rel13.commit {nds : List Nd} {vs : List Ver} {n : Nat} (h : Rel13 nds vs n) (hp : ParOk nds) {i : Nat} (hi : i < vs.length) (k : Nat) (xs : List Acc) (hx : xs.length ≤ 50) :
    Rel13 (nds ++ [⟨(i : Int), some k, setAll xs⟩]) (vs ++ [⟨i, putAll xs vs[i].xs⟩]) (n + 1) := by
  have hl := h.len
  have hin : i < nds.length := by omega
  refine ⟨by simp [hl], fun j h1 h2 => ?_, fun j hj a => ?_, fun y hy => ?_, fun y hy => ?_⟩
  · by_cases e : j < nds.length
    · rw [List.getElem_append_left e, List.getElem_append_left (by omega)]
      exact h.par j e (by omega)
    · have hj : j = nds.length := by simp at h1; omega
      subst hj
      rw [List.getElem_append_right (Nat.le_refl _), List.getElem_append_right (by omega)]
      simp
  · by_cases e : j < vs.length
    · rw [List.getElem_append_left e, h.find j e a]
      exact (findV_append _ hp a _ (hasV_nat' (by omega))).symm
    · have hjl : j = vs.length := by simp at hj; omega
      subst hjl
      rw [List.getElem_append_right (Nat.le_refl _)]
      simp only [Nat.sub_self, List.getElem_cons_zero]
      rw [findK_putAll, h.find i hi a, hl]
      exact (findV_last (i : Int) (some k) (setAll xs) hp (hasV_nat' hin) a).symm
  · rcases List.mem_append.1 hy with hy | hy
    · exact h.rise y hy
    · simp at hy; subst hy
      exact Rising.putAll (h.rise _ (List.getElem_mem hi))
  · rcases List.mem_append.1 hy with hy | hy
    · have := h.size y hy; omega
    · simp at hy; subst hy
      have h1 := putAll_len xs vs[i].xs
      have h2 := h.size _ (List.getElem_mem hi)
      simp only
      omega
theorem mem_rise {l : List Acc} (h : Rising l) {x : Acc} : x ∈ l ↔ findK x.adr l = some x := by
  constructor
  · intro hx
    induction l with
    | nil => simp at hx
    | cons y l ih =>
      rw [Rising, List.pairwise_cons] at h
      rcases List.mem_cons.1 hx with rfl | hx
      · simp [findK]
      · have h1 := lt_ne (h.1 x hx)
        have := ih h.2 hx
        simp only [findK, List.find?_cons] at this ⊢
        simp [h1, this]
  · exact findK_mem
/-- What isn't empty of a version of the document is just what All answers. -/
theorem Rel13.all {nds : List Nd} {vs : List Ver} {n : Nat} (h : Rel13 nds vs n) {i : Nat} (hi : i < vs.length) : IsAll nds i (someOf vs[i].xs) := by
  have hr := h.rise _ (List.getElem_mem hi)
  refine ⟨List.Pairwise.sublist List.filter_sublist hr, fun x => ?_⟩
  unfold someOf
  rw [List.mem_filter, mem_rise hr, h.find i hi]
  simp
end Go.Proofs.Ytadafohgglnneaa
/- The document's Commit answers as the store's does. No condition. -/
namespace Go.Proofs.Ytadafohgglnneaa
open Go.RowKit
theorem ref_match {T : Nat → Prop} {w w' : World} {vv : Value} {nds nds' : List Nd} {vs : List Ver} {n : Nat} {par a b : Int} {xs : List Acc} {e : Ending} (hr : Rel13 nds vs n) (hp : ParOk nds) (hc : Committed nds par xs a b nds') (hR : RefCommit T w vv vs par xs e w') (hV : VersAt T w vv vs) (hx : xs.length ≤ 50) :
    ∃ vv' vs', e = .returned (.tuple #[.int .i64 a, .int .i64 b, vv']) ∧ VersAt (fun b => T b ∨ Fresh w w' b) w' vv' vs' ∧ Rel13 nds' vs' (n + 1) ∧ Below w.heap.size w w' := by
  have hl := hr.len
  obtain ⟨hb, h⟩ := hR
  have hkeep : VersAt (fun b => T b ∨ Fresh w w' b) w' vv vs := (hV.below hb).mono fun b hb => .inl hb
  have hv0 : ∀ i : Nat, par = i → i < vs.length → hasV nds par = true := fun i e1 e2 => by rw [e1]; exact hasV_nat' (by omega)
  rcases h with ⟨h1, rfl⟩ | ⟨i, hi, h2, h3, rfl⟩ | ⟨i, h2, vv', hi, h3, rfl, h4⟩
  · have hv : hasV nds par = false := by simp [hasV]; omega
    rcases hc with ⟨c1, _⟩ | ⟨_, rfl, rfl, rfl⟩ | ⟨c1, _⟩
    · rw [hv] at c1; cases c1
    · exact ⟨vv, vs, rfl, hkeep, hr.more (by omega), hb⟩
    · rw [hv] at c1; cases c1
  · have hv := hv0 i hi h2
    rcases hc with ⟨_, c2, _⟩ | ⟨c1, _⟩ | ⟨_, _, rfl, rfl, rfl⟩
    · rw [h3] at c2; cases c2
    · rw [hv] at c1; cases c1
    · exact ⟨vv, vs, rfl, hkeep, hr.more (by omega), hb⟩
  · have hv := hv0 i hi h2
    subst hi
    rcases hc with ⟨_, _, rfl, rfl, k, rfl⟩ | ⟨c1, _⟩ | ⟨_, c2, _⟩
    · exact ⟨vv', _, by rw [hl], h4, hr.commit hp h2 k xs hx, hb⟩
    · rw [hv] at c1; cases c1
    · rw [h3] at c2; cases c2
/-- The first version. -/
theorem vers_start {T : Nat → Prop} {w : World} {b : Nat} (hb : rowOf w b = opArr (-1) none 0 0) (hT : T b) : VersAt T w (.slice (some ⟨b, 0, none⟩) 1 1) [⟨-1, []⟩] := by
  refine ⟨[opArr (-1) none 0 0], .inr ⟨_, _, rfl, Nat.le_refl _, by decide, .inr ⟨rfl, hT, ?_, ?_⟩⟩, ⟨none, 0, rfl, AccsAt.nil _ _⟩, trivial⟩
  · simp [hb]
  · simp [hb]
end Go.Proofs.Ytadafohgglnneaa
/- Parent at any version, in one contract; what is the same of both sides at a version. No condition. -/
namespace Go.Proofs.Ytadafohgglnneaa
open Go.RowKit
theorem Parent_any {w0 w : World} {s g c : Nat} {nds : List Nd} (h : Hold w0 w s g c nds) (i : Nat) (hi : i < nds.length) :
    Calls Try.prog 53 #[.pointer (some ⟨s, 0, none⟩), .int .i64 i] w fun e w' => (∃ p : Int, e = .returned (.tuple #[.int .i64 p, .bool (decide (0 < i))]) ∧ (0 < i → p = nds[i].par)) ∧ w' = w := by
  obtain ⟨S, h1, h2⟩ := h.st
  by_cases h0 : 0 < i
  · refine (store_Parent_at h2 i hi h0).mono ?_
    rintro e w' ⟨rfl, rfl⟩
    exact ⟨⟨_, by simp [h0], fun _ => rfl⟩, rfl⟩
  · obtain rfl : i = 0 := by omega
    refine (store_Parent_no h2 _ (.inr rfl)).mono ?_
    rintro e w' ⟨rfl, rfl⟩
    exact ⟨⟨0, by simp, fun h => by omega⟩, rfl⟩
/-- An element of the document's versions, where it lies. -/
theorem VersAt.get {T : Nat → Prop} {w : World} {v : Value} {vs : List Ver} (h : VersAt T w v vs) {i : Nat} (hi : i < vs.length) :
    ∃ b o c a n, v = .slice (some ⟨b, o, none⟩) vs.length c ∧ vs.length ≤ c ∧ c ≤ maxLen ∧ T b ∧ b < w.heap.size ∧ w.cell? ⟨b, o + i * 2, none⟩ = some (.int .i64 vs[i].par) ∧ w.cell? ⟨b, o + i * 2 + 1, none⟩ = some (.slice a vs[i].xs.length n) ∧ AccsAt T w (.slice a vs[i].xs.length n) vs[i].xs := by
  obtain ⟨b, o, c, rs, rfl, q1, q2, hT, hb, hsz, hall⟩ := RowsAt.pos h 2 (VerE.size _) (by decide) (by omega)
  obtain ⟨hrow, a, n, hr, hacc⟩ := hall i hi
  rw [hr] at hrow
  have hs : o + i * 2 + 2 ≤ (rowOf w b).size := by omega
  have get : ∀ j, j < 2 → (rowOf w b)[o + i * 2 + j]? = (opArr vs[i].par a vs[i].xs.length n)[j]? := fun j hj => by
    rw [← hrow, Array.getElem?_extract, if_pos (by omega)]
  refine ⟨b, o, c, a, n, rfl, q1, q2, hT, hb, ?_, ?_, hacc⟩
  · rw [cell_row]; have := get 0 (by decide); rw [Nat.add_zero] at this; rw [this, opArr_get0]
  · rw [cell_row, get 1 (by decide), opArr_get1]
end Go.Proofs.Ytadafohgglnneaa
/- StorePlays: what stands at a version of which there is one: the document's account beside the store's; what the calls answer in whatever world behind. No condition. -/
namespace Go.Proofs.Ytadafohgglnneaa
open Go.RowKit
/-- The document's account, in a block of its own. -/
def C22 (T : Nat → Prop) (W wc : World) (y : Option Acc) (x v : Value) : Prop :=
  ∃ b r, x = .pointer (some ⟨b, 0, none⟩) ∧ v = .bool y.isSome ∧ rowOf wc b = r ∧ isRow wc b = true ∧ AccIn T wc r (y.getD zeroAcc) ∧ Below W.heap.size W wc
theorem C22.new {T : Nat → Prop} {W w6 : World} {y : Option Acc} {r : Array Value} (hr : AccIn T w6 r (y.getD zeroAcc)) (hb : Below W.drew.heap.size W.drew w6) :
    C22 T W (w6.alloc (.cells r 30)) y (.pointer (some ⟨w6.heap.size, 0, none⟩)) (.bool y.isSome) := by
  have hb' : Below W.heap.size W w6 := bel_trans (bel_drew (Below.refl _ _)) hb
  exact ⟨_, r, rfl, rfl, by simp [go_sem], by simp [go_sem], hr.below (bel_alloc (Below.refl _ _) _), bel_alloc hb' _⟩
theorem C22.old {T : Nat → Prop} {W w6 : World} {y : Option Acc} {r z : Array Value} (hT : ∀ b, T b → b < W.heap.size) (hr : AccIn T w6 r (y.getD zeroAcc)) (hz : z.size = 27)
    (hb : Below (W.drew.alloc (.cells z 30)).heap.size (W.drew.alloc (.cells z 30)) w6) :
    C22 T W (World.setSeg w6 W.heap.size 0 r.toList) y (.pointer (some ⟨W.heap.size, 0, none⟩)) (.bool y.isSome) := by
  have hb' : Below W.heap.size W w6 := bel_trans (bel_alloc (bel_drew (Below.refl _ _)) _) hb
  have h1 : rowOf w6 W.heap.size = z := by rw [bel_row hb _ (by simp)]; simp [go_sem]
  have h2 : isRow w6 W.heap.size = true := by rw [bel_isRow hb _ (by simp)]; simp [go_sem]
  have hs := hr.size
  refine ⟨_, r, rfl, rfl, ?_, ?_, ?_, bel_setSeg hb' _ _ _ (Nat.le_refl _)⟩
  · rw [rowOf_setSeg_same, h1, putSeg_all _ _ (by rw [hs, hz])]
  · rw [← i_setSeg, h2]
  · exact hr.same fun b _ hb => setSeg_block_ne _ _ _ _ _ (by have := hT b hb; omega)
/-- What holds of the version's blocks in whatever world behind. -/
theorem c27 {T U : Nat → Prop} {W : World} {r1 r2 : Array Value} {x : Acc} (h1 : AccIn T W r1 x) (h2 : AccIn U W r2 x) : ∀ w, Below W.heap.size W w → Calls Try.prog 27 #[.agg r1, .agg r2] w fun e w' => e = .returned (.bool true) ∧ Below w.heap.size w w' :=
  fun w hb => same_self w r1 r2 x (h1.below hb) (h2.below hb)
theorem c55 {T : Nat → Prop} {W : World} {r : Array Value} {x : Acc} (h : AccIn T W r x) (key : Wrd) : ∀ w, Below W.heap.size W w → Calls Try.prog 55 #[.agg r, .agg key.cells] w fun e w' => e = .returned (.agg (slotOf x.stor key).cells) ∧ Below w.heap.size w w' :=
  fun w hb => ref13_Slot w r x (h.below hb) key
theorem c42 {w0 W : World} {s g c : Nat} {nds : List Nd} {vs : List Ver} {n i : Nat} (h : Hold w0 W s g c nds) (hT : totalN nds ≤ 1000000) (hR : Rel13 nds vs n) (hi : i < vs.length) : ∀ w, Below W.heap.size W w →
    Calls Try.prog 42 #[.pointer (some ⟨s, 0, none⟩), .int .i64 (i : Int)] w fun e w' => ∃ v, e = .returned v ∧ AccsAt AnyBlock w' v (someOf vs[i].xs) ∧ Below w.heap.size w w' := fun w hb => by
  refine (All_hold (h.below hb) hT i).mono ?_
  rintro e w' ⟨v, zs, rfl, h1, h2, h3, h4⟩
  have ha := hR.all hi
  obtain rfl : zs = someOf vs[i].xs := rising_accs h2 ha.1 fun x => by rw [h3, ha.2]
  exact ⟨v, rfl, h1.accs.mono fun _ _ => trivial, h1.bel⟩
theorem c56 {T : Nat → Prop} {W : World} {v : Value} {xs : List Acc} (hx : AccsAt T W v xs) (hT : ∀ b, T b → b < W.heap.size) (hn : xs.length ≤ 1000000) : ∀ w, Below W.heap.size W w →
    Calls Try.prog 56 #[v] w fun e w' => ∃ v, e = .returned v ∧ AccsAt AnyBlock w' v (someOf xs) ∧ Below w.heap.size w w' := fun w hb => by
  refine (ref13_Some w v xs (hx.below hb) (fun b h => Nat.lt_of_lt_of_le (hT b h) hb.size) hn).mono ?_
  rintro e w' ⟨v', rfl, h⟩
  exact ⟨v', rfl, h.accs (fun _ _ => trivial) (fun _ _ _ => trivial), h.bel⟩
/-- A row of cells, as a range. -/
theorem range_of {w : World} {b : Nat} {cs : Array Value} (h : rowOf w b = cs) : w.rangeAt b 0 cs.toList := fun j v hv => by
  rw [Nat.zero_add, cell_row, h]
  simpa using hv
end Go.Proofs.Ytadafohgglnneaa
