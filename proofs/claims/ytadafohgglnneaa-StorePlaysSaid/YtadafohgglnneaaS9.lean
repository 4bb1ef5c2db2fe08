/- The store's Len; how many commits are gone through; rows of the same accounts. No condition. -/
import Derived.Test.YtadafohgglnneaaS8
import Derived.Test.YtadafohgglnneaaX10
namespace Go.Proofs.Ytadafohgglnneaa
open Go.RowKit
set_option maxRecDepth 100000 in
theorem store_Len {S : Nat → Prop} {w : World} {s g c : Nat} {nds : List Nd} (h : StoreAt S w s g c nds) :
    Calls Try.prog 41 #[.pointer (some ⟨s, 0, none⟩)] w fun e w' => e = .returned (.int .i64 nds.length) ∧ w' = w := by
  have hc := h.cell
  clear h
  go_enter Try.func41, Try.ntmps41
  go_wp2
  go_ret
  exact ⟨rfl, rfl⟩
/-- A commit, as cells. -/
def opArr (p : Int) (a : Option Addr) (n c : Nat) : Array Value := #[.int .i64 p] ++ #[.slice a n c]
section
variable (p : Int) (a : Option Addr) (n c : Nat)
@[go_sem, simp] theorem opArr_size : (opArr p a n c).size = 2 := by simp [opArr]
@[go_sem] theorem opArr_ones : ones (opArr p a n c) = true := by rw [opArr, ones_append]; rfl
@[go_sem, simp] theorem opArr_whole : (opArr p a n c).extract 0 2 = opArr p a n c := rfl
@[go_sem] theorem opArr_at0 (h : 0 < (opArr p a n c).size) : (opArr p a n c)[0] = .int .i64 p := by simp [opArr]
@[go_sem] theorem opArr_at1 (h : 1 < (opArr p a n c).size) : (opArr p a n c)[1] = .slice a n c := by simp [opArr]
@[go_sem] theorem opArr_get0 : (opArr p a n c)[0]? = some (.int .i64 p) := by simp [opArr]
@[go_sem] theorem opArr_get1 : (opArr p a n c)[1]? = some (.slice a n c) := by simp [opArr]
end
def Op13E (w : World) (r : Array Value) (o : Op13) : Prop := ∃ a c, r = opArr o.par a o.l.length c ∧ AccsAt AnyBlock w (.slice a o.l.length c) o.l
theorem ops13_rows {w : World} {v : Value} {os : List Op13} (h : Ops13At w v os) : RowsAt AnyBlock Op13E w v os := by
  obtain ⟨rs, h1, h2, _⟩ := h
  refine ⟨rs, h1, h2.imp fun r o ⟨v, e, ha⟩ => ?_⟩
  obtain ⟨p, c, rfl⟩ := ha.form
  exact ⟨p, c, e, ha⟩
theorem rowsOp13_below {S : Nat → Prop} {w w' : World} {v : Value} {os : List Op13} (h : RowsAt S Op13E w v os) (hb : Below w.heap.size w w') : RowsAt S Op13E w' v os := by
  obtain ⟨rs, h1, h2⟩ := h
  exact ⟨rs, h1.below hb, h2.imp fun r o ⟨a, c, e, ha⟩ => ⟨a, c, e, ha.below hb⟩⟩
theorem op13_size (w : World) (r : Array Value) (o : Op13) (h : Op13E w r o) : r.size = 2 := by
  obtain ⟨a, c, rfl, _⟩ := h; simp
def bad13 (os : List Op13) (j : Nat) : Bool := match os[j]? with
  | some o => greatB o.l
  | none => false
set_option maxRecDepth 100000 in
set_option maxHeartbeats 2000000 in
theorem cut13 (w : World) (p : Option Addr) (c : Nat) (os : List Op13) (h : RowsAt AnyBlock Op13E w (.slice p os.length c) os) :
    Calls Try.prog 40 #[.slice p os.length c] w (CutOut w p c (bad13 os) 31 os.length) := by
  have hle := RowsAt.le h
  unfold maxLen at hle
  have H := Lib.hid h
  clear h
  go_enter Try.func40, Try.ntmps40
  go_wp2
  go_loopw [7] (fun vi wr => ∃ k : Nat, k ≤ os.length ∧ k ≤ 31 ∧ vi = .int .i64 k ∧ Hid (∀ j, j < k → bad13 os j = false) ∧ Below w.heap.size w wr) (fun vi _ => os.length - (intOf vi).toNat)
  case atStart => exact ⟨0, Nat.zero_le _, by omega, rfl, Lib.hid (fun j h => by omega), Below.refl _ _⟩
  case round =>
    obtain ⟨k, hk, hk1, rfl, hok, hbel⟩ := hrel
    by_cases hlt : k < os.length
    · obtain ⟨b, o, cc, rs, hv', q1, q2, -, hbb, hsz, hall⟩ := RowsAt.pos (rowsOp13_below H.out hbel) 2 (op13_size _) (by decide) (by omega)
      cases hv'
      obtain ⟨hrow, a', c', hr', hacc⟩ := hall k hlt
      rw [hr'] at hrow
      have hs1 : o + k * 2 + 2 ≤ (rowOf wr b).size := by omega
      have hki : (k : Int) < (os.length : Int) := by omega
      have hki0 : (0 : Int) ≤ (k : Int) := by omega
      have hkc : (k : Int) ≤ (c : Int) := by omega
      have hbad : bad13 os k = greatB os[k].l := by simp [bad13, hlt]
      generalize os[k].l = l at *
      generalize os[k].par = par at *
      clear hall hr'
      have hB1 : Below wr.heap.size wr (wr.alloc (.cells (opArr par a' l.length c') 73)) := bel_alloc (Below.refl _ _) _
      have HB1 := Lib.hid (bel_trans hbel hB1)
      have Hat := Lib.hid (hacc.below hB1)
      clear hB1 hacc
      by_cases h100 : k = 31
      · have hd : decide ((30 : Int) < (k : Int)) = true := by simp; omega
        clear h100
        go_wp2
        go_ret
        exact ⟨k, rfl, hk, hk1, hok.out, HB1.out⟩
      · have hd : decide ((30 : Int) < (k : Int)) = false := by simp; omega
        go_wp2_with fail
        refine (ref13_Great (S := AnyBlock) _ _ l Hat.out).mono ?_
        rintro e w2 ⟨rfl, hb2⟩
        have B2 := Lib.hid (bel_trans HB1.out hb2)
        clear hb2
        cases hg : greatB l with
        | true =>
          go_wp2
          go_ret
          exact ⟨k, rfl, hk, hk1, hok.out, B2.out⟩
        | false =>
          have hok2 : Hid (∀ j, j < k + 1 → bad13 os j = false) := Lib.hid (fun j h => by
            by_cases hj : j = k
            · subst hj; rw [hbad, hg]
            · exact hok.out j (by omega))
          clear hbad hg
          go_wp2
          go_roundw
          case rel => exact ⟨k + 1, by omega, by omega, by go_num, hok2, B2.out⟩
          case measure => simp [intOf]; omega
    · obtain rfl : k = os.length := by omega
      have hki : ¬ ((os.length : Int) < (os.length : Int)) := by omega
      go_wp2
      go_ret
      exact ⟨_, rfl, hk, hk1, hok.out, hbel⟩
theorem same_self {S T : Nat → Prop} (w : World) (r1 r2 : Array Value) (x : Acc) (hx : AccIn S w r1 x) (hy : AccIn T w r2 x) :
    Calls Try.prog 27 #[.agg r1, .agg r2] w fun e w' => e = .returned (.bool true) ∧ Below w.heap.size w w' := by
  refine (ref13_Same w r1 r2 x x hx hy).mono ?_
  rintro e w' ⟨rfl, hb⟩
  exact ⟨by simp, hb⟩
set_option maxRecDepth 100000 in
set_option maxHeartbeats 2000000 in
theorem same_all {S T : Nat → Prop} (w : World) (v1 v2 : Value) (xs : List Acc) (h1 : AccsAt S w v1 xs) (h2 : AccsAt T w v2 xs) :
    Calls Try.prog 43 #[v1, v2] w fun e w' => e = .returned (.bool true) ∧ Below w.heap.size w w' := by
  obtain ⟨p1, c1, rfl⟩ := h1.form
  obtain ⟨p2, c2, rfl⟩ := h2.form
  have hl1 := h1.le
  have hl2 := h2.le
  unfold maxLen at hl1 hl2
  have H1 := Lib.hid h1
  have H2 := Lib.hid h2
  clear h1 h2
  go_enter Try.func43, Try.ntmps43
  go_wp2
  go_loopw [13] (fun vi wr => ∃ k : Nat, k ≤ xs.length ∧ vi = .int .i64 k ∧ Below w.heap.size w wr) (fun vi _ => xs.length - (intOf vi).toNat)
  case atStart => exact ⟨0, Nat.zero_le _, rfl, Below.refl _ _⟩
  case round =>
    obtain ⟨k, hk, rfl, hbel⟩ := hrel
    by_cases hlt : k < xs.length
    · obtain ⟨b, o, cc, rs, hv', q1, q2, -, hb0, hsz, hall⟩ := (H1.out.below hbel).pos (by omega)
      cases hv'
      obtain ⟨b2, o2, cc2, rs2, hv2', q12, q22, -, hb02, hsz2, hall2⟩ := (H2.out.below hbel).pos (by omega)
      cases hv2'
      obtain ⟨hrow, hacc⟩ := hall k hlt
      obtain ⟨hrow2, hacc2⟩ := hall2 k hlt
      have hs1 : o + k * 27 + 27 ≤ (rowOf wr b).size := by omega
      have hs2 : o2 + k * 27 + 27 ≤ (rowOf wr b2).size := by omega
      have hki : (k : Int) < (xs.length : Int) := by omega
      have hki0 : (0 : Int) ≤ (k : Int) := by omega
      generalize accAt xs k = x at *
      generalize rowAt rs k = r1 at *
      generalize rowAt rs2 k = r2 at *
      have hz1 := hacc.one
      have hz2 := hacc2.one
      have A1 := Lib.hid hacc
      have A2 := Lib.hid hacc2
      clear hall hall2 hacc hacc2 H1 H2
      go_wp2
      refine wp_region_quiet_below (by kernel_rfl) (by kernel_rfl) ?_
      repeat (go_big_quiet_step ((go_at_call 27; exact Calls.regrown_of (same_self _ _ _ x (A1.out.below (below_regrown _ _ _)) (A2.out.below (below_regrown _ _ _))))))
      refine wpQuiet_nil ?_
      rintro w1 ⟨q, rfl⟩
      have bw := below_regrown wr q.d q.os
      generalize Sort.grow (redrawn wr q.d) q.os = W1 at *
      go_wp2
      go_roundw
      case rel => exact ⟨k + 1, by omega, by go_num, bel_trans hbel bw⟩
      case measure => simp [intOf]; omega
    · obtain rfl : k = xs.length := by omega
      have hki : ¬ ((xs.length : Int) < (xs.length : Int)) := by omega
      go_wp2
      go_ret
      exact ⟨rfl, hbel⟩
end Go.Proofs.Ytadafohgglnneaa
