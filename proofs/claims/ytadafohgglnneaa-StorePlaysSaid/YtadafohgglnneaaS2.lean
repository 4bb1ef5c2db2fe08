/- The store's find and Find: the account of a version, out of the versions it goes back to. No condition. -/
import Derived.Test.YtadafohgglnneaaS1
namespace Go.Proofs.Ytadafohgglnneaa
open Go.RowKit
def findF (nds : List Nd) (a : Adr) : Nat → Int → Option Acc
  | 0, _ => none
  | f + 1, v => if 0 ≤ v then match nds[v.toNat]? with
    | none => none
    | some d => match findK a d.xs with
      | some x => some x
      | none => findF nds a f d.par
    else none
def findV (nds : List Nd) (v : Int) (a : Adr) : Option Acc := if hasV nds v then findF nds a (v + 1).toNat v else none
def ParOk (nds : List Nd) : Prop := ∀ i (hi : i < nds.length), -1 ≤ nds[i].par ∧ nds[i].par < i
theorem findF_fuel {nds : List Nd} (hp : ParOk nds) (a : Adr) : ∀ (f1 f2 : Nat) (v : Int), v + 1 ≤ f1 → v + 1 ≤ f2 → findF nds a f1 v = findF nds a f2 v
  | 0, 0, _, _, _ => rfl
  | 0, f2 + 1, v, h1, _ => by simp only [findF]; rw [if_neg (by omega)]
  | f1 + 1, 0, v, _, h2 => by simp only [findF]; rw [if_neg (by omega)]
  | f1 + 1, f2 + 1, v, h1, h2 => by
    simp only [findF]
    split
    · cases hd : nds[v.toNat]? with
      | none => rfl
      | some d =>
        obtain ⟨hi, hd'⟩ := List.getElem?_eq_some_iff.1 hd
        have := hp v.toNat hi
        rw [hd'] at this
        simp only
        rw [findF_fuel hp a f1 f2 d.par (by omega) (by omega)]
    · rfl
/-- One step back. -/
theorem findF_step {nds : List Nd} (hp : ParOk nds) (a : Adr) (i : Nat) (hi : i < nds.length) : findF nds a ((i : Int) + 1).toNat i = match findK a nds[i].xs with
    | some x => some x
    | none => findF nds a (nds[i].par + 1).toNat nds[i].par := by
  have e : ((i : Int) + 1).toNat = i + 1 := by omega
  rw [e]
  simp only [findF]
  rw [if_pos (by omega), Int.toNat_natCast, List.getElem?_eq_getElem hi]
  simp only
  rw [findF_fuel hp a i (nds[i].par + 1).toNat nds[i].par (by have := hp i hi; omega) (by have := hp i hi; omega)]
theorem findF_end {nds : List Nd} (a : Adr) (v : Int) (f : Nat) (hv : v < 0) : findF nds a f v = none := by
  cases f with
  | zero => rfl
  | succ f => simp only [findF]; rw [if_neg (by omega)]
def zeroAcc : Acc := emptyAcc zeroAdr
/-- What find answers: the account in somebody's lists. -/
def Got (S : Nat → Prop) (w : World) (o : Option Acc) (e : Ending) (w' : World) : Prop :=
  ∃ r, e = .returned (.tuple #[.agg r, .bool o.isSome]) ∧ AccIn S w' r (o.getD zeroAcc) ∧ Below w.heap.size w w'
def zeroRow : Array Value := accRow zeroAdr 0 zeroWrd (.slice none 0 0) (.slice none 0 0)
set_option maxRecDepth 100000 in
set_option maxHeartbeats 1000000 in
theorem store_find {S : Nat → Prop} {w : World} {s g c : Nat} {nds : List Nd} (h : StoreAt S w s g c nds) (v : Int) (a : Adr) :
    Calls Try.prog 82 #[.pointer (some ⟨s, 0, none⟩), .int .i64 v, .agg a.cells] w (Got S w (findV nds v a)) := by
  have B1 : Below w.heap.size w ((w.alloc (.cells a.cells 23)).alloc (.cells zeroRow 30)) := bel_alloc (bel_alloc (Below.refl _ _) _) _
  unfold zeroRow at B1
  by_cases hv : hasV nds v = true
  rotate_left
  · have hv' : hasV nds v = false := by simpa using hv
    rw [findV, hv']
    go_enter Try.func82, Try.ntmps82
    go_wp2_with fail
    refine (store_has (h.below B1) v).mono ?_
    rintro e w1 ⟨rfl, rfl⟩
    rw [hv']
    go_wp2
    refine bodyPost_ret (v := .tuple #[.agg zeroRow, .bool false]) (by simp [results, Try.results82, go_sem, zeroRow]) rfl ⟨zeroRow, rfl, AccIn.empty _ _ _, ?_⟩
    repeat (first | exact Below.refl _ _ | apply bel_alloc | (apply bel_setSeg <;> simp))
  · have hR : findV nds v a = findF nds a (v + 1).toNat v := by rw [findV, hv]; rfl
    rw [hR]
    have hv1 : v < nds.length := by simp [hasV] at hv; omega
    have hv0 : 0 ≤ v := by simp [hasV] at hv; omega
    have hp : ParOk nds := h.par
    have hS := Lib.hid h
    have Hp := Lib.hid hp
    have hcap := h.cap
    unfold maxLen at hcap
    have hlen : nds.length ≤ 1048576 := h.fits
    generalize hRR : findF nds a (v + 1).toNat v = R
    have HR := Lib.hid hRR
    clear hRR hp hR
    go_enter Try.func82, Try.ntmps82
    go_wp2_with fail
    refine (store_has (h.below B1) v).mono ?_
    rintro e w1 ⟨rfl, rfl⟩
    rw [hv]
    clear h
    go_wp2
    go_loopw [1] (fun i wr => ∃ u : Int, -1 ≤ u ∧ u < nds.length ∧ i = .int .i64 u ∧ Hid (findF nds a (u + 1).toNat u = R) ∧ Below w.heap.size w wr ∧ rowOf wr w.heap.size = a.cells ∧ isRow wr w.heap.size = true ∧
      rowOf wr (w.heap.size + 1) = accRow zeroAdr 0 zeroWrd (.slice none 0 0) (.slice none 0 0) ∧ isRow wr (w.heap.size + 1) = true ∧ rowFr wr (w.heap.size + 1) = (0, 0)) (fun i _ => (intOf i + 1).toNat)
    case atStart => exact ⟨v, by omega, hv1, rfl, HR, B1, by simp [go_sem], by simp [go_sem], by simp [go_sem], by simp [go_sem], by simp [go_sem]⟩
    case round =>
      obtain ⟨u, hu0, hu1, rfl, hFu, hbel, r0, i0, r1, i1, f1⟩ := hrel
      have g0 := isRow_lt i0
      have g1 := isRow_lt i1
      by_cases hu : u < 0
      · have hR0 : R = none := by rw [← hFu.out]; exact findF_end a u _ hu
        subst hR0
        have hd : decide (0 ≤ u) = false := by simpa using hu
        go_wp2
        refine bodyPost_ret (v := .tuple #[.agg zeroRow, .bool false]) (by simp [results, Try.results82, go_sem, zeroRow, r1]) rfl ⟨zeroRow, rfl, AccIn.empty _ _ _, ?_⟩
        exact bel_setSeg hbel _ _ _ (by omega)
      · obtain ⟨i, rfl⟩ : ∃ i : Nat, u = i := ⟨u.toNat, by omega⟩
        have hi : i < nds.length := by omega
        have hd : decide (0 ≤ (i : Int)) = true := by simp
        have hi0 : (0 : Int) ≤ (i : Int) := by omega
        have hSr := hS.out.below hbel
        have hc := hSr.cell
        obtain ⟨n1, n2⟩ := hSr.node i hi
        have hlt := hSr.lt
        obtain ⟨q1, q2⟩ := hlt
        have q3 : s < wr.heap.size + 1 := by omega
        have q4 : g < wr.heap.size + 1 := by omega
        have q5 : w.heap.size < wr.heap.size + 1 := by omega
        have hst := findF_step Hp.out a i hi
        rw [hFu.out] at hst
        have hpar := Hp.out i hi
        have hnd := hS.out.nodes nds[i] (List.getElem_mem hi)
        generalize hD : nds[i] = d at n1 n2 hst hpar hnd
        have HD := Lib.hid hD
        have Hst := Lib.hid hst
        clear hD hst hSr
        unfold NdIn at hnd
        obtain ⟨par, m, ys⟩ := d
        simp only at n1 n2 hpar hnd
        cases m with
        | none =>
          simp only at hnd
          subst hnd
          have hl : ∀ W, (Instr.lookup 119 (.map none) (.agg a.cells) true).run Try.prog W = .ok (.tuple #[.agg zeroRow, .bool false]) W := fun W => by
            have hk := run_findKey Adr.cells equal23 wide23 W a []
            simp only [List.map_nil, placeE] at hk
            simp [Instr.lookup, run_underlying Try.underlying119, check23, zeroRow, hk]
            rfl
          unfold zeroRow at hl
          go_wp2
          go_region
          go_wp2
          go_roundw
          case rel =>
            refine ⟨par, hpar.1, by omega, rfl, Lib.hid Hst.out.symm, ?_, ?_, ?_, ?_, ?_, ?_⟩
            · repeat (first | exact hbel | apply bel_drewN | apply bel_drew | apply bel_alloc | (refine bel_setSeg ?_ _ _ _ (by omega)))
            all_goals simp [go_sem, *]
          case measure => simp [intOf]; omega
        | some k =>
          obtain ⟨kn, kc, e1, e2, e3⟩ := hnd
          have e0 := objAt_lt e1
          rw [← bel_objAt hbel k e0] at e1
          have q6 := objAt_lt e1
          have q7 : k < wr.heap.size + 1 := by omega
          rcases e3.find a with ⟨p1, p2⟩ | ⟨r, x, p1, p2, p3, p4⟩
          · have hl : ∀ W, objAt W k = some (mapObj Adr.cells kn kc) → (Instr.lookup 119 (.map (some k)) (.agg a.cells) true).run Try.prog W = .ok (.tuple #[.agg zeroRow, .bool false]) W := fun W hW => by
              rw [look119 W k kn kc hW a true, p1]; rfl
            unfold zeroRow at hl
            have Hst2 : findF nds a (par + 1).toNat par = R := by have := Hst.out; simp only [p2] at this; exact this.symm
            have Hst3 := Lib.hid Hst2
            clear Hst Hst2 e2 e3 p1 p2
            go_wp2
            go_region
            go_wp2
            go_roundw
            case rel =>
              refine ⟨par, hpar.1, by omega, rfl, Lib.hid Hst3.out, ?_, ?_, ?_, ?_, ?_, ?_⟩
              · repeat (first | exact hbel | apply bel_drewN | apply bel_drew | apply bel_alloc | (refine bel_setSeg ?_ _ _ _ (by omega)))
              all_goals simp [go_sem, *]
            case measure => simp [intOf]; omega

          · have hl : ∀ W, objAt W k = some (mapObj Adr.cells kn kc) → (Instr.lookup 119 (.map (some k)) (.agg a.cells) true).run Try.prog W = .ok (.tuple #[.agg r, .bool true]) W := fun W hW => by
              rw [look119 W k kn kc hW a true, p1]; rfl
            have Hst2 : R = some x := by have := Hst.out; simp only [p2] at this; exact this
            subst Hst2
            have hrs := p4.size
            have hr1 := p4.one
            have hrw : r.extract 0 27 = r := by rw [← hrs]; simp
            have P4 := Lib.hid p4
            clear e2 e3 p1 p2 p4 Hst
            go_wp2
            go_region
            go_wp2
            refine bodyPost_ret (v := .tuple #[.agg r, .bool true]) (by simp [results, Try.results82, go_sem, hrs, hrw, r1, g1]) rfl ⟨r, rfl, P4.out.below ?_, ?_⟩
            all_goals repeat (first | exact hbel | apply bel_drewN | apply bel_drew | apply bel_alloc | (refine bel_setSeg ?_ _ _ _ (by omega)))
end Go.Proofs.Ytadafohgglnneaa
