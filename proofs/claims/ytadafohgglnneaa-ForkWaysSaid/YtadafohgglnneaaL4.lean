/- Of accounts that are all filled from one remote state a cache knows that state's: the walk of the law, and the law. No condition. -/
import Derived.Test.YtadafohgglnneaaF9
import Derived.Test.YtadafohgglnneaaF4
import Derived.Test.YtadafohgglnneaaX5
import Derived.Test.YtadafohgglnneaaX10
import Derived.Test.YtadafohgglnneaaX12
import Derived.Test.YtadafohgglnneaaS5
import Derived.Deep.CutRange
namespace Go.Proofs.Ytadafohgglnneaa
open Go.RowKit
/-- The two caches of the law, behind i rounds. -/
structure Two (w w' : World) (r : List Acc) (ord : List Adr) (ca ka ta cb kb tb : Nat) (i l : Nat) : Prop where
  st : ∃ xa xb, HoldC (fun b => b = ka ∨ b = ta ∨ b = kb ∨ b = tb) w w' ca ka ta xa [] ∧ HoldC (fun b => b = ka ∨ b = ta ∨ b = kb ∨ b = tb) w w' cb kb tb xb [] ∧ OfRem r xa ∧ OfRem r xb ∧
    (∀ j, j < i → Has xa (adrAt ord j)) ∧ (∀ j, j < l → Has xb (adrAt ord (ord.length - 1 - j)))
  bel : Below w.heap.size w w'
/-- The variables of one round: an address in block A, its account in block P. -/
structure Rnd (w w' : World) (r : List Acc) (A P : Nat) (at' : Adr) : Prop where
  yA : rowOf w' A = at'.cells
  jA : isRow w' A = true
  P0 : A < P
  rr : ∃ row, rowOf w' P = row ∧ AccIn (fun b => b < w.heap.size) w' row (rem r at')
  jP : isRow w' P = true
  fP : rowFr w' P = (0, 0)
theorem Rnd.kept {M : Nat → Prop} {w w' w'' : World} {r : List Acc} {A P : Nat} {at' : Adr} (h : Rnd w w' r A P at') (hk : Kept M w' w'') (h1 : ¬ M A) (h2 : ¬ M P) (h3 : ∀ b, b < w.heap.size → ¬ M b) : Rnd w w'' r A P at' := by
  have lA := isRow_lt h.jA
  have lP := isRow_lt h.jP
  obtain ⟨row, q1, q2⟩ := h.rr
  exact ⟨by rw [hk.row _ lA h1]; exact h.yA, by rw [hk.isRow _ lA h1]; exact h.jA, h.P0, ⟨row, by rw [hk.row _ lP h2]; exact q1, q2.kept hk h3⟩, by rw [hk.isRow _ lP h2]; exact h.jP, by rw [hk.rowFr _ lP h2]; exact h.fP⟩
theorem Two.below {w w' w'' : World} {r : List Acc} {ord : List Adr} {ca ka ta cb kb tb i l : Nat} (h : Two w w' r ord ca ka ta cb kb tb i l) (hb : Below w'.heap.size w' w'') : Two w w'' r ord ca ka ta cb kb tb i l := by
  obtain ⟨⟨xa, xb, h1, h2, h3⟩, h4⟩ := h
  exact ⟨⟨xa, xb, h1.below hb, h2.below hb, h3⟩, bel_trans h4 hb⟩
set_option maxRecDepth 100000 in
set_option maxHeartbeats 4000000 in
theorem forkWays_walk (w : World) (v1 : Value) (remote : List Acc) (hr : AccsAt AnyBlock w v1 remote) (v2 : Value) (ord : List Adr) (ho : AdrsAt AnyBlock w v2 ord) (v3 : Value) (fails : List UInt8) (hf : SlIn AnyBlock w v3 fails.length (ints .u8 (bI fails))) :
    Calls Try.prog 4 #[v1, v2, v3] w fun e w' => e = .returned (.bool true) ∧ Below w.heap.size w w' := by
  obtain ⟨p1, c1, rfl⟩ := hr.form
  obtain ⟨p2, c2, rfl⟩ := ho.form
  obtain ⟨p3, c3, rfl⟩ := hf.form
  have HR := Lib.hid hr; clear hr
  have HO := Lib.hid ho; clear ho
  have HF := Lib.hid hf; clear hf
  have hc1 := HR.out.le
  unfold maxLen at hc1
  go_enter Try.func4, Try.ntmps4
  go_wp2_with fail
  refine (ref13_Great (S := AnyBlock) _ _ remote HR.out).mono ?_
  rintro e w1 ⟨rfl, hb1⟩
  have Hb1 := Lib.hid hb1; clear hb1
  rcases hg : greatB remote with _ | _
  rotate_left
  · go_wp2_with fail
    refine (fixed15 _).mono ?_
    rintro e w2 ⟨rfl, hb2⟩
    go_wp2
    go_ret
    exact ⟨rfl, bel_trans Hb1.out hb2⟩
  · by_cases hlong : (ord.length : Int) > 100
    · have hd : decide (100 < (ord.length : Int)) = true := by simpa using hlong
      go_wp2_with fail
      refine (fixed15 _).mono ?_
      rintro e w2 ⟨rfl, hb2⟩
      go_wp2
      go_ret
      exact ⟨rfl, bel_trans Hb1.out hb2⟩
    · have hd : decide (100 < (ord.length : Int)) = false := by simpa using hlong
      have hlong' : ord.length ≤ 100 := by omega
      have hsm := great_small hg
      have Hsm := Lib.hid hsm; clear hsm hlong
      go_wp2
      go_loopw [35] (fun i wr => ∃ k : Nat, k ≤ remote.length ∧ i = .int .i64 k ∧ Below w.heap.size w wr ∧ Hid (∀ j, j < k → rightB (accAt remote j).stor = true)) (fun i _ => remote.length - (intOf i).toNat)
      case atStart => exact ⟨0, Nat.zero_le _, rfl, Hb1.out, Lib.hid (fun j h => by omega)⟩
      case round =>
        obtain ⟨k, hk, rfl, hbel, hok⟩ := hrel
        by_cases hlt : k < remote.length
        · obtain ⟨b, o, cc, rs, hv', q1, q2, -, hbb, hsz, hall⟩ := (HR.out.below hbel).pos (by omega)
          cases hv'
          obtain ⟨hrow, hacc⟩ := hall k hlt
          have hs1 : o + k * 27 + 27 ≤ (rowOf wr b).size := by omega
          have hki : (k : Int) < (remote.length : Int) := by omega
          have hki0 : (0 : Int) ≤ (k : Int) := by omega
          have hrz := hacc.size
          have hr1 := hacc.one
          generalize hrr : rowAt rs k = row at *
          have hw27 : row.extract 0 27 = row := by rw [← hrz]; simp
          clear hall
          have B1 : Below wr.heap.size wr (wr.alloc (.cells row 30)) := bel_alloc (Below.refl _ _) _
          go_wp2_with fail
          refine (ref13_Right (S := AnyBlock) _ row _ (hacc.below B1)).mono ?_
          rintro e w2 ⟨rfl, hb2⟩
          have Hb2 := Lib.hid (bel_trans (bel_trans hbel B1) hb2)
          clear hb2
          cases hrt : rightB (accAt remote k).stor
          · go_wp2_with fail
            refine (fixed15 _).mono ?_
            rintro e w3 ⟨rfl, hb3⟩
            go_wp2
            go_ret
            exact ⟨rfl, bel_trans Hb2.out hb3⟩
          · have Hrt := Lib.hid hrt; clear hrt
            go_wp2
            go_roundw
            case rel => exact ⟨k + 1, by omega, by go_num, Hb2.out, Lib.hid (fun j h => by
              by_cases hj : j = k
              · subst hj; exact Hrt.out
              · exact hok.out j (by omega))⟩
            case measure => simp [intOf]; omega
        · obtain rfl : k = remote.length := by omega
          have hright : ∀ x ∈ remote, rightB x.stor = true := by
            intro x hx
            obtain ⟨j, hj, rfl⟩ := List.getElem_of_mem hx
            have := hok.out j hj
            simpa [accAt, hj] using this
          have Hright := Lib.hid hright; clear hright hok
          have hki : ¬ ((remote.length : Int) < (remote.length : Int)) := by omega
          go_wp2_with fail
          refine (fork_New _).mono ?_
          rintro e W1 ⟨rfl, hW1⟩
          have HW1 := Lib.hid hW1; clear hW1
          go_wp2_with fail
          refine (fork_New _).mono ?_
          rintro e W2 ⟨rfl, hW2⟩
          have HW2 := Lib.hid hW2; clear hW2
          go_wp2_with fail
          refine (fixed15 _).mono ?_
          rintro e W3 ⟨rfl, hb3⟩
          have hW1 := HW1.out
          have hW2 := HW2.out
          clear HW1 HW2
          have z0 := hbel.size
          have z1 : W1.heap.size = wr.heap.size + 3 := by rw [hW1]; simp
          have z2 : W2.heap.size = W1.heap.size + 3 := by rw [hW2]; simp
          have b1 : Below wr.heap.size wr W1 := by rw [hW1]; repeat (first | exact Below.refl _ _ | apply bel_alloc)
          have b2 : Below W1.heap.size W1 W2 := by rw [hW2]; repeat (first | exact Below.refl _ _ | apply bel_alloc)
          have b13 := bel_trans b2 hb3
          have z3 := hb3.size
          have hT : Two w W3 remote ord (wr.heap.size + 2) wr.heap.size (wr.heap.size + 1) (W1.heap.size + 2) W1.heap.size (W1.heap.size + 1) 0 0 := by
            refine ⟨⟨[], [], new_cache (w := wr) (by omega) ?_ (fun b hb => by omega), new_cache (w := W1) (by omega) ?_ (fun b hb => by omega), fun _ h => by simp at h, fun _ h => by simp at h, fun j h => by omega, fun j h => by omega⟩, bel_trans (bel_trans hbel b1) b13⟩
            · rw [← z1, ← hW1]; exact b13
            · rw [← z2, ← hW2]; exact hb3
          have g1 : w.heap.size ≤ wr.heap.size := z0
          have z4 : wr.heap.size + 3 ≤ W1.heap.size := by omega
          have z5 : W1.heap.size + 3 ≤ W3.heap.size := by omega
          have HT := Lib.hid hT
          clear hT hW1 hW2 b1 b2 b13 hb3 hbel z0 z1 z2
          generalize wr.heap.size = ka at *
          generalize W1.heap.size = kb at *
          have HO2 := Lib.hid (SlIn.bound HO.out)
          go_wp2
          go_loopw [58] (fun x wr => ∃ i : Nat, i ≤ ord.length ∧ x = .int .i64 i ∧ kb + 3 ≤ wr.heap.size ∧ Two w wr remote ord (ka + 2) ka (ka + 1) (kb + 2) kb (kb + 1) i i) (fun x _ => ord.length - (intOf x).toNat)
          case atStart => exact ⟨0, Nat.zero_le _, rfl, z5, HT.out⟩
          case round =>
            clear HT z3 z5
            obtain ⟨i, hi, rfl, hzr, hT⟩ := hrel
            by_cases hlt : i < ord.length
            · have HT := Lib.hid hT
              have hbel := hT.bel
              obtain ⟨b, o, cc, hv', q1, q2, -, hbb, hsz, hall⟩ := (HO.out.below hbel).pos (by omega)
              cases hv'
              have hrow := hall i hlt
              have hs1 : o + i * 20 + 20 ≤ (rowOf wr b).size := by omega
              have hki : (i : Int) < (ord.length : Int) := by omega
              have hki0 : (0 : Int) ≤ (i : Int) := by omega
              generalize hat : adrAt ord i = at' at *
              clear hall hT
              have hB1 : Below wr.heap.size wr (wr.alloc (.cells at'.cells 23)) := bel_alloc (Below.refl _ _) _
              have HB1 := Lib.hid hB1
              go_wp2_with fail
              refine (ref13_Find (S := fun b => AnyBlock b ∧ b < w.heap.size) _ _ remote at' (HR.out.bound.below (bel_trans hbel hB1))).mono ?_
              rintro e w2 ⟨r2, rfl, a2, hb2⟩
              have hrz := a2.size
              have hr1 := a2.one
              have hw27 : r2.extract 0 27 = r2 := by rw [← hrz]; simp
              obtain ⟨y0, j0, l0⟩ := carryRow hb2 (r := at'.cells) (b := wr.heap.size) (by simp [go_sem]) (by simp [go_sem])
              have HT2 := Lib.hid (HT.out.below (bel_trans hB1 hb2))
              have s2 := hb2.size
              simp only [World.size_alloc] at s2
              generalize hfk : findK at' remote = fo at *
              have A2 := Lib.hid a2
              clear hB1 HB1 hb2 HT a2 hbel hrow hsz hbb
              go_upto_if 70 with (fail)
              go_cut [58] from 58 to 130 (fun x wc => x = .int .i64 i ∧ Two w wc remote ord (ka + 2) ka (ka + 1) (kb + 2) kb (kb + 1) i i ∧ Rnd w wc remote wr.heap.size w2.heap.size at')
              case first =>
                have hA : wr.heap.size < w2.heap.size := by omega
                cases fo with
                | none =>
                  have he : rem remote at' = emptyAcc at' := by rw [rem, hfk]; rfl
                  go_wp2
                  go_meet
                  refine ⟨rfl, HT2.out.below (bel_alloc (Below.refl _ _) _), ⟨by simp [go_sem, y0, hA], by simp [go_sem, j0, hA], hA, ⟨_, rowOf_alloc_at _ _ _ _ rfl, by rw [he]; exact AccIn.empty _ _ _⟩, by simp [go_sem], by simp [go_sem]⟩⟩
                | some x =>
                  have he : rem remote at' = x := by rw [rem, hfk]; rfl
                  go_wp2
                  go_meet
                  refine ⟨rfl, HT2.out.below (bel_alloc (Below.refl _ _) _), ⟨by simp [go_sem, y0, hA], by simp [go_sem, j0, hA], hA, ⟨_, rowOf_alloc_at _ _ _ _ rfl, ?_⟩, by simp [go_sem], by simp [go_sem]⟩⟩
                  rw [he]
                  exact (A2.out.below (bel_alloc (Below.refl _ _) _)).mono fun b hb => hb.2
              case rest =>
                obtain ⟨rfl, hT, hR⟩ := hcut
                obtain ⟨⟨xa, xb, ha, hb, oa, ob, fa, fb⟩, hbel⟩ := hT
                obtain ⟨row, y3, a3⟩ := hR.rr
                have yA := hR.yA
                have jA := hR.jA
                have lA := isRow_lt jA
                clear hfk A2 HT2 hr1 hw27 hrz y0 j0 l0
                go_wp2_with fail
                refine (want_any ha at').mono ?_
                rintro e w3 ⟨rfl, ha3, K3⟩
                have hb3 := hb.kept K3 (fun x e => by omega)
                have hR3 := hR.kept K3 (by omega) (by omega) (fun x hx e => by omega)
                have bel3 := bel_kept hbel K3 (fun x hx e => by omega)
                have hz3 := K3.size
                have hz2 := isRow_lt hR.jP
                clear y3 a3 yA jA lA hR hb ha hbel K3 row
                go_upto_if 76 with (fail)
                go_cut [58] from 58 to 130 (fun x wc => x = .int .i64 i ∧ kb + 3 ≤ wc.heap.size ∧ Two w wc remote ord (ka + 2) ka (ka + 1) (kb + 2) kb (kb + 1) (i + 1) i)
                case first =>
                  by_cases hk : (findK at' xa).isSome = true
                  · have e1 : wantC xa [] at' = 1 := by simp [wantC, hk]
                    have e2 : wantT xa [] at' = [] := by simp [wantT, hk]
                    rw [e1]
                    rw [e2] at ha3
                    go_wp2
                    go_meet
                    refine ⟨rfl, by omega, ⟨xa, xb, ha3, hb3, oa, ob, fun j hj => ?_, fb⟩, bel3⟩
                    by_cases hj' : j = i
                    · subst hj'; rw [hat]; exact hk
                    · exact fa j (by omega)
                  · have hk' : findK at' xa = none := by simpa using hk
                    have e1 : wantC xa [] at' = 3 := by simp [wantC, hk', findT]
                    have e2 : wantT xa [] at' = [(at', 0)] := by simp [wantT, hk', findT, setT]
                    rw [e1]
                    rw [e2] at ha3
                    go_upto_if 80 with (fail)
                    go_cut [58, 15] from 58 to 130 (fun x y wc => x = .int .i64 i ∧ (∃ n : Nat, y = .int .i64 n ∧ n < 20) ∧ wc = w3)
                    case first =>
                      by_cases hf1 : i < fails.length
                      · have hfi : (i : Int) < (fails.length : Int) := by omega
                        obtain ⟨b3, o3, k3, hv3, -, -, -, hbb3, hsz3, hex3⟩ := (HF.out.below bel3).pos (by simp; omega)
                        cases hv3
                        have hcell : w3.cell? ⟨b3, o3 + i, none⟩ = some (.int .u8 (fails[i].toNat : Int)) := by
                          rw [cell_row, seg_get hsz3 hex3 (by simpa using hf1), ints_get]
                          simp [bI, hf1]
                        have hz0 : 0 ≤ (fails[i].toNat : Int) := by omega
                        have hz1 : (fails[i].toNat : Int) < 256 := by have := fails[i].toNat_lt; omega
                        generalize (fails[i].toNat : Int) = z at *
                        obtain ⟨zn, rfl⟩ := Int.eq_ofNat_of_zero_le hz0
                        go_wp2
                        go_meet
                        exact ⟨rfl, ⟨zn % 20, by simp, Nat.mod_lt _ (by decide)⟩, rfl⟩
                      · have hfi : decide ((i : Int) < (fails.length : Int)) = false := by simpa using hf1
                        go_wp2
                        go_meet
                        exact ⟨rfl, ⟨0, rfl, by omega⟩, rfl⟩
                    case rest =>
                      obtain ⟨rfl, ⟨n, rfl, hn⟩, rfl⟩ := hcut
                      go_wp2
                      go_loopw [88] (fun y wl => ∃ m j : Nat, j ≤ n ∧ y = .int .i64 j ∧ m < 8 ∧ wc.heap.size ≤ wl.heap.size ∧ HoldC (fun b => b = ka ∨ b = ka + 1 ∨ b = kb ∨ b = kb + 1) w wl (ka + 2) ka (ka + 1) xa [(at', m)] ∧
                        HoldC (fun b => b = ka ∨ b = ka + 1 ∨ b = kb ∨ b = kb + 1) w wl (kb + 2) kb (kb + 1) xb [] ∧ Rnd w wl remote wr.heap.size w2.heap.size at' ∧ Below w.heap.size w wl) (fun y _ => n - (intOf y).toNat)
                      case atStart => exact ⟨0, 0, Nat.zero_le _, rfl, by omega, Nat.le_refl _, ha3, hb3, hR3, bel3⟩
                      case round =>
                        clear ha3 hb3 hR3 bel3
                        obtain ⟨m, j, hj, rfl, hm, hzl, ha4, hb4, hR4, bel4⟩ := hrel
                        have yA := hR4.yA
                        have jA := hR4.jA
                        have lA := isRow_lt jA
                        by_cases hjn : j < n
                        · have hjn' : (j : Int) < (n : Int) := by omega
                          go_wp2_with fail
                          refine (fail_any ha4 at').mono ?_
                          rintro e w5 ⟨rfl, ha5, K5⟩
                          have hb5 := hb4.kept K5 (fun x e => by omega)
                          have hR5 := hR4.kept K5 (by omega) (by omega) (fun x hx e => by omega)
                          have bel5 := bel_kept bel4 K5 (fun x hx e => by omega)
                          have hz5 := K5.size
                          have yA := hR5.yA
                          have jA := hR5.jA
                          have lA := isRow_lt jA
                          clear ha4 hb4 hR4 bel4 K5
                          have hfT : findT at' [(at', m)] = some m := by simp [findT]
                          by_cases h7 : m = 7
                          · subst h7
                            have e1 : failC [(at', 7)] at' = 5 := by simp [failC, hfT]
                            have e2 : failT [(at', 7)] at' = [] := by simp [failT, hfT, delT]
                            rw [e1]
                            rw [e2] at ha5
                            go_wp2_with fail
                            refine (want_any ha5 at').mono ?_
                            rintro e w6 ⟨rfl, ha6, K6⟩
                            have hb6 := hb5.kept K6 (fun x e => by omega)
                            have hR6 := hR5.kept K6 (by omega) (by omega) (fun x hx e => by omega)
                            have bel6 := bel_kept bel5 K6 (fun x hx e => by omega)
                            have hz6 := K6.size
                            have e3 : wantT xa [] at' = [(at', 0)] := by simp [wantT, hk', findT, setT]
                            rw [e3] at ha6
                            go_wp2
                            go_roundw
                            case rel => exact ⟨0, j + 1, by omega, by go_num, by omega, by omega, ha6, hb6, hR6, bel6⟩
                            case measure => simp [intOf]; omega
                          · have e1 : failC [(at', m)] at' = 4 := by simp [failC, hfT, h7]
                            have e2 : failT [(at', m)] at' = [(at', m + 1)] := by simp [failT, hfT, h7, setT]
                            rw [e1]
                            rw [e2] at ha5
                            go_wp2
                            go_roundw
                            case rel => exact ⟨m + 1, j + 1, by omega, by go_num, by omega, by omega, ha5, hb5, hR5, bel5⟩
                            case measure => simp [intOf]; omega
                        · obtain rfl : j = n := by omega
                          have hjn' : ¬ ((j : Int) < (j : Int)) := by omega
                          obtain ⟨row, y5, a5⟩ := hR4.rr
                          have jP := hR4.jP
                          have lP := isRow_lt jP
                          have hrz := a5.size
                          have hr1 := a5.one
                          have hw27 : row.extract 0 27 = row := by rw [← hrz]; simp
                          clear yA jA lA
                          go_wp2_with fail
                          refine (fill_any ha4 row (rem remote at') a5 (fun x hx => by omega) (rem_small Hsm.out at')).mono ?_
                          rintro e w5 ⟨rfl, ha5, K5⟩
                          have hb5 := hb4.kept K5 (fun x e => by omega)
                          have bel5 := bel_kept bel4 K5 (fun x hx e => by omega)
                          have hz5 := K5.size
                          have hfB : fillB [(at', m)] (rem remote at') = true := by simp [fillB, rem_right Hright.out, rem_adr, findT]
                          rw [hfB] at ha5 ⊢
                          have hdl : delT (rem remote at').adr [(at', m)] = [] := by simp [delT, rem_adr]
                          simp only [if_true, hdl] at ha5
                          go_wp2
                          go_meet
                          refine ⟨rfl, by omega, ⟨_, xb, ha5, hb5, oa.set at', ob, fun q hq => ?_, fb⟩, bel5⟩
                          by_cases hq' : q = i
                          · subst hq'; rw [hat]; exact Has.self remote xa at'
                          · exact (fa q (by omega)).set at'
                case rest =>
                  obtain ⟨rfl, hzc, hT⟩ := hcut
                  have HT := Lib.hid hT
                  have hbel := hT.bel
                  clear hb3 ha3 hR3 bel3 hT oa ob fa fb
                  obtain ⟨b9, o9, c9, hv9, -, -, -, hbb9, hsz9, hall9⟩ := (HO.out.below hbel).pos (by omega)
                  have hl1 : ord.length - 1 - i < ord.length := by omega
                  have hrow := hall9 _ hl1
                  cases hv9
                  have hs1 : o + (ord.length - 1 - i) * 20 + 20 ≤ (rowOf wc b).size := by omega
                  generalize hbk : adrAt ord (ord.length - 1 - i) = bk at *
                  clear hall9
                  have hB1 : Below wc.heap.size wc (wc.alloc (.cells bk.cells 23)) := bel_alloc (Below.refl _ _) _
                  have HB1 := Lib.hid hB1
                  go_wp2_with fail
                  refine (ref13_Find (S := fun b => AnyBlock b ∧ b < w.heap.size) _ _ remote bk (HR.out.bound.below (bel_trans hbel hB1))).mono ?_
                  rintro e w7 ⟨r7, rfl, a7, hb7⟩
                  have hrz := a7.size
                  have hr1 := a7.one
                  have hw27 : r7.extract 0 27 = r7 := by rw [← hrz]; simp
                  obtain ⟨y0, j0, l0⟩ := carryRow hb7 (r := bk.cells) (b := wc.heap.size) (by simp [go_sem]) (by simp [go_sem])
                  have HT7 := Lib.hid (HT.out.below (bel_trans hB1 hb7))
                  have s7 := hb7.size
                  simp only [World.size_alloc] at s7
                  generalize hfk7 : findK bk remote = fo7 at *
                  have A7 := Lib.hid a7
                  clear hB1 HB1 hb7 HT a7 hbel hrow hbb9 hsz9 hs1
                  go_upto_if 117 with (fail)
                  go_cut [58] from 58 to 130 (fun x wd => x = .int .i64 i ∧ Two w wd remote ord (ka + 2) ka (ka + 1) (kb + 2) kb (kb + 1) (i + 1) i ∧ Rnd w wd remote wc.heap.size w7.heap.size bk)
                  case first =>
                    have hA : wc.heap.size < w7.heap.size := by omega
                    cases fo7 with
                    | none =>
                      have he : rem remote bk = emptyAcc bk := by rw [rem, hfk7]; rfl
                      go_wp2
                      go_meet
                      refine ⟨rfl, HT7.out.below (bel_alloc (Below.refl _ _) _), ⟨by simp [go_sem, y0, hA], by simp [go_sem, j0, hA], hA, ⟨_, rowOf_alloc_at _ _ _ _ rfl, by rw [he]; exact AccIn.empty _ _ _⟩, by simp [go_sem], by simp [go_sem]⟩⟩
                    | some x =>
                      have he : rem remote bk = x := by rw [rem, hfk7]; rfl
                      go_wp2
                      go_meet
                      refine ⟨rfl, HT7.out.below (bel_alloc (Below.refl _ _) _), ⟨by simp [go_sem, y0, hA], by simp [go_sem, j0, hA], hA, ⟨_, rowOf_alloc_at _ _ _ _ rfl, ?_⟩, by simp [go_sem], by simp [go_sem]⟩⟩
                      rw [he]
                      exact (A7.out.below (bel_alloc (Below.refl _ _) _)).mono fun b hb => hb.2
                  case rest =>
                    have hzw := s7
                    rename_i wd _
                    obtain ⟨rfl, hT, hR⟩ := hcut
                    obtain ⟨⟨xa, xb, ha, hb, oa, ob, fa, fb⟩, hbel⟩ := hT
                    obtain ⟨row, y3, a3⟩ := hR.rr
                    have yA := hR.yA
                    have jA := hR.jA
                    have lA := isRow_lt jA
                    clear hfk7 A7 HT7 hr1 hw27 hrz y0 j0 l0
                    go_wp2_with fail
                    refine (want_any hb bk).mono ?_
                    rintro e w8 ⟨rfl, hb8, K8⟩
                    have ha8 := ha.kept K8 (fun x e => by omega)
                    have hR8 := hR.kept K8 (by omega) (by omega) (fun x hx e => by omega)
                    have bel8 := bel_kept hbel K8 (fun x hx e => by omega)
                    have hz8 := K8.size
                    have hz9 := isRow_lt hR.jP
                    clear y3 a3 yA jA lA hR hb ha hbel K8 row
                    by_cases hk : (findK bk xb).isSome = true
                    · have e1 : wantC xb [] bk = 1 := by simp [wantC, hk]
                      have e2 : wantT xb [] bk = [] := by simp [wantT, hk]
                      rw [e1]
                      rw [e2] at hb8
                      go_wp2
                      go_roundw
                      case rel =>
                        refine ⟨i + 1, by omega, by go_num, by omega, ⟨xa, xb, ha8, hb8, oa, ob, fa, fun j hj => ?_⟩, bel8⟩
                        by_cases hj' : j = i
                        · subst hj'; rw [hbk]; exact hk
                        · exact fb j (by omega)
                      case measure => simp [intOf]; omega
                    · have hk' : findK bk xb = none := by simpa using hk
                      have e1 : wantC xb [] bk = 3 := by simp [wantC, hk', findT]
                      have e2 : wantT xb [] bk = [(bk, 0)] := by simp [wantT, hk', findT, setT]
                      rw [e1]
                      rw [e2] at hb8
                      obtain ⟨row, y5, a5⟩ := hR8.rr
                      have jP := hR8.jP
                      have lP := isRow_lt jP
                      have hrz := a5.size
                      have hr1 := a5.one
                      have hw27 : row.extract 0 27 = row := by rw [← hrz]; simp
                      go_wp2_with fail
                      refine (fill_any hb8 row (rem remote bk) a5 (fun x hx => by omega) (rem_small Hsm.out bk)).mono ?_
                      rintro e w9 ⟨rfl, hb9, K9⟩
                      have ha9 := ha8.kept K9 (fun x e => by omega)
                      have bel9 := bel_kept bel8 K9 (fun x hx e => by omega)
                      have hz9 := K9.size
                      have hfB : fillB [(bk, 0)] (rem remote bk) = true := by simp [fillB, rem_right Hright.out, rem_adr, findT]
                      rw [hfB] at hb9 ⊢
                      have hdl : delT (rem remote bk).adr [(bk, 0)] = [] := by simp [delT, rem_adr]
                      simp only [if_true, hdl] at hb9
                      go_wp2
                      go_roundw
                      case rel =>
                        refine ⟨i + 1, by omega, by go_num, by omega, ⟨xa, _, ha9, hb9, oa, ob.set bk, fa, fun q hq => ?_⟩, bel9⟩
                        by_cases hq' : q = i
                        · subst hq'; rw [hbk]; exact Has.self remote xb bk
                        · exact (fb q (by omega)).set bk
                      case measure => simp [intOf]; omega
            · obtain rfl : i = ord.length := by omega
              obtain ⟨⟨xa, xb, ha, hb, oa, ob, fa, fb⟩, hbel⟩ := hT
              have fb' : ∀ j, j < ord.length → Has xb (adrAt ord j) := fun j hj => by
                have := fb (ord.length - 1 - j) (by omega)
                rwa [show ord.length - 1 - (ord.length - 1 - j) = j by omega] at this
              have OA := Lib.hid oa
              have OB := Lib.hid ob
              have FA := Lib.hid fa
              have FB := Lib.hid fb'
              clear oa ob fa fb fb'
              have hki : ¬ ((ord.length : Int) < (ord.length : Int)) := by omega
              go_wp2
              go_loopw [133] (fun x wq => ∃ q : Nat, q ≤ ord.length ∧ x = .int .i64 q ∧ HoldC (fun b => b = ka ∨ b = ka + 1 ∨ b = kb ∨ b = kb + 1) w wq (ka + 2) ka (ka + 1) xa [] ∧
                HoldC (fun b => b = ka ∨ b = ka + 1 ∨ b = kb ∨ b = kb + 1) w wq (kb + 2) kb (kb + 1) xb [] ∧ Below w.heap.size w wq) (fun x _ => ord.length - (intOf x).toNat)
              case atStart => exact ⟨0, Nat.zero_le _, rfl, ha, hb, hbel⟩
              case round =>
                clear ha hb hbel hzr
                obtain ⟨q, hq, rfl, ha, hb, hbel⟩ := hrel
                by_cases hlt : q < ord.length
                · obtain ⟨b, o, cc, hv', -, -, -, hbb, hsz, hall⟩ := (HO.out.below hbel).pos (by omega)
                  cases hv'
                  have hrow := hall q hlt
                  have hs1 : o + q * 20 + 20 ≤ (rowOf wr b).size := by omega
                  have hki : (q : Int) < (ord.length : Int) := by omega
                  have hki0 : (0 : Int) ≤ (q : Int) := by omega
                  have hfa := OA.out.get (FA.out q hlt)
                  have hfb := OB.out.get (FB.out q hlt)
                  generalize adrAt ord q = at' at *
                  clear hall
                  have B1 : Below wr.heap.size wr (wr.alloc (.cells at'.cells 23)) := bel_alloc (Below.refl _ _) _
                  go_wp2_with fail
                  have C1 := account_any (ha.below B1) at'
                  rw [hfa] at C1
                  refine C1.mono ?_
                  rintro e w5 ⟨r5, rfl, a5, b5⟩
                  have z5 := a5.size
                  have o5 := a5.one
                  have e5 : r5.extract 0 27 = r5 := by rw [← z5]; simp
                  obtain ⟨y5, j5, l5⟩ := carryRow b5 (r := at'.cells) (b := wr.heap.size) (by simp [go_sem]) (by simp [go_sem])
                  have l5' : wr.heap.size < w5.heap.size + 1 := by omega
                  have B5 : Below w5.heap.size w5 (w5.alloc (.cells r5 30)) := bel_alloc (Below.refl _ _) _
                  have BB5 := bel_trans (bel_trans B1 b5) B5
                  have A5 := Lib.hid a5
                  clear b5 C1 a5 hrow hs1 hbb hsz
                  go_wp2_with fail
                  have C2 := account_any (hb.below BB5) at'
                  rw [hfb] at C2
                  refine C2.mono ?_
                  rintro e w6 ⟨r6, rfl, a6, b6⟩
                  have z6 := a6.size
                  have o6 := a6.one
                  have e6 : r6.extract 0 27 = r6 := by rw [← z6]; simp
                  obtain ⟨y6, j6, l6⟩ := carryRow b6 (r := r5) (b := w5.heap.size) (by simp [go_sem]) (by simp [go_sem])
                  have l6' : w5.heap.size < w6.heap.size + 1 := by omega
                  have B6 : Below w6.heap.size w6 (w6.alloc (.cells r6 30)) := bel_alloc (Below.refl _ _) _
                  have BB6 := bel_trans BB5 (bel_trans b6 B6)
                  have X5 := A5.out.below (bel_trans B5 (bel_trans b6 B6))
                  have X6 := a6.below B6
                  clear b6 C2 a6
                  go_wp2_with fail
                  refine (ref13_Same _ _ _ _ _ X5 X6).mono ?_
                  rintro e w7 ⟨rfl, b7⟩
                  have BB7 := bel_trans BB6 b7
                  simp only [Option.getD_some, decide_true]
                  go_wp2
                  go_roundw
                  case rel => exact ⟨q + 1, by omega, by go_num, ha.below BB7, hb.below BB7, bel_trans hbel BB7⟩
                  case measure => simp [intOf]; omega
                · obtain rfl : q = ord.length := by omega
                  have hki : ¬ ((ord.length : Int) < (ord.length : Int)) := by omega
                  go_wp2
                  go_ret
                  exact ⟨rfl, hbel⟩
namespace forkWaysDone
open Go.ChangeShapes Go.WideShapes Go.ChangeAt
set_option maxRecDepth 100000 in
set_option maxHeartbeats 1000000 in
theorem lifted (os : Os) (started : os.Started) (H : Type) (enc : TypeId × Value → H) :
    ReturnsInHanded {} Try.checked os 4 .any (Rows.forkWaysSpec.pre6 enc Try.prog Try.f4 Rows.forkWaysRow.domain false) (Rows.forkWaysSpec.post enc Try.prog Try.f4 false true false false) := by
  refine returnsInHanded_of_change (C := Try.checked) own started (by kernel_rfl) Try.func4
    (ChangeSpec.witness6 (enc := enc) (C := Try.checked) false ⟨#[], #[.slice none 0 0, .slice none 0 0, .slice none 0 0], []⟩ 8 (by kernel_rfl) (by kernel_rfl) (by kernel_rfl) (by kernel_rfl)) ?_
  intro W base args ds gs before hval0 hW hcnd _
  have hval : ∀ (j : Nat) t v, Try.f4.params[j]? = some t → args[j]? = some v → Value.okWide Try.prog W .any base t v := hval0
  have hW' := hW
  obtain ⟨p, q, hA0, hV, rfl, hfz, hnd⟩ := hW
  have hA : DataW.TrodAll enc Try.prog W 0 (fun _ => true) true Try.f4.params.toList args.toList ds p := hA0
  rw [Try.params4] at hA hval
  obtain ⟨v0, vs0, d0, ds0, pp0, q0, hargs, rfl, rfl, h0, r0⟩ := trodAll_cons hA
  obtain ⟨v1, vs1, d1, ds1, pp1, q1, rfl, rfl, rfl, h1, r1⟩ := trodAll_cons r0
  obtain ⟨v2, vs2, d2, ds2, pp2, q2, rfl, rfl, rfl, h2, r2⟩ := trodAll_cons r1
  obtain ⟨rfl, rfl, rfl⟩ := trodAll_nil r2
  obtain rfl : args = #[v0, v1, v2] := by cases args; simp_all
  obtain ⟨rfl, rfl⟩ := trodVars_none hV
  obtain ⟨p0, l0, c0, rfl⟩ := okWide_slice Try.underlying32 (hval 0 32 v0 rfl rfl)
  have k0 := h0
  have lt0 : ∀ x ∈ pp0, x.block < W.heap.size := by obtain ⟨m, hm⟩ := k0; exact DataW.trod_lt m _ _ _ hm
  obtain ⟨a0, w0⟩ : ∃ a, AccsAt AnyBlock W (.slice p0 l0 c0) a := by
    obtain ⟨fuel, hf⟩ := h0
    obtain ⟨v, a, e, h⟩ := open_accs hf
    have e2 : v = .slice p0 l0 c0 := by simpa [Value.cells] using e.symm
    subst e2; exact ⟨a, h⟩
  obtain ⟨p1, l1, c1, rfl⟩ := okWide_slice Try.underlying35 (hval 1 35 v1 rfl rfl)
  have k1 := h1
  have lt1 : ∀ x ∈ pp1, x.block < W.heap.size := by obtain ⟨m, hm⟩ := k1; exact DataW.trod_lt m _ _ _ hm
  obtain ⟨a1, w1⟩ : ∃ a, AdrsAt AnyBlock W (.slice p1 l1 c1) a := by
    obtain ⟨fuel, hf⟩ := h1
    obtain ⟨v, a, e, h⟩ := open_adrs2 hf
    have e2 : v = .slice p1 l1 c1 := by simpa [Value.cells] using e.symm
    subst e2; exact ⟨a, h⟩
  obtain ⟨p2, l2, c2, rfl⟩ := okWide_slice Try.underlying27 (hval 2 27 v2 rfl rfl)
  have k2 := h2
  have lt2 : ∀ x ∈ pp2, x.block < W.heap.size := by obtain ⟨m, hm⟩ := k2; exact DataW.trod_lt m _ _ _ hm
  obtain ⟨a2, w2⟩ : ∃ a, SlIn AnyBlock W (.slice p2 l2 c2) a.length (ints .u8 (bI a)) := by
    obtain ⟨fuel, hf⟩ := h2
    obtain ⟨v, a, e, h⟩ := open_bytes hf
    have e2 : v = .slice p2 l2 c2 := by simpa [Value.cells] using e.symm
    subst e2; exact ⟨a, h⟩
  clear hA0 hval0
  refine (forkWays_walk W _ a0 w0 _ a1 w1 _ a2 w2).mono fun e W' ⟨he, bel⟩ => ?_
  subst he
  exact ⟨_, rfl, _, _, _, [], _, [], hW', trodAll_mk1 (shut_bool Try.underlying4 _), (trodAll_cons_mk (Below.trod laidOut (by kernel_rfl) (of_decide_eq_true (by kernel_rfl)) k0 bel lt0) (trodAll_cons_mk (Below.trod laidOut (by kernel_rfl) (of_decide_eq_true (by kernel_rfl)) k1 bel lt1) (trodAll_cons_mk (Below.trod laidOut (by kernel_rfl) (of_decide_eq_true (by kernel_rfl)) k2 bel lt2) trodAll_mk0))), rfl, bel.frame _, fun h => by cases h⟩
theorem over : Rows.forkWaysRow.holds Try.pinned (OpenSpec.ofChange Rows.forkWaysSpec) :=
  OpenClaim.holds_of_wide 4 Try.f4 rfl rfl rfl rfl rfl rfl rfl ⟨rfl, rfl, rfl, rfl, rfl⟩ rfl rfl rfl rfl rfl (by kernel_rfl) Try.func4 (by kernel_rfl)
    (of_decide_eq_true (by kernel_rfl)) (by unfold Func.isWrapper; first | (rw [if_pos (by decide +kernel)]; kernel_rfl) | (rw [if_neg (by decide +kernel)]; exact ⟨rfl, rfl⟩))
    (fun os started H enc _ => lifted os started H enc)
end forkWaysDone
theorem forkWays_proved : Rows.ForkWaysSaid := forkWaysDone.over
#print axioms forkWays_proved
end Go.Proofs.Ytadafohgglnneaa
