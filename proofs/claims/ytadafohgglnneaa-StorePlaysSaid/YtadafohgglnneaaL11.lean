/- StorePlays: the walk of the law. No condition. -/
import Derived.Test.YtadafohgglnneaaP1
import Derived.Deep.RegionHeld3
import Derived.Deep.DrawnRows
import Derived.Test.YtadafohgglnneaaN2
import Derived.Test.YtadafohgglnneaaOpen2
namespace Go.Proofs.Ytadafohgglnneaa
open Go.RowKit
theorem Slot_hold {w0 w : World} {s g c : Nat} {nds : List Nd} (h : Hold w0 w s g c nds) (hG : ∀ d ∈ nds, ∀ x ∈ d.xs, rightB x.stor = true) (v : Int) (a : Adr) (key : Wrd) :
    Calls Try.prog 54 #[.pointer (some ⟨s, 0, none⟩), .int .i64 v, .agg a.cells, .agg key.cells] w fun e w' => e = .returned (.agg (slotOf ((findV nds v a).getD zeroAcc).stor key).cells) ∧ Below w.heap.size w w' := by
  obtain ⟨S, h1, h2⟩ := h.st
  exact store_Slot h2 h.small hG v a key
theorem Parent_no_hold {w0 w : World} {s g c : Nat} {nds : List Nd} (h : Hold w0 w s g c nds) (v : Int) (hv : hasV nds v = false ∨ v = 0) :
    Calls Try.prog 53 #[.pointer (some ⟨s, 0, none⟩), .int .i64 v] w fun e w' => e = .returned (.tuple #[.int .i64 0, .bool false]) ∧ w' = w := by
  obtain ⟨S, h1, h2⟩ := h.st
  exact store_Parent_no h2 v hv
theorem Parent_at_hold {w0 w : World} {s g c : Nat} {nds : List Nd} (h : Hold w0 w s g c nds) (i : Nat) (hi : i < nds.length) (h0 : 0 < i) :
    Calls Try.prog 53 #[.pointer (some ⟨s, 0, none⟩), .int .i64 i] w fun e w' => e = .returned (.tuple #[.int .i64 nds[i].par, .bool true]) ∧ w' = w := by
  obtain ⟨S, h1, h2⟩ := h.st
  exact store_Parent_at h2 i hi h0
attribute [local go_sem ↓] Go.wp_at_zero Go.wp_at_succ
set_option maxRecDepth 100000 in
set_option maxHeartbeats 8000000 in
theorem storePlays_walk (w : World) (p : Option Addr) (c0 : Nat) (os : List Op13) (hR : RowsAt AnyBlock Op13E w (.slice p os.length c0) os) (a : Adr) (key : Wrd) :
    Calls Try.prog 11 #[.slice p os.length c0, .agg a.cells, .agg key.cells] w fun e w' => e = .returned (.bool true) ∧ Below w.heap.size w w' := by
  have hle := RowsAt.le hR
  unfold maxLen at hle
  have HR := Lib.hid hR
  clear hR
  have B0 := Lib.hid (show Below w.heap.size w ((w.alloc (.cells a.cells 23)).alloc (.cells key.cells 26)) from bel_alloc (bel_alloc (Below.refl _ _) _) _)
  go_enter Try.func11, Try.ntmps11
  go_wp2_with fail
  refine (new_hold ((w.alloc (.cells a.cells 23)).alloc (.cells key.cells 26)) _ (Below.refl _ _)).mono ?_
  rintro e w1 ⟨s, g, rfl, hH, b1, -, -⟩
  generalize hW : (w.alloc (.cells a.cells 23)).alloc (.cells key.cells 26) = W0 at *
  have r0 : rowOf W0 w.heap.size = a.cells := by rw [← hW]; simp [go_sem]
  have i0 : isRow W0 w.heap.size = true := by rw [← hW]; simp [go_sem]
  have r1 : rowOf W0 (w.heap.size + 1) = key.cells := by rw [← hW]; simp [go_sem]
  have i1 : isRow W0 (w.heap.size + 1) = true := by rw [← hW]; simp [go_sem]
  have HZ := Lib.hid (show W0.heap.size = w.heap.size + 2 by rw [← hW]; simp)
  have BV := Lib.hid (show Below w1.heap.size w1 (w1.alloc (.cells (opArr (-1) none 0 0) 91)) from bel_alloc (Below.refl _ _) _)
  have H1 := Lib.hid (hH.below BV.out)
  obtain ⟨lt1, lt2⟩ := hH.lt
  have HV := Lib.hid (vers_start (T := fun b => b < (w1.alloc (.cells (opArr (-1) none 0 0) 91)).heap.size ∧ b ≠ s ∧ b ≠ g) (w := w1.alloc (.cells (opArr (-1) none 0 0) 91)) (b := w1.heap.size) (by simp [go_sem]) ⟨by simp, by omega, by omega⟩)
  clear hH b1 hW lt1 lt2
  go_wp2_with fail
  refine (fixed13 _).mono ?_
  rintro e w2 ⟨rfl, b2⟩
  have H2 := Lib.hid (H1.out.below b2)
  have HV2 := Lib.hid ((HV.out.below b2).mono (T := fun b => b < w2.heap.size ∧ b ≠ s ∧ b ≠ g) fun b hb => ⟨Nat.lt_of_lt_of_le hb.1 b2.size, hb.2⟩)
  clear b2 HV BV
  go_wp2_with fail
  refine (cut13 _ p c0 os (rowsOp13_below HR.out (bel_trans B0.out H2.out.bel))).mono ?_
  rintro e w3 ⟨n, rfl, hn1, hn2, hbad, b3⟩
  have H3 := Lib.hid (H2.out.below b3)
  have HV3 := Lib.hid ((HV2.out.below b3).mono (T := fun b => b < w3.heap.size ∧ b ≠ s ∧ b ≠ g) fun b hb => ⟨Nat.lt_of_lt_of_le hb.1 b3.size, hb.2⟩)
  have Hbad := Lib.hid hbad
  clear b3 hbad H1 H2 HV2
  go_wp2
  go_loopw [8, 35] (fun vv vi wr => ∃ (j g c : Nat) (nds : List Nd) (vs : List Ver) (q : Option Addr) (cc : Nat), j ≤ n ∧ vi = .int .i64 j ∧ vv = .slice q vs.length cc ∧ Hid (Hold W0 wr s g c nds) ∧ Hid (Good nds j) ∧ Hid (VersAt (fun b => b < wr.heap.size ∧ b ≠ s ∧ b ≠ g) wr vv vs) ∧ Hid (Rel13 nds vs j)) (fun _ vi _ => n - (intOf vi).toNat)
  case atStart => exact ⟨0, g, 1, _, [⟨-1, []⟩], _, _, Nat.zero_le _, rfl, rfl, H3, Lib.hid .start, HV3, Lib.hid .start⟩
  case round =>
    obtain ⟨j, g, c, nds, vs, q, cc, hj, rfl, rfl, hH, hG, hVs, hRel⟩ := hrel
    clear H3 HV3
    by_cases hlt : j < n
    · have HB := Lib.hid (bel_trans B0.out hH.out.bel)
      have hjo : j < os.length := by omega
      obtain ⟨b, o, cc2, rs, hv', q1, q2, -, hbb, hsz, hall⟩ := RowsAt.pos HR.out 2 (op13_size _) (by decide) (by omega)
      cases hv'
      obtain ⟨hrow, a', c', hr', hacc⟩ := hall j hjo
      rw [hr'] at hrow
      rw [← bel_row HB.out b hbb] at hrow hsz
      have hbw : b < wr.heap.size := Nat.lt_of_lt_of_le hbb HB.out.size
      have hs1 : o + j * 2 + 2 ≤ (rowOf wr b).size := by omega
      have hki : (j : Int) < (n : Int) := by omega
      have hki2 : (j : Int) < (os.length : Int) := by omega
      have hki0 : (0 : Int) ≤ (j : Int) := by omega
      have hgr : greatB os[j].l = false := by have := Hbad.out j hlt; simpa [bad13, hjo] using this
      have hacb := hacc.bound
      generalize os[j].l = l at *
      generalize os[j].par = par at *
      have hB1 : Below wr.heap.size wr (wr.alloc (.cells (opArr par a' l.length c') 73)) := bel_alloc (Below.refl _ _) _
      have hH1 := Lib.hid (hH.out.below hB1)
      have Hat := Lib.hid ((hacb.below HB.out).below hB1)
      have HVa := Lib.hid (hVs.out.below hB1)
      have hlen : nds.length < 1048576 := by have := hG.out.len; omega
      have ry : rowOf (wr.alloc (.cells (opArr par a' l.length c') 73)) wr.heap.size = opArr par a' l.length c' := by simp [go_sem]
      have iy : isRow (wr.alloc (.cells (opArr par a' l.length c') 73)) wr.heap.size = true := by simp [go_sem]
      obtain ⟨ls, lg⟩ := hH.out.lt
      have hs0 := hH.out.s0
      have hg0 := hH.out.g0
      have Zs := Lib.hid (show s < wr.heap.size ∧ g < wr.heap.size ∧ W0.heap.size ≤ s ∧ W0.heap.size ≤ g from ⟨ls, lg, hs0, hg0⟩)
      have hp : ParOk nds := by obtain ⟨S, h1, h2⟩ := hH.out.st; exact h2.par
      have Hp := Lib.hid hp
      clear hB1 hacc hall hr' hacb hVs hH ls lg hs0 hg0 hp
      go_wp2_with fail
      refine (commit_any hH1.out par _ l Hat.out hlen (great_small hgr)).mono ?_
      rintro e w4 ⟨m1, m2, g', c'', nds', rfl, hcm, hH4, hg4, hk4⟩
      have zk := hk4.size
      simp only [World.size_alloc] at zk hg4
      have y4 : rowOf w4 wr.heap.size = opArr par a' l.length c' := by rw [hk4.row _ (by simp) (by have := Zs.out; omega), ry]
      have j4 : isRow w4 wr.heap.size = true := by rw [hk4.isRow _ (by simp) (by have := Zs.out; omega), iy]
      have l4 := isRow_lt j4
      have d0 : w4.cell? ⟨wr.heap.size, 0, none⟩ = some (.int .i64 par) := by rw [cell_row, y4]; rfl
      have d1 : w4.cell? ⟨wr.heap.size, 1, none⟩ = some (.slice a' l.length c') := by rw [cell_row, y4]; rfl
      have HV4 := Lib.hid ((HVa.out.same (w' := w4) fun b hb hS => hk4.block b hb (by omega)).mono (T := fun b => b < w4.heap.size ∧ b ≠ s ∧ b ≠ g') fun b hb => ⟨by omega, hb.2.1, by omega⟩)
      have Hl4 := Lib.hid ((Hat.out.kept hk4 (fun b hb e => by have := Zs.out; have := HZ.out; omega)).mono (T := fun b => b < w4.heap.size ∧ b ≠ s ∧ b ≠ g') fun b hb => by have := Zs.out; have := HZ.out; have := hb.2; omega)
      have HG4 := Lib.hid (hG.out.commit hcm (great_len hgr))
      have H4 := Lib.hid hH4
      have Hcm := Lib.hid hcm
      have hvl : vs.length ≤ 1000 := by have := hRel.out.len; have := hG.out.len; omega
      have hvy : ∀ y ∈ vs, y.xs.length ≤ 50000 := fun y hy => by have := hRel.out.size y hy; omega
      have hll := great_len hgr
      clear hcm hH4 hH1 hg4 hk4 ry iy HVa Hat
      go_wp2_with fail
      refine (ref13_Commit (T := fun b => b < w4.heap.size ∧ b ≠ s ∧ b ≠ g') _ _ vs par _ l HV4.out Hl4.out (fun b hb => hb.1) hvl hll hvy).mono ?_
      rintro e w5 hR5
      obtain ⟨vv', vs', rfl, hV5, hRel5, b5⟩ := ref_match hRel.out Hp.out Hcm.out hR5 HV4.out hll
      obtain ⟨q5, c5, rfl⟩ := hV5.form
      have H5 := Lib.hid (H4.out.below b5)
      have lt4 := H4.out.lt
      have HV5 := Lib.hid (hV5.mono (T := fun b => b < w5.heap.size ∧ b ≠ s ∧ b ≠ g') fun b hb => by
        have := b5.size
        rcases hb with hb | hb
        · exact ⟨by omega, hb.2⟩
        · have h1 := hb.1; have h2 := hb.2; omega)
      have HRel5 := Lib.hid hRel5
      have hq1 : (m1 != m1) = false := by simp
      have hq2 : (m2 != m2) = false := by simp
      have hlv : vs'.length = nds'.length := hRel5.len
      have hq3 : ((nds'.length : Int) != (nds'.length : Int)) = false := by simp
      clear hR5 hV5 hRel5 b5 HV4 Hl4 Hcm H4 lt4 hRel hG hvy d0 d1 y4 j4 l4
      rw [hlv] at HV5 ⊢
      go_wp2_with fail
      refine (Len_hold H5.out).mono ?_
      rintro e w6 ⟨rfl, rfl⟩
      go_wp2
      go_roundw
      case rel => exact ⟨j + 1, g', c'', nds', vs', q5, c5, by omega, by go_num, by rw [hlv], H5, HG4, HV5, HRel5⟩
      case measure => simp [intOf]; omega
    · obtain rfl : j = n := by omega
      have hki : ¬ ((j : Int) < (j : Int)) := by omega
      obtain ⟨X, hX⟩ : ∃ X : World, X = wr := ⟨_, rfl⟩
      subst hX
      have B2 := Lib.hid (bel_trans B0.out hH.out.bel)
      have hvl : vs.length ≤ 1000 := by have := hRel.out.len; have := hG.out.len; omega
      have y0 : rowOf X w.heap.size = a.cells := by rw [bel_row hH.out.bel _ (by have := HZ.out; omega)]; exact r0
      have j0 : isRow X w.heap.size = true := by rw [bel_isRow hH.out.bel _ (by have := HZ.out; omega)]; exact i0
      have y1 : rowOf X (w.heap.size + 1) = key.cells := by rw [bel_row hH.out.bel _ (by have := HZ.out; omega)]; exact r1
      have j1 : isRow X (w.heap.size + 1) = true := by rw [bel_isRow hH.out.bel _ (by have := HZ.out; omega)]; exact i1
      have HTn := Lib.hid (show totalN nds ≤ 1000000 by have := hG.out.total; omega)
      have hvn : vs.length = nds.length := hRel.out.len
      have Hvn := Lib.hid hvn
      clear hvn r0 i0 r1 i1 HR Hbad
      go_wp2
      go_loopw [16] (fun vi wq => ∃ u : Int, -1 ≤ u ∧ u ≤ vs.length + 1 ∧ vi = .int .i64 u ∧ Hid (Below X.heap.size X wq)) (fun vi _ => ((vs.length : Int) + 1 - intOf vi).toNat)
      case atStart => exact ⟨-1, by omega, by omega, rfl, Lib.hid (Below.refl _ _)⟩
      case round =>
        obtain ⟨u, hu0, hu1, rfl, hb⟩ := hrel
        obtain ⟨z0, k0, l0⟩ := carryRow hb.out y0 j0
        obtain ⟨z1, k1, l1⟩ := carryRow hb.out y1 j1
        have HX := Lib.hid (hH.out.below hb.out)
        by_cases hend : u = vs.length + 1
        · subst hend
          have hd : decide ((vs.length : Int) + 1 ≤ (vs.length : Int)) = false := by simp; omega
          have HE := Lib.hid (bel_trans B2.out hb.out)
          go_wp2
          go_ret
          exact ⟨rfl, HE.out⟩
        · have hd : decide (u ≤ (vs.length : Int)) = true := by simp; omega
          by_cases hin : hasV nds u = true
          · obtain ⟨i, rfl⟩ : ∃ i : Nat, u = i := ⟨u.toNat, by simp [hasV] at hin; omega⟩
            have hin2 : i < nds.length := by simp [hasV] at hin; omega
            have hiv : i < vs.length := by have := Hvn.out; omega
            have hlt0 : decide ((i : Int) < 0) = false := by simp
            have hne0 : ((i : Int) == (vs.length : Int)) = false := by simp; omega
            clear hin
            go_wp2_with fail
            refine (Find_hold HX.out i a).mono ?_
            rintro e w2 ⟨r2, rfl, hr2, b2⟩
            have hrz := hr2.size
            have hr1 := hr2.one
            have hb2 := bel_alloc (Below.refl w2.heap.size w2) (.cells r2 30)
            have HA2 := Lib.hid (hr2.below hb2)
            have B3 := Lib.hid (bel_alloc b2 (.cells r2 30))
            have HX3 := Lib.hid (HX.out.below B3.out)
            have B3' := Lib.hid (bel_trans hb.out B3.out)
            obtain ⟨z0, k0, l0⟩ := carryRow B3.out z0 k0
            obtain ⟨z1, k1, l1⟩ := carryRow B3.out z1 k1
            have z2 : rowOf (w2.alloc (.cells r2 30)) w2.heap.size = r2 := by simp [go_sem]
            have k2 : isRow (w2.alloc (.cells r2 30)) w2.heap.size = true := by simp [go_sem]
            clear hr2 b2 hb2
            go_wp2_with fail
            refine (Parent_any HX3.out i hin2).mono ?_
            rintro e w3 ⟨⟨pp, rfl, hpp⟩, rfl⟩
            have Hpp := Lib.hid hpp
            clear hpp
            have HV3 := Lib.hid (hVs.out.below B3'.out)
            obtain ⟨bv, ov, cv2, av, nv, hvv, qv1, qv2, -, hbv, cel1, cel2, hacv⟩ := HV3.out.get hiv
            cases hvv
            unfold maxLen at qv2
            have hki : (i : Int) < (vs.length : Int) := by omega
            have hki0 : (0 : Int) ≤ (i : Int) := by omega
            have Hacv := Lib.hid hacv
            clear hacv
            have hfe := hRel.out.find i hiv a
            go_wp2
            generalize hW3 : w2.alloc (.cells r2 30) = W3 at *
            generalize hO1 : findV nds (i : Int) a = O at *
            have hXW : X.heap.size ≤ W3.heap.size := B3'.out.size
            go_cut [21, 22] from 75 to 182 (fun x y wc => C22 (fun b => b < X.heap.size ∧ b ≠ s ∧ b ≠ g) W3 wc O x y)
            case first =>
              go_region_with (first
                | (go_at_call 22; refine (ref13_Find _ _ _ a (Hacv.out.below (by repeat (first | exact Below.refl _ _ | apply bel_drewN | apply bel_drew | apply bel_alloc)))).mono ?_; rintro e w6 ⟨r6, rfl, hr6, b6⟩
                   rw [hfe] at hr6 ⊢
                   have hz6 := hr6.size
                   have h61 := hr6.one
                   first
                     | (have b6a : Below (W3.drew.alloc (.cells (accRow zeroAdr 0 zeroWrd (.slice none 0 0) (.slice none 0 0)) 30)).heap.size (W3.drew.alloc (.cells (accRow zeroAdr 0 zeroWrd (.slice none 0 0) (.slice none 0 0)) 30)) w6 := b6
                        have y6 : rowOf w6 W3.heap.size = accRow zeroAdr 0 zeroWrd (.slice none 0 0) (.slice none 0 0) := by rw [bel_row b6a _ (by simp)]; simp [go_sem]
                        have j6 : isRow w6 W3.heap.size = true := by rw [bel_isRow b6a _ (by simp)]; simp [go_sem]
                        have f6 : rowFr w6 W3.heap.size = (0, 0) := by rw [bel_rowFr b6a _ (by simp)]; simp [go_sem]
                        have l6 := isRow_lt j6)
                     | skip))
              all_goals (simp only [Act.put, List.getElem_toArray, List.getElem_cons_succ, List.getElem_cons_zero, List.setIfInBounds_toArray, List.set_cons_succ, List.set_cons_zero])
              all_goals go_wp2
              all_goals go_meet
              all_goals (first | exact C22.new hr6 b6 | exact C22.old (fun b hb => Nat.lt_of_lt_of_le hb.1 hXW) hr6 (by simp) b6a)
            case rest =>
              obtain ⟨b21, r6, rfl, rfl, y6, j6, a6, bel6⟩ := hcut
              have hz6 := a6.size
              have h61 := a6.one
              obtain ⟨zA, kA, lA⟩ := carryRow bel6 z0 k0
              obtain ⟨zK, kK, lK⟩ := carryRow bel6 z1 k1
              obtain ⟨zB, kB, lB⟩ := carryRow bel6 z2 k2
              have A2 := (HA2.out.below bel6)
              have H6 := HX3.out.below bel6
              have C27 := Lib.hid (c27 A2 a6)
              have C55 := Lib.hid (c55 a6 key)
              have C42 := Lib.hid (c42 H6 HTn.out hRel.out hiv)
              have C56 := Lib.hid (c56 (Hacv.out.below bel6) (fun b hb => by have := bel6.size; omega) (by have := hRel.out.size _ (List.getElem_mem hiv); have := hG.out.len; omega))
              have C54 := Lib.hid (show ∀ W, Below wc.heap.size wc W → Calls Try.prog 54 #[.pointer (some ⟨s, 0, none⟩), .int .i64 (i : Int), .agg a.cells, .agg key.cells] W fun e w' => e = .returned (.agg (slotOf (O.getD zeroAcc).stor key).cells) ∧ Below W.heap.size W w' from fun W hb => by
                have := Slot_hold (H6.below hb) hG.out.right i a key
                rw [hO1] at this
                exact this)
              have e1 : wc.cell? ⟨bv, ov + i * 2, none⟩ = some (.int .i64 vs[i].par) := by rw [bel6.cell hbv]; exact cel1
              have e2 : wc.cell? ⟨bv, ov + i * 2 + 1, none⟩ = some (.slice av vs[i].xs.length nv) := by rw [bel6.cell hbv]; exact cel2
              have hbv6 := Nat.lt_of_lt_of_le hbv bel6.size
              have HS := Lib.hid (show ∀ w', Below wc.heap.size wc w' → (Below wc.heap.size wc w' ∧ w'.rangeAt w.heap.size 0 a.cells.toList ∧ (rowOf w' (w.heap.size + 1) = key.cells ∧ isRow w' (w.heap.size + 1) = true ∧ w.heap.size + 1 < w'.heap.size) ∧ (rowOf w' w2.heap.size = r2 ∧ isRow w' w2.heap.size = true ∧ w2.heap.size < w'.heap.size) ∧ (rowOf w' b21 = r6 ∧ isRow w' b21 = true ∧ b21 < w'.heap.size) ∧ w'.cell? ⟨bv, ov + i * 2, none⟩ = some (.int .i64 vs[i].par) ∧ w'.cell? ⟨bv, ov + i * 2 + 1, none⟩ = some (.slice av vs[i].xs.length nv)) from fun w' hb =>
                ⟨hb, range_of (carryRow hb zA kA).1, carryRow hb zK kK, carryRow hb zB kB, carryRow hb y6 j6, by rw [hb.cell hbv6]; exact e1, by rw [hb.cell hbv6]; exact e2⟩)
              have HZ6 := Lib.hid (bel_trans B3'.out bel6)
              have hpv : 0 < i → pp = vs[i].par := fun h => by rw [Hpp.out h, hRel.out.par i hin2 hiv]
              have hu23 := Try.underlying23
              have hi23 : (Try.prog.info? 23).map (·.size) = some a.cells.toList.length := by rw [Array.length_toList, a.cells_size]; kernel_rfl
              have hq1 : (O.isSome != O.isSome) = false := by simp
              have hx2 : r2.extract 0 27 = r2 := by rw [← hrz]; simp
              have hx6 : r6.extract 0 27 = r6 := by rw [← hz6]; simp
              have hq2 : (vs[i].par != vs[i].par) = false := by simp
              clear A2 H6 e1 e2 a6 bel6 zA kA lA zK kK lK zB kB lB y6 j6 z0 k0 l0 z1 k1 l1 z2 k2 cel1 cel2 hfe hO1 HA2 HX3 HX Hacv HV3 hbv hbv6 B3 B3' hRel hG hVs hH HTn Hvn Hpp y0 j0 y1 j1
              rcases Nat.eq_zero_or_pos i with h0 | h0
              · have hd0 : decide (0 < i) = false := by simp; omega
                have hd1 : decide ((i : Int) > 0) = false := by simp; omega
                have hd2 : ((0 : Int) < (i : Int)) = False := eq_false (by omega)
                clear h0
                rw [hd0]
                go_wp2
                refine wp_region_noPanic ?_
                refine wp_region_held_drew (S := (fun w' => Below wc.heap.size wc w' ∧ w'.rangeAt w.heap.size 0 a.cells.toList ∧ (rowOf w' (w.heap.size + 1) = key.cells ∧ isRow w' (w.heap.size + 1) = true ∧ w.heap.size + 1 < w'.heap.size) ∧ (rowOf w' w2.heap.size = r2 ∧ isRow w' w2.heap.size = true ∧ w2.heap.size < w'.heap.size) ∧ (rowOf w' b21 = r6 ∧ isRow w' b21 = true ∧ b21 < w'.heap.size) ∧ w'.cell? ⟨bv, ov + i * 2, none⟩ = some (.int .i64 vs[i].par) ∧ w'.cell? ⟨bv, ov + i * 2 + 1, none⟩ = some (.slice av vs[i].xs.length nv))) (by kernel_rfl) (HS.out _ (bel_drew (Below.refl _ _))) (fun hHeld => ?_)
                refine wpAnyH_take (i := 0) (v := ?_) rfl (by kernel_rfl) (by kernel_rfl) (by kernel_rfl) (fun _ _ _ h => h) (Or.inl ⟨by rfl, ?_⟩) (by assumption) ?_
                rotate_left
                · (intro w hSw; (try dsimp only at hSw); go_simp; try with_reducible rfl)
                try simp only [Act.put, List.getElem_toArray, List.getElem_cons_succ, List.getElem_cons_zero, List.setIfInBounds_toArray, List.set_cons_succ, List.set_cons_zero]
                refine wpAnyH_take (i := 1) (v := ?_) rfl (by kernel_rfl) (by kernel_rfl) (by kernel_rfl) (fun _ _ _ h => h) (Or.inl ⟨by rfl, ?_⟩) (by assumption) ?_
                rotate_left
                · (intro w hSw; (try dsimp only at hSw); go_simp; try with_reducible rfl)
                try simp only [Act.put, List.getElem_toArray, List.getElem_cons_succ, List.getElem_cons_zero, List.setIfInBounds_toArray, List.set_cons_succ, List.set_cons_zero]
                refine wpAnyH_take (i := 2) (v := ?_) rfl (by kernel_rfl) (by kernel_rfl) (by kernel_rfl) (fun _ _ _ h => h) (Or.inl ⟨by rfl, ?_⟩) (by assumption) ?_
                rotate_left
                · (intro w hSw; (try dsimp only at hSw); go_simp; try with_reducible rfl)
                try simp only [Act.put, List.getElem_toArray, List.getElem_cons_succ, List.getElem_cons_zero, List.setIfInBounds_toArray, List.set_cons_succ, List.set_cons_zero]
                refine wpAnyH_take (i := 3) (v := ?_) rfl (by kernel_rfl) (by kernel_rfl) (by kernel_rfl) (fun _ _ _ h => h) (Or.inl ⟨by rfl, ?_⟩) (by assumption) ?_
                rotate_left
                · (intro w hSw; (try dsimp only at hSw); go_simp; try with_reducible rfl)
                try simp only [Act.put, List.getElem_toArray, List.getElem_cons_succ, List.getElem_cons_zero, List.setIfInBounds_toArray, List.set_cons_succ, List.set_cons_zero]
                refine wpAnyH_take (i := 4) (v := ?_) rfl (by kernel_rfl) (by kernel_rfl) (by kernel_rfl) (fun _ _ _ h => h) (Or.inl ⟨by rfl, ?_⟩) (by assumption) ?_
                rotate_left
                · (intro w hSw; (try dsimp only at hSw); go_simp; try with_reducible rfl)
                try simp only [Act.put, List.getElem_toArray, List.getElem_cons_succ, List.getElem_cons_zero, List.setIfInBounds_toArray, List.set_cons_succ, List.set_cons_zero]
                refine wpAnyH_take (i := 5) (v := ?_) rfl (by kernel_rfl) (by kernel_rfl) (by kernel_rfl) (fun _ _ _ h => h) (Or.inl ⟨by rfl, ?_⟩) (by assumption) ?_
                rotate_left
                · (intro w hSw; (try dsimp only at hSw); go_simp; try with_reducible rfl)
                try simp only [Act.put, List.getElem_toArray, List.getElem_cons_succ, List.getElem_cons_zero, List.setIfInBounds_toArray, List.set_cons_succ, List.set_cons_zero]
                refine wpAnyH_ready (rs := [6]) (by kernel_rfl) (by simp) ?_
                refine AllReadyH.cons rfl (fun K hK => ?_) AllReadyH.nil
                go_simp
                (go_at_call 27; refine (C27.out _ ?_).mono ?_; (go_split_ands; assumption); rintro e w7 ⟨rfl, b7⟩)
                refine hK.out _ _ ?_ (fun hHeld => ?_)
                · (refine HS.out _ (bel_trans ?_ b7); go_split_ands; assumption)
                clear hK K
                try simp only [Act.put, List.getElem_toArray, List.getElem_cons_succ, List.getElem_cons_zero, List.setIfInBounds_toArray, List.set_cons_succ, List.set_cons_zero]
                refine wpAnyH_take (i := 7) (v := ?_) rfl (by kernel_rfl) (by kernel_rfl) (by kernel_rfl) (fun _ _ _ h => h) (Or.inl ⟨by rfl, ?_⟩) (by assumption) ?_
                rotate_left
                · (intro w hSw; (try dsimp only at hSw); go_simp; try with_reducible rfl)
                try simp only [Act.put, List.getElem_toArray, List.getElem_cons_succ, List.getElem_cons_zero, List.setIfInBounds_toArray, List.set_cons_succ, List.set_cons_zero]
                refine wpAnyH_take (i := 8) (v := ?_) rfl (by kernel_rfl) (by kernel_rfl) (by kernel_rfl) (fun _ _ _ h => h) (Or.inl ⟨by rfl, ?_⟩) (by assumption) ?_
                rotate_left
                · (intro w hSw; (try dsimp only at hSw); go_simp; try with_reducible rfl)
                try simp only [Act.put, List.getElem_toArray, List.getElem_cons_succ, List.getElem_cons_zero, List.setIfInBounds_toArray, List.set_cons_succ, List.set_cons_zero]
                refine wpAnyH_take (i := 9) (v := ?_) rfl (by kernel_rfl) (by kernel_rfl) (by kernel_rfl) (fun _ _ _ h => h) (Or.inl ⟨by rfl, ?_⟩) (by assumption) ?_
                rotate_left
                · (intro w hSw; (try dsimp only at hSw); go_simp; try with_reducible rfl)
                try simp only [Act.put, List.getElem_toArray, List.getElem_cons_succ, List.getElem_cons_zero, List.setIfInBounds_toArray, List.set_cons_succ, List.set_cons_zero]
                refine wpAnyH_take (i := 10) (v := ?_) rfl (by kernel_rfl) (by kernel_rfl) (by kernel_rfl) (fun _ _ _ h => h) (Or.inl ⟨by rfl, ?_⟩) (by assumption) ?_
                rotate_left
                · (intro w hSw; (try dsimp only at hSw); go_simp; try with_reducible rfl)
                try simp only [Act.put, List.getElem_toArray, List.getElem_cons_succ, List.getElem_cons_zero, List.setIfInBounds_toArray, List.set_cons_succ, List.set_cons_zero]
                refine wpAnyH_take (i := 11) (v := ?_) rfl (by kernel_rfl) (by kernel_rfl) (by kernel_rfl) (fun _ _ _ h => h) (Or.inl ⟨by rfl, ?_⟩) (by assumption) ?_
                rotate_left
                · (intro w hSw; (try dsimp only at hSw); go_simp; try with_reducible rfl)
                try simp only [Act.put, List.getElem_toArray, List.getElem_cons_succ, List.getElem_cons_zero, List.setIfInBounds_toArray, List.set_cons_succ, List.set_cons_zero]
                refine' wpAnyH_take (i := 12) (v := _) rfl (by kernel_rfl) (by kernel_rfl) (by kernel_rfl) (fun _ _ _ h => h) (yieldsIf_load_mid (by rfl) _ _ rfl _ _ rfl _ _ ?hS ?hu ?hd ?hi) (by assumption) ?rest
                case hS => (intro w hSw; (try dsimp only at hSw); go_split_ands; assumption)
                case hu => assumption
                case hd => rfl
                case hi => (first | assumption | (simp only [*]; done))
                try simp only [Act.put, List.getElem_toArray, List.getElem_cons_succ, List.getElem_cons_zero, List.setIfInBounds_toArray, List.set_cons_succ, List.set_cons_zero]
                refine wpAnyH_take (i := 13) (v := ?_) rfl (by kernel_rfl) (by kernel_rfl) (by kernel_rfl) (fun _ _ _ h => h) (Or.inl ⟨by rfl, ?_⟩) (by assumption) ?_
                rotate_left
                · (intro w hSw; (try dsimp only at hSw); go_simp; try with_reducible rfl)
                try simp only [Act.put, List.getElem_toArray, List.getElem_cons_succ, List.getElem_cons_zero, List.setIfInBounds_toArray, List.set_cons_succ, List.set_cons_zero]
                refine wpAnyH_take (i := 15) (v := ?_) rfl (by kernel_rfl) (by kernel_rfl) (by kernel_rfl) (fun _ _ _ h => h) (Or.inl ⟨by rfl, ?_⟩) (by assumption) ?_
                rotate_left
                · (intro w hSw; (try dsimp only at hSw); go_simp; try with_reducible rfl)
                try simp only [Act.put, List.getElem_toArray, List.getElem_cons_succ, List.getElem_cons_zero, List.setIfInBounds_toArray, List.set_cons_succ, List.set_cons_zero]
                refine wpAnyH_take (i := 16) (v := ?_) rfl (by kernel_rfl) (by kernel_rfl) (by kernel_rfl) (fun _ _ _ h => h) (Or.inl ⟨by rfl, ?_⟩) (by assumption) ?_
                rotate_left
                · (intro w hSw; (try dsimp only at hSw); go_simp; try with_reducible rfl)
                try simp only [Act.put, List.getElem_toArray, List.getElem_cons_succ, List.getElem_cons_zero, List.setIfInBounds_toArray, List.set_cons_succ, List.set_cons_zero]
                refine wpAnyH_ready (rs := [14]) (by kernel_rfl) (by simp) ?_
                refine AllReadyH.cons rfl (fun K hK => ?_) AllReadyH.nil
                go_simp
                (go_at_call 54; refine (C54.out _ ?_).mono ?_; (go_split_ands; assumption); rintro e w7 ⟨rfl, b7⟩)
                refine hK.out _ _ ?_ (fun hHeld => ?_)
                · (refine HS.out _ (bel_trans ?_ b7); go_split_ands; assumption)
                clear hK K
                try simp only [Act.put, List.getElem_toArray, List.getElem_cons_succ, List.getElem_cons_zero, List.setIfInBounds_toArray, List.set_cons_succ, List.set_cons_zero]
                refine wpAnyH_ready (rs := [17]) (by kernel_rfl) (by simp) ?_
                refine AllReadyH.cons rfl (fun K hK => ?_) AllReadyH.nil
                go_simp
                (go_at_call 55; refine (C55.out _ ?_).mono ?_; (go_split_ands; assumption); rintro e w7 ⟨rfl, b7⟩)
                refine hK.out _ _ ?_ (fun hHeld => ?_)
                · (refine HS.out _ (bel_trans ?_ b7); go_split_ands; assumption)
                clear hK K
                try simp only [Act.put, List.getElem_toArray, List.getElem_cons_succ, List.getElem_cons_zero, List.setIfInBounds_toArray, List.set_cons_succ, List.set_cons_zero]
                refine wpAnyH_take (i := 18) (v := ?_) rfl (by kernel_rfl) (by kernel_rfl) (by kernel_rfl) (fun _ _ _ h => h) (Or.inl ⟨by rfl, ?_⟩) (by assumption) ?_
                rotate_left
                · (intro w hSw; (try dsimp only at hSw); go_simp; try with_reducible rfl)
                try simp only [Act.put, List.getElem_toArray, List.getElem_cons_succ, List.getElem_cons_zero, List.setIfInBounds_toArray, List.set_cons_succ, List.set_cons_zero]
                refine wpAnyH_take (i := 19) (v := ?_) rfl (by kernel_rfl) (by kernel_rfl) (by kernel_rfl) (fun _ _ _ h => h) (Or.inl ⟨by rfl, ?_⟩) (by assumption) ?_
                rotate_left
                · (intro w hSw; (try dsimp only at hSw); go_simp; try with_reducible rfl)
                try simp only [Act.put, List.getElem_toArray, List.getElem_cons_succ, List.getElem_cons_zero, List.setIfInBounds_toArray, List.set_cons_succ, List.set_cons_zero]
                refine wpAnyH_take (i := 20) (v := ?_) rfl (by kernel_rfl) (by kernel_rfl) (by kernel_rfl) (fun _ _ _ h => h) (Or.inl ⟨by rfl, ?_⟩) (by assumption) ?_
                rotate_left
                · (intro w hSw; (try dsimp only at hSw); go_simp; try with_reducible rfl)
                try simp only [Act.put, List.getElem_toArray, List.getElem_cons_succ, List.getElem_cons_zero, List.setIfInBounds_toArray, List.set_cons_succ, List.set_cons_zero]
                refine wpAnyH_take (i := 21) (v := ?_) rfl (by kernel_rfl) (by kernel_rfl) (by kernel_rfl) (fun _ _ _ h => h) (Or.inl ⟨by rfl, ?_⟩) (by assumption) ?_
                rotate_left
                · (intro w hSw; (try dsimp only at hSw); go_simp; try with_reducible rfl)
                try simp only [Act.put, List.getElem_toArray, List.getElem_cons_succ, List.getElem_cons_zero, List.setIfInBounds_toArray, List.set_cons_succ, List.set_cons_zero]
                refine wpAnyH_take (i := 22) (v := ?_) rfl (by kernel_rfl) (by kernel_rfl) (by kernel_rfl) (fun _ _ _ h => h) (Or.inl ⟨by rfl, ?_⟩) (by assumption) ?_
                rotate_left
                · (intro w hSw; (try dsimp only at hSw); go_simp; try with_reducible rfl)
                try simp only [Act.put, List.getElem_toArray, List.getElem_cons_succ, List.getElem_cons_zero, List.setIfInBounds_toArray, List.set_cons_succ, List.set_cons_zero]
                refine wpAnyH_take (i := 24) (v := ?_) rfl (by kernel_rfl) (by kernel_rfl) (by kernel_rfl) (fun _ _ _ h => h) (Or.inl ⟨by rfl, ?_⟩) (by assumption) ?_
                rotate_left
                · (intro w hSw; (try dsimp only at hSw); go_simp; try with_reducible rfl)
                try simp only [Act.put, List.getElem_toArray, List.getElem_cons_succ, List.getElem_cons_zero, List.setIfInBounds_toArray, List.set_cons_succ, List.set_cons_zero]
                refine wpAnyH_take (i := 25) (v := ?_) rfl (by kernel_rfl) (by kernel_rfl) (by kernel_rfl) (fun _ _ _ h => h) (Or.inl ⟨by rfl, ?_⟩) (by assumption) ?_
                rotate_left
                · (intro w hSw; (try dsimp only at hSw); go_simp; try with_reducible rfl)
                try simp only [Act.put, List.getElem_toArray, List.getElem_cons_succ, List.getElem_cons_zero, List.setIfInBounds_toArray, List.set_cons_succ, List.set_cons_zero]
                refine wpAnyH_take (i := 26) (v := ?_) rfl (by kernel_rfl) (by kernel_rfl) (by kernel_rfl) (fun _ _ _ h => h) (Or.inl ⟨by rfl, ?_⟩) (by assumption) ?_
                rotate_left
                · (intro w hSw; (try dsimp only at hSw); go_simp; try with_reducible rfl)
                try simp only [Act.put, List.getElem_toArray, List.getElem_cons_succ, List.getElem_cons_zero, List.setIfInBounds_toArray, List.set_cons_succ, List.set_cons_zero]
                refine wpAnyH_take (i := 27) (v := ?_) rfl (by kernel_rfl) (by kernel_rfl) (by kernel_rfl) (fun _ _ _ h => h) (Or.inl ⟨by rfl, ?_⟩) (by assumption) ?_
                rotate_left
                · (intro w hSw; (try dsimp only at hSw); go_simp; try with_reducible rfl)
                try simp only [Act.put, List.getElem_toArray, List.getElem_cons_succ, List.getElem_cons_zero, List.setIfInBounds_toArray, List.set_cons_succ, List.set_cons_zero]
                refine wpAnyH_take (i := 28) (v := ?_) rfl (by kernel_rfl) (by kernel_rfl) (by kernel_rfl) (fun _ _ _ h => h) (Or.inl ⟨by rfl, ?_⟩) (by assumption) ?_
                rotate_left
                · (intro w hSw; (try dsimp only at hSw); go_simp; try with_reducible rfl)
                try simp only [Act.put, List.getElem_toArray, List.getElem_cons_succ, List.getElem_cons_zero, List.setIfInBounds_toArray, List.set_cons_succ, List.set_cons_zero]
                refine wpAnyH_ready (rs := [23]) (by kernel_rfl) (by simp) ?_
                refine AllReadyH.cons rfl (fun K hK => ?_) AllReadyH.nil
                go_simp
                (go_at_call 42; refine (C42.out _ ?_).mono ?_; (go_split_ands; assumption); rintro e w7 ⟨v42, rfl, h42, b7⟩)
                refine hK.out _ _ ?_ (fun hHeld => ?_)
                · (refine HS.out _ (bel_trans ?_ b7); go_split_ands; assumption)
                clear hK K
                try simp only [Act.put, List.getElem_toArray, List.getElem_cons_succ, List.getElem_cons_zero, List.setIfInBounds_toArray, List.set_cons_succ, List.set_cons_zero]
                refine wpAnyH_ready (rs := [29]) (by kernel_rfl) (by simp) ?_
                refine AllReadyH.cons rfl (fun K hK => ?_) AllReadyH.nil
                go_simp
                (go_at_call 56; refine (C56.out _ ?_).mono ?_; (go_split_ands; assumption); rintro e w7 ⟨v56, rfl, h56, b7⟩)
                have h42 := h42.below b7
                refine hK.out _ _ ?_ (fun hHeld => ?_)
                · (refine HS.out _ (bel_trans ?_ b7); go_split_ands; assumption)
                clear hK K
                try simp only [Act.put, List.getElem_toArray, List.getElem_cons_succ, List.getElem_cons_zero, List.setIfInBounds_toArray, List.set_cons_succ, List.set_cons_zero]
                refine wpAnyH_ready (rs := [30]) (by kernel_rfl) (by simp) ?_
                refine AllReadyH.cons rfl (fun K hK => ?_) AllReadyH.nil
                go_simp
                (go_at_call 43; refine (same_all _ _ _ _ h42 h56).mono ?_; rintro e w7 ⟨rfl, b7⟩)
                refine hK.out _ _ ?_ (fun hHeld => ?_)
                · (refine HS.out _ (bel_trans ?_ b7); go_split_ands; assumption)
                clear hK K
                try simp only [Act.put, List.getElem_toArray, List.getElem_cons_succ, List.getElem_cons_zero, List.setIfInBounds_toArray, List.set_cons_succ, List.set_cons_zero]
                refine wpAnyH_take (i := 31) (v := ?_) rfl (by kernel_rfl) (by kernel_rfl) (by kernel_rfl) (fun _ _ _ h => h) (Or.inl ⟨by rfl, ?_⟩) (by assumption) ?_
                rotate_left
                · (intro w hSw; (try dsimp only at hSw); go_simp; try with_reducible rfl)
                try simp only [Act.put, List.getElem_toArray, List.getElem_cons_succ, List.getElem_cons_zero, List.setIfInBounds_toArray, List.set_cons_succ, List.set_cons_zero]
                refine wpAnyH_take (i := 32) (v := ?_) rfl (by kernel_rfl) (by kernel_rfl) (by kernel_rfl) (fun _ _ _ h => h) (Or.inl ⟨by rfl, ?_⟩) (by assumption) ?_
                rotate_left
                · (intro w hSw; (try dsimp only at hSw); go_simp; try with_reducible rfl)
                try simp only [Act.put, List.getElem_toArray, List.getElem_cons_succ, List.getElem_cons_zero, List.setIfInBounds_toArray, List.set_cons_succ, List.set_cons_zero]
                refine wpAnyH_take (i := 33) (v := ?_) rfl (by kernel_rfl) (by kernel_rfl) (by kernel_rfl) (fun _ _ _ h => h) (Or.inl ⟨by rfl, ?_⟩) (by assumption) ?_
                rotate_left
                · (intro w hSw; (try dsimp only at hSw); go_simp; try with_reducible rfl)
                try simp only [Act.put, List.getElem_toArray, List.getElem_cons_succ, List.getElem_cons_zero, List.setIfInBounds_toArray, List.set_cons_succ, List.set_cons_zero]
                refine wpAnyH_take (i := 34) (v := ?_) rfl (by kernel_rfl) (by kernel_rfl) (by kernel_rfl) (fun _ _ _ h => h) (Or.inl ⟨by rfl, ?_⟩) (by assumption) ?_
                rotate_left
                · (intro w hSw; (try dsimp only at hSw); go_simp; try with_reducible rfl)
                try simp only [Act.put, List.getElem_toArray, List.getElem_cons_succ, List.getElem_cons_zero, List.setIfInBounds_toArray, List.set_cons_succ, List.set_cons_zero]
                refine wpAnyH_take (i := 35) (v := ?_) rfl (by kernel_rfl) (by kernel_rfl) (by kernel_rfl) (fun _ _ _ h => h) (Or.inl ⟨by rfl, ?_⟩) (by assumption) ?_
                rotate_left
                · (intro w hSw; (try dsimp only at hSw); go_simp; try with_reducible rfl)
                try simp only [Act.put, List.getElem_toArray, List.getElem_cons_succ, List.getElem_cons_zero, List.setIfInBounds_toArray, List.set_cons_succ, List.set_cons_zero]
                refine wpAnyH_take (i := 36) (v := ?_) rfl (by kernel_rfl) (by kernel_rfl) (by kernel_rfl) (fun _ _ _ h => h) (Or.inl ⟨by rfl, ?_⟩) (by assumption) ?_
                rotate_left
                · (intro w hSw; (try dsimp only at hSw); go_simp; try with_reducible rfl)
                try simp only [Act.put, List.getElem_toArray, List.getElem_cons_succ, List.getElem_cons_zero, List.setIfInBounds_toArray, List.set_cons_succ, List.set_cons_zero]
                refine wpAnyH_take (i := 37) (v := ?_) rfl (by kernel_rfl) (by kernel_rfl) (by kernel_rfl) (fun _ _ _ h => h) (Or.inl ⟨by rfl, ?_⟩) (by assumption) ?_
                rotate_left
                · (intro w hSw; (try dsimp only at hSw); go_simp; try with_reducible rfl)
                try simp only [Act.put, List.getElem_toArray, List.getElem_cons_succ, List.getElem_cons_zero, List.setIfInBounds_toArray, List.set_cons_succ, List.set_cons_zero]
                refine wpAnyH_take (i := 38) (v := ?_) rfl (by kernel_rfl) (by kernel_rfl) (by kernel_rfl) (fun _ _ _ h => h) (Or.inl ⟨by rfl, ?_⟩) (by assumption) ?_
                rotate_left
                · (intro w hSw; (try dsimp only at hSw); go_simp; try with_reducible rfl)
                try simp only [Act.put, List.getElem_toArray, List.getElem_cons_succ, List.getElem_cons_zero, List.setIfInBounds_toArray, List.set_cons_succ, List.set_cons_zero]
                refine wpAnyH_take (i := 39) (v := ?_) rfl (by kernel_rfl) (by kernel_rfl) (by kernel_rfl) (fun _ _ _ h => h) (Or.inl ⟨by rfl, ?_⟩) (by assumption) ?_
                rotate_left
                · (intro w hSw; (try dsimp only at hSw); go_simp; try with_reducible rfl)
                try simp only [Act.put, List.getElem_toArray, List.getElem_cons_succ, List.getElem_cons_zero, List.setIfInBounds_toArray, List.set_cons_succ, List.set_cons_zero]
                refine wpAnyH_take (i := 40) (v := ?_) rfl (by kernel_rfl) (by kernel_rfl) (by kernel_rfl) (fun _ _ _ h => h) (Or.inl ⟨by rfl, ?_⟩) (by assumption) ?_
                rotate_left
                · (intro w hSw; (try dsimp only at hSw); go_simp; try with_reducible rfl)
                try simp only [Act.put, List.getElem_toArray, List.getElem_cons_succ, List.getElem_cons_zero, List.setIfInBounds_toArray, List.set_cons_succ, List.set_cons_zero]
                refine wpAnyH_take (i := 41) (v := ?_) rfl (by kernel_rfl) (by kernel_rfl) (by kernel_rfl) (fun _ _ _ h => h) (Or.inl ⟨by rfl, ?_⟩) (by assumption) ?_
                rotate_left
                · (intro w hSw; (try dsimp only at hSw); go_simp; try with_reducible rfl)
                try simp only [Act.put, List.getElem_toArray, List.getElem_cons_succ, List.getElem_cons_zero, List.setIfInBounds_toArray, List.set_cons_succ, List.set_cons_zero]
                refine wpAnyH_take (i := 42) (v := undef) rfl (by kernel_rfl) (by kernel_rfl) (by kernel_rfl) (fun _ _ _ h => h) (Or.inr ⟨by rfl, rfl⟩) (by assumption) ?_
                try simp only [Act.put, List.getElem_toArray, List.getElem_cons_succ, List.getElem_cons_zero, List.setIfInBounds_toArray, List.set_cons_succ, List.set_cons_zero]
                refine wpAnyH_take (i := 43) (v := undef) rfl (by kernel_rfl) (by kernel_rfl) (by kernel_rfl) (fun _ _ _ h => h) (Or.inr ⟨by rfl, rfl⟩) (by assumption) ?_
                try simp only [Act.put, List.getElem_toArray, List.getElem_cons_succ, List.getElem_cons_zero, List.setIfInBounds_toArray, List.set_cons_succ, List.set_cons_zero]
                refine wpAnyH_take (i := 44) (v := undef) rfl (by kernel_rfl) (by kernel_rfl) (by kernel_rfl) (fun _ _ _ h => h) (Or.inr ⟨by rfl, rfl⟩) (by assumption) ?_
                try simp only [Act.put, List.getElem_toArray, List.getElem_cons_succ, List.getElem_cons_zero, List.setIfInBounds_toArray, List.set_cons_succ, List.set_cons_zero]
                refine wpAnyH_take (i := 45) (v := undef) rfl (by kernel_rfl) (by kernel_rfl) (by kernel_rfl) (fun _ _ _ h => h) (Or.inr ⟨by rfl, rfl⟩) (by assumption) ?_
                try simp only [Act.put, List.getElem_toArray, List.getElem_cons_succ, List.getElem_cons_zero, List.setIfInBounds_toArray, List.set_cons_succ, List.set_cons_zero]
                refine wpAnyH_take (i := 46) (v := undef) rfl (by kernel_rfl) (by kernel_rfl) (by kernel_rfl) (fun _ _ _ h => h) (Or.inr ⟨by rfl, rfl⟩) (by assumption) ?_
                try simp only [Act.put, List.getElem_toArray, List.getElem_cons_succ, List.getElem_cons_zero, List.setIfInBounds_toArray, List.set_cons_succ, List.set_cons_zero]
                refine wpAnyH_take (i := 47) (v := undef) rfl (by kernel_rfl) (by kernel_rfl) (by kernel_rfl) (fun _ _ _ h => h) (Or.inr ⟨by rfl, rfl⟩) (by assumption) ?_
                try simp only [Act.put, List.getElem_toArray, List.getElem_cons_succ, List.getElem_cons_zero, List.setIfInBounds_toArray, List.set_cons_succ, List.set_cons_zero]
                refine wpAnyH_take (i := 48) (v := undef) rfl (by kernel_rfl) (by kernel_rfl) (by kernel_rfl) (fun _ _ _ h => h) (Or.inr ⟨by rfl, rfl⟩) (by assumption) ?_
                try simp only [Act.put, List.getElem_toArray, List.getElem_cons_succ, List.getElem_cons_zero, List.setIfInBounds_toArray, List.set_cons_succ, List.set_cons_zero]
                refine wpAnyH_take (i := 49) (v := ?_) rfl (by kernel_rfl) (by kernel_rfl) (by kernel_rfl) (fun _ _ _ h => h) (Or.inl ⟨by rfl, ?_⟩) (by assumption) ?_
                rotate_left
                · (intro w hSw; (try dsimp only at hSw); go_simp; try with_reducible rfl)
                try simp only [Act.put, List.getElem_toArray, List.getElem_cons_succ, List.getElem_cons_zero, List.setIfInBounds_toArray, List.set_cons_succ, List.set_cons_zero]
                refine wpAnyH_take (i := 50) (v := ?_) rfl (by kernel_rfl) (by kernel_rfl) (by kernel_rfl) (fun _ _ _ h => h) (Or.inl ⟨by rfl, ?_⟩) (by assumption) ?_
                rotate_left
                · (intro w hSw; (try dsimp only at hSw); go_simp; try with_reducible rfl)
                try simp only [Act.put, List.getElem_toArray, List.getElem_cons_succ, List.getElem_cons_zero, List.setIfInBounds_toArray, List.set_cons_succ, List.set_cons_zero]
                refine wpAnyH_done (by kernel_rfl) ?_ _
                refine NoPanic.normal ?_
                have HE := Lib.hid (show Below X.heap.size X _ from bel_trans HZ6.out (show Below wc.heap.size wc _ by go_split_ands; assumption))
                go_wp2
                go_roundw
                case rel => exact ⟨(i : Int) + 1, by omega, by omega, by go_num, HE⟩
                case measure => simp [intOf]; omega
              · obtain rfl := hpv h0
                have hd0 : decide (0 < i) = true := by simpa using h0
                rw [hd0]
                go_wp2
                go_region_held3 (fun w' => Below wc.heap.size wc w' ∧ w'.rangeAt w.heap.size 0 a.cells.toList ∧ (rowOf w' (w.heap.size + 1) = key.cells ∧ isRow w' (w.heap.size + 1) = true ∧ w.heap.size + 1 < w'.heap.size) ∧ (rowOf w' w2.heap.size = r2 ∧ isRow w' w2.heap.size = true ∧ w2.heap.size < w'.heap.size) ∧ (rowOf w' b21 = r6 ∧ isRow w' b21 = true ∧ b21 < w'.heap.size) ∧ w'.cell? ⟨bv, ov + i * 2, none⟩ = some (.int .i64 vs[i].par) ∧ w'.cell? ⟨bv, ov + i * 2 + 1, none⟩ = some (.slice av vs[i].xs.length nv)) (first | exact HS.out _ (bel_drew (Below.refl _ _)) | (refine HS.out _ (bel_trans ?_ b7); go_split_ands; assumption))
                  (first
                    | (go_at_call 27; refine (C27.out _ ?_).mono ?_; (go_split_ands; assumption); rintro e w7 ⟨rfl, b7⟩)
                    | (go_at_call 54; refine (C54.out _ ?_).mono ?_; (go_split_ands; assumption); rintro e w7 ⟨rfl, b7⟩)
                    | (go_at_call 55; refine (C55.out _ ?_).mono ?_; (go_split_ands; assumption); rintro e w7 ⟨rfl, b7⟩)
                    | (go_at_call 42; refine (C42.out _ ?_).mono ?_; (go_split_ands; assumption); rintro e w7 ⟨v42, rfl, h42, b7⟩)
                    | (go_at_call 56; refine (C56.out _ ?_).mono ?_; (go_split_ands; assumption); rintro e w7 ⟨v56, rfl, h56, b7⟩; have h42 := h42.below b7)
                    | (go_at_call 43; refine (same_all _ _ _ _ h42 h56).mono ?_; rintro e w7 ⟨rfl, b7⟩))
                have HE := Lib.hid (show Below X.heap.size X _ from bel_trans HZ6.out (show Below wc.heap.size wc _ by go_split_ands; assumption))
                go_wp2
                go_roundw
                case rel => exact ⟨(i : Int) + 1, by omega, by omega, by go_num, HE⟩
                case measure => simp [intOf]; omega
          · have hv : hasV nds u = false := by simpa using hin
            have hf : findV nds u a = none := by rw [findV, hv]; rfl
            have hcase : u = -1 ∨ u = vs.length := by
              have := Hvn.out
              simp [hasV] at hv
              by_cases h0 : 0 ≤ u
              · have := hv h0; omega
              · omega
            have hfind := Find_hold HX.out u a
            rw [hf] at hfind
            have hslot := Slot_hold HX.out hG.out.right u a key
            rw [hf] at hslot
            go_wp2_with fail
            refine hfind.mono ?_
            rintro e w2 ⟨r2, rfl, hr2, b2⟩
            have hrz := hr2.size
            have hr1 := hr2.one
            have B3 := Lib.hid (bel_alloc b2 (.cells r2 30))
            have HX3 := Lib.hid (HX.out.below B3.out)
            obtain ⟨z0, k0, l0⟩ := carryRow B3.out z0 k0
            obtain ⟨z1, k1, l1⟩ := carryRow B3.out z1 k1
            have zb2 := Lib.hid b2.size
            clear hr2 b2 hfind hslot
            go_wp2_with fail
            refine (Parent_no_hold HX3.out u (.inl hv)).mono ?_
            rintro e w3 ⟨rfl, rfl⟩
            have hall := All_hold HX3.out HTn.out u
            have hz0 : slotOf ((none : Option Acc).getD zeroAcc).stor key = zeroWrd := by simp [slotOf, zeroAcc, emptyAcc]
            have Hnil := Lib.hid (show ∀ zs : List Acc, (∀ x, x ∈ zs ↔ findV nds u x.adr = some x ∧ emptyAt x = false) → zs = [] from fun zs h => by
              rw [List.eq_nil_iff_forall_not_mem]
              intro x hx
              have := ((h x).1 hx).1
              rw [findV, hv] at this
              cases this)
            have Hslot := Lib.hid (fun (w' : World) (h : Hold W0 w' s g c nds) => by
              have h2 := Slot_hold h hG.out.right u a key
              rw [hf, hz0] at h2
              exact h2)
            have Hall := Lib.hid hall
            clear hall hf hz0 hin
            rcases hcase with rfl | rfl
            · go_wp2_with fail
              refine Hall.out.mono ?_
              rintro e w4 ⟨v4, zs, rfl, q1, q2, q3, -⟩
              obtain rfl := Hnil.out zs q3
              obtain ⟨p4, c4, rfl⟩ := q1.form
              have HX4 := Lib.hid (HX3.out.below q1.bel)
              have B4 := Lib.hid (bel_trans (bel_trans hb.out B3.out) q1.bel)
              obtain ⟨z0, k0, l0⟩ := carryRow q1.bel z0 k0
              obtain ⟨z1, k1, l1⟩ := carryRow q1.bel z1 k1
              clear q1 q2 q3
              go_wp2_with fail
              refine (Hslot.out _ HX4.out).mono ?_
              rintro e w5 ⟨rfl, b5⟩
              have hb5 := Lib.hid (bel_trans B4.out b5)
              clear b5
              go_wp2
              go_roundw
              case rel => exact ⟨0, by omega, by omega, by go_num, hb5⟩
              case measure => simp [intOf]; omega
            · have hlt0 : decide ((vs.length : Int) < 0) = false := by simp
              go_wp2_with fail
              refine Hall.out.mono ?_
              rintro e w4 ⟨v4, zs, rfl, q1, q2, q3, -⟩
              obtain rfl := Hnil.out zs q3
              obtain ⟨p4, c4, rfl⟩ := q1.form
              have HX4 := Lib.hid (HX3.out.below q1.bel)
              have B4 := Lib.hid (bel_trans (bel_trans hb.out B3.out) q1.bel)
              obtain ⟨z0, k0, l0⟩ := carryRow q1.bel z0 k0
              obtain ⟨z1, k1, l1⟩ := carryRow q1.bel z1 k1
              clear q1 q2 q3
              go_wp2_with fail
              refine (Hslot.out _ HX4.out).mono ?_
              rintro e w5 ⟨rfl, b5⟩
              have hb5 := Lib.hid (bel_trans B4.out b5)
              clear b5
              go_wp2
              go_roundw
              case rel => exact ⟨(vs.length : Int) + 1, by omega, by omega, by go_num, hb5⟩
              case measure => simp [intOf]
end Go.Proofs.Ytadafohgglnneaa
