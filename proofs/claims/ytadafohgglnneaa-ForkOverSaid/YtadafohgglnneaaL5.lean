/- What a version has set stands ahead of what the cache knows: the walk of the law, and the law. No condition. -/
import Derived.Test.YtadafohgglnneaaX20
import Derived.Test.YtadafohgglnneaaF4
import Derived.Test.YtadafohgglnneaaX10
import Derived.Deep.CutRange
namespace Go.Proofs.Ytadafohgglnneaa
open Go.RowKit
/-- The variables of the law behind j rounds of the first loop. -/
structure OverIn (w w' : World) (s g cs : Nat) (nds : List Nd) (c k t P : Nat) (j : Nat) : Prop where
  st : ∃ xs ts kr row, Both (fun b => b = P) w w' s g cs nds c k t xs ts ∧ rowOf w' P = row ∧ PcIn (fun b => b ≠ k ∧ b ≠ t ∧ b ≠ P) w' row kr ts ∧ (∀ b, findK b xs = findK b kr) ∧ kr.length ≤ j ∧ ts.length ≤ j ∧ (∀ x ∈ kr, smallAcc x)
  isr : isRow w' P = true
  fr : rowFr w' P = (0, 0)
  bel : Below w.heap.size w w'
  size : k < P ∧ t < P
theorem findK_set_put {xs kr : List Acc} (h : ∀ b, findK b xs = findK b kr) (x : Acc) : ∀ b, findK b (setK x xs) = findK b (putL x false kr) := by
  intro b
  by_cases e : b = x.adr
  · subst e; rw [findK_setK_self, findK_putL_self]
  · rw [findK_setK e, findK_putL_other e, h b]
theorem putL_mem {x y : Acc} : ∀ {l : List Acc} {d : Bool}, y ∈ putL x d l → y = x ∨ y ∈ l
  | [], d, h => by cases d <;> simp [putL] at h; exact .inl h
  | z :: l, d, h => by
    unfold putL at h
    rcases List.mem_append.1 h with h | h
    · split at h <;> simp at h; exact .inl h
    · split at h
      · rcases List.mem_cons.1 h with h | h
        · exact .inl h
        · rcases putL_mem h with h | h
          · exact .inl h
          · exact .inr (List.mem_cons_of_mem _ h)
      · rcases List.mem_cons.1 h with h | h
        · exact .inr (by rw [h]; exact List.mem_cons_self ..)
        · rcases putL_mem h with h | h
          · exact .inl h
          · exact .inr (List.mem_cons_of_mem _ h)
theorem wantT_congr {xs kr : List Acc} (h : ∀ b, findK b xs = findK b kr) (ts : List (Adr × Nat)) (a : Adr) : wantT xs ts a = wantT kr ts a := by unfold wantT; rw [h a]
theorem wantT_len (xs : List Acc) (ts : List (Adr × Nat)) (a : Adr) : (wantT xs ts a).length ≤ ts.length + 1 := by
  unfold wantT
  split
  · omega
  · split
    · omega
    · unfold setT; split <;> simp
/-- The commit of the law: taken, or turned down. -/
def Commit0 (w w4 : World) (s g0 c k t : Nat) (loc : List Acc) (e : Ending) (w5 : World) : Prop := ∃ (vv ev : Int) (g cs : Nat) (nds : List Nd), e = .returned (.tuple #[.int .i64 vv, .int .i64 ev]) ∧ ((vv = 1 ∧ ev = 0 ∧ (∀ a, findV nds vv a = findK a (setAll loc))) ∨ (vv = 0 ∧ ev = 1 ∧ (∀ a, findV nds vv a = none))) ∧
  Both (fun _ => False) w w5 s g cs nds c k t [] [] ∧ Kept (fun b => b = s ∨ b = g0) w4 w5
theorem findV_root (a : Adr) : findV [⟨-1, none, []⟩] 0 a = none := by
  simp [findV, hasV, findF, findK]
theorem findV_one (k : Nat) (ys : List Acc) (a : Adr) : findV [⟨-1, none, []⟩, ⟨0, some k, ys⟩] 1 a = findK a ys := by
  have h : hasV [⟨-1, none, []⟩, ⟨0, some k, ys⟩] 1 = true := by simp [hasV]
  rw [findV, h]
  simp [findF]
  cases findK a ys with
  | some x => rfl
  | none => simp [findK]
theorem commit0 {w w4 : World} {s g0 c k t : Nat} {loc : List Acc} (h : Both (fun _ => False) w w4 s g0 1 [⟨-1, none, []⟩] c k t [] []) (hc0 : HoldC (fun b => b = s ∨ b = g0) w w4 c k t [] []) (hcs : s ≠ c ∧ g0 ≠ c) (v : Value) (hl : AccsAt AnyBlock w4 v loc) (hsm : ∀ x ∈ loc, smallAcc x) :
    Calls Try.prog 29 #[.pointer (some ⟨s, 0, none⟩), .int .i64 0, v] w4 (Commit0 w w4 s g0 c k t loc) := by
  have H := h
  obtain ⟨⟨S, h1, h2⟩, h3, h4, h5, h6, h7⟩ := h
  have lz := h2.lt
  obtain ⟨⟨S7, p1, p2⟩, p3, p4, p5⟩ := h7
  have lk : k < w4.heap.size := by obtain ⟨_, _, q, _⟩ := p2.objK; exact objAt_lt q
  have lt : t < w4.heap.size := by obtain ⟨_, _, q, _⟩ := p2.objT; exact objAt_lt q
  have lc : c < w4.heap.size := isRow_lt p2.isRow
  rcases hb : badAny loc with _ | _
  · refine (commit_ok h2 0 v loc hl rfl hb (by decide) hsm (fun b hb => (h1 b hb).2.1)).mono ?_
    rintro e w' ⟨g', c', m, rfl, q1, q2, q3, q4⟩
    have hz := q4.size
    simp only [not_false_eq_true, and_true] at h1 h4
    refine ⟨1, 0, g', c', _, rfl, .inl ⟨rfl, rfl, fun a => findV_one _ _ a⟩, ⟨⟨_, fun b hb => ?_, q1⟩, fun d hd m' hm => ?_, by simp only [not_false_eq_true, and_true]; omega, by omega, ?_, ?_⟩, q4⟩
    · rcases hb with hb | ⟨hb, hb2⟩
      · have := h1 b hb; exact ⟨this.1, by omega, by omega, by omega, id⟩
      · unfold Fresh at hb; exact ⟨by omega, by omega, by omega, by omega, id⟩
    · simp at hd
      rcases hd with rfl | rfl
      · cases hm
      · cases hm; exact ⟨by omega, by omega, id⟩
    · intro d hd x hx
      simp at hd
      rcases hd with rfl | rfl
      · simp at hx
      · exact hsm x (setAll_mem hx)
    · exact (hc0.kept (M := fun b => b = s ∨ b = g0) q4 (fun b hb => ⟨hb, by omega, by omega, by omega⟩)).drop
  · refine (commit_bad h2 0 v loc hl rfl hb).mono ?_
    rintro e w' ⟨rfl, q⟩
    exact ⟨0, 1, g0, 1, _, rfl, .inr ⟨rfl, rfl, fun a => findV_root a⟩, H.below q, .of_below q⟩
set_option maxRecDepth 100000 in
set_option maxHeartbeats 4000000 in
theorem forkOver_walk (w : World) (v1 : Value) (loc : List Acc) (h1 : AccsAt AnyBlock w v1 loc) (v2 : Value) (kno : List Acc) (h2 : AccsAt AnyBlock w v2 kno) (a : Adr) :
    Calls Try.prog 5 #[v1, v2, .agg a.cells] w fun e w' => e = .returned (.bool true) ∧ Below w.heap.size w w' := by
  obtain ⟨p1, c1, rfl⟩ := h1.form
  obtain ⟨p2, c2, rfl⟩ := h2.form
  have hc1 := h1.le
  have hc2 := h2.le
  unfold maxLen at hc1 hc2
  have H1 := Lib.hid h1; clear h1
  have H2 := Lib.hid h2; clear h2
  have BW := Lib.hid (show Below w.heap.size w (w.alloc (.cells a.cells 23)) from bel_alloc (Below.refl _ _) _)
  go_enter Try.func5, Try.ntmps5
  go_wp2_with fail
  refine (ref13_Great (S := AnyBlock) _ _ loc (H1.out.below BW.out)).mono ?_
  rintro e w1 ⟨rfl, hb1⟩
  obtain ⟨y1, j1, l1⟩ := carryRow hb1 (r := a.cells) (b := w.heap.size) (by simp [go_sem]) (by simp [go_sem])
  have B1 := Lib.hid (bel_trans BW.out hb1); clear hb1
  rcases hg : greatB loc with _ | _
  rotate_left
  · go_wp2_with fail
    refine (fixed15 _).mono ?_
    rintro e w2 ⟨rfl, hb2⟩
    go_wp2
    go_ret
    exact ⟨rfl, bel_trans B1.out hb2⟩
  · go_wp2_with fail
    refine (ref13_Great (S := AnyBlock) _ _ kno (H2.out.below B1.out)).mono ?_
    rintro e w2 ⟨rfl, hb2⟩
    obtain ⟨y2, j2, l2⟩ := carryRow hb2 y1 j1
    have B2 := Lib.hid (bel_trans B1.out hb2); clear hb2 y1 j1 l1
    rcases hg2 : greatB kno with _ | _
    rotate_left
    · go_wp2_with fail
      refine (fixed15 _).mono ?_
      rintro e w3 ⟨rfl, hb3⟩
      go_wp2
      go_ret
      exact ⟨rfl, bel_trans B2.out hb3⟩
    · have hsm1 := Lib.hid (great_small hg)
      have hsm2 := Lib.hid (great_small hg2)
      have hl1 : loc.length ≤ 50 := by simp [greatB] at hg; omega
      have hl2 : kno.length ≤ 50 := by simp [greatB] at hg2; omega
      clear hg hg2
      go_wp2_with fail
      refine (store_New _).mono ?_
      rintro e w3 ⟨s, g, rfl, hs0, hg0, hst, hb3⟩
      obtain ⟨y3, j3, l3⟩ := carryRow hb3 y2 j2
      have lt3 := hst.lt
      have HST := Lib.hid hst
      have B3 := Lib.hid (bel_trans B2.out hb3); clear hb3 y2 j2 hst
      go_wp2_with fail
      refine (fork_New _).mono ?_
      rintro e w4 ⟨rfl, hw4⟩
      have b34 : Below w3.heap.size w3 w4 := by rw [hw4]; exact bel_alloc (bel_alloc (bel_alloc (Below.refl _ _) _) _) _
      have z4 : w4.heap.size = w3.heap.size + 3 := by rw [hw4]; simp
      obtain ⟨y4, j4, l4⟩ := carryRow b34 y3 j3
      have B4 := Lib.hid (bel_trans B3.out b34)
      have hz03 := B3.out.size
      have HC4 : Hid (HoldC (fun b => b = s ∨ b = g) w w4 (w3.heap.size + 2) w3.heap.size (w3.heap.size + 1) [] []) := Lib.hid (new_cache hz03 (by rw [← z4, ← hw4]; exact Below.refl _ _) (fun b hb => by omega))
      have HST4 := Lib.hid (HST.out.below b34)
      clear hw4 b34 y3 j3 l3
      have hBoth : Both (fun _ => False) w w4 s g 1 [⟨-1, none, []⟩] (w3.heap.size + 2) w3.heap.size (w3.heap.size + 1) [] [] := by
        have := B2.out.size
        refine ⟨⟨_, fun b hb => ?_, HST4.out⟩, fun d hd m hm => ?_, by simp only [not_false_eq_true, and_true]; omega, by omega, ?_, HC4.out.drop⟩
        · unfold Fresh at hb; simp only [not_false_eq_true, and_true]; omega
        · simp at hd; subst hd; simp at hm
        · intro d hd x hx; simp at hd; subst hd; simp at hx
      have HBoth := Lib.hid hBoth
      clear hBoth
      have hkk : w3.heap.size + 2 < w4.heap.size := by omega
      generalize w3.heap.size = K at *
      have hsg : s < K ∧ g < K := by omega
      go_wp2_with fail
      refine (commit0 HBoth.out HC4.out (by omega) _ (H1.out.below B4.out) hsm1.out).mono ?_
      rintro e w5 ⟨vv, ev, g', cs', nds, rfl, hve, hBo, hK5⟩
      have hlow := B2.out.size
      have l4' := isRow_lt j4
      have y5 : rowOf w5 w.heap.size = a.cells := by rw [hK5.row _ l4' (by omega), y4]
      have j5 : isRow w5 w.heap.size = true := by rw [hK5.isRow _ l4' (by omega), j4]
      have B5 : Below w.heap.size w w5 := bel_kept B4.out hK5 (fun x hx e => by omega)
      have hz5 := hK5.size
      have HB5 := Lib.hid hBo
      have HV := Lib.hid hve
      have BB5 := Lib.hid B5
      clear HBoth HC4 HST HST4 y4 j4 l4 hBo hve hK5 B5
      go_wp2
      generalize hP : w5.heap.size = P at *
      generalize hW6 : w5.alloc (.cells (pcRow (.slice none 0 0) (.slice none 0 0)) 51) = W6 at *
      have b56 : Below w5.heap.size w5 W6 := by rw [← hW6]; exact bel_alloc (Below.refl _ _) _
      obtain ⟨y6, j6, l6⟩ := carryRow b56 y5 j5
      have hO6 : OverIn w W6 s g' cs' nds (K + 2) K (K + 1) P 0 := by
        refine ⟨⟨[], [], [], pcRow (.slice none 0 0) (.slice none 0 0), by rw [← hP]; exact HB5.out.mark b56 (by rw [← hW6]; simp), ?_, ⟨_, _, rfl, AccsAt.nil _ _, RowsAt.nil _ _ _⟩, fun b => rfl, by simp, by simp, by simp⟩, ?_, ?_, bel_trans BB5.out b56, by omega⟩
        · rw [← hW6]; exact rowOf_alloc_at _ _ _ _ hP.symm
        · rw [← hW6]; exact isRow_alloc_at _ _ _ _ hP.symm
        · rw [← hW6]; exact rowFr_alloc_at _ _ _ _ hP.symm
      have HO6 := Lib.hid hO6
      have hz6 : w.heap.size < P ∧ K + 2 < P ∧ P < W6.heap.size := ⟨by have := isRow_lt j5; omega, by omega, by rw [← hW6]; simp; omega⟩
      clear hO6 b56 hW6 y5 j5 HB5 BB5 hP
      go_loopw [41] (fun vi wr => ∃ j : Nat, j ≤ kno.length ∧ vi = .int .i64 j ∧ OverIn w wr s g' cs' nds (K + 2) K (K + 1) P j ∧ P < wr.heap.size ∧ rowOf wr w.heap.size = a.cells ∧ isRow wr w.heap.size = true) (fun vi _ => kno.length - (intOf vi).toNat)
      case atStart => exact ⟨0, Nat.zero_le _, rfl, HO6.out, hz6.2.2, y6, j6⟩
      case round =>
        obtain ⟨j, hj, rfl, hO, hPr, y0, j0⟩ := hrel
        clear HO6 y6 j6 l6
        by_cases hlt : j < kno.length
        · obtain ⟨⟨xs, ts, kr, rowm, hbo, rP, hpc, hfk, hkl, htl, hksm⟩, iP, fP, hbel, -⟩ := hO
          obtain ⟨b, o, cc, rs, hv', q1, q2, -, hbb, hsz, hall⟩ := (H2.out.bound.below hbel).pos (by omega)
          cases hv'
          obtain ⟨hrow, hacc⟩ := hall j hlt
          have hs1 : o + j * 27 + 27 ≤ (rowOf wr b).size := by omega
          have hki : (j : Int) < (kno.length : Int) := by omega
          have hki0 : (0 : Int) ≤ (j : Int) := by omega
          have hrz := hacc.size
          have hr1 := hacc.one
          generalize hrr : rowAt rs j = row at *
          obtain ⟨hw27, had⟩ := hacc.ext0
          have hxs : smallAcc (accAt kno j) := by
            have : accAt kno j = kno[j] := by simp [accAt, hlt]
            rw [this]; exact hsm2.out _ (List.getElem_mem hlt)
          generalize hxx : accAt kno j = x at *
          clear hall hrr hxx
          have hB1 : Below wr.heap.size wr (wr.alloc (.cells row 30)) := bel_alloc (Below.refl _ _) _
          have HBo := Lib.hid (hbo.below hB1)
          have HPc := Lib.hid (hpc.below hB1)
          have HAcc := Lib.hid (hacc.below hB1)
          have Hbel := Lib.hid (bel_trans hbel hB1)
          have Hfk := Lib.hid hfk
          have Hksm := Lib.hid hksm
          have hW : ∃ W, W = wr.alloc (.cells row 30) := ⟨_, rfl⟩
          obtain ⟨W, hW⟩ := hW
          rw [← hW] at HBo HPc HAcc Hbel
          have rb : rowOf W wr.heap.size = row := by rw [hW]; exact rowOf_alloc_at _ _ _ _ rfl
          have ib : isRow W wr.heap.size = true := by rw [hW]; exact isRow_alloc_at _ _ _ _ rfl
          have rPW : rowOf W P = rowm := by rw [hW, rowOf_alloc_past _ _ _ hPr, rP]
          have iPW : isRow W P = true := by rw [hW, isRow_alloc_past _ _ _ hPr, iP]
          have fPW : rowFr W P = (0, 0) := by rw [hW, rowFr_alloc_past _ _ _ hPr, fP]
          have r0W : rowOf W w.heap.size = a.cells := by rw [hW, rowOf_alloc_past _ _ _ (isRow_lt j0), y0]
          have i0W : isRow W w.heap.size = true := by rw [hW, isRow_alloc_past _ _ _ (isRow_lt j0), j0]
          have zW : W.heap.size = wr.heap.size + 1 := by rw [hW]; simp
          have HW := Lib.hid hW
          clear hW hbo hpc hacc hfk hksm hB1 hbel rP iP fP y0 j0
          go_upto_region 9 with (fail)
          rw [← HW.out]
          go_wp2_with fail
          refine (want_any HBo.out.ca x.adr).mono ?_
          rintro e W7 ⟨rfl, hc7, K7⟩
          have hbo7 := HBo.out.turn (K7.mono fun b _ e => .inr e) hc7
          have Hnd7 := Lib.hid hc7.nodup
          have z7 := K7.size
          have rb7 : rowOf W7 wr.heap.size = row := by rw [K7.row _ (by omega) (by omega), rb]
          have ib7 : isRow W7 wr.heap.size = true := by rw [K7.isRow _ (by omega) (by omega), ib]
          have rP7 : rowOf W7 P = rowm := by rw [K7.row _ (by omega) (by omega), rPW]
          have iP7 : isRow W7 P = true := by rw [K7.isRow _ (by omega) (by omega), iPW]
          have fP7 : rowFr W7 P = (0, 0) := by rw [K7.rowFr _ (by omega) (by omega), fPW]
          have r07 : rowOf W7 w.heap.size = a.cells := by rw [K7.row _ (by omega) (by omega), r0W]
          have i07 : isRow W7 w.heap.size = true := by rw [K7.isRow _ (by omega) (by omega), i0W]
          have HPc7 := Lib.hid (HPc.out.kept K7 (fun b hb e => by omega))
          have HAcc7 := Lib.hid (HAcc.out.kept K7 (fun b hb e => by omega))
          have bel7 := bel_kept Hbel.out K7 (fun x hx e => by omega)
          have Hb7 := Lib.hid hbo7
          have Hbel7 := Lib.hid bel7
          clear rb ib rPW iPW fPW r0W i0W HBo HPc HAcc Hbel hc7 hbo7 K7 bel7
          go_wp2_with fail
          refine (fill_any Hb7.out.ca row x HAcc7.out (fun b hb => by omega) hxs).mono ?_
          rintro e W8 ⟨rfl, hc8, K8⟩
          have hbo8 := Hb7.out.turn K8 hc8
          have z8 := K8.size
          have rb8 : rowOf W8 wr.heap.size = row := by rw [K8.row _ (by omega) (by omega), rb7]
          have ib8 : isRow W8 wr.heap.size = true := by rw [K8.isRow _ (by omega) (by omega), ib7]
          have rP8 : rowOf W8 P = rowm := by rw [K8.row _ (by omega) (by omega), rP7]
          have iP8 : isRow W8 P = true := by rw [K8.isRow _ (by omega) (by omega), iP7]
          have fP8 : rowFr W8 P = (0, 0) := by rw [K8.rowFr _ (by omega) (by omega), fP7]
          have r08 : rowOf W8 w.heap.size = a.cells := by rw [K8.row _ (by omega) (by omega), r07]
          have i08 : isRow W8 w.heap.size = true := by rw [K8.isRow _ (by omega) (by omega), i07]
          have hpc8 := HPc7.out.kept K8 (fun b hb e => by omega)
          have hmz := hpc8.one
          obtain ⟨hmz1, hmz2, hmz3⟩ := hmz
          have HPc8 := Lib.hid hpc8.bound
          have HAcc8 := Lib.hid (HAcc7.out.kept K8 (fun b hb e => by omega))
          have bel8 := bel_kept Hbel7.out K8 (fun x hx e => by omega)
          have Hb8 := Lib.hid hbo8
          have Hbel8 := Lib.hid bel8
          clear rb7 ib7 rP7 iP7 fP7 r07 i07 Hb7 HPc7 HAcc7 Hbel7 hc8 hbo8 K8 bel8 hpc8
          go_wp2_with fail
          refine (ref15_Want _ rowm kr ts x.adr HPc8.out (by omega)).mono ?_
          rintro e W9 ⟨row9, rfl, hp9, hb9⟩
          obtain ⟨rb9, ib9, lb9⟩ := carryRow hb9 rb8 ib8
          obtain ⟨rP9, iP9, lP9⟩ := carryRow hb9 rP8 iP8
          obtain ⟨r09, i09, l09⟩ := carryRow hb9 r08 i08
          have fP9 := carryFr hb9 (isRow_lt iP8) fP8
          have z9 := hb9.size
          have hp9' := hp9.mono (T := fun b => b ≠ K ∧ b ≠ K + 1 ∧ b ≠ P) (fun b hb => by
            rcases hb with hb | hb
            · exact ⟨by omega, by omega, by omega⟩
            · unfold Fresh at hb; omega)
          obtain ⟨hnz1, hnz2, hnz3⟩ := hp9'.one
          have HPc9 := Lib.hid hp9'
          have HAcc9 := Lib.hid (HAcc8.out.below hb9)
          have Hbel9 := Lib.hid (bel_trans Hbel8.out hb9)
          have Hb9 := Lib.hid (Hb8.out.below hb9)
          clear rb8 ib8 rP8 iP8 fP8 r08 i08 Hb8 HPc8 HAcc8 Hbel8 hp9 hp9' hb9
          have hnP : wr.heap.size ≠ P := by omega
          have hn0 : w.heap.size ≠ P := by omega
          go_wp2_with fail
          generalize hW9 : World.setSeg W9 P 0 row9.toList = W9' at *
          have iP9' : isRow W9' P = true := by rw [← hW9, ← i_setSeg, iP9]
          have fP9' : rowFr W9' P = (0, 0) := by rw [← hW9, ← f_setSeg, fP9]
          have K9 : Kept (fun b => b = P) W9 W9' := by rw [← hW9]; exact (Kept.refl _ _).setSeg _ _ _ (.inl rfl)
          have rP9' : rowOf W9' P = row9 := by rw [← hW9, rowOf_setSeg_same, rP9, putSeg_all _ _ (by omega)]
          clear hW9
          have z9' := K9.size
          have rb9' : rowOf W9' wr.heap.size = row := by rw [K9.row _ (by omega) hnP, rb9]
          have ib9' : isRow W9' wr.heap.size = true := by rw [K9.isRow _ (by omega) hnP, ib9]
          have r09' : rowOf W9' w.heap.size = a.cells := by rw [K9.row _ (by omega) hn0, r09]
          have i09' : isRow W9' w.heap.size = true := by rw [K9.isRow _ (by omega) hn0, i09]
          have hpc9' := HPc9.out.kept K9 (fun b hb e => hb.2.2 e)
          have HPc9' := Lib.hid hpc9'.bound
          have HAcc9' := Lib.hid (HAcc9.out.kept K9 (fun b hb e => by omega))
          have Hbel9' := Lib.hid (bel_kept Hbel9.out K9 (fun x hx e => by omega))
          have hbo9' := Hb9.out.kept K9 (fun b hb => ⟨hb, by omega, by omega, by omega⟩)
          have Hb9' := Lib.hid hbo9'
          clear rb9 ib9 lb9 rP9 iP9 lP9 r09 i09 l09 fP9 K9 hpc9' hbo9' HPc9 HAcc9 Hbel9 Hb9
          refine (ref15_Fill _ row9 row kr _ x HPc9'.out (HAcc9'.out.mono (fun b hb => by omega)) (by have := wantT_len kr ts x.adr; omega) (by omega)).mono ?_
          rintro e W10 ⟨row10, rfl, hp10, hb10⟩
          obtain ⟨rP10, iP10, lP10⟩ := carryRow hb10 rP9' iP9'
          obtain ⟨r010, i010, l010⟩ := carryRow hb10 r09' i09'
          have fP10 := carryFr hb10 (isRow_lt iP9') fP9'
          have z10 := hb10.size
          have hp10' := hp10.mono (T := fun b => b ≠ K ∧ b ≠ K + 1 ∧ b ≠ P) (fun b hb => by
            rcases hb with hb | hb
            · exact hb.1
            · unfold Fresh at hb; omega)
          obtain ⟨hmz1', hmz2', hmz3'⟩ := hp10'.one
          have HPc10 := Lib.hid hp10'
          have Hbel10 := Lib.hid (bel_trans Hbel9'.out hb10)
          have Hb10 := Lib.hid (Hb9'.out.below hb10)
          clear rb9' ib9' rP9' iP9' r09' i09' fP9' HPc9' HAcc9' Hbel9' Hb9' hp10 hp10' hb10
          go_wp2
          generalize hW11 : World.setSeg W10 P 0 row10.toList = W11 at *
          have iP11 : isRow W11 P = true := by rw [← hW11, ← i_setSeg, iP10]
          have fP11 : rowFr W11 P = (0, 0) := by rw [← hW11, ← f_setSeg, fP10]
          have K11 : Kept (fun b => b = P) W10 W11 := by rw [← hW11]; exact (Kept.refl _ _).setSeg _ _ _ (.inl rfl)
          have rP11 : rowOf W11 P = row10 := by rw [← hW11, rowOf_setSeg_same, rP10, putSeg_all _ _ (by omega)]
          clear hW11
          have z11 := K11.size
          have hpc11 := HPc10.out.kept K11 (fun b hb e => hb.2.2 e)
          have bel11 := bel_kept Hbel10.out K11 (fun x hx e => by omega)
          have hbo11 := Hb10.out.kept K11 (fun b hb => ⟨hb, by omega, by omega, by omega⟩)
          have r011 : rowOf W11 w.heap.size = a.cells := by rw [K11.row _ (by omega) hn0, r010]
          have i011 : isRow W11 w.heap.size = true := by rw [K11.isRow _ (by omega) hn0, i010]
          rw [wantT_congr Hfk.out ts x.adr] at hbo11
          have hnd7 := Hnd7.out
          rw [wantT_congr Hfk.out ts x.adr] at hnd7
          have hfin : OverIn w W11 s g' cs' nds (K + 2) K (K + 1) P (j + 1) := by
            have hl := wantT_len kr ts x.adr
            generalize wantT kr ts x.adr = ts1 at *
            have hpl := (putL_len x kr).2
            cases hfB : fillB ts1 x with
            | false =>
              simp only [hfB, Bool.false_eq_true, if_false] at hpc11 hbo11
              exact ⟨⟨xs, ts1, kr, row10, hbo11, rP11, hpc11, Hfk.out, by omega, by omega, Hksm.out⟩, iP11, fP11, bel11, by omega⟩
            | true =>
              simp only [hfB, if_true] at hpc11 hbo11
              have hft : ∃ n, findT x.adr ts1 = some n := by
                simp only [fillB, Bool.and_eq_true] at hfB
                exact Option.isSome_iff_exists.1 hfB.2
              obtain ⟨n, hft⟩ := hft
              rw [erase_del hnd7 hft] at hpc11
              exact ⟨⟨_, _, _, row10, hbo11, rP11, hpc11, findK_set_put Hfk.out x, by omega, Nat.le_trans (List.length_filter_le _ _) (by omega), fun y hy => by
                rcases putL_mem hy with rfl | hy
                · exact hxs
                · exact Hksm.out y hy⟩, iP11, fP11, bel11, by omega⟩
          have Hfin := Lib.hid hfin
          clear hfin hpc11 hbo11 bel11 K11 hnd7 iP11 fP11 rP11
          go_roundw
          case rel => exact ⟨j + 1, by omega, by go_num, Hfin.out, by omega, r011, i011⟩
          case measure => simp [intOf]; omega
        · obtain rfl : j = kno.length := by omega
          obtain ⟨⟨xs, ts, kr, rowm, hbo, rP, hpc, hfk, hkl, htl, hksm⟩, iP, fP, hbel, -⟩ := hO
          have hki : ¬ ((kno.length : Int) < (kno.length : Int)) := by omega
          obtain ⟨pk, ck, pa, ca, hrm, hka, -⟩ := hpc.forms
          have Hka := Lib.hid hka
          have Hbo := Lib.hid hbo
          have Hbel := Lib.hid hbel
          have Hfk := Lib.hid hfk
          have Hksm := Lib.hid hksm
          have cP : wr.cell? ⟨P, 0, none⟩ = some (.slice pk kr.length ck) := by rw [cell_row, rP, hrm]; rfl
          have lw := isRow_lt j0
          have y00 := Lib.hid y0
          have j00 := Lib.hid j0
          clear hbo hpc hfk hksm hbel hka rP hrm iP fP
          go_upto_if 67 with (fail)
          go_cut [9] from 9 to 9 (fun x wc => x = .int .i64 vv ∧ wc = wr)
          case first =>
            rcases HV.out with ⟨rfl, rfl, hf⟩ | ⟨rfl, rfl, hf⟩
            · go_wp2
              go_meet
              exact ⟨rfl, rfl⟩
            · go_wp2
              go_meet
              exact ⟨rfl, rfl⟩
          case rest =>
            obtain ⟨rfl, hw⟩ := hcut
            have hw2 := hw.symm
            clear hw
            subst hw2
            obtain ⟨V, hV⟩ : ∃ V : World, V = wr := ⟨_, rfl⟩
            subst hV
            go_wp2_with fail
            have b12 : Below V.heap.size V (V.alloc (.cells (accRow a 0 zeroWrd (.slice none 0 0) (.slice none 0 0)) 30)) := bel_alloc (Below.refl _ _) _
            refine (ref13_Find (S := fun b => (b ≠ K ∧ b ≠ K + 1 ∧ b ≠ P) ∧ b < V.heap.size) _ _ kr a (Hka.out.bound.below b12)).mono ?_
            rintro e W13 ⟨r13, rfl, a13, b13⟩
            have hz13 := a13.size
            have h113 := a13.one
            obtain ⟨hx13, -⟩ := a13.ext0
            obtain ⟨y13, j13, l13⟩ := carryRow b13 (r := accRow a 0 zeroWrd (.slice none 0 0) (.slice none 0 0)) (b := V.heap.size) (by simp [go_sem]) (by simp [go_sem])
            have g13 := carryFr b13 (by simp) (show rowFr (V.alloc (.cells (accRow a 0 zeroWrd (.slice none 0 0) (.slice none 0 0)) 30)) V.heap.size = (0, 0) by simp [go_sem])
            have bw13 := bel_trans b12 b13
            obtain ⟨y130, j130, l130⟩ := carryRow bw13 y0 j0
            have A13 := Lib.hid a13
            have BW13 := Lib.hid bw13
            generalize hfo : findK a kr = fo at *
            clear a13 b12 b13 bw13 cP y0 j0
            go_upto_if 77 with (fail)
            go_cut [15] from 15 to 78 (fun x wd => x = .bool fo.isSome ∧ ∃ row14, rowOf wd V.heap.size = row14 ∧ AccIn (fun b => b < V.heap.size) wd row14 (fo.getD (emptyAcc a)) ∧ isRow wd V.heap.size = true ∧ rowFr wd V.heap.size = (0, 0) ∧ Below V.heap.size V wd)
            case first =>
              cases fo with
              | none =>
                go_wp2
                go_meet
                refine ⟨rfl, _, by rw [rowOf_alloc_past _ _ _ l13, y13], AccIn.empty _ _ _, by rw [isRow_alloc_past _ _ _ l13, j13], by rw [rowFr_alloc_past _ _ _ l13, g13], bel_alloc BW13.out _⟩
              | some x =>
                go_wp2
                go_meet
                have K14 : Kept (fun b => b = V.heap.size) W13 ((World.setSeg W13 V.heap.size 0 r13.toList).alloc (.cells r13 30)) := Kept.alloc (M := fun b => b = V.heap.size) ((Kept.refl _ _).setSeg _ _ _ (.inl rfl)) _
                refine ⟨rfl, r13, ?_, (A13.out.kept K14 (fun b hb e => by omega)).mono fun b hb => hb.2, ?_, ?_, bel_kept BW13.out K14 (fun x hx e => by omega)⟩
                · rw [rowOf_alloc_past _ _ _ (by simp; exact l13), rowOf_setSeg_same, y13, putSeg_all _ _ (by simp; exact hz13)]
                · rw [isRow_alloc_past _ _ _ (by simp; exact l13), ← i_setSeg, j13]
                · rw [rowFr_alloc_past _ _ _ (by simp; exact l13), ← f_setSeg, g13]
            case rest =>
              have hs0' := isRow_lt j130
              clear y130 j130 l130 y13 j13 l13 g13 A13 BW13 hz13 h113 hx13 r13
              obtain ⟨rfl, row14, y14, a14, j14, g14, bel14⟩ := hcut
              have hbw := Hbel.out.size
              obtain ⟨y0, j0, l0⟩ := carryRow (Below.mono bel14 (Nat.le_refl _)) y00.out j00.out
              have hO : overK nds vv xs a = (findV nds vv a).or fo := by rw [overK, Hfk.out a, hfo]
              generalize hOO : overK nds vv xs a = O at *
              have HO := Lib.hid hO
              have HOO := Lib.hid hOO
              have A14 := Lib.hid a14
              have Y14 := Lib.hid y14
              have Bel14 := Lib.hid bel14
              clear hO hOO a14 y14 bel14 hs0' hfo
              go_upto_if 80 with (fail)
              go_cut [15] from 15 to 92 (fun x wd => x = .bool O.isSome ∧ ∃ row14, rowOf wd V.heap.size = row14 ∧ AccIn (fun b => b < V.heap.size) wd row14 (O.getD (emptyAcc a)) ∧ isRow wd V.heap.size = true ∧ Below V.heap.size V wd)
              case first =>
                rcases HV.out with ⟨rfl, rfl, hf⟩ | ⟨rfl, rfl, hf⟩
                · have hO2 : O = (findK a (setAll loc)).or fo := by rw [HO.out, hf]
                  have HO2 := Lib.hid hO2
                  clear hf hO2
                  go_wp2
                  go_loopw [15, 83] (fun vx vi wq => ∃ (j : Nat) (o : Option Acc) (row : Array Value), j ≤ loc.length ∧ vi = .int .i64 j ∧ vx = .bool o.isSome ∧ Hid (o = (findK a (setAll (loc.take j))).or fo) ∧ rowOf wq V.heap.size = row ∧ AccIn (fun b => b < V.heap.size) wq row (o.getD (emptyAcc a)) ∧ isRow wq V.heap.size = true ∧ rowFr wq V.heap.size = (0, 0) ∧ Below V.heap.size V wq) (fun _ vi _ => loc.length - (intOf vi).toNat)
                  case atStart => exact ⟨0, fo, row14, Nat.zero_le _, rfl, rfl, Lib.hid (by simp [setAll, findK]), Y14.out, A14.out, j14, g14, Bel14.out⟩
                  case round =>
                    obtain ⟨j, o, row, hj, rfl, rfl, ho, hrow14, hacc14, i14, f14, bel⟩ := hrel
                    have hbw := bel.size
                    obtain ⟨y0', j0', l0'⟩ := carryRow bel y00.out j00.out
                    by_cases hlt : j < loc.length
                    · have hbel' := bel_trans Hbel.out bel
                      obtain ⟨b, oo, cc, rs, hv', q1, q2, -, hbb, hsz, hall⟩ := (H1.out.bound.below hbel').pos (by omega)
                      cases hv'
                      obtain ⟨hrow, hacc⟩ := hall j hlt
                      have hs1 : oo + j * 27 + 27 ≤ (rowOf wr b).size := by omega
                      have hki : (j : Int) < (loc.length : Int) := by omega
                      have hki0 : (0 : Int) ≤ (j : Int) := by omega
                      have hrz := hacc.size
                      have hr1 := hacc.one
                      have hr14z := hacc14.size
                      generalize hrr : rowAt rs j = rowx at *
                      obtain ⟨hw27, had⟩ := hacc.ext0
                      have hset : setAll (loc.take (j + 1)) = setK (accAt loc j) (setAll (loc.take j)) := by
                        rw [← setAll_snoc]
                        congr 1
                        rw [List.take_add_one]
                        simp [accAt, hlt]
                      generalize hxx : accAt loc j = x at *
                      have HAcc := Lib.hid hacc
                      have HA14 := Lib.hid hacc14
                      have Hset := Lib.hid hset
                      have HBel := Lib.hid bel
                      have HR14 := Lib.hid hrow14
                      have hl14 := isRow_lt i14
                      clear hall hrr hxx hacc hacc14 hset hbel' bel
                      by_cases he : x.adr = a
                      · have hd : decide (x.adr = a) = true := by simp [he]
                        have ho2 : Hid (some x = (findK a (setAll (loc.take (j + 1)))).or fo) := Lib.hid (by rw [Hset.out, ← he, findK_setK_self]; rfl)
                        clear he
                        go_wp2
                        have K14 : Kept (fun b => b = V.heap.size) wr ((World.setSeg wr V.heap.size 0 rowx.toList).alloc (.cells rowx 30)) := Kept.alloc (M := fun b => b = V.heap.size) ((Kept.refl _ _).setSeg _ _ _ (.inl rfl)) _
                        have hE : ∃ (j' : Nat) (o : Option Acc) (row : Array Value), j' ≤ loc.length ∧ Value.int .i64 (↑j + 1) = .int .i64 j' ∧ Value.bool true = .bool o.isSome ∧ Hid (o = (findK a (setAll (loc.take j'))).or fo) ∧ rowOf ((World.setSeg wr V.heap.size 0 rowx.toList).alloc (.cells rowx 30)) V.heap.size = row ∧ AccIn (fun b => b < V.heap.size) ((World.setSeg wr V.heap.size 0 rowx.toList).alloc (.cells rowx 30)) row (o.getD (emptyAcc a)) ∧ isRow ((World.setSeg wr V.heap.size 0 rowx.toList).alloc (.cells rowx 30)) V.heap.size = true ∧ rowFr ((World.setSeg wr V.heap.size 0 rowx.toList).alloc (.cells rowx 30)) V.heap.size = (0, 0) ∧ Below V.heap.size V ((World.setSeg wr V.heap.size 0 rowx.toList).alloc (.cells rowx 30)) := by
                          refine ⟨j + 1, some x, rowx, by omega, by go_num, rfl, ho2, ?_, (HAcc.out.kept K14 (fun b hb e => by omega)).mono (fun b hb => by omega), ?_, ?_, bel_kept HBel.out K14 (fun x hx e => by omega)⟩
                          · rw [rowOf_alloc_past _ _ _ (by simp; exact hl14), rowOf_setSeg_same, HR14.out, putSeg_all _ _ (by omega)]
                          · rw [isRow_alloc_past _ _ _ (by simp; exact hl14), ← i_setSeg, i14]
                          · rw [rowFr_alloc_past _ _ _ (by simp; exact hl14), ← f_setSeg, f14]
                        have HE := Lib.hid hE
                        clear hE K14
                        go_roundw
                        case rel => exact HE.out
                        case measure => simp [intOf]; omega
                      · have hd : decide (x.adr = a) = false := by simp [he]
                        have ho2 : Hid (o = (findK a (setAll (loc.take (j + 1)))).or fo) := Lib.hid (by rw [Hset.out, findK_setK (fun e => he e.symm)]; exact ho.out)
                        clear he
                        go_wp2
                        have hE : ∃ (j' : Nat) (o' : Option Acc) (row' : Array Value), j' ≤ loc.length ∧ Value.int .i64 (↑j + 1) = .int .i64 j' ∧ Value.bool o.isSome = .bool o'.isSome ∧ Hid (o' = (findK a (setAll (loc.take j'))).or fo) ∧ rowOf (wr.alloc (.cells rowx 30)) V.heap.size = row' ∧ AccIn (fun b => b < V.heap.size) (wr.alloc (.cells rowx 30)) row' (o'.getD (emptyAcc a)) ∧ isRow (wr.alloc (.cells rowx 30)) V.heap.size = true ∧ rowFr (wr.alloc (.cells rowx 30)) V.heap.size = (0, 0) ∧ Below V.heap.size V (wr.alloc (.cells rowx 30)) := by
                          refine ⟨j + 1, o, row, by omega, by go_num, rfl, ho2, ?_, HA14.out.below (bel_alloc (Below.refl _ _) _), ?_, ?_, bel_alloc HBel.out _⟩
                          · rw [rowOf_alloc_past _ _ _ hl14, HR14.out]
                          · rw [isRow_alloc_past _ _ _ hl14, i14]
                          · rw [rowFr_alloc_past _ _ _ hl14, f14]
                        have HE := Lib.hid hE
                        clear hE
                        go_roundw
                        case rel => exact HE.out
                        case measure => simp [intOf]; omega
                    · obtain rfl : j = loc.length := by omega
                      have hki : ¬ ((loc.length : Int) < (loc.length : Int)) := by omega
                      have hO3 : o = O := by rw [HO2.out, ho.out, List.take_length]
                      subst hO3
                      have HA14 := Lib.hid hacc14
                      have HBel := Lib.hid bel
                      have HR14 := Lib.hid hrow14
                      clear hacc14 bel hrow14
                      go_wp2
                      go_meet
                      exact ⟨rfl, _, HR14.out, HA14.out, i14, HBel.out⟩
                · have hO2 : O = fo := by rw [HO.out, hf]; rfl
                  subst hO2
                  go_wp2
                  go_meet
                  exact ⟨rfl, _, Y14.out, A14.out, j14, Bel14.out⟩
              case rest =>
                obtain ⟨rfl, row15, y15, a15, j15, bel15⟩ := hcut
                have hz15 := a15.size
                have h115 := a15.one
                obtain ⟨hx15, -⟩ := a15.ext0
                obtain ⟨y0', j0', l0'⟩ := carryRow bel15 y00.out j00.out
                have hbV := bel15.size
                have l15 := isRow_lt j15
                have HBoc := Lib.hid (Hbo.out.below bel15)
                have Belc := Lib.hid (bel_trans Hbel.out bel15)
                have A15 := Lib.hid a15
                clear bel15 a15 y0 j0 l0 j14 g14 A14 Y14 Bel14
                go_wp2_with fail
                refine (fork_Over _ _ _ _).mono ?_
                rintro e w' ⟨rfl, rfl⟩
                go_wp2_with fail
                refine (over_Account HBoc.out vv a).mono ?_
                rintro e W16 ⟨r16, rfl, a16, b16⟩
                rw [HOO.out] at a16
                have hOO2 := HOO.out
                simp only [hOO2]
                have hz16 := a16.size
                have h116 := a16.one
                obtain ⟨hx16, -⟩ := a16.ext0
                obtain ⟨y16, j16, l16⟩ := carryRow b16 y15 j15
                have A16 := Lib.hid a16
                have A15' := Lib.hid (A15.out.below b16)
                have Bel16 := Lib.hid (bel_trans Belc.out b16)
                clear a16 b16 hOO2 y15 j15 l15 y0' j0' l0'
                go_wp2_with fail
                refine (fixed15 _).mono ?_
                rintro e W17 ⟨rfl, b17⟩
                have B17 : Below W16.heap.size W16 W17 := bel_trans (bel_alloc (Below.refl _ _) _) b17
                obtain ⟨y17, j17, l17⟩ := carryRow b17 (r := r16) (b := W16.heap.size) (by simp [go_sem]) (by simp [go_sem])
                obtain ⟨y18, j18, l18⟩ := carryRow B17 y16 j16
                have A17 := A16.out.below B17
                have A17' := A15'.out.below B17
                have Bel17 := Lib.hid (bel_trans Bel16.out B17)
                clear b17 B17 y16 j16 l16 A16 A15' Bel16
                have hbe : (O.isSome == O.isSome) = true := by simp
                go_wp2_with fail
                refine (ref13_Same _ _ _ _ _ A17 A17').mono ?_
                rintro e W18 ⟨rfl, b18⟩
                simp only [decide_true]
                go_wp2
                go_ret
                exact ⟨rfl, bel_trans Bel17.out b18⟩
namespace forkOverDone
open Go.ChangeShapes Go.WideShapes Go.ChangeAt
set_option maxRecDepth 100000 in
set_option maxHeartbeats 1000000 in
theorem lifted (os : Os) (started : os.Started) (H : Type) (enc : TypeId × Value → H) :
    ReturnsInHanded {} Try.checked os 5 .any (Rows.forkOverSpec.pre6 enc Try.prog Try.f5 Rows.forkOverRow.domain false) (Rows.forkOverSpec.post enc Try.prog Try.f5 false true false false) := by
  refine returnsInHanded_of_change (C := Try.checked) own started (by kernel_rfl) Try.func5
    (ChangeSpec.witness6 (enc := enc) (C := Try.checked) false ⟨#[], #[.slice none 0 0, .slice none 0 0, .agg zeroAdr.cells], []⟩ 8 (by kernel_rfl) (by kernel_rfl) (by kernel_rfl) (by kernel_rfl)) ?_
  intro W base args ds gs before hval0 hW hcnd _
  have hval : ∀ (j : Nat) t v, Try.f5.params[j]? = some t → args[j]? = some v → Value.okWide Try.prog W .any base t v := hval0
  have hW' := hW
  obtain ⟨p, q, hA0, hV, rfl, hfz, hnd⟩ := hW
  have hA : DataW.TrodAll enc Try.prog W 0 (fun _ => true) true Try.f5.params.toList args.toList ds p := hA0
  rw [Try.params5] at hA hval
  obtain ⟨v0, vs0, d0, ds0, pp0, q0, hargs, rfl, rfl, h0, r0⟩ := trodAll_cons hA
  obtain ⟨v1, vs1, d1, ds1, pp1, q1, rfl, rfl, rfl, h1, r1⟩ := trodAll_cons r0
  obtain ⟨v2, vs2, d2, ds2, pp2, q2, rfl, rfl, rfl, h2, r2⟩ := trodAll_cons r1
  obtain ⟨rfl, rfl, rfl⟩ := trodAll_nil r2
  obtain rfl : args = #[v0, v1, v2] := by cases args; simp_all
  obtain ⟨rfl, rfl⟩ := trodVars_none hV
  obtain ⟨p0, l0, c0, rfl⟩ := okWide_slice Try.underlying32 (hval 0 32 v0 rfl rfl)
  have k0 := h0
  have lt0 : ∀ x ∈ pp0, x.block < W.heap.size := by obtain ⟨m, hm⟩ := k0; exact DataW.trod_lt m _ _ _ hm
  obtain ⟨a0, w0⟩ : ∃ a, AccsAt AnyBlock W (.slice p0 l0 c0) a := by
    obtain ⟨fuel, hf⟩ := h0
    obtain ⟨v, a, e, h⟩ := open_accs hf
    have e2 : v = .slice p0 l0 c0 := by simpa [Value.cells] using e.symm
    subst e2; exact ⟨a, h⟩
  obtain ⟨p1, l1, c1, rfl⟩ := okWide_slice Try.underlying32 (hval 1 32 v1 rfl rfl)
  have k1 := h1
  have lt1 : ∀ x ∈ pp1, x.block < W.heap.size := by obtain ⟨m, hm⟩ := k1; exact DataW.trod_lt m _ _ _ hm
  obtain ⟨a1, w1⟩ : ∃ a, AccsAt AnyBlock W (.slice p1 l1 c1) a := by
    obtain ⟨fuel, hf⟩ := h1
    obtain ⟨v, a, e, h⟩ := open_accs hf
    have e2 : v = .slice p1 l1 c1 := by simpa [Value.cells] using e.symm
    subst e2; exact ⟨a, h⟩
  obtain ⟨cs2, rfl, _⟩ := okWide_arr Try.underlying23 (hval 2 23 v2 rfl rfl)
  have k2 := h2
  have lt2 : ∀ x ∈ pp2, x.block < W.heap.size := by obtain ⟨m, hm⟩ := k2; exact DataW.trod_lt m _ _ _ hm
  obtain ⟨a2, w2⟩ : ∃ a : Adr, cs2 = a.cells := by
    obtain ⟨fuel, hf⟩ := h2
    exact open_adr hf
  subst w2
  clear hA0 hval0
  refine (forkOver_walk W _ a0 w0 _ a1 w1 a2).mono fun e W' ⟨he, bel⟩ => ?_
  subst he
  exact ⟨_, rfl, _, _, _, [], _, [], hW', trodAll_mk1 (shut_bool Try.underlying4 _), (trodAll_cons_mk (Below.trod laidOut (by kernel_rfl) (of_decide_eq_true (by kernel_rfl)) k0 bel lt0) (trodAll_cons_mk (Below.trod laidOut (by kernel_rfl) (of_decide_eq_true (by kernel_rfl)) k1 bel lt1) (trodAll_cons_mk (Below.trod laidOut (by kernel_rfl) (of_decide_eq_true (by kernel_rfl)) k2 bel lt2) trodAll_mk0))), rfl, bel.frame _, fun h => by cases h⟩
theorem over : Rows.forkOverRow.holds Try.pinned (OpenSpec.ofChange Rows.forkOverSpec) :=
  OpenClaim.holds_of_wide 5 Try.f5 rfl rfl rfl rfl rfl rfl rfl ⟨rfl, rfl, rfl, rfl, rfl⟩ rfl rfl rfl rfl rfl (by kernel_rfl) Try.func5 (by kernel_rfl)
    (of_decide_eq_true (by kernel_rfl)) (by unfold Func.isWrapper; first | (rw [if_pos (by decide +kernel)]; kernel_rfl) | (rw [if_neg (by decide +kernel)]; exact ⟨rfl, rfl⟩))
    (fun os started H enc _ => lifted os started H enc)
end forkOverDone
theorem forkOver_proved : Rows.ForkOverSaid := forkOverDone.over
#print axioms forkOver_proved
end Go.Proofs.Ytadafohgglnneaa
