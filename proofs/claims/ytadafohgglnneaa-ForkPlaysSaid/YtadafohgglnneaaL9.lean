/- Any row of calls of a cache is answered as the document says: the walk of the law, and the law. No condition. -/
import Derived.Test.YtadafohgglnneaaK3
import Derived.Test.YtadafohgglnneaaX10
import Derived.Test.YtadafohgglnneaaF4
import Derived.Deep.CutRange
import Derived.Deep.CutBlock
namespace Go.Proofs.Ytadafohgglnneaa
open Go.RowKit
theorem wantT_same {xs kr : List Acc} (h : ∀ b, findK b xs = findK b kr) (ts : List (Adr × Nat)) (a : Adr) : wantT xs ts a = wantT kr ts a := by unfold wantT; rw [h a]
theorem wantT_long (xs : List Acc) (ts : List (Adr × Nat)) (a : Adr) : (wantT xs ts a).length ≤ ts.length + 1 := by
  unfold wantT
  split
  · omega
  · split
    · omega
    · unfold setT; split <;> simp
theorem findK_put_same {xs kr : List Acc} (h : ∀ b, findK b xs = findK b kr) (x : Acc) : ∀ b, findK b (setK x xs) = findK b (putL x false kr) := by
  intro b
  by_cases e : b = x.adr
  · subst e; rw [findK_setK_self, findK_putL_self]
  · rw [findK_setK e, findK_putL_other e, h b]
theorem failT_len (ts : List (Adr × Nat)) (a : Adr) : (failT ts a).length ≤ ts.length := by
  unfold failT
  cases h : findT a ts with
  | none => exact Nat.le_refl _
  | some n =>
    simp only
    split
    · exact List.length_filter_le _ _
    · unfold setT; rw [h]; simp
set_option maxRecDepth 100000 in
set_option maxHeartbeats 4000000 in
theorem forkPlays_walk (w : World) (v : Value) (os : List Op15) (ho : Ops15At w v os) :
    Calls Try.prog 9 #[v] w fun e w' => e = .returned (.bool true) ∧ Below w.heap.size w w' := by
  have hr := ops15_rows ho
  obtain ⟨p, c0, rfl⟩ := hr.form
  have hle := RowsAt.le hr
  unfold maxLen at hle
  have HR := Lib.hid hr
  clear hr ho
  go_enter Try.func9, Try.ntmps9
  go_wp2_with fail
  refine (fork_New _).mono ?_
  rintro e w1 ⟨rfl, hw1⟩
  have b01 : Below w.heap.size w w1 := by rw [hw1]; exact bel_alloc (bel_alloc (bel_alloc (Below.refl _ _) _) _) _
  have z1 : w1.heap.size = w.heap.size + 3 := by rw [hw1]; simp
  have HC1 := Lib.hid (new_cache (N := fun _ => False) (w0 := w) (w := w) (W := w1) (Nat.le_refl _) (by rw [← z1, ← hw1]; exact Below.refl _ _) (fun b hb => hb.elim))
  have B1 := Lib.hid b01
  have Z1 := Lib.hid z1
  have zP : w.heap.size + 2 < w1.heap.size := by omega
  clear hw1 b01 z1
  go_wp2_with fail
  refine (fixed15 _).mono ?_
  rintro e w2 ⟨rfl, b12⟩
  generalize hW : w1.alloc (.cells (pcRow (.slice none 0 0) (.slice none 0 0)) 51) = W1 at *
  have hB : Below w1.heap.size w1 W1 := by rw [← hW]; exact bel_alloc (Below.refl _ _) _
  have hz : W1.heap.size = w1.heap.size + 1 := by rw [← hW]; simp
  have hM : Mid w W1 w1.heap.size (w.heap.size + 2) w.heap.size (w.heap.size + 1) [] [] [] [] (pcRow (.slice none 0 0) (.slice none 0 0)) := by
    refine ⟨HC1.out.mark hB (by omega), ?_, ?_, ?_, ⟨_, _, rfl, AccsAt.nil _ _, RowsAt.nil _ _ _⟩, bel_trans B1.out hB, by omega⟩
    · rw [← hW]; exact rowOf_alloc_at _ _ _ _ rfl
    · rw [← hW]; exact isRow_alloc_at _ _ _ _ rfl
    · rw [← hW]; exact rowFr_alloc_at _ _ _ _ rfl
  have hM2 := hM.below b12
  have HM := Lib.hid hM2
  clear hM hM2 hB hW HC1
  generalize hP : w1.heap.size = P at *
  clear hz
  have hz2 := b12.size
  have B2 := HM.out.bel
  have HB2 := Lib.hid B2
  clear b12 B1 B2
  go_wp2_with fail
  refine (cut15 _ p c0 os (rowsOp_below HR.out HB2.out)).mono ?_
  rintro e w3 ⟨n, rfl, hn1, hn2, hbad, b23⟩
  have HM3 := Lib.hid (HM.out.below b23)
  have Hbad := Lib.hid hbad
  have hz3 := b23.size
  clear HM hbad b23 HB2
  go_wp2
  go_loopw [34] (fun vi wr => ∃ j : Nat, j ≤ n ∧ vi = .int .i64 j ∧ P < wr.heap.size ∧ ∃ xs ts kr row, Mid w wr P (w.heap.size + 2) w.heap.size (w.heap.size + 1) xs ts kr ts row ∧ Rel15 xs kr ∧ kr.length ≤ j ∧ ts.length ≤ j) (fun vi _ => n - (intOf vi).toNat)
  case atStart => exact ⟨0, Nat.zero_le _, rfl, by have := isRow_lt HM3.out.isr; exact this, [], [], [], _, HM3.out, ⟨fun _ => rfl, by simp, List.Pairwise.nil⟩, Nat.zero_le _, Nat.zero_le _⟩
  case round =>
    obtain ⟨j, hj, rfl, hPr, xs, ts, kr, row, hM, hrel, hkl, htl⟩ := hrel
    clear HM3 hz3 hz2
    by_cases hlt : j < n
    · have hjo : j < os.length := by omega
      obtain ⟨b, o, cc, rs, hv', q1, q2, -, hbb, hsz, hall⟩ := RowsAt.pos HR.out 28 (op15_size _) (by decide) (by omega)
      cases hv'
      obtain ⟨hrow, r', hr', haccw⟩ := hall j hjo
      rw [hr'] at hrow
      have hacc0 := haccw.bound.below hM.bel
      clear haccw
      rw [← bel_row hM.bel b hbb] at hrow hsz
      have hs1 : o + j * 28 + 28 ≤ (rowOf wr b).size := by omega
      have hki : (j : Int) < (n : Int) := by omega
      have hki2 : (j : Int) < (os.length : Int) := by omega
      have hki0 : (0 : Int) ≤ (j : Int) := by omega
      have hrz := hacc0.size
      have hr1 := hacc0.one
      have e1 := opRow_size os[j].kind r' hrz
      have e2 := opRow_ones os[j].kind r' hr1
      have e3 := opRow_whole os[j].kind r' hrz
      have e4 := opRow_acc os[j].kind r' hrz
      have e5 := opRow_adr os[j].kind r' hrz
      have e6 := opRow_kind os[j].kind r'
      have hgr : greatB [os[j].x] = false := by have := Hbad.out j hlt; simpa [bad15, hjo] using this
      have hsmx : smallAcc os[j].x := great_small hgr _ (by simp)
      obtain ⟨hw27, had⟩ := hacc0.ext0
      rw [had] at e5
      generalize os[j].x = x at *
      generalize os[j].kind = kd at *
      generalize opRow kd r' = R at *
      have e60 : ∀ (h : 0 < R.size), R[0]'h = .int .i64 kd := fun h => by have := e6; rw [Array.getElem?_eq_getElem h] at this; exact Option.some.inj this
      clear hall hr' hgr
      have b1 : Below wr.heap.size wr ((wr.alloc (.cells R 84)).alloc (.cells x.adr.cells 23)) := bel_alloc (bel_alloc (Below.refl _ _) _) _
      have r6 : rowOf ((wr.alloc (.cells R 84)).alloc (.cells x.adr.cells 23)) wr.heap.size = R := by simp [go_sem]
      have i6 : isRow ((wr.alloc (.cells R 84)).alloc (.cells x.adr.cells 23)) wr.heap.size = true := by simp [go_sem]
      have r7 : rowOf ((wr.alloc (.cells R 84)).alloc (.cells x.adr.cells 23)) (wr.heap.size + 1) = x.adr.cells := by simp [go_sem]
      have i7 : isRow ((wr.alloc (.cells R 84)).alloc (.cells x.adr.cells 23)) (wr.heap.size + 1) = true := by simp [go_sem]
      have HM1 := Lib.hid (hM.below b1)
      have HAcc := Lib.hid (hacc0.below b1)
      have Hrel := Lib.hid hrel
      go_upto_block 2 with (fail)
      obtain ⟨V, hV⟩ : ∃ V : World, V = wr := ⟨_, rfl⟩
      subst hV
      generalize hW1 : (V.alloc (.cells R 84)).alloc (.cells x.adr.cells 23) = W1 at *
      have zW : W1.heap.size = V.heap.size + 2 := by rw [← hW1]; simp
      have ZW := Lib.hid zW
      have c6 : W1.cell? ⟨V.heap.size, 0, none⟩ = some (.int .i64 kd) := by rw [cell_row, r6, e6]
      clear hW1 b1 hM hrel hacc0 zW
      have hVP : P ≠ V.heap.size ∧ P ≠ V.heap.size + 1 := by omega
      go_cut [8, 9, 10] from 43 to 81 (fun _ _ _ wc => rowOf wc (V.heap.size + 1) = x.adr.cells ∧ isRow wc (V.heap.size + 1) = true ∧ ∃ xs ts kr row, Mid w wc P (w.heap.size + 2) w.heap.size (w.heap.size + 1) xs ts kr ts row ∧ Rel15 xs kr ∧ kr.length ≤ j + 1 ∧ ts.length ≤ j + 1)
      case first =>
        obtain ⟨z1, z2, z3⟩ := HM1.out.pc.one
        have yP := HM1.out.yP
        have iP := HM1.out.isr
        have lP := isRow_lt iP
        have fP := HM1.out.fr
        have l7 := isRow_lt i7
        have sM := HM1.out.sz
        have n76 : V.heap.size + 1 ≠ P := by omega
        have n66 : V.heap.size ≠ P := by omega
        by_cases hk0 : kd = 0
        · have hd0 : (kd == 0) = true := by simp [hk0]
          clear hk0
          go_wp2_with fail
          refine (ref15_Want _ row kr ts x.adr HM1.out.pc.bound (by omega)).mono ?_
          rintro e W2 ⟨row2, rfl, hp2, hb2⟩
          obtain ⟨y27, j27, l27⟩ := carryRow hb2 r7 i7
          obtain ⟨y2P, j2P, l2P⟩ := carryRow hb2 yP iP
          have g2P := carryFr hb2 lP fP
          obtain ⟨u1, u2, u3⟩ := hp2.one
          have HM2 := Lib.hid (HM1.out.ref hb2 hp2)
          have K2 := Lib.hid (ref_keep HM1.out hb2 row2)
          clear hp2 hb2
          go_wp2_with fail
          have r73 : rowOf (World.setSeg W2 P 0 row2.toList) (V.heap.size + 1) = x.adr.cells := by rw [K2.out.row _ l7 n76, r7]
          have i73 : isRow (World.setSeg W2 P 0 row2.toList) (V.heap.size + 1) = true := by rw [K2.out.isRow _ l7 n76, i7]
          generalize World.setSeg W2 P 0 row2.toList = W3 at *
          refine (want_any HM2.out.hc x.adr).mono ?_
          rintro e W4 ⟨rfl, hc4, K4⟩
          have hwc : wantC kr ts x.adr = wantC xs ts x.adr := by unfold wantC; rw [Hrel.out.fk]
          have hwt : wantT xs ts x.adr = wantT kr ts x.adr := wantT_same Hrel.out.fk ts x.adr
          rw [hwt] at hc4
          have hM4 := HM2.out.cache (K4.mono fun b _ e => .inr e) hc4
          have r74 : rowOf W4 (V.heap.size + 1) = x.adr.cells := by rw [K4.row _ (isRow_lt i73) (by omega), r73]
          have i74 : isRow W4 (V.heap.size + 1) = true := by rw [K4.isRow _ (isRow_lt i73) (by omega), i73]
          have hlen := wantT_long kr ts x.adr
          have Hfin := Lib.hid (show ∃ xs ts kr row, Mid w W4 P (w.heap.size + 2) w.heap.size (w.heap.size + 1) xs ts kr ts row ∧ Rel15 xs kr ∧ kr.length ≤ j + 1 ∧ ts.length ≤ j + 1 from ⟨_, _, _, _, hM4, Hrel.out, by omega, by omega⟩)
          have hne : (wantC xs ts x.adr != wantC kr ts x.adr) = false := by rw [hwc]; simp
          clear hM4 hc4 K4 hwt hwc
          go_wp2
          go_meet
          exact ⟨r74, i74, Hfin.out⟩
        · have hd0 : (kd == 0) = false := by simp [hk0]
          clear hk0
          by_cases hk1 : kd = 1
          · have hd1 : (kd == 1) = true := by simp [hk1]
            clear hk1
            go_wp2_with fail
            refine (ref15_Fill _ row r' kr ts x HM1.out.pc.bound (HAcc.out.mono (fun b hb => by omega)) (by omega) (by omega)).mono ?_
            rintro e W2 ⟨row2, rfl, hp2, hb2⟩
            obtain ⟨y27, j27, l27⟩ := carryRow hb2 r7 i7
            obtain ⟨y26, j26, l26⟩ := carryRow hb2 r6 i6
            obtain ⟨y2P, j2P, l2P⟩ := carryRow hb2 yP iP
            have g2P := carryFr hb2 lP fP
            obtain ⟨u1, u2, u3⟩ := hp2.one
            have HM2 := Lib.hid (HM1.out.ref hb2 hp2)
            have K2 := Lib.hid (ref_keep HM1.out hb2 row2)
            have HA2 := Lib.hid (HAcc.out.kept K2.out (fun b hb e => by omega))
            have l6 := isRow_lt i6
            clear hp2 hb2
            go_wp2_with fail
            have r73 : rowOf (World.setSeg W2 P 0 row2.toList) (V.heap.size + 1) = x.adr.cells := by rw [K2.out.row _ l7 n76, r7]
            have i73 : isRow (World.setSeg W2 P 0 row2.toList) (V.heap.size + 1) = true := by rw [K2.out.isRow _ l7 n76, i7]
            generalize World.setSeg W2 P 0 row2.toList = W3 at *
            refine (fill_any HM2.out.hc r' x HA2.out (fun b hb => by omega) hsmx).mono ?_
            rintro e W4 ⟨rfl, hc4, K4⟩
            have hM4 := HM2.out.cache K4 hc4
            have r74 : rowOf W4 (V.heap.size + 1) = x.adr.cells := by rw [K4.row _ (isRow_lt i73) (by omega), r73]
            have i74 : isRow W4 (V.heap.size + 1) = true := by rw [K4.isRow _ (isRow_lt i73) (by omega), i73]
            have hnd : (ts.map (·.1)).Nodup := HM1.out.hc.nodup
            have hpl := (putL_len x kr).2
            have hfin : ∃ xs ts kr row, Mid w W4 P (w.heap.size + 2) w.heap.size (w.heap.size + 1) xs ts kr ts row ∧ Rel15 xs kr ∧ kr.length ≤ j + 1 ∧ ts.length ≤ j + 1 := by
              cases hfB : fillB ts x with
              | false =>
                simp only [hfB, Bool.false_eq_true, if_false] at hM4
                exact ⟨_, _, _, _, hM4, Hrel.out, by omega, by omega⟩
              | true =>
                simp only [hfB, if_true] at hM4
                have hft : ∃ n, findT x.adr ts = some n := by
                  simp only [fillB, Bool.and_eq_true] at hfB
                  exact Option.isSome_iff_exists.1 hfB.2
                obtain ⟨n, hft⟩ := hft
                rw [erase_del hnd hft] at hM4
                exact ⟨_, _, _, _, hM4, ⟨findK_put_same Hrel.out.fk x, fun y hy => by
                  rcases mem_putL hy with rfl | hy
                  · exact hsmx
                  · exact Hrel.out.sm y hy, Hrel.out.so.put⟩, by omega, Nat.le_trans (List.length_filter_le _ _) (by omega)⟩
            have Hfin := Lib.hid hfin
            have hne : (fillB ts x != fillB ts x) = false := by simp
            clear hM4 hc4 K4 hfin hnd
            go_wp2
            go_meet
            exact ⟨r74, i74, Hfin.out⟩
          · have hd1 : (kd == 1) = false := by simp [hk1]
            clear hk1
            have hnd := Lib.hid HM1.out.hc.nodup
            have h8 := Lib.hid HM1.out.hc.st.choose_spec.2.lt8
            go_wp2_with fail
            refine (ref15_Fail _ row kr ts x.adr HM1.out.pc.bound (by omega) h8.out hnd.out).mono ?_
            rintro e W2 ⟨row2, rfl, hp2, hb2⟩
            obtain ⟨y27, j27, l27⟩ := carryRow hb2 r7 i7
            obtain ⟨y2P, j2P, l2P⟩ := carryRow hb2 yP iP
            have g2P := carryFr hb2 lP fP
            obtain ⟨u1, u2, u3⟩ := hp2.one
            have HM2 := Lib.hid (HM1.out.ref hb2 hp2)
            have K2 := Lib.hid (ref_keep HM1.out hb2 row2)
            clear hp2 hb2
            go_wp2_with fail
            have r73 : rowOf (World.setSeg W2 P 0 row2.toList) (V.heap.size + 1) = x.adr.cells := by rw [K2.out.row _ l7 n76, r7]
            have i73 : isRow (World.setSeg W2 P 0 row2.toList) (V.heap.size + 1) = true := by rw [K2.out.isRow _ l7 n76, i7]
            generalize World.setSeg W2 P 0 row2.toList = W3 at *
            refine (fail_any HM2.out.hc x.adr).mono ?_
            rintro e W4 ⟨rfl, hc4, K4⟩
            have hM4 := HM2.out.cache (K4.mono fun b _ e => .inr e) hc4
            have r74 : rowOf W4 (V.heap.size + 1) = x.adr.cells := by rw [K4.row _ (isRow_lt i73) (by omega), r73]
            have i74 : isRow W4 (V.heap.size + 1) = true := by rw [K4.isRow _ (isRow_lt i73) (by omega), i73]
            have hlen := failT_len ts x.adr
            have Hfin := Lib.hid (show ∃ xs ts kr row, Mid w W4 P (w.heap.size + 2) w.heap.size (w.heap.size + 1) xs ts kr ts row ∧ Rel15 xs kr ∧ kr.length ≤ j + 1 ∧ ts.length ≤ j + 1 from ⟨_, _, _, _, hM4, Hrel.out, by omega, by omega⟩)
            have hne : (failC ts x.adr != failC ts x.adr) = false := by simp
            clear hM4 hc4 K4
            go_wp2
            go_meet
            exact ⟨r74, i74, Hfin.out⟩
      case rest =>
        clear HM1 HAcc Hrel r6 i6 r7 i7 c6 hkl htl xs ts kr row
        obtain ⟨y7, j7, xs, ts, kr, row, hM, hrel, hkl, htl⟩ := hcut
        have l7 := isRow_lt j7
        have HM := Lib.hid hM
        have Hrel := Lib.hid hrel
        have sM := hM.sz
        clear hM hrel
        go_wp2_with fail
        refine (account_any HM.out.hc x.adr).mono ?_
        rintro e W5 ⟨r5, rfl, a5, b5⟩
        have z5 := a5.size
        have o5 := a5.one
        obtain ⟨x5, -⟩ := a5.ext0
        have B5 : Below wc.heap.size wc (W5.alloc (.cells r5 30)) := bel_alloc b5 _
        obtain ⟨y57, j57, l57⟩ := carryRow B5 y7 j7
        have r55 : rowOf (W5.alloc (.cells r5 30)) W5.heap.size = r5 := rowOf_alloc_at _ _ _ _ rfl
        have i55 : isRow (W5.alloc (.cells r5 30)) W5.heap.size = true := isRow_alloc_at _ _ _ _ rfl
        have HM5 := Lib.hid (HM.out.below B5)
        have A5 := Lib.hid ((a5.bound.mono fun b hb => hb.2).below (bel_alloc (Below.refl _ _) (.cells r5 30)))
        obtain ⟨pk, ck, pa, ca, hrm, hka, hta⟩ := HM5.out.pc.forms
        have c5 : (W5.alloc (.cells r5 30)).cell? ⟨P, 0, none⟩ = some (.slice pk kr.length ck) := by rw [cell_row, HM5.out.yP, hrm]; rfl
        have HKa := Lib.hid hka
        have hz5 := b5.size
        generalize hWW : W5.alloc (.cells r5 30) = W6 at *
        have zW6 : W5.heap.size < W6.heap.size := isRow_lt i55
        have HWW := Lib.hid hWW
        clear b5 B5 a5 hka hta y7 j7 hWW hrm
        have hfk : findK x.adr kr = findK x.adr xs := (Hrel.out.fk _).symm
        generalize hfo : findK x.adr xs = fo at *
        have Hfk := Lib.hid hfk
        clear hfk hfo
        go_upto_region 25 with (fail)
        rw [HWW.out]
        go_wp2_with fail
        refine (ref13_Find (S := fun b => (b ≠ w.heap.size ∧ b ≠ w.heap.size + 1 ∧ b ≠ P) ∧ b < W6.heap.size) _ _ kr x.adr HKa.out.bound).mono ?_
        rintro e W7 ⟨r8, rfl, a8, b8⟩
        rw [Hfk.out] at a8 ⊢
        have z8 := a8.size
        have o8 := a8.one
        obtain ⟨x8, -⟩ := a8.ext0
        obtain ⟨y67, j67, l67⟩ := carryRow b8 y57 j57
        obtain ⟨r65, i65, l65⟩ := carryRow b8 r55 i55
        have HM6 := Lib.hid (HM5.out.below b8)
        have A6 := Lib.hid (A5.out.below b8)
        have A8 := Lib.hid a8
        have hz8 := b8.size
        clear a8 b8 y57 j57 r55 i55 HKa c5 A5 HM5 l57
        go_upto_if 96 with (fail)
        go_cut [97] from 97 to 98 (fun _ wc => W7.heap.size < wc.heap.size ∧ rowOf wc (V.heap.size + 1) = x.adr.cells ∧ isRow wc (V.heap.size + 1) = true ∧ rowOf wc W5.heap.size = r5 ∧ isRow wc W5.heap.size = true ∧ AccIn (fun b => b < W5.heap.size) wc r5 (fo.getD (emptyAcc x.adr)) ∧
          (∃ r9, rowOf wc W7.heap.size = r9 ∧ isRow wc W7.heap.size = true ∧ AccIn (fun b => b < W7.heap.size) wc r9 (fo.getD (emptyAcc x.adr))) ∧ Mid w wc P (w.heap.size + 2) w.heap.size (w.heap.size + 1) xs ts kr ts row)
        case first =>
          have B8 : Below W7.heap.size W7 (W7.alloc (.cells r8 30)) := bel_alloc (Below.refl _ _) _
          have q65 : rowOf (W7.alloc (.cells r8 30)) W5.heap.size = r5 := by rw [bel_row B8 _ l65, r65]
          have q66 : isRow (W7.alloc (.cells r8 30)) W5.heap.size = true := by rw [bel_isRow B8 _ l65, i65]
          have q67 : rowOf (W7.alloc (.cells r8 30)) (V.heap.size + 1) = x.adr.cells := by rw [bel_row B8 _ l67, y67]
          have q68 : isRow (W7.alloc (.cells r8 30)) (V.heap.size + 1) = true := by rw [bel_isRow B8 _ l67, j67]
          have HM7 := Lib.hid (HM6.out.below B8)
          have A7 := Lib.hid (A6.out.below B8)
          have A9 := Lib.hid (A8.out.below B8)
          clear B8
          cases fo with
          | some y =>
            go_wp2
            go_meet
            exact ⟨by simp, q67, q68, q65, q66, A7.out, ⟨r8, by simp [go_sem], by simp [go_sem], A9.out.mono fun b hb => by omega⟩, HM7.out⟩
          | none =>
            go_wp2
            go_meet
            have B9 : Below W7.heap.size W7 (W7.alloc (.cells (accRow x.adr 0 zeroWrd (.slice none 0 0) (.slice none 0 0)) 30)) := bel_alloc (Below.refl _ _) _
            exact ⟨by simp, by rw [bel_row B9 _ l67, y67], by rw [bel_isRow B9 _ l67, j67], by rw [bel_row B9 _ l65, r65], by rw [bel_isRow B9 _ l65, i65], A6.out.below B9, ⟨_, by simp [go_sem], by simp [go_sem], AccIn.empty _ _ _⟩, HM6.out.below B9⟩
        case rest =>
          obtain ⟨hz9, q67, q68, q65, q66, A9, ⟨r9, q79, q7i, A10⟩, hM9⟩ := hcut
          have z9 := A10.size
          have o9 := A10.one
          obtain ⟨x9, -⟩ := A10.ext0
          obtain ⟨w91, w92, w93⟩ := hM9.pc.one
          have HM9 := Lib.hid hM9
          have HA9 := Lib.hid A9
          have HA10 := Lib.hid A10
          have yP9 := hM9.yP
          have iP9 := hM9.isr
          clear HM6 A6 A8 hM9 A9 A10 y67 j67 l67 r65 i65 l65 z8 o8 x8
          go_wp2_with fail
          refine (ref15_At _ row kr ts x.adr HM9.out.pc).mono ?_
          rintro e W10 ⟨rfl, b10⟩
          obtain ⟨v67, v68, l10⟩ := carryRow b10 q67 q68
          obtain ⟨v65, v66, l11⟩ := carryRow b10 q65 q66
          obtain ⟨v79, v7i, l12⟩ := carryRow b10 q79 q7i
          have HM10 := Lib.hid (HM9.out.below b10)
          have HB9 := Lib.hid (HA9.out.below b10)
          have HB10 := Lib.hid (HA10.out.below b10)
          have hz10 := b10.size
          clear b10 q67 q68 q65 q66 q79 q7i HM9 HA9 HA10 yP9 iP9
          generalize hai : atI ts x.adr = ai at *
          have HAI := Lib.hid hai
          clear hai
          go_upto_if 103 with (fail)
          go_cut [15] from 15 to 15 (fun y wd => y = .int .i64 ((findT x.adr ts).getD 0 : Nat) ∧ wd = W10)
          case first =>
            rcases atI_cases ts x.adr with ⟨hat, hft⟩ | ⟨k, hk2, hat, hka, hft, -⟩
            · have hg : (findT x.adr ts).getD 0 = 0 := by rw [hft]; rfl
              have Hg := Lib.hid hg
              rw [HAI.out] at hat
              subst hat
              clear hft hg HAI
              go_wp2
              go_meet
              exact ⟨by rw [Hg.out]; rfl, rfl⟩
            · rw [HAI.out] at hat
              subst hat
              have hg : (findT x.adr ts).getD 0 = ts[k].2 := by rw [hft]; rfl
              obtain ⟨pk, ck, pa, ca, hrm, hka2, hta⟩ := HM10.out.pc.forms
              have c10 : W10.cell? ⟨P, 1, none⟩ = some (.slice pa ts.length ca) := by rw [cell_row, HM10.out.yP, hrm]; rfl
              obtain ⟨b2, o2, cc2, rs2, hv2, q12, q22, -, hbb2, hsz2, hall2⟩ := RowsAt.pos hta 21 (fun r y h => by rw [h]; simp) (by decide) (by omega)
              cases hv2
              obtain ⟨hrow2, hacc2⟩ := hall2 k hk2
              rw [hacc2] at hrow2
              have cn : W10.cell? ⟨b2, o2 + k * 21 + 20, none⟩ = some (.int .i64 (ts[k].2 : Int)) := by
                rw [cell_row, ← tryCells_n ts[k], ← hrow2, Array.getElem?_extract, if_pos (by omega)]
              have hki3 : (k : Int) < (ts.length : Int) := by omega
              have hki4 : (0 : Int) ≤ (k : Int) := by omega
              have Hg := Lib.hid hg
              clear hall2 hacc2 hrow2 hft hrm hka2 hta hg hka HAI
              go_wp2
              go_meet
              exact ⟨by rw [Hg.out], rfl⟩
          case rest =>
            obtain ⟨rfl, hwd⟩ := hcut
            have hwd2 := hwd.symm
            clear hwd
            subst hwd2
            have hbe : (fo.isSome != fo.isSome) = false := by simp
            go_wp2_with fail
            refine (ref13_Same _ _ _ _ _ HB9.out HB10.out).mono ?_
            rintro e W11 ⟨rfl, b11⟩
            obtain ⟨u67, u68, m10⟩ := carryRow b11 v67 v68
            have HM11 := Lib.hid (HM10.out.below b11)
            have hz11 := b11.size
            clear b11 v67 v68 v65 v66 v79 v7i HM10 HB9 HB10
            simp only [decide_true]
            go_wp2_with fail
            refine (fork_Tries _ _ _ _ _ ts x.adr HM11.out.hc.st.choose_spec.2).mono ?_
            rintro e W12 ⟨rfl, b12⟩
            have HM12 := Lib.hid (HM11.out.below b12)
            have hz12 := b12.size
            have hne : ((((findT x.adr ts).getD 0 : Nat) : Int) != (((findT x.adr ts).getD 0 : Nat) : Int)) = false := by simp
            clear b12 HM11
            go_wp2
            go_roundw
            case rel => exact ⟨j + 1, by omega, by go_num, by have := isRow_lt HM12.out.isr; exact this, xs, ts, kr, row, HM12.out, Hrel.out, hkl, htl⟩
            case measure => simp [intOf]; omega
    · obtain rfl : j = n := by omega
      have hki : ¬ ((j : Int) < (j : Int)) := by omega
      have HM := Lib.hid hM
      clear hM
      have hnx : (xs.map (·.adr)).Nodup := HM.out.hc.st.choose_spec.2.nodupK
      have hnk : (kr.map (·.adr)).Pairwise (fun a b => a.lt b = true) := List.pairwise_map.2 hrel.so
      have hnk2 : (kr.map (·.adr)).Nodup := hnk.imp fun h => lt_ne h
      have hpp : (xs.map (·.adr)).Perm (kr.map (·.adr)) := (List.perm_ext_iff_of_nodup hnx hnk2).2 (same_keys hrel.fk)
      have hxl : xs.length ≤ 101 := by have := hpp.length_eq; simp at this; omega
      have hnt : (ts.map (·.1)).Nodup := HM.out.hc.nodup
      have HNx := Lib.hid hnx
      have HNk := Lib.hid hnk
      have HPP := Lib.hid hpp
      have HNt := Lib.hid hnt
      clear hnx hnk hnk2 hpp hnt hrel HR
      go_wp2_with fail
      refine (fork_Known sortsAdr _ _ _ _ xs ts HM.out.hc.st.choose_spec.2 (by omega)).mono ?_
      rintro e W5 ⟨vK, zK, rfl, hk1, hk2, hk3⟩
      have hzK : zK = kr.map (·.adr) := rising_eq (rising_of hk2 (hk1.nodup_iff.2 HNx.out)) HNk.out (fun x => (hk1.mem_iff).trans HPP.out.mem_iff)
      subst hzK
      have HM5 := Lib.hid (HM.out.below hk3.bel)
      have HR5 := Lib.hid hk3.rows
      have hz5 := hk3.bel.size
      clear hk1 hk2 hk3 HM
      go_wp2_with fail
      refine (fork_Fetched sortsAdr _ _ _ _ xs ts HM5.out.hc.st.choose_spec.2 (by omega)).mono ?_
      rintro e W6 ⟨vF, zF, rfl, hf1, hf2, hf3⟩
      have HF := Lib.hid (rising_of hf2 (hf1.nodup_iff.2 HNt.out))
      have HM6 := Lib.hid (HM5.out.below hf3.bel)
      have HR6 := Lib.hid (RowsAt.below HR5.out hf3.bel)
      have HRF := Lib.hid hf3.rows
      have HPF := Lib.hid hf1
      have hz6 := hf3.bel.size
      obtain ⟨pK, cK, hvK⟩ := HR6.out.form
      obtain ⟨pF, cF, hvF⟩ := HRF.out.form
      subst hvK
      subst hvF
      have hlF : zF.length = ts.length := by have := hf1.length_eq; simpa using this
      obtain ⟨pk, ck, pa, ca, hrm, hka, hta⟩ := HM6.out.pc.forms
      have c0' : W6.cell? ⟨P, 0, none⟩ = some (.slice pk kr.length ck) := by rw [cell_row, HM6.out.yP, hrm]; rfl
      have c1' : W6.cell? ⟨P, 1, none⟩ = some (.slice pa ts.length ca) := by rw [cell_row, HM6.out.yP, hrm]; rfl
      have hlK : (kr.map (·.adr)).length = kr.length := by simp
      clear hf1 hf2 hf3 HM5 HR5 hrm hka hta
      have hR6' : RowsAt (fun b => w.heap.size ≤ b ∨ True) (fun _ r (y : Adr) => r = y.cells) W6 (.slice pK kr.length cK) (kr.map (·.adr)) := by rw [← hlK]; exact RowsAt.mono HR6.out (fun b hb => .inr trivial)
      have hRF' : RowsAt (fun b => w.heap.size ≤ b ∨ True) (fun _ r (y : Adr) => r = y.cells) W6 (.slice pF ts.length cF) zF := by rw [← hlF]; exact RowsAt.mono HRF.out (fun b hb => .inr trivial)
      have HRK := Lib.hid hR6'
      have HRG := Lib.hid hRF'
      have hleK := RowsAt.le hR6'
      have hleF := RowsAt.le hRF'
      unfold maxLen at hleK hleF
      clear hR6' hRF' HR6 HRF
      go_wp2_with fail
      refine (rising_true _ _ _ HRK.out HNk.out).mono ?_
      rintro e W7 ⟨rfl, b7⟩
      have HB7 := Lib.hid b7
      clear b7
      go_wp2_with fail
      refine (rising_true _ _ _ (RowsAt.below HRG.out HB7.out) HF.out).mono ?_
      rintro e W8 ⟨rfl, b8⟩
      have HB8 := Lib.hid (bel_trans HB7.out b8)
      have HM8 := Lib.hid (HM6.out.below HB8.out)
      have HK8 := Lib.hid (RowsAt.below HRK.out HB8.out)
      have HG8 := Lib.hid (RowsAt.below HRG.out HB8.out)
      clear b8 HM6 HRK HRG HB7 HB8 c0' c1'
      go_wp2
      go_loopw [157] (fun vi wr => ∃ i : Nat, i ≤ kr.length ∧ vi = .int .i64 i ∧ Below W8.heap.size W8 wr) (fun vi _ => kr.length - (intOf vi).toNat)
      case atStart => exact ⟨0, Nat.zero_le _, rfl, Below.refl _ _⟩
      case round =>
        obtain ⟨i, hi, rfl, hb⟩ := hrel
        by_cases hlt2 : i < kr.length
        · obtain ⟨b, o, cc, rs, hv', q1, q2, -, hbb, hsz, hall⟩ := RowsAt.pos (RowsAt.below HK8.out hb) 20 (fun r y h => by rw [h]; simp) (by decide) (by simp; omega)
          have hli : i < (kr.map (·.adr)).length := by simpa using hlt2
          obtain ⟨hrow, hacc⟩ := hall i hli
          rw [hacc] at hrow
          simp only [List.length_map] at hv' hsz q1
          cases hv'
          have hMw := HM8.out.below hb
          obtain ⟨pk', ck', pa', ca', hrm, hka, hta⟩ := hMw.pc.forms
          have c0' : wr.cell? ⟨P, 0, none⟩ = some (.slice pk' kr.length ck') := by rw [cell_row, hMw.yP, hrm]; rfl
          obtain ⟨b2, o2, cc2, rs2, hv2, q12, q22, -, hbb2, hsz2, hall2⟩ := hka.pos (by omega)
          cases hv2
          obtain ⟨hrow2, hacc2⟩ := hall2 i hlt2
          obtain ⟨-, had2⟩ := hacc2.ext0
          have hp20 : (rowOf wr b2).extract (o2 + i * 27) (o2 + i * 27 + 20) = (accAt kr i).adr.cells := by
            rw [← had2, ← hrow2, Array.extract_extract]; congr 1; omega
          have hx : (kr.map (·.adr))[i] = (accAt kr i).adr := by simp [accAt, hlt2]
          rw [hx] at hrow
          have lP := isRow_lt hMw.isr
          have lP' : P < wr.heap.size + 1 := by omega
          have lb' : b2 < wr.heap.size + 1 := by omega
          generalize (accAt kr i).adr = x at *
          have hs1 : o + i * 20 + 20 ≤ (rowOf wr b).size := by omega
          have hs2 : o2 + i * 27 + 20 ≤ (rowOf wr b2).size := by omega
          have hki1 : (i : Int) < (kr.length : Int) := by omega
          have hki0 : (0 : Int) ≤ (i : Int) := by omega
          have Hb := Lib.hid hb
          clear hall hall2 hacc hacc2 had2 hrow2 hrm hka hta hx hli hMw hb
          go_wp2
          refine wp_region_quiet_below (by kernel_rfl) (by kernel_rfl) ?_
          repeat (go_big_quiet_step (fail))
          refine wpQuiet_nil ?_
          rintro w9 ⟨qq, rfl⟩
          have bw := below_regrown (wr.alloc (.cells x.cells 23)) qq.d qq.os
          generalize Sort.grow (redrawn (wr.alloc (.cells x.cells 23)) qq.d) qq.os = W9 at *
          have Hbw := Lib.hid (bel_trans (bel_alloc Hb.out (.cells x.cells 23)) bw)
          clear bw
          go_wp2
          go_roundw
          case rel => exact ⟨i + 1, by omega, by go_num, Hbw.out⟩
          case measure => simp [intOf]; omega
        · obtain rfl : i = kr.length := by omega
          have hki1 : ¬ ((kr.length : Int) < (kr.length : Int)) := by omega
          have HM9 := Lib.hid (HM8.out.below hb)
          have HG9 := Lib.hid (RowsAt.below HG8.out hb)
          clear HM8 HK8 HG8 hb
          obtain ⟨Y, hY⟩ : ∃ Y : World, Y = wr := ⟨_, rfl⟩
          subst hY
          go_wp2
          go_loopw [173] (fun vi wq => ∃ i : Nat, i ≤ ts.length ∧ vi = .int .i64 i ∧ Below Y.heap.size Y wq) (fun vi _ => ts.length - (intOf vi).toNat)
          case atStart => exact ⟨0, Nat.zero_le _, rfl, Below.refl _ _⟩
          case round =>
            obtain ⟨i, hi, rfl, hb⟩ := hrel
            by_cases hlt2 : i < ts.length
            · obtain ⟨b, o, cc, rs, hv', q1, q2, -, hbb, hsz, hall⟩ := RowsAt.pos (RowsAt.below HG9.out hb) 20 (fun r y h => by rw [h]; simp) (by decide) (by omega)
              have hli : i < zF.length := by omega
              obtain ⟨hrow, hacc⟩ := hall i hli
              rw [hacc] at hrow
              rw [hlF] at hv' hsz q1
              cases hv'
              have hmem : zF[i] ∈ ts.map (·.1) := HPF.out.mem_iff.1 (List.getElem_mem hli)
              have hMw := HM9.out.below hb
              have hat : ∃ k : Nat, atI ts zF[i] = k := by
                rcases atI_cases ts zF[i] with ⟨_, hft⟩ | ⟨k, _, h, _⟩
                · exfalso
                  simp only [findT, Option.map_eq_none_iff, List.find?_eq_none] at hft
                  obtain ⟨y, hy, he⟩ := List.mem_map.1 hmem
                  have := hft y hy
                  simp [he] at this
                · exact ⟨k, h⟩
              obtain ⟨k, hat⟩ := hat
              have hs1 : o + i * 20 + 20 ≤ (rowOf wr b).size := by omega
              have hki1 : (i : Int) < (ts.length : Int) := by omega
              have hki0 : (0 : Int) ≤ (i : Int) := by omega
              generalize zF[i] = x at *
              have yP := hMw.yP
              have iP := hMw.isr
              obtain ⟨w91, w92, w93⟩ := hMw.pc.one
              have lP := isRow_lt iP
              have hB1 : Below wr.heap.size wr (wr.alloc (.cells x.cells 23)) := bel_alloc (Below.refl _ _) _
              have HPc := Lib.hid (hMw.pc.below hB1)
              have Hb := Lib.hid (bel_trans hb hB1)
              have Hat := Lib.hid hat
              clear hall hacc hmem hMw hB1 hb hat hli
              go_wp2_with fail
              refine (ref15_At _ row kr ts x HPc.out).mono ?_
              rintro e W9 ⟨rfl, b9⟩
              rw [Hat.out]
              have Hb9 := Lib.hid (bel_trans Hb.out b9)
              have hk0 : decide ((k : Int) < 0) = false := by simp
              clear b9
              go_wp2
              go_roundw
              case rel => exact ⟨i + 1, by omega, by go_num, Hb9.out⟩
              case measure => simp [intOf]; omega
            · obtain rfl : i = ts.length := by omega
              have hki2 : ¬ ((ts.length : Int) < (ts.length : Int)) := by omega
              have Hend := Lib.hid (HM9.out.below hb).bel
              clear hb
              go_wp2
              go_ret
              exact ⟨rfl, Hend.out⟩
namespace forkPlaysDone
open Go.ChangeShapes Go.WideShapes Go.ChangeAt
set_option maxRecDepth 100000 in
set_option maxHeartbeats 1000000 in
theorem lifted (os : Os) (started : os.Started) (H : Type) (enc : TypeId × Value → H) :
    ReturnsInHanded {} Try.checked os 9 .any (Rows.forkPlaysSpec.pre6 enc Try.prog Try.f9 Rows.forkPlaysRow.domain false) (Rows.forkPlaysSpec.post enc Try.prog Try.f9 false true false false) := by
  refine returnsInHanded_of_change (C := Try.checked) own started (by kernel_rfl) Try.func9
    (ChangeSpec.witness6 (enc := enc) (C := Try.checked) false ⟨#[], #[.slice none 0 0], []⟩ 8 (by kernel_rfl) (by kernel_rfl) (by kernel_rfl) (by kernel_rfl)) ?_
  intro W base args ds gs before hval0 hW hcnd _
  have hval : ∀ (j : Nat) t v, Try.f9.params[j]? = some t → args[j]? = some v → Value.okWide Try.prog W .any base t v := hval0
  have hW' := hW
  obtain ⟨p, q, hA0, hV, rfl, hfz, hnd⟩ := hW
  have hA : DataW.TrodAll enc Try.prog W 0 (fun _ => true) true Try.f9.params.toList args.toList ds p := hA0
  rw [Try.params9] at hA hval
  obtain ⟨v0, vs0, d0, ds0, pp0, q0, hargs, rfl, rfl, h0, r0⟩ := trodAll_cons hA
  obtain ⟨rfl, rfl, rfl⟩ := trodAll_nil r0
  obtain rfl : args = #[v0] := by cases args; simp_all
  obtain ⟨rfl, rfl⟩ := trodVars_none hV
  obtain ⟨p0, l0, c0, rfl⟩ := okWide_slice Try.underlying81 (hval 0 81 v0 rfl rfl)
  have k0 := h0
  have lt0 : ∀ x ∈ pp0, x.block < W.heap.size := by obtain ⟨m, hm⟩ := k0; exact DataW.trod_lt m _ _ _ hm
  obtain ⟨a0, w0⟩ : ∃ a, Ops15At W (.slice p0 l0 c0) a := by
    obtain ⟨fuel, hf⟩ := h0
    obtain ⟨v, a, e, h⟩ := open_ops15 hf
    have e2 : v = .slice p0 l0 c0 := by simpa [Value.cells] using e.symm
    subst e2; exact ⟨a, h⟩
  clear hA0 hval0
  refine (forkPlays_walk W _ a0 w0).mono fun e W' ⟨he, bel⟩ => ?_
  subst he
  exact ⟨_, rfl, _, _, _, [], _, [], hW', trodAll_mk1 (shut_bool Try.underlying4 _), (trodAll_cons_mk (Below.trod laidOut (by kernel_rfl) (of_decide_eq_true (by kernel_rfl)) k0 bel lt0) trodAll_mk0), rfl, bel.frame _, fun h => by cases h⟩
theorem over : Rows.forkPlaysRow.holds Try.pinned (OpenSpec.ofChange Rows.forkPlaysSpec) :=
  OpenClaim.holds_of_wide 9 Try.f9 rfl rfl rfl rfl rfl rfl rfl ⟨rfl, rfl, rfl, rfl, rfl⟩ rfl rfl rfl rfl rfl (by kernel_rfl) Try.func9 (by kernel_rfl)
    (of_decide_eq_true (by kernel_rfl)) (by unfold Func.isWrapper; first | (rw [if_pos (by decide +kernel)]; kernel_rfl) | (rw [if_neg (by decide +kernel)]; exact ⟨rfl, rfl⟩))
    (fun os started H enc _ => lifted os started H enc)
end forkPlaysDone
theorem forkPlays_proved : Rows.ForkPlaysSaid := forkPlaysDone.over
#print axioms forkPlays_proved
end Go.Proofs.Ytadafohgglnneaa
